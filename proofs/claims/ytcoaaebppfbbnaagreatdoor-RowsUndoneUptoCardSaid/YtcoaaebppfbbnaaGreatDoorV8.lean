/- Texts of the proof,one behind the other: Tpa,Tpb,Ce. -/
import Derived.Test.YtcoaaebppfbbnaaGreatDoorV7
set_option linter.all false
open List renaming length->I,range->dy
open Option renaming some->J,none->ah
open Bool renaming true->ae,false->ai
open Decidable renaming decide->aa
open UInt8 renaming ofNat->bj
open Nat renaming zero_le->cp
open Go renaming IntKind->b'
namespace Go
theorem aep{p:Prop}(h:p:=by have:=TP k x.toNat ((k x.toNat).drop p) (dy 16) List.nodup_range;simp only[h']at hm ⊢;omega):p:=h
theorem GB{p:Prop}(h:p:=by rw[q];exact i):p:=h
end Go
namespace Go
theorem _E{p:Prop}(h:p:=by unfold iX;rw[show 16-i=(16-(i+1))+1 by omega,List.range'_succ,List.filter_cons];simp[h]):p:=h
end Go
namespace Go.Proofs.YtcoaaebppfbbnaaGreatDoor
open Go.dS
theorem z1:∀{t:T}{d:Nat},t.cz d->t.e1=ai->∃r v,aE r/\t.look r=J v
 |.no,_,_,h=>by cases h
 |.cv p v,_,h,_=>⟨p,v,h.1,by simp[T.look]⟩
 |.dr q k,d,h,_=>by
  obtain⟨r,v,h1,h2⟩:=z1 (t:=k) h.2.2.2 (by have:=h.2.2.1;cases k<;>simp_all [T.qT,T.e1])
  exact⟨q++r,v,hx.2 ⟨h.1,h1⟩,by simp only[T.look,jB,h2]⟩
 |.cY o k,d,h,_=>by
  have hm : 2<=h' o k:=h.2.2.1;by_cases an:∃i,i<16/\(k i).e1=ai
  .obtain⟨i,hi,a⟩:=an;obtain⟨r,v,h1,h2⟩:=z1 (t:=k i) (h.2.2.2 i hi) a;have aj:(bj i).toNat=i:=dh
   exact⟨bj i::r,v,hN.2 ⟨by omega,h1⟩,by simp only[T.look,aj,h2]⟩
  .have:(dy 16).countP (λi=> !(k i).e1)=0:=List.countP_eq_zero.2 λi hi=>by have:=List.mem_range.1 hi;cases a:(k i).e1 with|true=>simp|false=>exact absurd ⟨i,this,a⟩ an
   simp only[h',this]at hm;split at hm<;>omega
def kH(k:Nat->T):U Nat:=(dy 16).filter λi=> !(k i).e1
variable{i:Nat}{k:Nat->T}
theorem sP:i∈kH k↔i<16/\(k i).e1=false:=by simp[kH]
theorem atI(k:Nat->T):(kH k).Nodup:=List.nodup_range.filter _
theorem Kl(o:af ar)(k:Nat->T):h' o k=(if o.isSome then 1 else 0)+I (kH k):=by rw[h',List.countP_eq_length_filter];rfl
variable{o:af ar}
theorem adP{d:Nat}(h:(T.cY o k).cz d):(∃v x r w,o=J v/\aE (x::r)/\(T.cY o k).look (x::r)=J w)\/∃x y r s v w,x≠y/\aE (x::r)/\aE (y::s)/\(T.cY o k).look (x::r)=J v/\(T.cY o k).look (y::s)=J w:=by
 have hm : 2<=h' o k:=h.2.2.1;rw[Kl]at hm;have one:∀i,i∈kH k->∃r v,aE (bj i::r)/\(T.cY o k).look (bj i::r)=J v:=λi hi=>by
  obtain⟨hi,g⟩:=sP.1 hi;obtain⟨r,v,h1,h2⟩:=z1 (h.2.2.2 i hi) g;have aj:(bj i).toNat=i:=dh
  exact⟨r,v,hN.2 ⟨by omega,h1⟩,by simp only[T.look,aj,h2]⟩
 cases b:o with
 |some v=>cases a:kH k with|nil=>rw[b,a]at hm;simp at hm|cons i l=>obtain⟨r,w,h1,h2⟩:=one i (by rw[a];simp);rw[b]at h2;exact .inl ⟨v,_,r,w,rfl,h1,h2⟩
 |none=>
  have c:=atI k;cases a:kH k with
  |nil=>rw[b,a]at hm;simp at hm
  |cons i l=>
   cases l with
   |nil=>rw[b,a]at hm;simp at hm
   |cons j l=>
    have hi:=sP.1 (show i∈kH k by rw[a];simp);have m:=sP.1 (show j∈kH k by rw[a];simp);obtain⟨r,v,h1,h2⟩:=one i (by rw[a];simp);obtain⟨s,w,h3,h4⟩:=one j (by rw[a];simp);rw[b]at h2 h4;rw[a]at c;have f:i≠j:=λe=>by subst e;simp at c
    refine .inr ⟨_,_,r,s,v,w,λe=>f ?_,h1,h3,h2,h4⟩;have:=congrArg UInt8.toNat e;simp at this;omega
theorem MW{d:Nat}(h:(T.cY o k).cz d)(x:UInt8):¬ ∀r v,aE r->(T.cY o k).look r=J v->∃i,r=x::i:=λc=>by
 rcases adP h with ⟨v,_,_,_,j,_,_⟩|⟨a,b,r,s,v,w,f,h1,h2,h3,h4⟩
 .obtain⟨_,e⟩:=c [] v ny (by rw[j];rfl);cases e
 .obtain⟨_,g⟩:=c _ _ h1 h3;obtain⟨_,aS⟩:=c _ _ h2 h4;simp only[gZ]at g aS;exact f (g.1.trans aS.1.symm)
theorem OZ{d:Nat}(h:(T.cY o k).cz d):∃r s v w,r≠s/\aE r/\aE s/\(T.cY o k).look r=J v/\(T.cY o k).look s=J w:=by
 rcases adP h with ⟨v,x,r,w,e,h1,h2⟩|⟨a,b,r,s,v,w,c,h1,h2,h3,h4⟩
 .exact⟨[],x::r,v,w,by simp,ny,h1,by rw[e];rfl,h2⟩
 .exact⟨_,_,v,w,by simp[c],h1,h2,h3,h4⟩
variable{q:ar}
theorem aaU{k:T}{d:Nat}(h:(T.dr q k).cz d):∃r s v w,r≠s/\aE r/\aE s/\(T.dr q k).look r=J v/\(T.dr q k).look s=J w:=by cases k with|cY o k=>obtain⟨r,s,v,w,h1,h2,h3,h4,h5⟩:=OZ h.2.2.2;exact⟨q++r,q++s,v,w,by simpa using h1,hx.2 ⟨h.1,h2⟩,hx.2 ⟨h.1,h3⟩,by simp only[T.look,jB]at h4 ⊢;exact h4,by simp only[T.look,jB]at h5 ⊢;exact h5⟩|_=>exact absurd h.2.2.1 (by simp[T.qT])
variable{r:ar}{w:ar}
theorem pj{p v:ar}(h:(T.cv p v).look r=J w):r=p:=by
 simp only[T.look]at h;split at h
 .rename_i e;exact e.symm
 .cases h
theorem rQ{k:T}{v:ar}(h:(T.dr q k).look r=J v):∃s,r=q++s/\k.look s=J v:=by simp only[T.look]at h;cases a:dw q r with|none=>rw[a]at h;cases h|some s=>rw[a]at h;exact⟨s,iL.1 a,h⟩
theorem auB{a:ar}{k b:T}{d:Nat}(h:(T.dr q k).cz d)(i:(T.dr a b).cz d)(f:∀r,aE r->(T.dr q k).look r=(T.dr a b).look r):q=a:=by
 have main:∀{q a:ar}{k b:T}{d:Nat},(T.dr q k).cz d->(T.dr a b).cz d->(∀r,aE r->(T.dr q k).look r=(T.dr a b).look r)->∀s,a = q++s->s=[]:=by
  intro q a k b d h i f s j;cases s with
  |nil=>rfl
  |cons x s=>
   exfalso;cases k with
   |cY o k=>
    refine MW h.2.2.2 x λr v g c=>?_;have h1:(T.dr q (.cY o k)).look (q++r)=J v:=by simp only[T.look,jB]at c ⊢;exact c
    rw[f _ (hx.2 ⟨h.1,g⟩)]at h1;obtain⟨u,e,_⟩:=rQ h1;rw[j,fI,List.append_right_inj]at e;exact⟨_,e⟩
   |_=>exact absurd h.2.2.1 (by simp[T.qT])
 obtain⟨r,v,g,c⟩:=z1 h rfl;obtain⟨u,l,_⟩:=rQ c;rw[f r g]at c;obtain⟨m,aS,_⟩:=rQ c;rw[l]at aS;rcases List.append_eq_append_iff.1 aS with ⟨s,h1,_⟩|⟨s,h1,_⟩
 .have:=main h i f s h1;rw[h1,this,List.append_nil]
 .have:=main i h (λr g=>(f r g).symm) s h1;rw[h1,this,List.append_nil]
theorem Ph:∀(t t':T) (d:Nat),t.cz d->t'.cz d->(∀r,aE r->t.look r=t'.look r)->t.node=t'.node
 |.no,t',d,_,jv,he=>by cases n:t'.e1 with|true=>cases t'<;>simp_all [T.e1]|false=>obtain⟨r,v,a,f⟩:=z1 jv n;rw[<-he r a]at f;cases f
 |.cv p v,t',d,h,jv,he=>by have h1:=he p h.1;rw[show(T.cv p v).look p=J v by simp[T.look]]at h1;cases t' with|no=>cases h1|cv l m=>have e:=pj h1.symm;subst e;simp only[T.look,if_true,c4]at h1;rw[h1]|dr q k=>obtain⟨r,s,v1,w1,b,a,g,c,aS⟩:=aaU jv;rw[<-he r a]at c;rw[<-he s g]at aS;exact absurd ((pj c).trans (pj aS).symm) b|cY o k=>obtain⟨r,s,v1,w1,b,a,g,c,aS⟩:=OZ jv;rw[<-he r a]at c;rw[<-he s g]at aS;exact absurd ((pj c).trans (pj aS).symm) b
 |.dr q k,t',d,h,jv,he=>by
  obtain⟨r,s,v1,w1,b,a,g,c,aS⟩:=aaU h;cases t' with
  |no=>rw[he r a]at c;cases c
  |cv l m=>rw[he r a]at c;rw[he s g]at aS;exact absurd ((pj c).trans (pj aS).symm) b
  |dr z j=>
   have e:=auB h jv he;subst e;have:=Ph k j (d+I q) h.2.2.2 jv.2.2.2 λr a=>by have:=he (q++r) (hx.2 ⟨h.1,a⟩);simpa only[T.look,jB]using this
   simp only[T.node,this]
  |cY o j=>exfalso;cases q with|nil=>exact h.2.1 rfl|cons x q=>refine MW jv x λr v a f=>?_;rw[<-he r a]at f;obtain⟨u,e,_⟩:=rQ f;exact⟨_,e⟩
 |.cY o k,t',d,h,jv,he=>by
  obtain⟨r,s,v1,w1,b,a,g,c,aS⟩:=OZ h;cases t' with
  |no=>rw[he r a]at c;cases c
  |cv l m=>rw[he r a]at c;rw[he s g]at aS;exact absurd ((pj c).trans (pj aS).symm) b
  |dr q j=>exfalso;cases q with|nil=>exact jv.2.1 rfl|cons x q=>refine MW h x λr v a f=>?_;rw[he r a]at f;obtain⟨u,e,_⟩:=rQ f;exact⟨_,e⟩
  |cY o' j=>
   have w:o=o':=he [] ny;subst w;have y:∀i,i<16->(k i).node=(j i).node:=λi hi=>by
    have aj:(bj i).toNat=i:=dh
    exact Ph (k i) (j i) (d+1) (h.2.2.2 i hi) (jv.2.2.2 i hi) λr a=>by have:=he (bj i::r) (hN.2 ⟨by omega,a⟩);simpa only[T.look,aj]using this
   have:(dy 16).map (λi=>(k i).node)=(dy 16).map λi=>(j i).node:=List.map_congr_left λi hi=>y i (List.mem_range.1 hi);simp only[T.node,this]
def nG(p:ar):T->T|.no=>.no|.cv q v=>.cv (p++q) v|.dr q k=>.dr (p++q) k|.cY o k=>mm p (.cY o k)
theorem Ys:∀(p q r:ar),dw (p++q) r=match dw p r with|some a=>dw q a|none=>ah
 |[],q,r=>rfl
 |x::p,q,[]=>rfl
 |x::p,q,y::r=>by
  simp only[gY,dw];split
  .exact Ys p q r
  .rfl
theorem RP(p:ar)(t:T)(r:ar):(nG p t).look r=match dw p r with
  |some b=>t.look b
  |none=>none:=by
 cases t with
 |no=>cases dw p r<;>rfl
 |cv q v=>
  cases a:dw p r with
  |none=>
   have:¬p++q=r:=λe=>by rw[<-e,jB]at a;cases a
   simp[nG,T.look,this]
  |some s=>have e:=iL.1 a;subst e;simp[nG,T.look]
 |dr q k=>simp only[nG,T.look,Ys];cases dw p r<;>rfl
 |cY o k=>exact xr p _ r
theorem alX(p:ar)(t:T):(nG p t).e1=t.e1:=by cases t with|cY o k=>cases p<;>rfl|_=>rfl
variable{t:T}
theorem ZJ{p:ar}{d:Nat}(a:aE p)(h:t.cz (d+I p)):(nG p t).cz d:=by
 cases t with
 |no=>have:=cz.le h;exact(by omega:d<=400)
 |cv q v=>
  refine⟨hx.2 ⟨a,h.1⟩,?_,?_,h.2.2.2⟩
  .have:=h.2.1;simp only[dc];omega
  .have:=h.2.2.1;simp only[dc];rw[<-Nat.add_assoc];exact this
 |dr q k=>
  refine⟨hx.2 ⟨a,h.1⟩,?_,h.2.2.1,?_⟩
  .intro e;exact h.2.1 (List.append_eq_nil_iff.1 e).2
  .simp only[dc];rw[<-Nat.add_assoc];exact h.2.2.2
 |cY o k=>exact(BR a rfl h).1
def oM(o:af ar)(k:Nat->T):T:=match kH k with|[]=>.cv [] (o.getD [])|[i]=>if o.isSome then .cY o k else nG [bj i] (k i)|_=>.cY o k
namespace T
def drop:T->ar->T
 |.no,_=>.no
 |.cv _ _,_=>.no
 |.dr q k,p=>match dw q p with|some r=>nG q (k.drop r)|none=>.dr q k
 |.cY _ k,[]=>oM ah k
 |.cY o k,x::p=>oM o (jg k x.toNat ((k x.toNat).drop p))
end T
theorem aqN(h:t.e1=ae)(r:ar):t.look r=none:=by cases t<;>simp_all [T.e1,T.look]
theorem W0(h1 : 1<=h' o k)(r:ar)(c:aE r):(oM o k).look r=(T.cY o k).look r:=by
 rw[Kl]at h1;have a:∀i,i<16->i∉kH k->∀s,(k i).look s=none:=λi hi f s=>by cases h:(k i).e1 with|true=>exact aqN h s|false=>exact absurd (sP.2 ⟨hi,h⟩) f
 unfold oM;split
 .rename_i b;rw[b]at h1 a;cases o with
  |none=>simp at h1
  |some v=>cases r with|nil=>simp[T.look]|cons x r=>simp only[T.look,a _ (hN.1 c).1 (by simp)];simp
 .rename_i i b;split
  .rfl
  .rename_i d;rw[b]at a;have hi:=(sP.1 (show i∈kH k by rw[b];simp)).1;have aj:(bj i).toNat=i:=dh
   have d:o=none:=by cases o<;>simp_all
   rw[RP,d];cases r with
   |nil=>rfl
   |cons x r=>
    simp only[dw,T.look];by_cases e:bj i=x
    .subst e;simp only[if_true,aj]
    .have:x.toNat≠i:=λq=>e (UInt8.toNat_inj.1 (by rw[aj,q]));simp only[e,if_false,a _ (hN.1 c).1 (by simpa using this)]
 .rfl
theorem abf{d:Nat}(h:Fv o k d)(h1 : 1<=h' o k):(oM o k).cz d/\(oM o k).e1=false:=by
 have hm:=Kl o k;rw[hm]at h1;unfold oM;split
 .rename_i a;rw[a]at h1;cases o with|none=>simp at h1|some v=>have:=h.2.1 v rfl;have h3:=h.1;exact⟨⟨ny,by simp only[hn];omega,by simpa using this.1,by simpa using this.2⟩,rfl⟩
 .rename_i i a;split
  .rename_i b;rw[a,b]at hm;exact⟨⟨h.1,h.2.1,by rw[hm];simp,h.2.2⟩,rfl⟩
  .have hi:=sP.1 (show i∈kH k by rw[a];simp);have aj:(bj i).toNat=i:=dh
   exact⟨ZJ (hN.2 ⟨by omega,ny⟩) (h.2.2 i hi.1),by rw[alX];exact hi.2⟩
 .rename_i h2 h3;refine⟨⟨h.1,h.2.1,?_,h.2.2⟩,rfl⟩;rw[hm];cases a:kH k with
  |nil=>exact absurd a h2
  |cons i l=>cases l with|nil=>exact absurd a (h3 i)|cons j l=>simp only[dm];omega
theorem TP(k:Nat->T)(j:Nat)(t:T):∀l:U Nat,l.Nodup->l.countP (λi=> !(k i).e1)<=l.countP (λi=> !(jg k j t i).e1)+1
 |[],_=>by simp
 |i::l,a=>by
  have a:=List.nodup_cons.1 a;simp only[List.countP_cons];by_cases e:i=j
  .subst e;have:l.countP (λb=> !(jg k i t b).e1)=l.countP (λi=> !(k i).e1):=List.countP_congr λx c=>by have:x≠i:=λe=>a.1 (e▸c);rw[mR this]
   rw[this];split<;>split<;>omega
  .have:=TP k j t l a.2;rw[mR e];omega
theorem z2:∀{t:T}{p v:ar}{d:Nat},t.cz d->t.look p=J v->aE p->(t.drop p).cz d/\(t.qT=ae->(t.drop p).e1=ai)
 |.no,_,_,_,_,h,_=>by cases h
 |.cv q u,p,v,d,h,_,_=>⟨by have:=h.2.1;exact(by omega:d<=400),λe=>by cases e⟩
 |.dr q k,p,v,d,h,bB,bn=>by obtain⟨r,e,b⟩:=rQ bB;subst e;obtain⟨h1,_⟩:=z2 h.2.2.2 b (hx.1 bn).2;simp only[T.drop,jB];exact⟨ZJ h.1 h1,λe=>by cases e⟩
 |.cY o k,[],v,d,h,bB,bn=>by
  have c:o=J v:=bB;have hm : 2<=h' o k:=h.2.2.1;obtain⟨h1,h2⟩:=abf (o:=ah) (k:=k) (d:=d) ⟨h.1,(λ_ e=>by cases e),h.2.2.2⟩ (by simp only[h',c]at hm ⊢;simp only[Option.isSome_some,if_true,Option.isSome_none]at hm ⊢;omega)
  exact⟨h1,λ_=>h2⟩
 |.cY o k,x::p,v,d,h,bB,bn=>by
  have a:=hN.1 bn;have hm : 2<=h' o k:=h.2.2.1;obtain⟨h3,_⟩:=z2 (h.2.2.2 _ a.1) (show(k x.toNat).look p=J v from bB) a.2;obtain⟨h1,h2⟩:=abf (o:=o) (k:=jg k x.toNat ((k x.toNat).drop p)) (d:=d) ⟨h.1,h.2.1,vK h.2.2.2 h3⟩ aep
  exact⟨h1,λ_=>h2⟩
theorem LK:∀{t:T}{p v:ar}{d:Nat},t.cz d->t.look p=J v->aE p->∀r,aE r->(t.drop p).look r=if r=p then ah else t.look r
 |.no,_,_,_,_,h,_,_,_=>by cases h
 |.cv q u,p,v,d,h,bB,_,r,_=>by
  have e:=pj bB;subst e;simp only[T.drop,T.look];by_cases e:r=p
  .simp[e]
  .simp[e,Ne.symm e]
 |.dr q k,p,v,d,h,bB,bn,r,ay=>by
  obtain⟨s,e,b⟩:=rQ bB;subst e;simp only[T.drop,jB,RP];cases h1:dw q r with
  |none=>
   have:¬r=q++s:=λe=>by rw[e,jB]at h1;cases h1
   simp only[this,if_false,T.look,h1]
  |some c=>have e:=iL.1 h1;subst e;have:=LK h.2.2.2 b (hx.1 bn).2 c (hx.1 ay).2;simp only[this,T.look,jB,List.append_right_inj]
 |.cY o k,[],v,d,h,bB,bn,r,ay=>by
  have f:o=J v:=bB;have hm : 2<=h' o k:=h.2.2.1;have h1 : 1<=h' ah k:=by simp only[h',f]at hm ⊢;simp only[Option.isSome_some,if_true,Option.isSome_none]at hm ⊢;omega
  simp only[T.drop];rw[W0 h1 r ay];cases r with|nil=>simp[T.look]|cons x r=>simp[T.look]
 |.cY o k,x::p,v,d,h,bB,bn,r,ay=>by
  have a:=hN.1 bn;have hm : 2<=h' o k:=h.2.2.1;have h1 : 1<=h' o (jg k x.toNat ((k x.toNat).drop p)):=aep
  simp only[T.drop];rw[W0 h1 r ay];cases r with
  |nil=>simp[T.look]
  |cons y r=>
   have g:=hN.1 ay;simp only[T.look];by_cases e:y=x
   .subst e;have:=LK (h.2.2.2 _ a.1) (show(k y.toNat).look p=J v from bB) a.2 r g.2;rw[mj,this];simp
   .rw[mR (qs e)];simp[e]
theorem acN{p:ar}{d:Nat}(b:I p<=500)(h:t.cz d):tw p t.node=J (nG p t).node:=by have a:=(EJ h).2;cases t with|no=>rfl|cv q v=>simp only[T.node,ki]at a;have e:lF [p,q]=J (p++q):=rR ag ag;simp only[tw,Bm,T.node,iq,ki,nf,mD,g9,wN,decide_true,a8,e,bZ,nG]|dr q k=>simp only[T.node,ki]at a;have e:lF [p,q]=J (p++q):=rR ag ag;simp only[tw,Bm,T.node,iq,ki,nf,mD,g9,wN,show ¬((2:Int)=1) by omega,decide_true,decide_false,a_,a8,e,bZ,nG]|cY o k=>have e:=tS (p:=p) (t:=T.cY o k) ag;simp only[tw,Bm,show(T.cY o k).node.kind=3 from rfl,show ¬((3:Int)=1) by omega,show ¬((3:Int)=2) by omega,show ¬((3:Int)=0) by omega,decide_false,a_,e,bZ,nG]
def iX(k:Nat->T)(i:Nat):U Nat:=(List.range' i (16-i)).filter λj=> !(k j).e1
theorem OF(k:Nat->T):iX k 16=[]:=rfl
theorem FM(hi:i<16)(h:(k i).e1=ae):iX k i=iX k (i+1):=_E
theorem OT(hi:i<16)(h:(k i).e1=ai):iX k i=i::iX k (i+1):=_E
theorem Ot(k:Nat->T):iX k 0=kH k:=by unfold iX kH;rw[List.range_eq_range']
section
variable {R:Type}{kx:bf->xV->af R}{k:Nat->T}{w:ar}{n z:bs}
theorem Eu(b:xV->af R)(hi:i<16)(a:Int):ob b kx (w,(),a,db k,16,(i:Int),n,z)=cond (k i).e1 (b (w,(),a,db k,16,((i+1:Nat):Int),n,z)) (cond (aa (0<=a)) (kx .ret (w,(),a,db k,16,(i:Int),n,n)) (cond n.has (kx .ret (w,(),a,db k,16,(i:Int),n,n)) (b (w,(),(i:Int),db k,16,((i+1:Nat):Int),n,z)))):=by
 have d:i<I (db k):=by rw[hf];exact hi
 have c1:aa ((i:Int)<16)=true:=aY ag;simp only[ob,c1,a8,bY d,ax,cb (c:=.node) d,o4,Jo,cV hi (show b5 16 by simp[b5])]
theorem auU(b:xV->af R)(a:Int):ob b kx (w,(),a,db k,16,((16:Nat):Int),n,z)=kx (.exit 0) (w,(),a,db k,16,16,n,z):=by have c1:aa (((16:Nat):Int)<16)=false:=rfl;simp only[ob,c1,a_];rfl
theorem JJ(a:Int):∀(f i:Nat),i<=16->16-i<f->iX k i=[]->aT (λc=>ob c kx) f (w,(),a,db k,16,(i:Int),n,z)=kx (.exit 0) (w,(),a,db k,16,16,n,z)
 |0,_,_,h,_=>by omega
 |f+1,i,hi,bO,h=>by
  rw[cQ];by_cases b:i<16
  .rw[Eu _ b];cases d:(k i).e1 with|true=>rw[FM b d]at h;exact JJ a f (i+1) ag ag h|false=>rw[OT b d]at h;cases h
  .have e:i=16:=ag
   subst e;exact auU _ a
theorem EU(a:Int)(c : 0<=a\/n.has=ae):∀(f i:Nat),i<=16->16-i<f->iX k i≠[]->∃b:Int,aT (λg=>ob g kx) f (w,(),a,db k,16,(i:Int),n,z)=kx .ret (w,(),a,db k,16,b,n,n)
 |0,_,_,h,_=>by omega
 |f+1,i,hi,bO,h=>by
  rw[cQ];by_cases d:i<16
  .rw[Eu _ d];cases j:(k i).e1 with
   |true=>rw[FM d j]at h;exact EU a c f (i+1) ag ag h
   |false=>
    refine⟨(i:Int),?_⟩;simp only[a_];rcases c with c|c
    .simp only[c,decide_true,a8]
    .cases aa (0<=a)<;>simp only[a8,a_,c]
  .have e:i=16:=ag
   subst e;exact absurd (OF k) h
theorem adq(d:n.has=ai){j:Nat}:∀(f i:Nat),i<=16->16-i<f->iX k i=[j]->aT (λb=>ob b kx) f (w,(), -1,db k,16,(i:Int),n,z)=kx (.exit 0) (w,(),(j:Int),db k,16,16,n,z)
 |0,_,_,h,_=>by omega
 |f+1,i,hi,bO,h=>by
  rw[cQ];by_cases a:i<16
  .rw[Eu _ a];cases g:(k i).e1 with|true=>rw[FM a g]at h;exact adq d f (i+1) ag ag h|false=>rw[OT a g]at h;simp only[gZ]at h;obtain⟨rfl,h⟩:=h;have c:aa ((0:Int) <= -1)=false:=rfl;simp only[a_,c,d];exact JJ (i:Int) f (i+1) ag ag h
  .have e:i=16:=ag
   subst e;rw[OF]at h;cases h
theorem ZM(m:n.has=ai){j p:Nat}{l:U Nat}:∀(f i:Nat),i<=16->16-i<f->iX k i=j::p::l->∃a b:Int,aT (λg=>ob g kx) f (w,(), -1,db k,16,(i:Int),n,z)=kx .ret (w,(),a,db k,16,b,n,n)
 |0,_,_,h,_=>by omega
 |f+1,i,hi,bO,h=>by
  rw[cQ];by_cases d:i<16
  .rw[Eu _ d];cases o:(k i).e1 with|true=>rw[FM d o]at h;exact ZM m f (i+1) ag ag h|false=>rw[OT d o]at h;simp only[gZ]at h;obtain⟨rfl,h⟩:=h;have c:aa ((0:Int) <= -1)=false:=rfl;simp only[a_,c,m];obtain⟨b,e⟩:=EU (kx:=kx) (w:=w) (n:=n) (z:=z) (i:Int) (.inl ag) f (i+1) ag ag (by rw[h];simp);exact⟨_,b,e⟩
  .have e:i=16:=ag
   subst e;rw[OF]at h;cases h
end
theorem avo{d:Nat}(h:Fv o k d)(f:Nat)(bO : 16<f):H0 f ((T.cY o k).node,w)=J ((oM o k).node,()):=by
 have x:((T.cY o k).node).kids=db k:=rfl;have q:((T.cY o k).node).has=o.isSome:=rfl;have aE:((T.cY o k).node).val=o.getD []:=rfl;have r:I (o.getD [])<=2000000:=by cases o with|none=>simp|some v=>have:=(h.2.1 v rfl).2;simp only[Option.getD_some];omega
 have s:(I (db k):Int)=16:=by rw[hf];rfl
 simp only[H0,x,s];unfold oM;split
 .rename_i g;rw[<-Ot]at g;refine(JJ (-1) f 0 (cp _) ag g).trans ?_;simp only[show((-1:Int)<0) by omega,decide_true,a8,aE,x2 (show I ([]:ar)<=2000000 by simp) r,bZ]
 .rename_i j g;have y:=(sP.1 (show j∈kH k by rw[g];simp)).1;rw[<-Ot]at g;split
  .rename_i i;obtain⟨b,e⟩:=EU (kx:=_) (w:=w) (z:=bs.mk 0 [] ai [] [] []) (n:=(T.cY o k).node) (-1) (.inr GB) f 0 (cp _) ag (by rw[g];simp);exact e.trans rfl
  .rename_i i;have i:o.isSome=false:=Gz
   refine(adq GB f 0 (cp _) ag g).trans ?_;have m:j<I (db k):=by rw[hf];exact y
   have c1:¬(j:Int)<0:=ag
   have j5:aa ((k j).node.kind=4)=false:=by cases k j<;>rfl
   have u:bj ((wr .u8 (j:Int)):Int).toNat=bj j:=by
    have:wr .u8 (j:Int)=((j % 256:Nat):Int):=tx
    rw[this,Int.toNat_natCast,Nat.mod_eq_of_lt ag]
   have aj:=acN (p:=[bj j]) (t:=k j) (by simp) (h.2.2 j y);simp only[c1,decide_false,a_,x,bY m,ax,a8,cb (c:=.node) m,o4,j5,u,aj,bZ]
 .rename_i h1 h2;cases g:kH k with
  |nil=>exact absurd g h1
  |cons j l=>
   cases l with
   |nil=>exact absurd g (h2 j)
   |cons azi l=>rw[<-Ot]at g;cases i:o.isSome with|true=>obtain⟨b,e⟩:=EU (kx:=_) (w:=w) (z:=bs.mk 0 [] ai [] [] []) (n:=(T.cY o k).node) (-1) (.inr GB) f 0 (cp _) ag (by rw[g];simp);exact e.trans rfl|false=>obtain⟨a,b,e⟩:=ZM (kx:=_) (w:=w) (z:=bs.mk 0 [] ai [] [] []) (n:=(T.cY o k).node) GB f 0 (cp _) ag g;exact e.trans rfl
theorem aaM{d:Nat}(h:Fv o k d):AL (T.cY o k).node w=J ((oM o k).node,()):=avo h 100 ag
theorem Kn:∀(f:Nat) (t:T) (d:Nat) (p v w:ar),t.cz d->t.look p=J v->aE p->I w=d->d+I p<=400->401<=f+d->aT xq f (t.node,p,w)=J ((t.drop p).node,())
 |0,t,d,p,v,w,h,_,_,_,_,bO=>by have:=cz.le h;omega
 |f+1,t,d,p,v,w,h,a,bn,hw,ao,bO=>by
  rw[cQ];cases t with
  |no=>cases a
  |cv q u=>simp only[xq,show((T.cv q u).node).kind=1 from rfl,decide_true,a8,T.drop];rfl
  |dr q k=>
   obtain⟨r,e,ay⟩:=rQ a;subst e;have h4:=cz.le h.2.2.2;have k0:at' .node [k.node] 0=k.node:=rfl;have dN:aU 0 (I [k.node])=true:=rfl;have j:=hx.1 bn;simp only[dc]at ao;have s:=Kn f k (d+I q) r v (w++q) h.2.2.2 ay j.2 dh ag (by have:I q≠0:=λe=>h.2.1 (List.length_eq_zero_iff.1 e);omega)
   have aj:=acN (p:=q) (t:=k.drop r) ag (z2 h.2.2.2 ay j.2).1;simp only[xq,show((T.dr q k).node).kind=2 from rfl,show((T.dr q k).node).path=q from rfl,show((T.dr q k).node).kids=[k.node] from rfl,show ¬((2:Int)=1) by omega,decide_false,decide_true,a_,a8,T.drop,jB,k0,dN,ax,uU,rR (show I w<=500000 by omega) (show I q<=500000 by omega),bZ,uq,s,aj]
  |cY o k=>
   have hm : 2<=h' o k:=h.2.2.1;have y:I (db k)<=2000000:=by rw[hf];omega
   have z:List.isEmpty (db k)=false:=rfl;have l:∀b:Nat->T,cut (db b) 0 (0+(I (db k):Int))=db b:=λb=>by rw[hf];exact sX b
   have m:(0:Int)<=(I (db k):Int):=by rw[hf];decide
   have n:∀b:Nat->T,(0+(I (db k):Int))<=(I (db b):Int):=λb=>by rw[hf,hf];decide
   simp only[xq,n6,iq,ki,nf,mD,g9,wN,show ¬((3:Int)=1) by omega,show ¬((3:Int)=2) by omega,decide_false,decide_true,a_,y,ax,a8,z];cases p with
   |nil=>have i:=aaM (o:=ah) (k:=k) (d:=d) (w:=w) ⟨h.1,(λ_ e=>by cases e),h.2.2.2⟩;rw[n6]at i;simp only[Option.isSome_none,Option.getD_none]at i;simp only[wg,decide_true,a8,l,m,n,qc,Bool.and_self,i,bZ,T.drop]
   |cons x p=>
    have g:=hN.1 bn;simp only[dm]at ao;have a:(k x.toNat).look p=J v:=a;have s:=Kn f (k x.toNat) (d+1) p v (w++[x]) (h.2.2.2 _ g.1) a g.2 dh ag ag;have bK:iJ (x.toNat:Int) (I (db k):Int)=true:=by rw[hf];exact pW g.1
    have aJ:at' .node (db k) (0+(x.toNat:Int))=(k x.toNat).node:=by
     have aZ:x.toNat<I (db k):=by rw[hf];exact g.1
     rw[Int.zero_add,cb (c:=.node) aZ,o4]
    have i:=aaM (o:=o) (k:=jg k x.toNat ((k x.toNat).drop p)) (d:=d) (w:=w) ⟨h.1,h.2.1,vK h.2.2.2 (z2 (h.2.2.2 _ g.1) a g.2).1⟩;rw[n6]at i;simp only[wX,decide_false,a_,vt,a8,vw,bK,pS g.1,wz,ZD,ZV,vu,rR (show I w<=500000 by omega) (show I [x]<=500000 by simp),bZ,aJ,s,tu,t_,l,m,n,qc,decide_true,Bool.and_self,i,T.drop]
def T.less(t:T)(k:ar):T:=if(t.look (c6 k)).isSome then t.drop (c6 k)else t
theorem auI{k:ar}(h:t.cz 0)(a:I k<=200):FL t.node k=J ((t.less k).node,(t.look (c6 k)).isSome,(),0):=by have b:=nv k;simp only[FL,Lf,aaJ h a,bZ,decide_true,dj,a_,LA h,Av (show I k<=1900 by omega),T.less];cases e:t.look (c6 k)with|none=>simp only[Option.isSome_none,jd,a8,mW,if_false]|some v=>have h1:NP t.node (c6 k) []=J ((t.drop (c6 k)).node,()):=Kn 500 t 0 (c6 k) v [] h e (pe k) rfl ag ag;simp only[Option.isSome_some,dj,a_,h1,bZ,if_true]
def Rc(R:Type):U (Nat×iD R):=[(38,bg zR),(69,bg mL),(151,bg qx),(157,sc .node),(199,p0 .byte),(113,p0 .val),(70,p0 .kv),(124,bg Ej)]
variable{R:Type}{ab:cB}
theorem ads(H:nw ab):∀g f,(g,f)∈Rc R->hk ab g f:=(c1 H (M5) (c1 H (ns) (c1 H (rO) (dY (B_ H Qf PU) (dY (vA H Vz) (dY (vA H Vn) (dY (vA H Zj) (c1 H (Zi) bm))))))))
def ayN(R:Type)(g:Nat):af (iD R):=tbl (Rc R) g
def Re(R:Type):U (Nat×kf R):=[(69,fa mL),(151,fa qx)]
theorem adj(H:nw ab):∀g f,(g,f)∈Re R->mV ab g f:=(bd H (ns) (bd H (rO) bo))
def ayP(R:Type)(g:Nat):af (kf R):=tbl (Re R) g
def af5:U (Nat×(bt×bt)):=[(32,(⟨2,[(1,.sl .byte ai)],[(0,.ptr 0 0)],[(0,.cells [aq,aC,.bool,aC,.sl .node ai,aC,.sl .stt ae,aC])],1,1,0,[],[]⟩,⟨3,[(0,.sl .byte ai),(1,.bool),(2,.int .i64)],[],[(0,.cells [aq,aC,.bool,aC,.sl .node ai,aC,.sl .stt ae,aC])],1,1,0,[],[]⟩)),(13,(⟨3,[(1,.aI .tbl),(2,.sl .val ai)],[(0,.ptr 0 0)],[(0,.cells [aq,aC,.bool,aC,.sl .node ai,aC,.sl .stt ae,aC])],1,1,0,[],[]⟩,⟨1,[(0,.int .i64)],[],[(0,.cells [aq,aC,.bool,aC,.sl .node ai,aC,.sl .stt ae,aC])],1,1,0,[],[]⟩)),(18,(⟨4,[(1,.aI .tbl),(2,.str),(3,.aI .val)],[(0,.ptr 0 0)],[(0,.cells [aq,aC,.bool,aC,.sl .node ai,aC,.sl .stt ae,aC])],1,1,0,[],[]⟩,⟨2,[(0,.sl .ep ai),(1,.int .i64)],[],[(0,.cells [aq,aC,.bool,aC,.sl .node ai,aC,.sl .stt ae,aC])],1,1,0,[],[]⟩)),(21,(⟨3,[(1,.aI .tbl),(2,.sl .val ai)],[(0,.ptr 0 0)],[(0,.cells [aq,aC,.bool,aC,.sl .node ai,aC,.sl .stt ae,aC])],1,1,0,[],[]⟩,⟨3,[(0,.sl .val ai),(1,.bool),(2,.int .i64)],[],[(0,.cells [aq,aC,.bool,aC,.sl .node ai,aC,.sl .stt ae,aC])],1,1,0,[],[]⟩)),(59,(⟨3,[(1,.sl .byte ai),(2,.sl .ep ai)],[(0,.ptr 0 0)],[(0,.cells [.sl .kv ae,aq])],1,1,0,[],[]⟩,⟨0,[],[],[(0,.cells [.sl .kv ae,aq])],1,1,0,[],[]⟩))]
def af6(g:Nat):af (bt×bt):=tbl af5 g
def afm:U Nat:=[8,9,12,13,16,18,21,24,25,26,29,30,31,32,33,34,35,36,37,39,41,45,46,47,48,52,53,54,55,56,57,58,59,68,71,72,73,74,75,76,77,80,81,82,86,87,88,89,90,91,92,93,94,95,96,105,106,107,108,109,110,111,112,114,115,116,117,123,125,129,130,131,132,133,134,135,136,137,138,139,140,149,150,152,153,154,155,156,158,159,160,161,162,168,176,177,178,179,180,181,182,183,184,185,186,187,188,189,190,191,192,198,200,201,202,203,204,205,206,211,212,213,214,215,216,217,218,219,220,221,222,223,224,225,227,228,229,230,231,232,233,238,239,240,241,251,252,253,254,255,256,257,258,259,260,261,262,263,264,265,266,267,268,272,277,278]
noncomputable def FU(g:Nat):af Func:=match afm.contains g with|true=>Tryz.prog.funcs.toList[g]?|false=>ah
theorem avn:(afm.all λg=>match Tryz.prog.funcs.toList[g]? with
  |some fn=> !(fn.name == "runtime.NumGoroutine")&&match fn.body with|some c=>fe fn.ntmps c|none=>ai
  |none=>ae)=true:=b0
theorem RH:rq Tryz.prog FU:=by
 intro g fn h;unfold FU at h;split at h
 .rename_i an;have h1:=cX.1 avn g xe;rw[h]at h1;simp only[bx,Bool.not_eq_true']at h1;refine⟨by simpa using h,h1.1,?_⟩;cases aj:fn.body with|none=>rw[aj]at h1;simp at h1|some c=>rw[aj]at h1;exact⟨c,rfl,h1.2⟩
 .cases h
noncomputable def re(R:Type):aM R:=co (nV q2) mw FU ayN ayP af6 3000 R
theorem qd(a:ab.P=Tryz.prog)(aS:ab.el=gP)(b:ab.bM=mw):nw ab:=⟨a,aS,b,ta sU,follows⟩
theorem adh:(af5.all λq=>qV q.2.1 q.2.2)=true:=b0
theorem alz(R:Type)(ab:cB)(a:ab.P=Tryz.prog)(aS:ab.el=gP)(b:ab.bM=mw):oc ab (re R):=zl follows (ta sU) RH (λR ab a aS b g f h=>ads (qd a aS b) g f (ke h)) (λR ab a aS b g f h=>adj (qd a aS b) g f (ke h)) (λg q h=>cX.1 adh (g,q) (ke h)) 3000 R ab a aS b
end Go.Proofs.YtcoaaebppfbbnaaGreatDoor
