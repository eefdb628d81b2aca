/- Texts of the proof,one behind the other: Qh,Qi,Qj,Qk,Ql,Qm,Qn,Qo,Qp,Qq,Qr,Qs,Qt,Qu,Qv,Qw,Ge,Gf,Gg,Gh,Rw,Rx,Si,Sk,Fk,Fd,Sc,No. -/
import Derived.Test.YtdelkmpkjibigaaGreatDoorZ6
set_option linter.all false
open List renaming length->I,eq_nil_of_length_eq_zero->k0,mem_of_getElem?->lW,getElem_mem->hf,getElem?_take->h5,getElem?_drop->kr,length_take->jL
open Option renaming some->J,none->aj
open Bool renaming true->ab,false->ai,true_and->jo,cond_decide->mq
open Decidable renaming decide->aa
open Nat renaming blt->eU,zero_le->cL,zero_add->h6
open Go.IntKind renaming u8->n'
open UInt8 renaming ofNat->eh
open Go.Sem renaming run_bind->e3,run_pure->ga
open Go.Result renaming andThen_ok->gr
open Go.World renaming cell?->h7
open Go renaming Value->aD,Operand->cO,Oper->bx,World->aT,TypeId->bD,maxLen->dr,Program->cP,execOp->cE,run_underlying->dO
open Int renaming tmod->gZ
namespace Go
theorem KF{p:Prop}(h:p:=by simp only[bY,dB];omega):p:=h
theorem S8{p:Prop}(h:p:=by simp only[e7,eo,dB];omega):p:=h
theorem aki{p:Prop}(h:p:=by have:=UInt8.lt_iff_toNat_lt.1 d;omega):p:=h
theorem Tb{p:Prop}(h:p:=by simp only[dr];omega):p:=h
theorem KT{p:Prop}(h:p:=by rw[iW];rfl):p:=h
end Go
namespace Go
theorem G2{p:Prop}(h:p:=by exact aDl (amE (by assumption)) rfl):p:=h
theorem RJ{p:Prop}(h:p:=by exact dQ.dd ⟨_,rfl,rfl,rfl,rfl⟩):p:=h
theorem adl{p:Prop}(h:p:=by exact YJ e f a k (i+1) q _ af af af):p:=h
theorem adt{p:Prop}(h:p:=by rw[if_neg bI,if_neg af,if_neg af,if_neg bI]):p:=h
theorem adw{p:Prop}(h:p:=by have:=akK d f g a k m acc l i j o p;rw[h]at this;exact this):p:=h
theorem ai8{p:Prop}(h:p:=by rw[aE,show Nat.min 1 _=1 from Nat.min_eq_left af]):p:=h
theorem ai9{p:Prop}(h:p:=by have:=akI d f g a k m acc l i j o p;rw[h]at this;exact this):p:=h
end Go
namespace Go.Proofs.YtdelkmpkjibigaaGreatDoor
open Go.ft
def Out{α eB:Type}(g : α->aA->eB)(E:Int->eB->Prop)(n:Int)(x:ae eB)(y:bR α):Prop:=match y with|.ok (r,l)=>x=J (g r l)|.error q=>∃z,x=J z/\E (hA n q) z
def dQ{eB:Type}(E:Int->eB->Prop)(b:Int)(x:ae eB):Prop:=∃z,x=J z/\E b z
section
variable {α β eB:Type}{g : β->aA->eB}{E:Int->eB->Prop}{n a:Int}
variable{L:Nat}
theorem Out.ee{F:fY->ae (α×fY)}{p:aA->bR α}(h:fT F p L){G : α×fY->ae eB}{f : α->aA->bR β}{l:aA}(d:I l<L)(e:∀r aC,p l = .ok (r,aC)->Out g E n (G (r,aC,n,ai,a)) (f r aC))(i:∀r aC b,dQ E b (G (r,aC,n,ab,b))):Out g E n ((F (l,n,ai,a)).bind G) (aN p f l):=by unfold aN;cases c:p l with|error q=>obtain⟨j,aQ,k⟩:=h.fR l n a q d c;rw[k];exact i j aQ (hA n q)|ok x=>obtain⟨r,aC⟩:=x;rw[h.ok l n a r aC d c];exact e r aC c
theorem dQ.ee{F:fY->ae (α×fY)}(h:iI F){G : α×fY->ae eB}{l:aA}{b:Int}(a:∀r,dQ E b (G (r,l,n,ab,b))):dQ E b ((F (l,n,ab,b)).bind G):=by obtain⟨e,c⟩:=h l n b;rw[c];exact a e
variable{ss:U ak}
theorem Out.dd(c:I ss<=100){G:fY->ae eB}{f:Unit->aA->bR β}{l:aA}(e:∀aC,cY ss l = .ok ((),aC)->Out g E n (G (aC,n,ai,a)) (f () aC))(d:∀aC b,dQ E b (G (aC,n,ab,b))):Out g E n ((cI (ss,l,n,ai,a)).bind G) (aN (cY ss) f l):=by unfold aN;rw[NI c];cases h:cY ss l with|error q=>exact d q (hA n q)|ok x=>grind
theorem dQ.dd{G:fY->ae eB}{l:aA}{b:Int}(a:dQ E b (G (l,n,ab,b))):dQ E b ((cI (ss,l,n,ab,b)).bind G):=by rw[tC];exact a
variable{m:Nat}
theorem Out.loop{part:aA->bR α}{acc:U α}{l:aA}{X:ae eB}(c:U α->aA->Bool->Int->ae eB){f:U α->aA->bR β}(k:∀e aC,e5 part m acc l = .ok (e,aC)->X=c e aC ai a)(d:∀q,e5 part m acc l = .error q->∃e aC,X=c e aC ab (hA n q))(o:∀e aC,e5 part m acc l = .ok (e,aC)->Out g E n (c e aC ai a) (f e aC))(i:∀e aC b,dQ E b (c e aC ab b)):Out g E n X (aN (e5 part m acc) f l):=by unfold aN;cases j:e5 part m acc l with|error q=>obtain⟨e,aC,h⟩:=d q j;rw[h];exact i e aC (hA n q)|ok x=>grind
end
variable{α:Type}{β:Type}
theorem HN(part:aA->bR α)(f:U α->aA->bR β)(l:aA):aN (jQ part) f l=aN part (λx aC=>aN (e5 part (I aC+1) [x]) f aC) l:=by
 simp[aN,jQ]
 grind
theorem azV(part:aA->bR α)(l:aA):jQ part l=aN part (λx aC=>aN (e5 part (I aC+1) [x]) cJ aC) l:=by simp[aN,jQ];cases part l with|error q=>rfl|ok x=>obtain⟨x,aC⟩:=x;simp only;cases e5 part (I aC+1) [x] aC<;>rfl
abbrev F3{α:Type}(n a:Int)(r : α)(l:aA) : α×fY:=(r,l,n,ai,a)
abbrev qv{α:Type}(n:Int)(p:Int)(z : α×fY):Prop:=z.2.2.1=n/\z.2.2.2.1=ab/\z.2.2.2.2=p
variable{L:Nat}
theorem fT.of{F:fY->ae (α×fY)}{p:aA->bR α}(h:∀l n a,I l<L->Out (F3 n a) (qv n) n (F (l,n,ai,a)) (p l))(al:iI F):fT F p L where
 ok l n a e aC bz aW:=by have:=h l n a bz;rw[aW]at this;exact this
 fR l n a q bz aW:=by
  have:=h l n a bz;rw[aW]at this;obtain⟨⟨r,aC,c,b,d⟩,f,g,i,j⟩:=this
  grind
 bad:=al
theorem th:eL fl:=λl e aC h=>by
 cases l with
 |nil=>cases h
 |cons t r=>
  simp[fl]at h
  grind
theorem akK{R:Type}{kx:aX->Eo->ae R}{n:Int}{c:U ak->aA->Bool->Int->ae R}(d:∀acc l b a,kx (.exit 0) (l,n,b,a,acc)=c acc l b a){L:Nat}(f:fT eP fl L)(j:eL fl)(a:Int):∀(k m:Nat) (acc:U ak) (l:aA),I l<L->I l<k->I l<m->I acc+I l<=1000000000 ->
  match e5 fl m acc l with|.ok (e,aC)=>aI (λrec=>rZ rec kx) k (l,n,ai,a,acc)=c e aC ai a|.error q=>∃e aC,aI (λrec=>rZ rec kx) k (l,n,ai,a,acc)=c e aC ab (hA n q)
 |0,_,_,_,_,h,_,_=>absurd h (dY _)
 |_,0,_,_,_,_,h,_=>absurd h (dY _)
 |k+1,m+1,acc,l,bz,aY,aZ,bg=>by
  have hm:aa (I acc+1<=bY)=true:=aH Ee;simp only[c6,rZ,kd,bd,e5];cases g:aV [44] l with
  |false=>simp only[fW g,bA,bj,d]
  |true=>have o:=ju g;simp only[gk g,bA,bd];cases i:fl l.tail with|error q=>obtain⟨p,aQ,r⟩:=f.fR l.tail n a q af i;simp only[r,bA,hm,ax];obtain⟨k,rfl⟩:∃s,k=s+1:=⟨k-1,by omega⟩;exact⟨acc++[p],aQ,d _ _ _ _⟩|ok x=>obtain⟨x,aQ⟩:=x;have t:=j _ _ _ i;simp only[f.ok l.tail n a x aQ af i,bA,hm,ax];exact akK d f j a k m (acc++[x]) aQ af af af S8
variable{R:Type}{a:Int}{c:U ak->aA->Bool->Int->ae R}{k:Nat}{kx:aX->Eo->ae R}{m:Nat}
theorem ar6{n:Int}(d:∀acc l b a,kx (.exit 0) (l,n,b,a,acc)=c acc l b a)(f:fT eP fl L)(g:eL fl){acc:U ak}{l:aA}(i:I l<L)(j:I l<k)(o:I l<m)(p:I acc+I l<=1000000000)(e:U ak)(aC:aA)(h:e5 fl m acc l = .ok (e,aC)):aI (λrec=>rZ rec kx) k (l,n,ai,a,acc)=c e aC ai a:=adw
theorem asp{n:Int}(d:∀acc l b a,kx (.exit 0) (l,n,b,a,acc)=c acc l b a)(f:fT eP fl L)(g:eL fl){acc:U ak}{l:aA}(i:I l<L)(j:I l<k)(o:I l<m)(p:I acc+I l<=1000000000)(q:aA)(h:e5 fl m acc l = .error q):∃e aC,aI (λrec=>rZ rec kx) k (l,n,ai,a,acc)=c e aC ab (hA n q):=adw
theorem aaO{n:Int}{l:aA}{acc:U ak}(k:Nat):aI (λrec=>rZ rec kx) (k+1) (l,n,ab,a,acc)=kx (.exit 0) (l,n,ab,a,acc):=by simp only[c6,rZ,ef,bj]
theorem akI{R:Type}{kx:aX->xe->ae R}{n:Int}{c:U aq->aA->Bool->Int->ae R}(d:∀acc l b a,kx (.exit 0) (l,n,b,a,acc)=c acc l b a){L:Nat}(f:fT jV gq L)(j:eL gq)(a:Int):∀(k m:Nat) (acc:U aq) (l:aA),I l<L->I l<k->I l<m->I acc+I l<=1000000000 ->
  match e5 gq m acc l with|.ok (e,aC)=>aI (λrec=>rX rec kx) k (l,n,ai,a,acc)=c e aC ai a|.error q=>∃e aC,aI (λrec=>rX rec kx) k (l,n,ai,a,acc)=c e aC ab (hA n q)
 |0,_,_,_,_,h,_,_=>absurd h (dY _)
 |_,0,_,_,_,_,h,_=>absurd h (dY _)
 |k+1,m+1,acc,l,bz,aY,aZ,bg=>by
  have hm:aa (I acc+1<=bY)=true:=aH Ee;simp only[c6,rX,kd,bd,e5];cases g:aV [44] l with
  |false=>simp only[fW g,bA,bj,d]
  |true=>have o:=ju g;simp only[gk g,bA,bd];cases i:gq l.tail with|error q=>obtain⟨p,aQ,r⟩:=f.fR l.tail n a q af i;simp only[r,bA,hm,decide_true,Bool.and_self,ax];obtain⟨k,rfl⟩:∃s,k=s+1:=⟨k-1,by omega⟩;exact⟨acc++[p],aQ,d _ _ _ _⟩|ok x=>obtain⟨x,aQ⟩:=x;have t:=j _ _ _ i;simp only[f.ok l.tail n a x aQ af i,bA,hm,decide_true,Bool.and_self,ax];exact akI d f j a k m (acc++[x]) aQ af af af S8
theorem asy{kx:aX->xe->ae R}{n:Int}{c:U aq->aA->Bool->Int->ae R}(d:∀acc l b a,kx (.exit 0) (l,n,b,a,acc)=c acc l b a)(f:fT jV gq L)(g:eL gq){acc:U aq}{l:aA}(i:I l<L)(j:I l<k)(o:I l<m)(p:I acc+I l<=1000000000)(e:U aq)(aC:aA)(h:e5 gq m acc l = .ok (e,aC)):aI (λrec=>rX rec kx) k (l,n,ai,a,acc)=c e aC ai a:=ai9
theorem atB{kx:aX->xe->ae R}{n:Int}{c:U aq->aA->Bool->Int->ae R}(d:∀acc l b a,kx (.exit 0) (l,n,b,a,acc)=c acc l b a)(f:fT jV gq L)(g:eL gq){acc:U aq}{l:aA}(i:I l<L)(j:I l<k)(o:I l<m)(p:I acc+I l<=1000000000)(q:aA)(h:e5 gq m acc l = .error q):∃e aC,aI (λrec=>rX rec kx) k (l,n,ai,a,acc)=c e aC ab (hA n q):=ai9
theorem asI{kx:aX->xe->ae R}{n:Int}{l:aA}{acc:U aq}(k:Nat):aI (λrec=>rX rec kx) (k+1) (l,n,ab,a,acc)=kx (.exit 0) (l,n,ab,a,acc):=by simp only[c6,rX,ef,bj]
theorem oh:iI eP:=(l3 0).bad
theorem Ac:iI jV:=(vt (L:=0) af).bad
theorem Pq:iI mZ:=λl n a=>by obtain⟨b,c⟩:=Ac l n a;simp[mZ,Lg,c,asI];exact⟨[b],rfl⟩
theorem VH(d:L<=1000000000):fT mZ qT L:=.of (λl n a f=>by
 unfold qT;rw[azV];simp[mZ];refine Out.ee (vt d) f (λr aC g=>?_) (λr aC b=>?_)
 .have i:=qF _ _ _ g;have hm:aa (0+1<=bY)=true:=aH Ee;simp[ ax];have c:I [r]+I aC<=1000000000:=hF
  refine Out.loop (a:=a) (λacc l b a=>J (acc,l,n,b,a)) (asy (λ_ _ _ _=>rfl) (vt d) qF af af af c) (atB (λ_ _ _ _=>rfl) (vt d) qF af af af c) (λe h _=>?_) (λe h b=>?_)
  .exact rfl
  .exact⟨_,rfl,rfl,rfl,rfl⟩
 .have hm:aa (0+1<=bY)=true:=aH Ee;simp[ bd];exact⟨_,rfl,rfl,rfl,rfl⟩) Pq
theorem xp:iI nL:=λl n a=>by obtain⟨b,c⟩:=oh l n a;simp only[nL,K6,tC,c,bA];exact⟨[b],rfl⟩
theorem XJ(s:L<=1000000000):fT nL o5 L:=.of (λl n a t=>by
 unfold o5;simp[nL];refine Out.dd dM (λi j=>?_) (λi b=>?_)
 .have m:I i<=I l:=by cases k:aV [40] l with|true=>rw[uf k]at j;cases j;exact h8 l|false=>rw[wO k]at j;cases j
  rw[HN];refine Out.ee (l3 L) (show I i<L by omega) (λr aC o=>?_) (λr aC b=>?_)
  .have u:I aC<I i:=th _ _ _ o;have h:I [r]+I aC<=1000000000:=hF
   refine Out.loop (a:=a) (λacc l b a=>(cI ([[41]],l,n,b,a)).bind λ(c,d,f,g)=>J (acc,c,d,f,g)) (ar6 (λ_ _ _ _=>rfl) (l3 L) th af af af h) (asp (λ_ _ _ _=>rfl) (l3 L) th af af af h) (λe p _=>?_) (λe p b=>?_)
   .exact Out.dd dM (λq _=>rfl) (λq b=>⟨_,rfl,rfl,rfl,rfl⟩)
   .exact RJ
  .simp[aaO];exact RJ
 .refine dQ.ee oh (λr=>?_);simp[aaO];exact dQ.dd ⟨_,rfl,rfl,rfl,rfl⟩) xp
section
variable {V R α:Type}{step:(V->ae R)->V->ae R}{st:aA->Int->Bool->Int->U α->V}{n:Int}{hn:fY->ae (α×fY)}{part:aA->bR α}{L:Nat}{c:U α->aA->Bool->Int->ae R}
theorem Q_(b:fT hn part L)(g:eL part)
  (i:∀rec l a acc,I acc<=1000000000->aV [44] l=ab->step rec (st l n ai a acc)=(hn (l.tail,n,ai,a)).bind λz=>rec (st z.2.1 z.2.2.1 z.2.2.2.1 z.2.2.2.2 (acc++[z.1])))
  (j:∀rec l a acc,aV [44] l=ai->step rec (st l n ai a acc)=c acc l ai a)
  (al:∀rec l a acc,step rec (st l n ab a acc)=c acc l ab a) (a:Int):∀(k m:Nat) (acc:U α) (l:aA),I l<L->I l<k->I l<m->I acc+I l<=1000000000 ->
  match e5 part m acc l with|.ok (e,aC)=>aI step k (st l n ai a acc)=c e aC ai a|.error q=>∃e aC,aI step k (st l n ai a acc)=c e aC ab (hA n q)
 |0,_,_,_,_,h,_,_=>absurd h (dY _)
 |_,0,_,_,_,_,h,_=>absurd h (dY _)
 |k+1,m+1,acc,l,bz,aY,aZ,bg=>by
  simp[c6,e5];cases d:aV [44] l with
  |false=>exact j _ l a acc d
  |true=>have o:=ju d;simp[i _ l a acc af d];cases f:part l.tail with|error q=>obtain⟨p,aQ,r⟩:=b.fR l.tail n a q af f;simp[r];obtain⟨k,rfl⟩:∃s,k=s+1:=⟨k-1,by omega⟩;exact⟨acc++[p],aQ,al _ _ _ _⟩|ok x=>obtain⟨x,aQ⟩:=x;have t:=g _ _ _ f;simp[b.ok l.tail n a x aQ af f];exact Q_ b g i j al a k m (acc++[x]) aQ af af af hF
theorem GN(b:fT hn part L)(d:eL part)
  (f:∀rec l a acc,I acc<=1000000000->aV [44] l=ab->step rec (st l n ai a acc)=(hn (l.tail,n,ai,a)).bind λz=>rec (st z.2.1 z.2.2.1 z.2.2.2.1 z.2.2.2.2 (acc++[z.1])))
  (g:∀rec l a acc,aV [44] l=ai->step rec (st l n ai a acc)=c acc l ai a)
  (al:∀rec l a acc,step rec (st l n ab a acc)=c acc l ab a) {acc:U α}{l:aA}(i:I l<L) (j:I l<k) (o:I l<m) (p:I acc+I l<=1000000000) (e:U α) (aC:aA) (h:e5 part m acc l = .ok (e,aC)):aI step k (st l n ai a acc)=c e aC ai a:=by
 have:=Q_ b d f g al a k m acc l i j o p;rw[h]at this;exact this
theorem Gw(b:fT hn part L)(d:eL part)
  (f:∀rec l a acc,I acc<=1000000000->aV [44] l=ab->step rec (st l n ai a acc)=(hn (l.tail,n,ai,a)).bind λz=>rec (st z.2.1 z.2.2.1 z.2.2.2.1 z.2.2.2.2 (acc++[z.1])))
  (g:∀rec l a acc,aV [44] l=ai->step rec (st l n ai a acc)=c acc l ai a)
  (al:∀rec l a acc,step rec (st l n ab a acc)=c acc l ab a) {acc:U α}{l:aA}(i:I l<L) (j:I l<k) (o:I l<m) (p:I acc+I l<=1000000000) (q:aA) (h:e5 part m acc l = .error q):∃e aC,aI step k (st l n ai a acc)=c e aC ab (hA n q):=by
 have:=Q_ b d f g al a k m acc l i j o p;rw[h]at this;exact this
end
abbrev il:=Int×ak×ak×U bk×U ak×U aq×U (U aq)×U ds×Bool×Int×Int×Int×ak×ak×U aq×U ak×U Bool×Int
abbrev kv(n:Int)(p:Int)(z:aA×Int×Bool×Int×il):Prop:=z.2.1=n/\z.2.2.1=ab/\z.2.2.2.1=p
theorem MQ(l:aA)(n a:Int)(z:il):lF (l,n,ab,a,z)=J (l,n,ab,a,z):=by simp[lF,K9,bj]
theorem Pm(b:L<=1000000000)(n a c:Int)(lU bL:ak)(ht:U bk)(ss:U ak)(sl:U aq)(b3:U (U aq))(st:U ds)(j1:U ak)(j2:U Bool)(j3:Int){l:aA}(g:I l<L) :
  Out (λ(w:Bool×aq) aC=>((aC,n,ai,a,c,lU,bL,ht,ss,sl,b3,st,w.1,w.2.kind,w.2.v.kind,w.2.v.n,w.2.v.s,w.2.name,w.2.l,j1,j2,j3):aA×Int×Bool×Int×il)) (kv n) n (lF (l,n,ai,a,c,lU,bL,ht,ss,sl,b3,st,ai,0,0,0,[],[],[],j1,j2,j3)) (ky l):=by
 simp[lF,K9,ky];cases d:aV Dq l with
 |false=>simp[fW (s:=[87,72,69,82,69]) d,bj];exact rfl
 |true=>have h:=h8 l;simp[gk (s:=[87,72,69,82,69]) d,bd];cases e:gq l.tail with|error q=>obtain⟨i,aQ,f⟩:=(vt b).fR l.tail n a q af e;simp[f];exact⟨_,rfl,rfl,rfl,rfl⟩|ok x=>obtain⟨x,aQ⟩:=x;simp[(vt b).ok l.tail n a x aQ af e];exact rfl
def uB(s:fY):ae (ds×fY):=(eP s).bind λ(a,b,c,d,e)=>(cI ([[61]],b,c,d,e)).bind λ(f,g,h,i)=>(jV (f,g,h,i)).bind λ(j,k,l,m,n)=>J (ds.mk a (gv j),k,l,m,n)
variable{aC:aA}{s:ak}
theorem Nn{l:aA}{x:Unit}(h:cY [s] l = .ok (x,aC)):I aC<=I l:=by cases a:aV s l with|true=>rw[uf a]at h;cases h;exact h8 l|false=>rw[wO a]at h;cases h
theorem Nk:iI uB:=λl n a=>by obtain⟨d,b⟩:=oh l n a;obtain⟨e,c⟩:=Ac l n a;simp only[uB,b,tC,c,bA];exact⟨_,rfl⟩
theorem MO(f:L<=1000000000):fT uB DF L:=.of (λl n a g=>by
 refine Out.ee (l3 L) g (λr aQ h=>?_) (λr aQ b=>?_)
 .have bc:I aQ<I l:=th _ _ _ h;refine Out.dd dM (λd i=>?_) (λd b=>?_)
  .have j:=Nn i;refine Out.ee (vt f) (show I d<L by omega) (λe c k=>?_) (λe c b=>?_)
   .show J (ds.mk r (gv e),c,n,ai,a)=J (F3 n a ⟨r,e⟩ c);rw[m1]
   .exact⟨_,rfl,rfl,rfl,rfl⟩
  .exact dQ.ee Ac (λe=>⟨_,rfl,rfl,rfl,rfl⟩)
 .exact dQ.dd (dQ.ee Ac (λe=>⟨_,rfl,rfl,rfl,rfl⟩))) Nk
variable{f:α->aA->bR β}
theorem kC{p:aA->bR α}{l:aA}{e : β}(h:aN p f l = .ok (e,aC)):∃x aQ,p l = .ok (x,aQ)/\f x aQ = .ok (e,aC):=by
 unfold aN at h
 grind
theorem Bm:eL DF:=λl e aC h=>by obtain⟨x,aQ,a,h⟩:=kC h;obtain⟨_,d,b,h⟩:=kC h;obtain⟨y,f,c,h⟩:=kC h;have bc:=th _ _ _ a;have g:=Nn b;have i:=qF _ _ _ c;exact lA
abbrev yC(lU bL:ak)(ht:U bk)(ss:U ak)(sl:U aq)(b3:U (U aq))(j1:U ak)(j2:U Bool)(j3:Int)(l:aA)(n:Int)(b:Bool)(a:Int)(acc:U ds):rO:=(l,n,b,a,6,lU,bL,ht,ss,sl,b3,acc,ai,0,0,0,[],[],[],j1,j2,j3)
section
variable {R:Type}{kx:aX->rO->ae R}{n:Int}{lU bL:ak}{ht:U bk}{ss:U ak}{sl:U aq}{b3:U (U aq)}{j1:U ak}{j2:U Bool}{j3:Int}
theorem aj0(rec:rO->ae R)(l:aA)(a:Int)(acc:U ds)(c:I acc<=1000000000)(b:aV [44] l=ab):o0 rec kx (yC lU bL ht ss sl b3 j1 j2 j3 l n ai a acc)=(uB (l.tail,n,ai,a)).bind λz=>rec (yC lU bL ht ss sl b3 j1 j2 j3 z.2.1 z.2.2.1 z.2.2.2.1 z.2.2.2.2 (acc++[z.1])):=by
 have hm:aa (I acc+1<=bY)=true:=aH jf;simp[o0,gk b,uB];cases eP (l.tail,n,ai,a)with
 |none=>rfl
 |some x=>
  simp;cases cI ([[61]],x.2)with
  |none=>rfl
  |some y=>simp;cases jV y with|none=>rfl|some z=>simp[ hm,ax]
theorem ajN(rec:rO->ae R)(l:aA)(a:Int)(acc:U ds)(b:aV [44] l=ai):o0 rec kx (yC lU bL ht ss sl b3 j1 j2 j3 l n ai a acc)=kx (.exit 0) (yC lU bL ht ss sl b3 j1 j2 j3 l n ai a acc):=by simp[o0,fW b,bj]
theorem SL(rec:rO->ae R)(l:aA)(a:Int)(acc:U ds):o0 rec kx (yC lU bL ht ss sl b3 j1 j2 j3 l n ab a acc)=kx (.exit 0) (yC lU bL ht ss sl b3 j1 j2 j3 l n ab a acc):=by simp[o0,bj]
end
variable{eB:Type}{E:Int->eB->Prop}{g:α->aA->eB}{x:ae eB}
theorem Out.map{g' : β->aA->eB}{n:Int}{p:aA->bR α}{h : α->β}{l:aA}(a:Out g E n x (p l))(c:∀r aC,g r aC = g' (h r) aC):Out g' E n x (aN p (λw=>cJ (h w)) l):=by unfold aN;cases b:p l with|error q=>rw[b]at a;exact a|ok y=>obtain⟨r,aC⟩:=y;rw[b]at a;exact a.trans (congrArg J (c r aC))
def SA(s:aP):il:=(s.kind,s.name,s.on,s.ay,s.names,s.l,s.rows,s.bT,s.has,s.cX.kind,s.cX.v.kind,s.cX.v.n,s.cX.v.s,s.cX.name,s.cX.l,s.order,s.desc,s.bH)
abbrev lp(n a:Int)(s:aP)(l:aA):aA×Int×Bool×Int×il:=(l,n,ai,a,SA s)
abbrev z0:il:=(0,[],[],[],[],[],[],[],ai,0,0,0,[],[],[],[],[],0)
abbrev yD(a7:ak):=yC a7 [] [] [] [] [] [] [] 0
def v7(e:aX)(v:rO):ae xk:=match e with|.exit 0=>lF v|_=>aj
theorem aBk(l:aA)(n:Int)(b:Bool)(a:Int):Fa (l,n,b,a,z0)=(eP (l,n,b,a)).bind λx=>(cI ([[83,69,84]],x.2)).bind λy=>(uB y).bind λz=>aI (λrec=>o0 rec v7) (I l+3) (yD x.1 z.2.1 z.2.2.1 z.2.2.2.1 z.2.2.2.2 [z.1]):=by
 have bf:∀(e:aX) (eA:rO),(match eA with|(v,v1,v2,v3,v4,v5,v6,bb,bK,v9,c,d,f,g,h,i,j,k,m,o,p,q)=>match e with
   |.exit 0=>(lF (v,v1,v2,v3,v4,v5,v6,bb,bK,v9,c,d,f,g,h,i,j,k,m,o,p,q)).bind λ(r,s,t,u,w,a0,bI,a2,a3,a4,a5,bB,bE,bG,a9,bZ,b7,ac,ad,cq,ez,ct)=>J (r,s,t,u,w,a0,bI,a2,a3,a4,a5,bB,bE,bG,a9,bZ,b7,ac,ad,cq,ez,ct)
   |_=>aj:ae xk)=v7 e eA:=λe eA=>by
  match e with|.exit 0=>show(lF eA).bind (λx=>J x)=lF eA;cases lF eA<;>rfl|.exit (_+1)=>rfl|.ret=>rfl|.normal=>rfl
 have hm:aa (I ([]:U ds)+1<=bY)=true:=aH KF;show(eP (l,n,b,a)).bind _=_;cases eP (l,n,b,a)with
 |none=>rfl
 |some x=>
  show(cI ([[83,69,84]],x.2)).bind _=(cI ([[83,69,84]],x.2)).bind _;cases cI ([[83,69,84]],x.2)with
  |none=>rfl
  |some y=>
   show(eP y).bind _=(uB y).bind _;unfold uB;cases eP y with
   |none=>rfl
   |some jM=>
    show(cI ([[61]],jM.2)).bind _=Option.bind ((cI ([[61]],jM.2)).bind _) _;cases cI ([[61]],jM.2)with
    |none=>rfl
    |some sH=>show(jV sH).bind _=Option.bind ((jV sH).bind _) _;cases jV sH with|none=>rfl|some z=>rw[<-(funext λe=>funext λeA=>bf e eA)];rfl
theorem Pz{α:Type}{part:aA->bR α}(b:eL part):∀{m:Nat}{acc:U α}{l:aA}{e:U α}{aC:aA},e5 part m acc l = .ok (e,aC)->I aC<=I l
 |0,_,_,_,_,h=>by cases h
 |m+1,acc,l,e,aC,h=>by
  simp[e5]at h;cases c:aV [44] l with
  |false=>grind
  |true=>rw[c]at h;cases a:part l.tail with|error q=>rw[a]at h;cases h|ok x=>rw[a]at h;have d:=b _ _ _ a;have f:=Pz b h;have g:=h8 l;omega
theorem SH(a7:ak)(k:Nat)(l:aA)(n a:Int)(acc:U ds):dQ (kv n) a (aI (λrec=>o0 rec v7) (k+1) (yD a7 l n ab a acc)):=by rw[c6,SL];exact⟨_,MQ l n a _,rfl,rfl,rfl⟩
theorem asQ(f:L<=1000000000){l:aA}(o:I l<L)(n a:Int):Out (lp n a) (kv n) n (Fa (l,n,ai,a,z0)) (xI l):=by
 rw[aBk];refine Out.ee (l3 L) o (λa7 aQ p=>?_) (λa7 aQ b=>dQ.dd (dQ.ee Nk λx=>SH a7 _ aQ n b [x]));have bc:I aQ<I l:=th _ _ _ p;refine Out.dd dM (λg q=>?_) (λg b=>dQ.ee Nk λx=>SH a7 _ g n b [x]);have t:=Nn q;rw[HN];refine Out.ee (MO f) (show I g<L by omega) (λx d r=>?_) (λx d b=>SH a7 _ d n b [x]);have u:I d<I g:=Bm _ _ _ r;have j:I [x]+I d<=1000000000:=hF
 refine Out.loop (a:=a) (λacc l b a=>v7 (.exit 0) (yD a7 l n b a acc))
  (GN (step:=λrec=>o0 rec v7) (st:=yD a7) (n:=n) (c:=λacc l b a=>v7 (.exit 0) (yD a7 l n b a acc)) (MO f) Bm (λrec l a acc i e=>aj0 rec l a acc i e) (λrec l a acc e=>ajN rec l a acc e) (λrec l a acc=>SL rec l a acc) (a:=a) (k:=I l+3) (m:=I d+1) (acc:=[x]) (l:=d) af af af j)
  (Gw (step:=λrec=>o0 rec v7) (st:=yD a7) (n:=n) (c:=λacc l b a=>v7 (.exit 0) (yD a7 l n b a acc)) (MO f) Bm (λrec l a acc i e=>aj0 rec l a acc i e) (λrec l a acc e=>ajN rec l a acc e) (λrec l a acc=>SL rec l a acc) (a:=a) (k:=I l+3) (m:=I d+1) (acc:=[x]) (l:=d) af af af j) (λacc h s=>?_) (λacc h b=>⟨_,MQ h n b _,rfl,rfl,rfl⟩)
 have v:I h<=I d:=Pz Bm s;exact Out.map (Pm f n a 6 a7 [] [] [] [] [] acc [] [] 0 (show I h<L by omega)) (λw aC=>rfl)
def JU(c:bk)(s:fY):ae (bk×fY):=cond (!s.2.2.1) ((cz ([82,69,70,69,82,69,78,67,69,83],s)).bind λz=>cond z.1 ((eP z.2).bind λy=>J (bk.mk c.name c.kind c.h2 c.unique y.1,y.2)) (J (c,z.2))) (J (c,s))
def Ea(c:bk)(s:fY):ae (bk×fY):=cond (!s.2.2.1) ((cz ([85,78,73,81,85,69],s)).bind λz=>JU (bk.mk c.name c.kind c.h2 z.1 c.ref) z.2) (JU (bk.mk c.name c.kind c.h2 ai c.ref) s)
def Ro(c:bk)(s:fY):ae (bk×fY):=cond c.h2 ((cI ([[78,85,76,76]],s)).bind λy=>Ea c y) (Ea c s)
def DZ(c:bk)(s:fY):ae (bk×fY):=cond (!s.2.2.1) ((cz ([78,79,84],s)).bind λz=>Ro (bk.mk c.name c.kind z.1 c.unique c.ref) z.2) (Ro (bk.mk c.name c.kind ai c.unique c.ref) s)
def Aq(e:aX)(v:tq):ae Gu:=match e with|.exit 0=>cond (aa (v.2.2.2.2.2.2.kind=0)) ((lD (v.2.1,v.2.2.1,v.2.2.2.1,v.2.2.2.2.1)).bind λy=>DZ v.2.2.2.2.2.2 y) (DZ v.2.2.2.2.2.2 (v.2.1,v.2.2.1,v.2.2.2.1,v.2.2.2.2.1))|_=>aj
abbrev dD(a7:ak):bk:=bk.mk a7 0 ai ai []
theorem agb(l:aA)(n:Int)(b:Bool)(a:Int):pO (l,n,b,a)=(eP (l,n,b,a)).bind λx=>aI (λrec=>m4 rec Aq) 10 (0,x.2.1,x.2.2.1,x.2.2.2.1,x.2.2.2.2,dD [],dD x.1):=by
 unfold pO;show(eP (l,n,b,a)).bind _=_;cases eP (l,n,b,a)with
 |none=>rfl
 |some x=>obtain⟨iL,c,d,f,g⟩:=x;simp only[bA];refine congrFun (congrArg (λkx=>aI (λrec=>m4 rec kx) 10) ?_) _;funext e v;match e with|.exit 0=>obtain⟨v1,v2,v3,h,i,j,bb⟩:=v;rfl|.exit (_+1)=>rfl|.ret=>rfl|.normal=>rfl
section
variable {R:Type}{kx:aX->tq->ae R}(rec:tq->ae R) (w:aA) (n a:Int) (z:bk) (a7:ak)
theorem aEE(b:Bool)(c:bk):m4 rec kx (0,w,n,b,a,z,c)=rec (1,w,n,b,a,z,c):=rfl
theorem aEF(b:Bool)(c:bk):m4 rec kx (1,w,n,b,a,z,c)=rec (2,w,n,b,a,z,c):=rfl
theorem aEG:m4 rec kx (2,w,n,ai,a,z,dD a7)=(cz ([66,79,79,76],w,n,ai,a)).bind λ(f,b,c,d,e)=>cond f (rec (3,b,c,d,e,z,bk.mk a7 2 ai ai [])) (rec (3,b,c,d,e,z,dD a7)):=rfl
theorem aEH:m4 rec kx (3,w,n,ai,a,z,dD a7)=(cz ([73,78,84],w,n,ai,a)).bind λ(f,b,c,d,e)=>cond f (rec (4,b,c,d,e,z,bk.mk a7 3 ai ai [])) (rec (4,b,c,d,e,z,dD a7)):=rfl
theorem aEI:m4 rec kx (4,w,n,ai,a,z,dD a7)=(cz ([84,69,88,84],w,n,ai,a)).bind λ(f,b,c,d,e)=>cond f (rec (5,b,c,d,e,z,bk.mk a7 4 ai ai [])) (rec (5,b,c,d,e,z,dD a7)):=rfl
theorem aEJ:m4 rec kx (5,w,n,ai,a,z,dD a7)=(cz ([66,89,84,69,83],w,n,ai,a)).bind λ(f,b,c,d,e)=>cond f (rec (6,b,c,d,e,z,bk.mk a7 5 ai ai [])) (rec (6,b,c,d,e,z,dD a7)):=rfl
end
theorem aqb{kx:aX->tq->ae R}(l:aA)(n a:Int)(z:bk)(a7:ak):aI (λrec=>m4 rec kx) 10 (0,l,n,ai,a,z,dD a7)=match mD l with
  |.ok (k,aC)=>kx (.exit 0) (6,aC,n,ai,a,z,bk.mk a7 k ai ai [])
  |.error q=>kx (.exit 0) (6,q,n,ai,a,z,dD a7):=by
 have e:∀(m:Nat) (v:tq),aI (λrec=>m4 rec kx) (m+1) v=m4 (aI (λrec=>m4 rec kx) m) kx v:=λ_ _=>rfl;rw[e 9,aEE,e 8,aEF,e 7,aEG];unfold mD;cases b:aV sY l with
 |true=>rw[gk (s:=[66,79,79,76]) b];rfl
 |false=>
  rw[fW (s:=[66,79,79,76]) b];simp;rw[e 6,aEH];cases c:aV sR l with
  |true=>rw[gk (s:=[73,78,84]) c];rfl
  |false=>
   rw[fW (s:=[73,78,84]) c];simp;rw[e 5,aEI];cases d:aV tb l with
   |true=>rw[gk (s:=[84,69,88,84]) d];rfl
   |false=>rw[fW (s:=[84,69,88,84]) d];simp;rw[e 4,aEJ];cases f:aV tB l with|true=>rw[gk (s:=[66,89,84,69,83]) f];rfl|false=>rw[fW (s:=[66,89,84,69,83]) f];rfl
theorem aiL{kx:aX->tq->ae R}(l:aA)(n a:Int)(z c:bk):aI (λrec=>m4 rec kx) 10 (0,l,n,ab,a,z,c)=kx (.exit 0) (6,l,n,ab,a,z,c):=rfl
theorem aqE(c:bk)(l:aA)(n a:Int):Ea c (l,n,ab,a)=J (bk.mk c.name c.kind c.h2 ai c.ref,l,n,ab,a):=rfl
theorem ayu(c:bk)(l:aA)(n a:Int):DZ c (l,n,ab,a)=J (bk.mk c.name c.kind ai ai c.ref,l,n,ab,a):=rfl
section
variable {L:Nat}(n a:Int) (a7:ak) (k:Int)
theorem VR(b u:Bool){l:aA}(f:I l<L):Out (F3 n a) (qv n) n (JU (bk.mk a7 k b u []) (l,n,ai,a)) (aN iR (λr=>cJ (bk.mk a7 k b u r)) l):=by
 unfold JU iR aN;simp;cases c:aV S1 l with
 |false=>rw[fW (s:=[82,69,70,69,82,69,78,67,69,83]) c];exact rfl
 |true=>have g:=h8 l;rw[gk (s:=[82,69,70,69,82,69,78,67,69,83]) c];simp;cases d:fl l.tail with|error q=>obtain⟨h,aQ,e⟩:=(l3 L).fR l.tail n a q af d;rw[e];exact⟨_,rfl,rfl,rfl,rfl⟩|ok x=>obtain⟨x,aQ⟩:=x;rw[(l3 L).ok l.tail n a x aQ af d];exact rfl
theorem abT(b:Bool){l:aA}(d:I l<L):Out (F3 n a) (qv n) n (Ea (bk.mk a7 k b ai []) (l,n,ai,a)) (aN (hc l4 []) (λu=>aN iR λr=>cJ (bk.mk a7 k b u r)) l):=by unfold Ea hc;simp;cases c:aV l4 l with|false=>rw[fW (s:=[85,78,73,81,85,69]) c];have:=VR (L:=L) n a a7 k b ai d;unfold aN at this ⊢;simp[c];exact this|true=>have e:=h8 l;rw[gk (s:=[85,78,73,81,85,69]) c];have:=VR (L:=L) n a a7 k b ab (l:=l.tail) af;unfold aN at this ⊢;simp[c];exact this
theorem avc{l:aA}(d:I l<L):Out (F3 n a) (qv n) n (DZ (bk.mk a7 k ai ai []) (l,n,ai,a)) (aN (hc hi [hJ]) (λe=>aN (hc l4 []) λu=>aN iR λr=>cJ (bk.mk a7 k e u r)) l):=by
 unfold DZ hc;simp;cases b:aV hi l with
 |false=>rw[fW (s:=[78,79,84]) b];have:=abT (L:=L) n a a7 k ai d;unfold aN at this ⊢;simp[b];exact this
 |true=>have g:=h8 l;rw[gk (s:=[78,79,84]) b];simp[ Ro];cases c:aV hJ l.tail with|false=>rw[zB dM (wO (s:=[78,85,76,76]) c)];unfold aN;simp[b,cY,c];exact⟨_,aqE _ _ _ _,rfl,rfl,rfl⟩|true=>have f:=h8 l.tail;rw[zD dM (uf (s:=[78,85,76,76]) c)];have:=abT (L:=L) n a a7 k ab (l:=l.tail.tail) af;unfold aN at this ⊢;simp[b,cY,c];exact this
end
theorem af8{l:aA}{k:Int}(h:mD l = .ok (k,aC)):k≠0/\I aC<=I l:=by
 have a:=h8 l;unfold mD at h;split at h
 .grind
 .grind
theorem aAI(l:aA)(n b:Int)(z c:bk):dQ (qv n) b (Aq (.exit 0) (6,l,n,ab,b,z,c)):=by unfold Aq;simp;cases aa (c.kind=0)<;>exact⟨_,rfl,rfl,rfl,rfl⟩
theorem ahI:iI pO:=λl n a=>by obtain⟨b,c⟩:=oh l n a;rw[agb,c];simp;rw[aiL];unfold Aq;simp only[ ayu];exact⟨_,by cases aa ((dD b).kind=0)<;>rfl⟩
theorem ayt:fT pO wQ L:=.of (λl n a c=>by
 rw[agb];unfold wQ;refine Out.ee (l3 L) c (λa7 aQ d=>?_) (λa7 aQ b=>?_)
 .have bc:I aQ<I l:=th _ _ _ d;simp only;rw[aqb];unfold aN;cases e:mD aQ with|error q=>simp only;unfold Aq;simp[zo];exact⟨_,rfl,rfl,rfl,rfl⟩|ok x=>obtain⟨k,g⟩:=x;obtain⟨f,h⟩:=af8 e;simp only;unfold Aq;simp[aL f];exact avc (L:=L) n a a7 k af
 .simp only;rw[aiL];exact aAI _ _ _ _ _) ahI
theorem ku:∀{ss:U ak}{l aC:aA}{x:Unit},cY ss l = .ok (x,aC)->I aC<=I l
 |[],_,_,_,h=>by cases h;exact bU _
 |s::ss,l,aC,x,h=>by simp[cY]at h;have b:=h8 l;cases a:aV s l with|true=>rw[a]at h;have:=ku (ss:=ss) h;omega|false=>rw[a]at h;cases h
theorem tk{l:aA}{x:ak}(h:fl l = .ok (x,aC)):I aC<I l:=th _ _ _ h
theorem aoM:eL wQ:=λl e aC h=>by
 obtain⟨x,aQ,f,h⟩:=kC h;obtain⟨k,o,g,h⟩:=kC h;obtain⟨p,q,i,h⟩:=kC h;obtain⟨u,d,j,h⟩:=kC h;obtain⟨r,m,c,h⟩:=kC h;have bc:=tk f;have t:=(af8 g).2;have a:∀{s:ak}{ss:U ak}{b:Bool}{l aC:aA},hc s ss l = .ok (b,aC)->I aC<=I l:=λ{s ss b l aC} h=>by
  unfold hc at h;have n:=h8 l;split at h
  .split at h
   .cases h
   .rename_i y v hm;cases h;have:=ku hm;omega
  .grind
 have w:=a i;have z:=a j;have Ve:I m<=I d:=by
  unfold iR at c;have n:=h8 d;split at c
  .have:=tk c;omega
  .grind
 cases h;omega
def s4(s:fY):ae (bk×fY):=(pO s).bind λc=>(cI ([[44]],c.2)).bind λy=>J (c.1,y)
theorem Qh:iI s4:=λl n a=>by obtain⟨c,b⟩:=ahI l n a;simp only[s4,b,tC];exact⟨_,rfl⟩
theorem Rc:fT s4 mb L:=.of (λl n a d=>by refine Out.ee ayt d (λc aQ f=>?_) (λc aQ b=>dQ.dd ⟨_,rfl,rfl,rfl,rfl⟩);exact Out.dd dM (λe g=>rfl) (λe b=>⟨_,rfl,rfl,rfl,rfl⟩)) Qh
theorem Bh:eL mb:=λl e aC h=>by obtain⟨x,aQ,a,h⟩:=kC h;obtain⟨_,c,b,h⟩:=kC h;have bc:=aoM _ _ _ a;have d:=ku b;exact lA
section
variable {V R:Type}{step:(V->ae R)->V->ae R}{st:aA->Int->Bool->Int->U bk->V}{n:Int}{L:Nat}{c:U bk->aA->Bool->Int->ae R}
theorem Ws
  (d:∀rec l a acc,I acc<=1000000000->aV og l=ai->step rec (st l n ai a acc)=(s4 (l,n,ai,a)).bind λz=>rec (st z.2.1 z.2.2.1 z.2.2.2.1 z.2.2.2.2 (acc++[z.1])))
  (f:∀rec l a acc,aV og l=ab->step rec (st l n ai a acc)=c acc l.tail ai a)
  (al:∀rec l a acc,step rec (st l n ab a acc)=c acc l ab a) (a:Int):∀(k m:Nat) (acc:U bk) (l:aA),I l<L->I l+1<k->I l<m->I acc+I l<=1000000000 ->
  match k8 m acc l with|.ok (e,aC)=>aI step k (st l n ai a acc)=c e aC ai a|.error q=>∃e aC,aI step k (st l n ai a acc)=c e aC ab (hA n q)
 |0,_,_,_,_,h,_,_=>absurd h (dY _)
 |_,0,_,_,_,_,h,_=>absurd h (dY _)
 |k+1,m+1,acc,l,bz,aY,aZ,bg=>by
  simp[c6,k8];cases g:aV og l with
  |true=>exact f _ l a acc g
  |false=>simp[d _ l a acc af g];cases b:mb l with|error q=>obtain⟨i,aQ,j⟩:=(Rc (L:=L)).fR l n a q bz b;simp[j];obtain⟨k,rfl⟩:∃o,k=o+1:=⟨k-1,by omega⟩;exact⟨acc++[i],aQ,al _ _ _ _⟩|ok x=>obtain⟨x,aQ⟩:=x;have p:=Bh _ _ _ b;simp[(Rc (L:=L)).ok l n a x aQ bz b];exact Ws d f al a k m (acc++[x]) aQ af af af hF
end
theorem Wj:∀{m:Nat}{acc:U bk}{l:aA}{e:U bk}{aC:aA},k8 m acc l = .ok (e,aC)->I aC<=I l
 |0,_,_,_,_,h=>by cases h
 |m+1,acc,l,e,aC,h=>by
  simp[k8]at h;cases b:aV og l with
  |true=>grind
  |false=>rw[b]at h;cases a:mb l with|error q=>rw[a]at h;cases h|ok x=>rw[a]at h;have c:=Bh _ _ _ a;have d:=Wj h;omega
def DW(s:fY):ae (aq×fY):=(cI ([[67,72,69,67,75],[40]],s)).bind λy=>(jV y).bind λz=>(cI ([[41]],z.2)).bind λw=>J (z.1,w)
theorem ayf:iI DW:=λl n a=>by obtain⟨c,b⟩:=Ac l n a;simp only[DW,b,tC,bA];exact⟨_,rfl⟩
theorem aee(c:L<=1000000000):fT DW kO L:=.of (λl n a h=>by refine Out.dd dM (λaQ d=>?_) (λaQ b=>dQ.ee Ac λe=>dQ.dd ⟨_,rfl,rfl,rfl,rfl⟩);have bc:=ku d;refine Out.ee (vt c) (show I aQ<L by omega) (λe f i=>?_) (λe f b=>dQ.dd ⟨_,rfl,rfl,rfl,rfl⟩);exact Out.dd dM (λg j=>rfl) (λg b=>⟨_,rfl,rfl,rfl,rfl⟩)) ayf
theorem P8:eL kO:=λl e aC h=>by obtain⟨_,aQ,a,h⟩:=kC h;obtain⟨x,d,b,h⟩:=kC h;obtain⟨_,f,c,h⟩:=kC h;have bc:=ku a;have g:=qF _ _ _ b;have i:=ku c;exact lA
abbrev qf(a7:ak)(l:aA)(n:Int)(b:Bool)(a:Int)(acc:U bk):qy:=(l,n,b,a,1,a7,[],acc,[],[],[],[],ai,0,0,0,[],[],[],[],[],0)
abbrev nx(a7:ak)(cs:U bk)(cW:U ak)(l:aA)(n:Int)(b:Bool)(a:Int)(acc:U aq):qw:=(l,n,b,a,1,a7,[],cs,cW,acc,[],[],ai,0,0,0,[],[],[],[],[],0)
def ri(e:aX)(v:qw):ae xv:=match e with|.exit 2=>(cI ([[41]],v.1,v.2.1,v.2.2.1,v.2.2.2.1)).bind λy=>J (y.1,y.2.1,y.2.2.1,y.2.2.2,v.2.2.2.2)|_=>aj
def CF(K:Nat)(e:aX)(v:qy):ae xv:=match e with|.exit 0=>(cI ([[75,69,89]],v.1,v.2.1,v.2.2.1,v.2.2.2.1)).bind λy=>(nL y).bind λz=>aI (λrec=>mw rec ri) K (z.2.1,z.2.2.1,z.2.2.2.1,z.2.2.2.2,v.2.2.2.2.1,v.2.2.2.2.2.1,v.2.2.2.2.2.2.1,v.2.2.2.2.2.2.2.1,z.1,v.2.2.2.2.2.2.2.2.2)|_=>aj
theorem az1(l:aA)(n:Int)(b:Bool)(a:Int):u' (l,n,b,a,z0)=(eP (l,n,b,a)).bind λx=>(cI ([[40]],x.2)).bind λy=>(s4 y).bind λz=>aI (λrec=>om rec (CF (I l+3))) (I l+3) (qf x.1 z.2.1 z.2.2.1 z.2.2.2.1 z.2.2.2.2 [z.1]):=by
 have hm:aa (I ([]:U bk)+1<=bY)=true:=aH KF;show(eP (l,n,b,a)).bind _=_;cases eP (l,n,b,a)with
 |none=>rfl
 |some x=>
  show(cI ([[40]],x.2)).bind _=(cI ([[40]],x.2)).bind _;cases cI ([[40]],x.2)with
  |none=>rfl
  |some y=>
   show(pO y).bind _=(s4 y).bind _;unfold s4;cases pO y with
   |none=>rfl
   |some c=>
    obtain⟨c,c1,c2,fZ,gQ⟩:=c;show(cI ([[44]],c1,c2,fZ,gQ)).bind _=Option.bind ((cI ([[44]],c1,c2,fZ,gQ)).bind _) _;cases cI ([[44]],c1,c2,fZ,gQ)with
    |none=>rfl
    |some w=>
     simp;refine congrFun (congrArg (λkx=>aI (λrec=>om rec kx) (I l+3)) ?_) _;funext e v;match e with
     |.exit 0=>
      obtain⟨v0,v1,v2,v3,d,f,g,bb,h,i⟩:=v;show(cI ([[75,69,89]],v0,v1,v2,v3)).bind _=(cI ([[75,69,89]],v0,v1,v2,v3)).bind _;cases cI ([[75,69,89]],v0,v1,v2,v3)with
      |none=>rfl
      |some y=>
       show(nL y).bind _=(nL y).bind _;cases nL y with
       |none=>rfl
       |some z=>simp;refine congrFun (congrArg (λkx=>aI (λrec=>mw rec kx) (I l+3)) ?_) _;match e with|.exit 2=>rfl|.exit 0=>rfl|.exit 1=>rfl|.exit (_+3)=>rfl|.ret=>rfl|.normal=>rfl
     |.exit (_+1)=>rfl
     |.ret=>rfl
     |.normal=>rfl
section
variable {R:Type}{n:Int}{a7:ak}{cs:U bk}{cW:U ak}
theorem aCF{kx:aX->qy->ae R}(rec:qy->ae R)(l:aA)(a:Int)(acc:U bk)(c:I acc<=1000000000)(b:aV og l=ai):om rec kx (qf a7 l n ai a acc)=(s4 (l,n,ai,a)).bind λz=>rec (qf a7 z.2.1 z.2.2.1 z.2.2.2.1 z.2.2.2.2 (acc++[z.1])):=by
 have hm:aa (I acc+1<=bY)=true:=aH jf;simp[om,fW (s:=[80,82,73,77,65,82,89]) b,s4];cases pO (l,n,ai,a)with
 |none=>rfl
 |some x=>
  simp[ hm,ax]
  grind
theorem aCI{kx:aX->qy->ae R}(rec:qy->ae R)(l:aA)(a:Int)(acc:U bk)(b:aV og l=ab):om rec kx (qf a7 l n ai a acc)=kx (.exit 0) (qf a7 l.tail n ai a acc):=by simp[om,gk (s:=[80,82,73,77,65,82,89]) b,bj]
theorem aCA{kx:aX->qy->ae R}(rec:qy->ae R)(l:aA)(a:Int)(acc:U bk):om rec kx (qf a7 l n ab a acc)=kx (.exit 0) (qf a7 l n ab a acc):=by simp[om,bj]
theorem ajT{kx:aX->qw->ae R}(rec:qw->ae R)(l:aA)(a:Int)(acc:U aq)(c:I acc<=1000000000)(b:aV [44] l=ab):mw rec kx (nx a7 cs cW l n ai a acc)=(DW (l.tail,n,ai,a)).bind λz=>rec (nx a7 cs cW z.2.1 z.2.2.1 z.2.2.2.1 z.2.2.2.2 (acc++[z.1])):=by
 have hm:aa (I acc+1<=bY)=true:=aH jf;simp[mw,gk b,DW];cases cI ([[67,72,69,67,75],[40]],l.tail,n,ai,a)with
 |none=>rfl
 |some y=>
  simp;cases jV y with
  |none=>rfl
  |some x=>
   simp[ hm,ax]
   grind
theorem ajS{kx:aX->qw->ae R}(rec:qw->ae R)(l:aA)(a:Int)(acc:U aq)(b:aV [44] l=ai):mw rec kx (nx a7 cs cW l n ai a acc)=kx (.exit 2) (nx a7 cs cW l n ai a acc):=by simp[mw,fW b,bj]
theorem SS{kx:aX->qw->ae R}(rec:qw->ae R)(l:aA)(a:Int)(acc:U aq):mw rec kx (nx a7 cs cW l n ab a acc)=kx (.exit 2) (nx a7 cs cW l n ab a acc):=by simp[mw,bj]
end
theorem RG(a7:ak)(cs:U bk)(cW:U ak)(l:aA)(n b:Int)(acc:U aq):dQ (kv n) b (ri (.exit 2) (nx a7 cs cW l n ab b acc)):=by show dQ (kv n) b ((cI ([[41]],l,n,ab,b)).bind λy=>J (y.1,y.2.1,y.2.2.1,y.2.2.2,1,a7,[],cs,cW,acc,[],[],ai,0,0,0,[],[],[],[],[],0));exact RJ
theorem ajk(K:Nat)(a7:ak)(l:aA)(n b:Int)(acc:U bk):dQ (kv n) b (CF (K+1) (.exit 0) (qf a7 l n ab b acc)):=by show dQ (kv n) b ((cI ([[75,69,89]],l,n,ab,b)).bind λy=>(nL y).bind λz=>aI (λrec=>mw rec ri) (K+1) (nx a7 acc z.1 z.2.1 z.2.2.1 z.2.2.2.1 z.2.2.2.2 []));refine dQ.dd (dQ.ee xp λcW=>?_);exact RG a7 acc cW l n b []
theorem Su(K:Nat)(a7:ak)(l:aA)(n b:Int)(acc:U bk):dQ (kv n) b (aI (λrec=>om rec (CF (K+1))) (K+1) (qf a7 l n ab b acc)):=by exact ajk K a7 l n b acc
theorem MS{part:aA->bR α}(b:eL part){l:aA}{x:U α}(h:jQ part l = .ok (x,aC)):I aC<I l:=by simp[jQ]at h;cases a:part l with|error q=>rw[a]at h;cases h|ok y=>rw[a]at h;have c:=b _ _ _ a;have d:=Pz b h;omega
theorem aoq{l:aA}{x:U ak}(h:o5 l = .ok (x,aC)):I aC<I l:=by obtain⟨_,aQ,a,h⟩:=kC h;obtain⟨y,d,b,h⟩:=kC h;obtain⟨_,e,c,h⟩:=kC h;have bc:=ku a;have f:=MS th b;have g:=ku c;exact lA
theorem awz(r:L<=1000000000){l:aA}(bz:I l<L)(n a:Int):Out (lp n a) (kv n) n (u' (l,n,ai,a,z0)) (wD l):=by
 rw[az1];unfold wD;refine Out.ee (l3 L) bz (λa7 aQ aY=>?_) (λa7 aQ b=>dQ.dd (dQ.ee Qh λx=>Su _ a7 aQ n b [x]));have bc:=tk aY;refine Out.dd dM (λj aZ=>?_) (λj b=>dQ.ee Qh λx=>Su _ a7 j n b [x]);have ep:=ku aZ;have de:∀(f:U bk->aA->bR aP),aN wN f j=aN mb (λx aC=>aN (k8 (I aC+1) [x]) f aC) j:=λf=>by unfold aN wN;cases mb j with|error q=>rfl|ok x=>rfl
 rw[de];refine Out.ee Rc (show I j<L by omega) (λx i bg=>?_) (λx i b=>Su _ a7 i n b [x]);have fr:I i<I j:=Bh _ _ _ bg;have kj:I [x]+I i<=1000000000:=hF
 have ao:=Ws (L:=L) (step:=λrec=>om rec (CF (I l+3))) (st:=qf a7) (n:=n) (c:=λacc aC b a=>CF (I l+3) (.exit 0) (qf a7 aC n b a acc)) (λrec l a acc o d=>aCF rec l a acc o d) (λrec l a acc d=>aCI rec l a acc d) (λrec l a acc=>aCA rec l a acc) a (I l+3) (I i+1) [x] i af af af kj;show Out _ _ _ (aI (λrec=>om rec (CF (I l+3))) (I l+3) (qf a7 i n ai a [x])) _;have p:∀(cs:U bk) (cW:U ak) (aC:aA) (b:Int),dQ (kv n) b (aI (λrec=>mw rec ri) (I l+3) (nx a7 cs cW aC n ab b [])):=λcs cW aC b=>by rw[c6,SS];exact RG a7 cs cW aC n b []
 unfold aN;cases s:k8 (I i+1) [x] i with
 |error q=>rw[s]at ao;obtain⟨e,aC,h⟩:=ao;rw[h];exact ajk _ a7 aC n (hA n q) e
 |ok y=>
  obtain⟨cs,v⟩:=y;rw[s]at ao;simp only at ao;rw[ao];have Ve:=Wj s;show Out _ _ _ ((cI ([[75,69,89]],v,n,ai,a)).bind λy=>(nL y).bind λz=>aI (λrec=>mw rec ri) (I l+3) (nx a7 cs z.1 z.2.1 z.2.2.1 z.2.2.2.1 z.2.2.2.2 [])) (aN (cY [wX]) (λ_=>aN o5 λcW=>aN (λl=>e5 kO (I l+1) [] l) λes=>aN (cY [[41]]) λ_=>cJ { eJ with kind:=1,name:=a7,ay:=cs,names:=cW,l:=es }) v);refine Out.dd dM (λt dE=>?_) (λt b=>dQ.ee xp λcW=>p cs cW t b);have aFs:=ku dE;refine Out.ee (XJ r) (show I t<L by omega) (λcW g eI=>?_) (λcW g b=>p cs cW g b);have aFt:=aoq eI;have w:I ([]:U aq)+I g<=1000000000:=d'
  show Out _ _ _ (aI (λrec=>mw rec ri) (I l+3) (nx a7 cs cW g n ai a [])) (aN (e5 kO (I g+1) []) _ g);refine Out.loop (a:=a) (λacc l b a=>ri (.exit 2) (nx a7 cs cW l n b a acc))
   (GN (step:=λrec=>mw rec ri) (st:=nx a7 cs cW) (n:=n) (c:=λacc l b a=>ri (.exit 2) (nx a7 cs cW l n b a acc)) (aee r) P8 (λrec l a acc o d=>ajT rec l a acc o d) (λrec l a acc d=>ajS rec l a acc d) (λrec l a acc=>SS rec l a acc) (a:=a) (k:=I l+3) (m:=I g+1) (acc:=[]) (l:=g) af af af w)
   (Gw (step:=λrec=>mw rec ri) (st:=nx a7 cs cW) (n:=n) (c:=λacc l b a=>ri (.exit 2) (nx a7 cs cW l n b a acc)) (aee r) P8 (λrec l a acc o d=>ajT rec l a acc o d) (λrec l a acc d=>ajS rec l a acc d) (λrec l a acc=>SS rec l a acc) (a:=a) (k:=I l+3) (m:=I g+1) (acc:=[]) (l:=g) af af af w) (λes u jJ=>?_) (λes u b=>RG a7 cs cW u n b es)
  show Out _ _ _ ((cI ([[41]],u,n,ai,a)).bind λy=>J (y.1,y.2.1,y.2.2.1,y.2.2.2,1,a7,[],cs,cW,es,[],[],ai,0,0,0,[],[],[],[],[],0)) _;exact Out.dd dM (λF6 _=>rfl) (λF6 b=>⟨_,rfl,rfl,rfl,rfl⟩)
theorem aB1(x:ae xv):(x.bind λ(r,s,t,u,v,a,b,c,d,e,f,g,h,i,j,k,l,m,n,o,p,q)=>J (r,s,t,u,v,a,b,c,d,e,f,g,h,i,j,k,l,m,n,o,p,q))=x:=by cases x<;>rfl
theorem asN(c:L<=1000000000){l:aA}(o:I l<L)(n a:Int):Out (lp n a) (kv n) n (EN (l,n,ai,a,z0)) (nO l):=by unfold EN nO;have p:=h8 l;cases d:aV vw l with|true=>show Out _ _ _ ((cz ([84,65,66,76,69],l,n,ai,a)).bind _) _;rw[gk (s:=[84,65,66,76,69]) d];show Out _ _ _ ((u' (l.tail,n,ai,a,z0)).bind _) _;rw[show((u' (l.tail,n,ai,a,z0)).bind _)=u' (l.tail,n,ai,a,z0) from aB1 _];exact awz c af n a|false=>show Out _ _ _ ((cz ([84,65,66,76,69],l,n,ai,a)).bind _) _;rw[fW (s:=[84,65,66,76,69]) d];show Out _ _ _ ((cI ([[73,78,68,69,88]],l,n,ai,a)).bind _) (vy l);unfold vy;refine Out.dd dM (λaQ g=>?_) (λaQ b=>dQ.ee oh λx=>dQ.dd (dQ.ee oh λy=>dQ.ee xp λz=>⟨_,rfl,rfl,rfl,rfl⟩));have bc:=ku g;refine Out.ee (l3 L) (show I aQ<L by omega) (λx h i=>?_) (λx h b=>dQ.dd (dQ.ee oh λy=>dQ.ee xp λz=>⟨_,rfl,rfl,rfl,rfl⟩));have q:=tk i;refine Out.dd dM (λe j=>?_) (λe b=>dQ.ee oh λy=>dQ.ee xp λz=>⟨_,rfl,rfl,rfl,rfl⟩);have r:=ku j;refine Out.ee (l3 L) (show I e<L by omega) (λy f k=>?_) (λy f b=>dQ.ee xp λz=>⟨_,rfl,rfl,rfl,rfl⟩);have t:=tk k;exact Out.ee (XJ c) (show I f<L by omega) (λz m u=>rfl) (λz m b=>⟨_,rfl,rfl,rfl,rfl⟩)
def yQ(x:ak×fY):ae ((ak×Bool)×fY):=cond (!x.2.2.2.1) ((cz ([68,69,83,67],x.2)).bind λz=>cond (!z.2.2.2.1) (cond (!z.1) ((cz ([65,83,67],z.2)).bind λy=>J ((x.1,z.1),y.2)) (J ((x.1,z.1),z.2))) (J ((x.1,z.1),z.2))) (cond (!x.2.2.2.1) ((cz ([65,83,67],x.2)).bind λy=>J ((x.1,ai),y.2)) (J ((x.1,ai),x.2)))
def rJ(s:fY):ae ((ak×Bool)×fY):=(eP s).bind yQ
theorem aiK(a7:ak)(l:aA)(n a:Int):yQ (a7,l,n,ab,a)=J ((a7,ai),l,n,ab,a):=rfl
theorem aiC(a7:ak)(l:aA)(n a:Int):∃d aC,rp l = .ok (d,aC)/\I aC<=I l/\yQ (a7,l,n,ai,a)=J ((a7,d),aC,n,ai,a):=by
 have c:=h8 l;unfold yQ rp;cases ar:aV J5 l with
 |true=>
  rw[gk (s:=[68,69,83,67]) ar]
  grind
 |false=>
  rw[fW (s:=[68,69,83,67]) ar];simp only[bA,bd];cases b:aV Kx l with
  |true=>
   rw[gk (s:=[65,83,67]) b]
   grind
  |false=>
   rw[fW (s:=[65,83,67]) b]
   grind
theorem aii:iI rJ:=λl n a=>by obtain⟨c,b⟩:=oh l n a;simp only[rJ,b,aiK];exact⟨_,rfl⟩
theorem NR:fT rJ uD L:=.of (λl n a c=>by refine Out.ee (l3 L) c (λa7 aQ g=>?_) (λa7 aQ b=>⟨_,aiK a7 aQ n b,rfl,rfl,rfl⟩);obtain⟨d,h,e,_,f⟩:=aiC a7 aQ n a;rw[f];unfold aN;rw[e];exact rfl) aii
theorem Ft:eL uD:=λl e aC h=>by obtain⟨a7,aQ,b,h⟩:=kC h;obtain⟨d,f,c,h⟩:=kC h;have bc:=tk b;obtain⟨g,i,a,j,_⟩:=aiC a7 aQ 0 0;rw[c]at a;cases a;exact lA
def r4(c:il)(m:Int):il:=(c.1,c.2.1,c.2.2.1,c.2.2.2.1,c.2.2.2.2.1,c.2.2.2.2.2.1,c.2.2.2.2.2.2.1,c.2.2.2.2.2.2.2.1,c.2.2.2.2.2.2.2.2.1,c.2.2.2.2.2.2.2.2.2.1,c.2.2.2.2.2.2.2.2.2.2.1,c.2.2.2.2.2.2.2.2.2.2.2.1,c.2.2.2.2.2.2.2.2.2.2.2.2.1,c.2.2.2.2.2.2.2.2.2.2.2.2.2.1,c.2.2.2.2.2.2.2.2.2.2.2.2.2.2.1,c.2.2.2.2.2.2.2.2.2.2.2.2.2.2.2.1,c.2.2.2.2.2.2.2.2.2.2.2.2.2.2.2.2.1,m)
def rH(s:fY)(c:il):ae rT:=cond (!s.2.2.1) ((cz ([76,73,77,73,84],s)).bind λz=>cond z.1 ((my z.2).bind λt=>cond (!decide (t.1.kind=3)) ((lD t.2).bind λy=>(jN y).bind λu=>J (u.2.1,u.2.2.1,u.2.2.2.1,u.2.2.2.2,r4 c u.1.n)) ((jN t.2).bind λu=>J (u.2.1,u.2.2.1,u.2.2.2.1,u.2.2.2.2,r4 c u.1.n))) (J (z.2.1,z.2.2.1,z.2.2.2.1,z.2.2.2.2,c))) (J (s.1,s.2.1,s.2.2.1,s.2.2.2,c))
theorem Sk(l:aA)(n b:Int)(c:il):dQ (kv n) b (rH (l,n,ab,b) c):=⟨_,rfl,rfl,rfl,rfl⟩
theorem amT(l:aA)(n a:Int)(c:il)(ao:r4 c (-1)=c):Out (λ(m:Int) aC=>((aC,n,ai,a,r4 c m):aA×Int×Bool×Int×il)) (kv n) n (rH (l,n,ai,a) c) (h' l):=by
 unfold rH h';cases b:aV R2 l with
 |false=>rw[fW (s:=[76,73,77,73,84]) b];show J (l,n,ai,a,c)=J (l,n,ai,a,r4 c (-1));rw[ao]
 |true=>
  rw[gk (s:=[76,73,77,73,84]) b];simp[ bd];cases d:l.tail with
  |nil=>exact⟨_,rfl,rfl,rfl,rfl⟩
  |cons t r=>rw[Gt];simp[ ue];cases e:aa (t.kind=3)with|true=>simp[ GC];exact rfl|false=>simp[ zo,GC];exact⟨_,rfl,rfl,rfl,rfl⟩
def pS(c:il)(o:U ak)(d:U Bool):il:=(c.1,c.2.1,c.2.2.1,c.2.2.2.1,c.2.2.2.2.1,c.2.2.2.2.2.1,c.2.2.2.2.2.2.1,c.2.2.2.2.2.2.2.1,c.2.2.2.2.2.2.2.2.1,c.2.2.2.2.2.2.2.2.2.1,c.2.2.2.2.2.2.2.2.2.2.1,c.2.2.2.2.2.2.2.2.2.2.2.1,c.2.2.2.2.2.2.2.2.2.2.2.2.1,c.2.2.2.2.2.2.2.2.2.2.2.2.2.1,c.2.2.2.2.2.2.2.2.2.2.2.2.2.2.1,o,d,c.2.2.2.2.2.2.2.2.2.2.2.2.2.2.2.2.2)
def sy(e:aX)(v:qt):ae rT:=match e with|.exit 0=>rH (v.1,v.2.1,v.2.2.1,v.2.2.2.1) v.2.2.2.2|_=>aj
def ux(K:Nat)(s:fY)(c:il):ae rT:=match s,c with
 |(bB,bE,h,bG),(i,j,k,l,m,n,p,q,r,t,u,v,w,x,y,b,a,z)=>
  let jn:=λ(ad:U Tok) (cq:Int) (ez:Bool) (ct:Int) (cM:U Bool) (o:U ak)=>aI (λrec=>mY rec sy) K (ad,cq,ez,ct,i,j,k,l,m,n,p,q,r,t,u,v,w,x,y,o,cM,z)
  cond (!h) (
    (cz ([79,82,68,69,82],bB,bE,h,bG)).bind λ(cV,a9,bZ,b7,ac)=>
    cond (cV) (
     (cI ([[66,89]],a9,bZ,b7,ac)).bind λ(cS,cZ,bJ,am)=>
     (eP (cS,cZ,bJ,am)).bind λ(d,a0,bI,e,a2)=>
      ax (aa (I b+1<=bY)) (
      cond (!e) (
       (cz ([68,69,83,67],a0,bI,e,a2)).bind λ(f,a3,a4,g,a5)=>
       cond (!g) (
        cond (!f) (
        (cz ([65,83,67],a3,a4,g,a5)).bind λ(_,db,dk,ap,hM)=>
         ax (aa (I a+1<=bY)) (
         jn db dk ap hM (a++[f]) (b++[d]))) (
        ax (aa (I a+1<=bY)) (
         jn a3 a4 g a5 (a++[f]) (b++[d])))) (
        ax (aa (I a+1<=bY)) (
        jn a3 a4 g a5 (a++[f]) (b++[d])))) (
       cond (!e) (
       (cz ([65,83,67],a0,bI,e,a2)).bind λ(_,dv,dI,ek,ev)=>
        ax (aa (I a+1<=bY)) (
        jn dv dI ek ev (a++[ai]) (b++[d]))) (
       ax (aa (I a+1<=bY)) (
        jn a0 bI e a2 (a++[ai]) (b++[d])))))) (
     rH (a9,bZ,b7,ac) (i,j,k,l,m,n,p,q,r,t,u,v,w,x,y,b,a,z))) (
    rH (bB,bE,h,bG) (i,j,k,l,m,n,p,q,r,t,u,v,w,x,y,b,a,z))
def DL(K:Nat)(s:fY)(es:U aq):ae rT:=(cI ([[70,82,79,77]],s)).bind λy=>(eP y).bind λx=>(lF (x.2.1,x.2.2.1,x.2.2.2.1,x.2.2.2.2,8,x.1,[],[],[],es,[],[],ai,0,0,0,[],[],[],[],[],(-1))).bind λr=>ux K (r.1,r.2.1,r.2.2.1,r.2.2.2.1) r.2.2.2.2
theorem Cap(l:aA)(n:Int)(b:Bool)(a:Int):AW (l,n,b,a,z0)=(cz ([42],l,n,b,a)).bind λx=>cond (!x.1) ((mZ x.2).bind λe=>DL (I l+3) e.2 e.1) (DL (I l+3) x.2 []):=by
 have bf:∀(e:aX) (v:qt),(match v with|(c,d,f,g,h,i,j,k,m,o,p,q,r,s,t,u,w,y,z,a0,bI,a2)=>match e with
   |.exit 0=>rH (c,d,f,g) (h,i,j,k,m,o,p,q,r,s,t,u,w,y,z,a0,bI,a2)
   |_=>aj:ae rT)=sy e v:=λe v=>by
  match e with|.exit 0=>rfl|.exit (_+1)=>rfl|.ret=>rfl|.normal=>rfl
 unfold AW DL ux;rfl
abbrev oQ(c:il)(l:aA)(n:Int)(b:Bool)(a:Int)(acc:U (ak×Bool)):qt:=(l,n,b,a,pS c (acc.map (·.1)) (acc.map (·.2)))
section
variable {R:Type}{kx:aX->qt->ae R}{n:Int}{c:il}
theorem aBS(rec:qt->ae R)(l:aA)(a:Int)(o:U ak)(d:U Bool)(bS:I o<=1000000000)(ar:I d<=1000000000)(u:aV [44] l=ab):mY rec kx (l,n,ai,a,pS c o d)=(rJ (l.tail,n,ai,a)).bind λz=>rec (z.2.1,z.2.2.1,z.2.2.2.1,z.2.2.2.2,pS c (o++[z.1.1]) (d++[z.1.2])):=by
 have k:aa (I o+1<=bY)=true:=aH jf;have m:aa (I d+1<=bY)=true:=aH jf;obtain⟨c1,c2,fZ,gQ,p,q,r,s,t,b,e,f,g,h,i,v,w,j⟩:=c;show mY rec kx (l,n,ai,a,c1,c2,fZ,gQ,p,q,r,s,t,b,e,f,g,h,i,o,d,j)=(rJ (l.tail,n,ai,a)).bind λz=>rec (z.2.1,z.2.2.1,z.2.2.2.1,z.2.2.2.2,c1,c2,fZ,gQ,p,q,r,s,t,b,e,f,g,h,i,o++[z.1.1],d++[z.1.2],j);simp[mY,gk u,rJ,k,m];cases eP (l.tail,n,ai,a)with
 |none=>rfl
 |some x=>
  obtain⟨hD,y,ik,gT,lV⟩:=x;simp only[bA,yQ];cases gT with
  |true=>rfl
  |false=>
   cases cz ([68,69,83,67],y,ik,ai,lV)with
   |none=>rfl
   |some z=>
    obtain⟨dF,z2,z3,z4,z5⟩:=z;simp only[bA];cases z4 with
    |true=>rfl
    |false=>cases dF with|true=>rfl|false=>cases cz ([65,83,67],z2,z3,ai,z5)<;>rfl
theorem alr(rec:qt->ae R)(l:aA)(a:Int)(acc:U (ak×Bool))(b:I acc<=1000000000)(d:aV [44] l=ab):mY rec kx (oQ c l n ai a acc)=(rJ (l.tail,n,ai,a)).bind λz=>rec (oQ c z.2.1 z.2.2.1 z.2.2.2.1 z.2.2.2.2 (acc++[z.1])):=by
 have e:∀x:ak×Bool,(acc++[x]).map (·.2)=acc.map (·.2)++[x.2]:=λx=>by simp
 have h:=aBS (kx:=kx) (n:=n) (c:=c) rec l a (acc.map (·.1)) (acc.map (·.2)) (by rw[List.length_map];exact b) (by rw[List.length_map];exact b) d;simp[oQ,e];exact h
theorem alq(rec:qt->ae R)(l:aA)(a:Int)(acc:U (ak×Bool))(b:aV [44] l=ai):mY rec kx (oQ c l n ai a acc)=kx (.exit 0) (oQ c l n ai a acc):=by simp[mY,pS,fW b,bj];rfl
theorem alp(rec:qt->ae R)(l:aA)(a:Int)(acc:U (ak×Bool)):mY rec kx (oQ c l n ab a acc)=kx (.exit 0) (oQ c l n ab a acc):=by rfl
end
theorem axs(K:Nat)(l:aA)(n a:Int)(c:il):ux K (l,n,ai,a) (pS c [] [])=(cz ([79,82,68,69,82],l,n,ai,a)).bind λz=>cond z.1 ((cI ([[66,89]],z.2)).bind λy=>(rJ y).bind λx=>aI (λrec=>mY rec sy) K (oQ c x.2.1 x.2.2.1 x.2.2.2.1 x.2.2.2.2 [x.1])) (rH z.2 (pS c [] [])):=by
 have r:aa (I ([]:U ak)+1<=bY)=true:=aH KF;have s:aa (I ([]:U Bool)+1<=bY)=true:=aH KF;obtain⟨c1,c2,fZ,gQ,j,k,m,o,p,b,d,e,f,g,h,t,u,i⟩:=c;show ux K (l,n,ai,a) (c1,c2,fZ,gQ,j,k,m,o,p,b,d,e,f,g,h,[],[],i)=(cz ([79,82,68,69,82],l,n,ai,a)).bind λz=>cond z.1 ((cI ([[66,89]],z.2)).bind λy=>(rJ y).bind λx=>aI (λrec=>mY rec sy) K (x.2.1,x.2.2.1,x.2.2.2.1,x.2.2.2.2,c1,c2,fZ,gQ,j,k,m,o,p,b,d,e,f,g,h,[x.1.1],[x.1.2],i)) (rH z.2 (c1,c2,fZ,gQ,j,k,m,o,p,b,d,e,f,g,h,[],[],i));simp[ux,ax];cases cz ([79,82,68,69,82],l,n,ai,a)with
 |none=>rfl
 |some q=>
  obtain⟨bc,v,w,kj,Ve⟩:=q;simp;cases bc with
  |false=>rfl
  |true=>
   simp;cases cI ([[66,89]],v,w,kj,Ve)with
   |none=>rfl
   |some y=>
    obtain⟨aFd,sH,yG,aFe⟩:=y;simp[ rJ];cases eP (aFd,sH,yG,aFe)with
    |none=>rfl
    |some x=>
     obtain⟨hD,gB,ik,gT,lV⟩:=x;simp only[bA,yQ]
     grind
theorem ahN(K:Nat)(l:aA)(n b:Int)(c:il):dQ (kv n) b (ux K (l,n,ab,b) c):=by exact Sk l n b _
theorem aaL(K:Nat)(c:il)(l:aA)(n b:Int)(acc:U (ak×Bool)):dQ (kv n) b (aI (λrec=>mY rec sy) (K+1) (oQ c l n ab b acc)):=by exact Sk l n b _
theorem asW(c:il)(o:U ak)(d:U Bool)(h:r4 c (-1)=c):r4 (pS c o d) (-1)=pS c o d:=by obtain⟨c1,c2,fZ,gQ,l,m,n,p,q,a,b,e,f,g,i,r,s,j⟩:=c;have k:(-1:Int)=j:=congrArg (λz:il=>z.2.2.2.2.2.2.2.2.2.2.2.2.2.2.2.2.2) h;show(c1,c2,fZ,gQ,l,m,n,p,q,a,b,e,f,g,i,o,d,(-1:Int))=(c1,c2,fZ,gQ,l,m,n,p,q,a,b,e,f,g,i,o,d,j);rw[<-k]
variable{K:Nat}
theorem apK(t:L<=1000000000){l:aA}(u:I l<L)(v:I l<K)(n a:Int)(c:il)(hm:r4 c (-1)=c):Out (λ(r:U (ak×Bool)×Int) aC=>((aC,n,ai,a,r4 (pS c (r.1.map (·.1)) (r.1.map (·.2))) r.2):aA×Int×Bool×Int×il)) (kv n) n (ux (K+1) (l,n,ai,a) (pS c [] [])) (aN kA (λo=>aN h' λm=>cJ (o,m)) l):=by
 rw[axs];have w:=h8 l;have g:∀(o:U (ak×Bool)) (aC:aA) (a:Int),Out (λ(r:U (ak×Bool)×Int) aC=>((aC,n,ai,a,r4 (pS c (r.1.map (·.1)) (r.1.map (·.2))) r.2):aA×Int×Bool×Int×il)) (kv n) n (rH (aC,n,ai,a) (pS c (o.map (·.1)) (o.map (·.2)))) (aN h' (λm=>cJ (o,m)) aC):=λo aC a=>Out.map (amT aC n a _ (asW c _ _ hm)) (λm f=>rfl)
 cases d:aV GM l with
 |false=>
  rw[fW (s:=[79,82,68,69,82]) d];have e:aN kA (λo=>aN h' λm=>cJ (o,m)) l=aN h' (λm=>cJ ([],m)) l:=by unfold aN kA;simp[d]
  rw[e];exact g [] l a
 |true=>
  rw[gk (s:=[79,82,68,69,82]) d];have e:aN kA (λo=>aN h' λm=>cJ (o,m)) l=aN (cY [CJ]) (λ_=>aN (jQ uD) λo=>aN h' λm=>cJ (o,m)) l.tail:=by unfold aN kA;simp[d];unfold aN;cases cY [CJ] l.tail<;>rfl
  rw[e];refine Out.dd dM (λaQ p=>?_) (λaQ b=>dQ.ee aii λx=>aaL K c aQ n b [x]);have bc:=ku p;rw[HN];refine Out.ee (NR (L:=L)) (show I aQ<L by omega) (λx f q=>?_) (λx f b=>aaL K c f n b [x]);have y:I f<I aQ:=Ft _ _ _ q;have j:I [x]+I f<=1000000000:=d'
  refine Out.loop (a:=a) (λacc l b a=>sy (.exit 0) (oQ c l n b a acc))
   (GN (step:=λrec=>mY rec sy) (st:=oQ c) (n:=n) (c:=λacc l b a=>sy (.exit 0) (oQ c l n b a acc)) (NR (L:=L)) Ft (λrec l a acc h d=>alr rec l a acc h d) (λrec l a acc d=>alq rec l a acc d) (λrec l a acc=>alp rec l a acc) (a:=a) (k:=K+1) (m:=I f+1) (acc:=[x]) (l:=f) af af af j)
   (Gw (step:=λrec=>mY rec sy) (st:=oQ c) (n:=n) (c:=λacc l b a=>sy (.exit 0) (oQ c l n b a acc)) (NR (L:=L)) Ft (λrec l a acc h d=>alr rec l a acc h d) (λrec l a acc d=>alq rec l a acc d) (λrec l a acc=>alp rec l a acc) (a:=a) (k:=K+1) (m:=I f+1) (acc:=[x]) (l:=f) af af af j) (λo i z=>?_) (λo i b=>Sk i n b _)
  exact g o i a
theorem Out.FQ{Vv:Type}{g' : β->aA->Vv}{AD:Int->Vv->Prop}{n:Int}{p:aA->bR α}{l:aA}(a:Out g E n x (p l)){G : eB->ae Vv}(d:∀r aC,p l = .ok (r,aC)->Out g' AD n (G (g r aC)) (f r aC))(e:∀b z,E b z->dQ AD b (G z)):Out g' AD n (x.bind G) (aN p f l):=by unfold aN;cases c:p l with|error q=>rw[c]at a;obtain⟨z,h,i⟩:=a;rw[h];exact e _ z i|ok y=>obtain⟨r,aC⟩:=y;rw[c]at a;rw[a];exact d r aC c
theorem anq{l:aA}{w:Bool×aq}(h:ky l = .ok (w,aC)):I aC<=I l:=by
 unfold ky at h;have c:=h8 l;cases b:aV Dq l with
 |false=>grind
 |true=>rw[b]at h;cases a:gq l.tail with|error q=>rw[a]at h;cases h|ok x=>rw[a]at h;cases h;have:=qF _ _ _ a;omega
theorem Nw(K:Nat)(es:U aq)(a7:ak)(l:aA)(n b:Int):dQ (kv n) b ((lF (l,n,ab,b,8,a7,[],[],[],es,[],[],ai,0,0,0,[],[],[],[],[],(-1))).bind λr=>ux K (r.1,r.2.1,r.2.2.1,r.2.2.2.1) r.2.2.2.2):=by exact ahN K l n b (8,a7,[],[],[],es,[],[],ai,0,0,0,[],[],[],[],[],(-1))
theorem aAF(K:Nat)(es:U aq)(l:aA)(n b:Int):dQ (kv n) b (DL K (l,n,ab,b) es):=dQ.dd (dQ.ee oh λa7=>Nw K es a7 l n b)
def Ku(es:U aq)(a7:ak)(w:Bool×aq)(o:U (ak×Bool))(m:Int):aP:={ eJ with kind:=8,name:=a7,l:=es,has:=w.1,cX:=w.2,order:=o.map (·.1),desc:=o.map (·.2),bH:=m }
theorem ad4(k:L<=1000000000){l:aA}(y:I l<L)(gK:I l<K)(n a:Int)(es:U aq):Out (lp n a) (kv n) n (DL (K+1) (l,n,ai,a) es) (aN (cY [ub]) (λ_=>aN fl λa7=>aN ky λw=>aN kA λo=>aN h' λm=>cJ (Ku es a7 w o m)) l):=by
 refine Out.dd dM (λaQ f=>?_) (λaQ b=>dQ.ee oh λa7=>Nw (K+1) es a7 aQ n b);have bc:=ku f;refine Out.ee (l3 L) (show I aQ<L by omega) (λa7 g i=>?_) (λa7 g b=>Nw (K+1) es a7 g n b);have ep:=tk i;refine Out.FQ (Pm k n a 8 a7 [] [] [] es [] [] [] [] (-1) (show I g<L by omega)) (λw d j=>?_) (λb z p=>?_)
 .have fr:=anq j;have h:=apK k (K:=K) (l:=d) af af n a (8,a7,[],[],[],es,[],[],w.1,w.2.kind,w.2.v.kind,w.2.v.n,w.2.v.s,w.2.name,w.2.l,[],[], -1) rfl;have e:aN kA (λo=>aN h' λm=>cJ (Ku es a7 w o m)) d=aN (aN kA λo=>aN h' λm=>cJ (o,m)) (λr=>cJ (Ku es a7 w r.1 r.2)) d:=by unfold aN;cases kA d with|error q=>rfl|ok x=>obtain⟨o,t⟩:=x;simp only;cases h' t<;>rfl
  rw[e];exact Out.map (g':=lp n a) h (λr aC=>rfl)
 .obtain⟨aC,u,cu,ca,c⟩:=z;obtain⟨f,i,j⟩:=p;subst f i j;exact ahN (K+1) aC u ca c
theorem aq9(d:L<=1000000000){l:aA}(h:I l<L)(n a:Int):Out (lp n a) (kv n) n (AW (l,n,ai,a,z0)) (pL l):=by
 rw[Cap];have j:=h8 l;have e:pL l=aN s8 (λes=>aN (cY [ub]) λ_=>aN fl λa7=>aN ky λw=>aN kA λo=>aN h' λm=>cJ (Ku es a7 w o m)) l:=rfl;rw[e];cases c:aV [42] l with
 |true=>
  rw[gk c];have g:∀f:U aq->aA->bR aP,aN s8 f l=f [] l.tail:=λf=>by unfold aN s8;simp[c]
  rw[g];exact ad4 d (K:=I l+2) af af n a []
 |false=>
  rw[fW c];have g:∀f:U aq->aA->bR aP,aN s8 f l=aN qT f l:=λf=>by unfold aN s8;simp[c]
  rw[g];refine Out.ee (VH d) h (λes aQ i=>?_) (λes aQ b=>aAF (I l+3) es aQ n b);have bc:I aQ<I l:=MS qF i;exact ad4 d (K:=I l+2) af af n a es
abbrev p_(n a:Int)(s:aP)(l:aA):aP×fY:=(s,q3 l,n,ai,a)
theorem R9(p:aA->bR α)(l:aA):aN p cJ l=p l:=by unfold aN cJ;cases p l<;>rfl
theorem aoe(s:aP)(l:aA)(n a:Int):((cz ([59],l,n,ai,a)).bind λz=>J (s,z.2))=J (s,q3 l,n,ai,a):=by unfold q3;cases b:aV [59] l with|true=>rw[gk b];rfl|false=>rw[fW b];rfl
theorem agG(s:aP):aP.mk s.kind s.name s.on s.ay s.names s.l s.rows s.bT s.has (aq.mk s.cX.kind ⟨s.cX.v.kind,s.cX.v.n,s.cX.v.s⟩ s.cX.name s.cX.l) s.order s.desc s.bH=s:=by obtain⟨k,a7,on,cs,cW,l,rs,ss,h,w,o,d,m⟩:=s;cases w;rfl
def uI(s:fY):ae (U aq×fY):=(cI ([[40]],s)).bind λy=>(mZ y).bind λe=>(cI ([[41]],e.2)).bind λw=>J (e.1,w)
theorem IQ:iI uI:=λl n a=>by obtain⟨c,b⟩:=Pq l n a;simp only[uI,tC,b,bA];exact⟨_,rfl⟩
theorem aoi{l:aA}{x:U aq}(h:qT l = .ok (x,aC)):I aC<I l:=MS qF h
theorem M'(c:L<=1000000000):fT uI DJ L:=.of (λl n a h=>by refine Out.dd dM (λaQ d=>?_) (λaQ b=>dQ.ee Pq λe=>dQ.dd ⟨_,rfl,rfl,rfl,rfl⟩);have bc:=ku d;refine Out.ee (VH c) (show I aQ<L by omega) (λe f i=>?_) (λe f b=>dQ.dd ⟨_,rfl,rfl,rfl,rfl⟩);exact Out.dd dM (λg j=>rfl) (λg b=>⟨_,rfl,rfl,rfl,rfl⟩)) IQ
theorem Fp:eL DJ:=λl e aC h=>by obtain⟨_,aQ,a,h⟩:=kC h;obtain⟨x,d,b,h⟩:=kC h;obtain⟨_,f,c,h⟩:=kC h;have bc:=ku a;have g:=aoi b;have i:=ku c;exact lA
abbrev po(a7:ak)(l:aA)(n:Int)(b:Bool)(a:Int)(acc:U (U aq)):ti:=(l,n,b,a,eJ,5,a7,[],[],[],[],acc,[],ai,0,0,0,[],[],[],[],[],0)
section
variable {R:Type}{kx:aX->ti->ae R}{n:Int}{a7:ak}
theorem alM(rec:ti->ae R)(l:aA)(a:Int)(acc:U (U aq))(c:I acc<=1000000000)(b:aV [44] l=ab):oq rec kx (po a7 l n ai a acc)=(uI (l.tail,n,ai,a)).bind λz=>rec (po a7 z.2.1 z.2.2.1 z.2.2.2.1 z.2.2.2.2 (acc++[z.1])):=by
 have hm:aa (I acc+1<=bY)=true:=aH jf;simp[oq,gk b,uI];cases cI ([[40]],l.tail,n,ai,a)with
 |none=>rfl
 |some y=>
  simp;cases mZ y with
  |none=>rfl
  |some x=>
   simp[ hm,ax]
   grind
theorem alL(rec:ti->ae R)(l:aA)(a:Int)(acc:U (U aq))(b:aV [44] l=ai):oq rec kx (po a7 l n ai a acc)=kx (.exit 0) (po a7 l n ai a acc):=by simp[oq,fW b,bj]
theorem alK(rec:ti->ae R)(l:aA)(a:Int)(acc:U (U aq)):oq rec kx (po a7 l n ab a acc)=kx (.exit 0) (po a7 l n ab a acc):=by simp[oq,bj]
end
def Rs(c:il):aP:=aP.mk c.1 c.2.1 c.2.2.1 c.2.2.2.1 c.2.2.2.2.1 c.2.2.2.2.2.1 c.2.2.2.2.2.2.1 c.2.2.2.2.2.2.2.1 c.2.2.2.2.2.2.2.2.1 (aq.mk c.2.2.2.2.2.2.2.2.2.1 ⟨c.2.2.2.2.2.2.2.2.2.2.1,c.2.2.2.2.2.2.2.2.2.2.2.1,c.2.2.2.2.2.2.2.2.2.2.2.2.1⟩ c.2.2.2.2.2.2.2.2.2.2.2.2.2.1 c.2.2.2.2.2.2.2.2.2.2.2.2.2.2.1) c.2.2.2.2.2.2.2.2.2.2.2.2.2.2.2.1 c.2.2.2.2.2.2.2.2.2.2.2.2.2.2.2.2.1 c.2.2.2.2.2.2.2.2.2.2.2.2.2.2.2.2.2
def Ks(s:fY)(c:il):ae tv:=cond (!s.2.2.1) ((cz ([59],s)).bind λz=>J (Rs c,z.2)) (J (Rs c,s))
theorem aq4(s:aP):Rs (SA s)=s:=agG s
theorem aAP(s:aP)(l:aA)(n a:Int):Ks (l,n,ai,a) (SA s)=J (p_ n a s l):=by unfold Ks;simp[ aq4];exact aoe s l n a
theorem acQ(l:aA)(n b:Int)(c:il):dQ (qv n) b (Ks (l,n,ab,b) c):=⟨_,rfl,rfl,rfl,rfl⟩
def yq(e:aX)(v:ti):ae tv:=match e with|.exit 0=>Ks (v.1,v.2.1,v.2.2.1,v.2.2.2.1) v.2.2.2.2.2|_=>aj
def SN(K:Nat)(s:fY):ae tv:=(cI ([[73,78,84,79]],s)).bind λy=>(eP y).bind λx=>(cI ([[86,65,76,85,69,83]],x.2)).bind λy=>(uI y).bind λz=>aI (λrec=>oq rec yq) K (po x.1 z.2.1 z.2.2.1 z.2.2.2.1 z.2.2.2.2 [z.1])
theorem JM(K:Nat)(a7:ak)(l:aA)(n b:Int)(acc:U (U aq)):dQ (qv n) b (aI (λrec=>oq rec yq) (K+1) (po a7 l n ab b acc)):=by exact acQ l n b (5,a7,[],[],[],[],acc,[],ai,0,0,0,[],[],[],[],[],0)
theorem ayr(g:L<=1000000000){l:aA}(t:I l<L)(u:I l<K)(n a:Int):Out (p_ n a) (qv n) n (SN (K+1) (l,n,ai,a)) (zx l):=by
 refine Out.dd dM (λaQ p=>?_) (λaQ b=>dQ.ee oh λa7=>dQ.dd (dQ.ee IQ λx=>JM K a7 aQ n b [x]));have bc:=ku p;refine Out.ee (l3 L) (show I aQ<L by omega) (λa7 j q=>?_) (λa7 j b=>dQ.dd (dQ.ee IQ λx=>JM K a7 j n b [x]));have v:=tk q;refine Out.dd dM (λf r=>?_) (λf b=>dQ.ee IQ λx=>JM K a7 f n b [x]);have w:=ku r;rw[HN];refine Out.ee (M' g) (show I f<L by omega) (λx d s=>?_) (λx d b=>JM K a7 d n b [x]);have y:I d<I f:=Fp _ _ _ s;have o:I [x]+I d<=1000000000:=d'
 refine Out.loop (a:=a) (λacc l b a=>yq (.exit 0) (po a7 l n b a acc))
  (GN (step:=λrec=>oq rec yq) (st:=po a7) (n:=n) (c:=λacc l b a=>yq (.exit 0) (po a7 l n b a acc)) (M' g) Fp (λrec l a acc h e=>alM rec l a acc h e) (λrec l a acc e=>alL rec l a acc e) (λrec l a acc=>alK rec l a acc) (a:=a) (k:=K+1) (m:=I d+1) (acc:=[x]) (l:=d) af af af o)
  (Gw (step:=λrec=>oq rec yq) (st:=po a7) (n:=n) (c:=λacc l b a=>yq (.exit 0) (po a7 l n b a acc)) (M' g) Fp (λrec l a acc h e=>alM rec l a acc h e) (λrec l a acc e=>alL rec l a acc e) (λrec l a acc=>alK rec l a acc) (a:=a) (k:=K+1) (m:=I d+1) (acc:=[x]) (l:=d) af af af o) (λrs i z=>?_) (λrs i b=>acQ i n b _)
 exact aAP { eJ with kind:=5,name:=a7,rows:=rs } i n a
theorem ayp{l:aA}(b:aV nN l=ai)(c:aV rq l=ai)(d:aV r0 l=ab)(n a:Int):r6 (l,n,ai,a)=SN (I l+3) (l.tail,n,ai,a):=by
 unfold r6 SN;show(cz ([67,82,69,65,84,69],l,n,ai,a)).bind _=_;rw[fW (s:=[67,82,69,65,84,69]) b];show(cz ([68,82,79,80],l,n,ai,a)).bind _=_;rw[fW (s:=[68,82,79,80]) c];show(cz ([73,78,83,69,82,84],l,n,ai,a)).bind _=_;rw[gk (s:=[73,78,83,69,82,84]) d];show(cI ([[73,78,84,79]],l.tail,n,ai,a)).bind _=_;cases cI ([[73,78,84,79]],l.tail,n,ai,a)with
 |none=>rfl
 |some y=>
  show(eP y).bind _=(eP y).bind _;cases eP y with
  |none=>rfl
  |some x=>
   show(cI ([[86,65,76,85,69,83]],x.2)).bind _=(cI ([[86,65,76,85,69,83]],x.2)).bind _;cases cI ([[86,65,76,85,69,83]],x.2)with
   |none=>rfl
   |some y=>
    show(cI ([[40]],y)).bind _=(uI y).bind _;unfold uI;cases cI ([[40]],y)with
    |none=>rfl
    |some y=>
     show(mZ y).bind _=Option.bind ((mZ y).bind _) _;cases mZ y with
     |none=>rfl
     |some e=>
      show(cI ([[41]],e.2)).bind _=Option.bind ((cI ([[41]],e.2)).bind _) _;cases cI ([[41]],e.2)with
      |none=>rfl
      |some w=>simp only[bA];refine congrFun (congrArg (λkx=>aI (λrec=>oq rec kx) (I l+3)) ?_) _;funext e v;match e with|.exit 0=>rfl|.exit (_+1)=>rfl|.ret=>rfl|.normal=>rfl
theorem SU(s:aP)(l:aA)(n a:Int):((cz ([59],l,n,ai,a)).bind λ(_,c,d,e,f)=>J (s,c,d,e,f))=J (p_ n a s l):=by unfold p_ q3;cases b:aV [59] l with|true=>rw[gk b];rfl|false=>rw[fW b];rfl
theorem Km(s:aP)(l:aA)(n a:Int):((cz ([59],l,n,ai,a)).bind λ(_,b,c,d,e)=>J (aP.mk s.kind s.name s.on s.ay s.names s.l s.rows s.bT s.has (aq.mk s.cX.kind ⟨s.cX.v.kind,s.cX.v.n,s.cX.v.s⟩ s.cX.name s.cX.l) s.order s.desc s.bH,b,c,d,e))=J (p_ n a s l):=by rw[agG];exact SU s l n a
theorem ayi(u:L<=1000000000){l:aA}(bz:I l<L)(n a:Int):Out (p_ n a) (qv n) n (r6 (l,n,ai,a)) (jk l):=by
 have b':=h8 l;have a2:=h8 l.tail;unfold jk;cases x:aV nN l with
 |true=>unfold r6;show Out _ _ _ ((cz ([67,82,69,65,84,69],l,n,ai,a)).bind _) (nO l.tail);rw[gk (s:=[67,82,69,65,84,69]) x,<-R9 nO];refine Out.FQ (asN u (l:=l.tail) af n a) (λs aC _=>Km s aC n a) (λb z f=>?_);obtain⟨aC,y,cu,ca,c1,c2,fZ,gQ,nk,n2,nm,p6,p7,g,i,j,k,m,o,p,r,t⟩:=z;obtain⟨c,d,e⟩:=f;simp only at c d e;subst c d e;exact⟨_,rfl,rfl,rfl,rfl⟩
 |false=>
  cases aZ:aV rq l with
  |true=>
   unfold r6 ry;show Out _ _ _ ((cz ([67,82,69,65,84,69],l,n,ai,a)).bind _) _;rw[fW (s:=[67,82,69,65,84,69]) x];show Out _ _ _ ((cz ([68,82,79,80],l,n,ai,a)).bind _) _;rw[gk (s:=[68,82,79,80]) aZ];show Out _ _ _ ((cz ([84,65,66,76,69],l.tail,n,ai,a)).bind _) _;cases v:aV vw l.tail with
   |true=>rw[gk (s:=[84,65,66,76,69]) v];have q:=h8 l.tail;exact Out.ee (l3 L) af (λa7 aC h=>SU { eJ with kind:=2,name:=a7 } aC n a) (λa7 aC b=>⟨_,rfl,rfl,rfl,rfl⟩)
   |false=>rw[fW (s:=[84,65,66,76,69]) v];refine Out.dd dM (λaQ bc=>?_) (λaQ b=>dQ.ee oh λa7=>⟨_,rfl,rfl,rfl,rfl⟩);have ep:=ku bc;exact Out.ee (l3 L) (show I aQ<L by omega) (λa7 aC h=>SU { eJ with kind:=4,name:=a7 } aC n a) (λa7 aC b=>⟨_,rfl,rfl,rfl,rfl⟩)
  |false=>
   cases v:aV r0 l with
   |true=>rw[ayp x aZ v];exact ayr u (K:=I l+2) af af n a
   |false=>
    unfold r6;show Out _ _ _ ((cz ([67,82,69,65,84,69],l,n,ai,a)).bind _) _;rw[fW (s:=[67,82,69,65,84,69]) x];show Out _ _ _ ((cz ([68,82,79,80],l,n,ai,a)).bind _) _;rw[fW (s:=[68,82,79,80]) aZ];show Out _ _ _ ((cz ([73,78,83,69,82,84],l,n,ai,a)).bind _) _;rw[fW (s:=[73,78,83,69,82,84]) v];show Out _ _ _ ((cz ([85,80,68,65,84,69],l,n,ai,a)).bind _) _;cases cB:aV tw l with
    |true=>rw[gk (s:=[85,80,68,65,84,69]) cB];rw[<-R9 xI];refine Out.FQ (asQ u (l:=l.tail) af n a) (λs aC _=>Km s aC n a) (λb z f=>?_);obtain⟨aC,y,cu,ca,c1,c2,fZ,gQ,nk,n2,nm,p6,p7,g,i,j,k,m,o,p,r,t⟩:=z;obtain⟨c,d,e⟩:=f;simp only at c d e;subst c d e;exact⟨_,rfl,rfl,rfl,rfl⟩
    |false=>
     rw[fW (s:=[85,80,68,65,84,69]) cB];show Out _ _ _ ((cz ([68,69,76,69,84,69],l,n,ai,a)).bind _) _;cases dE:aV tu l with
     |true=>
      rw[gk (s:=[68,69,76,69,84,69]) dE];unfold zb;have al:∀(a7:ak) (aC:aA) (b:Int) (G:xv->ae tv) (ak5:∀(z:il),dQ (qv n) b (G (aC,n,ab,b,z))),dQ (qv n) b ((lF (aC,n,ab,b,7,a7,[],[],[],[],[],[],ai,0,0,0,[],[],[],[],[],0)).bind G):=λa7 aC b G ak5=>by rw[MQ];exact ak5 _
      refine Out.dd dM (λaQ bc=>?_) (λaQ b=>dQ.ee oh λa7=>al a7 aQ b _ λz=>⟨_,rfl,rfl,rfl,rfl⟩);have ep:=ku bc;refine Out.ee (l3 L) (show I aQ<L by omega) (λa7 Cw fr=>?_) (λa7 Cw b=>al a7 Cw b _ λz=>⟨_,rfl,rfl,rfl,rfl⟩);have kj:=tk fr;refine Out.FQ (Pm u n a 7 a7 [] [] [] [] [] [] [] [] 0 (show I Cw<L by omega)) (λw aC _=>Km { eJ with kind:=7,name:=a7,has:=w.1,cX:=w.2 } aC n a) (λb z f=>?_);obtain⟨aC,y,cu,ca,c1,c2,fZ,gQ,nk,n2,nm,p6,p7,g,i,j,k,m,o,p,r,t⟩:=z;obtain⟨c,d,e⟩:=f;subst c d e;exact⟨_,rfl,rfl,rfl,rfl⟩
     |false=>rw[fW (s:=[68,69,76,69,84,69]) dE];show Out _ _ _ ((cz ([83,69,76,69,67,84],l,n,ai,a)).bind _) _;cases eI:aV r5 l with|true=>rw[gk (s:=[83,69,76,69,67,84]) eI];rw[<-R9 pL];refine Out.FQ (aq9 u (l:=l.tail) af n a) (λs aC _=>Km s aC n a) (λb z f=>?_);obtain⟨aC,y,cu,ca,c1,c2,fZ,gQ,nk,n2,nm,p6,p7,g,i,j,k,m,o,p,r,t⟩:=z;obtain⟨c,d,e⟩:=f;subst c d e;exact⟨_,rfl,rfl,rfl,rfl⟩|false=>rw[fW (s:=[83,69,76,69,67,84]) eI];show Out _ _ _ ((lD (l,n,ai,a)).bind _) (.error l);rw[zo];exact⟨_,rfl,rfl,rfl,rfl⟩
theorem avZ(t:Tok)(r:aA)(n a:Int):xP (t::r,n,ai,a)=J (ai,t::r,n,ab,t.pos):=by have e:aa (0<(I (t::r):Int))=true:=aH KI;simp[xP,LK,zo];rfl
theorem anP(l:aA)(n a:Int):xP (l,n,ab,a)=J (ai,l,n,ab,a):=by simp only[xP,LK];cases aa (0<(I l:Int))<;>rfl
def yF(s:ak):ae (aP×Int×Int):=if(iS s).2.2=0 then match o9 (iS s).1 with|.error q=>J (eJ,hA (I s) q,11)|.ok x=>(ou x).bind λe=>if e=0 then J (x,0,0)else J (eJ,0,e)else J (eJ,(iS s).2.1,(iS s).2.2)
theorem QN(s:ak)(i:I (iS s).1<1000000000):rr s=yF s:=by
 unfold yF rr;simp only[OI];by_cases b:(iS s).2.2=0
 .rw[aH b,if_pos b];simp;have a:=ayi (L:=1000000000) (bU _) i (I s:Int) 0;unfold o9;cases d:jk (iS s).1 with
  |error q=>rw[d]at a;obtain⟨⟨x,aC,l,cu,ca⟩,j,f,g,h⟩:=a;simp only at f g h;subst f g h;simp[j,anP];rfl
  |ok y=>
   obtain⟨x,aC⟩:=y;rw[d]at a;have a:r6 ((iS s).1,(I s:Int),ai,0)=J (x,q3 aC,(I s:Int),ai,0):=a;simp[a];cases k:q3 aC with
   |nil=>
    simp;cases ou x with
    |none=>rfl
    |some e=>
     simp only[bA];by_cases c:e=0
     .rw[aH c,if_pos c];rfl
     .exact CN
   |cons t r=>simp only[avZ];rfl
 .rw[aL b,if_neg b];rfl
theorem avY(L:aA)(g:a'):dV L g [73,78,68,69,88]=kR L [o6] g:=bW
theorem aAq(L:aA)(g:a'):dV L g [79,78]=kR L [sG] g:=bW
theorem att(L:aA)(g:a'):dV L g [86,65,76,85,69,83]=kR L [aiO] g:=bW
theorem aqY(L:aA)(g:a'):dV L g [83,69,84]=kR L [ajQ] g:=bW
theorem ap4(L:aA)(g:a'):dV L g [70,82,79,77]=kR L [ub] g:=bW
theorem azC(L:aA)(g:a'):dV L g [80,82,73,77,65,82,89,32,75,69,89]=kR L [og,wX] g:=bW
theorem auS(L:aA)(g:a'):dV L g [44,32,67,72,69,67,75,32,40]=kR L [[44],RS,[40]] g:=bW
theorem acp(e:aq):aq.mk e.kind ⟨e.v.kind,e.v.n,e.v.s⟩ e.name e.l=e:=m1 e
section
variable {L:aA}{eB:Type}
variable{j:Nat}
theorem Rt(d:I L<=1000000000){K:Bool->aq->a'->ae (eB×a')}{f:Bool×aq->aA->bR eB}(l:j<=I L)(g:∀b x (q:Nat),q<=I L->cQ L (K b x ⟨(q:Int),ai⟩) (f (b,x) (L.drop q)))(a:∀b x (q:Nat),cc (K b x ⟨(q:Int),ab⟩) q):cQ L ((dg L ⟨(j:Int),ai⟩ [87,72,69,82,69]).bind λb=>cond b ((m' L ⟨wr .i64 ((j:Int)+1),ai⟩ 1).bind λz=>K ab z.1 z.2) (K ai lZ ⟨(j:Int),ai⟩)) (aN ky f (L.drop j)):=by
 simp[jS];cases h:aV Dq (L.drop j)with
 |false=>
  have c:aV [87,72,69,82,69] (L.drop j)=false:=h;have e:aN ky f (L.drop j)=f (ai,lZ) (L.drop j):=by simp[aN,ky,h]
  grind
 |true=>
  have c:aV [87,72,69,82,69] (L.drop j)=true:=h;obtain⟨i,m⟩:=js h;have e:aN ky f (L.drop j)=aN gq (λe=>f (ab,e)) (L.drop (j+1)):=by
   simp[aN,ky,h]
   grind
  rw[c,e,bd,kM af];exact cQ.bind (r1 d) i af (λr q k _=>g ab r q k) (λr q=>a ab r q)
theorem yX{K:Bool->aq->a'->ae (eB×a')}{A:ae (eB×a')}(j:Nat)(a:∀b x (q:Nat),cc (K b x ⟨(q:Int),ab⟩) q):cc ((dg L ⟨(j:Int),ab⟩ [87,72,69,82,69]).bind λb=>cond b A (K ai lZ ⟨(j:Int),ab⟩)) j:=by simp[la,bj];exact a ai lZ j
variable{i:Nat}
theorem aoj(k:I L<=1000000000)(r:i<=I L):cQ L ((dV L ⟨(i:Int),ai⟩ [73,78,68,69,88]).bind λa=>(hI L a).bind λ(b,c)=>(dV L c [79,78]).bind λd=>(hI L d).bind λ(e,f)=>(vu L f).bind λ(g,h)=>J ((aP.mk 3 b e [] g [] [] [] ai (aq.mk 0 ⟨0,0,[]⟩ [] []) [] [] 0),h)) (vy (L.drop i)):=by simp[ aAq];have a7:=mu k (I L+1);refine cQ.dd k r (λj _ s _=>cQ.bind a7 s af (λn q t _=>cQ.dd k t (λu _ l _=>cQ.bind a7 l af (λo v m _=>cQ.bind (uU k) m af (λcW w p _=>.ok p) (λcW w=>cc.fp)) (λo v=>cc.bind (uU k) λcW=>cc.fp)) (λu=>cc.bind a7 λo=>cc.bind (uU k) λcW=>cc.fp)) (λn q=>cc.dd (cc.bind a7 λo=>cc.bind (uU k) λcW=>cc.fp))) (λj=>cc.bind a7 λn=>cc.dd (cc.bind a7 λo=>cc.bind (uU k) λcW=>cc.fp))
theorem ayE(c:I L<=1000000000)(d:i<=I L):cQ L (k_ L ⟨(i:Int),ai⟩ rq) (ry (L.drop i)):=by
 have a7:=mu c (I L+1);simp[k_,uT,jS,avY];cases h:aV vw (L.drop i)with
 |true=>
  have a:aV [84,65,66,76,69] (L.drop i)=true:=h;obtain⟨i1,g⟩:=js h;have e:ry (L.drop i)=aN fl (λn=>cJ { eJ with kind:=2,name:=n }) (L.drop (i+1)):=by simp[ry,h]
  rw[a,e,kM af];exact cQ.bind a7 i1 af (λn q b _=>.ok b) (λn q=>cc.fp)
 |false=>
  have a:aV [84,65,66,76,69] (L.drop i)=false:=h;have e:ry (L.drop i)=aN (cY [o6]) (λ_=>aN fl λn=>cJ { eJ with kind:=4,name:=n }) (L.drop i):=by simp[ry,h]
  rw[a,e];exact cQ.dd c d (λj _ f _=>cQ.bind a7 f af (λn q b _=>.ok b) (λn q=>cc.fp)) (λj=>cc.bind a7 λn=>cc.fp)
theorem avn(a:I L<=1000000000)(e:i<=I L):cQ L (k_ L ⟨(i:Int),ai⟩ tu) (zb (L.drop i)):=by have a7:=mu a (I L+1);simp[k_,uT,m1];exact cQ.dd a e (λj _ f _=>cQ.bind a7 f af (λn q h _=>Rt (K:=λb x g=>J ((aP.mk 7 n [] [] [] [] [] [] b x [] [] 0),g)) a h (λb x c d=>.ok d) (λb x c=>cc.fp)) (λn q=>yX (K:=λb x g=>J ((aP.mk 7 n [] [] [] [] [] [] b x [] [] 0),g)) q (λb x c=>cc.fp))) (λj=>cc.bind a7 λn=>yX (K:=λb x g=>J ((aP.mk 7 n [] [] [] [] [] [] b x [] [] 0),g)) j (λb x c=>cc.fp))
theorem we{p:aA->bR α}(h:eL p):xq p:=λl e aC a=>Nat.le_of_lt (h l e aC a)
theorem ae6(c:I L<=1000000000):iu L (I L+1) (λg=>(dV L g [40]).bind λa=>(vn L a).bind λz=>(dV L z.2 [41]).bind λb=>J (z.1,b)) DJ:=.of (λi e _=>by
 simp[ tA];exact cQ.dd c e (λj _ f _=>cQ.bind (Lx c) f af (λr q h _=>cQ.dd c h (λk _ d _=>.ok d) (λk=>cc.fp)) (λr q=>cc.dd cc.fp)) (λj=>cc.bind (Lx c) λr=>cc.dd cc.fp)) (λi=>by
 simp[Gy,tA];exact cc.dd (cc.bind (Lx c) λr=>cc.dd cc.fp))
theorem aw3(gR:I L<=1000000000)(bO:i<=I L):cQ L (k_ L ⟨(i:Int),ai⟩ r0) (zx (L.drop i)):=by
 have a7:=mu gR (I L+1);simp[k_,uT,att];have a5:∀(n:ak) (rec:Hp->ae (aP×a')) (acc:U (U aq)) (g:a'),I acc<=1000000000->C4 rec (λe eA=>match eA with|(_,_,_,_,_,_,_,_,_,_,_,_,_,_,_,_,_,_,_,_,_,_,_,_,_,_,_,_,_,_,_,_,_,_,_,_,_,_,_,a,d,f,h,k,l,o,p,r,s,t,u,v,w,x,y,a0,bI,a2)=>match e with
  |.ret=>J ((aP.mk a d f h k l o p r (aq.mk s ⟨t,u,v⟩ w x) y a0 bI),a2)
  |_=>aj) (L,0,[],[],[],[],[],[],[],ai,0,0,0,[],[],[],[],[],0,(a'.mk 0 ai),g,5,n,[],[],[],[],acc,[],ai,0,0,0,[],[],[],[],[],0,0,[],[],[],[],[],[],[],ai,0,0,0,[],[],[],[],[],0,(a'.mk 0 ai))=((dV L g [40]).bind λa3=>(vn L a3).bind λz=>(dV L z.2 [41]).bind λa4=>J (z.1,a4)).bind λz=>(dg L z.2 [44]).bind λb=>cond (!b) (J ((aP.mk 5 n [] [] [] [] (acc++[z.1]) [] ai lZ [] [] 0),z.2)) (rec (L,0,[],[],[],[],[],[],[],ai,0,0,0,[],[],[],[],[],0,(a'.mk 0 ai),⟨wr .i64 (z.2.pos+1),z.2.bad⟩,5,n,[],[],[],[],acc++[z.1],[],ai,0,0,0,[],[],[],[],[],0,0,[],[],[],[],[],[],[],ai,0,0,0,[],[],[],[],[],0,(a'.mk 0 ai))):=λn rec acc g c5=>by
  have hm:aa (I acc+1<=bY)=true:=aH jf;simp[C4,hm,Option.bind_assoc];rfl
 refine cQ.dd gR bO (λj _ dh _=>cQ.bind a7 dh af (λn q bV _=>cQ.dd gR bV (λih _ bB _=>?_) (λih=>?_)) (λn q=>cc.dd ?_)) (λj=>cc.bind a7 λn=>cc.dd ?_)
 .rw[Fq (we Fp) (m:=I L+1) rM];exact yS (c:=λacc g=>J ((aP.mk 5 n [] [] [] [] acc [] ai lZ [] [] 0),g)) gR (ae6 gR) (we Fp) (a5 n) (λacc q bV=>.ok bV) (λacc q=>cc.fp) (I L+3) (I L+1) [] ih bB af af d'
 all_goals exact E7 (c:=λacc g=>J ((aP.mk 5 n [] [] [] [] acc [] ai lZ [] [] 0),g)) (ae6 gR) (a5 n) (λacc q=>cc.fp) (I L+2) [] (by simp) _
end
section
variable {L:aA}
theorem afs(b:I L<=1000000000):iu L (I L+1) (λg=>(hI L g).bind λy=>(dV L y.2 [61]).bind λa=>(m' L a 1).bind λz=>J (ds.mk y.1 z.1,z.2)) DF:=.of (λi d _=>by
 simp[acq];exact cQ.bind (mu b (I L+1)) d af (λn q e _=>cQ.dd b e (λj _ f _=>cQ.bind (r1 b) f af (λr h c _=>.ok c) (λr h=>cc.fp)) (λj=>cc.bind (r1 b) λr=>cc.fp)) (λn q=>cc.dd (cc.bind (r1 b) λr=>cc.fp))) (λi=>by
 simp[acq];exact cc.bind (mu b (I L+1)) λn=>cc.dd (cc.bind (r1 b) λr=>cc.fp))
def JR(n:ak)(acc:U ds)(b:Bool)(x:aq)(g:a'):ae (aP×a'):=J ((aP.mk 6 n [] [] [] [] [] acc b x [] [] 0),g)
def Eb(L:aA)(n:ak)(acc:U ds)(g:a'):ae (aP×a'):=(dg L g [87,72,69,82,69]).bind λb=>cond b ((m' L ⟨wr .i64 (g.pos+1),ai⟩ 1).bind λz=>JR n acc ab z.1 z.2) (JR n acc ai lZ g)
variable{i:Nat}
theorem axj(gR:I L<=1000000000)(bO:i<=I L):cQ L (k_ L ⟨(i:Int),ai⟩ tw) (xI (L.drop i)):=by
 simp[k_,uT,aqY];have bG:∀(n:ak) (rec:HF->ae (aP×a')) (acc:U ds) (g:a'),I acc<=1000000000->C8 rec (λe eA=>match eA with|(_,_,_,_,_,_,_,_,_,_,_,_,_,_,_,_,_,_,_,_,_,_,_,_,_,_,_,_,_,_,_,_,_,_,_,_,_,_,_,a,d,h,k,l,o,p,r,s,t,u,v,a0,bI,a2,a3,a4,a5,bB)=>match e with
  |.ret=>J ((aP.mk a d h k l o p r s (aq.mk t ⟨u,v,a0⟩ bI a2) a3 a4 a5),bB)
  |_=>aj) (L,0,[],[],[],[],[],[],[],ai,0,0,0,[],[],[],[],[],0,(a'.mk 0 ai),g,6,n,[],[],[],[],[],acc,ai,0,0,0,[],[],[],[],[],0,0,[],[],[],[],[],[],[],ai,0,0,0,[],[],[],[],[],0,(a'.mk 0 ai))=((hI L g).bind λy=>(dV L y.2 [61]).bind λbE=>(m' L bE 1).bind λz=>J (ds.mk y.1 z.1,z.2)).bind λz=>(dg L z.2 [44]).bind λb=>cond (!b) (Eb L n (acc++[z.1]) z.2) (rec (L,0,[],[],[],[],[],[],[],ai,0,0,0,[],[],[],[],[],0,(a'.mk 0 ai),⟨wr .i64 (z.2.pos+1),z.2.bad⟩,6,n,[],[],[],[],[],acc++[z.1],ai,0,0,0,[],[],[],[],[],0,0,[],[],[],[],[],[],[],ai,0,0,0,[],[],[],[],[],0,(a'.mk 0 ai))):=λn rec acc g c5=>by
  have hm:aa (I acc+1<=bY)=true:=aH jf;simp[C8,hm,Option.bind_assoc,m1,acp];rfl
 have ao:∀n acc (q:Nat),q<=I L->cQ L (Eb L n acc ⟨(q:Int),ai⟩) (aN ky (λw=>cJ { eJ with kind:=6,name:=n,bT:=acc,has:=w.1,cX:=w.2 }) (L.drop q)):=λn acc q bV=>Rt (K:=JR n acc) gR bV (λb x ep bZ=>.ok bZ) (λb x ep=>cc.fp);have a9:∀n acc (q:Nat),cc (Eb L n acc ⟨(q:Int),ab⟩) q:=λn acc q=>yX (K:=JR n acc) q (λb x ep=>cc.fp);refine cQ.bind (mu gR (I L+1)) bO af (λn q bV _=>cQ.dd gR bV (λj _ dh _=>?_) (λj=>?_)) (λn q=>cc.dd ?_)
 .rw[Fq (we Bm) (m:=I L+1) rM];exact yS (c:=λacc g=>Eb L n acc g) (f:=λacc=>aN ky (λw=>cJ { eJ with kind:=6,name:=n,bT:=acc,has:=w.1,cX:=w.2 })) gR (afs gR) (we Bm) (bG n) (λacc q bV=>ao n acc q bV) (λacc q=>a9 n acc q) (I L+3) (I L+1) [] j dh af af d'
 all_goals exact E7 (c:=λacc g=>Eb L n acc g) (afs gR) (bG n) (λacc q=>a9 n acc q) (I L+2) [] (by simp) _
def pa(L:aA)(S:Int->aP)(g:a'):ae (aP×a'):=(dg L g [76,73,77,73,84]).bind λb=>cond b ((oY L ⟨wr .i64 (g.pos+1),g.bad⟩).bind λt=>cond (!decide (t.kind=3)) (J (S (-1),⟨wr .i64 (g.pos+1),ab⟩)) (J (S t.n,⟨wr .i64 (wr .i64 (g.pos+1)+1),g.bad⟩))) (J (S (-1),g))
variable{j:Nat}
theorem adH(i:I L<=1000000000)(S:Int->aP)(c:j<=I L):cQ L (pa L S ⟨(j:Int),ai⟩) (aN h' (λm=>cJ (S m)) (L.drop j)):=by
 have ij:wr .i64 ((j:Int)+1)=((j+1:Nat):Int):=kM af;have w1:wr .i64 (((j+1:Nat):Int)+1)=((j+2:Nat):Int):=kM af;simp only[pa,jS,bA,ij,w1,xM];cases h:aV R2 (L.drop j)with
 |false=>
  have a:aV [76,73,77,73,84] (L.drop j)=false:=h;have e:aN h' (λm=>cJ (S m)) (L.drop j) = .ok (S (-1),L.drop j):=by simp[aN,h',h];rfl
  rw[a,e];exact .ok c
 |true=>
  have a:aV [76,73,77,73,84] (L.drop j)=true:=h;obtain⟨b,k⟩:=js h;have e:aN h' (λm=>cJ (S m)) (L.drop j)=aN ue (λm=>cJ (S m)) (L.drop (j+1)):=by simp[aN,h',h]
  rw[a,e,bd];by_cases d:j+1<I L
  .have key:∀t:ft.Tok,cQ L (cond (!decide (t.kind=3)) (J (S (-1),(⟨((j+1:Nat):Int),ab⟩:a'))) (J (S t.n,⟨((j+2:Nat):Int),ai⟩))) (match aa (t.kind=3)with
     |true=>.ok (S t.n,L.drop (j+2))
     |false=>.error (L.drop (j+1))):=λt=>by
    cases aa (t.kind=3)with|true=>exact .ok (show j+2<=I L by omega)|false=>exact .fR b
   obtain⟨t,b'⟩:∃t,L.drop (j+1)=t::L.drop (j+2):=⟨L[j+1],da d⟩;have f:yc (L.drop (j+1))=t:=by rw[b'];rfl
   have g:aN ue (λm=>cJ (S m)) (L.drop (j+1))=match aa (t.kind=3)with
     |true=>.ok (S t.n,L.drop (j+2))
     |false=>.error (L.drop (j+1)):=by
    rw[b'];simp[aN,ue];cases aa (t.kind=3)<;>rfl
   rw[f,g];exact key t
  .have ar:L.drop (j+1)=[]:=gn af;rw[ar];exact⟨j+1,S (-1),b,ar.symm,rfl⟩
theorem Qi(S:Int->aP)(j:Nat):cc (pa L S ⟨(j:Int),ab⟩) j:=by simp[pa,la];exact cc.fp
def Kb(L:aA)(g:a'):ae ((ak×Bool)×a'):=(hI L g).bind λy=>(dg L y.2 [68,69,83,67]).bind λd=>cond d (J ((y.1,d),⟨wr .i64 (y.2.pos+1),y.2.bad⟩)) ((dg L y.2 [65,83,67]).bind λa=>cond a (J ((y.1,d),⟨wr .i64 (y.2.pos+1),y.2.bad⟩)) (J ((y.1,d),y.2)))
theorem aea(g:I L<=1000000000):iu L (I L+1) (Kb L) uD:=.of (λi h _=>by
 refine cQ.bind (mu g (I L+1)) h af (λn q j _=>?_) (λn q=>?_)
 .have ij:wr .i64 ((q:Int)+1)=((q+1:Nat):Int):=kM af;simp[jS,ij];cases b:aV J5 (L.drop q)with
  |true=>
   have f:aV [68,69,83,67] (L.drop q)=true:=b;obtain⟨bc,k⟩:=js b;have e:aN rp (λd=>cJ (n,d)) (L.drop q) = .ok ((n,ab),L.drop (q+1)):=by simp[aN,rp,b];rfl
   rw[f,e];exact .ok bc
  |false=>
   have f:aV [68,69,83,67] (L.drop q)=false:=b;rw[f,bj];cases c:aV Kx (L.drop q)with
   |true=>
    have a:aV [65,83,67] (L.drop q)=true:=c;obtain⟨bc,k⟩:=js c;have e:aN rp (λd=>cJ (n,d)) (L.drop q) = .ok ((n,ai),L.drop (q+1)):=by simp[aN,rp,b,c];rfl
    rw[a,e];exact .ok bc
   |false=>
    have a:aV [65,83,67] (L.drop q)=false:=c;have e:aN rp (λd=>cJ (n,d)) (L.drop q) = .ok ((n,ai),L.drop q):=by simp[aN,rp,b,c];rfl
    rw[a,e];exact .ok j
 .simp[la];exact cc.fp) (λi=>by
 refine cc.bind (mu g (I L+1)) λn=>?_;simp[la];exact cc.fp)
def ru(n:ak)(es:U aq)(b:Bool)(x:aq)(o:U (ak×Bool))(m:Int):aP:=aP.mk 8 n [] [] [] es [] [] b x (o.map (·.1)) (o.map (·.2)) m
theorem azn(a:I L<=1000000000){V:Type}{step:(V->ae (aP×a'))->V->ae (aP×a')}{st:U (ak×Bool)->a'->V}{S:U (ak×Bool)->Int->aP}(d:∀rec acc g,I acc<=1000000000->step rec (st acc g)=(Kb L g).bind λz=>(dg L z.2 [44]).bind λb=>cond (!b) (pa L (S (acc++[z.1])) z.2) (rec (st (acc++[z.1]) ⟨wr .i64 (z.2.pos+1),z.2.bad⟩)))(l:j<=I L):cQ L ((dg L ⟨(j:Int),ai⟩ [79,82,68,69,82]).bind λb=>cond b ((dV L ⟨(j:Int),ai⟩ [79,82,68,69,82,32,66,89]).bind λg=>aI step (I L+3) (st [] g)) (pa L (S []) ⟨(j:Int),ai⟩)) (aN kA (λo=>aN h' λm=>cJ (S o m)) (L.drop j)):=by
 simp[jS];cases h:aV GM (L.drop j)with
 |false=>
  have i:aV [79,82,68,69,82] (L.drop j)=false:=h;have e:aN kA (λo=>aN h' λm=>cJ (S o m)) (L.drop j)=aN h' (λm=>cJ (S [] m)) (L.drop j):=by simp[aN,kA,h]
  rw[i,e];exact adH a (S []) l
 |true=>
  have i:aV [79,82,68,69,82] (L.drop j)=true:=h;have e:aN kA (λo=>aN h' λm=>cJ (S o m)) (L.drop j)=aN (cY [GM,CJ]) (λ_=>aN (jQ uD) (λo=>aN h' λm=>cJ (S o m))) (L.drop j):=by simp only[aN,kA,cY,h];cases aV CJ (L.drop j).tail<;>rfl
  rw[i,e,bd];refine cQ.dd a l (λq _ k _=>?_) (λq=>?_)
  .rw[Fq (we Ft) (m:=I L+1) rM];exact yS (c:=λacc g=>pa L (S acc) g) (f:=λo=>aN h' λm=>cJ (S o m)) a (aea a) (we Ft) d (λacc q k=>adH a (S acc) k) (λacc q=>Qi (S acc) q) (I L+3) (I L+1) [] q k af af d'
  .exact E7 (c:=λacc g=>pa L (S acc) g) (aea a) d (λacc q=>Qi (S acc) q) (I L+2) [] (by simp) q
theorem ap5{A:ae (aP×a')}(S:Int->aP)(j:Nat):cc ((dg L ⟨(j:Int),ab⟩ [79,82,68,69,82]).bind λb=>cond b A (pa L S ⟨(j:Int),ab⟩)) j:=by simp[la];exact Qi S j
end
section
variable {L:aA}
def DU:aX->qD->ae (aP×a'):=λe y=>match y with|(u,_,_,_,_,_,_,_,_,_,_,_,_,_,_,_,_,_,_,_,a,b,c,d,f,g,h,i,j,k,l,m,o,p,q,r,s,t,v,_,_,_,_,_,_,_,_,_,_,_,_,_,_,_,_,_,_,_)=>match e with
 |.exit 0=>(dg u a [76,73,77,73,84]).bind λx=>cond (x) ((oY u (a'.mk (wr .i64 (a.pos+1)) a.bad)).bind λw=>cond (!decide (w.kind=3)) (J ((aP.mk b c d f g h i j k (aq.mk l ⟨m,o,p⟩ q r) s t v),(a'.mk (wr .i64 (a.pos+1)) ab))) (J ((aP.mk b c d f g h i j k (aq.mk l ⟨m,o,p⟩ q r) s t w.n),(a'.mk (wr .i64 ((wr .i64 (a.pos+1))+1)) a.bad)))) (J ((aP.mk b c d f g h i j k (aq.mk l ⟨m,o,p⟩ q r) s t v),a))
 |_=>aj
def JZ(b:Bool):(qD->ae (aP×a'))->qD->ae (aP×a'):=match b with|true=>λrec=>B5 rec DU|false=>λrec=>zr rec DU
def s9(L:aA)(n:ak)(es:U aq)(b:Bool)(x:aq)(acc:U (ak×Bool))(g:a'):qD:=(L,0,[],[],[],[],[],[],[],ai,0,0,0,[],[],[],[],[],0,(a'.mk 0 ai),g,8,n,[],[],[],es,[],[],b,x.kind,x.v.kind,x.v.n,x.v.s,x.name,x.l,acc.map (·.1),acc.map (·.2),(-1),0,[],[],[],[],[],[],[],ai,0,0,0,[],[],[],[],[],0,(a'.mk 0 ai))
def uw(L:aA)(n:ak)(es:U aq)(b:Bool)(x:aq)(g:a'):ae (aP×a'):=(dg L g [79,82,68,69,82]).bind λc=>cond c ((dV L g [79,82,68,69,82,32,66,89]).bind λg=>aI (JZ b) (I L+3) (s9 L n es b x [] g)) (pa L (ru n es b x []) g)
def D_(L:aA)(q:a')(es:U aq):ae (aP×a'):=(dV L q [70,82,79,77]).bind λg=>(hI L g).bind λy=>(dg L y.2 [87,72,69,82,69]).bind λb=>cond b ((m' L ⟨wr .i64 (y.2.pos+1),ai⟩ 1).bind λz=>uw L y.1 es ab z.1 z.2) (uw L y.1 es ai lZ y.2)
theorem awu(n:ak)(es:U aq)(b:Bool)(x:aq)(rec:qD->ae (aP×a'))(acc:U (ak×Bool))(g:a')(e:I acc<=1000000000):JZ b rec (s9 L n es b x acc g)=(Kb L g).bind λz=>(dg L z.2 [44]).bind λcu=>cond (!cu) (pa L (ru n es b x (acc++[z.1])) z.2) (rec (s9 L n es b x (acc++[z.1]) ⟨wr .i64 (z.2.pos+1),z.2.bad⟩)):=by
 have hm:aa (I (acc.map (·.1))+1<=bY)=true:=aH jf;have c:aa (I (acc.map (·.2))+1<=bY)=true:=aH jf;have ag:∀(q:a') (y:ak×Bool),DU (.exit 0) (s9 L n es b x (acc++[y]) q)=pa L (ru n es b x (acc++[y])) q:=λq y=>by simp only[DU,s9,acp];rfl
 have key:∀(y:ak×a') (d:Bool) (q:a'),((dg L q [44]).bind λcu=>cond (!cu) (DU (.exit 0) (L,0,[],[],[],[],[],[],[],ai,0,0,0,[],[],[],[],[],0,(a'.mk 0 ai),q,8,n,[],[],[],es,[],[],b,x.kind,x.v.kind,x.v.n,x.v.s,x.name,x.l,acc.map (·.1)++[y.1],acc.map (·.2)++[d],(-1),0,[],[],[],[],[],[],[],ai,0,0,0,[],[],[],[],[],0,(a'.mk 0 ai))) (rec (L,0,[],[],[],[],[],[],[],ai,0,0,0,[],[],[],[],[],0,(a'.mk 0 ai),⟨wr .i64 (q.pos+1),q.bad⟩,8,n,[],[],[],es,[],[],b,x.kind,x.v.kind,x.v.n,x.v.s,x.name,x.l,acc.map (·.1)++[y.1],acc.map (·.2)++[d],(-1),0,[],[],[],[],[],[],[],ai,0,0,0,[],[],[],[],[],0,(a'.mk 0 ai))))=(dg L q [44]).bind λcu=>cond (!cu) (pa L (ru n es b x (acc++[(y.1,d)])) q) (rec (s9 L n es b x (acc++[(y.1,d)]) ⟨wr .i64 (q.pos+1),q.bad⟩)):=λy d q=>by rw[<-ag];simp[s9]
 cases b<;>(
  dsimp only[JZ,s9,B5,zr];simp only[hm,c,Kb];cases hI L g with
  |none=>rfl
  |some y=>
   simp only[bA];cases ar:dg L y.2 [68,69,83,67]with
   |none=>rfl
   |some d=>
    simp only[bA];cases d with
    |true=>exact key y ab _
    |false=>
     cases dg L y.2 [65,83,67]with
     |none=>rfl
     |some a=>
      cases a with
      |true=>exact key y ai _
      |false=>exact key y ai _)
variable{j:Nat}
theorem av6(a:I L<=1000000000)(n:ak)(es:U aq)(b:Bool)(x:aq)(c:j<=I L):cQ L (uw L n es b x ⟨(j:Int),ai⟩) (aN kA (λo=>aN h' λm=>cJ (ru n es b x o m)) (L.drop j)):=azn (step:=JZ b) (st:=s9 L n es b x) (S:=ru n es b x) a (λrec acc g d=>awu n es b x rec acc g d) c
theorem Hq(n:ak)(es:U aq)(b:Bool)(x:aq)(j:Nat):cc (uw L n es b x ⟨(j:Int),ab⟩) j:=ap5 (ru n es b x []) j
theorem Xx(c:I L<=1000000000)(es:U aq)(d:j<=I L):cQ L (D_ L ⟨(j:Int),ai⟩ es) (aN (cY [ub]) (λ_=>aN fl λn=>aN ky λw=>aN kA λo=>aN h' λm=>cJ (ru n es w.1 w.2 o m)) (L.drop j)):=by have a7:=mu c (I L+1);exact cQ.dd c d (λj _ d _=>cQ.bind a7 d af (λn q f _=>Rt (K:=uw L n es) c f (λb x a e=>av6 c n es b x e) (λb x a=>Hq n es b x a)) (λn q=>yX (K:=uw L n es) q (λb x a=>Hq n es b x a))) (λj=>cc.bind a7 λn=>yX (K:=uw L n es) j (λb x a=>Hq n es b x a))
theorem awG(a:I L<=1000000000)(es:U aq)(j:Nat):cc (D_ L ⟨(j:Int),ab⟩ es) j:=by simp[D_,ap4];exact cc.dd (cc.bind (mu a (I L+1)) λn=>yX (K:=uw L n es) j (λb x c=>Hq n es b x c))
theorem aAc(g:a'):k_ L g r5=(dg L g [42]).bind λb=>cond b (D_ L ⟨wr .i64 (g.pos+1),g.bad⟩ []) ((vn L g).bind λz=>D_ L z.2 z.1):=by simp only[k_,uT,m1];rfl
variable{i:Nat}
theorem auj(a:I L<=1000000000)(b:i<=I L):cQ L (k_ L ⟨(i:Int),ai⟩ r5) (pL (L.drop i)):=by
 rw[aAc];simp[jS];cases h:aV [42] (L.drop i)with
 |true=>
  obtain⟨c,f⟩:=js h;have e:pL (L.drop i)=aN (cY [ub]) (λ_=>aN fl λn=>aN ky λw=>aN kA λo=>aN h' λm=>cJ (ru n [] w.1 w.2 o m)) (L.drop (i+1)):=by simp[pL,s8,aN,h];rfl
  rw[e,bd,kM af];exact Xx a [] c
 |false=>
  have e:pL (L.drop i)=aN qT (λes=>aN (cY [ub]) (λ_=>aN fl λn=>aN ky λw=>aN kA λo=>aN h' λm=>cJ (ru n es w.1 w.2 o m))) (L.drop i):=by simp[pL,s8,aN,h];rfl
  rw[e,bj];exact cQ.bind (Lx a) b af (λes q d _=>Xx a es d) (λes q=>awG a es q)
end
section
variable {L:aA}
theorem agW:xq kO:=we P8
theorem anl:∀(m a6:Nat) (acc:U aq) (l:aA),I l<m->I l<a6->e5 kO m acc l=e5 kO a6 acc l:=λm a6 acc l h a=>PI agW m a6 acc l h a
def wM(L:aA)(g:a'):ae (aq×a'):=(dV L g [44,32,67,72,69,67,75,32,40]).bind λx=>(m' L x 1).bind λz=>(dV L z.2 [41]).bind λx=>J (z.1,x)
def DD:aA->bR aq:=aN (cY [[44],RS,[40]]) λ_=>aN gq λe=>aN (cY [[41]]) λ_=>cJ e
theorem ang(a:I L<=1000000000):iu L (I L+1) (wM L) DD:=.of (λi c _=>by
 unfold wM DD;simp[ tA];exact cQ.dd a c (λj _ d _=>cQ.bind (r1 a) d af (λr q e _=>cQ.dd a e (λf _ b _=>.ok b) (λf=>cc.fp)) (λr q=>cc.dd cc.fp)) (λj=>cc.bind (r1 a) λr=>cc.dd cc.fp)) (λi=>by
 unfold wM;simp[auS,tA];exact cc.dd (cc.bind (r1 a) λr=>cc.dd cc.fp))
theorem ahL{l:aA}(h:aV [44] l=ab):DD l=kO l.tail:=by simp[DD,kO,aN,cY,h]
section
variable {V eB:Type}{step:(V->ae (eB×a'))->V->ae (eB×a')}{st:U aq->a'->V}{c:U aq->a'->ae (eB×a')}{f:U aq->aA->bR eB}
theorem Pr(a:∀rec acc g,I acc<=1000000000->step rec (st acc g)=(dg L g [44]).bind λb=>cond b ((wM L g).bind λz=>rec (st (acc++[z.1]) z.2)) (c acc g))(d:∀acc (j:Nat),cc (c acc ⟨(j:Int),ab⟩) j)(k:Nat)(acc:U aq)(e:I acc<=1000000000)(i:Nat):cc (aI step (k+1) (st acc ⟨(i:Int),ab⟩)) i:=by rw[c6,a _ acc _ e,la];exact d _ i
theorem ajB(n:I L<=1000000000)(a:∀rec acc g,I acc<=1000000000->step rec (st acc g)=(dg L g [44]).bind λb=>cond b ((wM L g).bind λz=>rec (st (acc++[z.1]) z.2)) (c acc g))(ao:∀acc (j:Nat),j<=I L->cQ L (c acc ⟨(j:Int),ai⟩) (f acc (L.drop j)))(d:∀acc (j:Nat),cc (c acc ⟨(j:Int),ab⟩) j):∀(k m:Nat) (acc:U aq) (i:Nat),i<=I L->I L-i<k->I L-i<m->I acc+(I L-i)<=1000000000->cQ L (aI step k (st acc ⟨(i:Int),ai⟩)) (aN (e5 kO m acc) f (L.drop i))
 |0,_,_,_,_,h,_,_=>absurd h (dY _)
 |_,0,_,_,_,_,h,_=>absurd h (dY _)
 |k+1,m+1,acc,i,bO,aY,aZ,bg=>by
  rw[c6,a _ acc _ af,jS,bA];cases e:aV [44] (L.drop i)with
  |false=>
   have l:aN (e5 kO (m+1) acc) f (L.drop i)=f acc (L.drop i):=by simp[aN,e5,e]
   rw[l,bj];exact ao _ i bO
  |true=>
   obtain⟨i1,p⟩:=js e;have l:aN (e5 kO (m+1) acc) f (L.drop i)=aN DD (λx aC=>aN (e5 kO m (acc++[x])) f aC) (L.drop i):=by simp only[aN,e5,e,ahL e];cases kO (L.drop i).tail with|error q=>rfl|ok x=>rfl
   rw[l,bd];refine cQ.bind (ang n) bO af (λr j s o=>?_) (λr j=>?_)
   .rw[ahL e,p]at o;have hle:=agW _ _ _ o;rw[ff,ff]at hle;exact ajB n a ao d k m (acc++[r]) j s af af d'
   .cases k with|zero=>omega|succ k=>exact Pr a d k _ d' j
end
theorem Xa:∀(m a6:Nat) (acc:U bk) (l:aA),I l<m->I l<a6->k8 m acc l=k8 a6 acc l
 |0,_,_,_,h,_=>absurd h (dY _)
 |_,0,_,_,_,h=>absurd h (dY _)
 |m+1,a6+1,acc,l,h,tN=>by
  simp[k8];cases b:aV og l with
  |true=>rfl
  |false=>cases a:mb l with|error q=>rfl|ok x=>have c:=Bh _ _ _ a;simp only;exact Xa m a6 _ _ af af
theorem ayz{f:U bk->aA->bR eB}{l:aA}(hm:I l<m):aN wN f l=aN mb (λx aC=>aN (k8 m [x]) f aC) l:=by simp[aN,wN];cases a:mb l with|error q=>rfl|ok x=>have b:=Bh _ _ _ a;simp only;rw[Xa (I x.2+1) m [x.1] x.2 af af]
def rv(L:aA)(g:a'):ae (bk×a'):=(wZ L g).bind λz=>(dV L z.2 [44]).bind λx=>J (z.1,x)
theorem WS(a:I L<=1000000000):iu L (I L+1) (rv L) mb:=.of (λi c _=>by
 unfold rv mb;simp[acX];exact cQ.bind (Yi a) c af (λr q d _=>cQ.dd a d (λe _ b _=>.ok b) (λe=>cc.fp)) (λr q=>cc.dd cc.fp)) (λi=>by
 unfold rv;simp[acX];exact cc.bind (Yi a) λr=>cc.dd cc.fp)
section
variable {V eB:Type}{step:(V->ae (eB×a'))->V->ae (eB×a')}{st:U bk->a'->V}{c:U bk->a'->ae (eB×a')}{f:U bk->aA->bR eB}
theorem PT(a:∀rec acc g,I acc<=2000000000->step rec (st acc g)=cond (!g.bad) (cond (aa ((I acc:Int)=0)) ((rv L g).bind λz=>rec (st (acc++[z.1]) z.2)) ((dg L g [80,82,73,77,65,82,89]).bind λb=>cond (!b) ((rv L g).bind λz=>rec (st (acc++[z.1]) z.2)) (c acc g))) (c acc g))(d:∀acc (j:Nat),cc (c acc ⟨(j:Int),ab⟩) j)(k:Nat)(acc:U bk)(e:I acc<=2000000000)(i:Nat):cc (aI step (k+1) (st acc ⟨(i:Int),ab⟩)) i:=by rw[c6,a _ acc _ e];exact d _ i
theorem ajm(o:I L<=1000000000)(a:∀rec acc g,I acc<=2000000000->step rec (st acc g)=cond (!g.bad) (cond (aa ((I acc:Int)=0)) ((rv L g).bind λz=>rec (st (acc++[z.1]) z.2)) ((dg L g [80,82,73,77,65,82,89]).bind λb=>cond (!b) ((rv L g).bind λz=>rec (st (acc++[z.1]) z.2)) (c acc g))) (c acc g))(ao:∀acc (j:Nat),j<=I L->aV og (L.drop j)=ab->cQ L (c acc ⟨(j:Int),ai⟩) (f acc (L.drop (j+1))))(l:∀acc (j:Nat),cc (c acc ⟨(j:Int),ab⟩) j):∀(k m:Nat) (acc:U bk) (i:Nat),i<=I L->I L-i+1<k->I L-i<m->I acc+(I L-i)<=1500000000->¬I acc=0->cQ L (aI step k (st acc ⟨(i:Int),ai⟩)) (aN (k8 m acc) f (L.drop i))
 |0,_,_,_,_,h,_,_,_=>absurd h (dY _)
 |_,0,_,_,_,_,h,_,_=>absurd h (dY _)
 |k+1,m+1,acc,i,bO,aY,aZ,bg,cB=>by
  rw[c6,a _ acc _ af,kd,bd,aL af,bj,jS,bA];cases e:aV og (L.drop i)with
  |true=>
   have d:aV [80,82,73,77,65,82,89] (L.drop i)=true:=e;obtain⟨i1,t⟩:=js e;have n:aN (k8 (m+1) acc) f (L.drop i)=f acc (L.drop (i+1)):=by simp[aN,k8,e]
   rw[n,d,ef,bj];exact ao _ i bO e
  |false=>
   have d:aV [80,82,73,77,65,82,89] (L.drop i)=false:=e;have n:aN (k8 (m+1) acc) f (L.drop i)=aN mb (λx aC=>aN (k8 m (acc++[x])) f aC) (L.drop i):=by simp[aN,k8,e];cases mb (L.drop i)with|error q=>rfl|ok x=>rfl
   rw[n,d,kd,bd];refine cQ.bind (WS o) bO af (λr j p s=>?_) (λr j=>?_)
   .have hle:=Bh _ _ _ s;rw[ff,ff]at hle;exact ajm o a ao l k m (acc++[r]) j p af af d' (by simp)
   .cases k with|zero=>omega|succ k=>exact PT a l k _ d' j
end
def wi:aX->Fb->ae (aP×a'):=λe w=>match w with|(a,_,_,_,_,_,_,_,_,_,_,_,_,_,_,_,_,_,_,_,b,c,d,f,g,h,i,j,k,l,m,n,o,p,q,r,s,t,u,_,_,_,_,_,_,_,_,_,_,_,_,_,_,_,_,_,_,_)=>match e with|.exit 2=>(dV a b [41]).bind λv=>J ((aP.mk c d f g h i j k l (aq.mk m ⟨n,o,p⟩ q r) s t u),v)|_=>aj
def zY(k:Nat):aX->Bf->ae (aP×a'):=λe eA=>match eA with|(v1,v2,v3,v4,v5,v6,bb,bK,v9,a,b,c,d,f,g,h,i,j,l,m,n,o,p,q,r,_,s,t,u,v,w,x,y,a0,bI,a2,a3,a4,a5,bB,bE,bG,a9,bZ,b7,ac,ad,cq,ez,ct,cM,cV,cS,cZ,bJ,am,db,dk)=>match e with|.exit 0=>(dV v1 n [80,82,73,77,65,82,89,32,75,69,89]).bind λkl=>(vu v1 kl).bind λz=>aI (λrec=>qL rec wi) k (v1,v2,v3,v4,v5,v6,bb,bK,v9,a,b,c,d,f,g,h,i,j,l,m,z.2,o,p,q,r,z.1,s,t,u,v,w,x,y,a0,bI,a2,a3,a4,a5,bB,bE,bG,a9,bZ,b7,ac,ad,cq,ez,ct,cM,cV,cS,cZ,bJ,am,db,dk)|_=>aj
def mC(L:aA)(n:ak)(cs:U bk)(cW:U ak)(es:U aq)(g:a'):Bf:=(L,0,[],[],[],[],[],[],[],ai,0,0,0,[],[],[],[],[],0,(a'.mk 0 ai),g,1,n,[],cs,cW,es,[],[],ai,0,0,0,[],[],[],[],[],0,0,[],[],[],[],[],[],[],ai,0,0,0,[],[],[],[],[],0,(a'.mk 0 ai))
def ug(L:aA)(n:ak)(cs:U bk)(cW:U ak)(es:U aq)(g:a'):ae (aP×a'):=(dV L g [41]).bind λx=>J (aP.mk 1 n [] cs cW es [] [] ai lZ [] [] 0,x)
def uv(L:aA)(n:ak)(cs:U bk)(g:a'):ae (aP×a'):=(dV L g [80,82,73,77,65,82,89,32,75,69,89]).bind λa=>(vu L a).bind λz=>aI (λrec=>qL rec wi) (I L+3) (mC L n cs z.1 [] z.2)
theorem M1(n:ak)(cs:U bk)(cW:U ak)(rec:Fb->ae (aP×a'))(acc:U aq)(g:a')(a:I acc<=1000000000):qL rec wi (mC L n cs cW acc g)=(dg L g [44]).bind λb=>cond b ((wM L g).bind λz=>rec (mC L n cs cW (acc++[z.1]) z.2)) (ug L n cs cW acc g):=by have hm:aa (I acc+1<=bY)=true:=aH jf;dsimp only[mC,qL];simp[hm,wM,Option.bind_assoc];rfl
theorem Jp(n:ak)(rec:Bf->ae (aP×a'))(acc:U bk)(g:a')(a:I acc<=2000000000):r3 rec (zY (I L+3)) (mC L n acc [] [] g)=cond (!g.bad) (cond (aa ((I acc:Int)=0)) ((rv L g).bind λz=>rec (mC L n (acc++[z.1]) [] [] z.2)) ((dg L g [80,82,73,77,65,82,89]).bind λb=>cond (!b) ((rv L g).bind λz=>rec (mC L n (acc++[z.1]) [] [] z.2)) (uv L n acc g))) (uv L n acc g):=by have hm:aa (I acc+1<=bY)=true:=aH jf;dsimp only[mC,r3];simp[hm,rv,Option.bind_assoc];rfl
variable{j:Nat}
theorem au1(d:I L<=1000000000)(n:ak)(cs:U bk)(p:j<=I L)(m:aV og (L.drop j)=ab):cQ L (uv L n cs ⟨(j:Int),ai⟩) (aN (cY [wX]) (λ_=>aN o5 λcW=>aN (λl=>e5 kO (I l+1) [] l) λes=>aN (cY [[41]]) λ_=>cJ { eJ with kind:=1,name:=n,ay:=cs,names:=cW,l:=es }) (L.drop (j+1))):=by
 obtain⟨t,u⟩:=js m;have e:∀f:Unit->aA->bR aP,aN (cY [wX]) f (L.drop (j+1))=aN (cY [og,wX]) f (L.drop j):=λf=>by simp[aN,cY,m]
 rw[e];simp;have r:∀cW es (q:Nat),q<=I L->cQ L (ug L n cs cW es ⟨(q:Int),ai⟩) (aN (cY [[41]]) (λ_=>cJ { eJ with kind:=1,name:=n,ay:=cs,names:=cW,l:=es }) (L.drop q)):=λcW es q h=>by simp;exact cQ.dd d h (λa _ b _=>.ok b) (λa=>cc.fp)
 have i:∀cW es (q:Nat),cc (ug L n cs cW es ⟨(q:Int),ab⟩) q:=λcW es q=>by simp[ug,tA];exact cc.dd cc.fp
 have o:∀cW (q:Nat),cc (aI (λrec=>qL rec wi) (I L+3) (mC L n cs cW [] ⟨(q:Int),ab⟩)) q:=λcW q=>Pr (L:=L) (step:=λrec=>qL rec wi) (st:=mC L n cs cW) (c:=ug L n cs cW) (λrec acc g k=>M1 n cs cW rec acc g k) (λacc q=>i cW acc q) (I L+2) [] (by simp) q;refine cQ.dd d p (λq _ h _=>cQ.bind (uU d) h af (λcW a b _=>?_) (λcW a=>o cW a)) (λq=>cc.bind (uU d) λcW=>o cW q);have s:∀f:U aq->aA->bR aP,aN (λl=>e5 kO (I l+1) [] l) f (L.drop a)=aN (e5 kO (I L+1) []) f (L.drop a):=λf=>by simp only[aN];rw[anl (I (L.drop a)+1) (I L+1) [] (L.drop a) af rM]
 rw[s];exact ajB (step:=λrec=>qL rec wi) (st:=mC L n cs cW) (c:=ug L n cs cW) (f:=λes=>aN (cY [[41]]) λ_=>cJ { eJ with kind:=1,name:=n,ay:=cs,names:=cW,l:=es }) d (λrec acc g k=>M1 n cs cW rec acc g k) (λacc q h=>r cW acc q h) (λacc q=>i cW acc q) (I L+3) (I L+1) [] a b af af d'
theorem Pc(a:I L<=1000000000)(n:ak)(cs:U bk)(j:Nat):cc (uv L n cs ⟨(j:Int),ab⟩) j:=by simp[uv,azC];refine cc.dd (cc.bind (uU a) λcW=>?_);exact Pr (L:=L) (step:=λrec=>qL rec wi) (st:=mC L n cs cW) (c:=ug L n cs cW) (λrec acc g b=>M1 n cs cW rec acc g b) (λacc q=>by simp[ug,tA];exact cc.dd cc.fp) (I L+2) [] (by simp) j
theorem aq0(g:a'):k_ L g nN=(dg L g [84,65,66,76,69]).bind λb=>cond b ((hI L ⟨wr .i64 (g.pos+1),ai⟩).bind λy=>(dV L y.2 [40]).bind λk=>aI (λrec=>r3 rec (zY (I L+3))) (I L+3) (mC L y.1 [] [] [] k)) ((dV L g [73,78,68,69,88]).bind λa=>(hI L a).bind λ(c,d)=>(dV L d [79,78]).bind λe=>(hI L e).bind λ(f,h)=>(vu L h).bind λ(i,j)=>J ((aP.mk 3 c f [] i [] [] [] ai (aq.mk 0 ⟨0,0,[]⟩ [] []) [] [] 0),j)):=by
 have l:aa (nN=[67,82,69,65,84,69])=true:=dM
 simp;rfl
variable{i:Nat}
theorem avg(a:I L<=1000000000)(s:i<=I L):cQ L (k_ L ⟨(i:Int),ai⟩ nN) (nO (L.drop i)):=by
 rw[aq0];simp[jS];cases h:aV vw (L.drop i)with
 |false=>
  have d:aV [84,65,66,76,69] (L.drop i)=false:=h;have e:nO (L.drop i)=vy (L.drop i):=by simp[nO,h]
  rw[d,e,bj];exact aoj a s
 |true=>
  have d:aV [84,65,66,76,69] (L.drop i)=true:=h;obtain⟨i1,u⟩:=js h;have e:nO (L.drop i)=wD (L.drop (i+1)):=by simp[nO,h]
  rw[d,e,bd,kM af];have al:∀n (q:Nat),cc (aI (λrec=>r3 rec (zY (I L+3))) (I L+3) (mC L n [] [] [] ⟨(q:Int),ab⟩)) q:=λn q=>PT (L:=L) (step:=λrec=>r3 rec (zY (I L+3))) (st:=λcs g=>mC L n cs [] [] g) (c:=λcs g=>uv L n cs g) (λrec acc g b=>Jp n rec acc g b) (λacc q=>Pc a n acc q) (I L+2) [] (by simp) q;unfold wD;simp[Gy];refine cQ.bind (mu a (I L+1)) i1 af (λn q j _=>cQ.dd a j (λr _ k _=>?_) (λr=>al n r)) (λn q=>cc.dd (al n q));rw[ayz (m:=I L+1) rM,c6,Jp n _ [] _ (by simp)];refine cQ.bind (WS a) k af (λc o p _=>?_) (λc o=>?_)
  .exact ajm (step:=λrec=>r3 rec (zY (I L+3))) (st:=λcs g=>mC L n cs [] [] g) (c:=λcs g=>uv L n cs g) (f:=λcs=>aN (cY [wX]) λ_=>aN o5 λcW=>aN (λl=>e5 kO (I l+1) [] l) λes=>aN (cY [[41]]) λ_=>cJ { eJ with kind:=1,name:=n,ay:=cs,names:=cW,l:=es }) a (λrec acc g b=>Jp n rec acc g b) (λacc q j t=>au1 a n acc j t) (λacc q=>Pc a n acc q) (I L+2) (I L+1) [c] o p af af d' (by simp)
  .exact PT (L:=L) (step:=λrec=>r3 rec (zY (I L+3))) (st:=λcs g=>mC L n cs [] [] g) (c:=λcs g=>uv L n cs g) (λrec acc g b=>Jp n rec acc g b) (λacc q=>Pc a n acc q) (I L+1) [c] (by simp) o
end
theorem ao5(s:ak):s7 s=aa (s∈qh):=by have e:s7 s=qh.contains s:=Q' s;rw[e,Bool.eq_iff_iff];simp
def auy(R:Type):aR R:=bs [] [] [] []
def TK(x:aw []):ae (aw [eD]):=match x with|()=>J [[65,68,68],[65,78,68],[65,83,67],[66,79,79,76],[66,89],[66,89,84,69,83],[67,72,69,67,75],[67,82,69,65,84,69],[68,69,76,69,84,69],[68,69,83,67],[68,82,79,80],[70,65,76,83,69],[70,82,79,77],[73,78,68,69,88],[73,78,83,69,82,84],[73,78,84],[73,78,84,79],[73,83],[75,69,89],[76,73,77,73,84],[78,79,84],[78,85,76,76],[79,78],[79,82],[79,82,68,69,82],[80,82,73,77,65,82,89],[82,69,70,69,82,69,78,67,69,83],[83,69,76,69,67,84],[83,69,84],[84,65,66,76,69],[84,69,88,84],[84,82,85,69],[85,78,73,81,85,69],[85,80,68,65,84,69],[86,65,76,85,69,83],[87,72,69,82,69]]
theorem at4:aU 235 [] [eD] (TK):=b6 (px:=auy _) (n:=0) Tryz.func235 rfl (λ_ H=>⟨br H bq bo bp,aK⟩) λ()=>by kernel_rfl
def DA:U ak:=[[65,68,68],[65,78,68],[65,83,67],[66,79,79,76],[66,89],[66,89,84,69,83],[67,72,69,67,75],[67,82,69,65,84,69],[68,69,76,69,84,69],[68,69,83,67],[68,82,79,80],[70,65,76,83,69],[70,82,79,77],[73,78,68,69,88],[73,78,83,69,82,84],[73,78,84],[73,78,84,79],[73,83],[75,69,89],[76,73,77,73,84],[78,79,84],[78,85,76,76],[79,78],[79,82],[79,82,68,69,82],[80,82,73,77,65,82,89],[82,69,70,69,82,69,78,67,69,83],[83,69,76,69,67,84],[83,69,84],[84,65,66,76,69],[84,69,88,84],[84,82,85,69],[85,78,73,81,85,69],[85,80,68,65,84,69],[86,65,76,85,69,83],[87,72,69,82,69]]
theorem arT(x:aw []):TK x=J (DA):=by
 first
  |exact rfl
  |simp only[TK,DA,gb]
def ae0:bt [] [eD]:=λ_=>J (DA)
theorem auE:aU 235 [] [eD] ae0:=.er at4 λx _ _ ag=>(arT x).trans ag
theorem auz:DA=qh:=rfl
def abB:bn:=⟨18,[(0,.str),(2,.bool),(3,.sl .str ab),(4,.int .i64)],[],[],0,0,0,[],[]⟩
abbrev He:=ak×Bool×U ak×Int
def zj{R:Type}(rec:He->ae R)(kx:aX->He->ae R)(v:He):ae R:=match v with|(v,v1,v2,v3)=>cond (aa (v3<(I v2:Int))) (ax (a_ v3 (I v2)) (cond (aa ((at' .str v2 v3)=v)) (kx .ret (v,ab,v2,v3)) (rec (v,v1,v2,(wr .i64 (v3+1)))))) (kx (.exit 0) (v,v1,v2,v3))
def ad2(R:Type)(k:Nat):aR R:=bs [(235,ba ae0)] [] [(3,b8 k abB (zj))] []
def aaJ(k:Nat)(x:aw [.str]):ae (aw [.bool]):=match x with
 |s=>aI (λrec=>zj rec (λe a=>match a with|(_,v5,_,_)=>match e with
  |.ret=>J v5
  |.exit 0=>J ai
  |_=>aj)) k (s,ai,DA,0)
theorem ave(k:Nat):aU 200 [.str] [.bool] (aaJ k):=b6 (px:=ad2 _ k) (n:=1) Tryz.func200 rfl (λah H=>by have c:bP ah (ad2 (aw [.bool]) k):=br H (c1 H auE bq) bo bp;have a:=cd H c (b:=b0 Tryz.f200 0) (k:=k) (n:=0) (s:=abB) (step:=zj) (λ_ _ _ (_,_,_,_)=>by kernel_rfl) aK;exact⟨c,(b9 aK a)⟩) λ_=>by kernel_rfl
abbrev J9(s:ak):Bool:=s7 s
def Nv:bt [.str] [.bool]:=λx=>J (J9 x)
theorem _9{R:Type}{kx:aX->He->ae R}{l:U ak}{s:ak}{c:Bool->ae R}(b:b1 (I l))(e:∀i,kx .ret (s,ab,l,i)=c ab)(d:∀q i,kx (.exit 0) (s,q,l,i)=c ai) :
  ∀(k i:Nat) (q:Bool),i<=I l->I l-i<k->aI (λrec=>zj rec kx) k (s,q,l,(i:Int))=c (aa (s∈l.drop i))
 |0,i,_,_,h=>by omega
 |k+1,i,q,bO,h=>by
  rw[c6];by_cases a:i<I l
  .have f:aa ((i:Int)<(I l:Int))=true:=aH af;simp only[zj,cg a,ax,cR (c:=.str) a,c9 a b,(_9 b e d k (i+1) q af af)];rw[da a];by_cases ag:l[i]=s
   .grind
   .grind
  .simp only[zj,aL (show ¬(i:Int)<(I l:Int) by omega),d];rw[gn af];simp
theorem apn:aU 200 [.str] [.bool] Nv:=.fin 0 ave λs r al ag=>⟨37,by simp only[Nv,dN]at ag;rw[<-ag];simp only[aaJ,auz];refine(_9 (c:=λq=>J q) (by simp[b1,qh]) (λ_=>rfl) (λ_ _=>rfl) 37 0 ai (cL _) (by simp[qh])).trans ?_;rw[iW,J9,ao5]⟩
def CD(s:ak)(i:Int):Prop:=0<=i/\i<=(I s:Int)/\I s<=1000000
instance (s:ak) (i:Int):Decidable (CD s i):=by unfold CD;infer_instance
def VC:bn:=⟨26,[(0,.str),(1,.int .i64)],[],[],0,0,0,[],[]⟩
abbrev Iq:=ak×Int
def zW{R:Type}(rec:Iq->ae R)(kx:aX->Iq->ae R)(v:Iq):ae R:=match v with
 |(v,v1)=>
 let j:=λ(p:Bool)=>
  cond (p) (
  ax (a_ v1 (I v)) (
   cond (aa ((hG (b_ v v1))<=4)) (
   rec (v,(wr .i64 (v1+1)))) (
   kx (.exit 0) (v,v1)))) (
  kx (.exit 0) (v,v1))
 cond (aa (v1<(I v:Int))) (
  ax (a_ v1 (I v)) (
  j (aa (1<=(hG (b_ v v1)))))) (
  j ai)
def af3(R:Type)(k:Nat):aR R:=bs [(139,ba xF)] [] [(1,b8 k VC (zW))] []
def axo(k:Nat)(x:aw [.str,an]):ae (aw [an]):=match x with
 |(s,i)=>aI (λrec=>zW rec (λe a=>match a with|(_,v3)=>match e with
  |.exit 0=>J v3
  |_=>aj)) k (s,i)
theorem anT(k:Nat):aU 198 [.str,an] [an] (axo k):=b6 (px:=af3 _ k) (n:=1) Tryz.func198 rfl (λah H=>by have c:bP ah (af3 (aw [an]) k):=br H (c1 H ES bq) bo bp;have a:=cd H c (b:=b0 Tryz.f198 0) (k:=k) (n:=0) (s:=VC) (step:=zW) (λ_ _ _ (_,_)=>by kernel_rfl) aK;exact⟨c,(b9 aK a)⟩) λ(_,_)=>by kernel_rfl
def Ko(s:ak)(i:Int):ae Int:=if CD s i then J (aO.c4 aO.eg s i)else aj
def Sj:bt [.str,an] [an]:=λx=>Ko x.1 x.2
theorem VZ{R:Type}{kx:aX->Iq->ae R}{s:ak}{c:Int->ae R}(e:I s<=1000000)(a:∀i,kx (.exit 0) (s,i)=c i):∀(k i:Nat),i<=I s->I s-i<k->aI (λrec=>zW rec kx) k (s,(i:Int))=c (aO.c4 aO.eg s i)
 |0,i,_,h=>absurd h (dY _)
 |k+1,i,bO,h=>by
  rw[c6];by_cases f:i<I s
  .have g:wr .i64 ((i:Int)+1)=((i+1:Nat):Int):=od
   have j:aa ((i:Int)<(I s:Int))=true:=aH af;simp only[zW,j,cg f,g,(VZ e a k (i+1) af af),a];have aE:aO.eg (av.cf s i)=(aa (1<=hG (b_ s i))&&aa (hG (b_ s i)<=4)):=rfl;have l:((i+1:Nat):Int)=(i:Int)+1:=af
   cases b:aa (1<=hG (b_ s i))with
   |false=>rw[b,Bool.false_and]at aE;rw[aO.yt ⟨by omega,by omega⟩ aE];rfl
   |true=>rw[b,jo]at aE;cases d:aa (hG (b_ s i)<=4)with|false=>rw[d]at aE;rw[aO.yt ⟨by omega,by omega⟩ aE];rfl|true=>rw[d]at aE;rw[l,aO.yu ⟨by omega,by omega⟩ aE];rfl
  .simp[zW,a];rw[aL af,aO.CA af];rfl
theorem azZ:aU 198 [.str,an] [an] Sj:=.fin 0 anT λ(s,i) r al ag=>⟨I s+1,by
 simp only[Sj,Ko]at ag;split at ag
 .rename_i h;obtain⟨a,d,b⟩:=h;rw[<-ag];obtain⟨n,rfl⟩:=Int.eq_ofNat_of_zero_le a;exact VZ (c:=J) b (λ_=>rfl) (I s+1) n af af
 .cases ag⟩
def aaI:bn:=⟨47,[(0,.str),(2,.int .i64),(3,.int .i64),(4,.int .i64)],[],[],0,0,0,[],[]⟩
abbrev Hr:=ak×Int×Int×Int
def za{R:Type}(rec:Hr->ae R)(kx:aX->Hr->ae R)(v:Hr):ae R:=match v with
 |(v,v1,v2,v3)=>
 cond (aa (v3<(I v:Int))) (
  ax (a_ v3 (I v)) (
  ax (a_ v3 (I v)) (
   let j:=λ(p:Bool)=>
   cond (p) (
    kx .ret (v,(-1),v2,v3)) (
    cond (aa (v2=922337203685477580)) (
    cond (aa (7<(wr .i64 ((wr .i64 (b_ v v3))-48)))) (
     kx .ret (v,(-1),v2,v3)) (
     rec (v,v1,(wr .i64 ((wr .i64 (10*v2))+(wr .i64 ((wr .i64 (b_ v v3))-48)))),(wr .i64 (v3+1))))) (
    rec (v,v1,(wr .i64 ((wr .i64 (10*v2))+(wr .i64 ((wr .i64 (b_ v v3))-48)))),(wr .i64 (v3+1)))))
   cond (!decide ((hG (b_ v v3))=3)) (
   j ab) (
   j (aa (922337203685477580<v2)))))) (
  kx (.exit 0) (v,v1,v2,v3))
def aeC(R:Type)(k:Nat):aR R:=bs [(139,ba xF)] [] [(3,b8 k aaI (za))] []
def aad(k:Nat)(x:aw [.str]):ae (aw [an]):=match x with
 |s=>aI (λrec=>za rec (λe a=>match a with|(v4,v5,v6,_)=>match e with
  |.ret=>J v5
  |.exit 0=>cond (aa (1<(I v4:Int))) (ax (a_ 0 (I v4)) (cond (aa ((b_ v4 0)=48)) (J (-1)) (J v6))) (J v6)
  |_=>aj)) k (s,0,0,0)
theorem awC(k:Nat):aU 201 [.str] [an] (aad k):=b6 (px:=aeC _ k) (n:=1) Tryz.func201 rfl (λah H=>by have c:bP ah (aeC (aw [an]) k):=br H (c1 H ES bq) bo bp;have a:=cd H c (b:=b0 Tryz.f201 0) (k:=k) (n:=0) (s:=aaI) (step:=za) (λ_ _ _ (_,_,_,_)=>by kernel_rfl) aK;exact⟨c,(b9 aK a)⟩) λ_=>by kernel_rfl
def JO(s:ak):ae Int:=if I s<=1000000 then J (aO.n_ s)else aj
def ME:bt [.str] [an]:=λx=>JO x
theorem YJ{R:Type}{kx:aX->Hr->ae R}{s:ak}{c:ae Int->ae R}(e:I s<=1000000)(f:∀n j,kx .ret (s, -1,n,j)=c aj)(a:∀q n j,kx (.exit 0) (s,q,n,j)=c (J n)):∀(k i:Nat) (q n:Int),0<=n/\n<=9223372036854775807->i<=I s->I s-i<k->aI (λrec=>za rec kx) k (s,q,n,(i:Int))=c (aO.oO (s.drop i) n)
 |0,i,_,_,_,_,h=>absurd h (dY _)
 |k+1,i,q,n,ck,bO,h=>by
  rw[c6];by_cases b:i<I s
  .have m:wr .i64 ((i:Int)+1)=((i+1:Nat):Int):=od
   have o:aa ((i:Int)<(I s:Int))=true:=aH af;have u:=aO.oS s[i];have p:wr .i64 (s[i].toNat:Int)=(s[i].toNat:Int):=d_ ec;have r:wr .i64 ((s[i].toNat:Int)-48)=(s[i].toNat:Int)-48:=d_ ec;rw[da b];simp only[za,o,cg b,ax,m,jr b,p,r,hG,aO.oO];by_cases fZ:aO.cU (s[i].toNat:Int)=3
   .have ar:=aO.T6 fZ;rw[aH fZ,ef,bj];by_cases gQ : 922337203685477580<n
    .grind
    .rw[aL gQ,bj];have g:wr .i64 (10*n)=10*n:=d_ ec;by_cases l:n=922337203685477580
     .rw[aH l,bd];by_cases t : 7<(s[i].toNat:Int)-48
      .grind
      .have d:wr .i64 (10*n+((s[i].toNat:Int)-48))=10*n+((s[i].toNat:Int)-48):=d_ ec;rw[aL t,bj,if_neg af,g,d];exact adl
     .have d:wr .i64 (10*n+((s[i].toNat:Int)-48))=10*n+((s[i].toNat:Int)-48):=d_ ec;rw[aL l,bj,if_neg af,g,d];exact adl
   .grind
  .simp[za,a];exact CM
theorem an0:aU 201 [.str] [an] ME:=.fin 0 awC λs r al ag=>⟨I s+1,by
 simp only[ME,JO]at ag;split at ag
 .rename_i h;rw[<-ag];simp only[aad];refine(YJ (s:=s) (c:=λo=>match o with|none=>J (-1)|some n=>J (if 1<(I s:Int)/\av.cf s 0=48 then -1 else n)) h (λ_ _=>rfl) (λ_ n _=>?_) (I s+1) 0 0 0 af (cL _) af).trans ?_
  .show cond (aa (1<(I s:Int))) (ax (a_ 0 (I s)) (cond (aa (b_ s 0=48)) (J (-1)) (J n))) (J n)=_;by_cases a : 1<(I s:Int)
   .rw[aH a,bd,qZ af];show cond (aa (b_ s 0=48)) (J (-1)) (J n)=J (if 1<(I s:Int)/\av.cf s 0=48 then -1 else n);by_cases b:b_ s 0=48
    .rw[aH b,if_pos ⟨a,b⟩];rfl
    .rw[aL b,if_neg (λq=>b q.2)];rfl
   .rw[aL a];show J n=J (if 1<(I s:Int)/\av.cf s 0=48 then -1 else n);rw[if_neg (λq=>a q.1)]
  .simp only[iW,aO.n_];cases aO.oO s 0<;>rfl
 .cases ag⟩
def _O:bn:=⟨46,[(0,.str),(1,.int .i64),(4,.str),(5,.int .i64),(6,.str)],[],[],0,0,0,[],[]⟩
abbrev LD:=ak×Int×ak×Int×ak
def BQ{R:Type}(rec:LD->ae R)(kx:aX->LD->ae R)(v:LD):ae R:=match v with
 |(v,v1,v2,v3,v4)=>
 cond (aa (v1<(I v:Int))) (
  let j:=λ(_:Unit)=>
  ax (a_ v1 (I v)) (
   cond (aa ((b_ v v1)=39)) (
   ax (dP (wr .i64 (v1+1)) (wr .i64 ((wr .i64 (v1+1))+1)) (I v)) (
    ax (aa (I v4+I (cut v (wr .i64 (v1+1)) (wr .i64 ((wr .i64 (v1+1))+1)))<=c0)) (
    rec (v,(wr .i64 ((wr .i64 (v1+1))+1)),v2,v3,(v4++(cut v (wr .i64 (v1+1)) (wr .i64 ((wr .i64 (v1+1))+1)))))))) (
   ax (dP v1 (wr .i64 (v1+1)) (I v)) (
    ax (aa (I v4+I (cut v v1 (wr .i64 (v1+1)))<=c0)) (
    rec (v,(wr .i64 (v1+1)),v2,v3,(v4++(cut v v1 (wr .i64 (v1+1)))))))))
  ax (a_ v1 (I v)) (
  cond (aa ((b_ v v1)=39)) (
   cond (aa ((wr .i64 (v1+1))=(I v:Int))) (
   kx .ret (v,v1,v4,v1,v4)) (
   ax (a_ (wr .i64 (v1+1)) (I v)) (
    cond (!decide ((b_ v (wr .i64 (v1+1)))=39)) (
    kx .ret (v,v1,v4,v1,v4)) (
    j ())))) (
   j ()))) (
  kx (.exit 0) (v,v1,v2,v3,v4))
def ab0(R:Type)(k:Nat):aR R:=bs [] [] [(2,b8 k _O (BQ))] []
def Zl(k:Nat)(x:aw [.str,an]):ae (aw [.str,an]):=match x with
 |(s,i)=>aI (λrec=>BQ rec (λe a=>match a with|(_,_,bb,bK,_)=>match e with
  |.ret=>J (bb,bK)
  |.exit 0=>J ([],(-1))
  |_=>aj)) k (s,i,[],0,[])
theorem arU(k:Nat):aU 202 [.str,an] [.str,an] (Zl k):=b6 (px:=ab0 _ k) (n:=1) Tryz.func202 rfl (λah H=>by have c:bP ah (ab0 (aw [.str,an]) k):=br H bq bo bp;have a:=cd H c (b:=b0 Tryz.f202 0) (k:=k) (n:=0) (s:=_O) (step:=BQ) (λ_ _ _ (_,_,_,_,_)=>by kernel_rfl) aK;exact⟨c,(b9 aK a)⟩) λ(_,_)=>by kernel_rfl
def wR(q:ak×Int):ak×Int:=if q.2 = -1 then([], -1)else(q.1,q.2-1)
def zI(s:ak)(i:Int):ae (ak×Int):=if CD s i then J (wR (aO.hR (s.drop i.toNat) [] i))else aj
def QD:bt [.str,an] [.str,an]:=λx=>zI x.1 x.2
theorem TY{R:Type}{kx:aX->LD->ae R}{s:ak}{c:ak×Int->ae R}(n:I s<=1000000)(e:∀(a:ak) (j:Int),0<=j->kx .ret (s,j,a,j,a)=c (a,j+1))(f:∀q r a j,kx (.exit 0) (s,j,q,r,a)=c ([], -1)):∀(k i:Nat) (q:ak) (r:Int) (a:ak),I a<=i->i<=I s->I s-i<k->aI (λrec=>BQ rec kx) k (s,(i:Int),q,r,a)=c (aO.hR (s.drop (i:Int).toNat) a i)
 |0,i,_,_,_,_,_,h=>absurd h (dY _)
 |k+1,i,q,r,a,c5,bO,h=>by
  rw[c6];by_cases p:i<I s
  .have t:wr .i64 ((i:Int)+1)=((i+1:Nat):Int):=od
   have g:wr .i64 (((i+1:Nat):Int)+1)=((i+2:Nat):Int):=od
   have u:aa ((i:Int)<(I s:Int))=true:=aH af;have c1:cut s (i:Int) ((i+1:Nat):Int)=[s.getD (i:Int).toNat 0]:=by have:=aO.LZ s (i:Int) ⟨by omega,by omega⟩;rw[show((i+1:Nat):Int)=(i:Int)+1 by omega];exact this
   have v:dP (i:Int) ((i+1:Nat):Int) (I s)=true:=nQ af;have w:aa (I a+I [s.getD (i:Int).toNat 0]<=c0)=true:=aH (by simp[c0,dB];omega);have l:((i+1:Nat):Int)=(i:Int)+1:=af
   have x:((i+2:Nat):Int)=(i:Int)+1+1:=af
   simp only[BQ,u,bd,cg p,ax,t,g,c1,v,w,e _ _ (show(0:Int)<=(i:Int) by omega)];by_cases d:b_ s i=39
   .rw[aH d,bd,bd];by_cases o:((i+1:Nat):Int)=(I s:Int)
    .rw[aH o,bd,aO.alE af af d]
    .have m:i+1<I s:=af
     have c2:cut s ((i+1:Nat):Int) ((i+2:Nat):Int)=[s.getD ((i+1:Nat):Int).toNat 0]:=by have:=aO.LZ s ((i+1:Nat):Int) ⟨by omega,by omega⟩;rw[show((i+2:Nat):Int)=((i+1:Nat):Int)+1 by omega];exact this
     have y:dP ((i+1:Nat):Int) ((i+2:Nat):Int) (I s)=true:=nQ af;have z:aa (I a+I [s.getD ((i+1:Nat):Int).toNat 0]<=c0)=true:=aH (by simp[c0,dB];omega);rw[aL o,bj,cg m,bd,c2,y,z];by_cases b:b_ s ((i+1:Nat):Int)=39
     .rw[aH b,ef,bj,bd,bd];have ag:s.getD ((i+1:Nat):Int).toNat 0=39:=(aO.x0 (c:=39)).1 b;rw[ag,aO.alG af af d (by rw[<-l];exact b),<-x];exact TY n e f k (i+2) q r (a++[39]) (by simp[ eo,dB];omega) af af
     .rw[aL b,kd,bd,aO.alC af af d (by rw[<-l];exact b)]
   .rw[aL d,bj,bj,aO.alF af af d,<-l];exact TY n e f k (i+1) q r (a++[s.getD (i:Int).toNat 0]) (by simp[ eo,dB];omega) af af
  .simp only[BQ,f];rw[aL af,aO.alD af];rfl
theorem auU:aU 202 [.str,an] [.str,an] QD:=.fin 0 arU λ(s,i) r al ag=>⟨I s+1,by
 simp only[QD,zI]at ag;split at ag
 .rename_i h;obtain⟨b,e,d⟩:=h;rw[<-ag];obtain⟨n,rfl⟩:=Int.eq_ofNat_of_zero_le b;simp only[Zl];refine(TY (c:=λq=>J (wR q)) d (λa j f=>?_) (λ_ _ _ _=>rfl) (I s+1) n [] 0 [] (by simp) af af);show J (a,j)=J (wR (a,j+1));simp only[wR];rw[if_neg af,show j+1-1=j by omega]
 .cases ag⟩
def Z7:bn:=⟨69,[(0,.str),(2,.sl .byte ab),(3,.int .i64),(4,.sl .byte ab),(5,.int .i64),(6,.int .i64),(7,.int .i64)],[],[],0,0,0,[],[]⟩
abbrev EI:=ak×U UInt8×Int×U UInt8×Int×Int×Int
def Bk{R:Type}(rec:EI->ae R)(kx:aX->EI->ae R)(v:EI):ae R:=match v with
 |(v5,v6,bb,bK,v9,b,a)=>
 cond (aa (a<(wr .i64 (v9+2)))) (
  let c:=λ(p2:Int)=>
  let d:=λ(ki:Bool)=>
   cond (ki) (
   ax (a_ a (I v5)) (
    cond (aa ((wr .i64 ((wr .i64 (b_ v5 a))-87))<0)) (
    kx .ret (v5,[],11,bK,v9,b,a)) (
    rec (v5,v6,bb,bK,v9,(wr .i64 ((wr .i64 (16*b))+(wr .i64 ((wr .i64 (b_ v5 a))-87)))),(wr .i64 (a+1)))))) (
   cond (aa (p2<0)) (
    kx .ret (v5,[],11,bK,v9,b,a)) (
    rec (v5,v6,bb,bK,v9,(wr .i64 ((wr .i64 (16*b))+p2)),(wr .i64 (a+1)))))
  ax (a_ a (I v5)) (
   cond (aa (97<=(b_ v5 a))) (
   ax (a_ a (I v5)) (
    d (aa ((b_ v5 a)<=102)))) (
   d ai))
  let j:=λ(p1:Bool)=>
  cond (p1) (
   ax (a_ a (I v5)) (
   c (wr .i64 ((wr .i64 (b_ v5 a))-48)))) (
   c (-1))
  ax (a_ a (I v5)) (
  cond (aa (48<=(b_ v5 a))) (
   ax (a_ a (I v5)) (
   j (aa ((b_ v5 a)<=57)))) (
   j ai))) (
  kx (.exit 2) (v5,v6,bb,bK,v9,b,a))
def _M:bn:=⟨69,[(0,.str),(2,.sl .byte ab),(3,.int .i64),(4,.sl .byte ab),(5,.int .i64)],[],[],0,0,0,[],[]⟩
abbrev Lw:=ak×U UInt8×Int×U UInt8×Int
def BU{R:Type}(k:Nat)(rec:Lw->ae R)(kx:aX->Lw->ae R)(v:Lw):ae R:=match v with
 |(v,v1,v2,v3,v4)=>cond (aa ((wr .i64 (v4+1))<(I v:Int))) (aI (λh=>Bk h (λe i=>match i with|(b,c,d,a,f,g,_)=>match e with
  |.ret=>kx .ret (b,c,d,a,f)
  |.exit 2=>ax (aa (I a+1<=bY)) (rec (b,c,d,(a++[(eh ((wr .u8 g):Int).toNat)]),(wr .i64 (f+2))))
  |_=>aj)) k (v,v1,v2,v3,v4,0,v4)) (kx (.exit 0) (v,v1,v2,v3,v4))
def XX(R:Type)(k:Nat):aR R:=bs [] [] [(7,b8 k Z7 (Bk)),(3,b8 k _M (BU k))] []
def _m(k:Nat)(x:aw [.str]):ae (aw [.sl .byte ab,an]):=match x with
 |s=>aI (λrec=>BU k rec (λe f=>match f with|(a,b,c,d,_)=>match e with
  |.ret=>J (b,c)
  |.exit 0=>cond (aa ((gZ (I a:Int) 2)=1)) (J ([],11)) (J (d,0))
  |_=>aj)) k (s,[],0,[],0)
theorem aso(k:Nat):aU 199 [.str] [.sl .byte ab,an] (_m k):=b6 (px:=XX _ k) (n:=2) Tryz.func199 rfl (λah H=>by have d:bP ah (XX (aw [.sl .byte ab,an]) k):=br H bq bo bp;have a:=cd H d (b:=vN (b0 Tryz.f199 0) 0) (k:=k) (n:=0) (s:=Z7) (step:=Bk) (λ_ _ _ (_,_,_,_,_,_,_)=>by kernel_rfl) aK;have c:=cd H d (b:=b0 Tryz.f199 0) (k:=k) (n:=1) (s:=_M) (step:=BU k) (λ_ _ _ (_,_,_,_,_)=>by kernel_rfl) (b9 aK a);exact⟨d,(b9 (b9 aK c) a)⟩) λ_=>by kernel_rfl
def JQ(s:ak):ak×Int:=match(if I s % 2=0 then aO.mU s []else aj)with|none=>([],11)|some b=>(b,0)
def zS(s:ak):ae (ak×Int):=if I s<=1000000 then J (JQ s)else aj
def Q9:bt [.str] [.sl .byte ab,an]:=λx=>zS x
variable{i:Nat}
theorem YF{kx:aX->EI->ae R}{rec:EI->ae R}{b:ak}{n x:Int}{a:ak}{i0:Int}(m:I s<=1000000)(f:i<I s)(ag : 0<=x/\x<=255)(h:(i:Int)<wr .i64 (i0+2)):Bk rec kx (s,b,n,a,i0,x,(i:Int))=match aO.ml (b_ s i)with
  |some d=>rec (s,b,n,a,i0,16*x+d,((i+1:Nat):Int))
  |none=>kx .ret (s,[],11,a,i0,x,(i:Int)):=by
 have o:=aO.oS s[i];have g:wr .i64 (s[i].toNat:Int)=(s[i].toNat:Int):=d_ ec;have c:wr .i64 ((s[i].toNat:Int)-48)=(s[i].toNat:Int)-48:=d_ ec;have e:wr .i64 ((s[i].toNat:Int)-87)=(s[i].toNat:Int)-87:=d_ ec;have ex:wr .i64 (16*x)=16*x:=d_ ec;have j:wr .i64 (16*x+((s[i].toNat:Int)-48))=16*x+((s[i].toNat:Int)-48):=d_ ec;have k:wr .i64 (16*x+((s[i].toNat:Int)-87))=16*x+((s[i].toNat:Int)-87):=d_ ec;have l:wr .i64 ((i:Int)+1)=((i+1:Nat):Int):=od
 simp[Bk,cg f,ax,bd,jr f,g,c,e,ex,j,k,l,aO.ml];generalize (s[i].toNat:Int)=y at *;by_cases p : 48<=y/\y<=57
 .grind
 .grind
theorem _z{R:Type}{kx:aX->Lw->ae R}{s b:ak}{n:Int}{c:ae ak->ae R}(f:Nat)(t : 3<=f)(m:I s<=1000000)(o:∀a i,kx .ret (s,[],11,a,i)=c aj)(p:∀a (i:Nat),I s<=i+1->kx (.exit 0) (s,b,n,a,(i:Int))=c (if I s % 2=1 then aj else J a)):∀(k i:Nat) (a:ak),i % 2=0->i<=I s->I a<=i->I s-i<k->aI (λrec=>BU f rec kx) k (s,b,n,a,(i:Int))=c (if I s % 2=1 then aj else aO.mU (s.drop i) a)
 |0,i,_,_,_,_,h=>absurd h (dY _)
 |k+1,i,a,he,bO,c5,h=>by
  have r:wr .i64 ((i:Int)+1)=((i+1:Nat):Int):=od
  have e:wr .i64 ((i:Int)+2)=((i+2:Nat):Int):=od
  rw[c6];by_cases u:i+1<I s
  .simp only[BU,r];rw[aH (show((i+1:Nat):Int)<(I s:Int) by omega),bd];obtain⟨f,rfl⟩:∃q,f=q+3:=⟨f-3,by omega⟩;have d:=aO.alW (l:=s) (acc:=a) (j:=(i:Int)) af af;have v:((i:Int)+2).toNat=i+2:=af
   have w:(i:Int).toNat=i:=af
   have z:(i:Int)+1=((i+1:Nat):Int):=af
   rw[w,v,z]at d;rw[c6,YF m (show i<I s by omega) af (by rw[e];omega)];have ag:aO.ml (b_ s i)=aO.ml (av.cf s i):=rfl;have aE:aO.ml (b_ s ((i+1:Nat):Int))=aO.ml (av.cf s ((i+1:Nat):Int)):=rfl;cases bc:aO.ml (av.cf s i)with
   |none=>
    rw[ag,bc];rw[bc]at d;simp[o];congr 1;split
    .rfl
    .exact d.symm
   |some x=>
    have dC:=aO.L5 bc;rw[ag,bc];simp only;rw[c6,YF m u af (by rw[e];omega)];cases g:aO.ml (av.cf s ((i+1:Nat):Int))with
    |none=>
     rw[aE,g];rw[bc,g]at d;simp[o];congr 1;split
     .rfl
     .exact d.symm
    |some y=>
     have eM:=aO.L5 g;rw[aE,g];rw[bc,g]at d;simp only at d ⊢;rw[c6];have gy:((i+1+1:Nat):Int)=((i+2:Nat):Int):=rfl;have FW : 16*(16*0+x)+y=x*16+y:=af
     have x8:wr .u8 (x*16+y)=x*16+y:=by have:n'.wrap (x*16+y)=x*16+y:=IntWalk.u8_in _ af;exact this
     simp only[Bk,e];rw[aL (show ¬((i+1+1:Nat):Int)<((i+2:Nat):Int) by omega),bj];simp only[FW,x8];rw[aH (show I a+1<=bY by simp[bY];omega)];simp only[ax,bd];rw[_z f.succ.succ.succ af m o p k (i+2) _ af af d' af,d]
  .simp only[BU,r];rw[aL (show ¬((i+1:Nat):Int)<(I s:Int) by omega),bj,p a i af];congr 1;by_cases hm:I s % 2=1
   .rw[if_pos hm,if_pos hm]
   .rw[if_neg hm,if_neg hm,gn af];rfl
theorem aua:aU 199 [.str] [.sl .byte ab,an] Q9:=.fin 0 aso λs r al ag=>⟨I s+3,by
 simp only[Q9,zS]at ag;split at ag
 .rename_i h;rw[<-ag];simp only[_m];refine Eq.trans (_z (s:=s) (R:=ak×Int) (c:=λo=>match o with|none=>J (([]:ak),(11:Int))|some b=>J (b,0)) (I s+3) af h (λ_ _=>rfl) (λa i _=>?_) (I s+3) 0 [] rfl (cL _) (by simp) af) ?_
  .show cond (aa (gZ (I s:Int) 2=1)) (J ([],11)) (J (a,0))=_;have d:gZ (I s:Int) 2=((I s % 2:Nat):Int):=rfl;rw[d];by_cases hm:I s % 2=1
   .rw[aH af,if_pos hm];rfl
   .rw[aL af,if_neg hm];rfl
  .simp only[iW,JQ];by_cases hm:I s % 2=1
   .rw[if_pos hm,if_neg af]
   .rw[if_neg hm,if_pos af];cases aO.mU s []<;>rfl
 .cases ag⟩
def Wb:bn:=⟨178,[(0,.str),(1,.int .i64),(7,.int .i64),(9,.int .i64)],[(4,.ptr 0 0)],[(0,.one (.bm .tok))],1,0,0,[],[]⟩
abbrev It:=ak×Int×Int×Int×Tok
def Al{R:Type}(rec:It->ae R)(kx:aX->It->ae R)(v:It):ae R:=match v with|(v,v1,v2,v3,w)=>cond (aa (v3<(I v:Int))) (ax (a_ v3 (I v)) (cond (!decide ((b_ v v3)=39)) (rec (v,v1,v2,(wr .i64 (v3+1)),w)) (kx (.exit 0) (v,v1,v2,v3,w)))) (kx (.exit 0) (v,v1,v2,v3,w))
def ais(R:Type)(k:Nat):aR R:=bs [(139,ba xF),(198,ba Sj),(199,ba Q9),(200,ba Nv),(114,ba zF),(201,ba ME),(202,ba QD),(183,ba Fi)] [] [(6,b8 k Wb (Al))] []
def Pa(k:Nat)(x:aw [.str,an]):ae (aw [jX,an]):=match x with
 |(s,i)=>
 ax (a_ i (I s)) (
  (Ko s i).bind λx=>
  ax (dP i x (I s)) (
   let a:Bool->ae (aw [jX,an]):=λ(p2:Bool)=>
   cond (p2) (
    aI (λrec=>Al rec (λe h=>match h with|(v4,v5,v6,bb,_)=>match e with
    |.exit 0=>
     cond (aa (bb=(I v4:Int))) (
     J ((Tok.mk 0 0 [] 0),(-1))) (
     ax (dP (wr .i64 (v6+1)) bb (I v4)) (
      (zS (cut v4 (wr .i64 (v6+1)) bb)).bind λ(b,l)=>
      cond (!decide (l=0)) (
       J ((Tok.mk 0 0 [] 0),(-1))) (
       cond (aa (1000<(I b:Int))) (
       J ((Tok.mk 0 0 [] 0),(-1))) (
       J ((Tok.mk 5 v5 b 0),(wr .i64 (bb+1)))))))
    |_=>aj)) k (s,i,x,(wr .i64 (x+1)),(Tok.mk 0 0 [] 0))) (
    cond (aa ((hG (b_ s i))=1)) (
    cond (J9 (cut s i x)) (
     J ((Tok.mk 1 i (cut s i x) 0),x)) (
     J ((Tok.mk 0 0 [] 0),(-1)))) (
    cond (aa ((hG (b_ s i))=2)) (
     cond (q4 (cut s i x)) (
     J ((Tok.mk 2 i (cut s i x) 0),x)) (
     J ((Tok.mk 0 0 [] 0),(-1)))) (
     cond (aa ((hG (b_ s i))=3)) (
     (JO (cut s i x)).bind λc=>
      cond (aa (0<=c)) (
      J ((Tok.mk 3 i (cut s i x) c),x)) (
      J ((Tok.mk 0 0 [] 0),(-1)))) (
     cond (aa ((hG (b_ s i))=5)) (
      (zI s (wr .i64 (i+1))).bind λ(d,f)=>
      cond (aa (0<=f)) (
       cond (aa ((wy (dA.mk 4 0 d))=0)) (
       J ((Tok.mk 4 i d 0),(wr .i64 (f+1)))) (
       J ((Tok.mk 0 0 [] 0),(-1)))) (
       J ((Tok.mk 0 0 [] 0),(-1)))) (
      cond (aa ((hG (b_ s i))=7)) (
      cond (aa ((wr .i64 (i+1))<(I s:Int))) (
       ax (dP i (wr .i64 (i+2)) (I s)) (
       let g:Bool->ae (aw [jX,an]):=λ(m:Bool)=>
        cond (m) (
        ax (dP i (wr .i64 (i+2)) (I s)) (
         J ((Tok.mk 6 i (cut s i (wr .i64 (i+2))) 0),(wr .i64 (i+2))))) (
        ax (dP i (wr .i64 (i+2)) (I s)) (
         cond (aa ((cut s i (wr .i64 (i+2)))=[62,61])) (
         ax (dP i (wr .i64 (i+2)) (I s)) (
          J ((Tok.mk 6 i (cut s i (wr .i64 (i+2))) 0),(wr .i64 (i+2))))) (
         ax (dP i (wr .i64 (i+1)) (I s)) (
          J ((Tok.mk 6 i (cut s i (wr .i64 (i+1))) 0),(wr .i64 (i+1)))))))
       cond (aa ((cut s i (wr .i64 (i+2)))=[60,62])) (
        g ab) (
        ax (dP i (wr .i64 (i+2)) (I s)) (
        g (aa ((cut s i (wr .i64 (i+2)))=[60,61])))))) (
       ax (dP i (wr .i64 (i+1)) (I s)) (
       J ((Tok.mk 6 i (cut s i (wr .i64 (i+1))) 0),(wr .i64 (i+1)))))) (
      J ((Tok.mk 0 0 [] 0),(-1))))))))
   let j:Bool->ae (aw [jX,an]):=λ(p:Bool)=>
   cond (p) (
    ax (a_ x (I s)) (
    a (aa ((b_ s x)=39)))) (
    a ai)
   cond (aa ((cut s i x)=[120])) (
   j (aa (x<(I s:Int)))) (
   j ai)))
theorem apZ(k:Nat):aU 140 [.str,an] [jX,an] (Pa k):=b6 (px:=ais _ k) (n:=1) Tryz.func140 rfl (λah H=>by have c:bP ah (ais (aw [jX,an]) k):=br H (c1 H ES (c1 H azZ (c1 H aua (c1 H apn (c1 H IG (c1 H an0 (c1 H auU (c1 H Ps bq)))))))) bo bp;have a:=cd H c (b:=b0 Tryz.f140 0) (k:=k) (n:=0) (s:=Wb) (step:=Al) (λ_ _ _ (_,_,_,_,_)=>by kernel_rfl) aK;exact⟨c,(b9 aK a)⟩) λ(_,_)=>by kernel_rfl
def Vl(i:Int):ae (Int×ak×Int×Int)->Tok×Int|none=>(⟨0,0,[],0⟩, -1)|some (k,x,n,e)=>(⟨k,i,x,n⟩,e)
def Av(s:ak)(i:Int):ae (Tok×Int):=if 0<=i/\i<(I s:Int)/\I s<=1000000 then J (Vl i (aO.pv s i))else aj
def RR:bt [.str,an] [jX,an]:=λx=>Av x.1 x.2
theorem XO{R:Type}{kx:aX->It->ae R}{s:ak}{i t:Int}{w:Tok}{c:Int->ae R}(e:I s<=1000000)(b:∀q,kx (.exit 0) (s,i,t,q,w)=c q):∀(k n:Nat),n<=I s->I s-n<k->aI (λrec=>Al rec kx) k (s,i,t,(n:Int),w)=c (aO.c4 (λc=> !decide (c=39)) s n)
 |0,_,_,h=>absurd h (dY _)
 |k+1,n,ck,h=>by
  rw[c6];by_cases f:n<I s
  .have g:wr .i64 ((n:Int)+1)=((n+1:Nat):Int):=od
   have m:aa ((n:Int)<(I s:Int))=true:=aH af;have o:((n+1:Nat):Int)=(n:Int)+1:=af
   simp only[Al,m,cg f,g,(XO e b k (n+1) af af),b];by_cases a:b_ s n=39
   .have d:=aO.yt (p:=λc=> !decide (c=39)) (l:=s) (j:=(n:Int)) ⟨by omega,by omega⟩ (by show(!decide (b_ s n=39))=ai;rw[aH a];rfl);rw[aH a,d];rfl
   .have d:=aO.yu (p:=λc=> !decide (c=39)) (l:=s) (j:=(n:Int)) ⟨by omega,by omega⟩ (by show(!decide (b_ s n=39))=ab;rw[aL a];rfl);rw[aL a,o,d];rfl
  .simp[Al,b];rw[aL af,aO.CA af];rfl
theorem aih(a b:Int):I (cut s a b)<=I s:=by have h:I (cut s a b)=I ((s.drop a.toNat).take (b.toNat-a.toNat)):=rfl;rw[h,jL,ff];omega
theorem aAw(s:ak)(i:Int)(h : 0<=i/\i<(I s:Int)/\I s<=1000000):Pa (I s+1) (s,i)=J (Vl i (aO.pv s i)):=by
 obtain⟨u,aY,aZ⟩:=h;have b':=aO.pt aO.eg s i ⟨u,by omega⟩;have he:Ko s i=J (aO.c4 aO.eg s i):=if_pos ⟨u,by omega,aZ⟩;have a2:wr .i64 (i+1)=i+1:=d_ ec;have a3:wr .i64 (i+2)=i+2:=d_ ec;simp -zeta only [Pa,he,bA,a2,a3];unfold aO.pv;by_cases ag:aO.rW s i
 .rw[if_pos ag];simp[aO.rW]at ag;generalize aO.c4 aO.eg s i=t at b' ag ⊢;have d:wr .i64 (t+1)=t+1:=d_ ec;rw[qZ ⟨u,aY⟩,nQ af,d];simp -zeta only [ax,bd];extract_lets ih g j t2 q;have v:cond (aa (cut s i t=[120])) (j (aa (t<(I s:Int)))) (j ai)=g true:=by rw[aH (show cut s i t=[120] from ag.1),aH ag.2.1];show cond (a_ t (I s)) (g (aa (b_ s t=39))) aj=g ab;rw[qZ ⟨by omega,ag.2.1⟩,aH (show b_ s t=39 from ag.2.2)];rfl
  rw[v];obtain⟨n,k⟩:=Int.eq_ofNat_of_zero_le (show 0<=t+1 by omega);show aI _ _ (s,i,t,t+1,_)=_;rw[k];refine(XO (c:=λq=>cond (aa (q=(I s:Int))) (J (⟨0,0,[],0⟩, -1)) (cond (dP (t+1) q (I s)) ((zS (cut s (t+1) q)).bind λ(hD,gB)=>cond (!decide (gB=0)) (J (⟨0,0,[],0⟩, -1)) (cond (aa (1000<(I hD:Int))) (J (⟨0,0,[],0⟩, -1)) (J (⟨5,i,hD,0⟩,wr .i64 (q+1))))) aj)) aZ (λq=>by show cond _ _ (cond (dP (wr .i64 (t+1)) q (I s)) ((zS (cut s (wr .i64 (t+1)) q)).bind _) aj)=_;rw[d]) (I s+1) n af af).trans ?_;rw[<-k];have o:=aO.pt (λc=> !decide (c=39)) s (t+1) ⟨by omega,by omega⟩;have l:aO.c4 (λc=> !decide (c=39)) s (t+1)=q:=rfl;rw[l]at o ⊢;clear_value q;by_cases f:q=(I s:Int)
  .rw[aH f,if_pos f];rfl
  .have ao:zS (cut s (t+1) q)=J (JQ (cut s (t+1) q)):=if_pos (by have:=aih (s:=s) (t+1) q;omega);have a4:wr .i64 (q+1)=q+1:=d_ ec;rw[aL f,if_neg f,bj,nQ af,bd,ao,a4];have m:(av.cut s (t+1) q)=cut s (t+1) q:=rfl;rw[m];simp[ JQ];cases (if I (cut s (t+1) q) % 2=0 then aO.mU (cut s (t+1) q) []else aj)with
   |none=>rfl
   |some b=>
    simp;by_cases al : 1000<(I b:Int)
    .rw[aH al,if_pos al];rfl
    .rw[aL al,if_neg al];rfl
 .rw[if_neg ag];simp only[aO.rW]at ag;generalize aO.c4 aO.eg s i=t at b' ag ⊢;have d:wr .i64 (t+1)=t+1:=d_ ec;rw[qZ ⟨u,aY⟩,nQ af,d];simp -zeta only [ax,bd];extract_lets ih g j q;have v:cond (aa (cut s i t=[120])) (j (aa (t<(I s:Int)))) (j ai)=g false:=by
   by_cases c1:cut s i t=[120]
   .rw[aH c1];by_cases c2:t<(I s:Int)
    .rw[aH c2];show cond (a_ t (I s)) (g (aa (b_ s t=39))) aj=g ai;rw[qZ ⟨by omega,c2⟩,aL (show ¬b_ s t=39 fromλq=>ag ⟨c1,c2,q⟩)];rfl
    .rw[aL c2];rfl
   .rw[aL c1];rfl
  rw[v];clear v;have al:av.cf s i=b_ s i:=rfl;have a5:av.cut s i t=cut s i t:=rfl;rw[al,a5];simp[g,ih];by_cases w:aO.cU (b_ s i)=1
  .rw[aH (show hG (b_ s i)=1 from w),if_pos w,bd];have hw:J9 (cut s i t)=aO.nA (cut s i t):=Q' _;rw[hw];cases aO.nA (cut s i t)<;>rfl
  rw[aL (show ¬hG (b_ s i)=1 from w),if_neg w,bj];by_cases x:aO.cU (b_ s i)=2
  .rw[aH (show hG (b_ s i)=2 from x),if_pos x,bd,q4];cases aO.qb (cut s i t)<;>rfl
  rw[aL (show ¬hG (b_ s i)=2 from x),if_neg x,bj];by_cases z:aO.cU (b_ s i)=3
  .have ao:JO (cut s i t)=J (aO.n_ (cut s i t)):=if_pos (by have:=aih (s:=s) i t;omega);rw[aH (show hG (b_ s i)=3 from z),if_pos z,bd,ao,bA];by_cases k : 0<=aO.n_ (cut s i t)
   .rw[aH k,if_pos k];rfl
   .rw[aL k,if_neg k];rfl
  rw[aL (show ¬hG (b_ s i)=3 from z),if_neg z,bj];by_cases yf:aO.cU (b_ s i)=5
  .have ao:zI s (i+1)=J (wR (aO.hR (s.drop (i+1).toNat) [] (i+1))):=if_pos ⟨by omega,by omega,aZ⟩;have bB:=aO.yp _ (s.drop (i+1).toNat) [] (i+1) (bU _) af;have bE:I (s.drop (i+1).toNat)=I s-(i+1).toNat:=ff;have l:aO.hR (s.drop (i+1).toNat) [] (i+1)=q:=rfl;rw[l]at ao bB;rw[aH (show hG (b_ s i)=5 from yf),if_pos yf,bd];clear_value q;by_cases o:q.2 = -1
   .have a:zI s (i+1)=J ([], -1):=by rw[ao,wR,if_pos o]
    rw[a,if_neg (λc=>c.1 o)];rfl
   .have a:zI s (i+1)=J (q.1,q.2-1):=by rw[ao,wR,if_neg o]
    have tM:wr .i64 (q.2-1+1)=q.2:=od
    rw[a];simp only[bA,tM];rw[aH (show 0<=q.2-1 by omega),bd];have bf:wy (dA.mk 4 0 q.1)=aO.tK 4 0 q.1:=by show j8 (dA.mk 4 0 q.1)=_;simp only[j8,aO.tK,anW];cases aO.tV 4 0 q.1<;>rfl
    by_cases a:aO.tK 4 0 q.1=0
    .rw[aH (bf.trans a),if_pos ⟨o,a⟩];rfl
    .rw[aL (λe=>a (bf.symm.trans e)),if_neg (λc=>a c.2)];rfl
  rw[aL (show ¬hG (b_ s i)=5 from yf),if_neg yf,bj];by_cases yg:aO.cU (b_ s i)=7
  .rw[aH (show hG (b_ s i)=7 from yg),if_pos yg,bd];have m:av.cut s i (i+2)=cut s i (i+2):=rfl;have bG:av.cut s i (i+1)=cut s i (i+1):=rfl;simp[aO.rj,m];by_cases p:i+1<(I s:Int)
   .rw[aH p,nQ (show 0<=i/\i<=i+2/\i+2<=(I s:Int) by omega),nQ (show 0<=i/\i<=i+1/\i+1<=(I s:Int) by omega)];simp;generalize cut s i (i+2)=y;by_cases r:y=[60,62]
    .rw[aH r,if_pos ⟨p,.inl r⟩];rfl
    .by_cases sH:y=[60,61]
     .rw[aL r,aH sH,if_pos ⟨p,.inr (.inl sH)⟩];rfl
     .by_cases yG:y=[62,61]
      .rw[aL r,aL sH,aH yG,if_pos ⟨p,.inr (.inr yG)⟩];rfl
      .rw[aL r,aL sH,aL yG,if_neg (λc=>by rcases c.2 with c|c|c<;>contradiction)];rfl
   .rw[aL p,bj,nQ af,if_neg (λc=>p c.1)];rfl
  rw[aL (show ¬hG (b_ s i)=7 from yg),if_neg yg,bj];rfl
theorem ayv:aU 140 [.str,an] [jX,an] RR:=.fin 0 apZ λ(s,i) r al ag=>⟨I s+1,by
 simp only[RR,Av]at ag;split at ag
 .rename_i h;exact(aAw s i h).trans ag
 .cases ag⟩
def ZU:bn:=⟨38,[(0,.str),(2,.sl .tok ab),(3,.int .i64),(4,.int .i64),(5,.sl .tok ab),(6,.int .i64)],[],[],0,0,0,[],[]⟩
abbrev Ly:=ak×U Tok×Int×Int×U Tok×Int
def Fo{R:Type}(rec:Ly->ae R)(kx:aX->Ly->ae R)(v:Ly):ae R:=match v with|(v,v1,v2,v3,v4,v5)=>cond (aa (v5<(I v:Int))) (ax (a_ v5 (I v)) (cond (aa ((hG (b_ v v5))=6)) (rec (v,v1,v2,v3,v4,(wr .i64 (v5+1)))) ((Av v v5).bind λ(x,a)=>cond (aa (a<0)) (kx .ret (v,[],v5,11,v4,v5)) (ax (aa (I v4+1<=bY)) (rec (v,v1,v2,v3,(v4++[x]),a)))))) (kx (.exit 0) (v,v1,v2,v3,v4,v5))
def VA(R:Type)(k:Nat):aR R:=bs [(139,ba xF),(140,ba RR)] [] [(5,b8 k ZU (Fo))] []
def ZT(k:Nat)(x:aw [.str]):ae (aw [.sl .tok ab,an,an]):=match x with
 |s=>cond (aa (20000<(I s:Int))) (J ([],0,3)) (aI (λrec=>Fo rec (λe b=>match b with|(_,bb,bK,v9,a,_)=>match e with
  |.ret=>J (bb,bK,v9)
  |.exit 0=>J (a,0,0)
  |_=>aj)) k (s,[],0,0,[],0))
theorem ath(k:Nat):aU 80 [.str] [.sl .tok ab,an,an] (ZT k):=b6 (px:=VA _ k) (n:=1) Tryz.func80 rfl (λah H=>by have c:bP ah (VA (aw [.sl .tok ab,an,an]) k):=br H (c1 H ES (c1 H ayv bq)) bo bp;have a:=cd H c (b:=b0 Tryz.f80 0) (k:=k) (n:=0) (s:=ZU) (step:=Fo) (λ_ _ _ (_,_,_,_,_,_)=>by kernel_rfl) aK;exact⟨c,(b9 aK a)⟩) λ_=>by kernel_rfl
abbrev l7(s:ak):U Tok×Int×Int:=wU s
def Q1:bt [.str] [.sl .tok ab,an,an]:=λx=>J (l7 x)
theorem TE{R:Type}{kx:aX->Ly->ae R}{s:ak}{c:Except Int (U Tok)->ae R}(n:I s<=20000)(j:∀a i,kx .ret (s,[],i,11,a,i)=c (.error i))(l:∀a i,kx (.exit 0) (s,[],0,0,a,i)=c (.ok a)):∀(k:Nat) (i:Int) (f:Nat) (a:U Tok),(I a:Int)<=i->0<=i->i<=I s->(I s:Int)-i<k->(I s:Int)-i<f->aI (λrec=>Fo rec kx) k (s,[],0,0,a,i)=c (aO.pq f s i a)
 |0,i,f,a,_,_,_,h,_=>by omega
 |_,i,0,a,_,_,_,_,h=>by omega
 |k+1,i,f+1,a,c5,dm,bO,bf,cb=>by
  rw[c6];simp[Fo,aO.pq];by_cases d:i<(I s:Int)
  .rw[aH d,bd,if_neg af,qZ ⟨dm,d⟩];have r:wr .i64 (i+1)=i+1:=d_ ec;show cond (aa (hG (b_ s i)=6)) _ _=_;by_cases g:aO.cU (av.cf s i)=6
   .rw[aH (show hG (b_ s i)=6 from g),if_pos g,bd,r];exact TE n j l k (i+1) f a af af af af af
   .have ao:Av s i=J (Vl i (aO.pv s i)):=if_pos ⟨dm,d,by omega⟩;rw[aL (show ¬hG (b_ s i)=6 from g),if_neg g,bj];cases m:aO.pv s i with
    |none=>
     have b:Av s i=J (⟨0,0,[],0⟩, -1):=by rw[ao,m];rfl
     rw[b];simp only[bA];rw[aH (show(-1:Int)<0 by decide),bd,j]
    |some x=>
     obtain⟨o,p,q,e⟩:=x;have t:=aO.Vm ⟨dm,d⟩ m;have b:Av s i=J (⟨o,i,p,q⟩,e):=by rw[ao,m];rfl
     rw[b];simp;rw[aL (show ¬e<0 by omega),bj,aH (show I a+1<=bY by simp[bY];omega)];simp[ax];exact TE n j l k e f (a++[⟨o,i,p,q⟩]) d' af af af af
  .rw[aL d,bj,l,if_pos af]
theorem auQ:aU 80 [.str] [.sl .tok ab,an,an] Q1:=.fin 0 ath λs r al ag=>⟨20001,by
 simp only[Q1,dN]at ag;rw[<-ag];simp only[ZT,l7,wU];by_cases a : 20000<(I s:Int)
 .rw[aH a,if_pos a];rfl
 .rw[aL a,if_neg a,bj];refine(TE (s:=s) (c:=λo=>match o with|.error i=>J (([]:U Tok),i,(11:Int))|.ok bQ=>J (bQ,(0:Int),(0:Int))) af (λ_ _=>rfl) (λ_ _=>rfl) 20001 0 (I s+1) [] (by simp) af af af af).trans ?_;rw[aO.akN];simp only[aO.Vg];cases aO.pq (I s+1) s 0 []<;>rfl⟩
end Go.Proofs.YtdelkmpkjibigaaGreatDoor
namespace Go.Proofs.YtdelkmpkjibigaaGreatDoor
open Go.av Go.RowKit
theorem ajw:nK Tryz.prog 23 9 1 16:=FX bW
theorem ajA:nK Tryz.prog 22 83 5 48:=FX bW
theorem Ka:nK Tryz.prog 24 35 6 80:=FX bW
theorem pR:nK Tryz.prog 25 63 2 40:=FX bW
def uZ(t:bD)(bX n:Nat)(xs:U aD):aD->av.Loc->(aT->Prop)->Prop:=λv L _=>L=[.row v t bX n xs]
theorem aDl{ah:av.di}{L:av.Loc}{F:aT->Prop}{t:bD}{bX n:Nat}{xs:U aD}{sI:av.Loc->(aT->Prop)->Prop}(b:∀w,F w->n=0/\xs=[])(h : sI (.row (.slice aj 0 0) t bX n xs::L) F):Bs ah L F sI:=.mk λw a=>by obtain⟨c,d⟩:=b w a.here;subst c d;exact⟨_,_,h,a.newRow t bX⟩
theorem amE{a:ae Addr}{n c bX:Nat}{xs:U aD}(f:a.isNone=ab)(w:aT)(h:qW (.slice a n c) bX n xs w):n=0/\xs=[]:=by
 obtain⟨i,ca,k,g,j⟩:=h;have d:n=0:=by
  rcases j with d|⟨b,off,e,_⟩
  .exact d
  .simp only[aD.slice.injEq]at g;rw[g.1,e]at f;cases f
 subst d;exact⟨rfl,k0 (by simpa using i)⟩
set_option maxRecDepth 20000 in
theorem ame(a:ae Addr)(n c:Nat)(xs:U aD)(e:xs.all one=ab)(d:n<=1000000):lE Tryz.prog 70 [.slice a n c] [] (qW (.slice a n c) 1 n xs) (uZ 9 1 n xs):=by
 refine qC Tryz.func70 Tryz.ntmps70 rfl bW rfl λw M=>?_
 repeat' (first|(refine kI ?_;(first|refine jU ?_|(apply gC rfl rfl;(first|exact jA rfl|exact kX rfl))|(apply gC rfl rfl;exact y' 1 gi rfl rfl)|(refine BK rfl rfl ajw rfl rfl rfl rfl ?_;intro b)))|(refine kJ ?_;(first|refine nd ?_|refine oj ?_|refine sa ?_|(refine r_ rfl ?_ ?_<;>intro ao<;>try contradiction)|refine mA rfl rfl ?_))|(refine kH ?_;(first|refine jP ?_))|fail)
 .exact G2
 .refine HR 1 ?_;refine H9 0 rfl rfl ajw rfl rfl rfl (H7 (λw h=>h)) e af af ?_;intro f
  repeat' (first|(refine kI ?_;(first|refine jU ?_|(apply gC rfl rfl;(first|exact kX rfl))))|(refine kJ ?_;(first|refine mA rfl rfl ?_))|(refine kH ?_;(first|refine jP ?_))|fail)
  refine o1 ?_;simp[uZ]
set_option maxRecDepth 20000 in
theorem al3(a:ae Addr)(n c:Nat)(xs:U aD)(e:xs.all one=ab)(d:n<=1000000):lE Tryz.prog 69 [.slice a n c] [] (qW (.slice a n c) 5 n xs) (uZ 83 5 n xs):=by
 refine qC Tryz.func69 Tryz.ntmps69 rfl bW rfl λw M=>?_
 repeat' (first|(refine kI ?_;(first|refine jU ?_|(apply gC rfl rfl;(first|exact jA rfl|exact kX rfl))|(apply gC rfl rfl;exact y' 5 gi rfl rfl)|(refine BK rfl rfl ajA rfl rfl rfl rfl ?_;intro b)))|(refine kJ ?_;(first|refine nd ?_|refine oj ?_|refine sa ?_|(refine r_ rfl ?_ ?_<;>intro ao<;>try contradiction)|refine mA rfl rfl ?_))|(refine kH ?_;(first|refine jP ?_))|fail)
 .exact G2
 .refine HR 5 ?_;refine H9 0 rfl rfl ajA rfl rfl rfl (H7 (λw h=>h)) e af af ?_;intro f
  repeat' (first|(refine kI ?_;(first|refine jU ?_|(apply gC rfl rfl;(first|exact kX rfl))))|(refine kJ ?_;(first|refine mA rfl rfl ?_))|(refine kH ?_;(first|refine jP ?_))|fail)
  refine o1 ?_;simp[uZ]
set_option maxRecDepth 20000 in
theorem amj(a:ae Addr)(n c:Nat)(xs:U aD)(e:xs.all one=ab)(d:n<=1000000):lE Tryz.prog 136 [.slice a n c] [] (qW (.slice a n c) 6 n xs) (uZ 35 6 n xs):=by
 refine qC Tryz.func136 Tryz.ntmps136 rfl bW rfl λw M=>?_
 repeat' (first|(refine kI ?_;(first|refine jU ?_|(apply gC rfl rfl;(first|exact jA rfl|exact kX rfl))|(apply gC rfl rfl;exact y' 6 gi rfl rfl)|(refine BK rfl rfl Ka rfl rfl rfl rfl ?_;intro b)))|(refine kJ ?_;(first|refine nd ?_|refine oj ?_|refine sa ?_|(refine r_ rfl ?_ ?_<;>intro ao<;>try contradiction)|refine mA rfl rfl ?_))|(refine kH ?_;(first|refine jP ?_))|fail)
 .exact G2
 .refine HR 6 ?_;refine H9 0 rfl rfl Ka rfl rfl rfl (H7 (λw h=>h)) e af af ?_;intro f
  repeat' (first|(refine kI ?_;(first|refine jU ?_|(apply gC rfl rfl;(first|exact kX rfl))))|(refine kJ ?_;(first|refine mA rfl rfl ?_))|(refine kH ?_;(first|refine jP ?_))|fail)
  refine o1 ?_;simp[uZ]
set_option maxRecDepth 20000 in
theorem amr(a:ae Addr)(n c:Nat)(xs:U aD)(e:xs.all one=ab)(d:n<=1000000):lE Tryz.prog 77 [.slice a n c] [] (qW (.slice a n c) 2 n xs) (uZ 63 2 n xs):=by
 refine qC Tryz.func77 Tryz.ntmps77 rfl bW rfl λw M=>?_
 repeat' (first|(refine kI ?_;(first|refine jU ?_|(apply gC rfl rfl;(first|exact jA rfl|exact kX rfl))|(apply gC rfl rfl;exact y' 2 gi rfl rfl)|(refine BK rfl rfl pR rfl rfl rfl rfl ?_;intro b)))|(refine kJ ?_;(first|refine nd ?_|refine oj ?_|refine sa ?_|(refine r_ rfl ?_ ?_<;>intro ao<;>try contradiction)|refine mA rfl rfl ?_))|(refine kH ?_;(first|refine jP ?_))|fail)
 .exact G2
 .refine HR 2 ?_;refine H9 0 rfl rfl pR rfl rfl rfl (H7 (λw h=>h)) e af af ?_;intro f
  repeat' (first|(refine kI ?_;(first|refine jU ?_|(apply gC rfl rfl;(first|exact kX rfl))))|(refine kJ ?_;(first|refine mA rfl rfl ?_))|(refine kH ?_;(first|refine jP ?_))|fail)
  refine o1 ?_;simp[uZ]
set_option maxRecDepth 20000 in
theorem amP(a:ae Addr)(c:Nat):lE Tryz.prog 136 [.slice a 0 c] [] (λ_=>True) (λv _ _=>∃ca,v = .slice ca 0 0):=by
 refine qC Tryz.func136 Tryz.ntmps136 rfl bW rfl λw M=>?_
 repeat' (first|(refine kI ?_;(first|refine jU ?_|(apply gC rfl rfl;(first|exact jA rfl|exact kX rfl))|(apply gC rfl rfl;exact y' 6 gi rfl rfl)|(refine BK rfl rfl Ka rfl rfl rfl rfl ?_;intro b)|(apply gC rfl rfl;exact XF Ka rfl rfl)))|(refine kJ ?_;(first|refine nd ?_|refine oj ?_|refine sa ?_|(refine r_ rfl ?_ ?_<;>intro ao<;>try contradiction)|refine mA rfl rfl ?_))|(refine kH ?_;(first|refine jP ?_))|fail)
 .exact o1 ⟨_,rfl⟩
 .exact o1 ⟨_,rfl⟩
set_option maxRecDepth 20000 in
theorem amR(a:ae Addr)(c:Nat):lE Tryz.prog 77 [.slice a 0 c] [] (λ_=>True) (λv _ _=>∃ca,v = .slice ca 0 0):=by
 refine qC Tryz.func77 Tryz.ntmps77 rfl bW rfl λw M=>?_
 repeat' (first|(refine kI ?_;(first|refine jU ?_|(apply gC rfl rfl;(first|exact jA rfl|exact kX rfl))|(apply gC rfl rfl;exact y' 2 gi rfl rfl)|(refine BK rfl rfl pR rfl rfl rfl rfl ?_;intro b)|(apply gC rfl rfl;exact XF pR rfl rfl)))|(refine kJ ?_;(first|refine nd ?_|refine oj ?_|refine sa ?_|(refine r_ rfl ?_ ?_<;>intro ao<;>try contradiction)|refine mA rfl rfl ?_))|(refine kH ?_;(first|refine jP ?_))|fail)
 .exact o1 ⟨_,rfl⟩
 .exact o1 ⟨_,rfl⟩
theorem amD{P:cP}(w:aT)(c q e:bD)(l:P.underlying c=J (.slice e))(size:Nat)(m:∀w,(Go.sizeOf e).run P w = .ok size w)
  (a b:Addr) (tQ r c7 s:Nat) (d:a.block≠b.block) (c1 c2:Array aD) (t1 t2:bD) (f1:Nat×Nat)
  (u:w.heap[a.block]? = J (.cells c1 t1 f1)) (al:w.heap[b.block]? = J (.cells c2 t2 (0,0))) (v:c1.size≠0) :
  (Extern.SlicesOverlaps.overlaps #[c,c] #[q] #[.slice (J a) tQ r,.slice (J b) c7 s]).run P w = .ok (.bool ai) w:=by
 have g:(a.block != b.block)=true:=uN
 have f:(a.block == b.block)=false:=uN
 have h:w.shape? a.block=J (t1,c1.size):=by simp[aT.shape?,u]
 have i:w.shape? b.block=J (t2,c2.size):=by simp[aT.shape?,al]
 have j:∀o sp,w.frozen? ⟨b.block,o,sp⟩=false:=λo sp=>by simp[aT.frozen?,al]
 change Sem.run P (α:=aD) (do
  let J t:=(#[c,c]:Array bD)[0]? | stuck "slices.overlaps: no parameter types"
  let .slice elem <-underlying t|stuck "slices.overlaps: slice type expected"
  let size <-sizeOf elem;match(J a:ae Addr),(J b:ae Addr)with
  |some a,J b=>
   if tQ=0\/c7=0\/size=0 then pure (aD.bool ai)
   else if a.block != b.block&&(<-frozen a)&&(<-frozen b)then unsupported .addressObserved
   else do
    if a.block != b.block then do
     noView a;noView b
     if <-mayBeOne a b then return aD.bool ((<-choose (.extern "sameAddr.stringBytes" 2)) == 1)
    pure (aD.bool (a.block == b.block&&a.off<b.off+c7*size&&b.off<a.off+tQ*size))
  |_,_=>pure (aD.bool ai)) w=_
 by_cases n:tQ=0\/c7=0\/size=0
 .simp[dO l,m,n]
 .obtain⟨p,aDY⟩:∃p,c1.size=p+1:=⟨c1.size-1,by omega⟩;cases k:w.frozen? a<;>simp[dO l,m,n,g,f,frozen,noView,viewAt,mayBeOne,stringish,shape,Sem.run,h,i,j,k,aDY]
section
variable {ah:av.di}{k:U mB}{e:av.Env}{L:av.Loc}{F:aT->Prop}{Q:Exit->Act->aT->Prop}{ops:Array bx}{rest:U bx}
theorem azQ{dst:Nat}{gJ x y:cO}{bQ:Array bD}{t o alR elem s:bD}{pos:String}{b:Array Edge}{g':ae (Nat×Bool)}{f:FuncId}{g go c7 p hl hT tQ q bX:Nat}{cs:U aD}(i:Nat)(cr:m2 ops e g' = J ab)(ar:eU dst ah.n=ab)
  (cb:Env.aJ e gJ=J (.func (.func f) #[] #[])) (ag:Env.aJ e x=J (.slice (J ⟨hl,hT,aj⟩) tQ q)) (aE:Env.aJ e y=J (.slice (J ⟨g,go,aj⟩) c7 p)) (bO:L[i]? = J (.bF g cs s)) (z:hl≠g) (j:∀w,F w->∃u,w.cell? ⟨hl,hT,aj⟩=J u)
  (l:∀args w,(callFunc f args).run ah.P w=((Extern.SlicesOverlaps.overlaps #[o,o] #[alR] args).run ah.P w).andThen λv w'=>.ok (.value v) w') (b':ah.P.underlying o=J (.slice elem)) (dK:gA ah.P elem=J bX)
  (h:O ah ops rest k ((dst,.bool ai)::e) L F Q):O ah ops (⟨J dst,.call ⟨.value gJ, #[x,y],bQ⟩,t,pos,b,g'⟩::rest) k e L F Q:=by
 refine sZ (λr L' eG=>r = .bool ai/\L' = L/\eG = F) cr ar (λa w he d=>⟨.bool ai,w,L,F,?_,d,rfl,rfl,rfl⟩) (λr L' eG ⟨aF,gR,fC⟩=>by rw[aF,gR,fC];exact h);have a2:w.heap[g]? = J (.cells cs.toArray s (0,0)):=d.ok _ (lW bO);obtain⟨u,m⟩:=j w d.here;obtain⟨c1,t1,f1,ch,aDW⟩:∃c1 t1 f1,w.heap[hl]? = J (.cells c1 t1 f1)/\c1.size≠0:=by
  unfold h7 at m;split at m
  .rename_i c t' gI ch;refine⟨c,t',gI,ch,λdm=>?_⟩;simp only[Option.isSome_none,pX,if_false]at m;have:=(hZ.1 m).1;omega
  .cases m
 have a3:=amD (P:=ah.P) w o alR elem b' bX (λw=>av.run_sizeOf dK w) ⟨hl,hT,aj⟩ ⟨g,go,aj⟩ tQ q c7 p z c1 _ t1 s f1 ch a2 aDW;simp only[cE,resolve,he.aJ cb,he.aJ ag,he.aJ aE,Deferred.ofValue,e3,ga,gr,invoke,List.map_toArray,hk,List.map_nil];rw[show(#[] ++ #[aD.slice (J ⟨hl,hT,aj⟩) tQ q,aD.slice (J ⟨g,go,aj⟩) c7 p] ++ #[]:Array aD) = #[aD.slice (J ⟨hl,hT,aj⟩) tQ q,aD.slice (J ⟨g,go,aj⟩) c7 p] by simp,l,a3];rfl
end
def put(c z:U aD)(o:Nat):U Value:=c.take o++z++c.drop (o+I z)
theorem xO{c z:U aD}{o:Nat}(h:o+I z<=I c):I (put c z o)=I c:=by simp only[put,e7,jL,ff];omega
theorem Jo{c z:U aD}{o:Nat}(h:o+I z<=I c)(q:Nat):(put c z o)[q]? = if o<=q/\q<o+I z then z[q-o]? else c[q]? :=by
 have a:I (c.take o)=o:=d'
 simp only[put,hp];by_cases b:q<o
 .rw[List.getElem?_append_left af,if_neg af,h5,if_pos b]
 .rw[List.getElem?_append_right af,a];by_cases d:q<o+I z
  .rw[List.getElem?_append_left af,if_pos af]
  .rw[List.getElem?_append_right af,if_neg af,kr];congr 1;omega
def uH(cs ys:U aD)(i n:Nat):U Value:=cs.take (i*2)++ys++(cs.drop (i*2)).take ((n-i)*2)
theorem afB{cs ys:U aD}{i n:Nat}(d:i<=n)(f:n*2<=I cs)(aE:I ys=2)(q:Nat):(uH cs ys i n)[q]? = if q<i*2 then cs[q]? else if q<i*2+2 then ys[q-i*2]? else if q<(n+1)*2 then cs[q-2]? else none:=by
 have e:I (cs.take (i*2))=i*2:=d'
 have ar:I ((cs.drop (i*2)).take ((n-i)*2))=(n-i)*2:=d'
 simp only[uH,hp];by_cases a:q<i*2
 .rw[List.getElem?_append_left af,if_pos a,h5,if_pos a]
 .rw[List.getElem?_append_right af,e,if_neg a];by_cases b:q<i*2+2
  .rw[List.getElem?_append_left af,if_pos b]
  .rw[List.getElem?_append_right af,if_neg b,aE,h5,kr];by_cases c:q<(n+1)*2
   .rw[if_pos c,if_pos af];congr 1;omega
   .rw[if_neg c,if_neg af]
theorem apa{cs ys Z:U aD}{i n:Nat}(a:i<=n)(h:(n+1)*2<=I cs)(aE:I ys=2)(d:Z=(cs.drop (i*2)).take ((n-i)*2)):I (put (put cs Z ((i+1)*2)) ys (i*2))=I cs/\(put (put cs Z ((i+1)*2)) ys (i*2)).take ((n+1)*2)=uH cs ys i n:=by
 have b:I Z=(n-i)*2:=by rw[d];simp;omega
 have c:(i+1)*2+I Z<=I cs:=af
 have e:i*2+I ys<=I (put cs Z ((i+1)*2)):=by rw[xO c];omega
 refine⟨by rw[xO e,xO c],List.ext_getElem? λq=>?_⟩;rw[h5,afB a af aE,Jo e,Jo c,b,aE,d,h5,kr];by_cases bI:q<(n+1)*2
 .rw[if_pos bI];by_cases f:q<i*2
  .rw[if_neg af,if_neg af,if_pos f]
  .rw[if_neg f];by_cases g:q<i*2+2
   .rw[if_pos af,if_pos g]
   .rw[if_neg af,if_neg g,if_pos bI,if_pos af,if_pos af];congr 1;omega
 .exact adt
theorem azL{cs ys c1 Z:U aD}{i n q:Nat}(a:i<=n)(m:n*2<=I cs)(aE:I ys=2)(h:Z=(cs.drop (i*2)).take ((n-i)*2))(b:c1.take (i*2)=cs.take (i*2))(p:n+1<=q)(c:I c1=q*2):I (put (put c1 ys (i*2)) Z ((i+1)*2))=q*2/\(put (put c1 ys (i*2)) Z ((i+1)*2)).take ((n+1)*2)=uH cs ys i n:=by
 have d:I Z=(n-i)*2:=by rw[h];simp;omega
 have e:i*2+I ys<=I c1:=af
 have j:(i+1)*2+I Z<=I (put c1 ys (i*2)):=by rw[xO e];omega
 refine⟨by rw[xO j,xO e,c],List.ext_getElem? λk=>?_⟩;rw[h5,afB a m aE,Jo j,Jo e,d,aE,h,h5,kr];have f:k<i*2->c1[k]? = cs[k]? :=λo=>by have:=congrArg (·[k]?) b;simpa[h5,o]using this
 by_cases bI:k<(n+1)*2
 .rw[if_pos bI];by_cases g:k<i*2
  .rw[if_neg af,if_neg af,if_pos g,f g]
  .rw[if_neg g];by_cases l:k<i*2+2
   .rw[if_neg af,if_pos af,if_pos l]
   .rw[if_pos af,if_pos af,if_neg l,if_pos bI];congr 1;omega
 .exact adt
def ayO(t:bD)(g n i cap:Nat)(cs ys:U aD):aD->av.Loc->(aT->Prop)->Prop:=λv L _=>(∃cs',v = .slice (J ⟨g,0,aj⟩) (n+1) cap/\n+1<=cap/\L=[.bF g cs' t]/\I cs'=I cs/\cs'.take ((n+1)*2)=uH cs ys i n) \/ (∃b hC cs',v = .slice (J ⟨b,0,aj⟩) (n+1) hC/\n+1<=hC/\hC<=dr/\L=[.bF b cs' t,.bF g cs t]/\I cs'=hC*2/\cs'.take ((n+1)*2)=uH cs ys i n)
theorem aBf(args:Array aD)(w:aT):(callFunc 137 args).run Tryz.prog w=((Extern.SlicesOverlaps.overlaps #[25,25] #[4] args).run Tryz.prog w).andThen λv w'=>.ok (.value v) w':=run_callFunc_extern Tryz.func137 bW rfl bW (e:=Extern.SlicesOverlaps.overlaps #[25,25] #[4]) bW args w
theorem ajt{cs:U aD}{n i:Nat}(b:∀v,v∈cs.take (n*2)->one v=ab)(c:i<=n){v:aD}(d:v∈(cs.drop (i*2)).take ((n-i)*2)):one v=true:=by
 refine b v ?_;obtain⟨q,a⟩:=List.getElem?_of_mem d;rw[h5]at a;split at a
 .rw[kr]at a;exact lW ((List.getElem?_take_of_lt af).trans a)
 .cases a
set_option maxRecDepth 20000 in
theorem aqH(g n i cap hl hT nz:Nat)(cs ys:U aD)(ck : 0<n)(b:i<=n)(y:n<=cap)(bz:I cs=cap*2)(s:∀v,v∈cs.take (n*2)->one v=ab)(aE:I ys=2)(d:∀v,v∈ys->one v=ab)(l:hl≠g)(t:n<=1000000) :
  lE Tryz.prog 76 [.slice (J ⟨g,0,aj⟩) n cap,.int .i64 i,.slice (J ⟨hl,hT,aj⟩) 1 nz] [.bF g cs 63] (λw=>∀(j:Nat) v,ys[j]? = J v->w.cell? ⟨hl,hT+j,aj⟩=J v) (ayO 63 g n i cap cs ys):=by
 refine qC Tryz.func76 Tryz.ntmps76 rfl bW rfl λw M=>?_
 repeat' (first|(refine kI ?_;(first|refine jU ?_|(apply gC rfl rfl;(first|exact jA rfl|exact kX rfl|exact Cy gi rfl|exact Ga rfl rfl|exact Md rfl rfl|exact C7 rfl rfl af|exact Nj rfl rfl af))|(apply gC rfl rfl;exact aAR 2 gi rfl rfl af)|(apply gC rfl rfl;exact aCl 2 gi rfl)|(apply gC rfl rfl;exact xN 2 gi rfl rfl af)|(apply gC rfl rfl;exact SI 2 gi rfl rfl af)))|(refine kJ ?_;(first|refine nd ?_|refine oj ?_|refine sa ?_|(refine IW rfl ?_ ?_<;>intro ao<;>try (first|contradiction))))|(refine kH ?_;(first|refine jP ?_))|fail)
 .obtain rfl:i=n:=af
  have c:cs.take (i*2)++ys=uH cs ys i i:=by simp[uH]
  by_cases u:i+1<=cap
  .refine auh (zs:=ys) 0 rfl rfl pR rfl rfl rfl (λw e=>e.here) (by rw[aE]) u af d rfl ?_
   repeat' (first|(refine kI ?_;(first|refine jU ?_|(apply gC rfl rfl;(first|exact kX rfl))))|(refine kJ ?_;(first|refine mA rfl rfl ?_))|(refine kH ?_;(first|refine jP ?_))|fail)
   refine o1 (.inl ⟨_,rfl,u,rfl,xO (z:=ys) (o:=i*2) af,?_⟩);rw[<-c];exact List.take_left' d'
  .refine ax4 (zs:=ys) 0 rfl rfl pR rfl rfl rfl (λw e=>e.here) (by rw[aE]) af af Tb af ?_;intro cu q x a f k
   repeat' (first|(refine kI ?_;(first|refine jU ?_|(apply gC rfl rfl;(first|exact kX rfl))))|(refine kJ ?_;(first|refine mA rfl rfl ?_))|(refine kH ?_;(first|refine jP ?_))|fail)
   refine o1 (.inr ⟨_,_,_,rfl,a,f,rfl,by simp;omega,?_⟩);rw[<-c];exact List.take_left' d'
 .refine asf (kn:=.i64) 0 rfl rfl pR gi rfl rfl rfl af af af Tb af ?_;intro cu q x a f k
  repeat' (first|(refine kI ?_;(first|refine jU ?_|(apply gC rfl rfl;(first|exact jA rfl|exact kX rfl))|(apply gC rfl rfl;exact xN 2 gi rfl rfl af)))|(refine kJ ?_;(first|refine nd ?_|refine oj ?_))|(refine kH ?_;(first|refine jP ?_))|fail)
  refine GW (zs:=ys) 0 rfl rfl pR rfl rfl rfl (λw e=>e.here) ?_ ?_ d ?_
  .exact ai8
  .simp only[e7,jL];omega
  .repeat' (first|(refine kI ?_;(first|refine jU ?_))|(refine kJ ?_;(first|refine nd ?_|refine af1 gi K1 ?_))|(refine kH ?_;(first|refine jP ?_))|(refine Kt ?_;(first|(apply m8 0 rfl rfl rfl gN;(first|exact jA rfl))|(apply m8 1 rfl rfl rfl gN;(first|exact jA rfl))|(apply m8 2 rfl rfl rfl gN;(first|exact jA rfl))|(apply m8 3 rfl rfl rfl gN;(first|exact C7 rfl rfl af))|(apply m8 5 rfl rfl rfl gN;(first|exact jA rfl))|(apply m8 6 rfl rfl rfl gN;(first|exact jA rfl))))|fail)
   apply m8 4 rfl rfl rfl gN (xN 2 gi rfl rfl af);apply m8 7 rfl rfl rfl gN (xN 2 gi rfl rfl af);refine ajh 8 rfl gN ?_;refine GW 0 rfl rfl pR rfl rfl rfl (Wt (n:=(n-i)*2) 1 rfl) ?_ ?_ ?_ ?_
   .have:Nat.min (n-(i:Int).toNat) ((i:Int).toNat+((n:Int)+((1:Nat):Int)-(i:Int)).toNat-((i:Int)+((1:Nat):Int)).toNat)=n-i:=(Nat.min_eq_left af).trans af;rw[this,jL,ff];omega
   .simp only[e7,jL,ff];omega
   .intro v m;exact ajt s b Ej
   .repeat' (first|(refine kI ?_;(first|refine jU ?_|(apply gC rfl rfl;(first|exact jA rfl|exact kX rfl))))|(refine kJ ?_;(first|refine nd ?_|refine oj ?_|refine mA rfl rfl ?_))|(refine kH ?_;(first|refine jP ?_|(refine ahC K1 ?_)))|(refine Kt ?_;(first|refine ajK gN ?_))|fail)
    have p:i+((n:Int)+((1:Nat):Int)-(i:Int)).toNat=n+1:=af
    have r:((i:Int)+((1:Nat):Int)).toNat=i+1:=af
    simp only[p,r,Int.toNat_natCast,h6]at a k ⊢;have ar:=azL (c1:=cs.take (i*2)++x) (q:=q) b af aE rfl (List.take_left' d') a d';refine o1 (.inr ⟨_,_,_,rfl,a,f,rfl,ar.1,ar.2⟩)
 .refine azQ 0 rfl rfl rfl rfl rfl rfl l (λw h=>⟨_,h 0 _ (ic af)⟩) aBf rfl rfl ?_
  repeat' (first|(refine kI ?_;(first|refine jU ?_|(apply gC rfl rfl;(first|exact Me rfl))))|(refine kJ ?_;(first|refine nd ?_|refine af1 gi K1 ?_|(refine r_ rfl ?_ ?_<;>intro ao<;>try contradiction)))|(refine kH ?_;(first|refine jP ?_))|(refine Kt ?_;(first|(apply m8 0 rfl rfl rfl gN;(first|exact jA rfl))|(apply m8 1 rfl rfl rfl gN;(first|exact jA rfl))|(apply m8 2 rfl rfl rfl gN;(first|exact jA rfl))|(apply m8 3 rfl rfl rfl gN;(first|exact C7 rfl rfl af))|(apply m8 5 rfl rfl rfl gN;(first|exact jA rfl))|(apply m8 6 rfl rfl rfl gN;(first|exact jA rfl))))|fail)
  apply m8 4 rfl rfl rfl gN (xN 2 gi rfl rfl af);apply m8 7 rfl rfl rfl gN (xN 2 gi rfl rfl af);refine ajh 8 rfl gN ?_;refine GW 0 rfl rfl pR rfl rfl rfl (Wt (n:=(n-i)*2) 0 rfl) ?_ ?_ ?_ ?_
  .have:Nat.min (((n:Int)+((1:Nat):Int)).toNat-(i:Int).toNat) (((n:Int)+((1:Nat):Int)).toNat-((i:Int)+((1:Nat):Int)).toNat)=n-i:=(Nat.min_eq_right af).trans af;rw[this,jL,ff];omega
  .simp only[jL,ff];omega
  .intro v m;exact ajt s b Ej
  .repeat' (first|(refine kI ?_;(first|refine jU ?_|(apply gC rfl rfl;(first|exact jA rfl))|(apply gC rfl rfl;exact xN 2 gi rfl rfl af)))|(refine kJ ?_;(first|refine nd ?_|refine oj ?_))|(refine kH ?_;(first|refine jP ?_|(refine ahC K1 ?_)))|(refine Kt ?_;(first|refine ajK gN ?_))|fail)
   refine GW (zs:=ys) 0 rfl rfl pR rfl rfl rfl (λw e=>e.here) ?_ ?_ d ?_
   .exact ai8
   .simp only[e7,jL,ff];omega
   .repeat' (first|(refine kI ?_;(first|refine jU ?_|(apply gC rfl rfl;(first|exact jA rfl|exact kX rfl))))|(refine kJ ?_;(first|refine nd ?_|refine oj ?_|refine mA rfl rfl ?_))|(refine kH ?_;(first|refine jP ?_))|fail)
    have p:((n:Int)+((1:Nat):Int)).toNat=n+1:=af
    have r:((i:Int)+((1:Nat):Int)).toNat=i+1:=af
    simp only[p,r,Int.toNat_natCast,h6];have ar:=apa (cs:=cs) b af aE rfl;exact o1 (.inl ⟨_,rfl,by omega,rfl,ar.1,ar.2⟩)
set_option maxRecDepth 20000 in
theorem anA(a:ae Addr)(hl hT nz:Nat)(ys:U aD)(aE:I ys=2)(c:∀v,v∈ys->one v=ab) :
  lE Tryz.prog 76 [.slice a 0 0,.int .i64 0,.slice (J ⟨hl,hT,aj⟩) 1 nz] [] (λw=>∀(j:Nat) v,ys[j]? = J v->w.cell? ⟨hl,hT+j,aj⟩=J v) (λv L _=>∃b hC cs',v = .slice (J ⟨b,0,aj⟩) 1 hC/\1<=hC/\hC<=dr/\L=[.bF b cs' 63]/\I cs'=hC*2/\cs'.take 2=ys):=by
 refine qC Tryz.func76 Tryz.ntmps76 rfl bW rfl λw M=>?_
 repeat' (first|(refine kI ?_;(first|refine jU ?_|(apply gC rfl rfl;(first|exact jA rfl|exact kX rfl|exact Cy gi rfl|exact Ga rfl rfl))|(apply gC rfl rfl;exact SI 2 gi rfl rfl af)))|(refine kJ ?_;(first|refine nd ?_|refine oj ?_|refine sa ?_|(refine IW rfl ?_ ?_<;>intro ao<;>try (first|contradiction))))|(refine kH ?_;(first|refine jP ?_))|fail)
 refine asL (zs:=ys) rfl rfl pR rfl rfl (λw f=>f.here) (by rw[aE]) af Tb af c ?_;intro cu q h d e g
 repeat' (first|(refine kI ?_;(first|refine jU ?_|(apply gC rfl rfl;(first|exact kX rfl))))|(refine kJ ?_;(first|refine mA rfl rfl ?_))|(refine kH ?_;(first|refine jP ?_))|fail)
 refine o1 ⟨_,_,_,rfl,d,e,rfl,by simp;omega,?_⟩;exact List.take_left' aE
end Go.Proofs.YtdelkmpkjibigaaGreatDoor
namespace Go.Proofs.YtdelkmpkjibigaaGreatDoor
open Go.ft
theorem arn:rL Tryz.prog 70 (i_ .str) (a8 .str):=⟨av.enters_of Tryz.func70 rfl bW,ame⟩
def BD(l:U (ak)):ae (U (ak)):=cond (aa (I l<=1000000)) (J l) aj
def OH:bt [dX] [eD]:=λx=>BD x
theorem ZK:aU 70 [dX] [eD] OH:=afH arn
theorem art:rL Tryz.prog 69 (i_ .b2) (a8 .b2):=⟨av.enters_of Tryz.func69 rfl bW,al3⟩
def Ri(l:U (bk)):ae (U (bk)):=cond (aa (I l<=1000000)) (J l) aj
def abd:bt [dR] [.sl .b2 ab]:=λx=>Ri x
theorem arE:aU 69 [dR] [.sl .b2 ab] abd:=afH art
theorem _C:rL Tryz.prog 136 (i_ .expr) (a8 .expr):=⟨av.enters_of Tryz.func136 rfl bW,amj⟩
theorem arM:rL Tryz.prog 77 (i_ .idx) (a8 .idx):=⟨av.enters_of Tryz.func77 rfl bW,amr⟩
theorem YY:y5 Tryz.prog 136:=amP
theorem amf:y5 Tryz.prog 77:=amR
theorem aAD:Th Tryz.prog 76 (i_ .idx):=⟨av.enters_of Tryz.func76 rfl bW,λ_ _ _ _ _ _ _ _ _ a b c d e f g h i=>aqH _ _ _ _ _ _ _ _ _ a b c d e f g h i,λ_ _ _ _ _ a b=>anA _ _ _ _ _ a b⟩
def apY(R:Type):aR R:=bs [] [] [] []
def O0(x:aw [an,an]):ae (aw [.bool]):=match x with|(k,want)=>cond (aa (k=want)) (J ab) (J (aa (k=1)))
theorem auB:aU 155 [an,an] [.bool] (O0):=b6 (px:=apY _) (n:=0) Tryz.func155 rfl (λ_ H=>⟨br H bq bo bp,aK⟩) λ(_,_)=>by kernel_rfl
def mG(k:Int)(a:Int):Bool:=cond (aa (k=a)) (ab) (aa (k=1))
theorem avt(x:aw [an,an]):O0 x=J (mG x.1 x.2):=by
 first
  |exact rfl
  |simp only[O0,mG,gb]
def agT:bt [an,an] [.bool]:=λx=>J (mG x.1 x.2)
theorem aow:aU 155 [an,an] [.bool] agT:=.er auB λx _ _ ag=>(avt x).trans ag
def apA(R:Type):aR R:=bs [] [] [] []
def OC(x:aw [.bool]):ae (aw [e6]):=match x with|b=>cond (b) (J (dA.mk 2 1 [])) (J (dA.mk 2 0 []))
theorem avO:aU 156 [.bool] [e6] (OC):=b6 (px:=apA _) (n:=0) Tryz.func156 rfl (λ_ H=>⟨br H bq bo bp,aK⟩) λ_=>by kernel_rfl
def y1(b:Bool):dA:=cond (b) (dA.mk 2 1 []) (dA.mk 2 0 [])
theorem ax5(x:aw [.bool]):OC x=J (y1 x):=by
 first
  |exact rfl
  |simp only[OC,y1,gb]
def aif:bt [.bool] [e6]:=λx=>J (y1 x)
theorem ano:aU 156 [.bool] [e6] aif:=.er avO λx _ _ ag=>(ax5 x).trans ag
def awq(R:Type):aR R:=bs [] [] [] []
def T4(x:aw [an,an]):ae (aw [.bool]):=match x with|(kind,n)=>cond (aa (kind=6)) (J (aa (n=0))) (cond (aa (kind=7)) (J (!decide (n=0))) (cond (aa (kind=8)) (J (aa (n<0))) (cond (aa (kind=9)) (J (aa (n<=0))) (cond (aa (kind=10)) (J (aa (0<n))) (J (aa (0<=n)))))))
theorem arV:aU 159 [an,an] [.bool] (T4):=b6 (px:=awq _) (n:=0) Tryz.func159 rfl (λ_ H=>⟨br H bq bo bp,aK⟩) λ(_,_)=>by kernel_rfl
def GG(kind:Int)(n:Int):Bool:=cond (aa (kind=6)) (aa (n=0)) (cond (aa (kind=7)) (!decide (n=0)) (cond (aa (kind=8)) (aa (n<0)) (cond (aa (kind=9)) (aa (n<=0)) (cond (aa (kind=10)) (aa (0<n)) (aa (0<=n))))))
theorem ash(x:aw [an,an]):T4 x=J (GG x.1 x.2):=by
 first
  |exact rfl
  |simp only[T4,GG,gb]
def aft:bt [an,an] [.bool]:=λx=>J (GG x.1 x.2)
theorem auu:aU 159 [an,an] [.bool] aft:=.er arV λx _ _ ag=>(ash x).trans ag
def Wo:bn:=⟨20,[(1,.str),(4,.int .i64),(7,.sl .b2 ai),(8,.int .i64),(9,.int .i64)],[],[],0,0,0,[],[]⟩
abbrev H3:=ak×Int×U bk×Int×Int
def z_{R:Type}(rec:H3->ae R)(kx:aX->H3->ae R)(v:H3):ae R:=match v with|(v,v1,v2,v3,v4)=>cond (aa (v4<v3)) (ax (a_ v4 (I v2)) (cond (aa (((at' .b2 v2 v4).name)=v)) (kx .ret (v,v4,v2,v3,v4)) (rec (v,v1,v2,v3,(wr .i64 (v4+1)))))) (kx (.exit 0) (v,v1,v2,v3,v4))
def agO(R:Type)(k:Nat):aR R:=bs [] [] [(2,b8 k Wo (z_))] []
def Wz(k:Nat)(x:aw [dR,.str]):ae (aw [an]):=match x with
 |(ay,name)=>aI (λrec=>z_ rec (λe a=>match a with|(_,v6,_,_,_)=>match e with
  |.ret=>J v6
  |.exit 0=>J (-1)
  |_=>aj)) k (name,0,ay,(I ay:Int),0)
theorem aoB(k:Nat):aU 154 [dR,.str] [an] (Wz k):=b6 (px:=agO _ k) (n:=1) Tryz.func154 rfl (λah H=>by have c:bP ah (agO (aw [an]) k):=br H bq bo bp;have a:=cd H c (b:=b0 Tryz.f154 0) (k:=k) (n:=0) (s:=Wo) (step:=z_) (λ_ _ _ (_,_,_,_,_)=>by kernel_rfl) aK;exact⟨c,(b9 aK a)⟩) λ(_,_)=>by kernel_rfl
def k2:U bk->ak->Nat->Int|[],_,_=> -1|c::l,s,i=>if c.name=s then(i:Int)else k2 l s (i+1)
def gD(ay:U bk)(name:ak):Int:=k2 ay name 0
def RO:bt [dR,.str] [an]:=λx=>J (gD x.1 x.2)
theorem WR{R:Type}{kx:aX->H3->ae R}{s:ak}{ay:U bk}{g:Int->ae R}(b:b1 (I ay))(d:∀j,kx .ret (s,j,ay,(I ay:Int),j)=g j)(e:∀q j,kx (.exit 0) (s,q,ay,(I ay:Int),j)=g (-1)):∀(k i:Nat) q,i<=I ay->I ay-i<k->aI (λrec=>z_ rec kx) k (s,q,ay,(I ay:Int),(i:Int))=g (k2 (ay.drop i) s i)
 |0,i,q,_,h=>by omega
 |k+1,i,q,bO,h=>by
  rw[c6];by_cases a:i<I ay
  .simp only[z_,c9 a b,(WR b d e k (i+1) q af af),d,da a,cR (c:=.b2) a,cg a,mq,k2];rw[if_pos af];split<;>rfl
  .simp[z_,e,mq];exact G0
theorem ahg:aU 154 [dR,.str] [an] RO:=.fin 0 aoB λ(ay,s) r al ag=>⟨I ay+1,by
 simp only[Wz];refine(WR (g:=J) al.1.1 ?_ ?_ (I ay+1) 0 0 (cL _) af).trans ag
 .exactλ_=>rfl
 .exactλ_ _=>rfl⟩
theorem akE:∀(l:U bk) (s:ak) (i:Nat),k2 l s i = -1\/((i:Int)<=k2 l s i/\k2 l s i<(i+I l:Nat))
 |[],_,_=>.inl rfl
 |c::l,s,i=>by
  simp[k2];split
  .right;omega
  .have:=akE l s (i+1);omega
theorem abh(l:U bk)(s:ak):gD l s = -1\/(0<=gD l s/\gD l s<(I l:Int)):=by have:=akE l s 0;simpa[gD]using this
variable{s:ak}
theorem anB{l:U bk}(h:¬gD l s<0):a_ (gD l s) (I l)=true:=by have:=abh l s;simp[a_];omega
def aaw:bn:=⟨102,[(1,.sl .b2 ai),(4,.int .i64),(5,.int .i64),(12,.sl .expr ai),(13,.int .i64),(14,.int .i64)],[(2,.ptr 0 0),(6,.ptr 1 0)],[(0,.one (.bm .expr)),(1,.one (.rw .int 2))],2,0,0,[],[]⟩
abbrev Hs:=U bk×Int×Int×U aq×Int×Int×aq×U Int
def qM{R:Type}(rf:bt [bC,dR] [an,an])(rec:Hs->ae R)(kx:aX->Hs->ae R)(v:Hs):ae R:=match v with|(v,v1,v2,v3,v4,a,w,w1)=>cond (aa (a<v4)) (ax (a_ a (I v3)) ((rf ((at' .expr v3 a),v)).bind λ(x,b)=>ax (a_ a 2) (cond (!decide (b=0)) (kx .ret (v,0,b,v3,v4,a,w,(w1.set (a:Int).toNat x))) (cond (aa (a=1)) (kx (.exit 0) (v,v1,v2,v3,v4,a,w,(w1.set (a:Int).toNat x))) (rec (v,v1,v2,v3,v4,(wr .i64 (a+1)),w,(w1.set (a:Int).toNat x))))))) (kx (.exit 0) (v,v1,v2,v3,v4,a,w,w1))
def afu(R:Type)(k:Nat)(rf:bt [bC,dR] [an,an]):aR R:=bs [(92,ba rf),(154,ba RO),(155,ba agT)] [] [(3,b8 k aaw (qM rf))] []
def ED(k:Nat)(rf:bt [bC,dR] [an,an])(x:aw [bC,dR]):ae (aw [an,an]):=match x with
 |(e,ay)=>
 aI (λrec=>qM rf rec (λe f=>match f with|(v6,bb,bK,_,_,_,a,b)=>match e with
  |.ret=>
  J (bb,bK)
  |.exit 0=>
  let d:=λ(q:U Int)=>
   cond (aa (a.kind=1)) (
   J (a.v.kind,0)) (
   cond (aa (a.kind=2)) (
    cond (aa ((gD v6 a.name)<0)) (
    J (0,150)) (
    ax (a_ (gD v6 a.name) (I v6)) (
     J ((at' .b2 v6 (gD v6 a.name)).kind,0)))) (
    cond (aa (a.kind=16)) (
    J (2,0)) (
    let c:=λ(p:Bool)=>
     cond (p) (
     cond (mG (at' .int q 0) 2) (
      cond (mG (at' .int q 1) 2) (
      J (2,0)) (
      J (0,151))) (
      J (0,151))) (
     let j:=λ(p3:Bool)=>
      cond (p3) (
      cond (mG (at' .int q 0) 3) (
       cond (mG (at' .int q 1) 3) (
       J (3,0)) (
       J (0,151))) (
       J (0,151))) (
      cond (aa ((at' .int q 0)=(at' .int q 1))) (
       J (2,0)) (
       cond (aa ((at' .int q 0)=1)) (
       J (2,0)) (
       cond (aa ((at' .int q 1)=1)) (
        J (2,0)) (
        J (0,151)))))
     cond (aa (a.kind=12)) (
      j (aa (a.kind=12))) (
      cond (aa (a.kind=13)) (
      j (aa (a.kind=13))) (
      cond (aa (a.kind=14)) (
       j (aa (a.kind=14))) (
       j (aa (a.kind=15))))))
    cond (aa (a.kind=3)) (
     c (aa (a.kind=3))) (
     cond (aa (a.kind=4)) (
     c (aa (a.kind=4))) (
     c (aa (a.kind=5)))))))
  cond (aa ((I a.l:Int)=1)) (
   d (b.set (1:Int).toNat (at' .int b 0))) (
   d b)
  |_=>aj)) k (ay,0,0,e.l,(I e.l:Int),0,e,[0,0])
theorem awR(k:Nat)(rf:bt [bC,dR] [an,an])(c:aU 92 [bC,dR] [an,an] rf):aU 92 [bC,dR] [an,an] (ED k rf):=b6 (px:=afu _ k rf) (n:=1) Tryz.func92 rfl (λah H=>by have d:bP ah (afu (aw [an,an]) k rf):=br H (c1 H c (c1 H ahg (c1 H aow bq))) bo bp;have a:=cd H d (b:=b0 Tryz.f92 0) (k:=k) (n:=0) (s:=aaw) (step:=qM rf) (λ_ _ _ (_,_,_,_,_,_,_,_)=>by kernel_rfl) aK;exact⟨d,(b9 aK a)⟩) λ(_,_)=>by kernel_rfl
def pB(e:aq)(ay:U bk)(a b:Int):Int×Int:=if e.kind=1 then(e.v.kind,0)else if e.kind=2 then(if gD ay e.name<0 then(0,150)else((at' .b2 ay (gD ay e.name)).kind,0))else if e.kind=16 then(2,0)else if e.kind=3\/e.kind=4\/e.kind=5 then(if mG a 2&&mG b 2 then(2,0)else(0,151))else if e.kind=12\/e.kind=13\/e.kind=14\/e.kind=15 then(if mG a 3&&mG b 3 then(3,0)else(0,151))else if a=b\/a=1\/b=1 then(2,0)else(0,151)
def qp(e:aq)(ay:U bk):U (Int×Int)->Int×Int|[]=>pB e ay 0 0|[(a,f)]=>if f=0 then pB e ay a a else(0,f)|(a,f)::(b,g)::_=>if f=0 then(if g=0 then pB e ay a b else(0,g))else(0,f)
mutual
def gm:aq->U bk->Int×Int|.mk k v a7 l,ay=>qp (.mk k v a7 l) ay (oJ l ay)
def oJ:U aq->U bk->U (Int×Int)|[],_=>[]|x::l,ay=>gm x ay::oJ l ay
end
theorem BG(e:aq)(ay:U bk):gm e ay=qp e ay (oJ e.l ay):=by cases e;simp[gm,aq.l]
def NN:bt [bC,dR] [an,an]:=λx=>J (gm x.1 x.2)
def JJ(a:aq)(b:U bk)(q:U Int):ae (Int×Int):=
   cond (aa (a.kind=1)) (
   J (a.v.kind,0)) (
   cond (aa (a.kind=2)) (
    cond (aa ((gD b a.name)<0)) (
    J (0,150)) (
    ax (a_ (gD b a.name) (I b)) (
     J ((at' .b2 b (gD b a.name)).kind,0)))) (
    cond (aa (a.kind=16)) (
    J (2,0)) (
    let c:=λ(p:Bool)=>
     cond (p) (
     cond (mG (at' .int q 0) 2) (
      cond (mG (at' .int q 1) 2) (
      J (2,0)) (
      J (0,151))) (
      J (0,151))) (
     let j:=λ(p3:Bool)=>
      cond (p3) (
      cond (mG (at' .int q 0) 3) (
       cond (mG (at' .int q 1) 3) (
       J (3,0)) (
       J (0,151))) (
       J (0,151))) (
      cond (aa ((at' .int q 0)=(at' .int q 1))) (
       J (2,0)) (
       cond (aa ((at' .int q 0)=1)) (
       J (2,0)) (
       cond (aa ((at' .int q 1)=1)) (
        J (2,0)) (
        J (0,151)))))
     cond (aa (a.kind=12)) (
      j (aa (a.kind=12))) (
      cond (aa (a.kind=13)) (
      j (aa (a.kind=13))) (
      cond (aa (a.kind=14)) (
       j (aa (a.kind=14))) (
       j (aa (a.kind=15))))))
    cond (aa (a.kind=3)) (
     c (aa (a.kind=3))) (
     cond (aa (a.kind=4)) (
     c (aa (a.kind=4))) (
     c (aa (a.kind=5)))))))
theorem Po(e:aq)(ay:U bk)(a b:Int):JJ e ay [a,b]=J (pB e ay a b):=by
 have m:at' .int [a,b] 0=a:=rfl;have al:at' .int [a,b] 1=b:=rfl;simp[JJ,pB,m,al];generalize e.kind=k;by_cases d:k=1
 .simp[d]
 by_cases f:k=2
 .simp[f];by_cases g:gD ay e.name<0
  .simp[g]
  .rw[anB g];simp[g,ax]
 by_cases c:k=16
 .simp[c]
 rw[aL d,aL f,aL c,if_neg d,if_neg f,if_neg c];simp;by_cases n:k=3
 .grind
 by_cases o:k=4
 .grind
 by_cases p:k=5
 .grind
 rw[aL n,aL o,aL p,if_neg af];simp;by_cases h:k=12
 .grind
 by_cases i:k=13
 .grind
 by_cases j:k=14
 .grind
 by_cases l:k=15
 .grind
 rw[aL h,aL i,aL j,aL l,if_neg af];simp;by_cases c1:a=b
 .simp[c1]
 by_cases c2:a=1
 .simp[c2]
 by_cases fZ:b=1
 .simp[fZ]
 simp[c1,c2,fZ]
def yR{R:Type}(vH:Int->ae R)(ya:Int->Int->ae R):U (Int×Int)->ae R|[]=>ya 0 0|[(a,f)]=>if f=0 then ya a 0 else vH f|(a,f)::(b,g)::_=>if f=0 then(if g=0 then ya a b else vH g)else vH f
variable{R:Type}{ay:U bk}
theorem axJ{rf:bt [bC,dR] [an,an]}{kx:aX->Hs->ae R}{e:aq}{vH:Int->ae R}{ya:Int->Int->ae R}(v:b1 (I e.l))(c:∀x,x∈e.l->rf (x,ay)=J (gm x ay))(m:∀f i n,kx .ret (ay,0,f,e.l,(I e.l:Int),i,e,n)=vH f)(o:∀i a b,kx (.exit 0) (ay,0,0,e.l,(I e.l:Int),i,e,[a,b])=ya a b)(k:Nat):aI (λrec=>qM rf rec kx) (k+3) (ay,0,0,e.l,(I e.l:Int),0,e,[0,0])=yR vH ya (oJ e.l ay):=by
 rw[c6];generalize e.l=l at *;match l with
 |[]=>simp;exact o 0 0 0
 |[x]=>
  simp only[qM];have p:at' .expr [x] 0=x:=rfl;rw[p,c x (by simp)];simp only[ oJ,yR];show cond (!decide ((gm x ay).2=0)) (kx .ret (ay,0,(gm x ay).2,[x],1,0,e,[(gm x ay).1,0])) (aI (λrec=>qM rf rec kx) (k+2) (ay,0,0,[x],1,1,e,[(gm x ay).1,0]))=_;have g:=λf i n=>m f i n;have h:=λi a b=>o i a b;have r:(I ([x]:U aq):Int)=1:=rfl;rw[r]at g h;rw[g,c6];have:qM rf (aI (λrec=>qM rf rec kx) (k+1)) kx (ay,0,0,[x],1,1,e,[(gm x ay).1,0])=kx (.exit 0) (ay,0,0,[x],1,1,e,[(gm x ay).1,0]):=rfl;rw[this,h];by_cases q:(gm x ay).2=0
  .simp
  .simp
 |x::y::t=>
  simp only[qM];have j:(0:Int)<(I (x::y::t):Int):=d'
  have d:(1:Int)<(I (x::y::t):Int):=d'
  have p:at' .expr (x::y::t) 0=x:=rfl;have s:at' .expr (x::y::t) 1=y:=rfl;rw[aH j,p,c x (by simp)];have i1:a_ 0 (I (x::y::t))=true:=cg (i:=0) (by simp);have u:a_ 1 (I (x::y::t))=true:=cg (i:=1) (by simp);rw[i1];simp only[ oJ,yR];show cond (!decide ((gm x ay).2=0)) (kx .ret (ay,0,(gm x ay).2,x::y::t,_,0,e,[(gm x ay).1,0])) (aI (λrec=>qM rf rec kx) (k+2) (ay,0,0,x::y::t,(I (x::y::t):Int),1,e,[(gm x ay).1,0]))=_;rw[m,c6];simp only[qM];rw[aH d,s,c y (by simp),u];simp only[ ax];show cond (!decide ((gm x ay).2=0)) (vH (gm x ay).2) (cond (!decide ((gm y ay).2=0)) (kx .ret (ay,0,(gm y ay).2,x::y::t,_,1,e,_)) (kx (.exit 0) (ay,0,0,x::y::t,_,1,e,[(gm x ay).1,(gm y ay).1])))=_;rw[m,o];by_cases q:(gm x ay).2=0
  .grind
  .simp[q]
theorem VY(k:Nat):∀(n:Nat) (e:aq) (ay:U bk),fK e->cm e<=n->aI (ED (k+3)) n (e,ay)=J (gm e ay)
 |0,e,ay,_,h=>by have:=l2 e;omega
 |n+1,e,ay,al,h=>by
  obtain⟨c,d⟩:=rn al;rw[l1]at h;have g:∀x,x∈e.l->aI (ED (k+3)) n (x,ay)=J (gm x ay):=λx ag=>VY k n x ay (d x ag) oe;rw[c6,BG];simp[ED];refine(axJ (vH:=λf=>J (0,f)) (ya:=λa b=>cond (aa ((I e.l:Int)=1)) (JJ e ay [a,a]) (JJ e ay [a,b])) c g ?_ ?_ k).trans ?_
  .exactλ_ _ _=>rfl
  .exactλ_ _ _=>rfl
  .generalize e.l=l;match l with
   |[]=>simp[oJ,yR,qp,Po]
   |[x]=>simp[oJ,yR,qp,Po];split<;>simp
   |x::y::t=>
    simp only[oJ,yR,qp,Po];have:¬((I (x::y::t):Int)=1):=d'
    rw[aL this];split
    .split<;>rfl
    .rfl
theorem afZ:aU 92 [bC,dR] [an,an] NN:=by refine .fin (ι:=Nat) 0 (F:=λn=>aI (ED 3) n) (λn=>fH.lq (av.enters_of Tryz.func92 rfl rfl) (λrf a=>awR 3 rf a) n) λ(e,ay) r al ag=>⟨cm e,?_⟩;exact(VY 0 (cm e) e ay al.1 (bU _)).trans ag
def aqQ(R:Type):aR R:=bs [(91,ba NS),(92,ba NN)] [] [] []
def OT(x:aw [bC,dR]):ae (aw [an,an]):=match x with|(e,ay)=>cond (!decide ((lK e)=0)) (J (0,(lK e))) (J ((gm e ay).1,(gm e ay).2))
theorem auO:aU 72 [bC,dR] [an,an] (OT):=b6 (px:=aqQ _) (n:=0) Tryz.func72 rfl (λ_ H=>⟨br H (c1 H aeF (c1 H afZ bq)) bo bp,aK⟩) λ(_,_)=>by kernel_rfl
def ia(e:aq)(ay:U bk):Int×Int:=cond (!decide ((lK e)=0)) (0,(lK e)) ((gm e ay).1,(gm e ay).2)
theorem axC(x:aw [bC,dR]):OT x=J (ia x.1 x.2):=by
 first
  |exact rfl
  |simp only[OT,ia,gb]
def agn:bt [bC,dR] [an,an]:=λx=>J (ia x.1 x.2)
theorem ao3:aU 72 [bC,dR] [an,an] agn:=.er auO λx _ _ ag=>(axC x).trans ag
def Tz:bn:=⟨26,[(10,.int .i64),(11,.int .i64)],[(1,.ptr 0 0),(2,.ptr 1 0)],[(0,.hQ [an,an,an,.str,.str] 2 .expr),(1,.one (.bm .expr)),(2,.one (.fx .expr))],3,0,0,[],[]⟩
abbrev xb:=Int×Int×Int×Int×Int×ak×ak×Int×Int×aq×U aq
def xu{R:Type}(rf:bt [bC] [bC])(rec:xb->ae R)(kx:aX->xb->ae R)(v:xb):ae R:=match v with|(v,v1,w,w1,b4,cv,cH,cK,eb,eO,e2)=>cond (aa (v1<v)) (ax (q_ v1 eb) (ax (a_ (cK+v1) (I e2)) ((rf (at' .expr e2 (cK+v1))).bind λx=>ax (q_ v1 eb) (ax (a_ (cK+v1) (I e2)) (rec (v,(wr .i64 (v1+1)),w,w1,b4,cv,cH,cK,eb,eO,(e2.set ((cK+v1):Int).toNat x))))))) (kx (.exit 0) (v,v1,w,w1,b4,cv,cH,cK,eb,eO,e2))
noncomputable def abz(R:Type)(mh:Nat)(rf:bt [bC] [bC]):aR R:=bs [(136,Dl .expr)] [(73,jK rf)] [] []
noncomputable def Hd(R:Type)(k:Nat)(rf:bt [bC] [bC]):aR R:=bs [(136,Dl .expr)] [(73,jK rf)] [(3,SK (abz R k rf) (b0 Tryz.f73 0) k Tz (xu rf))] []
theorem aq5(R:Type)(k:Nat)(rf:bt [bC] [bC]):∀(cx:U Fr) (rec:xb->ae R) (kx:aX->xb->ae R) (v:xb),q6 (Hd R k rf) Tz (b0 Tryz.f73 0) cx rec kx v=xu rf rec kx v
 |cx,rec,kx,(v,v1,w,w1,b4,cv,cH,cK,eb,eO,e2)=>by kernel_rfl
def Eu(k:Nat)(rf:bt [bC] [bC])(x:aw [bC]):ae (aw [bC]):=match x with
 |e=>ax (aa (I e.l<=1000000)) (cond (List.isEmpty e.l) (J (aq.mk e.kind ⟨e.v.kind,e.v.n,e.v.s⟩ e.name [])) (aI (λrec=>xu rf rec (λe c=>match c with|(_,_,v4,v5,v6,bb,bK,v9,a,_,b)=>match e with
   |.exit 0=>ax (aa ((0:Int)<=v9)&&aa ((0:Int)<=a)&&aa ((v9+a)<=(I b:Int))) (J (aq.mk v4 ⟨v5,v6,bb⟩ bK (cut b v9 (v9+a))))
   |_=>aj)) k ((I e.l:Int),0,e.kind,e.v.kind,e.v.n,e.v.s,e.name,0,(I e.l:Int),(aq.mk 0 ⟨0,0,[]⟩ [] []),e.l)))
theorem asU(k:Nat)(rf:bt [bC] [bC])(d:aU 73 [bC] [bC] rf):aU 73 [bC] [bC] (Eu k rf):=b6 (px:=Hd _ k rf) (n:=1) Tryz.func73 rfl (λah H=>by have e:bP ah (Hd (aw [bC]) k rf):=br H (et (akU H _C YY) bq) (bc H d bo) bp;have b:bP ah (abz (aw [bC]) k rf):=br H (et (akU H _C YY) bq) (bc H d bo) bp;have a:hX ah (Hd (aw [bC]) k rf) (b0 Tryz.f73 0):=ar1 e.p e.c e.q AB b.p b.c b.q (λ_ _ _=>rfl) (k:=k) (s:=Tz) (step:=xu rf) (λ_ _=>by kernel_rfl) bW (aq5 _ k rf) (xA (n:=0) bW aK);exact⟨e,(b9 aK a)⟩) λ_=>by kernel_rfl
def Dk(e:aq):ae aq:=cond (aa (cm e<=1000000)) (J e) aj
def Q0:bt [bC] [bC]:=λx=>Dk x
theorem azF{i n:Nat}(h:i<n):q_ (i:Int) (n:Int)=true:=by simp[q_];omega
theorem arZ{rf:bt [bC] [bC]}{kx:aX->xb->ae R}{a b n:Int}{a7:ak}{z:aq}{l:U aq}{c:ae R}(f:b1 (I l))(e:∀x,x∈l->rf x=J x)(g:kx (.exit 0) ((I l:Int),(I l:Int),a,b,n,s,a7,0,(I l:Int),z,l)=c)(k:Nat)(j:I l<k) :
  aI (λrec=>xu rf rec kx) k ((I l:Int),0,a,b,n,s,a7,0,(I l:Int),z,l)=c:=by
 refine hV (I l) (λi=>((I l:Int),(i:Int),a,b,n,s,a7,0,(I l:Int),z,l)) (λ_=>c) (λi d rec h=>?_) (λrec=>?_) k 0 (cL _) af
 .simp only[xu,ea d,bd,Int.zero_add,azF d,cg d,ax,cR (c:=.expr) d,e _ (hf d),bA,c9 d f,Int.toNat_natCast,List.set_getElem_self,h]
 .simp[xu,g]
theorem aaC(k:Nat):∀(n:Nat) (e:aq),fK e->cm e<=n->cm e<=k->cm e<=1000000->aI (Eu k) n e=J e
 |0,e,_,h,_,_=>by have:=l2 e;omega
 |n+1,e,al,h,bf,bS=>by
  obtain⟨b,d⟩:=rn al;rw[l1]at h bf bS;have i:=qz e.l;have f:∀x,x∈e.l->aI (Eu k) n x=J x:=λx ag=>aaC k n x (d x ag) oe oe oe;rw[c6];simp[Eu];rw[aH (show I e.l<=1000000 by omega)];simp[ax];cases a:e.l with
  |nil=>simp;obtain⟨j,v,a7,l⟩:=e;simp[aq.l]at a;subst a;rfl
  |cons x t=>
   rw[<-a];have:List.isEmpty e.l=false:=by rw[a];rfl
   rw[this];simp;refine(arZ (c:=J e) b f ?_ k af);have g:(aa ((0:Int)<=0)&&aa ((0:Int)<=(I e.l:Int))&&aa ((0:Int)+(I e.l:Int)<=(I e.l:Int)))=true:=by simp
   simp only[g,aiU];cases e;rfl
theorem auM:aU 73 [bC] [bC] Q0:=by refine .fin (ι:=Nat) 0 (F:=λn=>aI (Eu n) n) (λn=>fH.lq (av.enters_of Tryz.func73 rfl rfl) (λrf a=>asU n rf a) n) λe r al ag=>⟨cm e,?_⟩;simp only[Q0,Dk]at ag;cases ar:aa (cm e<=1000000)with|false=>rw[ar]at ag;cases ag|true=>rw[ar]at ag;exact(aaC (cm e) (cm e) e al (bU _) (bU _) (of_decide_eq_true ar)).trans ag
def Xz:bn:=⟨19,[(0,.sl .b2 ai),(4,.int .i64),(7,.int .i64),(8,.int .i64)],[(1,.fn 196 [.ptr 1 0])],[(1,.cells [.str])],40,40,200,[],[]⟩
abbrev IH:=U bk×Int×Int×Int×ak
def zK{R:Type}(rec:IH->ae R)(kx:aX->IH->ae R)(v:IH):ae R:=match v with|(v,v1,v2,v3,w)=>cond (aa (v3<v2)) (ax (a_ v3 (I v)) (cond (aa (((at' .b2 v v3).name)=w)) (kx .ret (v,v3,v2,v3,w)) (rec (v,v1,v2,(wr .i64 (v3+1)),w)))) (kx (.exit 0) (v,v1,v2,v3,w))
def ZS(R:Type)(mh:Nat):aR R:=bs [] [] [] []
noncomputable def ab8(R:Type)(k:Nat):aR R:=bs [(196,ey 80 400 (ZS R k) Tryz.f196)] [] [(2,b8 k Xz (zK))] []
noncomputable def aha(R:Type)(k:Nat):aR R:=bs [(195,ey 40 200 (ab8 R k) Tryz.f195)] [] [] []
def W4(k:Nat)(x:aw [cC,.str]):ae (aw [an]):=match x with
 |(t,s)=>aI (λrec=>zK rec (λe a=>match a with|(_,v5,_,_,_)=>match e with
  |.ret=>J v5
  |.exit 0=>J (-1)
  |_=>aj)) k (t.ay,0,(I t.ay:Int),0,s)
theorem aqp(k:Nat):aU 135 [cC,.str] [an] (W4 k):=b6 (px:=aha _ k) (n:=0) Tryz.func135 rfl (λah H=>by have d:bP ah (ZS (aw [an]) k):=br H bq bo bp;have c:bP ah (ab8 (aw [an]) k):=br H (et (eS H d Tryz.func196 rfl (n:=0) (aK)) bq) bo bp;have a:=cd H c (b:=b0 Tryz.f195 0) (k:=k) (n:=0) (s:=Xz) (step:=zK) (λ_ _ _ (_,_,_,_,_)=>by kernel_rfl) aK;have e:bP ah (aha (aw [an]) k):=br H (et (eS H c Tryz.func195 rfl (n:=1) (b9 aK a)) bq) bo bp;exact⟨e,aK⟩) λ(_,_)=>by kernel_rfl
def Kn(t:b5)(s:ak):Int:=gD t.ay s
def RT:bt [cC,.str] [an]:=λx=>J (Kn x.1 x.2)
theorem awb{kx:aX->IH->ae R}{g:Int->ae R}(b:b1 (I ay))(d:∀i:Nat,kx .ret (ay,(i:Int),(I ay:Int),(i:Int),s)=g i)(e:kx (.exit 0) (ay,0,(I ay:Int),(I ay:Int),s)=g (-1))(k:Nat)(h:I ay<k) :
  aI (λrec=>zK rec kx) k (ay,0,(I ay:Int),0,s)=g (gD ay s):=by
 refine(hV (I ay) (λi=>(ay,0,(I ay:Int),(i:Int),s)) (λi=>g (k2 (ay.drop i) s i)) (λi a rec f=>?_) (λrec=>?_) k 0 (cL _) af).trans KT
 .simp only[zK,ea a,cg a,cR (c:=.b2) a,c9 a b,f,d,da a,k2,mq];split<;>rfl
 .simp only[zK,eu,e];exact nD
theorem azd:aU 135 [cC,.str] [an] RT:=.fin 0 aqp λ(t,s) r al ag=>⟨I t.ay+1,by simp only[RT,dN,Kn]at ag;simp only[W4];exact(awb (g:=J) al.1.ay.1 (λ_=>rfl) rfl _ af).trans (congrArg J ag)⟩
def VT:bn:=⟨19,[(0,.sl .str ai),(4,.int .i64),(7,.int .i64),(8,.int .i64)],[(1,.fn 134 [.ptr 0 0])],[(0,.one (.bm .eT))],80,80,400,[],[]⟩
abbrev IB:=U ak×Int×Int×Int×b5
def zL{R:Type}(rec:IB->ae R)(kx:aX->IB->ae R)(v:IB):ae R:=match v with|(v,v1,v2,v3,w)=>cond (aa (v3<v2)) (ax (a_ v3 (I v)) (cond (aa ((Kn w (at' .str v v3))<0)) (kx .ret (v,v3,v2,v3,w)) (rec (v,v1,v2,(wr .i64 (v3+1)),w)))) (kx (.exit 0) (v,v1,v2,v3,w))
def Yl(R:Type)(mh:Nat):aR R:=bs [(135,ba RT)] [] [] []
noncomputable def ZJ(R:Type)(k:Nat):aR R:=bs [(134,ey 120 600 (Yl R k) Tryz.f134)] [] [(2,b8 k VT (zL))] []
noncomputable def Wf(R:Type)(k:Nat):aR R:=bs [(194,ey 80 400 (ZJ R k) Tryz.f194)] [] [] []
noncomputable def ahH(R:Type)(k:Nat):aR R:=bs [(133,ey 40 200 (Wf R k) Tryz.f133)] [] [] []
def V5(k:Nat)(x:aw [cC,dX]):ae (aw [.bool]):=match x with
 |(t,names)=>aI (λrec=>zL rec (λe a=>match a with|(_,v5,_,_,_)=>match e with
  |.ret=>J (!(aa (0<=v5)))
  |.exit 0=>J ab
  |_=>aj)) k (names,0,(I names:Int),0,t)
theorem apV(k:Nat):aU 71 [cC,dX] [.bool] (V5 k):=b6 (px:=ahH _ k) (n:=0) Tryz.func71 rfl (λah H=>by have d:bP ah (Yl (aw [.bool]) k):=br H (c1 H azd bq) bo bp;have c:bP ah (ZJ (aw [.bool]) k):=br H (et (eS H d Tryz.func134 rfl (n:=0) (aK)) bq) bo bp;have a:=cd H c (b:=b0 Tryz.f194 0) (k:=k) (n:=0) (s:=VT) (step:=zL) (λ_ _ _ (_,_,_,_,_)=>by kernel_rfl) aK;have e:bP ah (Wf (aw [.bool]) k):=br H (et (eS H c Tryz.func194 rfl (n:=1) (b9 aK a)) bq) bo bp;have f:bP ah (ahH (aw [.bool]) k):=br H (et (eS H e Tryz.func133 rfl (n:=0) (aK)) bq) bo bp;exact⟨f,aK⟩) λ(_,_)=>by kernel_rfl
def iT(t:b5)(names:U ak):Bool:=names.all λs=> !decide (gD t.ay s<0)
def GB:bt [cC,dX] [.bool]:=λx=>J (iT x.1 x.2)
theorem avp{kx:aX->IB->ae R}{t:b5}{l:U ak}{a b:ae R}(e:b1 (I l))(f:∀i:Nat,kx .ret (l,(i:Int),(I l:Int),(i:Int),t)=a)(g:kx (.exit 0) (l,0,(I l:Int),(I l:Int),t)=b)(k:Nat)(j:I l<k) :
  aI (λrec=>zL rec kx) k (l,0,(I l:Int),0,t)=cond (iT t l) b a:=by
 refine(hV (I l) (λi=>(l,0,(I l:Int),(i:Int),t)) (λi=>cond (iT t (l.drop i)) b a) (λi d rec h=>?_) (λrec=>?_) k 0 (cL _) af).trans iP
 .simp only[zL,ea d,cg d,cR (c:=.str) d,c9 d e,h,f,da d,iT,fk,Kn];cases aa (gD t.ay l[i]<0)<;>rfl
 .simp only[zL,eu,g];exact nD
theorem aiH:aU 71 [cC,dX] [.bool] GB:=.fin 0 apV λ(t,l) r al ag=>⟨I l+1,by
 simp only[GB,dN]at ag;simp only[V5];refine(avp (a:=J ai) (b:=J ab) al.2.1 (λi=>?_) rfl _ af).trans ?_
 .show J (!decide ((0:Int)<=(i:Int)))=J ai;rw[aH af];rfl
 .rw[<-ag];cases iT t l<;>rfl⟩
structure A0 {α:Type}(c : α->α->Int):Prop where
 Mi:∀x y,c x y = -1\/c x y=0\/c x y=1
 eq:∀x y,c x y=0↔x=y
 FO:∀x y,c y x = -(c x y)
 yx:∀x y z,c x y<=0->c y z<=0->c x z<=0
def qX(p q:Int):Int:=if p=0 then q else p
theorem afa{p q:Int}(h:qX p q<=0):p<=0/\(p=0->q<=0):=by simp[qX]at h;split at h<;>omega
variable{α:Type}{c:α->α->Int}
theorem aqT{β:Type}{d : β->β->Int}(ao:A0 c){x y z : α}{u v w : β}(ar:d u v<=0->d v w<=0->d u w<=0)(a:qX (c x y) (d u v)<=0)(b:qX (c y z) (d v w)<=0):qX (c x z) (d u w)<=0:=by
 obtain⟨bI,h⟩:=afa a;obtain⟨f,i⟩:=afa b;simp[qX];split
 .rename_i g;have e:=(ao.eq x z).1 g;subst e;have j:=ao.FO x y
  grind
 .exact(ao.yx x y z bI f)
def mN{α:Type}(c : α->α->Int):U α->U α->Int|[],[]=>0|[],_::_=> -1|_::_,[]=>1|x::a,y::b=>qX (c x y) (mN c a b)
theorem aoo(ao:A0 c):A0 (mN c):=by
 refine⟨?_,?_,?_,?_⟩
 .intro x;induction x with
  |nil=>intro y;cases y<;>simp[mN]
  |cons x a d=>
   intro y;cases y with
   |nil=>simp[mN]
   |cons y b=>
    simp[mN,qX];split
    .exact d b
    .exact ao.Mi x y
 .intro x;induction x with
  |nil=>intro y;cases y<;>simp[mN]
  |cons x a d=>
   intro y;cases y with
   |nil=>simp[mN]
   |cons y b=>
    simp[mN,qX];split
    .rename_i h;rw[d b];exact⟨λe=>⟨(ao.eq x y).1 h,e⟩,λe=>e.2⟩
    .rename_i h;exact⟨λe=>absurd e h,λe=>absurd ((ao.eq x y).2 e.1) h⟩
 .intro x;induction x with
  |nil=>intro y;cases y<;>simp[mN]
  |cons x a d=>intro y;cases y with|nil=>simp[mN]|cons y b=>have h:=ao.FO x y;have al:=d b;simp[mN,qX];split<;>split<;>omega
 .intro x;induction x with
  |nil=>intro y z _ _;cases z<;>simp[mN]
  |cons x a d=>
   intro y z f g;cases y with
   |nil=>simp[mN]at f
   |cons y b=>cases z with|nil=>simp[mN]at g|cons z e=>exact aqT ao (λp q=>d b e p q) f g
theorem Ml:A0 na:=by
 have e:∀x y,na x y=if x<y then -1 else if y<x then 1 else 0:=λx y=>by simp[na,mq]
 refine⟨λx y=>?_,λx y=>?_,λx y=>?_,λx y z a b=>?_⟩
 .grind
 .grind
 .grind
 .grind
def DE(a b:UInt8):Int:=na (a.toNat:Int) (b.toNat:Int)
theorem anF:A0 DE:=by
 refine⟨λx y=>Ml.Mi _ _,λx y=>?_,λx y=>Ml.FO _ _,λx y z=>Ml.yx _ _ _⟩;simp[DE];rw[Ml.eq];constructor
 .intro h;exact UInt8.toNat_inj.1 af
 .intro h;rw[h]
theorem ad3:∀a b:ak,mJ a b=mN DE a b
 |[],[]=>rfl
 |[],_::_=>rfl
 |_::_,[]=>rfl
 |a::l,b::m=>by
  have f:=ad3 l m;simp[mJ,Lib.compareBytes]at f ⊢;simp only[mN,qX,DE,na,<-f];by_cases c:a<b
  .have:(a.toNat:Int)<(b.toNat:Int):=by have:=UInt8.lt_iff_toNat_lt.1 c;omega
   simp[c,this]
  .by_cases d:b<a
   .have e:¬(a.toNat:Int)<(b.toNat:Int):=aki
    have g:(b.toNat:Int)<(a.toNat:Int):=aki
    simp[c,d,e,g]
   .have e:a=b:=UInt8.le_antisymm (UInt8.not_lt.1 d) (UInt8.not_lt.1 c);subst e;simp
theorem sz:A0 mJ:=by
 have e:(mJ:ak->ak->Int)=mN DE:=by funext a b;exact ad3 a b
 rw[e];exact aoo anF
end Go.Proofs.YtdelkmpkjibigaaGreatDoor
