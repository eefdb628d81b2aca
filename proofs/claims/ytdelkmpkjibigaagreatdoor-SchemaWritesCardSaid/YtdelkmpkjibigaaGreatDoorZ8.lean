/- Texts of the proof,one behind the other: So,Sd,Se,Fe,Oc,Ora,Oh,Ooa,Kx,Sf,Vg,Vd,Vu,Ya,Yb,Yc,Yd,Vh,Vj. -/
import Derived.Test.YtdelkmpkjibigaaGreatDoorZ7
set_option linter.all false
open List renaming length->I,eq_nil_of_length_eq_zero->k0,mem_append->lx,append_nil->kq,getElem_mem->hf,mem_cons->hv
open Option renaming some->J,none->aj
open Bool renaming true->ab,false->ai,true_and->jo
open Decidable renaming decide->aa
open Nat renaming zero_le->cL,zero_add->h6
open Go.IntKind renaming signed->lu,bits->kp
open UInt8 renaming ofNat->eh
open BitVec renaming ofInt->km
open Go renaming IntKind->df
open Int renaming tmod->gZ
namespace Go
theorem akd{p:Prop}(h:p:=by simp[fu,if_neg h,if_pos (show n / 128<128 by omega)]):p:=h
theorem akj{p:Prop}(h:p:=by rw[h6];exact List.drop_left):p:=h
theorem KJ{p:Prop}(h:p:=by simp[dP,bN];omega):p:=h
theorem akk{p:Prop}(h:p:=by rw[<-List.drop_drop,a,List.drop_left]):p:=h
theorem akm{p:Prop}(h:p:=by exact Int.emod_nonneg _ (by decide)):p:=h
theorem KR{p:Prop}(h:p:=by rw[a];decide):p:=h
end Go
namespace Go
theorem adj{p:Prop}(h:p:=by rw[aL a,kd,bd];exact⟨_,_,rfl,by simp,λx ag=>by cases ag⟩):p:=h
theorem adn{p:Prop}(h:p:=by simp[ and_true];show(q:Int)+((I s:Nat):Int)=((p+(I (fu 5 (I s))+I s):Nat):Int);omega):p:=h
theorem adB{p:Prop}(h:p:=by rw[aL a,kd,bd];exact⟨_,_,rfl,by simp;omega,λx ag=>by cases ag⟩):p:=h
theorem adE{p:Prop}(h:p:=by exact⟨_,_,_,rfl,λ_=>⟨ao,(j+m.toNat),by omega,by omega,by omega⟩⟩):p:=h
end Go
namespace Go.Proofs.YtdelkmpkjibigaaGreatDoor
open Go.ft
def hd(a b:ak):Bool:=aa (mJ a b<0)
theorem agM(a:ak):hd a a=false:=by have:=(sz.eq a a).2 rfl;simp[hd,this]
variable{a:ak}
theorem Sx{b c:ak}(d:hd a b=ab)(f:hd b c=ab):hd a c=true:=by
 simp[hd]at *;rcases Int.lt_or_eq_of_le (sz.yx a b c af af)with h|h
 .exact h
 .have e:=(sz.eq a c).1 h;subst e;have:=sz.FO a b;omega
theorem azG(a b:ak):hd a b=ab\/a=b\/hd b a=true:=by
 simp[hd];rcases sz.Mi a b with h|h|h
 .left;omega
 .exact .inr (.inl ((sz.eq a b).1 h))
 .right;have:=sz.FO a b;omega
theorem SC{b:ak}(h:hd a b=ab):a≠b:=λe=>by rw[e,agM]at h;cases h
def gM:U c'->Bool|[]=>ab|x::l=>l.all (λy=>hd x.name y.name)&&gM l
def jD(l:U c')(x:c'):U c':=l.takeWhile (λy=>hd y.name x.name)++x::l.dropWhile (λy=>hd y.name x.name)
def kL(l:U c')(s:ak):Bool:=l.any λy=>aa (y.name=s)
def hb(l:U c')(s:ak):Nat:=I (l.takeWhile λy=>hd y.name s)
theorem agV(l:U c')(s:ak):hb l s<=I l:=by
 induction l with
 |nil=>simp[hb]
 |cons x l a=>
  simp[hb,List.takeWhile_cons]at a ⊢;split
  .simp;omega
  .simp
theorem Ig:∀{l:U c'}{s:ak},gM l=ab->∀(h:Nat) (a:h<I l),hd l[h].name s=aa (h<hb l s)
 |[],_,_,h,a=>by simp at a
 |x::l,s,cw,h,a=>by
  simp[gM,dH]at cw;have d:=Ig (l:=l) (s:=s) cw.2;have b:hb (x::l) s=if hd x.name s then hb l s+1 else 0:=by simp[hb,List.takeWhile_cons];split<;>simp
  rw[b];cases ag:hd x.name s with
  |true=>grind
  |false=>
   cases h with
   |zero=>simpa using ag
   |succ h=>simp;cases c:hd (l[h]' w5).name s with|false=>rfl|true=>rw[Sx (cw.1 _ (hf _)) c]at ag;cases ag
theorem Lm:∀{l:U c'},gM l=ab->∀(i j:Nat) (a:i<I l) (b:j<I l),i<j->hd l[i].name l[j].name=ab
 |[],_,i,j,a,_,_=>by simp at a
 |x::l,cw,i,j,a,b,aFl=>by
  simp[gM,dH]at cw;cases j with
  |zero=>omega
  |succ j=>cases i with|zero=>grind|succ i=>exact Lm cw.2 i j w5 Ei af
variable{s:ak}
theorem agj{l:U c'}:kL l s=ab↔∃y,y∈l/\y.name=s:=by simp[kL]
theorem ait{l:U c'}(b:gM l=ab):kL l s=ab↔∃h:hb l s<I l,l[hb l s].name=s:=by
 rw[agj];constructor
 .rintro⟨y,aE,e⟩;obtain⟨k,f,rfl⟩:=List.getElem_of_mem aE;have c:=Ig (s:=s) b k f;rw[e,agM]at c;have d:¬k<hb l s:=λh=>by rw[aH h]at c;cases c
  have a:hb l s<I l:=af
  refine⟨a,?_⟩;rcases Nat.lt_or_eq_of_le (Nat.le_of_not_lt d)with h|h
  .have g:=Lm b _ k a f h;rw[e]at g;have i:=Ig (s:=s) b _ a;rw[g]at i;simp at i
  .subst h;exact e
 .grind
theorem am4(l:U c')(s:ak):l.take (hb l s)=l.takeWhile (λy=>hd y.name s):=by have:=List.takeWhile_append_dropWhile (p:=λy:c'=>hd y.name s) (l:=l);have a:(l.takeWhile (λy=>hd y.name s)++l.dropWhile (λy=>hd y.name s)).take (hb l s)=l.takeWhile (λy=>hd y.name s):=List.take_left' rfl;rwa[this]at a
theorem aqa(l:U c')(s:ak):l.drop (hb l s)=l.dropWhile (λy=>hd y.name s):=by have:=List.takeWhile_append_dropWhile (p:=λy:c'=>hd y.name s) (l:=l);have a:(l.takeWhile (λy=>hd y.name s)++l.dropWhile (λy=>hd y.name s)).drop (hb l s)=l.dropWhile (λy=>hd y.name s):=List.drop_left' rfl;rwa[this]at a
theorem QV(l:U c')(x:c'):jD l x=l.take (hb l x.name)++x::l.drop (hb l x.name):=by rw[am4,aqa,jD]
variable{x:c'}{y:c'}
theorem NQ{l:U c'}:y∈jD l x↔y=x\/y∈l:=by
 rw[QV];have:y∈l↔y∈l.take (hb l x.name)\/y∈l.drop (hb l x.name):=by rw[<-lx,List.take_append_drop]
 constructor
 .grind
 .grind
theorem I7(l:U c')(x:c'):I (jD l x)=I l+1:=by rw[QV];simp[ ff];omega
theorem EA:∀{l:U c'}{x:c'},gM l=ab->kL l x.name=ai->gM (jD l x)=ab
 |[],x,_,_=>by simp[jD,gM]
 |y::l,x,cw,ch=>by
  have a:=cw;simp[gM,dH]at a;simp only[kL,List.any_cons,Bool.or_eq_false_iff,decide_eq_false_iff_not]at ch;have d:=EA (l:=l) (x:=x) a.2 ch.2;cases aE:hd y.name x.name with
  |true=>
   have e:jD (y::l) x=y::jD l x:=by simp[jD,aE]
   rw[e];simp[gM,dH];refine⟨λz b=>?_,d⟩;rcases NQ.1 b with rfl|b
   .exact aE
   .exact a.1 z b
  |false=>
   have e:jD (y::l) x=x::y::l:=by simp[jD,aE]
   have c:hd x.name y.name=true:=by
    rcases azG x.name y.name with h|h|h
    .exact h
    .exact absurd h.symm ch.1
    .rw[h]at aE;cases aE
   rw[e];simp only[gM,bN,dH];refine⟨λz b=>?_,a⟩;rcases hv.1 b with rfl|b
   .exact c
   .exact Sx c (a.1 z b)
theorem adZ:∀{l:U c'}{x:c'},(∀y,y∈l->hd y.name x.name=ab)->jD l x=l++[x]
 |[],x,_=>rfl
 |y::l,x,h=>by
  have e:jD (y::l) x=y::jD l x:=by simp[jD,(h y (by simp))]
  rw[e,adZ λz a=>h z (by simp[a])];rfl
theorem Yp:∀{p q:U c'},gM (p++q)=ab->gM p=ab/\∀y z,y∈p->z∈q->hd y.name z.name=ab
 |[],_,_=>⟨rfl,λ_ _ h=>by cases h⟩
 |x::p,q,h=>by
  simp only[se,gM,bN,dH,lx]at h;obtain⟨b,c⟩:=Yp h.2;refine⟨?_,λy z aE a=>?_⟩
  .simp[gM,dH];exact⟨λy aE=>h.1 y (.inl aE),b⟩
  .rcases hv.1 aE with rfl|aE
   .exact h.1 z (.inr a)
   .exact c y z aE a
def fi:b5:=⟨[],[],[],[],[]⟩
def DV(ay:U bk)(e:aq):Int:=cond (aa ((ia e ay).2=0)) (cond (aa ((ia e ay).1=2)||decide ((ia e ay).1=1)) 0 151) (ia e ay).2
def jw(ay:U bk):U aq->Int|[]=>0|e::l=>cond (aa (DV ay e=0)) (jw ay l) (DV ay e)
def tH(s:aP):Bool:=aa (I s.ay<=1000000)&&(aa (I s.bT<=1000000)&&(aa (I s.names<=1000000)&&(aa (I s.l<=1000000)&&s.l.all λe=>aa (cm e<=1000000))))
def hz(s:aP):b5×Int:=cond (aa (s.kind=1)&&ei s) (cond (iT ⟨s.name,s.ay,s.names,[],[]⟩ s.names) (cond (aa (jw s.ay s.l=0)) (⟨s.name,s.ay,s.names,s.l,[]⟩,0) (fi,jw s.ay s.l)) (fi,150)) (fi,2)
def abR:bn:=⟨70,[(3,.int .i64),(34,.sl .expr ai),(35,.int .i64),(36,.int .i64)],[(2,.ptr 1 0),(4,.ptr 2 0)],[(1,.cells [.str,.sl .b2 ab,eD,fe,.sl .idx ab]),(2,.cells [.str,dR,dX,fe,.sl .idx ab])],3,0,0,[],[]⟩
abbrev LS:=Int×U aq×Int×Int×ak×U bk×U ak×U aq×U c'×ak×U bk×U ak×U aq×U c'
def y_{R:Type}(rec:LS->ae R)(kx:aX->LS->ae R)(v:LS):ae R:=match v with
 |(v,v1,v2,v3,w,w1,b4,cv,cH,cK,eb,eO,e2,fD)=>
 cond (aa (v3<v2)) (
  ax (a_ v3 (I v1)) (
  let j:=λ(a:Int)=>
   cond (!decide (a=0)) (
   kx .ret (a,v1,v2,v3,[],[],[],[],[],cK,eb,eO,e2,fD)) (
   (Dk (at' .expr v1 v3)).bind λb=>
    ax (aa (I e2+1<=bY)) (
    rec (v,v1,v2,(wr .i64 (v3+1)),w,w1,b4,cv,cH,cK,eb,eO,(e2++[b]),fD)))
  cond (aa ((ia (at' .expr v1 v3) eb).2=0)) (
   cond (!decide ((ia (at' .expr v1 v3) eb).1=2)) (
   cond (!decide ((ia (at' .expr v1 v3) eb).1=1)) (
    j 151) (
    j ((ia (at' .expr v1 v3) eb).2))) (
   j ((ia (at' .expr v1 v3) eb).2))) (
   j ((ia (at' .expr v1 v3) eb).2)))) (
  kx (.exit 0) (v,v1,v2,v3,w,w1,b4,cv,cH,cK,eb,eO,e2,fD))
def aeu(R:Type)(k:Nat):aR R:=bs [(39,ba Bu),(71,ba GB),(72,ba agn)] [(69,jK abd),(70,jK OH),(73,jK Q0)] [(7,b8 k abR (y_))] []
def abP(k:Nat)(x:aw [cG]):ae (aw [cC,an]):=match x with
 |s=>cond (!decide (s.kind=1)) (J ((b5.mk [] [] [] [] []),2)) ((ou s).bind λx=>cond (!decide (x=0)) (J ((b5.mk [] [] [] [] []),2)) ((Ri s.ay).bind λm=>(BD s.names).bind λj=>cond (!(iT (b5.mk s.name m j [] []) j)) (J ((b5.mk [] [] [] [] []),150)) (aI (λrec=>y_ rec (λe n=>match n with|(v4,_,_,_,bK,v9,a,b,c,d,f,g,h,i)=>match e with
     |.ret=>J ((b5.mk bK v9 a b c),v4)
     |.exit 0=>J ((b5.mk d f g h i),0)
     |_=>aj)) k (0,s.l,(I s.l:Int),0,[],[],[],[],[],s.name,m,j,[],[]))))
theorem au2(k:Nat):aU 27 [cG] [cC,an] (abP k):=b6 (px:=aeu _ k) (n:=1) Tryz.func27 rfl (λah H=>by have c:bP ah (aeu (aw [cC,an]) k):=br H (c1 H Hk (c1 H aiH (c1 H ao3 bq))) (bc H arE (bc H ZK (bc H auM bo))) bp;have a:=cd H c (b:=b0 Tryz.f27 0) (k:=k) (n:=0) (s:=abR) (step:=y_) (λ_ _ _ (_,_,_,_,_,_,_,_,_,_,_,_,_,_)=>by kernel_rfl) aK;exact⟨c,(b9 aK a)⟩) λ_=>by kernel_rfl
def ur(s:aP):ae (b5×Int):=cond (tH s) (J (hz s)) aj
def JE:bt [cG] [cC,an]:=λx=>ur x
variable{R:Type}{ay:U bk}{a7:ak}
theorem asd{kx:aX->LS->ae R}{names:U ak}{l:U aq}{b:ae R}{g:Int->ae R}(r:I l<=1000000)(f:l.all (λe=>aa (cm e<=1000000))=ab)(h:∀(p:Int) (i:Nat) (acc:U aq),kx .ret (p,l,(I l:Int),(i:Int),[],[],[],[],[],a7,ay,names,acc,[])=g p)(j:kx (.exit 0) (0,l,(I l:Int),(I l:Int),[],[],[],[],[],a7,ay,names,l,[])=b)(k:Nat)(s:I l<k) :
  aI (λrec=>y_ rec kx) k (0,l,(I l:Int),0,[],[],[],[],[],a7,ay,names,[],[])=cond (aa (jw ay l=0)) b (g (jw ay l)):=by
 have m:b1 (I l):=iC
 refine(hV (I l) (λi=>(0,l,(I l:Int),(i:Int),[],[],[],[],[],a7,ay,names,l.take i,[])) (λi=>cond (aa (jw ay (l.drop i)=0)) b (g (jw ay (l.drop i)))) (λi a rec n=>?_) (λrec=>?_) k 0 (cL _) af).trans iP
 .have o:l.take (i+1)=l.take i++[l[i]]:=by rw[List.take_add_one,ic a];rfl
  have d:aa (I (l.take i)+1<=bY)=true:=aH (by simp[ bY];omega);have ao:Dk l[i]=J l[i]:=by have:=dH.1 f _ (hf a);simp[Dk,this]
  rw[o]at n;simp only[y_,ea a,cg a,ax,cR (c:=.expr) a,c9 a m,h,da a,jw,DV];by_cases q:(ia l[i] ay).2=0
  .grind
  .simp[q]
 .simp only[y_,eu,j,List.take_length];exact nD
theorem axv{s:aP}(h:tH s=ab):I s.ay<=1000000/\I s.bT<=1000000/\I s.names<=1000000/\I s.l<=1000000/\s.l.all (λe=>aa (cm e<=1000000))=true:=by simp only[tH,bN,fQ]at h;exact h
theorem afE:aU 27 [cG] [cC,an] JE:=.fin 0 au2 λs r al ag=>⟨I s.l+1,by
 simp only[JE,ur]at ag;cases a:tH s with
 |false=>rw[a]at ag;cases ag
 |true=>
  rw[a]at ag;simp only[bd,dN]at ag;rw[<-ag];obtain⟨bc,c,d,e,f⟩:=axv a;have h:ou s=J (cond (ei s) 0 2):=if_pos ⟨bc,c⟩;simp only[abP,h,bA,Ri,BD,aH bc,aH d,bd,hz];cases aa (s.kind=1)with
  |false=>rfl
  |true=>
   cases ei s with
   |false=>rfl
   |true=>
    simp only[ef,bj,bd,Bool.and_self,decide_true];cases iT ⟨s.name,s.ay,s.names,[],[]⟩ s.names with
    |false=>rfl
    |true=>simp only[ef,bj,bd];refine(asd (g:=λp=>J (fi,p)) (b:=J (⟨s.name,s.ay,s.names,s.l,[]⟩,0)) e f (λ_ _ _=>rfl) rfl _ af).trans ?_;cases aa (jw s.ay s.l=0)<;>rfl⟩
def aoY(R:Type):aR R:=bs [] [] [] []
def N7(x:aw [cC]):ae (aw [cG]):=match x with|t=>J (aP.mk 1 t.name [] t.ay t.key t.ie [] [] ai (aq.mk 0 ⟨0,0,[]⟩ [] []) [] [] 0)
theorem axe:aU 18 [cC] [cG] (N7):=b6 (px:=aoY _) (n:=0) Tryz.func18 rfl (λ_ H=>⟨br H bq bo bp,aK⟩) λ_=>by kernel_rfl
def fm(t:b5):aP:=(aP.mk 1 t.name [] t.ay t.key t.ie [] [] ai (aq.mk 0 ⟨0,0,[]⟩ [] []) [] [] 0)
theorem avP(x:aw [cC]):N7 x=J (fm x):=by
 first
  |exact rfl
  |simp only[N7,fm,gb]
def Nz:bt [cC] [cG]:=λx=>J (fm x)
theorem afc:aU 18 [cC] [cG] Nz:=.er axe λx _ _ ag=>(avP x).trans ag
def avr(R:Type):aR R:=bs [] [] [] []
def TT(x:aw [cC,.bm .idx]):ae (aw [cG]):=match x with|(t,x)=>J (aP.mk 3 x.name t.name [] x.ay [] [] [] ai (aq.mk 0 ⟨0,0,[]⟩ [] []) [] [] 0)
theorem asS:aU 19 [cC,.bm .idx] [cG] (TT):=b6 (px:=avr _) (n:=0) Tryz.func19 rfl (λ_ H=>⟨br H bq bo bp,aK⟩) λ(_,_)=>by kernel_rfl
def dG(t:b5)(x:c'):aP:=(aP.mk 3 x.name t.name [] x.ay [] [] [] ai (aq.mk 0 ⟨0,0,[]⟩ [] []) [] [] 0)
theorem asl(x:aw [cC,.bm .idx]):TT x=J (dG x.1 x.2):=by
 first
  |exact rfl
  |simp only[TT,dG,gb]
def Rf:bt [cC,.bm .idx] [cG]:=λx=>J (dG x.1 x.2)
theorem V':aU 19 [cC,.bm .idx] [cG] Rf:=.er asS λx _ _ ag=>(asl x).trans ag
def atT(R:Type):aR R:=bs [(95,ba N')] [] [] []
def Tt(x:aw [.bm .idx,.str]):ae (aw [an]):=match x with|(x,name)=>J (xy x.name name)
theorem arF:aU 75 [.bm .idx,.str] [an] (Tt):=b6 (px:=atT _) (n:=0) Tryz.func75 rfl (λ_ H=>⟨br H (c1 H _H bq) bo bp,aK⟩) λ(_,_)=>by kernel_rfl
def vk(x:c')(name:ak):Int:=(xy x.name name)
theorem amn(x:aw [.bm .idx,.str]):Tt x=J (vk x.1 x.2):=by
 first
  |exact rfl
  |simp only[Tt,vk,gb]
def XM:bt [.bm .idx,.str] [an]:=λx=>J (vk x.1 x.2)
theorem atA:aU 75 [.bm .idx,.str] [an] XM:=.er arF λx _ _ ag=>(amn x).trans ag
def aam:bn:=⟨49,[(0,.sl .idx ai),(1,.str),(8,.int .i64),(9,.int .i64),(10,.int .i64)],[(2,.fn 75 [])],[(0,.one (.bm .eT)),(1,.one (.bm .stmt)),(2,.one (.bm .eT))],40,40,200,[],[]⟩
abbrev HO:=U c'×ak×Int×Int×Int×b5×aP×b5
def zl{R:Type}(rec:HO->ae R)(kx:aX->HO->ae R)(v:HO):ae R:=match v with|(v,v1,v2,v3,v4,w,w1,b4)=>cond (aa (v3<v4)) (ax (a_ (wr .i64 (hj .u64 (wr .u64 (wr .i64 (v3+v4))) 1)) (I v)) (cond (aa ((vk (at' .idx v (wr .i64 (hj .u64 (wr .u64 (wr .i64 (v3+v4))) 1))) v1)<0)) (rec (v,v1,v2,(wr .i64 ((wr .i64 (hj .u64 (wr .u64 (wr .i64 (v3+v4))) 1))+1)),v4,w,w1,b4)) (rec (v,v1,v2,v3,(wr .i64 (hj .u64 (wr .u64 (wr .i64 (v3+v4))) 1)),w,w1,b4)))) (kx (.exit 0) (v,v1,v2,v3,v4,w,w1,b4))
def ab7(R:Type)(k:Nat):aR R:=bs [(75,ba XM)] [] [(3,b8 k aam (zl))] []
noncomputable def adW(R:Type)(k:Nat):aR R:=bs [(39,ba Bu),(71,ba GB),(76,JF),(74,ey 40 200 (ab7 R k) Tryz.f74)] [(70,jK OH)] [] [(77,Ja .idx)]
def aaW(k:Nat)(x:aw [cC,cG]):ae (aw [cC,an]):=match x with
 |(t,s)=>
 cond (!decide (s.kind=3)) (
  J ((b5.mk [] [] [] [] []),2)) (
  (ou s).bind λx=>
  cond (!decide (x=0)) (
   J ((b5.mk [] [] [] [] []),2)) (
   cond (!decide (s.on=t.name)) (
   J ((b5.mk [] [] [] [] []),2)) (
   aI (λrec=>zl rec (λe f=>match f with|(v5,v6,bb,d,_,a,b,_)=>match e with
    |.exit 0=>
    let j:=λ(c:Bool)=>
     cond (c) (
     J ((b5.mk [] [] [] [] []),160)) (
     cond (aa (100<=(I a.idx:Int))) (
      J ((b5.mk [] [] [] [] []),3)) (
      cond (!(iT a b.names)) (
      J ((b5.mk [] [] [] [] []),150)) (
      ax (aa (I a.idx<=1000000)) (
       cond (List.isEmpty a.idx) (
       (BD b.names).bind λg=>
        ax (aa (d=0)) (
        J ((b5.mk a.name a.ay a.key a.ie [(c'.mk b.name g)]),0))) (
       (BD b.names).bind λh=>
        ax (aa ((0:Int)=0)&&aa ((0:Int)<(I a.idx:Int))&&aa ((I a.idx:Int)=(I a.idx:Int))&&aa ((0:Int)<=d)&&aa (d<=(I a.idx:Int))&&aa ((I a.idx:Int)<=(1000000:Int))) (
        J ((b5.mk a.name a.ay a.key a.ie (List.take (d:Int).toNat a.idx++(c'.mk b.name h)::List.drop (d:Int).toNat a.idx)),0)))))))
    cond (aa (d<bb)) (
     ax (a_ d (I v5)) (
     j (aa ((vk (at' .idx v5 d) v6)=0)))) (
     j ai)
    |_=>aj)) k (t.idx,s.name,(I t.idx:Int),0,(I t.idx:Int),t,s,(b5.mk [] [] [] [] [])))))
theorem avJ(k:Nat):aU 28 [cC,cG] [cC,an] (aaW k):=b6 (px:=adW _ k) (n:=0) Tryz.func28 rfl (λah H=>by have c:bP ah (ab7 (aw [cC,an]) k):=br H (c1 H atA bq) bo bp;have a:=cd H c (b:=b0 Tryz.f74 0) (k:=k) (n:=0) (s:=aam) (step:=zl) (λ_ _ _ (_,_,_,_,_,_,_,_)=>by kernel_rfl) aK;have d:bP ah (adW (aw [cC,an]) k):=br H (c1 H Hk (c1 H aiH (et (aCN H aAD) (et (eS H c Tryz.func74 rfl (n:=1) (b9 aK a)) bq)))) (bc H ZK bo) (VX (aCC H arM amf) bp);exact⟨d,aK⟩) λ(_,_)=>by kernel_rfl
def q1(t:b5)(s:aP):b5×Int:=cond (aa (s.kind=3)&&(ei s&&aa (s.on=t.name))) (cond (kL t.idx s.name) (fi,160) (cond (aa (100<=I t.idx)) (fi,3) (cond (iT t s.names) ({ t with idx:=jD t.idx ⟨s.name,s.names⟩ },0) (fi,150)))) (fi,2)
def wm(t:b5)(s:aP):Bool:=aa (I s.ay<=1000000)&&(aa (I s.bT<=1000000)&&(aa (I s.names<=1000000)&&(aa (I t.idx<=1000000)&&gM t.idx)))
def rA(t:b5)(s:aP):ae (b5×Int):=cond (wm t s) (J (q1 t s)) aj
def Jb:bt [cC,cG] [cC,an]:=λx=>rA x.1 x.2
theorem aCG{n:Nat}(h:n<=4000000):wr .u64 (n:Int)=(n:Int):=by
 have e:wr .u64 (n:Int)=(n:Int) % 18446744073709551616:=by simp[wr,df.wrap,kp,lu]
 omega
theorem aAS{a:Int}:hj .u64 a 1=a / 2:=by show a.fdiv (2 ^ min (1:Int).toNat df.u64.bits)=_;rw[show(2:Int) ^ min (1:Int).toNat df.u64.bits=2 from by decide];exact Int.fdiv_eq_ediv_of_nonneg _ af
theorem aq1{a b:Nat}(h:a+b<=4000000):wr .i64 (hj .u64 (wr .u64 (wr .i64 ((a:Int)+(b:Int)))) 1)=(((a+b) / 2:Nat):Int):=by rw[show(a:Int)+(b:Int)=((a+b:Nat):Int) by omega,ac8 iC,aCG h,aAS,show((a+b:Nat):Int) / 2=(((a+b) / 2:Nat):Int) by omega,ac8 iC]
theorem OU{R:Type}{kx:aX->HO->ae R}{l:U c'}{a7:ak}{t t2:b5}{s:aP}{c:ae R}(b:gM l=ab)(e:I l<=1000000)(d:kx (.exit 0) (l,a7,(I l:Int),(hb l a7:Int),(hb l a7:Int),t,s,t2)=c):∀(k dU a:Nat),dU<=hb l a7->hb l a7<=a->a<=I l->a-dU<k ->
  aI (λrec=>zl rec kx) k (l,a7,(I l:Int),(dU:Int),(a:Int),t,s,t2)=c
 |0,dU,a,_,_,_,h=>by omega
 |k+1,dU,a,bg,cB,dE,h=>by
  rw[c6];by_cases f:dU<a
  .have hm:(dU+a) / 2<I l:=af
   have g:=Ig (s:=a7) b _ hm;have al:aa (vk l[(dU+a) / 2] a7<0)=aa ((dU+a) / 2<hb l a7):=g;have i:=OU b e d k ((dU+a) / 2+1) a;have j:=OU b e d k dU ((dU+a) / 2);simp only[zl,aq1 (show dU+a<=4000000 by omega),cg hm,ax,cR (c:=.idx) hm,c9 hm (show b1 (I l) by simp[b1];omega)];by_cases o:(dU+a) / 2<hb l a7
   .grind
   .grind
  .have m:dU=hb l a7:=af
   have n:a=hb l a7:=af
   simp only[zl,aL (show ¬(dU:Int)<(a:Int) by omega)];rw[m,n];exact d
theorem apQ{l:U c'}(b:gM l=ab){A B:ae R}:(cond (aa ((hb l a7:Int)<(I l:Int))) (ax (a_ (hb l a7:Int) (I l)) (cond (aa (vk (at' .idx l (hb l a7:Int)) a7=0)) A B)) B)=cond (kL l a7) A B:=by
 by_cases a:hb l a7<I l
 .rw[aH (show(hb l a7:Int)<(I l:Int) by omega)];simp[ cg a,ax,cR (c:=.idx) a];have e:aa (vk l[hb l a7] a7=0)=kL l a7:=by
   rw[Bool.eq_iff_iff,ait b,fQ];constructor
   .intro h;exact⟨a,(sz.eq _ _).1 h⟩
   .rintro⟨_,h⟩;exact(sz.eq _ _).2 h
  rw[e]
 .rw[aL (show ¬(hb l a7:Int)<(I l:Int) by omega)];have e:kL l a7=false:=by cases h:kL l a7 with|false=>rfl|true=>exact absurd ((ait b).1 h).1 a
  rw[e];rfl
variable{t:b5}
theorem auo{s:aP}(h:wm t s=ab):I s.ay<=1000000/\I s.bT<=1000000/\I s.names<=1000000/\I t.idx<=1000000/\gM t.idx=true:=by simp[wm]at h;exact h
theorem afD:aU 28 [cC,cG] [cC,an] Jb:=.fin 0 avJ λ(t,s) r al ag=>⟨I t.idx+1,by
 simp only[Jb,rA]at ag;cases d:wm t s with
 |false=>rw[d]at ag;cases ag
 |true=>
  rw[d]at ag;simp only[bd,dN]at ag;rw[<-ag];obtain⟨bc,j,k,g,h⟩:=auo d;have m:ou s=J (cond (ei s) 0 2):=if_pos ⟨bc,j⟩;simp only[aaW,m,bA,BD,q1];cases aa (s.kind=3)with
  |false=>rfl
  |true=>
   cases ei s with
   |false=>rfl
   |true=>
    cases aa (s.on=t.name)with
    |false=>rfl
    |true=>
     simp only[ef,bj,bd,Bool.and_self,decide_true];refine(OU (c:=J (cond (kL t.idx s.name) (fi,160) (cond (aa (100<=I t.idx)) (fi,3) (cond (iT t s.names) ({ t with idx:=jD t.idx ⟨s.name,s.names⟩ },0) (fi,150))))) h g ?_ _ 0 (I t.idx) (cL _) (agV _ _) (bU _) af).trans rfl;have hle:=agV t.idx s.name;simp only;rw[apQ h];cases kL t.idx s.name with
     |true=>rfl
     |false=>
      have b:aa ((100:Int)<=(I t.idx:Int))=aa (100<=I t.idx):=hL.2 af;simp only[bj,b];cases aa (100<=I t.idx)with
      |true=>rfl
      |false=>
       simp only[bj];cases iT t s.names with
       |false=>rfl
       |true=>
        simp only[ef,bj,bd,ax,aH g];simp only[aH k,bd,bA];cases e:t.idx.isEmpty with
        |true=>have f:t.idx=[]:=List.isEmpty_iff.1 e;simp only[bd,f];rfl
        |false=>
         have i : 0<I t.idx:=by cases f:t.idx with|nil=>rw[f]at e;cases e|cons x l=>simp only[eo];omega
         simp only[bj,QV,Int.toNat_natCast];have a:aa ((0:Int)<(I t.idx:Int))=ab/\aa ((0:Int)<=(hb t.idx s.name:Int))=ab/\aa ((hb t.idx s.name:Int)<=(I t.idx:Int))=ab/\aa ((I t.idx:Int)<=1000000)=true:=by simp only[fQ];omega
         simp only[a.1,a.2.1,a.2.2.1,a.2.2.2,Bool.and_self,bd]⟩
def Yx:bn:=⟨58,[(3,.bool),(39,.sl .idx ai),(40,.int .i64),(41,.int .i64)],[(1,.ptr 0 0),(2,.ptr 1 0),(4,.ptr 2 0)],[(0,.one (.bm .eT)),(1,.one (.bm .eT)),(2,.one (.bm .eT))],3,0,0,[],[]⟩
abbrev K0:=Bool×U c'×Int×Int×b5×b5×b5
def AY{R:Type}(rec:K0->ae R)(kx:aX->K0->ae R)(v:K0):ae R:=match v with|(d,b,c,a,cv,cH,cK)=>cond (aa (a<c)) (ax (a_ a (I b)) (ax (a_ a (I cv.idx)) (cond (!decide (((at' .idx b a).name)=((at' .idx cv.idx a).name))) (kx .ret (ai,b,c,a,cv,(b5.mk [] [] [] [] []),cK)) (rec (d,b,c,(wr .i64 (a+1)),cv,cH,cK))))) (kx (.exit 2) (d,b,c,a,cv,cH,cK))
def Yw:bn:=⟨58,[(3,.bool),(20,.sl .idx ai),(21,.int .i64),(22,.int .i64)],[(1,.ptr 0 0),(2,.ptr 1 0),(4,.ptr 2 0)],[(0,.one (.bm .eT)),(1,.one (.bm .eT)),(2,.one (.bm .eT))],3,0,0,[],[]⟩
abbrev KX:=Bool×U c'×Int×Int×b5×b5×b5
def AU{R:Type}(rec:KX->ae R)(kx:aX->KX->ae R)(v:KX):ae R:=match v with|(v,v1,v2,v3,w,w1,b4)=>cond (aa (v3<v2)) (ax (a_ v3 (I v1)) ((rA b4 (dG w (at' .idx v1 v3))).bind λ(a,b)=>cond (!decide (b=0)) (kx .ret (ai,v1,v2,v3,w,(b5.mk [] [] [] [] []),a)) (rec (v,v1,v2,(wr .i64 (v3+1)),w,w1,a)))) (kx (.exit 0) (v,v1,v2,v3,w,w1,b4))
def ZH(R:Type)(k:Nat):aR R:=bs [(18,ba Nz),(27,ba JE)] [(19,jK Rf),(28,jK Jb)] [(5,b8 k Yw (AU)),(12,b8 k Yx (AY))] []
def YD(k:Nat)(x:aw [cC]):ae (aw [cC,.bool]):=match x with
 |t=>(ur (fm t)).bind λ(x,g)=>cond (!decide (g=0)) (J ((b5.mk [] [] [] [] []),ai)) (aI (λrec=>AU rec (λe f=>match f with|(v4,_,_,_,bK,v9,a)=>match e with
   |.ret=>J (v9,v4)
   |.exit 0=>aI (λrec=>AY rec (λe f=>match f with|(b,_,_,_,_,c,d)=>match e with
    |.ret=>J (c,b)
    |.exit 2=>J (d,ab)
    |_=>aj)) k (v4,a.idx,(I a.idx:Int),0,bK,v9,a)
   |_=>aj)) k (ai,t.idx,(I t.idx:Int),0,t,(b5.mk [] [] [] [] []),x))
theorem al6(k:Nat):aU 38 [cC] [cC,.bool] (YD k):=b6 (px:=ZH _ k) (n:=2) Tryz.func38 rfl (λah H=>by have d:bP ah (ZH (aw [cC,.bool]) k):=br H (c1 H afc (c1 H afE bq)) (bc H V' (bc H afD bo)) bp;have a:=cd H d (b:=b0 Tryz.f38 0) (k:=k) (n:=0) (s:=Yw) (step:=AU) (λ_ _ _ (_,_,_,_,_,_,_)=>by kernel_rfl) aK;have c:=cd H d (b:=b0 Tryz.f38 1) (k:=k) (n:=0) (s:=Yx) (step:=AY) (λ_ _ _ (_,_,_,_,_,_,_)=>by kernel_rfl) aK;exact⟨d,(b9 (b9 aK a) c)⟩) λ_=>by kernel_rfl
def mE(t:b5)(x:c'):Bool:=ei (dG t x)&&iT t x.ay
def n6(t:b5):U c'->U c'->ae (U c')|acc,[]=>J acc|acc,x::l=>cond (mE t x&&(!kL acc x.name&&aa (I acc<100))) (n6 t (jD acc x) l) aj
def iq(t:b5):Bool:=aa ((hz (fm t)).2=0)&&(gM t.idx&&(aa (I t.idx<=100)&&t.idx.all (mE t)))
def o7(t:b5):Bool:=tH (fm t)&&(aa (I t.idx<=1000000)&&t.idx.all λx=>aa (I x.ay<=1000000))
def Io(t:b5):ae (b5×Bool):=cond (o7 t) (J (cond (iq t) (t,ab) (fi,ai))) aj
def Ol:bt [cC] [cC,.bool]:=λx=>Io x
theorem ahk{acc:U c'}:q1 { t with idx:=acc } (dG t x)=cond (ei (dG t x)) (cond (kL acc x.name) (fi,160) (cond (aa (100<=I acc)) (fi,3) (cond (iT t x.ay) ({ t with idx:=jD acc x },0) (fi,150)))) (fi,2):=by simp[q1,dG];rfl
theorem afm{t:b5}:∀{l acc a:U c'},gM acc=ab->n6 t acc l=J a->gM a=ab/\(∀y,y∈a↔y∈acc\/y∈l)/\I a=I acc+I l/\l.all (mE t)=ab/\(I acc<=100->I a<=100)
 |[],acc,a,cw,h=>by simp[n6]at h;subst h;exact⟨cw,by simp,by simp,rfl,id⟩
 |x::l,acc,a,cw,h=>by
  simp[n6]at h;cases ao:mE t x&&(!kL acc x.name&&aa (I acc<100))with
  |false=>rw[ao]at h;cases h
  |true=>
   rw[ao]at h;simp at h;simp at ao;obtain⟨c,d,e,f,b⟩:=afm (EA cw ao.2.1) h;rw[I7]at e b;refine⟨c,λy=>?_,by simp;omega,by simp[f,ao.1],λ_=>b af⟩;rw[d,NQ,hv];constructor
   .grind
   .grind
theorem I8{t:b5}:∀{q p:U c'},gM (p++q)=ab->I (p++q)<=100->q.all (mE t)=ab->n6 t p q=J (p++q)
 |[],p,_,_,_=>by simp[n6]
 |x::q,p,cw,ck,bf=>by
  simp only[fk,bN]at bf;have a:=(Yp cw).2;have b:kL p x.name=false:=by cases h:kL p x.name with|false=>rfl|true=>obtain⟨y,aE,e⟩:=agj.1 h;exact absurd e (SC (a y x aE (by simp)))
  have c:aa (I p<100)=true:=aH (by simp at ck;omega);have d:jD p x=p++[x]:=adZ λy aE=>a y x aE (by simp);simp[n6,bf.1,b,c,d];rw[I8 (by simpa using cw) (by simpa using ck) bf.2];simp
def pC:U c'->U c'->Bool|x::a,y::b=>aa (x.name=y.name)&&pC a b|_,_=>ab
theorem aeU:∀{a b:U c'},pC a b=ab->∀(i:Nat) (c:i<I a) (d:i<I b),a[i].name=b[i].name
 |[],_,_,i,c,_=>by simp at c
 |_::_,[],_,i,_,d=>by simp at d
 |x::a,y::b,h,i,c,d=>by simp[pC]at h;cases i with|zero=>exact h.1|succ i=>exact aeU h.2 i (by simpa using c) uN
theorem XQ:∀a:U c',pC a a=ab
 |[]=>rfl
 |x::a=>by simp[pC,XQ a]
theorem au0{l:U c'}(a:gM l=ab)(ag:x∈l)(aE:y∈l)(e:x.name=y.name):x=y:=by
 obtain⟨i,b,rfl⟩:=List.getElem_of_mem ag;obtain⟨j,c,rfl⟩:=List.getElem_of_mem aE;rcases Nat.lt_trichotomy i j with h|h|h
 .exact absurd e (SC (Lm a i j b c h))
 .subst h;rfl
 .exact absurd e.symm (SC (Lm a j i c b h))
theorem ayJ{a b:U c'}(e:gM a=ab)(hm:∀y,y∈a↔y∈b)(f:I a=I b)(h:pC a b=ab):a=b:=List.ext_getElem f λi c d=>au0 e (hf c) ((hm _).2 (hf d)) (aeU h i c d)
theorem aAx{g:U c'->R}{c:R}:(match n6 t [] t.idx with|some a=>cond (pC a t.idx) (g a) c|none=>c)=cond (gM t.idx&&(aa (I t.idx<=100)&&t.idx.all (mE t))) (g t.idx) c:=by
 cases ag:n6 t [] t.idx with
 |none=>cases ao:gM t.idx&&(aa (I t.idx<=100)&&t.idx.all (mE t))with|false=>rfl|true=>simp only[bN]at ao;rw[I8 (p:=[]) (by simpa using ao.1) (by simpa using ao.2.1) ao.2.2]at ag;cases ag
 |some a=>
  obtain⟨d,h,i,f,j⟩:=afm (by rfl) ag;simp only;cases b:pC a t.idx with
  |true=>have e:=ayJ d (λy=>by rw[h];simp) (by simpa using i) b;rw[<-e,d];rw[<-e]at f;rw[f,aH (j (by simp))];rfl
  |false=>cases ao:gM t.idx&&(aa (I t.idx<=100)&&t.idx.all (mE t))with|false=>rfl|true=>simp only[bN]at ao;rw[I8 (p:=[]) (by simpa using ao.1) (by simpa using ao.2.1) ao.2.2]at ag;cases ag;rw[nX,XQ]at b;cases b
theorem PJ(h:o7 t=ab):tH (fm t)=ab/\I t.idx<=1000000/\∀x,x∈t.idx->I x.ay<=1000000:=by simp[o7]at h;exact h
theorem aq6{kx:aX->KX->ae R}{g:U c'->ae R}{c:ae R}(l:o7 t=ab)(d:∀i p,kx .ret (ai,t.idx,(I t.idx:Int),i,t,fi,p)=c)(j:∀a:U c',I a=I t.idx->kx (.exit 0) (ai,t.idx,(I t.idx:Int),(I t.idx:Int),t,fi,{ t with idx:=a })=g a)(k:Nat)(r:I t.idx<k) :
  aI (λrec=>AU rec kx) k (ai,t.idx,(I t.idx:Int),0,t,fi,{ t with idx:=[] })=(match n6 t [] t.idx with|some a=>g a|none=>c):=by
 obtain⟨_,s,h⟩:=PJ l;have m:b1 (I t.idx):=iC
 refine(lB (I t.idx) (λi (acc:U c')=>(ai,t.idx,(I t.idx:Int),(i:Int),t,fi,{ t with idx:=acc })) (λi acc=>gM acc=ab/\I acc=i) (λi acc=>(match n6 t acc (t.idx.drop i)with|some a=>g a|none=>c)) (λi e acc f rec n=>?_) (λacc f rec=>?_) k 0 [] (cL _) af ⟨rfl,rfl⟩).trans iP
 .have o:rA { t with idx:=acc } (dG t t.idx[i])=J (q1 { t with idx:=acc } (dG t t.idx[i])):=by
   have:wm { t with idx:=acc } (dG t t.idx[i])=true:=by have d:=h _ (hf e);have j:=f.2;show(aa ((0:Nat)<=1000000)&&(aa ((0:Nat)<=1000000)&&(aa (I t.idx[i].ay<=1000000)&&(aa (I acc<=1000000)&&gM acc))))=ab;rw[aH d,aH (show I acc<=1000000 by omega),f.1];rfl
   rw[rA,this];rfl
  simp only[AU,ea e,cg e,cR (c:=.idx) e,o,ahk,c9 e m,da e,n6,mE];cases ei (dG t t.idx[i])with
  |false=>exact d _ _
  |true=>
   simp;cases q:kL acc t.idx[i].name with
   |true=>simp;exact d _ _
   |false=>
    simp;by_cases b:I acc<100
    .rw[aH b,aL (show ¬ 100<=I acc by omega)];simp;cases iT t t.idx[i].ay with|false=>exact d _ _|true=>simp;exact n _ ⟨EA f.1 q,by rw[I7,f.2]⟩
    .rw[aL b,aH (show 100<=I acc by omega)];simp;exact d _ _
 .simp only[AU,eu,j acc f.2];exact nD
theorem arf{kx:aX->K0->ae R}{a:U c'}{b c:ae R}(f:o7 t=ab)(n:I a=I t.idx)(g:∀i,kx .ret (ai,a,(I a:Int),i,t,fi,{ t with idx:=a })=c)(h:kx (.exit 2) (ai,a,(I a:Int),(I a:Int),t,fi,{ t with idx:=a })=b)(k:Nat)(o:I t.idx<k) :
  aI (λrec=>AY rec kx) k (ai,a,(I a:Int),0,t,fi,{ t with idx:=a })=cond (pC a t.idx) b c:=by
 obtain⟨_,p,j⟩:=PJ f;have l:b1 (I a):=iC
 refine(hV (I a) (λi=>(ai,a,(I a:Int),(i:Int),t,fi,{ t with idx:=a })) (λi=>cond (pC (a.drop i) (t.idx.drop i)) b c) (λi e rec m=>?_) (λrec=>?_) k 0 (cL _) af).trans qs
 .have d:i<I t.idx:=af
  simp only[AY,ea e,cg e,cg d,cR (c:=.idx) e,cR (c:=.idx) d,c9 e l,da e,da d,pC,m];cases aa (a[i].name=t.idx[i].name)with|false=>exact g _|true=>rfl
 .simp only[AY,eu,h];exact nD
theorem avb(h:(hz (fm t)).2=0):hz (fm t)=({ t with idx:=[] },0):=by
 simp[hz]at h ⊢;generalize (aa ((fm t).kind=1)&&ei (fm t))=dC at h ⊢;generalize iT ⟨(fm t).name,(fm t).ay,(fm t).names,[],[]⟩ (fm t).names=eM at h ⊢;cases dC with
 |false=>simp at h
 |true=>
  cases eM with
  |false=>simp at h
  |true=>
   by_cases ao:jw (fm t).ay (fm t).l=0
   .simp only[ao];rfl
   .simp[ao]at h
theorem arH:aU 38 [cC] [cC,.bool] Ol:=.fin 0 al6 λt r al ag=>⟨I t.idx+1,by
 simp only[Ol,Io]at ag;cases b:o7 t with
 |false=>rw[b]at ag;cases ag
 |true=>
  rw[b]at ag;simp only[bd,dN]at ag;rw[<-ag];obtain⟨bc,h,i⟩:=PJ b;have e:ur (fm t)=J (hz (fm t)):=by rw[ur,bc];rfl
  simp only[YD,e,bA,iq];by_cases d:(hz (fm t)).2=0
  .simp only[avb d,decide_true,ef,bj,jo];refine(aq6 (c:=J (fi,ai)) (g:=λa=>cond (pC a t.idx) (J ({ t with idx:=a },ab)) (J (fi,ai))) b (λ_ _=>rfl) (λa f=>?_) _ af).trans ?_
   .exact arf b f (λ_=>rfl) rfl _ af
   .rw[aAx (g:=λa=>J (({ t with idx:=a }:b5),ab)),gb]
  .simp only[aL d,kd,bd,Bool.false_and,bj];rfl⟩
def av0(R:Type):aR R:=bs [(38,ba Ol)] [] [] []
def Z4(x:aw [cC]):ae (aw [an]):=match x with|t=>(Io t).bind λ(_,a)=>cond (!a) (J 2) (J 0)
theorem asz:aU 16 [cC] [an] (Z4):=b6 (px:=av0 _) (n:=0) Tryz.func16 rfl (λ_ H=>⟨br H (c1 H arH bq) bo bp,aK⟩) λ_=>by kernel_rfl
def vr(t:b5):ae Int:=cond (o7 t) (J (cond (iq t) 0 2)) aj
def Fk:bt [cC] [an]:=λx=>vr x
theorem Pl:aU 16 [cC] [an] Fk:=.er asz λt r al ag=>by simp only[Fk,vr]at ag;rw[<-ag];simp only[Z4,Io];cases o7 t with|false=>rfl|true=>cases iq t<;>rfl
def ant(R:Type):aR R:=bs [] [] [] []
def ON(x:aw [an]):ae (aw [an,an]):=match x with
 |kind=>
 let a:=λ(p1:Bool)=>
  cond (p1) (
  J (2,2)) (
  let j:=λ(p3:Bool)=>
   cond (p3) (
   J (0,2)) (
   cond (aa (12<=kind)) (
    cond (aa (kind<=15)) (
    J (3,3)) (
    J (0,2))) (
    J (0,2)))
  cond (aa (6<=kind)) (
   j (aa (kind<=11))) (
   j ai))
 cond (aa (3<=kind)) (
  a (aa (kind<=5))) (
  a ai)
theorem au9:aU 206 [an] [an,an] (ON):=b6 (px:=ant _) (n:=0) Tryz.func206 rfl (λ_ H=>⟨br H bq bo bp,aK⟩) λ_=>by kernel_rfl
def gj(kind:Int):Int×Int:=
 let a:=λ(p1:Bool)=>
  cond (p1) (
  (2,2)) (
  let j:=λ(p3:Bool)=>
   cond (p3) (
   (0,2)) (
   cond (aa (12<=kind)) (
    cond (aa (kind<=15)) (
    (3,3)) (
    (0,2))) (
    (0,2)))
  cond (aa (6<=kind)) (
   j (aa (kind<=11))) (
   j ai))
 cond (aa (3<=kind)) (
  a (aa (kind<=5))) (
  a ai)
theorem aul(x:aw [an]):ON x=J (gj x):=by
 first
  |exact rfl
  |simp only[ON,gj,gb]
def ag8:bt [an] [an,an]:=λx=>J (gj x)
theorem apx:aU 206 [an] [an,an] ag8:=.er au9 λx _ _ ag=>(aul x).trans ag
def aa4:bn:=⟨117,[(1,.sl .b2 ai),(4,.int .i64),(5,.int .i64),(6,.int .i64)],[(2,.ptr 0 0)],[(0,.one (.bm .expr))],1,0,0,[],[]⟩
abbrev E9:=U bk×Int×Int×Int×aq
def vf{R:Type}(rec:E9->ae R)(kx:aX->E9->ae R)(v:E9):ae R:=match v with|(v,v1,v2,v3,w)=>cond (aa (v3<(I v:Int))) (cond (aa (w.kind=2)) (ax (a_ v3 (I v)) (cond (aa (((at' .b2 v v3).name)=w.name)) (ax (a_ v3 (I v)) (kx .ret (v,(at' .b2 v v3).kind,0,v3,w))) (rec (v,v1,v2,(wr .i64 (v3+1)),w)))) (kx (.exit 0) (v,v1,v2,v3,w))) (kx (.exit 0) (v,v1,v2,v3,w))
def aeS(R:Type)(k:Nat)(rf:bt [bC,dR] [an,an]):aR R:=bs [(151,ba rf),(206,ba ag8)] [] [(4,b8 k aa4 (vf))] []
def Ez(k:Nat)(rf:bt [bC,dR] [an,an])(x:aw [bC,dR]):ae (aw [an,an]):=match x with
 |(e,ay)=>
 cond (aa (e.kind=1)) (
  J (e.v.kind,0)) (
  aI (λrec=>vf rec (λe f=>match f with|(v4,v5,v6,_,bK)=>match e with
  |.ret=>J (v5,v6)
  |.exit 0=>
   cond (aa (bK.kind=2)) (
   J (0,150)) (
   ax (a_ 0 (I bK.l)) (
    (rf ((at' .expr bK.l 0),v4)).bind λ(x,a)=>
    cond (!decide (a=0)) (
     J (0,a)) (
     let b:Int->ae (aw [an,an]):=λ(p2:Int)=>
     let c:Unit->ae (aw [an,an]):=λ(_:Unit)=>
      let j:Bool->ae (aw [an,an]):=λ(g:Bool)=>
      cond (g) (
       cond (aa (p2=(gj bK.kind).1)) (
       J ((gj bK.kind).2,0)) (
       cond (aa (p2=1)) (
        J ((gj bK.kind).2,0)) (
        J (0,151)))) (
       J (0,151))
      cond (aa (0<(gj bK.kind).1)) (
      cond (aa (x=(gj bK.kind).1)) (
       j ab) (
       j (aa (x=1)))) (
      j ai)
     cond (aa ((gj bK.kind).1=0)) (
      cond (aa (x=p2)) (
      J ((gj bK.kind).2,0)) (
      cond (aa (x=1)) (
       J ((gj bK.kind).2,0)) (
       cond (aa (p2=1)) (
       J ((gj bK.kind).2,0)) (
       c ())))) (
      c ())
     cond (aa ((I bK.l:Int)=2)) (
     ax (a_ 1 (I bK.l)) (
      (rf ((at' .expr bK.l 1),v4)).bind λ(h,d)=>
      cond (!decide (d=0)) (
       J (0,d)) (
       b h))) (
     b x))))
  |_=>aj)) k (ay,0,0,0,e))
theorem aw5(k:Nat)(rf:bt [bC,dR] [an,an])(c:aU 151 [bC,dR] [an,an] rf):aU 151 [bC,dR] [an,an] (Ez k rf):=b6 (px:=aeS _ k rf) (n:=1) Tryz.func151 rfl (λah H=>by have d:bP ah (aeS (aw [an,an]) k rf):=br H (c1 H c (c1 H apx bq)) bo bp;have a:=cd H d (b:=b0 Tryz.f151 0) (k:=k) (n:=0) (s:=aa4) (step:=vf) (λ_ _ _ (_,_,_,_,_)=>by kernel_rfl) aK;exact⟨d,(b9 aK a)⟩) λ(_,_)=>by kernel_rfl
mutual
def t_:aq->Bool|.mk k _ _ l=>aa ((I l:Int)=parts k)&&yE l
def yE:U aq->Bool|[]=>ab|x::l=>t_ x&&yE l
end
theorem Sd(e:aq):t_ e=(aa ((I e.l:Int)=parts e.kind)&&yE e.l):=by cases e;simp[ aq.l];rfl
theorem agA:∀{l:U aq}{x:aq},yE l=ab->x∈l->t_ x=ab
 |y::l,x,h,ag=>by
  simp[yE]at h;rcases hv.1 ag with rfl|ag
  .exact h.1
  .exact agA h.2 ag
def D6(e:aq)(ay:U bk):ae (Int×Int):=cond (t_ e) (J (gm e ay)) aj
def NJ:bt [bC,dR] [an,an]:=λx=>D6 x.1 x.2
variable{k:Int}
theorem aqC(h : 3<=k/\k<=5):gj k=(2,2):=by rcases(by omega:k=3\/k=4\/k=5)with rfl|rfl|rfl<;>rfl
theorem ayS(h : 6<=k/\k<=11):gj k=(0,2):=by rcases(by omega:k=6\/k=7\/k=8\/k=9\/k=10\/k=11)with rfl|rfl|rfl|rfl|rfl|rfl<;>rfl
theorem aqK(h : 12<=k/\k<=15):gj k=(3,3):=by rcases(by omega:k=12\/k=13\/k=14\/k=15)with rfl|rfl|rfl|rfl<;>rfl
variable{e:aq}
theorem ahV{a b:Int}(h : 3<=e.kind/\e.kind<=16)(g:e.kind=16->a=b):(cond (aa ((gj e.kind).1=0)) (cond (aa (a=b)) (J ((gj e.kind).2,0)) (cond (aa (a=1)) (J ((gj e.kind).2,0)) (cond (aa (b=1)) (J ((gj e.kind).2,0)) (cond (aa (0<(gj e.kind).1)) (cond (aa (a=(gj e.kind).1)) (cond ab (cond (aa (b=(gj e.kind).1)) (J ((gj e.kind).2,0)) (cond (aa (b=1)) (J ((gj e.kind).2,0)) (J (0,151)))) (J (0,151))) (cond (aa (a=1)) (cond (aa (b=(gj e.kind).1)) (J ((gj e.kind).2,0)) (cond (aa (b=1)) (J ((gj e.kind).2,0)) (J (0,151)))) (J (0,151)))) (cond ai (cond (aa (b=(gj e.kind).1)) (J ((gj e.kind).2,0)) (cond (aa (b=1)) (J ((gj e.kind).2,0)) (J (0,151)))) (J (0,151))))))) (cond (aa (0<(gj e.kind).1)) (cond (aa (a=(gj e.kind).1)) (cond ab (cond (aa (b=(gj e.kind).1)) (J ((gj e.kind).2,0)) (cond (aa (b=1)) (J ((gj e.kind).2,0)) (J (0,151)))) (J (0,151))) (cond (aa (a=1)) (cond (aa (b=(gj e.kind).1)) (J ((gj e.kind).2,0)) (cond (aa (b=1)) (J ((gj e.kind).2,0)) (J (0,151)))) (J (0,151)))) (cond ai (cond (aa (b=(gj e.kind).1)) (J ((gj e.kind).2,0)) (cond (aa (b=1)) (J ((gj e.kind).2,0)) (J (0,151)))) (J (0,151)))):ae (Int×Int))=J (pB e ay a b):=by
 have j:¬e.kind=1:=af
 have k:¬e.kind=2:=af
 simp[pB,if_neg j,if_neg k];by_cases c1:e.kind<=5
 .rw[aqC ⟨h.1,c1⟩,if_neg af,if_pos af];by_cases d:a=2<;>by_cases bI:a=1<;>by_cases i:b=2<;>by_cases f:b=1<;>simp[mG,bI,d,f,i]
 .by_cases c2:e.kind<=11
  .rw[ayS ⟨by omega,c2⟩,if_neg af,if_neg af,if_neg af];by_cases d:a=b<;>by_cases bI:a=1<;>by_cases f:b=1<;>simp[bI,d,f]
  .by_cases fZ:e.kind<=15
   .rw[aqK ⟨by omega,fZ⟩,if_neg af,if_neg af,if_pos af];by_cases d:a=3<;>by_cases bI:a=1<;>by_cases i:b=3<;>by_cases f:b=1<;>simp[mG,bI,d,f,i]
   .have c:e.kind=16:=af
    rw[if_pos c,c,g c];have l:gj 16=(0,2):=rfl;rw[l,aH (rfl:b=b)];rfl
theorem aaQ{R:Type}{kx:aX->E9->ae R}{ay:U bk}{e:aq}{a:Int->ae R}{b:ae R}(g:b1 (I ay))(m:e.kind=2)(n:∀q j,kx .ret (ay,q,0,j,e)=a q)(o:∀q r j,kx (.exit 0) (ay,q,r,j,e)=b):∀(k i:Nat) q r,i<=I ay->I ay-i<k->aI (λrec=>vf rec kx) k (ay,q,r,(i:Int),e)=if k2 (ay.drop i) e.name i<0 then b else a (at' .b2 ay (k2 (ay.drop i) e.name i)).kind
 |0,i,q,r,_,h=>by omega
 |k+1,i,q,r,bO,h=>by
  rw[c6];by_cases d:i<I ay
  .simp only[vf,cg d,cR (c:=.b2) d,c9 d g,n,(aaQ g m n o k (i+1) q r af af),da d];rw[aH (show(i:Int)<(I ay:Int) by omega),aH m];by_cases ao:ay[i].name=e.name
   .have f:∀l,k2 (ay[i]::l) e.name i=(i:Int):=λl=>by simp only[k2];rw[if_pos ao]
    rw[f,aH ao,if_neg (show ¬(i:Int)<0 by omega),cR (c:=.b2) d];rfl
   .have f:∀l,k2 (ay[i]::l) e.name i=k2 l e.name (i+1):=λl=>by simp only[k2];rw[if_neg ao]
    rw[f,aL ao];rfl
  .have f:k2 [] e.name i = -1:=rfl;simp only[vf,o];rw[aL af,gn af,f,if_pos af];rfl
theorem apy{kx:aX->E9->ae R}{b:ae R}(h:¬e.kind=2)(a:kx (.exit 0) (ay,0,0,0,e)=b)(k:Nat):aI (λrec=>vf rec kx) (k+1) (ay,0,0,0,e)=b:=by rw[c6];simp only[vf,a,aL h];cases aa ((0:Int)<(I ay:Int))<;>rfl
theorem asa(k:Nat){rf:bt [bC,dR] [an,an]}(z:b1 (I ay))(bf:I ay<k)(u:t_ e=ab)(i:∀x,x∈e.l->rf (x,ay)=J (gm x ay)):Ez k rf (e,ay)=J (gm e ay):=by
 rw[Sd,bN,fQ]at u;have v:=u.1;obtain⟨k,rfl⟩:∃j,k=j+1:=⟨k-1,by omega⟩;simp only[Ez];by_cases o:e.kind=1
 .have d:e.l=[]:=k0 (by rw[o]at v;have:parts 1=0:=rfl;omega);rw[aH o,BG,d];simp[oJ,qp,pB,if_pos o]
 .rw[aL o,bj];by_cases n:e.kind=2
  .have d:e.l=[]:=k0 (by rw[n]at v;have:parts 2=0:=rfl;omega);refine(aaQ (a:=λq=>J (q,0)) (b:=J (0,150)) z n (λ_ _=>rfl) (λq r j=>?_) (k+1) 0 0 0 (cL _) af).trans ?_
   .show cond (aa (e.kind=2)) _ _=_;rw[aH n];rfl
   .rw[BG,d];simp[oJ,qp,pB,if_neg o,if_pos n];show(if gD ay e.name<0 then J (0,150)else J ((at' .b2 ay (gD ay e.name)).kind,0))=_;by_cases c:gD ay e.name<0
    .rw[if_pos c,if_pos c]
    .rw[if_neg c,if_neg c]
  .refine apy n ?_ k;show cond (aa (e.kind=2)) _ _=_;rw[aL n];rcases EK e.kind with ⟨s,h⟩|⟨s,h⟩|⟨s,h⟩|s
   .omega
   .obtain⟨x,d⟩:∃x,e.l=[x]:=List.length_eq_one_iff.1 af;have m:=i x td;have a0:at' .expr [x] 0=x:=rfl;have i0:a_ 0 (I [x])=true:=rfl;rw[BG,d,a0,i0,m];simp only[oJ,qp];cases gm x ay with
    |mk a f=>
     show cond (!decide (f=0)) _ _=_;by_cases c:f=0
     .rw[aH c,if_pos c];show cond (aa ((I ([x]:U aq):Int)=2)) _ _=_;rw[show aa ((I ([x]:U aq):Int)=2)=ai from rfl];have w:=ahV (e:=e) (ay:=ay) (a:=a) (b:=a) af (λ_=>rfl);rw[aH (rfl:a=a)]at w;rw[@aH True _ trivial];exact w
     .exact CN
   .obtain⟨x,y,d⟩:∃x y,e.l=[x,y]:=I2 af;have m:=i x td;have t:=i y td;have a0:at' .expr [x,y] 0=x:=rfl;have i0:a_ 0 (I [x,y])=true:=rfl;have bI:at' .expr [x,y] 1=y:=rfl;have i1:a_ 1 (I [x,y])=true:=rfl;rw[BG,d,a0,i0,m,bI,i1,t];simp only[oJ,qp];cases gm x ay with
    |mk a f=>
     show cond (!decide (f=0)) _ _=_;by_cases c:f=0
     .rw[aH c,if_pos c];cases gm y ay with
      |mk b g=>
       show cond (!decide (g=0)) _ _=_;by_cases p:g=0
       .rw[aH p,if_pos p];exact ahV (e:=e) af (λ_=>by omega)
       .rw[aL p,if_neg p];rfl
     .exact CN
   .omega
theorem Xt(k:Nat):∀(n:Nat) (e:aq) (ay:U bk),b1 (I ay)->I ay<k->t_ e=ab->cm e<=n->aI (Ez k) n (e,ay)=J (gm e ay)
 |0,e,_,_,_,_,h=>by have:=l2 e;omega
 |n+1,e,ay,ck,bf,hw,h=>by
  rw[c6];refine asa k ck bf hw λx ag=>Xt k n x ay ck bf ?_ ?_
  .rw[Sd,bN]at hw;exact agA hw.2 ag
  .have:=nH ag;rw[l1]at h;omega
theorem apb:aU 151 [bC,dR] [an,an] NJ:=by refine .fin (ι:=Nat×Nat) (0,0) (F:=λn=>aI (Ez n.1) n.2) (λn=>fH.lq (av.enters_of Tryz.func151 rfl rfl) (λrf a=>aw5 n.1 rf a) n.2) λ(e,ay) r al ag=>⟨(I ay+1,cm e),?_⟩;simp only[NJ,D6]at ag;cases b:t_ e with|false=>rw[b]at ag;cases ag|true=>rw[b]at ag;exact(Xt (I ay+1) (cm e) e ay al.2.1 af b (bU _)).trans ag
theorem ar9{v:dA}(h:iQ v=ab) : 1<=v.kind:=by
 by_cases a:v.kind=1
 .omega
 by_cases b:v.kind=2
 .omega
 by_cases c:v.kind=3
 .omega
 by_cases d:v.kind=4
 .omega
 by_cases e:v.kind=5
 .omega
 simp[iQ,a,b,c,d,e]at h
theorem anQ{l:U bk}(h:¬gD l s<0):∃i:Nat,∃a:i<I l,gD l s=(i:Int)/\at' .b2 l (gD l s)=l[i]:=by
 rcases abh l s with b|⟨b,d⟩
 .omega
 .obtain⟨i,a⟩:∃i:Nat,gD l s=(i:Int):=⟨(gD l s).toNat,by omega⟩;refine⟨i,by omega,a,?_⟩;rw[a];exact cR (c:=.b2) af
theorem Q7{a b:Int}(c:e.kind=1->1<=e.v.kind)(ao:ay.all jC=ab)(h:(pB e ay a b).2=0) : 1<=(pB e ay a b).1:=by
 simp[pB]at h ⊢;split
 .rename_i d;exact c d
 split
 .split
  .grind
  .rename_i f;obtain⟨i,g,_,j⟩:=anQ f;have k:=dH.1 ao _ (hf g);simp[jC,bN]at k;simp[j];omega
 grind
theorem avI(k:lK e=0)(ao:ay.all jC=ab)(h:(gm e ay).2=0) : 1<=(gm e ay).1:=by
 obtain⟨_,j,_⟩:=AL (O'.1 k);have c:e.kind=1->1<=e.v.kind:=λm=>by simp[n3,m,bN]at j;exact ar9 (aav.1 j.1.1)
 rw[BG]at h ⊢;match d:oJ e.l ay with
 |[]=>rw[d]at h;exact Q7 c ao h
 |[(a,f)]=>
  rw[d]at h;simp[qp]at h ⊢;by_cases i:f=0
  .rw[if_pos i]at h ⊢;exact Q7 c ao h
  .grind
 |(a,f)::(b,g)::t=>
  rw[d]at h;simp[qp]at h ⊢;by_cases i:f=0
  .rw[if_pos i]at h ⊢;by_cases n:g=0
   .rw[if_pos n]at h ⊢;exact Q7 c ao h
   .grind
  .grind
theorem awW(ao:ay.all jC=ab)(h:(ia e ay).2=0) : 1<=(ia e ay).1:=by
 simp[ia]at h ⊢;by_cases a:lK e=0
 .simp[a,bj]at h ⊢;exact avI a ao h
 .simp[a]at h
theorem afX(ao:ay.all jC=ab):DV ay e=cond (aa ((ia e ay).2=0)) (cond (aa (2<(ia e ay).1)) 151 0) (ia e ay).2:=by
 simp[DV];by_cases h:(ia e ay).2=0
 .have:=awW ao h
  grind
 .simp[h]
def rI(t:b5):ae ak->U c'->Bool|_,[]=>ab|none,x::l=>mE t x&&rI t (J x.name) l|some p,x::l=>mE t x&&(hd p x.name&&rI t (J x.name) l)
theorem abW{t:b5}:∀(l:U c') (p:ak),rI t (J p) l=(l.all (mE t)&&(l.all (λy=>hd p y.name)&&gM l))
 |[],_=>rfl
 |x::l,p=>by
  rw[Bool.eq_iff_iff];simp[rI,abW l,gM,dH];constructor
  .rintro⟨c,a,d,b,e⟩;exact⟨⟨c,d⟩,⟨a,λy aE=>Sx a (b y aE)⟩,b,e⟩
  .grind
theorem auF(l:U c'):rI t aj l=(gM l&&l.all (mE t)):=by
 cases l with
 |nil=>rfl
 |cons x l=>
  rw[Bool.eq_iff_iff];simp[rI,abW l,gM,dH];constructor
  .grind
  .grind
theorem adF:∀a b:ak,Op.bytesLess a b=aa (mJ a b = -1)
 |[],[]=>rfl
 |[],_::_=>rfl
 |_::_,[]=>rfl
 |a::x,b::y=>by
  have c:=adF x y;simp only[Op.bytesLess,mJ,Lib.compareBytes]at c ⊢
  grind
theorem az8(a b:ak):Op.bytesLess a b=hd a b:=by rw[adF];exact hL.2 (by rcases sz.Mi a b with h|h|h<;>omega)
theorem ZE:∀(l:U aq) (m:Int),(∀x,x∈l->∀m,e4 x m=ab->t_ x=ab)->mj l m=ab->yE l=ab
 |[],_,_,_=>rfl
 |x::l,m,ag,h=>by simp only[mj,bN]at h;simp only[yE,ag x (.head _) m h.1,ZE l m (λy aE=>ag y (.tail _ aE)) h.2,Bool.and_self]
theorem adU:∀(n:Nat) (e:aq) (m:Int),cm e<=n->e4 e m=ab->t_ e=ab
 |0,e,_,h,_=>by have:=l2 e;omega
 |n+1,e,m,h,aF=>by obtain⟨a,_,b⟩:=AL aF;rw[Sd,aH a,jo];refine ZE e.l _ (λx ag m c=>adU n x m ?_ c) b;have:=nH ag;rw[l1]at h;omega
def ani(R:Type):aR R:=bs [(150,ba aiM),(151,ba NJ)] [] [] []
def aak(x:aw [bC,dR]):ae (aw [an,an]):=match x with|(e,ay)=>cond (!decide ((rD e)=0)) (J (0,(rD e))) ((D6 e ay).bind λ(x,a)=>J (x,a))
theorem ax0:aU 85 [bC,dR] [an,an] (aak):=b6 (px:=ani _) (n:=0) Tryz.func85 rfl (λ_ H=>⟨br H (c1 H aol (c1 H apb bq)) bo bp,aK⟩) λ(_,_)=>by kernel_rfl
def ui(e:aq)(ay:U bk):ae (Int×Int):=cond (aa (rD e=lK e)) (J (ia e ay)) aj
def IY:bt [bC,dR] [an,an]:=λx=>ui x.1 x.2
theorem aoN(e:aq):lK e=0\/lK e=2:=ako
theorem apO(h:lK e=0):D6 e ay=J (gm e ay):=by simp only[D6];rw[adU (cm e) e 30 (bU _) (O'.1 h)];rfl
theorem aeT:aU 85 [bC,dR] [an,an] IY:=.er ax0 λ(e,ay) r _ ag=>by
 simp only[IY,ui]at ag;by_cases h:rD e=lK e
 .rw[aH h]at ag;have ag:J (ia e ay)=J r:=ag;rw[<-ag];simp only[aak,h,ia];by_cases a:lK e=0
  .simp[a,apO a]
  .simp[a]
 .rw[aL h]at ag;cases ag
theorem ad9(h:cm e<=10000):rD e=lK e:=by
 have ar:=w9 (cm e) e 30 (bU _) af (bU _);have a:=O' (e:=e);rcases aoN e with b|c
 .have:=ar.1 (a.1 b);rw[b];simp only[rD];rw[aL af];rfl
 .have:¬eW e<=30:=λh=>by have:=a.2 (ar.2 h);omega
  rw[c];simp only[rD];rw[aH af];rfl
def abA:bn:=⟨133,[(1,.sl .b2 ai),(2,.sl .val ai),(7,.int .i64),(8,.sl .val ab),(9,.bool),(15,.sl .expr ai),(16,.int .i64),(17,.int .i64)],[(3,.ptr 0 0),(6,.ptr 1 0)],[(0,.one (.bm .expr)),(1,.one (.bm .val))],2,0,0,[],[]⟩
abbrev PL:=U bk×U dA×Int×U dA×Bool×U aq×Int×Int×aq×dA
def M5{R:Type}(rf:bt [bC,dR,kQ] [e6,an])(rec:PL->ae R)(kx:aX->PL->ae R)(v:PL):ae R:=match v with|(v,v1,v2,v3,v4,v5,v6,bb,w,w1)=>cond (aa (bb<v6)) (ax (a_ bb (I v5)) ((rf ((at' .expr v5 bb),v,v1)).bind λ(x,a)=>cond (!decide (a=0)) (kx .ret (v,v1,a,v3,v4,v5,v6,bb,w,(dA.mk 0 0 []))) (ax (aa (I v3+1<=bY)) (cond (v4) (rec (v,v1,v2,(v3++[x]),ab,v5,v6,(wr .i64 (bb+1)),w,w1)) (rec (v,v1,v2,(v3++[x]),aa (x.kind=1),v5,v6,(wr .i64 (bb+1)),w,w1)))))) (kx (.exit 0) (v,v1,v2,v3,v4,v5,v6,bb,w,w1))
def ae5(R:Type)(k:Nat)(rf:bt [bC,dR,kQ] [e6,an]):aR R:=bs [(93,ba rf),(154,ba RO),(156,ba aif),(159,ba aft)] [(37,jK SE)] [(4,b8 k abA (M5 rf))] []
def Oj(k:Nat)(rf:bt [bC,dR,kQ] [e6,an])(x:aw [bC,dR,kQ]):ae (aw [e6,an]):=match x with
 |(e,ay,row)=>
 aI (λrec=>M5 rf rec (λe g=>match g with|(bK,v9,d,b,c,_,_,_,a,f)=>match e with
  |.ret=>
  J (f,d)
  |.exit 0=>
  cond (aa (a.kind=1)) (
   J (a.v,0)) (
   cond (aa (a.kind=2)) (
   ax (a_ (gD bK a.name) (I v9)) (
    J ((at' .val v9 (gD bK a.name)),0))) (
   cond (aa (a.kind=16)) (
    J ((y1 c),0)) (
    let j:=λ(h:Bool)=>
    cond (h) (
     aj) (
     cond (c) (
     J ((dA.mk 1 0 []),0)) (
     cond (aa (a.kind=3)) (
      ax (a_ 0 (I b)) (
      J ((y1 (aa ((at' .val b 0).n=0))),0))) (
      cond (aa (a.kind=15)) (
      ax (a_ 0 (I b)) (
       aj)) (
      cond (aa (12<=a.kind)) (
       ax (a_ 0 (I b)) (
       ax (a_ 1 (I b)) (
        aj))) (
       ax (a_ 0 (I b)) (
       ax (a_ 1 (I b)) (
        J ((y1 (GG a.kind (DO (at' .val b 0) (at' .val b 1)))),0))))))))
    cond (aa (a.kind=4)) (
    j ab) (
    j (aa (a.kind=5))))))
  |_=>aj)) k (ay,row,0,[],ai,e.l,(I e.l:Int),0,e,(dA.mk 0 0 []))
theorem avf(k:Nat)(rf:bt [bC,dR,kQ] [e6,an])(c:aU 93 [bC,dR,kQ] [e6,an] rf):aU 93 [bC,dR,kQ] [e6,an] (Oj k rf):=b6 (px:=ae5 _ k rf) (n:=1) Tryz.func93 rfl (λah H=>by have d:bP ah (ae5 (aw [e6,an]) k rf):=br H (c1 H c (c1 H ahg (c1 H ano (c1 H auu bq)))) (bc H ah8 bo) bp;have a:=cd H d (b:=b0 Tryz.f93 0) (k:=k) (n:=0) (s:=abA) (step:=M5 rf) (λ_ _ _ (_,_,_,_,_,_,_,_,_,_)=>by kernel_rfl) aK;exact⟨d,(b9 aK a)⟩) λ(_,_,_)=>by kernel_rfl
def ajF(e:aq)(ay:U bk)(row:U dA):ae (dA×Int):=aI (Oj 9) 9 (e,ay,row)
def ah1:bt [bC,dR,kQ] [e6,an]:=λx=>ajF x.1 x.2.1 x.2.2
theorem aoZ:aU 93 [bC,dR,kQ] [e6,an] ah1:=.fin (ι:=Nat) 0 (F:=λn=>aI (Oj n) n) (λn=>fH.lq (av.enters_of Tryz.func93 rfl rfl) (λrf a=>avf n rf a) n) λ_ _ _ ag=>⟨9,ag⟩
def YX:bn:=⟨28,[(1,.sl .val ai),(4,.bool),(12,.sl .b2 ai),(13,.int .i64),(14,.int .i64)],[],[],0,0,0,[],[]⟩
abbrev TO:=U dA×Bool×U bk×Int×Int
def Py{R:Type}(rec:TO->ae R)(kx:aX->TO->ae R)(v:TO):ae R:=match v with|(v,v1,v2,v3,v4)=>cond (aa (v4<v3)) (ax (a_ v4 (I v2)) (ax (a_ v4 (I v)) (cond (!(JL (at' .val v v4) ((at' .b2 v2 v4).kind))) (kx .ret (v,ai,v2,v3,v4)) (rec (v,v1,v2,v3,(wr .i64 (v4+1))))))) (kx (.exit 0) (v,v1,v2,v3,v4))
def abL(R:Type)(k:Nat):aR R:=bs [(89,ba aht)] [] [(4,b8 k YX (Py))] []
def Y9(k:Nat)(x:aw [dR,kQ]):ae (aw [.bool]):=match x with
 |(ay,row)=>cond (!decide ((I ay:Int)=(I row:Int))) (J ai) (aI (λrec=>Py rec (λe a=>match a with|(_,v6,_,_,_)=>match e with
  |.ret=>J v6
  |.exit 0=>J ab
  |_=>aj)) k (row,ai,ay,(I ay:Int),0))
theorem amq(k:Nat):aU 34 [dR,kQ] [.bool] (Y9 k):=b6 (px:=abL _ k) (n:=1) Tryz.func34 rfl (λah H=>by have c:bP ah (abL (aw [.bool]) k):=br H (c1 H anu bq) bo bp;have a:=cd H c (b:=b0 Tryz.f34 0) (k:=k) (n:=0) (s:=YX) (step:=Py) (λ_ _ _ (_,_,_,_,_)=>by kernel_rfl) aK;exact⟨c,(b9 aK a)⟩) λ(_,_)=>by kernel_rfl
def NT(ay:U bk)(row:U dA):ae Bool:=Y9 9 (ay,row)
def Ph:bt [dR,kQ] [.bool]:=λx=>NT x.1 x.2
theorem _T:aU 34 [dR,kQ] [.bool] Ph:=.fin 0 amq λ_ _ _ ag=>⟨9,ag⟩
def W7:bn:=⟨19,[(0,.int .u64),(3,.sl .byte ab)],[],[],0,0,0,[],[]⟩
abbrev ID:=Int×U UInt8
def wk{R:Type}(rec:ID->ae R)(kx:aX->ID->ae R)(v:ID):ae R:=match v with|(v,v1)=>cond (aa (128<=v)) (ax (aa (I v1+1<=bY)) (rec ((hj .u64 v 7),(v1++[(eh ((pj .u8 (wr .u8 v) 128):Int).toNat)])))) (kx (.exit 0) (v,v1))
def aib(R:Type)(k:Nat):aR R:=bs [] [] [(2,b8 k W7 (wk))] []
def X8(k:Nat)(x:aw [.int .u64]):ae (aw [.sl .byte ab]):=match x with
 |n=>aI (λrec=>wk rec (λe a=>match a with|(v2,v3)=>match e with
  |.exit 0=>ax (aa (I v3+1<=bY)) (J (v3++[(eh ((wr .u8 v2):Int).toNat)]))
  |_=>aj)) k (n,[])
theorem aok(k:Nat):aU 51 [.int .u64] [.sl .byte ab] (X8 k):=b6 (px:=aib _ k) (n:=1) Tryz.func51 rfl (λah H=>by have c:bP ah (aib (aw [.sl .byte ab]) k):=br H bq bo bp;have a:=cd H c (b:=b0 Tryz.f51 0) (k:=k) (n:=0) (s:=W7) (step:=wk) (λ_ _ _ (_,_)=>by kernel_rfl) aK;exact⟨c,(b9 aK a)⟩) λ_=>by kernel_rfl
def Kw(n:Int):ae ak:=X8 100 n
def R3:bt [.int .u64] [.sl .byte ab]:=λx=>Kw x
theorem aid:aU 51 [.int .u64] [.sl .byte ab] R3:=.fin 0 aok λ_ _ _ ag=>⟨100,ag⟩
def aoQ(R:Type):aR R:=bs [(51,ba R3)] [] [] []
def OV(x:aw [fj]):ae (aw [.sl .byte ab]):=match x with|s=>(Kw (wr .u64 (I s:Int))).bind λx=>ax (aa (I x+I s<=bY)) (J (x++s))
theorem auC:aU 52 [fj] [.sl .byte ab] (OV):=b6 (px:=aoQ _) (n:=0) Tryz.func52 rfl (λ_ H=>⟨br H (c1 H aid bq) bo bp,aK⟩) λ_=>by kernel_rfl
def JP(s:ak):ae ak:=OV s
def ag3:bt [fj] [.sl .byte ab]:=λx=>JP x
theorem aqN:aU 52 [fj] [.sl .byte ab] ag3:=.er auC λ_ _ _ ag=>ag
def ab5:bn:=⟨22,[(3,.sl .byte ab),(10,.sl .bytes ai),(11,.int .i64),(12,.int .i64)],[],[],0,0,0,[],[]⟩
abbrev Hb:=U UInt8×U (U UInt8)×Int×Int
def B4{R:Type}(rec:Hb->ae R)(kx:aX->Hb->ae R)(v:Hb):ae R:=match v with|(v,v1,v2,v3)=>cond (aa (v3<v2)) (ax (a_ v3 (I v1)) ((JP (at' .bytes v1 v3)).bind λa=>ax (aa (I v+I a<=bY)) (rec ((v++a),v1,v2,(wr .i64 (v3+1)))))) (kx (.exit 0) (v,v1,v2,v3))
def aex(R:Type)(k:Nat):aR R:=bs [(51,ba R3),(52,ba ag3)] [] [(3,b8 k ab5 (B4))] []
def Oo(k:Nat)(x:aw [.sl .bytes ai]):ae (aw [.sl .byte ab]):=match x with
 |l=>(Kw (wr .u64 (I l:Int))).bind λx=>aI (λrec=>B4 rec (λe a=>match a with|(v4,_,_,_)=>match e with
  |.exit 0=>J v4
  |_=>aj)) k (x,l,(I l:Int),0)
theorem aw2(k:Nat):aU 20 [.sl .bytes ai] [.sl .byte ab] (Oo k):=b6 (px:=aex _ k) (n:=1) Tryz.func20 rfl (λah H=>by have c:bP ah (aex (aw [.sl .byte ab]) k):=br H (c1 H aid (c1 H aqN bq)) bo bp;have a:=cd H c (b:=b0 Tryz.f20 0) (k:=k) (n:=0) (s:=ab5) (step:=B4) (λ_ _ _ (_,_,_,_)=>by kernel_rfl) aK;exact⟨c,(b9 aK a)⟩) λ_=>by kernel_rfl
def D3(l:U ak):ae ak:=Oo 5000 l
def aho:bt [.sl .bytes ai] [.sl .byte ab]:=λx=>D3 x
theorem ao8:aU 20 [.sl .bytes ai] [.sl .byte ab] aho:=.fin 0 aw2 λ_ _ _ ag=>⟨5000,ag⟩
def Wp:bn:=⟨59,[(1,.int .i64),(4,.int .u64),(5,.int .i64),(6,.int .i64),(7,.int .u64),(8,.int .i64),(21,.sl .byte ai),(22,.int .i64),(23,.int .i64)],[],[],0,0,0,[],[]⟩
abbrev Fv:=Int×Int×Int×Int×Int×Int×U UInt8×Int×Int
def qO{R:Type}(rec:Fv->ae R)(kx:aX->Fv->ae R)(v:Fv):ae R:=match v with
 |(v,v1,v2,v3,v4,v5,v6,bb,bK)=>
 cond (aa (bK<bb)) (
  ax (a_ bK (I v6)) (
  let a:=λ(_:Unit)=>
   ax (aa (0<=(wr .i64 (7*bK)))) (
   cond (aa (((at' .byte v6 bK).toNat:Int)<128)) (
    kx .ret (v,(pj .u64 v4 (sK .u64 (wr .u64 (ib .u8 ((at' .byte v6 bK).toNat:Int) 127)) (wr .i64 (7*bK)))),(wr .i64 ((wr .i64 (v+bK))+1)),0,(pj .u64 v4 (sK .u64 (wr .u64 (ib .u8 ((at' .byte v6 bK).toNat:Int) 127)) (wr .i64 (7*bK)))),v5,v6,bb,bK)) (
    rec (v,v1,v2,v3,(pj .u64 v4 (sK .u64 (wr .u64 (ib .u8 ((at' .byte v6 bK).toNat:Int) 127)) (wr .i64 (7*bK)))),v5,v6,bb,(wr .i64 (bK+1)))))
  let j:=λ(ki:Bool)=>
   cond (ki) (
   kx (.exit 0) (v,v1,v2,v3,v4,11,v6,bb,bK)) (
   cond (aa (((at' .byte v6 bK).toNat:Int)=0)) (
    cond (aa (0<bK)) (
    kx (.exit 0) (v,v1,v2,v3,v4,11,v6,bb,bK)) (
    a ())) (
    a ()))
  cond (aa (bK=9)) (
   j (aa (1<((at' .byte v6 bK).toNat:Int)))) (
   j ai))) (
  kx (.exit 0) (v,v1,v2,v3,v4,v5,v6,bb,bK))
def ahF(R:Type)(k:Nat):aR R:=bs [] [] [(6,b8 k Wp (qO))] []
def Pv(k:Nat)(x:aw [fj,an]):ae (aw [.int .u64,an,an]):=match x with
 |(b,p)=>cond (aa (p<0)) (J (0,0,2)) (cond (aa ((I b:Int)<p)) (J (0,0,2)) (ax (dP p (I b) (I b)) (aI (λrec=>qO rec (λe g=>match g with|(_,a,c,d,_,f,_,_,_)=>match e with
   |.ret=>J (a,c,d)
   |.exit 0=>J (0,0,f)
   |_=>aj)) k (p,0,0,0,0,10,(b.drop (p:Int).toNat),(I (b.drop (p:Int).toNat):Int),0))))
theorem aqi(k:Nat):aU 64 [fj,an] [.int .u64,an,an] (Pv k):=b6 (px:=ahF _ k) (n:=1) Tryz.func64 rfl (λah H=>by have c:bP ah (ahF (aw [.int .u64,an,an]) k):=br H bq bo bp;have a:=cd H c (b:=b0 Tryz.f64 0) (k:=k) (n:=0) (s:=Wp) (step:=qO) (λ_ _ _ (_,_,_,_,_,_,_,_,_)=>by kernel_rfl) aK;exact⟨c,(b9 aK a)⟩) λ(_,_)=>by kernel_rfl
def sN(b:ak)(p:Int):ae (Int×Int×Int):=Pv 100 (b,p)
def RP:bt [fj,an] [.int .u64,an,an]:=λx=>sN x.1 x.2
theorem aic:aU 64 [fj,an] [.int .u64,an,an] RP:=.fin 0 aqi λ_ _ _ ag=>⟨100,ag⟩
def anE(R:Type):aR R:=bs [(64,ba RP)] [] [] []
def Lz(x:aw [fj,an]):ae (aw [.sl .byte ab,an,an]):=match x with|(b,p)=>(sN b p).bind λ(x,a,c)=>cond (!decide (c=0)) (J ([],0,c)) (cond (aa (1048576<x)) (J ([],0,3)) (cond (aa ((wr .u64 (wr .i64 ((I b:Int)-a)))<x)) (J ([],0,10)) (ax (dP a (wr .i64 (a+(wr .i64 x))) (I b)) (ax (aa (0+I (cut b a (wr .i64 (a+(wr .i64 x))))<=bY)) (J (([]++(cut b a (wr .i64 (a+(wr .i64 x))))),(wr .i64 (a+(wr .i64 x))),0))))))
theorem avQ:aU 65 [fj,an] [.sl .byte ab,an,an] (Lz):=b6 (px:=anE _) (n:=0) Tryz.func65 rfl (λ_ H=>⟨br H (c1 H aic bq) bo bp,aK⟩) λ(_,_)=>by kernel_rfl
def yW(b:ak)(p:Int):ae (ak×Int×Int):=Lz (b,p)
def aiA:bt [fj,an] [.sl .byte ab,an,an]:=λx=>yW x.1 x.2
theorem ayb:aU 65 [fj,an] [.sl .byte ab,an,an] aiA:=.er avQ λ_ _ _ ag=>ag
def _I:bn:=⟨44,[(0,.sl .byte ai),(2,.sl .bytes ab),(3,.int .i64),(4,.int .u64),(5,.int .i64),(7,.sl .bytes ab)],[],[],0,0,0,[],[]⟩
abbrev LM:=U UInt8×U (U UInt8)×Int×Int×Int×U (U UInt8)
def vb{R:Type}(rec:LM->ae R)(kx:aX->LM->ae R)(v:LM):ae R:=match v with|(v,v1,v2,v3,v4,v5)=>cond (aa (0<v3)) ((yW v v4).bind λ(b,c,a)=>cond (!decide (a=0)) (kx .ret (v,[],a,v3,v4,v5)) (ax (aa (I v5+1<=bY)) (rec (v,v1,v2,(wr .u64 (v3-1)),c,(v5++[b]))))) (kx (.exit 0) (v,v1,v2,v3,v4,v5))
def ab2(R:Type)(k:Nat):aR R:=bs [(64,ba RP),(65,ba aiA)] [] [(5,b8 k _I (vb))] []
def K4(k:Nat)(x:aw [fj]):ae (aw [.sl .bytes ab,an]):=match x with
 |b=>(sN b 0).bind λ(x,f,d)=>cond (!decide (d=0)) (J ([],d)) (aI (λrec=>vb rec (λe g=>match g with|(v6,bb,bK,_,a,c)=>match e with
   |.ret=>J (bb,bK)
   |.exit 0=>cond (aa (a<(I v6:Int))) (J ([],11)) (J (c,0))
   |_=>aj)) k (b,[],0,x,f,[]))
theorem asr(k:Nat):aU 25 [fj] [.sl .bytes ab,an] (K4 k):=b6 (px:=ab2 _ k) (n:=1) Tryz.func25 rfl (λah H=>by have c:bP ah (ab2 (aw [.sl .bytes ab,an]) k):=br H (c1 H aic (c1 H ayb bq)) bo bp;have a:=cd H c (b:=b0 Tryz.f25 0) (k:=k) (n:=0) (s:=_I) (step:=vb) (λ_ _ _ (_,_,_,_,_,_)=>by kernel_rfl) aK;exact⟨c,(b9 aK a)⟩) λ_=>by kernel_rfl
def wv(b:ak):ae (U ak×Int):=K4 5000 b
def aey:bt [fj] [.sl .bytes ab,an]:=λx=>wv x
theorem avD:aU 25 [fj] [.sl .bytes ab,an] aey:=.fin 0 asr λ_ _ _ ag=>⟨5000,ag⟩
def aqO(R:Type):aR R:=bs [(91,ba NS),(34,ba Ph),(92,ba NN),(93,ba ah1)] [] [] []
def aal(x:aw [bC,dR,kQ]):ae (aw [e6,an]):=match x with|(e,ay,row)=>cond (!decide ((lK e)=0)) (J ((dA.mk 0 0 []),2)) ((NT ay row).bind λx=>cond (!x) (J ((dA.mk 0 0 []),2)) (cond (!decide ((gm e ay).2=0)) (J ((dA.mk 0 0 []),(gm e ay).2)) ((ajF e ay row).bind λ(a,b)=>J (a,b))))
theorem avk:aU 36 [bC,dR,kQ] [e6,an] (aal):=b6 (px:=aqO _) (n:=0) Tryz.func36 rfl (λ_ H=>⟨br H (c1 H aeF (c1 H _T (c1 H afZ (c1 H aoZ bq)))) bo bp,aK⟩) λ(_,_,_)=>by kernel_rfl
def ajv(e:aq)(ay:U bk)(row:U dA):ae (dA×Int):=aal (e,ay,row)
def agK:bt [bC,dR,kQ] [e6,an]:=λx=>ajv x.1 x.2.1 x.2.2
theorem aqd:aU 36 [bC,dR,kQ] [e6,an] agK:=.er avk λ_ _ _ ag=>ag
def abm:bn:=⟨73,[(1,.sl .val ai),(4,.int .i64),(49,.sl .expr ai),(50,.int .i64),(51,.int .i64)],[(2,.ptr 0 0)],[(0,.one (.bm .eT))],1,0,0,[],[]⟩
abbrev PZ:=U dA×Int×U aq×Int×Int×b5
def Ng{R:Type}(rec:PZ->ae R)(kx:aX->PZ->ae R)(v:PZ):ae R:=match v with|(c,e,b,d,a,b4)=>cond (aa (a<d)) (ax (a_ a (I b)) ((ajv (at' .expr b a) b4.ay c).bind λ(g,f)=>cond (!decide (f=0)) (kx .ret (c,f,b,d,a,b4)) (cond (aa ((DO g (dA.mk 2 0 []))=0)) (kx .ret (c,162,b,d,a,b4)) (rec (c,e,b,d,(wr .i64 (a+1)),b4))))) (kx (.exit 2) (c,e,b,d,a,b4))
def _X:bn:=⟨19,[(0,.sl .str ai),(1,.str),(4,.int .i64),(7,.int .i64),(8,.int .i64)],[],[(0,.one (.bm .eT))],80,80,400,[],[]⟩
abbrev PM:=U ak×ak×Int×Int×Int×b5
def MN{R:Type}(rec:PM->ae R)(kx:aX->PM->ae R)(v:PM):ae R:=match v with|(v5,v6,bb,bK,v9,w1)=>cond (aa (v9<bK)) (ax (a_ v9 (I v5)) (cond (aa (v6=(at' .str v5 v9))) (kx .ret (v5,v6,v9,bK,v9,w1)) (rec (v5,v6,bb,bK,(wr .i64 (v9+1)),w1)))) (kx (.exit 0) (v5,v6,bb,bK,v9,w1))
def abQ:bn:=⟨73,[(1,.sl .val ai),(4,.int .i64),(23,.sl .b2 ai),(24,.int .i64),(25,.int .i64)],[(2,.ptr 0 0)],[(0,.one (.bm .eT))],1,0,0,[],[]⟩
abbrev PH:=U dA×Int×U bk×Int×Int×b5
def Na{R:Type}(k:Nat)(rec:PH->ae R)(kx:aX->PH->ae R)(v:PH):ae R:=match v with
 |(v,v1,v2,v3,v4,w)=>cond (aa (v4<v3)) (ax (a_ v4 (I v2)) (ax (a_ v4 (I v)) (cond (aa ((at' .val v v4).kind=1)) (cond ((at' .b2 v2 v4).h2) (kx .ret (v,161,v2,v3,v4,w)) (aI (λc=>MN c (λe d=>match d with|(_,_,b,_,_,a)=>match e with
    |.ret=>cond (aa (0<=b)) (kx .ret (v,161,v2,v3,v4,a)) (rec (v,v1,v2,v3,(wr .i64 (v4+1)),a))
    |.exit 0=>rec (v,v1,v2,v3,(wr .i64 (v4+1)),a)
    |_=>aj)) k (w.key,(at' .b2 v2 v4).name,0,(I w.key:Int),0,w))) (rec (v,v1,v2,v3,(wr .i64 (v4+1)),w))))) (kx (.exit 0) (v,v1,v2,v3,v4,w))
def Zc(R:Type)(k:Nat):aR R:=bs [] [] [(2,b8 k _X (MN))] []
noncomputable def _0(R:Type)(k:Nat):aR R:=bs [(90,ey 80 400 (Zc R k) Tryz.f90)] [] [] []
noncomputable def aec(R:Type)(k:Nat):aR R:=bs [(16,ba Fk),(34,ba Ph),(36,ba agK),(37,ba SE),(35,ey 40 200 (_0 R k) Tryz.f35)] [] [(7,b8 k abQ (Na k)),(13,b8 k abm (Ng))] []
def _W(k:Nat)(x:aw [cC,kQ]):ae (aw [an]):=match x with
 |(t,row)=>(vr t).bind λx=>cond (!decide (x=0)) (J x) ((NT t.ay row).bind λg=>cond (!g) (J 151) (aI (λrec=>Na k rec (λe f=>match f with|(c,b,_,_,_,a)=>match e with
    |.ret=>J b
    |.exit 0=>aI (λrec=>Ng rec (λe f=>match f with|(_,d,_,_,_,_)=>match e with
     |.ret=>J d
     |.exit 2=>J 0
     |_=>aj)) k (c,b,a.ie,(I a.ie:Int),0,a)
    |_=>aj)) k (row,0,t.ay,(I t.ay:Int),0,t)))
theorem awZ(k:Nat):aU 15 [cC,kQ] [an] (_W k):=b6 (px:=aec _ k) (n:=2) Tryz.func15 rfl (λah H=>by have f:bP ah (Zc (aw [an]) k):=br H bq bo bp;have a:=cd H f (b:=b0 Tryz.f90 0) (k:=k) (n:=0) (s:=_X) (step:=MN) (λ_ _ _ (_,_,_,_,_,_)=>by kernel_rfl) aK;have g:bP ah (_0 (aw [an]) k):=br H (et (eS H f Tryz.func90 rfl (n:=1) (b9 aK a)) bq) bo bp;have e:bP ah (aec (aw [an]) k):=br H (c1 H Pl (c1 H _T (c1 H aqd (c1 H ah8 (et (eS H g Tryz.func35 rfl (n:=0) (aK)) bq))))) bo bp;have c:=cd H e (b:=b0 Tryz.f15 0) (k:=k) (n:=0) (s:=abQ) (step:=Na k) (λ_ _ _ (_,_,_,_,_,_)=>by kernel_rfl) aK;have d:=cd H e (b:=b0 Tryz.f15 1) (k:=k) (n:=0) (s:=abm) (step:=Ng) (λ_ _ _ (_,_,_,_,_,_)=>by kernel_rfl) aK;exact⟨e,(b9 (b9 aK c) d)⟩) λ(_,_)=>by kernel_rfl
def J'(t:b5)(row:U dA):ae Int:=_W 5000 (t,row)
def agq:bt [cC,kQ] [an]:=λx=>J' x.1 x.2
theorem axV:aU 15 [cC,kQ] [an] agq:=.fin 0 awZ λ_ _ _ ag=>⟨5000,ag⟩
def WY:bn:=⟨48,[(7,.sl .bytes ab),(27,.sl .idx ai),(28,.int .i64),(29,.int .i64)],[(1,.ptr 0 0)],[(0,.one (.bm .eT))],1,0,0,[],[]⟩
abbrev Ir:=U (U UInt8)×U c'×Int×Int×b5
def zO{R:Type}(rec:Ir->ae R)(kx:aX->Ir->ae R)(v:Ir):ae R:=match v with|(v,v1,v2,v3,w)=>cond (aa (v3<v2)) (ax (a_ v3 (I v1)) ((tD (dG w (at' .idx v1 v3))).bind λ(a,_)=>ax (aa (I a<=bY)) (ax (aa (I v+1<=bY)) (rec ((v++[a]),v1,v2,(wr .i64 (v3+1)),w))))) (kx (.exit 0) (v,v1,v2,v3,w))
def ahs(R:Type)(k:Nat):aR R:=bs [(16,ba Fk),(18,ba Nz),(17,ba afy),(19,ba Rf),(20,ba aho)] [] [(7,b8 k WY (zO))] []
def HE(k:Nat)(x:aw [cC]):ae (aw [.sl .byte ab,an]):=match x with
 |t=>(vr t).bind λx=>cond (!decide (x=0)) (J ([],x)) ((tD (fm t)).bind λ(a,_)=>ax (aa (I a<=bY)) (aI (λrec=>zO rec (λe b=>match b with|(v4,_,_,_,_)=>match e with
    |.exit 0=>(D3 v4).bind λc=>J (c,0)
    |_=>aj)) k ([a],t.idx,(I t.idx:Int),0,t)))
theorem aoI(k:Nat):aU 6 [cC] [.sl .byte ab,an] (HE k):=b6 (px:=ahs _ k) (n:=1) Tryz.func6 rfl (λah H=>by have c:bP ah (ahs (aw [.sl .byte ab,an]) k):=br H (c1 H Pl (c1 H afc (c1 H av8 (c1 H V' (c1 H ao8 bq))))) bo bp;have a:=cd H c (b:=b0 Tryz.f6 0) (k:=k) (n:=0) (s:=WY) (step:=zO) (λ_ _ _ (_,_,_,_,_)=>by kernel_rfl) aK;exact⟨c,(b9 aK a)⟩) λ_=>by kernel_rfl
def py(t:b5):ae (ak×Int):=HE 5000 t
def GV:bt [cC] [.sl .byte ab,an]:=λx=>py x
theorem Nq:aU 6 [cC] [.sl .byte ab,an] GV:=.fin 0 aoI λ_ _ _ ag=>⟨5000,ag⟩
def Xv:bn:=⟨77,[(0,.sl .byte ai),(3,.int .i64),(23,.sl .bytes ab),(24,.int .i64),(25,.int .i64)],[(2,.ptr 0 0),(6,.ptr 1 0)],[(0,.one (.bm .eT)),(1,.one (.bm .eT))],2,0,0,[],[]⟩
abbrev H8:=U UInt8×Int×U (U UInt8)×Int×Int×b5×b5
def qP{R:Type}(rec:H8->ae R)(kx:aX->H8->ae R)(v:H8):ae R:=match v with
 |(v,v1,v2,v3,v4,w,w1)=>
 cond (aa (v4<v3)) (
  ax (a_ v4 (I v2)) (
  (rr (at' .bytes v2 v4)).bind λ(b,_,a)=>
   let j:=λ(p1:Bool)=>
   cond (p1) (
    (ur b).bind λ(c,e)=>
    cond (!decide (e=0)) (
     kx .ret (v,11,v2,v3,v4,(b5.mk [] [] [] [] []),c)) (
     rec (v,v1,v2,v3,(wr .i64 (v4+1)),w,c))) (
    cond (aa (a=0)) (
    (rA w1 b).bind λ(d,f)=>
     cond (!decide (f=0)) (
     kx .ret (v,11,v2,v3,v4,(b5.mk [] [] [] [] []),d)) (
     rec (v,v1,v2,v3,(wr .i64 (v4+1)),w,d))) (
    cond (!decide (a=0)) (
     kx .ret (v,11,v2,v3,v4,(b5.mk [] [] [] [] []),w1)) (
     rec (v,v1,v2,v3,(wr .i64 (v4+1)),w,w1))))
   cond (aa (v4=0)) (
   j (aa (a=0))) (
   j ai))) (
  kx (.exit 0) (v,v1,v2,v3,v4,w,w1))
def agJ(R:Type)(k:Nat):aR R:=bs [(25,ba aey),(26,ba aiP),(27,ba JE),(28,ba Jb),(6,ba GV)] [] [(6,b8 k Xv (qP))] []
def Hm(k:Nat)(x:aw [fj]):ae (aw [cC,an]):=match x with
 |b=>(wv b).bind λ(x,f)=>cond (!decide (f=0)) (J ((b5.mk [] [] [] [] []),11)) (aI (λrec=>qP rec (λe g=>match g with|(v5,v6,_,_,_,c,a)=>match e with
   |.ret=>J (c,v6)
   |.exit 0=>(py a).bind λ(h,d)=>cond (!decide (d=0)) (J ((b5.mk [] [] [] [] []),11)) (cond (!decide (h=v5)) (J ((b5.mk [] [] [] [] []),11)) (J (a,0)))
   |_=>aj)) k (b,0,x,(I x:Int),0,(b5.mk [] [] [] [] []),(b5.mk [] [] [] [] [])))
theorem ane(k:Nat):aU 8 [fj] [cC,an] (Hm k):=b6 (px:=agJ _ k) (n:=1) Tryz.func8 rfl (λah H=>by have c:bP ah (agJ (aw [cC,an]) k):=br H (c1 H avD (c1 H anZ (c1 H afE (c1 H afD (c1 H Nq bq))))) bo bp;have a:=cd H c (b:=b0 Tryz.f8 0) (k:=k) (n:=0) (s:=Xv) (step:=qP) (λ_ _ _ (_,_,_,_,_,_,_)=>by kernel_rfl) aK;exact⟨c,(b9 aK a)⟩) λ_=>by kernel_rfl
def uJ(b:ak):ae (b5×Int):=Hm 5000 b
def SJ:bt [fj] [cC,an]:=λx=>uJ x
theorem ag7:aU 8 [fj] [cC,an] SJ:=.fin 0 ane λ_ _ _ ag=>⟨5000,ag⟩
def fu:Nat->Nat->ak|0,n=>[eh n]|k+1,n=>if n<128 then [eh n]else eh (n % 128+128)::fu k (n / 128)
theorem tm:∀k n,1<=I (fu k n)/\I (fu k n)<=k+1
 |0,n=>by simp[fu]
 |k+1,n=>by
  have:=tm k (n / 128);simp[fu]
  grind
theorem azx:∀m:Nat,m<256->eh (pj .u8 ((m:Nat):Int) 128).toNat=eh (m % 128+128):=pw
theorem J4(n:Nat):wr .u8 (n:Int)=((n % 256:Nat):Int):=RL
theorem l6{n:Nat}(h:n<18446744073709551616):wr .u64 (n:Int)=(n:Int):=by simp[wr,df.wrap,kp,lu];omega
theorem aCH(n:Nat):hj .u64 (n:Int) 7=((n / 128:Nat):Int):=by
 simp only[hj];rw[show(2 ^ min (7:Int).toNat df.u64.bits:Int)=128 from by decide]
 grind
theorem VU{kx:aX->ID->ae ak}(ag:∀n acc,kx (.exit 0) (n,acc)=ax (aa (I acc+1<=bY)) (J (acc++[eh (wr .u8 n).toNat]))):∀(k m n:Nat) (acc:ak),n<128 ^ (k+1)->k<m->I acc+k<=1000->aI (λrec=>wk rec kx) m ((n:Int),acc)=J (acc++fu k n)
 |k,0,_,_,_,h,_=>by omega
 |k,m+1,n,acc,ck,hm,c5=>by
  have c1:aa (I acc+1<=bY)=true:=aH jf;have low:n<128->aI (λrec=>wk rec kx) (m+1) ((n:Int),acc)=J (acc++[eh n]):=λh=>by simp only[aI,wk,aL (show ¬(128:Int)<=(n:Int) by omega),bj,ag,c1,ax,bd,J4,Int.toNat_natCast];rw[Nat.mod_eq_of_lt af]
  cases k with
  |zero=>exact low (by simpa using ck)
  |succ k=>
   simp only[fu];split
   .rename_i h;exact low h
   .rename_i h;have a:=VU ag k m (n / 128) (acc++[eh (n % 128+128)]) (Nat.div_lt_of_lt_mul (by rw[Nat.pow_succ]at ck;omega)) af hF;have e:eh (pj .u8 (wr .u8 (n:Int)) 128).toNat=eh (n % 128+128):=by rw[J4,azx _ (Nat.mod_lt _ af)];congr 1;omega
    simp only[aI,wk,aH (show(128:Int)<=(n:Int) by omega),c1,e,aCH];rw[<-List.append_cons]at a;exact a
theorem ah3{n:Nat}(h:n<128 ^ 6):Kw (n:Int)=J (fu 5 n):=by
 have:=VU (kx:=λe a=>match a with|(v2,v3)=>match e with
  |.exit 0=>ax (aa (I v3+1<=bY)) (J (v3++[eh (wr .u8 v2).toNat]))
  |_=>aj) (λ_ _=>rfl) 5 100 n [] h af (by simp)
 exact this
theorem aoz(h:I s<=274877906900):JP s=J (fu 5 (I s)++s):=by have e:wr .u64 (I s:Int)=(I s:Int):=l6 af;have:=tm 5 (I s);simp[JP,OV,e,ah3 (show I s<128 ^ 6 by omega)];rw[aH jf];rfl
def hy:U ak->ak|[]=>[]|s::l=>(fu 5 (I s)++s)++hy l
theorem as4{l:U ak}{kx:aX->Hb->ae ak}(d:b1 (I l))(ag:∀acc,kx (.exit 0) (acc,l,(I l:Int),(I l:Int))=J acc)(k:Nat)(g:I l<k)(acc:ak)(e:I acc+I (hy l)<=274877906900) :
  aI (λrec=>B4 rec kx) k (acc,l,(I l:Int),0)=J (acc++hy l):=by
 refine(lB (I l) (λi acc=>(acc,l,(I l:Int),(i:Int))) (λi a=>I a+I (hy (l.drop i))<=274877906900) (λi a=>J (a++hy (l.drop i))) (λi b a al rec f=>?_) (λa _ rec=>?_) k 0 acc (cL _) af (by rw[iW];exact e)).trans iP
 .rw[da b]at al ⊢;simp[hy]at al ⊢;simp only[B4,ea b,cg b,ax,cR (c:=.bytes) b];rw[aoz af,bA,aH jf,bd,c9 b d,f _ d'];simp
 .simp only[B4,ag];simp[hy]
def lJ(l:U ak):ak:=fu 5 (I l)++hy l
theorem aqw{l:U ak}(a:I l<5000)(b:I (hy l)<=274877906000):D3 l=J (lJ l):=by have:=tm 5 (I l);simp[D3,Oo];rw[l6 af,ah3 af,bA];exact as4 iC (λ_=>rfl) 5000 a _ af
def Vy:bn:=⟨77,[(0,.sl .byte ai),(1,.int .i64),(4,.int .u64),(5,.int .i64),(6,.int .i64),(7,.int .u64),(8,.int .u64),(9,.int .i64)],[],[],0,0,0,[],[]⟩
abbrev FI:=U UInt8×Int×Int×Int×Int×Int×Int×Int
def qR{R:Type}(rec:FI->ae R)(kx:aX->FI->ae R)(v:FI):ae R:=match v with
 |(v,v1,v2,v3,v4,v5,v6,bb)=>
 cond (aa (bb<(I v:Int))) (
  ax (a_ bb (I v)) (
  let a:=λ(_:Unit)=>
   ax (a_ bb (I v)) (
   cond (aa (((at' .byte v bb).toNat:Int)<128)) (
    kx .ret (v,v1,(wr .u64 (v5+(wr .u64 ((wr .u64 (gZ ((at' .byte v bb).toNat:Int) 128))*v6)))),(wr .i64 (bb+1)),0,(wr .u64 (v5+(wr .u64 ((wr .u64 (gZ ((at' .byte v bb).toNat:Int) 128))*v6)))),(wr .u64 (v6*128)),bb)) (
    rec (v,v1,v2,v3,v4,(wr .u64 (v5+(wr .u64 ((wr .u64 (gZ ((at' .byte v bb).toNat:Int) 128))*v6)))),(wr .u64 (v6*128)),(wr .i64 (bb+1)))))
  let b:=λ(p3:Bool)=>
   let j:=λ(ki:Bool)=>
   cond (ki) (
    kx .ret (v,v1,0,0,11,v5,v6,bb)) (
    cond (aa (v1<bb)) (
    ax (a_ bb (I v)) (
     cond (aa (((at' .byte v bb).toNat:Int)=0)) (
     kx .ret (v,v1,0,0,11,v5,v6,bb)) (
     a ()))) (
    a ()))
   cond (p3) (
   ax (a_ bb (I v)) (
    j (!decide (((at' .byte v bb).toNat:Int)=1)))) (
   j ai)
  cond (aa ((wr .i64 (bb-v1))=9)) (
   ax (a_ bb (I v)) (
   b (!decide (((at' .byte v bb).toNat:Int)=0)))) (
   b ai))) (
  kx (.exit 0) (v,v1,v2,v3,v4,v5,v6,bb))
def agP(R:Type)(k:Nat):aR R:=bs [] [] [(6,b8 k Vy (qR))] []
def PF(k:Nat)(x:aw [fj,an]):ae (aw [.int .u64,an,an]):=match x with
 |(b,p)=>cond (aa (p<0)) (J (0,0,2)) (cond (aa ((I b:Int)<p)) (J (0,0,2)) (aI (λrec=>qR rec (λe f=>match f with|(_,_,a,c,d,_,_,_)=>match e with
   |.ret=>J (a,c,d)
   |.exit 0=>J (0,0,10)
   |_=>aj)) k (b,p,0,0,0,0,1,p)))
theorem an2(k:Nat):aU 78 [fj,an] [.int .u64,an,an] (PF k):=b6 (px:=agP _ k) (n:=1) Tryz.func78 rfl (λah H=>by have c:bP ah (agP (aw [.int .u64,an,an]) k):=br H bq bo bp;have a:=cd H c (b:=b0 Tryz.f78 0) (k:=k) (n:=0) (s:=Vy) (step:=qR) (λ_ _ _ (_,_,_,_,_,_,_,_)=>by kernel_rfl) aK;exact⟨c,(b9 aK a)⟩) λ(_,_)=>by kernel_rfl
def sT(b:ak)(p:Int):ae (Int×Int×Int):=PF 10000 (b,p)
def RV:bt [fj,an] [.int .u64,an,an]:=λx=>sT x.1 x.2
theorem agh:aU 78 [fj,an] [.int .u64,an,an] RV:=.fin 0 an2 λ_ _ _ ag=>⟨10000,ag⟩
def anC(R:Type):aR R:=bs [(78,ba RV)] [] [] []
def LH(x:aw [fj,an]):ae (aw [.sl .byte ab,an,an]):=match x with|(b,p)=>(sT b p).bind λ(x,a,c)=>cond (!decide (c=0)) (J ([],0,c)) (cond (aa (1048576<x)) (J ([],0,3)) (cond (aa ((I b:Int)<(wr .i64 (a+(wr .i64 x))))) (J ([],0,10)) (ax (dP a (wr .i64 (a+(wr .i64 x))) (I b)) (ax (aa (0+I (cut b a (wr .i64 (a+(wr .i64 x))))<=bY)) (J (([]++(cut b a (wr .i64 (a+(wr .i64 x))))),(wr .i64 (a+(wr .i64 x))),0))))))
theorem auJ:aU 79 [fj,an] [.sl .byte ab,an,an] (LH):=b6 (px:=anC _) (n:=0) Tryz.func79 rfl (λ_ H=>⟨br H (c1 H agh bq) bo bp,aK⟩) λ(_,_)=>by kernel_rfl
def y4(b:ak)(p:Int):ae (ak×Int×Int):=LH (b,p)
def ahw:bt [fj,an] [.sl .byte ab,an,an]:=λx=>y4 x.1 x.2
theorem aoa:aU 79 [fj,an] [.sl .byte ab,an,an] ahw:=.er auJ λ_ _ _ ag=>ag
def ZF:bn:=⟨45,[(0,.sl .byte ai),(2,.sl .bytes ab),(3,.int .i64),(4,.int .u64),(5,.int .i64),(7,.sl .bytes ab)],[],[],0,0,0,[],[]⟩
abbrev Lo:=U UInt8×U (U UInt8)×Int×Int×Int×U (U UInt8)
def u_{R:Type}(rec:Lo->ae R)(kx:aX->Lo->ae R)(v:Lo):ae R:=match v with|(v,v1,v2,v3,v4,v5)=>cond (aa ((wr .u64 (I v5:Int))<v3)) ((y4 v v4).bind λ(b,c,a)=>cond (!decide (a=0)) (kx .ret (v,[],a,v3,v4,v5)) (ax (aa (I v5+1<=bY)) (rec (v,v1,v2,v3,c,(v5++[b]))))) (kx (.exit 0) (v,v1,v2,v3,v4,v5))
def WC(R:Type)(k:Nat):aR R:=bs [(78,ba RV),(79,ba ahw)] [] [(5,b8 k ZF (u_))] []
def K2(k:Nat)(x:aw [fj]):ae (aw [.sl .bytes ab,an]):=match x with
 |b=>(sT b 0).bind λ(x,f,d)=>cond (!decide (d=0)) (J ([],d)) (aI (λrec=>u_ rec (λe g=>match g with|(v6,bb,bK,_,a,c)=>match e with
   |.ret=>J (bb,bK)
   |.exit 0=>cond (!decide (a=(I v6:Int))) (J ([],11)) (J (c,0))
   |_=>aj)) k (b,[],0,x,f,[]))
theorem at3(k:Nat):aU 29 [fj] [.sl .bytes ab,an] (K2 k):=b6 (px:=WC _ k) (n:=1) Tryz.func29 rfl (λah H=>by have c:bP ah (WC (aw [.sl .bytes ab,an]) k):=br H (c1 H agh (c1 H aoa bq)) bo bp;have a:=cd H c (b:=b0 Tryz.f29 0) (k:=k) (n:=0) (s:=ZF) (step:=u_) (λ_ _ _ (_,_,_,_,_,_)=>by kernel_rfl) aK;exact⟨c,(b9 aK a)⟩) λ_=>by kernel_rfl
def vo(b:ak):ae (U ak×Int):=K2 10000 b
def aeK:bt [fj] [.sl .bytes ab,an]:=λx=>vo x
theorem axu:aU 29 [fj] [.sl .bytes ab,an] aeK:=.fin 0 at3 λ_ _ _ ag=>⟨10000,ag⟩
def acx:bn:=⟨37,[(0,.int .u64),(3,.sl .byte ab)],[],[],0,0,0,[],[]⟩
def SF:bn:=⟨37,[(4,.int .i64)],[],[(0,.one (.fx .byte))],1,0,0,[],[(3,0,.byte)]⟩
def wg{R:Type}(rec:Int×ak->ae R)(kx:aX->Int×ak->ae R)(v:Int×ak):ae R:=match v with|(n,l)=>cond (aa (0<n)) (ax (aa (I l+1<=bY)) (rec (wr .u64 (n.tdiv 128),l++[eh (wr .u8 (n.tmod 128)).toNat]))) (kx (.exit 0) (n,l))
def wo{R:Type}(rec:Int×ak×Int×Int->ae R)(kx:aX->Int×ak×Int×Int->ae R)(v:Int×ak×Int×Int):ae R:=match v with|(i,l,s,m)=>cond (aa (wr .i64 (i+1)<m)) (ax (q_ i m) (ax (a_ (s+i) (I l)) (ax (q_ i m) (ax (a_ (s+i) (I l)) (rec (wr .i64 (i+1),l.set (s+i).toNat (eh (wr .u8 (((at' .byte l (s+i)).toNat:Int)+128)).toNat),s,m)))))) (kx (.exit 2) (i,l,s,m))
def Np(R:Type)(k:Nat)(aEV:Bool):aR R:=⟨qo tZ,λ_=>aj,D1 [],Dx [],ajE [(3,b8 k acx wg),(7,λst K=>cond aEV (Rv 3 st λst=>b8 k SF wo st K) (b8 k SF wo st K))],eT []⟩
def ai0:aX->Int×ak×Int×Int->ae ak|.exit 2,(_,l,s,m)=>ax (aa (s=0)&&aa (0<m)&&aa (m<=(I l:Int))) (J (l.take m.toNat))|_,_=>aj
def Pt(k:Nat)(n:Int):ae ak:=aI (λrec=>wg rec λe v=>match e,v with|.exit 0,(_,l)=>ax (!l.isEmpty) (aI (λrec=>wo rec ai0) k (0,l,0,(I l:Int)))|_,_=>aj) k (wr .u64 (n.tdiv 128),[eh (wr .u8 (n.tmod 128)).toNat])
theorem adI(k:Nat):fH Tryz.prog i_ (λ_=>aj) 62 [.int .u64] [.sl .byte ab] (Pt k):=afR (px:=Np _ k ab) (n:=2) Tryz.func62 rfl bW follows bW bW (λah e f d h=>by have H:m7 Tryz.prog i_ (λ_=>aj) (qo tZ) ah:=⟨e,f,d,J8 Gz,follows⟩;have a:∀b,bP ah (Np ak k b):=λb=>br H bq bo bp;exact⟨(a _).p,(a _).c,(a _).q,b9 (b9 aK (cd H (a ab) (b:=b0 Tryz.f62 0) (k:=k) (n:=0) (s:=acx) (step:=wg) (λ_ _ _ (_,_)=>by kernel_rfl) aK)) (awF (Vd:=Np ak k ai) (sl:=3) h (λg=>by rw[d]) (cd H (a ai) (b:=b0 Tryz.f62 1) (k:=k) (n:=0) (s:=SF) (step:=wo) (λ_ _ _ (_,_,_,_)=>by kernel_rfl) aK) λ_ _=>by kernel_rfl)⟩) λn=>by kernel_rfl
def yB(b:UInt8):UInt8:=eh (wr .u8 ((b.toNat:Int)+128)).toNat
def q8:UInt8->ak->ak|x,[]=>[x]|x,y::l=>yB x::q8 y l
def oE:Nat->Nat->ak|0,_=>[]|k+1,n=>if n=0 then []else eh (n % 128)::oE k (n / 128)
theorem ahG:∀k n,I (oE k n)<=k
 |0,n=>bU _
 |k+1,n=>by have:=ahG k (n / 128);simp[oE];split<;>simp<;>omega
theorem acS:∀k n,n<128 ^ (k+1)->fu k n=q8 (eh (n % 128)) (oE k (n / 128))
 |0,n,h=>by simp[fu,oE,q8,Nat.mod_eq_of_lt h]
 |k+1,n,h=>by
  simp only[fu,oE];by_cases a:n<128
  .rw[if_pos a,if_pos af,Nat.mod_eq_of_lt a,q8]
  .rw[if_neg a,if_neg af,q8,acS k (n / 128) (Nat.div_lt_of_lt_mul (by rw[Nat.pow_succ]at h;omega))];congr 1;have:(eh (n % 128)).toNat=n % 128:=d'
   rw[yB,this,show((n % 128:Nat):Int)+128=((n % 128+128:Nat):Int) by omega,J4];congr 1;omega
theorem ajz{n:Nat}(h:n<18446744073709551616):wr .u64 ((n:Int).tdiv 128)=((n / 128:Nat):Int):=by rw[show(n:Int).tdiv 128=((n / 128:Nat):Int) from rfl,l6 af]
theorem ajL(n:Nat):(wr .u8 ((n:Int).tmod 128)).toNat=n % 128:=by rw[show(n:Int).tmod 128=((n % 128:Nat):Int) from rfl,J4,Int.toNat_natCast];omega
theorem ahe:∀x l,I (q8 x l)=I l+1
 |x,[]=>rfl
 |x,y::l=>by simp[q8,ahe y l]
theorem ahO{R:Type}{kx:aX->Int×ak->ae R}:∀(k m n:Nat) (l:ak),n<128 ^ k->n<18446744073709551616->k<m->I l+k<=1000->aI (λrec=>wg rec kx) m ((n:Int),l)=kx (.exit 0) (0,l++oE k n)
 |k,0,_,_,_,_,h,_=>by omega
 |0,m+1,n,l,ck,_,_,_=>by
  obtain rfl:n=0:=by simpa using ck
  simp[aI,wg,oE]
 |k+1,m+1,n,l,ck,al,hm,bz=>by
  by_cases h:n=0
  .subst h;simp[aI,wg,oE]
  .have a:=ahO (kx:=kx) k m (n / 128) (l++[eh (n % 128)]) (Nat.div_lt_of_lt_mul (by rw[Nat.pow_succ]at ck;omega)) af af d';simp only[aI,wg,aH (show(0:Int)<(n:Int) by omega),bd,aH (show I l+1<=bY by simp[bY];omega),ax,ajz al,ajL,a,oE,if_neg h,hp,se,nX]
theorem ahh{R:Type}{kx:aX->Int×ak×Int×Int->ae R}:∀(l:ak) (k:Nat) (p:ak) (x:UInt8) (n:Nat),I l<k->I p+I l+1=n->n<=1000->∃i,aI (λrec=>wo rec kx) k ((I p:Int),p++x::l,0,(n:Int))=kx (.exit 2) (i,p++q8 x l,0,(n:Int))
 |_,0,_,_,_,h,_,_=>by omega
 |[],k+1,p,x,n,_,ck,aY=>by refine⟨I p,?_⟩;simp[aI,wo,d_ (show dc ((I p:Int)+1) by simp[dc];omega),aL (show ¬(I p:Int)+1<(n:Int) by simp at ck;omega),q8]
 |y::l,k+1,p,x,n,bf,ck,aY=>by
  simp at bf ck;obtain⟨i,a⟩:=ahh (kx:=kx) l k (p++[yB x]) y n af d' aY;refine⟨i,?_⟩;have bI:q_ (I p:Int) (n:Int)=true:=by simp[q_];omega
  have b:a_ (I p:Int) (I (p++x::y::l))=true:=cg (by simp);have c:at' .byte (p++x::y::l) (I p:Int)=x:=by simp[at']
  simp only[aI,wo,d_ (show dc ((I p:Int)+1) by simp[dc];omega),aH (show(I p:Int)+1<(n:Int) by omega),ax,Int.zero_add,bI,b,c,Int.toNat_natCast];have e:(p++x::y::l).set (I p) (yB x)=(p++[yB x])++y::l:=by simp
  simp only[yB]at e a ⊢;simpa[q8,yB]using a
theorem ao4{n:Nat}(h:n<128 ^ 6):Pt 10 (n:Int)=J (fu 5 n):=by rw[acS 5 n h,Pt,ajz af,ajL,ahO 5 10 (n / 128) [eh (n % 128)] (Nat.div_lt_of_lt_mul (by rw[Nat.pow_succ]at h;omega)) af af (by simp)];have b:=ahG 5 (n / 128);obtain⟨i,a⟩:=ahh (kx:=ai0) (oE 5 (n / 128)) 10 [] (eh (n % 128)) (I (oE 5 (n / 128))+1) af (by simp) af;refine a.trans ?_;have:=ahe (eh (n % 128)) (oE 5 (n / 128));generalize q8 (eh (n % 128)) (oE 5 (n / 128))=q at *;rw[<-this];show ax (aa ((0:Int)=0)&&aa (0<(I q:Int))&&aa ((I q:Int)<=(I q:Int))) (J (q.take (I q:Int).toNat))=_;rw[aH rfl,aH af,aH (Int.le_refl _),Int.toNat_natCast,List.take_length];rfl
noncomputable def DS(n:Int):ae ak:=@ite _ (0<=n/\n<4398046511104) (Classical.propDecidable _) (J (fu 5 n.toNat)) aj
noncomputable section
def GI:bt [.int .u64] [.sl .byte ab]:=λx=>DS x
theorem ahq:aU 62 [.int .u64] [.sl .byte ab] GI:=⟨(adI 0).enters,λn r ag w M vs a _ b=>(adI 10).run n r (by
 simp only[GI,DS]at ag;split at ag
 .rename_i h;obtain⟨m,rfl⟩:=Int.eq_ofNat_of_zero_le h.1;rw[<-ag];exact ao4 af
 .cases ag) w M vs a ⟨λ_ _ _ h=>j5,λ_ _ h=>j5,λ_ _ h=>j5⟩ b⟩
end
open aO (jd iV cU)
theorem azo{m:ak}{x:Int×ak×Int×Nat}(h:jd m=J x):cU (av.cf m 0)≠6:=λd=>by
 by_cases c:aO.pre m [120,39]=ab
 .have e:av.cf m 0=120:=by match m,c with|[],c=>cases c|[a],c=>simp[aO.pre]at c|a::b::t,c=>simp[aO.pre]at c;rw[c.1];rfl
  rw[e]at d;exact absurd d gN
 .unfold jd at h;rw[if_neg c,d]at h;simp at h
variable{r:ak}{w:ak}
theorem aAZ{q n:Int}{us:aA}(h:jd (w++r)=J (k,s,n,I w))(a:iV r (q+I w) us):iV (w++r) q (⟨k,q,s,n⟩::us):=.tok (azo h) h (by rw[List.drop_left];exact a)
theorem aje:cU ((32:UInt8).toNat:Int)=6:=pw
def fz(D:ak->Prop)(a:ak)(Q:aA->Prop):Prop:=∀r q us,D r->iV r (q+I a) us->∃bQ,iV (a++r) q (bQ++us)/\Q bQ
def mf(_:ak):Prop:=True
theorem fz.app{w4 nJ:ak->Prop}{b:ak}{akw akx:aA->Prop}(e:fz w4 a akw)(al:fz nJ b akx)(ar:∀r,nJ r->w4 (b++r)):fz nJ (a++b) λbQ=>∃t1 t2,bQ=t1++t2/\akw t1/\akx t2:=λr q us c d=>by obtain⟨t2,f,g⟩:=al r (q+I a) us c (by rw[e7]at d;rw[show q+(I a:Int)+(I b:Int)=q+((I a+I b:Nat):Int) by omega];exact d);obtain⟨t1,h,bc⟩:=e (b++r) q (t2++us) (ar r c) f;exact⟨t1++t2,by rw[hp,hp];exact h,t1,t2,rfl,bc,g⟩
variable{Ec:ak->Prop}{Q:aA->Prop}
theorem fz.mono{D:ak->Prop}{qV:aA->Prop}(h:fz D a Q)(ar:∀r,Ec r->D r)(b:∀bQ,Q bQ->qV bQ):fz Ec a qV:=λr q us c d=>by obtain⟨bQ,e,f⟩:=h r q us (ar r c) d;exact⟨bQ,e,b bQ f⟩
theorem fz.nil{D:ak->Prop}(h:Q []):fz D [] Q:=λr q us _ a=>⟨[],by simpa using a,h⟩
theorem fz.sp{D:ak->Prop}(h:fz D a Q):fz D (32::a) Q:=λr q us c b=>by obtain⟨bQ,d,e⟩:=h r (q+1) us c (by rw[eo]at b;rw[show q+1+(I a:Int)=q+((I a+1:Nat):Int) by omega];exact b);exact⟨bQ,.blank aje d,e⟩
theorem fz.aET{D:ak->Prop}(h:fz oF a Q):fz D (a++[32]) Q:=λr q us _ b=>by have ar:oF (32::r):=GO (ajZ r);obtain⟨bQ,c,d⟩:=h (32::r) q us ar (.blank aje (by rw[e7,eo,dB]at b;rw[show q+(I a:Int)+1=q+((I a+(0+1):Nat):Int) by omega];exact b));exact⟨bQ,by rw[hp];exact c,d⟩
def aj6(k:Int)(s:ak)(n:Int)(bQ:aA):Prop:=∃t:Tok,bQ=[t]/\t.kind=k/\t.s=s/\t.n=n
def o3(s:ak)(bQ:aA):Prop:=∃t:Tok,bQ=[t]/\aV s [t]=ab
theorem fz.one{D:ak->Prop}{n:Int}(h:∀r,D r->jd (w++r)=J (k,s,n,I w)):fz D w (aj6 k s n):=λr q _ a b=>⟨[⟨k,q,s,n⟩],aAZ (h r a) b,_,rfl,rfl,rfl,rfl⟩
theorem ajX{n:Int}(a:k=1\/k=6){bQ:aA}(h:aj6 k s n bQ):o3 s bQ:=by obtain⟨t,b,c,d,_⟩:=h;refine⟨t,b,?_⟩;simp[aV,c,d];exact a
theorem fz.word(h:aO.nA w=ab):fz oF w (o3 w):=(fz.one λ_ a=>aw8 h a).mono (λ_ h=>h) (λ_ h=>ajX (.inl rfl) h)
variable{c:UInt8}
theorem aCw(ao:cU (c.toNat:Int)=7):c≠120:=λh=>by subst h;exact absurd ao gN
theorem aus(ao:cU (c.toNat:Int)=7)(b:aO.CH (c::r)=ai):jd ([c]++r)=J (6,[c],0,I [c]):=by
 have d:aO.pre (c::r) [120,39]=false:=by simp[aO.pre,aCw ao]
 have a:cU (av.cf (c::r) 0)=7:=ao;show jd (c::r)=_;unfold jd;rw[d,if_neg (by simp),if_neg KR,if_neg KR,if_neg KR,if_neg KR,if_pos a,b];rfl
theorem aBD(a:c≠60)(b:c≠62)(r:ak):aO.CH (c::r)=false:=by simp[aO.CH,aO.pre,a,b]
theorem fz.sign(ao:cU (c.toNat:Int)=7)(a:c≠60)(b:c≠62):fz mf [c] (o3 [c]):=(fz.one λr _=>aus ao (aBD a b r)).mono (λ_ h=>h) (λ_ h=>ajX (.inr rfl) h)
theorem aCY:fz mf [40] (o3 [40]):=fz.sign gN dM dM
theorem aCD:fz mf [41] (o3 [41]):=fz.sign gN dM dM
theorem aD6:fz mf [44] (o3 [44]):=fz.sign gN dM dM
variable{o:aA}
theorem yT(h:o3 s o)(r:aA):aV s (o++r)=true:=by obtain⟨t,rfl,h⟩:=h;exact h
theorem RQ(h:o3 s o)(r:aA):(o++r).tail=r:=by obtain⟨t,rfl,h⟩:=h;rfl
theorem aCK(h:o3 s o):o≠[]:=by obtain⟨t,rfl,h⟩:=h;simp
def iJ{α:Type}(p:aA->bR α)(D:ak->Prop)(S T:aA->Prop)(a:ak)(x : α):Prop:=fz D a λbQ=>∀vs,S vs->T (bQ++vs)/\p (bQ++vs) = .ok (x,vs)
def oU(_:aA):Prop:=True
section
variable {α β:Type}{p:aA->bR α}{D w4 nJ:ak->Prop}{S Li EW T Lk T2:aA->Prop}{a b:ak}{x : α}{y : β}
theorem iJ.bind{f : α->aA->bR β}(c:iJ p w4 Li Lk a x)(d:iJ (f x) nJ EW T2 b y)(ar:∀r,nJ r->w4 (b++r))(g:∀l,T2 l->Li l):iJ (aN p f) nJ EW Lk (a++b) y:=(fz.app c d ar).mono (λ_ h=>h) λbQ ⟨t1,t2,e,bc,i⟩ vs j=>by subst e;obtain⟨bI,k⟩:=i vs j;obtain⟨m,n⟩:=bc (t2++vs) (g _ bI);rw[hp];refine⟨m,?_⟩;simp only[aN,n,k]
theorem iJ.map{g : α->β}(h:iJ p D S T a x):iJ (aN p λx=>cJ (g x)) D S T a (g x):=fz.mono h (λ_ h=>h) λ_ q vs b=>⟨(q vs b).1,by simp only[aN,(q vs b).2];rfl⟩
theorem iJ.mono(h:iJ p w4 Li Lk a x)(ar:∀r,nJ r->w4 r)(b:∀l,EW l->Li l)(d:∀l,Lk l->T2 l):iJ p nJ EW T2 a x:=fz.mono h ar λ_ q vs c=>⟨d _ (q vs (b vs c)).1,(q vs (b vs c)).2⟩
end
def np(w:ak)(l:aA):Prop:=aV w l=ab
def aDe(W:U ak)(l:aA):Prop:=∀w,w∈W->aV w l=ai
theorem aji{W:U ak}(a:¬w∈W){l:aA}(h:np w l):aDe W l:=λv b=>by cases l with|nil=>rfl|cons t r=>simp only[np,aV,bN,fQ]at h;simp only[aV,Bool.and_eq_false_iff,decide_eq_false_iff_not];exact .inr λe=>a (by rw[<-h.2,e];exact b)
theorem Jf{D:ak->Prop}(h:fz D a (o3 w)):iJ (cY [w]) D oU (np w) a ():=h.mono (λ_ h=>h) λbQ q vs _=>⟨yT q vs,by simp only[cY,yT q,RQ q]⟩
variable{α:Type}{q:aA->bR α}
theorem ay3{b:ak}{D:ak->Prop}{S T:aA->Prop}{p:aA->bR α}{x : α}(h:fz D a (o3 w))(al:iJ p Ec S T b x)(ar:∀r,Ec r->D (b++r)):iJ (λl=>match aV w l with|true=>p l.tail|false=>q l) Ec S (np w) (a++b) x:=(fz.app h al ar).mono (λ_ h=>h) λbQ ⟨t1,t2,e,bc,c⟩ vs d=>by subst e;rw[hp];exact⟨yT bc _,by simp only[yT bc,RQ bc];exact(c vs d).2⟩
theorem azu{b:ak}{D:ak->Prop}{S T:aA->Prop}{p:aA->bR α}{x : α}(al:iJ q D S T b x)(c:∀l,T l->aV w l=ai):iJ (λl=>match aV w l with|true=>p l.tail|false=>q l) D S T b x:=fz.mono al (λ_ h=>h) λbQ d vs e=>by obtain⟨a,f⟩:=d vs e;exact⟨a,by simp only[c _ a];exact f⟩
def Ma(l:aA):Prop:=∀w,aV w l=ai
theorem MW(h:eQ s=ab):iJ fl oF oU Ma s s:=by
 have b:aO.qa s=true:=h;rw[aO.UQ]at b;refine(fz.one λr c=>avN b c).mono (λ_ h=>h) λbQ a vs _=>?_;obtain⟨t,rfl,bI,d,_⟩:=a;refine⟨λw=>?_,?_⟩
 .show aV w (t::vs)=ai;simp only[aV,bI];rfl
 .show fl (t::vs)=_;simp only[fl,bI,d,decide_true]
theorem ah2{α:Type}{part:aA->bR α}{f : α->ak}{D:ak->Prop}{S T:aA->Prop}(g:∀t,D (44::32::t))(i:∀l,np [44] l->S l):∀l:U α,(∀x,x∈l->iJ part D S T (f x) x)->fz D (iG f l) λbQ=>∀vs,S vs/\aV [44] vs=ai->S (bQ++vs)/\∀k acc,I (bQ++vs)<k->e5 part k acc (bQ++vs) = .ok (acc++l,vs)
 |[],_=>fz.nil λvs a=>⟨a.1,λk acc j=>by obtain⟨k,rfl⟩:∃b,k=b+1:=⟨k-1,by omega⟩;simp only[nX,e5,a.2,kq]⟩
 |x::l,h=>by
  have ag:=h x jy;have m:=ah2 g i l λy aE=>h y (mg _ aE);have ar:∀r,D r->D (iG f l++r):=λr n=>by cases l with|nil=>exact n|cons y l=>exact g _
  have e:iG f (x::l)=[44]++(32::(f x++iG f l)):=by simp[iG]
  rw[e];refine(aD6.app (fz.sp (fz.app ag m ar)) (λ_ _=>trivial)).mono (λ_ h=>h) λbQ d vs a=>?_;obtain⟨c,t1,rfl,ao,u,yx,rfl,bc,o⟩:=d;obtain⟨p,q⟩:=o vs a;obtain⟨_,p2⟩:=bc (yx++vs) p;refine⟨by rw[hp];exact i _ (yT ao _),λk acc j=>?_⟩;obtain⟨k,rfl⟩:∃b,k=b+1:=⟨k-1,by omega⟩;have s:=List.length_pos_iff.2 (aCK ao);simp only[e7]at j;simp only[hp,e5,yT ao,RQ ao,p2];rw[q k (acc++[x]) (by simp only[e7];omega)];simp
theorem azw{part:aA->bR α}{f : α->ak}{D:ak->Prop}{S T:aA->Prop}(b:∀t,D (44::32::t))(c:∀l,np [44] l->S l){l:U α}(d:l≠[])(h:∀x,x∈l->iJ part D S T (f x) x):iJ (jQ part) D (λl=>S l/\aV [44] l=ai) T (gW f l) l:=by
 cases l with
 |nil=>exact absurd rfl d
 |cons x l=>
  have ag:=h x jy;have e:=ah2 b c l λy aE=>h y (mg _ aE);have ar:∀r,D r->D (iG f l++r):=λr g=>by cases l with|nil=>exact g|cons y l=>exact b _
  refine(fz.app ag e ar).mono (λ_ h=>h) λbQ a vs i=>?_;obtain⟨n,yx,rfl,bc,j⟩:=a;obtain⟨k,m⟩:=j vs i;obtain⟨p1,p2⟩:=bc (yx++vs) k;rw[hp];refine⟨p1,?_⟩;simp only[jQ,p2];rw[m _ [x] af];rfl
theorem D9{D:ak->Prop}:∀r,D r->mf r:=λ_ _=>trivial
theorem s5{S:aA->Prop}:∀l,S l->oU l:=λ_ _=>trivial
theorem ajO(t:ak):oF (32::t):=GO (ajZ t)
theorem aC0(t:ak):oF (41::t):=GO (aC3 t)
theorem aCT(t:ak):oF (44::t):=GO (aCc t)
theorem apg{l:U ak}(a:l≠[])(h:∀x,x∈l->eQ x=ab):iJ o5 mf oU (np [40]) (lP l) l:=by unfold lP;rw[E6];refine(Jf aCY).bind (nJ:=mf) (T2:=Ma) ?_ D9 s5;refine(azw (S:=oU) (λ_=>aCT _) s5 a λx ag=>MW (h x ag)).bind (T2:=np [41]) ?_ (λr _=>aC0 _) (λl a=>⟨trivial,aji (W:=[[44]]) dM a _ (by simp)⟩);exact(Jf aCD).map
theorem aBE{p:aA->bR α}{D:ak->Prop}{S T:aA->Prop}{x y : α}(h:iJ p D S T a x)(e:x=y):iJ p D S T a y:=e▸h
def Fin(l:aA):Prop:=l=[]\/np [59] l
theorem SW(h:aO.nA w=ab):fz mf (w++[32]) (o3 w):=fz.aET (fz.word h)
theorem aBO(h:aO.nA w=ab):fz mf (32::(w++[32])) (o3 w):=fz.sp (SW h)
theorem aqg{s:aP}(b:eQ s.name=ab)(c:eQ s.on=ab)(a:s.names≠[])(hm:∀x,x∈s.names->eQ x=ab):iJ vy mf oU (np o6) ((o6++[32])++(s.name++((32::(sG++[32]))++(s.on++(32::lP s.names))))) { eJ with kind:=3,name:=s.name,on:=s.on,names:=s.names }:=by have d:iJ o5 mf oU (np [40]) (32::lP s.names) s.names:=fz.sp (apg a hm);have e:iJ (cY [sG]) mf oU (np sG) (32::(sG++[32])) ():=Jf (aBO gN);have f:iJ (cY [o6]) mf oU (np o6) (o6++[32]) ():=Jf (SW gN);exact f.bind (nJ:=mf) (T2:=Ma) ((MW b).bind (nJ:=mf) (T2:=np sG) (e.bind (nJ:=mf) (T2:=Ma) ((MW c).bind (nJ:=mf) (T2:=np [40]) d.map (λr _=>ajO _) s5) D9 s5) (λr _=>ajO _) s5) D9 s5
theorem ayV{v:ak}(h:¬v=w):∀l,np w l->aV v l=false:=λl a=>aji (W:=[v]) (by simpa using λe=>h e.symm) a v (by simp)
theorem atk{s:aP}(b:eQ s.name=ab)(c:eQ s.on=ab)(a:s.names≠[])(hm:∀x,x∈s.names->eQ x=ab):iJ nO mf oU oU ((o6++[32])++(s.name++((32::(sG++[32]))++(s.on++(32::lP s.names))))) { eJ with kind:=3,name:=s.name,on:=s.on,names:=s.names }:=(azu (w:=vw) (p:=wD) (q:=vy) (aqg b c a hm) (ayV dM)).mono (λ_ h=>h) (λ_ h=>h) s5
def aC1(l:aA):bR aP:=match aV r5 l with|true=>pL l.tail|false=>.error l
def aCe(l:aA):bR aP:=match aV tu l with|true=>zb l.tail|false=>aC1 l
def aCB(l:aA):bR aP:=match aV tw l with|true=>xI l.tail|false=>aCe l
def aC4(l:aA):bR aP:=match aV r0 l with|true=>zx l.tail|false=>aCB l
def aj4(l:aA):bR aP:=match aV rq l with|true=>ry l.tail|false=>aC4 l
theorem aAr:jk=λl=>match aV nN l with|true=>nO l.tail|false=>aj4 l:=rfl
end Go.Proofs.YtdelkmpkjibigaaGreatDoor
namespace Go.Proofs.YtdelkmpkjibigaaGreatDoor
open Go.ft
abbrev Mu:=Int×Int×Int
def v_:aX->Fv->ae Mu:=λe f=>match f with|(_,a,b,c,_,d,_,_,_)=>match e with|.ret=>J (a,b,c)|.exit 0=>J (0,0,d)|_=>aj
theorem anz:∀c:Nat,c<256->pj .u64 0 (sK .u64 (wr .u64 (ib .u8 (c:Int) 127)) (wr .i64 (7*((0:Nat):Int))))=((c % 128:Nat):Int):=pw
theorem aod:∀c:Nat,c<256->sK .u64 (wr .u64 (ib .u8 (c:Int) 127)) (wr .i64 (7*((1:Nat):Int)))=((c % 128*128:Nat):Int):=pw
theorem aEl{n x:Nat}(e:n<128)(ag:x<128):pj .u64 (n:Int) ((x*128:Nat):Int)=((n+128*x:Nat):Int):=by
 have a:(km 64 ((x*128:Nat):Int)).toNat=x*128:=d'
 have c:(km 64 (n:Int)).toNat=n:=d'
 have d:n ||| x*128=n+128*x:=by have:=Nat.shiftLeft_add_eq_or_of_lt (i:=7) (b:=n) af x;rw[Nat.shiftLeft_eq]at this;rw[Nat.or_comm,<-this];omega
 show df.wrap .u64 (((km 64 (n:Int) ||| km 64 ((x*128:Nat):Int)).toNat:Nat):Int)=_;rw[BitVec.toNat_or,a,c,d];exact l6 af
theorem aCv(x y:Int) : 0<=pj .u64 x y:=akm
theorem I'{p n:Int}{l:ak}{i:Nat}(b:i<I l)(f:i<=9)(d:b1 (I l)):∃a:Int,0<=a/\(i=0->n=0->a = ((l[i].toNat % 128:Nat):Int))/\(i=1->0<=n->n<128->a = n+128*((l[i].toNat % 128:Nat):Int)) /\
  ∀rec:Fv->ae Mu,qO rec v_ (p,0,0,0,n,10,l,(I l:Int),(i:Int))=if(i=9/\1<l[i].toNat)\/(l[i].toNat=0/\0<i)then J (0,0,11)else if l[i].toNat<128 then J (a,wr .i64 (wr .i64 (p+i)+1),0)else rec (p,0,0,0,a,10,l,(I l:Int),((i+1:Nat):Int)):=by
 have ao:=l[i].toNat_lt;refine⟨pj .u64 n (sK .u64 (wr .u64 (ib .u8 (l[i].toNat:Int) 127)) (wr .i64 (7*(i:Int)))),aCv _ _,?_,?_,?_⟩
 .rintro rfl rfl;exact anz _ ao
 .rintro rfl e g;rw[aod _ ao];obtain⟨m,rfl⟩:=Int.eq_ofNat_of_zero_le e;rw[aEl af (Nat.mod_lt _ af)];omega
 .intro rec;have c1:aa (0<=wr .i64 (7*(i:Int)))=true:=by rw[d_ ec];exact aH af
  simp only[qO,ea b,bd,cg b,ax,cR (c:=.byte) b,c9 b d,v_,c1]
  grind
theorem acn{p:Int}{l:ak}(a:b1 (I l)):∀(k i:Nat) (n:Int),i<=9->i<=I l->9-i<k->∃m to e,aI (λrec=>qO rec v_) k (p,0,0,0,n,10,l,(I l:Int),(i:Int))=J (m,to,e)/\(e=0->0<=m/\∃j:Nat,j<I l/\to=wr .i64 (wr .i64 (p+(j:Int))+1))
 |0,_,_,_,_,h=>by omega
 |k+1,i,n,vI,bO,bf=>by
  rw[aI];by_cases h:i<I l
  .obtain⟨b,iz,_,_,c⟩:=I' (p:=p) (n:=n) h vI a;rw[c];split
   .grind
   .rename_i d;split
    .grind
    .rename_i f;exact acn a k (i+1) b af h af
  .have:i=I l:=af
   subst this;simp only[qO,eu,v_]
   grind
theorem ahT{b:ak}{p:Nat}(a:p<=I b)(al:I b<=1000000):sN b (p:Int)=aI (λrec=>qO rec v_) 100 ((p:Int),0,0,0,0,10,b.drop p,(I (b.drop p):Int),0):=by simp only[sN,Pv];rw[aL (show ¬(p:Int)<0 by omega),bj,aL (show ¬(I b:Int)<(p:Int) by omega),bj,show dP (p:Int) (I b) (I b)=ab by simp[dP,bN];omega];rfl
theorem aew{b:ak}{p:Nat}(a:p<=I b)(al:I b<=1000000):∃m to e,sN b (p:Int)=J (m,to,e)/\(e=0->0<=m/\∃j:Nat,to=(j:Int)/\p<j/\j<=I b):=by
 rw[ahT a al];have c:b1 (I (b.drop p)):=iC
 obtain⟨m,to,e,h,d⟩:=acn (p:=(p:Int)) c 100 0 0 af af af;refine⟨m,to,e,h,λf=>?_⟩;obtain⟨g,j,i,rfl⟩:=d f;rw[ff]at i;refine⟨g,p+j+1,?_,by omega,by omega⟩;rw[d_ (n:=(p:Int)+j) ec,d_ ec];omega
theorem zX{n:Nat}(h:n<256):(eh n).toNat=n:=by simp_all
theorem aes{b r:ak}{p n:Nat}(ar:b.drop p=fu 5 n++r)(w:n<16384)(al:I b<=1000000):sN b (p:Int)=J ((n:Int),((p+I (fu 5 n):Nat):Int),0)/\p+I (fu 5 n)+I r=I b:=by
 have q:=congrArg List.length ar;have x:=tm 5 n;rw[ff,e7]at q;have s:p<=I b:=af
 refine⟨?_,by omega⟩;rw[ahT s al,ar];have a:b1 (I (fu 5 n++r)):=iC
 have w1:∀j:Nat,j<=2->wr .i64 (wr .i64 ((p:Int)+j)+1)=((p+(j+1):Nat):Int):=λj y=>by rw[d_ (n:=(p:Int)+j) ec,d_ ec];omega
 by_cases h:n<128
 .have e:fu 5 n=[eh n]:=by simp[fu,if_pos h]
  rw[e]at a ⊢;obtain⟨m,_,bI,_,f⟩:=I' (p:=(p:Int)) (n:=0) (l:=[eh n]++r) (i:=0) (by simp) af a;have k:([eh n]++r)[0].toNat=n:=zX af;have bI:=bI rfl rfl;simp only[k]at bI f;have f:=f (aI (λrec=>qO rec v_) 99);rw[if_neg af,if_pos h,bI,w1 0 af]at f;refine Eq.trans f ?_;rw[Nat.mod_eq_of_lt h];rfl
 .have e:fu 5 n=[eh (n % 128+128),eh (n / 128)]:=akd
  rw[e]at a ⊢;have t:=zX (n:=n % 128+128) af;have u:=zX (n:=n / 128) af;generalize eh (n % 128+128)=c at *;generalize eh (n / 128)=d at *;obtain⟨m,_,bI,_,f⟩:=I' (p:=(p:Int)) (n:=0) (l:=[c,d]++r) (i:=0) (by simp) af a;obtain⟨z,_,_,o,g⟩:=I' (p:=(p:Int)) (n:=m) (l:=[c,d]++r) (i:=1) (by simp) af a;have k:([c,d]++r)[0].toNat=n % 128+128:=t;have v:([c,d]++r)[1].toNat=n / 128:=u;have bI:=bI rfl rfl;simp only[k]at bI f;simp only[v]at o g;have f:=f (aI (λrec=>qO rec v_) 99);have g:=g (aI (λrec=>qO rec v_) 98);rw[if_neg af,if_neg af]at f;rw[if_neg af,if_pos af,w1 1 af]at g;refine Eq.trans f (Eq.trans g ?_);rw[(o (by trivial) af af),bI];simp only[dN,ni,and_true];exact⟨by omega,rfl⟩
theorem awQ{b:ak}{p:Nat}(c:p<=I b)(al:I b<=1000000):∃s to e,yW b (p:Int)=J (s,to,e)/\(e=0->I s<=I b/\∃j:Nat,to=(j:Int)/\p<j/\j<=I b):=by
 obtain⟨m,to,e,h,d⟩:=aew c al;simp only[yW,Lz,h,bA];by_cases a:e=0
 .obtain⟨k,j,rfl,l,o⟩:=d a;rw[aH a,ef,bj,d_ (n:=(I b:Int)-j) ec,show(I b:Int)-(j:Int)=((I b-j:Nat):Int) by omega,l6 af];by_cases f : 1048576<m
  .grind
  rw[aL f,bj];by_cases g:((I b-j:Nat):Int)<m
  .grind
  rw[aL g,bj,d_ (n:=m) ec,d_ ec];have i:dP (j:Int) ((j:Int)+m) (I b)=true:=KJ
  have ao:I (cut b (j:Int) ((j:Int)+m))<=I b:=by simp[cut,ff];omega
  rw[i,ax,bd,aH (show 0+I (cut b (j:Int) ((j:Int)+m))<=bY by simp[bY];omega),ax,bd];exact adE
 .grind
theorem ax7{b r s:ak}{p:Nat}(ar:b.drop p=(fu 5 (I s)++s)++r)(f:I s<16384)(al:I b<=1000000):yW b (p:Int)=J (s,((p+I (fu 5 (I s)++s):Nat):Int),0)/\b.drop (p+I (fu 5 (I s)++s))=r:=by
 have a:=ar;rw[hp]at a;obtain⟨c,d⟩:=aes a f al;rw[e7]at d;have e:b.drop (p+I (fu 5 (I s)))=s++r:=akk
 refine⟨?_,by rw[<-List.drop_drop,ar,List.drop_left]⟩;obtain⟨q,bV⟩:∃q,q=p+I (fu 5 (I s)):=⟨_,rfl⟩;rw[<-bV]at c d e;simp only[yW,Lz,c,bA,decide_true,bj];rw[aL af,bj,d_ (n:=(I b:Int)-q) ec,show(I b:Int)-(q:Int)=((I b-q:Nat):Int) by omega,l6 af,aL af,bj,d_ (n:=(I s:Int)) ec,d_ ec];have g:dP (q:Int) ((q:Int)+(I s:Int)) (I b)=true:=KJ
 have ao:cut b (q:Int) ((q:Int)+(I s:Int))=s:=by simp[cut];rw[e,show((q:Int)+(I s:Int)).toNat-q=I s by omega,List.take_left]
 rw[g,ao,ax,bd,aH (show 0+I s<=bY by simp[bY];omega),ax,bd,e7];exact adn
def Mv:aX->LM->ae (U ak×Int):=λe c=>match c with|(v6,bb,bK,_,a,b)=>match e with|.ret=>J (bb,bK)|.exit 0=>cond (aa (a<(I v6:Int))) (J ([],11)) (J (b,0))|_=>aj
theorem aci{b:ak}(al:I b<=1000000):∀(k p:Nat) (n:Int) (acc:U ak),p<=I b->I b-p<k->I acc+1<=p->0<=n->(∀x,x∈acc->I x<=I b)->∃l e,aI (λrec=>vb rec Mv) k (b,[],0,n,(p:Int),acc)=J (l,e)/\I l+1<=I b/\∀x,x∈l->I x<=I b
 |0,_,_,_,_,h,_,_,_=>by omega
 |k+1,p,n,acc,aW,bf,c5,ck,bz=>by
  simp only[aI,vb];by_cases c : 0<n
  .obtain⟨s,to,e,h,d⟩:=awQ aW al;rw[aH c,bd,h,bA];by_cases a:e=0
   .obtain⟨f,j,rfl,i,g⟩:=d a;rw[aH a,ef,bj,aH (show I acc+1<=bY by simp[bY];omega),ax,bd];exact aci al k j _ _ g af hF (by simp[wr,df.wrap];exact Int.emod_nonneg _ dM) λx ag=>by
     rcases lx.1 ag with ag|ag
     .exact bz x ag
     .rw[List.mem_singleton.1 ag];exact f
   .exact adB
  .rw[aL c,bj];simp only[Mv];cases aa ((p:Int)<(I b:Int))with|true=>exact⟨_,_,rfl,by simp;omega,λx ag=>by cases ag⟩|false=>exact⟨_,_,rfl,by omega,bz⟩
theorem atF{b:ak}(al:I b<=5000):∃l e,wv b=J (l,e)/\I l<5000/\∀x,x∈l->I x<=I b:=by
 obtain⟨m,to,e,h,c⟩:=aew (b:=b) (p:=0) af af;simp only[wv,K4];rw[show sN b 0=_ from h,bA];by_cases a:e=0
 .obtain⟨d,j,rfl,k,f⟩:=c a;rw[aH a,ef,bj];obtain⟨l,e,g,n,i⟩:=aci (b:=b) af 5000 j m [] f af d' d λx ag=>by cases ag
  exact⟨l,e,g,by omega,i⟩
 .exact adj
theorem acy{b:ak}(al:I b<=1000000):∀(l:U ak) (k p:Nat) (acc:U ak),b.drop p=hy l->p<=I b->I l<k->I acc+I l<=1000000->(∀x,x∈l->I x<16384)->aI (λrec=>vb rec Mv) k (b,[],0,(I l:Int),(p:Int),acc)=J (acc++l,0)
 |_,0,_,_,_,_,h,_,_=>by omega
 |[],k+1,p,acc,ar,aW,_,_,_=>by have:=congrArg List.length ar;simp[hy,dB]at this;simp only[aI,vb,dB,Mv];rw[aL af,bj,aL af,bj,kq]
 |s::l,k+1,p,acc,ar,aW,bf,c5,bz=>by
  simp at bf c5;obtain⟨a,c⟩:=ax7 (r:=hy l) ar (bz s (by simp)) al;have d:=congrArg List.length ar;simp[hy,ff]at d;have f:=acy al l k (p+I (fu 5 (I s)++s)) (acc++[s]) c (by rw[e7];omega) af hF λx ag=>bz x te;simp only[aI,vb,eo];rw[aH af,bd,a,bA,aH (show(0:Int)=0 from rfl),ef,bj,aH (show I acc+1<=bY by simp[bY];omega),ax,bd];have e:wr .u64 (((I l+1:Nat):Int)-1)=(I l:Int):=by rw[show((I l+1:Nat):Int)-1=(I l:Int) by omega,l6 af]
  rw[e,f,hp];rfl
theorem as1{l:U ak}(a:I l<5000)(al:I (lJ l)<=1000000)(c:∀x,x∈l->I x<16384):wv (lJ l)=J (l,0):=by obtain⟨d,e⟩:=aes (b:=lJ l) (r:=hy l) (p:=0) (n:=I l) rfl af al;simp only[wv,K4];rw[show sN (lJ l) 0=_ from d,bA,aH (show(0:Int)=0 from rfl),ef,bj];exact acy al l 5000 _ [] akj af a d' c
def yr:aX->FI->ae Mu:=λe d=>match d with|(_,_,a,b,c,_,_,_)=>match e with|.ret=>J (a,b,c)|.exit 0=>J (0,0,10)|_=>aj
theorem aCP(x:Int) : 0<=wr .u64 x:=akm
theorem Jd{b:ak}{p q:Nat}{n u:Int}(d:q<I b)(l:p<=q)(al:I b<=1000000):∃f:Int,0<=f/\f = wr .u64 (n+wr .u64 (((b[q].toNat % 128:Nat):Int)*u)) /\
  ∀rec:FI->ae Mu,qR rec yr (b,(p:Int),0,0,0,n,u,(q:Int))=if(q-p=9/\1<b[q].toNat)\/(p<q/\b[q].toNat=0)then J (0,0,11)else if b[q].toNat<128 then J (f,((q+1:Nat):Int),0)else rec (b,(p:Int),0,0,0,f,wr .u64 (u*128),((q+1:Nat):Int)):=by
 have j:wr .u64 (gZ (b[q].toNat:Int) 128)=((b[q].toNat % 128:Nat):Int):=by rw[show gZ (b[q].toNat:Int) 128=((b[q].toNat % 128:Nat):Int) from rfl,l6 af]
 refine⟨_,aCP _,rfl,λrec=>?_⟩;have k:b1 (I b):=iC
 have g:aa (wr .i64 ((q:Int)-(p:Int))=9)=aa (q-p=9):=by
  rw[d_ ec]
  grind
 simp only[qR,ea d,cg d,cR (c:=.byte) d,c9 d k,j,g];by_cases z:b[q].toNat=0
 .rw[aH (show(b[q].toNat:Int)=0 by omega),ef];by_cases y:p<q
  .rw[if_pos (.inr ⟨y,z⟩),aH (show(p:Int)<(q:Int) by omega)];cases aa (q-p=9)<;>rfl
  .rw[if_neg af,if_pos af,aL (show ¬(p:Int)<(q:Int) by omega),aH (show(b[q].toNat:Int)<128 by omega)];cases aa (q-p=9)<;>rfl
 .rw[aL (show ¬(b[q].toNat:Int)=0 by omega),kd];by_cases a:q-p=9/\1<b[q].toNat
  .rw[if_pos (.inl a),aH a.1,aL (show ¬(b[q].toNat:Int)=1 by omega)];rfl
  .rw[if_neg af];have e:cond (aa (q-p=9)) (!decide ((b[q].toNat:Int)=1)) ai=false:=im
   by_cases y:b[q].toNat<128
   .rw[if_pos y,aH (show(b[q].toNat:Int)<128 by omega)];cases h:aa (q-p=9)<;>cases i:aa ((b[q].toNat:Int)=1)<;>rw[h,i]at e<;>first|(cases aa ((p:Int)<(q:Int))<;>rfl)|cases e
   .rw[if_neg y,aL (show ¬(b[q].toNat:Int)<128 by omega)];cases h:aa (q-p=9)<;>cases i:aa ((b[q].toNat:Int)=1)<;>rw[h,i]at e<;>first|(cases aa ((p:Int)<(q:Int))<;>rfl)|cases e
theorem acA{b:ak}{p:Nat}(al:I b<=1000000):∀(k q:Nat) (n u:Int),0<=n->p<=q->q<=I b->I b-q<k->∃m to e,aI (λrec=>qR rec yr) k (b,(p:Int),0,0,0,n,u,(q:Int))=J (m,to,e)/\(e=0->0<=m/\∃j:Nat,to=(j:Int)/\p<j/\j<=I b)
 |0,_,_,_,_,_,_,h=>by omega
 |k+1,q,n,u,dm,aW,bV,bf=>by
  rw[aI];by_cases h:q<I b
  .obtain⟨a,iz,_,c⟩:=Jd (n:=n) (u:=u) h aW al;rw[c];split
   .grind
   .split
    .exact⟨_,_,_,rfl,λ_=>⟨iz,q+1,rfl,by omega,h⟩⟩
    .exact acA al k (q+1) a _ iz af h af
  .have:q=I b:=af
   subst this;simp only[qR,eu,yr]
   grind
theorem agU{b:ak}{p:Nat}(a:p<=I b):sT b (p:Int)=aI (λrec=>qR rec yr) 10000 (b,(p:Int),0,0,0,0,1,(p:Int)):=by simp only[sT,PF];rw[aL (show ¬(p:Int)<0 by omega),bj,aL (show ¬(I b:Int)<(p:Int) by omega),bj];rfl
theorem afI{b:ak}{p:Nat}(a:p<=I b)(al:I b<=9000):∃m to e,sT b (p:Int)=J (m,to,e)/\(e=0->0<=m/\∃j:Nat,to=(j:Int)/\p<j/\j<=I b):=by rw[agU a];exact acA af 10000 p 0 1 af (bU _) a af
theorem ae4{b r:ak}{p n:Nat}(ar:b.drop p=fu 5 n++r)(v:n<16384)(al:I b<=9000):sT b (p:Int)=J ((n:Int),((p+I (fu 5 n):Nat):Int),0):=by
 have o:=congrArg List.length ar;have w:=tm 5 n;rw[ff,e7]at o;have j:p<I b:=af
 have at_:∀i (h:p+i<I b) (q:i<I (fu 5 n++r)),b[p+i]=(fu 5 n++r)[i]:=λi h q=>by grind
 rw[agU af];by_cases h:n<128
 .have e:fu 5 n=[eh n]:=by simp[fu,if_pos h]
  have a0:=at_ 0 af GE;obtain⟨f,_,bI,a⟩:=Jd (p:=p) (n:=0) (u:=1) j (bU _) af;have d:b[p].toNat=n:=by have:b[p]=(fu 5 n++r)[0]' GE:=a0;rw[this];simp only[e];exact zX af
  rw[d]at bI;have a:=a (aI (λrec=>qR rec yr) 9999);simp only[d]at a;rw[if_neg af,if_pos h,bI]at a;refine Eq.trans a ?_;rw[show((n % 128:Nat):Int)*1=(n:Int) by omega,l6 af,show(0:Int)+(n:Int)=(n:Int) by omega,l6 af,e];rfl
 .have e:fu 5 n=[eh (n % 128+128),eh (n / 128)]:=akd
  have el:I (fu 5 n)=2:=by rw[e];rfl
  have g:p+1<I b:=af
  have s:=at_ 1 af GE;have d:b[p].toNat=n % 128+128:=by have:b[p]=(fu 5 n++r)[0]' GE:=(at_ 0 af GE);rw[this];simp only[e];exact zX af
  have k:b[p+1].toNat=n / 128:=by rw[s];simp only[e];exact zX af
  obtain⟨f,_,l,a⟩:=Jd (p:=p) (n:=0) (u:=1) j (bU _) af;obtain⟨t,_,m,c⟩:=Jd (p:=p) (n:=f) (u:=wr .u64 (1*128)) g af af;have a:=a (aI (λrec=>qR rec yr) 9999);have c:=c (aI (λrec=>qR rec yr) 9998);rw[d]at l;rw[k]at m;simp only[d]at a;simp only[k]at c;rw[if_neg af,if_neg af]at a;rw[if_neg af,if_pos af]at c;refine Eq.trans a (Eq.trans c ?_);have c1:f = ((n % 128:Nat):Int):=by rw[l,show(((n % 128+128) % 128:Nat):Int)*1=((n % 128:Nat):Int) by omega,l6 af,show(0:Int)+((n % 128:Nat):Int)=((n % 128:Nat):Int) by omega,l6 af]
  have c2:t=(n:Int):=by rw[m,c1,show wr .u64 (1*128)=128 by decide,show((n / 128 % 128:Nat):Int)*128=((n / 128*128:Nat):Int) by omega,l6 af,show((n % 128:Nat):Int)+((n / 128*128:Nat):Int)=(n:Int) by omega,l6 af]
  rw[c2,el]
theorem avi{b:ak}{p:Nat}(c:p<=I b)(al:I b<=9000):∃s to e,y4 b (p:Int)=J (s,to,e)/\(e=0->I s<=I b/\∃j:Nat,to=(j:Int)/\p<j/\j<=I b):=by
 obtain⟨m,to,e,h,d⟩:=afI c al;simp only[y4,LH,h,bA];by_cases a:e=0
 .obtain⟨k,j,rfl,l,o⟩:=d a;rw[aH a,ef,bj];by_cases f : 1048576<m
  .grind
  rw[aL f,bj,d_ (n:=m) ec,d_ ec];by_cases g:(I b:Int)<(j:Int)+m
  .grind
  rw[aL g,bj];have i:dP (j:Int) ((j:Int)+m) (I b)=true:=KJ
  have ao:I (cut b (j:Int) ((j:Int)+m))<=I b:=by simp[cut,ff];omega
  rw[i,ax,bd,aH (show 0+I (cut b (j:Int) ((j:Int)+m))<=bY by simp[bY];omega),ax,bd];exact adE
 .grind
theorem avR{b r s:ak}{p:Nat}(ar:b.drop p=(fu 5 (I s)++s)++r)(e:I s<16384)(al:I b<=9000):y4 b (p:Int)=J (s,((p+I (fu 5 (I s)++s):Nat):Int),0)/\b.drop (p+I (fu 5 (I s)++s))=r:=by
 have a:=ar;rw[hp]at a;have c:=ae4 a e al;have f:=congrArg List.length ar;have h:=tm 5 (I s);rw[e7,e7,ff]at f;have d:b.drop (p+I (fu 5 (I s)))=s++r:=akk
 refine⟨?_,by rw[<-List.drop_drop,ar,List.drop_left]⟩;obtain⟨q,bV⟩:∃q,q=p+I (fu 5 (I s)):=⟨_,rfl⟩;rw[<-bV]at c d;simp only[y4,LH,c,bA,decide_true,bj];rw[aL af,bj,d_ (n:=(I s:Int)) ec,d_ ec,aL af,bj];have g:dP (q:Int) ((q:Int)+(I s:Int)) (I b)=true:=KJ
 have ao:cut b (q:Int) ((q:Int)+(I s:Int))=s:=by simp[cut];rw[d,show((q:Int)+(I s:Int)).toNat-q=I s by omega,List.take_left]
 rw[g,ao,ax,bd,aH (show 0+I s<=bY by simp[bY];omega),ax,bd,e7];exact adn
def Mj:aX->Lo->ae (U ak×Int):=λe c=>match c with|(v6,bb,bK,_,a,b)=>match e with|.ret=>J (bb,bK)|.exit 0=>cond (!decide (a=(I v6:Int))) (J ([],11)) (J (b,0))|_=>aj
theorem ac3{b:ak}(al:I b<=9000):∀(k p:Nat) (n:Int) (acc:U ak),p<=I b->I b-p<k->I acc+1<=p->(∀x,x∈acc->I x<=I b)->∃l e,aI (λrec=>u_ rec Mj) k (b,[],0,n,(p:Int),acc)=J (l,e)/\I l+1<=I b/\∀x,x∈l->I x<=I b
 |0,_,_,_,_,h,_,_=>by omega
 |k+1,p,n,acc,aW,bf,c5,bz=>by
  simp only[aI,u_];by_cases c:wr .u64 (I acc:Int)<n
  .obtain⟨s,to,e,h,d⟩:=avi aW al;rw[aH c,bd,h,bA];by_cases a:e=0
   .obtain⟨f,j,rfl,i,g⟩:=d a;rw[aH a,ef,bj,aH (show I acc+1<=bY by simp[bY];omega),ax,bd];exact ac3 al k j _ _ g af hF λx ag=>by
     rcases lx.1 ag with ag|ag
     .exact bz x ag
     .rw[List.mem_singleton.1 ag];exact f
   .exact adB
  .rw[aL c,bj];simp only[Mj];cases aa ((p:Int)=(I b:Int))with|false=>exact⟨_,_,rfl,by simp;omega,λx ag=>by cases ag⟩|true=>exact⟨_,_,rfl,by omega,bz⟩
theorem asq{b:ak}(al:I b<=5000):∃l e,vo b=J (l,e)/\I l<5000/\∀x,x∈l->I x<=I b:=by
 obtain⟨m,to,e,h,c⟩:=afI (b:=b) (p:=0) af af;simp only[vo,K2];rw[show sT b 0=_ from h,bA];by_cases a:e=0
 .obtain⟨i,j,rfl,k,d⟩:=c a;rw[aH a,ef,bj];obtain⟨l,e,f,n,g⟩:=ac3 (b:=b) af 10000 j m [] d af d' λx ag=>by cases ag
  exact⟨l,e,f,by omega,g⟩
 .exact adj
theorem acz{b:ak}(al:I b<=9000){n:Nat}(a:n<=9000):∀(l:U ak) (k p:Nat) (acc:U ak),b.drop p=hy l->p<=I b->I l<k->I acc+I l=n->(∀x,x∈l->I x<16384)->aI (λrec=>u_ rec Mj) k (b,[],0,(n:Int),(p:Int),acc)=J (acc++l,0)
 |_,0,_,_,_,_,h,_,_=>by omega
 |[],k+1,p,acc,ar,aW,_,c5,_=>by have:=congrArg List.length ar;simp[hy,dB]at this c5;simp only[aI,u_,Mj];rw[l6 af,aL af,bj,aH af,ef,bj,kq]
 |s::l,k+1,p,acc,ar,aW,bf,c5,bz=>by simp at bf c5;obtain⟨c,d⟩:=avR (r:=hy l) ar (bz s (by simp)) al;have e:=congrArg List.length ar;simp[hy,ff]at e;have f:=acz al a l k (p+I (fu 5 (I s)++s)) (acc++[s]) d (by rw[e7];omega) af hF λx ag=>bz x te;simp only[aI,u_];rw[l6 af,aH af,bd,c,bA,aH (show(0:Int)=0 from rfl),ef,bj,aH (show I acc+1<=bY by simp[bY];omega),ax,bd,f,hp];rfl
theorem asx{l:U ak}(d:I l<5000)(al:I (lJ l)<=9000)(a:∀x,x∈l->I x<16384):vo (lJ l)=J (l,0):=by
 have c:=ae4 (b:=lJ l) (r:=hy l) (p:=0) (n:=I l) rfl af al;have e:I (fu 5 (I l))+I (hy l)=I (lJ l):=by simp[lJ]
 simp only[vo,K2];rw[show sT (lJ l) 0=_ from c,bA,aH (show(0:Int)=0 from rfl),ef,bj];exact acz al af l 10000 _ [] akj af af (by simp) a
end Go.Proofs.YtdelkmpkjibigaaGreatDoor
