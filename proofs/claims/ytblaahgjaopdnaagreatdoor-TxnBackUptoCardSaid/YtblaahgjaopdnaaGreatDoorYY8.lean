/- Texts of the proof,one behind the other: Xr,Xs,Xt,Xv,Xw,Xx,Xp,Xq. -/
import Derived.Test.YtblaahgjaopdnaaGreatDoorYY7
set_option linter.all false
namespace Go.Proofs.YtblaahgjaopdnaaGreatDoor
open Go.Ax
theorem Ps{n m:Nat}{r s:Str}(hn:n<18446744073709551616)(hm:m<18446744073709551616)(h:A7 9 n++r=A7 9 m++s)(hl:(A7 9 n++r).length<=1000000):n=m/\r=s:=by
 have h1:=(O3 (b:=A7 9 n++r) (p:=0) rfl hn hl).1;have h2:=(O3 (b:=A7 9 n++r) (p:=0) (show List.drop 0 (A7 9 n++r)=A7 9 m++s from h) hm hl).1;rw[h1] at h2;simp only[Za1,Zp1] at h2;have e:n=m:=by omega
 subst e;exact⟨rfl,List.append_cancel_left h⟩
def Bts(r:ResS):Prop:=0<=r.n/\inI r.n=true/\(Eg r.rows).1.length<=2200200000
theorem Axs:∀{l l':List ResS}{r:Str},l.length=l'.length->(∀x,x∈l->Bts x)->(∀x,x∈l'->Bts x)->(Gz l').length<=1000000->Gz l' = Gz l++r->r=[]
 |[],[],r,_,_,_,_,h=>by simpa[Gz] using h.symm
 |[],_::_,_,h,_,_,_,_=>by simp at h
 |_::_,[],_,h,_,_,_,_=>by simp at h
 |a::l,a'::l',r,hl,ha,hb,hn,h=>by
  obtain⟨a0,ai,am⟩:=ha a (by simp);obtain⟨b0,bi,bm⟩:=hb a' (by simp);have au:=(Zv ai a0).2;have bu:=(Zv bi b0).2;simp only[M7,Amf,Zj1] at h hn;obtain⟨_,h2⟩:=Ps bu au h hn;have hn2:=hn;rw[Zh1] at hn2;have hn2:(A7 5 (Eg a'.rows).1.length++((Eg a'.rows).1++Gz l')).length<=1000000:=by omega
  rw[<-Vi (show(Eg a'.rows).1.length<128 ^ 6 by omega)] at h2 hn2;rw[<-Vi (show(Eg a.rows).1.length<128 ^ 6 by omega)] at h2;obtain⟨h3,h4⟩:=Ps (by omega) (by omega) h2 hn2;obtain⟨_,h5⟩:=List.append_inj h4 h3;refine Axs (by simpa using hl) (λx hx=>ha x (by simp[hx])) (λx hx=>hb x (by simp[hx])) ?_ h5;rw[Zh1,Zh1] at hn2;omega
theorem Y9{o:OutS}(h:(Nj o).2=0):Tu o=true/\(∀r,r∈o.l->0<=r.n)/\(∀r,r∈o.l->okM r=true)/\(Nj o).1=Bd o/\(Bd o).length<=1048576:=by
 cases h1:Tu o with
 |false=>simp[Nj,h1] at h
 |true =>
  cases h2:o.l.all (λr=>decide (0<=r.n)) with
  |false=>simp[Nj,h1,h2] at h
  |true =>
   cases h3:o.l.all okM with
   |false=>simp[Nj,h1,h2,h3] at h
   |true =>
    cases h4:o.l.any Ah2 with
    |true=>simp[Nj,h1,h2,h3,h4] at h
    |false =>cases h5:decide (1048576<((Bd o).length:Int)) with|true=>simp[Nj,h1,h2,h3,h4,h5] at h|false =>have:=of_decide_eq_false h5;refine⟨rfl,λr hr=>by simpa using Zg2.1 h2 r hr,λr hr=>Zg2.1 h3 r hr,by simp[Nj,h1,h2,h3,h4,h5],by omega⟩
theorem A9a{o p:OutS}{r:Str}(ho:Azw o)(hp:Azw p)(ko:(Nj o).2=0)(kp:(Nj p).2=0)(hl:(Bd o).length<=1000000)(h:Bd o=Bd p++r):r=[]:=by obtain⟨o1,o2,o3,_,_⟩:=Y9 ko;obtain⟨p1,p2,p3,_,_⟩:=Y9 kp;obtain⟨a1,a2,a3,a4,a5⟩:=Nu o1;obtain⟨b1,b2,b3,b4,b5⟩:=Nu p1;simp only[Bd,Zj1] at h hl;obtain⟨_,h2⟩:=Ps (by omega) (by omega) h hl;have hl2:=hl;rw[Zh1] at hl2;obtain⟨_,h3⟩:=Ps (by omega) (by omega) h2 (by omega);have hl3:=hl2;rw[Zh1] at hl3;obtain⟨h4,h5⟩:=Ps (by omega) (by omega) h3 (by omega);rw[Zh1] at hl3;refine Axs h4.symm (λx hx=>⟨p2 x hx,(hp.2.2.2 x hx).2,Ai0 (hp.2.2.2 x hx).1⟩) (λx hx=>⟨o2 x hx,(ho.2.2.2 x hx).2,Ai0 (ho.2.2.2 x hx).1⟩) (by omega) h5
theorem inT{n:Int}(h:inI n):inI n=true:=by simpa using h
theorem Bi7(n:Int):inI (wr .i64 n):=by rw[wrI,inI];omega
theorem Brt(x y:Int):inI (Aft .i64 x y):=Bi7 _
theorem Axr{b:Str}{p:Nat}(e:Int)(hp:p<=b.length)(hb:b.length<=1000000):∃(x:Int) (q:Nat) (f:Int),Kz (b,(p:Int),e)=some (x,b,(q:Int),f)/\p<=q/\q<=b.length/\(f=10\/f=e/\p<q):=by
 simp only[Kz,R3];by_cases h:p=b.length
 ·rw[Ze1 (show(p:Int)=(b.length:Int) by omega),Ah];exact⟨0,p,10,rfl,Zn1 _,hp,.inl rfl⟩
 ·rw[Zd1 (show ¬(p:Int)=(b.length:Int) by omega),Af,B0 (n:=(p:Int)+1) (by simp[inI];omega),show(p:Int)+1-1=(p:Int) by omega,B0 (n:=(p:Int)) (by simp[inI];omega),Ay (show p<b.length by omega),chk,Ah];exact⟨_,p+1,e,rfl,by omega,by omega,.inr ⟨rfl,by omega⟩⟩
theorem Ba1{b:Str}{p:Nat}(hp:p<=b.length)(hb:b.length<=1000000):∃n to e,An1 b (p:Int)=some (n,to,e)/\inI n/\(e=0->∃j:Nat,to=(j:Int)/\p<j/\j<=b.length):=by obtain⟨m,to,e,h,ht⟩:=I2 hp hb;simp only[An1,Np,h,Zc1];exact⟨_,_,_,rfl,Brt _ _,λhe=>(ht he).2⟩
theorem A86{b:Str}{p:Nat}(e:Int)(hp:p<=b.length)(hb:b.length<=1000000):∃(s:Str) (q:Nat) (f:Int),H8 (b,(p:Int),e)=some (s,b,(q:Int),f)/\p<=q/\q<=b.length/\(f=0->p<q):=by
 obtain⟨m,to,e,h,_⟩:=I2 hp hb;obtain⟨s,to2,e2,h2,ht⟩:=Aa4 hp hb;simp only[H8,N3,h,h2,Zc1];have key:∀f:Int,∃(s':Str) (q:Nat) (g:Int),cond (!decide (f=0)) (some (([]:Str),b,(p:Int),f)) (cond (decide (e2=0)) (some (s,b,to2,e2)) (some (s,b,(p:Int),e2)))=some (s',b,(q:Int),g)/\p<=q/\q<=b.length/\(g=0->p<q):=λf=>by
  by_cases hf:f=0
  ·rw[Ze1 hf,Zt1,Af];by_cases he:e2=0
   ·obtain⟨_,j,rfl,j1,j2⟩:=ht he;rw[Ze1 he,Ah];exact⟨_,j,_,rfl,by omega,j2,λ_=>j1⟩
   ·rw[Zd1 he,Af];exact⟨_,p,_,rfl,Zn1 _,hp,λh=>absurd h he⟩
  ·rw[Zd1 hf,Zs1,Ah];exact⟨_,p,_,rfl,Zn1 _,hp,λh=>absurd h hf⟩
 have sel:∀c1 c2:Bool,∃(s':Str) (q:Nat) (g:Int),cond c1 (cond c2 (cond (!decide ((11:Int)=0)) (some (([]:Str),b,(p:Int),11)) (cond (decide (e2=0)) (some (s,b,to2,e2)) (some (s,b,(p:Int),e2)))) (cond (!decide (e=0)) (some (([]:Str),b,(p:Int),e)) (cond (decide (e2=0)) (some (s,b,to2,e2)) (some (s,b,(p:Int),e2))))) (cond (!decide (e=0)) (some (([]:Str),b,(p:Int),e)) (cond (decide (e2=0)) (some (s,b,to2,e2)) (some (s,b,(p:Int),e2))))=some (s',b,(q:Int),g)/\p<=q/\q<=b.length/\(g=0->p<q):=λc1 c2=>by cases c1<;>cases c2<;>first|exact key 11|exact key e
 exact sel _ _
def wpX:Ex->Kj->Option Rp:=λe vz=>match vz with|(v5,_,_,_,v9,a,b)=>match e with|.ret=>some (v5,v9,a,b)|.exit 0=>some (true,v9,a,b)|_=>none
theorem A4t{l b:Str}{p e:Int}(hl:ln l.length):∀(k i:Nat),i<=l.length->l.length-i<k->∃r,Ak (λrec=>It rec wpX) k (false,l,(l.length:Int),(i:Int),b,p,e)=some (r,b,p,e)
 |0,_,_,h=>by omega
 |k+1,i,hi,hk=>by
  rw[A8];by_cases h:i<l.length
  ·simp only[It,C6 h,Ah,Ay h,chk,Aw (c :=.byte) h,As h hl];cases decide ((l[i].toNat:Int)<32) with
   |true=>exact⟨false,rfl⟩
   |false =>cases decide (126<(l[i].toNat:Int)) with|true=>exact⟨false,rfl⟩|false=>exact A4t hl k (i+1) h (by omega)
  ·have:i=l.length:=by omega
   subst this;simp only[It,E6,Af];exact⟨true,rfl⟩
theorem Bcf{b:Str}{p:Nat}(m:Nat)(hm:b.length<m)(v:Val)(e:Int)(hp:p<=b.length)(hb:b.length<=1000000):∃r,D2 m (v,b,(p:Int),e)=some (r,b,(p:Int),e):=by
 simp only[D2];cases decide (v.kind=4) with
 |false=>exact⟨true,rfl⟩
 |true =>
  cases decide (e=10) with
  |false=>exact⟨true,rfl⟩
  |true =>
   obtain⟨n,to,f,h,ht⟩:=I2 hp hb;rw[h,Zc1];by_cases hf:f=0
   ·obtain⟨_,j,rfl,j1,j2⟩:=ht hf;rw[Ze1 hf,show upto (j:Int) b.length b.length=true by simp[upto,Zb1];omega];exact A4t (by simp[ln,Za2];omega) m 0 (by omega) (by rw[Za2];omega)
   ·rw[Zd1 hf];exact⟨true,rfl⟩
theorem Ayr{b:Str}{p:Nat}(v:Val)(e:Int)(hp:p<=b.length)(hb:b.length<=40000):∃r,F9 (v,b,(p:Int),e)=some (r,b,(p:Int),e):=Bcf 50000 (by omega) v e hp (by omega)
def wvJ(q:Str)(q1 q2:Int)(v:Val):Option X3 :=
 let j1:=λ(p2:Bool)=>cond p2 (some (v,q,q1,11)) ((F9 (v,q,q1,q2)).bind λ(c,a,b,d)=>cond (!c) (some (v,a,b,11)) (some (v,a,b,d)))
 cond (decide (q2=0)) (j1 (!decide (Gr v=0))) (j1 false)
def wvB(x:Int)(b:Str)(p e:Int):Option X3 :=
 cond (decide (x=1)) (wvJ b p e (Val.mk x 0 [])) (
  cond (decide (x=2)) ((Kz (b,p,e)).bind λ(x4,x5,x6,x7)=>wvJ x5 x6 x7 (Val.mk x (wr .i64 x4) [])) (
  cond (decide (x=3)) ((Iy (b,p,e)).bind λ(x8,x9,a,c)=>wvJ x9 a c (Val.mk x x8 [])) (
   let j:=λ(p1:Bool)=>cond p1 ((H8 (b,p,e)).bind λ(d,f,g,h)=>wvJ f g h (Val.mk x 0 d)) (wvJ b p 11 (Val.mk x 0 []))
   cond (decide (x=4)) (j (decide (x=4))) (j (decide (x=5))))))
theorem Aod(b:Str)(p e:Int):Mu (b,p,e)=(Kz (b,p,e)).bind λ(x,x1,x2,x3)=>cond (!decide (x3=0)) (some (Val.mk (wr .i64 x) 0 [],x1,x2,x3)) (wvB (wr .i64 x) x1 x2 x3):=rfl
theorem Yh{b:Str}{p:Nat}{q1 q2:Int}{v:Val}(hb:b.length<=40000)(h4:v.kind=4->∃j:Nat,q1=(j:Int)/\j<=b.length)(h:q2=0->∃j:Nat,q1=(j:Int)/\p<j/\j<=b.length):∃q f,wvJ b q1 q2 v=some (v,b,q,f)/\(f=0->∃j:Nat,q=(j:Int)/\p<j/\j<=b.length):=by
 have pre:∃r,F9 (v,b,q1,q2)=some (r,b,q1,q2):=by
  by_cases hk:v.kind=4
  ·obtain⟨j,rfl,hj⟩:=h4 hk;exact Ayr v q2 hj hb
  ·simp only[F9,D2,Zd1 hk];exact⟨true,rfl⟩
 obtain⟨r,hr⟩:=pre;have no:∃q f,some (v,b,q1,(11:Int))=some (v,b,q,f)/\(f=0->∃j:Nat,q=(j:Int)/\p<j/\j<=b.length):=⟨_,_,rfl,λh=>absurd h (by decide)⟩;simp only[wvJ,hr,Zc1];cases decide (q2=0)<;>cases decide (Gr v=0)<;>cases r<;>first|exact no|exact⟨_,_,rfl,h⟩
theorem Bno{x:Int}{b:Str}{p:Nat}(hp:p<=b.length)(h0 : 0<p)(hb:b.length<=40000):∃v q f,wvB x b (p:Int) 0=some (v,b,q,f)/\inI v.n/\(f=0->∃j:Nat,q=(j:Int)/\p-1<j/\j<=b.length):=by
 have z:inI 0:=by simp[inI]
 simp only[wvB];by_cases h1:x=1
 ·obtain⟨q,f,e,h⟩:=Yh (p:=p-1) (q1:=(p:Int)) (q2:=0) (v:=Val.mk x 0 []) hb (λ_=>⟨p,rfl,hp⟩) λ_=>⟨p,rfl,by omega,hp⟩;rw[Ze1 h1];exact⟨_,q,f,e,z,h⟩
 rw[Zd1 h1,Af];by_cases h2:x=2
 ·obtain⟨y,r,g,hy,r1,r2,r3⟩:=Axr 0 hp (by omega);obtain⟨q,f,e,h⟩:=Yh (p:=p-1) (q1:=(r:Int)) (q2:=g) (v:=Val.mk x (wr .i64 y) []) hb (λ_=>⟨r,rfl,r2⟩) λ_=>⟨r,rfl,by omega,r2⟩;rw[Ze1 h2,Ah,hy];exact⟨_,q,f,e,Bi7 _,h⟩
 rw[Zd1 h2,Af];by_cases h3:x=3
 ·obtain⟨n,to,g,hn,n1,n2⟩:=Ba1 hp (show b.length<=1000000 by omega);obtain⟨q,f,e,h⟩:=Yh (p:=p-1) (q1:=to) (q2:=g) (v:=Val.mk x n []) hb (λh=>by simp only[h3] at h;omega) λhg=>by obtain⟨j,j1,j2,j3⟩:=n2 hg;exact⟨j,j1,by omega,j3⟩
  rw[Ze1 h3,Ah];simp only[Iy,Ib,hn,Zc1];exact⟨_,q,f,e,n1,h⟩
 rw[Zd1 h3,Af];have hj:∀t:Bool,∃v q f,cond t ((H8 (b,(p:Int),0)).bind λ(a,c,d,i)=>wvJ c d i (Val.mk x 0 a)) (wvJ b (p:Int) 11 (Val.mk x 0 []))=some (v,b,q,f)/\inI v.n/\(f=0->∃j:Nat,q=(j:Int)/\p-1<j/\j<=b.length):=λt=>by cases t with|true =>obtain⟨s,r,g,hs,r1,r2,_⟩:=A86 0 hp (show b.length<=1000000 by omega);obtain⟨q,f,e,h⟩:=Yh (p:=p-1) (q1:=(r:Int)) (q2:=g) (v:=Val.mk x 0 s) hb (λ_=>⟨r,rfl,r2⟩) λ_=>⟨r,rfl,by omega,r2⟩;rw[Ah,hs];exact⟨_,q,f,e,z,h⟩|false =>obtain⟨q,f,e,h⟩:=Yh (p:=p-1) (q1:=(p:Int)) (q2:=11) (v:=Val.mk x 0 []) hb (λ_=>⟨p,rfl,hp⟩) λh=>absurd h (by decide);exact⟨_,q,f,e,z,h⟩
 by_cases h4:x=4
 ·rw[Ze1 h4,Ah];exact hj _
 ·rw[Zd1 h4,Af];exact hj _
theorem A1f{b:Str}{p:Nat}(hp:p<=b.length)(hb:b.length<=40000):∃v q f,Mu (b,(p:Int),0)=some (v,b,q,f)/\inI v.n/\(f=0->∃j:Nat,q=(j:Int)/\p<j/\j<=b.length):=by
 obtain⟨y,r,g,hy,r1,r2,r3⟩:=Axr 0 hp (show b.length<=1000000 by omega);rw[Aod,hy,Zc1];rcases r3 with rfl|⟨rfl,r3⟩
 ·exact⟨_,_,_,rfl,by simp[inI],λh=>absurd h (by decide)⟩
 ·obtain⟨v,q,f,e,v1,h⟩:=Bno (x:=wr .i64 y) r2 (by omega) hb;refine⟨v,q,f,e,v1,λhf =>?_⟩;obtain⟨j,j1,j2,j3⟩:=h hf;exact⟨j,j1,by omega,j3⟩
def wdX:Ex->Zt->Option (List Val×Int):=λe vz=>match vz with|(v4,v5,_,_,_,v9,a)=>match e with|.exit 1=>cond (decide (a=0)) (cond (decide (v9<(v4.length:Int))) (some ([],11)) (cond (!decide (a=0)) (some ([],a)) (some (v5,0)))) (cond (!decide (a=0)) (some ([],a)) (some (v5,0)))|_=>none
def Aam(l:List Val):Prop:=l.length<=4000/\∀v,v∈l->inI v.n=true
theorem Yq:Aam []:=⟨by simp,λ_ h=>by cases h⟩
theorem A94{l:List Val}{v:Val}(h:Aam l)(hl:l.length<4000)(hv:inI v.n):Aam (l++[v]):=⟨by simp;omega,λx hx=>by
 rcases List.mem_append.1 hx with hx|hx
 ·exact h.2 x hx
 ·rw[List.mem_singleton.1 hx];exact inT hv⟩
theorem A4x{b:Str}{acc:List Val}{n i q f:Int}(ha:Aam acc):∃l e,wdX (.exit 1) (b,acc,n,i,b,q,f)=some (l,e)/\Aam l:=by simp only[wdX];cases decide (f=0)<;>cases decide (q<(b.length:Int))<;>first|exact⟨_,_,rfl,Yq⟩|exact⟨_,_,rfl,ha⟩
theorem A7p{b:Str}{n:Int}(hb:b.length<=40000)(hn:n<=100):∀(k i p:Nat) (acc:List Val),p<=b.length->(i:Int)<=100->100-i<k->acc.length=i->Aam acc->∃l e,Ak (λrec=>On rec wdX) k (b,acc,n,(i:Int),b,(p:Int),0)=some (l,e)/\Aam l
 |0,_,_,_,_,_,h,_,_=>by omega
 |k+1,i,p,acc,hp,hi,hk,ha,hv=>by
  rw[A8];by_cases h:(i:Int)<n
  ·obtain⟨v,q,f,e,v1,v2⟩:=A1f hp hb;simp only[On,Ze1 h,Ah,e,Zc1,chk,Ze1 (show acc.length+1<=Ai by simp[Ai];omega)];have hs:=A94 hv (by omega) v1;by_cases hf:f=0
   ·obtain⟨j,rfl,_,j3⟩:=v2 hf;subst hf;rw[Ze1 rfl,Zt1,Af,show(i:Int)+1=((i+1:Nat):Int) by omega,Gn (by omega)];exact A7p hb hn k (i+1) j _ j3 (by omega) (by omega) (by simp;omega) hs
   ·rw[Zd1 hf,Zs1,Ah];exact A4x hs
  ·simp only[On,Zd1 h,Af];exact A4x hv
theorem Bl5{b:Str}(hb:b.length<=40000):∃l e,A9j b=some (l,e)/\Aam l:=by
 obtain⟨m,to,e,h,ht⟩:=I2 (b:=b) (p:=0) (by omega) (by omega);simp only[A9j,Rv];rw[show Tr b 0=_ from h,Zc1];by_cases he:e=0
 ·obtain⟨m0,j,rfl,j1,j2⟩:=ht he;rw[Ze1 he,Zt1,Af];by_cases hm : 100<m
  ·rw[Ze1 hm];exact⟨_,_,rfl,Yq⟩
  ·rw[Zd1 hm,Af];exact A7p hb (by omega) 5000 0 j [] j2 (by omega) (by omega) rfl Yq
 ·rw[Zd1 he];exact⟨_,_,rfl,Yq⟩
def wfX:Ex->Zd->Option (List (List Val)×Int):=λe vz=>match vz with|(v6,v7,v8,_,_,_)=>match e with|.ret=>some (v6,v7)|.exit 0=>some (v8,0)|_=>none
def Awg(n:Nat)(l:List (List Val)):Prop:=l.length<=n/\∀r,r∈l->Aam r
theorem Aca{n:Nat}:Awg n []:=⟨by simp,λ_ h=>by cases h⟩
theorem A5e{x:List Str}(hl:x.length<=1000000)(hx:∀s,s∈x->s.length<=40000):∀(k i:Nat) (acc:List (List Val)),i<=x.length->x.length-i<k->Awg i acc->∃l e,Ak (λrec=>Ng rec wfX) k ([],0,acc,x,(x.length:Int),(i:Int))=some (l,e)/\Awg x.length l
 |0,_,_,_,h,_=>by omega
 |k+1,i,acc,hi,hk,ha=>by
  have hln:ln x.length:=by simp[ln];omega
  rw[A8];by_cases h:i<x.length
  ·obtain⟨l,e,h1,h2⟩:=Bl5 (hx _ (List.getElem_mem h));have:=ha.1;simp only[Ng,C6 h,Ah,Ay h,chk,Aw (c :=.bytes) h,As h hln,h1,Zc1,Ze1 (show acc.length+1<=Ai by simp[Ai];omega)];cases decide (e=0) with
   |false=>exact⟨_,_,rfl,Aca⟩
   |true =>
    exact A5e hl hx k (i+1) (acc++[l]) h (by omega) ⟨by simp;omega,λr hr=>by
     rcases List.mem_append.1 hr with hr|hr
     ·exact ha.2 r hr
     ·rw[List.mem_singleton.1 hr];exact h2⟩
  ·have:i=x.length:=by omega
   subst this;simp only[Ng,E6,Af];exact⟨_,_,rfl,ha⟩
theorem Bh3{b:Str}(hb:b.length<=40000):∃l e,Vn b=some (l,e)/\l.length<=b.length/\∀x,x∈l->x.length<=b.length:=by
 obtain⟨m,to,e,h,ht⟩:=I2 (b:=b) (p:=0) (by omega) (by omega);simp only[Vn,Kc];rw[show Tr b 0=_ from h,Zc1];by_cases he:e=0
 ·obtain⟨m0,j,rfl,j1,j2⟩:=ht he;rw[Ze1 he,Zt1,Af];obtain⟨l,e,h1,h2,h3⟩:=Bgq (b:=b) (by omega) 50000 j m [] j2 (by omega) (by simp;omega) m0 λx hx=>by cases hx
  exact⟨l,e,h1,by omega,h3⟩
 ·rw[Zd1 he,Zs1,Ah];exact⟨_,_,rfl,by simp,λx hx=>by cases hx⟩
theorem Bra{b:Str}(m:Nat)(hm : 40000<m)(hb:b.length<=40000):∃l e,Iv m b=some (l,e)/\Awg b.length l:=by obtain⟨x,e,h,h1,h2⟩:=Bh3 hb;simp only[Iv,h,Zc1];cases decide (e=0) with|false=>exact⟨_,_,rfl,Aca⟩|true =>obtain⟨l,f,h3,h4⟩:=A5e (x:=x) (by omega) (λs hs=>Nat.le_trans (h2 s hs) hb) m 0 [] (by omega) (by omega) Aca;exact⟨l,f,h3,by have:=h4.1;omega,h4.2⟩
theorem Bli{b:Str}(hb:b.length<=40000):∃l e,Bmg b=some (l,e)/\Awg b.length l:=Bra 50000 (by omega) hb
theorem Atc{b r s:Str}{p:Nat}(hd:b.drop p=(A7 5 s.length++s)++r)(hb:b.length<=1000000):Ae6 b (p:Int)=some (s,((p+(A7 5 s.length++s).length:Nat):Int),0)/\b.drop (p+(A7 5 s.length++s).length)=r:=by
 have h0:=congrArg List.length hd;simp only[Za2,Zh1] at h0;have hd2:=hd;rw[Zj1,<-Vi (show s.length<128 ^ 6 by omega)] at hd2;obtain⟨h1,h2⟩:=O3 hd2 (by omega) hb;rw[Vi (show s.length<128 ^ 6 by omega)] at hd2 h1 h2;rw[Zh1] at h2;have h3:b.drop (p+(A7 5 s.length).length)=s++r:=by rw[<-List.drop_drop,hd2,List.drop_left]
 refine⟨?_,by rw[<-List.drop_drop,hd,List.drop_left]⟩;obtain⟨q,hq⟩:∃q,q=p+(A7 5 s.length).length:=⟨_,rfl⟩;rw[<-hq] at h1 h2 h3;simp only[Ae6,Oi,h1,Zc1,decide_true,Zt1,Af];rw[Zd1 (by omega),Af,B0 (n:=(b.length:Int)-q) (by simp[inI];omega),show(b.length:Int)-(q:Int)=((b.length-q:Nat):Int) by omega,Gn (by omega),Zd1 (by omega),Af,B0 (n:=(s.length:Int)) (by simp[inI];omega),B0 (by simp[inI];omega)];have hu:upto (q:Int) ((q:Int)+(s.length:Int)) b.length=true:=by simp[upto,Zb1];omega
 have hc:cut b (q:Int) ((q:Int)+(s.length:Int))=s:=by simp only[cut,Int.toNat_natCast];rw[h3,show((q:Int)+(s.length:Int)).toNat-q=s.length by omega,List.take_left]
 rw[hu,hc,chk,Ah,Ze1 (show 0+s.length<=Ai by simp[Ai];omega),chk,Ah,Zh1,show(q:Int)+(s.length:Int)=((p+((A7 5 s.length).length+s.length):Nat):Int) by omega];rfl
theorem Ayc{n:Int}(h : 0<=n/\n<256):((b8 n).toNat:Int)=n:=by obtain⟨m,rfl⟩:=Int.eq_ofNat_of_zero_le h.1;rw[b8,Bl4,Int.toNat_natCast,A36 (Nat.mod_lt _ (by omega))];omega
theorem Axg{b r:Str}{c:UInt8}{p:Nat}(hd:b.drop p=c::r)(hb:b.length<=1000000):Kz (b,(p:Int),0)=some ((c.toNat:Int),b,((p+1:Nat):Int),0)/\b.drop (p+1)=r/\p<b.length:=by
 have h0:=congrArg List.length hd;simp only[Za2,Zf1] at h0;have hp:p<b.length:=by omega
 rw[List.drop_eq_getElem_cons hp] at hd;obtain⟨h1,h2⟩:=List.cons.inj hd;refine⟨?_,h2,hp⟩;simp only[Kz,R3];rw[Zd1 (show ¬(p:Int)=(b.length:Int) by omega),Af,B0 (n:=(p:Int)+1) (by simp[inI];omega),show(p:Int)+1-1=(p:Int) by omega,B0 (n:=(p:Int)) (by simp[inI];omega),Ay hp,chk,Ah,Aw (c :=.byte) hp,h1];rfl
theorem Aon{b r s:Str}{p:Nat}(hd:b.drop p=(A7 5 s.length++s)++r)(hs:s.length<=1000)(hb:b.length<=1000000):H8 (b,(p:Int),0)=some (s,b,((p+(A7 5 s.length++s).length:Nat):Int),0):=by have hd2:=hd;rw[Zj1,<-Vi (show s.length<128 ^ 6 by omega)] at hd2;obtain⟨h1,_⟩:=O3 hd2 (by omega) hb;simp only[H8,N3,h1,(Atc hd hb).1,Zc1];rw[Zd1 (show ¬(1000:Int)<(s.length:Int) by omega)];rfl
theorem Yg{b:Str}{q:Int}{v:Val}(h:Be v=true):wvJ b q 0 v=some (v,b,q,0):=by simp only[wvJ,vch,h,F9,D2];cases decide (v.kind=4)<;>rfl
theorem Aro{v:Val}(h:Be v=true):(v.kind=1->v.n=0/\v.s=[])/\(v.kind=2->(v.n=0\/v.n=1)/\v.s=[])/\(v.kind=3->v.s=[])/\(v.kind=4\/v.kind=5->v.n=0):=by
 obtain⟨k,n,s⟩:=v;refine⟨λh1 =>?_,λh1 =>?_,λh1 =>?_,λh1 =>?_⟩
 ·simp only at h1;subst h1;by_cases h0:n=0<;>simp[Be,h0] at h ⊢ <;> grind
 ·simp only at h1;subst h1;by_cases h0:n=0<;>by_cases h2:n=1<;>simp[Be,h0,h2] at h ⊢ <;> grind
 ·simp only at h1;subst h1;simp[Be] at h ⊢
  grind
 ·rcases h1 with h1|h1<;>(simp only at h1;subst h1;by_cases h0:n=0<;>simp[Be,h0] at h ⊢)
theorem A1c{b r:Str}{p:Nat}{v:Val}(h:Be v=true)(hn:inI v.n=true)(hd:b.drop p=K6 v++r)(hb:b.length<=1000000):Mu (b,(p:Int),0)=some (v,b,((p+(K6 v).length:Nat):Int),0)/\b.drop (p+(K6 v).length)=r:=by
 refine⟨?_,by rw[<-List.drop_drop,hd,List.drop_left]⟩;have hd1:=hd;rw[K6,Zb2] at hd1;obtain⟨w1,w2,w3⟩:=Axg hd1 hb;obtain⟨s1,s2,s3,s4⟩:=Aro h;have hk5:=Aet h;have hkk:wr .i64 ((b8 v.kind).toNat:Int)=v.kind:=by rw[Ayc (by omega),B0 (by simp[inI];omega)]
 rw[Aod,w1,Zc1];simp only[hkk,decide_true,Zt1,Af];simp only[wvB];obtain⟨k,n,s⟩:=v;simp only at s1 s2 s3 s4 hk5 w2 ⊢;rcases hk5 with rfl|rfl|rfl|rfl|rfl
 ·obtain⟨rfl,rfl⟩:=s1 rfl;exact Yg h
 ·obtain⟨h2,rfl⟩:=s2 rfl;have w2:b.drop (p+1)=b8 n::r:=by rw[w2];rfl
  obtain⟨x1,_,_⟩:=Axg w2 hb;rw[Zd1 (by decide),Af,Ze1 (by decide),Ah,x1,Zc1];simp only[Ayc (show 0<=n/\n<256 by omega),B0 (show inI n by simpa using hn)];exact Yg h
 ·obtain rfl:=s3 rfl;have w2:b.drop (p+1)=A7 9 (zz n)++r:=by rw[w2];rfl
  have x1:=Bos hn w2 hb;rw[Zd1 (by decide),Af,Zd1 (by decide),Af,Ze1 (by decide),Ah];simp only[Iy,Ib,x1,Zc1];rw[Yg h,K6];simp only[if_neg (show ¬(3:Int)=2 by decide),if_true,Zf1,Za1,Zp1,true_and,and_true];omega
 ·obtain rfl:=s4 (.inl rfl);have hl:=Iz h (.inl rfl);have w2:b.drop (p+1)=(A7 5 s.length++s)++r:=by rw[w2];rfl
  have x1:=Aon w2 hl hb;rw[Zd1 (by decide),Af,Zd1 (by decide),Af,Zd1 (by decide),Af,Ze1 (by decide),Ah,Ah,x1,Zc1];simp only;rw[Yg h,K6];simp only[if_neg (show ¬(4:Int)=2 by decide),if_neg (show ¬(4:Int)=3 by decide),true_or,if_true,Zf1,Za1,Zp1,true_and,and_true];omega
 ·obtain rfl:=s4 (.inr rfl);have hl:=Iz h (.inr rfl);have w2:b.drop (p+1)=(A7 5 s.length++s)++r:=by rw[w2];rfl
  have x1:=Aon w2 hl hb;rw[Zd1 (by decide),Af,Zd1 (by decide),Af,Zd1 (by decide),Af,Zd1 (by decide),Af,Ze1 (by decide),Ah,x1,Zc1];simp only;rw[Yg h,K6];simp only[if_neg (show ¬(5:Int)=2 by decide),if_neg (show ¬(5:Int)=3 by decide),or_true,if_true,Zf1,Za1,Zp1,true_and,and_true];omega
theorem Bly{b:Str}{n:Nat}(hb:b.length<=1000000)(hn:n<=100):∀(l:List Val) (k p:Nat) (acc:List Val),b.drop p=H6 l->p<=b.length->l.length<k->acc.length+l.length=n->(∀v,v∈l->Be v=true/\inI v.n=true)->Ak (λrec=>On rec wdX) k (b,acc,(n:Int),(acc.length:Int),b,(p:Int),0)=some (acc++l,0)
 |_,0,_,_,_,_,h,_,_=>by omega
 |[],k+1,p,acc,hd,hp,_,ha,_=>by have:=congrArg List.length hd;simp[H6] at this ha;rw[A8];simp only[On,Zd1 (show ¬(acc.length:Int)<(n:Int) by omega),Af,wdX,Zd1 (show ¬(p:Int)<(b.length:Int) by omega),List.append_nil];rfl
 |v::l,k+1,p,acc,hd,hp,hk,ha,hv=>by simp only[Zf1] at hk ha;rw[Om] at hd;obtain⟨v1,v2⟩:=hv v (by simp);obtain⟨h1,h2⟩:=A1c v1 v2 hd hb;have h4:=congrArg List.length hd;simp only[Za2,Zh1] at h4;have ih:=Bly hb hn l k (p+(K6 v).length) (acc++[v]) h2 (by omega) (by omega) (by simp;omega) λx hx=>hv x (by simp[hx]);rw[A8];simp only[On,Ze1 (show(acc.length:Int)<(n:Int) by omega),Ah,h1,Zc1,chk,Ze1 (show acc.length+1<=Ai by simp[Ai];omega),decide_true,Zt1,Af,show(acc.length:Int)+1=((acc.length+1:Nat):Int) by omega,Gn (show acc.length+1<18446744073709551616 by omega)];rw[Zh1] at ih;exact ih.trans (by rw[Zj1];rfl)
theorem Bik{l:List Val}(h:okR l=true):(∀v,v∈l->Be v=true)/\l.length<=100/\(Js l).1=A7 9 l.length++H6 l:=by
 have h:=of_decide_eq_true h;cases h1:l.all (λv=>Be v) with
 |false=>simp[Js,h1] at h
 |true =>cases h2:decide (100<(l.length:Int)) with|true=>simp[Js,h1,h2] at h|false =>have:=of_decide_eq_false h2;refine⟨λv hv=>Zg2.1 h1 v hv,by omega,by simp[Js,h1,h2]⟩
theorem Bld{l:List Val}(h:okR l=true)(hn:∀v,v∈l->inI v.n=true):A9j (Js l).1=some (l,0):=by obtain⟨h1,h2,h3⟩:=Bik h;have hl:(Js l).1.length<=110000:=Az9 (by omega);rw[h3] at hl ⊢;have h4:=(O3 (b:=A7 9 l.length++H6 l) (p:=0) rfl (show l.length<18446744073709551616 by omega) (by omega)).1;simp only[A9j,Rv];rw[show Tr (A7 9 l.length++H6 l) 0=_ from h4,Zc1,Ze1 rfl,Zt1,Af,Zd1 (show ¬(100:Int)<(l.length:Int) by omega),Af];exact Bly (n:=l.length) (by omega) h2 l 5000 _ [] (by rw[Nat.zero_add,List.drop_left]) (by simp) (by omega) (by simp) λv hv=>⟨h1 v hv,hn v hv⟩
theorem Bsr{b:Str}(hb:b.length<=1000000):∀(l:List Str) (k p:Nat) (acc:List Str),b.drop p=E9 l->p<=b.length->l.length<k->acc.length+l.length<=1000000->Ak (λrec=>Hz rec vsX) k (b,[],0,(l.length:Int),(p:Int),acc)=some (acc++l,0)
 |_,0,_,_,_,_,h,_=>by omega
 |[],k+1,p,acc,hd,hp,_,_=>by have:=congrArg List.length hd;simp[E9] at this;simp only[Ak,Hz,Zi1,vsX];rw[Zd1 (by omega),Af,Zd1 (by omega),Af,List.append_nil]
 |s::l,k+1,p,acc,hd,hp,hk,ha=>by
  simp at hk ha;obtain⟨h1,h2⟩:=Atc (r:=E9 l) hd hb;have h4:=congrArg List.length hd;simp[E9,Za2] at h4;have ih:=Bsr hb l k (p+(A7 5 s.length++s).length) (acc++[s]) h2 (by rw[Zh1];omega) (by omega) (by simp;omega);simp only[Ak,Hz,Zf1];rw[Ze1 (by omega),Ah,h1,Zc1,Ze1 (show(0:Int)=0 from rfl),Zt1,Af,Ze1 (show acc.length+1<=Ai by simp[Ai];omega),chk,Ah];have e:wr .u64 (((l.length+1:Nat):Int)-1)=(l.length:Int):=by rw[show((l.length+1:Nat):Int)-1=(l.length:Int) by omega,Gn (by omega)]
  rw[e,ih,Zj1];rfl
theorem Bfm{l:List Str}(hl:l.length<50000)(hb:(Y2 l).length<=1000000):Vn (Y2 l)=some (l,0):=by have h0:=O3 (b:=Y2 l) (r:=E9 l) (p:=0) (n:=l.length) (by rw[Vi (by omega)];rfl) (by omega) hb;rw[Vi (by omega)] at h0;simp only[Vn,Kc];rw[show Tr (Y2 l) 0=_ from h0.1,Zc1,Ze1 (show(0:Int)=0 from rfl),Zt1,Af];exact Bsr hb l 50000 _ [] (by rw[Nat.zero_add];exact List.drop_left) (by omega) hl (by simp;omega)
theorem Bft{l:List (List Val)}(hb:Adz l)(ho:l.all okR=true):∀(k i:Nat),i<=l.length->l.length-i<k->Ak (λrec=>Ng rec wfX) k ([],0,l.take i,Cc l,((Cc l).length:Int),(i:Int))=some (l,0)
 |0,_,_,h=>by omega
 |k+1,i,hi,hk=>by
  have hl:=hb.1;have hbl:(Cc l).length=l.length:=by simp[Cc]
  have hln:ln (Cc l).length:=by simp[ln];omega
  rw[A8];by_cases h:i<l.length
  ·have h':i<(Cc l).length:=by omega
   have hm:=List.getElem_mem h;have e:(Cc l)[i]=(Js l[i]).1:=by simp[Cc]
   have h2:(l.take i).length=i:=by simp;omega
   simp only[Ng,C6 h',Ah,Ay h',chk,Aw (c :=.bytes) h',As h' hln,e,Bld (Zg2.1 ho _ hm) (hb.2 _ hm).2,Zc1,h2,Ze1 (show i+1<=Ai by simp[Ai];omega),decide_true,Zt1,Af];have:=Bft hb ho k (i+1) h (by omega);rw[List.take_succ_eq_append_getElem h] at this;exact this
  ·have:i=l.length:=by omega
   subst this;simp only[Ng,Zd1 (show ¬(l.length:Int)<((Cc l).length:Int) by omega),Af,wfX,List.take_length]
theorem Brh{l:List (List Val)}(m:Nat)(hm : 20000<m)(hb:Adz l)(ho:l.all okR=true)(hl:(Eg l).1.length<=1000000):Iv m (Eg l).1=some (l,0):=by
 have e:(Eg l).1=Y2 (Cc l):=by rw[Eg,ho];rfl
 have h0:=hb.1;have hbl:(Cc l).length=l.length:=by simp[Cc]
 rw[e] at hl ⊢;simp only[Iv,Bfm (show(Cc l).length<50000 by omega) hl,Zc1];exact Bft hb ho m 0 (by omega) (by omega)
theorem Bev{l:List (List Val)}(hb:Adz l)(ho:l.all okR=true)(hl:(Eg l).1.length<=1000000):Bmg (Eg l).1=some (l,0):=Brh 50000 (by omega) hb ho hl
theorem Z1{b:Str}{p:Nat}(c:Bool)(hp:p<=b.length)(hb:b.length<=1000000):∃(x:Int) (q:Nat) (d:Bool),He (b,(p:Int),c)=some (x,b,(q:Int),d)/\inI x/\q<=b.length:=by
 obtain⟨m,to,e,h,ht⟩:=I2 hp hb;simp only[He,S9,h,Zc1];have z:inI 0:=by simp[inI]
 by_cases he:e=0
 ·obtain⟨_,j,rfl,j1,j2⟩:=ht he;rw[Ze1 he,Zt1,Af];cases decide (9223372036854775807<m) with|true=>exact⟨_,p,_,rfl,z,hp⟩|false=>exact⟨_,j,_,rfl,Bi7 _,j2⟩
 ·rw[Zd1 he];exact⟨_,p,_,rfl,z,hp⟩
theorem Yz{b r:Str}{p n:Nat}(hd:b.drop p=A7 9 n++r)(hn:n<=9223372036854775807)(hb:b.length<=1000000):He (b,(p:Int),false)=some ((n:Int),b,((p+(A7 9 n).length:Nat):Int),false)/\b.drop (p+(A7 9 n).length)=r:=by refine⟨?_,by rw[<-List.drop_drop,hd,List.drop_left]⟩;simp only[He,S9,(O3 hd (by omega) hb).1,Zc1];rw[Zd1 (show ¬(9223372036854775807:Int)<(n:Int) by omega),B0 (n:=(n:Int)) (by simp[inI];omega)];rfl
theorem Bhx:Au2 (ResS.mk [] 0):=⟨⟨by simp,λ_ h=>by cases h⟩,inT (by simp[inI])⟩
theorem Bfu{b:Str}{p:Nat}(c:Bool)(hp:p<=b.length)(hb:b.length<=20000):∃(r:ResS) (q:Nat) (d:Bool),V0 (b,(p:Int),c)=some (r,b,(q:Int),d)/\Au2 r/\q<=b.length:=by
 obtain⟨x,q,d,h1,h2,h3⟩:=Z1 c hp (show b.length<=1000000 by omega);obtain⟨s,to,e,h4,h5⟩:=Aa4 h3 (show b.length<=1000000 by omega);simp only[V0,Ta,h1,h4,Zc1];by_cases he:e=0
 ·obtain⟨s1,j,rfl,j1,j2⟩:=h5 he;obtain⟨l,f,h6,h7⟩:=Bli (b:=s) (by omega);have hr:Au2 (ResS.mk l x):=⟨⟨Nat.le_trans h7.1 (by omega),h7.2⟩,inT h2⟩;rw[Ze1 he,Zt1,Af,h6,Zc1];cases d<;>exact⟨_,j,_,rfl,hr,j2⟩
 ·rw[Zd1 he];exact⟨_,q,_,rfl,Bhx,h3⟩
theorem toN{n:Int}(h:inI n=true)(h0 : 0<=n):((n.toNat:Nat):Int)=n/\n.toNat<=9223372036854775807:=by simp[inI] at h;omega
theorem Blo{b r:Str}{p:Nat}{x:ResS}(hx:Au2 x)(h0 : 0<=x.n)(ho:okM x=true)(hd:b.drop p=Amf x++r)(hb:b.length<=1000000):V0 (b,(p:Int),false)=some (x,b,((p+(Amf x).length:Nat):Int),false)/\b.drop (p+(Amf x).length)=r:=by
 refine⟨?_,by rw[<-List.drop_drop,hd,List.drop_left]⟩;have h1:=congrArg List.length hd;obtain⟨t1,t2⟩:=toN hx.2 h0;rw[Amf,Zj1] at hd;obtain⟨n1,n2⟩:=Yz hd t2 hb;obtain⟨v1,_⟩:=Atc n2 hb;have hl:(Eg x.rows).1.length<=1000000:=by simp only[Amf,Za2,Zh1] at h1;omega
 simp only[V0,Ta,n1,v1,Bev hx.1 ho hl,Zc1,decide_true,Zt1,Af,t1];rw[Nat.add_assoc,<-Zh1];rfl
def tdX:Ex->Aal->Option (OutS×Int):=λe vz=>match vz with|(v3,_,_,_,_,_,_,_,d,a,b,c)=>match e with|.exit 0=>(Amx (OutS.mk a b c)).bind λ(f,g)=>cond d (some ((OutS.mk 0 0 []),11)) (cond (!decide (g=0)) (some ((OutS.mk 0 0 []),11)) (cond (!decide (f=v3)) (some ((OutS.mk 0 0 []),11)) (some ((OutS.mk a b c),0))))|_=>none
def Bl7(b:Str)(o:OutS)(f:Int):Prop:=(o=OutS.mk 0 0 []/\f=11)\/(f=0/\Azw o/\Nj o=(b,0))
theorem Bof{b b':Str}{n i p e pos:Int}{c:Bool}{acc:List ResS}(ho:Azw (OutS.mk e pos acc)):∃o f,tdX (.exit 0) (b,n,i,0,0,[],b',p,c,e,pos,acc)=some (o,f)/\Bl7 b o f:=by
 simp only[tdX,Af6 ho,Zc1];have no:∃o f,some ((OutS.mk 0 0 []),(11:Int))=some (o,f)/\Bl7 b o f:=⟨_,_,rfl,.inl ⟨rfl,rfl⟩⟩;cases c with
 |true=>exact no
 |false =>
  by_cases h1:(Nj (OutS.mk e pos acc)).2=0
  ·by_cases h2:(Nj (OutS.mk e pos acc)).1=b
   ·rw[Ze1 h1,Ze1 h2];exact⟨_,_,rfl,.inr ⟨rfl,ho,Prod.ext h2 h1⟩⟩
   ·rw[Ze1 h1,Zd1 h2];exact no
  ·rw[Zd1 h1];exact no
theorem A8o{b:Str}{n e pos:Int}(hb:b.length<=20000)(he:inI e=true)(hp:inI pos=true):∀(k i p:Nat) (c:Bool) (acc:List ResS),p<=b.length->i<=51->51-i<k->acc.length=i->(∀r,r∈acc->Au2 r)->∃o f,Ak (λrec=>Rc rec tdX) k (b,n,(i:Int),0,0,[],b,(p:Int),c,e,pos,acc)=some (o,f)/\Bl7 b o f
 |0,_,_,_,_,_,_,h,_,_=>by omega
 |k+1,i,p,c,acc,hq,hi,hk,ha,hr=>by
  rw[A8];have stop:∃o f,tdX (.exit 0) (b,n,(i:Int),0,0,[],b,(p:Int),c,e,pos,acc)=some (o,f)/\Bl7 b o f:=Bof ⟨by simp only;omega,he,hp,hr⟩;simp only[Rc];by_cases h1:(i:Int)<n
  ·by_cases h2:(i:Int)<=50
   ·cases c with
    |true =>rw[Ze1 h1,Ze1 h2];exact stop
    |false =>
     obtain⟨r,q,d,r1,r2,r3⟩:=Bfu false hq hb;rw[Ze1 h1,Ze1 h2,r1,Zc1];simp only[Zs1,Ah,chk,Ze1 (show acc.length+1<=Ai by simp[Ai];omega)];rw[B0 (n:=(i:Int)+1) (by simp[inI];omega),show(i:Int)+1=((i+1:Nat):Int) by omega];exact A8o hb he hp k (i+1) q d (acc++[r]) r3 (by omega) (by omega) (by simp;omega) λx hx=>by
      rcases List.mem_append.1 hx with hx|hx
      ·exact hr x hx
      ·rw[List.mem_singleton.1 hx];exact r2
   ·rw[Ze1 h1,Zd1 h2];exact stop
  ·rw[Zd1 h1];exact stop
theorem Avb{b:Str}(hb:b.length<=20000):∃o f,Alh b=some (o,f)/\Bl7 b o f:=by obtain⟨x,p,c,h1,i1,p1⟩:=Z1 (b:=b) (p:=0) false (by omega) (by omega);obtain⟨y,q,d,h2,i2,p2⟩:=Z1 (b:=b) c p1 (by omega);obtain⟨z,r,g,h3,i3,p3⟩:=Z1 (b:=b) d p2 (by omega);simp only[Alh,Sz];rw[show He (b,0,false)=_ from h1];simp only[Zc1,h2,h3];exact A8o hb (inT i1) (inT i2) 5000 0 r g [] p3 (by omega) (by omega) rfl λ_ h=>by cases h
theorem Bkd{b:Str}{n:Nat}{e pos:Int}(hb:b.length<=1000000)(hn:n<=50):∀(l:List ResS) (k p:Nat) (acc:List ResS),b.drop p=Gz l->p<=b.length->l.length<k->acc.length+l.length=n->(∀x,x∈l->Au2 x/\0<=x.n/\okM x=true)->∃q,Ak (λrec=>Rc rec tdX) k (b,(n:Int),(acc.length:Int),0,0,[],b,(p:Int),false,e,pos,acc)=tdX (.exit 0) (b,(n:Int),(n:Int),0,0,[],b,q,false,e,pos,acc++l)
 |_,0,_,_,_,_,h,_,_=>by omega
 |[],k+1,p,acc,hd,hp,_,ha,_=>by simp only[Zi1,Nat.add_zero] at ha;rw[A8];simp only[Rc,ha,Zd1 (show ¬(n:Int)<(n:Int) by omega),Af,List.append_nil];exact⟨_,rfl⟩
 |x::l,k+1,p,acc,hd,hp,hk,ha,hv=>by simp only[Zf1] at hk ha;rw[M7] at hd;obtain⟨x1,x2,x3⟩:=hv x (by simp);obtain⟨h1,h2⟩:=Blo x1 x2 x3 hd hb;have h4:=congrArg List.length hd;simp only[Za2,Zh1] at h4;obtain⟨q,ih⟩:=Bkd (e:=e) (pos:=pos) hb hn l k (p+(Amf x).length) (acc++[x]) h2 (by omega) (by omega) (by simp;omega) λy hy=>hv y (by simp[hy]);refine⟨q,?_⟩;rw[A8];simp only[Rc,Ze1 (show(acc.length:Int)<(n:Int) by omega),Ze1 (show(acc.length:Int)<=50 by omega),Ah,Zs1,h1,Zc1,chk,Ze1 (show acc.length+1<=Ai by simp[Ai];omega)];rw[B0 (n:=(acc.length:Int)+1) (by simp[inI];omega),show(acc.length:Int)+1=((acc.length+1:Nat):Int) by omega];rw[Zh1,Zj1] at ih;exact ih
theorem Bfa{o:OutS}(hb:Azw o)(ho:(Nj o).2=0)(hl:(Bd o).length<=1000000):Alh (Bd o)=some (o,0):=by
 obtain⟨e1,e2,e3,e4,_⟩:=Y9 ho;obtain⟨a1,a2,a3,a4,a5⟩:=Nu e1;obtain⟨t1,t2⟩:=toN hb.2.1 a1;obtain⟨u1,u2⟩:=toN hb.2.2.1 a3;obtain⟨n1,n2⟩:=Yz (b:=Bd o) (p:=0) (show List.drop 0 (Bd o)=A7 9 o.e.toNat++(A7 9 o.pos.toNat++(A7 9 o.l.length++Gz o.l)) by simp only[Bd,Zq1,Zj1]) t2 hl;obtain⟨n3,n4⟩:=Yz n2 u2 hl;obtain⟨n5,n6⟩:=Yz n4 (by omega) hl;have h6:=congrArg List.length n6;simp only[Alh,Sz];rw[show He (Bd o,0,false)=_ from n1];simp only[Zc1,n3,n5,t1,u1];have hw:(Bd o).length=(A7 9 o.e.toNat).length+((A7 9 o.pos.toNat).length+((A7 9 o.l.length).length+(Gz o.l).length)):=by simp only[Bd,Zh1];omega
 obtain⟨q,h⟩:=Bkd (e:=o.e) (pos:=o.pos) hl a5 o.l 5000 _ [] n6 (by omega) (by omega) (by simp) λx hx=>⟨hb.2.2.2 x hx,e2 x hx,e3 x hx⟩;refine h.trans ?_;have hs:Nj o=(Bd o,0):=Prod.ext e4 ho;show((Amx (OutS.mk o.e o.pos ([]++o.l))).bind λ(a,c)=>cond false (some ((OutS.mk 0 0 []),(11:Int))) (cond (!decide (c=0)) (some ((OutS.mk 0 0 []),11)) (cond (!decide (a=Bd o)) (some ((OutS.mk 0 0 []),11)) (some ((OutS.mk o.e o.pos ([]++o.l)),0)))))=_;rw[Zf2,show OutS.mk o.e o.pos o.l=o from rfl,Af6 hb,hs,Zc1];simp only[decide_true,Zt1,Af]
def Am0(r:ResS):Prop:=r.rows.length<=4000/\∀q,q∈r.rows->q.length<=4000
theorem Bpg{a b:Val}(h:¬a=b):∃r,Bjt a b=some r/\r≠0:=by simp only[Bjt,Aa0];rw[Zd1 h];cases decide (a.kind<b.kind)<;>cases decide (a.kind=b.kind)<;>cases decide (a.n<b.n)<;>cases decide (a.n=b.n)<;>cases Op.bytesLess a.s b.s<;>first|exact⟨-1,rfl,by decide⟩|exact⟨1,rfl,by decide⟩
def drK(e:Ex)(v:Rj):Option Int:=match v with
 |(v3,v4,v5)=>match e with
  |.exit 0 =>
  let j1:=λ(p4:Bool) =>
   cond (p4) (
   chk (inb v5 v3.length) (
    chk (inb v5 v4.length) (
    (Bjt (at' .val v3 v5) (at' .val v4 v5)).bind λx =>some x))) (
   cond (decide (v5<(v4.length:Int))) (
    some (-1)) (
    cond (decide (v5<(v3.length:Int))) (
    some 1) (
    some 0)))
  cond (decide (v5<(v3.length:Int))) (
   j1 (decide (v5<(v4.length:Int)))) (
   j1 false)
  |_=>none
theorem A8g{a b:List Val}(ha:a.length<=4000)(hb:b.length<=4000):∀(k i:Nat),i<=a.length->i<=b.length->a.length-i<k->∃r,Ak (λrec=>Ig rec drK) k (a,b,(i:Int))=some r/\(r=0↔a.drop i=b.drop i)
 |0,_,_,_,h=>by omega
 |k+1,i,hi,hj,hk=>by
  have hln:ln a.length:=by simp[ln];omega
  rw[A8];by_cases h:i<a.length
  ·by_cases g:i<b.length
   ·rw[List.drop_eq_getElem_cons h,List.drop_eq_getElem_cons g];by_cases hv:a[i]=b[i]
    ·obtain⟨r,h1,h2⟩:=A8g ha hb k (i+1) h g (by omega);refine⟨r,?_,h2.trans ⟨λe=>by rw[hv,e],λe=>(List.cons.inj e).2⟩⟩;simp only[Ig,C6 h,C6 g,Ah,Ay h,Ay g,chk,Aw (c :=.val) h,Aw (c :=.val) g,Ze1 hv,As h hln];exact h1
    ·obtain⟨r,h1,h2⟩:=Bpg hv;refine⟨r,?_,⟨λe=>absurd e h2,λe=>absurd (List.cons.inj e).1 hv⟩⟩;simp only[Ig,C6 h,C6 g,Ah,Ay h,Ay g,chk,Aw (c :=.val) h,Aw (c :=.val) g,Zd1 hv,Af,drK,h1,Zc1]
   ·have e:i=b.length:=by omega
    refine⟨1,?_,⟨λe=>absurd e (by decide),λe2 =>?_⟩⟩
    ·simp only[Ig,C6 h,Zd1 (show ¬(i:Int)<(b.length:Int) by omega),Ah,Af,drK]
    ·have:=congrArg List.length e2;simp only[Za2] at this;omega
  ·by_cases g:i<b.length
   ·refine⟨-1,?_,⟨λe=>absurd e (by decide),λe2 =>?_⟩⟩
    ·simp only[Ig,C6 g,Zd1 (show ¬(i:Int)<(a.length:Int) by omega),Ah,Af,drK]
    ·have:=congrArg List.length e2;simp only[Za2] at this;omega
   ·refine⟨0,?_,⟨λ_ =>?_,λ_=>rfl⟩⟩
    ·simp only[Ig,Zd1 (show ¬(i:Int)<(a.length:Int) by omega),Zd1 (show ¬(i:Int)<(b.length:Int) by omega),Af,drK]
    ·rw[Zk1 (by omega),Zk1 (by omega)]
theorem Bpq{a b:List Val}(m:Nat)(hm : 4000<m)(ha:a.length<=4000)(hb:b.length<=4000):∃r,Uv m (a,b)=some r/\(r=0↔a=b):=by obtain⟨r,h1,h2⟩:=A8g ha hb m 0 (by omega) (by omega) (by omega);rw[Zq1,Zq1] at h2;exact⟨r,h1,h2⟩
theorem Bja{a b:List Val}(ha:a.length<=4000)(hb:b.length<=4000):∃r,Bfz a b=some r/\(r=0↔a=b):=Bpq 10000 (by omega) ha hb
theorem Aza{a b:List (List Val)}{kx:Ex->M0->Option Bool}(hl:a.length<=4000)(he:a.length=b.length)(ha:∀r,r∈a->r.length<=4000)(hb:∀r,r∈b->r.length<=4000)(h1:∀i,kx .ret (a,b,false,i)=some false)(h2:∀i,kx (.exit 0) (a,b,false,i)=some true):∀(k i:Nat),i<=a.length->a.length-i<k ->
  Ak (λrec=>Mi rec kx) k (a,b,false,(i:Int))=some (decide (a.drop i=b.drop i))
 |0,_,_,h=>by omega
 |k+1,i,hi,hk=>by
  have hln:ln a.length:=by simp[ln];omega
  rw[A8];by_cases h:i<a.length
  ·have g:i<b.length:=by omega
   obtain⟨r,r1,r2⟩:=Bja (ha _ (List.getElem_mem h)) (hb _ (List.getElem_mem g));simp only[Mi,C6 h,Ah,Ay h,Ay g,chk,Aw (c :=.vals) h,Aw (c :=.vals) g,As h hln,r1,Zc1];rw[List.drop_eq_getElem_cons h,List.drop_eq_getElem_cons g];by_cases hv:a[i]=b[i]
   ·rw[Ze1 (r2.2 hv)];refine(Aza hl he ha hb h1 h2 k (i+1) h (by omega)).trans ?_;exact congrArg some (Zy1.2 ⟨λe=>by rw[hv,e],λe=>(List.cons.inj e).2⟩)
   ·rw[Zd1 (λe=>hv (r2.1 e))];refine(h1 _).trans ?_;exact congrArg some (Zd1 λe=>hv (List.cons.inj e).1).symm
  ·have:i=a.length:=by omega
   subst this;simp only[Mi,E6,Af,h2];rw[Zc2,he,Zc2];rfl
theorem Blp{a b:List (List Val)}(m:Nat)(hm : 4000<m)(hl:a.length<=4000)(ha:∀r,r∈a->r.length<=4000)(hb:∀r,r∈b->r.length<=4000):Km m (a,b)=some (decide (a=b)):=by
 simp only[Km];by_cases he:a.length=b.length
 ·rw[Ze1 (show(a.length:Int)=(b.length:Int) by omega)];have:=Aza (kx:=λe vz=>match vz with|(_,_,v6,_)=>match e with
   |.ret=>some v6
   |.exit 0=>some true
   |_=>none) hl he ha hb (λ_=>rfl) (λ_=>rfl) m 0 (by omega) (by omega)
  rw[Zq1,Zq1] at this;exact this
 ·rw[Zd1 (show ¬(a.length:Int)=(b.length:Int) by omega),Zd1 (show ¬a=b fromλe=>he (by rw[e]))];rfl
theorem Baf{a b:List (List Val)}(hl:a.length<=4000)(ha:∀r,r∈a->r.length<=4000)(hb:∀r,r∈b->r.length<=4000):A2b a b=some (decide (a=b)):=Blp 10000 (by omega) hl ha hb
deriving instance DecidableEq for ResS,OutS
theorem Bff{a b:ResS}(ha:Am0 a)(hb:Am0 b):A8k a b=some (decide (a=b)):=by
 simp only[A8k,Vv];by_cases h:a.n=b.n
 ·rw[Ze1 h,Ah,Baf ha.1 ha.2 hb.2];refine congrArg some (Zy1.2 ⟨λe =>?_,λe=>by rw[e]⟩);cases a;cases b;simp only at h e;rw[h,e]
 ·rw[Zd1 h,Zd1 (show ¬a=b fromλe=>h (by rw[e]))];rfl
def dsK(e:Ex)(vz:Tb):Option Bool:=match vz with
 |(v2,_,_,_)=>match e with|.ret=>some v2|.exit 0=>some true|_=>none
theorem A7y{a b:OutS}(hl:a.l.length<=4000)(he:a.l.length=b.l.length)(ha:∀r,r∈a.l->Am0 r)(hb:∀r,r∈b.l->Am0 r):∀(k i:Nat),i<=a.l.length->a.l.length-i<k ->
  Ak (λrec=>Nl rec dsK) k (false,(i:Int),a,b)=some (decide (a.l.drop i=b.l.drop i))
 |0,_,_,h=>by omega
 |k+1,i,hi,hk=>by
  have hln:ln a.l.length:=by simp[ln];omega
  rw[A8];by_cases h:i<a.l.length
  ·have g:i<b.l.length:=by omega
   simp only[Nl,C6 h,Ah,Ay h,Ay g,chk,Aw (c :=.res) h,Aw (c :=.res) g,As h hln,Bff (ha _ (List.getElem_mem h)) (hb _ (List.getElem_mem g)),Zc1];rw[List.drop_eq_getElem_cons h,List.drop_eq_getElem_cons g];by_cases hv:a.l[i]=b.l[i]
   ·rw[Ze1 hv];refine(A7y hl he ha hb k (i+1) h (by omega)).trans ?_;exact congrArg some (Zy1.2 ⟨λe=>by rw[hv,e],λe=>(List.cons.inj e).2⟩)
   ·rw[Zd1 hv];exact congrArg some (Zd1 λe=>hv (List.cons.inj e).1).symm
  ·have:i=a.l.length:=by omega
   subst this;simp only[Nl,E6,Af];rw[Zc2,he,Zc2];rfl
theorem Bo4{a b:OutS}(m:Nat)(hm : 4000<m)(hl:a.l.length<=4000)(ha:∀r,r∈a.l->Am0 r)(hb:∀r,r∈b.l->Am0 r):Nh m (a,b)=some (decide (a=b)):=by
 have u:Nh m (a,b)=cond (!decide (a.e=b.e)) (some false) (cond (!decide (a.pos=b.pos)) (some false) (cond (!decide ((a.l.length:Int)=(b.l.length:Int))) (some false) (Ak (λrec=>Nl rec dsK) m (false,0,a,b)))):=rfl;rw[u];by_cases h1:a.e=b.e
 ·by_cases h2:a.pos=b.pos
  ·by_cases h3:a.l.length=b.l.length
   ·rw[Ze1 h1,Ze1 h2,Ze1 (show(a.l.length:Int)=(b.l.length:Int) by omega)];have:=A7y (a:=a) (b:=b) hl h3 ha hb m 0 (by omega) (by omega);rw[Zq1,Zq1] at this;refine this.trans (congrArg some (Zy1.2 ⟨λe =>?_,λe=>by rw[e]⟩));cases a;cases b;simp only at h1 h2 e;rw[h1,h2,e]
   ·rw[Ze1 h1,Ze1 h2,Zd1 (show ¬(a.l.length:Int)=(b.l.length:Int) by omega),Zd1 (show ¬a=b fromλe=>h3 (by rw[e]))];rfl
  ·rw[Ze1 h1,Zd1 h2,Zd1 (show ¬a=b fromλe=>h2 (by rw[e]))];rfl
 ·rw[Zd1 h1,Zd1 (show ¬a=b fromλe=>h1 (by rw[e]))];rfl
theorem Bgv{a b:OutS}(hl:a.l.length<=4000)(ha:∀r,r∈a.l->Am0 r)(hb:∀r,r∈b.l->Am0 r):A65 a b=some (decide (a=b)):=Bo4 10000 (by omega) hl ha hb
end Go.Proofs.YtblaahgjaopdnaaGreatDoor
