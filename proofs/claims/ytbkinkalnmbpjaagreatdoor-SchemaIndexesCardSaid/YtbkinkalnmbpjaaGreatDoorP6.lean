/- Texts of the proof,one behind the other: Lz,Pg,Ph,Pj,Bw,Shj,Sj,Wr,Ws,Pi,Sf,Vc,Rv,Da,Db,Vt,Nf,Uq,Us. -/
import Derived.Test.YtbkinkalnmbpjaaGreatDoorP5
import Derived.Lib.Walk
import Derived.Lib.Strings
import Derived.Lib.Slices
import Derived.Lib.Builder
import Derived.Lib.UnsafeStr
import Derived.Lib.FrozenHead
import Derived.Laws.Externs
import Derived.Shelf.RegionOpenPlain
import Derived.Shelf.Strings.OnBuilder
set_option linter.all false
namespace Go.Proofs.YtbkinkalnmbpjaaGreatDoor
open Go.Ax
def P6:Sig:=⟨21,[(0,.str),(1,.int .i64)],[(2,.fn 236 [])],[(0,.one (.sv .tok)),(1,.one (.sv .tok))],40,40,200,[],[]⟩
abbrev Fq:=Str×Int×Tok×Tok
def Im{R:Type}(rec:Fq->Option R)(kx:Ex->Fq->Option R)(v:Fq):Option R:=match v with
 |(a,b,w4,w5) =>
 cond (decide (b<(a.length:Int))) (
  chk (inb b a.length) (
  cond ((V3 (bat a b))) (
   rec (a,(wr .i64 (b+1)),w4,w5)) (
   kx (.exit 0) (a,b,w4,w5)))) (
  kx (.exit 0) (a,b,w4,w5))
def Ob:Sig:=⟨21,[(0,.str),(1,.int .i64)],[(2,.fn 183 [])],[(0,.one (.sv .tok)),(1,.one (.sv .tok))],40,40,200,[],[]⟩
abbrev Fg:=Str×Int×Tok×Tok
def I9{R:Type}(rec:Fg->Option R)(kx:Ex->Fg->Option R)(v:Fg):Option R:=match v with
 |(v6,v7,w2,w3) =>
 cond (decide (v7<(v6.length:Int))) (
  chk (inb v7 v6.length) (
  cond ((Aas (bat v6 v7))) (
   rec (v6,(wr .i64 (v7+1)),w2,w3)) (
   kx (.exit 0) (v6,v7,w2,w3)))) (
  kx (.exit 0) (v6,v7,w2,w3))
def Ow:Sig:=⟨21,[(0,.str),(1,.int .i64)],[(2,.fn 246 [])],[(0,.one (.sv .tok)),(1,.one (.sv .tok))],40,40,200,[],[]⟩
abbrev Ff:=Str×Int×Tok×Tok
def I0{R:Type}(rec:Ff->Option R)(kx:Ex->Ff->Option R)(v:Ff):Option R:=match v with
 |(v,v1,w,w1) =>
 cond (decide (v1<(v.length:Int))) (
  chk (inb v1 v.length) (
  cond ((Ac4 (bat v v1))) (
   rec (v,(wr .i64 (v1+1)),w,w1)) (
   kx (.exit 0) (v,v1,w,w1)))) (
  kx (.exit 0) (v,v1,w,w1))
def Fw(R:Type)(k:Nat):Px R:=pxO [(246,cA Adg),(183,cA Adi),(236,cA Ad0)] [] [(1,Xn k Ow (I0) (Xn k Ob (I9) (Ao k P6 (Im))))] []
noncomputable def Alj(R:Type)(k:Nat):Px R:=pxO [(244,cA Aze),(203,cA Adw),(245,cA Ao4),(246,cA Adg),(247,cA Azu),(248,cA Ap4),(181,cA Adk),(113,cA Mv),(236,cA Ad0),(249,cA Ae2),(250,cA Afk),(226,cA Ahv),(251,cA Aph),(182,Aw 40 200 (Fw R k) Tryz.f182)] [] [] []
theorem Au5(R:Type)(k:Nat):∀(fr:List Fr) (rec:Ff->Option R) (kx:Ex->Ff->Option R) (v:Ff),Qb (Fw R k) Ow (lp Tryz.f182 0) fr rec kx v=I0 rec kx v
 |fr,rec,kx,(v,v1,w,w1)=>by kernel_rfl
theorem Aq8(R:Type)(k:Nat):∀(fr:List Fr) (rec:Fg->Option R) (kx:Ex->Fg->Option R) (v:Fg),Qb (Fw R k) Ob (lp Tryz.f182 0) fr rec kx v=I9 rec kx v
 |fr,rec,kx,(v6,v7,w2,w3)=>by kernel_rfl
theorem Aqn(R:Type)(k:Nat):∀(fr:List Fr) (rec:Fq->Option R) (kx:Ex->Fq->Option R) (v:Fq),Qb (Fw R k) P6 (lp Tryz.f182 0) fr rec kx v=Im rec kx v
 |fr,rec,kx,(a,b,w4,w5)=>by kernel_rfl
def Pb(k:Nat)(x:HV [.str,.int .i64]):Option (HV [.sv .tok,.int .i64]):=match x with
 |(s,i) =>
 chk (inb i s.length) (
  chk (E4 i s.length s.length) (
  cond ((hpre (s.drop (i:Int).toNat) [120,39])) (
   chk (E4 (wr .i64 (i+2)) s.length s.length) (
   cond (decide ((Jt (s.drop ((wr .i64 (i+2)):Int).toNat) 39)<0)) (
    some ((Tok.mk 0 i [] 0),(-1))) (
    chk (E4 (wr .i64 (i+2)) (wr .i64 ((wr .i64 (i+2))+(Jt (s.drop ((wr .i64 (i+2)):Int).toNat) 39))) s.length) (
    (A0b (cut s (wr .i64 (i+2)) (wr .i64 ((wr .i64 (i+2))+(Jt (s.drop ((wr .i64 (i+2)):Int).toNat) 39))))).bind λ(x,x1) =>
     cond (!decide (x1=0)) (
     some ((Tok.mk 5 i x 0),(-1))) (
     cond (decide (1000<(x.length:Int))) (
      some ((Tok.mk 5 i x 0),(-1))) (
      some ((Tok.mk 5 i x 0),(wr .i64 ((wr .i64 (i+3))+(Jt (s.drop ((wr .i64 (i+2)):Int).toNat) 39)))))))))) (
   cond ((Ac4 (bat s i))) (
   Aq (λrec=>I0 rec (λe vz=>match vz with|(_,v3,_,v5)=>match e with
    |.exit 0 =>
    chk (E4 i v3 s.length) (
     cond (!(Amy (cut s i v3))) (
     some ((Tok.mk 1 v5.pos (cut s i v3) v5.n),(-1))) (
     (Tt s v3).bind λx2 =>
      cond (!x2) (
      some ((Tok.mk 1 v5.pos (cut s i v3) v5.n),(-1))) (
      some ((Tok.mk 1 v5.pos (cut s i v3) v5.n),v3))))
    |_=>none)) k (s,i,(Tok.mk 0 0 [] 0),(Tok.mk 0 i [] 0))) (
   cond ((V9 (bat s i))) (
    Aq (λrec=>I9 rec (λe vz=>match vz with|(_,v9,_,b)=>match e with
    |.exit 0 =>
     chk (E4 i v9 s.length) (
     cond (!(F2 (cut s i v9))) (
      some ((Tok.mk 2 b.pos (cut s i v9) b.n),(-1))) (
      (Tt s v9).bind λx3 =>
      cond (!x3) (
       some ((Tok.mk 2 b.pos (cut s i v9) b.n),(-1))) (
       some ((Tok.mk 2 b.pos (cut s i v9) b.n),v9))))
    |_=>none)) k (s,i,(Tok.mk 0 0 [] 0),(Tok.mk 0 i [] 0))) (
    cond ((V3 (bat s i))) (
    Aq (λrec=>Im rec (λe vz=>match vz with|(_,a,_,c)=>match e with
     |.exit 0 =>
     chk (E4 i a s.length) (
      (Apb (cut s i a)).bind λ(x4,x5) =>
      chk (E4 i a s.length) (
       cond (!x5) (
       some ((Tok.mk 3 c.pos (cut s i a) x4),(-1))) (
       (Tt s a).bind λx6 =>
        cond (!x6) (
        some ((Tok.mk 3 c.pos (cut s i a) x4),(-1))) (
        some ((Tok.mk 3 c.pos (cut s i a) x4),a)))))
     |_=>none)) k (s,i,(Tok.mk 0 0 [] 0),(Tok.mk 0 i [] 0))) (
    cond (decide ((bat s i)=39)) (
     (Aqe s (wr .i64 (i+1))).bind λ(x7,x8) =>
     cond (!decide ((Of (Val.mk 4 0 x7))=0)) (
      some ((Tok.mk 4 i x7 0),(-1))) (
      some ((Tok.mk 4 i x7 0),x8))) (
     chk (E4 i s.length s.length) (
     (Bcg (s.drop (i:Int).toNat)).bind λx9 =>
      chk (E4 i (wr .i64 (i+x9)) s.length) (
      cond (decide (x9=0)) (
       some ((Tok.mk 6 i (cut s i (wr .i64 (i+x9))) 0),(-1))) (
       some ((Tok.mk 6 i (cut s i (wr .i64 (i+x9))) 0),(wr .i64 (i+x9)))))))))))))
theorem Ayz(k:Nat):FO 204 [.str,.int .i64] [.sv .tok,.int .i64] (Pb k):=fR (px:=Alj _ k) (n:=0) Tryz.func204 rfl (λcx H=>by have h1:Lv cx (Fw (HV [.sv .tok,.int .i64]) k):=lv H (c1 H Afm (c1 H Afo (c1 H Ae1 Ae))) Aa Ab;have hlltoken_0:B9 cx (Fw (HV [.sv .tok,.int .i64]) k) (lp Tryz.f182 0):=A0i (λ_ _=>by kernel_rfl) (Aah (Po h1.p h1.c h1.q (by rw[H.p];exact follows) (k:=k) (s:=Ow) (step:=I0) (by kernel_rfl) (Au5 _ k) (Iv (n:=0) (by kernel_rfl) Ai)) (Aah (Po h1.p h1.c h1.q (by rw[H.p];exact follows) (k:=k) (s:=Ob) (step:=I9) (by kernel_rfl) (Aq8 _ k) (Iv (n:=0) (by kernel_rfl) Ai)) (Po h1.p h1.c h1.q (by rw[H.p];exact follows) (k:=k) (s:=P6) (step:=Im) (by kernel_rfl) (Aqn _ k) (Iv (n:=0) (by kernel_rfl) Ai))));have h0:Lv cx (Alj (HV [.sv .tok,.int .i64]) k):=lv H (c1 H A2n (c1 H Ah3 (c1 H A9i (c1 H Afm (c1 H Bc2 (c1 H Bco (c1 H Aeg (c1 H P5 (c1 H Ae1 (c1 H A52 (c1 H A5u (c1 H Amp (c1 H Bbn (An (cR H h1 Tryz.func182 rfl (n:=1) ((Bc Ai hlltoken_0))) Ae)))))))))))))) Aa Ab;exact⟨h0,Ai⟩) λ(_,_)=>by kernel_rfl
def Zk(s:Str)(i:Int):Option (Tok×Int):=if s.length<=20000 then Pb 20001 (s,i) else none
def Aiv:FT [.str,.int .i64] [.sv .tok,.int .i64]:=λx=>Zk x.1 x.2
theorem A5e:FO 204 [.str,.int .i64] [.sv .tok,.int .i64] Aiv :=.fin 0 Ayz λ(s,i) r hb hx=>⟨20001,by
 simp only[Aiv,Zk] at hx;split at hx
 ·exact hx
 ·cases hx⟩
theorem Tq{R:Type}{kx:Ex->Ff->Option R}{s:Str}(w w1:Tok){a:Int->Option R}(hs:ln s.length)(h1:∀j,kx (.exit 0) (s,j,w,w1)=a j):∀(k i:Nat),i<=s.length->s.length-i<k->Aq (λrec=>I0 rec kx) k (s,(i:Int),w,w1)=a (Lp.runTo Lp.isUp s i)
 |0,i,_,h=>absurd h (Zm1 _)
 |k+1,i,hi,h=>by
  rw[Bu];by_cases hl:i<s.length
  ·have ih:=Tq w w1 hs h1 k (i+1) (by omega) (by omega);have eb:Sx.byt s (i:Int)=(s[i].toNat:Int):=Ct hl;simp only[I0,Ay hl hs,ih,h1,Ct hl,A1 hl,Ag6];rw[Ze1 (show(i:Int)<(s.length:Int) by omega)];cases hp:Lp.isUp (s[i].toNat:Int) with|true =>have:=Lp.runTo_yes (p:=Lp.isUp) (l:=s) (j:=i) (by omega) (by rw[eb];exact hp);rw[<-this];rfl|false =>have:=Lp.runTo_no (p:=Lp.isUp) (l:=s) (j:=i) (by omega) (by rw[eb];exact hp);rw[this];rfl
  ·have:=Lp.runTo_end (p:=Lp.isUp) (l:=s) (j:=i) (by omega);simp only[I0,h1];rw[Zd1 (by omega),this];rfl
theorem S2{R:Type}{kx:Ex->Fg->Option R}{s:Str}(w w1:Tok){a:Int->Option R}(hs:ln s.length)(h1:∀j,kx (.exit 0) (s,j,w,w1)=a j):∀(k i:Nat),i<=s.length->s.length-i<k->Aq (λrec=>I9 rec kx) k (s,(i:Int),w,w1)=a (Lp.runTo Lp.isIn s i)
 |0,i,_,h=>absurd h (Zm1 _)
 |k+1,i,hi,h=>by
  rw[Bu];by_cases hl:i<s.length
  ·have ih:=S2 w w1 hs h1 k (i+1) (by omega) (by omega);have eb:Sx.byt s (i:Int)=(s[i].toNat:Int):=Ct hl;simp only[I9,Ay hl hs,ih,h1,Ct hl,A1 hl,Ahl];rw[Ze1 (show(i:Int)<(s.length:Int) by omega)];cases hp:Lp.isIn (s[i].toNat:Int) with|true =>have:=Lp.runTo_yes (p:=Lp.isIn) (l:=s) (j:=i) (by omega) (by rw[eb];exact hp);rw[<-this];rfl|false =>have:=Lp.runTo_no (p:=Lp.isIn) (l:=s) (j:=i) (by omega) (by rw[eb];exact hp);rw[this];rfl
  ·have:=Lp.runTo_end (p:=Lp.isIn) (l:=s) (j:=i) (by omega);simp only[I9,h1];rw[Zd1 (by omega),this];rfl
theorem Tr{R:Type}{kx:Ex->Fq->Option R}{s:Str}(w w1:Tok){a:Int->Option R}(hs:ln s.length)(h1:∀j,kx (.exit 0) (s,j,w,w1)=a j):∀(k i:Nat),i<=s.length->s.length-i<k->Aq (λrec=>Im rec kx) k (s,(i:Int),w,w1)=a (Lp.runTo Lp.isDi s i)
 |0,i,_,h=>absurd h (Zm1 _)
 |k+1,i,hi,h=>by
  rw[Bu];by_cases hl:i<s.length
  ·have ih:=Tr w w1 hs h1 k (i+1) (by omega) (by omega);have eb:Sx.byt s (i:Int)=(s[i].toNat:Int):=Ct hl;simp only[Im,Ay hl hs,ih,h1,Ct hl,A1 hl,Ags];rw[Ze1 (show(i:Int)<(s.length:Int) by omega)];cases hp:Lp.isDi (s[i].toNat:Int) with|true =>have:=Lp.runTo_yes (p:=Lp.isDi) (l:=s) (j:=i) (by omega) (by rw[eb];exact hp);rw[<-this];rfl|false =>have:=Lp.runTo_no (p:=Lp.isDi) (l:=s) (j:=i) (by omega) (by rw[eb];exact hp);rw[this];rfl
  ·have:=Lp.runTo_end (p:=Lp.isDi) (l:=s) (j:=i) (by omega);simp only[Im,h1];rw[Zd1 (by omega),this];rfl
theorem Vw{i j:Int}{n:Nat}(h : 0<=i/\i<=j/\j<=n):E4 i j n=true:=by simp[E4,h]
theorem Axp{n:Int}(h : 0<=n/\n<=1000000):wr .i64 n=n:=Dr (by simp only[inI];omega)
theorem A3w{x:Str}(h:x≠[]):Apb x=some (A9w x):=by cases x with|nil=>exact absurd rfl h|cons b l=>rfl
theorem Bc1{x:Str}(h:x≠[]):Bcg x=some (Lp.signF x):=by cases x with|nil=>exact absurd rfl h|cons b l=>rfl
theorem Ahk{s:Str}{i:Int}(h : 0<=i/\i<=s.length):Tt s i=some (Lp.aloneF s i):=if_pos h
theorem Awi(x:Str):Ml x=Lp.visF x:=by
 have e:∀b:UInt8,vis b=Lp.vis (b.toNat:Int):=λb=>by simp only[vis,Lp.vis];rw[show decide (32<=b.toNat)=decide (32<=(b.toNat:Int)) from Zy1.2 (by omega),show decide (b.toNat<=126)=decide ((b.toNat:Int)<=126) from Zy1.2 (by omega)]
 simp only[Ml,Lp.visF];congr 1;funext b;exact e b
theorem Asa(x:Str):Eu (Val.mk 4 0 x)=Lp.rightF 4 0 x:=by show cond (decide ((x.length:Int)<=1000)) (Ml x) false=(decide ((x.length:Int)<=1000)&&Lp.visF x);rw[Awi];cases decide ((x.length:Int)<=1000)<;>rfl
theorem Atf(x:Str):decide (Of (Val.mk 4 0 x)=0)=Lp.rightF 4 0 x:=by
 have key:∀b:Bool,decide (cond (!b) (2:Int) 0=0)=b:=by decide
 rw[<-Asa];exact key _
theorem Ays{s:Str}{i:Int}(hl : 0<=i/\i<s.length)(hs:s.length<=20000):match Lp.tokF s i with
  |some (k,x,n,e)=>Zk s i=some (⟨k,i,x,n⟩,e)
  |none=>∃t,Zk s i=some (t, -1):=by
 have hln:ln s.length:=by simp only[ln];omega
 have hd:(s.drop i.toNat).length=s.length-i.toNat:=Za2;have hd2:(s.drop (i+2).toNat).length=s.length-(i+2).toNat:=Za2;have hne:s.drop i.toNat≠[]:=List.ne_nil_of_length_pos (by omega);obtain⟨m,rfl⟩:=Int.eq_ofNat_of_zero_le hl.1;have hm:m<s.length:=by omega
 have ep:∀p q,hpre p q=Lp.pre p q:=λ_ _=>rfl;have eb:bat s (m:Int)=Sx.byt s (m:Int):=rfl;have e39:Jt (s.drop ((m:Int)+2).toNat) 39=Lib.indexByte (s.drop ((m:Int)+2).toNat) 39:=rfl;simp only[Zk,if_pos hs,Pb,A1 hm,Vw (show 0<=(m:Int)/\(m:Int)<=(s.length:Int)/\(s.length:Int)<=s.length by omega),ep,eb,Ag6,Ahz,Ags,chk,Ah,Lp.tokF,Axp (show 0<=(m:Int)+2/\(m:Int)+2<=1000000 by omega),Axp (show 0<=(m:Int)+3/\(m:Int)+3<=1000000 by omega),Axp (show 0<=(m:Int)+1/\(m:Int)+1<=1000000 by omega)];cases hx:Lp.pre (s.drop (m:Int).toNat) [120,39] with
 |true =>
  have h2 : 2<=(s.drop (m:Int).toNat).length:=by simp only[Lp.pre,Zb1,Zg1,Zf1,Zi1] at hx;omega
  have hib:=Lp.indexByte_in (s.drop ((m:Int)+2).toNat) 39;simp only[if_true,Ah];rw[Vw (show 0<=(m:Int)+2/\(m:Int)+2<=(s.length:Int)/\(s.length:Int)<=s.length by omega),e39,Ah];generalize Lib.indexByte (s.drop ((m:Int)+2).toNat) 39=z at hib ⊢;by_cases hz:z<0
  ·rw[if_pos hz,Ze1 hz];exact⟨_,rfl⟩
  ·rw[if_neg hz,Zd1 hz,Axp (show 0<=(m:Int)+2+z/\(m:Int)+2+z<=1000000 by omega),Axp (show 0<=(m:Int)+3+z/\(m:Int)+3+z<=1000000 by omega),Vw (show 0<=(m:Int)+2/\(m:Int)+2<=(m:Int)+2+z/\(m:Int)+2+z<=s.length by omega),Al,Ah];have hcl:=Lp.cut_length s ((m:Int)+2) ((m:Int)+2+z) (by omega);have ec:cut s ((m:Int)+2) ((m:Int)+2+z)=Sx.cut s ((m:Int)+2) ((m:Int)+2+z):=rfl;rw[ec];generalize Sx.cut s ((m:Int)+2) ((m:Int)+2+z)=y at hcl ⊢;have eu:A0b y=some (unP y):=if_pos (by omega);rw[eu,unP];cases (if y.length % 2=0 then Lp.unGo y [] else none) with
   |none=>exact⟨_,rfl⟩
   |some b =>
    by_cases hb : 1000<(b.length:Int)
    ·simp only[Zc1];rw[if_pos hb,Ze1 hb];exact⟨_,rfl⟩
    ·simp only[Zc1];rw[if_neg hb,Zd1 hb];rfl
 |false =>
  simp only[Al,Zi2,if_false];cases hu:Lp.isUp (Sx.byt s (m:Int)) with
  |true =>
   have hr:=Lp.runTo_range Lp.isUp s m (by omega);simp only[Ah,if_true];rw[Tq (s:=s) (w:=Tok.mk 0 0 [] 0) (w1:=Tok.mk 0 m [] 0) (a:=λv3=>cond (E4 (m:Int) v3 s.length) (cond (!(Amy (cut s m v3))) (some ((Tok.mk 1 m (cut s m v3) 0),(-1))) ((Tt s v3).bind λx2=>cond (!x2) (some ((Tok.mk 1 m (cut s m v3) 0),(-1))) (some ((Tok.mk 1 m (cut s m v3) 0),v3)))) none) hln (λ_=>rfl) 20001 m (by omega) (by omega)];rw[Vw (by omega),Ahk (by omega),Bbu];have ec:cut s (m:Int) (Lp.runTo Lp.isUp s m)=Sx.cut s (m:Int) (Lp.runTo Lp.isUp s m):=rfl;rw[ec];cases Lp.wordF (Sx.cut s (m:Int) (Lp.runTo Lp.isUp s m)) with
   |false=>exact⟨_,rfl⟩
   |true =>cases Lp.aloneF s (Lp.runTo Lp.isUp s m) with|false=>exact⟨_,rfl⟩|true=>rfl
  |false =>
   simp only[Al,Zi2,if_false];cases hu2:Lp.isLo (Sx.byt s (m:Int)) with
   |true =>
    have hr:=Lp.runTo_range Lp.isIn s m (by omega);simp only[Ah,if_true];rw[S2 (s:=s) (w:=Tok.mk 0 0 [] 0) (w1:=Tok.mk 0 m [] 0) (a:=λv3=>cond (E4 (m:Int) v3 s.length) (cond (!(F2 (cut s m v3))) (some ((Tok.mk 2 m (cut s m v3) 0),(-1))) ((Tt s v3).bind λx2=>cond (!x2) (some ((Tok.mk 2 m (cut s m v3) 0),(-1))) (some ((Tok.mk 2 m (cut s m v3) 0),v3)))) none) hln (λ_=>rfl) 20001 m (by omega) (by omega)];rw[Vw (by omega),Ahk (by omega)];have ec:cut s (m:Int) (Lp.runTo Lp.isIn s m)=Sx.cut s (m:Int) (Lp.runTo Lp.isIn s m):=rfl;rw[ec];simp only[F2];cases Lp.nameF (Sx.cut s (m:Int) (Lp.runTo Lp.isIn s m)) with
    |false=>exact⟨_,rfl⟩
    |true =>cases Lp.aloneF s (Lp.runTo Lp.isIn s m) with|false=>exact⟨_,rfl⟩|true=>rfl
   |false =>
    simp only[Al,Zi2,if_false];cases hu3:Lp.isDi (Sx.byt s (m:Int)) with
    |true =>
     have hr:=Lp.runTo_range Lp.isDi s m (by omega);have hg:=Lp.runTo_gt (p:=Lp.isDi) (by omega) hu3;have hcl:=Lp.cut_length s (m:Int) (Lp.runTo Lp.isDi s m) (by omega);simp only[Ah,if_true];rw[Tr (s:=s) (w:=Tok.mk 0 0 [] 0) (w1:=Tok.mk 0 m [] 0) (a:=λv3=>cond (E4 (m:Int) v3 s.length) ((Apb (cut s m v3)).bind λ(x4,x5)=>cond (E4 (m:Int) v3 s.length) (cond (!x5) (some ((Tok.mk 3 m (cut s m v3) x4),(-1))) ((Tt s v3).bind λx6=>cond (!x6) (some ((Tok.mk 3 m (cut s m v3) x4),(-1))) (some ((Tok.mk 3 m (cut s m v3) x4),v3)))) none) none) hln (λ_=>rfl) 20001 m (by omega) (by omega)];have ec:cut s (m:Int) (Lp.runTo Lp.isDi s m)=Sx.cut s (m:Int) (Lp.runTo Lp.isDi s m):=rfl;rw[Vw (by omega),Ahk (by omega),ec];generalize Sx.cut s (m:Int) (Lp.runTo Lp.isDi s m)=y at hcl ⊢;rw[A3w (List.ne_nil_of_length_pos (by omega)),A9w];cases Lp.numGo y 0 with
     |none=>exact⟨_,rfl⟩
     |some n =>
      simp only[Zc1,Ah];have e0:(decide (y=[48]) || !decide (bat y 0=48))=(decide (y=[48])||Sx.byt y 0 != 48):=rfl;rw[e0];cases (decide (y=[48])||Sx.byt y 0 != 48) with
      |false=>exact⟨_,rfl⟩
      |true =>cases Lp.aloneF s (Lp.runTo Lp.isDi s m) with|false=>exact⟨_,rfl⟩|true=>rfl
    |false =>
     simp only[Al,Zi2,if_false];by_cases h39:Sx.byt s (m:Int)=39
     ·have hqi:=Lp.qGo_in _ (s.drop ((m:Int)+1).toNat) [] ((m:Int)+1) (Zn1 _) (by omega);have eq:Aqe s ((m:Int)+1)=some (Lp.qGo (s.drop ((m:Int)+1).toNat) [] ((m:Int)+1)):=if_pos (by omega);rw[Ze1 h39,if_pos h39,eq];simp only[Ah,Zc1,Atf];generalize Lp.qGo (s.drop ((m:Int)+1).toNat) [] ((m:Int)+1)=q at hqi ⊢;obtain⟨y,z⟩:=q;cases Lp.rightF 4 0 y with
      |false=>exact⟨_,rfl⟩
      |true =>
       simp only[if_true,Zt1,Al];by_cases hz:z<0
       ·rw[if_pos hz];obtain rfl:z = -1:=by simp only at hqi;omega
        exact⟨_,rfl⟩
       ·rw[if_neg hz]
     ·have hsi:=Lp.signF_in (s.drop (m:Int).toNat) (by omega);rw[Zd1 h39,if_neg h39,Bc1 hne];simp only[Al,Zc1];generalize Lp.signF (s.drop (m:Int).toNat)=z at hsi ⊢;rw[Axp (show 0<=(m:Int)+z/\(m:Int)+z<=1000000 by omega),Vw (by omega)];by_cases hz:z=0
      ·rw[Ze1 hz,if_pos hz];exact⟨_,rfl⟩
      ·rw[Zd1 hz,if_neg hz];rfl
def Amu:Sig:=⟨38,[(0,.str),(2,.sl .tok true),(3,.int .i64),(4,.int .i64),(5,.sl .tok true),(6,.int .i64)],[],[],0,0,0,[],[]⟩
abbrev W8:=Str×List Tok×Int×Int×List Tok×Int
def Yz{R:Type}(rec:W8->Option R)(kx:Ex->W8->Option R)(v:W8):Option R:=match v with
 |(v,v1,v2,v3,v4,v5) =>
 cond (decide (v5<(v.length:Int))) (
  chk (inb v5 v.length) (
  cond (decide (0<=(Jt [32,9,10,13] (bat v v5)))) (
   rec (v,v1,v2,v3,v4,(wr .i64 (v5+1)))) (
   (Zk v v5).bind λ(x,x1) =>
   cond (decide (x1<0)) (
    kx .ret (v,[],v5,11,v4,v5)) (
    chk (decide (v4.length+1<=Av)) (
    rec (v,v1,v2,v3,(v4++[x]),x1)))))) (
  kx (.exit 0) (v,v1,v2,v3,v4,v5))
def A13(R:Type)(k:Nat):Px R:=pxO [(203,cA Adw),(204,cA Aiv)] [] [(5,Ao k Amu (Yz))] []
def Akf(k:Nat)(x:HV [.str]):Option (HV [.sl .tok true,.int .i64,.int .i64]):=match x with
 |s =>
 cond (decide (20000<(s.length:Int))) (
  some ([],0,3)) (
  Aq (λrec=>Yz rec (λe vz=>match vz with|(_,v7,v8,v9,a,_)=>match e with
  |.ret =>some (v7,v8,v9)
  |.exit 0 =>some (a,0,0)
  |_=>none)) k (s,[],0,0,[],0))
theorem A79(k:Nat):FO 138 [.str] [.sl .tok true,.int .i64,.int .i64] (Akf k):=fR (px:=A13 _ k) (n:=1) Tryz.func138 rfl (λcx H=>by have h0:Lv cx (A13 (HV [.sl .tok true,.int .i64,.int .i64]) k):=lv H (c1 H Ah3 (c1 H A5e Ae)) Aa Ab;have hllall_0:=lO H h0 (b:=lp Tryz.f138 0) (k:=k) (n:=0) (s:=Amu) (step:=Yz) (λ_ _ _ (_,_,_,_,_,_)=>by kernel_rfl) Ai;exact⟨h0,(Bc Ai hllall_0)⟩) λ_=>by kernel_rfl
def Bi0(s:Str):List Tok×Int×Int:=if 20000<(s.length:Int) then([],0,3) else match Lp.allF s with|.error i=>([],i,11)|.ok ts=>(ts,0,0)
abbrev A25(s:Str):List Tok×Int×Int:=Bi0 s
def Avj:FT [.str] [.sl .tok true,.int .i64,.int .i64]:=λx=>some (A25 x)
theorem A69(c:Int):decide (0<=Jt [32,9,10,13] c)=Lp.blankF c:=rfl
theorem Z3{R:Type}{kx:Ex->W8->Option R}{s:Str}{c:Except Int (List Tok)->Option R}(hs:s.length<=20000)(h1:∀a i j,kx .ret (s,[],i,11,a,j)=c (.error i))(h2:∀q r t a j,kx (.exit 0) (s,q,r,t,a,j)=c (.ok a)):∀(k:Nat) (i:Int) (f:Nat) (q:List Tok) (r t:Int) (a:List Tok),(a.length:Int)<=i->0<=i->i<=s.length->(s.length:Int)-i<k->(s.length:Int)-i<f->Aq (λrec=>Yz rec kx) k (s,q,r,t,a,i)=c (Lp.allGo f s i a)
 |0,i,f,q,r,t,a,_,_,_,h,_=>by omega
 |k+1,i,0,q,r,t,a,_,_,_,_,h=>by omega
 |k+1,i,f+1,q,r,t,a,ha,h0,hi,h,hf=>by
  rw[Bu];by_cases hl:i<s.length
  ·have ea:decide (a.length+1<=Av)=true:=Ze1 (by simp only[Av];omega);have eb:bat s i=Sx.byt s i:=rfl;simp only[Yz,Arz (show 0<=i/\i<(s.length:Int) from⟨h0,hl⟩),A69,ea,eb,Lp.allGo];rw[Ze1 hl,if_neg (show ¬(s.length:Int)<=i by omega)];simp only[Ah,chk];cases hbl:Lp.blankF (Sx.byt s i) with
   |true =>rw[Axp (by omega)];simp only[Ah,if_true];exact Z3 hs h1 h2 k (i+1) f q r t a (by omega) (by omega) (by omega) (by omega) (by omega)
   |false =>have ht:=Ays (s:=s) (i:=i) ⟨h0,hl⟩ hs;simp only[Al,Zi2,if_false];cases hk:Lp.tokF s i with|none =>rw[hk] at ht;obtain⟨u,hu⟩:=ht;rw[hu];exact h1 _ _ _|some y =>obtain⟨y1,y2,y3,e⟩:=y;rw[hk] at ht;have hte:=Lp.tok_end ⟨h0,hl⟩ hk;simp only at ht;rw[ht];simp only[Zc1];rw[Zd1 (show ¬e<0 by omega),Al];exact Z3 hs h1 h2 k e f q r t (a++[⟨y1,i,y2,y3⟩]) (by simp only[Zh1,Zf1,Zi1];omega) (by omega) (by omega) (by omega) (by omega)
  ·simp only[Yz,h2,Lp.allGo];rw[Zd1 hl,if_pos (show(s.length:Int)<=i by omega)];rfl
theorem Bdn:FO 138 [.str] [.sl .tok true,.int .i64,.int .i64] Avj :=.fin 0 A79 λs r hb hx=>⟨20001,by
 simp only[Avj,Za1] at hx;rw[<-hx];simp only[Akf,A25,Bi0];by_cases hbig : 20000<(s.length:Int)
 ·rw[Ze1 hbig,if_pos hbig];rfl
 ·rw[Zd1 hbig,if_neg hbig,Al];refine(Z3 (s:=s) (c:=λo=>match o with|.error i=>some ([],i,(11:Int))|.ok ts=>some (ts,(0:Int),(0:Int))) (by omega) (λ_ _ _ =>?_) (λ_ _ _ _ _ =>?_) 20001 0 (s.length+1) [] 0 0 [] (by simp) (by omega) (by omega) (by omega) (by omega)).trans ?_
  ·rfl
  ·rfl
  ·show _=some (match Lp.allGo (s.length+1) s 0 [] with|.error i=>([],i,(11:Int))|.ok ts=>(ts,(0:Int),(0:Int)));cases Lp.allGo (s.length+1) s 0 []<;>rfl⟩
def Ha:Sig:=⟨1,[],[(0,.ptr 0 0)],[(0,.cells [.sl .tok false,.int .i64,.bool,.int .i64])],1,1,0,[],[]⟩
def G6:Sig:=⟨1,[(0,.sv .tok)],[],[(0,.cells [.sl .tok false,.int .i64,.bool,.int .i64])],1,1,0,[],[]⟩
abbrev A0o:=List Tok×Int×Bool×Int
abbrev A06:=Tok×List Tok×Int×Bool×Int
def A7i(R:Type):Px R:=pxO [] [] [] []
def Ae6(x:A0o):Option (A06):=match x with
 |(l,n,b,p) =>
 cond (decide ((l.length:Int)=0)) (
  some ((Tok.mk 0 n [] 0),l,n,b,p)) (
  chk (inb 0 l.length) (
  some ((at' .tok l 0),l,n,b,p)))
theorem A5d:FM 205 Ha G6 (Ae6):=fRL (px:=A7i _) (n:=0) Tryz.func205 rfl (λ_ H=>⟨lv H Ae Aa Ab,Ai⟩) λ(_,_,_,_)=>by kernel_rfl
def Eh:A0o->Option A06:=λx=>Ae6 x
theorem K9:FM 205 Ha G6 (Eh):=A5d
def Jh:Sig:=⟨1,[],[(0,.ptr 0 0)],[(0,.cells [.sl .tok false,.int .i64,.bool,.int .i64])],1,1,0,[],[]⟩
def Je:Sig:=⟨1,[(0,.sv .tok)],[],[(0,.cells [.sl .tok false,.int .i64,.bool,.int .i64])],1,1,0,[],[]⟩
abbrev A08:=List Tok×Int×Bool×Int
abbrev A01:=Tok×List Tok×Int×Bool×Int
def Ban(R:Type):Px R:=pxO [(205,Am Ha G6 Eh)] [] [] []
def Ai5(x:A08):Option (A01):=match x with
 |(l,n,b,p) =>
 (Eh (l,n,b,p)).bind λ(x,x1,x2,x3,x4) =>
  cond (decide (0<(x1.length:Int))) (
  chk (E4 1 x1.length x1.length) (
   some (x,(x1.drop (1:Int).toNat),x2,x3,x4))) (
  some (x,x1,x2,x3,x4))
theorem A5l:FM 206 Jh Je (Ai5):=fRL (px:=Ban _) (n:=0) Tryz.func206 rfl (λ_ H=>⟨lv H (l1 H K9 Ae) Aa Ab,Ai⟩) λ(_,_,_,_)=>by kernel_rfl
def C3:A08->Option A01:=λx=>Ai5 x
theorem N3:FM 206 Jh Je (C3):=A5l
def C4:Sig:=⟨2,[(1,.str)],[(0,.ptr 0 0)],[(0,.cells [.sl .tok false,.int .i64,.bool,.int .i64])],1,1,0,[],[]⟩
def C5:Sig:=⟨1,[(0,.bool)],[],[(0,.cells [.sl .tok false,.int .i64,.bool,.int .i64])],1,1,0,[],[]⟩
abbrev Bgd:=Str×List Tok×Int×Bool×Int
abbrev Bgp:=Bool×List Tok×Int×Bool×Int
def Bhc(R:Type):Px R:=pxO [(205,Am Ha G6 Eh),(206,Am Jh Je C3)] [] [] []
def Ass(x:Bgd):Option (Bgp):=match x with
 |(s,l,n,b,p) =>
 (Eh (l,n,b,p)).bind λ(x,x1,x2,x3,x4) =>
  cond (!decide (x.kind=1)) (
  cond (!decide (x.kind=6)) (
   some (false,x1,x2,x3,x4)) (
   cond (!decide (x.s=s)) (
   some (false,x1,x2,x3,x4)) (
   (C3 (x1,x2,x3,x4)).bind λ(_,a,c,d,e) =>some (true,a,c,d,e)))) (
  cond (!decide (x.s=s)) (
   some (false,x1,x2,x3,x4)) (
   (C3 (x1,x2,x3,x4)).bind λ(_,f,g,h,i) =>
   some (true,f,g,h,i)))
theorem Bem:FM 139 C4 C5 (Ass):=fRL (px:=Bhc _) (n:=0) Tryz.func139 rfl (λ_ H=>⟨lv H (l1 H K9 (l1 H N3 Ae)) Aa Ab,Ai⟩) λ(_,_,_,_,_)=>by kernel_rfl
def A6:Bgd->Option Bgp:=λx=>Ass x
theorem Dt:FM 139 C4 C5 (A6):=Bem
def Fu:Sig:=⟨1,[],[(0,.ptr 0 0)],[(0,.cells [.sl .tok false,.int .i64,.bool,.int .i64])],1,1,0,[],[]⟩
def F1:Sig:=⟨0,[],[],[(0,.cells [.sl .tok false,.int .i64,.bool,.int .i64])],1,1,0,[],[]⟩
abbrev Aqi:=List Tok×Int×Bool×Int
abbrev Arr:=List Tok×Int×Bool×Int
def A30(R:Type):Px R:=pxO [(205,Am Ha G6 Eh)] [] [] []
def Ab1(x:Aqi):Option (Arr):=match x with
 |(l,n,b,p) =>
 cond (!b) (
  (Eh (l,n,b,p)).bind λ(x,x1,x2,_,_) =>
  some (x1,x2,true,x.pos)) (
  some (l,n,b,p))
theorem Avr:FM 149 Fu F1 (Ab1):=fRL (px:=A30 _) (n:=0) Tryz.func149 rfl (λ_ H=>⟨lv H (l1 H K9 Ae) Aa Ab,Ai⟩) λ(_,_,_,_)=>by kernel_rfl
def Dq:Aqi->Option Arr:=λx=>Ab1 x
theorem Ih:FM 149 Fu F1 (Dq):=Avr
def De:Sig:=⟨2,[(1,.sl .str false)],[(0,.ptr 0 0)],[(0,.cells [.sl .tok false,.int .i64,.bool,.int .i64])],1,1,0,[],[]⟩
def C9:Sig:=⟨0,[],[],[(0,.cells [.sl .tok false,.int .i64,.bool,.int .i64])],1,1,0,[],[]⟩
abbrev A16:=List Str×List Tok×Int×Bool×Int
abbrev Apo:=List Tok×Int×Bool×Int
def Af5:Sig:=⟨27,[(6,.sl .str false),(7,.int .i64),(8,.int .i64)],[(0,.ptr 0 0)],[(0,.cells [.sl .tok false,.int .i64,.bool,.int .i64])],1,1,0,[],[]⟩
abbrev Aap:=List Str×Int×Int×List Tok×Int×Bool×Int
def An7{R:Type}(rec:Aap->Option R)(kx:Ex->Aap->Option R)(v:Aap):Option R:=match v with
 |(v,v1,v2,w,w1,w2,w3) =>
 cond (decide (v2<v1)) (
  chk (inb v2 v.length) (
  let j:=λ(p2:Bool) (q4:List Tok) (q5:Int) (q6:Bool) (q7:Int) =>
   cond (p2) (
   (Dq (q4,q5,q6,q7)).bind λ(x5,x6,x7,x8) =>kx .ret (v,v1,v2,x5,x6,x7,x8)) (
   rec (v,v1,(wr .i64 (v2+1)),q4,q5,q6,q7))
  cond (w2) (
   j true w w1 w2 w3) (
   (A6 ((at' .str v v2),w,w1,w2,w3)).bind λ(x,x1,x2,x3,x4) =>
   j (!x) x1 x2 x3 x4))) (
  kx (.exit 0) (v,v1,v2,w,w1,w2,w3))
def Arv(R:Type)(k:Nat):Px R:=pxO [(139,Am C4 C5 A6),(149,Am Fu F1 Dq)] [] [(1,Ao k Af5 (An7))] []
def U6(k:Nat)(x:A16):Option (Apo):=match x with
 |(ss,l,n,b,p) =>
 Aq (λrec=>An7 rec (λe vz=>match vz with|(_,_,_,v6,v7,v8,v9)=>match e with
  |.ret =>
  some (v6,v7,v8,v9)
  |.exit 0 =>
  some (v6,v7,v8,v9)
  |_=>none)) k (ss,(ss.length:Int),0,l,n,b,p)
theorem A3o(k:Nat):FM 141 De C9 (U6 k):=fRL (px:=Arv _ k) (n:=1) Tryz.func141 rfl (λcx H=>by have h0:Lv cx (Arv (Apo) k):=lv H (l1 H Dt (l1 H Ih Ae)) Aa Ab;have hlpmust_0:=lO H h0 (b:=lp Tryz.f141 0) (k:=k) (n:=0) (s:=Af5) (step:=An7) (λ_ _ _ (_,_,_,_,_,_,_)=>by kernel_rfl) Ai;exact⟨h0,(Bc Ai hlpmust_0)⟩) λ(_,_,_,_,_)=>by kernel_rfl
def A7:A16->Option Apo:=λx=>U6 ((x.1.length+1)) x
theorem Ec:FM 141 De C9 (A7):=FnLn.fin (ι:=Nat) (sg:=De) (so:=C9) 0 (F:=λk=>U6 k) (λk=>A3o k) λx _ _ hx=>⟨(x.1.length+1),hx⟩
def Eg:Sig:=⟨1,[],[(0,.ptr 0 0)],[(0,.cells [.sl .tok false,.int .i64,.bool,.int .i64])],1,1,0,[],[]⟩
def Ea:Sig:=⟨1,[(0,.str)],[],[(0,.cells [.sl .tok false,.int .i64,.bool,.int .i64])],1,1,0,[],[]⟩
abbrev Azr:=List Tok×Int×Bool×Int
abbrev Azx:=Str×List Tok×Int×Bool×Int
def A7f(R:Type):Px R:=pxO [(205,Am Ha G6 Eh),(149,Am Fu F1 Dq),(206,Am Jh Je C3)] [] [] []
def Ahy(x:Azr):Option (Azx):=match x with
 |(l,n,b,p) =>
 (Eh (l,n,b,p)).bind λ(x,x1,x2,x3,x4) =>
  let j:=λ(p2:Bool) =>
  cond (p2) (
   (Dq (x1,x2,x3,x4)).bind λ(x5,x6,x7,x8) =>
   some ([],x5,x6,x7,x8)) (
   (C3 (x1,x2,x3,x4)).bind λ(x9,a,c,d,e) =>
   some (x9.s,a,c,d,e))
  cond (x3) (
  j true) (
  j (!decide (x.kind=2)))
theorem A3l:FM 142 Eg Ea (Ahy):=fRL (px:=A7f _) (n:=0) Tryz.func142 rfl (λ_ H=>⟨lv H (l1 H K9 (l1 H Ih (l1 H N3 Ae))) Aa Ab,Ai⟩) λ(_,_,_,_)=>by kernel_rfl
def Bn:Azr->Option Azx:=λx=>Ahy x
theorem Ge:FM 142 Eg Ea (Bn):=A3l
def Ci:Sig:=⟨1,[],[(0,.ptr 0 0)],[(0,.cells [.sl .tok false,.int .i64,.bool,.int .i64])],1,1,0,[],[]⟩
def Ch:Sig:=⟨1,[(0,.sv .expr)],[],[(0,.cells [.sl .tok false,.int .i64,.bool,.int .i64])],1,1,0,[],[]⟩
abbrev Bd:=List Tok×Int×Bool×Int
abbrev Ba:=Xpr×List Tok×Int×Bool×Int
def Zv:Sig:=⟨1,[],[(0,.ptr 0 0)],[(0,.cells [.sl .tok false,.int .i64,.bool,.int .i64])],1,1,0,[],[]⟩
def Y2:Sig:=⟨1,[(0,.sv .expr)],[],[(0,.cells [.sl .tok false,.int .i64,.bool,.int .i64])],1,1,0,[],[]⟩
abbrev Atx:=List Tok×Int×Bool×Int
abbrev Xq:=Xpr×List Tok×Int×Bool×Int
def Abc(R:Type)(_rf:Bd->Option Ba):Px R:=pxO [(206,Am Jh Je C3)] [] [] []
noncomputable def Alg(R:Type)(rf:Bd->Option Ba):Px R:=pxO [(205,Am Ha G6 Eh),(206,Am Jh Je C3),(141,Am De C9 A7),(210,Am Ci Ch rf),(289,Aw 80 400 (Abc R rf) Tryz.f289)] [] [] []
def Ab2(rf:Bd->Option Ba)(x:Atx):Option (Xq):=match x with
 |(l,n,b,p) =>
 (Eh (l,n,b,p)).bind λ(x,x1,x2,x3,x4) =>
  cond (x3) (
  some ((Xpr.mk 0 ⟨0,0,[]⟩ [] []),x1,x2,x3,x4)) (
  cond (decide (x.kind=2)) (
   (C3 (x1,x2,x3,x4)).bind λ(_,x6,x7,x8,x9) =>
   some ((Xpr.mk 2 ⟨0,0,[]⟩ x.s []),x6,x7,x8,x9)) (
   cond (decide (x.kind=3)) (
   (C3 (x1,x2,x3,x4)).bind λ(_,a,c,d,e) =>some ((Xpr.mk 1 ⟨3,x.n,[]⟩ [] []),a,c,d,e)) (
   cond (decide (x.kind=4)) (
    (C3 (x1,x2,x3,x4)).bind λ(_,f,g,h,i) =>
    some ((Xpr.mk 1 ⟨4,0,x.s⟩ [] []),f,g,h,i)) (
    cond (decide (x.kind=5)) (
    (C3 (x1,x2,x3,x4)).bind λ(_,k,m,o,q) =>some ((Xpr.mk 1 ⟨5,0,x.s⟩ [] []),k,m,o,q)) (
    let j2:=λ(p2:Bool) =>
     cond (p2) (
     (C3 (x1,x2,x3,x4)).bind λ(_,r,t,u,v) =>some ((Xpr.mk 1 ⟨2,1,[]⟩ [] []),r,t,u,v)) (
     let j1:=λ(p4:Bool) =>
      cond (p4) (
      (C3 (x1,x2,x3,x4)).bind λ(_,w,y,z,a0) =>some ((Xpr.mk 1 ⟨2,0,[]⟩ [] []),w,y,z,a0)) (
      let j:=λ(p6:Bool) =>
       cond (p6) (
       (C3 (x1,x2,x3,x4)).bind λ(_,a1,a2,a3,a4) =>some ((Xpr.mk 1 ⟨1,0,[]⟩ [] []),a1,a2,a3,a4)) (
       (A7 ([[40]],x1,x2,x3,x4)).bind λ(a5,a6,a7,a8) =>
        (rf (a5,a6,a7,a8)).bind λ(a9,aa,ab,ac,ad) =>
        (A7 ([[41]],aa,ab,ac,ad)).bind λ(ae,af,ag,ah) =>some (a9,ae,af,ag,ah))
      cond (decide (x.kind=1)) (
       j (decide (x.s=[78,85,76,76]))) (
       j false))
     cond (decide (x.kind=1)) (
      j1 (decide (x.s=[70,65,76,83,69]))) (
      j1 false))
    cond (decide (x.kind=1)) (
     j2 (decide (x.s=[84,82,85,69]))) (
     j2 false))))))
theorem Axe(rf:Bd->Option Ba)(hrf:FM 210 Ci Ch rf):FM 288 Zv Y2 (Ab2 rf):=fRL (px:=Alg _ rf) (n:=0) Tryz.func288 rfl (λcx H=>by have h1:Lv cx (Abc (Xq) rf):=lv H (l1 H N3 Ae) Aa Ab;have h0:Lv cx (Alg (Xq) rf):=lv H (l1 H K9 (l1 H N3 (l1 H Ec (l1 H hrf (An (cR H h1 Tryz.func289 rfl (n:=0) (Ai)) Ae))))) Aa Ab;exact⟨h0,Ai⟩) λ(_,_,_,_)=>by kernel_rfl
def Ad4(rf:Bd->Option Ba):Atx->Option Xq:=λx=>Ab2 rf x
theorem A49(rf:Bd->Option Ba)(hrf:FM 210 Ci Ch rf):FM 288 Zv Y2 (Ad4 rf):=Axe rf hrf
def Xa:Sig:=⟨1,[],[(0,.ptr 0 0)],[(0,.cells [.sl .tok false,.int .i64,.bool,.int .i64])],1,1,0,[],[]⟩
def V1:Sig:=⟨1,[(0,.sv .expr)],[],[(0,.cells [.sl .tok false,.int .i64,.bool,.int .i64])],1,1,0,[],[]⟩
abbrev A9v:=List Tok×Int×Bool×Int
abbrev Apy:=Xpr×List Tok×Int×Bool×Int
def Aj1:Sig:=⟨36,[(2,.int .i64),(27,.int .i64),(28,.int .i64)],[(8,.ptr 80 0),(10,.ptr 81 0)],[(0,.cells [.sl .tok false,.int .i64,.bool,.int .i64]),(1,.one (.sv .expr)),(80,.one (.sv .expr)),(81,.one (.sv .expr))],82,80,400,[],[]⟩
abbrev Af1:=Int×Int×Int×List Tok×Int×Bool×Int×Xpr×Xpr×Xpr
def Au8{R:Type}(rec:Af1->Option R)(kx:Ex->Af1->Option R)(v:Af1):Option R:=match v with
 |(a,b,c,w6,w7,w8,w9,d,e,f) =>
 cond (decide (c<b)) (
  rec (a,b,(wr .i64 (c+1)),w6,w7,w8,w9,d,e,(Xpr.mk a ⟨0,0,[]⟩ [] [f]))) (
  kx (.exit 2) (a,b,c,w6,w7,w8,w9,d,e,f))
def Anf:Sig:=⟨36,[(1,.str),(2,.int .i64),(9,.int .i64)],[(0,.ptr 0 0),(3,.bm 288 [.ptr 0 0]),(8,.ptr 80 0)],[(0,.cells [.sl .tok false,.int .i64,.bool,.int .i64]),(1,.one (.sv .expr)),(80,.one (.sv .expr))],81,80,400,[],[]⟩
abbrev Afg:=Str×Int×Int×List Tok×Int×Bool×Int×Xpr×Xpr
def Awj{R:Type}(rec:Afg->Option R)(kx:Ex->Afg->Option R)(v:Afg):Option R:=match v with
 |(v,v1,v2,w,w1,w2,w3,w4,w5) =>
 cond (!w2) (
  (A6 (v,w,w1,w2,w3)).bind λ(x,x1,x2,x3,x4) =>
  cond (x) (
   rec (v,v1,(wr .i64 (v2+1)),x1,x2,x3,x4,w4,w5)) (
   kx (.exit 0) (v,v1,v2,x1,x2,x3,x4,w4,w5))) (
  kx (.exit 0) (v,v1,v2,w,w1,w2,w3,w4,w5))
def Al8(R:Type)(k:Nat)(rf:Bd->Option Ba):Px R:=pxO [(139,Am C4 C5 A6),(288,Am Zv Y2 (Ad4 rf))] [] [(2,Ao k Anf (Awj)),(6,Ao k Aj1 (Au8))] []
noncomputable def A1a(R:Type)(k:Nat)(rf:Bd->Option Ba):Px R:=pxO [(279,Aw 80 400 (Al8 R k rf) Tryz.f279)] [] [] []
def Yu(k:Nat)(rf:Bd->Option Ba)(x:A9v):Option (Apy):=match x with
 |(l,n,b,p) =>
 Aq (λrec=>Awj rec (λe vz=>match vz with|(_,v4,v5,v6,v7,v8,v9,a,c)=>match e with
  |.exit 0 =>
  (Ad4 rf (v6,v7,v8,v9)).bind λ(x5,x6,x7,x8,x9) =>
   Aq (λrec=>Au8 rec (λe vz=>match vz with|(_,_,_,d,f,g,h,_,_,i)=>match e with
   |.exit 2 =>some (i,d,f,g,h)
   |_=>none)) k (v4,v5,0,x6,x7,x8,x9,a,c,x5)
  |_=>none)) k ([45],15,0,l,n,b,p,(Xpr.mk 0 ⟨0,0,[]⟩ [] []),(Xpr.mk 0 ⟨0,0,[]⟩ [] []))
theorem A8b(k:Nat)(rf:Bd->Option Ba)(hrf:FM 210 Ci Ch rf):FM 287 Xa V1 (Yu k rf):=fRL (px:=A1a _ k rf) (n:=0) Tryz.func287 rfl (λcx H=>by have h1:Lv cx (Al8 (Apy) k rf):=lv H (l1 H Dt (l1 H (A49 rf hrf) Ae)) Aa Ab;have hlpneg_0:=lO H h1 (b:=lp Tryz.f279 0) (k:=k) (n:=0) (s:=Anf) (step:=Awj) (λ_ _ _ (_,_,_,_,_,_,_,_,_)=>by kernel_rfl) Ai;have hlpneg_1:=lO H h1 (b:=lp Tryz.f279 1) (k:=k) (n:=0) (s:=Aj1) (step:=Au8) (λ_ _ _ (_,_,_,_,_,_,_,_,_,_)=>by kernel_rfl) Ai;have h0:Lv cx (A1a (Apy) k rf):=lv H (An (cR H h1 Tryz.func279 rfl (n:=2) ((Bc (Bc Ai hlpneg_0) hlpneg_1))) Ae) Aa Ab;exact⟨h0,Ai⟩) λ(_,_,_,_)=>by kernel_rfl
def Ago(rf:Bd->Option Ba):A9v->Option Apy:=λx=>Yu ((x.1.length+1)) rf x
theorem A17(rf:Bd->Option Ba)(hrf:FM 210 Ci Ch rf):FM 287 Xa V1 (Ago rf):=FnLn.fin (ι:=Nat) (sg:=Xa) (so:=V1) 0 (F:=λk=>Yu k rf) (λk=>A8b k rf hrf) λx _ _ hx=>⟨(x.1.length+1),hx⟩
def G7:Sig:=⟨1,[],[(0,.ptr 0 0)],[(0,.cells [.sl .tok false,.int .i64,.bool,.int .i64])],1,1,0,[],[]⟩
def Hd:Sig:=⟨1,[(0,.sv .expr)],[],[(0,.cells [.sl .tok false,.int .i64,.bool,.int .i64])],1,1,0,[],[]⟩
abbrev Aie:=List Tok×Int×Bool×Int
abbrev M7:=Xpr×List Tok×Int×Bool×Int
def S1:Sig:=⟨38,[(2,.sl .pair true),(17,.sl .pair false),(18,.int .i64),(19,.int .i64)],[(0,.ptr 0 0),(1,.bm 287 [.ptr 0 0]),(6,.ptr 80 0),(7,.ptr 81 0)],[(0,.cells [.sl .tok false,.int .i64,.bool,.int .i64]),(1,.one (.sv .expr)),(80,.one (.sv .expr)),(81,.one (.sv .expr))],82,80,400,[],[]⟩
abbrev Mh:=List PairS×List PairS×Int×Int×List Tok×Int×Bool×Int×Xpr×Xpr×Xpr
def Ug{R:Type}(rf:Bd->Option Ba)(rec:Mh->Option R)(kx:Ex->Mh->Option R)(v:Mh):Option R:=match v with
 |(v1,v2,v3,v4,w7,w8,w9,d,a,b,c) =>
 cond (decide (v4<v3)) (
  chk (inb v4 v2.length) (
  (A6 ((at' .pair v2 v4).sign,w7,w8,w9,d)).bind λ(x5,x6,x7,x8,x9) =>
   cond (x5) (
   (Ago rf (x6,x7,x8,x9)).bind λ(e,f,g,h,i) =>kx (.exit 1) (v1,v2,v3,v4,f,g,h,i,a,b,(Xpr.mk ((at' .pair v2 v4).kind) ⟨0,0,[]⟩ [] [c,e]))) (
   rec (v1,v2,v3,(wr .i64 (v4+1)),x6,x7,x8,x9,a,b,c)))) (
  kx (.exit 2) (v1,v2,v3,v4,w7,w8,w9,d,a,b,c))
def Tj:Sig:=⟨38,[(2,.sl .pair true)],[(0,.ptr 0 0),(1,.bm 287 [.ptr 0 0]),(6,.ptr 80 0),(7,.ptr 81 0)],[(0,.cells [.sl .tok false,.int .i64,.bool,.int .i64]),(1,.one (.sv .expr)),(80,.one (.sv .expr)),(81,.one (.sv .expr))],82,80,400,[],[]⟩
abbrev M0:=List PairS×List Tok×Int×Bool×Int×Xpr×Xpr×Xpr
def U8{R:Type}(k:Nat)(rf:Bd->Option Ba)(rec:M0->Option R)(kx:Ex->M0->Option R)(v:M0):Option R:=match v with
 |(v,w,w1,w2,w3,w4,w5,w6) =>
 cond (!w2) (
  Aq (λrc=>Ug rf rc (λe vz=>match vz with|(v5,_,_,_,v9,a,b,c,d,f,g)=>match e with
  |.exit 1 =>rec (v5,v9,a,b,c,d,f,g)
  |.exit 2 =>kx (.exit 0) (v5,v9,a,b,c,d,f,g)
  |_=>none)) k (v,v,(v.length:Int),0,w,w1,w2,w3,w4,w5,w6)) (
  kx (.exit 0) (v,w,w1,w2,w3,w4,w5,w6))
def Tx(R:Type)(k:Nat)(rf:Bd->Option Ba):Px R:=pxO [(287,Am Xa V1 (Ago rf)),(139,Am C4 C5 A6)] [] [(4,Ao k S1 (Ug rf)),(2,Ao k Tj (U8 k rf))] [(287,C1 Xa V1 (Ago rf))]
noncomputable def Abv(R:Type)(k:Nat)(rf:Bd->Option Ba):Px R:=pxO [(254,Aw 80 400 (Tx R k rf) Tryz.f254)] [] [] []
def Ki(k:Nat)(rf:Bd->Option Ba)(x:Aie):Option (M7):=match x with
 |(l,n,b,p) =>
 (Ago rf (l,n,b,p)).bind λ(x,x1,x2,x3,x4) =>
  Aq (λrec=>U8 k rf rec (λe vz=>match vz with|(_,a,c,d,f,_,_,g)=>match e with
  |.exit 0 =>some (g,a,c,d,f)
  |_=>none)) k ([(PairS.mk [42] 14)],x1,x2,x3,x4,(Xpr.mk 0 ⟨0,0,[]⟩ [] []),(Xpr.mk 0 ⟨0,0,[]⟩ [] []),x)
theorem Ank(k:Nat)(rf:Bd->Option Ba)(hrf:FM 210 Ci Ch rf):FM 286 G7 Hd (Ki k rf):=fRL (px:=Abv _ k rf) (n:=0) Tryz.func286 rfl (λcx H=>by have h1:Lv cx (Tx (M7) k rf):=lv H (l1 H (A17 rf hrf) (l1 H Dt Ae)) Aa (w1 H (A17 rf hrf) Ab);have hlpproduct_1:=lO H h1 (b:=lpC (lp Tryz.f254 0) 0) (k:=k) (n:=0) (s:=S1) (step:=Ug rf) (λ_ _ _ (_,_,_,_,_,_,_,_,_,_,_)=>by kernel_rfl) Ai;have hlpproduct_0:=lO H h1 (b:=lp Tryz.f254 0) (k:=k) (n:=1) (s:=Tj) (step:=U8 k rf) (λ_ _ _ (_,_,_,_,_,_,_,_)=>by kernel_rfl) (Bc Ai hlpproduct_1);have h0:Lv cx (Abv (M7) k rf):=lv H (An (cR H h1 Tryz.func254 rfl (n:=2) ((Bc (Bc Ai hlpproduct_0) hlpproduct_1))) Ae) Aa Ab;exact⟨h0,Ai⟩) λ(_,_,_,_)=>by kernel_rfl
def I2(rf:Bd->Option Ba):Aie->Option M7:=λx=>Ki ((x.1.length+3)) rf x
theorem Aat(rf:Bd->Option Ba)(hrf:FM 210 Ci Ch rf):FM 286 G7 Hd (I2 rf):=FnLn.fin (ι:=Nat) (sg:=G7) (so:=Hd) 0 (F:=λk=>Ki k rf) (λk=>Ank k rf hrf) λx _ _ hx=>⟨(x.1.length+3),hx⟩
def Yg:Sig:=⟨1,[],[(0,.ptr 0 0)],[(0,.cells [.sl .tok false,.int .i64,.bool,.int .i64])],1,1,0,[],[]⟩
def Xy:Sig:=⟨1,[(0,.sv .expr)],[],[(0,.cells [.sl .tok false,.int .i64,.bool,.int .i64])],1,1,0,[],[]⟩
abbrev Bdg:=List Tok×Int×Bool×Int
abbrev An5:=Xpr×List Tok×Int×Bool×Int
def Aj3:Sig:=⟨38,[(2,.sl .pair true),(17,.sl .pair false),(18,.int .i64),(19,.int .i64)],[(0,.ptr 0 0),(1,.bm 286 [.ptr 0 0]),(6,.ptr 80 0),(7,.ptr 81 0)],[(0,.cells [.sl .tok false,.int .i64,.bool,.int .i64]),(1,.one (.sv .expr)),(80,.one (.sv .expr)),(81,.one (.sv .expr))],82,80,400,[],[]⟩
abbrev Agy:=List PairS×List PairS×Int×Int×List Tok×Int×Bool×Int×Xpr×Xpr×Xpr
def Aym{R:Type}(rf:Bd->Option Ba)(rec:Agy->Option R)(kx:Ex->Agy->Option R)(v:Agy):Option R:=match v with
 |(v1,v2,v3,v4,w7,w8,w9,d,a,b,c) =>
 cond (decide (v4<v3)) (
  chk (inb v4 v2.length) (
  (A6 ((at' .pair v2 v4).sign,w7,w8,w9,d)).bind λ(x5,x6,x7,x8,x9) =>
   cond (x5) (
   (I2 rf (x6,x7,x8,x9)).bind λ(e,f,g,h,i) =>kx (.exit 1) (v1,v2,v3,v4,f,g,h,i,a,b,(Xpr.mk ((at' .pair v2 v4).kind) ⟨0,0,[]⟩ [] [c,e]))) (
   rec (v1,v2,v3,(wr .i64 (v4+1)),x6,x7,x8,x9,a,b,c)))) (
  kx (.exit 2) (v1,v2,v3,v4,w7,w8,w9,d,a,b,c))
def Aj9:Sig:=⟨38,[(2,.sl .pair true)],[(0,.ptr 0 0),(1,.bm 286 [.ptr 0 0]),(6,.ptr 80 0),(7,.ptr 81 0)],[(0,.cells [.sl .tok false,.int .i64,.bool,.int .i64]),(1,.one (.sv .expr)),(80,.one (.sv .expr)),(81,.one (.sv .expr))],82,80,400,[],[]⟩
abbrev Afj:=List PairS×List Tok×Int×Bool×Int×Xpr×Xpr×Xpr
def Axg{R:Type}(k:Nat)(rf:Bd->Option Ba)(rec:Afj->Option R)(kx:Ex->Afj->Option R)(v:Afj):Option R:=match v with
 |(v,w,w1,w2,w3,w4,w5,w6) =>
 cond (!w2) (
  Aq (λrc=>Aym rf rc (λe vz=>match vz with|(v5,_,_,_,v9,a,b,c,d,f,g)=>match e with
  |.exit 1 =>rec (v5,v9,a,b,c,d,f,g)
  |.exit 2 =>kx (.exit 0) (v5,v9,a,b,c,d,f,g)
  |_=>none)) k (v,v,(v.length:Int),0,w,w1,w2,w3,w4,w5,w6)) (
  kx (.exit 0) (v,w,w1,w2,w3,w4,w5,w6))
def Ak4(R:Type)(k:Nat)(rf:Bd->Option Ba):Px R:=pxO [(286,Am G7 Hd (I2 rf)),(139,Am C4 C5 A6)] [] [(4,Ao k Aj3 (Aym rf)),(2,Ao k Aj9 (Axg k rf))] [(286,C1 G7 Hd (I2 rf))]
noncomputable def Az2(R:Type)(k:Nat)(rf:Bd->Option Ba):Px R:=pxO [(254,Aw 80 400 (Ak4 R k rf) Tryz.f254)] [] [] []
def Aaj(k:Nat)(rf:Bd->Option Ba)(x:Bdg):Option (An5):=match x with
 |(l,n,b,p) =>
 (I2 rf (l,n,b,p)).bind λ(x,x1,x2,x3,x4) =>
  Aq (λrec=>Axg k rf rec (λe vz=>match vz with|(_,a,c,d,f,_,_,g)=>match e with
  |.exit 0 =>some (g,a,c,d,f)
  |_=>none)) k ([(PairS.mk [43] 12),(PairS.mk [45] 13)],x1,x2,x3,x4,(Xpr.mk 0 ⟨0,0,[]⟩ [] []),(Xpr.mk 0 ⟨0,0,[]⟩ [] []),x)
theorem Bb1(k:Nat)(rf:Bd->Option Ba)(hrf:FM 210 Ci Ch rf):FM 284 Yg Xy (Aaj k rf):=fRL (px:=Az2 _ k rf) (n:=0) Tryz.func284 rfl (λcx H=>by have h1:Lv cx (Ak4 (An5) k rf):=lv H (l1 H (Aat rf hrf) (l1 H Dt Ae)) Aa (w1 H (Aat rf hrf) Ab);have hlpsum_1:=lO H h1 (b:=lpC (lp Tryz.f254 0) 0) (k:=k) (n:=0) (s:=Aj3) (step:=Aym rf) (λ_ _ _ (_,_,_,_,_,_,_,_,_,_,_)=>by kernel_rfl) Ai;have hlpsum_0:=lO H h1 (b:=lp Tryz.f254 0) (k:=k) (n:=1) (s:=Aj9) (step:=Axg k rf) (λ_ _ _ (_,_,_,_,_,_,_,_)=>by kernel_rfl) (Bc Ai hlpsum_1);have h0:Lv cx (Az2 (An5) k rf):=lv H (An (cR H h1 Tryz.func254 rfl (n:=2) ((Bc (Bc Ai hlpsum_0) hlpsum_1))) Ae) Aa Ab;exact⟨h0,Ai⟩) λ(_,_,_,_)=>by kernel_rfl
def Afb(rf:Bd->Option Ba):Bdg->Option An5:=λx=>Aaj ((x.1.length+3)) rf x
theorem A0l(rf:Bd->Option Ba)(hrf:FM 210 Ci Ch rf):FM 284 Yg Xy (Afb rf):=FnLn.fin (ι:=Nat) (sg:=Yg) (so:=Xy) 0 (F:=λk=>Aaj k rf) (λk=>Bb1 k rf hrf) λx _ _ hx=>⟨(x.1.length+3),hx⟩
def Adp:Sig:=⟨1,[],[(0,.ptr 0 0)],[(0,.cells [.sl .tok false,.int .i64,.bool,.int .i64])],1,1,0,[],[]⟩
def Adq:Sig:=⟨1,[(0,.sv .expr)],[],[(0,.cells [.sl .tok false,.int .i64,.bool,.int .i64])],1,1,0,[],[]⟩
abbrev A77:=List Tok×Int×Bool×Int
abbrev Av8:=Xpr×List Tok×Int×Bool×Int
def Amz:Sig:=⟨61,[(20,.sl .pair true),(21,.int .i64),(22,.int .i64)],[(0,.ptr 0 0),(2,.ptr 1 0),(3,.ptr 2 0)],[(0,.cells [.sl .tok false,.int .i64,.bool,.int .i64]),(1,.one (.sv .expr)),(2,.one (.sv .expr))],3,1,0,[],[]⟩
abbrev Agf:=List PairS×Int×Int×List Tok×Int×Bool×Int×Xpr×Xpr
def Avh{R:Type}(rf:Bd->Option Ba)(rec:Agf->Option R)(kx:Ex->Agf->Option R)(v:Agf):Option R:=match v with
 |(v,v1,v2,w,w1,w2,w3,w4,w5) =>
 cond (decide (v2<v1)) (
  chk (inb v2 v.length) (
  (A6 ((at' .pair v v2).sign,w,w1,w2,w3)).bind λ(x5,x6,x7,x8,x9) =>
   cond (x5) (
   (Afb rf (x6,x7,x8,x9)).bind λ(a,b,c,d,e) =>kx .ret (v,v1,v2,b,c,d,e,(Xpr.mk ((at' .pair v v2).kind) ⟨0,0,[]⟩ [] [w5,a]),w5)) (
   rec (v,v1,(wr .i64 (v2+1)),x6,x7,x8,x9,w4,w5)))) (
  kx (.exit 0) (v,v1,v2,w,w1,w2,w3,w4,w5))
def A0g(R:Type)(k:Nat)(rf:Bd->Option Ba):Px R:=pxO [(284,Am Yg Xy (Afb rf)),(139,Am C4 C5 A6),(141,Am De C9 A7)] [] [(5,Ao k Amz (Avh rf))] [(284,C1 Yg Xy (Afb rf))]
def Aae(k:Nat)(rf:Bd->Option Ba)(x:A77):Option (Av8):=match x with
 |(l,n,b,p) =>
 (Afb rf (l,n,b,p)).bind λ(x,x1,x2,x3,x4) =>
  cond (x3) (
  some (x,x1,x2,x3,x4)) (
  Aq (λrec=>Avh rf rec (λe vz=>match vz with|(_,_,_,v6,v7,v8,v9,o,a)=>match e with
   |.ret =>
   some (o,v6,v7,v8,v9)
   |.exit 0 =>
   (A6 ([73,83],v6,v7,v8,v9)).bind λ(q,c,d,f,g) =>
    cond (!q) (
    some (a,c,d,f,g)) (
    (A6 ([78,79,84],c,d,f,g)).bind λ(r,s,t,u,v) =>
     (A7 ([[78,85,76,76]],s,t,u,v)).bind λ(h,i,j,m) =>
     cond (r) (
      some ((Xpr.mk 3 ⟨0,0,[]⟩ [] [(Xpr.mk 16 ⟨0,0,[]⟩ [] [a])]),h,i,j,m)) (
      some ((Xpr.mk 16 ⟨0,0,[]⟩ [] [a]),h,i,j,m)))
   |_=>none)) k ([(PairS.mk [61] 6),(PairS.mk [60,62] 7),(PairS.mk [60] 8),(PairS.mk [60,61] 9),(PairS.mk [62] 10),(PairS.mk [62,61] 11)],6,0,x1,x2,x3,x4,(Xpr.mk 0 ⟨0,0,[]⟩ [] []),x))
theorem A9p(k:Nat)(rf:Bd->Option Ba)(hrf:FM 210 Ci Ch rf):FM 280 Adp Adq (Aae k rf):=fRL (px:=A0g _ k rf) (n:=1) Tryz.func280 rfl (λcx H=>by have h0:Lv cx (A0g (Av8) k rf):=lv H (l1 H (A0l rf hrf) (l1 H Dt (l1 H Ec Ae))) Aa (w1 H (A0l rf hrf) Ab);have hlpcmp_0:=lO H h0 (b:=lp Tryz.f280 0) (k:=k) (n:=0) (s:=Amz) (step:=Avh rf) (λ_ _ _ (_,_,_,_,_,_,_,_,_)=>by kernel_rfl) Ai;exact⟨h0,(Bc Ai hlpcmp_0)⟩) λ(_,_,_,_)=>by kernel_rfl
def Av7(rf:Bd->Option Ba):A77->Option Av8:=λx=>Aae (10) rf x
theorem Be5(rf:Bd->Option Ba)(hrf:FM 210 Ci Ch rf):FM 280 Adp Adq (Av7 rf):=FnLn.fin (ι:=Nat) (sg:=Adp) (so:=Adq) 0 (F:=λk=>Aae k rf) (λk=>A9p k rf hrf) λ_ _ _ hx=>⟨10,hx⟩
def Xb:Sig:=⟨1,[],[(0,.ptr 0 0)],[(0,.cells [.sl .tok false,.int .i64,.bool,.int .i64])],1,1,0,[],[]⟩
def Wp:Sig:=⟨1,[(0,.sv .expr)],[],[(0,.cells [.sl .tok false,.int .i64,.bool,.int .i64])],1,1,0,[],[]⟩
abbrev A8w:=List Tok×Int×Bool×Int
abbrev Apv:=Xpr×List Tok×Int×Bool×Int
def Als:Sig:=⟨36,[(2,.int .i64),(27,.int .i64),(28,.int .i64)],[(8,.ptr 80 0),(10,.ptr 81 0)],[(0,.cells [.sl .tok false,.int .i64,.bool,.int .i64]),(1,.one (.sv .expr)),(80,.one (.sv .expr)),(81,.one (.sv .expr))],82,80,400,[],[]⟩
abbrev Ag7:=Int×Int×Int×List Tok×Int×Bool×Int×Xpr×Xpr×Xpr
def Axx{R:Type}(rec:Ag7->Option R)(kx:Ex->Ag7->Option R)(v:Ag7):Option R:=match v with
 |(a,b,c,w6,w7,w8,w9,d,e,f) =>
 cond (decide (c<b)) (
  rec (a,b,(wr .i64 (c+1)),w6,w7,w8,w9,d,e,(Xpr.mk a ⟨0,0,[]⟩ [] [f]))) (
  kx (.exit 2) (a,b,c,w6,w7,w8,w9,d,e,f))
def Ajr:Sig:=⟨36,[(1,.str),(2,.int .i64),(9,.int .i64)],[(0,.ptr 0 0),(3,.bm 280 [.ptr 0 0]),(8,.ptr 80 0)],[(0,.cells [.sl .tok false,.int .i64,.bool,.int .i64]),(1,.one (.sv .expr)),(80,.one (.sv .expr))],81,80,400,[],[]⟩
abbrev Afd:=Str×Int×Int×List Tok×Int×Bool×Int×Xpr×Xpr
def Av6{R:Type}(rec:Afd->Option R)(kx:Ex->Afd->Option R)(v:Afd):Option R:=match v with
 |(v,v1,v2,w,w1,w2,w3,w4,w5) =>
 cond (!w2) (
  (A6 (v,w,w1,w2,w3)).bind λ(x,x1,x2,x3,x4) =>
  cond (x) (
   rec (v,v1,(wr .i64 (v2+1)),x1,x2,x3,x4,w4,w5)) (
   kx (.exit 0) (v,v1,v2,x1,x2,x3,x4,w4,w5))) (
  kx (.exit 0) (v,v1,v2,w,w1,w2,w3,w4,w5))
def Anc(R:Type)(k:Nat)(rf:Bd->Option Ba):Px R:=pxO [(139,Am C4 C5 A6),(280,Am Adp Adq (Av7 rf))] [] [(2,Ao k Ajr (Av6)),(6,Ao k Als (Axx))] []
noncomputable def Azt(R:Type)(k:Nat)(rf:Bd->Option Ba):Px R:=pxO [(279,Aw 80 400 (Anc R k rf) Tryz.f279)] [] [] []
def Y9(k:Nat)(rf:Bd->Option Ba)(x:A8w):Option (Apv):=match x with
 |(l,n,b,p) =>
 Aq (λrec=>Av6 rec (λe vz=>match vz with|(_,v4,v5,v6,v7,v8,v9,a,c)=>match e with
  |.exit 0 =>
  (Av7 rf (v6,v7,v8,v9)).bind λ(x5,x6,x7,x8,x9) =>
   Aq (λrec=>Axx rec (λe vz=>match vz with|(_,_,_,d,f,g,h,_,_,i)=>match e with
   |.exit 2 =>some (i,d,f,g,h)
   |_=>none)) k (v4,v5,0,x6,x7,x8,x9,a,c,x5)
  |_=>none)) k ([78,79,84],3,0,l,n,b,p,(Xpr.mk 0 ⟨0,0,[]⟩ [] []),(Xpr.mk 0 ⟨0,0,[]⟩ [] []))
theorem Ba3(k:Nat)(rf:Bd->Option Ba)(hrf:FM 210 Ci Ch rf):FM 272 Xb Wp (Y9 k rf):=fRL (px:=Azt _ k rf) (n:=0) Tryz.func272 rfl (λcx H=>by have h1:Lv cx (Anc (Apv) k rf):=lv H (l1 H Dt (l1 H (Be5 rf hrf) Ae)) Aa Ab;have hlpnot_0:=lO H h1 (b:=lp Tryz.f279 0) (k:=k) (n:=0) (s:=Ajr) (step:=Av6) (λ_ _ _ (_,_,_,_,_,_,_,_,_)=>by kernel_rfl) Ai;have hlpnot_1:=lO H h1 (b:=lp Tryz.f279 1) (k:=k) (n:=0) (s:=Als) (step:=Axx) (λ_ _ _ (_,_,_,_,_,_,_,_,_,_)=>by kernel_rfl) Ai;have h0:Lv cx (Azt (Apv) k rf):=lv H (An (cR H h1 Tryz.func279 rfl (n:=2) ((Bc (Bc Ai hlpnot_0) hlpnot_1))) Ae) Aa Ab;exact⟨h0,Ai⟩) λ(_,_,_,_)=>by kernel_rfl
def Ag0(rf:Bd->Option Ba):A8w->Option Apv:=λx=>Y9 ((x.1.length+1)) rf x
theorem Azv(rf:Bd->Option Ba)(hrf:FM 210 Ci Ch rf):FM 272 Xb Wp (Ag0 rf):=FnLn.fin (ι:=Nat) (sg:=Xb) (so:=Wp) 0 (F:=λk=>Y9 k rf) (λk=>Ba3 k rf hrf) λx _ _ hx=>⟨(x.1.length+1),hx⟩
def V5:Sig:=⟨1,[],[(0,.ptr 0 0)],[(0,.cells [.sl .tok false,.int .i64,.bool,.int .i64])],1,1,0,[],[]⟩
def X1:Sig:=⟨1,[(0,.sv .expr)],[],[(0,.cells [.sl .tok false,.int .i64,.bool,.int .i64])],1,1,0,[],[]⟩
abbrev Bc4:=List Tok×Int×Bool×Int
abbrev Aqa:=Xpr×List Tok×Int×Bool×Int
def Akc:Sig:=⟨38,[(2,.sl .pair true),(17,.sl .pair false),(18,.int .i64),(19,.int .i64)],[(0,.ptr 0 0),(1,.bm 272 [.ptr 0 0]),(6,.ptr 80 0),(7,.ptr 81 0)],[(0,.cells [.sl .tok false,.int .i64,.bool,.int .i64]),(1,.one (.sv .expr)),(80,.one (.sv .expr)),(81,.one (.sv .expr))],82,80,400,[],[]⟩
abbrev Aii:=List PairS×List PairS×Int×Int×List Tok×Int×Bool×Int×Xpr×Xpr×Xpr
def Axy{R:Type}(rf:Bd->Option Ba)(rec:Aii->Option R)(kx:Ex->Aii->Option R)(v:Aii):Option R:=match v with
 |(v1,v2,v3,v4,w7,w8,w9,d,a,b,c) =>
 cond (decide (v4<v3)) (
  chk (inb v4 v2.length) (
  (A6 ((at' .pair v2 v4).sign,w7,w8,w9,d)).bind λ(x5,x6,x7,x8,x9) =>
   cond (x5) (
   (Ag0 rf (x6,x7,x8,x9)).bind λ(e,f,g,h,i) =>kx (.exit 1) (v1,v2,v3,v4,f,g,h,i,a,b,(Xpr.mk ((at' .pair v2 v4).kind) ⟨0,0,[]⟩ [] [c,e]))) (
   rec (v1,v2,v3,(wr .i64 (v4+1)),x6,x7,x8,x9,a,b,c)))) (
  kx (.exit 2) (v1,v2,v3,v4,w7,w8,w9,d,a,b,c))
def Amd:Sig:=⟨38,[(2,.sl .pair true)],[(0,.ptr 0 0),(1,.bm 272 [.ptr 0 0]),(6,.ptr 80 0),(7,.ptr 81 0)],[(0,.cells [.sl .tok false,.int .i64,.bool,.int .i64]),(1,.one (.sv .expr)),(80,.one (.sv .expr)),(81,.one (.sv .expr))],82,80,400,[],[]⟩
abbrev Aha:=List PairS×List Tok×Int×Bool×Int×Xpr×Xpr×Xpr
def Av3{R:Type}(k:Nat)(rf:Bd->Option Ba)(rec:Aha->Option R)(kx:Ex->Aha->Option R)(v:Aha):Option R:=match v with
 |(v,w,w1,w2,w3,w4,w5,w6) =>
 cond (!w2) (
  Aq (λrc=>Axy rf rc (λe vz=>match vz with|(v5,_,_,_,v9,a,b,c,d,f,g)=>match e with
  |.exit 1 =>rec (v5,v9,a,b,c,d,f,g)
  |.exit 2 =>kx (.exit 0) (v5,v9,a,b,c,d,f,g)
  |_=>none)) k (v,v,(v.length:Int),0,w,w1,w2,w3,w4,w5,w6)) (
  kx (.exit 0) (v,w,w1,w2,w3,w4,w5,w6))
def Alh(R:Type)(k:Nat)(rf:Bd->Option Ba):Px R:=pxO [(272,Am Xb Wp (Ag0 rf)),(139,Am C4 C5 A6)] [] [(4,Ao k Akc (Axy rf)),(2,Ao k Amd (Av3 k rf))] [(272,C1 Xb Wp (Ag0 rf))]
noncomputable def Az5(R:Type)(k:Nat)(rf:Bd->Option Ba):Px R:=pxO [(254,Aw 80 400 (Alh R k rf) Tryz.f254)] [] [] []
def Y6(k:Nat)(rf:Bd->Option Ba)(x:Bc4):Option (Aqa):=match x with
 |(l,n,b,p) =>
 (Ag0 rf (l,n,b,p)).bind λ(x,x1,x2,x3,x4) =>
  Aq (λrec=>Av3 k rf rec (λe vz=>match vz with|(_,a,c,d,f,_,_,g)=>match e with
  |.exit 0 =>some (g,a,c,d,f)
  |_=>none)) k ([(PairS.mk [65,78,68] 4)],x1,x2,x3,x4,(Xpr.mk 0 ⟨0,0,[]⟩ [] []),(Xpr.mk 0 ⟨0,0,[]⟩ [] []),x)
theorem Bcv(k:Nat)(rf:Bd->Option Ba)(hrf:FM 210 Ci Ch rf):FM 255 V5 X1 (Y6 k rf):=fRL (px:=Az5 _ k rf) (n:=0) Tryz.func255 rfl (λcx H=>by have h1:Lv cx (Alh (Aqa) k rf):=lv H (l1 H (Azv rf hrf) (l1 H Dt Ae)) Aa (w1 H (Azv rf hrf) Ab);have hlpand_1:=lO H h1 (b:=lpC (lp Tryz.f254 0) 0) (k:=k) (n:=0) (s:=Akc) (step:=Axy rf) (λ_ _ _ (_,_,_,_,_,_,_,_,_,_,_)=>by kernel_rfl) Ai;have hlpand_0:=lO H h1 (b:=lp Tryz.f254 0) (k:=k) (n:=1) (s:=Amd) (step:=Av3 k rf) (λ_ _ _ (_,_,_,_,_,_,_,_)=>by kernel_rfl) (Bc Ai hlpand_1);have h0:Lv cx (Az5 (Aqa) k rf):=lv H (An (cR H h1 Tryz.func254 rfl (n:=2) ((Bc (Bc Ai hlpand_0) hlpand_1))) Ae) Aa Ab;exact⟨h0,Ai⟩) λ(_,_,_,_)=>by kernel_rfl
def Ahd(rf:Bd->Option Ba):Bc4->Option Aqa:=λx=>Y6 ((x.1.length+3)) rf x
theorem Az8(rf:Bd->Option Ba)(hrf:FM 210 Ci Ch rf):FM 255 V5 X1 (Ahd rf):=FnLn.fin (ι:=Nat) (sg:=V5) (so:=X1) 0 (F:=λk=>Y6 k rf) (λk=>Bcv k rf hrf) λx _ _ hx=>⟨(x.1.length+3),hx⟩
def At2:Sig:=⟨38,[(2,.sl .pair true),(17,.sl .pair false),(18,.int .i64),(19,.int .i64)],[(0,.ptr 0 0),(1,.bm 255 [.ptr 0 0]),(6,.ptr 80 0),(7,.ptr 81 0)],[(0,.cells [.sl .tok false,.int .i64,.bool,.int .i64]),(1,.one (.sv .expr)),(80,.one (.sv .expr)),(81,.one (.sv .expr))],82,80,400,[],[]⟩
abbrev Ano:=List PairS×List PairS×Int×Int×List Tok×Int×Bool×Int×Xpr×Xpr×Xpr
def Bbk{R:Type}(rf:Bd->Option Ba)(rec:Ano->Option R)(kx:Ex->Ano->Option R)(v:Ano):Option R:=match v with
 |(v1,v2,v3,v4,w7,w8,w9,d,a,b,c) =>
 cond (decide (v4<v3)) (
  chk (inb v4 v2.length) (
  (A6 ((at' .pair v2 v4).sign,w7,w8,w9,d)).bind λ(x5,x6,x7,x8,x9) =>
   cond (x5) (
   (Ahd rf (x6,x7,x8,x9)).bind λ(e,f,g,h,i) =>kx (.exit 1) (v1,v2,v3,v4,f,g,h,i,a,b,(Xpr.mk ((at' .pair v2 v4).kind) ⟨0,0,[]⟩ [] [c,e]))) (
   rec (v1,v2,v3,(wr .i64 (v4+1)),x6,x7,x8,x9,a,b,c)))) (
  kx (.exit 2) (v1,v2,v3,v4,w7,w8,w9,d,a,b,c))
def Asw:Sig:=⟨38,[(2,.sl .pair true)],[(0,.ptr 0 0),(1,.bm 255 [.ptr 0 0]),(6,.ptr 80 0),(7,.ptr 81 0)],[(0,.cells [.sl .tok false,.int .i64,.bool,.int .i64]),(1,.one (.sv .expr)),(80,.one (.sv .expr)),(81,.one (.sv .expr))],82,80,400,[],[]⟩
abbrev Aou:=List PairS×List Tok×Int×Bool×Int×Xpr×Xpr×Xpr
def Ba6{R:Type}(k:Nat)(rf:Bd->Option Ba)(rec:Aou->Option R)(kx:Ex->Aou->Option R)(v:Aou):Option R:=match v with
 |(v,w,w1,w2,w3,w4,w5,w6) =>
 cond (!w2) (
  Aq (λrc=>Bbk rf rc (λe vz=>match vz with|(v5,_,_,_,v9,a,b,c,d,f,g)=>match e with
  |.exit 1 =>rec (v5,v9,a,b,c,d,f,g)
  |.exit 2 =>kx (.exit 0) (v5,v9,a,b,c,d,f,g)
  |_=>none)) k (v,v,(v.length:Int),0,w,w1,w2,w3,w4,w5,w6)) (
  kx (.exit 0) (v,w,w1,w2,w3,w4,w5,w6))
def Ats(R:Type)(k:Nat)(rf:Bd->Option Ba):Px R:=pxO [(255,Am V5 X1 (Ahd rf)),(139,Am C4 C5 A6)] [] [(4,Ao k At2 (Bbk rf)),(2,Ao k Asw (Ba6 k rf))] [(255,C1 V5 X1 (Ahd rf))]
noncomputable def A8f(R:Type)(k:Nat)(rf:Bd->Option Ba):Px R:=pxO [(254,Aw 80 400 (Ats R k rf) Tryz.f254)] [] [] []
def Afx(k:Nat)(rf:Bd->Option Ba)(x:Bd):Option (Ba):=match x with
 |(l,n,b,p) =>
 (Ahd rf (l,n,b,p)).bind λ(x,x1,x2,x3,x4) =>
  Aq (λrec=>Ba6 k rf rec (λe vz=>match vz with|(_,a,c,d,f,_,_,g)=>match e with
  |.exit 0 =>some (g,a,c,d,f)
  |_=>none)) k ([(PairS.mk [79,82] 5)],x1,x2,x3,x4,(Xpr.mk 0 ⟨0,0,[]⟩ [] []),(Xpr.mk 0 ⟨0,0,[]⟩ [] []),x)
theorem Bdk(k:Nat)(rf:Bd->Option Ba)(hrf:FM 210 Ci Ch rf):FM 210 Ci Ch (Afx k rf):=fRL (px:=A8f _ k rf) (n:=0) Tryz.func210 rfl (λcx H=>by have h1:Lv cx (Ats (Ba) k rf):=lv H (l1 H (Az8 rf hrf) (l1 H Dt Ae)) Aa (w1 H (Az8 rf hrf) Ab);have hlpor_1:=lO H h1 (b:=lpC (lp Tryz.f254 0) 0) (k:=k) (n:=0) (s:=At2) (step:=Bbk rf) (λ_ _ _ (_,_,_,_,_,_,_,_,_,_,_)=>by kernel_rfl) Ai;have hlpor_0:=lO H h1 (b:=lp Tryz.f254 0) (k:=k) (n:=1) (s:=Asw) (step:=Ba6 k rf) (λ_ _ _ (_,_,_,_,_,_,_,_)=>by kernel_rfl) (Bc Ai hlpor_1);have h0:Lv cx (A8f (Ba) k rf):=lv H (An (cR H h1 Tryz.func254 rfl (n:=2) ((Bc (Bc Ai hlpor_0) hlpor_1))) Ae) Aa Ab;exact⟨h0,Ai⟩) λ(_,_,_,_)=>by kernel_rfl
def A7h(rf:Bd->Option Ba):Bd->Option Ba:=λx=>Afx (x.1.length+3) rf x
theorem Bd3(rf:Bd->Option Ba)(hrf:FnLn Tryz.prog elT glT 210 Ci Ch rf):FnLn Tryz.prog elT glT 210 Ci Ch (A7h rf) :=.fin (ι:=Nat) (sg:=Ci) (so:=Ch) 0 (F:=λk=>Afx k rf) (λk=>Bdk k rf hrf) λx _ _ hx=>⟨x.1.length+3,hx⟩
def N5:Bd->Option Ba:=λx=>Aq (V:=Bd) (R:=Ba) A7h (x.1.length+2) x
theorem Ao3:FnLn Tryz.prog elT glT 210 Ci Ch N5 :=.fin (ι:=Nat) (sg:=Ci) (so:=Ch) 0 (F:=λn=>Aq (V:=Bd) (R:=Ba) A7h n) (λn=>FnLn.rec' (Sx.enters_of Tryz.func210 rfl rfl) (λrf hrf=>Bd3 rf hrf) n) λx _ _ hx=>⟨x.1.length+2,hx⟩
def Lj:Sig:=⟨1,[],[(0,.ptr 0 0)],[(0,.cells [.sl .tok false,.int .i64,.bool,.int .i64])],1,1,0,[],[]⟩
def Mc:Sig:=⟨1,[(0,.sl .str true)],[],[(0,.cells [.sl .tok false,.int .i64,.bool,.int .i64])],1,1,0,[],[]⟩
abbrev Atj:=List Tok×Int×Bool×Int
abbrev N6:=List Str×List Tok×Int×Bool×Int
def Abp:Sig:=⟨19,[],[(0,.ptr 0 0),(1,.fn 253 [.ptr 2 0,.ptr 1 0])],[(0,.cells [.sl .tok false,.int .i64,.bool,.int .i64]),(1,.fx [.ptr 0 0]),(2,.cells [.sl .str true])],80,80,400,[],[]⟩
abbrev U3:=List Tok×Int×Bool×Int×List Str
def Ag9{R:Type}(rec:U3->Option R)(kx:Ex->U3->Option R)(v:U3):Option R:=match v with
 |(w,w1,w2,w3,w4) =>
 cond (!w2) (
  (A6 ([44],w,w1,w2,w3)).bind λ(x9,a,b,c,d) =>
  cond (x9) (
   (Bn (a,b,c,d)).bind λ(e,f,g,h,i) =>
   chk (decide (w4.length+1<=Av)) (
    rec (f,g,h,i,(w4++[e])))) (
   kx (.exit 0) (a,b,c,d,w4))) (
  kx (.exit 0) (w,w1,w2,w3,w4))
def Tf(R:Type)(_k:Nat):Px R:=pxO [] [] [] [(142,C1 Eg Ea Bn)]
noncomputable def Acx(R:Type)(k:Nat):Px R:=pxO [(139,Am C4 C5 A6),(253,Aw 120 600 (Tf R k) Tryz.f253)] [] [(1,Ao k Abp (Ag9))] []
noncomputable def Am6(R:Type)(k:Nat):Px R:=pxO [(141,Am De C9 A7),(143,Aw 80 400 (Acx R k) Tryz.f143)] [] [] []
def Oj(k:Nat)(x:Atj):Option (N6):=match x with
 |(l,n,b,p) =>
 (A7 ([[40]],l,n,b,p)).bind λ(x,x1,x2,x3) =>
  (Bn (x,x1,x2,x3)).bind λ(x4,x5,x6,x7,x8) =>
  Aq (λrec=>Ag9 rec (λe vz=>match vz with|(v,v1,v2,v3,v4)=>match e with
   |.exit 0 =>
   (A7 ([[41]],v,v1,v2,v3)).bind λ(a,c,d,f) =>some (v4,a,c,d,f)
   |_=>none)) k (x5,x6,x7,x8,[x4])
theorem Aw0(k:Nat):FM 208 Lj Mc (Oj k):=fRL (px:=Am6 _ k) (n:=0) Tryz.func208 rfl (λcx H=>by have h2:Lv cx (Tf (N6) k):=lv H Ae Aa (w1 H Ge Ab);have h1:Lv cx (Acx (N6) k):=lv H (l1 H Dt (An (cR H h2 Tryz.func253 rfl (n:=0) (Ai)) Ae)) Aa Ab;have hlpnames_0:=lO H h1 (b:=lp Tryz.f143 0) (k:=k) (n:=0) (s:=Abp) (step:=Ag9) (λ_ _ _ (_,_,_,_,_)=>by kernel_rfl) Ai;have h0:Lv cx (Am6 (N6) k):=lv H (l1 H Ec (An (cR H h1 Tryz.func143 rfl (n:=1) ((Bc Ai hlpnames_0))) Ae)) Aa Ab;exact⟨h0,Ai⟩) λ(_,_,_,_)=>by kernel_rfl
def O3:Atj->Option N6:=λx=>Oj ((x.1.length+3)) x
theorem Akq:FM 208 Lj Mc (O3):=FnLn.fin (ι:=Nat) (sg:=Lj) (so:=Mc) 0 (F:=λk=>Oj k) (λk=>Aw0 k) λx _ _ hx=>⟨(x.1.length+3),hx⟩
def Lw:Sig:=⟨1,[],[(0,.ptr 0 0)],[(0,.cells [.sl .tok false,.int .i64,.bool,.int .i64])],1,1,0,[],[]⟩
def L8:Sig:=⟨1,[(0,.sl .expr true)],[],[(0,.cells [.sl .tok false,.int .i64,.bool,.int .i64])],1,1,0,[],[]⟩
abbrev Asz:=List Tok×Int×Bool×Int
abbrev Oa:=List Xpr×List Tok×Int×Bool×Int
def Aa2:Sig:=⟨19,[],[(0,.ptr 0 0),(1,.fn 209 [.ptr 2 0,.ptr 1 0])],[(0,.cells [.sl .tok false,.int .i64,.bool,.int .i64]),(1,.fx [.ptr 0 0]),(2,.cells [.sl .expr true])],80,80,400,[],[]⟩
abbrev T6:=List Tok×Int×Bool×Int×List Xpr
def Aiz{R:Type}(rec:T6->Option R)(kx:Ex->T6->Option R)(v:T6):Option R:=match v with
 |(w,w1,w2,w3,w4) =>
 cond (!w2) (
  (A6 ([44],w,w1,w2,w3)).bind λ(x5,x6,x7,x8,x9) =>
  cond (x5) (
   (N5 (x6,x7,x8,x9)).bind λ(a,b,c,d,e) =>
   chk (decide (w4.length+1<=Av)&&decide ((w4.length:Int)=(w4.length:Int))) (
    rec (b,c,d,e,(w4++[a])))) (
   kx (.exit 0) (x6,x7,x8,x9,w4))) (
  kx (.exit 0) (w,w1,w2,w3,w4))
def S7(R:Type)(_k:Nat):Px R:=pxO [] [] [] [(210,C1 Ci Ch N5)]
noncomputable def Acb(R:Type)(k:Nat):Px R:=pxO [(139,Am C4 C5 A6),(209,Aw 120 600 (S7 R k) Tryz.f209)] [] [(1,Ao k Aa2 (Aiz))] []
noncomputable def Am2(R:Type)(k:Nat):Px R:=pxO [(143,Aw 80 400 (Acb R k) Tryz.f143)] [] [] []
def Py(k:Nat)(x:Asz):Option (Oa):=match x with
 |(l,n,b,p) =>
 (N5 (l,n,b,p)).bind λ(x,x1,x2,x3,x4) =>
  chk (decide (0+1<=Av)&&decide (0=(0:Int))) (
  Aq (λrec=>Aiz rec (λe vz=>match vz with|(v,v1,v2,v3,v4)=>match e with
   |.exit 0 =>
   some (v4,v,v1,v2,v3)
   |_=>none)) k (x1,x2,x3,x4,[x]))
theorem Ayh(k:Nat):FM 145 Lw L8 (Py k):=fRL (px:=Am2 _ k) (n:=0) Tryz.func145 rfl (λcx H=>by have h2:Lv cx (S7 (Oa) k):=lv H Ae Aa (w1 H Ao3 Ab);have h1:Lv cx (Acb (Oa) k):=lv H (l1 H Dt (An (cR H h2 Tryz.func209 rfl (n:=0) (Ai)) Ae)) Aa Ab;have hlpexprs_0:=lO H h1 (b:=lp Tryz.f143 0) (k:=k) (n:=0) (s:=Aa2) (step:=Aiz) (λ_ _ _ (_,_,_,_,_)=>by kernel_rfl) Ai;have h0:Lv cx (Am2 (Oa) k):=lv H (An (cR H h1 Tryz.func143 rfl (n:=1) ((Bc Ai hlpexprs_0))) Ae) Aa Ab;exact⟨h0,Ai⟩) λ(_,_,_,_)=>by kernel_rfl
def Ma:Asz->Option Oa:=λx=>Py ((x.1.length+3)) x
theorem Aj2:FM 145 Lw L8 (Ma):=FnLn.fin (ι:=Nat) (sg:=Lw) (so:=L8) 0 (F:=λk=>Py k) (λk=>Ayh k) λx _ _ hx=>⟨(x.1.length+3),hx⟩
def Adj:Sig:=⟨1,[],[(0,.ptr 0 0)],[(0,.cells [.sl .tok false,.int .i64,.bool,.int .i64])],1,1,0,[],[]⟩
def Adf:Sig:=⟨1,[(0,.sv .col)],[],[(0,.cells [.sl .tok false,.int .i64,.bool,.int .i64])],1,1,0,[],[]⟩
abbrev Bat:=List Tok×Int×Bool×Int
abbrev Awk:=Col×List Tok×Int×Bool×Int
def Alv:Sig:=⟨87,[(10,.int .i64)],[(0,.ptr 0 0),(2,.ptr 1 0),(3,.ptr 2 0),(9,.agg [.str [],.str [],.str [66,79,79,76],.str [73,78,84],.str [84,69,88,84],.str [66,89,84,69,83]])],[(0,.cells [.sl .tok false,.int .i64,.bool,.int .i64]),(1,.one (.sv .col)),(2,.one (.sv .col))],3,1,0,[],[]⟩
abbrev Ae0:=Int×List Tok×Int×Bool×Int×Col×Col
def Ax6{R:Type}(rec:Ae0->Option R)(kx:Ex->Ae0->Option R)(v:Ae0):Option R:=match v with
 |(v,w,w1,w2,w3,w4,w5) =>
 cond (decide (v<6)) (
  chk (inb v 6) (
  let j1:=λ(p1:Bool) =>
   let j:=λ(p2:Bool) =>
   cond (p2) (
    (A6 ((at' .str [[],[],[66,79,79,76],[73,78,84],[84,69,88,84],[66,89,84,69,83]] v),w,w1,w2,w3)).bind λ(x5,x6,x7,x8,x9) =>
    cond (x5) (
     rec ((wr .i64 (v+1)),x6,x7,x8,x9,w4,(Col.mk w5.name v w5.notNull w5.unique w5.ref))) (
     rec ((wr .i64 (v+1)),x6,x7,x8,x9,w4,w5))) (
    rec ((wr .i64 (v+1)),w,w1,w2,w3,w4,w5))
   cond (p1) (
   j (decide (w5.kind=0))) (
   j false)
  cond (decide (2<=v)) (
   j1 (!w2)) (
   j1 false))) (
  kx (.exit 0) (v,w,w1,w2,w3,w4,w5))
def A0c(R:Type)(k:Nat):Px R:=pxO [(142,Am Eg Ea Bn),(139,Am C4 C5 A6),(149,Am Fu F1 Dq),(141,Am De C9 A7)] [] [(3,Ao k Alv (Ax6))] []
def Zf(k:Nat)(x:Bat):Option (Awk):=match x with
 |(l,n,b,p) =>
 (Bn (l,n,b,p)).bind λ(x,x1,x2,x3,x4) =>
  Aq (λrec=>Ax6 rec (λe vz=>match vz with|(_,v2,v3,v4,v5,_,v7)=>match e with
  |.exit 0 =>
   let j6:=λ(h:List Tok) (i:Int) (d:Bool) (j:Int) =>
   let j2:=λ(m:List Tok) (o:Int) (q:Bool) (r:Int) (a:Col) =>
    let j5:=λ(s:List Tok) (t:Int) (f:Bool) (u:Int) =>
    let j4:=λ(v:List Tok) (w:Int) (g:Bool) (y:Int) (c:Col) =>
     let j3:=λ(p8:Bool) (z:List Tok) (a0:Int) (a1:Bool) (a2:Int) =>
     cond (p8) (
      (Bn (z,a0,a1,a2)).bind λ(a3,a4,a5,a6,a7) =>
      some ((Col.mk c.name c.kind c.notNull c.unique a3),a4,a5,a6,a7)) (
      some (c,z,a0,a1,a2))
     cond (!g) (
     (A6 ([82,69,70,69,82,69,78,67,69,83],v,w,g,y)).bind λ(a8,a9,aa,ab,ac) =>j3 a8 a9 aa ab ac) (
     j3 false v w g y)
    cond (!f) (
     (A6 ([85,78,73,81,85,69],s,t,f,u)).bind λ(ad,ae,af,ag,ah) =>
     j4 ae af ag ah (Col.mk a.name a.kind a.notNull ad a.ref)) (
     j4 s t f u (Col.mk a.name a.kind a.notNull false a.ref))
    cond (a.notNull) (
    (A7 ([[78,85,76,76]],m,o,q,r)).bind λ(ai,aj,ak,al) =>j5 ai aj ak al) (
    j5 m o q r)
   cond (!d) (
    (A6 ([78,79,84],h,i,d,j)).bind λ(am,an,ao,ap,aq) =>
    j2 an ao ap aq (Col.mk v7.name v7.kind am v7.unique v7.ref)) (
    j2 h i d j (Col.mk v7.name v7.kind false v7.unique v7.ref))
   cond (decide (v7.kind=0)) (
   (Dq (v2,v3,v4,v5)).bind λ(ar,au,av,aw) =>j6 ar au av aw) (
   j6 v2 v3 v4 v5)
  |_=>none)) k (0,x1,x2,x3,x4,(Col.mk [] 0 false false []),(Col.mk x 0 false false []))
theorem Bbq(k:Nat):FM 252 Adj Adf (Zf k):=fRL (px:=A0c _ k) (n:=1) Tryz.func252 rfl (λcx H=>by have h0:Lv cx (A0c (Awk) k):=lv H (l1 H Ge (l1 H Dt (l1 H Ih (l1 H Ec Ae)))) Aa Ab;have hlpcol_0:=lO H h0 (b:=lp Tryz.f252 0) (k:=k) (n:=0) (s:=Alv) (step:=Ax6) (λ_ _ _ (_,_,_,_,_,_,_)=>by kernel_rfl) Ai;exact⟨h0,(Bc Ai hlpcol_0)⟩) λ(_,_,_,_)=>by kernel_rfl
def Ann:Bat->Option Awk:=λx=>Zf (10) x
theorem Bdq:FM 252 Adj Adf (Ann):=FnLn.fin (ι:=Nat) (sg:=Adj) (so:=Adf) 0 (F:=λk=>Zf k) (λk=>Bbq k) λ_ _ _ hx=>⟨10,hx⟩
def Q2:Sig:=⟨2,[],[(0,.ptr 0 0),(1,.ptr 1 0)],[(0,.cells [.sl .tok false,.int .i64,.bool,.int .i64]),(1,.cells [.int .i64,.str,.str,.sl .col true,.sl .str false,.sl .expr true,.sl .exprs true,.sl .set true,.bool,.int .i64,.int .i64,.int .i64,.str,.str,.sl .expr false,.sl .str true,.sl .bool true,.int .i64])],2,2,0,[],[]⟩
def Qq:Sig:=⟨0,[],[],[(0,.cells [.sl .tok false,.int .i64,.bool,.int .i64]),(1,.cells [.int .i64,.str,.str,.sl .col true,.sl .str false,.sl .expr true,.sl .exprs true,.sl .set true,.bool,.int .i64,.int .i64,.int .i64,.str,.str,.sl .expr false,.sl .str true,.sl .bool true,.int .i64])],2,2,0,[],[]⟩
abbrev Asj:=List Tok×Int×Bool×Int×Int×Str×Str×List Col×List Str×List Xpr×List (List Xpr)×List SetE×Bool×Int×Int×Int×Str×Str×List Xpr×List Str×List Bool×Int
abbrev Ais:=List Tok×Int×Bool×Int×Int×Str×Str×List Col×List Str×List Xpr×List (List Xpr)×List SetE×Bool×Int×Int×Int×Str×Str×List Xpr×List Str×List Bool×Int
def Acf:Sig:=⟨95,[],[(0,.ptr 0 0),(1,.ptr 1 0)],[(0,.cells [.sl .tok false,.int .i64,.bool,.int .i64]),(1,.cells [.int .i64,.str,.str,.sl .col true,.sl .str true,.sl .expr true,.sl .exprs true,.sl .set true,.bool,.int .i64,.int .i64,.int .i64,.str,.str,.sl .expr false,.sl .str true,.sl .bool true,.int .i64])],2,2,0,[],[]⟩
abbrev U1:=List Tok×Int×Bool×Int×Int×Str×Str×List Col×List Str×List Xpr×List (List Xpr)×List SetE×Bool×Int×Int×Int×Str×Str×List Xpr×List Str×List Bool×Int
def Aip{R:Type}(rec:U1->Option R)(kx:Ex->U1->Option R)(v:U1):Option R:=match v with
 |(t,u,b,w,c,d,e,f,g,a,h,i,j,k,l,m,n,o,p,q,r,s) =>
 cond (!b) (
  (A6 ([44],t,u,b,w)).bind λ(a1,x,y,z,a0) =>
  cond (a1) (
   (A7 ([[67,72,69,67,75],[40]],x,y,z,a0)).bind λ(a2,a3,a4,a5) =>
   (N5 (a2,a3,a4,a5)).bind λ(a6,a7,a8,a9,aa) =>
    chk (decide (a.length+1<=Av)&&decide ((a.length:Int)=(a.length:Int))) (
    (A7 ([[41]],a7,a8,a9,aa)).bind λ(ab,ac,ad,ae) =>rec (ab,ac,ad,ae,c,d,e,f,g,(a++[a6]),h,i,j,k,l,m,n,o,p,q,r,s))) (
   kx (.exit 2) (x,y,z,a0,c,d,e,f,g,a,h,i,j,k,l,m,n,o,p,q,r,s))) (
  kx (.exit 2) (t,u,b,w,c,d,e,f,g,a,h,i,j,k,l,m,n,o,p,q,r,s))
def Aba:Sig:=⟨95,[],[(0,.ptr 0 0),(1,.ptr 1 0)],[(0,.cells [.sl .tok false,.int .i64,.bool,.int .i64]),(1,.cells [.int .i64,.str,.str,.sl .col true,.sl .str false,.sl .expr true,.sl .exprs true,.sl .set true,.bool,.int .i64,.int .i64,.int .i64,.str,.str,.sl .expr false,.sl .str true,.sl .bool true,.int .i64])],2,2,0,[],[]⟩
abbrev Vh:=List Tok×Int×Bool×Int×Int×Str×Str×List Col×List Str×List Xpr×List (List Xpr)×List SetE×Bool×Int×Int×Int×Str×Str×List Xpr×List Str×List Bool×Int
def Aga{R:Type}(rec:Vh->Option R)(kx:Ex->Vh->Option R)(v:Vh):Option R:=match v with
 |(w,w1,w2,w3,w4,w5,w6,w7,w8,w9,a,b,c,d,e,f,g,h,i,j,k,l) =>
 cond (!w2) (
  (A6 ([80,82,73,77,65,82,89],w,w1,w2,w3)).bind λ(q,m,n,o,p) =>
  cond (!q) (
   (Ann (m,n,o,p)).bind λ(r,s,t,u,x) =>
   chk (decide (w7.length+1<=Av)) (
    (A7 ([[44]],s,t,u,x)).bind λ(y,z,a0,a1) =>
    rec (y,z,a0,a1,w4,w5,w6,(w7++[r]),w8,w9,a,b,c,d,e,f,g,h,i,j,k,l))) (
   kx (.exit 0) (m,n,o,p,w4,w5,w6,w7,w8,w9,a,b,c,d,e,f,g,h,i,j,k,l))) (
  kx (.exit 0) (w,w1,w2,w3,w4,w5,w6,w7,w8,w9,a,b,c,d,e,f,g,h,i,j,k,l))
def Amx(R:Type)(k:Nat):Px R:=pxO [(142,Am Eg Ea Bn),(141,Am De C9 A7),(139,Am C4 C5 A6),(208,Am Lj Mc O3)] [] [(4,Ao k Aba (Aga)),(9,Ao k Acf (Aip))] [(252,C1 Adj Adf Ann),(210,C1 Ci Ch N5)]
def Qc(k:Nat)(x:Asj):Option (Ais):=match x with
 |(l,n,b,p,_,_,so,sc,ss,sl,sr,st,sh,wk,vk,vn,vs,wn,wl,sd,se,sm) =>
 (Bn (l,n,b,p)).bind λ(x,x1,x2,x3,x4) =>
  (A7 ([[40]],x1,x2,x3,x4)).bind λ(x5,x6,x7,x8) =>
  (Ann (x5,x6,x7,x8)).bind λ(x9,a,c,d,f) =>
   chk (decide (sc.length+1<=Av)) (
   (A7 ([[44]],a,c,d,f)).bind λ(g,h,i,j) =>
    Aq (λrec=>Aga rec (λe vz=>match vz with|(v,v1,v2,v3,v4,v5,v6,v7,_,v9,m,o,q,r,s,t,u,w,y,z,a0,a1)=>match e with
    |.exit 0 =>
     (A7 ([[75,69,89]],v,v1,v2,v3)).bind λ(a2,a3,a4,a5) =>
     (O3 (a2,a3,a4,a5)).bind λ(a6,a7,a8,a9,aa) =>
      Aq (λrec=>Aip rec (λe vz=>match vz with|(ab,ac,ad,ae,af,ag,ah,ai,aj,ak,al,am,an,ao,ap,aq,ar,au,av,aw,ax,ay)=>match e with
      |.exit 2 =>
       (A7 ([[41]],ab,ac,ad,ae)).bind λ(az,b0,b1,b2) =>
       some (az,b0,b1,b2,af,ag,ah,ai,aj,ak,al,am,an,ao,ap,aq,ar,au,av,aw,ax,ay)
      |_=>none)) k (a7,a8,a9,aa,v4,v5,v6,v7,a6,v9,m,o,q,r,s,t,u,w,y,z,a0,a1)
    |_=>none)) k (g,h,i,j,1,x,so,(sc++[x9]),ss,sl,sr,st,sh,wk,vk,vn,vs,wn,wl,sd,se,sm))
theorem Avf(k:Nat):FM 207 Q2 Qq (Qc k):=fRL (px:=Amx _ k) (n:=2) Tryz.func207 rfl (λcx H=>by have h0:Lv cx (Amx (Ais) k):=lv H (l1 H Ge (l1 H Ec (l1 H Dt (l1 H Akq Ae)))) Aa (w1 H Bdq (w1 H Ao3 Ab));have hlptable_0:=lO H h0 (b:=lp Tryz.f207 0) (k:=k) (n:=0) (s:=Aba) (step:=Aga) (λ_ _ _ (_,_,_,_,_,_,_,_,_,_,_,_,_,_,_,_,_,_,_,_,_,_)=>by kernel_rfl) Ai;have hlptable_1:=lO H h0 (b:=lp Tryz.f207 1) (k:=k) (n:=0) (s:=Acf) (step:=Aip) (λ_ _ _ (_,_,_,_,_,_,_,_,_,_,_,_,_,_,_,_,_,_,_,_,_,_)=>by kernel_rfl) Ai;exact⟨h0,(Bc (Bc Ai hlptable_0) hlptable_1)⟩) λ(_,_,_,_,_,_,_,_,_,_,_,_,_,_,_,_,_,_,_,_,_,_)=>by kernel_rfl
def Ahb:Asj->Option Ais:=λx=>Qc ((x.1.length+3)) x
theorem A3n:FM 207 Q2 Qq (Ahb):=FnLn.fin (ι:=Nat) (sg:=Q2) (so:=Qq) 0 (F:=λk=>Qc k) (λk=>Avf k) λx _ _ hx=>⟨(x.1.length+3),hx⟩
def Vm:Sig:=⟨2,[],[(0,.ptr 0 0),(1,.ptr 1 0)],[(0,.cells [.sl .tok false,.int .i64,.bool,.int .i64]),(1,.cells [.int .i64,.str,.str,.sl .col true,.sl .str false,.sl .expr true,.sl .exprs true,.sl .set true,.bool,.int .i64,.int .i64,.int .i64,.str,.str,.sl .expr false,.sl .str true,.sl .bool true,.int .i64])],2,2,0,[],[]⟩
def Uu:Sig:=⟨0,[],[],[(0,.cells [.sl .tok false,.int .i64,.bool,.int .i64]),(1,.cells [.int .i64,.str,.str,.sl .col true,.sl .str false,.sl .expr true,.sl .exprs true,.sl .set true,.bool,.int .i64,.int .i64,.int .i64,.str,.str,.sl .expr false,.sl .str true,.sl .bool true,.int .i64])],2,2,0,[],[]⟩
abbrev Ak8:=List Tok×Int×Bool×Int×Int×Str×Str×List Col×List Str×List Xpr×List (List Xpr)×List SetE×Bool×Int×Int×Int×Str×Str×List Xpr×List Str×List Bool×Int
abbrev Akx:=List Tok×Int×Bool×Int×Int×Str×Str×List Col×List Str×List Xpr×List (List Xpr)×List SetE×Bool×Int×Int×Int×Str×Str×List Xpr×List Str×List Bool×Int
def Ayv(R:Type):Px R:=pxO [(139,Am C4 C5 A6),(207,Am Q2 Qq Ahb),(141,Am De C9 A7),(142,Am Eg Ea Bn),(208,Am Lj Mc O3)] [] [] []
def W4(x:Ak8):Option (Akx):=match x with
 |(l,n,b,p,sk,sn,so,sc,ss,sl,sr,st,sh,wk,vk,vn,vs,wn,wl,sd,se,sm) =>
 (A6 ([84,65,66,76,69],l,n,b,p)).bind λ(x,x1,x2,x3,x4) =>
  cond (x) (
  (Ahb (x1,x2,x3,x4,sk,sn,so,sc,ss,sl,sr,st,sh,wk,vk,vn,vs,wn,wl,sd,se,sm)).bind λ(x5,x6,x7,x8,x9,a,c,d,e,f,g,h,i,j,k,m,o,q,r,s,t,u) =>some (x5,x6,x7,x8,x9,a,c,d,e,f,g,h,i,j,k,m,o,q,r,s,t,u)) (
  (A7 ([[73,78,68,69,88]],x1,x2,x3,x4)).bind λ(v,w,y,z) =>
   (Bn (v,w,y,z)).bind λ(a0,a1,a2,a3,a4) =>
   (A7 ([[79,78]],a1,a2,a3,a4)).bind λ(a5,a6,a7,a8) =>
    (Bn (a5,a6,a7,a8)).bind λ(a9,aa,ab,ac,ad) =>
    (O3 (aa,ab,ac,ad)).bind λ(ae,af,ag,ah,ai) =>some (af,ag,ah,ai,3,a0,a9,sc,ae,sl,sr,st,sh,wk,vk,vn,vs,wn,wl,sd,se,sm))
theorem Aq3:FM 140 Vm Uu (W4):=fRL (px:=Ayv _) (n:=0) Tryz.func140 rfl (λ_ H=>⟨lv H (l1 H Dt (l1 H A3n (l1 H Ec (l1 H Ge (l1 H Akq Ae))))) Aa Ab,Ai⟩) λ(_,_,_,_,_,_,_,_,_,_,_,_,_,_,_,_,_,_,_,_,_,_)=>by kernel_rfl
def Y4:Ak8->Option Akx:=λx=>W4 x
theorem Awg:FM 140 Vm Uu (Y4):=Aq3
def Lh:Sig:=⟨2,[],[(0,.ptr 0 0),(1,.ptr 1 0)],[(0,.cells [.sl .tok false,.int .i64,.bool,.int .i64]),(1,.cells [.int .i64,.str,.str,.sl .col true,.sl .str false,.sl .expr true,.sl .exprs true,.sl .set true,.bool,.int .i64,.int .i64,.int .i64,.str,.str,.sl .expr false,.sl .str true,.sl .bool true,.int .i64])],2,2,0,[],[]⟩
def L5:Sig:=⟨0,[],[],[(0,.cells [.sl .tok false,.int .i64,.bool,.int .i64]),(1,.cells [.int .i64,.str,.str,.sl .col true,.sl .str false,.sl .expr true,.sl .exprs true,.sl .set true,.bool,.int .i64,.int .i64,.int .i64,.str,.str,.sl .expr false,.sl .str true,.sl .bool true,.int .i64])],2,2,0,[],[]⟩
abbrev Ata:=List Tok×Int×Bool×Int×Int×Str×Str×List Col×List Str×List Xpr×List (List Xpr)×List SetE×Bool×Int×Int×Int×Str×Str×List Xpr×List Str×List Bool×Int
abbrev Arq:=List Tok×Int×Bool×Int×Int×Str×Str×List Col×List Str×List Xpr×List (List Xpr)×List SetE×Bool×Int×Int×Int×Str×Str×List Xpr×List Str×List Bool×Int
def A5q(R:Type):Px R:=pxO [(139,Am C4 C5 A6),(210,Am Ci Ch N5)] [] [] []
def Ac0(x:Ata):Option (Arq):=match x with
 |(l,n,b,p,sk,sn,so,sc,ss,sl,sr,st,sh,wk,vk,vn,vs,wn,wl,sd,se,sm) =>
 let j:=λ(p2:Bool) (q4:List Tok) (q5:Int) (q6:Bool) (q7:Int) =>
  cond (p2) (
  (N5 (q4,q5,q6,q7)).bind λ(x5,x6,x7,x8,x9) =>some (x6,x7,x8,x9,sk,sn,so,sc,ss,sl,sr,st,true,x5.kind,x5.v.kind,x5.v.n,x5.v.s,x5.name,x5.l,sd,se,sm)) (
  some (q4,q5,q6,q7,sk,sn,so,sc,ss,sl,sr,st,sh,wk,vk,vn,vs,wn,wl,sd,se,sm))
 cond (!b) (
  (A6 ([87,72,69,82,69],l,n,b,p)).bind λ(x,x1,x2,x3,x4) =>
  j x x1 x2 x3 x4) (
  j false l n b p)
theorem Ayy:FM 147 Lh L5 (Ac0):=fRL (px:=A5q _) (n:=0) Tryz.func147 rfl (λ_ H=>⟨lv H (l1 H Dt (l1 H Ao3 Ae)) Aa Ab,Ai⟩) λ(_,_,_,_,_,_,_,_,_,_,_,_,_,_,_,_,_,_,_,_,_,_)=>by kernel_rfl
def Ir:Ata->Option Arq:=λx=>Ac0 x
theorem Aai:FM 147 Lh L5 (Ir):=Ayy
def Nm:Sig:=⟨2,[],[(0,.ptr 0 0),(1,.ptr 1 0)],[(0,.cells [.sl .tok false,.int .i64,.bool,.int .i64]),(1,.cells [.int .i64,.str,.str,.sl .col true,.sl .str false,.sl .expr true,.sl .exprs true,.sl .set true,.bool,.int .i64,.int .i64,.int .i64,.str,.str,.sl .expr false,.sl .str true,.sl .bool true,.int .i64])],2,2,0,[],[]⟩
def Mi:Sig:=⟨0,[],[],[(0,.cells [.sl .tok false,.int .i64,.bool,.int .i64]),(1,.cells [.int .i64,.str,.str,.sl .col true,.sl .str false,.sl .expr true,.sl .exprs true,.sl .set true,.bool,.int .i64,.int .i64,.int .i64,.str,.str,.sl .expr false,.sl .str true,.sl .bool true,.int .i64])],2,2,0,[],[]⟩
abbrev Amv:=List Tok×Int×Bool×Int×Int×Str×Str×List Col×List Str×List Xpr×List (List Xpr)×List SetE×Bool×Int×Int×Int×Str×Str×List Xpr×List Str×List Bool×Int
abbrev K5:=List Tok×Int×Bool×Int×Int×Str×Str×List Col×List Str×List Xpr×List (List Xpr)×List SetE×Bool×Int×Int×Int×Str×Str×List Xpr×List Str×List Bool×Int
def Xu:Sig:=⟨19,[],[(0,.ptr 0 0),(1,.fn 211 [.ptr 2 0,.ptr 3 0])],[(0,.cells [.sl .tok false,.int .i64,.bool,.int .i64]),(1,.cells [.int .i64,.str,.str,.sl .col true,.sl .str false,.sl .expr true,.sl .exprs true,.sl .set true,.bool,.int .i64,.int .i64,.int .i64,.str,.str,.sl .expr false,.sl .str true,.sl .bool true,.int .i64]),(2,.fx [.ptr 0 0]),(3,.fx [.ptr 1 0])],80,80,400,[],[]⟩
abbrev N8:=List Tok×Int×Bool×Int×Int×Str×Str×List Col×List Str×List Xpr×List (List Xpr)×List SetE×Bool×Int×Int×Int×Str×Str×List Xpr×List Str×List Bool×Int
def Z7{R:Type}(rec:N8->Option R)(kx:Ex->N8->Option R)(v:N8):Option R:=match v with
 |(w,w1,w2,w3,w4,w5,w6,w7,w8,w9,b,a,c,d,e,f,g,h,i,j,k,l) =>
 cond (!w2) (
  (A6 ([44],w,w1,w2,w3)).bind λ(q,m,n,o,p) =>
  cond (q) (
   (Bn (m,n,o,p)).bind λ(r,s,t,u,x) =>
   (A7 ([[61]],s,t,u,x)).bind λ(y,z,a0,a1) =>
    (N5 (y,z,a0,a1)).bind λ(a2,a3,a4,a5,a6) =>
    chk (decide (a.length+1<=Av)) (
     rec (a3,a4,a5,a6,w4,w5,w6,w7,w8,w9,b,(a++[(SetE.mk r (H1 a2))]),c,d,e,f,g,h,i,j,k,l))) (
   kx (.exit 0) (m,n,o,p,w4,w5,w6,w7,w8,w9,b,a,c,d,e,f,g,h,i,j,k,l))) (
  kx (.exit 0) (w,w1,w2,w3,w4,w5,w6,w7,w8,w9,b,a,c,d,e,f,g,h,i,j,k,l))
def Ps(R:Type)(_k:Nat):Px R:=pxO [(142,Am Eg Ea Bn),(141,Am De C9 A7),(210,Am Ci Ch N5)] [] [] []
noncomputable def W1(R:Type)(k:Nat):Px R:=pxO [(139,Am C4 C5 A6),(211,Aw 120 600 (Ps R k) Tryz.f211)] [] [(1,Ao k Xu (Z7))] []
noncomputable def Aio(R:Type)(k:Nat):Px R:=pxO [(141,Am De C9 A7),(147,Am Lh L5 Ir),(143,Aw 80 400 (W1 R k) Tryz.f143)] [] [] [(142,C1 Eg Ea Bn)]
def M4(k:Nat)(x:Amv):Option (K5):=match x with
 |(l,n,b,p,_,_,so,sc,ss,sl,sr,st,sh,wk,vk,vn,vs,wn,wl,sd,se,sm) =>
 (Bn (l,n,b,p)).bind λ(x,x1,x2,x3,x4) =>
  (A7 ([[83,69,84]],x1,x2,x3,x4)).bind λ(x5,x6,x7,x8) =>
  (Bn (x5,x6,x7,x8)).bind λ(x9,a,c,d,f) =>
   (A7 ([[61]],a,c,d,f)).bind λ(g,h,i,j) =>
   (N5 (g,h,i,j)).bind λ(m,o,q,r,s) =>
    chk (decide (st.length+1<=Av)) (
    Aq (λrec=>Z7 rec (λe vz=>match vz with|(v,v1,v2,v3,v4,v5,v6,v7,v8,v9,t,u,w,y,z,a0,a1,a2,a3,a4,a5,a6)=>match e with
     |.exit 0 =>
     (Ir (v,v1,v2,v3,v4,v5,v6,v7,v8,v9,t,u,w,y,z,a0,a1,a2,a3,a4,a5,a6)).bind λ(a7,a8,a9,aa,ab,ac,ad,ae,af,ag,ah,ai,aj,ak,al,am,an,ao,ap,aq,ar,au) =>some (a7,a8,a9,aa,ab,ac,ad,ae,af,ag,ah,ai,aj,ak,al,am,an,ao,ap,aq,ar,au)
     |_=>none)) k (o,q,r,s,6,x,so,sc,ss,sl,sr,(st++[(SetE.mk x9 (H1 m))]),sh,wk,vk,vn,vs,wn,wl,sd,se,sm))
theorem Aqx(k:Nat):FM 146 Nm Mi (M4 k):=fRL (px:=Aio _ k) (n:=0) Tryz.func146 rfl (λcx H=>by have h2:Lv cx (Ps (K5) k):=lv H (l1 H Ge (l1 H Ec (l1 H Ao3 Ae))) Aa Ab;have h1:Lv cx (W1 (K5) k):=lv H (l1 H Dt (An (cR H h2 Tryz.func211 rfl (n:=0) (Ai)) Ae)) Aa Ab;have hlpupdate_0:=lO H h1 (b:=lp Tryz.f143 0) (k:=k) (n:=0) (s:=Xu) (step:=Z7) (λ_ _ _ (_,_,_,_,_,_,_,_,_,_,_,_,_,_,_,_,_,_,_,_,_,_)=>by kernel_rfl) Ai;have h0:Lv cx (Aio (K5) k):=lv H (l1 H Ec (l1 H Aai (An (cR H h1 Tryz.func143 rfl (n:=1) ((Bc Ai hlpupdate_0))) Ae))) Aa (w1 H Ge Ab);exact⟨h0,Ai⟩) λ(_,_,_,_,_,_,_,_,_,_,_,_,_,_,_,_,_,_,_,_,_,_)=>by kernel_rfl
def Zq:Amv->Option K5:=λx=>M4 ((x.1.length+3)) x
theorem Ax9:FM 146 Nm Mi (Zq):=FnLn.fin (ι:=Nat) (sg:=Nm) (so:=Mi) 0 (F:=λk=>M4 k) (λk=>Aqx k) λx _ _ hx=>⟨(x.1.length+3),hx⟩
def Jo:Sig:=⟨2,[],[(0,.ptr 0 0),(1,.ptr 1 0)],[(0,.cells [.sl .tok false,.int .i64,.bool,.int .i64]),(1,.cells [.int .i64,.str,.str,.sl .col true,.sl .str false,.sl .expr true,.sl .exprs true,.sl .set true,.bool,.int .i64,.int .i64,.int .i64,.str,.str,.sl .expr false,.sl .str true,.sl .bool true,.int .i64])],2,2,0,[],[]⟩
def J2:Sig:=⟨0,[],[],[(0,.cells [.sl .tok false,.int .i64,.bool,.int .i64]),(1,.cells [.int .i64,.str,.str,.sl .col true,.sl .str false,.sl .expr true,.sl .exprs true,.sl .set true,.bool,.int .i64,.int .i64,.int .i64,.str,.str,.sl .expr false,.sl .str true,.sl .bool true,.int .i64])],2,2,0,[],[]⟩
abbrev Aeq:=List Tok×Int×Bool×Int×Int×Str×Str×List Col×List Str×List Xpr×List (List Xpr)×List SetE×Bool×Int×Int×Int×Str×Str×List Xpr×List Str×List Bool×Int
abbrev Jc:=List Tok×Int×Bool×Int×Int×Str×Str×List Col×List Str×List Xpr×List (List Xpr)×List SetE×Bool×Int×Int×Int×Str×Str×List Xpr×List Str×List Bool×Int
def Tv:Sig:=⟨19,[],[(0,.ptr 0 0),(1,.fn 212 [.ptr 3 0,.ptr 2 0])],[(0,.cells [.sl .tok false,.int .i64,.bool,.int .i64]),(1,.cells [.int .i64,.str,.str,.sl .col true,.sl .str false,.sl .expr true,.sl .exprs true,.sl .set true,.bool,.int .i64,.int .i64,.int .i64,.str,.str,.sl .expr false,.sl .str true,.sl .bool true,.int .i64]),(2,.fx [.ptr 0 0]),(3,.fx [.ptr 1 0])],80,80,400,[],[]⟩
abbrev Mn:=List Tok×Int×Bool×Int×Int×Str×Str×List Col×List Str×List Xpr×List (List Xpr)×List SetE×Bool×Int×Int×Int×Str×Str×List Xpr×List Str×List Bool×Int
def Vv{R:Type}(rec:Mn->Option R)(kx:Ex->Mn->Option R)(v:Mn):Option R:=match v with
 |(w,w1,w2,w3,w4,w5,w6,w7,w8,w9,c,d,e,f,g,h,i,j,k,b,a,l) =>
 cond (!w2) (
  (A6 ([44],w,w1,w2,w3)).bind λ(a2,y,z,a0,a1) =>
  cond (a2) (
   (Bn (y,z,a0,a1)).bind λ(m,q,r,n,s) =>
   chk (decide (b.length+1<=Av)) (
    cond (!n) (
    (A6 ([68,69,83,67],q,r,n,s)).bind λ(o,t,u,p,x) =>
     cond (!p) (
     cond (!o) (
      (A6 ([65,83,67],t,u,p,x)).bind λ(_,a3,a4,a5,a6) =>
      chk (decide (a.length+1<=Av)) (
       rec (a3,a4,a5,a6,w4,w5,w6,w7,w8,w9,c,d,e,f,g,h,i,j,k,(b++[m]),(a++[o]),l))) (
      chk (decide (a.length+1<=Av)) (
      rec (t,u,p,x,w4,w5,w6,w7,w8,w9,c,d,e,f,g,h,i,j,k,(b++[m]),(a++[o]),l)))) (
     chk (decide (a.length+1<=Av)) (
      rec (t,u,p,x,w4,w5,w6,w7,w8,w9,c,d,e,f,g,h,i,j,k,(b++[m]),(a++[o]),l)))) (
    cond (!n) (
     (A6 ([65,83,67],q,r,n,s)).bind λ(_,a7,a8,a9,aa) =>
     chk (decide (a.length+1<=Av)) (
      rec (a7,a8,a9,aa,w4,w5,w6,w7,w8,w9,c,d,e,f,g,h,i,j,k,(b++[m]),(a++[false]),l))) (
     chk (decide (a.length+1<=Av)) (
     rec (q,r,n,s,w4,w5,w6,w7,w8,w9,c,d,e,f,g,h,i,j,k,(b++[m]),(a++[false]),l)))))) (
   kx (.exit 0) (y,z,a0,a1,w4,w5,w6,w7,w8,w9,c,d,e,f,g,h,i,j,k,b,a,l))) (
  kx (.exit 0) (w,w1,w2,w3,w4,w5,w6,w7,w8,w9,c,d,e,f,g,h,i,j,k,b,a,l))
def Nv(R:Type)(_k:Nat):Px R:=pxO [(139,Am C4 C5 A6)] [] [] [(142,C1 Eg Ea Bn)]
noncomputable def T4(R:Type)(k:Nat):Px R:=pxO [(139,Am C4 C5 A6),(212,Aw 120 600 (Nv R k) Tryz.f212)] [] [(1,Ao k Tv (Vv))] []
noncomputable def Aaw(R:Type)(k:Nat):Px R:=pxO [(139,Am C4 C5 A6),(141,Am De C9 A7),(147,Am Lh L5 Ir),(205,Am Ha G6 Eh),(149,Am Fu F1 Dq),(143,Aw 80 400 (T4 R k) Tryz.f143)] [] [] [(145,C1 Lw L8 Ma),(142,C1 Eg Ea Bn),(206,C1 Jh Je C3)]
def Kj(k:Nat)(x:Aeq):Option (Jc):=match x with
 |(l,n,b,p,_,_,so,sc,ss,sl,sr,st,sh,wk,vk,vn,vs,wn,wl,sd,se,_) =>
 let j3:=λ(q:List Tok) (q1:Int) (q2:Bool) (q3:Int) (q4:List Xpr) =>
  (A7 ([[70,82,79,77]],q,q1,q2,q3)).bind λ(bd,be,bf,bg) =>
  (Bn (bd,be,bf,bg)).bind λ(bh,bi,bj,bk,bl) =>
   (Ir (bi,bj,bk,bl,8,bh,so,sc,ss,q4,sr,st,sh,wk,vk,vn,vs,wn,wl,sd,se,(-1))).bind λ(au,av,a4,aw,a5,a6,a7,a8,a9,aa,ab,ac,ad,ae,af,ag,ah,ai,aj,d,a,ak) =>
   let j2:=λ(ax:List Tok) (ay:Int) (al:Bool) (az:Int) (f:Int) (g:Str) (h:Str) (i:List Col) (j:List Str) (m:List Xpr) (o:List (List Xpr)) (r:List SetE) (s:Bool) (t:Int) (u:Int) (v:Int) (w:Str) (y:Str) (z:List Xpr) (a0:List Str) (a1:List Bool) (b0:Int) =>
    cond (!al) (
    (A6 ([76,73,77,73,84],ax,ay,al,az)).bind λ(bm,b1,b2,b3,b4) =>
     cond (bm) (
     (Eh (b1,b2,b3,b4)).bind λ(bn,b5,b6,b7,b8) =>
      cond (!decide (bn.kind=3)) (
      (Dq (b5,b6,b7,b8)).bind λ(bo,bp,bq,br) =>
       (C3 (bo,bp,bq,br)).bind λ(bs,bt,bu,bv,bw) =>
       some (bt,bu,bv,bw,f,g,h,i,j,m,o,r,s,t,u,v,w,y,z,a0,a1,bs.n)) (
      (C3 (b5,b6,b7,b8)).bind λ(bx,bz,c0,c1,c2) =>some (bz,c0,c1,c2,f,g,h,i,j,m,o,r,s,t,u,v,w,y,z,a0,a1,bx.n))) (
     some (b1,b2,b3,b4,f,g,h,i,j,m,o,r,s,t,u,v,w,y,z,a0,a1,b0))) (
    some (ax,ay,al,az,f,g,h,i,j,m,o,r,s,t,u,v,w,y,z,a0,a1,b0))
   cond (!a4) (
    (A6 ([79,82,68,69,82],au,av,a4,aw)).bind λ(c3,b9,ba,bb,bc) =>
    cond (c3) (
     (A7 ([[66,89]],b9,ba,bb,bc)).bind λ(c4,c5,c6,c7) =>
     (Bn (c4,c5,c6,c7)).bind λ(c8,am,an,c,ao) =>
      let j1:=λ(c9:List Tok) (ca:Int) (cb:Bool) (cc:Int) (cd:List Bool) =>
      Aq (λrec=>Vv rec (λe vz=>match vz with|(ce,cf,cg,ch,ci,cj,ck,cl,cm,cn,co,cp,cq,cr,cs,ct,cu,cv,cw,cx,cy,cz)=>match e with
       |.exit 0 =>
       j2 ce cf cg ch ci cj ck cl cm cn co cp cq cr cs ct cu cv cw cx cy cz
       |_=>none)) k (c9,ca,cb,cc,a5,a6,a7,a8,a9,aa,ab,ac,ad,ae,af,ag,ah,ai,aj,(d++[c8]),cd,ak)
      chk (decide (d.length+1<=Av)) (
      cond (!c) (
       (A6 ([68,69,83,67],am,an,c,ao)).bind λ(a2,ap,aq,a3,ar) =>
       cond (!a3) (
        cond (!a2) (
        (A6 ([65,83,67],ap,aq,a3,ar)).bind λ(_,d0,d1,d2,d3) =>
         chk (decide (a.length+1<=Av)) (
         j1 d0 d1 d2 d3 (a++[a2]))) (
        chk (decide (a.length+1<=Av)) (
         j1 ap aq a3 ar (a++[a2])))) (
        chk (decide (a.length+1<=Av)) (
        j1 ap aq a3 ar (a++[a2])))) (
       cond (!c) (
       (A6 ([65,83,67],am,an,c,ao)).bind λ(_,d4,d5,d6,d7) =>
        chk (decide (a.length+1<=Av)) (
        j1 d4 d5 d6 d7 (a++[false]))) (
       chk (decide (a.length+1<=Av)) (
        j1 am an c ao (a++[false])))))) (
     j2 b9 ba bb bc a5 a6 a7 a8 a9 aa ab ac ad ae af ag ah ai aj d a ak)) (
    j2 au av a4 aw a5 a6 a7 a8 a9 aa ab ac ad ae af ag ah ai aj d a ak)
 (A6 ([42],l,n,b,p)).bind λ(x,x1,x2,x3,x4) =>
  cond (!x) (
  (Ma (x1,x2,x3,x4)).bind λ(x5,x6,x7,x8,x9) =>j3 x6 x7 x8 x9 x5) (
  j3 x1 x2 x3 x4 sl)
theorem Anz(k:Nat):FM 148 Jo J2 (Kj k):=fRL (px:=Aaw _ k) (n:=0) Tryz.func148 rfl (λcx H=>by have h2:Lv cx (Nv (Jc) k):=lv H (l1 H Dt Ae) Aa (w1 H Ge Ab);have h1:Lv cx (T4 (Jc) k):=lv H (l1 H Dt (An (cR H h2 Tryz.func212 rfl (n:=0) (Ai)) Ae)) Aa Ab;have hlpselects_0:=lO H h1 (b:=lp Tryz.f143 0) (k:=k) (n:=0) (s:=Tv) (step:=Vv) (λ_ _ _ (_,_,_,_,_,_,_,_,_,_,_,_,_,_,_,_,_,_,_,_,_,_)=>by kernel_rfl) Ai;have h0:Lv cx (Aaw (Jc) k):=lv H (l1 H Dt (l1 H Ec (l1 H Aai (l1 H K9 (l1 H Ih (An (cR H h1 Tryz.func143 rfl (n:=1) ((Bc Ai hlpselects_0))) Ae)))))) Aa (w1 H Aj2 (w1 H Ge (w1 H N3 Ab)));exact⟨h0,Ai⟩) λ(_,_,_,_,_,_,_,_,_,_,_,_,_,_,_,_,_,_,_,_,_,_)=>by kernel_rfl
def Uo:Aeq->Option Jc:=λx=>Kj ((x.1.length+3)) x
theorem Aub:FM 148 Jo J2 (Uo):=FnLn.fin (ι:=Nat) (sg:=Jo) (so:=J2) 0 (F:=λk=>Kj k) (λk=>Anz k) λx _ _ hx=>⟨(x.1.length+3),hx⟩
def Wu:Sig:=⟨1,[],[(0,.ptr 0 0)],[(0,.cells [.sl .tok false,.int .i64,.bool,.int .i64])],1,1,0,[],[]⟩
def Vz:Sig:=⟨1,[(0,.sv .stmt)],[],[(0,.cells [.sl .tok false,.int .i64,.bool,.int .i64])],1,1,0,[],[]⟩
abbrev Az1:=List Tok×Int×Bool×Int
abbrev Xc:=Stm×List Tok×Int×Bool×Int
def Aft:Sig:=⟨19,[],[(0,.ptr 0 0),(1,.fn 144 [.ptr 1 0,.ptr 3 0])],[(0,.cells [.sl .tok false,.int .i64,.bool,.int .i64]),(1,.fx [.ptr 0 0]),(2,.one (.sv .stmt)),(3,.cells [.int .i64,.str,.str,.sl .col true,.sl .str true,.sl .expr true,.sl .exprs true,.sl .set true,.bool,.int .i64,.int .i64,.int .i64,.str,.str,.sl .expr true,.sl .str true,.sl .bool true,.int .i64])],80,80,400,[],[]⟩
abbrev Aad:=List Tok×Int×Bool×Int×Stm×Int×Str×Str×List Col×List Str×List Xpr×List (List Xpr)×List SetE×Bool×Int×Int×Int×Str×Str×List Xpr×List Str×List Bool×Int
def Ap8{R:Type}(rec:Aad->Option R)(kx:Ex->Aad->Option R)(v:Aad):Option R:=match v with
 |(w,w1,w2,w3,w4,w5,w6,w7,w8,w9,b,a,c,d,e,f,g,h,i,j,k,l,m) =>
 cond (!w2) (
  (A6 ([44],w,w1,w2,w3)).bind λ(r,n,o,p,q) =>
  cond (r) (
   (A7 ([[40]],n,o,p,q)).bind λ(s,t,u,x) =>
   (Ma (s,t,u,x)).bind λ(y,z,a0,a1,a2) =>
    chk (decide (a.length+1<=Av)) (
    (A7 ([[41]],z,a0,a1,a2)).bind λ(a3,a4,a5,a6) =>rec (a3,a4,a5,a6,w4,w5,w6,w7,w8,w9,b,(a++[y]),c,d,e,f,g,h,i,j,k,l,m))) (
   kx (.exit 0) (n,o,p,q,w4,w5,w6,w7,w8,w9,b,a,c,d,e,f,g,h,i,j,k,l,m))) (
  kx (.exit 0) (w,w1,w2,w3,w4,w5,w6,w7,w8,w9,b,a,c,d,e,f,g,h,i,j,k,l,m))
def Ya(R:Type)(_k:Nat):Px R:=pxO [(141,Am De C9 A7)] [] [] [(145,C1 Lw L8 Ma)]
noncomputable def Ahm(R:Type)(k:Nat):Px R:=pxO [(139,Am C4 C5 A6),(144,Aw 120 600 (Ya R k) Tryz.f144)] [] [(1,Ao k Aft (Ap8))] []
noncomputable def At8(R:Type)(k:Nat):Px R:=pxO [(139,Am C4 C5 A6),(140,Am Vm Uu Y4),(141,Am De C9 A7),(142,Am Eg Ea Bn),(146,Am Nm Mi Zq),(147,Am Lh L5 Ir),(148,Am Jo J2 Uo),(149,Am Fu F1 Dq),(143,Aw 80 400 (Ahm R k) Tryz.f143)] [] [] []
def U2(k:Nat)(x:Az1):Option (Xc):=match x with
 |(l,n,b,p) =>
 (A6 ([67,82,69,65,84,69],l,n,b,p)).bind λ(x,x1,x2,x3,x4) =>
  cond (x) (
  (Y4 (x1,x2,x3,x4,0,[],[],[],[],[],[],[],false,0,0,0,[],[],[],[],[],0)).bind λ(x5,x6,x7,x8,x9,i,j,m,o,q,r,s,t,u,w,y,z,a0,a1,a2,a3,a4) =>
   cond (!x7) (
   (A6 ([59],x5,x6,x7,x8)).bind λ(_,db,dc,dd,de) =>some ((Stm.mk x9 i j m o q r s t (Xpr.mk u ⟨w,y,z⟩ a0 a1) a2 a3 a4),db,dc,dd,de)) (
   some ((Stm.mk x9 i j m o q r s t (Xpr.mk u ⟨w,y,z⟩ a0 a1) a2 a3 a4),x5,x6,x7,x8))) (
  (A6 ([68,82,79,80],x1,x2,x3,x4)).bind λ(df,a5,a6,a7,a8) =>
   cond (df) (
   (A6 ([84,65,66,76,69],a5,a6,a7,a8)).bind λ(dg,a9,aa,ab,ac) =>
    cond (!dg) (
    (A7 ([[73,78,68,69,88]],a9,aa,ab,ac)).bind λ(dh,di,dj,dk) =>
     (Bn (dh,di,dj,dk)).bind λ(ad,ae,af,a,ag) =>
     cond (!a) (
      (A6 ([59],ae,af,a,ag)).bind λ(_,dl,dm,dn,dp) =>
      some ((Stm.mk 4 ad [] [] [] [] [] [] false (Xpr.mk 0 ⟨0,0,[]⟩ [] []) [] [] 0),dl,dm,dn,dp)) (
      some ((Stm.mk 4 ad [] [] [] [] [] [] false (Xpr.mk 0 ⟨0,0,[]⟩ [] []) [] [] 0),ae,af,a,ag))) (
    (Bn (a9,aa,ab,ac)).bind λ(ah,ai,aj,c,ak) =>
     cond (!c) (
     (A6 ([59],ai,aj,c,ak)).bind λ(_,dq,dr,ds,dt) =>some ((Stm.mk 2 ah [] [] [] [] [] [] false (Xpr.mk 0 ⟨0,0,[]⟩ [] []) [] [] 0),dq,dr,ds,dt)) (
     some ((Stm.mk 2 ah [] [] [] [] [] [] false (Xpr.mk 0 ⟨0,0,[]⟩ [] []) [] [] 0),ai,aj,c,ak)))) (
   (A6 ([73,78,83,69,82,84],a5,a6,a7,a8)).bind λ(du,al,am,an,ao) =>
    cond (du) (
    (A7 ([[73,78,84,79]],al,am,an,ao)).bind λ(dv,dw,dx,dy) =>
     (Bn (dv,dw,dx,dy)).bind λ(dz,e0,e1,e2,e3) =>
     (A7 ([[86,65,76,85,69,83]],e0,e1,e2,e3)).bind λ(e4,e5,e6,e7) =>
      (A7 ([[40]],e4,e5,e6,e7)).bind λ(e8,e9,ea,eb) =>
      (Ma (e8,e9,ea,eb)).bind λ(ec,ed,ee,ef,eg) =>
       (A7 ([[41]],ed,ee,ef,eg)).bind λ(eh,ei,ej,ek) =>
       Aq (λrec=>Ap8 rec (λe vz=>match vz with|(v,v1,v2,v3,_,v5,v6,v7,v8,v9,ap,aq,ar,au,av,aw,ax,ay,az,b0,b1,b2,b3)=>match e with
        |.exit 0 =>
        cond (!v2) (
         (A6 ([59],v,v1,v2,v3)).bind λ(_,el,em,en,eo) =>
         some ((Stm.mk v5 v6 v7 v8 v9 ap aq ar au (Xpr.mk av ⟨aw,ax,ay⟩ az b0) b1 b2 b3),el,em,en,eo)) (
         some ((Stm.mk v5 v6 v7 v8 v9 ap aq ar au (Xpr.mk av ⟨aw,ax,ay⟩ az b0) b1 b2 b3),v,v1,v2,v3))
        |_=>none)) k (eh,ei,ej,ek,(Stm.mk 0 [] [] [] [] [] [] [] false (Xpr.mk 0 ⟨0,0,[]⟩ [] []) [] [] 0),5,dz,[],[],[],[],[ec],[],false,0,0,0,[],[],[],[],[],0)) (
    (A6 ([85,80,68,65,84,69],al,am,an,ao)).bind λ(ep,b4,b5,b6,b7) =>
     cond (ep) (
     (Zq (b4,b5,b6,b7,0,[],[],[],[],[],[],[],false,0,0,0,[],[],[],[],[],0)).bind λ(b8,b9,d,ba,bb,bc,bd,be,bf,bg,bh,bi,bj,bk,bl,bm,bn,bo,bp,bq,br,bs) =>
      cond (!d) (
      (A6 ([59],b8,b9,d,ba)).bind λ(_,er,es,et,eu) =>some ((Stm.mk bb bc bd be bf bg bh bi bj (Xpr.mk bk ⟨bl,bm,bn⟩ bo bp) bq br bs),er,es,et,eu)) (
      some ((Stm.mk bb bc bd be bf bg bh bi bj (Xpr.mk bk ⟨bl,bm,bn⟩ bo bp) bq br bs),b8,b9,d,ba))) (
     (A6 ([68,69,76,69,84,69],b4,b5,b6,b7)).bind λ(ev,bt,bu,bv,bw) =>
      cond (ev) (
      (A7 ([[70,82,79,77]],bt,bu,bv,bw)).bind λ(ew,ex,ey,ez) =>
       (Bn (ew,ex,ey,ez)).bind λ(f0,f1,f2,f3,f4) =>
       (Ir (f1,f2,f3,f4,7,f0,[],[],[],[],[],[],false,0,0,0,[],[],[],[],[],0)).bind λ(bx,bz,f,c0,c1,c2,c3,c4,c5,c6,c7,c8,c9,ca,cb,cc,cd,ce,cf,cg,ch,ci) =>
        cond (!f) (
        (A6 ([59],bx,bz,f,c0)).bind λ(_,f5,f6,f7,f8) =>some ((Stm.mk c1 c2 c3 c4 c5 c6 c7 c8 c9 (Xpr.mk ca ⟨cb,cc,cd⟩ ce cf) cg ch ci),f5,f6,f7,f8)) (
        some ((Stm.mk c1 c2 c3 c4 c5 c6 c7 c8 c9 (Xpr.mk ca ⟨cb,cc,cd⟩ ce cf) cg ch ci),bx,bz,f,c0))) (
      (A6 ([83,69,76,69,67,84],bt,bu,bv,bw)).bind λ(f9,cj,ck,cl,cm) =>
       cond (f9) (
       (Uo (cj,ck,cl,cm,0,[],[],[],[],[],[],[],false,0,0,0,[],[],[],[],[],0)).bind λ(cn,co,g,cp,cq,cr,cs,ct,cu,cv,cw,cx,cy,cz,d0,d1,d2,d3,d4,d5,d6,d7) =>
        cond (!g) (
        (A6 ([59],cn,co,g,cp)).bind λ(_,fa,fb,fc,fd) =>some ((Stm.mk cq cr cs ct cu cv cw cx cy (Xpr.mk cz ⟨d0,d1,d2⟩ d3 d4) d5 d6 d7),fa,fb,fc,fd)) (
        some ((Stm.mk cq cr cs ct cu cv cw cx cy (Xpr.mk cz ⟨d0,d1,d2⟩ d3 d4) d5 d6 d7),cn,co,g,cp))) (
       (Dq (cj,ck,cl,cm)).bind λ(d8,d9,h,da) =>
        cond (!h) (
        (A6 ([59],d8,d9,h,da)).bind λ(_,fe,ff,fg,fh) =>some ((Stm.mk 0 [] [] [] [] [] [] [] false (Xpr.mk 0 ⟨0,0,[]⟩ [] []) [] [] 0),fe,ff,fg,fh)) (
        some ((Stm.mk 0 [] [] [] [] [] [] [] false (Xpr.mk 0 ⟨0,0,[]⟩ [] []) [] [] 0),d8,d9,h,da))))))))
theorem A3d(k:Nat):FM 81 Wu Vz (U2 k):=fRL (px:=At8 _ k) (n:=0) Tryz.func81 rfl (λcx H=>by have h2:Lv cx (Ya (Xc) k):=lv H (l1 H Ec Ae) Aa (w1 H Aj2 Ab);have h1:Lv cx (Ahm (Xc) k):=lv H (l1 H Dt (An (cR H h2 Tryz.func144 rfl (n:=0) (Ai)) Ae)) Aa Ab;have hlpstmt_0:=lO H h1 (b:=lp Tryz.f143 0) (k:=k) (n:=0) (s:=Aft) (step:=Ap8) (λ_ _ _ (_,_,_,_,_,_,_,_,_,_,_,_,_,_,_,_,_,_,_,_,_,_,_)=>by kernel_rfl) Ai;have h0:Lv cx (At8 (Xc) k):=lv H (l1 H Dt (l1 H Awg (l1 H Ec (l1 H Ge (l1 H Ax9 (l1 H Aai (l1 H Aub (l1 H Ih (An (cR H h1 Tryz.func143 rfl (n:=1) ((Bc Ai hlpstmt_0))) Ae))))))))) Aa Ab;exact⟨h0,Ai⟩) λ(_,_,_,_)=>by kernel_rfl
def An6:Az1->Option Xc:=λx=>U2 ((x.1.length+3)) x
theorem A97:FM 81 Wu Vz (An6):=FnLn.fin (ι:=Nat) (sg:=Wu) (so:=Vz) 0 (F:=λk=>U2 k) (λk=>A3d k) λx _ _ hx=>⟨(x.1.length+3),hx⟩
def Af3:Sig:=⟨1,[],[(0,.ptr 0 0)],[(0,.cells [.sl .tok false,.int .i64,.bool,.int .i64])],1,1,0,[],[]⟩
def Af0:Sig:=⟨1,[(0,.bool)],[],[(0,.cells [.sl .tok false,.int .i64,.bool,.int .i64])],1,1,0,[],[]⟩
abbrev A2j:=List Tok×Int×Bool×Int
abbrev A1o:=Bool×List Tok×Int×Bool×Int
def A7a(R:Type):Px R:=pxO [(149,Am Fu F1 Dq)] [] [] []
def Agu(x:A2j):Option (A1o):=match x with
 |(l,n,b,p) =>
 cond (decide (0<(l.length:Int))) (
  (Dq (l,n,b,p)).bind λ(x,x1,x2,x3) =>
  some (!x2,x,x1,x2,x3)) (
  some (!b,l,n,b,p))
theorem A6u:FM 82 Af3 Af0 (Agu):=fRL (px:=A7a _) (n:=0) Tryz.func82 rfl (λ_ H=>⟨lv H (l1 H Ih Ae) Aa Ab,Ai⟩) λ(_,_,_,_)=>by kernel_rfl
def An9:A2j->Option A1o:=λx=>Agu x
theorem A7l:FM 82 Af3 Af0 (An9):=A6u
open Go.RowKit
def Aqf:List Nat:=[110,112]
abbrev Bi8:TypeId:=110
theorem Az9:(Tryz.prog.info? Bi8).map (·.size)=some 2:=by kernel_rfl
theorem Bfw(T:TypeId)(h:T∈Aqf):liesAt Tryz.prog Tryz.prog.depth T (2 / Tryz.prog.cellsOf T) 0 Bi8 1=true:=by simp only[Aqf,List.mem_cons,List.not_mem_nil,or_false] at h;rcases h with rfl|rfl<;>kernel_rfl
set_option maxRecDepth 100000 in
theorem Bfh(b:Nat)(w:World)(h0:w.cell? ⟨b,0,none⟩=some (.pointer (some ⟨b,0,none⟩))) :
  Calls Tryz.prog 198 #[.pointer (some ⟨b,0,none⟩)] w λe w'=>e = .returned (.tuple #[])/\w' = w:=by
 obtain⟨j,hj,_⟩:=Option.map_eq_some_iff.1 Az9;have mixed:=follows;have t1:=Tryz.underlying108;have t2:=Tryz.underlying110;have u1:=run_underlying (P:=Tryz.prog) t1;have u2:=run_underlying (P:=Tryz.prog) t2
 go_enter Tryz.func198,Tryz.ntmps198
 go_wp2
 rw[Lib.run_neq_ptr_same w _ t1 hj]
 go_wp2
 go_end0
 exact⟨rfl,rfl⟩
set_option maxRecDepth 100000 in
theorem Bb9(b:Nat)(T:TypeId)(hT:T∈Aqf)(w:World)(h0:w.cell? ⟨b,0,none⟩=some (.pointer none))(hsh:w.shape? b=some (T,2))(hfz:w.frozen? ⟨b,0,none⟩=false) :
  Calls Tryz.prog 198 #[.pointer (some ⟨b,0,none⟩)] w λe w'=>e = .returned (.tuple #[])/\w' = w.setCell ⟨b,0,none⟩ (.pointer (some ⟨b,0,none⟩)):=by
 obtain⟨j,hj,hjs⟩:=Option.map_eq_some_iff.1 Az9;have mixed:=follows;have t1:=Tryz.underlying108;have t2:=Tryz.underlying110;have t3:=Tryz.underlying278;have u1:=run_underlying (P:=Tryz.prog) t1;have u2:=run_underlying (P:=Tryz.prog) t2;have u3:=run_underlying (P:=Tryz.prog) t3
 go_enter Tryz.func198,Tryz.ntmps198
 go_wp2
 rw[Lib.run_to_unsafe w ⟨b,0,none⟩ t1 t3 hj (by rw[hjs];decide) hsh (Nat.zero_lt_succ 1)];simp only[Result.andThen];rw[Oper.upon_value]
 go_wp2
 rw[run_callFunc_extern Tryz.func239 (by kernel_rfl) (by kernel_rfl) (by kernel_rfl) (e:=Extern.AbiNoEscape.same) (by kernel_rfl)];rw[Lib.run_noEscape];simp only[Result.andThen];rw[Oper.upon_value]
 go_wp2
 rw[Lib.run_from_unsafe w ⟨b,0,none⟩ t3 t1 hj hsh (Bfw T hT)];simp only[Result.andThen];rw[Oper.upon_value]
 go_wp2
 go_end0
 exact⟨rfl,rfl⟩
theorem A5z:Sx.Enters Tryz.prog 198:=Sx.enters_of Tryz.func198 rfl (by kernel_rfl)
theorem Bi6:∀T,T∈Aqf->∀(b:Nat) (w:World) (a v:Value),w.heap[b]? = some (.cells #[a,v] T (0,0))->(a = .pointer none\/a = .pointer (some ⟨b,0,none⟩))->Calls Tryz.prog 198 #[.pointer (some ⟨b,0,none⟩)] w λe w'=>e = .returned (.tuple #[])/\(w' = w\/w' = w.setCell ⟨b,0,none⟩ (.pointer (some ⟨b,0,none⟩))):=by
 intro T hT b w a v hh ha;have c0:w.cell? ⟨b,0,none⟩=some a:=by simp[World.cell?,hh]
 rcases ha with rfl|rfl
 ·refine(Bb9 b T hT w c0 (by simp[World.shape?,hh]) (by simp[World.frozen?,hh])).mono ?_;rintro e w' ⟨rfl,rfl⟩;exact⟨rfl,.inr rfl⟩
 ·refine(Bfh b w c0).mono ?_;rintro e w' ⟨rfl,rfl⟩;exact⟨rfl,.inl rfl⟩
theorem Avy(w:World)(g n k:Nat):Chg (λb i=>b=g/\k<=i) w (w.freeze ⟨g,0,none⟩ n):=by
 unfold World.freeze;split
 ·exact Chg.refl _ _
 ·have hne:∀(q:Nat),q≠g->∀F:Obj->Obj,(w.heap.modify g F)[q]? = w.heap[q]? :=λq hq F=>by rw[Array.getElem?_modify,if_neg (Ne.symm hq)]
  refine⟨rfl,rfl,rfl,by simp,λq _ hq2=>hne q (λe=>hq2 k ⟨e,Zn1 _⟩) _,λb i v hv _ =>?_,λb cs t f hb =>?_⟩
  ·by_cases hbg:b=g
   ·subst hbg;unfold World.cell? at hv ⊢;simp only[Array.getElem?_modify,if_true] at hv ⊢;cases hh:w.heap[b]? with
    |none=>rw[hh] at hv;cases hv
    |some o =>rw[hh] at hv;cases o with|cells c e f=>obtain⟨lo,hi⟩:=f;exact hv|_=>cases hv
   ·rw[World.cell?_of_block (a:=⟨b,i,none⟩) (hne b hbg _)];exact hv
  ·by_cases hbg:b=g
   ·subst hbg;obtain⟨lo,hi⟩:=f;exact⟨cs,_,by simp only[Array.getElem?_modify,if_true,hb];rfl,rfl⟩
   ·exact⟨cs,f,by rw[hne b hbg];exact hb,rfl⟩
theorem cellsByte:Tryz.prog.cellsOf 5=1:=by kernel_rfl
set_option maxHeartbeats 2000000 in
set_option maxRecDepth 100000 in
theorem At4(b g cap n:Nat)(w:World)(s:ByteArray)(hcap:cap≠0)(hc:w.cell? ⟨b,1,none⟩=some (.slice (some ⟨g,0,none⟩) n cap))(hUS:(Builtin.unsafeString_ #[203,3] 9 #[.pointer (some ⟨g,0,none⟩),.int .i64 n]).run Tryz.prog w.drew = .ok (.string s) (w.drew.freeze ⟨g,0,none⟩ n)) :
  Calls Tryz.prog 64 #[.pointer (some ⟨b,0,none⟩)] w λe w'=>e = .returned (.string s)/\w' = w.drew.freeze ⟨g,0,none⟩ n:=by
 have c1:w.drew.cell? ⟨b,1,none⟩=some (.slice (some ⟨g,0,none⟩) n cap):=hc;have hSD:(Builtin.unsafeSliceData_ #[28] 203 #[.slice (some ⟨g,0,none⟩) n cap]).run Tryz.prog w.drew = .ok (.pointer (some ⟨g,0,none⟩)) w.drew:=Lib.run_unsafeSliceData_row _ _ _ _ _ _ hcap;clear hcap;have mixed:=follows;have t1:=Tryz.underlying108;have t2:=Tryz.underlying110;have t3:=Tryz.underlying28;have t4:=Tryz.underlying203;have t5:=Tryz.underlying3;have t6:=Tryz.underlying9;have u1:=run_underlying (P:=Tryz.prog) t1;have u2:=run_underlying (P:=Tryz.prog) t2;have u3:=run_underlying (P:=Tryz.prog) t3;have u4:=run_underlying (P:=Tryz.prog) t4;have u5:=run_underlying (P:=Tryz.prog) t5;have u6:=run_underlying (P:=Tryz.prog) t6
 go_enter Tryz.func64,Tryz.ntmps64
 go_wp2
 go_region_o
 all_goals (go_wp2;go_ret;exact⟨rfl,rfl⟩)
theorem Apf(W:World)(q:Option Addr):(Builtin.unsafeString_ #[203,3] 9 #[.pointer q,.int .i64 0]).run Tryz.prog W = .ok (.string .empty) W:=Lib.run_unsafeString_none W _ _ _ q
set_option maxHeartbeats 2000000 in
set_option maxRecDepth 100000 in
theorem Bee(b:Nat)(w:World)(hc:w.cell? ⟨b,1,none⟩=some (.slice none 0 0)) :
  Calls Tryz.prog 64 #[.pointer (some ⟨b,0,none⟩)] w λe w'=>e = .returned (.string ⟨#[]⟩)/\w' = w.drew:=by
 have hUS:=Apf;have c1:w.drew.cell? ⟨b,1,none⟩=some (.slice none 0 0):=hc;have hSD:(Builtin.unsafeSliceData_ #[28] 203 #[.slice none 0 0]).run Tryz.prog w.drew = .ok (.pointer none) w.drew:=rfl;have mixed:=follows;have t1:=Tryz.underlying108;have t2:=Tryz.underlying110;have t3:=Tryz.underlying28;have t4:=Tryz.underlying203;have t5:=Tryz.underlying3;have t6:=Tryz.underlying9;have u1:=run_underlying (P:=Tryz.prog) t1;have u2:=run_underlying (P:=Tryz.prog) t2;have u3:=run_underlying (P:=Tryz.prog) t3;have u4:=run_underlying (P:=Tryz.prog) t4;have u5:=run_underlying (P:=Tryz.prog) t5;have u6:=run_underlying (P:=Tryz.prog) t6
 go_enter Tryz.func64,Tryz.ntmps64
 go_wp2
 go_region_o
 all_goals (go_wp2;go_ret;exact⟨rfl,rfl⟩)
set_option maxHeartbeats 2000000 in
set_option maxRecDepth 100000 in
theorem Aw1(b g:Nat)(w:World)(cur:Array Value)(hlt:b<w.heap.size)(hc:w.cell? ⟨b,1,none⟩=some (.slice (some ⟨g,0,none⟩) 0 0))(hg:w.heap[g]? = some (.cells cur 5 (0,0))) :
  Calls Tryz.prog 64 #[.pointer (some ⟨b,0,none⟩)] w λe w'=>e = .returned (.string ⟨#[]⟩)/\Chg Dh w w':=by
 have hUS:=Apf;have c1:w.drew.cell? ⟨b,1,none⟩=some (.slice (some ⟨g,0,none⟩) 0 0):=hc;have t4:=Tryz.underlying203;have hSD:(Builtin.unsafeSliceData_ #[28] 203 #[.slice (some ⟨g,0,none⟩) 0 0]).run Tryz.prog w.drew = .ok (.pointer (some ⟨w.drew.heap.size,0,none⟩)) (w.drew.alloc (.view ⟨g,0,none⟩ 5)) :=Lib.run_unsafeSliceData_zero w.drew _ _ 5 t4 ⟨g,0,none⟩ 0 (5,cur.size) (by have hg':w.drew.heap[g]? = some (.cells cur 5 (0,0)):=hg;simp[World.shape?,hg'])
 have c2:(w.drew.alloc (.view ⟨g,0,none⟩ 5)).cell? ⟨b,1,none⟩=some (.slice (some ⟨g,0,none⟩) 0 0):=by rw[World.cell?_of_block (a:=⟨b,1,none⟩) (Below.heap_alloc w.drew _ _ hlt)];exact c1
 have c3:(w.alloc (.view ⟨g,0,none⟩ 5)).drew.cell? ⟨b,1,none⟩=some (.slice (some ⟨g,0,none⟩) 0 0):=c2;have c0:w.cell? ⟨b,1,none⟩=some (.slice (some ⟨g,0,none⟩) 0 0):=c1;have mixed:=follows;have t1:=Tryz.underlying108;have t2:=Tryz.underlying110;have t3:=Tryz.underlying28;have t5:=Tryz.underlying3;have t6:=Tryz.underlying9;have u1:=run_underlying (P:=Tryz.prog) t1;have u2:=run_underlying (P:=Tryz.prog) t2;have u3:=run_underlying (P:=Tryz.prog) t3;have u4:=run_underlying (P:=Tryz.prog) t4;have u5:=run_underlying (P:=Tryz.prog) t5;have u6:=run_underlying (P:=Tryz.prog) t6
 go_enter Tryz.func64,Tryz.ntmps64
 go_wp2
 go_region_o
 all_goals (go_wp2;go_ret;exact⟨rfl,(Chg.drew Dh w).trans (Chg.alloc Dh w.drew _)⟩)
theorem Be8{cx:Cx}{m:Mp}{a:Act}{rs:List Act}{st:St}{w w':World}(hr:Rel cx m a rs (fs st) w)(hch:Chg (C0 m (fs st)) w w'){d:D}{v:Value}(hd:Rep (vx cx m (fs { st with n:=1,env:=[(0,d)],bl:=[],tk:=[] }) w') d v):Rel cx m ⟨#[v],[]⟩ rs (fs { st with n:=1,env:=[(0,d)],bl:=[],tk:=[] }) w':=by
 have hnf:∀b i,¬C0 m (fs { st with n:=1,env:=[(0,d)],bl:=[],tk:=[] }) b i:=by
  rintro b i (⟨q,hq,_⟩|⟨t,o,h1,_,_⟩)
  ·exact hq rfl
  ·simp[fs] at h1
 have nx:Nx (vx cx m (fs st) w) (vx cx m (fs { st with n:=1,env:=[(0,d)],bl:=[],tk:=[] }) w'):=by
  refine⟨hch.mono λb i hi =>.inr hi,?_,rfl,λ_ _=>rfl,Zn1 _,Zn1 _,λt _ ha =>?_⟩
  ·rintro b i (h|h)
   ·exact .inl (.inl h)
   ·exact absurd h (hnf b i)
  ·simp[vx,fs] at ha
 have h1:Rel cx m a rs { fs st with bl:=λ_=>none,al:=λ_=>False } w':=by
  refine hr.step (s':={ fs st with bl:=λ_=>none,al:=λ_=>False }) rfl rfl rfl rfl rfl hch ?_ (λb k hk=>by cases hk) (λt ht=>ht.elim) (λb b' h=>absurd rfl h) (λt t' g o o' h=>h.elim) (λb t g o h=>absurd rfl h) (λb i hi =>?_)
  ·refine⟨hch.mono λb i hi =>.inr hi,?_,rfl,λ_ _=>rfl,Zn1 _,Zn1 _,λt _ ha=>ha.elim⟩;rintro b i (h|⟨q,hq,_⟩|⟨t,o,h1,_,_⟩)
   ·exact .inl (.inl h)
   ·exact absurd rfl hq
   ·exact h1.elim
  ·rcases hi with ⟨q,hq,_⟩|⟨t,o,h1,_,_⟩
   ·exact absurd rfl hq
   ·exact h1.elim
 have hal:(fs { st with n:=1,env:=[(0,d)],bl:=[],tk:=[] }).al=λ_=>False:=by funext t;simp[fs]
 have e:fs { st with n:=1,env:=[(0,d)],bl:=[],tk:=[] }={ (fs { st with n:=1,env:=[(0,d)],bl:=[],tk:=[] }) with al:=λ_=>False }:=by rw[<-hal]
 rw[e] at hd ⊢;refine⟨h1.chg,⟨rfl,rfl,λk d' hk =>?_⟩,h1.frs,h1.lb,h1.lt,h1.blks,h1.als,h1.inj,h1.injt,h1.injbt,h1.own,h1.away,h1.glb⟩;have hk:get [(0,d)] k=some d':=hk;rw[Cc] at hk;by_cases h0:k=0
 ·subst h0;simp only[if_true,Za1] at hk;subst hk;exact⟨v,rfl,hd⟩
 ·rw[if_neg h0] at hk;cases hk
abbrev wT:TypeId:=112
def bstr_si:Sig:=⟨1,[],[(0,.ptr 0 0)],[(0,.bld wT)],1,1,0,[],[]⟩
def Aqc:Sig:=⟨1,[(0,.str)],[],[],1,1,0,[],[]⟩
abbrev Bgy:=List UInt8
abbrev Bh6:=Str
def Hn:Bgy->Option Bh6:=λx=>some x
theorem Bed:FnLn Tryz.prog elT glT 64 bstr_si Aqc Hn:=by
 refine⟨Sx.enters_of Tryz.func64 rfl (by kernel_rfl),λ(l:List UInt8) r hx _ cx m vs af w h1 h2 h3 hr =>?_⟩;obtain rfl:l=r:=Option.some.inj hx;obtain⟨_,hb⟩:=hr.blks 0 (.bld wT (.sl .byte l (.id 0))) rfl;obtain⟨_,a,v,hh,ha,hrep⟩:=hb;obtain⟨u,hu,hup⟩:=hr.env.get 0 (.ptr 0 0) rfl;have hsz:vs.toArray.size=1:=hr.env.size;have hvs:vs=[u]:=by match vs,hsz,hu with|[y],_,hu=>simpa using hu
 subst hvs;simp only[Rep] at hup hrep;obtain⟨_,rfl⟩:=hup;obtain⟨hrf,_,htk⟩:=hrep;have htk:=htk (show(fs (Dn bstr_si [Em bstr_si] l)).al 0 by simp[fs,Dn,bstr_si,Sig.sgs,Ajf,Bg,Bs.sgs,Ai9]);have hh:w.heap[m.bl 0]? = some (.cells #[a,v] wT (0,0)):=hh;have hblt:m.bl 0<w.heap.size:=(Zg2.1 hh).1;have hlen:l.length<=maxLen:=hrf.here.len;have c1:w.cell? ⟨m.bl 0,1,none⟩=some v:=by simp[World.cell?,hh]
 have done:(Calls Tryz.prog 64 #[.pointer (some ⟨m.bl 0,0,none⟩)] w λe w'=>e = .returned (.string ⟨l.toArray⟩)/\Chg (C0 m (fs (Dn bstr_si [Em bstr_si] l))) w w')->Calls Tryz.prog 64 ([.pointer (some ⟨m.bl 0,0,none⟩)]:List Value).toArray w λen w'=>∃us st' m',en = .returned (Sx.resv us)/\(∀k,(bstr_si.bl.map (·.1)).contains k=true->m'.bl k=m.bl k)/\Iw Aqc st' = some l/\Rel cx m' ⟨us.toArray,[]⟩ [af] (fs st') w':=λhc=>by refine hc.mono ?_;rintro e w' ⟨rfl,hch⟩;exact⟨[.string ⟨l.toArray⟩],{ Dn bstr_si [Em bstr_si] l with n:=1,env:=[(0,.str l)],bl:=[],tk:=[] },m,rfl,λ_ _=>rfl,rfl,Be8 hr hch (by simp only[Rep];exact⟨trivial,hlen⟩)⟩
 refine done ?_;rcases htk with ⟨rfl,_,rfl⟩|⟨g,cap,cur,rfl,ht,hg,hcs,hle,hcm⟩
 ·refine(Bee (m.bl 0) w c1).mono ?_;rintro e w' ⟨rfl,rfl⟩;exact⟨rfl,Chg.drew _ w⟩
 ·have ht:m.tk 0=some (g,l.length*1):=ht;have hel:(vx cx m (fs (Dn bstr_si [Em bstr_si] l)) w).el .byte=5:=by show cx.el .byte=_;rw[h2];rfl
  rw[hel] at hg;have hg:w.heap[g]? = some (.cells cur 5 (0,0)):=hg;have hcs:cur.size=cap*1:=hcs;by_cases hl0:l=[]
  ·subst hl0;by_cases hc0:cap=0
   ·subst hc0;refine(Aw1 (m.bl 0) g w cur hblt c1 hg).mono ?_;rintro e w' ⟨rfl,hch⟩;exact⟨rfl,hch.mono λ_ _ h=>h.elim⟩
   ·refine(At4 (m.bl 0) g cap 0 w .empty hc0 c1 (Apf _ _)).mono ?_;rintro e w' ⟨rfl,rfl⟩;exact⟨rfl,Chg.drew _ w⟩
  ·have hcells:∀(j:Nat) x,l[j]? = some x->w.cell? ⟨g,j,none⟩=some (.int .u8 x.toNat):=λj x hj=>by
    obtain⟨a',cap',e1,h|⟨b0,o0,e2,_,h4⟩⟩:=hrf.here.slice
    ·exact absurd h hl0
    ·simp only[Value.slice.injEq] at e1;rw[e2] at e1;simp only[Za1,Addr.mk.injEq] at e1;obtain⟨⟨rfl,rfl,_⟩,_⟩:=e1;obtain⟨u,hu,hf⟩:=h4 j x hj 0 _ rfl;have e3 : 0+j*csz .byte+0=j:=by simp[csz]
     rw[e3] at hu;cases hf;exact hu
   have hn0:l.length≠0:=λe=>hl0 (List.eq_nil_of_length_eq_zero e);have hUS:=Lib.run_unsafeString_row w.drew 203 3 9 5 Tryz.underlying203 cellsByte g cur.size (by have hg':w.drew.heap[g]? = some (.cells cur 5 (0,0)):=hg;simp[World.shape?,hg']) l hl0 (by omega) (by unfold maxLen at hcm;omega) (λj x hj=>by
    have e:(⟨g,0,none⟩:Addr).add j=⟨g,j,none⟩:=by
     unfold Addr.add;by_cases hj0:j=0
     ·subst hj0;simp
     ·simp[hj0]
    rw[e];exact hcells j x hj)
   refine(At4 (m.bl 0) g cap l.length w ⟨l.toArray⟩ (by omega) c1 hUS).mono ?_;rintro e w' ⟨rfl,rfl⟩;refine⟨rfl,(Chg.drew _ w).trans ((Avy w.drew g l.length (l.length*1)).mono λb i hi =>?_)⟩;obtain⟨rfl,hi⟩:=hi;exact .inr ⟨0,l.length*1,by simp[fs,Dn,bstr_si,Sig.sgs,Ajf,Bg,Bs.sgs,Ai9],ht,hi⟩
def Aar:Sig:=⟨2,[(1,.str)],[(0,.ptr 0 0)],[(0,.bld 112)],1,1,0,[],[]⟩
def Aak:Sig:=⟨2,[],[],[(0,.bld 112)],1,1,0,[],[]⟩
abbrev Aqj:=Str×List UInt8
abbrev Auu:=List UInt8
def A6l(R:Type):Px R:=pxO [(198,Axk Aqf)] [] [] []
def Abe(x:Aqj):Option (Auu):=match x with
 |(s,out) =>
 chk (decide (out.length+s.length<=Av)) (
  some (out++s))
theorem Ayx:FM 126 Aar Aak (Abe):=fRL (px:=A6l _) (n:=0) Tryz.func126 rfl (λ_ H=>⟨lv H (An (Bi2 (by rw[H.p];exact A5z) (by rw[H.p];exact Bi6)) Ae) Aa Ab,Ai⟩) λ(_,_)=>by kernel_rfl
def Anm(s out:Str):Option Str:=if out.length+s.length<=Av then some (out++s) else none
def Oc:Aqj->Option Auu:=λx=>Anm x.1 x.2
theorem A53:FM 126 Aar Aak Oc :=.fin0 Ayx λ(s,out) r hb hx=>by
 simp only[Oc,Anm] at hx;split at hx
 ·rename_i h;simp only[Abe];rw[Ze1 h];exact hx
 ·cases hx
end Go.Proofs.YtbkinkalnmbpjaaGreatDoor
namespace Go.Proofs
open Go.Shelf
def Tryz.laysRJ_ren:Go.Shelf.Ren:=⟨λ|156=>127|165=>199|166=>126|169=>64|240=>198|241=>240|276=>239|277=>265|n=>n,λ|0=>0|3=>3|4=>4|5=>5|9=>9|20=>20|31=>23|37=>28|70=>108|72=>110|75=>197|76=>198|80=>119|127=>203|164=>278|n=>n,λn=>n⟩
theorem Tryz.laysRJ:Go.Proofs.Lays.n156 Tryz.prog Tryz.laysRJ_ren:={
 mixed:=by kernel_rfl
 f156:=Tryz.func127.trans (congrArg some (by kernel_rfl))
 f165:=Tryz.func199.trans (congrArg some (by kernel_rfl))
 f166:=Tryz.func126.trans (congrArg some (by kernel_rfl))
 f169:=Tryz.func64.trans (congrArg some (by kernel_rfl))
 f240:=Tryz.func198.trans (congrArg some (by kernel_rfl))
 f241:=Tryz.func240.trans (congrArg some (by kernel_rfl))
 f276:=Tryz.func239.trans (congrArg some (by kernel_rfl))
 f277:=Tryz.func265.trans (congrArg some (by kernel_rfl))
 t0:=Tryz.underlying0
 a0:=Tryz.isAgg0
 z0:=Tryz.sizeOf0
 v0:=Tryz.zeroValue0
 t3:=Tryz.underlying3
 a3:=Tryz.isAgg3
 z3:=Tryz.sizeOf3
 v3:=Tryz.zeroValue3
 t4:=Tryz.underlying4
 a4:=Tryz.isAgg4
 z4:=Tryz.sizeOf4
 v4:=Tryz.zeroValue4
 t9:=Tryz.underlying9
 a9:=Tryz.isAgg9
 z9:=Tryz.sizeOf9
 v9:=Tryz.zeroValue9
 t20:=Tryz.underlying20
 a20:=Tryz.isAgg20
 z20:=Tryz.sizeOf20
 v20:=Tryz.zeroValue20
 t31:=Tryz.underlying23
 a31:=Tryz.isAgg23
 z31:=Tryz.sizeOf23
 v31:=Tryz.zeroValue23
 t37:=Tryz.underlying28
 a37:=Tryz.isAgg28
 z37:=Tryz.sizeOf28
 v37:=Tryz.zeroValue28
 t70:=Tryz.underlying108
 a70:=Tryz.isAgg108
 z70:=Tryz.sizeOf108
 v70:=Tryz.zeroValue108
 t72:=Tryz.underlying110
 a72:=Tryz.isAgg110
 z72:=Tryz.sizeOf110
 v72:=Tryz.zeroValue110
 t75:=Tryz.underlying197
 a75:=Tryz.isAgg197
 z75:=Tryz.sizeOf197
 v75:=Tryz.zeroValue197
 t76:=Tryz.underlying198
 a76:=Tryz.isAgg198
 z76:=Tryz.sizeOf198
 v76:=Tryz.zeroValue198
 t127:=Tryz.underlying203
 a127:=Tryz.isAgg203
 z127:=Tryz.sizeOf203
 v127:=Tryz.zeroValue203
 t164:=Tryz.underlying278
 a164:=Tryz.isAgg278
 z164:=Tryz.sizeOf278
 v164:=Tryz.zeroValue278 }
theorem Tryz.extraRJ:Builder.Extra Tryz.prog Tryz.laysRJ_ren:={
 sizeBuilder:=by kernel_rfl
 liesBuilder:=by kernel_rfl
 t5:=Tryz.underlying5
 a5:=Tryz.isAgg5
 z5:=Tryz.sizeOf5
 v5:=Tryz.zeroValue5
 infoByte:=by kernel_rfl
 cellsByte:=by kernel_rfl
 sizeByte:=by kernel_rfl
 neB5:=by decide }
end Go.Proofs
namespace Go.Proofs.YtbkinkalnmbpjaaGreatDoor
open Go.Ax Go.RowKit
def A1c(l:List Str)(sep:Str):Option Str:=if l.length<=1000000/\(Lib.join l sep).length<=1000000000 then some (Lib.join l sep) else none
def Aqb:FT [.sl .str false,.str] [.str]:=λx=>A1c x.1 x.2
theorem Bcp:FO 127 [.sl .str false,.str] [.str] Aqb:=by
 refine⟨Sx.enters_of Tryz.func127 rfl (by kernel_rfl),λx r hx w M vs hM hgl hr =>?_⟩;obtain⟨l,sep⟩:=x;simp only[Aqb,A1c] at hx;split at hx
 case isFalse=>cases hx
 rename_i hc;obtain⟨h1,h2⟩:=hc;obtain rfl:=Option.some.inj hx;simp only[B3,Ce,Reps,Rep] at hr;obtain⟨u,us,rfl,⟨hrf,_⟩,u2,us2,rfl,⟨rfl,_⟩,rfl⟩:=hr;have key:Calls Tryz.prog 127 #[u,.string ⟨sep.toArray⟩] w λe w'=>e = .returned (.string ⟨(Lib.join l sep).toArray⟩)/\Below w.heap.size w w':=by
  obtain⟨a,cap,rfl,h⟩:=hrf.here.slice;rcases h with rfl|⟨b,o,rfl,⟨hle,hcm⟩,hat⟩
  ·have c:=Any.strings_Join_none Tryz.laysRJ Tryz.extraRJ a cap ⟨sep.toArray⟩ w;refine Calls.mono (show Calls Tryz.prog 127 _ w _ from c) ?_;rintro e w' ⟨rfl,rfl⟩;exact⟨rfl,Below.refl _ _⟩
  ·by_cases hl:l=[]
   ·subst hl;have c:=Any.strings_Join_none Tryz.laysRJ Tryz.extraRJ (some ⟨b,o,none⟩) cap ⟨sep.toArray⟩ w;refine Calls.mono (show Calls Tryz.prog 127 _ w _ from c) ?_;rintro e w' ⟨rfl,rfl⟩;exact⟨rfl,Below.refl _ _⟩
   ·have hcell:∀(j:Nat) x,l[j]? = some x->w.cell? ⟨b,o+j,none⟩=some (.string ⟨x.toArray⟩):=λj x hj=>by
     obtain⟨u,hu,hf⟩:=hat j x hj 0 _ rfl;have e3:o+j*csz .str+0=o+j:=by simp[csz]
     rw[e3] at hu;cases hf;exact hu
    have hb:b<w.heap.size:=by cases l with|nil=>exact absurd rfl hl|cons x l=>exact Q1 (hcell 0 x rfl)
    have em:(l.map λs=>(⟨s.toArray⟩:ByteArray)).map (·.data.toList)=l:=by rw[List.map_map];simp[Function.comp_def]
    have es:(⟨sep.toArray⟩:ByteArray).data.toList=sep:=by simp
    have c:=Any.strings_Join Tryz.laysRJ Tryz.extraRJ b o cap (l.map λs=>⟨s.toArray⟩) ⟨sep.toArray⟩ w (λj x hj=>by rw[List.getElem?_map] at hj;obtain⟨y,hy,rfl⟩:=Option.map_eq_some_iff.1 hj;exact hcell j y hy) hb (by rw[List.length_map];omega) (by rw[List.length_map];exact hle) (by rw[em,es];omega)
    rw[em,es,List.length_map] at c;exact c
 refine key.mono ?_;rintro en w' ⟨rfl,hbel⟩;refine⟨_,⟨λ_=>0,λ_=>Option.none⟩,rfl,Chg.of_below hbel,λp g o hp=>(by simp[Bg] at hp),λp q g o o2 hp=>(by simp[Bg] at hp),?_⟩;simp only[Gj,B3,Ce,Rep];exact⟨trivial,by simp only[maxLen];omega⟩
end Go.Proofs.YtbkinkalnmbpjaaGreatDoor
namespace Go.Proofs.YtbkinkalnmbpjaaGreatDoor
open Go.Ax
def app(out t:Str):Option Str:=if out.length+t.length<=100000000000 then some (out++t) else none
theorem Gb(out a b:Str):((app out a).bind λx=>app x b)=app out (a++b):=by
 simp only[app,Zh1];by_cases h1:out.length+a.length<=100000000000
 ·rw[if_pos h1,Zc1];simp only[Zh1,Zj1,Nat.add_assoc]
 ·rw[if_neg h1,if_neg (by omega)];rfl
theorem Cj{R:Type}(out a b:Str)(c:Str->Option R):((app out a).bind λx=>(app x b).bind c)=(app out (a++b)).bind c:=by rw[<-Gb,Option.bind_assoc]
theorem Gf{o:Option Str}:(o.bind λx=>some x)=o:=by cases o<;>rfl
theorem Ada{out:Str}(h:out.length<=100000000000):app out []=some out:=by simp only[app,Zi1,Nat.add_zero,List.append_nil];rw[if_pos h]
theorem Anq{out t r:Str}(h:app out t=some r):r.length<=100000000000/\r=out++t:=by
 simp only[app] at h;split at h
 ·rename_i h1;obtain rfl:=Option.some.inj h;exact⟨by rw[Zh1];exact h1,rfl⟩
 ·cases h
theorem Bek{out t r:Str}(h:app out t=some r):out.length+t.length<=100000000000:=by
 simp only[app] at h;split at h
 ·rename_i h1;exact h1
 ·cases h
def Abx{α:Type}(f : α->Str):List α->Str
 |[]=>[]
 |x::l=>[44,32]++f x++Abx f l
def Gn{α:Type}(f : α->Str):List α->Str
 |[]=>[]
 |x::l=>f x++Abx f l
theorem Ij{V R α:Type}{step:(V->Option R)->V->Option R}(l:List α)(f : α->Str)(st:Nat->Str->V)(c:Str->Option R)
  (hs:∀i (hi:i<l.length) (acc:Str) rec,step rec (st i acc)=(app acc ((if i=0 then [] else [44,32])++f l[i])).bind λx=>rec (st (i+1) x))
  (he:∀acc rec,step rec (st l.length acc)=c acc) (k:Nat) (hk:l.length<k) (out:Str) (ho:out.length<=100000000000):Aq step k (st 0 out)=(app out (Gn f l)).bind c:=by
 refine(Ed l.length st (λ_ acc=>acc.length<=100000000000) (λi acc=>(app acc (if i=0 then Gn f (l.drop i) else Abx f (l.drop i))).bind c) (λi hi acc ha rec hr =>?_) (λacc ha rec =>?_) k 0 out (Nat.zero_le _) (by omega) ho).trans (by rw[if_pos rfl,Zq1])
 ·rw[hs i hi acc rec];have hd:(if i=0 then Gn f (l.drop i) else Abx f (l.drop i))=((if i=0 then [] else [44,32])++f l[i])++Abx f (l.drop (i+1)):=by rw[Au hi];split<;>simp[Gn,Abx]
  rw[hd,<-Cj acc ((if i=0 then [] else [44,32])++f l[i]) (Abx f (l.drop (i+1))) c];cases hx:app acc ((if i=0 then [] else [44,32])++f l[i]) with|none=>rfl|some x =>rw[Zc1,Zc1,hr x (Anq hx).1,if_neg (by omega)]
 ·rw[he];have:(if l.length=0 then Gn f (l.drop l.length) else Abx f (l.drop l.length))=[]:=by rw[List.drop_length];split<;>rfl
  rw[this,Ada ha];rfl
def Bz:Sig:=⟨2,[(1,.sl .str false)],[(0,.ptr 0 0)],[(0,.bld 112)],1,1,0,[],[]⟩
def B2:Sig:=⟨0,[],[],[(0,.bld 112)],1,1,0,[],[]⟩
abbrev Aqp:=List Str×List UInt8
abbrev Ahj:=List UInt8
def Ab9:Sig:=⟨18,[(6,.sl .str false),(7,.int .i64),(8,.int .i64)],[(0,.ptr 0 0)],[(0,.bld 112)],1,1,0,[],[]⟩
abbrev Nh:=List Str×Int×Int×List UInt8
def Ll{R:Type}(rec:Nh->Option R)(kx:Ex->Nh->Option R)(v:Nh):Option R:=match v with
 |(v,v1,v2,w) =>
 cond (decide (v2<v1)) (
  chk (inb v2 v.length) (
  (Oc ((at' .str v v2),w)).bind λx =>rec (v,v1,(wr .i64 (v2+1)),x))) (
  kx (.exit 0) (v,v1,v2,w))
def Ana(R:Type)(k:Nat):Px R:=pxO [(126,Am Aar Aak Oc)] [] [(1,Ao k Ab9 (Ll))] []
def Arx(k:Nat)(x:Aqp):Option (Ahj):=match x with
 |(l,out) =>
 Aq (λrec=>Ll rec (λe vz=>match vz with|(_,_,_,v6)=>match e with
  |.exit 0 =>
  some v6
  |_=>none)) k (l,(l.length:Int),0,out)
theorem Ax8(k:Nat):FM 55 Bz B2 (Arx k):=fRL (px:=Ana _ k) (n:=1) Tryz.func55 rfl (λcx H=>by have h0:Lv cx (Ana (Ahj) k):=lv H (l1 H A53 Ae) Aa Ab;have hlwwords_0:=lO H h0 (b:=lp Tryz.f55 0) (k:=k) (n:=0) (s:=Ab9) (step:=Ll) (λ_ _ _ (_,_,_,_)=>by kernel_rfl) Ai;exact⟨h0,(Bc Ai hlwwords_0)⟩) λ(_,_)=>by kernel_rfl
def Bgu(l:List Str)(out:Str):Option Str:=app out l.flatten
def As:Aqp->Option Ahj:=λx=>Bgu x.1 x.2
theorem Aqk{R:Type}{kx:Ex->Nh->Option R}{l:List Str}{c:Str->Option R}(hn:ln l.length)(h2:∀i out,kx (.exit 0) (l,(l.length:Int),i,out)=c out)(k:Nat)(hk:l.length<k)(out:Str)(ho:out.length+l.flatten.length<=100000000000) :
  Aq (λrec=>Ll rec kx) k (l,(l.length:Int),0,out)=c (out++l.flatten):=by
 refine(Ed l.length (λi out=>(l,(l.length:Int),(i:Int),out)) (λi out=>List.length out+((l.drop i).flatten).length<=100000000000) (λi out=>c (out++(l.drop i).flatten)) (λi hi out ha rec hr =>?_) (λout _ rec =>?_) k 0 out (Nat.zero_le _) (by omega) (by rw[Zq1];exact ho)).trans (by rw[Zq1])
 ·rw[Au hi] at ha ⊢;simp only[Zz1,Zh1] at ha;have hw:Anm l[i] out=some (out++l[i]):=by simp only[Anm];rw[if_pos (by simp only[Av];omega)]
  have hr:=hr (out++l[i]) (by rw[Zh1];omega);simp only[Ll,Dw hi,Ah,A1 hi,chk,A0 (c :=.str) hi,Oc,hw,Zc1,Ay hi hn,hr,Zz1,Zj1]
 ·simp only[Ll,Dv,Al,h2];rw[Zk1 (Zn1 _)];simp
theorem Cd:FM 55 Bz B2 As :=.fin 0 Ax8 λ(l,out) r hb hx=>⟨l.length+1,by have hx:app out l.flatten=some r:=hx;have hlen:=Bek hx;rw[(Anq hx).2];exact Aqk (l:=l) (c:=some) hb.1.1 (λ_ _=>rfl) (l.length+1) (by omega) out hlen⟩
theorem ww(l:List Str)(out:Str):As (l,out)=app out l.flatten:=rfl
def sgn(k:Int):Str:=O1 signsL k
mutual
def etx:Xpr->Str
 |.mk k v n l=>if k=1 then Jf v else if k=2 then n else etxs k l
def etxs:Int->List Xpr->Str
 |_,[]=>[]
 |k,x::l=>if k=3 then [40]++[78,79,84,32]++etx x++[41] else if k=15 then [40]++[45]++etx x++[41] else if k=16 then [40]++etx x++[32,73,83,32,78,85,76,76]++[41] else [40]++etx x++([32]++(sgn k++[32]))++etx1 l++[41]
def etx1:List Xpr->Str
 |[]=>[]
 |y::_=>etx y
end
mutual
def okx:Xpr->Bool
 |.mk k _ _ l=>if k=1\/k=2 then true else okxs k l
def okxs:Int->List Xpr->Bool
 |_,[]=>false
 |k,x::l=>okx x&&(if k=3\/k=15\/k=16 then true else okx1 l)
def okx1:List Xpr->Bool
 |[]=>false
 |y::_=>okx y
end
theorem Bgw(e:Xpr):etx e=if e.kind=1 then Jf e.v else if e.kind=2 then e.name else etxs e.kind e.l:=by cases e;simp only[etx];rfl
theorem Bh8(e:Xpr):okx e=if e.kind=1\/e.kind=2 then true else okxs e.kind e.l:=by cases e;simp only[okx];rfl
def Ey:Sig:=⟨2,[(1,.sv .expr)],[(0,.ptr 0 0)],[(0,.bld 112)],1,1,0,[],[]⟩
def Ew:Sig:=⟨0,[],[],[(0,.bld 112)],1,1,0,[],[]⟩
abbrev Jp:=Xpr×List UInt8
abbrev Jr:=List UInt8
def Bb8(R:Type)(rf:Jp->Option Jr):Px R:=pxO [(128,cA Ww),(55,Am Bz B2 As),(60,Am Ey Ew rf)] [] [] []
def Ip(rf:Jp->Option Jr)(x:Jp):Option (Jr):=match x with
 |(e,out) =>
 cond (decide (e.kind=1)) (
  (As ([(Jf e.v)],out)).bind λx =>
  some x) (
  cond (decide (e.kind=2)) (
  (As ([e.name],out)).bind λx1 =>some x1) (
  (As ([[40]],out)).bind λx2 =>
   cond (decide (e.kind=3)) (
   (As ([[78,79,84,32]],x2)).bind λx3 =>
    chk (inb 0 e.l.length) (
    (rf ((at' .expr e.l 0),x3)).bind λx4 =>
     (As ([[41]],x4)).bind λa =>
     some a)) (
   cond (decide (e.kind=15)) (
    (As ([[45]],x2)).bind λx5 =>
    chk (inb 0 e.l.length) (
     (rf ((at' .expr e.l 0),x5)).bind λx6 =>
     (As ([[41]],x6)).bind λb =>some b)) (
    cond (decide (e.kind=16)) (
    chk (inb 0 e.l.length) (
     (rf ((at' .expr e.l 0),x2)).bind λx7 =>
     (As ([[32,73,83,32,78,85,76,76]],x7)).bind λx8 =>
      (As ([[41]],x8)).bind λc =>
      some c)) (
    chk (inb 0 e.l.length) (
     (rf ((at' .expr e.l 0),x2)).bind λx9 =>
     (As ([[32],(O1 signsL e.kind),[32]],x9)).bind λd =>
      chk (inb 1 e.l.length) (
      (rf ((at' .expr e.l 1),d)).bind λf =>
       (As ([[41]],f)).bind λg =>
       some g)))))))
theorem A57(rf:Jp->Option Jr)(hrf:FM 60 Ey Ew rf):FM 60 Ey Ew (Ip rf):=fRL (px:=Bb8 _ rf) (n:=0) Tryz.func60 rfl (λ_ H=>⟨lv H (c1 H Amr (l1 H Cd (l1 H hrf Ae))) Aa Ab,Ai⟩) λ(_,_)=>by kernel_rfl
def Bik(e:Xpr)(out:Str):Option Str:=cond (okx e) (app out (etx e)) none
def Ek:Jp->Option Jr:=λx=>Bik x.1 x.2
theorem Al1:∀(n:Nat) (e:Xpr) (out:Str),BdExpr e->Bb e<=n->okx e=true->Aq (V:=Jp) (R:=Jr) Ip n (e,out)=app out (etx e)
 |0,e,_,_,h,_=>by have:=D6 e;omega
 |n+1,e,out,hb,h,hok=>by
  obtain⟨hb4,hb5⟩:=Xo hb;rw[E5] at h;have hrf:∀x,x∈e.l->okx x=true->∀out:Str,Aq (V:=Jp) (R:=Jr) Ip n (x,out)=app out (etx x):=λx hx ho out=>Al1 n x out (hb5 x hx) (by have:=B1 hx;omega) ho;rw[Bu,Bgw];rw[Bh8] at hok;simp only[Ip,ww];by_cases h1:e.kind=1
  ·rw[Ze1 h1,if_pos h1,Ah,Gf];simp
  by_cases h2:e.kind=2
  ·rw[Zd1 h1,Ze1 h2,if_neg h1,if_pos h2,Al,Ah,Gf];simp
  rw[Zd1 h1,Zd1 h2,if_neg h1,if_neg h2,Al,Al];rw[if_neg (by omega)] at hok;cases hl:e.l with
  |nil=>rw[hl] at hok;cases hok
  |cons x l =>
   rw[hl] at hok hrf;simp only[okxs,Zb1] at hok;have hx:=hrf x Zr1 hok.1;have e0:at' .expr (x::l) 0=x:=rfl;have i0:inb 0 (x::l).length=true:=A1 (i:=0) (by simp);simp only[e0,i0,hx,chk,Ah,etxs];by_cases h3:e.kind=3
   ·rw[Ze1 h3,if_pos h3];simp only[Ah,Cj,Gf,Gb,Zz1,List.flatten_nil,List.append_nil,Zj1]
   by_cases h15:e.kind=15
   ·rw[Zd1 h3,Ze1 h15,if_neg h3,if_pos h15];simp only[Ah,Al,Cj,Gf,Gb,Zz1,List.flatten_nil,List.append_nil,Zj1]
   by_cases h16:e.kind=16
   ·rw[Zd1 h3,Zd1 h15,Ze1 h16,if_neg h3,if_neg h15,if_pos h16];simp only[Ah,Al,Cj,Gf,Gb,Zz1,List.flatten_nil,List.append_nil,Zj1]
   rw[Zd1 h3,Zd1 h15,Zd1 h16,if_neg h3,if_neg h15,if_neg h16];rw[if_neg (by omega)] at hok;cases l with|nil=>exact absurd hok.2 (by simp[okx1])|cons y l =>have hy:=hrf y (by simp) hok.2;have e1:at' .expr (x::y::l) 1=y:=rfl;have i1:inb 1 (x::y::l).length=true:=A1 (i:=1) (by simp);simp only[e1,i1,hy,Ah,Al,etx1];simp only[Gf,Gb,Zz1,List.flatten_nil,List.append_nil,Zj1,sgn]
theorem P3:FM 60 Ey Ew Ek:=by refine .fin (ι:=Nat) (sg:=Ey) (so:=Ew) 0 (F:=λn=>Aq (V:=Jp) (R:=Jr) Ip n) (λn=>FnLn.rec' (Sx.enters_of Tryz.func60 rfl rfl) (λrf hrf=>A57 rf hrf) n) λ(e,out) r hb hx=>⟨Bb e,?_⟩;have hx:cond (okx e) (app out (etx e)) none=some r:=hx;cases hok:okx e with|false=>rw[hok] at hx;cases hx|true =>rw[hok] at hx;exact(Al1 (Bb e) e out hb.1 (Zn1 _) hok).trans hx
theorem we{e:Xpr}(h:okx e=true)(out:Str):Ek (e,out)=app out (etx e):=by show cond (okx e) _ _=_;rw[h];rfl
theorem Cm{R:Type}{out t:Str}{f g:Str->Option R}(h:∀x:Str,x.length<=100000000000->f x=g x):(app out t).bind f=(app out t).bind g:=by cases hx:app out t with|none=>rfl|some x=>exact h x (Anq hx).1
theorem Ls{R:Type}(i:Nat)(acc t:Str)(c:Str->Option R):cond (decide ((0:Int)<(i:Int))) ((app acc [44,32]).bind λx=>(app x t).bind c) ((app acc t).bind c)=(app acc ((if i=0 then [] else [44,32])++t)).bind c:=by
 by_cases h:i=0
 ·rw[Zd1 (by omega),if_pos h];rfl
 ·rw[Ze1 (by omega),if_neg h,Ah,Cj]
theorem fl1(a:Str):([a]:List Str).flatten=a:=by simp
theorem fl2(a b:Str):([a,b]:List Str).flatten=a++b:=by simp
theorem fl3(a b c:Str):([a,b,c]:List Str).flatten=a++(b++c):=by simp
theorem fl5(a b c d e:Str):([a,b,c,d,e]:List Str).flatten=a++(b++(c++(d++e))):=by simp
theorem Bbi{V R α:Type}{step:(V->Option R)->V->Option R}(l:List α)(f : α->Str)(st:Nat->Str->V)(c:Str->Option R)
  (hs:∀i (hi:i<l.length) (acc:Str) rec,step rec (st i acc)=(app acc (f l[i])).bind λx=>rec (st (i+1) x))
  (he:∀acc rec,step rec (st l.length acc)=c acc) (k:Nat) (hk:l.length<k) (out:Str) (ho:out.length<=100000000000):Aq step k (st 0 out)=(app out (l.map f).flatten).bind c:=by
 refine(Ed l.length st (λ_ acc=>acc.length<=100000000000) (λi acc=>(app acc ((l.drop i).map f).flatten).bind c) (λi hi acc ha rec hr =>?_) (λacc ha rec =>?_) k 0 out (Nat.zero_le _) (by omega) ho).trans (by rw[Zq1])
 ·rw[hs i hi acc rec,Au hi,Zw1,Zz1,<-Cj];exact Cm λx hx=>hr x hx
 ·rw[he,List.drop_length,List.map_nil,List.flatten_nil,Ada ha];rfl
theorem Bin{out r:Str}(h:app out []=some r):some out=some r:=by have:=(Anq h).2;rw[List.append_nil] at this;rw[this]
def Aoq(l:List Str):Bool:=decide (l.length<=1000000)&&decide ((Lib.join l [44,32]).length<=1000000000)
def nmT(l:List Str):Str:=[40]++(Lib.join l [44,32]++[41])
def Qx:Sig:=⟨2,[(1,.sl .str false)],[(0,.ptr 0 0)],[(0,.bld 112)],1,1,0,[],[]⟩
def Qt:Sig:=⟨0,[],[],[(0,.bld 112)],1,1,0,[],[]⟩
abbrev Arc:=List Str×List UInt8
abbrev Arw:=List UInt8
def A2s(R:Type):Px R:=pxO [(127,cA Aqb),(55,Am Bz B2 As)] [] [] []
def Qe(x:Arc):Option (Arw):=match x with
 |(l,out) =>
 (A1c l [44,32]).bind λx =>
  (As ([[40],x,[41]],out)).bind λx1 =>
  some x1
theorem Axa:FM 56 Qx Qt (Qe):=fRL (px:=A2s _) (n:=0) Tryz.func56 rfl (λ_ H=>⟨lv H (c1 H Bcp (l1 H Cd Ae)) Aa Ab,Ai⟩) λ(_,_)=>by kernel_rfl
def Bh9(l:List Str)(out:Str):Option Str:=cond (Aoq l) (app out (nmT l)) none
def Lq:Arc->Option Arw:=λx=>Bh9 x.1 x.2
theorem Baw(l:List Str)(out:Str)(h:Aoq l=true):Qe (l,out)=app out (nmT l):=by simp only[Aoq,Zb1,Zg1] at h;have hj:A1c l [44,32]=some (Lib.join l [44,32]):=if_pos h;simp only[Qe,hj,ww,Zc1,Gf,fl3];rfl
theorem Al6:FM 56 Qx Qt Lq :=.fin0 Axa λ(l,out) r hb hx=>by have hx:cond (Aoq l) (app out (nmT l)) none=some r:=hx;cases ho:Aoq l with|false=>rw[ho] at hx;cases hx|true =>rw[ho] at hx;exact(Baw l out ho).trans hx
theorem wn{l:List Str}(h:Aoq l=true)(out:Str):Lq (l,out)=app out (nmT l):=by show cond (Aoq l) _ _=_;rw[h];rfl
def Aq4(c:Col):Str:=c.name++([32]++at' .str Ao5 c.kind)++cond c.notNull [32,78,79,84,32,78,85,76,76] []++cond c.unique [32,85,78,73,81,85,69] []++cond (decide (c.ref=[])) [] ([32,82,69,70,69,82,69,78,67,69,83,32]++c.ref)
def Aop:Sig:=⟨2,[(1,.sv .col)],[(0,.ptr 0 0)],[(0,.bld 112)],1,1,0,[],[]⟩
def Ap6:Sig:=⟨0,[],[],[(0,.bld 112)],1,1,0,[],[]⟩
abbrev A9n:=Col×List UInt8
abbrev Bcz:=List UInt8
def Bft(R:Type):Px R:=pxO [(55,Am Bz B2 As)] [] [] []
def Zd(x:A9n):Option (Bcz):=match x with
 |(c,out) =>
 chk (inb c.kind 6) (
  (As ([c.name,[32],(at' .str Ao5 c.kind)],out)).bind λx =>
  let j1:=λ(q:List UInt8) =>
   let j:=λ(q1:List UInt8) =>
   cond (!decide (c.ref=[])) (
    (As ([[32,82,69,70,69,82,69,78,67,69,83,32],c.ref],q1)).bind λx3 =>
    some x3) (
    some q1)
   cond (c.unique) (
   (As ([[32,85,78,73,81,85,69]],q)).bind λx2 =>j x2) (
   j q)
  cond (c.notNull) (
   (As ([[32,78,79,84,32,78,85,76,76]],x)).bind λx1 =>
   j1 x1) (
   j1 x))
theorem Ba9:FM 124 Aop Ap6 (Zd):=fRL (px:=Bft _) (n:=0) Tryz.func124 rfl (λ_ H=>⟨lv H (l1 H Cd Ae) Aa Ab,Ai⟩) λ(_,_)=>by kernel_rfl
def Bjn(c:Col)(out:Str):Option Str:=cond (inb c.kind 6) (app out (Aq4 c)) none
def Aow:A9n->Option Bcz:=λx=>Bjn x.1 x.2
theorem Bht(c:Col)(out:Str)(h:inb c.kind 6=true):Zd (c,out)=app out (Aq4 c):=by simp only[Zd,h,chk,Ah,ww,fl1,fl2,fl3,Aq4];cases c.notNull<;>cases c.unique<;>cases decide (c.ref=[])<;>simp only[Ah,Al,Zt1,Zs1,Gf,Gb,List.append_nil,Zj1]
theorem Bec:FM 124 Aop Ap6 Aow :=.fin0 Ba9 λ(c,out) r hb hx=>by have hx:cond (inb c.kind 6) (app out (Aq4 c)) none=some r:=hx;cases ho:inb c.kind 6 with|false=>rw[ho] at hx;cases hx|true =>rw[ho] at hx;exact(Bht c out ho).trans hx
theorem wc{c:Col}(h:inb c.kind 6=true)(out:Str):Aow (c,out)=app out (Aq4 c):=by show cond (inb c.kind 6) _ _=_;rw[h];rfl
def whT(s:Stm):Str:=cond s.has ([32,87,72,69,82,69,32]++etx s.whr) []
def okW(s:Stm):Bool := !s.has||okx s.whr
def Qk:Sig:=⟨2,[(1,.sv .stmt)],[(0,.ptr 0 0)],[(0,.bld 112)],1,1,0,[],[]⟩
def Rf:Sig:=⟨0,[],[],[(0,.bld 112)],1,1,0,[],[]⟩
abbrev Art:=Stm×List UInt8
abbrev Ar8:=List UInt8
def A5w(R:Type):Px R:=pxO [(55,Am Bz B2 As),(60,Am Ey Ew Ek)] [] [] []
def Pd(x:Art):Option (Ar8):=match x with
 |(s,out) =>
 cond (s.has) (
  (As ([[32,87,72,69,82,69,32]],out)).bind λx =>
  (Ek ((H1 s.whr),x)).bind λx1 =>some x1) (
  some out)
theorem Aw4:FM 62 Qk Rf (Pd):=fRL (px:=A5w _) (n:=0) Tryz.func62 rfl (λ_ H=>⟨lv H (l1 H Cd (l1 H P3 Ae)) Aa Ab,Ai⟩) λ(_,_)=>by kernel_rfl
def Bhy(s:Stm)(out:Str):Option Str:=cond (okW s) (app out (whT s)) none
def Gg:Art->Option Ar8:=λx=>Bhy x.1 x.2
theorem A7o(s:Stm)(out r:Str)(h:okW s=true)(hr:app out (whT s)=some r):Pd (s,out)=some r:=by simp only[okW] at h;simp only[whT] at hr;simp only[Pd,G2,ww,fl1];cases hs:s.has with|false =>rw[hs] at hr;exact Bin hr|true =>rw[hs] at h hr;simp only[we (show okx s.whr=true from h),Ah,Gf,Gb];exact hr
theorem Akw:FM 62 Qk Rf Gg :=.fin0 Aw4 λ(s,out) r hb hx=>by have hx:cond (okW s) (app out (whT s)) none=some r:=hx;cases ho:okW s with|false=>rw[ho] at hx;cases hx|true =>rw[ho] at hx;exact A7o s out r ho hx
theorem wh{s:Stm}(h:okW s=true)(out:Str):Gg (s,out)=app out (whT s):=by show cond (okW s) _ _=_;rw[h];rfl
def Beh(e:Xpr):Str:=[44,32,67,72,69,67,75,32]++cond (decide (parts e.kind=0)) ([40]++(etx e++[41])) (etx e)
def Aal(s:Stm):Str:=[67,82,69,65,84,69,32,84,65,66,76,69,32]++(s.name++[32,40])++Gn Aq4 s.cols++[44,32,80,82,73,77,65,82,89,32,75,69,89,32]++nmT s.names++(s.l.map Beh).flatten++[41]
def okT(s:Stm):Bool:=s.cols.all (λc=>inb c.kind 6)&&Aoq s.names&&s.l.all okx
def J7(s:Stm):Nat:=s.cols.length+s.l.length+s.order.length+s.rows.length+s.sets.length+(s.rows.map List.length).sum+1
def Zb:Sig:=⟨2,[(1,.sv .stmt)],[(0,.ptr 0 0)],[(0,.bld 112)],1,1,0,[],[]⟩
def Z0:Sig:=⟨0,[],[],[(0,.bld 112)],1,1,0,[],[]⟩
abbrev Auk:=Stm×List UInt8
abbrev P2:=List UInt8
def Abh:Sig:=⟨54,[(25,.sl .expr false),(26,.int .i64),(27,.int .i64)],[(2,.ptr 1 0)],[(0,.bld 112),(1,.fx [.ptr 0 0])],2,1,0,[],[]⟩
abbrev Vl:=List Xpr×Int×Int×List UInt8
def Qd{R:Type}(rec:Vl->Option R)(kx:Ex->Vl->Option R)(v:Vl):Option R:=match v with
 |(v6,v7,v8,w2) =>
 cond (decide (v8<v7)) (
  chk (inb v8 v6.length) (
  (As ([[44,32,67,72,69,67,75,32]],w2)).bind λx5 =>
   cond (decide ((parts ((at' .expr v6 v8).kind))=0)) (
   (As ([[40]],x5)).bind λx6 =>
    (Ek ((at' .expr v6 v8),x6)).bind λx7 =>
    (As ([[41]],x7)).bind λx8 =>rec (v6,v7,(wr .i64 (v8+1)),x8)) (
   (Ek ((at' .expr v6 v8),x5)).bind λx9 =>rec (v6,v7,(wr .i64 (v8+1)),x9)))) (
  kx (.exit 0) (v6,v7,v8,w2))
def Aau:Sig:=⟨20,[(7,.int .i64),(8,.int .i64)],[(0,.ptr 0 0),(2,.fn 123 [.ptr 1 0,.ptr 2 0])],[(0,.bld 112),(1,.fx [.ptr 0 0]),(2,.one (.sv .stmt))],80,80,400,[],[]⟩
abbrev Vs:=Int×Int×List UInt8×Stm
def Pw{R:Type}(rec:Vs->Option R)(kx:Ex->Vs->Option R)(v:Vs):Option R:=match v with
 |(v,v1,w,w1) =>
 cond (decide (v1<v)) (
  let j:=λ(q:List UInt8) =>
  chk (inb v1 w1.cols.length) (
   (Aow ((at' .col w1.cols v1),q)).bind λx2 =>
   rec (v,(wr .i64 (v1+1)),x2,w1))
  cond (decide (0<v1)) (
  (As ([[44,32]],w)).bind λx1 =>j x1) (
  j w)) (
  kx (.exit 0) (v,v1,w,w1))
def S4(R:Type)(_k:Nat):Px R:=pxO [(124,Am Aop Ap6 Aow)] [] [] []
noncomputable def Acw(R:Type)(k:Nat):Px R:=pxO [(55,Am Bz B2 As),(123,Aw 120 600 (S4 R k) Tryz.f123)] [] [(1,Ao k Aau (Pw))] []
noncomputable def Aks(R:Type)(k:Nat):Px R:=pxO [(55,Am Bz B2 As),(56,Am Qx Qt Lq),(125,cA Aom),(60,Am Ey Ew Ek),(57,Aw 80 400 (Acw R k) Tryz.f57)] [] [(6,Ao k Abh (Qd))] []
def Pt(k:Nat)(x:Auk):Option (P2):=match x with
 |(s,out) =>
 (As ([[67,82,69,65,84,69,32,84,65,66,76,69,32],s.name,[32,40]],out)).bind λx =>
  Aq (λrec=>Pw rec (λe vz=>match vz with|(_,_,v4,v5)=>match e with
  |.exit 0 =>
   (As ([[44,32,80,82,73,77,65,82,89,32,75,69,89,32]],v4)).bind λx3 =>
   (Lq (v5.names,x3)).bind λx4 =>
    Aq (λrec=>Qd rec (λe vz=>match vz with|(_,_,_,a)=>match e with
    |.exit 0 =>
     (As ([[41]],a)).bind λb =>
     some b
    |_=>none)) k (v5.l,(v5.l.length:Int),0,x4)
  |_=>none)) k ((s.cols.length:Int),0,x,s)
theorem Avl(k:Nat):FM 54 Zb Z0 (Pt k):=fRL (px:=Aks _ k) (n:=1) Tryz.func54 rfl (λcx H=>by have h2:Lv cx (S4 (P2) k):=lv H (l1 H Bec Ae) Aa Ab;have h1:Lv cx (Acw (P2) k):=lv H (l1 H Cd (An (cR H h2 Tryz.func123 rfl (n:=0) (Ai)) Ae)) Aa Ab;have hlwtable_0:=lO H h1 (b:=lp Tryz.f57 0) (k:=k) (n:=0) (s:=Aau) (step:=Pw) (λ_ _ _ (_,_,_,_)=>by kernel_rfl) Ai;have h0:Lv cx (Aks (P2) k):=lv H (l1 H Cd (l1 H Al6 (c1 H At5 (l1 H P3 (An (cR H h1 Tryz.func57 rfl (n:=1) ((Bc Ai hlwtable_0))) Ae))))) Aa Ab;have hlwtable_1:=lO H h0 (b:=lp Tryz.f54 0) (k:=k) (n:=0) (s:=Abh) (step:=Qd) (λ_ _ _ (_,_,_,_)=>by kernel_rfl) Ai;exact⟨h0,(Bc Ai hlwtable_1)⟩) λ(_,_)=>by kernel_rfl
def Bg2(s:Stm)(out:Str):Option Str:=cond (okT s) (app out (Aal s)) none
def Xm:Auk->Option P2:=λx=>Bg2 x.1 x.2
theorem A7z(k:Nat)(s:Stm)(out:Str)(hb:BdStm s)(h:okT s=true)(hk:J7 s<=k):Pt k (s,out)=app out (Aal s):=by
 simp only[okT,Zb1] at h;obtain⟨⟨h1,h2⟩,h3⟩:=h;simp only[J7] at hk;have hc:=Zf2.1 h1;have hl:=Zf2.1 h3;simp only[Pt,ww,fl1,fl3];refine(Cm λx hx=>(Ij s.cols Aq4 (λi acc=>((s.cols.length:Int),(i:Int),acc,s)) (λacc=>(app acc ([44,32,80,82,73,77,65,82,89,32,75,69,89,32]++nmT s.names)).bind λx=>(app x (s.l.map Beh).flatten).bind λx=>app x [41]) (λi hi acc rec =>?_) (λacc rec =>?_) k (by omega) x hx)).trans ?_
 ·simp only[Pw,Dw hi,Ah,A1 hi,chk,A0 (c :=.col) hi,wc (hc _ (List.getElem_mem hi)),Ay hi hb.cols.1,ww,fl1];exact Ls i acc (Aq4 s.cols[i]) _
 ·simp only[Pw,Dv,Al,ww,fl1,wn h2];rw[Cj];refine Cm λx hx=>Bbi s.l Beh (λi acc=>(s.l,(s.l.length:Int),(i:Int),acc)) (λacc=>app acc [41]) (λi hi acc rec =>?_) (λacc rec =>?_) k (by omega) x hx
  ·simp only[Qd,Dw hi,Ah,A1 hi,chk,A0 (c :=.expr) hi,we (hl _ (List.getElem_mem hi)),Ay hi hb.l.1,ww,fl1,Beh];cases decide (parts s.l[i].kind=0) with|true=>simp only[Ah,Cj]|false=>simp only[Al,Cj]
  ·simp only[Qd,Dv,Al,ww,fl1,Gf]
 ·simp only[Gb,Aal,Zj1]
theorem A5n:FM 54 Zb Z0 Xm :=.fin 0 Avl λ(s,out) r hb hx=>⟨J7 s,by
 have hx:cond (okT s) (app out (Aal s)) none=some r:=hx;cases ho:okT s with
 |false=>rw[ho] at hx;cases hx
 |true =>rw[ho] at hx;exact(A7z (J7 s) s out hb.1 ho (Zn1 _)).trans hx⟩
theorem wt{s:Stm}(h:okT s=true)(out:Str):Xm (s,out)=app out (Aal s):=by show cond (okT s) _ _=_;rw[h];rfl
def Awf(p:Str×Bool):Str:=p.1++cond p.2 [32,68,69,83,67] []
def A6j(s:Stm):Str:=cond (decide (0<=s.most)) ([32,76,73,77,73,84,32]++Jf ⟨3,s.most,[]⟩) []
def obT(s:Stm):Str:=cond (decide (0<(s.order.length:Int))) [32,79,82,68,69,82,32,66,89,32] []
def A4p(s:Stm):Str:=[83,69,76,69,67,84,32]++cond (decide ((s.l.length:Int)=0)) [42] []++Gn etx s.l++([32,70,82,79,77,32]++s.name)++whT s++obT s++Gn Awf (s.order.zip s.desc)++A6j s
def okS(s:Stm):Bool:=s.l.all okx&&okW s&&decide (s.desc.length=s.order.length)
def U7:Sig:=⟨2,[(1,.sv .stmt)],[(0,.ptr 0 0)],[(0,.bld 112)],1,1,0,[],[]⟩
def Vb:Sig:=⟨0,[],[],[(0,.bld 112)],1,1,0,[],[]⟩
abbrev Ajv:=Stm×List UInt8
abbrev Ei:=List UInt8
def Wb:Sig:=⟨20,[(7,.int .i64),(8,.int .i64)],[(0,.ptr 0 0),(2,.fn 130 [.ptr 1 0,.ptr 2 0])],[(0,.bld 112),(1,.fx [.ptr 0 0]),(2,.one (.sv .stmt))],80,80,600,[],[]⟩
abbrev Ju:=Int×Int×List UInt8×Stm
def Fv{R:Type}(rec:Ju->Option R)(kx:Ex->Ju->Option R)(v:Ju):Option R:=match v with
 |(v6,v7,w2,w3) =>
 cond (decide (v7<v6)) (
  let j1:=λ(q3:List UInt8) =>
  chk (inb v7 w3.order.length) (
   (As ([(at' .str w3.order v7)],q3)).bind λx8 =>
   chk (inb v7 w3.desc.length) (
    cond ((at' .bool w3.desc v7)) (
    (As ([[32,68,69,83,67]],x8)).bind λx9 =>rec (v6,(wr .i64 (v7+1)),x9,w3)) (
    rec (v6,(wr .i64 (v7+1)),x8,w3))))
  cond (decide (0<v7)) (
  (As ([[44,32]],w2)).bind λx7 =>j1 x7) (
  j1 w2)) (
  kx (.exit 0) (v6,v7,w2,w3))
def Xg:Sig:=⟨20,[(7,.int .i64),(8,.int .i64)],[(0,.ptr 0 0),(2,.fn 129 [.ptr 1 0,.ptr 2 0])],[(0,.bld 112),(1,.fx [.ptr 0 0]),(2,.one (.sv .stmt))],80,80,400,[],[]⟩
abbrev Jq:=Int×Int×List UInt8×Stm
def H7{R:Type}(rec:Jq->Option R)(kx:Ex->Jq->Option R)(v:Jq):Option R:=match v with
 |(v,v1,w,w1) =>
 cond (decide (v1<v)) (
  let j:=λ(q1:List UInt8) =>
  chk (inb v1 w1.l.length) (
   (Ek ((at' .expr w1.l v1),q1)).bind λx3 =>
   rec (v,(wr .i64 (v1+1)),x3,w1))
  cond (decide (0<v1)) (
  (As ([[44,32]],w)).bind λx2 =>j x2) (
  j w)) (
  kx (.exit 0) (v,v1,w,w1))
def Pl(R:Type)(_k:Nat):Px R:=pxO [(60,Am Ey Ew Ek)] [] [] []
noncomputable def Xe(R:Type)(k:Nat):Px R:=pxO [(55,Am Bz B2 As),(129,Aw 120 600 (Pl R k) Tryz.f129)] [] [(1,Ao k Xg (H7))] []
def Qf(R:Type)(_k:Nat):Px R:=pxO [(55,Am Bz B2 As)] [] [] []
noncomputable def V7(R:Type)(k:Nat):Px R:=pxO [(55,Am Bz B2 As),(130,Aw 120 800 (Qf R k) Tryz.f130)] [] [(1,Ao k Wb (Fv))] []
noncomputable def Ad9(R:Type)(k:Nat):Px R:=pxO [(55,Am Bz B2 As),(62,Am Qk Rf Gg),(57,Zs 80 400 (Xe R k) Tryz.f57 (Aw 80 600 (V7 R k) Tryz.f57))] [(128,qA Ww)] [] []
def M8(k:Nat)(x:Ajv):Option (Ei):=match x with
 |(s,out) =>
 (As ([[83,69,76,69,67,84,32]],out)).bind λx =>
  let j3:=λ(q:List UInt8) =>
  Aq (λrec=>H7 rec (λe vz=>match vz with|(_,_,v4,v5)=>match e with
   |.exit 0 =>
   (As ([[32,70,82,79,77,32],v5.name],v4)).bind λx4 =>
    (Gg (v5,x4)).bind λx5 =>
    let j2:=λ(q2:List UInt8) =>
     Aq (λrec=>Fv rec (λe vz=>match vz with|(_,_,a,b)=>match e with
     |.exit 0 =>
      cond (decide (0<=b.most)) (
      (As ([[32,76,73,77,73,84,32],(Jf (Val.mk 3 b.most []))],a)).bind λc =>some c) (
      some a)
     |_=>none)) k ((v5.order.length:Int),0,q2,v5)
    cond (decide (0<(v5.order.length:Int))) (
     (As ([[32,79,82,68,69,82,32,66,89,32]],x5)).bind λx6 =>
     j2 x6) (
     j2 x5)
   |_=>none)) k ((s.l.length:Int),0,q,s)
  cond (decide ((s.l.length:Int)=0)) (
  (As ([[42]],x)).bind λx1 =>j3 x1) (
  j3 x)
theorem Ar5(k:Nat):FM 63 U7 Vb (M8 k):=fRL (px:=Ad9 _ k) (n:=0) Tryz.func63 rfl (λcx H=>by have h2:Lv cx (Pl (Ei) k):=lv H (l1 H P3 Ae) Aa Ab;have h1:Lv cx (Xe (Ei) k):=lv H (l1 H Cd (An (cR H h2 Tryz.func129 rfl (n:=0) (Ai)) Ae)) Aa Ab;have hlwchosen_0:=lO H h1 (b:=lp Tryz.f57 0) (k:=k) (n:=0) (s:=Xg) (step:=H7) (λ_ _ _ (_,_,_,_)=>by kernel_rfl) Ai;have h4:Lv cx (Qf (Ei) k):=lv H (l1 H Cd Ae) Aa Ab;have h3:Lv cx (V7 (Ei) k):=lv H (l1 H Cd (An (cR H h4 Tryz.func130 rfl (n:=0) (Ai)) Ae)) Aa Ab;have hlwchosen_1:=lO H h3 (b:=lp Tryz.f57 0) (k:=k) (n:=0) (s:=Wb) (step:=Fv) (λ_ _ _ (_,_,_,_)=>by kernel_rfl) Ai;have h0:Lv cx (Ad9 (Ei) k):=lv H (l1 H Cd (l1 H Akw (An (Bcb (cR H h1 Tryz.func57 rfl (n:=1) ((Bc Ai hlwchosen_0))) (cR H h3 Tryz.func57 rfl (n:=1) ((Bc Ai hlwchosen_1)))) Ae))) (q1 H Amr Aa) Ab;exact⟨h0,Ai⟩) λ(_,_)=>by kernel_rfl
def Bd8(s:Stm)(out:Str):Option Str:=cond (okS s) (app out (A4p s)) none
def Rz:Ajv->Option Ei:=λx=>Bd8 x.1 x.2
theorem Ahn{R:Type}{b:Bool}{out t:Str}{c:Str->Option R}(ho:out.length<=100000000000):cond b ((app out t).bind c) (c out)=(app out (cond b t [])).bind c:=by cases b with|true=>rfl|false=>rw[Al,Al,Ada ho];rfl
theorem A51(k:Nat)(s:Stm)(out:Str)(hb:BdStm s)(h:okS s=true)(hk:J7 s<=k):M8 k (s,out)=app out (A4p s):=by
 simp only[okS,Zb1,Zg1] at h;obtain⟨⟨h1,h2⟩,h3⟩:=h;simp only[J7] at hk;have hl:=Zf2.1 h1;have hz:(s.order.zip s.desc).length=s.order.length:=by rw[List.length_zip];omega
 have hend:∀x:Str,x.length<=100000000000->cond (decide (0<=s.most)) (app x ([32,76,73,77,73,84,32]++Jf ⟨3,s.most,[]⟩)) (some x)=app x (A6j s):=λx hx=>by simp only[A6j];cases decide (0<=s.most) with|true=>rfl|false=>rw[Al,Al,Ada hx]
 have hord:∀(kx:Ex->Ju->Option Ei),(∀acc,kx (.exit 0) ((s.order.length:Int),(s.order.length:Int),acc,s)=cond (decide (0<=s.most)) (app acc ([32,76,73,77,73,84,32]++Jf ⟨3,s.most,[]⟩)) (some acc))->∀x:Str,x.length<=100000000000 ->
   Aq (λrec=>Fv rec kx) k ((s.order.length:Int),0,x,s)=(app x (Gn Awf (s.order.zip s.desc))).bind λx=>app x (A6j s):=λkx hkx x hx=>by
  refine(Ij (s.order.zip s.desc) Awf (λi acc=>((s.order.length:Int),(i:Int),acc,s)) (λacc=>cond (decide (0<=s.most)) (app acc ([32,76,73,77,73,84,32]++Jf ⟨3,s.most,[]⟩)) (some acc)) (λi hi acc rec =>?_) (λacc rec =>?_) k (by omega) x hx).trans (Cm hend)
  ·have hi1:i<s.order.length:=by omega
   have hi2:i<s.desc.length:=by omega
   have hg:(s.order.zip s.desc)[i]=(s.order[i],s.desc[i]):=by simp
   simp only[Fv,Dw hi1,Ah,A1 hi1,A1 hi2,chk,A0 (c :=.str) hi1,A0 (c :=.bool) hi2,Ay hi1 hb.order.1,ww,fl1,hg];have hitem:∀q:Str,((app q s.order[i]).bind λx8=>cond s.desc[i] ((app x8 [32,68,69,83,67]).bind λx9=>rec ((s.order.length:Int),((i+1:Nat):Int),x9,s)) (rec ((s.order.length:Int),((i+1:Nat):Int),x8,s)))=(app q (Awf (s.order[i],s.desc[i]))).bind λx=>rec ((s.order.length:Int),((i+1:Nat):Int),x,s):=λq=>by simp only[Awf];rw[<-Cj];exact Cm λx hx=>Ahn hx
   simp only[hitem];exact Ls i acc _ _
  ·rw[hz];simp only[Fv,Dv,Al,hkx]
 simp only[M8,ww,fl1,fl2];have hsel:∀(kx:Ex->Jq->Option Ei),(∀acc:Str,acc.length<=100000000000->kx (.exit 0) ((s.l.length:Int),(s.l.length:Int),acc,s)=app acc (([32,70,82,79,77,32]++s.name)++whT s++obT s++Gn Awf (s.order.zip s.desc)++A6j s))->∀x:Str,x.length<=100000000000 ->
   Aq (λrec=>H7 rec kx) k ((s.l.length:Int),0,x,s)=app x (Gn etx s.l++(([32,70,82,79,77,32]++s.name)++whT s++obT s++Gn Awf (s.order.zip s.desc)++A6j s)):=λkx hkx x hx=>by
  refine(Ij s.l etx (λi acc=>((s.l.length:Int),(i:Int),acc,s)) (λacc=>kx (.exit 0) ((s.l.length:Int),(s.l.length:Int),acc,s)) (λi hi acc rec =>?_) (λacc rec =>?_) k (by omega) x hx).trans ((Cm hkx).trans (Gb _ _ _))
  ·simp only[H7,Dw hi,Ah,A1 hi,chk,A0 (c :=.expr) hi,we (hl _ (List.getElem_mem hi)),Ay hi hb.l.1,ww,fl1];exact Ls i acc _ _
  ·simp only[H7,Dv,Al]
 refine(Cm λx hx=>(Ahn hx).trans (Cm λq hq=>hsel _ (λacc ha =>?_) q hq)).trans ?_
 ·show((app acc ([32,70,82,79,77,32]++s.name)).bind λx4=>(Gg (s,x4)).bind λx5=>cond (decide (0<(s.order.length:Int))) ((app x5 [32,79,82,68,69,82,32,66,89,32]).bind λx6=>Aq (λrec=>Fv rec _) k ((s.order.length:Int),0,x6,s)) (Aq (λrec=>Fv rec _) k ((s.order.length:Int),0,x5,s)))=_;simp only[wh h2];rw[Cj];refine(Cm λx5 hx5=>(Ahn hx5).trans (Cm λy hy=>hord _ (λ_ =>?_) y hy)).trans ?_
  ·simp only[Gf,Jf]
  ·simp only[Gb,obT,Zj1]
 ·simp only[Gb,A4p,Zj1]
theorem Avx:FM 63 U7 Vb Rz :=.fin 0 Ar5 λ(s,out) r hb hx=>⟨J7 s,by
 have hx:cond (okS s) (app out (A4p s)) none=some r:=hx;cases ho:okS s with
 |false=>rw[ho] at hx;cases hx
 |true =>rw[ho] at hx;exact(A51 (J7 s) s out hb.1 ho (Zn1 _)).trans hx⟩
theorem ws{s:Stm}(h:okS s=true)(out:Str):Rz (s,out)=app out (A4p s):=by show cond (okS s) _ _=_;rw[h];rfl
def A9b(r:List Xpr):Str:=[40]++(Gn etx r++[41])
def Bdy(x:SetE):Str:=x.name++[32,61,32]++etx x.e
def Ayw(s:Stm):Str :=
 if s.kind=1 then Aal s
 else if s.kind=2 then [68,82,79,80,32,84,65,66,76,69,32]++s.name
 else if s.kind=3 then [67,82,69,65,84,69,32,73,78,68,69,88,32]++(s.name++([32,79,78,32]++(s.on++[32])))++nmT s.names
 else if s.kind=4 then [68,82,79,80,32,73,78,68,69,88,32]++s.name
 else if s.kind=5 then [73,78,83,69,82,84,32,73,78,84,79,32]++(s.name++[32,86,65,76,85,69,83,32])++Gn A9b s.rows
 else if s.kind=6 then [85,80,68,65,84,69,32]++(s.name++[32,83,69,84,32])++Gn Bdy s.sets++whT s
 else if s.kind=7 then [68,69,76,69,84,69,32,70,82,79,77,32]++s.name++whT s
 else A4p s
def okP(s:Stm):Bool :=
 if s.kind=1 then okT s
 else if s.kind=2\/s.kind=4 then true
 else if s.kind=3 then Aoq s.names
 else if s.kind=5 then s.rows.all λr=>r.all okx
 else if s.kind=6 then s.sets.all (λx=>okx x.e)&&okW s
 else if s.kind=7 then okW s
 else decide (s.kind=8)&&okS s
def Ou:Sig:=⟨20,[(7,.int .i64),(8,.int .i64)],[(0,.ptr 1 0),(2,.fn 61 [.ptr 1 0,.ptr 0 0])],[(0,.one (.sv .stmt)),(1,.bld 112)],40,40,200,[],[]⟩
abbrev Fa:=Int×Int×Stm×List UInt8
def Iz{R:Type}(rec:Fa->Option R)(kx:Ex->Fa->Option R)(v:Fa):Option R:=match v with
 |(b,a,w5,w6) =>
 cond (decide (a<b)) (
  let j2:=λ(q2:List UInt8) =>
  chk (inb a w5.sets.length) (
   (As ([((at' .set w5.sets a).name),[32,61,32]],q2)).bind λc =>
   chk (inb a w5.sets.length) (
    (Ek ((H1 ((at' .set w5.sets a).e)),c)).bind λd =>
    rec (b,(wr .i64 (a+1)),w5,d)))
  cond (decide (0<a)) (
  (As ([[44,32]],w6)).bind λf =>j2 f) (
  j2 w6)) (
  kx (.exit 0) (b,a,w5,w6))
def Aa0:Sig:=⟨20,[(7,.int .i64),(8,.int .i64)],[(0,.ptr 1 0),(2,.fn 59 [.ptr 1 0,.ptr 0 0,.ptr 80 0])],[(0,.one (.sv .stmt)),(1,.bld 112),(80,.cells [.int .i64])],120,120,600,[],[]⟩
abbrev M2:=Int×Int×Stm×List UInt8×Int
def Jd{R:Type}(rec:M2->Option R)(kx:Ex->M2->Option R)(v:M2):Option R:=match v with
 |(v2,v3,w2,w3,w4) =>
 cond (decide (v3<v2)) (
  let j:=λ(q1:List UInt8) =>
  chk (inb w4 w2.rows.length) (
   chk (inb v3 ((at' .exprs w2.rows w4).length)) (
   (Ek ((at' .expr (at' .exprs w2.rows w4) v3),q1)).bind λa =>rec (v2,(wr .i64 (v3+1)),w2,a,w4)))
  cond (decide (0<v3)) (
  (As ([[44,32]],w3)).bind λx9 =>j x9) (
  j w3)) (
  kx (.exit 0) (v2,v3,w2,w3,w4))
def Qa:Sig:=⟨20,[(7,.int .i64),(8,.int .i64)],[(0,.ptr 1 0),(2,.fn 58 [.ptr 1 0,.ptr 0 0])],[(0,.one (.sv .stmt)),(1,.bld 112)],40,40,200,[],[]⟩
abbrev Fs:=Int×Int×Stm×List UInt8
def Jk{R:Type}(k:Nat)(rec:Fs->Option R)(kx:Ex->Fs->Option R)(v:Fs):Option R:=match v with
 |(v,v1,w,w1) =>
 cond (decide (v1<v)) (
  let j1:=λ(q:List UInt8) =>
  (As ([[40]],q)).bind λx8 =>
   chk (inb v1 w.rows.length) (
   Aq (λrc=>Jd rc (λe vz=>match vz with|(_,_,v6,v7,_)=>match e with
    |.exit 0 =>
    (As ([[41]],v7)).bind λa =>rec (v,(wr .i64 (v1+1)),v6,a)
    |_=>none)) k (((at' .exprs w.rows v1).length:Int),0,w,x8,v1))
  cond (decide (0<v1)) (
  (As ([[44,32]],w1)).bind λx7 =>j1 x7) (
  j1 w1)) (
  kx (.exit 0) (v,v1,w,w1))
def J4(R:Type)(_k:Nat):Px R:=pxO [(60,Am Ey Ew Ek)] [] [] []
noncomputable def Nt(R:Type)(k:Nat):Px R:=pxO [(55,Am Bz B2 As),(59,Aw 160 800 (J4 R k) Tryz.f59)] [] [(1,Ao k Aa0 (Jd))] []
noncomputable def S8(R:Type)(k:Nat):Px R:=pxO [(55,Am Bz B2 As),(57,Aw 120 600 (Nt R k) Tryz.f57)] [] [] []
def Td(R:Type)(_k:Nat):Px R:=pxO [(55,Am Bz B2 As),(60,Am Ey Ew Ek)] [] [] []
noncomputable def Hi(R:Type)(k:Nat):Px R:=pxO [(55,Am Bz B2 As),(58,Aw 80 400 (S8 R k) Tryz.f58),(61,Aw 80 400 (Td R k) Tryz.f61)] [] [(1,Xn k Qa (Jk k) (Ao k Ou (Iz)))] []
noncomputable def Alp(R:Type)(k:Nat):Px R:=pxO [(53,cA Kx),(54,Am Zb Z0 Xm),(55,Am Bz B2 As),(56,Am Qx Qt Lq),(62,Am Qk Rf Gg),(63,Am U7 Vb Rz),(64,Am bstr_si Aqc Hn),(57,Aw 40 200 (Hi R k) Tryz.f57)] [] [] []
theorem Au3(R:Type)(k:Nat):∀(fr:List Fr) (rec:Fs->Option R) (kx:Ex->Fs->Option R) (v:Fs),Qb (Hi R k) Qa (lp Tryz.f57 0) fr rec kx v=Jk k rec kx v
 |fr,rec,kx,(v,v1,w,w1)=>by kernel_rfl
theorem At6(R:Type)(k:Nat):∀(fr:List Fr) (rec:Fa->Option R) (kx:Ex->Fa->Option R) (v:Fa),Qb (Hi R k) Ou (lp Tryz.f57 0) fr rec kx v=Iz rec kx v
 |fr,rec,kx,(a,b,w5,w6)=>by kernel_rfl
def Ka(k:Nat)(x:HV [.sv .stmt]):Option (HV [.str,.int .i64]):=match x with
 |s =>
 (I5 s).bind λx =>
  cond (!decide (x=0)) (
  some ([],x)) (
  cond (decide (s.kind=1)) (
   (Xm (s,[])).bind λx1 =>
   (Hn x1).bind λa =>some (a,0)) (
   cond (decide (s.kind=2)) (
   (As ([[68,82,79,80,32,84,65,66,76,69,32],s.name],[])).bind λx2 =>
    (Hn x2).bind λb =>
    some (b,0)) (
   cond (decide (s.kind=3)) (
    (As ([[67,82,69,65,84,69,32,73,78,68,69,88,32],s.name,[32,79,78,32],s.on,[32]],[])).bind λx3 =>
    (Lq (s.names,x3)).bind λx4 =>
     (Hn x4).bind λc =>
     some (c,0)) (
    cond (decide (s.kind=4)) (
    (As ([[68,82,79,80,32,73,78,68,69,88,32],s.name],[])).bind λx5 =>
     (Hn x5).bind λd =>
     some (d,0)) (
    cond (decide (s.kind=5)) (
     (As ([[73,78,83,69,82,84,32,73,78,84,79,32],s.name,[32,86,65,76,85,69,83,32]],[])).bind λx6 =>
     Aq (λrec=>Jk k rec (λe vz=>match vz with|(_,_,_,f)=>match e with
      |.exit 0 =>
      (Hn f).bind λg =>some (g,0)
      |_=>none)) k ((s.rows.length:Int),0,s,x6)) (
     cond (decide (s.kind=6)) (
     (As ([[85,80,68,65,84,69,32],s.name,[32,83,69,84,32]],[])).bind λh =>
      Aq (λrec=>Iz rec (λe vz=>match vz with|(_,_,i,j)=>match e with
      |.exit 0 =>
       (Gg (i,j)).bind λl =>
       (Hn l).bind λm =>some (m,0)
      |_=>none)) k ((s.sets.length:Int),0,s,h)) (
     cond (decide (s.kind=7)) (
      (As ([[68,69,76,69,84,69,32,70,82,79,77,32],s.name],[])).bind λn =>
      (Gg (s,n)).bind λo =>
       (Hn o).bind λp =>
       some (p,0)) (
      cond (decide (s.kind=8)) (
      (Rz (s,[])).bind λq =>
       (Hn q).bind λr =>
       some (r,0)) (
      (Hn []).bind λt =>some (t,0))))))))))
theorem Axr(k:Nat):FO 24 [.sv .stmt] [.str,.int .i64] (Ka k):=fR (px:=Alp _ k) (n:=0) Tryz.func24 rfl (λcx H=>by have h4:Lv cx (J4 (HV [.str,.int .i64]) k):=lv H (l1 H P3 Ae) Aa Ab;have h3:Lv cx (Nt (HV [.str,.int .i64]) k):=lv H (l1 H Cd (An (cR H h4 Tryz.func59 rfl (n:=0) (Ai)) Ae)) Aa Ab;have hlaprint_1:=lO H h3 (b:=lp Tryz.f57 0) (k:=k) (n:=0) (s:=Aa0) (step:=Jd) (λ_ _ _ (_,_,_,_,_)=>by kernel_rfl) Ai;have h2:Lv cx (S8 (HV [.str,.int .i64]) k):=lv H (l1 H Cd (An (cR H h3 Tryz.func57 rfl (n:=1) ((Bc Ai hlaprint_1))) Ae)) Aa Ab;have h5:Lv cx (Td (HV [.str,.int .i64]) k):=lv H (l1 H Cd (l1 H P3 Ae)) Aa Ab;have h1:Lv cx (Hi (HV [.str,.int .i64]) k):=lv H (l1 H Cd (An (cR H h2 Tryz.func58 rfl (n:=0) (Ai)) (An (cR H h5 Tryz.func61 rfl (n:=0) (Ai)) Ae))) Aa Ab;have hlaprint_0:B9 cx (Hi (HV [.str,.int .i64]) k) (lp Tryz.f57 0):=A0i (λ_ _=>by kernel_rfl) (Aah (Po h1.p h1.c h1.q (by rw[H.p];exact follows) (k:=k) (s:=Qa) (step:=Jk k) (by kernel_rfl) (Au3 _ k) (Iv (n:=0) (by kernel_rfl) Ai)) (Po h1.p h1.c h1.q (by rw[H.p];exact follows) (k:=k) (s:=Ou) (step:=Iz) (by kernel_rfl) (At6 _ k) (Iv (n:=0) (by kernel_rfl) Ai)));have h0:Lv cx (Alp (HV [.str,.int .i64]) k):=lv H (c1 H Ql (l1 H A5n (l1 H Cd (l1 H Al6 (l1 H Akw (l1 H Avx (l1 H Bed (An (cR H h1 Tryz.func57 rfl (n:=1) ((Bc Ai hlaprint_0))) Ae)))))))) Aa Ab;exact⟨h0,Ai⟩) λ_=>by kernel_rfl
def Aho(s:Stm):Option (Str×Int):=(I5 s).bind λx=>cond (!decide (x=0)) (some ([],x)) (cond (okP s) ((app [] (Ayw s)).bind λt=>some (t,0)) none)
def Atk:FT [.sv .stmt] [.str,.int .i64]:=λx=>Aho x
theorem Aje{R:Type}{kx:Ex->M2->Option R}{s:Stm}{j:Nat}{c:Str->Option R}(hj:j<s.rows.length)(hn:ln s.rows[j].length)(hok:s.rows[j].all okx=true)(h2:∀acc,kx (.exit 0) ((s.rows[j].length:Int),(s.rows[j].length:Int),s,acc,(j:Int))=c acc)(k:Nat)(hk:s.rows[j].length<k)(out:Str)(ho:out.length<=100000000000) :
  Aq (λrec=>Jd rec kx) k ((s.rows[j].length:Int),0,s,out,(j:Int))=(app out (Gn etx s.rows[j])).bind c:=by
 have hl:=Zf2.1 hok;refine Ij s.rows[j] etx (λi acc=>((s.rows[j].length:Int),(i:Int),s,acc,(j:Int))) c (λi hi acc rec =>?_) (λacc rec =>?_) k hk out ho
 ·simp only[Jd,Dw hi,Ah,A1 hi,A1 hj,chk,A0 (c :=.exprs) hj,A0 (c :=.expr) hi,we (hl _ (List.getElem_mem hi)),Ay hi hn,ww,fl1];exact Ls i acc _ _
 ·simp only[Jd,Dv,Al,h2]
theorem Ajo{R:Type}{kx:Ex->Fs->Option R}{s:Stm}{c:Str->Option R}(hb:BdStm s)(hok:(s.rows.all λr=>r.all okx)=true)(h2:∀acc,kx (.exit 0) ((s.rows.length:Int),(s.rows.length:Int),s,acc)=c acc)(k:Nat)(hk:J7 s<=k)(out:Str)(ho:out.length<=100000000000) :
  Aq (λrec=>Jk k rec kx) k ((s.rows.length:Int),0,s,out)=(app out (Gn A9b s.rows)).bind c:=by
 have hl:=Zf2.1 hok;simp only[J7] at hk;refine Ij s.rows A9b (λi acc=>((s.rows.length:Int),(i:Int),s,acc)) c (λi hi acc rec =>?_) (λacc rec =>?_) k (by omega) out ho
 ·have hm:=Azn (List.getElem_mem hi);have hrow:∀q:Str,((app q [40]).bind λx8=>Aq (λrc=>Jd rc (λe v=>match v with
    |(_,_,v6,v7,_)=>match e with
     |.exit 0=>(app v7 [41]).bind λa=>rec ((s.rows.length:Int),((i+1:Nat):Int),v6,a)
     |_=>none)) k ((s.rows[i].length:Int),0,s,x8,(i:Int)))=(app q (A9b s.rows[i])).bind λx=>rec ((s.rows.length:Int),((i+1:Nat):Int),s,x):=λq=>by
   refine(Cm λx hx=>Aje (c:=λacc=>(app acc [41]).bind λa=>rec ((s.rows.length:Int),((i+1:Nat):Int),s,a)) hi (hb.rows.2 _ (List.getElem_mem hi)).1 (hl _ (List.getElem_mem hi)) (λ_=>rfl) k (by omega) x hx).trans ?_;simp only[Cj,A9b]
  simp only[Jk,Dw hi,Ah,A1 hi,chk,A0 (c :=.exprs) hi,Ay hi hb.rows.1,ww,fl1];refine Eq.trans ?_ (Ls i acc _ _);have e:∀(b:Bool) (x y x' y':Option R),x=x'->y=y'->cond b x y=cond b x' y':=λ_ _ _ _ _ h1 h2=>by rw[h1,h2]
  exact e _ _ _ _ _ (Cm λx _=>hrow x) (hrow acc)
 ·simp only[Jk,Dv,Al,h2]
theorem Ajj{R:Type}{kx:Ex->Fa->Option R}{s:Stm}{c:Str->Option R}(hb:BdStm s)(hok:(s.sets.all λx=>okx x.e)=true)(h2:∀acc,kx (.exit 0) ((s.sets.length:Int),(s.sets.length:Int),s,acc)=c acc)(k:Nat)(hk:s.sets.length<k)(out:Str)(ho:out.length<=100000000000) :
  Aq (λrec=>Iz rec kx) k ((s.sets.length:Int),0,s,out)=(app out (Gn Bdy s.sets)).bind c:=by
 have hl:=Zf2.1 hok;refine Ij s.sets Bdy (λi acc=>((s.sets.length:Int),(i:Int),s,acc)) c (λi hi acc rec =>?_) (λacc rec =>?_) k hk out ho
 ·simp only[Iz,Dw hi,Ah,A1 hi,chk,A0 (c :=.set) hi,G2,we (hl _ (List.getElem_mem hi)),Ay hi hb.sets.1,ww,fl1,fl2];have hitem:∀q:Str,((app q (s.sets[i].name++[32,61,32])).bind λa=>(app a (etx s.sets[i].e)).bind λb=>rec ((s.sets.length:Int),((i+1:Nat):Int),s,b))=(app q (Bdy s.sets[i])).bind λx=>rec ((s.sets.length:Int),((i+1:Nat):Int),s,x):=λq=>by rw[Cj];rfl
  simp only[hitem];exact Ls i acc _ _
 ·simp only[Iz,Dv,Al,h2]
theorem bs(x:Str):((Hn x).bind λt=>some (t,(0:Int)))=some (x,0):=rfl
theorem Bct(k:Nat)(s:Stm)(hb:BdStm s)(hk:J7 s<=k)(h:okP s=true)(hc:I5 s=some 0):Ka k s=((app [] (Ayw s)).bind λt=>some (t,0)):=by
 have hk2:=hk;simp only[J7] at hk2;simp only[Ka,hc,Zc1,bs,ww,fl2,fl3,fl5];simp only[okP] at h;simp only[Ayw];rw[decide_true,Zt1,Al];by_cases h1:s.kind=1
 ·rw[if_pos h1] at h;rw[Ze1 h1,if_pos h1,Ah,wt h]
 rw[if_neg h1] at h;rw[Zd1 h1,if_neg h1,Al];by_cases h2:s.kind=2
 ·rw[Ze1 h2,if_pos h2,Ah]
 rw[Zd1 h2,if_neg h2,Al];by_cases h3:s.kind=3
 ·rw[if_neg (by omega),if_pos h3] at h;rw[Ze1 h3,if_pos h3,Ah];simp only[wn h,Cj]
 rw[Zd1 h3,if_neg h3,Al];by_cases h4:s.kind=4
 ·rw[Ze1 h4,if_pos h4,Ah]
 rw[if_neg (by omega),if_neg h3] at h;rw[Zd1 h4,if_neg h4,Al];by_cases h5:s.kind=5
 ·rw[if_pos h5] at h;rw[Ze1 h5,if_pos h5,Ah];refine(Cm λx hx=>Ajo (c:=λt=>some (t,(0:Int))) hb h (λ_=>rfl) k hk x hx).trans ?_;rw[Cj]
 rw[if_neg h5] at h;rw[Zd1 h5,if_neg h5,Al];by_cases h6:s.kind=6
 ·rw[if_pos h6,Zb1] at h;rw[Ze1 h6,if_pos h6,Ah];refine(Cm λx hx=>Ajj (c:=λt=>(app t (whT s)).bind λt=>some (t,(0:Int))) hb h.1 (λacc =>?_) k (by omega) x hx).trans ?_
  ·show((Gg (s,acc)).bind λa=>some (a,(0:Int)))=_;rw[wh h.2]
  ·simp only[Cj,Zj1]
 rw[if_neg h6] at h;rw[Zd1 h6,if_neg h6,Al];by_cases h7:s.kind=7
 ·rw[if_pos h7] at h;rw[Ze1 h7,if_pos h7,Ah];simp only[wh h,Cj]
 rw[if_neg h7,Zb1,Zg1] at h;rw[Zd1 h7,if_neg h7,Al,Ze1 h.1,Ah,ws h.2]
theorem A62:FO 24 [.sv .stmt] [.str,.int .i64] Atk :=.fin 0 Axr λs r hb hx=>⟨J7 s,by
 have hx:Aho s=some r:=hx;simp only[Aho] at hx;cases hc:I5 s with
 |none=>rw[hc] at hx;cases hx
 |some x =>
  rw[hc,Zc1] at hx;by_cases h0:x=0
  ·subst h0;cases ho:okP s with|false=>rw[ho] at hx;cases hx|true =>rw[ho] at hx;exact(Bct (J7 s) s hb (Zn1 _) ho hc).trans hx
  ·rw[Zd1 h0] at hx;rw[<-hx];simp only[Ka,hc,Zc1];rw[Zd1 h0];rfl⟩
def Aid(R:Type):Px R:=pxO [(138,cA Avj)] [] [] []
noncomputable def Arm(R:Type):Px R:=pxO [(81,Am Wu Vz An6),(82,Am Af3 Af0 An9),(53,cA Kx),(80,Aw 40 200 (Aid R) Tryz.f80)] [] [] []
def Aen(x:HV [.str]):Option (HV [.sv .stmt,.int .i64,.int .i64]):=match x with
 |s =>
 cond (!decide ((A25 s).2.2=0)) (
  some ((Stm.mk 0 [] [] [] [] [] [] [] false (Xpr.mk 0 ⟨0,0,[]⟩ [] []) [] [] 0),(A25 s).2.1,(A25 s).2.2)) (
  (An6 ((A25 s).1,(s.length:Int),false,0)).bind λ(x,x1,x2,x3,x4) =>
  (An9 (x1,x2,x3,x4)).bind λ(x5,_,_,_,x9) =>
   cond (!x5) (
   some ((Stm.mk 0 [] [] [] [] [] [] [] false (Xpr.mk 0 ⟨0,0,[]⟩ [] []) [] [] 0),x9,11)) (
   (I5 x).bind λa =>
    cond (!decide (a=0)) (
    some ((Stm.mk 0 [] [] [] [] [] [] [] false (Xpr.mk 0 ⟨0,0,[]⟩ [] []) [] [] 0),0,a)) (
    some (x,0,0))))
theorem A4v:FO 33 [.str] [.sv .stmt,.int .i64,.int .i64] (Aen):=fR (px:=Arm _) (n:=0) Tryz.func33 rfl (λcx H=>by have h1:Lv cx (Aid (HV [.sv .stmt,.int .i64,.int .i64])):=lv H (c1 H Bdn Ae) Aa Ab;have h0:Lv cx (Arm (HV [.sv .stmt,.int .i64,.int .i64])):=lv H (l1 H A97 (l1 H A7l (c1 H Ql (An (cR H h1 Tryz.func80 rfl (n:=0) (Ai)) Ae)))) Aa Ab;exact⟨h0,Ai⟩) λ_=>by kernel_rfl
def Bgo(s:Str):Option (Stm×Int×Int):=Aen s
def Az3:FT [.str] [.sv .stmt,.int .i64,.int .i64]:=λx=>Bgo x
theorem A9z:FO 33 [.str] [.sv .stmt,.int .i64,.int .i64] Az3 :=.fin0 A4v λ_ _ _ hx=>hx
def Aky:Sig:=⟨19,[(0,.int .u64),(3,.sl .byte true)],[],[],0,0,0,[],[]⟩
abbrev Ah8:=Int×List UInt8
def Aw8{R:Type}(rec:Ah8->Option R)(kx:Ex->Ah8->Option R)(v:Ah8):Option R:=match v with
 |(v,v1) =>
 cond (decide (128<=v)) (
  chk (decide (v1.length+1<=Av)) (
  rec ((Eo .u64 v 7),(v1++[(UInt8.ofNat ((ior .u8 (wr .u8 v) 128):Int).toNat)])))) (
  kx (.exit 0) (v,v1))
def A2a(R:Type)(k:Nat):Px R:=pxO [] [] [(2,Ao k Aky (Aw8))] []
def Alx(k:Nat)(x:HV [.int .u64]):Option (HV [.sl .byte true]):=match x with
 |n =>
 Aq (λrec=>Aw8 rec (λe vz=>match vz with|(v2,v3)=>match e with
  |.exit 0 =>
  chk (decide (v3.length+1<=Av)) (
   some (v3++[(UInt8.ofNat ((wr .u8 v2):Int).toNat)]))
  |_=>none)) k (n,[])
theorem Ba1(k:Nat):FO 65 [.int .u64] [.sl .byte true] (Alx k):=fR (px:=A2a _ k) (n:=1) Tryz.func65 rfl (λcx H=>by have h0:Lv cx (A2a (HV [.sl .byte true]) k):=lv H Ae Aa Ab;have hlvput_0:=lO H h0 (b:=lp Tryz.f65 0) (k:=k) (n:=0) (s:=Aky) (step:=Aw8) (λ_ _ _ (_,_)=>by kernel_rfl) Ai;exact⟨h0,(Bc Ai hlvput_0)⟩) λ_=>by kernel_rfl
def Bh1(n:Int):Option Str:=Alx 100 n
def Awo:FT [.int .u64] [.sl .byte true]:=λx=>Bh1 x
theorem Azw:FO 65 [.int .u64] [.sl .byte true] Awo :=.fin 0 Ba1 λ_ _ _ hx=>⟨100,hx⟩
def A7k(R:Type):Px R:=pxO [(65,cA Awo)] [] [] []
def Aib(x:HV [.sl .byte false]):Option (HV [.sl .byte true]):=match x with
 |s =>
 (Bh1 (wr .u64 (s.length:Int))).bind λx =>
  chk (decide (x.length+s.length<=Av)) (
  some (x++s))
theorem A46:FO 66 [.sl .byte false] [.sl .byte true] (Aib):=fR (px:=A7k _) (n:=0) Tryz.func66 rfl (λ_ H=>⟨lv H (c1 H Azw Ae) Aa Ab,Ai⟩) λ_=>by kernel_rfl
def Bgn(s:Str):Option Str:=Aib s
def A1n:FT [.sl .byte false] [.sl .byte true]:=λx=>Bgn x
theorem Bc7:FO 66 [.sl .byte false] [.sl .byte true] A1n :=.fin0 A46 λ_ _ _ hx=>hx
def Ad8:Sig:=⟨22,[(3,.sl .byte true),(10,.sl .bytes false),(11,.int .i64),(12,.int .i64)],[],[],0,0,0,[],[]⟩
abbrev Zu:=List UInt8×List (List UInt8)×Int×Int
def Aoc{R:Type}(rec:Zu->Option R)(kx:Ex->Zu->Option R)(v:Zu):Option R:=match v with
 |(v,v1,v2,v3) =>
 cond (decide (v3<v2)) (
  chk (inb v3 v1.length) (
  (Bgn (at' .bytes v1 v3)).bind λx1 =>
   chk (decide (v.length+x1.length<=Av)) (
   rec ((v++x1),v1,v2,(wr .i64 (v3+1)))))) (
  kx (.exit 0) (v,v1,v2,v3))
def As1(R:Type)(k:Nat):Px R:=pxO [(65,cA Awo),(66,cA A1n)] [] [(3,Ao k Ad8 (Aoc))] []
def Ag3(k:Nat)(x:HV [.sl .bytes false]):Option (HV [.sl .byte true]):=match x with
 |l =>
 (Bh1 (wr .u64 (l.length:Int))).bind λx =>
  Aq (λrec=>Aoc rec (λe vz=>match vz with|(v4,_,_,_)=>match e with
  |.exit 0 =>some v4
  |_=>none)) k (x,l,(l.length:Int),0)
theorem A3e(k:Nat):FO 27 [.sl .bytes false] [.sl .byte true] (Ag3 k):=fR (px:=As1 _ k) (n:=1) Tryz.func27 rfl (λcx H=>by have h0:Lv cx (As1 (HV [.sl .byte true]) k):=lv H (c1 H Azw (c1 H Bc7 Ae)) Aa Ab;have hlvjoin_0:=lO H h0 (b:=lp Tryz.f27 0) (k:=k) (n:=0) (s:=Ad8) (step:=Aoc) (λ_ _ _ (_,_,_,_)=>by kernel_rfl) Ai;exact⟨h0,(Bc Ai hlvjoin_0)⟩) λ_=>by kernel_rfl
def Bgs(l:List Str):Option Str:=Ag3 5000 l
def A2e:FT [.sl .bytes false] [.sl .byte true]:=λx=>Bgs x
theorem Baj:FO 27 [.sl .bytes false] [.sl .byte true] A2e :=.fin 0 A3e λ_ _ _ hx=>⟨5000,hx⟩
def Ama:Sig:=⟨59,[(1,.int .i64),(4,.int .u64),(5,.int .i64),(6,.int .i64),(7,.int .u64),(8,.int .i64),(21,.sl .byte false),(22,.int .i64),(23,.int .i64)],[],[],0,0,0,[],[]⟩
abbrev Aik:=Int×Int×Int×Int×Int×Int×List UInt8×Int×Int
def Ayt{R:Type}(rec:Aik->Option R)(kx:Ex->Aik->Option R)(v:Aik):Option R:=match v with
 |(v,v1,v2,v3,v4,v5,v6,v7,v8) =>
 cond (decide (v8<v7)) (
  chk (inb v8 v6.length) (
  let j1:=λ(_:Unit) =>
   chk (decide (0<=(wr .i64 (7*v8)))) (
   cond (decide (((at' .byte v6 v8).toNat:Int)<128)) (
    kx .ret (v,(ior .u64 v4 (A38 .u64 (wr .u64 (Gp .u8 ((at' .byte v6 v8).toNat:Int) 127)) (wr .i64 (7*v8)))),(wr .i64 ((wr .i64 (v+v8))+1)),0,(ior .u64 v4 (A38 .u64 (wr .u64 (Gp .u8 ((at' .byte v6 v8).toNat:Int) 127)) (wr .i64 (7*v8)))),v5,v6,v7,v8)) (
    rec (v,v1,v2,v3,(ior .u64 v4 (A38 .u64 (wr .u64 (Gp .u8 ((at' .byte v6 v8).toNat:Int) 127)) (wr .i64 (7*v8)))),v5,v6,v7,(wr .i64 (v8+1)))))
  let j:=λ(p4:Bool) =>
   cond (p4) (
   kx (.exit 0) (v,v1,v2,v3,v4,11,v6,v7,v8)) (
   cond (decide (((at' .byte v6 v8).toNat:Int)=0)) (
    cond (decide (0<v8)) (
    kx (.exit 0) (v,v1,v2,v3,v4,11,v6,v7,v8)) (
    j1 ())) (
    j1 ()))
  cond (decide (v8=9)) (
   j (decide (1<((at' .byte v6 v8).toNat:Int)))) (
   j false))) (
  kx (.exit 0) (v,v1,v2,v3,v4,v5,v6,v7,v8))
def A1t(R:Type)(k:Nat):Px R:=pxO [] [] [(6,Ao k Ama (Ayt))] []
def Amo(k:Nat)(x:HV [.sl .byte false,.int .i64]):Option (HV [.int .u64,.int .i64,.int .i64]):=match x with
 |(b,p) =>
 cond (decide (p<0)) (
  some (0,0,2)) (
  cond (decide ((b.length:Int)<p)) (
  some (0,0,2)) (
  chk (E4 p b.length b.length) (
   Aq (λrec=>Ayt rec (λe vz=>match vz with|(_,a,c,d,_,f,_,_,_)=>match e with
   |.ret =>some (a,c,d)
   |.exit 0 =>some (0,0,f)
   |_=>none)) k (p,0,0,0,0,10,(b.drop (p:Int).toNat),((b.drop (p:Int).toNat).length:Int),0))))
theorem A91(k:Nat):FO 78 [.sl .byte false,.int .i64] [.int .u64,.int .i64,.int .i64] (Amo k):=fR (px:=A1t _ k) (n:=1) Tryz.func78 rfl (λcx H=>by have h0:Lv cx (A1t (HV [.int .u64,.int .i64,.int .i64]) k):=lv H Ae Aa Ab;have hlvget_0:=lO H h0 (b:=lp Tryz.f78 0) (k:=k) (n:=0) (s:=Ama) (step:=Ayt) (λ_ _ _ (_,_,_,_,_,_,_,_,_)=>by kernel_rfl) Ai;exact⟨h0,(Bc Ai hlvget_0)⟩) λ(_,_)=>by kernel_rfl
def Bib(b:Str)(p:Int):Option (Int×Int×Int):=Amo 100 (b,p)
def Axt:FT [.sl .byte false,.int .i64] [.int .u64,.int .i64,.int .i64]:=λx=>Bib x.1 x.2
theorem A1q:FO 78 [.sl .byte false,.int .i64] [.int .u64,.int .i64,.int .i64] Axt :=.fin 0 A91 λ_ _ _ hx=>⟨100,hx⟩
def Bb7(R:Type):Px R:=pxO [(78,cA Axt)] [] [] []
def Ain(x:HV [.sl .byte false,.int .i64]):Option (HV [.sl .byte true,.int .i64,.int .i64]):=match x with
 |(b,p) =>
 (Bib b p).bind λ(x,x1,x2) =>
  cond (!decide (x2=0)) (
  some ([],0,x2)) (
  cond (decide (1048576<x)) (
   some ([],0,3)) (
   cond (decide ((wr .u64 (wr .i64 ((b.length:Int)-x1)))<x)) (
   some ([],0,10)) (
   chk (E4 x1 (wr .i64 (x1+(wr .i64 x))) b.length) (
    chk (decide (0+(cut b x1 (wr .i64 (x1+(wr .i64 x)))).length<=Av)) (
    some (([]++(cut b x1 (wr .i64 (x1+(wr .i64 x))))),(wr .i64 (x1+(wr .i64 x))),0))))))
theorem A6x:FO 79 [.sl .byte false,.int .i64] [.sl .byte true,.int .i64,.int .i64] (Ain):=fR (px:=Bb7 _) (n:=0) Tryz.func79 rfl (λ_ H=>⟨lv H (c1 H A1q Ae) Aa Ab,Ai⟩) λ(_,_)=>by kernel_rfl
def Bgj(b:Str)(p:Int):Option (Str×Int×Int):=Ain (b,p)
def Az0:FT [.sl .byte false,.int .i64] [.sl .byte true,.int .i64,.int .i64]:=λx=>Bgj x.1 x.2
theorem Ba4:FO 79 [.sl .byte false,.int .i64] [.sl .byte true,.int .i64,.int .i64] Az0 :=.fin0 A6x λ_ _ _ hx=>hx
def Aci:Sig:=⟨44,[(0,.sl .byte false),(2,.sl .bytes true),(3,.int .i64),(4,.int .u64),(5,.int .i64),(7,.sl .bytes true)],[],[],0,0,0,[],[]⟩
abbrev U5:=List UInt8×List (List UInt8)×Int×Int×Int×List (List UInt8)
def Aim{R:Type}(rec:U5->Option R)(kx:Ex->U5->Option R)(v:U5):Option R:=match v with
 |(v,v1,v2,v3,v4,v5) =>
 cond (decide (0<v3)) (
  (Bgj v v4).bind λ(x3,x4,x5) =>
  cond (!decide (x5=0)) (
   kx .ret (v,[],x5,v3,v4,v5)) (
   chk (decide (v5.length+1<=Av)) (
   rec (v,v1,v2,(wr .u64 (v3-1)),x4,(v5++[x3]))))) (
  kx (.exit 0) (v,v1,v2,v3,v4,v5))
def Akr(R:Type)(k:Nat):Px R:=pxO [(78,cA Axt),(79,cA Az0)] [] [(5,Ao k Aci (Aim))] []
def Ac2(k:Nat)(x:HV [.sl .byte false]):Option (HV [.sl .bytes true,.int .i64]):=match x with
 |b =>
 (Bib b 0).bind λ(x,x1,x2) =>
  cond (!decide (x2=0)) (
  some ([],x2)) (
  Aq (λrec=>Aim rec (λe vz=>match vz with|(v6,v7,v8,_,a,c)=>match e with
   |.ret =>
   some (v7,v8)
   |.exit 0 =>
   cond (decide (a<(v6.length:Int))) (
    some ([],11)) (
    some (c,0))
   |_=>none)) k (b,[],0,x,x1,[]))
theorem Axb(k:Nat):FO 32 [.sl .byte false] [.sl .bytes true,.int .i64] (Ac2 k):=fR (px:=Akr _ k) (n:=1) Tryz.func32 rfl (λcx H=>by have h0:Lv cx (Akr (HV [.sl .bytes true,.int .i64]) k):=lv H (c1 H A1q (c1 H Ba4 Ae)) Aa Ab;have hlvsplit_0:=lO H h0 (b:=lp Tryz.f32 0) (k:=k) (n:=0) (s:=Aci) (step:=Aim) (λ_ _ _ (_,_,_,_,_,_)=>by kernel_rfl) Ai;exact⟨h0,(Bc Ai hlvsplit_0)⟩) λ_=>by kernel_rfl
def A7n(b:Str):Option (List Str×Int):=Ac2 5000 b
def Asr:FT [.sl .byte false] [.sl .bytes true,.int .i64]:=λx=>A7n x
theorem A39:FO 32 [.sl .byte false] [.sl .bytes true,.int .i64] Asr :=.fin 0 Axb λ_ _ _ hx=>⟨5000,hx⟩
def A92(R:Type):Px R:=pxO [(104,cA Apd),(40,cA Rw),(105,cA Aol),(106,cA Azy)] [] [] []
def Afh(x:HV [.sv .expr,.sl .col false,.sl .val false]):Option (HV [.sv .val,.int .i64]):=match x with
 |(e,cols,row) =>
 cond (!decide ((Abr e)=0)) (
  some ((Val.mk 0 0 []),2)) (
  cond (!(Adc cols row)) (
  some ((Val.mk 0 0 []),2)) (
  cond (!decide ((Cu e cols).2=0)) (
   some ((Val.mk 0 0 []),(Cu e cols).2)) (
   (Aa9 e cols row).bind λ(x,x1) =>
   some (x,x1))))
theorem A6b:FO 42 [.sv .expr,.sl .col false,.sl .val false] [.sv .val,.int .i64] (Afh):=fR (px:=A92 _) (n:=0) Tryz.func42 rfl (λ_ H=>⟨lv H (c1 H Aua (c1 H Ahi (c1 H Atw (c1 H A9d Ae)))) Aa Ab,Ai⟩) λ(_,_,_)=>by kernel_rfl
def Bgl(e:Xpr)(cols:List Col)(row:List Val):Option (Val×Int):=Afh (e,cols,row)
def A07:FT [.sv .expr,.sl .col false,.sl .val false] [.sv .val,.int .i64]:=λx=>Bgl x.1 x.2.1 x.2.2
theorem A8h:FO 42 [.sv .expr,.sl .col false,.sl .val false] [.sv .val,.int .i64] A07 :=.fin0 A6b λ_ _ _ hx=>hx
def Air:Sig:=⟨73,[(1,.sl .val false),(4,.int .i64),(49,.sl .expr false),(50,.int .i64),(51,.int .i64)],[(2,.ptr 0 0)],[(0,.one (.sv .tbl))],1,0,0,[],[]⟩
abbrev Yq:=List Val×Int×List Xpr×Int×Int×Tbl
def Apq{R:Type}(rec:Yq->Option R)(kx:Ex->Yq->Option R)(v:Yq):Option R:=match v with
 |(c,e,b,d,a,w2) =>
 cond (decide (a<d)) (
  chk (inb a b.length) (
  (Bgl (at' .expr b a) w2.cols c).bind λ(x1,x2) =>
   cond (!decide (x2=0)) (
   kx .ret (c,x2,b,d,a,w2)) (
   cond (decide ((A60 x1 (Val.mk 2 0 []))=0)) (
    kx .ret (c,162,b,d,a,w2)) (
    rec (c,e,b,d,(wr .i64 (a+1)),w2))))) (
  kx (.exit 2) (c,e,b,d,a,w2))
def Ahu:Sig:=⟨19,[(0,.sl .str false),(1,.str),(4,.int .i64),(7,.int .i64),(8,.int .i64)],[],[(0,.one (.sv .tbl))],80,80,400,[],[]⟩
abbrev Zp:=List Str×Str×Int×Int×Int×Tbl
def Apc{R:Type}(rec:Zp->Option R)(kx:Ex->Zp->Option R)(v:Zp):Option R:=match v with
 |(v5,v6,v7,v8,v9,w1) =>
 cond (decide (v9<v8)) (
  chk (inb v9 v5.length) (
  cond (decide (v6=(at' .str v5 v9))) (
   kx .ret (v5,v6,v9,v8,v9,w1)) (
   rec (v5,v6,v7,v8,(wr .i64 (v9+1)),w1)))) (
  kx (.exit 0) (v5,v6,v7,v8,v9,w1))
def Afp:Sig:=⟨73,[(1,.sl .val false),(4,.int .i64),(23,.sl .col false),(24,.int .i64),(25,.int .i64)],[(2,.ptr 0 0)],[(0,.one (.sv .tbl))],1,0,0,[],[]⟩
abbrev Aac:=List Val×Int×List Col×Int×Int×Tbl
def Aot{R:Type}(k:Nat)(rec:Aac->Option R)(kx:Ex->Aac->Option R)(v:Aac):Option R:=match v with
 |(v,v1,v2,v3,v4,w) =>
 cond (decide (v4<v3)) (
  chk (inb v4 v2.length) (
  chk (inb v4 v.length) (
   cond (decide ((at' .val v v4).kind=1)) (
   cond ((at' .col v2 v4).notNull) (
    kx .ret (v,161,v2,v3,v4,w)) (
    Aq (λrc=>Apc rc (λe vz=>match vz with|(_,_,b,_,_,a)=>match e with
    |.ret =>
     cond (decide (0<=b)) (
     kx .ret (v,161,v2,v3,v4,a)) (
     rec (v,v1,v2,v3,(wr .i64 (v4+1)),a))
    |.exit 0 =>rec (v,v1,v2,v3,(wr .i64 (v4+1)),a)
    |_=>none)) k (w.key,(at' .col v2 v4).name,0,(w.key.length:Int),0,w))) (
   rec (v,v1,v2,v3,(wr .i64 (v4+1)),w))))) (
  kx (.exit 0) (v,v1,v2,v3,v4,w))
def Yn(R:Type)(k:Nat):Px R:=pxO [] [] [(2,Ao k Ahu (Apc))] []
noncomputable def Ae5(R:Type)(k:Nat):Px R:=pxO [(103,Aw 80 400 (Yn R k) Tryz.f103)] [] [] []
noncomputable def As8(R:Type)(k:Nat):Px R:=pxO [(17,cA K3),(40,cA Rw),(42,cA A07),(43,cA Axw),(41,Aw 40 200 (Ae5 R k) Tryz.f41)] [] [(7,Ao k Afp (Aot k)),(13,Ao k Air (Apq))] []
def Aig(k:Nat)(x:HV [.sv .tbl,.sl .val false]):Option (HV [.int .i64]):=match x with
 |(t,row) =>
 (Mr t).bind λx =>
  cond (!decide (x=0)) (
  some x) (
  cond (!(Adc t.cols row)) (
   some 151) (
   Aq (λrec=>Aot k rec (λe vz=>match vz with|(c,b,_,_,_,a)=>match e with
   |.ret =>some b
   |.exit 0 =>
    Aq (λrec=>Apq rec (λe vz=>match vz with|(_,d,_,_,_,_)=>match e with
    |.ret =>some d
    |.exit 2 =>some 0
    |_=>none)) k (c,b,a.checks,(a.checks.length:Int),0,a)
   |_=>none)) k (row,0,t.cols,(t.cols.length:Int),0,t)))
theorem A34(k:Nat):FO 14 [.sv .tbl,.sl .val false] [.int .i64] (Aig k):=fR (px:=As8 _ k) (n:=2) Tryz.func14 rfl (λcx H=>by have h2:Lv cx (Yn (HV [.int .i64]) k):=lv H Ae Aa Ab;have hlsfits_1:=lO H h2 (b:=lp Tryz.f103 0) (k:=k) (n:=0) (s:=Ahu) (step:=Apc) (λ_ _ _ (_,_,_,_,_,_)=>by kernel_rfl) Ai;have h1:Lv cx (Ae5 (HV [.int .i64]) k):=lv H (An (cR H h2 Tryz.func103 rfl (n:=1) ((Bc Ai hlsfits_1))) Ae) Aa Ab;have h0:Lv cx (As8 (HV [.int .i64]) k):=lv H (c1 H Ry (c1 H Ahi (c1 H A8h (c1 H A1w (An (cR H h1 Tryz.func41 rfl (n:=0) (Ai)) Ae))))) Aa Ab;have hlsfits_0:=lO H h0 (b:=lp Tryz.f14 0) (k:=k) (n:=0) (s:=Afp) (step:=Aot k) (λ_ _ _ (_,_,_,_,_,_)=>by kernel_rfl) Ai;have hlsfits_2:=lO H h0 (b:=lp Tryz.f14 1) (k:=k) (n:=0) (s:=Air) (step:=Apq) (λ_ _ _ (_,_,_,_,_,_)=>by kernel_rfl) Ai;exact⟨h0,(Bc (Bc Ai hlsfits_0) hlsfits_2)⟩) λ(_,_)=>by kernel_rfl
def A11(t:Tbl)(row:List Val):Option Int:=Aig 5000 (t,row)
def Azs:FT [.sv .tbl,.sl .val false] [.int .i64]:=λx=>A11 x.1 x.2
theorem A8q:FO 14 [.sv .tbl,.sl .val false] [.int .i64] Azs :=.fin 0 A34 λ_ _ _ hx=>⟨5000,hx⟩
def Amm:Sig:=⟨48,[(7,.sl .bytes true),(27,.sl .idx false),(28,.int .i64),(29,.int .i64)],[(1,.ptr 0 0)],[(0,.one (.sv .tbl))],1,0,0,[],[]⟩
abbrev Aih:=List (List UInt8)×List Idx×Int×Int×Tbl
def Awr{R:Type}(rec:Aih->Option R)(kx:Ex->Aih->Option R)(v:Aih):Option R:=match v with
 |(v,v1,v2,v3,w) =>
 cond (decide (v3<v2)) (
  chk (inb v3 v1.length) (
  (Aho (Fl w (at' .idx v1 v3))).bind λ(x3,_) =>
   chk (decide (x3.length<=Av)) (
   chk (decide (v.length+1<=Av)) (
    rec ((v++[x3]),v1,v2,(wr .i64 (v3+1)),w))))) (
  kx (.exit 0) (v,v1,v2,v3,w))
def A0z(R:Type)(k:Nat):Px R:=pxO [(17,cA K3),(25,cA An8),(24,cA Atk),(26,cA Afz),(27,cA A2e)] [] [(7,Ao k Amm (Awr))] []
def Akn(k:Nat)(x:HV [.sv .tbl]):Option (HV [.sl .byte true,.int .i64]):=match x with
 |t =>
 (Mr t).bind λx =>
  cond (!decide (x=0)) (
  some ([],x)) (
  (Aho (E3 t)).bind λ(x1,_) =>
   chk (decide (x1.length<=Av)) (
   Aq (λrec=>Awr rec (λe vz=>match vz with|(v4,_,_,_,_)=>match e with
    |.exit 0 =>
    (Bgs v4).bind λx5 =>some (x5,0)
    |_=>none)) k ([x1],t.idx,(t.idx.length:Int),0,t)))
theorem A70(k:Nat):FO 8 [.sv .tbl] [.sl .byte true,.int .i64] (Akn k):=fR (px:=A0z _ k) (n:=1) Tryz.func8 rfl (λcx H=>by have h0:Lv cx (A0z (HV [.sl .byte true,.int .i64]) k):=lv H (c1 H Ry (c1 H Ari (c1 H A62 (c1 H Aka (c1 H Baj Ae))))) Aa Ab;have hlsenc_0:=lO H h0 (b:=lp Tryz.f8 0) (k:=k) (n:=0) (s:=Amm) (step:=Awr) (λ_ _ _ (_,_,_,_,_)=>by kernel_rfl) Ai;exact⟨h0,(Bc Ai hlsenc_0)⟩) λ_=>by kernel_rfl
def Bhm(t:Tbl):Option (Str×Int):=Akn 5000 t
def Avb:FT [.sv .tbl] [.sl .byte true,.int .i64]:=λx=>Bhm x
theorem A1f:FO 8 [.sv .tbl] [.sl .byte true,.int .i64] Avb :=.fin 0 A70 λ_ _ _ hx=>⟨5000,hx⟩
def Akm:Sig:=⟨77,[(0,.sl .byte false),(3,.int .i64),(23,.sl .bytes true),(24,.int .i64),(25,.int .i64)],[(2,.ptr 0 0),(6,.ptr 1 0)],[(0,.one (.sv .tbl)),(1,.one (.sv .tbl))],2,0,0,[],[]⟩
abbrev Agn:=List UInt8×Int×List (List UInt8)×Int×Int×Tbl×Tbl
def Ayi{R:Type}(rec:Agn->Option R)(kx:Ex->Agn->Option R)(v:Agn):Option R:=match v with
 |(v,v1,v2,v3,v4,w,w1) =>
 cond (decide (v4<v3)) (
  chk (inb v4 v2.length) (
  (Bgo (at' .bytes v2 v4)).bind λ(x2,_,x4) =>
   let j:=λ(p1:Bool) =>
   cond (p1) (
    (Amg x2).bind λ(x5,x6) =>
    cond (!decide (x6=0)) (
     kx .ret (v,11,v2,v3,v4,(Tbl.mk [] [] [] [] []),x5)) (
     rec (v,v1,v2,v3,(wr .i64 (v4+1)),w,x5))) (
    cond (decide (x4=0)) (
    (Kc w1 x2).bind λ(x7,x8) =>
     cond (!decide (x8=0)) (
     kx .ret (v,11,v2,v3,v4,(Tbl.mk [] [] [] [] []),x7)) (
     rec (v,v1,v2,v3,(wr .i64 (v4+1)),w,x7))) (
    cond (!decide (x4=0)) (
     kx .ret (v,11,v2,v3,v4,(Tbl.mk [] [] [] [] []),w1)) (
     rec (v,v1,v2,v3,(wr .i64 (v4+1)),w,w1))))
   cond (decide (v4=0)) (
   j (decide (x4=0))) (
   j false))) (
  kx (.exit 0) (v,v1,v2,v3,v4,w,w1))
def A2o(R:Type)(k:Nat):Px R:=pxO [(32,cA Asr),(33,cA Az3),(34,cA Adl),(35,cA Wq),(8,cA Avb)] [] [(6,Ao k Akm (Ayi))] []
def Ajs(k:Nat)(x:HV [.sl .byte false]):Option (HV [.sv .tbl,.int .i64]):=match x with
 |b =>
 (A7n b).bind λ(x,x1) =>
  cond (!decide (x1=0)) (
  some ((Tbl.mk [] [] [] [] []),11)) (
  Aq (λrec=>Ayi rec (λe vz=>match vz with|(v5,v6,_,_,_,c,a)=>match e with
   |.ret =>
   some (c,v6)
   |.exit 0 =>
   (Bhm a).bind λ(x9,d) =>
    cond (!decide (d=0)) (
    some ((Tbl.mk [] [] [] [] []),11)) (
    cond (!decide (x9=v5)) (
     some ((Tbl.mk [] [] [] [] []),11)) (
     some (a,0)))
   |_=>none)) k (b,0,x,(x.length:Int),0,(Tbl.mk [] [] [] [] []),(Tbl.mk [] [] [] [] [])))
theorem Ba8(k:Nat):FO 10 [.sl .byte false] [.sv .tbl,.int .i64] (Ajs k):=fR (px:=A2o _ k) (n:=1) Tryz.func10 rfl (λcx H=>by have h0:Lv cx (A2o (HV [.sv .tbl,.int .i64]) k):=lv H (c1 H A39 (c1 H A9z (c1 H At9 (c1 H Ae9 (c1 H A1f Ae))))) Aa Ab;have hlsdec_0:=lO H h0 (b:=lp Tryz.f10 0) (k:=k) (n:=0) (s:=Akm) (step:=Ayi) (λ_ _ _ (_,_,_,_,_,_,_)=>by kernel_rfl) Ai;exact⟨h0,(Bc Ai hlsdec_0)⟩) λ_=>by kernel_rfl
def Bix(b:Str):Option (Tbl×Int):=Ajs 5000 b
def Bcu:FT [.sl .byte false] [.sv .tbl,.int .i64]:=λx=>Bix x
theorem Bfc:FO 10 [.sl .byte false] [.sv .tbl,.int .i64] Bcu :=.fin 0 Ba8 λ_ _ _ hx=>⟨5000,hx⟩
def hd(q:List Int)(i:Nat):Int:=q.getD i 0
open Lp (isUp isLo isDi isIn pre wordF unGo hexD)
end Go.Proofs.YtbkinkalnmbpjaaGreatDoor
namespace Go.Proofs.YtbkinkalnmbpjaaGreatDoor
open Go.Ax
section
variable {α:Type}(f : α->Str) (P : α->Prop) (D:Str->Prop)
end
end Go.Proofs.YtbkinkalnmbpjaaGreatDoor
