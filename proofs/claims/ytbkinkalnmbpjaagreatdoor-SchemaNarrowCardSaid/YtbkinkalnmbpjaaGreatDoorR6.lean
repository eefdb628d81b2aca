/- Texts of the proof,one behind the other: Lz,Pg,Ph,Pj,Bw,Shj,Sj,Wr,Ws,Pi,Sf,Ob,Oq,Vc,Da. -/
import Derived.Test.YtbkinkalnmbpjaaGreatDoorR5
import Derived.Lib.Walk
import Derived.Lib.Strings
import Derived.Lib.Slices
import Derived.Lib.Builder
import Derived.Lib.UnsafeStr
import Derived.Lib.FrozenHead
import Derived.Laws.Externs
import Derived.Shelf.RegionOpenPlain
import Derived.Shelf.Strings.OnBuilder
set_option linter.all false
namespace Go.Proofs.YtbkinkalnmbpjaaGreatDoor
open Go.Ax
def S8:Sig:=⟨21,[(0,.str),(1,.int .i64)],[(2,.fn 236 [])],[(0,.one (.sv .tok)),(1,.one (.sv .tok))],40,40,200,[],[]⟩
abbrev Gj:=Str×Int×Tok×Tok
def Jt{R:Type}(rec:Gj->Option R)(kx:Ex->Gj->Option R)(v:Gj):Option R:=match v with
 |(a,b,w4,w5) =>
 cond (decide (b<(a.length:Int))) (
  chk (inb b a.length) (
  cond ((Aaj (bat a b))) (
   rec (a,(wr .i64 (b+1)),w4,w5)) (
   kx (.exit 0) (a,b,w4,w5)))) (
  kx (.exit 0) (a,b,w4,w5))
def Ru:Sig:=⟨21,[(0,.str),(1,.int .i64)],[(2,.fn 183 [])],[(0,.one (.sv .tok)),(1,.one (.sv .tok))],40,40,200,[],[]⟩
abbrev Gb:=Str×Int×Tok×Tok
def J7{R:Type}(rec:Gb->Option R)(kx:Ex->Gb->Option R)(v:Gb):Option R:=match v with
 |(v6,v7,w2,w3) =>
 cond (decide (v7<(v6.length:Int))) (
  chk (inb v7 v6.length) (
  cond ((Af8 (bat v6 v7))) (
   rec (v6,(wr .i64 (v7+1)),w2,w3)) (
   kx (.exit 0) (v6,v7,w2,w3)))) (
  kx (.exit 0) (v6,v7,w2,w3))
def Re:Sig:=⟨21,[(0,.str),(1,.int .i64)],[(2,.fn 246 [])],[(0,.one (.sv .tok)),(1,.one (.sv .tok))],40,40,200,[],[]⟩
abbrev Gh:=Str×Int×Tok×Tok
def J1{R:Type}(rec:Gh->Option R)(kx:Ex->Gh->Option R)(v:Gh):Option R:=match v with
 |(v,v1,w,w1) =>
 cond (decide (v1<(v.length:Int))) (
  chk (inb v1 v.length) (
  cond ((Agj (bat v v1))) (
   rec (v,(wr .i64 (v1+1)),w,w1)) (
   kx (.exit 0) (v,v1,w,w1)))) (
  kx (.exit 0) (v,v1,w,w1))
def Gz(R:Type)(k:Nat):Px R:=pxO [(246,cA Ais),(183,cA Aiu),(236,cA Ah5)] [] [(1,Ack k Re (J1) (Ack k Ru (J7) (Am k S8 (Jt))))] []
noncomputable def Att(R:Type)(k:Nat):Px R:=pxO [(244,cA A8s),(203,cA Ahx),(245,cA Ayu),(246,cA Ais),(247,cA Bc7),(248,cA Ayt),(181,cA Aik),(113,cA O9),(236,cA Ah5),(249,cA Ani),(250,cA Ao4),(226,cA Apt),(251,cA Avx),(182,A2 40 200 (Gz R k) Tryz.f182)] [] [] []
theorem A3h(R:Type)(k:Nat):∀(fr:List Fr) (rec:Gh->Option R) (kx:Ex->Gh->Option R) (v:Gh),Tp (Gz R k) Re (lp Tryz.f182 0) fr rec kx v=J1 rec kx v
 |fr,rec,kx,(v,v1,w,w1)=>by kernel_rfl
theorem A04(R:Type)(k:Nat):∀(fr:List Fr) (rec:Gb->Option R) (kx:Ex->Gb->Option R) (v:Gb),Tp (Gz R k) Ru (lp Tryz.f182 0) fr rec kx v=J7 rec kx v
 |fr,rec,kx,(v6,v7,w2,w3)=>by kernel_rfl
theorem A4o(R:Type)(k:Nat):∀(fr:List Fr) (rec:Gj->Option R) (kx:Ex->Gj->Option R) (v:Gj),Tp (Gz R k) S8 (lp Tryz.f182 0) fr rec kx v=Jt rec kx v
 |fr,rec,kx,(a,b,w4,w5)=>by kernel_rfl
def Rl(k:Nat)(x:HV [.str,.int .i64]):Option (HV [.sv .tok,.int .i64]):=match x with
 |(s,i) =>
 chk (inb i s.length) (
  chk (Ev i s.length s.length) (
  cond ((hpre (s.drop (i:Int).toNat) [120,39])) (
   chk (Ev (wr .i64 (i+2)) s.length s.length) (
   cond (decide ((Ks (s.drop ((wr .i64 (i+2)):Int).toNat) 39)<0)) (
    some ((Tok.mk 0 i [] 0),(-1))) (
    chk (Ev (wr .i64 (i+2)) (wr .i64 ((wr .i64 (i+2))+(Ks (s.drop ((wr .i64 (i+2)):Int).toNat) 39))) s.length) (
    (Bba (cut s (wr .i64 (i+2)) (wr .i64 ((wr .i64 (i+2))+(Ks (s.drop ((wr .i64 (i+2)):Int).toNat) 39))))).bind λ(x,x1) =>
     cond (!decide (x1=0)) (
     some ((Tok.mk 5 i x 0),(-1))) (
     cond (decide (1000<(x.length:Int))) (
      some ((Tok.mk 5 i x 0),(-1))) (
      some ((Tok.mk 5 i x 0),(wr .i64 ((wr .i64 (i+3))+(Ks (s.drop ((wr .i64 (i+2)):Int).toNat) 39)))))))))) (
   cond ((Agj (bat s i))) (
   Al (λrec=>J1 rec (λe vz=>match vz with|(_,v3,_,v5)=>match e with
    |.exit 0 =>
    chk (Ev i v3 s.length) (
     cond (!(Auf (cut s i v3))) (
     some ((Tok.mk 1 v5.pos (cut s i v3) v5.n),(-1))) (
     (Wv s v3).bind λx2 =>
      cond (!x2) (
      some ((Tok.mk 1 v5.pos (cut s i v3) v5.n),(-1))) (
      some ((Tok.mk 1 v5.pos (cut s i v3) v5.n),v3))))
    |_=>none)) k (s,i,(Tok.mk 0 0 [] 0),(Tok.mk 0 i [] 0))) (
   cond ((Abm (bat s i))) (
    Al (λrec=>J7 rec (λe vz=>match vz with|(_,v9,_,b)=>match e with
    |.exit 0 =>
     chk (Ev i v9 s.length) (
     cond (!(Df (cut s i v9))) (
      some ((Tok.mk 2 b.pos (cut s i v9) b.n),(-1))) (
      (Wv s v9).bind λx3 =>
      cond (!x3) (
       some ((Tok.mk 2 b.pos (cut s i v9) b.n),(-1))) (
       some ((Tok.mk 2 b.pos (cut s i v9) b.n),v9))))
    |_=>none)) k (s,i,(Tok.mk 0 0 [] 0),(Tok.mk 0 i [] 0))) (
    cond ((Aaj (bat s i))) (
    Al (λrec=>Jt rec (λe vz=>match vz with|(_,a,_,c)=>match e with
     |.exit 0 =>
     chk (Ev i a s.length) (
      (Awt (cut s i a)).bind λ(x4,x5) =>
      chk (Ev i a s.length) (
       cond (!x5) (
       some ((Tok.mk 3 c.pos (cut s i a) x4),(-1))) (
       (Wv s a).bind λx6 =>
        cond (!x6) (
        some ((Tok.mk 3 c.pos (cut s i a) x4),(-1))) (
        some ((Tok.mk 3 c.pos (cut s i a) x4),a)))))
     |_=>none)) k (s,i,(Tok.mk 0 0 [] 0),(Tok.mk 0 i [] 0))) (
    cond (decide ((bat s i)=39)) (
     (Aw1 s (wr .i64 (i+1))).bind λ(x7,x8) =>
     cond (!decide ((Ei (Val.mk 4 0 x7))=0)) (
      some ((Tok.mk 4 i x7 0),(-1))) (
      some ((Tok.mk 4 i x7 0),x8))) (
     chk (Ev i s.length s.length) (
     (Bnf (s.drop (i:Int).toNat)).bind λx9 =>
      chk (Ev i (wr .i64 (i+x9)) s.length) (
      cond (decide (x9=0)) (
       some ((Tok.mk 6 i (cut s i (wr .i64 (i+x9))) 0),(-1))) (
       some ((Tok.mk 6 i (cut s i (wr .i64 (i+x9))) 0),(wr .i64 (i+x9)))))))))))))
theorem A5t(k:Nat):FO 204 [.str,.int .i64] [.sv .tok,.int .i64] (Rl k):=fR (px:=Att _ k) (n:=0) Tryz.func204 rfl (λcx H=>by have h1:Lv cx (Gz (HV [.sv .tok,.int .i64]) k):=lv H (c1 H Aon (c1 H Akc (c1 H Aiy Ae))) Ab Aa;have hlltoken_0:Cl cx (Gz (HV [.sv .tok,.int .i64]) k) (lp Tryz.f182 0):=Ba2 (λ_ _=>by kernel_rfl) (Aer (S5 h1.p h1.c h1.q (by rw[H.p];exact follows) (k:=k) (s:=Re) (step:=J1) (by kernel_rfl) (A3h _ k) (Ke (n:=0) (by kernel_rfl) Ah)) (Aer (S5 h1.p h1.c h1.q (by rw[H.p];exact follows) (k:=k) (s:=Ru) (step:=J7) (by kernel_rfl) (A04 _ k) (Ke (n:=0) (by kernel_rfl) Ah)) (S5 h1.p h1.c h1.q (by rw[H.p];exact follows) (k:=k) (s:=S8) (step:=Jt) (by kernel_rfl) (A4o _ k) (Ke (n:=0) (by kernel_rfl) Ah))));have h0:Lv cx (Att (HV [.sv .tok,.int .i64]) k):=lv H (c1 H Bc5 (c1 H Amv (c1 H Bkg (c1 H Aon (c1 H Bm2 (c1 H Bm4 (c1 H Akk (c1 H Tg (c1 H Aiy (c1 H Bim (c1 H Bja (c1 H Asd (c1 H Bp6 (Az (cR H h1 Tryz.func182 rfl (n:=1) ((A5 Ah hlltoken_0))) Ae)))))))))))))) Ab Aa;exact⟨h0,Ah⟩) λ(_,_)=>by kernel_rfl
def Aeh(s:Str)(i:Int):Option (Tok×Int):=if s.length<=20000 then Rl 20001 (s,i) else none
def Apb:FT [.str,.int .i64] [.sv .tok,.int .i64]:=λx=>Aeh x.1 x.2
theorem Bd0:FO 204 [.str,.int .i64] [.sv .tok,.int .i64] Apb :=.fin 0 A5t λ(s,i) r hb hx=>⟨20001,by
 simp only[Apb,Aeh] at hx;split at hx
 ·exact hx
 ·cases hx⟩
theorem W3{R:Type}{kx:Ex->Gh->Option R}{s:Str}(w w1:Tok){a:Int->Option R}(hs:ln s.length)(h1:∀j,kx (.exit 0) (s,j,w,w1)=a j):∀(k i:Nat),i<=s.length->s.length-i<k->Al (λrec=>J1 rec kx) k (s,(i:Int),w,w1)=a (Lp.runTo Lp.isUp s i)
 |0,i,_,h=>absurd h (Zm1 _)
 |k+1,i,hi,h=>by
  rw[Bb];by_cases hl:i<s.length
  ·have ih:=W3 w w1 hs h1 k (i+1) (by omega) (by omega);have eb:Sx.byt s (i:Int)=(s[i].toNat:Int):=Ct hl;simp only[J1,Au hl hs,ih,h1,Ct hl,Aw hl,Aks];rw[Ze1 (show(i:Int)<(s.length:Int) by omega)];cases hp:Lp.isUp (s[i].toNat:Int) with|true =>have:=Lp.runTo_yes (p:=Lp.isUp) (l:=s) (j:=i) (by omega) (by rw[eb];exact hp);rw[<-this];rfl|false =>have:=Lp.runTo_no (p:=Lp.isUp) (l:=s) (j:=i) (by omega) (by rw[eb];exact hp);rw[this];rfl
  ·have:=Lp.runTo_end (p:=Lp.isUp) (l:=s) (j:=i) (by omega);simp only[J1,h1];rw[Zd1 (by omega),this];rfl
theorem W9{R:Type}{kx:Ex->Gb->Option R}{s:Str}(w w1:Tok){a:Int->Option R}(hs:ln s.length)(h1:∀j,kx (.exit 0) (s,j,w,w1)=a j):∀(k i:Nat),i<=s.length->s.length-i<k->Al (λrec=>J7 rec kx) k (s,(i:Int),w,w1)=a (Lp.runTo Lp.isIn s i)
 |0,i,_,h=>absurd h (Zm1 _)
 |k+1,i,hi,h=>by
  rw[Bb];by_cases hl:i<s.length
  ·have ih:=W9 w w1 hs h1 k (i+1) (by omega) (by omega);have eb:Sx.byt s (i:Int)=(s[i].toNat:Int):=Ct hl;simp only[J7,Au hl hs,ih,h1,Ct hl,Aw hl,Amo];rw[Ze1 (show(i:Int)<(s.length:Int) by omega)];cases hp:Lp.isIn (s[i].toNat:Int) with|true =>have:=Lp.runTo_yes (p:=Lp.isIn) (l:=s) (j:=i) (by omega) (by rw[eb];exact hp);rw[<-this];rfl|false =>have:=Lp.runTo_no (p:=Lp.isIn) (l:=s) (j:=i) (by omega) (by rw[eb];exact hp);rw[this];rfl
  ·have:=Lp.runTo_end (p:=Lp.isIn) (l:=s) (j:=i) (by omega);simp only[J7,h1];rw[Zd1 (by omega),this];rfl
theorem W4{R:Type}{kx:Ex->Gj->Option R}{s:Str}(w w1:Tok){a:Int->Option R}(hs:ln s.length)(h1:∀j,kx (.exit 0) (s,j,w,w1)=a j):∀(k i:Nat),i<=s.length->s.length-i<k->Al (λrec=>Jt rec kx) k (s,(i:Int),w,w1)=a (Lp.runTo Lp.isDi s i)
 |0,i,_,h=>absurd h (Zm1 _)
 |k+1,i,hi,h=>by
  rw[Bb];by_cases hl:i<s.length
  ·have ih:=W4 w w1 hs h1 k (i+1) (by omega) (by omega);have eb:Sx.byt s (i:Int)=(s[i].toNat:Int):=Ct hl;simp only[Jt,Au hl hs,ih,h1,Ct hl,Aw hl,Apc];rw[Ze1 (show(i:Int)<(s.length:Int) by omega)];cases hp:Lp.isDi (s[i].toNat:Int) with|true =>have:=Lp.runTo_yes (p:=Lp.isDi) (l:=s) (j:=i) (by omega) (by rw[eb];exact hp);rw[<-this];rfl|false =>have:=Lp.runTo_no (p:=Lp.isDi) (l:=s) (j:=i) (by omega) (by rw[eb];exact hp);rw[this];rfl
  ·have:=Lp.runTo_end (p:=Lp.isDi) (l:=s) (j:=i) (by omega);simp only[Jt,h1];rw[Zd1 (by omega),this];rfl
theorem X9{i j:Int}{n:Nat}(h : 0<=i/\i<=j/\j<=n):Ev i j n=true:=by simp[Ev,h]
theorem A8n{n:Int}(h : 0<=n/\n<=1000000):wr .i64 n=n:=Bf (by simp only[inI];omega)
theorem Bi3{x:Str}(h:x≠[]):Awt x=some (Bnj x):=by cases x with|nil=>exact absurd rfl h|cons b l=>rfl
theorem Bkw{x:Str}(h:x≠[]):Bnf x=some (Lp.signF x):=by cases x with|nil=>exact absurd rfl h|cons b l=>rfl
theorem Ajt{s:Str}{i:Int}(h : 0<=i/\i<=s.length):Wv s i=some (Lp.aloneF s i):=if_pos h
theorem A73(x:Str):H2 x=Lp.visF x:=by
 have e:∀b:UInt8,vis b=Lp.vis (b.toNat:Int):=λb=>by simp only[vis,Lp.vis];rw[show decide (32<=b.toNat)=decide (32<=(b.toNat:Int)) from Zy1.2 (by omega),show decide (b.toNat<=126)=decide ((b.toNat:Int)<=126) from Zy1.2 (by omega)]
 simp only[H2,Lp.visF];congr 1;funext b;exact e b
theorem A1u(x:Str):Bo (Val.mk 4 0 x)=Lp.rightF 4 0 x:=by show cond (decide ((x.length:Int)<=1000)) (H2 x) false=(decide ((x.length:Int)<=1000)&&Lp.visF x);rw[A73];cases decide ((x.length:Int)<=1000)<;>rfl
theorem Azx(x:Str):decide (Ei (Val.mk 4 0 x)=0)=Lp.rightF 4 0 x:=by
 have key:∀b:Bool,decide (cond (!b) (2:Int) 0=0)=b:=by decide
 rw[<-A1u];exact key _
theorem A7m{s:Str}{i:Int}(hl : 0<=i/\i<s.length)(hs:s.length<=20000):match Lp.tokF s i with
  |some (k,x,n,e)=>Aeh s i=some (⟨k,i,x,n⟩,e)
  |none=>∃t,Aeh s i=some (t, -1):=by
 have hln:ln s.length:=by simp only[ln];omega
 have hd:(s.drop i.toNat).length=s.length-i.toNat:=Za2;have hd2:(s.drop (i+2).toNat).length=s.length-(i+2).toNat:=Za2;have hne:s.drop i.toNat≠[]:=List.ne_nil_of_length_pos (by omega);obtain⟨m,rfl⟩:=Int.eq_ofNat_of_zero_le hl.1;have hm:m<s.length:=by omega
 have ep:∀p q,hpre p q=Lp.pre p q:=λ_ _=>rfl;have eb:bat s (m:Int)=Sx.byt s (m:Int):=rfl;have e39:Ks (s.drop ((m:Int)+2).toNat) 39=Lib.indexByte (s.drop ((m:Int)+2).toNat) 39:=rfl;simp only[Aeh,if_pos hs,Rl,Aw hm,X9 (show 0<=(m:Int)/\(m:Int)<=(s.length:Int)/\(s.length:Int)<=s.length by omega),ep,eb,Aks,Ai8,Apc,chk,Af,Lp.tokF,A8n (show 0<=(m:Int)+2/\(m:Int)+2<=1000000 by omega),A8n (show 0<=(m:Int)+3/\(m:Int)+3<=1000000 by omega),A8n (show 0<=(m:Int)+1/\(m:Int)+1<=1000000 by omega)];cases hx:Lp.pre (s.drop (m:Int).toNat) [120,39] with
 |true =>
  have h2 : 2<=(s.drop (m:Int).toNat).length:=by simp only[Lp.pre,Zb1,Zg1,Zf1,Zi1] at hx;omega
  have hib:=Lp.indexByte_in (s.drop ((m:Int)+2).toNat) 39;simp only[if_true,Af];rw[X9 (show 0<=(m:Int)+2/\(m:Int)+2<=(s.length:Int)/\(s.length:Int)<=s.length by omega),e39,Af];generalize Lib.indexByte (s.drop ((m:Int)+2).toNat) 39=z at hib ⊢;by_cases hz:z<0
  ·rw[if_pos hz,Ze1 hz];exact⟨_,rfl⟩
  ·rw[if_neg hz,Zd1 hz,A8n (show 0<=(m:Int)+2+z/\(m:Int)+2+z<=1000000 by omega),A8n (show 0<=(m:Int)+3+z/\(m:Int)+3+z<=1000000 by omega),X9 (show 0<=(m:Int)+2/\(m:Int)+2<=(m:Int)+2+z/\(m:Int)+2+z<=s.length by omega),Ag,Af];have hcl:=Lp.cut_length s ((m:Int)+2) ((m:Int)+2+z) (by omega);have ec:cut s ((m:Int)+2) ((m:Int)+2+z)=Sx.cut s ((m:Int)+2) ((m:Int)+2+z):=rfl;rw[ec];generalize Sx.cut s ((m:Int)+2) ((m:Int)+2+z)=y at hcl ⊢;have eu:Bba y=some (unP y):=if_pos (by omega);rw[eu,unP];cases (if y.length % 2=0 then Lp.unGo y [] else none) with
   |none=>exact⟨_,rfl⟩
   |some b =>
    by_cases hb : 1000<(b.length:Int)
    ·simp only[Zc1];rw[if_pos hb,Ze1 hb];exact⟨_,rfl⟩
    ·simp only[Zc1];rw[if_neg hb,Zd1 hb];rfl
 |false =>
  simp only[Ag,Zj2,if_false];cases hu:Lp.isUp (Sx.byt s (m:Int)) with
  |true =>
   have hr:=Lp.runTo_range Lp.isUp s m (by omega);simp only[Af,if_true];rw[W3 (s:=s) (w:=Tok.mk 0 0 [] 0) (w1:=Tok.mk 0 m [] 0) (a:=λv3=>cond (Ev (m:Int) v3 s.length) (cond (!(Auf (cut s m v3))) (some ((Tok.mk 1 m (cut s m v3) 0),(-1))) ((Wv s v3).bind λx2=>cond (!x2) (some ((Tok.mk 1 m (cut s m v3) 0),(-1))) (some ((Tok.mk 1 m (cut s m v3) 0),v3)))) none) hln (λ_=>rfl) 20001 m (by omega) (by omega)];rw[X9 (by omega),Ajt (by omega),Boj];have ec:cut s (m:Int) (Lp.runTo Lp.isUp s m)=Sx.cut s (m:Int) (Lp.runTo Lp.isUp s m):=rfl;rw[ec];cases Lp.wordF (Sx.cut s (m:Int) (Lp.runTo Lp.isUp s m)) with
   |false=>exact⟨_,rfl⟩
   |true =>cases Lp.aloneF s (Lp.runTo Lp.isUp s m) with|false=>exact⟨_,rfl⟩|true=>rfl
  |false =>
   simp only[Ag,Zj2,if_false];cases hu2:Lp.isLo (Sx.byt s (m:Int)) with
   |true =>
    have hr:=Lp.runTo_range Lp.isIn s m (by omega);simp only[Af,if_true];rw[W9 (s:=s) (w:=Tok.mk 0 0 [] 0) (w1:=Tok.mk 0 m [] 0) (a:=λv3=>cond (Ev (m:Int) v3 s.length) (cond (!(Df (cut s m v3))) (some ((Tok.mk 2 m (cut s m v3) 0),(-1))) ((Wv s v3).bind λx2=>cond (!x2) (some ((Tok.mk 2 m (cut s m v3) 0),(-1))) (some ((Tok.mk 2 m (cut s m v3) 0),v3)))) none) hln (λ_=>rfl) 20001 m (by omega) (by omega)];rw[X9 (by omega),Ajt (by omega)];have ec:cut s (m:Int) (Lp.runTo Lp.isIn s m)=Sx.cut s (m:Int) (Lp.runTo Lp.isIn s m):=rfl;rw[ec];simp only[Df];cases Lp.nameF (Sx.cut s (m:Int) (Lp.runTo Lp.isIn s m)) with
    |false=>exact⟨_,rfl⟩
    |true =>cases Lp.aloneF s (Lp.runTo Lp.isIn s m) with|false=>exact⟨_,rfl⟩|true=>rfl
   |false =>
    simp only[Ag,Zj2,if_false];cases hu3:Lp.isDi (Sx.byt s (m:Int)) with
    |true =>
     have hr:=Lp.runTo_range Lp.isDi s m (by omega);have hg:=Lp.runTo_gt (p:=Lp.isDi) (by omega) hu3;have hcl:=Lp.cut_length s (m:Int) (Lp.runTo Lp.isDi s m) (by omega);simp only[Af,if_true];rw[W4 (s:=s) (w:=Tok.mk 0 0 [] 0) (w1:=Tok.mk 0 m [] 0) (a:=λv3=>cond (Ev (m:Int) v3 s.length) ((Awt (cut s m v3)).bind λ(x4,x5)=>cond (Ev (m:Int) v3 s.length) (cond (!x5) (some ((Tok.mk 3 m (cut s m v3) x4),(-1))) ((Wv s v3).bind λx6=>cond (!x6) (some ((Tok.mk 3 m (cut s m v3) x4),(-1))) (some ((Tok.mk 3 m (cut s m v3) x4),v3)))) none) none) hln (λ_=>rfl) 20001 m (by omega) (by omega)];have ec:cut s (m:Int) (Lp.runTo Lp.isDi s m)=Sx.cut s (m:Int) (Lp.runTo Lp.isDi s m):=rfl;rw[X9 (by omega),Ajt (by omega),ec];generalize Sx.cut s (m:Int) (Lp.runTo Lp.isDi s m)=y at hcl ⊢;rw[Bi3 (List.ne_nil_of_length_pos (by omega)),Bnj];cases Lp.numGo y 0 with
     |none=>exact⟨_,rfl⟩
     |some n =>
      simp only[Zc1,Af];have e0:(decide (y=[48]) || !decide (bat y 0=48))=(decide (y=[48])||Sx.byt y 0 != 48):=rfl;rw[e0];cases (decide (y=[48])||Sx.byt y 0 != 48) with
      |false=>exact⟨_,rfl⟩
      |true =>cases Lp.aloneF s (Lp.runTo Lp.isDi s m) with|false=>exact⟨_,rfl⟩|true=>rfl
    |false =>
     simp only[Ag,Zj2,if_false];by_cases h39:Sx.byt s (m:Int)=39
     ·have hqi:=Lp.qGo_in _ (s.drop ((m:Int)+1).toNat) [] ((m:Int)+1) (Zn1 _) (by omega);have eq:Aw1 s ((m:Int)+1)=some (Lp.qGo (s.drop ((m:Int)+1).toNat) [] ((m:Int)+1)):=if_pos (by omega);rw[Ze1 h39,if_pos h39,eq];simp only[Af,Zc1,Azx];generalize Lp.qGo (s.drop ((m:Int)+1).toNat) [] ((m:Int)+1)=q at hqi ⊢;obtain⟨y,z⟩:=q;cases Lp.rightF 4 0 y with
      |false=>exact⟨_,rfl⟩
      |true =>
       simp only[if_true,Zt1,Ag];by_cases hz:z<0
       ·rw[if_pos hz];obtain rfl:z = -1:=by simp only at hqi;omega
        exact⟨_,rfl⟩
       ·rw[if_neg hz]
     ·have hsi:=Lp.signF_in (s.drop (m:Int).toNat) (by omega);rw[Zd1 h39,if_neg h39,Bkw hne];simp only[Ag,Zc1];generalize Lp.signF (s.drop (m:Int).toNat)=z at hsi ⊢;rw[A8n (show 0<=(m:Int)+z/\(m:Int)+z<=1000000 by omega),X9 (by omega)];by_cases hz:z=0
      ·rw[Ze1 hz,if_pos hz];exact⟨_,rfl⟩
      ·rw[Zd1 hz,if_neg hz];rfl
def Aqn:Sig:=⟨38,[(0,.str),(2,.sl .tok true),(3,.int .i64),(4,.int .i64),(5,.sl .tok true),(6,.int .i64)],[],[],0,0,0,[],[]⟩
abbrev Aad:=Str×List Tok×Int×Int×List Tok×Int
def Aei{R:Type}(rec:Aad->Option R)(kx:Ex->Aad->Option R)(v:Aad):Option R:=match v with
 |(v,v1,v2,v3,v4,v5) =>
 cond (decide (v5<(v.length:Int))) (
  chk (inb v5 v.length) (
  cond (decide (0<=(Ks [32,9,10,13] (bat v v5)))) (
   rec (v,v1,v2,v3,v4,(wr .i64 (v5+1)))) (
   (Aeh v v5).bind λ(x,x1) =>
   cond (decide (x1<0)) (
    kx .ret (v,[],v5,11,v4,v5)) (
    chk (decide (v4.length+1<=Ao)) (
    rec (v,v1,v2,v3,(v4++[x]),x1)))))) (
  kx (.exit 0) (v,v1,v2,v3,v4,v5))
def A96(R:Type)(k:Nat):Px R:=pxO [(203,cA Ahx),(204,cA Apb)] [] [(5,Am k Aqn (Aei))] []
def Ark(k:Nat)(x:HV [.str]):Option (HV [.sl .tok true,.int .i64,.int .i64]):=match x with
 |s =>
 cond (decide (20000<(s.length:Int))) (
  some ([],0,3)) (
  Al (λrec=>Aei rec (λe vz=>match vz with|(_,v7,v8,v9,a,_)=>match e with
  |.ret =>some (v7,v8,v9)
  |.exit 0 =>some (a,0,0)
  |_=>none)) k (s,[],0,0,[],0))
theorem Blu(k:Nat):FO 138 [.str] [.sl .tok true,.int .i64,.int .i64] (Ark k):=fR (px:=A96 _ k) (n:=1) Tryz.func138 rfl (λcx H=>by have h0:Lv cx (A96 (HV [.sl .tok true,.int .i64,.int .i64]) k):=lv H (c1 H Amv (c1 H Bd0 Ae)) Ab Aa;have hllall_0:=lO H h0 (b:=lp Tryz.f138 0) (k:=k) (n:=0) (s:=Aqn) (step:=Aei) (λ_ _ _ (_,_,_,_,_,_)=>by kernel_rfl) Ah;exact⟨h0,(A5 Ah hllall_0)⟩) λ_=>by kernel_rfl
def Bxc(s:Str):List Tok×Int×Int:=if 20000<(s.length:Int) then([],0,3) else match Lp.allF s with|.error i=>([],i,11)|.ok ts=>(ts,0,0)
abbrev Bg6(s:Str):List Tok×Int×Int:=Bxc s
def A6x:FT [.str] [.sl .tok true,.int .i64,.int .i64]:=λx=>some (Bg6 x)
theorem Bo3(c:Int):decide (0<=Ks [32,9,10,13] c)=Lp.blankF c:=rfl
theorem Acr{R:Type}{kx:Ex->Aad->Option R}{s:Str}{c:Except Int (List Tok)->Option R}(hs:s.length<=20000)(h1:∀a i j,kx .ret (s,[],i,11,a,j)=c (.error i))(h2:∀q r t a j,kx (.exit 0) (s,q,r,t,a,j)=c (.ok a)):∀(k:Nat) (i:Int) (f:Nat) (q:List Tok) (r t:Int) (a:List Tok),(a.length:Int)<=i->0<=i->i<=s.length->(s.length:Int)-i<k->(s.length:Int)-i<f->Al (λrec=>Aei rec kx) k (s,q,r,t,a,i)=c (Lp.allGo f s i a)
 |0,i,f,q,r,t,a,_,_,_,h,_=>by omega
 |k+1,i,0,q,r,t,a,_,_,_,_,h=>by omega
 |k+1,i,f+1,q,r,t,a,ha,h0,hi,h,hf=>by
  rw[Bb];by_cases hl:i<s.length
  ·have ea:decide (a.length+1<=Ao)=true:=Ze1 (by simp only[Ao];omega);have eb:bat s i=Sx.byt s i:=rfl;simp only[Aei,A3j (show 0<=i/\i<(s.length:Int) from⟨h0,hl⟩),Bo3,ea,eb,Lp.allGo];rw[Ze1 hl,if_neg (show ¬(s.length:Int)<=i by omega)];simp only[Af,chk];cases hbl:Lp.blankF (Sx.byt s i) with
   |true =>rw[A8n (by omega)];simp only[Af,if_true];exact Acr hs h1 h2 k (i+1) f q r t a (by omega) (by omega) (by omega) (by omega) (by omega)
   |false =>have ht:=A7m (s:=s) (i:=i) ⟨h0,hl⟩ hs;simp only[Ag,Zj2,if_false];cases hk:Lp.tokF s i with|none =>rw[hk] at ht;obtain⟨u,hu⟩:=ht;rw[hu];exact h1 _ _ _|some y =>obtain⟨y1,y2,y3,e⟩:=y;rw[hk] at ht;have hte:=Lp.tok_end ⟨h0,hl⟩ hk;simp only at ht;rw[ht];simp only[Zc1];rw[Zd1 (show ¬e<0 by omega),Ag];exact Acr hs h1 h2 k e f q r t (a++[⟨y1,i,y2,y3⟩]) (by simp only[Zh1,Zf1,Zi1];omega) (by omega) (by omega) (by omega) (by omega)
  ·simp only[Aei,h2,Lp.allGo];rw[Zd1 hl,if_pos (show(s.length:Int)<=i by omega)];rfl
theorem Br5:FO 138 [.str] [.sl .tok true,.int .i64,.int .i64] A6x :=.fin 0 Blu λs r hb hx=>⟨20001,by
 simp only[A6x,Za1] at hx;rw[<-hx];simp only[Ark,Bg6,Bxc];by_cases hbig : 20000<(s.length:Int)
 ·rw[Ze1 hbig,if_pos hbig];rfl
 ·rw[Zd1 hbig,if_neg hbig,Ag];refine(Acr (s:=s) (c:=λo=>match o with|.error i=>some ([],i,(11:Int))|.ok ts=>some (ts,(0:Int),(0:Int))) (by omega) (λ_ _ _ =>?_) (λ_ _ _ _ _ =>?_) 20001 0 (s.length+1) [] 0 0 [] (by simp) (by omega) (by omega) (by omega) (by omega)).trans ?_
  ·rfl
  ·rfl
  ·show _=some (match Lp.allGo (s.length+1) s 0 [] with|.error i=>([],i,(11:Int))|.ok ts=>(ts,(0:Int),(0:Int)));cases Lp.allGo (s.length+1) s 0 []<;>rfl⟩
def H4:Sig:=⟨1,[],[(0,.ptr 0 0)],[(0,.cells [.sl .tok false,.int .i64,.bool,.int .i64])],1,1,0,[],[]⟩
def H7:Sig:=⟨1,[(0,.sv .tok)],[],[(0,.cells [.sl .tok false,.int .i64,.bool,.int .i64])],1,1,0,[],[]⟩
abbrev Bbg:=List Tok×Int×Bool×Int
abbrev Bbd:=Tok×List Tok×Int×Bool×Int
def Bpx(R:Type):Px R:=pxO [] [] [] []
def Alc(x:Bbg):Option (Bbd):=match x with
 |(l,n,b,p) =>
 cond (decide ((l.length:Int)=0)) (
  some ((Tok.mk 0 n [] 0),l,n,b,p)) (
  chk (inb 0 l.length) (
  some ((at' .tok l 0),l,n,b,p)))
theorem Bhc:FM 205 H4 H7 (Alc):=fRL (px:=Bpx _) (n:=0) Tryz.func205 rfl (λ_ H=>⟨lv H Ae Ab Aa,Ah⟩) λ(_,_,_,_)=>by kernel_rfl
def Fg:Bbg->Option Bbd:=λx=>Alc x
theorem Mv:FM 205 H4 H7 (Fg):=Bhc
def Jw:Sig:=⟨1,[],[(0,.ptr 0 0)],[(0,.cells [.sl .tok false,.int .i64,.bool,.int .i64])],1,1,0,[],[]⟩
def Kg:Sig:=⟨1,[(0,.sv .tok)],[],[(0,.cells [.sl .tok false,.int .i64,.bool,.int .i64])],1,1,0,[],[]⟩
abbrev Bcp:=List Tok×Int×Bool×Int
abbrev A9z:=Tok×List Tok×Int×Bool×Int
def Bod(R:Type):Px R:=pxO [(205,An H4 H7 Fg)] [] [] []
def An1(x:Bcp):Option (A9z):=match x with
 |(l,n,b,p) =>
 (Fg (l,n,b,p)).bind λ(x,x1,x2,x3,x4) =>
  cond (decide (0<(x1.length:Int))) (
  chk (Ev 1 x1.length x1.length) (
   some (x,(x1.drop (1:Int).toNat),x2,x3,x4))) (
  some (x,x1,x2,x3,x4))
theorem Bex:FM 206 Jw Kg (An1):=fRL (px:=Bod _) (n:=0) Tryz.func206 rfl (λ_ H=>⟨lv H (l1 H Mv Ae) Ab Aa,Ah⟩) λ(_,_,_,_)=>by kernel_rfl
def Dp:Bcp->Option A9z:=λx=>An1 x
theorem Rz:FM 206 Jw Kg (Dp):=Bex
def Dt:Sig:=⟨2,[(1,.str)],[(0,.ptr 0 0)],[(0,.cells [.sl .tok false,.int .i64,.bool,.int .i64])],1,1,0,[],[]⟩
def Du:Sig:=⟨1,[(0,.bool)],[],[(0,.cells [.sl .tok false,.int .i64,.bool,.int .i64])],1,1,0,[],[]⟩
abbrev Bu6:=Str×List Tok×Int×Bool×Int
abbrev Bvd:=Bool×List Tok×Int×Bool×Int
def Bv3(R:Type):Px R:=pxO [(205,An H4 H7 Fg),(206,An Jw Kg Dp)] [] [] []
def A02(x:Bu6):Option (Bvd):=match x with
 |(s,l,n,b,p) =>
 (Fg (l,n,b,p)).bind λ(x,x1,x2,x3,x4) =>
  cond (!decide (x.kind=1)) (
  cond (!decide (x.kind=6)) (
   some (false,x1,x2,x3,x4)) (
   cond (!decide (x.s=s)) (
   some (false,x1,x2,x3,x4)) (
   (Dp (x1,x2,x3,x4)).bind λ(_,a,c,d,e) =>some (true,a,c,d,e)))) (
  cond (!decide (x.s=s)) (
   some (false,x1,x2,x3,x4)) (
   (Dp (x1,x2,x3,x4)).bind λ(_,f,g,h,i) =>
   some (true,f,g,h,i)))
theorem Bq5:FM 139 Dt Du (A02):=fRL (px:=Bv3 _) (n:=0) Tryz.func139 rfl (λ_ H=>⟨lv H (l1 H Mv (l1 H Rz Ae)) Ab Aa,Ah⟩) λ(_,_,_,_,_)=>by kernel_rfl
def Bc:Bu6->Option Bvd:=λx=>A02 x
theorem Ea:FM 139 Dt Du (Bc):=Bq5
def Gn:Sig:=⟨1,[],[(0,.ptr 0 0)],[(0,.cells [.sl .tok false,.int .i64,.bool,.int .i64])],1,1,0,[],[]⟩
def Gs:Sig:=⟨0,[],[],[(0,.cells [.sl .tok false,.int .i64,.bool,.int .i64])],1,1,0,[],[]⟩
abbrev A1p:=List Tok×Int×Bool×Int
abbrev Azr:=List Tok×Int×Bool×Int
def Beu(R:Type):Px R:=pxO [(205,An H4 H7 Fg)] [] [] []
def Afr(x:A1p):Option (Azr):=match x with
 |(l,n,b,p) =>
 cond (!b) (
  (Fg (l,n,b,p)).bind λ(x,x1,x2,_,_) =>
  some (x1,x2,true,x.pos)) (
  some (l,n,b,p))
theorem A5n:FM 149 Gn Gs (Afr):=fRL (px:=Beu _) (n:=0) Tryz.func149 rfl (λ_ H=>⟨lv H (l1 H Mv Ae) Ab Aa,Ah⟩) λ(_,_,_,_)=>by kernel_rfl
def Ec:A1p->Option Azr:=λx=>Afr x
theorem Jm:FM 149 Gn Gs (Ec):=A5n
def D2:Sig:=⟨2,[(1,.sl .str false)],[(0,.ptr 0 0)],[(0,.cells [.sl .tok false,.int .i64,.bool,.int .i64])],1,1,0,[],[]⟩
def Dy:Sig:=⟨0,[],[],[(0,.cells [.sl .tok false,.int .i64,.bool,.int .i64])],1,1,0,[],[]⟩
abbrev Bbv:=List Str×List Tok×Int×Bool×Int
abbrev Avk:=List Tok×Int×Bool×Int
def Alq:Sig:=⟨27,[(6,.sl .str false),(7,.int .i64),(8,.int .i64)],[(0,.ptr 0 0)],[(0,.cells [.sl .tok false,.int .i64,.bool,.int .i64])],1,1,0,[],[]⟩
abbrev Adw:=List Str×Int×Int×List Tok×Int×Bool×Int
def Aym{R:Type}(rec:Adw->Option R)(kx:Ex->Adw->Option R)(v:Adw):Option R:=match v with
 |(v,v1,v2,w,w1,w2,w3) =>
 cond (decide (v2<v1)) (
  chk (inb v2 v.length) (
  let j:=λ(p2:Bool) (q4:List Tok) (q5:Int) (q6:Bool) (q7:Int) =>
   cond (p2) (
   (Ec (q4,q5,q6,q7)).bind λ(x5,x6,x7,x8) =>kx .ret (v,v1,v2,x5,x6,x7,x8)) (
   rec (v,v1,(wr .i64 (v2+1)),q4,q5,q6,q7))
  cond (w2) (
   j true w w1 w2 w3) (
   (Bc ((at' .str v v2),w,w1,w2,w3)).bind λ(x,x1,x2,x3,x4) =>
   j (!x) x1 x2 x3 x4))) (
  kx (.exit 0) (v,v1,v2,w,w1,w2,w3))
def A4h(R:Type)(k:Nat):Px R:=pxO [(139,An Dt Du Bc),(149,An Gn Gs Ec)] [] [(1,Am k Alq (Aym))] []
def X4(k:Nat)(x:Bbv):Option (Avk):=match x with
 |(ss,l,n,b,p) =>
 Al (λrec=>Aym rec (λe vz=>match vz with|(_,_,_,v6,v7,v8,v9)=>match e with
  |.ret =>
  some (v6,v7,v8,v9)
  |.exit 0 =>
  some (v6,v7,v8,v9)
  |_=>none)) k (ss,(ss.length:Int),0,l,n,b,p)
theorem Bgs(k:Nat):FM 141 D2 Dy (X4 k):=fRL (px:=A4h _ k) (n:=1) Tryz.func141 rfl (λcx H=>by have h0:Lv cx (A4h (Avk) k):=lv H (l1 H Ea (l1 H Jm Ae)) Ab Aa;have hlpmust_0:=lO H h0 (b:=lp Tryz.f141 0) (k:=k) (n:=0) (s:=Alq) (step:=Aym) (λ_ _ _ (_,_,_,_,_,_,_)=>by kernel_rfl) Ah;exact⟨h0,(A5 Ah hlpmust_0)⟩) λ(_,_,_,_,_)=>by kernel_rfl
def Bd:Bbv->Option Avk:=λx=>X4 ((x.1.length+1)) x
theorem E3:FM 141 D2 Dy (Bd):=FnLn.fin (ι:=Nat) (sg:=D2) (so:=Dy) 0 (F:=λk=>X4 k) (λk=>Bgs k) λx _ _ hx=>⟨(x.1.length+1),hx⟩
def E7:Sig:=⟨1,[],[(0,.ptr 0 0)],[(0,.cells [.sl .tok false,.int .i64,.bool,.int .i64])],1,1,0,[],[]⟩
def E4:Sig:=⟨1,[(0,.str)],[],[(0,.cells [.sl .tok false,.int .i64,.bool,.int .i64])],1,1,0,[],[]⟩
abbrev Ba5:=List Tok×Int×Bool×Int
abbrev Bav:=Str×List Tok×Int×Bool×Int
def Bpw(R:Type):Px R:=pxO [(205,An H4 H7 Fg),(149,An Gn Gs Ec),(206,An Jw Kg Dp)] [] [] []
def Apo(x:Ba5):Option (Bav):=match x with
 |(l,n,b,p) =>
 (Fg (l,n,b,p)).bind λ(x,x1,x2,x3,x4) =>
  let j:=λ(p2:Bool) =>
  cond (p2) (
   (Ec (x1,x2,x3,x4)).bind λ(x5,x6,x7,x8) =>
   some ([],x5,x6,x7,x8)) (
   (Dp (x1,x2,x3,x4)).bind λ(x9,a,c,d,e) =>
   some (x9.s,a,c,d,e))
  cond (x3) (
  j true) (
  j (!decide (x.kind=2)))
theorem Be5:FM 142 E7 E4 (Apo):=fRL (px:=Bpw _) (n:=0) Tryz.func142 rfl (λ_ H=>⟨lv H (l1 H Mv (l1 H Jm (l1 H Rz Ae))) Ab Aa,Ah⟩) λ(_,_,_,_)=>by kernel_rfl
def B3:Ba5->Option Bav:=λx=>Apo x
theorem G5:FM 142 E7 E4 (B3):=Be5
def Cu:Sig:=⟨1,[],[(0,.ptr 0 0)],[(0,.cells [.sl .tok false,.int .i64,.bool,.int .i64])],1,1,0,[],[]⟩
def Cv:Sig:=⟨1,[(0,.sv .expr)],[],[(0,.cells [.sl .tok false,.int .i64,.bool,.int .i64])],1,1,0,[],[]⟩
abbrev Bi:=List Tok×Int×Bool×Int
abbrev Bh:=Xpr×List Tok×Int×Bool×Int
def Adq:Sig:=⟨1,[],[(0,.ptr 0 0)],[(0,.cells [.sl .tok false,.int .i64,.bool,.int .i64])],1,1,0,[],[]⟩
def Aew:Sig:=⟨1,[(0,.sv .expr)],[],[(0,.cells [.sl .tok false,.int .i64,.bool,.int .i64])],1,1,0,[],[]⟩
abbrev Ay7:=List Tok×Int×Bool×Int
abbrev Abk:=Xpr×List Tok×Int×Bool×Int
def Ag2(R:Type)(_rf:Bi->Option Bh):Px R:=pxO [(206,An Jw Kg Dp)] [] [] []
noncomputable def Ar9(R:Type)(rf:Bi->Option Bh):Px R:=pxO [(205,An H4 H7 Fg),(206,An Jw Kg Dp),(141,An D2 Dy Bd),(210,An Cu Cv rf),(289,A2 80 400 (Ag2 R rf) Tryz.f289)] [] [] []
def Ahh(rf:Bi->Option Bh)(x:Ay7):Option (Abk):=match x with
 |(l,n,b,p) =>
 (Fg (l,n,b,p)).bind λ(x,x1,x2,x3,x4) =>
  cond (x3) (
  some ((Xpr.mk 0 ⟨0,0,[]⟩ [] []),x1,x2,x3,x4)) (
  cond (decide (x.kind=2)) (
   (Dp (x1,x2,x3,x4)).bind λ(_,x6,x7,x8,x9) =>
   some ((Xpr.mk 2 ⟨0,0,[]⟩ x.s []),x6,x7,x8,x9)) (
   cond (decide (x.kind=3)) (
   (Dp (x1,x2,x3,x4)).bind λ(_,a,c,d,e) =>some ((Xpr.mk 1 ⟨3,x.n,[]⟩ [] []),a,c,d,e)) (
   cond (decide (x.kind=4)) (
    (Dp (x1,x2,x3,x4)).bind λ(_,f,g,h,i) =>
    some ((Xpr.mk 1 ⟨4,0,x.s⟩ [] []),f,g,h,i)) (
    cond (decide (x.kind=5)) (
    (Dp (x1,x2,x3,x4)).bind λ(_,k,m,o,q) =>some ((Xpr.mk 1 ⟨5,0,x.s⟩ [] []),k,m,o,q)) (
    let j2:=λ(p2:Bool) =>
     cond (p2) (
     (Dp (x1,x2,x3,x4)).bind λ(_,r,t,u,v) =>some ((Xpr.mk 1 ⟨2,1,[]⟩ [] []),r,t,u,v)) (
     let j1:=λ(p4:Bool) =>
      cond (p4) (
      (Dp (x1,x2,x3,x4)).bind λ(_,w,y,z,a0) =>some ((Xpr.mk 1 ⟨2,0,[]⟩ [] []),w,y,z,a0)) (
      let j:=λ(p6:Bool) =>
       cond (p6) (
       (Dp (x1,x2,x3,x4)).bind λ(_,a1,a2,a3,a4) =>some ((Xpr.mk 1 ⟨1,0,[]⟩ [] []),a1,a2,a3,a4)) (
       (Bd ([[40]],x1,x2,x3,x4)).bind λ(a5,a6,a7,a8) =>
        (rf (a5,a6,a7,a8)).bind λ(a9,aa,ab,ac,ad) =>
        (Bd ([[41]],aa,ab,ac,ad)).bind λ(ae,af,ag,ah) =>some (a9,ae,af,ag,ah))
      cond (decide (x.kind=1)) (
       j (decide (x.s=[78,85,76,76]))) (
       j false))
     cond (decide (x.kind=1)) (
      j1 (decide (x.s=[70,65,76,83,69]))) (
      j1 false))
    cond (decide (x.kind=1)) (
     j2 (decide (x.s=[84,82,85,69]))) (
     j2 false))))))
theorem A8a(rf:Bi->Option Bh)(hrf:FM 210 Cu Cv rf):FM 288 Adq Aew (Ahh rf):=fRL (px:=Ar9 _ rf) (n:=0) Tryz.func288 rfl (λcx H=>by have h1:Lv cx (Ag2 (Abk) rf):=lv H (l1 H Rz Ae) Ab Aa;have h0:Lv cx (Ar9 (Abk) rf):=lv H (l1 H Mv (l1 H Rz (l1 H E3 (l1 H hrf (Az (cR H h1 Tryz.func289 rfl (n:=0) (Ah)) Ae))))) Ab Aa;exact⟨h0,Ah⟩) λ(_,_,_,_)=>by kernel_rfl
def Anu(rf:Bi->Option Bh):Ay7->Option Abk:=λx=>Ahh rf x
theorem Bhh(rf:Bi->Option Bh)(hrf:FM 210 Cu Cv rf):FM 288 Adq Aew (Anu rf):=A8a rf hrf
def Abw:Sig:=⟨1,[],[(0,.ptr 0 0)],[(0,.cells [.sl .tok false,.int .i64,.bool,.int .i64])],1,1,0,[],[]⟩
def Aal:Sig:=⟨1,[(0,.sv .expr)],[],[(0,.cells [.sl .tok false,.int .i64,.bool,.int .i64])],1,1,0,[],[]⟩
abbrev Bk4:=List Tok×Int×Bool×Int
abbrev Ayl:=Xpr×List Tok×Int×Bool×Int
def Ari:Sig:=⟨36,[(2,.int .i64),(27,.int .i64),(28,.int .i64)],[(8,.ptr 80 0),(10,.ptr 81 0)],[(0,.cells [.sl .tok false,.int .i64,.bool,.int .i64]),(1,.one (.sv .expr)),(80,.one (.sv .expr)),(81,.one (.sv .expr))],82,80,400,[],[]⟩
abbrev Alp:=Int×Int×Int×List Tok×Int×Bool×Int×Xpr×Xpr×Xpr
def A7f{R:Type}(rec:Alp->Option R)(kx:Ex->Alp->Option R)(v:Alp):Option R:=match v with
 |(a,b,c,w6,w7,w8,w9,d,e,f) =>
 cond (decide (c<b)) (
  rec (a,b,(wr .i64 (c+1)),w6,w7,w8,w9,d,e,(Xpr.mk a ⟨0,0,[]⟩ [] [f]))) (
  kx (.exit 2) (a,b,c,w6,w7,w8,w9,d,e,f))
def Asg:Sig:=⟨36,[(1,.str),(2,.int .i64),(9,.int .i64)],[(0,.ptr 0 0),(3,.bm 288 [.ptr 0 0]),(8,.ptr 80 0)],[(0,.cells [.sl .tok false,.int .i64,.bool,.int .i64]),(1,.one (.sv .expr)),(80,.one (.sv .expr))],81,80,400,[],[]⟩
abbrev Aj9:=Str×Int×Int×List Tok×Int×Bool×Int×Xpr×Xpr
def A9f{R:Type}(rec:Aj9->Option R)(kx:Ex->Aj9->Option R)(v:Aj9):Option R:=match v with
 |(v,v1,v2,w,w1,w2,w3,w4,w5) =>
 cond (!w2) (
  (Bc (v,w,w1,w2,w3)).bind λ(x,x1,x2,x3,x4) =>
  cond (x) (
   rec (v,v1,(wr .i64 (v2+1)),x1,x2,x3,x4,w4,w5)) (
   kx (.exit 0) (v,v1,v2,x1,x2,x3,x4,w4,w5))) (
  kx (.exit 0) (v,v1,v2,w,w1,w2,w3,w4,w5))
def Asa(R:Type)(k:Nat)(rf:Bi->Option Bh):Px R:=pxO [(139,An Dt Du Bc),(288,An Adq Aew (Anu rf))] [] [(2,Am k Asg (A9f)),(6,Am k Ari (A7f))] []
noncomputable def Bbz(R:Type)(k:Nat)(rf:Bi->Option Bh):Px R:=pxO [(279,A2 80 400 (Asa R k rf) Tryz.f279)] [] [] []
def Aez(k:Nat)(rf:Bi->Option Bh)(x:Bk4):Option (Ayl):=match x with
 |(l,n,b,p) =>
 Al (λrec=>A9f rec (λe vz=>match vz with|(_,v4,v5,v6,v7,v8,v9,a,c)=>match e with
  |.exit 0 =>
  (Anu rf (v6,v7,v8,v9)).bind λ(x5,x6,x7,x8,x9) =>
   Al (λrec=>A7f rec (λe vz=>match vz with|(_,_,_,d,f,g,h,_,_,i)=>match e with
   |.exit 2 =>some (i,d,f,g,h)
   |_=>none)) k (v4,v5,0,x6,x7,x8,x9,a,c,x5)
  |_=>none)) k ([45],15,0,l,n,b,p,(Xpr.mk 0 ⟨0,0,[]⟩ [] []),(Xpr.mk 0 ⟨0,0,[]⟩ [] []))
theorem Bjk(k:Nat)(rf:Bi->Option Bh)(hrf:FM 210 Cu Cv rf):FM 287 Abw Aal (Aez k rf):=fRL (px:=Bbz _ k rf) (n:=0) Tryz.func287 rfl (λcx H=>by have h1:Lv cx (Asa (Ayl) k rf):=lv H (l1 H Ea (l1 H (Bhh rf hrf) Ae)) Ab Aa;have hlpneg_0:=lO H h1 (b:=lp Tryz.f279 0) (k:=k) (n:=0) (s:=Asg) (step:=A9f) (λ_ _ _ (_,_,_,_,_,_,_,_,_)=>by kernel_rfl) Ah;have hlpneg_1:=lO H h1 (b:=lp Tryz.f279 1) (k:=k) (n:=0) (s:=Ari) (step:=A7f) (λ_ _ _ (_,_,_,_,_,_,_,_,_,_)=>by kernel_rfl) Ah;have h0:Lv cx (Bbz (Ayl) k rf):=lv H (Az (cR H h1 Tryz.func279 rfl (n:=2) ((A5 (A5 Ah hlpneg_0) hlpneg_1))) Ae) Ab Aa;exact⟨h0,Ah⟩) λ(_,_,_,_)=>by kernel_rfl
def Al9(rf:Bi->Option Bh):Bk4->Option Ayl:=λx=>Aez ((x.1.length+1)) rf x
theorem Bc2(rf:Bi->Option Bh)(hrf:FM 210 Cu Cv rf):FM 287 Abw Aal (Al9 rf):=FnLn.fin (ι:=Nat) (sg:=Abw) (so:=Aal) 0 (F:=λk=>Aez k rf) (λk=>Bjk k rf hrf) λx _ _ hx=>⟨(x.1.length+1),hx⟩
def H5:Sig:=⟨1,[],[(0,.ptr 0 0)],[(0,.cells [.sl .tok false,.int .i64,.bool,.int .i64])],1,1,0,[],[]⟩
def H8:Sig:=⟨1,[(0,.sv .expr)],[],[(0,.cells [.sl .tok false,.int .i64,.bool,.int .i64])],1,1,0,[],[]⟩
abbrev Am7:=List Tok×Int×Bool×Int
abbrev Oy:=Xpr×List Tok×Int×Bool×Int
def Ww:Sig:=⟨38,[(2,.sl .pair true),(17,.sl .pair false),(18,.int .i64),(19,.int .i64)],[(0,.ptr 0 0),(1,.bm 287 [.ptr 0 0]),(6,.ptr 80 0),(7,.ptr 81 0)],[(0,.cells [.sl .tok false,.int .i64,.bool,.int .i64]),(1,.one (.sv .expr)),(80,.one (.sv .expr)),(81,.one (.sv .expr))],82,80,400,[],[]⟩
abbrev Pr:=List PairS×List PairS×Int×Int×List Tok×Int×Bool×Int×Xpr×Xpr×Xpr
def Zb{R:Type}(rf:Bi->Option Bh)(rec:Pr->Option R)(kx:Ex->Pr->Option R)(v:Pr):Option R:=match v with
 |(v1,v2,v3,v4,w7,w8,w9,d,a,b,c) =>
 cond (decide (v4<v3)) (
  chk (inb v4 v2.length) (
  (Bc ((at' .pair v2 v4).sign,w7,w8,w9,d)).bind λ(x5,x6,x7,x8,x9) =>
   cond (x5) (
   (Al9 rf (x6,x7,x8,x9)).bind λ(e,f,g,h,i) =>kx (.exit 1) (v1,v2,v3,v4,f,g,h,i,a,b,(Xpr.mk ((at' .pair v2 v4).kind) ⟨0,0,[]⟩ [] [c,e]))) (
   rec (v1,v2,v3,(wr .i64 (v4+1)),x6,x7,x8,x9,a,b,c)))) (
  kx (.exit 2) (v1,v2,v3,v4,w7,w8,w9,d,a,b,c))
def Wy:Sig:=⟨38,[(2,.sl .pair true)],[(0,.ptr 0 0),(1,.bm 287 [.ptr 0 0]),(6,.ptr 80 0),(7,.ptr 81 0)],[(0,.cells [.sl .tok false,.int .i64,.bool,.int .i64]),(1,.one (.sv .expr)),(80,.one (.sv .expr)),(81,.one (.sv .expr))],82,80,400,[],[]⟩
abbrev Po:=List PairS×List Tok×Int×Bool×Int×Xpr×Xpr×Xpr
def Xo{R:Type}(k:Nat)(rf:Bi->Option Bh)(rec:Po->Option R)(kx:Ex->Po->Option R)(v:Po):Option R:=match v with
 |(v,w,w1,w2,w3,w4,w5,w6) =>
 cond (!w2) (
  Al (λrc=>Zb rf rc (λe vz=>match vz with|(v5,_,_,_,v9,a,b,c,d,f,g)=>match e with
  |.exit 1 =>rec (v5,v9,a,b,c,d,f,g)
  |.exit 2 =>kx (.exit 0) (v5,v9,a,b,c,d,f,g)
  |_=>none)) k (v,v,(v.length:Int),0,w,w1,w2,w3,w4,w5,w6)) (
  kx (.exit 0) (v,w,w1,w2,w3,w4,w5,w6))
def W7(R:Type)(k:Nat)(rf:Bi->Option Bh):Px R:=pxO [(287,An Abw Aal (Al9 rf)),(139,An Dt Du Bc)] [] [(4,Am k Ww (Zb rf)),(2,Am k Wy (Xo k rf))] [(287,Dr Abw Aal (Al9 rf))]
noncomputable def Afp(R:Type)(k:Nat)(rf:Bi->Option Bh):Px R:=pxO [(254,A2 80 400 (W7 R k rf) Tryz.f254)] [] [] []
def L3(k:Nat)(rf:Bi->Option Bh)(x:Am7):Option (Oy):=match x with
 |(l,n,b,p) =>
 (Al9 rf (l,n,b,p)).bind λ(x,x1,x2,x3,x4) =>
  Al (λrec=>Xo k rf rec (λe vz=>match vz with|(_,a,c,d,f,_,_,g)=>match e with
  |.exit 0 =>some (g,a,c,d,f)
  |_=>none)) k ([(PairS.mk [42] 14)],x1,x2,x3,x4,(Xpr.mk 0 ⟨0,0,[]⟩ [] []),(Xpr.mk 0 ⟨0,0,[]⟩ [] []),x)
theorem Awn(k:Nat)(rf:Bi->Option Bh)(hrf:FM 210 Cu Cv rf):FM 286 H5 H8 (L3 k rf):=fRL (px:=Afp _ k rf) (n:=0) Tryz.func286 rfl (λcx H=>by have h1:Lv cx (W7 (Oy) k rf):=lv H (l1 H (Bc2 rf hrf) (l1 H Ea Ae)) Ab (w1 H (Bc2 rf hrf) Aa);have hlpproduct_1:=lO H h1 (b:=lpC (lp Tryz.f254 0) 0) (k:=k) (n:=0) (s:=Ww) (step:=Zb rf) (λ_ _ _ (_,_,_,_,_,_,_,_,_,_,_)=>by kernel_rfl) Ah;have hlpproduct_0:=lO H h1 (b:=lp Tryz.f254 0) (k:=k) (n:=1) (s:=Wy) (step:=Xo k rf) (λ_ _ _ (_,_,_,_,_,_,_,_)=>by kernel_rfl) (A5 Ah hlpproduct_1);have h0:Lv cx (Afp (Oy) k rf):=lv H (Az (cR H h1 Tryz.func254 rfl (n:=2) ((A5 (A5 Ah hlpproduct_0) hlpproduct_1))) Ae) Ab Aa;exact⟨h0,Ah⟩) λ(_,_,_,_)=>by kernel_rfl
def J9(rf:Bi->Option Bh):Am7->Option Oy:=λx=>L3 ((x.1.length+3)) rf x
theorem Ag9(rf:Bi->Option Bh)(hrf:FM 210 Cu Cv rf):FM 286 H5 H8 (J9 rf):=FnLn.fin (ι:=Nat) (sg:=H5) (so:=H8) 0 (F:=λk=>L3 k rf) (λk=>Awn k rf hrf) λx _ _ hx=>⟨(x.1.length+3),hx⟩
def Acm:Sig:=⟨1,[],[(0,.ptr 0 0)],[(0,.cells [.sl .tok false,.int .i64,.bool,.int .i64])],1,1,0,[],[]⟩
def Ab0:Sig:=⟨1,[(0,.sv .expr)],[],[(0,.cells [.sl .tok false,.int .i64,.bool,.int .i64])],1,1,0,[],[]⟩
abbrev Bmo:=List Tok×Int×Bool×Int
abbrev Axd:=Xpr×List Tok×Int×Bool×Int
def Aq8:Sig:=⟨38,[(2,.sl .pair true),(17,.sl .pair false),(18,.int .i64),(19,.int .i64)],[(0,.ptr 0 0),(1,.bm 286 [.ptr 0 0]),(6,.ptr 80 0),(7,.ptr 81 0)],[(0,.cells [.sl .tok false,.int .i64,.bool,.int .i64]),(1,.one (.sv .expr)),(80,.one (.sv .expr)),(81,.one (.sv .expr))],82,80,400,[],[]⟩
abbrev Ajh:=List PairS×List PairS×Int×Int×List Tok×Int×Bool×Int×Xpr×Xpr×Xpr
def A8b{R:Type}(rf:Bi->Option Bh)(rec:Ajh->Option R)(kx:Ex->Ajh->Option R)(v:Ajh):Option R:=match v with
 |(v1,v2,v3,v4,w7,w8,w9,d,a,b,c) =>
 cond (decide (v4<v3)) (
  chk (inb v4 v2.length) (
  (Bc ((at' .pair v2 v4).sign,w7,w8,w9,d)).bind λ(x5,x6,x7,x8,x9) =>
   cond (x5) (
   (J9 rf (x6,x7,x8,x9)).bind λ(e,f,g,h,i) =>kx (.exit 1) (v1,v2,v3,v4,f,g,h,i,a,b,(Xpr.mk ((at' .pair v2 v4).kind) ⟨0,0,[]⟩ [] [c,e]))) (
   rec (v1,v2,v3,(wr .i64 (v4+1)),x6,x7,x8,x9,a,b,c)))) (
  kx (.exit 2) (v1,v2,v3,v4,w7,w8,w9,d,a,b,c))
def Atw:Sig:=⟨38,[(2,.sl .pair true)],[(0,.ptr 0 0),(1,.bm 286 [.ptr 0 0]),(6,.ptr 80 0),(7,.ptr 81 0)],[(0,.cells [.sl .tok false,.int .i64,.bool,.int .i64]),(1,.one (.sv .expr)),(80,.one (.sv .expr)),(81,.one (.sv .expr))],82,80,400,[],[]⟩
abbrev Aox:=List PairS×List Tok×Int×Bool×Int×Xpr×Xpr×Xpr
def A7j{R:Type}(k:Nat)(rf:Bi->Option Bh)(rec:Aox->Option R)(kx:Ex->Aox->Option R)(v:Aox):Option R:=match v with
 |(v,w,w1,w2,w3,w4,w5,w6) =>
 cond (!w2) (
  Al (λrc=>A8b rf rc (λe vz=>match vz with|(v5,_,_,_,v9,a,b,c,d,f,g)=>match e with
  |.exit 1 =>rec (v5,v9,a,b,c,d,f,g)
  |.exit 2 =>kx (.exit 0) (v5,v9,a,b,c,d,f,g)
  |_=>none)) k (v,v,(v.length:Int),0,w,w1,w2,w3,w4,w5,w6)) (
  kx (.exit 0) (v,w,w1,w2,w3,w4,w5,w6))
def Auw(R:Type)(k:Nat)(rf:Bi->Option Bh):Px R:=pxO [(286,An H5 H8 (J9 rf)),(139,An Dt Du Bc)] [] [(4,Am k Aq8 (A8b rf)),(2,Am k Atw (A7j k rf))] [(286,Dr H5 H8 (J9 rf))]
noncomputable def Ba3(R:Type)(k:Nat)(rf:Bi->Option Bh):Px R:=pxO [(254,A2 80 400 (Auw R k rf) Tryz.f254)] [] [] []
def Adb(k:Nat)(rf:Bi->Option Bh)(x:Bmo):Option (Axd):=match x with
 |(l,n,b,p) =>
 (J9 rf (l,n,b,p)).bind λ(x,x1,x2,x3,x4) =>
  Al (λrec=>A7j k rf rec (λe vz=>match vz with|(_,a,c,d,f,_,_,g)=>match e with
  |.exit 0 =>some (g,a,c,d,f)
  |_=>none)) k ([(PairS.mk [43] 12),(PairS.mk [45] 13)],x1,x2,x3,x4,(Xpr.mk 0 ⟨0,0,[]⟩ [] []),(Xpr.mk 0 ⟨0,0,[]⟩ [] []),x)
theorem Bqy(k:Nat)(rf:Bi->Option Bh)(hrf:FM 210 Cu Cv rf):FM 284 Acm Ab0 (Adb k rf):=fRL (px:=Ba3 _ k rf) (n:=0) Tryz.func284 rfl (λcx H=>by have h1:Lv cx (Auw (Axd) k rf):=lv H (l1 H (Ag9 rf hrf) (l1 H Ea Ae)) Ab (w1 H (Ag9 rf hrf) Aa);have hlpsum_1:=lO H h1 (b:=lpC (lp Tryz.f254 0) 0) (k:=k) (n:=0) (s:=Aq8) (step:=A8b rf) (λ_ _ _ (_,_,_,_,_,_,_,_,_,_,_)=>by kernel_rfl) Ah;have hlpsum_0:=lO H h1 (b:=lp Tryz.f254 0) (k:=k) (n:=1) (s:=Atw) (step:=A7j k rf) (λ_ _ _ (_,_,_,_,_,_,_,_)=>by kernel_rfl) (A5 Ah hlpsum_1);have h0:Lv cx (Ba3 (Axd) k rf):=lv H (Az (cR H h1 Tryz.func254 rfl (n:=2) ((A5 (A5 Ah hlpsum_0) hlpsum_1))) Ae) Ab Aa;exact⟨h0,Ah⟩) λ(_,_,_,_)=>by kernel_rfl
def Am0(rf:Bi->Option Bh):Bmo->Option Axd:=λx=>Adb ((x.1.length+3)) rf x
theorem Bdc(rf:Bi->Option Bh)(hrf:FM 210 Cu Cv rf):FM 284 Acm Ab0 (Am0 rf):=FnLn.fin (ι:=Nat) (sg:=Acm) (so:=Ab0) 0 (F:=λk=>Adb k rf) (λk=>Bqy k rf hrf) λx _ _ hx=>⟨(x.1.length+3),hx⟩
def Ahv:Sig:=⟨1,[],[(0,.ptr 0 0)],[(0,.cells [.sl .tok false,.int .i64,.bool,.int .i64])],1,1,0,[],[]⟩
def Ain:Sig:=⟨1,[(0,.sv .expr)],[],[(0,.cells [.sl .tok false,.int .i64,.bool,.int .i64])],1,1,0,[],[]⟩
abbrev Bpk:=List Tok×Int×Bool×Int
abbrev A9o:=Xpr×List Tok×Int×Bool×Int
def Ast:Sig:=⟨61,[(20,.sl .pair true),(21,.int .i64),(22,.int .i64)],[(0,.ptr 0 0),(2,.ptr 1 0),(3,.ptr 2 0)],[(0,.cells [.sl .tok false,.int .i64,.bool,.int .i64]),(1,.one (.sv .expr)),(2,.one (.sv .expr))],3,1,0,[],[]⟩
abbrev An6:=List PairS×Int×Int×List Tok×Int×Bool×Int×Xpr×Xpr
def A60{R:Type}(rf:Bi->Option Bh)(rec:An6->Option R)(kx:Ex->An6->Option R)(v:An6):Option R:=match v with
 |(v,v1,v2,w,w1,w2,w3,w4,w5) =>
 cond (decide (v2<v1)) (
  chk (inb v2 v.length) (
  (Bc ((at' .pair v v2).sign,w,w1,w2,w3)).bind λ(x5,x6,x7,x8,x9) =>
   cond (x5) (
   (Am0 rf (x6,x7,x8,x9)).bind λ(a,b,c,d,e) =>kx .ret (v,v1,v2,b,c,d,e,(Xpr.mk ((at' .pair v v2).kind) ⟨0,0,[]⟩ [] [w5,a]),w5)) (
   rec (v,v1,(wr .i64 (v2+1)),x6,x7,x8,x9,w4,w5)))) (
  kx (.exit 0) (v,v1,v2,w,w1,w2,w3,w4,w5))
def Bc3(R:Type)(k:Nat)(rf:Bi->Option Bh):Px R:=pxO [(284,An Acm Ab0 (Am0 rf)),(139,An Dt Du Bc),(141,An D2 Dy Bd)] [] [(5,Am k Ast (A60 rf))] [(284,Dr Acm Ab0 (Am0 rf))]
def Ada(k:Nat)(rf:Bi->Option Bh)(x:Bpk):Option (A9o):=match x with
 |(l,n,b,p) =>
 (Am0 rf (l,n,b,p)).bind λ(x,x1,x2,x3,x4) =>
  cond (x3) (
  some (x,x1,x2,x3,x4)) (
  Al (λrec=>A60 rf rec (λe vz=>match vz with|(_,_,_,v6,v7,v8,v9,o,a)=>match e with
   |.ret =>
   some (o,v6,v7,v8,v9)
   |.exit 0 =>
   (Bc ([73,83],v6,v7,v8,v9)).bind λ(q,c,d,f,g) =>
    cond (!q) (
    some (a,c,d,f,g)) (
    (Bc ([78,79,84],c,d,f,g)).bind λ(r,s,t,u,v) =>
     (Bd ([[78,85,76,76]],s,t,u,v)).bind λ(h,i,j,m) =>
     cond (r) (
      some ((Xpr.mk 3 ⟨0,0,[]⟩ [] [(Xpr.mk 16 ⟨0,0,[]⟩ [] [a])]),h,i,j,m)) (
      some ((Xpr.mk 16 ⟨0,0,[]⟩ [] [a]),h,i,j,m)))
   |_=>none)) k ([(PairS.mk [61] 6),(PairS.mk [60,62] 7),(PairS.mk [60] 8),(PairS.mk [60,61] 9),(PairS.mk [62] 10),(PairS.mk [62,61] 11)],6,0,x1,x2,x3,x4,(Xpr.mk 0 ⟨0,0,[]⟩ [] []),x))
theorem Bmk(k:Nat)(rf:Bi->Option Bh)(hrf:FM 210 Cu Cv rf):FM 280 Ahv Ain (Ada k rf):=fRL (px:=Bc3 _ k rf) (n:=1) Tryz.func280 rfl (λcx H=>by have h0:Lv cx (Bc3 (A9o) k rf):=lv H (l1 H (Bdc rf hrf) (l1 H Ea (l1 H E3 Ae))) Ab (w1 H (Bdc rf hrf) Aa);have hlpcmp_0:=lO H h0 (b:=lp Tryz.f280 0) (k:=k) (n:=0) (s:=Ast) (step:=A60 rf) (λ_ _ _ (_,_,_,_,_,_,_,_,_)=>by kernel_rfl) Ah;exact⟨h0,(A5 Ah hlpcmp_0)⟩) λ(_,_,_,_)=>by kernel_rfl
def A5s(rf:Bi->Option Bh):Bpk->Option A9o:=λx=>Ada (10) rf x
theorem Bti(rf:Bi->Option Bh)(hrf:FM 210 Cu Cv rf):FM 280 Ahv Ain (A5s rf):=FnLn.fin (ι:=Nat) (sg:=Ahv) (so:=Ain) 0 (F:=λk=>Ada k rf) (λk=>Bmk k rf hrf) λ_ _ _ hx=>⟨10,hx⟩
def Zv:Sig:=⟨1,[],[(0,.ptr 0 0)],[(0,.cells [.sl .tok false,.int .i64,.bool,.int .i64])],1,1,0,[],[]⟩
def Aay:Sig:=⟨1,[(0,.sv .expr)],[],[(0,.cells [.sl .tok false,.int .i64,.bool,.int .i64])],1,1,0,[],[]⟩
abbrev Bmh:=List Tok×Int×Bool×Int
abbrev Awb:=Xpr×List Tok×Int×Bool×Int
def Ar2:Sig:=⟨36,[(2,.int .i64),(27,.int .i64),(28,.int .i64)],[(8,.ptr 80 0),(10,.ptr 81 0)],[(0,.cells [.sl .tok false,.int .i64,.bool,.int .i64]),(1,.one (.sv .expr)),(80,.one (.sv .expr)),(81,.one (.sv .expr))],82,80,400,[],[]⟩
abbrev Anz:=Int×Int×Int×List Tok×Int×Bool×Int×Xpr×Xpr×Xpr
def A45{R:Type}(rec:Anz->Option R)(kx:Ex->Anz->Option R)(v:Anz):Option R:=match v with
 |(a,b,c,w6,w7,w8,w9,d,e,f) =>
 cond (decide (c<b)) (
  rec (a,b,(wr .i64 (c+1)),w6,w7,w8,w9,d,e,(Xpr.mk a ⟨0,0,[]⟩ [] [f]))) (
  kx (.exit 2) (a,b,c,w6,w7,w8,w9,d,e,f))
def Aqm:Sig:=⟨36,[(1,.str),(2,.int .i64),(9,.int .i64)],[(0,.ptr 0 0),(3,.bm 280 [.ptr 0 0]),(8,.ptr 80 0)],[(0,.cells [.sl .tok false,.int .i64,.bool,.int .i64]),(1,.one (.sv .expr)),(80,.one (.sv .expr))],81,80,400,[],[]⟩
abbrev Amc:=Str×Int×Int×List Tok×Int×Bool×Int×Xpr×Xpr
def A50{R:Type}(rec:Amc->Option R)(kx:Ex->Amc->Option R)(v:Amc):Option R:=match v with
 |(v,v1,v2,w,w1,w2,w3,w4,w5) =>
 cond (!w2) (
  (Bc (v,w,w1,w2,w3)).bind λ(x,x1,x2,x3,x4) =>
  cond (x) (
   rec (v,v1,(wr .i64 (v2+1)),x1,x2,x3,x4,w4,w5)) (
   kx (.exit 0) (v,v1,v2,x1,x2,x3,x4,w4,w5))) (
  kx (.exit 0) (v,v1,v2,w,w1,w2,w3,w4,w5))
def Au5(R:Type)(k:Nat)(rf:Bi->Option Bh):Px R:=pxO [(139,An Dt Du Bc),(280,An Ahv Ain (A5s rf))] [] [(2,Am k Aqm (A50)),(6,Am k Ar2 (A45))] []
noncomputable def Bcc(R:Type)(k:Nat)(rf:Bi->Option Bh):Px R:=pxO [(279,A2 80 400 (Au5 R k rf) Tryz.f279)] [] [] []
def Aem(k:Nat)(rf:Bi->Option Bh)(x:Bmh):Option (Awb):=match x with
 |(l,n,b,p) =>
 Al (λrec=>A50 rec (λe vz=>match vz with|(_,v4,v5,v6,v7,v8,v9,a,c)=>match e with
  |.exit 0 =>
  (A5s rf (v6,v7,v8,v9)).bind λ(x5,x6,x7,x8,x9) =>
   Al (λrec=>A45 rec (λe vz=>match vz with|(_,_,_,d,f,g,h,_,_,i)=>match e with
   |.exit 2 =>some (i,d,f,g,h)
   |_=>none)) k (v4,v5,0,x6,x7,x8,x9,a,c,x5)
  |_=>none)) k ([78,79,84],3,0,l,n,b,p,(Xpr.mk 0 ⟨0,0,[]⟩ [] []),(Xpr.mk 0 ⟨0,0,[]⟩ [] []))
theorem Bjh(k:Nat)(rf:Bi->Option Bh)(hrf:FM 210 Cu Cv rf):FM 272 Zv Aay (Aem k rf):=fRL (px:=Bcc _ k rf) (n:=0) Tryz.func272 rfl (λcx H=>by have h1:Lv cx (Au5 (Awb) k rf):=lv H (l1 H Ea (l1 H (Bti rf hrf) Ae)) Ab Aa;have hlpnot_0:=lO H h1 (b:=lp Tryz.f279 0) (k:=k) (n:=0) (s:=Aqm) (step:=A50) (λ_ _ _ (_,_,_,_,_,_,_,_,_)=>by kernel_rfl) Ah;have hlpnot_1:=lO H h1 (b:=lp Tryz.f279 1) (k:=k) (n:=0) (s:=Ar2) (step:=A45) (λ_ _ _ (_,_,_,_,_,_,_,_,_,_)=>by kernel_rfl) Ah;have h0:Lv cx (Bcc (Awb) k rf):=lv H (Az (cR H h1 Tryz.func279 rfl (n:=2) ((A5 (A5 Ah hlpnot_0) hlpnot_1))) Ae) Ab Aa;exact⟨h0,Ah⟩) λ(_,_,_,_)=>by kernel_rfl
def Al6(rf:Bi->Option Bh):Bmh->Option Awb:=λx=>Aem ((x.1.length+1)) rf x
theorem Bct(rf:Bi->Option Bh)(hrf:FM 210 Cu Cv rf):FM 272 Zv Aay (Al6 rf):=FnLn.fin (ι:=Nat) (sg:=Zv) (so:=Aay) 0 (F:=λk=>Aem k rf) (λk=>Bjh k rf hrf) λx _ _ hx=>⟨(x.1.length+1),hx⟩
def Zr:Sig:=⟨1,[],[(0,.ptr 0 0)],[(0,.cells [.sl .tok false,.int .i64,.bool,.int .i64])],1,1,0,[],[]⟩
def Z6:Sig:=⟨1,[(0,.sv .expr)],[],[(0,.cells [.sl .tok false,.int .i64,.bool,.int .i64])],1,1,0,[],[]⟩
abbrev Bnm:=List Tok×Int×Bool×Int
abbrev Ax6:=Xpr×List Tok×Int×Bool×Int
def Aso:Sig:=⟨38,[(2,.sl .pair true),(17,.sl .pair false),(18,.int .i64),(19,.int .i64)],[(0,.ptr 0 0),(1,.bm 272 [.ptr 0 0]),(6,.ptr 80 0),(7,.ptr 81 0)],[(0,.cells [.sl .tok false,.int .i64,.bool,.int .i64]),(1,.one (.sv .expr)),(80,.one (.sv .expr)),(81,.one (.sv .expr))],82,80,400,[],[]⟩
abbrev Akz:=List PairS×List PairS×Int×Int×List Tok×Int×Bool×Int×Xpr×Xpr×Xpr
def A4u{R:Type}(rf:Bi->Option Bh)(rec:Akz->Option R)(kx:Ex->Akz->Option R)(v:Akz):Option R:=match v with
 |(v1,v2,v3,v4,w7,w8,w9,d,a,b,c) =>
 cond (decide (v4<v3)) (
  chk (inb v4 v2.length) (
  (Bc ((at' .pair v2 v4).sign,w7,w8,w9,d)).bind λ(x5,x6,x7,x8,x9) =>
   cond (x5) (
   (Al6 rf (x6,x7,x8,x9)).bind λ(e,f,g,h,i) =>kx (.exit 1) (v1,v2,v3,v4,f,g,h,i,a,b,(Xpr.mk ((at' .pair v2 v4).kind) ⟨0,0,[]⟩ [] [c,e]))) (
   rec (v1,v2,v3,(wr .i64 (v4+1)),x6,x7,x8,x9,a,b,c)))) (
  kx (.exit 2) (v1,v2,v3,v4,w7,w8,w9,d,a,b,c))
def Ase:Sig:=⟨38,[(2,.sl .pair true)],[(0,.ptr 0 0),(1,.bm 272 [.ptr 0 0]),(6,.ptr 80 0),(7,.ptr 81 0)],[(0,.cells [.sl .tok false,.int .i64,.bool,.int .i64]),(1,.one (.sv .expr)),(80,.one (.sv .expr)),(81,.one (.sv .expr))],82,80,400,[],[]⟩
abbrev Aka:=List PairS×List Tok×Int×Bool×Int×Xpr×Xpr×Xpr
def A7i{R:Type}(k:Nat)(rf:Bi->Option Bh)(rec:Aka->Option R)(kx:Ex->Aka->Option R)(v:Aka):Option R:=match v with
 |(v,w,w1,w2,w3,w4,w5,w6) =>
 cond (!w2) (
  Al (λrc=>A4u rf rc (λe vz=>match vz with|(v5,_,_,_,v9,a,b,c,d,f,g)=>match e with
  |.exit 1 =>rec (v5,v9,a,b,c,d,f,g)
  |.exit 2 =>kx (.exit 0) (v5,v9,a,b,c,d,f,g)
  |_=>none)) k (v,v,(v.length:Int),0,w,w1,w2,w3,w4,w5,w6)) (
  kx (.exit 0) (v,w,w1,w2,w3,w4,w5,w6))
def Aqz(R:Type)(k:Nat)(rf:Bi->Option Bh):Px R:=pxO [(272,An Zv Aay (Al6 rf)),(139,An Dt Du Bc)] [] [(4,Am k Aso (A4u rf)),(2,Am k Ase (A7i k rf))] [(272,Dr Zv Aay (Al6 rf))]
noncomputable def Bck(R:Type)(k:Nat)(rf:Bi->Option Bh):Px R:=pxO [(254,A2 80 400 (Aqz R k rf) Tryz.f254)] [] [] []
def Adl(k:Nat)(rf:Bi->Option Bh)(x:Bnm):Option (Ax6):=match x with
 |(l,n,b,p) =>
 (Al6 rf (l,n,b,p)).bind λ(x,x1,x2,x3,x4) =>
  Al (λrec=>A7i k rf rec (λe vz=>match vz with|(_,a,c,d,f,_,_,g)=>match e with
  |.exit 0 =>some (g,a,c,d,f)
  |_=>none)) k ([(PairS.mk [65,78,68] 4)],x1,x2,x3,x4,(Xpr.mk 0 ⟨0,0,[]⟩ [] []),(Xpr.mk 0 ⟨0,0,[]⟩ [] []),x)
theorem Bqe(k:Nat)(rf:Bi->Option Bh)(hrf:FM 210 Cu Cv rf):FM 255 Zr Z6 (Adl k rf):=fRL (px:=Bck _ k rf) (n:=0) Tryz.func255 rfl (λcx H=>by have h1:Lv cx (Aqz (Ax6) k rf):=lv H (l1 H (Bct rf hrf) (l1 H Ea Ae)) Ab (w1 H (Bct rf hrf) Aa);have hlpand_1:=lO H h1 (b:=lpC (lp Tryz.f254 0) 0) (k:=k) (n:=0) (s:=Aso) (step:=A4u rf) (λ_ _ _ (_,_,_,_,_,_,_,_,_,_,_)=>by kernel_rfl) Ah;have hlpand_0:=lO H h1 (b:=lp Tryz.f254 0) (k:=k) (n:=1) (s:=Ase) (step:=A7i k rf) (λ_ _ _ (_,_,_,_,_,_,_,_)=>by kernel_rfl) (A5 Ah hlpand_1);have h0:Lv cx (Bck (Ax6) k rf):=lv H (Az (cR H h1 Tryz.func254 rfl (n:=2) ((A5 (A5 Ah hlpand_0) hlpand_1))) Ae) Ab Aa;exact⟨h0,Ah⟩) λ(_,_,_,_)=>by kernel_rfl
def Aph(rf:Bi->Option Bh):Bnm->Option Ax6:=λx=>Adl ((x.1.length+3)) rf x
theorem Ba9(rf:Bi->Option Bh)(hrf:FM 210 Cu Cv rf):FM 255 Zr Z6 (Aph rf):=FnLn.fin (ι:=Nat) (sg:=Zr) (so:=Z6) 0 (F:=λk=>Adl k rf) (λk=>Bqe k rf hrf) λx _ _ hx=>⟨(x.1.length+3),hx⟩
def A1o:Sig:=⟨38,[(2,.sl .pair true),(17,.sl .pair false),(18,.int .i64),(19,.int .i64)],[(0,.ptr 0 0),(1,.bm 255 [.ptr 0 0]),(6,.ptr 80 0),(7,.ptr 81 0)],[(0,.cells [.sl .tok false,.int .i64,.bool,.int .i64]),(1,.one (.sv .expr)),(80,.one (.sv .expr)),(81,.one (.sv .expr))],82,80,400,[],[]⟩
abbrev Avp:=List PairS×List PairS×Int×Int×List Tok×Int×Bool×Int×Xpr×Xpr×Xpr
def Boc{R:Type}(rf:Bi->Option Bh)(rec:Avp->Option R)(kx:Ex->Avp->Option R)(v:Avp):Option R:=match v with
 |(v1,v2,v3,v4,w7,w8,w9,d,a,b,c) =>
 cond (decide (v4<v3)) (
  chk (inb v4 v2.length) (
  (Bc ((at' .pair v2 v4).sign,w7,w8,w9,d)).bind λ(x5,x6,x7,x8,x9) =>
   cond (x5) (
   (Aph rf (x6,x7,x8,x9)).bind λ(e,f,g,h,i) =>kx (.exit 1) (v1,v2,v3,v4,f,g,h,i,a,b,(Xpr.mk ((at' .pair v2 v4).kind) ⟨0,0,[]⟩ [] [c,e]))) (
   rec (v1,v2,v3,(wr .i64 (v4+1)),x6,x7,x8,x9,a,b,c)))) (
  kx (.exit 2) (v1,v2,v3,v4,w7,w8,w9,d,a,b,c))
def A0b:Sig:=⟨38,[(2,.sl .pair true)],[(0,.ptr 0 0),(1,.bm 255 [.ptr 0 0]),(6,.ptr 80 0),(7,.ptr 81 0)],[(0,.cells [.sl .tok false,.int .i64,.bool,.int .i64]),(1,.one (.sv .expr)),(80,.one (.sv .expr)),(81,.one (.sv .expr))],82,80,400,[],[]⟩
abbrev Awg:=List PairS×List Tok×Int×Bool×Int×Xpr×Xpr×Xpr
def Bjp{R:Type}(k:Nat)(rf:Bi->Option Bh)(rec:Awg->Option R)(kx:Ex->Awg->Option R)(v:Awg):Option R:=match v with
 |(v,w,w1,w2,w3,w4,w5,w6) =>
 cond (!w2) (
  Al (λrc=>Boc rf rc (λe vz=>match vz with|(v5,_,_,_,v9,a,b,c,d,f,g)=>match e with
  |.exit 1 =>rec (v5,v9,a,b,c,d,f,g)
  |.exit 2 =>kx (.exit 0) (v5,v9,a,b,c,d,f,g)
  |_=>none)) k (v,v,(v.length:Int),0,w,w1,w2,w3,w4,w5,w6)) (
  kx (.exit 0) (v,w,w1,w2,w3,w4,w5,w6))
def A3r(R:Type)(k:Nat)(rf:Bi->Option Bh):Px R:=pxO [(255,An Zr Z6 (Aph rf)),(139,An Dt Du Bc)] [] [(4,Am k A1o (Boc rf)),(2,Am k A0b (Bjp k rf))] [(255,Dr Zr Z6 (Aph rf))]
noncomputable def Bnd(R:Type)(k:Nat)(rf:Bi->Option Bh):Px R:=pxO [(254,A2 80 400 (A3r R k rf) Tryz.f254)] [] [] []
def Akm(k:Nat)(rf:Bi->Option Bh)(x:Bi):Option (Bh):=match x with
 |(l,n,b,p) =>
 (Aph rf (l,n,b,p)).bind λ(x,x1,x2,x3,x4) =>
  Al (λrec=>Bjp k rf rec (λe vz=>match vz with|(_,a,c,d,f,_,_,g)=>match e with
  |.exit 0 =>some (g,a,c,d,f)
  |_=>none)) k ([(PairS.mk [79,82] 5)],x1,x2,x3,x4,(Xpr.mk 0 ⟨0,0,[]⟩ [] []),(Xpr.mk 0 ⟨0,0,[]⟩ [] []),x)
theorem Bt1(k:Nat)(rf:Bi->Option Bh)(hrf:FM 210 Cu Cv rf):FM 210 Cu Cv (Akm k rf):=fRL (px:=Bnd _ k rf) (n:=0) Tryz.func210 rfl (λcx H=>by have h1:Lv cx (A3r (Bh) k rf):=lv H (l1 H (Ba9 rf hrf) (l1 H Ea Ae)) Ab (w1 H (Ba9 rf hrf) Aa);have hlpor_1:=lO H h1 (b:=lpC (lp Tryz.f254 0) 0) (k:=k) (n:=0) (s:=A1o) (step:=Boc rf) (λ_ _ _ (_,_,_,_,_,_,_,_,_,_,_)=>by kernel_rfl) Ah;have hlpor_0:=lO H h1 (b:=lp Tryz.f254 0) (k:=k) (n:=1) (s:=A0b) (step:=Bjp k rf) (λ_ _ _ (_,_,_,_,_,_,_,_)=>by kernel_rfl) (A5 Ah hlpor_1);have h0:Lv cx (Bnd (Bh) k rf):=lv H (Az (cR H h1 Tryz.func254 rfl (n:=2) ((A5 (A5 Ah hlpor_0) hlpor_1))) Ae) Ab Aa;exact⟨h0,Ah⟩) λ(_,_,_,_)=>by kernel_rfl
def Bna(rf:Bi->Option Bh):Bi->Option Bh:=λx=>Akm (x.1.length+3) rf x
theorem Bso(rf:Bi->Option Bh)(hrf:FnLn Tryz.prog elT glT 210 Cu Cv rf):FnLn Tryz.prog elT glT 210 Cu Cv (Bna rf) :=.fin (ι:=Nat) (sg:=Cu) (so:=Cv) 0 (F:=λk=>Akm k rf) (λk=>Bt1 k rf hrf) λx _ _ hx=>⟨x.1.length+3,hx⟩
def Rj:Bi->Option Bh:=λx=>Al (V:=Bi) (R:=Bh) Bna (x.1.length+2) x
theorem Ayj:FnLn Tryz.prog elT glT 210 Cu Cv Rj :=.fin (ι:=Nat) (sg:=Cu) (so:=Cv) 0 (F:=λn=>Al (V:=Bi) (R:=Bh) Bna n) (λn=>FnLn.rec' (Sx.enters_of Tryz.func210 rfl rfl) (λrf hrf=>Bso rf hrf) n) λx _ _ hx=>⟨x.1.length+2,hx⟩
def Mz:Sig:=⟨1,[],[(0,.ptr 0 0)],[(0,.cells [.sl .tok false,.int .i64,.bool,.int .i64])],1,1,0,[],[]⟩
def Mn:Sig:=⟨1,[(0,.sl .str true)],[],[(0,.cells [.sl .tok false,.int .i64,.bool,.int .i64])],1,1,0,[],[]⟩
abbrev A23:=List Tok×Int×Bool×Int
abbrev R7:=List Str×List Tok×Int×Bool×Int
def Afl:Sig:=⟨19,[],[(0,.ptr 0 0),(1,.fn 253 [.ptr 2 0,.ptr 1 0])],[(0,.cells [.sl .tok false,.int .i64,.bool,.int .i64]),(1,.fx [.ptr 0 0]),(2,.cells [.sl .str true])],80,80,400,[],[]⟩
abbrev X3:=List Tok×Int×Bool×Int×List Str
def Ala{R:Type}(rec:X3->Option R)(kx:Ex->X3->Option R)(v:X3):Option R:=match v with
 |(w,w1,w2,w3,w4) =>
 cond (!w2) (
  (Bc ([44],w,w1,w2,w3)).bind λ(x9,a,b,c,d) =>
  cond (x9) (
   (B3 (a,b,c,d)).bind λ(e,f,g,h,i) =>
   chk (decide (w4.length+1<=Ao)) (
    rec (f,g,h,i,(w4++[e])))) (
   kx (.exit 0) (a,b,c,d,w4))) (
  kx (.exit 0) (w,w1,w2,w3,w4))
def W0(R:Type)(_k:Nat):Px R:=pxO [] [] [] [(142,Dr E7 E4 B3)]
noncomputable def Afa(R:Type)(k:Nat):Px R:=pxO [(139,An Dt Du Bc),(253,A2 120 600 (W0 R k) Tryz.f253)] [] [(1,Am k Afl (Ala))] []
noncomputable def Arn(R:Type)(k:Nat):Px R:=pxO [(141,An D2 Dy Bd),(143,A2 80 400 (Afa R k) Tryz.f143)] [] [] []
def Q9(k:Nat)(x:A23):Option (R7):=match x with
 |(l,n,b,p) =>
 (Bd ([[40]],l,n,b,p)).bind λ(x,x1,x2,x3) =>
  (B3 (x,x1,x2,x3)).bind λ(x4,x5,x6,x7,x8) =>
  Al (λrec=>Ala rec (λe vz=>match vz with|(v,v1,v2,v3,v4)=>match e with
   |.exit 0 =>
   (Bd ([[41]],v,v1,v2,v3)).bind λ(a,c,d,f) =>some (v4,a,c,d,f)
   |_=>none)) k (x5,x6,x7,x8,[x4])
theorem A44(k:Nat):FM 208 Mz Mn (Q9 k):=fRL (px:=Arn _ k) (n:=0) Tryz.func208 rfl (λcx H=>by have h2:Lv cx (W0 (R7) k):=lv H Ae Ab (w1 H G5 Aa);have h1:Lv cx (Afa (R7) k):=lv H (l1 H Ea (Az (cR H h2 Tryz.func253 rfl (n:=0) (Ah)) Ae)) Ab Aa;have hlpnames_0:=lO H h1 (b:=lp Tryz.f143 0) (k:=k) (n:=0) (s:=Afl) (step:=Ala) (λ_ _ _ (_,_,_,_,_)=>by kernel_rfl) Ah;have h0:Lv cx (Arn (R7) k):=lv H (l1 H E3 (Az (cR H h1 Tryz.func143 rfl (n:=1) ((A5 Ah hlpnames_0))) Ae)) Ab Aa;exact⟨h0,Ah⟩) λ(_,_,_,_)=>by kernel_rfl
def R2:A23->Option R7:=λx=>Q9 ((x.1.length+3)) x
theorem Au7:FM 208 Mz Mn (R2):=FnLn.fin (ι:=Nat) (sg:=Mz) (so:=Mn) 0 (F:=λk=>Q9 k) (λk=>A44 k) λx _ _ hx=>⟨(x.1.length+3),hx⟩
def Mx:Sig:=⟨1,[],[(0,.ptr 0 0)],[(0,.cells [.sl .tok false,.int .i64,.bool,.int .i64])],1,1,0,[],[]⟩
def Ny:Sig:=⟨1,[(0,.sl .expr true)],[],[(0,.cells [.sl .tok false,.int .i64,.bool,.int .i64])],1,1,0,[],[]⟩
abbrev A39:=List Tok×Int×Bool×Int
abbrev Q0:=List Xpr×List Tok×Int×Bool×Int
def Af1:Sig:=⟨19,[],[(0,.ptr 0 0),(1,.fn 209 [.ptr 2 0,.ptr 1 0])],[(0,.cells [.sl .tok false,.int .i64,.bool,.int .i64]),(1,.fx [.ptr 0 0]),(2,.cells [.sl .expr true])],80,80,400,[],[]⟩
abbrev Zi:=List Tok×Int×Bool×Int×List Xpr
def Aj0{R:Type}(rec:Zi->Option R)(kx:Ex->Zi->Option R)(v:Zi):Option R:=match v with
 |(w,w1,w2,w3,w4) =>
 cond (!w2) (
  (Bc ([44],w,w1,w2,w3)).bind λ(x5,x6,x7,x8,x9) =>
  cond (x5) (
   (Rj (x6,x7,x8,x9)).bind λ(a,b,c,d,e) =>
   chk (decide (w4.length+1<=Ao)&&decide ((w4.length:Int)=(w4.length:Int))) (
    rec (b,c,d,e,(w4++[a])))) (
   kx (.exit 0) (x6,x7,x8,x9,w4))) (
  kx (.exit 0) (w,w1,w2,w3,w4))
def Xk(R:Type)(_k:Nat):Px R:=pxO [] [] [] [(210,Dr Cu Cv Rj)]
noncomputable def Aho(R:Type)(k:Nat):Px R:=pxO [(139,An Dt Du Bc),(209,A2 120 600 (Xk R k) Tryz.f209)] [] [(1,Am k Af1 (Aj0))] []
noncomputable def Atj(R:Type)(k:Nat):Px R:=pxO [(143,A2 80 400 (Aho R k) Tryz.f143)] [] [] []
def Sz(k:Nat)(x:A39):Option (Q0):=match x with
 |(l,n,b,p) =>
 (Rj (l,n,b,p)).bind λ(x,x1,x2,x3,x4) =>
  chk (decide (0+1<=Ao)&&decide (0=(0:Int))) (
  Al (λrec=>Aj0 rec (λe vz=>match vz with|(v,v1,v2,v3,v4)=>match e with
   |.exit 0 =>
   some (v4,v,v1,v2,v3)
   |_=>none)) k (x1,x2,x3,x4,[x]))
theorem A6a(k:Nat):FM 145 Mx Ny (Sz k):=fRL (px:=Atj _ k) (n:=0) Tryz.func145 rfl (λcx H=>by have h2:Lv cx (Xk (Q0) k):=lv H Ae Ab (w1 H Ayj Aa);have h1:Lv cx (Aho (Q0) k):=lv H (l1 H Ea (Az (cR H h2 Tryz.func209 rfl (n:=0) (Ah)) Ae)) Ab Aa;have hlpexprs_0:=lO H h1 (b:=lp Tryz.f143 0) (k:=k) (n:=0) (s:=Af1) (step:=Aj0) (λ_ _ _ (_,_,_,_,_)=>by kernel_rfl) Ah;have h0:Lv cx (Atj (Q0) k):=lv H (Az (cR H h1 Tryz.func143 rfl (n:=1) ((A5 Ah hlpexprs_0))) Ae) Ab Aa;exact⟨h0,Ah⟩) λ(_,_,_,_)=>by kernel_rfl
def Mr:A39->Option Q0:=λx=>Sz ((x.1.length+3)) x
theorem As7:FM 145 Mx Ny (Mr):=FnLn.fin (ι:=Nat) (sg:=Mx) (so:=Ny) 0 (F:=λk=>Sz k) (λk=>A6a k) λx _ _ hx=>⟨(x.1.length+3),hx⟩
def Aib:Sig:=⟨1,[],[(0,.ptr 0 0)],[(0,.cells [.sl .tok false,.int .i64,.bool,.int .i64])],1,1,0,[],[]⟩
def Aig:Sig:=⟨1,[(0,.sv .col)],[],[(0,.cells [.sl .tok false,.int .i64,.bool,.int .i64])],1,1,0,[],[]⟩
abbrev Bmr:=List Tok×Int×Bool×Int
abbrev A6e:=Col×List Tok×Int×Bool×Int
def Aqu:Sig:=⟨87,[(10,.int .i64)],[(0,.ptr 0 0),(2,.ptr 1 0),(3,.ptr 2 0),(9,.agg [.str [],.str [],.str [66,79,79,76],.str [73,78,84],.str [84,69,88,84],.str [66,89,84,69,83]])],[(0,.cells [.sl .tok false,.int .i64,.bool,.int .i64]),(1,.one (.sv .col)),(2,.one (.sv .col))],3,1,0,[],[]⟩
abbrev Ai0:=Int×List Tok×Int×Bool×Int×Col×Col
def A6d{R:Type}(rec:Ai0->Option R)(kx:Ex->Ai0->Option R)(v:Ai0):Option R:=match v with
 |(v,w,w1,w2,w3,w4,w5) =>
 cond (decide (v<6)) (
  chk (inb v 6) (
  let j1:=λ(p1:Bool) =>
   let j:=λ(p2:Bool) =>
   cond (p2) (
    (Bc ((at' .str [[],[],[66,79,79,76],[73,78,84],[84,69,88,84],[66,89,84,69,83]] v),w,w1,w2,w3)).bind λ(x5,x6,x7,x8,x9) =>
    cond (x5) (
     rec ((wr .i64 (v+1)),x6,x7,x8,x9,w4,(Col.mk w5.name v w5.notNull w5.unique w5.ref))) (
     rec ((wr .i64 (v+1)),x6,x7,x8,x9,w4,w5))) (
    rec ((wr .i64 (v+1)),w,w1,w2,w3,w4,w5))
   cond (p1) (
   j (decide (w5.kind=0))) (
   j false)
  cond (decide (2<=v)) (
   j1 (!w2)) (
   j1 false))) (
  kx (.exit 0) (v,w,w1,w2,w3,w4,w5))
def Bc1(R:Type)(k:Nat):Px R:=pxO [(142,An E7 E4 B3),(139,An Dt Du Bc),(149,An Gn Gs Ec),(141,An D2 Dy Bd)] [] [(3,Am k Aqu (A6d))] []
def Ade(k:Nat)(x:Bmr):Option (A6e):=match x with
 |(l,n,b,p) =>
 (B3 (l,n,b,p)).bind λ(x,x1,x2,x3,x4) =>
  Al (λrec=>A6d rec (λe vz=>match vz with|(_,v2,v3,v4,v5,_,v7)=>match e with
  |.exit 0 =>
   let j6:=λ(h:List Tok) (i:Int) (d:Bool) (j:Int) =>
   let j2:=λ(m:List Tok) (o:Int) (q:Bool) (r:Int) (a:Col) =>
    let j5:=λ(s:List Tok) (t:Int) (f:Bool) (u:Int) =>
    let j4:=λ(v:List Tok) (w:Int) (g:Bool) (y:Int) (c:Col) =>
     let j3:=λ(p8:Bool) (z:List Tok) (a0:Int) (a1:Bool) (a2:Int) =>
     cond (p8) (
      (B3 (z,a0,a1,a2)).bind λ(a3,a4,a5,a6,a7) =>
      some ((Col.mk c.name c.kind c.notNull c.unique a3),a4,a5,a6,a7)) (
      some (c,z,a0,a1,a2))
     cond (!g) (
     (Bc ([82,69,70,69,82,69,78,67,69,83],v,w,g,y)).bind λ(a8,a9,aa,ab,ac) =>j3 a8 a9 aa ab ac) (
     j3 false v w g y)
    cond (!f) (
     (Bc ([85,78,73,81,85,69],s,t,f,u)).bind λ(ad,ae,af,ag,ah) =>
     j4 ae af ag ah (Col.mk a.name a.kind a.notNull ad a.ref)) (
     j4 s t f u (Col.mk a.name a.kind a.notNull false a.ref))
    cond (a.notNull) (
    (Bd ([[78,85,76,76]],m,o,q,r)).bind λ(ai,aj,ak,al) =>j5 ai aj ak al) (
    j5 m o q r)
   cond (!d) (
    (Bc ([78,79,84],h,i,d,j)).bind λ(am,an,ao,ap,aq) =>
    j2 an ao ap aq (Col.mk v7.name v7.kind am v7.unique v7.ref)) (
    j2 h i d j (Col.mk v7.name v7.kind false v7.unique v7.ref))
   cond (decide (v7.kind=0)) (
   (Ec (v2,v3,v4,v5)).bind λ(ar,au,av,aw) =>j6 ar au av aw) (
   j6 v2 v3 v4 v5)
  |_=>none)) k (0,x1,x2,x3,x4,(Col.mk [] 0 false false []),(Col.mk x 0 false false []))
theorem Bnt(k:Nat):FM 252 Aib Aig (Ade k):=fRL (px:=Bc1 _ k) (n:=1) Tryz.func252 rfl (λcx H=>by have h0:Lv cx (Bc1 (A6e) k):=lv H (l1 H G5 (l1 H Ea (l1 H Jm (l1 H E3 Ae)))) Ab Aa;have hlpcol_0:=lO H h0 (b:=lp Tryz.f252 0) (k:=k) (n:=0) (s:=Aqu) (step:=A6d) (λ_ _ _ (_,_,_,_,_,_,_)=>by kernel_rfl) Ah;exact⟨h0,(A5 Ah hlpcol_0)⟩) λ(_,_,_,_)=>by kernel_rfl
def Avm:Bmr->Option A6e:=λx=>Ade (10) x
theorem Bsu:FM 252 Aib Aig (Avm):=FnLn.fin (ι:=Nat) (sg:=Aib) (so:=Aig) 0 (F:=λk=>Ade k) (λk=>Bnt k) λ_ _ _ hx=>⟨10,hx⟩
def Tv:Sig:=⟨2,[],[(0,.ptr 0 0),(1,.ptr 1 0)],[(0,.cells [.sl .tok false,.int .i64,.bool,.int .i64]),(1,.cells [.int .i64,.str,.str,.sl .col true,.sl .str false,.sl .expr true,.sl .exprs true,.sl .set true,.bool,.int .i64,.int .i64,.int .i64,.str,.str,.sl .expr false,.sl .str true,.sl .bool true,.int .i64])],2,2,0,[],[]⟩
def Vm:Sig:=⟨0,[],[],[(0,.cells [.sl .tok false,.int .i64,.bool,.int .i64]),(1,.cells [.int .i64,.str,.str,.sl .col true,.sl .str false,.sl .expr true,.sl .exprs true,.sl .set true,.bool,.int .i64,.int .i64,.int .i64,.str,.str,.sl .expr false,.sl .str true,.sl .bool true,.int .i64])],2,2,0,[],[]⟩
abbrev Ay5:=List Tok×Int×Bool×Int×Int×Str×Str×List Col×List Str×List Xpr×List (List Xpr)×List SetE×Bool×Int×Int×Int×Str×Str×List Xpr×List Str×List Bool×Int
abbrev Alu:=List Tok×Int×Bool×Int×Int×Str×Str×List Col×List Str×List Xpr×List (List Xpr)×List SetE×Bool×Int×Int×Int×Str×Str×List Xpr×List Str×List Bool×Int
def Agw:Sig:=⟨95,[],[(0,.ptr 0 0),(1,.ptr 1 0)],[(0,.cells [.sl .tok false,.int .i64,.bool,.int .i64]),(1,.cells [.int .i64,.str,.str,.sl .col true,.sl .str true,.sl .expr true,.sl .exprs true,.sl .set true,.bool,.int .i64,.int .i64,.int .i64,.str,.str,.sl .expr false,.sl .str true,.sl .bool true,.int .i64])],2,2,0,[],[]⟩
abbrev Xq:=List Tok×Int×Bool×Int×Int×Str×Str×List Col×List Str×List Xpr×List (List Xpr)×List SetE×Bool×Int×Int×Int×Str×Str×List Xpr×List Str×List Bool×Int
def Ajj{R:Type}(rec:Xq->Option R)(kx:Ex->Xq->Option R)(v:Xq):Option R:=match v with
 |(t,u,b,w,c,d,e,f,g,a,h,i,j,k,l,m,n,o,p,q,r,s) =>
 cond (!b) (
  (Bc ([44],t,u,b,w)).bind λ(a1,x,y,z,a0) =>
  cond (a1) (
   (Bd ([[67,72,69,67,75],[40]],x,y,z,a0)).bind λ(a2,a3,a4,a5) =>
   (Rj (a2,a3,a4,a5)).bind λ(a6,a7,a8,a9,aa) =>
    chk (decide (a.length+1<=Ao)&&decide ((a.length:Int)=(a.length:Int))) (
    (Bd ([[41]],a7,a8,a9,aa)).bind λ(ab,ac,ad,ae) =>rec (ab,ac,ad,ae,c,d,e,f,g,(a++[a6]),h,i,j,k,l,m,n,o,p,q,r,s))) (
   kx (.exit 2) (x,y,z,a0,c,d,e,f,g,a,h,i,j,k,l,m,n,o,p,q,r,s))) (
  kx (.exit 2) (t,u,b,w,c,d,e,f,g,a,h,i,j,k,l,m,n,o,p,q,r,s))
def Ahj:Sig:=⟨95,[],[(0,.ptr 0 0),(1,.ptr 1 0)],[(0,.cells [.sl .tok false,.int .i64,.bool,.int .i64]),(1,.cells [.int .i64,.str,.str,.sl .col true,.sl .str false,.sl .expr true,.sl .exprs true,.sl .set true,.bool,.int .i64,.int .i64,.int .i64,.str,.str,.sl .expr false,.sl .str true,.sl .bool true,.int .i64])],2,2,0,[],[]⟩
abbrev Y4:=List Tok×Int×Bool×Int×Int×Str×Str×List Col×List Str×List Xpr×List (List Xpr)×List SetE×Bool×Int×Int×Int×Str×Str×List Xpr×List Str×List Bool×Int
def Apm{R:Type}(rec:Y4->Option R)(kx:Ex->Y4->Option R)(v:Y4):Option R:=match v with
 |(w,w1,w2,w3,w4,w5,w6,w7,w8,w9,a,b,c,d,e,f,g,h,i,j,k,l) =>
 cond (!w2) (
  (Bc ([80,82,73,77,65,82,89],w,w1,w2,w3)).bind λ(q,m,n,o,p) =>
  cond (!q) (
   (Avm (m,n,o,p)).bind λ(r,s,t,u,x) =>
   chk (decide (w7.length+1<=Ao)) (
    (Bd ([[44]],s,t,u,x)).bind λ(y,z,a0,a1) =>
    rec (y,z,a0,a1,w4,w5,w6,(w7++[r]),w8,w9,a,b,c,d,e,f,g,h,i,j,k,l))) (
   kx (.exit 0) (m,n,o,p,w4,w5,w6,w7,w8,w9,a,b,c,d,e,f,g,h,i,j,k,l))) (
  kx (.exit 0) (w,w1,w2,w3,w4,w5,w6,w7,w8,w9,a,b,c,d,e,f,g,h,i,j,k,l))
def Aq7(R:Type)(k:Nat):Px R:=pxO [(142,An E7 E4 B3),(141,An D2 Dy Bd),(139,An Dt Du Bc),(208,An Mz Mn R2)] [] [(4,Am k Ahj (Apm)),(9,Am k Agw (Ajj))] [(252,Dr Aib Aig Avm),(210,Dr Cu Cv Rj)]
def S7(k:Nat)(x:Ay5):Option (Alu):=match x with
 |(l,n,b,p,_,_,so,sc,ss,sl,sr,st,sh,wk,vk,vn,vs,wn,wl,sd,se,sm) =>
 (B3 (l,n,b,p)).bind λ(x,x1,x2,x3,x4) =>
  (Bd ([[40]],x1,x2,x3,x4)).bind λ(x5,x6,x7,x8) =>
  (Avm (x5,x6,x7,x8)).bind λ(x9,a,c,d,f) =>
   chk (decide (sc.length+1<=Ao)) (
   (Bd ([[44]],a,c,d,f)).bind λ(g,h,i,j) =>
    Al (λrec=>Apm rec (λe vz=>match vz with|(v,v1,v2,v3,v4,v5,v6,v7,_,v9,m,o,q,r,s,t,u,w,y,z,a0,a1)=>match e with
    |.exit 0 =>
     (Bd ([[75,69,89]],v,v1,v2,v3)).bind λ(a2,a3,a4,a5) =>
     (R2 (a2,a3,a4,a5)).bind λ(a6,a7,a8,a9,aa) =>
      Al (λrec=>Ajj rec (λe vz=>match vz with|(ab,ac,ad,ae,af,ag,ah,ai,aj,ak,al,am,an,ao,ap,aq,ar,au,av,aw,ax,ay)=>match e with
      |.exit 2 =>
       (Bd ([[41]],ab,ac,ad,ae)).bind λ(az,b0,b1,b2) =>
       some (az,b0,b1,b2,af,ag,ah,ai,aj,ak,al,am,an,ao,ap,aq,ar,au,av,aw,ax,ay)
      |_=>none)) k (a7,a8,a9,aa,v4,v5,v6,v7,a6,v9,m,o,q,r,s,t,u,w,y,z,a0,a1)
    |_=>none)) k (g,h,i,j,1,x,so,(sc++[x9]),ss,sl,sr,st,sh,wk,vk,vn,vs,wn,wl,sd,se,sm))
theorem A64(k:Nat):FM 207 Tv Vm (S7 k):=fRL (px:=Aq7 _ k) (n:=2) Tryz.func207 rfl (λcx H=>by have h0:Lv cx (Aq7 (Alu) k):=lv H (l1 H G5 (l1 H E3 (l1 H Ea (l1 H Au7 Ae)))) Ab (w1 H Bsu (w1 H Ayj Aa));have hlptable_0:=lO H h0 (b:=lp Tryz.f207 0) (k:=k) (n:=0) (s:=Ahj) (step:=Apm) (λ_ _ _ (_,_,_,_,_,_,_,_,_,_,_,_,_,_,_,_,_,_,_,_,_,_)=>by kernel_rfl) Ah;have hlptable_1:=lO H h0 (b:=lp Tryz.f207 1) (k:=k) (n:=0) (s:=Agw) (step:=Ajj) (λ_ _ _ (_,_,_,_,_,_,_,_,_,_,_,_,_,_,_,_,_,_,_,_,_,_)=>by kernel_rfl) Ah;exact⟨h0,(A5 (A5 Ah hlptable_0) hlptable_1)⟩) λ(_,_,_,_,_,_,_,_,_,_,_,_,_,_,_,_,_,_,_,_,_,_)=>by kernel_rfl
def An7:Ay5->Option Alu:=λx=>S7 ((x.1.length+3)) x
theorem Bh0:FM 207 Tv Vm (An7):=FnLn.fin (ι:=Nat) (sg:=Tv) (so:=Vm) 0 (F:=λk=>S7 k) (λk=>A64 k) λx _ _ hx=>⟨(x.1.length+3),hx⟩
def Yf:Sig:=⟨2,[],[(0,.ptr 0 0),(1,.ptr 1 0)],[(0,.cells [.sl .tok false,.int .i64,.bool,.int .i64]),(1,.cells [.int .i64,.str,.str,.sl .col true,.sl .str false,.sl .expr true,.sl .exprs true,.sl .set true,.bool,.int .i64,.int .i64,.int .i64,.str,.str,.sl .expr false,.sl .str true,.sl .bool true,.int .i64])],2,2,0,[],[]⟩
def X7:Sig:=⟨0,[],[],[(0,.cells [.sl .tok false,.int .i64,.bool,.int .i64]),(1,.cells [.int .i64,.str,.str,.sl .col true,.sl .str false,.sl .expr true,.sl .exprs true,.sl .set true,.bool,.int .i64,.int .i64,.int .i64,.str,.str,.sl .expr false,.sl .str true,.sl .bool true,.int .i64])],2,2,0,[],[]⟩
abbrev Asb:=List Tok×Int×Bool×Int×Int×Str×Str×List Col×List Str×List Xpr×List (List Xpr)×List SetE×Bool×Int×Int×Int×Str×Str×List Xpr×List Str×List Bool×Int
abbrev Aru:=List Tok×Int×Bool×Int×Int×Str×Str×List Col×List Str×List Xpr×List (List Xpr)×List SetE×Bool×Int×Int×Int×Str×Str×List Xpr×List Str×List Bool×Int
def A7z(R:Type):Px R:=pxO [(139,An Dt Du Bc),(207,An Tv Vm An7),(141,An D2 Dy Bd),(142,An E7 E4 B3),(208,An Mz Mn R2)] [] [] []
def Aax(x:Asb):Option (Aru):=match x with
 |(l,n,b,p,sk,sn,so,sc,ss,sl,sr,st,sh,wk,vk,vn,vs,wn,wl,sd,se,sm) =>
 (Bc ([84,65,66,76,69],l,n,b,p)).bind λ(x,x1,x2,x3,x4) =>
  cond (x) (
  (An7 (x1,x2,x3,x4,sk,sn,so,sc,ss,sl,sr,st,sh,wk,vk,vn,vs,wn,wl,sd,se,sm)).bind λ(x5,x6,x7,x8,x9,a,c,d,e,f,g,h,i,j,k,m,o,q,r,s,t,u) =>some (x5,x6,x7,x8,x9,a,c,d,e,f,g,h,i,j,k,m,o,q,r,s,t,u)) (
  (Bd ([[73,78,68,69,88]],x1,x2,x3,x4)).bind λ(v,w,y,z) =>
   (B3 (v,w,y,z)).bind λ(a0,a1,a2,a3,a4) =>
   (Bd ([[79,78]],a1,a2,a3,a4)).bind λ(a5,a6,a7,a8) =>
    (B3 (a5,a6,a7,a8)).bind λ(a9,aa,ab,ac,ad) =>
    (R2 (aa,ab,ac,ad)).bind λ(ae,af,ag,ah,ai) =>some (af,ag,ah,ai,3,a0,a9,sc,ae,sl,sr,st,sh,wk,vk,vn,vs,wn,wl,sd,se,sm))
theorem A26:FM 140 Yf X7 (Aax):=fRL (px:=A7z _) (n:=0) Tryz.func140 rfl (λ_ H=>⟨lv H (l1 H Ea (l1 H Bh0 (l1 H E3 (l1 H G5 (l1 H Au7 Ae))))) Ab Aa,Ah⟩) λ(_,_,_,_,_,_,_,_,_,_,_,_,_,_,_,_,_,_,_,_,_,_)=>by kernel_rfl
def Adz:Asb->Option Aru:=λx=>Aax x
theorem A6y:FM 140 Yf X7 (Adz):=A26
def Mo:Sig:=⟨2,[],[(0,.ptr 0 0),(1,.ptr 1 0)],[(0,.cells [.sl .tok false,.int .i64,.bool,.int .i64]),(1,.cells [.int .i64,.str,.str,.sl .col true,.sl .str false,.sl .expr true,.sl .exprs true,.sl .set true,.bool,.int .i64,.int .i64,.int .i64,.str,.str,.sl .expr false,.sl .str true,.sl .bool true,.int .i64])],2,2,0,[],[]⟩
def N2:Sig:=⟨0,[],[],[(0,.cells [.sl .tok false,.int .i64,.bool,.int .i64]),(1,.cells [.int .i64,.str,.str,.sl .col true,.sl .str false,.sl .expr true,.sl .exprs true,.sl .set true,.bool,.int .i64,.int .i64,.int .i64,.str,.str,.sl .expr false,.sl .str true,.sl .bool true,.int .i64])],2,2,0,[],[]⟩
abbrev A4e:=List Tok×Int×Bool×Int×Int×Str×Str×List Col×List Str×List Xpr×List (List Xpr)×List SetE×Bool×Int×Int×Int×Str×Str×List Xpr×List Str×List Bool×Int
abbrev A21:=List Tok×Int×Bool×Int×Int×Str×Str×List Col×List Str×List Xpr×List (List Xpr)×List SetE×Bool×Int×Int×Int×Str×Str×List Xpr×List Str×List Bool×Int
def Bf7(R:Type):Px R:=pxO [(139,An Dt Du Bc),(210,An Cu Cv Rj)] [] [] []
def Ago(x:A4e):Option (A21):=match x with
 |(l,n,b,p,sk,sn,so,sc,ss,sl,sr,st,sh,wk,vk,vn,vs,wn,wl,sd,se,sm) =>
 let j:=λ(p2:Bool) (q4:List Tok) (q5:Int) (q6:Bool) (q7:Int) =>
  cond (p2) (
  (Rj (q4,q5,q6,q7)).bind λ(x5,x6,x7,x8,x9) =>some (x6,x7,x8,x9,sk,sn,so,sc,ss,sl,sr,st,true,x5.kind,x5.v.kind,x5.v.n,x5.v.s,x5.name,x5.l,sd,se,sm)) (
  some (q4,q5,q6,q7,sk,sn,so,sc,ss,sl,sr,st,sh,wk,vk,vn,vs,wn,wl,sd,se,sm))
 cond (!b) (
  (Bc ([87,72,69,82,69],l,n,b,p)).bind λ(x,x1,x2,x3,x4) =>
  j x x1 x2 x3 x4) (
  j false l n b p)
theorem A84:FM 147 Mo N2 (Ago):=fRL (px:=Bf7 _) (n:=0) Tryz.func147 rfl (λ_ H=>⟨lv H (l1 H Ea (l1 H Ayj Ae)) Ab Aa,Ah⟩) λ(_,_,_,_,_,_,_,_,_,_,_,_,_,_,_,_,_,_,_,_,_,_)=>by kernel_rfl
def J2:A4e->Option A21:=λx=>Ago x
theorem Ac6:FM 147 Mo N2 (J2):=A84
def Pk:Sig:=⟨2,[],[(0,.ptr 0 0),(1,.ptr 1 0)],[(0,.cells [.sl .tok false,.int .i64,.bool,.int .i64]),(1,.cells [.int .i64,.str,.str,.sl .col true,.sl .str false,.sl .expr true,.sl .exprs true,.sl .set true,.bool,.int .i64,.int .i64,.int .i64,.str,.str,.sl .expr false,.sl .str true,.sl .bool true,.int .i64])],2,2,0,[],[]⟩
def Pd:Sig:=⟨0,[],[],[(0,.cells [.sl .tok false,.int .i64,.bool,.int .i64]),(1,.cells [.int .i64,.str,.str,.sl .col true,.sl .str false,.sl .expr true,.sl .exprs true,.sl .set true,.bool,.int .i64,.int .i64,.int .i64,.str,.str,.sl .expr false,.sl .str true,.sl .bool true,.int .i64])],2,2,0,[],[]⟩
abbrev Au4:=List Tok×Int×Bool×Int×Int×Str×Str×List Col×List Str×List Xpr×List (List Xpr)×List SetE×Bool×Int×Int×Int×Str×Str×List Xpr×List Str×List Bool×Int
abbrev Mg:=List Tok×Int×Bool×Int×Int×Str×Str×List Col×List Str×List Xpr×List (List Xpr)×List SetE×Bool×Int×Int×Int×Str×Str×List Xpr×List Str×List Bool×Int
def Zp:Sig:=⟨19,[],[(0,.ptr 0 0),(1,.fn 211 [.ptr 2 0,.ptr 3 0])],[(0,.cells [.sl .tok false,.int .i64,.bool,.int .i64]),(1,.cells [.int .i64,.str,.str,.sl .col true,.sl .str false,.sl .expr true,.sl .exprs true,.sl .set true,.bool,.int .i64,.int .i64,.int .i64,.str,.str,.sl .expr false,.sl .str true,.sl .bool true,.int .i64]),(2,.fx [.ptr 0 0]),(3,.fx [.ptr 1 0])],80,80,400,[],[]⟩
abbrev Ra:=List Tok×Int×Bool×Int×Int×Str×Str×List Col×List Str×List Xpr×List (List Xpr)×List SetE×Bool×Int×Int×Int×Str×Str×List Xpr×List Str×List Bool×Int
def Acs{R:Type}(rec:Ra->Option R)(kx:Ex->Ra->Option R)(v:Ra):Option R:=match v with
 |(w,w1,w2,w3,w4,w5,w6,w7,w8,w9,b,a,c,d,e,f,g,h,i,j,k,l) =>
 cond (!w2) (
  (Bc ([44],w,w1,w2,w3)).bind λ(q,m,n,o,p) =>
  cond (q) (
   (B3 (m,n,o,p)).bind λ(r,s,t,u,x) =>
   (Bd ([[61]],s,t,u,x)).bind λ(y,z,a0,a1) =>
    (Rj (y,z,a0,a1)).bind λ(a2,a3,a4,a5,a6) =>
    chk (decide (a.length+1<=Ao)) (
     rec (a3,a4,a5,a6,w4,w5,w6,w7,w8,w9,b,(a++[(SetE.mk r (Gf a2))]),c,d,e,f,g,h,i,j,k,l))) (
   kx (.exit 0) (m,n,o,p,w4,w5,w6,w7,w8,w9,b,a,c,d,e,f,g,h,i,j,k,l))) (
  kx (.exit 0) (w,w1,w2,w3,w4,w5,w6,w7,w8,w9,b,a,c,d,e,f,g,h,i,j,k,l))
def R6(R:Type)(_k:Nat):Px R:=pxO [(142,An E7 E4 B3),(141,An D2 Dy Bd),(210,An Cu Cv Rj)] [] [] []
noncomputable def Ab6(R:Type)(k:Nat):Px R:=pxO [(139,An Dt Du Bc),(211,A2 120 600 (R6 R k) Tryz.f211)] [] [(1,Am k Zp (Acs))] []
noncomputable def Ake(R:Type)(k:Nat):Px R:=pxO [(141,An D2 Dy Bd),(147,An Mo N2 J2),(143,A2 80 400 (Ab6 R k) Tryz.f143)] [] [] [(142,Dr E7 E4 B3)]
def Ot(k:Nat)(x:Au4):Option (Mg):=match x with
 |(l,n,b,p,_,_,so,sc,ss,sl,sr,st,sh,wk,vk,vn,vs,wn,wl,sd,se,sm) =>
 (B3 (l,n,b,p)).bind λ(x,x1,x2,x3,x4) =>
  (Bd ([[83,69,84]],x1,x2,x3,x4)).bind λ(x5,x6,x7,x8) =>
  (B3 (x5,x6,x7,x8)).bind λ(x9,a,c,d,f) =>
   (Bd ([[61]],a,c,d,f)).bind λ(g,h,i,j) =>
   (Rj (g,h,i,j)).bind λ(m,o,q,r,s) =>
    chk (decide (st.length+1<=Ao)) (
    Al (λrec=>Acs rec (λe vz=>match vz with|(v,v1,v2,v3,v4,v5,v6,v7,v8,v9,t,u,w,y,z,a0,a1,a2,a3,a4,a5,a6)=>match e with
     |.exit 0 =>
     (J2 (v,v1,v2,v3,v4,v5,v6,v7,v8,v9,t,u,w,y,z,a0,a1,a2,a3,a4,a5,a6)).bind λ(a7,a8,a9,aa,ab,ac,ad,ae,af,ag,ah,ai,aj,ak,al,am,an,ao,ap,aq,ar,au) =>some (a7,a8,a9,aa,ab,ac,ad,ae,af,ag,ah,ai,aj,ak,al,am,an,ao,ap,aq,ar,au)
     |_=>none)) k (o,q,r,s,6,x,so,sc,ss,sl,sr,(st++[(SetE.mk x9 (Gf m))]),sh,wk,vk,vn,vs,wn,wl,sd,se,sm))
theorem A1s(k:Nat):FM 146 Pk Pd (Ot k):=fRL (px:=Ake _ k) (n:=0) Tryz.func146 rfl (λcx H=>by have h2:Lv cx (R6 (Mg) k):=lv H (l1 H G5 (l1 H E3 (l1 H Ayj Ae))) Ab Aa;have h1:Lv cx (Ab6 (Mg) k):=lv H (l1 H Ea (Az (cR H h2 Tryz.func211 rfl (n:=0) (Ah)) Ae)) Ab Aa;have hlpupdate_0:=lO H h1 (b:=lp Tryz.f143 0) (k:=k) (n:=0) (s:=Zp) (step:=Acs) (λ_ _ _ (_,_,_,_,_,_,_,_,_,_,_,_,_,_,_,_,_,_,_,_,_,_)=>by kernel_rfl) Ah;have h0:Lv cx (Ake (Mg) k):=lv H (l1 H E3 (l1 H Ac6 (Az (cR H h1 Tryz.func143 rfl (n:=1) ((A5 Ah hlpupdate_0))) Ae))) Ab (w1 H G5 Aa);exact⟨h0,Ah⟩) λ(_,_,_,_,_,_,_,_,_,_,_,_,_,_,_,_,_,_,_,_,_,_)=>by kernel_rfl
def Adv:Au4->Option Mg:=λx=>Ot ((x.1.length+3)) x
theorem A7b:FM 146 Pk Pd (Adv):=FnLn.fin (ι:=Nat) (sg:=Pk) (so:=Pd) 0 (F:=λk=>Ot k) (λk=>A1s k) λx _ _ hx=>⟨(x.1.length+3),hx⟩
def K5:Sig:=⟨2,[],[(0,.ptr 0 0),(1,.ptr 1 0)],[(0,.cells [.sl .tok false,.int .i64,.bool,.int .i64]),(1,.cells [.int .i64,.str,.str,.sl .col true,.sl .str false,.sl .expr true,.sl .exprs true,.sl .set true,.bool,.int .i64,.int .i64,.int .i64,.str,.str,.sl .expr false,.sl .str true,.sl .bool true,.int .i64])],2,2,0,[],[]⟩
def Kt:Sig:=⟨0,[],[],[(0,.cells [.sl .tok false,.int .i64,.bool,.int .i64]),(1,.cells [.int .i64,.str,.str,.sl .col true,.sl .str false,.sl .expr true,.sl .exprs true,.sl .set true,.bool,.int .i64,.int .i64,.int .i64,.str,.str,.sl .expr false,.sl .str true,.sl .bool true,.int .i64])],2,2,0,[],[]⟩
abbrev Ajp:=List Tok×Int×Bool×Int×Int×Str×Str×List Col×List Str×List Xpr×List (List Xpr)×List SetE×Bool×Int×Int×Int×Str×Str×List Xpr×List Str×List Bool×Int
abbrev J5:=List Tok×Int×Bool×Int×Int×Str×Str×List Col×List Str×List Xpr×List (List Xpr)×List SetE×Bool×Int×Int×Int×Str×Str×List Xpr×List Str×List Bool×Int
def Xh:Sig:=⟨19,[],[(0,.ptr 0 0),(1,.fn 212 [.ptr 3 0,.ptr 2 0])],[(0,.cells [.sl .tok false,.int .i64,.bool,.int .i64]),(1,.cells [.int .i64,.str,.str,.sl .col true,.sl .str false,.sl .expr true,.sl .exprs true,.sl .set true,.bool,.int .i64,.int .i64,.int .i64,.str,.str,.sl .expr false,.sl .str true,.sl .bool true,.int .i64]),(2,.fx [.ptr 0 0]),(3,.fx [.ptr 1 0])],80,80,400,[],[]⟩
abbrev O7:=List Tok×Int×Bool×Int×Int×Str×Str×List Col×List Str×List Xpr×List (List Xpr)×List SetE×Bool×Int×Int×Int×Str×Str×List Xpr×List Str×List Bool×Int
def Y7{R:Type}(rec:O7->Option R)(kx:Ex->O7->Option R)(v:O7):Option R:=match v with
 |(w,w1,w2,w3,w4,w5,w6,w7,w8,w9,c,d,e,f,g,h,i,j,k,b,a,l) =>
 cond (!w2) (
  (Bc ([44],w,w1,w2,w3)).bind λ(a2,y,z,a0,a1) =>
  cond (a2) (
   (B3 (y,z,a0,a1)).bind λ(m,q,r,n,s) =>
   chk (decide (b.length+1<=Ao)) (
    cond (!n) (
    (Bc ([68,69,83,67],q,r,n,s)).bind λ(o,t,u,p,x) =>
     cond (!p) (
     cond (!o) (
      (Bc ([65,83,67],t,u,p,x)).bind λ(_,a3,a4,a5,a6) =>
      chk (decide (a.length+1<=Ao)) (
       rec (a3,a4,a5,a6,w4,w5,w6,w7,w8,w9,c,d,e,f,g,h,i,j,k,(b++[m]),(a++[o]),l))) (
      chk (decide (a.length+1<=Ao)) (
      rec (t,u,p,x,w4,w5,w6,w7,w8,w9,c,d,e,f,g,h,i,j,k,(b++[m]),(a++[o]),l)))) (
     chk (decide (a.length+1<=Ao)) (
      rec (t,u,p,x,w4,w5,w6,w7,w8,w9,c,d,e,f,g,h,i,j,k,(b++[m]),(a++[o]),l)))) (
    cond (!n) (
     (Bc ([65,83,67],q,r,n,s)).bind λ(_,a7,a8,a9,aa) =>
     chk (decide (a.length+1<=Ao)) (
      rec (a7,a8,a9,aa,w4,w5,w6,w7,w8,w9,c,d,e,f,g,h,i,j,k,(b++[m]),(a++[false]),l))) (
     chk (decide (a.length+1<=Ao)) (
     rec (q,r,n,s,w4,w5,w6,w7,w8,w9,c,d,e,f,g,h,i,j,k,(b++[m]),(a++[false]),l)))))) (
   kx (.exit 0) (y,z,a0,a1,w4,w5,w6,w7,w8,w9,c,d,e,f,g,h,i,j,k,b,a,l))) (
  kx (.exit 0) (w,w1,w2,w3,w4,w5,w6,w7,w8,w9,c,d,e,f,g,h,i,j,k,b,a,l))
def Ql(R:Type)(_k:Nat):Px R:=pxO [(139,An Dt Du Bc)] [] [] [(142,Dr E7 E4 B3)]
noncomputable def Xc(R:Type)(k:Nat):Px R:=pxO [(139,An Dt Du Bc),(212,A2 120 600 (Ql R k) Tryz.f212)] [] [(1,Am k Xh (Y7))] []
noncomputable def Agd(R:Type)(k:Nat):Px R:=pxO [(139,An Dt Du Bc),(141,An D2 Dy Bd),(147,An Mo N2 J2),(205,An H4 H7 Fg),(149,An Gn Gs Ec),(143,A2 80 400 (Xc R k) Tryz.f143)] [] [] [(145,Dr Mx Ny Mr),(142,Dr E7 E4 B3),(206,Dr Jw Kg Dp)]
def Mb(k:Nat)(x:Ajp):Option (J5):=match x with
 |(l,n,b,p,_,_,so,sc,ss,sl,sr,st,sh,wk,vk,vn,vs,wn,wl,sd,se,_) =>
 let j3:=λ(q:List Tok) (q1:Int) (q2:Bool) (q3:Int) (q4:List Xpr) =>
  (Bd ([[70,82,79,77]],q,q1,q2,q3)).bind λ(bd,be,bf,bg) =>
  (B3 (bd,be,bf,bg)).bind λ(bh,bi,bj,bk,bl) =>
   (J2 (bi,bj,bk,bl,8,bh,so,sc,ss,q4,sr,st,sh,wk,vk,vn,vs,wn,wl,sd,se,(-1))).bind λ(au,av,a4,aw,a5,a6,a7,a8,a9,aa,ab,ac,ad,ae,af,ag,ah,ai,aj,d,a,ak) =>
   let j2:=λ(ax:List Tok) (ay:Int) (al:Bool) (az:Int) (f:Int) (g:Str) (h:Str) (i:List Col) (j:List Str) (m:List Xpr) (o:List (List Xpr)) (r:List SetE) (s:Bool) (t:Int) (u:Int) (v:Int) (w:Str) (y:Str) (z:List Xpr) (a0:List Str) (a1:List Bool) (b0:Int) =>
    cond (!al) (
    (Bc ([76,73,77,73,84],ax,ay,al,az)).bind λ(bm,b1,b2,b3,b4) =>
     cond (bm) (
     (Fg (b1,b2,b3,b4)).bind λ(bn,b5,b6,b7,b8) =>
      cond (!decide (bn.kind=3)) (
      (Ec (b5,b6,b7,b8)).bind λ(bo,bp,bq,br) =>
       (Dp (bo,bp,bq,br)).bind λ(bs,bt,bu,bv,bw) =>
       some (bt,bu,bv,bw,f,g,h,i,j,m,o,r,s,t,u,v,w,y,z,a0,a1,bs.n)) (
      (Dp (b5,b6,b7,b8)).bind λ(bx,bz,c0,c1,c2) =>some (bz,c0,c1,c2,f,g,h,i,j,m,o,r,s,t,u,v,w,y,z,a0,a1,bx.n))) (
     some (b1,b2,b3,b4,f,g,h,i,j,m,o,r,s,t,u,v,w,y,z,a0,a1,b0))) (
    some (ax,ay,al,az,f,g,h,i,j,m,o,r,s,t,u,v,w,y,z,a0,a1,b0))
   cond (!a4) (
    (Bc ([79,82,68,69,82],au,av,a4,aw)).bind λ(c3,b9,ba,bb,bc) =>
    cond (c3) (
     (Bd ([[66,89]],b9,ba,bb,bc)).bind λ(c4,c5,c6,c7) =>
     (B3 (c4,c5,c6,c7)).bind λ(c8,am,an,c,ao) =>
      let j1:=λ(c9:List Tok) (ca:Int) (cb:Bool) (cc:Int) (cd:List Bool) =>
      Al (λrec=>Y7 rec (λe vz=>match vz with|(ce,cf,cg,ch,ci,cj,ck,cl,cm,cn,co,cp,cq,cr,cs,ct,cu,cv,cw,cx,cy,cz)=>match e with
       |.exit 0 =>
       j2 ce cf cg ch ci cj ck cl cm cn co cp cq cr cs ct cu cv cw cx cy cz
       |_=>none)) k (c9,ca,cb,cc,a5,a6,a7,a8,a9,aa,ab,ac,ad,ae,af,ag,ah,ai,aj,(d++[c8]),cd,ak)
      chk (decide (d.length+1<=Ao)) (
      cond (!c) (
       (Bc ([68,69,83,67],am,an,c,ao)).bind λ(a2,ap,aq,a3,ar) =>
       cond (!a3) (
        cond (!a2) (
        (Bc ([65,83,67],ap,aq,a3,ar)).bind λ(_,d0,d1,d2,d3) =>
         chk (decide (a.length+1<=Ao)) (
         j1 d0 d1 d2 d3 (a++[a2]))) (
        chk (decide (a.length+1<=Ao)) (
         j1 ap aq a3 ar (a++[a2])))) (
        chk (decide (a.length+1<=Ao)) (
        j1 ap aq a3 ar (a++[a2])))) (
       cond (!c) (
       (Bc ([65,83,67],am,an,c,ao)).bind λ(_,d4,d5,d6,d7) =>
        chk (decide (a.length+1<=Ao)) (
        j1 d4 d5 d6 d7 (a++[false]))) (
       chk (decide (a.length+1<=Ao)) (
        j1 am an c ao (a++[false])))))) (
     j2 b9 ba bb bc a5 a6 a7 a8 a9 aa ab ac ad ae af ag ah ai aj d a ak)) (
    j2 au av a4 aw a5 a6 a7 a8 a9 aa ab ac ad ae af ag ah ai aj d a ak)
 (Bc ([42],l,n,b,p)).bind λ(x,x1,x2,x3,x4) =>
  cond (!x) (
  (Mr (x1,x2,x3,x4)).bind λ(x5,x6,x7,x8,x9) =>j3 x6 x7 x8 x9 x5) (
  j3 x1 x2 x3 x4 sl)
theorem Awu(k:Nat):FM 148 K5 Kt (Mb k):=fRL (px:=Agd _ k) (n:=0) Tryz.func148 rfl (λcx H=>by have h2:Lv cx (Ql (J5) k):=lv H (l1 H Ea Ae) Ab (w1 H G5 Aa);have h1:Lv cx (Xc (J5) k):=lv H (l1 H Ea (Az (cR H h2 Tryz.func212 rfl (n:=0) (Ah)) Ae)) Ab Aa;have hlpselects_0:=lO H h1 (b:=lp Tryz.f143 0) (k:=k) (n:=0) (s:=Xh) (step:=Y7) (λ_ _ _ (_,_,_,_,_,_,_,_,_,_,_,_,_,_,_,_,_,_,_,_,_,_)=>by kernel_rfl) Ah;have h0:Lv cx (Agd (J5) k):=lv H (l1 H Ea (l1 H E3 (l1 H Ac6 (l1 H Mv (l1 H Jm (Az (cR H h1 Tryz.func143 rfl (n:=1) ((A5 Ah hlpselects_0))) Ae)))))) Ab (w1 H As7 (w1 H G5 (w1 H Rz Aa)));exact⟨h0,Ah⟩) λ(_,_,_,_,_,_,_,_,_,_,_,_,_,_,_,_,_,_,_,_,_,_)=>by kernel_rfl
def Yx:Ajp->Option J5:=λx=>Mb ((x.1.length+3)) x
theorem A2f:FM 148 K5 Kt (Yx):=FnLn.fin (ι:=Nat) (sg:=K5) (so:=Kt) 0 (F:=λk=>Mb k) (λk=>Awu k) λx _ _ hx=>⟨(x.1.length+3),hx⟩
def Acj:Sig:=⟨1,[],[(0,.ptr 0 0)],[(0,.cells [.sl .tok false,.int .i64,.bool,.int .i64])],1,1,0,[],[]⟩
def Z1:Sig:=⟨1,[(0,.sv .stmt)],[],[(0,.cells [.sl .tok false,.int .i64,.bool,.int .i64])],1,1,0,[],[]⟩
abbrev A94:=List Tok×Int×Bool×Int
abbrev Aca:=Stm×List Tok×Int×Bool×Int
def Ama:Sig:=⟨19,[],[(0,.ptr 0 0),(1,.fn 144 [.ptr 1 0,.ptr 3 0])],[(0,.cells [.sl .tok false,.int .i64,.bool,.int .i64]),(1,.fx [.ptr 0 0]),(2,.one (.sv .stmt)),(3,.cells [.int .i64,.str,.str,.sl .col true,.sl .str true,.sl .expr true,.sl .exprs true,.sl .set true,.bool,.int .i64,.int .i64,.int .i64,.str,.str,.sl .expr true,.sl .str true,.sl .bool true,.int .i64])],80,80,400,[],[]⟩
abbrev Ac4:=List Tok×Int×Bool×Int×Stm×Int×Str×Str×List Col×List Str×List Xpr×List (List Xpr)×List SetE×Bool×Int×Int×Int×Str×Str×List Xpr×List Str×List Bool×Int
def Aw8{R:Type}(rec:Ac4->Option R)(kx:Ex->Ac4->Option R)(v:Ac4):Option R:=match v with
 |(w,w1,w2,w3,w4,w5,w6,w7,w8,w9,b,a,c,d,e,f,g,h,i,j,k,l,m) =>
 cond (!w2) (
  (Bc ([44],w,w1,w2,w3)).bind λ(r,n,o,p,q) =>
  cond (r) (
   (Bd ([[40]],n,o,p,q)).bind λ(s,t,u,x) =>
   (Mr (s,t,u,x)).bind λ(y,z,a0,a1,a2) =>
    chk (decide (a.length+1<=Ao)) (
    (Bd ([[41]],z,a0,a1,a2)).bind λ(a3,a4,a5,a6) =>rec (a3,a4,a5,a6,w4,w5,w6,w7,w8,w9,b,(a++[y]),c,d,e,f,g,h,i,j,k,l,m))) (
   kx (.exit 0) (n,o,p,q,w4,w5,w6,w7,w8,w9,b,a,c,d,e,f,g,h,i,j,k,l,m))) (
  kx (.exit 0) (w,w1,w2,w3,w4,w5,w6,w7,w8,w9,b,a,c,d,e,f,g,h,i,j,k,l,m))
def Abh(R:Type)(_k:Nat):Px R:=pxO [(141,An D2 Dy Bd)] [] [] [(145,Dr Mx Ny Mr)]
noncomputable def Ajz(R:Type)(k:Nat):Px R:=pxO [(139,An Dt Du Bc),(144,A2 120 600 (Abh R k) Tryz.f144)] [] [(1,Am k Ama (Aw8))] []
noncomputable def A08(R:Type)(k:Nat):Px R:=pxO [(139,An Dt Du Bc),(140,An Yf X7 Adz),(141,An D2 Dy Bd),(142,An E7 E4 B3),(146,An Pk Pd Adv),(147,An Mo N2 J2),(148,An K5 Kt Yx),(149,An Gn Gs Ec),(143,A2 80 400 (Ajz R k) Tryz.f143)] [] [] []
def Ye(k:Nat)(x:A94):Option (Aca):=match x with
 |(l,n,b,p) =>
 (Bc ([67,82,69,65,84,69],l,n,b,p)).bind λ(x,x1,x2,x3,x4) =>
  cond (x) (
  (Adz (x1,x2,x3,x4,0,[],[],[],[],[],[],[],false,0,0,0,[],[],[],[],[],0)).bind λ(x5,x6,x7,x8,x9,i,j,m,o,q,r,s,t,u,w,y,z,a0,a1,a2,a3,a4) =>
   cond (!x7) (
   (Bc ([59],x5,x6,x7,x8)).bind λ(_,db,dc,dd,de) =>some ((Stm.mk x9 i j m o q r s t (Xpr.mk u ⟨w,y,z⟩ a0 a1) a2 a3 a4),db,dc,dd,de)) (
   some ((Stm.mk x9 i j m o q r s t (Xpr.mk u ⟨w,y,z⟩ a0 a1) a2 a3 a4),x5,x6,x7,x8))) (
  (Bc ([68,82,79,80],x1,x2,x3,x4)).bind λ(df,a5,a6,a7,a8) =>
   cond (df) (
   (Bc ([84,65,66,76,69],a5,a6,a7,a8)).bind λ(dg,a9,aa,ab,ac) =>
    cond (!dg) (
    (Bd ([[73,78,68,69,88]],a9,aa,ab,ac)).bind λ(dh,di,dj,dk) =>
     (B3 (dh,di,dj,dk)).bind λ(ad,ae,af,a,ag) =>
     cond (!a) (
      (Bc ([59],ae,af,a,ag)).bind λ(_,dl,dm,dn,dp) =>
      some ((Stm.mk 4 ad [] [] [] [] [] [] false (Xpr.mk 0 ⟨0,0,[]⟩ [] []) [] [] 0),dl,dm,dn,dp)) (
      some ((Stm.mk 4 ad [] [] [] [] [] [] false (Xpr.mk 0 ⟨0,0,[]⟩ [] []) [] [] 0),ae,af,a,ag))) (
    (B3 (a9,aa,ab,ac)).bind λ(ah,ai,aj,c,ak) =>
     cond (!c) (
     (Bc ([59],ai,aj,c,ak)).bind λ(_,dq,dr,ds,dt) =>some ((Stm.mk 2 ah [] [] [] [] [] [] false (Xpr.mk 0 ⟨0,0,[]⟩ [] []) [] [] 0),dq,dr,ds,dt)) (
     some ((Stm.mk 2 ah [] [] [] [] [] [] false (Xpr.mk 0 ⟨0,0,[]⟩ [] []) [] [] 0),ai,aj,c,ak)))) (
   (Bc ([73,78,83,69,82,84],a5,a6,a7,a8)).bind λ(du,al,am,an,ao) =>
    cond (du) (
    (Bd ([[73,78,84,79]],al,am,an,ao)).bind λ(dv,dw,dx,dy) =>
     (B3 (dv,dw,dx,dy)).bind λ(dz,e0,e1,e2,e3) =>
     (Bd ([[86,65,76,85,69,83]],e0,e1,e2,e3)).bind λ(e4,e5,e6,e7) =>
      (Bd ([[40]],e4,e5,e6,e7)).bind λ(e8,e9,ea,eb) =>
      (Mr (e8,e9,ea,eb)).bind λ(ec,ed,ee,ef,eg) =>
       (Bd ([[41]],ed,ee,ef,eg)).bind λ(eh,ei,ej,ek) =>
       Al (λrec=>Aw8 rec (λe vz=>match vz with|(v,v1,v2,v3,_,v5,v6,v7,v8,v9,ap,aq,ar,au,av,aw,ax,ay,az,b0,b1,b2,b3)=>match e with
        |.exit 0 =>
        cond (!v2) (
         (Bc ([59],v,v1,v2,v3)).bind λ(_,el,em,en,eo) =>
         some ((Stm.mk v5 v6 v7 v8 v9 ap aq ar au (Xpr.mk av ⟨aw,ax,ay⟩ az b0) b1 b2 b3),el,em,en,eo)) (
         some ((Stm.mk v5 v6 v7 v8 v9 ap aq ar au (Xpr.mk av ⟨aw,ax,ay⟩ az b0) b1 b2 b3),v,v1,v2,v3))
        |_=>none)) k (eh,ei,ej,ek,(Stm.mk 0 [] [] [] [] [] [] [] false (Xpr.mk 0 ⟨0,0,[]⟩ [] []) [] [] 0),5,dz,[],[],[],[],[ec],[],false,0,0,0,[],[],[],[],[],0)) (
    (Bc ([85,80,68,65,84,69],al,am,an,ao)).bind λ(ep,b4,b5,b6,b7) =>
     cond (ep) (
     (Adv (b4,b5,b6,b7,0,[],[],[],[],[],[],[],false,0,0,0,[],[],[],[],[],0)).bind λ(b8,b9,d,ba,bb,bc,bd,be,bf,bg,bh,bi,bj,bk,bl,bm,bn,bo,bp,bq,br,bs) =>
      cond (!d) (
      (Bc ([59],b8,b9,d,ba)).bind λ(_,er,es,et,eu) =>some ((Stm.mk bb bc bd be bf bg bh bi bj (Xpr.mk bk ⟨bl,bm,bn⟩ bo bp) bq br bs),er,es,et,eu)) (
      some ((Stm.mk bb bc bd be bf bg bh bi bj (Xpr.mk bk ⟨bl,bm,bn⟩ bo bp) bq br bs),b8,b9,d,ba))) (
     (Bc ([68,69,76,69,84,69],b4,b5,b6,b7)).bind λ(ev,bt,bu,bv,bw) =>
      cond (ev) (
      (Bd ([[70,82,79,77]],bt,bu,bv,bw)).bind λ(ew,ex,ey,ez) =>
       (B3 (ew,ex,ey,ez)).bind λ(f0,f1,f2,f3,f4) =>
       (J2 (f1,f2,f3,f4,7,f0,[],[],[],[],[],[],false,0,0,0,[],[],[],[],[],0)).bind λ(bx,bz,f,c0,c1,c2,c3,c4,c5,c6,c7,c8,c9,ca,cb,cc,cd,ce,cf,cg,ch,ci) =>
        cond (!f) (
        (Bc ([59],bx,bz,f,c0)).bind λ(_,f5,f6,f7,f8) =>some ((Stm.mk c1 c2 c3 c4 c5 c6 c7 c8 c9 (Xpr.mk ca ⟨cb,cc,cd⟩ ce cf) cg ch ci),f5,f6,f7,f8)) (
        some ((Stm.mk c1 c2 c3 c4 c5 c6 c7 c8 c9 (Xpr.mk ca ⟨cb,cc,cd⟩ ce cf) cg ch ci),bx,bz,f,c0))) (
      (Bc ([83,69,76,69,67,84],bt,bu,bv,bw)).bind λ(f9,cj,ck,cl,cm) =>
       cond (f9) (
       (Yx (cj,ck,cl,cm,0,[],[],[],[],[],[],[],false,0,0,0,[],[],[],[],[],0)).bind λ(cn,co,g,cp,cq,cr,cs,ct,cu,cv,cw,cx,cy,cz,d0,d1,d2,d3,d4,d5,d6,d7) =>
        cond (!g) (
        (Bc ([59],cn,co,g,cp)).bind λ(_,fa,fb,fc,fd) =>some ((Stm.mk cq cr cs ct cu cv cw cx cy (Xpr.mk cz ⟨d0,d1,d2⟩ d3 d4) d5 d6 d7),fa,fb,fc,fd)) (
        some ((Stm.mk cq cr cs ct cu cv cw cx cy (Xpr.mk cz ⟨d0,d1,d2⟩ d3 d4) d5 d6 d7),cn,co,g,cp))) (
       (Ec (cj,ck,cl,cm)).bind λ(d8,d9,h,da) =>
        cond (!h) (
        (Bc ([59],d8,d9,h,da)).bind λ(_,fe,ff,fg,fh) =>some ((Stm.mk 0 [] [] [] [] [] [] [] false (Xpr.mk 0 ⟨0,0,[]⟩ [] []) [] [] 0),fe,ff,fg,fh)) (
        some ((Stm.mk 0 [] [] [] [] [] [] [] false (Xpr.mk 0 ⟨0,0,[]⟩ [] []) [] [] 0),d8,d9,h,da))))))))
theorem Be7(k:Nat):FM 81 Acj Z1 (Ye k):=fRL (px:=A08 _ k) (n:=0) Tryz.func81 rfl (λcx H=>by have h2:Lv cx (Abh (Aca) k):=lv H (l1 H E3 Ae) Ab (w1 H As7 Aa);have h1:Lv cx (Ajz (Aca) k):=lv H (l1 H Ea (Az (cR H h2 Tryz.func144 rfl (n:=0) (Ah)) Ae)) Ab Aa;have hlpstmt_0:=lO H h1 (b:=lp Tryz.f143 0) (k:=k) (n:=0) (s:=Ama) (step:=Aw8) (λ_ _ _ (_,_,_,_,_,_,_,_,_,_,_,_,_,_,_,_,_,_,_,_,_,_,_)=>by kernel_rfl) Ah;have h0:Lv cx (A08 (Aca) k):=lv H (l1 H Ea (l1 H A6y (l1 H E3 (l1 H G5 (l1 H A7b (l1 H Ac6 (l1 H A2f (l1 H Jm (Az (cR H h1 Tryz.func143 rfl (n:=1) ((A5 Ah hlpstmt_0))) Ae))))))))) Ab Aa;exact⟨h0,Ah⟩) λ(_,_,_,_)=>by kernel_rfl
def Ayc:A94->Option Aca:=λx=>Ye ((x.1.length+3)) x
theorem Bmq:FM 81 Acj Z1 (Ayc):=FnLn.fin (ι:=Nat) (sg:=Acj) (so:=Z1) 0 (F:=λk=>Ye k) (λk=>Be7 k) λx _ _ hx=>⟨(x.1.length+3),hx⟩
def Ajk:Sig:=⟨1,[],[(0,.ptr 0 0)],[(0,.cells [.sl .tok false,.int .i64,.bool,.int .i64])],1,1,0,[],[]⟩
def Ajg:Sig:=⟨1,[(0,.bool)],[],[(0,.cells [.sl .tok false,.int .i64,.bool,.int .i64])],1,1,0,[],[]⟩
abbrev Bah:=List Tok×Int×Bool×Int
abbrev Bap:=Bool×List Tok×Int×Bool×Int
def Bkz(R:Type):Px R:=pxO [(149,An Gn Gs Ec)] [] [] []
def Ajs(x:Bah):Option (Bap):=match x with
 |(l,n,b,p) =>
 cond (decide (0<(l.length:Int))) (
  (Ec (l,n,b,p)).bind λ(x,x1,x2,x3) =>
  some (!x2,x,x1,x2,x3)) (
  some (!b,l,n,b,p))
theorem Bhk:FM 82 Ajk Ajg (Ajs):=fRL (px:=Bkz _) (n:=0) Tryz.func82 rfl (λ_ H=>⟨lv H (l1 H Jm Ae) Ab Aa,Ah⟩) λ(_,_,_,_)=>by kernel_rfl
def Axw:Bah->Option Bap:=λx=>Ajs x
theorem Bqq:FM 82 Ajk Ajg (Axw):=Bhk
open Go.RowKit
def A03:List Nat:=[110,112]
abbrev Bxm:TypeId:=110
theorem Bao:(Tryz.prog.info? Bxm).map (·.size)=some 2:=by kernel_rfl
theorem Bq2(T:TypeId)(h:T∈A03):liesAt Tryz.prog Tryz.prog.depth T (2 / Tryz.prog.cellsOf T) 0 Bxm 1=true:=by simp only[A03,List.mem_cons,List.not_mem_nil,or_false] at h;rcases h with rfl|rfl<;>kernel_rfl
set_option maxRecDepth 100000 in
theorem Bts(b:Nat)(w:World)(h0:w.cell? ⟨b,0,none⟩=some (.pointer (some ⟨b,0,none⟩))) :
  Calls Tryz.prog 198 #[.pointer (some ⟨b,0,none⟩)] w λe w'=>e = .returned (.tuple #[])/\w' = w:=by
 obtain⟨j,hj,_⟩:=Option.map_eq_some_iff.1 Bao;have mixed:=follows;have t1:=Tryz.underlying108;have t2:=Tryz.underlying110;have u1:=run_underlying (P:=Tryz.prog) t1;have u2:=run_underlying (P:=Tryz.prog) t2
 go_enter Tryz.func198,Tryz.ntmps198
 go_wp2
 rw[Lib.run_neq_ptr_same w _ t1 hj]
 go_wp2
 go_end0
 exact⟨rfl,rfl⟩
set_option maxRecDepth 100000 in
theorem Bnu(b:Nat)(T:TypeId)(hT:T∈A03)(w:World)(h0:w.cell? ⟨b,0,none⟩=some (.pointer none))(hsh:w.shape? b=some (T,2))(hfz:w.frozen? ⟨b,0,none⟩=false) :
  Calls Tryz.prog 198 #[.pointer (some ⟨b,0,none⟩)] w λe w'=>e = .returned (.tuple #[])/\w' = w.setCell ⟨b,0,none⟩ (.pointer (some ⟨b,0,none⟩)):=by
 obtain⟨j,hj,hjs⟩:=Option.map_eq_some_iff.1 Bao;have mixed:=follows;have t1:=Tryz.underlying108;have t2:=Tryz.underlying110;have t3:=Tryz.underlying278;have u1:=run_underlying (P:=Tryz.prog) t1;have u2:=run_underlying (P:=Tryz.prog) t2;have u3:=run_underlying (P:=Tryz.prog) t3
 go_enter Tryz.func198,Tryz.ntmps198
 go_wp2
 rw[Lib.run_to_unsafe w ⟨b,0,none⟩ t1 t3 hj (by rw[hjs];decide) hsh (Nat.zero_lt_succ 1)];simp only[Result.andThen];rw[Oper.upon_value]
 go_wp2
 rw[run_callFunc_extern Tryz.func239 (by kernel_rfl) (by kernel_rfl) (by kernel_rfl) (e:=Extern.AbiNoEscape.same) (by kernel_rfl)];rw[Lib.run_noEscape];simp only[Result.andThen];rw[Oper.upon_value]
 go_wp2
 rw[Lib.run_from_unsafe w ⟨b,0,none⟩ t3 t1 hj hsh (Bq2 T hT)];simp only[Result.andThen];rw[Oper.upon_value]
 go_wp2
 go_end0
 exact⟨rfl,rfl⟩
theorem Bfe:Sx.Enters Tryz.prog 198:=Sx.enters_of Tryz.func198 rfl (by kernel_rfl)
theorem Bxp:∀T,T∈A03->∀(b:Nat) (w:World) (a v:Value),w.heap[b]? = some (.cells #[a,v] T (0,0))->(a = .pointer none\/a = .pointer (some ⟨b,0,none⟩))->Calls Tryz.prog 198 #[.pointer (some ⟨b,0,none⟩)] w λe w'=>e = .returned (.tuple #[])/\(w' = w\/w' = w.setCell ⟨b,0,none⟩ (.pointer (some ⟨b,0,none⟩))):=by
 intro T hT b w a v hh ha;have c0:w.cell? ⟨b,0,none⟩=some a:=by simp[World.cell?,hh]
 rcases ha with rfl|rfl
 ·refine(Bnu b T hT w c0 (by simp[World.shape?,hh]) (by simp[World.frozen?,hh])).mono ?_;rintro e w' ⟨rfl,rfl⟩;exact⟨rfl,.inr rfl⟩
 ·refine(Bts b w c0).mono ?_;rintro e w' ⟨rfl,rfl⟩;exact⟨rfl,.inl rfl⟩
theorem A9l(w:World)(g n k:Nat):Chg (λb i=>b=g/\k<=i) w (w.freeze ⟨g,0,none⟩ n):=by
 unfold World.freeze;split
 ·exact Chg.refl _ _
 ·have hne:∀(q:Nat),q≠g->∀F:Obj->Obj,(w.heap.modify g F)[q]? = w.heap[q]? :=λq hq F=>by rw[Array.getElem?_modify,if_neg (Ne.symm hq)]
  refine⟨rfl,rfl,rfl,by simp,λq _ hq2=>hne q (λe=>hq2 k ⟨e,Zn1 _⟩) _,λb i v hv _ =>?_,λb cs t f hb =>?_⟩
  ·by_cases hbg:b=g
   ·subst hbg;unfold World.cell? at hv ⊢;simp only[Array.getElem?_modify,if_true] at hv ⊢;cases hh:w.heap[b]? with
    |none=>rw[hh] at hv;cases hv
    |some o =>rw[hh] at hv;cases o with|cells c e f=>obtain⟨lo,hi⟩:=f;exact hv|_=>cases hv
   ·rw[World.cell?_of_block (a:=⟨b,i,none⟩) (hne b hbg _)];exact hv
  ·by_cases hbg:b=g
   ·subst hbg;obtain⟨lo,hi⟩:=f;exact⟨cs,_,by simp only[Array.getElem?_modify,if_true,hb];rfl,rfl⟩
   ·exact⟨cs,f,by rw[hne b hbg];exact hb,rfl⟩
theorem cellsByte:Tryz.prog.cellsOf 5=1:=by kernel_rfl
set_option maxHeartbeats 2000000 in
set_option maxRecDepth 100000 in
theorem Ay8(b g cap n:Nat)(w:World)(s:ByteArray)(hcap:cap≠0)(hc:w.cell? ⟨b,1,none⟩=some (.slice (some ⟨g,0,none⟩) n cap))(hUS:(Builtin.unsafeString_ #[203,3] 9 #[.pointer (some ⟨g,0,none⟩),.int .i64 n]).run Tryz.prog w.drew = .ok (.string s) (w.drew.freeze ⟨g,0,none⟩ n)) :
  Calls Tryz.prog 64 #[.pointer (some ⟨b,0,none⟩)] w λe w'=>e = .returned (.string s)/\w' = w.drew.freeze ⟨g,0,none⟩ n:=by
 have c1:w.drew.cell? ⟨b,1,none⟩=some (.slice (some ⟨g,0,none⟩) n cap):=hc;have hSD:(Builtin.unsafeSliceData_ #[28] 203 #[.slice (some ⟨g,0,none⟩) n cap]).run Tryz.prog w.drew = .ok (.pointer (some ⟨g,0,none⟩)) w.drew:=Lib.run_unsafeSliceData_row _ _ _ _ _ _ hcap;clear hcap;have mixed:=follows;have t1:=Tryz.underlying108;have t2:=Tryz.underlying110;have t3:=Tryz.underlying28;have t4:=Tryz.underlying203;have t5:=Tryz.underlying3;have t6:=Tryz.underlying9;have u1:=run_underlying (P:=Tryz.prog) t1;have u2:=run_underlying (P:=Tryz.prog) t2;have u3:=run_underlying (P:=Tryz.prog) t3;have u4:=run_underlying (P:=Tryz.prog) t4;have u5:=run_underlying (P:=Tryz.prog) t5;have u6:=run_underlying (P:=Tryz.prog) t6
 go_enter Tryz.func64,Tryz.ntmps64
 go_wp2
 go_region_o
 all_goals (go_wp2;go_ret;exact⟨rfl,rfl⟩)
theorem Avf(W:World)(q:Option Addr):(Builtin.unsafeString_ #[203,3] 9 #[.pointer q,.int .i64 0]).run Tryz.prog W = .ok (.string .empty) W:=Lib.run_unsafeString_none W _ _ _ q
set_option maxHeartbeats 2000000 in
set_option maxRecDepth 100000 in
theorem Bug(b:Nat)(w:World)(hc:w.cell? ⟨b,1,none⟩=some (.slice none 0 0)) :
  Calls Tryz.prog 64 #[.pointer (some ⟨b,0,none⟩)] w λe w'=>e = .returned (.string ⟨#[]⟩)/\w' = w.drew:=by
 have hUS:=Avf;have c1:w.drew.cell? ⟨b,1,none⟩=some (.slice none 0 0):=hc;have hSD:(Builtin.unsafeSliceData_ #[28] 203 #[.slice none 0 0]).run Tryz.prog w.drew = .ok (.pointer none) w.drew:=rfl;have mixed:=follows;have t1:=Tryz.underlying108;have t2:=Tryz.underlying110;have t3:=Tryz.underlying28;have t4:=Tryz.underlying203;have t5:=Tryz.underlying3;have t6:=Tryz.underlying9;have u1:=run_underlying (P:=Tryz.prog) t1;have u2:=run_underlying (P:=Tryz.prog) t2;have u3:=run_underlying (P:=Tryz.prog) t3;have u4:=run_underlying (P:=Tryz.prog) t4;have u5:=run_underlying (P:=Tryz.prog) t5;have u6:=run_underlying (P:=Tryz.prog) t6
 go_enter Tryz.func64,Tryz.ntmps64
 go_wp2
 go_region_o
 all_goals (go_wp2;go_ret;exact⟨rfl,rfl⟩)
set_option maxHeartbeats 2000000 in
set_option maxRecDepth 100000 in
theorem A5j(b g:Nat)(w:World)(cur:Array Value)(hlt:b<w.heap.size)(hc:w.cell? ⟨b,1,none⟩=some (.slice (some ⟨g,0,none⟩) 0 0))(hg:w.heap[g]? = some (.cells cur 5 (0,0))) :
  Calls Tryz.prog 64 #[.pointer (some ⟨b,0,none⟩)] w λe w'=>e = .returned (.string ⟨#[]⟩)/\Chg D4 w w':=by
 have hUS:=Avf;have c1:w.drew.cell? ⟨b,1,none⟩=some (.slice (some ⟨g,0,none⟩) 0 0):=hc;have t4:=Tryz.underlying203;have hSD:(Builtin.unsafeSliceData_ #[28] 203 #[.slice (some ⟨g,0,none⟩) 0 0]).run Tryz.prog w.drew = .ok (.pointer (some ⟨w.drew.heap.size,0,none⟩)) (w.drew.alloc (.view ⟨g,0,none⟩ 5)) :=Lib.run_unsafeSliceData_zero w.drew _ _ 5 t4 ⟨g,0,none⟩ 0 (5,cur.size) (by have hg':w.drew.heap[g]? = some (.cells cur 5 (0,0)):=hg;simp[World.shape?,hg'])
 have c2:(w.drew.alloc (.view ⟨g,0,none⟩ 5)).cell? ⟨b,1,none⟩=some (.slice (some ⟨g,0,none⟩) 0 0):=by rw[World.cell?_of_block (a:=⟨b,1,none⟩) (Below.heap_alloc w.drew _ _ hlt)];exact c1
 have c3:(w.alloc (.view ⟨g,0,none⟩ 5)).drew.cell? ⟨b,1,none⟩=some (.slice (some ⟨g,0,none⟩) 0 0):=c2;have c0:w.cell? ⟨b,1,none⟩=some (.slice (some ⟨g,0,none⟩) 0 0):=c1;have mixed:=follows;have t1:=Tryz.underlying108;have t2:=Tryz.underlying110;have t3:=Tryz.underlying28;have t5:=Tryz.underlying3;have t6:=Tryz.underlying9;have u1:=run_underlying (P:=Tryz.prog) t1;have u2:=run_underlying (P:=Tryz.prog) t2;have u3:=run_underlying (P:=Tryz.prog) t3;have u4:=run_underlying (P:=Tryz.prog) t4;have u5:=run_underlying (P:=Tryz.prog) t5;have u6:=run_underlying (P:=Tryz.prog) t6
 go_enter Tryz.func64,Tryz.ntmps64
 go_wp2
 go_region_o
 all_goals (go_wp2;go_ret;exact⟨rfl,(Chg.drew D4 w).trans (Chg.alloc D4 w.drew _)⟩)
theorem Br9{cx:Cx}{m:Mp}{a:Act}{rs:List Act}{st:St}{w w':World}(hr:Rel cx m a rs (fs st) w)(hch:Chg (Dk m (fs st)) w w'){d:D}{v:Value}(hd:Rep (vx cx m (fs { st with n:=1,env:=[(0,d)],bl:=[],tk:=[] }) w') d v):Rel cx m ⟨#[v],[]⟩ rs (fs { st with n:=1,env:=[(0,d)],bl:=[],tk:=[] }) w':=by
 have hnf:∀b i,¬Dk m (fs { st with n:=1,env:=[(0,d)],bl:=[],tk:=[] }) b i:=by
  rintro b i (⟨q,hq,_⟩|⟨t,o,h1,_,_⟩)
  ·exact hq rfl
  ·simp[fs] at h1
 have nx:Nx (vx cx m (fs st) w) (vx cx m (fs { st with n:=1,env:=[(0,d)],bl:=[],tk:=[] }) w'):=by
  refine⟨hch.mono λb i hi =>.inr hi,?_,rfl,λ_ _=>rfl,Zn1 _,Zn1 _,λt _ ha =>?_⟩
  ·rintro b i (h|h)
   ·exact .inl (.inl h)
   ·exact absurd h (hnf b i)
  ·simp[vx,fs] at ha
 have h1:Rel cx m a rs { fs st with bl:=λ_=>none,al:=λ_=>False } w':=by
  refine hr.step (s':={ fs st with bl:=λ_=>none,al:=λ_=>False }) rfl rfl rfl rfl rfl hch ?_ (λb k hk=>by cases hk) (λt ht=>ht.elim) (λb b' h=>absurd rfl h) (λt t' g o o' h=>h.elim) (λb t g o h=>absurd rfl h) (λb i hi =>?_)
  ·refine⟨hch.mono λb i hi =>.inr hi,?_,rfl,λ_ _=>rfl,Zn1 _,Zn1 _,λt _ ha=>ha.elim⟩;rintro b i (h|⟨q,hq,_⟩|⟨t,o,h1,_,_⟩)
   ·exact .inl (.inl h)
   ·exact absurd rfl hq
   ·exact h1.elim
  ·rcases hi with ⟨q,hq,_⟩|⟨t,o,h1,_,_⟩
   ·exact absurd rfl hq
   ·exact h1.elim
 have hal:(fs { st with n:=1,env:=[(0,d)],bl:=[],tk:=[] }).al=λ_=>False:=by funext t;simp[fs]
 have e:fs { st with n:=1,env:=[(0,d)],bl:=[],tk:=[] }={ (fs { st with n:=1,env:=[(0,d)],bl:=[],tk:=[] }) with al:=λ_=>False }:=by rw[<-hal]
 rw[e] at hd ⊢;refine⟨h1.chg,⟨rfl,rfl,λk d' hk =>?_⟩,h1.frs,h1.lb,h1.lt,h1.blks,h1.als,h1.inj,h1.injt,h1.injbt,h1.own,h1.away,h1.glb⟩;have hk:get [(0,d)] k=some d':=hk;rw[Cm] at hk;by_cases h0:k=0
 ·subst h0;simp only[if_true,Za1] at hk;subst hk;exact⟨v,rfl,hd⟩
 ·rw[if_neg h0] at hk;cases hk
abbrev wT:TypeId:=112
def bstr_si:Sig:=⟨1,[],[(0,.ptr 0 0)],[(0,.bld wT)],1,1,0,[],[]⟩
def Av7:Sig:=⟨1,[(0,.str)],[],[],1,1,0,[],[]⟩
abbrev Bvv:=List UInt8
abbrev Bwu:=Str
def Iy:Bvv->Option Bwu:=λx=>some x
theorem Bqz:FnLn Tryz.prog elT glT 64 bstr_si Av7 Iy:=by
 refine⟨Sx.enters_of Tryz.func64 rfl (by kernel_rfl),λ(l:List UInt8) r hx _ cx m vs af w h1 h2 h3 hr =>?_⟩;obtain rfl:l=r:=Option.some.inj hx;obtain⟨_,hb⟩:=hr.blks 0 (.bld wT (.sl .byte l (.id 0))) rfl;obtain⟨_,a,v,hh,ha,hrep⟩:=hb;obtain⟨u,hu,hup⟩:=hr.env.get 0 (.ptr 0 0) rfl;have hsz:vs.toArray.size=1:=hr.env.size;have hvs:vs=[u]:=by match vs,hsz,hu with|[y],_,hu=>simpa using hu
 subst hvs;simp only[Rep] at hup hrep;obtain⟨_,rfl⟩:=hup;obtain⟨hrf,_,htk⟩:=hrep;have htk:=htk (show(fs (D7 bstr_si [Fs bstr_si] l)).al 0 by simp[fs,D7,bstr_si,Sig.sgs,Aqe,Bq,Bs.sgs,Apz]);have hh:w.heap[m.bl 0]? = some (.cells #[a,v] wT (0,0)):=hh;have hblt:m.bl 0<w.heap.size:=(Zh2.1 hh).1;have hlen:l.length<=maxLen:=hrf.here.len;have c1:w.cell? ⟨m.bl 0,1,none⟩=some v:=by simp[World.cell?,hh]
 have done:(Calls Tryz.prog 64 #[.pointer (some ⟨m.bl 0,0,none⟩)] w λe w'=>e = .returned (.string ⟨l.toArray⟩)/\Chg (Dk m (fs (D7 bstr_si [Fs bstr_si] l))) w w')->Calls Tryz.prog 64 ([.pointer (some ⟨m.bl 0,0,none⟩)]:List Value).toArray w λen w'=>∃us st' m',en = .returned (Sx.resv us)/\(∀k,(bstr_si.bl.map (·.1)).contains k=true->m'.bl k=m.bl k)/\J0 Av7 st' = some l/\Rel cx m' ⟨us.toArray,[]⟩ [af] (fs st') w':=λhc=>by refine hc.mono ?_;rintro e w' ⟨rfl,hch⟩;exact⟨[.string ⟨l.toArray⟩],{ D7 bstr_si [Fs bstr_si] l with n:=1,env:=[(0,.str l)],bl:=[],tk:=[] },m,rfl,λ_ _=>rfl,rfl,Br9 hr hch (by simp only[Rep];exact⟨trivial,hlen⟩)⟩
 refine done ?_;rcases htk with ⟨rfl,_,rfl⟩|⟨g,cap,cur,rfl,ht,hg,hcs,hle,hcm⟩
 ·refine(Bug (m.bl 0) w c1).mono ?_;rintro e w' ⟨rfl,rfl⟩;exact⟨rfl,Chg.drew _ w⟩
 ·have ht:m.tk 0=some (g,l.length*1):=ht;have hel:(vx cx m (fs (D7 bstr_si [Fs bstr_si] l)) w).el .byte=5:=by show cx.el .byte=_;rw[h2];rfl
  rw[hel] at hg;have hg:w.heap[g]? = some (.cells cur 5 (0,0)):=hg;have hcs:cur.size=cap*1:=hcs;by_cases hl0:l=[]
  ·subst hl0;by_cases hc0:cap=0
   ·subst hc0;refine(A5j (m.bl 0) g w cur hblt c1 hg).mono ?_;rintro e w' ⟨rfl,hch⟩;exact⟨rfl,hch.mono λ_ _ h=>h.elim⟩
   ·refine(Ay8 (m.bl 0) g cap 0 w .empty hc0 c1 (Avf _ _)).mono ?_;rintro e w' ⟨rfl,rfl⟩;exact⟨rfl,Chg.drew _ w⟩
  ·have hcells:∀(j:Nat) x,l[j]? = some x->w.cell? ⟨g,j,none⟩=some (.int .u8 x.toNat):=λj x hj=>by
    obtain⟨a',cap',e1,h|⟨b0,o0,e2,_,h4⟩⟩:=hrf.here.slice
    ·exact absurd h hl0
    ·simp only[Value.slice.injEq] at e1;rw[e2] at e1;simp only[Za1,Addr.mk.injEq] at e1;obtain⟨⟨rfl,rfl,_⟩,_⟩:=e1;obtain⟨u,hu,hf⟩:=h4 j x hj 0 _ rfl;have e3 : 0+j*csz .byte+0=j:=by simp[csz]
     rw[e3] at hu;cases hf;exact hu
   have hn0:l.length≠0:=λe=>hl0 (List.eq_nil_of_length_eq_zero e);have hUS:=Lib.run_unsafeString_row w.drew 203 3 9 5 Tryz.underlying203 cellsByte g cur.size (by have hg':w.drew.heap[g]? = some (.cells cur 5 (0,0)):=hg;simp[World.shape?,hg']) l hl0 (by omega) (by unfold maxLen at hcm;omega) (λj x hj=>by
    have e:(⟨g,0,none⟩:Addr).add j=⟨g,j,none⟩:=by
     unfold Addr.add;by_cases hj0:j=0
     ·subst hj0;simp
     ·simp[hj0]
    rw[e];exact hcells j x hj)
   refine(Ay8 (m.bl 0) g cap l.length w ⟨l.toArray⟩ (by omega) c1 hUS).mono ?_;rintro e w' ⟨rfl,rfl⟩;refine⟨rfl,(Chg.drew _ w).trans ((A9l w.drew g l.length (l.length*1)).mono λb i hi =>?_)⟩;obtain⟨rfl,hi⟩:=hi;exact .inr ⟨0,l.length*1,by simp[fs,D7,bstr_si,Sig.sgs,Aqe,Bq,Bs.sgs,Apz],ht,hi⟩
def Acw:Sig:=⟨2,[(1,.str)],[(0,.ptr 0 0)],[(0,.bld 112)],1,1,0,[],[]⟩
def Acx:Sig:=⟨2,[],[],[(0,.bld 112)],1,1,0,[],[]⟩
abbrev Ay6:=Str×List UInt8
abbrev A4f:=List UInt8
def Bi6(R:Type):Px R:=pxO [(198,A86 A03)] [] [] []
def Age(x:Ay6):Option (A4f):=match x with
 |(s,out) =>
 chk (decide (out.length+s.length<=Ao)) (
  some (out++s))
theorem A7w:FM 126 Acw Acx (Age):=fRL (px:=Bi6 _) (n:=0) Tryz.func126 rfl (λ_ H=>⟨lv H (Az (Bxs (by rw[H.p];exact Bfe) (by rw[H.p];exact Bxp)) Ae) Ab Aa,Ah⟩) λ(_,_)=>by kernel_rfl
def Axm(s out:Str):Option Str:=if out.length+s.length<=Ao then some (out++s) else none
def Sa:Ay6->Option A4f:=λx=>Axm x.1 x.2
theorem Bdy:FM 126 Acw Acx Sa :=.fin0 A7w λ(s,out) r hb hx=>by
 simp only[Sa,Axm] at hx;split at hx
 ·rename_i h;simp only[Age];rw[Ze1 h];exact hx
 ·cases hx
end Go.Proofs.YtbkinkalnmbpjaaGreatDoor
namespace Go.Proofs
open Go.Shelf
def Tryz.laysRJ_ren:Go.Shelf.Ren:=⟨λ|156=>127|165=>199|166=>126|169=>64|240=>198|241=>240|276=>239|277=>265|n=>n,λ|0=>0|3=>3|4=>4|5=>5|9=>9|20=>20|31=>23|37=>28|70=>108|72=>110|75=>197|76=>198|80=>119|127=>203|164=>278|n=>n,λn=>n⟩
theorem Tryz.laysRJ:Go.Proofs.Lays.n156 Tryz.prog Tryz.laysRJ_ren:={
 mixed:=by kernel_rfl
 f156:=Tryz.func127.trans (congrArg some (by kernel_rfl))
 f165:=Tryz.func199.trans (congrArg some (by kernel_rfl))
 f166:=Tryz.func126.trans (congrArg some (by kernel_rfl))
 f169:=Tryz.func64.trans (congrArg some (by kernel_rfl))
 f240:=Tryz.func198.trans (congrArg some (by kernel_rfl))
 f241:=Tryz.func240.trans (congrArg some (by kernel_rfl))
 f276:=Tryz.func239.trans (congrArg some (by kernel_rfl))
 f277:=Tryz.func265.trans (congrArg some (by kernel_rfl))
 t0:=Tryz.underlying0
 a0:=Tryz.isAgg0
 z0:=Tryz.sizeOf0
 v0:=Tryz.zeroValue0
 t3:=Tryz.underlying3
 a3:=Tryz.isAgg3
 z3:=Tryz.sizeOf3
 v3:=Tryz.zeroValue3
 t4:=Tryz.underlying4
 a4:=Tryz.isAgg4
 z4:=Tryz.sizeOf4
 v4:=Tryz.zeroValue4
 t9:=Tryz.underlying9
 a9:=Tryz.isAgg9
 z9:=Tryz.sizeOf9
 v9:=Tryz.zeroValue9
 t20:=Tryz.underlying20
 a20:=Tryz.isAgg20
 z20:=Tryz.sizeOf20
 v20:=Tryz.zeroValue20
 t31:=Tryz.underlying23
 a31:=Tryz.isAgg23
 z31:=Tryz.sizeOf23
 v31:=Tryz.zeroValue23
 t37:=Tryz.underlying28
 a37:=Tryz.isAgg28
 z37:=Tryz.sizeOf28
 v37:=Tryz.zeroValue28
 t70:=Tryz.underlying108
 a70:=Tryz.isAgg108
 z70:=Tryz.sizeOf108
 v70:=Tryz.zeroValue108
 t72:=Tryz.underlying110
 a72:=Tryz.isAgg110
 z72:=Tryz.sizeOf110
 v72:=Tryz.zeroValue110
 t75:=Tryz.underlying197
 a75:=Tryz.isAgg197
 z75:=Tryz.sizeOf197
 v75:=Tryz.zeroValue197
 t76:=Tryz.underlying198
 a76:=Tryz.isAgg198
 z76:=Tryz.sizeOf198
 v76:=Tryz.zeroValue198
 t127:=Tryz.underlying203
 a127:=Tryz.isAgg203
 z127:=Tryz.sizeOf203
 v127:=Tryz.zeroValue203
 t164:=Tryz.underlying278
 a164:=Tryz.isAgg278
 z164:=Tryz.sizeOf278
 v164:=Tryz.zeroValue278 }
theorem Tryz.extraRJ:Builder.Extra Tryz.prog Tryz.laysRJ_ren:={
 sizeBuilder:=by kernel_rfl
 liesBuilder:=by kernel_rfl
 t5:=Tryz.underlying5
 a5:=Tryz.isAgg5
 z5:=Tryz.sizeOf5
 v5:=Tryz.zeroValue5
 infoByte:=by kernel_rfl
 cellsByte:=by kernel_rfl
 sizeByte:=by kernel_rfl
 neB5:=by decide }
end Go.Proofs
namespace Go.Proofs.YtbkinkalnmbpjaaGreatDoor
open Go.Ax Go.RowKit
def Bbk(l:List Str)(sep:Str):Option Str:=if l.length<=1000000/\(Lib.join l sep).length<=1000000000 then some (Lib.join l sep) else none
def Awr:FT [.sl .str false,.str] [.str]:=λx=>Bbk x.1 x.2
theorem Bny:FO 127 [.sl .str false,.str] [.str] Awr:=by
 refine⟨Sx.enters_of Tryz.func127 rfl (by kernel_rfl),λx r hx w M vs hM hgl hr =>?_⟩;obtain⟨l,sep⟩:=x;simp only[Awr,Bbk] at hx;split at hx
 case isFalse=>cases hx
 rename_i hc;obtain⟨h1,h2⟩:=hc;obtain rfl:=Option.some.inj hx;simp only[Cc,Co,Reps,Rep] at hr;obtain⟨u,us,rfl,⟨hrf,_⟩,u2,us2,rfl,⟨rfl,_⟩,rfl⟩:=hr;have key:Calls Tryz.prog 127 #[u,.string ⟨sep.toArray⟩] w λe w'=>e = .returned (.string ⟨(Lib.join l sep).toArray⟩)/\Below w.heap.size w w':=by
  obtain⟨a,cap,rfl,h⟩:=hrf.here.slice;rcases h with rfl|⟨b,o,rfl,⟨hle,hcm⟩,hat⟩
  ·have c:=Any.strings_Join_none Tryz.laysRJ Tryz.extraRJ a cap ⟨sep.toArray⟩ w;refine Calls.mono (show Calls Tryz.prog 127 _ w _ from c) ?_;rintro e w' ⟨rfl,rfl⟩;exact⟨rfl,Below.refl _ _⟩
  ·by_cases hl:l=[]
   ·subst hl;have c:=Any.strings_Join_none Tryz.laysRJ Tryz.extraRJ (some ⟨b,o,none⟩) cap ⟨sep.toArray⟩ w;refine Calls.mono (show Calls Tryz.prog 127 _ w _ from c) ?_;rintro e w' ⟨rfl,rfl⟩;exact⟨rfl,Below.refl _ _⟩
   ·have hcell:∀(j:Nat) x,l[j]? = some x->w.cell? ⟨b,o+j,none⟩=some (.string ⟨x.toArray⟩):=λj x hj=>by
     obtain⟨u,hu,hf⟩:=hat j x hj 0 _ rfl;have e3:o+j*csz .str+0=o+j:=by simp[csz]
     rw[e3] at hu;cases hf;exact hu
    have hb:b<w.heap.size:=by cases l with|nil=>exact absurd rfl hl|cons x l=>exact Vo (hcell 0 x rfl)
    have em:(l.map λs=>(⟨s.toArray⟩:ByteArray)).map (·.data.toList)=l:=by rw[List.map_map];simp[Function.comp_def]
    have es:(⟨sep.toArray⟩:ByteArray).data.toList=sep:=by simp
    have c:=Any.strings_Join Tryz.laysRJ Tryz.extraRJ b o cap (l.map λs=>⟨s.toArray⟩) ⟨sep.toArray⟩ w (λj x hj=>by rw[List.getElem?_map] at hj;obtain⟨y,hy,rfl⟩:=Option.map_eq_some_iff.1 hj;exact hcell j y hy) hb (by rw[List.length_map];omega) (by rw[List.length_map];exact hle) (by rw[em,es];omega)
    rw[em,es,List.length_map] at c;exact c
 refine key.mono ?_;rintro en w' ⟨rfl,hbel⟩;refine⟨_,⟨λ_=>0,λ_=>Option.none⟩,rfl,Chg.of_below hbel,λp g o hp=>(by simp[Bq] at hp),λp q g o o2 hp=>(by simp[Bq] at hp),?_⟩;simp only[Hi,Cc,Co,Rep];exact⟨trivial,by simp only[maxLen];omega⟩
end Go.Proofs.YtbkinkalnmbpjaaGreatDoor
namespace Go.Proofs.YtbkinkalnmbpjaaGreatDoor
open Go.Ax
def app(out t:Str):Option Str:=if out.length+t.length<=100000000000 then some (out++t) else none
theorem Hc(out a b:Str):((app out a).bind λx=>app x b)=app out (a++b):=by
 simp only[app,Zh1];by_cases h1:out.length+a.length<=100000000000
 ·rw[if_pos h1,Zc1];simp only[Zh1,Zj1,Nat.add_assoc]
 ·rw[if_neg h1,if_neg (by omega)];rfl
theorem Cw{R:Type}(out a b:Str)(c:Str->Option R):((app out a).bind λx=>(app x b).bind c)=(app out (a++b)).bind c:=by rw[<-Hc,Option.bind_assoc]
theorem G9{o:Option Str}:(o.bind λx=>some x)=o:=by cases o<;>rfl
theorem Ah2{out:Str}(h:out.length<=100000000000):app out []=some out:=by simp only[app,Zi1,Nat.add_zero,List.append_nil];rw[if_pos h]
theorem Ax0{out t r:Str}(h:app out t=some r):r.length<=100000000000/\r=out++t:=by
 simp only[app] at h;split at h
 ·rename_i h1;obtain rfl:=Option.some.inj h;exact⟨by rw[Zh1];exact h1,rfl⟩
 ·cases h
theorem Bs5{out t r:Str}(h:app out t=some r):out.length+t.length<=100000000000:=by
 simp only[app] at h;split at h
 ·rename_i h1;exact h1
 ·cases h
def Ahn{α:Type}(f : α->Str):List α->Str
 |[]=>[]
 |x::l=>[44,32]++f x++Ahn f l
def Hk{α:Type}(f : α->Str):List α->Str
 |[]=>[]
 |x::l=>f x++Ahn f l
theorem Jf{V R α:Type}{step:(V->Option R)->V->Option R}(l:List α)(f : α->Str)(st:Nat->Str->V)(c:Str->Option R)
  (hs:∀i (hi:i<l.length) (acc:Str) rec,step rec (st i acc)=(app acc ((if i=0 then [] else [44,32])++f l[i])).bind λx=>rec (st (i+1) x))
  (he:∀acc rec,step rec (st l.length acc)=c acc) (k:Nat) (hk:l.length<k) (out:Str) (ho:out.length<=100000000000):Al step k (st 0 out)=(app out (Hk f l)).bind c:=by
 refine(Dj l.length st (λ_ acc=>acc.length<=100000000000) (λi acc=>(app acc (if i=0 then Hk f (l.drop i) else Ahn f (l.drop i))).bind c) (λi hi acc ha rec hr =>?_) (λacc ha rec =>?_) k 0 out (Nat.zero_le _) (by omega) ho).trans (by rw[if_pos rfl,Zq1])
 ·rw[hs i hi acc rec];have hd:(if i=0 then Hk f (l.drop i) else Ahn f (l.drop i))=((if i=0 then [] else [44,32])++f l[i])++Ahn f (l.drop (i+1)):=by rw[Ak hi];split<;>simp[Hk,Ahn]
  rw[hd,<-Cw acc ((if i=0 then [] else [44,32])++f l[i]) (Ahn f (l.drop (i+1))) c];cases hx:app acc ((if i=0 then [] else [44,32])++f l[i]) with|none=>rfl|some x =>rw[Zc1,Zc1,hr x (Ax0 hx).1,if_neg (by omega)]
 ·rw[he];have:(if l.length=0 then Hk f (l.drop l.length) else Ahn f (l.drop l.length))=[]:=by rw[Zc2];split<;>rfl
  rw[this,Ah2 ha];rfl
def Cb:Sig:=⟨2,[(1,.sl .str false)],[(0,.ptr 0 0)],[(0,.bld 112)],1,1,0,[],[]⟩
def Ca:Sig:=⟨0,[],[],[(0,.bld 112)],1,1,0,[],[]⟩
abbrev A35:=List Str×List UInt8
abbrev Aly:=List UInt8
def Ae7:Sig:=⟨18,[(6,.sl .str false),(7,.int .i64),(8,.int .i64)],[(0,.ptr 0 0)],[(0,.bld 112)],1,1,0,[],[]⟩
abbrev O4:=List Str×Int×Int×List UInt8
def Nw{R:Type}(rec:O4->Option R)(kx:Ex->O4->Option R)(v:O4):Option R:=match v with
 |(v,v1,v2,w) =>
 cond (decide (v2<v1)) (
  chk (inb v2 v.length) (
  (Sa ((at' .str v v2),w)).bind λx =>rec (v,v1,(wr .i64 (v2+1)),x))) (
  kx (.exit 0) (v,v1,v2,w))
def Ate(R:Type)(k:Nat):Px R:=pxO [(126,An Acw Acx Sa)] [] [(1,Am k Ae7 (Nw))] []
def A01(k:Nat)(x:A35):Option (Aly):=match x with
 |(l,out) =>
 Al (λrec=>Nw rec (λe vz=>match vz with|(_,_,_,v6)=>match e with
  |.exit 0 =>
  some v6
  |_=>none)) k (l,(l.length:Int),0,out)
theorem A7v(k:Nat):FM 55 Cb Ca (A01 k):=fRL (px:=Ate _ k) (n:=1) Tryz.func55 rfl (λcx H=>by have h0:Lv cx (Ate (Aly) k):=lv H (l1 H Bdy Ae) Ab Aa;have hlwwords_0:=lO H h0 (b:=lp Tryz.f55 0) (k:=k) (n:=0) (s:=Ae7) (step:=Nw) (λ_ _ _ (_,_,_,_)=>by kernel_rfl) Ah;exact⟨h0,(A5 Ah hlwwords_0)⟩) λ(_,_)=>by kernel_rfl
def Bvh(l:List Str)(out:Str):Option Str:=app out l.flatten
def Av:A35->Option Aly:=λx=>Bvh x.1 x.2
theorem A06{R:Type}{kx:Ex->O4->Option R}{l:List Str}{c:Str->Option R}(hn:ln l.length)(h2:∀i out,kx (.exit 0) (l,(l.length:Int),i,out)=c out)(k:Nat)(hk:l.length<k)(out:Str)(ho:out.length+l.flatten.length<=100000000000) :
  Al (λrec=>Nw rec kx) k (l,(l.length:Int),0,out)=c (out++l.flatten):=by
 refine(Dj l.length (λi out=>(l,(l.length:Int),(i:Int),out)) (λi out=>List.length out+((l.drop i).flatten).length<=100000000000) (λi out=>c (out++(l.drop i).flatten)) (λi hi out ha rec hr =>?_) (λout _ rec =>?_) k 0 out (Nat.zero_le _) (by omega) (by rw[Zq1];exact ho)).trans (by rw[Zq1])
 ·rw[Ak hi] at ha ⊢;simp only[Zz1,Zh1] at ha;have hw:Axm l[i] out=some (out++l[i]):=by simp only[Axm];rw[if_pos (by simp only[Ao];omega)]
  have hr:=hr (out++l[i]) (by rw[Zh1];omega);simp only[Nw,Cf hi,Af,Aw hi,chk,As (c :=.str) hi,Sa,hw,Zc1,Au hi hn,hr,Zz1,Zj1]
 ·simp only[Nw,Cg,Ag,h2];rw[Zk1 (Zn1 _)];simp
theorem Cq:FM 55 Cb Ca Av :=.fin 0 A7v λ(l,out) r hb hx=>⟨l.length+1,by have hx:app out l.flatten=some r:=hx;have hlen:=Bs5 hx;rw[(Ax0 hx).2];exact A06 (l:=l) (c:=some) hb.1.1 (λ_ _=>rfl) (l.length+1) (by omega) out hlen⟩
theorem ww(l:List Str)(out:Str):Av (l,out)=app out l.flatten:=rfl
def sgn(k:Int):Str:=P3 signsL k
mutual
def etx:Xpr->Str
 |.mk k v n l=>if k=1 then Km v else if k=2 then n else etxs k l
def etxs:Int->List Xpr->Str
 |_,[]=>[]
 |k,x::l=>if k=3 then [40]++[78,79,84,32]++etx x++[41] else if k=15 then [40]++[45]++etx x++[41] else if k=16 then [40]++etx x++[32,73,83,32,78,85,76,76]++[41] else [40]++etx x++([32]++(sgn k++[32]))++etx1 l++[41]
def etx1:List Xpr->Str
 |[]=>[]
 |y::_=>etx y
end
mutual
def okx:Xpr->Bool
 |.mk k _ _ l=>if k=1\/k=2 then true else okxs k l
def okxs:Int->List Xpr->Bool
 |_,[]=>false
 |k,x::l=>okx x&&(if k=3\/k=15\/k=16 then true else okx1 l)
def okx1:List Xpr->Bool
 |[]=>false
 |y::_=>okx y
end
theorem Bw3(e:Xpr):etx e=if e.kind=1 then Km e.v else if e.kind=2 then e.name else etxs e.kind e.l:=by cases e;simp only[etx];rfl
theorem Bvw(e:Xpr):okx e=if e.kind=1\/e.kind=2 then true else okxs e.kind e.l:=by cases e;simp only[okx];rfl
def F5:Sig:=⟨2,[(1,.sv .expr)],[(0,.ptr 0 0)],[(0,.bld 112)],1,1,0,[],[]⟩
def Fy:Sig:=⟨0,[],[],[(0,.bld 112)],1,1,0,[],[]⟩
abbrev Lk:=Xpr×List UInt8
abbrev Kz:=List UInt8
def Bkp(R:Type)(rf:Lk->Option Kz):Px R:=pxO [(128,cA Aaa),(55,An Cb Ca Av),(60,An F5 Fy rf)] [] [] []
def Jx(rf:Lk->Option Kz)(x:Lk):Option (Kz):=match x with
 |(e,out) =>
 cond (decide (e.kind=1)) (
  (Av ([(Km e.v)],out)).bind λx =>
  some x) (
  cond (decide (e.kind=2)) (
  (Av ([e.name],out)).bind λx1 =>some x1) (
  (Av ([[40]],out)).bind λx2 =>
   cond (decide (e.kind=3)) (
   (Av ([[78,79,84,32]],x2)).bind λx3 =>
    chk (inb 0 e.l.length) (
    (rf ((at' .expr e.l 0),x3)).bind λx4 =>
     (Av ([[41]],x4)).bind λa =>
     some a)) (
   cond (decide (e.kind=15)) (
    (Av ([[45]],x2)).bind λx5 =>
    chk (inb 0 e.l.length) (
     (rf ((at' .expr e.l 0),x5)).bind λx6 =>
     (Av ([[41]],x6)).bind λb =>some b)) (
    cond (decide (e.kind=16)) (
    chk (inb 0 e.l.length) (
     (rf ((at' .expr e.l 0),x2)).bind λx7 =>
     (Av ([[32,73,83,32,78,85,76,76]],x7)).bind λx8 =>
      (Av ([[41]],x8)).bind λc =>
      some c)) (
    chk (inb 0 e.l.length) (
     (rf ((at' .expr e.l 0),x2)).bind λx9 =>
     (Av ([[32],(P3 signsL e.kind),[32]],x9)).bind λd =>
      chk (inb 1 e.l.length) (
      (rf ((at' .expr e.l 1),d)).bind λf =>
       (Av ([[41]],f)).bind λg =>
       some g)))))))
theorem Bii(rf:Lk->Option Kz)(hrf:FM 60 F5 Fy rf):FM 60 F5 Fy (Jx rf):=fRL (px:=Bkp _ rf) (n:=0) Tryz.func60 rfl (λ_ H=>⟨lv H (c1 H Arj (l1 H Cq (l1 H hrf Ae))) Ab Aa,Ah⟩) λ(_,_)=>by kernel_rfl
def Bya(e:Xpr)(out:Str):Option Str:=cond (okx e) (app out (etx e)) none
def Fl:Lk->Option Kz:=λx=>Bya x.1 x.2
theorem Aus:∀(n:Nat) (e:Xpr) (out:Str),BdExpr e->A1 e<=n->okx e=true->Al (V:=Lk) (R:=Kz) Jx n (e,out)=app out (etx e)
 |0,e,_,_,h,_=>by have:=B5 e;omega
 |n+1,e,out,hb,h,hok=>by
  obtain⟨hb4,hb5⟩:=Aao hb;rw[Bv] at h;have hrf:∀x,x∈e.l->okx x=true->∀out:Str,Al (V:=Lk) (R:=Kz) Jx n (x,out)=app out (etx x):=λx hx ho out=>Aus n x out (hb5 x hx) (by have:=Bg hx;omega) ho;rw[Bb,Bw3];rw[Bvw] at hok;simp only[Jx,ww];by_cases h1:e.kind=1
  ·rw[Ze1 h1,if_pos h1,Af,G9];simp
  by_cases h2:e.kind=2
  ·rw[Zd1 h1,Ze1 h2,if_neg h1,if_pos h2,Ag,Af,G9];simp
  rw[Zd1 h1,Zd1 h2,if_neg h1,if_neg h2,Ag,Ag];rw[if_neg (by omega)] at hok;cases hl:e.l with
  |nil=>rw[hl] at hok;cases hok
  |cons x l =>
   rw[hl] at hok hrf;simp only[okxs,Zb1] at hok;have hx:=hrf x Zr1 hok.1;have e0:at' .expr (x::l) 0=x:=rfl;have i0:inb 0 (x::l).length=true:=Aw (i:=0) (by simp);simp only[e0,i0,hx,chk,Af,etxs];by_cases h3:e.kind=3
   ·rw[Ze1 h3,if_pos h3];simp only[Af,Cw,G9,Hc,Zz1,List.flatten_nil,List.append_nil,Zj1]
   by_cases h15:e.kind=15
   ·rw[Zd1 h3,Ze1 h15,if_neg h3,if_pos h15];simp only[Af,Ag,Cw,G9,Hc,Zz1,List.flatten_nil,List.append_nil,Zj1]
   by_cases h16:e.kind=16
   ·rw[Zd1 h3,Zd1 h15,Ze1 h16,if_neg h3,if_neg h15,if_pos h16];simp only[Af,Ag,Cw,G9,Hc,Zz1,List.flatten_nil,List.append_nil,Zj1]
   rw[Zd1 h3,Zd1 h15,Zd1 h16,if_neg h3,if_neg h15,if_neg h16];rw[if_neg (by omega)] at hok;cases l with|nil=>exact absurd hok.2 (by simp[okx1])|cons y l =>have hy:=hrf y (by simp) hok.2;have e1:at' .expr (x::y::l) 1=y:=rfl;have i1:inb 1 (x::y::l).length=true:=Aw (i:=1) (by simp);simp only[e1,i1,hy,Af,Ag,etx1];simp only[G9,Hc,Zz1,List.flatten_nil,List.append_nil,Zj1,sgn]
theorem Tj:FM 60 F5 Fy Fl:=by refine .fin (ι:=Nat) (sg:=F5) (so:=Fy) 0 (F:=λn=>Al (V:=Lk) (R:=Kz) Jx n) (λn=>FnLn.rec' (Sx.enters_of Tryz.func60 rfl rfl) (λrf hrf=>Bii rf hrf) n) λ(e,out) r hb hx=>⟨A1 e,?_⟩;have hx:cond (okx e) (app out (etx e)) none=some r:=hx;cases hok:okx e with|false=>rw[hok] at hx;cases hx|true =>rw[hok] at hx;exact(Aus (A1 e) e out hb.1 (Zn1 _) hok).trans hx
theorem we{e:Xpr}(h:okx e=true)(out:Str):Fl (e,out)=app out (etx e):=by show cond (okx e) _ _=_;rw[h];rfl
theorem C1{R:Type}{out t:Str}{f g:Str->Option R}(h:∀x:Str,x.length<=100000000000->f x=g x):(app out t).bind f=(app out t).bind g:=by cases hx:app out t with|none=>rfl|some x=>exact h x (Ax0 hx).1
theorem Mt{R:Type}(i:Nat)(acc t:Str)(c:Str->Option R):cond (decide ((0:Int)<(i:Int))) ((app acc [44,32]).bind λx=>(app x t).bind c) ((app acc t).bind c)=(app acc ((if i=0 then [] else [44,32])++t)).bind c:=by
 by_cases h:i=0
 ·rw[Zd1 (by omega),if_pos h];rfl
 ·rw[Ze1 (by omega),if_neg h,Af,Cw]
theorem fl1(a:Str):([a]:List Str).flatten=a:=by simp
theorem fl2(a b:Str):([a,b]:List Str).flatten=a++b:=by simp
theorem fl3(a b c:Str):([a,b,c]:List Str).flatten=a++(b++c):=by simp
theorem fl5(a b c d e:Str):([a,b,c,d,e]:List Str).flatten=a++(b++(c++(d++e))):=by simp
theorem Bj3{V R α:Type}{step:(V->Option R)->V->Option R}(l:List α)(f : α->Str)(st:Nat->Str->V)(c:Str->Option R)
  (hs:∀i (hi:i<l.length) (acc:Str) rec,step rec (st i acc)=(app acc (f l[i])).bind λx=>rec (st (i+1) x))
  (he:∀acc rec,step rec (st l.length acc)=c acc) (k:Nat) (hk:l.length<k) (out:Str) (ho:out.length<=100000000000):Al step k (st 0 out)=(app out (l.map f).flatten).bind c:=by
 refine(Dj l.length st (λ_ acc=>acc.length<=100000000000) (λi acc=>(app acc ((l.drop i).map f).flatten).bind c) (λi hi acc ha rec hr =>?_) (λacc ha rec =>?_) k 0 out (Nat.zero_le _) (by omega) ho).trans (by rw[Zq1])
 ·rw[hs i hi acc rec,Ak hi,Zw1,Zz1,<-Cw];exact C1 λx hx=>hr x hx
 ·rw[he,Zc2,List.map_nil,List.flatten_nil,Ah2 ha];rfl
theorem Bxf{out r:Str}(h:app out []=some r):some out=some r:=by have:=(Ax0 h).2;rw[List.append_nil] at this;rw[this]
def Ayp(l:List Str):Bool:=decide (l.length<=1000000)&&decide ((Lib.join l [44,32]).length<=1000000000)
def nmT(l:List Str):Str:=[40]++(Lib.join l [44,32]++[41])
def T9:Sig:=⟨2,[(1,.sl .str false)],[(0,.ptr 0 0)],[(0,.bld 112)],1,1,0,[],[]⟩
def U2:Sig:=⟨0,[],[],[(0,.bld 112)],1,1,0,[],[]⟩
abbrev A30:=List Str×List UInt8
abbrev A4j:=List UInt8
def Bgz(R:Type):Px R:=pxO [(127,cA Awr),(55,An Cb Ca Av)] [] [] []
def Q2(x:A30):Option (A4j):=match x with
 |(l,out) =>
 (Bbk l [44,32]).bind λx =>
  (Av ([[40],x,[41]],out)).bind λx1 =>
  some x1
theorem A6k:FM 56 T9 U2 (Q2):=fRL (px:=Bgz _) (n:=0) Tryz.func56 rfl (λ_ H=>⟨lv H (c1 H Bny (l1 H Cq Ae)) Ab Aa,Ah⟩) λ(_,_)=>by kernel_rfl
def Bvz(l:List Str)(out:Str):Option Str:=cond (Ayp l) (app out (nmT l)) none
def M5:A30->Option A4j:=λx=>Bvz x.1 x.2
theorem Bll(l:List Str)(out:Str)(h:Ayp l=true):Q2 (l,out)=app out (nmT l):=by simp only[Ayp,Zb1,Zg1] at h;have hj:Bbk l [44,32]=some (Lib.join l [44,32]):=if_pos h;simp only[Q2,hj,ww,Zc1,G9,fl3];rfl
theorem Auj:FM 56 T9 U2 M5 :=.fin0 A6k λ(l,out) r hb hx=>by have hx:cond (Ayp l) (app out (nmT l)) none=some r:=hx;cases ho:Ayp l with|false=>rw[ho] at hx;cases hx|true =>rw[ho] at hx;exact(Bll l out ho).trans hx
theorem wn{l:List Str}(h:Ayp l=true)(out:Str):M5 (l,out)=app out (nmT l):=by show cond (Ayp l) _ _=_;rw[h];rfl
def A25(c:Col):Str:=c.name++([32]++at' .str Av9 c.kind)++cond c.notNull [32,78,79,84,32,78,85,76,76] []++cond c.unique [32,85,78,73,81,85,69] []++cond (decide (c.ref=[])) [] ([32,82,69,70,69,82,69,78,67,69,83,32]++c.ref)
def Ax3:Sig:=⟨2,[(1,.sv .col)],[(0,.ptr 0 0)],[(0,.bld 112)],1,1,0,[],[]⟩
def Axx:Sig:=⟨0,[],[],[(0,.bld 112)],1,1,0,[],[]⟩
abbrev Bnb:=Col×List UInt8
abbrev Bqh:=List UInt8
def Br0(R:Type):Px R:=pxO [(55,An Cb Ca Av)] [] [] []
def Aee(x:Bnb):Option (Bqh):=match x with
 |(c,out) =>
 chk (inb c.kind 6) (
  (Av ([c.name,[32],(at' .str Av9 c.kind)],out)).bind λx =>
  let j1:=λ(q:List UInt8) =>
   let j:=λ(q1:List UInt8) =>
   cond (!decide (c.ref=[])) (
    (Av ([[32,82,69,70,69,82,69,78,67,69,83,32],c.ref],q1)).bind λx3 =>
    some x3) (
    some q1)
   cond (c.unique) (
   (Av ([[32,85,78,73,81,85,69]],q)).bind λx2 =>j x2) (
   j q)
  cond (c.notNull) (
   (Av ([[32,78,79,84,32,78,85,76,76]],x)).bind λx1 =>
   j1 x1) (
   j1 x))
theorem Bqs:FM 124 Ax3 Axx (Aee):=fRL (px:=Br0 _) (n:=0) Tryz.func124 rfl (λ_ H=>⟨lv H (l1 H Cq Ae) Ab Aa,Ah⟩) λ(_,_)=>by kernel_rfl
def Byo(c:Col)(out:Str):Option Str:=cond (inb c.kind 6) (app out (A25 c)) none
def Aw0:Bnb->Option Bqh:=λx=>Byo x.1 x.2
theorem Bwq(c:Col)(out:Str)(h:inb c.kind 6=true):Aee (c,out)=app out (A25 c):=by simp only[Aee,h,chk,Af,ww,fl1,fl2,fl3,A25];cases c.notNull<;>cases c.unique<;>cases decide (c.ref=[])<;>simp only[Af,Ag,Zt1,Zs1,G9,Hc,List.append_nil,Zj1]
theorem Brv:FM 124 Ax3 Axx Aw0 :=.fin0 Bqs λ(c,out) r hb hx=>by have hx:cond (inb c.kind 6) (app out (A25 c)) none=some r:=hx;cases ho:inb c.kind 6 with|false=>rw[ho] at hx;cases hx|true =>rw[ho] at hx;exact(Bwq c out ho).trans hx
theorem wc{c:Col}(h:inb c.kind 6=true)(out:Str):Aw0 (c,out)=app out (A25 c):=by show cond (inb c.kind 6) _ _=_;rw[h];rfl
def whT(s:Stm):Str:=cond s.has ([32,87,72,69,82,69,32]++etx s.whr) []
def okW(s:Stm):Bool := !s.has||okx s.whr
def Uf:Sig:=⟨2,[(1,.sv .stmt)],[(0,.ptr 0 0)],[(0,.bld 112)],1,1,0,[],[]⟩
def Ud:Sig:=⟨0,[],[],[(0,.bld 112)],1,1,0,[],[]⟩
abbrev A1k:=Stm×List UInt8
abbrev A3b:=List UInt8
def Bia(R:Type):Px R:=pxO [(55,An Cb Ca Av),(60,An F5 Fy Fl)] [] [] []
def To(x:A1k):Option (A3b):=match x with
 |(s,out) =>
 cond (s.has) (
  (Av ([[32,87,72,69,82,69,32]],out)).bind λx =>
  (Fl ((Gf s.whr),x)).bind λx1 =>some x1) (
  some out)
theorem A5k:FM 62 Uf Ud (To):=fRL (px:=Bia _) (n:=0) Tryz.func62 rfl (λ_ H=>⟨lv H (l1 H Cq (l1 H Tj Ae)) Ab Aa,Ah⟩) λ(_,_)=>by kernel_rfl
def Bw6(s:Stm)(out:Str):Option Str:=cond (okW s) (app out (whT s)) none
def G3:A1k->Option A3b:=λx=>Bw6 x.1 x.2
theorem Bk1(s:Stm)(out r:Str)(h:okW s=true)(hr:app out (whT s)=some r):To (s,out)=some r:=by simp only[okW] at h;simp only[whT] at hr;simp only[To,Fh,ww,fl1];cases hs:s.has with|false =>rw[hs] at hr;exact Bxf hr|true =>rw[hs] at h hr;simp only[we (show okx s.whr=true from h),Af,G9,Hc];exact hr
theorem Atx:FM 62 Uf Ud G3 :=.fin0 A5k λ(s,out) r hb hx=>by have hx:cond (okW s) (app out (whT s)) none=some r:=hx;cases ho:okW s with|false=>rw[ho] at hx;cases hx|true =>rw[ho] at hx;exact Bk1 s out r ho hx
theorem wh{s:Stm}(h:okW s=true)(out:Str):G3 (s,out)=app out (whT s):=by show cond (okW s) _ _=_;rw[h];rfl
def Bun(e:Xpr):Str:=[44,32,67,72,69,67,75,32]++cond (decide (parts e.kind=0)) ([40]++(etx e++[41])) (etx e)
def Aec(s:Stm):Str:=[67,82,69,65,84,69,32,84,65,66,76,69,32]++(s.name++[32,40])++Hk A25 s.cols++[44,32,80,82,73,77,65,82,89,32,75,69,89,32]++nmT s.names++(s.l.map Bun).flatten++[41]
def okT(s:Stm):Bool:=s.cols.all (λc=>inb c.kind 6)&&Ayp s.names&&s.l.all okx
def Hj(s:Stm):Nat:=s.cols.length+s.l.length+s.order.length+s.rows.length+s.sets.length+(s.rows.map List.length).sum+1
def Ac7:Sig:=⟨2,[(1,.sv .stmt)],[(0,.ptr 0 0)],[(0,.bld 112)],1,1,0,[],[]⟩
def Acn:Sig:=⟨0,[],[],[(0,.bld 112)],1,1,0,[],[]⟩
abbrev A07:=Stm×List UInt8
abbrev Rm:=List UInt8
def Agb:Sig:=⟨54,[(25,.sl .expr false),(26,.int .i64),(27,.int .i64)],[(2,.ptr 1 0)],[(0,.bld 112),(1,.fx [.ptr 0 0])],2,1,0,[],[]⟩
abbrev Zh:=List Xpr×Int×Int×List UInt8
def R9{R:Type}(rec:Zh->Option R)(kx:Ex->Zh->Option R)(v:Zh):Option R:=match v with
 |(v6,v7,v8,w2) =>
 cond (decide (v8<v7)) (
  chk (inb v8 v6.length) (
  (Av ([[44,32,67,72,69,67,75,32]],w2)).bind λx5 =>
   cond (decide ((parts ((at' .expr v6 v8).kind))=0)) (
   (Av ([[40]],x5)).bind λx6 =>
    (Fl ((at' .expr v6 v8),x6)).bind λx7 =>
    (Av ([[41]],x7)).bind λx8 =>rec (v6,v7,(wr .i64 (v8+1)),x8)) (
   (Fl ((at' .expr v6 v8),x5)).bind λx9 =>rec (v6,v7,(wr .i64 (v8+1)),x9)))) (
  kx (.exit 0) (v6,v7,v8,w2))
def Ag6:Sig:=⟨20,[(7,.int .i64),(8,.int .i64)],[(0,.ptr 0 0),(2,.fn 123 [.ptr 1 0,.ptr 2 0])],[(0,.bld 112),(1,.fx [.ptr 0 0]),(2,.one (.sv .stmt))],80,80,400,[],[]⟩
abbrev Zg:=Int×Int×List UInt8×Stm
def Sq{R:Type}(rec:Zg->Option R)(kx:Ex->Zg->Option R)(v:Zg):Option R:=match v with
 |(v,v1,w,w1) =>
 cond (decide (v1<v)) (
  let j:=λ(q:List UInt8) =>
  chk (inb v1 w1.cols.length) (
   (Aw0 ((at' .col w1.cols v1),q)).bind λx2 =>
   rec (v,(wr .i64 (v1+1)),x2,w1))
  cond (decide (0<v1)) (
  (Av ([[44,32]],w)).bind λx1 =>j x1) (
  j w)) (
  kx (.exit 0) (v,v1,w,w1))
def Wu(R:Type)(_k:Nat):Px R:=pxO [(124,An Ax3 Axx Aw0)] [] [] []
noncomputable def Ae6(R:Type)(k:Nat):Px R:=pxO [(55,An Cb Ca Av),(123,A2 120 600 (Wu R k) Tryz.f123)] [] [(1,Am k Ag6 (Sq))] []
noncomputable def As4(R:Type)(k:Nat):Px R:=pxO [(55,An Cb Ca Av),(56,An T9 U2 M5),(125,cA Ayf),(60,An F5 Fy Fl),(57,A2 80 400 (Ae6 R k) Tryz.f57)] [] [(6,Am k Agb (R9))] []
def Rp(k:Nat)(x:A07):Option (Rm):=match x with
 |(s,out) =>
 (Av ([[67,82,69,65,84,69,32,84,65,66,76,69,32],s.name,[32,40]],out)).bind λx =>
  Al (λrec=>Sq rec (λe vz=>match vz with|(_,_,v4,v5)=>match e with
  |.exit 0 =>
   (Av ([[44,32,80,82,73,77,65,82,89,32,75,69,89,32]],v4)).bind λx3 =>
   (M5 (v5.names,x3)).bind λx4 =>
    Al (λrec=>R9 rec (λe vz=>match vz with|(_,_,_,a)=>match e with
    |.exit 0 =>
     (Av ([[41]],a)).bind λb =>
     some b
    |_=>none)) k (v5.l,(v5.l.length:Int),0,x4)
  |_=>none)) k ((s.cols.length:Int),0,x,s)
theorem A8t(k:Nat):FM 54 Ac7 Acn (Rp k):=fRL (px:=As4 _ k) (n:=1) Tryz.func54 rfl (λcx H=>by have h2:Lv cx (Wu (Rm) k):=lv H (l1 H Brv Ae) Ab Aa;have h1:Lv cx (Ae6 (Rm) k):=lv H (l1 H Cq (Az (cR H h2 Tryz.func123 rfl (n:=0) (Ah)) Ae)) Ab Aa;have hlwtable_0:=lO H h1 (b:=lp Tryz.f57 0) (k:=k) (n:=0) (s:=Ag6) (step:=Sq) (λ_ _ _ (_,_,_,_)=>by kernel_rfl) Ah;have h0:Lv cx (As4 (Rm) k):=lv H (l1 H Cq (l1 H Auj (c1 H A3n (l1 H Tj (Az (cR H h1 Tryz.func57 rfl (n:=1) ((A5 Ah hlwtable_0))) Ae))))) Ab Aa;have hlwtable_1:=lO H h0 (b:=lp Tryz.f54 0) (k:=k) (n:=0) (s:=Agb) (step:=R9) (λ_ _ _ (_,_,_,_)=>by kernel_rfl) Ah;exact⟨h0,(A5 Ah hlwtable_1)⟩) λ(_,_)=>by kernel_rfl
def Bvs(s:Stm)(out:Str):Option Str:=cond (okT s) (app out (Aec s)) none
def Z3:A07->Option Rm:=λx=>Bvs x.1 x.2
theorem Bqd(k:Nat)(s:Stm)(out:Str)(hb:BdStm s)(h:okT s=true)(hk:Hj s<=k):Rp k (s,out)=app out (Aec s):=by
 simp only[okT,Zb1] at h;obtain⟨⟨h1,h2⟩,h3⟩:=h;simp only[Hj] at hk;have hc:=Zg2.1 h1;have hl:=Zg2.1 h3;simp only[Rp,ww,fl1,fl3];refine(C1 λx hx=>(Jf s.cols A25 (λi acc=>((s.cols.length:Int),(i:Int),acc,s)) (λacc=>(app acc ([44,32,80,82,73,77,65,82,89,32,75,69,89,32]++nmT s.names)).bind λx=>(app x (s.l.map Bun).flatten).bind λx=>app x [41]) (λi hi acc rec =>?_) (λacc rec =>?_) k (by omega) x hx)).trans ?_
 ·simp only[Sq,Cf hi,Af,Aw hi,chk,As (c :=.col) hi,wc (hc _ (List.getElem_mem hi)),Au hi hb.cols.1,ww,fl1];exact Mt i acc (A25 s.cols[i]) _
 ·simp only[Sq,Cg,Ag,ww,fl1,wn h2];rw[Cw];refine C1 λx hx=>Bj3 s.l Bun (λi acc=>(s.l,(s.l.length:Int),(i:Int),acc)) (λacc=>app acc [41]) (λi hi acc rec =>?_) (λacc rec =>?_) k (by omega) x hx
  ·simp only[R9,Cf hi,Af,Aw hi,chk,As (c :=.expr) hi,we (hl _ (List.getElem_mem hi)),Au hi hb.l.1,ww,fl1,Bun];cases decide (parts s.l[i].kind=0) with|true=>simp only[Af,Cw]|false=>simp only[Ag,Cw]
  ·simp only[R9,Cg,Ag,ww,fl1,G9]
 ·simp only[Hc,Aec,Zj1]
theorem Bgu:FM 54 Ac7 Acn Z3 :=.fin 0 A8t λ(s,out) r hb hx=>⟨Hj s,by
 have hx:cond (okT s) (app out (Aec s)) none=some r:=hx;cases ho:okT s with
 |false=>rw[ho] at hx;cases hx
 |true =>rw[ho] at hx;exact(Bqd (Hj s) s out hb.1 ho (Zn1 _)).trans hx⟩
theorem wt{s:Stm}(h:okT s=true)(out:Str):Z3 (s,out)=app out (Aec s):=by show cond (okT s) _ _=_;rw[h];rfl
def A6v(p:Str×Bool):Str:=p.1++cond p.2 [32,68,69,83,67] []
def Bej(s:Stm):Str:=cond (decide (0<=s.most)) ([32,76,73,77,73,84,32]++Km ⟨3,s.most,[]⟩) []
def obT(s:Stm):Str:=cond (decide (0<(s.order.length:Int))) [32,79,82,68,69,82,32,66,89,32] []
def Bfy(s:Stm):Str:=[83,69,76,69,67,84,32]++cond (decide ((s.l.length:Int)=0)) [42] []++Hk etx s.l++([32,70,82,79,77,32]++s.name)++whT s++obT s++Hk A6v (s.order.zip s.desc)++Bej s
def okS(s:Stm):Bool:=s.l.all okx&&okW s&&decide (s.desc.length=s.order.length)
def Zf:Sig:=⟨2,[(1,.sv .stmt)],[(0,.ptr 0 0)],[(0,.bld 112)],1,1,0,[],[]⟩
def Xy:Sig:=⟨0,[],[],[(0,.bld 112)],1,1,0,[],[]⟩
abbrev Arm:=Stm×List UInt8
abbrev Fj:=List UInt8
def Aau:Sig:=⟨20,[(7,.int .i64),(8,.int .i64)],[(0,.ptr 0 0),(2,.fn 130 [.ptr 1 0,.ptr 2 0])],[(0,.bld 112),(1,.fx [.ptr 0 0]),(2,.one (.sv .stmt))],80,80,600,[],[]⟩
abbrev Lg:=Int×Int×List UInt8×Stm
def G1{R:Type}(rec:Lg->Option R)(kx:Ex->Lg->Option R)(v:Lg):Option R:=match v with
 |(v6,v7,w2,w3) =>
 cond (decide (v7<v6)) (
  let j1:=λ(q3:List UInt8) =>
  chk (inb v7 w3.order.length) (
   (Av ([(at' .str w3.order v7)],q3)).bind λx8 =>
   chk (inb v7 w3.desc.length) (
    cond ((at' .bool w3.desc v7)) (
    (Av ([[32,68,69,83,67]],x8)).bind λx9 =>rec (v6,(wr .i64 (v7+1)),x9,w3)) (
    rec (v6,(wr .i64 (v7+1)),x8,w3))))
  cond (decide (0<v7)) (
  (Av ([[44,32]],w2)).bind λx7 =>j1 x7) (
  j1 w2)) (
  kx (.exit 0) (v6,v7,w2,w3))
def Abf:Sig:=⟨20,[(7,.int .i64),(8,.int .i64)],[(0,.ptr 0 0),(2,.fn 129 [.ptr 1 0,.ptr 2 0])],[(0,.bld 112),(1,.fx [.ptr 0 0]),(2,.one (.sv .stmt))],80,80,400,[],[]⟩
abbrev K9:=Int×Int×List UInt8×Stm
def Jp{R:Type}(rec:K9->Option R)(kx:Ex->K9->Option R)(v:K9):Option R:=match v with
 |(v,v1,w,w1) =>
 cond (decide (v1<v)) (
  let j:=λ(q1:List UInt8) =>
  chk (inb v1 w1.l.length) (
   (Fl ((at' .expr w1.l v1),q1)).bind λx3 =>
   rec (v,(wr .i64 (v1+1)),x3,w1))
  cond (decide (0<v1)) (
  (Av ([[44,32]],w)).bind λx2 =>j x2) (
  j w)) (
  kx (.exit 0) (v,v1,w,w1))
def R0(R:Type)(_k:Nat):Px R:=pxO [(60,An F5 Fy Fl)] [] [] []
noncomputable def Aai(R:Type)(k:Nat):Px R:=pxO [(55,An Cb Ca Av),(129,A2 120 600 (R0 R k) Tryz.f129)] [] [(1,Am k Abf (Jp))] []
def Sm(R:Type)(_k:Nat):Px R:=pxO [(55,An Cb Ca Av)] [] [] []
noncomputable def Z5(R:Type)(k:Nat):Px R:=pxO [(55,An Cb Ca Av),(130,A2 120 800 (Sm R k) Tryz.f130)] [] [(1,Am k Aau (G1))] []
noncomputable def Aoy(R:Type)(k:Nat):Px R:=pxO [(55,An Cb Ca Av),(62,An Uf Ud G3),(57,Acz 80 400 (Aai R k) Tryz.f57 (A2 80 600 (Z5 R k) Tryz.f57))] [(128,qA Aaa)] [] []
def Oa(k:Nat)(x:Arm):Option (Fj):=match x with
 |(s,out) =>
 (Av ([[83,69,76,69,67,84,32]],out)).bind λx =>
  let j3:=λ(q:List UInt8) =>
  Al (λrec=>Jp rec (λe vz=>match vz with|(_,_,v4,v5)=>match e with
   |.exit 0 =>
   (Av ([[32,70,82,79,77,32],v5.name],v4)).bind λx4 =>
    (G3 (v5,x4)).bind λx5 =>
    let j2:=λ(q2:List UInt8) =>
     Al (λrec=>G1 rec (λe vz=>match vz with|(_,_,a,b)=>match e with
     |.exit 0 =>
      cond (decide (0<=b.most)) (
      (Av ([[32,76,73,77,73,84,32],(Km (Val.mk 3 b.most []))],a)).bind λc =>some c) (
      some a)
     |_=>none)) k ((v5.order.length:Int),0,q2,v5)
    cond (decide (0<(v5.order.length:Int))) (
     (Av ([[32,79,82,68,69,82,32,66,89,32]],x5)).bind λx6 =>
     j2 x6) (
     j2 x5)
   |_=>none)) k ((s.l.length:Int),0,q,s)
  cond (decide ((s.l.length:Int)=0)) (
  (Av ([[42]],x)).bind λx1 =>j3 x1) (
  j3 x)
theorem Ay0(k:Nat):FM 63 Zf Xy (Oa k):=fRL (px:=Aoy _ k) (n:=0) Tryz.func63 rfl (λcx H=>by have h2:Lv cx (R0 (Fj) k):=lv H (l1 H Tj Ae) Ab Aa;have h1:Lv cx (Aai (Fj) k):=lv H (l1 H Cq (Az (cR H h2 Tryz.func129 rfl (n:=0) (Ah)) Ae)) Ab Aa;have hlwchosen_0:=lO H h1 (b:=lp Tryz.f57 0) (k:=k) (n:=0) (s:=Abf) (step:=Jp) (λ_ _ _ (_,_,_,_)=>by kernel_rfl) Ah;have h4:Lv cx (Sm (Fj) k):=lv H (l1 H Cq Ae) Ab Aa;have h3:Lv cx (Z5 (Fj) k):=lv H (l1 H Cq (Az (cR H h4 Tryz.func130 rfl (n:=0) (Ah)) Ae)) Ab Aa;have hlwchosen_1:=lO H h3 (b:=lp Tryz.f57 0) (k:=k) (n:=0) (s:=Aau) (step:=G1) (λ_ _ _ (_,_,_,_)=>by kernel_rfl) Ah;have h0:Lv cx (Aoy (Fj) k):=lv H (l1 H Cq (l1 H Atx (Az (Bni (cR H h1 Tryz.func57 rfl (n:=1) ((A5 Ah hlwchosen_0))) (cR H h3 Tryz.func57 rfl (n:=1) ((A5 Ah hlwchosen_1)))) Ae))) (q1 H Arj Ab) Aa;exact⟨h0,Ah⟩) λ(_,_)=>by kernel_rfl
def Buh(s:Stm)(out:Str):Option Str:=cond (okS s) (app out (Bfy s)) none
def Uo:Arm->Option Fj:=λx=>Buh x.1 x.2
theorem Ai2{R:Type}{b:Bool}{out t:Str}{c:Str->Option R}(ho:out.length<=100000000000):cond b ((app out t).bind c) (c out)=(app out (cond b t [])).bind c:=by cases b with|true=>rfl|false=>rw[Ag,Ag,Ah2 ho];rfl
theorem Bil(k:Nat)(s:Stm)(out:Str)(hb:BdStm s)(h:okS s=true)(hk:Hj s<=k):Oa k (s,out)=app out (Bfy s):=by
 simp only[okS,Zb1,Zg1] at h;obtain⟨⟨h1,h2⟩,h3⟩:=h;simp only[Hj] at hk;have hl:=Zg2.1 h1;have hz:(s.order.zip s.desc).length=s.order.length:=by rw[List.length_zip];omega
 have hend:∀x:Str,x.length<=100000000000->cond (decide (0<=s.most)) (app x ([32,76,73,77,73,84,32]++Km ⟨3,s.most,[]⟩)) (some x)=app x (Bej s):=λx hx=>by simp only[Bej];cases decide (0<=s.most) with|true=>rfl|false=>rw[Ag,Ag,Ah2 hx]
 have hord:∀(kx:Ex->Lg->Option Fj),(∀acc,kx (.exit 0) ((s.order.length:Int),(s.order.length:Int),acc,s)=cond (decide (0<=s.most)) (app acc ([32,76,73,77,73,84,32]++Km ⟨3,s.most,[]⟩)) (some acc))->∀x:Str,x.length<=100000000000 ->
   Al (λrec=>G1 rec kx) k ((s.order.length:Int),0,x,s)=(app x (Hk A6v (s.order.zip s.desc))).bind λx=>app x (Bej s):=λkx hkx x hx=>by
  refine(Jf (s.order.zip s.desc) A6v (λi acc=>((s.order.length:Int),(i:Int),acc,s)) (λacc=>cond (decide (0<=s.most)) (app acc ([32,76,73,77,73,84,32]++Km ⟨3,s.most,[]⟩)) (some acc)) (λi hi acc rec =>?_) (λacc rec =>?_) k (by omega) x hx).trans (C1 hend)
  ·have hi1:i<s.order.length:=by omega
   have hi2:i<s.desc.length:=by omega
   have hg:(s.order.zip s.desc)[i]=(s.order[i],s.desc[i]):=by simp
   simp only[G1,Cf hi1,Af,Aw hi1,Aw hi2,chk,As (c :=.str) hi1,As (c :=.bool) hi2,Au hi1 hb.order.1,ww,fl1,hg];have hitem:∀q:Str,((app q s.order[i]).bind λx8=>cond s.desc[i] ((app x8 [32,68,69,83,67]).bind λx9=>rec ((s.order.length:Int),((i+1:Nat):Int),x9,s)) (rec ((s.order.length:Int),((i+1:Nat):Int),x8,s)))=(app q (A6v (s.order[i],s.desc[i]))).bind λx=>rec ((s.order.length:Int),((i+1:Nat):Int),x,s):=λq=>by simp only[A6v];rw[<-Cw];exact C1 λx hx=>Ai2 hx
   simp only[hitem];exact Mt i acc _ _
  ·rw[hz];simp only[G1,Cg,Ag,hkx]
 simp only[Oa,ww,fl1,fl2];have hsel:∀(kx:Ex->K9->Option Fj),(∀acc:Str,acc.length<=100000000000->kx (.exit 0) ((s.l.length:Int),(s.l.length:Int),acc,s)=app acc (([32,70,82,79,77,32]++s.name)++whT s++obT s++Hk A6v (s.order.zip s.desc)++Bej s))->∀x:Str,x.length<=100000000000 ->
   Al (λrec=>Jp rec kx) k ((s.l.length:Int),0,x,s)=app x (Hk etx s.l++(([32,70,82,79,77,32]++s.name)++whT s++obT s++Hk A6v (s.order.zip s.desc)++Bej s)):=λkx hkx x hx=>by
  refine(Jf s.l etx (λi acc=>((s.l.length:Int),(i:Int),acc,s)) (λacc=>kx (.exit 0) ((s.l.length:Int),(s.l.length:Int),acc,s)) (λi hi acc rec =>?_) (λacc rec =>?_) k (by omega) x hx).trans ((C1 hkx).trans (Hc _ _ _))
  ·simp only[Jp,Cf hi,Af,Aw hi,chk,As (c :=.expr) hi,we (hl _ (List.getElem_mem hi)),Au hi hb.l.1,ww,fl1];exact Mt i acc _ _
  ·simp only[Jp,Cg,Ag]
 refine(C1 λx hx=>(Ai2 hx).trans (C1 λq hq=>hsel _ (λacc ha =>?_) q hq)).trans ?_
 ·show((app acc ([32,70,82,79,77,32]++s.name)).bind λx4=>(G3 (s,x4)).bind λx5=>cond (decide (0<(s.order.length:Int))) ((app x5 [32,79,82,68,69,82,32,66,89,32]).bind λx6=>Al (λrec=>G1 rec _) k ((s.order.length:Int),0,x6,s)) (Al (λrec=>G1 rec _) k ((s.order.length:Int),0,x5,s)))=_;simp only[wh h2];rw[Cw];refine(C1 λx5 hx5=>(Ai2 hx5).trans (C1 λy hy=>hord _ (λ_ =>?_) y hy)).trans ?_
  ·simp only[G9,Km]
  ·simp only[Hc,obT,Zj1]
 ·simp only[Hc,Bfy,Zj1]
theorem A9r:FM 63 Zf Xy Uo :=.fin 0 Ay0 λ(s,out) r hb hx=>⟨Hj s,by
 have hx:cond (okS s) (app out (Bfy s)) none=some r:=hx;cases ho:okS s with
 |false=>rw[ho] at hx;cases hx
 |true =>rw[ho] at hx;exact(Bil (Hj s) s out hb.1 ho (Zn1 _)).trans hx⟩
theorem ws{s:Stm}(h:okS s=true)(out:Str):Uo (s,out)=app out (Bfy s):=by show cond (okS s) _ _=_;rw[h];rfl
def Bmw(r:List Xpr):Str:=[40]++(Hk etx r++[41])
def Bru(x:SetE):Str:=x.name++[32,61,32]++etx x.e
def A89(s:Stm):Str :=
 if s.kind=1 then Aec s
 else if s.kind=2 then [68,82,79,80,32,84,65,66,76,69,32]++s.name
 else if s.kind=3 then [67,82,69,65,84,69,32,73,78,68,69,88,32]++(s.name++([32,79,78,32]++(s.on++[32])))++nmT s.names
 else if s.kind=4 then [68,82,79,80,32,73,78,68,69,88,32]++s.name
 else if s.kind=5 then [73,78,83,69,82,84,32,73,78,84,79,32]++(s.name++[32,86,65,76,85,69,83,32])++Hk Bmw s.rows
 else if s.kind=6 then [85,80,68,65,84,69,32]++(s.name++[32,83,69,84,32])++Hk Bru s.sets++whT s
 else if s.kind=7 then [68,69,76,69,84,69,32,70,82,79,77,32]++s.name++whT s
 else Bfy s
def okP(s:Stm):Bool :=
 if s.kind=1 then okT s
 else if s.kind=2\/s.kind=4 then true
 else if s.kind=3 then Ayp s.names
 else if s.kind=5 then s.rows.all λr=>r.all okx
 else if s.kind=6 then s.sets.all (λx=>okx x.e)&&okW s
 else if s.kind=7 then okW s
 else decide (s.kind=8)&&okS s
def Ss:Sig:=⟨20,[(7,.int .i64),(8,.int .i64)],[(0,.ptr 1 0),(2,.fn 61 [.ptr 1 0,.ptr 0 0])],[(0,.one (.sv .stmt)),(1,.bld 112)],40,40,200,[],[]⟩
abbrev Ge:=Int×Int×Stm×List UInt8
def Jy{R:Type}(rec:Ge->Option R)(kx:Ex->Ge->Option R)(v:Ge):Option R:=match v with
 |(b,a,w5,w6) =>
 cond (decide (a<b)) (
  let j2:=λ(q2:List UInt8) =>
  chk (inb a w5.sets.length) (
   (Av ([((at' .set w5.sets a).name),[32,61,32]],q2)).bind λc =>
   chk (inb a w5.sets.length) (
    (Fl ((Gf ((at' .set w5.sets a).e)),c)).bind λd =>
    rec (b,(wr .i64 (a+1)),w5,d)))
  cond (decide (0<a)) (
  (Av ([[44,32]],w6)).bind λf =>j2 f) (
  j2 w6)) (
  kx (.exit 0) (b,a,w5,w6))
def Ae5:Sig:=⟨20,[(7,.int .i64),(8,.int .i64)],[(0,.ptr 1 0),(2,.fn 59 [.ptr 1 0,.ptr 0 0,.ptr 80 0])],[(0,.one (.sv .stmt)),(1,.bld 112),(80,.cells [.int .i64])],120,120,600,[],[]⟩
abbrev Ox:=Int×Int×Stm×List UInt8×Int
def Ka{R:Type}(rec:Ox->Option R)(kx:Ex->Ox->Option R)(v:Ox):Option R:=match v with
 |(v2,v3,w2,w3,w4) =>
 cond (decide (v3<v2)) (
  let j:=λ(q1:List UInt8) =>
  chk (inb w4 w2.rows.length) (
   chk (inb v3 ((at' .exprs w2.rows w4).length)) (
   (Fl ((at' .expr (at' .exprs w2.rows w4) v3),q1)).bind λa =>rec (v2,(wr .i64 (v3+1)),w2,a,w4)))
  cond (decide (0<v3)) (
  (Av ([[44,32]],w3)).bind λx9 =>j x9) (
  j w3)) (
  kx (.exit 0) (v2,v3,w2,w3,w4))
def Sl:Sig:=⟨20,[(7,.int .i64),(8,.int .i64)],[(0,.ptr 1 0),(2,.fn 58 [.ptr 1 0,.ptr 0 0])],[(0,.one (.sv .stmt)),(1,.bld 112)],40,40,200,[],[]⟩
abbrev F9:=Int×Int×Stm×List UInt8
def Kb{R:Type}(k:Nat)(rec:F9->Option R)(kx:Ex->F9->Option R)(v:F9):Option R:=match v with
 |(v,v1,w,w1) =>
 cond (decide (v1<v)) (
  let j1:=λ(q:List UInt8) =>
  (Av ([[40]],q)).bind λx8 =>
   chk (inb v1 w.rows.length) (
   Al (λrc=>Ka rc (λe vz=>match vz with|(_,_,v6,v7,_)=>match e with
    |.exit 0 =>
    (Av ([[41]],v7)).bind λa =>rec (v,(wr .i64 (v1+1)),v6,a)
    |_=>none)) k (((at' .exprs w.rows v1).length:Int),0,w,x8,v1))
  cond (decide (0<v1)) (
  (Av ([[44,32]],w1)).bind λx7 =>j1 x7) (
  j1 w1)) (
  kx (.exit 0) (v,v1,w,w1))
def Lj(R:Type)(_k:Nat):Px R:=pxO [(60,An F5 Fy Fl)] [] [] []
noncomputable def Qo(R:Type)(k:Nat):Px R:=pxO [(55,An Cb Ca Av),(59,A2 160 800 (Lj R k) Tryz.f59)] [] [(1,Am k Ae5 (Ka))] []
noncomputable def Wt(R:Type)(k:Nat):Px R:=pxO [(55,An Cb Ca Av),(57,A2 120 600 (Qo R k) Tryz.f57)] [] [] []
def Xi(R:Type)(_k:Nat):Px R:=pxO [(55,An Cb Ca Av),(60,An F5 Fy Fl)] [] [] []
noncomputable def H3(R:Type)(k:Nat):Px R:=pxO [(55,An Cb Ca Av),(58,A2 80 400 (Wt R k) Tryz.f58),(61,A2 80 400 (Xi R k) Tryz.f61)] [] [(1,Ack k Sl (Kb k) (Am k Ss (Jy)))] []
noncomputable def At3(R:Type)(k:Nat):Px R:=pxO [(53,cA Nq),(54,An Ac7 Acn Z3),(55,An Cb Ca Av),(56,An T9 U2 M5),(62,An Uf Ud G3),(63,An Zf Xy Uo),(64,An bstr_si Av7 Iy),(57,A2 40 200 (H3 R k) Tryz.f57)] [] [] []
theorem A1c(R:Type)(k:Nat):∀(fr:List Fr) (rec:F9->Option R) (kx:Ex->F9->Option R) (v:F9),Tp (H3 R k) Sl (lp Tryz.f57 0) fr rec kx v=Kb k rec kx v
 |fr,rec,kx,(v,v1,w,w1)=>by kernel_rfl
theorem A3p(R:Type)(k:Nat):∀(fr:List Fr) (rec:Ge->Option R) (kx:Ex->Ge->Option R) (v:Ge),Tp (H3 R k) Ss (lp Tryz.f57 0) fr rec kx v=Jy rec kx v
 |fr,rec,kx,(a,b,w5,w6)=>by kernel_rfl
def Lt(k:Nat)(x:HV [.sv .stmt]):Option (HV [.str,.int .i64]):=match x with
 |s =>
 (Js s).bind λx =>
  cond (!decide (x=0)) (
  some ([],x)) (
  cond (decide (s.kind=1)) (
   (Z3 (s,[])).bind λx1 =>
   (Iy x1).bind λa =>some (a,0)) (
   cond (decide (s.kind=2)) (
   (Av ([[68,82,79,80,32,84,65,66,76,69,32],s.name],[])).bind λx2 =>
    (Iy x2).bind λb =>
    some (b,0)) (
   cond (decide (s.kind=3)) (
    (Av ([[67,82,69,65,84,69,32,73,78,68,69,88,32],s.name,[32,79,78,32],s.on,[32]],[])).bind λx3 =>
    (M5 (s.names,x3)).bind λx4 =>
     (Iy x4).bind λc =>
     some (c,0)) (
    cond (decide (s.kind=4)) (
    (Av ([[68,82,79,80,32,73,78,68,69,88,32],s.name],[])).bind λx5 =>
     (Iy x5).bind λd =>
     some (d,0)) (
    cond (decide (s.kind=5)) (
     (Av ([[73,78,83,69,82,84,32,73,78,84,79,32],s.name,[32,86,65,76,85,69,83,32]],[])).bind λx6 =>
     Al (λrec=>Kb k rec (λe vz=>match vz with|(_,_,_,f)=>match e with
      |.exit 0 =>
      (Iy f).bind λg =>some (g,0)
      |_=>none)) k ((s.rows.length:Int),0,s,x6)) (
     cond (decide (s.kind=6)) (
     (Av ([[85,80,68,65,84,69,32],s.name,[32,83,69,84,32]],[])).bind λh =>
      Al (λrec=>Jy rec (λe vz=>match vz with|(_,_,i,j)=>match e with
      |.exit 0 =>
       (G3 (i,j)).bind λl =>
       (Iy l).bind λm =>some (m,0)
      |_=>none)) k ((s.sets.length:Int),0,s,h)) (
     cond (decide (s.kind=7)) (
      (Av ([[68,69,76,69,84,69,32,70,82,79,77,32],s.name],[])).bind λn =>
      (G3 (s,n)).bind λo =>
       (Iy o).bind λp =>
       some (p,0)) (
      cond (decide (s.kind=8)) (
      (Uo (s,[])).bind λq =>
       (Iy q).bind λr =>
       some (r,0)) (
      (Iy []).bind λt =>some (t,0))))))))))
theorem A8m(k:Nat):FO 24 [.sv .stmt] [.str,.int .i64] (Lt k):=fR (px:=At3 _ k) (n:=0) Tryz.func24 rfl (λcx H=>by have h4:Lv cx (Lj (HV [.str,.int .i64]) k):=lv H (l1 H Tj Ae) Ab Aa;have h3:Lv cx (Qo (HV [.str,.int .i64]) k):=lv H (l1 H Cq (Az (cR H h4 Tryz.func59 rfl (n:=0) (Ah)) Ae)) Ab Aa;have hlaprint_1:=lO H h3 (b:=lp Tryz.f57 0) (k:=k) (n:=0) (s:=Ae5) (step:=Ka) (λ_ _ _ (_,_,_,_,_)=>by kernel_rfl) Ah;have h2:Lv cx (Wt (HV [.str,.int .i64]) k):=lv H (l1 H Cq (Az (cR H h3 Tryz.func57 rfl (n:=1) ((A5 Ah hlaprint_1))) Ae)) Ab Aa;have h5:Lv cx (Xi (HV [.str,.int .i64]) k):=lv H (l1 H Cq (l1 H Tj Ae)) Ab Aa;have h1:Lv cx (H3 (HV [.str,.int .i64]) k):=lv H (l1 H Cq (Az (cR H h2 Tryz.func58 rfl (n:=0) (Ah)) (Az (cR H h5 Tryz.func61 rfl (n:=0) (Ah)) Ae))) Ab Aa;have hlaprint_0:Cl cx (H3 (HV [.str,.int .i64]) k) (lp Tryz.f57 0):=Ba2 (λ_ _=>by kernel_rfl) (Aer (S5 h1.p h1.c h1.q (by rw[H.p];exact follows) (k:=k) (s:=Sl) (step:=Kb k) (by kernel_rfl) (A1c _ k) (Ke (n:=0) (by kernel_rfl) Ah)) (S5 h1.p h1.c h1.q (by rw[H.p];exact follows) (k:=k) (s:=Ss) (step:=Jy) (by kernel_rfl) (A3p _ k) (Ke (n:=0) (by kernel_rfl) Ah)));have h0:Lv cx (At3 (HV [.str,.int .i64]) k):=lv H (c1 H Vn (l1 H Bgu (l1 H Cq (l1 H Auj (l1 H Atx (l1 H A9r (l1 H Bqz (Az (cR H h1 Tryz.func57 rfl (n:=1) ((A5 Ah hlaprint_0))) Ae)))))))) Ab Aa;exact⟨h0,Ah⟩) λ_=>by kernel_rfl
def Ami(s:Stm):Option (Str×Int):=(Js s).bind λx=>cond (!decide (x=0)) (some ([],x)) (cond (okP s) ((app [] (A89 s)).bind λt=>some (t,0)) none)
def A1n:FT [.sv .stmt] [.str,.int .i64]:=λx=>Ami x
theorem Ap4{R:Type}{kx:Ex->Ox->Option R}{s:Stm}{j:Nat}{c:Str->Option R}(hj:j<s.rows.length)(hn:ln s.rows[j].length)(hok:s.rows[j].all okx=true)(h2:∀acc,kx (.exit 0) ((s.rows[j].length:Int),(s.rows[j].length:Int),s,acc,(j:Int))=c acc)(k:Nat)(hk:s.rows[j].length<k)(out:Str)(ho:out.length<=100000000000) :
  Al (λrec=>Ka rec kx) k ((s.rows[j].length:Int),0,s,out,(j:Int))=(app out (Hk etx s.rows[j])).bind c:=by
 have hl:=Zg2.1 hok;refine Jf s.rows[j] etx (λi acc=>((s.rows[j].length:Int),(i:Int),s,acc,(j:Int))) c (λi hi acc rec =>?_) (λacc rec =>?_) k hk out ho
 ·simp only[Ka,Cf hi,Af,Aw hi,Aw hj,chk,As (c :=.exprs) hj,As (c :=.expr) hi,we (hl _ (List.getElem_mem hi)),Au hi hn,ww,fl1];exact Mt i acc _ _
 ·simp only[Ka,Cg,Ag,h2]
theorem Ap9{R:Type}{kx:Ex->F9->Option R}{s:Stm}{c:Str->Option R}(hb:BdStm s)(hok:(s.rows.all λr=>r.all okx)=true)(h2:∀acc,kx (.exit 0) ((s.rows.length:Int),(s.rows.length:Int),s,acc)=c acc)(k:Nat)(hk:Hj s<=k)(out:Str)(ho:out.length<=100000000000) :
  Al (λrec=>Kb k rec kx) k ((s.rows.length:Int),0,s,out)=(app out (Hk Bmw s.rows)).bind c:=by
 have hl:=Zg2.1 hok;simp only[Hj] at hk;refine Jf s.rows Bmw (λi acc=>((s.rows.length:Int),(i:Int),s,acc)) c (λi hi acc rec =>?_) (λacc rec =>?_) k (by omega) out ho
 ·have hm:=Baq (List.getElem_mem hi);have hrow:∀q:Str,((app q [40]).bind λx8=>Al (λrc=>Ka rc (λe v=>match v with
    |(_,_,v6,v7,_)=>match e with
     |.exit 0=>(app v7 [41]).bind λa=>rec ((s.rows.length:Int),((i+1:Nat):Int),v6,a)
     |_=>none)) k ((s.rows[i].length:Int),0,s,x8,(i:Int)))=(app q (Bmw s.rows[i])).bind λx=>rec ((s.rows.length:Int),((i+1:Nat):Int),s,x):=λq=>by
   refine(C1 λx hx=>Ap4 (c:=λacc=>(app acc [41]).bind λa=>rec ((s.rows.length:Int),((i+1:Nat):Int),s,a)) hi (hb.rows.2 _ (List.getElem_mem hi)).1 (hl _ (List.getElem_mem hi)) (λ_=>rfl) k (by omega) x hx).trans ?_;simp only[Cw,Bmw]
  simp only[Kb,Cf hi,Af,Aw hi,chk,As (c :=.exprs) hi,Au hi hb.rows.1,ww,fl1];refine Eq.trans ?_ (Mt i acc _ _);have e:∀(b:Bool) (x y x' y':Option R),x=x'->y=y'->cond b x y=cond b x' y':=λ_ _ _ _ _ h1 h2=>by rw[h1,h2]
  exact e _ _ _ _ _ (C1 λx _=>hrow x) (hrow acc)
 ·simp only[Kb,Cg,Ag,h2]
theorem Ap5{R:Type}{kx:Ex->Ge->Option R}{s:Stm}{c:Str->Option R}(hb:BdStm s)(hok:(s.sets.all λx=>okx x.e)=true)(h2:∀acc,kx (.exit 0) ((s.sets.length:Int),(s.sets.length:Int),s,acc)=c acc)(k:Nat)(hk:s.sets.length<k)(out:Str)(ho:out.length<=100000000000) :
  Al (λrec=>Jy rec kx) k ((s.sets.length:Int),0,s,out)=(app out (Hk Bru s.sets)).bind c:=by
 have hl:=Zg2.1 hok;refine Jf s.sets Bru (λi acc=>((s.sets.length:Int),(i:Int),s,acc)) c (λi hi acc rec =>?_) (λacc rec =>?_) k hk out ho
 ·simp only[Jy,Cf hi,Af,Aw hi,chk,As (c :=.set) hi,Fh,we (hl _ (List.getElem_mem hi)),Au hi hb.sets.1,ww,fl1,fl2];have hitem:∀q:Str,((app q (s.sets[i].name++[32,61,32])).bind λa=>(app a (etx s.sets[i].e)).bind λb=>rec ((s.sets.length:Int),((i+1:Nat):Int),s,b))=(app q (Bru s.sets[i])).bind λx=>rec ((s.sets.length:Int),((i+1:Nat):Int),s,x):=λq=>by rw[Cw];rfl
  simp only[hitem];exact Mt i acc _ _
 ·simp only[Jy,Cg,Ag,h2]
theorem bs(x:Str):((Iy x).bind λt=>some (t,(0:Int)))=some (x,0):=rfl
theorem Bli(k:Nat)(s:Stm)(hb:BdStm s)(hk:Hj s<=k)(h:okP s=true)(hc:Js s=some 0):Lt k s=((app [] (A89 s)).bind λt=>some (t,0)):=by
 have hk2:=hk;simp only[Hj] at hk2;simp only[Lt,hc,Zc1,bs,ww,fl2,fl3,fl5];simp only[okP] at h;simp only[A89];rw[decide_true,Zt1,Ag];by_cases h1:s.kind=1
 ·rw[if_pos h1] at h;rw[Ze1 h1,if_pos h1,Af,wt h]
 rw[if_neg h1] at h;rw[Zd1 h1,if_neg h1,Ag];by_cases h2:s.kind=2
 ·rw[Ze1 h2,if_pos h2,Af]
 rw[Zd1 h2,if_neg h2,Ag];by_cases h3:s.kind=3
 ·rw[if_neg (by omega),if_pos h3] at h;rw[Ze1 h3,if_pos h3,Af];simp only[wn h,Cw]
 rw[Zd1 h3,if_neg h3,Ag];by_cases h4:s.kind=4
 ·rw[Ze1 h4,if_pos h4,Af]
 rw[if_neg (by omega),if_neg h3] at h;rw[Zd1 h4,if_neg h4,Ag];by_cases h5:s.kind=5
 ·rw[if_pos h5] at h;rw[Ze1 h5,if_pos h5,Af];refine(C1 λx hx=>Ap9 (c:=λt=>some (t,(0:Int))) hb h (λ_=>rfl) k hk x hx).trans ?_;rw[Cw]
 rw[if_neg h5] at h;rw[Zd1 h5,if_neg h5,Ag];by_cases h6:s.kind=6
 ·rw[if_pos h6,Zb1] at h;rw[Ze1 h6,if_pos h6,Af];refine(C1 λx hx=>Ap5 (c:=λt=>(app t (whT s)).bind λt=>some (t,(0:Int))) hb h.1 (λacc =>?_) k (by omega) x hx).trans ?_
  ·show((G3 (s,acc)).bind λa=>some (a,(0:Int)))=_;rw[wh h.2]
  ·simp only[Cw,Zj1]
 rw[if_neg h6] at h;rw[Zd1 h6,if_neg h6,Ag];by_cases h7:s.kind=7
 ·rw[if_pos h7] at h;rw[Ze1 h7,if_pos h7,Af];simp only[wh h,Cw]
 rw[if_neg h7,Zb1,Zg1] at h;rw[Zd1 h7,if_neg h7,Ag,Ze1 h.1,Af,ws h.2]
theorem Bec:FO 24 [.sv .stmt] [.str,.int .i64] A1n :=.fin 0 A8m λs r hb hx=>⟨Hj s,by
 have hx:Ami s=some r:=hx;simp only[Ami] at hx;cases hc:Js s with
 |none=>rw[hc] at hx;cases hx
 |some x =>
  rw[hc,Zc1] at hx;by_cases h0:x=0
  ·subst h0;cases ho:okP s with|false=>rw[ho] at hx;cases hx|true =>rw[ho] at hx;exact(Bli (Hj s) s hb (Zn1 _) ho hc).trans hx
  ·rw[Zd1 h0] at hx;rw[<-hx];simp only[Lt,hc,Zc1];rw[Zd1 h0];rfl⟩
def Aj4(R:Type):Px R:=pxO [(138,cA A6x)] [] [] []
noncomputable def A10(R:Type):Px R:=pxO [(81,An Acj Z1 Ayc),(82,An Ajk Ajg Axw),(53,cA Nq),(80,A2 40 200 (Aj4 R) Tryz.f80)] [] [] []
def Am6(x:HV [.str]):Option (HV [.sv .stmt,.int .i64,.int .i64]):=match x with
 |s =>
 cond (!decide ((Bg6 s).2.2=0)) (
  some ((Stm.mk 0 [] [] [] [] [] [] [] false (Xpr.mk 0 ⟨0,0,[]⟩ [] []) [] [] 0),(Bg6 s).2.1,(Bg6 s).2.2)) (
  (Ayc ((Bg6 s).1,(s.length:Int),false,0)).bind λ(x,x1,x2,x3,x4) =>
  (Axw (x1,x2,x3,x4)).bind λ(x5,_,_,_,x9) =>
   cond (!x5) (
   some ((Stm.mk 0 [] [] [] [] [] [] [] false (Xpr.mk 0 ⟨0,0,[]⟩ [] []) [] [] 0),x9,11)) (
   (Js x).bind λa =>
    cond (!decide (a=0)) (
    some ((Stm.mk 0 [] [] [] [] [] [] [] false (Xpr.mk 0 ⟨0,0,[]⟩ [] []) [] [] 0),0,a)) (
    some (x,0,0))))
theorem Bep:FO 33 [.str] [.sv .stmt,.int .i64,.int .i64] (Am6):=fR (px:=A10 _) (n:=0) Tryz.func33 rfl (λcx H=>by have h1:Lv cx (Aj4 (HV [.sv .stmt,.int .i64,.int .i64])):=lv H (c1 H Br5 Ae) Ab Aa;have h0:Lv cx (A10 (HV [.sv .stmt,.int .i64,.int .i64])):=lv H (l1 H Bmq (l1 H Bqq (c1 H Vn (Az (cR H h1 Tryz.func80 rfl (n:=0) (Ah)) Ae)))) Ab Aa;exact⟨h0,Ah⟩) λ_=>by kernel_rfl
def Bve(s:Str):Option (Stm×Int×Int):=Am6 s
def A9v:FT [.str] [.sv .stmt,.int .i64,.int .i64]:=λx=>Bve x
theorem Bm7:FO 33 [.str] [.sv .stmt,.int .i64,.int .i64] A9v :=.fin0 Bep λ_ _ _ hx=>hx
def At8:Sig:=⟨19,[(0,.int .u64),(3,.sl .byte true)],[],[],0,0,0,[],[]⟩
abbrev Apn:=Int×List UInt8
def A8r{R:Type}(rec:Apn->Option R)(kx:Ex->Apn->Option R)(v:Apn):Option R:=match v with
 |(v,v1) =>
 cond (decide (128<=v)) (
  chk (decide (v1.length+1<=Ao)) (
  rec ((Fw .u64 v 7),(v1++[(UInt8.ofNat ((ior .u8 (wr .u8 v) 128):Int).toNat)])))) (
  kx (.exit 0) (v,v1))
def A9x(R:Type)(k:Nat):Px R:=pxO [] [] [(2,Am k At8 (A8r))] []
def Au1(k:Nat)(x:HV [.int .u64]):Option (HV [.sl .byte true]):=match x with
 |n =>
 Al (λrec=>A8r rec (λe vz=>match vz with|(v2,v3)=>match e with
  |.exit 0 =>
  chk (decide (v3.length+1<=Ao)) (
   some (v3++[(UInt8.ofNat ((wr .u8 v2):Int).toNat)]))
  |_=>none)) k (n,[])
theorem Bpp(k:Nat):FO 65 [.int .u64] [.sl .byte true] (Au1 k):=fR (px:=A9x _ k) (n:=1) Tryz.func65 rfl (λcx H=>by have h0:Lv cx (A9x (HV [.sl .byte true]) k):=lv H Ae Ab Aa;have hlvput_0:=lO H h0 (b:=lp Tryz.f65 0) (k:=k) (n:=0) (s:=At8) (step:=A8r) (λ_ _ _ (_,_)=>by kernel_rfl) Ah;exact⟨h0,(A5 Ah hlvput_0)⟩) λ_=>by kernel_rfl
def Bvy(n:Int):Option Str:=Au1 100 n
def A6t:FT [.int .u64] [.sl .byte true]:=λx=>Bvy x
theorem Bbj:FO 65 [.int .u64] [.sl .byte true] A6t :=.fin 0 Bpp λ_ _ _ hx=>⟨100,hx⟩
def Bog(R:Type):Px R:=pxO [(65,cA A6t)] [] [] []
def Ana(x:HV [.sl .byte false]):Option (HV [.sl .byte true]):=match x with
 |s =>
 (Bvy (wr .u64 (s.length:Int))).bind λx =>
  chk (decide (x.length+s.length<=Ao)) (
  some (x++s))
theorem Beo:FO 66 [.sl .byte false] [.sl .byte true] (Ana):=fR (px:=Bog _) (n:=0) Tryz.func66 rfl (λ_ H=>⟨lv H (c1 H Bbj Ae) Ab Aa,Ah⟩) λ_=>by kernel_rfl
def Bu1(s:Str):Option Str:=Ana s
def Bc8:FT [.sl .byte false] [.sl .byte true]:=λx=>Bu1 x
theorem Bqn:FO 66 [.sl .byte false] [.sl .byte true] Bc8 :=.fin0 Beo λ_ _ _ hx=>hx
def Anv:Sig:=⟨22,[(3,.sl .byte true),(10,.sl .bytes false),(11,.int .i64),(12,.int .i64)],[],[],0,0,0,[],[]⟩
abbrev Ads:=List UInt8×List (List UInt8)×Int×Int
def Axu{R:Type}(rec:Ads->Option R)(kx:Ex->Ads->Option R)(v:Ads):Option R:=match v with
 |(v,v1,v2,v3) =>
 cond (decide (v3<v2)) (
  chk (inb v3 v1.length) (
  (Bu1 (at' .bytes v1 v3)).bind λx1 =>
   chk (decide (v.length+x1.length<=Ao)) (
   rec ((v++x1),v1,v2,(wr .i64 (v3+1)))))) (
  kx (.exit 0) (v,v1,v2,v3))
def Azj(R:Type)(k:Nat):Px R:=pxO [(65,cA A6t),(66,cA Bc8)] [] [(3,Am k Anv (Axu))] []
def An5(k:Nat)(x:HV [.sl .bytes false]):Option (HV [.sl .byte true]):=match x with
 |l =>
 (Bvy (wr .u64 (l.length:Int))).bind λx =>
  Al (λrec=>Axu rec (λe vz=>match vz with|(v4,_,_,_)=>match e with
  |.exit 0 =>some v4
  |_=>none)) k (x,l,(l.length:Int),0)
theorem Bdx(k:Nat):FO 27 [.sl .bytes false] [.sl .byte true] (An5 k):=fR (px:=Azj _ k) (n:=1) Tryz.func27 rfl (λcx H=>by have h0:Lv cx (Azj (HV [.sl .byte true]) k):=lv H (c1 H Bbj (c1 H Bqn Ae)) Ab Aa;have hlvjoin_0:=lO H h0 (b:=lp Tryz.f27 0) (k:=k) (n:=0) (s:=Anv) (step:=Axu) (λ_ _ _ (_,_,_,_)=>by kernel_rfl) Ah;exact⟨h0,(A5 Ah hlvjoin_0)⟩) λ_=>by kernel_rfl
def Bvb(l:List Str):Option Str:=An5 5000 l
def Ba6:FT [.sl .bytes false] [.sl .byte true]:=λx=>Bvb x
theorem Bpn:FO 27 [.sl .bytes false] [.sl .byte true] Ba6 :=.fin 0 Bdx λ_ _ _ hx=>⟨5000,hx⟩
def Ar6:Sig:=⟨59,[(1,.int .i64),(4,.int .u64),(5,.int .i64),(6,.int .i64),(7,.int .u64),(8,.int .i64),(21,.sl .byte false),(22,.int .i64),(23,.int .i64)],[],[],0,0,0,[],[]⟩
abbrev Ann:=Int×Int×Int×Int×Int×Int×List UInt8×Int×Int
def A7e{R:Type}(rec:Ann->Option R)(kx:Ex->Ann->Option R)(v:Ann):Option R:=match v with
 |(v,v1,v2,v3,v4,v5,v6,v7,v8) =>
 cond (decide (v8<v7)) (
  chk (inb v8 v6.length) (
  let j1:=λ(_:Unit) =>
   chk (decide (0<=(wr .i64 (7*v8)))) (
   cond (decide (((at' .byte v6 v8).toNat:Int)<128)) (
    kx .ret (v,(ior .u64 v4 (Bjb .u64 (wr .u64 (Hy .u8 ((at' .byte v6 v8).toNat:Int) 127)) (wr .i64 (7*v8)))),(wr .i64 ((wr .i64 (v+v8))+1)),0,(ior .u64 v4 (Bjb .u64 (wr .u64 (Hy .u8 ((at' .byte v6 v8).toNat:Int) 127)) (wr .i64 (7*v8)))),v5,v6,v7,v8)) (
    rec (v,v1,v2,v3,(ior .u64 v4 (Bjb .u64 (wr .u64 (Hy .u8 ((at' .byte v6 v8).toNat:Int) 127)) (wr .i64 (7*v8)))),v5,v6,v7,(wr .i64 (v8+1)))))
  let j:=λ(p4:Bool) =>
   cond (p4) (
   kx (.exit 0) (v,v1,v2,v3,v4,11,v6,v7,v8)) (
   cond (decide (((at' .byte v6 v8).toNat:Int)=0)) (
    cond (decide (0<v8)) (
    kx (.exit 0) (v,v1,v2,v3,v4,11,v6,v7,v8)) (
    j1 ())) (
    j1 ()))
  cond (decide (v8=9)) (
   j (decide (1<((at' .byte v6 v8).toNat:Int)))) (
   j false))) (
  kx (.exit 0) (v,v1,v2,v3,v4,v5,v6,v7,v8))
def Bb6(R:Type)(k:Nat):Px R:=pxO [] [] [(6,Am k Ar6 (A7e))] []
def Au2(k:Nat)(x:HV [.sl .byte false,.int .i64]):Option (HV [.int .u64,.int .i64,.int .i64]):=match x with
 |(b,p) =>
 cond (decide (p<0)) (
  some (0,0,2)) (
  cond (decide ((b.length:Int)<p)) (
  some (0,0,2)) (
  chk (Ev p b.length b.length) (
   Al (λrec=>A7e rec (λe vz=>match vz with|(_,a,c,d,_,f,_,_,_)=>match e with
   |.ret =>some (a,c,d)
   |.exit 0 =>some (0,0,f)
   |_=>none)) k (p,0,0,0,0,10,(b.drop (p:Int).toNat),((b.drop (p:Int).toNat).length:Int),0))))
theorem Bo8(k:Nat):FO 78 [.sl .byte false,.int .i64] [.int .u64,.int .i64,.int .i64] (Au2 k):=fR (px:=Bb6 _ k) (n:=1) Tryz.func78 rfl (λcx H=>by have h0:Lv cx (Bb6 (HV [.int .u64,.int .i64,.int .i64]) k):=lv H Ae Ab Aa;have hlvget_0:=lO H h0 (b:=lp Tryz.f78 0) (k:=k) (n:=0) (s:=Ar6) (step:=A7e) (λ_ _ _ (_,_,_,_,_,_,_,_,_)=>by kernel_rfl) Ah;exact⟨h0,(A5 Ah hlvget_0)⟩) λ(_,_)=>by kernel_rfl
def Bw1(b:Str)(p:Int):Option (Int×Int×Int):=Au2 100 (b,p)
def A9d:FT [.sl .byte false,.int .i64] [.int .u64,.int .i64,.int .i64]:=λx=>Bw1 x.1 x.2
theorem Baf:FO 78 [.sl .byte false,.int .i64] [.int .u64,.int .i64,.int .i64] A9d :=.fin 0 Bo8 λ_ _ _ hx=>⟨100,hx⟩
def Blj(R:Type):Px R:=pxO [(78,cA A9d)] [] [] []
def Alf(x:HV [.sl .byte false,.int .i64]):Option (HV [.sl .byte true,.int .i64,.int .i64]):=match x with
 |(b,p) =>
 (Bw1 b p).bind λ(x,x1,x2) =>
  cond (!decide (x2=0)) (
  some ([],0,x2)) (
  cond (decide (1048576<x)) (
   some ([],0,3)) (
   cond (decide ((wr .u64 (wr .i64 ((b.length:Int)-x1)))<x)) (
   some ([],0,10)) (
   chk (Ev x1 (wr .i64 (x1+(wr .i64 x))) b.length) (
    chk (decide (0+(cut b x1 (wr .i64 (x1+(wr .i64 x)))).length<=Ao)) (
    some (([]++(cut b x1 (wr .i64 (x1+(wr .i64 x))))),(wr .i64 (x1+(wr .i64 x))),0))))))
theorem Bgp:FO 79 [.sl .byte false,.int .i64] [.sl .byte true,.int .i64,.int .i64] (Alf):=fR (px:=Blj _) (n:=0) Tryz.func79 rfl (λ_ H=>⟨lv H (c1 H Baf Ae) Ab Aa,Ah⟩) λ(_,_)=>by kernel_rfl
def Bu2(b:Str)(p:Int):Option (Str×Int×Int):=Alf (b,p)
def Bbo:FT [.sl .byte false,.int .i64] [.sl .byte true,.int .i64,.int .i64]:=λx=>Bu2 x.1 x.2
theorem Bqf:FO 79 [.sl .byte false,.int .i64] [.sl .byte true,.int .i64,.int .i64] Bbo :=.fin0 Bgp λ_ _ _ hx=>hx
def Agx:Sig:=⟨44,[(0,.sl .byte false),(2,.sl .bytes true),(3,.int .i64),(4,.int .u64),(5,.int .i64),(7,.sl .bytes true)],[],[],0,0,0,[],[]⟩
abbrev Yr:=List UInt8×List (List UInt8)×Int×Int×Int×List (List UInt8)
def Amm{R:Type}(rec:Yr->Option R)(kx:Ex->Yr->Option R)(v:Yr):Option R:=match v with
 |(v,v1,v2,v3,v4,v5) =>
 cond (decide (0<v3)) (
  (Bu2 v v4).bind λ(x3,x4,x5) =>
  cond (!decide (x5=0)) (
   kx .ret (v,[],x5,v3,v4,v5)) (
   chk (decide (v5.length+1<=Ao)) (
   rec (v,v1,v2,(wr .u64 (v3-1)),x4,(v5++[x3]))))) (
  kx (.exit 0) (v,v1,v2,v3,v4,v5))
def As2(R:Type)(k:Nat):Px R:=pxO [(78,cA A9d),(79,cA Bbo)] [] [(5,Am k Agx (Amm))] []
def Ahc(k:Nat)(x:HV [.sl .byte false]):Option (HV [.sl .bytes true,.int .i64]):=match x with
 |b =>
 (Bw1 b 0).bind λ(x,x1,x2) =>
  cond (!decide (x2=0)) (
  some ([],x2)) (
  Al (λrec=>Amm rec (λe vz=>match vz with|(v6,v7,v8,_,a,c)=>match e with
   |.ret =>
   some (v7,v8)
   |.exit 0 =>
   cond (decide (a<(v6.length:Int))) (
    some ([],11)) (
    some (c,0))
   |_=>none)) k (b,[],0,x,x1,[]))
theorem A8v(k:Nat):FO 32 [.sl .byte false] [.sl .bytes true,.int .i64] (Ahc k):=fR (px:=As2 _ k) (n:=1) Tryz.func32 rfl (λcx H=>by have h0:Lv cx (As2 (HV [.sl .bytes true,.int .i64]) k):=lv H (c1 H Baf (c1 H Bqf Ae)) Ab Aa;have hlvsplit_0:=lO H h0 (b:=lp Tryz.f32 0) (k:=k) (n:=0) (s:=Agx) (step:=Amm) (λ_ _ _ (_,_,_,_,_,_)=>by kernel_rfl) Ah;exact⟨h0,(A5 Ah hlvsplit_0)⟩) λ_=>by kernel_rfl
def Bkl(b:Str):Option (List Str×Int):=Ahc 5000 b
def A1t:FT [.sl .byte false] [.sl .bytes true,.int .i64]:=λx=>Bkl x
theorem Bhv:FO 32 [.sl .byte false] [.sl .bytes true,.int .i64] A1t :=.fin 0 A8v λ_ _ _ hx=>⟨5000,hx⟩
def Bom(R:Type):Px R:=pxO [(104,cA Av1),(40,cA U7),(105,cA Awq),(106,cA Bak)] [] [] []
def Ya(x:HV [.sv .expr,.sl .col false,.sl .val false]):Option (HV [.sv .val,.int .i64]):=match x with
 |(e,cols,row) =>
 cond (!decide ((De e)=0)) (
  some ((Val.mk 0 0 []),2)) (
  cond (!(Dc cols row)) (
  some ((Val.mk 0 0 []),2)) (
  cond (!decide ((A7 e cols).2=0)) (
   some ((Val.mk 0 0 []),(A7 e cols).2)) (
   (H9 e cols row).bind λ(x,x1) =>
   some (x,x1))))
theorem Bdi:FO 42 [.sv .expr,.sl .col false,.sl .val false] [.sv .val,.int .i64] (Ya):=fR (px:=Bom _) (n:=0) Tryz.func42 rfl (λ_ H=>⟨lv H (c1 H Azm (c1 H Ajo (c1 H A4l (c1 H Bp0 Ae)))) Ab Aa,Ah⟩) λ(_,_,_)=>by kernel_rfl
def Bb0(e:Xpr)(cols:List Col)(row:List Val):Option (Val×Int):=Ya (e,cols,row)
def Bc9:FT [.sv .expr,.sl .col false,.sl .val false] [.sv .val,.int .i64]:=λx=>Bb0 x.1 x.2.1 x.2.2
theorem Bjz:FO 42 [.sv .expr,.sl .col false,.sl .val false] [.sv .val,.int .i64] Bc9 :=.fin0 Bdi λ_ _ _ hx=>hx
def Ano:Sig:=⟨73,[(1,.sl .val false),(4,.int .i64),(49,.sl .expr false),(50,.int .i64),(51,.int .i64)],[(2,.ptr 0 0)],[(0,.one (.sv .tbl))],1,0,0,[],[]⟩
abbrev V9:=List Val×Int×List Xpr×Int×Int×Tbl
def Ul{R:Type}(rec:V9->Option R)(kx:Ex->V9->Option R)(v:V9):Option R:=match v with
 |(c,e,b,d,a,w2) =>
 cond (decide (a<d)) (
  chk (inb a b.length) (
  (Bb0 (at' .expr b a) w2.cols c).bind λ(x1,x2) =>
   cond (!decide (x2=0)) (
   kx .ret (c,x2,b,d,a,w2)) (
   cond (decide ((O3 x1 (Val.mk 2 0 []))=0)) (
    kx .ret (c,162,b,d,a,w2)) (
    rec (c,e,b,d,(wr .i64 (a+1)),w2))))) (
  kx (.exit 2) (c,e,b,d,a,w2))
def Ak4:Sig:=⟨19,[(0,.sl .str false),(1,.str),(4,.int .i64),(7,.int .i64),(8,.int .i64)],[],[(0,.one (.sv .tbl))],80,80,400,[],[]⟩
abbrev Wa:=List Str×Str×Int×Int×Int×Tbl
def V6{R:Type}(rec:Wa->Option R)(kx:Ex->Wa->Option R)(v:Wa):Option R:=match v with
 |(v5,v6,v7,v8,v9,w1) =>
 cond (decide (v9<v8)) (
  chk (inb v9 v5.length) (
  cond (decide (v6=(at' .str v5 v9))) (
   kx .ret (v5,v6,v9,v8,v9,w1)) (
   rec (v5,v6,v7,v8,(wr .i64 (v9+1)),w1)))) (
  kx (.exit 0) (v5,v6,v7,v8,v9,w1))
def Ai5:Sig:=⟨73,[(1,.sl .val false),(4,.int .i64),(23,.sl .col false),(24,.int .i64),(25,.int .i64)],[(2,.ptr 0 0)],[(0,.one (.sv .tbl))],1,0,0,[],[]⟩
abbrev Vj:=List Val×Int×List Col×Int×Int×Tbl
def Vw{R:Type}(k:Nat)(rec:Vj->Option R)(kx:Ex->Vj->Option R)(v:Vj):Option R:=match v with
 |(v,v1,v2,v3,v4,w) =>
 cond (decide (v4<v3)) (
  chk (inb v4 v2.length) (
  chk (inb v4 v.length) (
   cond (decide ((at' .val v v4).kind=1)) (
   cond ((at' .col v2 v4).notNull) (
    kx .ret (v,161,v2,v3,v4,w)) (
    Al (λrc=>V6 rc (λe vz=>match vz with|(_,_,b,_,_,a)=>match e with
    |.ret =>
     cond (decide (0<=b)) (
     kx .ret (v,161,v2,v3,v4,a)) (
     rec (v,v1,v2,v3,(wr .i64 (v4+1)),a))
    |.exit 0 =>rec (v,v1,v2,v3,(wr .i64 (v4+1)),a)
    |_=>none)) k (w.key,(at' .col v2 v4).name,0,(w.key.length:Int),0,w))) (
   rec (v,v1,v2,v3,(wr .i64 (v4+1)),w))))) (
  kx (.exit 0) (v,v1,v2,v3,v4,w))
def Z7(R:Type)(k:Nat):Px R:=pxO [] [] [(2,Am k Ak4 (V6))] []
noncomputable def Am8(R:Type)(k:Nat):Px R:=pxO [(103,A2 80 400 (Z7 R k) Tryz.f103)] [] [] []
noncomputable def A1v(R:Type)(k:Nat):Px R:=pxO [(17,cA N8),(40,cA U7),(42,cA Bc9),(43,cA A7n),(41,A2 40 200 (Am8 R k) Tryz.f41)] [] [(7,Am k Ai5 (Vw k)),(13,Am k Ano (Ul))] []
def Ow(k:Nat)(x:HV [.sv .tbl,.sl .val false]):Option (HV [.int .i64]):=match x with
 |(t,row) =>
 (O2 t).bind λx =>
  cond (!decide (x=0)) (
  some x) (
  cond (!(Dc t.cols row)) (
   some 151) (
   Al (λrec=>Vw k rec (λe vz=>match vz with|(c,b,_,_,_,a)=>match e with
   |.ret =>some b
   |.exit 0 =>
    Al (λrec=>Ul rec (λe vz=>match vz with|(_,d,_,_,_,_)=>match e with
    |.ret =>some d
    |.exit 2 =>some 0
    |_=>none)) k (c,b,a.checks,(a.checks.length:Int),0,a)
   |_=>none)) k (row,0,t.cols,(t.cols.length:Int),0,t)))
theorem Bgc(k:Nat):FO 14 [.sv .tbl,.sl .val false] [.int .i64] (Ow k):=fR (px:=A1v _ k) (n:=2) Tryz.func14 rfl (λcx H=>by have h2:Lv cx (Z7 (HV [.int .i64]) k):=lv H Ae Ab Aa;have hlsfits_1:=lO H h2 (b:=lp Tryz.f103 0) (k:=k) (n:=0) (s:=Ak4) (step:=V6) (λ_ _ _ (_,_,_,_,_,_)=>by kernel_rfl) Ah;have h1:Lv cx (Am8 (HV [.int .i64]) k):=lv H (Az (cR H h2 Tryz.func103 rfl (n:=1) ((A5 Ah hlsfits_1))) Ae) Ab Aa;have h0:Lv cx (A1v (HV [.int .i64]) k):=lv H (c1 H U3 (c1 H Ajo (c1 H Bjz (c1 H Bbr (Az (cR H h1 Tryz.func41 rfl (n:=0) (Ah)) Ae))))) Ab Aa;have hlsfits_0:=lO H h0 (b:=lp Tryz.f14 0) (k:=k) (n:=0) (s:=Ai5) (step:=Vw k) (λ_ _ _ (_,_,_,_,_,_)=>by kernel_rfl) Ah;have hlsfits_2:=lO H h0 (b:=lp Tryz.f14 1) (k:=k) (n:=0) (s:=Ano) (step:=Ul) (λ_ _ _ (_,_,_,_,_,_)=>by kernel_rfl) Ah;exact⟨h0,(A5 (A5 Ah hlsfits_0) hlsfits_2)⟩) λ(_,_)=>by kernel_rfl
def Rn(t:Tbl)(row:List Val):Option Int:=Ow 5000 (t,row)
def Avw:FT [.sv .tbl,.sl .val false] [.int .i64]:=λx=>Rn x.1 x.2
theorem Azy:FO 14 [.sv .tbl,.sl .val false] [.int .i64] Avw :=.fin 0 Bgc λ_ _ _ hx=>⟨5000,hx⟩
def Aq9:Sig:=⟨48,[(7,.sl .bytes true),(27,.sl .idx false),(28,.int .i64),(29,.int .i64)],[(1,.ptr 0 0)],[(0,.one (.sv .tbl))],1,0,0,[],[]⟩
abbrev Anh:=List (List UInt8)×List Idx×Int×Int×Tbl
def A7x{R:Type}(rec:Anh->Option R)(kx:Ex->Anh->Option R)(v:Anh):Option R:=match v with
 |(v,v1,v2,v3,w) =>
 cond (decide (v3<v2)) (
  chk (inb v3 v1.length) (
  (Ami (C8 w (at' .idx v1 v3))).bind λ(x3,_) =>
   chk (decide (x3.length<=Ao)) (
   chk (decide (v.length+1<=Ao)) (
    rec ((v++[x3]),v1,v2,(wr .i64 (v3+1)),w))))) (
  kx (.exit 0) (v,v1,v2,v3,w))
def Bc0(R:Type)(k:Nat):Px R:=pxO [(17,cA N8),(25,cA Av5),(24,cA A1n),(26,cA Ak1),(27,cA Ba6)] [] [(7,Am k Aq9 (A7x))] []
def Asi(k:Nat)(x:HV [.sv .tbl]):Option (HV [.sl .byte true,.int .i64]):=match x with
 |t =>
 (O2 t).bind λx =>
  cond (!decide (x=0)) (
  some ([],x)) (
  (Ami (Dz t)).bind λ(x1,_) =>
   chk (decide (x1.length<=Ao)) (
   Al (λrec=>A7x rec (λe vz=>match vz with|(v4,_,_,_,_)=>match e with
    |.exit 0 =>
    (Bvb v4).bind λx5 =>some (x5,0)
    |_=>none)) k ([x1],t.idx,(t.idx.length:Int),0,t)))
theorem Blw(k:Nat):FO 8 [.sv .tbl] [.sl .byte true,.int .i64] (Asi k):=fR (px:=Bc0 _ k) (n:=1) Tryz.func8 rfl (λcx H=>by have h0:Lv cx (Bc0 (HV [.sl .byte true,.int .i64]) k):=lv H (c1 H U3 (c1 H A2u (c1 H Bec (c1 H Aqq (c1 H Bpn Ae))))) Ab Aa;have hlsenc_0:=lO H h0 (b:=lp Tryz.f8 0) (k:=k) (n:=0) (s:=Aq9) (step:=A7x) (λ_ _ _ (_,_,_,_,_)=>by kernel_rfl) Ah;exact⟨h0,(A5 Ah hlsenc_0)⟩) λ_=>by kernel_rfl
def Bvt(t:Tbl):Option (Str×Int):=Asi 5000 t
def A66:FT [.sv .tbl] [.sl .byte true,.int .i64]:=λx=>Bvt x
theorem Bb3:FO 8 [.sv .tbl] [.sl .byte true,.int .i64] A66 :=.fin 0 Blw λ_ _ _ hx=>⟨5000,hx⟩
def Arb:Sig:=⟨77,[(0,.sl .byte false),(3,.int .i64),(23,.sl .bytes true),(24,.int .i64),(25,.int .i64)],[(2,.ptr 0 0),(6,.ptr 1 0)],[(0,.one (.sv .tbl)),(1,.one (.sv .tbl))],2,0,0,[],[]⟩
abbrev Apw:=List UInt8×Int×List (List UInt8)×Int×Int×Tbl×Tbl
def A4v{R:Type}(rec:Apw->Option R)(kx:Ex->Apw->Option R)(v:Apw):Option R:=match v with
 |(v,v1,v2,v3,v4,w,w1) =>
 cond (decide (v4<v3)) (
  chk (inb v4 v2.length) (
  (Bve (at' .bytes v2 v4)).bind λ(x2,_,x4) =>
   let j:=λ(p1:Bool) =>
   cond (p1) (
    (Ava x2).bind λ(x5,x6) =>
    cond (!decide (x6=0)) (
     kx .ret (v,11,v2,v3,v4,(Tbl.mk [] [] [] [] []),x5)) (
     rec (v,v1,v2,v3,(wr .i64 (v4+1)),w,x5))) (
    cond (decide (x4=0)) (
    (Aqs w1 x2).bind λ(x7,x8) =>
     cond (!decide (x8=0)) (
     kx .ret (v,11,v2,v3,v4,(Tbl.mk [] [] [] [] []),x7)) (
     rec (v,v1,v2,v3,(wr .i64 (v4+1)),w,x7))) (
    cond (!decide (x4=0)) (
     kx .ret (v,11,v2,v3,v4,(Tbl.mk [] [] [] [] []),w1)) (
     rec (v,v1,v2,v3,(wr .i64 (v4+1)),w,w1))))
   cond (decide (v4=0)) (
   j (decide (x4=0))) (
   j false))) (
  kx (.exit 0) (v,v1,v2,v3,v4,w,w1))
def A95(R:Type)(k:Nat):Px R:=pxO [(32,cA A1t),(33,cA A9v),(34,cA Aia),(35,cA Ah1),(8,cA A66)] [] [(6,Am k Arb (A4v))] []
def At9(k:Nat)(x:HV [.sl .byte false]):Option (HV [.sv .tbl,.int .i64]):=match x with
 |b =>
 (Bkl b).bind λ(x,x1) =>
  cond (!decide (x1=0)) (
  some ((Tbl.mk [] [] [] [] []),11)) (
  Al (λrec=>A4v rec (λe vz=>match vz with|(v5,v6,_,_,_,c,a)=>match e with
   |.ret =>
   some (c,v6)
   |.exit 0 =>
   (Bvt a).bind λ(x9,d) =>
    cond (!decide (d=0)) (
    some ((Tbl.mk [] [] [] [] []),11)) (
    cond (!decide (x9=v5)) (
     some ((Tbl.mk [] [] [] [] []),11)) (
     some (a,0)))
   |_=>none)) k (b,0,x,(x.length:Int),0,(Tbl.mk [] [] [] [] []),(Tbl.mk [] [] [] [] [])))
theorem Bme(k:Nat):FO 10 [.sl .byte false] [.sv .tbl,.int .i64] (At9 k):=fR (px:=A95 _ k) (n:=1) Tryz.func10 rfl (λcx H=>by have h0:Lv cx (A95 (HV [.sv .tbl,.int .i64]) k):=lv H (c1 H Bhv (c1 H Bm7 (c1 H A0f (c1 H A4g (c1 H Bb3 Ae))))) Ab Aa;have hlsdec_0:=lO H h0 (b:=lp Tryz.f10 0) (k:=k) (n:=0) (s:=Arb) (step:=A4v) (λ_ _ _ (_,_,_,_,_,_,_)=>by kernel_rfl) Ah;exact⟨h0,(A5 Ah hlsdec_0)⟩) λ_=>by kernel_rfl
def Bxv(b:Str):Option (Tbl×Int):=At9 5000 b
def Bkx:FT [.sl .byte false] [.sv .tbl,.int .i64]:=λx=>Bxv x
theorem Bty:FO 10 [.sl .byte false] [.sv .tbl,.int .i64] Bkx :=.fin 0 Bme λ_ _ _ hx=>⟨5000,hx⟩
def D1(e:Xpr)(cols:List Col)(row:List Val):Val×Int:=cond (!decide (De e=0)) (⟨0,0,[]⟩,2) (cond (!Dc cols row) (⟨0,0,[]⟩,2) (cond (!decide ((A7 e cols).2=0)) (⟨0,0,[]⟩,(A7 e cols).2) ((H9 e cols row).getD (⟨0,0,[]⟩,0))))
theorem Qb(e:Xpr)(cols:List Col)(row:List Val):(De e≠0\/Dc cols row=false)/\D1 e cols row=(⟨0,0,[]⟩,2)\/(De e=0/\Dc cols row=true/\(A7 e cols).2≠0/\D1 e cols row=(⟨0,0,[]⟩,(A7 e cols).2))\/(De e=0/\Dc cols row=true/\(A7 e cols).2=0/\H9 e cols row=some (D1 e cols row)/\Bfs (D1 e cols row).1 (D1 e cols row).2 (A7 e cols).1):=by
 simp only[D1];by_cases h1:De e=0
 ·rw[Ze1 h1];cases h2:Dc cols row with
  |false=>left;simp
  |true =>
   by_cases h3:(A7 e cols).2=0
   ·right;right;obtain⟨v,f,h4,h5⟩:=Gl h2 (A1 e) e 30 (Zn1 _) (Mm.1 h1) h3;rw[h4];refine⟨h1,rfl,h3,?_,?_⟩
    ·simp[h3]
    ·simpa[h3] using h5
   ·right;left;refine⟨h1,rfl,h3,?_⟩;simp[h3]
 ·left;refine⟨.inl h1,?_⟩;simp[h1]
theorem Bpm(e:Xpr)(cols:List Col)(row:List Val):Bb0 e cols row=some (D1 e cols row):=by
 simp only[Bb0,Ya];rcases Qb e cols row with ⟨h,h2⟩|⟨h1,h2,h3,h4⟩|⟨h1,h2,h3,h4,_⟩
 ·rw[h2];by_cases h1:De e=0
  ·rw[h.resolve_left (by simpa using h1)];simp[h1]
  ·simp[h1]
 ·rw[h4,h2];simp[h1,h3]
 ·rw[h2,h4];simp[h1,h3]
def Adh(key:List Str):List Col->List Val->Bool
 |c::cs,v::vs=>(decide (v.kind=1)&&(c.notNull||key.contains c.name))||Adh key cs vs
 |_,_=>false
def F3(cols:List Col)(row:List Val):List Xpr->Int
 |[]=>0
 |e::l=>cond (decide ((D1 e cols row).2=0)) (cond (decide ((D1 e cols row).1=⟨2,0,[]⟩)) 162 (F3 cols row l)) (D1 e cols row).2
def J3(t:Tbl)(row:List Val):Int:=cond (Fq t) (cond (Dc t.cols row) (cond (Adh t.key t.cols row) 161 (F3 t.cols row t.checks)) 151) 2
theorem Av6{R:Type}{kx:Ex->Wa->Option R}{l:List Str}{nm:Str}{w:Tbl}{a b:Option R}{k:Nat}(hn:l.length<=4000)(h4 : 4000<k)(h1:∀i:Nat,kx .ret (l,nm,(i:Int),(l.length:Int),(i:Int),w)=a)(h2:kx (.exit 0) (l,nm,0,(l.length:Int),(l.length:Int),w)=b) :
  Al (λrec=>V6 rec kx) k (l,nm,0,(l.length:Int),0,w)=cond (l.contains nm) a b:=by
 have hl:ln l.length:=by simp only[ln];omega
 refine(A3 l.length (λi=>(l,nm,0,(l.length:Int),(i:Int),w)) (λi=>cond ((l.drop i).contains nm) a b) (λi hi rec hr =>?_) (λrec =>?_) k 0 (Nat.zero_le _) (by omega)).trans (by rw[Zq1])
 ·have e:decide (nm=l[i])=(nm == l[i]):=by rw[Bool.eq_iff_iff];simp
  simp only[V6,Cf hi,Af,Aw hi,chk,As (c :=.str) hi,Au hi hl,hr,h1,Ak hi,List.contains_cons,e];cases nm == l[i]<;>rfl
 ·simp only[V6,Cg,Ag,h2];rw[Zk1 (Zn1 _)];rfl
theorem Axg{R:Type}{kx:Ex->Vj->Option R}{t:Tbl}{row:List Val}{a b:Option R}(hk:t.key.length<=4000)(hn:t.cols.length<=4000){k:Nat}(h4 : 4000<k)(he:t.cols.length=row.length)(h1:∀i,kx .ret (row,161,t.cols,(t.cols.length:Int),i,t)=a)(h2:kx (.exit 0) (row,0,t.cols,(t.cols.length:Int),(t.cols.length:Int),t)=b) :
  Al (λrec=>Vw k rec kx) k (row,0,t.cols,(t.cols.length:Int),0,t)=cond (Adh t.key t.cols row) a b:=by
 have hl:ln t.cols.length:=by simp only[ln];omega
 refine(A3 t.cols.length (λi=>(row,0,t.cols,(t.cols.length:Int),(i:Int),t)) (λi=>cond (Adh t.key (t.cols.drop i) (row.drop i)) a b) (λi hi rec hr =>?_) (λrec =>?_) k 0 (Nat.zero_le _) (by omega)).trans (by rw[Zq1,Zq1])
 ·have hi2:i<row.length:=by omega
  simp only[Vw,Cf hi,Af,Aw hi,Aw hi2,chk,As (c :=.col) hi,As (c :=.val) hi2,Au hi hl,Ak hi,Ak hi2,Adh,h1];cases decide (row[i].kind=1) with
  |false=>exact hr
  |true =>
   cases t.cols[i].notNull with
   |true=>rfl
   |false =>
    simp only[Af,Ag,Bool.true_and,Bool.false_or];refine(Av6 (a:=a) (b:=rec (row,0,t.cols,(t.cols.length:Int),((i+1:Nat):Int),t)) hk h4 (λj =>?_) rfl).trans ?_
    ·simp only[Ze1 (show(0:Int)<=(j:Int) by omega),Af];exact h1 _
    ·rw[hr];cases t.key.contains t.cols[i].name<;>rfl
 ·simp only[Vw,Cg,Ag,h2];rw[Zk1 (Zn1 _)];rfl
theorem Awl{R:Type}{kx:Ex->V9->Option R}{t:Tbl}{row:List Val}{c:Int->Option R}{k:Nat}(hn:t.checks.length<=4000)(h4 : 4000<k)(h1:∀r i,kx .ret (row,r,t.checks,(t.checks.length:Int),i,t)=c r)(h2:kx (.exit 2) (row,0,t.checks,(t.checks.length:Int),(t.checks.length:Int),t)=c 0) :
  Al (λrec=>Ul rec kx) k (row,0,t.checks,(t.checks.length:Int),0,t)=c (F3 t.cols row t.checks):=by
 have hl:ln t.checks.length:=by simp only[ln];omega
 refine(A3 t.checks.length (λi=>(row,0,t.checks,(t.checks.length:Int),(i:Int),t)) (λi=>c (F3 t.cols row (t.checks.drop i))) (λi hi rec hr =>?_) (λrec =>?_) k 0 (Nat.zero_le _) (by omega)).trans (by rw[Zq1])
 ·have e:decide (O3 (D1 t.checks[i] t.cols row).1 ⟨2,0,[]⟩=0)=decide ((D1 t.checks[i] t.cols row).1=⟨2,0,[]⟩):=Zy1.2 (vcmp_lin.eq _ _);simp only[Ul,Cf hi,Af,Aw hi,chk,As (c :=.expr) hi,Bpm,Zc1,Au hi hl,hr,h1,Ak hi,F3,e];cases decide ((D1 t.checks[i] t.cols row).2=0) with|false=>rfl|true=>cases decide ((D1 t.checks[i] t.cols row).1=⟨2,0,[]⟩)<;>rfl
 ·simp only[Ul,Cg,Ag,h2];rw[Zk1 (Zn1 _)];rfl
theorem Brx{t:Tbl}{row:List Val}(hk:t.key.length<=4000)(hn:t.cols.length<=4000)(hl:t.checks.length<=4000)(hs:Fv t=true){k:Nat}(h4 : 4000<k):Ow k (t,row)=some (J3 t row):=by
 simp only[Ow,O2,hs,Af,Zc1,J3];cases Fq t with
 |false=>rfl
 |true =>simp only[Af,decide_true,Zt1,Ag];cases hf:Dc t.cols row with|false=>rfl|true =>simp only[Af,Zt1,Ag];refine(Axg (a:=some 161) (b:=some (F3 t.cols row t.checks)) hk hn h4 (E0 hf) (λ_=>rfl) ?_).trans (A0);exact Awl (c:=some) hl h4 (λ_ _=>rfl) rfl
theorem Aj6{t:Tbl}{row:List Val}(hk:t.key.length<=4000)(hn:t.cols.length<=4000)(hl:t.checks.length<=4000)(hs:Fv t=true):Rn t row=some (J3 t row):=Brx hk hn hl hs (by omega)
def Af4:Sig:=⟨88,[(2,.int .i64),(5,.int .i64)],[(1,.ptr 0 0)],[(0,.one (.sv .val))],1,0,0,[],[]⟩
abbrev Jq:=Int×Int×Val
def Hf{R:Type}(rec:Jq->Option R)(kx:Ex->Jq->Option R)(v:Jq):Option R:=match v with
 |(v1,v2,w) =>
 cond (decide (v2<(w.s.length:Int))) (
  cond (decide (w.kind=4)) (
  chk (inb v2 w.s.length) (
   cond (decide ((bat w.s v2)<32)) (
   kx .ret (2,v2,w)) (
   chk (inb v2 w.s.length) (
    cond (decide (127<=(bat w.s v2))) (
    kx .ret (2,v2,w)) (
    rec (v1,(wr .i64 (v2+1)),w)))))) (
  kx (.exit 0) (v1,v2,w))) (
  kx (.exit 0) (v1,v2,w))
def As1(R:Type)(k:Nat):Px R:=pxO [] [] [(6,Am k Af4 (Hf))] []
def Aga(k:Nat)(x:HV [.sv .val]):Option (HV [.int .i64]):=match x with
 |v =>
 let j4:=λ(p4:Bool) =>
  let j3:=λ(p6:Bool) =>
  let j2:=λ(_:Unit) =>
   Al (λrec=>Hf rec (λe vz=>match vz with|(v3,_,_)=>match e with
   |.ret =>some v3
   |.exit 0 =>some 0
   |_=>none)) k (0,0,v)
  let j1:=λ(p7:Bool) =>
   let j:=λ(p9:Bool) =>
   cond (p9) (
    some 2) (
    cond (!p6) (
    cond (!decide (v.s=[])) (
     some 2) (
     cond (decide (1000<(v.s.length:Int))) (
     some 2) (
     j2 ()))) (
    cond (decide (1000<(v.s.length:Int))) (
     some 2) (
     j2 ())))
   cond (p7) (
   j true) (
   cond (!p4) (
    j (!decide (v.n=0))) (
    j false))
  cond (decide (v.kind<1)) (
   j1 true) (
   j1 (decide (5<v.kind)))
  cond (decide (v.kind=4)) (
  j3 true) (
  j3 (decide (v.kind=5)))
 cond (decide (v.kind=2)) (
  cond (decide (v.n=0)) (
  j4 true) (
  cond (decide (v.n=1)) (
   j4 true) (
   j4 (decide (v.kind=3))))) (
  j4 (decide (v.kind=3)))
theorem A5b(k:Nat):FO 16 [.sv .val] [.int .i64] (Aga k):=fR (px:=As1 _ k) (n:=1) Tryz.func16 rfl (λcx H=>by have h0:Lv cx (As1 (HV [.int .i64]) k):=lv H Ae Ab Aa;have hlrcheck_0:=lO H h0 (b:=lp Tryz.f16 0) (k:=k) (n:=0) (s:=Af4) (step:=Hf) (λ_ _ _ (_,_,_)=>by kernel_rfl) Ah;exact⟨h0,(A5 Ah hlrcheck_0)⟩) λ_=>by kernel_rfl
abbrev P4(v:Val):Int:=Ei v
def Sp:FT [.sv .val] [.int .i64]:=λx=>some (P4 x)
theorem Ahl{R:Type}{kx:Ex->Jq->Option R}{v:Val}{a b:Option R}(hn:ln v.s.length)(h4:v.kind=4)(h1:∀j,kx .ret (2,j,v)=a)(h2:∀q j,kx (.exit 0) (q,j,v)=b):∀(k i:Nat) q,i<=v.s.length->v.s.length-i<k->Al (λrec=>Hf rec kx) k (q,(i:Int),v)=cond ((v.s.drop i).all vis) b a
 |0,i,q,_,h=>by omega
 |k+1,i,q,hi,h=>by
  rw[Bb];by_cases hl:i<v.s.length
  ·have ih:=Ahl hn h4 h1 h2 k (i+1) q (by omega) (by omega);simp only[Hf,Au hl hn,ih,h1,Ak hl,Ct hl,Aw hl,Zv1,chk,Af,Bool.cond_decide];rw[if_pos (by omega),if_pos h4];simp only[vis];split
   ·rw[Zd1 (by omega)];rfl
   ·split
    ·rw[Ze1 (by omega),Zd1 (by omega)];rfl
    ·rw[Ze1 (by omega),Ze1 (by omega)];rfl
  ·simp only[Hf,h2,Bool.cond_decide];rw[if_neg (by omega),Zk1 (by omega)];rfl
theorem Bgy{R:Type}{kx:Ex->Jq->Option R}{v:Val}{b:Option R}(h4:¬v.kind=4)(h2:kx (.exit 0) (0,0,v)=b)(k:Nat):Al (λrec=>Hf rec kx) (k+1) (0,0,v)=b:=by rw[Bb];simp only[Hf,h2,Bool.cond_decide,if_neg h4];split<;>rfl
theorem Acp:FO 16 [.sv .val] [.int .i64] Sp :=.fin 0 A5b λv r hb hx=>⟨v.s.length+1,by
 simp only[Sp,Za1] at hx;subst hx;have e0:((0:Nat):Int)=0:=rfl;have hloop:Al (λrec=>Hf rec (λe v=>match v with|(v2,_,_)=>match e with
   |.ret=>some v2
   |.exit 0=>some 0
   |_=>none)) (v.s.length+1) (0,0,v)=cond (decide (v.kind=4) && !H2 v.s) (some (2:Int)) (some 0):=by
  by_cases h4:v.kind=4
  ·have:=Ahl (a:=some (2:Int)) (b:=some 0) hb.2.2 h4 (kx:=λe v=>match v with|(v2,_,_)=>match e with
    |.ret=>some v2
    |.exit 0=>some 0
    |_=>none) (λ_=>rfl) (λ_ _=>rfl) (v.s.length+1) 0 0 (Nat.zero_le _) (by omega)
   rw[e0] at this;rw[this,Ze1 h4,Zq1,H2];cases v.s.all vis<;>rfl
  ·rw[Bgy (b:=some 0) h4 rfl,Zd1 h4];rfl
 simp only[Aga] at hloop ⊢;rw[hloop];have hlen:v.s=[]->¬(1000<(v.s.length:Int)):=λh=>by rw[h];simp
 have hle:decide ((v.s.length:Int)<=1000) = !decide (1000<(v.s.length:Int)):=by
  by_cases h : 1000<(v.s.length:Int)
  ·rw[Ze1 h,Zd1 (by omega)];rfl
  ·rw[Zd1 h,Ze1 (by omega)];rfl
 have hs:decide (v.s=[])=true->decide (1000<(v.s.length:Int))=false:=λh=>Zd1 (hlen (of_decide_eq_true h));simp only[Ei,Bo,hle];generalize decide (1000<(v.s.length:Int))=q at *;generalize decide (v.s=[])=s at *;generalize H2 v.s=w at *;by_cases hk:v.kind=1
 ·simp only[hk];cases decide (v.n=0)<;>cases s<;>simp_all
 by_cases hk2:v.kind=2
 ·simp only[hk2];cases decide (v.n=0)<;>cases decide (v.n=1)<;>cases s<;>simp_all
 by_cases hk3:v.kind=3
 ·simp only[hk3];cases decide (v.n=0)<;>cases decide (v.n=1)<;>cases s<;>simp_all
 by_cases hk4:v.kind=4
 ·simp only[hk4];cases decide (v.n=0)<;>cases w<;>cases q<;>simp_all
 by_cases hk5:v.kind=5
 ·simp only[hk5];cases decide (v.n=0)<;>cases q<;>simp_all
 rw[Zd1 hk,Zd1 hk2,Zd1 hk3,Zd1 hk4,Zd1 hk5];by_cases hl:v.kind<1
 ·rw[Ze1 hl];rfl
 ·rw[Zd1 hl,Ze1 (show 5<v.kind by omega)];rfl⟩
def Afy:Sig:=⟨58,[(0,.int .u8),(2,.int .i64),(3,.str),(4,.int .i64)],[],[],0,0,0,[],[]⟩
abbrev Xr:=Int×Int×Str×Int
def Amy{R:Type}(rec:Xr->Option R)(kx:Ex->Xr->Option R)(v:Xr):Option R:=match v with
 |(v,v1,v2,v3) =>
 cond (decide (v3<(v2.length:Int))) (
  chk (inb v3 v2.length) (
  cond (decide ((bat v2 v3)=v)) (
   kx .ret (v,7,v2,v3)) (
   rec (v,v1,v2,(wr .i64 (v3+1)))))) (
  kx (.exit 1) (v,v1,v2,v3))
def Auq(R:Type)(k:Nat):Px R:=pxO [] [] [(15,Am k Afy (Amy))] []
def Ae9(k:Nat)(x:HV [.int .u8]):Option (HV [.int .i64]):=match x with
 |c =>
 let j3:Bool->Option (HV [.int .i64]):=λ(p1:Bool) =>
  cond (p1) (
  some 1) (
  let j2:Bool->Option (HV [.int .i64]):=λ(p3:Bool) =>
   cond (p3) (
   some 2) (
   let j1:Bool->Option (HV [.int .i64]):=λ(p5:Bool) =>
    cond (p5) (
    some 3) (
    cond (decide (c=95)) (
     some 4) (
     cond (decide (c=39)) (
     some 5) (
     let j:Bool->Option (HV [.int .i64]):=λ(p6:Bool) =>
      cond (p6) (
      some 6) (
      cond (decide (c=10)) (
       some 6) (
       cond (decide (c=13)) (
       some 6) (
       Al (λrec=>Amy rec (λe vz=>match vz with|(_,v5,_,_)=>match e with
        |.ret =>
        some v5
        |.exit 1 =>
        some 0
        |_=>none)) k (c,0,[40,41,44,42,61,60,62,43,45,59],0))))
     cond (decide (c=32)) (
      j true) (
      j (decide (c=9))))))
   cond (decide (48<=c)) (
    j1 (decide (c<=57))) (
    j1 false))
  cond (decide (97<=c)) (
   j2 (decide (c<=122))) (
   j2 false))
 cond (decide (65<=c)) (
  j3 (decide (c<=90))) (
  j3 false)
theorem A6f(k:Nat):FO 156 [.int .u8] [.int .i64] (Ae9 k):=fR (px:=Auq _ k) (n:=1) Tryz.func156 rfl (λcx H=>by have h0:Lv cx (Auq (HV [.int .i64]) k):=lv H Ae Ab Aa;have hlrclass_0:=lO H h0 (b:=lp Tryz.f156 0) (k:=k) (n:=0) (s:=Afy) (step:=Amy) (λ_ _ _ (_,_,_,_)=>by kernel_rfl) Ah;exact⟨h0,(A5 Ah hlrclass_0)⟩) λ_=>by kernel_rfl
def Apk(c:Int):Int:=Lp.clsF c
def Akw:FT [.int .u8] [.int .i64]:=λx=>some (Apk x)
theorem A7d:((List.range 256).all λn=>decide (Ae9 11 (n:Int)=some (Lp.clsF (n:Int))))=true:=by kernel_rfl
theorem Bho:FO 156 [.int .u8] [.int .i64] Akw :=.fin 0 A6f λ(c:Int) r hb hx=>⟨11,by
 simp only[Akw,Za1] at hx;have h : 0<=c/\c<=255:=by have h0:inK .u8 c:=hb;simp only[inK,IntKind.min,IntKind.max] at h0;exact⟨h0.1,h0.2⟩
 obtain⟨n,rfl⟩:∃n:Nat,c=(n:Int):=⟨c.toNat,by omega⟩;have h2:=Zg2.1 A7d n (List.mem_range.2 (by omega));exact(of_decide_eq_true h2).trans (congrArg some hx)⟩
def Alr:Sig:=⟨37,[(0,.str),(2,.bool),(3,.int .i64)],[],[],0,0,0,[],[]⟩
abbrev Wb:=Str×Bool×Int
def U8{R:Type}(rec:Wb->Option R)(kx:Ex->Wb->Option R)(v:Wb):Option R:=match v with
 |(v,v1,v2) =>
 cond (decide (v2<(v.length:Int))) (
  chk (inb v2 v.length) (
  cond (!decide ((Apk (bat v v2))=2)) (
   cond (decide (v2=0)) (
   kx .ret (v,false,v2)) (
   cond (!decide ((Apk (bat v v2))=3)) (
    cond (!decide ((Apk (bat v v2))=4)) (
    kx .ret (v,false,v2)) (
    rec (v,v1,(wr .i64 (v2+1))))) (
    rec (v,v1,(wr .i64 (v2+1)))))) (
   rec (v,v1,(wr .i64 (v2+1)))))) (
  kx (.exit 0) (v,v1,v2))
def A09(R:Type)(k:Nat):Px R:=pxO [(156,cA Akw)] [] [(2,Am k Alr (U8))] []
def Apj(k:Nat)(x:HV [.str]):Option (HV [.bool]):=match x with
 |s =>
 Al (λrec=>U8 rec (λe vz=>match vz with|(v3,v4,_)=>match e with
  |.ret =>
  some v4
  |.exit 0 =>
  cond (decide (1<=(v3.length:Int))) (
   some (decide ((v3.length:Int)<=30))) (
   some false)
  |_=>none)) k (s,false,0)
theorem Bh9(k:Nat):FO 131 [.str] [.bool] (Apj k):=fR (px:=A09 _ k) (n:=1) Tryz.func131 rfl (λcx H=>by have h0:Lv cx (A09 (HV [.bool]) k):=lv H (c1 H Bho Ae) Ab Aa;have hlrname_0:=lO H h0 (b:=lp Tryz.f131 0) (k:=k) (n:=0) (s:=Alr) (step:=U8) (λ_ _ _ (_,_,_)=>by kernel_rfl) Ah;exact⟨h0,(A5 Ah hlrname_0)⟩) λ_=>by kernel_rfl
def Z0(s:Str):Bool:=Lp.rnameF s
def Ab7:FT [.str] [.bool]:=λx=>some (Z0 x)
theorem Ajl{R:Type}{kx:Ex->Wb->Option R}{s:Str}{c:Bool->Option R}(hn:ln s.length)(h1:∀j,kx .ret (s,false,j)=c false)(h2:∀q j,kx (.exit 0) (s,q,j)=c true):∀(k i:Nat) q,i<=s.length->s.length-i<k->Al (λrec=>U8 rec kx) k (s,q,(i:Int))=c (Lp.okGo (s.drop i) i)
 |0,i,q,_,h=>absurd h (Zm1 _)
 |k+1,i,q,hi,h=>by
  rw[Bb];by_cases hl:i<s.length
  ·have ih:=Ajl hn h1 h2 k (i+1) q (by omega) (by omega);have en:((i+1:Nat):Int)=(i:Int)+1:=by omega
   simp only[U8,Au hl hn,ih,h1,Ak hl,Ct hl,Aw hl,chk,Af,Apk,Lp.okGo,Lp.nmOk];rw[Ze1 (show(i:Int)<(s.length:Int) by omega),en];cases decide (Lp.clsF (s[i].toNat:Int)=2)<;>cases decide ((i:Int)=0)<;>cases decide (Lp.clsF (s[i].toNat:Int)=3)<;>cases decide (Lp.clsF (s[i].toNat:Int)=4)<;>rfl
  ·simp only[U8,h2];rw[Zd1 (by omega),Zk1 (by omega)];rfl
theorem Ako:FO 131 [.str] [.bool] Ab7 :=.fin 0 Bh9 λs r hb hx=>⟨s.length+1,by simp only[Ab7,Za1] at hx;subst hx;simp only[Apj];refine(Ajl (s:=s) (c:=λb=>cond b (cond (decide (1<=(s.length:Int))) (some (decide ((s.length:Int)<=30))) (some false)) (some false)) hb (λ_=>rfl) (λ_ _=>rfl) (s.length+1) 0 false (Nat.zero_le _) (by omega)).trans ?_;rw[Zq1,Z0,Lp.rnameF];show cond (Lp.okGo s 0) _ _=_;cases Lp.okGo s 0<;>cases decide (1<=(s.length:Int))<;>rfl⟩
theorem Lh(s:Str):Z0 s=Df s:=(Lp.name_eq s).symm
def Bjn(R:Type):Px R:=pxO [] [] [] []
def Ao3(x:HV [.int .i64]):Option (HV [.str]):=match x with
 |kind =>
 cond (decide (kind<0)) (
  some []) (
  cond (decide (15<=kind)) (
  some []) (
  chk (inb kind 15) (
   some (at' .str [[],[],[],[],[65,78,68],[79,82],[61],[60,62],[60],[60,61],[62],[62,61],[43],[45],[42]] kind))))
theorem Bg5:FO 136 [.int .i64] [.str] (Ao3):=fR (px:=Bjn _) (n:=0) Tryz.func136 rfl (λ_ H=>⟨lv H Ae Ab Aa,Ah⟩) λ_=>by kernel_rfl
def Bwy:List Str:=[[],[],[],[],[65,78,68],[79,82],[61],[60,62],[60],[60,61],[62],[62,61],[43],[45],[42]]
def Aha(k:Int):Str:=if k<0\/15<=k then [] else at' .str Bwy k
def Aws:FT [.int .i64] [.str]:=λx=>some (Aha x)
theorem Bmx:FO 136 [.int .i64] [.str] Aws :=.fin0 Bg5 λ(k:Int) r _ hx=>by
 simp only[Aws,Za1] at hx;subst hx;simp only[Ao3,Aha];by_cases h1:k<0
 ·rw[Ze1 h1,if_pos (.inl h1)];rfl
 ·by_cases h2 : 15<=k
  ·rw[Zd1 h1,Ze1 h2,if_pos (.inr h2)];rfl
  ·rw[Zd1 h1,Zd1 h2,if_neg (by omega)];obtain⟨j,rfl⟩:∃j:Nat,k=(j:Int):=⟨k.toNat,by omega⟩;rw[Aw (i:=j) (n:=15) (by omega)];rfl
end Go.Proofs.YtbkinkalnmbpjaaGreatDoor
