/- Texts of the proof,one behind the other: Lz,Pg,Ph,Pj,Qf,Qg,Qh,Qi,Qj,Qk,Ql,Qm,Yc,Yd. -/
import Derived.Test.YthndhaolemgbdaaGreatDoorR5
set_option linter.all false
namespace Go.Proofs.YthndhaolemgbdaaGreatDoor
open Go.Ax
def Sa:Sig:=⟨21,[(0,.str),(1,.int .i64)],[(2,.fn 154 [])],[(0,.one (.sv .tok)),(1,.one (.sv .tok))],40,40,200,[],[]⟩
abbrev Hc:=Str×Int×Tok×Tok
def K7{R:Type}(rec:Hc→Option R) (kx:Ex→Hc→Option R) (v:Hc):Option R:=match v with
 |(v12,v13,w4,w5) =>
 cond (decide (v13<(v12.length:Int))) (
  chk (inb v13 v12.length) (
  cond ((Zv (bat v12 v13))) (
   rec (v12,(wr .i64 (v13+1)),w4,w5)) (
   kx (.exit 0) (v12,v13,w4,w5)))) (
  kx (.exit 0) (v12,v13,w4,w5))
def Tp:Sig:=⟨21,[(0,.str),(1,.int .i64)],[(2,.fn 111 [])],[(0,.one (.sv .tok)),(1,.one (.sv .tok))],40,40,200,[],[]⟩
abbrev Hj:=Str×Int×Tok×Tok
def L0{R:Type}(rec:Hj→Option R) (kx:Ex→Hj→Option R) (v:Hj):Option R:=match v with
 |(v6,v7,w2,w3) =>
 cond (decide (v7<(v6.length:Int))) (
  chk (inb v7 v6.length) (
  cond ((Afa (bat v6 v7))) (
   rec (v6,(wr .i64 (v7+1)),w2,w3)) (
   kx (.exit 0) (v6,v7,w2,w3)))) (
  kx (.exit 0) (v6,v7,w2,w3))
def Tu:Sig:=⟨21,[(0,.str),(1,.int .i64)],[(2,.fn 177 [])],[(0,.one (.sv .tok)),(1,.one (.sv .tok))],40,40,200,[],[]⟩
abbrev Hb:=Str×Int×Tok×Tok
def Lj{R:Type}(rec:Hb→Option R) (kx:Ex→Hb→Option R) (v:Hb):Option R:=match v with
 |(v,v1,w,w1) =>
 cond (decide (v1<(v.length:Int))) (
  chk (inb v1 v.length) (
  cond ((Afm (bat v v1))) (
   rec (v,(wr .i64 (v1+1)),w,w1)) (
   kx (.exit 0) (v,v1,w,w1)))) (
  kx (.exit 0) (v,v1,w,w1))
def Ht(R:Type) (k:Nat):Px R:=pxO [(177,cA Agm),(111,cA Af3),(154,cA Afv)] [] [(1,Zb k Tu (Lj) (Zb k Tp (L0) (Ay k Sa (K7))))] []
noncomputable def Am7 (R:Type) (k:Nat):Px R:=pxO [(175,cA Ayh),(156,cA Af5),(176,cA Aqu),(177,cA Agm),(178,cA A4e),(179,cA Ar5),(109,cA Agk),(63,cA Pq),(154,cA Afv),(180,cA Ais),(181,cA Aim),(95,cA Aho),(182,cA Arb),(110,Az 40 200 (Ht R k) Tryz.f110)] [] [] []
theorem Atv(R:Type) (k:Nat):∀(fr:List Fr) (rec:Hb→Option R) (kx:Ex→Hb→Option R) (v:Hb),Aae (Ht R k) Tu (lp Tryz.f110 0) fr rec kx v=Lj rec kx v
 |fr,rec,kx,(v,v1,w,w1)=>by kernel_rfl
theorem Ar8(R:Type) (k:Nat):∀(fr:List Fr) (rec:Hj→Option R) (kx:Ex→Hj→Option R) (v:Hj),Aae (Ht R k) Tp (lp Tryz.f110 0) fr rec kx v=L0 rec kx v
 |fr,rec,kx,(v6,v7,w2,w3)=>by kernel_rfl
theorem As2(R:Type) (k:Nat):∀(fr:List Fr) (rec:Hc→Option R) (kx:Ex→Hc→Option R) (v:Hc),Aae (Ht R k) Sa (lp Tryz.f110 0) fr rec kx v=K7 rec kx v
 |fr,rec,kx,(v12,v13,w4,w5)=>by kernel_rfl
def Tf(k:Nat) (x:HV [.str,.int .i64]):Option (HV [.sv .tok,.int .i64]):=match x with
 |(s,i) =>
 chk (inb i s.length) (
  chk (G3 i s.length s.length) (
  cond ((hpre (s.drop (i:Int).toNat) [120,39])) (
   chk (G3 (wr .i64 (i+2)) s.length s.length) (
   cond (decide ((Mh (s.drop ((wr .i64 (i+2)):Int).toNat) 39)<0)) (
    some ((Tok.mk 0 i [] 0),(-1))) (
    chk (G3 (wr .i64 (i+2)) (wr .i64 ((wr .i64 (i+2))+(Mh (s.drop ((wr .i64 (i+2)):Int).toNat) 39))) s.length) (
    (A2z (cut s (wr .i64 (i+2)) (wr .i64 ((wr .i64 (i+2))+(Mh (s.drop ((wr .i64 (i+2)):Int).toNat) 39))))).bind fun(x,x1) =>
     cond (!decide (x1=0)) (
     some ((Tok.mk 5 i x 0),(-1))) (
     cond (decide (1000<(x.length:Int))) (
      some ((Tok.mk 5 i x 0),(-1))) (
      some ((Tok.mk 5 i x 0),(wr .i64 ((wr .i64 (i+3))+(Mh (s.drop ((wr .i64 (i+2)):Int).toNat) 39)))))))))) (
   cond ((Afm (bat s i))) (
   Al (fun rec=>Lj rec (fun e vz=>match vz with|(_,v3,_,v5)=>match e with
    |.exit 0 =>
    chk (G3 i v3 s.length) (
     cond (!(Aof (cut s i v3))) (
     some ((Tok.mk 1 v5.pos (cut s i v3) v5.n),(-1))) (
     (V3 s v3).bind fun x2 =>
      cond (!x2) (
      some ((Tok.mk 1 v5.pos (cut s i v3) v5.n),(-1))) (
      some ((Tok.mk 1 v5.pos (cut s i v3) v5.n),v3))))
    |_=>none)) k (s,i,(Tok.mk 0 0 [] 0),(Tok.mk 0 i [] 0))) (
   cond ((Abe (bat s i))) (
    Al (fun rec=>L0 rec (fun e vz=>match vz with|(_,v9,_,v11)=>match e with
    |.exit 0 =>
     chk (G3 i v9 s.length) (
     cond (!(Bm (cut s i v9))) (
      some ((Tok.mk 2 v11.pos (cut s i v9) v11.n),(-1))) (
      (V3 s v9).bind fun x3 =>
      cond (!x3) (
       some ((Tok.mk 2 v11.pos (cut s i v9) v11.n),(-1))) (
       some ((Tok.mk 2 v11.pos (cut s i v9) v11.n),v9))))
    |_=>none)) k (s,i,(Tok.mk 0 0 [] 0),(Tok.mk 0 i [] 0))) (
    cond ((Zv (bat s i))) (
    Al (fun rec=>K7 rec (fun e vz=>match vz with|(_,v15,_,v17)=>match e with
     |.exit 0 =>
     chk (G3 i v15 s.length) (
      (Aqw (cut s i v15)).bind fun(x4,x5) =>
      chk (G3 i v15 s.length) (
       cond (!x5) (
       some ((Tok.mk 3 v17.pos (cut s i v15) x4),(-1))) (
       (V3 s v15).bind fun x6 =>
        cond (!x6) (
        some ((Tok.mk 3 v17.pos (cut s i v15) x4),(-1))) (
        some ((Tok.mk 3 v17.pos (cut s i v15) x4),v15)))))
     |_=>none)) k (s,i,(Tok.mk 0 0 [] 0),(Tok.mk 0 i [] 0))) (
    cond (decide ((bat s i)=39)) (
     (Aqr s (wr .i64 (i+1))).bind fun(x7,x8) =>
     cond (!decide ((P2 (Val.mk 4 0 x7))=0)) (
      some ((Tok.mk 4 i x7 0),(-1))) (
      some ((Tok.mk 4 i x7 0),x8))) (
     chk (G3 i s.length s.length) (
     (A9z (s.drop (i:Int).toNat)).bind fun x9 =>
      chk (G3 i (wr .i64 (i+x9)) s.length) (
      cond (decide (x9=0)) (
       some ((Tok.mk 6 i (cut s i (wr .i64 (i+x9))) 0),(-1))) (
       some ((Tok.mk 6 i (cut s i (wr .i64 (i+x9))) 0),(wr .i64 (i+x9)))))))))))))
theorem Ayp(k:Nat):FO 157 [.str,.int .i64] [.sv .tok,.int .i64] (Tf k):=fR (px:=Am7 _ k) (n:=0) Tryz.func157 rfl (fun cx H=>by
 have h1:Lv cx (Ht (HV [.sv .tok,.int .i64]) k):=lv H (c1 H Ahc (c1 H Aiz (c1 H Akd Af))) Ab Aa
 have hlltoken_0:De cx (Ht (HV [.sv .tok,.int .i64]) k) (lp Tryz.f110 0):=A1p (fun _ _=>by kernel_rfl) (Ace (Tc h1.p h1.c h1.q (by rw [H.p];exact follows) (k:=k) (s:=Tu) (step:=Lj) (by kernel_rfl) (Atv _ k) (Nq (n:=0) (by kernel_rfl) Ak)) (Ace (Tc h1.p h1.c h1.q (by rw [H.p];exact follows) (k:=k) (s:=Tp) (step:=L0) (by kernel_rfl) (Ar8 _ k) (Nq (n:=0) (by kernel_rfl) Ak)) (Tc h1.p h1.c h1.q (by rw [H.p];exact follows) (k:=k) (s:=Sa) (step:=K7) (by kernel_rfl) (As2 _ k) (Nq (n:=0) (by kernel_rfl) Ak))))
 have h0:Lv cx (Am7 (HV [.sv .tok,.int .i64]) k):=lv H (c1 H A1c (c1 H Aid (c1 H Bff (c1 H Ahc (c1 H Bd0 (c1 H Bct (c1 H Aj1 (c1 H R0 (c1 H Akd (c1 H A5q (c1 H A8c (c1 H Amk (c1 H Bbs (Aq (cR H h1 Tryz.func110 rfl (n:=1) ((B7 Ak hlltoken_0))) Af)))))))))))))) Ab Aa
 exact⟨h0,Ak⟩) fun(_,_)=>by kernel_rfl
def Ach(s:Str) (i:Int):Option (Tok×Int):=if s.length≤20000 then Tf 20001 (s,i) else none
def Ail:FT [.str,.int .i64] [.sv .tok,.int .i64]:=fun x=>Ach x.1 x.2
theorem A5e:FO 157 [.str,.int .i64] [.sv .tok,.int .i64] Ail :=.fin 0 Ayp fun(s,i) r hb hx=>⟨20001,by
 simp only [Ail,Ach] at hx
 split at hx
 ·exact hx
 ·cases hx⟩
theorem Wv{R:Type}{kx:Ex→Hb→Option R}{s:Str}(w w1:Tok) {a:Int→Option R}(hs:ln s.length) (h1:∀j,kx (.exit 0) (s,j,w,w1)=a j):∀(k i:Nat),i≤s.length→s.length-i<k→Al (fun rec=>Lj rec kx) k (s,(i:Int),w,w1)=a (Lp.runTo Lp.isUp s i)
 |0,i,_,h=>absurd h (Zm1 _)
 |k+1,i,hi,h=>by
  rw [Bh]
  by_cases hl:i<s.length
  ·have ih:=Wv w w1 hs h1 k (i+1) (by omega) (by omega)
   have eb:Sx.byt s (i:Int)=(s[i].toNat:Int):=Dn hl
   simp only [Lj,A3 hl hs,ih,h1,Dn hl,Be hl,Ain]
   rw [Ze1 (show(i:Int)<(s.length:Int) by omega)]
   cases hp:Lp.isUp (s[i].toNat:Int) with
   |true =>
    have:=Lp.runTo_yes (p:=Lp.isUp) (l:=s) (j:=i) (by omega) (by rw [eb];exact hp)
    rw [←this]
    rfl
   |false =>
    have:=Lp.runTo_no (p:=Lp.isUp) (l:=s) (j:=i) (by omega) (by rw [eb];exact hp)
    rw [this]
    rfl
  ·have:=Lp.runTo_end (p:=Lp.isUp) (l:=s) (j:=i) (by omega)
   simp only [Lj,h1]
   rw [Zd1 (by omega),this]
   rfl
theorem Wg{R:Type}{kx:Ex→Hj→Option R}{s:Str}(w w1:Tok) {a:Int→Option R}(hs:ln s.length) (h1:∀j,kx (.exit 0) (s,j,w,w1)=a j):∀(k i:Nat),i≤s.length→s.length-i<k→Al (fun rec=>L0 rec kx) k (s,(i:Int),w,w1)=a (Lp.runTo Lp.isIn s i)
 |0,i,_,h=>absurd h (Zm1 _)
 |k+1,i,hi,h=>by
  rw [Bh]
  by_cases hl:i<s.length
  ·have ih:=Wg w w1 hs h1 k (i+1) (by omega) (by omega)
   have eb:Sx.byt s (i:Int)=(s[i].toNat:Int):=Dn hl
   simp only [L0,A3 hl hs,ih,h1,Dn hl,Be hl,Aka]
   rw [Ze1 (show(i:Int)<(s.length:Int) by omega)]
   cases hp:Lp.isIn (s[i].toNat:Int) with
   |true =>
    have:=Lp.runTo_yes (p:=Lp.isIn) (l:=s) (j:=i) (by omega) (by rw [eb];exact hp)
    rw [←this]
    rfl
   |false =>
    have:=Lp.runTo_no (p:=Lp.isIn) (l:=s) (j:=i) (by omega) (by rw [eb];exact hp)
    rw [this]
    rfl
  ·have:=Lp.runTo_end (p:=Lp.isIn) (l:=s) (j:=i) (by omega)
   simp only [L0,h1]
   rw [Zd1 (by omega),this]
   rfl
theorem V9{R:Type}{kx:Ex→Hc→Option R}{s:Str}(w w1:Tok) {a:Int→Option R}(hs:ln s.length) (h1:∀j,kx (.exit 0) (s,j,w,w1)=a j):∀(k i:Nat),i≤s.length→s.length-i<k→Al (fun rec=>K7 rec kx) k (s,(i:Int),w,w1)=a (Lp.runTo Lp.isDi s i)
 |0,i,_,h=>absurd h (Zm1 _)
 |k+1,i,hi,h=>by
  rw [Bh]
  by_cases hl:i<s.length
  ·have ih:=V9 w w1 hs h1 k (i+1) (by omega) (by omega)
   have eb:Sx.byt s (i:Int)=(s[i].toNat:Int):=Dn hl
   simp only [K7,A3 hl hs,ih,h1,Dn hl,Be hl,Ahk]
   rw [Ze1 (show(i:Int)<(s.length:Int) by omega)]
   cases hp:Lp.isDi (s[i].toNat:Int) with
   |true =>
    have:=Lp.runTo_yes (p:=Lp.isDi) (l:=s) (j:=i) (by omega) (by rw [eb];exact hp)
    rw [←this]
    rfl
   |false =>
    have:=Lp.runTo_no (p:=Lp.isDi) (l:=s) (j:=i) (by omega) (by rw [eb];exact hp)
    rw [this]
    rfl
  ·have:=Lp.runTo_end (p:=Lp.isDi) (l:=s) (j:=i) (by omega)
   simp only [K7,h1]
   rw [Zd1 (by omega),this]
   rfl
theorem Ww{i j:Int}{n:Nat}(h : 0≤i∧i≤j∧j≤n):G3 i j n=true:=by simp [G3,h]
theorem Ayo{n:Int}(h : 0≤n∧n≤1000000):wr .i64 n=n:=Bav (by simp only [inI];omega)
theorem A6a{x:Str}(h:x≠[]):Aqw x=some (Bcu x):=by
 cases x with
 |nil=>exact absurd rfl h
 |cons b l=>rfl
theorem Bbl{x:Str}(h:x≠[]):A9z x=some (Lp.signF x):=by
 cases x with
 |nil=>exact absurd rfl h
 |cons b l=>rfl
theorem Akf{s:Str}{i:Int}(h : 0≤i∧i≤s.length):V3 s i=some (Lp.aloneF s i):=if_pos h
theorem Ays(x:Str):Jm x=Lp.visF x:=by
 have e:∀b:UInt8,vis b=Lp.vis (b.toNat:Int):=fun b=>by
  simp only [vis,Lp.vis]
  rw [show decide (32≤b.toNat)=decide (32≤(b.toNat:Int)) from Zy1.2 (by omega),show decide (b.toNat≤126)=decide ((b.toNat:Int)≤126) from Zy1.2 (by omega)]
 simp only [Jm,Lp.visF]
 congr 1
 funext b
 exact e b
theorem Aui(x:Str):B4 (Val.mk 4 0 x)=Lp.rightF 4 0 x:=by
 show cond (decide ((x.length:Int)≤1000)) (Jm x) false=(decide ((x.length:Int)≤1000)&&Lp.visF x)
 rw [Ays]
 cases decide ((x.length:Int)≤1000)<;>rfl
theorem Avv(x:Str):decide (P2 (Val.mk 4 0 x)=0)=Lp.rightF 4 0 x:=by
 have key:∀b:Bool,decide (cond (!b) (2:Int) 0=0)=b:=by decide
 rw [←Aui]
 exact key _
theorem Az8{s:Str}{i:Int}(hl : 0≤i∧i<s.length) (hs:s.length≤20000):match Lp.tokF s i with
  |some (k,x,n,e)=>Ach s i=some (⟨k,i,x,n⟩,e)
  |none=>∃t,Ach s i=some (t, -1):=by
 have hln:ln s.length:=by simp only [ln];omega
 have hd:(s.drop i.toNat).length=s.length-i.toNat:=Za2
 have hd2:(s.drop (i+2).toNat).length=s.length-(i+2).toNat:=Za2
 have hne:s.drop i.toNat≠[]:=List.ne_nil_of_length_pos (by omega)
 obtain⟨m,rfl⟩:=Int.eq_ofNat_of_zero_le hl.1
 have hm:m<s.length:=by omega
 have ep:∀p q,hpre p q=Lp.pre p q:=fun _ _=>rfl
 have eb:bat s (m:Int)=Sx.byt s (m:Int):=rfl
 have e39:Mh (s.drop ((m:Int)+2).toNat) 39=Lib.indexByte (s.drop ((m:Int)+2).toNat) 39:=rfl
 simp only [Ach,if_pos hs,Tf,Be hm,Ww (show 0≤(m:Int)∧(m:Int)≤(s.length:Int)∧(s.length:Int)≤s.length by omega),ep,eb,Ain,Ai6,Ahk,chk,Ae,Lp.tokF,Ayo (show 0≤(m:Int)+2∧(m:Int)+2≤1000000 by omega),Ayo (show 0≤(m:Int)+3∧(m:Int)+3≤1000000 by omega),Ayo (show 0≤(m:Int)+1∧(m:Int)+1≤1000000 by omega)]
 cases hx:Lp.pre (s.drop (m:Int).toNat) [120,39] with
 |true =>
  have h2 : 2≤(s.drop (m:Int).toNat).length:=by
   simp only [Lp.pre,Zb1,Zg1,Zf1,Zi1] at hx
   omega
  have hib:=Lp.indexByte_in (s.drop ((m:Int)+2).toNat) 39
  simp only [if_true,Ae]
  rw [Ww (show 0≤(m:Int)+2∧(m:Int)+2≤(s.length:Int)∧(s.length:Int)≤s.length by omega),e39,Ae]
  generalize Lib.indexByte (s.drop ((m:Int)+2).toNat) 39=z at hib ⊢
  by_cases hz:z<0
  ·rw [if_pos hz,Ze1 hz]
   exact⟨_,rfl⟩
  ·rw [if_neg hz,Zd1 hz,Ayo (show 0≤(m:Int)+2+z∧(m:Int)+2+z≤1000000 by omega),Ayo (show 0≤(m:Int)+3+z∧(m:Int)+3+z≤1000000 by omega),Ww (show 0≤(m:Int)+2∧(m:Int)+2≤(m:Int)+2+z∧(m:Int)+2+z≤s.length by omega),Ah,Ae]
   have hcl:=Lp.cut_length s ((m:Int)+2) ((m:Int)+2+z) (by omega)
   have ec:cut s ((m:Int)+2) ((m:Int)+2+z)=Sx.cut s ((m:Int)+2) ((m:Int)+2+z):=rfl
   rw [ec]
   generalize Sx.cut s ((m:Int)+2) ((m:Int)+2+z)=y at hcl ⊢
   have eu:A2z y=some (unP y):=if_pos (by omega)
   rw [eu,unP]
   cases (if y.length % 2=0 then Lp.unGo y [] else none) with
   |none=>exact⟨_,rfl⟩
   |some b =>
    by_cases hb : 1000<(b.length:Int)
    ·simp only [Zc1]
     rw [if_pos hb,Ze1 hb]
     exact⟨_,rfl⟩
    ·simp only [Zc1]
     rw [if_neg hb,Zd1 hb]
     rfl
 |false =>
  simp only [Ah,Zj2,if_false]
  cases hu:Lp.isUp (Sx.byt s (m:Int)) with
  |true =>
   have hr:=Lp.runTo_range Lp.isUp s m (by omega)
   simp only [Ae,if_true]
   rw [Wv (s:=s) (w:=Tok.mk 0 0 [] 0) (w1:=Tok.mk 0 m [] 0) (a:=fun v3=>cond (G3 (m:Int) v3 s.length) (cond (!(Aof (cut s m v3))) (some ((Tok.mk 1 m (cut s m v3) 0),(-1))) ((V3 s v3).bind fun x2=>cond (!x2) (some ((Tok.mk 1 m (cut s m v3) 0),(-1))) (some ((Tok.mk 1 m (cut s m v3) 0),v3)))) none) hln (fun _=>rfl) 20001 m (by omega) (by omega)]
   rw [Ww (by omega),Akf (by omega),A9x]
   have ec:cut s (m:Int) (Lp.runTo Lp.isUp s m)=Sx.cut s (m:Int) (Lp.runTo Lp.isUp s m):=rfl
   rw [ec]
   cases Lp.wordF (Sx.cut s (m:Int) (Lp.runTo Lp.isUp s m)) with
   |false=>exact⟨_,rfl⟩
   |true =>
    cases Lp.aloneF s (Lp.runTo Lp.isUp s m) with
    |false=>exact⟨_,rfl⟩
    |true=>rfl
  |false =>
   simp only [Ah,Zj2,if_false]
   cases hu2:Lp.isLo (Sx.byt s (m:Int)) with
   |true =>
    have hr:=Lp.runTo_range Lp.isIn s m (by omega)
    simp only [Ae,if_true]
    rw [Wg (s:=s) (w:=Tok.mk 0 0 [] 0) (w1:=Tok.mk 0 m [] 0) (a:=fun v3=>cond (G3 (m:Int) v3 s.length) (cond (!(Bm (cut s m v3))) (some ((Tok.mk 2 m (cut s m v3) 0),(-1))) ((V3 s v3).bind fun x2=>cond (!x2) (some ((Tok.mk 2 m (cut s m v3) 0),(-1))) (some ((Tok.mk 2 m (cut s m v3) 0),v3)))) none) hln (fun _=>rfl) 20001 m (by omega) (by omega)]
    rw [Ww (by omega),Akf (by omega)]
    have ec:cut s (m:Int) (Lp.runTo Lp.isIn s m)=Sx.cut s (m:Int) (Lp.runTo Lp.isIn s m):=rfl
    rw [ec]
    simp only [Bm]
    cases Lp.nameF (Sx.cut s (m:Int) (Lp.runTo Lp.isIn s m)) with
    |false=>exact⟨_,rfl⟩
    |true =>
     cases Lp.aloneF s (Lp.runTo Lp.isIn s m) with
     |false=>exact⟨_,rfl⟩
     |true=>rfl
   |false =>
    simp only [Ah,Zj2,if_false]
    cases hu3:Lp.isDi (Sx.byt s (m:Int)) with
    |true =>
     have hr:=Lp.runTo_range Lp.isDi s m (by omega)
     have hg:=Lp.runTo_gt (p:=Lp.isDi) (by omega) hu3
     have hcl:=Lp.cut_length s (m:Int) (Lp.runTo Lp.isDi s m) (by omega)
     simp only [Ae,if_true]
     rw [V9 (s:=s) (w:=Tok.mk 0 0 [] 0) (w1:=Tok.mk 0 m [] 0) (a:=fun v3=>cond (G3 (m:Int) v3 s.length) ((Aqw (cut s m v3)).bind fun(x4,x5)=>cond (G3 (m:Int) v3 s.length) (cond (!x5) (some ((Tok.mk 3 m (cut s m v3) x4),(-1))) ((V3 s v3).bind fun x6=>cond (!x6) (some ((Tok.mk 3 m (cut s m v3) x4),(-1))) (some ((Tok.mk 3 m (cut s m v3) x4),v3)))) none) none) hln (fun _=>rfl) 20001 m (by omega) (by omega)]
     have ec:cut s (m:Int) (Lp.runTo Lp.isDi s m)=Sx.cut s (m:Int) (Lp.runTo Lp.isDi s m):=rfl
     rw [Ww (by omega),Akf (by omega),ec]
     generalize Sx.cut s (m:Int) (Lp.runTo Lp.isDi s m)=y at hcl ⊢
     rw [A6a (List.ne_nil_of_length_pos (by omega)),Bcu]
     cases Lp.numGo y 0 with
     |none=>exact⟨_,rfl⟩
     |some n =>
      simp only [Zc1,Ae]
      have e0:(decide (y=[48]) || !decide (bat y 0=48))=(decide (y=[48])||Sx.byt y 0 != 48):=rfl
      rw [e0]
      cases (decide (y=[48])||Sx.byt y 0 != 48) with
      |false=>exact⟨_,rfl⟩
      |true =>
       cases Lp.aloneF s (Lp.runTo Lp.isDi s m) with
       |false=>exact⟨_,rfl⟩
       |true=>rfl
    |false =>
     simp only [Ah,Zj2,if_false]
     by_cases h39:Sx.byt s (m:Int)=39
     ·have hqi:=Lp.qGo_in _ (s.drop ((m:Int)+1).toNat) [] ((m:Int)+1) (Zn1 _) (by omega)
      have eq:Aqr s ((m:Int)+1)=some (Lp.qGo (s.drop ((m:Int)+1).toNat) [] ((m:Int)+1)):=if_pos (by omega)
      rw [Ze1 h39,if_pos h39,eq]
      simp only [Ae,Zc1,Avv]
      generalize Lp.qGo (s.drop ((m:Int)+1).toNat) [] ((m:Int)+1)=q at hqi ⊢
      obtain⟨y,z⟩:=q
      cases Lp.rightF 4 0 y with
      |false=>exact⟨_,rfl⟩
      |true =>
       simp only [if_true,Zt1,Ah]
       by_cases hz:z<0
       ·rw [if_pos hz]
        obtain rfl:z = -1:=by simp only at hqi;omega
        exact⟨_,rfl⟩
       ·rw [if_neg hz]
     ·have hsi:=Lp.signF_in (s.drop (m:Int).toNat) (by omega)
      rw [Zd1 h39,if_neg h39,Bbl hne]
      simp only [Ah,Zc1]
      generalize Lp.signF (s.drop (m:Int).toNat)=z at hsi ⊢
      rw [Ayo (show 0≤(m:Int)+z∧(m:Int)+z≤1000000 by omega),Ww (by omega)]
      by_cases hz:z=0
      ·rw [Ze1 hz,if_pos hz]
       exact⟨_,rfl⟩
      ·rw [Zd1 hz,if_neg hz]
       rfl
def Aoi:Sig:=⟨38,[(0,.str),(2,.sl .tok true),(3,.int .i64),(4,.int .i64),(5,.sl .tok true),(6,.int .i64)],[],[],0,0,0,[],[]⟩
abbrev Yq:=Str×List Tok×Int×Int×List Tok×Int
def Abl{R:Type}(rec:Yq→Option R) (kx:Ex→Yq→Option R) (v:Yq):Option R:=match v with
 |(v,v1,v2,v3,v4,v5) =>
 cond (decide (v5<(v.length:Int))) (
  chk (inb v5 v.length) (
  cond (decide (0≤(Mh [32,9,10,13] (bat v v5)))) (
   rec (v,v1,v2,v3,v4,(wr .i64 (v5+1)))) (
   (Ach v v5).bind fun(x,x1) =>
   cond (decide (x1<0)) (
    kx .ret (v,[],v5,11,v4,v5)) (
    chk (decide (v4.length+1≤Am)) (
    rec (v,v1,v2,v3,(v4++[x]),x1)))))) (
  kx (.exit 0) (v,v1,v2,v3,v4,v5))
def A01(R:Type) (k:Nat):Px R:=pxO [(156,cA Af5),(157,cA Ail)] [] [(5,Ay k Aoi (Abl))] []
def Ao1(k:Nat) (x:HV [.str]):Option (HV [.sl .tok true,.int .i64,.int .i64]):=match x with
 |s =>
 cond (decide (20000<(s.length:Int))) (
  some ([],0,3)) (
  Al (fun rec=>Abl rec (fun e vz=>match vz with|(_,v7,v8,v9,v10,_)=>match e with
  |.ret =>
   some (v7,v8,v9)
  |.exit 0 =>
   some (v10,0,0)
  |_=>none)) k (s,[],0,0,[],0))
theorem Bb5(k:Nat):FO 116 [.str] [.sl .tok true,.int .i64,.int .i64] (Ao1 k):=fR (px:=A01 _ k) (n:=1) Tryz.func116 rfl (fun cx H=>by
 have h0:Lv cx (A01 (HV [.sl .tok true,.int .i64,.int .i64]) k):=lv H (c1 H Aid (c1 H A5e Af)) Ab Aa
 have hllall_0:=lO H h0 (b:=lp Tryz.f116 0) (k:=k) (n:=0) (s:=Aoi) (step:=Abl) (fun _ _ _ (_,_,_,_,_,_)=>by kernel_rfl) Ak
 exact⟨h0,(B7 Ak hllall_0)⟩) fun _=>by kernel_rfl
def Bbz(s:Str):List Tok×Int×Int:=if 20000<(s.length:Int) then([],0,3) else match Lp.allF s with
 |.error i=>([],i,11)
 |.ok ts=>(ts,0,0)
abbrev Jt (s:Str):List Tok×Int×Int:=Bbz s
def Aqn:FT [.str] [.sl .tok true,.int .i64,.int .i64]:=fun x=>some (Jt x)
theorem Bcc(c:Int):decide (0≤Mh [32,9,10,13] c)=Lp.blankF c:=rfl
theorem Aci{R:Type}{kx:Ex→Yq→Option R}{s:Str}{c:Except Int (List Tok)→Option R}(hs:s.length≤20000) (h1:∀a i j,kx .ret (s,[],i,11,a,j)=c (.error i)) (h2:∀q r t a j,kx (.exit 0) (s,q,r,t,a,j)=c (.ok a)):∀(k:Nat) (i:Int) (f:Nat) (q:List Tok) (r t:Int) (a:List Tok),(a.length:Int)≤i→0≤i→i≤s.length→(s.length:Int)-i<k→(s.length:Int)-i<f→Al (fun rec=>Abl rec kx) k (s,q,r,t,a,i)=c (Lp.allGo f s i a)
 |0,i,f,q,r,t,a,_,_,_,h,_=>by omega
 |k+1,i,0,q,r,t,a,_,_,_,_,h=>by omega
 |k+1,i,f+1,q,r,t,a,ha,h0,hi,h,hf=>by
  rw [Bh]
  by_cases hl:i<s.length
  ·have ea:decide (a.length+1≤Am)=true:=Ze1 (by simp only [Am];omega)
   have eb:bat s i=Sx.byt s i:=rfl
   simp only [Abl,Au1 (show 0≤i∧i<(s.length:Int) from⟨h0,hl⟩),Bcc,ea,eb,Lp.allGo]
   rw [Ze1 hl,if_neg (show ¬(s.length:Int)≤i by omega)]
   simp only [Ae,chk]
   cases hbl:Lp.blankF (Sx.byt s i) with
   |true =>
    rw [Ayo (by omega)]
    simp only [Ae,if_true]
    exact Aci hs h1 h2 k (i+1) f q r t a (by omega) (by omega) (by omega) (by omega) (by omega)
   |false =>
    have ht:=Az8 (s:=s) (i:=i) ⟨h0,hl⟩ hs
    simp only [Ah,Zj2,if_false]
    cases hk:Lp.tokF s i with
    |none =>
     rw [hk] at ht
     obtain⟨u,hu⟩:=ht
     rw [hu]
     exact h1 _ _ _
    |some y =>
     obtain⟨y1,y2,y3,e⟩:=y
     rw [hk] at ht
     have hte:=Lp.tok_end ⟨h0,hl⟩ hk
     simp only at ht
     rw [ht]
     simp only [Zc1]
     rw [Zd1 (show ¬e<0 by omega),Ah]
     exact Aci hs h1 h2 k e f q r t (a++[⟨y1,i,y2,y3⟩]) (by simp only [Zh1,Zf1,Zi1];omega) (by omega) (by omega) (by omega) (by omega)
  ·simp only [Abl,h2,Lp.allGo]
   rw [Zd1 hl,if_pos (show(s.length:Int)≤i by omega)]
   rfl
theorem A1v:FO 116 [.str] [.sl .tok true,.int .i64,.int .i64] Aqn :=.fin 0 Bb5 fun s r hb hx=>⟨20001,by
 simp only [Aqn,Za1] at hx
 rw [←hx]
 simp only [Ao1,Jt,Bbz]
 by_cases hbig : 20000<(s.length:Int)
 ·rw [Ze1 hbig,if_pos hbig]
  rfl
 ·rw [Zd1 hbig,if_neg hbig,Ah]
  refine(Aci (s:=s) (c:=fun o=>match o with|.error i=>some ([],i,(11:Int))|.ok ts=>some (ts,(0:Int),(0:Int))) (by omega) (fun _ _ _ =>?_) (fun _ _ _ _ _ =>?_) 20001 0 (s.length+1) [] 0 0 [] (by simp) (by omega) (by omega) (by omega) (by omega)).trans ?_
  ·rfl
  ·rfl
  ·show _=some (match Lp.allGo (s.length+1) s 0 [] with|.error i=>([],i,(11:Int))|.ok ts=>(ts,(0:Int),(0:Int)))
   cases Lp.allGo (s.length+1) s 0 []<;>rfl⟩
end Go.Proofs.YthndhaolemgbdaaGreatDoor
namespace Go.Proofs.YthndhaolemgbdaaGreatDoor
open Go.Ax
def Jz:Sig:=⟨1,[],[(0,.ptr 0 0)],[(0,.cells [.sl .tok false,.int .i64,.bool,.int .i64])],1,1,0,[],[]⟩
def Jw:Sig:=⟨1,[(0,.sv .tok)],[],[(0,.cells [.sl .tok false,.int .i64,.bool,.int .i64])],1,1,0,[],[]⟩
abbrev A2k:=List Tok×Int×Bool×Int
abbrev A2c:=Tok×List Tok×Int×Bool×Int
def Ber(R:Type):Px R:=pxO [] [] [] []
def Xy(x:A2k):Option (A2c):=match x with
 |(l,n,b,p) =>
 cond (decide ((l.length:Int)=0)) (
  some ((Tok.mk 0 n [] 0),l,n,b,p)) (
  chk (inb 0 l.length) (
  some ((at' .tok l 0),l,n,b,p)))
theorem A8e:FM 158 Jz Jw (Xy):=fRL (px:=Ber _) (n:=0) Tryz.func158 rfl (fun _ H=>⟨lv H Af Ab Aa,Ak⟩) fun(_,_,_,_)=>by kernel_rfl
def Ee:A2k→Option A2c:=fun x=>Xy x
theorem Nm:FM 158 Jz Jw (Ee):=A8e
def Lh:Sig:=⟨1,[],[(0,.ptr 0 0)],[(0,.cells [.sl .tok false,.int .i64,.bool,.int .i64])],1,1,0,[],[]⟩
def Lb:Sig:=⟨1,[(0,.sv .tok)],[],[(0,.cells [.sl .tok false,.int .i64,.bool,.int .i64])],1,1,0,[],[]⟩
abbrev A2d:=List Tok×Int×Bool×Int
abbrev A2t:=Tok×List Tok×Int×Bool×Int
def Bbi(R:Type):Px R:=pxO [(158,Aj Jz Jw Ee)] [] [] []
def W6(x:A2d):Option (A2t):=match x with
 |(l,n,b,p) =>
 (Ee (l,n,b,p)).bind fun(x,x1,x2,x3,x4) =>
  cond (decide (0<(x1.length:Int))) (
  chk (G3 1 x1.length x1.length) (
   some (x,(x1.drop (1:Int).toNat),x2,x3,x4))) (
  some (x,x1,x2,x3,x4))
theorem A6j:FM 159 Lh Lb (W6):=fRL (px:=Bbi _) (n:=0) Tryz.func159 rfl (fun _ H=>⟨lv H (l1 H Nm Af) Ab Aa,Ak⟩) fun(_,_,_,_)=>by kernel_rfl
def Cf:A2d→Option A2t:=fun x=>W6 x
theorem Sf:FM 159 Lh Lb (Cf):=A6j
def D8:Sig:=⟨2,[(1,.str)],[(0,.ptr 0 0)],[(0,.cells [.sl .tok false,.int .i64,.bool,.int .i64])],1,1,0,[],[]⟩
def D6:Sig:=⟨1,[(0,.bool)],[],[(0,.cells [.sl .tok false,.int .i64,.bool,.int .i64])],1,1,0,[],[]⟩
abbrev Bjk:=Str×List Tok×Int×Bool×Int
abbrev Bjt:=Bool×List Tok×Int×Bool×Int
def Bl0(R:Type):Px R:=pxO [(158,Aj Jz Jw Ee),(159,Aj Lh Lb Cf)] [] [] []
def Zn(x:Bjk):Option (Bjt):=match x with
 |(s,l,n,b,p) =>
 (Ee (l,n,b,p)).bind fun(x,x1,x2,x3,x4) =>
  cond (!decide (x.kind=1)) (
  cond (!decide (x.kind=6)) (
   some (false,x1,x2,x3,x4)) (
   cond (!decide (x.s=s)) (
   some (false,x1,x2,x3,x4)) (
   (Cf (x1,x2,x3,x4)).bind fun(_,x11,x12,x13,x14) =>
    some (true,x11,x12,x13,x14)))) (
  cond (!decide (x.s=s)) (
   some (false,x1,x2,x3,x4)) (
   (Cf (x1,x2,x3,x4)).bind fun(_,x16,x17,x18,x19) =>
   some (true,x16,x17,x18,x19)))
theorem Bfz:FM 117 D8 D6 (Zn):=fRL (px:=Bl0 _) (n:=0) Tryz.func117 rfl (fun _ H=>⟨lv H (l1 H Nm (l1 H Sf Af)) Ab Aa,Ak⟩) fun(_,_,_,_,_)=>by kernel_rfl
def Ao:Bjk→Option Bjt:=fun x=>Zn x
theorem E6:FM 117 D8 D6 (Ao):=Bfz
def H1:Sig:=⟨1,[],[(0,.ptr 0 0)],[(0,.cells [.sl .tok false,.int .i64,.bool,.int .i64])],1,1,0,[],[]⟩
def H2:Sig:=⟨0,[],[],[(0,.cells [.sl .tok false,.int .i64,.bool,.int .i64])],1,1,0,[],[]⟩
abbrev Av5:=List Tok×Int×Bool×Int
abbrev Avj:=List Tok×Int×Bool×Int
def A7o(R:Type):Px R:=pxO [(158,Aj Jz Jw Ee)] [] [] []
def Tv(x:Av5):Option (Avj):=match x with
 |(l,n,b,p) =>
 cond (!b) (
  (Ee (l,n,b,p)).bind fun(x,x1,x2,_,_) =>
  some (x1,x2,true,x.pos)) (
  some (l,n,b,p))
theorem Az4:FM 127 H1 H2 (Tv):=fRL (px:=A7o _) (n:=0) Tryz.func127 rfl (fun _ H=>⟨lv H (l1 H Nm Af) Ab Aa,Ak⟩) fun(_,_,_,_)=>by kernel_rfl
def Cj:Av5→Option Avj:=fun x=>Tv x
theorem Kn:FM 127 H1 H2 (Cj):=Az4
def Ej:Sig:=⟨2,[(1,.sl .str false)],[(0,.ptr 0 0)],[(0,.cells [.sl .tok false,.int .i64,.bool,.int .i64])],1,1,0,[],[]⟩
def Ea:Sig:=⟨0,[],[],[(0,.cells [.sl .tok false,.int .i64,.bool,.int .i64])],1,1,0,[],[]⟩
abbrev A2l:=List Str×List Tok×Int×Bool×Int
abbrev Arc:=List Tok×Int×Bool×Int
def Ah2:Sig:=⟨27,[(6,.sl .str false),(7,.int .i64),(8,.int .i64)],[(0,.ptr 0 0)],[(0,.cells [.sl .tok false,.int .i64,.bool,.int .i64])],1,1,0,[],[]⟩
abbrev Vd:=List Str×Int×Int×List Tok×Int×Bool×Int
def Ps{R:Type}(rec:Vd→Option R) (kx:Ex→Vd→Option R) (v:Vd):Option R:=match v with
 |(v,v1,v2,w,w1,w2,w3) =>
 cond (decide (v2<v1)) (
  chk (inb v2 v.length) (
  let j:=fun(p2:Bool) (q4:List Tok) (q5:Int) (q6:Bool) (q7:Int) =>
   cond (p2) (
   (Cj (q4,q5,q6,q7)).bind fun(x5,x6,x7,x8) =>
    kx .ret (v,v1,v2,x5,x6,x7,x8)) (
   rec (v,v1,(wr .i64 (v2+1)),q4,q5,q6,q7))
  cond (w2) (
   j true w w1 w2 w3) (
   (Ao ((at' .str v v2),w,w1,w2,w3)).bind fun(x,x1,x2,x3,x4) =>
   j (!x) x1 x2 x3 x4))) (
  kx (.exit 0) (v,v1,v2,w,w1,w2,w3))
def Awc(R:Type) (k:Nat):Px R:=pxO [(117,Aj D8 D6 Ao),(127,Aj H1 H2 Cj)] [] [(1,Ay k Ah2 (Ps))] []
def L1(k:Nat) (x:A2l):Option (Arc):=match x with
 |(ss,l,n,b,p) =>
 Al (fun rec=>Ps rec (fun e vz=>match vz with|(_,_,_,v6,v7,v8,v9)=>match e with
  |.ret =>
  some (v6,v7,v8,v9)
  |.exit 0 =>
  some (v6,v7,v8,v9)
  |_=>none)) k (ss,(ss.length:Int),0,l,n,b,p)
theorem A8m(k:Nat):FM 119 Ej Ea (L1 k):=fRL (px:=Awc _ k) (n:=1) Tryz.func119 rfl (fun cx H=>by
 have h0:Lv cx (Awc (Arc) k):=lv H (l1 H E6 (l1 H Kn Af)) Ab Aa
 have hlpmust_0:=lO H h0 (b:=lp Tryz.f119 0) (k:=k) (n:=0) (s:=Ah2) (step:=Ps) (fun _ _ _ (_,_,_,_,_,_,_)=>by kernel_rfl) Ak
 exact⟨h0,(B7 Ak hlpmust_0)⟩) fun(_,_,_,_,_)=>by kernel_rfl
def Ai:A2l→Option Arc:=fun x=>L1 ((x.1.length+1)) x
theorem Fx:FM 119 Ej Ea (Ai):=FnLn.fin (ι:=Nat) (sg:=Ej) (so:=Ea) 0 (F:=fun k=>L1 k) (fun k=>A8m k) fun x _ _ hx=>⟨(x.1.length+1),hx⟩
def F4:Sig:=⟨1,[],[(0,.ptr 0 0)],[(0,.cells [.sl .tok false,.int .i64,.bool,.int .i64])],1,1,0,[],[]⟩
def F1:Sig:=⟨1,[(0,.str)],[],[(0,.cells [.sl .tok false,.int .i64,.bool,.int .i64])],1,1,0,[],[]⟩
abbrev A1x:=List Tok×Int×Bool×Int
abbrev A2w:=Str×List Tok×Int×Bool×Int
def A80(R:Type):Px R:=pxO [(158,Aj Jz Jw Ee),(127,Aj H1 H2 Cj),(159,Aj Lh Lb Cf)] [] [] []
def Lq(x:A1x):Option (A2w):=match x with
 |(l,n,b,p) =>
 (Ee (l,n,b,p)).bind fun(x,x1,x2,x3,x4) =>
  let j:=fun(p2:Bool) =>
  cond (p2) (
   (Cj (x1,x2,x3,x4)).bind fun(x5,x6,x7,x8) =>
   some ([],x5,x6,x7,x8)) (
   (Cf (x1,x2,x3,x4)).bind fun(x9,x10,x11,x12,x13) =>
   some (x9.s,x10,x11,x12,x13))
  cond (x3) (
  j true) (
  j (!decide (x.kind=2)))
theorem A4o:FM 120 F4 F1 (Lq):=fRL (px:=A80 _) (n:=0) Tryz.func120 rfl (fun _ H=>⟨lv H (l1 H Nm (l1 H Kn (l1 H Sf Af))) Ab Aa,Ak⟩) fun(_,_,_,_)=>by kernel_rfl
def As:A1x→Option A2w:=fun x=>Lq x
theorem Ir:FM 120 F4 F1 (As):=A4o
def Cu:Sig:=⟨1,[],[(0,.ptr 0 0)],[(0,.cells [.sl .tok false,.int .i64,.bool,.int .i64])],1,1,0,[],[]⟩
def Cw:Sig:=⟨1,[(0,.sv .expr)],[],[(0,.cells [.sl .tok false,.int .i64,.bool,.int .i64])],1,1,0,[],[]⟩
abbrev Aw:=List Tok×Int×Bool×Int
abbrev Au:=Xpr×List Tok×Int×Bool×Int
def Acy:Sig:=⟨1,[],[(0,.ptr 0 0)],[(0,.cells [.sl .tok false,.int .i64,.bool,.int .i64])],1,1,0,[],[]⟩
def Acm:Sig:=⟨1,[(0,.sv .expr)],[],[(0,.cells [.sl .tok false,.int .i64,.bool,.int .i64])],1,1,0,[],[]⟩
abbrev Avd:=List Tok×Int×Bool×Int
abbrev Abb:=Xpr×List Tok×Int×Bool×Int
def Ael(R:Type) (_rf:Aw→Option Au):Px R:=pxO [(159,Aj Lh Lb Cf)] [] [] []
noncomputable def Aml (R:Type) (rf:Aw→Option Au):Px R:=pxO [(158,Aj Jz Jw Ee),(159,Aj Lh Lb Cf),(119,Aj Ej Ea Ai),(90,Aj Cu Cw rf),(209,Az 80 400 (Ael R rf) Tryz.f209)] [] [] []
def Mz(rf:Aw→Option Au) (x:Avd):Option (Abb):=match x with
 |(l,n,b,p) =>
 (Ee (l,n,b,p)).bind fun(x,x1,x2,x3,x4) =>
  cond (x3) (
  some ((Xpr.mk 0 ⟨0,0,[]⟩ [] []),x1,x2,x3,x4)) (
  cond (decide (x.kind=2)) (
   (Cf (x1,x2,x3,x4)).bind fun(_,x6,x7,x8,x9) =>
   some ((Xpr.mk 2 ⟨0,0,[]⟩ x.s []),x6,x7,x8,x9)) (
   cond (decide (x.kind=3)) (
   (Cf (x1,x2,x3,x4)).bind fun(_,x11,x12,x13,x14) =>
    some ((Xpr.mk 1 ⟨3,x.n,[]⟩ [] []),x11,x12,x13,x14)) (
   cond (decide (x.kind=4)) (
    (Cf (x1,x2,x3,x4)).bind fun(_,x16,x17,x18,x19) =>
    some ((Xpr.mk 1 ⟨4,0,x.s⟩ [] []),x16,x17,x18,x19)) (
    cond (decide (x.kind=5)) (
    (Cf (x1,x2,x3,x4)).bind fun(_,x21,x22,x23,x24) =>
     some ((Xpr.mk 1 ⟨5,0,x.s⟩ [] []),x21,x22,x23,x24)) (
    let j2:=fun(p2:Bool) =>
     cond (p2) (
     (Cf (x1,x2,x3,x4)).bind fun(_,x26,x27,x28,x29) =>
      some ((Xpr.mk 1 ⟨2,1,[]⟩ [] []),x26,x27,x28,x29)) (
     let j1:=fun(p4:Bool) =>
      cond (p4) (
      (Cf (x1,x2,x3,x4)).bind fun(_,x31,x32,x33,x34) =>
       some ((Xpr.mk 1 ⟨2,0,[]⟩ [] []),x31,x32,x33,x34)) (
      let j:=fun(p6:Bool) =>
       cond (p6) (
       (Cf (x1,x2,x3,x4)).bind fun(_,x36,x37,x38,x39) =>
        some ((Xpr.mk 1 ⟨1,0,[]⟩ [] []),x36,x37,x38,x39)) (
       (Ai ([[40]],x1,x2,x3,x4)).bind fun(x40,x41,x42,x43) =>
        (rf (x40,x41,x42,x43)).bind fun(x44,x45,x46,x47,x48) =>
        (Ai ([[41]],x45,x46,x47,x48)).bind fun(x49,x50,x51,x52) =>
         some (x44,x49,x50,x51,x52))
      cond (decide (x.kind=1)) (
       j (decide (x.s=[78,85,76,76]))) (
       j false))
     cond (decide (x.kind=1)) (
      j1 (decide (x.s=[70,65,76,83,69]))) (
      j1 false))
    cond (decide (x.kind=1)) (
     j2 (decide (x.s=[84,82,85,69]))) (
     j2 false))))))
theorem Azo(rf:Aw→Option Au) (hrf:FM 90 Cu Cw rf):FM 208 Acy Acm (Mz rf):=fRL (px:=Aml _ rf) (n:=0) Tryz.func208 rfl (fun cx H=>by
 have h1:Lv cx (Ael (Abb) rf):=lv H (l1 H Sf Af) Ab Aa
 have h0:Lv cx (Aml (Abb) rf):=lv H (l1 H Nm (l1 H Sf (l1 H Fx (l1 H hrf (Aq (cR H h1 Tryz.func209 rfl (n:=0) (Ak)) Af))))) Ab Aa
 exact⟨h0,Ak⟩) fun(_,_,_,_)=>by kernel_rfl
def Fy(rf:Aw→Option Au):Avd→Option Abb:=fun x=>Mz rf x
theorem A6v(rf:Aw→Option Au) (hrf:FM 90 Cu Cw rf):FM 208 Acy Acm (Fy rf):=Azo rf hrf
def Aa5:Sig:=⟨1,[],[(0,.ptr 0 0)],[(0,.cells [.sl .tok false,.int .i64,.bool,.int .i64])],1,1,0,[],[]⟩
def Zu:Sig:=⟨1,[(0,.sv .expr)],[],[(0,.cells [.sl .tok false,.int .i64,.bool,.int .i64])],1,1,0,[],[]⟩
abbrev Bbp:=List Tok×Int×Bool×Int
abbrev Ap2:=Xpr×List Tok×Int×Bool×Int
def Amf:Sig:=⟨36,[(2,.int .i64),(27,.int .i64),(28,.int .i64)],[(8,.ptr 80 0),(10,.ptr 81 0)],[(0,.cells [.sl .tok false,.int .i64,.bool,.int .i64]),(1,.one (.sv .expr)),(80,.one (.sv .expr)),(81,.one (.sv .expr))],82,80,400,[],[]⟩
abbrev Aaf:=Int×Int×Int×List Tok×Int×Bool×Int×Xpr×Xpr×Xpr
def Xx{R:Type}(rec:Aaf→Option R) (kx:Ex→Aaf→Option R) (v:Aaf):Option R:=match v with
 |(v12,v13,v14,w6,w7,w8,w9,w10,w11,w12) =>
 cond (decide (v14<v13)) (
  rec (v12,v13,(wr .i64 (v14+1)),w6,w7,w8,w9,w10,w11,(Xpr.mk v12 ⟨0,0,[]⟩ [] [w12]))) (
  kx (.exit 2) (v12,v13,v14,w6,w7,w8,w9,w10,w11,w12))
def Ann:Sig:=⟨36,[(1,.str),(2,.int .i64),(9,.int .i64)],[(0,.ptr 0 0),(3,.bm 208 [.ptr 0 0]),(8,.ptr 80 0)],[(0,.cells [.sl .tok false,.int .i64,.bool,.int .i64]),(1,.one (.sv .expr)),(80,.one (.sv .expr))],81,80,400,[],[]⟩
abbrev Yt:=Str×Int×Int×List Tok×Int×Bool×Int×Xpr×Xpr
def Ab3{R:Type}(rec:Yt→Option R) (kx:Ex→Yt→Option R) (v:Yt):Option R:=match v with
 |(v,v1,v2,w,w1,w2,w3,w4,w5) =>
 cond (!w2) (
  (Ao (v,w,w1,w2,w3)).bind fun(x,x1,x2,x3,x4) =>
  cond (x) (
   rec (v,v1,(wr .i64 (v2+1)),x1,x2,x3,x4,w4,w5)) (
   kx (.exit 0) (v,v1,v2,x1,x2,x3,x4,w4,w5))) (
  kx (.exit 0) (v,v1,v2,w,w1,w2,w3,w4,w5))
def Aos(R:Type) (k:Nat) (rf:Aw→Option Au):Px R:=pxO [(117,Aj D8 D6 Ao),(208,Aj Acy Acm (Fy rf))] [] [(2,Ay k Ann (Ab3)),(6,Ay k Amf (Xx))] []
noncomputable def A31 (R:Type) (k:Nat) (rf:Aw→Option Au):Px R:=pxO [(185,Az 80 400 (Aos R k rf) Tryz.f185)] [] [] []
def Kw(k:Nat) (rf:Aw→Option Au) (x:Bbp):Option (Ap2):=match x with
 |(l,n,b,p) =>
 Al (fun rec=>Ab3 rec (fun e vz=>match vz with|(_,v4,v5,v6,v7,v8,v9,v10,v11)=>match e with
  |.exit 0 =>
  (Fy rf (v6,v7,v8,v9)).bind fun(x5,x6,x7,x8,x9) =>
   Al (fun rec=>Xx rec (fun e vz=>match vz with|(_,_,_,v18,v19,v20,v21,_,_,v24)=>match e with
   |.exit 2 =>
    some (v24,v18,v19,v20,v21)
   |_=>none)) k (v4,v5,0,x6,x7,x8,x9,v10,v11,x5)
  |_=>none)) k ([45],15,0,l,n,b,p,(Xpr.mk 0 ⟨0,0,[]⟩ [] []),(Xpr.mk 0 ⟨0,0,[]⟩ [] []))
theorem Bez(k:Nat) (rf:Aw→Option Au) (hrf:FM 90 Cu Cw rf):FM 206 Aa5 Zu (Kw k rf):=fRL (px:=A31 _ k rf) (n:=0) Tryz.func206 rfl (fun cx H=>by
 have h1:Lv cx (Aos (Ap2) k rf):=lv H (l1 H E6 (l1 H (A6v rf hrf) Af)) Ab Aa
 have hlpneg_0:=lO H h1 (b:=lp Tryz.f185 0) (k:=k) (n:=0) (s:=Ann) (step:=Ab3) (fun _ _ _ (_,_,_,_,_,_,_,_,_)=>by kernel_rfl) Ak
 have hlpneg_1:=lO H h1 (b:=lp Tryz.f185 1) (k:=k) (n:=0) (s:=Amf) (step:=Xx) (fun _ _ _ (_,_,_,_,_,_,_,_,_,_)=>by kernel_rfl) Ak
 have h0:Lv cx (A31 (Ap2) k rf):=lv H (Aq (cR H h1 Tryz.func185 rfl (n:=2) ((B7 (B7 Ak hlpneg_0) hlpneg_1))) Af) Ab Aa
 exact⟨h0,Ak⟩) fun(_,_,_,_)=>by kernel_rfl
def Ih(rf:Aw→Option Au):Bbp→Option Ap2:=fun x=>Kw ((x.1.length+1)) rf x
theorem A2g(rf:Aw→Option Au) (hrf:FM 90 Cu Cw rf):FM 206 Aa5 Zu (Ih rf):=FnLn.fin (ι:=Nat) (sg:=Aa5) (so:=Zu) 0 (F:=fun k=>Kw k rf) (fun k=>Bez k rf hrf) fun x _ _ hx=>⟨(x.1.length+1),hx⟩
def Jv:Sig:=⟨1,[],[(0,.ptr 0 0)],[(0,.cells [.sl .tok false,.int .i64,.bool,.int .i64])],1,1,0,[],[]⟩
def Ju:Sig:=⟨1,[(0,.sv .expr)],[],[(0,.cells [.sl .tok false,.int .i64,.bool,.int .i64])],1,1,0,[],[]⟩
abbrev Ah7:=List Tok×Int×Bool×Int
abbrev Q3:=Xpr×List Tok×Int×Bool×Int
def Wo:Sig:=⟨38,[(2,.sl .pair true),(17,.sl .pair false),(18,.int .i64),(19,.int .i64)],[(0,.ptr 0 0),(1,.bm 206 [.ptr 0 0]),(6,.ptr 80 0),(7,.ptr 81 0)],[(0,.cells [.sl .tok false,.int .i64,.bool,.int .i64]),(1,.one (.sv .expr)),(80,.one (.sv .expr)),(81,.one (.sv .expr))],82,80,400,[],[]⟩
abbrev Kc:=List PairS×List PairS×Int×Int×List Tok×Int×Bool×Int×Xpr×Xpr×Xpr
def Iz{R:Type}(rf:Aw→Option Au) (rec:Kc→Option R) (kx:Ex→Kc→Option R) (v:Kc):Option R:=match v with
 |(v1,v2,v3,v4,w7,w8,w9,w10,w11,w12,w13) =>
 cond (decide (v4<v3)) (
  chk (inb v4 v2.length) (
  (Ao ((at' .pair v2 v4).sign,w7,w8,w9,w10)).bind fun(x5,x6,x7,x8,x9) =>
   cond (x5) (
   (Ih rf (x6,x7,x8,x9)).bind fun(x10,x11,x12,x13,x14) =>
    kx (.exit 1) (v1,v2,v3,v4,x11,x12,x13,x14,w11,w12,(Xpr.mk ((at' .pair v2 v4).kind) ⟨0,0,[]⟩ [] [w13,x10]))) (
   rec (v1,v2,v3,(wr .i64 (v4+1)),x6,x7,x8,x9,w11,w12,w13)))) (
  kx (.exit 2) (v1,v2,v3,v4,w7,w8,w9,w10,w11,w12,w13))
def V8:Sig:=⟨38,[(2,.sl .pair true)],[(0,.ptr 0 0),(1,.bm 206 [.ptr 0 0]),(6,.ptr 80 0),(7,.ptr 81 0)],[(0,.cells [.sl .tok false,.int .i64,.bool,.int .i64]),(1,.one (.sv .expr)),(80,.one (.sv .expr)),(81,.one (.sv .expr))],82,80,400,[],[]⟩
abbrev Gl:=List PairS×List Tok×Int×Bool×Int×Xpr×Xpr×Xpr
def I5{R:Type}(k:Nat) (rf:Aw→Option Au) (rec:Gl→Option R) (kx:Ex→Gl→Option R) (v:Gl):Option R:=match v with
 |(v,w,w1,w2,w3,w4,w5,w6) =>
 cond (!w2) (
  Al (fun rc=>Iz rf rc (fun e vz=>match vz with|(v5,_,_,_,v9,v10,v11,v12,v13,v14,v15)=>match e with
  |.exit 1 =>
   rec (v5,v9,v10,v11,v12,v13,v14,v15)
  |.exit 2 =>
   kx (.exit 0) (v5,v9,v10,v11,v12,v13,v14,v15)
  |_=>none)) k (v,v,(v.length:Int),0,w,w1,w2,w3,w4,w5,w6)) (
  kx (.exit 0) (v,w,w1,w2,w3,w4,w5,w6))
def V6(R:Type) (k:Nat) (rf:Aw→Option Au):Px R:=pxO [(206,Aj Aa5 Zu (Ih rf)),(117,Aj D8 D6 Ao)] [] [(4,Ay k Wo (Iz rf)),(2,Ay k V8 (I5 k rf))] [(206,D4 Aa5 Zu (Ih rf))]
noncomputable def Ae8 (R:Type) (k:Nat) (rf:Aw→Option Au):Px R:=pxO [(137,Az 80 400 (V6 R k rf) Tryz.f137)] [] [] []
def Eu(k:Nat) (rf:Aw→Option Au) (x:Ah7):Option (Q3):=match x with
 |(l,n,b,p) =>
 (Ih rf (l,n,b,p)).bind fun(x,x1,x2,x3,x4) =>
  Al (fun rec=>I5 k rf rec (fun e vz=>match vz with|(_,v17,v18,v19,v20,_,_,v23)=>match e with
  |.exit 0 =>
   some (v23,v17,v18,v19,v20)
  |_=>none)) k ([(PairS.mk [42] 14)],x1,x2,x3,x4,(Xpr.mk 0 ⟨0,0,[]⟩ [] []),(Xpr.mk 0 ⟨0,0,[]⟩ [] []),x)
theorem Ar0(k:Nat) (rf:Aw→Option Au) (hrf:FM 90 Cu Cw rf):FM 202 Jv Ju (Eu k rf):=fRL (px:=Ae8 _ k rf) (n:=0) Tryz.func202 rfl (fun cx H=>by
 have h1:Lv cx (V6 (Q3) k rf):=lv H (l1 H (A2g rf hrf) (l1 H E6 Af)) Ab (w1 H (A2g rf hrf) Aa)
 have hlpproduct_1:=lO H h1 (b:=lpC (lp Tryz.f137 0) 0) (k:=k) (n:=0) (s:=Wo) (step:=Iz rf) (fun _ _ _ (_,_,_,_,_,_,_,_,_,_,_)=>by kernel_rfl) Ak
 have hlpproduct_0:=lO H h1 (b:=lp Tryz.f137 0) (k:=k) (n:=1) (s:=V8) (step:=I5 k rf) (fun _ _ _ (_,_,_,_,_,_,_,_)=>by kernel_rfl) (B7 Ak hlpproduct_1)
 have h0:Lv cx (Ae8 (Q3) k rf):=lv H (Aq (cR H h1 Tryz.func137 rfl (n:=2) ((B7 (B7 Ak hlpproduct_0) hlpproduct_1))) Af) Ab Aa
 exact⟨h0,Ak⟩) fun(_,_,_,_)=>by kernel_rfl
def B9(rf:Aw→Option Au):Ah7→Option Q3:=fun x=>Eu ((x.1.length+3)) rf x
theorem Ad5(rf:Aw→Option Au) (hrf:FM 90 Cu Cw rf):FM 202 Jv Ju (B9 rf):=FnLn.fin (ι:=Nat) (sg:=Jv) (so:=Ju) 0 (F:=fun k=>Eu k rf) (fun k=>Ar0 k rf hrf) fun x _ _ hx=>⟨(x.1.length+3),hx⟩
def Z6:Sig:=⟨1,[],[(0,.ptr 0 0)],[(0,.cells [.sl .tok false,.int .i64,.bool,.int .i64])],1,1,0,[],[]⟩
def Aad:Sig:=⟨1,[(0,.sv .expr)],[],[(0,.cells [.sl .tok false,.int .i64,.bool,.int .i64])],1,1,0,[],[]⟩
abbrev Bbw:=List Tok×Int×Bool×Int
abbrev Ap3:=Xpr×List Tok×Int×Bool×Int
def An9:Sig:=⟨38,[(2,.sl .pair true),(17,.sl .pair false),(18,.int .i64),(19,.int .i64)],[(0,.ptr 0 0),(1,.bm 202 [.ptr 0 0]),(6,.ptr 80 0),(7,.ptr 81 0)],[(0,.cells [.sl .tok false,.int .i64,.bool,.int .i64]),(1,.one (.sv .expr)),(80,.one (.sv .expr)),(81,.one (.sv .expr))],82,80,400,[],[]⟩
abbrev Zy:=List PairS×List PairS×Int×Int×List Tok×Int×Bool×Int×Xpr×Xpr×Xpr
def Acs{R:Type}(rf:Aw→Option Au) (rec:Zy→Option R) (kx:Ex→Zy→Option R) (v:Zy):Option R:=match v with
 |(v1,v2,v3,v4,w7,w8,w9,w10,w11,w12,w13) =>
 cond (decide (v4<v3)) (
  chk (inb v4 v2.length) (
  (Ao ((at' .pair v2 v4).sign,w7,w8,w9,w10)).bind fun(x5,x6,x7,x8,x9) =>
   cond (x5) (
   (B9 rf (x6,x7,x8,x9)).bind fun(x10,x11,x12,x13,x14) =>
    kx (.exit 1) (v1,v2,v3,v4,x11,x12,x13,x14,w11,w12,(Xpr.mk ((at' .pair v2 v4).kind) ⟨0,0,[]⟩ [] [w13,x10]))) (
   rec (v1,v2,v3,(wr .i64 (v4+1)),x6,x7,x8,x9,w11,w12,w13)))) (
  kx (.exit 2) (v1,v2,v3,v4,w7,w8,w9,w10,w11,w12,w13))
def Amy:Sig:=⟨38,[(2,.sl .pair true)],[(0,.ptr 0 0),(1,.bm 202 [.ptr 0 0]),(6,.ptr 80 0),(7,.ptr 81 0)],[(0,.cells [.sl .tok false,.int .i64,.bool,.int .i64]),(1,.one (.sv .expr)),(80,.one (.sv .expr)),(81,.one (.sv .expr))],82,80,400,[],[]⟩
abbrev O2:=List PairS×List Tok×Int×Bool×Int×Xpr×Xpr×Xpr
def Ac7{R:Type}(k:Nat) (rf:Aw→Option Au) (rec:O2→Option R) (kx:Ex→O2→Option R) (v:O2):Option R:=match v with
 |(v,w,w1,w2,w3,w4,w5,w6) =>
 cond (!w2) (
  Al (fun rc=>Acs rf rc (fun e vz=>match vz with|(v5,_,_,_,v9,v10,v11,v12,v13,v14,v15)=>match e with
  |.exit 1 =>
   rec (v5,v9,v10,v11,v12,v13,v14,v15)
  |.exit 2 =>
   kx (.exit 0) (v5,v9,v10,v11,v12,v13,v14,v15)
  |_=>none)) k (v,v,(v.length:Int),0,w,w1,w2,w3,w4,w5,w6)) (
  kx (.exit 0) (v,w,w1,w2,w3,w4,w5,w6))
def Aog(R:Type) (k:Nat) (rf:Aw→Option Au):Px R:=pxO [(202,Aj Jv Ju (B9 rf)),(117,Aj D8 D6 Ao)] [] [(4,Ay k An9 (Acs rf)),(2,Ay k Amy (Ac7 k rf))] [(202,D4 Jv Ju (B9 rf))]
noncomputable def A4l (R:Type) (k:Nat) (rf:Aw→Option Au):Px R:=pxO [(137,Az 80 400 (Aog R k rf) Tryz.f137)] [] [] []
def I4(k:Nat) (rf:Aw→Option Au) (x:Bbw):Option (Ap3):=match x with
 |(l,n,b,p) =>
 (B9 rf (l,n,b,p)).bind fun(x,x1,x2,x3,x4) =>
  Al (fun rec=>Ac7 k rf rec (fun e vz=>match vz with|(_,v17,v18,v19,v20,_,_,v23)=>match e with
  |.exit 0 =>
   some (v23,v17,v18,v19,v20)
  |_=>none)) k ([(PairS.mk [43] 12),(PairS.mk [45] 13)],x1,x2,x3,x4,(Xpr.mk 0 ⟨0,0,[]⟩ [] []),(Xpr.mk 0 ⟨0,0,[]⟩ [] []),x)
theorem A8s(k:Nat) (rf:Aw→Option Au) (hrf:FM 90 Cu Cw rf):FM 196 Z6 Aad (I4 k rf):=fRL (px:=A4l _ k rf) (n:=0) Tryz.func196 rfl (fun cx H=>by
 have h1:Lv cx (Aog (Ap3) k rf):=lv H (l1 H (Ad5 rf hrf) (l1 H E6 Af)) Ab (w1 H (Ad5 rf hrf) Aa)
 have hlpsum_1:=lO H h1 (b:=lpC (lp Tryz.f137 0) 0) (k:=k) (n:=0) (s:=An9) (step:=Acs rf) (fun _ _ _ (_,_,_,_,_,_,_,_,_,_,_)=>by kernel_rfl) Ak
 have hlpsum_0:=lO H h1 (b:=lp Tryz.f137 0) (k:=k) (n:=1) (s:=Amy) (step:=Ac7 k rf) (fun _ _ _ (_,_,_,_,_,_,_,_)=>by kernel_rfl) (B7 Ak hlpsum_1)
 have h0:Lv cx (A4l (Ap3) k rf):=lv H (Aq (cR H h1 Tryz.func137 rfl (n:=2) ((B7 (B7 Ak hlpsum_0) hlpsum_1))) Af) Ab Aa
 exact⟨h0,Ak⟩) fun(_,_,_,_)=>by kernel_rfl
def Gr(rf:Aw→Option Au):Bbw→Option Ap3:=fun x=>I4 ((x.1.length+3)) rf x
theorem A0z(rf:Aw→Option Au) (hrf:FM 90 Cu Cw rf):FM 196 Z6 Aad (Gr rf):=FnLn.fin (ι:=Nat) (sg:=Z6) (so:=Aad) 0 (F:=fun k=>I4 k rf) (fun k=>A8s k rf hrf) fun x _ _ hx=>⟨(x.1.length+3),hx⟩
def Agh:Sig:=⟨1,[],[(0,.ptr 0 0)],[(0,.cells [.sl .tok false,.int .i64,.bool,.int .i64])],1,1,0,[],[]⟩
def Af7:Sig:=⟨1,[(0,.sv .expr)],[],[(0,.cells [.sl .tok false,.int .i64,.bool,.int .i64])],1,1,0,[],[]⟩
abbrev Bdn:=List Tok×Int×Bool×Int
abbrev Axf:=Xpr×List Tok×Int×Bool×Int
def Al4:Sig:=⟨61,[(20,.sl .pair true),(21,.int .i64),(22,.int .i64)],[(0,.ptr 0 0),(2,.ptr 1 0),(3,.ptr 2 0)],[(0,.cells [.sl .tok false,.int .i64,.bool,.int .i64]),(1,.one (.sv .expr)),(2,.one (.sv .expr))],3,1,0,[],[]⟩
abbrev Abc:=List PairS×Int×Int×List Tok×Int×Bool×Int×Xpr×Xpr
def Abs{R:Type}(rf:Aw→Option Au) (rec:Abc→Option R) (kx:Ex→Abc→Option R) (v:Abc):Option R:=match v with
 |(v,v1,v2,w,w1,w2,w3,w4,w5) =>
 cond (decide (v2<v1)) (
  chk (inb v2 v.length) (
  (Ao ((at' .pair v v2).sign,w,w1,w2,w3)).bind fun(x5,x6,x7,x8,x9) =>
   cond (x5) (
   (Gr rf (x6,x7,x8,x9)).bind fun(x10,x11,x12,x13,x14) =>
    kx .ret (v,v1,v2,x11,x12,x13,x14,(Xpr.mk ((at' .pair v v2).kind) ⟨0,0,[]⟩ [] [w5,x10]),w5)) (
   rec (v,v1,(wr .i64 (v2+1)),x6,x7,x8,x9,w4,w5)))) (
  kx (.exit 0) (v,v1,v2,w,w1,w2,w3,w4,w5))
def A3l(R:Type) (k:Nat) (rf:Aw→Option Au):Px R:=pxO [(196,Aj Z6 Aad (Gr rf)),(117,Aj D8 D6 Ao),(119,Aj Ej Ea Ai)] [] [(5,Ay k Al4 (Abs rf))] [(196,D4 Z6 Aad (Gr rf))]
def Kz(k:Nat) (rf:Aw→Option Au) (x:Bdn):Option (Axf):=match x with
 |(l,n,b,p) =>
 (Gr rf (l,n,b,p)).bind fun(x,x1,x2,x3,x4) =>
  cond (x3) (
  some (x,x1,x2,x3,x4)) (
  Al (fun rec=>Abs rf rec (fun e vz=>match vz with|(_,_,_,v6,v7,v8,v9,v10,v11)=>match e with
   |.ret =>
   some (v10,v6,v7,v8,v9)
   |.exit 0 =>
   (Ao ([73,83],v6,v7,v8,v9)).bind fun(x15,x16,x17,x18,x19) =>
    cond (!x15) (
    some (v11,x16,x17,x18,x19)) (
    (Ao ([78,79,84],x16,x17,x18,x19)).bind fun(x20,x21,x22,x23,x24) =>
     (Ai ([[78,85,76,76]],x21,x22,x23,x24)).bind fun(x25,x26,x27,x28) =>
     cond (x20) (
      some ((Xpr.mk 3 ⟨0,0,[]⟩ [] [(Xpr.mk 16 ⟨0,0,[]⟩ [] [v11])]),x25,x26,x27,x28)) (
      some ((Xpr.mk 16 ⟨0,0,[]⟩ [] [v11]),x25,x26,x27,x28)))
   |_=>none)) k ([(PairS.mk [61] 6),(PairS.mk [60,62] 7),(PairS.mk [60] 8),(PairS.mk [60,61] 9),(PairS.mk [62] 10),(PairS.mk [62,61] 11)],6,0,x1,x2,x3,x4,(Xpr.mk 0 ⟨0,0,[]⟩ [] []),x))
theorem Bar(k:Nat) (rf:Aw→Option Au) (hrf:FM 90 Cu Cw rf):FM 186 Agh Af7 (Kz k rf):=fRL (px:=A3l _ k rf) (n:=1) Tryz.func186 rfl (fun cx H=>by
 have h0:Lv cx (A3l (Axf) k rf):=lv H (l1 H (A0z rf hrf) (l1 H E6 (l1 H Fx Af))) Ab (w1 H (A0z rf hrf) Aa)
 have hlpcmp_0:=lO H h0 (b:=lp Tryz.f186 0) (k:=k) (n:=0) (s:=Al4) (step:=Abs rf) (fun _ _ _ (_,_,_,_,_,_,_,_,_)=>by kernel_rfl) Ak
 exact⟨h0,(B7 Ak hlpcmp_0)⟩) fun(_,_,_,_)=>by kernel_rfl
def Lr(rf:Aw→Option Au):Bdn→Option Axf:=fun x=>Kz (10) rf x
theorem Bib(rf:Aw→Option Au) (hrf:FM 90 Cu Cw rf):FM 186 Agh Af7 (Lr rf):=FnLn.fin (ι:=Nat) (sg:=Agh) (so:=Af7) 0 (F:=fun k=>Kz k rf) (fun k=>Bar k rf hrf) fun _ _ _ hx=>⟨10,hx⟩
def Aa1:Sig:=⟨1,[],[(0,.ptr 0 0)],[(0,.cells [.sl .tok false,.int .i64,.bool,.int .i64])],1,1,0,[],[]⟩
def Yu:Sig:=⟨1,[(0,.sv .expr)],[],[(0,.cells [.sl .tok false,.int .i64,.bool,.int .i64])],1,1,0,[],[]⟩
abbrev Bbb:=List Tok×Int×Bool×Int
abbrev Apc:=Xpr×List Tok×Int×Bool×Int
def Am4:Sig:=⟨36,[(2,.int .i64),(27,.int .i64),(28,.int .i64)],[(8,.ptr 80 0),(10,.ptr 81 0)],[(0,.cells [.sl .tok false,.int .i64,.bool,.int .i64]),(1,.one (.sv .expr)),(80,.one (.sv .expr)),(81,.one (.sv .expr))],82,80,400,[],[]⟩
abbrev Aaz:=Int×Int×Int×List Tok×Int×Bool×Int×Xpr×Xpr×Xpr
def Xr{R:Type}(rec:Aaz→Option R) (kx:Ex→Aaz→Option R) (v:Aaz):Option R:=match v with
 |(v12,v13,v14,w6,w7,w8,w9,w10,w11,w12) =>
 cond (decide (v14<v13)) (
  rec (v12,v13,(wr .i64 (v14+1)),w6,w7,w8,w9,w10,w11,(Xpr.mk v12 ⟨0,0,[]⟩ [] [w12]))) (
  kx (.exit 2) (v12,v13,v14,w6,w7,w8,w9,w10,w11,w12))
def Al8:Sig:=⟨36,[(1,.str),(2,.int .i64),(9,.int .i64)],[(0,.ptr 0 0),(3,.bm 186 [.ptr 0 0]),(8,.ptr 80 0)],[(0,.cells [.sl .tok false,.int .i64,.bool,.int .i64]),(1,.one (.sv .expr)),(80,.one (.sv .expr))],81,80,400,[],[]⟩
abbrev Aaq:=Str×Int×Int×List Tok×Int×Bool×Int×Xpr×Xpr
def Acg{R:Type}(rec:Aaq→Option R) (kx:Ex→Aaq→Option R) (v:Aaq):Option R:=match v with
 |(v,v1,v2,w,w1,w2,w3,w4,w5) =>
 cond (!w2) (
  (Ao (v,w,w1,w2,w3)).bind fun(x,x1,x2,x3,x4) =>
  cond (x) (
   rec (v,v1,(wr .i64 (v2+1)),x1,x2,x3,x4,w4,w5)) (
   kx (.exit 0) (v,v1,v2,x1,x2,x3,x4,w4,w5))) (
  kx (.exit 0) (v,v1,v2,w,w1,w2,w3,w4,w5))
def Al0(R:Type) (k:Nat) (rf:Aw→Option Au):Px R:=pxO [(117,Aj D8 D6 Ao),(186,Aj Agh Af7 (Lr rf))] [] [(2,Ay k Al8 (Acg)),(6,Ay k Am4 (Xr))] []
noncomputable def A18 (R:Type) (k:Nat) (rf:Aw→Option Au):Px R:=pxO [(185,Az 80 400 (Al0 R k rf) Tryz.f185)] [] [] []
def K4(k:Nat) (rf:Aw→Option Au) (x:Bbb):Option (Apc):=match x with
 |(l,n,b,p) =>
 Al (fun rec=>Acg rec (fun e vz=>match vz with|(_,v4,v5,v6,v7,v8,v9,v10,v11)=>match e with
  |.exit 0 =>
  (Lr rf (v6,v7,v8,v9)).bind fun(x5,x6,x7,x8,x9) =>
   Al (fun rec=>Xr rec (fun e vz=>match vz with|(_,_,_,v18,v19,v20,v21,_,_,v24)=>match e with
   |.exit 2 =>
    some (v24,v18,v19,v20,v21)
   |_=>none)) k (v4,v5,0,x6,x7,x8,x9,v10,v11,x5)
  |_=>none)) k ([78,79,84],3,0,l,n,b,p,(Xpr.mk 0 ⟨0,0,[]⟩ [] []),(Xpr.mk 0 ⟨0,0,[]⟩ [] []))
theorem Bb4(k:Nat) (rf:Aw→Option Au) (hrf:FM 90 Cu Cw rf):FM 167 Aa1 Yu (K4 k rf):=fRL (px:=A18 _ k rf) (n:=0) Tryz.func167 rfl (fun cx H=>by
 have h1:Lv cx (Al0 (Apc) k rf):=lv H (l1 H E6 (l1 H (Bib rf hrf) Af)) Ab Aa
 have hlpnot_0:=lO H h1 (b:=lp Tryz.f185 0) (k:=k) (n:=0) (s:=Al8) (step:=Acg) (fun _ _ _ (_,_,_,_,_,_,_,_,_)=>by kernel_rfl) Ak
 have hlpnot_1:=lO H h1 (b:=lp Tryz.f185 1) (k:=k) (n:=0) (s:=Am4) (step:=Xr) (fun _ _ _ (_,_,_,_,_,_,_,_,_,_)=>by kernel_rfl) Ak
 have h0:Lv cx (A18 (Apc) k rf):=lv H (Aq (cR H h1 Tryz.func185 rfl (n:=2) ((B7 (B7 Ak hlpnot_0) hlpnot_1))) Af) Ab Aa
 exact⟨h0,Ak⟩) fun(_,_,_,_)=>by kernel_rfl
def Ik(rf:Aw→Option Au):Bbb→Option Apc:=fun x=>K4 ((x.1.length+1)) rf x
theorem A3t(rf:Aw→Option Au) (hrf:FM 90 Cu Cw rf):FM 167 Aa1 Yu (Ik rf):=FnLn.fin (ι:=Nat) (sg:=Aa1) (so:=Yu) 0 (F:=fun k=>K4 k rf) (fun k=>Bb4 k rf hrf) fun x _ _ hx=>⟨(x.1.length+1),hx⟩
def Aa2:Sig:=⟨1,[],[(0,.ptr 0 0)],[(0,.cells [.sl .tok false,.int .i64,.bool,.int .i64])],1,1,0,[],[]⟩
def Zs:Sig:=⟨1,[(0,.sv .expr)],[],[(0,.cells [.sl .tok false,.int .i64,.bool,.int .i64])],1,1,0,[],[]⟩
abbrev Ba1:=List Tok×Int×Bool×Int
abbrev Arz:=Xpr×List Tok×Int×Bool×Int
def Al5:Sig:=⟨38,[(2,.sl .pair true),(17,.sl .pair false),(18,.int .i64),(19,.int .i64)],[(0,.ptr 0 0),(1,.bm 167 [.ptr 0 0]),(6,.ptr 80 0),(7,.ptr 81 0)],[(0,.cells [.sl .tok false,.int .i64,.bool,.int .i64]),(1,.one (.sv .expr)),(80,.one (.sv .expr)),(81,.one (.sv .expr))],82,80,400,[],[]⟩
abbrev Zz:=List PairS×List PairS×Int×Int×List Tok×Int×Bool×Int×Xpr×Xpr×Xpr
def Ada{R:Type}(rf:Aw→Option Au) (rec:Zz→Option R) (kx:Ex→Zz→Option R) (v:Zz):Option R:=match v with
 |(v1,v2,v3,v4,w7,w8,w9,w10,w11,w12,w13) =>
 cond (decide (v4<v3)) (
  chk (inb v4 v2.length) (
  (Ao ((at' .pair v2 v4).sign,w7,w8,w9,w10)).bind fun(x5,x6,x7,x8,x9) =>
   cond (x5) (
   (Ik rf (x6,x7,x8,x9)).bind fun(x10,x11,x12,x13,x14) =>
    kx (.exit 1) (v1,v2,v3,v4,x11,x12,x13,x14,w11,w12,(Xpr.mk ((at' .pair v2 v4).kind) ⟨0,0,[]⟩ [] [w13,x10]))) (
   rec (v1,v2,v3,(wr .i64 (v4+1)),x6,x7,x8,x9,w11,w12,w13)))) (
  kx (.exit 2) (v1,v2,v3,v4,w7,w8,w9,w10,w11,w12,w13))
def Ao9:Sig:=⟨38,[(2,.sl .pair true)],[(0,.ptr 0 0),(1,.bm 167 [.ptr 0 0]),(6,.ptr 80 0),(7,.ptr 81 0)],[(0,.cells [.sl .tok false,.int .i64,.bool,.int .i64]),(1,.one (.sv .expr)),(80,.one (.sv .expr)),(81,.one (.sv .expr))],82,80,400,[],[]⟩
abbrev N1:=List PairS×List Tok×Int×Bool×Int×Xpr×Xpr×Xpr
def Ab8{R:Type}(k:Nat) (rf:Aw→Option Au) (rec:N1→Option R) (kx:Ex→N1→Option R) (v:N1):Option R:=match v with
 |(v,w,w1,w2,w3,w4,w5,w6) =>
 cond (!w2) (
  Al (fun rc=>Ada rf rc (fun e vz=>match vz with|(v5,_,_,_,v9,v10,v11,v12,v13,v14,v15)=>match e with
  |.exit 1 =>
   rec (v5,v9,v10,v11,v12,v13,v14,v15)
  |.exit 2 =>
   kx (.exit 0) (v5,v9,v10,v11,v12,v13,v14,v15)
  |_=>none)) k (v,v,(v.length:Int),0,w,w1,w2,w3,w4,w5,w6)) (
  kx (.exit 0) (v,w,w1,w2,w3,w4,w5,w6))
def Anw(R:Type) (k:Nat) (rf:Aw→Option Au):Px R:=pxO [(167,Aj Aa1 Yu (Ik rf)),(117,Aj D8 D6 Ao)] [] [(4,Ay k Al5 (Ada rf)),(2,Ay k Ao9 (Ab8 k rf))] [(167,D4 Aa1 Yu (Ik rf))]
noncomputable def A1b (R:Type) (k:Nat) (rf:Aw→Option Au):Px R:=pxO [(137,Az 80 400 (Anw R k rf) Tryz.f137)] [] [] []
def Jd(k:Nat) (rf:Aw→Option Au) (x:Ba1):Option (Arz):=match x with
 |(l,n,b,p) =>
 (Ik rf (l,n,b,p)).bind fun(x,x1,x2,x3,x4) =>
  Al (fun rec=>Ab8 k rf rec (fun e vz=>match vz with|(_,v17,v18,v19,v20,_,_,v23)=>match e with
  |.exit 0 =>
   some (v23,v17,v18,v19,v20)
  |_=>none)) k ([(PairS.mk [65,78,68] 4)],x1,x2,x3,x4,(Xpr.mk 0 ⟨0,0,[]⟩ [] []),(Xpr.mk 0 ⟨0,0,[]⟩ [] []),x)
theorem A83(k:Nat) (rf:Aw→Option Au) (hrf:FM 90 Cu Cw rf):FM 138 Aa2 Zs (Jd k rf):=fRL (px:=A1b _ k rf) (n:=0) Tryz.func138 rfl (fun cx H=>by
 have h1:Lv cx (Anw (Arz) k rf):=lv H (l1 H (A3t rf hrf) (l1 H E6 Af)) Ab (w1 H (A3t rf hrf) Aa)
 have hlpand_1:=lO H h1 (b:=lpC (lp Tryz.f137 0) 0) (k:=k) (n:=0) (s:=Al5) (step:=Ada rf) (fun _ _ _ (_,_,_,_,_,_,_,_,_,_,_)=>by kernel_rfl) Ak
 have hlpand_0:=lO H h1 (b:=lp Tryz.f137 0) (k:=k) (n:=1) (s:=Ao9) (step:=Ab8 k rf) (fun _ _ _ (_,_,_,_,_,_,_,_)=>by kernel_rfl) (B7 Ak hlpand_1)
 have h0:Lv cx (A1b (Arz) k rf):=lv H (Aq (cR H h1 Tryz.func137 rfl (n:=2) ((B7 (B7 Ak hlpand_0) hlpand_1))) Af) Ab Aa
 exact⟨h0,Ak⟩) fun(_,_,_,_)=>by kernel_rfl
def Hm(rf:Aw→Option Au):Ba1→Option Arz:=fun x=>Jd ((x.1.length+3)) rf x
theorem A4h(rf:Aw→Option Au) (hrf:FM 90 Cu Cw rf):FM 138 Aa2 Zs (Hm rf):=FnLn.fin (ι:=Nat) (sg:=Aa2) (so:=Zs) 0 (F:=fun k=>Jd k rf) (fun k=>A83 k rf hrf) fun x _ _ hx=>⟨(x.1.length+3),hx⟩
def Aup:Sig:=⟨38,[(2,.sl .pair true),(17,.sl .pair false),(18,.int .i64),(19,.int .i64)],[(0,.ptr 0 0),(1,.bm 138 [.ptr 0 0]),(6,.ptr 80 0),(7,.ptr 81 0)],[(0,.cells [.sl .tok false,.int .i64,.bool,.int .i64]),(1,.one (.sv .expr)),(80,.one (.sv .expr)),(81,.one (.sv .expr))],82,80,400,[],[]⟩
abbrev Agp:=List PairS×List PairS×Int×Int×List Tok×Int×Bool×Int×Xpr×Xpr×Xpr
def Al3{R:Type}(rf:Aw→Option Au) (rec:Agp→Option R) (kx:Ex→Agp→Option R) (v:Agp):Option R:=match v with
 |(v1,v2,v3,v4,w7,w8,w9,w10,w11,w12,w13) =>
 cond (decide (v4<v3)) (
  chk (inb v4 v2.length) (
  (Ao ((at' .pair v2 v4).sign,w7,w8,w9,w10)).bind fun(x5,x6,x7,x8,x9) =>
   cond (x5) (
   (Hm rf (x6,x7,x8,x9)).bind fun(x10,x11,x12,x13,x14) =>
    kx (.exit 1) (v1,v2,v3,v4,x11,x12,x13,x14,w11,w12,(Xpr.mk ((at' .pair v2 v4).kind) ⟨0,0,[]⟩ [] [w13,x10]))) (
   rec (v1,v2,v3,(wr .i64 (v4+1)),x6,x7,x8,x9,w11,w12,w13)))) (
  kx (.exit 2) (v1,v2,v3,v4,w7,w8,w9,w10,w11,w12,w13))
def Ass:Sig:=⟨38,[(2,.sl .pair true)],[(0,.ptr 0 0),(1,.bm 138 [.ptr 0 0]),(6,.ptr 80 0),(7,.ptr 81 0)],[(0,.cells [.sl .tok false,.int .i64,.bool,.int .i64]),(1,.one (.sv .expr)),(80,.one (.sv .expr)),(81,.one (.sv .expr))],82,80,400,[],[]⟩
abbrev U5:=List PairS×List Tok×Int×Bool×Int×Xpr×Xpr×Xpr
def Am3{R:Type}(k:Nat) (rf:Aw→Option Au) (rec:U5→Option R) (kx:Ex→U5→Option R) (v:U5):Option R:=match v with
 |(v,w,w1,w2,w3,w4,w5,w6) =>
 cond (!w2) (
  Al (fun rc=>Al3 rf rc (fun e vz=>match vz with|(v5,_,_,_,v9,v10,v11,v12,v13,v14,v15)=>match e with
  |.exit 1 =>
   rec (v5,v9,v10,v11,v12,v13,v14,v15)
  |.exit 2 =>
   kx (.exit 0) (v5,v9,v10,v11,v12,v13,v14,v15)
  |_=>none)) k (v,v,(v.length:Int),0,w,w1,w2,w3,w4,w5,w6)) (
  kx (.exit 0) (v,w,w1,w2,w3,w4,w5,w6))
def Aus(R:Type) (k:Nat) (rf:Aw→Option Au):Px R:=pxO [(138,Aj Aa2 Zs (Hm rf)),(117,Aj D8 D6 Ao)] [] [(4,Ay k Aup (Al3 rf)),(2,Ay k Ass (Am3 k rf))] [(138,D4 Aa2 Zs (Hm rf))]
noncomputable def Bej (R:Type) (k:Nat) (rf:Aw→Option Au):Px R:=pxO [(137,Az 80 400 (Aus R k rf) Tryz.f137)] [] [] []
def Li(k:Nat) (rf:Aw→Option Au) (x:Aw):Option (Au):=match x with
 |(l,n,b,p) =>
 (Hm rf (l,n,b,p)).bind fun(x,x1,x2,x3,x4) =>
  Al (fun rec=>Am3 k rf rec (fun e vz=>match vz with|(_,v17,v18,v19,v20,_,_,v23)=>match e with
  |.exit 0 =>
   some (v23,v17,v18,v19,v20)
  |_=>none)) k ([(PairS.mk [79,82] 5)],x1,x2,x3,x4,(Xpr.mk 0 ⟨0,0,[]⟩ [] []),(Xpr.mk 0 ⟨0,0,[]⟩ [] []),x)
theorem Bge(k:Nat) (rf:Aw→Option Au) (hrf:FM 90 Cu Cw rf):FM 90 Cu Cw (Li k rf):=fRL (px:=Bej _ k rf) (n:=0) Tryz.func90 rfl (fun cx H=>by
 have h1:Lv cx (Aus (Au) k rf):=lv H (l1 H (A4h rf hrf) (l1 H E6 Af)) Ab (w1 H (A4h rf hrf) Aa)
 have hlpor_1:=lO H h1 (b:=lpC (lp Tryz.f137 0) 0) (k:=k) (n:=0) (s:=Aup) (step:=Al3 rf) (fun _ _ _ (_,_,_,_,_,_,_,_,_,_,_)=>by kernel_rfl) Ak
 have hlpor_0:=lO H h1 (b:=lp Tryz.f137 0) (k:=k) (n:=1) (s:=Ass) (step:=Am3 k rf) (fun _ _ _ (_,_,_,_,_,_,_,_)=>by kernel_rfl) (B7 Ak hlpor_1)
 have h0:Lv cx (Bej (Au) k rf):=lv H (Aq (cR H h1 Tryz.func137 rfl (n:=2) ((B7 (B7 Ak hlpor_0) hlpor_1))) Af) Ab Aa
 exact⟨h0,Ak⟩) fun(_,_,_,_)=>by kernel_rfl
def Q9(rf:Aw→Option Au):Aw→Option Au:=fun x=>Li (x.1.length+3) rf x
theorem Bfq(rf:Aw→Option Au) (hrf:FnLn Tryz.prog elT glT 90 Cu Cw rf):FnLn Tryz.prog elT glT 90 Cu Cw (Q9 rf) :=.fin (ι:=Nat) (sg:=Cu) (so:=Cw) 0 (F:=fun k=>Li k rf) (fun k=>Bge k rf hrf) fun x _ _ hx=>⟨x.1.length+3,hx⟩
def Ff:Aw→Option Au:=fun x=>Al (V:=Aw) (R:=Au) Q9 (x.1.length+2) x
theorem Akh:FnLn Tryz.prog elT glT 90 Cu Cw Ff :=.fin (ι:=Nat) (sg:=Cu) (so:=Cw) 0 (F:=fun n=>Al (V:=Aw) (R:=Au) Q9 n) (fun n=>FnLn.rec' (Sx.enters_of Tryz.func90 rfl rfl) (fun rf hrf=>Bfq rf hrf) n) fun x _ _ hx=>⟨x.1.length+2,hx⟩
end Go.Proofs.YthndhaolemgbdaaGreatDoor
namespace Go.Proofs.YthndhaolemgbdaaGreatDoor
open Go.Ax
def Ov:Sig:=⟨1,[],[(0,.ptr 0 0)],[(0,.cells [.sl .tok false,.int .i64,.bool,.int .i64])],1,1,0,[],[]⟩
def Nw:Sig:=⟨1,[(0,.sl .str true)],[],[(0,.cells [.sl .tok false,.int .i64,.bool,.int .i64])],1,1,0,[],[]⟩
abbrev Asw:=List Tok×Int×Bool×Int
abbrev Ry:=List Str×List Tok×Int×Bool×Int
def Adr:Sig:=⟨19,[],[(0,.ptr 0 0),(1,.fn 184 [.ptr 2 0,.ptr 1 0])],[(0,.cells [.sl .tok false,.int .i64,.bool,.int .i64]),(1,.fx [.ptr 0 0]),(2,.cells [.sl .str true])],80,80,400,[],[]⟩
abbrev Hg:=List Tok×Int×Bool×Int×List Str
def Gw{R:Type}(rec:Hg→Option R) (kx:Ex→Hg→Option R) (v:Hg):Option R:=match v with
 |(w,w1,w2,w3,w4) =>
 cond (!w2) (
  (Ao ([44],w,w1,w2,w3)).bind fun(x9,x10,x11,x12,x13) =>
  cond (x9) (
   (As (x10,x11,x12,x13)).bind fun(x14,x15,x16,x17,x18) =>
   chk (decide (w4.length+1≤Am)) (
    rec (x15,x16,x17,x18,(w4++[x14])))) (
   kx (.exit 0) (x10,x11,x12,x13,w4))) (
  kx (.exit 0) (w,w1,w2,w3,w4))
def V2(R:Type) (_k:Nat):Px R:=pxO [] [] [] [(120,D4 F4 F1 As)]
noncomputable def Ad4 (R:Type) (k:Nat):Px R:=pxO [(117,Aj D8 D6 Ao),(184,Az 120 600 (V2 R k) Tryz.f184)] [] [(1,Ay k Adr (Gw))] []
noncomputable def Am6 (R:Type) (k:Nat):Px R:=pxO [(119,Aj Ej Ea Ai),(121,Az 80 400 (Ad4 R k) Tryz.f121)] [] [] []
def Jq(k:Nat) (x:Asw):Option (Ry):=match x with
 |(l,n,b,p) =>
 (Ai ([[40]],l,n,b,p)).bind fun(x,x1,x2,x3) =>
  (As (x,x1,x2,x3)).bind fun(x4,x5,x6,x7,x8) =>
  Al (fun rec=>Gw rec (fun e vz=>match vz with|(v,v1,v2,v3,v4)=>match e with
   |.exit 0 =>
   (Ai ([[41]],v,v1,v2,v3)).bind fun(x19,x20,x21,x22) =>
    some (v4,x19,x20,x21,x22)
   |_=>none)) k (x5,x6,x7,x8,[x4])
theorem Azl(k:Nat):FM 161 Ov Nw (Jq k):=fRL (px:=Am6 _ k) (n:=0) Tryz.func161 rfl (fun cx H=>by
 have h2:Lv cx (V2 (Ry) k):=lv H Af Ab (w1 H Ir Aa)
 have h1:Lv cx (Ad4 (Ry) k):=lv H (l1 H E6 (Aq (cR H h2 Tryz.func184 rfl (n:=0) (Ak)) Af)) Ab Aa
 have hlpnames_0:=lO H h1 (b:=lp Tryz.f121 0) (k:=k) (n:=0) (s:=Adr) (step:=Gw) (fun _ _ _ (_,_,_,_,_)=>by kernel_rfl) Ak
 have h0:Lv cx (Am6 (Ry) k):=lv H (l1 H Fx (Aq (cR H h1 Tryz.func121 rfl (n:=1) ((B7 Ak hlpnames_0))) Af)) Ab Aa
 exact⟨h0,Ak⟩) fun(_,_,_,_)=>by kernel_rfl
def Dt:Asw→Option Ry:=fun x=>Jq ((x.1.length+3)) x
theorem Amn:FM 161 Ov Nw (Dt):=FnLn.fin (ι:=Nat) (sg:=Ov) (so:=Nw) 0 (F:=fun k=>Jq k) (fun k=>Azl k) fun x _ _ hx=>⟨(x.1.length+3),hx⟩
def O5:Sig:=⟨1,[],[(0,.ptr 0 0)],[(0,.cells [.sl .tok false,.int .i64,.bool,.int .i64])],1,1,0,[],[]⟩
def Og:Sig:=⟨1,[(0,.sl .expr true)],[],[(0,.cells [.sl .tok false,.int .i64,.bool,.int .i64])],1,1,0,[],[]⟩
abbrev At7:=List Tok×Int×Bool×Int
abbrev Su:=List Xpr×List Tok×Int×Bool×Int
def Aez:Sig:=⟨19,[],[(0,.ptr 0 0),(1,.fn 162 [.ptr 2 0,.ptr 1 0])],[(0,.cells [.sl .tok false,.int .i64,.bool,.int .i64]),(1,.fx [.ptr 0 0]),(2,.cells [.sl .expr true])],80,80,400,[],[]⟩
abbrev Hn:=List Tok×Int×Bool×Int×List Xpr
def Gx{R:Type}(rec:Hn→Option R) (kx:Ex→Hn→Option R) (v:Hn):Option R:=match v with
 |(w,w1,w2,w3,w4) =>
 cond (!w2) (
  (Ao ([44],w,w1,w2,w3)).bind fun(x5,x6,x7,x8,x9) =>
  cond (x5) (
   (Ff (x6,x7,x8,x9)).bind fun(x10,x11,x12,x13,x14) =>
   chk (decide (w4.length+1≤Am)&&decide ((w4.length:Int)=(w4.length:Int))) (
    rec (x11,x12,x13,x14,(w4++[x10])))) (
   kx (.exit 0) (x6,x7,x8,x9,w4))) (
  kx (.exit 0) (w,w1,w2,w3,w4))
def Wi(R:Type) (_k:Nat):Px R:=pxO [] [] [] [(90,D4 Cu Cw Ff)]
noncomputable def Adu (R:Type) (k:Nat):Px R:=pxO [(117,Aj D8 D6 Ao),(162,Az 120 600 (Wi R k) Tryz.f162)] [] [(1,Ay k Aez (Gx))] []
noncomputable def Amx (R:Type) (k:Nat):Px R:=pxO [(121,Az 80 400 (Adu R k) Tryz.f121)] [] [] []
def Jo(k:Nat) (x:At7):Option (Su):=match x with
 |(l,n,b,p) =>
 (Ff (l,n,b,p)).bind fun(x,x1,x2,x3,x4) =>
  chk (decide (0+1≤Am)&&decide (0=(0:Int))) (
  Al (fun rec=>Gx rec (fun e vz=>match vz with|(v,v1,v2,v3,v4)=>match e with
   |.exit 0 =>
   some (v4,v,v1,v2,v3)
   |_=>none)) k (x1,x2,x3,x4,[x]))
theorem Aze(k:Nat):FM 123 O5 Og (Jo k):=fRL (px:=Amx _ k) (n:=0) Tryz.func123 rfl (fun cx H=>by
 have h2:Lv cx (Wi (Su) k):=lv H Af Ab (w1 H Akh Aa)
 have h1:Lv cx (Adu (Su) k):=lv H (l1 H E6 (Aq (cR H h2 Tryz.func162 rfl (n:=0) (Ak)) Af)) Ab Aa
 have hlpexprs_0:=lO H h1 (b:=lp Tryz.f121 0) (k:=k) (n:=0) (s:=Aez) (step:=Gx) (fun _ _ _ (_,_,_,_,_)=>by kernel_rfl) Ak
 have h0:Lv cx (Amx (Su) k):=lv H (Aq (cR H h1 Tryz.func121 rfl (n:=1) ((B7 Ak hlpexprs_0))) Af) Ab Aa
 exact⟨h0,Ak⟩) fun(_,_,_,_)=>by kernel_rfl
def C4:At7→Option Su:=fun x=>Jo ((x.1.length+3)) x
theorem Aly:FM 123 O5 Og (C4):=FnLn.fin (ι:=Nat) (sg:=O5) (so:=Og) 0 (F:=fun k=>Jo k) (fun k=>Aze k) fun x _ _ hx=>⟨(x.1.length+3),hx⟩
def Afy:Sig:=⟨1,[],[(0,.ptr 0 0)],[(0,.cells [.sl .tok false,.int .i64,.bool,.int .i64])],1,1,0,[],[]⟩
def Af9:Sig:=⟨1,[(0,.sv .col)],[],[(0,.cells [.sl .tok false,.int .i64,.bool,.int .i64])],1,1,0,[],[]⟩
abbrev Bdl:=List Tok×Int×Bool×Int
abbrev Arx:=Col×List Tok×Int×Bool×Int
def Alv:Sig:=⟨87,[(10,.int .i64)],[(0,.ptr 0 0),(2,.ptr 1 0),(3,.ptr 2 0),(9,.agg [.str [],.str [],.str [66,79,79,76],.str [73,78,84],.str [84,69,88,84],.str [66,89,84,69,83]])],[(0,.cells [.sl .tok false,.int .i64,.bool,.int .i64]),(1,.one (.sv .col)),(2,.one (.sv .col))],3,1,0,[],[]⟩
abbrev Ia:=Int×List Tok×Int×Bool×Int×Col×Col
def Gq{R:Type}(rec:Ia→Option R) (kx:Ex→Ia→Option R) (v:Ia):Option R:=match v with
 |(v,w,w1,w2,w3,w4,w5) =>
 cond (decide (v<6)) (
  chk (inb v 6) (
  let j1:=fun(p1:Bool) =>
   let j:=fun(p2:Bool) =>
   cond (p2) (
    (Ao ((at' .str [[],[],[66,79,79,76],[73,78,84],[84,69,88,84],[66,89,84,69,83]] v),w,w1,w2,w3)).bind fun(x5,x6,x7,x8,x9) =>
    cond (x5) (
     rec ((wr .i64 (v+1)),x6,x7,x8,x9,w4,(Col.mk w5.name v w5.notNull w5.unique w5.ref))) (
     rec ((wr .i64 (v+1)),x6,x7,x8,x9,w4,w5))) (
    rec ((wr .i64 (v+1)),w,w1,w2,w3,w4,w5))
   cond (p1) (
   j (decide (w5.kind=0))) (
   j false)
  cond (decide (2≤v)) (
   j1 (!w2)) (
   j1 false))) (
  kx (.exit 0) (v,w,w1,w2,w3,w4,w5))
def A2a(R:Type) (k:Nat):Px R:=pxO [(120,Aj F4 F1 As),(117,Aj D8 D6 Ao),(127,Aj H1 H2 Cj),(119,Aj Ej Ea Ai)] [] [(3,Ay k Alv (Gq))] []
def Abz(k:Nat) (x:Bdl):Option (Arx):=match x with
 |(l,n,b,p) =>
 (As (l,n,b,p)).bind fun(x,x1,x2,x3,x4) =>
  Al (fun rec=>Gq rec (fun e vz=>match vz with|(_,v2,v3,v4,v5,_,v7)=>match e with
  |.exit 0 =>
   let j6:=fun(q13:List Tok) (q14:Int) (q15:Bool) (q16:Int) =>
   let j2:=fun(q21:List Tok) (q22:Int) (q23:Bool) (q24:Int) (q25:Col) =>
    let j5:=fun(q30:List Tok) (q31:Int) (q32:Bool) (q33:Int) =>
    let j4:=fun(q38:List Tok) (q39:Int) (q40:Bool) (q41:Int) (q42:Col) =>
     let j3:=fun(p8:Bool) (q47:List Tok) (q48:Int) (q49:Bool) (q50:Int) =>
     cond (p8) (
      (As (q47,q48,q49,q50)).bind fun(x33,x34,x35,x36,x37) =>
      some ((Col.mk q42.name q42.kind q42.notNull q42.unique x33),x34,x35,x36,x37)) (
      some (q42,q47,q48,q49,q50))
     cond (!q40) (
     (Ao ([82,69,70,69,82,69,78,67,69,83],q38,q39,q40,q41)).bind fun(x28,x29,x30,x31,x32) =>
      j3 x28 x29 x30 x31 x32) (
     j3 false q38 q39 q40 q41)
    cond (!q32) (
     (Ao ([85,78,73,81,85,69],q30,q31,q32,q33)).bind fun(x23,x24,x25,x26,x27) =>
     j4 x24 x25 x26 x27 (Col.mk q25.name q25.kind q25.notNull x23 q25.ref)) (
     j4 q30 q31 q32 q33 (Col.mk q25.name q25.kind q25.notNull false q25.ref))
    cond (q25.notNull) (
    (Ai ([[78,85,76,76]],q21,q22,q23,q24)).bind fun(x19,x20,x21,x22) =>
     j5 x19 x20 x21 x22) (
    j5 q21 q22 q23 q24)
   cond (!q15) (
    (Ao ([78,79,84],q13,q14,q15,q16)).bind fun(x14,x15,x16,x17,x18) =>
    j2 x15 x16 x17 x18 (Col.mk v7.name v7.kind x14 v7.unique v7.ref)) (
    j2 q13 q14 q15 q16 (Col.mk v7.name v7.kind false v7.unique v7.ref))
   cond (decide (v7.kind=0)) (
   (Cj (v2,v3,v4,v5)).bind fun(x10,x11,x12,x13) =>
    j6 x10 x11 x12 x13) (
   j6 v2 v3 v4 v5)
  |_=>none)) k (0,x1,x2,x3,x4,(Col.mk [] 0 false false []),(Col.mk x 0 false false []))
theorem Be1(k:Nat):FM 183 Afy Af9 (Abz k):=fRL (px:=A2a _ k) (n:=1) Tryz.func183 rfl (fun cx H=>by
 have h0:Lv cx (A2a (Arx) k):=lv H (l1 H Ir (l1 H E6 (l1 H Kn (l1 H Fx Af)))) Ab Aa
 have hlpcol_0:=lO H h0 (b:=lp Tryz.f183 0) (k:=k) (n:=0) (s:=Alv) (step:=Gq) (fun _ _ _ (_,_,_,_,_,_,_)=>by kernel_rfl) Ak
 exact⟨h0,(B7 Ak hlpcol_0)⟩) fun(_,_,_,_)=>by kernel_rfl
def J9:Bdl→Option Arx:=fun x=>Abz (10) x
theorem Bil:FM 183 Afy Af9 (J9):=FnLn.fin (ι:=Nat) (sg:=Afy) (so:=Af9) 0 (F:=fun k=>Abz k) (fun k=>Be1 k) fun _ _ _ hx=>⟨10,hx⟩
def Ui:Sig:=⟨2,[],[(0,.ptr 0 0),(1,.ptr 1 0)],[(0,.cells [.sl .tok false,.int .i64,.bool,.int .i64]),(1,.cells [.int .i64,.str,.str,.sl .col true,.sl .str false,.sl .expr true,.sl .exprs true,.sl .set true,.bool,.int .i64,.int .i64,.int .i64,.str,.str,.sl .expr false,.sl .str true,.sl .bool true,.int .i64])],2,2,0,[],[]⟩
def Ua:Sig:=⟨0,[],[],[(0,.cells [.sl .tok false,.int .i64,.bool,.int .i64]),(1,.cells [.int .i64,.str,.str,.sl .col true,.sl .str false,.sl .expr true,.sl .exprs true,.sl .set true,.bool,.int .i64,.int .i64,.int .i64,.str,.str,.sl .expr false,.sl .str true,.sl .bool true,.int .i64])],2,2,0,[],[]⟩
abbrev Awf:=List Tok×Int×Bool×Int×Int×Str×Str×List Col×List Str×List Xpr×List (List Xpr)×List SetE×Bool×Int×Int×Int×Str×Str×List Xpr×List Str×List Bool×Int
abbrev K9:=List Tok×Int×Bool×Int×Int×Str×Str×List Col×List Str×List Xpr×List (List Xpr)×List SetE×Bool×Int×Int×Int×Str×Str×List Xpr×List Str×List Bool×Int
def Adw:Sig:=⟨95,[],[(0,.ptr 0 0),(1,.ptr 1 0)],[(0,.cells [.sl .tok false,.int .i64,.bool,.int .i64]),(1,.cells [.int .i64,.str,.str,.sl .col true,.sl .str true,.sl .expr true,.sl .exprs true,.sl .set true,.bool,.int .i64,.int .i64,.int .i64,.str,.str,.sl .expr false,.sl .str true,.sl .bool true,.int .i64])],2,2,0,[],[]⟩
abbrev Dv:=List Tok×Int×Bool×Int×Int×Str×Str×List Col×List Str×List Xpr×List (List Xpr)×List SetE×Bool×Int×Int×Int×Str×Str×List Xpr×List Str×List Bool×Int
def Cr{R:Type}(rec:Dv→Option R) (kx:Ex→Dv→Option R) (v:Dv):Option R:=match v with
 |(w22,w23,w24,w25,w26,w27,w28,w29,w30,w31,w32,w33,w34,w35,w36,w37,w38,w39,w40,w41,w42,w43) =>
 cond (!w24) (
  (Ao ([44],w22,w23,w24,w25)).bind fun(x41,x42,x43,x44,x45) =>
  cond (x41) (
   (Ai ([[67,72,69,67,75],[40]],x42,x43,x44,x45)).bind fun(x46,x47,x48,x49) =>
   (Ff (x46,x47,x48,x49)).bind fun(x50,x51,x52,x53,x54) =>
    chk (decide (w31.length+1≤Am)&&decide ((w31.length:Int)=(w31.length:Int))) (
    (Ai ([[41]],x51,x52,x53,x54)).bind fun(x55,x56,x57,x58) =>
     rec (x55,x56,x57,x58,w26,w27,w28,w29,w30,(w31++[x50]),w32,w33,w34,w35,w36,w37,w38,w39,w40,w41,w42,w43))) (
   kx (.exit 2) (x42,x43,x44,x45,w26,w27,w28,w29,w30,w31,w32,w33,w34,w35,w36,w37,w38,w39,w40,w41,w42,w43))) (
  kx (.exit 2) (w22,w23,w24,w25,w26,w27,w28,w29,w30,w31,w32,w33,w34,w35,w36,w37,w38,w39,w40,w41,w42,w43))
def Aeu:Sig:=⟨95,[],[(0,.ptr 0 0),(1,.ptr 1 0)],[(0,.cells [.sl .tok false,.int .i64,.bool,.int .i64]),(1,.cells [.int .i64,.str,.str,.sl .col true,.sl .str false,.sl .expr true,.sl .exprs true,.sl .set true,.bool,.int .i64,.int .i64,.int .i64,.str,.str,.sl .expr false,.sl .str true,.sl .bool true,.int .i64])],2,2,0,[],[]⟩
abbrev Dw:=List Tok×Int×Bool×Int×Int×Str×Str×List Col×List Str×List Xpr×List (List Xpr)×List SetE×Bool×Int×Int×Int×Str×Str×List Xpr×List Str×List Bool×Int
def Eh{R:Type}(rec:Dw→Option R) (kx:Ex→Dw→Option R) (v:Dw):Option R:=match v with
 |(w,w1,w2,w3,w4,w5,w6,w7,w8,w9,w10,w11,w12,w13,w14,w15,w16,w17,w18,w19,w20,w21) =>
 cond (!w2) (
  (Ao ([80,82,73,77,65,82,89],w,w1,w2,w3)).bind fun(x18,x19,x20,x21,x22) =>
  cond (!x18) (
   (J9 (x19,x20,x21,x22)).bind fun(x23,x24,x25,x26,x27) =>
   chk (decide (w7.length+1≤Am)) (
    (Ai ([[44]],x24,x25,x26,x27)).bind fun(x28,x29,x30,x31) =>
    rec (x28,x29,x30,x31,w4,w5,w6,(w7++[x23]),w8,w9,w10,w11,w12,w13,w14,w15,w16,w17,w18,w19,w20,w21))) (
   kx (.exit 0) (x19,x20,x21,x22,w4,w5,w6,w7,w8,w9,w10,w11,w12,w13,w14,w15,w16,w17,w18,w19,w20,w21))) (
  kx (.exit 0) (w,w1,w2,w3,w4,w5,w6,w7,w8,w9,w10,w11,w12,w13,w14,w15,w16,w17,w18,w19,w20,w21))
def Anh(R:Type) (k:Nat):Px R:=pxO [(120,Aj F4 F1 As),(119,Aj Ej Ea Ai),(117,Aj D8 D6 Ao),(161,Aj Ov Nw Dt)] [] [(4,Ay k Aeu (Eh)),(9,Ay k Adw (Cr))] [(183,D4 Afy Af9 J9),(90,D4 Cu Cw Ff)]
def R9(k:Nat) (x:Awf):Option (K9):=match x with
 |(l,n,b,p,_,_,so,sc,ss,sl,sr,st,sh,wk,vk,vn,vs,wn,wl,sd,se,sm) =>
 (As (l,n,b,p)).bind fun(x,x1,x2,x3,x4) =>
  (Ai ([[40]],x1,x2,x3,x4)).bind fun(x5,x6,x7,x8) =>
  (J9 (x5,x6,x7,x8)).bind fun(x9,x10,x11,x12,x13) =>
   chk (decide (sc.length+1≤Am)) (
   (Ai ([[44]],x10,x11,x12,x13)).bind fun(x14,x15,x16,x17) =>
    Al (fun rec=>Eh rec (fun e vz=>match vz with|(v,v1,v2,v3,v4,v5,v6,v7,_,v9,v10,v11,v12,v13,v14,v15,v16,v17,v18,v19,v20,v21)=>match e with
    |.exit 0 =>
     (Ai ([[75,69,89]],v,v1,v2,v3)).bind fun(x32,x33,x34,x35) =>
     (Dt (x32,x33,x34,x35)).bind fun(x36,x37,x38,x39,x40) =>
      Al (fun rec=>Cr rec (fun e vz=>match vz with|(v22,v23,v24,v25,v26,v27,v28,v29,v30,v31,v32,v33,v34,v35,v36,v37,v38,v39,v40,v41,v42,v43)=>match e with
      |.exit 2 =>
       (Ai ([[41]],v22,v23,v24,v25)).bind fun(x59,x60,x61,x62) =>
       some (x59,x60,x61,x62,v26,v27,v28,v29,v30,v31,v32,v33,v34,v35,v36,v37,v38,v39,v40,v41,v42,v43)
      |_=>none)) k (x37,x38,x39,x40,v4,v5,v6,v7,x36,v9,v10,v11,v12,v13,v14,v15,v16,v17,v18,v19,v20,v21)
    |_=>none)) k (x14,x15,x16,x17,1,x,so,(sc++[x9]),ss,sl,sr,st,sh,wk,vk,vn,vs,wn,wl,sd,se,sm))
theorem Azf(k:Nat):FM 160 Ui Ua (R9 k):=fRL (px:=Anh _ k) (n:=2) Tryz.func160 rfl (fun cx H=>by
 have h0:Lv cx (Anh (K9) k):=lv H (l1 H Ir (l1 H Fx (l1 H E6 (l1 H Amn Af)))) Ab (w1 H Bil (w1 H Akh Aa))
 have hlptable_0:=lO H h0 (b:=lp Tryz.f160 0) (k:=k) (n:=0) (s:=Aeu) (step:=Eh) (fun _ _ _ (_,_,_,_,_,_,_,_,_,_,_,_,_,_,_,_,_,_,_,_,_,_)=>by kernel_rfl) Ak
 have hlptable_1:=lO H h0 (b:=lp Tryz.f160 1) (k:=k) (n:=0) (s:=Adw) (step:=Cr) (fun _ _ _ (_,_,_,_,_,_,_,_,_,_,_,_,_,_,_,_,_,_,_,_,_,_)=>by kernel_rfl) Ak
 exact⟨h0,(B7 (B7 Ak hlptable_0) hlptable_1)⟩) fun(_,_,_,_,_,_,_,_,_,_,_,_,_,_,_,_,_,_,_,_,_,_)=>by kernel_rfl
def H8:Awf→Option K9:=fun x=>R9 ((x.1.length+3)) x
theorem A8l:FM 160 Ui Ua (H8):=FnLn.fin (ι:=Nat) (sg:=Ui) (so:=Ua) 0 (F:=fun k=>R9 k) (fun k=>Azf k) fun x _ _ hx=>⟨(x.1.length+3),hx⟩
def Wx:Sig:=⟨2,[],[(0,.ptr 0 0),(1,.ptr 1 0)],[(0,.cells [.sl .tok false,.int .i64,.bool,.int .i64]),(1,.cells [.int .i64,.str,.str,.sl .col true,.sl .str false,.sl .expr true,.sl .exprs true,.sl .set true,.bool,.int .i64,.int .i64,.int .i64,.str,.str,.sl .expr false,.sl .str true,.sl .bool true,.int .i64])],2,2,0,[],[]⟩
def X5:Sig:=⟨0,[],[],[(0,.cells [.sl .tok false,.int .i64,.bool,.int .i64]),(1,.cells [.int .i64,.str,.str,.sl .col true,.sl .str false,.sl .expr true,.sl .exprs true,.sl .set true,.bool,.int .i64,.int .i64,.int .i64,.str,.str,.sl .expr false,.sl .str true,.sl .bool true,.int .i64])],2,2,0,[],[]⟩
abbrev Aoo:=List Tok×Int×Bool×Int×Int×Str×Str×List Col×List Str×List Xpr×List (List Xpr)×List SetE×Bool×Int×Int×Int×Str×Str×List Xpr×List Str×List Bool×Int
abbrev Al2:=List Tok×Int×Bool×Int×Int×Str×Str×List Col×List Str×List Xpr×List (List Xpr)×List SetE×Bool×Int×Int×Int×Str×Str×List Xpr×List Str×List Bool×Int
def Ax9(R:Type):Px R:=pxO [(117,Aj D8 D6 Ao),(160,Aj Ui Ua H8),(119,Aj Ej Ea Ai),(120,Aj F4 F1 As),(161,Aj Ov Nw Dt)] [] [] []
def X8(x:Aoo):Option (Al2):=match x with
 |(l,n,b,p,sk,sn,so,sc,ss,sl,sr,st,sh,wk,vk,vn,vs,wn,wl,sd,se,sm) =>
 (Ao ([84,65,66,76,69],l,n,b,p)).bind fun(x,x1,x2,x3,x4) =>
  cond (x) (
  (H8 (x1,x2,x3,x4,sk,sn,so,sc,ss,sl,sr,st,sh,wk,vk,vn,vs,wn,wl,sd,se,sm)).bind fun(x5,x6,x7,x8,x9,x10,x11,x12,x13,x14,x15,x16,x17,x18,x19,x20,x21,x22,x23,x24,x25,x26) =>
   some (x5,x6,x7,x8,x9,x10,x11,x12,x13,x14,x15,x16,x17,x18,x19,x20,x21,x22,x23,x24,x25,x26)) (
  (Ai ([[73,78,68,69,88]],x1,x2,x3,x4)).bind fun(x27,x28,x29,x30) =>
   (As (x27,x28,x29,x30)).bind fun(x31,x32,x33,x34,x35) =>
   (Ai ([[79,78]],x32,x33,x34,x35)).bind fun(x36,x37,x38,x39) =>
    (As (x36,x37,x38,x39)).bind fun(x40,x41,x42,x43,x44) =>
    (Dt (x41,x42,x43,x44)).bind fun(x45,x46,x47,x48,x49) =>
     some (x46,x47,x48,x49,3,x31,x40,sc,x45,sl,sr,st,sh,wk,vk,vn,vs,wn,wl,sd,se,sm))
theorem Asu:FM 118 Wx X5 (X8):=fRL (px:=Ax9 _) (n:=0) Tryz.func118 rfl (fun _ H=>⟨lv H (l1 H E6 (l1 H A8l (l1 H Fx (l1 H Ir (l1 H Amn Af))))) Ab Aa,Ak⟩) fun(_,_,_,_,_,_,_,_,_,_,_,_,_,_,_,_,_,_,_,_,_,_)=>by kernel_rfl
def Nt:Aoo→Option Al2:=fun x=>X8 x
theorem Ax2:FM 118 Wx X5 (Nt):=Asu
def O1:Sig:=⟨2,[],[(0,.ptr 0 0),(1,.ptr 1 0)],[(0,.cells [.sl .tok false,.int .i64,.bool,.int .i64]),(1,.cells [.int .i64,.str,.str,.sl .col true,.sl .str false,.sl .expr true,.sl .exprs true,.sl .set true,.bool,.int .i64,.int .i64,.int .i64,.str,.str,.sl .expr false,.sl .str true,.sl .bool true,.int .i64])],2,2,0,[],[]⟩
def Ot:Sig:=⟨0,[],[],[(0,.cells [.sl .tok false,.int .i64,.bool,.int .i64]),(1,.cells [.int .i64,.str,.str,.sl .col true,.sl .str false,.sl .expr true,.sl .exprs true,.sl .set true,.bool,.int .i64,.int .i64,.int .i64,.str,.str,.sl .expr false,.sl .str true,.sl .bool true,.int .i64])],2,2,0,[],[]⟩
abbrev Avw:=List Tok×Int×Bool×Int×Int×Str×Str×List Col×List Str×List Xpr×List (List Xpr)×List SetE×Bool×Int×Int×Int×Str×Str×List Xpr×List Str×List Bool×Int
abbrev Avu:=List Tok×Int×Bool×Int×Int×Str×Str×List Col×List Str×List Xpr×List (List Xpr)×List SetE×Bool×Int×Int×Int×Str×Str×List Xpr×List Str×List Bool×Int
def A6g(R:Type):Px R:=pxO [(117,Aj D8 D6 Ao),(90,Aj Cu Cw Ff)] [] [] []
def Mo(x:Avw):Option (Avu):=match x with
 |(l,n,b,p,sk,sn,so,sc,ss,sl,sr,st,sh,wk,vk,vn,vs,wn,wl,sd,se,sm) =>
 let j:=fun(p2:Bool) (q4:List Tok) (q5:Int) (q6:Bool) (q7:Int) =>
  cond (p2) (
  (Ff (q4,q5,q6,q7)).bind fun(x5,x6,x7,x8,x9) =>
   some (x6,x7,x8,x9,sk,sn,so,sc,ss,sl,sr,st,true,x5.kind,x5.v.kind,x5.v.n,x5.v.s,x5.name,x5.l,sd,se,sm)) (
  some (q4,q5,q6,q7,sk,sn,so,sc,ss,sl,sr,st,sh,wk,vk,vn,vs,wn,wl,sd,se,sm))
 cond (!b) (
  (Ao ([87,72,69,82,69],l,n,b,p)).bind fun(x,x1,x2,x3,x4) =>
  j x x1 x2 x3 x4) (
  j false l n b p)
theorem Axv:FM 125 O1 Ot (Mo):=fRL (px:=A6g _) (n:=0) Tryz.func125 rfl (fun _ H=>⟨lv H (l1 H E6 (l1 H Akh Af)) Ab Aa,Ak⟩) fun(_,_,_,_,_,_,_,_,_,_,_,_,_,_,_,_,_,_,_,_,_,_)=>by kernel_rfl
def Cg:Avw→Option Avu:=fun x=>Mo x
theorem Ade:FM 125 O1 Ot (Cg):=Axv
def Pt:Sig:=⟨2,[],[(0,.ptr 0 0),(1,.ptr 1 0)],[(0,.cells [.sl .tok false,.int .i64,.bool,.int .i64]),(1,.cells [.int .i64,.str,.str,.sl .col true,.sl .str false,.sl .expr true,.sl .exprs true,.sl .set true,.bool,.int .i64,.int .i64,.int .i64,.str,.str,.sl .expr false,.sl .str true,.sl .bool true,.int .i64])],2,2,0,[],[]⟩
def P0:Sig:=⟨0,[],[],[(0,.cells [.sl .tok false,.int .i64,.bool,.int .i64]),(1,.cells [.int .i64,.str,.str,.sl .col true,.sl .str false,.sl .expr true,.sl .exprs true,.sl .set true,.bool,.int .i64,.int .i64,.int .i64,.str,.str,.sl .expr false,.sl .str true,.sl .bool true,.int .i64])],2,2,0,[],[]⟩
abbrev Alp:=List Tok×Int×Bool×Int×Int×Str×Str×List Col×List Str×List Xpr×List (List Xpr)×List SetE×Bool×Int×Int×Int×Str×Str×List Xpr×List Str×List Bool×Int
abbrev Iy:=List Tok×Int×Bool×Int×Int×Str×Str×List Col×List Str×List Xpr×List (List Xpr)×List SetE×Bool×Int×Int×Int×Str×Str×List Xpr×List Str×List Bool×Int
def Y2:Sig:=⟨19,[],[(0,.ptr 0 0),(1,.fn 163 [.ptr 2 0,.ptr 3 0])],[(0,.cells [.sl .tok false,.int .i64,.bool,.int .i64]),(1,.cells [.int .i64,.str,.str,.sl .col true,.sl .str false,.sl .expr true,.sl .exprs true,.sl .set true,.bool,.int .i64,.int .i64,.int .i64,.str,.str,.sl .expr false,.sl .str true,.sl .bool true,.int .i64]),(2,.fx [.ptr 0 0]),(3,.fx [.ptr 1 0])],80,80,400,[],[]⟩
abbrev Dr:=List Tok×Int×Bool×Int×Int×Str×Str×List Col×List Str×List Xpr×List (List Xpr)×List SetE×Bool×Int×Int×Int×Str×Str×List Xpr×List Str×List Bool×Int
def Ds{R:Type}(rec:Dr→Option R) (kx:Ex→Dr→Option R) (v:Dr):Option R:=match v with
 |(w,w1,w2,w3,w4,w5,w6,w7,w8,w9,w10,w11,w12,w13,w14,w15,w16,w17,w18,w19,w20,w21) =>
 cond (!w2) (
  (Ao ([44],w,w1,w2,w3)).bind fun(x23,x24,x25,x26,x27) =>
  cond (x23) (
   (As (x24,x25,x26,x27)).bind fun(x28,x29,x30,x31,x32) =>
   (Ai ([[61]],x29,x30,x31,x32)).bind fun(x33,x34,x35,x36) =>
    (Ff (x33,x34,x35,x36)).bind fun(x37,x38,x39,x40,x41) =>
    chk (decide (w11.length+1≤Am)) (
     rec (x38,x39,x40,x41,w4,w5,w6,w7,w8,w9,w10,(w11++[(SetE.mk x28 (Kj x37))]),w12,w13,w14,w15,w16,w17,w18,w19,w20,w21))) (
   kx (.exit 0) (x24,x25,x26,x27,w4,w5,w6,w7,w8,w9,w10,w11,w12,w13,w14,w15,w16,w17,w18,w19,w20,w21))) (
  kx (.exit 0) (w,w1,w2,w3,w4,w5,w6,w7,w8,w9,w10,w11,w12,w13,w14,w15,w16,w17,w18,w19,w20,w21))
def R3(R:Type) (_k:Nat):Px R:=pxO [(120,Aj F4 F1 As),(119,Aj Ej Ea Ai),(90,Aj Cu Cw Ff)] [] [] []
noncomputable def Y7 (R:Type) (k:Nat):Px R:=pxO [(117,Aj D8 D6 Ao),(163,Az 120 600 (R3 R k) Tryz.f163)] [] [(1,Ay k Y2 (Ds))] []
noncomputable def Agw (R:Type) (k:Nat):Px R:=pxO [(119,Aj Ej Ea Ai),(125,Aj O1 Ot Cg),(121,Az 80 400 (Y7 R k) Tryz.f121)] [] [] [(120,D4 F4 F1 As)]
def Pz(k:Nat) (x:Alp):Option (Iy):=match x with
 |(l,n,b,p,_,_,so,sc,ss,sl,sr,st,sh,wk,vk,vn,vs,wn,wl,sd,se,sm) =>
 (As (l,n,b,p)).bind fun(x,x1,x2,x3,x4) =>
  (Ai ([[83,69,84]],x1,x2,x3,x4)).bind fun(x5,x6,x7,x8) =>
  (As (x5,x6,x7,x8)).bind fun(x9,x10,x11,x12,x13) =>
   (Ai ([[61]],x10,x11,x12,x13)).bind fun(x14,x15,x16,x17) =>
   (Ff (x14,x15,x16,x17)).bind fun(x18,x19,x20,x21,x22) =>
    chk (decide (st.length+1≤Am)) (
    Al (fun rec=>Ds rec (fun e vz=>match vz with|(v,v1,v2,v3,v4,v5,v6,v7,v8,v9,v10,v11,v12,v13,v14,v15,v16,v17,v18,v19,v20,v21)=>match e with
     |.exit 0 =>
     (Cg (v,v1,v2,v3,v4,v5,v6,v7,v8,v9,v10,v11,v12,v13,v14,v15,v16,v17,v18,v19,v20,v21)).bind fun(x42,x43,x44,x45,x46,x47,x48,x49,x50,x51,x52,x53,x54,x55,x56,x57,x58,x59,x60,x61,x62,x63) =>
      some (x42,x43,x44,x45,x46,x47,x48,x49,x50,x51,x52,x53,x54,x55,x56,x57,x58,x59,x60,x61,x62,x63)
     |_=>none)) k (x19,x20,x21,x22,6,x,so,sc,ss,sl,sr,(st++[(SetE.mk x9 (Kj x18))]),sh,wk,vk,vn,vs,wn,wl,sd,se,sm))
theorem Auh(k:Nat):FM 124 Pt P0 (Pz k):=fRL (px:=Agw _ k) (n:=0) Tryz.func124 rfl (fun cx H=>by
 have h2:Lv cx (R3 (Iy) k):=lv H (l1 H Ir (l1 H Fx (l1 H Akh Af))) Ab Aa
 have h1:Lv cx (Y7 (Iy) k):=lv H (l1 H E6 (Aq (cR H h2 Tryz.func163 rfl (n:=0) (Ak)) Af)) Ab Aa
 have hlpupdate_0:=lO H h1 (b:=lp Tryz.f121 0) (k:=k) (n:=0) (s:=Y2) (step:=Ds) (fun _ _ _ (_,_,_,_,_,_,_,_,_,_,_,_,_,_,_,_,_,_,_,_,_,_)=>by kernel_rfl) Ak
 have h0:Lv cx (Agw (Iy) k):=lv H (l1 H Fx (l1 H Ade (Aq (cR H h1 Tryz.func121 rfl (n:=1) ((B7 Ak hlpupdate_0))) Af))) Ab (w1 H Ir Aa)
 exact⟨h0,Ak⟩) fun(_,_,_,_,_,_,_,_,_,_,_,_,_,_,_,_,_,_,_,_,_,_)=>by kernel_rfl
def Iw:Alp→Option Iy:=fun x=>Pz ((x.1.length+3)) x
theorem A0f:FM 124 Pt P0 (Iw):=FnLn.fin (ι:=Nat) (sg:=Pt) (so:=P0) 0 (F:=fun k=>Pz k) (fun k=>Auh k) fun x _ _ hx=>⟨(x.1.length+3),hx⟩
end Go.Proofs.YthndhaolemgbdaaGreatDoor
namespace Go.Proofs.YthndhaolemgbdaaGreatDoor
open Go.Ax
def My:Sig:=⟨2,[],[(0,.ptr 0 0),(1,.ptr 1 0)],[(0,.cells [.sl .tok false,.int .i64,.bool,.int .i64]),(1,.cells [.int .i64,.str,.str,.sl .col true,.sl .str false,.sl .expr true,.sl .exprs true,.sl .set true,.bool,.int .i64,.int .i64,.int .i64,.str,.str,.sl .expr false,.sl .str true,.sl .bool true,.int .i64])],2,2,0,[],[]⟩
def Mn:Sig:=⟨0,[],[],[(0,.cells [.sl .tok false,.int .i64,.bool,.int .i64]),(1,.cells [.int .i64,.str,.str,.sl .col true,.sl .str false,.sl .expr true,.sl .exprs true,.sl .set true,.bool,.int .i64,.int .i64,.int .i64,.str,.str,.sl .expr false,.sl .str true,.sl .bool true,.int .i64])],2,2,0,[],[]⟩
abbrev Aiw:=List Tok×Int×Bool×Int×Int×Str×Str×List Col×List Str×List Xpr×List (List Xpr)×List SetE×Bool×Int×Int×Int×Str×Str×List Xpr×List Str×List Bool×Int
abbrev Ek:=List Tok×Int×Bool×Int×Int×Str×Str×List Col×List Str×List Xpr×List (List Xpr)×List SetE×Bool×Int×Int×Int×Str×Str×List Xpr×List Str×List Bool×Int
def We:Sig:=⟨19,[],[(0,.ptr 0 0),(1,.fn 164 [.ptr 3 0,.ptr 2 0])],[(0,.cells [.sl .tok false,.int .i64,.bool,.int .i64]),(1,.cells [.int .i64,.str,.str,.sl .col true,.sl .str false,.sl .expr true,.sl .exprs true,.sl .set true,.bool,.int .i64,.int .i64,.int .i64,.str,.str,.sl .expr false,.sl .str true,.sl .bool true,.int .i64]),(2,.fx [.ptr 0 0]),(3,.fx [.ptr 1 0])],80,80,400,[],[]⟩
abbrev Ci:=List Tok×Int×Bool×Int×Int×Str×Str×List Col×List Str×List Xpr×List (List Xpr)×List SetE×Bool×Int×Int×Int×Str×Str×List Xpr×List Str×List Bool×Int
def Bt{R:Type}(rec:Ci→Option R) (kx:Ex→Ci→Option R) (v:Ci):Option R:=match v with
 |(w,w1,w2,w3,w4,w5,w6,w7,w8,w9,w10,w11,w12,w13,w14,w15,w16,w17,w18,w19,w20,w21) =>
 cond (!w2) (
  (Ao ([44],w,w1,w2,w3)).bind fun(x90,x91,x92,x93,x94) =>
  cond (x90) (
   (As (x91,x92,x93,x94)).bind fun(x95,x96,x97,x98,x99) =>
   chk (decide (w19.length+1≤Am)) (
    cond (!x98) (
    (Ao ([68,69,83,67],x96,x97,x98,x99)).bind fun(x100,x101,x102,x103,x104) =>
     cond (!x103) (
     cond (!x100) (
      (Ao ([65,83,67],x101,x102,x103,x104)).bind fun(_,x121,x122,x123,x124) =>
      chk (decide (w20.length+1≤Am)) (
       rec (x121,x122,x123,x124,w4,w5,w6,w7,w8,w9,w10,w11,w12,w13,w14,w15,w16,w17,w18,(w19++[x95]),(w20++[x100]),w21))) (
      chk (decide (w20.length+1≤Am)) (
      rec (x101,x102,x103,x104,w4,w5,w6,w7,w8,w9,w10,w11,w12,w13,w14,w15,w16,w17,w18,(w19++[x95]),(w20++[x100]),w21)))) (
     chk (decide (w20.length+1≤Am)) (
      rec (x101,x102,x103,x104,w4,w5,w6,w7,w8,w9,w10,w11,w12,w13,w14,w15,w16,w17,w18,(w19++[x95]),(w20++[x100]),w21)))) (
    cond (!x98) (
     (Ao ([65,83,67],x96,x97,x98,x99)).bind fun(_,x131,x132,x133,x134) =>
     chk (decide (w20.length+1≤Am)) (
      rec (x131,x132,x133,x134,w4,w5,w6,w7,w8,w9,w10,w11,w12,w13,w14,w15,w16,w17,w18,(w19++[x95]),(w20++[false]),w21))) (
     chk (decide (w20.length+1≤Am)) (
     rec (x96,x97,x98,x99,w4,w5,w6,w7,w8,w9,w10,w11,w12,w13,w14,w15,w16,w17,w18,(w19++[x95]),(w20++[false]),w21)))))) (
   kx (.exit 0) (x91,x92,x93,x94,w4,w5,w6,w7,w8,w9,w10,w11,w12,w13,w14,w15,w16,w17,w18,w19,w20,w21))) (
  kx (.exit 0) (w,w1,w2,w3,w4,w5,w6,w7,w8,w9,w10,w11,w12,w13,w14,w15,w16,w17,w18,w19,w20,w21))
def Rh(R:Type) (_k:Nat):Px R:=pxO [(117,Aj D8 D6 Ao)] [] [] [(120,D4 F4 F1 As)]
noncomputable def Wj (R:Type) (k:Nat):Px R:=pxO [(117,Aj D8 D6 Ao),(164,Az 120 600 (Rh R k) Tryz.f164)] [] [(1,Ay k We (Bt))] []
noncomputable def Aef (R:Type) (k:Nat):Px R:=pxO [(117,Aj D8 D6 Ao),(119,Aj Ej Ea Ai),(125,Aj O1 Ot Cg),(158,Aj Jz Jw Ee),(127,Aj H1 H2 Cj),(121,Az 80 400 (Wj R k) Tryz.f121)] [] [] [(123,D4 O5 Og C4),(120,D4 F4 F1 As),(159,D4 Lh Lb Cf)]
def Ng(k:Nat) (x:Aiw):Option (Ek):=match x with
 |(l,n,b,p,_,_,so,sc,ss,sl,sr,st,sh,wk,vk,vn,vs,wn,wl,sd,se,_) =>
 let j3:=fun(q:List Tok) (q1:Int) (q2:Bool) (q3:Int) (q4:List Xpr) =>
  (Ai ([[70,82,79,77]],q,q1,q2,q3)).bind fun(x10,x11,x12,x13) =>
  (As (x10,x11,x12,x13)).bind fun(x14,x15,x16,x17,x18) =>
   (Cg (x15,x16,x17,x18,8,x14,so,sc,ss,q4,sr,st,sh,wk,vk,vn,vs,wn,wl,sd,se,(-1))).bind fun(x19,x20,x21,x22,x23,x24,x25,x26,x27,x28,x29,x30,x31,x32,x33,x34,x35,x36,x37,x38,x39,x40) =>
   let j2:=fun(q161:List Tok) (q162:Int) (q163:Bool) (q164:Int) (q165:Int) (q166:Str) (q167:Str) (q168:List Col) (q169:List Str) (q170:List Xpr) (q171:List (List Xpr)) (q172:List SetE) (q173:Bool) (q174:Int) (q175:Int) (q176:Int) (q177:Str) (q178:Str) (q179:List Xpr) (q180:List Str) (q181:List Bool) (q182:Int) =>
    cond (!q163) (
    (Ao ([76,73,77,73,84],q161,q162,q163,q164)).bind fun(x179,x180,x181,x182,x183) =>
     cond (x179) (
     (Ee (x180,x181,x182,x183)).bind fun(x208,x209,x210,x211,x212) =>
      cond (!decide (x208.kind=3)) (
      (Cj (x209,x210,x211,x212)).bind fun(x213,x214,x215,x216) =>
       (Cf (x213,x214,x215,x216)).bind fun(x222,x223,x224,x225,x226) =>
       some (x223,x224,x225,x226,q165,q166,q167,q168,q169,q170,q171,q172,q173,q174,q175,q176,q177,q178,q179,q180,q181,x222.n)) (
      (Cf (x209,x210,x211,x212)).bind fun(x227,x228,x229,x230,x231) =>
       some (x228,x229,x230,x231,q165,q166,q167,q168,q169,q170,q171,q172,q173,q174,q175,q176,q177,q178,q179,q180,q181,x227.n))) (
     some (x180,x181,x182,x183,q165,q166,q167,q168,q169,q170,q171,q172,q173,q174,q175,q176,q177,q178,q179,q180,q181,q182))) (
    some (q161,q162,q163,q164,q165,q166,q167,q168,q169,q170,q171,q172,q173,q174,q175,q176,q177,q178,q179,q180,q181,q182))
   cond (!x21) (
    (Ao ([79,82,68,69,82],x19,x20,x21,x22)).bind fun(x41,x42,x43,x44,x45) =>
    cond (x41) (
     (Ai ([[66,89]],x42,x43,x44,x45)).bind fun(x135,x136,x137,x138) =>
     (As (x135,x136,x137,x138)).bind fun(x139,x140,x141,x142,x143) =>
      let j1:=fun(q156:List Tok) (q157:Int) (q158:Bool) (q159:Int) (q160:List Bool) =>
      Al (fun rec=>Bt rec (fun e vz=>match vz with|(v22,v23,v24,v25,v26,v27,v28,v29,v30,v31,v32,v33,v34,v35,v36,v37,v38,v39,v40,v41,v42,v43)=>match e with
       |.exit 0 =>
       j2 v22 v23 v24 v25 v26 v27 v28 v29 v30 v31 v32 v33 v34 v35 v36 v37 v38 v39 v40 v41 v42 v43
       |_=>none)) k (q156,q157,q158,q159,x23,x24,x25,x26,x27,x28,x29,x30,x31,x32,x33,x34,x35,x36,x37,(x38++[x139]),q160,x40)
      chk (decide (x38.length+1≤Am)) (
      cond (!x142) (
       (Ao ([68,69,83,67],x140,x141,x142,x143)).bind fun(x144,x145,x146,x147,x148) =>
       cond (!x147) (
        cond (!x144) (
        (Ao ([65,83,67],x145,x146,x147,x148)).bind fun(_,x165,x166,x167,x168) =>
         chk (decide (x39.length+1≤Am)) (
         j1 x165 x166 x167 x168 (x39++[x144]))) (
        chk (decide (x39.length+1≤Am)) (
         j1 x145 x146 x147 x148 (x39++[x144])))) (
        chk (decide (x39.length+1≤Am)) (
        j1 x145 x146 x147 x148 (x39++[x144])))) (
       cond (!x142) (
       (Ao ([65,83,67],x140,x141,x142,x143)).bind fun(_,x175,x176,x177,x178) =>
        chk (decide (x39.length+1≤Am)) (
        j1 x175 x176 x177 x178 (x39++[false]))) (
       chk (decide (x39.length+1≤Am)) (
        j1 x140 x141 x142 x143 (x39++[false])))))) (
     j2 x42 x43 x44 x45 x23 x24 x25 x26 x27 x28 x29 x30 x31 x32 x33 x34 x35 x36 x37 x38 x39 x40)) (
    j2 x19 x20 x21 x22 x23 x24 x25 x26 x27 x28 x29 x30 x31 x32 x33 x34 x35 x36 x37 x38 x39 x40)
 (Ao ([42],l,n,b,p)).bind fun(x,x1,x2,x3,x4) =>
  cond (!x) (
  (C4 (x1,x2,x3,x4)).bind fun(x5,x6,x7,x8,x9) =>
   j3 x6 x7 x8 x9 x5) (
  j3 x1 x2 x3 x4 sl)
theorem Ap8(k:Nat):FM 126 My Mn (Ng k):=fRL (px:=Aef _ k) (n:=0) Tryz.func126 rfl (fun cx H=>by
 have h2:Lv cx (Rh (Ek) k):=lv H (l1 H E6 Af) Ab (w1 H Ir Aa)
 have h1:Lv cx (Wj (Ek) k):=lv H (l1 H E6 (Aq (cR H h2 Tryz.func164 rfl (n:=0) (Ak)) Af)) Ab Aa
 have hlpselects_0:=lO H h1 (b:=lp Tryz.f121 0) (k:=k) (n:=0) (s:=We) (step:=Bt) (fun _ _ _ (_,_,_,_,_,_,_,_,_,_,_,_,_,_,_,_,_,_,_,_,_,_)=>by kernel_rfl) Ak
 have h0:Lv cx (Aef (Ek) k):=lv H (l1 H E6 (l1 H Fx (l1 H Ade (l1 H Nm (l1 H Kn (Aq (cR H h1 Tryz.func121 rfl (n:=1) ((B7 Ak hlpselects_0))) Af)))))) Ab (w1 H Aly (w1 H Ir (w1 H Sf Aa)))
 exact⟨h0,Ak⟩) fun(_,_,_,_,_,_,_,_,_,_,_,_,_,_,_,_,_,_,_,_,_,_)=>by kernel_rfl
def Hl:Aiw→Option Ek:=fun x=>Ng ((x.1.length+3)) x
theorem Avm:FM 126 My Mn (Hl):=FnLn.fin (ι:=Nat) (sg:=My) (so:=Mn) 0 (F:=fun k=>Ng k) (fun k=>Ap8 k) fun x _ _ hx=>⟨(x.1.length+3),hx⟩
def Z1:Sig:=⟨1,[],[(0,.ptr 0 0)],[(0,.cells [.sl .tok false,.int .i64,.bool,.int .i64])],1,1,0,[],[]⟩
def Aa0:Sig:=⟨1,[(0,.sv .stmt)],[],[(0,.cells [.sl .tok false,.int .i64,.bool,.int .i64])],1,1,0,[],[]⟩
abbrev A3e:=List Tok×Int×Bool×Int
abbrev Ki:=Stm×List Tok×Int×Bool×Int
def Ag6:Sig:=⟨19,[],[(0,.ptr 0 0),(1,.fn 122 [.ptr 1 0,.ptr 3 0])],[(0,.cells [.sl .tok false,.int .i64,.bool,.int .i64]),(1,.fx [.ptr 0 0]),(2,.one (.sv .stmt)),(3,.cells [.int .i64,.str,.str,.sl .col true,.sl .str true,.sl .expr true,.sl .exprs true,.sl .set true,.bool,.int .i64,.int .i64,.int .i64,.str,.str,.sl .expr true,.sl .str true,.sl .bool true,.int .i64])],80,80,400,[],[]⟩
abbrev Gj:=List Tok×Int×Bool×Int×Stm×Int×Str×Str×List Col×List Str×List Xpr×List (List Xpr)×List SetE×Bool×Int×Int×Int×Str×Str×List Xpr×List Str×List Bool×Int
def Fv{R:Type}(rec:Gj→Option R) (kx:Ex→Gj→Option R) (v:Gj):Option R:=match v with
 |(w,w1,w2,w3,w4,w5,w6,w7,w8,w9,w10,w11,w12,w13,w14,w15,w16,w17,w18,w19,w20,w21,w22) =>
 cond (!w2) (
  (Ao ([44],w,w1,w2,w3)).bind fun(x87,x88,x89,x90,x91) =>
  cond (x87) (
   (Ai ([[40]],x88,x89,x90,x91)).bind fun(x92,x93,x94,x95) =>
   (C4 (x92,x93,x94,x95)).bind fun(x96,x97,x98,x99,x100) =>
    chk (decide (w11.length+1≤Am)) (
    (Ai ([[41]],x97,x98,x99,x100)).bind fun(x101,x102,x103,x104) =>
     rec (x101,x102,x103,x104,w4,w5,w6,w7,w8,w9,w10,(w11++[x96]),w12,w13,w14,w15,w16,w17,w18,w19,w20,w21,w22))) (
   kx (.exit 0) (x88,x89,x90,x91,w4,w5,w6,w7,w8,w9,w10,w11,w12,w13,w14,w15,w16,w17,w18,w19,w20,w21,w22))) (
  kx (.exit 0) (w,w1,w2,w3,w4,w5,w6,w7,w8,w9,w10,w11,w12,w13,w14,w15,w16,w17,w18,w19,w20,w21,w22))
def Aau(R:Type) (_k:Nat):Px R:=pxO [(119,Aj Ej Ea Ai)] [] [] [(123,D4 O5 Og C4)]
noncomputable def Ajd (R:Type) (k:Nat):Px R:=pxO [(117,Aj D8 D6 Ao),(122,Az 120 600 (Aau R k) Tryz.f122)] [] [(1,Ay k Ag6 (Fv))] []
noncomputable def Au2 (R:Type) (k:Nat):Px R:=pxO [(117,Aj D8 D6 Ao),(118,Aj Wx X5 Nt),(119,Aj Ej Ea Ai),(120,Aj F4 F1 As),(124,Aj Pt P0 Iw),(125,Aj O1 Ot Cg),(126,Aj My Mn Hl),(127,Aj H1 H2 Cj),(121,Az 80 400 (Ajd R k) Tryz.f121)] [] [] []
def W4(k:Nat) (x:A3e):Option (Ki):=match x with
 |(l,n,b,p) =>
 (Ao ([67,82,69,65,84,69],l,n,b,p)).bind fun(x,x1,x2,x3,x4) =>
  cond (x) (
  (Nt (x1,x2,x3,x4,0,[],[],[],[],[],[],[],false,0,0,0,[],[],[],[],[],0)).bind fun(x5,x6,x7,x8,x9,x10,x11,x12,x13,x14,x15,x16,x17,x18,x19,x20,x21,x22,x23,x24,x25,x26) =>
   cond (!x7) (
   (Ao ([59],x5,x6,x7,x8)).bind fun(_,x200,x201,x202,x203) =>
    some ((Stm.mk x9 x10 x11 x12 x13 x14 x15 x16 x17 (Xpr.mk x18 ⟨x19,x20,x21⟩ x22 x23) x24 x25 x26),x200,x201,x202,x203)) (
   some ((Stm.mk x9 x10 x11 x12 x13 x14 x15 x16 x17 (Xpr.mk x18 ⟨x19,x20,x21⟩ x22 x23) x24 x25 x26),x5,x6,x7,x8))) (
  (Ao ([68,82,79,80],x1,x2,x3,x4)).bind fun(x27,x28,x29,x30,x31) =>
   cond (x27) (
   (Ao ([84,65,66,76,69],x28,x29,x30,x31)).bind fun(x32,x33,x34,x35,x36) =>
    cond (!x32) (
    (Ai ([[73,78,68,69,88]],x33,x34,x35,x36)).bind fun(x37,x38,x39,x40) =>
     (As (x37,x38,x39,x40)).bind fun(x46,x47,x48,x49,x50) =>
     cond (!x49) (
      (Ao ([59],x47,x48,x49,x50)).bind fun(_,x205,x206,x207,x208) =>
      some ((Stm.mk 4 x46 [] [] [] [] [] [] false (Xpr.mk 0 ⟨0,0,[]⟩ [] []) [] [] 0),x205,x206,x207,x208)) (
      some ((Stm.mk 4 x46 [] [] [] [] [] [] false (Xpr.mk 0 ⟨0,0,[]⟩ [] []) [] [] 0),x47,x48,x49,x50))) (
    (As (x33,x34,x35,x36)).bind fun(x51,x52,x53,x54,x55) =>
     cond (!x54) (
     (Ao ([59],x52,x53,x54,x55)).bind fun(_,x210,x211,x212,x213) =>
      some ((Stm.mk 2 x51 [] [] [] [] [] [] false (Xpr.mk 0 ⟨0,0,[]⟩ [] []) [] [] 0),x210,x211,x212,x213)) (
     some ((Stm.mk 2 x51 [] [] [] [] [] [] false (Xpr.mk 0 ⟨0,0,[]⟩ [] []) [] [] 0),x52,x53,x54,x55)))) (
   (Ao ([73,78,83,69,82,84],x28,x29,x30,x31)).bind fun(x56,x57,x58,x59,x60) =>
    cond (x56) (
    (Ai ([[73,78,84,79]],x57,x58,x59,x60)).bind fun(x61,x62,x63,x64) =>
     (As (x61,x62,x63,x64)).bind fun(x65,x66,x67,x68,x69) =>
     (Ai ([[86,65,76,85,69,83]],x66,x67,x68,x69)).bind fun(x70,x71,x72,x73) =>
      (Ai ([[40]],x70,x71,x72,x73)).bind fun(x74,x75,x76,x77) =>
      (C4 (x74,x75,x76,x77)).bind fun(x78,x79,x80,x81,x82) =>
       (Ai ([[41]],x79,x80,x81,x82)).bind fun(x83,x84,x85,x86) =>
       Al (fun rec=>Fv rec (fun e vz=>match vz with|(v,v1,v2,v3,_,v5,v6,v7,v8,v9,v10,v11,v12,v13,v14,v15,v16,v17,v18,v19,v20,v21,v22)=>match e with
        |.exit 0 =>
        cond (!v2) (
         (Ao ([59],v,v1,v2,v3)).bind fun(_,x215,x216,x217,x218) =>
         some ((Stm.mk v5 v6 v7 v8 v9 v10 v11 v12 v13 (Xpr.mk v14 ⟨v15,v16,v17⟩ v18 v19) v20 v21 v22),x215,x216,x217,x218)) (
         some ((Stm.mk v5 v6 v7 v8 v9 v10 v11 v12 v13 (Xpr.mk v14 ⟨v15,v16,v17⟩ v18 v19) v20 v21 v22),v,v1,v2,v3))
        |_=>none)) k (x83,x84,x85,x86,(Stm.mk 0 [] [] [] [] [] [] [] false (Xpr.mk 0 ⟨0,0,[]⟩ [] []) [] [] 0),5,x65,[],[],[],[],[x78],[],false,0,0,0,[],[],[],[],[],0)) (
    (Ao ([85,80,68,65,84,69],x57,x58,x59,x60)).bind fun(x105,x106,x107,x108,x109) =>
     cond (x105) (
     (Iw (x106,x107,x108,x109,0,[],[],[],[],[],[],[],false,0,0,0,[],[],[],[],[],0)).bind fun(x110,x111,x112,x113,x114,x115,x116,x117,x118,x119,x120,x121,x122,x123,x124,x125,x126,x127,x128,x129,x130,x131) =>
      cond (!x112) (
      (Ao ([59],x110,x111,x112,x113)).bind fun(_,x220,x221,x222,x223) =>
       some ((Stm.mk x114 x115 x116 x117 x118 x119 x120 x121 x122 (Xpr.mk x123 ⟨x124,x125,x126⟩ x127 x128) x129 x130 x131),x220,x221,x222,x223)) (
      some ((Stm.mk x114 x115 x116 x117 x118 x119 x120 x121 x122 (Xpr.mk x123 ⟨x124,x125,x126⟩ x127 x128) x129 x130 x131),x110,x111,x112,x113))) (
     (Ao ([68,69,76,69,84,69],x106,x107,x108,x109)).bind fun(x132,x133,x134,x135,x136) =>
      cond (x132) (
      (Ai ([[70,82,79,77]],x133,x134,x135,x136)).bind fun(x137,x138,x139,x140) =>
       (As (x137,x138,x139,x140)).bind fun(x141,x142,x143,x144,x145) =>
       (Cg (x142,x143,x144,x145,7,x141,[],[],[],[],[],[],false,0,0,0,[],[],[],[],[],0)).bind fun(x146,x147,x148,x149,x150,x151,x152,x153,x154,x155,x156,x157,x158,x159,x160,x161,x162,x163,x164,x165,x166,x167) =>
        cond (!x148) (
        (Ao ([59],x146,x147,x148,x149)).bind fun(_,x225,x226,x227,x228) =>
         some ((Stm.mk x150 x151 x152 x153 x154 x155 x156 x157 x158 (Xpr.mk x159 ⟨x160,x161,x162⟩ x163 x164) x165 x166 x167),x225,x226,x227,x228)) (
        some ((Stm.mk x150 x151 x152 x153 x154 x155 x156 x157 x158 (Xpr.mk x159 ⟨x160,x161,x162⟩ x163 x164) x165 x166 x167),x146,x147,x148,x149))) (
      (Ao ([83,69,76,69,67,84],x133,x134,x135,x136)).bind fun(x168,x169,x170,x171,x172) =>
       cond (x168) (
       (Hl (x169,x170,x171,x172,0,[],[],[],[],[],[],[],false,0,0,0,[],[],[],[],[],0)).bind fun(x173,x174,x175,x176,x177,x178,x179,x180,x181,x182,x183,x184,x185,x186,x187,x188,x189,x190,x191,x192,x193,x194) =>
        cond (!x175) (
        (Ao ([59],x173,x174,x175,x176)).bind fun(_,x230,x231,x232,x233) =>
         some ((Stm.mk x177 x178 x179 x180 x181 x182 x183 x184 x185 (Xpr.mk x186 ⟨x187,x188,x189⟩ x190 x191) x192 x193 x194),x230,x231,x232,x233)) (
        some ((Stm.mk x177 x178 x179 x180 x181 x182 x183 x184 x185 (Xpr.mk x186 ⟨x187,x188,x189⟩ x190 x191) x192 x193 x194),x173,x174,x175,x176))) (
       (Cj (x169,x170,x171,x172)).bind fun(x195,x196,x197,x198) =>
        cond (!x197) (
        (Ao ([59],x195,x196,x197,x198)).bind fun(_,x235,x236,x237,x238) =>
         some ((Stm.mk 0 [] [] [] [] [] [] [] false (Xpr.mk 0 ⟨0,0,[]⟩ [] []) [] [] 0),x235,x236,x237,x238)) (
        some ((Stm.mk 0 [] [] [] [] [] [] [] false (Xpr.mk 0 ⟨0,0,[]⟩ [] []) [] [] 0),x195,x196,x197,x198))))))))
theorem A4v(k:Nat):FM 85 Z1 Aa0 (W4 k):=fRL (px:=Au2 _ k) (n:=0) Tryz.func85 rfl (fun cx H=>by
 have h2:Lv cx (Aau (Ki) k):=lv H (l1 H Fx Af) Ab (w1 H Aly Aa)
 have h1:Lv cx (Ajd (Ki) k):=lv H (l1 H E6 (Aq (cR H h2 Tryz.func122 rfl (n:=0) (Ak)) Af)) Ab Aa
 have hlpstmt_0:=lO H h1 (b:=lp Tryz.f121 0) (k:=k) (n:=0) (s:=Ag6) (step:=Fv) (fun _ _ _ (_,_,_,_,_,_,_,_,_,_,_,_,_,_,_,_,_,_,_,_,_,_,_)=>by kernel_rfl) Ak
 have h0:Lv cx (Au2 (Ki) k):=lv H (l1 H E6 (l1 H Ax2 (l1 H Fx (l1 H Ir (l1 H A0f (l1 H Ade (l1 H Avm (l1 H Kn (Aq (cR H h1 Tryz.func121 rfl (n:=1) ((B7 Ak hlpstmt_0))) Af))))))))) Ab Aa
 exact⟨h0,Ak⟩) fun(_,_,_,_)=>by kernel_rfl
def Ji:A3e→Option Ki:=fun x=>W4 ((x.1.length+3)) x
theorem Ba9:FM 85 Z1 Aa0 (Ji):=FnLn.fin (ι:=Nat) (sg:=Z1) (so:=Aa0) 0 (F:=fun k=>W4 k) (fun k=>A4v k) fun x _ _ hx=>⟨(x.1.length+3),hx⟩
def Aac:Sig:=⟨1,[],[(0,.ptr 0 0)],[(0,.cells [.sl .tok false,.int .i64,.bool,.int .i64])],1,1,0,[],[]⟩
def Y6:Sig:=⟨1,[(0,.bool)],[],[(0,.cells [.sl .tok false,.int .i64,.bool,.int .i64])],1,1,0,[],[]⟩
abbrev A2s:=List Tok×Int×Bool×Int
abbrev A4i:=Bool×List Tok×Int×Bool×Int
def Beb(R:Type):Px R:=pxO [(127,Aj H1 H2 Cj)] [] [] []
def Pv(x:A2s):Option (A4i):=match x with
 |(l,n,b,p) =>
 cond (decide (0<(l.length:Int))) (
  (Cj (l,n,b,p)).bind fun(x,x1,x2,x3) =>
  some (!x2,x,x1,x2,x3)) (
  some (!b,l,n,b,p))
theorem A7n:FM 86 Aac Y6 (Pv):=fRL (px:=Beb _) (n:=0) Tryz.func86 rfl (fun _ H=>⟨lv H (l1 H Kn Af) Ab Aa,Ak⟩) fun(_,_,_,_)=>by kernel_rfl
def Jh:A2s→Option A4i:=fun x=>Pv x
theorem Avk:FM 86 Aac Y6 (Jh):=A7n
end Go.Proofs.YthndhaolemgbdaaGreatDoor
namespace Go.Proofs.YthndhaolemgbdaaGreatDoor
open Go.Ax
abbrev RS:=List Tok×Int×Bool×Int
def hdT(n:Int):TL→Tok
 |[]=>⟨0,n,[],0⟩
 |t::_=>t
theorem Bky(n:Int) (l:TL):(hdT n l).pos=Ge n l:=by cases l<;>rfl
theorem O9(l:TL) (n:Int) (b:Bool) (p:Int):Ee (l,n,b,p)=some (hdT n l,l,n,b,p):=by
 cases l with
 |nil=>rfl
 |cons t r =>
  have e:decide (((t::r).length:Int)=0)=false:=Zd1 (by simp only [Zf1];omega)
  have h0:inb 0 (t::r).length=true:=Be (i:=0) (by simp)
  simp only [Ee,Xy,e,Ah,h0,chk]
  rfl
theorem A3h(l:TL) (n:Int) (b:Bool) (p:Int):Cf (l,n,b,p)=some (hdT n l,l.tail,n,b,p):=by
 simp only [Cf,W6,O9,Zc1]
 cases l with
 |nil=>rfl
 |cons t r =>
  have e:decide (0<((t::r).length:Int))=true:=Ze1 (by simp only [Zf1];omega)
  have h:G3 1 ((t::r).length:Int) (t::r).length=true:=by
   simp only [G3,Zb1,Zg1,Zf1]
   omega
  simp only [e,Ae,h,chk]
  rfl
theorem Aq7(t:Tok) (r:TL) (n:Int) (b:Bool) (p:Int):Ee (t::r,n,b,p)=some (t,t::r,n,b,p):=O9 _ _ _ _
theorem Aqg(t:Tok) (r:TL) (n:Int) (b:Bool) (p:Int):Cf (t::r,n,b,p)=some (t,r,n,b,p):=A3h _ _ _ _
theorem Ez{s:Str}{l:TL}{n:Int}{b:Bool}{p:Int}(h:isT s l=true):Ao (s,l,n,b,p)=some (true,l.tail,n,b,p):=by
 cases l with
 |nil=>cases h
 |cons t r =>
  simp only [isT,Zb1] at h
  simp only [Ao,Zn,O9,A3h,Zc1,hdT,h.2,Zt1,Ah]
  have h1:=h.1
  generalize decide (t.kind=1)=c1 at h1 ⊢
  generalize decide (t.kind=6)=c2 at h1 ⊢
  cases c1<;>cases c2<;>first|rfl|cases h1
theorem Ef{s:Str}{l:TL}{n:Int}{b:Bool}{p:Int}(h:isT s l=false):Ao (s,l,n,b,p)=some (false,l,n,b,p):=by
 simp only [Ao,Zn,O9,Zc1]
 cases l with
 |nil=>rfl
 |cons t r =>
  simp only [isT] at h
  simp only [hdT]
  by_cases h1:t.kind=1<;>by_cases h6:t.kind=6<;>by_cases h3:t.s=s<;>first|(exfalso;simp [h1,h6,h3] at h;done)|simp [h1,h6,h3]
theorem Uy(l:TL) (n p:Int):Cj (l,n,false,p)=some (l,n,true,Ge n l):=by
 simp only [Cj,Tv,O9,Zc1,Bky,Zs1,Ae]
theorem Yo(l:TL) (n p:Int):Cj (l,n,true,p)=some (l,n,true,p):=rfl
theorem Anu{R:Type}{kx:Ex→Vd→Option R}{ss:List Str}{n:Int}{c:TL→Bool→Int→Option R}(hn:ln ss.length) (h1:∀i l b p,kx .ret (ss,(ss.length:Int),i,l,n,b,p)=c l b p) (h2:∀i l b p,kx (.exit 0) (ss,(ss.length:Int),i,l,n,b,p)=c l b p) (a:Int):∀(k i:Nat) (l:TL),i≤ss.length→ss.length-i<k →
  Al (fun rec=>Ps rec kx) k (ss,(ss.length:Int),(i:Int),l,n,false,a)=match A5 (ss.drop i) l with
   |.ok (_,l')=>c l' false a
   |.error q=>c q true (Ge n q)
 |0,_,_,_,h=>absurd h (Zm1 _)
 |k+1,i,l,hi,h=>by
  rw [Bh]
  by_cases hlt:i<ss.length
  ·have ih:=Anu hn h1 h2 a k (i+1) l.tail (by omega) (by omega)
   rw [Av hlt]
   simp only [Ps,Gb hlt,Ae,Ah,Be hlt,chk,Bc (c :=.str) hlt,A3 hlt hn,A5]
   cases ht:isT ss[i] l with
   |true=>simp only [Ez ht,Zc1,Zt1,Ah,ih]
   |false=>simp only [Ef ht,Zc1,Zs1,Ae,Uy,h1]
  ·obtain rfl:i=ss.length:=by omega
   simp only [Ps,Fz,Ah,h2,Zc2,A5]
theorem Apx{ss:List Str}(hs:ss.length≤100) (l:TL) (n a:Int):Ai (ss,l,n,false,a)=match A5 ss l with
  |.ok (_,l')=>some (l',n,false,a)
  |.error q=>some (q,n,true,Ge n q):=by
 simp only [Ai,L1]
 exact Anu (c:=fun l b p=>some (l,n,b,p)) (by simp only [ln];omega) (fun _ _ _ _=>rfl) (fun _ _ _ _=>rfl) a (ss.length+1) 0 l (Nat.zero_le _) (by omega)
theorem Uv{ss:List Str}(hs:ss.length≤100) {l l':TL}{x:Unit}(h:A5 ss l = .ok (x,l')) (n a:Int):Ai (ss,l,n,false,a)=some (l',n,false,a):=by rw [Apx hs,h]
theorem Uk{ss:List Str}(hs:ss.length≤100) {l q:TL}(h:A5 ss l = .error q) (n a:Int):Ai (ss,l,n,false,a)=some (q,n,true,Ge n q):=by rw [Apx hs,h]
theorem Qx(ss:List Str) (l:TL) (n a:Int):Ai (ss,l,n,true,a)=some (l,n,true,a):=by
 cases ss with
 |nil=>rfl
 |cons s r =>
  have e:decide ((0:Int)<((s::r).length:Int))=true:=Ze1 (by simp only [Zf1];omega)
  have h0:inb 0 (s::r).length=true:=Be (i:=0) (by simp)
  simp only [Ai,L1,Bh,Ps,e,Ae,h0,chk,Yo,Zc1]
theorem Ady{s:Str}{l:TL}(h:isT s l=true):A5 [s] l = .ok ((),l.tail):=by simp only [A5,h]
theorem Ahu{s:Str}{l:TL}(h:isT s l=false):A5 [s] l = .error l:=by simp only [A5,h]
structure SimP {α:Type}(F:RS→Option (α×RS)) (p:TL→PR α) (L:Nat):Prop where
 ok:∀l n a e l',l.length<L→p l = .ok (e,l')→F (l,n,false,a)=some (e,l',n,false,a)
 er:∀l n a q,l.length<L→p l = .error q→∃e l',F (l,n,false,a)=some (e,l',n,true,Ge n q)
 bad:∀l n a,∃e,F (l,n,true,a)=some (e,l,n,true,a)
theorem Cs(L:Nat):SimP As B0 L where
 ok l n a e l' _ h:=by
  cases l with
  |nil=>cases h
  |cons t r =>
   simp only [As,Lq,Aq7,Aqg,Zc1,Ah]
   simp only [B0] at h
   cases hk:decide (t.kind=2) with
   |true=>rw [hk] at h;cases h;rfl
   |false=>rw [hk] at h;cases h
 er l n a q _ h:=by
  cases l with
  |nil=>cases h;exact⟨_,_,rfl⟩
  |cons t r =>
   simp only [As,Lq,Aq7,Uy,Zc1,Ah]
   simp only [B0] at h
   cases hk:decide (t.kind=2) with
   |true=>rw [hk] at h;cases h
   |false=>rw [hk] at h;cases h;exact⟨_,_,rfl⟩
 bad l n a:=by
  simp only [As,Lq,O9,Yo,Zc1,Ae]
  exact⟨_,rfl⟩
theorem A1q(rf:Aw→Option Au) (t:Tok) (r:TL) (n a:Int):Fy rf (t::r,n,false,a)=match Akt t with
  |some v=>some (v,r,n,false,a)
  |none=>(Ai ([[40]],t::r,n,false,a)).bind fun(x1,x2,x3,x4)=>(rf (x1,x2,x3,x4)).bind fun(e,y1,y2,y3,y4)=>(Ai ([[41]],y1,y2,y3,y4)).bind fun(z1,z2,z3,z4)=>some (e,z1,z2,z3,z4):=by
 simp only [Fy,Mz,Aq7,Aqg,Zc1,Ah]
 unfold Akt
 by_cases h2:t.kind=2
 ·rw [Ze1 h2,if_pos h2];rfl
 rw [Zd1 h2,if_neg h2,Ah]
 by_cases h3:t.kind=3
 ·rw [Ze1 h3,if_pos h3];rfl
 rw [Zd1 h3,if_neg h3,Ah]
 by_cases h4:t.kind=4
 ·rw [Ze1 h4,if_pos h4];rfl
 rw [Zd1 h4,if_neg h4,Ah]
 by_cases h5:t.kind=5
 ·rw [Ze1 h5,if_pos h5];rfl
 rw [Zd1 h5,if_neg h5,Ah]
 by_cases h1:t.kind=1
 ·rw [Ze1 h1]
  simp only [Ae]
  by_cases g1:t.s=Yw
  ·rw [Ze1 (show t.s=[84,82,85,69] from g1),if_pos ⟨h1,g1⟩];rfl
  rw [Zd1 (show ¬t.s=[84,82,85,69] from g1),if_neg (fun q=>g1 q.2),Ah]
  by_cases g2:t.s=P4
  ·rw [Ze1 (show t.s=[70,65,76,83,69] from g2),if_pos ⟨h1,g2⟩];rfl
  rw [Zd1 (show ¬t.s=[70,65,76,83,69] from g2),if_neg (fun q=>g2 q.2),Ah]
  by_cases g3:t.s=sNULL
  ·rw [Ze1 (show t.s=[78,85,76,76] from g3),if_pos ⟨h1,g3⟩];rfl
  rw [Zd1 (show ¬t.s=[78,85,76,76] from g3),if_neg (fun q=>g3 q.2),Ah]
 ·rw [Zd1 h1,if_neg (fun q=>h1 q.1),if_neg (fun q=>h1 q.1),if_neg (fun q=>h1 q.1)]
  simp only [Ah]
def It{α:Type}(F:RS→Option (α×RS)):Prop:=∀l n a,∃e,F (l,n,true,a)=some (e,l,n,true,a)
theorem Amp(rf:Aw→Option Au):It (Fy rf):=fun l n a=>by
 simp only [Fy,Mz,O9,Zc1,Ae]
 exact⟨_,rfl⟩
theorem A5n{rf:Aw→Option Au}{rec:TL→PR Xpr}{L:Nat}(h:SimP rf rec L):SimP (Fy rf) (Bo rec) (L+1) where
 ok l n a e l' hl hp:=by
  cases l with
  |nil=>cases hp
  |cons t r =>
   simp only [Zf1] at hl
   rw [Vv] at hp
   rw [A1q]
   cases hv:Akt t with
   |some v=>rw [hv] at hp;cases hp;rfl
   |none =>
    rw [hv] at hp
    cases hi:isT [40] (t::r) with
    |false=>rw [hi] at hp;cases hp
    |true =>
     rw [hi] at hp
     simp only [brP,bP] at hp
     simp only [Uv (by decide) (Ady hi),Zc1,List.tail_cons]
     cases hq:rec r with
     |error q=>rw [hq] at hp;cases hp
     |ok x =>
      obtain⟨e1,l1⟩:=x
      rw [hq] at hp
      simp only at hp
      simp only [h.ok r n a e1 l1 (by omega) hq,Zc1]
      cases hj:isT [41] l1 with
      |false=>rw [hj] at hp;cases hp
      |true =>
       rw [hj] at hp
       cases hp
       simp only [Uv (by decide) (Ady hj),Zc1]
 er l n a q hl hp:=by
  cases l with
  |nil =>
   cases hp
   obtain⟨e1,h1⟩:=h.bad [] n n
   refine⟨e1,[],?_⟩
   have e:Fy rf ([],n,false,a)=(Ai ([[40]],[],n,false,a)).bind fun(x1,x2,x3,x4)=>(rf (x1,x2,x3,x4)).bind fun(e,y1,y2,y3,y4)=>(Ai ([[41]],y1,y2,y3,y4)).bind fun(z1,z2,z3,z4)=>some (e,z1,z2,z3,z4):=rfl
   have hm:A5 [[40]] ([]:TL) = .error []:=rfl
   simp only [e,Uk (by decide) hm,Zc1,Ge,h1,Qx]
  |cons t r =>
   simp only [Zf1] at hl
   rw [Vv] at hp
   rw [A1q]
   cases hv:Akt t with
   |some v=>rw [hv] at hp;cases hp
   |none =>
    rw [hv] at hp
    cases hi:isT [40] (t::r) with
    |false =>
     rw [hi] at hp
     cases hp
     obtain⟨e1,h1⟩:=h.bad (t::r) n (Ge n (t::r))
     simp only [Uk (by decide) (Ahu hi),Zc1,h1,Qx]
     exact⟨_,_,rfl⟩
    |true =>
     rw [hi] at hp
     simp only [brP,bP] at hp
     simp only [Uv (by decide) (Ady hi),Zc1,List.tail_cons]
     cases hq:rec r with
     |error q' =>
      rw [hq] at hp
      cases hp
      obtain⟨e1,l1,h1⟩:=h.er r n a q (by omega) hq
      simp only [h1,Zc1,Qx]
      exact⟨_,_,rfl⟩
     |ok x =>
      obtain⟨e1,l1⟩:=x
      rw [hq] at hp
      simp only at hp
      simp only [h.ok r n a e1 l1 (by omega) hq,Zc1]
      cases hj:isT [41] l1 with
      |true=>rw [hj] at hp;cases hp
      |false =>
       rw [hj] at hp
       cases hp
       simp only [Uk (by decide) (Ahu hj),Zc1]
       exact⟨_,_,rfl⟩
 bad:=Amp rf
end Go.Proofs.YthndhaolemgbdaaGreatDoor
namespace Go.Proofs.YthndhaolemgbdaaGreatDoor
open Go.Ax
def Dp(s:Str):TL→Nat×TL
 |[]=>(0,[])
 |t::r=>match isT s (t::r) with
  |true=>((Dp s r).1+1,(Dp s r).2)
  |false=>(0,t::r)
def Mg(k:Int):Nat→Xpr→Xpr
 |0,e=>e
 |n+1,e=>Mg k n (.mk k ⟨0,0,[]⟩ [] [e])
theorem As9(k:Int):∀(n:Nat) (e:Xpr),Mg k (n+1) e=mkX k [Mg k n e]
 |0,_=>rfl
 |n+1,_=>As9 k n _
theorem Af8{s:Str}{l:TL}(h:isT s l=true):Dp s l=((Dp s l.tail).1+1,(Dp s l.tail).2):=by
 cases l with
 |nil=>cases h
 |cons t r=>simp only [Dp,h,List.tail_cons]
theorem Agn{s:Str}{l:TL}(h:isT s l=false):Dp s l=(0,l):=by
 cases l with
 |nil=>rfl
 |cons t r=>simp only [Dp,h]
theorem Nl(s:Str):∀l:TL,(Dp s l).1+(Dp s l).2.length=l.length
 |[]=>rfl
 |t::r=>by
  have ih:=Nl s r
  cases h:isT s (t::r) with
  |true=>rw [Af8 h];simp only [List.tail_cons,Zf1];omega
  |false=>rw [Agn h];simp
theorem J3(s:Str) (k:Int) (part:TL→PR Xpr):∀l:TL,A9 s k part l=match part (Dp s l).2 with
  |.error q =>.error q
  |.ok (e,l') =>.ok (Mg k (Dp s l).1 e,l')
 |[]=>by
  simp only [A9,Dp,Mg]
  cases part []<;>rfl
 |t::r=>by
  cases h:isT s (t::r) with
  |true =>
   rw [Af8 h]
   simp only [A9,h,J3 s k part r,List.tail_cons]
   cases part (Dp s r).2 with
   |error q=>rfl
   |ok x=>simp only [As9]
  |false =>
   rw [Agn h]
   simp only [A9,h,Mg]
   cases part (t::r)<;>rfl
theorem Ary{R:Type}{kx:Ex→Yt→Option R}{s:Str}{kd n a:Int}{z1 z2:Xpr}{c:Int→TL→Option R}(h:∀i l,kx (.exit 0) (s,kd,i,l,n,false,a,z1,z2)=c i l):∀(k i:Nat) (l:TL),l.length<k→i+l.length≤1000000000 →
  Al (fun rec=>Ab3 rec kx) k (s,kd,(i:Int),l,n,false,a,z1,z2)=c ((i+(Dp s l).1:Nat):Int) (Dp s l).2
 |0,_,_,hk,_=>absurd hk (Zm1 _)
 |k+1,i,l,hk,hb=>by
  rw [Bh]
  simp only [Ab3,Zs1,Ae]
  cases hi:isT s l with
  |false=>simp only [Ef hi,Zc1,Ah,h,Agn hi,Nat.add_zero]
  |true =>
   have hl:=Iv hi
   have hw:wr .i64 ((i:Int)+1)=((i+1:Nat):Int):=A3 (n:=i+1) (by omega) (by simp only [ln];omega)
   simp only [Ez hi,Zc1,Ae,hw,Ary h k (i+1) l.tail (by omega) (by omega),Af8 hi]
   rw [Nat.add_assoc,Nat.add_comm 1]
theorem Ap4{R:Type}{kx:Ex→Aaf→Option R}{kd:Int}{m:Nat}{l:TL}{n a:Int}{b:Bool}{z1 z2:Xpr}{c:Xpr→Option R}(h:∀i e,kx (.exit 2) (kd,(m:Int),i,l,n,b,a,z1,z2,e)=c e) (hm:m≤1000000000):∀(k i:Nat) (e:Xpr),i≤m→m-i<k →
  Al (fun rec=>Xx rec kx) k (kd,(m:Int),(i:Int),l,n,b,a,z1,z2,e)=c (Mg kd (m-i) e)
 |0,_,_,_,hk=>absurd hk (Zm1 _)
 |k+1,i,e,hi,hk=>by
  rw [Bh]
  by_cases hlt:i<m
  ·have hs:m-i=(m-(i+1))+1:=by omega
   simp only [Xx,Gb hlt,Ae,A3 hlt (show ln m by simp only [ln];omega),Ap4 h hm k (i+1) _ (by omega) (by omega),hs,Mg]
  ·obtain rfl:i=m:=by omega
   simp only [Xx,Fz,Ah,h,Nat.sub_self,Mg]
theorem Asq{rf:Aw→Option Au}(h:It (Fy rf)):It (Ih rf):=fun l n a=>by
 obtain⟨e1,h1⟩:=h l n a
 refine⟨e1,?_⟩
 simp only [Ih,Kw,Bh,Ab3,Zt1,Ah,h1,Zc1,Xx]
 rfl
theorem A89{rf:Aw→Option Au}{part:TL→PR Xpr}{L:Nat}(h:SimP (Fy rf) part L) (hL:L≤1000000000):SimP (Ih rf) (A9 [45] 15 part) L where
 ok l n a e l' hl hp:=by
  have hs:=Nl [45] l
  rw [J3] at hp
  simp only [Ih,Kw]
  refine(Ary (s:=[45]) (i:=0) (fun _ _=>rfl) (l.length+1) l (by omega) (by omega)).trans ?_
  cases hq:part (Dp [45] l).2 with
  |error q=>rw [hq] at hp;cases hp
  |ok x =>
   obtain⟨e1,l1⟩:=x
   rw [hq] at hp
   cases hp
   simp only [h.ok _ n a e1 l' (by omega) hq,Zc1,Nat.zero_add]
   exact(Ap4 (c:=fun e=>some (e,l',n,false,a)) (fun _ _=>rfl) (by omega) (l.length+1) 0 e1 (Nat.zero_le _) (by omega)).trans rfl
 er l n a q hl hp:=by
  have hs:=Nl [45] l
  rw [J3] at hp
  cases hq:part (Dp [45] l).2 with
  |ok x=>rw [hq] at hp;cases hp
  |error q' =>
   rw [hq] at hp
   cases hp
   obtain⟨e1,l1,h1⟩:=h.er _ n a q (by omega) hq
   refine⟨Mg 15 (Dp [45] l).1 e1,l1,?_⟩
   simp only [Ih,Kw]
   refine(Ary (s:=[45]) (i:=0) (fun _ _=>rfl) (l.length+1) l (by omega) (by omega)).trans ?_
   simp only [h1,Zc1,Nat.zero_add]
   exact(Ap4 (c:=fun e=>some (e,l1,n,true,Ge n q)) (fun _ _=>rfl) (by omega) (l.length+1) 0 e1 (Nat.zero_le _) (by omega)).trans rfl
 bad:=Asq h.bad
def prs(S:List PairS):List (Str×Int):=S.map fun p=>(p.sign,p.kind)
theorem Lw(l:TL):∀S:List PairS,(prs S).find? (fun p=>isT p.1 l)=(S.find? fun p=>isT p.sign l).map fun p=>(p.sign,p.kind)
 |[]=>rfl
 |p::S=>by
  have ih:=Lw l S
  simp only [prs] at ih
  simp only [prs,Zw1,List.find?_cons,ih]
  cases isT p.sign l<;>rfl
theorem Ad1{R:Type}(rf:Aw→Option Au) {kx:Ex→Kc→Option R}{S:List PairS}(hn:ln S.length) {l:TL}{n a:Int}{z1 z2 e:Xpr}{c1:Xpr→TL→Int→Bool→Int→Option R}{c2:Option R}(h1:∀i l n b a e,kx (.exit 1) (S,S,(S.length:Int),i,l,n,b,a,z1,z2,e)=c1 e l n b a) (h2:kx (.exit 2) (S,S,(S.length:Int),(S.length:Int),l,n,false,a,z1,z2,e)=c2):∀(k i:Nat),i≤S.length→S.length-i<k →
  Al (fun rc=>Iz rf rc kx) k (S,S,(S.length:Int),(i:Int),l,n,false,a,z1,z2,e)=match(S.drop i).find? (fun p=>isT p.sign l) with
   |none=>c2
   |some p=>(Ih rf (l.tail,n,false,a)).bind fun(x,y1,y2,y3,y4)=>c1 (mkX p.kind [e,x]) y1 y2 y3 y4
 |0,_,_,hk=>absurd hk (Zm1 _)
 |k+1,i,hi,hk=>by
  rw [Bh]
  by_cases hlt:i<S.length
  ·rw [Av hlt]
   simp only [Iz,Gb hlt,Ae,Be hlt,chk,Bc (c :=.pair) hlt,A3 hlt hn,List.find?_cons]
   cases ht:isT S[i].sign l with
   |true =>
    simp only [Ez ht,Zc1,Ae,h1]
    rfl
   |false=>simp only [Ef ht,Zc1,Ah,Ad1 rf hn h1 h2 k (i+1) (by omega) (by omega)]
  ·obtain rfl:i=S.length:=by omega
   simp only [Iz,Fz,Ah,h2,Zc2,List.find?_nil]
theorem Pu{R:Type}{rf:Aw→Option Au}{part:TL→PR Xpr}{L:Nat}(h:SimP (Ih rf) part L) (hp:Cm part) {kx:Ex→Gl→Option R}{S:List PairS}(hn:ln S.length) {n a:Int}{z1 z2:Xpr}{c:Xpr→TL→Bool→Int→Option R}(hx:∀l b a e,kx (.exit 0) (S,l,n,b,a,z1,z2,e)=c e l b a) (K:Nat) (hK:S.length<K):∀(k m:Nat) (e:Xpr) (l:TL),l.length<L→l.length<k→l.length<m →
  match Bv part (prs S) m e l with
  |.ok (e',l')=>Al (fun rec=>I5 K rf rec kx) k (S,l,n,false,a,z1,z2,e)=c e' l' false a
  |.error q=>∃e' l',Al (fun rec=>I5 K rf rec kx) k (S,l,n,false,a,z1,z2,e)=c e' l' true (Ge n q)
 |0,_,_,_,_,hk,_=>absurd hk (Zm1 _)
 |_,0,_,_,_,_,hk=>absurd hk (Zm1 _)
 |k+1,m+1,e,l,hl,hk,hm=>by
  have hin:=fun(rec:Gl→Option R)=>Ad1 (R:=R) rf (kx:=fun e vz=>match vz with|(v5,_,_,_,v9,v10,v11,v12,v13,v14,v15)=>match e with
   |.exit 1=>rec (v5,v9,v10,v11,v12,v13,v14,v15)
   |.exit 2=>kx (.exit 0) (v5,v9,v10,v11,v12,v13,v14,v15)
   |_=>none) hn (l:=l) (n:=n) (a:=a) (z1:=z1) (z2:=z2) (e:=e) (c1:=fun e l n b a=>rec (S,l,n,b,a,z1,z2,e)) (fun _ _ _ _ _ _=>rfl) rfl K 0 (Nat.zero_le _) (by omega)
  have hit:∀rec:Gl→Option R,I5 K rf rec kx (S,l,n,false,a,z1,z2,e)=_:=hin
  have hf:=Lw l S
  rw [Bh]
  simp only [Bv,hit,Zq1]
  cases hs:S.find? (fun p=>isT p.sign l) with
  |none =>
   rw [hs] at hf
   simp only [Option.map_none] at hf
   rw [hf]
   exact hx _ _ _ _
  |some p =>
   rw [hs] at hf
   simp only [Zl2] at hf
   rw [hf]
   have hi:isT p.sign l=true:=by simpa using List.find?_some hs
   have hlt:=Iv hi
   cases hq:part l.tail with
   |error q =>
    obtain⟨e1,l1,h1⟩:=h.er l.tail n a q (by omega) hq
    simp only [h1,Zc1]
    obtain⟨k,rfl⟩:∃k',k=k'+1:=⟨k-1,by omega⟩
    exact⟨mkX p.kind [e,e1],l1,hx _ _ _ _⟩
   |ok x =>
    obtain⟨x,l1⟩:=x
    have h3:=hp _ _ _ hq
    simp only [h.ok l.tail n a x l1 (by omega) hq,Zc1]
    exact Pu h hp hn hx K hK k m (mkX p.kind [e,x]) l1 (by omega) (by omega) (by omega)
theorem Aat{rf:Aw→Option Au}(h:It (Ih rf)):It (B9 rf):=fun l n a=>by
 obtain⟨e1,h1⟩:=h l n a
 simp only [B9,Eu,h1,Zc1]
 exact⟨e1,rfl⟩
theorem Aqa{rf:Aw→Option Au}{part:TL→PR Xpr}{L:Nat}(h:SimP (Ih rf) part L) (hp:Cm part):SimP (B9 rf) (Ce part (prs [PairS.mk [42] 14])) L where
 ok l n a e l' hl hq:=by
  simp only [Ce] at hq
  cases hr:part l with
  |error q=>rw [hr] at hq;cases hq
  |ok x =>
   obtain⟨e1,l1⟩:=x
   rw [hr] at hq
   have h3:=hp _ _ _ hr
   simp only at hq
   have:=Pu h hp (S:=[PairS.mk [42] 14]) (by simp [ln]) (n:=n) (a:=a) (z1:=Xpr.mk 0 ⟨0,0,[]⟩ [] []) (z2:=Xpr.mk 0 ⟨0,0,[]⟩ [] []) (c:=fun e l b a=>some (e,l,n,b,a)) (kx:=fun e vz=>match vz with|(_,v17,v18,v19,v20,_,_,v23)=>match e with
    |.exit 0=>some (v23,v17,v18,v19,v20)
    |_=>none) (fun _ _ _ _=>rfl) (l.length+3) (by simp) (l.length+3) (l1.length+1) e1 l1 (by omega) (by omega) (by omega)
   rw [hq] at this
   simp only [B9,Eu,h.ok l n a e1 l1 hl hr,Zc1]
   exact this
 er l n a q hl hq:=by
  simp only [Ce] at hq
  cases hr:part l with
  |error q' =>
   rw [hr] at hq
   cases hq
   obtain⟨e1,l1,h1⟩:=h.er l n a q hl hr
   simp only [B9,Eu,h1,Zc1]
   exact⟨e1,l1,rfl⟩
  |ok x =>
   obtain⟨e1,l1⟩:=x
   rw [hr] at hq
   have h3:=hp _ _ _ hr
   simp only at hq
   have:=Pu h hp (S:=[PairS.mk [42] 14]) (by simp [ln]) (n:=n) (a:=a) (z1:=Xpr.mk 0 ⟨0,0,[]⟩ [] []) (z2:=Xpr.mk 0 ⟨0,0,[]⟩ [] []) (c:=fun e l b a=>some (e,l,n,b,a)) (kx:=fun e vz=>match vz with|(_,v17,v18,v19,v20,_,_,v23)=>match e with
    |.exit 0=>some (v23,v17,v18,v19,v20)
    |_=>none) (fun _ _ _ _=>rfl) (l.length+3) (by simp) (l.length+3) (l1.length+1) e1 l1 (by omega) (by omega) (by omega)
   rw [hq] at this
   simp only [B9,Eu,h.ok l n a e1 l1 hl hr,Zc1]
   exact this
 bad:=Aat h.bad
theorem A13{R:Type}(rf:Aw→Option Au) {kx:Ex→Zy→Option R}{S:List PairS}(hn:ln S.length) {l:TL}{n a:Int}{z1 z2 e:Xpr}{c1:Xpr→TL→Int→Bool→Int→Option R}{c2:Option R}(h1:∀i l n b a e,kx (.exit 1) (S,S,(S.length:Int),i,l,n,b,a,z1,z2,e)=c1 e l n b a) (h2:kx (.exit 2) (S,S,(S.length:Int),(S.length:Int),l,n,false,a,z1,z2,e)=c2):∀(k i:Nat),i≤S.length→S.length-i<k →
  Al (fun rc=>Acs rf rc kx) k (S,S,(S.length:Int),(i:Int),l,n,false,a,z1,z2,e)=match(S.drop i).find? (fun p=>isT p.sign l) with
   |none=>c2
   |some p=>(B9 rf (l.tail,n,false,a)).bind fun(x,y1,y2,y3,y4)=>c1 (mkX p.kind [e,x]) y1 y2 y3 y4
 |0,_,_,hk=>absurd hk (Zm1 _)
 |k+1,i,hi,hk=>by
  rw [Bh]
  by_cases hlt:i<S.length
  ·rw [Av hlt]
   simp only [Acs,Gb hlt,Ae,Be hlt,chk,Bc (c :=.pair) hlt,A3 hlt hn,List.find?_cons]
   cases ht:isT S[i].sign l with
   |true =>
    simp only [Ez ht,Zc1,Ae,h1]
    rfl
   |false=>simp only [Ef ht,Zc1,Ah,A13 rf hn h1 h2 k (i+1) (by omega) (by omega)]
  ·obtain rfl:i=S.length:=by omega
   simp only [Acs,Fz,Ah,h2,Zc2,List.find?_nil]
theorem Ajh{R:Type}{rf:Aw→Option Au}{part:TL→PR Xpr}{L:Nat}(h:SimP (B9 rf) part L) (hp:Cm part) {kx:Ex→O2→Option R}{S:List PairS}(hn:ln S.length) {n a:Int}{z1 z2:Xpr}{c:Xpr→TL→Bool→Int→Option R}(hx:∀l b a e,kx (.exit 0) (S,l,n,b,a,z1,z2,e)=c e l b a) (K:Nat) (hK:S.length<K):∀(k m:Nat) (e:Xpr) (l:TL),l.length<L→l.length<k→l.length<m →
  match Bv part (prs S) m e l with
  |.ok (e',l')=>Al (fun rec=>Ac7 K rf rec kx) k (S,l,n,false,a,z1,z2,e)=c e' l' false a
  |.error q=>∃e' l',Al (fun rec=>Ac7 K rf rec kx) k (S,l,n,false,a,z1,z2,e)=c e' l' true (Ge n q)
 |0,_,_,_,_,hk,_=>absurd hk (Zm1 _)
 |_,0,_,_,_,_,hk=>absurd hk (Zm1 _)
 |k+1,m+1,e,l,hl,hk,hm=>by
  have hin:=fun(rec:O2→Option R)=>A13 (R:=R) rf (kx:=fun e vz=>match vz with|(v5,_,_,_,v9,v10,v11,v12,v13,v14,v15)=>match e with
   |.exit 1=>rec (v5,v9,v10,v11,v12,v13,v14,v15)
   |.exit 2=>kx (.exit 0) (v5,v9,v10,v11,v12,v13,v14,v15)
   |_=>none) hn (l:=l) (n:=n) (a:=a) (z1:=z1) (z2:=z2) (e:=e) (c1:=fun e l n b a=>rec (S,l,n,b,a,z1,z2,e)) (fun _ _ _ _ _ _=>rfl) rfl K 0 (Nat.zero_le _) (by omega)
  have hit:∀rec:O2→Option R,Ac7 K rf rec kx (S,l,n,false,a,z1,z2,e)=_:=hin
  have hf:=Lw l S
  rw [Bh]
  simp only [Bv,hit,Zq1]
  cases hs:S.find? (fun p=>isT p.sign l) with
  |none =>
   rw [hs] at hf
   simp only [Option.map_none] at hf
   rw [hf]
   exact hx _ _ _ _
  |some p =>
   rw [hs] at hf
   simp only [Zl2] at hf
   rw [hf]
   have hi:isT p.sign l=true:=by simpa using List.find?_some hs
   have hlt:=Iv hi
   cases hq:part l.tail with
   |error q =>
    obtain⟨e1,l1,h1⟩:=h.er l.tail n a q (by omega) hq
    simp only [h1,Zc1]
    obtain⟨k,rfl⟩:∃k',k=k'+1:=⟨k-1,by omega⟩
    exact⟨mkX p.kind [e,e1],l1,hx _ _ _ _⟩
   |ok x =>
    obtain⟨x,l1⟩:=x
    have h3:=hp _ _ _ hq
    simp only [h.ok l.tail n a x l1 (by omega) hq,Zc1]
    exact Ajh h hp hn hx K hK k m (mkX p.kind [e,x]) l1 (by omega) (by omega) (by omega)
theorem Au4{rf:Aw→Option Au}(h:It (B9 rf)):It (Gr rf):=fun l n a=>by
 obtain⟨e1,h1⟩:=h l n a
 simp only [Gr,I4,h1,Zc1]
 exact⟨e1,rfl⟩
theorem A81{rf:Aw→Option Au}{part:TL→PR Xpr}{L:Nat}(h:SimP (B9 rf) part L) (hp:Cm part):SimP (Gr rf) (Ce part (prs [PairS.mk [43] 12,PairS.mk [45] 13])) L where
 ok l n a e l' hl hq:=by
  simp only [Ce] at hq
  cases hr:part l with
  |error q=>rw [hr] at hq;cases hq
  |ok x =>
   obtain⟨e1,l1⟩:=x
   rw [hr] at hq
   have h3:=hp _ _ _ hr
   simp only at hq
   have:=Ajh h hp (S:=[PairS.mk [43] 12,PairS.mk [45] 13]) (by simp [ln]) (n:=n) (a:=a) (z1:=Xpr.mk 0 ⟨0,0,[]⟩ [] []) (z2:=Xpr.mk 0 ⟨0,0,[]⟩ [] []) (c:=fun e l b a=>some (e,l,n,b,a)) (kx:=fun e vz=>match vz with|(_,v17,v18,v19,v20,_,_,v23)=>match e with
    |.exit 0=>some (v23,v17,v18,v19,v20)
    |_=>none) (fun _ _ _ _=>rfl) (l.length+3) (by simp) (l.length+3) (l1.length+1) e1 l1 (by omega) (by omega) (by omega)
   rw [hq] at this
   simp only [Gr,I4,h.ok l n a e1 l1 hl hr,Zc1]
   exact this
 er l n a q hl hq:=by
  simp only [Ce] at hq
  cases hr:part l with
  |error q' =>
   rw [hr] at hq
   cases hq
   obtain⟨e1,l1,h1⟩:=h.er l n a q hl hr
   simp only [Gr,I4,h1,Zc1]
   exact⟨e1,l1,rfl⟩
  |ok x =>
   obtain⟨e1,l1⟩:=x
   rw [hr] at hq
   have h3:=hp _ _ _ hr
   simp only at hq
   have:=Ajh h hp (S:=[PairS.mk [43] 12,PairS.mk [45] 13]) (by simp [ln]) (n:=n) (a:=a) (z1:=Xpr.mk 0 ⟨0,0,[]⟩ [] []) (z2:=Xpr.mk 0 ⟨0,0,[]⟩ [] []) (c:=fun e l b a=>some (e,l,n,b,a)) (kx:=fun e vz=>match vz with|(_,v17,v18,v19,v20,_,_,v23)=>match e with
    |.exit 0=>some (v23,v17,v18,v19,v20)
    |_=>none) (fun _ _ _ _=>rfl) (l.length+3) (by simp) (l.length+3) (l1.length+1) e1 l1 (by omega) (by omega) (by omega)
   rw [hq] at this
   simp only [Gr,I4,h.ok l n a e1 l1 hl hr,Zc1]
   exact this
 bad:=Au4 h.bad
def cmpC:List PairS:=[PairS.mk [61] 6,PairS.mk [60,62] 7,PairS.mk [60] 8,PairS.mk [60,61] 9,PairS.mk [62] 10,PairS.mk [62,61] 11]
theorem A23{R:Type}(rf:Aw→Option Au) {kx:Ex→Abc→Option R}{S:List PairS}(hn:ln S.length) {l:TL}{n a:Int}{z e:Xpr}{c1:Xpr→TL→Int→Bool→Int→Option R}{c2:Option R}(h1:∀i l n b a x,kx .ret (S,(S.length:Int),i,l,n,b,a,x,e)=c1 x l n b a) (h2:kx (.exit 0) (S,(S.length:Int),(S.length:Int),l,n,false,a,z,e)=c2):∀(k i:Nat),i≤S.length→S.length-i<k →
  Al (fun rc=>Abs rf rc kx) k (S,(S.length:Int),(i:Int),l,n,false,a,z,e)=match(S.drop i).find? (fun p=>isT p.sign l) with
   |none=>c2
   |some p=>(Gr rf (l.tail,n,false,a)).bind fun(x,y1,y2,y3,y4)=>c1 (mkX p.kind [e,x]) y1 y2 y3 y4
 |0,_,_,hk=>absurd hk (Zm1 _)
 |k+1,i,hi,hk=>by
  rw [Bh]
  by_cases hlt:i<S.length
  ·rw [Av hlt]
   simp only [Abs,Gb hlt,Ae,Be hlt,chk,Bc (c :=.pair) hlt,A3 hlt hn,List.find?_cons]
   cases ht:isT S[i].sign l with
   |true =>
    simp only [Ez ht,Zc1,Ae,h1]
    rfl
   |false=>simp only [Ef ht,Zc1,Ah,A23 rf hn h1 h2 k (i+1) (by omega) (by omega)]
  ·obtain rfl:i=S.length:=by omega
   simp only [Abs,Fz,Ah,h2,Zc2,List.find?_nil]
def isF(e:Xpr) (l:TL) (n a:Int):Option Au:=(Ao ([73,83],l,n,false,a)).bind fun(x15,x16,x17,x18,x19) =>
 cond (!x15) (some (e,x16,x17,x18,x19)) ((Ao ([78,79,84],x16,x17,x18,x19)).bind fun(x20,x21,x22,x23,x24) =>
  (Ai ([[78,85,76,76]],x21,x22,x23,x24)).bind fun(x25,x26,x27,x28) =>
   cond (x20) (some ((Xpr.mk 3 ⟨0,0,[]⟩ [] [(Xpr.mk 16 ⟨0,0,[]⟩ [] [e])]),x25,x26,x27,x28)) (some ((Xpr.mk 16 ⟨0,0,[]⟩ [] [e]),x25,x26,x27,x28)))
theorem A2x(rf:Aw→Option Au) {l l1:TL}{n a:Int}{e:Xpr}(h:Gr rf (l,n,false,a)=some (e,l1,n,false,a)):Lr rf (l,n,false,a)=match cmpC.find? (fun p=>isT p.sign l1) with
  |none=>isF e l1 n a
  |some p=>(Gr rf (l1.tail,n,false,a)).bind fun(x,y1,y2,y3,y4)=>some (mkX p.kind [e,x],y1,y2,y3,y4):=by
 simp only [Lr,Kz,h,Zc1,Ah]
 exact A23 rf (S:=cmpC) (by simp [ln,cmpC]) (z:=Xpr.mk 0 ⟨0,0,[]⟩ [] []) (c1:=fun x l n b a=>some (x,l,n,b,a)) (c2:=isF e l1 n a) (fun _ _ _ _ _ _=>rfl) rfl 10 0 (Nat.zero_le _) (by decide)
theorem Bno{e x:Xpr}{l l':TL}(h:(match isT sIS l with|true=>isP e l|false =>.ok (e,l)) = .ok (x,l')) (n a:Int):isF e l n a=some (x,l',n,false,a):=by
 simp only [isF]
 cases hi:isT sIS l with
 |false=>rw [hi] at h;cases h;simp only [Ef (s:=[73,83]) hi,Zc1,Zs1,Ae]
 |true =>
  rw [hi] at h
  simp only [isP] at h
  simp only [Ez (s:=[73,83]) hi,Zc1,Zt1,Ah]
  cases hn:isT sNOT l.tail with
  |true =>
   rw [hn] at h
   simp only [Ez (s:=[78,79,84]) hn,Zc1,Ae]
   cases hu:isT sNULL l.tail.tail with
   |true=>simp only [hu] at h;cases h;simp only [Uv (by decide) (Ady (s:=[78,85,76,76]) hu),Zc1];rfl
   |false=>simp only [hu] at h;cases h
  |false =>
   rw [hn] at h
   simp only [Ef (s:=[78,79,84]) hn,Zc1,Ah]
   cases hu:isT sNULL l.tail with
   |true=>simp only [hu] at h;cases h;simp only [Uv (by decide) (Ady (s:=[78,85,76,76]) hu),Zc1];rfl
   |false=>simp only [hu] at h;cases h
theorem Bnf{e:Xpr}{l q:TL}(h:(match isT sIS l with|true=>isP e l|false =>.ok (e,l)) = .error q) (n a:Int):∃x l',isF e l n a=some (x,l',n,true,Ge n q):=by
 simp only [isF]
 cases hi:isT sIS l with
 |false=>rw [hi] at h;cases h
 |true =>
  rw [hi] at h
  simp only [isP] at h
  simp only [Ez (s:=[73,83]) hi,Zc1,Zt1,Ah]
  cases hn:isT sNOT l.tail with
  |true =>
   rw [hn] at h
   simp only [Ez (s:=[78,79,84]) hn,Zc1,Ae]
   cases hu:isT sNULL l.tail.tail with
   |true=>simp only [hu] at h;cases h
   |false=>simp only [hu] at h;cases h;simp only [Uk (by decide) (Ahu (s:=[78,85,76,76]) hu),Zc1];exact⟨_,_,rfl⟩
  |false =>
   rw [hn] at h
   simp only [Ef (s:=[78,79,84]) hn,Zc1,Ah]
   cases hu:isT sNULL l.tail with
   |true=>simp only [hu] at h;cases h
   |false=>simp only [hu] at h;cases h;simp only [Uk (by decide) (Ahu (s:=[78,85,76,76]) hu),Zc1];exact⟨_,_,rfl⟩
theorem Ave{rf:Aw→Option Au}(h:It (Gr rf)):It (Lr rf):=fun l n a=>by
 obtain⟨e1,h1⟩:=h l n a
 refine⟨e1,?_⟩
 simp only [Lr,Kz,h1,Zc1,Ae]
theorem Bam{rf:Aw→Option Au}{part:TL→PR Xpr}{L:Nat}(h:SimP (Gr rf) part L) (he:Cm part):SimP (Lr rf) (Rk part) L where
 ok l n a e l' hl hp:=by
  simp only [Rk] at hp
  cases hr:part l with
  |error q=>rw [hr] at hp;cases hp
  |ok x =>
   obtain⟨e1,l1⟩:=x
   have h3:=he _ _ _ hr
   have hf:cmpS.find? (fun p=>isT p.1 l1)=(cmpC.find? fun p=>isT p.sign l1).map fun p=>(p.sign,p.kind):=Lw l1 cmpC
   rw [hr] at hp
   simp only [hf] at hp
   rw [A2x rf (h.ok l n a e1 l1 hl hr)]
   cases hs:cmpC.find? (fun p=>isT p.sign l1) with
   |none=>rw [hs] at hp;exact Bno hp n a
   |some p =>
    rw [hs] at hp
    simp only [Zl2] at hp
    have h4:=A6 l1
    cases hq:part l1.tail with
    |error q=>rw [hq] at hp;cases hp
    |ok y =>
     obtain⟨x,l2⟩:=y
     rw [hq] at hp
     cases hp
     simp only [h.ok l1.tail n a x l' (by omega) hq,Zc1]
 er l n a q hl hp:=by
  simp only [Rk] at hp
  cases hr:part l with
  |error q' =>
   rw [hr] at hp
   cases hp
   obtain⟨e1,l1,h1⟩:=h.er l n a q hl hr
   refine⟨e1,l1,?_⟩
   simp only [Lr,Kz,h1,Zc1,Ae]
  |ok x =>
   obtain⟨e1,l1⟩:=x
   have h3:=he _ _ _ hr
   have hf:cmpS.find? (fun p=>isT p.1 l1)=(cmpC.find? fun p=>isT p.sign l1).map fun p=>(p.sign,p.kind):=Lw l1 cmpC
   rw [hr] at hp
   simp only [hf] at hp
   rw [A2x rf (h.ok l n a e1 l1 hl hr)]
   cases hs:cmpC.find? (fun p=>isT p.sign l1) with
   |none=>rw [hs] at hp;exact Bnf hp n a
   |some p =>
    rw [hs] at hp
    simp only [Zl2] at hp
    have h4:=A6 l1
    cases hq:part l1.tail with
    |ok y=>rw [hq] at hp;cases hp
    |error q' =>
     rw [hq] at hp
     cases hp
     obtain⟨e2,l2,h2⟩:=h.er l1.tail n a q (by omega) hq
     simp only [h2,Zc1]
     exact⟨_,_,rfl⟩
 bad:=Ave h.bad
theorem Apj{R:Type}{kx:Ex→Aaq→Option R}{s:Str}{kd n a:Int}{z1 z2:Xpr}{c:Int→TL→Option R}(h:∀i l,kx (.exit 0) (s,kd,i,l,n,false,a,z1,z2)=c i l):∀(k i:Nat) (l:TL),l.length<k→i+l.length≤1000000000 →
  Al (fun rec=>Acg rec kx) k (s,kd,(i:Int),l,n,false,a,z1,z2)=c ((i+(Dp s l).1:Nat):Int) (Dp s l).2
 |0,_,_,hk,_=>absurd hk (Zm1 _)
 |k+1,i,l,hk,hb=>by
  rw [Bh]
  simp only [Acg,Zs1,Ae]
  cases hi:isT s l with
  |false=>simp only [Ef hi,Zc1,Ah,h,Agn hi,Nat.add_zero]
  |true =>
   have hl:=Iv hi
   have hw:wr .i64 ((i:Int)+1)=((i+1:Nat):Int):=A3 (n:=i+1) (by omega) (by simp only [ln];omega)
   simp only [Ez hi,Zc1,Ae,hw,Apj h k (i+1) l.tail (by omega) (by omega),Af8 hi]
   rw [Nat.add_assoc,Nat.add_comm 1]
theorem Aps{R:Type}{kx:Ex→Aaz→Option R}{kd:Int}{m:Nat}{l:TL}{n a:Int}{b:Bool}{z1 z2:Xpr}{c:Xpr→Option R}(h:∀i e,kx (.exit 2) (kd,(m:Int),i,l,n,b,a,z1,z2,e)=c e) (hm:m≤1000000000):∀(k i:Nat) (e:Xpr),i≤m→m-i<k →
  Al (fun rec=>Xr rec kx) k (kd,(m:Int),(i:Int),l,n,b,a,z1,z2,e)=c (Mg kd (m-i) e)
 |0,_,_,_,hk=>absurd hk (Zm1 _)
 |k+1,i,e,hi,hk=>by
  rw [Bh]
  by_cases hlt:i<m
  ·have hs:m-i=(m-(i+1))+1:=by omega
   simp only [Xr,Gb hlt,Ae,A3 hlt (show ln m by simp only [ln];omega),Aps h hm k (i+1) _ (by omega) (by omega),hs,Mg]
  ·obtain rfl:i=m:=by omega
   simp only [Xr,Fz,Ah,h,Nat.sub_self,Mg]
theorem Avx{rf:Aw→Option Au}(h:It (Lr rf)):It (Ik rf):=fun l n a=>by
 obtain⟨e1,h1⟩:=h l n a
 refine⟨e1,?_⟩
 simp only [Ik,K4,Bh,Acg,Zt1,Ah,h1,Zc1,Xr]
 rfl
theorem Bcv{rf:Aw→Option Au}{part:TL→PR Xpr}{L:Nat}(h:SimP (Lr rf) part L) (hL:L≤1000000000):SimP (Ik rf) (A9 [78,79,84] 3 part) L where
 ok l n a e l' hl hp:=by
  have hs:=Nl [78,79,84] l
  rw [J3] at hp
  simp only [Ik,K4]
  refine(Apj (s:=[78,79,84]) (i:=0) (fun _ _=>rfl) (l.length+1) l (by omega) (by omega)).trans ?_
  cases hq:part (Dp [78,79,84] l).2 with
  |error q=>rw [hq] at hp;cases hp
  |ok x =>
   obtain⟨e1,l1⟩:=x
   rw [hq] at hp
   cases hp
   simp only [h.ok _ n a e1 l' (by omega) hq,Zc1,Nat.zero_add]
   exact(Aps (c:=fun e=>some (e,l',n,false,a)) (fun _ _=>rfl) (by omega) (l.length+1) 0 e1 (Nat.zero_le _) (by omega)).trans rfl
 er l n a q hl hp:=by
  have hs:=Nl [78,79,84] l
  rw [J3] at hp
  cases hq:part (Dp [78,79,84] l).2 with
  |ok x=>rw [hq] at hp;cases hp
  |error q' =>
   rw [hq] at hp
   cases hp
   obtain⟨e1,l1,h1⟩:=h.er _ n a q (by omega) hq
   refine⟨Mg 3 (Dp [78,79,84] l).1 e1,l1,?_⟩
   simp only [Ik,K4]
   refine(Apj (s:=[78,79,84]) (i:=0) (fun _ _=>rfl) (l.length+1) l (by omega) (by omega)).trans ?_
   simp only [h1,Zc1,Nat.zero_add]
   exact(Aps (c:=fun e=>some (e,l1,n,true,Ge n q)) (fun _ _=>rfl) (by omega) (l.length+1) 0 e1 (Nat.zero_le _) (by omega)).trans rfl
 bad:=Avx h.bad
theorem A3v{R:Type}(rf:Aw→Option Au) {kx:Ex→Zz→Option R}{S:List PairS}(hn:ln S.length) {l:TL}{n a:Int}{z1 z2 e:Xpr}{c1:Xpr→TL→Int→Bool→Int→Option R}{c2:Option R}(h1:∀i l n b a e,kx (.exit 1) (S,S,(S.length:Int),i,l,n,b,a,z1,z2,e)=c1 e l n b a) (h2:kx (.exit 2) (S,S,(S.length:Int),(S.length:Int),l,n,false,a,z1,z2,e)=c2):∀(k i:Nat),i≤S.length→S.length-i<k →
  Al (fun rc=>Ada rf rc kx) k (S,S,(S.length:Int),(i:Int),l,n,false,a,z1,z2,e)=match(S.drop i).find? (fun p=>isT p.sign l) with
   |none=>c2
   |some p=>(Ik rf (l.tail,n,false,a)).bind fun(x,y1,y2,y3,y4)=>c1 (mkX p.kind [e,x]) y1 y2 y3 y4
 |0,_,_,hk=>absurd hk (Zm1 _)
 |k+1,i,hi,hk=>by
  rw [Bh]
  by_cases hlt:i<S.length
  ·rw [Av hlt]
   simp only [Ada,Gb hlt,Ae,Be hlt,chk,Bc (c :=.pair) hlt,A3 hlt hn,List.find?_cons]
   cases ht:isT S[i].sign l with
   |true =>
    simp only [Ez ht,Zc1,Ae,h1]
    rfl
   |false=>simp only [Ef ht,Zc1,Ah,A3v rf hn h1 h2 k (i+1) (by omega) (by omega)]
  ·obtain rfl:i=S.length:=by omega
   simp only [Ada,Fz,Ah,h2,Zc2,List.find?_nil]
theorem Ajw{R:Type}{rf:Aw→Option Au}{part:TL→PR Xpr}{L:Nat}(h:SimP (Ik rf) part L) (hp:Cm part) {kx:Ex→N1→Option R}{S:List PairS}(hn:ln S.length) {n a:Int}{z1 z2:Xpr}{c:Xpr→TL→Bool→Int→Option R}(hx:∀l b a e,kx (.exit 0) (S,l,n,b,a,z1,z2,e)=c e l b a) (K:Nat) (hK:S.length<K):∀(k m:Nat) (e:Xpr) (l:TL),l.length<L→l.length<k→l.length<m →
  match Bv part (prs S) m e l with
  |.ok (e',l')=>Al (fun rec=>Ab8 K rf rec kx) k (S,l,n,false,a,z1,z2,e)=c e' l' false a
  |.error q=>∃e' l',Al (fun rec=>Ab8 K rf rec kx) k (S,l,n,false,a,z1,z2,e)=c e' l' true (Ge n q)
 |0,_,_,_,_,hk,_=>absurd hk (Zm1 _)
 |_,0,_,_,_,_,hk=>absurd hk (Zm1 _)
 |k+1,m+1,e,l,hl,hk,hm=>by
  have hin:=fun(rec:N1→Option R)=>A3v (R:=R) rf (kx:=fun e vz=>match vz with|(v5,_,_,_,v9,v10,v11,v12,v13,v14,v15)=>match e with
   |.exit 1=>rec (v5,v9,v10,v11,v12,v13,v14,v15)
   |.exit 2=>kx (.exit 0) (v5,v9,v10,v11,v12,v13,v14,v15)
   |_=>none) hn (l:=l) (n:=n) (a:=a) (z1:=z1) (z2:=z2) (e:=e) (c1:=fun e l n b a=>rec (S,l,n,b,a,z1,z2,e)) (fun _ _ _ _ _ _=>rfl) rfl K 0 (Nat.zero_le _) (by omega)
  have hit:∀rec:N1→Option R,Ab8 K rf rec kx (S,l,n,false,a,z1,z2,e)=_:=hin
  have hf:=Lw l S
  rw [Bh]
  simp only [Bv,hit,Zq1]
  cases hs:S.find? (fun p=>isT p.sign l) with
  |none =>
   rw [hs] at hf
   simp only [Option.map_none] at hf
   rw [hf]
   exact hx _ _ _ _
  |some p =>
   rw [hs] at hf
   simp only [Zl2] at hf
   rw [hf]
   have hi:isT p.sign l=true:=by simpa using List.find?_some hs
   have hlt:=Iv hi
   cases hq:part l.tail with
   |error q =>
    obtain⟨e1,l1,h1⟩:=h.er l.tail n a q (by omega) hq
    simp only [h1,Zc1]
    obtain⟨k,rfl⟩:∃k',k=k'+1:=⟨k-1,by omega⟩
    exact⟨mkX p.kind [e,e1],l1,hx _ _ _ _⟩
   |ok x =>
    obtain⟨x,l1⟩:=x
    have h3:=hp _ _ _ hq
    simp only [h.ok l.tail n a x l1 (by omega) hq,Zc1]
    exact Ajw h hp hn hx K hK k m (mkX p.kind [e,x]) l1 (by omega) (by omega) (by omega)
theorem Asd{rf:Aw→Option Au}(h:It (Ik rf)):It (Hm rf):=fun l n a=>by
 obtain⟨e1,h1⟩:=h l n a
 simp only [Hm,Jd,h1,Zc1]
 exact⟨e1,rfl⟩
theorem A8v{rf:Aw→Option Au}{part:TL→PR Xpr}{L:Nat}(h:SimP (Ik rf) part L) (hp:Cm part):SimP (Hm rf) (Ce part (prs [PairS.mk [65,78,68] 4])) L where
 ok l n a e l' hl hq:=by
  simp only [Ce] at hq
  cases hr:part l with
  |error q=>rw [hr] at hq;cases hq
  |ok x =>
   obtain⟨e1,l1⟩:=x
   rw [hr] at hq
   have h3:=hp _ _ _ hr
   simp only at hq
   have:=Ajw h hp (S:=[PairS.mk [65,78,68] 4]) (by simp [ln]) (n:=n) (a:=a) (z1:=Xpr.mk 0 ⟨0,0,[]⟩ [] []) (z2:=Xpr.mk 0 ⟨0,0,[]⟩ [] []) (c:=fun e l b a=>some (e,l,n,b,a)) (kx:=fun e vz=>match vz with|(_,v17,v18,v19,v20,_,_,v23)=>match e with
    |.exit 0=>some (v23,v17,v18,v19,v20)
    |_=>none) (fun _ _ _ _=>rfl) (l.length+3) (by simp) (l.length+3) (l1.length+1) e1 l1 (by omega) (by omega) (by omega)
   rw [hq] at this
   simp only [Hm,Jd,h.ok l n a e1 l1 hl hr,Zc1]
   exact this
 er l n a q hl hq:=by
  simp only [Ce] at hq
  cases hr:part l with
  |error q' =>
   rw [hr] at hq
   cases hq
   obtain⟨e1,l1,h1⟩:=h.er l n a q hl hr
   simp only [Hm,Jd,h1,Zc1]
   exact⟨e1,l1,rfl⟩
  |ok x =>
   obtain⟨e1,l1⟩:=x
   rw [hr] at hq
   have h3:=hp _ _ _ hr
   simp only at hq
   have:=Ajw h hp (S:=[PairS.mk [65,78,68] 4]) (by simp [ln]) (n:=n) (a:=a) (z1:=Xpr.mk 0 ⟨0,0,[]⟩ [] []) (z2:=Xpr.mk 0 ⟨0,0,[]⟩ [] []) (c:=fun e l b a=>some (e,l,n,b,a)) (kx:=fun e vz=>match vz with|(_,v17,v18,v19,v20,_,_,v23)=>match e with
    |.exit 0=>some (v23,v17,v18,v19,v20)
    |_=>none) (fun _ _ _ _=>rfl) (l.length+3) (by simp) (l.length+3) (l1.length+1) e1 l1 (by omega) (by omega) (by omega)
   rw [hq] at this
   simp only [Hm,Jd,h.ok l n a e1 l1 hl hr,Zc1]
   exact this
 bad:=Asd h.bad
theorem A98{R:Type}(rf:Aw→Option Au) {kx:Ex→Agp→Option R}{S:List PairS}(hn:ln S.length) {l:TL}{n a:Int}{z1 z2 e:Xpr}{c1:Xpr→TL→Int→Bool→Int→Option R}{c2:Option R}(h1:∀i l n b a e,kx (.exit 1) (S,S,(S.length:Int),i,l,n,b,a,z1,z2,e)=c1 e l n b a) (h2:kx (.exit 2) (S,S,(S.length:Int),(S.length:Int),l,n,false,a,z1,z2,e)=c2):∀(k i:Nat),i≤S.length→S.length-i<k →
  Al (fun rc=>Al3 rf rc kx) k (S,S,(S.length:Int),(i:Int),l,n,false,a,z1,z2,e)=match(S.drop i).find? (fun p=>isT p.sign l) with
   |none=>c2
   |some p=>(Hm rf (l.tail,n,false,a)).bind fun(x,y1,y2,y3,y4)=>c1 (mkX p.kind [e,x]) y1 y2 y3 y4
 |0,_,_,hk=>absurd hk (Zm1 _)
 |k+1,i,hi,hk=>by
  rw [Bh]
  by_cases hlt:i<S.length
  ·rw [Av hlt]
   simp only [Al3,Gb hlt,Ae,Be hlt,chk,Bc (c :=.pair) hlt,A3 hlt hn,List.find?_cons]
   cases ht:isT S[i].sign l with
   |true =>
    simp only [Ez ht,Zc1,Ae,h1]
    rfl
   |false=>simp only [Ef ht,Zc1,Ah,A98 rf hn h1 h2 k (i+1) (by omega) (by omega)]
  ·obtain rfl:i=S.length:=by omega
   simp only [Al3,Fz,Ah,h2,Zc2,List.find?_nil]
theorem Ar7{R:Type}{rf:Aw→Option Au}{part:TL→PR Xpr}{L:Nat}(h:SimP (Hm rf) part L) (hp:Cm part) {kx:Ex→U5→Option R}{S:List PairS}(hn:ln S.length) {n a:Int}{z1 z2:Xpr}{c:Xpr→TL→Bool→Int→Option R}(hx:∀l b a e,kx (.exit 0) (S,l,n,b,a,z1,z2,e)=c e l b a) (K:Nat) (hK:S.length<K):∀(k m:Nat) (e:Xpr) (l:TL),l.length<L→l.length<k→l.length<m →
  match Bv part (prs S) m e l with
  |.ok (e',l')=>Al (fun rec=>Am3 K rf rec kx) k (S,l,n,false,a,z1,z2,e)=c e' l' false a
  |.error q=>∃e' l',Al (fun rec=>Am3 K rf rec kx) k (S,l,n,false,a,z1,z2,e)=c e' l' true (Ge n q)
 |0,_,_,_,_,hk,_=>absurd hk (Zm1 _)
 |_,0,_,_,_,_,hk=>absurd hk (Zm1 _)
 |k+1,m+1,e,l,hl,hk,hm=>by
  have hin:=fun(rec:U5→Option R)=>A98 (R:=R) rf (kx:=fun e vz=>match vz with|(v5,_,_,_,v9,v10,v11,v12,v13,v14,v15)=>match e with
   |.exit 1=>rec (v5,v9,v10,v11,v12,v13,v14,v15)
   |.exit 2=>kx (.exit 0) (v5,v9,v10,v11,v12,v13,v14,v15)
   |_=>none) hn (l:=l) (n:=n) (a:=a) (z1:=z1) (z2:=z2) (e:=e) (c1:=fun e l n b a=>rec (S,l,n,b,a,z1,z2,e)) (fun _ _ _ _ _ _=>rfl) rfl K 0 (Nat.zero_le _) (by omega)
  have hit:∀rec:U5→Option R,Am3 K rf rec kx (S,l,n,false,a,z1,z2,e)=_:=hin
  have hf:=Lw l S
  rw [Bh]
  simp only [Bv,hit,Zq1]
  cases hs:S.find? (fun p=>isT p.sign l) with
  |none =>
   rw [hs] at hf
   simp only [Option.map_none] at hf
   rw [hf]
   exact hx _ _ _ _
  |some p =>
   rw [hs] at hf
   simp only [Zl2] at hf
   rw [hf]
   have hi:isT p.sign l=true:=by simpa using List.find?_some hs
   have hlt:=Iv hi
   cases hq:part l.tail with
   |error q =>
    obtain⟨e1,l1,h1⟩:=h.er l.tail n a q (by omega) hq
    simp only [h1,Zc1]
    obtain⟨k,rfl⟩:∃k',k=k'+1:=⟨k-1,by omega⟩
    exact⟨mkX p.kind [e,e1],l1,hx _ _ _ _⟩
   |ok x =>
    obtain⟨x,l1⟩:=x
    have h3:=hp _ _ _ hq
    simp only [h.ok l.tail n a x l1 (by omega) hq,Zc1]
    exact Ar7 h hp hn hx K hK k m (mkX p.kind [e,x]) l1 (by omega) (by omega) (by omega)
theorem A3f{rf:Aw→Option Au}(h:It (Hm rf)):It (Q9 rf):=fun l n a=>by
 obtain⟨e1,h1⟩:=h l n a
 simp only [Q9,Li,h1,Zc1]
 exact⟨e1,rfl⟩
theorem Bgu{rf:Aw→Option Au}{part:TL→PR Xpr}{L:Nat}(h:SimP (Hm rf) part L) (hp:Cm part):SimP (Q9 rf) (Ce part (prs [PairS.mk [79,82] 5])) L where
 ok l n a e l' hl hq:=by
  simp only [Ce] at hq
  cases hr:part l with
  |error q=>rw [hr] at hq;cases hq
  |ok x =>
   obtain⟨e1,l1⟩:=x
   rw [hr] at hq
   have h3:=hp _ _ _ hr
   simp only at hq
   have:=Ar7 h hp (S:=[PairS.mk [79,82] 5]) (by simp [ln]) (n:=n) (a:=a) (z1:=Xpr.mk 0 ⟨0,0,[]⟩ [] []) (z2:=Xpr.mk 0 ⟨0,0,[]⟩ [] []) (c:=fun e l b a=>some (e,l,n,b,a)) (kx:=fun e vz=>match vz with|(_,v17,v18,v19,v20,_,_,v23)=>match e with
    |.exit 0=>some (v23,v17,v18,v19,v20)
    |_=>none) (fun _ _ _ _=>rfl) (l.length+3) (by simp) (l.length+3) (l1.length+1) e1 l1 (by omega) (by omega) (by omega)
   rw [hq] at this
   simp only [Q9,Li,h.ok l n a e1 l1 hl hr,Zc1]
   exact this
 er l n a q hl hq:=by
  simp only [Ce] at hq
  cases hr:part l with
  |error q' =>
   rw [hr] at hq
   cases hq
   obtain⟨e1,l1,h1⟩:=h.er l n a q hl hr
   simp only [Q9,Li,h1,Zc1]
   exact⟨e1,l1,rfl⟩
  |ok x =>
   obtain⟨e1,l1⟩:=x
   rw [hr] at hq
   have h3:=hp _ _ _ hr
   simp only at hq
   have:=Ar7 h hp (S:=[PairS.mk [79,82] 5]) (by simp [ln]) (n:=n) (a:=a) (z1:=Xpr.mk 0 ⟨0,0,[]⟩ [] []) (z2:=Xpr.mk 0 ⟨0,0,[]⟩ [] []) (c:=fun e l b a=>some (e,l,n,b,a)) (kx:=fun e vz=>match vz with|(_,v17,v18,v19,v20,_,_,v23)=>match e with
    |.exit 0=>some (v23,v17,v18,v19,v20)
    |_=>none) (fun _ _ _ _=>rfl) (l.length+3) (by simp) (l.length+3) (l1.length+1) e1 l1 (by omega) (by omega) (by omega)
   rw [hq] at this
   simp only [Q9,Li,h.ok l n a e1 l1 hl hr,Zc1]
   exact this
 bad:=A3f h.bad
theorem Bjd(rf:Aw→Option Au):It (Q9 rf):=A3f (Asd (Avx (Ave (Au4 (Aat (Asq (Amp rf)))))))
theorem Bn2{rf:Aw→Option Au}{L:Nat}(h:SimP rf orW L) (hL:L+1≤1000000000):SimP (Q9 rf) orW (L+1):=by
 have e:orW=lev orW 1:=funext A3j
 have e7:=Ho (s:=[45]) (k:=15) (Xz G0)
 have e6:=Fj (sg:=[([42],14)]) e7
 have e5:=Fj (sg:=[([43],12),([45],13)]) e6
 have e3:Cm (A9 sNOT 3 _):=Ho (Ajc e5)
 have e2:=Fj (sg:=[(Aj3,4)]) e3
 have:=Bgu (A8v (Bcv (Bam (A81 (Aqa (A89 (A5n h) hL) e7) e6) e5) hL) e3) e2
 rw [e]
 exact this
theorem Aq5:∀m:Nat,m≤1000000000→SimP (Al (V:=Aw) (R:=Au) Q9 (m+1)) orW m
 |0,_=>⟨fun _ _ _ _ _ h=>absurd h (Zm1 _),fun _ _ _ _ h=>absurd h (Zm1 _),Bjd _⟩
 |m+1,h=>Bn2 (Aq5 m (by omega)) h
theorem Sq{L:Nat}(hL:L≤1000000000):SimP Ff orW L where
 ok l n a e l' hl hp:=(Aq5 (l.length+1) (by omega)).ok l n a e l' (by omega) hp
 er l n a q hl hp:=(Aq5 (l.length+1) (by omega)).er l n a q (by omega) hp
 bad l n a:=Bjd _ l n a
end Go.Proofs.YthndhaolemgbdaaGreatDoor
namespace Go.Proofs.YthndhaolemgbdaaGreatDoor
open Go.Ax
def Out{α γ:Type}(g : α→TL→γ) (E:Int→γ→Prop) (n:Int) (x:Option γ) (y:PR α):Prop:=match y with
 |.ok (r,l)=>x=some (g r l)
 |.error q=>∃z,x=some z∧E (Ge n q) z
def Bz{γ:Type}(E:Int→γ→Prop) (b:Int) (x:Option γ):Prop:=∃z,x=some z∧E b z
section
variable {α β γ:Type}{g : β→TL→γ}{E:Int→γ→Prop}{n a:Int}
theorem Out.bindS{F:RS→Option (α×RS)}{p:TL→PR α}{L:Nat}(h:SimP F p L) {G : α×RS→Option γ}{f : α→TL→PR β}{l:TL}(hl:l.length<L) (h1:∀r l',p l = .ok (r,l')→Out g E n (G (r,l',n,false,a)) (f r l')) (h2:∀r l' b,Bz E b (G (r,l',n,true,b))):Out g E n ((F (l,n,false,a)).bind G) (bP p f l):=by
 unfold bP
 cases hq:p l with
 |error q =>
  obtain⟨e1,l1,h3⟩:=h.er l n a q hl hq
  rw [h3]
  exact h2 e1 l1 (Ge n q)
 |ok x =>
  obtain⟨r,l'⟩:=x
  rw [h.ok l n a r l' hl hq]
  exact h1 r l' hq
theorem Bz.bindS{F:RS→Option (α×RS)}(h:It F) {G : α×RS→Option γ}{l:TL}{b:Int}(h2:∀r,Bz E b (G (r,l,n,true,b))):Bz E b ((F (l,n,true,b)).bind G):=by
 obtain⟨e,h1⟩:=h l n b
 rw [h1]
 exact h2 e
theorem Out.must{ss:List Str}(hs:ss.length≤100) {G:RS→Option γ}{f:Unit→TL→PR β}{l:TL}(h1:∀l',A5 ss l = .ok ((),l')→Out g E n (G (l',n,false,a)) (f () l')) (h2:∀l' b,Bz E b (G (l',n,true,b))):Out g E n ((Ai (ss,l,n,false,a)).bind G) (bP (A5 ss) f l):=by
 unfold bP
 rw [Apx hs]
 cases hq:A5 ss l with
 |error q=>exact h2 q (Ge n q)
 |ok x =>
  obtain⟨⟨⟩,l'⟩:=x
  exact h1 l' hq
theorem Bz.must{ss:List Str}{G:RS→Option γ}{l:TL}{b:Int}(h2:Bz E b (G (l,n,true,b))):Bz E b ((Ai (ss,l,n,true,b)).bind G):=by
 rw [Qx]
 exact h2
theorem Out.loop{part:TL→PR α}{m:Nat}{acc:List α}{l:TL}{X:Option γ}(c:List α→TL→Bool→Int→Option γ) {f:List α→TL→PR β}(hX:∀e l',Bb part m acc l = .ok (e,l')→X=c e l' false a) (hE:∀q,Bb part m acc l = .error q→∃e l',X=c e l' true (Ge n q)) (h1:∀e l',Bb part m acc l = .ok (e,l')→Out g E n (c e l' false a) (f e l')) (h2:∀e l' b,Bz E b (c e l' true b)):Out g E n X (bP (Bb part m acc) f l):=by
 unfold bP
 cases hq:Bb part m acc l with
 |error q =>
  obtain⟨e,l',h⟩:=hE q hq
  rw [h]
  exact h2 e l' (Ge n q)
 |ok x =>
  obtain⟨e,l'⟩:=x
  rw [hX e l' hq]
  exact h1 e l' hq
end
theorem Uw{α β:Type}(part:TL→PR α) (f:List α→TL→PR β) (l:TL):bP (G1 part) f l=bP part (fun x l'=>bP (Bb part (l'.length+1) [x]) f l') l:=by
 simp only [bP,G1]
 cases part l with
 |error q=>rfl
 |ok x=>rfl
theorem Bgc{α:Type}(part:TL→PR α) (l:TL):G1 part l=bP part (fun x l'=>bP (Bb part (l'.length+1) [x]) Cn l') l:=by
 simp only [bP,G1,Cn]
 cases part l with
 |error q=>rfl
 |ok x =>
  obtain⟨x,l'⟩:=x
  simp only
  cases Bb part (l'.length+1) [x] l'<;>rfl
abbrev gV {α:Type}(n a:Int) (r : α) (l:TL) : α×RS:=(r,l,n,false,a)
abbrev EV {α:Type}(n:Int) (p:Int) (z : α×RS):Prop:=z.2.2.1=n∧z.2.2.2.1=true∧z.2.2.2.2=p
theorem SimP.of{α:Type}{F:RS→Option (α×RS)}{p:TL→PR α}{L:Nat}(h:∀l n a,l.length<L→Out (gV n a) (EV n) n (F (l,n,false,a)) (p l)) (hb:It F):SimP F p L where
 ok l n a e l' hl hp:=by
  have:=h l n a hl
  rw [hp] at this
  exact this
 er l n a q hl hp:=by
  have:=h l n a hl
  rw [hp] at this
  obtain⟨⟨r,l',n',b,p'⟩,h1,h2,h3,h4⟩:=this
  simp only at h2 h3 h4
  subst h2 h3 h4
  exact⟨r,l',h1⟩
 bad:=hb
theorem Gi:Cm B0:=fun l e l' h=>by
 cases l with
 |nil=>cases h
 |cons t r =>
  simp only [B0] at h
  cases hk:decide (t.kind=2) with
  |true=>rw [hk] at h;cases h;simp
  |false=>rw [hk] at h;cases h
theorem R7{R:Type}{kx:Ex→Hg→Option R}{n:Int}{c:List Str→TL→Bool→Int→Option R}(hk:∀acc l b a,kx (.exit 0) (l,n,b,a,acc)=c acc l b a) {L:Nat}(hs:SimP As B0 L) (he:Cm B0) (a:Int):∀(k m:Nat) (acc:List Str) (l:TL),l.length<L→l.length<k→l.length<m→acc.length+l.length≤1000000000 →
  match Bb B0 m acc l with
  |.ok (e,l')=>Al (fun rec=>Gw rec kx) k (l,n,false,a,acc)=c e l' false a
  |.error q=>∃e l',Al (fun rec=>Gw rec kx) k (l,n,false,a,acc)=c e l' true (Ge n q)
 |0,_,_,_,_,h,_,_=>absurd h (Zm1 _)
 |_,0,_,_,_,_,h,_=>absurd h (Zm1 _)
 |k+1,m+1,acc,l,hl,h1,h2,h3=>by
  have hm:decide (acc.length+1≤Am)=true:=Ze1 (by simp only [Am];omega)
  simp only [Bh,Gw,Zs1,Ae,Bb]
  cases hi:isT [44] l with
  |false=>simp only [Ef hi,Zc1,Ah,hk]
  |true =>
   have hlt:=Iv hi
   simp only [Ez hi,Zc1,Ae]
   cases hq:B0 l.tail with
   |error q =>
    obtain⟨e1,l1,h4⟩:=hs.er l.tail n a q (by omega) hq
    simp only [h4,Zc1,hm,chk]
    obtain⟨k,rfl⟩:∃k',k=k'+1:=⟨k-1,by omega⟩
    exact⟨acc++[e1],l1,hk _ _ _ _⟩
   |ok x =>
    obtain⟨x,l1⟩:=x
    have h5:=he _ _ _ hq
    simp only [hs.ok l.tail n a x l1 (by omega) hq,Zc1,hm,chk]
    exact R7 hk hs he a k m (acc++[x]) l1 (by omega) (by omega) (by omega) (by simp only [Zh1,Zf1,Zi1];omega)
theorem Axt{R:Type}{kx:Ex→Hg→Option R}{n:Int}{c:List Str→TL→Bool→Int→Option R}(hk:∀acc l b a,kx (.exit 0) (l,n,b,a,acc)=c acc l b a) {L:Nat}(hs:SimP As B0 L) (he:Cm B0) {a:Int}{k m:Nat}{acc:List Str}{l:TL}(h1:l.length<L) (h2:l.length<k) (h3:l.length<m) (h4:acc.length+l.length≤1000000000) (e:List Str) (l':TL) (h:Bb B0 m acc l = .ok (e,l')):Al (fun rec=>Gw rec kx) k (l,n,false,a,acc)=c e l' false a:=by
 have:=R7 hk hs he a k m acc l h1 h2 h3 h4
 rw [h] at this
 exact this
theorem Awk{R:Type}{kx:Ex→Hg→Option R}{n:Int}{c:List Str→TL→Bool→Int→Option R}(hk:∀acc l b a,kx (.exit 0) (l,n,b,a,acc)=c acc l b a) {L:Nat}(hs:SimP As B0 L) (he:Cm B0) {a:Int}{k m:Nat}{acc:List Str}{l:TL}(h1:l.length<L) (h2:l.length<k) (h3:l.length<m) (h4:acc.length+l.length≤1000000000) (q:TL) (h:Bb B0 m acc l = .error q):∃e l',Al (fun rec=>Gw rec kx) k (l,n,false,a,acc)=c e l' true (Ge n q):=by
 have:=R7 hk hs he a k m acc l h1 h2 h3 h4
 rw [h] at this
 exact this
theorem Xt{R:Type}{kx:Ex→Hg→Option R}{n a:Int}{l:TL}{acc:List Str}(k:Nat):Al (fun rec=>Gw rec kx) (k+1) (l,n,true,a,acc)=kx (.exit 0) (l,n,true,a,acc):=by
 simp only [Bh,Gw,Zt1,Ah]
theorem T7{R:Type}{kx:Ex→Hn→Option R}{n:Int}{c:List Xpr→TL→Bool→Int→Option R}(hk:∀acc l b a,kx (.exit 0) (l,n,b,a,acc)=c acc l b a) {L:Nat}(hs:SimP Ff orW L) (he:Cm orW) (a:Int):∀(k m:Nat) (acc:List Xpr) (l:TL),l.length<L→l.length<k→l.length<m→acc.length+l.length≤1000000000 →
  match Bb orW m acc l with
  |.ok (e,l')=>Al (fun rec=>Gx rec kx) k (l,n,false,a,acc)=c e l' false a
  |.error q=>∃e l',Al (fun rec=>Gx rec kx) k (l,n,false,a,acc)=c e l' true (Ge n q)
 |0,_,_,_,_,h,_,_=>absurd h (Zm1 _)
 |_,0,_,_,_,_,h,_=>absurd h (Zm1 _)
 |k+1,m+1,acc,l,hl,h1,h2,h3=>by
  have hm:decide (acc.length+1≤Am)=true:=Ze1 (by simp only [Am];omega)
  simp only [Bh,Gx,Zs1,Ae,Bb]
  cases hi:isT [44] l with
  |false=>simp only [Ef hi,Zc1,Ah,hk]
  |true =>
   have hlt:=Iv hi
   simp only [Ez hi,Zc1,Ae]
   cases hq:orW l.tail with
   |error q =>
    obtain⟨e1,l1,h4⟩:=hs.er l.tail n a q (by omega) hq
    simp only [h4,Zc1,hm,decide_true,Bool.and_self,chk]
    obtain⟨k,rfl⟩:∃k',k=k'+1:=⟨k-1,by omega⟩
    exact⟨acc++[e1],l1,hk _ _ _ _⟩
   |ok x =>
    obtain⟨x,l1⟩:=x
    have h5:=he _ _ _ hq
    simp only [hs.ok l.tail n a x l1 (by omega) hq,Zc1,hm,decide_true,Bool.and_self,chk]
    exact T7 hk hs he a k m (acc++[x]) l1 (by omega) (by omega) (by omega) (by simp only [Zh1,Zf1,Zi1];omega)
theorem Azx{R:Type}{kx:Ex→Hn→Option R}{n:Int}{c:List Xpr→TL→Bool→Int→Option R}(hk:∀acc l b a,kx (.exit 0) (l,n,b,a,acc)=c acc l b a) {L:Nat}(hs:SimP Ff orW L) (he:Cm orW) {a:Int}{k m:Nat}{acc:List Xpr}{l:TL}(h1:l.length<L) (h2:l.length<k) (h3:l.length<m) (h4:acc.length+l.length≤1000000000) (e:List Xpr) (l':TL) (h:Bb orW m acc l = .ok (e,l')):Al (fun rec=>Gx rec kx) k (l,n,false,a,acc)=c e l' false a:=by
 have:=T7 hk hs he a k m acc l h1 h2 h3 h4
 rw [h] at this
 exact this
theorem Axo{R:Type}{kx:Ex→Hn→Option R}{n:Int}{c:List Xpr→TL→Bool→Int→Option R}(hk:∀acc l b a,kx (.exit 0) (l,n,b,a,acc)=c acc l b a) {L:Nat}(hs:SimP Ff orW L) (he:Cm orW) {a:Int}{k m:Nat}{acc:List Xpr}{l:TL}(h1:l.length<L) (h2:l.length<k) (h3:l.length<m) (h4:acc.length+l.length≤1000000000) (q:TL) (h:Bb orW m acc l = .error q):∃e l',Al (fun rec=>Gx rec kx) k (l,n,false,a,acc)=c e l' true (Ge n q):=by
 have:=T7 hk hs he a k m acc l h1 h2 h3 h4
 rw [h] at this
 exact this
theorem Ajj{R:Type}{kx:Ex→Hn→Option R}{n a:Int}{l:TL}{acc:List Xpr}(k:Nat):Al (fun rec=>Gx rec kx) (k+1) (l,n,true,a,acc)=kx (.exit 0) (l,n,true,a,acc):=by
 simp only [Bh,Gx,Zt1,Ah]
theorem Ed:It As:=(Cs 0).bad
theorem Ab2:It Ff:=(Sq (L:=0) (by omega)).bad
theorem Acv:It C4:=fun l n a=>by
 obtain⟨e1,h1⟩:=Ab2 l n a
 simp only [C4,Jo,h1,Zc1,Ajj]
 exact⟨[e1],rfl⟩
theorem Aox{L:Nat}(hL:L≤1000000000):SimP C4 M7 L :=.of (fun l n a hl=>by
 unfold M7
 rw [Bgc]
 simp only [C4,Jo]
 refine Out.bindS (Sq hL) hl (fun r l' hp =>?_) (fun r l' b =>?_)
 ·have h5:=G0 _ _ _ hp
  have hm:decide (0+1≤Am)=true:=Ze1 (by simp only [Am];omega)
  simp only [hm,decide_true,Bool.and_self,chk,Ae]
  have hl':[r].length+l'.length≤1000000000:=by simp only [Zf1,Zi1];omega
  refine Out.loop (a:=a) (fun acc l b a=>some (acc,l,n,b,a)) (Azx (fun _ _ _ _=>rfl) (Sq hL) G0 (by omega) (by omega) (by omega) hl') (Axo (fun _ _ _ _=>rfl) (Sq hL) G0 (by omega) (by omega) (by omega) hl') (fun e l2 _ =>?_) (fun e l2 b =>?_)
  ·exact rfl
  ·exact⟨_,rfl,rfl,rfl,rfl⟩
 ·have hm:decide (0+1≤Am)=true:=Ze1 (by simp only [Am];omega)
  simp only [hm,decide_true,Bool.and_self,chk,Ae,Ajj]
  exact⟨_,rfl,rfl,rfl,rfl⟩) Acv
theorem I0:It Dt:=fun l n a=>by
 obtain⟨e1,h1⟩:=Ed l n a
 simp only [Dt,Jq,Qx,h1,Zc1,Xt]
 exact⟨[e1],rfl⟩
theorem Alt{L:Nat}(hL:L≤1000000000):SimP Dt Nb L :=.of (fun l n a hl=>by
 unfold Nb
 simp only [Dt,Jq]
 refine Out.must (by decide) (fun l0 h0 =>?_) (fun l0 b =>?_)
 ·have hl0:l0.length≤l.length:=by
   cases hi:isT [40] l with
   |true=>rw [Ady hi] at h0;cases h0;exact A6 l
   |false=>rw [Ahu hi] at h0;cases h0
  rw [Uw]
  refine Out.bindS (Cs L) (show l0.length<L by omega) (fun r l' hp =>?_) (fun r l' b =>?_)
  ·have h5:l'.length<l0.length:=Gi _ _ _ hp
   have hl':[r].length+l'.length≤1000000000:=by simp only [Zf1,Zi1];omega
   refine Out.loop (a:=a) (fun acc l b a=>(Ai ([[41]],l,n,b,a)).bind fun(x19,x20,x21,x22)=>some (acc,x19,x20,x21,x22)) (Axt (fun _ _ _ _=>rfl) (Cs L) Gi (by omega) (by omega) (by omega) hl') (Awk (fun _ _ _ _=>rfl) (Cs L) Gi (by omega) (by omega) (by omega) hl') (fun e l2 _ =>?_) (fun e l2 b =>?_)
   ·exact Out.must (by decide) (fun l3 _=>rfl) (fun l3 b=>⟨_,rfl,rfl,rfl,rfl⟩)
   ·exact Bz.must ⟨_,rfl,rfl,rfl,rfl⟩
  ·simp only [Xt]
   exact Bz.must ⟨_,rfl,rfl,rfl,rfl⟩
 ·refine Bz.bindS Ed (fun r =>?_)
  simp only [Xt]
  exact Bz.must ⟨_,rfl,rfl,rfl,rfl⟩) I0
end Go.Proofs.YthndhaolemgbdaaGreatDoor
namespace Go.Proofs.YthndhaolemgbdaaGreatDoor
open Go.Ax
section
variable {V R α:Type}{step:(V→Option R)→V→Option R}{st:TL→Int→Bool→Int→List α→V}{n:Int}{Fp:RS→Option (α×RS)}{part:TL→PR α}{L:Nat}{c:List α→TL→Bool→Int→Option R}
theorem Ahs(hs:SimP Fp part L) (he:Cm part)
  (hg:∀rec l a acc,acc.length≤1000000000→isT [44] l=true→step rec (st l n false a acc)=(Fp (l.tail,n,false,a)).bind fun z=>rec (st z.2.1 z.2.2.1 z.2.2.2.1 z.2.2.2.2 (acc++[z.1])))
  (hf:∀rec l a acc,isT [44] l=false→step rec (st l n false a acc)=c acc l false a)
  (hb:∀rec l a acc,step rec (st l n true a acc)=c acc l true a) (a:Int):∀(k m:Nat) (acc:List α) (l:TL),l.length<L→l.length<k→l.length<m→acc.length+l.length≤1000000000 →
  match Bb part m acc l with
  |.ok (e,l')=>Al step k (st l n false a acc)=c e l' false a
  |.error q=>∃e l',Al step k (st l n false a acc)=c e l' true (Ge n q)
 |0,_,_,_,_,h,_,_=>absurd h (Zm1 _)
 |_,0,_,_,_,_,h,_=>absurd h (Zm1 _)
 |k+1,m+1,acc,l,hl,h1,h2,h3=>by
  simp only [Bh,Bb]
  cases hi:isT [44] l with
  |false=>exact hf _ l a acc hi
  |true =>
   have hlt:=Iv hi
   simp only [hg _ l a acc (by omega) hi]
   cases hq:part l.tail with
   |error q =>
    obtain⟨e1,l1,h4⟩:=hs.er l.tail n a q (by omega) hq
    simp only [h4,Zc1]
    obtain⟨k,rfl⟩:∃k',k=k'+1:=⟨k-1,by omega⟩
    exact⟨acc++[e1],l1,hb _ _ _ _⟩
   |ok x =>
    obtain⟨x,l1⟩:=x
    have h5:=he _ _ _ hq
    simp only [hs.ok l.tail n a x l1 (by omega) hq,Zc1]
    exact Ahs hs he hg hf hb a k m (acc++[x]) l1 (by omega) (by omega) (by omega) (by simp only [Zh1,Zf1,Zi1];omega)
theorem Aqp(hs:SimP Fp part L) (he:Cm part)
  (hg:∀rec l a acc,acc.length≤1000000000→isT [44] l=true→step rec (st l n false a acc)=(Fp (l.tail,n,false,a)).bind fun z=>rec (st z.2.1 z.2.2.1 z.2.2.2.1 z.2.2.2.2 (acc++[z.1])))
  (hf:∀rec l a acc,isT [44] l=false→step rec (st l n false a acc)=c acc l false a)
  (hb:∀rec l a acc,step rec (st l n true a acc)=c acc l true a) {a:Int}{k m:Nat}{acc:List α}{l:TL}(h1:l.length<L) (h2:l.length<k) (h3:l.length<m) (h4:acc.length+l.length≤1000000000) (e:List α) (l':TL) (h:Bb part m acc l = .ok (e,l')):Al step k (st l n false a acc)=c e l' false a:=by
 have:=Ahs hs he hg hf hb a k m acc l h1 h2 h3 h4
 rw [h] at this
 exact this
theorem Arw(hs:SimP Fp part L) (he:Cm part)
  (hg:∀rec l a acc,acc.length≤1000000000→isT [44] l=true→step rec (st l n false a acc)=(Fp (l.tail,n,false,a)).bind fun z=>rec (st z.2.1 z.2.2.1 z.2.2.2.1 z.2.2.2.2 (acc++[z.1])))
  (hf:∀rec l a acc,isT [44] l=false→step rec (st l n false a acc)=c acc l false a)
  (hb:∀rec l a acc,step rec (st l n true a acc)=c acc l true a) {a:Int}{k m:Nat}{acc:List α}{l:TL}(h1:l.length<L) (h2:l.length<k) (h3:l.length<m) (h4:acc.length+l.length≤1000000000) (q:TL) (h:Bb part m acc l = .error q):∃e l',Al step k (st l n false a acc)=c e l' true (Ge n q):=by
 have:=Ahs hs he hg hf hb a k m acc l h1 h2 h3 h4
 rw [h] at this
 exact this
end
abbrev Cl:=Int×Str×Str×List Col×List Str×List Xpr×List (List Xpr)×List SetE×Bool×Int×Int×Int×Str×Str×List Xpr×List Str×List Bool×Int
abbrev ES (n:Int) (p:Int) (z:TL×Int×Bool×Int×Cl):Prop:=z.2.1=n∧z.2.2.1=true∧z.2.2.2.1=p
theorem Agu(l:TL) (n a:Int) (z:Cl):Cg (l,n,true,a,z)=some (l,n,true,a,z):=by
 obtain⟨sk,sn,so,sc,ss,sl,sr,st,sh,wk,vk,vn,vs,wn,wl,sd,se,sm⟩:=z
 simp only [Cg,Mo,Zt1,Ah]
theorem Ac5{L:Nat}(hL:L≤1000000000) (n a sk:Int) (sn so:Str) (sc:List Col) (ss:List Str) (sl:List Xpr) (sr:List (List Xpr)) (st:List SetE) (sd:List Str) (se:List Bool) (sm:Int) {l:TL}(hl:l.length<L) :
  Out (fun(w:Bool×Xpr) l'=>((l',n,false,a,sk,sn,so,sc,ss,sl,sr,st,w.1,w.2.kind,w.2.v.kind,w.2.v.n,w.2.v.s,w.2.name,w.2.l,sd,se,sm):TL×Int×Bool×Int×Cl)) (ES n) n (Cg (l,n,false,a,sk,sn,so,sc,ss,sl,sr,st,false,0,0,0,[],[],[],sd,se,sm)) (Fo l):=by
 simp only [Cg,Mo,Zs1,Ae,Fo]
 cases hi:isT wWHERE l with
 |false =>
  simp only [Ef (s:=[87,72,69,82,69]) hi,Zc1,Ah]
  exact rfl
 |true =>
  have ht:=A6 l
  simp only [Ez (s:=[87,72,69,82,69]) hi,Zc1,Ae]
  cases hq:orW l.tail with
  |error q =>
   obtain⟨e1,l1,h1⟩:=(Sq hL).er l.tail n a q (by omega) hq
   simp only [h1,Zc1]
   exact⟨_,rfl,rfl,rfl,rfl⟩
  |ok x =>
   obtain⟨x,l1⟩:=x
   simp only [(Sq hL).ok l.tail n a x l1 (by omega) hq,Zc1]
   exact rfl
end Go.Proofs.YthndhaolemgbdaaGreatDoor
namespace Go.Proofs.YthndhaolemgbdaaGreatDoor
open Go.Ax
def Aq4(s:RS):Option (SetE×RS):=(As s).bind fun(x28,x29,x30,x31,x32) =>
 (Ai ([[61]],x29,x30,x31,x32)).bind fun(x33,x34,x35,x36) =>
  (Ff (x33,x34,x35,x36)).bind fun(x37,x38,x39,x40,x41)=>some (SetE.mk x28 (Kj x37),x38,x39,x40,x41)
theorem Arn{s:Str}{l l':TL}{x:Unit}(h:A5 [s] l = .ok (x,l')):l'.length≤l.length:=by
 cases hi:isT s l with
 |true=>rw [Ady hi] at h;cases h;exact A6 l
 |false=>rw [Ahu hi] at h;cases h
theorem Apo:It Aq4:=fun l n a=>by
 obtain⟨e1,h1⟩:=Ed l n a
 obtain⟨e2,h2⟩:=Ab2 l n a
 simp only [Aq4,h1,Qx,h2,Zc1]
 exact⟨_,rfl⟩
theorem Ark{L:Nat}(hL:L≤1000000000):SimP Aq4 Aw7 L :=.of (fun l n a hl=>by
 unfold Aw7 Aq4
 refine Out.bindS (Cs L) hl (fun r l1 h1 =>?_) (fun r l1 b =>?_)
 ·have q1:l1.length<l.length:=Gi _ _ _ h1
  refine Out.must (by decide) (fun l2 h2 =>?_) (fun l2 b =>?_)
  ·have q2:=Arn h2
   refine Out.bindS (Sq hL) (show l2.length<L by omega) (fun e l3 h3 =>?_) (fun e l3 b =>?_)
   ·show some (SetE.mk r (Kj e),l3,n,false,a)=some (gV n a ⟨r,e⟩ l3)
    rw [Jn]
   ·exact⟨_,rfl,rfl,rfl,rfl⟩
  ·exact Bz.bindS Ab2 (fun e=>⟨_,rfl,rfl,rfl,rfl⟩)
 ·exact Bz.must (Bz.bindS Ab2 (fun e=>⟨_,rfl,rfl,rfl,rfl⟩))) Apo
theorem G2{α β:Type}{p:TL→PR α}{f : α→TL→PR β}{l l':TL}{e : β}(h:bP p f l = .ok (e,l')):∃x l1,p l = .ok (x,l1)∧f x l1 = .ok (e,l'):=by
 unfold bP at h
 cases hq:p l with
 |error q=>rw [hq] at h;cases h
 |ok x =>
  obtain⟨x,l1⟩:=x
  rw [hq] at h
  exact⟨x,l1,rfl,h⟩
theorem Aa7:Cm Aw7:=fun l e l' h=>by
 obtain⟨x,l1,h1,h⟩:=G2 h
 obtain⟨_,l2,h2,h⟩:=G2 h
 obtain⟨y,l3,h3,h⟩:=G2 h
 have q1:=Gi _ _ _ h1
 have q2:=Arn h2
 have q3:=G0 _ _ _ h3
 cases h
 omega
abbrev upV (sn so:Str) (sc:List Col) (ss:List Str) (sl:List Xpr) (sr:List (List Xpr)) (sd:List Str) (se:List Bool) (sm:Int) (l:TL) (n:Int) (b:Bool) (a:Int) (acc:List SetE):Dr:=(l,n,b,a,6,sn,so,sc,ss,sl,sr,acc,false,0,0,0,[],[],[],sd,se,sm)
section
variable {R:Type}{kx:Ex→Dr→Option R}{n:Int}{sn so:Str}{sc:List Col}{ss:List Str}{sl:List Xpr}{sr:List (List Xpr)}{sd:List Str}{se:List Bool}{sm:Int}
theorem Boo(rec:Dr→Option R) (l:TL) (a:Int) (acc:List SetE) (ha:acc.length≤1000000000) (hi:isT [44] l=true):Ds rec kx (upV sn so sc ss sl sr sd se sm l n false a acc)=(Aq4 (l.tail,n,false,a)).bind fun z=>rec (upV sn so sc ss sl sr sd se sm z.2.1 z.2.2.1 z.2.2.2.1 z.2.2.2.2 (acc++[z.1])):=by
 have hm:decide (acc.length+1≤Am)=true:=Ze1 (by simp only [Am];omega)
 simp only [Ds,Zs1,Ae,Ez hi,Zc1,Aq4]
 cases As (l.tail,n,false,a) with
 |none=>rfl
 |some x =>
  simp only [Zc1]
  cases Ai ([[61]],x.2) with
  |none=>rfl
  |some y =>
   simp only [Zc1]
   cases Ff y with
   |none=>rfl
   |some z=>simp only [Zc1,hm,chk,Ae]
theorem Bna(rec:Dr→Option R) (l:TL) (a:Int) (acc:List SetE) (hi:isT [44] l=false):Ds rec kx (upV sn so sc ss sl sr sd se sm l n false a acc)=kx (.exit 0) (upV sn so sc ss sl sr sd se sm l n false a acc):=by
 simp only [Ds,Zs1,Ae,Ef hi,Zc1,Ah]
theorem Bkh(rec:Dr→Option R) (l:TL) (a:Int) (acc:List SetE):Ds rec kx (upV sn so sc ss sl sr sd se sm l n true a acc)=kx (.exit 0) (upV sn so sc ss sl sr sd se sm l n true a acc):=by
 simp only [Ds,Zt1,Ah]
end
end Go.Proofs.YthndhaolemgbdaaGreatDoor
namespace Go.Proofs.YthndhaolemgbdaaGreatDoor
open Go.Ax
theorem Out.map{α β γ:Type}{g : α→TL→γ}{g' : β→TL→γ}{E:Int→γ→Prop}{n:Int}{x:Option γ}{p:TL→PR α}{h : α→β}{l:TL}(ho:Out g E n x (p l)) (hg:∀r l',g r l' = g' (h r) l'):Out g' E n x (bP p (fun w=>Cn (h w)) l):=by
 unfold bP
 cases hq:p l with
 |error q=>rw [hq] at ho;exact ho
 |ok y =>
  obtain⟨r,l'⟩:=y
  rw [hq] at ho
  exact ho.trans (congrArg some (hg r l'))
def Axw(s:Stm):Cl:=(s.kind,s.name,s.on,s.cols,s.names,s.l,s.rows,s.sets,s.has,s.whr.kind,s.whr.v.kind,s.whr.v.n,s.whr.v.s,s.whr.name,s.whr.l,s.order,s.desc,s.most)
abbrev gS (n a:Int) (s:Stm) (l:TL):TL×Int×Bool×Int×Cl:=(l,n,false,a,Axw s)
abbrev z0:Cl:=(0,[],[],[],[],[],[],[],false,0,0,0,[],[],[],[],[],0)
abbrev upX (nm:Str):=upV nm [] [] [] [] [] [] [] 0
def upK(e:Ex) (v:Dr):Option Iy:=match e with
 |.exit 0=>Cg v
 |_=>none
theorem Bjx(l:TL) (n:Int) (b:Bool) (a:Int):Iw (l,n,b,a,z0)=(As (l,n,b,a)).bind fun x=>(Ai ([[83,69,84]],x.2)).bind fun y=>(Aq4 y).bind fun z=>Al (fun rec=>Ds rec upK) (l.length+3) (upX x.1 z.2.1 z.2.2.1 z.2.2.2.1 z.2.2.2.2 [z.1]):=by
 have hk:∀(e:Ex) (vz:Dr),(match vz with|(v,v1,v2,v3,v4,v5,v6,v7,v8,v9,v10,v11,v12,v13,v14,v15,v16,v17,v18,v19,v20,v21)=>match e with
   |.exit 0=>(Cg (v,v1,v2,v3,v4,v5,v6,v7,v8,v9,v10,v11,v12,v13,v14,v15,v16,v17,v18,v19,v20,v21)).bind fun(x42,x43,x44,x45,x46,x47,x48,x49,x50,x51,x52,x53,x54,x55,x56,x57,x58,x59,x60,x61,x62,x63)=>some (x42,x43,x44,x45,x46,x47,x48,x49,x50,x51,x52,x53,x54,x55,x56,x57,x58,x59,x60,x61,x62,x63)
   |_=>none:Option Iy)=upK e vz:=fun e vz=>by
  match e with
  |.exit 0 =>
   show(Cg vz).bind (fun x=>some x)=Cg vz
   cases Cg vz<;>rfl
  |.exit (_+1)=>rfl
  |.ret=>rfl
  |.normal=>rfl
 have hm:decide (([]:List SetE).length+1≤Am)=true:=Ze1 (by simp only [Am,Zi1];omega)
 unfold Iw
 show(As (l,n,b,a)).bind _=_
 cases As (l,n,b,a) with
 |none=>rfl
 |some x =>
  show(Ai ([[83,69,84]],x.2)).bind _=(Ai ([[83,69,84]],x.2)).bind _
  cases Ai ([[83,69,84]],x.2) with
  |none=>rfl
  |some y =>
   show(As y).bind _=(Aq4 y).bind _
   unfold Aq4
   cases As y with
   |none=>rfl
   |some x9 =>
    show(Ai ([[61]],x9.2)).bind _=Option.bind ((Ai ([[61]],x9.2)).bind _) _
    cases Ai ([[61]],x9.2) with
    |none=>rfl
    |some y2 =>
     show(Ff y2).bind _=Option.bind ((Ff y2).bind _) _
     cases Ff y2 with
     |none=>rfl
     |some z =>
      obtain⟨z1,z2,z3,z4,z5⟩:=z
      have hk2:=funext fun e=>funext fun vz=>hk e vz
      rw [←hk2]
      simp only [Zc1]
      rw [hm]
      rfl
theorem Acw{α:Type}{part:TL→PR α}(he:Cm part):∀{m:Nat}{acc:List α}{l:TL}{e:List α}{l':TL},Bb part m acc l = .ok (e,l')→l'.length≤l.length
 |0,_,_,_,_,h=>by cases h
 |m+1,acc,l,e,l',h=>by
  simp only [Bb] at h
  cases hi:isT [44] l with
  |false=>rw [hi] at h;cases h;exact Zn1 _
  |true =>
   rw [hi] at h
   simp only at h
   cases hq:part l.tail with
   |error q=>rw [hq] at h;cases h
   |ok x =>
    obtain⟨x,l1⟩:=x
    rw [hq] at h
    have h1:=he _ _ _ hq
    have h2:=Acw he h
    have h3:=A6 l
    omega
theorem Ayv(nm:Str) (k:Nat) (l:TL) (n a:Int) (acc:List SetE):Bz (ES n) a (Al (fun rec=>Ds rec upK) (k+1) (upX nm l n true a acc)):=by
 rw [Bh,Bkh]
 exact⟨_,Agu l n a _,rfl,rfl,rfl⟩
theorem Az9{L:Nat}(hL:L≤1000000000) {l:TL}(hl:l.length<L) (n a:Int):Out (gS n a) (ES n) n (Iw (l,n,false,a,z0)) (G7 l):=by
 rw [Bjx]
 unfold G7
 refine Out.bindS (Cs L) hl (fun nm l1 h1 =>?_) (fun nm l1 b=>Bz.must (Bz.bindS Apo fun x=>Ayv nm _ l1 n b [x]))
 have q1:l1.length<l.length:=Gi _ _ _ h1
 refine Out.must (by decide) (fun l2 h2 =>?_) (fun l2 b=>Bz.bindS Apo fun x=>Ayv nm _ l2 n b [x])
 have q2:=Arn h2
 rw [Uw]
 refine Out.bindS (Ark hL) (show l2.length<L by omega) (fun x l3 h3 =>?_) (fun x l3 b=>Ayv nm _ l3 n b [x])
 have q3:l3.length<l2.length:=Aa7 _ _ _ h3
 have q4:[x].length+l3.length≤1000000000:=by simp only [Zf1,Zi1];omega
 refine Out.loop (a:=a) (fun acc l b a=>upK (.exit 0) (upX nm l n b a acc))
  (Aqp (step:=fun rec=>Ds rec upK) (st:=upX nm) (n:=n) (c:=fun acc l b a=>upK (.exit 0) (upX nm l n b a acc)) (Ark hL) Aa7 (fun rec l a acc ha hi=>Boo rec l a acc ha hi) (fun rec l a acc hi=>Bna rec l a acc hi) (fun rec l a acc=>Bkh rec l a acc) (a:=a) (k:=l.length+3) (m:=l3.length+1) (acc:=[x]) (l:=l3) (by omega) (by omega) (by omega) q4)
  (Arw (step:=fun rec=>Ds rec upK) (st:=upX nm) (n:=n) (c:=fun acc l b a=>upK (.exit 0) (upX nm l n b a acc)) (Ark hL) Aa7 (fun rec l a acc ha hi=>Boo rec l a acc ha hi) (fun rec l a acc hi=>Bna rec l a acc hi) (fun rec l a acc=>Bkh rec l a acc) (a:=a) (k:=l.length+3) (m:=l3.length+1) (acc:=[x]) (l:=l3) (by omega) (by omega) (by omega) q4) (fun acc l4 h4 =>?_) (fun acc l4 b=>⟨_,Agu l4 n b _,rfl,rfl,rfl⟩)
 have q5:l4.length≤l3.length:=Acw Aa7 h4
 exact Out.map (Ac5 hL n a 6 nm [] [] [] [] [] acc [] [] 0 (show l4.length<L by omega)) (fun w l'=>rfl)
end Go.Proofs.YthndhaolemgbdaaGreatDoor
namespace Go.Proofs.YthndhaolemgbdaaGreatDoor
open Go.Ax
def A4a(c:Col) (s:RS):Option (Col×RS):=cond (!s.2.2.1) ((Ao ([82,69,70,69,82,69,78,67,69,83],s)).bind fun z=>cond z.1 ((As z.2).bind fun y=>some (Col.mk c.name c.kind c.notNull c.unique y.1,y.2)) (some (c,z.2))) (some (c,s))
def Avf(c:Col) (s:RS):Option (Col×RS):=cond (!s.2.2.1) ((Ao ([85,78,73,81,85,69],s)).bind fun z=>A4a (Col.mk c.name c.kind c.notNull z.1 c.ref) z.2) (A4a (Col.mk c.name c.kind c.notNull false c.ref) s)
def A8y(c:Col) (s:RS):Option (Col×RS):=cond c.notNull ((Ai ([[78,85,76,76]],s)).bind fun y=>Avf c y) (Avf c s)
def Auz(c:Col) (s:RS):Option (Col×RS):=cond (!s.2.2.1) ((Ao ([78,79,84],s)).bind fun z=>A8y (Col.mk c.name c.kind z.1 c.unique c.ref) z.2) (A8y (Col.mk c.name c.kind false c.unique c.ref) s)
def A5z(e:Ex) (v:Ia):Option Arx:=match e with
 |.exit 0=>cond (decide (v.2.2.2.2.2.2.kind=0)) ((Cj (v.2.1,v.2.2.1,v.2.2.2.1,v.2.2.2.2.1)).bind fun y=>Auz v.2.2.2.2.2.2 y) (Auz v.2.2.2.2.2.2 (v.2.1,v.2.2.1,v.2.2.2.1,v.2.2.2.2.1))
 |_=>none
abbrev c0 (nm:Str):Col:=Col.mk nm 0 false false []
theorem A4b(l:TL) (n:Int) (b:Bool) (a:Int):J9 (l,n,b,a)=(As (l,n,b,a)).bind fun x=>Al (fun rec=>Gq rec A5z) 10 (0,x.2.1,x.2.2.1,x.2.2.2.1,x.2.2.2.2,c0 [],c0 x.1):=by
 unfold J9
 show(As (l,n,b,a)).bind _=_
 cases As (l,n,b,a) with
 |none=>rfl
 |some x =>
  obtain⟨x0,x1,x2,x3,x4⟩:=x
  simp only [Zc1]
  refine congrFun (congrArg (fun kx=>Al (fun rec=>Gq rec kx) 10) ?_) _
  funext e v
  match e with
  |.exit 0 =>
   obtain⟨v1,v2,v3,v4,v5,v6,v7⟩:=v
   rfl
  |.exit (_+1)=>rfl
  |.ret=>rfl
  |.normal=>rfl
section
variable {R:Type}{kx:Ex→Ia→Option R}(rec:Ia→Option R) (w:TL) (n a:Int) (z:Col) (nm:Str)
theorem pc0(b:Bool) (c:Col):Gq rec kx (0,w,n,b,a,z,c)=rec (1,w,n,b,a,z,c):=rfl
theorem pc1(b:Bool) (c:Col):Gq rec kx (1,w,n,b,a,z,c)=rec (2,w,n,b,a,z,c):=rfl
theorem pc2:Gq rec kx (2,w,n,false,a,z,c0 nm)=(Ao ([66,79,79,76],w,n,false,a)).bind fun(x5,x6,x7,x8,x9)=>cond x5 (rec (3,x6,x7,x8,x9,z,Col.mk nm 2 false false [])) (rec (3,x6,x7,x8,x9,z,c0 nm)):=rfl
theorem pc3:Gq rec kx (3,w,n,false,a,z,c0 nm)=(Ao ([73,78,84],w,n,false,a)).bind fun(x5,x6,x7,x8,x9)=>cond x5 (rec (4,x6,x7,x8,x9,z,Col.mk nm 3 false false [])) (rec (4,x6,x7,x8,x9,z,c0 nm)):=rfl
theorem pc4:Gq rec kx (4,w,n,false,a,z,c0 nm)=(Ao ([84,69,88,84],w,n,false,a)).bind fun(x5,x6,x7,x8,x9)=>cond x5 (rec (5,x6,x7,x8,x9,z,Col.mk nm 4 false false [])) (rec (5,x6,x7,x8,x9,z,c0 nm)):=rfl
theorem pc5:Gq rec kx (5,w,n,false,a,z,c0 nm)=(Ao ([66,89,84,69,83],w,n,false,a)).bind fun(x5,x6,x7,x8,x9)=>cond x5 (rec (6,x6,x7,x8,x9,z,Col.mk nm 5 false false [])) (rec (6,x6,x7,x8,x9,z,c0 nm)):=rfl
end
theorem A8t{R:Type}{kx:Ex→Ia→Option R}(l:TL) (n a:Int) (z:Col) (nm:Str):Al (fun rec=>Gq rec kx) 10 (0,l,n,false,a,z,c0 nm)=match L2 l with
  |.ok (k,l')=>kx (.exit 0) (6,l',n,false,a,z,Col.mk nm k false false [])
  |.error q=>kx (.exit 0) (6,q,n,false,a,z,c0 nm):=by
 have e:∀(m:Nat) (v:Ia),Al (fun rec=>Gq rec kx) (m+1) v=Gq (Al (fun rec=>Gq rec kx) m) kx v:=fun _ _=>rfl
 rw [e 9,pc0,e 8,pc1,e 7,pc2]
 unfold L2
 cases h2:isT Afh l with
 |true =>
  rw [Ez (s:=[66,79,79,76]) h2]
  rfl
 |false =>
  rw [Ef (s:=[66,79,79,76]) h2]
  simp only [Zc1,Ah]
  rw [e 6,pc3]
  cases h3:isT As8 l with
  |true =>
   rw [Ez (s:=[73,78,84]) h3]
   rfl
  |false =>
   rw [Ef (s:=[73,78,84]) h3]
   simp only [Zc1,Ah]
   rw [e 5,pc4]
   cases h4:isT Aei l with
   |true =>
    rw [Ez (s:=[84,69,88,84]) h4]
    rfl
   |false =>
    rw [Ef (s:=[84,69,88,84]) h4]
    simp only [Zc1,Ah]
    rw [e 4,pc5]
    cases h5:isT T4 l with
    |true =>
     rw [Ez (s:=[66,89,84,69,83]) h5]
     rfl
    |false =>
     rw [Ef (s:=[66,89,84,69,83]) h5]
     rfl
theorem A2r{R:Type}{kx:Ex→Ia→Option R}(l:TL) (n a:Int) (z c:Col):Al (fun rec=>Gq rec kx) 10 (0,l,n,true,a,z,c)=kx (.exit 0) (6,l,n,true,a,z,c):=rfl
theorem Bhg(c:Col) (l:TL) (n a:Int):Avf c (l,n,true,a)=some (Col.mk c.name c.kind c.notNull false c.ref,l,n,true,a):=rfl
theorem Apu(c:Col) (l:TL) (n a:Int):Auz c (l,n,true,a)=some (Col.mk c.name c.kind false false c.ref,l,n,true,a):=rfl
section
variable {L:Nat}(n a:Int) (nm:Str) (k:Int)
theorem Ao0(nn u:Bool) {l:TL}(hl:l.length<L):Out (gV n a) (EV n) n (A4a (Col.mk nm k nn u []) (l,n,false,a)) (bP Afo (fun r=>Cn (Col.mk nm k nn u r)) l):=by
 unfold A4a Afo bP
 simp only [Zs1,Ae]
 cases hi:isT wREF l with
 |false =>
  rw [Ef (s:=[82,69,70,69,82,69,78,67,69,83]) hi]
  exact rfl
 |true =>
  have ht:=A6 l
  rw [Ez (s:=[82,69,70,69,82,69,78,67,69,83]) hi]
  simp only [Zc1,Ae]
  cases hq:B0 l.tail with
  |error q =>
   obtain⟨e1,l1,h1⟩:=(Cs L).er l.tail n a q (by omega) hq
   rw [h1]
   exact⟨_,rfl,rfl,rfl,rfl⟩
  |ok x =>
   obtain⟨x,l1⟩:=x
   rw [(Cs L).ok l.tail n a x l1 (by omega) hq]
   exact rfl
theorem Alu(nn:Bool) {l:TL}(hl:l.length<L):Out (gV n a) (EV n) n (Avf (Col.mk nm k nn false []) (l,n,false,a)) (bP (Rj wUNIQUE []) (fun u=>bP Afo fun r=>Cn (Col.mk nm k nn u r)) l):=by
 unfold Avf Rj
 simp only [Zs1,Ae]
 cases hi:isT wUNIQUE l with
 |false =>
  rw [Ef (s:=[85,78,73,81,85,69]) hi]
  have:=Ao0 (L:=L) n a nm k nn false hl
  unfold bP at this ⊢
  simp only [hi]
  exact this
 |true =>
  have ht:=A6 l
  rw [Ez (s:=[85,78,73,81,85,69]) hi]
  have:=Ao0 (L:=L) n a nm k nn true (l:=l.tail) (by omega)
  unfold bP at this ⊢
  simp only [hi,A5]
  exact this
theorem A63{l:TL}(hl:l.length<L):Out (gV n a) (EV n) n (Auz (Col.mk nm k false false []) (l,n,false,a)) (bP (Rj sNOT [sNULL]) (fun nn=>bP (Rj wUNIQUE []) fun u=>bP Afo fun r=>Cn (Col.mk nm k nn u r)) l):=by
 unfold Auz Rj
 simp only [Zs1,Ae]
 cases hi:isT sNOT l with
 |false =>
  rw [Ef (s:=[78,79,84]) hi]
  have:=Alu (L:=L) n a nm k false hl
  unfold bP at this ⊢
  simp only [hi]
  exact this
 |true =>
  have ht:=A6 l
  rw [Ez (s:=[78,79,84]) hi]
  simp only [Zc1,A8y,Ae]
  cases hu:isT sNULL l.tail with
  |false =>
   rw [Uk (by decide) (Ahu (s:=[78,85,76,76]) hu)]
   unfold bP
   simp only [hi,A5,hu]
   exact⟨_,Bhg _ _ _ _,rfl,rfl,rfl⟩
  |true =>
   have ht2:=A6 l.tail
   rw [Uv (by decide) (Ady (s:=[78,85,76,76]) hu)]
   have:=Alu (L:=L) n a nm k true (l:=l.tail.tail) (by omega)
   unfold bP at this ⊢
   simp only [hi,A5,hu]
   exact this
end
theorem A30{l l':TL}{k:Int}(h:L2 l = .ok (k,l')):k≠0∧l'.length≤l.length:=by
 have ht:=A6 l
 unfold L2 at h
 split at h
 ·cases h;exact⟨by decide,ht⟩
 ·split at h
  ·cases h;exact⟨by decide,ht⟩
  ·split at h
   ·cases h;exact⟨by decide,ht⟩
   ·split at h
    ·cases h;exact⟨by decide,ht⟩
    ·cases h
theorem Blz(l:TL) (n b:Int) (z c:Col):Bz (EV n) b (A5z (.exit 0) (6,l,n,true,b,z,c)):=by
 unfold A5z
 simp only [Yo,Zc1,Apu]
 cases decide (c.kind=0)<;>exact⟨_,rfl,rfl,rfl,rfl⟩
theorem A1o:It J9:=fun l n a=>by
 obtain⟨e1,h1⟩:=Ed l n a
 rw [A4b,h1]
 simp only [Zc1]
 rw [A2r]
 unfold A5z
 simp only [Yo,Zc1,Apu]
 exact⟨_,by cases decide ((c0 e1).kind=0)<;>rfl⟩
theorem Bf6{L:Nat}:SimP J9 A0b L :=.of (fun l n a hl=>by
 rw [A4b]
 unfold A0b
 refine Out.bindS (Cs L) hl (fun nm l1 h1 =>?_) (fun nm l1 b =>?_)
 ·have q1:l1.length<l.length:=Gi _ _ _ h1
  simp only
  rw [A8t]
  unfold bP
  cases hk:L2 l1 with
  |error q =>
   simp only
   unfold A5z
   simp only [Uy,Zc1,Apu]
   exact⟨_,rfl,rfl,rfl,rfl⟩
  |ok x =>
   obtain⟨k,l2⟩:=x
   obtain⟨q2,q3⟩:=A30 hk
   simp only
   unfold A5z
   simp only [Zd1 q2,Ah]
   exact A63 (L:=L) n a nm k (by omega)
 ·simp only
  rw [A2r]
  exact Blz _ _ _ _ _) A1o
end Go.Proofs.YthndhaolemgbdaaGreatDoor
namespace Go.Proofs.YthndhaolemgbdaaGreatDoor
open Go.Ax
theorem B5:∀{ss:List Str}{l l':TL}{x:Unit},A5 ss l = .ok (x,l')→l'.length≤l.length
 |[],_,_,_,h=>by cases h;exact Zn1 _
 |s::ss,l,l',x,h=>by
  simp only [A5] at h
  have ht:=A6 l
  cases hi:isT s l with
  |true=>rw [hi] at h;have:=B5 (ss:=ss) h;omega
  |false=>rw [hi] at h;cases h
theorem Ii{l l':TL}{x:Str}(h:B0 l = .ok (x,l')):l'.length<l.length:=Gi _ _ _ h
theorem A9d:Cm A0b:=fun l e l' h=>by
 obtain⟨x,l1,h1,h⟩:=G2 h
 obtain⟨k,l2,h2,h⟩:=G2 h
 obtain⟨nn,l3,h3,h⟩:=G2 h
 obtain⟨u,l4,h4,h⟩:=G2 h
 obtain⟨r,l5,h5,h⟩:=G2 h
 have q1:=Ii h1
 have q2:=(A30 h2).2
 have opt:∀{s:Str}{ss:List Str}{b:Bool}{l l':TL},Rj s ss l = .ok (b,l')→l'.length≤l.length:=fun {s ss b l l'} h=>by
  unfold Rj at h
  have ht:=A6 l
  split at h
  ·split at h
   ·cases h
   ·rename_i y l6 hm
    cases h
    have:=B5 hm
    omega
  ·cases h;exact Zn1 _
 have q3:=opt h3
 have q4:=opt h4
 have q5:l5.length≤l4.length:=by
  unfold Afo at h5
  have ht:=A6 l4
  split at h5
  ·have:=Ii h5;omega
  ·cases h5;exact Zn1 _
 cases h
 omega
def Wd(s:RS):Option (Col×RS):=(J9 s).bind fun c=>(Ai ([[44]],c.2)).bind fun y=>some (c.1,y)
theorem Aix:It Wd:=fun l n a=>by
 obtain⟨e1,h1⟩:=A1o l n a
 simp only [Wd,h1,Qx,Zc1]
 exact⟨_,rfl⟩
theorem Ah9{L:Nat}:SimP Wd Si L :=.of (fun l n a hl=>by
 unfold Wd Si
 refine Out.bindS Bf6 hl (fun c l1 h1 =>?_) (fun c l1 b=>Bz.must ⟨_,rfl,rfl,rfl,rfl⟩)
 exact Out.must (by decide) (fun l2 h2=>rfl) (fun l2 b=>⟨_,rfl,rfl,rfl,rfl⟩)) Aix
theorem Ux:Cm Si:=fun l e l' h=>by
 obtain⟨x,l1,h1,h⟩:=G2 h
 obtain⟨_,l2,h2,h⟩:=G2 h
 have q1:=A9d _ _ _ h1
 have q2:=B5 h2
 cases h
 omega
section
variable {V R:Type}{step:(V→Option R)→V→Option R}{st:TL→Int→Bool→Int→List Col→V}{n:Int}{L:Nat}{c:List Col→TL→Bool→Int→Option R}
theorem Ank
  (hg:∀rec l a acc,acc.length≤1000000000→isT wPRIMARY l=false→step rec (st l n false a acc)=(Wd (l,n,false,a)).bind fun z=>rec (st z.2.1 z.2.2.1 z.2.2.2.1 z.2.2.2.2 (acc++[z.1])))
  (hf:∀rec l a acc,isT wPRIMARY l=true→step rec (st l n false a acc)=c acc l.tail false a)
  (hb:∀rec l a acc,step rec (st l n true a acc)=c acc l true a) (a:Int):∀(k m:Nat) (acc:List Col) (l:TL),l.length<L→l.length+1<k→l.length<m→acc.length+l.length≤1000000000 →
  match Ga m acc l with
  |.ok (e,l')=>Al step k (st l n false a acc)=c e l' false a
  |.error q=>∃e l',Al step k (st l n false a acc)=c e l' true (Ge n q)
 |0,_,_,_,_,h,_,_=>absurd h (Zm1 _)
 |_,0,_,_,_,_,h,_=>absurd h (Zm1 _)
 |k+1,m+1,acc,l,hl,h1,h2,h3=>by
  simp only [Bh,Ga]
  cases hi:isT wPRIMARY l with
  |true=>exact hf _ l a acc hi
  |false =>
   simp only [hg _ l a acc (by omega) hi]
   cases hq:Si l with
   |error q =>
    obtain⟨e1,l1,h4⟩:=(Ah9 (L:=L)).er l n a q hl hq
    simp only [h4,Zc1]
    obtain⟨k,rfl⟩:∃k',k=k'+1:=⟨k-1,by omega⟩
    exact⟨acc++[e1],l1,hb _ _ _ _⟩
   |ok x =>
    obtain⟨x,l1⟩:=x
    have h5:=Ux _ _ _ hq
    simp only [(Ah9 (L:=L)).ok l n a x l1 hl hq,Zc1]
    exact Ank hg hf hb a k m (acc++[x]) l1 (by omega) (by omega) (by omega) (by simp only [Zh1,Zf1,Zi1];omega)
end
theorem Ao3:∀{m:Nat}{acc:List Col}{l:TL}{e:List Col}{l':TL},Ga m acc l = .ok (e,l')→l'.length≤l.length
 |0,_,_,_,_,h=>by cases h
 |m+1,acc,l,e,l',h=>by
  simp only [Ga] at h
  have ht:=A6 l
  cases hi:isT wPRIMARY l with
  |true=>rw [hi] at h;cases h;exact ht
  |false =>
   rw [hi] at h
   simp only at h
   cases hq:Si l with
   |error q=>rw [hq] at h;cases h
   |ok x =>
    obtain⟨x,l1⟩:=x
    rw [hq] at h
    have h1:=Ux _ _ _ hq
    have h2:=Ao3 h
    omega
def Alq(s:RS):Option (Xpr×RS):=(Ai ([[67,72,69,67,75],[40]],s)).bind fun y=>(Ff y).bind fun z=>(Ai ([[41]],z.2)).bind fun w=>some (z.1,w)
theorem Bd2:It Alq:=fun l n a=>by
 obtain⟨e1,h1⟩:=Ab2 l n a
 simp only [Alq,h1,Qx,Zc1]
 exact⟨_,rfl⟩
theorem Asf{L:Nat}(hL:L≤1000000000):SimP Alq Afn L :=.of (fun l n a hl=>by
 unfold Alq Afn
 refine Out.must (by decide) (fun l1 h1 =>?_) (fun l1 b=>Bz.bindS Ab2 fun e=>Bz.must ⟨_,rfl,rfl,rfl,rfl⟩)
 have q1:=B5 h1
 refine Out.bindS (Sq hL) (show l1.length<L by omega) (fun e l2 h2 =>?_) (fun e l2 b=>Bz.must ⟨_,rfl,rfl,rfl,rfl⟩)
 exact Out.must (by decide) (fun l3 h3=>rfl) (fun l3 b=>⟨_,rfl,rfl,rfl,rfl⟩)) Bd2
theorem As3:Cm Afn:=fun l e l' h=>by
 obtain⟨_,l1,h1,h⟩:=G2 h
 obtain⟨x,l2,h2,h⟩:=G2 h
 obtain⟨_,l3,h3,h⟩:=G2 h
 have q1:=B5 h1
 have q2:=G0 _ _ _ h2
 have q3:=B5 h3
 cases h
 omega
end Go.Proofs.YthndhaolemgbdaaGreatDoor
namespace Go.Proofs.YthndhaolemgbdaaGreatDoor
open Go.Ax
open Lp (tokS Sc A4)
theorem Bgy{k:Int}(hk : 2≤k∧k≤5):Rd L2 dlm Cz Cz (at' .str kindsL k) k:=by
 have:k=2∨k=3∨k=4∨k=5:=by omega
 rcases this with rfl|rfl|rfl|rfl
 ·exact(Lx.word (w:=Afh) (by decide +kernel)).mono (fun _ h=>h) fun ts q vs _=>⟨trivial,by simp only [L2,Di q,Dd q]⟩
 ·exact(Lx.word (w:=As8) (by decide +kernel)).mono (fun _ h=>h) fun ts q vs _=>⟨trivial,by simp only [L2,Acb q (show ¬Afh=As8 by decide),Di q,Dd q]⟩
 ·exact(Lx.word (w:=Aei) (by decide +kernel)).mono (fun _ h=>h) fun ts q vs _=>⟨trivial,by simp only [L2,Acb q (show ¬Afh=Aei by decide),Acb q (show ¬As8=Aei by decide),Di q,Dd q]⟩
 ·exact(Lx.word (w:=T4) (by decide +kernel)).mono (fun _ h=>h) fun ts q vs _=>⟨trivial,by simp only [L2,Acb q (show ¬Afh=T4 by decide),Acb q (show ¬As8=T4 by decide),Acb q (show ¬Aei=T4 by decide),Di q,Dd q]⟩
theorem A8w{w a:Str}{ss V:List Str}(hw:¬w∈V) (h:Lx dlm a fun ts=>∃t1 t2,ts=t1++t2∧IsW w t1∧∀vs,A5 ss (t2++vs) = .ok ((),vs)) (b:Bool):Rd (Rj w ss) dlm (No (w::V)) (No V) (cond b a []) b:=by
 cases b with
 |false=>exact Lx.nil fun vs hv=>⟨U0 (fun x hx=>Zu1 _ hx) hv,by simp only [Rj,Zf2,hv w Zr1]⟩
 |true =>
  refine h.mono (fun _ h=>h) fun ts q vs hv =>?_
  obtain⟨t1,t2,rfl,q1,q2⟩:=q
  rw [Zj1]
  exact⟨Aes hw (Di q1 _),by simp only [Rj,Di q1,Dd q1,q2]⟩
theorem Bmk{c:Col}(hc:c.ref=[]∨Bm c.ref=true) {V:List Str}(hw:¬wREF∈V):Rd Afo dlm (No (wREF::V)) (No V) (A71 c) c.ref:=by
 unfold A71
 by_cases h:c.ref=[]
 ·rw [Ze1 h,Ae,h]
  exact Lx.nil fun vs hv=>⟨U0 (fun x hx=>Zu1 _ hx) hv,by simp only [Afo,Zf2,hv wREF Zr1]⟩
 ·rw [Zd1 h,Ah]
  have hn:=hc.resolve_left h
  refine(Lx.app (Lx.sp (Lx.spb (D:=Dc) (Lx.word (w:=wREF) (by decide +kernel)))) (Ft hn) (fun r _=>trivial)).mono (fun _ h=>h) fun ts q vs hv =>?_
  obtain⟨t1,t2,rfl,q1,q2⟩:=q
  rw [Zj1]
  exact⟨Aes hw (Di q1 _),by simp only [Afo,Di q1,Dd q1,(q2 vs trivial).2]⟩
theorem Oh{b:Bool}{x r:Str}(h:dlm r):dlm (cond b (32::x) []++r):=by
 cases b with
 |false=>exact h
 |true=>exact Y4 _
theorem Arr{c:Col}{r:Str}(h:dlm r):dlm (A71 c++r):=by
 unfold A71
 cases decide (c.ref=[]) with
 |true=>exact h
 |false=>exact Y4 _
theorem Bi3(c:Col):P7 c=c.name++((32::at' .str kindsL c.kind)++(cond c.notNull (32::(sNOT++32::sNULL)) []++(cond c.unique (32::wUNIQUE) []++A71 c))):=by
 simp only [P7,A71,Zj1,Zb2,Zf2]
 rfl
theorem Bkg{c:Col}(hc:CX c):Rd A0b dlm (No [wREF,wUNIQUE,sNOT]) noW (P7 c) c:=by
 obtain⟨c1,c2⟩:=hc
 simp only [Rr,Zb1,Zd2,Zg1] at c1
 have r5:=Bmk (c:=c) c1.2 (V:=[wUNIQUE,sNOT]) (by decide)
 have r4:Rd (Rj wUNIQUE []) dlm (No [wUNIQUE,sNOT]) (No [sNOT]) (cond c.unique (32::wUNIQUE) []) c.unique:=A8w (V:=[sNOT]) (by decide) ((Lx.sp (Lx.word (w:=wUNIQUE) (by decide +kernel))).mono (fun _ h=>h) fun ts q=>⟨ts,[],by simp,q,fun _=>rfl⟩) c.unique
 have r3:Rd (Rj sNOT [sNULL]) dlm (No [sNOT]) Cz (cond c.notNull (32::(sNOT++32::sNULL)) []) c.notNull:=(A8w (V:=[]) (by decide) ((Lx.sp (Lx.app (Lx.word (w:=sNOT) Aum) (Lx.sp (Lx.word (w:=sNULL) (by decide +kernel))) (fun r _=>Y4 _))).mono (fun _ h=>h) fun ts ⟨t1,t2,e,q1,q2⟩=>⟨t1,t2,e,q1,fun vs=>by simp only [A5,Di q2,Dd q2]⟩) c.notNull).mono (fun _ h=>h) (fun _ h=>h) B3
 have r2:Rd L2 dlm Cz Cz (32::at' .str kindsL c.kind) c.kind:=Lx.sp (Bgy c1.1)
 rw [Bi3]
 refine(Ft c2).bind (D2:=dlm) (T2:=Cz) (r2.bind (T2:=Cz) (r3.bind (T2:=No [sNOT]) (r4.bind (T2:=No [wUNIQUE,sNOT]) r5.map ?_ (fun _ h=>h)) ?_ (fun _ h=>h)) ?_ B3) ?_ B3
 ·exact fun r hr=>Arr hr
 ·exact fun r hr=>by rw [Zj1];exact Oh (Arr hr)
 ·exact fun r hr=>by rw [Zj1,Zj1];exact Oh (Oh (Arr hr))
 ·exact fun r _=>Y4 _
theorem Bop:Lx Dc [44,32] (IsW [44]):=Lx.spb (a:=[44]) (lx44.mono D5 fun _ h=>h)
def Ak5(c:Col):Str:=P7 c++[44,32]
theorem A0v{c:Col}(hc:CX c):Rd Si Dc Cz noW (Ak5 c) c :=
 (Bkg hc).bind (T2:=hdW [44]) ((Dx Bop).map) (fun r _=>Azm _) (fun l h=>Aes (by decide) h)
theorem Aoa:∀l:List Col,(∀c,c∈l→CX c)→Lx dlm ((l.map Ak5).flatten++wPRIMARY) fun ts=>∀vs k acc,(ts++vs).length<k→Ga k acc (ts++vs) = .ok (acc++l,vs)
 |[],_=>(Lx.word (w:=wPRIMARY) (by decide +kernel)).mono (fun _ h=>h) fun ts q vs k acc hk=>by
  obtain⟨k,rfl⟩:∃k',k=k'+1:=⟨k-1,by omega⟩
  simp only [Ga,Di q,Dd q,List.append_nil]
 |c::l,h=>by
  have ih:=Aoa l fun x hx=>h x (Zu1 _ hx)
  rw [Zw1,Zz1,Zj1]
  refine(Lx.app (A0v (h c Zr1)) ih (fun _ _=>trivial)).mono (fun _ h=>h) fun ts q vs k acc hk =>?_
  obtain⟨t1,t2,rfl,q1,q2⟩:=q
  obtain⟨n1,p1⟩:=q1 (t2++vs) trivial
  obtain⟨k,rfl⟩:∃k',k=k'+1:=⟨k-1,by omega⟩
  have hne:t1≠[]:=fun e=>by
   subst e
   have h1:=Ux _ _ _ p1
   simp at h1
  have hcl:=List.length_pos_iff.2 hne
  simp only [Zh1] at hk
  rw [Zj1]
  simp only [Ga,n1 wPRIMARY,p1]
  rw [q2 vs k (acc++[c]) (by simp only [Zh1];omega)]
  simp
theorem Bhk{l:List Col}(hl:l≠[]) (h:∀c,c∈l→CX c):Rd Y8 dlm Cz noW ((l.map Ak5).flatten++wPRIMARY) l:=by
 cases l with
 |nil=>exact absurd rfl hl
 |cons c l =>
  have ih:=Aoa l fun x hx=>h x (Zu1 _ hx)
  rw [Zw1,Zz1,Zj1]
  refine(Lx.app (A0v (h c Zr1)) ih (fun _ _=>trivial)).mono (fun _ h=>h) fun ts q vs _ =>?_
  obtain⟨t1,t2,rfl,q1,q2⟩:=q
  obtain⟨n1,p1⟩:=q1 (t2++vs) trivial
  rw [Zj1]
  refine⟨n1,?_⟩
  simp only [Y8,p1]
  rw [q2 vs _ [c] (by omega)]
  rfl
theorem Bnt{e:Xpr}(h:RX e):Lx dlm (ckT e) fun ts=>Ax5 ts e:=by
 have he:=Axl (Bi e) e 30 (Zn1 _) h.1 h.2
 unfold ckT
 by_cases hk:e.kind=1∨e.kind=2
 ·rw [Ze1 (Bel.2 hk),Ae]
  refine(Lx.app lx40 (Lx.app he Awb (fun r _=>dm41 _)) (fun _ _=>trivial)).mono D5 fun ts q =>?_
  obtain⟨o,t1,rfl,ho,ti,c,rfl,hi,hc⟩:=q
  exact⟨o,ti,c,rfl,ho,hc,fun us hs=>by rw [←Nj];exact Sb hi.1 (by omega) (by omega) hs⟩
 ·rw [Zd1 (fun q=>hk (Bel.1 q)),Ah]
  exact he.mono (fun _ h=>h) fun ts q=>by
   rcases q.2 with q|q|q
   ·exact absurd (.inl q) hk
   ·exact absurd (.inr q) hk
   ·exact q
def Bmn(e:Xpr):Str:=wCHECK++32::ckT e
theorem Blw{e:Xpr}(h:RX e):Rd Afn dlm Cz (hdW wCHECK) (Bmn e) e:=by
 refine(Lx.app (Lx.word (w:=wCHECK) (by decide +kernel)) (Lx.sp (Bnt h)) (fun r _=>Y4 _)).mono (fun _ h=>h) fun ts q vs _ =>?_
 obtain⟨w,t1,rfl,hw,o,ti,c,rfl,ho,hc,hi⟩:=q
 simp only [Zj1]
 refine⟨Di hw _,?_⟩
 have h1:=hi (c++vs) (Azw hc (by decide) (by decide) vs)
 simp only [Afn,bP,A5,Di hw,Dd hw,Di ho,Dd ho,h1,Di hc,Dd hc]
 rfl
theorem A3g:∀l:List Xpr,(l.map Aaj).flatten=Dj Bmn l
 |[]=>rfl
 |e::l=>by
  rw [Zw1,Zz1,A3g l]
  simp only [Dj,Bmn]
  have h1:Aaj e=[44,32]++(wCHECK++32::ckT e):=rfl
  rw [h1]
theorem Bf0{l:List Xpr}(h:∀x,x∈l→RX x):Rd (fun l=>Bb Afn (l.length+1) [] l) dlm (fun l=>isT [44] l=false) Cz (l.map Aaj).flatten l:=by
 rw [A3g]
 exact(Apb (D:=dlm) (S:=Cz) (fun _=>Azm _) (fun _ _=>trivial) l fun x hx=>Blw (h x hx)).mono (fun _ h=>h) fun ts q vs hv=>⟨trivial,by
  have:=(q vs ⟨trivial,hv⟩).2 ((ts++vs).length+1) [] (by omega)
  exact this⟩
theorem A0x:∀{l:List Col},l≠[]→Bj P7 l++[44,32]=(l.map Ak5).flatten:=fun {l} hl=>by
 have ht:∀l:List Col,Dj P7 l++[44,32]=[44,32]++(l.map Ak5).flatten:=fun l=>by
  induction l with
  |nil=>rfl
  |cons c l ih =>
   simp only [Dj,Zj1,ih,Zw1,Zz1,Ak5]
 cases l with
 |nil=>exact absurd rfl hl
 |cons c l =>
  simp only [Bj,Zj1,ht,Zw1,Zz1,Ak5]
def Bb8(s:Stm):Str:=s.name++((32::[40])++(((s.cols.map Ak5).flatten++wPRIMARY)++((32::(wKEY++[32]))++(nmT s.names++((s.l.map Aaj).flatten++[41])))))
theorem Bb2{s:Stm}(hn:Bm s.name=true) (hc:∀c,c∈s.cols→CX c) (hc0:s.cols≠[]) (hm0:s.names≠[]) (hm:∀x,x∈s.names→Bm x=true) (hl:∀x,x∈s.l→RX x):Rd Sl Dc Cz noW (Bb8 s) { zS with kind:=1,name:=s.name,cols:=s.cols,names:=s.names,l:=s.l }:=by
 have r7:=Dx (w:=[41]) Awb
 have r6:=Bf0 hl
 have r5:=Ast hm0 hm
 have r4:Rd (A5 [wKEY]) Dc Cz (hdW wKEY) (32::(wKEY++[32])) ():=Dx (Lx.sp (Lx.spb (Lx.word (w:=wKEY) (by decide +kernel))))
 have r3:=Bhk hc0 hc
 have r2:Rd (A5 [[40]]) Dc Cz (hdW [40]) (32::[40]) ():=Dx (Lx.sp lx40)
 have r1:=Ft hn
 unfold Bb8
 refine r1.bind (D2:=Dc) (T2:=hdW [40]) (r2.bind (D2:=Dc) (T2:=noW) (r3.bind (D2:=Dc) (T2:=hdW wKEY) (r4.bind (D2:=Dc) (T2:=hdW [40]) (r5.bind (D2:=Dc) (T2:=Cz) (r6.bind (D2:=Dc) (T2:=hdW [41]) r7.map ?_ ?_) ?_ B3) ?_ B3) ?_ B3) ?_ B3) ?_ B3
 ·exact fun r _=>dm41 _
 ·exact fun l h=>Bn1 (by decide) h
 ·exact fun r _=>trivial
 ·exact fun r _=>trivial
 ·exact fun r _=>Y4 _
 ·exact fun r _=>trivial
 ·exact fun r _=>Y4 _
end Go.Proofs.YthndhaolemgbdaaGreatDoor
namespace Go.Proofs.YthndhaolemgbdaaGreatDoor
open Go.Ax
open Lp (tokS Sc A4)
theorem X4{α:Type}{p:TL→PR α}{D:Str→Prop}{S T:TL→Prop}{a:Str}{x y : α}(h:Rd p D S T a x) (e:x=y):Rd p D S T a y:=e▸h
def NxQ(V:List Str) (l:TL):Prop:=Stop l∧No V l
theorem A2i{w:Str}{V:List Str}(h1:bindS w=(0,0)) (h2:¬sIS=w) (h3:¬w∈V) {l:TL}(h:hdW w l):NxQ V l:=⟨Agt h1 h2 h,Aes h3 h⟩
theorem Akk{s:Stm}(h:WX s) {V:List Str}(hw:¬wWHERE∈V):Rd Fo dlm (NxQ (wWHERE::V)) (NxQ V) (whT s) (s.has,s.whr):=by
 unfold whT
 cases hs:s.has with
 |false =>
  have e:s.whr=zX:=Bn8 h hs
  rw [e]
  exact Lx.nil fun vs hv=>⟨⟨hv.1,U0 (fun x hx=>Zu1 _ hx) hv.2⟩,by simp only [Fo,Zf2,hv.2 wWHERE Zr1]⟩
 |true =>
  refine(Lx.app (Lx.sp (Lx.spb (D:=Dc) (Lx.word (w:=wWHERE) (by decide +kernel)))) (Bcn (A8u h hs)) D5).mono (fun _ h=>h) fun ts q vs hv =>?_
  obtain⟨t1,t2,rfl,q1,q2⟩:=q
  rw [Zj1]
  exact⟨A2i (by decide) (by decide) hw (Di q1 _),by simp only [Fo,Di q1,Dd q1,(q2 vs hv.1).2]⟩
theorem A0d(s:Stm) {r:Str}(h:dlm r):dlm (whT s++r):=by
 unfold whT
 exact Oh h
def Fin(l:TL):Prop:=l=[]∨hdW [59] l
theorem Aq1{V:List Str}(hV:¬ [59]∈V) {l:TL}(h:Fin l):NxQ V l:=by
 rcases h with rfl|h
 ·exact⟨Bc7,Bj6 V⟩
 ·exact A2i (by decide) (by decide) hV h
theorem X0{w:Str}(h:Lp.wordF w=true):Lx Dc (w++[32]) (IsW w):=Lx.spb (Lx.word h)
theorem Al6{w:Str}(h:Lp.wordF w=true):Lx Dc (32::(w++[32])) (IsW w):=Lx.sp (X0 h)
theorem Bj9{x:SetE}(hx:RX x.e) (hn:Bm x.name=true):Rd Aw7 dlm Stop noW (Xu x) x:=by
 have e:Xu x=x.name++((32::([61]++[32]))++etx x.e):=by simp [Xu]
 rw [e]
 have r2:Rd (A5 [[61]]) Dc Cz (hdW [61]) (32::([61]++[32])) ():=Dx (Lx.sp (Lx.spb (lx61.mono D5 fun _ h=>h)))
 exact(Ft hn).bind (D2:=dlm) (T2:=hdW [61]) (r2.bind (T2:=fun l=>isT [42] l=false) ((Bcn hx).map (g:=fun e=>(⟨x.name,e⟩:SetE))) (fun _ _=>trivial) B3) (fun r _=>Y4 _) B3
theorem A5p{s:Stm}(hn:Bm s.name=true) (h0:s.sets≠[]) (hs:∀x,x∈s.sets→RX x.e∧Bm x.name=true) (hw:WX s):Rd G7 dlm Fin noW (s.name++((32::(wSET++[32]))++(Bj Xu s.sets++whT s))) { zS with kind:=6,name:=s.name,sets:=s.sets,has:=s.has,whr:=s.whr }:=by
 have r4:=(Akk hw (V:=[[44]]) (by decide)).mono (fun _ h=>h) (fun l h=>Aq1 (by decide) h) (fun _ h=>h)
 have r3:=Zj (D:=dlm) (fun _=>Azm _) (fun _ h=>Bfh h) h0 fun x hx=>Bj9 (hs x hx).1 (hs x hx).2
 have r2:Rd (A5 [wSET]) Dc Cz (hdW wSET) (32::(wSET++[32])) ():=Dx (Al6 (by decide +kernel))
 refine(Ft hn).bind (D2:=dlm) (T2:=hdW wSET) (r2.bind (D2:=dlm) (T2:=noW) (r3.bind (D2:=dlm) (T2:=NxQ [[44]]) (r4.map (g:=fun w:Bool×Xpr=>{ zS with kind:=6,name:=s.name,sets:=s.sets,has:=w.1,whr:=w.2 })) ?_ ?_) D5 B3) (fun r _=>Y4 _) B3
 ·exact fun r hr=>A0d s hr
 ·exact fun l h=>⟨h.1,h.2 _ (by simp)⟩
theorem A5h{s:Stm}(hn:Bm s.name=true) (hw:WX s):Rd Kf dlm Fin (hdW wFROM) ((wFROM++[32])++(s.name++whT s)) { zS with kind:=7,name:=s.name,has:=s.has,whr:=s.whr }:=by
 have r3:=(Akk hw (V:=[]) (by decide)).mono (fun _ h=>h) (fun l h=>Aq1 (by decide) h) (fun _ h=>h)
 have r1:Rd (A5 [wFROM]) Dc Cz (hdW wFROM) (wFROM++[32]) ():=Dx (X0 (by decide +kernel))
 have r2:=Rd.bind (f:=fun n=>bP Fo fun w=>Cn { zS with kind:=7,name:=n,has:=w.1,whr:=w.2 }) (Ft hn) (D2:=dlm) (T2:=NxQ []) (r3.map (g:=fun w:Bool×Xpr=>{ zS with kind:=7,name:=s.name,has:=w.1,whr:=w.2 })) (fun r hr=>A0d s hr) B3
 exact Rd.bind (f:=fun _=>bP B0 fun n=>bP Fo fun w=>Cn { zS with kind:=7,name:=n,has:=w.1,whr:=w.2 }) r1 r2 D5 B3
theorem A5a{s:Stm}(hn:Bm s.name=true) (h0:s.rows≠[]) (hr:∀r,r∈s.rows→r≠[]∧∀x,x∈r→RX x):Rd G5 dlm Fin (hdW wINTO) ((wINTO++[32])++(s.name++((32::(wVALUES++[32]))++Bj Se s.rows))) { zS with kind:=5,name:=s.name,rows:=s.rows }:=by
 have r4:=Zj (D:=dlm) (S:=Cz) (T:=hdW [40]) (fun _=>Azm _) B3 h0 fun x hx=>(Blt (hr x hx).1 (hr x hx).2).mono D5 (fun _ h=>h) (fun _ h=>h)
 have r3:Rd (A5 [wVALUES]) Dc Cz (hdW wVALUES) (32::(wVALUES++[32])) ():=Dx (Al6 (by decide +kernel))
 have r1:Rd (A5 [wINTO]) Dc Cz (hdW wINTO) (wINTO++[32]) ():=Dx (X0 (by decide +kernel))
 have r:Rd G5 dlm (fun l=>Cz l∧isT [44] l=false) (hdW wINTO) ((wINTO++[32])++(s.name++((32::(wVALUES++[32]))++Bj Se s.rows))) { zS with kind:=5,name:=s.name,rows:=s.rows }:=r1.bind (D2:=dlm) (T2:=noW) ((Ft hn).bind (D2:=dlm) (T2:=hdW wVALUES) (r3.bind (D2:=dlm) (T2:=hdW [40]) (r4.map (g:=fun rs:List (List Xpr)=>{ zS with kind:=5,name:=s.name,rows:=rs })) D5 B3) (fun r _=>Y4 _) B3) D5 B3
 exact r.mono (fun _ h=>h) (fun l h=>⟨trivial,(Aq1 (V:=[[44]]) (by decide) h).2 _ (by simp)⟩) (fun _ h=>h)
theorem Bbv{s:Stm}(hn:Bm s.name=true) (ho:Bm s.on=true) (hm0:s.names≠[]) (hm:∀x,x∈s.names→Bm x=true):Rd Rm Dc Cz (hdW wINDEX) ((wINDEX++[32])++(s.name++((32::(wON++[32]))++(s.on++(32::nmT s.names))))) { zS with kind:=3,name:=s.name,on:=s.on,names:=s.names }:=by
 have r5:Rd Nb Dc Cz (hdW [40]) (32::nmT s.names) s.names:=Lx.sp (Ast hm0 hm)
 have r3:Rd (A5 [wON]) Dc Cz (hdW wON) (32::(wON++[32])) ():=Dx (Al6 (by decide +kernel))
 have r1:Rd (A5 [wINDEX]) Dc Cz (hdW wINDEX) (wINDEX++[32]) ():=Dx (X0 (by decide +kernel))
 exact r1.bind (D2:=Dc) (T2:=noW) ((Ft hn).bind (D2:=Dc) (T2:=hdW wON) (r3.bind (D2:=Dc) (T2:=noW) ((Ft ho).bind (D2:=Dc) (T2:=hdW [40]) r5.map (fun r _=>Y4 _) B3) D5 B3) (fun r _=>Y4 _) B3) D5 B3
theorem D3{w v:Str}(h:¬v=w):∀l,hdW w l→isT v l=false:=fun l hl=>Aes (W:=[v]) (by simpa using fun e=>h e.symm) hl v (by simp)
theorem Bgx{s:Stm}(hn:Bm s.name=true) (hk:s.kind=2∨s.kind=4):Rd S8 dlm Cz Cz (if s.kind=2 then(Fq++[32])++s.name else(wINDEX++[32])++s.name) { zS with kind:=s.kind,name:=s.name }:=by
 rcases hk with hk|hk
 ·rw [if_pos hk,hk]
  exact(Kl (p:=bP B0 (fun n=>Cn { zS with kind:=2,name:=n })) (q:=bP (A5 [wINDEX]) (fun _=>bP B0 fun n=>Cn { zS with kind:=4,name:=n })) (X0 (w:=Fq) (by decide +kernel)) (Ft hn).map D5).mono (fun _ h=>h) (fun _ h=>h) B3
 ·rw [if_neg (by omega),hk]
  have r1:Rd (A5 [wINDEX]) Dc Cz (hdW wINDEX) (wINDEX++[32]) ():=Dx (X0 (by decide +kernel))
  exact(Dy (w:=Fq) (p:=bP B0 (fun n=>Cn { zS with kind:=2,name:=n })) (q:=bP (A5 [wINDEX]) (fun _=>bP B0 fun n=>Cn { zS with kind:=4,name:=n })) (r1.bind (T2:=noW) (Ft hn).map D5 B3) (D3 (by decide))).mono (fun _ h=>h) (fun _ h=>h) B3
theorem Aw9{s:Stm}(hn:Bm s.name=true) (hc:∀c,c∈s.cols→CX c) (hc0:s.cols≠[]) (hm0:s.names≠[]) (hm:∀x,x∈s.names→Bm x=true) (hl:∀x,x∈s.l→RX x):Rd E4 Dc Cz Cz ((Fq++[32])++Bb8 s) { zS with kind:=1,name:=s.name,cols:=s.cols,names:=s.names,l:=s.l } :=
 (Kl (p:=Sl) (q:=Rm) (X0 (w:=Fq) (by decide +kernel)) (Bb2 hn hc hc0 hm0 hm hl) D5).mono (fun _ h=>h) (fun _ h=>h) B3
theorem Awo{s:Stm}(hn:Bm s.name=true) (ho:Bm s.on=true) (hm0:s.names≠[]) (hm:∀x,x∈s.names→Bm x=true):Rd E4 Dc Cz Cz ((wINDEX++[32])++(s.name++((32::(wON++[32]))++(s.on++(32::nmT s.names))))) { zS with kind:=3,name:=s.name,on:=s.on,names:=s.names } :=
 (Dy (w:=Fq) (p:=Sl) (q:=Rm) (Bbv hn ho hm0 hm) (D3 (by decide))).mono (fun _ h=>h) (fun _ h=>h) B3
theorem Biq{l:List Xpr}(h:∀x,x∈l→RX x):Rd Wa dlm (fun l=>Stop l∧isT [44] l=false) Cz (cond (decide ((l.length:Int)=0)) [42] []++Bj etx l) l:=by
 cases l with
 |nil =>
  refine(lx42.mono D5 fun _ h=>h).mono (fun _ h=>h) fun ts q vs _=>⟨trivial,?_⟩
  simp only [Wa,Di q,Dd q]
 |cons x l =>
  have e:cond (decide (((x::l).length:Int)=0)) [42] []++Bj etx (x::l)=Bj etx (x::l):=by
   rw [Zd1 (by simp only [Zf1];omega)]
   rfl
  rw [e]
  exact(Dy (w:=[42]) (p:=Cn []) (q:=M7) (Atp (List.cons_ne_nil x l) h) (fun _ h=>h)).mono (fun _ h=>h) (fun _ h=>h) B3
theorem Bly{x:Str×Bool}(h:Bm x.1=true):Rd Arq dlm (No [wDESC,Vy]) noW (Ma x) x:=by
 have r2:Rd Zi dlm (No [wDESC,Vy]) Cz (cond x.2 (32::wDESC) []) x.2:=by
  cases x.2 with
  |false=>exact Lx.nil fun vs hv=>⟨trivial,by simp only [Zi,Zf2,hv wDESC (by simp),hv Vy (by simp)]⟩
  |true=>exact(Lx.sp (Lx.word (w:=wDESC) (by decide +kernel))).mono (fun _ h=>h) fun ts q vs _=>⟨trivial,by simp only [Zi,Di q,Dd q]⟩
 exact(Ft h).bind (D2:=dlm) (T2:=Cz) (r2.map (g:=fun d=>(x.1,d))) (fun r hr=>Oh hr) B3
theorem Bkk{n:Int}(h : -1≤n∧n≤9223372036854775807) {V:List Str}(hw:¬wLIMIT∈V):Rd Fa dlm (NxQ (wLIMIT::V)) (NxQ V) (cond (decide (0≤n)) ((32::(wLIMIT++[32]))++Bf ⟨3,n,[]⟩) []) n:=by
 by_cases h0 : 0≤n
 ·rw [Ze1 h0,Ae]
  have hv:Bf ⟨3,n,[]⟩=Jb n.natAbs:=by rw [←Abi h0];rfl
  rw [hv]
  refine(Lx.app (Al6 (w:=wLIMIT) (by decide +kernel)) (Lx.one (D:=dlm) (w:=Jb n.natAbs) (k:=3) (s:=Jb n.natAbs) (n:=n) fun r hr =>?_) D5).mono (fun _ h=>h) fun ts q vs hv =>?_
  ·rw [Atd hr,if_pos (by omega),show((n.natAbs:Nat):Int)=n by omega]
  ·obtain⟨t1,t2,rfl,q1,t,rfl,a1,a2,a3⟩:=q
   rw [Zj1]
   refine⟨A2i (by decide) (by decide) hw (Di q1 _),?_⟩
   simp only [Fa,Di q1,Dd q1]
   show Ad3 (t::vs)=_
   simp only [Ad3,a1,a3,decide_true]
 ·have e:n = -1:=by omega
  subst e
  exact Lx.nil fun vs hv=>⟨⟨hv.1,U0 (fun x hx=>Zu1 _ hx) hv.2⟩,by simp only [Fa,Zf2,hv.2 wLIMIT Zr1]⟩
theorem Bcj{s:Stm}(h:∀x,x∈s.order→Bm x=true) (hd:s.desc.length=s.order.length) {V:List Str}(hw:¬wORDER∈V) (hV:∀w,w∈[wDESC,Vy,[44]]→w∈V):Rd Gs dlm (NxQ (wORDER::V)) (NxQ V) (obT s++Bj Ma (s.order.zip s.desc)) (s.order.zip s.desc):=by
 unfold obT
 by_cases h0:s.order=[]
 ·rw [h0]
  exact Lx.nil fun vs hv=>⟨⟨hv.1,U0 (fun x hx=>Zu1 _ hx) hv.2⟩,by simp only [Gs,Zf2,hv.2 wORDER Zr1];rfl⟩
 ·have hp : 0<s.order.length:=List.length_pos_iff.2 h0
  rw [Ze1 (by omega),Ae]
  have hz:s.order.zip s.desc≠[]:=fun e=>by
   have:=congrArg List.length e
   rw [List.length_zip,Zi1] at this
   omega
  have r2:Rd (A5 [wBY]) Dc Cz (hdW wBY) (wBY++[32]) ():=Dx (X0 (by decide +kernel))
  have r3:=Zj (D:=dlm) (S:=No [wDESC,Vy]) (fun _=>Azm _) (fun l hl=>Aes (by decide) hl) hz fun p hp=>Bly (h p.1 (List.of_mem_zip hp).1)
  have r:=Rd.bind (f:=fun _=>G1 Arq) r2 r3 D5 B3
  have e:[32,79,82,68,69,82,32,66,89,32]++Bj Ma (s.order.zip s.desc)=(32::(wORDER++[32]))++((wBY++[32])++Bj Ma (s.order.zip s.desc)):=by simp [wORDER,wBY]
  rw [e]
  refine(Lx.app (Al6 (w:=wORDER) (by decide +kernel)) r D5).mono (fun _ h=>h) fun ts q vs hv =>?_
  obtain⟨t1,t2,rfl,q1,q2⟩:=q
  rw [Zj1]
  refine⟨A2i (by decide) (by decide) hw (Di q1 _),?_⟩
  simp only [Gs,Di q1,Dd q1]
  exact(q2 vs ⟨U0 (fun w hw=>Zu1 _ (hV w (by simp only [List.mem_cons,List.not_mem_nil,or_false] at hw ⊢;exact hw.imp_right fun q =>.inl q))) hv.2,hv.2 _ (Zu1 _ (hV _ (by simp)))⟩).2
theorem Bds(s:Stm) {r:Str}(h:dlm r):dlm ((obT s++Bj Ma (s.order.zip s.desc))++r):=by
 unfold obT
 by_cases h0:s.order=[]
 ·rw [h0];exact h
 ·have hp : 0<s.order.length:=List.length_pos_iff.2 h0
  rw [Ze1 (by omega)]
  exact Y4 _
theorem A7f{s:Stm}(hn:Bm s.name=true) (hl:∀x,x∈s.l→RX x) (hw:WX s) (ho:∀x,x∈s.order→Bm x=true) (hd:s.desc.length=s.order.length) (hm : -1≤s.most∧s.most≤9223372036854775807):Rd Ig dlm Fin Cz ((cond (decide ((s.l.length:Int)=0)) [42] []++Bj etx s.l)++((32::(wFROM++[32]))++(s.name++(whT s++((obT s++Bj Ma (s.order.zip s.desc))++Aby s))))) { zS with kind:=8,name:=s.name,l:=s.l,has:=s.has,whr:=s.whr,order:=s.order,desc:=s.desc,most:=s.most }:=by
 have r6:=(Bkk hm (V:=[wORDER,wWHERE,wDESC,Vy,[44]]) (by decide)).mono (fun _ h=>h) (fun l h=>Aq1 (by decide) h) (fun _ h=>h)
 have r5:=Bcj ho hd (V:=[wWHERE,wDESC,Vy,[44]]) (by decide) (fun w hw=>Zu1 _ hw)
 have r4:=Akk hw (V:=[wDESC,Vy,[44]]) (by decide)
 have r2:Rd (A5 [wFROM]) Dc Cz (hdW wFROM) (32::(wFROM++[32])) ():=Dx (Al6 (by decide +kernel))
 have e1:(s.order.zip s.desc).map (·.1)=s.order:=List.map_fst_zip (by omega)
 have e2:(s.order.zip s.desc).map (·.2)=s.desc:=List.map_snd_zip (by omega)
 have hlim:∀r,dlm r→dlm (Aby s++r):=fun r hr=>by unfold Aby;exact Oh hr
 have r:Rd Ig dlm Fin Cz ((cond (decide ((s.l.length:Int)=0)) [42] []++Bj etx s.l)++((32::(wFROM++[32]))++(s.name++(whT s++((obT s++Bj Ma (s.order.zip s.desc))++Aby s))))) { zS with kind:=8,name:=s.name,l:=s.l,has:=s.has,whr:=s.whr,order:=(s.order.zip s.desc).map (·.1),desc:=(s.order.zip s.desc).map (·.2),most:=s.most }:=(Biq hl).bind (D2:=dlm) (T2:=hdW wFROM) (r2.bind (D2:=dlm) (T2:=noW) ((Ft hn).bind (D2:=dlm) (T2:=NxQ [wDESC,Vy,[44]]) (r4.bind (D2:=dlm) (T2:=NxQ [wWHERE,wDESC,Vy,[44]]) (r5.bind (D2:=dlm) (T2:=NxQ [wORDER,wWHERE,wDESC,Vy,[44]]) (r6.map (g:=fun m=>({ zS with kind:=8,name:=s.name,l:=s.l,has:=s.has,whr:=s.whr,order:=(s.order.zip s.desc).map (·.1),desc:=(s.order.zip s.desc).map (·.2),most:=m }:Stm))) hlim (fun _ h=>h)) (fun r hr=>by rw [Zj1];exact Bds s (hlim r hr)) (fun _ h=>h)) (fun r hr=>by rw [Zj1,Zj1];exact A0d s (Bds s (hlim r hr))) B3) D5 B3) (by exact fun r _=>Y4 _) (fun l h=>⟨Agt (by decide) (by decide) h,D3 (by decide) l h⟩)
 rw [e1,e2] at r
 exact r
def Bgw(l:TL):PR Stm:=match isT M1 l with
 |true=>Ig l.tail
 |false =>.error l
def Bca(l:TL):PR Stm:=match isT Kh l with
 |true=>Kf l.tail
 |false=>Bgw l
def A49(l:TL):PR Stm:=match isT Jl l with
 |true=>G7 l.tail
 |false=>Bca l
def A0o(l:TL):PR Stm:=match isT G6 l with
 |true=>G5 l.tail
 |false=>A49 l
def Ap6(l:TL):PR Stm:=match isT N4 l with
 |true=>S8 l.tail
 |false=>A0o l
theorem Ax1:V5=fun l=>match isT Ec l with
 |true=>E4 l.tail
 |false=>Ap6 l:=rfl
theorem Bi2{s:Stm}(h:Je s=true) (hb:BdStm s):Rd V5 dlm Fin Cz (A7 s) s:=by
 obtain⟨⟨hn,hr⟩,hk⟩:=Xm h
 rw [Ax1]
 rcases hk with ⟨k,c1,c2,c3,c4,c5⟩|k|⟨k,c1,c2,c3⟩|⟨k,c1,c2⟩|⟨k,c1,c2,c3⟩|⟨k,c1⟩|⟨k,c1,c2,c3,c4,c5⟩
 ·have hs:=Bnw hr k
  have ht:A7 s=(Ec++[32])++((Fq++[32])++Bb8 s):=by
   rw [A7,if_pos k,J6,Bb8,←A0x c2]
   simp [Ec,Fq,wPRIMARY,wKEY]
  rw [ht]
  have r:=Kl (p:=E4) (q:=Ap6) (X0 (w:=Ec) (by decide +kernel)) (Aw9 hn c1 c2 c3 c4 (Ab0 c5 hb.l)) D5
  have r:=r.mono (D2:=dlm) D5 (S2:=Fin) B3 (T2:=Cz) B3
  exact X4 r hs.symm
 ·have hs:=Bls hr k
  have ht:A7 s=(N4++[32])++(if s.kind=2 then(Fq++[32])++s.name else(wINDEX++[32])++s.name):=by
   rw [A7]
   rcases k with k|k<;>rw [k]<;>simp [N4,Fq,wINDEX]
  rw [ht]
  have r:=Dy (w:=Ec) (p:=E4) (q:=Ap6) (Kl (w:=N4) (p:=S8) (q:=A0o) (X0 (by decide +kernel)) (Bgx hn k) D5) (D3 (by decide))
  have r:=r.mono (D2:=dlm) (fun _ h=>h) (S2:=Fin) B3 (T2:=Cz) B3
  exact X4 r hs.symm
 ·have hs:=Bm4 hr k
  have ht:A7 s=(Ec++[32])++((wINDEX++[32])++(s.name++((32::(wON++[32]))++(s.on++(32::nmT s.names))))):=by
   rw [A7,if_neg (by omega),if_neg (by omega),if_pos k]
   simp [Ec,wINDEX,wON]
  rw [ht]
  have r:=Kl (p:=E4) (q:=Ap6) (X0 (w:=Ec) (by decide +kernel)) (Awo hn c1 c2 c3) D5
  have r:=r.mono (D2:=dlm) D5 (S2:=Fin) B3 (T2:=Cz) B3
  exact X4 r hs.symm
 ·have hs:=Bny hr k
  have ht:A7 s=(G6++[32])++((wINTO++[32])++(s.name++((32::(wVALUES++[32]))++Bj Se s.rows))):=by
   rw [A7,if_neg (by omega),if_neg (by omega),if_neg (by omega),if_neg (by omega),if_pos k]
   simp [G6,wINTO,wVALUES]
  rw [ht]
  have r:=Dy (w:=Ec) (p:=E4) (q:=Ap6) (Dy (w:=N4) (p:=S8) (q:=A0o) (Kl (w:=G6) (p:=G5) (q:=A49) (X0 (by decide +kernel)) (A5a hn c1 fun r hr=>⟨(c2 r hr).1,Ab0 (c2 r hr).2 (hb.rows.2 r hr)⟩) D5) (D3 (by decide))) (D3 (by decide))
  have r:=r.mono (D2:=dlm) (fun _ h=>h) (S2:=Fin) (fun _ h=>h) (T2:=Cz) B3
  exact X4 r hs.symm
 ·have hs:=Bnq hr k
  have ht:A7 s=(Jl++[32])++(s.name++((32::(wSET++[32]))++(Bj Xu s.sets++whT s))):=by
   rw [A7,if_neg (by omega),if_neg (by omega),if_neg (by omega),if_neg (by omega),if_neg (by omega),if_pos k]
   simp [Jl,wSET]
  rw [ht]
  have r:=Dy (w:=Ec) (p:=E4) (q:=Ap6) (Dy (w:=N4) (p:=S8) (q:=A0o) (Dy (w:=G6) (p:=G5) (q:=A49) (Kl (w:=Jl) (p:=G7) (q:=Bca) (X0 (by decide +kernel)) (A5p hn c1 (fun x hx=>⟨⟨(c2 x hx).1,(hb.sets.2 x hx).2⟩,(c2 x hx).2⟩) ⟨c3,hb.whr⟩) D5) (D3 (by decide))) (D3 (by decide))) (D3 (by decide))
  have r:=r.mono (D2:=dlm) (fun _ h=>h) (S2:=Fin) (fun _ h=>h) (T2:=Cz) B3
  exact X4 r hs.symm
 ·have hs:=Boy hr k
  have ht:A7 s=(Kh++[32])++((wFROM++[32])++(s.name++whT s)):=by
   rw [A7,if_neg (by omega),if_neg (by omega),if_neg (by omega),if_neg (by omega),if_neg (by omega),if_neg (by omega),if_pos k]
   simp [Kh,wFROM]
  rw [ht]
  have r:=Dy (w:=Ec) (p:=E4) (q:=Ap6) (Dy (w:=N4) (p:=S8) (q:=A0o) (Dy (w:=G6) (p:=G5) (q:=A49) (Dy (w:=Jl) (p:=G7) (q:=Bca) (Kl (w:=Kh) (p:=Kf) (q:=Bgw) (X0 (by decide +kernel)) (A5h hn ⟨c1,hb.whr⟩) D5) (D3 (by decide))) (D3 (by decide))) (D3 (by decide))) (D3 (by decide))
  have r:=r.mono (D2:=dlm) (fun _ h=>h) (S2:=Fin) (fun _ h=>h) (T2:=Cz) B3
  exact X4 r hs.symm
 ·have hs:=Bo2 hr k
  have ht:A7 s=(M1++[32])++((cond (decide ((s.l.length:Int)=0)) [42] []++Bj etx s.l)++((32::(wFROM++[32]))++(s.name++(whT s++((obT s++Bj Ma (s.order.zip s.desc))++Aby s))))):=by
   rw [A7,if_neg (by omega),if_neg (by omega),if_neg (by omega),if_neg (by omega),if_neg (by omega),if_neg (by omega),if_neg (by omega)]
   simp [Akz,M1,wFROM]
  rw [ht]
  have hm : -1≤s.most∧s.most≤9223372036854775807:=⟨c5,by
   have:=hb.most
   simp only [inI] at this
   exact this.2⟩
  have r:=Dy (w:=Ec) (p:=E4) (q:=Ap6) (Dy (w:=N4) (p:=S8) (q:=A0o) (Dy (w:=G6) (p:=G5) (q:=A49) (Dy (w:=Jl) (p:=G7) (q:=Bca) (Dy (w:=Kh) (p:=Kf) (q:=Bgw) (Kl (w:=M1) (p:=Ig) (q:=fun l =>.error l) (X0 (by decide +kernel)) (A7f hn (Ab0 c1 hb.l) ⟨c2,hb.whr⟩ c3 c4 hm) D5) (D3 (by decide))) (D3 (by decide))) (D3 (by decide))) (D3 (by decide))) (D3 (by decide))
  have r:=r.mono (D2:=dlm) (fun _ h=>h) (S2:=Fin) (fun _ h=>h) (T2:=Cz) B3
  exact X4 r hs.symm
end Go.Proofs.YthndhaolemgbdaaGreatDoor
