/- Texts of the proof,one behind the other: Lz,Pg,Ph,Pj,Qf,Qg,Qh,Qi,Qj,Qk,Ql,Qm. -/
import Derived.Test.YthndhaolemgbdaaGreatDoorQ6
set_option linter.all false
namespace Go.Proofs.YthndhaolemgbdaaGreatDoor
open Go.Ax
def Xz:Sig:=⟨21,[(0,.str),(1,.int .i64)],[(2,.fn 154 [])],[(0,.one (.sv .tok)),(1,.one (.sv .tok))],40,40,200,[],[]⟩
abbrev I3:=Str×Int×Tok×Tok
def O7{R:Type}(rec:I3→Option R) (kx:Ex→I3→Option R) (v:I3):Option R:=match v with
 |(v12,v13,w4,w5) =>
 cond (decide (v13<(v12.length:Int))) (
  chk (inb v13 v12.length) (
  cond ((Afh (bat v12 v13))) (
   rec (v12,(wr .i64 (v13+1)),w4,w5)) (
   kx (.exit 0) (v12,v13,w4,w5)))) (
  kx (.exit 0) (v12,v13,w4,w5))
def Zn:Sig:=⟨21,[(0,.str),(1,.int .i64)],[(2,.fn 111 [])],[(0,.one (.sv .tok)),(1,.one (.sv .tok))],40,40,200,[],[]⟩
abbrev Ie:=Str×Int×Tok×Tok
def P8{R:Type}(rec:Ie→Option R) (kx:Ex→Ie→Option R) (v:Ie):Option R:=match v with
 |(v6,v7,w2,w3) =>
 cond (decide (v7<(v6.length:Int))) (
  chk (inb v7 v6.length) (
  cond ((Ai8 (bat v6 v7))) (
   rec (v6,(wr .i64 (v7+1)),w2,w3)) (
   kx (.exit 0) (v6,v7,w2,w3)))) (
  kx (.exit 0) (v6,v7,w2,w3))
def Aas:Sig:=⟨21,[(0,.str),(1,.int .i64)],[(2,.fn 177 [])],[(0,.one (.sv .tok)),(1,.one (.sv .tok))],40,40,200,[],[]⟩
abbrev I8:=Str×Int×Tok×Tok
def Pq{R:Type}(rec:I8→Option R) (kx:Ex→I8→Option R) (v:I8):Option R:=match v with
 |(v,v1,w,w1) =>
 cond (decide (v1<(v.length:Int))) (
  chk (inb v1 v.length) (
  cond ((Ai0 (bat v v1))) (
   rec (v,(wr .i64 (v1+1)),w,w1)) (
   kx (.exit 0) (v,v1,w,w1)))) (
  kx (.exit 0) (v,v1,w,w1))
def F4(R:Type) (k:Nat):Px R:=⟨Bd ttL,glT,Au [(177,As [.int .u8] [.bool] Akb),(111,As [.int .u8] [.bool] Akd),(154,As [.int .u8] [.bool] Akh)],Am [],Aw [(1,Afc k Aas (Pq) (Afc k Zn (P8) (Be k Xz (O7))))],tbl []⟩
noncomputable def T8 (R:Type) (k:Nat):Px R:=⟨Bd ttL,glT,Au [(175,As [.str,.str] [.bool] Ay3),(156,As [.str,.int .u8] [.int .i64] Aj0),(176,As [.str] [.sl .byte true,.int .i64] Arv),(177,As [.int .u8] [.bool] Akb),(178,As [.str] [.bool] A52),(179,As [.str,.int .i64] [.bool] Asc),(109,As [.int .u8] [.bool] Aj1),(63,As [.str] [.bool] V5),(154,As [.int .u8] [.bool] Akh),(180,As [.str] [.int .i64,.bool] Al2),(181,As [.str,.int .i64] [.str,.int .i64] Aku),(95,As [.sv .val] [.int .i64] Amm),(182,As [.str] [.int .i64] Ash),(110,Bg 40 200 (F4 R k) Tryz.f110)],Am [],Aw [],tbl []⟩
theorem Aw1(R:Type) (k:Nat):∀(fr:List Fr) (rec:I8→Option R) (kx:Ex→I8→Option R) (v:I8),Bn (F4 R k) Aas (lp Tryz.f110 0) fr rec kx v=Pq rec kx v
 |fr,rec,kx,(v,v1,w,w1)=>by kernel_rfl
theorem Awy(R:Type) (k:Nat):∀(fr:List Fr) (rec:Ie→Option R) (kx:Ex→Ie→Option R) (v:Ie),Bn (F4 R k) Zn (lp Tryz.f110 0) fr rec kx v=P8 rec kx v
 |fr,rec,kx,(v6,v7,w2,w3)=>by kernel_rfl
theorem Av8(R:Type) (k:Nat):∀(fr:List Fr) (rec:I3→Option R) (kx:Ex→I3→Option R) (v:I3),Bn (F4 R k) Xz (lp Tryz.f110 0) fr rec kx v=O7 rec kx v
 |fr,rec,kx,(v12,v13,w4,w5)=>by kernel_rfl
def Rn(k:Nat) (x:HV [.str,.int .i64]):Option (HV [.sv .tok,.int .i64]):=match x with
 |(s,i) =>
 chk (inb i s.length) (
  chk (H1 i s.length s.length) (
  cond ((hpre (s.drop (i:Int).toNat) [120,39])) (
   chk (H1 (wr .i64 (i+2)) s.length s.length) (
   cond (decide ((R3 (s.drop ((wr .i64 (i+2)):Int).toNat) 39)<0)) (
    some ((Tok.mk 0 i [] 0),(-1))) (
    chk (H1 (wr .i64 (i+2)) (wr .i64 ((wr .i64 (i+2))+(R3 (s.drop ((wr .i64 (i+2)):Int).toNat) 39))) s.length) (
    (A3p (cut s (wr .i64 (i+2)) (wr .i64 ((wr .i64 (i+2))+(R3 (s.drop ((wr .i64 (i+2)):Int).toNat) 39))))).bind fun(x,x1) =>
     cond (!decide (x1=0)) (
     some ((Tok.mk 5 i x 0),(-1))) (
     cond (decide (1000<(x.length:Int))) (
      some ((Tok.mk 5 i x 0),(-1))) (
      some ((Tok.mk 5 i x 0),(wr .i64 ((wr .i64 (i+3))+(R3 (s.drop ((wr .i64 (i+2)):Int).toNat) 39)))))))))) (
   cond ((Ai0 (bat s i))) (
   A0 (fun rec=>Pq rec (fun e vz=>match vz with|(_,v3,_,v5)=>match e with
    |.exit 0 =>
    chk (H1 i v3 s.length) (
     cond (!(Ap9 (cut s i v3))) (
     some ((Tok.mk 1 v5.pos (cut s i v3) v5.n),(-1))) (
     (Ack s v3).bind fun x2 =>
      cond (!x2) (
      some ((Tok.mk 1 v5.pos (cut s i v3) v5.n),(-1))) (
      some ((Tok.mk 1 v5.pos (cut s i v3) v5.n),v3))))
    |_=>none)) k (s,i,(Tok.mk 0 0 [] 0),(Tok.mk 0 i [] 0))) (
   cond ((Afs (bat s i))) (
    A0 (fun rec=>P8 rec (fun e vz=>match vz with|(_,v9,_,v11)=>match e with
    |.exit 0 =>
     chk (H1 i v9 s.length) (
     cond (!(B1 (cut s i v9))) (
      some ((Tok.mk 2 v11.pos (cut s i v9) v11.n),(-1))) (
      (Ack s v9).bind fun x3 =>
      cond (!x3) (
       some ((Tok.mk 2 v11.pos (cut s i v9) v11.n),(-1))) (
       some ((Tok.mk 2 v11.pos (cut s i v9) v11.n),v9))))
    |_=>none)) k (s,i,(Tok.mk 0 0 [] 0),(Tok.mk 0 i [] 0))) (
    cond ((Afh (bat s i))) (
    A0 (fun rec=>O7 rec (fun e vz=>match vz with|(_,v15,_,v17)=>match e with
     |.exit 0 =>
     chk (H1 i v15 s.length) (
      (Aro (cut s i v15)).bind fun(x4,x5) =>
      chk (H1 i v15 s.length) (
       cond (!x5) (
       some ((Tok.mk 3 v17.pos (cut s i v15) x4),(-1))) (
       (Ack s v15).bind fun x6 =>
        cond (!x6) (
        some ((Tok.mk 3 v17.pos (cut s i v15) x4),(-1))) (
        some ((Tok.mk 3 v17.pos (cut s i v15) x4),v15)))))
     |_=>none)) k (s,i,(Tok.mk 0 0 [] 0),(Tok.mk 0 i [] 0))) (
    cond (decide ((bat s i)=39)) (
     (Auj s (wr .i64 (i+1))).bind fun(x7,x8) =>
     cond (!decide ((W6 (Val.mk 4 0 x7))=0)) (
      some ((Tok.mk 4 i x7 0),(-1))) (
      some ((Tok.mk 4 i x7 0),x8))) (
     chk (H1 i s.length s.length) (
     (Bed (s.drop (i:Int).toNat)).bind fun x9 =>
      chk (H1 i (wr .i64 (i+x9)) s.length) (
      cond (decide (x9=0)) (
       some ((Tok.mk 6 i (cut s i (wr .i64 (i+x9))) 0),(-1))) (
       some ((Tok.mk 6 i (cut s i (wr .i64 (i+x9))) 0),(wr .i64 (i+x9)))))))))))))
theorem A8w(k:Nat):∀(x:HV [.str,.int .i64]),Cs (T8 _ k) Tryz.f157 [.str,.int .i64] [.sv .tok,.int .i64] x some=Rn k x
 |(s,i)=>by kernel_rfl
theorem A2p(k:Nat):FnOk Tryz.prog elT glT 157 [.str,.int .i64] [.sv .tok,.int .i64] (Rn k):=by
 refine A3 Tryz.func157 rfl (by kernel_rfl) follows (by kernel_rfl) (n:=0) (by kernel_rfl) (px:=T8 _ k) (fun cx hP hel hgl =>?_) (A8w k)
 have hp1:PxOk cx (F4 (HV [.sv .tok,.int .i64]) k):=⟨fun t=>by rw [hP,hel];exact Av An t,by rw [hgl];rfl⟩
 have hc1:Al cx (F4 (HV [.sv .tok,.int .i64]) k):=Af rfl (Aa (A7 (by rw [hP,hel,hgl];exact Al1) (by kernel_rfl)) (Aa (A7 (by rw [hP,hel,hgl];exact Amh) (by kernel_rfl)) (Aa (A7 (by rw [hP,hel,hgl];exact Ale) (by kernel_rfl)) Aj)))
 have hq1:CallQOk cx (F4 (HV [.sv .tok,.int .i64]) k):=Ab rfl rfl Ah Ae
 have hlltoken_0:A8 cx (F4 (HV [.sv .tok,.int .i64]) k) (lp Tryz.f110 0):=A58 (fun _ _=>by kernel_rfl) (Aio (Zh hp1 hc1 hq1 (by rw [hP];exact follows) (k:=k) (s:=Aas) (step:=Pq) (by kernel_rfl) (Aw1 _ k) (Az (n:=0) (by kernel_rfl) Ay)) (Aio (Zh hp1 hc1 hq1 (by rw [hP];exact follows) (k:=k) (s:=Zn) (step:=P8) (by kernel_rfl) (Awy _ k) (Az (n:=0) (by kernel_rfl) Ay)) (Zh hp1 hc1 hq1 (by rw [hP];exact follows) (k:=k) (s:=Xz) (step:=O7) (by kernel_rfl) (Av8 _ k) (Az (n:=0) (by kernel_rfl) Ay))))
 have hp0:PxOk cx (T8 (HV [.sv .tok,.int .i64]) k):=⟨fun t=>by rw [hP,hel];exact Av An t,by rw [hgl];rfl⟩
 have hc0:Al cx (T8 (HV [.sv .tok,.int .i64]) k):=Af rfl (Aa (A7 (by rw [hP,hel,hgl];exact A37) (by kernel_rfl)) (Aa (A7 (by rw [hP,hel,hgl];exact Amw) (by kernel_rfl)) (Aa (A7 (by rw [hP,hel,hgl];exact Bcy) (by kernel_rfl)) (Aa (A7 (by rw [hP,hel,hgl];exact Al1) (by kernel_rfl)) (Aa (A7 (by rw [hP,hel,hgl];exact Bbq) (by kernel_rfl)) (Aa (A7 (by rw [hP,hel,hgl];exact Bdf) (by kernel_rfl)) (Aa (A7 (by rw [hP,hel,hgl];exact Ane) (by kernel_rfl)) (Aa (A7 (by rw [hP,hel,hgl];exact Zd) (by kernel_rfl)) (Aa (A7 (by rw [hP,hel,hgl];exact Ale) (by kernel_rfl)) (Aa (A7 (by rw [hP,hel,hgl];exact A9o) (by kernel_rfl)) (Aa (A7 (by rw [hP,hel,hgl];exact A91) (by kernel_rfl)) (Aa (A7 (by rw [hP,hel,hgl];exact Aph) (by kernel_rfl)) (Aa (A7 (by rw [hP,hel,hgl];exact Bhf) (by kernel_rfl)) (Aa (Bv hp1 hc1 hq1 (by rw [hP];exact follows) (by rw [hP];exact Tryz.func110) rfl (by kernel_rfl) (by kernel_rfl) (n:=1) (by kernel_rfl) ((Cj Ay hlltoken_0))) Aj))))))))))))))
 have hq0:CallQOk cx (T8 (HV [.sv .tok,.int .i64]) k):=Ab rfl rfl Ah Ae
 exact⟨hp0,hc0,hq0,Ay⟩
def Aic(s:Str) (i:Int):Option (Tok×Int):=if s.length≤20000 then Rn 20001 (s,i) else none
def Al3:FT [.str,.int .i64] [.sv .tok,.int .i64]:=fun x=>Aic x.1 x.2
theorem A95:FnOk Tryz.prog elT glT 157 [.str,.int .i64] [.sv .tok,.int .i64] Al3 :=.fin 0 A2p fun(s,i) r hb hx=>⟨20001,by
 simp only [Al3,Aic] at hx
 split at hx
 ·exact hx
 ·cases hx⟩
theorem Acu{R:Type}{kx:Ex→I8→Option R}{s:Str}(w w1:Tok) {a:Int→Option R}(hs:ln s.length) (h1:∀j,kx (.exit 0) (s,j,w,w1)=a j):∀(k i:Nat),i≤s.length→s.length-i<k→A0 (fun rec=>Pq rec kx) k (s,(i:Int),w,w1)=a (Lp.runTo Lp.isUp s i)
 |0,i,_,h=>absurd h (Zm1 _)
 |k+1,i,hi,h=>by
  rw [Br]
  by_cases hl:i<s.length
  ·have ih:=Acu w w1 hs h1 k (i+1) (by omega) (by omega)
   have eb:Sx.byt s (i:Int)=(s[i].toNat:Int):=D8 hl
   simp only [Pq,Bf hl hs,ih,h1,D8 hl,Bl hl,Ala]
   rw [Ze1 (show(i:Int)<(s.length:Int) by omega)]
   cases hp:Lp.isUp (s[i].toNat:Int) with
   |true =>
    have:=Lp.runTo_yes (p:=Lp.isUp) (l:=s) (j:=i) (by omega) (by rw [eb];exact hp)
    rw [←this]
    rfl
   |false =>
    have:=Lp.runTo_no (p:=Lp.isUp) (l:=s) (j:=i) (by omega) (by rw [eb];exact hp)
    rw [this]
    rfl
  ·have:=Lp.runTo_end (p:=Lp.isUp) (l:=s) (j:=i) (by omega)
   simp only [Pq,h1]
   rw [Zd1 (by omega),this]
   rfl
theorem Aci{R:Type}{kx:Ex→Ie→Option R}{s:Str}(w w1:Tok) {a:Int→Option R}(hs:ln s.length) (h1:∀j,kx (.exit 0) (s,j,w,w1)=a j):∀(k i:Nat),i≤s.length→s.length-i<k→A0 (fun rec=>P8 rec kx) k (s,(i:Int),w,w1)=a (Lp.runTo Lp.isIn s i)
 |0,i,_,h=>absurd h (Zm1 _)
 |k+1,i,hi,h=>by
  rw [Br]
  by_cases hl:i<s.length
  ·have ih:=Aci w w1 hs h1 k (i+1) (by omega) (by omega)
   have eb:Sx.byt s (i:Int)=(s[i].toNat:Int):=D8 hl
   simp only [P8,Bf hl hs,ih,h1,D8 hl,Bl hl,Amb]
   rw [Ze1 (show(i:Int)<(s.length:Int) by omega)]
   cases hp:Lp.isIn (s[i].toNat:Int) with
   |true =>
    have:=Lp.runTo_yes (p:=Lp.isIn) (l:=s) (j:=i) (by omega) (by rw [eb];exact hp)
    rw [←this]
    rfl
   |false =>
    have:=Lp.runTo_no (p:=Lp.isIn) (l:=s) (j:=i) (by omega) (by rw [eb];exact hp)
    rw [this]
    rfl
  ·have:=Lp.runTo_end (p:=Lp.isIn) (l:=s) (j:=i) (by omega)
   simp only [P8,h1]
   rw [Zd1 (by omega),this]
   rfl
theorem Acl{R:Type}{kx:Ex→I3→Option R}{s:Str}(w w1:Tok) {a:Int→Option R}(hs:ln s.length) (h1:∀j,kx (.exit 0) (s,j,w,w1)=a j):∀(k i:Nat),i≤s.length→s.length-i<k→A0 (fun rec=>O7 rec kx) k (s,(i:Int),w,w1)=a (Lp.runTo Lp.isDi s i)
 |0,i,_,h=>absurd h (Zm1 _)
 |k+1,i,hi,h=>by
  rw [Br]
  by_cases hl:i<s.length
  ·have ih:=Acl w w1 hs h1 k (i+1) (by omega) (by omega)
   have eb:Sx.byt s (i:Int)=(s[i].toNat:Int):=D8 hl
   simp only [O7,Bf hl hs,ih,h1,D8 hl,Bl hl,Ak9]
   rw [Ze1 (show(i:Int)<(s.length:Int) by omega)]
   cases hp:Lp.isDi (s[i].toNat:Int) with
   |true =>
    have:=Lp.runTo_yes (p:=Lp.isDi) (l:=s) (j:=i) (by omega) (by rw [eb];exact hp)
    rw [←this]
    rfl
   |false =>
    have:=Lp.runTo_no (p:=Lp.isDi) (l:=s) (j:=i) (by omega) (by rw [eb];exact hp)
    rw [this]
    rfl
  ·have:=Lp.runTo_end (p:=Lp.isDi) (l:=s) (j:=i) (by omega)
   simp only [O7,h1]
   rw [Zd1 (by omega),this]
   rfl
theorem Adn{i j:Int}{n:Nat}(h : 0≤i∧i≤j∧j≤n):H1 i j n=true:=by simp [H1,h]
theorem A2v{n:Int}(h : 0≤n∧n≤1000000):wr .i64 n=n:=Jt (by simp only [inI];omega)
theorem A68{x:Str}(h:x≠[]):Aro x=some (Bgz x):=by
 cases x with
 |nil=>exact absurd rfl h
 |cons b l=>rfl
theorem Bho{x:Str}(h:x≠[]):Bed x=some (Lp.signF x):=by
 cases x with
 |nil=>exact absurd rfl h
 |cons b l=>rfl
theorem Anp{s:Str}{i:Int}(h : 0≤i∧i≤s.length):Ack s i=some (Lp.aloneF s i):=if_pos h
theorem A09(x:Str):Mw x=Lp.visF x:=by
 have e:∀b:UInt8,vis b=Lp.vis (b.toNat:Int):=fun b=>by
  simp only [vis,Lp.vis]
  rw [show decide (32≤b.toNat)=decide (32≤(b.toNat:Int)) from Zy1.2 (by omega),show decide (b.toNat≤126)=decide ((b.toNat:Int)≤126) from Zy1.2 (by omega)]
 simp only [Mw,Lp.visF]
 congr 1
 funext b
 exact e b
theorem Ayq(x:Str):Cy (Val.mk 4 0 x)=Lp.rightF 4 0 x:=by
 show cond (decide ((x.length:Int)≤1000)) (Mw x) false=(decide ((x.length:Int)≤1000)&&Lp.visF x)
 rw [A09]
 cases decide ((x.length:Int)≤1000)<;>rfl
theorem Aym(x:Str):decide (W6 (Val.mk 4 0 x)=0)=Lp.rightF 4 0 x:=by
 have key:∀b:Bool,decide (cond (!b) (2:Int) 0=0)=b:=by decide
 rw [←Ayq]
 exact key _
theorem Azt{s:Str}{i:Int}(hl : 0≤i∧i<s.length) (hs:s.length≤20000):match Lp.tokF s i with
  |some (k,x,n,e)=>Aic s i=some (⟨k,i,x,n⟩,e)
  |none=>∃t,Aic s i=some (t, -1):=by
 have hln:ln s.length:=by simp only [ln];omega
 have hd:(s.drop i.toNat).length=s.length-i.toNat:=Za2
 have hd2:(s.drop (i+2).toNat).length=s.length-(i+2).toNat:=Za2
 have hne:s.drop i.toNat≠[]:=List.ne_nil_of_length_pos (by omega)
 obtain⟨m,rfl⟩:=Int.eq_ofNat_of_zero_le hl.1
 have hm:m<s.length:=by omega
 have ep:∀p q,hpre p q=Lp.pre p q:=fun _ _=>rfl
 have eb:bat s (m:Int)=Sx.byt s (m:Int):=rfl
 have e39:R3 (s.drop ((m:Int)+2).toNat) 39=Lib.indexByte (s.drop ((m:Int)+2).toNat) 39:=rfl
 simp only [Aic,if_pos hs,Rn,Bl hm,Adn (show 0≤(m:Int)∧(m:Int)≤(s.length:Int)∧(s.length:Int)≤s.length by omega),ep,eb,Ala,Anm,Ak9,chk,Ai,Lp.tokF,A2v (show 0≤(m:Int)+2∧(m:Int)+2≤1000000 by omega),A2v (show 0≤(m:Int)+3∧(m:Int)+3≤1000000 by omega),A2v (show 0≤(m:Int)+1∧(m:Int)+1≤1000000 by omega)]
 cases hx:Lp.pre (s.drop (m:Int).toNat) [120,39] with
 |true =>
  have h2 : 2≤(s.drop (m:Int).toNat).length:=by
   simp only [Lp.pre,Zb1,Zg1,Zf1,Zi1] at hx
   omega
  have hib:=Lp.indexByte_in (s.drop ((m:Int)+2).toNat) 39
  simp only [if_true,Ai]
  rw [Adn (show 0≤(m:Int)+2∧(m:Int)+2≤(s.length:Int)∧(s.length:Int)≤s.length by omega),e39,Ai]
  generalize Lib.indexByte (s.drop ((m:Int)+2).toNat) 39=z at hib ⊢
  by_cases hz:z<0
  ·rw [if_pos hz,Ze1 hz]
   exact⟨_,rfl⟩
  ·rw [if_neg hz,Zd1 hz,A2v (show 0≤(m:Int)+2+z∧(m:Int)+2+z≤1000000 by omega),A2v (show 0≤(m:Int)+3+z∧(m:Int)+3+z≤1000000 by omega),Adn (show 0≤(m:Int)+2∧(m:Int)+2≤(m:Int)+2+z∧(m:Int)+2+z≤s.length by omega),Ak,Ai]
   have hcl:=Lp.cut_length s ((m:Int)+2) ((m:Int)+2+z) (by omega)
   have ec:cut s ((m:Int)+2) ((m:Int)+2+z)=Sx.cut s ((m:Int)+2) ((m:Int)+2+z):=rfl
   rw [ec]
   generalize Sx.cut s ((m:Int)+2) ((m:Int)+2+z)=y at hcl ⊢
   have eu:A3p y=some (unP y):=if_pos (by omega)
   rw [eu,unP]
   cases (if y.length % 2=0 then Lp.unGo y [] else none) with
   |none=>exact⟨_,rfl⟩
   |some b =>
    by_cases hb : 1000<(b.length:Int)
    ·simp only [Zc1]
     rw [if_pos hb,Ze1 hb]
     exact⟨_,rfl⟩
    ·simp only [Zc1]
     rw [if_neg hb,Zd1 hb]
     rfl
 |false =>
  simp only [Ak,Zj2,if_false]
  cases hu:Lp.isUp (Sx.byt s (m:Int)) with
  |true =>
   have hr:=Lp.runTo_range Lp.isUp s m (by omega)
   simp only [Ai,if_true]
   rw [Acu (s:=s) (w:=Tok.mk 0 0 [] 0) (w1:=Tok.mk 0 m [] 0) (a:=fun v3=>cond (H1 (m:Int) v3 s.length) (cond (!(Ap9 (cut s m v3))) (some ((Tok.mk 1 m (cut s m v3) 0),(-1))) ((Ack s v3).bind fun x2=>cond (!x2) (some ((Tok.mk 1 m (cut s m v3) 0),(-1))) (some ((Tok.mk 1 m (cut s m v3) 0),v3)))) none) hln (fun _=>rfl) 20001 m (by omega) (by omega)]
   rw [Adn (by omega),Anp (by omega),Bhm]
   have ec:cut s (m:Int) (Lp.runTo Lp.isUp s m)=Sx.cut s (m:Int) (Lp.runTo Lp.isUp s m):=rfl
   rw [ec]
   cases Lp.wordF (Sx.cut s (m:Int) (Lp.runTo Lp.isUp s m)) with
   |false=>exact⟨_,rfl⟩
   |true =>
    cases Lp.aloneF s (Lp.runTo Lp.isUp s m) with
    |false=>exact⟨_,rfl⟩
    |true=>rfl
  |false =>
   simp only [Ak,Zj2,if_false]
   cases hu2:Lp.isLo (Sx.byt s (m:Int)) with
   |true =>
    have hr:=Lp.runTo_range Lp.isIn s m (by omega)
    simp only [Ai,if_true]
    rw [Aci (s:=s) (w:=Tok.mk 0 0 [] 0) (w1:=Tok.mk 0 m [] 0) (a:=fun v3=>cond (H1 (m:Int) v3 s.length) (cond (!(B1 (cut s m v3))) (some ((Tok.mk 2 m (cut s m v3) 0),(-1))) ((Ack s v3).bind fun x2=>cond (!x2) (some ((Tok.mk 2 m (cut s m v3) 0),(-1))) (some ((Tok.mk 2 m (cut s m v3) 0),v3)))) none) hln (fun _=>rfl) 20001 m (by omega) (by omega)]
    rw [Adn (by omega),Anp (by omega)]
    have ec:cut s (m:Int) (Lp.runTo Lp.isIn s m)=Sx.cut s (m:Int) (Lp.runTo Lp.isIn s m):=rfl
    rw [ec]
    simp only [B1]
    cases Lp.nameF (Sx.cut s (m:Int) (Lp.runTo Lp.isIn s m)) with
    |false=>exact⟨_,rfl⟩
    |true =>
     cases Lp.aloneF s (Lp.runTo Lp.isIn s m) with
     |false=>exact⟨_,rfl⟩
     |true=>rfl
   |false =>
    simp only [Ak,Zj2,if_false]
    cases hu3:Lp.isDi (Sx.byt s (m:Int)) with
    |true =>
     have hr:=Lp.runTo_range Lp.isDi s m (by omega)
     have hg:=Lp.runTo_gt (p:=Lp.isDi) (by omega) hu3
     have hcl:=Lp.cut_length s (m:Int) (Lp.runTo Lp.isDi s m) (by omega)
     simp only [Ai,if_true]
     rw [Acl (s:=s) (w:=Tok.mk 0 0 [] 0) (w1:=Tok.mk 0 m [] 0) (a:=fun v3=>cond (H1 (m:Int) v3 s.length) ((Aro (cut s m v3)).bind fun(x4,x5)=>cond (H1 (m:Int) v3 s.length) (cond (!x5) (some ((Tok.mk 3 m (cut s m v3) x4),(-1))) ((Ack s v3).bind fun x6=>cond (!x6) (some ((Tok.mk 3 m (cut s m v3) x4),(-1))) (some ((Tok.mk 3 m (cut s m v3) x4),v3)))) none) none) hln (fun _=>rfl) 20001 m (by omega) (by omega)]
     have ec:cut s (m:Int) (Lp.runTo Lp.isDi s m)=Sx.cut s (m:Int) (Lp.runTo Lp.isDi s m):=rfl
     rw [Adn (by omega),Anp (by omega),ec]
     generalize Sx.cut s (m:Int) (Lp.runTo Lp.isDi s m)=y at hcl ⊢
     rw [A68 (List.ne_nil_of_length_pos (by omega)),Bgz]
     cases Lp.numGo y 0 with
     |none=>exact⟨_,rfl⟩
     |some n =>
      simp only [Zc1,Ai]
      have e0:(decide (y=[48]) || !decide (bat y 0=48))=(decide (y=[48])||Sx.byt y 0 != 48):=rfl
      rw [e0]
      cases (decide (y=[48])||Sx.byt y 0 != 48) with
      |false=>exact⟨_,rfl⟩
      |true =>
       cases Lp.aloneF s (Lp.runTo Lp.isDi s m) with
       |false=>exact⟨_,rfl⟩
       |true=>rfl
    |false =>
     simp only [Ak,Zj2,if_false]
     by_cases h39:Sx.byt s (m:Int)=39
     ·have hqi:=Lp.qGo_in _ (s.drop ((m:Int)+1).toNat) [] ((m:Int)+1) (Zn1 _) (by omega)
      have eq:Auj s ((m:Int)+1)=some (Lp.qGo (s.drop ((m:Int)+1).toNat) [] ((m:Int)+1)):=if_pos (by omega)
      rw [Ze1 h39,if_pos h39,eq]
      simp only [Ai,Zc1,Aym]
      generalize Lp.qGo (s.drop ((m:Int)+1).toNat) [] ((m:Int)+1)=q at hqi ⊢
      obtain⟨y,z⟩:=q
      cases Lp.rightF 4 0 y with
      |false=>exact⟨_,rfl⟩
      |true =>
       simp only [if_true,Zt1,Ak]
       by_cases hz:z<0
       ·rw [if_pos hz]
        obtain rfl:z = -1:=by simp only at hqi;omega
        exact⟨_,rfl⟩
       ·rw [if_neg hz]
     ·have hsi:=Lp.signF_in (s.drop (m:Int).toNat) (by omega)
      rw [Zd1 h39,if_neg h39,Bho hne]
      simp only [Ak,Zc1]
      generalize Lp.signF (s.drop (m:Int).toNat)=z at hsi ⊢
      rw [A2v (show 0≤(m:Int)+z∧(m:Int)+z≤1000000 by omega),Adn (by omega)]
      by_cases hz:z=0
      ·rw [Ze1 hz,if_pos hz]
       exact⟨_,rfl⟩
      ·rw [Zd1 hz,if_neg hz]
       rfl
def Aht:Sig:=⟨38,[(0,.str),(2,.sl .tok true),(3,.int .i64),(4,.int .i64),(5,.sl .tok true),(6,.int .i64)],[],[],0,0,0,[],[]⟩
abbrev Q7:=Str×List Tok×Int×Int×List Tok×Int
def Adb{R:Type}(rec:Q7→Option R) (kx:Ex→Q7→Option R) (v:Q7):Option R:=match v with
 |(v,v1,v2,v3,v4,v5) =>
 cond (decide (v5<(v.length:Int))) (
  chk (inb v5 v.length) (
  cond (decide (0≤(R3 [32,9,10,13] (bat v v5)))) (
   rec (v,v1,v2,v3,v4,(wr .i64 (v5+1)))) (
   (Aic v v5).bind fun(x,x1) =>
   cond (decide (x1<0)) (
    kx .ret (v,[],v5,11,v4,v5)) (
    chk (decide (v4.length+1≤A1)) (
    rec (v,v1,v2,v3,(v4++[x]),x1)))))) (
  kx (.exit 0) (v,v1,v2,v3,v4,v5))
def W5(R:Type) (k:Nat):Px R:=⟨Bd ttL,glT,Au [(156,As [.str,.int .u8] [.int .i64] Aj0),(157,As [.str,.int .i64] [.sv .tok,.int .i64] Al3)],Am [],Aw [(5,Be k Aht (Adb))],tbl []⟩
theorem A87(R:Type) (k:Nat):∀(fr:List Fr) (rec:Q7→Option R) (kx:Ex→Q7→Option R) (v:Q7),Bn (W5 R k) Aht (lp Tryz.f116 0) fr rec kx v=Adb rec kx v
 |fr,rec,kx,(v,v1,v2,v3,v4,v5)=>by kernel_rfl
def Ahl(k:Nat) (x:HV [.str]):Option (HV [.sl .tok true,.int .i64,.int .i64]):=match x with
 |s =>
 cond (decide (20000<(s.length:Int))) (
  some ([],0,3)) (
  A0 (fun rec=>Adb rec (fun e vz=>match vz with|(_,v7,v8,v9,v10,_)=>match e with
  |.ret =>
   some (v7,v8,v9)
  |.exit 0 =>
   some (v10,0,0)
  |_=>none)) k (s,[],0,0,[],0))
theorem Bi0(k:Nat):∀(x:HV [.str]),Cs (W5 _ k) Tryz.f116 [.str] [.sl .tok true,.int .i64,.int .i64] x some=Ahl k x
 |s=>by kernel_rfl
theorem Bfx(k:Nat):FnOk Tryz.prog elT glT 116 [.str] [.sl .tok true,.int .i64,.int .i64] (Ahl k):=by
 refine A3 Tryz.func116 rfl (by kernel_rfl) follows (by kernel_rfl) (n:=1) (by kernel_rfl) (px:=W5 _ k) (fun cx hP hel hgl =>?_) (Bi0 k)
 have hp0:PxOk cx (W5 (HV [.sl .tok true,.int .i64,.int .i64]) k):=⟨fun t=>by rw [hP,hel];exact Av An t,by rw [hgl];rfl⟩
 have hc0:Al cx (W5 (HV [.sl .tok true,.int .i64,.int .i64]) k):=Af rfl (Aa (A7 (by rw [hP,hel,hgl];exact Amw) (by kernel_rfl)) (Aa (A7 (by rw [hP,hel,hgl];exact A95) (by kernel_rfl)) Aj))
 have hq0:CallQOk cx (W5 (HV [.sl .tok true,.int .i64,.int .i64]) k):=Ab rfl rfl Ah Ae
 have hllall_0:A8 cx (W5 (HV [.sl .tok true,.int .i64,.int .i64]) k) (lp Tryz.f116 0):=Ba hp0 hc0 hq0 (by rw [hP];exact follows) (k:=k) (s:=Aht) (step:=Adb) (fun _ _=>by kernel_rfl) (by kernel_rfl) (A87 _ k) (Az (n:=0) (by kernel_rfl) Ay)
 exact⟨hp0,hc0,hq0,(Cj Ay hllall_0)⟩
def Bcc(s:Str):List Tok×Int×Int:=if 20000<(s.length:Int) then([],0,3) else match Lp.allF s with
 |.error i=>([],i,11)
 |.ok ts=>(ts,0,0)
abbrev Hb (s:Str):List Tok×Int×Int:=Bcc s
def Atf:FT [.str] [.sl .tok true,.int .i64,.int .i64]:=fun x=>some (Hb x)
theorem Bes(c:Int):decide (0≤R3 [32,9,10,13] c)=Lp.blankF c:=rfl
theorem Ahm{R:Type}{kx:Ex→Q7→Option R}{s:Str}{c:Except Int (List Tok)→Option R}(hs:s.length≤20000) (h1:∀a i j,kx .ret (s,[],i,11,a,j)=c (.error i)) (h2:∀q r t a j,kx (.exit 0) (s,q,r,t,a,j)=c (.ok a)):∀(k:Nat) (i:Int) (f:Nat) (q:List Tok) (r t:Int) (a:List Tok),(a.length:Int)≤i→0≤i→i≤s.length→(s.length:Int)-i<k→(s.length:Int)-i<f→A0 (fun rec=>Adb rec kx) k (s,q,r,t,a,i)=c (Lp.allGo f s i a)
 |0,i,f,q,r,t,a,_,_,_,h,_=>by omega
 |k+1,i,0,q,r,t,a,_,_,_,_,h=>by omega
 |k+1,i,f+1,q,r,t,a,ha,h0,hi,h,hf=>by
  rw [Br]
  by_cases hl:i<s.length
  ·have ea:decide (a.length+1≤A1)=true:=Ze1 (by simp only [A1];omega)
   have eb:bat s i=Sx.byt s i:=rfl
   simp only [Adb,Avu (show 0≤i∧i<(s.length:Int) from⟨h0,hl⟩),Bes,ea,eb,Lp.allGo]
   rw [Ze1 hl,if_neg (show ¬(s.length:Int)≤i by omega)]
   simp only [Ai,chk]
   cases hbl:Lp.blankF (Sx.byt s i) with
   |true =>
    rw [A2v (by omega)]
    simp only [Ai,if_true]
    exact Ahm hs h1 h2 k (i+1) f q r t a (by omega) (by omega) (by omega) (by omega) (by omega)
   |false =>
    have ht:=Azt (s:=s) (i:=i) ⟨h0,hl⟩ hs
    simp only [Ak,Zj2,if_false]
    cases hk:Lp.tokF s i with
    |none =>
     rw [hk] at ht
     obtain⟨u,hu⟩:=ht
     rw [hu]
     exact h1 _ _ _
    |some y =>
     obtain⟨y1,y2,y3,e⟩:=y
     rw [hk] at ht
     have hte:=Lp.tok_end ⟨h0,hl⟩ hk
     simp only at ht
     rw [ht]
     simp only [Zc1]
     rw [Zd1 (show ¬e<0 by omega),Ak]
     exact Ahm hs h1 h2 k e f q r t (a++[⟨y1,i,y2,y3⟩]) (by simp only [Zh1,Zf1,Zi1];omega) (by omega) (by omega) (by omega) (by omega)
  ·simp only [Adb,h2,Lp.allGo]
   rw [Zd1 hl,if_pos (show(s.length:Int)≤i by omega)]
   rfl
theorem A46:FnOk Tryz.prog elT glT 116 [.str] [.sl .tok true,.int .i64,.int .i64] Atf :=.fin 0 Bfx fun s r hb hx=>⟨20001,by
 simp only [Atf,Za1] at hx
 rw [←hx]
 simp only [Ahl,Hb,Bcc]
 by_cases hbig : 20000<(s.length:Int)
 ·rw [Ze1 hbig,if_pos hbig]
  rfl
 ·rw [Zd1 hbig,if_neg hbig,Ak]
  refine(Ahm (s:=s) (c:=fun o=>match o with|.error i=>some ([],i,(11:Int))|.ok ts=>some (ts,(0:Int),(0:Int))) (by omega) (fun _ _ _ =>?_) (fun _ _ _ _ _ =>?_) 20001 0 (s.length+1) [] 0 0 [] (by simp) (by omega) (by omega) (by omega) (by omega)).trans ?_
  ·rfl
  ·rfl
  ·show _=some (match Lp.allGo (s.length+1) s 0 [] with|.error i=>([],i,(11:Int))|.ok ts=>(ts,(0:Int),(0:Int)))
   cases Lp.allGo (s.length+1) s 0 []<;>rfl⟩
end Go.Proofs.YthndhaolemgbdaaGreatDoor
namespace Go.Proofs.YthndhaolemgbdaaGreatDoor
open Go.Ax
def Kv:Sig:=⟨1,[],[(0,.ptr 0 0)],[(0,.cells [.sl .tok false,.int .i64,.bool,.int .i64])],1,1,0,[],[]⟩
def Kk:Sig:=⟨1,[(0,.sv .tok)],[],[(0,.cells [.sl .tok false,.int .i64,.bool,.int .i64])],1,1,0,[],[]⟩
abbrev Auf:=List Tok×Int×Bool×Int
abbrev Afm:=Tok×List Tok×Int×Bool×Int
def Aar(R:Type):Px R:=⟨Bd ttL,glT,Au [],Am [],Aw [],tbl []⟩
def Wa(x:Auf):Option (Afm):=match x with
 |(l,n,b,p) =>
 cond (decide ((l.length:Int)=0)) (
  some ((Tok.mk 0 n [] 0),l,n,b,p)) (
  chk (inb 0 l.length) (
  some ((at' .tok l 0),l,n,b,p)))
theorem Bfe:∀(x:Auf),Du (Aar _) Tryz.f158 Kv Kk x some=Wa x
 |(l,n,b,p)=>by kernel_rfl
theorem A71:FnLn Tryz.prog elT glT 158 Kv Kk (Wa):=by
 refine Bu Tryz.func158 rfl (by kernel_rfl) follows (by kernel_rfl) (n:=0) (by kernel_rfl) (px:=Aar _) (fun cx hP hel hgl =>?_) (Bfe)
 have hp0:PxOk cx (Aar (Afm)):=⟨fun t=>by rw [hP,hel];exact Av An t,by rw [hgl];rfl⟩
 have hc0:Al cx (Aar (Afm)):=Af rfl Aj
 have hq0:CallQOk cx (Aar (Afm)):=Ab rfl rfl Ah Ae
 exact⟨hp0,hc0,hq0,Ay⟩
def Fe:Auf→Option Afm:=fun x=>Wa x
theorem Uf:FnLn Tryz.prog elT glT 158 Kv Kk (Fe):=A71
def Nd:Sig:=⟨1,[],[(0,.ptr 0 0)],[(0,.cells [.sl .tok false,.int .i64,.bool,.int .i64])],1,1,0,[],[]⟩
def Nk:Sig:=⟨1,[(0,.sv .tok)],[],[(0,.cells [.sl .tok false,.int .i64,.bool,.int .i64])],1,1,0,[],[]⟩
abbrev Asx:=List Tok×Int×Bool×Int
abbrev Ae2:=Tok×List Tok×Int×Bool×Int
def Aac(R:Type):Px R:=⟨Bd ttL,glT,Au [(158,Aq Kv Kk Fe)],Am [],Aw [],tbl []⟩
def V2(x:Asx):Option (Ae2):=match x with
 |(l,n,b,p) =>
 (Fe (l,n,b,p)).bind fun(x,x1,x2,x3,x4) =>
  cond (decide (0<(x1.length:Int))) (
  chk (H1 1 x1.length x1.length) (
   some (x,(x1.drop (1:Int).toNat),x2,x3,x4))) (
  some (x,x1,x2,x3,x4))
theorem Bgn:∀(x:Asx),Du (Aac _) Tryz.f159 Nd Nk x some=V2 x
 |(l,n,b,p)=>by kernel_rfl
theorem Ban:FnLn Tryz.prog elT glT 159 Nd Nk (V2):=by
 refine Bu Tryz.func159 rfl (by kernel_rfl) follows (by kernel_rfl) (n:=0) (by kernel_rfl) (px:=Aac _) (fun cx hP hel hgl =>?_) (Bgn)
 have hp0:PxOk cx (Aac (Ae2)):=⟨fun t=>by rw [hP,hel];exact Av An t,by rw [hgl];rfl⟩
 have hc0:Al cx (Aac (Ae2)):=Af rfl (Aa (A9 (by rw [hP,hel,hgl];exact Uf) (by kernel_rfl)) Aj)
 have hq0:CallQOk cx (Aac (Ae2)):=Ab rfl rfl Ah Ae
 exact⟨hp0,hc0,hq0,Ay⟩
def C0:Asx→Option Ae2:=fun x=>V2 x
theorem Y2:FnLn Tryz.prog elT glT 159 Nd Nk (C0):=Ban
def Ew:Sig:=⟨2,[(1,.str)],[(0,.ptr 0 0)],[(0,.cells [.sl .tok false,.int .i64,.bool,.int .i64])],1,1,0,[],[]⟩
def Ev:Sig:=⟨1,[(0,.bool)],[],[(0,.cells [.sl .tok false,.int .i64,.bool,.int .i64])],1,1,0,[],[]⟩
abbrev Bfr:=Str×List Tok×Int×Bool×Int
abbrev Ayn:=Bool×List Tok×Int×Bool×Int
def Alz(R:Type):Px R:=⟨Bd ttL,glT,Au [(158,Aq Kv Kk Fe),(159,Aq Nd Nk C0)],Am [],Aw [],tbl []⟩
def Yg(x:Bfr):Option (Ayn):=match x with
 |(s,l,n,b,p) =>
 (Fe (l,n,b,p)).bind fun(x,x1,x2,x3,x4) =>
  cond (!decide (x.kind=1)) (
  cond (!decide (x.kind=6)) (
   some (false,x1,x2,x3,x4)) (
   cond (!decide (x.s=s)) (
   some (false,x1,x2,x3,x4)) (
   (C0 (x1,x2,x3,x4)).bind fun(_,x11,x12,x13,x14) =>
    some (true,x11,x12,x13,x14)))) (
  cond (!decide (x.s=s)) (
   some (false,x1,x2,x3,x4)) (
   (C0 (x1,x2,x3,x4)).bind fun(_,x16,x17,x18,x19) =>
   some (true,x16,x17,x18,x19)))
theorem Bnh:∀(x:Bfr),Du (Alz _) Tryz.f117 Ew Ev x some=Yg x
 |(s,l,n,b,p)=>by kernel_rfl
theorem Blh:FnLn Tryz.prog elT glT 117 Ew Ev (Yg):=by
 refine Bu Tryz.func117 rfl (by kernel_rfl) follows (by kernel_rfl) (n:=0) (by kernel_rfl) (px:=Alz _) (fun cx hP hel hgl =>?_) (Bnh)
 have hp0:PxOk cx (Alz (Ayn)):=⟨fun t=>by rw [hP,hel];exact Av An t,by rw [hgl];rfl⟩
 have hc0:Al cx (Alz (Ayn)):=Af rfl (Aa (A9 (by rw [hP,hel,hgl];exact Uf) (by kernel_rfl)) (Aa (A9 (by rw [hP,hel,hgl];exact Y2) (by kernel_rfl)) Aj))
 have hq0:CallQOk cx (Alz (Ayn)):=Ab rfl rfl Ah Ae
 exact⟨hp0,hc0,hq0,Ay⟩
def A5:Bfr→Option Ayn:=fun x=>Yg x
theorem F1:FnLn Tryz.prog elT glT 117 Ew Ev (A5):=Blh
def Hq:Sig:=⟨1,[],[(0,.ptr 0 0)],[(0,.cells [.sl .tok false,.int .i64,.bool,.int .i64])],1,1,0,[],[]⟩
def Hp:Sig:=⟨0,[],[],[(0,.cells [.sl .tok false,.int .i64,.bool,.int .i64])],1,1,0,[],[]⟩
abbrev Amo:=List Tok×Int×Bool×Int
abbrev Z0:=List Tok×Int×Bool×Int
def Ti(R:Type):Px R:=⟨Bd ttL,glT,Au [(158,Aq Kv Kk Fe)],Am [],Aw [],tbl []⟩
def Rj(x:Amo):Option (Z0):=match x with
 |(l,n,b,p) =>
 cond (!b) (
  (Fe (l,n,b,p)).bind fun(x,x1,x2,_,_) =>
  some (x1,x2,true,x.pos)) (
  some (l,n,b,p))
theorem A86:∀(x:Amo),Du (Ti _) Tryz.f127 Hq Hp x some=Rj x
 |(l,n,b,p)=>by kernel_rfl
theorem A1l:FnLn Tryz.prog elT glT 127 Hq Hp (Rj):=by
 refine Bu Tryz.func127 rfl (by kernel_rfl) follows (by kernel_rfl) (n:=0) (by kernel_rfl) (px:=Ti _) (fun cx hP hel hgl =>?_) (A86)
 have hp0:PxOk cx (Ti (Z0)):=⟨fun t=>by rw [hP,hel];exact Av An t,by rw [hgl];rfl⟩
 have hc0:Al cx (Ti (Z0)):=Af rfl (Aa (A9 (by rw [hP,hel,hgl];exact Uf) (by kernel_rfl)) Aj)
 have hq0:CallQOk cx (Ti (Z0)):=Ab rfl rfl Ah Ae
 exact⟨hp0,hc0,hq0,Ay⟩
def C2:Amo→Option Z0:=fun x=>Rj x
theorem Oq:FnLn Tryz.prog elT glT 127 Hq Hp (C2):=A1l
def Em:Sig:=⟨2,[(1,.sl .str false)],[(0,.ptr 0 0)],[(0,.cells [.sl .tok false,.int .i64,.bool,.int .i64])],1,1,0,[],[]⟩
def Eo:Sig:=⟨0,[],[],[(0,.cells [.sl .tok false,.int .i64,.bool,.int .i64])],1,1,0,[],[]⟩
abbrev Asn:=List Str×List Tok×Int×Bool×Int
abbrev Aa9:=List Tok×Int×Bool×Int
def Ad3:Sig:=⟨27,[(6,.sl .str false),(7,.int .i64),(8,.int .i64)],[(0,.ptr 0 0)],[(0,.cells [.sl .tok false,.int .i64,.bool,.int .i64])],1,1,0,[],[]⟩
abbrev L0:=List Str×Int×Int×List Tok×Int×Bool×Int
def Ry{R:Type}(rec:L0→Option R) (kx:Ex→L0→Option R) (v:L0):Option R:=match v with
 |(v,v1,v2,w,w1,w2,w3) =>
 cond (decide (v2<v1)) (
  chk (inb v2 v.length) (
  let j:=fun(p2:Bool) (q4:List Tok) (q5:Int) (q6:Bool) (q7:Int) =>
   cond (p2) (
   (C2 (q4,q5,q6,q7)).bind fun(x5,x6,x7,x8) =>
    kx .ret (v,v1,v2,x5,x6,x7,x8)) (
   rec (v,v1,(wr .i64 (v2+1)),q4,q5,q6,q7))
  cond (w2) (
   j true w w1 w2 w3) (
   (A5 ((at' .str v v2),w,w1,w2,w3)).bind fun(x,x1,x2,x3,x4) =>
   j (!x) x1 x2 x3 x4))) (
  kx (.exit 0) (v,v1,v2,w,w1,w2,w3))
def Q3(R:Type) (k:Nat):Px R:=⟨Bd ttL,glT,Au [(117,Aq Ew Ev A5),(127,Aq Hq Hp C2)],Am [],Aw [(1,Be k Ad3 (Ry))],tbl []⟩
theorem A2e(R:Type) (k:Nat):∀(fr:List Fr) (rec:L0→Option R) (kx:Ex→L0→Option R) (v:L0),Bn (Q3 R k) Ad3 (lp Tryz.f119 0) fr rec kx v=Ry rec kx v
 |fr,rec,kx,(v,v1,v2,w,w1,w2,w3)=>by kernel_rfl
def L1(k:Nat) (x:Asn):Option (Aa9):=match x with
 |(ss,l,n,b,p) =>
 A0 (fun rec=>Ry rec (fun e vz=>match vz with|(_,_,_,v6,v7,v8,v9)=>match e with
  |.ret =>
  some (v6,v7,v8,v9)
  |.exit 0 =>
  some (v6,v7,v8,v9)
  |_=>none)) k (ss,(ss.length:Int),0,l,n,b,p)
theorem Be7(k:Nat):∀(x:Asn),Du (Q3 _ k) Tryz.f119 Em Eo x some=L1 k x
 |(ss,l,n,b,p)=>by kernel_rfl
theorem A8y(k:Nat):FnLn Tryz.prog elT glT 119 Em Eo (L1 k):=by
 refine Bu Tryz.func119 rfl (by kernel_rfl) follows (by kernel_rfl) (n:=1) (by kernel_rfl) (px:=Q3 _ k) (fun cx hP hel hgl =>?_) (Be7 k)
 have hp0:PxOk cx (Q3 (Aa9) k):=⟨fun t=>by rw [hP,hel];exact Av An t,by rw [hgl];rfl⟩
 have hc0:Al cx (Q3 (Aa9) k):=Af rfl (Aa (A9 (by rw [hP,hel,hgl];exact F1) (by kernel_rfl)) (Aa (A9 (by rw [hP,hel,hgl];exact Oq) (by kernel_rfl)) Aj))
 have hq0:CallQOk cx (Q3 (Aa9) k):=Ab rfl rfl Ah Ae
 have hlpmust_0:A8 cx (Q3 (Aa9) k) (lp Tryz.f119 0):=Ba hp0 hc0 hq0 (by rw [hP];exact follows) (k:=k) (s:=Ad3) (step:=Ry) (fun _ _=>by kernel_rfl) (by kernel_rfl) (A2e _ k) (Az (n:=0) (by kernel_rfl) Ay)
 exact⟨hp0,hc0,hq0,(Cj Ay hlpmust_0)⟩
def Ao:Asn→Option Aa9:=fun x=>L1 ((x.1.length+1)) x
theorem Hi:FnLn Tryz.prog elT glT 119 Em Eo (Ao):=FnLn.fin (ι:=Nat) (sg:=Em) (so:=Eo) 0 (F:=fun k=>L1 k) (fun k=>A8y k) fun x _ _ hx=>⟨(x.1.length+1),hx⟩
def Ge:Sig:=⟨1,[],[(0,.ptr 0 0)],[(0,.cells [.sl .tok false,.int .i64,.bool,.int .i64])],1,1,0,[],[]⟩
def Gn:Sig:=⟨1,[(0,.str)],[],[(0,.cells [.sl .tok false,.int .i64,.bool,.int .i64])],1,1,0,[],[]⟩
abbrev Asa:=List Tok×Int×Bool×Int
abbrev Aga:=Str×List Tok×Int×Bool×Int
def Zr(R:Type):Px R:=⟨Bd ttL,glT,Au [(158,Aq Kv Kk Fe),(127,Aq Hq Hp C2),(159,Aq Nd Nk C0)],Am [],Aw [],tbl []⟩
def Mf(x:Asa):Option (Aga):=match x with
 |(l,n,b,p) =>
 (Fe (l,n,b,p)).bind fun(x,x1,x2,x3,x4) =>
  let j:=fun(p2:Bool) =>
  cond (p2) (
   (C2 (x1,x2,x3,x4)).bind fun(x5,x6,x7,x8) =>
   some ([],x5,x6,x7,x8)) (
   (C0 (x1,x2,x3,x4)).bind fun(x9,x10,x11,x12,x13) =>
   some (x9.s,x10,x11,x12,x13))
  cond (x3) (
  j true) (
  j (!decide (x.kind=2)))
theorem Bfo:∀(x:Asa),Du (Zr _) Tryz.f120 Ge Gn x some=Mf x
 |(l,n,b,p)=>by kernel_rfl
theorem A84:FnLn Tryz.prog elT glT 120 Ge Gn (Mf):=by
 refine Bu Tryz.func120 rfl (by kernel_rfl) follows (by kernel_rfl) (n:=0) (by kernel_rfl) (px:=Zr _) (fun cx hP hel hgl =>?_) (Bfo)
 have hp0:PxOk cx (Zr (Aga)):=⟨fun t=>by rw [hP,hel];exact Av An t,by rw [hgl];rfl⟩
 have hc0:Al cx (Zr (Aga)):=Af rfl (Aa (A9 (by rw [hP,hel,hgl];exact Uf) (by kernel_rfl)) (Aa (A9 (by rw [hP,hel,hgl];exact Oq) (by kernel_rfl)) (Aa (A9 (by rw [hP,hel,hgl];exact Y2) (by kernel_rfl)) Aj)))
 have hq0:CallQOk cx (Zr (Aga)):=Ab rfl rfl Ah Ae
 exact⟨hp0,hc0,hq0,Ay⟩
def Bc:Asa→Option Aga:=fun x=>Mf x
theorem J2:FnLn Tryz.prog elT glT 120 Ge Gn (Bc):=A84
def C8:Sig:=⟨1,[],[(0,.ptr 0 0)],[(0,.cells [.sl .tok false,.int .i64,.bool,.int .i64])],1,1,0,[],[]⟩
def C9:Sig:=⟨1,[(0,.sv .expr)],[],[(0,.cells [.sl .tok false,.int .i64,.bool,.int .i64])],1,1,0,[],[]⟩
abbrev A6:=List Tok×Int×Bool×Int
abbrev A4:=Xpr×List Tok×Int×Bool×Int
def Abb:Sig:=⟨1,[],[(0,.ptr 0 0)],[(0,.cells [.sl .tok false,.int .i64,.bool,.int .i64])],1,1,0,[],[]⟩
def Aby:Sig:=⟨1,[(0,.sv .expr)],[],[(0,.cells [.sl .tok false,.int .i64,.bool,.int .i64])],1,1,0,[],[]⟩
abbrev Am8:=List Tok×Int×Bool×Int
abbrev Nm:=Xpr×List Tok×Int×Bool×Int
def Rk(R:Type) (_rf:A6→Option A4):Px R:=⟨Bd ttL,glT,Au [(159,Aq Nd Nk C0)],Am [],Aw [],tbl []⟩
noncomputable def Um (R:Type) (rf:A6→Option A4):Px R:=⟨Bd ttL,glT,Au [(158,Aq Kv Kk Fe),(159,Aq Nd Nk C0),(119,Aq Em Eo Ao),(90,Aq C8 C9 rf),(209,Bg 80 400 (Rk R rf) Tryz.f209)],Am [],Aw [],tbl []⟩
def M8(rf:A6→Option A4) (x:Am8):Option (Nm):=match x with
 |(l,n,b,p) =>
 (Fe (l,n,b,p)).bind fun(x,x1,x2,x3,x4) =>
  cond (x3) (
  some ((Xpr.mk 0 ⟨0,0,[]⟩ [] []),x1,x2,x3,x4)) (
  cond (decide (x.kind=2)) (
   (C0 (x1,x2,x3,x4)).bind fun(_,x6,x7,x8,x9) =>
   some ((Xpr.mk 2 ⟨0,0,[]⟩ x.s []),x6,x7,x8,x9)) (
   cond (decide (x.kind=3)) (
   (C0 (x1,x2,x3,x4)).bind fun(_,x11,x12,x13,x14) =>
    some ((Xpr.mk 1 ⟨3,x.n,[]⟩ [] []),x11,x12,x13,x14)) (
   cond (decide (x.kind=4)) (
    (C0 (x1,x2,x3,x4)).bind fun(_,x16,x17,x18,x19) =>
    some ((Xpr.mk 1 ⟨4,0,x.s⟩ [] []),x16,x17,x18,x19)) (
    cond (decide (x.kind=5)) (
    (C0 (x1,x2,x3,x4)).bind fun(_,x21,x22,x23,x24) =>
     some ((Xpr.mk 1 ⟨5,0,x.s⟩ [] []),x21,x22,x23,x24)) (
    let j2:=fun(p2:Bool) =>
     cond (p2) (
     (C0 (x1,x2,x3,x4)).bind fun(_,x26,x27,x28,x29) =>
      some ((Xpr.mk 1 ⟨2,1,[]⟩ [] []),x26,x27,x28,x29)) (
     let j1:=fun(p4:Bool) =>
      cond (p4) (
      (C0 (x1,x2,x3,x4)).bind fun(_,x31,x32,x33,x34) =>
       some ((Xpr.mk 1 ⟨2,0,[]⟩ [] []),x31,x32,x33,x34)) (
      let j:=fun(p6:Bool) =>
       cond (p6) (
       (C0 (x1,x2,x3,x4)).bind fun(_,x36,x37,x38,x39) =>
        some ((Xpr.mk 1 ⟨1,0,[]⟩ [] []),x36,x37,x38,x39)) (
       (Ao ([[40]],x1,x2,x3,x4)).bind fun(x40,x41,x42,x43) =>
        (rf (x40,x41,x42,x43)).bind fun(x44,x45,x46,x47,x48) =>
        (Ao ([[41]],x45,x46,x47,x48)).bind fun(x49,x50,x51,x52) =>
         some (x44,x49,x50,x51,x52))
      cond (decide (x.kind=1)) (
       j (decide (x.s=[78,85,76,76]))) (
       j false))
     cond (decide (x.kind=1)) (
      j1 (decide (x.s=[70,65,76,83,69]))) (
      j1 false))
    cond (decide (x.kind=1)) (
     j2 (decide (x.s=[84,82,85,69]))) (
     j2 false))))))
theorem A6k(rf:A6→Option A4):∀(x:Am8),Du (Um _ rf) Tryz.f208 Abb Aby x some=M8 rf x
 |(l,n,b,p)=>by kernel_rfl
theorem A1v(rf:A6→Option A4) (hrf:FnLn Tryz.prog elT glT 90 C8 C9 rf):FnLn Tryz.prog elT glT 208 Abb Aby (M8 rf):=by
 refine Bu Tryz.func208 rfl (by kernel_rfl) follows (by kernel_rfl) (n:=0) (by kernel_rfl) (px:=Um _ rf) (fun cx hP hel hgl =>?_) (A6k rf)
 have hp1:PxOk cx (Rk (Nm) rf):=⟨fun t=>by rw [hP,hel];exact Av An t,by rw [hgl];rfl⟩
 have hc1:Al cx (Rk (Nm) rf):=Af rfl (Aa (A9 (by rw [hP,hel,hgl];exact Y2) (by kernel_rfl)) Aj)
 have hq1:CallQOk cx (Rk (Nm) rf):=Ab rfl rfl Ah Ae
 have hp0:PxOk cx (Um (Nm) rf):=⟨fun t=>by rw [hP,hel];exact Av An t,by rw [hgl];rfl⟩
 have hc0:Al cx (Um (Nm) rf):=Af rfl (Aa (A9 (by rw [hP,hel,hgl];exact Uf) (by kernel_rfl)) (Aa (A9 (by rw [hP,hel,hgl];exact Y2) (by kernel_rfl)) (Aa (A9 (by rw [hP,hel,hgl];exact Hi) (by kernel_rfl)) (Aa (A9 (by rw [hP,hel,hgl];exact hrf) (by kernel_rfl)) (Aa (Bv hp1 hc1 hq1 (by rw [hP];exact follows) (by rw [hP];exact Tryz.func209) rfl (by kernel_rfl) (by kernel_rfl) (n:=0) (by kernel_rfl) (Ay)) Aj)))))
 have hq0:CallQOk cx (Um (Nm) rf):=Ab rfl rfl Ah Ae
 exact⟨hp0,hc0,hq0,Ay⟩
def Hf(rf:A6→Option A4):Am8→Option Nm:=fun x=>M8 rf x
theorem A8c(rf:A6→Option A4) (hrf:FnLn Tryz.prog elT glT 90 C8 C9 rf):FnLn Tryz.prog elT glT 208 Abb Aby (Hf rf):=A1v rf hrf
def Abp:Sig:=⟨1,[],[(0,.ptr 0 0)],[(0,.cells [.sl .tok false,.int .i64,.bool,.int .i64])],1,1,0,[],[]⟩
def Abh:Sig:=⟨1,[(0,.sv .expr)],[],[(0,.cells [.sl .tok false,.int .i64,.bool,.int .i64])],1,1,0,[],[]⟩
abbrev A1q:=List Tok×Int×Bool×Int
abbrev Ss:=Xpr×List Tok×Int×Bool×Int
def Ag4:Sig:=⟨36,[(2,.int .i64),(27,.int .i64),(28,.int .i64)],[(8,.ptr 80 0),(10,.ptr 81 0)],[(0,.cells [.sl .tok false,.int .i64,.bool,.int .i64]),(1,.one (.sv .expr)),(80,.one (.sv .expr)),(81,.one (.sv .expr))],82,80,400,[],[]⟩
abbrev O9:=Int×Int×Int×List Tok×Int×Bool×Int×Xpr×Xpr×Xpr
def X2{R:Type}(rec:O9→Option R) (kx:Ex→O9→Option R) (v:O9):Option R:=match v with
 |(v12,v13,v14,w6,w7,w8,w9,w10,w11,w12) =>
 cond (decide (v14<v13)) (
  rec (v12,v13,(wr .i64 (v14+1)),w6,w7,w8,w9,w10,w11,(Xpr.mk v12 ⟨0,0,[]⟩ [] [w12]))) (
  kx (.exit 2) (v12,v13,v14,w6,w7,w8,w9,w10,w11,w12))
def Aij:Sig:=⟨36,[(1,.str),(2,.int .i64),(9,.int .i64)],[(0,.ptr 0 0),(3,.bm 208 [.ptr 0 0]),(8,.ptr 80 0)],[(0,.cells [.sl .tok false,.int .i64,.bool,.int .i64]),(1,.one (.sv .expr)),(80,.one (.sv .expr))],81,80,400,[],[]⟩
abbrev Qy:=Str×Int×Int×List Tok×Int×Bool×Int×Xpr×Xpr
def Acy{R:Type}(rec:Qy→Option R) (kx:Ex→Qy→Option R) (v:Qy):Option R:=match v with
 |(v,v1,v2,w,w1,w2,w3,w4,w5) =>
 cond (!w2) (
  (A5 (v,w,w1,w2,w3)).bind fun(x,x1,x2,x3,x4) =>
  cond (x) (
   rec (v,v1,(wr .i64 (v2+1)),x1,x2,x3,x4,w4,w5)) (
   kx (.exit 0) (v,v1,v2,x1,x2,x3,x4,w4,w5))) (
  kx (.exit 0) (v,v1,v2,w,w1,w2,w3,w4,w5))
def Jb(R:Type) (k:Nat) (rf:A6→Option A4):Px R:=⟨Bd ttL,glT,Au [(117,Aq Ew Ev A5),(208,Aq Abb Aby (Hf rf))],Am [],Aw [(2,Be k Aij (Acy)),(6,Be k Ag4 (X2))],tbl []⟩
noncomputable def Aeo (R:Type) (k:Nat) (rf:A6→Option A4):Px R:=⟨Bd ttL,glT,Au [(185,Bg 80 400 (Jb R k rf) Tryz.f185)],Am [],Aw [],tbl []⟩
theorem Bav(R:Type) (k:Nat) (rf:A6→Option A4):∀(fr:List Fr) (rec:Qy→Option R) (kx:Ex→Qy→Option R) (v:Qy),Bn (Jb R k rf) Aij (lp Tryz.f185 0) fr rec kx v=Acy rec kx v
 |fr,rec,kx,(v,v1,v2,w,w1,w2,w3,w4,w5)=>by kernel_rfl
theorem A7f(R:Type) (k:Nat) (rf:A6→Option A4):∀(fr:List Fr) (rec:O9→Option R) (kx:Ex→O9→Option R) (v:O9),Bn (Jb R k rf) Ag4 (lp Tryz.f185 1) fr rec kx v=X2 rec kx v
 |fr,rec,kx,(v12,v13,v14,w6,w7,w8,w9,w10,w11,w12)=>by kernel_rfl
def Ml(k:Nat) (rf:A6→Option A4) (x:A1q):Option (Ss):=match x with
 |(l,n,b,p) =>
 A0 (fun rec=>Acy rec (fun e vz=>match vz with|(_,v4,v5,v6,v7,v8,v9,v10,v11)=>match e with
  |.exit 0 =>
  (Hf rf (v6,v7,v8,v9)).bind fun(x5,x6,x7,x8,x9) =>
   A0 (fun rec=>X2 rec (fun e vz=>match vz with|(_,_,_,v18,v19,v20,v21,_,_,v24)=>match e with
   |.exit 2 =>
    some (v24,v18,v19,v20,v21)
   |_=>none)) k (v4,v5,0,x6,x7,x8,x9,v10,v11,x5)
  |_=>none)) k ([45],15,0,l,n,b,p,(Xpr.mk 0 ⟨0,0,[]⟩ [] []),(Xpr.mk 0 ⟨0,0,[]⟩ [] []))
theorem Bi3(k:Nat) (rf:A6→Option A4):∀(x:A1q),Du (Aeo _ k rf) Tryz.f206 Abp Abh x some=Ml k rf x
 |(l,n,b,p)=>by kernel_rfl
theorem Bfj(k:Nat) (rf:A6→Option A4) (hrf:FnLn Tryz.prog elT glT 90 C8 C9 rf):FnLn Tryz.prog elT glT 206 Abp Abh (Ml k rf):=by
 refine Bu Tryz.func206 rfl (by kernel_rfl) follows (by kernel_rfl) (n:=0) (by kernel_rfl) (px:=Aeo _ k rf) (fun cx hP hel hgl =>?_) (Bi3 k rf)
 have hp1:PxOk cx (Jb (Ss) k rf):=⟨fun t=>by rw [hP,hel];exact Av An t,by rw [hgl];rfl⟩
 have hc1:Al cx (Jb (Ss) k rf):=Af rfl (Aa (A9 (by rw [hP,hel,hgl];exact F1) (by kernel_rfl)) (Aa (A9 (by rw [hP,hel,hgl];exact A8c rf hrf) (by kernel_rfl)) Aj))
 have hq1:CallQOk cx (Jb (Ss) k rf):=Ab rfl rfl Ah Ae
 have hlpneg_0:A8 cx (Jb (Ss) k rf) (lp Tryz.f185 0):=Ba hp1 hc1 hq1 (by rw [hP];exact follows) (k:=k) (s:=Aij) (step:=Acy) (fun _ _=>by kernel_rfl) (by kernel_rfl) (Bav _ k rf) (Az (n:=0) (by kernel_rfl) Ay)
 have hlpneg_1:A8 cx (Jb (Ss) k rf) (lp Tryz.f185 1):=Ba hp1 hc1 hq1 (by rw [hP];exact follows) (k:=k) (s:=Ag4) (step:=X2) (fun _ _=>by kernel_rfl) (by kernel_rfl) (A7f _ k rf) (Az (n:=0) (by kernel_rfl) Ay)
 have hp0:PxOk cx (Aeo (Ss) k rf):=⟨fun t=>by rw [hP,hel];exact Av An t,by rw [hgl];rfl⟩
 have hc0:Al cx (Aeo (Ss) k rf):=Af rfl (Aa (Bv hp1 hc1 hq1 (by rw [hP];exact follows) (by rw [hP];exact Tryz.func185) rfl (by kernel_rfl) (by kernel_rfl) (n:=2) (by kernel_rfl) ((Cj (Cj Ay hlpneg_0) hlpneg_1))) Aj)
 have hq0:CallQOk cx (Aeo (Ss) k rf):=Ab rfl rfl Ah Ae
 exact⟨hp0,hc0,hq0,Ay⟩
def Km(rf:A6→Option A4):A1q→Option Ss:=fun x=>Ml ((x.1.length+1)) rf x
theorem A3o(rf:A6→Option A4) (hrf:FnLn Tryz.prog elT glT 90 C8 C9 rf):FnLn Tryz.prog elT glT 206 Abp Abh (Km rf):=FnLn.fin (ι:=Nat) (sg:=Abp) (so:=Abh) 0 (F:=fun k=>Ml k rf) (fun k=>Bfj k rf hrf) fun x _ _ hx=>⟨(x.1.length+1),hx⟩
def Jv:Sig:=⟨1,[],[(0,.ptr 0 0)],[(0,.cells [.sl .tok false,.int .i64,.bool,.int .i64])],1,1,0,[],[]⟩
def Jy:Sig:=⟨1,[(0,.sv .expr)],[],[(0,.cells [.sl .tok false,.int .i64,.bool,.int .i64])],1,1,0,[],[]⟩
abbrev Ada:=List Tok×Int×Bool×Int
abbrev Fl:=Xpr×List Tok×Int×Bool×Int
def Sf:Sig:=⟨38,[(2,.sl .pair true),(17,.sl .pair false),(18,.int .i64),(19,.int .i64)],[(0,.ptr 0 0),(1,.bm 206 [.ptr 0 0]),(6,.ptr 80 0),(7,.ptr 81 0)],[(0,.cells [.sl .tok false,.int .i64,.bool,.int .i64]),(1,.one (.sv .expr)),(80,.one (.sv .expr)),(81,.one (.sv .expr))],82,80,400,[],[]⟩
abbrev Gc:=List PairS×List PairS×Int×Int×List Tok×Int×Bool×Int×Xpr×Xpr×Xpr
def Io{R:Type}(rf:A6→Option A4) (rec:Gc→Option R) (kx:Ex→Gc→Option R) (v:Gc):Option R:=match v with
 |(v1,v2,v3,v4,w7,w8,w9,w10,w11,w12,w13) =>
 cond (decide (v4<v3)) (
  chk (inb v4 v2.length) (
  (A5 ((at' .pair v2 v4).sign,w7,w8,w9,w10)).bind fun(x5,x6,x7,x8,x9) =>
   cond (x5) (
   (Km rf (x6,x7,x8,x9)).bind fun(x10,x11,x12,x13,x14) =>
    kx (.exit 1) (v1,v2,v3,v4,x11,x12,x13,x14,w11,w12,(Xpr.mk ((at' .pair v2 v4).kind) ⟨0,0,[]⟩ [] [w13,x10]))) (
   rec (v1,v2,v3,(wr .i64 (v4+1)),x6,x7,x8,x9,w11,w12,w13)))) (
  kx (.exit 2) (v1,v2,v3,v4,w7,w8,w9,w10,w11,w12,w13))
def Sy:Sig:=⟨38,[(2,.sl .pair true)],[(0,.ptr 0 0),(1,.bm 206 [.ptr 0 0]),(6,.ptr 80 0),(7,.ptr 81 0)],[(0,.cells [.sl .tok false,.int .i64,.bool,.int .i64]),(1,.one (.sv .expr)),(80,.one (.sv .expr)),(81,.one (.sv .expr))],82,80,400,[],[]⟩
abbrev Ea:=List PairS×List Tok×Int×Bool×Int×Xpr×Xpr×Xpr
def I0{R:Type}(k:Nat) (rf:A6→Option A4) (rec:Ea→Option R) (kx:Ex→Ea→Option R) (v:Ea):Option R:=match v with
 |(v,w,w1,w2,w3,w4,w5,w6) =>
 cond (!w2) (
  A0 (fun rc=>Io rf rc (fun e vz=>match vz with|(v5,_,_,_,v9,v10,v11,v12,v13,v14,v15)=>match e with
  |.exit 1 =>
   rec (v5,v9,v10,v11,v12,v13,v14,v15)
  |.exit 2 =>
   kx (.exit 0) (v5,v9,v10,v11,v12,v13,v14,v15)
  |_=>none)) k (v,v,(v.length:Int),0,w,w1,w2,w3,w4,w5,w6)) (
  kx (.exit 0) (v,w,w1,w2,w3,w4,w5,w6))
def Ed(R:Type) (k:Nat) (rf:A6→Option A4):Px R:=⟨Bd ttL,glT,Au [(206,Aq Abp Abh (Km rf)),(117,Aq Ew Ev A5)],Am [],Aw [(4,Be k Sf (Io rf)),(2,Be k Sy (I0 k rf))],tbl [(206,Fb Abp Abh (Km rf))]⟩
noncomputable def Np (R:Type) (k:Nat) (rf:A6→Option A4):Px R:=⟨Bd ttL,glT,Au [(137,Bg 80 400 (Ed R k rf) Tryz.f137)],Am [],Aw [],tbl []⟩
theorem Aor(R:Type) (k:Nat) (rf:A6→Option A4):∀(fr:List Fr) (rec:Gc→Option R) (kx:Ex→Gc→Option R) (v:Gc),Bn (Ed R k rf) Sf (lpC (lp Tryz.f137 0) 0) fr rec kx v=Io rf rec kx v
 |fr,rec,kx,(v1,v2,v3,v4,w7,w8,w9,w10,w11,w12,w13)=>by kernel_rfl
theorem Aoj(R:Type) (k:Nat) (rf:A6→Option A4):∀(fr:List Fr) (rec:Ea→Option R) (kx:Ex→Ea→Option R) (v:Ea),Bn (Ed R k rf) Sy (lp Tryz.f137 0) fr rec kx v=I0 k rf rec kx v
 |fr,rec,kx,(v,w,w1,w2,w3,w4,w5,w6)=>by kernel_rfl
def Ef(k:Nat) (rf:A6→Option A4) (x:Ada):Option (Fl):=match x with
 |(l,n,b,p) =>
 (Km rf (l,n,b,p)).bind fun(x,x1,x2,x3,x4) =>
  A0 (fun rec=>I0 k rf rec (fun e vz=>match vz with|(_,v17,v18,v19,v20,_,_,v23)=>match e with
  |.exit 0 =>
   some (v23,v17,v18,v19,v20)
  |_=>none)) k ([(PairS.mk [42] 14)],x1,x2,x3,x4,(Xpr.mk 0 ⟨0,0,[]⟩ [] []),(Xpr.mk 0 ⟨0,0,[]⟩ [] []),x)
theorem Aye(k:Nat) (rf:A6→Option A4):∀(x:Ada),Du (Np _ k rf) Tryz.f202 Jv Jy x some=Ef k rf x
 |(l,n,b,p)=>by kernel_rfl
theorem At3(k:Nat) (rf:A6→Option A4) (hrf:FnLn Tryz.prog elT glT 90 C8 C9 rf):FnLn Tryz.prog elT glT 202 Jv Jy (Ef k rf):=by
 refine Bu Tryz.func202 rfl (by kernel_rfl) follows (by kernel_rfl) (n:=0) (by kernel_rfl) (px:=Np _ k rf) (fun cx hP hel hgl =>?_) (Aye k rf)
 have hp1:PxOk cx (Ed (Fl) k rf):=⟨fun t=>by rw [hP,hel];exact Av An t,by rw [hgl];rfl⟩
 have hc1:Al cx (Ed (Fl) k rf):=Af rfl (Aa (A9 (by rw [hP,hel,hgl];exact A3o rf hrf) (by kernel_rfl)) (Aa (A9 (by rw [hP,hel,hgl];exact F1) (by kernel_rfl)) Aj))
 have hq1:CallQOk cx (Ed (Fl) k rf):=Ab rfl rfl Ah (Df (Pp (by rw [hP,hel,hgl];exact A3o rf hrf) (by kernel_rfl)) Ae)
 have hlpproduct_1:A8 cx (Ed (Fl) k rf) (lpC (lp Tryz.f137 0) 0):=Ba hp1 hc1 hq1 (by rw [hP];exact follows) (k:=k) (s:=Sf) (step:=Io rf) (fun _ _=>by kernel_rfl) (by kernel_rfl) (Aor _ k rf) (Az (n:=0) (by kernel_rfl) Ay)
 have hlpproduct_0:A8 cx (Ed (Fl) k rf) (lp Tryz.f137 0):=Ba hp1 hc1 hq1 (by rw [hP];exact follows) (k:=k) (s:=Sy) (step:=I0 k rf) (fun _ _=>by kernel_rfl) (by kernel_rfl) (Aoj _ k rf) (Az (n:=1) (by kernel_rfl) (Cj Ay hlpproduct_1))
 have hp0:PxOk cx (Np (Fl) k rf):=⟨fun t=>by rw [hP,hel];exact Av An t,by rw [hgl];rfl⟩
 have hc0:Al cx (Np (Fl) k rf):=Af rfl (Aa (Bv hp1 hc1 hq1 (by rw [hP];exact follows) (by rw [hP];exact Tryz.func137) rfl (by kernel_rfl) (by kernel_rfl) (n:=2) (by kernel_rfl) ((Cj (Cj Ay hlpproduct_0) hlpproduct_1))) Aj)
 have hq0:CallQOk cx (Np (Fl) k rf):=Ab rfl rfl Ah Ae
 exact⟨hp0,hc0,hq0,Ay⟩
def Ct(rf:A6→Option A4):Ada→Option Fl:=fun x=>Ef ((x.1.length+3)) rf x
theorem Ai9(rf:A6→Option A4) (hrf:FnLn Tryz.prog elT glT 90 C8 C9 rf):FnLn Tryz.prog elT glT 202 Jv Jy (Ct rf):=FnLn.fin (ι:=Nat) (sg:=Jv) (so:=Jy) 0 (F:=fun k=>Ef k rf) (fun k=>At3 k rf hrf) fun x _ _ hx=>⟨(x.1.length+3),hx⟩
def Ab0:Sig:=⟨1,[],[(0,.ptr 0 0)],[(0,.cells [.sl .tok false,.int .i64,.bool,.int .i64])],1,1,0,[],[]⟩
def Ab2:Sig:=⟨1,[(0,.sv .expr)],[],[(0,.cells [.sl .tok false,.int .i64,.bool,.int .i64])],1,1,0,[],[]⟩
abbrev A0g:=List Tok×Int×Bool×Int
abbrev S3:=Xpr×List Tok×Int×Bool×Int
def Ah5:Sig:=⟨38,[(2,.sl .pair true),(17,.sl .pair false),(18,.int .i64),(19,.int .i64)],[(0,.ptr 0 0),(1,.bm 202 [.ptr 0 0]),(6,.ptr 80 0),(7,.ptr 81 0)],[(0,.cells [.sl .tok false,.int .i64,.bool,.int .i64]),(1,.one (.sv .expr)),(80,.one (.sv .expr)),(81,.one (.sv .expr))],82,80,400,[],[]⟩
abbrev P2:=List PairS×List PairS×Int×Int×List Tok×Int×Bool×Int×Xpr×Xpr×Xpr
def Acz{R:Type}(rf:A6→Option A4) (rec:P2→Option R) (kx:Ex→P2→Option R) (v:P2):Option R:=match v with
 |(v1,v2,v3,v4,w7,w8,w9,w10,w11,w12,w13) =>
 cond (decide (v4<v3)) (
  chk (inb v4 v2.length) (
  (A5 ((at' .pair v2 v4).sign,w7,w8,w9,w10)).bind fun(x5,x6,x7,x8,x9) =>
   cond (x5) (
   (Ct rf (x6,x7,x8,x9)).bind fun(x10,x11,x12,x13,x14) =>
    kx (.exit 1) (v1,v2,v3,v4,x11,x12,x13,x14,w11,w12,(Xpr.mk ((at' .pair v2 v4).kind) ⟨0,0,[]⟩ [] [w13,x10]))) (
   rec (v1,v2,v3,(wr .i64 (v4+1)),x6,x7,x8,x9,w11,w12,w13)))) (
  kx (.exit 2) (v1,v2,v3,v4,w7,w8,w9,w10,w11,w12,w13))
def Ahb:Sig:=⟨38,[(2,.sl .pair true)],[(0,.ptr 0 0),(1,.bm 202 [.ptr 0 0]),(6,.ptr 80 0),(7,.ptr 81 0)],[(0,.cells [.sl .tok false,.int .i64,.bool,.int .i64]),(1,.one (.sv .expr)),(80,.one (.sv .expr)),(81,.one (.sv .expr))],82,80,400,[],[]⟩
abbrev J7:=List PairS×List Tok×Int×Bool×Int×Xpr×Xpr×Xpr
def Adz{R:Type}(k:Nat) (rf:A6→Option A4) (rec:J7→Option R) (kx:Ex→J7→Option R) (v:J7):Option R:=match v with
 |(v,w,w1,w2,w3,w4,w5,w6) =>
 cond (!w2) (
  A0 (fun rc=>Acz rf rc (fun e vz=>match vz with|(v5,_,_,_,v9,v10,v11,v12,v13,v14,v15)=>match e with
  |.exit 1 =>
   rec (v5,v9,v10,v11,v12,v13,v14,v15)
  |.exit 2 =>
   kx (.exit 0) (v5,v9,v10,v11,v12,v13,v14,v15)
  |_=>none)) k (v,v,(v.length:Int),0,w,w1,w2,w3,w4,w5,w6)) (
  kx (.exit 0) (v,w,w1,w2,w3,w4,w5,w6))
def Jo(R:Type) (k:Nat) (rf:A6→Option A4):Px R:=⟨Bd ttL,glT,Au [(202,Aq Jv Jy (Ct rf)),(117,Aq Ew Ev A5)],Am [],Aw [(4,Be k Ah5 (Acz rf)),(2,Be k Ahb (Adz k rf))],tbl [(202,Fb Jv Jy (Ct rf))]⟩
noncomputable def Afy (R:Type) (k:Nat) (rf:A6→Option A4):Px R:=⟨Bd ttL,glT,Au [(137,Bg 80 400 (Jo R k rf) Tryz.f137)],Am [],Aw [],tbl []⟩
theorem A6n(R:Type) (k:Nat) (rf:A6→Option A4):∀(fr:List Fr) (rec:P2→Option R) (kx:Ex→P2→Option R) (v:P2),Bn (Jo R k rf) Ah5 (lpC (lp Tryz.f137 0) 0) fr rec kx v=Acz rf rec kx v
 |fr,rec,kx,(v1,v2,v3,v4,w7,w8,w9,w10,w11,w12,w13)=>by kernel_rfl
theorem A6v(R:Type) (k:Nat) (rf:A6→Option A4):∀(fr:List Fr) (rec:J7→Option R) (kx:Ex→J7→Option R) (v:J7),Bn (Jo R k rf) Ahb (lp Tryz.f137 0) fr rec kx v=Adz k rf rec kx v
 |fr,rec,kx,(v,w,w1,w2,w3,w4,w5,w6)=>by kernel_rfl
def Js(k:Nat) (rf:A6→Option A4) (x:A0g):Option (S3):=match x with
 |(l,n,b,p) =>
 (Ct rf (l,n,b,p)).bind fun(x,x1,x2,x3,x4) =>
  A0 (fun rec=>Adz k rf rec (fun e vz=>match vz with|(_,v17,v18,v19,v20,_,_,v23)=>match e with
  |.exit 0 =>
   some (v23,v17,v18,v19,v20)
  |_=>none)) k ([(PairS.mk [43] 12),(PairS.mk [45] 13)],x1,x2,x3,x4,(Xpr.mk 0 ⟨0,0,[]⟩ [] []),(Xpr.mk 0 ⟨0,0,[]⟩ [] []),x)
theorem Bis(k:Nat) (rf:A6→Option A4):∀(x:A0g),Du (Afy _ k rf) Tryz.f196 Ab0 Ab2 x some=Js k rf x
 |(l,n,b,p)=>by kernel_rfl
theorem Bb9(k:Nat) (rf:A6→Option A4) (hrf:FnLn Tryz.prog elT glT 90 C8 C9 rf):FnLn Tryz.prog elT glT 196 Ab0 Ab2 (Js k rf):=by
 refine Bu Tryz.func196 rfl (by kernel_rfl) follows (by kernel_rfl) (n:=0) (by kernel_rfl) (px:=Afy _ k rf) (fun cx hP hel hgl =>?_) (Bis k rf)
 have hp1:PxOk cx (Jo (S3) k rf):=⟨fun t=>by rw [hP,hel];exact Av An t,by rw [hgl];rfl⟩
 have hc1:Al cx (Jo (S3) k rf):=Af rfl (Aa (A9 (by rw [hP,hel,hgl];exact Ai9 rf hrf) (by kernel_rfl)) (Aa (A9 (by rw [hP,hel,hgl];exact F1) (by kernel_rfl)) Aj))
 have hq1:CallQOk cx (Jo (S3) k rf):=Ab rfl rfl Ah (Df (Pp (by rw [hP,hel,hgl];exact Ai9 rf hrf) (by kernel_rfl)) Ae)
 have hlpsum_1:A8 cx (Jo (S3) k rf) (lpC (lp Tryz.f137 0) 0):=Ba hp1 hc1 hq1 (by rw [hP];exact follows) (k:=k) (s:=Ah5) (step:=Acz rf) (fun _ _=>by kernel_rfl) (by kernel_rfl) (A6n _ k rf) (Az (n:=0) (by kernel_rfl) Ay)
 have hlpsum_0:A8 cx (Jo (S3) k rf) (lp Tryz.f137 0):=Ba hp1 hc1 hq1 (by rw [hP];exact follows) (k:=k) (s:=Ahb) (step:=Adz k rf) (fun _ _=>by kernel_rfl) (by kernel_rfl) (A6v _ k rf) (Az (n:=1) (by kernel_rfl) (Cj Ay hlpsum_1))
 have hp0:PxOk cx (Afy (S3) k rf):=⟨fun t=>by rw [hP,hel];exact Av An t,by rw [hgl];rfl⟩
 have hc0:Al cx (Afy (S3) k rf):=Af rfl (Aa (Bv hp1 hc1 hq1 (by rw [hP];exact follows) (by rw [hP];exact Tryz.func137) rfl (by kernel_rfl) (by kernel_rfl) (n:=2) (by kernel_rfl) ((Cj (Cj Ay hlpsum_0) hlpsum_1))) Aj)
 have hq0:CallQOk cx (Afy (S3) k rf):=Ab rfl rfl Ah Ae
 exact⟨hp0,hc0,hq0,Ay⟩
def Hx(rf:A6→Option A4):A0g→Option S3:=fun x=>Js ((x.1.length+3)) rf x
theorem A4v(rf:A6→Option A4) (hrf:FnLn Tryz.prog elT glT 90 C8 C9 rf):FnLn Tryz.prog elT glT 196 Ab0 Ab2 (Hx rf):=FnLn.fin (ι:=Nat) (sg:=Ab0) (so:=Ab2) 0 (F:=fun k=>Js k rf) (fun k=>Bb9 k rf hrf) fun x _ _ hx=>⟨(x.1.length+3),hx⟩
def Afx:Sig:=⟨1,[],[(0,.ptr 0 0)],[(0,.cells [.sl .tok false,.int .i64,.bool,.int .i64])],1,1,0,[],[]⟩
def Ago:Sig:=⟨1,[(0,.sv .expr)],[],[(0,.cells [.sl .tok false,.int .i64,.bool,.int .i64])],1,1,0,[],[]⟩
abbrev A1f:=List Tok×Int×Bool×Int
abbrev Ahd:=Xpr×List Tok×Int×Bool×Int
def Aih:Sig:=⟨61,[(20,.sl .pair true),(21,.int .i64),(22,.int .i64)],[(0,.ptr 0 0),(2,.ptr 1 0),(3,.ptr 2 0)],[(0,.cells [.sl .tok false,.int .i64,.bool,.int .i64]),(1,.one (.sv .expr)),(2,.one (.sv .expr))],3,1,0,[],[]⟩
abbrev P0:=List PairS×Int×Int×List Tok×Int×Bool×Int×Xpr×Xpr
def Aed{R:Type}(rf:A6→Option A4) (rec:P0→Option R) (kx:Ex→P0→Option R) (v:P0):Option R:=match v with
 |(v,v1,v2,w,w1,w2,w3,w4,w5) =>
 cond (decide (v2<v1)) (
  chk (inb v2 v.length) (
  (A5 ((at' .pair v v2).sign,w,w1,w2,w3)).bind fun(x5,x6,x7,x8,x9) =>
   cond (x5) (
   (Hx rf (x6,x7,x8,x9)).bind fun(x10,x11,x12,x13,x14) =>
    kx .ret (v,v1,v2,x11,x12,x13,x14,(Xpr.mk ((at' .pair v v2).kind) ⟨0,0,[]⟩ [] [w5,x10]),w5)) (
   rec (v,v1,(wr .i64 (v2+1)),x6,x7,x8,x9,w4,w5)))) (
  kx (.exit 0) (v,v1,v2,w,w1,w2,w3,w4,w5))
def Wi(R:Type) (k:Nat) (rf:A6→Option A4):Px R:=⟨Bd ttL,glT,Au [(196,Aq Ab0 Ab2 (Hx rf)),(117,Aq Ew Ev A5),(119,Aq Em Eo Ao)],Am [],Aw [(5,Be k Aih (Aed rf))],tbl [(196,Fb Ab0 Ab2 (Hx rf))]⟩
theorem Baz(R:Type) (k:Nat) (rf:A6→Option A4):∀(fr:List Fr) (rec:P0→Option R) (kx:Ex→P0→Option R) (v:P0),Bn (Wi R k rf) Aih (lp Tryz.f186 0) fr rec kx v=Aed rf rec kx v
 |fr,rec,kx,(v,v1,v2,w,w1,w2,w3,w4,w5)=>by kernel_rfl
def Mc(k:Nat) (rf:A6→Option A4) (x:A1f):Option (Ahd):=match x with
 |(l,n,b,p) =>
 (Hx rf (l,n,b,p)).bind fun(x,x1,x2,x3,x4) =>
  cond (x3) (
  some (x,x1,x2,x3,x4)) (
  A0 (fun rec=>Aed rf rec (fun e vz=>match vz with|(_,_,_,v6,v7,v8,v9,v10,v11)=>match e with
   |.ret =>
   some (v10,v6,v7,v8,v9)
   |.exit 0 =>
   (A5 ([73,83],v6,v7,v8,v9)).bind fun(x15,x16,x17,x18,x19) =>
    cond (!x15) (
    some (v11,x16,x17,x18,x19)) (
    (A5 ([78,79,84],x16,x17,x18,x19)).bind fun(x20,x21,x22,x23,x24) =>
     (Ao ([[78,85,76,76]],x21,x22,x23,x24)).bind fun(x25,x26,x27,x28) =>
     cond (x20) (
      some ((Xpr.mk 3 ⟨0,0,[]⟩ [] [(Xpr.mk 16 ⟨0,0,[]⟩ [] [v11])]),x25,x26,x27,x28)) (
      some ((Xpr.mk 16 ⟨0,0,[]⟩ [] [v11]),x25,x26,x27,x28)))
   |_=>none)) k ([(PairS.mk [61] 6),(PairS.mk [60,62] 7),(PairS.mk [60] 8),(PairS.mk [60,61] 9),(PairS.mk [62] 10),(PairS.mk [62,61] 11)],6,0,x1,x2,x3,x4,(Xpr.mk 0 ⟨0,0,[]⟩ [] []),x))
theorem Bjd(k:Nat) (rf:A6→Option A4):∀(x:A1f),Du (Wi _ k rf) Tryz.f186 Afx Ago x some=Mc k rf x
 |(l,n,b,p)=>by kernel_rfl
theorem Bdu(k:Nat) (rf:A6→Option A4) (hrf:FnLn Tryz.prog elT glT 90 C8 C9 rf):FnLn Tryz.prog elT glT 186 Afx Ago (Mc k rf):=by
 refine Bu Tryz.func186 rfl (by kernel_rfl) follows (by kernel_rfl) (n:=1) (by kernel_rfl) (px:=Wi _ k rf) (fun cx hP hel hgl =>?_) (Bjd k rf)
 have hp0:PxOk cx (Wi (Ahd) k rf):=⟨fun t=>by rw [hP,hel];exact Av An t,by rw [hgl];rfl⟩
 have hc0:Al cx (Wi (Ahd) k rf):=Af rfl (Aa (A9 (by rw [hP,hel,hgl];exact A4v rf hrf) (by kernel_rfl)) (Aa (A9 (by rw [hP,hel,hgl];exact F1) (by kernel_rfl)) (Aa (A9 (by rw [hP,hel,hgl];exact Hi) (by kernel_rfl)) Aj)))
 have hq0:CallQOk cx (Wi (Ahd) k rf):=Ab rfl rfl Ah (Df (Pp (by rw [hP,hel,hgl];exact A4v rf hrf) (by kernel_rfl)) Ae)
 have hlpcmp_0:A8 cx (Wi (Ahd) k rf) (lp Tryz.f186 0):=Ba hp0 hc0 hq0 (by rw [hP];exact follows) (k:=k) (s:=Aih) (step:=Aed rf) (fun _ _=>by kernel_rfl) (by kernel_rfl) (Baz _ k rf) (Az (n:=0) (by kernel_rfl) Ay)
 exact⟨hp0,hc0,hq0,(Cj Ay hlpcmp_0)⟩
def Pe(rf:A6→Option A4):A1f→Option Ahd:=fun x=>Mc (10) rf x
theorem Bkr(rf:A6→Option A4) (hrf:FnLn Tryz.prog elT glT 90 C8 C9 rf):FnLn Tryz.prog elT glT 186 Afx Ago (Pe rf):=FnLn.fin (ι:=Nat) (sg:=Afx) (so:=Ago) 0 (F:=fun k=>Mc k rf) (fun k=>Bdu k rf hrf) fun _ _ _ hx=>⟨10,hx⟩
def Abq:Sig:=⟨1,[],[(0,.ptr 0 0)],[(0,.cells [.sl .tok false,.int .i64,.bool,.int .i64])],1,1,0,[],[]⟩
def Abk:Sig:=⟨1,[(0,.sv .expr)],[],[(0,.cells [.sl .tok false,.int .i64,.bool,.int .i64])],1,1,0,[],[]⟩
abbrev A0b:=List Tok×Int×Bool×Int
abbrev Se:=Xpr×List Tok×Int×Bool×Int
def Ahr:Sig:=⟨36,[(2,.int .i64),(27,.int .i64),(28,.int .i64)],[(8,.ptr 80 0),(10,.ptr 81 0)],[(0,.cells [.sl .tok false,.int .i64,.bool,.int .i64]),(1,.one (.sv .expr)),(80,.one (.sv .expr)),(81,.one (.sv .expr))],82,80,400,[],[]⟩
abbrev P5:=Int×Int×Int×List Tok×Int×Bool×Int×Xpr×Xpr×Xpr
def Z6{R:Type}(rec:P5→Option R) (kx:Ex→P5→Option R) (v:P5):Option R:=match v with
 |(v12,v13,v14,w6,w7,w8,w9,w10,w11,w12) =>
 cond (decide (v14<v13)) (
  rec (v12,v13,(wr .i64 (v14+1)),w6,w7,w8,w9,w10,w11,(Xpr.mk v12 ⟨0,0,[]⟩ [] [w12]))) (
  kx (.exit 2) (v12,v13,v14,w6,w7,w8,w9,w10,w11,w12))
def Ahi:Sig:=⟨36,[(1,.str),(2,.int .i64),(9,.int .i64)],[(0,.ptr 0 0),(3,.bm 186 [.ptr 0 0]),(8,.ptr 80 0)],[(0,.cells [.sl .tok false,.int .i64,.bool,.int .i64]),(1,.one (.sv .expr)),(80,.one (.sv .expr))],81,80,400,[],[]⟩
abbrev Pb:=Str×Int×Int×List Tok×Int×Bool×Int×Xpr×Xpr
def Aeb{R:Type}(rec:Pb→Option R) (kx:Ex→Pb→Option R) (v:Pb):Option R:=match v with
 |(v,v1,v2,w,w1,w2,w3,w4,w5) =>
 cond (!w2) (
  (A5 (v,w,w1,w2,w3)).bind fun(x,x1,x2,x3,x4) =>
  cond (x) (
   rec (v,v1,(wr .i64 (v2+1)),x1,x2,x3,x4,w4,w5)) (
   kx (.exit 0) (v,v1,v2,x1,x2,x3,x4,w4,w5))) (
  kx (.exit 0) (v,v1,v2,w,w1,w2,w3,w4,w5))
def Jq(R:Type) (k:Nat) (rf:A6→Option A4):Px R:=⟨Bd ttL,glT,Au [(117,Aq Ew Ev A5),(186,Aq Afx Ago (Pe rf))],Am [],Aw [(2,Be k Ahi (Aeb)),(6,Be k Ahr (Z6))],tbl []⟩
noncomputable def Afl (R:Type) (k:Nat) (rf:A6→Option A4):Px R:=⟨Bd ttL,glT,Au [(185,Bg 80 400 (Jq R k rf) Tryz.f185)],Am [],Aw [],tbl []⟩
theorem A8g(R:Type) (k:Nat) (rf:A6→Option A4):∀(fr:List Fr) (rec:Pb→Option R) (kx:Ex→Pb→Option R) (v:Pb),Bn (Jq R k rf) Ahi (lp Tryz.f185 0) fr rec kx v=Aeb rec kx v
 |fr,rec,kx,(v,v1,v2,w,w1,w2,w3,w4,w5)=>by kernel_rfl
theorem Bay(R:Type) (k:Nat) (rf:A6→Option A4):∀(fr:List Fr) (rec:P5→Option R) (kx:Ex→P5→Option R) (v:P5),Bn (Jq R k rf) Ahr (lp Tryz.f185 1) fr rec kx v=Z6 rec kx v
 |fr,rec,kx,(v12,v13,v14,w6,w7,w8,w9,w10,w11,w12)=>by kernel_rfl
def La(k:Nat) (rf:A6→Option A4) (x:A0b):Option (Se):=match x with
 |(l,n,b,p) =>
 A0 (fun rec=>Aeb rec (fun e vz=>match vz with|(_,v4,v5,v6,v7,v8,v9,v10,v11)=>match e with
  |.exit 0 =>
  (Pe rf (v6,v7,v8,v9)).bind fun(x5,x6,x7,x8,x9) =>
   A0 (fun rec=>Z6 rec (fun e vz=>match vz with|(_,_,_,v18,v19,v20,v21,_,_,v24)=>match e with
   |.exit 2 =>
    some (v24,v18,v19,v20,v21)
   |_=>none)) k (v4,v5,0,x6,x7,x8,x9,v10,v11,x5)
  |_=>none)) k ([78,79,84],3,0,l,n,b,p,(Xpr.mk 0 ⟨0,0,[]⟩ [] []),(Xpr.mk 0 ⟨0,0,[]⟩ [] []))
theorem Bjk(k:Nat) (rf:A6→Option A4):∀(x:A0b),Du (Afl _ k rf) Tryz.f167 Abq Abk x some=La k rf x
 |(l,n,b,p)=>by kernel_rfl
theorem Bcq(k:Nat) (rf:A6→Option A4) (hrf:FnLn Tryz.prog elT glT 90 C8 C9 rf):FnLn Tryz.prog elT glT 167 Abq Abk (La k rf):=by
 refine Bu Tryz.func167 rfl (by kernel_rfl) follows (by kernel_rfl) (n:=0) (by kernel_rfl) (px:=Afl _ k rf) (fun cx hP hel hgl =>?_) (Bjk k rf)
 have hp1:PxOk cx (Jq (Se) k rf):=⟨fun t=>by rw [hP,hel];exact Av An t,by rw [hgl];rfl⟩
 have hc1:Al cx (Jq (Se) k rf):=Af rfl (Aa (A9 (by rw [hP,hel,hgl];exact F1) (by kernel_rfl)) (Aa (A9 (by rw [hP,hel,hgl];exact Bkr rf hrf) (by kernel_rfl)) Aj))
 have hq1:CallQOk cx (Jq (Se) k rf):=Ab rfl rfl Ah Ae
 have hlpnot_0:A8 cx (Jq (Se) k rf) (lp Tryz.f185 0):=Ba hp1 hc1 hq1 (by rw [hP];exact follows) (k:=k) (s:=Ahi) (step:=Aeb) (fun _ _=>by kernel_rfl) (by kernel_rfl) (A8g _ k rf) (Az (n:=0) (by kernel_rfl) Ay)
 have hlpnot_1:A8 cx (Jq (Se) k rf) (lp Tryz.f185 1):=Ba hp1 hc1 hq1 (by rw [hP];exact follows) (k:=k) (s:=Ahr) (step:=Z6) (fun _ _=>by kernel_rfl) (by kernel_rfl) (Bay _ k rf) (Az (n:=0) (by kernel_rfl) Ay)
 have hp0:PxOk cx (Afl (Se) k rf):=⟨fun t=>by rw [hP,hel];exact Av An t,by rw [hgl];rfl⟩
 have hc0:Al cx (Afl (Se) k rf):=Af rfl (Aa (Bv hp1 hc1 hq1 (by rw [hP];exact follows) (by rw [hP];exact Tryz.func185) rfl (by kernel_rfl) (by kernel_rfl) (n:=2) (by kernel_rfl) ((Cj (Cj Ay hlpnot_0) hlpnot_1))) Aj)
 have hq0:CallQOk cx (Afl (Se) k rf):=Ab rfl rfl Ah Ae
 exact⟨hp0,hc0,hq0,Ay⟩
def Ke(rf:A6→Option A4):A0b→Option Se:=fun x=>La ((x.1.length+1)) rf x
theorem A5a(rf:A6→Option A4) (hrf:FnLn Tryz.prog elT glT 90 C8 C9 rf):FnLn Tryz.prog elT glT 167 Abq Abk (Ke rf):=FnLn.fin (ι:=Nat) (sg:=Abq) (so:=Abk) 0 (F:=fun k=>La k rf) (fun k=>Bcq k rf hrf) fun x _ _ hx=>⟨(x.1.length+1),hx⟩
def Ab8:Sig:=⟨1,[],[(0,.ptr 0 0)],[(0,.cells [.sl .tok false,.int .i64,.bool,.int .i64])],1,1,0,[],[]⟩
def Abz:Sig:=⟨1,[(0,.sv .expr)],[],[(0,.cells [.sl .tok false,.int .i64,.bool,.int .i64])],1,1,0,[],[]⟩
abbrev Ayt:=List Tok×Int×Bool×Int
abbrev So:=Xpr×List Tok×Int×Bool×Int
def Ag3:Sig:=⟨38,[(2,.sl .pair true),(17,.sl .pair false),(18,.int .i64),(19,.int .i64)],[(0,.ptr 0 0),(1,.bm 167 [.ptr 0 0]),(6,.ptr 80 0),(7,.ptr 81 0)],[(0,.cells [.sl .tok false,.int .i64,.bool,.int .i64]),(1,.one (.sv .expr)),(80,.one (.sv .expr)),(81,.one (.sv .expr))],82,80,400,[],[]⟩
abbrev O2:=List PairS×List PairS×Int×Int×List Tok×Int×Bool×Int×Xpr×Xpr×Xpr
def Adt{R:Type}(rf:A6→Option A4) (rec:O2→Option R) (kx:Ex→O2→Option R) (v:O2):Option R:=match v with
 |(v1,v2,v3,v4,w7,w8,w9,w10,w11,w12,w13) =>
 cond (decide (v4<v3)) (
  chk (inb v4 v2.length) (
  (A5 ((at' .pair v2 v4).sign,w7,w8,w9,w10)).bind fun(x5,x6,x7,x8,x9) =>
   cond (x5) (
   (Ke rf (x6,x7,x8,x9)).bind fun(x10,x11,x12,x13,x14) =>
    kx (.exit 1) (v1,v2,v3,v4,x11,x12,x13,x14,w11,w12,(Xpr.mk ((at' .pair v2 v4).kind) ⟨0,0,[]⟩ [] [w13,x10]))) (
   rec (v1,v2,v3,(wr .i64 (v4+1)),x6,x7,x8,x9,w11,w12,w13)))) (
  kx (.exit 2) (v1,v2,v3,v4,w7,w8,w9,w10,w11,w12,w13))
def Aii:Sig:=⟨38,[(2,.sl .pair true)],[(0,.ptr 0 0),(1,.bm 167 [.ptr 0 0]),(6,.ptr 80 0),(7,.ptr 81 0)],[(0,.cells [.sl .tok false,.int .i64,.bool,.int .i64]),(1,.one (.sv .expr)),(80,.one (.sv .expr)),(81,.one (.sv .expr))],82,80,400,[],[]⟩
abbrev Kq:=List PairS×List Tok×Int×Bool×Int×Xpr×Xpr×Xpr
def Aeh{R:Type}(k:Nat) (rf:A6→Option A4) (rec:Kq→Option R) (kx:Ex→Kq→Option R) (v:Kq):Option R:=match v with
 |(v,w,w1,w2,w3,w4,w5,w6) =>
 cond (!w2) (
  A0 (fun rc=>Adt rf rc (fun e vz=>match vz with|(v5,_,_,_,v9,v10,v11,v12,v13,v14,v15)=>match e with
  |.exit 1 =>
   rec (v5,v9,v10,v11,v12,v13,v14,v15)
  |.exit 2 =>
   kx (.exit 0) (v5,v9,v10,v11,v12,v13,v14,v15)
  |_=>none)) k (v,v,(v.length:Int),0,w,w1,w2,w3,w4,w5,w6)) (
  kx (.exit 0) (v,w,w1,w2,w3,w4,w5,w6))
def Jd(R:Type) (k:Nat) (rf:A6→Option A4):Px R:=⟨Bd ttL,glT,Au [(167,Aq Abq Abk (Ke rf)),(117,Aq Ew Ev A5)],Am [],Aw [(4,Be k Ag3 (Adt rf)),(2,Be k Aii (Aeh k rf))],tbl [(167,Fb Abq Abk (Ke rf))]⟩
noncomputable def Aes (R:Type) (k:Nat) (rf:A6→Option A4):Px R:=⟨Bd ttL,glT,Au [(137,Bg 80 400 (Jd R k rf) Tryz.f137)],Am [],Aw [],tbl []⟩
theorem Bac(R:Type) (k:Nat) (rf:A6→Option A4):∀(fr:List Fr) (rec:O2→Option R) (kx:Ex→O2→Option R) (v:O2),Bn (Jd R k rf) Ag3 (lpC (lp Tryz.f137 0) 0) fr rec kx v=Adt rf rec kx v
 |fr,rec,kx,(v1,v2,v3,v4,w7,w8,w9,w10,w11,w12,w13)=>by kernel_rfl
theorem A8z(R:Type) (k:Nat) (rf:A6→Option A4):∀(fr:List Fr) (rec:Kq→Option R) (kx:Ex→Kq→Option R) (v:Kq),Bn (Jd R k rf) Aii (lp Tryz.f137 0) fr rec kx v=Aeh k rf rec kx v
 |fr,rec,kx,(v,w,w1,w2,w3,w4,w5,w6)=>by kernel_rfl
def Jp(k:Nat) (rf:A6→Option A4) (x:Ayt):Option (So):=match x with
 |(l,n,b,p) =>
 (Ke rf (l,n,b,p)).bind fun(x,x1,x2,x3,x4) =>
  A0 (fun rec=>Aeh k rf rec (fun e vz=>match vz with|(_,v17,v18,v19,v20,_,_,v23)=>match e with
  |.exit 0 =>
   some (v23,v17,v18,v19,v20)
  |_=>none)) k ([(PairS.mk [65,78,68] 4)],x1,x2,x3,x4,(Xpr.mk 0 ⟨0,0,[]⟩ [] []),(Xpr.mk 0 ⟨0,0,[]⟩ [] []),x)
theorem Bjy(k:Nat) (rf:A6→Option A4):∀(x:Ayt),Du (Aes _ k rf) Tryz.f138 Ab8 Abz x some=Jp k rf x
 |(l,n,b,p)=>by kernel_rfl
theorem Bdz(k:Nat) (rf:A6→Option A4) (hrf:FnLn Tryz.prog elT glT 90 C8 C9 rf):FnLn Tryz.prog elT glT 138 Ab8 Abz (Jp k rf):=by
 refine Bu Tryz.func138 rfl (by kernel_rfl) follows (by kernel_rfl) (n:=0) (by kernel_rfl) (px:=Aes _ k rf) (fun cx hP hel hgl =>?_) (Bjy k rf)
 have hp1:PxOk cx (Jd (So) k rf):=⟨fun t=>by rw [hP,hel];exact Av An t,by rw [hgl];rfl⟩
 have hc1:Al cx (Jd (So) k rf):=Af rfl (Aa (A9 (by rw [hP,hel,hgl];exact A5a rf hrf) (by kernel_rfl)) (Aa (A9 (by rw [hP,hel,hgl];exact F1) (by kernel_rfl)) Aj))
 have hq1:CallQOk cx (Jd (So) k rf):=Ab rfl rfl Ah (Df (Pp (by rw [hP,hel,hgl];exact A5a rf hrf) (by kernel_rfl)) Ae)
 have hlpand_1:A8 cx (Jd (So) k rf) (lpC (lp Tryz.f137 0) 0):=Ba hp1 hc1 hq1 (by rw [hP];exact follows) (k:=k) (s:=Ag3) (step:=Adt rf) (fun _ _=>by kernel_rfl) (by kernel_rfl) (Bac _ k rf) (Az (n:=0) (by kernel_rfl) Ay)
 have hlpand_0:A8 cx (Jd (So) k rf) (lp Tryz.f137 0):=Ba hp1 hc1 hq1 (by rw [hP];exact follows) (k:=k) (s:=Aii) (step:=Aeh k rf) (fun _ _=>by kernel_rfl) (by kernel_rfl) (A8z _ k rf) (Az (n:=1) (by kernel_rfl) (Cj Ay hlpand_1))
 have hp0:PxOk cx (Aes (So) k rf):=⟨fun t=>by rw [hP,hel];exact Av An t,by rw [hgl];rfl⟩
 have hc0:Al cx (Aes (So) k rf):=Af rfl (Aa (Bv hp1 hc1 hq1 (by rw [hP];exact follows) (by rw [hP];exact Tryz.func137) rfl (by kernel_rfl) (by kernel_rfl) (n:=2) (by kernel_rfl) ((Cj (Cj Ay hlpand_0) hlpand_1))) Aj)
 have hq0:CallQOk cx (Aes (So) k rf):=Ab rfl rfl Ah Ae
 exact⟨hp0,hc0,hq0,Ay⟩
def I1(rf:A6→Option A4):Ayt→Option So:=fun x=>Jp ((x.1.length+3)) rf x
theorem A4m(rf:A6→Option A4) (hrf:FnLn Tryz.prog elT glT 90 C8 C9 rf):FnLn Tryz.prog elT glT 138 Ab8 Abz (I1 rf):=FnLn.fin (ι:=Nat) (sg:=Ab8) (so:=Abz) 0 (F:=fun k=>Jp k rf) (fun k=>Bdz k rf hrf) fun x _ _ hx=>⟨(x.1.length+3),hx⟩
def Akw:Sig:=⟨38,[(2,.sl .pair true),(17,.sl .pair false),(18,.int .i64),(19,.int .i64)],[(0,.ptr 0 0),(1,.bm 138 [.ptr 0 0]),(6,.ptr 80 0),(7,.ptr 81 0)],[(0,.cells [.sl .tok false,.int .i64,.bool,.int .i64]),(1,.one (.sv .expr)),(80,.one (.sv .expr)),(81,.one (.sv .expr))],82,80,400,[],[]⟩
abbrev Xk:=List PairS×List PairS×Int×Int×List Tok×Int×Bool×Int×Xpr×Xpr×Xpr
def An0{R:Type}(rf:A6→Option A4) (rec:Xk→Option R) (kx:Ex→Xk→Option R) (v:Xk):Option R:=match v with
 |(v1,v2,v3,v4,w7,w8,w9,w10,w11,w12,w13) =>
 cond (decide (v4<v3)) (
  chk (inb v4 v2.length) (
  (A5 ((at' .pair v2 v4).sign,w7,w8,w9,w10)).bind fun(x5,x6,x7,x8,x9) =>
   cond (x5) (
   (I1 rf (x6,x7,x8,x9)).bind fun(x10,x11,x12,x13,x14) =>
    kx (.exit 1) (v1,v2,v3,v4,x11,x12,x13,x14,w11,w12,(Xpr.mk ((at' .pair v2 v4).kind) ⟨0,0,[]⟩ [] [w13,x10]))) (
   rec (v1,v2,v3,(wr .i64 (v4+1)),x6,x7,x8,x9,w11,w12,w13)))) (
  kx (.exit 2) (v1,v2,v3,v4,w7,w8,w9,w10,w11,w12,w13))
def Aoe:Sig:=⟨38,[(2,.sl .pair true)],[(0,.ptr 0 0),(1,.bm 138 [.ptr 0 0]),(6,.ptr 80 0),(7,.ptr 81 0)],[(0,.cells [.sl .tok false,.int .i64,.bool,.int .i64]),(1,.one (.sv .expr)),(80,.one (.sv .expr)),(81,.one (.sv .expr))],82,80,400,[],[]⟩
abbrev Oe:=List PairS×List Tok×Int×Bool×Int×Xpr×Xpr×Xpr
def Alw{R:Type}(k:Nat) (rf:A6→Option A4) (rec:Oe→Option R) (kx:Ex→Oe→Option R) (v:Oe):Option R:=match v with
 |(v,w,w1,w2,w3,w4,w5,w6) =>
 cond (!w2) (
  A0 (fun rc=>An0 rf rc (fun e vz=>match vz with|(v5,_,_,_,v9,v10,v11,v12,v13,v14,v15)=>match e with
  |.exit 1 =>
   rec (v5,v9,v10,v11,v12,v13,v14,v15)
  |.exit 2 =>
   kx (.exit 0) (v5,v9,v10,v11,v12,v13,v14,v15)
  |_=>none)) k (v,v,(v.length:Int),0,w,w1,w2,w3,w4,w5,w6)) (
  kx (.exit 0) (v,w,w1,w2,w3,w4,w5,w6))
def Nh(R:Type) (k:Nat) (rf:A6→Option A4):Px R:=⟨Bd ttL,glT,Au [(138,Aq Ab8 Abz (I1 rf)),(117,Aq Ew Ev A5)],Am [],Aw [(4,Be k Akw (An0 rf)),(2,Be k Aoe (Alw k rf))],tbl [(138,Fb Ab8 Abz (I1 rf))]⟩
noncomputable def Alb (R:Type) (k:Nat) (rf:A6→Option A4):Px R:=⟨Bd ttL,glT,Au [(137,Bg 80 400 (Nh R k rf) Tryz.f137)],Am [],Aw [],tbl []⟩
theorem Bg9(R:Type) (k:Nat) (rf:A6→Option A4):∀(fr:List Fr) (rec:Xk→Option R) (kx:Ex→Xk→Option R) (v:Xk),Bn (Nh R k rf) Akw (lpC (lp Tryz.f137 0) 0) fr rec kx v=An0 rf rec kx v
 |fr,rec,kx,(v1,v2,v3,v4,w7,w8,w9,w10,w11,w12,w13)=>by kernel_rfl
theorem Bfg(R:Type) (k:Nat) (rf:A6→Option A4):∀(fr:List Fr) (rec:Oe→Option R) (kx:Ex→Oe→Option R) (v:Oe),Bn (Nh R k rf) Aoe (lp Tryz.f137 0) fr rec kx v=Alw k rf rec kx v
 |fr,rec,kx,(v,w,w1,w2,w3,w4,w5,w6)=>by kernel_rfl
def Nw(k:Nat) (rf:A6→Option A4) (x:A6):Option (A4):=match x with
 |(l,n,b,p) =>
 (I1 rf (l,n,b,p)).bind fun(x,x1,x2,x3,x4) =>
  A0 (fun rec=>Alw k rf rec (fun e vz=>match vz with|(_,v17,v18,v19,v20,_,_,v23)=>match e with
  |.exit 0 =>
   some (v23,v17,v18,v19,v20)
  |_=>none)) k ([(PairS.mk [79,82] 5)],x1,x2,x3,x4,(Xpr.mk 0 ⟨0,0,[]⟩ [] []),(Xpr.mk 0 ⟨0,0,[]⟩ [] []),x)
theorem Bm1(k:Nat) (rf:A6→Option A4):∀(x:A6),Du (Alb _ k rf) Tryz.f90 C8 C9 x some=Nw k rf x
 |(l,n,b,p)=>by kernel_rfl
theorem Bjo(k:Nat) (rf:A6→Option A4) (hrf:FnLn Tryz.prog elT glT 90 C8 C9 rf):FnLn Tryz.prog elT glT 90 C8 C9 (Nw k rf):=by
 refine Bu Tryz.func90 rfl (by kernel_rfl) follows (by kernel_rfl) (n:=0) (by kernel_rfl) (px:=Alb _ k rf) (fun cx hP hel hgl =>?_) (Bm1 k rf)
 have hp1:PxOk cx (Nh (A4) k rf):=⟨fun t=>by rw [hP,hel];exact Av An t,by rw [hgl];rfl⟩
 have hc1:Al cx (Nh (A4) k rf):=Af rfl (Aa (A9 (by rw [hP,hel,hgl];exact A4m rf hrf) (by kernel_rfl)) (Aa (A9 (by rw [hP,hel,hgl];exact F1) (by kernel_rfl)) Aj))
 have hq1:CallQOk cx (Nh (A4) k rf):=Ab rfl rfl Ah (Df (Pp (by rw [hP,hel,hgl];exact A4m rf hrf) (by kernel_rfl)) Ae)
 have hlpor_1:A8 cx (Nh (A4) k rf) (lpC (lp Tryz.f137 0) 0):=Ba hp1 hc1 hq1 (by rw [hP];exact follows) (k:=k) (s:=Akw) (step:=An0 rf) (fun _ _=>by kernel_rfl) (by kernel_rfl) (Bg9 _ k rf) (Az (n:=0) (by kernel_rfl) Ay)
 have hlpor_0:A8 cx (Nh (A4) k rf) (lp Tryz.f137 0):=Ba hp1 hc1 hq1 (by rw [hP];exact follows) (k:=k) (s:=Aoe) (step:=Alw k rf) (fun _ _=>by kernel_rfl) (by kernel_rfl) (Bfg _ k rf) (Az (n:=1) (by kernel_rfl) (Cj Ay hlpor_1))
 have hp0:PxOk cx (Alb (A4) k rf):=⟨fun t=>by rw [hP,hel];exact Av An t,by rw [hgl];rfl⟩
 have hc0:Al cx (Alb (A4) k rf):=Af rfl (Aa (Bv hp1 hc1 hq1 (by rw [hP];exact follows) (by rw [hP];exact Tryz.func137) rfl (by kernel_rfl) (by kernel_rfl) (n:=2) (by kernel_rfl) ((Cj (Cj Ay hlpor_0) hlpor_1))) Aj)
 have hq0:CallQOk cx (Alb (A4) k rf):=Ab rfl rfl Ah Ae
 exact⟨hp0,hc0,hq0,Ay⟩
def Xr(rf:A6→Option A4):A6→Option A4:=fun x=>Nw (x.1.length+3) rf x
theorem Biu(rf:A6→Option A4) (hrf:FnLn Tryz.prog elT glT 90 C8 C9 rf):FnLn Tryz.prog elT glT 90 C8 C9 (Xr rf) :=.fin (ι:=Nat) (sg:=C8) (so:=C9) 0 (F:=fun k=>Nw k rf) (fun k=>Bjo k rf hrf) fun x _ _ hx=>⟨x.1.length+3,hx⟩
def Gk:A6→Option A4:=fun x=>A0 (V:=A6) (R:=A4) Xr (x.1.length+2) x
theorem Am2:FnLn Tryz.prog elT glT 90 C8 C9 Gk :=.fin (ι:=Nat) (sg:=C8) (so:=C9) 0 (F:=fun n=>A0 (V:=A6) (R:=A4) Xr n) (fun n=>FnLn.rec' (Sx.enters_of Tryz.func90 rfl rfl) (fun rf hrf=>Biu rf hrf) n) fun x _ _ hx=>⟨x.1.length+2,hx⟩
end Go.Proofs.YthndhaolemgbdaaGreatDoor
namespace Go.Proofs.YthndhaolemgbdaaGreatDoor
open Go.Ax
def Ox:Sig:=⟨1,[],[(0,.ptr 0 0)],[(0,.cells [.sl .tok false,.int .i64,.bool,.int .i64])],1,1,0,[],[]⟩
def Oj:Sig:=⟨1,[(0,.sl .str true)],[],[(0,.cells [.sl .tok false,.int .i64,.bool,.int .i64])],1,1,0,[],[]⟩
abbrev Anq:=List Tok×Int×Bool×Int
abbrev Gq:=List Str×List Tok×Int×Bool×Int
def Aab:Sig:=⟨19,[],[(0,.ptr 0 0),(1,.fn 184 [.ptr 2 0,.ptr 1 0])],[(0,.cells [.sl .tok false,.int .i64,.bool,.int .i64]),(1,.fx [.ptr 0 0]),(2,.cells [.sl .str true])],80,80,400,[],[]⟩
abbrev Fk:=List Tok×Int×Bool×Int×List Str
def Hh{R:Type}(rec:Fk→Option R) (kx:Ex→Fk→Option R) (v:Fk):Option R:=match v with
 |(w,w1,w2,w3,w4) =>
 cond (!w2) (
  (A5 ([44],w,w1,w2,w3)).bind fun(x9,x10,x11,x12,x13) =>
  cond (x9) (
   (Bc (x10,x11,x12,x13)).bind fun(x14,x15,x16,x17,x18) =>
   chk (decide (w4.length+1≤A1)) (
    rec (x15,x16,x17,x18,(w4++[x14])))) (
   kx (.exit 0) (x10,x11,x12,x13,w4))) (
  kx (.exit 0) (w,w1,w2,w3,w4))
def Ms(R:Type) (_k:Nat):Px R:=⟨Bd ttL,glT,Au [],Am [],Aw [],tbl [(120,Fb Ge Gn Bc)]⟩
noncomputable def Jj (R:Type) (k:Nat):Px R:=⟨Bd ttL,glT,Au [(117,Aq Ew Ev A5),(184,Bg 120 600 (Ms R k) Tryz.f184)],Am [],Aw [(1,Be k Aab (Hh))],tbl []⟩
noncomputable def S6 (R:Type) (k:Nat):Px R:=⟨Bd ttL,glT,Au [(119,Aq Em Eo Ao),(121,Bg 80 400 (Jj R k) Tryz.f121)],Am [],Aw [],tbl []⟩
theorem Ayc(R:Type) (k:Nat):∀(fr:List Fr) (rec:Fk→Option R) (kx:Ex→Fk→Option R) (v:Fk),Bn (Jj R k) Aab (lp Tryz.f121 0) fr rec kx v=Hh rec kx v
 |fr,rec,kx,(w,w1,w2,w3,w4)=>by kernel_rfl
def Jg(k:Nat) (x:Anq):Option (Gq):=match x with
 |(l,n,b,p) =>
 (Ao ([[40]],l,n,b,p)).bind fun(x,x1,x2,x3) =>
  (Bc (x,x1,x2,x3)).bind fun(x4,x5,x6,x7,x8) =>
  A0 (fun rec=>Hh rec (fun e vz=>match vz with|(v,v1,v2,v3,v4)=>match e with
   |.exit 0 =>
   (Ao ([[41]],v,v1,v2,v3)).bind fun(x19,x20,x21,x22) =>
    some (v4,x19,x20,x21,x22)
   |_=>none)) k (x5,x6,x7,x8,[x4])
theorem Ba0(k:Nat):∀(x:Anq),Du (S6 _ k) Tryz.f161 Ox Oj x some=Jg k x
 |(l,n,b,p)=>by kernel_rfl
theorem A06(k:Nat):FnLn Tryz.prog elT glT 161 Ox Oj (Jg k):=by
 refine Bu Tryz.func161 rfl (by kernel_rfl) follows (by kernel_rfl) (n:=0) (by kernel_rfl) (px:=S6 _ k) (fun cx hP hel hgl =>?_) (Ba0 k)
 have hp2:PxOk cx (Ms (Gq) k):=⟨fun t=>by rw [hP,hel];exact Av An t,by rw [hgl];rfl⟩
 have hc2:Al cx (Ms (Gq) k):=Af rfl Aj
 have hq2:CallQOk cx (Ms (Gq) k):=Ab rfl rfl Ah (Df (Pp (by rw [hP,hel,hgl];exact J2) (by kernel_rfl)) Ae)
 have hp1:PxOk cx (Jj (Gq) k):=⟨fun t=>by rw [hP,hel];exact Av An t,by rw [hgl];rfl⟩
 have hc1:Al cx (Jj (Gq) k):=Af rfl (Aa (A9 (by rw [hP,hel,hgl];exact F1) (by kernel_rfl)) (Aa (Bv hp2 hc2 hq2 (by rw [hP];exact follows) (by rw [hP];exact Tryz.func184) rfl (by kernel_rfl) (by kernel_rfl) (n:=0) (by kernel_rfl) (Ay)) Aj))
 have hq1:CallQOk cx (Jj (Gq) k):=Ab rfl rfl Ah Ae
 have hlpnames_0:A8 cx (Jj (Gq) k) (lp Tryz.f121 0):=Ba hp1 hc1 hq1 (by rw [hP];exact follows) (k:=k) (s:=Aab) (step:=Hh) (fun _ _=>by kernel_rfl) (by kernel_rfl) (Ayc _ k) (Az (n:=0) (by kernel_rfl) Ay)
 have hp0:PxOk cx (S6 (Gq) k):=⟨fun t=>by rw [hP,hel];exact Av An t,by rw [hgl];rfl⟩
 have hc0:Al cx (S6 (Gq) k):=Af rfl (Aa (A9 (by rw [hP,hel,hgl];exact Hi) (by kernel_rfl)) (Aa (Bv hp1 hc1 hq1 (by rw [hP];exact follows) (by rw [hP];exact Tryz.func121) rfl (by kernel_rfl) (by kernel_rfl) (n:=1) (by kernel_rfl) ((Cj Ay hlpnames_0))) Aj))
 have hq0:CallQOk cx (S6 (Gq) k):=Ab rfl rfl Ah Ae
 exact⟨hp0,hc0,hq0,Ay⟩
def Et:Anq→Option Gq:=fun x=>Jg ((x.1.length+3)) x
theorem Aq8:FnLn Tryz.prog elT glT 161 Ox Oj (Et):=FnLn.fin (ι:=Nat) (sg:=Ox) (so:=Oj) 0 (F:=fun k=>Jg k) (fun k=>A06 k) fun x _ _ hx=>⟨(x.1.length+3),hx⟩
def Ou:Sig:=⟨1,[],[(0,.ptr 0 0)],[(0,.cells [.sl .tok false,.int .i64,.bool,.int .i64])],1,1,0,[],[]⟩
def Om:Sig:=⟨1,[(0,.sl .expr true)],[],[(0,.cells [.sl .tok false,.int .i64,.bool,.int .i64])],1,1,0,[],[]⟩
abbrev Al4:=List Tok×Int×Bool×Int
abbrev Gl:=List Xpr×List Tok×Int×Bool×Int
def Z2:Sig:=⟨19,[],[(0,.ptr 0 0),(1,.fn 162 [.ptr 2 0,.ptr 1 0])],[(0,.cells [.sl .tok false,.int .i64,.bool,.int .i64]),(1,.fx [.ptr 0 0]),(2,.cells [.sl .expr true])],80,80,400,[],[]⟩
abbrev Fm:=List Tok×Int×Bool×Int×List Xpr
def G2{R:Type}(rec:Fm→Option R) (kx:Ex→Fm→Option R) (v:Fm):Option R:=match v with
 |(w,w1,w2,w3,w4) =>
 cond (!w2) (
  (A5 ([44],w,w1,w2,w3)).bind fun(x5,x6,x7,x8,x9) =>
  cond (x5) (
   (Gk (x6,x7,x8,x9)).bind fun(x10,x11,x12,x13,x14) =>
   chk (decide (w4.length+1≤A1)&&decide ((w4.length:Int)=(w4.length:Int))) (
    rec (x11,x12,x13,x14,(w4++[x10])))) (
   kx (.exit 0) (x6,x7,x8,x9,w4))) (
  kx (.exit 0) (w,w1,w2,w3,w4))
def Mn(R:Type) (_k:Nat):Px R:=⟨Bd ttL,glT,Au [],Am [],Aw [],tbl [(90,Fb C8 C9 Gk)]⟩
noncomputable def Jm (R:Type) (k:Nat):Px R:=⟨Bd ttL,glT,Au [(117,Aq Ew Ev A5),(162,Bg 120 600 (Mn R k) Tryz.f162)],Am [],Aw [(1,Be k Z2 (G2))],tbl []⟩
noncomputable def Tj (R:Type) (k:Nat):Px R:=⟨Bd ttL,glT,Au [(121,Bg 80 400 (Jm R k) Tryz.f121)],Am [],Aw [],tbl []⟩
theorem Au9(R:Type) (k:Nat):∀(fr:List Fr) (rec:Fm→Option R) (kx:Ex→Fm→Option R) (v:Fm),Bn (Jm R k) Z2 (lp Tryz.f121 0) fr rec kx v=G2 rec kx v
 |fr,rec,kx,(w,w1,w2,w3,w4)=>by kernel_rfl
def Jr(k:Nat) (x:Al4):Option (Gl):=match x with
 |(l,n,b,p) =>
 (Gk (l,n,b,p)).bind fun(x,x1,x2,x3,x4) =>
  chk (decide (0+1≤A1)&&decide (0=(0:Int))) (
  A0 (fun rec=>G2 rec (fun e vz=>match vz with|(v,v1,v2,v3,v4)=>match e with
   |.exit 0 =>
   some (v4,v,v1,v2,v3)
   |_=>none)) k (x1,x2,x3,x4,[x]))
theorem A62(k:Nat):∀(x:Al4),Du (Tj _ k) Tryz.f123 Ou Om x some=Jr k x
 |(l,n,b,p)=>by kernel_rfl
theorem A1h(k:Nat):FnLn Tryz.prog elT glT 123 Ou Om (Jr k):=by
 refine Bu Tryz.func123 rfl (by kernel_rfl) follows (by kernel_rfl) (n:=0) (by kernel_rfl) (px:=Tj _ k) (fun cx hP hel hgl =>?_) (A62 k)
 have hp2:PxOk cx (Mn (Gl) k):=⟨fun t=>by rw [hP,hel];exact Av An t,by rw [hgl];rfl⟩
 have hc2:Al cx (Mn (Gl) k):=Af rfl Aj
 have hq2:CallQOk cx (Mn (Gl) k):=Ab rfl rfl Ah (Df (Pp (by rw [hP,hel,hgl];exact Am2) (by kernel_rfl)) Ae)
 have hp1:PxOk cx (Jm (Gl) k):=⟨fun t=>by rw [hP,hel];exact Av An t,by rw [hgl];rfl⟩
 have hc1:Al cx (Jm (Gl) k):=Af rfl (Aa (A9 (by rw [hP,hel,hgl];exact F1) (by kernel_rfl)) (Aa (Bv hp2 hc2 hq2 (by rw [hP];exact follows) (by rw [hP];exact Tryz.func162) rfl (by kernel_rfl) (by kernel_rfl) (n:=0) (by kernel_rfl) (Ay)) Aj))
 have hq1:CallQOk cx (Jm (Gl) k):=Ab rfl rfl Ah Ae
 have hlpexprs_0:A8 cx (Jm (Gl) k) (lp Tryz.f121 0):=Ba hp1 hc1 hq1 (by rw [hP];exact follows) (k:=k) (s:=Z2) (step:=G2) (fun _ _=>by kernel_rfl) (by kernel_rfl) (Au9 _ k) (Az (n:=0) (by kernel_rfl) Ay)
 have hp0:PxOk cx (Tj (Gl) k):=⟨fun t=>by rw [hP,hel];exact Av An t,by rw [hgl];rfl⟩
 have hc0:Al cx (Tj (Gl) k):=Af rfl (Aa (Bv hp1 hc1 hq1 (by rw [hP];exact follows) (by rw [hP];exact Tryz.func121) rfl (by kernel_rfl) (by kernel_rfl) (n:=1) (by kernel_rfl) ((Cj Ay hlpexprs_0))) Aj)
 have hq0:CallQOk cx (Tj (Gl) k):=Ab rfl rfl Ah Ae
 exact⟨hp0,hc0,hq0,Ay⟩
def Ds:Al4→Option Gl:=fun x=>Jr ((x.1.length+3)) x
theorem Ape:FnLn Tryz.prog elT glT 123 Ou Om (Ds):=FnLn.fin (ι:=Nat) (sg:=Ou) (so:=Om) 0 (F:=fun k=>Jr k) (fun k=>A1h k) fun x _ _ hx=>⟨(x.1.length+3),hx⟩
def Ae3:Sig:=⟨1,[],[(0,.ptr 0 0)],[(0,.cells [.sl .tok false,.int .i64,.bool,.int .i64])],1,1,0,[],[]⟩
def Aew:Sig:=⟨1,[(0,.sv .col)],[],[(0,.cells [.sl .tok false,.int .i64,.bool,.int .i64])],1,1,0,[],[]⟩
abbrev A2g:=List Tok×Int×Bool×Int
abbrev Aei:=Col×List Tok×Int×Bool×Int
def Ahc:Sig:=⟨87,[(10,.int .i64)],[(0,.ptr 0 0),(2,.ptr 1 0),(3,.ptr 2 0),(9,.agg [.str [],.str [],.str [66,79,79,76],.str [73,78,84],.str [84,69,88,84],.str [66,89,84,69,83]])],[(0,.cells [.sl .tok false,.int .i64,.bool,.int .i64]),(1,.one (.sv .col)),(2,.one (.sv .col))],3,1,0,[],[]⟩
abbrev Gg:=Int×List Tok×Int×Bool×Int×Col×Col
def G7{R:Type}(rec:Gg→Option R) (kx:Ex→Gg→Option R) (v:Gg):Option R:=match v with
 |(v,w,w1,w2,w3,w4,w5) =>
 cond (decide (v<6)) (
  chk (inb v 6) (
  let j1:=fun(p1:Bool) =>
   let j:=fun(p2:Bool) =>
   cond (p2) (
    (A5 ((at' .str [[],[],[66,79,79,76],[73,78,84],[84,69,88,84],[66,89,84,69,83]] v),w,w1,w2,w3)).bind fun(x5,x6,x7,x8,x9) =>
    cond (x5) (
     rec ((wr .i64 (v+1)),x6,x7,x8,x9,w4,(Col.mk w5.name v w5.notNull w5.unique w5.ref))) (
     rec ((wr .i64 (v+1)),x6,x7,x8,x9,w4,w5))) (
    rec ((wr .i64 (v+1)),w,w1,w2,w3,w4,w5))
   cond (p1) (
   j (decide (w5.kind=0))) (
   j false)
  cond (decide (2≤v)) (
   j1 (!w2)) (
   j1 false))) (
  kx (.exit 0) (v,w,w1,w2,w3,w4,w5))
def W4(R:Type) (k:Nat):Px R:=⟨Bd ttL,glT,Au [(120,Aq Ge Gn Bc),(117,Aq Ew Ev A5),(127,Aq Hq Hp C2),(119,Aq Em Eo Ao)],Am [],Aw [(3,Be k Ahc (G7))],tbl []⟩
theorem A8i(R:Type) (k:Nat):∀(fr:List Fr) (rec:Gg→Option R) (kx:Ex→Gg→Option R) (v:Gg),Bn (W4 R k) Ahc (lp Tryz.f183 0) fr rec kx v=G7 rec kx v
 |fr,rec,kx,(v,w,w1,w2,w3,w4,w5)=>by kernel_rfl
def Aa7(k:Nat) (x:A2g):Option (Aei):=match x with
 |(l,n,b,p) =>
 (Bc (l,n,b,p)).bind fun(x,x1,x2,x3,x4) =>
  A0 (fun rec=>G7 rec (fun e vz=>match vz with|(_,v2,v3,v4,v5,_,v7)=>match e with
  |.exit 0 =>
   let j6:=fun(q13:List Tok) (q14:Int) (q15:Bool) (q16:Int) =>
   let j2:=fun(q21:List Tok) (q22:Int) (q23:Bool) (q24:Int) (q25:Col) =>
    let j5:=fun(q30:List Tok) (q31:Int) (q32:Bool) (q33:Int) =>
    let j4:=fun(q38:List Tok) (q39:Int) (q40:Bool) (q41:Int) (q42:Col) =>
     let j3:=fun(p8:Bool) (q47:List Tok) (q48:Int) (q49:Bool) (q50:Int) =>
     cond (p8) (
      (Bc (q47,q48,q49,q50)).bind fun(x33,x34,x35,x36,x37) =>
      some ((Col.mk q42.name q42.kind q42.notNull q42.unique x33),x34,x35,x36,x37)) (
      some (q42,q47,q48,q49,q50))
     cond (!q40) (
     (A5 ([82,69,70,69,82,69,78,67,69,83],q38,q39,q40,q41)).bind fun(x28,x29,x30,x31,x32) =>
      j3 x28 x29 x30 x31 x32) (
     j3 false q38 q39 q40 q41)
    cond (!q32) (
     (A5 ([85,78,73,81,85,69],q30,q31,q32,q33)).bind fun(x23,x24,x25,x26,x27) =>
     j4 x24 x25 x26 x27 (Col.mk q25.name q25.kind q25.notNull x23 q25.ref)) (
     j4 q30 q31 q32 q33 (Col.mk q25.name q25.kind q25.notNull false q25.ref))
    cond (q25.notNull) (
    (Ao ([[78,85,76,76]],q21,q22,q23,q24)).bind fun(x19,x20,x21,x22) =>
     j5 x19 x20 x21 x22) (
    j5 q21 q22 q23 q24)
   cond (!q15) (
    (A5 ([78,79,84],q13,q14,q15,q16)).bind fun(x14,x15,x16,x17,x18) =>
    j2 x15 x16 x17 x18 (Col.mk v7.name v7.kind x14 v7.unique v7.ref)) (
    j2 q13 q14 q15 q16 (Col.mk v7.name v7.kind false v7.unique v7.ref))
   cond (decide (v7.kind=0)) (
   (C2 (v2,v3,v4,v5)).bind fun(x10,x11,x12,x13) =>
    j6 x10 x11 x12 x13) (
   j6 v2 v3 v4 v5)
  |_=>none)) k (0,x1,x2,x3,x4,(Col.mk [] 0 false false []),(Col.mk x 0 false false []))
theorem Bjp(k:Nat):∀(x:A2g),Du (W4 _ k) Tryz.f183 Ae3 Aew x some=Aa7 k x
 |(l,n,b,p)=>by kernel_rfl
theorem Be0(k:Nat):FnLn Tryz.prog elT glT 183 Ae3 Aew (Aa7 k):=by
 refine Bu Tryz.func183 rfl (by kernel_rfl) follows (by kernel_rfl) (n:=1) (by kernel_rfl) (px:=W4 _ k) (fun cx hP hel hgl =>?_) (Bjp k)
 have hp0:PxOk cx (W4 (Aei) k):=⟨fun t=>by rw [hP,hel];exact Av An t,by rw [hgl];rfl⟩
 have hc0:Al cx (W4 (Aei) k):=Af rfl (Aa (A9 (by rw [hP,hel,hgl];exact J2) (by kernel_rfl)) (Aa (A9 (by rw [hP,hel,hgl];exact F1) (by kernel_rfl)) (Aa (A9 (by rw [hP,hel,hgl];exact Oq) (by kernel_rfl)) (Aa (A9 (by rw [hP,hel,hgl];exact Hi) (by kernel_rfl)) Aj))))
 have hq0:CallQOk cx (W4 (Aei) k):=Ab rfl rfl Ah Ae
 have hlpcol_0:A8 cx (W4 (Aei) k) (lp Tryz.f183 0):=Ba hp0 hc0 hq0 (by rw [hP];exact follows) (k:=k) (s:=Ahc) (step:=G7) (fun _ _=>by kernel_rfl) (by kernel_rfl) (A8i _ k) (Az (n:=0) (by kernel_rfl) Ay)
 exact⟨hp0,hc0,hq0,(Cj Ay hlpcol_0)⟩
def N2:A2g→Option Aei:=fun x=>Aa7 (10) x
theorem Bjs:FnLn Tryz.prog elT glT 183 Ae3 Aew (N2):=FnLn.fin (ι:=Nat) (sg:=Ae3) (so:=Aew) 0 (F:=fun k=>Aa7 k) (fun k=>Be0 k) fun _ _ _ hx=>⟨10,hx⟩
def Tv:Sig:=⟨2,[],[(0,.ptr 0 0),(1,.ptr 1 0)],[(0,.cells [.sl .tok false,.int .i64,.bool,.int .i64]),(1,.cells [.int .i64,.str,.str,.sl .col true,.sl .str false,.sl .expr true,.sl .exprs true,.sl .set true,.bool,.int .i64,.int .i64,.int .i64,.str,.str,.sl .expr false,.sl .str true,.sl .bool true,.int .i64])],2,2,0,[],[]⟩
def Tc:Sig:=⟨0,[],[],[(0,.cells [.sl .tok false,.int .i64,.bool,.int .i64]),(1,.cells [.int .i64,.str,.str,.sl .col true,.sl .str false,.sl .expr true,.sl .exprs true,.sl .set true,.bool,.int .i64,.int .i64,.int .i64,.str,.str,.sl .expr false,.sl .str true,.sl .bool true,.int .i64])],2,2,0,[],[]⟩
abbrev Am7:=List Tok×Int×Bool×Int×Int×Str×Str×List Col×List Str×List Xpr×List (List Xpr)×List SetE×Bool×Int×Int×Int×Str×Str×List Xpr×List Str×List Bool×Int
abbrev G8:=List Tok×Int×Bool×Int×Int×Str×Str×List Col×List Str×List Xpr×List (List Xpr)×List SetE×Bool×Int×Int×Int×Str×Str×List Xpr×List Str×List Bool×Int
def Zj:Sig:=⟨95,[],[(0,.ptr 0 0),(1,.ptr 1 0)],[(0,.cells [.sl .tok false,.int .i64,.bool,.int .i64]),(1,.cells [.int .i64,.str,.str,.sl .col true,.sl .str true,.sl .expr true,.sl .exprs true,.sl .set true,.bool,.int .i64,.int .i64,.int .i64,.str,.str,.sl .expr false,.sl .str true,.sl .bool true,.int .i64])],2,2,0,[],[]⟩
abbrev C6:=List Tok×Int×Bool×Int×Int×Str×Str×List Col×List Str×List Xpr×List (List Xpr)×List SetE×Bool×Int×Int×Int×Str×Str×List Xpr×List Str×List Bool×Int
def C5{R:Type}(rec:C6→Option R) (kx:Ex→C6→Option R) (v:C6):Option R:=match v with
 |(w22,w23,w24,w25,w26,w27,w28,w29,w30,w31,w32,w33,w34,w35,w36,w37,w38,w39,w40,w41,w42,w43) =>
 cond (!w24) (
  (A5 ([44],w22,w23,w24,w25)).bind fun(x41,x42,x43,x44,x45) =>
  cond (x41) (
   (Ao ([[67,72,69,67,75],[40]],x42,x43,x44,x45)).bind fun(x46,x47,x48,x49) =>
   (Gk (x46,x47,x48,x49)).bind fun(x50,x51,x52,x53,x54) =>
    chk (decide (w31.length+1≤A1)&&decide ((w31.length:Int)=(w31.length:Int))) (
    (Ao ([[41]],x51,x52,x53,x54)).bind fun(x55,x56,x57,x58) =>
     rec (x55,x56,x57,x58,w26,w27,w28,w29,w30,(w31++[x50]),w32,w33,w34,w35,w36,w37,w38,w39,w40,w41,w42,w43))) (
   kx (.exit 2) (x42,x43,x44,x45,w26,w27,w28,w29,w30,w31,w32,w33,w34,w35,w36,w37,w38,w39,w40,w41,w42,w43))) (
  kx (.exit 2) (w22,w23,w24,w25,w26,w27,w28,w29,w30,w31,w32,w33,w34,w35,w36,w37,w38,w39,w40,w41,w42,w43))
def Yr:Sig:=⟨95,[],[(0,.ptr 0 0),(1,.ptr 1 0)],[(0,.cells [.sl .tok false,.int .i64,.bool,.int .i64]),(1,.cells [.int .i64,.str,.str,.sl .col true,.sl .str false,.sl .expr true,.sl .exprs true,.sl .set true,.bool,.int .i64,.int .i64,.int .i64,.str,.str,.sl .expr false,.sl .str true,.sl .bool true,.int .i64])],2,2,0,[],[]⟩
abbrev C3:=List Tok×Int×Bool×Int×Int×Str×Str×List Col×List Str×List Xpr×List (List Xpr)×List SetE×Bool×Int×Int×Int×Str×Str×List Xpr×List Str×List Bool×Int
def Ei{R:Type}(rec:C3→Option R) (kx:Ex→C3→Option R) (v:C3):Option R:=match v with
 |(w,w1,w2,w3,w4,w5,w6,w7,w8,w9,w10,w11,w12,w13,w14,w15,w16,w17,w18,w19,w20,w21) =>
 cond (!w2) (
  (A5 ([80,82,73,77,65,82,89],w,w1,w2,w3)).bind fun(x18,x19,x20,x21,x22) =>
  cond (!x18) (
   (N2 (x19,x20,x21,x22)).bind fun(x23,x24,x25,x26,x27) =>
   chk (decide (w7.length+1≤A1)) (
    (Ao ([[44]],x24,x25,x26,x27)).bind fun(x28,x29,x30,x31) =>
    rec (x28,x29,x30,x31,w4,w5,w6,(w7++[x23]),w8,w9,w10,w11,w12,w13,w14,w15,w16,w17,w18,w19,w20,w21))) (
   kx (.exit 0) (x19,x20,x21,x22,w4,w5,w6,w7,w8,w9,w10,w11,w12,w13,w14,w15,w16,w17,w18,w19,w20,w21))) (
  kx (.exit 0) (w,w1,w2,w3,w4,w5,w6,w7,w8,w9,w10,w11,w12,w13,w14,w15,w16,w17,w18,w19,w20,w21))
def Ho(R:Type) (k:Nat):Px R:=⟨Bd ttL,glT,Au [(120,Aq Ge Gn Bc),(119,Aq Em Eo Ao),(117,Aq Ew Ev A5),(161,Aq Ox Oj Et)],Am [],Aw [(4,Be k Yr (Ei)),(9,Be k Zj (C5))],tbl [(183,Fb Ae3 Aew N2),(90,Fb C8 C9 Gk)]⟩
theorem Av4(R:Type) (k:Nat):∀(fr:List Fr) (rec:C3→Option R) (kx:Ex→C3→Option R) (v:C3),Bn (Ho R k) Yr (lp Tryz.f160 0) fr rec kx v=Ei rec kx v
 |fr,rec,kx,(w,w1,w2,w3,w4,w5,w6,w7,w8,w9,w10,w11,w12,w13,w14,w15,w16,w17,w18,w19,w20,w21)=>by kernel_rfl
theorem Ave(R:Type) (k:Nat):∀(fr:List Fr) (rec:C6→Option R) (kx:Ex→C6→Option R) (v:C6),Bn (Ho R k) Zj (lp Tryz.f160 1) fr rec kx v=C5 rec kx v
 |fr,rec,kx,(w22,w23,w24,w25,w26,w27,w28,w29,w30,w31,w32,w33,w34,w35,w36,w37,w38,w39,w40,w41,w42,w43)=>by kernel_rfl
def R6(k:Nat) (x:Am7):Option (G8):=match x with
 |(l,n,b,p,_,_,so,sc,ss,sl,sr,st,sh,wk,vk,vn,vs,wn,wl,sd,se,sm) =>
 (Bc (l,n,b,p)).bind fun(x,x1,x2,x3,x4) =>
  (Ao ([[40]],x1,x2,x3,x4)).bind fun(x5,x6,x7,x8) =>
  (N2 (x5,x6,x7,x8)).bind fun(x9,x10,x11,x12,x13) =>
   chk (decide (sc.length+1≤A1)) (
   (Ao ([[44]],x10,x11,x12,x13)).bind fun(x14,x15,x16,x17) =>
    A0 (fun rec=>Ei rec (fun e vz=>match vz with|(v,v1,v2,v3,v4,v5,v6,v7,_,v9,v10,v11,v12,v13,v14,v15,v16,v17,v18,v19,v20,v21)=>match e with
    |.exit 0 =>
     (Ao ([[75,69,89]],v,v1,v2,v3)).bind fun(x32,x33,x34,x35) =>
     (Et (x32,x33,x34,x35)).bind fun(x36,x37,x38,x39,x40) =>
      A0 (fun rec=>C5 rec (fun e vz=>match vz with|(v22,v23,v24,v25,v26,v27,v28,v29,v30,v31,v32,v33,v34,v35,v36,v37,v38,v39,v40,v41,v42,v43)=>match e with
      |.exit 2 =>
       (Ao ([[41]],v22,v23,v24,v25)).bind fun(x59,x60,x61,x62) =>
       some (x59,x60,x61,x62,v26,v27,v28,v29,v30,v31,v32,v33,v34,v35,v36,v37,v38,v39,v40,v41,v42,v43)
      |_=>none)) k (x37,x38,x39,x40,v4,v5,v6,v7,x36,v9,v10,v11,v12,v13,v14,v15,v16,v17,v18,v19,v20,v21)
    |_=>none)) k (x14,x15,x16,x17,1,x,so,(sc++[x9]),ss,sl,sr,st,sh,wk,vk,vn,vs,wn,wl,sd,se,sm))
theorem A67(k:Nat):∀(x:Am7),Du (Ho _ k) Tryz.f160 Tv Tc x some=R6 k x
 |(l,n,b,p,sk,sn,so,sc,ss,sl,sr,st,sh,wk,vk,vn,vs,wn,wl,sd,se,sm)=>by kernel_rfl
theorem A0l(k:Nat):FnLn Tryz.prog elT glT 160 Tv Tc (R6 k):=by
 refine Bu Tryz.func160 rfl (by kernel_rfl) follows (by kernel_rfl) (n:=2) (by kernel_rfl) (px:=Ho _ k) (fun cx hP hel hgl =>?_) (A67 k)
 have hp0:PxOk cx (Ho (G8) k):=⟨fun t=>by rw [hP,hel];exact Av An t,by rw [hgl];rfl⟩
 have hc0:Al cx (Ho (G8) k):=Af rfl (Aa (A9 (by rw [hP,hel,hgl];exact J2) (by kernel_rfl)) (Aa (A9 (by rw [hP,hel,hgl];exact Hi) (by kernel_rfl)) (Aa (A9 (by rw [hP,hel,hgl];exact F1) (by kernel_rfl)) (Aa (A9 (by rw [hP,hel,hgl];exact Aq8) (by kernel_rfl)) Aj))))
 have hq0:CallQOk cx (Ho (G8) k):=Ab rfl rfl Ah (Df (Pp (by rw [hP,hel,hgl];exact Bjs) (by kernel_rfl)) (Df (Pp (by rw [hP,hel,hgl];exact Am2) (by kernel_rfl)) Ae))
 have hlptable_0:A8 cx (Ho (G8) k) (lp Tryz.f160 0):=Ba hp0 hc0 hq0 (by rw [hP];exact follows) (k:=k) (s:=Yr) (step:=Ei) (fun _ _=>by kernel_rfl) (by kernel_rfl) (Av4 _ k) (Az (n:=0) (by kernel_rfl) Ay)
 have hlptable_1:A8 cx (Ho (G8) k) (lp Tryz.f160 1):=Ba hp0 hc0 hq0 (by rw [hP];exact follows) (k:=k) (s:=Zj) (step:=C5) (fun _ _=>by kernel_rfl) (by kernel_rfl) (Ave _ k) (Az (n:=0) (by kernel_rfl) Ay)
 exact⟨hp0,hc0,hq0,(Cj (Cj Ay hlptable_0) hlptable_1)⟩
def Kh:Am7→Option G8:=fun x=>R6 ((x.1.length+3)) x
theorem Bbf:FnLn Tryz.prog elT glT 160 Tv Tc (Kh):=FnLn.fin (ι:=Nat) (sg:=Tv) (so:=Tc) 0 (F:=fun k=>R6 k) (fun k=>A0l k) fun x _ _ hx=>⟨(x.1.length+3),hx⟩
def Wp:Sig:=⟨2,[],[(0,.ptr 0 0),(1,.ptr 1 0)],[(0,.cells [.sl .tok false,.int .i64,.bool,.int .i64]),(1,.cells [.int .i64,.str,.str,.sl .col true,.sl .str false,.sl .expr true,.sl .exprs true,.sl .set true,.bool,.int .i64,.int .i64,.int .i64,.str,.str,.sl .expr false,.sl .str true,.sl .bool true,.int .i64])],2,2,0,[],[]⟩
def Vq:Sig:=⟨0,[],[],[(0,.cells [.sl .tok false,.int .i64,.bool,.int .i64]),(1,.cells [.int .i64,.str,.str,.sl .col true,.sl .str false,.sl .expr true,.sl .exprs true,.sl .set true,.bool,.int .i64,.int .i64,.int .i64,.str,.str,.sl .expr false,.sl .str true,.sl .bool true,.int .i64])],2,2,0,[],[]⟩
abbrev Aho:=List Tok×Int×Bool×Int×Int×Str×Str×List Col×List Str×List Xpr×List (List Xpr)×List SetE×Bool×Int×Int×Int×Str×Str×List Xpr×List Str×List Bool×Int
abbrev T6:=List Tok×Int×Bool×Int×Int×Str×Str×List Col×List Str×List Xpr×List (List Xpr)×List SetE×Bool×Int×Int×Int×Str×Str×List Xpr×List Str×List Bool×Int
def Pw(R:Type):Px R:=⟨Bd ttL,glT,Au [(117,Aq Ew Ev A5),(160,Aq Tv Tc Kh),(119,Aq Em Eo Ao),(120,Aq Ge Gn Bc),(161,Aq Ox Oj Et)],Am [],Aw [],tbl []⟩
def Xb(x:Aho):Option (T6):=match x with
 |(l,n,b,p,sk,sn,so,sc,ss,sl,sr,st,sh,wk,vk,vn,vs,wn,wl,sd,se,sm) =>
 (A5 ([84,65,66,76,69],l,n,b,p)).bind fun(x,x1,x2,x3,x4) =>
  cond (x) (
  (Kh (x1,x2,x3,x4,sk,sn,so,sc,ss,sl,sr,st,sh,wk,vk,vn,vs,wn,wl,sd,se,sm)).bind fun(x5,x6,x7,x8,x9,x10,x11,x12,x13,x14,x15,x16,x17,x18,x19,x20,x21,x22,x23,x24,x25,x26) =>
   some (x5,x6,x7,x8,x9,x10,x11,x12,x13,x14,x15,x16,x17,x18,x19,x20,x21,x22,x23,x24,x25,x26)) (
  (Ao ([[73,78,68,69,88]],x1,x2,x3,x4)).bind fun(x27,x28,x29,x30) =>
   (Bc (x27,x28,x29,x30)).bind fun(x31,x32,x33,x34,x35) =>
   (Ao ([[79,78]],x32,x33,x34,x35)).bind fun(x36,x37,x38,x39) =>
    (Bc (x36,x37,x38,x39)).bind fun(x40,x41,x42,x43,x44) =>
    (Et (x41,x42,x43,x44)).bind fun(x45,x46,x47,x48,x49) =>
     some (x46,x47,x48,x49,3,x31,x40,sc,x45,sl,sr,st,sh,wk,vk,vn,vs,wn,wl,sd,se,sm))
theorem A2w:∀(x:Aho),Du (Pw _) Tryz.f118 Wp Vq x some=Xb x
 |(l,n,b,p,sk,sn,so,sc,ss,sl,sr,st,sh,wk,vk,vn,vs,wn,wl,sd,se,sm)=>by kernel_rfl
theorem Ayk:FnLn Tryz.prog elT glT 118 Wp Vq (Xb):=by
 refine Bu Tryz.func118 rfl (by kernel_rfl) follows (by kernel_rfl) (n:=0) (by kernel_rfl) (px:=Pw _) (fun cx hP hel hgl =>?_) (A2w)
 have hp0:PxOk cx (Pw (T6)):=⟨fun t=>by rw [hP,hel];exact Av An t,by rw [hgl];rfl⟩
 have hc0:Al cx (Pw (T6)):=Af rfl (Aa (A9 (by rw [hP,hel,hgl];exact F1) (by kernel_rfl)) (Aa (A9 (by rw [hP,hel,hgl];exact Bbf) (by kernel_rfl)) (Aa (A9 (by rw [hP,hel,hgl];exact Hi) (by kernel_rfl)) (Aa (A9 (by rw [hP,hel,hgl];exact J2) (by kernel_rfl)) (Aa (A9 (by rw [hP,hel,hgl];exact Aq8) (by kernel_rfl)) Aj)))))
 have hq0:CallQOk cx (Pw (T6)):=Ab rfl rfl Ah Ae
 exact⟨hp0,hc0,hq0,Ay⟩
def Ta:Aho→Option T6:=fun x=>Xb x
theorem A07:FnLn Tryz.prog elT glT 118 Wp Vq (Ta):=Ayk
def On:Sig:=⟨2,[],[(0,.ptr 0 0),(1,.ptr 1 0)],[(0,.cells [.sl .tok false,.int .i64,.bool,.int .i64]),(1,.cells [.int .i64,.str,.str,.sl .col true,.sl .str false,.sl .expr true,.sl .exprs true,.sl .set true,.bool,.int .i64,.int .i64,.int .i64,.str,.str,.sl .expr false,.sl .str true,.sl .bool true,.int .i64])],2,2,0,[],[]⟩
def Oh:Sig:=⟨0,[],[],[(0,.cells [.sl .tok false,.int .i64,.bool,.int .i64]),(1,.cells [.int .i64,.str,.str,.sl .col true,.sl .str false,.sl .expr true,.sl .exprs true,.sl .set true,.bool,.int .i64,.int .i64,.int .i64,.str,.str,.sl .expr false,.sl .str true,.sl .bool true,.int .i64])],2,2,0,[],[]⟩
abbrev Amy:=List Tok×Int×Bool×Int×Int×Str×Str×List Col×List Str×List Xpr×List (List Xpr)×List SetE×Bool×Int×Int×Int×Str×Str×List Xpr×List Str×List Bool×Int
abbrev X1:=List Tok×Int×Bool×Int×Int×Str×Str×List Col×List Str×List Xpr×List (List Xpr)×List SetE×Bool×Int×Int×Int×Str×Str×List Xpr×List Str×List Bool×Int
def T4(R:Type):Px R:=⟨Bd ttL,glT,Au [(117,Aq Ew Ev A5),(90,Aq C8 C9 Gk)],Am [],Aw [],tbl []⟩
def Nu(x:Amy):Option (X1):=match x with
 |(l,n,b,p,sk,sn,so,sc,ss,sl,sr,st,sh,wk,vk,vn,vs,wn,wl,sd,se,sm) =>
 let j:=fun(p2:Bool) (q4:List Tok) (q5:Int) (q6:Bool) (q7:Int) =>
  cond (p2) (
  (Gk (q4,q5,q6,q7)).bind fun(x5,x6,x7,x8,x9) =>
   some (x6,x7,x8,x9,sk,sn,so,sc,ss,sl,sr,st,true,x5.kind,x5.v.kind,x5.v.n,x5.v.s,x5.name,x5.l,sd,se,sm)) (
  some (q4,q5,q6,q7,sk,sn,so,sc,ss,sl,sr,st,sh,wk,vk,vn,vs,wn,wl,sd,se,sm))
 cond (!b) (
  (A5 ([87,72,69,82,69],l,n,b,p)).bind fun(x,x1,x2,x3,x4) =>
  j x x1 x2 x3 x4) (
  j false l n b p)
theorem Bah:∀(x:Amy),Du (T4 _) Tryz.f125 On Oh x some=Nu x
 |(l,n,b,p,sk,sn,so,sc,ss,sl,sr,st,sh,wk,vk,vn,vs,wn,wl,sd,se,sm)=>by kernel_rfl
theorem A2t:FnLn Tryz.prog elT glT 125 On Oh (Nu):=by
 refine Bu Tryz.func125 rfl (by kernel_rfl) follows (by kernel_rfl) (n:=0) (by kernel_rfl) (px:=T4 _) (fun cx hP hel hgl =>?_) (Bah)
 have hp0:PxOk cx (T4 (X1)):=⟨fun t=>by rw [hP,hel];exact Av An t,by rw [hgl];rfl⟩
 have hc0:Al cx (T4 (X1)):=Af rfl (Aa (A9 (by rw [hP,hel,hgl];exact F1) (by kernel_rfl)) (Aa (A9 (by rw [hP,hel,hgl];exact Am2) (by kernel_rfl)) Aj))
 have hq0:CallQOk cx (T4 (X1)):=Ab rfl rfl Ah Ae
 exact⟨hp0,hc0,hq0,Ay⟩
def C4:Amy→Option X1:=fun x=>Nu x
theorem Aig:FnLn Tryz.prog elT glT 125 On Oh (C4):=A2t
def Pu:Sig:=⟨2,[],[(0,.ptr 0 0),(1,.ptr 1 0)],[(0,.cells [.sl .tok false,.int .i64,.bool,.int .i64]),(1,.cells [.int .i64,.str,.str,.sl .col true,.sl .str false,.sl .expr true,.sl .exprs true,.sl .set true,.bool,.int .i64,.int .i64,.int .i64,.str,.str,.sl .expr false,.sl .str true,.sl .bool true,.int .i64])],2,2,0,[],[]⟩
def Pl:Sig:=⟨0,[],[],[(0,.cells [.sl .tok false,.int .i64,.bool,.int .i64]),(1,.cells [.int .i64,.str,.str,.sl .col true,.sl .str false,.sl .expr true,.sl .exprs true,.sl .set true,.bool,.int .i64,.int .i64,.int .i64,.str,.str,.sl .expr false,.sl .str true,.sl .bool true,.int .i64])],2,2,0,[],[]⟩
abbrev Aiq:=List Tok×Int×Bool×Int×Int×Str×Str×List Col×List Str×List Xpr×List (List Xpr)×List SetE×Bool×Int×Int×Int×Str×Str×List Xpr×List Str×List Bool×Int
abbrev Dv:=List Tok×Int×Bool×Int×Int×Str×Str×List Col×List Str×List Xpr×List (List Xpr)×List SetE×Bool×Int×Int×Int×Str×Str×List Xpr×List Str×List Bool×Int
def We:Sig:=⟨19,[],[(0,.ptr 0 0),(1,.fn 163 [.ptr 2 0,.ptr 3 0])],[(0,.cells [.sl .tok false,.int .i64,.bool,.int .i64]),(1,.cells [.int .i64,.str,.str,.sl .col true,.sl .str false,.sl .expr true,.sl .exprs true,.sl .set true,.bool,.int .i64,.int .i64,.int .i64,.str,.str,.sl .expr false,.sl .str true,.sl .bool true,.int .i64]),(2,.fx [.ptr 0 0]),(3,.fx [.ptr 1 0])],80,80,400,[],[]⟩
abbrev Cu:=List Tok×Int×Bool×Int×Int×Str×Str×List Col×List Str×List Xpr×List (List Xpr)×List SetE×Bool×Int×Int×Int×Str×Str×List Xpr×List Str×List Bool×Int
def Dy{R:Type}(rec:Cu→Option R) (kx:Ex→Cu→Option R) (v:Cu):Option R:=match v with
 |(w,w1,w2,w3,w4,w5,w6,w7,w8,w9,w10,w11,w12,w13,w14,w15,w16,w17,w18,w19,w20,w21) =>
 cond (!w2) (
  (A5 ([44],w,w1,w2,w3)).bind fun(x23,x24,x25,x26,x27) =>
  cond (x23) (
   (Bc (x24,x25,x26,x27)).bind fun(x28,x29,x30,x31,x32) =>
   (Ao ([[61]],x29,x30,x31,x32)).bind fun(x33,x34,x35,x36) =>
    (Gk (x33,x34,x35,x36)).bind fun(x37,x38,x39,x40,x41) =>
    chk (decide (w11.length+1≤A1)) (
     rec (x38,x39,x40,x41,w4,w5,w6,w7,w8,w9,w10,(w11++[(SetE.mk x28 (Ng x37))]),w12,w13,w14,w15,w16,w17,w18,w19,w20,w21))) (
   kx (.exit 0) (x24,x25,x26,x27,w4,w5,w6,w7,w8,w9,w10,w11,w12,w13,w14,w15,w16,w17,w18,w19,w20,w21))) (
  kx (.exit 0) (w,w1,w2,w3,w4,w5,w6,w7,w8,w9,w10,w11,w12,w13,w14,w15,w16,w17,w18,w19,w20,w21))
def Kg(R:Type) (_k:Nat):Px R:=⟨Bd ttL,glT,Au [(120,Aq Ge Gn Bc),(119,Aq Em Eo Ao),(90,Aq C8 C9 Gk)],Am [],Aw [],tbl []⟩
noncomputable def Hu (R:Type) (k:Nat):Px R:=⟨Bd ttL,glT,Au [(117,Aq Ew Ev A5),(163,Bg 120 600 (Kg R k) Tryz.f163)],Am [],Aw [(1,Be k We (Dy))],tbl []⟩
noncomputable def Ra (R:Type) (k:Nat):Px R:=⟨Bd ttL,glT,Au [(119,Aq Em Eo Ao),(125,Aq On Oh C4),(121,Bg 80 400 (Hu R k) Tryz.f121)],Am [],Aw [],tbl [(120,Fb Ge Gn Bc)]⟩
theorem As4(R:Type) (k:Nat):∀(fr:List Fr) (rec:Cu→Option R) (kx:Ex→Cu→Option R) (v:Cu),Bn (Hu R k) We (lp Tryz.f121 0) fr rec kx v=Dy rec kx v
 |fr,rec,kx,(w,w1,w2,w3,w4,w5,w6,w7,w8,w9,w10,w11,w12,w13,w14,w15,w16,w17,w18,w19,w20,w21)=>by kernel_rfl
def N5(k:Nat) (x:Aiq):Option (Dv):=match x with
 |(l,n,b,p,_,_,so,sc,ss,sl,sr,st,sh,wk,vk,vn,vs,wn,wl,sd,se,sm) =>
 (Bc (l,n,b,p)).bind fun(x,x1,x2,x3,x4) =>
  (Ao ([[83,69,84]],x1,x2,x3,x4)).bind fun(x5,x6,x7,x8) =>
  (Bc (x5,x6,x7,x8)).bind fun(x9,x10,x11,x12,x13) =>
   (Ao ([[61]],x10,x11,x12,x13)).bind fun(x14,x15,x16,x17) =>
   (Gk (x14,x15,x16,x17)).bind fun(x18,x19,x20,x21,x22) =>
    chk (decide (st.length+1≤A1)) (
    A0 (fun rec=>Dy rec (fun e vz=>match vz with|(v,v1,v2,v3,v4,v5,v6,v7,v8,v9,v10,v11,v12,v13,v14,v15,v16,v17,v18,v19,v20,v21)=>match e with
     |.exit 0 =>
     (C4 (v,v1,v2,v3,v4,v5,v6,v7,v8,v9,v10,v11,v12,v13,v14,v15,v16,v17,v18,v19,v20,v21)).bind fun(x42,x43,x44,x45,x46,x47,x48,x49,x50,x51,x52,x53,x54,x55,x56,x57,x58,x59,x60,x61,x62,x63) =>
      some (x42,x43,x44,x45,x46,x47,x48,x49,x50,x51,x52,x53,x54,x55,x56,x57,x58,x59,x60,x61,x62,x63)
     |_=>none)) k (x19,x20,x21,x22,6,x,so,sc,ss,sl,sr,(st++[(SetE.mk x9 (Ng x18))]),sh,wk,vk,vn,vs,wn,wl,sd,se,sm))
theorem A3d(k:Nat):∀(x:Aiq),Du (Ra _ k) Tryz.f124 Pu Pl x some=N5 k x
 |(l,n,b,p,sk,sn,so,sc,ss,sl,sr,st,sh,wk,vk,vn,vs,wn,wl,sd,se,sm)=>by kernel_rfl
theorem Auz(k:Nat):FnLn Tryz.prog elT glT 124 Pu Pl (N5 k):=by
 refine Bu Tryz.func124 rfl (by kernel_rfl) follows (by kernel_rfl) (n:=0) (by kernel_rfl) (px:=Ra _ k) (fun cx hP hel hgl =>?_) (A3d k)
 have hp2:PxOk cx (Kg (Dv) k):=⟨fun t=>by rw [hP,hel];exact Av An t,by rw [hgl];rfl⟩
 have hc2:Al cx (Kg (Dv) k):=Af rfl (Aa (A9 (by rw [hP,hel,hgl];exact J2) (by kernel_rfl)) (Aa (A9 (by rw [hP,hel,hgl];exact Hi) (by kernel_rfl)) (Aa (A9 (by rw [hP,hel,hgl];exact Am2) (by kernel_rfl)) Aj)))
 have hq2:CallQOk cx (Kg (Dv) k):=Ab rfl rfl Ah Ae
 have hp1:PxOk cx (Hu (Dv) k):=⟨fun t=>by rw [hP,hel];exact Av An t,by rw [hgl];rfl⟩
 have hc1:Al cx (Hu (Dv) k):=Af rfl (Aa (A9 (by rw [hP,hel,hgl];exact F1) (by kernel_rfl)) (Aa (Bv hp2 hc2 hq2 (by rw [hP];exact follows) (by rw [hP];exact Tryz.func163) rfl (by kernel_rfl) (by kernel_rfl) (n:=0) (by kernel_rfl) (Ay)) Aj))
 have hq1:CallQOk cx (Hu (Dv) k):=Ab rfl rfl Ah Ae
 have hlpupdate_0:A8 cx (Hu (Dv) k) (lp Tryz.f121 0):=Ba hp1 hc1 hq1 (by rw [hP];exact follows) (k:=k) (s:=We) (step:=Dy) (fun _ _=>by kernel_rfl) (by kernel_rfl) (As4 _ k) (Az (n:=0) (by kernel_rfl) Ay)
 have hp0:PxOk cx (Ra (Dv) k):=⟨fun t=>by rw [hP,hel];exact Av An t,by rw [hgl];rfl⟩
 have hc0:Al cx (Ra (Dv) k):=Af rfl (Aa (A9 (by rw [hP,hel,hgl];exact Hi) (by kernel_rfl)) (Aa (A9 (by rw [hP,hel,hgl];exact Aig) (by kernel_rfl)) (Aa (Bv hp1 hc1 hq1 (by rw [hP];exact follows) (by rw [hP];exact Tryz.func121) rfl (by kernel_rfl) (by kernel_rfl) (n:=1) (by kernel_rfl) ((Cj Ay hlpupdate_0))) Aj)))
 have hq0:CallQOk cx (Ra (Dv) k):=Ab rfl rfl Ah (Df (Pp (by rw [hP,hel,hgl];exact J2) (by kernel_rfl)) Ae)
 exact⟨hp0,hc0,hq0,Ay⟩
def Kx:Aiq→Option Dv:=fun x=>N5 ((x.1.length+3)) x
theorem Azj:FnLn Tryz.prog elT glT 124 Pu Pl (Kx):=FnLn.fin (ι:=Nat) (sg:=Pu) (so:=Pl) 0 (F:=fun k=>N5 k) (fun k=>Auz k) fun x _ _ hx=>⟨(x.1.length+3),hx⟩
end Go.Proofs.YthndhaolemgbdaaGreatDoor
namespace Go.Proofs.YthndhaolemgbdaaGreatDoor
open Go.Ax
def Nr:Sig:=⟨2,[],[(0,.ptr 0 0),(1,.ptr 1 0)],[(0,.cells [.sl .tok false,.int .i64,.bool,.int .i64]),(1,.cells [.int .i64,.str,.str,.sl .col true,.sl .str false,.sl .expr true,.sl .exprs true,.sl .set true,.bool,.int .i64,.int .i64,.int .i64,.str,.str,.sl .expr false,.sl .str true,.sl .bool true,.int .i64])],2,2,0,[],[]⟩
def Ny:Sig:=⟨0,[],[],[(0,.cells [.sl .tok false,.int .i64,.bool,.int .i64]),(1,.cells [.int .i64,.str,.str,.sl .col true,.sl .str false,.sl .expr true,.sl .exprs true,.sl .set true,.bool,.int .i64,.int .i64,.int .i64,.str,.str,.sl .expr false,.sl .str true,.sl .bool true,.int .i64])],2,2,0,[],[]⟩
abbrev Ac1:=List Tok×Int×Bool×Int×Int×Str×Str×List Col×List Str×List Xpr×List (List Xpr)×List SetE×Bool×Int×Int×Int×Str×Str×List Xpr×List Str×List Bool×Int
abbrev Cf:=List Tok×Int×Bool×Int×Int×Str×Str×List Col×List Str×List Xpr×List (List Xpr)×List SetE×Bool×Int×Int×Int×Str×Str×List Xpr×List Str×List Bool×Int
def Su:Sig:=⟨19,[],[(0,.ptr 0 0),(1,.fn 164 [.ptr 3 0,.ptr 2 0])],[(0,.cells [.sl .tok false,.int .i64,.bool,.int .i64]),(1,.cells [.int .i64,.str,.str,.sl .col true,.sl .str false,.sl .expr true,.sl .exprs true,.sl .set true,.bool,.int .i64,.int .i64,.int .i64,.str,.str,.sl .expr false,.sl .str true,.sl .bool true,.int .i64]),(2,.fx [.ptr 0 0]),(3,.fx [.ptr 1 0])],80,80,400,[],[]⟩
abbrev Cb:=List Tok×Int×Bool×Int×Int×Str×Str×List Col×List Str×List Xpr×List (List Xpr)×List SetE×Bool×Int×Int×Int×Str×Str×List Xpr×List Str×List Bool×Int
def B4{R:Type}(rec:Cb→Option R) (kx:Ex→Cb→Option R) (v:Cb):Option R:=match v with
 |(w,w1,w2,w3,w4,w5,w6,w7,w8,w9,w10,w11,w12,w13,w14,w15,w16,w17,w18,w19,w20,w21) =>
 cond (!w2) (
  (A5 ([44],w,w1,w2,w3)).bind fun(x90,x91,x92,x93,x94) =>
  cond (x90) (
   (Bc (x91,x92,x93,x94)).bind fun(x95,x96,x97,x98,x99) =>
   chk (decide (w19.length+1≤A1)) (
    cond (!x98) (
    (A5 ([68,69,83,67],x96,x97,x98,x99)).bind fun(x100,x101,x102,x103,x104) =>
     cond (!x103) (
     cond (!x100) (
      (A5 ([65,83,67],x101,x102,x103,x104)).bind fun(_,x121,x122,x123,x124) =>
      chk (decide (w20.length+1≤A1)) (
       rec (x121,x122,x123,x124,w4,w5,w6,w7,w8,w9,w10,w11,w12,w13,w14,w15,w16,w17,w18,(w19++[x95]),(w20++[x100]),w21))) (
      chk (decide (w20.length+1≤A1)) (
      rec (x101,x102,x103,x104,w4,w5,w6,w7,w8,w9,w10,w11,w12,w13,w14,w15,w16,w17,w18,(w19++[x95]),(w20++[x100]),w21)))) (
     chk (decide (w20.length+1≤A1)) (
      rec (x101,x102,x103,x104,w4,w5,w6,w7,w8,w9,w10,w11,w12,w13,w14,w15,w16,w17,w18,(w19++[x95]),(w20++[x100]),w21)))) (
    cond (!x98) (
     (A5 ([65,83,67],x96,x97,x98,x99)).bind fun(_,x131,x132,x133,x134) =>
     chk (decide (w20.length+1≤A1)) (
      rec (x131,x132,x133,x134,w4,w5,w6,w7,w8,w9,w10,w11,w12,w13,w14,w15,w16,w17,w18,(w19++[x95]),(w20++[false]),w21))) (
     chk (decide (w20.length+1≤A1)) (
     rec (x96,x97,x98,x99,w4,w5,w6,w7,w8,w9,w10,w11,w12,w13,w14,w15,w16,w17,w18,(w19++[x95]),(w20++[false]),w21)))))) (
   kx (.exit 0) (x91,x92,x93,x94,w4,w5,w6,w7,w8,w9,w10,w11,w12,w13,w14,w15,w16,w17,w18,w19,w20,w21))) (
  kx (.exit 0) (w,w1,w2,w3,w4,w5,w6,w7,w8,w9,w10,w11,w12,w13,w14,w15,w16,w17,w18,w19,w20,w21))
def Ib(R:Type) (_k:Nat):Px R:=⟨Bd ttL,glT,Au [(117,Aq Ew Ev A5)],Am [],Aw [],tbl [(120,Fb Ge Gn Bc)]⟩
noncomputable def Gu (R:Type) (k:Nat):Px R:=⟨Bd ttL,glT,Au [(117,Aq Ew Ev A5),(164,Bg 120 600 (Ib R k) Tryz.f164)],Am [],Aw [(1,Be k Su (B4))],tbl []⟩
noncomputable def Ns (R:Type) (k:Nat):Px R:=⟨Bd ttL,glT,Au [(117,Aq Ew Ev A5),(119,Aq Em Eo Ao),(125,Aq On Oh C4),(158,Aq Kv Kk Fe),(127,Aq Hq Hp C2),(121,Bg 80 400 (Gu R k) Tryz.f121)],Am [],Aw [],tbl [(123,Fb Ou Om Ds),(120,Fb Ge Gn Bc),(159,Fb Nd Nk C0)]⟩
theorem Aox(R:Type) (k:Nat):∀(fr:List Fr) (rec:Cb→Option R) (kx:Ex→Cb→Option R) (v:Cb),Bn (Gu R k) Su (lp Tryz.f121 0) fr rec kx v=B4 rec kx v
 |fr,rec,kx,(w,w1,w2,w3,w4,w5,w6,w7,w8,w9,w10,w11,w12,w13,w14,w15,w16,w17,w18,w19,w20,w21)=>by kernel_rfl
def Mo(k:Nat) (x:Ac1):Option (Cf):=match x with
 |(l,n,b,p,_,_,so,sc,ss,sl,sr,st,sh,wk,vk,vn,vs,wn,wl,sd,se,_) =>
 let j3:=fun(q:List Tok) (q1:Int) (q2:Bool) (q3:Int) (q4:List Xpr) =>
  (Ao ([[70,82,79,77]],q,q1,q2,q3)).bind fun(x10,x11,x12,x13) =>
  (Bc (x10,x11,x12,x13)).bind fun(x14,x15,x16,x17,x18) =>
   (C4 (x15,x16,x17,x18,8,x14,so,sc,ss,q4,sr,st,sh,wk,vk,vn,vs,wn,wl,sd,se,(-1))).bind fun(x19,x20,x21,x22,x23,x24,x25,x26,x27,x28,x29,x30,x31,x32,x33,x34,x35,x36,x37,x38,x39,x40) =>
   let j2:=fun(q161:List Tok) (q162:Int) (q163:Bool) (q164:Int) (q165:Int) (q166:Str) (q167:Str) (q168:List Col) (q169:List Str) (q170:List Xpr) (q171:List (List Xpr)) (q172:List SetE) (q173:Bool) (q174:Int) (q175:Int) (q176:Int) (q177:Str) (q178:Str) (q179:List Xpr) (q180:List Str) (q181:List Bool) (q182:Int) =>
    cond (!q163) (
    (A5 ([76,73,77,73,84],q161,q162,q163,q164)).bind fun(x179,x180,x181,x182,x183) =>
     cond (x179) (
     (Fe (x180,x181,x182,x183)).bind fun(x208,x209,x210,x211,x212) =>
      cond (!decide (x208.kind=3)) (
      (C2 (x209,x210,x211,x212)).bind fun(x213,x214,x215,x216) =>
       (C0 (x213,x214,x215,x216)).bind fun(x222,x223,x224,x225,x226) =>
       some (x223,x224,x225,x226,q165,q166,q167,q168,q169,q170,q171,q172,q173,q174,q175,q176,q177,q178,q179,q180,q181,x222.n)) (
      (C0 (x209,x210,x211,x212)).bind fun(x227,x228,x229,x230,x231) =>
       some (x228,x229,x230,x231,q165,q166,q167,q168,q169,q170,q171,q172,q173,q174,q175,q176,q177,q178,q179,q180,q181,x227.n))) (
     some (x180,x181,x182,x183,q165,q166,q167,q168,q169,q170,q171,q172,q173,q174,q175,q176,q177,q178,q179,q180,q181,q182))) (
    some (q161,q162,q163,q164,q165,q166,q167,q168,q169,q170,q171,q172,q173,q174,q175,q176,q177,q178,q179,q180,q181,q182))
   cond (!x21) (
    (A5 ([79,82,68,69,82],x19,x20,x21,x22)).bind fun(x41,x42,x43,x44,x45) =>
    cond (x41) (
     (Ao ([[66,89]],x42,x43,x44,x45)).bind fun(x135,x136,x137,x138) =>
     (Bc (x135,x136,x137,x138)).bind fun(x139,x140,x141,x142,x143) =>
      let j1:=fun(q156:List Tok) (q157:Int) (q158:Bool) (q159:Int) (q160:List Bool) =>
      A0 (fun rec=>B4 rec (fun e vz=>match vz with|(v22,v23,v24,v25,v26,v27,v28,v29,v30,v31,v32,v33,v34,v35,v36,v37,v38,v39,v40,v41,v42,v43)=>match e with
       |.exit 0 =>
       j2 v22 v23 v24 v25 v26 v27 v28 v29 v30 v31 v32 v33 v34 v35 v36 v37 v38 v39 v40 v41 v42 v43
       |_=>none)) k (q156,q157,q158,q159,x23,x24,x25,x26,x27,x28,x29,x30,x31,x32,x33,x34,x35,x36,x37,(x38++[x139]),q160,x40)
      chk (decide (x38.length+1≤A1)) (
      cond (!x142) (
       (A5 ([68,69,83,67],x140,x141,x142,x143)).bind fun(x144,x145,x146,x147,x148) =>
       cond (!x147) (
        cond (!x144) (
        (A5 ([65,83,67],x145,x146,x147,x148)).bind fun(_,x165,x166,x167,x168) =>
         chk (decide (x39.length+1≤A1)) (
         j1 x165 x166 x167 x168 (x39++[x144]))) (
        chk (decide (x39.length+1≤A1)) (
         j1 x145 x146 x147 x148 (x39++[x144])))) (
        chk (decide (x39.length+1≤A1)) (
        j1 x145 x146 x147 x148 (x39++[x144])))) (
       cond (!x142) (
       (A5 ([65,83,67],x140,x141,x142,x143)).bind fun(_,x175,x176,x177,x178) =>
        chk (decide (x39.length+1≤A1)) (
        j1 x175 x176 x177 x178 (x39++[false]))) (
       chk (decide (x39.length+1≤A1)) (
        j1 x140 x141 x142 x143 (x39++[false])))))) (
     j2 x42 x43 x44 x45 x23 x24 x25 x26 x27 x28 x29 x30 x31 x32 x33 x34 x35 x36 x37 x38 x39 x40)) (
    j2 x19 x20 x21 x22 x23 x24 x25 x26 x27 x28 x29 x30 x31 x32 x33 x34 x35 x36 x37 x38 x39 x40)
 (A5 ([42],l,n,b,p)).bind fun(x,x1,x2,x3,x4) =>
  cond (!x) (
  (Ds (x1,x2,x3,x4)).bind fun(x5,x6,x7,x8,x9) =>
   j3 x6 x7 x8 x9 x5) (
  j3 x1 x2 x3 x4 sl)
theorem Aup(k:Nat):∀(x:Ac1),Du (Ns _ k) Tryz.f126 Nr Ny x some=Mo k x
 |(l,n,b,p,sk,sn,so,sc,ss,sl,sr,st,sh,wk,vk,vn,vs,wn,wl,sd,se,sm)=>by kernel_rfl
theorem Arq(k:Nat):FnLn Tryz.prog elT glT 126 Nr Ny (Mo k):=by
 refine Bu Tryz.func126 rfl (by kernel_rfl) follows (by kernel_rfl) (n:=0) (by kernel_rfl) (px:=Ns _ k) (fun cx hP hel hgl =>?_) (Aup k)
 have hp2:PxOk cx (Ib (Cf) k):=⟨fun t=>by rw [hP,hel];exact Av An t,by rw [hgl];rfl⟩
 have hc2:Al cx (Ib (Cf) k):=Af rfl (Aa (A9 (by rw [hP,hel,hgl];exact F1) (by kernel_rfl)) Aj)
 have hq2:CallQOk cx (Ib (Cf) k):=Ab rfl rfl Ah (Df (Pp (by rw [hP,hel,hgl];exact J2) (by kernel_rfl)) Ae)
 have hp1:PxOk cx (Gu (Cf) k):=⟨fun t=>by rw [hP,hel];exact Av An t,by rw [hgl];rfl⟩
 have hc1:Al cx (Gu (Cf) k):=Af rfl (Aa (A9 (by rw [hP,hel,hgl];exact F1) (by kernel_rfl)) (Aa (Bv hp2 hc2 hq2 (by rw [hP];exact follows) (by rw [hP];exact Tryz.func164) rfl (by kernel_rfl) (by kernel_rfl) (n:=0) (by kernel_rfl) (Ay)) Aj))
 have hq1:CallQOk cx (Gu (Cf) k):=Ab rfl rfl Ah Ae
 have hlpselects_0:A8 cx (Gu (Cf) k) (lp Tryz.f121 0):=Ba hp1 hc1 hq1 (by rw [hP];exact follows) (k:=k) (s:=Su) (step:=B4) (fun _ _=>by kernel_rfl) (by kernel_rfl) (Aox _ k) (Az (n:=0) (by kernel_rfl) Ay)
 have hp0:PxOk cx (Ns (Cf) k):=⟨fun t=>by rw [hP,hel];exact Av An t,by rw [hgl];rfl⟩
 have hc0:Al cx (Ns (Cf) k):=Af rfl (Aa (A9 (by rw [hP,hel,hgl];exact F1) (by kernel_rfl)) (Aa (A9 (by rw [hP,hel,hgl];exact Hi) (by kernel_rfl)) (Aa (A9 (by rw [hP,hel,hgl];exact Aig) (by kernel_rfl)) (Aa (A9 (by rw [hP,hel,hgl];exact Uf) (by kernel_rfl)) (Aa (A9 (by rw [hP,hel,hgl];exact Oq) (by kernel_rfl)) (Aa (Bv hp1 hc1 hq1 (by rw [hP];exact follows) (by rw [hP];exact Tryz.func121) rfl (by kernel_rfl) (by kernel_rfl) (n:=1) (by kernel_rfl) ((Cj Ay hlpselects_0))) Aj))))))
 have hq0:CallQOk cx (Ns (Cf) k):=Ab rfl rfl Ah (Df (Pp (by rw [hP,hel,hgl];exact Ape) (by kernel_rfl)) (Df (Pp (by rw [hP,hel,hgl];exact J2) (by kernel_rfl)) (Df (Pp (by rw [hP,hel,hgl];exact Y2) (by kernel_rfl)) Ae)))
 exact⟨hp0,hc0,hq0,Ay⟩
def I5:Ac1→Option Cf:=fun x=>Mo ((x.1.length+3)) x
theorem Awg:FnLn Tryz.prog elT glT 126 Nr Ny (I5):=FnLn.fin (ι:=Nat) (sg:=Nr) (so:=Ny) 0 (F:=fun k=>Mo k) (fun k=>Arq k) fun x _ _ hx=>⟨(x.1.length+3),hx⟩
def Zu:Sig:=⟨1,[],[(0,.ptr 0 0)],[(0,.cells [.sl .tok false,.int .i64,.bool,.int .i64])],1,1,0,[],[]⟩
def X3:Sig:=⟨1,[(0,.sv .stmt)],[],[(0,.cells [.sl .tok false,.int .i64,.bool,.int .i64])],1,1,0,[],[]⟩
abbrev Asd:=List Tok×Int×Bool×Int
abbrev Fx:=Stm×List Tok×Int×Bool×Int
def Adw:Sig:=⟨19,[],[(0,.ptr 0 0),(1,.fn 122 [.ptr 1 0,.ptr 3 0])],[(0,.cells [.sl .tok false,.int .i64,.bool,.int .i64]),(1,.fx [.ptr 0 0]),(2,.one (.sv .stmt)),(3,.cells [.int .i64,.str,.str,.sl .col true,.sl .str true,.sl .expr true,.sl .exprs true,.sl .set true,.bool,.int .i64,.int .i64,.int .i64,.str,.str,.sl .expr true,.sl .str true,.sl .bool true,.int .i64])],80,80,400,[],[]⟩
abbrev E9:=List Tok×Int×Bool×Int×Stm×Int×Str×Str×List Col×List Str×List Xpr×List (List Xpr)×List SetE×Bool×Int×Int×Int×Str×Str×List Xpr×List Str×List Bool×Int
def Gb{R:Type}(rec:E9→Option R) (kx:Ex→E9→Option R) (v:E9):Option R:=match v with
 |(w,w1,w2,w3,w4,w5,w6,w7,w8,w9,w10,w11,w12,w13,w14,w15,w16,w17,w18,w19,w20,w21,w22) =>
 cond (!w2) (
  (A5 ([44],w,w1,w2,w3)).bind fun(x87,x88,x89,x90,x91) =>
  cond (x87) (
   (Ao ([[40]],x88,x89,x90,x91)).bind fun(x92,x93,x94,x95) =>
   (Ds (x92,x93,x94,x95)).bind fun(x96,x97,x98,x99,x100) =>
    chk (decide (w11.length+1≤A1)) (
    (Ao ([[41]],x97,x98,x99,x100)).bind fun(x101,x102,x103,x104) =>
     rec (x101,x102,x103,x104,w4,w5,w6,w7,w8,w9,w10,(w11++[x96]),w12,w13,w14,w15,w16,w17,w18,w19,w20,w21,w22))) (
   kx (.exit 0) (x88,x89,x90,x91,w4,w5,w6,w7,w8,w9,w10,w11,w12,w13,w14,w15,w16,w17,w18,w19,w20,w21,w22))) (
  kx (.exit 0) (w,w1,w2,w3,w4,w5,w6,w7,w8,w9,w10,w11,w12,w13,w14,w15,w16,w17,w18,w19,w20,w21,w22))
def Ob(R:Type) (_k:Nat):Px R:=⟨Bd ttL,glT,Au [(119,Aq Em Eo Ao)],Am [],Aw [],tbl [(123,Fb Ou Om Ds)]⟩
noncomputable def L8 (R:Type) (k:Nat):Px R:=⟨Bd ttL,glT,Au [(117,Aq Ew Ev A5),(122,Bg 120 600 (Ob R k) Tryz.f122)],Am [],Aw [(1,Be k Adw (Gb))],tbl []⟩
noncomputable def Zk (R:Type) (k:Nat):Px R:=⟨Bd ttL,glT,Au [(117,Aq Ew Ev A5),(118,Aq Wp Vq Ta),(119,Aq Em Eo Ao),(120,Aq Ge Gn Bc),(124,Aq Pu Pl Kx),(125,Aq On Oh C4),(126,Aq Nr Ny I5),(127,Aq Hq Hp C2),(121,Bg 80 400 (L8 R k) Tryz.f121)],Am [],Aw [],tbl []⟩
theorem Azf(R:Type) (k:Nat):∀(fr:List Fr) (rec:E9→Option R) (kx:Ex→E9→Option R) (v:E9),Bn (L8 R k) Adw (lp Tryz.f121 0) fr rec kx v=Gb rec kx v
 |fr,rec,kx,(w,w1,w2,w3,w4,w5,w6,w7,w8,w9,w10,w11,w12,w13,w14,w15,w16,w17,w18,w19,w20,w21,w22)=>by kernel_rfl
def V4(k:Nat) (x:Asd):Option (Fx):=match x with
 |(l,n,b,p) =>
 (A5 ([67,82,69,65,84,69],l,n,b,p)).bind fun(x,x1,x2,x3,x4) =>
  cond (x) (
  (Ta (x1,x2,x3,x4,0,[],[],[],[],[],[],[],false,0,0,0,[],[],[],[],[],0)).bind fun(x5,x6,x7,x8,x9,x10,x11,x12,x13,x14,x15,x16,x17,x18,x19,x20,x21,x22,x23,x24,x25,x26) =>
   cond (!x7) (
   (A5 ([59],x5,x6,x7,x8)).bind fun(_,x200,x201,x202,x203) =>
    some ((Stm.mk x9 x10 x11 x12 x13 x14 x15 x16 x17 (Xpr.mk x18 ⟨x19,x20,x21⟩ x22 x23) x24 x25 x26),x200,x201,x202,x203)) (
   some ((Stm.mk x9 x10 x11 x12 x13 x14 x15 x16 x17 (Xpr.mk x18 ⟨x19,x20,x21⟩ x22 x23) x24 x25 x26),x5,x6,x7,x8))) (
  (A5 ([68,82,79,80],x1,x2,x3,x4)).bind fun(x27,x28,x29,x30,x31) =>
   cond (x27) (
   (A5 ([84,65,66,76,69],x28,x29,x30,x31)).bind fun(x32,x33,x34,x35,x36) =>
    cond (!x32) (
    (Ao ([[73,78,68,69,88]],x33,x34,x35,x36)).bind fun(x37,x38,x39,x40) =>
     (Bc (x37,x38,x39,x40)).bind fun(x46,x47,x48,x49,x50) =>
     cond (!x49) (
      (A5 ([59],x47,x48,x49,x50)).bind fun(_,x205,x206,x207,x208) =>
      some ((Stm.mk 4 x46 [] [] [] [] [] [] false (Xpr.mk 0 ⟨0,0,[]⟩ [] []) [] [] 0),x205,x206,x207,x208)) (
      some ((Stm.mk 4 x46 [] [] [] [] [] [] false (Xpr.mk 0 ⟨0,0,[]⟩ [] []) [] [] 0),x47,x48,x49,x50))) (
    (Bc (x33,x34,x35,x36)).bind fun(x51,x52,x53,x54,x55) =>
     cond (!x54) (
     (A5 ([59],x52,x53,x54,x55)).bind fun(_,x210,x211,x212,x213) =>
      some ((Stm.mk 2 x51 [] [] [] [] [] [] false (Xpr.mk 0 ⟨0,0,[]⟩ [] []) [] [] 0),x210,x211,x212,x213)) (
     some ((Stm.mk 2 x51 [] [] [] [] [] [] false (Xpr.mk 0 ⟨0,0,[]⟩ [] []) [] [] 0),x52,x53,x54,x55)))) (
   (A5 ([73,78,83,69,82,84],x28,x29,x30,x31)).bind fun(x56,x57,x58,x59,x60) =>
    cond (x56) (
    (Ao ([[73,78,84,79]],x57,x58,x59,x60)).bind fun(x61,x62,x63,x64) =>
     (Bc (x61,x62,x63,x64)).bind fun(x65,x66,x67,x68,x69) =>
     (Ao ([[86,65,76,85,69,83]],x66,x67,x68,x69)).bind fun(x70,x71,x72,x73) =>
      (Ao ([[40]],x70,x71,x72,x73)).bind fun(x74,x75,x76,x77) =>
      (Ds (x74,x75,x76,x77)).bind fun(x78,x79,x80,x81,x82) =>
       (Ao ([[41]],x79,x80,x81,x82)).bind fun(x83,x84,x85,x86) =>
       A0 (fun rec=>Gb rec (fun e vz=>match vz with|(v,v1,v2,v3,_,v5,v6,v7,v8,v9,v10,v11,v12,v13,v14,v15,v16,v17,v18,v19,v20,v21,v22)=>match e with
        |.exit 0 =>
        cond (!v2) (
         (A5 ([59],v,v1,v2,v3)).bind fun(_,x215,x216,x217,x218) =>
         some ((Stm.mk v5 v6 v7 v8 v9 v10 v11 v12 v13 (Xpr.mk v14 ⟨v15,v16,v17⟩ v18 v19) v20 v21 v22),x215,x216,x217,x218)) (
         some ((Stm.mk v5 v6 v7 v8 v9 v10 v11 v12 v13 (Xpr.mk v14 ⟨v15,v16,v17⟩ v18 v19) v20 v21 v22),v,v1,v2,v3))
        |_=>none)) k (x83,x84,x85,x86,(Stm.mk 0 [] [] [] [] [] [] [] false (Xpr.mk 0 ⟨0,0,[]⟩ [] []) [] [] 0),5,x65,[],[],[],[],[x78],[],false,0,0,0,[],[],[],[],[],0)) (
    (A5 ([85,80,68,65,84,69],x57,x58,x59,x60)).bind fun(x105,x106,x107,x108,x109) =>
     cond (x105) (
     (Kx (x106,x107,x108,x109,0,[],[],[],[],[],[],[],false,0,0,0,[],[],[],[],[],0)).bind fun(x110,x111,x112,x113,x114,x115,x116,x117,x118,x119,x120,x121,x122,x123,x124,x125,x126,x127,x128,x129,x130,x131) =>
      cond (!x112) (
      (A5 ([59],x110,x111,x112,x113)).bind fun(_,x220,x221,x222,x223) =>
       some ((Stm.mk x114 x115 x116 x117 x118 x119 x120 x121 x122 (Xpr.mk x123 ⟨x124,x125,x126⟩ x127 x128) x129 x130 x131),x220,x221,x222,x223)) (
      some ((Stm.mk x114 x115 x116 x117 x118 x119 x120 x121 x122 (Xpr.mk x123 ⟨x124,x125,x126⟩ x127 x128) x129 x130 x131),x110,x111,x112,x113))) (
     (A5 ([68,69,76,69,84,69],x106,x107,x108,x109)).bind fun(x132,x133,x134,x135,x136) =>
      cond (x132) (
      (Ao ([[70,82,79,77]],x133,x134,x135,x136)).bind fun(x137,x138,x139,x140) =>
       (Bc (x137,x138,x139,x140)).bind fun(x141,x142,x143,x144,x145) =>
       (C4 (x142,x143,x144,x145,7,x141,[],[],[],[],[],[],false,0,0,0,[],[],[],[],[],0)).bind fun(x146,x147,x148,x149,x150,x151,x152,x153,x154,x155,x156,x157,x158,x159,x160,x161,x162,x163,x164,x165,x166,x167) =>
        cond (!x148) (
        (A5 ([59],x146,x147,x148,x149)).bind fun(_,x225,x226,x227,x228) =>
         some ((Stm.mk x150 x151 x152 x153 x154 x155 x156 x157 x158 (Xpr.mk x159 ⟨x160,x161,x162⟩ x163 x164) x165 x166 x167),x225,x226,x227,x228)) (
        some ((Stm.mk x150 x151 x152 x153 x154 x155 x156 x157 x158 (Xpr.mk x159 ⟨x160,x161,x162⟩ x163 x164) x165 x166 x167),x146,x147,x148,x149))) (
      (A5 ([83,69,76,69,67,84],x133,x134,x135,x136)).bind fun(x168,x169,x170,x171,x172) =>
       cond (x168) (
       (I5 (x169,x170,x171,x172,0,[],[],[],[],[],[],[],false,0,0,0,[],[],[],[],[],0)).bind fun(x173,x174,x175,x176,x177,x178,x179,x180,x181,x182,x183,x184,x185,x186,x187,x188,x189,x190,x191,x192,x193,x194) =>
        cond (!x175) (
        (A5 ([59],x173,x174,x175,x176)).bind fun(_,x230,x231,x232,x233) =>
         some ((Stm.mk x177 x178 x179 x180 x181 x182 x183 x184 x185 (Xpr.mk x186 ⟨x187,x188,x189⟩ x190 x191) x192 x193 x194),x230,x231,x232,x233)) (
        some ((Stm.mk x177 x178 x179 x180 x181 x182 x183 x184 x185 (Xpr.mk x186 ⟨x187,x188,x189⟩ x190 x191) x192 x193 x194),x173,x174,x175,x176))) (
       (C2 (x169,x170,x171,x172)).bind fun(x195,x196,x197,x198) =>
        cond (!x197) (
        (A5 ([59],x195,x196,x197,x198)).bind fun(_,x235,x236,x237,x238) =>
         some ((Stm.mk 0 [] [] [] [] [] [] [] false (Xpr.mk 0 ⟨0,0,[]⟩ [] []) [] [] 0),x235,x236,x237,x238)) (
        some ((Stm.mk 0 [] [] [] [] [] [] [] false (Xpr.mk 0 ⟨0,0,[]⟩ [] []) [] [] 0),x195,x196,x197,x198))))))))
theorem Bhr(k:Nat):∀(x:Asd),Du (Zk _ k) Tryz.f85 Zu X3 x some=V4 k x
 |(l,n,b,p)=>by kernel_rfl
theorem Ba7(k:Nat):FnLn Tryz.prog elT glT 85 Zu X3 (V4 k):=by
 refine Bu Tryz.func85 rfl (by kernel_rfl) follows (by kernel_rfl) (n:=0) (by kernel_rfl) (px:=Zk _ k) (fun cx hP hel hgl =>?_) (Bhr k)
 have hp2:PxOk cx (Ob (Fx) k):=⟨fun t=>by rw [hP,hel];exact Av An t,by rw [hgl];rfl⟩
 have hc2:Al cx (Ob (Fx) k):=Af rfl (Aa (A9 (by rw [hP,hel,hgl];exact Hi) (by kernel_rfl)) Aj)
 have hq2:CallQOk cx (Ob (Fx) k):=Ab rfl rfl Ah (Df (Pp (by rw [hP,hel,hgl];exact Ape) (by kernel_rfl)) Ae)
 have hp1:PxOk cx (L8 (Fx) k):=⟨fun t=>by rw [hP,hel];exact Av An t,by rw [hgl];rfl⟩
 have hc1:Al cx (L8 (Fx) k):=Af rfl (Aa (A9 (by rw [hP,hel,hgl];exact F1) (by kernel_rfl)) (Aa (Bv hp2 hc2 hq2 (by rw [hP];exact follows) (by rw [hP];exact Tryz.func122) rfl (by kernel_rfl) (by kernel_rfl) (n:=0) (by kernel_rfl) (Ay)) Aj))
 have hq1:CallQOk cx (L8 (Fx) k):=Ab rfl rfl Ah Ae
 have hlpstmt_0:A8 cx (L8 (Fx) k) (lp Tryz.f121 0):=Ba hp1 hc1 hq1 (by rw [hP];exact follows) (k:=k) (s:=Adw) (step:=Gb) (fun _ _=>by kernel_rfl) (by kernel_rfl) (Azf _ k) (Az (n:=0) (by kernel_rfl) Ay)
 have hp0:PxOk cx (Zk (Fx) k):=⟨fun t=>by rw [hP,hel];exact Av An t,by rw [hgl];rfl⟩
 have hc0:Al cx (Zk (Fx) k):=Af rfl (Aa (A9 (by rw [hP,hel,hgl];exact F1) (by kernel_rfl)) (Aa (A9 (by rw [hP,hel,hgl];exact A07) (by kernel_rfl)) (Aa (A9 (by rw [hP,hel,hgl];exact Hi) (by kernel_rfl)) (Aa (A9 (by rw [hP,hel,hgl];exact J2) (by kernel_rfl)) (Aa (A9 (by rw [hP,hel,hgl];exact Azj) (by kernel_rfl)) (Aa (A9 (by rw [hP,hel,hgl];exact Aig) (by kernel_rfl)) (Aa (A9 (by rw [hP,hel,hgl];exact Awg) (by kernel_rfl)) (Aa (A9 (by rw [hP,hel,hgl];exact Oq) (by kernel_rfl)) (Aa (Bv hp1 hc1 hq1 (by rw [hP];exact follows) (by rw [hP];exact Tryz.func121) rfl (by kernel_rfl) (by kernel_rfl) (n:=1) (by kernel_rfl) ((Cj Ay hlpstmt_0))) Aj)))))))))
 have hq0:CallQOk cx (Zk (Fx) k):=Ab rfl rfl Ah Ae
 exact⟨hp0,hc0,hq0,Ay⟩
def My:Asd→Option Fx:=fun x=>V4 ((x.1.length+3)) x
theorem Beo:FnLn Tryz.prog elT glT 85 Zu X3 (My):=FnLn.fin (ι:=Nat) (sg:=Zu) (so:=X3) 0 (F:=fun k=>V4 k) (fun k=>Ba7 k) fun x _ _ hx=>⟨(x.1.length+3),hx⟩
def Yu:Sig:=⟨1,[],[(0,.ptr 0 0)],[(0,.cells [.sl .tok false,.int .i64,.bool,.int .i64])],1,1,0,[],[]⟩
def Y3:Sig:=⟨1,[(0,.bool)],[],[(0,.cells [.sl .tok false,.int .i64,.bool,.int .i64])],1,1,0,[],[]⟩
abbrev Atl:=List Tok×Int×Bool×Int
abbrev Afj:=Bool×List Tok×Int×Bool×Int
def Aal(R:Type):Px R:=⟨Bd ttL,glT,Au [(127,Aq Hq Hp C2)],Am [],Aw [],tbl []⟩
def O5(x:Atl):Option (Afj):=match x with
 |(l,n,b,p) =>
 cond (decide (0<(l.length:Int))) (
  (C2 (l,n,b,p)).bind fun(x,x1,x2,x3) =>
  some (!x2,x,x1,x2,x3)) (
  some (!b,l,n,b,p))
theorem Be3:∀(x:Atl),Du (Aal _) Tryz.f86 Yu Y3 x some=O5 x
 |(l,n,b,p)=>by kernel_rfl
theorem A9q:FnLn Tryz.prog elT glT 86 Yu Y3 (O5):=by
 refine Bu Tryz.func86 rfl (by kernel_rfl) follows (by kernel_rfl) (n:=0) (by kernel_rfl) (px:=Aal _) (fun cx hP hel hgl =>?_) (Be3)
 have hp0:PxOk cx (Aal (Afj)):=⟨fun t=>by rw [hP,hel];exact Av An t,by rw [hgl];rfl⟩
 have hc0:Al cx (Aal (Afj)):=Af rfl (Aa (A9 (by rw [hP,hel,hgl];exact Oq) (by kernel_rfl)) Aj)
 have hq0:CallQOk cx (Aal (Afj)):=Ab rfl rfl Ah Ae
 exact⟨hp0,hc0,hq0,Ay⟩
def Mq:Atl→Option Afj:=fun x=>O5 x
theorem Ax7:FnLn Tryz.prog elT glT 86 Yu Y3 (Mq):=A9q
end Go.Proofs.YthndhaolemgbdaaGreatDoor
namespace Go.Proofs.YthndhaolemgbdaaGreatDoor
open Go.Ax
abbrev RS:=List Tok×Int×Bool×Int
def hdT(n:Int):TL→Tok
 |[]=>⟨0,n,[],0⟩
 |t::_=>t
theorem Bok(n:Int) (l:TL):(hdT n l).pos=Jz n l:=by cases l<;>rfl
theorem Wt(l:TL) (n:Int) (b:Bool) (p:Int):Fe (l,n,b,p)=some (hdT n l,l,n,b,p):=by
 cases l with
 |nil=>rfl
 |cons t r =>
  have e:decide (((t::r).length:Int)=0)=false:=Zd1 (by simp only [Zf1];omega)
  have h0:inb 0 (t::r).length=true:=Bl (i:=0) (by simp)
  simp only [Fe,Wa,e,Ak,h0,chk]
  rfl
theorem A40(l:TL) (n:Int) (b:Bool) (p:Int):C0 (l,n,b,p)=some (hdT n l,l.tail,n,b,p):=by
 simp only [C0,V2,Wt,Zc1]
 cases l with
 |nil=>rfl
 |cons t r =>
  have e:decide (0<((t::r).length:Int))=true:=Ze1 (by simp only [Zf1];omega)
  have h:H1 1 ((t::r).length:Int) (t::r).length=true:=by
   simp only [H1,Zb1,Zg1,Zf1]
   omega
  simp only [e,Ai,h,chk]
  rfl
theorem Asm(t:Tok) (r:TL) (n:Int) (b:Bool) (p:Int):Fe (t::r,n,b,p)=some (t,t::r,n,b,p):=Wt _ _ _ _
theorem As8(t:Tok) (r:TL) (n:Int) (b:Bool) (p:Int):C0 (t::r,n,b,p)=some (t,r,n,b,p):=A40 _ _ _ _
theorem Fv{s:Str}{l:TL}{n:Int}{b:Bool}{p:Int}(h:isT s l=true):A5 (s,l,n,b,p)=some (true,l.tail,n,b,p):=by
 cases l with
 |nil=>cases h
 |cons t r =>
  simp only [isT,Zb1] at h
  simp only [A5,Yg,Wt,A40,Zc1,hdT,h.2,Zt1,Ak]
  have h1:=h.1
  generalize decide (t.kind=1)=c1 at h1 ⊢
  generalize decide (t.kind=6)=c2 at h1 ⊢
  cases c1<;>cases c2<;>first|rfl|cases h1
theorem Fg{s:Str}{l:TL}{n:Int}{b:Bool}{p:Int}(h:isT s l=false):A5 (s,l,n,b,p)=some (false,l,n,b,p):=by
 simp only [A5,Yg,Wt,Zc1]
 cases l with
 |nil=>rfl
 |cons t r =>
  simp only [isT] at h
  simp only [hdT]
  by_cases h1:t.kind=1<;>by_cases h6:t.kind=6<;>by_cases h3:t.s=s<;>first|(exfalso;simp [h1,h6,h3] at h;done)|simp [h1,h6,h3]
theorem Ab1(l:TL) (n p:Int):C2 (l,n,false,p)=some (l,n,true,Jz n l):=by
 simp only [C2,Rj,Wt,Zc1,Bok,Zs1,Ai]
theorem Aey(l:TL) (n p:Int):C2 (l,n,true,p)=some (l,n,true,p):=rfl
theorem Ao9{R:Type}{kx:Ex→L0→Option R}{ss:List Str}{n:Int}{c:TL→Bool→Int→Option R}(hn:ln ss.length) (h1:∀i l b p,kx .ret (ss,(ss.length:Int),i,l,n,b,p)=c l b p) (h2:∀i l b p,kx (.exit 0) (ss,(ss.length:Int),i,l,n,b,p)=c l b p) (a:Int):∀(k i:Nat) (l:TL),i≤ss.length→ss.length-i<k →
  A0 (fun rec=>Ry rec kx) k (ss,(ss.length:Int),(i:Int),l,n,false,a)=match Bo (ss.drop i) l with
   |.ok (_,l')=>c l' false a
   |.error q=>c q true (Jz n q)
 |0,_,_,_,h=>absurd h (Zm1 _)
 |k+1,i,l,hi,h=>by
  rw [Br]
  by_cases hlt:i<ss.length
  ·have ih:=Ao9 hn h1 h2 a k (i+1) l.tail (by omega) (by omega)
   rw [Bb hlt]
   simp only [Ry,Gm hlt,Ai,Ak,Bl hlt,chk,Bk (c :=.str) hlt,Bf hlt hn,Bo]
   cases ht:isT ss[i] l with
   |true=>simp only [Fv ht,Zc1,Zt1,Ak,ih]
   |false=>simp only [Fg ht,Zc1,Zs1,Ai,Ab1,h1]
  ·obtain rfl:i=ss.length:=by omega
   simp only [Ry,Gh,Ak,h2,Zc2,Bo]
theorem Att{ss:List Str}(hs:ss.length≤100) (l:TL) (n a:Int):Ao (ss,l,n,false,a)=match Bo ss l with
  |.ok (_,l')=>some (l',n,false,a)
  |.error q=>some (q,n,true,Jz n q):=by
 simp only [Ao,L1]
 exact Ao9 (c:=fun l b p=>some (l,n,b,p)) (by simp only [ln];omega) (fun _ _ _ _=>rfl) (fun _ _ _ _=>rfl) a (ss.length+1) 0 l (Nat.zero_le _) (by omega)
theorem Abd{ss:List Str}(hs:ss.length≤100) {l l':TL}{x:Unit}(h:Bo ss l = .ok (x,l')) (n a:Int):Ao (ss,l,n,false,a)=some (l',n,false,a):=by rw [Att hs,h]
theorem Aa6{ss:List Str}(hs:ss.length≤100) {l q:TL}(h:Bo ss l = .error q) (n a:Int):Ao (ss,l,n,false,a)=some (q,n,true,Jz n q):=by rw [Att hs,h]
theorem W8(ss:List Str) (l:TL) (n a:Int):Ao (ss,l,n,true,a)=some (l,n,true,a):=by
 cases ss with
 |nil=>rfl
 |cons s r =>
  have e:decide ((0:Int)<((s::r).length:Int))=true:=Ze1 (by simp only [Zf1];omega)
  have h0:inb 0 (s::r).length=true:=Bl (i:=0) (by simp)
  simp only [Ao,L1,Br,Ry,e,Ai,h0,chk,Aey,Zc1]
theorem Ajb{s:Str}{l:TL}(h:isT s l=true):Bo [s] l = .ok ((),l.tail):=by simp only [Bo,h]
theorem Anj{s:Str}{l:TL}(h:isT s l=false):Bo [s] l = .error l:=by simp only [Bo,h]
structure SimP {α:Type}(F:RS→Option (α×RS)) (p:TL→PR α) (L:Nat):Prop where
 ok:∀l n a e l',l.length<L→p l = .ok (e,l')→F (l,n,false,a)=some (e,l',n,false,a)
 er:∀l n a q,l.length<L→p l = .error q→∃e l',F (l,n,false,a)=some (e,l',n,true,Jz n q)
 bad:∀l n a,∃e,F (l,n,true,a)=some (e,l,n,true,a)
theorem Dd(L:Nat):SimP Bc Cq L where
 ok l n a e l' _ h:=by
  cases l with
  |nil=>cases h
  |cons t r =>
   simp only [Bc,Mf,Asm,As8,Zc1,Ak]
   simp only [Cq] at h
   cases hk:decide (t.kind=2) with
   |true=>rw [hk] at h;cases h;rfl
   |false=>rw [hk] at h;cases h
 er l n a q _ h:=by
  cases l with
  |nil=>cases h;exact⟨_,_,rfl⟩
  |cons t r =>
   simp only [Bc,Mf,Asm,Ab1,Zc1,Ak]
   simp only [Cq] at h
   cases hk:decide (t.kind=2) with
   |true=>rw [hk] at h;cases h
   |false=>rw [hk] at h;cases h;exact⟨_,_,rfl⟩
 bad l n a:=by
  simp only [Bc,Mf,Wt,Aey,Zc1,Ai]
  exact⟨_,rfl⟩
theorem A4i(rf:A6→Option A4) (t:Tok) (r:TL) (n a:Int):Hf rf (t::r,n,false,a)=match Bbb t with
  |some v=>some (v,r,n,false,a)
  |none=>(Ao ([[40]],t::r,n,false,a)).bind fun(x1,x2,x3,x4)=>(rf (x1,x2,x3,x4)).bind fun(e,y1,y2,y3,y4)=>(Ao ([[41]],y1,y2,y3,y4)).bind fun(z1,z2,z3,z4)=>some (e,z1,z2,z3,z4):=by
 simp only [Hf,M8,Asm,As8,Zc1,Ak]
 unfold Bbb
 by_cases h2:t.kind=2
 ·rw [Ze1 h2,if_pos h2];rfl
 rw [Zd1 h2,if_neg h2,Ak]
 by_cases h3:t.kind=3
 ·rw [Ze1 h3,if_pos h3];rfl
 rw [Zd1 h3,if_neg h3,Ak]
 by_cases h4:t.kind=4
 ·rw [Ze1 h4,if_pos h4];rfl
 rw [Zd1 h4,if_neg h4,Ak]
 by_cases h5:t.kind=5
 ·rw [Ze1 h5,if_pos h5];rfl
 rw [Zd1 h5,if_neg h5,Ak]
 by_cases h1:t.kind=1
 ·rw [Ze1 h1]
  simp only [Ai]
  by_cases g1:t.s=Ae7
  ·rw [Ze1 (show t.s=[84,82,85,69] from g1),if_pos ⟨h1,g1⟩];rfl
  rw [Zd1 (show ¬t.s=[84,82,85,69] from g1),if_neg (fun q=>g1 q.2),Ak]
  by_cases g2:t.s=Vj
  ·rw [Ze1 (show t.s=[70,65,76,83,69] from g2),if_pos ⟨h1,g2⟩];rfl
  rw [Zd1 (show ¬t.s=[70,65,76,83,69] from g2),if_neg (fun q=>g2 q.2),Ak]
  by_cases g3:t.s=Ej
  ·rw [Ze1 (show t.s=[78,85,76,76] from g3),if_pos ⟨h1,g3⟩];rfl
  rw [Zd1 (show ¬t.s=[78,85,76,76] from g3),if_neg (fun q=>g3 q.2),Ak]
 ·rw [Zd1 h1,if_neg (fun q=>h1 q.1),if_neg (fun q=>h1 q.1),if_neg (fun q=>h1 q.1)]
  simp only [Ak]
def Kw{α:Type}(F:RS→Option (α×RS)):Prop:=∀l n a,∃e,F (l,n,true,a)=some (e,l,n,true,a)
theorem Apb(rf:A6→Option A4):Kw (Hf rf):=fun l n a=>by
 simp only [Hf,M8,Wt,Zc1,Ai]
 exact⟨_,rfl⟩
theorem A8q{rf:A6→Option A4}{rec:TL→PR Xpr}{L:Nat}(h:SimP rf rec L):SimP (Hf rf) (Cd rec) (L+1) where
 ok l n a e l' hl hp:=by
  cases l with
  |nil=>cases hp
  |cons t r =>
   simp only [Zf1] at hl
   rw [Ara] at hp
   rw [A4i]
   cases hv:Bbb t with
   |some v=>rw [hv] at hp;cases hp;rfl
   |none =>
    rw [hv] at hp
    cases hi:isT [40] (t::r) with
    |false=>rw [hi] at hp;cases hp
    |true =>
     rw [hi] at hp
     simp only [brP,bP] at hp
     simp only [Abd (by decide) (Ajb hi),Zc1,List.tail_cons]
     cases hq:rec r with
     |error q=>rw [hq] at hp;cases hp
     |ok x =>
      obtain⟨e1,l1⟩:=x
      rw [hq] at hp
      simp only at hp
      simp only [h.ok r n a e1 l1 (by omega) hq,Zc1]
      cases hj:isT [41] l1 with
      |false=>rw [hj] at hp;cases hp
      |true =>
       rw [hj] at hp
       cases hp
       simp only [Abd (by decide) (Ajb hj),Zc1]
 er l n a q hl hp:=by
  cases l with
  |nil =>
   cases hp
   obtain⟨e1,h1⟩:=h.bad [] n n
   refine⟨e1,[],?_⟩
   have e:Hf rf ([],n,false,a)=(Ao ([[40]],[],n,false,a)).bind fun(x1,x2,x3,x4)=>(rf (x1,x2,x3,x4)).bind fun(e,y1,y2,y3,y4)=>(Ao ([[41]],y1,y2,y3,y4)).bind fun(z1,z2,z3,z4)=>some (e,z1,z2,z3,z4):=rfl
   have hm:Bo [[40]] ([]:TL) = .error []:=rfl
   simp only [e,Aa6 (by decide) hm,Zc1,Jz,h1,W8]
  |cons t r =>
   simp only [Zf1] at hl
   rw [Ara] at hp
   rw [A4i]
   cases hv:Bbb t with
   |some v=>rw [hv] at hp;cases hp
   |none =>
    rw [hv] at hp
    cases hi:isT [40] (t::r) with
    |false =>
     rw [hi] at hp
     cases hp
     obtain⟨e1,h1⟩:=h.bad (t::r) n (Jz n (t::r))
     simp only [Aa6 (by decide) (Anj hi),Zc1,h1,W8]
     exact⟨_,_,rfl⟩
    |true =>
     rw [hi] at hp
     simp only [brP,bP] at hp
     simp only [Abd (by decide) (Ajb hi),Zc1,List.tail_cons]
     cases hq:rec r with
     |error q' =>
      rw [hq] at hp
      cases hp
      obtain⟨e1,l1,h1⟩:=h.er r n a q (by omega) hq
      simp only [h1,Zc1,W8]
      exact⟨_,_,rfl⟩
     |ok x =>
      obtain⟨e1,l1⟩:=x
      rw [hq] at hp
      simp only at hp
      simp only [h.ok r n a e1 l1 (by omega) hq,Zc1]
      cases hj:isT [41] l1 with
      |true=>rw [hj] at hp;cases hp
      |false =>
       rw [hj] at hp
       cases hp
       simp only [Aa6 (by decide) (Anj hj),Zc1]
       exact⟨_,_,rfl⟩
 bad:=Apb rf
end Go.Proofs.YthndhaolemgbdaaGreatDoor
namespace Go.Proofs.YthndhaolemgbdaaGreatDoor
open Go.Ax
def D9(s:Str):TL→Nat×TL
 |[]=>(0,[])
 |t::r=>match isT s (t::r) with
  |true=>((D9 s r).1+1,(D9 s r).2)
  |false=>(0,t::r)
def R1(k:Int):Nat→Xpr→Xpr
 |0,e=>e
 |n+1,e=>R1 k n (.mk k ⟨0,0,[]⟩ [] [e])
theorem Av9(k:Int):∀(n:Nat) (e:Xpr),R1 k (n+1) e=mkX k [R1 k n e]
 |0,_=>rfl
 |n+1,_=>Av9 k n _
theorem Aki{s:Str}{l:TL}(h:isT s l=true):D9 s l=((D9 s l.tail).1+1,(D9 s l.tail).2):=by
 cases l with
 |nil=>cases h
 |cons t r=>simp only [D9,h,List.tail_cons]
theorem Aj9{s:Str}{l:TL}(h:isT s l=false):D9 s l=(0,l):=by
 cases l with
 |nil=>rfl
 |cons t r=>simp only [D9,h]
theorem Va(s:Str):∀l:TL,(D9 s l).1+(D9 s l).2.length=l.length
 |[]=>rfl
 |t::r=>by
  have ih:=Va s r
  cases h:isT s (t::r) with
  |true=>rw [Aki h];simp only [List.tail_cons,Zf1];omega
  |false=>rw [Aj9 h];simp
theorem Nj(s:Str) (k:Int) (part:TL→PR Xpr):∀l:TL,B3 s k part l=match part (D9 s l).2 with
  |.error q =>.error q
  |.ok (e,l') =>.ok (R1 k (D9 s l).1 e,l')
 |[]=>by
  simp only [B3,D9,R1]
  cases part []<;>rfl
 |t::r=>by
  cases h:isT s (t::r) with
  |true =>
   rw [Aki h]
   simp only [B3,h,Nj s k part r,List.tail_cons]
   cases part (D9 s r).2 with
   |error q=>rfl
   |ok x=>simp only [Av9]
  |false =>
   rw [Aj9 h]
   simp only [B3,h,R1]
   cases part (t::r)<;>rfl
theorem As1{R:Type}{kx:Ex→Qy→Option R}{s:Str}{kd n a:Int}{z1 z2:Xpr}{c:Int→TL→Option R}(h:∀i l,kx (.exit 0) (s,kd,i,l,n,false,a,z1,z2)=c i l):∀(k i:Nat) (l:TL),l.length<k→i+l.length≤1000000000 →
  A0 (fun rec=>Acy rec kx) k (s,kd,(i:Int),l,n,false,a,z1,z2)=c ((i+(D9 s l).1:Nat):Int) (D9 s l).2
 |0,_,_,hk,_=>absurd hk (Zm1 _)
 |k+1,i,l,hk,hb=>by
  rw [Br]
  simp only [Acy,Zs1,Ai]
  cases hi:isT s l with
  |false=>simp only [Fg hi,Zc1,Ak,h,Aj9 hi,Nat.add_zero]
  |true =>
   have hl:=Lj hi
   have hw:wr .i64 ((i:Int)+1)=((i+1:Nat):Int):=Bf (n:=i+1) (by omega) (by simp only [ln];omega)
   simp only [Fv hi,Zc1,Ai,hw,As1 h k (i+1) l.tail (by omega) (by omega),Aki hi]
   rw [Nat.add_assoc,Nat.add_comm 1]
theorem At5{R:Type}{kx:Ex→O9→Option R}{kd:Int}{m:Nat}{l:TL}{n a:Int}{b:Bool}{z1 z2:Xpr}{c:Xpr→Option R}(h:∀i e,kx (.exit 2) (kd,(m:Int),i,l,n,b,a,z1,z2,e)=c e) (hm:m≤1000000000):∀(k i:Nat) (e:Xpr),i≤m→m-i<k →
  A0 (fun rec=>X2 rec kx) k (kd,(m:Int),(i:Int),l,n,b,a,z1,z2,e)=c (R1 kd (m-i) e)
 |0,_,_,_,hk=>absurd hk (Zm1 _)
 |k+1,i,e,hi,hk=>by
  rw [Br]
  by_cases hlt:i<m
  ·have hs:m-i=(m-(i+1))+1:=by omega
   simp only [X2,Gm hlt,Ai,Bf hlt (show ln m by simp only [ln];omega),At5 h hm k (i+1) _ (by omega) (by omega),hs,R1]
  ·obtain rfl:i=m:=by omega
   simp only [X2,Gh,Ak,h,Nat.sub_self,R1]
theorem Aut{rf:A6→Option A4}(h:Kw (Hf rf)):Kw (Km rf):=fun l n a=>by
 obtain⟨e1,h1⟩:=h l n a
 refine⟨e1,?_⟩
 simp only [Km,Ml,Br,Acy,Zt1,Ak,h1,Zc1,X2]
 rfl
theorem Bbz{rf:A6→Option A4}{part:TL→PR Xpr}{L:Nat}(h:SimP (Hf rf) part L) (hL:L≤1000000000):SimP (Km rf) (B3 [45] 15 part) L where
 ok l n a e l' hl hp:=by
  have hs:=Va [45] l
  rw [Nj] at hp
  simp only [Km,Ml]
  refine(As1 (s:=[45]) (i:=0) (fun _ _=>rfl) (l.length+1) l (by omega) (by omega)).trans ?_
  cases hq:part (D9 [45] l).2 with
  |error q=>rw [hq] at hp;cases hp
  |ok x =>
   obtain⟨e1,l1⟩:=x
   rw [hq] at hp
   cases hp
   simp only [h.ok _ n a e1 l' (by omega) hq,Zc1,Nat.zero_add]
   exact(At5 (c:=fun e=>some (e,l',n,false,a)) (fun _ _=>rfl) (by omega) (l.length+1) 0 e1 (Nat.zero_le _) (by omega)).trans rfl
 er l n a q hl hp:=by
  have hs:=Va [45] l
  rw [Nj] at hp
  cases hq:part (D9 [45] l).2 with
  |ok x=>rw [hq] at hp;cases hp
  |error q' =>
   rw [hq] at hp
   cases hp
   obtain⟨e1,l1,h1⟩:=h.er _ n a q (by omega) hq
   refine⟨R1 15 (D9 [45] l).1 e1,l1,?_⟩
   simp only [Km,Ml]
   refine(As1 (s:=[45]) (i:=0) (fun _ _=>rfl) (l.length+1) l (by omega) (by omega)).trans ?_
   simp only [h1,Zc1,Nat.zero_add]
   exact(At5 (c:=fun e=>some (e,l1,n,true,Jz n q)) (fun _ _=>rfl) (by omega) (l.length+1) 0 e1 (Nat.zero_le _) (by omega)).trans rfl
 bad:=Aut h.bad
def prs(S:List PairS):List (Str×Int):=S.map fun p=>(p.sign,p.kind)
theorem Qx(l:TL):∀S:List PairS,(prs S).find? (fun p=>isT p.1 l)=(S.find? fun p=>isT p.sign l).map fun p=>(p.sign,p.kind)
 |[]=>rfl
 |p::S=>by
  have ih:=Qx l S
  simp only [prs] at ih
  simp only [prs,Zw1,List.find?_cons,ih]
  cases isT p.sign l<;>rfl
theorem Aiv{R:Type}(rf:A6→Option A4) {kx:Ex→Gc→Option R}{S:List PairS}(hn:ln S.length) {l:TL}{n a:Int}{z1 z2 e:Xpr}{c1:Xpr→TL→Int→Bool→Int→Option R}{c2:Option R}(h1:∀i l n b a e,kx (.exit 1) (S,S,(S.length:Int),i,l,n,b,a,z1,z2,e)=c1 e l n b a) (h2:kx (.exit 2) (S,S,(S.length:Int),(S.length:Int),l,n,false,a,z1,z2,e)=c2):∀(k i:Nat),i≤S.length→S.length-i<k →
  A0 (fun rc=>Io rf rc kx) k (S,S,(S.length:Int),(i:Int),l,n,false,a,z1,z2,e)=match(S.drop i).find? (fun p=>isT p.sign l) with
   |none=>c2
   |some p=>(Km rf (l.tail,n,false,a)).bind fun(x,y1,y2,y3,y4)=>c1 (mkX p.kind [e,x]) y1 y2 y3 y4
 |0,_,_,hk=>absurd hk (Zm1 _)
 |k+1,i,hi,hk=>by
  rw [Br]
  by_cases hlt:i<S.length
  ·rw [Bb hlt]
   simp only [Io,Gm hlt,Ai,Bl hlt,chk,Bk (c :=.pair) hlt,Bf hlt hn,List.find?_cons]
   cases ht:isT S[i].sign l with
   |true =>
    simp only [Fv ht,Zc1,Ai,h1]
    rfl
   |false=>simp only [Fg ht,Zc1,Ak,Aiv rf hn h1 h2 k (i+1) (by omega) (by omega)]
  ·obtain rfl:i=S.length:=by omega
   simp only [Io,Gh,Ak,h2,Zc2,List.find?_nil]
theorem V3{R:Type}{rf:A6→Option A4}{part:TL→PR Xpr}{L:Nat}(h:SimP (Km rf) part L) (hp:C7 part) {kx:Ex→Ea→Option R}{S:List PairS}(hn:ln S.length) {n a:Int}{z1 z2:Xpr}{c:Xpr→TL→Bool→Int→Option R}(hx:∀l b a e,kx (.exit 0) (S,l,n,b,a,z1,z2,e)=c e l b a) (K:Nat) (hK:S.length<K):∀(k m:Nat) (e:Xpr) (l:TL),l.length<L→l.length<k→l.length<m →
  match Cm part (prs S) m e l with
  |.ok (e',l')=>A0 (fun rec=>I0 K rf rec kx) k (S,l,n,false,a,z1,z2,e)=c e' l' false a
  |.error q=>∃e' l',A0 (fun rec=>I0 K rf rec kx) k (S,l,n,false,a,z1,z2,e)=c e' l' true (Jz n q)
 |0,_,_,_,_,hk,_=>absurd hk (Zm1 _)
 |_,0,_,_,_,_,hk=>absurd hk (Zm1 _)
 |k+1,m+1,e,l,hl,hk,hm=>by
  have hin:=fun(rec:Ea→Option R)=>Aiv (R:=R) rf (kx:=fun e vz=>match vz with|(v5,_,_,_,v9,v10,v11,v12,v13,v14,v15)=>match e with
   |.exit 1=>rec (v5,v9,v10,v11,v12,v13,v14,v15)
   |.exit 2=>kx (.exit 0) (v5,v9,v10,v11,v12,v13,v14,v15)
   |_=>none) hn (l:=l) (n:=n) (a:=a) (z1:=z1) (z2:=z2) (e:=e) (c1:=fun e l n b a=>rec (S,l,n,b,a,z1,z2,e)) (fun _ _ _ _ _ _=>rfl) rfl K 0 (Nat.zero_le _) (by omega)
  have hit:∀rec:Ea→Option R,I0 K rf rec kx (S,l,n,false,a,z1,z2,e)=_:=hin
  have hf:=Qx l S
  rw [Br]
  simp only [Cm,hit,Zq1]
  cases hs:S.find? (fun p=>isT p.sign l) with
  |none =>
   rw [hs] at hf
   simp only [Option.map_none] at hf
   rw [hf]
   exact hx _ _ _ _
  |some p =>
   rw [hs] at hf
   simp only [Zl2] at hf
   rw [hf]
   have hi:isT p.sign l=true:=by simpa using List.find?_some hs
   have hlt:=Lj hi
   cases hq:part l.tail with
   |error q =>
    obtain⟨e1,l1,h1⟩:=h.er l.tail n a q (by omega) hq
    simp only [h1,Zc1]
    obtain⟨k,rfl⟩:∃k',k=k'+1:=⟨k-1,by omega⟩
    exact⟨mkX p.kind [e,e1],l1,hx _ _ _ _⟩
   |ok x =>
    obtain⟨x,l1⟩:=x
    have h3:=hp _ _ _ hq
    simp only [h.ok l.tail n a x l1 (by omega) hq,Zc1]
    exact V3 h hp hn hx K hK k m (mkX p.kind [e,x]) l1 (by omega) (by omega) (by omega)
theorem Af8{rf:A6→Option A4}(h:Kw (Km rf)):Kw (Ct rf):=fun l n a=>by
 obtain⟨e1,h1⟩:=h l n a
 simp only [Ct,Ef,h1,Zc1]
 exact⟨e1,rfl⟩
theorem Aue{rf:A6→Option A4}{part:TL→PR Xpr}{L:Nat}(h:SimP (Km rf) part L) (hp:C7 part):SimP (Ct rf) (Dm part (prs [PairS.mk [42] 14])) L where
 ok l n a e l' hl hq:=by
  simp only [Dm] at hq
  cases hr:part l with
  |error q=>rw [hr] at hq;cases hq
  |ok x =>
   obtain⟨e1,l1⟩:=x
   rw [hr] at hq
   have h3:=hp _ _ _ hr
   simp only at hq
   have:=V3 h hp (S:=[PairS.mk [42] 14]) (by simp [ln]) (n:=n) (a:=a) (z1:=Xpr.mk 0 ⟨0,0,[]⟩ [] []) (z2:=Xpr.mk 0 ⟨0,0,[]⟩ [] []) (c:=fun e l b a=>some (e,l,n,b,a)) (kx:=fun e vz=>match vz with|(_,v17,v18,v19,v20,_,_,v23)=>match e with
    |.exit 0=>some (v23,v17,v18,v19,v20)
    |_=>none) (fun _ _ _ _=>rfl) (l.length+3) (by simp) (l.length+3) (l1.length+1) e1 l1 (by omega) (by omega) (by omega)
   rw [hq] at this
   simp only [Ct,Ef,h.ok l n a e1 l1 hl hr,Zc1]
   exact this
 er l n a q hl hq:=by
  simp only [Dm] at hq
  cases hr:part l with
  |error q' =>
   rw [hr] at hq
   cases hq
   obtain⟨e1,l1,h1⟩:=h.er l n a q hl hr
   simp only [Ct,Ef,h1,Zc1]
   exact⟨e1,l1,rfl⟩
  |ok x =>
   obtain⟨e1,l1⟩:=x
   rw [hr] at hq
   have h3:=hp _ _ _ hr
   simp only at hq
   have:=V3 h hp (S:=[PairS.mk [42] 14]) (by simp [ln]) (n:=n) (a:=a) (z1:=Xpr.mk 0 ⟨0,0,[]⟩ [] []) (z2:=Xpr.mk 0 ⟨0,0,[]⟩ [] []) (c:=fun e l b a=>some (e,l,n,b,a)) (kx:=fun e vz=>match vz with|(_,v17,v18,v19,v20,_,_,v23)=>match e with
    |.exit 0=>some (v23,v17,v18,v19,v20)
    |_=>none) (fun _ _ _ _=>rfl) (l.length+3) (by simp) (l.length+3) (l1.length+1) e1 l1 (by omega) (by omega) (by omega)
   rw [hq] at this
   simp only [Ct,Ef,h.ok l n a e1 l1 hl hr,Zc1]
   exact this
 bad:=Af8 h.bad
theorem A6e{R:Type}(rf:A6→Option A4) {kx:Ex→P2→Option R}{S:List PairS}(hn:ln S.length) {l:TL}{n a:Int}{z1 z2 e:Xpr}{c1:Xpr→TL→Int→Bool→Int→Option R}{c2:Option R}(h1:∀i l n b a e,kx (.exit 1) (S,S,(S.length:Int),i,l,n,b,a,z1,z2,e)=c1 e l n b a) (h2:kx (.exit 2) (S,S,(S.length:Int),(S.length:Int),l,n,false,a,z1,z2,e)=c2):∀(k i:Nat),i≤S.length→S.length-i<k →
  A0 (fun rc=>Acz rf rc kx) k (S,S,(S.length:Int),(i:Int),l,n,false,a,z1,z2,e)=match(S.drop i).find? (fun p=>isT p.sign l) with
   |none=>c2
   |some p=>(Ct rf (l.tail,n,false,a)).bind fun(x,y1,y2,y3,y4)=>c1 (mkX p.kind [e,x]) y1 y2 y3 y4
 |0,_,_,hk=>absurd hk (Zm1 _)
 |k+1,i,hi,hk=>by
  rw [Br]
  by_cases hlt:i<S.length
  ·rw [Bb hlt]
   simp only [Acz,Gm hlt,Ai,Bl hlt,chk,Bk (c :=.pair) hlt,Bf hlt hn,List.find?_cons]
   cases ht:isT S[i].sign l with
   |true =>
    simp only [Fv ht,Zc1,Ai,h1]
    rfl
   |false=>simp only [Fg ht,Zc1,Ak,A6e rf hn h1 h2 k (i+1) (by omega) (by omega)]
  ·obtain rfl:i=S.length:=by omega
   simp only [Acz,Gh,Ak,h2,Zc2,List.find?_nil]
theorem Ak2{R:Type}{rf:A6→Option A4}{part:TL→PR Xpr}{L:Nat}(h:SimP (Ct rf) part L) (hp:C7 part) {kx:Ex→J7→Option R}{S:List PairS}(hn:ln S.length) {n a:Int}{z1 z2:Xpr}{c:Xpr→TL→Bool→Int→Option R}(hx:∀l b a e,kx (.exit 0) (S,l,n,b,a,z1,z2,e)=c e l b a) (K:Nat) (hK:S.length<K):∀(k m:Nat) (e:Xpr) (l:TL),l.length<L→l.length<k→l.length<m →
  match Cm part (prs S) m e l with
  |.ok (e',l')=>A0 (fun rec=>Adz K rf rec kx) k (S,l,n,false,a,z1,z2,e)=c e' l' false a
  |.error q=>∃e' l',A0 (fun rec=>Adz K rf rec kx) k (S,l,n,false,a,z1,z2,e)=c e' l' true (Jz n q)
 |0,_,_,_,_,hk,_=>absurd hk (Zm1 _)
 |_,0,_,_,_,_,hk=>absurd hk (Zm1 _)
 |k+1,m+1,e,l,hl,hk,hm=>by
  have hin:=fun(rec:J7→Option R)=>A6e (R:=R) rf (kx:=fun e vz=>match vz with|(v5,_,_,_,v9,v10,v11,v12,v13,v14,v15)=>match e with
   |.exit 1=>rec (v5,v9,v10,v11,v12,v13,v14,v15)
   |.exit 2=>kx (.exit 0) (v5,v9,v10,v11,v12,v13,v14,v15)
   |_=>none) hn (l:=l) (n:=n) (a:=a) (z1:=z1) (z2:=z2) (e:=e) (c1:=fun e l n b a=>rec (S,l,n,b,a,z1,z2,e)) (fun _ _ _ _ _ _=>rfl) rfl K 0 (Nat.zero_le _) (by omega)
  have hit:∀rec:J7→Option R,Adz K rf rec kx (S,l,n,false,a,z1,z2,e)=_:=hin
  have hf:=Qx l S
  rw [Br]
  simp only [Cm,hit,Zq1]
  cases hs:S.find? (fun p=>isT p.sign l) with
  |none =>
   rw [hs] at hf
   simp only [Option.map_none] at hf
   rw [hf]
   exact hx _ _ _ _
  |some p =>
   rw [hs] at hf
   simp only [Zl2] at hf
   rw [hf]
   have hi:isT p.sign l=true:=by simpa using List.find?_some hs
   have hlt:=Lj hi
   cases hq:part l.tail with
   |error q =>
    obtain⟨e1,l1,h1⟩:=h.er l.tail n a q (by omega) hq
    simp only [h1,Zc1]
    obtain⟨k,rfl⟩:∃k',k=k'+1:=⟨k-1,by omega⟩
    exact⟨mkX p.kind [e,e1],l1,hx _ _ _ _⟩
   |ok x =>
    obtain⟨x,l1⟩:=x
    have h3:=hp _ _ _ hq
    simp only [h.ok l.tail n a x l1 (by omega) hq,Zc1]
    exact Ak2 h hp hn hx K hK k m (mkX p.kind [e,x]) l1 (by omega) (by omega) (by omega)
theorem Avs{rf:A6→Option A4}(h:Kw (Ct rf)):Kw (Hx rf):=fun l n a=>by
 obtain⟨e1,h1⟩:=h l n a
 simp only [Hx,Js,h1,Zc1]
 exact⟨e1,rfl⟩
theorem Bfd{rf:A6→Option A4}{part:TL→PR Xpr}{L:Nat}(h:SimP (Ct rf) part L) (hp:C7 part):SimP (Hx rf) (Dm part (prs [PairS.mk [43] 12,PairS.mk [45] 13])) L where
 ok l n a e l' hl hq:=by
  simp only [Dm] at hq
  cases hr:part l with
  |error q=>rw [hr] at hq;cases hq
  |ok x =>
   obtain⟨e1,l1⟩:=x
   rw [hr] at hq
   have h3:=hp _ _ _ hr
   simp only at hq
   have:=Ak2 h hp (S:=[PairS.mk [43] 12,PairS.mk [45] 13]) (by simp [ln]) (n:=n) (a:=a) (z1:=Xpr.mk 0 ⟨0,0,[]⟩ [] []) (z2:=Xpr.mk 0 ⟨0,0,[]⟩ [] []) (c:=fun e l b a=>some (e,l,n,b,a)) (kx:=fun e vz=>match vz with|(_,v17,v18,v19,v20,_,_,v23)=>match e with
    |.exit 0=>some (v23,v17,v18,v19,v20)
    |_=>none) (fun _ _ _ _=>rfl) (l.length+3) (by simp) (l.length+3) (l1.length+1) e1 l1 (by omega) (by omega) (by omega)
   rw [hq] at this
   simp only [Hx,Js,h.ok l n a e1 l1 hl hr,Zc1]
   exact this
 er l n a q hl hq:=by
  simp only [Dm] at hq
  cases hr:part l with
  |error q' =>
   rw [hr] at hq
   cases hq
   obtain⟨e1,l1,h1⟩:=h.er l n a q hl hr
   simp only [Hx,Js,h1,Zc1]
   exact⟨e1,l1,rfl⟩
  |ok x =>
   obtain⟨e1,l1⟩:=x
   rw [hr] at hq
   have h3:=hp _ _ _ hr
   simp only at hq
   have:=Ak2 h hp (S:=[PairS.mk [43] 12,PairS.mk [45] 13]) (by simp [ln]) (n:=n) (a:=a) (z1:=Xpr.mk 0 ⟨0,0,[]⟩ [] []) (z2:=Xpr.mk 0 ⟨0,0,[]⟩ [] []) (c:=fun e l b a=>some (e,l,n,b,a)) (kx:=fun e vz=>match vz with|(_,v17,v18,v19,v20,_,_,v23)=>match e with
    |.exit 0=>some (v23,v17,v18,v19,v20)
    |_=>none) (fun _ _ _ _=>rfl) (l.length+3) (by simp) (l.length+3) (l1.length+1) e1 l1 (by omega) (by omega) (by omega)
   rw [hq] at this
   simp only [Hx,Js,h.ok l n a e1 l1 hl hr,Zc1]
   exact this
 bad:=Avs h.bad
def cmpC:List PairS:=[PairS.mk [61] 6,PairS.mk [60,62] 7,PairS.mk [60] 8,PairS.mk [60,61] 9,PairS.mk [62] 10,PairS.mk [62,61] 11]
theorem A4u{R:Type}(rf:A6→Option A4) {kx:Ex→P0→Option R}{S:List PairS}(hn:ln S.length) {l:TL}{n a:Int}{z e:Xpr}{c1:Xpr→TL→Int→Bool→Int→Option R}{c2:Option R}(h1:∀i l n b a x,kx .ret (S,(S.length:Int),i,l,n,b,a,x,e)=c1 x l n b a) (h2:kx (.exit 0) (S,(S.length:Int),(S.length:Int),l,n,false,a,z,e)=c2):∀(k i:Nat),i≤S.length→S.length-i<k →
  A0 (fun rc=>Aed rf rc kx) k (S,(S.length:Int),(i:Int),l,n,false,a,z,e)=match(S.drop i).find? (fun p=>isT p.sign l) with
   |none=>c2
   |some p=>(Hx rf (l.tail,n,false,a)).bind fun(x,y1,y2,y3,y4)=>c1 (mkX p.kind [e,x]) y1 y2 y3 y4
 |0,_,_,hk=>absurd hk (Zm1 _)
 |k+1,i,hi,hk=>by
  rw [Br]
  by_cases hlt:i<S.length
  ·rw [Bb hlt]
   simp only [Aed,Gm hlt,Ai,Bl hlt,chk,Bk (c :=.pair) hlt,Bf hlt hn,List.find?_cons]
   cases ht:isT S[i].sign l with
   |true =>
    simp only [Fv ht,Zc1,Ai,h1]
    rfl
   |false=>simp only [Fg ht,Zc1,Ak,A4u rf hn h1 h2 k (i+1) (by omega) (by omega)]
  ·obtain rfl:i=S.length:=by omega
   simp only [Aed,Gh,Ak,h2,Zc2,List.find?_nil]
def isF(e:Xpr) (l:TL) (n a:Int):Option A4:=(A5 ([73,83],l,n,false,a)).bind fun(x15,x16,x17,x18,x19) =>
 cond (!x15) (some (e,x16,x17,x18,x19)) ((A5 ([78,79,84],x16,x17,x18,x19)).bind fun(x20,x21,x22,x23,x24) =>
  (Ao ([[78,85,76,76]],x21,x22,x23,x24)).bind fun(x25,x26,x27,x28) =>
   cond (x20) (some ((Xpr.mk 3 ⟨0,0,[]⟩ [] [(Xpr.mk 16 ⟨0,0,[]⟩ [] [e])]),x25,x26,x27,x28)) (some ((Xpr.mk 16 ⟨0,0,[]⟩ [] [e]),x25,x26,x27,x28)))
theorem A44(rf:A6→Option A4) {l l1:TL}{n a:Int}{e:Xpr}(h:Hx rf (l,n,false,a)=some (e,l1,n,false,a)):Pe rf (l,n,false,a)=match cmpC.find? (fun p=>isT p.sign l1) with
  |none=>isF e l1 n a
  |some p=>(Hx rf (l1.tail,n,false,a)).bind fun(x,y1,y2,y3,y4)=>some (mkX p.kind [e,x],y1,y2,y3,y4):=by
 simp only [Pe,Mc,h,Zc1,Ak]
 exact A4u rf (S:=cmpC) (by simp [ln,cmpC]) (z:=Xpr.mk 0 ⟨0,0,[]⟩ [] []) (c1:=fun x l n b a=>some (x,l,n,b,a)) (c2:=isF e l1 n a) (fun _ _ _ _ _ _=>rfl) rfl 10 0 (Nat.zero_le _) (by decide)
theorem Bo3{e x:Xpr}{l l':TL}(h:(match isT sIS l with|true=>isP e l|false =>.ok (e,l)) = .ok (x,l')) (n a:Int):isF e l n a=some (x,l',n,false,a):=by
 simp only [isF]
 cases hi:isT sIS l with
 |false=>rw [hi] at h;cases h;simp only [Fg (s:=[73,83]) hi,Zc1,Zs1,Ai]
 |true =>
  rw [hi] at h
  simp only [isP] at h
  simp only [Fv (s:=[73,83]) hi,Zc1,Zt1,Ak]
  cases hn:isT Gx l.tail with
  |true =>
   rw [hn] at h
   simp only [Fv (s:=[78,79,84]) hn,Zc1,Ai]
   cases hu:isT Ej l.tail.tail with
   |true=>simp only [hu] at h;cases h;simp only [Abd (by decide) (Ajb (s:=[78,85,76,76]) hu),Zc1];rfl
   |false=>simp only [hu] at h;cases h
  |false =>
   rw [hn] at h
   simp only [Fg (s:=[78,79,84]) hn,Zc1,Ak]
   cases hu:isT Ej l.tail with
   |true=>simp only [hu] at h;cases h;simp only [Abd (by decide) (Ajb (s:=[78,85,76,76]) hu),Zc1];rfl
   |false=>simp only [hu] at h;cases h
theorem Bp4{e:Xpr}{l q:TL}(h:(match isT sIS l with|true=>isP e l|false =>.ok (e,l)) = .error q) (n a:Int):∃x l',isF e l n a=some (x,l',n,true,Jz n q):=by
 simp only [isF]
 cases hi:isT sIS l with
 |false=>rw [hi] at h;cases h
 |true =>
  rw [hi] at h
  simp only [isP] at h
  simp only [Fv (s:=[73,83]) hi,Zc1,Zt1,Ak]
  cases hn:isT Gx l.tail with
  |true =>
   rw [hn] at h
   simp only [Fv (s:=[78,79,84]) hn,Zc1,Ai]
   cases hu:isT Ej l.tail.tail with
   |true=>simp only [hu] at h;cases h
   |false=>simp only [hu] at h;cases h;simp only [Aa6 (by decide) (Anj (s:=[78,85,76,76]) hu),Zc1];exact⟨_,_,rfl⟩
  |false =>
   rw [hn] at h
   simp only [Fg (s:=[78,79,84]) hn,Zc1,Ak]
   cases hu:isT Ej l.tail with
   |true=>simp only [hu] at h;cases h
   |false=>simp only [hu] at h;cases h;simp only [Aa6 (by decide) (Anj (s:=[78,85,76,76]) hu),Zc1];exact⟨_,_,rfl⟩
theorem Aw5{rf:A6→Option A4}(h:Kw (Hx rf)):Kw (Pe rf):=fun l n a=>by
 obtain⟨e1,h1⟩:=h l n a
 refine⟨e1,?_⟩
 simp only [Pe,Mc,h1,Zc1,Ai]
theorem Bhl{rf:A6→Option A4}{part:TL→PR Xpr}{L:Nat}(h:SimP (Hx rf) part L) (he:C7 part):SimP (Pe rf) (Agg part) L where
 ok l n a e l' hl hp:=by
  simp only [Agg] at hp
  cases hr:part l with
  |error q=>rw [hr] at hp;cases hp
  |ok x =>
   obtain⟨e1,l1⟩:=x
   have h3:=he _ _ _ hr
   have hf:cmpS.find? (fun p=>isT p.1 l1)=(cmpC.find? fun p=>isT p.sign l1).map fun p=>(p.sign,p.kind):=Qx l1 cmpC
   rw [hr] at hp
   simp only [hf] at hp
   rw [A44 rf (h.ok l n a e1 l1 hl hr)]
   cases hs:cmpC.find? (fun p=>isT p.sign l1) with
   |none=>rw [hs] at hp;exact Bo3 hp n a
   |some p =>
    rw [hs] at hp
    simp only [Zl2] at hp
    have h4:=Bj l1
    cases hq:part l1.tail with
    |error q=>rw [hq] at hp;cases hp
    |ok y =>
     obtain⟨x,l2⟩:=y
     rw [hq] at hp
     cases hp
     simp only [h.ok l1.tail n a x l' (by omega) hq,Zc1]
 er l n a q hl hp:=by
  simp only [Agg] at hp
  cases hr:part l with
  |error q' =>
   rw [hr] at hp
   cases hp
   obtain⟨e1,l1,h1⟩:=h.er l n a q hl hr
   refine⟨e1,l1,?_⟩
   simp only [Pe,Mc,h1,Zc1,Ai]
  |ok x =>
   obtain⟨e1,l1⟩:=x
   have h3:=he _ _ _ hr
   have hf:cmpS.find? (fun p=>isT p.1 l1)=(cmpC.find? fun p=>isT p.sign l1).map fun p=>(p.sign,p.kind):=Qx l1 cmpC
   rw [hr] at hp
   simp only [hf] at hp
   rw [A44 rf (h.ok l n a e1 l1 hl hr)]
   cases hs:cmpC.find? (fun p=>isT p.sign l1) with
   |none=>rw [hs] at hp;exact Bp4 hp n a
   |some p =>
    rw [hs] at hp
    simp only [Zl2] at hp
    have h4:=Bj l1
    cases hq:part l1.tail with
    |ok y=>rw [hq] at hp;cases hp
    |error q' =>
     rw [hq] at hp
     cases hp
     obtain⟨e2,l2,h2⟩:=h.er l1.tail n a q (by omega) hq
     simp only [h2,Zc1]
     exact⟨_,_,rfl⟩
 bad:=Aw5 h.bad
theorem Art{R:Type}{kx:Ex→Pb→Option R}{s:Str}{kd n a:Int}{z1 z2:Xpr}{c:Int→TL→Option R}(h:∀i l,kx (.exit 0) (s,kd,i,l,n,false,a,z1,z2)=c i l):∀(k i:Nat) (l:TL),l.length<k→i+l.length≤1000000000 →
  A0 (fun rec=>Aeb rec kx) k (s,kd,(i:Int),l,n,false,a,z1,z2)=c ((i+(D9 s l).1:Nat):Int) (D9 s l).2
 |0,_,_,hk,_=>absurd hk (Zm1 _)
 |k+1,i,l,hk,hb=>by
  rw [Br]
  simp only [Aeb,Zs1,Ai]
  cases hi:isT s l with
  |false=>simp only [Fg hi,Zc1,Ak,h,Aj9 hi,Nat.add_zero]
  |true =>
   have hl:=Lj hi
   have hw:wr .i64 ((i:Int)+1)=((i+1:Nat):Int):=Bf (n:=i+1) (by omega) (by simp only [ln];omega)
   simp only [Fv hi,Zc1,Ai,hw,Art h k (i+1) l.tail (by omega) (by omega),Aki hi]
   rw [Nat.add_assoc,Nat.add_comm 1]
theorem As5{R:Type}{kx:Ex→P5→Option R}{kd:Int}{m:Nat}{l:TL}{n a:Int}{b:Bool}{z1 z2:Xpr}{c:Xpr→Option R}(h:∀i e,kx (.exit 2) (kd,(m:Int),i,l,n,b,a,z1,z2,e)=c e) (hm:m≤1000000000):∀(k i:Nat) (e:Xpr),i≤m→m-i<k →
  A0 (fun rec=>Z6 rec kx) k (kd,(m:Int),(i:Int),l,n,b,a,z1,z2,e)=c (R1 kd (m-i) e)
 |0,_,_,_,hk=>absurd hk (Zm1 _)
 |k+1,i,e,hi,hk=>by
  rw [Br]
  by_cases hlt:i<m
  ·have hs:m-i=(m-(i+1))+1:=by omega
   simp only [Z6,Gm hlt,Ai,Bf hlt (show ln m by simp only [ln];omega),As5 h hm k (i+1) _ (by omega) (by omega),hs,R1]
  ·obtain rfl:i=m:=by omega
   simp only [Z6,Gh,Ak,h,Nat.sub_self,R1]
theorem Axf{rf:A6→Option A4}(h:Kw (Pe rf)):Kw (Ke rf):=fun l n a=>by
 obtain⟨e1,h1⟩:=h l n a
 refine⟨e1,?_⟩
 simp only [Ke,La,Br,Aeb,Zt1,Ak,h1,Zc1,Z6]
 rfl
theorem Bc8{rf:A6→Option A4}{part:TL→PR Xpr}{L:Nat}(h:SimP (Pe rf) part L) (hL:L≤1000000000):SimP (Ke rf) (B3 [78,79,84] 3 part) L where
 ok l n a e l' hl hp:=by
  have hs:=Va [78,79,84] l
  rw [Nj] at hp
  simp only [Ke,La]
  refine(Art (s:=[78,79,84]) (i:=0) (fun _ _=>rfl) (l.length+1) l (by omega) (by omega)).trans ?_
  cases hq:part (D9 [78,79,84] l).2 with
  |error q=>rw [hq] at hp;cases hp
  |ok x =>
   obtain⟨e1,l1⟩:=x
   rw [hq] at hp
   cases hp
   simp only [h.ok _ n a e1 l' (by omega) hq,Zc1,Nat.zero_add]
   exact(As5 (c:=fun e=>some (e,l',n,false,a)) (fun _ _=>rfl) (by omega) (l.length+1) 0 e1 (Nat.zero_le _) (by omega)).trans rfl
 er l n a q hl hp:=by
  have hs:=Va [78,79,84] l
  rw [Nj] at hp
  cases hq:part (D9 [78,79,84] l).2 with
  |ok x=>rw [hq] at hp;cases hp
  |error q' =>
   rw [hq] at hp
   cases hp
   obtain⟨e1,l1,h1⟩:=h.er _ n a q (by omega) hq
   refine⟨R1 3 (D9 [78,79,84] l).1 e1,l1,?_⟩
   simp only [Ke,La]
   refine(Art (s:=[78,79,84]) (i:=0) (fun _ _=>rfl) (l.length+1) l (by omega) (by omega)).trans ?_
   simp only [h1,Zc1,Nat.zero_add]
   exact(As5 (c:=fun e=>some (e,l1,n,true,Jz n q)) (fun _ _=>rfl) (by omega) (l.length+1) 0 e1 (Nat.zero_le _) (by omega)).trans rfl
 bad:=Axf h.bad
theorem A6i{R:Type}(rf:A6→Option A4) {kx:Ex→O2→Option R}{S:List PairS}(hn:ln S.length) {l:TL}{n a:Int}{z1 z2 e:Xpr}{c1:Xpr→TL→Int→Bool→Int→Option R}{c2:Option R}(h1:∀i l n b a e,kx (.exit 1) (S,S,(S.length:Int),i,l,n,b,a,z1,z2,e)=c1 e l n b a) (h2:kx (.exit 2) (S,S,(S.length:Int),(S.length:Int),l,n,false,a,z1,z2,e)=c2):∀(k i:Nat),i≤S.length→S.length-i<k →
  A0 (fun rc=>Adt rf rc kx) k (S,S,(S.length:Int),(i:Int),l,n,false,a,z1,z2,e)=match(S.drop i).find? (fun p=>isT p.sign l) with
   |none=>c2
   |some p=>(Ke rf (l.tail,n,false,a)).bind fun(x,y1,y2,y3,y4)=>c1 (mkX p.kind [e,x]) y1 y2 y3 y4
 |0,_,_,hk=>absurd hk (Zm1 _)
 |k+1,i,hi,hk=>by
  rw [Br]
  by_cases hlt:i<S.length
  ·rw [Bb hlt]
   simp only [Adt,Gm hlt,Ai,Bl hlt,chk,Bk (c :=.pair) hlt,Bf hlt hn,List.find?_cons]
   cases ht:isT S[i].sign l with
   |true =>
    simp only [Fv ht,Zc1,Ai,h1]
    rfl
   |false=>simp only [Fg ht,Zc1,Ak,A6i rf hn h1 h2 k (i+1) (by omega) (by omega)]
  ·obtain rfl:i=S.length:=by omega
   simp only [Adt,Gh,Ak,h2,Zc2,List.find?_nil]
theorem Anv{R:Type}{rf:A6→Option A4}{part:TL→PR Xpr}{L:Nat}(h:SimP (Ke rf) part L) (hp:C7 part) {kx:Ex→Kq→Option R}{S:List PairS}(hn:ln S.length) {n a:Int}{z1 z2:Xpr}{c:Xpr→TL→Bool→Int→Option R}(hx:∀l b a e,kx (.exit 0) (S,l,n,b,a,z1,z2,e)=c e l b a) (K:Nat) (hK:S.length<K):∀(k m:Nat) (e:Xpr) (l:TL),l.length<L→l.length<k→l.length<m →
  match Cm part (prs S) m e l with
  |.ok (e',l')=>A0 (fun rec=>Aeh K rf rec kx) k (S,l,n,false,a,z1,z2,e)=c e' l' false a
  |.error q=>∃e' l',A0 (fun rec=>Aeh K rf rec kx) k (S,l,n,false,a,z1,z2,e)=c e' l' true (Jz n q)
 |0,_,_,_,_,hk,_=>absurd hk (Zm1 _)
 |_,0,_,_,_,_,hk=>absurd hk (Zm1 _)
 |k+1,m+1,e,l,hl,hk,hm=>by
  have hin:=fun(rec:Kq→Option R)=>A6i (R:=R) rf (kx:=fun e vz=>match vz with|(v5,_,_,_,v9,v10,v11,v12,v13,v14,v15)=>match e with
   |.exit 1=>rec (v5,v9,v10,v11,v12,v13,v14,v15)
   |.exit 2=>kx (.exit 0) (v5,v9,v10,v11,v12,v13,v14,v15)
   |_=>none) hn (l:=l) (n:=n) (a:=a) (z1:=z1) (z2:=z2) (e:=e) (c1:=fun e l n b a=>rec (S,l,n,b,a,z1,z2,e)) (fun _ _ _ _ _ _=>rfl) rfl K 0 (Nat.zero_le _) (by omega)
  have hit:∀rec:Kq→Option R,Aeh K rf rec kx (S,l,n,false,a,z1,z2,e)=_:=hin
  have hf:=Qx l S
  rw [Br]
  simp only [Cm,hit,Zq1]
  cases hs:S.find? (fun p=>isT p.sign l) with
  |none =>
   rw [hs] at hf
   simp only [Option.map_none] at hf
   rw [hf]
   exact hx _ _ _ _
  |some p =>
   rw [hs] at hf
   simp only [Zl2] at hf
   rw [hf]
   have hi:isT p.sign l=true:=by simpa using List.find?_some hs
   have hlt:=Lj hi
   cases hq:part l.tail with
   |error q =>
    obtain⟨e1,l1,h1⟩:=h.er l.tail n a q (by omega) hq
    simp only [h1,Zc1]
    obtain⟨k,rfl⟩:∃k',k=k'+1:=⟨k-1,by omega⟩
    exact⟨mkX p.kind [e,e1],l1,hx _ _ _ _⟩
   |ok x =>
    obtain⟨x,l1⟩:=x
    have h3:=hp _ _ _ hq
    simp only [h.ok l.tail n a x l1 (by omega) hq,Zc1]
    exact Anv h hp hn hx K hK k m (mkX p.kind [e,x]) l1 (by omega) (by omega) (by omega)
theorem Avd{rf:A6→Option A4}(h:Kw (Ke rf)):Kw (I1 rf):=fun l n a=>by
 obtain⟨e1,h1⟩:=h l n a
 simp only [I1,Jp,h1,Zc1]
 exact⟨e1,rfl⟩
theorem Bg7{rf:A6→Option A4}{part:TL→PR Xpr}{L:Nat}(h:SimP (Ke rf) part L) (hp:C7 part):SimP (I1 rf) (Dm part (prs [PairS.mk [65,78,68] 4])) L where
 ok l n a e l' hl hq:=by
  simp only [Dm] at hq
  cases hr:part l with
  |error q=>rw [hr] at hq;cases hq
  |ok x =>
   obtain⟨e1,l1⟩:=x
   rw [hr] at hq
   have h3:=hp _ _ _ hr
   simp only at hq
   have:=Anv h hp (S:=[PairS.mk [65,78,68] 4]) (by simp [ln]) (n:=n) (a:=a) (z1:=Xpr.mk 0 ⟨0,0,[]⟩ [] []) (z2:=Xpr.mk 0 ⟨0,0,[]⟩ [] []) (c:=fun e l b a=>some (e,l,n,b,a)) (kx:=fun e vz=>match vz with|(_,v17,v18,v19,v20,_,_,v23)=>match e with
    |.exit 0=>some (v23,v17,v18,v19,v20)
    |_=>none) (fun _ _ _ _=>rfl) (l.length+3) (by simp) (l.length+3) (l1.length+1) e1 l1 (by omega) (by omega) (by omega)
   rw [hq] at this
   simp only [I1,Jp,h.ok l n a e1 l1 hl hr,Zc1]
   exact this
 er l n a q hl hq:=by
  simp only [Dm] at hq
  cases hr:part l with
  |error q' =>
   rw [hr] at hq
   cases hq
   obtain⟨e1,l1,h1⟩:=h.er l n a q hl hr
   simp only [I1,Jp,h1,Zc1]
   exact⟨e1,l1,rfl⟩
  |ok x =>
   obtain⟨e1,l1⟩:=x
   rw [hr] at hq
   have h3:=hp _ _ _ hr
   simp only at hq
   have:=Anv h hp (S:=[PairS.mk [65,78,68] 4]) (by simp [ln]) (n:=n) (a:=a) (z1:=Xpr.mk 0 ⟨0,0,[]⟩ [] []) (z2:=Xpr.mk 0 ⟨0,0,[]⟩ [] []) (c:=fun e l b a=>some (e,l,n,b,a)) (kx:=fun e vz=>match vz with|(_,v17,v18,v19,v20,_,_,v23)=>match e with
    |.exit 0=>some (v23,v17,v18,v19,v20)
    |_=>none) (fun _ _ _ _=>rfl) (l.length+3) (by simp) (l.length+3) (l1.length+1) e1 l1 (by omega) (by omega) (by omega)
   rw [hq] at this
   simp only [I1,Jp,h.ok l n a e1 l1 hl hr,Zc1]
   exact this
 bad:=Avd h.bad
theorem Bgl{R:Type}(rf:A6→Option A4) {kx:Ex→Xk→Option R}{S:List PairS}(hn:ln S.length) {l:TL}{n a:Int}{z1 z2 e:Xpr}{c1:Xpr→TL→Int→Bool→Int→Option R}{c2:Option R}(h1:∀i l n b a e,kx (.exit 1) (S,S,(S.length:Int),i,l,n,b,a,z1,z2,e)=c1 e l n b a) (h2:kx (.exit 2) (S,S,(S.length:Int),(S.length:Int),l,n,false,a,z1,z2,e)=c2):∀(k i:Nat),i≤S.length→S.length-i<k →
  A0 (fun rc=>An0 rf rc kx) k (S,S,(S.length:Int),(i:Int),l,n,false,a,z1,z2,e)=match(S.drop i).find? (fun p=>isT p.sign l) with
   |none=>c2
   |some p=>(I1 rf (l.tail,n,false,a)).bind fun(x,y1,y2,y3,y4)=>c1 (mkX p.kind [e,x]) y1 y2 y3 y4
 |0,_,_,hk=>absurd hk (Zm1 _)
 |k+1,i,hi,hk=>by
  rw [Br]
  by_cases hlt:i<S.length
  ·rw [Bb hlt]
   simp only [An0,Gm hlt,Ai,Bl hlt,chk,Bk (c :=.pair) hlt,Bf hlt hn,List.find?_cons]
   cases ht:isT S[i].sign l with
   |true =>
    simp only [Fv ht,Zc1,Ai,h1]
    rfl
   |false=>simp only [Fg ht,Zc1,Ak,Bgl rf hn h1 h2 k (i+1) (by omega) (by omega)]
  ·obtain rfl:i=S.length:=by omega
   simp only [An0,Gh,Ak,h2,Zc2,List.find?_nil]
theorem Asp{R:Type}{rf:A6→Option A4}{part:TL→PR Xpr}{L:Nat}(h:SimP (I1 rf) part L) (hp:C7 part) {kx:Ex→Oe→Option R}{S:List PairS}(hn:ln S.length) {n a:Int}{z1 z2:Xpr}{c:Xpr→TL→Bool→Int→Option R}(hx:∀l b a e,kx (.exit 0) (S,l,n,b,a,z1,z2,e)=c e l b a) (K:Nat) (hK:S.length<K):∀(k m:Nat) (e:Xpr) (l:TL),l.length<L→l.length<k→l.length<m →
  match Cm part (prs S) m e l with
  |.ok (e',l')=>A0 (fun rec=>Alw K rf rec kx) k (S,l,n,false,a,z1,z2,e)=c e' l' false a
  |.error q=>∃e' l',A0 (fun rec=>Alw K rf rec kx) k (S,l,n,false,a,z1,z2,e)=c e' l' true (Jz n q)
 |0,_,_,_,_,hk,_=>absurd hk (Zm1 _)
 |_,0,_,_,_,_,hk=>absurd hk (Zm1 _)
 |k+1,m+1,e,l,hl,hk,hm=>by
  have hin:=fun(rec:Oe→Option R)=>Bgl (R:=R) rf (kx:=fun e vz=>match vz with|(v5,_,_,_,v9,v10,v11,v12,v13,v14,v15)=>match e with
   |.exit 1=>rec (v5,v9,v10,v11,v12,v13,v14,v15)
   |.exit 2=>kx (.exit 0) (v5,v9,v10,v11,v12,v13,v14,v15)
   |_=>none) hn (l:=l) (n:=n) (a:=a) (z1:=z1) (z2:=z2) (e:=e) (c1:=fun e l n b a=>rec (S,l,n,b,a,z1,z2,e)) (fun _ _ _ _ _ _=>rfl) rfl K 0 (Nat.zero_le _) (by omega)
  have hit:∀rec:Oe→Option R,Alw K rf rec kx (S,l,n,false,a,z1,z2,e)=_:=hin
  have hf:=Qx l S
  rw [Br]
  simp only [Cm,hit,Zq1]
  cases hs:S.find? (fun p=>isT p.sign l) with
  |none =>
   rw [hs] at hf
   simp only [Option.map_none] at hf
   rw [hf]
   exact hx _ _ _ _
  |some p =>
   rw [hs] at hf
   simp only [Zl2] at hf
   rw [hf]
   have hi:isT p.sign l=true:=by simpa using List.find?_some hs
   have hlt:=Lj hi
   cases hq:part l.tail with
   |error q =>
    obtain⟨e1,l1,h1⟩:=h.er l.tail n a q (by omega) hq
    simp only [h1,Zc1]
    obtain⟨k,rfl⟩:∃k',k=k'+1:=⟨k-1,by omega⟩
    exact⟨mkX p.kind [e,e1],l1,hx _ _ _ _⟩
   |ok x =>
    obtain⟨x,l1⟩:=x
    have h3:=hp _ _ _ hq
    simp only [h.ok l.tail n a x l1 (by omega) hq,Zc1]
    exact Asp h hp hn hx K hK k m (mkX p.kind [e,x]) l1 (by omega) (by omega) (by omega)
theorem A4n{rf:A6→Option A4}(h:Kw (I1 rf)):Kw (Xr rf):=fun l n a=>by
 obtain⟨e1,h1⟩:=h l n a
 simp only [Xr,Nw,h1,Zc1]
 exact⟨e1,rfl⟩
theorem Bil{rf:A6→Option A4}{part:TL→PR Xpr}{L:Nat}(h:SimP (I1 rf) part L) (hp:C7 part):SimP (Xr rf) (Dm part (prs [PairS.mk [79,82] 5])) L where
 ok l n a e l' hl hq:=by
  simp only [Dm] at hq
  cases hr:part l with
  |error q=>rw [hr] at hq;cases hq
  |ok x =>
   obtain⟨e1,l1⟩:=x
   rw [hr] at hq
   have h3:=hp _ _ _ hr
   simp only at hq
   have:=Asp h hp (S:=[PairS.mk [79,82] 5]) (by simp [ln]) (n:=n) (a:=a) (z1:=Xpr.mk 0 ⟨0,0,[]⟩ [] []) (z2:=Xpr.mk 0 ⟨0,0,[]⟩ [] []) (c:=fun e l b a=>some (e,l,n,b,a)) (kx:=fun e vz=>match vz with|(_,v17,v18,v19,v20,_,_,v23)=>match e with
    |.exit 0=>some (v23,v17,v18,v19,v20)
    |_=>none) (fun _ _ _ _=>rfl) (l.length+3) (by simp) (l.length+3) (l1.length+1) e1 l1 (by omega) (by omega) (by omega)
   rw [hq] at this
   simp only [Xr,Nw,h.ok l n a e1 l1 hl hr,Zc1]
   exact this
 er l n a q hl hq:=by
  simp only [Dm] at hq
  cases hr:part l with
  |error q' =>
   rw [hr] at hq
   cases hq
   obtain⟨e1,l1,h1⟩:=h.er l n a q hl hr
   simp only [Xr,Nw,h1,Zc1]
   exact⟨e1,l1,rfl⟩
  |ok x =>
   obtain⟨e1,l1⟩:=x
   rw [hr] at hq
   have h3:=hp _ _ _ hr
   simp only at hq
   have:=Asp h hp (S:=[PairS.mk [79,82] 5]) (by simp [ln]) (n:=n) (a:=a) (z1:=Xpr.mk 0 ⟨0,0,[]⟩ [] []) (z2:=Xpr.mk 0 ⟨0,0,[]⟩ [] []) (c:=fun e l b a=>some (e,l,n,b,a)) (kx:=fun e vz=>match vz with|(_,v17,v18,v19,v20,_,_,v23)=>match e with
    |.exit 0=>some (v23,v17,v18,v19,v20)
    |_=>none) (fun _ _ _ _=>rfl) (l.length+3) (by simp) (l.length+3) (l1.length+1) e1 l1 (by omega) (by omega) (by omega)
   rw [hq] at this
   simp only [Xr,Nw,h.ok l n a e1 l1 hl hr,Zc1]
   exact this
 bad:=A4n h.bad
theorem Bl3(rf:A6→Option A4):Kw (Xr rf):=A4n (Avd (Axf (Aw5 (Avs (Af8 (Aut (Apb rf)))))))
theorem Bqj{rf:A6→Option A4}{L:Nat}(h:SimP rf orW L) (hL:L+1≤1000000000):SimP (Xr rf) orW (L+1):=by
 have e:orW=lev orW 1:=funext A53
 have e7:=Ip (s:=[45]) (k:=15) (Adp H0)
 have e6:=Gr (sg:=[([42],14)]) e7
 have e5:=Gr (sg:=[([43],12),([45],13)]) e6
 have e3:C7 (B3 Gx 3 _):=Ip (Alu e5)
 have e2:=Gr (sg:=[(Ax9,4)]) e3
 have:=Bil (Bg7 (Bc8 (Bhl (Bfd (Aue (Bbz (A8q h) hL) e7) e6) e5) hL) e3) e2
 rw [e]
 exact this
theorem Aru:∀m:Nat,m≤1000000000→SimP (A0 (V:=A6) (R:=A4) Xr (m+1)) orW m
 |0,_=>⟨fun _ _ _ _ _ h=>absurd h (Zm1 _),fun _ _ _ _ h=>absurd h (Zm1 _),Bl3 _⟩
 |m+1,h=>Bqj (Aru m (by omega)) h
theorem Sh{L:Nat}(hL:L≤1000000000):SimP Gk orW L where
 ok l n a e l' hl hp:=(Aru (l.length+1) (by omega)).ok l n a e l' (by omega) hp
 er l n a q hl hp:=(Aru (l.length+1) (by omega)).er l n a q (by omega) hp
 bad l n a:=Bl3 _ l n a
end Go.Proofs.YthndhaolemgbdaaGreatDoor
namespace Go.Proofs.YthndhaolemgbdaaGreatDoor
open Go.Ax
def Out{α γ:Type}(g : α→TL→γ) (E:Int→γ→Prop) (n:Int) (x:Option γ) (y:PR α):Prop:=match y with
 |.ok (r,l)=>x=some (g r l)
 |.error q=>∃z,x=some z∧E (Jz n q) z
def Ca{γ:Type}(E:Int→γ→Prop) (b:Int) (x:Option γ):Prop:=∃z,x=some z∧E b z
section
variable {α β γ:Type}{g : β→TL→γ}{E:Int→γ→Prop}{n a:Int}
theorem Out.bindS{F:RS→Option (α×RS)}{p:TL→PR α}{L:Nat}(h:SimP F p L) {G : α×RS→Option γ}{f : α→TL→PR β}{l:TL}(hl:l.length<L) (h1:∀r l',p l = .ok (r,l')→Out g E n (G (r,l',n,false,a)) (f r l')) (h2:∀r l' b,Ca E b (G (r,l',n,true,b))):Out g E n ((F (l,n,false,a)).bind G) (bP p f l):=by
 unfold bP
 cases hq:p l with
 |error q =>
  obtain⟨e1,l1,h3⟩:=h.er l n a q hl hq
  rw [h3]
  exact h2 e1 l1 (Jz n q)
 |ok x =>
  obtain⟨r,l'⟩:=x
  rw [h.ok l n a r l' hl hq]
  exact h1 r l' hq
theorem Ca.bindS{F:RS→Option (α×RS)}(h:Kw F) {G : α×RS→Option γ}{l:TL}{b:Int}(h2:∀r,Ca E b (G (r,l,n,true,b))):Ca E b ((F (l,n,true,b)).bind G):=by
 obtain⟨e,h1⟩:=h l n b
 rw [h1]
 exact h2 e
theorem Out.must{ss:List Str}(hs:ss.length≤100) {G:RS→Option γ}{f:Unit→TL→PR β}{l:TL}(h1:∀l',Bo ss l = .ok ((),l')→Out g E n (G (l',n,false,a)) (f () l')) (h2:∀l' b,Ca E b (G (l',n,true,b))):Out g E n ((Ao (ss,l,n,false,a)).bind G) (bP (Bo ss) f l):=by
 unfold bP
 rw [Att hs]
 cases hq:Bo ss l with
 |error q=>exact h2 q (Jz n q)
 |ok x =>
  obtain⟨⟨⟩,l'⟩:=x
  exact h1 l' hq
theorem Ca.must{ss:List Str}{G:RS→Option γ}{l:TL}{b:Int}(h2:Ca E b (G (l,n,true,b))):Ca E b ((Ao (ss,l,n,true,b)).bind G):=by
 rw [W8]
 exact h2
theorem Out.loop{part:TL→PR α}{m:Nat}{acc:List α}{l:TL}{X:Option γ}(c:List α→TL→Bool→Int→Option γ) {f:List α→TL→PR β}(hX:∀e l',Bz part m acc l = .ok (e,l')→X=c e l' false a) (hE:∀q,Bz part m acc l = .error q→∃e l',X=c e l' true (Jz n q)) (h1:∀e l',Bz part m acc l = .ok (e,l')→Out g E n (c e l' false a) (f e l')) (h2:∀e l' b,Ca E b (c e l' true b)):Out g E n X (bP (Bz part m acc) f l):=by
 unfold bP
 cases hq:Bz part m acc l with
 |error q =>
  obtain⟨e,l',h⟩:=hE q hq
  rw [h]
  exact h2 e l' (Jz n q)
 |ok x =>
  obtain⟨e,l'⟩:=x
  rw [hX e l' hq]
  exact h1 e l' hq
end
theorem Abr{α β:Type}(part:TL→PR α) (f:List α→TL→PR β) (l:TL):bP (Ni part) f l=bP part (fun x l'=>bP (Bz part (l'.length+1) [x]) f l') l:=by
 simp only [bP,Ni]
 cases part l with
 |error q=>rfl
 |ok x=>rfl
theorem Bh4{α:Type}(part:TL→PR α) (l:TL):Ni part l=bP part (fun x l'=>bP (Bz part (l'.length+1) [x]) Ey l') l:=by
 simp only [bP,Ni,Ey]
 cases part l with
 |error q=>rfl
 |ok x =>
  obtain⟨x,l'⟩:=x
  simp only
  cases Bz part (l'.length+1) [x] l'<;>rfl
abbrev gV {α:Type}(n a:Int) (r : α) (l:TL) : α×RS:=(r,l,n,false,a)
abbrev EV {α:Type}(n:Int) (p:Int) (z : α×RS):Prop:=z.2.2.1=n∧z.2.2.2.1=true∧z.2.2.2.2=p
theorem SimP.of{α:Type}{F:RS→Option (α×RS)}{p:TL→PR α}{L:Nat}(h:∀l n a,l.length<L→Out (gV n a) (EV n) n (F (l,n,false,a)) (p l)) (hb:Kw F):SimP F p L where
 ok l n a e l' hl hp:=by
  have:=h l n a hl
  rw [hp] at this
  exact this
 er l n a q hl hp:=by
  have:=h l n a hl
  rw [hp] at this
  obtain⟨⟨r,l',n',b,p'⟩,h1,h2,h3,h4⟩:=this
  simp only at h2 h3 h4
  subst h2 h3 h4
  exact⟨r,l',h1⟩
 bad:=hb
theorem Hn:C7 Cq:=fun l e l' h=>by
 cases l with
 |nil=>cases h
 |cons t r =>
  simp only [Cq] at h
  cases hk:decide (t.kind=2) with
  |true=>rw [hk] at h;cases h;simp
  |false=>rw [hk] at h;cases h
theorem Aav{R:Type}{kx:Ex→Fk→Option R}{n:Int}{c:List Str→TL→Bool→Int→Option R}(hk:∀acc l b a,kx (.exit 0) (l,n,b,a,acc)=c acc l b a) {L:Nat}(hs:SimP Bc Cq L) (he:C7 Cq) (a:Int):∀(k m:Nat) (acc:List Str) (l:TL),l.length<L→l.length<k→l.length<m→acc.length+l.length≤1000000000 →
  match Bz Cq m acc l with
  |.ok (e,l')=>A0 (fun rec=>Hh rec kx) k (l,n,false,a,acc)=c e l' false a
  |.error q=>∃e l',A0 (fun rec=>Hh rec kx) k (l,n,false,a,acc)=c e l' true (Jz n q)
 |0,_,_,_,_,h,_,_=>absurd h (Zm1 _)
 |_,0,_,_,_,_,h,_=>absurd h (Zm1 _)
 |k+1,m+1,acc,l,hl,h1,h2,h3=>by
  have hm:decide (acc.length+1≤A1)=true:=Ze1 (by simp only [A1];omega)
  simp only [Br,Hh,Zs1,Ai,Bz]
  cases hi:isT [44] l with
  |false=>simp only [Fg hi,Zc1,Ak,hk]
  |true =>
   have hlt:=Lj hi
   simp only [Fv hi,Zc1,Ai]
   cases hq:Cq l.tail with
   |error q =>
    obtain⟨e1,l1,h4⟩:=hs.er l.tail n a q (by omega) hq
    simp only [h4,Zc1,hm,chk]
    obtain⟨k,rfl⟩:∃k',k=k'+1:=⟨k-1,by omega⟩
    exact⟨acc++[e1],l1,hk _ _ _ _⟩
   |ok x =>
    obtain⟨x,l1⟩:=x
    have h5:=he _ _ _ hq
    simp only [hs.ok l.tail n a x l1 (by omega) hq,Zc1,hm,chk]
    exact Aav hk hs he a k m (acc++[x]) l1 (by omega) (by omega) (by omega) (by simp only [Zh1,Zf1,Zi1];omega)
theorem A1p{R:Type}{kx:Ex→Fk→Option R}{n:Int}{c:List Str→TL→Bool→Int→Option R}(hk:∀acc l b a,kx (.exit 0) (l,n,b,a,acc)=c acc l b a) {L:Nat}(hs:SimP Bc Cq L) (he:C7 Cq) {a:Int}{k m:Nat}{acc:List Str}{l:TL}(h1:l.length<L) (h2:l.length<k) (h3:l.length<m) (h4:acc.length+l.length≤1000000000) (e:List Str) (l':TL) (h:Bz Cq m acc l = .ok (e,l')):A0 (fun rec=>Hh rec kx) k (l,n,false,a,acc)=c e l' false a:=by
 have:=Aav hk hs he a k m acc l h1 h2 h3 h4
 rw [h] at this
 exact this
theorem A0t{R:Type}{kx:Ex→Fk→Option R}{n:Int}{c:List Str→TL→Bool→Int→Option R}(hk:∀acc l b a,kx (.exit 0) (l,n,b,a,acc)=c acc l b a) {L:Nat}(hs:SimP Bc Cq L) (he:C7 Cq) {a:Int}{k m:Nat}{acc:List Str}{l:TL}(h1:l.length<L) (h2:l.length<k) (h3:l.length<m) (h4:acc.length+l.length≤1000000000) (q:TL) (h:Bz Cq m acc l = .error q):∃e l',A0 (fun rec=>Hh rec kx) k (l,n,false,a,acc)=c e l' true (Jz n q):=by
 have:=Aav hk hs he a k m acc l h1 h2 h3 h4
 rw [h] at this
 exact this
theorem Adi{R:Type}{kx:Ex→Fk→Option R}{n a:Int}{l:TL}{acc:List Str}(k:Nat):A0 (fun rec=>Hh rec kx) (k+1) (l,n,true,a,acc)=kx (.exit 0) (l,n,true,a,acc):=by
 simp only [Br,Hh,Zt1,Ak]
theorem Zt{R:Type}{kx:Ex→Fm→Option R}{n:Int}{c:List Xpr→TL→Bool→Int→Option R}(hk:∀acc l b a,kx (.exit 0) (l,n,b,a,acc)=c acc l b a) {L:Nat}(hs:SimP Gk orW L) (he:C7 orW) (a:Int):∀(k m:Nat) (acc:List Xpr) (l:TL),l.length<L→l.length<k→l.length<m→acc.length+l.length≤1000000000 →
  match Bz orW m acc l with
  |.ok (e,l')=>A0 (fun rec=>G2 rec kx) k (l,n,false,a,acc)=c e l' false a
  |.error q=>∃e l',A0 (fun rec=>G2 rec kx) k (l,n,false,a,acc)=c e l' true (Jz n q)
 |0,_,_,_,_,h,_,_=>absurd h (Zm1 _)
 |_,0,_,_,_,_,h,_=>absurd h (Zm1 _)
 |k+1,m+1,acc,l,hl,h1,h2,h3=>by
  have hm:decide (acc.length+1≤A1)=true:=Ze1 (by simp only [A1];omega)
  simp only [Br,G2,Zs1,Ai,Bz]
  cases hi:isT [44] l with
  |false=>simp only [Fg hi,Zc1,Ak,hk]
  |true =>
   have hlt:=Lj hi
   simp only [Fv hi,Zc1,Ai]
   cases hq:orW l.tail with
   |error q =>
    obtain⟨e1,l1,h4⟩:=hs.er l.tail n a q (by omega) hq
    simp only [h4,Zc1,hm,decide_true,Bool.and_self,chk]
    obtain⟨k,rfl⟩:∃k',k=k'+1:=⟨k-1,by omega⟩
    exact⟨acc++[e1],l1,hk _ _ _ _⟩
   |ok x =>
    obtain⟨x,l1⟩:=x
    have h5:=he _ _ _ hq
    simp only [hs.ok l.tail n a x l1 (by omega) hq,Zc1,hm,decide_true,Bool.and_self,chk]
    exact Zt hk hs he a k m (acc++[x]) l1 (by omega) (by omega) (by omega) (by simp only [Zh1,Zf1,Zi1];omega)
theorem A1r{R:Type}{kx:Ex→Fm→Option R}{n:Int}{c:List Xpr→TL→Bool→Int→Option R}(hk:∀acc l b a,kx (.exit 0) (l,n,b,a,acc)=c acc l b a) {L:Nat}(hs:SimP Gk orW L) (he:C7 orW) {a:Int}{k m:Nat}{acc:List Xpr}{l:TL}(h1:l.length<L) (h2:l.length<k) (h3:l.length<m) (h4:acc.length+l.length≤1000000000) (e:List Xpr) (l':TL) (h:Bz orW m acc l = .ok (e,l')):A0 (fun rec=>G2 rec kx) k (l,n,false,a,acc)=c e l' false a:=by
 have:=Zt hk hs he a k m acc l h1 h2 h3 h4
 rw [h] at this
 exact this
theorem A02{R:Type}{kx:Ex→Fm→Option R}{n:Int}{c:List Xpr→TL→Bool→Int→Option R}(hk:∀acc l b a,kx (.exit 0) (l,n,b,a,acc)=c acc l b a) {L:Nat}(hs:SimP Gk orW L) (he:C7 orW) {a:Int}{k m:Nat}{acc:List Xpr}{l:TL}(h1:l.length<L) (h2:l.length<k) (h3:l.length<m) (h4:acc.length+l.length≤1000000000) (q:TL) (h:Bz orW m acc l = .error q):∃e l',A0 (fun rec=>G2 rec kx) k (l,n,false,a,acc)=c e l' true (Jz n q):=by
 have:=Zt hk hs he a k m acc l h1 h2 h3 h4
 rw [h] at this
 exact this
theorem An4{R:Type}{kx:Ex→Fm→Option R}{n a:Int}{l:TL}{acc:List Xpr}(k:Nat):A0 (fun rec=>G2 rec kx) (k+1) (l,n,true,a,acc)=kx (.exit 0) (l,n,true,a,acc):=by
 simp only [Br,G2,Zt1,Ak]
theorem Fi:Kw Bc:=(Dd 0).bad
theorem Ah6:Kw Gk:=(Sh (L:=0) (by omega)).bad
theorem Ahz:Kw Ds:=fun l n a=>by
 obtain⟨e1,h1⟩:=Ah6 l n a
 simp only [Ds,Jr,h1,Zc1,An4]
 exact⟨[e1],rfl⟩
theorem Aps{L:Nat}(hL:L≤1000000000):SimP Ds Aak L :=.of (fun l n a hl=>by
 unfold Aak
 rw [Bh4]
 simp only [Ds,Jr]
 refine Out.bindS (Sh hL) hl (fun r l' hp =>?_) (fun r l' b =>?_)
 ·have h5:=H0 _ _ _ hp
  have hm:decide (0+1≤A1)=true:=Ze1 (by simp only [A1];omega)
  simp only [hm,decide_true,Bool.and_self,chk,Ai]
  have hl':[r].length+l'.length≤1000000000:=by simp only [Zf1,Zi1];omega
  refine Out.loop (a:=a) (fun acc l b a=>some (acc,l,n,b,a)) (A1r (fun _ _ _ _=>rfl) (Sh hL) H0 (by omega) (by omega) (by omega) hl') (A02 (fun _ _ _ _=>rfl) (Sh hL) H0 (by omega) (by omega) (by omega) hl') (fun e l2 _ =>?_) (fun e l2 b =>?_)
  ·exact rfl
  ·exact⟨_,rfl,rfl,rfl,rfl⟩
 ·have hm:decide (0+1≤A1)=true:=Ze1 (by simp only [A1];omega)
  simp only [hm,decide_true,Bool.and_self,chk,Ai,An4]
  exact⟨_,rfl,rfl,rfl,rfl⟩) Ahz
theorem L5:Kw Et:=fun l n a=>by
 obtain⟨e1,h1⟩:=Fi l n a
 simp only [Et,Jg,W8,h1,Zc1,Adi]
 exact⟨[e1],rfl⟩
theorem Apv{L:Nat}(hL:L≤1000000000):SimP Et X0 L :=.of (fun l n a hl=>by
 unfold X0
 simp only [Et,Jg]
 refine Out.must (by decide) (fun l0 h0 =>?_) (fun l0 b =>?_)
 ·have hl0:l0.length≤l.length:=by
   cases hi:isT [40] l with
   |true=>rw [Ajb hi] at h0;cases h0;exact Bj l
   |false=>rw [Anj hi] at h0;cases h0
  rw [Abr]
  refine Out.bindS (Dd L) (show l0.length<L by omega) (fun r l' hp =>?_) (fun r l' b =>?_)
  ·have h5:l'.length<l0.length:=Hn _ _ _ hp
   have hl':[r].length+l'.length≤1000000000:=by simp only [Zf1,Zi1];omega
   refine Out.loop (a:=a) (fun acc l b a=>(Ao ([[41]],l,n,b,a)).bind fun(x19,x20,x21,x22)=>some (acc,x19,x20,x21,x22)) (A1p (fun _ _ _ _=>rfl) (Dd L) Hn (by omega) (by omega) (by omega) hl') (A0t (fun _ _ _ _=>rfl) (Dd L) Hn (by omega) (by omega) (by omega) hl') (fun e l2 _ =>?_) (fun e l2 b =>?_)
   ·exact Out.must (by decide) (fun l3 _=>rfl) (fun l3 b=>⟨_,rfl,rfl,rfl,rfl⟩)
   ·exact Ca.must ⟨_,rfl,rfl,rfl,rfl⟩
  ·simp only [Adi]
   exact Ca.must ⟨_,rfl,rfl,rfl,rfl⟩
 ·refine Ca.bindS Fi (fun r =>?_)
  simp only [Adi]
  exact Ca.must ⟨_,rfl,rfl,rfl,rfl⟩) L5
end Go.Proofs.YthndhaolemgbdaaGreatDoor
namespace Go.Proofs.YthndhaolemgbdaaGreatDoor
open Go.Ax
section
variable {V R α:Type}{step:(V→Option R)→V→Option R}{st:TL→Int→Bool→Int→List α→V}{n:Int}{Fp:RS→Option (α×RS)}{part:TL→PR α}{L:Nat}{c:List α→TL→Bool→Int→Option R}
theorem Aof(hs:SimP Fp part L) (he:C7 part)
  (hg:∀rec l a acc,acc.length≤1000000000→isT [44] l=true→step rec (st l n false a acc)=(Fp (l.tail,n,false,a)).bind fun z=>rec (st z.2.1 z.2.2.1 z.2.2.2.1 z.2.2.2.2 (acc++[z.1])))
  (hf:∀rec l a acc,isT [44] l=false→step rec (st l n false a acc)=c acc l false a)
  (hb:∀rec l a acc,step rec (st l n true a acc)=c acc l true a) (a:Int):∀(k m:Nat) (acc:List α) (l:TL),l.length<L→l.length<k→l.length<m→acc.length+l.length≤1000000000 →
  match Bz part m acc l with
  |.ok (e,l')=>A0 step k (st l n false a acc)=c e l' false a
  |.error q=>∃e l',A0 step k (st l n false a acc)=c e l' true (Jz n q)
 |0,_,_,_,_,h,_,_=>absurd h (Zm1 _)
 |_,0,_,_,_,_,h,_=>absurd h (Zm1 _)
 |k+1,m+1,acc,l,hl,h1,h2,h3=>by
  simp only [Br,Bz]
  cases hi:isT [44] l with
  |false=>exact hf _ l a acc hi
  |true =>
   have hlt:=Lj hi
   simp only [hg _ l a acc (by omega) hi]
   cases hq:part l.tail with
   |error q =>
    obtain⟨e1,l1,h4⟩:=hs.er l.tail n a q (by omega) hq
    simp only [h4,Zc1]
    obtain⟨k,rfl⟩:∃k',k=k'+1:=⟨k-1,by omega⟩
    exact⟨acc++[e1],l1,hb _ _ _ _⟩
   |ok x =>
    obtain⟨x,l1⟩:=x
    have h5:=he _ _ _ hq
    simp only [hs.ok l.tail n a x l1 (by omega) hq,Zc1]
    exact Aof hs he hg hf hb a k m (acc++[x]) l1 (by omega) (by omega) (by omega) (by simp only [Zh1,Zf1,Zi1];omega)
theorem Aua(hs:SimP Fp part L) (he:C7 part)
  (hg:∀rec l a acc,acc.length≤1000000000→isT [44] l=true→step rec (st l n false a acc)=(Fp (l.tail,n,false,a)).bind fun z=>rec (st z.2.1 z.2.2.1 z.2.2.2.1 z.2.2.2.2 (acc++[z.1])))
  (hf:∀rec l a acc,isT [44] l=false→step rec (st l n false a acc)=c acc l false a)
  (hb:∀rec l a acc,step rec (st l n true a acc)=c acc l true a) {a:Int}{k m:Nat}{acc:List α}{l:TL}(h1:l.length<L) (h2:l.length<k) (h3:l.length<m) (h4:acc.length+l.length≤1000000000) (e:List α) (l':TL) (h:Bz part m acc l = .ok (e,l')):A0 step k (st l n false a acc)=c e l' false a:=by
 have:=Aof hs he hg hf hb a k m acc l h1 h2 h3 h4
 rw [h] at this
 exact this
theorem Atg(hs:SimP Fp part L) (he:C7 part)
  (hg:∀rec l a acc,acc.length≤1000000000→isT [44] l=true→step rec (st l n false a acc)=(Fp (l.tail,n,false,a)).bind fun z=>rec (st z.2.1 z.2.2.1 z.2.2.2.1 z.2.2.2.2 (acc++[z.1])))
  (hf:∀rec l a acc,isT [44] l=false→step rec (st l n false a acc)=c acc l false a)
  (hb:∀rec l a acc,step rec (st l n true a acc)=c acc l true a) {a:Int}{k m:Nat}{acc:List α}{l:TL}(h1:l.length<L) (h2:l.length<k) (h3:l.length<m) (h4:acc.length+l.length≤1000000000) (q:TL) (h:Bz part m acc l = .error q):∃e l',A0 step k (st l n false a acc)=c e l' true (Jz n q):=by
 have:=Aof hs he hg hf hb a k m acc l h1 h2 h3 h4
 rw [h] at this
 exact this
end
abbrev Cl:=Int×Str×Str×List Col×List Str×List Xpr×List (List Xpr)×List SetE×Bool×Int×Int×Int×Str×Str×List Xpr×List Str×List Bool×Int
abbrev ES (n:Int) (p:Int) (z:TL×Int×Bool×Int×Cl):Prop:=z.2.1=n∧z.2.2.1=true∧z.2.2.2.1=p
theorem Akr(l:TL) (n a:Int) (z:Cl):C4 (l,n,true,a,z)=some (l,n,true,a,z):=by
 obtain⟨sk,sn,so,sc,ss,sl,sr,st,sh,wk,vk,vn,vs,wn,wl,sd,se,sm⟩:=z
 simp only [C4,Nu,Zt1,Ak]
theorem Ahx{L:Nat}(hL:L≤1000000000) (n a sk:Int) (sn so:Str) (sc:List Col) (ss:List Str) (sl:List Xpr) (sr:List (List Xpr)) (st:List SetE) (sd:List Str) (se:List Bool) (sm:Int) {l:TL}(hl:l.length<L) :
  Out (fun(w:Bool×Xpr) l'=>((l',n,false,a,sk,sn,so,sc,ss,sl,sr,st,w.1,w.2.kind,w.2.v.kind,w.2.v.n,w.2.v.s,w.2.name,w.2.l,sd,se,sm):TL×Int×Bool×Int×Cl)) (ES n) n (C4 (l,n,false,a,sk,sn,so,sc,ss,sl,sr,st,false,0,0,0,[],[],[],sd,se,sm)) (Ki l):=by
 simp only [C4,Nu,Zs1,Ai,Ki]
 cases hi:isT Q0 l with
 |false =>
  simp only [Fg (s:=[87,72,69,82,69]) hi,Zc1,Ak]
  exact rfl
 |true =>
  have ht:=Bj l
  simp only [Fv (s:=[87,72,69,82,69]) hi,Zc1,Ai]
  cases hq:orW l.tail with
  |error q =>
   obtain⟨e1,l1,h1⟩:=(Sh hL).er l.tail n a q (by omega) hq
   simp only [h1,Zc1]
   exact⟨_,rfl,rfl,rfl,rfl⟩
  |ok x =>
   obtain⟨x,l1⟩:=x
   simp only [(Sh hL).ok l.tail n a x l1 (by omega) hq,Zc1]
   exact rfl
end Go.Proofs.YthndhaolemgbdaaGreatDoor
namespace Go.Proofs.YthndhaolemgbdaaGreatDoor
open Go.Ax
def Asy(s:RS):Option (SetE×RS):=(Bc s).bind fun(x28,x29,x30,x31,x32) =>
 (Ao ([[61]],x29,x30,x31,x32)).bind fun(x33,x34,x35,x36) =>
  (Gk (x33,x34,x35,x36)).bind fun(x37,x38,x39,x40,x41)=>some (SetE.mk x28 (Ng x37),x38,x39,x40,x41)
theorem Asf{s:Str}{l l':TL}{x:Unit}(h:Bo [s] l = .ok (x,l')):l'.length≤l.length:=by
 cases hi:isT s l with
 |true=>rw [Ajb hi] at h;cases h;exact Bj l
 |false=>rw [Anj hi] at h;cases h
theorem Ar9:Kw Asy:=fun l n a=>by
 obtain⟨e1,h1⟩:=Fi l n a
 obtain⟨e2,h2⟩:=Ah6 l n a
 simp only [Asy,h1,W8,h2,Zc1]
 exact⟨_,rfl⟩
theorem Aul{L:Nat}(hL:L≤1000000000):SimP Asy Bhx L :=.of (fun l n a hl=>by
 unfold Bhx Asy
 refine Out.bindS (Dd L) hl (fun r l1 h1 =>?_) (fun r l1 b =>?_)
 ·have q1:l1.length<l.length:=Hn _ _ _ h1
  refine Out.must (by decide) (fun l2 h2 =>?_) (fun l2 b =>?_)
  ·have q2:=Asf h2
   refine Out.bindS (Sh hL) (show l2.length<L by omega) (fun e l3 h3 =>?_) (fun e l3 b =>?_)
   ·show some (SetE.mk r (Ng e),l3,n,false,a)=some (gV n a ⟨r,e⟩ l3)
    rw [H7]
   ·exact⟨_,rfl,rfl,rfl,rfl⟩
  ·exact Ca.bindS Ah6 (fun e=>⟨_,rfl,rfl,rfl,rfl⟩)
 ·exact Ca.must (Ca.bindS Ah6 (fun e=>⟨_,rfl,rfl,rfl,rfl⟩))) Ar9
theorem H2{α β:Type}{p:TL→PR α}{f : α→TL→PR β}{l l':TL}{e : β}(h:bP p f l = .ok (e,l')):∃x l1,p l = .ok (x,l1)∧f x l1 = .ok (e,l'):=by
 unfold bP at h
 cases hq:p l with
 |error q=>rw [hq] at h;cases h
 |ok x =>
  obtain⟨x,l1⟩:=x
  rw [hq] at h
  exact⟨x,l1,rfl,h⟩
theorem Ae0:C7 Bhx:=fun l e l' h=>by
 obtain⟨x,l1,h1,h⟩:=H2 h
 obtain⟨_,l2,h2,h⟩:=H2 h
 obtain⟨y,l3,h3,h⟩:=H2 h
 have q1:=Hn _ _ _ h1
 have q2:=Asf h2
 have q3:=H0 _ _ _ h3
 cases h
 omega
abbrev upV (sn so:Str) (sc:List Col) (ss:List Str) (sl:List Xpr) (sr:List (List Xpr)) (sd:List Str) (se:List Bool) (sm:Int) (l:TL) (n:Int) (b:Bool) (a:Int) (acc:List SetE):Cu:=(l,n,b,a,6,sn,so,sc,ss,sl,sr,acc,false,0,0,0,[],[],[],sd,se,sm)
section
variable {R:Type}{kx:Ex→Cu→Option R}{n:Int}{sn so:Str}{sc:List Col}{ss:List Str}{sl:List Xpr}{sr:List (List Xpr)}{sd:List Str}{se:List Bool}{sm:Int}
theorem Bpu(rec:Cu→Option R) (l:TL) (a:Int) (acc:List SetE) (ha:acc.length≤1000000000) (hi:isT [44] l=true):Dy rec kx (upV sn so sc ss sl sr sd se sm l n false a acc)=(Asy (l.tail,n,false,a)).bind fun z=>rec (upV sn so sc ss sl sr sd se sm z.2.1 z.2.2.1 z.2.2.2.1 z.2.2.2.2 (acc++[z.1])):=by
 have hm:decide (acc.length+1≤A1)=true:=Ze1 (by simp only [A1];omega)
 simp only [Dy,Zs1,Ai,Fv hi,Zc1,Asy]
 cases Bc (l.tail,n,false,a) with
 |none=>rfl
 |some x =>
  simp only [Zc1]
  cases Ao ([[61]],x.2) with
  |none=>rfl
  |some y =>
   simp only [Zc1]
   cases Gk y with
   |none=>rfl
   |some z=>simp only [Zc1,hm,chk,Ai]
theorem Bqe(rec:Cu→Option R) (l:TL) (a:Int) (acc:List SetE) (hi:isT [44] l=false):Dy rec kx (upV sn so sc ss sl sr sd se sm l n false a acc)=kx (.exit 0) (upV sn so sc ss sl sr sd se sm l n false a acc):=by
 simp only [Dy,Zs1,Ai,Fg hi,Zc1,Ak]
theorem Bme(rec:Cu→Option R) (l:TL) (a:Int) (acc:List SetE):Dy rec kx (upV sn so sc ss sl sr sd se sm l n true a acc)=kx (.exit 0) (upV sn so sc ss sl sr sd se sm l n true a acc):=by
 simp only [Dy,Zt1,Ak]
end
end Go.Proofs.YthndhaolemgbdaaGreatDoor
namespace Go.Proofs.YthndhaolemgbdaaGreatDoor
open Go.Ax
theorem Out.map{α β γ:Type}{g : α→TL→γ}{g' : β→TL→γ}{E:Int→γ→Prop}{n:Int}{x:Option γ}{p:TL→PR α}{h : α→β}{l:TL}(ho:Out g E n x (p l)) (hg:∀r l',g r l' = g' (h r) l'):Out g' E n x (bP p (fun w=>Ey (h w)) l):=by
 unfold bP
 cases hq:p l with
 |error q=>rw [hq] at ho;exact ho
 |ok y =>
  obtain⟨r,l'⟩:=y
  rw [hq] at ho
  exact ho.trans (congrArg some (hg r l'))
def Az2(s:Stm):Cl:=(s.kind,s.name,s.on,s.cols,s.names,s.l,s.rows,s.sets,s.has,s.whr.kind,s.whr.v.kind,s.whr.v.n,s.whr.v.s,s.whr.name,s.whr.l,s.order,s.desc,s.most)
abbrev gS (n a:Int) (s:Stm) (l:TL):TL×Int×Bool×Int×Cl:=(l,n,false,a,Az2 s)
abbrev z0:Cl:=(0,[],[],[],[],[],[],[],false,0,0,0,[],[],[],[],[],0)
abbrev upX (nm:Str):=upV nm [] [] [] [] [] [] [] 0
def upK(e:Ex) (v:Cu):Option Dv:=match e with
 |.exit 0=>C4 v
 |_=>none
theorem Bom(l:TL) (n:Int) (b:Bool) (a:Int):Kx (l,n,b,a,z0)=(Bc (l,n,b,a)).bind fun x=>(Ao ([[83,69,84]],x.2)).bind fun y=>(Asy y).bind fun z=>A0 (fun rec=>Dy rec upK) (l.length+3) (upX x.1 z.2.1 z.2.2.1 z.2.2.2.1 z.2.2.2.2 [z.1]):=by
 have hk:∀(e:Ex) (vz:Cu),(match vz with|(v,v1,v2,v3,v4,v5,v6,v7,v8,v9,v10,v11,v12,v13,v14,v15,v16,v17,v18,v19,v20,v21)=>match e with
   |.exit 0=>(C4 (v,v1,v2,v3,v4,v5,v6,v7,v8,v9,v10,v11,v12,v13,v14,v15,v16,v17,v18,v19,v20,v21)).bind fun(x42,x43,x44,x45,x46,x47,x48,x49,x50,x51,x52,x53,x54,x55,x56,x57,x58,x59,x60,x61,x62,x63)=>some (x42,x43,x44,x45,x46,x47,x48,x49,x50,x51,x52,x53,x54,x55,x56,x57,x58,x59,x60,x61,x62,x63)
   |_=>none:Option Dv)=upK e vz:=fun e vz=>by
  match e with
  |.exit 0 =>
   show(C4 vz).bind (fun x=>some x)=C4 vz
   cases C4 vz<;>rfl
  |.exit (_+1)=>rfl
  |.ret=>rfl
  |.normal=>rfl
 have hm:decide (([]:List SetE).length+1≤A1)=true:=Ze1 (by simp only [A1,Zi1];omega)
 unfold Kx
 show(Bc (l,n,b,a)).bind _=_
 cases Bc (l,n,b,a) with
 |none=>rfl
 |some x =>
  show(Ao ([[83,69,84]],x.2)).bind _=(Ao ([[83,69,84]],x.2)).bind _
  cases Ao ([[83,69,84]],x.2) with
  |none=>rfl
  |some y =>
   show(Bc y).bind _=(Asy y).bind _
   unfold Asy
   cases Bc y with
   |none=>rfl
   |some x9 =>
    show(Ao ([[61]],x9.2)).bind _=Option.bind ((Ao ([[61]],x9.2)).bind _) _
    cases Ao ([[61]],x9.2) with
    |none=>rfl
    |some y2 =>
     show(Gk y2).bind _=Option.bind ((Gk y2).bind _) _
     cases Gk y2 with
     |none=>rfl
     |some z =>
      obtain⟨z1,z2,z3,z4,z5⟩:=z
      have hk2:=funext fun e=>funext fun vz=>hk e vz
      rw [←hk2]
      simp only [Zc1]
      rw [hm]
      rfl
theorem Ag1{α:Type}{part:TL→PR α}(he:C7 part):∀{m:Nat}{acc:List α}{l:TL}{e:List α}{l':TL},Bz part m acc l = .ok (e,l')→l'.length≤l.length
 |0,_,_,_,_,h=>by cases h
 |m+1,acc,l,e,l',h=>by
  simp only [Bz] at h
  cases hi:isT [44] l with
  |false=>rw [hi] at h;cases h;exact Zn1 _
  |true =>
   rw [hi] at h
   simp only at h
   cases hq:part l.tail with
   |error q=>rw [hq] at h;cases h
   |ok x =>
    obtain⟨x,l1⟩:=x
    rw [hq] at h
    have h1:=he _ _ _ hq
    have h2:=Ag1 he h
    have h3:=Bj l
    omega
theorem A0w(nm:Str) (k:Nat) (l:TL) (n a:Int) (acc:List SetE):Ca (ES n) a (A0 (fun rec=>Dy rec upK) (k+1) (upX nm l n true a acc)):=by
 rw [Br,Bme]
 exact⟨_,Akr l n a _,rfl,rfl,rfl⟩
theorem A03{L:Nat}(hL:L≤1000000000) {l:TL}(hl:l.length<L) (n a:Int):Out (gS n a) (ES n) n (Kx (l,n,false,a,z0)) (M4 l):=by
 rw [Bom]
 unfold M4
 refine Out.bindS (Dd L) hl (fun nm l1 h1 =>?_) (fun nm l1 b=>Ca.must (Ca.bindS Ar9 fun x=>A0w nm _ l1 n b [x]))
 have q1:l1.length<l.length:=Hn _ _ _ h1
 refine Out.must (by decide) (fun l2 h2 =>?_) (fun l2 b=>Ca.bindS Ar9 fun x=>A0w nm _ l2 n b [x])
 have q2:=Asf h2
 rw [Abr]
 refine Out.bindS (Aul hL) (show l2.length<L by omega) (fun x l3 h3 =>?_) (fun x l3 b=>A0w nm _ l3 n b [x])
 have q3:l3.length<l2.length:=Ae0 _ _ _ h3
 have q4:[x].length+l3.length≤1000000000:=by simp only [Zf1,Zi1];omega
 refine Out.loop (a:=a) (fun acc l b a=>upK (.exit 0) (upX nm l n b a acc))
  (Aua (step:=fun rec=>Dy rec upK) (st:=upX nm) (n:=n) (c:=fun acc l b a=>upK (.exit 0) (upX nm l n b a acc)) (Aul hL) Ae0 (fun rec l a acc ha hi=>Bpu rec l a acc ha hi) (fun rec l a acc hi=>Bqe rec l a acc hi) (fun rec l a acc=>Bme rec l a acc) (a:=a) (k:=l.length+3) (m:=l3.length+1) (acc:=[x]) (l:=l3) (by omega) (by omega) (by omega) q4)
  (Atg (step:=fun rec=>Dy rec upK) (st:=upX nm) (n:=n) (c:=fun acc l b a=>upK (.exit 0) (upX nm l n b a acc)) (Aul hL) Ae0 (fun rec l a acc ha hi=>Bpu rec l a acc ha hi) (fun rec l a acc hi=>Bqe rec l a acc hi) (fun rec l a acc=>Bme rec l a acc) (a:=a) (k:=l.length+3) (m:=l3.length+1) (acc:=[x]) (l:=l3) (by omega) (by omega) (by omega) q4) (fun acc l4 h4 =>?_) (fun acc l4 b=>⟨_,Akr l4 n b _,rfl,rfl,rfl⟩)
 have q5:l4.length≤l3.length:=Ag1 Ae0 h4
 exact Out.map (Ahx hL n a 6 nm [] [] [] [] [] acc [] [] 0 (show l4.length<L by omega)) (fun w l'=>rfl)
end Go.Proofs.YthndhaolemgbdaaGreatDoor
namespace Go.Proofs.YthndhaolemgbdaaGreatDoor
open Go.Ax
def A59(c:Col) (s:RS):Option (Col×RS):=cond (!s.2.2.1) ((A5 ([82,69,70,69,82,69,78,67,69,83],s)).bind fun z=>cond z.1 ((Bc z.2).bind fun y=>some (Col.mk c.name c.kind c.notNull c.unique y.1,y.2)) (some (c,z.2))) (some (c,s))
def Avb(c:Col) (s:RS):Option (Col×RS):=cond (!s.2.2.1) ((A5 ([85,78,73,81,85,69],s)).bind fun z=>A59 (Col.mk c.name c.kind c.notNull z.1 c.ref) z.2) (A59 (Col.mk c.name c.kind c.notNull false c.ref) s)
def Bbt(c:Col) (s:RS):Option (Col×RS):=cond c.notNull ((Ao ([[78,85,76,76]],s)).bind fun y=>Avb c y) (Avb c s)
def Awn(c:Col) (s:RS):Option (Col×RS):=cond (!s.2.2.1) ((A5 ([78,79,84],s)).bind fun z=>Bbt (Col.mk c.name c.kind z.1 c.unique c.ref) z.2) (Bbt (Col.mk c.name c.kind false c.unique c.ref) s)
def A7m(e:Ex) (v:Gg):Option Aei:=match e with
 |.exit 0=>cond (decide (v.2.2.2.2.2.2.kind=0)) ((C2 (v.2.1,v.2.2.1,v.2.2.2.1,v.2.2.2.2.1)).bind fun y=>Awn v.2.2.2.2.2.2 y) (Awn v.2.2.2.2.2.2 (v.2.1,v.2.2.1,v.2.2.2.1,v.2.2.2.2.1))
 |_=>none
abbrev c0 (nm:Str):Col:=Col.mk nm 0 false false []
theorem A4l(l:TL) (n:Int) (b:Bool) (a:Int):N2 (l,n,b,a)=(Bc (l,n,b,a)).bind fun x=>A0 (fun rec=>G7 rec A7m) 10 (0,x.2.1,x.2.2.1,x.2.2.2.1,x.2.2.2.2,c0 [],c0 x.1):=by
 unfold N2
 show(Bc (l,n,b,a)).bind _=_
 cases Bc (l,n,b,a) with
 |none=>rfl
 |some x =>
  obtain⟨x0,x1,x2,x3,x4⟩:=x
  simp only [Zc1]
  refine congrFun (congrArg (fun kx=>A0 (fun rec=>G7 rec kx) 10) ?_) _
  funext e v
  match e with
  |.exit 0 =>
   obtain⟨v1,v2,v3,v4,v5,v6,v7⟩:=v
   rfl
  |.exit (_+1)=>rfl
  |.ret=>rfl
  |.normal=>rfl
section
variable {R:Type}{kx:Ex→Gg→Option R}(rec:Gg→Option R) (w:TL) (n a:Int) (z:Col) (nm:Str)
theorem pc0(b:Bool) (c:Col):G7 rec kx (0,w,n,b,a,z,c)=rec (1,w,n,b,a,z,c):=rfl
theorem pc1(b:Bool) (c:Col):G7 rec kx (1,w,n,b,a,z,c)=rec (2,w,n,b,a,z,c):=rfl
theorem pc2:G7 rec kx (2,w,n,false,a,z,c0 nm)=(A5 ([66,79,79,76],w,n,false,a)).bind fun(x5,x6,x7,x8,x9)=>cond x5 (rec (3,x6,x7,x8,x9,z,Col.mk nm 2 false false [])) (rec (3,x6,x7,x8,x9,z,c0 nm)):=rfl
theorem pc3:G7 rec kx (3,w,n,false,a,z,c0 nm)=(A5 ([73,78,84],w,n,false,a)).bind fun(x5,x6,x7,x8,x9)=>cond x5 (rec (4,x6,x7,x8,x9,z,Col.mk nm 3 false false [])) (rec (4,x6,x7,x8,x9,z,c0 nm)):=rfl
theorem pc4:G7 rec kx (4,w,n,false,a,z,c0 nm)=(A5 ([84,69,88,84],w,n,false,a)).bind fun(x5,x6,x7,x8,x9)=>cond x5 (rec (5,x6,x7,x8,x9,z,Col.mk nm 4 false false [])) (rec (5,x6,x7,x8,x9,z,c0 nm)):=rfl
theorem pc5:G7 rec kx (5,w,n,false,a,z,c0 nm)=(A5 ([66,89,84,69,83],w,n,false,a)).bind fun(x5,x6,x7,x8,x9)=>cond x5 (rec (6,x6,x7,x8,x9,z,Col.mk nm 5 false false [])) (rec (6,x6,x7,x8,x9,z,c0 nm)):=rfl
end
theorem Bcs{R:Type}{kx:Ex→Gg→Option R}(l:TL) (n a:Int) (z:Col) (nm:Str):A0 (fun rec=>G7 rec kx) 10 (0,l,n,false,a,z,c0 nm)=match Xo l with
  |.ok (k,l')=>kx (.exit 0) (6,l',n,false,a,z,Col.mk nm k false false [])
  |.error q=>kx (.exit 0) (6,q,n,false,a,z,c0 nm):=by
 have e:∀(m:Nat) (v:Gg),A0 (fun rec=>G7 rec kx) (m+1) v=G7 (A0 (fun rec=>G7 rec kx) m) kx v:=fun _ _=>rfl
 rw [e 9,pc0,e 8,pc1,e 7,pc2]
 unfold Xo
 cases h2:isT Apx l with
 |true =>
  rw [Fv (s:=[66,79,79,76]) h2]
  rfl
 |false =>
  rw [Fg (s:=[66,79,79,76]) h2]
  simp only [Zc1,Ak]
  rw [e 6,pc3]
  cases h3:isT A64 l with
  |true =>
   rw [Fv (s:=[73,78,84]) h3]
   rfl
  |false =>
   rw [Fg (s:=[73,78,84]) h3]
   simp only [Zc1,Ak]
   rw [e 5,pc4]
   cases h4:isT Aqv l with
   |true =>
    rw [Fv (s:=[84,69,88,84]) h4]
    rfl
   |false =>
    rw [Fg (s:=[84,69,88,84]) h4]
    simp only [Zc1,Ak]
    rw [e 4,pc5]
    cases h5:isT Agy l with
    |true =>
     rw [Fv (s:=[66,89,84,69,83]) h5]
     rfl
    |false =>
     rw [Fg (s:=[66,89,84,69,83]) h5]
     rfl
theorem A4b{R:Type}{kx:Ex→Gg→Option R}(l:TL) (n a:Int) (z c:Col):A0 (fun rec=>G7 rec kx) 10 (0,l,n,true,a,z,c)=kx (.exit 0) (6,l,n,true,a,z,c):=rfl
theorem Bj3(c:Col) (l:TL) (n a:Int):Avb c (l,n,true,a)=some (Col.mk c.name c.kind c.notNull false c.ref,l,n,true,a):=rfl
theorem Atq(c:Col) (l:TL) (n a:Int):Awn c (l,n,true,a)=some (Col.mk c.name c.kind false false c.ref,l,n,true,a):=rfl
section
variable {L:Nat}(n a:Int) (nm:Str) (k:Int)
theorem Aq7(nn u:Bool) {l:TL}(hl:l.length<L):Out (gV n a) (EV n) n (A59 (Col.mk nm k nn u []) (l,n,false,a)) (bP Aug (fun r=>Ey (Col.mk nm k nn u r)) l):=by
 unfold A59 Aug bP
 simp only [Zs1,Ai]
 cases hi:isT Aza l with
 |false =>
  rw [Fg (s:=[82,69,70,69,82,69,78,67,69,83]) hi]
  exact rfl
 |true =>
  have ht:=Bj l
  rw [Fv (s:=[82,69,70,69,82,69,78,67,69,83]) hi]
  simp only [Zc1,Ai]
  cases hq:Cq l.tail with
  |error q =>
   obtain⟨e1,l1,h1⟩:=(Dd L).er l.tail n a q (by omega) hq
   rw [h1]
   exact⟨_,rfl,rfl,rfl,rfl⟩
  |ok x =>
   obtain⟨x,l1⟩:=x
   rw [(Dd L).ok l.tail n a x l1 (by omega) hq]
   exact rfl
theorem Aqy(nn:Bool) {l:TL}(hl:l.length<L):Out (gV n a) (EV n) n (Avb (Col.mk nm k nn false []) (l,n,false,a)) (bP (Afp H8 []) (fun u=>bP Aug fun r=>Ey (Col.mk nm k nn u r)) l):=by
 unfold Avb Afp
 simp only [Zs1,Ai]
 cases hi:isT H8 l with
 |false =>
  rw [Fg (s:=[85,78,73,81,85,69]) hi]
  have:=Aq7 (L:=L) n a nm k nn false hl
  unfold bP at this ⊢
  simp only [hi]
  exact this
 |true =>
  have ht:=Bj l
  rw [Fv (s:=[85,78,73,81,85,69]) hi]
  have:=Aq7 (L:=L) n a nm k nn true (l:=l.tail) (by omega)
  unfold bP at this ⊢
  simp only [hi,Bo]
  exact this
theorem A92{l:TL}(hl:l.length<L):Out (gV n a) (EV n) n (Awn (Col.mk nm k false false []) (l,n,false,a)) (bP (Afp Gx [Ej]) (fun nn=>bP (Afp H8 []) fun u=>bP Aug fun r=>Ey (Col.mk nm k nn u r)) l):=by
 unfold Awn Afp
 simp only [Zs1,Ai]
 cases hi:isT Gx l with
 |false =>
  rw [Fg (s:=[78,79,84]) hi]
  have:=Aqy (L:=L) n a nm k false hl
  unfold bP at this ⊢
  simp only [hi]
  exact this
 |true =>
  have ht:=Bj l
  rw [Fv (s:=[78,79,84]) hi]
  simp only [Zc1,Bbt,Ai]
  cases hu:isT Ej l.tail with
  |false =>
   rw [Aa6 (by decide) (Anj (s:=[78,85,76,76]) hu)]
   unfold bP
   simp only [hi,Bo,hu]
   exact⟨_,Bj3 _ _ _ _,rfl,rfl,rfl⟩
  |true =>
   have ht2:=Bj l.tail
   rw [Abd (by decide) (Ajb (s:=[78,85,76,76]) hu)]
   have:=Aqy (L:=L) n a nm k true (l:=l.tail.tail) (by omega)
   unfold bP at this ⊢
   simp only [hi,Bo,hu]
   exact this
end
theorem A54{l l':TL}{k:Int}(h:Xo l = .ok (k,l')):k≠0∧l'.length≤l.length:=by
 have ht:=Bj l
 unfold Xo at h
 split at h
 ·cases h;exact⟨by decide,ht⟩
 ·split at h
  ·cases h;exact⟨by decide,ht⟩
  ·split at h
   ·cases h;exact⟨by decide,ht⟩
   ·split at h
    ·cases h;exact⟨by decide,ht⟩
    ·cases h
theorem Bol(l:TL) (n b:Int) (z c:Col):Ca (EV n) b (A7m (.exit 0) (6,l,n,true,b,z,c)):=by
 unfold A7m
 simp only [Aey,Zc1,Atq]
 cases decide (c.kind=0)<;>exact⟨_,rfl,rfl,rfl,rfl⟩
theorem A5o:Kw N2:=fun l n a=>by
 obtain⟨e1,h1⟩:=Fi l n a
 rw [A4l,h1]
 simp only [Zc1]
 rw [A4b]
 unfold A7m
 simp only [Aey,Zc1,Atq]
 exact⟨_,by cases decide ((c0 e1).kind=0)<;>rfl⟩
theorem Bj7{L:Nat}:SimP N2 Bf5 L :=.of (fun l n a hl=>by
 rw [A4l]
 unfold Bf5
 refine Out.bindS (Dd L) hl (fun nm l1 h1 =>?_) (fun nm l1 b =>?_)
 ·have q1:l1.length<l.length:=Hn _ _ _ h1
  simp only
  rw [Bcs]
  unfold bP
  cases hk:Xo l1 with
  |error q =>
   simp only
   unfold A7m
   simp only [Ab1,Zc1,Atq]
   exact⟨_,rfl,rfl,rfl,rfl⟩
  |ok x =>
   obtain⟨k,l2⟩:=x
   obtain⟨q2,q3⟩:=A54 hk
   simp only
   unfold A7m
   simp only [Zd1 q2,Ak]
   exact A92 (L:=L) n a nm k (by omega)
 ·simp only
  rw [A4b]
  exact Bol _ _ _ _ _) A5o
end Go.Proofs.YthndhaolemgbdaaGreatDoor
namespace Go.Proofs.YthndhaolemgbdaaGreatDoor
open Go.Ax
theorem Cr:∀{ss:List Str}{l l':TL}{x:Unit},Bo ss l = .ok (x,l')→l'.length≤l.length
 |[],_,_,_,h=>by cases h;exact Zn1 _
 |s::ss,l,l',x,h=>by
  simp only [Bo] at h
  have ht:=Bj l
  cases hi:isT s l with
  |true=>rw [hi] at h;have:=Cr (ss:=ss) h;omega
  |false=>rw [hi] at h;cases h
theorem Ka{l l':TL}{x:Str}(h:Cq l = .ok (x,l')):l'.length<l.length:=Hn _ _ _ h
theorem Bgj:C7 Bf5:=fun l e l' h=>by
 obtain⟨x,l1,h1,h⟩:=H2 h
 obtain⟨k,l2,h2,h⟩:=H2 h
 obtain⟨nn,l3,h3,h⟩:=H2 h
 obtain⟨u,l4,h4,h⟩:=H2 h
 obtain⟨r,l5,h5,h⟩:=H2 h
 have q1:=Ka h1
 have q2:=(A54 h2).2
 have opt:∀{s:Str}{ss:List Str}{b:Bool}{l l':TL},Afp s ss l = .ok (b,l')→l'.length≤l.length:=fun {s ss b l l'} h=>by
  unfold Afp at h
  have ht:=Bj l
  split at h
  ·split at h
   ·cases h
   ·rename_i y l6 hm
    cases h
    have:=Cr hm
    omega
  ·cases h;exact Zn1 _
 have q3:=opt h3
 have q4:=opt h4
 have q5:l5.length≤l4.length:=by
  unfold Aug at h5
  have ht:=Bj l4
  split at h5
  ·have:=Ka h5;omega
  ·cases h5;exact Zn1 _
 cases h
 omega
def Acq(s:RS):Option (Col×RS):=(N2 s).bind fun c=>(Ao ([[44]],c.2)).bind fun y=>some (c.1,y)
theorem Ann:Kw Acq:=fun l n a=>by
 obtain⟨e1,h1⟩:=A5o l n a
 simp only [Acq,h1,W8,Zc1]
 exact⟨_,rfl⟩
theorem Alr{L:Nat}:SimP Acq Aou L :=.of (fun l n a hl=>by
 unfold Acq Aou
 refine Out.bindS Bj7 hl (fun c l1 h1 =>?_) (fun c l1 b=>Ca.must ⟨_,rfl,rfl,rfl,rfl⟩)
 exact Out.must (by decide) (fun l2 h2=>rfl) (fun l2 b=>⟨_,rfl,rfl,rfl,rfl⟩)) Ann
theorem Acd:C7 Aou:=fun l e l' h=>by
 obtain⟨x,l1,h1,h⟩:=H2 h
 obtain⟨_,l2,h2,h⟩:=H2 h
 have q1:=Bgj _ _ _ h1
 have q2:=Cr h2
 cases h
 omega
section
variable {V R:Type}{step:(V→Option R)→V→Option R}{st:TL→Int→Bool→Int→List Col→V}{n:Int}{L:Nat}{c:List Col→TL→Bool→Int→Option R}
theorem Ap0
  (hg:∀rec l a acc,acc.length≤1000000000→isT F3 l=false→step rec (st l n false a acc)=(Acq (l,n,false,a)).bind fun z=>rec (st z.2.1 z.2.2.1 z.2.2.2.1 z.2.2.2.2 (acc++[z.1])))
  (hf:∀rec l a acc,isT F3 l=true→step rec (st l n false a acc)=c acc l.tail false a)
  (hb:∀rec l a acc,step rec (st l n true a acc)=c acc l true a) (a:Int):∀(k m:Nat) (acc:List Col) (l:TL),l.length<L→l.length+1<k→l.length<m→acc.length+l.length≤1000000000 →
  match Py m acc l with
  |.ok (e,l')=>A0 step k (st l n false a acc)=c e l' false a
  |.error q=>∃e l',A0 step k (st l n false a acc)=c e l' true (Jz n q)
 |0,_,_,_,_,h,_,_=>absurd h (Zm1 _)
 |_,0,_,_,_,_,h,_=>absurd h (Zm1 _)
 |k+1,m+1,acc,l,hl,h1,h2,h3=>by
  simp only [Br,Py]
  cases hi:isT F3 l with
  |true=>exact hf _ l a acc hi
  |false =>
   simp only [hg _ l a acc (by omega) hi]
   cases hq:Aou l with
   |error q =>
    obtain⟨e1,l1,h4⟩:=(Alr (L:=L)).er l n a q hl hq
    simp only [h4,Zc1]
    obtain⟨k,rfl⟩:∃k',k=k'+1:=⟨k-1,by omega⟩
    exact⟨acc++[e1],l1,hb _ _ _ _⟩
   |ok x =>
    obtain⟨x,l1⟩:=x
    have h5:=Acd _ _ _ hq
    simp only [(Alr (L:=L)).ok l n a x l1 hl hq,Zc1]
    exact Ap0 hg hf hb a k m (acc++[x]) l1 (by omega) (by omega) (by omega) (by simp only [Zh1,Zf1,Zi1];omega)
end
theorem Arn:∀{m:Nat}{acc:List Col}{l:TL}{e:List Col}{l':TL},Py m acc l = .ok (e,l')→l'.length≤l.length
 |0,_,_,_,_,h=>by cases h
 |m+1,acc,l,e,l',h=>by
  simp only [Py] at h
  have ht:=Bj l
  cases hi:isT F3 l with
  |true=>rw [hi] at h;cases h;exact ht
  |false =>
   rw [hi] at h
   simp only at h
   cases hq:Aou l with
   |error q=>rw [hq] at h;cases h
   |ok x =>
    obtain⟨x,l1⟩:=x
    rw [hq] at h
    have h1:=Acd _ _ _ hq
    have h2:=Arn h
    omega
def Apl(s:RS):Option (Xpr×RS):=(Ao ([[67,72,69,67,75],[40]],s)).bind fun y=>(Gk y).bind fun z=>(Ao ([[41]],z.2)).bind fun w=>some (z.1,w)
theorem Bep:Kw Apl:=fun l n a=>by
 obtain⟨e1,h1⟩:=Ah6 l n a
 simp only [Apl,h1,W8,Zc1]
 exact⟨_,rfl⟩
theorem Axn{L:Nat}(hL:L≤1000000000):SimP Apl At0 L :=.of (fun l n a hl=>by
 unfold Apl At0
 refine Out.must (by decide) (fun l1 h1 =>?_) (fun l1 b=>Ca.bindS Ah6 fun e=>Ca.must ⟨_,rfl,rfl,rfl,rfl⟩)
 have q1:=Cr h1
 refine Out.bindS (Sh hL) (show l1.length<L by omega) (fun e l2 h2 =>?_) (fun e l2 b=>Ca.must ⟨_,rfl,rfl,rfl,rfl⟩)
 exact Out.must (by decide) (fun l3 h3=>rfl) (fun l3 b=>⟨_,rfl,rfl,rfl,rfl⟩)) Bep
theorem Auw:C7 At0:=fun l e l' h=>by
 obtain⟨_,l1,h1,h⟩:=H2 h
 obtain⟨x,l2,h2,h⟩:=H2 h
 obtain⟨_,l3,h3,h⟩:=H2 h
 have q1:=Cr h1
 have q2:=H0 _ _ _ h2
 have q3:=Cr h3
 cases h
 omega
end Go.Proofs.YthndhaolemgbdaaGreatDoor
