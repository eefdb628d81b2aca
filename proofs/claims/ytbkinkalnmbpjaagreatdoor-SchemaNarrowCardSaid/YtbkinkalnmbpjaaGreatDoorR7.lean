/- Texts of the proof,one behind the other: Db,Oc,Od,Oe,Oi,Oj,Ok,Ol,Om,Oh,On,Oo,Or,Rv,Vt,Nf,Uq,Us. -/
import Derived.Test.YtbkinkalnmbpjaaGreatDoorR6
set_option linter.all false
namespace Go.Proofs.YtbkinkalnmbpjaaGreatDoor
open Go.Ax
def Blz(R:Type)(rf:FT [.sv .expr] [.int .i64]):Px R:=pxO [(16,cA Sp),(131,cA Ab7),(136,cA Aws),(134,cA rf)] [] [] []
def Kl(rf:FT [.sv .expr] [.int .i64])(x:HV [.sv .expr]):Option (HV [.int .i64]):=match x with
 |e =>
 let j2:=λ(a:Int) =>
  cond (!decide ((e.l.length:Int)=a)) (
  some 31) (
  cond (!decide (e.v=(Val.mk 0 0 []))) (
   some 31) (
   cond (!decide (e.name=[])) (
   some 31) (
   chk (inb 0 e.l.length) (
    (rf (at' .expr e.l 0)).bind λx =>
    cond (decide (a=2)) (
     chk (inb 1 e.l.length) (
     (rf (at' .expr e.l 1)).bind λx1 =>some (wr .i64 (1+(max2 x x1))))) (
     some (wr .i64 (1+x)))))))
 cond (decide (e.kind=1)) (
  let j:=λ(p1:Bool) =>
  cond (p1) (
   some 31) (
   cond (!decide (e.name=[])) (
   some 31) (
   cond (decide (0<(e.l.length:Int))) (
    some 31) (
    some 1)))
  cond (!decide ((P4 e.v)=0)) (
  j true) (
  cond (decide (e.v.kind=3)) (
   j (decide (e.v.n<0))) (
   j false))) (
  cond (decide (e.kind=2)) (
  cond (!(Z0 e.name)) (
   some 31) (
   cond (!decide (e.v=(Val.mk 0 0 []))) (
   some 31) (
   cond (decide (0<(e.l.length:Int))) (
    some 31) (
    some 1)))) (
  let j1:=λ(b:Bool) =>
   cond (b) (
   j2 1) (
   cond (decide ((Aha e.kind)=[])) (
    some 31) (
    j2 2))
  cond (decide (e.kind=3)) (
   j1 (decide (e.kind=3))) (
   cond (decide (e.kind=15)) (
   j1 (decide (e.kind=15))) (
   j1 (decide (e.kind=16))))))
theorem Bh1(rf:FT [.sv .expr] [.int .i64])(hrf:FO 134 [.sv .expr] [.int .i64] rf):FO 134 [.sv .expr] [.int .i64] (Kl rf):=fR (px:=Blz _ rf) (n:=0) Tryz.func134 rfl (λ_ H=>⟨lv H (c1 H Acp (c1 H Ako (c1 H Bmx (c1 H hrf Ae)))) Ab Aa,Ah⟩) λ_=>by kernel_rfl
def hd(q:List Int)(i:Nat):Int:=q.getD i 0
def Ays(e:Xpr)(q:List Int):Int :=
 if e.kind=1 then(if Ei e.v=0/\¬(e.v.kind=3/\e.v.n<0)/\e.name=[]/\¬ 0<(e.l.length:Int) then 1 else 31)
 else if e.kind=2 then(if Df e.name=true/\e.v=⟨0,0,[]⟩/\¬ 0<(e.l.length:Int) then 1 else 31)
 else if e.kind=3\/e.kind=15\/e.kind=16 then(if(e.l.length:Int)=1/\e.v=⟨0,0,[]⟩/\e.name=[] then wr .i64 (1+hd q 0) else 31)
 else if Aha e.kind=[] then 31
 else if(e.l.length:Int)=2/\e.v=⟨0,0,[]⟩/\e.name=[] then wr .i64 (1+max2 (hd q 0) (hd q 1)) else 31
mutual
def Bl:Xpr->Int
 |.mk k v nm l=>Ays (.mk k v nm l) (rdeepL l)
def rdeepL:List Xpr->List Int
 |[]=>[]
 |x::l=>Bl x::rdeepL l
end
theorem Anb(e:Xpr):Bl e=Ays e (rdeepL e.l):=by cases e;simp only[Bl,Xpr.l]
def Aif:FT [.sv .expr] [.int .i64]:=λx=>some (Bl x)
theorem Aiv{e:Xpr}{rf:FT [.sv .expr] [.int .i64]}(hrf:∀x,x∈e.l->rf x=some (Bl x))(p:Int->Option Int):(cond (!decide ((e.l.length:Int)=1)) (some 31) (cond (!decide (e.v=Val.mk 0 0 [])) (some 31) (cond (!decide (e.name=[])) (some 31) (chk (inb 0 e.l.length) ((rf (at' .expr e.l 0)).bind λx=>cond (decide ((1:Int)=2)) (p x) (some (wr .i64 (1+x))))))))=some (if(e.l.length:Int)=1/\e.v=⟨0,0,[]⟩/\e.name=[] then wr .i64 (1+hd (rdeepL e.l) 0) else 31):=by
 by_cases b1:(e.l.length:Int)=1
 ·obtain⟨x,hl⟩:∃x,e.l=[x]:=List.length_eq_one_iff.1 (by omega);have hrx:=hrf x (by rw[hl];simp);rw[hl];have a0:at' .expr [x] 0=x:=rfl;have i0:inb 0 [x].length=true:=rfl;by_cases b2:e.v=⟨0,0,[]⟩
  ·by_cases b3:e.name=[]
   ·rw[Ze1 b2,Ze1 b3,if_pos ⟨rfl,b2,b3⟩,a0,i0,hrx];rfl
   ·rw[Ze1 b2,Zd1 b3,if_neg (λh=>b3 h.2.2)];rfl
  ·rw[Zd1 b2,if_neg (λh=>b2 h.2.1)];rfl
 ·rw[Zd1 b1,if_neg (λh=>b1 h.1)];rfl
theorem Aah{l:List Xpr}(h:l.length=2):∃x y,l=[x,y]:=by match l,h with|[x,y],_=>exact⟨x,y,rfl⟩
theorem Bo4{e:Xpr}{rf:FT [.sv .expr] [.int .i64]}(hrf:∀x,x∈e.l->rf x=some (Bl x))(p:Int->Option Int):(cond (!decide ((e.l.length:Int)=2)) (some 31) (cond (!decide (e.v=Val.mk 0 0 [])) (some 31) (cond (!decide (e.name=[])) (some 31) (chk (inb 0 e.l.length) ((rf (at' .expr e.l 0)).bind λx=>cond (decide ((2:Int)=2)) (chk (inb 1 e.l.length) ((rf (at' .expr e.l 1)).bind λx1=>some (wr .i64 (1+(max2 x x1))))) (p x))))))=some (if(e.l.length:Int)=2/\e.v=⟨0,0,[]⟩/\e.name=[] then wr .i64 (1+max2 (hd (rdeepL e.l) 0) (hd (rdeepL e.l) 1)) else 31):=by
 by_cases b1:(e.l.length:Int)=2
 ·obtain⟨x,y,hl⟩:∃x y,e.l=[x,y]:=Aah (by omega);have hrx:=hrf x (by rw[hl];simp);have hry:=hrf y (by rw[hl];simp);rw[hl];have a0:at' .expr [x,y] 0=x:=rfl;have a1:at' .expr [x,y] 1=y:=rfl;have i0:inb 0 [x,y].length=true:=rfl;have i1:inb 1 [x,y].length=true:=rfl;by_cases b2:e.v=⟨0,0,[]⟩
  ·by_cases b3:e.name=[]
   ·rw[Ze1 b2,Ze1 b3,if_pos ⟨rfl,b2,b3⟩,a0,i0,a1,i1,hrx,hry];rfl
   ·rw[Ze1 b2,Zd1 b3,if_neg (λh=>b3 h.2.2)];rfl
  ·rw[Zd1 b2,if_neg (λh=>b2 h.2.1)];rfl
 ·rw[Zd1 b1,if_neg (λh=>b1 h.1)];rfl
theorem A4x{e:Xpr}{rf:FT [.sv .expr] [.int .i64]}(hrf:∀x,x∈e.l->rf x=some (Bl x)):Kl rf e=some (Bl e):=by
 have ro:∀v:Val,P4 v=Ei v:=λ_=>rfl;have rn:∀s:Str,Z0 s=Df s:=Lh;have a6 : 0<e.l.length↔¬e.l=[]:=List.length_pos_iff;rw[Anb];simp only[Kl,Ays,ro,rn];by_cases k1:e.kind=1
 ·simp only[Ze1 k1,if_pos k1,Af];by_cases a1:Ei e.v=0<;>by_cases a2:e.v.kind=3<;>by_cases a3:e.v.n<0<;>by_cases a4:e.name=[]<;>by_cases a5:e.l=[]<;>simp[a1,a2,a3,a4,a5,a6]
 ·by_cases k2:e.kind=2
  ·simp only[Zd1 k1,if_neg k1,Ze1 k2,if_pos k2,Af,Ag];cases Df e.name<;>by_cases a2:e.v=⟨0,0,[]⟩<;>by_cases a5:e.l=[]<;>simp[a2,a5,a6]
  ·rw[if_neg k1,if_neg k2,Zd1 k1,Zd1 k2];by_cases k3:e.kind=3
   ·rw[if_pos (.inl k3),Ze1 k3];exact Aiv hrf _
   ·by_cases k15:e.kind=15
    ·rw[if_pos (.inr (.inl k15)),Zd1 k3,Ze1 k15];exact Aiv hrf _
    ·by_cases k16:e.kind=16
     ·rw[if_pos (.inr (.inr k16)),Zd1 k3,Zd1 k15,Ze1 k16];exact Aiv hrf _
     ·rw[if_neg (by omega),Zd1 k3,Zd1 k15,Zd1 k16];by_cases ks:Aha e.kind=[]
      ·rw[if_pos ks,Ze1 ks];rfl
      ·rw[if_neg ks,Zd1 ks];exact Bo4 hrf _
theorem Auk:∀(n:Nat) (e:Xpr),A1 e<=n->Al Kl n e=some (Bl e)
 |0,e,h=>by have:=B5 e;omega
 |n+1,e,h=>by rw[Bb];refine A4x λx hx=>Auk n x ?_;have:=Bg hx;rw[Bv] at h;omega
theorem Alb:FO 134 [.sv .expr] [.int .i64] Aif:=by refine .fin (ι:=Nat) 0 (F:=λn=>Al Kl n) (λn=>FnOk.rec' (Sx.enters_of Tryz.func134 rfl rfl) (λrf hrf=>Bh1 rf hrf) n) λe r hb hx=>⟨A1 e,?_⟩;exact(Auk (A1 e) e (Zn1 _)).trans hx
def Bl8(R:Type):Px R:=pxO [(134,cA Aif)] [] [] []
def Xx(x:HV [.sv .expr]):Option (HV [.int .i64]):=match x with
 |e =>
 cond (decide (30<(Bl e))) (
  some 2) (
  some 0)
theorem Bdv:FO 110 [.sv .expr] [.int .i64] (Xx):=fR (px:=Bl8 _) (n:=0) Tryz.func110 rfl (λ_ H=>⟨lv H (c1 H Alb Ae) Ab Aa,Ah⟩) λ_=>by kernel_rfl
def Mh(e:Xpr):Int :=
 cond (decide (30<(Bl e))) (
  2) (
  0)
theorem Bdo(x:HV [.sv .expr]):Xx x=some (Mh x):=by
 first
  |exact rfl
  |simp only[Xx,Mh,A0]
def Avv:FT [.sv .expr] [.int .i64]:=λx=>some (Mh x)
theorem A12:FO 110 [.sv .expr] [.int .i64] Avv :=.fin0 Bdv λx _ _ hx=>(Bdo x).trans hx
theorem Py:∀(n:Nat) (e:Xpr),A1 e<=n->n<1000000->1<=Bl e/\Bl e<=31+(n:Int)
 |0,e,h,_=>by have:=B5 e;omega
 |n+1,e,h,hn=>by
  have one:(e.l.length:Int)=1->1<=wr .i64 (1+hd (rdeepL e.l) 0)/\wr .i64 (1+hd (rdeepL e.l) 0)<=31+((n+1:Nat):Int):=λhl=>by
   obtain⟨x,hx⟩:∃x,e.l=[x]:=List.length_eq_one_iff.1 (by omega);have hb:=Py n x (by rw[Bv,hx] at h;simp only[esizes] at h;omega) (by omega);have h0:hd (rdeepL e.l) 0=Bl x:=by rw[hx];rfl
   rw[h0,Bf (by simp only[inI];omega)];omega
  have two:(e.l.length:Int)=2->1<=wr .i64 (1+max2 (hd (rdeepL e.l) 0) (hd (rdeepL e.l) 1))/\wr .i64 (1+max2 (hd (rdeepL e.l) 0) (hd (rdeepL e.l) 1))<=31+((n+1:Nat):Int):=λhl=>by
   obtain⟨x,y,hx⟩:∃x y,e.l=[x,y]:=Aah (by omega);have hb:=Py n x (by rw[Bv,hx] at h;simp only[esizes] at h;omega) (by omega);have hc:=Py n y (by rw[Bv,hx] at h;simp only[esizes] at h;omega) (by omega);have h0:hd (rdeepL e.l) 0=Bl x:=by rw[hx];rfl
   have h1:hd (rdeepL e.l) 1=Bl y:=by rw[hx];rfl
   have hm:max2 (Bl x) (Bl y)=Bl x\/max2 (Bl x) (Bl y)=Bl y:=by simp only[max2];split<;>simp
   rw[h0,h1];rcases hm with hm|hm<;>rw[hm,Bf (by simp only[inI];omega)]<;>omega
  rw[Anb];simp only[Ays];split
  ·split<;>omega
  ·split
   ·split<;>omega
   ·split
    ·split
     ·rename_i hc;exact one hc.1
     ·omega
    ·split
     ·omega
     ·split
      ·rename_i hc;exact two hc.1
      ·omega
theorem Bgf{k:Int}(h : 4<=k/\k<=14):¬Aha k=[]:=by rcases(by omega:k=4\/k=5\/k=6\/k=7\/k=8\/k=9\/k=10\/k=11\/k=12\/k=13\/k=14) with rfl|rfl|rfl|rfl|rfl|rfl|rfl|rfl|rfl|rfl|rfl<;>decide
theorem Blh{k:Int}(h1:¬(4<=k/\k<=14)):Aha k=[]:=by
 by_cases h2:k<0\/15<=k
 ·rw[Aha,if_pos h2]
 ·rcases(by omega:k=0\/k=1\/k=2\/k=3) with rfl|rfl|rfl|rfl<;>decide
theorem Bkc{k:Int}(h:parts k = -1):¬(1<=k/\k<=16):=λhk=>by rcases(by omega:k=1\/k=2\/k=3\/k=4\/k=5\/k=6\/k=7\/k=8\/k=9\/k=10\/k=11\/k=12\/k=13\/k=14\/k=15\/k=16) with rfl|rfl|rfl|rfl|rfl|rfl|rfl|rfl|rfl|rfl|rfl|rfl|rfl|rfl|rfl|rfl<;>exact absurd h (by decide)
theorem Gi:∀(n:Nat) (e:Xpr) (m:Nat),A1 e<=n->n<1000000->m<=30->(A8 e (m:Int)=true↔Bl e<=(m:Int))
 |0,e,_,h,_,_=>by have:=B5 e;omega
 |n+1,e,m,h,hn,hm=>by
  have hb:=Py (n+1) e h hn;rw[Mf];by_cases h0:m=0
  ·subst h0;constructor
   ·intro hx;rw[Ze1 (show((0:Nat):Int)=0 from rfl)] at hx;cases hx
   ·intro hx;omega
  ·have hw:wr .i64 ((m:Int)-1)=((m-1:Nat):Int):=by rw[Bf (by simp only[inI];omega)];omega
   have m1:(1:Int)<=(m:Int):=by omega
   have m31:¬(31:Int)<=(m:Int):=by omega
   rw[hw,Zd1 (show ¬(m:Int)=0 by omega),Anb];rcases P9 e.kind with ⟨p,hk⟩|⟨p,hk⟩|⟨p,hk⟩|p
   ·rw[p];have hz:decide ((e.l.length:Int)=0)=decide (e.l=[]):=Zy1.2 ⟨λh=>List.eq_nil_of_length_eq_zero (by omega),λh=>by rw[h];rfl⟩;have hy : 0<e.l.length↔¬e.l=[]:=List.length_pos_iff;rw[hz];rcases hk with k1|k2
    ·simp only[Ays,eok,k1];by_cases hl:e.l=[]<;>by_cases a1:Ei e.v=0<;>by_cases a2:e.v.kind=3<;>by_cases a3:e.v.n<0<;>by_cases a4:e.name=[]<;>simp[hl,a1,a2,a3,a4,m1,m31,erights]
    ·simp only[Ays,eok,k2];by_cases hl:e.l=[]<;>by_cases a1:Df e.name=true<;>by_cases a2:e.v=⟨0,0,[]⟩<;>simp[hl,a1,a2,m1,m31,erights]
   ·have k1:¬e.kind=1:=by omega
    have k2:¬e.kind=2:=by omega
    rw[p];simp only[Ays,eok,if_neg k1,if_neg k2,if_pos hk,Zd1 k1,Zd1 k2,Ag];by_cases hl:(e.l.length:Int)=1
    ·obtain⟨x,hx⟩:∃x,e.l=[x]:=List.length_eq_one_iff.1 (by omega);have hs:A1 x<=n:=by rw[Bv,hx] at h;simp only[esizes] at h;omega
     have hbx:=Py n x hs (by omega);have ih:A8 x ((m-1:Nat):Int)=true↔1+Bl x<=(m:Int):=(Gi n x (m-1) hs (by omega) (by omega)).trans (by omega);have hr:erights e.l ((m-1:Nat):Int)=A8 x ((m-1:Nat):Int):=by rw[hx];simp only[erights,Bool.and_true]
     have h0:hd (rdeepL e.l) 0=Bl x:=by rw[hx];rfl
     have hwx:wr .i64 (1+Bl x)=1+Bl x:=Bf (by simp only[inI];omega);rw[hr,h0,hwx,Ze1 hl];by_cases b2:e.v=⟨0,0,[]⟩<;>by_cases b3:e.name=[]<;>simp[hl,b2,b3,ih,m31]
    ·rw[Zd1 hl];simp[hl,m31]
   ·have k1:¬e.kind=1:=by omega
    have k2:¬e.kind=2:=by omega
    have k3:¬(e.kind=3\/e.kind=15\/e.kind=16):=by omega
    rw[p];simp only[Ays,eok,if_neg k1,if_neg k2,if_neg k3,if_neg (Bgf hk),Zd1 k1,Zd1 k2,Ag];by_cases hl:(e.l.length:Int)=2
    ·obtain⟨x,y,hx⟩:∃x y,e.l=[x,y]:=Aah (by omega);have hs:A1 x<=n:=by rw[Bv,hx] at h;simp only[esizes] at h;omega
     have ht:A1 y<=n:=by rw[Bv,hx] at h;simp only[esizes] at h;omega
     have hbx:=Py n x hs (by omega);have hby:=Py n y ht (by omega);have ih:A8 x ((m-1:Nat):Int)=true↔1+Bl x<=(m:Int):=(Gi n x (m-1) hs (by omega) (by omega)).trans (by omega);have jh:A8 y ((m-1:Nat):Int)=true↔1+Bl y<=(m:Int):=(Gi n y (m-1) ht (by omega) (by omega)).trans (by omega);have hr:erights e.l ((m-1:Nat):Int)=(A8 x ((m-1:Nat):Int)&&A8 y ((m-1:Nat):Int)):=by rw[hx];simp only[erights,Bool.and_true]
     have h0:hd (rdeepL e.l) 0=Bl x:=by rw[hx];rfl
     have h1:hd (rdeepL e.l) 1=Bl y:=by rw[hx];rfl
     have hwx:wr .i64 (1+max2 (Bl x) (Bl y))=1+max2 (Bl x) (Bl y):=Bf (by simp only[inI,max2];split<;>omega)
     have hmx : 1+max2 (Bl x) (Bl y)<=(m:Int)↔(1+Bl x<=(m:Int)/\1+Bl y<=(m:Int)):=by simp only[max2];split<;>omega
     rw[hr,h0,h1,hwx,Ze1 hl];by_cases b2:e.v=⟨0,0,[]⟩<;>by_cases b3:e.name=[]<;>simp[hl,b2,b3,ih,jh,hmx,m31]
    ·rw[Zd1 hl];simp[hl,m31]
   ·have hk:=Bkc p;rw[p,Zd1 (show ¬(e.l.length:Int) = -1 by omega)];simp only[Ays,if_neg (show ¬e.kind=1 by omega),if_neg (show ¬e.kind=2 by omega),if_neg (show ¬(e.kind=3\/e.kind=15\/e.kind=16) by omega),if_pos (Blh (show ¬(4<=e.kind/\e.kind<=14) by omega))];simp[m31]
def Bkt(R:Type):Px R:=pxO [] [] [] []
def Yw(x:HV [.int .i64]):Option (HV [.int .i64,.int .i64]):=match x with
 |kind =>
 let j1:=λ(p1:Bool) =>
  cond (p1) (
  some (2,2)) (
  let j:=λ(p3:Bool) =>
   cond (p3) (
   some (0,2)) (
   cond (decide (12<=kind)) (
    cond (decide (kind<=15)) (
    some (3,3)) (
    some (0,2))) (
    some (0,2)))
  cond (decide (6<=kind)) (
   j (decide (kind<=11))) (
   j false))
 cond (decide (3<=kind)) (
  j1 (decide (kind<=5))) (
  j1 false)
theorem Bd9:FO 176 [.int .i64] [.int .i64,.int .i64] (Yw):=fR (px:=Bkt _) (n:=0) Tryz.func176 rfl (λ_ H=>⟨lv H Ae Ab Aa,Ah⟩) λ_=>by kernel_rfl
def B8(kind:Int):Int×Int :=
 let j1:=λ(p1:Bool) =>
  cond (p1) (
  (2,2)) (
  let j:=λ(p3:Bool) =>
   cond (p3) (
   (0,2)) (
   cond (decide (12<=kind)) (
    cond (decide (kind<=15)) (
    (3,3)) (
    (0,2))) (
    (0,2)))
  cond (decide (6<=kind)) (
   j (decide (kind<=11))) (
   j false))
 cond (decide (3<=kind)) (
  j1 (decide (kind<=5))) (
  j1 false)
theorem Biq(x:HV [.int .i64]):Yw x=some (B8 x):=by
 first
  |exact rfl
  |simp only[Yw,B8,A0]
def Bcz:FT [.int .i64] [.int .i64,.int .i64]:=λx=>some (B8 x)
theorem Blx:FO 176 [.int .i64] [.int .i64,.int .i64] Bcz :=.fin0 Bd9 λx _ _ hx=>(Biq x).trans hx
def Akp:Sig:=⟨117,[(1,.sl .col false),(4,.int .i64),(5,.int .i64),(6,.int .i64)],[(2,.ptr 0 0)],[(0,.one (.sv .expr))],1,0,0,[],[]⟩
abbrev M7:=List Col×Int×Int×Int×Xpr
def Li{R:Type}(rec:M7->Option R)(kx:Ex->M7->Option R)(v:M7):Option R:=match v with
 |(v,v1,v2,v3,w) =>
 cond (decide (v3<(v.length:Int))) (
  cond (decide (w.kind=2)) (
  chk (inb v3 v.length) (
   cond (decide (((at' .col v v3).name)=w.name)) (
   chk (inb v3 v.length) (
    kx .ret (v,(at' .col v v3).kind,0,v3,w))) (
   rec (v,v1,v2,(wr .i64 (v3+1)),w)))) (
  kx (.exit 0) (v,v1,v2,v3,w))) (
  kx (.exit 0) (v,v1,v2,v3,w))
def A0j(R:Type)(k:Nat)(rf:FT [.sv .expr,.sl .col false] [.int .i64,.int .i64]):Px R:=pxO [(111,cA rf),(176,cA Bcz)] [] [(4,Am k Akp (Li))] []
def Jr(k:Nat)(rf:FT [.sv .expr,.sl .col false] [.int .i64,.int .i64])(x:HV [.sv .expr,.sl .col false]):Option (HV [.int .i64,.int .i64]):=match x with
 |(e,cols) =>
 cond (decide (e.kind=1)) (
  some (e.v.kind,0)) (
  Al (λrec=>Li rec (λe vz=>match vz with|(v4,v5,v6,_,v8)=>match e with
  |.ret =>some (v5,v6)
  |.exit 0 =>
   cond (decide (v8.kind=2)) (
   some (0,150)) (
   chk (inb 0 v8.l.length) (
    (rf ((at' .expr v8.l 0),v4)).bind λ(x,x1) =>
    cond (!decide (x1=0)) (
     some (0,x1)) (
     let j2:Int->Option (HV [.int .i64,.int .i64]):=λ(p2:Int) =>
     let j1:Unit->Option (HV [.int .i64,.int .i64]):=λ(_:Unit) =>
      let j:Bool->Option (HV [.int .i64,.int .i64]):=λ(p9:Bool) =>
      cond (p9) (
       cond (decide (p2=(B8 v8.kind).1)) (
       some ((B8 v8.kind).2,0)) (
       cond (decide (p2=1)) (
        some ((B8 v8.kind).2,0)) (
        some (0,151)))) (
       some (0,151))
      cond (decide (0<(B8 v8.kind).1)) (
      cond (decide (x=(B8 v8.kind).1)) (
       j true) (
       j (decide (x=1)))) (
      j false)
     cond (decide ((B8 v8.kind).1=0)) (
      cond (decide (x=p2)) (
      some ((B8 v8.kind).2,0)) (
      cond (decide (x=1)) (
       some ((B8 v8.kind).2,0)) (
       cond (decide (p2=1)) (
       some ((B8 v8.kind).2,0)) (
       j1 ())))) (
      j1 ())
     cond (decide ((v8.l.length:Int)=2)) (
     chk (inb 1 v8.l.length) (
      (rf ((at' .expr v8.l 1),v4)).bind λ(x2,x3) =>
      cond (!decide (x3=0)) (
       some (0,x3)) (
       j2 x2))) (
     j2 x))))
  |_=>none)) k (cols,0,0,0,e))
theorem Bet(k:Nat)(rf:FT [.sv .expr,.sl .col false] [.int .i64,.int .i64])(hrf:FO 111 [.sv .expr,.sl .col false] [.int .i64,.int .i64] rf):FO 111 [.sv .expr,.sl .col false] [.int .i64,.int .i64] (Jr k rf):=fR (px:=A0j _ k rf) (n:=1) Tryz.func111 rfl (λcx H=>by have h0:Lv cx (A0j (HV [.int .i64,.int .i64]) k rf):=lv H (c1 H hrf (c1 H Blx Ae)) Ab Aa;have hlrkind_0:=lO H h0 (b:=lp Tryz.f111 0) (k:=k) (n:=0) (s:=Akp) (step:=Li) (λ_ _ _ (_,_,_,_,_)=>by kernel_rfl) Ah;exact⟨h0,(A5 Ah hlrkind_0)⟩) λ(_,_)=>by kernel_rfl
mutual
def wfx:Xpr->Bool
 |.mk k _ _ l=>decide ((l.length:Int)=parts k)&&wfl l
def wfl:List Xpr->Bool
 |[]=>true
 |x::l=>wfx x&&wfl l
end
theorem A59(e:Xpr):wfx e=(decide ((e.l.length:Int)=parts e.kind)&&wfl e.l):=by cases e;simp only[wfx,Xpr.l,Xpr.kind];rfl
theorem Bch:∀{l:List Xpr}{x:Xpr},wfl l=true->x∈l->wfx x=true
 |y::l,x,h,hx=>by
  simp only[wfl,Zb1] at h;rcases List.mem_cons.1 hx with rfl|hx
  ·exact h.1
  ·exact Bch h.2 hx
def Art(e:Xpr)(cols:List Col):Option (Int×Int):=cond (wfx e) (some (A7 e cols)) none
def Ail:FT [.sv .expr,.sl .col false] [.int .i64,.int .i64]:=λx=>Art x.1 x.2
theorem Bss{k:Int}(h : 3<=k/\k<=5):B8 k=(2,2):=by rcases(by omega:k=3\/k=4\/k=5) with rfl|rfl|rfl<;>rfl
theorem Bui{k:Int}(h : 6<=k/\k<=11):B8 k=(0,2):=by rcases(by omega:k=6\/k=7\/k=8\/k=9\/k=10\/k=11) with rfl|rfl|rfl|rfl|rfl|rfl<;>rfl
theorem Br7{k:Int}(h : 12<=k/\k<=15):B8 k=(3,3):=by rcases(by omega:k=12\/k=13\/k=14\/k=15) with rfl|rfl|rfl|rfl<;>rfl
theorem Bcl{e:Xpr}{cols:List Col}{a b:Int}(h : 3<=e.kind/\e.kind<=16)(h16:e.kind=16->a=b):(cond (decide ((B8 e.kind).1=0)) (cond (decide (a=b)) (some ((B8 e.kind).2,0)) (cond (decide (a=1)) (some ((B8 e.kind).2,0)) (cond (decide (b=1)) (some ((B8 e.kind).2,0)) (cond (decide (0<(B8 e.kind).1)) (cond (decide (a=(B8 e.kind).1)) (cond true (cond (decide (b=(B8 e.kind).1)) (some ((B8 e.kind).2,0)) (cond (decide (b=1)) (some ((B8 e.kind).2,0)) (some (0,151)))) (some (0,151))) (cond (decide (a=1)) (cond (decide (b=(B8 e.kind).1)) (some ((B8 e.kind).2,0)) (cond (decide (b=1)) (some ((B8 e.kind).2,0)) (some (0,151)))) (some (0,151)))) (cond false (cond (decide (b=(B8 e.kind).1)) (some ((B8 e.kind).2,0)) (cond (decide (b=1)) (some ((B8 e.kind).2,0)) (some (0,151)))) (some (0,151))))))) (cond (decide (0<(B8 e.kind).1)) (cond (decide (a=(B8 e.kind).1)) (cond true (cond (decide (b=(B8 e.kind).1)) (some ((B8 e.kind).2,0)) (cond (decide (b=1)) (some ((B8 e.kind).2,0)) (some (0,151)))) (some (0,151))) (cond (decide (a=1)) (cond (decide (b=(B8 e.kind).1)) (some ((B8 e.kind).2,0)) (cond (decide (b=1)) (some ((B8 e.kind).2,0)) (some (0,151)))) (some (0,151)))) (cond false (cond (decide (b=(B8 e.kind).1)) (some ((B8 e.kind).2,0)) (cond (decide (b=1)) (some ((B8 e.kind).2,0)) (some (0,151)))) (some (0,151)))):Option (Int×Int))=some (G2 e cols a b):=by
 have n1:¬e.kind=1:=by omega
 have n2:¬e.kind=2:=by omega
 simp only[G2,if_neg n1,if_neg n2];by_cases c1:e.kind<=5
 ·rw[Bss ⟨h.1,c1⟩,if_neg (by omega),if_pos (by omega)];by_cases a2:a=2<;>by_cases a1:a=1<;>by_cases b2:b=2<;>by_cases b1:b=1<;>simp[C5,a1,a2,b1,b2]
 ·by_cases c2:e.kind<=11
  ·rw[Bui ⟨by omega,c2⟩,if_neg (by omega),if_neg (by omega),if_neg (by omega)];by_cases a2:a=b<;>by_cases a1:a=1<;>by_cases b1:b=1<;>simp[a1,a2,b1]
  ·by_cases c3:e.kind<=15
   ·rw[Br7 ⟨by omega,c3⟩,if_neg (by omega),if_neg (by omega),if_pos (by omega)];by_cases a2:a=3<;>by_cases a1:a=1<;>by_cases b2:b=3<;>by_cases b1:b=1<;>simp[C5,a1,a2,b1,b2]
   ·have k16:e.kind=16:=by omega
    rw[if_pos k16,k16,h16 k16];have e1:B8 16=(0,2):=rfl;rw[e1,Ze1 (rfl:b=b)];rfl
theorem Ajq{R:Type}{kx:Ex->M7->Option R}{cols:List Col}{e:Xpr}{a:Int->Option R}{b:Option R}(hn:ln cols.length)(he:e.kind=2)(h1:∀q j,kx .ret (cols,q,0,j,e)=a q)(h2:∀q r j,kx (.exit 0) (cols,q,r,j,e)=b):∀(k i:Nat) q r,i<=cols.length->cols.length-i<k->Al (λrec=>Li rec kx) k (cols,q,r,(i:Int),e)=if Be (cols.drop i) e.name i<0 then b else a (at' .col cols (Be (cols.drop i) e.name i)).kind
 |0,i,q,r,_,h=>by omega
 |k+1,i,q,r,hi,h=>by
  rw[Bb];by_cases hl:i<cols.length
  ·have ih:=Ajq hn he h1 h2 k (i+1) q r (by omega) (by omega);simp only[Li,Aw hl,chk,Af,As (c :=.col) hl,Au hl hn,h1,ih,Ak hl];rw[Ze1 (show(i:Int)<(cols.length:Int) by omega),Ze1 he];by_cases hc:cols[i].name=e.name
   ·have e1:∀l,Be (cols[i]::l) e.name i=(i:Int):=λl=>by simp only[Be];rw[if_pos hc]
    rw[e1,Ze1 hc,if_neg (show ¬(i:Int)<0 by omega),As (c :=.col) hl];rfl
   ·have e1:∀l,Be (cols[i]::l) e.name i=Be l e.name (i+1):=λl=>by simp only[Be];rw[if_neg hc]
    rw[e1,Zd1 hc];rfl
  ·have e1:Be [] e.name i = -1:=rfl;simp only[Li,h2];rw[Zd1 (by omega),Zk1 (by omega),e1,if_pos (by omega)];rfl
theorem Bms{R:Type}{kx:Ex->M7->Option R}{cols:List Col}{e:Xpr}{b:Option R}(h:¬e.kind=2)(h2:kx (.exit 0) (cols,0,0,0,e)=b)(k:Nat):Al (λrec=>Li rec kx) (k+1) (cols,0,0,0,e)=b:=by rw[Bb];simp only[Li,h2,Zd1 h,Ag];cases decide ((0:Int)<(cols.length:Int))<;>rfl
theorem A8e(k:Nat){e:Xpr}{cols:List Col}{rf:FT [.sv .expr,.sl .col false] [.int .i64,.int .i64]}(hn:ln cols.length)(hk:cols.length<k)(hw:wfx e=true)(hrf:∀x,x∈e.l->rf (x,cols)=some (A7 x cols)):Jr k rf (e,cols)=some (A7 e cols):=by
 rw[A59,Zb1,Zg1] at hw;have hp:=hw.1;obtain⟨k,rfl⟩:∃j,k=j+1:=⟨k-1,by omega⟩;simp only[Jr];by_cases k1:e.kind=1
 ·have hl:e.l=[]:=List.eq_nil_of_length_eq_zero (by rw[k1] at hp;have:parts 1=0:=rfl;omega);rw[Ze1 k1,Ip,hl];simp only[kindL,Tt,G2,if_pos k1];rfl
 ·rw[Zd1 k1,Ag];by_cases k2:e.kind=2
  ·have hl:e.l=[]:=List.eq_nil_of_length_eq_zero (by rw[k2] at hp;have:parts 2=0:=rfl;omega);refine(Ajq (a:=λq=>some (q,0)) (b:=some (0,150)) hn k2 (λ_ _=>rfl) (λq r j =>?_) (k+1) 0 0 0 (Nat.zero_le _) (by omega)).trans ?_
   ·show cond (decide (e.kind=2)) _ _=_;rw[Ze1 k2];rfl
   ·rw[Ip,hl];simp only[kindL,Tt,G2,if_neg k1,if_pos k2];show(if Cd cols e.name<0 then some (0,150) else some ((at' .col cols (Cd cols e.name)).kind,0))=_;by_cases hf:Cd cols e.name<0
    ·rw[if_pos hf,if_pos hf]
    ·rw[if_neg hf,if_neg hf]
  ·refine Bms k2 ?_ k;show cond (decide (e.kind=2)) _ _=_;rw[Zd1 k2];rcases P9 e.kind with ⟨h0,h⟩|⟨h0,h⟩|⟨h0,h⟩|h0
   ·omega
   ·obtain⟨x,hl⟩:∃x,e.l=[x]:=List.length_eq_one_iff.1 (by omega);have hrx:=hrf x (by rw[hl];simp);have a0:at' .expr [x] 0=x:=rfl;have i0:inb 0 [x].length=true:=rfl;rw[Ip,hl,a0,i0,hrx];simp only[kindL,Tt];cases A7 x cols with
    |mk a f =>
     show cond (!decide (f=0)) _ _=_;by_cases hf:f=0
     ·rw[Ze1 hf,if_pos hf];show cond (decide ((([x]:List Xpr).length:Int)=2)) _ _=_;rw[show decide ((([x]:List Xpr).length:Int)=2)=false from rfl];have hj:=Bcl (e:=e) (cols:=cols) (a:=a) (b:=a) (by omega) (λ_=>rfl);rw[Ze1 (rfl:a=a)] at hj;rw[@Ze1 True _ trivial];exact hj
     ·rw[Zd1 hf,if_neg hf];rfl
   ·obtain⟨x,y,hl⟩:∃x y,e.l=[x,y]:=Aah (by omega);have hrx:=hrf x (by rw[hl];simp);have hry:=hrf y (by rw[hl];simp);have a0:at' .expr [x,y] 0=x:=rfl;have i0:inb 0 [x,y].length=true:=rfl;have a1:at' .expr [x,y] 1=y:=rfl;have i1:inb 1 [x,y].length=true:=rfl;rw[Ip,hl,a0,i0,hrx,a1,i1,hry];simp only[kindL,Tt];cases A7 x cols with
    |mk a f =>
     show cond (!decide (f=0)) _ _=_;by_cases hf:f=0
     ·rw[Ze1 hf,if_pos hf];cases A7 y cols with
      |mk b g =>
       show cond (!decide (g=0)) _ _=_;by_cases hg:g=0
       ·rw[Ze1 hg,if_pos hg];exact Bcl (e:=e) (by omega) (λ_=>by omega)
       ·rw[Zd1 hg,if_neg hg];rfl
     ·rw[Zd1 hf,if_neg hf];rfl
   ·omega
theorem Au6(k:Nat):∀(n:Nat) (e:Xpr) (cols:List Col),ln cols.length->cols.length<k->wfx e=true->A1 e<=n->Al (Jr k) n (e,cols)=some (A7 e cols)
 |0,e,_,_,_,_,h=>by have:=B5 e;omega
 |n+1,e,cols,hn,hk,hw,h=>by
  rw[Bb];refine A8e k hn hk hw λx hx=>Au6 k n x cols hn hk ?_ ?_
  ·rw[A59,Zb1] at hw;exact Bch hw.2 hx
  ·have:=Bg hx;rw[Bv] at h;omega
theorem A1e:FO 111 [.sv .expr,.sl .col false] [.int .i64,.int .i64] Ail:=by refine .fin (ι:=Nat×Nat) (0,0) (F:=λn=>Al (Jr n.1) n.2) (λn=>FnOk.rec' (Sx.enters_of Tryz.func111 rfl rfl) (λrf hrf=>Bet n.1 rf hrf) n.2) λ(e,cols) r hb hx=>⟨(cols.length+1,A1 e),?_⟩;simp only[Ail,Art] at hx;cases hw:wfx e with|false=>rw[hw] at hx;cases hx|true =>rw[hw] at hx;exact(Au6 (cols.length+1) (A1 e) e cols hb.2.1 (by omega) hw (Zn1 _)).trans hx
def Bfu(R:Type):Px R:=pxO [(16,cA Sp)] [] [] []
def Rx(x:HV [.sv .val,.int .i64]):Option (HV [.bool]):=match x with
 |(v,kind) =>
 cond (decide ((P4 v)=0)) (
  cond (decide (v.kind=1)) (
  some true) (
  some (decide (v.kind=kind)))) (
  some false)
theorem A52:FO 109 [.sv .val,.int .i64] [.bool] (Rx):=fR (px:=Bfu _) (n:=0) Tryz.func109 rfl (λ_ H=>⟨lv H (c1 H Acp Ae) Ab Aa,Ah⟩) λ(_,_)=>by kernel_rfl
def Aeu(v:Val)(kind:Int):Bool :=
 cond (decide ((P4 v)=0)) (
  cond (decide (v.kind=1)) (
  true) (
  (decide (v.kind=kind)))) (
  false)
theorem A8k(x:HV [.sv .val,.int .i64]):Rx x=some (Aeu x.1 x.2):=by
 first
  |exact rfl
  |simp only[Rx,Aeu,A0]
def A05:FT [.sv .val,.int .i64] [.bool]:=λx=>some (Aeu x.1 x.2)
theorem Bgn:FO 109 [.sv .val,.int .i64] [.bool] A05 :=.fin0 A52 λx _ _ hx=>(A8k x).trans hx
theorem Bo9(v:Val)(k:Int):Aeu v k=Nv v k:=by
 simp only[Aeu,Nv];have:decide (Ei v=0)=Bo v:=by
  cases h:Bo v
  ·simp[Ei,h]
  ·simp[Ei,h]
 rw[this]
def Bl0(R:Type):Px R:=pxO [] [] [] []
def Yu(x:HV [.int .i64]):Option (HV [.sv .val]):=match x with
 |n =>
 cond (decide (n=1)) (
  some (Val.mk 1 0 [])) (
  some (Val.mk 2 (wr .i64 (Int.tdiv n 2)) []))
theorem Bg0:FO 177 [.int .i64] [.sv .val] (Yu):=fR (px:=Bl0 _) (n:=0) Tryz.func177 rfl (λ_ H=>⟨lv H Ae Ab Aa,Ah⟩) λ_=>by kernel_rfl
def I1(n:Int):Val :=
 cond (decide (n=1)) (
  (Val.mk 1 0 [])) (
  (Val.mk 2 (wr .i64 (Int.tdiv n 2)) []))
theorem Bfb(x:HV [.int .i64]):Yu x=some (I1 x):=by
 first
  |exact rfl
  |simp only[Yu,I1,A0]
def Aiq:FT [.int .i64] [.sv .val]:=λx=>some (I1 x)
theorem Aoe:FO 177 [.int .i64] [.sv .val] Aiq :=.fin0 Bg0 λx _ _ hx=>(Bfb x).trans hx
def Bek(R:Type):Px R:=pxO [] [] [] []
def Rb(x:HV [.sv .val]):Option (HV [.int .i64]):=match x with
 |v =>
 cond (decide (v.kind=1)) (
  some 1) (
  some (wr .i64 (2*v.n)))
theorem A8g:FO 178 [.sv .val] [.int .i64] (Rb):=fR (px:=Bek _) (n:=0) Tryz.func178 rfl (λ_ H=>⟨lv H Ae Ab Aa,Ah⟩) λ_=>by kernel_rfl
def Ir(v:Val):Int :=
 cond (decide (v.kind=1)) (
  1) (
  (wr .i64 (2*v.n)))
theorem A65(x:HV [.sv .val]):Rb x=some (Ir x):=by
 first
  |exact rfl
  |simp only[Rb,Ir,A0]
def Abe:FT [.sv .val] [.int .i64]:=λx=>some (Ir x)
theorem Adj:FO 178 [.sv .val] [.int .i64] Abe :=.fin0 A8g λx _ _ hx=>(A65 x).trans hx
def Bwe(R:Type):Px R:=pxO [(177,cA Aiq)] [] [] []
def Alg(x:HV [.bool]):Option (HV [.sv .val]):=match x with
 |b =>
 cond (b) (
  some (I1 2)) (
  some (I1 0))
theorem Btc:FO 180 [.bool] [.sv .val] (Alg):=fR (px:=Bwe _) (n:=0) Tryz.func180 rfl (λ_ H=>⟨lv H (c1 H Aoe Ae) Ab Aa,Ah⟩) λ_=>by kernel_rfl
def ris(b:Bool):Val :=
 cond (b) (
  (I1 2)) (
  (I1 0))
theorem Bsj(x:HV [.bool]):Alg x=some (ris x):=by
 first
  |exact rfl
  |simp only[Alg,ris,A0]
def Bpb:FT [.bool] [.sv .val]:=λx=>some (ris x)
theorem Bnv:FO 180 [.bool] [.sv .val] Bpb :=.fin0 Btc λx _ _ hx=>(Bsj x).trans hx
def Alx:Sig:=⟨34,[(0,.sl .col false),(1,.sl .val false),(4,.bool),(5,.int .i64)],[],[],0,0,0,[],[]⟩
abbrev V4:=List Col×List Val×Bool×Int
def P8{R:Type}(rec:V4->Option R)(kx:Ex->V4->Option R)(v:V4):Option R:=match v with
 |(v,v1,v2,v3) =>
 cond (decide (v3<(v.length:Int))) (
  cond (decide (v3<(v1.length:Int))) (
  chk (inb v3 v1.length) (
   chk (inb v3 v.length) (
   cond (!(Aeu (at' .val v1 v3) ((at' .col v v3).kind))) (
    kx .ret (v,v1,false,v3)) (
    rec (v,v1,v2,(wr .i64 (v3+1))))))) (
  kx (.exit 0) (v,v1,v2,v3))) (
  kx (.exit 0) (v,v1,v2,v3))
def Az7(R:Type)(k:Nat):Px R:=pxO [(109,cA A05)] [] [(2,Am k Alx (P8))] []
def Ajr(k:Nat)(x:HV [.sl .col false,.sl .val false]):Option (HV [.bool]):=match x with
 |(cols,row) =>
 Al (λrec=>P8 rec (λe vz=>match vz with|(v4,v5,v6,_)=>match e with
  |.ret =>
  some v6
  |.exit 0 =>
  some (decide ((v4.length:Int)=(v5.length:Int)))
  |_=>none)) k (cols,row,false,0)
theorem Bi1(k:Nat):FO 45 [.sl .col false,.sl .val false] [.bool] (Ajr k):=fR (px:=Az7 _ k) (n:=1) Tryz.func45 rfl (λcx H=>by have h0:Lv cx (Az7 (HV [.bool]) k):=lv H (c1 H Bgn Ae) Ab Aa;have hlrFits_0:=lO H h0 (b:=lp Tryz.f45 0) (k:=k) (n:=0) (s:=Alx) (step:=P8) (λ_ _ _ (_,_,_,_)=>by kernel_rfl) Ah;exact⟨h0,(A5 Ah hlrFits_0)⟩) λ(_,_)=>by kernel_rfl
abbrev Arl(cols:List Col)(row:List Val):Bool:=Dc cols row
def Ah0:FT [.sl .col false,.sl .val false] [.bool]:=λx=>some (Arl x.1 x.2)
def W5:List Col->List Val->Bool
 |c::cs,v::vs=>Nv v c.kind&&W5 cs vs
 |_,_=>true
theorem Aq0:∀(cols:List Col) (row:List Val),Dh cols row=(W5 cols row&&decide (cols.length=row.length))
 |[],[]=>rfl
 |c::cs,v::vs=>by simp only[Dh,W5,Aq0 cs vs,Zf1,Nat.add_right_cancel_iff,Bool.and_assoc]
 |[],_::_=>by simp[Dh,W5]
 |_::_,[]=>by simp[Dh,W5]
theorem Bfo(row:List Val):W5 [] row=true:=by cases row<;>rfl
theorem Bhl(cols:List Col):W5 cols []=true:=by cases cols<;>rfl
theorem Amu{R:Type}{kx:Ex->V4->Option R}{row:List Val}{cols:List Col}{a b:Option R}(hn:ln cols.length)(h1:∀j,kx .ret (cols,row,false,j)=a)(h2:∀q j,kx (.exit 0) (cols,row,q,j)=b):∀(k i:Nat) q,i<=cols.length->cols.length-i<k->Al (λrec=>P8 rec kx) k (cols,row,q,(i:Int))=cond (W5 (cols.drop i) (row.drop i)) b a
 |0,i,q,_,h=>by omega
 |k+1,i,q,hi,h=>by
  rw[Bb];by_cases hl:i<cols.length
  ·by_cases hl2:i<row.length
   ·have ih:=Amu hn h1 h2 k (i+1) q (by omega) (by omega);simp only[P8,Au hl hn,ih,h1,Ak hl,Ak hl2,As (c :=.col) hl,As (c :=.val) hl2,Aw hl,Aw hl2,chk,Af,W5,Bo9];rw[Ze1 (show(i:Int)<(cols.length:Int) by omega),Ze1 (show(i:Int)<(row.length:Int) by omega)];cases Nv row[i] cols[i].kind<;>rfl
   ·simp only[P8,h2];rw[Ze1 (show(i:Int)<(cols.length:Int) by omega),Zd1 (show ¬(i:Int)<(row.length:Int) by omega),Zk1 (show row.length<=i by omega),Bhl];rfl
  ·simp only[P8,h2];rw[Zd1 (show ¬(i:Int)<(cols.length:Int) by omega),Zk1 (show cols.length<=i by omega),Bfo];rfl
theorem Az5:FO 45 [.sl .col false,.sl .val false] [.bool] Ah0 :=.fin 0 Bi1 λ(cols,row) r hb hx=>⟨cols.length+1,by simp only[Ah0,Za1] at hx;subst hx;simp only[Ajr];refine(Amu (a:=some false) (b:=some (decide ((cols.length:Int)=(row.length:Int)))) hb.1.1 (λ_=>rfl) (λ_ _=>rfl) (cols.length+1) 0 false (Nat.zero_le _) (by omega)).trans ?_;rw[Zq1,Zq1,Arl,Dc,Aq0,Zy1.2 (show((cols.length:Int)=(row.length:Int))↔cols.length=row.length by omega)];cases W5 cols row<;>rfl⟩
def Brb(R:Type):Px R:=pxO [] [] [] []
def Ad4(x:HV [.sv .val,.sv .val]):Option (HV [.int .i64]):=match x with
 |(a,b) =>
 let j:=λ(p1:Bool) =>
  cond (p1) (
  some (-1)) (
  cond (decide (a.kind=b.kind)) (
   cond (decide (a.n=b.n)) (
   cond (Op.bytesLess a.s b.s) (
    some (-1)) (
    cond (decide (a=b)) (
    some 0) (
    some 1))) (
   cond (decide (a=b)) (
    some 0) (
    some 1))) (
   cond (decide (a=b)) (
   some 0) (
   some 1)))
 cond (decide (a.kind<b.kind)) (
  j true) (
  cond (decide (a.kind=b.kind)) (
  j (decide (a.n<b.n))) (
  j false))
theorem Bp8:FO 232 [.sv .val,.sv .val] [.int .i64] (Ad4):=fR (px:=Brb _) (n:=0) Tryz.func232 rfl (λ_ H=>⟨lv H Ae Ab Aa,Ah⟩) λ(_,_)=>by kernel_rfl
def S2(a:Val)(b:Val):Int :=
 let j:=λ(p1:Bool) =>
  cond (p1) (
  (-1)) (
  cond (decide (a.kind=b.kind)) (
   cond (decide (a.n=b.n)) (
   cond (Op.bytesLess a.s b.s) (
    (-1)) (
    cond (decide (a=b)) (
    0) (
    1))) (
   cond (decide (a=b)) (
    0) (
    1))) (
   cond (decide (a=b)) (
   0) (
   1)))
 cond (decide (a.kind<b.kind)) (
  j true) (
  cond (decide (a.kind=b.kind)) (
  j (decide (a.n<b.n))) (
  j false))
theorem Bl7(x:HV [.sv .val,.sv .val]):Ad4 x=some (S2 x.1 x.2):=by
 first
  |exact rfl
  |simp only[Ad4,S2,A0]
def Bmu:FT [.sv .val,.sv .val] [.int .i64]:=λx=>some (S2 x.1 x.2)
theorem Bq3:FO 232 [.sv .val,.sv .val] [.int .i64] Bmu :=.fin0 Bp8 λx _ _ hx=>(Bl7 x).trans hx
theorem Aeq:∀a b:Str,Op.bytesLess a b=decide (Iv a b = -1)
 |[],[]=>rfl
 |[],_::_=>rfl
 |_::_,[]=>rfl
 |a::x,b::y=>by
  have ih:=Aeq x y;simp only[Op.bytesLess,Iv,Lib.compareBytes] at ih ⊢;by_cases h1:a<b
  ·simp[h1]
  ·by_cases h2:b<a
   ·have h3:¬a=b:=λh=>by subst h;exact h1 h2
    simp[h1,h2,h3]
   ·have h3:a=b:=UInt8.le_antisymm (UInt8.not_lt.1 h2) (UInt8.not_lt.1 h1);simp[h3,ih];exact Zy1.2 Iff.rfl
theorem Aty:∀a b:Str,Iv a b=0↔a=b
 |[],[]=>by simp[Iv,Lib.compareBytes]
 |[],_::_=>by simp[Iv,Lib.compareBytes]
 |_::_,[]=>by simp[Iv,Lib.compareBytes]
 |a::x,b::y=>by
  have ih:=Aty x y;simp only[Iv,Lib.compareBytes] at ih ⊢;by_cases h1:a<b
  ·have h3:¬a=b:=λh=>by subst h;exact UInt8.lt_irrefl _ h1
   simp[h1,h3]
  ·by_cases h2:b<a
   ·have h3:¬a=b:=λh=>by subst h;exact h1 h2
    simp[h1,h2,h3]
   ·have h3:a=b:=UInt8.le_antisymm (UInt8.not_lt.1 h2) (UInt8.not_lt.1 h1);simp[h3,ih]
theorem Bel:∀a b:Val,S2 a b=O3 a b
 |⟨k,n,s⟩,⟨k',n',s'⟩=>by
  simp only[S2,O3,Eh,Hb,Aeq];by_cases h1:k<k'
  ·simp[h1]
  ·by_cases h2:k'<k
   ·have h3:¬k=k':=by omega
    simp[h1,h2,h3]
   ·obtain rfl:k=k':=by omega
    by_cases h4:n<n'
    ·simp[h4]
    ·by_cases h5:n'<n
     ·have h6:¬n=n':=by omega
      simp[h4,h5,h6]
     ·obtain rfl:n=n':=by omega
      have h7:=Aty s s';rcases Qf s s' with h|h|h
      ·simp[h]
      ·have h8:s=s':=h7.1 h;subst h8;simp[h]
      ·have h8:¬s=s':=λe=>by rw[h7.2 e] at h;cases h
       simp[h,h8]
def Bf5(R:Type):Px R:=pxO [] [] [] []
def Agm(x:HV [.sl .int false,.int .i64]):Option (HV [.int .i64]):=match x with
 |(l,i) =>
 cond (decide (i<(l.length:Int))) (
  chk (inb i l.length) (
  some (at' .int l i))) (
  some 0)
theorem A88:FO 273 [.sl .int false,.int .i64] [.int .i64] (Agm):=fR (px:=Bf5 _) (n:=0) Tryz.func273 rfl (λ_ H=>⟨lv H Ae Ab Aa,Ah⟩) λ(_,_)=>by kernel_rfl
def It(l:List Int)(i:Int):Option Int:=cond (decide (0<=i)) (some (l.getD i.toNat 0)) none
def S9:FT [.sl .int false,.int .i64] [.int .i64]:=λx=>It x.1 x.2
theorem Aef:FO 273 [.sl .int false,.int .i64] [.int .i64] S9 :=.fin0 A88 λ(l,i) r _ hx=>by
 simp only[S9,It] at hx;by_cases h0 : 0<=i
 ·rw[Ze1 h0] at hx;obtain⟨j,hj⟩:∃j:Nat,i=(j:Int):=⟨Int.toNat i,(Int.toNat_of_nonneg h0).symm⟩;subst hj;rw[<-hx];simp only[Agm];by_cases hl:j<l.length
  ·rw[Ze1 (show(j:Int)<(l.length:Int) from Int.ofNat_lt.2 hl),Aw hl,As (c :=.int) hl];simp[chk,List.getD_eq_getElem?_getD,hl]
  ·rw[Zd1 (show ¬(j:Int)<(l.length:Int) fromλh=>hl (Int.ofNat_lt.1 h))];simp[List.getD_eq_getElem?_getD,List.getElem?_eq_none (Nat.le_of_not_lt hl)]
 ·rw[Zd1 h0] at hx;cases hx
theorem O0(l:List Int)(i:Nat):It l (i:Int)=some (dgt l i):=by simp only[It,dgt];rw[Ze1 (Int.natCast_nonneg i)];rfl
theorem Ayg{l:List Int}{i:Nat}(h:i<l.length):at' .int l (i:Int)=dgt l i:=by rw[As (c :=.int) h];simp[dgt,h]
def Ang:Sig:=⟨29,[(0,.bool),(1,.sl .int false),(5,.int .i64)],[(4,.ptr 0 0)],[(0,.one (.sv .num))],1,0,0,[],[]⟩
abbrev T1:=Bool×List Int×Int×Num
def Uk{R:Type}(rec:T1->Option R)(kx:Ex->T1->Option R)(v:T1):Option R:=match v with
 |(v,v1,v2,w) =>
 cond (decide (0<v2)) (
  chk (inb (wr .i64 (v2-1)) v1.length) (
  cond (decide ((at' .int v1 (wr .i64 (v2-1)))=0)) (
   rec (v,v1,(wr .i64 (v2-1)),w)) (
   kx (.exit 0) (v,v1,v2,w)))) (
  kx (.exit 0) (v,v1,v2,w))
def A0t(R:Type)(k:Nat):Px R:=pxO [] [] [(2,Am k Ang (Uk))] []
def Anq(k:Nat)(x:HV [.bool,.sl .int false]):Option (HV [.sv .num]):=match x with
 |(m,d) =>
 Al (λrec=>Uk rec (λe vz=>match vz with|(v3,v4,v5,_)=>match e with
  |.exit 0 =>
  cond (v3) (
   chk (Ev 0 v5 v4.length) (
   some (Num.mk (decide (0<v5)) (v4.take (v5:Int).toNat)))) (
   chk (Ev 0 v5 v4.length) (
   some (Num.mk false (v4.take (v5:Int).toNat))))
  |_=>none)) k (m,d,(d.length:Int),(Num.mk false []))
theorem Bee(k:Nat):FO 137 [.bool,.sl .int false] [.sv .num] (Anq k):=fR (px:=A0t _ k) (n:=1) Tryz.func137 rfl (λcx H=>by have h0:Lv cx (A0t (HV [.sv .num]) k):=lv H Ae Ab Aa;have hlrtrim_0:=lO H h0 (b:=lp Tryz.f137 0) (k:=k) (n:=0) (s:=Ang) (step:=Uk) (λ_ _ _ (_,_,_,_)=>by kernel_rfl) Ah;exact⟨h0,(A5 Ah hlrtrim_0)⟩) λ(_,_)=>by kernel_rfl
def Ie(m:Bool)(d:List Int):Num:=⟨m&&decide (0<((Io d).length:Int)),Io d⟩
def Ab3:FT [.bool,.sl .int false] [.sv .num]:=λx=>some (Ie x.1 x.2)
theorem Aiw{R:Type}{kx:Ex->T1->Option R}{m:Bool}{d:List Int}{w:Num}{b:Option R}(hn:ln d.length)(h2:∀i:Nat,i<=d.length->d.take i=Io d->kx (.exit 0) (m,d,(i:Int),w)=b):∀(i k:Nat),i<=d.length->i<k->Io (d.take i)=Io d->Al (λrec=>Uk rec kx) k (m,d,(i:Int),w)=b
 |i,0,_,h,_=>by omega
 |0,k+1,hi,_,ht=>by rw[Bb];simp only[Uk];rw[Zd1 (by omega)];exact h2 0 hi ht
 |i+1,k+1,hi,h,ht=>by
  rw[Bb];have hl:i<d.length:=by omega
  have e1:wr .i64 (((i+1:Nat):Int)-1)=(i:Int):=by rw[Bf (by simp only[inI,ln] at *;omega)];omega
  simp only[Uk];rw[Ze1 (show(0:Int)<((i+1:Nat):Int) by omega),e1,Aw hl,As (c :=.int) hl];show cond (decide (d[i]=0)) _ _=b;have ht':=ht;rw[List.take_add_one,Zo1 hl] at ht';by_cases h0:d[i]=0
  ·rw[Ze1 h0];refine Aiw hn h2 i k (by omega) (by omega) ?_;rw[<-ht',h0];exact(Ai6 _).symm
  ·rw[Zd1 h0];refine h2 (i+1) hi ?_;rw[<-ht',List.take_add_one,Zo1 hl];exact(Amg h0 _).symm
theorem Ak6:FO 137 [.bool,.sl .int false] [.sv .num] Ab3 :=.fin 0 Bee λ(m,d) r hb hx=>⟨d.length+1,by
 simp only[Ab3,Za1] at hx;subst hx;simp only[Anq];refine Aiw hb.2.1 (λi hi ht =>?_) d.length (d.length+1) (Zn1 _) (by omega) (by rw[List.take_length]);have hlen:(Io d).length=i:=by rw[<-ht];simp;omega
 have hu:Ev 0 (i:Int) d.length=true:=by rw[show(0:Int)=((0:Nat):Int) from rfl,Bj2];simp[hi]
 rw[hu];simp only[Amb,Int.toNat_natCast,ht,Ie,hlen];cases m<;>rfl⟩
theorem Zn{m:Bool}{d:List Int}(h:dg d=true):Ie m d=Ap8 m (val d):=by
 have e:=Ak3 h;have hv:=Fa h;simp only[Ie,Ap8,e];by_cases h0:val d=0
 ·rw[h0,show F4 (Int.toNat 0)=[] from digs_zero];rfl
 ·rw[Fb (n:=(val d).toNat) (by omega),Ze1 (show(0:Int)<val d by omega)];rw[Ze1 (by simp only[Zf1];omega)]
def Az3:Sig:=⟨24,[(0,.int .i64),(3,.sl .int true),(4,.int .i64)],[(2,.ptr 0 0)],[(0,.one (.sv .num))],1,0,0,[],[]⟩
abbrev Ahu:=Int×List Int×Int×Num
def A1r{R:Type}(rec:Ahu->Option R)(kx:Ex->Ahu->Option R)(v:Ahu):Option R:=match v with
 |(v,v1,v2,w) =>
 cond (!decide (v2=0)) (
  chk (decide (v1.length+1<=Ao)) (
  rec (v,(v1++[(max2 (Int.tmod v2 10) (wr .i64 (0-(Int.tmod v2 10))))]),(wr .i64 (Int.tdiv v2 10)),w))) (
  kx (.exit 0) (v,v1,v2,w))
def Bqx(R:Type)(k:Nat):Px R:=pxO [(137,cA Ab3)] [] [(3,Am k Az3 (A1r))] []
def Az6(k:Nat)(x:HV [.int .i64]):Option (HV [.sv .num]):=match x with
 |n =>
 Al (λrec=>A1r rec (λe vz=>match vz with|(v3,v4,_,_)=>match e with
  |.exit 0 =>
  some (Ie (decide (v3<0)) v4)
  |_=>none)) k (n,[],n,(Num.mk false []))
theorem Bt0(k:Nat):FO 74 [.int .i64] [.sv .num] (Az6 k):=fR (px:=Bqx _ k) (n:=1) Tryz.func74 rfl (λcx H=>by have h0:Lv cx (Bqx (HV [.sv .num]) k):=lv H (c1 H Ak6 Ae) Ab Aa;have hlrOf_0:=lO H h0 (b:=lp Tryz.f74 0) (k:=k) (n:=0) (s:=Az3) (step:=A1r) (λ_ _ _ (_,_,_,_)=>by kernel_rfl) Ah;exact⟨h0,(A5 Ah hlrOf_0)⟩) λ_=>by kernel_rfl
abbrev rOf(n:Int):Num:=Eg n
def Ath:FT [.int .i64] [.sv .num]:=λx=>some (rOf x)
theorem Beh{x:Int}(hx:inI x)(h0:¬x=0):max2 (Int.tmod x 10) (wr .i64 (0-Int.tmod x 10))=((x.natAbs % 10:Nat):Int)/\inI (wr .i64 (Int.tdiv x 10))/\(wr .i64 (Int.tdiv x 10)).natAbs=x.natAbs / 10:=by
 simp only[inI] at *;rcases Int.natAbs_eq x with h|h
 ·generalize x.natAbs=a at h;subst h;have e1:Int.tmod (a:Int) 10=((a % 10:Nat):Int):=rfl;have e2:Int.tdiv (a:Int) 10=((a / 10:Nat):Int):=rfl;rw[e1,e2,Bf (by simp only[inI];omega),Bf (by simp only[inI];omega)];refine⟨?_,by omega,by omega⟩;simp only[max2];split<;>omega
 ·generalize x.natAbs=a at h;subst h;have e1:Int.tmod (-(a:Int)) 10 = -((a % 10:Nat):Int):=by rw[Int.neg_tmod];rfl
  have e2:Int.tdiv (-(a:Int)) 10 = -((a / 10:Nat):Int):=by rw[Int.neg_tdiv];rfl
  rw[e1,e2,Bf (by simp only[inI];omega),Bf (by simp only[inI];omega)];refine⟨?_,by omega,by omega⟩;simp only[max2];split<;>omega
theorem A2v{R:Type}{kx:Ex->Ahu->Option R}{n:Int}{w:Num}{b:List Int->Option R}(h2:∀out x,kx (.exit 0) (n,out,x,w)=b out):∀(k:Nat) (x:Int) (out:List Int),inI x->(F4 x.natAbs).length<k->out.length+(F4 x.natAbs).length<=1000->Al (λrec=>A1r rec kx) k (n,out,x,w)=b (out++F4 x.natAbs)
 |0,x,out,_,h,_=>by omega
 |k+1,x,out,hx,h,ho=>by
  rw[Bb];simp only[A1r,h2];by_cases h0:x=0
  ·subst h0;rw[Ze1 rfl];show b out=_;rw[show(0:Int).natAbs=0 from rfl,digs_zero,List.append_nil]
  ·have hd:=Fb (n:=x.natAbs) (by omega);obtain⟨e1,e2,e3⟩:=Beh hx h0;rw[hd,Zf1] at h ho;have ih:=A2v h2 k (wr .i64 (Int.tdiv x 10)) (out++[((x.natAbs % 10:Nat):Int)]) e2 (by rw[e3];omega) (by rw[e3];simp only[Zh1,Zf1,Zi1];omega);rw[Zd1 h0,e1,ih,e3,Ze1 (show out.length+1<=Ao by simp only[Ao];omega),hd];simp[chk]
theorem Bpt{x:Int}(h:inI x):(F4 x.natAbs).length<=20:=Aag 20 _ (by
 simp only[inI] at h;have:pw 20=100000000000000000000:=by kernel_rfl
 omega)
theorem Axr:FO 74 [.int .i64] [.sv .num] Ath :=.fin 0 Bt0 λn r hb hx=>⟨21,by have hb:=Bu hb;have hl:=Bpt hb;simp only[Ath,Za1] at hx;subst hx;simp only[Az6];refine(A2v (b:=λout=>some (Ie (decide (n<0)) out)) (λ_ _=>rfl) 21 n [] hb (by omega) (by simp only[Zi1];omega)).trans ?_;rw[Zf2,Zn (Awf _),A0m];rfl⟩
def Amx:Sig:=⟨43,[(2,.int .i64),(3,.int .i64),(4,.int .i64),(5,.int .i64)],[(1,.ptr 0 0)],[(0,.one (.sv .num))],1,0,0,[],[]⟩
abbrev Me:=Int×Int×Int×Int×Num
def Pl{R:Type}(rec:Me->Option R)(kx:Ex->Me->Option R)(v:Me):Option R:=match v with
 |(v,v1,v2,v3,w) =>
 cond (decide (0<=v3)) (
  cond (decide (v2<(-922337203685477580))) (
  kx .ret (0,20,v2,v3,w)) (
  cond (decide (v2=(-922337203685477580))) (
   chk (inb v3 w.d.length) (
   cond (decide (8<(at' .int w.d v3))) (
    kx .ret (0,20,v2,v3,w)) (
    chk (inb v3 w.d.length) (
    rec (v,v1,(wr .i64 ((wr .i64 (10*v2))-(at' .int w.d v3))),(wr .i64 (v3-1)),w))))) (
   chk (inb v3 w.d.length) (
   rec (v,v1,(wr .i64 ((wr .i64 (10*v2))-(at' .int w.d v3))),(wr .i64 (v3-1)),w))))) (
  kx (.exit 0) (v,v1,v2,v3,w))
def A00(R:Type)(k:Nat):Px R:=pxO [] [] [(3,Am k Amx (Pl))] []
def Al1(k:Nat)(x:HV [.sv .num]):Option (HV [.int .i64,.int .i64]):=match x with
 |n =>
 Al (λrec=>Pl rec (λe vz=>match vz with|(v4,v5,v6,_,v8)=>match e with
  |.ret =>
  some (v4,v5)
  |.exit 0 =>
  cond (v8.minus) (
   some (v6,0)) (
   cond (decide (v6=(-9223372036854775808))) (
   some (0,20)) (
   some ((wr .i64 (0-v6)),0)))
  |_=>none)) k (0,0,0,(wr .i64 ((n.d.length:Int)-1)),n)
theorem Bhp(k:Nat):FO 262 [.sv .num] [.int .i64,.int .i64] (Al1 k):=fR (px:=A00 _ k) (n:=1) Tryz.func262 rfl (λcx H=>by have h0:Lv cx (A00 (HV [.int .i64,.int .i64]) k):=lv H Ae Ab Aa;have hlrtold_0:=lO H h0 (b:=lp Tryz.f262 0) (k:=k) (n:=0) (s:=Amx) (step:=Pl) (λ_ _ _ (_,_,_,_,_)=>by kernel_rfl) Ah;exact⟨h0,(A5 Ah hlrtold_0)⟩) λ_=>by kernel_rfl
def Ao2(n:Num):Option (Int×Int):=cond (dg n.d) (some (Ia (nv n))) none
def Abl:FT [.sv .num] [.int .i64,.int .i64]:=λx=>Ao2 x
theorem Aou{R:Type}{kx:Ex->Me->Option R}{n:Num}{a:Option R}{b:Int->Option R}(hd:dg n.d=true)(hn:ln n.d.length)(h1:∀x i,kx .ret (0,20,x,i,n)=a)(h2:∀p q x i,kx (.exit 0) (p,q,x,i,n)=b x):∀(k j:Nat) p q,j<=n.d.length->j<k->val (n.d.drop j)<=9223372036854775808->Al (λrec=>Pl rec kx) k (p,q, -(val (n.d.drop j)),(j:Int)-1,n)=if val n.d<=9223372036854775808 then b (-(val n.d)) else a
 |0,j,p,q,_,h,_=>by omega
 |k+1,0,p,q,_,_,hv=>by rw[Bb];simp only[Pl,h2,Zq1] at hv ⊢;rw[Zd1 (by omega),if_pos hv];rfl
 |k+1,j+1,p,q,hj,h,hv=>by
  rw[Bb];have hl:j<n.d.length:=by omega
  have e0:(((j+1:Nat):Int)-1)=(j:Int):=by omega
  have hs:=M9 n.d j;have hb:=Tf hd j;have hnn:=Fa (Aid (j+1) hd);have hle:=A3y hd j;have e1:wr .i64 ((j:Int)-1)=(j:Int)-1:=Bf (by simp only[inI,ln] at *;omega);rw[e0];simp only[Pl,h1,Aw hl,chk,Af,Ayg hl,e1];rw[Ze1 (Int.natCast_nonneg j)];have over:val (n.d.drop j) > 9223372036854775808->(if val n.d<=9223372036854775808 then b (-(val n.d)) else a)=a:=λh=>if_neg (by omega);have next:val (n.d.drop j)<=9223372036854775808->Al (λrec=>Pl rec kx) k (p,q,wr .i64 (wr .i64 (10 * -(val (n.d.drop (j+1))))-dgt n.d j),(j:Int)-1,n)=(if val n.d<=9223372036854775808 then b (-(val n.d)) else a):=λh=>by
   have e2:wr .i64 (10 * -(val (n.d.drop (j+1))))=10 * -(val (n.d.drop (j+1))):=Bf (by simp only[inI];omega);have e3:wr .i64 (10 * -(val (n.d.drop (j+1)))-dgt n.d j) = -(val (n.d.drop j)):=by rw[Bf (by simp only[inI];omega)];omega
   rw[e2,e3];exact Aou hd hn h1 h2 k j p q (by omega) (by omega) h
  by_cases c1 : -(val (n.d.drop (j+1))) < -922337203685477580
  ·rw[Ze1 c1,over (by omega)];rfl
  ·rw[Zd1 c1];by_cases c2 : -(val (n.d.drop (j+1))) = -922337203685477580
   ·rw[Ze1 c2];by_cases c3 : 8<dgt n.d j
    ·rw[Ze1 c3,over (by omega)];rfl
    ·rw[Zd1 c3];exact next (by omega)
   ·rw[Zd1 c2];exact next (by omega)
theorem Ak2:FO 262 [.sv .num] [.int .i64,.int .i64] Abl :=.fin 0 Bhp λn r hb hx=>⟨n.d.length+1,by
 have hln:ln n.d.length:=hb.1;simp only[Abl,Ao2] at hx;cases hd:dg n.d with
 |false=>rw[hd] at hx;cases hx
 |true =>
  rw[hd] at hx;have hx:some (Ia (nv n))=some r:=hx;rw[<-hx];have hnn:=Fa hd;have e0:wr .i64 ((n.d.length:Int)-1)=(n.d.length:Int)-1:=Bf (by simp only[inI,ln] at *;omega);simp only[Al1,e0];have e1:(0:Int) = -(val (n.d.drop n.d.length)):=by rw[Zc2];rfl
  have e2:((0,0,0,(n.d.length:Int)-1,n):Me)=(0,0, -(val (n.d.drop n.d.length)),(n.d.length:Int)-1,n):=by rw[<-e1]
  rw[e2];refine(Aou (a:=some (0,20)) (b:=λx=>cond n.minus (some (x,0)) (cond (decide (x = -9223372036854775808)) (some (0,20)) (some (wr .i64 (0-x),0)))) hd hln (λ_ _=>rfl) (λ_ _ _ _=>rfl) (n.d.length+1) n.d.length 0 0 (Zn1 _) (by omega) (by rw[Zc2];decide)).trans ?_
  ·by_cases hm:n.minus=true
   ·have hv:nv n = -(val n.d):=by simp only[nv,if_pos hm]
    rw[hv,hm];simp only[Af,Ia];by_cases h:val n.d<=9223372036854775808
    ·rw[if_pos h,if_pos (by omega)]
    ·rw[if_neg h,if_neg (by omega)]
   ·have hv:nv n=val n.d:=by simp only[nv,if_neg hm]
    rw[hv,Bool.eq_false_iff.2 hm];simp only[Ag,Ia];by_cases h:val n.d<=9223372036854775808
    ·rw[if_pos h];by_cases h9:val n.d=9223372036854775808
     ·rw[h9];rfl
     ·rw[Zd1 (by omega),if_pos (by omega),Bf (by simp only[inI];omega)];simp
    ·rw[if_neg h,if_neg (by omega)]⟩
def Al4:Sig:=⟨30,[(0,.sl .int false),(1,.sl .int false),(4,.bool),(5,.int .i64)],[],[],0,0,0,[],[]⟩
abbrev Vp:=List Int×List Int×Bool×Int
def Vf{R:Type}(rec:Vp->Option R)(kx:Ex->Vp->Option R)(v:Vp):Option R:=match v with
 |(v,v1,v2,v3) =>
 cond (decide (0<=v3)) (
  (It v v3).bind λx =>
  (It v1 v3).bind λx1 =>
   cond (!decide (x=x1)) (
   (It v v3).bind λx2 =>
    (It v1 v3).bind λx3 =>
    kx .ret (v,v1,decide (x2<x3),v3)) (
   rec (v,v1,v2,(wr .i64 (v3-1))))) (
  kx (.exit 0) (v,v1,v2,v3))
def A14(R:Type)(k:Nat):Px R:=pxO [(273,cA S9)] [] [(2,Am k Al4 (Vf))] []
def Am4(k:Nat)(x:HV [.sl .int false,.sl .int false]):Option (HV [.bool]):=match x with
 |(a,b) =>
 Al (λrec=>Vf rec (λe vz=>match vz with|(_,_,v6,_)=>match e with
  |.ret =>
  some v6
  |.exit 0 =>
  some false
  |_=>none)) k (a,b,false,(wr .i64 ((max2 (a.length:Int) (b.length:Int))-1)))
theorem Ben(k:Nat):FO 274 [.sl .int false,.sl .int false] [.bool] (Am4 k):=fR (px:=A14 _ k) (n:=1) Tryz.func274 rfl (λcx H=>by have h0:Lv cx (A14 (HV [.bool]) k):=lv H (c1 H Aef Ae) Ab Aa;have hlrless_0:=lO H h0 (b:=lp Tryz.f274 0) (k:=k) (n:=0) (s:=Al4) (step:=Vf) (λ_ _ _ (_,_,_,_)=>by kernel_rfl) Ah;exact⟨h0,(A5 Ah hlrless_0)⟩) λ(_,_)=>by kernel_rfl
def A2h(a b:List Int):Option Bool:=cond (dg a&&dg b) (some (decide (val a<val b))) none
def Aw9:FT [.sl .int false,.sl .int false] [.bool]:=λx=>A2h x.1 x.2
theorem Alk{R:Type}{kx:Ex->Vp->Option R}{a b:List Int}{c:Bool->Option R}(ha:dg a=true)(hb:dg b=true)(h1:∀p i,kx .ret (a,b,p,i)=c p)(h2:∀p i,kx (.exit 0) (a,b,p,i)=c false):∀(k j:Nat) (p:Bool),ln j->j<k->val (a.drop j)=val (b.drop j)->Al (λrec=>Vf rec kx) k (a,b,p,(j:Int)-1)=c (decide (val a<val b))
 |0,j,p,_,h,_=>absurd h (Zm1 _)
 |k+1,0,p,_,_,hv=>by rw[Bb];simp only[Zq1] at hv;simp only[Vf,h2];rw[Zd1 (by omega),Zd1 (by omega)];rfl
 |k+1,j+1,p,hj,h,hv=>by
  rw[Bb];have e0:(((j+1:Nat):Int)-1)=(j:Int):=by omega
  have e1:wr .i64 ((j:Int)-1)=(j:Int)-1:=Bf (by simp only[inI,ln] at *;omega);have sa:=M9 a j;have sb:=M9 b j;rw[e0];simp only[Vf,h1,O0,Zc1,e1];rw[Ze1 (Int.natCast_nonneg j),Af];by_cases h0:dgt a j=dgt b j
  ·rw[Ze1 h0];exact Alk ha hb h1 h2 k j p (by simp only[ln] at *;omega) (by omega) (by omega)
  ·rw[Zd1 h0];show c _=_;obtain⟨la,a1,a2,a3⟩:=Adf ha j;obtain⟨lb,b1,b2,b3⟩:=Adf hb j;have hp:=S0 j;congr 1;refine Zy1.2 ?_;have lt:∀{x y lx ly:Int},x<y->lx<pw j->0<=ly->lx+pw j*x<ly+pw j*y:=λ{x y lx ly} hxy h3 h4=>by have:pw j*(x+1)<=pw j*y:=Int.mul_le_mul_of_nonneg_left hxy (by omega);rw[Int.mul_add,Int.mul_one] at this;omega
   constructor
   ·intro hlt;rw[a3,b3];exact lt (by omega) a2 b1
   ·intro hlt;by_cases hgt:dgt b j<dgt a j
    ·have:=lt (x:=val (b.drop j)) (y:=val (a.drop j)) (by omega) b2 a1;omega
    ·omega
theorem Bkr:FO 274 [.sl .int false,.sl .int false] [.bool] Aw9 :=.fin 0 Ben λ(a,b) r hb hx=>⟨max a.length b.length+1,by
 have l1:ln a.length:=hb.1.1;have l2:ln b.length:=hb.2.1;simp only[Aw9,A2h] at hx;cases hd:dg a&&dg b with
 |false=>rw[hd] at hx;cases hx
 |true =>
  rw[hd] at hx;simp only[Zb1] at hd;have hx:some (decide (val a<val b))=some r:=hx;rw[<-hx];have e0:wr .i64 (max2 (a.length:Int) (b.length:Int)-1)=((max a.length b.length:Nat):Int)-1:=by simp only[ln] at l1 l2;rw[Bf (by simp only[inI,max2];split<;>omega)];simp only[max2];split<;>omega
  simp only[Am4,e0];refine Alk (c:=λp=>some p) hd.1 hd.2 (λ_ _=>rfl) (λ_ _=>rfl) (max a.length b.length+1) (max a.length b.length) false (Nat.max_le.2 ⟨l1,l2⟩) (by omega) ?_;rw[Zk1 (by omega),Zk1 (by omega)]⟩
def Aoz:Sig:=⟨99,[(5,.sl .int true),(6,.int .i64),(11,.int .i64)],[(4,.ptr 2 0),(9,.ptr 3 0),(10,.ptr 4 0)],[(2,.one (.sv .num)),(3,.one (.sv .num)),(4,.one (.sv .num))],5,0,0,[],[]⟩
abbrev Ml:=List Int×Int×Int×Num×Num×Num
def U9{R:Type}(rec:Ml->Option R)(kx:Ex->Ml->Option R)(v:Ml):Option R:=match v with
 |(v9,b,a,w3,w4,w5) =>
 cond (decide (a<(w4.d.length:Int))) (
  chk (inb a w4.d.length) (
  (It w5.d a).bind λx3 =>
   chk (decide (v9.length+1<=Ao)) (
   rec ((v9++[(Int.tmod (wr .i64 ((wr .i64 ((wr .i64 ((at' .int w4.d a)-x3))-b))+10)) 10)]),(wr .i64 (1-(wr .i64 (Int.tdiv (wr .i64 ((wr .i64 ((wr .i64 ((at' .int w4.d a)-x3))-b))+10)) 10)))),(wr .i64 (a+1)),w3,w4,w5)))) (
  kx (.exit 2) (v9,b,a,w3,w4,w5))
def Ajc:Sig:=⟨99,[(5,.sl .int true),(6,.int .i64),(7,.int .i64)],[(2,.ptr 0 0),(3,.ptr 1 0),(4,.ptr 2 0)],[(0,.one (.sv .num)),(1,.one (.sv .num)),(2,.one (.sv .num))],3,0,0,[],[]⟩
abbrev Uu:=List Int×Int×Int×Num×Num×Num
def Acb{R:Type}(rec:Uu->Option R)(kx:Ex->Uu->Option R)(v:Uu):Option R:=match v with
 |(v,v1,v2,w,w1,w2) =>
 let j:=λ(_:Unit) =>
  (It w.d v2).bind λx =>
  (It w1.d v2).bind λx1 =>
   chk (decide (v.length+1<=Ao)) (
   rec ((v++[(Int.tmod (wr .i64 ((wr .i64 (x+x1))+v1)) 10)]),(wr .i64 (Int.tdiv (wr .i64 ((wr .i64 (x+x1))+v1)) 10)),(wr .i64 (v2+1)),w,w1,w2))
 cond (decide (v2<(w.d.length:Int))) (
  j ()) (
  cond (decide (v2<(w1.d.length:Int))) (
  j ()) (
  cond (decide (0<v1)) (
   j ()) (
   kx (.exit 0) (v,v1,v2,w,w1,w2))))
def A4n(R:Type)(k:Nat):Px R:=pxO [(137,cA Ab3),(274,cA Aw9)] [(273,qA S9)] [(5,Am k Ajc (Acb)),(17,Am k Aoz (U9))] []
def Am5(k:Nat)(x:HV [.sv .num,.sv .num]):Option (HV [.sv .num]):=match x with
 |(n,m) =>
 cond (decide (n.minus=m.minus)) (
  Al (λrec=>Acb rec (λe vz=>match vz with|(v3,_,_,v6,_,_)=>match e with
  |.exit 0 =>some (Ie v6.minus v3)
  |_=>none)) k ([],0,0,n,m,(Num.mk false []))) (
  let j1:=λ(q:Num) (q1:Num) =>
  Al (λrec=>U9 rec (λe vz=>match vz with|(a,_,_,_,b,_)=>match e with
   |.exit 2 =>
   some (Ie b.minus a)
   |_=>none)) k ([],0,0,(Num.mk false []),q,q1)
  (A2h n.d m.d).bind λx2 =>
  cond (x2) (
   j1 m n) (
   j1 n m))
theorem Bdg(k:Nat):FO 263 [.sv .num,.sv .num] [.sv .num] (Am5 k):=fR (px:=A4n _ k) (n:=2) Tryz.func263 rfl (λcx H=>by have h0:Lv cx (A4n (HV [.sv .num]) k):=lv H (c1 H Ak6 (c1 H Bkr Ae)) (q1 H Aef Ab) Aa;have hlrPlus_0:=lO H h0 (b:=lp Tryz.f263 0) (k:=k) (n:=0) (s:=Ajc) (step:=Acb) (λ_ _ _ (_,_,_,_,_,_)=>by kernel_rfl) Ah;have hlrPlus_1:=lO H h0 (b:=lp Tryz.f263 1) (k:=k) (n:=0) (s:=Aoz) (step:=U9) (λ_ _ _ (_,_,_,_,_,_)=>by kernel_rfl) Ah;exact⟨h0,(A5 (A5 Ah hlrPlus_0) hlrPlus_1)⟩) λ(_,_)=>by kernel_rfl
def Ai4(n m:Num):Option Num:=cond (okN n&&okN m) (some (Eg (nv n+nv m))) none
def Ahz:FT [.sv .num,.sv .num] [.sv .num]:=λx=>Ai4 x.1 x.2
theorem A29{R:Type}{kx:Ex->Uu->Option R}{n m w2:Num}{b:List Int->Option R}(hn:dg n.d=true)(hm:dg m.d=true){L:Nat}(hL:L<=1000)(h3:n.d.length<=L)(h4:m.d.length<=L)(h2:∀out c i,kx (.exit 0) (out,c,i,n,m,w2)=b out):∀(k i:Nat) (out:List Int) (c:Int),0<=c->c<=1->out.length=i->(i:Int)+c<=(L:Int)+1->2*(L-i)+c.toNat<k->dg out=true->∃D,dg (out++D)=true/\val D=val (n.d.drop i)+val (m.d.drop i)+c/\Al (λrec=>Acb rec kx) k (out,c,(i:Int),n,m,w2)=b (out++D)
 |0,i,out,c,_,_,_,_,h,_=>by omega
 |k+1,i,out,c,c0,c1,ho,hi,hk,hd=>by
  have dn:=Tf hn i;have dm:=Tf hm i;have vn:=M9 n.d i;have vm:=M9 m.d i;rw[Bb];simp only[Acb,O0,Zc1,h2];by_cases hgo:i<n.d.length\/i<m.d.length\/0<c
  ·have hx : 0<=dgt n.d i+dgt m.d i+c/\dgt n.d i+dgt m.d i+c<=19:=by omega
   obtain⟨x,hxe⟩:∃x,x=dgt n.d i+dgt m.d i+c:=⟨_,rfl⟩;have e1:wr .i64 (wr .i64 (dgt n.d i+dgt m.d i)+c)=x:=by rw[Bf (n:=dgt n.d i+dgt m.d i) (by simp only[inI];omega),Bf (by simp only[inI];omega),hxe]
   rw[<-hxe] at hx;obtain⟨t1,t2⟩:=ten hx.1;have e2:wr .i64 (x / 10)=x / 10:=Bf (by simp only[inI];omega);have e3:wr .i64 ((i:Int)+1)=((i+1:Nat):Int):=by rw[Bf (by simp only[inI];omega)];omega
   have hdx:dg (out++[x % 10])=true:=Bm6.2 ⟨hd,D9.2 ⟨by omega,rfl⟩⟩;have hbeyond:¬i<n.d.length->¬i<m.d.length->x=c:=λa b=>by
    have z1:dgt n.d i=0:=by simp[dgt,List.getElem?_eq_none (Nat.le_of_not_lt a)]
    have z2:dgt m.d i=0:=by simp[dgt,List.getElem?_eq_none (Nat.le_of_not_lt b)]
    omega
   obtain⟨D,q1,q2,q3⟩:=A29 hn hm hL h3 h4 h2 k (i+1) (out++[x % 10]) (x / 10) (by omega) (by omega) (by simp[ho]) (by omega) (by
    by_cases a:i<L
    ·omega
    ·have:=hbeyond (by omega) (by omega);omega) hdx
   have ha:out.length+1<=Ao:=by simp only[Ao];omega
   rw[e1,t1,t2,e2,e3,q3,Ze1 ha];refine⟨x % 10::D,by simpa using q1,by simp only[val];omega,?_⟩;simp only[chk,Af];have ee:out++[x % 10]++D=out++x % 10::D:=by simp
   rw[ee];by_cases a:(i:Int)<(n.d.length:Int)
   ·rw[Ze1 a];rfl
   ·rw[Zd1 a];by_cases b':(i:Int)<(m.d.length:Int)
    ·rw[Ze1 b'];rfl
    ·rw[Zd1 b',Ze1 (show 0<c by omega)];rfl
  ·refine⟨[],by simpa using hd,?_,?_⟩
   ·rw[Zk1 (by omega),Zk1 (by omega)];simp only[val];omega
   ·rw[Zd1 (show ¬(i:Int)<(n.d.length:Int) by omega),Zd1 (show ¬(i:Int)<(m.d.length:Int) by omega),Zd1 (show ¬ 0<c by omega),List.append_nil];rfl
theorem A34{R:Type}{kx:Ex->Ml->Option R}{n m w2:Num}{b:List Int->Option R}(hn:dg n.d=true)(hm:dg m.d=true)(hL:n.d.length<=1000)(h2:∀out c i,kx (.exit 2) (out,c,i,w2,n,m)=b out):∀(k i:Nat) (out:List Int) (c:Int),0<=c->c<=1->out.length=i->i<=n.d.length->n.d.length-i<k->dg out=true->∃D cf,dg (out++D)=true/\D.length=n.d.length-i/\(0<=cf/\cf<=1)/\val D=val (n.d.drop i)-val ((m.d.drop i).take (n.d.length-i))-c+pw (n.d.length-i)*cf/\Al (λrec=>U9 rec kx) k (out,c,(i:Int),w2,n,m)=b (out++D)
 |0,i,out,c,_,_,_,_,h,_=>by omega
 |k+1,i,out,c,c0,c1,ho,hi,hk,hd=>by
  rw[Bb];simp only[U9,O0,Zc1,h2];by_cases hl:i<n.d.length
  ·have dn:=Tf hn i;have dm:=Tf hm i;have vn:=M9 n.d i;obtain⟨l,hle⟩:∃l,n.d.length-i=l+1:=⟨n.d.length-i-1,by omega⟩;have vm:=Bvx m.d i l;obtain⟨x,hxe⟩:∃x,x=dgt n.d i-dgt m.d i-c+10:=⟨_,rfl⟩;have hx : 0<=x/\x<=19:=by omega
   have e1:wr .i64 (wr .i64 (wr .i64 (dgt n.d i-dgt m.d i)-c)+10)=x:=by rw[Bf (n:=dgt n.d i-dgt m.d i) (by simp only[inI];omega),Bf (n:=dgt n.d i-dgt m.d i-c) (by simp only[inI];omega),Bf (by simp only[inI];omega),hxe]
   obtain⟨t1,t2⟩:=ten hx.1;have e2:wr .i64 (1-wr .i64 (x / 10))=1-x / 10:=by rw[Bf (n:=x / 10) (by simp only[inI];omega),Bf (by simp only[inI];omega)]
   have e3:wr .i64 ((i:Int)+1)=((i+1:Nat):Int):=by rw[Bf (by simp only[inI];omega)];omega
   have hdx:dg (out++[x % 10])=true:=Bm6.2 ⟨hd,D9.2 ⟨by omega,rfl⟩⟩;obtain⟨D,cf,q1,q2,q3,q4,q5⟩:=A34 hn hm hL h2 k (i+1) (out++[x % 10]) (1-x / 10) (by omega) (by omega) (by simp[ho]) (by omega) (by omega) hdx;have ha:out.length+1<=Ao:=by simp only[Ao];omega
   have hl2:n.d.length-(i+1)=l:=by omega
   rw[hl2] at q2 q4;rw[hle,vm];rw[Ayg hl,e1,t1,t2,e2,e3,q5,Ze1 ha,Aw hl,Ze1 (show(i:Int)<(n.d.length:Int) by omega)];refine⟨x % 10::D,cf,by simpa using q1,by simp[q2],q3,?_,?_⟩
   ·simp only[val,pw,Int.mul_assoc];omega
   ·have ee:out++[x % 10]++D=out++x % 10::D:=by simp
    rw[ee];rfl
  ·have e0:n.d.length-i=0:=by omega
   refine⟨[],c,by simpa using hd,by simp[e0],⟨c0,c1⟩,?_,?_⟩
   ·rw[e0,Zk1 (by omega)];simp only[List.take_zero,val,pw];omega
   ·rw[Zd1 (show ¬(i:Int)<(n.d.length:Int) by omega),List.append_nil];rfl
theorem Avt{n:Num}(h:okN n=true) : 0<=val n.d/\dg n.d=true/\n.d.length<=1000:=by obtain⟨h1,h2⟩:=Bl4 h;exact⟨Fa h1,h1,h2⟩
theorem Aue{R:Type}{kx:Ex->Ml->Option R}{n m w2:Num}{b:List Int->Option R}(hn:dg n.d=true)(hm:dg m.d=true)(hL:n.d.length<=1000)(hle:val m.d<=val n.d)(h2:∀out c i,kx (.exit 2) (out,c,i,w2,n,m)=b out)(k:Nat)(hk:n.d.length<k):∃D,dg D=true/\val D=val n.d-val m.d/\Al (λrec=>U9 rec kx) k ([],0,0,w2,n,m)=b D:=by
 obtain⟨D,cf,q1,q2,q3,q4,q5⟩:=A34 hn hm hL h2 k 0 [] 0 (by omega) (by omega) rfl (Nat.zero_le _) (by omega) rfl;rw[Zf2] at q1 q5;rw[Nat.sub_zero,Zq1,Zq1] at q4;have d1:=Fa q1;have d2:=Apd q1;rw[q2,Nat.sub_zero] at d2;have m0:=Bwz m.d n.d.length;have m1:=Fa (Aht n.d.length hm);have m2:=Fa (Aid n.d.length hm);have n1:=Apd hn;have hp:=S0 n.d.length;have hz:val (m.d.drop n.d.length)=0:=by
  rcases Int.le_iff_lt_or_eq.1 m2 with h|h
  ·exfalso;have:pw n.d.length*1<=pw n.d.length*val (m.d.drop n.d.length):=Int.mul_le_mul_of_nonneg_left (by omega) (by omega);omega
  ·exact h.symm
 rw[hz,Int.mul_zero,Int.add_zero] at m0;rw[<-m0] at q4;have hc:cf=0:=by
  rcases(by omega:cf=0\/cf=1) with h|h
  ·exact h
  ·rw[h,Int.mul_one] at q4;omega
 rw[hc,Int.mul_zero] at q4;exact⟨D,q1,by omega,q5⟩
theorem Ayx:FO 263 [.sv .num,.sv .num] [.sv .num] Ahz :=.fin 0 Bdg λ(n,m) r hb hx=>⟨2002,by
 simp only[Ahz,Ai4] at hx;cases hd:okN n&&okN m with
 |false=>rw[hd] at hx;cases hx
 |true =>
  rw[hd] at hx;have hx:some (Eg (nv n+nv m))=some r:=hx;rw[<-hx];simp only[Zb1] at hd;obtain⟨n0,n1,n2⟩:=Avt hd.1;obtain⟨m0,m1,m2⟩:=Avt hd.2;simp only[Am5];by_cases hs:n.minus=m.minus
  ·rw[Ze1 hs];obtain⟨D,q1,q2,q3⟩:=A29 (w2:=Num.mk false []) (kx:=λe v=>match v with|(v3,_,_,v6,_,_)=>match e with|.exit 0=>some (Ie v6.minus v3)|_=>none) (b:=λout=>some (Ie n.minus out)) n1 m1 (L:=max n.d.length m.d.length) (Nat.max_le.2 ⟨n2,m2⟩) (Nat.le_max_left _ _) (Nat.le_max_right _ _) (λ_ _ _=>rfl) 2002 0 [] 0 (by omega) (by omega) rfl (by omega) (by have:=Nat.max_le.2 ⟨n2,m2⟩;simp only[Nat.sub_zero,Int.toNat_zero];omega) rfl;refine q3.trans ?_;rw[Zf2] at q1 ⊢;simp only[Zq1] at q2;rw[Zn q1,Awk _ (Fa q1),q2];simp only[nv,<-hs];by_cases hm:n.minus=true
   ·simp only[if_pos hm];congr 2;omega
   ·simp only[if_neg hm];congr 2;omega
  ·rw[Zd1 hs];have hl:A2h n.d m.d=some (decide (val n.d<val m.d)):=by simp only[A2h,n1,m1];rfl
   simp only[hl,Zc1,Ag];by_cases hlt:val n.d<val m.d
   ·rw[Ze1 hlt];obtain⟨D,q1,q2,q3⟩:=Aue (w2:=Num.mk false []) (kx:=λe v=>match v with|(a,_,_,_,c,_)=>match e with|.exit 2=>some (Ie c.minus a)|_=>none) (b:=λout=>some (Ie m.minus out)) m1 n1 m2 (by omega) (λ_ _ _=>rfl) 2002 (by omega);refine q3.trans ?_;rw[Zn q1,Awk _ (Fa q1),q2];simp only[nv];cases hm:m.minus<;>cases hn:n.minus<;>first|(exact absurd (hn.trans hm.symm) hs)|(simp only[Zj2,if_false,if_true];congr 2<;>omega)
   ·rw[Zd1 hlt];obtain⟨D,q1,q2,q3⟩:=Aue (w2:=Num.mk false []) (kx:=λe v=>match v with|(a,_,_,_,c,_)=>match e with|.exit 2=>some (Ie c.minus a)|_=>none) (b:=λout=>some (Ie n.minus out)) n1 m1 n2 (by omega) (λ_ _ _=>rfl) 2002 (by omega);refine q3.trans ?_;rw[Zn q1,Awk _ (Fa q1),q2];simp only[nv];cases hm:m.minus<;>cases hn:n.minus<;>first|(exact absurd (hn.trans hm.symm) hs)|(simp only[Zj2,if_false,if_true];congr 2<;>omega)⟩
def Ag5:Sig:=⟨72,[(6,.int .i64),(7,.int .i64),(8,.int .i64)],[(2,.ptr 0 0),(3,.ptr 1 0),(4,.ptr 2 0)],[(0,.one (.sv .num)),(1,.one (.sv .num)),(2,.one (.sv .num)),(3,.one (.dn .int))],4,0,0,[],[(5,3,.int)]⟩
abbrev O5:=Int×Int×Int×Num×Num×Num×List Int×Int×Int
def Q6{R:Type}(rec:O5->Option R)(kx:Ex->O5->Option R)(v:O5):Option R:=match v with
 |(v1,v2,v3,w6,w7,w8,w9,a,b) =>
 let j:=λ(_:Unit) =>
  chk (inO (wr .i64 (v1+v3)) b) (
  chk (inb (a+(wr .i64 (v1+v3))) w9.length) (
   chk (inb v1 w6.d.length) (
   (It w7.d v3).bind λx =>
    chk (inO (wr .i64 (v1+v3)) b) (
    chk (inb (a+(wr .i64 (v1+v3))) w9.length) (
     rec (v1,(wr .i64 (Int.tdiv (wr .i64 ((wr .i64 ((at' .int w9 (a+(wr .i64 (v1+v3))))+(wr .i64 ((at' .int w6.d v1)*x))))+v2)) 10)),(wr .i64 (v3+1)),w6,w7,w8,(w9.set ((a+(wr .i64 (v1+v3))):Int).toNat (Int.tmod (wr .i64 ((wr .i64 ((at' .int w9 (a+(wr .i64 (v1+v3))))+(wr .i64 ((at' .int w6.d v1)*x))))+v2)) 10)),a,b))))))
 cond (decide (v3<(w7.d.length:Int))) (
  j ()) (
  cond (decide (0<v2)) (
  j ()) (
  kx (.exit 2) (v1,v2,v3,w6,w7,w8,w9,a,b)))
def Ahq:Sig:=⟨72,[(6,.int .i64)],[(2,.ptr 0 0),(3,.ptr 1 0),(4,.ptr 2 0)],[(0,.one (.sv .num)),(1,.one (.sv .num)),(2,.one (.sv .num)),(3,.one (.dn .int))],4,0,0,[],[(5,3,.int)]⟩
abbrev P2:=Int×Num×Num×Num×List Int×Int×Int
def Ig{R:Type}(k:Nat)(rec:P2->Option R)(kx:Ex->P2->Option R)(v:P2):Option R:=match v with
 |(v,w,w1,w2,w3,w4,w5) =>
 cond (decide (v<(w.d.length:Int))) (
  Al (λrc=>Q6 rc (λe vz=>match vz with|(v4,_,_,v7,v8,v9,a,b,c)=>match e with
  |.exit 2 =>rec ((wr .i64 (v4+1)),v7,v8,v9,a,b,c)
  |_=>none)) k (v,0,0,w,w1,w2,w3,w4,w5)) (
  kx (.exit 0) (v,w,w1,w2,w3,w4,w5))
def At4(R:Type)(k:Nat):Px R:=pxO [(137,cA Ab3)] [(273,qA S9)] [(7,Am k Ag5 (Q6)),(3,Am k Ahq (Ig k))] []
def Af9(k:Nat)(x:HV [.sv .num,.sv .num]):Option (HV [.sv .num]):=match x with
 |(n,m) =>
 chk (upI 0 (wr .i64 ((wr .i64 ((n.d.length:Int)+(m.d.length:Int)))+1)) (wr .i64 ((wr .i64 ((n.d.length:Int)+(m.d.length:Int)))+1))&&decide ((wr .i64 ((wr .i64 ((n.d.length:Int)+(m.d.length:Int)))+1))<=(Ao:Int))) (
  Al (λrec=>Ig k rec (λe vz=>match vz with|(_,f,g,_,c,a,b)=>match e with
  |.exit 0 =>
   chk (decide ((0:Int)<=a)&&decide ((0:Int)<=b)&&decide ((a+b)<=(c.length:Int))) (
   some (Ie (!decide (f.minus=g.minus)) (cut c a (a+b))))
  |_=>none)) k (0,n,m,(Num.mk false []),(List.replicate ((wr .i64 ((wr .i64 ((n.d.length:Int)+(m.d.length:Int)))+1)):Int).toNat (zer .int)),0,(wr .i64 ((wr .i64 ((n.d.length:Int)+(m.d.length:Int)))+1))))
theorem A8q(k:Nat):FO 264 [.sv .num,.sv .num] [.sv .num] (Af9 k):=fR (px:=At4 _ k) (n:=2) Tryz.func264 rfl (λcx H=>by have h0:Lv cx (At4 (HV [.sv .num]) k):=lv H (c1 H Ak6 Ae) (q1 H Aef Ab) Aa;have hlrTimes_1:=lO H h0 (b:=lpC (lp Tryz.f264 0) 0) (k:=k) (n:=0) (s:=Ag5) (step:=Q6) (λ_ _ _ (_,_,_,_,_,_,_,_,_)=>by kernel_rfl) Ah;have hlrTimes_0:=lO H h0 (b:=lp Tryz.f264 0) (k:=k) (n:=1) (s:=Ahq) (step:=Ig k) (λ_ _ _ (_,_,_,_,_,_,_)=>by kernel_rfl) (A5 Ah hlrTimes_1);exact⟨h0,(A5 (A5 Ah hlrTimes_0) hlrTimes_1)⟩) λ(_,_)=>by kernel_rfl
def Amj(n m:Num):Option Num:=cond (okN n&&okN m) (some (Eg (nv n*nv m))) none
def Anc:FT [.sv .num,.sv .num] [.sv .num]:=λx=>Amj x.1 x.2
theorem Ats(l:List Int)(j:Nat):val (l.take (j+1))=val (l.take j)+pw j*dgt l j:=by
 by_cases h:j<l.length
 ·exact Bl1 l j h
 ·have z:dgt l j=0:=by simp[dgt,List.getElem?_eq_none (Nat.le_of_not_lt h)]
  rw[z,Int.mul_zero,Int.add_zero,List.take_of_length_le (by omega),List.take_of_length_le (by omega)]
theorem Arw{R:Type}{kx:Ex->O5->Option R}{n m w8:Num}{b:List Int->Option R}(hn:dg n.d=true)(hm:dg m.d=true){i N:Nat}{V:Int}(hi:i<n.d.length)(hN:N=n.d.length+m.d.length+1)(hN2:N<=2001)(hT:V+pw i*(dgt n.d i*val m.d)<pw (i+1+m.d.length))(h2:∀c j d,kx (.exit 2) ((i:Int),c,j,n,m,w8,d,0,(N:Int))=b d):∀(k j:Nat) (c:Int) (d:List Int),0<=c->c<=9->j<=m.d.length+1->m.d.length+1-j<k->dg d=true->d.length=N->val d+c*pw (i+j)=V+pw i*(dgt n.d i*val (m.d.take j))->∃D,dg D=true/\D.length=N/\val D=V+pw i*(dgt n.d i*val m.d)/\Al (λrec=>Q6 rec kx) k ((i:Int),c,(j:Int),n,m,w8,d,0,(N:Int))=b D
 |0,j,c,d,_,_,_,h,_,_,_=>absurd h (Zm1 _)
 |k+1,j,c,d,c0,c9,hj,hk,hd,hl,hv=>by
  have dn:=Tf hn i;have dm:=Tf hm j;have dd:=Tf hd (i+j);have hdn:=Fa hd;rw[Bb];have stop : 0<c->m.d.length<=j->j=m.d.length:=λh1 h3=>by
   rw[List.take_of_length_le h3] at hv;rcases Nat.lt_or_ge m.d.length j with h|h
   ·exfalso;have h4:=Bai (show i+1+m.d.length<=i+j by omega);have h5 : 1*pw (i+j)<=c*pw (i+j):=Int.mul_le_mul_of_nonneg_right (by omega) (by have:=S0 (i+j);omega);omega
   ·omega
  simp only[Q6,O0,Zc1,h2];by_cases hgo:j<m.d.length\/0<c
  ·have hjm:j<=m.d.length:=by
    rcases hgo with h|h
    ·omega
    ·rcases Nat.lt_or_ge j m.d.length with h3|h3
     ·omega
     ·have:=stop h h3;omega
   have hpr:dgt n.d i*dgt m.d j<=9*9:=Int.mul_le_mul dn.2 dm.2 dm.1 (by omega);have hpr0 : 0<=dgt n.d i*dgt m.d j:=Int.mul_nonneg dn.1 dm.1;obtain⟨p,hp⟩:∃p,p=dgt n.d i*dgt m.d j:=⟨_,rfl⟩;obtain⟨x,hxe⟩:∃x,x=dgt d (i+j)+p+c:=⟨_,rfl⟩;rw[<-hp] at hpr hpr0;have hx : 0<=x/\x<=99:=by omega
   have e1:wr .i64 (wr .i64 (dgt d (i+j)+wr .i64 (dgt n.d i*dgt m.d j))+c)=x:=by rw[<-hp,Bf (n:=p) (by simp only[inI];omega),Bf (n:=dgt d (i+j)+p) (by simp only[inI];omega),Bf (by simp only[inI];omega),hxe]
   obtain⟨t1,t2⟩:=ten hx.1;have e2:wr .i64 (x / 10)=x / 10:=Bf (by simp only[inI];omega);have e3:wr .i64 ((j:Int)+1)=((j+1:Nat):Int):=by rw[Bf (by simp only[inI];omega)];omega
   have e4:wr .i64 ((i:Int)+(j:Int))=((i+j:Nat):Int):=by rw[Bf (by simp only[inI];omega)];omega
   have hlt:i+j<d.length:=by omega
   have e5:inO ((i+j:Nat):Int) (N:Int)=true:=by simp only[inO,Zb1,Zg1];omega
   have hvs:=Btu d (x % 10) (i+j) hlt;have hvt:=Ats m.d j;have hpa:=A8p i j;obtain⟨D,q1,q2,q3,q4⟩:=Arw hn hm hi hN hN2 hT h2 k (j+1) (x / 10) (d.set (i+j) (x % 10)) (by omega) (by omega) (by omega) (by omega) (Bvp (by omega) (i+j) hd) (by simpa using hl) (by
    rw[hvs,hvt,show i+(j+1)=i+j+1 by omega];simp only[pw];have hq:x=10*(x / 10)+x % 10:=by omega
    generalize x / 10=q at hq;generalize x % 10=r at hq;generalize pw (i+j)=P at *;generalize pw i=A at *;generalize pw j=B at *
    grind)
   refine⟨D,q1,q2,q3,?_⟩;rw[e4,Int.zero_add,e5,Aw hlt,Aw hi,Ayg hlt,Ayg hi,e1,t1,t2,e2,e3,Int.toNat_natCast,q4];by_cases a:(j:Int)<(m.d.length:Int)
   ·rw[Ze1 a];rfl
   ·rw[Zd1 a,Ze1 (show 0<c by omega)];rfl
  ·refine⟨d,hd,hl,?_,?_⟩
   ·have hc:c=0:=by omega
    rw[List.take_of_length_le (by omega),hc,Int.zero_mul,Int.add_zero] at hv;exact hv
   ·rw[Zd1 (show ¬(j:Int)<(m.d.length:Int) by omega),Zd1 (show ¬ 0<c by omega)];rfl
theorem Brg{x y p q:Int}(hx : 0<=x)(hy : 0<=y)(h1:x<p)(h2:y<q):x*y<p*q:=by have h3:x*y<=p*y:=Int.mul_le_mul_of_nonneg_right (by omega) hy;have h4:p*y<p*q:=Int.mul_lt_mul_of_pos_left h2 (by omega);omega
theorem Amz{R:Type}{kx:Ex->P2->Option R}{n m w:Num}{b:List Int->Option R}(hn:dg n.d=true)(hm:dg m.d=true){N K:Nat}(hN:N=n.d.length+m.d.length+1)(hN2:N<=2001)(hK:m.d.length+1<K)(h2:∀i d,kx (.exit 0) (i,n,m,w,d,0,(N:Int))=b d):∀(k i:Nat) (d:List Int),i<=n.d.length->n.d.length-i<k->dg d=true->d.length=N->val d=val (n.d.take i)*val m.d->∃D,dg D=true/\D.length=N/\val D=val n.d*val m.d/\Al (λrec=>Ig K rec kx) k ((i:Int),n,m,w,d,0,(N:Int))=b D
 |0,i,d,_,h,_,_,_=>absurd h (Zm1 _)
 |k+1,i,d,hi,hk,hd,hl,hv=>by
  rw[Bb];by_cases hlt:i<n.d.length
  ·have hvt:=Ats n.d i;have hmul:val d+pw i*(dgt n.d i*val m.d)=val (n.d.take (i+1))*val m.d:=by rw[hv,hvt,Int.add_mul,Int.mul_assoc]
   have hT:val d+pw i*(dgt n.d i*val m.d)<pw (i+1+m.d.length):=by rw[hmul,A8p];have l1:=Apd (Aht (i+1) hn);rw[List.length_take,Nat.min_eq_left (by omega)] at l1;exact Brg (Fa (Aht (i+1) hn)) (Fa hm) l1 (Apd hm)
   obtain⟨D,q1,q2,q3,q4⟩:=Arw (w8:=w) (kx:=λe v=>match v with|(v4,_,_,v7,v8,v9,a,c,f)=>match e with|.exit 2=>Al (λrec=>Ig K rec kx) k ((wr .i64 (v4+1)),v7,v8,v9,a,c,f)|_=>none) (b:=λd=>Al (λrec=>Ig K rec kx) k (wr .i64 ((i:Int)+1),n,m,w,d,0,(N:Int))) hn hm hlt hN hN2 hT (λ_ _ _=>rfl) K 0 0 d (by omega) (by omega) (Nat.zero_le _) (by omega) hd hl (by simp[val]);have e3:wr .i64 ((i:Int)+1)=((i+1:Nat):Int):=by rw[Bf (by simp only[inI];omega)];omega
   obtain⟨E,r1,r2,r3,r4⟩:=Amz hn hm hN hN2 hK h2 k (i+1) D (by omega) (by omega) q1 q2 (q3.trans hmul);refine⟨E,r1,r2,r3,?_⟩;simp only[Ig];rw[Ze1 (show(i:Int)<(n.d.length:Int) by omega)];rw[e3] at q4;exact q4.trans r4
  ·refine⟨d,hd,hl,?_,?_⟩
   ·rw[hv,List.take_of_length_le (by omega)]
   ·simp only[Ig,h2];rw[Zd1 (show ¬(i:Int)<(n.d.length:Int) by omega)];rfl
theorem Bis:FO 264 [.sv .num,.sv .num] [.sv .num] Anc :=.fin 0 A8q λ(n,m) r hb hx=>⟨1003,by
 simp only[Anc,Amj] at hx;cases hd:okN n&&okN m with
 |false=>rw[hd] at hx;cases hx
 |true =>
  rw[hd] at hx;have hx:some (Eg (nv n*nv m))=some r:=hx;rw[<-hx];simp only[Zb1] at hd;obtain⟨n0,n1,n2⟩:=Avt hd.1;obtain⟨m0,m1,m2⟩:=Avt hd.2;obtain⟨N,hN⟩:∃N,N=n.d.length+m.d.length+1:=⟨_,rfl⟩;have e1:wr .i64 (wr .i64 ((n.d.length:Int)+(m.d.length:Int))+1)=(N:Int):=by rw[Bf (n:=(n.d.length:Int)+(m.d.length:Int)) (by simp only[inI];omega),Bf (by simp only[inI];omega)];omega
  have e2:(upI 0 (N:Int) (N:Int)&&decide ((N:Int)<=(Ao:Int)))=true:=by
   have h1:(N:Int)<=(Ao:Int):=by simp only[Ao];omega
   rw[Ze1 h1];simp only[upI];rw[Ze1 (Int.le_refl 0),Ze1 (Int.natCast_nonneg N),Ze1 (Int.le_refl (N:Int))];rfl
  obtain⟨D,q1,q2,q3,q4⟩:=Amz (w:=Num.mk false []) (kx:=λe v=>match v with|(_,g,h,_,f,a,c)=>match e with|.exit 0=>chk (decide ((0:Int)<=a)&&decide ((0:Int)<=c)&&decide ((a+c)<=(f.length:Int))) (some (Ie (!decide (g.minus=h.minus)) (cut f a (a+c))))|_=>none) (b:=λd=>chk (decide ((0:Int)<=0)&&decide ((0:Int)<=(N:Int))&&decide ((0+(N:Int))<=(d.length:Int))) (some (Ie (!decide (n.minus=m.minus)) (cut d 0 (0+(N:Int)))))) n1 m1 hN (by omega) (K:=1003) (by omega) (λ_ _=>rfl) 1003 0 (List.replicate N 0) (Nat.zero_le _) (by omega) (Bv7 N) (by simp) (by simp[Btq,val]);simp only[Af9,e1,e2,Int.toNat_natCast,Amb];refine q4.trans ?_;have hcut:cut D 0 (0+(N:Int))=D:=by simp only[cut,Int.zero_add,Int.toNat_natCast,Int.toNat_zero,Zq1,Nat.sub_zero];exact List.take_of_length_le (by omega)
  rw[hcut,Ze1 (Int.le_refl 0),Ze1 (Int.natCast_nonneg N),Ze1 (show(0+(N:Int))<=(D.length:Int) by omega),Zn q1,Awk _ (Fa q1),q3];simp only[nv];cases n.minus<;>cases m.minus<;>simp[chk,Int.neg_mul,Int.mul_neg]⟩
theorem Byi:pw 40=10000000000000000000000000000000000000000:=by kernel_rfl
theorem Buw{z:Int}(h : -10000000000000000000000000000000000000000<z/\z<10000000000000000000000000000000000000000):okN (Eg z)=true:=okZ (by have:=Bai (show 40<=1000 by omega);rw[Byi] at this;omega)
theorem Bcb{a b:Int}(ha:okN (Eg a)=true)(hb:okN (Eg b)=true):Ai4 (Eg a) (Eg b)=some (Eg (a+b)):=by simp only[Ai4,ha,hb,Bwl];rfl
theorem Bnn{a b:Int}(ha:okN (Eg a)=true)(hb:okN (Eg b)=true):Amj (Eg a) (Eg b)=some (Eg (a*b)):=by simp only[Amj,ha,hb,Bwl];rfl
theorem Ah9(z:Int):Ao2 (Eg z)=some (Ia z):=by have h:dg (Eg z).d=true:=Awf _;simp only[Ao2,h,Bwl];rfl
theorem Bns(z:Int):(⟨!(Eg z).minus&&decide (0<((Eg z).d.length:Int)),(Eg z).d⟩:Num)=Eg (-z):=by
 by_cases h0:z=0
 ·subst h0;have e:F4 ((0:Int).natAbs:Int).toNat=[]:=digs_zero;simp only[Eg,Ap8,e,Int.neg_zero];simp
 ·have hd:=Fb (n:=z.natAbs) (by omega);have e:Eg z=⟨decide (z<0),F4 z.natAbs⟩:=by simp only[Eg,Ap8,Int.toNat_natCast];rw[Ze1 (show(0:Int)<(z.natAbs:Int) by omega),Bool.and_true]
  have e':Eg (-z)=⟨decide (-z<0),F4 z.natAbs⟩:=by simp only[Eg,Ap8,Int.toNat_natCast,Int.natAbs_neg];rw[Ze1 (show(0:Int)<(z.natAbs:Int) by omega),Bool.and_true]
  rw[e,e',hd];have hl:decide ((0:Int)<((((z.natAbs % 10:Nat):Int)::F4 (z.natAbs / 10)).length:Int))=true:=Ze1 (by simp only[Zf1];omega);simp only[hl,Bool.and_true];by_cases h:z<0
  ·rw[Ze1 h,Zd1 (show ¬ -z<0 by omega)];rfl
  ·rw[Zd1 h,Ze1 (show -z<0 by omega)];rfl
theorem A0o{z:Int}(h:inI z):okN (Eg z)=true:=Buw (by simp only[inI] at h;omega)
def Bsw(R:Type):Px R:=pxO [(74,cA Ath),(263,cA Ahz),(262,cA Abl)] [] [] []
def Aqw(x:HV [.int .i64,.int .i64]):Option (HV [.int .i64,.int .i64]):=match x with
 |(a,b) =>
 (Ai4 (rOf a) (rOf b)).bind λx =>
  (Ao2 x).bind λ(x1,x2) =>
  some (x1,x2)
theorem Bqw:FO 233 [.int .i64,.int .i64] [.int .i64,.int .i64] (Aqw):=fR (px:=Bsw _) (n:=0) Tryz.func233 rfl (λ_ H=>⟨lv H (c1 H Axr (c1 H Ayx (c1 H Ak2 Ae))) Ab Aa,Ah⟩) λ(_,_)=>by kernel_rfl
abbrev A15(a b:Int):Int×Int:=Ia (a+b)
def A7s:FT [.int .i64,.int .i64] [.int .i64,.int .i64]:=λx=>some (A15 x.1 x.2)
theorem Bsr:FO 233 [.int .i64,.int .i64] [.int .i64,.int .i64] A7s :=.fin0 Bqw λ(a,b) r hb hx=>by have ha:=A0o (Bu hb.1);have hb':=A0o (Bu hb.2);simp only[A7s,Za1] at hx;subst hx;simp only[Aqw,rOf,Bcb ha hb',Zc1,Ah9]
def Bum(R:Type):Px R:=pxO [(74,cA Ath)] [(74,qA Ath),(263,qA Ahz),(262,qA Abl)] [] []
def At1(x:HV [.int .i64,.int .i64]):Option (HV [.int .i64,.int .i64]):=match x with
 |(a,b) =>
 let j:=λ(p:Bool) =>
  (Ai4 (rOf a) (Num.mk p ((rOf b).d))).bind λx =>
  (Ao2 x).bind λ(x1,x2) =>some (x1,x2)
 cond (!((rOf b).minus)) (
  j (decide (0<(((rOf b).d).length:Int)))) (
  j false)
theorem Bj7:FO 234 [.int .i64,.int .i64] [.int .i64,.int .i64] (At1):=fR (px:=Bum _) (n:=0) Tryz.func234 rfl (λ_ H=>⟨lv H (c1 H Axr Ae) (q1 H Axr (q1 H Ayx (q1 H Ak2 Ab))) Aa,Ah⟩) λ(_,_)=>by kernel_rfl
abbrev Axq(a b:Int):Int×Int:=Ia (a-b)
def A7c:FT [.int .i64,.int .i64] [.int .i64,.int .i64]:=λx=>some (Axq x.1 x.2)
theorem Bs9:FO 234 [.int .i64,.int .i64] [.int .i64,.int .i64] A7c :=.fin0 Bj7 λ(a,b) r hb hx=>by have ha:=A0o (Bu hb.1);have hb1:=Bu hb.2;have hb':okN (Eg (-b))=true:=Buw (by simp only[inI] at hb1;omega);have hn:=Bns b;simp only[A7c,Za1] at hx;subst hx;have e:Ai4 (Eg a) (Eg (-b))=some (Eg (a-b)):=(Bcb ha hb').trans (by rw[Int.sub_eq_add_neg]);simp only[At1,rOf];cases hm:(Eg b).minus with|true =>simp only[hm,Zt1,Bool.false_and] at hn;simp only[Zt1,Ag,hn,e,Zc1,Ah9]|false =>simp only[hm,Zs1,Bool.true_and] at hn;simp only[Zs1,Af,hn,e,Zc1,Ah9]
def Bsg(R:Type):Px R:=pxO [(74,cA Ath),(264,cA Anc),(262,cA Abl)] [] [] []
def Auz(x:HV [.int .i64,.int .i64]):Option (HV [.int .i64,.int .i64]):=match x with
 |(a,b) =>
 (Amj (rOf a) (rOf b)).bind λx =>
  (Ao2 x).bind λ(x1,x2) =>
  some (x1,x2)
theorem Bk8:FO 235 [.int .i64,.int .i64] [.int .i64,.int .i64] (Auz):=fR (px:=Bsg _) (n:=0) Tryz.func235 rfl (λ_ H=>⟨lv H (c1 H Axr (c1 H Bis (c1 H Ak2 Ae))) Ab Aa,Ah⟩) λ(_,_)=>by kernel_rfl
abbrev Ayz(a b:Int):Int×Int:=Ia (a*b)
def A6b:FT [.int .i64,.int .i64] [.int .i64,.int .i64]:=λx=>some (Ayz x.1 x.2)
theorem Bt3:FO 235 [.int .i64,.int .i64] [.int .i64,.int .i64] A6b :=.fin0 Bk8 λ(a,b) r hb hx=>by have ha:=A0o (Bu hb.1);have hb':=A0o (Bu hb.2);simp only[A6b,Za1] at hx;subst hx;simp only[Auz,rOf,Bnn ha hb',Zc1,Ah9]
theorem Agu:∀(l:List Xpr) (m:Int),(∀x,x∈l->∀m,A8 x m=true->wfx x=true)->erights l m=true->wfl l=true
 |[],_,_,_=>rfl
 |x::l,m,hx,h=>by simp only[erights,Zb1] at h;simp only[wfl,hx x (.head _) m h.1,Agu l m (λy hy=>hx y (.tail _ hy)) h.2,Bool.and_self]
theorem A2z:∀(n:Nat) (e:Xpr) (m:Int),A1 e<=n->A8 e m=true->wfx e=true
 |0,e,_,h,_=>by have:=B5 e;omega
 |n+1,e,m,h,hr=>by obtain⟨hp,_,hs⟩:=He hr;rw[A59,Ze1 hp,Bool.true_and];refine Agu e.l _ (λx hx m h2=>A2z n x m ?_ h2) hs;have:=Bg hx;rw[Bv] at h;omega
def Brs(R:Type):Px R:=pxO [(178,cA Abe),(177,cA Aiq),(232,cA Bmu),(180,cA Bpb),(233,cA A7s),(234,cA A7c),(235,cA A6b)] [(178,qA Abe)] [] []
def Adx(x:HV [.int .i64,.sv .val,.sv .val]):Option (HV [.sv .val,.int .i64]):=match x with
 |(k,a,b) =>
 cond (decide (k=4)) (
  some ((I1 (min2 (Ir a) (Ir b))),0)) (
  cond (decide (k=5)) (
  some ((I1 (max2 (Ir a) (Ir b))),0)) (
  cond (decide (a.kind=1)) (
   some ((I1 1),0)) (
   cond (decide (b.kind=1)) (
   some ((I1 1),0)) (
   cond (decide (k=6)) (
    some ((ris (decide ((S2 a b)=0))),0)) (
    cond (decide (k=7)) (
    some ((ris (!decide ((S2 a b)=0))),0)) (
    cond (decide (k=8)) (
     some ((ris (decide ((S2 a b)=(-1)))),0)) (
     cond (decide (k=9)) (
     some ((ris (!decide ((S2 a b)=1))),0)) (
     cond (decide (k=10)) (
      some ((ris (decide ((S2 a b)=1))),0)) (
      cond (decide (k=11)) (
      some ((ris (!decide ((S2 a b)=(-1)))),0)) (
      cond (decide (k=12)) (
       cond (!decide ((A15 a.n b.n).2=0)) (
       some ((Val.mk 0 0 []),(A15 a.n b.n).2)) (
       some ((Val.mk 3 ((A15 a.n b.n).1) []),0))) (
       cond (decide (k=13)) (
       cond (!decide ((Axq a.n b.n).2=0)) (
        some ((Val.mk 0 0 []),(Axq a.n b.n).2)) (
        some ((Val.mk 3 ((Axq a.n b.n).1) []),0))) (
       cond (decide (k=14)) (
        cond (!decide ((Ayz a.n b.n).2=0)) (
        some ((Val.mk 0 0 []),(Ayz a.n b.n).2)) (
        some ((Val.mk 3 ((Ayz a.n b.n).1) []),0))) (
        some ((Val.mk 3 0 []),0))))))))))))))
theorem Bjq:FO 179 [.int .i64,.sv .val,.sv .val] [.sv .val,.int .i64] (Adx):=fR (px:=Brs _) (n:=0) Tryz.func179 rfl (λ_ H=>⟨lv H (c1 H Adj (c1 H Aoe (c1 H Bq3 (c1 H Bnv (c1 H Bsr (c1 H Bs9 (c1 H Bt3 Ae))))))) (q1 H Adj Ab) Aa,Ah⟩) λ(_,_,_)=>by kernel_rfl
def Ko(k:Int)(a:Val)(b:Val):Val×Int :=
 cond (decide (k=4)) (
  ((I1 (min2 (Ir a) (Ir b))),0)) (
  cond (decide (k=5)) (
  ((I1 (max2 (Ir a) (Ir b))),0)) (
  cond (decide (a.kind=1)) (
   ((I1 1),0)) (
   cond (decide (b.kind=1)) (
   ((I1 1),0)) (
   cond (decide (k=6)) (
    ((ris (decide ((S2 a b)=0))),0)) (
    cond (decide (k=7)) (
    ((ris (!decide ((S2 a b)=0))),0)) (
    cond (decide (k=8)) (
     ((ris (decide ((S2 a b)=(-1)))),0)) (
     cond (decide (k=9)) (
     ((ris (!decide ((S2 a b)=1))),0)) (
     cond (decide (k=10)) (
      ((ris (decide ((S2 a b)=1))),0)) (
      cond (decide (k=11)) (
      ((ris (!decide ((S2 a b)=(-1)))),0)) (
      cond (decide (k=12)) (
       cond (!decide ((A15 a.n b.n).2=0)) (
       ((Val.mk 0 0 []),(A15 a.n b.n).2)) (
       ((Val.mk 3 ((A15 a.n b.n).1) []),0))) (
       cond (decide (k=13)) (
       cond (!decide ((Axq a.n b.n).2=0)) (
        ((Val.mk 0 0 []),(Axq a.n b.n).2)) (
        ((Val.mk 3 ((Axq a.n b.n).1) []),0))) (
       cond (decide (k=14)) (
        cond (!decide ((Ayz a.n b.n).2=0)) (
        ((Val.mk 0 0 []),(Ayz a.n b.n).2)) (
        ((Val.mk 3 ((Ayz a.n b.n).1) []),0))) (
        ((Val.mk 3 0 []),0))))))))))))))
theorem Bo6(x:HV [.int .i64,.sv .val,.sv .val]):Adx x=some (Ko x.1 x.2.1 x.2.2):=by
 first
  |exact rfl
  |simp only[Adx,Ko,A0]
def Box:FT [.int .i64,.sv .val,.sv .val] [.sv .val,.int .i64]:=λx=>some (Ko x.1 x.2.1 x.2.2)
theorem Bst:FO 179 [.int .i64,.sv .val,.sv .val] [.sv .val,.int .i64] Box :=.fin0 Bjq λx _ _ hx=>(Bo6 x).trans hx
def Aku:Sig:=⟨97,[(1,.sl .col false),(2,.sl .val false),(7,.int .i64),(8,.int .i64)],[(3,.ptr 0 0),(6,.ptr 1 0)],[(0,.one (.sv .expr)),(1,.one (.sv .val))],2,0,0,[],[]⟩
abbrev Mj:=List Col×List Val×Int×Int×Xpr×Val
def K7{R:Type}(rec:Mj->Option R)(kx:Ex->Mj->Option R)(v:Mj):Option R:=match v with
 |(v,v1,v2,v3,w,w1) =>
 cond (decide (v3<(v.length:Int))) (
  cond (decide (w.kind=2)) (
  chk (inb v3 v.length) (
   cond (decide (((at' .col v v3).name)=w.name)) (
   chk (inb v3 v1.length) (
    kx .ret (v,v1,0,v3,w,(at' .val v1 v3)))) (
   rec (v,v1,v2,(wr .i64 (v3+1)),w,w1)))) (
  kx (.exit 0) (v,v1,v2,v3,w,w1))) (
  kx (.exit 0) (v,v1,v2,v3,w,w1))
def Azg(R:Type)(k:Nat)(rf:FT [.sv .expr,.sl .col false,.sl .val false] [.sv .val,.int .i64]):Px R:=pxO [(112,cA rf),(178,cA Abe),(177,cA Aiq),(179,cA Box),(180,cA Bpb)] [] [(4,Am k Aku (K7))] []
def J6(k:Nat)(rf:FT [.sv .expr,.sl .col false,.sl .val false] [.sv .val,.int .i64])(x:HV [.sv .expr,.sl .col false,.sl .val false]):Option (HV [.sv .val,.int .i64]):=match x with
 |(e,cols,row) =>
 cond (decide (e.kind=1)) (
  some (e.v,0)) (
  Al (λrec=>K7 rec (λe vz=>match vz with|(v4,v5,v6,_,v8,v9)=>match e with
  |.ret =>some (v9,v6)
  |.exit 0 =>
   chk (inb 0 v8.l.length) (
   (rf ((at' .expr v8.l 0),v4,v5)).bind λ(x,x1) =>
    cond (!decide (x1=0)) (
    some ((Val.mk 0 0 []),x1)) (
    cond (decide (v8.kind=3)) (
     some ((I1 (wr .i64 (2-(Ir x)))),0)) (
     cond (decide (v8.kind=15)) (
     some ((Ko 13 (Val.mk 3 0 []) x).1,(Ko 13 (Val.mk 3 0 []) x).2)) (
     cond (decide (v8.kind=16)) (
      some ((ris (decide (x.kind=1))),0)) (
      chk (inb 1 v8.l.length) (
      (rf ((at' .expr v8.l 1),v4,v5)).bind λ(x2,x3) =>
       cond (!decide (x3=0)) (
       some ((Val.mk 0 0 []),x3)) (
       some ((Ko v8.kind x x2).1,(Ko v8.kind x x2).2))))))))
  |_=>none)) k (cols,row,0,0,e,(Val.mk 0 0 [])))
theorem Bhq(k:Nat)(rf:FT [.sv .expr,.sl .col false,.sl .val false] [.sv .val,.int .i64])(hrf:FO 112 [.sv .expr,.sl .col false,.sl .val false] [.sv .val,.int .i64] rf):FO 112 [.sv .expr,.sl .col false,.sl .val false] [.sv .val,.int .i64] (J6 k rf):=fR (px:=Azg _ k rf) (n:=1) Tryz.func112 rfl (λcx H=>by have h0:Lv cx (Azg (HV [.sv .val,.int .i64]) k rf):=lv H (c1 H hrf (c1 H Adj (c1 H Aoe (c1 H Bst (c1 H Bnv Ae))))) Ab Aa;have hlreval_0:=lO H h0 (b:=lp Tryz.f112 0) (k:=k) (n:=0) (s:=Aku) (step:=K7) (λ_ _ _ (_,_,_,_,_,_)=>by kernel_rfl) Ah;exact⟨h0,(A5 Ah hlreval_0)⟩) λ(_,_,_)=>by kernel_rfl
theorem Kp:∀(m q:Nat) (e:Xpr),m<=q->q<=30->A8 e (m:Int)=true->A8 e (q:Int)=true
 |0,q,e,_,_,h=>by rw[Mf] at h;simp only[Int.natCast_zero,decide_true,Zt1,Bool.false_and,Zj2] at h
 |m+1,0,e,h,_,_=>absurd h (Nat.not_succ_le_zero m)
 |m+1,q+1,e,hq,h30,h=>by
  obtain⟨h1,h2,h3⟩:=He h;have w1:wr .i64 (((m+1:Nat):Int)-1)=(m:Int):=by rw[Bf (by simp only[inI];omega)];omega
  have w2:wr .i64 (((q+1:Nat):Int)-1)=(q:Int):=by rw[Bf (by simp only[inI];omega)];omega
  have mono:∀l:List Xpr,erights l (m:Int)=true->erights l (q:Int)=true:=by intro l;induction l with|nil=>exactλh=>h|cons x l ih =>intro h;simp only[erights,Zb1] at h ⊢;exact⟨Kp m q x (by omega) (by omega) h.1,ih h.2⟩
  rw[w1] at h3;rw[Mf,w2,Ze1 h1,h2,mono _ h3,Zd1 (by omega)];rfl
theorem Axt{v:Val}(h:Bo v=true)(hk:v.kind=1\/v.kind=2):v=⟨1,0,[]⟩\/v=⟨2,0,[]⟩\/v=⟨2,1,[]⟩:=by
 obtain⟨k,n,s⟩:=v;simp only at hk;rcases hk with rfl|rfl
 ·left;simp[Bo] at h;simp[h]
 ·right;simp[Bo] at h;by_cases h0:n=0
  ·left;simp[h0] at h;simp[h0,h]
  ·right;simp[h0] at h;simp[h]
theorem Adp{v:Val}(h:Bo v=true)(hk:v.kind=1\/v.kind=3):v=⟨1,0,[]⟩\/v=⟨3,v.n,[]⟩:=by
 obtain⟨k,n,s⟩:=v;simp only at hk;rcases hk with rfl|rfl
 ·left;simp[Bo] at h;simp[h]
 ·right;simp[Bo] at h;simp[h]
theorem Bmn{a k:Int}:C5 a k=true↔(a=k\/a=1):=by simp only[C5];by_cases h:a=k<;>simp[h]
theorem A1g{e:Xpr}{cols:List Col}{a b:Int}(h:(G2 e cols a b).2=0)(h3:e.kind=3\/e.kind=4\/e.kind=5):(a=2\/a=1)/\(b=2\/b=1):=by
 simp only[G2] at h;rw[if_neg (by omega),if_neg (by omega),if_neg (by omega),if_pos h3] at h;split at h
 ·rename_i hc;simp only[Zb1,Bmn] at hc;exact hc
 ·simp at h
theorem Anr{e:Xpr}{cols:List Col}{a b:Int}(h:(G2 e cols a b).2=0)(h3:e.kind=12\/e.kind=13\/e.kind=14\/e.kind=15):(a=3\/a=1)/\(b=3\/b=1):=by
 simp only[G2] at h;rw[if_neg (by omega),if_neg (by omega),if_neg (by omega),if_neg (by omega),if_pos h3] at h;split at h
 ·rename_i hc;simp only[Zb1,Bmn] at hc;exact hc
 ·simp at h
theorem Ave(b:Bool):ris b=D8 b:=by cases b<;>kernel_rfl
theorem Bfq{k:Int}(hk:k=4\/k=5){v u:Val}(hv:v=⟨1,0,[]⟩\/v=⟨2,0,[]⟩\/v=⟨2,1,[]⟩)(hu:u=⟨1,0,[]⟩\/u=⟨2,0,[]⟩\/u=⟨2,1,[]⟩):Ko k v u=(R3 k [v,u],0):=by rcases hk with rfl|rfl<;>rcases hv with rfl|rfl|rfl<;>rcases hu with rfl|rfl|rfl<;>kernel_rfl
theorem Bsv(a b:Val):O3 a b = -1\/O3 a b=0\/O3 a b=1:=by
 have h:∀x y,Eh x y = -1\/Eh x y=0\/Eh x y=1:=λx y=>by
  simp only[Eh,Bool.cond_decide];split
  ·simp
  ·split<;>simp
 simp only[O3];rcases h a.kind b.kind with h1|h1|h1<;>rw[h1]<;>simp
 rcases h a.n b.n with h2|h2|h2<;>rw[h2]<;>simp
 exact Qf _ _
theorem Bry{k:Int}(hk : 6<=k/\k<=11){v u:Val}(hv:¬v.kind=1)(hu:¬u.kind=1):Ko k v u=(D8 (Tb k (O3 v u)),0):=by obtain⟨c,hc'⟩:∃c,O3 v u=c:=⟨_,rfl⟩;have hc:=Bsv v u;simp only[Ko,Tb,Bel,Ave];rw[hc'] at hc ⊢;rw[Zd1 hv,Zd1 hu];clear hc';rcases(by omega:k=6\/k=7\/k=8\/k=9\/k=10\/k=11) with rfl|rfl|rfl|rfl|rfl|rfl<;>rcases hc with rfl|rfl|rfl<;>rfl
theorem Bng{k:Int}(hk : 6<=k/\k<=14){v u:Val}(h:v.kind=1\/u.kind=1):Ko k v u=(⟨1,0,[]⟩,0):=by
 simp only[Ko];rw[Zd1 (show ¬k=4 by omega),Zd1 (show ¬k=5 by omega)];by_cases h1:v.kind=1
 ·rw[Ze1 h1];kernel_rfl
 ·rw[Zd1 h1,Ze1 (h.resolve_left h1)];kernel_rfl
theorem Btt{k:Int}(hk : 12<=k/\k<=14){n m:Int}(hn:inI n)(hm:inI m):Ko k ⟨3,n,[]⟩ ⟨3,m,[]⟩=F1 k n m:=by
 have h1:=A69 hn hm;have h2:=Ayh hn hm;have h3:=A4w hn hm;rcases(by omega:k=12\/k=13\/k=14) with rfl|rfl|rfl
 ·simp only[Ko,F1,A15,h1];rfl
 ·simp only[Ko,F1,Axq,h2];rfl
 ·simp only[Ko,F1,Ayz,h3];rfl
theorem Bsp{n:Int}(hn:inI n):Ko 13 ⟨3,0,[]⟩ ⟨3,n,[]⟩=F1 15 n 0:=by have h2:=Ayh (a:=0) (by simp only[inI];omega) hn;simp only[Ko,F1,Axq,h2];rfl
theorem Bue{R:Type}{b:Bool}{x:Option R}{r:R}(h:chk b x=some r):x=some r:=by
 cases b
 ·cases h
 ·exact h
theorem Ax7:inI 0:=by simp only[inI];omega
theorem Byn:inI 1:=by simp only[inI];omega
theorem Be1(k:Int){a b:Int}(ha:inI a)(hb:inI b):inI (F1 k a b).1.n:=by
 have fz:∀z,inI (Ia z).1:=λz=>by
  simp only[Ia];split
  ·rename_i h;exact h
  ·exact Ax7
 have one:∀(p:Int×Int),inI p.1->inI (cond (!decide (p.2=0)) ((⟨0,0,[]⟩:Val),p.2) (⟨3,p.1,[]⟩,0)).1.n:=λp h=>by
  cases decide (p.2=0)
  ·exact Ax7
  ·exact h
 simp only[F1,A69 ha hb,Ayh ha hb,A4w ha hb,Ayh Ax7 ha];cases decide (k=12)
 ·cases decide (k=13)
  ·cases decide (k=14)
   ·exact one _ (fz _)
   ·exact one _ (fz _)
  ·exact one _ (fz _)
 ·exact one _ (fz _)
theorem Ou(b:Bool):inI (D8 b).n:=by cases b<;>first|exact Ax7|exact Byn
theorem A58(k:Int)(l:List Val):inI (R3 k l).n:=by
 rcases A31 k l with ⟨b,h⟩|h
 ·rw[h];exact Ou b
 ·rw[h];exact Ax7
theorem Aip{row:List Val}(h:∀v,v∈row->inI v.n)(i:Int):inI (at' .val row i).n:=by simp only[at',List.getD_eq_getElem?_getD];cases hg:row[i.toNat]? with|none=>exact Ax7|some v=>exact h v (List.mem_of_getElem? hg)
theorem Bgv{e:Xpr}{cols:List Col}{row vs:List Val}{u:Bool}{v:Val}{f:Int}(he:inI e.v.n)(hr:∀v,v∈row->inI v.n)(hv:∀v,v∈vs->inI v.n)(h:Qy e cols row vs u=some (v,f)):inI v.n:=by
 have ck:∀{b:Bool}{x:Option (Val×Int)}{r:Val×Int},chk b x=some r->x=some r:=λ{b x r} h=>by
  cases b
  ·cases h
  ·exact h
 have s2:∀(k a b:Int),inI a->inI b->some ((F1 k a b).1,(F1 k a b).2)=some (v,f)->inI v.n:=λk a b ha hb h=>by simp only[Za1,Zp1] at h;rw[<-h.1];exact Be1 k ha hb
 simp only[Qy] at h;cases h1:decide (e.kind=1)
 ·rw[h1] at h;cases h2:decide (e.kind=2)
  ·rw[h2] at h;cases h3:decide (e.kind=16)
   ·rw[h3] at h;simp only[Ag] at h;have body:∀p:Bool,cond p (some (R3 e.kind vs,(0:Int))) (cond u (some (⟨1,0,[]⟩,0)) (cond (decide (e.kind=3)) (chk (inb 0 vs.length) (some (D8 (decide ((at' .val vs 0).n=0)),0))) (cond (decide (e.kind=15)) (chk (inb 0 vs.length) (some ((F1 e.kind (at' .val vs 0).n 0).1,(F1 e.kind (at' .val vs 0).n 0).2))) (cond (decide (12<=e.kind)) (chk (inb 0 vs.length) (chk (inb 1 vs.length) (some ((F1 e.kind (at' .val vs 0).n (at' .val vs 1).n).1,(F1 e.kind (at' .val vs 0).n (at' .val vs 1).n).2)))) (chk (inb 0 vs.length) (chk (inb 1 vs.length) (some (D8 (Tb e.kind (O3 (at' .val vs 0) (at' .val vs 1))),0))))))))=some (v,f)->inI v.n:=λp h=>by
     cases p
     ·simp only[Ag] at h;cases u
      ·simp only[Ag] at h;cases h4:decide (e.kind=3)
       ·rw[h4] at h;simp only[Ag] at h;cases h5:decide (e.kind=15)
        ·rw[h5] at h;simp only[Ag] at h;cases h6:decide (12<=e.kind)
         ·rw[h6] at h;have h:=ck (ck h);simp only[Za1,Zp1] at h;rw[<-h.1];exact Ou _
         ·rw[h6] at h;exact s2 _ _ _ (Aip hv 0) (Aip hv 1) (ck (ck h))
        ·rw[h5] at h;exact s2 _ _ _ (Aip hv 0) Ax7 (ck h)
       ·rw[h4] at h;have h:=ck h;simp only[Za1,Zp1] at h;rw[<-h.1];exact Ou _
      ·simp only[Af,Za1,Zp1] at h;rw[<-h.1];exact Ax7
     ·simp only[Af,Za1,Zp1] at h;rw[<-h.1];exact A58 _ _
    cases h7:decide (e.kind=4)
    ·rw[h7] at h;exact body _ h
    ·rw[h7] at h;exact body true h
   ·rw[h3] at h;simp only[Af,Ag,Za1,Zp1] at h;rw[<-h.1];exact Ou _
  ·rw[h2] at h;have h:=ck h;simp only[Za1,Zp1] at h;rw[<-h.1];exact Aip hr _
 ·rw[h1] at h;simp only[Af,Za1,Zp1] at h;rw[<-h.1];exact he
theorem Qe{cols:List Col}{row:List Val}(hr:∀v,v∈row->inI v.n):∀(n:Nat) (e:Xpr) (v:Val) (f:Int),A1 e<=n->BdExpr e->H9 e cols row=some (v,f)->inI v.n
 |0,e,_,_,h,_,_=>by have:=B5 e;omega
 |n+1,e,v,f,h,hb,he=>by
  have list:∀(l:List Xpr) (g:Int) (vs:List Val),(∀x,x∈l->A1 x<=n/\BdExpr x)->evalL l cols row=some (g,vs)->∀v,v∈vs->inI v.n:=by
   intro l;induction l with
   |nil=>intro g vs _ h;simp only[evalL,Za1,Zp1] at h;obtain⟨_,rfl⟩:=h;simp
   |cons x l ih =>
    intro g vs hx h;simp only[evalL] at h;split at h
    ·rename_i v f hv;have hv1:=Qe hr n x v f (hx x (.head _)).1 (hx x (.head _)).2 hv;split at h
     ·split at h
      ·rename_i g' vs' hvs;simp only[Za1,Zp1] at h;obtain⟨_,rfl⟩:=h;intro w hw;rcases List.mem_cons.1 hw with rfl|hw
       ·exact hv1
       ·exact ih g' vs' (λy hy=>hx y (.tail _ hy)) hvs w hw
      ·cases h
     ·simp only[Za1,Zp1] at h;obtain⟨_,rfl⟩:=h;simp
    ·cases h
  rw[Aa4] at he;rw[Bv] at h;cases hb with
  |mk k v0 nm l b1 b2 b3 b4 b5 =>
   split at he
   ·rename_i g vs hl;have hvs:=list l g vs (λx hx=>⟨by have:=Bg hx;simp only[Xpr.l] at h;omega,b5 x hx⟩) hl;have he:(if g=0 then Qy (.mk k v0 nm l) cols row vs (vs.any D3) else some (⟨0,0,[]⟩,g))=some (v,f):=by exact Bue he
    split at he
    ·exact Bgv (e :=.mk k v0 nm l) b2.2.1 hr hvs he
    ·simp only[Za1,Zp1] at he;rw[<-he.1];exact Ax7
   ·cases he
def A36(e:Xpr)(cols:List Col)(row:List Val):Option (Val×Int):=cond (A8 e 30&&decide ((A7 e cols).2=0)&&Dh cols row) (H9 e cols row) none
def Aw6:FT [.sv .expr,.sl .col false,.sl .val false] [.sv .val,.int .i64]:=λx=>A36 x.1 x.2.1 x.2.2
theorem Aml{R:Type}{kx:Ex->Mj->Option R}{cols:List Col}{row:List Val}{e:Xpr}{a:Val->Option R}{b:Option R}(hn:ln cols.length)(hlen:cols.length=row.length)(he:e.kind=2)(h1:∀j w,kx .ret (cols,row,0,j,e,w)=a w)(h2:∀q j w,kx (.exit 0) (cols,row,q,j,e,w)=b):∀(k i:Nat) q w,i<=cols.length->cols.length-i<k->Al (λrec=>K7 rec kx) k (cols,row,q,(i:Int),e,w)=if Be (cols.drop i) e.name i<0 then b else a (at' .val row (Be (cols.drop i) e.name i))
 |0,i,q,w,_,h=>by omega
 |k+1,i,q,w,hi,h=>by
  rw[Bb];by_cases hl:i<cols.length
  ·have ih:=Aml hn hlen he h1 h2 k (i+1) q w (by omega) (by omega);have hl2:i<row.length:=by omega
   simp only[K7,Aw hl,Aw hl2,chk,Af,As (c :=.col) hl,Au hl hn,h1,ih,Ak hl];rw[Ze1 (show(i:Int)<(cols.length:Int) by omega),Ze1 he];by_cases hc:cols[i].name=e.name
   ·have e1:∀l,Be (cols[i]::l) e.name i=(i:Int):=λl=>by simp only[Be];rw[if_pos hc]
    rw[e1,Ze1 hc,if_neg (show ¬(i:Int)<0 by omega)];rfl
   ·have e1:∀l,Be (cols[i]::l) e.name i=Be l e.name (i+1):=λl=>by simp only[Be];rw[if_neg hc]
    rw[e1,Zd1 hc];rfl
  ·have e1:Be [] e.name i = -1:=rfl;simp only[K7,h2];rw[Zd1 (by omega),Zk1 (by omega),e1,if_pos (by omega)];rfl
theorem Boq{R:Type}{kx:Ex->Mj->Option R}{cols:List Col}{row:List Val}{e:Xpr}{w:Val}{b:Option R}(h:¬e.kind=2)(h2:kx (.exit 0) (cols,row,0,0,e,w)=b)(k:Nat):Al (λrec=>K7 rec kx) (k+1) (cols,row,0,0,e,w)=b:=by rw[Bb];simp only[K7,h2,Zd1 h,Ag];cases decide ((0:Int)<(cols.length:Int))<;>rfl
theorem A5f(k:Nat){e:Xpr}{cols:List Col}{row:List Val}{rf:FT [.sv .expr,.sl .col false,.sl .val false] [.sv .val,.int .i64]}(hn:ln cols.length)(hk:cols.length<k)(hr:A8 e 30=true)(hk0:(A7 e cols).2=0)(hf:Dh cols row=true)(hb:BdExpr e)(hrow:∀v,v∈row->inI v.n)(hrf:∀x,x∈e.l->A8 x 30=true->(A7 x cols).2=0->rf (x,cols,row)=H9 x cols row):J6 k rf (e,cols,row)=H9 e cols row:=by
 obtain⟨hp,hok,hs⟩:=He hr;have c:wr .i64 ((30:Int)-1)=((29:Nat):Int):=by decide
 rw[c] at hs;have hbl:∀x,x∈e.l->BdExpr x:=by cases hb with|mk _ _ _ _ _ _ _ _ b5=>exact b5
 obtain⟨k,rfl⟩:∃j,k=j+1:=⟨k-1,by omega⟩;rw[Aa4];rw[Ip] at hk0;simp only[J6];by_cases k1:e.kind=1
 ·have hl:e.l=[]:=List.eq_nil_of_length_eq_zero (by rw[k1] at hp;have:parts 1=0:=rfl;omega);rw[Ze1 k1,hl];simp only[evalL];show _=Qy e cols row [] _;simp only[Qy];rw[Ze1 k1];rfl
 ·rw[Zd1 k1,Ag];by_cases k2:e.kind=2
  ·have hl:e.l=[]:=List.eq_nil_of_length_eq_zero (by rw[k2] at hp;have:parts 2=0:=rfl;omega);rw[hl] at hk0;simp only[kindL,Tt,G2,if_neg k1,if_pos k2] at hk0;have hfd:¬Cd cols e.name<0:=λh=>by rw[if_pos h] at hk0;cases hk0
   have hlen:=E0 hf;have hrg:=Pw cols e.name;obtain⟨i,hi⟩:∃i:Nat,Cd cols e.name=(i:Int):=⟨(Cd cols e.name).toNat,by omega⟩;have hi2:i<row.length:=by omega
   refine(Aml (a:=λw=>some (w,0)) (b:=chk (inb 0 e.l.length) none) hn (by omega) k2 (λ_ _=>rfl) (λq j w =>?_) (k+1) 0 0 _ (Nat.zero_le _) (by omega)).trans ?_
   ·show chk (inb 0 e.l.length) _=_;rw[hl];rfl
   ·show(if Cd cols e.name<0 then _ else some (at' .val row (Cd cols e.name),(0:Int)))=_;rw[if_neg hfd,hl];simp only[evalL];show _=Qy e cols row [] _;simp only[Qy];rw[Zd1 k1,Ze1 k2,hi,Aw hi2];rfl
  ·refine Boq k2 ?_ k;rcases P9 e.kind with ⟨h0,h⟩|⟨h0,h⟩|⟨h0,h⟩|h0
   ·omega
   ·obtain⟨x,hl⟩:∃x,e.l=[x]:=List.length_eq_one_iff.1 (by omega);rw[hl] at hs hk0;simp only[erights,Bool.and_true] at hs;have hs30:=Kp 29 30 x (by omega) (by omega) hs;simp only[kindL,Tt] at hk0;have hx0:(A7 x cols).2=0:=by
     by_cases hx:(A7 x cols).2=0
     ·exact hx
     ·rw[if_neg hx] at hk0;exact absurd hk0 hx
    rw[if_pos hx0] at hk0;have hrx:=hrf x (by rw[hl];simp) hs30 hx0;obtain⟨v,f,hv,hg⟩:=Gl hf (A1 x) x 30 (Zn1 _) hs30 hx0;have hvr:=Qe hrow (A1 x) x v f (Zn1 _) (hbl x (by rw[hl];simp)) hv;rw[hv] at hrx;have a0:at' .expr [x] 0=x:=rfl;have i0:inb 0 [x].length=true:=rfl;show chk (inb 0 e.l.length) _=_;rw[hl,a0,i0,hrx];simp only[evalL,hv];rcases hg with ⟨rfl,hg⟩|⟨rfl,rfl⟩
    ·show cond (decide (e.kind=3)) _ _=Qy e cols row [v] ([v].any D3);simp only[Qy];rw[Zd1 k1,Zd1 k2];have ag:(A7 x cols).1=2\/(A7 x cols).1=1->v=⟨1,0,[]⟩\/v=⟨2,0,[]⟩\/v=⟨2,1,[]⟩:=λh=>Axt hg.1 (by omega);have ag3:(A7 x cols).1=3\/(A7 x cols).1=1->v=⟨1,0,[]⟩\/v=⟨3,v.n,[]⟩:=λh=>Adp hg.1 (by omega);rcases h with h3|h15|h16
     ·rw[h3];rcases ag (A1g hk0 (.inl h3)).1 with rfl|rfl|rfl<;>rfl
     ·rw[h15];rcases ag3 (Anr hk0 (.inr (.inr (.inr h15)))).1 with h1|h1
      ·rw[h1];rfl
      ·rw[h1];have:=Bsp hvr;show some ((Ko 13 ⟨3,0,[]⟩ ⟨3,v.n,[]⟩).1,(Ko 13 ⟨3,0,[]⟩ ⟨3,v.n,[]⟩).2)=some ((F1 15 v.n 0).1,(F1 15 v.n 0).2);rw[this]
     ·rw[h16];show some (ris (decide (v.kind=1)),(0:Int))=some (D8 ([v].any D3),0);rw[Ave];simp[D3]
    ·rfl
   ·obtain⟨x,y,hl⟩:∃x y,e.l=[x,y]:=Aah (by omega);rw[hl] at hs hk0;simp only[erights,Bool.and_true,Zb1] at hs;have hsx:=Kp 29 30 x (by omega) (by omega) hs.1;have hsy:=Kp 29 30 y (by omega) (by omega) hs.2;simp only[kindL,Tt] at hk0;have hx0:(A7 x cols).2=0:=by
     by_cases hx:(A7 x cols).2=0
     ·exact hx
     ·rw[if_neg hx] at hk0;exact absurd hk0 hx
    rw[if_pos hx0] at hk0;have hy0:(A7 y cols).2=0:=by
     by_cases hy:(A7 y cols).2=0
     ·exact hy
     ·rw[if_neg hy] at hk0;exact absurd hk0 hy
    rw[if_pos hy0] at hk0;have hrx:=hrf x (by rw[hl];simp) hsx hx0;have hry:=hrf y (by rw[hl];simp) hsy hy0;obtain⟨v,f,hv,hg⟩:=Gl hf (A1 x) x 30 (Zn1 _) hsx hx0;obtain⟨u,g,hu,hg'⟩:=Gl hf (A1 y) y 30 (Zn1 _) hsy hy0;have hvr:=Qe hrow (A1 x) x v f (Zn1 _) (hbl x (by rw[hl];simp)) hv;have hur:=Qe hrow (A1 y) y u g (Zn1 _) (hbl y (by rw[hl];simp)) hu;rw[hv] at hrx;rw[hu] at hry;have a0:at' .expr [x,y] 0=x:=rfl;have i0:inb 0 [x,y].length=true:=rfl;have a1:at' .expr [x,y] 1=y:=rfl;have i1:inb 1 [x,y].length=true:=rfl;show chk (inb 0 e.l.length) _=_;rw[hl,a0,i0,hrx,a1,i1,hry];simp only[evalL,hv,hu];rw[Zd1 (show ¬e.kind=3 by omega),Zd1 (show ¬e.kind=15 by omega),Zd1 (show ¬e.kind=16 by omega)];rcases hg with ⟨rfl,hg⟩|⟨rfl,rfl⟩
    ·rcases hg' with ⟨rfl,hg'⟩|⟨rfl,rfl⟩
     ·show some ((Ko e.kind v u).1,(Ko e.kind v u).2)=Qy e cols row [v,u] ([v,u].any D3);simp only[Qy];rw[Zd1 k1,Zd1 k2,Zd1 (show ¬e.kind=16 by omega),Zd1 (show ¬e.kind=3 by omega),Zd1 (show ¬e.kind=15 by omega)];have at0:at' .val [v,u] 0=v:=rfl;have at1:at' .val [v,u] 1=u:=rfl;have j0:inb 0 [v,u].length=true:=rfl;have j1:inb 1 [v,u].length=true:=rfl;simp only[Ag,j0,j1,chk,Af,at0,at1];by_cases h45:e.kind=4\/e.kind=5
      ·obtain⟨ka,kb⟩:=A1g hk0 (.inr h45);have key:=Bfq h45 (Axt hg.1 (by omega)) (Axt hg'.1 (by omega));rw[key];rcases h45 with h4|h5
       ·rw[Ze1 h4];rfl
       ·rw[Ze1 h5];cases decide (e.kind=4)<;>rfl
      ·rw[Zd1 (show ¬e.kind=4 by omega),Zd1 (show ¬e.kind=5 by omega)];simp only[Ag];by_cases hnul:v.kind=1\/u.kind=1
       ·have hany:[v,u].any D3=true:=by rcases hnul with h|h<;>simp[D3,h]
        rw[hany,Bng (by omega) hnul];rfl
       ·have hany:[v,u].any D3=false:=by simp only[List.any_cons,List.any_nil,D3,Bool.or_false];rw[Zd1 (λh=>hnul (.inl h)),Zd1 (λh=>hnul (.inr h))];rfl
        rw[hany];by_cases h12 : 12<=e.kind
        ·obtain⟨ka,kb⟩:=Anr hk0 (by omega);rw[Ze1 h12];have ev:v=⟨3,v.n,[]⟩:=(Adp hg.1 (by omega)).resolve_left (λh=>hnul (.inl (by rw[h])));have eu:u=⟨3,u.n,[]⟩:=(Adp hg'.1 (by omega)).resolve_left (λh=>hnul (.inr (by rw[h])));have key:=Btt (k:=e.kind) (by omega) hvr hur;rw[<-ev,<-eu] at key;rw[key];rfl
        ·rw[Zd1 h12,Bry (by omega) (λh=>hnul (.inl h)) (λh=>hnul (.inr h))];rfl
     ·rfl
    ·rfl
   ·omega
theorem Auh(k:Nat){cols:List Col}{row:List Val}(hn:ln cols.length)(hk:cols.length<k)(hf:Dh cols row=true)(hrow:∀v,v∈row->inI v.n):∀(n:Nat) (e:Xpr),A8 e 30=true->(A7 e cols).2=0->BdExpr e->A1 e<=n->Al (J6 k) n (e,cols,row)=H9 e cols row
 |0,e,_,_,_,h=>by have:=B5 e;omega
 |n+1,e,hr,hk0,hb,h=>by
  rw[Bb];refine A5f k hn hk hr hk0 hf hb hrow λx hx hrx hx0=>Auh k hn hk hf hrow n x hrx hx0 ?_ ?_
  ·cases hb with|mk _ _ _ _ _ _ _ _ b5=>exact b5 x hx
  ·have:=Bg hx;rw[Bv] at h;omega
theorem Blc:FO 112 [.sv .expr,.sl .col false,.sl .val false] [.sv .val,.int .i64] Aw6:=by refine .fin (ι:=Nat×Nat) (0,0) (F:=λn=>Al (J6 n.1) n.2) (λn=>FnOk.rec' (Sx.enters_of Tryz.func112 rfl rfl) (λrf hrf=>Bhq n.1 rf hrf) n.2) λ(e,cols,row) r hb hx=>⟨(cols.length+1,A1 e),?_⟩;simp only[Aw6,A36] at hx;cases hw:A8 e 30&&decide ((A7 e cols).2=0)&&Dh cols row with|false=>rw[hw] at hx;cases hx|true =>rw[hw] at hx;simp only[Zb1,Zg1] at hw;exact(Auh (cols.length+1) hb.2.1.1 (by omega) hw.2 (λv hv=>(hb.2.2.2 v hv).2.1) (A1 e) e hw.1.1 hw.1.2 hb.1 (Zn1 _)).trans hx
def Bnp(R:Type):Px R:=pxO [(110,cA Avv),(111,cA Ail)] [] [] []
def Aop(x:HV [.sv .expr,.sl .col false]):Option (HV [.int .i64,.int .i64]):=match x with
 |(e,cols) =>
 cond (!decide ((Mh e)=0)) (
  some (0,(Mh e))) (
  (Art e cols).bind λ(x,x1) =>
  some (x,x1))
theorem Bga:FO 98 [.sv .expr,.sl .col false] [.int .i64,.int .i64] (Aop):=fR (px:=Bnp _) (n:=0) Tryz.func98 rfl (λ_ H=>⟨lv H (c1 H A12 (c1 H A1e Ae)) Ab Aa,Ah⟩) λ(_,_)=>by kernel_rfl
def A18(e:Xpr)(cols:List Col):Option (Int×Int):=cond (decide (Mh e=De e)) (some (Ci e cols)) none
def Ayk:FT [.sv .expr,.sl .col false] [.int .i64,.int .i64]:=λx=>A18 x.1 x.2
theorem Bka(e:Xpr):De e=0\/De e=2:=by simp only[De];cases A8 e 30<;>simp
theorem Akt{e:Xpr}{cols:List Col}(h:De e=0):Art e cols=some (A7 e cols):=by simp only[Art];rw[A2z (A1 e) e 30 (Zn1 _) (Mm.1 h)];rfl
theorem Bnq:FO 98 [.sv .expr,.sl .col false] [.int .i64,.int .i64] Ayk :=.fin0 Bga λ(e,cols) r _ hx=>by
 simp only[Ayk,A18] at hx;by_cases h:Mh e=De e
 ·rw[Ze1 h] at hx;have hx:some (Ci e cols)=some r:=hx;rw[<-hx];simp only[Aop,h,Ci];by_cases h0:De e=0
  ·simp[h0,Akt h0]
  ·simp[h0]
 ·rw[Zd1 h] at hx;cases hx
def Boo(R:Type):Px R:=pxO [(110,cA Avv),(45,cA Ah0),(111,cA Ail),(112,cA Aw6)] [] [] []
def Ant(x:HV [.sv .expr,.sl .col false,.sl .val false]):Option (HV [.sv .val,.int .i64]):=match x with
 |(e,cols,row) =>
 cond (!decide ((Mh e)=0)) (
  some ((Val.mk 0 0 []),2)) (
  cond (!(Arl cols row)) (
  some ((Val.mk 0 0 []),2)) (
  (Art e cols).bind λ(_,x1) =>
   cond (!decide (x1=0)) (
   some ((Val.mk 0 0 []),x1)) (
   (A36 e cols row).bind λ(x2,x3) =>some (x2,x3))))
theorem Bff:FO 47 [.sv .expr,.sl .col false,.sl .val false] [.sv .val,.int .i64] (Ant):=fR (px:=Boo _) (n:=0) Tryz.func47 rfl (λ_ H=>⟨lv H (c1 H A12 (c1 H Az5 (c1 H A1e (c1 H Blc Ae)))) Ab Aa,Ah⟩) λ(_,_,_)=>by kernel_rfl
def Ay1(e:Xpr)(cols:List Col)(row:List Val):Option (Val×Int):=cond (decide (Mh e=De e)) (some (D1 e cols row)) none
def Aw3:FT [.sv .expr,.sl .col false,.sl .val false] [.sv .val,.int .i64]:=λx=>Ay1 x.1 x.2.1 x.2.2
theorem Bpi{e:Xpr}{cols:List Col}{row:List Val}(h:De e=0)(hf:Dc cols row=true)(hk:(A7 e cols).2=0):A36 e cols row=H9 e cols row:=by have hf':Dh cols row=true:=hf;simp only[A36,Mm.1 h,hf'];rw[Ze1 hk];rfl
theorem Bks:FO 47 [.sv .expr,.sl .col false,.sl .val false] [.sv .val,.int .i64] Aw3 :=.fin0 Bff λ(e,cols,row) r _ hx=>by
 simp only[Aw3,Ay1] at hx;by_cases h:Mh e=De e
 ·rw[Ze1 h] at hx;have hx:some (D1 e cols row)=some r:=hx;rw[<-hx];simp only[Ant,h,Arl];rcases Qb e cols row with ⟨h1,h2⟩|⟨h1,h2,h3,h4⟩|⟨h1,h2,h3,h4,_⟩
  ·rw[h2];by_cases h0:De e=0
   ·rw[h1.resolve_left (by simpa using h0)];simp[h0]
   ·simp[h0]
  ·rw[h4,h2];simp[h1,h3,Akt h1]
  ·rw[h2];simp only[Akt h1,Bpi h1 h2 h3,h4];simp[h1,h3]
 ·rw[Zd1 h] at hx;cases hx
theorem A2x{e:Xpr}(h:A1 e<=10000):Mh e=De e:=by
 have hd:=Gi (A1 e) e 30 (Zn1 _) (by omega) (Zn1 _);have ha:=Mm (e:=e);rcases Bka e with h0|h2
 ·have:=hd.1 (ha.1 h0);rw[h0];simp only[Mh];rw[Zd1 (by omega)];rfl
 ·have:¬Bl e<=30:=λh=>by have:=ha.2 (hd.2 h);omega
  rw[h2];simp only[Mh];rw[Ze1 (by omega)];rfl
theorem A9q{v:Val}(h:Bo v=true) : 1<=v.kind:=by
 by_cases h1:v.kind=1
 ·omega
 by_cases h2:v.kind=2
 ·omega
 by_cases h3:v.kind=3
 ·omega
 by_cases h4:v.kind=4
 ·omega
 by_cases h5:v.kind=5
 ·omega
 simp[Bo,h1,h2,h3,h4,h5] at h
theorem A1d{l:List Col}{s:Str}(h:¬Cd l s<0):∃i:Nat,∃hi:i<l.length,Cd l s=(i:Int)/\at' .col l (Cd l s)=l[i]:=by
 rcases Pw l s with h1|⟨h1,h2⟩
 ·omega
 ·obtain⟨i,hi⟩:∃i:Nat,Cd l s=(i:Int):=⟨(Cd l s).toNat,by omega⟩;refine⟨i,by omega,hi,?_⟩;rw[hi];exact As (c :=.col) (by omega)
theorem Akv{e:Xpr}{cols:List Col}{a b:Int}(hv:e.kind=1->1<=e.v.kind)(hc:cols.all Ij=true)(h:(G2 e cols a b).2=0) : 1<=(G2 e cols a b).1:=by
 simp only[G2] at h ⊢;split
 ·rename_i h1;exact hv h1
 split
 ·split
  ·rename_i h1 h2 h3;rw[if_neg h1,if_pos h2,if_pos h3] at h;cases h
  ·rename_i h3;obtain⟨i,hi,_,h5⟩:=A1d h3;have h6:=Zg2.1 hc _ (List.getElem_mem hi);simp only[Ij,Zb1,Zg1] at h6;simp only[h5];omega
 repeat' split
 all_goals first|(simp only;omega)|(exfalso;simp_all)
theorem Bfl{e:Xpr}{cols:List Col}(hr:De e=0)(hc:cols.all Ij=true)(h:(A7 e cols).2=0) : 1<=(A7 e cols).1:=by
 obtain⟨_,h2,_⟩:=He (Mm.1 hr);have hv:e.kind=1->1<=e.v.kind:=λh1=>by simp only[eok,h1,decide_true,Af,Zb1,Zg1] at h2;exact A9q (Yt.1 h2.1.1)
 rw[Ip] at h ⊢;match hl:kindL e.l cols with
 |[] =>rw[hl] at h;exact Akv hv hc h
 |[(a,f)] =>
  rw[hl] at h;simp only[Tt] at h ⊢;by_cases hf:f=0
  ·rw[if_pos hf] at h ⊢;exact Akv hv hc h
  ·rw[if_neg hf] at h;exact absurd h hf
 |(a,f)::(b,g)::t =>
  rw[hl] at h;simp only[Tt] at h ⊢;by_cases hf:f=0
  ·rw[if_pos hf] at h ⊢;by_cases hg:g=0
   ·rw[if_pos hg] at h ⊢;exact Akv hv hc h
   ·rw[if_neg hg] at h;exact absurd h hg
  ·rw[if_neg hf] at h;exact absurd h hf
theorem Beg{e:Xpr}{cols:List Col}(hc:cols.all Ij=true)(h:(Ci e cols).2=0) : 1<=(Ci e cols).1:=by
 simp only[Ci] at h ⊢;by_cases h0:De e=0
 ·simp only[h0,decide_true,Zt1,Ag] at h ⊢;exact Bfl h0 hc h
 ·simp[h0] at h
theorem Bj9{e:Xpr}{cols:List Col}(hc:cols.all Ij=true):Afc cols e=cond (decide ((Ci e cols).2=0)) (cond (decide (2<(Ci e cols).1)) 151 0) (Ci e cols).2:=by
 simp only[Afc];by_cases h:(Ci e cols).2=0
 ·have:=Beg hc h;simp only[h,decide_true,Af];by_cases h2 : 2<(Ci e cols).1
  ·rw[Ze1 h2,Zd1 (show ¬(Ci e cols).1=2 by omega),Zd1 (show ¬(Ci e cols).1=1 by omega)];rfl
  ·rw[Zd1 h2];rcases(by omega:(Ci e cols).1=2\/(Ci e cols).1=1) with h3|h3<;>rw[h3]<;>rfl
 ·simp[h]
def Aqb(t:Tbl):Option Str->List Idx->Bool
 |_,[]=>true
 |none,x::l=>I0 t x&&Aqb t (some x.name) l
 |some p,x::l=>I0 t x&&(ltN p x.name&&Aqb t (some x.name) l)
theorem Atk{t:Tbl}:∀(l:List Idx) (p:Str),Aqb t (some p) l=(l.all (I0 t)&&(l.all (λy=>ltN p y.name)&&Bj l))
 |[],_=>rfl
 |x::l,p=>by
  rw[Bool.eq_iff_iff];simp only[Aqb,Atk l,Zv1,Bj,Zb1,Zg2];constructor
  ·rintro⟨h1,h2,h3,h4,h5⟩;exact⟨⟨h1,h3⟩,⟨h2,λy hy=>A72 h2 (h4 y hy)⟩,h4,h5⟩
  ·rintro⟨⟨h1,h3⟩,⟨h2,_⟩,h4,h5⟩;exact⟨h1,h2,h3,h4,h5⟩
theorem Biz{t:Tbl}(l:List Idx):Aqb t none l=(Bj l&&l.all (I0 t)):=by
 cases l with
 |nil=>rfl
 |cons x l =>
  rw[Bool.eq_iff_iff];simp only[Aqb,Atk l,Zv1,Bj,Zb1,Zg2];constructor
  ·rintro⟨h1,h2,h3,h4⟩;exact⟨⟨h3,h4⟩,h1,h2⟩
  ·rintro⟨⟨h3,h4⟩,h1,h2⟩;exact⟨h1,h2,h3,h4⟩
theorem Bs3(a b:Str):Op.bytesLess a b=ltN a b:=by rw[Aeq];exact Zy1.2 (by rcases scmp_lin.rng a b with h|h|h<;>omega)
def Qn(cols:List Col)(row:List Val):List Str->List Val->List Val×Int
 |[],acc=>(acc,0)
 |s::l,acc=>cond (decide (Cd cols s<0)) ([],150) (Qn cols row l (acc++[at' .val row (Cd cols s)]))
theorem Bb2{cols:List Col}{row:List Val}{P:Val->Prop}:∀{l:List Str}{acc:List Val},(∀s,s∈l->¬Cd cols s<0/\P (at' .val row (Cd cols s)))->(∀v,v∈acc->P v)->(Qn cols row l acc).2=0/\∀v,v∈(Qn cols row l acc).1->P v
 |[],acc,_,ha=>⟨rfl,ha⟩
 |s::l,acc,h,ha=>by
  have h1:=h s (by simp);simp only[Qn,Zd1 h1.1,Ag];refine Bb2 (λq hq=>h q (by simp[hq])) λv hv =>?_;rcases List.mem_append.1 hv with hv|hv
  ·exact ha v hv
  ·rw[List.mem_singleton.1 hv];exact h1.2
theorem A3s{cols:List Col}{row:List Val}:∀{l:List Str}{acc:List Val},(Qn cols row l acc).1.length<=acc.length+l.length
 |[],acc=>by simp[Qn]
 |s::l,acc=>by simp only[Qn];cases decide (Cd cols s<0) with|true=>simp|false =>have:=A3s (cols:=cols) (row:=row) (l:=l) (acc:=acc++[at' .val row (Cd cols s)]);simp only[Ag,Zf1];simp only[Zh1,Zf1,Zi1] at this;omega
def Atm:Sig:=⟨18,[(0,.sl .str false),(1,.str),(4,.bool),(5,.int .i64)],[],[],0,0,0,[],[]⟩
abbrev Aaz:=List Str×Str×Bool×Int
def Aeg{R:Type}(rec:Aaz->Option R)(kx:Ex->Aaz->Option R)(v:Aaz):Option R:=match v with
 |(v,v1,v2,v3) =>
 cond (decide (v3<(v.length:Int))) (
  chk (inb v3 v.length) (
  cond (decide ((at' .str v v3)=v1)) (
   kx .ret (v,v1,true,v3)) (
   rec (v,v1,v2,(wr .i64 (v3+1)))))) (
  kx (.exit 0) (v,v1,v2,v3))
def Bci(R:Type)(k:Nat):Px R:=pxO [] [] [(2,Am k Atm (Aeg))] []
def Asm(k:Nat)(x:HV [.sl .str false,.str]):Option (HV [.bool]):=match x with
 |(l,s) =>
 Al (λrec=>Aeg rec (λe vz=>match vz with|(_,_,v6,_)=>match e with
  |.ret =>
  some v6
  |.exit 0 =>
  some false
  |_=>none)) k (l,s,false,0)
theorem Blm(k:Nat):FO 46 [.sl .str false,.str] [.bool] (Asm k):=fR (px:=Bci _ k) (n:=1) Tryz.func46 rfl (λcx H=>by have h0:Lv cx (Bci (HV [.bool]) k):=lv H Ae Ab Aa;have hlrhas_0:=lO H h0 (b:=lp Tryz.f46 0) (k:=k) (n:=0) (s:=Atm) (step:=Aeg) (λ_ _ _ (_,_,_,_)=>by kernel_rfl) Ah;exact⟨h0,(A5 Ah hlrhas_0)⟩) λ(_,_)=>by kernel_rfl
def Bvk(l:List Str)(s:Str):Bool:=l.contains s
def A57:FT [.sl .str false,.str] [.bool]:=λx=>some (Bvk x.1 x.2)
theorem Bht{R:Type}{kx:Ex->Aaz->Option R}{l:List Str}{s:Str}{c:Bool->Option R}(hn:ln l.length)(h1:∀i,kx .ret (l,s,true,i)=c true)(h2:∀q i,kx (.exit 0) (l,s,q,i)=c false)(k:Nat)(hk:l.length<k) :
  Al (λrec=>Aeg rec kx) k (l,s,false,0)=c (l.contains s):=by
 refine(A3 l.length (λi=>(l,s,false,(i:Int))) (λi=>c ((l.drop i).contains s)) (λi hi rec hr =>?_) (λrec =>?_) k 0 (Nat.zero_le _) (by omega)).trans (by rw[Zq1])
 ·simp only[Aeg,Cf hi,Af,Aw hi,chk,As (c :=.str) hi,Au hi hn,hr,h1,Ak hi,List.contains_cons];by_cases h:l[i]=s
  ·rw[Ze1 h,h];simp
  ·have hf:(s == l[i])=false:=beq_eq_false_iff_ne.2 (λe=>h e.symm);rw[Zd1 h,hf];rfl
 ·simp only[Aeg,Cg,Ag,h2];rw[Zk1 (Zn1 _)];rfl
theorem Bto:FO 46 [.sl .str false,.str] [.bool] A57 :=.fin 0 Blm λ(l,s) r hb hx=>⟨l.length+1,by simp only[A57,Za1] at hx;rw[<-hx];simp only[Asm];exact Bht (c:=some) hb.1.1 (λ_=>rfl) (λ_ _=>rfl) (l.length+1) (by omega)⟩
open Lp (tw isUp isLo isDi isIn pre clsF rnameF wordF unGo hexD)
end Go.Proofs.YtbkinkalnmbpjaaGreatDoor
namespace Go.Proofs.YtbkinkalnmbpjaaGreatDoor
open Go.Ax
section
variable {α:Type}(f : α->Str) (P : α->Prop) (D:Str->Prop)
end
end Go.Proofs.YtbkinkalnmbpjaaGreatDoor
