/- Texts of the proof,one behind the other: Fd,Es,Ix,En,Ep,Ac,Ad,Sc,No,So,Sd,Se,Lx,Ly,Lz,Pg. -/
import Derived.Test.YtblaahgjaopdnaaGreatDoorYY5
set_option linter.all false
namespace Go.Proofs.YtblaahgjaopdnaaGreatDoor
open Go.Ax
theorem Pe:∀(l:List Col) (s:Str) (i:Nat),Ff l s i = -1\/((i:Int)<=Ff l s i/\Ff l s i<(i+l.length:Nat))
 |[],_,_ =>.inl rfl
 |c::l,s,i=>by
  simp[Ff];split
  ·right;omega
  ·have:=Pe l s (i+1);omega
theorem A0e(l:List Col)(s:Str):Jr l s = -1\/(0<=Jr l s/\Jr l s<(l.length:Int)):=by have:=Pe l s 0;simpa[Jr] using this
theorem Blm{l:List Col}{s:Str}(h:¬Jr l s<0):inb (Jr l s) l.length=true:=by have:=A0e l s;simp[inb];omega
def Ahe:Sig:=⟨102,[(1,.sl .col false),(4,.int .i64),(5,.int .i64),(12,.sl .expr false),(13,.int .i64),(14,.int .i64)],[(2,.ptr 0 0),(6,.ptr 1 0)],[(0,.one (.sv .expr)),(1,.one (.rw .int 2))],2,0,0,[],[]⟩
abbrev Rf:=List Col×Int×Int×List Xpr×Int×Int×Xpr×List Int
def Gt{R:Type}(rf:FT [.sv .expr,.sl .col false] [.int .i64,.int .i64])(rec:Rf->Option R)(kx:Ex->Rf->Option R)(v:Rf):Option R:=match v with
 |(v,v1,v2,v3,v4,v5,w,w1) =>
 cond (decide (v5<v4)) (
  chk (inb v5 v3.length) (
  (rf ((at' .expr v3 v5),v)).bind λ(x,x1) =>
   chk (inb v5 2) (
   cond (!decide (x1=0)) (
    kx .ret (v,0,x1,v3,v4,v5,w,(w1.set (v5:Int).toNat x))) (
    cond (decide (v5=1)) (
    kx (.exit 0) (v,v1,v2,v3,v4,v5,w,(w1.set (v5:Int).toNat x))) (
    rec (v,v1,v2,v3,v4,(wr .i64 (v5+1)),w,(w1.set (v5:Int).toNat x))))))) (
  kx (.exit 0) (v,v1,v2,v3,v4,v5,w,w1))
def Az1(R:Type)(k:Nat)(rf:FT [.sv .expr,.sl .col false] [.int .i64,.int .i64]):Px R:=pxO [(238,cA rf),(281,cA A1i),(270,cA A8y)] [] [(3,Am k Ahe (Gt rf))] []
def Ja(k:Nat)(rf:FT [.sv .expr,.sl .col false] [.int .i64,.int .i64])(x:HV [.sv .expr,.sl .col false]):Option (HV [.int .i64,.int .i64]):=match x with
 |(e,cols) =>
 Ak (λrec=>Gt rf rec (λe vz=>match vz with|(v6,v7,v8,_,_,_,a,b)=>match e with
  |.ret =>
  some (v7,v8)
  |.exit 0 =>
  let j2:=λ(q:List Int) =>
   cond (decide (a.kind=1)) (
   some (a.v.kind,0)) (
   cond (decide (a.kind=2)) (
    cond (decide ((Jr v6 a.name)<0)) (
    some (0,150)) (
    chk (inb (Jr v6 a.name) v6.length) (
     some ((at' .col v6 (Jr v6 a.name)).kind,0)))) (
    cond (decide (a.kind=16)) (
    some (2,0)) (
    let j1:=λ(p:Bool) =>
     cond (p) (
     cond ((Jo (at' .int q 0) 2)) (
      cond ((Jo (at' .int q 1) 2)) (
      some (2,0)) (
      some (0,151))) (
      some (0,151))) (
     let j:=λ(p3:Bool) =>
      cond (p3) (
      cond ((Jo (at' .int q 0) 3)) (
       cond ((Jo (at' .int q 1) 3)) (
       some (3,0)) (
       some (0,151))) (
       some (0,151))) (
      cond (decide ((at' .int q 0)=(at' .int q 1))) (
       some (2,0)) (
       cond (decide ((at' .int q 0)=1)) (
       some (2,0)) (
       cond (decide ((at' .int q 1)=1)) (
        some (2,0)) (
        some (0,151)))))
     cond (decide (a.kind=12)) (
      j (decide (a.kind=12))) (
      cond (decide (a.kind=13)) (
      j (decide (a.kind=13))) (
      cond (decide (a.kind=14)) (
       j (decide (a.kind=14))) (
       j (decide (a.kind=15))))))
    cond (decide (a.kind=3)) (
     j1 (decide (a.kind=3))) (
     cond (decide (a.kind=4)) (
     j1 (decide (a.kind=4))) (
     j1 (decide (a.kind=5)))))))
  cond (decide ((a.l.length:Int)=1)) (
   j2 (b.set (1:Int).toNat (at' .int b 0))) (
   j2 b)
  |_=>none)) k (cols,0,0,e.l,(e.l.length:Int),0,e,[0,0])
theorem Bdb(k:Nat)(rf:FT [.sv .expr,.sl .col false] [.int .i64,.int .i64])(hrf:FO 238 [.sv .expr,.sl .col false] [.int .i64,.int .i64] rf):FO 238 [.sv .expr,.sl .col false] [.int .i64,.int .i64] (Ja k rf):=fR (px:=Az1 _ k rf) (n:=1) Tryz.func238 rfl (λcx H=>by have h0:Lv cx (Az1 (HV [.int .i64,.int .i64]) k rf):=lv H (c1 H hrf (c1 H A8e (c1 H Bhz Ae))) Aa Ab;have hlkindE_0:=lO H h0 (b:=lp Tryz.f238 0) (k:=k) (n:=0) (s:=Ahe) (step:=Gt rf) (λ_ _ _ (_,_,_,_,_,_,_,_)=>by kernel_rfl) Ag;exact⟨h0,(A5 Ag hlkindE_0)⟩) λ(_,_)=>by kernel_rfl
def Bjz(e:Xpr)(cols:List Col)(a b:Int):Int×Int :=
 if e.kind=1 then(e.v.kind,0)
 else if e.kind=2 then(if Jr cols e.name<0 then(0,150) else((at' .col cols (Jr cols e.name)).kind,0))
 else if e.kind=16 then(2,0)
 else if e.kind=3\/e.kind=4\/e.kind=5 then(if Jo a 2&&Jo b 2 then(2,0) else(0,151))
 else if e.kind=12\/e.kind=13\/e.kind=14\/e.kind=15 then(if Jo a 3&&Jo b 3 then(3,0) else(0,151))
 else if a=b\/a=1\/b=1 then(2,0) else(0,151)
def Biq(e:Xpr)(cols:List Col):List (Int×Int)->Int×Int
 |[]=>Bjz e cols 0 0
 |[(a,f)]=>if f=0 then Bjz e cols a a else(0,f)
 |(a,f)::(b,g)::_=>if f=0 then(if g=0 then Bjz e cols a b else(0,g)) else(0,f)
mutual
def C8:Xpr->List Col->Int×Int
 |.mk k v nm l,cols=>Biq (.mk k v nm l) cols (kindL l cols)
def kindL:List Xpr->List Col->List (Int×Int)
 |[],_=>[]
 |x::l,cols=>C8 x cols::kindL l cols
end
theorem Bez(e:Xpr)(cols:List Col):C8 e cols=Biq e cols (kindL e.l cols):=by cases e;simp[C8,Xpr.l]
def Auv:FT [.sv .expr,.sl .col false] [.int .i64,.int .i64]:=λx=>some (C8 x.1 x.2)
def A75(a:Xpr)(v6:List Col)(q:List Int):Option (Int×Int) :=
   cond (decide (a.kind=1)) (
   some (a.v.kind,0)) (
   cond (decide (a.kind=2)) (
    cond (decide ((Jr v6 a.name)<0)) (
    some (0,150)) (
    chk (inb (Jr v6 a.name) v6.length) (
     some ((at' .col v6 (Jr v6 a.name)).kind,0)))) (
    cond (decide (a.kind=16)) (
    some (2,0)) (
    let j1:=λ(p:Bool) =>
     cond (p) (
     cond ((Jo (at' .int q 0) 2)) (
      cond ((Jo (at' .int q 1) 2)) (
      some (2,0)) (
      some (0,151))) (
      some (0,151))) (
     let j:=λ(p3:Bool) =>
      cond (p3) (
      cond ((Jo (at' .int q 0) 3)) (
       cond ((Jo (at' .int q 1) 3)) (
       some (3,0)) (
       some (0,151))) (
       some (0,151))) (
      cond (decide ((at' .int q 0)=(at' .int q 1))) (
       some (2,0)) (
       cond (decide ((at' .int q 0)=1)) (
       some (2,0)) (
       cond (decide ((at' .int q 1)=1)) (
        some (2,0)) (
        some (0,151)))))
     cond (decide (a.kind=12)) (
      j (decide (a.kind=12))) (
      cond (decide (a.kind=13)) (
      j (decide (a.kind=13))) (
      cond (decide (a.kind=14)) (
       j (decide (a.kind=14))) (
       j (decide (a.kind=15))))))
    cond (decide (a.kind=3)) (
     j1 (decide (a.kind=3))) (
     cond (decide (a.kind=4)) (
     j1 (decide (a.kind=4))) (
     j1 (decide (a.kind=5)))))))
theorem Aa7(e:Xpr)(cols:List Col)(a b:Int):A75 e cols [a,b]=some (Bjz e cols a b):=by
 have ha:at' .int [a,b] 0=a:=rfl;have hb:at' .int [a,b] 1=b:=rfl;simp[A75,Bjz,ha,hb];generalize e.kind=k;by_cases h1:k=1
 ·simp[h1]
 by_cases h2:k=2
 ·simp[h2];by_cases hf:Jr cols e.name<0
  ·simp[hf]
  ·rw[Blm hf];simp[hf,chk]
 by_cases h16:k=16
 ·simp[h16]
 rw[Zd1 h1,Zd1 h2,Zd1 h16,if_neg h1,if_neg h2,if_neg h16];simp;by_cases h3:k=3
 ·grind
 by_cases h4:k=4
 ·grind
 by_cases h5:k=5
 ·grind
 rw[Zd1 h3,Zd1 h4,Zd1 h5,if_neg (by omega)];simp;by_cases h12:k=12
 ·grind
 by_cases h13:k=13
 ·grind
 by_cases h14:k=14
 ·grind
 by_cases h15:k=15
 ·grind
 rw[Zd1 h12,Zd1 h13,Zd1 h14,Zd1 h15,if_neg (by omega)];simp;by_cases c1:a=b
 ·simp[c1]
 by_cases c2:a=1
 ·simp[c2]
 by_cases c3:b=1
 ·simp[c3]
 simp[c1,c2,c3]
def Aoq{R:Type}(ga:Int->Option R)(gb:Int->Int->Option R):List (Int×Int)->Option R
 |[]=>gb 0 0
 |[(a,f)]=>if f=0 then gb a 0 else ga f
 |(a,f)::(b,g)::_=>if f=0 then(if g=0 then gb a b else ga g) else ga f
theorem Bbx{R:Type}{rf:FT [.sv .expr,.sl .col false] [.int .i64,.int .i64]}{kx:Ex->Rf->Option R}{cols:List Col}{e:Xpr}{ga:Int->Option R}{gb:Int->Int->Option R}(hn:ln e.l.length)(hrf:∀x,x∈e.l->rf (x,cols)=some (C8 x cols))(h1:∀f i ks,kx .ret (cols,0,f,e.l,(e.l.length:Int),i,e,ks)=ga f)(h2:∀i a b,kx (.exit 0) (cols,0,0,e.l,(e.l.length:Int),i,e,[a,b])=gb a b)(k:Nat):Ak (λrec=>Gt rf rec kx) (k+3) (cols,0,0,e.l,(e.l.length:Int),0,e,[0,0])=Aoq ga gb (kindL e.l cols):=by
 rw[A8];generalize e.l=l at *;match l with
 |[] =>simp;exact h2 0 0 0
 |[x] =>
  simp only[Gt];have e1:at' .expr [x] 0=x:=rfl;rw[e1,hrf x (by simp)];simp only[ kindL,Aoq];show cond (!decide ((C8 x cols).2=0)) (kx .ret (cols,0,(C8 x cols).2,[x],1,0,e,[(C8 x cols).1,0])) (Ak (λrec=>Gt rf rec kx) (k+2) (cols,0,0,[x],1,1,e,[(C8 x cols).1,0]))=_;have h1':=λf i ks=>h1 f i ks;have h2':=λi a b=>h2 i a b;have hl:(([x]:List Xpr).length:Int)=1:=rfl;rw[hl] at h1' h2';rw[h1',A8];have:Gt rf (Ak (λrec=>Gt rf rec kx) (k+1)) kx (cols,0,0,[x],1,1,e,[(C8 x cols).1,0])=kx (.exit 0) (cols,0,0,[x],1,1,e,[(C8 x cols).1,0]):=rfl;rw[this,h2'];by_cases hf:(C8 x cols).2=0
  ·simp
  ·simp
 |x::y::t =>
  simp only[Gt];have hlen:(0:Int)<((x::y::t).length:Int):=by simp;omega
  have hlen1:(1:Int)<((x::y::t).length:Int):=by simp;omega
  have e1:at' .expr (x::y::t) 0=x:=rfl;have e2:at' .expr (x::y::t) 1=y:=rfl;rw[Ze1 hlen,e1,hrf x (by simp)];have i1:inb 0 (x::y::t).length=true:=Ay (i:=0) (by simp);have i2:inb 1 (x::y::t).length=true:=Ay (i:=1) (by simp);rw[i1];simp only[ kindL,Aoq];show cond (!decide ((C8 x cols).2=0)) (kx .ret (cols,0,(C8 x cols).2,x::y::t,_,0,e,[(C8 x cols).1,0])) (Ak (λrec=>Gt rf rec kx) (k+2) (cols,0,0,x::y::t,((x::y::t).length:Int),1,e,[(C8 x cols).1,0]))=_;rw[h1,A8];simp only[Gt];rw[Ze1 hlen1,e2,hrf y (by simp),i2];simp only[ chk];show cond (!decide ((C8 x cols).2=0)) (ga (C8 x cols).2) (cond (!decide ((C8 y cols).2=0)) (kx .ret (cols,0,(C8 y cols).2,x::y::t,_,1,e,_)) (kx (.exit 0) (cols,0,0,x::y::t,_,1,e,[(C8 x cols).1,(C8 y cols).1])))=_;rw[h1,h2];by_cases hf:(C8 x cols).2=0
  ·grind
  ·simp[hf]
theorem Aqh(k:Nat):∀(n:Nat) (e:Xpr) (cols:List Col),BdExpr e->C1 e<=n->Ak (Ja (k+3)) n (e,cols)=some (C8 e cols)
 |0,e,cols,_,h=>by have:=Ln e;omega
 |n+1,e,cols,hb,h=>by
  obtain⟨hb4,hb5⟩:=Aoy hb;rw[Pk] at h;have hrf:∀x,x∈e.l->Ak (Ja (k+3)) n (x,cols)=some (C8 x cols):=λx hx=>Aqh k n x cols (hb5 x hx) (by have:=D9 hx;omega);rw[A8,Bez];simp[Ja];refine(Bbx (ga:=λf=>some (0,f)) (gb:=λa b=>cond (decide ((e.l.length:Int)=1)) (A75 e cols [a,a]) (A75 e cols [a,b])) hb4 hrf ?_ ?_ k).trans ?_
  ·exactλ_ _ _=>rfl
  ·exactλ_ _ _=>rfl
  ·generalize e.l=l;match l with
   |[]=>simp[kindL,Aoq,Biq,Aa7]
   |[x] =>simp[kindL,Aoq,Biq,Aa7];split<;>simp
   |x::y::t =>
    simp only[kindL,Aoq,Biq,Aa7];have:¬(((x::y::t).length:Int)=1):=by simp;omega
    rw[Zd1 this];split
    ·split<;>rfl
    ·rfl
theorem Ay0:FO 238 [.sv .expr,.sl .col false] [.int .i64,.int .i64] Auv:=by refine .fin (ι:=Nat) 0 (F:=λn=>Ak (Ja 3) n) (λn=>FnOk.rec' (Sx.enters_of Tryz.func238 rfl rfl) (λrf hrf=>Bdb 3 rf hrf) n) λ(e,cols) r hb hx=>⟨C1 e,?_⟩;exact(Aqh 0 (C1 e) e cols hb.1 (Zn1 _)).trans hx
def Beq(R:Type):Px R:=pxO [(237,cA Asb),(238,cA Auv)] [] [] []
def Wx(x:HV [.sv .expr,.sl .col false]):Option (HV [.int .i64,.int .i64]):=match x with
 |(e,cols) =>
 cond (!decide ((Aei e)=0)) (
  some (0,(Aei e))) (
  some ((C8 e cols).1,(C8 e cols).2))
theorem Bax:FO 191 [.sv .expr,.sl .col false] [.int .i64,.int .i64] (Wx):=fR (px:=Beq _) (n:=0) Tryz.func191 rfl (λ_ H=>⟨lv H (c1 H Awp (c1 H Ay0 Ae)) Aa Ab,Ag⟩) λ(_,_)=>by kernel_rfl
def Kh(e:Xpr)(cols:List Col):Int×Int :=
 cond (!decide ((Aei e)=0)) (
  (0,(Aei e))) (
  ((C8 e cols).1,(C8 e cols).2))
theorem Ba9(x:HV [.sv .expr,.sl .col false]):Wx x=some (Kh x.1 x.2):=by
 first
  |exact rfl
  |simp only[Wx,Kh,A0]
def Ark:FT [.sv .expr,.sl .col false] [.int .i64,.int .i64]:=λx=>some (Kh x.1 x.2)
theorem Ax9:FO 191 [.sv .expr,.sl .col false] [.int .i64,.int .i64] Ark :=.fin0 Bax λx _ _ hx=>(Ba9 x).trans hx
mutual
def J4:Xpr->Xpr->Bool
 |.mk k v n l,.mk k' v' n' l'=>decide (k=k')&&decide (v=v')&&decide (n=n')&&xsames l l'
def xsames:List Xpr->List Xpr->Bool
 |[],[]=>true
 |x::l,y::m=>J4 x y&&xsames l m
 |_,_=>false
end
mutual
theorem Abi:∀a b:Xpr,J4 a b=true↔a=b
 |.mk k v n l,.mk k' v' n' l'=>by
  simp only[J4,Zb1,Zg1,xsames_iff l l',Xpr.mk.injEq];constructor
  ·rintro⟨⟨⟨h1,h2⟩,h3⟩,h4⟩;exact⟨h1,h2,h3,h4⟩
  ·rintro⟨h1,h2,h3,h4⟩;exact⟨⟨⟨h1,h2⟩,h3⟩,h4⟩
theorem xsames_iff:∀a b:List Xpr,xsames a b=true↔a=b
 |[],[]=>by simp[xsames]
 |x::l,y::m=>by simp only[xsames,Zb1,Abi x y,xsames_iff l m,Ze2]
 |[],_::_=>by simp[xsames]
 |_::_,[]=>by simp[xsames]
end
instance:DecidableEq Xpr:=λa b=>decidable_of_iff (J4 a b=true) (Abi a b)
theorem S2(a b:Xpr):J4 a b=decide (a=b):=by rw[Bool.eq_iff_iff,Abi,Zg1]
theorem A4n{a b:List Xpr}(h:xsames a b=true):a.length=b.length:=by rw[(xsames_iff a b).1 h]
theorem Bht(a b:Xpr):J4 a b=(decide (a.kind=b.kind)&&decide (a.v=b.v)&&decide (a.name=b.name)&&xsames a.l b.l):=by cases a;cases b;simp[J4];rfl
def Ali:Sig:=⟨32,[(1,.sl .expr false),(6,.bool),(15,.sl .expr false),(16,.int .i64),(17,.int .i64)],[(2,.fn 122 [])],[],40,40,200,[],[]⟩
abbrev Sw:=List Xpr×Bool×List Xpr×Int×Int
def Tg{R:Type}(rf:FT [.sv .expr,.sv .expr] [.bool])(rec:Sw->Option R)(kx:Ex->Sw->Option R)(v:Sw):Option R:=match v with
 |(v,v1,v2,v3,v4) =>
 cond (decide (v4<v3)) (
  chk (inb v4 v2.length) (
  chk (inb v4 v.length) (
   (rf ((at' .expr v2 v4),(at' .expr v v4))).bind λx =>
   cond (!x) (
    kx .ret (v,false,v2,v3,v4)) (
    rec (v,v1,v2,v3,(wr .i64 (v4+1))))))) (
  kx (.exit 0) (v,v1,v2,v3,v4))
def Akq(R:Type)(k:Nat)(rf:FT [.sv .expr,.sv .expr] [.bool]):Px R:=pxO [(122,cA rf)] [] [(4,Am k Ali (Tg rf))] []
noncomputable def Axn(R:Type)(k:Nat)(rf:FT [.sv .expr,.sv .expr] [.bool]):Px R:=pxO [(126,Aq 40 200 (Akq R k rf) Tryz.f126)] [] [] []
def G5(k:Nat)(rf:FT [.sv .expr,.sv .expr] [.bool])(x:HV [.sv .expr,.sv .expr]):Option (HV [.bool]):=match x with
 |(a,b) =>
 let j1:=λ(p:Bool) =>
  let j:=λ(p1:Bool) =>
  cond (p1) (
   cond (!decide ((a.l.length:Int)=(b.l.length:Int))) (
   some false) (
   Ak (λrec=>Tg rf rec (λe vz=>match vz with|(_,v6,_,_,_)=>match e with
    |.ret =>
    some v6
    |.exit 0 =>
    some true
    |_=>none)) k (b.l,false,a.l,(a.l.length:Int),0))) (
   some false)
  cond (p) (
  j (decide (a.name=b.name))) (
  j false)
 cond (decide (a.kind=b.kind)) (
  j1 (decide (a.v=b.v))) (
  j1 false)
theorem Bbr(k:Nat)(rf:FT [.sv .expr,.sv .expr] [.bool])(hrf:FO 122 [.sv .expr,.sv .expr] [.bool] rf):FO 122 [.sv .expr,.sv .expr] [.bool] (G5 k rf):=fR (px:=Axn _ k rf) (n:=0) Tryz.func122 rfl (λcx H=>by have h1:Lv cx (Akq (HV [.bool]) k rf):=lv H (c1 H hrf Ae) Aa Ab;have hlasame_0:=lO H h1 (b:=lp Tryz.f126 0) (k:=k) (n:=0) (s:=Ali) (step:=Tg rf) (λ_ _ _ (_,_,_,_,_)=>by kernel_rfl) Ag;have h0:Lv cx (Axn (HV [.bool]) k rf):=lv H (Al (cR H h1 Tryz.func126 rfl (n:=1) ((A5 Ag hlasame_0))) Ae) Aa Ab;exact⟨h0,Ag⟩) λ(_,_)=>by kernel_rfl
def Pd(a b:Xpr):Bool:=J4 a b
def R7:FT [.sv .expr,.sv .expr] [.bool]:=λx=>some (Pd x.1 x.2)
theorem A1m{R:Type}{rf:FT [.sv .expr,.sv .expr] [.bool]}{kx:Ex->Sw->Option R}{l m:List Xpr}{c:Bool->Option R}(hn:ln l.length)(hm:l.length=m.length)(hrf:∀x,x∈l->∀y,y∈m->rf (x,y)=some (J4 x y))
  (h1:∀i,kx .ret (m,false,l,(l.length:Int),i)=c false) (h2:∀q i,kx (.exit 0) (m,q,l,(l.length:Int),i)=c true) (k:Nat) (hk:l.length<k):Ak (λrec=>Tg rf rec kx) k (m,false,l,(l.length:Int),0)=c (xsames l m):=by
 refine(Bu l.length (λi=>(m,false,l,(l.length:Int),(i:Int))) (λi=>c (xsames (l.drop i) (m.drop i))) (λi hi rec hr =>?_) (λrec =>?_) k 0 (Nat.zero_le _) (by omega)).trans (by rw[Zq1,Zq1])
 ·have hi2:i<m.length:=by omega
  simp only[Tg,C6 hi,Ay hi,Ay hi2,Aw (c :=.expr) hi,Aw (c :=.expr) hi2,hrf _ (List.getElem_mem hi) _ (List.getElem_mem hi2),As hi hn,hr,h1,Av hi,Av hi2,xsames];cases J4 l[i] m[i]<;>rfl
 ·simp only[Tg,E6,h2];rw[Zk1 (Zn1 _),Zk1 (by omega)];rfl
theorem Aqo(k:Nat):∀(n:Nat) (a b:Xpr),BdExpr a->BdExpr b->C1 a<=n->C1 a<=k->Ak (G5 k) n (a,b)=some (J4 a b)
 |0,a,b,_,_,h,_=>by have:=Ln a;omega
 |n+1,a,b,ha,hb,h,hk=>by
  obtain⟨hb4,hb5⟩:=Aoy ha;obtain⟨hc4,hc5⟩:=Aoy hb;rw[Pk] at h hk;have hl:=Nz a.l;have hrf:∀x,x∈a.l->∀y,y∈b.l->Ak (G5 k) n (x,y)=some (J4 x y):=λx hx y hy=>Aqo k n x y (hb5 x hx) (hc5 y hy) (by have:=D9 hx;omega) (by have:=D9 hx;omega);rw[A8,Bht];simp only[G5];by_cases hlen:a.l.length=b.l.length
  ·have hloop:=A1m (R:=Bool) (rf:=Ak (G5 k) n) (l:=a.l) (m:=b.l) (c:=some) (kx:=λe v=>match v with
    |(_,v6,_,_,_)=>match e with
     |.ret=>some v6
     |.exit 0=>some true
     |_=>none) hb4 hlen hrf (λ_=>rfl) (λ_ _=>rfl) k (by omega)
   rw[hloop,Ze1 (show(a.l.length:Int)=(b.l.length:Int) by omega)];cases decide (a.kind=b.kind)<;>cases decide (a.v=b.v)<;>cases decide (a.name=b.name)<;>cases xsames a.l b.l<;>rfl
  ·have hno:xsames a.l b.l=false:=by cases hs:xsames a.l b.l with|false=>rfl|true=>exact absurd (A4n hs) hlen
   rw[hno,Zd1 (show ¬(a.l.length:Int)=(b.l.length:Int) by omega)];cases decide (a.kind=b.kind)<;>cases decide (a.v=b.v)<;>cases decide (a.name=b.name)<;>rfl
theorem Qs:FO 122 [.sv .expr,.sv .expr] [.bool] R7:=by refine .fin (ι:=Nat) 0 (F:=λn=>Ak (G5 n) n) (λn=>FnOk.rec' (Sx.enters_of Tryz.func122 rfl rfl) (λrf hrf=>Bbr n rf hrf) n) λ(a,b) r hb hx=>⟨C1 a,?_⟩;exact(Aqo (C1 a) (C1 a) a b hb.1 hb.2 (Zn1 _) (Zn1 _)).trans hx
def Apn:Sig:=⟨19,[(0,.sl .str false),(1,.str),(4,.int .i64),(7,.int .i64),(8,.int .i64)],[],[],0,0,0,[],[]⟩
abbrev X8:=List Str×Str×Int×Int×Int
def Ab9{R:Type}(rec:X8->Option R)(kx:Ex->X8->Option R)(v:X8):Option R:=match v with
 |(v,v1,v2,v3,v4) =>
 cond (decide (v4<v3)) (
  chk (inb v4 v.length) (
  cond (decide (v1=(at' .str v v4))) (
   kx .ret (v,v1,v4,v3,v4)) (
   rec (v,v1,v2,v3,(wr .i64 (v4+1)))))) (
  kx (.exit 0) (v,v1,v2,v3,v4))
def A7d(R:Type)(k:Nat):Px R:=pxO [] [] [(2,Am k Apn (Ab9))] []
def Aqy(k:Nat)(x:HV [.sl .str false,.str]):Option (HV [.int .i64]):=match x with
 |(l,s) =>
 Ak (λrec=>Ab9 rec (λe vz=>match vz with|(_,_,v7,_,_)=>match e with
  |.ret =>
  some v7
  |.exit 0 =>
  some (-1)
  |_=>none)) k (l,s,0,(l.length:Int),0)
theorem Bj9(k:Nat):FO 183 [.sl .str false,.str] [.int .i64] (Aqy k):=fR (px:=A7d _ k) (n:=1) Tryz.func183 rfl (λcx H=>by have h0:Lv cx (A7d (HV [.int .i64]) k):=lv H Ae Aa Ab;have hlsidx_0:=lO H h0 (b:=lp Tryz.f183 0) (k:=k) (n:=0) (s:=Apn) (step:=Ab9) (λ_ _ _ (_,_,_,_,_)=>by kernel_rfl) Ag;exact⟨h0,(A5 Ag hlsidx_0)⟩) λ(_,_)=>by kernel_rfl
def Brb(l:List Str)(s:Str):Int:=Lp.idx s l 0
def A2f:FT [.sl .str false,.str] [.int .i64]:=λx=>some (Brb x.1 x.2)
theorem Apj{R:Type}{kx:Ex->X8->Option R}{l:List Str}{s:Str}{c:Int->Option R}(hl:ln l.length)(h1:∀(r:Int) (i:Int),kx .ret (l,s,r,(l.length:Int),i)=c r)(h2:∀q:Int,kx (.exit 0) (l,s,q,(l.length:Int),(l.length:Int))=c (-1)) :
  ∀(k i:Nat) (q:Int),i<=l.length->l.length-i<k->Ak (λrec=>Ab9 rec kx) k (l,s,q,(l.length:Int),(i:Int))=c (Lp.idx s (l.drop i) i)
 |0,i,_,_,h=>absurd h (Zm1 _)
 |k+1,i,q,hi,h=>by
  rw[A8];by_cases hlt:i<l.length
  ·have e1:decide ((i:Int)<(l.length:Int))=true:=Ze1 (by omega);have en:((i+1:Nat):Int)=(i:Int)+1:=by omega
   simp only[Ab9,Ay hlt,chk,Aw (c :=.str) hlt,As hlt hl,(Apj hl h1 h2 k (i+1) q (by omega) (by omega))];rw[Av hlt,Lp.idx,en];by_cases hx:s=l[i]
   ·grind
   ·grind
  ·have hi:i=l.length:=by omega
   subst hi;simp[Ab9,h2,Lp.idx]
theorem Boi:FO 183 [.sl .str false,.str] [.int .i64] A2f :=.fin 0 Bj9 λ(l,s) r hb hx=>⟨l.length+1,by simp only[A2f,Za1] at hx;rw[<-hx];simp only[Aqy];exact Apj (c:=λq=>some q) hb.1.1 (λ_ _=>rfl) (λ_=>rfl) (l.length+1) 0 0 (Nat.zero_le _) (by omega)⟩
def Bm1(R:Type):Px R:=pxO [(183,cA A2f)] [] [] []
def Abt(x:HV [.sl .str false,.str]):Option (HV [.bool]):=match x with
 |(l,s) =>
 some (decide (0<=(Brb l s)))
theorem Bhn:FO 131 [.sl .str false,.str] [.bool] (Abt):=fR (px:=Bm1 _) (n:=0) Tryz.func131 rfl (λ_ H=>⟨lv H (c1 H Boi Ae) Aa Ab,Ag⟩) λ(_,_)=>by kernel_rfl
def Ayp(l:List Str)(s:Str):Bool :=(decide (0<=(Brb l s)))
theorem Bj4(x:HV [.sl .str false,.str]):Abt x=some (Ayp x.1 x.2):=by
 first
  |exact rfl
  |simp only[Abt,Ayp,A0]
def A1o:FT [.sl .str false,.str] [.bool]:=λx=>some (Ayp x.1 x.2)
theorem A6o:FO 131 [.sl .str false,.str] [.bool] A1o :=.fin0 Bhn λx _ _ hx=>(Bj4 x).trans hx
theorem A4w(l:List Str)(s:Str):Ayp l s=l.contains s:=by have e:Ayp l s=decide (0<=Lp.idx s l 0):=rfl;rw[e,Bool.eq_iff_iff,Zg1,Lp.idx_ge s l 0 (Int.le_refl 0)];simp
def Ap7:Sig:=⟨26,[(0,.sl .col false),(1,.sl .col false),(4,.bool),(12,.int .i64),(13,.int .i64)],[],[],0,0,0,[],[]⟩
abbrev Aap:=List Col×List Col×Bool×Int×Int
def Ade{R:Type}(rec:Aap->Option R)(kx:Ex->Aap->Option R)(v:Aap):Option R:=match v with
 |(v,v1,v2,v3,v4) =>
 cond (decide (v4<v3)) (
  chk (inb v4 v.length) (
  chk (inb v4 v1.length) (
   cond (!decide ((at' .col v v4)=(at' .col v1 v4))) (
   kx .ret (v,v1,false,v3,v4)) (
   rec (v,v1,v2,v3,(wr .i64 (v4+1))))))) (
  kx (.exit 0) (v,v1,v2,v3,v4))
def A67(R:Type)(k:Nat):Px R:=pxO [] [] [(4,Am k Ap7 (Ade))] []
def Ap1(k:Nat)(x:HV [.sl .col false,.sl .col false]):Option (HV [.bool]):=match x with
 |(a,b) =>
 cond (!decide ((a.length:Int)=(b.length:Int))) (
  some false) (
  Ak (λrec=>Ade rec (λe vz=>match vz with|(_,_,v7,_,_)=>match e with
  |.ret =>some v7
  |.exit 0 =>some true
  |_=>none)) k (a,b,false,(a.length:Int),0))
theorem Bd8(k:Nat):FO 123 [.sl .col false,.sl .col false] [.bool] (Ap1 k):=fR (px:=A67 _ k) (n:=1) Tryz.func123 rfl (λcx H=>by have h0:Lv cx (A67 (HV [.bool]) k):=lv H Ae Aa Ab;have hlaeqc_0:=lO H h0 (b:=lp Tryz.f123 0) (k:=k) (n:=0) (s:=Ap7) (step:=Ade) (λ_ _ _ (_,_,_,_,_)=>by kernel_rfl) Ag;exact⟨h0,(A5 Ag hlaeqc_0)⟩) λ(_,_)=>by kernel_rfl
def Bmf(a b:List Col):Bool:=decide (a=b)
def A15:FT [.sl .col false,.sl .col false] [.bool]:=λx=>some (Bmf x.1 x.2)
theorem Baa{R:Type}{kx:Ex->Aap->Option R}{a b:List Col}{c:Bool->Option R}(hn:ln a.length)(he:a.length=b.length)(h1:∀i,kx .ret (a,b,false,(a.length:Int),i)=c false)(h2:∀q i,kx (.exit 0) (a,b,q,(a.length:Int),i)=c true)(k:Nat)(hk:a.length<k) :
  Ak (λrec=>Ade rec kx) k (a,b,false,(a.length:Int),0)=c (decide (a=b)):=by
 refine(Bu a.length (λi=>(a,b,false,(a.length:Int),(i:Int))) (λi=>c (decide (a.drop i=b.drop i))) (λi hi rec hr =>?_) (λrec =>?_) k 0 (Nat.zero_le _) (by omega)).trans (by rw[Zq1,Zq1])
 ·have hi2:i<b.length:=by omega
  simp only[Ade,C6 hi,Ah,Ay hi,Ay hi2,chk,Aw (c :=.col) hi,Aw (c :=.col) hi2,As hi hn,hr,h1,Av hi,Av hi2,Ze2];by_cases hx:a[i]=b[i]
  ·rw[Ze1 hx];simp[hx]
  ·rw[Zd1 hx];simp[hx]
 ·simp only[Ade,E6,Af,h2];rw[Zk1 (Zn1 _),Zk1 (by omega)];rfl
theorem Bpb:FO 123 [.sl .col false,.sl .col false] [.bool] A15 :=.fin 0 Bd8 λ(a,b) r hb hx=>⟨a.length+1,by
 simp only[A15,Za1] at hx;rw[<-hx];simp only[Ap1,Bmf];by_cases he:a.length=b.length
 ·rw[Ze1 (show(a.length:Int)=(b.length:Int) by omega),Zt1,Af];exact Baa (c:=some) hb.1.1 he (λ_=>rfl) (λ_ _=>rfl) (a.length+1) (by omega)
 ·rw[Zd1 (show ¬(a.length:Int)=(b.length:Int) by omega),Zd1 (λh=>he (by rw[h]))];rfl⟩
def Aqa:Sig:=⟨26,[(0,.sl .str false),(1,.sl .str false),(4,.bool),(12,.int .i64),(13,.int .i64)],[],[],0,0,0,[],[]⟩
abbrev Y3:=List Str×List Str×Bool×Int×Int
def Acz{R:Type}(rec:Y3->Option R)(kx:Ex->Y3->Option R)(v:Y3):Option R:=match v with
 |(v,v1,v2,v3,v4) =>
 cond (decide (v4<v3)) (
  chk (inb v4 v.length) (
  chk (inb v4 v1.length) (
   cond (!decide ((at' .str v v4)=(at' .str v1 v4))) (
   kx .ret (v,v1,false,v3,v4)) (
   rec (v,v1,v2,v3,(wr .i64 (v4+1))))))) (
  kx (.exit 0) (v,v1,v2,v3,v4))
def A6f(R:Type)(k:Nat):Px R:=pxO [] [] [(4,Am k Aqa (Acz))] []
def Aq2(k:Nat)(x:HV [.sl .str false,.sl .str false]):Option (HV [.bool]):=match x with
 |(a,b) =>
 cond (!decide ((a.length:Int)=(b.length:Int))) (
  some false) (
  Ak (λrec=>Acz rec (λe vz=>match vz with|(_,_,v7,_,_)=>match e with
  |.ret =>some v7
  |.exit 0 =>some true
  |_=>none)) k (a,b,false,(a.length:Int),0))
theorem Bgf(k:Nat):FO 124 [.sl .str false,.sl .str false] [.bool] (Aq2 k):=fR (px:=A6f _ k) (n:=1) Tryz.func124 rfl (λcx H=>by have h0:Lv cx (A6f (HV [.bool]) k):=lv H Ae Aa Ab;have hlaeqs_0:=lO H h0 (b:=lp Tryz.f124 0) (k:=k) (n:=0) (s:=Aqa) (step:=Acz) (λ_ _ _ (_,_,_,_,_)=>by kernel_rfl) Ag;exact⟨h0,(A5 Ag hlaeqs_0)⟩) λ(_,_)=>by kernel_rfl
def Bl2(a b:List Str):Bool:=decide (a=b)
def A0l:FT [.sl .str false,.sl .str false] [.bool]:=λx=>some (Bl2 x.1 x.2)
theorem Bd5{R:Type}{kx:Ex->Y3->Option R}{a b:List Str}{c:Bool->Option R}(hn:ln a.length)(he:a.length=b.length)(h1:∀i,kx .ret (a,b,false,(a.length:Int),i)=c false)(h2:∀q i,kx (.exit 0) (a,b,q,(a.length:Int),i)=c true)(k:Nat)(hk:a.length<k) :
  Ak (λrec=>Acz rec kx) k (a,b,false,(a.length:Int),0)=c (decide (a=b)):=by
 refine(Bu a.length (λi=>(a,b,false,(a.length:Int),(i:Int))) (λi=>c (decide (a.drop i=b.drop i))) (λi hi rec hr =>?_) (λrec =>?_) k 0 (Nat.zero_le _) (by omega)).trans (by rw[Zq1,Zq1])
 ·have hi2:i<b.length:=by omega
  simp only[Acz,C6 hi,Ah,Ay hi,Ay hi2,chk,Aw (c :=.str) hi,Aw (c :=.str) hi2,As hi hn,hr,h1,Av hi,Av hi2,Ze2];by_cases hx:a[i]=b[i]
  ·rw[Ze1 hx];simp[hx]
  ·rw[Zd1 hx];simp[hx]
 ·simp only[Acz,E6,Af,h2];rw[Zk1 (Zn1 _),Zk1 (by omega)];rfl
theorem Bm3:FO 124 [.sl .str false,.sl .str false] [.bool] A0l :=.fin 0 Bgf λ(a,b) r hb hx=>⟨a.length+1,by
 simp only[A0l,Za1] at hx;rw[<-hx];simp only[Aq2,Bl2];by_cases he:a.length=b.length
 ·rw[Ze1 (show(a.length:Int)=(b.length:Int) by omega),Zt1,Af];exact Bd5 (c:=some) hb.1.1 he (λ_=>rfl) (λ_ _=>rfl) (a.length+1) (by omega)
 ·rw[Zd1 (show ¬(a.length:Int)=(b.length:Int) by omega),Zd1 (λh=>he (by rw[h]))];rfl⟩
def Ang:Sig:=⟨26,[(0,.sl .bool false),(1,.sl .bool false),(4,.bool),(12,.int .i64),(13,.int .i64)],[],[],0,0,0,[],[]⟩
abbrev Yw:=List Bool×List Bool×Bool×Int×Int
def Ac8{R:Type}(rec:Yw->Option R)(kx:Ex->Yw->Option R)(v:Yw):Option R:=match v with
 |(v,v1,v2,v3,v4) =>
 cond (decide (v4<v3)) (
  chk (inb v4 v.length) (
  chk (inb v4 v1.length) (
   cond (!decide ((at' .bool v v4)=(at' .bool v1 v4))) (
   kx .ret (v,v1,false,v3,v4)) (
   rec (v,v1,v2,v3,(wr .i64 (v4+1))))))) (
  kx (.exit 0) (v,v1,v2,v3,v4))
def A6z(R:Type)(k:Nat):Px R:=pxO [] [] [(4,Am k Ang (Ac8))] []
def Aqq(k:Nat)(x:HV [.sl .bool false,.sl .bool false]):Option (HV [.bool]):=match x with
 |(a,b) =>
 cond (!decide ((a.length:Int)=(b.length:Int))) (
  some false) (
  Ak (λrec=>Ac8 rec (λe vz=>match vz with|(_,_,v7,_,_)=>match e with
  |.ret =>some v7
  |.exit 0 =>some true
  |_=>none)) k (a,b,false,(a.length:Int),0))
theorem Bgi(k:Nat):FO 125 [.sl .bool false,.sl .bool false] [.bool] (Aqq k):=fR (px:=A6z _ k) (n:=1) Tryz.func125 rfl (λcx H=>by have h0:Lv cx (A6z (HV [.bool]) k):=lv H Ae Aa Ab;have hlaeqb_0:=lO H h0 (b:=lp Tryz.f125 0) (k:=k) (n:=0) (s:=Ang) (step:=Ac8) (λ_ _ _ (_,_,_,_,_)=>by kernel_rfl) Ag;exact⟨h0,(A5 Ag hlaeqb_0)⟩) λ(_,_)=>by kernel_rfl
def Bn1(a b:List Bool):Bool:=decide (a=b)
def A09:FT [.sl .bool false,.sl .bool false] [.bool]:=λx=>some (Bn1 x.1 x.2)
theorem Bdl{R:Type}{kx:Ex->Yw->Option R}{a b:List Bool}{c:Bool->Option R}(hn:ln a.length)(he:a.length=b.length)(h1:∀i,kx .ret (a,b,false,(a.length:Int),i)=c false)(h2:∀q i,kx (.exit 0) (a,b,q,(a.length:Int),i)=c true)(k:Nat)(hk:a.length<k) :
  Ak (λrec=>Ac8 rec kx) k (a,b,false,(a.length:Int),0)=c (decide (a=b)):=by
 refine(Bu a.length (λi=>(a,b,false,(a.length:Int),(i:Int))) (λi=>c (decide (a.drop i=b.drop i))) (λi hi rec hr =>?_) (λrec =>?_) k 0 (Nat.zero_le _) (by omega)).trans (by rw[Zq1,Zq1])
 ·have hi2:i<b.length:=by omega
  simp only[Ac8,C6 hi,Ah,Ay hi,Ay hi2,chk,Aw (c :=.bool) hi,Aw (c :=.bool) hi2,As hi hn,hr,h1,Av hi,Av hi2,Ze2];by_cases hx:a[i]=b[i]
  ·rw[Ze1 hx];simp[hx]
  ·rw[Zd1 hx];simp[hx]
 ·simp only[Ac8,E6,Af,h2];rw[Zk1 (Zn1 _),Zk1 (by omega)];rfl
theorem Bpi:FO 125 [.sl .bool false,.sl .bool false] [.bool] A09 :=.fin 0 Bgi λ(a,b) r hb hx=>⟨a.length+1,by
 simp only[A09,Za1] at hx;rw[<-hx];simp only[Aqq,Bn1];by_cases he:a.length=b.length
 ·rw[Ze1 (show(a.length:Int)=(b.length:Int) by omega),Zt1,Af];exact Bdl (c:=some) hb.1.1 he (λ_=>rfl) (λ_ _=>rfl) (a.length+1) (by omega)
 ·rw[Zd1 (show ¬(a.length:Int)=(b.length:Int) by omega),Zd1 (λh=>he (by rw[h]))];rfl⟩
instance:DecidableEq SetE:=λa b=>decidable_of_iff (a.name=b.name/\a.e=b.e) (by cases a;cases b;simp)
def Aun(a b:SetE):Bool:=decide (a.name=b.name)&&J4 a.e b.e
theorem Awn(a b:SetE):Aun a b=decide (a=b):=by cases a;cases b;simp[Aun,S2]
def Ama(a b:Stm):Bool:=decide (a.kind=b.kind)&&decide (a.name=b.name)&&decide (a.on=b.on)&&decide (a.has=b.has)&&decide (a.most=b.most)&&decide (a.whr=b.whr)&&(decide (a.cols=b.cols)&&decide (a.names=b.names)&&decide (a.order=b.order)&&decide (a.desc=b.desc)&&decide (a.l=b.l))&&decide (a.rows=b.rows)&&decide (a.sets=b.sets)
theorem Am6(a b:Stm):Ama a b=true↔a=b:=by
 cases a;cases b;simp[Ama,Stm.mk.injEq];constructor
 ·grind
 ·grind
def Ad3:Sig:=⟨32,[(1,.sl .set false),(6,.bool),(15,.sl .set false),(16,.int .i64),(17,.int .i64)],[(2,.fn 130 [])],[],40,40,600,[],[]⟩
abbrev Nr:=List SetE×Bool×List SetE×Int×Int
def L9{R:Type}(rec:Nr->Option R)(kx:Ex->Nr->Option R)(v:Nr):Option R:=match v with
 |(b,f,c,d,a) =>
 cond (decide (a<d)) (
  chk (inb a c.length) (
  chk (inb a b.length) (
   cond (decide (((at' .set c a).name)=((at' .set b a).name))) (
   cond (!(Pd (O0 ((at' .set c a).e)) (O0 ((at' .set b a).e)))) (
    kx .ret (b,false,c,d,a)) (
    rec (b,f,c,d,(wr .i64 (a+1))))) (
   kx .ret (b,false,c,d,a))))) (
  kx (.exit 0) (b,f,c,d,a))
def Afl:Sig:=⟨32,[(1,.sl .expr false),(6,.bool),(15,.sl .expr false),(16,.int .i64),(17,.int .i64)],[(2,.fn 122 [])],[(0,.one (.sv .stmt)),(1,.one (.sv .stmt))],120,120,600,[],[]⟩
abbrev Oj:=List Xpr×Bool×List Xpr×Int×Int×Stm×Stm
def Lj{R:Type}(rec:Oj->Option R)(kx:Ex->Oj->Option R)(v:Oj):Option R:=match v with
 |(b,e,c,d,a,w4,w5) =>
 cond (decide (a<d)) (
  chk (inb a c.length) (
  chk (inb a b.length) (
   cond (!(Pd (at' .expr c a) (at' .expr b a))) (
   kx .ret (b,false,c,d,a,w4,w5)) (
   rec (b,e,c,d,(wr .i64 (a+1)),w4,w5))))) (
  kx (.exit 0) (b,e,c,d,a,w4,w5))
def Aeb:Sig:=⟨32,[(1,.sl .exprs false),(6,.bool),(15,.sl .exprs false),(16,.int .i64),(17,.int .i64)],[(2,.fn 128 [])],[(0,.one (.sv .stmt)),(1,.one (.sv .stmt))],40,40,400,[],[]⟩
abbrev Od:=List (List Xpr)×Bool×List (List Xpr)×Int×Int×Stm×Stm
def Lw{R:Type}(k:Nat)(rec:Od->Option R)(kx:Ex->Od->Option R)(v:Od):Option R:=match v with
 |(c,f,b,d,a,w2,w3) =>
 cond (decide (a<d)) (
  chk (inb a b.length) (
  chk (inb a c.length) (
   cond (!decide (((at' .exprs b a).length:Int)=((at' .exprs c a).length:Int))) (
   kx .ret (c,false,b,d,a,w2,w3)) (
   Ak (λrc=>Lj rc (λe vz=>match vz with|(_,i,_,_,_,g,h)=>match e with
    |.ret =>
    cond (!i) (
     kx .ret (c,false,b,d,a,g,h)) (
     rec (c,f,b,d,(wr .i64 (a+1)),g,h))
    |.exit 0 =>
    rec (c,f,b,d,(wr .i64 (a+1)),g,h)
    |_=>none)) k ((at' .exprs c a),false,(at' .exprs b a),((at' .exprs b a).length:Int),0,w2,w3))))) (
  kx (.exit 0) (c,f,b,d,a,w2,w3))
def Adm:Sig:=⟨32,[(1,.sl .expr false),(6,.bool),(15,.sl .expr false),(16,.int .i64),(17,.int .i64)],[(2,.fn 122 [])],[(0,.one (.sv .stmt)),(1,.one (.sv .stmt))],40,40,200,[],[]⟩
abbrev Nk:=List Xpr×Bool×List Xpr×Int×Int×Stm×Stm
def L3{R:Type}(rec:Nk->Option R)(kx:Ex->Nk->Option R)(v:Nk):Option R:=match v with
 |(v,v1,v2,v3,v4,w,w1) =>
 cond (decide (v4<v3)) (
  chk (inb v4 v2.length) (
  chk (inb v4 v.length) (
   cond (!(Pd (at' .expr v2 v4) (at' .expr v v4))) (
   kx .ret (v,false,v2,v3,v4,w,w1)) (
   rec (v,v1,v2,v3,(wr .i64 (v4+1)),w,w1))))) (
  kx (.exit 0) (v,v1,v2,v3,v4,w,w1))
def Afp(R:Type)(k:Nat):Px R:=pxO [(122,cA R7)] [] [(4,Am k Adm (L3))] []
def Oy(R:Type)(k:Nat):Px R:=pxO [(122,cA R7)] [] [(4,Am k Afl (Lj))] []
noncomputable def Uh(R:Type)(k:Nat):Px R:=pxO [(126,Aq 120 600 (Oy R k) Tryz.f126)] [] [] []
noncomputable def Ae7(R:Type)(k:Nat):Px R:=pxO [(128,Aq 80 600 (Uh R k) Tryz.f128)] [] [(4,Am k Aeb (Lw k))] []
def Uo(R:Type)(_k:Nat):Px R:=pxO [(122,cA R7)] [] [] []
noncomputable def Ad9(R:Type)(k:Nat):Px R:=pxO [(130,Aq 80 800 (Uo R k) Tryz.f130)] [] [(4,Am k Ad3 (L9))] []
noncomputable def Ani(R:Type)(k:Nat):Px R:=pxO [(122,cA R7),(123,cA A15),(124,cA A0l),(125,cA A09),(126,Aq 40 200 (Afp R k) Tryz.f126),(127,Aq 40 400 (Ae7 R k) Tryz.f127),(129,Aq 40 600 (Ad9 R k) Tryz.f129)] [] [] []
def Qq(k:Nat)(x:HV [.sv .stmt,.sv .stmt]):Option (HV [.bool]):=match x with
 |(a,b) =>
 let j9:=λ(p6:Bool) =>
  let j8:=λ(m:Bool) (q6:Stm) (q7:Stm) =>
  let j7:=λ(n:Bool) =>
   let j6:=λ(o:Bool) (c:Stm) (d:Stm) =>
   cond (o) (
    cond (!decide ((c.sets.length:Int)=(d.sets.length:Int))) (
    some false) (
    Ak (λrec=>L9 rec (λe vz=>match vz with|(_,q,_,_,_)=>match e with
     |.ret =>
     some q
     |.exit 0 =>
     some true
     |_=>none)) k (d.sets,false,c.sets,(c.sets.length:Int),0))) (
    some false)
   cond (n) (
   cond (!decide ((q6.rows.length:Int)=(q7.rows.length:Int))) (
    j6 false q6 q7) (
    Ak (λrec=>Lw k rec (λe vz=>match vz with|(_,r,_,_,_,f,g)=>match e with
    |.ret =>j6 r f g
    |.exit 0 =>j6 true f g
    |_=>none)) k (q7.rows,false,q6.rows,(q6.rows.length:Int),0,q6,q7))) (
   j6 false q6 q7)
  cond (p6) (
   j7 m) (
   j7 false)
  let j5:=λ(p7:Bool) =>
  let j4:=λ(p8:Bool) =>
   let j3:=λ(p9:Bool) =>
   cond (p9) (
    cond (!decide ((a.l.length:Int)=(b.l.length:Int))) (
    j8 false a b) (
    Ak (λrec=>L3 rec (λe vz=>match vz with|(_,v6,_,_,_,h,i)=>match e with
     |.ret =>
     j8 v6 h i
     |.exit 0 =>
     j8 true h i
     |_=>none)) k (b.l,false,a.l,(a.l.length:Int),0,a,b))) (
    j8 false a b)
   cond (p8) (
   j3 (Bn1 a.desc b.desc)) (
   j3 false)
  cond (p7) (
   j4 (Bl2 a.order b.order)) (
   j4 false)
  cond ((Bmf a.cols b.cols)) (
  j5 (Bl2 a.names b.names)) (
  j5 false)
 let j2:=λ(p:Bool) =>
  let j1:=λ(p1:Bool) =>
  let j:=λ(p2:Bool) =>
   cond (p2) (
   cond (decide (a.most=b.most)) (
    j9 (Pd (O0 a.whr) (O0 b.whr))) (
    j9 false)) (
   j9 false)
  cond (p1) (
   j (decide (a.has=b.has))) (
   j false)
  cond (p) (
  j1 (decide (a.on=b.on))) (
  j1 false)
 cond (decide (a.kind=b.kind)) (
  j2 (decide (a.name=b.name))) (
  j2 false)
theorem A2m(k:Nat):FO 84 [.sv .stmt,.sv .stmt] [.bool] (Qq k):=fR (px:=Ani _ k) (n:=0) Tryz.func84 rfl (λcx H=>by have h1:Lv cx (Afp (HV [.bool]) k):=lv H (c1 H Qs Ae) Aa Ab;have hlastmts_0:=lO H h1 (b:=lp Tryz.f126 0) (k:=k) (n:=0) (s:=Adm) (step:=L3) (λ_ _ _ (_,_,_,_,_,_,_)=>by kernel_rfl) Ag;have h4:Lv cx (Oy (HV [.bool]) k):=lv H (c1 H Qs Ae) Aa Ab;have hlastmts_2:=lO H h4 (b:=lp Tryz.f126 0) (k:=k) (n:=0) (s:=Afl) (step:=Lj) (λ_ _ _ (_,_,_,_,_,_,_)=>by kernel_rfl) Ag;have h3:Lv cx (Uh (HV [.bool]) k):=lv H (Al (cR H h4 Tryz.func126 rfl (n:=1) ((A5 Ag hlastmts_2))) Ae) Aa Ab;have h2:Lv cx (Ae7 (HV [.bool]) k):=lv H (Al (cR H h3 Tryz.func128 rfl (n:=0) (Ag)) Ae) Aa Ab;have hlastmts_1:=lO H h2 (b:=lp Tryz.f127 0) (k:=k) (n:=0) (s:=Aeb) (step:=Lw k) (λ_ _ _ (_,_,_,_,_,_,_)=>by kernel_rfl) Ag;have h6:Lv cx (Uo (HV [.bool]) k):=lv H (c1 H Qs Ae) Aa Ab;have h5:Lv cx (Ad9 (HV [.bool]) k):=lv H (Al (cR H h6 Tryz.func130 rfl (n:=0) (Ag)) Ae) Aa Ab;have hlastmts_3:=lO H h5 (b:=lp Tryz.f129 0) (k:=k) (n:=0) (s:=Ad3) (step:=L9) (λ_ _ _ (_,_,_,_,_)=>by kernel_rfl) Ag;have h0:Lv cx (Ani (HV [.bool]) k):=lv H (c1 H Qs (c1 H Bpb (c1 H Bm3 (c1 H Bpi (Al (cR H h1 Tryz.func126 rfl (n:=1) ((A5 Ag hlastmts_0))) (Al (cR H h2 Tryz.func127 rfl (n:=1) ((A5 Ag hlastmts_1))) (Al (cR H h5 Tryz.func129 rfl (n:=1) ((A5 Ag hlastmts_3))) Ae))))))) Aa Ab;exact⟨h0,Ag⟩) λ(_,_)=>by kernel_rfl
def A35(a b:Stm):Bool:=Ama a b
def Azt:FT [.sv .stmt,.sv .stmt] [.bool]:=λx=>some (A35 x.1 x.2)
theorem Z0{α:Type}[DecidableEq α](x y : α)(l m:List α):decide (x::l=y::m)=(decide (x=y)&&decide (l=m)):=by simp
theorem Amr{R:Type}{kx:Ex->Nk->Option R}{l m:List Xpr}{s t:Stm}{c:Bool->Option R}(hn:ln l.length)(hm:l.length=m.length)
  (h1:∀i,kx .ret (m,false,l,(l.length:Int),i,s,t)=c false) (h2:∀q i,kx (.exit 0) (m,q,l,(l.length:Int),i,s,t)=c true) (k:Nat) (hk:l.length<k):Ak (λrec=>L3 rec kx) k (m,false,l,(l.length:Int),0,s,t)=c (decide (l=m)):=by
 refine(Bu l.length (λi=>(m,false,l,(l.length:Int),(i:Int),s,t)) (λi=>c (decide (l.drop i=m.drop i))) (λi hi rec hr =>?_) (λrec =>?_) k 0 (Nat.zero_le _) (by omega)).trans (by rw[Zq1,Zq1])
 ·have hi2:i<m.length:=by omega
  simp only[L3,C6 hi,Ah,Ay hi,Ay hi2,chk,Aw (c :=.expr) hi,Aw (c :=.expr) hi2,As hi hn,hr,h1,Av hi,Av hi2,Z0,Pd,S2];cases decide (l[i]=m[i])<;>rfl
 ·simp only[L3,E6,Af,h2];rw[Zk1 (Zn1 _),Zk1 (by omega)];rfl
theorem Am3{R:Type}{kx:Ex->Oj->Option R}{l m:List Xpr}{s t:Stm}{c:Bool->Option R}(hn:ln l.length)(hm:l.length=m.length)
  (h1:∀i,kx .ret (m,false,l,(l.length:Int),i,s,t)=c false) (h2:∀q i,kx (.exit 0) (m,q,l,(l.length:Int),i,s,t)=c true) (k:Nat) (hk:l.length<k):Ak (λrec=>Lj rec kx) k (m,false,l,(l.length:Int),0,s,t)=c (decide (l=m)):=by
 refine(Bu l.length (λi=>(m,false,l,(l.length:Int),(i:Int),s,t)) (λi=>c (decide (l.drop i=m.drop i))) (λi hi rec hr =>?_) (λrec =>?_) k 0 (Nat.zero_le _) (by omega)).trans (by rw[Zq1,Zq1])
 ·have hi2:i<m.length:=by omega
  simp only[Lj,C6 hi,Ah,Ay hi,Ay hi2,chk,Aw (c :=.expr) hi,Aw (c :=.expr) hi2,As hi hn,hr,h1,Av hi,Av hi2,Z0,Pd,S2];cases decide (l[i]=m[i])<;>rfl
 ·simp only[Lj,E6,Af,h2];rw[Zk1 (Zn1 _),Zk1 (by omega)];rfl
theorem Am2{R:Type}{kx:Ex->Od->Option R}{l m:List (List Xpr)}{s t:Stm}{c:Bool->Option R}(hn:ln l.length)(hm:l.length=m.length)(hr0:∀x,x∈l->ln x.length)(k:Nat)(hkr:∀x,x∈l->List.length x<k)
  (h1:∀i,kx .ret (m,false,l,(l.length:Int),i,s,t)=c false) (h2:∀q i,kx (.exit 0) (m,q,l,(l.length:Int),i,s,t)=c true) (hk:l.length<k):Ak (λrec=>Lw k rec kx) k (m,false,l,(l.length:Int),0,s,t)=c (decide (l=m)):=by
 refine(Bu l.length (λi=>(m,false,l,(l.length:Int),(i:Int),s,t)) (λi=>c (decide (l.drop i=m.drop i))) (λi hi rec hr =>?_) (λrec =>?_) k 0 (Nat.zero_le _) (by omega)).trans (by rw[Zq1,Zq1])
 ·have hi2:i<m.length:=by omega
  simp only[Lw,C6 hi,Ah,Ay hi,Ay hi2,chk,Aw (c :=.exprs) hi,Aw (c :=.exprs) hi2,As hi hn,Av hi,Av hi2,Z0];by_cases hlen:l[i].length=m[i].length
  ·rw[Ze1 (show(l[i].length:Int)=(m[i].length:Int) by omega),Zt1,Af];rw[Am3 (c:=λb=>cond b (c (decide (l.drop (i+1)=m.drop (i+1)))) (c false)) (hr0 _ (List.getElem_mem hi)) hlen (λ_=>h1 _) (λ_ _=>hr) k (hkr _ (List.getElem_mem hi))];cases decide (l[i]=m[i])<;>rfl
  ·rw[Zd1 (show ¬(l[i].length:Int)=(m[i].length:Int) by omega),Zd1 (λh=>hlen (by rw[h])),h1];rfl
 ·simp only[Lw,E6,Af,h2];rw[Zk1 (Zn1 _),Zk1 (by omega)];rfl
theorem Am1{R:Type}{kx:Ex->Nr->Option R}{l m:List SetE}{c:Bool->Option R}(hn:ln l.length)(hm:l.length=m.length)
  (h1:∀i,kx .ret (m,false,l,(l.length:Int),i)=c false) (h2:∀q i,kx (.exit 0) (m,q,l,(l.length:Int),i)=c true) (k:Nat) (hk:l.length<k):Ak (λrec=>L9 rec kx) k (m,false,l,(l.length:Int),0)=c (decide (l=m)):=by
 refine(Bu l.length (λi=>(m,false,l,(l.length:Int),(i:Int))) (λi=>c (decide (l.drop i=m.drop i))) (λi hi rec hr =>?_) (λrec =>?_) k 0 (Nat.zero_le _) (by omega)).trans (by rw[Zq1,Zq1])
 ·have hi2:i<m.length:=by omega
  simp only[L9,C6 hi,Ah,Ay hi,Ay hi2,chk,Aw (c :=.set) hi,Aw (c :=.set) hi2,As hi hn,hr,h1,Av hi,Av hi2,Z0,Pd,<-Awn,Aun,Td];cases decide (l[i].name=m[i].name)<;>cases J4 l[i].e m[i].e<;>rfl
 ·simp only[L9,E6,Af,h2];rw[Zk1 (Zn1 _),Zk1 (by omega)];rfl
theorem Aur{α:Type}[DecidableEq α]{l m:List α}(h:¬l.length=m.length):decide (l=m)=false:=Zd1 λe=>h (by rw[e])
def Boj(s:Stm):Nat:=s.l.length+s.rows.length+s.sets.length+(s.rows.map List.length).sum
theorem A7l{l:List (List Xpr)}{x:List Xpr}(h:x∈l):x.length<=(l.map List.length).sum:=by
 induction l with
 |nil=>cases h
 |cons y l ih =>
  simp;rcases List.mem_cons.1 h with rfl|h
  ·omega
  ·have:=ih h;omega
theorem Bfv(k:Nat)(a b:Stm)(hb:BdStm a)(hk:Boj a<k):Qq k (a,b)=some (Ama a b):=by
 have hk2:=hk;simp[Boj] at hk2;simp -zeta only [Qq,Pd,S2,Td,Bmf,Bl2,Bn1];extract_lets j6 j9 j j1 j2;have h6:∀q,j6 q a b=some (q&&decide (a.sets=b.sets)):=λq=>by
  simp -zeta only [j6];cases q with
  |false=>rfl
  |true =>
   rw[Ah,Bool.true_and];by_cases hs:a.sets.length=b.sets.length
   ·rw[Ze1 (show(a.sets.length:Int)=(b.sets.length:Int) by omega),Zt1,Af];exact Am1 (c:=some) hb.sets.1 hs (λ_=>rfl) (λ_ _=>rfl) k (by omega)
   ·rw[Zd1 (show ¬(a.sets.length:Int)=(b.sets.length:Int) by omega),Aur hs];rfl
 have h9:∀p,j9 p=some (p&&(decide (a.cols=b.cols)&&decide (a.names=b.names)&&decide (a.order=b.order)&&decide (a.desc=b.desc)&&decide (a.l=b.l))&&decide (a.rows=b.rows)&&decide (a.sets=b.sets)):=λp=>by
  simp -zeta only [j9];extract_lets j8 j3 j4 j5;have h8:∀q,j8 q a b=some (p&&q&&decide (a.rows=b.rows)&&decide (a.sets=b.sets)):=λq=>by
   simp -zeta only [j8];extract_lets j7;have h7:∀q,j7 q=some (q&&decide (a.rows=b.rows)&&decide (a.sets=b.sets)):=λq=>by
    simp -zeta only [j7];cases q with
    |false=>exact(h6 false).trans rfl
    |true =>
     rw[Ah,Bool.true_and];by_cases hs:a.rows.length=b.rows.length
     ·rw[Ze1 (show(a.rows.length:Int)=(b.rows.length:Int) by omega),Zt1,Af];refine(Am2 (c:=λq=>j6 q a b) hb.rows.1 hs (λx hx=>(hb.rows.2 x hx).1) k (λx hx=>by have:=A7l hx;omega) (λ_=>rfl) (λ_ _=>rfl) (by omega)).trans (h6 _)
     ·rw[Zd1 (show ¬(a.rows.length:Int)=(b.rows.length:Int) by omega),Aur hs];exact(h6 false).trans rfl
   cases p with|false=>exact(h7 false).trans rfl|true=>exact(h7 q).trans (by rw[Bool.true_and])
  have h3:∀q,j3 q=some (p&&(q&&decide (a.l=b.l))&&decide (a.rows=b.rows)&&decide (a.sets=b.sets)):=λq=>by
   simp -zeta only [j3];cases q with
   |false=>exact h8 false
   |true =>
    rw[Ah,Bool.true_and];by_cases hs:a.l.length=b.l.length
    ·rw[Ze1 (show(a.l.length:Int)=(b.l.length:Int) by omega),Zt1,Af];exact(Amr (c:=λq=>j8 q a b) hb.l.1 hs (λ_=>rfl) (λ_ _=>rfl) k (by omega)).trans (h8 _)
    ·rw[Zd1 (show ¬(a.l.length:Int)=(b.l.length:Int) by omega),Aur hs];exact h8 false
  have h4:∀q,j4 q=some (p&&(q&&decide (a.desc=b.desc)&&decide (a.l=b.l))&&decide (a.rows=b.rows)&&decide (a.sets=b.sets)):=λq=>by simp -zeta only [j4];cases q with|false=>exact h3 false|true=>exact(h3 _).trans (by rw[Bool.true_and])
  have h5:∀q,j5 q=some (p&&(q&&decide (a.order=b.order)&&decide (a.desc=b.desc)&&decide (a.l=b.l))&&decide (a.rows=b.rows)&&decide (a.sets=b.sets)):=λq=>by simp -zeta only [j5];cases q with|false=>exact h4 false|true=>exact(h4 _).trans (by rw[Bool.true_and])
  cases decide (a.cols=b.cols) with|false=>exact h5 false|true=>exact(h5 _).trans (by simp)
 simp -zeta only [j2,j1,j,Ama];cases decide (a.kind=b.kind) with
 |false=>exact(h9 false).trans rfl
 |true =>
  cases decide (a.name=b.name) with
  |false=>exact(h9 false).trans rfl
  |true =>
   cases decide (a.on=b.on) with
   |false=>exact(h9 false).trans rfl
   |true =>
    cases decide (a.has=b.has) with
    |false=>exact(h9 false).trans rfl
    |true =>cases decide (a.most=b.most) with|false=>exact(h9 false).trans rfl|true=>exact(h9 _).trans (by simp)
theorem Bcu:FO 84 [.sv .stmt,.sv .stmt] [.bool] Azt :=.fin 0 A2m λ(a,b) r hb hx=>⟨Boj a+1,(Bfv (Boj a+1) a b hb.1 (by omega)).trans hx⟩
instance:DecidableEq Stm:=λa b=>decidable_of_iff (Ama a b=true) (Am6 a b)
theorem Ba0(a b:Stm):Ama a b=decide (a=b):=by rw[Bool.eq_iff_iff,Am6,Zg1]
def Bhc(R:Type):Px R:=pxO [] [] [] []
def Ww(x:HV [.int .i64]):Option (HV [.bool]):=match x with
 |n =>
 cond (decide (1<=n)) (
  some (decide (n<=100))) (
  some false)
theorem Bbk:FO 87 [.int .i64] [.bool] (Ww):=fR (px:=Bhc _) (n:=0) Tryz.func87 rfl (λ_ H=>⟨lv H Ae Aa Ab,Ag⟩) λ_=>by kernel_rfl
def Da(n:Int):Bool :=
 cond (decide (1<=n)) (
  (decide (n<=100))) (
  false)
theorem Bba(x:HV [.int .i64]):Ww x=some (Da x):=by
 first
  |exact rfl
  |simp only[Ww,Da,A0]
def Aao:FT [.int .i64] [.bool]:=λx=>some (Da x)
theorem Y7:FO 87 [.int .i64] [.bool] Aao :=.fin0 Bbk λx _ _ hx=>(Bba x).trans hx
def Aic:Sig:=⟨26,[(0,.sl .str false),(2,.bool),(5,.sl .str false),(6,.int .i64),(7,.int .i64)],[],[],0,0,0,[],[]⟩
abbrev Rk:=List Str×Bool×List Str×Int×Int
def S5{R:Type}(rec:Rk->Option R)(kx:Ex->Rk->Option R)(v:Rk):Option R:=match v with
 |(v,v1,v2,v3,v4) =>
 cond (decide (v4<v3)) (
  chk (inb v4 v2.length) (
  cond (!(Gh (at' .str v2 v4))) (
   kx .ret (v,false,v2,v3,v4)) (
   chk (upto 0 v4 v.length) (
   cond ((Ayp (v.take (v4:Int).toNat) (at' .str v2 v4))) (
    kx .ret (v,false,v2,v3,v4)) (
    rec (v,v1,v2,v3,(wr .i64 (v4+1)))))))) (
  kx (.exit 0) (v,v1,v2,v3,v4))
def Azk(R:Type)(k:Nat):Px R:=pxO [(83,cA Jz),(131,cA A1o)] [] [(2,Am k Aic (S5))] []
def Al1(k:Nat)(x:HV [.sl .str false]):Option (HV [.bool]):=match x with
 |l =>
 Ak (λrec=>S5 rec (λe vz=>match vz with|(v5,v6,_,_,_)=>match e with
  |.ret =>
  some v6
  |.exit 0 =>
  some (decide ((v5.length:Int)<=100))
  |_=>none)) k (l,false,l,(l.length:Int),0)
theorem Bdw(k:Nat):FO 88 [.sl .str false] [.bool] (Al1 k):=fR (px:=Azk _ k) (n:=1) Tryz.func88 rfl (λcx H=>by have h0:Lv cx (Azk (HV [.bool]) k):=lv H (c1 H Mn (c1 H A6o Ae)) Aa Ab;have hlaonce_0:=lO H h0 (b:=lp Tryz.f88 0) (k:=k) (n:=0) (s:=Aic) (step:=S5) (λ_ _ _ (_,_,_,_,_)=>by kernel_rfl) Ag;exact⟨h0,(A5 Ag hlaonce_0)⟩) λ_=>by kernel_rfl
def Aqs:List Str->List Str->Bool
 |_,[]=>true
 |seen,s::r=>Gh s && !seen.contains s&&Aqs (seen++[s]) r
def Dz(l:List Str):Bool:=Aqs [] l&&decide (l.length<=100)
def Yy:FT [.sl .str false] [.bool]:=λx=>some (Dz x)
theorem A1k{l:List Str}{i:Nat}(hi:i<l.length):l.take (i+1)=l.take i++[l[i]]:=by simp_all
theorem A0b{R:Type}{kx:Ex->Rk->Option R}{l:List Str}{c:Bool->Option R}(hn:ln l.length)(h1:∀i,kx .ret (l,false,l,(l.length:Int),i)=c false)(h2:∀q i,kx (.exit 0) (l,q,l,(l.length:Int),i)=c true)(k:Nat)(hk:l.length<k) :
  Ak (λrec=>S5 rec kx) k (l,false,l,(l.length:Int),0)=c (Aqs [] l):=by
 refine(Bu l.length (λi=>(l,false,l,(l.length:Int),(i:Int))) (λi=>c (Aqs (l.take i) (l.drop i))) (λi hi rec hr =>?_) (λrec =>?_) k 0 (Nat.zero_le _) (by omega)).trans (by rw[Zq1,List.take_zero])
 ·have hu:upto 0 (i:Int) l.length=true:=by simp[upto];omega
  simp only[S5,C6 hi,Ay hi,Aw (c :=.str) hi,As hi hn,hr,h1,Av hi,Aqs,hu,Int.toNat_natCast,A4w,A1k hi];cases Gh l[i]<;>cases (l.take i).contains l[i]<;>rfl
 ·simp only[S5,E6,h2];rw[Zk1 (Zn1 _)];rfl
theorem Aj1:FO 88 [.sl .str false] [.bool] Yy :=.fin 0 Bdw λl r hb hx=>⟨l.length+1,by simp only[Yy,Za1] at hx;rw[<-hx];simp only[Al1];refine(A0b (l:=l) (c:=λb=>cond b (some (decide ((l.length:Int)<=100))) (some false)) hb.1 (λ_=>rfl) (λ_ _=>rfl) (l.length+1) (by omega)).trans ?_;rw[show decide ((l.length:Int)<=100)=decide (l.length<=100) from Zy1.2 (by omega),Dz];cases Aqs [] l<;>rfl⟩
def Aff:Sig:=⟨19,[(0,.sl .expr false),(4,.int .i64),(7,.int .i64),(8,.int .i64)],[(1,.fn 133 [])],[],80,80,400,[],[]⟩
abbrev N2:=List Xpr×Int×Int×Int
def Mc{R:Type}(rec:N2->Option R)(kx:Ex->N2->Option R)(v:N2):Option R:=match v with
 |(v,v1,v2,v3) =>
 cond (decide (v3<v2)) (
  chk (inb v3 v.length) (
  cond (!(Cy (at' .expr v v3) 30)) (
   kx .ret (v,v3,v2,v3)) (
   rec (v,v1,v2,(wr .i64 (v3+1)))))) (
  kx (.exit 0) (v,v1,v2,v3))
def Oq(R:Type)(_k:Nat):Px R:=pxO [(134,cA P6)] [] [] []
noncomputable def T8(R:Type)(k:Nat):Px R:=pxO [(133,Aq 120 600 (Oq R k) Tryz.f133)] [] [(2,Am k Aff (Mc))] []
noncomputable def Aed(R:Type)(k:Nat):Px R:=pxO [(184,Aq 80 400 (T8 R k) Tryz.f184)] [] [] []
noncomputable def Aqw(R:Type)(k:Nat):Px R:=pxO [(132,Aq 40 200 (Aed R k) Tryz.f132)] [] [] []
def Afe(k:Nat)(x:HV [.sl .expr false]):Option (HV [.bool]):=match x with
 |l =>
 cond (decide ((l.length:Int)<=100)) (
  Ak (λrec=>Mc rec (λe vz=>match vz with|(_,v5,_,_)=>match e with
  |.ret =>some (!(decide (0<=v5)))
  |.exit 0 =>some true
  |_=>none)) k (l,0,(l.length:Int),0)) (
  some false)
theorem A2r(k:Nat):FO 89 [.sl .expr false] [.bool] (Afe k):=fR (px:=Aqw _ k) (n:=0) Tryz.func89 rfl (λcx H=>by have h3:Lv cx (Oq (HV [.bool]) k):=lv H (c1 H Tl Ae) Aa Ab;have h2:Lv cx (T8 (HV [.bool]) k):=lv H (Al (cR H h3 Tryz.func133 rfl (n:=0) (Ag)) Ae) Aa Ab;have hlaexprs_0:=lO H h2 (b:=lp Tryz.f184 0) (k:=k) (n:=0) (s:=Aff) (step:=Mc) (λ_ _ _ (_,_,_,_)=>by kernel_rfl) Ag;have h1:Lv cx (Aed (HV [.bool]) k):=lv H (Al (cR H h2 Tryz.func184 rfl (n:=1) ((A5 Ag hlaexprs_0))) Ae) Aa Ab;have h0:Lv cx (Aqw (HV [.bool]) k):=lv H (Al (cR H h1 Tryz.func132 rfl (n:=0) (Ag)) Ae) Aa Ab;exact⟨h0,Ag⟩) λ_=>by kernel_rfl
def Kw(l:List Xpr):Bool:=decide (l.length<=100)&&l.all λe=>Cy e 30
def Aan:FT [.sl .expr false] [.bool]:=λx=>some (Kw x)
theorem Aww{R:Type}{kx:Ex->N2->Option R}{l:List Xpr}{c:Bool->Option R}(hn:ln l.length)(h1:∀i:Nat,kx .ret (l,(i:Int),(l.length:Int),(i:Int))=c false)(h2:∀q i,kx (.exit 0) (l,q,(l.length:Int),i)=c true)(k:Nat)(hk:l.length<k) :
  Ak (λrec=>Mc rec kx) k (l,0,(l.length:Int),0)=c (l.all λe=>Cy e 30):=by
 refine(Bu l.length (λi=>(l,(0:Int),(l.length:Int),(i:Int))) (λi=>c ((l.drop i).all λe=>Cy e 30)) (λi hi rec hr =>?_) (λrec =>?_) k 0 (Nat.zero_le _) (by omega)).trans (by rw[Zq1])
 ·simp only[Mc,C6 hi,Ay hi,Aw (c :=.expr) hi,As hi hn,hr,h1,Av hi,Zv1];cases Cy l[i] 30<;>rfl
 ·simp only[Mc,E6,h2];rw[Zk1 (Zn1 _)];rfl
theorem Aps:FO 89 [.sl .expr false] [.bool] Aan :=.fin 0 A2r λl r hb hx=>⟨l.length+1,by
 simp only[Aan,Za1] at hx;rw[<-hx];simp only[Afe,Kw];rw[show decide ((l.length:Int)<=100)=decide (l.length<=100) from Zy1.2 (by omega)];cases decide (l.length<=100) with
 |false=>rfl
 |true =>rw[Ah,Bool.true_and];exact Aww (l:=l) (c:=some) hb.1 (λi=>by simp) (λ_ _=>rfl) (l.length+1) (by omega)⟩
def Alu:Sig:=⟨19,[(0,.sl .exprs false),(4,.int .i64),(7,.int .i64),(8,.int .i64)],[(1,.fn 136 [])],[],80,80,400,[],[]⟩
abbrev Rw:=List (List Xpr)×Int×Int×Int
def Sy{R:Type}(rec:Rw->Option R)(kx:Ex->Rw->Option R)(v:Rw):Option R:=match v with
 |(v,v1,v2,v3) =>
 cond (decide (v3<v2)) (
  chk (inb v3 v.length) (
  cond (decide (((at' .exprs v v3).length:Int)=0)) (
   kx .ret (v,v3,v2,v3)) (
   cond (!(Kw (at' .exprs v v3))) (
   kx .ret (v,v3,v2,v3)) (
   rec (v,v1,v2,(wr .i64 (v3+1))))))) (
  kx (.exit 0) (v,v1,v2,v3))
def Qp(R:Type)(_k:Nat):Px R:=pxO [(89,cA Aan)] [] [] []
noncomputable def Aah(R:Type)(k:Nat):Px R:=pxO [(136,Aq 120 600 (Qp R k) Tryz.f136)] [] [(2,Am k Alu (Sy))] []
noncomputable def Al3(R:Type)(k:Nat):Px R:=pxO [(187,Aq 80 400 (Aah R k) Tryz.f187)] [] [] []
noncomputable def Ay9(R:Type)(k:Nat):Px R:=pxO [(87,cA Aao),(135,Aq 40 200 (Al3 R k) Tryz.f135)] [] [] []
def Agw(k:Nat)(x:HV [.sl .exprs false]):Option (HV [.bool]):=match x with
 |l =>
 cond ((Da (l.length:Int))) (
  Ak (λrec=>Sy rec (λe vz=>match vz with|(_,v5,_,_)=>match e with
  |.ret =>some (!(decide (0<=v5)))
  |.exit 0 =>some true
  |_=>none)) k (l,0,(l.length:Int),0)) (
  some false)
theorem Bav(k:Nat):FO 90 [.sl .exprs false] [.bool] (Agw k):=fR (px:=Ay9 _ k) (n:=0) Tryz.func90 rfl (λcx H=>by have h3:Lv cx (Qp (HV [.bool]) k):=lv H (c1 H Aps Ae) Aa Ab;have h2:Lv cx (Aah (HV [.bool]) k):=lv H (Al (cR H h3 Tryz.func136 rfl (n:=0) (Ag)) Ae) Aa Ab;have hlarows_0:=lO H h2 (b:=lp Tryz.f187 0) (k:=k) (n:=0) (s:=Alu) (step:=Sy) (λ_ _ _ (_,_,_,_)=>by kernel_rfl) Ag;have h1:Lv cx (Al3 (HV [.bool]) k):=lv H (Al (cR H h2 Tryz.func187 rfl (n:=1) ((A5 Ag hlarows_0))) Ae) Aa Ab;have h0:Lv cx (Ay9 (HV [.bool]) k):=lv H (c1 H Y7 (Al (cR H h1 Tryz.func135 rfl (n:=0) (Ag)) Ae)) Aa Ab;exact⟨h0,Ag⟩) λ_=>by kernel_rfl
def A8l(r:List Xpr):Bool := !decide (r.length=0)&&Kw r
def Avi(l:List (List Xpr)):Bool:=Da (l.length:Int)&&l.all A8l
def Atl:FT [.sl .exprs false] [.bool]:=λx=>some (Avi x)
theorem A0y{R:Type}{kx:Ex->Rw->Option R}{l:List (List Xpr)}{c:Bool->Option R}(hn:ln l.length)(h1:∀i:Nat,kx .ret (l,(i:Int),(l.length:Int),(i:Int))=c false)(h2:∀q i,kx (.exit 0) (l,q,(l.length:Int),i)=c true)(k:Nat)(hk:l.length<k) :
  Ak (λrec=>Sy rec kx) k (l,0,(l.length:Int),0)=c (l.all A8l):=by
 refine(Bu l.length (λi=>(l,(0:Int),(l.length:Int),(i:Int))) (λi=>c ((l.drop i).all A8l)) (λi hi rec hr =>?_) (λrec =>?_) k 0 (Nat.zero_le _) (by omega)).trans (by rw[Zq1])
 ·simp only[Sy,C6 hi,Ay hi,chk,Aw (c :=.exprs) hi,As hi hn,hr,h1,Av hi,Zv1,A8l];rw[show decide ((l[i].length:Int)=0)=decide (l[i].length=0) from Zy1.2 (by omega)];cases decide (l[i].length=0)<;>cases Kw l[i]<;>rfl
 ·simp only[Sy,E6,h2];rw[Zk1 (Zn1 _)];rfl
theorem Bgx:FO 90 [.sl .exprs false] [.bool] Atl :=.fin 0 Bav λl r hb hx=>⟨l.length+1,by
 simp only[Atl,Za1] at hx;rw[<-hx];simp only[Agw,Avi];cases Da (l.length:Int) with
 |false=>rfl
 |true =>rw[Ah,Bool.true_and];exact A0y (l:=l) (c:=some) hb.1 (λi=>by simp) (λ_ _=>rfl) (l.length+1) (by omega)⟩
def Blz(R:Type):Px R:=pxO [(122,cA R7)] [] [] []
def Ve(x:HV [.sv .expr]):Option (HV [.bool]):=match x with
 |e =>
 some (Pd e (Xpr.mk 0 ⟨0,0,[]⟩ [] []))
theorem Bcx:FO 137 [.sv .expr] [.bool] (Ve):=fR (px:=Blz _) (n:=0) Tryz.func137 rfl (λ_ H=>⟨lv H (c1 H Qs Ae) Aa Ab,Ag⟩) λ_=>by kernel_rfl
def Ay6(e:Xpr):Bool :=(Pd e (Xpr.mk 0 ⟨0,0,[]⟩ [] []))
theorem Bdu(x:HV [.sv .expr]):Ve x=some (Ay6 x):=by
 first
  |exact rfl
  |simp only[Ve,Ay6,A0]
def A7e:FT [.sv .expr] [.bool]:=λx=>some (Ay6 x)
theorem Bl1:FO 137 [.sv .expr] [.bool] A7e :=.fin0 Bcx λx _ _ hx=>(Bdu x).trans hx
def Bc6(R:Type):Px R:=pxO [(137,cA A7e),(134,cA P6)] [] [] []
def P7(x:HV [.sv .stmt]):Option (HV [.bool]):=match x with
 |s =>
 cond (!s.has) (
  some (Ay6 (O0 s.whr))) (
  some (Cy (O0 s.whr) 30))
theorem A01:FO 92 [.sv .stmt] [.bool] (P7):=fR (px:=Bc6 _) (n:=0) Tryz.func92 rfl (λ_ H=>⟨lv H (c1 H Bl1 (c1 H Tl Ae)) Aa Ab,Ag⟩) λ_=>by kernel_rfl
def Ky(s:Stm):Bool :=
 cond (!s.has) (
  (Ay6 (O0 s.whr))) (
  (Cy (O0 s.whr) 30))
theorem A11(x:HV [.sv .stmt]):P7 x=some (Ky x):=by
 first
  |exact rfl
  |simp only[P7,Ky,A0]
def Ay8:FT [.sv .stmt] [.bool]:=λx=>some (Ky x)
theorem Bb0:FO 92 [.sv .stmt] [.bool] Ay8 :=.fin0 A01 λx _ _ hx=>(A11 x).trans hx
def Agz:Sig:=⟨44,[(0,.sl .col false),(2,.bool),(3,.sl .str true),(6,.sl .col false),(7,.int .i64),(8,.int .i64)],[],[],0,0,0,[],[]⟩
abbrev R8:=List Col×Bool×List Str×List Col×Int×Int
def Rm{R:Type}(rec:R8->Option R)(kx:Ex->R8->Option R)(v:R8):Option R:=match v with
 |(v,v1,v2,v3,v4,v5) =>
 cond (decide (v5<v4)) (
  chk (inb v5 v3.length) (
  let j:=λ(p:Bool) =>
   cond (p) (
   kx .ret (v,false,v2,v3,v4,v5)) (
   cond (!decide (((at' .col v3 v5).ref)=[])) (
    cond (!(Gh ((at' .col v3 v5).ref))) (
    kx .ret (v,false,v2,v3,v4,v5)) (
    chk (decide (v2.length+1<=Ai)) (
     rec (v,v1,(v2++[((at' .col v3 v5).name)]),v3,v4,(wr .i64 (v5+1)))))) (
    chk (decide (v2.length+1<=Ai)) (
    rec (v,v1,(v2++[((at' .col v3 v5).name)]),v3,v4,(wr .i64 (v5+1))))))
  cond (decide ((at' .col v3 v5).kind<2)) (
   j true) (
   j (decide (5<(at' .col v3 v5).kind))))) (
  kx (.exit 0) (v,v1,v2,v3,v4,v5))
def Avp(R:Type)(k:Nat):Px R:=pxO [(83,cA Jz),(87,cA Aao),(88,cA Yy)] [] [(3,Am k Agz (Rm))] []
def Akz(k:Nat)(x:HV [.sl .col false]):Option (HV [.bool]):=match x with
 |l =>
 Ak (λrec=>Rm rec (λe vz=>match vz with|(v6,v7,v8,_,_,_)=>match e with
  |.ret =>
  some v7
  |.exit 0 =>
  cond ((Da (v6.length:Int))) (
   some (Dz v8)) (
   some false)
  |_=>none)) k (l,false,[],l,(l.length:Int),0)
theorem A81(k:Nat):FO 86 [.sl .col false] [.bool] (Akz k):=fR (px:=Avp _ k) (n:=1) Tryz.func86 rfl (λcx H=>by have h0:Lv cx (Avp (HV [.bool]) k):=lv H (c1 H Mn (c1 H Y7 (c1 H Aj1 Ae))) Aa Ab;have hlacols_0:=lO H h0 (b:=lp Tryz.f86 0) (k:=k) (n:=0) (s:=Agz) (step:=Rm) (λ_ _ _ (_,_,_,_,_,_)=>by kernel_rfl) Ag;exact⟨h0,(A5 Ag hlacols_0)⟩) λ_=>by kernel_rfl
def Ah3(c:Col):Bool:=decide (2<=c.kind)&&decide (c.kind<=5)&&(decide (c.ref=[])||Gh c.ref)
def A5q(l:List Col):Option Bool:=if l.length<=1000000 then some (l.all Ah3&&Da (l.length:Int)&&Dz (l.map (·.name))) else none
def Auc:FT [.sl .col false] [.bool]:=λx=>A5q x
theorem A2z{R:Type}{kx:Ex->R8->Option R}{l:List Col}{c:Bool->Option R}(hn:l.length<=1000000)(h1:∀o i,kx .ret (l,false,o,l,(l.length:Int),i)=c false)(h2:∀q o i,kx (.exit 0) (l,q,o,l,(l.length:Int),i)=cond (Da (l.length:Int)) (c (Dz o)) (c false))(k:Nat)(hk:l.length<k) :
  Ak (λrec=>Rm rec kx) k (l,false,[],l,(l.length:Int),0)=c (l.all Ah3&&Da (l.length:Int)&&Dz (l.map (·.name))):=by
 have hl:ln l.length:=by simp[ln];omega
 refine(Bu l.length (λi=>(l,false,(l.take i).map (·.name),l,(l.length:Int),(i:Int))) (λi=>c ((l.drop i).all Ah3&&Da (l.length:Int)&&Dz (l.map (·.name)))) (λi hi rec hr =>?_) (λrec =>?_) k 0 (Nat.zero_le _) (by omega)).trans (by rw[Zq1])
 ·have ht:(l.take (i+1)).map (·.name)=(l.take i).map (·.name)++[l[i].name]:=by rw[List.take_add_one,Zo1 hi,List.map_append];rfl
  have hlen:((l.take i).map (·.name)).length+1<=Ai:=by simp[List.length_map,List.length_take,Ai];omega
  rw[ht] at hr;simp only[Rm,C6 hi,Ah,Ay hi,chk,Aw (c :=.col) hi,As hi hl,hr,h1,Av hi,Zv1,Ah3,Ze1 hlen];by_cases ha:l[i].kind<2
  ·grind
  ·grind
 ·simp only[Rm,E6,Af,h2];rw[Zk1 (Zn1 _),List.take_length];cases Da (l.length:Int)<;>rfl
theorem Bek:FO 86 [.sl .col false] [.bool] Auc :=.fin 0 A81 λl r hb hx=>⟨l.length+1,by
 simp only[Auc,A5q] at hx;split at hx
 ·rename_i h;rw[<-hx];simp only[Akz];refine A2z (l:=l) (c:=some) h (λ_ _=>rfl) (λ_ _ _ =>?_) (l.length+1) (by omega);cases Da (l.length:Int)<;>rfl
 ·cases hx⟩
def Ahy:Sig:=⟨29,[(0,.sl .set false),(2,.bool),(3,.sl .str true),(6,.sl .set false),(7,.int .i64),(8,.int .i64)],[],[],0,0,0,[],[]⟩
abbrev Sl:=List SetE×Bool×List Str×List SetE×Int×Int
def R5{R:Type}(rec:Sl->Option R)(kx:Ex->Sl->Option R)(v:Sl):Option R:=match v with
 |(v,v1,v2,v3,v4,v5) =>
 cond (decide (v5<v4)) (
  chk (inb v5 v3.length) (
  cond (!(Cy (O0 ((at' .set v3 v5).e)) 30)) (
   kx .ret (v,false,v2,v3,v4,v5)) (
   chk (decide (v2.length+1<=Ai)) (
   rec (v,v1,(v2++[((at' .set v3 v5).name)]),v3,v4,(wr .i64 (v5+1))))))) (
  kx (.exit 0) (v,v1,v2,v3,v4,v5))
def Avn(R:Type)(k:Nat):Px R:=pxO [(134,cA P6),(87,cA Aao),(88,cA Yy)] [] [(3,Am k Ahy (R5))] []
def Aiq(k:Nat)(x:HV [.sl .set false]):Option (HV [.bool]):=match x with
 |l =>
 Ak (λrec=>R5 rec (λe vz=>match vz with|(v6,v7,v8,_,_,_)=>match e with
  |.ret =>
  some v7
  |.exit 0 =>
  cond ((Da (v6.length:Int))) (
   some (Dz v8)) (
   some false)
  |_=>none)) k (l,false,[],l,(l.length:Int),0)
theorem Bae(k:Nat):FO 91 [.sl .set false] [.bool] (Aiq k):=fR (px:=Avn _ k) (n:=1) Tryz.func91 rfl (λcx H=>by have h0:Lv cx (Avn (HV [.bool]) k):=lv H (c1 H Tl (c1 H Y7 (c1 H Aj1 Ae))) Aa Ab;have hlasets_0:=lO H h0 (b:=lp Tryz.f91 0) (k:=k) (n:=0) (s:=Ahy) (step:=R5) (λ_ _ _ (_,_,_,_,_,_)=>by kernel_rfl) Ag;exact⟨h0,(A5 Ag hlasets_0)⟩) λ_=>by kernel_rfl
def A7o(l:List SetE):Option Bool:=if l.length<=1000000 then some (l.all (λx=>Cy x.e 30)&&Da (l.length:Int)&&Dz (l.map (·.name))) else none
def At8:FT [.sl .set false] [.bool]:=λx=>A7o x
theorem A3i{R:Type}{kx:Ex->Sl->Option R}{l:List SetE}{c:Bool->Option R}(hn:l.length<=1000000)(h1:∀o i,kx .ret (l,false,o,l,(l.length:Int),i)=c false)(h2:∀q o i,kx (.exit 0) (l,q,o,l,(l.length:Int),i)=cond (Da (l.length:Int)) (c (Dz o)) (c false))(k:Nat)(hk:l.length<k) :
  Ak (λrec=>R5 rec kx) k (l,false,[],l,(l.length:Int),0)=c (l.all (λx=>Cy x.e 30)&&Da (l.length:Int)&&Dz (l.map (·.name))):=by
 have hl:ln l.length:=by simp[ln];omega
 refine(Bu l.length (λi=>(l,false,(l.take i).map (·.name),l,(l.length:Int),(i:Int))) (λi=>c ((l.drop i).all (λx=>Cy x.e 30)&&Da (l.length:Int)&&Dz (l.map (·.name)))) (λi hi rec hr =>?_) (λrec =>?_) k 0 (Nat.zero_le _) (by omega)).trans (by rw[Zq1])
 ·have ht:(l.take (i+1)).map (·.name)=(l.take i).map (·.name)++[l[i].name]:=by rw[List.take_add_one,Zo1 hi,List.map_append];rfl
  have hlen:((l.take i).map (·.name)).length+1<=Ai:=by simp[List.length_map,List.length_take,Ai];omega
  rw[ht] at hr;simp only[R5,C6 hi,Ah,Ay hi,chk,Aw (c :=.set) hi,As hi hl,hr,h1,Av hi,Zv1,Ze1 hlen,Td];cases Cy l[i].e 30<;>rfl
 ·simp only[R5,E6,Af,h2];rw[Zk1 (Zn1 _),List.take_length];cases Da (l.length:Int)<;>rfl
theorem Bjc:FO 91 [.sl .set false] [.bool] At8 :=.fin 0 Bae λl r hb hx=>⟨l.length+1,by
 simp only[At8,A7o] at hx;split at hx
 ·rename_i h;rw[<-hx];simp only[Aiq];refine A3i (l:=l) (c:=some) h (λ_ _=>rfl) (λ_ _ _ =>?_) (l.length+1) (by omega);cases Da (l.length:Int)<;>rfl
 ·cases hx⟩
def noX:Xpr :=.mk 0 ⟨0,0,[]⟩ [] []
def noS:Stm:=⟨0,[],[],[],[],[],[],[],false,noX,[],[],0⟩
def Bjo(R:Type):Px R:=pxO [] [] [] []
def Ahn(x:HV [.sv .stmt]):Option (HV [.sv .stmt]):=match x with
 |s =>
 cond (decide (s.kind=1)) (
  some (Stm.mk 0 [] s.on [] [] [] s.rows s.sets s.has (O0 s.whr) s.order s.desc s.most)) (
  cond (decide (s.kind=3)) (
  some (Stm.mk 0 [] [] s.cols [] s.l s.rows s.sets s.has (O0 s.whr) s.order s.desc s.most)) (
  cond (decide (s.kind=5)) (
   some (Stm.mk 0 [] s.on s.cols s.names s.l [] s.sets s.has (O0 s.whr) s.order s.desc s.most)) (
   cond (decide (s.kind=6)) (
   some (Stm.mk 0 [] s.on s.cols s.names s.l s.rows [] false (Xpr.mk 0 ⟨0,0,[]⟩ [] []) s.order s.desc s.most)) (
   cond (decide (s.kind=7)) (
    some (Stm.mk 0 [] s.on s.cols s.names s.l s.rows s.sets false (Xpr.mk 0 ⟨0,0,[]⟩ [] []) s.order s.desc s.most)) (
    cond (decide (s.kind=8)) (
    some (Stm.mk 0 [] s.on s.cols s.names [] s.rows s.sets false (Xpr.mk 0 ⟨0,0,[]⟩ [] []) [] [] 0)) (
    some (Stm.mk 0 [] s.on s.cols s.names s.l s.rows s.sets s.has (O0 s.whr) s.order s.desc s.most)))))))
theorem Bb1:FO 85 [.sv .stmt] [.sv .stmt] (Ahn):=fR (px:=Bjo _) (n:=0) Tryz.func85 rfl (λ_ H=>⟨lv H Ae Aa Ab,Ag⟩) λ_=>by kernel_rfl
def Ahs(s:Stm):Stm :=
 if s.kind=1 then { s with kind:=0,name:=[],cols:=[],names:=[],l:=[] }
 else if s.kind=3 then { s with kind:=0,name:=[],on:=[],names:=[] }
 else if s.kind=5 then { s with kind:=0,name:=[],rows:=[] }
 else if s.kind=6 then { s with kind:=0,name:=[],sets:=[],has:=false,whr:=noX }
 else if s.kind=7 then { s with kind:=0,name:=[],has:=false,whr:=noX }
 else if s.kind=8 then { s with kind:=0,name:=[],l:=[],has:=false,whr:=noX,order:=[],desc:=[],most:=0 }
 else { s with kind:=0,name:=[] }
def Auz:FT [.sv .stmt] [.sv .stmt]:=λx=>some (Ahs x)
theorem Biz:FO 85 [.sv .stmt] [.sv .stmt] Auz :=.fin0 Bb1 λs r hb hx=>by
 simp only[Auz,Za1] at hx;rw[<-hx];simp only[Ahn,Ahs,Td,Bool.cond_decide];split; · rfl
 split; · rfl
 split; · rfl
 split; · rfl
 split; · rfl
 split<;>rfl
def Bc1(R:Type):Px R:=pxO [(83,cA Jz),(85,cA Auz),(84,cA Azt),(86,cA Auc),(87,cA Aao),(88,cA Yy),(89,cA Aan),(90,cA Atl),(91,cA At8),(92,cA Ay8)] [] [] []
def Afb(x:HV [.sv .stmt]):Option (HV [.int .i64]):=match x with
 |s =>
 let j7:=λ(p1:Bool) =>
  cond (decide (s.kind=1)) (
  let j1:=λ(p2:Bool) =>
   let j:=λ(p3:Bool) =>
   cond (p3) (
    cond ((Dz s.names)) (
    cond (!(Kw s.l)) (
     some 2) (
     some 0)) (
    some 2)) (
    some 2)
   cond (p2) (
   j (Da (s.names.length:Int))) (
   j false)
  cond (p1) (
   (A5q s.cols).bind λx =>
   j1 x) (
   j1 false)) (
  cond (decide (s.kind=3)) (
   let j2:=λ(p7:Bool) =>
   cond (p7) (
    cond ((Da (s.names.length:Int))) (
    cond (!(Dz s.names)) (
     some 2) (
     some 0)) (
    some 2)) (
    some 2)
   cond (p1) (
   j2 (Gh s.on)) (
   j2 false)) (
   let j6:=λ(a:Bool) =>
   cond (a) (
    cond (!p1) (
    some 2) (
    some 0)) (
    cond (decide (s.kind=5)) (
    cond (p1) (
     cond (!(Avi s.rows)) (
     some 2) (
     some 0)) (
     some 2)) (
    cond (decide (s.kind=6)) (
     cond (p1) (
     (A7o s.sets).bind λx1 =>
      cond (x1) (
      cond (!(Ky s)) (
       some 2) (
       some 0)) (
      some 2)) (
     some 2)) (
     cond (decide (s.kind=7)) (
     cond (p1) (
      cond (!(Ky s)) (
      some 2) (
      some 0)) (
      some 2)) (
     cond (decide (s.kind=8)) (
      let j5:=λ(b:Bool) =>
      let j4:=λ(c:Bool) =>
       let j3:=λ(d:Bool) =>
       cond (d) (
        cond (decide ((s.desc.length:Int)=(s.order.length:Int))) (
        cond (!(decide ((-1)<=s.most))) (
         some 2) (
         some 0)) (
        some 2)) (
        some 2)
       cond (c) (
       j3 (Dz s.order)) (
       j3 false)
      cond (b) (
       j4 (Ky s)) (
       j4 false)
      cond (p1) (
      j5 (Kw s.l)) (
      j5 false)) (
      some 2)))))
   cond (decide (s.kind=2)) (
   j6 (decide (s.kind=2))) (
   j6 (decide (s.kind=4)))))
 cond ((Gh s.name)) (
  j7 (A35 (Ahs s) (Stm.mk 0 [] [] [] [] [] [] [] false (Xpr.mk 0 ⟨0,0,[]⟩ [] []) [] [] 0))) (
  j7 false)
theorem A2g:FO 57 [.sv .stmt] [.int .i64] (Afb):=fR (px:=Bc1 _) (n:=0) Tryz.func57 rfl (λ_ H=>⟨lv H (c1 H Mn (c1 H Biz (c1 H Bcu (c1 H Bek (c1 H Y7 (c1 H Aj1 (c1 H Aps (c1 H Bgx (c1 H Bjc (c1 H Bb0 Ae)))))))))) Aa Ab,Ag⟩) λ_=>by kernel_rfl
def H1(s:Stm):Bool:=Gh s.name&&decide (Ahs s=noS)&&(
 if s.kind=1 then s.cols.all Ah3&&Da (s.cols.length:Int)&&Dz (s.cols.map (·.name))&&Da (s.names.length:Int)&&Dz s.names&&Kw s.l
 else if s.kind=3 then Gh s.on&&Da (s.names.length:Int)&&Dz s.names
 else if s.kind=2\/s.kind=4 then true
 else if s.kind=5 then Avi s.rows
 else if s.kind=6 then s.sets.all (λx=>Cy x.e 30)&&Da (s.sets.length:Int)&&Dz (s.sets.map (·.name))&&Ky s
 else if s.kind=7 then Ky s
 else if s.kind=8 then Kw s.l&&Ky s&&Dz s.order&&decide (s.desc.length=s.order.length)&&decide (-1<=s.most)
 else false)
def I9(s:Stm):Option Int:=if s.cols.length<=1000000/\s.sets.length<=1000000 then some (cond (H1 s) 0 2) else none
def I5:FT [.sv .stmt] [.int .i64]:=λx=>I9 x
theorem Lb:FO 57 [.sv .stmt] [.int .i64] I5 :=.fin0 A2g λs r hb hx=>by
 simp only[I5,I9] at hx;split at hx
 case isFalse=>cases hx
 rename_i h;rw[<-hx];have e1:A5q s.cols=some (s.cols.all Ah3&&Da (s.cols.length:Int)&&Dz (s.cols.map (·.name))):=if_pos h.1;have e2:A7o s.sets=some (s.sets.all (λx=>Cy x.e 30)&&Da (s.sets.length:Int)&&Dz (s.sets.map (·.name))):=if_pos h.2;have e3:A35 (Ahs s) (Stm.mk 0 [] [] [] [] [] [] [] false (Xpr.mk 0 ⟨0,0,[]⟩ [] []) [] [] 0)=decide (Ahs s=noS):=Ba0 _ _;have e4:decide ((s.desc.length:Int)=(s.order.length:Int))=decide (s.desc.length=s.order.length):=Zy1.2 (by omega);simp only[Afb,H1,e1,e2,e3,e4,Zc1];generalize Gh s.name=A;generalize decide (Ahs s=noS)=B;generalize (s.cols.all Ah3&&Da (s.cols.length:Int)&&Dz (s.cols.map (·.name)))=C;generalize Da (s.names.length:Int)=D;generalize Dz s.names=E;generalize Kw s.l=F;generalize Gh s.on=G;generalize Avi s.rows=H;generalize (s.sets.all (λx=>Cy x.e 30)&&Da (s.sets.length:Int)&&Dz (s.sets.map (·.name)))=I;generalize Ky s=J;generalize Dz s.order=K;generalize decide (s.desc.length=s.order.length)=L;generalize decide (-1<=s.most)=M;by_cases h1:s.kind=1
 ·rw[Ze1 h1,if_pos h1];cases A<;>cases B<;>cases C<;>cases D<;>cases E<;>cases F<;>rfl
 rw[Zd1 h1,if_neg h1];by_cases h3:s.kind=3
 ·rw[Ze1 h3,if_pos h3];cases A<;>cases B<;>cases G<;>cases D<;>cases E<;>rfl
 rw[Zd1 h3,if_neg h3];by_cases h24:s.kind=2\/s.kind=4
 ·rw[if_pos h24];rcases h24 with h2|h2
  ·rw[Ze1 h2];cases A<;>cases B<;>rfl
  ·rw[Ze1 h2,Zd1 (show ¬s.kind=2 by omega)];cases A<;>cases B<;>rfl
 rw[if_neg h24,Zd1 (show ¬s.kind=2 by omega),Zd1 (show ¬s.kind=4 by omega)];by_cases h5:s.kind=5
 ·rw[Ze1 h5,if_pos h5];cases A<;>cases B<;>cases H<;>rfl
 rw[Zd1 h5,if_neg h5];by_cases h6:s.kind=6
 ·rw[Ze1 h6,if_pos h6];cases A<;>cases B<;>cases I<;>cases J<;>rfl
 rw[Zd1 h6,if_neg h6];by_cases h7:s.kind=7
 ·rw[Ze1 h7,if_pos h7];cases A<;>cases B<;>cases J<;>rfl
 rw[Zd1 h7,if_neg h7];by_cases h8:s.kind=8
 ·rw[Ze1 h8,if_pos h8];cases A<;>cases B<;>cases F<;>cases J<;>cases K<;>cases L<;>cases M<;>rfl
 rw[Zd1 h8,if_neg h8];cases A<;>cases B<;>rfl
def Pu:Sig:=⟨26,[(10,.int .i64),(11,.int .i64)],[(1,.ptr 0 0),(2,.ptr 1 0)],[(0,.oc [.int .i64,.int .i64,.int .i64,.str,.str] 2 .expr),(1,.one (.sv .expr)),(2,.one (.dn .expr))],3,0,0,[],[]⟩
abbrev Fl:=Int×Int×Int×Int×Int×Str×Str×Int×Int×Xpr×List Xpr
def I0{R:Type}(rf:FT [.sv .expr] [.sv .expr])(rec:Fl->Option R)(kx:Ex->Fl->Option R)(v:Fl):Option R:=match v with
 |(v,v1,w,w1,w2,w3,w4,w5,w6,w7,w8) =>
 cond (decide (v1<v)) (
  chk (inO v1 w6) (
  chk (inb (w5+v1) w8.length) (
   (rf (at' .expr w8 (w5+v1))).bind λx =>
   chk (inO v1 w6) (
    chk (inb (w5+v1) w8.length) (
    rec (v,(wr .i64 (v1+1)),w,w1,w2,w3,w4,w5,w6,w7,(w8.set ((w5+v1):Int).toNat x))))))) (
  kx (.exit 0) (v,v1,w,w1,w2,w3,w4,w5,w6,w7,w8))
noncomputable def Akt(R:Type)(_k:Nat)(rf:FT [.sv .expr] [.sv .expr]):Px R:=pxO [(239,Vf .expr)] [(192,qA rf)] [] []
noncomputable def To(R:Type)(k:Nat)(rf:FT [.sv .expr] [.sv .expr]):Px R:=pxO [(239,Vf .expr)] [(192,qA rf)] [(3,As2 (Akt R k rf) (lp Tryz.f192 0) k Pu (I0 rf))] []
theorem Axu(R:Type)(k:Nat)(rf:FT [.sv .expr] [.sv .expr]):∀(fr:List Fr) (rec:Fl->Option R) (kx:Ex->Fl->Option R) (v:Fl),Ot (To R k rf) Pu (lp Tryz.f192 0) fr rec kx v=I0 rf rec kx v
 |fr,rec,kx,(v,v1,w,w1,w2,w3,w4,w5,w6,w7,w8)=>by kernel_rfl
def Hm(k:Nat)(rf:FT [.sv .expr] [.sv .expr])(x:HV [.sv .expr]):Option (HV [.sv .expr]):=match x with
 |e =>
 chk (decide (e.l.length<=1000000)) (
  cond (List.isEmpty e.l) (
  some (Xpr.mk e.kind ⟨e.v.kind,e.v.n,e.v.s⟩ e.name [])) (
  Ak (λrec=>I0 rf rec (λe vz=>match vz with|(_,_,v4,v5,v6,v7,v8,v9,a,_,b)=>match e with
   |.exit 0 =>
   chk (decide ((0:Int)<=v9)&&decide ((0:Int)<=a)&&decide ((v9+a)<=(b.length:Int))) (
    some (Xpr.mk v4 ⟨v5,v6,v7⟩ v8 (cut b v9 (v9+a))))
   |_=>none)) k ((e.l.length:Int),0,e.kind,e.v.kind,e.v.n,e.v.s,e.name,0,(e.l.length:Int),(Xpr.mk 0 ⟨0,0,[]⟩ [] []),e.l)))
theorem A3q(k:Nat)(rf:FT [.sv .expr] [.sv .expr])(hrf:FO 192 [.sv .expr] [.sv .expr] rf):FO 192 [.sv .expr] [.sv .expr] (Hm k rf):=fR (px:=To _ k rf) (n:=1) Tryz.func192 rfl (λcx H=>by have h0:Lv cx (To (HV [.sv .expr]) k rf):=lv H (Al (cCl H Afn Aad) Ae) (q1 H hrf Aa) Ab;have h00:Lv cx (Akt (HV [.sv .expr]) k rf):=lv H (Al (cCl H Afn Aad) Ae) (q1 H hrf Aa) Ab;have hlcopied_0:B3 cx (To (HV [.sv .expr]) k rf) (lp Tryz.f192 0):=Alg h0.p h0.c h0.q (by rw[H.p];exact follows) h00.p h00.c h00.q (λ_ _ _=>rfl) (k:=k) (s:=Pu) (step:=I0 rf) (λ_ _=>by kernel_rfl) (by kernel_rfl) (Axu _ k rf) (Hl (n:=0) (by kernel_rfl) Ag);exact⟨h0,(A5 Ag hlcopied_0)⟩) λ_=>by kernel_rfl
def Ahf(e:Xpr):Option Xpr:=cond (decide (C1 e<=1000000)) (some e) none
def Ajo:FT [.sv .expr] [.sv .expr]:=λx=>Ahf x
theorem Bmq{i n:Nat}(h:i<n):inO (i:Int) (n:Int)=true:=by simp[inO];omega
theorem Ayh{R:Type}{rf:FT [.sv .expr] [.sv .expr]}{kx:Ex->Fl->Option R}{a b n:Int}{s nm:Str}{z:Xpr}{l:List Xpr}{c:Option R}(hn:ln l.length)(hrf:∀x,x∈l->rf x=some x)(h2:kx (.exit 0) ((l.length:Int),(l.length:Int),a,b,n,s,nm,0,(l.length:Int),z,l)=c)(k:Nat)(hk:l.length<k) :
  Ak (λrec=>I0 rf rec kx) k ((l.length:Int),0,a,b,n,s,nm,0,(l.length:Int),z,l)=c:=by
 refine Bu l.length (λi=>((l.length:Int),(i:Int),a,b,n,s,nm,0,(l.length:Int),z,l)) (λ_=>c) (λi hi rec hr =>?_) (λrec =>?_) k 0 (Nat.zero_le _) (by omega)
 ·simp only[I0,C6 hi,Ah,Int.zero_add,Bmq hi,Ay hi,chk,Aw (c :=.expr) hi,hrf _ (List.getElem_mem hi),Zc1,As hi hn,Int.toNat_natCast,List.set_getElem_self,hr]
 ·simp[I0,h2]
theorem Akw(k:Nat):∀(n:Nat) (e:Xpr),BdExpr e->C1 e<=n->C1 e<=k->C1 e<=1000000->Ak (Hm k) n e=some e
 |0,e,_,h,_,_=>by have:=Ln e;omega
 |n+1,e,hb,h,hk,ho=>by
  obtain⟨hb4,hb5⟩:=Aoy hb;rw[Pk] at h hk ho;have hl:=Nz e.l;have hrf:∀x,x∈e.l->Ak (Hm k) n x=some x:=λx hx=>Akw k n x (hb5 x hx) (by have:=D9 hx;omega) (by have:=D9 hx;omega) (by have:=D9 hx;omega);rw[A8];simp[Hm];rw[Ze1 (show e.l.length<=1000000 by omega)];simp[chk];cases he:e.l with
  |nil =>simp;obtain⟨kd,v,nm,l⟩:=e;simp[Xpr.l] at he;subst he;rfl
  |cons x t =>
   rw[<-he];have:List.isEmpty e.l=false:=by rw[he];rfl
   rw[this];simp;refine(Ayh (c:=some e) hb4 hrf ?_ k (by omega));have h1:(decide ((0:Int)<=0)&&decide ((0:Int)<=(e.l.length:Int))&&decide ((0:Int)+(e.l.length:Int)<=(e.l.length:Int)))=true:=by simp
   simp only[h1,A4s];cases e;rfl
theorem Ba6:FO 192 [.sv .expr] [.sv .expr] Ajo:=by refine .fin (ι:=Nat) 0 (F:=λn=>Ak (Hm n) n) (λn=>FnOk.rec' (Sx.enters_of Tryz.func192 rfl rfl) (λrf hrf=>A3q n rf hrf) n) λe r hb hx=>⟨C1 e,?_⟩;simp only[Ajo,Ahf] at hx;cases hd:decide (C1 e<=1000000) with|false=>rw[hd] at hx;cases hx|true =>rw[hd] at hx;exact(Akw (C1 e) (C1 e) e hb (Zn1 _) (Zn1 _) (of_decide_eq_true hd)).trans hx
def Apk:Sig:=⟨19,[(0,.sl .col false),(4,.int .i64),(7,.int .i64),(8,.int .i64)],[(1,.fn 280 [.ptr 1 0])],[(1,.cells [.str])],40,40,200,[],[]⟩
abbrev Y8:=List Col×Int×Int×Int×Str
def Aa5{R:Type}(rec:Y8->Option R)(kx:Ex->Y8->Option R)(v:Y8):Option R:=match v with
 |(v,v1,v2,v3,w) =>
 cond (decide (v3<v2)) (
  chk (inb v3 v.length) (
  cond (decide (((at' .col v v3).name)=w)) (
   kx .ret (v,v3,v2,v3,w)) (
   rec (v,v1,v2,(wr .i64 (v3+1)),w)))) (
  kx (.exit 0) (v,v1,v2,v3,w))
def Aes(R:Type)(_k:Nat):Px R:=pxO [] [] [] []
noncomputable def Ao1(R:Type)(k:Nat):Px R:=pxO [(280,Aq 80 400 (Aes R k) Tryz.f280)] [] [(2,Am k Apk (Aa5))] []
noncomputable def A6j(R:Type)(k:Nat):Px R:=pxO [(159,Aq 40 200 (Ao1 R k) Tryz.f159)] [] [] []
def Arj(k:Nat)(x:HV [.sv .tbl,.str]):Option (HV [.int .i64]):=match x with
 |(t,s) =>
 Ak (λrec=>Aa5 rec (λe vz=>match vz with|(_,v5,_,_,_)=>match e with
  |.ret =>
  some v5
  |.exit 0 =>
  some (-1)
  |_=>none)) k (t.cols,0,(t.cols.length:Int),0,s)
theorem Bjg(k:Nat):FO 236 [.sv .tbl,.str] [.int .i64] (Arj k):=fR (px:=A6j _ k) (n:=0) Tryz.func236 rfl (λcx H=>by have h2:Lv cx (Aes (HV [.int .i64]) k):=lv H Ae Aa Ab;have h1:Lv cx (Ao1 (HV [.int .i64]) k):=lv H (Al (cR H h2 Tryz.func280 rfl (n:=0) (Ag)) Ae) Aa Ab;have hlscol_0:=lO H h1 (b:=lp Tryz.f159 0) (k:=k) (n:=0) (s:=Apk) (step:=Aa5) (λ_ _ _ (_,_,_,_,_)=>by kernel_rfl) Ag;have h0:Lv cx (A6j (HV [.int .i64]) k):=lv H (Al (cR H h1 Tryz.func159 rfl (n:=1) ((A5 Ag hlscol_0))) Ae) Aa Ab;exact⟨h0,Ag⟩) λ(_,_)=>by kernel_rfl
def Bm9(t:Tbl)(s:Str):Int:=Jr t.cols s
def A03:FT [.sv .tbl,.str] [.int .i64]:=λx=>some (Bm9 x.1 x.2)
theorem A9v{R:Type}{kx:Ex->Y8->Option R}{s:Str}{cols:List Col}{g:Int->Option R}(hn:ln cols.length)(h1:∀i:Nat,kx .ret (cols,(i:Int),(cols.length:Int),(i:Int),s)=g i)(h2:kx (.exit 0) (cols,0,(cols.length:Int),(cols.length:Int),s)=g (-1))(k:Nat)(hk:cols.length<k) :
  Ak (λrec=>Aa5 rec kx) k (cols,0,(cols.length:Int),0,s)=g (Jr cols s):=by
 refine(Bu cols.length (λi=>(cols,0,(cols.length:Int),(i:Int),s)) (λi=>g (Ff (cols.drop i) s i)) (λi hi rec hr =>?_) (λrec =>?_) k 0 (Nat.zero_le _) (by omega)).trans (by rw[Zq1];rfl)
 ·simp only[Aa5,C6 hi,Ay hi,Aw (c :=.col) hi,As hi hn,hr,h1,Av hi,Ff,Bool.cond_decide];split<;>rfl
 ·simp only[Aa5,E6,h2];rw[Zk1 (Zn1 _)];rfl
theorem Bpu:FO 236 [.sv .tbl,.str] [.int .i64] A03 :=.fin 0 Bjg λ(t,s) r hb hx=>⟨t.cols.length+1,by simp only[A03,Za1,Bm9] at hx;simp only[Arj];exact(A9v (g:=some) hb.1.cols.1 (λ_=>rfl) rfl _ (by omega)).trans (congrArg some hx)⟩
def Ape:Sig:=⟨19,[(0,.sl .str false),(4,.int .i64),(7,.int .i64),(8,.int .i64)],[(1,.fn 235 [.ptr 0 0])],[(0,.one (.sv .tbl))],80,80,400,[],[]⟩
abbrev Yn:=List Str×Int×Int×Int×Tbl
def Acw{R:Type}(rec:Yn->Option R)(kx:Ex->Yn->Option R)(v:Yn):Option R:=match v with
 |(v,v1,v2,v3,w) =>
 cond (decide (v3<v2)) (
  chk (inb v3 v.length) (
  cond (decide ((Bm9 w (at' .str v v3))<0)) (
   kx .ret (v,v3,v2,v3,w)) (
   rec (v,v1,v2,(wr .i64 (v3+1)),w)))) (
  kx (.exit 0) (v,v1,v2,v3,w))
def Ur(R:Type)(_k:Nat):Px R:=pxO [(236,cA A03)] [] [] []
noncomputable def Afd(R:Type)(k:Nat):Px R:=pxO [(235,Aq 120 600 (Ur R k) Tryz.f235)] [] [(2,Am k Ape (Acw))] []
noncomputable def Anp(R:Type)(k:Nat):Px R:=pxO [(279,Aq 80 400 (Afd R k) Tryz.f279)] [] [] []
noncomputable def A8u(R:Type)(k:Nat):Px R:=pxO [(234,Aq 40 200 (Anp R k) Tryz.f234)] [] [] []
def Ap6(k:Nat)(x:HV [.sv .tbl,.sl .str false]):Option (HV [.bool]):=match x with
 |(t,names) =>
 Ak (λrec=>Acw rec (λe vz=>match vz with|(_,v5,_,_,_)=>match e with
  |.ret =>
  some (!(decide (0<=v5)))
  |.exit 0 =>
  some true
  |_=>none)) k (names,0,(names.length:Int),0,t)
theorem Bhm(k:Nat):FO 190 [.sv .tbl,.sl .str false] [.bool] (Ap6 k):=fR (px:=A8u _ k) (n:=0) Tryz.func190 rfl (λcx H=>by have h3:Lv cx (Ur (HV [.bool]) k):=lv H (c1 H Bpu Ae) Aa Ab;have h2:Lv cx (Afd (HV [.bool]) k):=lv H (Al (cR H h3 Tryz.func235 rfl (n:=0) (Ag)) Ae) Aa Ab;have hlsall_0:=lO H h2 (b:=lp Tryz.f279 0) (k:=k) (n:=0) (s:=Ape) (step:=Acw) (λ_ _ _ (_,_,_,_,_)=>by kernel_rfl) Ag;have h1:Lv cx (Anp (HV [.bool]) k):=lv H (Al (cR H h2 Tryz.func279 rfl (n:=1) ((A5 Ag hlsall_0))) Ae) Aa Ab;have h0:Lv cx (A8u (HV [.bool]) k):=lv H (Al (cR H h1 Tryz.func234 rfl (n:=0) (Ag)) Ae) Aa Ab;exact⟨h0,Ag⟩) λ(_,_)=>by kernel_rfl
def Tq(t:Tbl)(names:List Str):Bool:=names.all λs => !decide (Jr t.cols s<0)
def Asd:FT [.sv .tbl,.sl .str false] [.bool]:=λx=>some (Tq x.1 x.2)
theorem Bct{R:Type}{kx:Ex->Yn->Option R}{t:Tbl}{l:List Str}{a b:Option R}(hn:ln l.length)(h1:∀i:Nat,kx .ret (l,(i:Int),(l.length:Int),(i:Int),t)=a)(h2:kx (.exit 0) (l,0,(l.length:Int),(l.length:Int),t)=b)(k:Nat)(hk:l.length<k) :
  Ak (λrec=>Acw rec kx) k (l,0,(l.length:Int),0,t)=cond (Tq t l) b a:=by
 refine(Bu l.length (λi=>(l,0,(l.length:Int),(i:Int),t)) (λi=>cond (Tq t (l.drop i)) b a) (λi hi rec hr =>?_) (λrec =>?_) k 0 (Nat.zero_le _) (by omega)).trans (by rw[Zq1])
 ·simp only[Acw,C6 hi,Ay hi,Aw (c :=.str) hi,As hi hn,hr,h1,Av hi,Tq,Zv1,Bm9];cases decide (Jr t.cols l[i]<0)<;>rfl
 ·simp only[Acw,E6,h2];rw[Zk1 (Zn1 _)];rfl
theorem A8s:FO 190 [.sv .tbl,.sl .str false] [.bool] Asd :=.fin 0 Bhm λ(t,l) r hb hx=>⟨l.length+1,by
 simp only[Asd,Za1] at hx;simp only[Ap6];refine(Bct (a:=some false) (b:=some true) hb.2.1 (λi =>?_) rfl _ (by omega)).trans ?_
 ·show some (!decide ((0:Int)<=(i:Int)))=some false;rw[Ze1 (by omega)];rfl
 ·rw[<-hx];cases Tq t l<;>rfl⟩
structure LinC {α:Type}(c : α->α->Int):Prop where
 rng:∀x y,c x y = -1\/c x y=0\/c x y=1
 eq:∀x y,c x y=0↔x=y
 anti:∀x y,c y x = -(c x y)
 tr:∀x y z,c x y<=0->c y z<=0->c x z<=0
def Qr(p q:Int):Int:=if p=0 then q else p
theorem Az3{p q:Int}(h:Qr p q<=0):p<=0/\(p=0->q<=0):=by simp[Qr] at h;split at h<;>omega
theorem Bg2{α β:Type}{c : α->α->Int}{d : β->β->Int}(hc:LinC c){x y z : α}{u v w : β}(hd:d u v<=0->d v w<=0->d u w<=0)(h1:Qr (c x y) (d u v)<=0)(h2:Qr (c y z) (d v w)<=0):Qr (c x z) (d u w)<=0:=by
 obtain⟨a1,a2⟩:=Az3 h1;obtain⟨b1,b2⟩:=Az3 h2;simp[Qr];split
 ·rename_i h0;have e:=(hc.eq x z).1 h0;subst e;have an:=hc.anti x y
  grind
 ·exact(hc.tr x y z a1 b1)
def Qw{α:Type}(c : α->α->Int):List α->List α->Int
 |[],[]=>0
 |[],_::_ => -1
 |_::_,[]=>1
 |x::a,y::b=>Qr (c x y) (Qw c a b)
theorem Bkt{α:Type}{c : α->α->Int}(hc:LinC c):LinC (Qw c):=by
 refine⟨?_,?_,?_,?_⟩
 ·intro x;induction x with
  |nil=>intro y;cases y<;>simp[Qw]
  |cons x a ih =>
   intro y;cases y with
   |nil=>simp[Qw]
   |cons y b =>
    simp[Qw,Qr];split
    ·exact ih b
    ·exact hc.rng x y
 ·intro x;induction x with
  |nil=>intro y;cases y<;>simp[Qw]
  |cons x a ih =>
   intro y;cases y with
   |nil=>simp[Qw]
   |cons y b =>
    simp[Qw,Qr];split
    ·rename_i h;rw[ih b];exact⟨λe=>⟨(hc.eq x y).1 h,e⟩,λe=>e.2⟩
    ·rename_i h;exact⟨λe=>absurd e h,λe=>absurd ((hc.eq x y).2 e.1) h⟩
 ·intro x;induction x with
  |nil=>intro y;cases y<;>simp[Qw]
  |cons x a ih =>intro y;cases y with|nil=>simp[Qw]|cons y b =>have h:=hc.anti x y;have hb:=ih b;simp[Qw,Qr];split<;>split<;>omega
 ·intro x;induction x with
  |nil=>intro y z _ _;cases z<;>simp[Qw]
  |cons x a ih =>
   intro y z h1 h2;cases y with
   |nil=>simp[Qw] at h1
   |cons y b =>cases z with|nil=>simp[Qw] at h2|cons z e =>exact Bg2 hc (λp q=>ih b e p q) h1 h2
theorem sg_lin:LinC H7:=by
 have e:∀x y,H7 x y=if x<y then -1 else if y<x then 1 else 0:=λx y=>by simp[H7,Bool.cond_decide]
 refine⟨λx y =>?_,λx y =>?_,λx y =>?_,λx y z h1 h2 =>?_⟩
 ·grind
 ·grind
 ·grind
 ·grind
def Biy(a b:UInt8):Int:=H7 (a.toNat:Int) (b.toNat:Int)
theorem Bhj:LinC Biy:=by
 refine⟨λx y=>sg_lin.rng _ _,λx y =>?_,λx y=>sg_lin.anti _ _,λx y z=>sg_lin.tr _ _ _⟩;simp[Biy];rw[sg_lin.eq];constructor
 ·intro h;exact UInt8.toNat_inj.1 (by omega)
 ·intro h;rw[h]
theorem Azb:∀a b:Str,Uy a b=Qw Biy a b
 |[],[]=>rfl
 |[],_::_=>rfl
 |_::_,[]=>rfl
 |a::l,b::m=>by
  have ih:=Azb l m;simp[Uy,Lib.compareBytes] at ih ⊢;simp only[Qw,Qr,Biy,H7,<-ih];by_cases h1:a<b
  ·have:(a.toNat:Int)<(b.toNat:Int):=by have:=UInt8.lt_iff_toNat_lt.1 h1;omega
   simp[h1,this]
  ·by_cases h2:b<a
   ·have h3:¬(a.toNat:Int)<(b.toNat:Int):=by have:=UInt8.lt_iff_toNat_lt.1 h2;omega
    have h4:(b.toNat:Int)<(a.toNat:Int):=by have:=UInt8.lt_iff_toNat_lt.1 h2;omega
    simp[h1,h2,h3,h4]
   ·have h3:a=b:=UInt8.le_antisymm (UInt8.not_lt.1 h2) (UInt8.not_lt.1 h1);subst h3;simp
theorem scmp_lin:LinC Uy:=by
 have e:(Uy:Str->Str->Int)=Qw Biy:=by funext a b;exact Azb a b
 rw[e];exact Bkt Bhj
def ltN(a b:Str):Bool:=decide (Uy a b<0)
theorem A7q(a:Str):ltN a a=false:=by have:=(scmp_lin.eq a a).2 rfl;simp[ltN,this]
theorem Bep{a b c:Str}(h1:ltN a b=true)(h2:ltN b c=true):ltN a c=true:=by
 simp[ltN] at *;rcases Int.lt_or_eq_of_le (scmp_lin.tr a b c (by omega) (by omega)) with h|h
 ·exact h
 ·have e:=(scmp_lin.eq a c).1 h;subst e;have:=scmp_lin.anti a b;omega
theorem Bo0(a b:Str):ltN a b=true\/a=b\/ltN b a=true:=by
 simp[ltN];rcases scmp_lin.rng a b with h|h|h
 ·left;omega
 ·exact .inr (.inl ((scmp_lin.eq a b).1 h))
 ·right;have:=scmp_lin.anti a b;omega
theorem A3n{a b:Str}(h:ltN a b=true):a≠b:=λe=>by rw[e,A7q] at h;cases h
def Bi:List Idx->Bool
 |[]=>true
 |x::l=>l.all (λy=>ltN x.name y.name)&&Bi l
def Ma(l:List Idx)(x:Idx):List Idx:=l.takeWhile (λy=>ltN y.name x.name)++x::l.dropWhile (λy=>ltN y.name x.name)
def O1(l:List Idx)(s:Str):Bool:=l.any λy=>decide (y.name=s)
def Ec(l:List Idx)(s:Str):Nat:=(l.takeWhile λy=>ltN y.name s).length
theorem A6b(l:List Idx)(s:Str):Ec l s<=l.length:=by
 induction l with
 |nil=>simp[Ec]
 |cons x l ih =>
  simp[Ec,List.takeWhile_cons] at ih ⊢;split
  ·simp;omega
  ·simp
theorem Yc:∀{l:List Idx}{s:Str},Bi l=true->∀(h:Nat) (hl:h<l.length),ltN l[h].name s=decide (h<Ec l s)
 |[],_,_,h,hl=>by simp at hl
 |x::l,s,hs,h,hl=>by
  simp[Bi,Zg2] at hs;have ih:=Yc (l:=l) (s:=s) hs.2;have hp:Ec (x::l) s=if ltN x.name s then Ec l s+1 else 0:=by simp[Ec,List.takeWhile_cons];split<;>simp
  rw[hp];cases hx:ltN x.name s with
  |true=>grind
  |false =>
   cases h with
   |zero=>simpa using hx
   |succ h =>simp;cases hq:ltN (l[h]'(by simpa using hl)).name s with|false=>rfl|true=>rw[Bep (hs.1 _ (List.getElem_mem _)) hq] at hx;cases hx
theorem Nw:∀{l:List Idx},Bi l=true->∀(i j:Nat) (hi:i<l.length) (hj:j<l.length),i<j->ltN l[i].name l[j].name=true
 |[],_,i,j,hi,_,_=>by simp at hi
 |x::l,hs,i,j,hi,hj,hij=>by
  simp[Bi,Zg2] at hs;cases j with
  |zero=>omega
  |succ j =>cases i with|zero=>grind|succ i=>exact Nw hs.2 i j (by simpa using hi) (by simpa using hj) (by omega)
theorem A52{l:List Idx}{s:Str}:O1 l s=true↔∃y,y∈l/\y.name=s:=by simp[O1]
theorem A5w{l:List Idx}{s:Str}(hs:Bi l=true):O1 l s=true↔∃h:Ec l s<l.length,l[Ec l s].name=s:=by
 rw[A52];constructor
 ·rintro⟨y,hy,e⟩;obtain⟨k,hk,rfl⟩:=List.getElem_of_mem hy;have h1:=Yc (s:=s) hs k hk;rw[e,A7q] at h1;have hkp:¬k<Ec l s:=λh=>by rw[Ze1 h] at h1;cases h1
  have hpl:Ec l s<l.length:=by omega
  refine⟨hpl,?_⟩;rcases Nat.lt_or_eq_of_le (Nat.le_of_not_lt hkp) with h|h
  ·have h2:=Nw hs _ k hpl hk h;rw[e] at h2;have h3:=Yc (s:=s) hs _ hpl;rw[h2] at h3;simp at h3
  ·subst h;exact e
 ·grind
theorem Bi4(l:List Idx)(s:Str):l.take (Ec l s)=l.takeWhile (λy=>ltN y.name s):=by have:=List.takeWhile_append_dropWhile (p:=λy:Idx=>ltN y.name s) (l:=l);have h2:(l.takeWhile (λy=>ltN y.name s)++l.dropWhile (λy=>ltN y.name s)).take (Ec l s)=l.takeWhile (λy=>ltN y.name s):=List.take_left' rfl;rwa[this] at h2
theorem Bhi(l:List Idx)(s:Str):l.drop (Ec l s)=l.dropWhile (λy=>ltN y.name s):=by have:=List.takeWhile_append_dropWhile (p:=λy:Idx=>ltN y.name s) (l:=l);have h2:(l.takeWhile (λy=>ltN y.name s)++l.dropWhile (λy=>ltN y.name s)).drop (Ec l s)=l.dropWhile (λy=>ltN y.name s):=List.drop_left' rfl;rwa[this] at h2
theorem Ajp(l:List Idx)(x:Idx):Ma l x=l.take (Ec l x.name)++x::l.drop (Ec l x.name):=by rw[Bi4,Bhi,Ma]
theorem A4q{l:List Idx}{x y:Idx}:y∈Ma l x↔y=x\/y∈l:=by
 rw[Ajp];have:y∈l↔y∈l.take (Ec l x.name)\/y∈l.drop (Ec l x.name):=by rw[<-List.mem_append,List.take_append_drop]
 constructor
 ·grind
 ·grind
theorem A8v(l:List Idx)(x:Idx):(Ma l x).length=l.length+1:=by rw[Ajp];simp[ Za2];omega
theorem V6:∀{l:List Idx}{x:Idx},Bi l=true->O1 l x.name=false->Bi (Ma l x)=true
 |[],x,_,_=>by simp[Ma,Bi]
 |y::l,x,hs,hh=>by
  have hs':=hs;simp[Bi,Zg2] at hs';simp only[O1,List.any_cons,Bool.or_eq_false_iff,decide_eq_false_iff_not] at hh;have ih:=V6 (l:=l) (x:=x) hs'.2 hh.2;cases hy:ltN y.name x.name with
  |true =>
   have e:Ma (y::l) x=y::Ma l x:=by simp[Ma,hy]
   rw[e];simp[Bi,Zg2];refine⟨λz hz =>?_,ih⟩;rcases A4q.1 hz with rfl|hz
   ·exact hy
   ·exact hs'.1 z hz
  |false =>
   have e:Ma (y::l) x=x::y::l:=by simp[Ma,hy]
   have hxy:ltN x.name y.name=true:=by
    rcases Bo0 x.name y.name with h|h|h
    ·exact h
    ·exact absurd h.symm hh.1
    ·rw[h] at hy;cases hy
   rw[e];simp only[Bi,Zb1,Zg2];refine⟨λz hz =>?_,hs'⟩;rcases List.mem_cons.1 hz with rfl|hz
   ·exact hxy
   ·exact Bep hxy (hs'.1 z hz)
theorem Avk:∀{l:List Idx}{x:Idx},(∀y,y∈l->ltN y.name x.name=true)->Ma l x=l++[x]
 |[],x,_=>rfl
 |y::l,x,h=>by
  have e:Ma (y::l) x=y::Ma l x:=by simp[Ma,(h y (by simp))]
  rw[e,Avk λz hz=>h z (by simp[hz])];rfl
theorem Ud:∀{p q:List Idx},Bi (p++q)=true->Bi p=true/\∀y z,y∈p->z∈q->ltN y.name z.name=true
 |[],_,_=>⟨rfl,λ_ _ h=>by cases h⟩
 |x::p,q,h=>by
  simp only[Zb2,Bi,Zb1,Zg2,List.mem_append] at h;obtain⟨h1,h2⟩:=Ud h.2;refine⟨?_,λy z hy hz =>?_⟩
  ·simp[Bi,Zg2];exact⟨λy hy=>h.1 y (.inl hy),h1⟩
  ·rcases List.mem_cons.1 hy with rfl|hy
   ·exact h.1 z (.inr hz)
   ·exact h2 y z hy hz
def Hy:Tbl:=⟨[],[],[],[],[]⟩
def Bkv(cols:List Col)(e:Xpr):Int:=cond (decide ((Kh e cols).2=0)) (cond (decide ((Kh e cols).1=2)||decide ((Kh e cols).1=1)) 0 151) (Kh e cols).2
def Up(cols:List Col):List Xpr->Int
 |[]=>0
 |e::l=>cond (decide (Bkv cols e=0)) (Up cols l) (Bkv cols e)
def Aax(s:Stm):Bool:=decide (s.cols.length<=1000000)&&(decide (s.sets.length<=1000000)&&(decide (s.names.length<=1000000)&&(decide (s.l.length<=1000000)&&s.l.all λe=>decide (C1 e<=1000000))))
def Afm(s:Stm):Tbl×Int:=cond (decide (s.kind=1)&&H1 s) (cond (Tq ⟨s.name,s.cols,s.names,[],[]⟩ s.names) (cond (decide (Up s.cols s.l=0)) (⟨s.name,s.cols,s.names,s.l,[]⟩,0) (Hy,Up s.cols s.l)) (Hy,150)) (Hy,2)
def Ahh:Sig:=⟨70,[(3,.int .i64),(34,.sl .expr false),(35,.int .i64),(36,.int .i64)],[(2,.ptr 1 0),(4,.ptr 2 0)],[(1,.cells [.str,.sl .col true,.sl .str true,.sl .expr true,.sl .idx true]),(2,.cells [.str,.sl .col false,.sl .str false,.sl .expr true,.sl .idx true])],3,0,0,[],[]⟩
abbrev S1:=Int×List Xpr×Int×Int×Str×List Col×List Str×List Xpr×List Idx×Str×List Col×List Str×List Xpr×List Idx
def Ru{R:Type}(rec:S1->Option R)(kx:Ex->S1->Option R)(v:S1):Option R:=match v with
 |(v,v1,v2,v3,w,w1,w2,w3,w4,w5,w6,w7,w8,w9) =>
 cond (decide (v3<v2)) (
  chk (inb v3 v1.length) (
  let j:=λ(p6:Int) =>
   cond (!decide (p6=0)) (
   kx .ret (p6,v1,v2,v3,[],[],[],[],[],w5,w6,w7,w8,w9)) (
   (Ahf (at' .expr v1 v3)).bind λx3 =>
    chk (decide (w8.length+1<=Ai)) (
    rec (v,v1,v2,(wr .i64 (v3+1)),w,w1,w2,w3,w4,w5,w6,w7,(w8++[x3]),w9)))
  cond (decide ((Kh (at' .expr v1 v3) w6).2=0)) (
   cond (!decide ((Kh (at' .expr v1 v3) w6).1=2)) (
   cond (!decide ((Kh (at' .expr v1 v3) w6).1=1)) (
    j 151) (
    j ((Kh (at' .expr v1 v3) w6).2))) (
   j ((Kh (at' .expr v1 v3) w6).2))) (
   j ((Kh (at' .expr v1 v3) w6).2)))) (
  kx (.exit 0) (v,v1,v2,v3,w,w1,w2,w3,w4,w5,w6,w7,w8,w9))
def Avg(R:Type)(k:Nat):Px R:=pxO [(57,cA I5),(190,cA Asd),(191,cA Ark)] [(188,qA Akv),(189,qA V4),(192,qA Ajo)] [(7,Am k Ahh (Ru))] []
def Akm(k:Nat)(x:HV [.sv .stmt]):Option (HV [.sv .tbl,.int .i64]):=match x with
 |s =>
 cond (!decide (s.kind=1)) (
  some ((Tbl.mk [] [] [] [] []),2)) (
  (I9 s).bind λx =>
  cond (!decide (x=0)) (
   some ((Tbl.mk [] [] [] [] []),2)) (
   (Aka s.cols).bind λx1 =>
   (K8 s.names).bind λx2 =>
    cond (!(Tq (Tbl.mk s.name x1 x2 [] []) x2)) (
    some ((Tbl.mk [] [] [] [] []),150)) (
    Ak (λrec=>Ru rec (λe vz=>match vz with|(v4,_,_,_,v8,v9,a,b,c,d,f,g,h,i)=>match e with
     |.ret =>
     some ((Tbl.mk v8 v9 a b c),v4)
     |.exit 0 =>
     some ((Tbl.mk d f g h i),0)
     |_=>none)) k (0,s.l,(s.l.length:Int),0,[],[],[],[],[],s.name,x1,x2,[],[]))))
theorem A9z(k:Nat):FO 138 [.sv .stmt] [.sv .tbl,.int .i64] (Akm k):=fR (px:=Avg _ k) (n:=1) Tryz.func138 rfl (λcx H=>by have h0:Lv cx (Avg (HV [.sv .tbl,.int .i64]) k):=lv H (c1 H Lb (c1 H A8s (c1 H Ax9 Ae))) (q1 H Aze (q1 H Adt (q1 H Ba6 Aa))) Ab;have hlsmake_0:=lO H h0 (b:=lp Tryz.f138 0) (k:=k) (n:=0) (s:=Ahh) (step:=Ru) (λ_ _ _ (_,_,_,_,_,_,_,_,_,_,_,_,_,_)=>by kernel_rfl) Ag;exact⟨h0,(A5 Ag hlsmake_0)⟩) λ_=>by kernel_rfl
def Aop(s:Stm):Option (Tbl×Int):=cond (Aax s) (some (Afm s)) none
def Zo:FT [.sv .stmt] [.sv .tbl,.int .i64]:=λx=>Aop x
theorem A2q{R:Type}{kx:Ex->S1->Option R}{nm:Str}{cols:List Col}{names:List Str}{l:List Xpr}{b:Option R}{g:Int->Option R}(hn:l.length<=1000000)(hs:l.all (λe=>decide (C1 e<=1000000))=true)(h1:∀(p:Int) (i:Nat) (acc:List Xpr),kx .ret (p,l,(l.length:Int),(i:Int),[],[],[],[],[],nm,cols,names,acc,[])=g p)(h2:kx (.exit 0) (0,l,(l.length:Int),(l.length:Int),[],[],[],[],[],nm,cols,names,l,[])=b)(k:Nat)(hk:l.length<k) :
  Ak (λrec=>Ru rec kx) k (0,l,(l.length:Int),0,[],[],[],[],[],nm,cols,names,[],[])=cond (decide (Up cols l=0)) b (g (Up cols l)):=by
 have hl:ln l.length:=by simp[ln];omega
 refine(Bu l.length (λi=>(0,l,(l.length:Int),(i:Int),[],[],[],[],[],nm,cols,names,l.take i,[])) (λi=>cond (decide (Up cols (l.drop i)=0)) b (g (Up cols (l.drop i)))) (λi hi rec hr =>?_) (λrec =>?_) k 0 (Nat.zero_le _) (by omega)).trans (by rw[Zq1])
 ·have ht:l.take (i+1)=l.take i++[l[i]]:=by rw[List.take_add_one,Zo1 hi];rfl
  have hlen:decide ((l.take i).length+1<=Ai)=true:=Ze1 (by simp[ Ai];omega);have hc:Ahf l[i]=some l[i]:=by have:=Zg2.1 hs _ (List.getElem_mem hi);simp[Ahf,this]
  rw[ht] at hr;simp only[Ru,C6 hi,Ay hi,chk,Aw (c :=.expr) hi,As hi hl,h1,Av hi,Up,Bkv];by_cases hf:(Kh l[i] cols).2=0
  ·grind
  ·simp[hf]
 ·simp only[Ru,E6,h2,List.take_length];rw[Zk1 (Zn1 _)];rfl
theorem Bbi{s:Stm}(h:Aax s=true):s.cols.length<=1000000/\s.sets.length<=1000000/\s.names.length<=1000000/\s.l.length<=1000000/\s.l.all (λe=>decide (C1 e<=1000000))=true:=by simp only[Aax,Zb1,Zg1] at h;exact h
theorem Ah7:FO 138 [.sv .stmt] [.sv .tbl,.int .i64] Zo :=.fin 0 A9z λs r hb hx=>⟨s.l.length+1,by
 simp only[Zo,Aop] at hx;cases hs:Aax s with
 |false=>rw[hs] at hx;cases hx
 |true =>
  rw[hs] at hx;simp only[Ah,Za1] at hx;rw[<-hx];obtain⟨q1,q2,q3,q4,q5⟩:=Bbi hs;have ec:I9 s=some (cond (H1 s) 0 2):=if_pos ⟨q1,q2⟩;simp only[Akm,ec,Zc1,Aka,K8,Ze1 q1,Ze1 q3,Ah,Afm];cases decide (s.kind=1) with
  |false=>rfl
  |true =>
   cases H1 s with
   |false=>rfl
   |true =>
    simp only[Zt1,Af,Ah,Bool.and_self,decide_true];cases Tq ⟨s.name,s.cols,s.names,[],[]⟩ s.names with
    |false=>rfl
    |true =>simp only[Zt1,Af,Ah];refine(A2q (g:=λp=>some (Hy,p)) (b:=some (⟨s.name,s.cols,s.names,s.l,[]⟩,0)) q4 q5 (λ_ _ _=>rfl) rfl _ (by omega)).trans ?_;cases decide (Up s.cols s.l=0)<;>rfl⟩
def Bia(R:Type):Px R:=pxO [] [] [] []
def Wa(x:HV [.sv .tbl]):Option (HV [.sv .stmt]):=match x with
 |t =>
 some (Stm.mk 1 t.name [] t.cols t.key t.checks [] [] false (Xpr.mk 0 ⟨0,0,[]⟩ [] []) [] [] 0)
theorem Bbo:FO 246 [.sv .tbl] [.sv .stmt] (Wa):=fR (px:=Bia _) (n:=0) Tryz.func246 rfl (λ_ H=>⟨lv H Ae Aa Ab,Ag⟩) λ_=>by kernel_rfl
def E8(t:Tbl):Stm :=(Stm.mk 1 t.name [] t.cols t.key t.checks [] [] false (Xpr.mk 0 ⟨0,0,[]⟩ [] []) [] [] 0)
theorem Bbe(x:HV [.sv .tbl]):Wa x=some (E8 x):=by
 first
  |exact rfl
  |simp only[Wa,E8,A0]
def Aut:FT [.sv .tbl] [.sv .stmt]:=λx=>some (E8 x)
theorem Avt:FO 246 [.sv .tbl] [.sv .stmt] Aut :=.fin0 Bbo λx _ _ hx=>(Bbe x).trans hx
def Bds(R:Type):Px R:=pxO [] [] [] []
def Q8(x:HV [.sv .tbl,.sv .idx]):Option (HV [.sv .stmt]):=match x with
 |(t,x) =>
 some (Stm.mk 3 x.name t.name [] x.cols [] [] [] false (Xpr.mk 0 ⟨0,0,[]⟩ [] []) [] [] 0)
theorem A34:FO 247 [.sv .tbl,.sv .idx] [.sv .stmt] (Q8):=fR (px:=Bds _) (n:=0) Tryz.func247 rfl (λ_ H=>⟨lv H Ae Aa Ab,Ag⟩) λ(_,_)=>by kernel_rfl
def Ha(t:Tbl)(x:Idx):Stm :=(Stm.mk 3 x.name t.name [] x.cols [] [] [] false (Xpr.mk 0 ⟨0,0,[]⟩ [] []) [] [] 0)
theorem A25(x:HV [.sv .tbl,.sv .idx]):Q8 x=some (Ha x.1 x.2):=by
 first
  |exact rfl
  |simp only[Q8,Ha,A0]
def Alc:FT [.sv .tbl,.sv .idx] [.sv .stmt]:=λx=>some (Ha x.1 x.2)
theorem Ap9:FO 247 [.sv .tbl,.sv .idx] [.sv .stmt] Alc :=.fin0 A34 λx _ _ hx=>(A25 x).trans hx
def A1y(R:Type):Px R:=pxO [(274,cA Vo)] [] [] []
def N4(x:HV [.sv .idx,.str]):Option (HV [.int .i64]):=match x with
 |(x,name) =>
 some (Jj x.name name)
theorem Avr:FO 256 [.sv .idx,.str] [.int .i64] (N4):=fR (px:=A1y _) (n:=0) Tryz.func256 rfl (λ_ H=>⟨lv H (c1 H Adg Ae) Aa Ab,Ag⟩) λ(_,_)=>by kernel_rfl
def J0(x:Idx)(name:Str):Int :=(Jj x.name name)
theorem Au8(x:HV [.sv .idx,.str]):N4 x=some (J0 x.1 x.2):=by
 first
  |exact rfl
  |simp only[N4,J0,A0]
def Am5:FT [.sv .idx,.str] [.int .i64]:=λx=>some (J0 x.1 x.2)
theorem A0w:FO 256 [.sv .idx,.str] [.int .i64] Am5 :=.fin0 Avr λx _ _ hx=>(Au8 x).trans hx
def Akj:Sig:=⟨49,[(0,.sl .idx false),(1,.str),(8,.int .i64),(9,.int .i64),(10,.int .i64)],[(2,.fn 256 [])],[(0,.one (.sv .tbl)),(1,.one (.sv .stmt)),(2,.one (.sv .tbl))],40,40,200,[],[]⟩
abbrev R1:=List Idx×Str×Int×Int×Int×Tbl×Stm×Tbl
def Tc{R:Type}(rec:R1->Option R)(kx:Ex->R1->Option R)(v:R1):Option R:=match v with
 |(v,v1,v2,v3,v4,w,w1,w2) =>
 cond (decide (v3<v4)) (
  chk (inb (wr .i64 (Dt .u64 (wr .u64 (wr .i64 (v3+v4))) 1)) v.length) (
  cond (decide ((J0 (at' .idx v (wr .i64 (Dt .u64 (wr .u64 (wr .i64 (v3+v4))) 1))) v1)<0)) (
   rec (v,v1,v2,(wr .i64 ((wr .i64 (Dt .u64 (wr .u64 (wr .i64 (v3+v4))) 1))+1)),v4,w,w1,w2)) (
   rec (v,v1,v2,v3,(wr .i64 (Dt .u64 (wr .u64 (wr .i64 (v3+v4))) 1)),w,w1,w2)))) (
  kx (.exit 0) (v,v1,v2,v3,v4,w,w1,w2))
def Aip(R:Type)(k:Nat):Px R:=pxO [(256,cA Am5)] [] [(3,Am k Akj (Tc))] []
noncomputable def Awh(R:Type)(k:Nat):Px R:=pxO [(57,cA I5),(190,cA Asd),(257,Agm),(255,Aq 40 200 (Aip R k) Tryz.f255)] [(189,qA V4)] [] [(211,Aga .idx)]
def Al9(k:Nat)(x:HV [.sv .tbl,.sv .stmt]):Option (HV [.sv .tbl,.int .i64]):=match x with
 |(t,s) =>
 cond (!decide (s.kind=3)) (
  some ((Tbl.mk [] [] [] [] []),2)) (
  (I9 s).bind λx =>
  cond (!decide (x=0)) (
   some ((Tbl.mk [] [] [] [] []),2)) (
   cond (!decide (s.on=t.name)) (
   some ((Tbl.mk [] [] [] [] []),2)) (
   Ak (λrec=>Tc rec (λe vz=>match vz with|(v5,v6,v7,v8,_,a,b,_)=>match e with
    |.exit 0 =>
    let j:=λ(c:Bool) =>
     cond (c) (
     some ((Tbl.mk [] [] [] [] []),160)) (
     cond (decide (100<=(a.idx.length:Int))) (
      some ((Tbl.mk [] [] [] [] []),3)) (
      cond (!(Tq a b.names)) (
      some ((Tbl.mk [] [] [] [] []),150)) (
      chk (decide (a.idx.length<=1000000)) (
       cond (List.isEmpty a.idx) (
       (K8 b.names).bind λx1 =>
        chk (decide (v8=0)) (
        some ((Tbl.mk a.name a.cols a.key a.checks [(Idx.mk b.name x1)]),0))) (
       (K8 b.names).bind λx2 =>
        chk (decide ((0:Int)=0)&&decide ((0:Int)<(a.idx.length:Int))&&decide ((a.idx.length:Int)=(a.idx.length:Int))&&decide ((0:Int)<=v8)&&decide (v8<=(a.idx.length:Int))&&decide ((a.idx.length:Int)<=(1000000:Int))) (
        some ((Tbl.mk a.name a.cols a.key a.checks (List.take (v8:Int).toNat a.idx++(Idx.mk b.name x2)::List.drop (v8:Int).toNat a.idx)),0)))))))
    cond (decide (v8<v7)) (
     chk (inb v8 v5.length) (
     j (decide ((J0 (at' .idx v5 v8) v6)=0)))) (
     j false)
    |_=>none)) k (t.idx,s.name,(t.idx.length:Int),0,(t.idx.length:Int),t,s,(Tbl.mk [] [] [] [] [])))))
theorem Bau(k:Nat):FO 207 [.sv .tbl,.sv .stmt] [.sv .tbl,.int .i64] (Al9 k):=fR (px:=Awh _ k) (n:=0) Tryz.func207 rfl (λcx H=>by have h1:Lv cx (Aip (HV [.sv .tbl,.int .i64]) k):=lv H (c1 H A0w Ae) Aa Ab;have hlswith_0:=lO H h1 (b:=lp Tryz.f255 0) (k:=k) (n:=0) (s:=Akj) (step:=Tc) (λ_ _ _ (_,_,_,_,_,_,_,_)=>by kernel_rfl) Ag;have h0:Lv cx (Awh (HV [.sv .tbl,.int .i64]) k):=lv H (c1 H Lb (c1 H A8s (Al (Bt4 H Brf) (Al (cR H h1 Tryz.func255 rfl (n:=1) ((A5 Ag hlswith_0))) Ae)))) (q1 H Adt Aa) (Aci (Bt9 H Av6 Arr) Ab);exact⟨h0,Ag⟩) λ(_,_)=>by kernel_rfl
def Azr(t:Tbl)(s:Stm):Tbl×Int:=cond (decide (s.kind=3)&&(H1 s&&decide (s.on=t.name))) (cond (O1 t.idx s.name) (Hy,160) (cond (decide (100<=t.idx.length)) (Hy,3) (cond (Tq t s.names) ({ t with idx:=Ma t.idx ⟨s.name,s.names⟩ },0) (Hy,150)))) (Hy,2)
def Aj2(t:Tbl)(s:Stm):Bool:=decide (s.cols.length<=1000000)&&(decide (s.sets.length<=1000000)&&(decide (s.names.length<=1000000)&&(decide (t.idx.length<=1000000)&&Bi t.idx)))
def An6(t:Tbl)(s:Stm):Option (Tbl×Int):=cond (Aj2 t s) (some (Azr t s)) none
def Agn:FT [.sv .tbl,.sv .stmt] [.sv .tbl,.int .i64]:=λx=>An6 x.1 x.2
theorem Btw{n:Nat}(h:n<=4000000):wr .u64 (n:Int)=(n:Int):=by
 have e:wr .u64 (n:Int)=(n:Int) % 18446744073709551616:=by simp[wr,IntKind.wrap,IntKind.bits,IntKind.signed]
 omega
theorem Bsk{a:Int}:Dt .u64 a 1=a / 2:=by show a.fdiv (2 ^ min (1:Int).toNat IntKind.u64.bits)=_;rw[show(2:Int) ^ min (1:Int).toNat IntKind.u64.bits=2 from by decide];exact Int.fdiv_eq_ediv_of_nonneg _ (by omega)
theorem Bpr{a b:Nat}(h:a+b<=4000000):wr .i64 (Dt .u64 (wr .u64 (wr .i64 ((a:Int)+(b:Int)))) 1)=(((a+b) / 2:Nat):Int):=by rw[show(a:Int)+(b:Int)=((a+b:Nat):Int) by omega,Bi8 (by simp[ln];omega),Btw h,Bsk,show((a+b:Nat):Int) / 2=(((a+b) / 2:Nat):Int) by omega,Bi8 (by simp[ln];omega)]
theorem V7{R:Type}{kx:Ex->R1->Option R}{l:List Idx}{nm:Str}{t t2:Tbl}{s:Stm}{c:Option R}(hs:Bi l=true)(hn:l.length<=1000000)(h2:kx (.exit 0) (l,nm,(l.length:Int),(Ec l nm:Int),(Ec l nm:Int),t,s,t2)=c):∀(k lo hi:Nat),lo<=Ec l nm->Ec l nm<=hi->hi<=l.length->hi-lo<k ->
  Ak (λrec=>Tc rec kx) k (l,nm,(l.length:Int),(lo:Int),(hi:Int),t,s,t2)=c
 |0,lo,hi,_,_,_,h=>by omega
 |k+1,lo,hi,h3,h4,h5,h=>by
  rw[A8];by_cases hlt:lo<hi
  ·have hm:(lo+hi) / 2<l.length:=by omega
   have hp:=Yc (s:=nm) hs _ hm;have hb:decide (J0 l[(lo+hi) / 2] nm<0)=decide ((lo+hi) / 2<Ec l nm):=hp;have ih1:=V7 hs hn h2 k ((lo+hi) / 2+1) hi;have ih2:=V7 hs hn h2 k lo ((lo+hi) / 2);simp only[Tc,Bpr (show lo+hi<=4000000 by omega),Ay hm,chk,Aw (c :=.idx) hm,As hm (show ln l.length by simp[ln];omega)];by_cases hq:(lo+hi) / 2<Ec l nm
   ·grind
   ·grind
  ·have e1:lo=Ec l nm:=by omega
   have e2:hi=Ec l nm:=by omega
   simp only[Tc,Zd1 (show ¬(lo:Int)<(hi:Int) by omega)];rw[e1,e2];exact h2
theorem Be0{l:List Idx}{nm:Str}(hs:Bi l=true){R:Type}{A B:Option R}:(cond (decide ((Ec l nm:Int)<(l.length:Int))) (chk (inb (Ec l nm:Int) l.length) (cond (decide (J0 (at' .idx l (Ec l nm:Int)) nm=0)) A B)) B)=cond (O1 l nm) A B:=by
 by_cases hp:Ec l nm<l.length
 ·rw[Ze1 (show(Ec l nm:Int)<(l.length:Int) by omega)];simp[ Ay hp,chk,Aw (c :=.idx) hp];have e:decide (J0 l[Ec l nm] nm=0)=O1 l nm:=by
   rw[Bool.eq_iff_iff,A5w hs,Zg1];constructor
   ·intro h;exact⟨hp,(scmp_lin.eq _ _).1 h⟩
   ·rintro⟨_,h⟩;exact(scmp_lin.eq _ _).2 h
  rw[e]
 ·rw[Zd1 (show ¬(Ec l nm:Int)<(l.length:Int) by omega)];have e:O1 l nm=false:=by cases h:O1 l nm with|false=>rfl|true=>exact absurd ((A5w hs).1 h).1 hp
  rw[e];rfl
theorem A9i{t:Tbl}{s:Stm}(h:Aj2 t s=true):s.cols.length<=1000000/\s.sets.length<=1000000/\s.names.length<=1000000/\t.idx.length<=1000000/\Bi t.idx=true:=by simp[Aj2] at h;exact h
theorem Ay7:FO 207 [.sv .tbl,.sv .stmt] [.sv .tbl,.int .i64] Agn :=.fin 0 Bau λ(t,s) r hb hx=>⟨t.idx.length+1,by
 simp only[Agn,An6] at hx;cases hs:Aj2 t s with
 |false=>rw[hs] at hx;cases hx
 |true =>
  rw[hs] at hx;simp only[Ah,Za1] at hx;rw[<-hx];obtain⟨q1,q2,q3,q4,q5⟩:=A9i hs;have ec:I9 s=some (cond (H1 s) 0 2):=if_pos ⟨q1,q2⟩;simp only[Al9,ec,Zc1,K8,Azr];cases decide (s.kind=3) with
  |false=>rfl
  |true =>
   cases H1 s with
   |false=>rfl
   |true =>
    cases decide (s.on=t.name) with
    |false=>rfl
    |true =>
     simp only[Zt1,Af,Ah,Bool.and_self,decide_true];refine(V7 (c:=some (cond (O1 t.idx s.name) (Hy,160) (cond (decide (100<=t.idx.length)) (Hy,3) (cond (Tq t s.names) ({ t with idx:=Ma t.idx ⟨s.name,s.names⟩ },0) (Hy,150))))) q5 q4 ?_ _ 0 t.idx.length (Nat.zero_le _) (A6b _ _) (Zn1 _) (by omega)).trans rfl;have hle:=A6b t.idx s.name;simp only;rw[Be0 q5];cases O1 t.idx s.name with
     |true=>rfl
     |false =>
      have e100:decide ((100:Int)<=(t.idx.length:Int))=decide (100<=t.idx.length):=Zy1.2 (by omega);simp only[Af,e100];cases decide (100<=t.idx.length) with
      |true=>rfl
      |false =>
       simp only[Af];cases Tq t s.names with
       |false=>rfl
       |true =>
        simp only[Zt1,Af,Ah,chk,Ze1 q4];simp only[Ze1 q3,Ah,Zc1];cases hE:t.idx.isEmpty with
        |true =>have h0:t.idx=[]:=List.isEmpty_iff.1 hE;simp only[Ah,h0];rfl
        |false =>
         have hpos : 0<t.idx.length:=by cases h0:t.idx with|nil=>rw[h0] at hE;cases hE|cons x l=>simp only[Zf1];omega
         simp only[Af,Ajp,Int.toNat_natCast];have hck:decide ((0:Int)<(t.idx.length:Int))=true/\decide ((0:Int)<=(Ec t.idx s.name:Int))=true/\decide ((Ec t.idx s.name:Int)<=(t.idx.length:Int))=true/\decide ((t.idx.length:Int)<=1000000)=true:=by simp only[Zg1];omega
         simp only[hck.1,hck.2.1,hck.2.2.1,hck.2.2.2,Bool.and_self,Ah]⟩
def Ug:Sig:=⟨58,[(3,.bool),(39,.sl .idx false),(40,.int .i64),(41,.int .i64)],[(1,.ptr 0 0),(2,.ptr 1 0),(4,.ptr 2 0)],[(0,.one (.sv .tbl)),(1,.one (.sv .tbl)),(2,.one (.sv .tbl))],3,0,0,[],[]⟩
abbrev Ic:=Bool×List Idx×Int×Int×Tbl×Tbl×Tbl
def G1{R:Type}(rec:Ic->Option R)(kx:Ex->Ic->Option R)(v:Ic):Option R:=match v with
 |(d,b,c,a,w3,w4,w5) =>
 cond (decide (a<c)) (
  chk (inb a b.length) (
  chk (inb a w3.idx.length) (
   cond (!decide (((at' .idx b a).name)=((at' .idx w3.idx a).name))) (
   kx .ret (false,b,c,a,w3,(Tbl.mk [] [] [] [] []),w5)) (
   rec (d,b,c,(wr .i64 (a+1)),w3,w4,w5))))) (
  kx (.exit 2) (d,b,c,a,w3,w4,w5))
def Us:Sig:=⟨58,[(3,.bool),(20,.sl .idx false),(21,.int .i64),(22,.int .i64)],[(1,.ptr 0 0),(2,.ptr 1 0),(4,.ptr 2 0)],[(0,.one (.sv .tbl)),(1,.one (.sv .tbl)),(2,.one (.sv .tbl))],3,0,0,[],[]⟩
abbrev H9:=Bool×List Idx×Int×Int×Tbl×Tbl×Tbl
def G3{R:Type}(rec:H9->Option R)(kx:Ex->H9->Option R)(v:H9):Option R:=match v with
 |(v,v1,v2,v3,w,w1,w2) =>
 cond (decide (v3<v2)) (
  chk (inb v3 v1.length) (
  (An6 w2 (Ha w (at' .idx v1 v3))).bind λ(x2,x3) =>
   cond (!decide (x3=0)) (
   kx .ret (false,v1,v2,v3,w,(Tbl.mk [] [] [] [] []),x2)) (
   rec (v,v1,v2,(wr .i64 (v3+1)),w,w1,x2)))) (
  kx (.exit 0) (v,v1,v2,v3,w,w1,w2))
def Adl(R:Type)(k:Nat):Px R:=pxO [(246,cA Aut),(138,cA Zo)] [(247,qA Alc),(207,qA Agn)] [(5,Am k Us (G3)),(12,Am k Ug (G1))] []
def Tx(k:Nat)(x:HV [.sv .tbl]):Option (HV [.sv .tbl,.bool]):=match x with
 |t =>
 (Aop (E8 t)).bind λ(x,x1) =>
  cond (!decide (x1=0)) (
  some ((Tbl.mk [] [] [] [] []),false)) (
  Ak (λrec=>G3 rec (λe vz=>match vz with|(v4,_,_,_,v8,v9,a)=>match e with
   |.ret =>
   some (v9,v4)
   |.exit 0 =>
   Ak (λrec=>G1 rec (λe vz=>match vz with|(b,_,_,_,_,c,d)=>match e with
    |.ret =>
    some (c,b)
    |.exit 2 =>
    some (d,true)
    |_=>none)) k (v4,a.idx,(a.idx.length:Int),0,v8,v9,a)
   |_=>none)) k (false,t.idx,(t.idx.length:Int),0,t,(Tbl.mk [] [] [] [] []),x))
theorem Atz(k:Nat):FO 206 [.sv .tbl] [.sv .tbl,.bool] (Tx k):=fR (px:=Adl _ k) (n:=2) Tryz.func206 rfl (λcx H=>by have h0:Lv cx (Adl (HV [.sv .tbl,.bool]) k):=lv H (c1 H Avt (c1 H Ah7 Ae)) (q1 H Ap9 (q1 H Ay7 Aa)) Ab;have hlsrebuilt_0:=lO H h0 (b:=lp Tryz.f206 0) (k:=k) (n:=0) (s:=Us) (step:=G3) (λ_ _ _ (_,_,_,_,_,_,_)=>by kernel_rfl) Ag;have hlsrebuilt_1:=lO H h0 (b:=lp Tryz.f206 1) (k:=k) (n:=0) (s:=Ug) (step:=G1) (λ_ _ _ (_,_,_,_,_,_,_)=>by kernel_rfl) Ag;exact⟨h0,(A5 (A5 Ag hlsrebuilt_0) hlsrebuilt_1)⟩) λ_=>by kernel_rfl
def W4(t:Tbl)(x:Idx):Bool:=H1 (Ha t x)&&Tq t x.cols
def ixs(t:Tbl):List Idx->List Idx->Option (List Idx)
 |acc,[]=>some acc
 |acc,x::l=>cond (W4 t x&&(!O1 acc x.name&&decide (acc.length<100))) (ixs t (Ma acc x) l) none
def A5j(t:Tbl):Bool:=decide ((Afm (E8 t)).2=0)&&(Bi t.idx&&(decide (t.idx.length<=100)&&t.idx.all (W4 t)))
def Q4(t:Tbl):Bool:=Aax (E8 t)&&(decide (t.idx.length<=1000000)&&t.idx.all λx=>decide (x.cols.length<=1000000))
def W6(t:Tbl):Option (Tbl×Bool):=cond (Q4 t) (some (cond (A5j t) (t,true) (Hy,false))) none
def Vk:FT [.sv .tbl] [.sv .tbl,.bool]:=λx=>W6 x
theorem Bon{t:Tbl}{acc:List Idx}{x:Idx}:Azr { t with idx:=acc } (Ha t x)=cond (H1 (Ha t x)) (cond (O1 acc x.name) (Hy,160) (cond (decide (100<=acc.length)) (Hy,3) (cond (Tq t x.cols) ({ t with idx:=Ma acc x },0) (Hy,150)))) (Hy,2):=by simp[Azr,Ha];rfl
theorem Aya{t:Tbl}:∀{l acc a:List Idx},Bi acc=true->ixs t acc l=some a->Bi a=true/\(∀y,y∈a↔y∈acc\/y∈l)/\a.length=acc.length+l.length/\l.all (W4 t)=true/\(acc.length<=100->a.length<=100)
 |[],acc,a,hs,h=>by simp[ixs] at h;subst h;exact⟨hs,by simp,by simp,rfl,id⟩
 |x::l,acc,a,hs,h=>by
  simp[ixs] at h;cases hc:W4 t x&&(!O1 acc x.name&&decide (acc.length<100)) with
  |false=>rw[hc] at h;cases h
  |true =>
   rw[hc] at h;simp at h;simp at hc;obtain⟨h1,h2,h3,h4,h5⟩:=Aya (V6 hs hc.2.1) h;rw[A8v] at h3 h5;refine⟨h1,λy =>?_,by simp;omega,by simp[h4,hc.1],λ_=>h5 (by omega)⟩;rw[h2,A4q,List.mem_cons];constructor
   ·grind
   ·grind
theorem Auu{t:Tbl}:∀{q p:List Idx},Bi (p++q)=true->(p++q).length<=100->q.all (W4 t)=true->ixs t p q=some (p++q)
 |[],p,_,_,_=>by simp[ixs]
 |x::q,p,hs,hn,hk=>by
  simp only[Zv1,Zb1] at hk;have hlt:=(Ud hs).2;have h1:O1 p x.name=false:=by cases h:O1 p x.name with|false=>rfl|true =>obtain⟨y,hy,e⟩:=A52.1 h;exact absurd e (A3n (hlt y x hy (by simp)))
  have h2:decide (p.length<100)=true:=Ze1 (by simp at hn;omega);have h3:Ma p x=p++[x]:=Avk λy hy=>hlt y x hy (by simp);simp[ixs,hk.1,h1,h2,h3];rw[Auu (by simpa using hs) (by simpa using hn) hk.2];simp
def Afs:List Idx->List Idx->Bool
 |x::a,y::b=>decide (x.name=y.name)&&Afs a b
 |_,_=>true
theorem Aw0:∀{a b:List Idx},Afs a b=true->∀(i:Nat) (hi:i<a.length) (hj:i<b.length),a[i].name=b[i].name
 |[],_,_,i,hi,_=>by simp at hi
 |_::_,[],_,i,_,hj=>by simp at hj
 |x::a,y::b,h,i,hi,hj=>by simp[Afs] at h;cases i with|zero=>exact h.1|succ i=>exact Aw0 h.2 i (by simpa using hi) (by simpa using hj)
theorem Aph:∀a:List Idx,Afs a a=true
 |[]=>rfl
 |x::a=>by simp[Afs,Aph a]
theorem Bdd{l:List Idx}(hs:Bi l=true){x y:Idx}(hx:x∈l)(hy:y∈l)(e:x.name=y.name):x=y:=by
 obtain⟨i,hi,rfl⟩:=List.getElem_of_mem hx;obtain⟨j,hj,rfl⟩:=List.getElem_of_mem hy;rcases Nat.lt_trichotomy i j with h|h|h
 ·exact absurd e (A3n (Nw hs i j hi hj h))
 ·subst h;rfl
 ·exact absurd e.symm (A3n (Nw hs j i hj hi h))
theorem Boz{a b:List Idx}(hs:Bi a=true)(hm:∀y,y∈a↔y∈b)(hn:a.length=b.length)(h:Afs a b=true):a=b :=List.ext_getElem hn λi hi hj=>Bdd hs (List.getElem_mem hi) ((hm _).2 (List.getElem_mem hj)) (Aw0 h i hi hj)
theorem Bsb{t:Tbl}{R:Type}{g:List Idx->R}{c:R}:(match ixs t [] t.idx with|some a=>cond (Afs a t.idx) (g a) c|none=>c)=cond (Bi t.idx&&(decide (t.idx.length<=100)&&t.idx.all (W4 t))) (g t.idx) c:=by
 cases hx:ixs t [] t.idx with
 |none =>cases hc:Bi t.idx&&(decide (t.idx.length<=100)&&t.idx.all (W4 t)) with|false=>rfl|true =>simp only[Zb1] at hc;rw[Auu (p:=[]) (by simpa using hc.1) (by simpa using hc.2.1) hc.2.2] at hx;cases hx
 |some a =>
  obtain⟨h1,h2,h3,h4,h5⟩:=Aya (by rfl) hx;simp only;cases hs:Afs a t.idx with
  |true =>have e:=Boz h1 (λy=>by rw[h2];simp) (by simpa using h3) hs;rw[<-e,h1];rw[<-e] at h4;rw[h4,Ze1 (h5 (by simp))];rfl
  |false =>cases hc:Bi t.idx&&(decide (t.idx.length<=100)&&t.idx.all (W4 t)) with|false=>rfl|true =>simp only[Zb1] at hc;rw[Auu (p:=[]) (by simpa using hc.1) (by simpa using hc.2.1) hc.2.2] at hx;cases hx;rw[Zf2,Aph] at hs;cases hs
theorem Aa3{t:Tbl}(h:Q4 t=true):Aax (E8 t)=true/\t.idx.length<=1000000/\∀x,x∈t.idx->x.cols.length<=1000000:=by simp[Q4] at h;exact h
theorem Ax7{R:Type}{kx:Ex->H9->Option R}{t:Tbl}{g:List Idx->Option R}{c:Option R}(hs:Q4 t=true)(h1:∀i p,kx .ret (false,t.idx,(t.idx.length:Int),i,t,Hy,p)=c)(h2:∀a:List Idx,a.length=t.idx.length->kx (.exit 0) (false,t.idx,(t.idx.length:Int),(t.idx.length:Int),t,Hy,{ t with idx:=a })=g a)(k:Nat)(hk:t.idx.length<k) :
  Ak (λrec=>G3 rec kx) k (false,t.idx,(t.idx.length:Int),0,t,Hy,{ t with idx:=[] })=(match ixs t [] t.idx with|some a=>g a|none=>c):=by
 obtain⟨_,hn,hcs⟩:=Aa3 hs;have hl:ln t.idx.length:=by simp[ln];omega
 refine(I6 t.idx.length (λi (acc:List Idx)=>(false,t.idx,(t.idx.length:Int),(i:Int),t,Hy,{ t with idx:=acc })) (λi acc=>Bi acc=true/\acc.length=i) (λi acc=>(match ixs t acc (t.idx.drop i) with|some a=>g a|none=>c)) (λi hi acc ha rec hr =>?_) (λacc ha rec =>?_) k 0 [] (Nat.zero_le _) (by omega) ⟨rfl,rfl⟩).trans (by rw[Zq1])
 ·have hw:An6 { t with idx:=acc } (Ha t t.idx[i])=some (Azr { t with idx:=acc } (Ha t t.idx[i])):=by
   have:Aj2 { t with idx:=acc } (Ha t t.idx[i])=true:=by have h1:=hcs _ (List.getElem_mem hi);have h2:=ha.2;show(decide ((0:Nat)<=1000000)&&(decide ((0:Nat)<=1000000)&&(decide (t.idx[i].cols.length<=1000000)&&(decide (acc.length<=1000000)&&Bi acc))))=true;rw[Ze1 h1,Ze1 (show acc.length<=1000000 by omega),ha.1];rfl
   rw[An6,this];rfl
  simp only[G3,C6 hi,Ay hi,Aw (c :=.idx) hi,hw,Bon,As hi hl,Av hi,ixs,W4];cases H1 (Ha t t.idx[i]) with
  |false=>exact h1 _ _
  |true =>
   simp;cases hh:O1 acc t.idx[i].name with
   |true =>simp;exact h1 _ _
   |false =>
    simp;by_cases h100:acc.length<100
    ·rw[Ze1 h100,Zd1 (show ¬ 100<=acc.length by omega)];simp;cases Tq t t.idx[i].cols with|false=>exact h1 _ _|true =>simp;exact hr _ ⟨V6 ha.1 hh,by rw[A8v,ha.2]⟩
    ·rw[Zd1 h100,Ze1 (show 100<=acc.length by omega)];simp;exact h1 _ _
 ·simp only[G3,E6,h2 acc ha.2];rw[Zk1 (Zn1 _)];rfl
theorem Ax0{R:Type}{kx:Ex->Ic->Option R}{t:Tbl}{a:List Idx}{b c:Option R}(hs:Q4 t=true)(ha:a.length=t.idx.length)(h1:∀i,kx .ret (false,a,(a.length:Int),i,t,Hy,{ t with idx:=a })=c)(h2:kx (.exit 2) (false,a,(a.length:Int),(a.length:Int),t,Hy,{ t with idx:=a })=b)(k:Nat)(hk:t.idx.length<k) :
  Ak (λrec=>G1 rec kx) k (false,a,(a.length:Int),0,t,Hy,{ t with idx:=a })=cond (Afs a t.idx) b c:=by
 obtain⟨_,hn,hcs⟩:=Aa3 hs;have hl:ln a.length:=by simp[ln];omega
 refine(Bu a.length (λi=>(false,a,(a.length:Int),(i:Int),t,Hy,{ t with idx:=a })) (λi=>cond (Afs (a.drop i) (t.idx.drop i)) b c) (λi hi rec hr =>?_) (λrec =>?_) k 0 (Nat.zero_le _) (by omega)).trans (by rw[Zq1,Zq1])
 ·have hi2:i<t.idx.length:=by omega
  simp only[G1,C6 hi,Ay hi,Ay hi2,Aw (c :=.idx) hi,Aw (c :=.idx) hi2,As hi hl,Av hi,Av hi2,Afs,hr];cases decide (a[i].name=t.idx[i].name) with|false=>exact h1 _|true=>rfl
 ·simp only[G1,E6,h2];rw[Zk1 (Zn1 _)];rfl
theorem Bbc{t:Tbl}(h:(Afm (E8 t)).2=0):Afm (E8 t)=({ t with idx:=[] },0):=by
 simp[Afm] at h ⊢;generalize (decide ((E8 t).kind=1)&&H1 (E8 t))=b1 at h ⊢;generalize Tq ⟨(E8 t).name,(E8 t).cols,(E8 t).names,[],[]⟩ (E8 t).names=b2 at h ⊢;cases b1 with
 |false=>simp at h
 |true =>
  cases b2 with
  |false=>simp at h
  |true =>
   by_cases hc:Up (E8 t).cols (E8 t).l=0
   ·simp only[hc];rfl
   ·simp[hc] at h
theorem Avs:FO 206 [.sv .tbl] [.sv .tbl,.bool] Vk :=.fin 0 Atz λt r hb hx=>⟨t.idx.length+1,by
 simp only[Vk,W6] at hx;cases hs:Q4 t with
 |false=>rw[hs] at hx;cases hx
 |true =>
  rw[hs] at hx;simp only[Ah,Za1] at hx;rw[<-hx];obtain⟨q1,q2,q3⟩:=Aa3 hs;have em:Aop (E8 t)=some (Afm (E8 t)):=by rw[Aop,q1];rfl
  simp only[Tx,em,Zc1,A5j];by_cases h0:(Afm (E8 t)).2=0
  ·simp only[Bbc h0,decide_true,Zt1,Af,Bool.true_and];refine(Ax7 (c:=some (Hy,false)) (g:=λa=>cond (Afs a t.idx) (some ({ t with idx:=a },true)) (some (Hy,false))) hs (λ_ _=>rfl) (λa ha =>?_) _ (by omega)).trans ?_
   ·exact Ax0 hs ha (λ_=>rfl) rfl _ (by omega)
   ·rw[Bsb (g:=λa=>some (({ t with idx:=a }:Tbl),true)),A0]
  ·simp only[Zd1 h0,Zs1,Ah,Bool.false_and,Af];rfl⟩
def Bch(R:Type):Px R:=pxO [(206,cA Vk)] [] [] []
def Aee(x:HV [.sv .tbl]):Option (HV [.int .i64]):=match x with
 |t =>
 (W6 t).bind λ(_,x1) =>
  cond (!x1) (
  some 2) (
  some 0)
theorem A29:FO 244 [.sv .tbl] [.int .i64] (Aee):=fR (px:=Bch _) (n:=0) Tryz.func244 rfl (λ_ H=>⟨lv H (c1 H Avs Ae) Aa Ab,Ag⟩) λ_=>by kernel_rfl
def Aue(t:Tbl):Option Int:=cond (Q4 t) (some (cond (A5j t) 0 2)) none
def Qg:FT [.sv .tbl] [.int .i64]:=λx=>Aue x
theorem Acm:FO 244 [.sv .tbl] [.int .i64] Qg :=.fin0 A29 λt r hb hx=>by simp only[Qg,Aue] at hx;rw[<-hx];simp only[Aee,W6];cases Q4 t with|false=>rfl|true=>cases A5j t<;>rfl
theorem Blx{m n:Nat}(h:m<=n):upto 0 (m:Int) n=true:=by simp[upto];omega
def Bea(R:Type):Px R:=pxO [] [] [] []
def Ajx(x:HV [.str,.str]):Option (HV [.bool]):=match x with
 |(l,m) =>
 cond (decide ((m.length:Int)<=(l.length:Int))) (
  chk (upto 0 (m.length:Int) l.length) (
  some (decide ((l.take ((m.length:Int):Int).toNat)=m)))) (
  some false)
theorem A9m:FO 229 [.str,.str] [.bool] (Ajx):=fR (px:=Bea _) (n:=0) Tryz.func229 rfl (λ_ H=>⟨lv H Ae Aa Ab,Ag⟩) λ(_,_)=>by kernel_rfl
def A63(l m:Str):Bool:=Lp.pre l m
def Arz:FT [.str,.str] [.bool]:=λx=>some (A63 x.1 x.2)
theorem Be9:FO 229 [.str,.str] [.bool] Arz :=.fin0 A9m λ(l,m) r hb hx=>by
 simp only[Arz,Za1] at hx;subst hx;simp only[Ajx,A63,Lp.pre];have e:decide ((m.length:Int)<=(l.length:Int))=decide (m.length<=l.length):=Zy1.2 (by omega);rw[e];by_cases h:m.length<=l.length
 ·rw[Ze1 h,Ah,Blx h,Int.toNat_natCast];rfl
 ·rw[Zd1 h];rfl
def Bmn(R:Type):Px R:=pxO [(229,cA Arz)] [] [] []
def Aaw(x:HV [.str,.str]):Option (HV [.bool]):=match x with
 |(l,m) =>
 some (A63 l m)
theorem Bkk:FO 170 [.str,.str] [.bool] (Aaw):=fR (px:=Bmn _) (n:=0) Tryz.func170 rfl (λ_ H=>⟨lv H (c1 H Be9 Ae) Aa Ab,Ag⟩) λ(_,_)=>by kernel_rfl
def hpre(l:Str)(m:Str):Bool :=(A63 l m)
theorem Bem(x:HV [.str,.str]):Aaw x=some (hpre x.1 x.2):=by
 first
  |exact rfl
  |simp only[Aaw,hpre,A0]
def A1t:FT [.str,.str] [.bool]:=λx=>some (hpre x.1 x.2)
theorem A77:FO 170 [.str,.str] [.bool] A1t :=.fin0 Bkk λx _ _ hx=>(Bem x).trans hx
set_option maxRecDepth 20000 in
open Go.Sx in
theorem Po(l:Str)(c:Int):Con Tryz.prog 169 [S l,.int .u8 c] [] (λ_=>True) (Is (.int .i64 (Lib.indexByte l c.toNat.toUInt8))):=by
 have run:∀w,(callFunc 228 #[S l,.int .u8 c]).run Tryz.prog w = .ok (.value (.int .i64 (Lib.indexByte l c.toNat.toUInt8))) w:=λw=>by rw[run_callFunc_extern Tryz.func228 (by kernel_rfl) rfl (by kernel_rfl) (e:=Extern.BytealgIndexByte.indexByte) (by kernel_rfl)];simp[Lib.run_indexByteString,go_sem]
 refine Bf Tryz.func169 Tryz.ntmps169 rfl (by kernel_rfl) rfl λw M =>?_
 repeat' (first|refine C9 ?_|refine Bc ?_|refine Bz ?_|refine B1 ?_|refine n_blk ?_|refine g_block ?_|refine Dd ?_|refine g_exit ?_|refine x_here ?_|refine x_seq ?_|refine x_loop ?_|refine x_blk rfl ?_|refine g_scope ?_|refine n_scope ?_|refine x_scope ?_|refine g_label ?_|(apply Ao rfl rfl;(first|exact p_move rfl|exact p_assign rfl|exact p_lens (by dsimp only;decide +kernel) rfl|exact p_lensl (by dsimp only;decide +kernel) rfl|exact p_extract rfl rfl|exact p_pick_t rfl rfl|exact p_pick_f rfl rfl|exact p_eql rfl rfl|exact p_neq rfl rfl|exact p_lss rfl rfl|exact p_leq rfl rfl|exact p_gtr rfl rfl|exact p_geq rfl rfl|exact p_not rfl|exact p_eqls rfl rfl|exact p_neqs rfl rfl|exact Yk rfl rfl (by omega)|exact Ie rfl rfl (by omega)|exact p_index (by dsimp only;decide +kernel) rfl rfl (by omega)|exact p_cut (by dsimp only;decide +kernel) rfl rfl rfl (by omega)|exact p_cutlo (by dsimp only;decide +kernel) rfl rfl (by omega)|exact p_cuthi (by dsimp only;decide +kernel) rfl rfl (by omega)|exact p_fa (fo:=0) (by dsimp only;decide +kernel) rfl|exact p_fa (fo:=1) (by dsimp only;decide +kernel) rfl|exact p_fa (fo:=2) (by dsimp only;decide +kernel) rfl|exact p_fa (fo:=3) (by dsimp only;decide +kernel) rfl|exact p_nil rfl))|refine o_off rfl rfl ?_|refine o_off_none rfl ?_|(apply Ao rfl rfl (A58 rfl rfl run))|(refine o_gsd rfl rfl ?_ ?_<;>intro hc)|(refine o_gse rfl rfl ?_ ?_<;>intro hc)|(refine o_gsn rfl rfl ?_ ?_<;>intro hc)|(refine o_gsxd rfl rfl ?_ ?_<;>intro hc)|(refine o_gsx rfl rfl ?_ ?_<;>intro hc)|(refine o_gs rfl rfl ?_ ?_<;>intro hc)|refine g_cond_t rfl rfl ?_|refine g_cond_f rfl rfl ?_|refine g_cond_t rfl (Ze1 (by omega)) ?_|refine g_cond_f rfl (Zd1 (by omega)) ?_|(refine Hf rfl ?_ ?_<;>intro hc)|(refine g_conde rfl ?_ ?_<;>intro hc)|(refine g_condn rfl ?_ ?_<;>intro hc)|(refine g_condxd rfl ?_ ?_<;>intro hc)|(refine g_condx rfl ?_ ?_<;>intro hc)|(refine E5 rfl ?_ ?_<;>intro hc)|refine Bt rfl rfl ?_|refine g_ret2 rfl rfl rfl ?_|refine g_ret3 rfl rfl rfl rfl ?_|fail)
 exact Bgw rfl
def sib(l:Str)(c:Int):Int:=Lib.indexByte l c.toNat.toUInt8
def Bh1:FT [.str,.int .u8] [.int .i64]:=λx=>some (sib x.1 x.2)
theorem Boy(l:Str)(c:Int) : -1<=sib l c/\sib l c<l.length+1:=by have:=Lp.indexByte_in l c.toNat.toUInt8;simp only[sib];omega
theorem Bqv:FO 169 [.str,.int .u8] [.int .i64] Bh1:=by
 refine FnOk.ofIs (Po [] 0).enters rfl λx r hx =>?_;obtain⟨l,c⟩:=x;simp only[Bh1,Za1] at hx;subst hx;refine⟨[Sx.S l,.int .u8 c],_,λX vs h =>?_,Po l c,λX hb =>?_⟩
 ·simp only[Br,Ce,Reps,Rep] at h;obtain⟨u,us,rfl,⟨rfl,_⟩,u2,us2,rfl,⟨rfl,_⟩,rfl⟩:=h;rfl
 ·simp only[Eh,Br,Ce];have h:=Boy l c;have hl:ln l.length:=hb.1;refine Cu (Anm ?_);simp only[IntKind.min,IntKind.max,IntKind.signed,IntKind.bits,sib,ln] at *;simp only[if_true];omega
def Bhk(R:Type):Px R:=pxO [(169,cA Bh1)] [] [] []
def Va(x:HV [.str,.int .u8]):Option (HV [.int .i64]):=match x with
 |(l,c) =>
 some (sib l c)
theorem Bap:FO 109 [.str,.int .u8] [.int .i64] (Va):=fR (px:=Bhk _) (n:=0) Tryz.func109 rfl (λ_ H=>⟨lv H (c1 H Bqv Ae) Aa Ab,Ag⟩) λ(_,_)=>by kernel_rfl
def Jv(l:Str)(c:Int):Int :=(sib l c)
theorem A88(x:HV [.str,.int .u8]):Va x=some (Jv x.1 x.2):=by
 first
  |exact rfl
  |simp only[Va,Jv,A0]
def Afv:FT [.str,.int .u8] [.int .i64]:=λx=>some (Jv x.1 x.2)
theorem Ag2:FO 109 [.str,.int .u8] [.int .i64] Afv :=.fin0 Bap λx _ _ hx=>(A88 x).trans hx
def Be3(R:Type):Px R:=pxO [] [] [] []
def Vt(x:HV [.int .u8]):Option (HV [.bool]):=match x with
 |c =>
 cond (decide (65<=c)) (
  some (decide (c<=90))) (
  some false)
theorem Bcd:FO 172 [.int .u8] [.bool] (Vt):=fR (px:=Be3 _) (n:=0) Tryz.func172 rfl (λ_ H=>⟨lv H Ae Aa Ab,Ag⟩) λ_=>by kernel_rfl
def Adu(c:Int):Bool :=
 cond (decide (65<=c)) (
  (decide (c<=90))) (
  false)
theorem A9q(x:HV [.int .u8]):Vt x=some (Adu x):=by
 first
  |exact rfl
  |simp only[Vt,Adu,A0]
def Afw:FT [.int .u8] [.bool]:=λx=>some (Adu x)
theorem Agq:FO 172 [.int .u8] [.bool] Afw :=.fin0 Bcd λx _ _ hx=>(A9q x).trans hx
theorem Aj6(c:Int):Adu c=Lp.isUp c:=by simp only[Adu,Lp.isUp];cases decide (65<=c)<;>rfl
def Blq(R:Type):Px R:=pxO [(121,cA Agi),(172,cA Afw)] [] [] []
def Uw(x:HV [.str,.int .i64]):Option (HV [.bool]):=match x with
 |(s,i) =>
 cond (decide (i=(s.length:Int))) (
  some true) (
  chk (inb i s.length) (
  cond (!(Aem (bat s i))) (
   chk (inb i s.length) (
   some (!(Adu (bat s i))))) (
   some false)))
theorem Bdh:FO 174 [.str,.int .i64] [.bool] (Uw):=fR (px:=Blq _) (n:=0) Tryz.func174 rfl (λ_ H=>⟨lv H (c1 H Ake (c1 H Agq Ae)) Aa Ab,Ag⟩) λ(_,_)=>by kernel_rfl
def Ul(s:Str)(i:Int):Option Bool:=if 0<=i/\i<=s.length then some (Lp.aloneF s i) else none
def Arn:FT [.str,.int .i64] [.bool]:=λx=>Ul x.1 x.2
theorem Bpn(a b:Int):(a == b)=decide (a=b):=rfl
theorem Bn9(s:Str)(i:Int)(h : 0<=i/\i<=s.length):Uw (s,i)=some (Lp.aloneF s i):=by
 simp only[Uw,Lp.aloneF,Ahx,Aj6,Bpn];by_cases he:i=s.length
 ·grind
 ·rw[Zd1 he,Awz (by omega)];show cond (!Lp.isIn (bat s i)) (some (!Lp.isUp (bat s i))) (some false)=some (!Lp.isIn (bat s i) && !Lp.isUp (bat s i));cases Lp.isIn (bat s i)<;>rfl
theorem Bj6:FO 174 [.str,.int .i64] [.bool] Arn :=.fin0 Bdh λ(s,i) r hb hx=>by
 simp only[Arn,Ul] at hx;split at hx
 ·rename_i h;exact(Bn9 s i h).trans hx
 ·cases hx
def Aey:Sig:=⟨46,[(0,.str),(2,.int .i64),(3,.bool),(4,.int .i64),(11,.int .i64),(12,.int .i64)],[],[],0,0,0,[],[]⟩
abbrev Nq:=Str×Int×Bool×Int×Int×Int
def Le{R:Type}(rec:Nq->Option R)(kx:Ex->Nq->Option R)(v:Nq):Option R:=match v with
 |(v,v1,v2,v3,v4,v5) =>
 cond (decide (v5<v4)) (
  chk (inb v5 v.length) (
  cond (!decide ((Axp v3 10).2=0)) (
   kx .ret (v,0,false,v3,v4,v5)) (
   cond (!decide ((A0v ((Axp v3 10).1) (wr .i64 (wr .u8 ((bat v v5)-48)))).2=0)) (
   kx .ret (v,0,false,v3,v4,v5)) (
   rec (v,v1,v2,(A0v ((Axp v3 10).1) (wr .i64 (wr .u8 ((bat v v5)-48)))).1,v4,(wr .i64 (v5+1))))))) (
  kx (.exit 0) (v,v1,v2,v3,v4,v5))
def Ao3(R:Type)(k:Nat):Px R:=pxO [(231,cA Bgy),(232,cA Bkf)] [] [(3,Am k Aey (Le))] []
def Aen(k:Nat)(x:HV [.str]):Option (HV [.int .i64,.bool]):=match x with
 |s =>
 Ak (λrec=>Le rec (λe vz=>match vz with|(v6,v7,v8,v9,_,_)=>match e with
  |.ret =>
  some (v7,v8)
  |.exit 0 =>
  cond (decide (v6=[48])) (
   some (v9,true)) (
   chk (inb 0 v6.length) (
   some (v9, !decide ((bat v6 0)=48))))
  |_=>none)) k (s,0,false,0,(s.length:Int),0)
theorem A1h(k:Nat):FO 176 [.str] [.int .i64,.bool] (Aen k):=fR (px:=Ao3 _ k) (n:=1) Tryz.func176 rfl (λcx H=>by have h0:Lv cx (Ao3 (HV [.int .i64,.bool]) k):=lv H (c1 H Bne (c1 H Bnj Ae)) Aa Ab;have hlnumber_0:=lO H h0 (b:=lp Tryz.f176 0) (k:=k) (n:=0) (s:=Aey) (step:=Le) (λ_ _ _ (_,_,_,_,_,_)=>by kernel_rfl) Ag;exact⟨h0,(A5 Ag hlnumber_0)⟩) λ_=>by kernel_rfl
def Bga(s:Str):Int×Bool:=match Lp.numGo s 0 with|some n=>(n,decide (s=[48]) || !decide (bat s 0=48))|none=>(0,false)
def Aum(s:Str):Option (Int×Bool):=match s with|[]=>none|_=>some (Bga s)
def Ajj:FT [.str] [.int .i64,.bool]:=λx=>Aum x
theorem Ado{R:Type}{kx:Ex->Nq->Option R}{s:Str}{c:Option Int->Option R}(hs:ln s.length)(h1:∀n j,kx .ret (s,0,false,n,(s.length:Int),j)=c none)(h2:∀q r n j,kx (.exit 0) (s,q,r,n,(s.length:Int),j)=c (some n)):∀(k i:Nat) (q:Int) (r:Bool) (n:Int),inI n->i<=s.length->s.length-i<k->Ak (λrec=>Le rec kx) k (s,q,r,n,(s.length:Int),(i:Int))=c (Lp.numGo (s.drop i) n)
 |0,i,q,r,n,_,_,h=>absurd h (Zm1 _)
 |k+1,i,q,r,n,hn,hi,h=>by
  rw[A8];by_cases hl:i<s.length
  ·have hd:=Lp.inI_dg (s[i].toNat:Int);have e10:inI (10:Int):=by simp[inI]
   simp only[Le,Ay hl,C3 hl,(Brz hn e10)];rw[Ze1 (show(i:Int)<(s.length:Int) by omega),Av hl];simp[ Lp.numGo];by_cases hm:inI (n*10)
   ·have hm':=hm;simp[inI] at hm';have ef:Vz (n*10)=(n*10,0):=by rw[Vz,if_pos hm']
    simp[ef,(Bsj hm (show inI (wr .i64 (wr .u8 ((s[i].toNat:Int)-48))) from hd))];by_cases hf:inI (n*10+Lp.dg (s[i].toNat:Int))
    ·have hf':=hf;simp[inI] at hf';have eg:Vz (n*10+wr .i64 (wr .u8 ((s[i].toNat:Int)-48)))=(n*10+Lp.dg (s[i].toNat:Int),0):=by have hf2 : -9223372036854775808<=n*10+wr .i64 (wr .u8 ((s[i].toNat:Int)-48))/\n*10+wr .i64 (wr .u8 ((s[i].toNat:Int)-48))<=9223372036854775807:=hf';rw[Vz,if_pos hf2];rfl
     rw[eg,if_pos (show Lp.inI _/\Lp.inI _ from⟨hm,hf⟩)];rw[As hl hs];exact(Ado hs h1 h2 k (i+1) q r (n*10+Lp.dg (s[i].toNat:Int)) hf (by omega) (by omega))
    ·have hf':=hf;simp only[inI] at hf';have eg:Vz (n*10+wr .i64 (wr .u8 ((s[i].toNat:Int)-48)))=(0,20):=by have hf2:¬(-9223372036854775808<=n*10+wr .i64 (wr .u8 ((s[i].toNat:Int)-48))/\n*10+wr .i64 (wr .u8 ((s[i].toNat:Int)-48))<=9223372036854775807):=hf';rw[Vz,if_neg hf2]
     rw[eg,if_neg (λh=>hf h.2)];exact h1 _ _
   ·have hm':=hm;simp only[inI] at hm';have ef:Vz (n*10)=(0,20):=by rw[Vz,if_neg hm']
    rw[if_neg (λh=>hm h.1)];simp[ef];exact h1 _ _
  ·simp[Le,h2];rw[Zd1 (by omega),Zk1 (by omega)];rfl
theorem Bay:FO 176 [.str] [.int .i64,.bool] Ajj :=.fin 0 A1h λs r hb hx=>⟨s.length+1,by
 simp only[Ajj] at hx;cases s with
 |nil=>cases hx
 |cons b l =>
  have hx:some (Bga (b::l))=some r:=hx;rw[<-hx];simp only[Aen];refine(Ado (s:=b::l) (c:=λo=>match o with|some n=>some (n,decide (b::l=[48]) || !decide (bat (b::l) 0=48))|none=>some (0,false)) hb (λ_ _=>rfl) (λ_ _ n _ =>?_) ((b::l).length+1) 0 0 false 0 (by simp[inI]) (Nat.zero_le _) (by omega)).trans ?_
  ·show cond (decide (b::l=[48])) (some (n,true)) (chk (inb 0 (b::l).length) (some (n, !decide (bat (b::l) 0=48))))=_;rw[Awz (by simp only[Zf1];omega)];cases decide (b::l=[48])<;>rfl
  ·simp only[Zq1,Bga];cases Lp.numGo (b::l) 0<;>rfl⟩
def Ad0:Sig:=⟨40,[(0,.str),(4,.str),(5,.int .i64),(6,.sl .byte true),(7,.int .i64)],[],[],0,0,0,[],[]⟩
abbrev Og:=Str×Str×Int×List UInt8×Int
def Mx{R:Type}(rec:Og->Option R)(kx:Ex->Og->Option R)(v:Og):Option R:=match v with
 |(v,v1,v2,v3,v4) =>
 cond (decide (v4<(v.length:Int))) (
  chk (inb v4 v.length) (
  cond (decide ((bat v v4)=39)) (
   cond (decide ((wr .i64 (v4+1))=(v.length:Int))) (
   kx .ret (v,v3,(wr .i64 (v4+1)),v3,(wr .i64 (v4+1)))) (
   chk (inb (wr .i64 (v4+1)) v.length) (
    cond (!decide ((bat v (wr .i64 (v4+1)))=39)) (
    kx .ret (v,v3,(wr .i64 (v4+1)),v3,(wr .i64 (v4+1)))) (
    chk (inb (wr .i64 (v4+1)) v.length) (
     chk (decide (v3.length+1<=Ai)) (
     rec (v,v1,v2,(v3++[(UInt8.ofNat ((bat v (wr .i64 (v4+1))):Int).toNat)]),(wr .i64 ((wr .i64 (v4+1))+1))))))))) (
   chk (inb v4 v.length) (
   chk (decide (v3.length+1<=Ai)) (
    rec (v,v1,v2,(v3++[(UInt8.ofNat ((bat v v4):Int).toNat)]),(wr .i64 (v4+1)))))))) (
  kx (.exit 0) (v,v1,v2,v3,v4))
def Aqp(R:Type)(k:Nat):Px R:=pxO [] [] [(3,Am k Ad0 (Mx))] []
def Aew(k:Nat)(x:HV [.str,.int .i64]):Option (HV [.str,.int .i64]):=match x with
 |(s,i) =>
 Ak (λrec=>Mx rec (λe vz=>match vz with|(_,v6,v7,_,_)=>match e with
  |.ret =>
  some (v6,v7)
  |.exit 0 =>
  some ([],(-1))
  |_=>none)) k (s,[],0,[],i)
theorem A4k(k:Nat):FO 177 [.str,.int .i64] [.str,.int .i64] (Aew k):=fR (px:=Aqp _ k) (n:=1) Tryz.func177 rfl (λcx H=>by have h0:Lv cx (Aqp (HV [.str,.int .i64]) k):=lv H Ae Aa Ab;have hlquoted_0:=lO H h0 (b:=lp Tryz.f177 0) (k:=k) (n:=0) (s:=Ad0) (step:=Mx) (λ_ _ _ (_,_,_,_,_)=>by kernel_rfl) Ag;exact⟨h0,(A5 Ag hlquoted_0)⟩) λ(_,_)=>by kernel_rfl
def Asv(s:Str)(i:Int):Option (Str×Int):=if 0<=i/\i<=s.length/\s.length<=1000000 then some (Lp.qGo (s.drop i.toNat) [] i) else none
def Aku:FT [.str,.int .i64] [.str,.int .i64]:=λx=>Asv x.1 x.2
theorem Alp(b:UInt8):UInt8.ofNat ((b.toNat:Int)).toNat=b:=by simp
theorem Qi{R:Type}{kx:Ex->Og->Option R}{s:Str}{c:Str×Int->Option R}(hs:s.length<=1000000)(h1:∀a j,kx .ret (s,a,j,a,j)=c (a,j))(h2:∀q r a j,kx (.exit 0) (s,q,r,a,j)=c ([], -1)):∀(k i:Nat) (q:Str) (r:Int) (a:Str),a.length<=i->i<=s.length->s.length-i<k->Ak (λrec=>Mx rec kx) k (s,q,r,a,(i:Int))=c (Lp.qGo (s.drop (i:Int).toNat) a i)
 |0,i,q,r,a,_,_,h=>absurd h (Zm1 _)
 |k+1,i,q,r,a,ha,hi,h=>by
  rw[A8];by_cases hl:i<s.length
  ·have hln:ln s.length:=by simp[ln];omega
   have ea:decide (a.length+1<=Ai)=true:=Ze1 (by simp[Ai];omega);have eb:Sx.byt s (i:Int)=(s[i].toNat:Int):=C3 hl;simp only[Mx,Ay hl,As hl hln,C3 hl,ea,Alp];rw[Ze1 (show(i:Int)<(s.length:Int) by omega)];simp only[ chk];by_cases h39:(s[i].toNat:Int)=39
   ·rw[Ze1 h39,Ah];by_cases he:i+1=s.length
    ·rw[Ze1 (show((i+1:Nat):Int)=(s.length:Int) by omega),Ah,h1,Lp.q_last (by omega) (by omega) (eb.trans h39)];rfl
    ·have hl2:i+1<s.length:=by omega
     have eb2:Sx.byt s ((i:Int)+1)=(s[i+1].toNat:Int):=C3 hl2;rw[Zd1 (show ¬((i+1:Nat):Int)=(s.length:Int) by omega),Ay hl2,Af];simp only[ C3 hl2,Alp];by_cases h3:(s[i+1].toNat:Int)=39
     ·have ih:=Qi hs h1 h2 k (i+1+1) q r (a++[s[i+1]]) (by simp;omega) (by omega) (by omega);have e39:s[i+1]=39:=by rw[<-UInt8.toNat_inj];exact Int.ofNat.inj h3
      rw[Ze1 h3,Lp.q_two (by omega) (by omega) (eb.trans h39) (eb2.trans h3),As hl2 hln];simp only[Zt1];rw[ih,e39];rfl
     ·rw[Zd1 h3,Lp.q_close (by omega) (by omega) (eb.trans h39) (λe=>h3 (eb2.symm.trans e))];simp[ h1]
   ·have ih:=Qi hs h1 h2 k (i+1) q r (a++[s[i]]) (by simp;omega) (by omega) (by omega);rw[Zd1 h39,Af,ih,Lp.q_other (by omega) (by omega) (λe=>h39 (eb.symm.trans e))];have eg:s.getD (i:Int).toNat 0=s[i]:=by simp[ hl]
    rw[eg];rfl
  ·simp only[Mx,h2];rw[Zd1 (by omega),Lp.q_end (by omega)];rfl
theorem Bci:FO 177 [.str,.int .i64] [.str,.int .i64] Aku :=.fin 0 A4k λ(s,i) r hb hx=>⟨s.length+1,by
 simp only[Aku,Asv] at hx;split at hx
 ·rename_i h;rw[<-hx];obtain⟨n,rfl⟩:=Int.eq_ofNat_of_zero_le h.1;simp only[Aew];exact Qi (c:=some) h.2.2 (λ_ _=>rfl) (λ_ _ _ _=>rfl) (s.length+1) n [] 0 [] (Nat.zero_le _) (by omega) (by omega)
 ·cases hx⟩
def Aif:Sig:=⟨19,[(0,.str),(2,.int .i64),(5,.sl .str true),(6,.int .i64),(7,.int .i64)],[],[],0,0,0,[],[]⟩
abbrev Ab3:=Str×Int×List Str×Int×Int
def Atw{R:Type}(rec:Ab3->Option R)(kx:Ex->Ab3->Option R)(v:Ab3):Option R:=match v with
 |(v,v1,v2,v3,v4) =>
 cond (decide (v4<v3)) (
  chk (inb v4 v2.length) (
  cond ((hpre v (at' .str v2 v4))) (
   kx .ret (v,2,v2,v3,v4)) (
   rec (v,v1,v2,v3,(wr .i64 (v4+1)))))) (
  kx (.exit 0) (v,v1,v2,v3,v4))
def Ayj(R:Type)(k:Nat):Px R:=pxO [(170,cA A1t),(109,cA Afv)] [] [(2,Am k Aif (Atw))] []
def Al0(k:Nat)(x:HV [.str]):Option (HV [.int .i64]):=match x with
 |s =>
 Ak (λrec=>Atw rec (λe vz=>match vz with|(v5,v6,_,_,_)=>match e with
  |.ret =>
  some v6
  |.exit 0 =>
  chk (inb 0 v5.length) (
   cond (decide (0<=(Jv [40,41,44,42,61,60,62,43,45,59] (bat v5 0)))) (
   some 1) (
   some 0))
  |_=>none)) k (s,0,[[60,62],[60,61],[62,61]],3,0)
theorem Ba5(k:Nat):FO 178 [.str] [.int .i64] (Al0 k):=fR (px:=Ayj _ k) (n:=1) Tryz.func178 rfl (λcx H=>by have h0:Lv cx (Ayj (HV [.int .i64]) k):=lv H (c1 H A77 (c1 H Ag2 Ae)) Aa Ab;have hllsign_0:=lO H h0 (b:=lp Tryz.f178 0) (k:=k) (n:=0) (s:=Aif) (step:=Atw) (λ_ _ _ (_,_,_,_,_)=>by kernel_rfl) Ag;exact⟨h0,(A5 Ag hllsign_0)⟩) λ_=>by kernel_rfl
def Bif(s:Str):Option Int:=match s with|[]=>none|_=>some (Lp.signF s)
def At1:FT [.str] [.int .i64]:=λx=>Bif x
theorem Bjp:FO 178 [.str] [.int .i64] At1 :=.fin 0 Ba5 λs r hb hx=>⟨4,by
 simp only[At1] at hx;cases s with
 |nil=>cases hx
 |cons b l =>
  have hx:some (Lp.signF (b::l))=some r:=hx;rw[<-hx];have e0:inb 0 (b::l).length=true:=Awz (by simp only[Zf1];omega);have e1:hpre (b::l) [60,62]=Lp.pre (b::l) [60,62]:=rfl;have e2:hpre (b::l) [60,61]=Lp.pre (b::l) [60,61]:=rfl;have e3:hpre (b::l) [62,61]=Lp.pre (b::l) [62,61]:=rfl;have ei:Jv [40,41,44,42,61,60,62,43,45,59] (bat (b::l) 0)=Lib.indexByte Lp.signs (Sx.byt (b::l) 0).toNat.toUInt8:=rfl;simp only[Al0,Lp.signF,<-ei,<-e1,<-e2,<-e3];show cond (hpre (b::l) [60,62]) (some 2) (cond (hpre (b::l) [60,61]) (some 2) (cond (hpre (b::l) [62,61]) (some 2) (chk (inb 0 (b::l).length) (cond (decide (0<=Jv [40,41,44,42,61,60,62,43,45,59] (bat (b::l) 0))) (some 1) (some 0)))))=_;generalize Jv [40,41,44,42,61,60,62,43,45,59] (bat (b::l) 0)=z;rw[e0];by_cases hz : 0<=z
  ·rw[Ze1 hz,if_pos hz];cases hpre (b::l) [60,62]<;>cases hpre (b::l) [60,61]<;>cases hpre (b::l) [62,61]<;>rfl
  ·rw[Zd1 hz,if_neg hz];cases hpre (b::l) [60,62]<;>cases hpre (b::l) [60,61]<;>cases hpre (b::l) [62,61]<;>rfl⟩
def A9t(R:Type):Px R:=pxO [] [] [] []
def Pp(x:HV [.int .u8]):Option (HV [.int .u8,.bool]):=match x with
 |c =>
 let j:=λ(p1:Bool) =>
  cond (p1) (
  some ((wr .u8 (c-48)),true)) (
  cond (decide (97<=c)) (
   cond (decide (c<=102)) (
   some ((wr .u8 ((wr .u8 (c-97))+10)),true)) (
   some (0,false))) (
   some (0,false)))
 cond (decide (48<=c)) (
  j (decide (c<=57))) (
  j false)
theorem A28:FO 230 [.int .u8] [.int .u8,.bool] (Pp):=fR (px:=A9t _) (n:=0) Tryz.func230 rfl (λ_ H=>⟨lv H Ae Aa Ab,Ag⟩) λ_=>by kernel_rfl
def Oh(c:Int):Int×Bool :=
 let j:=λ(p1:Bool) =>
  cond (p1) (
  ((wr .u8 (c-48)),true)) (
  cond (decide (97<=c)) (
   cond (decide (c<=102)) (
   ((wr .u8 ((wr .u8 (c-97))+10)),true)) (
   (0,false))) (
   (0,false)))
 cond (decide (48<=c)) (
  j (decide (c<=57))) (
  j false)
theorem A3y(x:HV [.int .u8]):Pp x=some (Oh x):=by
 first
  |exact rfl
  |simp only[Pp,Oh,A0]
def Ax1:FT [.int .u8] [.int .u8,.bool]:=λx=>some (Oh x)
theorem Bdj:FO 230 [.int .u8] [.int .u8,.bool] Ax1 :=.fin0 A28 λx _ _ hx=>(A3y x).trans hx
def Br1(c:Int):Int×Bool:=match Lp.hexD c with|some n=>(n,true)|none=>(0,false)
theorem A4l:((List.range 256).all λn=>decide (Oh (n:Int)=Br1 (n:Int)))=true:=by kernel_rfl
theorem Bdi(b:UInt8):Oh (b.toNat:Int)=Br1 (b.toNat:Int):=by exact of_decide_eq_true (Zg2.1 A4l b.toNat (List.mem_range.2 b.toNat_lt))
def Ajf:Sig:=⟨49,[(0,.str),(2,.sl .byte true),(3,.int .i64),(4,.sl .byte true),(5,.int .i64)],[],[],0,0,0,[],[]⟩
abbrev Tm:=Str×List UInt8×Int×List UInt8×Int
def Ti{R:Type}(rec:Tm->Option R)(kx:Ex->Tm->Option R)(v:Tm):Option R:=match v with
 |(v,v1,v2,v3,v4) =>
 cond (decide (v4<(v.length:Int))) (
  chk (inb v4 v.length) (
  chk (inb (wr .i64 (v4+1)) v.length) (
   cond (!((Oh (bat v v4)).2)) (
   kx .ret (v,[],11,v3,v4)) (
   cond (!((Oh (bat v (wr .i64 (v4+1)))).2)) (
    kx .ret (v,[],11,v3,v4)) (
    chk (decide (v3.length+1<=Ai)) (
    rec (v,v1,v2,(v3++[(UInt8.ofNat ((ior .u8 (Zw .u8 ((Oh (bat v v4)).1) 4) ((Oh (bat v (wr .i64 (v4+1)))).1)):Int).toNat)]),(wr .i64 (v4+2))))))))) (
  kx (.exit 0) (v,v1,v2,v3,v4))
def Avq(R:Type)(k:Nat):Px R:=pxO [(230,cA Ax1)] [] [(5,Am k Ajf (Ti))] []
def Aky(k:Nat)(x:HV [.str]):Option (HV [.sl .byte true,.int .i64]):=match x with
 |s =>
 cond (!decide ((Int.tmod (s.length:Int) 2)=0)) (
  some ([],11)) (
  Ak (λrec=>Ti rec (λe vz=>match vz with|(_,v6,v7,v8,_)=>match e with
  |.ret =>some (v6,v7)
  |.exit 0 =>some (v8,0)
  |_=>none)) k (s,[],0,[],0))
theorem Baz(k:Nat):FO 171 [.str] [.sl .byte true,.int .i64] (Aky k):=fR (px:=Avq _ k) (n:=1) Tryz.func171 rfl (λcx H=>by have h0:Lv cx (Avq (HV [.sl .byte true,.int .i64]) k):=lv H (c1 H Bdj Ae) Aa Ab;have hlunhex_0:=lO H h0 (b:=lp Tryz.f171 0) (k:=k) (n:=0) (s:=Ajf) (step:=Ti) (λ_ _ _ (_,_,_,_,_)=>by kernel_rfl) Ag;exact⟨h0,(A5 Ag hlunhex_0)⟩) λ_=>by kernel_rfl
def unP(s:Str):Str×Int:=match(if s.length % 2=0 then Lp.unGo s [] else none) with|some b=>(b,0)|none=>([],11)
def A7m(s:Str):Option (Str×Int):=if s.length<=1000000 then some (unP s) else none
def Asp:FT [.str] [.sl .byte true,.int .i64]:=λx=>A7m x
theorem Ai7{R:Type}{kx:Ex->Tm->Option R}{s:Str}{c:Option Str->Option R}(hs:s.length<=1000000)(h1:∀a j,kx .ret (s,[],11,a,j)=c none)(h2:∀q r a j,kx (.exit 0) (s,q,r,a,j)=c (some a)):∀(k i:Nat) (q:Str) (r:Int) (a:Str),a.length<=i->i<=s.length->(s.length-i) % 2=0->s.length-i<k->Ak (λrec=>Ti rec kx) k (s,q,r,a,(i:Int))=c (Lp.unGo (s.drop (i:Int).toNat) a)
 |0,i,q,r,a,_,_,_,h=>absurd h (Zm1 _)
 |k+1,i,q,r,a,ha,hi,hev,h=>by
  rw[A8];by_cases hl:i<s.length
  ·have hl2:i+1<s.length:=by omega
   have hln:ln s.length:=by simp[ln];omega
   have ea:decide (a.length+1<=Ai)=true:=Ze1 (by simp[Ai];omega);have eb:Sx.byt s (i:Int)=(s[i].toNat:Int):=C3 hl;have eb2:Sx.byt s ((i:Int)+1)=(s[i+1].toNat:Int):=C3 hl2;have ew:wr .i64 ((i:Int)+2)=((i+1+1:Nat):Int):=by rw[B0 (by simp[inI];omega)];omega
   simp only[Ti,Ay hl,As hl hln,C3 hl,C3 hl2,Ay hl2,ea,ew,Bdi];rw[Ze1 (show(i:Int)<(s.length:Int) by omega),Lp.un_step (by omega) (by omega),eb,eb2];simp[Ah,chk,Br1];cases hx:Lp.hexD (s[i].toNat:Int) with
   |none=>exact h1 _ _
   |some x =>cases hy:Lp.hexD (s[i+1].toNat:Int) with|none=>exact h1 _ _|some y =>have ih:=Ai7 hs h1 h2 k (i+1+1) q r (a++[UInt8.ofNat (x*16+y).toNat]) (by simp[ Zi1];omega) (by omega) (by omega) (by omega);have ej:ior .u8 (Zw .u8 x 4) y=_:=Lp.joinhex' (Lp.hexD_lt hx) (Lp.hexD_lt hy);simp only[Zt1,Af,ej,Alp];exact ih
  ·simp[Ti,h2];rw[Zd1 (by omega),Zk1 (by omega)];rfl
theorem Bko:FO 171 [.str] [.sl .byte true,.int .i64] Asp :=.fin 0 Baz λs r hb hx=>⟨s.length+1,by
 simp only[Asp,A7m] at hx;split at hx
 ·rename_i h;rw[<-hx];have et:Int.tmod (s.length:Int) 2=((s.length % 2:Nat):Int):=rfl;simp only[Aky,et,unP];by_cases h2:s.length % 2=0
  ·rw[Ze1 (show((s.length % 2:Nat):Int)=0 by omega),if_pos h2,Zt1,Af];refine(Ai7 (c:=λo=>match o with|some b=>some (b,(0:Int))|none=>some ([],11)) h (λ_ _ =>?_) (λ_ _ _ _ =>?_) (s.length+1) 0 [] 0 [] (Nat.zero_le _) (Nat.zero_le _) h2 (by omega)).trans ?_
   ·rfl
   ·rfl
   simp only[Int.toNat_natCast,Zq1];cases Lp.unGo s []<;>rfl
  ·rw[Zd1 (show ¬((s.length % 2:Nat):Int)=0 by omega),if_neg h2];rfl
 ·cases hx⟩
def Blr(R:Type):Px R:=pxO [(131,cA A1o)] [] [] []
def V1(x:HV [.str]):Option (HV [.bool]):=match x with
 |s =>
 some (Ayp wordsL s)
theorem Bdf:FO 173 [.str] [.bool] (V1):=fR (px:=Blr _) (n:=0) Tryz.func173 rfl (λ_ H=>⟨lv H (c1 H A6o Ae) Aa Ab,Ag⟩) λ_=>by kernel_rfl
def Aoc(s:Str):Bool :=(Ayp wordsL s)
theorem Bbv(x:HV [.str]):V1 x=some (Aoc x):=by
 first
  |exact rfl
  |simp only[V1,Aoc,A0]
def A4u:FT [.str] [.bool]:=λx=>some (Aoc x)
theorem Bim:FO 173 [.str] [.bool] A4u :=.fin0 Bdf λx _ _ hx=>(Bbv x).trans hx
theorem Bkw(s:Str):Aoc s=Lp.wordF s:=A4w wordsL s
def Qf:Sig:=⟨21,[(0,.str),(1,.int .i64)],[(2,.fn 175 [])],[(0,.one (.sv .tok)),(1,.one (.sv .tok))],40,40,200,[],[]⟩
abbrev Fq:=Str×Int×Tok×Tok
def Jc{R:Type}(rec:Fq->Option R)(kx:Ex->Fq->Option R)(v:Fq):Option R:=match v with
 |(a,b,w4,w5) =>
 cond (decide (b<(a.length:Int))) (
  chk (inb b a.length) (
  cond ((Y4 (bat a b))) (
   rec (a,(wr .i64 (b+1)),w4,w5)) (
   kx (.exit 0) (a,b,w4,w5)))) (
  kx (.exit 0) (a,b,w4,w5))
def Qz:Sig:=⟨21,[(0,.str),(1,.int .i64)],[(2,.fn 121 [])],[(0,.one (.sv .tok)),(1,.one (.sv .tok))],40,40,200,[],[]⟩
abbrev Ft:=Str×Int×Tok×Tok
def Ji{R:Type}(rec:Ft->Option R)(kx:Ex->Ft->Option R)(v:Ft):Option R:=match v with
 |(v6,v7,w2,w3) =>
 cond (decide (v7<(v6.length:Int))) (
  chk (inb v7 v6.length) (
  cond ((Aem (bat v6 v7))) (
   rec (v6,(wr .i64 (v7+1)),w2,w3)) (
   kx (.exit 0) (v6,v7,w2,w3)))) (
  kx (.exit 0) (v6,v7,w2,w3))
def Qv:Sig:=⟨21,[(0,.str),(1,.int .i64)],[(2,.fn 172 [])],[(0,.one (.sv .tok)),(1,.one (.sv .tok))],40,40,200,[],[]⟩
abbrev Fy:=Str×Int×Tok×Tok
def Jb{R:Type}(rec:Fy->Option R)(kx:Ex->Fy->Option R)(v:Fy):Option R:=match v with
 |(v,v1,w,w1) =>
 cond (decide (v1<(v.length:Int))) (
  chk (inb v1 v.length) (
  cond ((Adu (bat v v1))) (
   rec (v,(wr .i64 (v1+1)),w,w1)) (
   kx (.exit 0) (v,v1,w,w1)))) (
  kx (.exit 0) (v,v1,w,w1))
def F4(R:Type)(k:Nat):Px R:=pxO [(172,cA Afw),(121,cA Agi),(175,cA Af4)] [] [(1,Zg k Qv (Jb) (Zg k Qz (Ji) (Am k Qf (Jc))))] []
noncomputable def Ant(R:Type)(k:Nat):Px R:=pxO [(170,cA A1t),(109,cA Afv),(171,cA Asp),(172,cA Afw),(173,cA A4u),(174,cA Arn),(119,cA Af1),(83,cA Jz),(175,cA Af4),(176,cA Ajj),(177,cA Aku),(59,cA Ms),(178,cA At1),(120,Aq 40 200 (F4 R k) Tryz.f120)] [] [] []
theorem Awt(R:Type)(k:Nat):∀(fr:List Fr) (rec:Fy->Option R) (kx:Ex->Fy->Option R) (v:Fy),Ot (F4 R k) Qv (lp Tryz.f120 0) fr rec kx v=Jb rec kx v
 |fr,rec,kx,(v,v1,w,w1)=>by kernel_rfl
theorem Azp(R:Type)(k:Nat):∀(fr:List Fr) (rec:Ft->Option R) (kx:Ex->Ft->Option R) (v:Ft),Ot (F4 R k) Qz (lp Tryz.f120 0) fr rec kx v=Ji rec kx v
 |fr,rec,kx,(v6,v7,w2,w3)=>by kernel_rfl
theorem Azv(R:Type)(k:Nat):∀(fr:List Fr) (rec:Fq->Option R) (kx:Ex->Fq->Option R) (v:Fq),Ot (F4 R k) Qf (lp Tryz.f120 0) fr rec kx v=Jc rec kx v
 |fr,rec,kx,(a,b,w4,w5)=>by kernel_rfl
def Rb(k:Nat)(x:HV [.str,.int .i64]):Option (HV [.sv .tok,.int .i64]):=match x with
 |(s,i) =>
 chk (inb i s.length) (
  chk (upto i s.length s.length) (
  cond ((hpre (s.drop (i:Int).toNat) [120,39])) (
   chk (upto (wr .i64 (i+2)) s.length s.length) (
   cond (decide ((Jv (s.drop ((wr .i64 (i+2)):Int).toNat) 39)<0)) (
    some ((Tok.mk 0 i [] 0),(-1))) (
    chk (upto (wr .i64 (i+2)) (wr .i64 ((wr .i64 (i+2))+(Jv (s.drop ((wr .i64 (i+2)):Int).toNat) 39))) s.length) (
    (A7m (cut s (wr .i64 (i+2)) (wr .i64 ((wr .i64 (i+2))+(Jv (s.drop ((wr .i64 (i+2)):Int).toNat) 39))))).bind λ(x,x1) =>
     cond (!decide (x1=0)) (
     some ((Tok.mk 5 i x 0),(-1))) (
     cond (decide (1000<(x.length:Int))) (
      some ((Tok.mk 5 i x 0),(-1))) (
      some ((Tok.mk 5 i x 0),(wr .i64 ((wr .i64 (i+3))+(Jv (s.drop ((wr .i64 (i+2)):Int).toNat) 39)))))))))) (
   cond ((Adu (bat s i))) (
   Ak (λrec=>Jb rec (λe vz=>match vz with|(_,v3,_,v5)=>match e with
    |.exit 0 =>
    chk (upto i v3 s.length) (
     cond (!(Aoc (cut s i v3))) (
     some ((Tok.mk 1 v5.pos (cut s i v3) v5.n),(-1))) (
     (Ul s v3).bind λx2 =>
      cond (!x2) (
      some ((Tok.mk 1 v5.pos (cut s i v3) v5.n),(-1))) (
      some ((Tok.mk 1 v5.pos (cut s i v3) v5.n),v3))))
    |_=>none)) k (s,i,(Tok.mk 0 0 [] 0),(Tok.mk 0 i [] 0))) (
   cond ((Aaa (bat s i))) (
    Ak (λrec=>Ji rec (λe vz=>match vz with|(_,v9,_,b)=>match e with
    |.exit 0 =>
     chk (upto i v9 s.length) (
     cond (!(Gh (cut s i v9))) (
      some ((Tok.mk 2 b.pos (cut s i v9) b.n),(-1))) (
      (Ul s v9).bind λx3 =>
      cond (!x3) (
       some ((Tok.mk 2 b.pos (cut s i v9) b.n),(-1))) (
       some ((Tok.mk 2 b.pos (cut s i v9) b.n),v9))))
    |_=>none)) k (s,i,(Tok.mk 0 0 [] 0),(Tok.mk 0 i [] 0))) (
    cond ((Y4 (bat s i))) (
    Ak (λrec=>Jc rec (λe vz=>match vz with|(_,a,_,c)=>match e with
     |.exit 0 =>
     chk (upto i a s.length) (
      (Aum (cut s i a)).bind λ(x4,x5) =>
      chk (upto i a s.length) (
       cond (!x5) (
       some ((Tok.mk 3 c.pos (cut s i a) x4),(-1))) (
       (Ul s a).bind λx6 =>
        cond (!x6) (
        some ((Tok.mk 3 c.pos (cut s i a) x4),(-1))) (
        some ((Tok.mk 3 c.pos (cut s i a) x4),a)))))
     |_=>none)) k (s,i,(Tok.mk 0 0 [] 0),(Tok.mk 0 i [] 0))) (
    cond (decide ((bat s i)=39)) (
     (Asv s (wr .i64 (i+1))).bind λ(x7,x8) =>
     cond (!decide ((Gr (Val.mk 4 0 x7))=0)) (
      some ((Tok.mk 4 i x7 0),(-1))) (
      some ((Tok.mk 4 i x7 0),x8))) (
     chk (upto i s.length s.length) (
     (Bif (s.drop (i:Int).toNat)).bind λx9 =>
      chk (upto i (wr .i64 (i+x9)) s.length) (
      cond (decide (x9=0)) (
       some ((Tok.mk 6 i (cut s i (wr .i64 (i+x9))) 0),(-1))) (
       some ((Tok.mk 6 i (cut s i (wr .i64 (i+x9))) 0),(wr .i64 (i+x9)))))))))))))
theorem A04(k:Nat):FO 110 [.str,.int .i64] [.sv .tok,.int .i64] (Rb k):=fR (px:=Ant _ k) (n:=0) Tryz.func110 rfl (λcx H=>by have h1:Lv cx (F4 (HV [.sv .tok,.int .i64]) k):=lv H (c1 H Agq (c1 H Ake (c1 H Akh Ae))) Aa Ab;have hlltoken_0:B3 cx (F4 (HV [.sv .tok,.int .i64]) k) (lp Tryz.f120 0):=A5p (λ_ _=>by kernel_rfl) (Ac6 (Q1 h1.p h1.c h1.q (by rw[H.p];exact follows) (k:=k) (s:=Qv) (step:=Jb) (by kernel_rfl) (Awt _ k) (Hl (n:=0) (by kernel_rfl) Ag)) (Ac6 (Q1 h1.p h1.c h1.q (by rw[H.p];exact follows) (k:=k) (s:=Qz) (step:=Ji) (by kernel_rfl) (Azp _ k) (Hl (n:=0) (by kernel_rfl) Ag)) (Q1 h1.p h1.c h1.q (by rw[H.p];exact follows) (k:=k) (s:=Qf) (step:=Jc) (by kernel_rfl) (Azv _ k) (Hl (n:=0) (by kernel_rfl) Ag))));have h0:Lv cx (Ant (HV [.sv .tok,.int .i64]) k):=lv H (c1 H A77 (c1 H Ag2 (c1 H Bko (c1 H Agq (c1 H Bim (c1 H Bj6 (c1 H Ai9 (c1 H Mn (c1 H Akh (c1 H Bay (c1 H Bci (c1 H Mt (c1 H Bjp (Al (cR H h1 Tryz.func120 rfl (n:=1) ((A5 Ag hlltoken_0))) Ae)))))))))))))) Aa Ab;exact⟨h0,Ag⟩) λ(_,_)=>by kernel_rfl
def Acj(s:Str)(i:Int):Option (Tok×Int):=if s.length<=20000 then Rb 20001 (s,i) else none
def Ag5:FT [.str,.int .i64] [.sv .tok,.int .i64]:=λx=>Acj x.1 x.2
theorem Bc7:FO 110 [.str,.int .i64] [.sv .tok,.int .i64] Ag5 :=.fin 0 A04 λ(s,i) r hb hx=>⟨20001,by
 simp only[Ag5,Acj] at hx;split at hx
 ·exact hx
 ·cases hx⟩
theorem Uf{R:Type}{kx:Ex->Fy->Option R}{s:Str}(w w1:Tok){a:Int->Option R}(hs:ln s.length)(h1:∀j,kx (.exit 0) (s,j,w,w1)=a j):∀(k i:Nat),i<=s.length->s.length-i<k->Ak (λrec=>Jb rec kx) k (s,(i:Int),w,w1)=a (Lp.runTo Lp.isUp s i)
 |0,i,_,h=>absurd h (Zm1 _)
 |k+1,i,hi,h=>by
  rw[A8];by_cases hl:i<s.length
  ·have ih:=Uf w w1 hs h1 k (i+1) (by omega) (by omega);have eb:Sx.byt s (i:Int)=(s[i].toNat:Int):=C3 hl;simp only[Jb,As hl hs,ih,h1,C3 hl,Ay hl,Aj6];rw[Ze1 (show(i:Int)<(s.length:Int) by omega)];cases hp:Lp.isUp (s[i].toNat:Int) with|true =>have:=Lp.runTo_yes (p:=Lp.isUp) (l:=s) (j:=i) (by omega) (by rw[eb];exact hp);rw[<-this];rfl|false =>have:=Lp.runTo_no (p:=Lp.isUp) (l:=s) (j:=i) (by omega) (by rw[eb];exact hp);rw[this];rfl
  ·have:=Lp.runTo_end (p:=Lp.isUp) (l:=s) (j:=i) (by omega);simp only[Jb,h1];rw[Zd1 (by omega),this];rfl
theorem T5{R:Type}{kx:Ex->Ft->Option R}{s:Str}(w w1:Tok){a:Int->Option R}(hs:ln s.length)(h1:∀j,kx (.exit 0) (s,j,w,w1)=a j):∀(k i:Nat),i<=s.length->s.length-i<k->Ak (λrec=>Ji rec kx) k (s,(i:Int),w,w1)=a (Lp.runTo Lp.isIn s i)
 |0,i,_,h=>absurd h (Zm1 _)
 |k+1,i,hi,h=>by
  rw[A8];by_cases hl:i<s.length
  ·have ih:=T5 w w1 hs h1 k (i+1) (by omega) (by omega);have eb:Sx.byt s (i:Int)=(s[i].toNat:Int):=C3 hl;simp only[Ji,As hl hs,ih,h1,C3 hl,Ay hl,Ahx];rw[Ze1 (show(i:Int)<(s.length:Int) by omega)];cases hp:Lp.isIn (s[i].toNat:Int) with|true =>have:=Lp.runTo_yes (p:=Lp.isIn) (l:=s) (j:=i) (by omega) (by rw[eb];exact hp);rw[<-this];rfl|false =>have:=Lp.runTo_no (p:=Lp.isIn) (l:=s) (j:=i) (by omega) (by rw[eb];exact hp);rw[this];rfl
  ·have:=Lp.runTo_end (p:=Lp.isIn) (l:=s) (j:=i) (by omega);simp only[Ji,h1];rw[Zd1 (by omega),this];rfl
theorem Uc{R:Type}{kx:Ex->Fq->Option R}{s:Str}(w w1:Tok){a:Int->Option R}(hs:ln s.length)(h1:∀j,kx (.exit 0) (s,j,w,w1)=a j):∀(k i:Nat),i<=s.length->s.length-i<k->Ak (λrec=>Jc rec kx) k (s,(i:Int),w,w1)=a (Lp.runTo Lp.isDi s i)
 |0,i,_,h=>absurd h (Zm1 _)
 |k+1,i,hi,h=>by
  rw[A8];by_cases hl:i<s.length
  ·have ih:=Uc w w1 hs h1 k (i+1) (by omega) (by omega);have eb:Sx.byt s (i:Int)=(s[i].toNat:Int):=C3 hl;simp only[Jc,As hl hs,ih,h1,C3 hl,Ay hl,Ahd];rw[Ze1 (show(i:Int)<(s.length:Int) by omega)];cases hp:Lp.isDi (s[i].toNat:Int) with|true =>have:=Lp.runTo_yes (p:=Lp.isDi) (l:=s) (j:=i) (by omega) (by rw[eb];exact hp);rw[<-this];rfl|false =>have:=Lp.runTo_no (p:=Lp.isDi) (l:=s) (j:=i) (by omega) (by rw[eb];exact hp);rw[this];rfl
  ·have:=Lp.runTo_end (p:=Lp.isDi) (l:=s) (j:=i) (by omega);simp only[Jc,h1];rw[Zd1 (by omega),this];rfl
theorem U4{i j:Int}{n:Nat}(h : 0<=i/\i<=j/\j<=n):upto i j n=true:=by simp[upto,h]
theorem A3s{n:Int}(h : 0<=n/\n<=1000000):wr .i64 n=n:=B0 (by simp[inI];omega)
theorem A9d{x:Str}(h:x≠[]):Aum x=some (Bga x):=by cases x with|nil=>exact absurd rfl h|cons b l=>rfl
theorem Bgm{x:Str}(h:x≠[]):Bif x=some (Lp.signF x):=by cases x with|nil=>exact absurd rfl h|cons b l=>rfl
theorem Ah1{s:Str}{i:Int}(h : 0<=i/\i<=s.length):Ul s i=some (Lp.aloneF s i):=if_pos h
theorem A39(x:Str):M4 x=Lp.visF x:=by
 have e:∀b:UInt8,vis b=Lp.vis (b.toNat:Int):=λb=>by simp[vis,Lp.vis];rw[show decide (32<=b.toNat)=decide (32<=(b.toNat:Int)) from Zy1.2 (by omega),show decide (b.toNat<=126)=decide ((b.toNat:Int)<=126) from Zy1.2 (by omega)]
 simp[M4];congr 1;funext b;exact e b
theorem Avy(x:Str):Be (Val.mk 4 0 x)=Lp.rightF 4 0 x:=by show cond (decide ((x.length:Int)<=1000)) (M4 x) false=(decide ((x.length:Int)<=1000)&&Lp.visF x);rw[A39];cases decide ((x.length:Int)<=1000)<;>rfl
theorem Aw7(x:Str):decide (Gr (Val.mk 4 0 x)=0)=Lp.rightF 4 0 x:=by
 have key:∀b:Bool,decide (cond (!b) (2:Int) 0=0)=b:=by decide
 rw[<-Avy];exact key _
theorem A4f{s:Str}{i:Int}(hl : 0<=i/\i<s.length)(hs:s.length<=20000):match Lp.tokF s i with
  |some (k,x,n,e)=>Acj s i=some (⟨k,i,x,n⟩,e)
  |none=>∃t,Acj s i=some (t, -1):=by
 have hln:ln s.length:=by simp[ln];omega
 have hd:(s.drop i.toNat).length=s.length-i.toNat:=Za2;have hd2:(s.drop (i+2).toNat).length=s.length-(i+2).toNat:=Za2;have hne:s.drop i.toNat≠[]:=List.ne_nil_of_length_pos (by omega);obtain⟨m,rfl⟩:=Int.eq_ofNat_of_zero_le hl.1;have hm:m<s.length:=by omega
 have ep:∀p q,hpre p q=Lp.pre p q:=λ_ _=>rfl;have eb:bat s (m:Int)=Sx.byt s (m:Int):=rfl;have e39:Jv (s.drop ((m:Int)+2).toNat) 39=Lib.indexByte (s.drop ((m:Int)+2).toNat) 39:=rfl;simp only[Acj,if_pos hs,Rb,Ay hm,U4 (show 0<=(m:Int)/\(m:Int)<=(s.length:Int)/\(s.length:Int)<=s.length by omega),ep,eb,Aj6,Aj5,Ahd,chk,Ah,Lp.tokF,A3s (show 0<=(m:Int)+2/\(m:Int)+2<=1000000 by omega),A3s (show 0<=(m:Int)+3/\(m:Int)+3<=1000000 by omega),A3s (show 0<=(m:Int)+1/\(m:Int)+1<=1000000 by omega)];cases hx:Lp.pre (s.drop (m:Int).toNat) [120,39] with
 |true =>
  have h2 : 2<=(s.drop (m:Int).toNat).length:=by simp[Lp.pre,Zb1,Zg1,Zf1,Zi1] at hx;omega
  have hib:=Lp.indexByte_in (s.drop ((m:Int)+2).toNat) 39;simp[if_true,Ah];rw[U4 (show 0<=(m:Int)+2/\(m:Int)+2<=(s.length:Int)/\(s.length:Int)<=s.length by omega),e39,Ah];generalize Lib.indexByte (s.drop ((m:Int)+2).toNat) 39=z at hib ⊢;by_cases hz:z<0
  ·rw[if_pos hz,Ze1 hz];exact⟨_,rfl⟩
  ·rw[if_neg hz,Zd1 hz,A3s (show 0<=(m:Int)+2+z/\(m:Int)+2+z<=1000000 by omega),A3s (show 0<=(m:Int)+3+z/\(m:Int)+3+z<=1000000 by omega),U4 (show 0<=(m:Int)+2/\(m:Int)+2<=(m:Int)+2+z/\(m:Int)+2+z<=s.length by omega),Af,Ah];have hcl:=Lp.cut_length s ((m:Int)+2) ((m:Int)+2+z) (by omega);have ec:cut s ((m:Int)+2) ((m:Int)+2+z)=Sx.cut s ((m:Int)+2) ((m:Int)+2+z):=rfl;rw[ec];generalize Sx.cut s ((m:Int)+2) ((m:Int)+2+z)=y at hcl ⊢;have eu:A7m y=some (unP y):=if_pos (by omega);rw[eu,unP];cases (if y.length % 2=0 then Lp.unGo y [] else none) with
   |none=>exact⟨_,rfl⟩
   |some b =>
    by_cases hb : 1000<(b.length:Int)
    ·simp[Zc1];rw[if_pos hb,Ze1 hb];exact⟨_,rfl⟩
    ·simp[Zc1];rw[if_neg hb,Zd1 hb];rfl
 |false =>
  simp only[Af,Zj2,if_false];cases hu:Lp.isUp (Sx.byt s (m:Int)) with
  |true =>
   have hr:=Lp.runTo_range Lp.isUp s m (by omega);simp only[Ah,if_true];rw[Uf (s:=s) (w:=Tok.mk 0 0 [] 0) (w1:=Tok.mk 0 m [] 0) (a:=λv3=>cond (upto (m:Int) v3 s.length) (cond (!(Aoc (cut s m v3))) (some ((Tok.mk 1 m (cut s m v3) 0),(-1))) ((Ul s v3).bind λx2=>cond (!x2) (some ((Tok.mk 1 m (cut s m v3) 0),(-1))) (some ((Tok.mk 1 m (cut s m v3) 0),v3)))) none) hln (λ_=>rfl) 20001 m (by omega) (by omega)];rw[U4 (by omega),Ah1 (by omega),Bkw];have ec:cut s (m:Int) (Lp.runTo Lp.isUp s m)=Sx.cut s (m:Int) (Lp.runTo Lp.isUp s m):=rfl;rw[ec];cases Lp.wordF (Sx.cut s (m:Int) (Lp.runTo Lp.isUp s m)) with
   |false=>exact⟨_,rfl⟩
   |true =>cases Lp.aloneF s (Lp.runTo Lp.isUp s m) with|false=>exact⟨_,rfl⟩|true=>rfl
  |false =>
   simp only[Af,Zj2,if_false];cases hu2:Lp.isLo (Sx.byt s (m:Int)) with
   |true =>
    have hr:=Lp.runTo_range Lp.isIn s m (by omega);simp only[Ah,if_true];rw[T5 (s:=s) (w:=Tok.mk 0 0 [] 0) (w1:=Tok.mk 0 m [] 0) (a:=λv3=>cond (upto (m:Int) v3 s.length) (cond (!(Gh (cut s m v3))) (some ((Tok.mk 2 m (cut s m v3) 0),(-1))) ((Ul s v3).bind λx2=>cond (!x2) (some ((Tok.mk 2 m (cut s m v3) 0),(-1))) (some ((Tok.mk 2 m (cut s m v3) 0),v3)))) none) hln (λ_=>rfl) 20001 m (by omega) (by omega)];rw[U4 (by omega),Ah1 (by omega)];have ec:cut s (m:Int) (Lp.runTo Lp.isIn s m)=Sx.cut s (m:Int) (Lp.runTo Lp.isIn s m):=rfl;rw[ec];simp[Gh];cases Lp.nameF (Sx.cut s (m:Int) (Lp.runTo Lp.isIn s m)) with
    |false=>exact⟨_,rfl⟩
    |true =>cases Lp.aloneF s (Lp.runTo Lp.isIn s m) with|false=>exact⟨_,rfl⟩|true=>rfl
   |false =>
    simp only[Af,Zj2,if_false];cases hu3:Lp.isDi (Sx.byt s (m:Int)) with
    |true =>
     have hr:=Lp.runTo_range Lp.isDi s m (by omega);have hg:=Lp.runTo_gt (p:=Lp.isDi) (by omega) hu3;have hcl:=Lp.cut_length s (m:Int) (Lp.runTo Lp.isDi s m) (by omega);simp only[Ah,if_true];rw[Uc (s:=s) (w:=Tok.mk 0 0 [] 0) (w1:=Tok.mk 0 m [] 0) (a:=λv3=>cond (upto (m:Int) v3 s.length) ((Aum (cut s m v3)).bind λ(x4,x5)=>cond (upto (m:Int) v3 s.length) (cond (!x5) (some ((Tok.mk 3 m (cut s m v3) x4),(-1))) ((Ul s v3).bind λx6=>cond (!x6) (some ((Tok.mk 3 m (cut s m v3) x4),(-1))) (some ((Tok.mk 3 m (cut s m v3) x4),v3)))) none) none) hln (λ_=>rfl) 20001 m (by omega) (by omega)];have ec:cut s (m:Int) (Lp.runTo Lp.isDi s m)=Sx.cut s (m:Int) (Lp.runTo Lp.isDi s m):=rfl;rw[U4 (by omega),Ah1 (by omega),ec];generalize Sx.cut s (m:Int) (Lp.runTo Lp.isDi s m)=y at hcl ⊢;rw[A9d (List.ne_nil_of_length_pos (by omega)),Bga];cases Lp.numGo y 0 with
     |none=>exact⟨_,rfl⟩
     |some n =>
      simp only[Zc1,Ah];have e0:(decide (y=[48]) || !decide (bat y 0=48))=(decide (y=[48])||Sx.byt y 0 != 48):=rfl;rw[e0];cases (decide (y=[48])||Sx.byt y 0 != 48) with
      |false=>exact⟨_,rfl⟩
      |true =>cases Lp.aloneF s (Lp.runTo Lp.isDi s m) with|false=>exact⟨_,rfl⟩|true=>rfl
    |false =>
     simp only[Af,Zj2,if_false];by_cases h39:Sx.byt s (m:Int)=39
     ·have hqi:=Lp.qGo_in _ (s.drop ((m:Int)+1).toNat) [] ((m:Int)+1) (Zn1 _) (by omega);have eq:Asv s ((m:Int)+1)=some (Lp.qGo (s.drop ((m:Int)+1).toNat) [] ((m:Int)+1)):=if_pos (by omega);rw[Ze1 h39,if_pos h39,eq];simp only[Ah,Zc1,Aw7];generalize Lp.qGo (s.drop ((m:Int)+1).toNat) [] ((m:Int)+1)=q at hqi ⊢;obtain⟨y,z⟩:=q;cases Lp.rightF 4 0 y with
      |false=>exact⟨_,rfl⟩
      |true =>
       simp only[if_true,Zt1,Af];by_cases hz:z<0
       ·rw[if_pos hz];obtain rfl:z = -1:=by simp only at hqi;omega
        exact⟨_,rfl⟩
       ·rw[if_neg hz]
     ·have hsi:=Lp.signF_in (s.drop (m:Int).toNat) (by omega);rw[Zd1 h39,if_neg h39,Bgm hne];simp only[Af,Zc1];generalize Lp.signF (s.drop (m:Int).toNat)=z at hsi ⊢;rw[A3s (show 0<=(m:Int)+z/\(m:Int)+z<=1000000 by omega),U4 (by omega)];by_cases hz:z=0
      ·rw[Ze1 hz,if_pos hz];exact⟨_,rfl⟩
      ·rw[Zd1 hz,if_neg hz];rfl
def Aql:Sig:=⟨38,[(0,.str),(2,.sl .tok true),(3,.int .i64),(4,.int .i64),(5,.sl .tok true),(6,.int .i64)],[],[],0,0,0,[],[]⟩
abbrev Aai:=Str×List Tok×Int×Int×List Tok×Int
def Acx{R:Type}(rec:Aai->Option R)(kx:Ex->Aai->Option R)(v:Aai):Option R:=match v with
 |(v,v1,v2,v3,v4,v5) =>
 cond (decide (v5<(v.length:Int))) (
  chk (inb v5 v.length) (
  cond (decide (0<=(Jv [32,9,10,13] (bat v v5)))) (
   rec (v,v1,v2,v3,v4,(wr .i64 (v5+1)))) (
   (Acj v v5).bind λ(x,x1) =>
   cond (decide (x1<0)) (
    kx .ret (v,[],v5,11,v4,v5)) (
    chk (decide (v4.length+1<=Ai)) (
    rec (v,v1,v2,v3,(v4++[x]),x1)))))) (
  kx (.exit 0) (v,v1,v2,v3,v4,v5))
def A6y(R:Type)(k:Nat):Px R:=pxO [(109,cA Afv),(110,cA Ag5)] [] [(5,Am k Aql (Acx))] []
def Ap3(k:Nat)(x:HV [.str]):Option (HV [.sl .tok true,.int .i64,.int .i64]):=match x with
 |s =>
 cond (decide (20000<(s.length:Int))) (
  some ([],0,3)) (
  Ak (λrec=>Acx rec (λe vz=>match vz with|(_,v7,v8,v9,a,_)=>match e with
  |.ret =>some (v7,v8,v9)
  |.exit 0 =>some (a,0,0)
  |_=>none)) k (s,[],0,0,[],0))
theorem Bgc(k:Nat):FO 71 [.str] [.sl .tok true,.int .i64,.int .i64] (Ap3 k):=fR (px:=A6y _ k) (n:=1) Tryz.func71 rfl (λcx H=>by have h0:Lv cx (A6y (HV [.sl .tok true,.int .i64,.int .i64]) k):=lv H (c1 H Ag2 (c1 H Bc7 Ae)) Aa Ab;have hllall_0:=lO H h0 (b:=lp Tryz.f71 0) (k:=k) (n:=0) (s:=Aql) (step:=Acx) (λ_ _ _ (_,_,_,_,_,_)=>by kernel_rfl) Ag;exact⟨h0,(A5 Ag hllall_0)⟩) λ_=>by kernel_rfl
def Btc(s:Str):List Tok×Int×Int:=if 20000<(s.length:Int) then([],0,3) else match Lp.allF s with|.error i=>([],i,11)|.ok ts=>(ts,0,0)
abbrev A9r(s:Str):List Tok×Int×Int:=Btc s
def A0x:FT [.str] [.sl .tok true,.int .i64,.int .i64]:=λx=>some (A9r x)
theorem Bjx(c:Int):decide (0<=Jv [32,9,10,13] c)=Lp.blankF c:=rfl
theorem Aaz{R:Type}{kx:Ex->Aai->Option R}{s:Str}{c:Except Int (List Tok)->Option R}(hs:s.length<=20000)(h1:∀a i j,kx .ret (s,[],i,11,a,j)=c (.error i))(h2:∀q r t a j,kx (.exit 0) (s,q,r,t,a,j)=c (.ok a)):∀(k:Nat) (i:Int) (f:Nat) (q:List Tok) (r t:Int) (a:List Tok),(a.length:Int)<=i->0<=i->i<=s.length->(s.length:Int)-i<k->(s.length:Int)-i<f->Ak (λrec=>Acx rec kx) k (s,q,r,t,a,i)=c (Lp.allGo f s i a)
 |0,i,f,q,r,t,a,_,_,_,h,_=>by omega
 |k+1,i,0,q,r,t,a,_,_,_,_,h=>by omega
 |k+1,i,f+1,q,r,t,a,ha,h0,hi,h,hf=>by
  rw[A8];by_cases hl:i<s.length
  ·have ea:decide (a.length+1<=Ai)=true:=Ze1 (by simp[Ai];omega);have eb:bat s i=Sx.byt s i:=rfl;simp[Acx,Awz (show 0<=i/\i<(s.length:Int) from⟨h0,hl⟩),Bjx,ea,eb,Lp.allGo];rw[Ze1 hl,if_neg (show ¬(s.length:Int)<=i by omega)];simp[Ah,chk];cases hbl:Lp.blankF (Sx.byt s i) with
   |true =>rw[A3s (by omega)];simp[Ah,if_true];exact Aaz hs h1 h2 k (i+1) f q r t a (by omega) (by omega) (by omega) (by omega) (by omega)
   |false =>have ht:=A4f (s:=s) (i:=i) ⟨h0,hl⟩ hs;simp[Af,Zj2,if_false];cases hk:Lp.tokF s i with|none =>rw[hk] at ht;obtain⟨u,hu⟩:=ht;rw[hu];exact h1 _ _ _|some y =>obtain⟨y1,y2,y3,e⟩:=y;rw[hk] at ht;have hte:=Lp.tok_end ⟨h0,hl⟩ hk;simp only at ht;rw[ht];simp[Zc1];rw[Zd1 (show ¬e<0 by omega),Af];exact Aaz hs h1 h2 k e f q r t (a++[⟨y1,i,y2,y3⟩]) (by simp[Zh1,Zf1,Zi1];omega) (by omega) (by omega) (by omega) (by omega)
  ·simp[Acx,h2,Lp.allGo];rw[Zd1 hl,if_pos (show(s.length:Int)<=i by omega)];rfl
theorem Bnw:FO 71 [.str] [.sl .tok true,.int .i64,.int .i64] A0x :=.fin 0 Bgc λs r hb hx=>⟨20001,by
 simp only[A0x,Za1] at hx;rw[<-hx];simp only[Ap3,A9r,Btc];by_cases hbig : 20000<(s.length:Int)
 ·rw[Ze1 hbig,if_pos hbig];rfl
 ·rw[Zd1 hbig,if_neg hbig,Af];refine(Aaz (s:=s) (c:=λo=>match o with|.error i=>some ([],i,(11:Int))|.ok ts=>some (ts,(0:Int),(0:Int))) (by omega) (λ_ _ _ =>?_) (λ_ _ _ _ _ =>?_) 20001 0 (s.length+1) [] 0 0 [] (by simp) (by omega) (by omega) (by omega) (by omega)).trans ?_
  ·rfl
  ·rfl
  ·show _=some (match Lp.allGo (s.length+1) s 0 [] with|.error i=>([],i,(11:Int))|.ok ts=>(ts,(0:Int),(0:Int)));cases Lp.allGo (s.length+1) s 0 []<;>rfl⟩
def Hk:Sig:=⟨1,[],[(0,.ptr 0 0)],[(0,.cells [.sl .tok false,.int .i64,.bool,.int .i64])],1,1,0,[],[]⟩
def Hv:Sig:=⟨1,[(0,.sv .tok)],[],[(0,.cells [.sl .tok false,.int .i64,.bool,.int .i64])],1,1,0,[],[]⟩
abbrev A7r:=List Tok×Int×Bool×Int
abbrev A79:=Tok×List Tok×Int×Bool×Int
def Bkl(R:Type):Px R:=pxO [] [] [] []
def Ag1(x:A7r):Option (A79):=match x with
 |(l,n,b,p) =>
 cond (decide ((l.length:Int)=0)) (
  some ((Tok.mk 0 n [] 0),l,n,b,p)) (
  chk (inb 0 l.length) (
  some ((at' .tok l 0),l,n,b,p)))
theorem Bbu:FM 111 Hk Hv (Ag1):=fRL (px:=Bkl _) (n:=0) Tryz.func111 rfl (λ_ H=>⟨lv H Ae Aa Ab,Ag⟩) λ(_,_,_,_)=>by kernel_rfl
def Eo:A7r->Option A79:=λx=>Ag1 x
theorem L1:FM 111 Hk Hv (Eo):=Bbu
def Jm:Sig:=⟨1,[],[(0,.ptr 0 0)],[(0,.cells [.sl .tok false,.int .i64,.bool,.int .i64])],1,1,0,[],[]⟩
def Jg:Sig:=⟨1,[(0,.sv .tok)],[],[(0,.cells [.sl .tok false,.int .i64,.bool,.int .i64])],1,1,0,[],[]⟩
abbrev A6k:=List Tok×Int×Bool×Int
abbrev A8c:=Tok×List Tok×Int×Bool×Int
def Biu(R:Type):Px R:=pxO [(111,Aj Hk Hv Eo)] [] [] []
def Ale(x:A6k):Option (A8c):=match x with
 |(l,n,b,p) =>
 (Eo (l,n,b,p)).bind λ(x,x1,x2,x3,x4) =>
  cond (decide (0<(x1.length:Int))) (
  chk (upto 1 x1.length x1.length) (
   some (x,(x1.drop (1:Int).toNat),x2,x3,x4))) (
  some (x,x1,x2,x3,x4))
theorem Ba8:FM 112 Jm Jg (Ale):=fRL (px:=Biu _) (n:=0) Tryz.func112 rfl (λ_ H=>⟨lv H (l1 H L1 Ae) Aa Ab,Ag⟩) λ(_,_,_,_)=>by kernel_rfl
def Dc:A6k->Option A8c:=λx=>Ale x
theorem Qo:FM 112 Jm Jg (Dc):=Ba8
def Df:Sig:=⟨2,[(1,.str)],[(0,.ptr 0 0)],[(0,.cells [.sl .tok false,.int .i64,.bool,.int .i64])],1,1,0,[],[]⟩
def De:Sig:=⟨1,[(0,.bool)],[],[(0,.cells [.sl .tok false,.int .i64,.bool,.int .i64])],1,1,0,[],[]⟩
abbrev Bqi:=Str×List Tok×Int×Bool×Int
abbrev Bp9:=Bool×List Tok×Int×Bool×Int
def Bsl(R:Type):Px R:=pxO [(111,Aj Hk Hv Eo),(112,Aj Jm Jg Dc)] [] [] []
def Av2(x:Bqi):Option (Bp9):=match x with
 |(s,l,n,b,p) =>
 (Eo (l,n,b,p)).bind λ(x,x1,x2,x3,x4) =>
  cond (!decide (x.kind=1)) (
  cond (!decide (x.kind=6)) (
   some (false,x1,x2,x3,x4)) (
   cond (!decide (x.s=s)) (
   some (false,x1,x2,x3,x4)) (
   (Dc (x1,x2,x3,x4)).bind λ(_,a,c,d,e) =>some (true,a,c,d,e)))) (
  cond (!decide (x.s=s)) (
   some (false,x1,x2,x3,x4)) (
   (Dc (x1,x2,x3,x4)).bind λ(_,f,g,h,i) =>
   some (true,f,g,h,i)))
theorem Bmz:FM 72 Df De (Av2):=fRL (px:=Bsl _) (n:=0) Tryz.func72 rfl (λ_ H=>⟨lv H (l1 H L1 (l1 H Qo Ae)) Aa Ab,Ag⟩) λ(_,_,_,_,_)=>by kernel_rfl
def A3:Bqi->Option Bp9:=λx=>Av2 x
theorem Dr:FM 72 Df De (A3):=Bmz
def F2:Sig:=⟨1,[],[(0,.ptr 0 0)],[(0,.cells [.sl .tok false,.int .i64,.bool,.int .i64])],1,1,0,[],[]⟩
def F6:Sig:=⟨0,[],[],[(0,.cells [.sl .tok false,.int .i64,.bool,.int .i64])],1,1,0,[],[]⟩
abbrev Azu:=List Tok×Int×Bool×Int
abbrev Az4:=List Tok×Int×Bool×Int
def Bb6(R:Type):Px R:=pxO [(111,Aj Hk Hv Eo)] [] [] []
def Ad1(x:Azu):Option (Az4):=match x with
 |(l,n,b,p) =>
 cond (!b) (
  (Eo (l,n,b,p)).bind λ(x,x1,x2,_,_) =>
  some (x1,x2,true,x.pos)) (
  some (l,n,b,p))
theorem A0u:FM 82 F2 F6 (Ad1):=fRL (px:=Bb6 _) (n:=0) Tryz.func82 rfl (λ_ H=>⟨lv H (l1 H L1 Ae) Aa Ab,Ag⟩) λ(_,_,_,_)=>by kernel_rfl
def Dv:Azu->Option Az4:=λx=>Ad1 x
theorem Iu:FM 82 F2 F6 (Dv):=A0u
def Dm:Sig:=⟨2,[(1,.sl .str false)],[(0,.ptr 0 0)],[(0,.cells [.sl .tok false,.int .i64,.bool,.int .i64])],1,1,0,[],[]⟩
def Dj:Sig:=⟨0,[],[],[(0,.cells [.sl .tok false,.int .i64,.bool,.int .i64])],1,1,0,[],[]⟩
abbrev A5i:=List Str×List Tok×Int×Bool×Int
abbrev Atq:=List Tok×Int×Bool×Int
def Ajl:Sig:=⟨27,[(6,.sl .str false),(7,.int .i64),(8,.int .i64)],[(0,.ptr 0 0)],[(0,.cells [.sl .tok false,.int .i64,.bool,.int .i64])],1,1,0,[],[]⟩
abbrev Aa2:=List Str×Int×Int×List Tok×Int×Bool×Int
def Ar1{R:Type}(rec:Aa2->Option R)(kx:Ex->Aa2->Option R)(v:Aa2):Option R:=match v with
 |(v,v1,v2,w,w1,w2,w3) =>
 cond (decide (v2<v1)) (
  chk (inb v2 v.length) (
  let j:=λ(p2:Bool) (q4:List Tok) (q5:Int) (q6:Bool) (q7:Int) =>
   cond (p2) (
   (Dv (q4,q5,q6,q7)).bind λ(x5,x6,x7,x8) =>kx .ret (v,v1,v2,x5,x6,x7,x8)) (
   rec (v,v1,(wr .i64 (v2+1)),q4,q5,q6,q7))
  cond (w2) (
   j true w w1 w2 w3) (
   (A3 ((at' .str v v2),w,w1,w2,w3)).bind λ(x,x1,x2,x3,x4) =>
   j (!x) x1 x2 x3 x4))) (
  kx (.exit 0) (v,v1,v2,w,w1,w2,w3))
def Avu(R:Type)(k:Nat):Px R:=pxO [(72,Aj Df De A3),(82,Aj F2 F6 Dv)] [] [(1,Am k Ajl (Ar1))] []
def Vl(k:Nat)(x:A5i):Option (Atq):=match x with
 |(ss,l,n,b,p) =>
 Ak (λrec=>Ar1 rec (λe vz=>match vz with|(_,_,_,v6,v7,v8,v9)=>match e with
  |.ret =>
  some (v6,v7,v8,v9)
  |.exit 0 =>
  some (v6,v7,v8,v9)
  |_=>none)) k (ss,(ss.length:Int),0,l,n,b,p)
theorem Bda(k:Nat):FM 74 Dm Dj (Vl k):=fRL (px:=Avu _ k) (n:=1) Tryz.func74 rfl (λcx H=>by have h0:Lv cx (Avu (Atq) k):=lv H (l1 H Dr (l1 H Iu Ae)) Aa Ab;have hlpmust_0:=lO H h0 (b:=lp Tryz.f74 0) (k:=k) (n:=0) (s:=Ajl) (step:=Ar1) (λ_ _ _ (_,_,_,_,_,_,_)=>by kernel_rfl) Ag;exact⟨h0,(A5 Ag hlpmust_0)⟩) λ(_,_,_,_,_)=>by kernel_rfl
def A4:A5i->Option Atq:=λx=>Vl ((x.1.length+1)) x
theorem Ei:FM 74 Dm Dj (A4):=FnLn.fin (ι:=Nat) (sg:=Dm) (so:=Dj) 0 (F:=λk=>Vl k) (λk=>Bda k) λx _ _ hx=>⟨(x.1.length+1),hx⟩
def Ed:Sig:=⟨1,[],[(0,.ptr 0 0)],[(0,.cells [.sl .tok false,.int .i64,.bool,.int .i64])],1,1,0,[],[]⟩
def Ee:Sig:=⟨1,[(0,.str)],[],[(0,.cells [.sl .tok false,.int .i64,.bool,.int .i64])],1,1,0,[],[]⟩
abbrev A7v:=List Tok×Int×Bool×Int
abbrev A5s:=Str×List Tok×Int×Bool×Int
def Bg8(R:Type):Px R:=pxO [(111,Aj Hk Hv Eo),(82,Aj F2 F6 Dv),(112,Aj Jm Jg Dc)] [] [] []
def Aji(x:A7v):Option (A5s):=match x with
 |(l,n,b,p) =>
 (Eo (l,n,b,p)).bind λ(x,x1,x2,x3,x4) =>
  let j:=λ(p2:Bool) =>
  cond (p2) (
   (Dv (x1,x2,x3,x4)).bind λ(x5,x6,x7,x8) =>
   some ([],x5,x6,x7,x8)) (
   (Dc (x1,x2,x3,x4)).bind λ(x9,a,c,d,e) =>
   some (x9.s,a,c,d,e))
  cond (x3) (
  j true) (
  j (!decide (x.kind=2)))
theorem Bcp:FM 75 Ed Ee (Aji):=fRL (px:=Bg8 _) (n:=0) Tryz.func75 rfl (λ_ H=>⟨lv H (l1 H L1 (l1 H Iu (l1 H Qo Ae))) Aa Ab,Ag⟩) λ(_,_,_,_)=>by kernel_rfl
def Bo:A7v->Option A5s:=λx=>Aji x
theorem Gj:FM 75 Ed Ee (Bo):=Bcp
def Cr:Sig:=⟨1,[],[(0,.ptr 0 0)],[(0,.cells [.sl .tok false,.int .i64,.bool,.int .i64])],1,1,0,[],[]⟩
def Cs:Sig:=⟨1,[(0,.sv .expr)],[],[(0,.cells [.sl .tok false,.int .i64,.bool,.int .i64])],1,1,0,[],[]⟩
abbrev A9:=List Tok×Int×Bool×Int
abbrev A6:=Xpr×List Tok×Int×Bool×Int
def Abw:Sig:=⟨1,[],[(0,.ptr 0 0)],[(0,.cells [.sl .tok false,.int .i64,.bool,.int .i64])],1,1,0,[],[]⟩
def Ac2:Sig:=⟨1,[(0,.sv .expr)],[],[(0,.cells [.sl .tok false,.int .i64,.bool,.int .i64])],1,1,0,[],[]⟩
abbrev Awc:=List Tok×Int×Bool×Int
abbrev Yj:=Xpr×List Tok×Int×Bool×Int
def Afa(R:Type)(_rf:A9->Option A6):Px R:=pxO [(112,Aj Jm Jg Dc)] [] [] []
noncomputable def Aqc(R:Type)(rf:A9->Option A6):Px R:=pxO [(111,Aj Hk Hv Eo),(112,Aj Jm Jg Dc),(74,Aj Dm Dj A4),(116,Aj Cr Cs rf),(401,Aq 80 400 (Afa R rf) Tryz.f401)] [] [] []
def Adf(rf:A9->Option A6)(x:Awc):Option (Yj):=match x with
 |(l,n,b,p) =>
 (Eo (l,n,b,p)).bind λ(x,x1,x2,x3,x4) =>
  cond (x3) (
  some ((Xpr.mk 0 ⟨0,0,[]⟩ [] []),x1,x2,x3,x4)) (
  cond (decide (x.kind=2)) (
   (Dc (x1,x2,x3,x4)).bind λ(_,x6,x7,x8,x9) =>
   some ((Xpr.mk 2 ⟨0,0,[]⟩ x.s []),x6,x7,x8,x9)) (
   cond (decide (x.kind=3)) (
   (Dc (x1,x2,x3,x4)).bind λ(_,a,c,d,e) =>some ((Xpr.mk 1 ⟨3,x.n,[]⟩ [] []),a,c,d,e)) (
   cond (decide (x.kind=4)) (
    (Dc (x1,x2,x3,x4)).bind λ(_,f,g,h,i) =>
    some ((Xpr.mk 1 ⟨4,0,x.s⟩ [] []),f,g,h,i)) (
    cond (decide (x.kind=5)) (
    (Dc (x1,x2,x3,x4)).bind λ(_,k,m,o,q) =>some ((Xpr.mk 1 ⟨5,0,x.s⟩ [] []),k,m,o,q)) (
    let j2:=λ(p2:Bool) =>
     cond (p2) (
     (Dc (x1,x2,x3,x4)).bind λ(_,r,t,u,v) =>some ((Xpr.mk 1 ⟨2,1,[]⟩ [] []),r,t,u,v)) (
     let j1:=λ(p4:Bool) =>
      cond (p4) (
      (Dc (x1,x2,x3,x4)).bind λ(_,w,y,z,a0) =>some ((Xpr.mk 1 ⟨2,0,[]⟩ [] []),w,y,z,a0)) (
      let j:=λ(p6:Bool) =>
       cond (p6) (
       (Dc (x1,x2,x3,x4)).bind λ(_,a1,a2,a3,a4) =>some ((Xpr.mk 1 ⟨1,0,[]⟩ [] []),a1,a2,a3,a4)) (
       (A4 ([[40]],x1,x2,x3,x4)).bind λ(a5,a6,a7,a8) =>
        (rf (a5,a6,a7,a8)).bind λ(a9,aa,ab,ac,ad) =>
        (A4 ([[41]],aa,ab,ac,ad)).bind λ(ae,af,ag,ah) =>some (a9,ae,af,ag,ah))
      cond (decide (x.kind=1)) (
       j (decide (x.s=[78,85,76,76]))) (
       j false))
     cond (decide (x.kind=1)) (
      j1 (decide (x.s=[70,65,76,83,69]))) (
      j1 false))
    cond (decide (x.kind=1)) (
     j2 (decide (x.s=[84,82,85,69]))) (
     j2 false))))))
theorem A0z(rf:A9->Option A6)(hrf:FM 116 Cr Cs rf):FM 390 Abw Ac2 (Adf rf):=fRL (px:=Aqc _ rf) (n:=0) Tryz.func390 rfl (λcx H=>by have h1:Lv cx (Afa (Yj) rf):=lv H (l1 H Qo Ae) Aa Ab;have h0:Lv cx (Aqc (Yj) rf):=lv H (l1 H L1 (l1 H Qo (l1 H Ei (l1 H hrf (Al (cR H h1 Tryz.func401 rfl (n:=0) (Ag)) Ae))))) Aa Ab;exact⟨h0,Ag⟩) λ(_,_,_,_)=>by kernel_rfl
def Ak1(rf:A9->Option A6):Awc->Option Yj:=λx=>Adf rf x
theorem A9u(rf:A9->Option A6)(hrf:FM 116 Cr Cs rf):FM 390 Abw Ac2 (Ak1 rf):=A0z rf hrf
def Z4:Sig:=⟨1,[],[(0,.ptr 0 0)],[(0,.cells [.sl .tok false,.int .i64,.bool,.int .i64])],1,1,0,[],[]⟩
def Xz:Sig:=⟨1,[(0,.sv .expr)],[],[(0,.cells [.sl .tok false,.int .i64,.bool,.int .i64])],1,1,0,[],[]⟩
abbrev Bjl:=List Tok×Int×Bool×Int
abbrev Ass:=Xpr×List Tok×Int×Bool×Int
def An4:Sig:=⟨36,[(2,.int .i64),(27,.int .i64),(28,.int .i64)],[(8,.ptr 80 0),(10,.ptr 81 0)],[(0,.cells [.sl .tok false,.int .i64,.bool,.int .i64]),(1,.one (.sv .expr)),(80,.one (.sv .expr)),(81,.one (.sv .expr))],82,80,400,[],[]⟩
abbrev Aks:=Int×Int×Int×List Tok×Int×Bool×Int×Xpr×Xpr×Xpr
def A2c{R:Type}(rec:Aks->Option R)(kx:Ex->Aks->Option R)(v:Aks):Option R:=match v with
 |(a,b,c,w6,w7,w8,w9,d,e,f) =>
 cond (decide (c<b)) (
  rec (a,b,(wr .i64 (c+1)),w6,w7,w8,w9,d,e,(Xpr.mk a ⟨0,0,[]⟩ [] [f]))) (
  kx (.exit 2) (a,b,c,w6,w7,w8,w9,d,e,f))
def An8:Sig:=⟨36,[(1,.str),(2,.int .i64),(9,.int .i64)],[(0,.ptr 0 0),(3,.bm 390 [.ptr 0 0]),(8,.ptr 80 0)],[(0,.cells [.sl .tok false,.int .i64,.bool,.int .i64]),(1,.one (.sv .expr)),(80,.one (.sv .expr))],81,80,400,[],[]⟩
abbrev Ahj:=Str×Int×Int×List Tok×Int×Bool×Int×Xpr×Xpr
def A08{R:Type}(rec:Ahj->Option R)(kx:Ex->Ahj->Option R)(v:Ahj):Option R:=match v with
 |(v,v1,v2,w,w1,w2,w3,w4,w5) =>
 cond (!w2) (
  (A3 (v,w,w1,w2,w3)).bind λ(x,x1,x2,x3,x4) =>
  cond (x) (
   rec (v,v1,(wr .i64 (v2+1)),x1,x2,x3,x4,w4,w5)) (
   kx (.exit 0) (v,v1,v2,x1,x2,x3,x4,w4,w5))) (
  kx (.exit 0) (v,v1,v2,w,w1,w2,w3,w4,w5))
def Apd(R:Type)(k:Nat)(rf:A9->Option A6):Px R:=pxO [(72,Aj Df De A3),(390,Aj Abw Ac2 (Ak1 rf))] [] [(2,Am k An8 (A08)),(6,Am k An4 (A2c))] []
noncomputable def A4p(R:Type)(k:Nat)(rf:A9->Option A6):Px R:=pxO [(277,Aq 80 400 (Apd R k rf) Tryz.f277)] [] [] []
def Aa1(k:Nat)(rf:A9->Option A6)(x:Bjl):Option (Ass):=match x with
 |(l,n,b,p) =>
 Ak (λrec=>A08 rec (λe vz=>match vz with|(_,v4,v5,v6,v7,v8,v9,a,c)=>match e with
  |.exit 0 =>
  (Ak1 rf (v6,v7,v8,v9)).bind λ(x5,x6,x7,x8,x9) =>
   Ak (λrec=>A2c rec (λe vz=>match vz with|(_,_,_,d,f,g,h,_,_,i)=>match e with
   |.exit 2 =>some (i,d,f,g,h)
   |_=>none)) k (v4,v5,0,x6,x7,x8,x9,a,c,x5)
  |_=>none)) k ([45],15,0,l,n,b,p,(Xpr.mk 0 ⟨0,0,[]⟩ [] []),(Xpr.mk 0 ⟨0,0,[]⟩ [] []))
theorem Bkb(k:Nat)(rf:A9->Option A6)(hrf:FM 116 Cr Cs rf):FM 374 Z4 Xz (Aa1 k rf):=fRL (px:=A4p _ k rf) (n:=0) Tryz.func374 rfl (λcx H=>by have h1:Lv cx (Apd (Ass) k rf):=lv H (l1 H Dr (l1 H (A9u rf hrf) Ae)) Aa Ab;have hlpneg_0:=lO H h1 (b:=lp Tryz.f277 0) (k:=k) (n:=0) (s:=An8) (step:=A08) (λ_ _ _ (_,_,_,_,_,_,_,_,_)=>by kernel_rfl) Ag;have hlpneg_1:=lO H h1 (b:=lp Tryz.f277 1) (k:=k) (n:=0) (s:=An4) (step:=A2c) (λ_ _ _ (_,_,_,_,_,_,_,_,_,_)=>by kernel_rfl) Ag;have h0:Lv cx (A4p (Ass) k rf):=lv H (Al (cR H h1 Tryz.func277 rfl (n:=2) ((A5 (A5 Ag hlpneg_0) hlpneg_1))) Ae) Aa Ab;exact⟨h0,Ag⟩) λ(_,_,_,_)=>by kernel_rfl
def Amg(rf:A9->Option A6):Bjl->Option Ass:=λx=>Aa1 ((x.1.length+1)) rf x
theorem A6x(rf:A9->Option A6)(hrf:FM 116 Cr Cs rf):FM 374 Z4 Xz (Amg rf):=FnLn.fin (ι:=Nat) (sg:=Z4) (so:=Xz) 0 (F:=λk=>Aa1 k rf) (λk=>Bkb k rf hrf) λx _ _ hx=>⟨(x.1.length+1),hx⟩
def Hq:Sig:=⟨1,[],[(0,.ptr 0 0)],[(0,.cells [.sl .tok false,.int .i64,.bool,.int .i64])],1,1,0,[],[]⟩
def Hr:Sig:=⟨1,[(0,.sv .expr)],[],[(0,.cells [.sl .tok false,.int .i64,.bool,.int .i64])],1,1,0,[],[]⟩
abbrev Ajn:=List Tok×Int×Bool×Int
abbrev Oa:=Xpr×List Tok×Int×Bool×Int
def Uk:Sig:=⟨38,[(2,.sl .pair true),(17,.sl .pair false),(18,.int .i64),(19,.int .i64)],[(0,.ptr 0 0),(1,.bm 374 [.ptr 0 0]),(6,.ptr 80 0),(7,.ptr 81 0)],[(0,.cells [.sl .tok false,.int .i64,.bool,.int .i64]),(1,.one (.sv .expr)),(80,.one (.sv .expr)),(81,.one (.sv .expr))],82,80,400,[],[]⟩
abbrev M5:=List PairS×List PairS×Int×Int×List Tok×Int×Bool×Int×Xpr×Xpr×Xpr
def U5{R:Type}(rf:A9->Option A6)(rec:M5->Option R)(kx:Ex->M5->Option R)(v:M5):Option R:=match v with
 |(v1,v2,v3,v4,w7,w8,w9,d,a,b,c) =>
 cond (decide (v4<v3)) (
  chk (inb v4 v2.length) (
  (A3 ((at' .pair v2 v4).sign,w7,w8,w9,d)).bind λ(x5,x6,x7,x8,x9) =>
   cond (x5) (
   (Amg rf (x6,x7,x8,x9)).bind λ(e,f,g,h,i) =>kx (.exit 1) (v1,v2,v3,v4,f,g,h,i,a,b,(Xpr.mk ((at' .pair v2 v4).kind) ⟨0,0,[]⟩ [] [c,e]))) (
   rec (v1,v2,v3,(wr .i64 (v4+1)),x6,x7,x8,x9,a,b,c)))) (
  kx (.exit 2) (v1,v2,v3,v4,w7,w8,w9,d,a,b,c))
def T3:Sig:=⟨38,[(2,.sl .pair true)],[(0,.ptr 0 0),(1,.bm 374 [.ptr 0 0]),(6,.ptr 80 0),(7,.ptr 81 0)],[(0,.cells [.sl .tok false,.int .i64,.bool,.int .i64]),(1,.one (.sv .expr)),(80,.one (.sv .expr)),(81,.one (.sv .expr))],82,80,400,[],[]⟩
abbrev M6:=List PairS×List Tok×Int×Bool×Int×Xpr×Xpr×Xpr
def Wg{R:Type}(k:Nat)(rf:A9->Option A6)(rec:M6->Option R)(kx:Ex->M6->Option R)(v:M6):Option R:=match v with
 |(v,w,w1,w2,w3,w4,w5,w6) =>
 cond (!w2) (
  Ak (λrc=>U5 rf rc (λe vz=>match vz with|(v5,_,_,_,v9,a,b,c,d,f,g)=>match e with
  |.exit 1 =>rec (v5,v9,a,b,c,d,f,g)
  |.exit 2 =>kx (.exit 0) (v5,v9,a,b,c,d,f,g)
  |_=>none)) k (v,v,(v.length:Int),0,w,w1,w2,w3,w4,w5,w6)) (
  kx (.exit 0) (v,w,w1,w2,w3,w4,w5,w6))
def Ui(R:Type)(k:Nat)(rf:A9->Option A6):Px R:=pxO [(374,Aj Z4 Xz (Amg rf)),(72,Aj Df De A3)] [] [(4,Am k Uk (U5 rf)),(2,Am k T3 (Wg k rf))] [(374,Cv Z4 Xz (Amg rf))]
noncomputable def Adi(R:Type)(k:Nat)(rf:A9->Option A6):Px R:=pxO [(181,Aq 80 400 (Ui R k rf) Tryz.f181)] [] [] []
def K4(k:Nat)(rf:A9->Option A6)(x:Ajn):Option (Oa):=match x with
 |(l,n,b,p) =>
 (Amg rf (l,n,b,p)).bind λ(x,x1,x2,x3,x4) =>
  Ak (λrec=>Wg k rf rec (λe vz=>match vz with|(_,a,c,d,f,_,_,g)=>match e with
  |.exit 0 =>some (g,a,c,d,f)
  |_=>none)) k ([(PairS.mk [42] 14)],x1,x2,x3,x4,(Xpr.mk 0 ⟨0,0,[]⟩ [] []),(Xpr.mk 0 ⟨0,0,[]⟩ [] []),x)
theorem Arm(k:Nat)(rf:A9->Option A6)(hrf:FM 116 Cr Cs rf):FM 352 Hq Hr (K4 k rf):=fRL (px:=Adi _ k rf) (n:=0) Tryz.func352 rfl (λcx H=>by have h1:Lv cx (Ui (Oa) k rf):=lv H (l1 H (A6x rf hrf) (l1 H Dr Ae)) Aa (w1 H (A6x rf hrf) Ab);have hlpproduct_1:=lO H h1 (b:=lpC (lp Tryz.f181 0) 0) (k:=k) (n:=0) (s:=Uk) (step:=U5 rf) (λ_ _ _ (_,_,_,_,_,_,_,_,_,_,_)=>by kernel_rfl) Ag;have hlpproduct_0:=lO H h1 (b:=lp Tryz.f181 0) (k:=k) (n:=1) (s:=T3) (step:=Wg k rf) (λ_ _ _ (_,_,_,_,_,_,_,_)=>by kernel_rfl) (A5 Ag hlpproduct_1);have h0:Lv cx (Adi (Oa) k rf):=lv H (Al (cR H h1 Tryz.func181 rfl (n:=2) ((A5 (A5 Ag hlpproduct_0) hlpproduct_1))) Ae) Aa Ab;exact⟨h0,Ag⟩) λ(_,_,_,_)=>by kernel_rfl
def I3(rf:A9->Option A6):Ajn->Option Oa:=λx=>K4 ((x.1.length+3)) rf x
theorem Ae2(rf:A9->Option A6)(hrf:FM 116 Cr Cs rf):FM 352 Hq Hr (I3 rf):=FnLn.fin (ι:=Nat) (sg:=Hq) (so:=Hr) 0 (F:=λk=>K4 k rf) (λk=>Arm k rf hrf) λx _ _ hx=>⟨(x.1.length+3),hx⟩
def Aae:Sig:=⟨1,[],[(0,.ptr 0 0)],[(0,.cells [.sl .tok false,.int .i64,.bool,.int .i64])],1,1,0,[],[]⟩
def Yo:Sig:=⟨1,[(0,.sv .expr)],[],[(0,.cells [.sl .tok false,.int .i64,.bool,.int .i64])],1,1,0,[],[]⟩
abbrev Bgp:=List Tok×Int×Bool×Int
abbrev Atg:=Xpr×List Tok×Int×Bool×Int
def Aq8:Sig:=⟨38,[(2,.sl .pair true),(17,.sl .pair false),(18,.int .i64),(19,.int .i64)],[(0,.ptr 0 0),(1,.bm 352 [.ptr 0 0]),(6,.ptr 80 0),(7,.ptr 81 0)],[(0,.cells [.sl .tok false,.int .i64,.bool,.int .i64]),(1,.one (.sv .expr)),(80,.one (.sv .expr)),(81,.one (.sv .expr))],82,80,400,[],[]⟩
abbrev Ai2:=List PairS×List PairS×Int×Int×List Tok×Int×Bool×Int×Xpr×Xpr×Xpr
def A1n{R:Type}(rf:A9->Option A6)(rec:Ai2->Option R)(kx:Ex->Ai2->Option R)(v:Ai2):Option R:=match v with
 |(v1,v2,v3,v4,w7,w8,w9,d,a,b,c) =>
 cond (decide (v4<v3)) (
  chk (inb v4 v2.length) (
  (A3 ((at' .pair v2 v4).sign,w7,w8,w9,d)).bind λ(x5,x6,x7,x8,x9) =>
   cond (x5) (
   (I3 rf (x6,x7,x8,x9)).bind λ(e,f,g,h,i) =>kx (.exit 1) (v1,v2,v3,v4,f,g,h,i,a,b,(Xpr.mk ((at' .pair v2 v4).kind) ⟨0,0,[]⟩ [] [c,e]))) (
   rec (v1,v2,v3,(wr .i64 (v4+1)),x6,x7,x8,x9,a,b,c)))) (
  kx (.exit 2) (v1,v2,v3,v4,w7,w8,w9,d,a,b,c))
def Aoz:Sig:=⟨38,[(2,.sl .pair true)],[(0,.ptr 0 0),(1,.bm 352 [.ptr 0 0]),(6,.ptr 80 0),(7,.ptr 81 0)],[(0,.cells [.sl .tok false,.int .i64,.bool,.int .i64]),(1,.one (.sv .expr)),(80,.one (.sv .expr)),(81,.one (.sv .expr))],82,80,400,[],[]⟩
abbrev Aiz:=List PairS×List Tok×Int×Bool×Int×Xpr×Xpr×Xpr
def A1v{R:Type}(k:Nat)(rf:A9->Option A6)(rec:Aiz->Option R)(kx:Ex->Aiz->Option R)(v:Aiz):Option R:=match v with
 |(v,w,w1,w2,w3,w4,w5,w6) =>
 cond (!w2) (
  Ak (λrc=>A1n rf rc (λe vz=>match vz with|(v5,_,_,_,v9,a,b,c,d,f,g)=>match e with
  |.exit 1 =>rec (v5,v9,a,b,c,d,f,g)
  |.exit 2 =>kx (.exit 0) (v5,v9,a,b,c,d,f,g)
  |_=>none)) k (v,v,(v.length:Int),0,w,w1,w2,w3,w4,w5,w6)) (
  kx (.exit 0) (v,w,w1,w2,w3,w4,w5,w6))
def Aqt(R:Type)(k:Nat)(rf:A9->Option A6):Px R:=pxO [(352,Aj Hq Hr (I3 rf)),(72,Aj Df De A3)] [] [(4,Am k Aq8 (A1n rf)),(2,Am k Aoz (A1v k rf))] [(352,Cv Hq Hr (I3 rf))]
noncomputable def A64(R:Type)(k:Nat)(rf:A9->Option A6):Px R:=pxO [(181,Aq 80 400 (Aqt R k rf) Tryz.f181)] [] [] []
def Ac1(k:Nat)(rf:A9->Option A6)(x:Bgp):Option (Atg):=match x with
 |(l,n,b,p) =>
 (I3 rf (l,n,b,p)).bind λ(x,x1,x2,x3,x4) =>
  Ak (λrec=>A1v k rf rec (λe vz=>match vz with|(_,a,c,d,f,_,_,g)=>match e with
  |.exit 0 =>some (g,a,c,d,f)
  |_=>none)) k ([(PairS.mk [43] 12),(PairS.mk [45] 13)],x1,x2,x3,x4,(Xpr.mk 0 ⟨0,0,[]⟩ [] []),(Xpr.mk 0 ⟨0,0,[]⟩ [] []),x)
theorem Bjh(k:Nat)(rf:A9->Option A6)(hrf:FM 116 Cr Cs rf):FM 321 Aae Yo (Ac1 k rf):=fRL (px:=A64 _ k rf) (n:=0) Tryz.func321 rfl (λcx H=>by have h1:Lv cx (Aqt (Atg) k rf):=lv H (l1 H (Ae2 rf hrf) (l1 H Dr Ae)) Aa (w1 H (Ae2 rf hrf) Ab);have hlpsum_1:=lO H h1 (b:=lpC (lp Tryz.f181 0) 0) (k:=k) (n:=0) (s:=Aq8) (step:=A1n rf) (λ_ _ _ (_,_,_,_,_,_,_,_,_,_,_)=>by kernel_rfl) Ag;have hlpsum_0:=lO H h1 (b:=lp Tryz.f181 0) (k:=k) (n:=1) (s:=Aoz) (step:=A1v k rf) (λ_ _ _ (_,_,_,_,_,_,_,_)=>by kernel_rfl) (A5 Ag hlpsum_1);have h0:Lv cx (A64 (Atg) k rf):=lv H (Al (cR H h1 Tryz.func181 rfl (n:=2) ((A5 (A5 Ag hlpsum_0) hlpsum_1))) Ae) Aa Ab;exact⟨h0,Ag⟩) λ(_,_,_,_)=>by kernel_rfl
def Aiu(rf:A9->Option A6):Bgp->Option Atg:=λx=>Ac1 ((x.1.length+3)) rf x
theorem A5b(rf:A9->Option A6)(hrf:FM 116 Cr Cs rf):FM 321 Aae Yo (Aiu rf):=FnLn.fin (ι:=Nat) (sg:=Aae) (so:=Yo) 0 (F:=λk=>Ac1 k rf) (λk=>Bjh k rf hrf) λx _ _ hx=>⟨(x.1.length+3),hx⟩
def Af8:Sig:=⟨1,[],[(0,.ptr 0 0)],[(0,.cells [.sl .tok false,.int .i64,.bool,.int .i64])],1,1,0,[],[]⟩
def Af5:Sig:=⟨1,[(0,.sv .expr)],[],[(0,.cells [.sl .tok false,.int .i64,.bool,.int .i64])],1,1,0,[],[]⟩
abbrev Bfh:=List Tok×Int×Bool×Int
abbrev A1x:=Xpr×List Tok×Int×Bool×Int
def Aos:Sig:=⟨61,[(20,.sl .pair true),(21,.int .i64),(22,.int .i64)],[(0,.ptr 0 0),(2,.ptr 1 0),(3,.ptr 2 0)],[(0,.cells [.sl .tok false,.int .i64,.bool,.int .i64]),(1,.one (.sv .expr)),(2,.one (.sv .expr))],3,1,0,[],[]⟩
abbrev Aha:=List PairS×Int×Int×List Tok×Int×Bool×Int×Xpr×Xpr
def A4a{R:Type}(rf:A9->Option A6)(rec:Aha->Option R)(kx:Ex->Aha->Option R)(v:Aha):Option R:=match v with
 |(v,v1,v2,w,w1,w2,w3,w4,w5) =>
 cond (decide (v2<v1)) (
  chk (inb v2 v.length) (
  (A3 ((at' .pair v v2).sign,w,w1,w2,w3)).bind λ(x5,x6,x7,x8,x9) =>
   cond (x5) (
   (Aiu rf (x6,x7,x8,x9)).bind λ(a,b,c,d,e) =>kx .ret (v,v1,v2,b,c,d,e,(Xpr.mk ((at' .pair v v2).kind) ⟨0,0,[]⟩ [] [w5,a]),w5)) (
   rec (v,v1,(wr .i64 (v2+1)),x6,x7,x8,x9,w4,w5)))) (
  kx (.exit 0) (v,v1,v2,w,w1,w2,w3,w4,w5))
def A8h(R:Type)(k:Nat)(rf:A9->Option A6):Px R:=pxO [(321,Aj Aae Yo (Aiu rf)),(72,Aj Df De A3),(74,Aj Dm Dj A4)] [] [(5,Am k Aos (A4a rf))] [(321,Cv Aae Yo (Aiu rf))]
def Acf(k:Nat)(rf:A9->Option A6)(x:Bfh):Option (A1x):=match x with
 |(l,n,b,p) =>
 (Aiu rf (l,n,b,p)).bind λ(x,x1,x2,x3,x4) =>
  cond (x3) (
  some (x,x1,x2,x3,x4)) (
  Ak (λrec=>A4a rf rec (λe vz=>match vz with|(_,_,_,v6,v7,v8,v9,o,a)=>match e with
   |.ret =>
   some (o,v6,v7,v8,v9)
   |.exit 0 =>
   (A3 ([73,83],v6,v7,v8,v9)).bind λ(q,c,d,f,g) =>
    cond (!q) (
    some (a,c,d,f,g)) (
    (A3 ([78,79,84],c,d,f,g)).bind λ(r,s,t,u,v) =>
     (A4 ([[78,85,76,76]],s,t,u,v)).bind λ(h,i,j,m) =>
     cond (r) (
      some ((Xpr.mk 3 ⟨0,0,[]⟩ [] [(Xpr.mk 16 ⟨0,0,[]⟩ [] [a])]),h,i,j,m)) (
      some ((Xpr.mk 16 ⟨0,0,[]⟩ [] [a]),h,i,j,m)))
   |_=>none)) k ([(PairS.mk [61] 6),(PairS.mk [60,62] 7),(PairS.mk [60] 8),(PairS.mk [60,61] 9),(PairS.mk [62] 10),(PairS.mk [62,61] 11)],6,0,x1,x2,x3,x4,(Xpr.mk 0 ⟨0,0,[]⟩ [] []),x))
theorem Be2(k:Nat)(rf:A9->Option A6)(hrf:FM 116 Cr Cs rf):FM 278 Af8 Af5 (Acf k rf):=fRL (px:=A8h _ k rf) (n:=1) Tryz.func278 rfl (λcx H=>by have h0:Lv cx (A8h (A1x) k rf):=lv H (l1 H (A5b rf hrf) (l1 H Dr (l1 H Ei Ae))) Aa (w1 H (A5b rf hrf) Ab);have hlpcmp_0:=lO H h0 (b:=lp Tryz.f278 0) (k:=k) (n:=0) (s:=Aos) (step:=A4a rf) (λ_ _ _ (_,_,_,_,_,_,_,_,_)=>by kernel_rfl) Ag;exact⟨h0,(A5 Ag hlpcmp_0)⟩) λ(_,_,_,_)=>by kernel_rfl
def A21(rf:A9->Option A6):Bfh->Option A1x:=λx=>Acf (10) rf x
theorem Bpo(rf:A9->Option A6)(hrf:FM 116 Cr Cs rf):FM 278 Af8 Af5 (A21 rf):=FnLn.fin (ι:=Nat) (sg:=Af8) (so:=Af5) 0 (F:=λk=>Acf k rf) (λk=>Be2 k rf hrf) λ_ _ _ hx=>⟨10,hx⟩
def Y1:Sig:=⟨1,[],[(0,.ptr 0 0)],[(0,.cells [.sl .tok false,.int .i64,.bool,.int .i64])],1,1,0,[],[]⟩
def Zl:Sig:=⟨1,[(0,.sv .expr)],[],[(0,.cells [.sl .tok false,.int .i64,.bool,.int .i64])],1,1,0,[],[]⟩
abbrev Bhb:=List Tok×Int×Bool×Int
abbrev Att:=Xpr×List Tok×Int×Bool×Int
def Apf:Sig:=⟨36,[(2,.int .i64),(27,.int .i64),(28,.int .i64)],[(8,.ptr 80 0),(10,.ptr 81 0)],[(0,.cells [.sl .tok false,.int .i64,.bool,.int .i64]),(1,.one (.sv .expr)),(80,.one (.sv .expr)),(81,.one (.sv .expr))],82,80,400,[],[]⟩
abbrev Ajd:=Int×Int×Int×List Tok×Int×Bool×Int×Xpr×Xpr×Xpr
def A3z{R:Type}(rec:Ajd->Option R)(kx:Ex->Ajd->Option R)(v:Ajd):Option R:=match v with
 |(a,b,c,w6,w7,w8,w9,d,e,f) =>
 cond (decide (c<b)) (
  rec (a,b,(wr .i64 (c+1)),w6,w7,w8,w9,d,e,(Xpr.mk a ⟨0,0,[]⟩ [] [f]))) (
  kx (.exit 2) (a,b,c,w6,w7,w8,w9,d,e,f))
def Ank:Sig:=⟨36,[(1,.str),(2,.int .i64),(9,.int .i64)],[(0,.ptr 0 0),(3,.bm 278 [.ptr 0 0]),(8,.ptr 80 0)],[(0,.cells [.sl .tok false,.int .i64,.bool,.int .i64]),(1,.one (.sv .expr)),(80,.one (.sv .expr))],81,80,400,[],[]⟩
abbrev Ais:=Str×Int×Int×List Tok×Int×Bool×Int×Xpr×Xpr
def A0i{R:Type}(rec:Ais->Option R)(kx:Ex->Ais->Option R)(v:Ais):Option R:=match v with
 |(v,v1,v2,w,w1,w2,w3,w4,w5) =>
 cond (!w2) (
  (A3 (v,w,w1,w2,w3)).bind λ(x,x1,x2,x3,x4) =>
  cond (x) (
   rec (v,v1,(wr .i64 (v2+1)),x1,x2,x3,x4,w4,w5)) (
   kx (.exit 0) (v,v1,v2,x1,x2,x3,x4,w4,w5))) (
  kx (.exit 0) (v,v1,v2,w,w1,w2,w3,w4,w5))
def Apw(R:Type)(k:Nat)(rf:A9->Option A6):Px R:=pxO [(72,Aj Df De A3),(278,Aj Af8 Af5 (A21 rf))] [] [(2,Am k Ank (A0i)),(6,Am k Apf (A3z))] []
noncomputable def A6t(R:Type)(k:Nat)(rf:A9->Option A6):Px R:=pxO [(277,Aq 80 400 (Apw R k rf) Tryz.f277)] [] [] []
def Acp(k:Nat)(rf:A9->Option A6)(x:Bhb):Option (Att):=match x with
 |(l,n,b,p) =>
 Ak (λrec=>A0i rec (λe vz=>match vz with|(_,v4,v5,v6,v7,v8,v9,a,c)=>match e with
  |.exit 0 =>
  (A21 rf (v6,v7,v8,v9)).bind λ(x5,x6,x7,x8,x9) =>
   Ak (λrec=>A3z rec (λe vz=>match vz with|(_,_,_,d,f,g,h,_,_,i)=>match e with
   |.exit 2 =>some (i,d,f,g,h)
   |_=>none)) k (v4,v5,0,x6,x7,x8,x9,a,c,x5)
  |_=>none)) k ([78,79,84],3,0,l,n,b,p,(Xpr.mk 0 ⟨0,0,[]⟩ [] []),(Xpr.mk 0 ⟨0,0,[]⟩ [] []))
theorem Bjw(k:Nat)(rf:A9->Option A6)(hrf:FM 116 Cr Cs rf):FM 233 Y1 Zl (Acp k rf):=fRL (px:=A6t _ k rf) (n:=0) Tryz.func233 rfl (λcx H=>by have h1:Lv cx (Apw (Att) k rf):=lv H (l1 H Dr (l1 H (Bpo rf hrf) Ae)) Aa Ab;have hlpnot_0:=lO H h1 (b:=lp Tryz.f277 0) (k:=k) (n:=0) (s:=Ank) (step:=A0i) (λ_ _ _ (_,_,_,_,_,_,_,_,_)=>by kernel_rfl) Ag;have hlpnot_1:=lO H h1 (b:=lp Tryz.f277 1) (k:=k) (n:=0) (s:=Apf) (step:=A3z) (λ_ _ _ (_,_,_,_,_,_,_,_,_,_)=>by kernel_rfl) Ag;have h0:Lv cx (A6t (Att) k rf):=lv H (Al (cR H h1 Tryz.func277 rfl (n:=2) ((A5 (A5 Ag hlpnot_0) hlpnot_1))) Ae) Aa Ab;exact⟨h0,Ag⟩) λ(_,_,_,_)=>by kernel_rfl
def Akl(rf:A9->Option A6):Bhb->Option Att:=λx=>Acp ((x.1.length+1)) rf x
theorem A50(rf:A9->Option A6)(hrf:FM 116 Cr Cs rf):FM 233 Y1 Zl (Akl rf):=FnLn.fin (ι:=Nat) (sg:=Y1) (so:=Zl) 0 (F:=λk=>Acp k rf) (λk=>Bjw k rf hrf) λx _ _ hx=>⟨(x.1.length+1),hx⟩
def Yf:Sig:=⟨1,[],[(0,.ptr 0 0)],[(0,.cells [.sl .tok false,.int .i64,.bool,.int .i64])],1,1,0,[],[]⟩
def Zj:Sig:=⟨1,[(0,.sv .expr)],[],[(0,.cells [.sl .tok false,.int .i64,.bool,.int .i64])],1,1,0,[],[]⟩
abbrev Bec:=List Tok×Int×Bool×Int
abbrev Auf:=Xpr×List Tok×Int×Bool×Int
def Arh:Sig:=⟨38,[(2,.sl .pair true),(17,.sl .pair false),(18,.int .i64),(19,.int .i64)],[(0,.ptr 0 0),(1,.bm 233 [.ptr 0 0]),(6,.ptr 80 0),(7,.ptr 81 0)],[(0,.cells [.sl .tok false,.int .i64,.bool,.int .i64]),(1,.one (.sv .expr)),(80,.one (.sv .expr)),(81,.one (.sv .expr))],82,80,400,[],[]⟩
abbrev Alb:=List PairS×List PairS×Int×Int×List Tok×Int×Bool×Int×Xpr×Xpr×Xpr
def A22{R:Type}(rf:A9->Option A6)(rec:Alb->Option R)(kx:Ex->Alb->Option R)(v:Alb):Option R:=match v with
 |(v1,v2,v3,v4,w7,w8,w9,d,a,b,c) =>
 cond (decide (v4<v3)) (
  chk (inb v4 v2.length) (
  (A3 ((at' .pair v2 v4).sign,w7,w8,w9,d)).bind λ(x5,x6,x7,x8,x9) =>
   cond (x5) (
   (Akl rf (x6,x7,x8,x9)).bind λ(e,f,g,h,i) =>kx (.exit 1) (v1,v2,v3,v4,f,g,h,i,a,b,(Xpr.mk ((at' .pair v2 v4).kind) ⟨0,0,[]⟩ [] [c,e]))) (
   rec (v1,v2,v3,(wr .i64 (v4+1)),x6,x7,x8,x9,a,b,c)))) (
  kx (.exit 2) (v1,v2,v3,v4,w7,w8,w9,d,a,b,c))
def Aq6:Sig:=⟨38,[(2,.sl .pair true)],[(0,.ptr 0 0),(1,.bm 233 [.ptr 0 0]),(6,.ptr 80 0),(7,.ptr 81 0)],[(0,.cells [.sl .tok false,.int .i64,.bool,.int .i64]),(1,.one (.sv .expr)),(80,.one (.sv .expr)),(81,.one (.sv .expr))],82,80,400,[],[]⟩
abbrev Aht:=List PairS×List Tok×Int×Bool×Int×Xpr×Xpr×Xpr
def A1r{R:Type}(k:Nat)(rf:A9->Option A6)(rec:Aht->Option R)(kx:Ex->Aht->Option R)(v:Aht):Option R:=match v with
 |(v,w,w1,w2,w3,w4,w5,w6) =>
 cond (!w2) (
  Ak (λrc=>A22 rf rc (λe vz=>match vz with|(v5,_,_,_,v9,a,b,c,d,f,g)=>match e with
  |.exit 1 =>rec (v5,v9,a,b,c,d,f,g)
  |.exit 2 =>kx (.exit 0) (v5,v9,a,b,c,d,f,g)
  |_=>none)) k (v,v,(v.length:Int),0,w,w1,w2,w3,w4,w5,w6)) (
  kx (.exit 0) (v,w,w1,w2,w3,w4,w5,w6))
def Ane(R:Type)(k:Nat)(rf:A9->Option A6):Px R:=pxO [(233,Aj Y1 Zl (Akl rf)),(72,Aj Df De A3)] [] [(4,Am k Arh (A22 rf)),(2,Am k Aq6 (A1r k rf))] [(233,Cv Y1 Zl (Akl rf))]
noncomputable def A69(R:Type)(k:Nat)(rf:A9->Option A6):Px R:=pxO [(181,Aq 80 400 (Ane R k rf) Tryz.f181)] [] [] []
def Acu(k:Nat)(rf:A9->Option A6)(x:Bec):Option (Auf):=match x with
 |(l,n,b,p) =>
 (Akl rf (l,n,b,p)).bind λ(x,x1,x2,x3,x4) =>
  Ak (λrec=>A1r k rf rec (λe vz=>match vz with|(_,a,c,d,f,_,_,g)=>match e with
  |.exit 0 =>some (g,a,c,d,f)
  |_=>none)) k ([(PairS.mk [65,78,68] 4)],x1,x2,x3,x4,(Xpr.mk 0 ⟨0,0,[]⟩ [] []),(Xpr.mk 0 ⟨0,0,[]⟩ [] []),x)
theorem Bis(k:Nat)(rf:A9->Option A6)(hrf:FM 116 Cr Cs rf):FM 182 Yf Zj (Acu k rf):=fRL (px:=A69 _ k rf) (n:=0) Tryz.func182 rfl (λcx H=>by have h1:Lv cx (Ane (Auf) k rf):=lv H (l1 H (A50 rf hrf) (l1 H Dr Ae)) Aa (w1 H (A50 rf hrf) Ab);have hlpand_1:=lO H h1 (b:=lpC (lp Tryz.f181 0) 0) (k:=k) (n:=0) (s:=Arh) (step:=A22 rf) (λ_ _ _ (_,_,_,_,_,_,_,_,_,_,_)=>by kernel_rfl) Ag;have hlpand_0:=lO H h1 (b:=lp Tryz.f181 0) (k:=k) (n:=1) (s:=Aq6) (step:=A1r k rf) (λ_ _ _ (_,_,_,_,_,_,_,_)=>by kernel_rfl) (A5 Ag hlpand_1);have h0:Lv cx (A69 (Auf) k rf):=lv H (Al (cR H h1 Tryz.func181 rfl (n:=2) ((A5 (A5 Ag hlpand_0) hlpand_1))) Ae) Aa Ab;exact⟨h0,Ag⟩) λ(_,_,_,_)=>by kernel_rfl
def Ako(rf:A9->Option A6):Bec->Option Auf:=λx=>Acu ((x.1.length+3)) rf x
theorem A5u(rf:A9->Option A6)(hrf:FM 116 Cr Cs rf):FM 182 Yf Zj (Ako rf):=FnLn.fin (ι:=Nat) (sg:=Yf) (so:=Zj) 0 (F:=λk=>Acu k rf) (λk=>Bis k rf hrf) λx _ _ hx=>⟨(x.1.length+3),hx⟩
def Av9:Sig:=⟨38,[(2,.sl .pair true),(17,.sl .pair false),(18,.int .i64),(19,.int .i64)],[(0,.ptr 0 0),(1,.bm 182 [.ptr 0 0]),(6,.ptr 80 0),(7,.ptr 81 0)],[(0,.cells [.sl .tok false,.int .i64,.bool,.int .i64]),(1,.one (.sv .expr)),(80,.one (.sv .expr)),(81,.one (.sv .expr))],82,80,400,[],[]⟩
abbrev Asj:=List PairS×List PairS×Int×Int×List Tok×Int×Bool×Int×Xpr×Xpr×Xpr
def Bip{R:Type}(rf:A9->Option A6)(rec:Asj->Option R)(kx:Ex->Asj->Option R)(v:Asj):Option R:=match v with
 |(v1,v2,v3,v4,w7,w8,w9,d,a,b,c) =>
 cond (decide (v4<v3)) (
  chk (inb v4 v2.length) (
  (A3 ((at' .pair v2 v4).sign,w7,w8,w9,d)).bind λ(x5,x6,x7,x8,x9) =>
   cond (x5) (
   (Ako rf (x6,x7,x8,x9)).bind λ(e,f,g,h,i) =>kx (.exit 1) (v1,v2,v3,v4,f,g,h,i,a,b,(Xpr.mk ((at' .pair v2 v4).kind) ⟨0,0,[]⟩ [] [c,e]))) (
   rec (v1,v2,v3,(wr .i64 (v4+1)),x6,x7,x8,x9,a,b,c)))) (
  kx (.exit 2) (v1,v2,v3,v4,w7,w8,w9,d,a,b,c))
def Ayt:Sig:=⟨38,[(2,.sl .pair true)],[(0,.ptr 0 0),(1,.bm 182 [.ptr 0 0]),(6,.ptr 80 0),(7,.ptr 81 0)],[(0,.cells [.sl .tok false,.int .i64,.bool,.int .i64]),(1,.one (.sv .expr)),(80,.one (.sv .expr)),(81,.one (.sv .expr))],82,80,400,[],[]⟩
abbrev Ar3:=List PairS×List Tok×Int×Bool×Int×Xpr×Xpr×Xpr
def Bf4{R:Type}(k:Nat)(rf:A9->Option A6)(rec:Ar3->Option R)(kx:Ex->Ar3->Option R)(v:Ar3):Option R:=match v with
 |(v,w,w1,w2,w3,w4,w5,w6) =>
 cond (!w2) (
  Ak (λrc=>Bip rf rc (λe vz=>match vz with|(v5,_,_,_,v9,a,b,c,d,f,g)=>match e with
  |.exit 1 =>rec (v5,v9,a,b,c,d,f,g)
  |.exit 2 =>kx (.exit 0) (v5,v9,a,b,c,d,f,g)
  |_=>none)) k (v,v,(v.length:Int),0,w,w1,w2,w3,w4,w5,w6)) (
  kx (.exit 0) (v,w,w1,w2,w3,w4,w5,w6))
def Ay2(R:Type)(k:Nat)(rf:A9->Option A6):Px R:=pxO [(182,Aj Yf Zj (Ako rf)),(72,Aj Df De A3)] [] [(4,Am k Av9 (Bip rf)),(2,Am k Ayt (Bf4 k rf))] [(182,Cv Yf Zj (Ako rf))]
noncomputable def Bhr(R:Type)(k:Nat)(rf:A9->Option A6):Px R:=pxO [(181,Aq 80 400 (Ay2 R k rf) Tryz.f181)] [] [] []
def Ak3(k:Nat)(rf:A9->Option A6)(x:A9):Option (A6):=match x with
 |(l,n,b,p) =>
 (Ako rf (l,n,b,p)).bind λ(x,x1,x2,x3,x4) =>
  Ak (λrec=>Bf4 k rf rec (λe vz=>match vz with|(_,a,c,d,f,_,_,g)=>match e with
  |.exit 0 =>some (g,a,c,d,f)
  |_=>none)) k ([(PairS.mk [79,82] 5)],x1,x2,x3,x4,(Xpr.mk 0 ⟨0,0,[]⟩ [] []),(Xpr.mk 0 ⟨0,0,[]⟩ [] []),x)
theorem Bn4(k:Nat)(rf:A9->Option A6)(hrf:FM 116 Cr Cs rf):FM 116 Cr Cs (Ak3 k rf):=fRL (px:=Bhr _ k rf) (n:=0) Tryz.func116 rfl (λcx H=>by have h1:Lv cx (Ay2 (A6) k rf):=lv H (l1 H (A5u rf hrf) (l1 H Dr Ae)) Aa (w1 H (A5u rf hrf) Ab);have hlpor_1:=lO H h1 (b:=lpC (lp Tryz.f181 0) 0) (k:=k) (n:=0) (s:=Av9) (step:=Bip rf) (λ_ _ _ (_,_,_,_,_,_,_,_,_,_,_)=>by kernel_rfl) Ag;have hlpor_0:=lO H h1 (b:=lp Tryz.f181 0) (k:=k) (n:=1) (s:=Ayt) (step:=Bf4 k rf) (λ_ _ _ (_,_,_,_,_,_,_,_)=>by kernel_rfl) (A5 Ag hlpor_1);have h0:Lv cx (Bhr (A6) k rf):=lv H (Al (cR H h1 Tryz.func181 rfl (n:=2) ((A5 (A5 Ag hlpor_0) hlpor_1))) Ae) Aa Ab;exact⟨h0,Ag⟩) λ(_,_,_,_)=>by kernel_rfl
def Bfd(rf:A9->Option A6):A9->Option A6:=λx=>Ak3 (x.1.length+3) rf x
theorem Bmo(rf:A9->Option A6)(hrf:FnLn Tryz.prog elT glT 116 Cr Cs rf):FnLn Tryz.prog elT glT 116 Cr Cs (Bfd rf) :=.fin (ι:=Nat) (sg:=Cr) (so:=Cs) 0 (F:=λk=>Ak3 k rf) (λk=>Bn4 k rf hrf) λx _ _ hx=>⟨x.1.length+3,hx⟩
def Pm:A9->Option A6:=λx=>Ak (V:=A9) (R:=A6) Bfd (x.1.length+2) x
theorem Ata:FnLn Tryz.prog elT glT 116 Cr Cs Pm :=.fin (ι:=Nat) (sg:=Cr) (so:=Cs) 0 (F:=λn=>Ak (V:=A9) (R:=A6) Bfd n) (λn=>FnLn.rec' (Sx.enters_of Tryz.func116 rfl rfl) (λrf hrf=>Bmo rf hrf) n) λx _ _ hx=>⟨x.1.length+2,hx⟩
end Go.Proofs.YtblaahgjaopdnaaGreatDoor
