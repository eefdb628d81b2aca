/- Texts of the proof,one behind the other: Fd,Es,Ix,En,Ep,Ac,Ad,Sc,No,So,Sd,Se,Zf,Zv,Vu,Xu,Vc,Zr,Zi,Sn,Ck,Kr. -/
import Derived.Test.YtcoaaebppfbbnaaGreatDoorU5
import Derived.Lib.Walk
import Derived.Lib.BytesEntry
import Derived.Laws.Externs
set_option linter.all false
namespace Go.Proofs.YtcoaaebppfbbnaaGreatDoor
open Go.Ax
theorem Rp:∀(l:Yb1 Col) (s:Str) (i:Nat),Bu l s i = -1\/((i:Int)<=Bu l s i/\Bu l s i<(i+l.length:Nat))
 |[],_,_=>.inl rfl
 |c::l,s,i=>by
  simp[Bu];split
  ·right;omega
  ·have:=Rp l s (i+1);omega
theorem Z3(l:Yb1 Col)(s:Str):B3 l s = -1\/(0<=B3 l s/\B3 l s<(l.length:Int)):=by have:=Rp l s 0;simpa[B3]using this
variable{s:Str}
theorem Bru{l:Yb1 Col}(h:¬B3 l s<0):inb (B3 l s) l.length=true:=by have:=Z3 l s;simp[inb];omega
def Aks:Sig:=⟨102,[(1,.sl .col false),(4,.int .i64),(5,.int .i64),(12,.sl .expr false),(13,.int .i64),(14,.int .i64)],[(2,.ptr 0 0),(6,.ptr 1 0)],[(0,.one (.sv .expr)),(1,.one (.rw .int 2))],2,0,0,[],[]⟩
abbrev Ux:=Yb1 Col×Int×Int×Yb1 Xpr×Int×Int×Xpr×Yb1 Int
def H1{R:Type}(rf:FT [Yd1,Yk1] [Yc1,Yc1])(b:Ux->Ya1 R)(kx:Ex->Ux->Ya1 R)(v:Ux):Ya1 R:=match v with|(v,v1,v2,v3,v4,a,w,w1)=>cond (decide (a<v4)) (chk (inb a v3.length) ((rf ((at' .expr v3 a),v)).bind λ(x,c)=>chk (inb a 2) (cond (!decide (c=0)) (kx .ret (v,0,c,v3,v4,a,w,(w1.set (a:Int).toNat x))) (cond (decide (a=1)) (kx (.exit 0) (v,v1,v2,v3,v4,a,w,(w1.set (a:Int).toNat x))) (b (v,v1,v2,v3,v4,(wr .i64 (a+1)),w,(w1.set (a:Int).toNat x))))))) (kx (.exit 0) (v,v1,v2,v3,v4,a,w,w1))
def A3o(R:Type)(k:Nat)(rf:FT [Yd1,Yk1] [Yc1,Yc1]):Px R:=pxO [(90,cA rf),(134,cA A9l),(135,cA Bc1)] [] [(3,An k Aks (H1 rf))] []
def Kp(k:Nat)(rf:FT [Yd1,Yk1] [Yc1,Yc1])(x:HV [Yd1,Yk1]):Ya1 (HV [Yc1,Yc1]):=match x with
 |(e,cols)=>
 Aj (λc=>H1 rf c (λe g=>match g with|(v6,v7,v8,_,_,_,a,b)=>match e with
  |.ret=>
  some (v7,v8)
  |.exit 0=>
  let f:=λ(q:Yb1 Int)=>
   cond (decide (a.kind=1)) (
   some (a.v.kind,0)) (
   cond (decide (a.kind=2)) (
    cond (decide ((B3 v6 a.name)<0)) (
    some (0,150)) (
    chk (inb (B3 v6 a.name) v6.length) (
     some ((at' .col v6 (B3 v6 a.name)).kind,0)))) (
    cond (decide (a.kind=16)) (
    some (2,0)) (
    let d:=λ(p:Bool)=>
     cond (p) (
     cond (Jk (at' .int q 0) 2) (
      cond (Jk (at' .int q 1) 2) (
      some (2,0)) (
      some (0,151))) (
      some (0,151))) (
     let j:=λ(p3:Bool)=>
      cond (p3) (
      cond (Jk (at' .int q 0) 3) (
       cond (Jk (at' .int q 1) 3) (
       some (3,0)) (
       some (0,151))) (
       some (0,151))) (
      cond (decide ((at' .int q 0)=(at' .int q 1))) (
       some (2,0)) (
       cond (decide ((at' .int q 0)=1)) (
       some (2,0)) (
       cond (decide ((at' .int q 1)=1)) (
        some (2,0)) (
        some (0,151)))))
     cond (decide (a.kind=12)) (
      j (decide (a.kind=12))) (
      cond (decide (a.kind=13)) (
      j (decide (a.kind=13))) (
      cond (decide (a.kind=14)) (
       j (decide (a.kind=14))) (
       j (decide (a.kind=15))))))
    cond (decide (a.kind=3)) (
     d (decide (a.kind=3))) (
     cond (decide (a.kind=4)) (
     d (decide (a.kind=4))) (
     d (decide (a.kind=5)))))))
  cond (decide ((a.l.length:Int)=1)) (
   f (b.set (1:Int).toNat (at' .int b 0))) (
   f b)
  |_=>none)) k (cols,0,0,e.l,(e.l.length:Int),0,e,[0,0])
theorem Bma(k:Nat)(rf:FT [Yd1,Yk1] [Yc1,Yc1])(c:FO 90 [Yd1,Yk1] [Yc1,Yc1] rf):FO 90 [Yd1,Yk1] [Yc1,Yc1] (Kp k rf):=fR (px:=A3o _ k rf) (n:=1) Tryz.func90 rfl (λcx H=>by have d:Lv cx (A3o (HV [Yc1,Yc1]) k rf):=lv H (c1 H c (c1 H Bft (c1 H Btt Ae))) Aa Ab;have a:=lO H d (b:=lp Tryz.f90 0) (k:=k) (n:=0) (s:=Aks) (step:=H1 rf) (λ_ _ _ (_,_,_,_,_,_,_,_)=>by kernel_rfl) Ai;exact⟨d,(A4 Ai a)⟩) λ(_,_)=>by kernel_rfl
def Jo(e:Xpr)(cols:Yb1 Col)(a b:Int):Int×Int:=if e.kind=1 then(e.v.kind,0)else if e.kind=2 then(if B3 cols e.name<0 then(0,150)else((at' .col cols (B3 cols e.name)).kind,0))else if e.kind=16 then(2,0)else if e.kind=3\/e.kind=4\/e.kind=5 then(if Jk a 2&&Jk b 2 then(2,0)else(0,151))else if e.kind=12\/e.kind=13\/e.kind=14\/e.kind=15 then(if Jk a 3&&Jk b 3 then(3,0)else(0,151))else if a=b\/a=1\/b=1 then(2,0)else(0,151)
def Aay(e:Xpr)(cols:Yb1 Col):Yb1 (Int×Int)->Int×Int|[]=>Jo e cols 0 0|[(a,f)]=>if f=0 then Jo e cols a a else(0,f)|(a,f)::(b,g)::_=>if f=0 then(if g=0 then Jo e cols a b else(0,g))else(0,f)
mutual
def Bd:Xpr->Yb1 Col->Int×Int|.mk k v nm l,cols=>Aay (.mk k v nm l) cols (kindL l cols)
def kindL:Yb1 Xpr->Yb1 Col->Yb1 (Int×Int)|[],_=>[]|x::l,cols=>Bd x cols::kindL l cols
end
theorem K3(e:Xpr)(cols:Yb1 Col):Bd e cols=Aay e cols (kindL e.l cols):=by cases e;simp[Bd,Xpr.l]
def Ayl:FT [Yd1,Yk1] [Yc1,Yc1]:=λx=>some (Bd x.1 x.2)
def Bfk(a:Xpr)(b:Yb1 Col)(q:Yb1 Int):Ya1 (Int×Int):=
   cond (decide (a.kind=1)) (
   some (a.v.kind,0)) (
   cond (decide (a.kind=2)) (
    cond (decide ((B3 b a.name)<0)) (
    some (0,150)) (
    chk (inb (B3 b a.name) b.length) (
     some ((at' .col b (B3 b a.name)).kind,0)))) (
    cond (decide (a.kind=16)) (
    some (2,0)) (
    let c:=λ(p:Bool)=>
     cond (p) (
     cond (Jk (at' .int q 0) 2) (
      cond (Jk (at' .int q 1) 2) (
      some (2,0)) (
      some (0,151))) (
      some (0,151))) (
     let j:=λ(p3:Bool)=>
      cond (p3) (
      cond (Jk (at' .int q 0) 3) (
       cond (Jk (at' .int q 1) 3) (
       some (3,0)) (
       some (0,151))) (
       some (0,151))) (
      cond (decide ((at' .int q 0)=(at' .int q 1))) (
       some (2,0)) (
       cond (decide ((at' .int q 0)=1)) (
       some (2,0)) (
       cond (decide ((at' .int q 1)=1)) (
        some (2,0)) (
        some (0,151)))))
     cond (decide (a.kind=12)) (
      j (decide (a.kind=12))) (
      cond (decide (a.kind=13)) (
      j (decide (a.kind=13))) (
      cond (decide (a.kind=14)) (
       j (decide (a.kind=14))) (
       j (decide (a.kind=15))))))
    cond (decide (a.kind=3)) (
     c (decide (a.kind=3))) (
     cond (decide (a.kind=4)) (
     c (decide (a.kind=4))) (
     c (decide (a.kind=5)))))))
theorem Afv(e:Xpr)(cols:Yb1 Col)(a b:Int):Bfk e cols [a,b]=some (Jo e cols a b):=by
 have m:at' .int [a,b] 0=a:=rfl;have hb:at' .int [a,b] 1=b:=rfl;simp[Bfk,Jo,m,hb];generalize e.kind=k;by_cases d:k=1
 ·simp[d]
 by_cases f:k=2
 ·simp[f];by_cases g:B3 cols e.name<0
  ·simp[g]
  ·rw[Bru g];simp[g,chk]
 by_cases c:k=16
 ·simp[c]
 rw[Zd1 d,Zd1 f,Zd1 c,if_neg d,if_neg f,if_neg c];simp;by_cases n:k=3
 ·grind
 by_cases o:k=4
 ·grind
 by_cases p:k=5
 ·grind
 rw[Zd1 n,Zd1 o,Zd1 p,if_neg (by omega)];simp;by_cases h:k=12
 ·grind
 by_cases i:k=13
 ·grind
 by_cases j:k=14
 ·grind
 by_cases l:k=15
 ·grind
 rw[Zd1 h,Zd1 i,Zd1 j,Zd1 l,if_neg (by omega)];simp;by_cases c1:a=b
 ·simp[c1]
 by_cases c2:a=1
 ·simp[c2]
 by_cases c3:b=1
 ·simp[c3]
 simp[c1,c2,c3]
def As3{R:Type}(ga:Int->Ya1 R)(gb:Int->Int->Ya1 R):Yb1 (Int×Int)->Ya1 R|[]=>gb 0 0|[(a,f)]=>if f=0 then gb a 0 else ga f|(a,f)::(b,g)::_=>if f=0 then(if g=0 then gb a b else ga g)else ga f
variable{R:Type}{cols:Yb1 Col}
theorem Blg{rf:FT [Yd1,Yk1] [Yc1,Yc1]}{kx:Ex->Ux->Ya1 R}{e:Xpr}{ga:Int->Ya1 R}{gb:Int->Int->Ya1 R}(v:ln e.l.length)(d:∀x,x∈e.l->rf (x,cols)=some (Bd x cols))(n:∀f i o,kx .ret (cols,0,f,e.l,(e.l.length:Int),i,e,o)=ga f)(p:∀i a b,kx (.exit 0) (cols,0,0,e.l,(e.l.length:Int),i,e,[a,b])=gb a b)(k:Nat):Aj (λc=>H1 rf c kx) (k+3) (cols,0,0,e.l,(e.l.length:Int),0,e,[0,0])=As3 ga gb (kindL e.l cols):=by
 rw[Au];generalize e.l=l at *;match l with
 |[]=>simp;exact p 0 0 0
 |[x]=>
  simp only[H1];have q:at' .expr [x] 0=x:=rfl;rw[q,d x (by simp)];simp only[ kindL,As3];show cond (!decide ((Bd x cols).2=0)) (kx .ret (cols,0,(Bd x cols).2,[x],1,0,e,[(Bd x cols).1,0])) (Aj (λc=>H1 rf c kx) (k+2) (cols,0,0,[x],1,1,e,[(Bd x cols).1,0]))=_;have h:=λf i o=>n f i o;have j:=λi a b=>p i a b;have s:(([x]:Yb1 Xpr).length:Int)=1:=rfl;rw[s]at h j;rw[h,Au];have:H1 rf (Aj (λc=>H1 rf c kx) (k+1)) kx (cols,0,0,[x],1,1,e,[(Bd x cols).1,0])=kx (.exit 0) (cols,0,0,[x],1,1,e,[(Bd x cols).1,0]):=rfl;rw[this,j];by_cases r:(Bd x cols).2=0
  ·simp
  ·simp
 |x::y::t=>
  simp only[H1];have m:(0:Int)<((x::y::t).length:Int):=by simp;omega
  have g:(1:Int)<((x::y::t).length:Int):=by simp;omega
  have q:at' .expr (x::y::t) 0=x:=rfl;have e2:at' .expr (x::y::t) 1=y:=rfl;rw[Ze1 m,q,d x (by simp)];have i1:inb 0 (x::y::t).length=true:=Ao (i:=0) (by simp);have u:inb 1 (x::y::t).length=true:=Ao (i:=1) (by simp);rw[i1];simp only[ kindL,As3];show cond (!decide ((Bd x cols).2=0)) (kx .ret (cols,0,(Bd x cols).2,x::y::t,_,0,e,[(Bd x cols).1,0])) (Aj (λc=>H1 rf c kx) (k+2) (cols,0,0,x::y::t,((x::y::t).length:Int),1,e,[(Bd x cols).1,0]))=_;rw[n,Au];simp only[H1];rw[Ze1 g,e2,d y (by simp),u];simp only[ chk];show cond (!decide ((Bd x cols).2=0)) (ga (Bd x cols).2) (cond (!decide ((Bd y cols).2=0)) (kx .ret (cols,0,(Bd y cols).2,x::y::t,_,1,e,_)) (kx (.exit 0) (cols,0,0,x::y::t,_,1,e,[(Bd x cols).1,(Bd y cols).1])))=_;rw[n,p];by_cases r:(Bd x cols).2=0
  ·grind
  ·simp[r]
theorem Aww(k:Nat):∀(n:Nat) (e:Xpr) (cols:Yb1 Col),BdExpr e->A1 e<=n->Aj (Kp (k+3)) n (e,cols)=some (Bd e cols)
 |0,e,cols,_,h=>by have:=D1 e;omega
 |n+1,e,cols,hb,h=>by
  obtain⟨c,d⟩:=Ail hb;rw[Ds]at h;have g:∀x,x∈e.l->Aj (Kp (k+3)) n (x,cols)=some (Bd x cols):=λx i=>Aww k n x cols (d x i) (by have:=Bi i;omega);rw[Au,K3];simp[Kp];refine(Blg (ga:=λf=>some (0,f)) (gb:=λa b=>cond (decide ((e.l.length:Int)=1)) (Bfk e cols [a,a]) (Bfk e cols [a,b])) c g ?_ ?_ k).trans ?_
  ·exactλ_ _ _=>rfl
  ·exactλ_ _ _=>rfl
  ·generalize e.l=l;match l with
   |[]=>simp[kindL,As3,Aay,Afv]
   |[x]=>simp[kindL,As3,Aay,Afv];split<;>simp
   |x::y::t=>
    simp only[kindL,As3,Aay,Afv];have:¬(((x::y::t).length:Int)=1):=by simp;omega
    rw[Zd1 this];split
    ·split<;>rfl
    ·rfl
theorem A4b:FO 90 [Yd1,Yk1] [Yc1,Yc1] Ayl:=by refine .fin (ι:=Nat) 0 (F:=λn=>Aj (Kp 3) n) (λn=>FnOk.rec' (Sx.enters_of Tryz.func90 rfl rfl) (λrf a=>Bma 3 rf a) n) λ(e,cols) r hb b=>⟨A1 e,?_⟩;exact(Aww 0 (A1 e) e cols hb.1 (Zn1 _)).trans b
def Bv5(R:Type):Px R:=pxO [(89,cA Ax1),(90,cA Ayl)] [] [] []
def Aae(x:HV [Yd1,Yk1]):Ya1 (HV [Yc1,Yc1]):=match x with|(e,cols)=>cond (!decide ((Ew e)=0)) (some (0,(Ew e))) (some ((Bd e cols).1,(Bd e cols).2))
theorem Bh1:FO 180 [Yd1,Yk1] [Yc1,Yc1] (Aae):=fR (px:=Bv5 _) (n:=0) Tryz.func180 rfl (λ_ H=>⟨lv H (c1 H A29 (c1 H A4b Ae)) Aa Ab,Ai⟩) λ(_,_)=>by kernel_rfl
def Em(e:Xpr)(cols:Yb1 Col):Int×Int:=cond (!decide ((Ew e)=0)) (0,(Ew e)) ((Bd e cols).1,(Bd e cols).2)
theorem Bhw(x:HV [Yd1,Yk1]):Aae x=some (Em x.1 x.2):=by
 first
  |exact rfl
  |simp only[Aae,Em,Aw]
def Bco:FT [Yd1,Yk1] [Yc1,Yc1]:=λx=>some (Em x.1 x.2)
theorem Bsw:FO 180 [Yd1,Yk1] [Yc1,Yc1] Bco:=.fin0 Bh1 λx _ _ a=>(Bhw x).trans a
def Aov:Sig:=⟨133,[(1,.sl .col false),(2,.sl .val false),(7,.int .i64),(8,.sl .val true),(9,.bool),(15,.sl .expr false),(16,.int .i64),(17,.int .i64)],[(3,.ptr 0 0),(6,.ptr 1 0)],[(0,.one (.sv .expr)),(1,.one (.sv .val))],2,0,0,[],[]⟩
abbrev V9:=Yb1 Col×Yb1 Val×Int×Yb1 Val×Bool×Yb1 Xpr×Int×Int×Xpr×Val
def Ut{R:Type}(rf:FT [Yd1,Yk1,Yj1] [Yi1,Yc1])(a:V9->Ya1 R)(kx:Ex->V9->Ya1 R)(v:V9):Ya1 R:=match v with|(v,v1,v2,v3,v4,v5,v6,v7,w,w1)=>cond (decide (v7<v6)) (chk (inb v7 v5.length) ((rf ((at' .expr v5 v7),v,v1)).bind λ(x,b)=>cond (!decide (b=0)) (kx .ret (v,v1,b,v3,v4,v5,v6,v7,w,(Val.mk 0 0 []))) (chk (decide (v3.length+1<=Ah)) (cond (v4) (a (v,v1,v2,(v3++[x]),true,v5,v6,(wr .i64 (v7+1)),w,w1)) (a (v,v1,v2,(v3++[x]),decide (x.kind=1),v5,v6,(wr .i64 (v7+1)),w,w1)))))) (kx (.exit 0) (v,v1,v2,v3,v4,v5,v6,v7,w,w1))
def A16(R:Type)(k:Nat)(rf:FT [Yd1,Yk1,Yj1] [Yi1,Yc1]):Px R:=pxO [(91,cA rf),(134,cA A9l),(136,cA Azh),(137,cA Ayu),(139,cA A5d)] [(138,qA Bun),(56,qA Baw)] [(4,An k Aov (Ut rf))] []
def Kk(k:Nat)(rf:FT [Yd1,Yk1,Yj1] [Yi1,Yc1])(x:HV [Yd1,Yk1,Yj1]):Ya1 (HV [Yi1,Yc1]):=match x with
 |(e,cols,row)=>
 Aj (λg=>Ut rf g (λe h=>match h with|(v8,v9,d,b,c,_,_,_,a,f)=>match e with
  |.ret=>
  some (f,d)
  |.exit 0=>
  cond (decide (a.kind=1)) (
   some (a.v,0)) (
   cond (decide (a.kind=2)) (
   chk (inb (B3 v8 a.name) v9.length) (
    some ((at' .val v9 (B3 v8 a.name)),0))) (
   cond (decide (a.kind=16)) (
    some ((Gc c),0)) (
    let j:=λ(i:Bool)=>
    cond (i) (
     some ((Ahz a.kind b),0)) (
     cond (c) (
     some ((Val.mk 1 0 []),0)) (
     cond (decide (a.kind=3)) (
      chk (inb 0 b.length) (
      some ((Gc (decide ((at' .val b 0).n=0))),0))) (
      cond (decide (a.kind=15)) (
      chk (inb 0 b.length) (
       some ((W4 a.kind ((at' .val b 0).n) 0).1,(W4 a.kind ((at' .val b 0).n) 0).2))) (
      cond (decide (12<=a.kind)) (
       chk (inb 0 b.length) (
       chk (inb 1 b.length) (
        some ((W4 a.kind ((at' .val b 0).n) ((at' .val b 1).n)).1,(W4 a.kind ((at' .val b 0).n) ((at' .val b 1).n)).2)))) (
       chk (inb 0 b.length) (
       chk (inb 1 b.length) (
        some ((Gc (Aql a.kind (Gs (at' .val b 0) (at' .val b 1)))),0))))))))
    cond (decide (a.kind=4)) (
    j true) (
    j (decide (a.kind=5))))))
  |_=>none)) k (cols,row,0,[],false,e.l,(e.l.length:Int),0,e,(Val.mk 0 0 []))
theorem Bj8(k:Nat)(rf:FT [Yd1,Yk1,Yj1] [Yi1,Yc1])(c:FO 91 [Yd1,Yk1,Yj1] [Yi1,Yc1] rf):FO 91 [Yd1,Yk1,Yj1] [Yi1,Yc1] (Kk k rf):=fR (px:=A16 _ k rf) (n:=1) Tryz.func91 rfl (λcx H=>by have d:Lv cx (A16 (HV [Yi1,Yc1]) k rf):=lv H (c1 H c (c1 H Bft (c1 H A4i (c1 H Bou (c1 H Bhj Ae))))) (q1 H Bxk (q1 H Bet Aa)) Ab;have a:=lO H d (b:=lp Tryz.f91 0) (k:=k) (n:=0) (s:=Aov) (step:=Ut rf) (λ_ _ _ (_,_,_,_,_,_,_,_,_,_)=>by kernel_rfl) Ai;exact⟨d,(A4 Ai a)⟩) λ(_,_,_)=>by kernel_rfl
def A9v(a:Xpr)(d:Yb1 Col)(e:Yb1 Val)(b:Yb1 Val)(c:Bool):Ya1 (Val×Int):=
  cond (decide (a.kind=1)) (
   some (a.v,0)) (
   cond (decide (a.kind=2)) (
   chk (inb (B3 d a.name) e.length) (
    some ((at' .val e (B3 d a.name)),0))) (
   cond (decide (a.kind=16)) (
    some ((Gc c),0)) (
    let j:=λ(p3:Bool)=>
    cond (p3) (
     some ((Ahz a.kind b),0)) (
     cond (c) (
     some ((Val.mk 1 0 []),0)) (
     cond (decide (a.kind=3)) (
      chk (inb 0 b.length) (
      some ((Gc (decide ((at' .val b 0).n=0))),0))) (
      cond (decide (a.kind=15)) (
      chk (inb 0 b.length) (
       some (((W4 a.kind ((at' .val b 0).n) 0).1),(W4 a.kind ((at' .val b 0).n) 0).2))) (
      cond (decide (12<=a.kind)) (
       chk (inb 0 b.length) (
       chk (inb 1 b.length) (
        some (((W4 a.kind ((at' .val b 0).n) ((at' .val b 1).n)).1),(W4 a.kind ((at' .val b 0).n) ((at' .val b 1).n)).2)))) (
       chk (inb 0 b.length) (
       chk (inb 1 b.length) (
        some ((Gc (Aql a.kind (Gs (at' .val b 0) (at' .val b 1)))),0))))))))
    cond (decide (a.kind=4)) (
    j true) (
    j (decide (a.kind=5))))))
mutual
def R3:Xpr->Yb1 Col->Yb1 Val->Ya1 (Val×Int)|.mk k v nm l,cols,row=>match evalL l cols row with|some (f,vs)=>chk (decide (l.length<=Ah)) (if f=0 then A9v (.mk k v nm l) cols row vs (vs.any Jq)else some (⟨0,0,[]⟩,f))|none=>none
def evalL:Yb1 Xpr->Yb1 Col->Yb1 Val->Ya1 (Int×Yb1 Val)
 |[],_,_=>some (0,[])
 |x::l,cols,row=>match R3 x cols row with
  |some (v,f)=>if f=0 then(match evalL l cols row with
   |some (g,vs)=>some (g,v::vs)
   |none=>none)else some (f,[])
  |none=>none
end
theorem A2t(e:Xpr)(cols:Yb1 Col)(row:Yb1 Val):R3 e cols row=match evalL e.l cols row with
  |some (f,vs)=>chk (decide (e.l.length<=Ah)) (if f=0 then A9v e cols row vs (vs.any Jq)else some (⟨0,0,[]⟩,f))
  |none=>none:=by
 cases e;simp[R3];rfl
def Bfv:FT [Yd1,Yk1,Yj1] [Yi1,Yc1]:=λx=>R3 x.1 x.2.1 x.2.2
theorem Ase{R:Type}{rf:FT [Yd1,Yk1,Yj1] [Yi1,Yc1]}{kx:Ex->V9->Ya1 R}{cols:Yb1 Col}{row:Yb1 Val}{e:Xpr}{ga:Int->Ya1 R}{gb:Yb1 Val->Bool->Ya1 R}(p:ln e.l.length)(hm:e.l.length<=Ah)(b:∀x,x∈e.l->∀r,R3 x cols row=some r->rf (x,cols,row)=some r)(q:∀f vs u j,kx .ret (cols,row,f,vs,u,e.l,(e.l.length:Int),j,e,⟨0,0,[]⟩)=ga f)(s:∀vs u j z,kx (.exit 0) (cols,row,0,vs,u,e.l,(e.l.length:Int),j,e,z)=gb vs u):∀(k i:Nat) (acc:Yb1 Val) (u:Bool) z f vs,acc.length=i->i<=e.l.length->e.l.length-i<k->evalL (e.l.drop i) cols row=some (f,vs)->Aj (λn=>Ut rf n kx) k (cols,row,0,acc,u,e.l,(e.l.length:Int),(i:Int),e,z)=if f=0 then gb (acc++vs) (u||vs.any Jq)else ga f
 |0,i,_,_,_,_,_,_,_,h,_=>by omega
 |k+1,i,acc,u,z,f,vs,ha,hi,h,hev=>by
  rw[Au];by_cases d:i<e.l.length
  ·rw[Ak d]at hev;simp[evalL]at hev;split at hev
   ·rename_i v f' t;simp only[Ut,Al (c:=.expr) d,Ao d,(b _ (List.getElem_mem d) _ t),Zc1,chk,Bool.cond_decide];rw[if_pos (by omega)];split at hev
    ·rename_i m;subst m;split at hev
     ·rename_i g o a;simp[ Zp1]at hev;obtain⟨rfl,rfl⟩:=hev;rw[if_pos (by simp at *;omega)];simp only[ Am d p,(λu=>Ase p hm b q s k (i+1) (acc++[v]) u z g o (by simp[ha]) (by omega) (by omega) a),List.any_cons];cases u<;>simp[Jq]
     ·cases hev
    ·rename_i m;simp[ Zp1]at hev;obtain⟨rfl,rfl⟩:=hev;rw[Zd1 m,if_neg m];simp[ q]
   ·cases hev
  ·rw[Zk1 (by omega)]at hev;simp[evalL,Zp1]at hev;obtain⟨rfl,rfl⟩:=hev;simp only[Ut,s,Bool.cond_decide];rw[if_neg (by omega)];simp
theorem Ar4(k:Nat):∀(n:Nat) (e:Xpr) (cols:Yb1 Col) (row:Yb1 Val) r,BdExpr e->A1 e<=n->A1 e<=k->R3 e cols row=some r->Aj (Kk k) n (e,cols,row)=some r
 |0,e,_,_,_,_,h,_,_=>by have:=D1 e;omega
 |n+1,e,cols,row,r,hb,h,hk,a=>by
  obtain⟨b,c⟩:=Ail hb;rw[Ds]at h hk;have m:=Gt e.l;have d:∀x,x∈e.l->∀r,R3 x cols row=some r->Aj (Kk k) n (x,cols,row)=some r:=λx g r j=>Ar4 k n x cols row r (c x g) (by have:=Bi g;omega) (by have:=Bi g;omega) j;rw[Au];simp[Kk];rw[A2t]at a;split at a
  ·rename_i f vs i;obtain⟨hc,a⟩:=A2 a;simp at hc;refine(Ase (ga:=λf=>some (⟨0,0,[]⟩,f)) (gb:=λvs u=>A9v e cols row vs u) b hc d ?_ ?_ k 0 [] false _ f vs rfl (Nat.zero_le _) (by omega) (by simpa using i)).trans ?_
   ·exactλ_ _ _ _=>rfl
   ·exactλ_ _ _ _=>rfl
   ·simpa using a
  ·cases a
theorem Bpb:FO 91 [Yd1,Yk1,Yj1] [Yi1,Yc1] Bfv:=by refine .fin (ι:=Nat) 0 (F:=λn=>Aj (Kk n) n) (λn=>FnOk.rec' (Sx.enters_of Tryz.func91 rfl rfl) (λrf a=>Bj8 n rf a) n) λ(e,cols,row) r hb b=>⟨A1 e,?_⟩;exact Ar4 (A1 e) (A1 e) e cols row r hb.1 (Zn1 _) (Zn1 _) b
mutual
def Ha:Xpr->Xpr->Bool|.mk k v n l,.mk k' v' n' l'=>decide (k=k')&&decide (v=v')&&decide (n=n')&&xsames l l'
def xsames:Yb1 Xpr->Yb1 Xpr->Bool|[],[]=>true|x::l,y::m=>Ha x y&&xsames l m|_,_=>false
end
mutual
theorem Aeu:∀a b:Xpr,Ha a b=true↔a=b
 |.mk k v n l,.mk k' v' n' l'=>by
  simp only[Ha,Zb1,Zg1,xsames_iff l l',Xpr.mk.injEq];constructor
  ·rintro⟨⟨⟨c,d⟩,e⟩,f⟩;exact⟨c,d,e,f⟩
  ·rintro⟨c,d,e,f⟩;exact⟨⟨⟨c,d⟩,e⟩,f⟩
theorem xsames_iff:∀a b:Yb1 Xpr,xsames a b=true↔a=b
 |[],[]=>by simp[xsames]
 |x::l,y::m=>by simp only[xsames,Zb1,Aeu x y,xsames_iff l m,Ze2]
 |[],_::_=>by simp[xsames]
 |_::_,[]=>by simp[xsames]
end
instance:DecidableEq Xpr:=λa b=>decidable_of_iff (Ha a b=true) (Aeu a b)
theorem Iy(a b:Xpr):Ha a b=decide (a=b):=by rw[Bool.eq_iff_iff,Aeu,Zg1]
theorem Aqs{a b:Yb1 Xpr}(h:xsames a b=true):a.length=b.length:=by rw[(xsames_iff a b).1 h]
theorem A31(a b:Xpr):Ha a b=(decide (a.kind=b.kind)&&decide (a.v=b.v)&&decide (a.name=b.name)&&xsames a.l b.l):=by cases a;cases b;simp[Ha];rfl
def Ak2:Sig:=⟨32,[(1,.sl .expr false),(6,.bool),(15,.sl .expr false),(16,.int .i64),(17,.int .i64)],[(2,.fn 251 [])],[],40,40,200,[],[]⟩
abbrev Tp:=Yb1 Xpr×Bool×Yb1 Xpr×Int×Int
def Tb{R:Type}(rf:FT [Yd1,Yd1] [.bool])(a:Tp->Ya1 R)(kx:Ex->Tp->Ya1 R)(v:Tp):Ya1 R:=match v with|(v,v1,v2,v3,v4)=>cond (decide (v4<v3)) (chk (inb v4 v2.length) (chk (inb v4 v.length) ((rf ((at' .expr v2 v4),(at' .expr v v4))).bind λx=>cond (!x) (kx .ret (v,false,v2,v3,v4)) (a (v,v1,v2,v3,(wr .i64 (v4+1))))))) (kx (.exit 0) (v,v1,v2,v3,v4))
def Amp(R:Type)(k:Nat)(rf:FT [Yd1,Yd1] [.bool]):Px R:=pxO [(251,cA rf)] [] [(4,An k Ak2 (Tb rf))] []
noncomputable def A5q(R:Type)(k:Nat)(rf:FT [Yd1,Yd1] [.bool]):Px R:=pxO [(255,A0 40 200 (Amp R k rf) Tryz.f255)] [] [] []
def Iz(k:Nat)(rf:FT [Yd1,Yd1] [.bool])(x:HV [Yd1,Yd1]):Ya1 (HV [.bool]):=match x with
 |(a,b)=>
 let d:=λ(p:Bool)=>
  let j:=λ(p1:Bool)=>
  cond (p1) (
   cond (!decide ((a.l.length:Int)=(b.l.length:Int))) (
   some false) (
   Aj (λc=>Tb rf c (λe f=>match f with|(_,v6,_,_,_)=>match e with
    |.ret=>
    some v6
    |.exit 0=>
    some true
    |_=>none)) k (b.l,false,a.l,(a.l.length:Int),0))) (
   some false)
  cond (p) (
  j (decide (a.name=b.name))) (
  j false)
 cond (decide (a.kind=b.kind)) (
  d (decide (a.v=b.v))) (
  d false)
theorem Bhh(k:Nat)(rf:FT [Yd1,Yd1] [.bool])(c:FO 251 [Yd1,Yd1] [.bool] rf):FO 251 [Yd1,Yd1] [.bool] (Iz k rf):=fR (px:=A5q _ k rf) (n:=0) Tryz.func251 rfl (λcx H=>by have d:Lv cx (Amp (HV [.bool]) k rf):=lv H (c1 H c Ae) Aa Ab;have a:=lO H d (b:=lp Tryz.f255 0) (k:=k) (n:=0) (s:=Ak2) (step:=Tb rf) (λ_ _ _ (_,_,_,_,_)=>by kernel_rfl) Ai;have e:Lv cx (A5q (HV [.bool]) k rf):=lv H (As (cR H d Tryz.func255 rfl (n:=1) (A4 Ai a)) Ae) Aa Ab;exact⟨e,Ai⟩) λ(_,_)=>by kernel_rfl
def Re(a b:Xpr):Bool:=Ha a b
def Wt:FT [Yd1,Yd1] [.bool]:=λx=>some (Re x.1 x.2)
variable{c:Bool->Ya1 R}{m:Yb1 Xpr}
theorem A9g{rf:FT [Yd1,Yd1] [.bool]}{kx:Ex->Tp->Ya1 R}{l:Yb1 Xpr}(e:ln l.length)(hm:l.length=m.length)(d:∀x,x∈l->∀y,y∈m->rf (x,y)=some (Ha x y))
  (f:∀i,kx .ret (m,false,l,(l.length:Int),i)=c false) (g:∀q i,kx (.exit 0) (m,q,l,(l.length:Int),i)=c true) (k:Nat) (j:l.length<k):Aj (λb=>Tb rf b kx) k (m,false,l,(l.length:Int),0)=c (xsames l m):=by
 refine(A3 l.length (λi=>(m,false,l,(l.length:Int),(i:Int))) (λi=>c (xsames (l.drop i) (m.drop i))) (λi hi b h=>?_) (λb=>?_) k 0 (Nat.zero_le _) (by omega)).trans (by rw[Zq1,Zq1])
 ·have a:i<m.length:=by omega
  simp only[Tb,Cs hi,Ao hi,Ao a,Al (c:=.expr) hi,Al (c:=.expr) a,d _ (List.getElem_mem hi) _ (List.getElem_mem a),Am hi e,h,f,Ak hi,Ak a,xsames];cases Ha l[i] m[i]<;>rfl
 ·simp only[Tb,C4,g];rw[Zk1 (Zn1 _),Zk1 (by omega)];rfl
theorem As0(k:Nat):∀(n:Nat) (a b:Xpr),BdExpr a->BdExpr b->A1 a<=n->A1 a<=k->Aj (Iz k) n (a,b)=some (Ha a b)
 |0,a,b,_,_,h,_=>by have:=D1 a;omega
 |n+1,a,b,ha,hb,h,hk=>by
  obtain⟨g,i⟩:=Ail ha;obtain⟨r,j⟩:=Ail hb;rw[Ds]at h hk;have u:=Gt a.l;have o:∀x,x∈a.l->∀y,y∈b.l->Aj (Iz k) n (x,y)=some (Ha x y):=λx p y s=>As0 k n x y (i x p) (j y s) (by have:=Bi p;omega) (by have:=Bi p;omega);rw[Au,A31];simp only[Iz];by_cases d:a.l.length=b.l.length
  ·have f:=A9g (R:=Bool) (rf:=Aj (Iz k) n) (l:=a.l) (m:=b.l) (c:=some) (kx:=λe v=>match v with
    |(_,v6,_,_,_)=>match e with
     |.ret=>some v6
     |.exit 0=>some true
     |_=>none) g d o (λ_=>rfl) (λ_ _=>rfl) k (by omega)
   rw[f,Ze1 (show(a.l.length:Int)=(b.l.length:Int) by omega)];cases decide (a.kind=b.kind)<;>cases decide (a.v=b.v)<;>cases decide (a.name=b.name)<;>cases xsames a.l b.l<;>rfl
  ·have q:xsames a.l b.l=false:=by cases t:xsames a.l b.l with|false=>rfl|true=>exact absurd (Aqs t) d
   rw[q,Zd1 (show ¬(a.l.length:Int)=(b.l.length:Int) by omega)];cases decide (a.kind=b.kind)<;>cases decide (a.v=b.v)<;>cases decide (a.name=b.name)<;>rfl
theorem Q2:FO 251 [Yd1,Yd1] [.bool] Wt:=by refine .fin (ι:=Nat) 0 (F:=λn=>Aj (Iz n) n) (λn=>FnOk.rec' (Sx.enters_of Tryz.func251 rfl rfl) (λrf c=>Bhh n rf c) n) λ(a,b) r hb d=>⟨A1 a,?_⟩;exact(As0 (A1 a) (A1 a) a b hb.1 hb.2 (Zn1 _) (Zn1 _)).trans d
def Amb:Sig:=⟨53,[(4,.bool),(5,.int .i64)],[(2,.ptr 0 0),(3,.ptr 1 0)],[(0,.one (.sv .expr)),(1,.one (.sv .expr))],2,0,0,[],[]⟩
abbrev Uk:=Bool×Int×Xpr×Xpr
def Uc{R:Type}(rf:FT [Yd1,Yd1] [.bool])(a:Uk->Ya1 R)(kx:Ex->Uk->Ya1 R)(v:Uk):Ya1 R:=match v with|(v,v1,w,w1)=>cond (decide (v1<(w.l.length:Int))) (chk (inb v1 w.l.length) (chk (inb v1 w1.l.length) ((rf ((at' .expr w.l v1),(at' .expr w1.l v1))).bind λx=>cond (!x) (kx .ret (false,v1,w,w1)) (a (v,(wr .i64 (v1+1)),w,w1))))) (kx (.exit 0) (v,v1,w,w1))
def A7j(R:Type)(k:Nat)(rf:FT [Yd1,Yd1] [.bool]):Px R:=pxO [(165,cA rf)] [] [(4,An k Amb (Uc rf))] []
def It(k:Nat)(rf:FT [Yd1,Yd1] [.bool])(x:HV [Yd1,Yd1]):Ya1 (HV [.bool]):=match x with
 |(a,b)=>
 let j:=λ(p:Bool)=>
  cond (p) (
  some false) (
  cond (!decide (a.name=b.name)) (
   some false) (
   cond (!decide ((a.l.length:Int)=(b.l.length:Int))) (
   some false) (
   Aj (λc=>Uc rf c (λe d=>match d with|(v2,_,_,_)=>match e with
    |.ret=>
    some v2
    |.exit 0=>
    some true
    |_=>none)) k (false,0,a,b))))
 cond (!decide (a.kind=b.kind)) (
  j true) (
  j (!decide (a.v=b.v)))
theorem Bla(k:Nat)(rf:FT [Yd1,Yd1] [.bool])(c:FO 165 [Yd1,Yd1] [.bool] rf):FO 165 [Yd1,Yd1] [.bool] (It k rf):=fR (px:=A7j _ k rf) (n:=1) Tryz.func165 rfl (λcx H=>by have d:Lv cx (A7j (HV [.bool]) k rf):=lv H (c1 H c Ae) Aa Ab;have a:=lO H d (b:=lp Tryz.f165 0) (k:=k) (n:=0) (s:=Amb) (step:=Uc rf) (λ_ _ _ (_,_,_,_)=>by kernel_rfl) Ai;exact⟨d,(A4 Ai a)⟩) λ(_,_)=>by kernel_rfl
def Ats(a b:Xpr):Bool:=Ha a b
def Axp:FT [Yd1,Yd1] [.bool]:=λx=>some (Ats x.1 x.2)
theorem Bav{rf:FT [Yd1,Yd1] [.bool]}{kx:Ex->Uk->Ya1 R}{a b:Xpr}(g:ln a.l.length)(hm:a.l.length=b.l.length)(f:∀x,x∈a.l->∀y,y∈b.l->rf (x,y)=some (Ha x y))
  (h:∀i,kx .ret (false,i,a,b)=c false) (j:∀q i,kx (.exit 0) (q,i,a,b)=c true) (k:Nat) (n:a.l.length<k):Aj (λe=>Uc rf e kx) k (false,0,a,b)=c (xsames a.l b.l):=by
 refine(A3 a.l.length (λi=>(false,(i:Int),a,b)) (λi=>c (xsames (a.l.drop i) (b.l.drop i))) (λi hi e m=>?_) (λe=>?_) k 0 (Nat.zero_le _) (by omega)).trans (by rw[Zq1,Zq1])
 ·have d:i<b.l.length:=by omega
  simp only[Uc,Cs hi,Ao hi,Ao d,Al (c:=.expr) hi,Al (c:=.expr) d,f _ (List.getElem_mem hi) _ (List.getElem_mem d),Am hi g,m,h,Ak hi,Ak d,xsames];cases Ha a.l[i] b.l[i]<;>rfl
 ·simp only[Uc,C4,j];rw[Zk1 (Zn1 _),Zk1 (by omega)];rfl
theorem Aun(k:Nat):∀(n:Nat) (a b:Xpr),BdExpr a->BdExpr b->A1 a<=n->A1 a<=k->Aj (It k) n (a,b)=some (Ha a b)
 |0,a,b,_,_,h,_=>by have:=D1 a;omega
 |n+1,a,b,ha,hb,h,hk=>by
  obtain⟨g,i⟩:=Ail ha;obtain⟨q,j⟩:=Ail hb;rw[Ds]at h hk;have t:=Gt a.l;have m:∀x,x∈a.l->∀y,y∈b.l->Aj (It k) n (x,y)=some (Ha x y):=λx o y r=>Aun k n x y (i x o) (j y r) (by have:=Bi o;omega) (by have:=Bi o;omega);rw[Au,A31];simp only[It];by_cases d:a.l.length=b.l.length
  ·have f:=Bav (R:=Bool) (rf:=Aj (It k) n) (a:=a) (b:=b) (c:=some) (kx:=λe v=>match v with
    |(v2,_,_,_)=>match e with
     |.ret=>some v2
     |.exit 0=>some true
     |_=>none) g d m (λ_=>rfl) (λ_ _=>rfl) k (by omega)
   rw[f,Ze1 (show(a.l.length:Int)=(b.l.length:Int) by omega)];cases decide (a.kind=b.kind)<;>cases decide (a.v=b.v)<;>cases decide (a.name=b.name)<;>cases xsames a.l b.l<;>rfl
  ·have p:xsames a.l b.l=false:=by cases s:xsames a.l b.l with|false=>rfl|true=>exact absurd (Aqs s) d
   rw[p,Zd1 (show ¬(a.l.length:Int)=(b.l.length:Int) by omega)];cases decide (a.kind=b.kind)<;>cases decide (a.v=b.v)<;>cases decide (a.name=b.name)<;>rfl
theorem A6w:FO 165 [Yd1,Yd1] [.bool] Axp:=by refine .fin (ι:=Nat) 0 (F:=λn=>Aj (It n) n) (λn=>FnOk.rec' (Sx.enters_of Tryz.func165 rfl rfl) (λrf c=>Bla n rf c) n) λ(a,b) r hb d=>⟨A1 a,?_⟩;exact(Aun (A1 a) (A1 a) a b hb.1 hb.2 (Zn1 _) (Zn1 _)).trans d
def At5:Sig:=⟨19,[(0,.sl .str false),(1,.str),(4,.int .i64),(7,.int .i64),(8,.int .i64)],[],[],0,0,0,[],[]⟩
abbrev Aa4:=Yb1 Str×Str×Int×Int×Int
def Ae5{R:Type}(a:Aa4->Ya1 R)(kx:Ex->Aa4->Ya1 R)(v:Aa4):Ya1 R:=match v with|(v,v1,v2,v3,v4)=>cond (decide (v4<v3)) (chk (inb v4 v.length) (cond (decide (v1=(at' .str v v4))) (kx .ret (v,v1,v4,v3,v4)) (a (v,v1,v2,v3,(wr .i64 (v4+1)))))) (kx (.exit 0) (v,v1,v2,v3,v4))
def Bgb(R:Type)(k:Nat):Px R:=pxO [] [] [(2,An k At5 (Ae5))] []
def Asj(k:Nat)(x:HV [Yf1,.str]):Ya1 (HV [Yc1]):=match x with
 |(l,s)=>
 Aj (λa=>Ae5 a (λe b=>match b with|(_,_,v7,_,_)=>match e with
  |.ret=>
  some v7
  |.exit 0=>
  some (-1)
  |_=>none)) k (l,s,0,(l.length:Int),0)
theorem Bu4(k:Nat):FO 88 [Yf1,.str] [Yc1] (Asj k):=fR (px:=Bgb _ k) (n:=1) Tryz.func88 rfl (λcx H=>by have c:Lv cx (Bgb (HV [Yc1]) k):=lv H Ae Aa Ab;have a:=lO H c (b:=lp Tryz.f88 0) (k:=k) (n:=0) (s:=At5) (step:=Ae5) (λ_ _ _ (_,_,_,_,_)=>by kernel_rfl) Ai;exact⟨c,(A4 Ai a)⟩) λ(_,_)=>by kernel_rfl
def B4c(l:Yb1 Str)(s:Str):Int:=Lp.idx s l 0
def A7t:FT [Yf1,.str] [Yc1]:=λx=>some (B4c x.1 x.2)
theorem Axc{R:Type}{kx:Ex->Aa4->Ya1 R}{l:Yb1 Str}{s:Str}{c:Int->Ya1 R}(d:ln l.length)(f:∀(r:Int) (i:Int),kx .ret (l,s,r,(l.length:Int),i)=c r)(e:∀q:Int,kx (.exit 0) (l,s,q,(l.length:Int),(l.length:Int))=c (-1)) :
  ∀(k i:Nat) (q:Int),i<=l.length->l.length-i<k->Aj (λb=>Ae5 b kx) k (l,s,q,(l.length:Int),(i:Int))=c (Lp.idx s (l.drop i) i)
 |0,i,_,_,h=>absurd h (Zm1 _)
 |k+1,i,q,hi,h=>by
  rw[Au];by_cases a:i<l.length
  ·have g:decide ((i:Int)<(l.length:Int))=true:=Ze1 (by omega);have en:((i+1:Nat):Int)=(i:Int)+1:=by omega
   simp only[Ae5,Ao a,chk,Al (c:=.str) a,Am a d,(Axc d f e k (i+1) q (by omega) (by omega))];rw[Ak a,Lp.idx,en];by_cases j:s=l[i]
   ·grind
   ·grind
  ·have hi:i=l.length:=by omega
   subst hi;simp[Ae5,e,Lp.idx]
theorem Bz0:FO 88 [Yf1,.str] [Yc1] A7t:=.fin 0 Bu4 λ(l,s) r hb a=>⟨l.length+1,by simp only[A7t,Za1]at a;rw[<-a];simp only[Asj];exact Axc (c:=λq=>some q) hb.1.1 (λ_ _=>rfl) (λ_=>rfl) (l.length+1) 0 0 (Nat.zero_le _) (by omega)⟩
def Bzh(R:Type):Px R:=pxO [(88,cA A7t)] [] [] []
def Adv(x:HV [Yf1,.str]):Ya1 (HV [.bool]):=match x with|(l,s)=>some (decide (0<=(B4c l s)))
theorem Bto:FO 54 [Yf1,.str] [.bool] (Adv):=fR (px:=Bzh _) (n:=0) Tryz.func54 rfl (λ_ H=>⟨lv H (c1 H Bz0 Ae) Aa Ab,Ai⟩) λ(_,_)=>by kernel_rfl
def Bmw(l:Yb1 Str)(s:Str):Bool:=(decide (0<=(B4c l s)))
theorem Bti(x:HV [Yf1,.str]):Adv x=some (Bmw x.1 x.2):=by
 first
  |exact rfl
  |simp only[Adv,Bmw,Aw]
def Buy:FT [Yf1,.str] [.bool]:=λx=>some (Bmw x.1 x.2)
theorem B06:FO 54 [Yf1,.str] [.bool] Buy:=.fin0 Bto λx _ _ a=>(Bti x).trans a
theorem By9(l:Yb1 Str)(s:Str):Bmw l s=l.contains s:=by have e:Bmw l s=decide (0<=Lp.idx s l 0):=rfl;rw[e,Bool.eq_iff_iff,Zg1,Lp.idx_ge s l 0 (Int.le_refl 0)];simp
theorem X6(k:Int):(parts k=0/\(k=1\/k=2))\/(parts k=1/\(k=3\/k=15\/k=16))\/(parts k=2/\4<=k/\k<=14)\/parts k = -1:=by
 by_cases c:k=1
 ·subst c;left;decide
 by_cases d:k=2
 ·subst d;left;decide
 by_cases e:k=3
 ·subst e;right;left;decide
 by_cases a:k=15
 ·subst a;right;left;decide
 by_cases b:k=16
 ·subst b;right;left;decide
 right;right;by_cases h : 4<=k/\k<=14
 ·left;refine⟨?_,h⟩;have:k=4\/k=5\/k=6\/k=7\/k=8\/k=9\/k=10\/k=11\/k=12\/k=13\/k=14:=by omega
  rcases this with rfl|rfl|rfl|rfl|rfl|rfl|rfl|rfl|rfl|rfl|rfl<;>decide
 ·right;have hm:Wz signsL k=[]:=by simp only[signsL,Wz];rw[Zd1 (by omega),Zd1 (by omega),Zd1 (by omega),Zd1 (by omega),Zd1 (by omega),Zd1 (by omega),Zd1 (by omega),Zd1 (by omega),Zd1 (by omega),Zd1 (by omega),Zd1 (by omega)]
  simp[parts,hm,c,d,e,a,b]
theorem P1{e:Xpr}{m:Int}(h:Ba e m=true):(e.l.length:Int)=parts e.kind/\eok e.kind e.v e.name=true/\erights e.l (wr .i64 (m-1))=true:=by rw[Ae3]at h;simp only[Zb1,Zg1]at h;exact⟨h.1.1.2,h.1.2,h.2⟩
theorem Wm{e:Xpr}:Ew e=0↔Ba e 30=true:=by simp only[Ew];cases Ba e 30<;>simp
def Awg:Sig:=⟨26,[(0,.sl .col false),(1,.sl .col false),(4,.bool),(12,.int .i64),(13,.int .i64)],[],[],0,0,0,[],[]⟩
abbrev Ab9:=Yb1 Col×Yb1 Col×Bool×Int×Int
def Aga{R:Type}(a:Ab9->Ya1 R)(kx:Ex->Ab9->Ya1 R)(v:Ab9):Ya1 R:=match v with|(v,v1,v2,v3,v4)=>cond (decide (v4<v3)) (chk (inb v4 v.length) (chk (inb v4 v1.length) (cond (!decide ((at' .col v v4)=(at' .col v1 v4))) (kx .ret (v,v1,false,v3,v4)) (a (v,v1,v2,v3,(wr .i64 (v4+1))))))) (kx (.exit 0) (v,v1,v2,v3,v4))
def Bgd(R:Type)(k:Nat):Px R:=pxO [] [] [(4,An k Awg (Aga))] []
def Asx(k:Nat)(x:HV [Yk1,Yk1]):Ya1 (HV [.bool]):=match x with
 |(a,b)=>
 cond (!decide ((a.length:Int)=(b.length:Int))) (
  some false) (
  Aj (λc=>Aga c (λe d=>match d with|(_,_,v7,_,_)=>match e with
  |.ret=>some v7
  |.exit 0=>some true
  |_=>none)) k (a,b,false,(a.length:Int),0))
theorem Bvz(k:Nat):FO 252 [Yk1,Yk1] [.bool] (Asx k):=fR (px:=Bgd _ k) (n:=1) Tryz.func252 rfl (λcx H=>by have c:Lv cx (Bgd (HV [.bool]) k):=lv H Ae Aa Ab;have a:=lO H c (b:=lp Tryz.f252 0) (k:=k) (n:=0) (s:=Awg) (step:=Aga) (λ_ _ _ (_,_,_,_,_)=>by kernel_rfl) Ai;exact⟨c,(A4 Ai a)⟩) λ(_,_)=>by kernel_rfl
def By6(a b:Yb1 Col):Bool:=decide (a=b)
def A7x:FT [Yk1,Yk1] [.bool]:=λx=>some (By6 x.1 x.2)
theorem Bkh{kx:Ex->Ab9->Ya1 R}{a b:Yb1 Col}(g:ln a.length)(m:a.length=b.length)(h:∀i,kx .ret (a,b,false,(a.length:Int),i)=c false)(j:∀q i,kx (.exit 0) (a,b,q,(a.length:Int),i)=c true)(k:Nat)(n:a.length<k) :
  Aj (λd=>Aga d kx) k (a,b,false,(a.length:Int),0)=c (decide (a=b)):=by
 refine(A3 a.length (λi=>(a,b,false,(a.length:Int),(i:Int))) (λi=>c (decide (a.drop i=b.drop i))) (λi hi d l=>?_) (λd=>?_) k 0 (Nat.zero_le _) (by omega)).trans (by rw[Zq1,Zq1])
 ·have e:i<b.length:=by omega
  simp only[Aga,Cs hi,Af,Ao hi,Ao e,chk,Al (c:=.col) hi,Al (c:=.col) e,Am hi g,l,h,Ak hi,Ak e,Ze2];by_cases f:a[i]=b[i]
  ·rw[Ze1 f];simp[f]
  ·rw[Zd1 f];simp[f]
 ·simp only[Aga,C4,Ag,j];rw[Zk1 (Zn1 _),Zk1 (by omega)];rfl
theorem B1f:FO 252 [Yk1,Yk1] [.bool] A7x:=.fin 0 Bvz λ(a,b) r hb d=>⟨a.length+1,by
 simp only[A7x,Za1]at d;rw[<-d];simp only[Asx,By6];by_cases e:a.length=b.length
 ·rw[Ze1 (show(a.length:Int)=(b.length:Int) by omega),Zt1,Ag];exact Bkh (c:=some) hb.1.1 e (λ_=>rfl) (λ_ _=>rfl) (a.length+1) (by omega)
 ·rw[Zd1 (show ¬(a.length:Int)=(b.length:Int) by omega),Zd1 (λh=>e (by rw[h]))];rfl⟩
def Aux:Sig:=⟨26,[(0,.sl .str false),(1,.sl .str false),(4,.bool),(12,.int .i64),(13,.int .i64)],[],[],0,0,0,[],[]⟩
abbrev Aaz:=Yb1 Str×Yb1 Str×Bool×Int×Int
def Afx{R:Type}(a:Aaz->Ya1 R)(kx:Ex->Aaz->Ya1 R)(v:Aaz):Ya1 R:=match v with|(v,v1,v2,v3,v4)=>cond (decide (v4<v3)) (chk (inb v4 v.length) (chk (inb v4 v1.length) (cond (!decide ((at' .str v v4)=(at' .str v1 v4))) (kx .ret (v,v1,false,v3,v4)) (a (v,v1,v2,v3,(wr .i64 (v4+1))))))) (kx (.exit 0) (v,v1,v2,v3,v4))
def Bew(R:Type)(k:Nat):Px R:=pxO [] [] [(4,An k Aux (Afx))] []
def Auk(k:Nat)(x:HV [Yf1,Yf1]):Ya1 (HV [.bool]):=match x with
 |(a,b)=>
 cond (!decide ((a.length:Int)=(b.length:Int))) (
  some false) (
  Aj (λc=>Afx c (λe d=>match d with|(_,_,v7,_,_)=>match e with
  |.ret=>some v7
  |.exit 0=>some true
  |_=>none)) k (a,b,false,(a.length:Int),0))
theorem Btp(k:Nat):FO 253 [Yf1,Yf1] [.bool] (Auk k):=fR (px:=Bew _ k) (n:=1) Tryz.func253 rfl (λcx H=>by have c:Lv cx (Bew (HV [.bool]) k):=lv H Ae Aa Ab;have a:=lO H c (b:=lp Tryz.f253 0) (k:=k) (n:=0) (s:=Aux) (step:=Afx) (λ_ _ _ (_,_,_,_,_)=>by kernel_rfl) Ai;exact⟨c,(A4 Ai a)⟩) λ(_,_)=>by kernel_rfl
def Bob(a b:Yb1 Str):Bool:=decide (a=b)
def A79:FT [Yf1,Yf1] [.bool]:=λx=>some (Bob x.1 x.2)
theorem Bmn{kx:Ex->Aaz->Ya1 R}{a b:Yb1 Str}(g:ln a.length)(m:a.length=b.length)(h:∀i,kx .ret (a,b,false,(a.length:Int),i)=c false)(j:∀q i,kx (.exit 0) (a,b,q,(a.length:Int),i)=c true)(k:Nat)(n:a.length<k) :
  Aj (λd=>Afx d kx) k (a,b,false,(a.length:Int),0)=c (decide (a=b)):=by
 refine(A3 a.length (λi=>(a,b,false,(a.length:Int),(i:Int))) (λi=>c (decide (a.drop i=b.drop i))) (λi hi d l=>?_) (λd=>?_) k 0 (Nat.zero_le _) (by omega)).trans (by rw[Zq1,Zq1])
 ·have e:i<b.length:=by omega
  simp only[Afx,Cs hi,Af,Ao hi,Ao e,chk,Al (c:=.str) hi,Al (c:=.str) e,Am hi g,l,h,Ak hi,Ak e,Ze2];by_cases f:a[i]=b[i]
  ·rw[Ze1 f];simp[f]
  ·rw[Zd1 f];simp[f]
 ·simp only[Afx,C4,Ag,j];rw[Zk1 (Zn1 _),Zk1 (by omega)];rfl
theorem Bx0:FO 253 [Yf1,Yf1] [.bool] A79:=.fin 0 Btp λ(a,b) r hb d=>⟨a.length+1,by
 simp only[A79,Za1]at d;rw[<-d];simp only[Auk,Bob];by_cases e:a.length=b.length
 ·rw[Ze1 (show(a.length:Int)=(b.length:Int) by omega),Zt1,Ag];exact Bmn (c:=some) hb.1.1 e (λ_=>rfl) (λ_ _=>rfl) (a.length+1) (by omega)
 ·rw[Zd1 (show ¬(a.length:Int)=(b.length:Int) by omega),Zd1 (λh=>e (by rw[h]))];rfl⟩
def Atc:Sig:=⟨26,[(0,.sl .bool false),(1,.sl .bool false),(4,.bool),(12,.int .i64),(13,.int .i64)],[],[],0,0,0,[],[]⟩
abbrev Adm:=Yb1 Bool×Yb1 Bool×Bool×Int×Int
def Aex{R:Type}(a:Adm->Ya1 R)(kx:Ex->Adm->Ya1 R)(v:Adm):Ya1 R:=match v with|(v,v1,v2,v3,v4)=>cond (decide (v4<v3)) (chk (inb v4 v.length) (chk (inb v4 v1.length) (cond (!decide ((at' .bool v v4)=(at' .bool v1 v4))) (kx .ret (v,v1,false,v3,v4)) (a (v,v1,v2,v3,(wr .i64 (v4+1))))))) (kx (.exit 0) (v,v1,v2,v3,v4))
def Bfi(R:Type)(k:Nat):Px R:=pxO [] [] [(4,An k Atc (Aex))] []
def Ass(k:Nat)(x:HV [Ym1,Ym1]):Ya1 (HV [.bool]):=match x with
 |(a,b)=>
 cond (!decide ((a.length:Int)=(b.length:Int))) (
  some false) (
  Aj (λc=>Aex c (λe d=>match d with|(_,_,v7,_,_)=>match e with
  |.ret=>some v7
  |.exit 0=>some true
  |_=>none)) k (a,b,false,(a.length:Int),0))
theorem Bs0(k:Nat):FO 254 [Ym1,Ym1] [.bool] (Ass k):=fR (px:=Bfi _ k) (n:=1) Tryz.func254 rfl (λcx H=>by have c:Lv cx (Bfi (HV [.bool]) k):=lv H Ae Aa Ab;have a:=lO H c (b:=lp Tryz.f254 0) (k:=k) (n:=0) (s:=Atc) (step:=Aex) (λ_ _ _ (_,_,_,_,_)=>by kernel_rfl) Ai;exact⟨c,(A4 Ai a)⟩) λ(_,_)=>by kernel_rfl
def Bxx(a b:Yb1 Bool):Bool:=decide (a=b)
def Bat:FT [Ym1,Ym1] [.bool]:=λx=>some (Bxx x.1 x.2)
theorem Bl0{kx:Ex->Adm->Ya1 R}{a b:Yb1 Bool}(g:ln a.length)(m:a.length=b.length)(h:∀i,kx .ret (a,b,false,(a.length:Int),i)=c false)(j:∀q i,kx (.exit 0) (a,b,q,(a.length:Int),i)=c true)(k:Nat)(n:a.length<k) :
  Aj (λd=>Aex d kx) k (a,b,false,(a.length:Int),0)=c (decide (a=b)):=by
 refine(A3 a.length (λi=>(a,b,false,(a.length:Int),(i:Int))) (λi=>c (decide (a.drop i=b.drop i))) (λi hi d l=>?_) (λd=>?_) k 0 (Nat.zero_le _) (by omega)).trans (by rw[Zq1,Zq1])
 ·have e:i<b.length:=by omega
  simp only[Aex,Cs hi,Af,Ao hi,Ao e,chk,Al (c:=.bool) hi,Al (c:=.bool) e,Am hi g,l,h,Ak hi,Ak e,Ze2];by_cases f:a[i]=b[i]
  ·rw[Ze1 f];simp[f]
  ·rw[Zd1 f];simp[f]
 ·simp only[Aex,C4,Ag,j];rw[Zk1 (Zn1 _),Zk1 (by omega)];rfl
theorem Bx5:FO 254 [Ym1,Ym1] [.bool] Bat:=.fin 0 Bs0 λ(a,b) r hb d=>⟨a.length+1,by
 simp only[Bat,Za1]at d;rw[<-d];simp only[Ass,Bxx];by_cases e:a.length=b.length
 ·rw[Ze1 (show(a.length:Int)=(b.length:Int) by omega),Zt1,Ag];exact Bl0 (c:=some) hb.1.1 e (λ_=>rfl) (λ_ _=>rfl) (a.length+1) (by omega)
 ·rw[Zd1 (show ¬(a.length:Int)=(b.length:Int) by omega),Zd1 (λh=>e (by rw[h]))];rfl⟩
instance:DecidableEq SetE:=λa b=>decidable_of_iff (a.name=b.name/\a.e=b.e) (by cases a;cases b;simp)
def Ax4(a b:SetE):Bool:=decide (a.name=b.name)&&Ha a.e b.e
theorem A1h(a b:SetE):Ax4 a b=decide (a=b):=by cases a;cases b;simp[Ax4,Iy]
def Ao3(a b:Stm):Bool:=decide (a.kind=b.kind)&&decide (a.name=b.name)&&decide (a.on=b.on)&&decide (a.has=b.has)&&decide (a.most=b.most)&&decide (a.whr=b.whr)&&(decide (a.cols=b.cols)&&decide (a.names=b.names)&&decide (a.order=b.order)&&decide (a.desc=b.desc)&&decide (a.l=b.l))&&decide (a.rows=b.rows)&&decide (a.sets=b.sets)
theorem Asu(a b:Stm):Ao3 a b=true↔a=b:=by
 cases a;cases b;simp[Ao3,Stm.mk.injEq];constructor
 ·grind
 ·grind
def Ah8:Sig:=⟨32,[(1,.sl .set false),(6,.bool),(15,.sl .set false),(16,.int .i64),(17,.int .i64)],[(2,.fn 259 [])],[],40,40,600,[],[]⟩
abbrev Pz:=Yb1 SetE×Bool×Yb1 SetE×Int×Int
def Nz{R:Type}(g:Pz->Ya1 R)(kx:Ex->Pz->Ya1 R)(v:Pz):Ya1 R:=match v with|(b,f,c,d,a)=>cond (decide (a<d)) (chk (inb a c.length) (chk (inb a b.length) (cond (decide (((at' .set c a).name)=((at' .set b a).name))) (cond (!(Re (I3 ((at' .set c a).e)) (I3 ((at' .set b a).e)))) (kx .ret (b,false,c,d,a)) (g (b,f,c,d,(wr .i64 (a+1))))) (kx .ret (b,false,c,d,a))))) (kx (.exit 0) (b,f,c,d,a))
def Agm:Sig:=⟨32,[(1,.sl .expr false),(6,.bool),(15,.sl .expr false),(16,.int .i64),(17,.int .i64)],[(2,.fn 251 [])],[(0,.one (.sv .stmt)),(1,.one (.sv .stmt))],120,120,600,[],[]⟩
abbrev Qd:=Yb1 Xpr×Bool×Yb1 Xpr×Int×Int×Stm×Stm
def Ny{R:Type}(f:Qd->Ya1 R)(kx:Ex->Qd->Ya1 R)(v:Qd):Ya1 R:=match v with|(b,e,c,d,a,w4,w5)=>cond (decide (a<d)) (chk (inb a c.length) (chk (inb a b.length) (cond (!(Re (at' .expr c a) (at' .expr b a))) (kx .ret (b,false,c,d,a,w4,w5)) (f (b,e,c,d,(wr .i64 (a+1)),w4,w5))))) (kx (.exit 0) (b,e,c,d,a,w4,w5))
def Ahg:Sig:=⟨32,[(1,.sl .exprs false),(6,.bool),(15,.sl .exprs false),(16,.int .i64),(17,.int .i64)],[(2,.fn 257 [])],[(0,.one (.sv .stmt)),(1,.one (.sv .stmt))],40,40,400,[],[]⟩
abbrev Qi:=Yb1 (Yb1 Xpr)×Bool×Yb1 (Yb1 Xpr)×Int×Int×Stm×Stm
def Nm{R:Type}(k:Nat)(j:Qi->Ya1 R)(kx:Ex->Qi->Ya1 R)(v:Qi):Ya1 R:=match v with
 |(c,f,b,d,a,w2,w3)=>
 cond (decide (a<d)) (
  chk (inb a b.length) (
  chk (inb a c.length) (
   cond (!decide (((at' .exprs b a).length:Int)=((at' .exprs c a).length:Int))) (
   kx .ret (c,false,b,d,a,w2,w3)) (
   Aj (λrc=>Ny rc (λe l=>match l with|(_,i,_,_,_,g,h)=>match e with
    |.ret=>
    cond (!i) (
     kx .ret (c,false,b,d,a,g,h)) (
     j (c,f,b,d,(wr .i64 (a+1)),g,h))
    |.exit 0=>
    j (c,f,b,d,(wr .i64 (a+1)),g,h)
    |_=>none)) k ((at' .exprs c a),false,(at' .exprs b a),((at' .exprs b a).length:Int),0,w2,w3))))) (
  kx (.exit 0) (c,f,b,d,a,w2,w3))
def Ah5:Sig:=⟨32,[(1,.sl .expr false),(6,.bool),(15,.sl .expr false),(16,.int .i64),(17,.int .i64)],[(2,.fn 251 [])],[(0,.one (.sv .stmt)),(1,.one (.sv .stmt))],40,40,200,[],[]⟩
abbrev Pn:=Yb1 Xpr×Bool×Yb1 Xpr×Int×Int×Stm×Stm
def M9{R:Type}(a:Pn->Ya1 R)(kx:Ex->Pn->Ya1 R)(v:Pn):Ya1 R:=match v with|(v,v1,v2,v3,v4,w,w1)=>cond (decide (v4<v3)) (chk (inb v4 v2.length) (chk (inb v4 v.length) (cond (!(Re (at' .expr v2 v4) (at' .expr v v4))) (kx .ret (v,false,v2,v3,v4,w,w1)) (a (v,v1,v2,v3,(wr .i64 (v4+1)),w,w1))))) (kx (.exit 0) (v,v1,v2,v3,v4,w,w1))
def Aht(R:Type)(k:Nat):Px R:=pxO [(251,cA Wt)] [] [(4,An k Ah5 (M9))] []
def Qs(R:Type)(k:Nat):Px R:=pxO [(251,cA Wt)] [] [(4,An k Agm (Ny))] []
noncomputable def Xi(R:Type)(k:Nat):Px R:=pxO [(255,A0 120 600 (Qs R k) Tryz.f255)] [] [] []
noncomputable def Aij(R:Type)(k:Nat):Px R:=pxO [(257,A0 80 600 (Xi R k) Tryz.f257)] [] [(4,An k Ahg (Nm k))] []
def Xl(R:Type)(_k:Nat):Px R:=pxO [(251,cA Wt)] [] [] []
noncomputable def Ah4(R:Type)(k:Nat):Px R:=pxO [(259,A0 80 800 (Xl R k) Tryz.f259)] [] [(4,An k Ah8 (Nz))] []
noncomputable def Auz(R:Type)(k:Nat):Px R:=pxO [(251,cA Wt),(252,cA A7x),(253,cA A79),(254,cA Bat),(255,A0 40 200 (Aht R k) Tryz.f255),(256,A0 40 400 (Aij R k) Tryz.f256),(258,A0 40 600 (Ah4 R k) Tryz.f258)] [] [] []
def S8(k:Nat)(x:HV [Yg1,Yg1]):Ya1 (HV [.bool]):=match x with
 |(a,b)=>
 let z:=λ(p6:Bool)=>
  let w:=λ(m:Bool) (t:Stm) (u:Stm)=>
  let j7:=λ(n:Bool)=>
   let y:=λ(o:Bool) (c:Stm) (d:Stm)=>
   cond (o) (
    cond (!decide ((c.sets.length:Int)=(d.sets.length:Int))) (
    some false) (
    Aj (λs=>Nz s (λe v=>match v with|(_,q,_,_,_)=>match e with
     |.ret=>
     some q
     |.exit 0=>
     some true
     |_=>none)) k (d.sets,false,c.sets,(c.sets.length:Int),0))) (
    some false)
   cond (n) (
   cond (!decide ((t.rows.length:Int)=(u.rows.length:Int))) (
    y false t u) (
    Aj (λs=>Nm k s (λe v=>match v with|(_,r,_,_,_,f,g)=>match e with
    |.ret=>y r f g
    |.exit 0=>y true f g
    |_=>none)) k (u.rows,false,t.rows,(t.rows.length:Int),0,t,u))) (
   y false t u)
  cond (p6) (
   j7 m) (
   j7 false)
  let j5:=λ(p7:Bool)=>
  let j4:=λ(p8:Bool)=>
   let j3:=λ(p9:Bool)=>
   cond (p9) (
    cond (!decide ((a.l.length:Int)=(b.l.length:Int))) (
    w false a b) (
    Aj (λs=>M9 s (λe v=>match v with|(_,v6,_,_,_,h,i)=>match e with
     |.ret=>
     w v6 h i
     |.exit 0=>
     w true h i
     |_=>none)) k (b.l,false,a.l,(a.l.length:Int),0,a,b))) (
    w false a b)
   cond (p8) (
   j3 (Bxx a.desc b.desc)) (
   j3 false)
  cond (p7) (
   j4 (Bob a.order b.order)) (
   j4 false)
  cond (By6 a.cols b.cols) (
  j5 (Bob a.names b.names)) (
  j5 false)
 let j2:=λ(p:Bool)=>
  let j1:=λ(p1:Bool)=>
  let j:=λ(p2:Bool)=>
   cond (p2) (
   cond (decide (a.most=b.most)) (
    z (Re (I3 a.whr) (I3 b.whr))) (
    z false)) (
   z false)
  cond (p1) (
   j (decide (a.has=b.has))) (
   j false)
  cond (p) (
  j1 (decide (a.on=b.on))) (
  j1 false)
 cond (decide (a.kind=b.kind)) (
  j2 (decide (a.name=b.name))) (
  j2 false)
theorem Bbt(k:Nat):FO 213 [Yg1,Yg1] [.bool] (S8 k):=fR (px:=Auz _ k) (n:=0) Tryz.func213 rfl (λcx H=>by have f:Lv cx (Aht (HV [.bool]) k):=lv H (c1 H Q2 Ae) Aa Ab;have a:=lO H f (b:=lp Tryz.f255 0) (k:=k) (n:=0) (s:=Ah5) (step:=M9) (λ_ _ _ (_,_,_,_,_,_,_)=>by kernel_rfl) Ai;have g:Lv cx (Qs (HV [.bool]) k):=lv H (c1 H Q2 Ae) Aa Ab;have c:=lO H g (b:=lp Tryz.f255 0) (k:=k) (n:=0) (s:=Agm) (step:=Ny) (λ_ _ _ (_,_,_,_,_,_,_)=>by kernel_rfl) Ai;have j:Lv cx (Xi (HV [.bool]) k):=lv H (As (cR H g Tryz.func255 rfl (n:=1) (A4 Ai c)) Ae) Aa Ab;have h:Lv cx (Aij (HV [.bool]) k):=lv H (As (cR H j Tryz.func257 rfl (n:=0) (Ai)) Ae) Aa Ab;have d:=lO H h (b:=lp Tryz.f256 0) (k:=k) (n:=0) (s:=Ahg) (step:=Nm k) (λ_ _ _ (_,_,_,_,_,_,_)=>by kernel_rfl) Ai;have l:Lv cx (Xl (HV [.bool]) k):=lv H (c1 H Q2 Ae) Aa Ab;have i:Lv cx (Ah4 (HV [.bool]) k):=lv H (As (cR H l Tryz.func259 rfl (n:=0) (Ai)) Ae) Aa Ab;have e:=lO H i (b:=lp Tryz.f258 0) (k:=k) (n:=0) (s:=Ah8) (step:=Nz) (λ_ _ _ (_,_,_,_,_)=>by kernel_rfl) Ai;have m:Lv cx (Auz (HV [.bool]) k):=lv H (c1 H Q2 (c1 H B1f (c1 H Bx0 (c1 H Bx5 (As (cR H f Tryz.func255 rfl (n:=1) (A4 Ai a)) (As (cR H h Tryz.func256 rfl (n:=1) (A4 Ai d)) (As (cR H i Tryz.func258 rfl (n:=1) (A4 Ai e)) Ae))))))) Aa Ab;exact⟨m,Ai⟩) λ(_,_)=>by kernel_rfl
def Bb7(a b:Stm):Bool:=Ao3 a b
def A2o:FT [Yg1,Yg1] [.bool]:=λx=>some (Bb7 x.1 x.2)
variable{α:Type}
theorem Aaw[DecidableEq α](x y : α)(l m:Yb1 α):decide (x::l=y::m)=(decide (x=y)&&decide (l=m)):=by simp
theorem Arr{kx:Ex->Pn->Ya1 R}{l:Yb1 Xpr}{s t:Stm}(d:ln l.length)(hm:l.length=m.length)
  (e:∀i,kx .ret (m,false,l,(l.length:Int),i,s,t)=c false) (f:∀q i,kx (.exit 0) (m,q,l,(l.length:Int),i,s,t)=c true) (k:Nat) (h:l.length<k):Aj (λa=>M9 a kx) k (m,false,l,(l.length:Int),0,s,t)=c (decide (l=m)):=by
 refine(A3 l.length (λi=>(m,false,l,(l.length:Int),(i:Int),s,t)) (λi=>c (decide (l.drop i=m.drop i))) (λi hi a g=>?_) (λa=>?_) k 0 (Nat.zero_le _) (by omega)).trans (by rw[Zq1,Zq1])
 ·have b:i<m.length:=by omega
  simp only[M9,Cs hi,Af,Ao hi,Ao b,chk,Al (c:=.expr) hi,Al (c:=.expr) b,Am hi d,g,e,Ak hi,Ak b,Aaw,Re,Iy];cases decide (l[i]=m[i])<;>rfl
 ·simp only[M9,C4,Ag,f];rw[Zk1 (Zn1 _),Zk1 (by omega)];rfl
theorem Aq9{kx:Ex->Qd->Ya1 R}{l:Yb1 Xpr}{s t:Stm}(d:ln l.length)(hm:l.length=m.length)
  (e:∀i,kx .ret (m,false,l,(l.length:Int),i,s,t)=c false) (f:∀q i,kx (.exit 0) (m,q,l,(l.length:Int),i,s,t)=c true) (k:Nat) (h:l.length<k):Aj (λa=>Ny a kx) k (m,false,l,(l.length:Int),0,s,t)=c (decide (l=m)):=by
 refine(A3 l.length (λi=>(m,false,l,(l.length:Int),(i:Int),s,t)) (λi=>c (decide (l.drop i=m.drop i))) (λi hi a g=>?_) (λa=>?_) k 0 (Nat.zero_le _) (by omega)).trans (by rw[Zq1,Zq1])
 ·have b:i<m.length:=by omega
  simp only[Ny,Cs hi,Af,Ao hi,Ao b,chk,Al (c:=.expr) hi,Al (c:=.expr) b,Am hi d,g,e,Ak hi,Ak b,Aaw,Re,Iy];cases decide (l[i]=m[i])<;>rfl
 ·simp only[Ny,C4,Ag,f];rw[Zk1 (Zn1 _),Zk1 (by omega)];rfl
theorem Ars{kx:Ex->Qi->Ya1 R}{l m:Yb1 (Yb1 Xpr)}{s t:Stm}(n:ln l.length)(hm:l.length=m.length)(f:∀x,x∈l->ln x.length)(k:Nat)(g:∀x,x∈l->List.length x<k)
  (j:∀i,kx .ret (m,false,l,(l.length:Int),i,s,t)=c false) (o:∀q i,kx (.exit 0) (m,q,l,(l.length:Int),i,s,t)=c true) (r:l.length<k):Aj (λd=>Nm k d kx) k (m,false,l,(l.length:Int),0,s,t)=c (decide (l=m)):=by
 refine(A3 l.length (λi=>(m,false,l,(l.length:Int),(i:Int),s,t)) (λi=>c (decide (l.drop i=m.drop i))) (λi hi d p=>?_) (λd=>?_) k 0 (Nat.zero_le _) (by omega)).trans (by rw[Zq1,Zq1])
 ·have e:i<m.length:=by omega
  simp only[Nm,Cs hi,Af,Ao hi,Ao e,chk,Al (c:=.exprs) hi,Al (c:=.exprs) e,Am hi n,Ak hi,Ak e,Aaw];by_cases a:l[i].length=m[i].length
  ·rw[Ze1 (show(l[i].length:Int)=(m[i].length:Int) by omega),Zt1,Ag];rw[Aq9 (c:=λb=>cond b (c (decide (l.drop (i+1)=m.drop (i+1)))) (c false)) (f _ (List.getElem_mem hi)) a (λ_=>j _) (λ_ _=>p) k (g _ (List.getElem_mem hi))];cases decide (l[i]=m[i])<;>rfl
  ·rw[Zd1 (show ¬(l[i].length:Int)=(m[i].length:Int) by omega),Zd1 (λh=>a (by rw[h])),j];rfl
 ·simp only[Nm,C4,Ag,o];rw[Zk1 (Zn1 _),Zk1 (by omega)];rfl
theorem Arb{kx:Ex->Pz->Ya1 R}{l m:Yb1 SetE}(d:ln l.length)(hm:l.length=m.length)
  (f:∀i,kx .ret (m,false,l,(l.length:Int),i)=c false) (g:∀q i,kx (.exit 0) (m,q,l,(l.length:Int),i)=c true) (k:Nat) (j:l.length<k):Aj (λa=>Nz a kx) k (m,false,l,(l.length:Int),0)=c (decide (l=m)):=by
 refine(A3 l.length (λi=>(m,false,l,(l.length:Int),(i:Int))) (λi=>c (decide (l.drop i=m.drop i))) (λi hi a h=>?_) (λa=>?_) k 0 (Nat.zero_le _) (by omega)).trans (by rw[Zq1,Zq1])
 ·have b:i<m.length:=by omega
  simp only[Nz,Cs hi,Af,Ao hi,Ao b,chk,Al (c:=.set) hi,Al (c:=.set) b,Am hi d,h,f,Ak hi,Ak b,Aaw,Re,<-A1h,Ax4,Hz];cases decide (l[i].name=m[i].name)<;>cases Ha l[i].e m[i].e<;>rfl
 ·simp only[Nz,C4,Ag,g];rw[Zk1 (Zn1 _),Zk1 (by omega)];rfl
theorem Azc[DecidableEq α]{l m:Yb1 α}(h:¬l.length=m.length):decide (l=m)=false:=Zd1 λe=>h (by rw[e])
def Bxc(s:Stm):Nat:=s.l.length+s.rows.length+s.sets.length+(s.rows.map List.length).sum
theorem Bzq{l:Yb1 (Yb1 Xpr)}{x:Yb1 Xpr}(h:x∈l):x.length<=(l.map List.length).sum:=by
 induction l with
 |nil=>cases h
 |cons y l a=>
  simp;rcases List.mem_cons.1 h with rfl|h
  ·omega
  ·have:=a h;omega
theorem Bua(k:Nat)(a b:Stm)(hb:BdStm a)(hk:Bxc a<k):S8 k (a,b)=some (Ao3 a b):=by
 have f:=hk;simp[Bxc]at f;simp -zeta only [S8,Re,Iy,Hz,By6,Bob,Bxx];extract_lets g o j j1 j2;have h:∀q,g q a b=some (q&&decide (a.sets=b.sets)):=λq=>by
  simp -zeta only [g];cases q with
  |false=>rfl
  |true=>
   rw[Af,Bool.true_and];by_cases d:a.sets.length=b.sets.length
   ·rw[Ze1 (show(a.sets.length:Int)=(b.sets.length:Int) by omega),Zt1,Ag];exact Arb (c:=some) hb.sets.1 d (λ_=>rfl) (λ_ _=>rfl) k (by omega)
   ·rw[Zd1 (show ¬(a.sets.length:Int)=(b.sets.length:Int) by omega),Azc d];rfl
 have e:∀p,o p=some (p&&(decide (a.cols=b.cols)&&decide (a.names=b.names)&&decide (a.order=b.order)&&decide (a.desc=b.desc)&&decide (a.l=b.l))&&decide (a.rows=b.rows)&&decide (a.sets=b.sets)):=λp=>by
  simp -zeta only [o];extract_lets i r s t;have m:∀q,i q a b=some (p&&q&&decide (a.rows=b.rows)&&decide (a.sets=b.sets)):=λq=>by
   simp -zeta only [i];extract_lets u;have v:∀q,u q=some (q&&decide (a.rows=b.rows)&&decide (a.sets=b.sets)):=λq=>by
    simp -zeta only [u];cases q with
    |false=>exact(h false).trans rfl
    |true=>
     rw[Af,Bool.true_and];by_cases d:a.rows.length=b.rows.length
     ·rw[Ze1 (show(a.rows.length:Int)=(b.rows.length:Int) by omega),Zt1,Ag];refine(Ars (c:=λq=>g q a b) hb.rows.1 d (λx n=>(hb.rows.2 x n).1) k (λx n=>by have:=Bzq n;omega) (λ_=>rfl) (λ_ _=>rfl) (by omega)).trans (h _)
     ·rw[Zd1 (show ¬(a.rows.length:Int)=(b.rows.length:Int) by omega),Azc d];exact(h false).trans rfl
   cases p with|false=>exact(v false).trans rfl|true=>exact(v q).trans (by rw[Bool.true_and])
  have w:∀q,r q=some (p&&(q&&decide (a.l=b.l))&&decide (a.rows=b.rows)&&decide (a.sets=b.sets)):=λq=>by
   simp -zeta only [r];cases q with
   |false=>exact m false
   |true=>
    rw[Af,Bool.true_and];by_cases d:a.l.length=b.l.length
    ·rw[Ze1 (show(a.l.length:Int)=(b.l.length:Int) by omega),Zt1,Ag];exact(Arr (c:=λq=>i q a b) hb.l.1 d (λ_=>rfl) (λ_ _=>rfl) k (by omega)).trans (m _)
    ·rw[Zd1 (show ¬(a.l.length:Int)=(b.l.length:Int) by omega),Azc d];exact m false
  have y:∀q,s q=some (p&&(q&&decide (a.desc=b.desc)&&decide (a.l=b.l))&&decide (a.rows=b.rows)&&decide (a.sets=b.sets)):=λq=>by simp -zeta only [s];cases q with|false=>exact w false|true=>exact(w _).trans (by rw[Bool.true_and])
  have z:∀q,t q=some (p&&(q&&decide (a.order=b.order)&&decide (a.desc=b.desc)&&decide (a.l=b.l))&&decide (a.rows=b.rows)&&decide (a.sets=b.sets)):=λq=>by simp -zeta only [t];cases q with|false=>exact y false|true=>exact(y _).trans (by rw[Bool.true_and])
  cases decide (a.cols=b.cols)with|false=>exact z false|true=>exact(z _).trans (by simp)
 simp -zeta only [j2,j1,j,Ao3];cases decide (a.kind=b.kind)with
 |false=>exact(e false).trans rfl
 |true=>
  cases decide (a.name=b.name)with
  |false=>exact(e false).trans rfl
  |true=>
   cases decide (a.on=b.on)with
   |false=>exact(e false).trans rfl
   |true=>
    cases decide (a.has=b.has)with
    |false=>exact(e false).trans rfl
    |true=>cases decide (a.most=b.most)with|false=>exact(e false).trans rfl|true=>exact(e _).trans (by simp)
theorem Bhy:FO 213 [Yg1,Yg1] [.bool] A2o:=.fin 0 Bbt λ(a,b) r hb c=>⟨Bxc a+1,(Bua (Bxc a+1) a b hb.1 (by omega)).trans c⟩
instance:DecidableEq Stm:=λa b=>decidable_of_iff (Ao3 a b=true) (Asu a b)
theorem Bju(a b:Stm):Ao3 a b=decide (a=b):=by rw[Bool.eq_iff_iff,Asu,Zg1]
def Brs(R:Type):Px R:=pxO [] [] [] []
def Xn(x:HV [Yc1]):Ya1 (HV [.bool]):=match x with|n=>cond (decide (1<=n)) (some (decide (n<=100))) (some false)
theorem Bkj:FO 216 [Yc1] [.bool] (Xn):=fR (px:=Brs _) (n:=0) Tryz.func216 rfl (λ_ H=>⟨lv H Ae Aa Ab,Ai⟩) λ_=>by kernel_rfl
def C7(n:Int):Bool:=cond (decide (1<=n)) (decide (n<=100)) (false)
theorem Bmv(x:HV [Yc1]):Xn x=some (C7 x):=by
 first
  |exact rfl
  |simp only[Xn,C7,Aw]
def Aaj:FT [Yc1] [.bool]:=λx=>some (C7 x)
theorem Aar:FO 216 [Yc1] [.bool] Aaj:=.fin0 Bkj λx _ _ a=>(Bmv x).trans a
theorem A3u(n:Nat):C7 (n:Int)=(decide (1<=n)&&decide (n<=100)):=by simp only[C7];rw[show decide ((1:Int)<=(n:Int))=decide (1<=n) from Zy1.2 (by omega),show decide ((n:Int)<=100)=decide (n<=100) from Zy1.2 (by omega)];cases decide (1<=n)<;>rfl
def Akz:Sig:=⟨26,[(0,.sl .str false),(2,.bool),(5,.sl .str false),(6,.int .i64),(7,.int .i64)],[],[],0,0,0,[],[]⟩
abbrev T5:=Yb1 Str×Bool×Yb1 Str×Int×Int
def V3{R:Type}(b:T5->Ya1 R)(kx:Ex->T5->Ya1 R)(v:T5):Ya1 R:=match v with|(v,v1,v2,v3,a)=>cond (decide (a<v3)) (chk (inb a v2.length) (cond (!(B7 (at' .str v2 a))) (kx .ret (v,false,v2,v3,a)) (chk (upto 0 a v.length) (cond (Bmw (v.take (a:Int).toNat) (at' .str v2 a)) (kx .ret (v,false,v2,v3,a)) (b (v,v1,v2,v3,(wr .i64 (a+1)))))))) (kx (.exit 0) (v,v1,v2,v3,a))
def A3s(R:Type)(k:Nat):Px R:=pxO [(187,cA Wa),(54,cA Buy)] [] [(2,An k Akz (V3))] []
def Ale(k:Nat)(x:HV [Yf1]):Ya1 (HV [.bool]):=match x with
 |l=>
 Aj (λa=>V3 a (λe b=>match b with|(v5,v6,_,_,_)=>match e with
  |.ret=>
  some v6
  |.exit 0=>
  some (decide ((v5.length:Int)<=100))
  |_=>none)) k (l,false,l,(l.length:Int),0)
theorem Bi0(k:Nat):FO 217 [Yf1] [.bool] (Ale k):=fR (px:=A3s _ k) (n:=1) Tryz.func217 rfl (λcx H=>by have c:Lv cx (A3s (HV [.bool]) k):=lv H (c1 H Abc (c1 H B06 Ae)) Aa Ab;have a:=lO H c (b:=lp Tryz.f217 0) (k:=k) (n:=0) (s:=Akz) (step:=V3) (λ_ _ _ (_,_,_,_,_)=>by kernel_rfl) Ai;exact⟨c,(A4 Ai a)⟩) λ_=>by kernel_rfl
def Mm:Yb1 Str->Yb1 Str->Bool|_,[]=>true|seen,s::r=>B7 s && !seen.contains s&&Mm (seen++[s]) r
def Dn(l:Yb1 Str):Bool:=Mm [] l&&decide (l.length<=100)
def Aas:FT [Yf1] [.bool]:=λx=>some (Dn x)
variable{i:Nat}
theorem Aqm{l:Yb1 Str}(hi:i<l.length):l.take (i+1)=l.take i++[l[i]]:=by simp_all
theorem A93{kx:Ex->T5->Ya1 R}{l:Yb1 Str}(b:ln l.length)(d:∀i,kx .ret (l,false,l,(l.length:Int),i)=c false)(e:∀q i,kx (.exit 0) (l,q,l,(l.length:Int),i)=c true)(k:Nat)(h:l.length<k) :
  Aj (λa=>V3 a kx) k (l,false,l,(l.length:Int),0)=c (Mm [] l):=by
 refine(A3 l.length (λi=>(l,false,l,(l.length:Int),(i:Int))) (λi=>c (Mm (l.take i) (l.drop i))) (λi hi a f=>?_) (λa=>?_) k 0 (Nat.zero_le _) (by omega)).trans (by rw[Zq1,List.take_zero])
 ·have g:upto 0 (i:Int) l.length=true:=by simp[upto];omega
  simp only[V3,Cs hi,Ao hi,Al (c:=.str) hi,Am hi b,f,d,Ak hi,Mm,g,Int.toNat_natCast,By9,Aqm hi];cases B7 l[i]<;>cases (l.take i).contains l[i]<;>rfl
 ·simp only[V3,C4,e];rw[Zk1 (Zn1 _)];rfl
theorem Aqq:FO 217 [Yf1] [.bool] Aas:=.fin 0 Bi0 λl r hb a=>⟨l.length+1,by simp only[Aas,Za1]at a;rw[<-a];simp only[Ale];refine(A93 (l:=l) (c:=λb=>cond b (some (decide ((l.length:Int)<=100))) (some false)) hb.1 (λ_=>rfl) (λ_ _=>rfl) (l.length+1) (by omega)).trans ?_;rw[show decide ((l.length:Int)<=100)=decide (l.length<=100) from Zy1.2 (by omega),Dn];cases Mm [] l<;>rfl⟩
def Ahk:Sig:=⟨19,[(0,.sl .expr false),(4,.int .i64),(7,.int .i64),(8,.int .i64)],[(1,.fn 260 [])],[],80,80,400,[],[]⟩
abbrev P5:=Yb1 Xpr×Int×Int×Int
def M7{R:Type}(a:P5->Ya1 R)(kx:Ex->P5->Ya1 R)(v:P5):Ya1 R:=match v with|(v,v1,v2,v3)=>cond (decide (v3<v2)) (chk (inb v3 v.length) (cond (!(Ba (at' .expr v v3) 30)) (kx .ret (v,v3,v2,v3)) (a (v,v1,v2,(wr .i64 (v3+1)))))) (kx (.exit 0) (v,v1,v2,v3))
def Qu(R:Type)(_k:Nat):Px R:=pxO [(133,cA R6)] [] [] []
noncomputable def W7(R:Type)(k:Nat):Px R:=pxO [(260,A0 120 600 (Qu R k) Tryz.f260)] [] [(2,An k Ahk (M7))] []
noncomputable def Agq(R:Type)(k:Nat):Px R:=pxO [(231,A0 80 400 (W7 R k) Tryz.f231)] [] [] []
noncomputable def Atp(R:Type)(k:Nat):Px R:=pxO [(188,A0 40 200 (Agq R k) Tryz.f188)] [] [] []
def Aie(k:Nat)(x:HV [Ye1]):Ya1 (HV [.bool]):=match x with
 |l=>
 cond (decide ((l.length:Int)<=100)) (
  Aj (λa=>M7 a (λe b=>match b with|(_,v5,_,_)=>match e with
  |.ret=>some (!(decide (0<=v5)))
  |.exit 0=>some true
  |_=>none)) k (l,0,(l.length:Int),0)) (
  some false)
theorem A9f(k:Nat):FO 218 [Ye1] [.bool] (Aie k):=fR (px:=Atp _ k) (n:=0) Tryz.func218 rfl (λcx H=>by have d:Lv cx (Qu (HV [.bool]) k):=lv H (c1 H Up Ae) Aa Ab;have c:Lv cx (W7 (HV [.bool]) k):=lv H (As (cR H d Tryz.func260 rfl (n:=0) (Ai)) Ae) Aa Ab;have a:=lO H c (b:=lp Tryz.f231 0) (k:=k) (n:=0) (s:=Ahk) (step:=M7) (λ_ _ _ (_,_,_,_)=>by kernel_rfl) Ai;have e:Lv cx (Agq (HV [.bool]) k):=lv H (As (cR H c Tryz.func231 rfl (n:=1) (A4 Ai a)) Ae) Aa Ab;have f:Lv cx (Atp (HV [.bool]) k):=lv H (As (cR H e Tryz.func188 rfl (n:=0) (Ai)) Ae) Aa Ab;exact⟨f,Ai⟩) λ_=>by kernel_rfl
def Gy(l:Yb1 Xpr):Bool:=decide (l.length<=100)&&l.all λe=>Ba e 30
def Aal:FT [Ye1] [.bool]:=λx=>some (Gy x)
theorem A38{kx:Ex->P5->Ya1 R}{l:Yb1 Xpr}(b:ln l.length)(d:∀i:Nat,kx .ret (l,(i:Int),(l.length:Int),(i:Int))=c false)(f:∀q i,kx (.exit 0) (l,q,(l.length:Int),i)=c true)(k:Nat)(h:l.length<k) :
  Aj (λa=>M7 a kx) k (l,0,(l.length:Int),0)=c (l.all λe=>Ba e 30):=by
 refine(A3 l.length (λi=>(l,(0:Int),(l.length:Int),(i:Int))) (λi=>c ((l.drop i).all λe=>Ba e 30)) (λi hi a g=>?_) (λa=>?_) k 0 (Nat.zero_le _) (by omega)).trans (by rw[Zq1])
 ·simp only[M7,Cs hi,Ao hi,Al (c:=.expr) hi,Am hi b,g,d,Ak hi,Zv1];cases Ba l[i] 30<;>rfl
 ·simp only[M7,C4,f];rw[Zk1 (Zn1 _)];rfl
theorem Aut:FO 218 [Ye1] [.bool] Aal:=.fin 0 A9f λl r hb a=>⟨l.length+1,by
 simp only[Aal,Za1]at a;rw[<-a];simp only[Aie,Gy];rw[show decide ((l.length:Int)<=100)=decide (l.length<=100) from Zy1.2 (by omega)];cases decide (l.length<=100)with
 |false=>rfl
 |true=>rw[Af,Bool.true_and];exact A38 (l:=l) (c:=some) hb.1 (λi=>by simp) (λ_ _=>rfl) (l.length+1) (by omega)⟩
def Al7:Sig:=⟨19,[(0,.sl .exprs false),(4,.int .i64),(7,.int .i64),(8,.int .i64)],[(1,.fn 262 [])],[],80,80,400,[],[]⟩
abbrev T1:=Yb1 (Yb1 Xpr)×Int×Int×Int
def Uq{R:Type}(a:T1->Ya1 R)(kx:Ex->T1->Ya1 R)(v:T1):Ya1 R:=match v with|(v,v1,v2,v3)=>cond (decide (v3<v2)) (chk (inb v3 v.length) (cond (decide (((at' .exprs v v3).length:Int)=0)) (kx .ret (v,v3,v2,v3)) (cond (!(Gy (at' .exprs v v3))) (kx .ret (v,v3,v2,v3)) (a (v,v1,v2,(wr .i64 (v3+1))))))) (kx (.exit 0) (v,v1,v2,v3))
def S1(R:Type)(_k:Nat):Px R:=pxO [(218,cA Aal)] [] [] []
noncomputable def Aa1(R:Type)(k:Nat):Px R:=pxO [(262,A0 120 600 (S1 R k) Tryz.f262)] [] [(2,An k Al7 (Uq))] []
noncomputable def Anx(R:Type)(k:Nat):Px R:=pxO [(277,A0 80 400 (Aa1 R k) Tryz.f277)] [] [] []
noncomputable def A1o(R:Type)(k:Nat):Px R:=pxO [(216,cA Aaj),(261,A0 40 200 (Anx R k) Tryz.f261)] [] [] []
def Aj9(k:Nat)(x:HV [Yn1]):Ya1 (HV [.bool]):=match x with
 |l=>
 cond (C7 (l.length:Int)) (
  Aj (λa=>Uq a (λe b=>match b with|(_,v5,_,_)=>match e with
  |.ret=>some (!(decide (0<=v5)))
  |.exit 0=>some true
  |_=>none)) k (l,0,(l.length:Int),0)) (
  some false)
theorem Bi8(k:Nat):FO 219 [Yn1] [.bool] (Aj9 k):=fR (px:=A1o _ k) (n:=0) Tryz.func219 rfl (λcx H=>by have d:Lv cx (S1 (HV [.bool]) k):=lv H (c1 H Aut Ae) Aa Ab;have c:Lv cx (Aa1 (HV [.bool]) k):=lv H (As (cR H d Tryz.func262 rfl (n:=0) (Ai)) Ae) Aa Ab;have a:=lO H c (b:=lp Tryz.f277 0) (k:=k) (n:=0) (s:=Al7) (step:=Uq) (λ_ _ _ (_,_,_,_)=>by kernel_rfl) Ai;have e:Lv cx (Anx (HV [.bool]) k):=lv H (As (cR H c Tryz.func277 rfl (n:=1) (A4 Ai a)) Ae) Aa Ab;have f:Lv cx (A1o (HV [.bool]) k):=lv H (c1 H Aar (As (cR H e Tryz.func261 rfl (n:=0) (Ai)) Ae)) Aa Ab;exact⟨f,Ai⟩) λ_=>by kernel_rfl
def Aq0(r:Yb1 Xpr):Bool:= !decide (r.length=0)&&Gy r
def Atl(l:Yb1 (Yb1 Xpr)):Bool:=C7 (l.length:Int)&&l.all Aq0
def A0b:FT [Yn1] [.bool]:=λx=>some (Atl x)
theorem Ba7{kx:Ex->T1->Ya1 R}{l:Yb1 (Yb1 Xpr)}(b:ln l.length)(d:∀i:Nat,kx .ret (l,(i:Int),(l.length:Int),(i:Int))=c false)(e:∀q i,kx (.exit 0) (l,q,(l.length:Int),i)=c true)(k:Nat)(g:l.length<k) :
  Aj (λa=>Uq a kx) k (l,0,(l.length:Int),0)=c (l.all Aq0):=by
 refine(A3 l.length (λi=>(l,(0:Int),(l.length:Int),(i:Int))) (λi=>c ((l.drop i).all Aq0)) (λi hi a f=>?_) (λa=>?_) k 0 (Nat.zero_le _) (by omega)).trans (by rw[Zq1])
 ·simp only[Uq,Cs hi,Ao hi,chk,Al (c:=.exprs) hi,Am hi b,f,d,Ak hi,Zv1,Aq0];rw[show decide ((l[i].length:Int)=0)=decide (l[i].length=0) from Zy1.2 (by omega)];cases decide (l[i].length=0)<;>cases Gy l[i]<;>rfl
 ·simp only[Uq,C4,e];rw[Zk1 (Zn1 _)];rfl
theorem Bre:FO 219 [Yn1] [.bool] A0b:=.fin 0 Bi8 λl r hb a=>⟨l.length+1,by
 simp only[A0b,Za1]at a;rw[<-a];simp only[Aj9,Atl];cases C7 (l.length:Int)with
 |false=>rfl
 |true=>rw[Af,Bool.true_and];exact Ba7 (l:=l) (c:=some) hb.1 (λi=>by simp) (λ_ _=>rfl) (l.length+1) (by omega)⟩
def Bny(R:Type):Px R:=pxO [(251,cA Wt)] [] [] []
def Yt(x:HV [Yd1]):Ya1 (HV [.bool]):=match x with|e=>some (Re e (Xpr.mk 0 ⟨0,0,[]⟩ [] []))
theorem Bmr:FO 263 [Yd1] [.bool] (Yt):=fR (px:=Bny _) (n:=0) Tryz.func263 rfl (λ_ H=>⟨lv H (c1 H Q2 Ae) Aa Ab,Ai⟩) λ_=>by kernel_rfl
def Aw9(e:Xpr):Bool:=(Re e (Xpr.mk 0 ⟨0,0,[]⟩ [] []))
theorem Blu(x:HV [Yd1]):Yt x=some (Aw9 x):=by
 first
  |exact rfl
  |simp only[Yt,Aw9,Aw]
def Bfn:FT [Yd1] [.bool]:=λx=>some (Aw9 x)
theorem Bn2:FO 263 [Yd1] [.bool] Bfn:=.fin0 Bmr λx _ _ a=>(Blu x).trans a
theorem Bqd(e:Xpr):Aw9 e=decide (e = .mk 0 ⟨0,0,[]⟩ [] []):=Iy e _
def Bjz(R:Type):Px R:=pxO [(263,cA Bfn),(133,cA R6)] [] [] []
def Sz(x:HV [Yg1]):Ya1 (HV [.bool]):=match x with|s=>cond (!s.has) (some (Aw9 (I3 s.whr))) (some (Ba (I3 s.whr) 30))
theorem A9h:FO 221 [Yg1] [.bool] (Sz):=fR (px:=Bjz _) (n:=0) Tryz.func221 rfl (λ_ H=>⟨lv H (c1 H Bn2 (c1 H Up Ae)) Aa Ab,Ai⟩) λ_=>by kernel_rfl
def Hl(s:Stm):Bool:=cond (!s.has) (Aw9 (I3 s.whr)) (Ba (I3 s.whr) 30)
theorem A9z(x:HV [Yg1]):Sz x=some (Hl x):=by
 first
  |exact rfl
  |simp only[Sz,Hl,Aw]
def A5c:FT [Yg1] [.bool]:=λx=>some (Hl x)
theorem Bj0:FO 221 [Yg1] [.bool] A5c:=.fin0 A9h λx _ _ a=>(A9z x).trans a
theorem Awd(s:Stm):Hl s=cond s.has (Ba s.whr 30) (decide (s.whr = .mk 0 ⟨0,0,[]⟩ [] [])):=by simp only[Hl,Hz,Bqd];cases s.has<;>rfl
def Apv:Sig:=⟨44,[(0,.sl .col false),(2,.bool),(3,.sl .str true),(6,.sl .col false),(7,.int .i64),(8,.int .i64)],[],[],0,0,0,[],[]⟩
abbrev Vq:=Yb1 Col×Bool×Yb1 Str×Yb1 Col×Int×Int
def V0{R:Type}(a:Vq->Ya1 R)(kx:Ex->Vq->Ya1 R)(v:Vq):Ya1 R:=match v with
 |(v,v1,v2,v3,v4,v5)=>
 cond (decide (v5<v4)) (
  chk (inb v5 v3.length) (
  let j:=λ(p:Bool)=>
   cond (p) (
   kx .ret (v,false,v2,v3,v4,v5)) (
   cond (!decide (((at' .col v3 v5).ref)=[])) (
    cond (!(B7 ((at' .col v3 v5).ref))) (
    kx .ret (v,false,v2,v3,v4,v5)) (
    chk (decide (v2.length+1<=Ah)) (
     a (v,v1,(v2++[((at' .col v3 v5).name)]),v3,v4,(wr .i64 (v5+1)))))) (
    chk (decide (v2.length+1<=Ah)) (
    a (v,v1,(v2++[((at' .col v3 v5).name)]),v3,v4,(wr .i64 (v5+1))))))
  cond (decide ((at' .col v3 v5).kind<2)) (
   j true) (
   j (decide (5<(at' .col v3 v5).kind))))) (
  kx (.exit 0) (v,v1,v2,v3,v4,v5))
def A6d(R:Type)(k:Nat):Px R:=pxO [(187,cA Wa),(216,cA Aaj),(217,cA Aas)] [] [(3,An k Apv (V0))] []
def Aoi(k:Nat)(x:HV [Yk1]):Ya1 (HV [.bool]):=match x with
 |l=>
 Aj (λa=>V0 a (λe b=>match b with|(v6,v7,v8,_,_,_)=>match e with
  |.ret=>
  some v7
  |.exit 0=>
  cond (C7 (v6.length:Int)) (
   some (Dn v8)) (
   some false)
  |_=>none)) k (l,false,[],l,(l.length:Int),0)
theorem Biz(k:Nat):FO 215 [Yk1] [.bool] (Aoi k):=fR (px:=A6d _ k) (n:=1) Tryz.func215 rfl (λcx H=>by have c:Lv cx (A6d (HV [.bool]) k):=lv H (c1 H Abc (c1 H Aar (c1 H Aqq Ae))) Aa Ab;have a:=lO H c (b:=lp Tryz.f215 0) (k:=k) (n:=0) (s:=Apv) (step:=V0) (λ_ _ _ (_,_,_,_,_,_)=>by kernel_rfl) Ai;exact⟨c,(A4 Ai a)⟩) λ_=>by kernel_rfl
def H8(c:Col):Bool:=decide (2<=c.kind)&&decide (c.kind<=5)&&(decide (c.ref=[])||B7 c.ref)
def Beu(l:Yb1 Col):Ya1 Bool:=if l.length<=2000000 then some (l.all H8&&C7 (l.length:Int)&&Dn (l.map (·.name)))else none
def Ay7:FT [Yk1] [.bool]:=λx=>Beu x
theorem Bbr{kx:Ex->Vq->Ya1 R}{l:Yb1 Col}(j:l.length<=2000000)(e:∀o i,kx .ret (l,false,o,l,(l.length:Int),i)=c false)(f:∀q o i,kx (.exit 0) (l,q,o,l,(l.length:Int),i)=cond (C7 (l.length:Int)) (c (Dn o)) (c false))(k:Nat)(m:l.length<k) :
  Aj (λa=>V0 a kx) k (l,false,[],l,(l.length:Int),0)=c (l.all H8&&C7 (l.length:Int)&&Dn (l.map (·.name))):=by
 have g:ln l.length:=by simp[ln];omega
 refine(A3 l.length (λi=>(l,false,(l.take i).map (·.name),l,(l.length:Int),(i:Int))) (λi=>c ((l.drop i).all H8&&C7 (l.length:Int)&&Dn (l.map (·.name)))) (λi hi a d=>?_) (λa=>?_) k 0 (Nat.zero_le _) (by omega)).trans (by rw[Zq1])
 ·have h:(l.take (i+1)).map (·.name)=(l.take i).map (·.name)++[l[i].name]:=by rw[List.take_add_one,Zo1 hi,List.map_append];rfl
  have b:((l.take i).map (·.name)).length+1<=Ah:=by simp[List.length_map,List.length_take,Ah];omega
  rw[h]at d;simp only[V0,Cs hi,Af,Ao hi,chk,Al (c:=.col) hi,Am hi g,d,e,Ak hi,Zv1,H8,Ze1 b];by_cases n:l[i].kind<2
  ·grind
  ·grind
 ·simp only[V0,C4,Ag,f];rw[Zk1 (Zn1 _),List.take_length];cases C7 (l.length:Int)<;>rfl
theorem Buv:FO 215 [Yk1] [.bool] Ay7:=.fin 0 Biz λl r hb a=>⟨l.length+1,by
 simp only[Ay7,Beu]at a;split at a
 ·rename_i h;rw[<-a];simp only[Aoi];refine Bbr (l:=l) (c:=some) h (λ_ _=>rfl) (λ_ _ _=>?_) (l.length+1) (by omega);cases C7 (l.length:Int)<;>rfl
 ·cases a⟩
def Alk:Sig:=⟨29,[(0,.sl .set false),(2,.bool),(3,.sl .str true),(6,.sl .set false),(7,.int .i64),(8,.int .i64)],[],[],0,0,0,[],[]⟩
abbrev Tm:=Yb1 SetE×Bool×Yb1 Str×Yb1 SetE×Int×Int
def U8{R:Type}(a:Tm->Ya1 R)(kx:Ex->Tm->Ya1 R)(v:Tm):Ya1 R:=match v with|(v,v1,v2,v3,v4,v5)=>cond (decide (v5<v4)) (chk (inb v5 v3.length) (cond (!(Ba (I3 ((at' .set v3 v5).e)) 30)) (kx .ret (v,false,v2,v3,v4,v5)) (chk (decide (v2.length+1<=Ah)) (a (v,v1,(v2++[((at' .set v3 v5).name)]),v3,v4,(wr .i64 (v5+1))))))) (kx (.exit 0) (v,v1,v2,v3,v4,v5))
def A3c(R:Type)(k:Nat):Px R:=pxO [(133,cA R6),(216,cA Aaj),(217,cA Aas)] [] [(3,An k Alk (U8))] []
def Akq(k:Nat)(x:HV [Yo1]):Ya1 (HV [.bool]):=match x with
 |l=>
 Aj (λa=>U8 a (λe b=>match b with|(v6,v7,v8,_,_,_)=>match e with
  |.ret=>
  some v7
  |.exit 0=>
  cond (C7 (v6.length:Int)) (
   some (Dn v8)) (
   some false)
  |_=>none)) k (l,false,[],l,(l.length:Int),0)
theorem Blm(k:Nat):FO 220 [Yo1] [.bool] (Akq k):=fR (px:=A3c _ k) (n:=1) Tryz.func220 rfl (λcx H=>by have c:Lv cx (A3c (HV [.bool]) k):=lv H (c1 H Up (c1 H Aar (c1 H Aqq Ae))) Aa Ab;have a:=lO H c (b:=lp Tryz.f220 0) (k:=k) (n:=0) (s:=Alk) (step:=U8) (λ_ _ _ (_,_,_,_,_,_)=>by kernel_rfl) Ai;exact⟨c,(A4 Ai a)⟩) λ_=>by kernel_rfl
def Bgl(l:Yb1 SetE):Ya1 Bool:=if l.length<=2000000 then some (l.all (λx=>Ba x.e 30)&&C7 (l.length:Int)&&Dn (l.map (·.name)))else none
def A03:FT [Yo1] [.bool]:=λx=>Bgl x
theorem A8y{kx:Ex->Tm->Ya1 R}{l:Yb1 SetE}(m:l.length<=2000000)(f:∀o i,kx .ret (l,false,o,l,(l.length:Int),i)=c false)(g:∀q o i,kx (.exit 0) (l,q,o,l,(l.length:Int),i)=cond (C7 (l.length:Int)) (c (Dn o)) (c false))(k:Nat)(n:l.length<k) :
  Aj (λa=>U8 a kx) k (l,false,[],l,(l.length:Int),0)=c (l.all (λx=>Ba x.e 30)&&C7 (l.length:Int)&&Dn (l.map (·.name))):=by
 have h:ln l.length:=by simp[ln];omega
 refine(A3 l.length (λi=>(l,false,(l.take i).map (·.name),l,(l.length:Int),(i:Int))) (λi=>c ((l.drop i).all (λx=>Ba x.e 30)&&C7 (l.length:Int)&&Dn (l.map (·.name)))) (λi hi a d=>?_) (λa=>?_) k 0 (Nat.zero_le _) (by omega)).trans (by rw[Zq1])
 ·have j:(l.take (i+1)).map (·.name)=(l.take i).map (·.name)++[l[i].name]:=by rw[List.take_add_one,Zo1 hi,List.map_append];rfl
  have b:((l.take i).map (·.name)).length+1<=Ah:=by simp[List.length_map,List.length_take,Ah];omega
  rw[j]at d;simp only[U8,Cs hi,Af,Ao hi,chk,Al (c:=.set) hi,Am hi h,d,f,Ak hi,Zv1,Ze1 b,Hz];cases Ba l[i].e 30<;>rfl
 ·simp only[U8,C4,Ag,g];rw[Zk1 (Zn1 _),List.take_length];cases C7 (l.length:Int)<;>rfl
theorem Bpf:FO 220 [Yo1] [.bool] A03:=.fin 0 Blm λl r hb a=>⟨l.length+1,by
 simp only[A03,Bgl]at a;split at a
 ·rename_i h;rw[<-a];simp only[Akq];refine A8y (l:=l) (c:=some) h (λ_ _=>rfl) (λ_ _ _=>?_) (l.length+1) (by omega);cases C7 (l.length:Int)<;>rfl
 ·cases a⟩
def noX:Xpr:=.mk 0 ⟨0,0,[]⟩ [] []
def noS:Stm:=⟨0,[],[],[],[],[],[],[],false,noX,[],[],0⟩
def Bqz(R:Type):Px R:=pxO [] [] [] []
def Am2(x:HV [Yg1]):Ya1 (HV [Yg1]):=match x with|s=>cond (decide (s.kind=1)) (some (Stm.mk 0 [] s.on [] [] [] s.rows s.sets s.has (I3 s.whr) s.order s.desc s.most)) (cond (decide (s.kind=3)) (some (Stm.mk 0 [] [] s.cols [] s.l s.rows s.sets s.has (I3 s.whr) s.order s.desc s.most)) (cond (decide (s.kind=5)) (some (Stm.mk 0 [] s.on s.cols s.names s.l [] s.sets s.has (I3 s.whr) s.order s.desc s.most)) (cond (decide (s.kind=6)) (some (Stm.mk 0 [] s.on s.cols s.names s.l s.rows [] false (Xpr.mk 0 ⟨0,0,[]⟩ [] []) s.order s.desc s.most)) (cond (decide (s.kind=7)) (some (Stm.mk 0 [] s.on s.cols s.names s.l s.rows s.sets false (Xpr.mk 0 ⟨0,0,[]⟩ [] []) s.order s.desc s.most)) (cond (decide (s.kind=8)) (some (Stm.mk 0 [] s.on s.cols s.names [] s.rows s.sets false (Xpr.mk 0 ⟨0,0,[]⟩ [] []) [] [] 0)) (some (Stm.mk 0 [] s.on s.cols s.names s.l s.rows s.sets s.has (I3 s.whr) s.order s.desc s.most)))))))
theorem Bh8:FO 214 [Yg1] [Yg1] (Am2):=fR (px:=Bqz _) (n:=0) Tryz.func214 rfl (λ_ H=>⟨lv H Ae Aa Ab,Ai⟩) λ_=>by kernel_rfl
def C1(s:Stm):Stm:=if s.kind=1 then { s with kind:=0,name:=[],cols:=[],names:=[],l:=[] }else if s.kind=3 then { s with kind:=0,name:=[],on:=[],names:=[] }else if s.kind=5 then { s with kind:=0,name:=[],rows:=[] }else if s.kind=6 then { s with kind:=0,name:=[],sets:=[],has:=false,whr:=noX }else if s.kind=7 then { s with kind:=0,name:=[],has:=false,whr:=noX }else if s.kind=8 then { s with kind:=0,name:=[],l:=[],has:=false,whr:=noX,order:=[],desc:=[],most:=0 }else { s with kind:=0,name:=[] }
def Axw:FT [Yg1] [Yg1]:=λx=>some (C1 x)
theorem Bsf:FO 214 [Yg1] [Yg1] Axw:=.fin0 Bh8 λs r hb a=>by
 simp only[Axw,Za1]at a;rw[<-a];simp only[Am2,C1,Hz,Bool.cond_decide];split; · rfl
 split; · rfl
 split; · rfl
 split; · rfl
 split; · rfl
 split<;>rfl
def Bg6(R:Type):Px R:=pxO [(187,cA Wa),(214,cA Axw),(213,cA A2o),(215,cA Ay7),(216,cA Aaj),(217,cA Aas),(218,cA Aal),(219,cA A0b),(220,cA A03),(221,cA A5c)] [] [] []
def Aih(x:HV [Yg1]):Ya1 (HV [Yc1]):=match x with
 |s=>
 let e:=λ(p1:Bool)=>
  cond (decide (s.kind=1)) (
  let f:=λ(p2:Bool)=>
   let j:=λ(p3:Bool)=>
   cond (p3) (
    cond (Dn s.names) (
    cond (!(Gy s.l)) (
     some 2) (
     some 0)) (
    some 2)) (
    some 2)
   cond (p2) (
   j (C7 (s.names.length:Int))) (
   j false)
  cond (p1) (
   (Beu s.cols).bind λx=>
   f x) (
   f false)) (
  cond (decide (s.kind=3)) (
   let g:=λ(n:Bool)=>
   cond (n) (
    cond (C7 (s.names.length:Int)) (
    cond (!(Dn s.names)) (
     some 2) (
     some 0)) (
    some 2)) (
    some 2)
   cond (p1) (
   g (B7 s.on)) (
   g false)) (
   let h:=λ(a:Bool)=>
   cond (a) (
    cond (!p1) (
    some 2) (
    some 0)) (
    cond (decide (s.kind=5)) (
    cond (p1) (
     cond (!(Atl s.rows)) (
     some 2) (
     some 0)) (
     some 2)) (
    cond (decide (s.kind=6)) (
     cond (p1) (
     (Bgl s.sets).bind λo=>
      cond (o) (
      cond (!(Hl s)) (
       some 2) (
       some 0)) (
      some 2)) (
     some 2)) (
     cond (decide (s.kind=7)) (
     cond (p1) (
      cond (!(Hl s)) (
      some 2) (
      some 0)) (
      some 2)) (
     cond (decide (s.kind=8)) (
      let i:=λ(b:Bool)=>
      let k:=λ(c:Bool)=>
       let m:=λ(d:Bool)=>
       cond (d) (
        cond (decide ((s.desc.length:Int)=(s.order.length:Int))) (
        cond (!(decide ((-1)<=s.most))) (
         some 2) (
         some 0)) (
        some 2)) (
        some 2)
       cond (c) (
       m (Dn s.order)) (
       m false)
      cond (b) (
       k (Hl s)) (
       k false)
      cond (p1) (
      i (Gy s.l)) (
      i false)) (
      some 2)))))
   cond (decide (s.kind=2)) (
   h (decide (s.kind=2))) (
   h (decide (s.kind=4)))))
 cond (B7 s.name) (
  e (Bb7 (C1 s) (Stm.mk 0 [] [] [] [] [] [] [] false (Xpr.mk 0 ⟨0,0,[]⟩ [] []) [] [] 0))) (
  e false)
theorem A9w:FO 176 [Yg1] [Yc1] (Aih):=fR (px:=Bg6 _) (n:=0) Tryz.func176 rfl (λ_ H=>⟨lv H (c1 H Abc (c1 H Bsf (c1 H Bhy (c1 H Buv (c1 H Aar (c1 H Aqq (c1 H Aut (c1 H Bre (c1 H Bpf (c1 H Bj0 Ae)))))))))) Aa Ab,Ai⟩) λ_=>by kernel_rfl
def Bn(s:Stm):Bool:=B7 s.name&&decide (C1 s=noS)&&(if s.kind=1 then s.cols.all H8&&C7 (s.cols.length:Int)&&Dn (s.cols.map (·.name))&&C7 (s.names.length:Int)&&Dn s.names&&Gy s.l else if s.kind=3 then B7 s.on&&C7 (s.names.length:Int)&&Dn s.names else if s.kind=2\/s.kind=4 then true else if s.kind=5 then Atl s.rows else if s.kind=6 then s.sets.all (λx=>Ba x.e 30)&&C7 (s.sets.length:Int)&&Dn (s.sets.map (·.name))&&Hl s else if s.kind=7 then Hl s else if s.kind=8 then Gy s.l&&Hl s&&Dn s.order&&decide (s.desc.length=s.order.length)&&decide (-1<=s.most)else false)
def Aev(s:Stm):Ya1 Int:=if s.cols.length<=2000000/\s.sets.length<=2000000 then some (cond (Bn s) 0 2)else none
def Abl:FT [Yg1] [Yc1]:=λx=>Aev x
theorem Atz:FO 176 [Yg1] [Yc1] Abl:=.fin0 A9w λs r hb b=>by
 simp only[Abl,Aev]at b;split at b
 case isFalse=>cases b
 rename_i h;rw[<-b];have m:Beu s.cols=some (s.cols.all H8&&C7 (s.cols.length:Int)&&Dn (s.cols.map (·.name))):=if_pos h.1;have e2:Bgl s.sets=some (s.sets.all (λx=>Ba x.e 30)&&C7 (s.sets.length:Int)&&Dn (s.sets.map (·.name))):=if_pos h.2;have n:Bb7 (C1 s) (Stm.mk 0 [] [] [] [] [] [] [] false (Xpr.mk 0 ⟨0,0,[]⟩ [] []) [] [] 0)=decide (C1 s=noS):=Bju _ _;have o:decide ((s.desc.length:Int)=(s.order.length:Int))=decide (s.desc.length=s.order.length):=Zy1.2 (by omega);simp only[Aih,Bn,m,e2,n,o,Zc1];generalize B7 s.name=A;generalize decide (C1 s=noS)=B;generalize (s.cols.all H8&&C7 (s.cols.length:Int)&&Dn (s.cols.map (·.name)))=C;generalize C7 (s.names.length:Int)=D;generalize Dn s.names=E;generalize Gy s.l=F;generalize B7 s.on=G;generalize Atl s.rows=H;generalize (s.sets.all (λx=>Ba x.e 30)&&C7 (s.sets.length:Int)&&Dn (s.sets.map (·.name)))=I;generalize Hl s=J;generalize Dn s.order=K;generalize decide (s.desc.length=s.order.length)=L;generalize decide (-1<=s.most)=M;by_cases c:s.kind=1
 ·rw[Ze1 c,if_pos c];cases A<;>cases B<;>cases C<;>cases D<;>cases E<;>cases F<;>rfl
 rw[Zd1 c,if_neg c];by_cases d:s.kind=3
 ·rw[Ze1 d,if_pos d];cases A<;>cases B<;>cases G<;>cases D<;>cases E<;>rfl
 rw[Zd1 d,if_neg d];by_cases a:s.kind=2\/s.kind=4
 ·rw[if_pos a];rcases a with k|k
  ·rw[Ze1 k];cases A<;>cases B<;>rfl
  ·rw[Ze1 k,Zd1 (show ¬s.kind=2 by omega)];cases A<;>cases B<;>rfl
 rw[if_neg a,Zd1 (show ¬s.kind=2 by omega),Zd1 (show ¬s.kind=4 by omega)];by_cases f:s.kind=5
 ·rw[Ze1 f,if_pos f];cases A<;>cases B<;>cases H<;>rfl
 rw[Zd1 f,if_neg f];by_cases g:s.kind=6
 ·rw[Ze1 g,if_pos g];cases A<;>cases B<;>cases I<;>cases J<;>rfl
 rw[Zd1 g,if_neg g];by_cases i:s.kind=7
 ·rw[Ze1 i,if_pos i];cases A<;>cases B<;>cases J<;>rfl
 rw[Zd1 i,if_neg i];by_cases j:s.kind=8
 ·rw[Ze1 j,if_pos j];cases A<;>cases B<;>cases F<;>cases J<;>cases K<;>cases L<;>cases M<;>rfl
 rw[Zd1 j,if_neg j];cases A<;>cases B<;>rfl
def Q9:Sig:=⟨26,[(10,.int .i64),(11,.int .i64)],[(1,.ptr 0 0),(2,.ptr 1 0)],[(0,.oc [Yc1,Yc1,Yc1,.str,.str] 2 .expr),(1,.one (.sv .expr)),(2,.one (.dn .expr))],3,0,0,[],[]⟩
abbrev G1:=Int×Int×Int×Int×Int×Str×Str×Int×Int×Xpr×Yb1 Xpr
def Kz{R:Type}(rf:FT [Yd1] [Yd1])(a:G1->Ya1 R)(kx:Ex->G1->Ya1 R)(v:G1):Ya1 R:=match v with|(v,v1,w,w1,w2,w3,w4,w5,w6,w7,w8)=>cond (decide (v1<v)) (chk (inO v1 w6) (chk (inb (w5+v1) w8.length) ((rf (at' .expr w8 (w5+v1))).bind λx=>chk (inO v1 w6) (chk (inb (w5+v1) w8.length) (a (v,(wr .i64 (v1+1)),w,w1,w2,w3,w4,w5,w6,w7,(w8.set ((w5+v1):Int).toNat x))))))) (kx (.exit 0) (v,v1,w,w1,w2,w3,w4,w5,w6,w7,w8))
noncomputable def Akp(R:Type)(_k:Nat)(rf:FT [Yd1] [Yd1]):Px R:=pxO [(225,X5 .expr)] [(181,qA rf)] [] []
noncomputable def Wc(R:Type)(k:Nat)(rf:FT [Yd1] [Yd1]):Px R:=pxO [(225,X5 .expr)] [(181,qA rf)] [(3,Ax6 (Akp R k rf) (lp Tryz.f181 0) k Q9 (Kz rf))] []
theorem A1u(R:Type)(k:Nat)(rf:FT [Yd1] [Yd1]):∀(fr:Yb1 Fr) (a:G1->Ya1 R) (kx:Ex->G1->Ya1 R) (v:G1),round (Wc R k rf) Q9 (lp Tryz.f181 0) fr a kx v=Kz rf a kx v
 |fr,a,kx,(v,v1,w,w1,w2,w3,w4,w5,w6,w7,w8)=>by kernel_rfl
def Ja(k:Nat)(rf:FT [Yd1] [Yd1])(x:HV [Yd1]):Ya1 (HV [Yd1]):=match x with
 |e=>
 chk (decide (e.l.length<=2000000)) (
  cond (List.isEmpty e.l) (
  some (Xpr.mk e.kind ⟨e.v.kind,e.v.n,e.v.s⟩ e.name [])) (
  Aj (λc=>Kz rf c (λe d=>match d with|(_,_,v4,v5,v6,v7,v8,v9,a,_,b)=>match e with
   |.exit 0=>
   chk (decide ((0:Int)<=v9)&&decide ((0:Int)<=a)&&decide ((v9+a)<=(b.length:Int))) (
    some (Xpr.mk v4 ⟨v5,v6,v7⟩ v8 (cut b v9 (v9+a))))
   |_=>none)) k ((e.l.length:Int),0,e.kind,e.v.kind,e.v.n,e.v.s,e.name,0,(e.l.length:Int),(Xpr.mk 0 ⟨0,0,[]⟩ [] []),e.l)))
theorem A7u(k:Nat)(rf:FT [Yd1] [Yd1])(d:FO 181 [Yd1] [Yd1] rf):FO 181 [Yd1] [Yd1] (Ja k rf):=fR (px:=Wc _ k rf) (n:=1) Tryz.func181 rfl (λcx H=>by have e:Lv cx (Wc (HV [Yd1]) k rf):=lv H (As (cCl H Ahi Aam) Ae) (q1 H d Aa) Ab;have b:Lv cx (Akp (HV [Yd1]) k rf):=lv H (As (cCl H Ahi Aam) Ae) (q1 H d Aa) Ab;have a:Bp cx (Wc (HV [Yd1]) k rf) (lp Tryz.f181 0):=Aoh e.p e.c e.q (by rw[H.p];exact follows) b.p b.c b.q (λ_ _ _=>rfl) (k:=k) (s:=Q9) (step:=Kz rf) (λ_ _=>by kernel_rfl) (by kernel_rfl) (A1u _ k rf) (Qz (n:=0) (by kernel_rfl) Ai);exact⟨e,(A4 Ai a)⟩) λ_=>by kernel_rfl
def Anj(e:Xpr):Ya1 Xpr:=cond (decide (A1 e<=2000000)) (some e) none
def Amr:FT [Yd1] [Yd1]:=λx=>Anj x
theorem Bwv{n:Nat}(h:i<n):inO (i:Int) (n:Int)=true:=by simp[inO];omega
variable{nm:Str}
theorem A6l{rf:FT [Yd1] [Yd1]}{kx:Ex->G1->Ya1 R}{a b n:Int}{z:Xpr}{l:Yb1 Xpr}{c:Ya1 R}(f:ln l.length)(e:∀x,x∈l->rf x=some x)(g:kx (.exit 0) ((l.length:Int),(l.length:Int),a,b,n,s,nm,0,(l.length:Int),z,l)=c)(k:Nat)(j:l.length<k) :
  Aj (λd=>Kz rf d kx) k ((l.length:Int),0,a,b,n,s,nm,0,(l.length:Int),z,l)=c:=by
 refine A3 l.length (λi=>((l.length:Int),(i:Int),a,b,n,s,nm,0,(l.length:Int),z,l)) (λ_=>c) (λi hi d h=>?_) (λd=>?_) k 0 (Nat.zero_le _) (by omega)
 ·simp only[Kz,Cs hi,Af,Int.zero_add,Bwv hi,Ao hi,chk,Al (c:=.expr) hi,e _ (List.getElem_mem hi),Zc1,Am hi f,Int.toNat_natCast,List.set_getElem_self,h]
 ·simp[Kz,g]
theorem Ane(k:Nat):∀(n:Nat) (e:Xpr),BdExpr e->A1 e<=n->A1 e<=k->A1 e<=2000000->Aj (Ja k) n e=some e
 |0,e,_,h,_,_=>by have:=D1 e;omega
 |n+1,e,hb,h,hk,ho=>by
  obtain⟨d,f⟩:=Ail hb;rw[Ds]at h hk ho;have j:=Gt e.l;have g:∀x,x∈e.l->Aj (Ja k) n x=some x:=λx a=>Ane k n x (f x a) (by have:=Bi a;omega) (by have:=Bi a;omega) (by have:=Bi a;omega);rw[Au];simp[Ja];rw[Ze1 (show e.l.length<=2000000 by omega)];simp[chk];cases b:e.l with
  |nil=>simp;obtain⟨m,v,nm,l⟩:=e;simp[Xpr.l]at b;subst b;rfl
  |cons x t=>
   rw[<-b];have:List.isEmpty e.l=false:=by rw[b];rfl
   rw[this];simp;refine(A6l (c:=some e) d g ?_ k (by omega));have i:(decide ((0:Int)<=0)&&decide ((0:Int)<=(e.l.length:Int))&&decide ((0:Int)+(e.l.length:Int)<=(e.l.length:Int)))=true:=by simp
   simp only[i,Bgh];cases e;rfl
theorem Blq:FO 181 [Yd1] [Yd1] Amr:=by refine .fin (ι:=Nat) 0 (F:=λn=>Aj (Ja n) n) (λn=>FnOk.rec' (Sx.enters_of Tryz.func181 rfl rfl) (λrf b=>A7u n rf b) n) λe r hb a=>⟨A1 e,?_⟩;simp only[Amr,Anj]at a;cases hd:decide (A1 e<=2000000)with|false=>rw[hd]at a;cases a|true=>rw[hd]at a;exact(Ane (A1 e) (A1 e) e hb (Zn1 _) (Zn1 _) (of_decide_eq_true hd)).trans a
def Atg:Sig:=⟨19,[(0,.sl .col false),(4,.int .i64),(7,.int .i64),(8,.int .i64)],[(1,.fn 266 [.ptr 1 0])],[(1,.cells [.str])],40,40,200,[],[]⟩
abbrev Aan:=Yb1 Col×Int×Int×Int×Str
def Aec{R:Type}(a:Aan->Ya1 R)(kx:Ex->Aan->Ya1 R)(v:Aan):Ya1 R:=match v with|(v,v1,v2,v3,w)=>cond (decide (v3<v2)) (chk (inb v3 v.length) (cond (decide (((at' .col v v3).name)=w)) (kx .ret (v,v3,v2,v3,w)) (a (v,v1,v2,(wr .i64 (v3+1)),w)))) (kx (.exit 0) (v,v1,v2,v3,w))
def Agv(R:Type)(_k:Nat):Px R:=pxO [] [] [] []
noncomputable def Asi(R:Type)(k:Nat):Px R:=pxO [(266,A0 80 400 (Agv R k) Tryz.f266)] [] [(2,An k Atg (Aec))] []
noncomputable def Bfu(R:Type)(k:Nat):Px R:=pxO [(265,A0 40 200 (Asi R k) Tryz.f265)] [] [] []
def Awo(k:Nat)(x:HV [Yh1,.str]):Ya1 (HV [Yc1]):=match x with
 |(t,s)=>
 Aj (λa=>Aec a (λe b=>match b with|(_,v5,_,_,_)=>match e with
  |.ret=>
  some v5
  |.exit 0=>
  some (-1)
  |_=>none)) k (t.cols,0,(t.cols.length:Int),0,s)
theorem Bug(k:Nat):FO 224 [Yh1,.str] [Yc1] (Awo k):=fR (px:=Bfu _ k) (n:=0) Tryz.func224 rfl (λcx H=>by have d:Lv cx (Agv (HV [Yc1]) k):=lv H Ae Aa Ab;have c:Lv cx (Asi (HV [Yc1]) k):=lv H (As (cR H d Tryz.func266 rfl (n:=0) (Ai)) Ae) Aa Ab;have a:=lO H c (b:=lp Tryz.f265 0) (k:=k) (n:=0) (s:=Atg) (step:=Aec) (λ_ _ _ (_,_,_,_,_)=>by kernel_rfl) Ai;have e:Lv cx (Bfu (HV [Yc1]) k):=lv H (As (cR H c Tryz.func265 rfl (n:=1) (A4 Ai a)) Ae) Aa Ab;exact⟨e,Ai⟩) λ(_,_)=>by kernel_rfl
def Bye(t:Tbl)(s:Str):Int:=B3 t.cols s
def Bbc:FT [Yh1,.str] [Yc1]:=λx=>some (Bye x.1 x.2)
variable{g:Int->Ya1 R}
theorem Bmq{kx:Ex->Aan->Ya1 R}(b:ln cols.length)(d:∀i:Nat,kx .ret (cols,(i:Int),(cols.length:Int),(i:Int),s)=g i)(e:kx (.exit 0) (cols,0,(cols.length:Int),(cols.length:Int),s)=g (-1))(k:Nat)(h:cols.length<k) :
  Aj (λa=>Aec a kx) k (cols,0,(cols.length:Int),0,s)=g (B3 cols s):=by
 refine(A3 cols.length (λi=>(cols,0,(cols.length:Int),(i:Int),s)) (λi=>g (Bu (cols.drop i) s i)) (λi hi a f=>?_) (λa=>?_) k 0 (Nat.zero_le _) (by omega)).trans (by rw[Zq1];rfl)
 ·simp only[Aec,Cs hi,Ao hi,Al (c:=.col) hi,Am hi b,f,d,Ak hi,Bu,Bool.cond_decide];split<;>rfl
 ·simp only[Aec,C4,e];rw[Zk1 (Zn1 _)];rfl
theorem Byp:FO 224 [Yh1,.str] [Yc1] Bbc:=.fin 0 Bug λ(t,s) r hb a=>⟨t.cols.length+1,by simp only[Bbc,Za1,Bye]at a;simp only[Awo];exact(Bmq (g:=some) hb.1.cols.1 (λ_=>rfl) rfl _ (by omega)).trans (congrArg some a)⟩
def Avw:Sig:=⟨19,[(0,.sl .str false),(4,.int .i64),(7,.int .i64),(8,.int .i64)],[(1,.fn 223 [.ptr 0 0])],[(0,.one (.sv .tbl))],80,80,400,[],[]⟩
abbrev Abq:=Yb1 Str×Int×Int×Int×Tbl
def Afj{R:Type}(a:Abq->Ya1 R)(kx:Ex->Abq->Ya1 R)(v:Abq):Ya1 R:=match v with|(v,v1,v2,v3,w)=>cond (decide (v3<v2)) (chk (inb v3 v.length) (cond (decide ((Bye w (at' .str v v3))<0)) (kx .ret (v,v3,v2,v3,w)) (a (v,v1,v2,(wr .i64 (v3+1)),w)))) (kx (.exit 0) (v,v1,v2,v3,w))
def Xd(R:Type)(_k:Nat):Px R:=pxO [(224,cA Bbc)] [] [] []
noncomputable def Ag7(R:Type)(k:Nat):Px R:=pxO [(223,A0 120 600 (Xd R k) Tryz.f223)] [] [(2,An k Avw (Afj))] []
noncomputable def Ati(R:Type)(k:Nat):Px R:=pxO [(264,A0 80 400 (Ag7 R k) Tryz.f264)] [] [] []
noncomputable def Bci(R:Type)(k:Nat):Px R:=pxO [(222,A0 40 200 (Ati R k) Tryz.f222)] [] [] []
def At4(k:Nat)(x:HV [Yh1,Yf1]):Ya1 (HV [.bool]):=match x with
 |(t,names)=>
 Aj (λa=>Afj a (λe b=>match b with|(_,v5,_,_,_)=>match e with
  |.ret=>
  some (!(decide (0<=v5)))
  |.exit 0=>
  some true
  |_=>none)) k (names,0,(names.length:Int),0,t)
theorem Bq6(k:Nat):FO 179 [Yh1,Yf1] [.bool] (At4 k):=fR (px:=Bci _ k) (n:=0) Tryz.func179 rfl (λcx H=>by have d:Lv cx (Xd (HV [.bool]) k):=lv H (c1 H Byp Ae) Aa Ab;have c:Lv cx (Ag7 (HV [.bool]) k):=lv H (As (cR H d Tryz.func223 rfl (n:=0) (Ai)) Ae) Aa Ab;have a:=lO H c (b:=lp Tryz.f264 0) (k:=k) (n:=0) (s:=Avw) (step:=Afj) (λ_ _ _ (_,_,_,_,_)=>by kernel_rfl) Ai;have e:Lv cx (Ati (HV [.bool]) k):=lv H (As (cR H c Tryz.func264 rfl (n:=1) (A4 Ai a)) Ae) Aa Ab;have f:Lv cx (Bci (HV [.bool]) k):=lv H (As (cR H e Tryz.func222 rfl (n:=0) (Ai)) Ae) Aa Ab;exact⟨f,Ai⟩) λ(_,_)=>by kernel_rfl
def Jz(t:Tbl)(names:Yb1 Str):Bool:=names.all λs=> !decide (B3 t.cols s<0)
def A0h:FT [Yh1,Yf1] [.bool]:=λx=>some (Jz x.1 x.2)
variable{t:Tbl}
theorem Bhg{kx:Ex->Abq->Ya1 R}{l:Yb1 Str}{a b:Ya1 R}(e:ln l.length)(f:∀i:Nat,kx .ret (l,(i:Int),(l.length:Int),(i:Int),t)=a)(g:kx (.exit 0) (l,0,(l.length:Int),(l.length:Int),t)=b)(k:Nat)(j:l.length<k) :
  Aj (λd=>Afj d kx) k (l,0,(l.length:Int),0,t)=cond (Jz t l) b a:=by
 refine(A3 l.length (λi=>(l,0,(l.length:Int),(i:Int),t)) (λi=>cond (Jz t (l.drop i)) b a) (λi hi d h=>?_) (λd=>?_) k 0 (Nat.zero_le _) (by omega)).trans (by rw[Zq1])
 ·simp only[Afj,Cs hi,Ao hi,Al (c:=.str) hi,Am hi e,h,f,Ak hi,Jz,Zv1,Bye];cases decide (B3 t.cols l[i]<0)<;>rfl
 ·simp only[Afj,C4,g];rw[Zk1 (Zn1 _)];rfl
theorem Bdi:FO 179 [Yh1,Yf1] [.bool] A0h:=.fin 0 Bq6 λ(t,l) r hb c=>⟨l.length+1,by
 simp only[A0h,Za1]at c;simp only[At4];refine(Bhg (a:=some false) (b:=some true) hb.2.1 (λi=>?_) rfl _ (by omega)).trans ?_
 ·show some (!decide ((0:Int)<=(i:Int)))=some false;rw[Ze1 (by omega)];rfl
 ·rw[<-c];cases Jz t l<;>rfl⟩
structure LinC {α:Type}(c : α->α->Int):Prop where
 rng:∀x y,c x y = -1\/c x y=0\/c x y=1
 eq:∀x y,c x y=0↔x=y
 anti:∀x y,c y x = -(c x y)
 tr:∀x y z,c x y<=0->c y z<=0->c x z<=0
def Gf(p q:Int):Int:=if p=0 then q else p
theorem A2i{p q:Int}(h:Gf p q<=0):p<=0/\(p=0->q<=0):=by simp[Gf]at h;split at h<;>omega
theorem Aok{β:Type}{c : α->α->Int}{d : β->β->Int}(hc:LinC c){x y z : α}{u v w : β}(hd:d u v<=0->d v w<=0->d u w<=0)(a:Gf (c x y) (d u v)<=0)(b:Gf (c y z) (d v w)<=0):Gf (c x z) (d u w)<=0:=by
 obtain⟨a1,h⟩:=A2i a;obtain⟨f,i⟩:=A2i b;simp[Gf];split
 ·rename_i g;have e:=(hc.eq x z).1 g;subst e;have j:=hc.anti x y
  grind
 ·exact(hc.tr x y z a1 f)
def H5{α:Type}(c : α->α->Int):Yb1 α->Yb1 α->Int|[],[]=>0|[],_::_=> -1|_::_,[]=>1|x::a,y::b=>Gf (c x y) (H5 c a b)
theorem A28{c : α->α->Int}(hc:LinC c):LinC (H5 c):=by
 refine⟨?_,?_,?_,?_⟩
 ·intro x;induction x with
  |nil=>intro y;cases y<;>simp[H5]
  |cons x a d=>
   intro y;cases y with
   |nil=>simp[H5]
   |cons y b=>
    simp[H5,Gf];split
    ·exact d b
    ·exact hc.rng x y
 ·intro x;induction x with
  |nil=>intro y;cases y<;>simp[H5]
  |cons x a d=>
   intro y;cases y with
   |nil=>simp[H5]
   |cons y b=>
    simp[H5,Gf];split
    ·rename_i h;rw[d b];exact⟨λe=>⟨(hc.eq x y).1 h,e⟩,λe=>e.2⟩
    ·rename_i h;exact⟨λe=>absurd e h,λe=>absurd ((hc.eq x y).2 e.1) h⟩
 ·intro x;induction x with
  |nil=>intro y;cases y<;>simp[H5]
  |cons x a d=>intro y;cases y with|nil=>simp[H5]|cons y b=>have h:=hc.anti x y;have hb:=d b;simp[H5,Gf];split<;>split<;>omega
 ·intro x;induction x with
  |nil=>intro y z _ _;cases z<;>simp[H5]
  |cons x a d=>
   intro y z f g;cases y with
   |nil=>simp[H5]at f
   |cons y b=>cases z with|nil=>simp[H5]at g|cons z e=>exact Aok hc (λp q=>d b e p q) f g
theorem sg_lin:LinC Dz:=by
 have e:∀x y,Dz x y=if x<y then -1 else if y<x then 1 else 0:=λx y=>by simp[Dz,Bool.cond_decide]
 refine⟨λx y=>?_,λx y=>?_,λx y=>?_,λx y z a b=>?_⟩
 ·grind
 ·grind
 ·grind
 ·grind
def Bvq(a b:UInt8):Int:=Dz (a.toNat:Int) (b.toNat:Int)
theorem Bqx:LinC Bvq:=by
 refine⟨λx y=>sg_lin.rng _ _,λx y=>?_,λx y=>sg_lin.anti _ _,λx y z=>sg_lin.tr _ _ _⟩;simp[Bvq];rw[sg_lin.eq];constructor
 ·intro h;exact UInt8.toNat_inj.1 (by omega)
 ·intro h;rw[h]
theorem A4q:∀a b:Str,Dc a b=H5 Bvq a b
 |[],[]=>rfl
 |[],_::_=>rfl
 |_::_,[]=>rfl
 |a::l,b::m=>by
  have f:=A4q l m;simp[Dc,Lib.compareBytes]at f ⊢;simp only[H5,Gf,Bvq,Dz,<-f];by_cases c:a<b
  ·have:(a.toNat:Int)<(b.toNat:Int):=by have:=UInt8.lt_iff_toNat_lt.1 c;omega
   simp[c,this]
  ·by_cases d:b<a
   ·have e:¬(a.toNat:Int)<(b.toNat:Int):=by have:=UInt8.lt_iff_toNat_lt.1 d;omega
    have g:(b.toNat:Int)<(a.toNat:Int):=by have:=UInt8.lt_iff_toNat_lt.1 d;omega
    simp[c,d,e,g]
   ·have e:a=b:=UInt8.le_antisymm (UInt8.not_lt.1 d) (UInt8.not_lt.1 c);subst e;simp
theorem scmp_lin:LinC Dc:=by
 have e:(Dc:Str->Str->Int)=H5 Bvq:=by funext a b;exact A4q a b
 rw[e];exact A28 Bqx
theorem Mq(a b:Val):Gs a b=Gf (Dz a.kind b.kind) (Gf (Dz a.n b.n) (Dc a.s b.s)):=by
 simp only[Gs,Gj,Gf];by_cases c:Dz a.kind b.kind=0
 ·rw[Ze1 c,if_pos c];by_cases d:Dz a.n b.n=0
  ·rw[Ze1 d,if_pos d];rfl
  ·rw[Zd1 d,if_neg d];rfl
 ·rw[Zd1 c,if_neg c];rfl
theorem vcmp_lin:LinC Gs:=by
 refine⟨λx y=>?_,λx y=>?_,λx y=>?_,λx y z a b=>?_⟩
 ·rw[Mq];simp only[Gf];split
  ·split
   ·exact scmp_lin.rng _ _
   ·exact sg_lin.rng _ _
  ·exact sg_lin.rng _ _
 ·rw[Mq];have c:=sg_lin.eq x.kind y.kind;have e2:=sg_lin.eq x.n y.n;have e:=scmp_lin.eq x.s y.s;obtain⟨k,n,s⟩:=x;obtain⟨i,j,s'⟩:=y;simp only[Gf,Val.mk.injEq]at *;split
  ·split
   ·rename_i a b;rw[e,c.1 a,e2.1 b];simp
   ·rename_i a b;exact⟨λh=>absurd h b,λh=>absurd (e2.2 h.2.1) b⟩
  ·rename_i a;exact⟨λh=>absurd h a,λh=>absurd (c.2 h.1) a⟩
 ·rw[Mq,Mq];have c:=sg_lin.anti x.kind y.kind;have e2:=sg_lin.anti x.n y.n;have e:=scmp_lin.anti x.s y.s;simp only[Gf];split<;>split<;>(try split)<;>(try split)<;>omega
 ·rw[Mq]at a b ⊢;refine Aok (d:=λ(p q:Int×Str)=>Gf (Dz p.1 q.1) (Dc p.2 q.2)) (u:=(x.n,x.s)) (v:=(y.n,y.s)) (w:=(z.n,z.s)) sg_lin ?_ a b;intro f g;exact Aok (d:=Dc) sg_lin (λp q=>scmp_lin.tr _ _ _ p q) f g
theorem vrows_lin:LinC (H5 Gs):=A28 vcmp_lin
def ltN(a b:Str):Bool:=decide (Dc a b<0)
theorem Bdw(a:Str):ltN a a=false:=by have:=(scmp_lin.eq a a).2 rfl;simp[ltN,this]
variable{a:Str}
theorem A95{b c:Str}(d:ltN a b=true)(f:ltN b c=true):ltN a c=true:=by
 simp[ltN]at *;rcases Int.lt_or_eq_of_le (scmp_lin.tr a b c (by omega) (by omega))with h|h
 ·exact h
 ·have e:=(scmp_lin.eq a c).1 h;subst e;have:=scmp_lin.anti a b;omega
theorem B1a(a b:Str):ltN a b=true\/a=b\/ltN b a=true:=by
 simp[ltN];rcases scmp_lin.rng a b with h|h|h
 ·left;omega
 ·exact .inr (.inl ((scmp_lin.eq a b).1 h))
 ·right;have:=scmp_lin.anti a b;omega
theorem Azt{b:Str}(h:ltN a b=true):a≠b:=λe=>by rw[e,Bdw]at h;cases h
def A6:Yb1 Idx->Bool|[]=>true|x::l=>l.all (λy=>ltN x.name y.name)&&A6 l
def Mo(l:Yb1 Idx)(x:Idx):Yb1 Idx:=l.takeWhile (λy=>ltN y.name x.name)++x::l.dropWhile (λy=>ltN y.name x.name)
def Qy(l:Yb1 Idx)(s:Str):Bool:=l.any λy=>decide (y.name=s)
def Fv(l:Yb1 Idx)(s:Str):Nat:=(l.takeWhile λy=>ltN y.name s).length
theorem Bfh(l:Yb1 Idx)(s:Str):Fv l s<=l.length:=by
 induction l with
 |nil=>simp[Fv]
 |cons x l a=>
  simp[Fv,List.takeWhile_cons]at a ⊢;split
  ·simp;omega
  ·simp
theorem Abd:∀{l:Yb1 Idx}{s:Str},A6 l=true->∀(h:Nat) (a:h<l.length),ltN l[h].name s=decide (h<Fv l s)
 |[],_,_,h,a=>by simp at a
 |x::l,s,hs,h,a=>by
  simp[A6,Zg2]at hs;have e:=Abd (l:=l) (s:=s) hs.2;have c:Fv (x::l) s=if ltN x.name s then Fv l s+1 else 0:=by simp[Fv,List.takeWhile_cons];split<;>simp
  rw[c];cases b:ltN x.name s with
  |true=>grind
  |false=>
   cases h with
   |zero=>simpa using b
   |succ h=>simp;cases d:ltN (l[h]'(by simpa using a)).name s with|false=>rfl|true=>rw[A95 (hs.1 _ (List.getElem_mem _)) d]at b;cases b
theorem Qc:∀{l:Yb1 Idx},A6 l=true->∀(i j:Nat) (hi:i<l.length) (a:j<l.length),i<j->ltN l[i].name l[j].name=true
 |[],_,i,j,hi,_,_=>by simp at hi
 |x::l,hs,i,j,hi,a,hij=>by
  simp[A6,Zg2]at hs;cases j with
  |zero=>omega
  |succ j=>cases i with|zero=>grind|succ i=>exact Qc hs.2 i j (by simpa using hi) (by simpa using a) (by omega)
theorem Bca{l:Yb1 Idx}:Qy l s=true↔∃y,y∈l/\y.name=s:=by simp[Qy]
theorem Bgc{l:Yb1 Idx}(b:A6 l=true):Qy l s=true↔∃h:Fv l s<l.length,l[Fv l s].name=s:=by
 rw[Bca];constructor
 ·rintro⟨y,j,e⟩;obtain⟨k,f,rfl⟩:=List.getElem_of_mem j;have c:=Abd (s:=s) b k f;rw[e,Bdw]at c;have d:¬k<Fv l s:=λh=>by rw[Ze1 h]at c;cases c
  have a:Fv l s<l.length:=by omega
  refine⟨a,?_⟩;rcases Nat.lt_or_eq_of_le (Nat.le_of_not_lt d)with h|h
  ·have g:=Qc b _ k a f h;rw[e]at g;have i:=Abd (s:=s) b _ a;rw[g]at i;simp at i
  ·subst h;exact e
 ·grind
theorem Bn8(l:Yb1 Idx)(s:Str):l.take (Fv l s)=l.takeWhile (λy=>ltN y.name s):=by have:=List.takeWhile_append_dropWhile (p:=λy:Idx=>ltN y.name s) (l:=l);have a:(l.takeWhile (λy=>ltN y.name s)++l.dropWhile (λy=>ltN y.name s)).take (Fv l s)=l.takeWhile (λy=>ltN y.name s):=List.take_left' rfl;rwa[this]at a
theorem Boe(l:Yb1 Idx)(s:Str):l.drop (Fv l s)=l.dropWhile (λy=>ltN y.name s):=by have:=List.takeWhile_append_dropWhile (p:=λy:Idx=>ltN y.name s) (l:=l);have a:(l.takeWhile (λy=>ltN y.name s)++l.dropWhile (λy=>ltN y.name s)).drop (Fv l s)=l.dropWhile (λy=>ltN y.name s):=List.drop_left' rfl;rwa[this]at a
theorem Ak3(l:Yb1 Idx)(x:Idx):Mo l x=l.take (Fv l x.name)++x::l.drop (Fv l x.name):=by rw[Bn8,Boe,Mo]
variable{x:Idx}{y:Idx}
theorem Be8{l:Yb1 Idx}:y∈Mo l x↔y=x\/y∈l:=by
 rw[Ak3];have:y∈l↔y∈l.take (Fv l x.name)\/y∈l.drop (Fv l x.name):=by rw[<-List.mem_append,List.take_append_drop]
 constructor
 ·grind
 ·grind
theorem Bcm(l:Yb1 Idx)(x:Idx):(Mo l x).length=l.length+1:=by rw[Ak3];simp[ Za2];omega
theorem Xy:∀{l:Yb1 Idx}{x:Idx},A6 l=true->Qy l x.name=false->A6 (Mo l x)=true
 |[],x,_,_=>by simp[Mo,A6]
 |y::l,x,hs,hh=>by
  have a:=hs;simp[A6,Zg2]at a;simp only[Qy,List.any_cons,Bool.or_eq_false_iff,decide_eq_false_iff_not]at hh;have f:=Xy (l:=l) (x:=x) a.2 hh.2;cases c:ltN y.name x.name with
  |true=>
   have e:Mo (y::l) x=y::Mo l x:=by simp[Mo,c]
   rw[e];simp[A6,Zg2];refine⟨λz b=>?_,f⟩;rcases Be8.1 b with rfl|b
   ·exact c
   ·exact a.1 z b
  |false=>
   have e:Mo (y::l) x=x::y::l:=by simp[Mo,c]
   have d:ltN x.name y.name=true:=by
    rcases B1a x.name y.name with h|h|h
    ·exact h
    ·exact absurd h.symm hh.1
    ·rw[h]at c;cases c
   rw[e];simp only[A6,Zb1,Zg2];refine⟨λz b=>?_,a⟩;rcases List.mem_cons.1 b with rfl|b
   ·exact d
   ·exact A95 d (a.1 z b)
theorem A7b:∀{l:Yb1 Idx}{x:Idx},(∀y,y∈l->ltN y.name x.name=true)->Mo l x=l++[x]
 |[],x,_=>rfl
 |y::l,x,h=>by
  have e:Mo (y::l) x=y::Mo l x:=by simp[Mo,(h y (by simp))]
  rw[e,A7b λz a=>h z (by simp[a])];rfl
theorem Xa:∀{p q:Yb1 Idx},A6 (p++q)=true->A6 p=true/\∀y z,y∈p->z∈q->ltN y.name z.name=true
 |[],_,_=>⟨rfl,λ_ _ h=>by cases h⟩
 |x::p,q,h=>by
  simp only[Zb2,A6,Zb1,Zg2,List.mem_append]at h;obtain⟨c,d⟩:=Xa h.2;refine⟨?_,λy z a b=>?_⟩
  ·simp[A6,Zg2];exact⟨λy a=>h.1 y (.inl a),c⟩
  ·rcases List.mem_cons.1 a with rfl|a
   ·exact h.1 z (.inr b)
   ·exact d y z a b
def Gg:Tbl:=⟨[],[],[],[],[]⟩
def A7f(cols:Yb1 Col)(e:Xpr):Int:=cond (decide ((Em e cols).2=0)) (cond (decide ((Em e cols).1=2)||decide ((Em e cols).1=1)) 0 151) (Em e cols).2
def Hy(cols:Yb1 Col):Yb1 Xpr->Int|[]=>0|e::l=>cond (decide (A7f cols e=0)) (Hy cols l) (A7f cols e)
def Aep(s:Stm):Bool:=decide (s.cols.length<=2000000)&&(decide (s.sets.length<=2000000)&&(decide (s.names.length<=2000000)&&(decide (s.l.length<=2000000)&&s.l.all λe=>decide (A1 e<=2000000))))
def Jj(s:Stm):Tbl×Int:=cond (decide (s.kind=1)&&Bn s) (cond (Jz ⟨s.name,s.cols,s.names,[],[]⟩ s.names) (cond (decide (Hy s.cols s.l=0)) (⟨s.name,s.cols,s.names,s.l,[]⟩,0) (Gg,Hy s.cols s.l)) (Gg,150)) (Gg,2)
def Aq5:Sig:=⟨70,[(3,.int .i64),(34,.sl .expr false),(35,.int .i64),(36,.int .i64)],[(2,.ptr 1 0),(4,.ptr 2 0)],[(1,.cells [.str,.sl .col true,.sl .str true,.sl .expr true,.sl .idx true]),(2,.cells [.str,Yk1,Yf1,.sl .expr true,.sl .idx true])],3,0,0,[],[]⟩
abbrev V1:=Int×Yb1 Xpr×Int×Int×Str×Yb1 Col×Yb1 Str×Yb1 Xpr×Yb1 Idx×Str×Yb1 Col×Yb1 Str×Yb1 Xpr×Yb1 Idx
def Vr{R:Type}(a:V1->Ya1 R)(kx:Ex->V1->Ya1 R)(v:V1):Ya1 R:=match v with
 |(v,v1,v2,v3,w,w1,w2,w3,w4,w5,w6,w7,w8,w9)=>
 cond (decide (v3<v2)) (
  chk (inb v3 v1.length) (
  let j:=λ(b:Int)=>
   cond (!decide (b=0)) (
   kx .ret (b,v1,v2,v3,[],[],[],[],[],w5,w6,w7,w8,w9)) (
   (Anj (at' .expr v1 v3)).bind λc=>
    chk (decide (w8.length+1<=Ah)) (
    a (v,v1,v2,(wr .i64 (v3+1)),w,w1,w2,w3,w4,w5,w6,w7,(w8++[c]),w9)))
  cond (decide ((Em (at' .expr v1 v3) w6).2=0)) (
   cond (!decide ((Em (at' .expr v1 v3) w6).1=2)) (
   cond (!decide ((Em (at' .expr v1 v3) w6).1=1)) (
    j 151) (
    j ((Em (at' .expr v1 v3) w6).2))) (
   j ((Em (at' .expr v1 v3) w6).2))) (
   j ((Em (at' .expr v1 v3) w6).2)))) (
  kx (.exit 0) (v,v1,v2,v3,w,w1,w2,w3,w4,w5,w6,w7,w8,w9))
def A3w(R:Type)(k:Nat):Px R:=pxO [(176,cA Abl),(179,cA A0h),(180,cA Bco)] [(177,qA Aku),(178,qA Xs),(181,qA Amr)] [(7,An k Aq5 (Vr))] []
def Aoz(k:Nat)(x:HV [Yg1]):Ya1 (HV [Yh1,Yc1]):=match x with
 |s=>
 cond (!decide (s.kind=1)) (
  some ((Tbl.mk [] [] [] [] []),2)) (
  (Aev s).bind λx=>
  cond (!decide (x=0)) (
   some ((Tbl.mk [] [] [] [] []),2)) (
   (Aoq s.cols).bind λn=>
   (Mv s.names).bind λj=>
    cond (!(Jz (Tbl.mk s.name n j [] []) j)) (
    some ((Tbl.mk [] [] [] [] []),150)) (
    Aj (λm=>Vr m (λe o=>match o with|(v4,_,_,_,v8,v9,a,b,c,d,f,g,h,i)=>match e with
     |.ret=>
     some ((Tbl.mk v8 v9 a b c),v4)
     |.exit 0=>
     some ((Tbl.mk d f g h i),0)
     |_=>none)) k (0,s.l,(s.l.length:Int),0,[],[],[],[],[],s.name,n,j,[],[]))))
theorem Bk3(k:Nat):FO 129 [Yg1] [Yh1,Yc1] (Aoz k):=fR (px:=A3w _ k) (n:=1) Tryz.func129 rfl (λcx H=>by have c:Lv cx (A3w (HV [Yh1,Yc1]) k):=lv H (c1 H Atz (c1 H Bdi (c1 H Bsw Ae))) (q1 H A1k (q1 H Aha (q1 H Blq Aa))) Ab;have a:=lO H c (b:=lp Tryz.f129 0) (k:=k) (n:=0) (s:=Aq5) (step:=Vr) (λ_ _ _ (_,_,_,_,_,_,_,_,_,_,_,_,_,_)=>by kernel_rfl) Ai;exact⟨c,(A4 Ai a)⟩) λ_=>by kernel_rfl
def A6e(s:Stm):Ya1 (Tbl×Int):=cond (Aep s) (some (Jj s)) none
def Ax8:FT [Yg1] [Yh1,Yc1]:=λx=>A6e x
theorem A8m{kx:Ex->V1->Ya1 R}{names:Yb1 Str}{l:Yb1 Xpr}{b:Ya1 R}(r:l.length<=2000000)(f:l.all (λe=>decide (A1 e<=2000000))=true)(h:∀(p:Int) (i:Nat) (acc:Yb1 Xpr),kx .ret (p,l,(l.length:Int),(i:Int),[],[],[],[],[],nm,cols,names,acc,[])=g p)(j:kx (.exit 0) (0,l,(l.length:Int),(l.length:Int),[],[],[],[],[],nm,cols,names,l,[])=b)(k:Nat)(s:l.length<k) :
  Aj (λa=>Vr a kx) k (0,l,(l.length:Int),0,[],[],[],[],[],nm,cols,names,[],[])=cond (decide (Hy cols l=0)) b (g (Hy cols l)):=by
 have m:ln l.length:=by simp[ln];omega
 refine(A3 l.length (λi=>(0,l,(l.length:Int),(i:Int),[],[],[],[],[],nm,cols,names,l.take i,[])) (λi=>cond (decide (Hy cols (l.drop i)=0)) b (g (Hy cols (l.drop i)))) (λi hi a n=>?_) (λa=>?_) k 0 (Nat.zero_le _) (by omega)).trans (by rw[Zq1])
 ·have o:l.take (i+1)=l.take i++[l[i]]:=by rw[List.take_add_one,Zo1 hi];rfl
  have d:decide ((l.take i).length+1<=Ah)=true:=Ze1 (by simp[ Ah];omega);have hc:Anj l[i]=some l[i]:=by have:=Zg2.1 f _ (List.getElem_mem hi);simp[Anj,this]
  rw[o]at n;simp only[Vr,Cs hi,Ao hi,chk,Al (c:=.expr) hi,Am hi m,h,Ak hi,Hy,A7f];by_cases q:(Em l[i] cols).2=0
  ·grind
  ·simp[q]
 ·simp only[Vr,C4,j,List.take_length];rw[Zk1 (Zn1 _)];rfl
theorem Biv{s:Stm}(h:Aep s=true):s.cols.length<=2000000/\s.sets.length<=2000000/\s.names.length<=2000000/\s.l.length<=2000000/\s.l.all (λe=>decide (A1 e<=2000000))=true:=by simp only[Aep,Zb1,Zg1]at h;exact h
theorem Bow:FO 129 [Yg1] [Yh1,Yc1] Ax8:=.fin 0 Bk3 λs r hb a=>⟨s.l.length+1,by
 simp only[Ax8,A6e]at a;cases c:Aep s with
 |false=>rw[c]at a;cases a
 |true=>
  rw[c]at a;simp only[Af,Za1]at a;rw[<-a];obtain⟨q1,d,e,f,h⟩:=Biv c;have i:Aev s=some (cond (Bn s) 0 2):=if_pos ⟨q1,d⟩;simp only[Aoz,i,Zc1,Aoq,Mv,Ze1 q1,Ze1 e,Af,Jj];cases decide (s.kind=1)with
  |false=>rfl
  |true=>
   cases Bn s with
   |false=>rfl
   |true=>
    simp only[Zt1,Ag,Af,Bool.and_self,decide_true];cases Jz ⟨s.name,s.cols,s.names,[],[]⟩ s.names with
    |false=>rfl
    |true=>simp only[Zt1,Ag,Af];refine(A8m (g:=λp=>some (Gg,p)) (b:=some (⟨s.name,s.cols,s.names,s.l,[]⟩,0)) f h (λ_ _ _=>rfl) rfl _ (by omega)).trans ?_;cases decide (Hy s.cols s.l=0)<;>rfl⟩
def Bnh(R:Type):Px R:=pxO [] [] [] []
def Ya(x:HV [Yh1]):Ya1 (HV [Yg1]):=match x with|t=>some (Stm.mk 1 t.name [] t.cols t.key t.checks [] [] false (Xpr.mk 0 ⟨0,0,[]⟩ [] []) [] [] 0)
theorem Bhz:FO 130 [Yh1] [Yg1] (Ya):=fR (px:=Bnh _) (n:=0) Tryz.func130 rfl (λ_ H=>⟨lv H Ae Aa Ab,Ai⟩) λ_=>by kernel_rfl
def Fu(t:Tbl):Stm:=(Stm.mk 1 t.name [] t.cols t.key t.checks [] [] false (Xpr.mk 0 ⟨0,0,[]⟩ [] []) [] [] 0)
theorem Bme(x:HV [Yh1]):Ya x=some (Fu x):=by
 first
  |exact rfl
  |simp only[Ya,Fu,Aw]
def Bdh:FT [Yh1] [Yg1]:=λx=>some (Fu x)
theorem Bn0:FO 130 [Yh1] [Yg1] Bdh:=.fin0 Bhz λx _ _ a=>(Bme x).trans a
def Blo(R:Type):Px R:=pxO [] [] [] []
def Ra(x:HV [Yh1,.sv .idx]):Ya1 (HV [Yg1]):=match x with|(t,x)=>some (Stm.mk 3 x.name t.name [] x.cols [] [] [] false (Xpr.mk 0 ⟨0,0,[]⟩ [] []) [] [] 0)
theorem Bad:FO 132 [Yh1,.sv .idx] [Yg1] (Ra):=fR (px:=Blo _) (n:=0) Tryz.func132 rfl (λ_ H=>⟨lv H Ae Aa Ab,Ai⟩) λ(_,_)=>by kernel_rfl
def B1(t:Tbl)(x:Idx):Stm:=(Stm.mk 3 x.name t.name [] x.cols [] [] [] false (Xpr.mk 0 ⟨0,0,[]⟩ [] []) [] [] 0)
theorem Bb6(x:HV [Yh1,.sv .idx]):Ra x=some (B1 x.1 x.2):=by
 first
  |exact rfl
  |simp only[Ra,B1,Aw]
def A44:FT [Yh1,.sv .idx] [Yg1]:=λx=>some (B1 x.1 x.2)
theorem Bmf:FO 132 [Yh1,.sv .idx] [Yg1] A44:=.fin0 Bad λx _ _ a=>(Bb6 x).trans a
def A78(R:Type):Px R:=pxO [(93,cA Zb)] [] [] []
def Qh(x:HV [.sv .idx,.str]):Ya1 (HV [Yc1]):=match x with|(x,name)=>some (Gj x.name name)
theorem A6s:FO 183 [.sv .idx,.str] [Yc1] (Qh):=fR (px:=A78 _) (n:=0) Tryz.func183 rfl (λ_ H=>⟨lv H (c1 H Ahq Ae) Aa Ab,Ai⟩) λ(_,_)=>by kernel_rfl
def Ly(x:Idx)(name:Str):Int:=(Gj x.name name)
theorem A6i(x:HV [.sv .idx,.str]):Qh x=some (Ly x.1 x.2):=by
 first
  |exact rfl
  |simp only[Qh,Ly,Aw]
def As7:FT [.sv .idx,.str] [Yc1]:=λx=>some (Ly x.1 x.2)
theorem A70:FO 183 [.sv .idx,.str] [Yc1] As7:=.fin0 A6s λx _ _ a=>(A6i x).trans a
def Aqy:Sig:=⟨49,[(0,.sl .idx false),(1,.str),(8,.int .i64),(9,.int .i64),(10,.int .i64)],[(2,.fn 183 [])],[(0,.one (.sv .tbl)),(1,.one (.sv .stmt)),(2,.one (.sv .tbl))],40,40,200,[],[]⟩
abbrev Vi:=Yb1 Idx×Str×Int×Int×Int×Tbl×Stm×Tbl
def Wu{R:Type}(a:Vi->Ya1 R)(kx:Ex->Vi->Ya1 R)(v:Vi):Ya1 R:=match v with|(v,v1,v2,v3,v4,w,w1,w2)=>cond (decide (v3<v4)) (chk (inb (wr .i64 (Ek .u64 (wr .u64 (wr .i64 (v3+v4))) 1)) v.length) (cond (decide ((Ly (at' .idx v (wr .i64 (Ek .u64 (wr .u64 (wr .i64 (v3+v4))) 1))) v1)<0)) (a (v,v1,v2,(wr .i64 ((wr .i64 (Ek .u64 (wr .u64 (wr .i64 (v3+v4))) 1))+1)),v4,w,w1,w2)) (a (v,v1,v2,v3,(wr .i64 (Ek .u64 (wr .u64 (wr .i64 (v3+v4))) 1)),w,w1,w2)))) (kx (.exit 0) (v,v1,v2,v3,v4,w,w1,w2))
def Aop(R:Type)(k:Nat):Px R:=pxO [(183,cA As7)] [] [(3,An k Aqy (Wu))] []
noncomputable def A4c(R:Type)(k:Nat):Px R:=pxO [(176,cA Abl),(179,cA A0h),(184,Ajw),(182,A0 40 200 (Aop R k) Tryz.f182)] [(178,qA Xs)] [] [(185,Ai8 .idx)]
def Al2(k:Nat)(x:HV [Yh1,Yg1]):Ya1 (HV [Yh1,Yc1]):=match x with
 |(t,s)=>
 cond (!decide (s.kind=3)) (
  some ((Tbl.mk [] [] [] [] []),2)) (
  (Aev s).bind λx=>
  cond (!decide (x=0)) (
   some ((Tbl.mk [] [] [] [] []),2)) (
   cond (!decide (s.on=t.name)) (
   some ((Tbl.mk [] [] [] [] []),2)) (
   Aj (λf=>Wu f (λe g=>match g with|(v5,v6,v7,d,_,a,b,_)=>match e with
    |.exit 0=>
    let j:=λ(c:Bool)=>
     cond (c) (
     some ((Tbl.mk [] [] [] [] []),160)) (
     cond (decide (100<=(a.idx.length:Int))) (
      some ((Tbl.mk [] [] [] [] []),3)) (
      cond (!(Jz a b.names)) (
      some ((Tbl.mk [] [] [] [] []),150)) (
      chk (decide (a.idx.length<=2000000)) (
       cond (List.isEmpty a.idx) (
       (Mv b.names).bind λh=>
        chk (decide (d=0)) (
        some ((Tbl.mk a.name a.cols a.key a.checks [(Idx.mk b.name h)]),0))) (
       (Mv b.names).bind λi=>
        chk (decide ((0:Int)=0)&&decide ((0:Int)<(a.idx.length:Int))&&decide ((a.idx.length:Int)=(a.idx.length:Int))&&decide ((0:Int)<=d)&&decide (d<=(a.idx.length:Int))&&decide ((a.idx.length:Int)<=(2000000:Int))) (
        some ((Tbl.mk a.name a.cols a.key a.checks (List.take (d:Int).toNat a.idx++(Idx.mk b.name i)::List.drop (d:Int).toNat a.idx)),0)))))))
    cond (decide (d<v7)) (
     chk (inb d v5.length) (
     j (decide ((Ly (at' .idx v5 d) v6)=0)))) (
     j false)
    |_=>none)) k (t.idx,s.name,(t.idx.length:Int),0,(t.idx.length:Int),t,s,(Tbl.mk [] [] [] [] [])))))
theorem Bix(k:Nat):FO 131 [Yh1,Yg1] [Yh1,Yc1] (Al2 k):=fR (px:=A4c _ k) (n:=0) Tryz.func131 rfl (λcx H=>by have c:Lv cx (Aop (HV [Yh1,Yc1]) k):=lv H (c1 H A70 Ae) Aa Ab;have a:=lO H c (b:=lp Tryz.f182 0) (k:=k) (n:=0) (s:=Aqy) (step:=Wu) (λ_ _ _ (_,_,_,_,_,_,_,_)=>by kernel_rfl) Ai;have d:Lv cx (A4c (HV [Yh1,Yc1]) k):=lv H (c1 H Atz (c1 H Bdi (As (B6s H B2e) (As (cR H c Tryz.func182 rfl (n:=1) (A4 Ai a)) Ae)))) (q1 H Aha Aa) (Avx (B6z H A13 Azs) Ab);exact⟨d,Ai⟩) λ(_,_)=>by kernel_rfl
def A5s(t:Tbl)(s:Stm):Tbl×Int:=cond (decide (s.kind=3)&&(Bn s&&decide (s.on=t.name))) (cond (Qy t.idx s.name) (Gg,160) (cond (decide (100<=t.idx.length)) (Gg,3) (cond (Jz t s.names) ({ t with idx:=Mo t.idx ⟨s.name,s.names⟩ },0) (Gg,150)))) (Gg,2)
def Aq4(t:Tbl)(s:Stm):Bool:=decide (s.cols.length<=2000000)&&(decide (s.sets.length<=2000000)&&(decide (s.names.length<=2000000)&&(decide (t.idx.length<=2000000)&&A6 t.idx)))
def A35(t:Tbl)(s:Stm):Ya1 (Tbl×Int):=cond (Aq4 t s) (some (A5s t s)) none
def A0e:FT [Yh1,Yg1] [Yh1,Yc1]:=λx=>A35 x.1 x.2
theorem B6k{n:Nat}(h:n<=4000000):wr .u64 (n:Int)=(n:Int):=by
 have e:wr .u64 (n:Int)=(n:Int) % 18446744073709551616:=by simp[wr,IntKind.wrap,IntKind.bits,IntKind.signed]
 omega
theorem B3j{a:Int}:Ek .u64 a 1=a / 2:=by show a.fdiv (2 ^ min (1:Int).toNat IntKind.u64.bits)=_;rw[show(2:Int) ^ min (1:Int).toNat IntKind.u64.bits=2 from by decide];exact Int.fdiv_eq_ediv_of_nonneg _ (by omega)
theorem Bx6{a b:Nat}(h:a+b<=4000000):wr .i64 (Ek .u64 (wr .u64 (wr .i64 ((a:Int)+(b:Int)))) 1)=(((a+b) / 2:Nat):Int):=by rw[show(a:Int)+(b:Int)=((a+b:Nat):Int) by omega,Boo (by simp[ln];omega),B6k h,B3j,show((a+b:Nat):Int) / 2=(((a+b) / 2:Nat):Int) by omega,Boo (by simp[ln];omega)]
theorem Zh{R:Type}{kx:Ex->Vi->Ya1 R}{l:Yb1 Idx}{nm:Str}{t t2:Tbl}{s:Stm}{c:Ya1 R}(a:A6 l=true)(e:l.length<=2000000)(b:kx (.exit 0) (l,nm,(l.length:Int),(Fv l nm:Int),(Fv l nm:Int),t,s,t2)=c):∀(k lo hi:Nat),lo<=Fv l nm->Fv l nm<=hi->hi<=l.length->hi-lo<k ->
  Aj (λd=>Wu d kx) k (l,nm,(l.length:Int),(lo:Int),(hi:Int),t,s,t2)=c
 |0,lo,hi,_,_,_,h=>by omega
 |k+1,lo,hi,h3,h4,h5,h=>by
  rw[Au];by_cases f:lo<hi
  ·have hm:(lo+hi) / 2<l.length:=by omega
   have g:=Abd (s:=nm) a _ hm;have hb:decide (Ly l[(lo+hi) / 2] nm<0)=decide ((lo+hi) / 2<Fv l nm):=g;have i:=Zh a e b k ((lo+hi) / 2+1) hi;have j:=Zh a e b k lo ((lo+hi) / 2);simp only[Wu,Bx6 (show lo+hi<=4000000 by omega),Ao hm,chk,Al (c:=.idx) hm,Am hm (show ln l.length by simp[ln];omega)];by_cases n:(lo+hi) / 2<Fv l nm
   ·grind
   ·grind
  ·have m:lo=Fv l nm:=by omega
   have e2:hi=Fv l nm:=by omega
   simp only[Wu,Zd1 (show ¬(lo:Int)<(hi:Int) by omega)];rw[m,e2];exact b
theorem Bsr{l:Yb1 Idx}(b:A6 l=true){A B:Ya1 R}:(cond (decide ((Fv l nm:Int)<(l.length:Int))) (chk (inb (Fv l nm:Int) l.length) (cond (decide (Ly (at' .idx l (Fv l nm:Int)) nm=0)) A B)) B)=cond (Qy l nm) A B:=by
 by_cases a:Fv l nm<l.length
 ·rw[Ze1 (show(Fv l nm:Int)<(l.length:Int) by omega)];simp[ Ao a,chk,Al (c:=.idx) a];have e:decide (Ly l[Fv l nm] nm=0)=Qy l nm:=by
   rw[Bool.eq_iff_iff,Bgc b,Zg1];constructor
   ·intro h;exact⟨a,(scmp_lin.eq _ _).1 h⟩
   ·rintro⟨_,h⟩;exact(scmp_lin.eq _ _).2 h
  rw[e]
 ·rw[Zd1 (show ¬(Fv l nm:Int)<(l.length:Int) by omega)];have e:Qy l nm=false:=by cases h:Qy l nm with|false=>rfl|true=>exact absurd ((Bgc b).1 h).1 a
  rw[e];rfl
theorem Bib{s:Stm}(h:Aq4 t s=true):s.cols.length<=2000000/\s.sets.length<=2000000/\s.names.length<=2000000/\t.idx.length<=2000000/\A6 t.idx=true:=by simp[Aq4]at h;exact h
theorem Bv0:FO 131 [Yh1,Yg1] [Yh1,Yc1] A0e:=.fin 0 Bix λ(t,s) r hb b=>⟨t.idx.length+1,by
 simp only[A0e,A35]at b;cases e:Aq4 t s with
 |false=>rw[e]at b;cases b
 |true=>
  rw[e]at b;simp only[Af,Za1]at b;rw[<-b];obtain⟨q1,k,m,h,i⟩:=Bib e;have n:Aev s=some (cond (Bn s) 0 2):=if_pos ⟨q1,k⟩;simp only[Al2,n,Zc1,Mv,A5s];cases decide (s.kind=3)with
  |false=>rfl
  |true=>
   cases Bn s with
   |false=>rfl
   |true=>
    cases decide (s.on=t.name)with
    |false=>rfl
    |true=>
     simp only[Zt1,Ag,Af,Bool.and_self,decide_true];refine(Zh (c:=some (cond (Qy t.idx s.name) (Gg,160) (cond (decide (100<=t.idx.length)) (Gg,3) (cond (Jz t s.names) ({ t with idx:=Mo t.idx ⟨s.name,s.names⟩ },0) (Gg,150))))) i h ?_ _ 0 t.idx.length (Nat.zero_le _) (Bfh _ _) (Zn1 _) (by omega)).trans rfl;have hle:=Bfh t.idx s.name;simp only;rw[Bsr i];cases Qy t.idx s.name with
     |true=>rfl
     |false=>
      have d:decide ((100:Int)<=(t.idx.length:Int))=decide (100<=t.idx.length):=Zy1.2 (by omega);simp only[Ag,d];cases decide (100<=t.idx.length)with
      |true=>rfl
      |false=>
       simp only[Ag];cases Jz t s.names with
       |false=>rfl
       |true=>
        simp only[Zt1,Ag,Af,chk,Ze1 h];simp only[Ze1 m,Af,Zc1];cases f:t.idx.isEmpty with
        |true=>have g:t.idx=[]:=List.isEmpty_iff.1 f;simp only[Af,g];rfl
        |false=>
         have j : 0<t.idx.length:=by cases g:t.idx with|nil=>rw[g]at f;cases f|cons x l=>simp only[Zf1];omega
         simp only[Ag,Ak3,Int.toNat_natCast];have a:decide ((0:Int)<(t.idx.length:Int))=true/\decide ((0:Int)<=(Fv t.idx s.name:Int))=true/\decide ((Fv t.idx s.name:Int)<=(t.idx.length:Int))=true/\decide ((t.idx.length:Int)<=2000000)=true:=by simp only[Zg1];omega
         simp only[a.1,a.2.1,a.2.2.1,a.2.2.2,Bool.and_self,Af]⟩
def Xc:Sig:=⟨58,[(3,.bool),(39,.sl .idx false),(40,.int .i64),(41,.int .i64)],[(1,.ptr 0 0),(2,.ptr 1 0),(4,.ptr 2 0)],[(0,.one (.sv .tbl)),(1,.one (.sv .tbl)),(2,.one (.sv .tbl))],3,0,0,[],[]⟩
abbrev J2:=Bool×Yb1 Idx×Int×Int×Tbl×Tbl×Tbl
def Ie{R:Type}(e:J2->Ya1 R)(kx:Ex->J2->Ya1 R)(v:J2):Ya1 R:=match v with|(d,b,c,a,w3,w4,w5)=>cond (decide (a<c)) (chk (inb a b.length) (chk (inb a w3.idx.length) (cond (!decide (((at' .idx b a).name)=((at' .idx w3.idx a).name))) (kx .ret (false,b,c,a,w3,(Tbl.mk [] [] [] [] []),w5)) (e (d,b,c,(wr .i64 (a+1)),w3,w4,w5))))) (kx (.exit 2) (d,b,c,a,w3,w4,w5))
def W8:Sig:=⟨58,[(3,.bool),(20,.sl .idx false),(21,.int .i64),(22,.int .i64)],[(1,.ptr 0 0),(2,.ptr 1 0),(4,.ptr 2 0)],[(0,.one (.sv .tbl)),(1,.one (.sv .tbl)),(2,.one (.sv .tbl))],3,0,0,[],[]⟩
abbrev Jv:=Bool×Yb1 Idx×Int×Int×Tbl×Tbl×Tbl
def Im{R:Type}(a:Jv->Ya1 R)(kx:Ex->Jv->Ya1 R)(v:Jv):Ya1 R:=match v with|(v,v1,v2,v3,w,w1,w2)=>cond (decide (v3<v2)) (chk (inb v3 v1.length) ((A35 w2 (B1 w (at' .idx v1 v3))).bind λ(b,c)=>cond (!decide (c=0)) (kx .ret (false,v1,v2,v3,w,(Tbl.mk [] [] [] [] []),b)) (a (v,v1,v2,(wr .i64 (v3+1)),w,w1,b)))) (kx (.exit 0) (v,v1,v2,v3,w,w1,w2))
def Agu(R:Type)(k:Nat):Px R:=pxO [(130,cA Bdh),(129,cA Ax8)] [(132,qA A44),(131,qA A0e)] [(5,An k W8 (Im)),(12,An k Xc (Ie))] []
def Xj(k:Nat)(x:HV [Yh1]):Ya1 (HV [Yh1,.bool]):=match x with
 |t=>
 (A6e (Fu t)).bind λ(x,h)=>
  cond (!decide (h=0)) (
  some ((Tbl.mk [] [] [] [] []),false)) (
  Aj (λf=>Im f (λe g=>match g with|(v4,_,_,_,v8,v9,a)=>match e with
   |.ret=>
   some (v9,v4)
   |.exit 0=>
   Aj (λf=>Ie f (λe g=>match g with|(b,_,_,_,_,c,d)=>match e with
    |.ret=>
    some (c,b)
    |.exit 2=>
    some (d,true)
    |_=>none)) k (v4,a.idx,(a.idx.length:Int),0,v8,v9,a)
   |_=>none)) k (false,t.idx,(t.idx.length:Int),0,t,(Tbl.mk [] [] [] [] []),x))
theorem Azj(k:Nat):FO 86 [Yh1] [Yh1,.bool] (Xj k):=fR (px:=Agu _ k) (n:=2) Tryz.func86 rfl (λcx H=>by have d:Lv cx (Agu (HV [Yh1,.bool]) k):=lv H (c1 H Bn0 (c1 H Bow Ae)) (q1 H Bmf (q1 H Bv0 Aa)) Ab;have a:=lO H d (b:=lp Tryz.f86 0) (k:=k) (n:=0) (s:=W8) (step:=Im) (λ_ _ _ (_,_,_,_,_,_,_)=>by kernel_rfl) Ai;have c:=lO H d (b:=lp Tryz.f86 1) (k:=k) (n:=0) (s:=Xc) (step:=Ie) (λ_ _ _ (_,_,_,_,_,_,_)=>by kernel_rfl) Ai;exact⟨d,(A4 (A4 Ai a) c)⟩) λ_=>by kernel_rfl
def Jf(t:Tbl)(x:Idx):Bool:=Bn (B1 t x)&&Jz t x.cols
def ixs(t:Tbl):Yb1 Idx->Yb1 Idx->Ya1 (Yb1 Idx)|acc,[]=>some acc|acc,x::l=>cond (Jf t x&&(!Qy acc x.name&&decide (acc.length<100))) (ixs t (Mo acc x) l) none
def Ee(t:Tbl):Bool:=decide ((Jj (Fu t)).2=0)&&(A6 t.idx&&(decide (t.idx.length<=100)&&t.idx.all (Jf t)))
def Fo(t:Tbl):Bool:=Aep (Fu t)&&(decide (t.idx.length<=2000000)&&t.idx.all λx=>decide (x.cols.length<=2000000))
def Abo(t:Tbl):Ya1 (Tbl×Bool):=cond (Fo t) (some (cond (Ee t) (t,true) (Gg,false))) none
def Aad:FT [Yh1] [Yh1,.bool]:=λx=>Abo x
theorem Bzl{acc:Yb1 Idx}:A5s { t with idx:=acc } (B1 t x)=cond (Bn (B1 t x)) (cond (Qy acc x.name) (Gg,160) (cond (decide (100<=acc.length)) (Gg,3) (cond (Jz t x.cols) ({ t with idx:=Mo acc x },0) (Gg,150)))) (Gg,2):=by simp[A5s,B1];rfl
theorem A4m{t:Tbl}:∀{l acc a:Yb1 Idx},A6 acc=true->ixs t acc l=some a->A6 a=true/\(∀y,y∈a↔y∈acc\/y∈l)/\a.length=acc.length+l.length/\l.all (Jf t)=true/\(acc.length<=100->a.length<=100)
 |[],acc,a,hs,h=>by simp[ixs]at h;subst h;exact⟨hs,by simp,by simp,rfl,id⟩
 |x::l,acc,a,hs,h=>by
  simp[ixs]at h;cases hc:Jf t x&&(!Qy acc x.name&&decide (acc.length<100))with
  |false=>rw[hc]at h;cases h
  |true=>
   rw[hc]at h;simp at h;simp at hc;obtain⟨c,d,e,f,b⟩:=A4m (Xy hs hc.2.1) h;rw[Bcm]at e b;refine⟨c,λy=>?_,by simp;omega,by simp[f,hc.1],λ_=>b (by omega)⟩;rw[d,Be8,List.mem_cons];constructor
   ·grind
   ·grind
theorem A0w{t:Tbl}:∀{q p:Yb1 Idx},A6 (p++q)=true->(p++q).length<=100->q.all (Jf t)=true->ixs t p q=some (p++q)
 |[],p,_,_,_=>by simp[ixs]
 |x::q,p,hs,hn,hk=>by
  simp only[Zv1,Zb1]at hk;have a:=(Xa hs).2;have c:Qy p x.name=false:=by cases h:Qy p x.name with|false=>rfl|true=>obtain⟨y,b,e⟩:=Bca.1 h;exact absurd e (Azt (a y x b (by simp)))
  have d:decide (p.length<100)=true:=Ze1 (by simp at hn;omega);have f:Mo p x=p++[x]:=A7b λy b=>a y x b (by simp);simp[ixs,hk.1,c,d,f];rw[A0w (by simpa using hs) (by simpa using hn) hk.2];simp
def Ait:Yb1 Idx->Yb1 Idx->Bool|x::a,y::b=>decide (x.name=y.name)&&Ait a b|_,_=>true
theorem A33:∀{a b:Yb1 Idx},Ait a b=true->∀(i:Nat) (hi:i<a.length) (c:i<b.length),a[i].name=b[i].name
 |[],_,_,i,hi,_=>by simp at hi
 |_::_,[],_,i,_,c=>by simp at c
 |x::a,y::b,h,i,hi,c=>by simp[Ait]at h;cases i with|zero=>exact h.1|succ i=>exact A33 h.2 i (by simpa using hi) (by simpa using c)
theorem Axd:∀a:Yb1 Idx,Ait a a=true
 |[]=>rfl
 |x::a=>by simp[Ait,Axd a]
theorem Bhu{l:Yb1 Idx}(a:A6 l=true)(c:x∈l)(d:y∈l)(e:x.name=y.name):x=y:=by
 obtain⟨i,hi,rfl⟩:=List.getElem_of_mem c;obtain⟨j,b,rfl⟩:=List.getElem_of_mem d;rcases Nat.lt_trichotomy i j with h|h|h
 ·exact absurd e (Azt (Qc a i j hi b h))
 ·subst h;rfl
 ·exact absurd e.symm (Azt (Qc a j i b hi h))
theorem Bxt{a b:Yb1 Idx}(d:A6 a=true)(hm:∀y,y∈a↔y∈b)(e:a.length=b.length)(h:Ait a b=true):a=b:=List.ext_getElem e λi hi c=>Bhu d (List.getElem_mem hi) ((hm _).2 (List.getElem_mem c)) (A33 h i hi c)
theorem B2w{g:Yb1 Idx->R}{c:R}:(match ixs t [] t.idx with|some a=>cond (Ait a t.idx) (g a) c|none=>c)=cond (A6 t.idx&&(decide (t.idx.length<=100)&&t.idx.all (Jf t))) (g t.idx) c:=by
 cases b:ixs t [] t.idx with
 |none=>cases hc:A6 t.idx&&(decide (t.idx.length<=100)&&t.idx.all (Jf t))with|false=>rfl|true=>simp only[Zb1]at hc;rw[A0w (p:=[]) (by simpa using hc.1) (by simpa using hc.2.1) hc.2.2]at b;cases b
 |some a=>
  obtain⟨f,i,j,h,k⟩:=A4m (by rfl) b;simp only;cases d:Ait a t.idx with
  |true=>have e:=Bxt f (λy=>by rw[i];simp) (by simpa using j) d;rw[<-e,f];rw[<-e]at h;rw[h,Ze1 (k (by simp))];rfl
  |false=>cases hc:A6 t.idx&&(decide (t.idx.length<=100)&&t.idx.all (Jf t))with|false=>rfl|true=>simp only[Zb1]at hc;rw[A0w (p:=[]) (by simpa using hc.1) (by simpa using hc.2.1) hc.2.2]at b;cases b;rw[Zf2,Axd]at d;cases d
theorem Aei(h:Fo t=true):Aep (Fu t)=true/\t.idx.length<=2000000/\∀x,x∈t.idx->x.cols.length<=2000000:=by simp[Fo]at h;exact h
theorem A1l{kx:Ex->Jv->Ya1 R}{g:Yb1 Idx->Ya1 R}{c:Ya1 R}(l:Fo t=true)(e:∀i p,kx .ret (false,t.idx,(t.idx.length:Int),i,t,Gg,p)=c)(j:∀a:Yb1 Idx,a.length=t.idx.length->kx (.exit 0) (false,t.idx,(t.idx.length:Int),(t.idx.length:Int),t,Gg,{ t with idx:=a })=g a)(k:Nat)(r:t.idx.length<k) :
  Aj (λd=>Im d kx) k (false,t.idx,(t.idx.length:Int),0,t,Gg,{ t with idx:=[] })=(match ixs t [] t.idx with|some a=>g a|none=>c):=by
 obtain⟨_,s,h⟩:=Aei l;have m:ln t.idx.length:=by simp[ln];omega
 refine(Cb t.idx.length (λi (acc:Yb1 Idx)=>(false,t.idx,(t.idx.length:Int),(i:Int),t,Gg,{ t with idx:=acc })) (λi acc=>A6 acc=true/\acc.length=i) (λi acc=>(match ixs t acc (t.idx.drop i)with|some a=>g a|none=>c)) (λi hi acc f d n=>?_) (λacc f d=>?_) k 0 [] (Nat.zero_le _) (by omega) ⟨rfl,rfl⟩).trans (by rw[Zq1])
 ·have o:A35 { t with idx:=acc } (B1 t t.idx[i])=some (A5s { t with idx:=acc } (B1 t t.idx[i])):=by
   have:Aq4 { t with idx:=acc } (B1 t t.idx[i])=true:=by have e:=h _ (List.getElem_mem hi);have j:=f.2;show(decide ((0:Nat)<=2000000)&&(decide ((0:Nat)<=2000000)&&(decide (t.idx[i].cols.length<=2000000)&&(decide (acc.length<=2000000)&&A6 acc))))=true;rw[Ze1 e,Ze1 (show acc.length<=2000000 by omega),f.1];rfl
   rw[A35,this];rfl
  simp only[Im,Cs hi,Ao hi,Al (c:=.idx) hi,o,Bzl,Am hi m,Ak hi,ixs,Jf];cases Bn (B1 t t.idx[i])with
  |false=>exact e _ _
  |true=>
   simp;cases q:Qy acc t.idx[i].name with
   |true=>simp;exact e _ _
   |false=>
    simp;by_cases b:acc.length<100
    ·rw[Ze1 b,Zd1 (show ¬ 100<=acc.length by omega)];simp;cases Jz t t.idx[i].cols with|false=>exact e _ _|true=>simp;exact n _ ⟨Xy f.1 q,by rw[Bcm,f.2]⟩
    ·rw[Zd1 b,Ze1 (show 100<=acc.length by omega)];simp;exact e _ _
 ·simp only[Im,C4,j acc f.2];rw[Zk1 (Zn1 _)];rfl
theorem A1j{kx:Ex->J2->Ya1 R}{a:Yb1 Idx}{b c:Ya1 R}(f:Fo t=true)(n:a.length=t.idx.length)(g:∀i,kx .ret (false,a,(a.length:Int),i,t,Gg,{ t with idx:=a })=c)(h:kx (.exit 2) (false,a,(a.length:Int),(a.length:Int),t,Gg,{ t with idx:=a })=b)(k:Nat)(o:t.idx.length<k) :
  Aj (λd=>Ie d kx) k (false,a,(a.length:Int),0,t,Gg,{ t with idx:=a })=cond (Ait a t.idx) b c:=by
 obtain⟨_,p,j⟩:=Aei f;have l:ln a.length:=by simp[ln];omega
 refine(A3 a.length (λi=>(false,a,(a.length:Int),(i:Int),t,Gg,{ t with idx:=a })) (λi=>cond (Ait (a.drop i) (t.idx.drop i)) b c) (λi hi d m=>?_) (λd=>?_) k 0 (Nat.zero_le _) (by omega)).trans (by rw[Zq1,Zq1])
 ·have e:i<t.idx.length:=by omega
  simp only[Ie,Cs hi,Ao hi,Ao e,Al (c:=.idx) hi,Al (c:=.idx) e,Am hi l,Ak hi,Ak e,Ait,m];cases decide (a[i].name=t.idx[i].name)with|false=>exact g _|true=>rfl
 ·simp only[Ie,C4,h];rw[Zk1 (Zn1 _)];rfl
theorem Bku(h:(Jj (Fu t)).2=0):Jj (Fu t)=({ t with idx:=[] },0):=by
 simp[Jj]at h ⊢;generalize (decide ((Fu t).kind=1)&&Bn (Fu t))=b1 at h ⊢;generalize Jz ⟨(Fu t).name,(Fu t).cols,(Fu t).names,[],[]⟩ (Fu t).names=b2 at h ⊢;cases b1 with
 |false=>simp at h
 |true=>
  cases b2 with
  |false=>simp at h
  |true=>
   by_cases hc:Hy (Fu t).cols (Fu t).l=0
   ·simp only[hc];rfl
   ·simp[hc]at h
theorem A4r:FO 86 [Yh1] [Yh1,.bool] Aad:=.fin 0 Azj λt r hb b=>⟨t.idx.length+1,by
 simp only[Aad,Abo]at b;cases d:Fo t with
 |false=>rw[d]at b;cases b
 |true=>
  rw[d]at b;simp only[Af,Za1]at b;rw[<-b];obtain⟨q1,i,j⟩:=Aei d;have f:A6e (Fu t)=some (Jj (Fu t)):=by rw[A6e,q1];rfl
  simp only[Xj,f,Zc1,Ee];by_cases e:(Jj (Fu t)).2=0
  ·simp only[Bku e,decide_true,Zt1,Ag,Bool.true_and];refine(A1l (c:=some (Gg,false)) (g:=λa=>cond (Ait a t.idx) (some ({ t with idx:=a },true)) (some (Gg,false))) d (λ_ _=>rfl) (λa h=>?_) _ (by omega)).trans ?_
   ·exact A1j d h (λ_=>rfl) rfl _ (by omega)
   ·rw[B2w (g:=λa=>some (({ t with idx:=a }:Tbl),true)),Aw]
  ·simp only[Zd1 e,Zs1,Af,Bool.false_and,Ag];rfl⟩
def Bi4(R:Type):Px R:=pxO [(86,cA Aad)] [] [] []
def Aim(x:HV [Yh1]):Ya1 (HV [Yc1]):=match x with|t=>(Abo t).bind λ(_,a)=>cond (!a) (some 2) (some 0)
theorem A8r:FO 52 [Yh1] [Yc1] (Aim):=fR (px:=Bi4 _) (n:=0) Tryz.func52 rfl (λ_ H=>⟨lv H (c1 H A4r Ae) Aa Ab,Ai⟩) λ_=>by kernel_rfl
def Gu(t:Tbl):Ya1 Int:=cond (Fo t) (some (cond (Ee t) 0 2)) none
def Mw:FT [Yh1] [Yc1]:=λx=>Gu x
theorem T7:FO 52 [Yh1] [Yc1] Mw:=.fin0 A8r λt r hb a=>by simp only[Mw,Gu]at a;rw[<-a];simp only[Aim,Abo];cases Fo t with|false=>rfl|true=>cases Ee t<;>rfl
def Au8:Sig:=⟨19,[(0,.int .u64),(3,.sl .byte true)],[],[],0,0,0,[],[]⟩
abbrev Aat:=Int×Yb1 UInt8
def Xw{R:Type}(a:Aat->Ya1 R)(kx:Ex->Aat->Ya1 R)(v:Aat):Ya1 R:=match v with|(v,v1)=>cond (decide (128<=v)) (chk (decide (v1.length+1<=Ah)) (a ((Ek .u64 v 7),(v1++[(UInt8.ofNat ((ior .u8 (wr .u8 v) 128):Int).toNat)])))) (kx (.exit 0) (v,v1))
def Be1(R:Type)(k:Nat):Px R:=pxO [] [] [(2,An k Au8 (Xw))] []
def Awl(k:Nat)(x:HV [.int .u64]):Ya1 (HV [.sl .byte true]):=match x with
 |n=>
 Aj (λa=>Xw a (λe b=>match b with|(v2,v3)=>match e with
  |.exit 0=>
  chk (decide (v3.length+1<=Ah)) (
   some (v3++[(UInt8.ofNat ((wr .u8 v2):Int).toNat)]))
  |_=>none)) k (n,[])
theorem Br4(k:Nat):FO 94 [.int .u64] [.sl .byte true] (Awl k):=fR (px:=Be1 _ k) (n:=1) Tryz.func94 rfl (λcx H=>by have c:Lv cx (Be1 (HV [.sl .byte true]) k):=lv H Ae Aa Ab;have a:=lO H c (b:=lp Tryz.f94 0) (k:=k) (n:=0) (s:=Au8) (step:=Xw) (λ_ _ _ (_,_)=>by kernel_rfl) Ai;exact⟨c,(A4 Ai a)⟩) λ_=>by kernel_rfl
def Bl1(n:Int):Ya1 Str:=Awl 100 n
def A04:FT [.int .u64] [.sl .byte true]:=λx=>Bl1 x
theorem Axz:FO 94 [.int .u64] [.sl .byte true] A04:=.fin 0 Br4 λ_ _ _ a=>⟨100,a⟩
def Bm5(R:Type):Px R:=pxO [(94,cA A04)] [] [] []
def Yw(x:HV [Yl1]):Ya1 (HV [.sl .byte true]):=match x with|s=>(Bl1 (wr .u64 (s.length:Int))).bind λx=>chk (decide (x.length+s.length<=Ah)) (some (x++s))
theorem Bi9:FO 96 [Yl1] [.sl .byte true] (Yw):=fR (px:=Bm5 _) (n:=0) Tryz.func96 rfl (λ_ H=>⟨lv H (c1 H Axz Ae) Aa Ab,Ai⟩) λ_=>by kernel_rfl
def Bgr(s:Str):Ya1 Str:=Yw s
def Bd2:FT [Yl1] [.sl .byte true]:=λx=>Bgr x
theorem Btb:FO 96 [Yl1] [.sl .byte true] Bd2:=.fin0 Bi9 λ_ _ _ a=>a
def Br7(R:Type):Px R:=pxO [(89,cA Ax1),(53,cA Vj),(90,cA Ayl),(91,cA Bfv)] [] [] []
def Zz(x:HV [Yd1,Yk1,Yj1]):Ya1 (HV [Yi1,Yc1]):=match x with|(e,cols,row)=>cond (!decide ((Ew e)=0)) (some ((Val.mk 0 0 []),2)) (cond (!(Gb cols row)) (some ((Val.mk 0 0 []),2)) (cond (!decide ((Bd e cols).2=0)) (some ((Val.mk 0 0 []),(Bd e cols).2)) ((R3 e cols row).bind λ(x,a)=>some (x,a))))
theorem Bkg:FO 55 [Yd1,Yk1,Yj1] [Yi1,Yc1] (Zz):=fR (px:=Br7 _) (n:=0) Tryz.func55 rfl (λ_ H=>⟨lv H (c1 H A29 (c1 H Aoj (c1 H A4b (c1 H Bpb Ae)))) Aa Ab,Ai⟩) λ(_,_,_)=>by kernel_rfl
def Bcv(e:Xpr)(cols:Yb1 Col)(row:Yb1 Val):Ya1 (Val×Int):=Zz (e,cols,row)
def Bgf:FT [Yd1,Yk1,Yj1] [Yi1,Yc1]:=λx=>Bcv x.1 x.2.1 x.2.2
theorem Bty:FO 55 [Yd1,Yk1,Yj1] [Yi1,Yc1] Bgf:=.fin0 Bkg λ_ _ _ a=>a
def Apy:Sig:=⟨73,[(1,.sl .val false),(4,.int .i64),(49,.sl .expr false),(50,.int .i64),(51,.int .i64)],[(2,.ptr 0 0)],[(0,.one (.sv .tbl))],1,0,0,[],[]⟩
abbrev Vv:=Yb1 Val×Int×Yb1 Xpr×Int×Int×Tbl
def Wr{R:Type}(f:Vv->Ya1 R)(kx:Ex->Vv->Ya1 R)(v:Vv):Ya1 R:=match v with|(c,e,b,d,a,w2)=>cond (decide (a<d)) (chk (inb a b.length) ((Bcv (at' .expr b a) w2.cols c).bind λ(h,g)=>cond (!decide (g=0)) (kx .ret (c,g,b,d,a,w2)) (cond (decide ((Gs h (Val.mk 2 0 []))=0)) (kx .ret (c,162,b,d,a,w2)) (f (c,e,b,d,(wr .i64 (a+1)),w2))))) (kx (.exit 2) (c,e,b,d,a,w2))
def Ap3:Sig:=⟨19,[(0,.sl .str false),(1,.str),(4,.int .i64),(7,.int .i64),(8,.int .i64)],[],[(0,.one (.sv .tbl))],80,80,400,[],[]⟩
abbrev Wp:=Yb1 Str×Str×Int×Int×Int×Tbl
def Vf{R:Type}(a:Wp->Ya1 R)(kx:Ex->Wp->Ya1 R)(v:Wp):Ya1 R:=match v with|(v5,v6,v7,v8,v9,w1)=>cond (decide (v9<v8)) (chk (inb v9 v5.length) (cond (decide (v6=(at' .str v5 v9))) (kx .ret (v5,v6,v9,v8,v9,w1)) (a (v5,v6,v7,v8,(wr .i64 (v9+1)),w1)))) (kx (.exit 0) (v5,v6,v7,v8,v9,w1))
def Aq3:Sig:=⟨73,[(1,.sl .val false),(4,.int .i64),(23,.sl .col false),(24,.int .i64),(25,.int .i64)],[(2,.ptr 0 0)],[(0,.one (.sv .tbl))],1,0,0,[],[]⟩
abbrev U3:=Yb1 Val×Int×Yb1 Col×Int×Int×Tbl
def V6{R:Type}(k:Nat)(c:U3->Ya1 R)(kx:Ex->U3->Ya1 R)(v:U3):Ya1 R:=match v with
 |(v,v1,v2,v3,v4,w)=>
 cond (decide (v4<v3)) (
  chk (inb v4 v2.length) (
  chk (inb v4 v.length) (
   cond (decide ((at' .val v v4).kind=1)) (
   cond ((at' .col v2 v4).notNull) (
    kx .ret (v,161,v2,v3,v4,w)) (
    Aj (λrc=>Vf rc (λe d=>match d with|(_,_,b,_,_,a)=>match e with
    |.ret=>
     cond (decide (0<=b)) (
     kx .ret (v,161,v2,v3,v4,a)) (
     c (v,v1,v2,v3,(wr .i64 (v4+1)),a))
    |.exit 0=>c (v,v1,v2,v3,(wr .i64 (v4+1)),a)
    |_=>none)) k (w.key,(at' .col v2 v4).name,0,(w.key.length:Int),0,w))) (
   c (v,v1,v2,v3,(wr .i64 (v4+1)),w))))) (
  kx (.exit 0) (v,v1,v2,v3,v4,w))
def Ack(R:Type)(k:Nat):Px R:=pxO [] [] [(2,An k Ap3 (Vf))] []
noncomputable def Ann(R:Type)(k:Nat):Px R:=pxO [(88,A0 80 400 (Ack R k) Tryz.f88)] [] [] []
noncomputable def A3r(R:Type)(k:Nat):Px R:=pxO [(52,cA Mw),(53,cA Vj),(55,cA Bgf),(56,cA Baw),(54,A0 40 200 (Ann R k) Tryz.f54)] [] [(7,An k Aq3 (V6 k)),(13,An k Apy (Wr))] []
def I0(k:Nat)(x:HV [Yh1,Yj1]):Ya1 (HV [Yc1]):=match x with
 |(t,row)=>
 (Gu t).bind λx=>
  cond (!decide (x=0)) (
  some x) (
  cond (!(Gb t.cols row)) (
   some 151) (
   Aj (λf=>V6 k f (λe g=>match g with|(c,b,_,_,_,a)=>match e with
   |.ret=>some b
   |.exit 0=>
    Aj (λf=>Wr f (λe g=>match g with|(_,d,_,_,_,_)=>match e with
    |.ret=>some d
    |.exit 2=>some 0
    |_=>none)) k (c,b,a.checks,(a.checks.length:Int),0,a)
   |_=>none)) k (row,0,t.cols,(t.cols.length:Int),0,t)))
theorem Bjb(k:Nat):FO 25 [Yh1,Yj1] [Yc1] (I0 k):=fR (px:=A3r _ k) (n:=2) Tryz.func25 rfl (λcx H=>by have f:Lv cx (Ack (HV [Yc1]) k):=lv H Ae Aa Ab;have a:=lO H f (b:=lp Tryz.f88 0) (k:=k) (n:=0) (s:=Ap3) (step:=Vf) (λ_ _ _ (_,_,_,_,_,_)=>by kernel_rfl) Ai;have g:Lv cx (Ann (HV [Yc1]) k):=lv H (As (cR H f Tryz.func88 rfl (n:=1) (A4 Ai a)) Ae) Aa Ab;have e:Lv cx (A3r (HV [Yc1]) k):=lv H (c1 H T7 (c1 H Aoj (c1 H Bty (c1 H Bet (As (cR H g Tryz.func54 rfl (n:=0) (Ai)) Ae))))) Aa Ab;have c:=lO H e (b:=lp Tryz.f25 0) (k:=k) (n:=0) (s:=Aq3) (step:=V6 k) (λ_ _ _ (_,_,_,_,_,_)=>by kernel_rfl) Ai;have d:=lO H e (b:=lp Tryz.f25 1) (k:=k) (n:=0) (s:=Apy) (step:=Wr) (λ_ _ _ (_,_,_,_,_,_)=>by kernel_rfl) Ai;exact⟨e,(A4 (A4 Ai c) d)⟩) λ(_,_)=>by kernel_rfl
def Qt(t:Tbl)(row:Yb1 Val):Ya1 Int:=I0 5000 (t,row)
def Axx:FT [Yh1,Yj1] [Yc1]:=λx=>Qt x.1 x.2
theorem A60:FO 25 [Yh1,Yj1] [Yc1] Axx:=.fin 0 Bjb λ_ _ _ a=>⟨5000,a⟩
def Dh:Nat->Nat->Str|0,n=>[UInt8.ofNat n]|k+1,n=>if n<128 then [UInt8.ofNat n]else UInt8.ofNat (n % 128+128)::Dh k (n / 128)
theorem F2:∀k n,1<=(Dh k n).length/\(Dh k n).length<=k+1
 |0,n=>by simp[Dh]
 |k+1,n=>by
  have:=F2 k (n / 128);simp[Dh]
  grind
theorem Byq:∀m:Nat,m<256->UInt8.ofNat (ior .u8 ((m:Nat):Int) 128).toNat=UInt8.ofNat (m % 128+128):=by decide +kernel
theorem Bri(n:Nat):wr .u8 (n:Int)=((n % 256:Nat):Int):=by simp[wr,IntKind.wrap,IntKind.bits,IntKind.signed]
theorem Af3{n:Nat}(h:n<18446744073709551616):wr .u64 (n:Int)=(n:Int):=by simp[wr,IntKind.wrap,IntKind.bits,IntKind.signed];omega
theorem B6l(n:Nat):Ek .u64 (n:Int) 7=((n / 128:Nat):Int):=by
 simp only[Ek];rw[show(2 ^ min (7:Int).toNat IntKind.u64.bits:Int)=128 from by decide]
 grind
theorem Aff{kx:Ex->Aat->Ya1 Str}(b:∀n acc,kx (.exit 0) (n,acc)=chk (decide (acc.length+1<=Ah)) (some (acc++[UInt8.ofNat (wr .u8 n).toNat]))):∀(k m n:Nat) (acc:Str),n<128 ^ (k+1)->k<m->acc.length+k<=1000->Aj (λa=>Xw a kx) m ((n:Int),acc)=some (acc++Dh k n)
 |k,0,_,_,_,h,_=>by omega
 |k,m+1,n,acc,hn,hm,ha=>by
  have c1:decide (acc.length+1<=Ah)=true:=Ze1 (by simp[Ah];omega);have low:n<128->Aj (λa=>Xw a kx) (m+1) ((n:Int),acc)=some (acc++[UInt8.ofNat n]):=λh=>by simp only[Aj,Xw,Zd1 (show ¬(128:Int)<=(n:Int) by omega),Ag,b,c1,chk,Af,Bri,Int.toNat_natCast];rw[Nat.mod_eq_of_lt (by omega)]
  cases k with
  |zero=>exact low (by simpa using hn)
  |succ k=>
   simp only[Dh];split
   ·rename_i h;exact low h
   ·rename_i h;have c:=Aff b k m (n / 128) (acc++[UInt8.ofNat (n % 128+128)]) (Nat.div_lt_of_lt_mul (by rw[Nat.pow_succ]at hn;omega)) (by omega) (by simp[ Zi1];omega);have e:UInt8.ofNat (ior .u8 (wr .u8 (n:Int)) 128).toNat=UInt8.ofNat (n % 128+128):=by rw[Bri,Byq _ (Nat.mod_lt _ (by omega))];congr 1;omega
    simp only[Aj,Xw,Ze1 (show(128:Int)<=(n:Int) by omega),c1,e,B6l];rw[<-List.append_cons]at c;exact c
theorem Bzo{n:Nat}(h:n<128 ^ 6):Bl1 (n:Int)=some (Dh 5 n):=by
 have:=Aff (kx:=λe a=>match a with|(v2,v3)=>match e with
  |.exit 0=>chk (decide (v3.length+1<=Ah)) (some (v3++[UInt8.ofNat (wr .u8 v2).toNat]))
  |_=>none) (λ_ _=>rfl) 5 100 n [] h (by omega) (by simp)
 exact this
theorem A3q(h:s.length<=274877906900):Bgr s=some (Dh 5 s.length++s):=by have e:wr .u64 (s.length:Int)=(s.length:Int):=Af3 (by omega);have:=F2 5 s.length;simp[Bgr,Yw,e,Bzo (show s.length<128 ^ 6 by omega)];rw[Ze1 (by simp[Ah];omega)];rfl
noncomputable section
end
theorem Nc:∀k n,n<128 ^ (k+1)->Dh (k+1) n=Dh k n
 |0,n,h=>by simp[Dh];omega
 |k+1,n,h=>by rw[Dh,Nc k (n / 128) (Nat.div_lt_of_lt_mul (by rw[Nat.pow_succ]at h;omega))];rfl
theorem A85{n:Nat}(h:n<128 ^ 6):Dh 9 n=Dh 5 n:=by rw[Nc 8 n (by omega),Nc 7 n (by omega),Nc 6 n (by omega),Nc 5 n h]
theorem Bpz{n:Nat}(h:n<18446744073709551616):Bl1 (n:Int)=some (Dh 9 n):=by
 have:=Aff (kx:=λe a=>match a with|(v2,v3)=>match e with
  |.exit 0=>chk (decide (v3.length+1<=Ah)) (some (v3++[UInt8.ofNat (wr .u8 v2).toNat]))
  |_=>none) (λ_ _=>rfl) 9 100 n [] (by omega) (by omega) (by simp)
 exact this
noncomputable section
end
theorem Km{v:Val}:Cn v=0↔Aq v=true:=by simp[Cn];cases Aq v<;>simp
def Aii:Sig:=⟨88,[(2,.int .i64),(5,.int .i64)],[(1,.ptr 0 0)],[(0,.one (.sv .val))],1,0,0,[],[]⟩
abbrev La:=Int×Int×Val
def Hw{R:Type}(a:La->Ya1 R)(kx:Ex->La->Ya1 R)(v:La):Ya1 R:=match v with|(v1,v2,w)=>cond (decide (v2<(w.s.length:Int))) (cond (decide (w.kind=4)) (chk (inb v2 w.s.length) (cond (decide ((bat w.s v2)<32)) (kx .ret (2,v2,w)) (chk (inb v2 w.s.length) (cond (decide (127<=(bat w.s v2))) (kx .ret (2,v2,w)) (a (v1,(wr .i64 (v2+1)),w)))))) (kx (.exit 0) (v1,v2,w))) (kx (.exit 0) (v1,v2,w))
def Au2(R:Type)(k:Nat):Px R:=pxO [] [] [(6,An k Aii (Hw))] []
def Ahd(k:Nat)(x:HV [Yi1]):Ya1 (HV [Yc1]):=match x with
 |v=>
 let a:=λ(p4:Bool)=>
  let c:=λ(g:Bool)=>
  let d:=λ(_:Unit)=>
   Aj (λb=>Hw b (λe h=>match h with|(v3,_,_)=>match e with
   |.ret=>some v3
   |.exit 0=>some 0
   |_=>none)) k (0,0,v)
  let f:=λ(i:Bool)=>
   let j:=λ(l:Bool)=>
   cond (l) (
    some 2) (
    cond (!g) (
    cond (!decide (v.s=[])) (
     some 2) (
     cond (decide (1000<(v.s.length:Int))) (
     some 2) (
     d ()))) (
    cond (decide (1000<(v.s.length:Int))) (
     some 2) (
     d ())))
   cond (i) (
   j true) (
   cond (!p4) (
    j (!decide (v.n=0))) (
    j false))
  cond (decide (v.kind<1)) (
   f true) (
   f (decide (5<v.kind)))
  cond (decide (v.kind=4)) (
  c true) (
  c (decide (v.kind=5)))
 cond (decide (v.kind=2)) (
  cond (decide (v.n=0)) (
  a true) (
  cond (decide (v.n=1)) (
   a true) (
   a (decide (v.kind=3))))) (
  a (decide (v.kind=3)))
theorem A83(k:Nat):FO 101 [Yi1] [Yc1] (Ahd k):=fR (px:=Au2 _ k) (n:=1) Tryz.func101 rfl (λcx H=>by have c:Lv cx (Au2 (HV [Yc1]) k):=lv H Ae Aa Ab;have a:=lO H c (b:=lp Tryz.f101 0) (k:=k) (n:=0) (s:=Aii) (step:=Hw) (λ_ _ _ (_,_,_)=>by kernel_rfl) Ai;exact⟨c,(A4 Ai a)⟩) λ_=>by kernel_rfl
abbrev Baj(v:Val):Int:=Cn v
def Al6:FT [Yi1] [Yc1]:=λx=>some (Baj x)
theorem Ah1{R:Type}{kx:Ex->La->Ya1 R}{v:Val}{a b:Ya1 R}(e:ln v.s.length)(l:v.kind=4)(f:∀j,kx .ret (2,j,v)=a)(g:∀q j,kx (.exit 0) (q,j,v)=b):∀(k i:Nat) q,i<=v.s.length->v.s.length-i<k->Aj (λd=>Hw d kx) k (q,(i:Int),v)=cond ((v.s.drop i).all vis) b a
 |0,i,q,_,h=>by omega
 |k+1,i,q,hi,h=>by
  rw[Au];by_cases c:i<v.s.length
  ·simp only[Hw,Am c e,(Ah1 e l f g k (i+1) q (by omega) (by omega)),f,Ak c,Abi c,Ao c,Zv1,Bool.cond_decide];simp[*];simp only[vis];split
   ·rw[Zd1 (by omega)];rfl
   ·split
    ·rw[Ze1 (by omega),Zd1 (by omega)];rfl
    ·rw[Ze1 (by omega),Ze1 (by omega)];rfl
  ·simp[Hw,g,Bool.cond_decide]
   grind
theorem Biw{kx:Ex->La->Ya1 R}{v:Val}{b:Ya1 R}(d:¬v.kind=4)(c:kx (.exit 0) (0,0,v)=b)(k:Nat):Aj (λa=>Hw a kx) (k+1) (0,0,v)=b:=by rw[Au];simp only[Hw,c,Bool.cond_decide];split<;>rfl
theorem Bl5:FO 101 [Yi1] [Yc1] Al6:=.fin 0 A83 λv r hb m=>⟨v.s.length+1,by
 simp only[Al6,Za1]at m;subst m;have t:((0:Nat):Int)=0:=rfl;have c:Aj (λl=>Hw l (λe v=>match v with|(v2,_,_)=>match e with
   |.ret=>some v2
   |.exit 0=>some 0
   |_=>none)) (v.s.length+1) (0,0,v)=cond (decide (v.kind=4) && !Hv v.s) (some (2:Int)) (some 0):=by
  by_cases k:v.kind=4
  ·have:=Ah1 (a:=some (2:Int)) (b:=some 0) hb.2.2 k (kx:=λe v=>match v with|(v2,_,_)=>match e with
    |.ret=>some v2
    |.exit 0=>some 0
    |_=>none) (λ_=>rfl) (λ_ _=>rfl) (v.s.length+1) 0 0 (Nat.zero_le _) (by omega)
   rw[t]at this;rw[this,Ze1 k,Zq1,Hv];cases v.s.all vis<;>rfl
  ·rw[Biw (b:=some 0) k rfl,Zd1 k];rfl
 simp only[Ahd]at c ⊢;rw[c];have d:v.s=[]->¬(1000<(v.s.length:Int)):=λh=>by rw[h];simp
 have hle:decide ((v.s.length:Int)<=1000) = !decide (1000<(v.s.length:Int)):=by
  by_cases h : 1000<(v.s.length:Int)
  ·rw[Ze1 h,Zd1 (by omega)];rfl
  ·rw[Zd1 h,Ze1 (by omega)];rfl
 have u:decide (v.s=[])=true->decide (1000<(v.s.length:Int))=false:=λh=>Zd1 (d (of_decide_eq_true h));simp only[Cn,Aq,hle];generalize decide (1000<(v.s.length:Int))=q at *;generalize decide (v.s=[])=s at *;generalize Hv v.s=w at *;by_cases o:v.kind=1
 ·simp only[o];cases decide (v.n=0)<;>cases s<;>simp_all
 by_cases f:v.kind=2
 ·simp only[f];cases decide (v.n=0)<;>cases decide (v.n=1)<;>cases s<;>simp_all
 by_cases g:v.kind=3
 ·simp only[g];cases decide (v.n=0)<;>cases decide (v.n=1)<;>cases s<;>simp_all
 by_cases i:v.kind=4
 ·simp only[i];cases decide (v.n=0)<;>cases w<;>cases q<;>simp_all
 by_cases j:v.kind=5
 ·simp only[j];cases decide (v.n=0)<;>cases q<;>simp_all
 rw[Zd1 o,Zd1 f,Zd1 g,Zd1 i,Zd1 j];by_cases p:v.kind<1
 ·rw[Ze1 p];rfl
 ·rw[Zd1 p,Ze1 (show 5<v.kind by omega)];rfl⟩
def Bql(R:Type):Px R:=pxO [(94,cA A04)] [] [] []
def X9(x:HV [Yc1]):Ya1 (HV [.sl .byte true]):=match x with|n=>(Bl1 (Qg .u64 (W0 .u64 (wr .u64 n) 1) (wr .u64 (Ek .i64 n 63)))).bind λx=>some x
theorem Bhe:FO 95 [Yc1] [.sl .byte true] (X9):=fR (px:=Bql _) (n:=0) Tryz.func95 rfl (λ_ H=>⟨lv H (c1 H Axz Ae) Aa Ab,Ai⟩) λ_=>by kernel_rfl
def Be3(n:Int):Ya1 Str:=X9 n
def Bcf:FT [Yc1] [.sl .byte true]:=λx=>Be3 x
theorem Bra:FO 95 [Yc1] [.sl .byte true] Bcf:=.fin0 Bhe λ_ _ _ a=>a
def Awa:Sig:=⟨60,[(0,.sl .val false),(2,.sl .byte true),(3,.int .i64),(4,.sl .byte true),(12,.sl .val false),(13,.int .i64),(14,.int .i64)],[],[],0,0,0,[],[]⟩
abbrev N0:=Yb1 Val×Yb1 UInt8×Int×Yb1 UInt8×Yb1 Val×Int×Int
def Ss{R:Type}(a:N0->Ya1 R)(kx:Ex->N0->Ya1 R)(v:N0):Ya1 R:=match v with
 |(v,v1,v2,v3,v4,v5,v6)=>
 cond (decide (v6<v5)) (
  chk (inb v6 v4.length) (
  cond (!decide ((Cn (at' .val v4 v6))=0)) (
   kx .ret (v,[],(Cn (at' .val v4 v6)),v3,v4,v5,v6)) (
   chk (decide (v3.length+1<=Ah)) (
   cond (decide ((at' .val v4 v6).kind=2)) (
    chk (decide ((v3++[(UInt8.ofNat ((wr .u8 ((at' .val v4 v6).kind)):Int).toNat)]).length+1<=Ah)) (
    a (v,v1,v2,((v3++[(UInt8.ofNat ((wr .u8 ((at' .val v4 v6).kind)):Int).toNat)])++[(UInt8.ofNat ((wr .u8 ((at' .val v4 v6).n)):Int).toNat)]),v4,v5,(wr .i64 (v6+1))))) (
    cond (decide ((at' .val v4 v6).kind=3)) (
    (Be3 ((at' .val v4 v6).n)).bind λb=>
     chk (decide ((v3++[(UInt8.ofNat ((wr .u8 ((at' .val v4 v6).kind)):Int).toNat)]).length+b.length<=Ah)) (
     a (v,v1,v2,((v3++[(UInt8.ofNat ((wr .u8 ((at' .val v4 v6).kind)):Int).toNat)])++b),v4,v5,(wr .i64 (v6+1))))) (
    let j:=λ(p:Bool)=>
     cond (p) (
     chk (decide (((at' .val v4 v6).s).length<=Ah)) (
      (Bgr ((at' .val v4 v6).s)).bind λc=>
      chk (decide ((v3++[(UInt8.ofNat ((wr .u8 ((at' .val v4 v6).kind)):Int).toNat)]).length+c.length<=Ah)) (
       a (v,v1,v2,((v3++[(UInt8.ofNat ((wr .u8 ((at' .val v4 v6).kind)):Int).toNat)])++c),v4,v5,(wr .i64 (v6+1)))))) (
     a (v,v1,v2,(v3++[(UInt8.ofNat ((wr .u8 ((at' .val v4 v6).kind)):Int).toNat)]),v4,v5,(wr .i64 (v6+1))))
    cond (decide ((at' .val v4 v6).kind=4)) (
     j (decide ((at' .val v4 v6).kind=4))) (
     j (decide ((at' .val v4 v6).kind=5))))))))) (
  kx (.exit 0) (v,v1,v2,v3,v4,v5,v6))
def Bgv(R:Type)(k:Nat):Px R:=pxO [(94,cA A04),(80,cA Nr),(95,cA Bcf),(96,cA Bd2)] [] [(3,An k Awa (Ss))] []
def Ad6(k:Nat)(x:HV [Yj1]):Ya1 (HV [.sl .byte true,Yc1]):=match x with
 |l=>
 (Bl1 (wr .u64 (l.length:Int))).bind λx=>
  Aj (λb=>Ss b (λe c=>match c with|(v7,v8,v9,a,_,_,_)=>match e with
  |.ret=>some (v8,v9)
  |.exit 0=>
   cond (decide (100<(v7.length:Int))) (
   some ([],3)) (
   some (a,0))
  |_=>none)) k (l,[],0,x,l,(l.length:Int),0)
theorem Bvn(k:Nat):FO 58 [Yj1] [.sl .byte true,Yc1] (Ad6 k):=fR (px:=Bgv _ k) (n:=1) Tryz.func58 rfl (λcx H=>by have c:Lv cx (Bgv (HV [.sl .byte true,Yc1]) k):=lv H (c1 H Axz (c1 H N3 (c1 H Bra (c1 H Btb Ae)))) Aa Ab;have a:=lO H c (b:=lp Tryz.f58 0) (k:=k) (n:=0) (s:=Awa) (step:=Ss) (λ_ _ _ (_,_,_,_,_,_,_)=>by kernel_rfl) Ai;exact⟨c,(A4 Ai a)⟩) λ_=>by kernel_rfl
def A39(l:Yb1 Val):Ya1 (Str×Int):=Ad6 5000 l
def Bn1:FT [Yj1] [.sl .byte true,Yc1]:=λx=>A39 x
theorem B04:FO 58 [Yj1] [.sl .byte true,Yc1] Bn1:=.fin 0 Bvn λ_ _ _ a=>⟨5000,a⟩
noncomputable section
end
def zz(n:Int):Nat:=if n<0 then(-2*n-1).toNat else(2*n).toNat
theorem Bs5{n:Int}(h:inI n=true):zz n<18446744073709551616:=by simp[inI]at h;simp only[zz];split<;>omega
theorem wrU(n:Int):wr .u64 n=n % 18446744073709551616:=by simp[wr,IntKind.wrap,IntKind.bits,IntKind.signed]
theorem B5r(k:IntKind)(x:Int):Qg k x 0=k.wrap ((BitVec.ofInt k.bits x).toNat:Int):=by simp[Qg,Anr]
theorem B6j{x:Int}(h : 0<=x/\x<18446744073709551616):Qg .u64 x 18446744073709551615=18446744073709551615-x:=by show wr .u64 (((BitVec.ofInt 64 x ^^^ BitVec.ofInt 64 18446744073709551615).toNat:Nat):Int)=_;rw[show BitVec.ofInt 64 18446744073709551615=BitVec.allOnes 64 by decide,BitVec.xor_allOnes,BitVec.toNat_not,BitVec.toNat_ofInt,wrU];omega
theorem B2l{n:Int}(h:inI n=true):Qg .u64 (W0 .u64 (wr .u64 n) 1) (wr .u64 (Ek .i64 n 63))=(zz n:Int):=by
 simp[inI]at h;have c:W0 .u64 (wr .u64 n) 1=(wr .u64 n*2) % 18446744073709551616:=by rw[<-wrU];rfl
 have e2:Ek .i64 n 63=n.fdiv 9223372036854775808:=rfl;rw[c,e2,wrU,wrU];by_cases b:n<0
 ·have a:n.fdiv 9223372036854775808 = -1:=by rw[Int.fdiv_eq_ediv_of_nonneg _ (by omega)];omega
  rw[a,show(-1:Int) % 18446744073709551616=18446744073709551615 by decide,B6j (by omega)];simp only[zz,if_pos b];omega
 ·have a:n.fdiv 9223372036854775808=0:=by rw[Int.fdiv_eq_ediv_of_nonneg _ (by omega)];omega
  rw[a,show(0:Int) % 18446744073709551616=0 by decide,B5r];show wr .u64 (((BitVec.ofInt 64 _).toNat:Nat):Int)=_;rw[BitVec.toNat_ofInt,wrU];simp only[zz,if_neg b];omega
theorem Bwb{n:Int}(h:inI n=true):Be3 n=some (Dh 9 (zz n)):=by simp only[Be3,X9,B2l h,Bpz (Bs5 h)];rfl
theorem Kj{v:Val}(h:Aq v=true)(a:v.kind=4\/v.kind=5):v.s.length<=1000:=by rcases a with a|a<;>simp[Aq,a]at h<;>grind
theorem Aif{v:Val}(h:Aq v=true):v.kind=1\/v.kind=2\/v.kind=3\/v.kind=4\/v.kind=5:=by
 by_cases a:v.kind=1; · exact .inl a
 by_cases b:v.kind=2; · exact .inr (.inl b)
 by_cases c:v.kind=3; · exact .inr (.inr (.inl c))
 by_cases d:v.kind=4; · exact .inr (.inr (.inr (.inl d)))
 by_cases e:v.kind=5; · exact .inr (.inr (.inr (.inr e)))
 simp[Aq,a,b,c,d,e]at h
def b8(n:Int):UInt8:=UInt8.ofNat (wr .u8 n).toNat
def Po(v:Val):Str:=b8 v.kind::(if v.kind=2 then [b8 v.n]else if v.kind=3 then Dh 9 (zz v.n)else if v.kind=4\/v.kind=5 then Dh 5 v.s.length++v.s else [])
theorem A7h{v:Val}(h:Aq v=true):(Po v).length<=1020:=by
 have a:=F2 9 (zz v.n);have b:=F2 5 v.s.length;simp only[Po,Zf1];split
 ·simp
 ·split
  ·omega
  ·split
   ·have:=Kj h (by assumption);rw[Zh1];omega
   ·simp
def Lz(l:Yb1 Val):Str:=(l.map Po).flatten
def H6(l:Yb1 Val):Str×Int:=cond (l.all λv=>Aq v) (cond (decide (100<(l.length:Int))) ([],3) (Dh 9 l.length++Lz l,0)) ([],2)
theorem vch(v:Val):Cn v=cond (!Aq v) 2 0:=rfl
theorem Bmc{l:Yb1 Val}{acc:Str}{b:Int}{kx:Ex->N0->Ya1 (Str×Int)}(f:N0->Ya1 (Str×Int))(hi:i<l.length)(h:ln l.length)(j:inI l[i].n=true)(m:acc.length<=200000000000) :
  Ss f kx (l,a,b,acc,l,(l.length:Int),(i:Int))=cond (Aq l[i]) (f (l,a,b,acc++Po l[i],l,(l.length:Int),((i+1:Nat):Int))) (kx .ret (l,[],2,acc,l,(l.length:Int),(i:Int))):=by
 simp only[Ss,Cs hi,Af,Ao hi,chk,Al (c:=.val) hi,Am hi h,vch];cases hv:Aq l[i]with
 |false=>rfl
 |true=>
  have g:decide (acc.length+1<=Ah)=true:=Ze1 (by simp[Ah];omega);have d2:∀x:Str,x.length<=2000->decide ((acc++[b8 l[i].kind]).length+x.length<=Ah)=true:=λx o=>Ze1 (by simp[Ah];omega);rcases Aif hv with d|d|d|d|d
  ·simp[Po,d,g,b8]
  ·have e:=d2 [b8 l[i].n] (by simp);simp[b8,d]at e;simp[Po,d,g,b8,e]
  ·have e:=d2 (Dh 9 (zz l[i].n)) (by have:=F2 9 (zz l[i].n);omega);simp[b8,d]at e;simp[Po,d,g,b8,Bwb j,e]
  ·have k:=Kj hv (.inl d);have e:=d2 (Dh 5 l[i].s.length++l[i].s) (by have:=F2 5 l[i].s.length;simp;omega);simp[b8,d]at e;simp[Po,d,g,b8,A3q (show l[i].s.length<=274877906900 by omega),e,show l[i].s.length<=Ah by simp[Ah];omega]
  ·have k:=Kj hv (.inr d);have e:=d2 (Dh 5 l[i].s.length++l[i].s) (by have:=F2 5 l[i].s.length;simp;omega);simp[b8,d]at e;simp[Po,d,g,b8,A3q (show l[i].s.length<=274877906900 by omega),e,show l[i].s.length<=Ah by simp[Ah];omega]
theorem Za(v:Val)(l:Yb1 Val):Lz (v::l)=Po v++Lz l:=by simp[Lz]
theorem Awp:∀{l:Yb1 Val},(l.all λv=>Aq v)=true->(Lz l).length<=1020*l.length
 |[],_=>by simp[Lz]
 |v::l,h=>by simp only[Zv1,Zb1]at h;have a:=A7h h.1;have b:=Awp h.2;rw[Za,Zh1,Zf1];omega
theorem At9{l:Yb1 Val}{kx:Ex->N0->Ya1 (Str×Int)}(g:l.length<=4000)(d:∀v,v∈l->inI v.n=true):∀(k i:Nat) (acc:Str),i<=l.length->l.length-i<k->acc.length+1020*(l.length-i)<=200000000000 ->
  ((l.drop i).all (λv=>Aq v)=true->Aj (λa=>Ss a kx) k (l,[],0,acc,l,(l.length:Int),(i:Int))=kx (.exit 0) (l,[],0,acc++Lz (l.drop i),l,(l.length:Int),(l.length:Int))) /\
  ((l.drop i).all (λv=>Aq v)=false->∃b j,Aj (λa=>Ss a kx) k (l,[],0,acc,l,(l.length:Int),(i:Int))=kx .ret (l,[],2,b,l,(l.length:Int),j))
 |0,_,_,_,h,_=>by omega
 |k+1,i,acc,hi,hk,ha=>by
  have c:ln l.length:=by simp[ln];omega
  rw[Au];by_cases h:i<l.length
  ·have hv:l[i]∈l:=List.getElem_mem h;rw[Bmc _ h c (d _ hv) (by omega),List.drop_eq_getElem_cons h,Zv1];cases m:Aq l[i]with|false=>refine⟨λe=>by simp at e,λ_=>⟨_,_,rfl⟩⟩|true=>have f:=A7h m;rw[Af,Bool.true_and,Za,<-Zj1];exact At9 g d k (i+1) (acc++Po l[i]) h (by omega) (by rw[Zh1];omega)
  ·have:i=l.length:=by omega
   subst this;refine⟨λ_=>?_,λe=>by simp at e⟩;simp only[Ss,C4,Ag];simp[Lz]
theorem Bfo{l:Yb1 Val}(d:l.length<=4000)(f:∀v,v∈l->inI v.n=true):A39 l=some (H6 l):=by
 have j:=F2 9 l.length;obtain⟨b,c⟩:=At9 (l:=l) (kx:=λe g=>match g with|(v7,v8,v9,a,_,_,_)=>match e with
  |.ret=>some (v8,v9)
  |.exit 0=>cond (decide (100<(v7.length:Int))) (some ([],3)) (some (a,0))
  |_=>none) d f 5000 0 (Dh 9 l.length) (by omega) (by omega) (by omega)
 have e:wr .u64 (l.length:Int)=(l.length:Int):=Af3 (by omega);simp only[A39,Ad6,e,Bpz (show l.length<18446744073709551616 by omega),Zc1,H6];rw[Zq1]at b c;cases h:l.all (λv=>Aq v)with|true=>refine(b h).trans ?_;show cond (decide (100<(l.length:Int))) (some (([]:Str),(3:Int))) (some (Dh 9 l.length++Lz l,0))=_;cases decide (100<(l.length:Int))<;>rfl|false=>obtain⟨_,_,i⟩:=c h;exact i
end Go.Proofs.YtcoaaebppfbbnaaGreatDoor
namespace Go.Proofs.YtcoaaebppfbbnaaGreatDoor
open Go.Sx Go.RowKit
theorem B11:ElTy Tryz.prog 43 5 1 1:=elTy_of (by kernel_rfl)
set_option maxRecDepth 20000 in
theorem Azy(a:Ya1 Addr)(n c:Nat)(xs:Yb1 Value)(e:xs.all one=true)(d:n<=2000000):Con Tryz.prog 151 [.slice a n c] [] (RdS (.slice a n c) 1 n xs) (Dp 5 1 n xs):=by
 refine Bq Tryz.func151 Tryz.ntmps151 rfl (by kernel_rfl) rfl λw M=>?_
 repeat' (first|(refine Fl ?_;(first|refine Cl ?_|(apply Av rfl rfl;(first|exact p_move rfl|exact p_assign rfl))|(apply Av rfl rfl;exact I7 1 (by dsimp only;decide +kernel) rfl rfl)|(refine Gp rfl rfl B11 rfl rfl rfl rfl ?_;intro b)))|(refine Fq ?_;(first|refine Ei ?_|refine Bh ?_|refine E3 ?_|(refine Iw rfl ?_ ?_<;>intro hc<;>try contradiction)|refine Ci rfl rfl ?_))|(refine Fj ?_;(first|refine Cm ?_))|fail)
 ·exact Ik (Pl (by assumption)) rfl
 ·refine Ld 1 ?_;refine Kw 0 rfl rfl B11 rfl rfl rfl (Kx (λw h=>h)) e (by omega) (by omega) ?_;intro f
  repeat' (first|(refine Fl ?_;(first|refine Cl ?_|(apply Av rfl rfl;(first|exact p_assign rfl))))|(refine Fq ?_;(first|refine Ci rfl rfl ?_))|(refine Fj ?_;(first|refine Cm ?_))|fail)
  refine B9 ?_;simp[Dp]
theorem B17:ElTy Tryz.prog 43 5 1 1:=elTy_of (by kernel_rfl)
set_option maxRecDepth 20000 in
theorem Ayw(a:Ya1 Addr)(n c:Nat)(xs:Yb1 Value)(e:xs.all one=true)(d:n<=2000000):Con Tryz.prog 69 [.slice a n c] [] (RdS (.slice a n c) 1 n xs) (Dp 5 1 n xs):=by
 refine Bq Tryz.func69 Tryz.ntmps69 rfl (by kernel_rfl) rfl λw M=>?_
 repeat' (first|(refine Fl ?_;(first|refine Cl ?_|(apply Av rfl rfl;(first|exact p_move rfl|exact p_assign rfl))|(apply Av rfl rfl;exact I7 1 (by dsimp only;decide +kernel) rfl rfl)|(refine Gp rfl rfl B17 rfl rfl rfl rfl ?_;intro b)))|(refine Fq ?_;(first|refine Ei ?_|refine Bh ?_|refine E3 ?_|(refine Iw rfl ?_ ?_<;>intro hc<;>try contradiction)|refine Ci rfl rfl ?_))|(refine Fj ?_;(first|refine Cm ?_))|fail)
 ·exact Ik (Pl (by assumption)) rfl
 ·refine Ld 1 ?_;refine Kw 0 rfl rfl B17 rfl rfl rfl (Kx (λw h=>h)) e (by omega) (by omega) ?_;intro f
  repeat' (first|(refine Fl ?_;(first|refine Cl ?_|(apply Av rfl rfl;(first|exact p_assign rfl))))|(refine Fq ?_;(first|refine Ci rfl rfl ?_))|(refine Fj ?_;(first|refine Cm ?_))|fail)
  refine B9 ?_;simp[Dp]
theorem Bea:ElTy Tryz.prog 44 46 6 112:=elTy_of (by kernel_rfl)
set_option maxRecDepth 20000 in
theorem Ayd(a:Ya1 Addr)(n c:Nat)(xs:Yb1 Value)(e:xs.all one=true)(d:n<=2000000):Con Tryz.prog 157 [.slice a n c] [] (RdS (.slice a n c) 6 n xs) (Dp 46 6 n xs):=by
 refine Bq Tryz.func157 Tryz.ntmps157 rfl (by kernel_rfl) rfl λw M=>?_
 repeat' (first|(refine Fl ?_;(first|refine Cl ?_|(apply Av rfl rfl;(first|exact p_move rfl|exact p_assign rfl))|(apply Av rfl rfl;exact I7 6 (by dsimp only;decide +kernel) rfl rfl)|(refine Gp rfl rfl Bea rfl rfl rfl rfl ?_;intro b)))|(refine Fq ?_;(first|refine Ei ?_|refine Bh ?_|refine E3 ?_|(refine Iw rfl ?_ ?_<;>intro hc<;>try contradiction)|refine Ci rfl rfl ?_))|(refine Fj ?_;(first|refine Cm ?_))|fail)
 ·exact Ik (Pl (by assumption)) rfl
 ·refine Ld 6 ?_;refine Kw 0 rfl rfl Bea rfl rfl rfl (Kx (λw h=>h)) e (by omega) (by omega) ?_;intro f
  repeat' (first|(refine Fl ?_;(first|refine Cl ?_|(apply Av rfl rfl;(first|exact p_assign rfl))))|(refine Fq ?_;(first|refine Ci rfl rfl ?_))|(refine Fj ?_;(first|refine Cm ?_))|fail)
  refine B9 ?_;simp[Dp]
set_option maxRecDepth 20000 in
theorem Arc(a:Ya1 Addr)(c:Nat):Con Tryz.prog 157 [.slice a 0 c] [] (λ_=>True) (λv _ _=>∃a',v = .slice a' 0 0):=by
 refine Bq Tryz.func157 Tryz.ntmps157 rfl (by kernel_rfl) rfl λw M=>?_
 repeat' (first|(refine Fl ?_;(first|refine Cl ?_|(apply Av rfl rfl;(first|exact p_move rfl|exact p_assign rfl))|(apply Av rfl rfl;exact I7 6 (by dsimp only;decide +kernel) rfl rfl)|(refine Gp rfl rfl Bea rfl rfl rfl rfl ?_;intro b)|(apply Av rfl rfl;exact Ael Bea rfl rfl)))|(refine Fq ?_;(first|refine Ei ?_|refine Bh ?_|refine E3 ?_|(refine Iw rfl ?_ ?_<;>intro hc<;>try contradiction)|refine Ci rfl rfl ?_))|(refine Fj ?_;(first|refine Cm ?_))|fail)
 ·exact B9 ⟨_,rfl⟩
 ·exact B9 ⟨_,rfl⟩
theorem B2m:ElTy Tryz.prog 43 5 1 1:=elTy_of (by kernel_rfl)
set_option maxRecDepth 20000 in
theorem A5h(n:Int)(f : 0<n)(d:n<=2000000):Con Tryz.prog 199 [.slice none 0 0,.int .i64 n] [] (λ_=>True) (λv L _=>∃b q cs,v = .slice (some ⟨b,0,none⟩) 0 q/\q<=maxLen/\List.length cs=q*1/\L=[.blk b cs 5]):=by
 refine Bq Tryz.func199 Tryz.ntmps199 rfl (by kernel_rfl) rfl λw M=>?_
 repeat' (first|(refine Fl ?_;(first|refine Cl ?_|(apply Av rfl rfl;(first|exact p_move rfl|exact p_assign rfl|exact p_lensl (by dsimp only;decide +kernel) rfl|exact p_lss rfl rfl|exact p_gtr rfl rfl|exact Ll rfl rfl (by omega)))|(apply Av rfl rfl;exact Alu 1 (by dsimp only;decide +kernel) rfl)|(apply Av rfl rfl;exact Ma 1 (by dsimp only;decide +kernel) rfl rfl (by omega))))|(refine Fq ?_;(first|refine Ei ?_|refine Bh ?_|refine E3 ?_|(refine Jw rfl ?_ ?_<;>intro hc<;>try (first|(exfalso;omega)))))|(refine Fj ?_;(first|refine Cm ?_))|fail)
 refine Aza (kn:=.i64) rfl rfl B2m (by dsimp only;decide +kernel) rfl rfl (by omega) (by simp only[maxLen];omega) (by omega) ?_;intro b' q cs e a c
 repeat' (first|(refine Fl ?_;(first|refine Cl ?_|(apply Av rfl rfl;(first|exact p_move rfl|exact p_assign rfl|exact p_lensl (by dsimp only;decide +kernel) rfl))|(apply Av rfl rfl;exact Ma 1 (by dsimp only;decide +kernel) rfl rfl (by omega))))|(refine Fq ?_;(first|refine Ei ?_|refine Bh ?_|refine Ci rfl rfl ?_))|(refine Fj ?_;(first|refine Cm ?_))|fail)
 exact B9 ⟨_,_,_,rfl,a,c,rfl⟩
set_option maxRecDepth 20000 in
theorem Ayi:Con Tryz.prog 199 [.slice none 0 0,.int .i64 0] [] (λ_=>True) (λv _ _=>v = .slice none 0 0):=by
 refine Bq Tryz.func199 Tryz.ntmps199 rfl (by kernel_rfl) rfl λw M=>?_
 repeat' (first|(refine Fl ?_;(first|refine Cl ?_|(apply Av rfl rfl;(first|exact p_move rfl|exact p_assign rfl|exact p_lensl (by dsimp only;decide +kernel) rfl|exact p_lss rfl rfl|exact p_gtr rfl rfl|exact Ll rfl rfl (by omega)))|(apply Av rfl rfl;exact Alu 1 (by dsimp only;decide +kernel) rfl)|(apply Av rfl rfl;exact Ma 1 (by dsimp only;decide +kernel) rfl rfl (by omega))))|(refine Fq ?_;(first|refine Ei ?_|refine Bh ?_|refine E3 ?_|refine Ci rfl rfl ?_|(refine Jw rfl ?_ ?_<;>intro hc<;>try (first|(exfalso;omega)))))|(refine Fj ?_;(first|refine Cm ?_))|fail)
 exact B9 rfl
theorem Alw:Go.Ax.GrOk Tryz.prog 199 (elT .byte) (Go.Ax.csz .byte):=⟨Sx.enters_of Tryz.func199 rfl (by kernel_rfl),A5h,Ayi⟩
theorem B3u:ElTy Tryz.prog 28 56 3 32:=elTy_of (by kernel_rfl)
set_option maxRecDepth 20000 in
theorem A2q(n:Int)(f : 0<n)(d:n<=2000000):Con Tryz.prog 113 [.slice none 0 0,.int .i64 n] [] (λ_=>True) (λv L _=>∃b q cs,v = .slice (some ⟨b,0,none⟩) 0 q/\q<=maxLen/\List.length cs=q*3/\L=[.blk b cs 56]):=by
 refine Bq Tryz.func113 Tryz.ntmps113 rfl (by kernel_rfl) rfl λw M=>?_
 repeat' (first|(refine Fl ?_;(first|refine Cl ?_|(apply Av rfl rfl;(first|exact p_move rfl|exact p_assign rfl|exact p_lensl (by dsimp only;decide +kernel) rfl|exact p_lss rfl rfl|exact p_gtr rfl rfl|exact Ll rfl rfl (by omega)))|(apply Av rfl rfl;exact Alu 3 (by dsimp only;decide +kernel) rfl)|(apply Av rfl rfl;exact Ma 3 (by dsimp only;decide +kernel) rfl rfl (by omega))))|(refine Fq ?_;(first|refine Ei ?_|refine Bh ?_|refine E3 ?_|(refine Jw rfl ?_ ?_<;>intro hc<;>try (first|(exfalso;omega)))))|(refine Fj ?_;(first|refine Cm ?_))|fail)
 refine Aza (kn:=.i64) rfl rfl B3u (by dsimp only;decide +kernel) rfl rfl (by omega) (by simp only[maxLen];omega) (by omega) ?_;intro b' q cs e a c
 repeat' (first|(refine Fl ?_;(first|refine Cl ?_|(apply Av rfl rfl;(first|exact p_move rfl|exact p_assign rfl|exact p_lensl (by dsimp only;decide +kernel) rfl))|(apply Av rfl rfl;exact Ma 3 (by dsimp only;decide +kernel) rfl rfl (by omega))))|(refine Fq ?_;(first|refine Ei ?_|refine Bh ?_|refine Ci rfl rfl ?_))|(refine Fj ?_;(first|refine Cm ?_))|fail)
 exact B9 ⟨_,_,_,rfl,a,c,rfl⟩
set_option maxRecDepth 20000 in
theorem Az8:Con Tryz.prog 113 [.slice none 0 0,.int .i64 0] [] (λ_=>True) (λv _ _=>v = .slice none 0 0):=by
 refine Bq Tryz.func113 Tryz.ntmps113 rfl (by kernel_rfl) rfl λw M=>?_
 repeat' (first|(refine Fl ?_;(first|refine Cl ?_|(apply Av rfl rfl;(first|exact p_move rfl|exact p_assign rfl|exact p_lensl (by dsimp only;decide +kernel) rfl|exact p_lss rfl rfl|exact p_gtr rfl rfl|exact Ll rfl rfl (by omega)))|(apply Av rfl rfl;exact Alu 3 (by dsimp only;decide +kernel) rfl)|(apply Av rfl rfl;exact Ma 3 (by dsimp only;decide +kernel) rfl rfl (by omega))))|(refine Fq ?_;(first|refine Ei ?_|refine Bh ?_|refine E3 ?_|refine Ci rfl rfl ?_|(refine Jw rfl ?_ ?_<;>intro hc<;>try (first|(exfalso;omega)))))|(refine Fj ?_;(first|refine Cm ?_))|fail)
 exact B9 rfl
theorem Ak7:Go.Ax.GrOk Tryz.prog 113 (elT .val) (Go.Ax.csz .val):=⟨Sx.enters_of Tryz.func113 rfl (by kernel_rfl),A2q,Az8⟩
theorem B5l:ElTy Tryz.prog 32 80 2 48:=elTy_of (by kernel_rfl)
set_option maxRecDepth 20000 in
theorem A91(n:Int)(f : 0<n)(d:n<=2000000):Con Tryz.prog 70 [.slice none 0 0,.int .i64 n] [] (λ_=>True) (λv L _=>∃b q cs,v = .slice (some ⟨b,0,none⟩) 0 q/\q<=maxLen/\List.length cs=q*2/\L=[.blk b cs 80]):=by
 refine Bq Tryz.func70 Tryz.ntmps70 rfl (by kernel_rfl) rfl λw M=>?_
 repeat' (first|(refine Fl ?_;(first|refine Cl ?_|(apply Av rfl rfl;(first|exact p_move rfl|exact p_assign rfl|exact p_lensl (by dsimp only;decide +kernel) rfl|exact p_lss rfl rfl|exact p_gtr rfl rfl|exact Ll rfl rfl (by omega)))|(apply Av rfl rfl;exact Alu 2 (by dsimp only;decide +kernel) rfl)|(apply Av rfl rfl;exact Ma 2 (by dsimp only;decide +kernel) rfl rfl (by omega))))|(refine Fq ?_;(first|refine Ei ?_|refine Bh ?_|refine E3 ?_|(refine Jw rfl ?_ ?_<;>intro hc<;>try (first|(exfalso;omega)))))|(refine Fj ?_;(first|refine Cm ?_))|fail)
 refine Aza (kn:=.i64) rfl rfl B5l (by dsimp only;decide +kernel) rfl rfl (by omega) (by simp only[maxLen];omega) (by omega) ?_;intro b' q cs e a c
 repeat' (first|(refine Fl ?_;(first|refine Cl ?_|(apply Av rfl rfl;(first|exact p_move rfl|exact p_assign rfl|exact p_lensl (by dsimp only;decide +kernel) rfl))|(apply Av rfl rfl;exact Ma 2 (by dsimp only;decide +kernel) rfl rfl (by omega))))|(refine Fq ?_;(first|refine Ei ?_|refine Bh ?_|refine Ci rfl rfl ?_))|(refine Fj ?_;(first|refine Cm ?_))|fail)
 exact B9 ⟨_,_,_,rfl,a,c,rfl⟩
set_option maxRecDepth 20000 in
theorem A11:Con Tryz.prog 70 [.slice none 0 0,.int .i64 0] [] (λ_=>True) (λv _ _=>v = .slice none 0 0):=by
 refine Bq Tryz.func70 Tryz.ntmps70 rfl (by kernel_rfl) rfl λw M=>?_
 repeat' (first|(refine Fl ?_;(first|refine Cl ?_|(apply Av rfl rfl;(first|exact p_move rfl|exact p_assign rfl|exact p_lensl (by dsimp only;decide +kernel) rfl|exact p_lss rfl rfl|exact p_gtr rfl rfl|exact Ll rfl rfl (by omega)))|(apply Av rfl rfl;exact Alu 2 (by dsimp only;decide +kernel) rfl)|(apply Av rfl rfl;exact Ma 2 (by dsimp only;decide +kernel) rfl rfl (by omega))))|(refine Fq ?_;(first|refine Ei ?_|refine Bh ?_|refine E3 ?_|refine Ci rfl rfl ?_|(refine Jw rfl ?_ ?_<;>intro hc<;>try (first|(exfalso;omega)))))|(refine Fj ?_;(first|refine Cm ?_))|fail)
 exact B9 rfl
theorem Av7:Go.Ax.GrOk Tryz.prog 70 (elT .kv) (Go.Ax.csz .kv):=⟨Sx.enters_of Tryz.func70 rfl (by kernel_rfl),A91,A11⟩
open Go.Ax
theorem A4k:ClOk Tryz.prog 151 (elT .byte) (csz .byte):=⟨Sx.enters_of Tryz.func151 rfl (by kernel_rfl),Azy⟩
theorem A10:ClOk Tryz.prog 69 (elT .byte) (csz .byte):=⟨Sx.enters_of Tryz.func69 rfl (by kernel_rfl),Ayw⟩
theorem Agx:ClOk Tryz.prog 157 (elT .node) (csz .node):=⟨Sx.enters_of Tryz.func157 rfl (by kernel_rfl),Ayd⟩
theorem Aca:Ank Tryz.prog 157:=Arc
theorem A2j:FO 151 [Yl1] [.sl .byte true] (A74 .byte):=Ac7 A4k
theorem A3p:FO 69 [Yl1] [.sl .byte true] (A74 .byte):=Ac7 A10
end Go.Proofs.YtcoaaebppfbbnaaGreatDoor
namespace Go.Ax
variable{P:Program}{t:Tk}{w:World}
theorem Aw0{S:Fp}{l:Str}{v:Value}(h:RF S w (.sl .byte l t) v):(Extern.Bytes.bytesOf v).run P w = .ok ⟨l.toArray⟩ w:=by
 obtain⟨a,cap,rfl,c⟩:=h.here.slice;cases l with
 |nil=>cases a<;>simp[Extern.Bytes.bytesOf,Extern.Bytes.loadBytes,go_sem]<;>rfl
 |cons x l=>
  rcases c with h|⟨b,o,rfl,_,d⟩
  ·cases h
  ·have f:=Lib.run_loadBytesX (P:=P) w ((x::l).map λb=>(b.toNat:Int)) ⟨b,o,none⟩ .empty (λj y g=>by rw[List.getElem?_map]at g;obtain⟨z,i,rfl⟩:=Option.map_eq_some_iff.1 g;obtain⟨u,k,c⟩:=d j z i 0 (.int .u8 (z.toNat:Int)) rfl;cases c;rw[Sx.add_mk];simpa[csz]using k)
   have e:Lib.bytesOf ((x::l).map λb=>(b.toNat:Int))=x::l:=by simp[Lib.bytesOf,Function.comp_def]
   rw[e,List.length_map]at f;simp only[Extern.Bytes.bytesOf,f];congr 1;apply ByteArray.ext;simp
theorem Bki{S:Fp}{l:Str}{v:Value}(h:RF S w (.sl .byte l t) v)(c:Int):(Extern.BytealgCount.count #[v,.int .u8 c]).run P w = .ok (.int .i64 (Lib.countByte l c.toNat.toUInt8)) w:=by
 have a:=Lib.run_countString (P:=P) ⟨l.toArray⟩ c w;have hb:=Aw0 (P:=P) h;change Sem.run P (do
  let b <-Extern.Bytes.bytesOf v;let c' <-Extern.Bytes.asByte (.int .u8 c)
  pure (goInt (b.foldl (λn x=>if x == c' then n+1 else n) (0:Nat)))) w=_
 change Sem.run P (do
  let b <-Extern.Bytes.bytesOf (.string ⟨l.toArray⟩);let c' <-Extern.Bytes.asByte (.int .u8 c)
  pure (goInt (b.foldl (λn x=>if x == c' then n+1 else n) (0:Nat)))) w=_ at a
 rw[Sem.run_bind]at a ⊢;rw[hb];exact a
theorem Bmi{S:Fp}{l:Str}{v:Value}(h:RF S w (.sl .byte l t) v)(c:Int):(Extern.BytealgIndexByte.indexByte #[v,.int .u8 c]).run P w = .ok (.int .i64 (Lib.indexByte l c.toNat.toUInt8)) w:=by
 have a:=Lib.run_indexByteString (P:=P) ⟨l.toArray⟩ c w;have hb:=Aw0 (P:=P) h;change Sem.run P (do
  let b <-Extern.Bytes.bytesOf v;let c' <-Extern.Bytes.asByte (.int .u8 c);match(List.range b.size).find? λi=>b[i]! == c' with
  |some i=>pure (goInt i)
  |none=>pure (goInt (-1))) w=_
 change Sem.run P (do
  let b <-Extern.Bytes.bytesOf (.string ⟨l.toArray⟩);let c' <-Extern.Bytes.asByte (.int .u8 c);match(List.range b.size).find? λi=>b[i]! == c' with
  |some i=>pure (goInt i)
  |none=>pure (goInt (-1))) w=_ at a
 rw[Sem.run_bind]at a ⊢;rw[hb];exact a
end Go.Ax
namespace Go.Proofs.YtcoaaebppfbbnaaGreatDoor
open Go.Ax
def Ay6(s a:Str):Ya1 Int:=match a with|[c]=>some (Lib.countByte s c)|_=>none
def Alx:FT [Yl1,Yl1] [Yc1]:=λx=>Ay6 x.1 x.2
theorem Bjp:FO 207 [Yl1,Yl1] [Yc1] Alx:=by
 refine⟨Sx.enters_of Tryz.func207 rfl (by kernel_rfl),λx r k w M vs hM m y=>?_⟩;obtain⟨s,f⟩:=x;obtain⟨c,rfl⟩:∃c,f=[c]:=by
  cases f with
  |nil=>cases k
  |cons c tl=>cases tl with|nil=>exact⟨c,rfl⟩|cons _ _=>cases k
 simp only[Alx,Ay6,Za1]at k;subst k;simp only[Ca,C9,Reps,Rep]at y;obtain⟨u,us,rfl,⟨d,_⟩,z,a4,rfl,⟨l,_⟩,rfl⟩:=y;have d:RF (v0 elT M w).S w (.sl .byte s .no) u:=d;have l:RF (v0 elT M w).S w (.sl .byte [c] .no) z:=l;have walk:Calls Tryz.prog 207 #[u,z] w λe w'=>e = .returned (.int .i64 (Lib.countByte s c))/\w' = w:=by
  have b:=Bki (P:=Tryz.prog) d (c.toNat:Int);have e1:(Int.toNat (c.toNat:Int)).toUInt8=c:=by simp
  rw[e1]at b;obtain⟨a2,a3,rfl,n⟩:=l.here.slice;rcases n with h|⟨b2,o2,rfl,_,i⟩
  ·cases h
  obtain⟨q,j,hq⟩:=i 0 c rfl 0 (.int .u8 (c.toNat:Int)) rfl;cases hq;have j:w.cell? ⟨b2,o2,none⟩=some (.int .u8 (c.toNat:Int)):=by simpa using j
  obtain⟨a,cap,rfl,_⟩:=d.here.slice;have t:=follows;have t0:=Tryz.underlying5;simp only[List.length_singleton];clear d l i hM m
  set_option maxRecDepth 100000 in go_enter Tryz.func207,Tryz.ntmps207
  set_option maxRecDepth 100000 in go_wp2
  rw[run_callFunc_extern Tryz.func243 (by kernel_rfl) (by kernel_rfl) (by kernel_rfl) (e:=Extern.BytealgCount.count) (by kernel_rfl),b];simp only[Result.andThen];rw[Oper.upon_value]
  set_option maxRecDepth 100000 in go_wp2
  go_ret
  exact⟨rfl,rfl⟩
 refine Calls.mono walk ?_;rintro en w' ⟨rfl,rfl⟩;refine⟨_,⟨λ_=>0,λ_=>Option.none⟩,rfl,Chg.refl _ _,λp g o v=>(by simp[Bb]at v),λp q g o o2 v=>(by simp[Bb]at v),?_⟩;simp only[Hh,Ca,C9,Rep];have hl:Lib.countByte s c<=s.length:=List.count_le_length;have hs:=d.here.len;exact⟨trivial,Rj (Nat.le_trans hl hs)⟩
theorem Btd(l:Str)(c:UInt8) : -1<=Lib.indexByte l c/\Lib.indexByte l c<=l.length:=by
 induction l with
 |nil=>simp[Lib.indexByte]
 |cons b l a=>
  simp only[Lib.indexByte,Zf1];split
  ·omega
  ·split<;>omega
def Aeh(s:Str)(c:Int):Int:=Lib.indexByte s c.toNat.toUInt8
def Ao6:FT [Yl1,.int .u8] [Yc1]:=λx=>some (Aeh x.1 x.2)
theorem Bka:FO 244 [Yl1,.int .u8] [Yc1] Ao6:=by
 refine⟨Sx.enters_of Tryz.func244 rfl (by kernel_rfl),λx r j w M vs l f k=>?_⟩;obtain⟨s,c⟩:=x;simp only[Ao6,Za1]at j;subst j;simp only[Ca,C9,Reps,Rep]at k;obtain⟨u,us,rfl,⟨b,_⟩,n,m,rfl,⟨rfl,_⟩,rfl⟩:=k;have b:RF (v0 elT M w).S w (.sl .byte s .no) u:=b;have walk:Calls Tryz.prog 244 #[u,.int .u8 c] w λe w'=>e = .returned (.int .i64 (Aeh s c))/\w' = w:=by
  have d:=Bmi (P:=Tryz.prog) b c;obtain⟨a,cap,rfl,_⟩:=b.here.slice;have h:=follows;clear b l f
  set_option maxRecDepth 100000 in go_enter Tryz.func244,Tryz.ntmps244
  set_option maxRecDepth 100000 in go_wp2
  rw[run_callFunc_extern Tryz.func274 (by kernel_rfl) (by kernel_rfl) (by kernel_rfl) (e:=Extern.BytealgIndexByte.indexByte) (by kernel_rfl),d];simp only[Result.andThen];rw[Oper.upon_value]
  set_option maxRecDepth 100000 in go_wp2
  go_ret
  exact⟨rfl,rfl⟩
 refine Calls.mono walk ?_;rintro en w' ⟨rfl,rfl⟩;refine⟨_,⟨λ_=>0,λ_=>Option.none⟩,rfl,Chg.refl _ _,λp g o i=>(by simp[Bb]at i),λp q g o o2 i=>(by simp[Bb]at i),?_⟩;simp only[Hh,Ca,C9,Rep];have t:=b.here.len;refine⟨trivial,A5k ?_⟩;have hb:=Btd s c.toNat.toUInt8;have hm:maxLen=9223372036854775807:=rfl;simp only[IntKind.min,IntKind.max,IntKind.signed,IntKind.bits,Aeh];simp only[if_true];omega
def Brl(R:Type):Px R:=pxO [(244,cA Ao6)] [] [] []
def A9d(x:HV [Yl1,Yl1]):Ya1 (HV [Yc1]):=match x with|(s,sep)=>cond (decide ((sep.length:Int)=0)) (some 0) (cond (decide ((sep.length:Int)=1)) (chk (inb 0 sep.length) (some (Aeh s ((at' .byte sep 0).toNat:Int)))) (cond (decide ((sep.length:Int)=(s.length:Int))) (none) (cond (decide ((s.length:Int)<(sep.length:Int))) (some (-1)) (none))))
theorem Bic:FO 208 [Yl1,Yl1] [Yc1] (A9d):=fR (px:=Brl _) (n:=2) Tryz.func208 rfl (λ_ H=>⟨lv H (c1 H Bka Ae) Aa Ab,(A4 (A4 Ai (Awk (λ_ _=>by kernel_rfl))) (Awk (λ_ _=>by kernel_rfl)))⟩) λ(_,_)=>by kernel_rfl
def Bek(s a:Str):Ya1 Int:=match a with|[c]=>some (Lib.indexByte s c)|_=>none
def Bcz:FT [Yl1,Yl1] [Yc1]:=λx=>Bek x.1 x.2
theorem Bwo:FO 208 [Yl1,Yl1] [Yc1] Bcz:=.fin0 Bic λ(s,a) r _ b=>by
 obtain⟨c,rfl⟩:∃c,a=[c]:=by
  cases a with
  |nil=>cases b
  |cons c d=>cases d with|nil=>exact⟨c,rfl⟩|cons _ _=>cases b
 rw[<-b];show(some (Aeh s ((at' .byte [c] 0).toNat:Int)):Ya1 Int)=some (Lib.indexByte s c);simp[Aeh,at']
def esc(s:Str):Str:=s.flatMap λb=>if b=0 then [0,255]else [b]
theorem Ajn:esc []=[]:=rfl
theorem Ow(a b:Str):esc (a++b)=esc a++esc b:=by simp[esc]
theorem H0(l:Str):esc (0::l)=0::255::esc l:=by simp[esc]
theorem Fb{b:UInt8}(h:b≠0)(l:Str):esc (b::l)=b::esc l:=by simp[esc,h]
theorem Aze:∀{a:Str},(0:UInt8)∉a->esc a=a
 |[],_=>rfl
 |b::a,h=>by simp only[List.mem_cons,not_or]at h;rw[Fb (Ne.symm h.1),Aze h.2]
theorem Ve(s:Str):(esc s).length=s.length+s.count 0:=by
 induction s with
 |nil=>rfl
 |cons b s a=>
  by_cases h:b=0
  ·subst h;rw[H0];simp only[Zf1,a,List.count_cons_self];omega
  ·rw[Fb h,List.count_cons_of_ne h];simp only[Zf1,a];omega
theorem Ak6:∀{l:Str},0<l.count 0->∃a b,l=a++0::b/\(0:UInt8)∉a/\Lib.indexByte l 0=(a.length:Int)/\l.count 0=b.count 0+1
 |[],h=>by simp at h
 |x::l,h=>by
  by_cases c:x=0
  ·subst c;exact⟨[],l,rfl,by simp,by simp[Lib.indexByte],by simp⟩
  ·rw[List.count_cons_of_ne c]at h;obtain⟨a,b,e,d,f,g⟩:=Ak6 h;refine⟨x::a,b,by rw[e];rfl,by simp[d,Ne.symm c],?_,by rw[List.count_cons_of_ne c];exact g⟩;have i:¬(a.length:Int) = -1:=by omega
   simp[Lib.indexByte,c,f,i]
theorem Sf{α:Type}(xs:Yb1 α)(o:Nat)(l:Yb1 α)(h:o+l.length<=xs.length):(Cr xs o l).take (o+l.length)=xs.take o++l:=by
 have a:(xs.take o).length=o:=by simp;omega
 simp only[Cr];rw[<-Zj1,List.take_append_of_le_length (by simp;omega)];rw[List.take_of_length_le (by simp;omega)]
def Alj:Sig:=⟨132,[(0,.sl .byte false),(2,.sl .byte false),(11,.int .i64),(12,.int .i64),(88,.int .i64),(89,.int .i64)],[],[(0,.one (.dn .byte))],1,0,0,[],[(10,0,.byte)]⟩
abbrev Afy:=Yb1 UInt8×Yb1 UInt8×Int×Int×Int×Int×Yb1 UInt8×Int×Int
def Azd{R:Type}(_:Afy->Ya1 R)(kx:Ex->Afy->Ya1 R)(v:Afy):Ya1 R:=match v with|(a,e,f,b,c,d,w3,w4,w5)=>cond (decide (d<c)) (chk (upto b a.length a.length) (none)) (kx (.exit 2) (a,e,f,b,c,d,w3,w4,w5))
def Am1:Sig:=⟨132,[(0,.sl .byte false),(1,.sl .byte false),(2,.sl .byte false),(11,.int .i64),(12,.int .i64),(48,.int .i64),(49,.int .i64)],[],[(0,.one (.dn .byte))],1,0,0,[],[(10,0,.byte)]⟩
abbrev Kf:=Yb1 UInt8×Yb1 UInt8×Yb1 UInt8×Int×Int×Int×Int×Yb1 UInt8×Int×Int
def Pj{R:Type}(c:Kf->Ya1 R)(kx:Ex->Kf->Ya1 R)(v:Kf):Ya1 R:=match v with|(v,v1,v2,v3,a,v5,v6,w,w1,w2)=>cond (decide (v6<v5)) (chk (upto a v.length v.length) ((Bek (v.drop (a:Int).toNat) v1).bind λb=>chk (upI v3 w2 w2) (chk (upto a (wr .i64 (a+b)) v.length) (chk (decide ((0:Int)<=(w1+v3))&&decide ((0:Int)<=(w2-v3))&&decide ((w1+v3)+(w2-v3)<=(w.length:Int))) (chk (upI (wr .i64 (v3+((min ((w2-v3):Int).toNat (cut v a (wr .i64 (a+b))).length:Nat):Int))) w2 w2) (chk (decide ((0:Int)<=(w1+(wr .i64 (v3+((min ((w2-v3):Int).toNat (cut v a (wr .i64 (a+b))).length:Nat):Int)))))&&decide ((0:Int)<=(w2-(wr .i64 (v3+((min ((w2-v3):Int).toNat (cut v a (wr .i64 (a+b))).length:Nat):Int)))))&&decide ((w1+(wr .i64 (v3+((min ((w2-v3):Int).toNat (cut v a (wr .i64 (a+b))).length:Nat):Int))))+(w2-(wr .i64 (v3+((min ((w2-v3):Int).toNat (cut v a (wr .i64 (a+b))).length:Nat):Int))))<=((Cr w ((w1+v3):Int).toNat ((cut v a (wr .i64 (a+b))).take ((w2-v3):Int).toNat)).length:Int))) (c (v,v1,v2,(wr .i64 ((wr .i64 (v3+((min ((w2-v3):Int).toNat (cut v a (wr .i64 (a+b))).length:Nat):Int)))+((min ((w2-(wr .i64 (v3+((min ((w2-v3):Int).toNat (cut v a (wr .i64 (a+b))).length:Nat):Int)))):Int).toNat v2.length:Nat):Int))),(wr .i64 ((wr .i64 (a+b))+(v1.length:Int))),v5,(wr .i64 (v6+1)),(Cr (Cr w ((w1+v3):Int).toNat ((cut v a (wr .i64 (a+b))).take ((w2-v3):Int).toNat)) ((w1+(wr .i64 (v3+((min ((w2-v3):Int).toNat (cut v a (wr .i64 (a+b))).length:Nat):Int)))):Int).toNat (v2.take ((w2-(wr .i64 (v3+((min ((w2-v3):Int).toNat (cut v a (wr .i64 (a+b))).length:Nat):Int)))):Int).toNat)),w1,w2)))))))) (kx (.exit 0) (v,v1,v2,v3,a,v5,v6,w,w1,w2))
def A1p(R:Type)(k:Nat):Px R:=pxO [(207,cA Alx),(208,cA Bcz)] [] [(13,An k Am1 (Pj)),(21,An k Alj (Azd))] []
def X3(k:Nat)(x:HV [Yl1,Yl1,Yl1,Yc1]):Ya1 (HV [.sl .byte true]):=match x with
 |(s,old,new,n)=>
 let j2:=λ(p:Int)=>
  cond (decide (p=0)) (
  chk (decide (0+s.length<=Ah)) (
   some ([]++s))) (
  let y:=λ(p3:Int)=>
   chk (upI 0 (wr .i64 ((s.length:Int)+(wr .i64 (p3*(wr .i64 ((new.length:Int)-(old.length:Int))))))) (wr .i64 ((s.length:Int)+(wr .i64 (p3*(wr .i64 ((new.length:Int)-(old.length:Int)))))))&&decide ((wr .i64 ((s.length:Int)+(wr .i64 (p3*(wr .i64 ((new.length:Int)-(old.length:Int)))))))<=(Ah:Int))) (
   let j:=λ(p4:Yb1 UInt8) (w:Int) (t:Int) (r:Int) (u:Int) (q:Yb1 UInt8)=>
    chk (upI r t t) (
    chk (upto u p4.length p4.length) (
     chk (decide ((0:Int)<=(w+r))&&decide ((0:Int)<=(t-r))&&decide ((w+r)+(t-r)<=(q.length:Int))) (
     chk (upI 0 (wr .i64 (r+((min ((t-r):Int).toNat (p4.drop (u:Int).toNat).length:Nat):Int))) t) (
      chk (decide (((w+0):Int)=0)&&decide ((0:Int)<((wr .i64 (r+((min ((t-r):Int).toNat (p4.drop (u:Int).toNat).length:Nat):Int)))-0))&&decide (((wr .i64 (r+((min ((t-r):Int).toNat (p4.drop (u:Int).toNat).length:Nat):Int)))-0)<=((Cr q ((w+r):Int).toNat ((p4.drop (u:Int).toNat).take ((t-r):Int).toNat)).length:Int))) (
      some ((Cr q ((w+r):Int).toNat ((p4.drop (u:Int).toNat).take ((t-r):Int).toNat)).take (((wr .i64 (r+((min ((t-r):Int).toNat (p4.drop (u:Int).toNat).length:Nat):Int)))-0):Int).toNat))))))
   cond (decide (0<(old.length:Int))) (
    Aj (λv=>Pj v (λe z=>match z with|(v7,_,_,a,b,_,_,c,d,f)=>match e with
    |.exit 0=>j v7 d f a b c
    |_=>none)) k (s,old,new,0,0,p3,0,(List.replicate ((wr .i64 ((s.length:Int)+(wr .i64 (p3*(wr .i64 ((new.length:Int)-(old.length:Int))))))):Int).toNat (zer .byte)),0,(wr .i64 ((s.length:Int)+(wr .i64 (p3*(wr .i64 ((new.length:Int)-(old.length:Int))))))))) (
    chk (upI 0 (wr .i64 ((s.length:Int)+(wr .i64 (p3*(wr .i64 ((new.length:Int)-(old.length:Int))))))) (wr .i64 ((s.length:Int)+(wr .i64 (p3*(wr .i64 ((new.length:Int)-(old.length:Int)))))))) (
    chk (decide ((0:Int)<=0)&&decide ((0:Int)<=((wr .i64 ((s.length:Int)+(wr .i64 (p3*(wr .i64 ((new.length:Int)-(old.length:Int)))))))-0))&&decide (0+((wr .i64 ((s.length:Int)+(wr .i64 (p3*(wr .i64 ((new.length:Int)-(old.length:Int)))))))-0)<=((List.replicate ((wr .i64 ((s.length:Int)+(wr .i64 (p3*(wr .i64 ((new.length:Int)-(old.length:Int))))))):Int).toNat (zer .byte)).length:Int))) (
     Aj (λv=>Azd v (λe z=>match z with|(g,_,h,i,_,_,l,m,o)=>match e with
     |.exit 2=>j g m o h i l
     |_=>none)) k (s,new,(wr .i64 (0+((min (((wr .i64 ((s.length:Int)+(wr .i64 (p3*(wr .i64 ((new.length:Int)-(old.length:Int)))))))-0):Int).toNat new.length:Nat):Int))),0,(wr .i64 (p3-1)),0,(Cr (List.replicate ((wr .i64 ((s.length:Int)+(wr .i64 (p3*(wr .i64 ((new.length:Int)-(old.length:Int))))))):Int).toNat (zer .byte)) (0:Int).toNat (new.take (((wr .i64 ((s.length:Int)+(wr .i64 (p3*(wr .i64 ((new.length:Int)-(old.length:Int)))))))-0):Int).toNat)),0,(wr .i64 ((s.length:Int)+(wr .i64 (p3*(wr .i64 ((new.length:Int)-(old.length:Int))))))))))))
  cond (decide (n<0)) (
   y p) (
   cond (decide (p<n)) (
   y p) (
   y n)))
 cond (!decide (n=0)) (
  (Ay6 s old).bind λx=>
  j2 x) (
  j2 0)
theorem Bjt(k:Nat):FO 169 [Yl1,Yl1,Yl1,Yc1] [.sl .byte true] (X3 k):=fR (px:=A1p _ k) (n:=2) Tryz.func169 rfl (λcx H=>by have d:Lv cx (A1p (HV [.sl .byte true]) k):=lv H (c1 H Bjp (c1 H Bwo Ae)) Aa Ab;have a:=lO H d (b:=lp Tryz.f169 0) (k:=k) (n:=0) (s:=Am1) (step:=Pj) (λ_ _ _ (_,_,_,_,_,_,_,_,_,_)=>by kernel_rfl) Ai;have c:=lO H d (b:=lp Tryz.f169 1) (k:=k) (n:=0) (s:=Alj) (step:=Azd) (λ_ _ _ (_,_,_,_,_,_,_,_,_)=>by kernel_rfl) Ai;exact⟨d,(A4 (A4 Ai a) c)⟩) λ(_,_,_,_)=>by kernel_rfl
def Awx(s old new:Str)(n:Int):Ya1 Str:=cond (decide (old=[0])&&decide (new=[0,255])&&decide (n = -1)&&decide (s.length<=68719476736)) (some (esc s)) none
def Axf:FT [Yl1,Yl1,Yl1,Yc1] [.sl .byte true]:=λx=>Awx x.1 x.2.1 x.2.2.1 x.2.2.2
variable{m:Nat}{w:Str}
theorem A9x{R:Type}{a:Kf->Ya1 R}{kx:Ex->Kf->Ya1 R}{s A B:Str}{p L N i:Nat}(hs:s.length<=68719476736)(hN:N<=137438953472)(hi:i<m)(hm:ln m)(b:s.drop p=A++0::B)(t:Lib.indexByte (A++0::B) 0=(A.length:Int))(hL:L+A.length+2<=N)(r:w.length=N):Pj a kx (s,[0],[0,255],(L:Int),(p:Int),(m:Int),(i:Int),w,0,(N:Int))=a (s,[0],[0,255],((L+A.length+2:Nat):Int),((p+A.length+1:Nat):Int),(m:Int),((i+1:Nat):Int),Cr (Cr w L A) (L+A.length) [0,255],0,(N:Int)):=by
 have u:p+(A.length+1+B.length)=s.length:=by have:=congrArg List.length b;simp only[Za2,Zh1,Zf1]at this;omega
 have v:upto (p:Int) (s.length:Int) s.length=true:=by rw[Sw];simp;omega
 have e2:Bek (s.drop p) [0]=some (A.length:Int):=by simp only[Bek,b,t]
 have x:wr .i64 ((p:Int)+(A.length:Int))=((p+A.length:Nat):Int):=by rw[Be (by simp only[inI];omega)];rfl
 have y:cut s (p:Int) ((p+A.length:Nat):Int)=A:=by simp only[cut,Int.toNat_natCast,b];rw[show p+A.length-p=A.length by omega];simp
 have z:upto (p:Int) ((p+A.length:Nat):Int) s.length=true:=by rw[Sw];simp;omega
 have e6:min ((N:Int)-(L:Int)).toNat A.length=A.length:=by omega
 have e7:wr .i64 ((L:Int)+(A.length:Int))=((L+A.length:Nat):Int):=by rw[Be (by simp only[inI];omega)];rfl
 have e8:upI (L:Int) (N:Int) (N:Int)=true:=by simp only[upI,Zb1,Zg1];omega
 have e9:upI ((L+A.length:Nat):Int) (N:Int) (N:Int)=true:=by simp only[upI,Zb1,Zg1];omega
 have e10:A.take ((N:Int)-(L:Int)).toNat=A:=List.take_of_length_le (by omega);have c:([0,255]:Str).take ((N:Int)-((L+A.length:Nat):Int)).toNat=[0,255]:=List.take_of_length_le (by simp;omega);have d:min ((N:Int)-((L+A.length:Nat):Int)).toNat 2=2:=by omega
 have e:wr .i64 (((L+A.length:Nat):Int)+2)=((L+A.length+2:Nat):Int):=by rw[Be (by simp only[inI];omega)];rfl
 have f:wr .i64 (((p+A.length:Nat):Int)+1)=((p+A.length+1:Nat):Int):=by rw[Be (by simp only[inI];omega)];rfl
 have g:wr .i64 ((i:Int)+1)=((i+1:Nat):Int):=Am hi hm;have h:decide ((i:Int)<(m:Int))=true:=Ze1 (by omega);have j:(0:Int)+(L:Int)=(L:Int):=Int.zero_add _;have e18:(0:Int)+((L+A.length:Nat):Int)=((L+A.length:Nat):Int):=Int.zero_add _;have k:(Cr w L A).length=N:=by rw[F0 _ _ _ (by omega)];exact r
 have l:(decide ((0:Int)<=(L:Int))&&decide ((0:Int)<=((N:Int)-(L:Int)))&&decide ((L:Int)+((N:Int)-(L:Int))<=(N:Int)))=true:=by simp only[Zb1,Zg1];omega
 have n:(decide ((0:Int)<=((L+A.length:Nat):Int))&&decide ((0:Int)<=((N:Int)-((L+A.length:Nat):Int)))&&decide (((L+A.length:Nat):Int)+((N:Int)-((L+A.length:Nat):Int))<=(N:Int)))=true:=by simp only[Zb1,Zg1];omega
 have o:((2:Nat):Int)=2:=rfl;have q:((1:Nat):Int)=1:=rfl;have l2:([0,255]:Str).length=2:=rfl;have l1:([0]:Str).length=1:=rfl;simp only[Pj,h,Af,v,chk,Int.toNat_natCast,e2,Zc1,e8,x,z,y,e6,e7,j,r,l,e9,e10,e18,k,n,l1,l2,c,d,o,q,e,f,g]
theorem Anp{R:Type}{kx:Ex->Kf->Ya1 R}{s:Str}{c:Ya1 R}{N m:Nat}(q:s.length<=68719476736)(d:N=(esc s).length)(hm:m<=s.length)(r:∀(L p:Nat) (w:Str),p<=s.length->L=(esc (s.take p)).length->w.length=N->w.take L=esc (s.take p)->(s.drop p).count 0=0->kx (.exit 0) (s,[0],[0,255],(L:Int),(p:Int),(m:Int),(m:Int),w,0,(N:Int))=c) :
  ∀(k i L p:Nat) (w:Str),(s.drop p).count 0=m-i->i<=m->m-i<k->p<=s.length->L=(esc (s.take p)).length->w.length=N->w.take L=esc (s.take p)->Aj (λe=>Pj e kx) k (s,[0],[0,255],(L:Int),(p:Int),(m:Int),(i:Int),w,0,(N:Int))=c
 |0,i,L,p,w,_,_,h,_,_,_,_=>by omega
 |k+1,i,L,p,w,hc,b,hk,hp,hL,hw,ht=>by
  have u:s.count 0<=s.length:=List.count_le_length;have f:N<=137438953472:=by rw[d,Ve];omega
  rw[Au];by_cases hi:i<m
  ·obtain⟨A,B,hd,v,g,x⟩:=Ak6 (l:=s.drop p) (by omega);have y:s.take (p+A.length+1)=s.take p++(A++[0]):=by rw[Nat.add_assoc,List.take_add,hd];congr 1;rw[show A++0::B=(A++[0])++B by simp];exact List.take_left' (by simp)
   have e2:s.drop (p+A.length+1)=B:=by rw[Nat.add_assoc,<-List.drop_drop,hd,show A++0::B=(A++[0])++B by simp];exact List.drop_left' (by simp)
   have t:esc (s.take (p+A.length+1))=esc (s.take p)++(A++[0,255]):=by rw[y,Ow,Ow,Aze v];rfl
   have j:p+A.length+1<=s.length:=by have:=congrArg List.length hd;simp only[Za2,Zh1,Zf1]at this;omega
   have n:L+A.length+2=(esc (s.take (p+A.length+1))).length:=by rw[t,Zh1,<-hL];simp;omega
   have o:L+A.length+2<=N:=by
    have:esc s=esc (s.take (p+A.length+1))++esc (s.drop (p+A.length+1)):=by rw[<-Ow,List.take_append_drop]
    rw[d,this,Zh1];omega
   have a:(Cr w L A).length=N:=by rw[F0 _ _ _ (by omega)];exact hw
   rw[A9x q f hi (by simp only[ln];omega) hd (hd▸g) o hw];refine Anp q d hm r k (i+1) (L+A.length+2) (p+A.length+1) _ ?_ (by omega) (by omega) j n ?_ ?_
   ·rw[e2];omega
   ·rw[F0 _ _ _ (by rw[a];simp;omega)];exact a
   ·rw[show L+A.length+2=(L+A.length)+([0,255]:Str).length by rfl,Sf _ _ _ (by rw[a];simp;omega),Sf _ _ _ (by omega),ht,t];simp
  ·have b:i=m:=by omega
   subst b;simp only[Pj,Zd1 (show ¬((i:Nat):Int)<(i:Int) by omega),Ag];exact r L p w hp hL hw ht (by omega)
theorem Bv1:FO 169 [Yl1,Yl1,Yl1,Yc1] [.sl .byte true] Axf:=.fin 0 Bjt λ(s,old,new,n) r hb b=>⟨s.count 0+1,by
 simp only[Axf,Awx]at b;cases hc:decide (old=[0])&&decide (new=[0,255])&&decide (n = -1)&&decide (s.length<=68719476736)with
 |false=>rw[hc]at b;cases b
 |true=>
  rw[hc]at b;simp only[Zb1,Zg1]at hc;obtain⟨⟨⟨rfl,rfl⟩,rfl⟩,l⟩:=hc;have b:some (esc s)=some r:=b;rw[<-b];have f:s.count 0<=s.length:=List.count_le_length;have d:=Ve s;have a:Ay6 s [0]=some ((s.count 0:Nat):Int):=rfl;have o:([0,255]:Str).length=2:=rfl;have l1:([0]:Str).length=1:=rfl;by_cases q:s.count 0=0
  ·have g:(0:UInt8)∉s:=List.count_eq_zero.1 q;have c1:decide (0+s.length<=Ah)=true:=Ze1 (by simp only[Ah];omega);have c2:decide (((s.count 0:Nat):Int)=0)=true:=Ze1 (by omega);simp only[X3,a,Zc1,c2,Af,c1,chk,Aze g];rfl
  ·have c2:decide (((s.count 0:Nat):Int)=0)=false:=Zd1 (by omega);have c3:wr .i64 (((2:Nat):Int)-((1:Nat):Int))=1:=by decide
   have c4:wr .i64 (((s.count 0:Nat):Int)*1)=((s.count 0:Nat):Int):=by rw[Int.mul_one,Be (by simp only[inI];omega)]
   have t:wr .i64 ((s.length:Int)+((s.count 0:Nat):Int))=(((esc s).length:Nat):Int):=by rw[Be (by simp only[inI];omega),d];rfl
   have u:(upI 0 (((esc s).length:Nat):Int) (((esc s).length:Nat):Int)&&decide ((((esc s).length:Nat):Int)<=(Ah:Int)))=true:=by
    have v:(((esc s).length:Nat):Int)<=274877906944:=by rw[d];omega
    simp only[upI,Zb1,Zg1];exact⟨⟨⟨Int.le_refl _,Int.natCast_nonneg _⟩,Int.le_refl _⟩,v⟩
   have x:decide ((0:Int)<((1:Nat):Int))=true:=rfl;have y:decide ((-1:Int)<0)=true:=rfl;have z:(!decide ((-1:Int)=0))=true:=rfl;simp only[X3,z,a,Zc1,c2,Af,Ag,y,l1,o,c3,c4,t,u,chk,x];refine Anp (c:=some (esc s)) (N:=(esc s).length) (m:=s.count 0) l rfl f (λL p w hp hL k ht hz=>?_) (s.count 0+1) 0 0 0 _ (by simp) (Nat.zero_le _) (by omega) (Nat.zero_le _) (by simp[esc]) (by simp) (by simp[esc]);have h:(0:UInt8)∉s.drop p:=List.count_eq_zero.1 hz;have e:esc s=esc (s.take p)++s.drop p:=by rw[<-Aze h,<-Ow,List.take_append_drop]
   have i:(esc s).length=L+(s.drop p).length:=by rw[e,Zh1,<-hL]
   have a2:(s.drop p).length=s.length-p:=Za2;have e1:upI (L:Int) (((esc s).length:Nat):Int) (((esc s).length:Nat):Int)=true:=by simp only[upI,Zb1,Zg1];omega
   have e2:upto (p:Int) (s.length:Int) s.length=true:=by rw[Sw];simp;omega
   have e3:(decide ((0:Int)<=(L:Int))&&decide ((0:Int)<=((((esc s).length:Nat):Int)-(L:Int)))&&decide ((L:Int)+((((esc s).length:Nat):Int)-(L:Int))<=(((esc s).length:Nat):Int)))=true:=by simp only[Zb1,Zg1];omega
   have e4:min ((((esc s).length:Nat):Int)-(L:Int)).toNat (s.drop p).length=(s.drop p).length:=by omega
   have e5:wr .i64 ((L:Int)+(((s.drop p).length:Nat):Int))=(((esc s).length:Nat):Int):=by rw[Be (by simp only[inI];omega)];omega
   have e6:upI 0 (((esc s).length:Nat):Int) (((esc s).length:Nat):Int)=true:=by simp only[upI,Zb1,Zg1];omega
   have e7:(s.drop p).take ((((esc s).length:Nat):Int)-(L:Int)).toNat=s.drop p:=List.take_of_length_le (by omega);have j:(Cr w L (s.drop p)).length=(esc s).length:=by rw[F0 _ _ _ (by omega)];exact k
   have e8:decide ((0:Int)<(((esc s).length:Nat):Int))=true:=Ze1 (by omega);have e10:decide ((((esc s).length:Nat):Int)<=(((esc s).length:Nat):Int))=true:=Ze1 (Int.le_refl _);have e9:(Cr w L (s.drop p)).take (esc s).length=esc s:=by have:=Sf w L (s.drop p) (by omega);rw[<-i,ht]at this;rw[this,e]
   simp only[Int.zero_add,Int.add_zero,Int.sub_zero,Int.toNat_natCast,k,e1,e2,e3,e4,e5,e6,e7,j,e8,e9,e10,decide_true,Bool.true_and,Af]⟩
def Bkw(R:Type):Px R:=pxO [(169,cA Axf)] [] [] []
def Ag6(x:HV [Yl1,Yl1,Yl1]):Ya1 (HV [.sl .byte true]):=match x with|(s,old,new)=>(Awx s old new (-1)).bind λx=>some x
theorem A90:FO 124 [Yl1,Yl1,Yl1] [.sl .byte true] (Ag6):=fR (px:=Bkw _) (n:=0) Tryz.func124 rfl (λ_ H=>⟨lv H (c1 H Bv1 Ae) Aa Ab,Ai⟩) λ(_,_,_)=>by kernel_rfl
def Aou(s old new:Str):Ya1 Str:=Awx s old new (-1)
def Acv:FT [Yl1,Yl1,Yl1] [.sl .byte true]:=λx=>Aou x.1 x.2.1 x.2.2
theorem Av5:FO 124 [Yl1,Yl1,Yl1] [.sl .byte true] Acv:=.fin0 A90 λ(s,old,new) r _ a=>by rw[<-a];simp only[Ag6,Acv,Aou];cases Awx s old new (-1)<;>rfl
def C5(s:Str):Ya1 Str:=cond (decide (s.length<=2000000)) (some s) none
def E6:FT [Yl1] [.sl .byte true]:=λx=>C5 x
theorem Eo:FO 69 [Yl1] [.sl .byte true] E6:=A3p
def Ot(s:Str):Ya1 Str:=cond (decide (s.length<=2000000)) (some s) none
def H4:FT [Yl1] [.sl .byte true]:=λx=>Ot x
theorem Hd:FO 151 [Yl1] [.sl .byte true] H4:=A2j
variable{c:UInt8}
theorem B4t(n:UInt8):decide ((c.toNat:Int)=(n.toNat:Int))=decide (c=n):=by refine Zy1.2 ⟨λe=>UInt8.toNat_inj.1 (by omega),λe=>by rw[e]⟩
def nxt:Str->Str|[]=>[]|c::l=>if nxt l=[]then(if c=255 then []else [c+1])else c::nxt l
theorem Ayk:∀n:Nat,nxt (List.replicate n 255)=[]
 |0=>rfl
 |n+1=>by simp[List.replicate_succ,nxt,Ayk n]
theorem A30{c:UInt8}(h:c≠255)(n:Nat):∀l:Str,nxt (l++c::List.replicate n 255)=l++[c+1]
 |[]=>by simp[nxt,Ayk,h]
 |d::l=>by simp[nxt,A30 h n l]
def Yl:Sig:=⟨35,[],[],[(0,.one (.dn .byte))],1,0,0,[],[(3,0,.byte)]⟩
abbrev Ig:=Yb1 UInt8×Int×Int
def Qe{R:Type}(a:Ig->Ya1 R)(kx:Ex->Ig->Ya1 R)(v:Ig):Ya1 R:=match v with|(w,w1,w2)=>cond (decide (0<w2)) (chk (inO (wr .i64 (w2-1)) w2) (chk (inb (w1+(wr .i64 (w2-1))) w.length) (cond (decide (((at' .byte w (w1+(wr .i64 (w2-1)))).toNat:Int)=255)) (chk (upI 0 (wr .i64 (w2-1)) w2) (a (w,w1,(wr .i64 (w2-1))))) (kx (.exit 0) (w,w1,w2))))) (kx (.exit 0) (w,w1,w2))
noncomputable def Avv(R:Type)(_k:Nat):Px R:=pxO [(69,Mj [Yl1] .byte E6)] [] [] []
noncomputable def Aaq(R:Type)(k:Nat):Px R:=pxO [(69,Mj [Yl1] .byte E6)] [] [(2,Ax6 (Avv R k) (lp Tryz.f38 0) k Yl (Qe))] []
theorem A8c(R:Type)(k:Nat):∀(fr:Yb1 Fr) (a:Ig->Ya1 R) (kx:Ex->Ig->Ya1 R) (v:Ig),round (Aaq R k) Yl (lp Tryz.f38 0) fr a kx v=Qe a kx v
 |fr,a,kx,(w,w1,w2)=>by kernel_rfl
def Aob(k:Nat)(x:HV [Yl1]):Ya1 (HV [Yl1]):=match x with
 |b=>
 (C5 b).bind λx=>
  cond (List.isEmpty x) (
  some []) (
  Aj (λa=>Qe a (λe c=>match c with|(v,v1,v2)=>match e with
   |.exit 0=>
   cond (decide (0<v2)) (
    chk (inO (wr .i64 (v2-1)) v2) (
    chk (inb (v1+(wr .i64 (v2-1))) v.length) (
     chk (inO (wr .i64 (v2-1)) v2) (
     chk (inb (v1+(wr .i64 (v2-1))) v.length) (
      chk (decide ((0:Int)<=v1)&&decide ((0:Int)<=v2)&&decide ((v1+v2)<=((v.set ((v1+(wr .i64 (v2-1))):Int).toNat (UInt8.ofNat ((wr .u8 (((at' .byte v (v1+(wr .i64 (v2-1)))).toNat:Int)+1)):Int).toNat)).length:Int))) (
      some (cut (v.set ((v1+(wr .i64 (v2-1))):Int).toNat (UInt8.ofNat ((wr .u8 (((at' .byte v (v1+(wr .i64 (v2-1)))).toNat:Int)+1)):Int).toNat)) v1 (v1+v2)))))))) (
    chk (decide ((0:Int)<=v1)&&decide ((0:Int)<=v2)&&decide ((v1+v2)<=(v.length:Int))) (
    some (cut v v1 (v1+v2))))
   |_=>none)) k (x,0,(x.length:Int)))
theorem Bho(k:Nat):FO 38 [Yl1] [Yl1] (Aob k):=fR (px:=Aaq _ k) (n:=1) Tryz.func38 rfl (λcx H=>by have d:Lv cx (Aaq (HV [Yl1]) k):=lv H (As (cT H Eo) Ae) Aa Ab;have b:Lv cx (Avv (HV [Yl1]) k):=lv H (As (cT H Eo) Ae) Aa Ab;have a:Bp cx (Aaq (HV [Yl1]) k) (lp Tryz.f38 0):=Aoh d.p d.c d.q (by rw[H.p];exact follows) b.p b.c b.q (λ_ _ _=>rfl) (k:=k) (s:=Yl) (step:=Qe) (λ_ _=>by kernel_rfl) (by kernel_rfl) (A8c _ k) (Qz (n:=0) (by kernel_rfl) Ai);exact⟨d,(A4 Ai a)⟩) λ_=>by kernel_rfl
def Ag2(b:Str):Ya1 Str:=cond (decide (b.length<=2000000)) (some (nxt b)) none
def Abe:FT [Yl1] [Yl1]:=λx=>Ag2 x
theorem A9t{n:Nat}(a:n<w.length)(h:w.drop (n+1)=List.replicate (w.length-(n+1)) 255)(b:w[n]=255):w.drop n=List.replicate (w.length-n) 255:=by rw[Ak a,b,h,show w.length-n=(w.length-(n+1))+1 by omega,List.replicate_succ]
theorem Aor{R:Type}{kx:Ex->Ig->Ya1 R}{w:Str}{c:Ya1 R}(f:w.length<=2000000)(h:∀m:Nat,m<=w.length->w.drop m=List.replicate (w.length-m) 255->(∀(h:m-1<w.length),0<m->w[m-1]≠255)->kx (.exit 0) (w,0,(m:Int))=c) :
  ∀(k n:Nat),n<=w.length->n<k->w.drop n=List.replicate (w.length-n) 255->Aj (λa=>Qe a kx) k (w,0,(n:Int))=c
 |0,n,_,h,_=>by omega
 |k+1,n,hn,hk,hd=>by
  rw[Au];by_cases j : 0<n
  ·have b:n-1<w.length:=by omega
   have g:wr .i64 ((n:Int)-1)=((n-1:Nat):Int):=by rw[Be (by simp only[inI];omega)];omega
   have d:decide ((0:Int)<(n:Int))=true:=Ze1 (by omega);have e2:inO ((n-1:Nat):Int) (n:Int)=true:=by simp only[inO,Zb1,Zg1];omega
   have i:upI 0 ((n-1:Nat):Int) (n:Int)=true:=by simp only[upI,Zb1,Zg1];omega
   simp only[Qe,d,Af,g,e2,chk,Int.zero_add,Ao b,Al (c:=.byte) b,i];have q:decide (((w[n-1]).toNat:Int)=255)=decide (w[n-1]=255):=B4t 255;rw[q];by_cases hc:w[n-1]=255
   ·rw[Ze1 hc,Af];refine Aor f h k (n-1) (by omega) (by omega) (A9t b ?_ hc);rw[show n-1+1=n by omega];exact hd
   ·rw[Zd1 hc,Ag];exact h n hn hd λ_ _=>hc
  ·have e:n=0:=by omega
   subst e;have d:decide ((0:Int)<((0:Nat):Int))=false:=rfl;simp only[Qe,d,Ag];exact h 0 hn hd λ_ h=>absurd h (by omega)
theorem B30(hm:m<=w.length)(hd:w.drop m=List.replicate (w.length-m) 255)(a : 0<m)(hc:w[m-1]≠255):nxt w=w.take (m-1)++[w[m-1]+1]:=by
 have e:w=w.take (m-1)++w[m-1]::List.replicate (w.length-m) 255:=by
  rw[<-hd]
  conv=>lhs;rw[<-List.take_append_drop (m-1) w]
  rw[Ak (show m-1<w.length by omega),show m-1+1=m by omega]
 rw[<-A30 hc (w.length-m) (w.take (m-1)),<-e]
theorem Bm4(hd:w.drop 0=List.replicate (w.length-0) 255):nxt w=[]:=by rw[Zq1]at hd;rw[hd];exact Ayk _
theorem Bkp(b:UInt8):UInt8.ofNat (wr .u8 ((b.toNat:Int)+1)).toNat=b+1:=by
 have:wr .u8 ((b.toNat:Int)+1)=(((b.toNat+1) % 256:Nat):Int):=by simp[wr,IntKind.wrap,IntKind.bits,IntKind.signed]
 rw[this,Int.toNat_natCast];apply UInt8.toNat_inj.1;simp
theorem Bws(b : 0<m)(hm:m<=w.length):cut (w.set (m-1) c) 0 (m:Int)=w.take (m-1)++[c]:=by
 simp only[cut,Int.toNat_zero,Zq1,Int.toNat_natCast,Nat.sub_zero];rw[List.take_set];have:w.take m=w.take (m-1)++[w[m-1]]:=by
  conv=>lhs;rw[show m=(m-1)+1 by omega]
  exact(List.take_append_getElem _).symm
 have a:(w.take (m-1)).length=m-1:=by rw[List.length_take];omega
 rw[this,List.set_append_right (h:=by omega),a,Nat.sub_self];rfl
theorem Anb:FO 38 [Yl1] [Yl1] Abe:=.fin 0 Bho λb r hb a=>⟨b.length+1,by
 simp only[Abe,Ag2]at a;cases hc:decide (b.length<=2000000)with
 |false=>rw[hc]at a;cases a
 |true=>
  rw[hc]at a;have j:=of_decide_eq_true hc;have a:some (nxt b)=some r:=a;rw[<-a];have k:C5 b=some b:=by simp only[C5];rw[Ze1 j];rfl
  simp only[Aob,k,Zc1];by_cases e:b=[]
  ·subst e;rfl
  ·have e2:List.isEmpty b=false:=by cases b with|nil=>exact absurd rfl e|cons _ _=>rfl
   rw[e2,Ag];refine Aor (c:=some (nxt b)) j (λm hm hd f=>?_) (b.length+1) b.length (Zn1 _) (by omega) (by simp);by_cases g : 0<m
   ·have d:m-1<b.length:=by omega
    have l:wr .i64 ((m:Int)-1)=((m-1:Nat):Int):=by rw[Be (by simp only[inI];omega)];omega
    have f1:decide ((0:Int)<(m:Int))=true:=Ze1 (by omega);have n:inO ((m-1:Nat):Int) (m:Int)=true:=by simp only[inO,Zb1,Zg1];omega
    have h:∀x:UInt8,(decide ((0:Int)<=0)&&decide ((0:Int)<=(m:Int))&&decide ((m:Int)<=(((b.set (m-1) x).length:Nat):Int)))=true:=λx=>by simp only[List.length_set,Zb1,Zg1];omega
    simp only[f1,Af,l,n,chk,Int.zero_add,Ao d,Al (c:=.byte) d,Int.toNat_natCast,h,Bkp];rw[Bws g hm,B30 hm hd g (f d g)]
   ·have i:m=0:=by omega
    subst i;have f1:decide ((0:Int)<((0:Nat):Int))=false:=rfl;have h:(decide ((0:Int)<=0)&&decide ((0:Int)<=((0:Nat):Int))&&decide ((0:Int)+((0:Nat):Int)<=((b.length:Nat):Int)))=true:=by simp
    simp only[f1,Ag,h,chk,Af];rw[Bm4 hd];simp[cut]⟩
end Go.Proofs.YtcoaaebppfbbnaaGreatDoor
