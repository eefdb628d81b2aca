/- Texts of the proof,one behind the other: Fd,Es,Ix,En,Ep,Ac,Ad,Sc,No,So,Sd,Se,Zf,Zv,Vu,Xu,Vc,Zr,Zi,Sn,Ck,Kr,Zk. -/
import Derived.Test.YtcoaaebppfbbnaaGreatDoorK5
import Derived.Lib.Walk
import Derived.Lib.BytesEntry
import Derived.Laws.Externs
set_option linter.all false
namespace Go.Proofs.YtcoaaebppfbbnaaGreatDoor
open Go.Ax
theorem P3:∀(l:List Col) (s:Str) (i:Nat),Dt l s i = -1\/((i:Int)<=Dt l s i/\Dt l s i<(i+l.length:Nat))
 |[],_,_ =>.inl rfl
 |c::l,s,i=>by
  simp[Dt];split
  ·right;omega
  ·have:=P3 l s (i+1);omega
theorem Wu(l:List Col)(s:Str):C8 l s = -1\/(0<=C8 l s/\C8 l s<(l.length:Int)):=by have:=P3 l s 0;simpa[C8] using this
theorem Blc{l:List Col}{s:Str}(h:¬C8 l s<0):inb (C8 l s) l.length=true:=by have:=Wu l s;simp[inb];omega
def Aj8:Sig:=⟨102,[(1,.sl .col false),(4,.int .i64),(5,.int .i64),(12,.sl .expr false),(13,.int .i64),(14,.int .i64)],[(2,.ptr 0 0),(6,.ptr 1 0)],[(0,.one (.sv .expr)),(1,.one (.rw .int 2))],2,0,0,[],[]⟩
abbrev Uv:=List Col×Int×Int×List Xpr×Int×Int×Xpr×List Int
def G3{R:Type}(rf:FT [.sv .expr,.sl .col false] [.int .i64,.int .i64])(rec:Uv->Option R)(kx:Ex->Uv->Option R)(v:Uv):Option R:=match v with
 |(v,v1,v2,v3,v4,v5,w,w1) =>
 cond (decide (v5<v4)) (
  chk (inb v5 v3.length) (
  (rf ((at' .expr v3 v5),v)).bind λ(x,x1) =>
   chk (inb v5 2) (
   cond (!decide (x1=0)) (
    kx .ret (v,0,x1,v3,v4,v5,w,(w1.set (v5:Int).toNat x))) (
    cond (decide (v5=1)) (
    kx (.exit 0) (v,v1,v2,v3,v4,v5,w,(w1.set (v5:Int).toNat x))) (
    rec (v,v1,v2,v3,v4,(wr .i64 (v5+1)),w,(w1.set (v5:Int).toNat x))))))) (
  kx (.exit 0) (v,v1,v2,v3,v4,v5,w,w1))
def Axe(R:Type)(k:Nat)(rf:FT [.sv .expr,.sl .col false] [.int .i64,.int .i64]):Px R:=pxO [(90,cA rf),(134,cA A1s),(135,cA A7u)] [] [(3,Am k Aj8 (G3 rf))] []
def Jm(k:Nat)(rf:FT [.sv .expr,.sl .col false] [.int .i64,.int .i64])(x:HV [.sv .expr,.sl .col false]):Option (HV [.int .i64,.int .i64]):=match x with
 |(e,cols) =>
 Aj (λrec=>G3 rf rec (λe vz=>match vz with|(v6,v7,v8,_,_,_,a,b)=>match e with
  |.ret =>
  some (v7,v8)
  |.exit 0 =>
  let j2:=λ(q:List Int) =>
   cond (decide (a.kind=1)) (
   some (a.v.kind,0)) (
   cond (decide (a.kind=2)) (
    cond (decide ((C8 v6 a.name)<0)) (
    some (0,150)) (
    chk (inb (C8 v6 a.name) v6.length) (
     some ((at' .col v6 (C8 v6 a.name)).kind,0)))) (
    cond (decide (a.kind=16)) (
    some (2,0)) (
    let j1:=λ(p:Bool) =>
     cond (p) (
     cond ((Jh (at' .int q 0) 2)) (
      cond ((Jh (at' .int q 1) 2)) (
      some (2,0)) (
      some (0,151))) (
      some (0,151))) (
     let j:=λ(p3:Bool) =>
      cond (p3) (
      cond ((Jh (at' .int q 0) 3)) (
       cond ((Jh (at' .int q 1) 3)) (
       some (3,0)) (
       some (0,151))) (
       some (0,151))) (
      cond (decide ((at' .int q 0)=(at' .int q 1))) (
       some (2,0)) (
       cond (decide ((at' .int q 0)=1)) (
       some (2,0)) (
       cond (decide ((at' .int q 1)=1)) (
        some (2,0)) (
        some (0,151)))))
     cond (decide (a.kind=12)) (
      j (decide (a.kind=12))) (
      cond (decide (a.kind=13)) (
      j (decide (a.kind=13))) (
      cond (decide (a.kind=14)) (
       j (decide (a.kind=14))) (
       j (decide (a.kind=15))))))
    cond (decide (a.kind=3)) (
     j1 (decide (a.kind=3))) (
     cond (decide (a.kind=4)) (
     j1 (decide (a.kind=4))) (
     j1 (decide (a.kind=5)))))))
  cond (decide ((a.l.length:Int)=1)) (
   j2 (b.set (1:Int).toNat (at' .int b 0))) (
   j2 b)
  |_=>none)) k (cols,0,0,e.l,(e.l.length:Int),0,e,[0,0])
theorem Bc4(k:Nat)(rf:FT [.sv .expr,.sl .col false] [.int .i64,.int .i64])(hrf:FO 90 [.sv .expr,.sl .col false] [.int .i64,.int .i64] rf):FO 90 [.sv .expr,.sl .col false] [.int .i64,.int .i64] (Jm k rf):=fR (px:=Axe _ k rf) (n:=1) Tryz.func90 rfl (λcx H=>by have h0:Lv cx (Axe (HV [.int .i64,.int .i64]) k rf):=lv H (c1 H hrf (c1 H A5t (c1 H Bm3 Ae))) Aa Ab;have hlkindE_0:=lO H h0 (b:=lp Tryz.f90 0) (k:=k) (n:=0) (s:=Aj8) (step:=G3 rf) (λ_ _ _ (_,_,_,_,_,_,_,_)=>by kernel_rfl) Ai;exact⟨h0,(A6 Ai hlkindE_0)⟩) λ(_,_)=>by kernel_rfl
def Pe(e:Xpr)(cols:List Col)(a b:Int):Int×Int :=
 if e.kind=1 then(e.v.kind,0)
 else if e.kind=2 then(if C8 cols e.name<0 then(0,150) else((at' .col cols (C8 cols e.name)).kind,0))
 else if e.kind=16 then(2,0)
 else if e.kind=3\/e.kind=4\/e.kind=5 then(if Jh a 2&&Jh b 2 then(2,0) else(0,151))
 else if e.kind=12\/e.kind=13\/e.kind=14\/e.kind=15 then(if Jh a 3&&Jh b 3 then(3,0) else(0,151))
 else if a=b\/a=1\/b=1 then(2,0) else(0,151)
def Ay4(e:Xpr)(cols:List Col):List (Int×Int)->Int×Int
 |[]=>Pe e cols 0 0
 |[(a,f)]=>if f=0 then Pe e cols a a else(0,f)
 |(a,f)::(b,g)::_=>if f=0 then(if g=0 then Pe e cols a b else(0,g)) else(0,f)
mutual
def Bj:Xpr->List Col->Int×Int
 |.mk k v nm l,cols=>Ay4 (.mk k v nm l) cols (kindL l cols)
def kindL:List Xpr->List Col->List (Int×Int)
 |[],_=>[]
 |x::l,cols=>Bj x cols::kindL l cols
end
theorem Au8(e:Xpr)(cols:List Col):Bj e cols=Ay4 e cols (kindL e.l cols):=by cases e;simp[Bj,Xpr.l]
def Aul:FT [.sv .expr,.sl .col false] [.int .i64,.int .i64]:=λx=>some (Bj x.1 x.2)
def A9h(a:Xpr)(v6:List Col)(q:List Int):Option (Int×Int) :=
   cond (decide (a.kind=1)) (
   some (a.v.kind,0)) (
   cond (decide (a.kind=2)) (
    cond (decide ((C8 v6 a.name)<0)) (
    some (0,150)) (
    chk (inb (C8 v6 a.name) v6.length) (
     some ((at' .col v6 (C8 v6 a.name)).kind,0)))) (
    cond (decide (a.kind=16)) (
    some (2,0)) (
    let j1:=λ(p:Bool) =>
     cond (p) (
     cond ((Jh (at' .int q 0) 2)) (
      cond ((Jh (at' .int q 1) 2)) (
      some (2,0)) (
      some (0,151))) (
      some (0,151))) (
     let j:=λ(p3:Bool) =>
      cond (p3) (
      cond ((Jh (at' .int q 0) 3)) (
       cond ((Jh (at' .int q 1) 3)) (
       some (3,0)) (
       some (0,151))) (
       some (0,151))) (
      cond (decide ((at' .int q 0)=(at' .int q 1))) (
       some (2,0)) (
       cond (decide ((at' .int q 0)=1)) (
       some (2,0)) (
       cond (decide ((at' .int q 1)=1)) (
        some (2,0)) (
        some (0,151)))))
     cond (decide (a.kind=12)) (
      j (decide (a.kind=12))) (
      cond (decide (a.kind=13)) (
      j (decide (a.kind=13))) (
      cond (decide (a.kind=14)) (
       j (decide (a.kind=14))) (
       j (decide (a.kind=15))))))
    cond (decide (a.kind=3)) (
     j1 (decide (a.kind=3))) (
     cond (decide (a.kind=4)) (
     j1 (decide (a.kind=4))) (
     j1 (decide (a.kind=5)))))))
theorem Abo(e:Xpr)(cols:List Col)(a b:Int):A9h e cols [a,b]=some (Pe e cols a b):=by
 have ha:at' .int [a,b] 0=a:=rfl;have hb:at' .int [a,b] 1=b:=rfl;simp[A9h,Pe,ha,hb];generalize e.kind=k;by_cases h1:k=1
 ·simp[h1]
 by_cases h2:k=2
 ·simp[h2];by_cases hf:C8 cols e.name<0
  ·simp[hf]
  ·rw[Blc hf];simp[hf,chk]
 by_cases h16:k=16
 ·simp[h16]
 rw[Zd1 h1,Zd1 h2,Zd1 h16,if_neg h1,if_neg h2,if_neg h16];simp;by_cases h3:k=3
 ·grind
 by_cases h4:k=4
 ·grind
 by_cases h5:k=5
 ·grind
 rw[Zd1 h3,Zd1 h4,Zd1 h5,if_neg (by omega)];simp;by_cases h12:k=12
 ·grind
 by_cases h13:k=13
 ·grind
 by_cases h14:k=14
 ·grind
 by_cases h15:k=15
 ·grind
 rw[Zd1 h12,Zd1 h13,Zd1 h14,Zd1 h15,if_neg (by omega)];simp;by_cases c1:a=b
 ·simp[c1]
 by_cases c2:a=1
 ·simp[c2]
 by_cases c3:b=1
 ·simp[c3]
 simp[c1,c2,c3]
def An4{R:Type}(ga:Int->Option R)(gb:Int->Int->Option R):List (Int×Int)->Option R
 |[]=>gb 0 0
 |[(a,f)]=>if f=0 then gb a 0 else ga f
 |(a,f)::(b,g)::_=>if f=0 then(if g=0 then gb a b else ga g) else ga f
theorem Bck{R:Type}{rf:FT [.sv .expr,.sl .col false] [.int .i64,.int .i64]}{kx:Ex->Uv->Option R}{cols:List Col}{e:Xpr}{ga:Int->Option R}{gb:Int->Int->Option R}(hn:ln e.l.length)(hrf:∀x,x∈e.l->rf (x,cols)=some (Bj x cols))(h1:∀f i ks,kx .ret (cols,0,f,e.l,(e.l.length:Int),i,e,ks)=ga f)(h2:∀i a b,kx (.exit 0) (cols,0,0,e.l,(e.l.length:Int),i,e,[a,b])=gb a b)(k:Nat):Aj (λrec=>G3 rf rec kx) (k+3) (cols,0,0,e.l,(e.l.length:Int),0,e,[0,0])=An4 ga gb (kindL e.l cols):=by
 rw[Ay];generalize e.l=l at *;match l with
 |[] =>simp;exact h2 0 0 0
 |[x] =>
  simp only[G3];have e1:at' .expr [x] 0=x:=rfl;rw[e1,hrf x (by simp)];simp only[ kindL,An4];show cond (!decide ((Bj x cols).2=0)) (kx .ret (cols,0,(Bj x cols).2,[x],1,0,e,[(Bj x cols).1,0])) (Aj (λrec=>G3 rf rec kx) (k+2) (cols,0,0,[x],1,1,e,[(Bj x cols).1,0]))=_;have h1':=λf i ks=>h1 f i ks;have h2':=λi a b=>h2 i a b;have hl:(([x]:List Xpr).length:Int)=1:=rfl;rw[hl] at h1' h2';rw[h1',Ay];have:G3 rf (Aj (λrec=>G3 rf rec kx) (k+1)) kx (cols,0,0,[x],1,1,e,[(Bj x cols).1,0])=kx (.exit 0) (cols,0,0,[x],1,1,e,[(Bj x cols).1,0]):=rfl;rw[this,h2'];by_cases hf:(Bj x cols).2=0
  ·simp
  ·simp
 |x::y::t =>
  simp only[G3];have hlen:(0:Int)<((x::y::t).length:Int):=by simp;omega
  have hlen1:(1:Int)<((x::y::t).length:Int):=by simp;omega
  have e1:at' .expr (x::y::t) 0=x:=rfl;have e2:at' .expr (x::y::t) 1=y:=rfl;rw[Ze1 hlen,e1,hrf x (by simp)];have i1:inb 0 (x::y::t).length=true:=As (i:=0) (by simp);have i2:inb 1 (x::y::t).length=true:=As (i:=1) (by simp);rw[i1];simp only[ kindL,An4];show cond (!decide ((Bj x cols).2=0)) (kx .ret (cols,0,(Bj x cols).2,x::y::t,_,0,e,[(Bj x cols).1,0])) (Aj (λrec=>G3 rf rec kx) (k+2) (cols,0,0,x::y::t,((x::y::t).length:Int),1,e,[(Bj x cols).1,0]))=_;rw[h1,Ay];simp only[G3];rw[Ze1 hlen1,e2,hrf y (by simp),i2];simp only[ chk];show cond (!decide ((Bj x cols).2=0)) (ga (Bj x cols).2) (cond (!decide ((Bj y cols).2=0)) (kx .ret (cols,0,(Bj y cols).2,x::y::t,_,1,e,_)) (kx (.exit 0) (cols,0,0,x::y::t,_,1,e,[(Bj x cols).1,(Bj y cols).1])))=_;rw[h1,h2];by_cases hf:(Bj x cols).2=0
  ·grind
  ·simp[hf]
theorem Apo(k:Nat):∀(n:Nat) (e:Xpr) (cols:List Col),BdExpr e->Be e<=n->Aj (Jm (k+3)) n (e,cols)=some (Bj e cols)
 |0,e,cols,_,h=>by have:=Hw e;omega
 |n+1,e,cols,hb,h=>by
  obtain⟨hb4,hb5⟩:=Arh hb;rw[Mj] at h;have hrf:∀x,x∈e.l->Aj (Jm (k+3)) n (x,cols)=some (Bj x cols):=λx hx=>Apo k n x cols (hb5 x hx) (by have:=C3 hx;omega);rw[Ay,Au8];simp[Jm];refine(Bck (ga:=λf=>some (0,f)) (gb:=λa b=>cond (decide ((e.l.length:Int)=1)) (A9h e cols [a,a]) (A9h e cols [a,b])) hb4 hrf ?_ ?_ k).trans ?_
  ·exactλ_ _ _=>rfl
  ·exactλ_ _ _=>rfl
  ·generalize e.l=l;match l with
   |[]=>simp[kindL,An4,Ay4,Abo]
   |[x] =>simp[kindL,An4,Ay4,Abo];split<;>simp
   |x::y::t =>
    simp only[kindL,An4,Ay4,Abo];have:¬(((x::y::t).length:Int)=1):=by simp;omega
    rw[Zd1 this];split
    ·split<;>rfl
    ·rfl
theorem Av1:FO 90 [.sv .expr,.sl .col false] [.int .i64,.int .i64] Aul:=by refine .fin (ι:=Nat) 0 (F:=λn=>Aj (Jm 3) n) (λn=>FnOk.rec' (Sx.enters_of Tryz.func90 rfl rfl) (λrf hrf=>Bc4 3 rf hrf) n) λ(e,cols) r hb hx=>⟨Be e,?_⟩;exact(Apo 0 (Be e) e cols hb.1 (Zn1 _)).trans hx
def Be7(R:Type):Px R:=pxO [(89,cA Atq),(90,cA Aul)] [] [] []
def Wd(x:HV [.sv .expr,.sl .col false]):Option (HV [.int .i64,.int .i64]):=match x with
 |(e,cols) =>
 cond (!decide ((Io e)=0)) (
  some (0,(Io e))) (
  some ((Bj e cols).1,(Bj e cols).2))
theorem Bba:FO 180 [.sv .expr,.sl .col false] [.int .i64,.int .i64] (Wd):=fR (px:=Be7 _) (n:=0) Tryz.func180 rfl (λ_ H=>⟨lv H (c1 H Aw8 (c1 H Av1 Ae)) Aa Ab,Ai⟩) λ(_,_)=>by kernel_rfl
def Km(e:Xpr)(cols:List Col):Int×Int :=
 cond (!decide ((Io e)=0)) (
  (0,(Io e))) (
  ((Bj e cols).1,(Bj e cols).2))
theorem Bdt(x:HV [.sv .expr,.sl .col false]):Wd x=some (Km x.1 x.2):=by
 first
  |exact rfl
  |simp only[Wd,Km,Az]
def A5z:FT [.sv .expr,.sl .col false] [.int .i64,.int .i64]:=λx=>some (Km x.1 x.2)
theorem Bl5:FO 180 [.sv .expr,.sl .col false] [.int .i64,.int .i64] A5z :=.fin0 Bba λx _ _ hx=>(Bdt x).trans hx
def Ag7:Sig:=⟨133,[(1,.sl .col false),(2,.sl .val false),(7,.int .i64),(8,.sl .val true),(9,.bool),(15,.sl .expr false),(16,.int .i64),(17,.int .i64)],[(3,.ptr 0 0),(6,.ptr 1 0)],[(0,.one (.sv .expr)),(1,.one (.sv .val))],2,0,0,[],[]⟩
abbrev Ue:=List Col×List Val×Int×List Val×Bool×List Xpr×Int×Int×Xpr×Val
def Sa{R:Type}(rf:FT [.sv .expr,.sl .col false,.sl .val false] [.sv .val,.int .i64])(rec:Ue->Option R)(kx:Ex->Ue->Option R)(v:Ue):Option R:=match v with
 |(v,v1,v2,v3,v4,v5,v6,v7,w,w1) =>
 cond (decide (v7<v6)) (
  chk (inb v7 v5.length) (
  (rf ((at' .expr v5 v7),v,v1)).bind λ(x,x1) =>
   cond (!decide (x1=0)) (
   kx .ret (v,v1,x1,v3,v4,v5,v6,v7,w,(Val.mk 0 0 []))) (
   chk (decide (v3.length+1<=Ah)) (
    cond (v4) (
    rec (v,v1,v2,(v3++[x]),true,v5,v6,(wr .i64 (v7+1)),w,w1)) (
    rec (v,v1,v2,(v3++[x]),decide (x.kind=1),v5,v6,(wr .i64 (v7+1)),w,w1)))))) (
  kx (.exit 0) (v,v1,v2,v3,v4,v5,v6,v7,w,w1))
def Awb(R:Type)(k:Nat)(rf:FT [.sv .expr,.sl .col false,.sl .val false] [.sv .val,.int .i64]):Px R:=pxO [(91,cA rf),(134,cA A1s),(136,cA Au0),(137,cA As9),(139,cA Ay9)] [(138,qA Bjm),(56,qA A4x)] [(4,Am k Ag7 (Sa rf))] []
def Ji(k:Nat)(rf:FT [.sv .expr,.sl .col false,.sl .val false] [.sv .val,.int .i64])(x:HV [.sv .expr,.sl .col false,.sl .val false]):Option (HV [.sv .val,.int .i64]):=match x with
 |(e,cols,row) =>
 Aj (λrec=>Sa rf rec (λe vz=>match vz with|(v8,v9,d,b,c,_,_,_,a,f)=>match e with
  |.ret =>
  some (f,d)
  |.exit 0 =>
  cond (decide (a.kind=1)) (
   some (a.v,0)) (
   cond (decide (a.kind=2)) (
   chk (inb (C8 v8 a.name) v9.length) (
    some ((at' .val v9 (C8 v8 a.name)),0))) (
   cond (decide (a.kind=16)) (
    some ((Fy c),0)) (
    let j:=λ(p5:Bool) =>
    cond (p5) (
     some ((Ad1 a.kind b),0)) (
     cond (c) (
     some ((Val.mk 1 0 []),0)) (
     cond (decide (a.kind=3)) (
      chk (inb 0 b.length) (
      some ((Fy (decide ((at' .val b 0).n=0))),0))) (
      cond (decide (a.kind=15)) (
      chk (inb 0 b.length) (
       some ((U0 a.kind ((at' .val b 0).n) 0).1,(U0 a.kind ((at' .val b 0).n) 0).2))) (
      cond (decide (12<=a.kind)) (
       chk (inb 0 b.length) (
       chk (inb 1 b.length) (
        some ((U0 a.kind ((at' .val b 0).n) ((at' .val b 1).n)).1,(U0 a.kind ((at' .val b 0).n) ((at' .val b 1).n)).2)))) (
       chk (inb 0 b.length) (
       chk (inb 1 b.length) (
        some ((Fy (Ah3 a.kind (Gt (at' .val b 0) (at' .val b 1)))),0))))))))
    cond (decide (a.kind=4)) (
    j true) (
    j (decide (a.kind=5))))))
  |_=>none)) k (cols,row,0,[],false,e.l,(e.l.length:Int),0,e,(Val.mk 0 0 []))
theorem Bbc(k:Nat)(rf:FT [.sv .expr,.sl .col false,.sl .val false] [.sv .val,.int .i64])(hrf:FO 91 [.sv .expr,.sl .col false,.sl .val false] [.sv .val,.int .i64] rf):FO 91 [.sv .expr,.sl .col false,.sl .val false] [.sv .val,.int .i64] (Ji k rf):=fR (px:=Awb _ k rf) (n:=1) Tryz.func91 rfl (λcx H=>by have h0:Lv cx (Awb (HV [.sv .val,.int .i64]) k rf):=lv H (c1 H hrf (c1 H A5t (c1 H Azx (c1 H Bey (c1 H Bch Ae))))) (q1 H Bq4 (q1 H A7r Aa)) Ab;have hlevalE_0:=lO H h0 (b:=lp Tryz.f91 0) (k:=k) (n:=0) (s:=Ag7) (step:=Sa rf) (λ_ _ _ (_,_,_,_,_,_,_,_,_,_)=>by kernel_rfl) Ai;exact⟨h0,(A6 Ai hlevalE_0)⟩) λ(_,_,_)=>by kernel_rfl
def A2a(a:Xpr)(v8:List Col)(v9:List Val)(b:List Val)(c:Bool):Option (Val×Int) :=
  cond (decide (a.kind=1)) (
   some (a.v,0)) (
   cond (decide (a.kind=2)) (
   chk (inb (C8 v8 a.name) v9.length) (
    some ((at' .val v9 (C8 v8 a.name)),0))) (
   cond (decide (a.kind=16)) (
    some ((Fy c),0)) (
    let j:=λ(p3:Bool) =>
    cond (p3) (
     some ((Ad1 a.kind b),0)) (
     cond (c) (
     some ((Val.mk 1 0 []),0)) (
     cond (decide (a.kind=3)) (
      chk (inb 0 b.length) (
      some ((Fy (decide ((at' .val b 0).n=0))),0))) (
      cond (decide (a.kind=15)) (
      chk (inb 0 b.length) (
       some (((U0 a.kind ((at' .val b 0).n) 0).1),(U0 a.kind ((at' .val b 0).n) 0).2))) (
      cond (decide (12<=a.kind)) (
       chk (inb 0 b.length) (
       chk (inb 1 b.length) (
        some (((U0 a.kind ((at' .val b 0).n) ((at' .val b 1).n)).1),(U0 a.kind ((at' .val b 0).n) ((at' .val b 1).n)).2)))) (
       chk (inb 0 b.length) (
       chk (inb 1 b.length) (
        some ((Fy (Ah3 a.kind (Gt (at' .val b 0) (at' .val b 1)))),0))))))))
    cond (decide (a.kind=4)) (
    j true) (
    j (decide (a.kind=5))))))
mutual
def Q0:Xpr->List Col->List Val->Option (Val×Int)
 |.mk k v nm l,cols,row=>match evalL l cols row with|some (f,vs)=>chk (decide (l.length<=Ah)) (if f=0 then A2a (.mk k v nm l) cols row vs (vs.any Ii) else some (⟨0,0,[]⟩,f))|none=>none
def evalL:List Xpr->List Col->List Val->Option (Int×List Val)
 |[],_,_=>some (0,[])
 |x::l,cols,row=>match Q0 x cols row with
  |some (v,f)=>if f=0 then(match evalL l cols row with
   |some (g,vs)=>some (g,v::vs)
   |none=>none) else some (f,[])
  |none=>none
end
theorem A0z(e:Xpr)(cols:List Col)(row:List Val):Q0 e cols row=match evalL e.l cols row with
  |some (f,vs)=>chk (decide (e.l.length<=Ah)) (if f=0 then A2a e cols row vs (vs.any Ii) else some (⟨0,0,[]⟩,f))
  |none=>none:=by
 cases e;simp[Q0];rfl
def A6b:FT [.sv .expr,.sl .col false,.sl .val false] [.sv .val,.int .i64]:=λx=>Q0 x.1 x.2.1 x.2.2
theorem An9{R:Type}{rf:FT [.sv .expr,.sl .col false,.sl .val false] [.sv .val,.int .i64]}{kx:Ex->Ue->Option R}{cols:List Col}{row:List Val}{e:Xpr}{ga:Int->Option R}{gb:List Val->Bool->Option R}(hn:ln e.l.length)(hm:e.l.length<=Ah)(hrf:∀x,x∈e.l->∀r,Q0 x cols row=some r->rf (x,cols,row)=some r)(h1:∀f vs u j,kx .ret (cols,row,f,vs,u,e.l,(e.l.length:Int),j,e,⟨0,0,[]⟩)=ga f)(h2:∀vs u j z,kx (.exit 0) (cols,row,0,vs,u,e.l,(e.l.length:Int),j,e,z)=gb vs u):∀(k i:Nat) (acc:List Val) (u:Bool) z f vs,acc.length=i->i<=e.l.length->e.l.length-i<k->evalL (e.l.drop i) cols row=some (f,vs)->Aj (λrec=>Sa rf rec kx) k (cols,row,0,acc,u,e.l,(e.l.length:Int),(i:Int),e,z)=if f=0 then gb (acc++vs) (u||vs.any Ii) else ga f
 |0,i,_,_,_,_,_,_,_,h,_=>by omega
 |k+1,i,acc,u,z,f,vs,ha,hi,h,hev=>by
  rw[Ay];by_cases hl:i<e.l.length
  ·rw[Ak hl] at hev;simp[evalL] at hev;split at hev
   ·rename_i v f' hx;simp only[Sa,Al (c :=.expr) hl,As hl,(hrf _ (List.getElem_mem hl) _ hx),Zc1,chk,Bool.cond_decide];rw[if_pos (by omega)];split at hev
    ·rename_i hf;subst hf;split at hev
     ·rename_i g vs' hrest;simp[ Zp1] at hev;obtain⟨rfl,rfl⟩:=hev;rw[if_pos (by simp at *;omega)];simp only[ An hl hn,(λu=>An9 hn hm hrf h1 h2 k (i+1) (acc++[v]) u z g vs' (by simp[ha]) (by omega) (by omega) hrest),List.any_cons];cases u<;>simp[Ii]
     ·cases hev
    ·rename_i hf;simp[ Zp1] at hev;obtain⟨rfl,rfl⟩:=hev;rw[Zd1 hf,if_neg hf];simp[ h1]
   ·cases hev
  ·rw[Zk1 (by omega)] at hev;simp[evalL,Zp1] at hev;obtain⟨rfl,rfl⟩:=hev;simp only[Sa,h2,Bool.cond_decide];rw[if_neg (by omega)];simp
theorem Ank(k:Nat):∀(n:Nat) (e:Xpr) (cols:List Col) (row:List Val) r,BdExpr e->Be e<=n->Be e<=k->Q0 e cols row=some r->Aj (Ji k) n (e,cols,row)=some r
 |0,e,_,_,_,_,h,_,_=>by have:=Hw e;omega
 |n+1,e,cols,row,r,hb,h,hk,he=>by
  obtain⟨hb4,hb5⟩:=Arh hb;rw[Mj] at h hk;have hl:=Hn e.l;have hrf:∀x,x∈e.l->∀r,Q0 x cols row=some r->Aj (Ji k) n (x,cols,row)=some r:=λx hx r hr=>Ank k n x cols row r (hb5 x hx) (by have:=C3 hx;omega) (by have:=C3 hx;omega) hr;rw[Ay];simp[Ji];rw[A0z] at he;split at he
  ·rename_i f vs hev;obtain⟨hc,he⟩:=A0 he;simp at hc;refine(An9 (ga:=λf=>some (⟨0,0,[]⟩,f)) (gb:=λvs u=>A2a e cols row vs u) hb4 hc hrf ?_ ?_ k 0 [] false _ f vs rfl (Nat.zero_le _) (by omega) (by simpa using hev)).trans ?_
   ·exactλ_ _ _ _=>rfl
   ·exactλ_ _ _ _=>rfl
   ·simpa using he
  ·cases he
theorem Bew:FO 91 [.sv .expr,.sl .col false,.sl .val false] [.sv .val,.int .i64] A6b:=by refine .fin (ι:=Nat) 0 (F:=λn=>Aj (Ji n) n) (λn=>FnOk.rec' (Sx.enters_of Tryz.func91 rfl rfl) (λrf hrf=>Bbc n rf hrf) n) λ(e,cols,row) r hb hx=>⟨Be e,?_⟩;exact Ank (Be e) (Be e) e cols row r hb.1 (Zn1 _) (Zn1 _) hx
mutual
def J4:Xpr->Xpr->Bool
 |.mk k v n l,.mk k' v' n' l'=>decide (k=k')&&decide (v=v')&&decide (n=n')&&xsames l l'
def xsames:List Xpr->List Xpr->Bool
 |[],[]=>true
 |x::l,y::m=>J4 x y&&xsames l m
 |_,_=>false
end
mutual
theorem Acf:∀a b:Xpr,J4 a b=true↔a=b
 |.mk k v n l,.mk k' v' n' l'=>by
  simp only[J4,Zb1,Zg1,xsames_iff l l',Xpr.mk.injEq];constructor
  ·rintro⟨⟨⟨h1,h2⟩,h3⟩,h4⟩;exact⟨h1,h2,h3,h4⟩
  ·rintro⟨h1,h2,h3,h4⟩;exact⟨⟨⟨h1,h2⟩,h3⟩,h4⟩
theorem xsames_iff:∀a b:List Xpr,xsames a b=true↔a=b
 |[],[]=>by simp[xsames]
 |x::l,y::m=>by simp only[xsames,Zb1,Acf x y,xsames_iff l m,Ze2]
 |[],_::_=>by simp[xsames]
 |_::_,[]=>by simp[xsames]
end
instance:DecidableEq Xpr:=λa b=>decidable_of_iff (J4 a b=true) (Acf a b)
theorem R1(a b:Xpr):J4 a b=decide (a=b):=by rw[Bool.eq_iff_iff,Acf,Zg1]
theorem A4c{a b:List Xpr}(h:xsames a b=true):a.length=b.length:=by rw[(xsames_iff a b).1 h]
theorem Bmx(a b:Xpr):J4 a b=(decide (a.kind=b.kind)&&decide (a.v=b.v)&&decide (a.name=b.name)&&xsames a.l b.l):=by cases a;cases b;simp[J4];rfl
def Ai2:Sig:=⟨32,[(1,.sl .expr false),(6,.bool),(15,.sl .expr false),(16,.int .i64),(17,.int .i64)],[(2,.fn 251 [])],[],40,40,200,[],[]⟩
abbrev Tt:=List Xpr×Bool×List Xpr×Int×Int
def R0{R:Type}(rf:FT [.sv .expr,.sv .expr] [.bool])(rec:Tt->Option R)(kx:Ex->Tt->Option R)(v:Tt):Option R:=match v with
 |(v,v1,v2,v3,v4) =>
 cond (decide (v4<v3)) (
  chk (inb v4 v2.length) (
  chk (inb v4 v.length) (
   (rf ((at' .expr v2 v4),(at' .expr v v4))).bind λx =>
   cond (!x) (
    kx .ret (v,false,v2,v3,v4)) (
    rec (v,v1,v2,v3,(wr .i64 (v4+1))))))) (
  kx (.exit 0) (v,v1,v2,v3,v4))
def Ak2(R:Type)(k:Nat)(rf:FT [.sv .expr,.sv .expr] [.bool]):Px R:=pxO [(251,cA rf)] [] [(4,Am k Ai2 (R0 rf))] []
noncomputable def Avc(R:Type)(k:Nat)(rf:FT [.sv .expr,.sv .expr] [.bool]):Px R:=pxO [(255,A1 40 200 (Ak2 R k rf) Tryz.f255)] [] [] []
def Hi(k:Nat)(rf:FT [.sv .expr,.sv .expr] [.bool])(x:HV [.sv .expr,.sv .expr]):Option (HV [.bool]):=match x with
 |(a,b) =>
 let j1:=λ(p:Bool) =>
  let j:=λ(p1:Bool) =>
  cond (p1) (
   cond (!decide ((a.l.length:Int)=(b.l.length:Int))) (
   some false) (
   Aj (λrec=>R0 rf rec (λe vz=>match vz with|(_,v6,_,_,_)=>match e with
    |.ret =>
    some v6
    |.exit 0 =>
    some true
    |_=>none)) k (b.l,false,a.l,(a.l.length:Int),0))) (
   some false)
  cond (p) (
  j (decide (a.name=b.name))) (
  j false)
 cond (decide (a.kind=b.kind)) (
  j1 (decide (a.v=b.v))) (
  j1 false)
theorem Beb(k:Nat)(rf:FT [.sv .expr,.sv .expr] [.bool])(hrf:FO 251 [.sv .expr,.sv .expr] [.bool] rf):FO 251 [.sv .expr,.sv .expr] [.bool] (Hi k rf):=fR (px:=Avc _ k rf) (n:=0) Tryz.func251 rfl (λcx H=>by have h1:Lv cx (Ak2 (HV [.bool]) k rf):=lv H (c1 H hrf Ae) Aa Ab;have hlasame_0:=lO H h1 (b:=lp Tryz.f255 0) (k:=k) (n:=0) (s:=Ai2) (step:=R0 rf) (λ_ _ _ (_,_,_,_,_)=>by kernel_rfl) Ai;have h0:Lv cx (Avc (HV [.bool]) k rf):=lv H (Ao (cR H h1 Tryz.func255 rfl (n:=1) ((A6 Ai hlasame_0))) Ae) Aa Ab;exact⟨h0,Ai⟩) λ(_,_)=>by kernel_rfl
def P1(a b:Xpr):Bool:=J4 a b
def S5:FT [.sv .expr,.sv .expr] [.bool]:=λx=>some (P1 x.1 x.2)
theorem A2r{R:Type}{rf:FT [.sv .expr,.sv .expr] [.bool]}{kx:Ex->Tt->Option R}{l m:List Xpr}{c:Bool->Option R}(hn:ln l.length)(hm:l.length=m.length)(hrf:∀x,x∈l->∀y,y∈m->rf (x,y)=some (J4 x y))
  (h1:∀i,kx .ret (m,false,l,(l.length:Int),i)=c false) (h2:∀q i,kx (.exit 0) (m,q,l,(l.length:Int),i)=c true) (k:Nat) (hk:l.length<k):Aj (λrec=>R0 rf rec kx) k (m,false,l,(l.length:Int),0)=c (xsames l m):=by
 refine(A8 l.length (λi=>(m,false,l,(l.length:Int),(i:Int))) (λi=>c (xsames (l.drop i) (m.drop i))) (λi hi rec hr =>?_) (λrec =>?_) k 0 (Nat.zero_le _) (by omega)).trans (by rw[Zq1,Zq1])
 ·have hi2:i<m.length:=by omega
  simp only[R0,Ea hi,As hi,As hi2,Al (c :=.expr) hi,Al (c :=.expr) hi2,hrf _ (List.getElem_mem hi) _ (List.getElem_mem hi2),An hi hn,hr,h1,Ak hi,Ak hi2,xsames];cases J4 l[i] m[i]<;>rfl
 ·simp only[R0,Ee,h2];rw[Zk1 (Zn1 _),Zk1 (by omega)];rfl
theorem Aqa(k:Nat):∀(n:Nat) (a b:Xpr),BdExpr a->BdExpr b->Be a<=n->Be a<=k->Aj (Hi k) n (a,b)=some (J4 a b)
 |0,a,b,_,_,h,_=>by have:=Hw a;omega
 |n+1,a,b,ha,hb,h,hk=>by
  obtain⟨hb4,hb5⟩:=Arh ha;obtain⟨hc4,hc5⟩:=Arh hb;rw[Mj] at h hk;have hl:=Hn a.l;have hrf:∀x,x∈a.l->∀y,y∈b.l->Aj (Hi k) n (x,y)=some (J4 x y):=λx hx y hy=>Aqa k n x y (hb5 x hx) (hc5 y hy) (by have:=C3 hx;omega) (by have:=C3 hx;omega);rw[Ay,Bmx];simp only[Hi];by_cases hlen:a.l.length=b.l.length
  ·have hloop:=A2r (R:=Bool) (rf:=Aj (Hi k) n) (l:=a.l) (m:=b.l) (c:=some) (kx:=λe v=>match v with
    |(_,v6,_,_,_)=>match e with
     |.ret=>some v6
     |.exit 0=>some true
     |_=>none) hb4 hlen hrf (λ_=>rfl) (λ_ _=>rfl) k (by omega)
   rw[hloop,Ze1 (show(a.l.length:Int)=(b.l.length:Int) by omega)];cases decide (a.kind=b.kind)<;>cases decide (a.v=b.v)<;>cases decide (a.name=b.name)<;>cases xsames a.l b.l<;>rfl
  ·have hno:xsames a.l b.l=false:=by cases hs:xsames a.l b.l with|false=>rfl|true=>exact absurd (A4c hs) hlen
   rw[hno,Zd1 (show ¬(a.l.length:Int)=(b.l.length:Int) by omega)];cases decide (a.kind=b.kind)<;>cases decide (a.v=b.v)<;>cases decide (a.name=b.name)<;>rfl
theorem Qv:FO 251 [.sv .expr,.sv .expr] [.bool] S5:=by refine .fin (ι:=Nat) 0 (F:=λn=>Aj (Hi n) n) (λn=>FnOk.rec' (Sx.enters_of Tryz.func251 rfl rfl) (λrf hrf=>Beb n rf hrf) n) λ(a,b) r hb hx=>⟨Be a,?_⟩;exact(Aqa (Be a) (Be a) a b hb.1 hb.2 (Zn1 _) (Zn1 _)).trans hx
def Am1:Sig:=⟨19,[(0,.sl .str false),(1,.str),(4,.int .i64),(7,.int .i64),(8,.int .i64)],[],[],0,0,0,[],[]⟩
abbrev Zc:=List Str×Str×Int×Int×Int
def Adm{R:Type}(rec:Zc->Option R)(kx:Ex->Zc->Option R)(v:Zc):Option R:=match v with
 |(v,v1,v2,v3,v4) =>
 cond (decide (v4<v3)) (
  chk (inb v4 v.length) (
  cond (decide (v1=(at' .str v v4))) (
   kx .ret (v,v1,v4,v3,v4)) (
   rec (v,v1,v2,v3,(wr .i64 (v4+1)))))) (
  kx (.exit 0) (v,v1,v2,v3,v4))
def A62(R:Type)(k:Nat):Px R:=pxO [] [] [(2,Am k Am1 (Adm))] []
def Aqn(k:Nat)(x:HV [.sl .str false,.str]):Option (HV [.int .i64]):=match x with
 |(l,s) =>
 Aj (λrec=>Adm rec (λe vz=>match vz with|(_,_,v7,_,_)=>match e with
  |.ret =>
  some v7
  |.exit 0 =>
  some (-1)
  |_=>none)) k (l,s,0,(l.length:Int),0)
theorem Bj2(k:Nat):FO 88 [.sl .str false,.str] [.int .i64] (Aqn k):=fR (px:=A62 _ k) (n:=1) Tryz.func88 rfl (λcx H=>by have h0:Lv cx (A62 (HV [.int .i64]) k):=lv H Ae Aa Ab;have hlsidx_0:=lO H h0 (b:=lp Tryz.f88 0) (k:=k) (n:=0) (s:=Am1) (step:=Adm) (λ_ _ _ (_,_,_,_,_)=>by kernel_rfl) Ai;exact⟨h0,(A6 Ai hlsidx_0)⟩) λ(_,_)=>by kernel_rfl
def Buc(l:List Str)(s:Str):Int:=Lp.idx s l 0
def A5c:FT [.sl .str false,.str] [.int .i64]:=λx=>some (Buc x.1 x.2)
theorem Aqp{R:Type}{kx:Ex->Zc->Option R}{l:List Str}{s:Str}{c:Int->Option R}(hl:ln l.length)(h1:∀(r:Int) (i:Int),kx .ret (l,s,r,(l.length:Int),i)=c r)(h2:∀q:Int,kx (.exit 0) (l,s,q,(l.length:Int),(l.length:Int))=c (-1)) :
  ∀(k i:Nat) (q:Int),i<=l.length->l.length-i<k->Aj (λrec=>Adm rec kx) k (l,s,q,(l.length:Int),(i:Int))=c (Lp.idx s (l.drop i) i)
 |0,i,_,_,h=>absurd h (Zm1 _)
 |k+1,i,q,hi,h=>by
  rw[Ay];by_cases hlt:i<l.length
  ·have e1:decide ((i:Int)<(l.length:Int))=true:=Ze1 (by omega);have en:((i+1:Nat):Int)=(i:Int)+1:=by omega
   simp only[Adm,As hlt,chk,Al (c :=.str) hlt,An hlt hl,(Aqp hl h1 h2 k (i+1) q (by omega) (by omega))];rw[Ak hlt,Lp.idx,en];by_cases hx:s=l[i]
   ·grind
   ·grind
  ·have hi:i=l.length:=by omega
   subst hi;simp[Adm,h2,Lp.idx]
theorem Bph:FO 88 [.sl .str false,.str] [.int .i64] A5c :=.fin 0 Bj2 λ(l,s) r hb hx=>⟨l.length+1,by simp only[A5c,Za1] at hx;rw[<-hx];simp only[Aqn];exact Aqp (c:=λq=>some q) hb.1.1 (λ_ _=>rfl) (λ_=>rfl) (l.length+1) 0 0 (Nat.zero_le _) (by omega)⟩
def Bq9(R:Type):Px R:=pxO [(88,cA A5c)] [] [] []
def Abn(x:HV [.sl .str false,.str]):Option (HV [.bool]):=match x with
 |(l,s) =>
 some (decide (0<=(Buc l s)))
theorem Bmq:FO 54 [.sl .str false,.str] [.bool] (Abn):=fR (px:=Bq9 _) (n:=0) Tryz.func54 rfl (λ_ H=>⟨lv H (c1 H Bph Ae) Aa Ab,Ai⟩) λ(_,_)=>by kernel_rfl
def Bec(l:List Str)(s:Str):Bool :=(decide (0<=(Buc l s)))
theorem Bh8(x:HV [.sl .str false,.str]):Abn x=some (Bec x.1 x.2):=by
 first
  |exact rfl
  |simp only[Abn,Bec,Az]
def Bg4:FT [.sl .str false,.str] [.bool]:=λx=>some (Bec x.1 x.2)
theorem Brf:FO 54 [.sl .str false,.str] [.bool] Bg4 :=.fin0 Bmq λx _ _ hx=>(Bh8 x).trans hx
theorem Bos(l:List Str)(s:Str):Bec l s=l.contains s:=by have e:Bec l s=decide (0<=Lp.idx s l 0):=rfl;rw[e,Bool.eq_iff_iff,Zg1,Lp.idx_ge s l 0 (Int.le_refl 0)];simp
theorem A3o(k:Int):(parts k=0/\(k=1\/k=2))\/(parts k=1/\(k=3\/k=15\/k=16))\/(parts k=2/\4<=k/\k<=14)\/parts k = -1:=by
 by_cases h1:k=1
 ·subst h1;left;decide
 by_cases h2:k=2
 ·subst h2;left;decide
 by_cases h3:k=3
 ·subst h3;right;left;decide
 by_cases h15:k=15
 ·subst h15;right;left;decide
 by_cases h16:k=16
 ·subst h16;right;left;decide
 right;right;by_cases h : 4<=k/\k<=14
 ·left;refine⟨?_,h⟩;have:k=4\/k=5\/k=6\/k=7\/k=8\/k=9\/k=10\/k=11\/k=12\/k=13\/k=14:=by omega
  rcases this with rfl|rfl|rfl|rfl|rfl|rfl|rfl|rfl|rfl|rfl|rfl<;>decide
 ·right;have hm:U1 signsL k=[]:=by simp only[signsL,U1];rw[Zd1 (by omega),Zd1 (by omega),Zd1 (by omega),Zd1 (by omega),Zd1 (by omega),Zd1 (by omega),Zd1 (by omega),Zd1 (by omega),Zd1 (by omega),Zd1 (by omega),Zd1 (by omega)]
  simp[parts,hm,h1,h2,h3,h15,h16]
theorem Atc{e:Xpr}{m:Int}(h:B1 e m=true):(e.l.length:Int)=parts e.kind/\eok e.kind e.v e.name=true/\erights e.l (wr .i64 (m-1))=true:=by rw[Aoa] at h;simp only[Zb1,Zg1] at h;exact⟨h.1.1.2,h.1.2,h.2⟩
theorem Bcj{e:Xpr}:Io e=0↔B1 e 30=true:=by simp only[Io];cases B1 e 30<;>simp
def Aqz:Sig:=⟨26,[(0,.sl .col false),(1,.sl .col false),(4,.bool),(12,.int .i64),(13,.int .i64)],[],[],0,0,0,[],[]⟩
abbrev Aa3:=List Col×List Col×Bool×Int×Int
def Adi{R:Type}(rec:Aa3->Option R)(kx:Ex->Aa3->Option R)(v:Aa3):Option R:=match v with
 |(v,v1,v2,v3,v4) =>
 cond (decide (v4<v3)) (
  chk (inb v4 v.length) (
  chk (inb v4 v1.length) (
   cond (!decide ((at' .col v v4)=(at' .col v1 v4))) (
   kx .ret (v,v1,false,v3,v4)) (
   rec (v,v1,v2,v3,(wr .i64 (v4+1))))))) (
  kx (.exit 0) (v,v1,v2,v3,v4))
def A9b(R:Type)(k:Nat):Px R:=pxO [] [] [(4,Am k Aqz (Adi))] []
def Ard(k:Nat)(x:HV [.sl .col false,.sl .col false]):Option (HV [.bool]):=match x with
 |(a,b) =>
 cond (!decide ((a.length:Int)=(b.length:Int))) (
  some false) (
  Aj (λrec=>Adi rec (λe vz=>match vz with|(_,_,v7,_,_)=>match e with
  |.ret =>some v7
  |.exit 0 =>some true
  |_=>none)) k (a,b,false,(a.length:Int),0))
theorem Bms(k:Nat):FO 252 [.sl .col false,.sl .col false] [.bool] (Ard k):=fR (px:=A9b _ k) (n:=1) Tryz.func252 rfl (λcx H=>by have h0:Lv cx (A9b (HV [.bool]) k):=lv H Ae Aa Ab;have hlaeqc_0:=lO H h0 (b:=lp Tryz.f252 0) (k:=k) (n:=0) (s:=Aqz) (step:=Adi) (λ_ _ _ (_,_,_,_,_)=>by kernel_rfl) Ai;exact⟨h0,(A6 Ai hlaeqc_0)⟩) λ(_,_)=>by kernel_rfl
def Bqo(a b:List Col):Bool:=decide (a=b)
def A3k:FT [.sl .col false,.sl .col false] [.bool]:=λx=>some (Bqo x.1 x.2)
theorem Bd4{R:Type}{kx:Ex->Aa3->Option R}{a b:List Col}{c:Bool->Option R}(hn:ln a.length)(he:a.length=b.length)(h1:∀i,kx .ret (a,b,false,(a.length:Int),i)=c false)(h2:∀q i,kx (.exit 0) (a,b,q,(a.length:Int),i)=c true)(k:Nat)(hk:a.length<k) :
  Aj (λrec=>Adi rec kx) k (a,b,false,(a.length:Int),0)=c (decide (a=b)):=by
 refine(A8 a.length (λi=>(a,b,false,(a.length:Int),(i:Int))) (λi=>c (decide (a.drop i=b.drop i))) (λi hi rec hr =>?_) (λrec =>?_) k 0 (Nat.zero_le _) (by omega)).trans (by rw[Zq1,Zq1])
 ·have hi2:i<b.length:=by omega
  simp only[Adi,Ea hi,Af,As hi,As hi2,chk,Al (c :=.col) hi,Al (c :=.col) hi2,An hi hn,hr,h1,Ak hi,Ak hi2,Ze2];by_cases hx:a[i]=b[i]
  ·rw[Ze1 hx];simp[hx]
  ·rw[Zd1 hx];simp[hx]
 ·simp only[Adi,Ee,Ag,h2];rw[Zk1 (Zn1 _),Zk1 (by omega)];rfl
theorem Bnn:FO 252 [.sl .col false,.sl .col false] [.bool] A3k :=.fin 0 Bms λ(a,b) r hb hx=>⟨a.length+1,by
 simp only[A3k,Za1] at hx;rw[<-hx];simp only[Ard,Bqo];by_cases he:a.length=b.length
 ·rw[Ze1 (show(a.length:Int)=(b.length:Int) by omega),Zt1,Ag];exact Bd4 (c:=some) hb.1.1 he (λ_=>rfl) (λ_ _=>rfl) (a.length+1) (by omega)
 ·rw[Zd1 (show ¬(a.length:Int)=(b.length:Int) by omega),Zd1 (λh=>he (by rw[h]))];rfl⟩
def Aor:Sig:=⟨26,[(0,.sl .str false),(1,.sl .str false),(4,.bool),(12,.int .i64),(13,.int .i64)],[],[],0,0,0,[],[]⟩
abbrev Yo:=List Str×List Str×Bool×Int×Int
def Adx{R:Type}(rec:Yo->Option R)(kx:Ex->Yo->Option R)(v:Yo):Option R:=match v with
 |(v,v1,v2,v3,v4) =>
 cond (decide (v4<v3)) (
  chk (inb v4 v.length) (
  chk (inb v4 v1.length) (
   cond (!decide ((at' .str v v4)=(at' .str v1 v4))) (
   kx .ret (v,v1,false,v3,v4)) (
   rec (v,v1,v2,v3,(wr .i64 (v4+1))))))) (
  kx (.exit 0) (v,v1,v2,v3,v4))
def A6i(R:Type)(k:Nat):Px R:=pxO [] [] [(4,Am k Aor (Adx))] []
def Apf(k:Nat)(x:HV [.sl .str false,.sl .str false]):Option (HV [.bool]):=match x with
 |(a,b) =>
 cond (!decide ((a.length:Int)=(b.length:Int))) (
  some false) (
  Aj (λrec=>Adx rec (λe vz=>match vz with|(_,_,v7,_,_)=>match e with
  |.ret =>some v7
  |.exit 0 =>some true
  |_=>none)) k (a,b,false,(a.length:Int),0))
theorem Blf(k:Nat):FO 253 [.sl .str false,.sl .str false] [.bool] (Apf k):=fR (px:=A6i _ k) (n:=1) Tryz.func253 rfl (λcx H=>by have h0:Lv cx (A6i (HV [.bool]) k):=lv H Ae Aa Ab;have hlaeqs_0:=lO H h0 (b:=lp Tryz.f253 0) (k:=k) (n:=0) (s:=Aor) (step:=Adx) (λ_ _ _ (_,_,_,_,_)=>by kernel_rfl) Ai;exact⟨h0,(A6 Ai hlaeqs_0)⟩) λ(_,_)=>by kernel_rfl
def Bhp(a b:List Str):Bool:=decide (a=b)
def A3a:FT [.sl .str false,.sl .str false] [.bool]:=λx=>some (Bhp x.1 x.2)
theorem Bb2{R:Type}{kx:Ex->Yo->Option R}{a b:List Str}{c:Bool->Option R}(hn:ln a.length)(he:a.length=b.length)(h1:∀i,kx .ret (a,b,false,(a.length:Int),i)=c false)(h2:∀q i,kx (.exit 0) (a,b,q,(a.length:Int),i)=c true)(k:Nat)(hk:a.length<k) :
  Aj (λrec=>Adx rec kx) k (a,b,false,(a.length:Int),0)=c (decide (a=b)):=by
 refine(A8 a.length (λi=>(a,b,false,(a.length:Int),(i:Int))) (λi=>c (decide (a.drop i=b.drop i))) (λi hi rec hr =>?_) (λrec =>?_) k 0 (Nat.zero_le _) (by omega)).trans (by rw[Zq1,Zq1])
 ·have hi2:i<b.length:=by omega
  simp only[Adx,Ea hi,Af,As hi,As hi2,chk,Al (c :=.str) hi,Al (c :=.str) hi2,An hi hn,hr,h1,Ak hi,Ak hi2,Ze2];by_cases hx:a[i]=b[i]
  ·rw[Ze1 hx];simp[hx]
  ·rw[Zd1 hx];simp[hx]
 ·simp only[Adx,Ee,Ag,h2];rw[Zk1 (Zn1 _),Zk1 (by omega)];rfl
theorem Bnp:FO 253 [.sl .str false,.sl .str false] [.bool] A3a :=.fin 0 Blf λ(a,b) r hb hx=>⟨a.length+1,by
 simp only[A3a,Za1] at hx;rw[<-hx];simp only[Apf,Bhp];by_cases he:a.length=b.length
 ·rw[Ze1 (show(a.length:Int)=(b.length:Int) by omega),Zt1,Ag];exact Bb2 (c:=some) hb.1.1 he (λ_=>rfl) (λ_ _=>rfl) (a.length+1) (by omega)
 ·rw[Zd1 (show ¬(a.length:Int)=(b.length:Int) by omega),Zd1 (λh=>he (by rw[h]))];rfl⟩
def Apk:Sig:=⟨26,[(0,.sl .bool false),(1,.sl .bool false),(4,.bool),(12,.int .i64),(13,.int .i64)],[],[],0,0,0,[],[]⟩
abbrev Aar:=List Bool×List Bool×Bool×Int×Int
def Ac2{R:Type}(rec:Aar->Option R)(kx:Ex->Aar->Option R)(v:Aar):Option R:=match v with
 |(v,v1,v2,v3,v4) =>
 cond (decide (v4<v3)) (
  chk (inb v4 v.length) (
  chk (inb v4 v1.length) (
   cond (!decide ((at' .bool v v4)=(at' .bool v1 v4))) (
   kx .ret (v,v1,false,v3,v4)) (
   rec (v,v1,v2,v3,(wr .i64 (v4+1))))))) (
  kx (.exit 0) (v,v1,v2,v3,v4))
def A61(R:Type)(k:Nat):Px R:=pxO [] [] [(4,Am k Apk (Ac2))] []
def Apm(k:Nat)(x:HV [.sl .bool false,.sl .bool false]):Option (HV [.bool]):=match x with
 |(a,b) =>
 cond (!decide ((a.length:Int)=(b.length:Int))) (
  some false) (
  Aj (λrec=>Ac2 rec (λe vz=>match vz with|(_,_,v7,_,_)=>match e with
  |.ret =>some v7
  |.exit 0 =>some true
  |_=>none)) k (a,b,false,(a.length:Int),0))
theorem Bgm(k:Nat):FO 254 [.sl .bool false,.sl .bool false] [.bool] (Apm k):=fR (px:=A61 _ k) (n:=1) Tryz.func254 rfl (λcx H=>by have h0:Lv cx (A61 (HV [.bool]) k):=lv H Ae Aa Ab;have hlaeqb_0:=lO H h0 (b:=lp Tryz.f254 0) (k:=k) (n:=0) (s:=Apk) (step:=Ac2) (λ_ _ _ (_,_,_,_,_)=>by kernel_rfl) Ai;exact⟨h0,(A6 Ai hlaeqb_0)⟩) λ(_,_)=>by kernel_rfl
def Bn5(a b:List Bool):Bool:=decide (a=b)
def A2p:FT [.sl .bool false,.sl .bool false] [.bool]:=λx=>some (Bn5 x.1 x.2)
theorem Bc3{R:Type}{kx:Ex->Aar->Option R}{a b:List Bool}{c:Bool->Option R}(hn:ln a.length)(he:a.length=b.length)(h1:∀i,kx .ret (a,b,false,(a.length:Int),i)=c false)(h2:∀q i,kx (.exit 0) (a,b,q,(a.length:Int),i)=c true)(k:Nat)(hk:a.length<k) :
  Aj (λrec=>Ac2 rec kx) k (a,b,false,(a.length:Int),0)=c (decide (a=b)):=by
 refine(A8 a.length (λi=>(a,b,false,(a.length:Int),(i:Int))) (λi=>c (decide (a.drop i=b.drop i))) (λi hi rec hr =>?_) (λrec =>?_) k 0 (Nat.zero_le _) (by omega)).trans (by rw[Zq1,Zq1])
 ·have hi2:i<b.length:=by omega
  simp only[Ac2,Ea hi,Af,As hi,As hi2,chk,Al (c :=.bool) hi,Al (c :=.bool) hi2,An hi hn,hr,h1,Ak hi,Ak hi2,Ze2];by_cases hx:a[i]=b[i]
  ·rw[Ze1 hx];simp[hx]
  ·rw[Zd1 hx];simp[hx]
 ·simp only[Ac2,Ee,Ag,h2];rw[Zk1 (Zn1 _),Zk1 (by omega)];rfl
theorem Bpp:FO 254 [.sl .bool false,.sl .bool false] [.bool] A2p :=.fin 0 Bgm λ(a,b) r hb hx=>⟨a.length+1,by
 simp only[A2p,Za1] at hx;rw[<-hx];simp only[Apm,Bn5];by_cases he:a.length=b.length
 ·rw[Ze1 (show(a.length:Int)=(b.length:Int) by omega),Zt1,Ag];exact Bc3 (c:=some) hb.1.1 he (λ_=>rfl) (λ_ _=>rfl) (a.length+1) (by omega)
 ·rw[Zd1 (show ¬(a.length:Int)=(b.length:Int) by omega),Zd1 (λh=>he (by rw[h]))];rfl⟩
instance:DecidableEq SetE:=λa b=>decidable_of_iff (a.name=b.name/\a.e=b.e) (by cases a;cases b;simp)
def Aub(a b:SetE):Bool:=decide (a.name=b.name)&&J4 a.e b.e
theorem Au9(a b:SetE):Aub a b=decide (a=b):=by cases a;cases b;simp[Aub,R1]
def Akc(a b:Stm):Bool:=decide (a.kind=b.kind)&&decide (a.name=b.name)&&decide (a.on=b.on)&&decide (a.has=b.has)&&decide (a.most=b.most)&&decide (a.whr=b.whr)&&(decide (a.cols=b.cols)&&decide (a.names=b.names)&&decide (a.order=b.order)&&decide (a.desc=b.desc)&&decide (a.l=b.l))&&decide (a.rows=b.rows)&&decide (a.sets=b.sets)
theorem Apu(a b:Stm):Akc a b=true↔a=b:=by
 cases a;cases b;simp[Akc,Stm.mk.injEq];constructor
 ·grind
 ·grind
def Ae6:Sig:=⟨32,[(1,.sl .set false),(6,.bool),(15,.sl .set false),(16,.int .i64),(17,.int .i64)],[(2,.fn 259 [])],[],40,40,600,[],[]⟩
abbrev Nn:=List SetE×Bool×List SetE×Int×Int
def K9{R:Type}(rec:Nn->Option R)(kx:Ex->Nn->Option R)(v:Nn):Option R:=match v with
 |(b,f,c,d,a) =>
 cond (decide (a<d)) (
  chk (inb a c.length) (
  chk (inb a b.length) (
   cond (decide (((at' .set c a).name)=((at' .set b a).name))) (
   cond (!(P1 (Uz ((at' .set c a).e)) (Uz ((at' .set b a).e)))) (
    kx .ret (b,false,c,d,a)) (
    rec (b,f,c,d,(wr .i64 (a+1))))) (
   kx .ret (b,false,c,d,a))))) (
  kx (.exit 0) (b,f,c,d,a))
def Afb:Sig:=⟨32,[(1,.sl .expr false),(6,.bool),(15,.sl .expr false),(16,.int .i64),(17,.int .i64)],[(2,.fn 251 [])],[(0,.one (.sv .stmt)),(1,.one (.sv .stmt))],120,120,600,[],[]⟩
abbrev N8:=List Xpr×Bool×List Xpr×Int×Int×Stm×Stm
def Lt{R:Type}(rec:N8->Option R)(kx:Ex->N8->Option R)(v:N8):Option R:=match v with
 |(b,e,c,d,a,w4,w5) =>
 cond (decide (a<d)) (
  chk (inb a c.length) (
  chk (inb a b.length) (
   cond (!(P1 (at' .expr c a) (at' .expr b a))) (
   kx .ret (b,false,c,d,a,w4,w5)) (
   rec (b,e,c,d,(wr .i64 (a+1)),w4,w5))))) (
  kx (.exit 0) (b,e,c,d,a,w4,w5))
def Aek:Sig:=⟨32,[(1,.sl .exprs false),(6,.bool),(15,.sl .exprs false),(16,.int .i64),(17,.int .i64)],[(2,.fn 257 [])],[(0,.one (.sv .stmt)),(1,.one (.sv .stmt))],40,40,400,[],[]⟩
abbrev O3:=List (List Xpr)×Bool×List (List Xpr)×Int×Int×Stm×Stm
def L3{R:Type}(k:Nat)(rec:O3->Option R)(kx:Ex->O3->Option R)(v:O3):Option R:=match v with
 |(c,f,b,d,a,w2,w3) =>
 cond (decide (a<d)) (
  chk (inb a b.length) (
  chk (inb a c.length) (
   cond (!decide (((at' .exprs b a).length:Int)=((at' .exprs c a).length:Int))) (
   kx .ret (c,false,b,d,a,w2,w3)) (
   Aj (λrc=>Lt rc (λe vz=>match vz with|(_,i,_,_,_,g,h)=>match e with
    |.ret =>
    cond (!i) (
     kx .ret (c,false,b,d,a,g,h)) (
     rec (c,f,b,d,(wr .i64 (a+1)),g,h))
    |.exit 0 =>
    rec (c,f,b,d,(wr .i64 (a+1)),g,h)
    |_=>none)) k ((at' .exprs c a),false,(at' .exprs b a),((at' .exprs b a).length:Int),0,w2,w3))))) (
  kx (.exit 0) (c,f,b,d,a,w2,w3))
def Ae1:Sig:=⟨32,[(1,.sl .expr false),(6,.bool),(15,.sl .expr false),(16,.int .i64),(17,.int .i64)],[(2,.fn 251 [])],[(0,.one (.sv .stmt)),(1,.one (.sv .stmt))],40,40,200,[],[]⟩
abbrev N0:=List Xpr×Bool×List Xpr×Int×Int×Stm×Stm
def Mk{R:Type}(rec:N0->Option R)(kx:Ex->N0->Option R)(v:N0):Option R:=match v with
 |(v,v1,v2,v3,v4,w,w1) =>
 cond (decide (v4<v3)) (
  chk (inb v4 v2.length) (
  chk (inb v4 v.length) (
   cond (!(P1 (at' .expr v2 v4) (at' .expr v v4))) (
   kx .ret (v,false,v2,v3,v4,w,w1)) (
   rec (v,v1,v2,v3,(wr .i64 (v4+1)),w,w1))))) (
  kx (.exit 0) (v,v1,v2,v3,v4,w,w1))
def Aez(R:Type)(k:Nat):Px R:=pxO [(251,cA S5)] [] [(4,Am k Ae1 (Mk))] []
def O7(R:Type)(k:Nat):Px R:=pxO [(251,cA S5)] [] [(4,Am k Afb (Lt))] []
noncomputable def Vb(R:Type)(k:Nat):Px R:=pxO [(255,A1 120 600 (O7 R k) Tryz.f255)] [] [] []
noncomputable def Aes(R:Type)(k:Nat):Px R:=pxO [(257,A1 80 600 (Vb R k) Tryz.f257)] [] [(4,Am k Aek (L3 k))] []
def Ve(R:Type)(_k:Nat):Px R:=pxO [(251,cA S5)] [] [] []
noncomputable def Aee(R:Type)(k:Nat):Px R:=pxO [(259,A1 80 800 (Ve R k) Tryz.f259)] [] [(4,Am k Ae6 (K9))] []
noncomputable def Aqw(R:Type)(k:Nat):Px R:=pxO [(251,cA S5),(252,cA A3k),(253,cA A3a),(254,cA A2p),(255,A1 40 200 (Aez R k) Tryz.f255),(256,A1 40 400 (Aes R k) Tryz.f256),(258,A1 40 600 (Aee R k) Tryz.f258)] [] [] []
def Pq(k:Nat)(x:HV [.sv .stmt,.sv .stmt]):Option (HV [.bool]):=match x with
 |(a,b) =>
 let j9:=λ(p6:Bool) =>
  let j8:=λ(m:Bool) (q6:Stm) (q7:Stm) =>
  let j7:=λ(n:Bool) =>
   let j6:=λ(o:Bool) (c:Stm) (d:Stm) =>
   cond (o) (
    cond (!decide ((c.sets.length:Int)=(d.sets.length:Int))) (
    some false) (
    Aj (λrec=>K9 rec (λe vz=>match vz with|(_,q,_,_,_)=>match e with
     |.ret =>
     some q
     |.exit 0 =>
     some true
     |_=>none)) k (d.sets,false,c.sets,(c.sets.length:Int),0))) (
    some false)
   cond (n) (
   cond (!decide ((q6.rows.length:Int)=(q7.rows.length:Int))) (
    j6 false q6 q7) (
    Aj (λrec=>L3 k rec (λe vz=>match vz with|(_,r,_,_,_,f,g)=>match e with
    |.ret =>j6 r f g
    |.exit 0 =>j6 true f g
    |_=>none)) k (q7.rows,false,q6.rows,(q6.rows.length:Int),0,q6,q7))) (
   j6 false q6 q7)
  cond (p6) (
   j7 m) (
   j7 false)
  let j5:=λ(p7:Bool) =>
  let j4:=λ(p8:Bool) =>
   let j3:=λ(p9:Bool) =>
   cond (p9) (
    cond (!decide ((a.l.length:Int)=(b.l.length:Int))) (
    j8 false a b) (
    Aj (λrec=>Mk rec (λe vz=>match vz with|(_,v6,_,_,_,h,i)=>match e with
     |.ret =>
     j8 v6 h i
     |.exit 0 =>
     j8 true h i
     |_=>none)) k (b.l,false,a.l,(a.l.length:Int),0,a,b))) (
    j8 false a b)
   cond (p8) (
   j3 (Bn5 a.desc b.desc)) (
   j3 false)
  cond (p7) (
   j4 (Bhp a.order b.order)) (
   j4 false)
  cond ((Bqo a.cols b.cols)) (
  j5 (Bhp a.names b.names)) (
  j5 false)
 let j2:=λ(p:Bool) =>
  let j1:=λ(p1:Bool) =>
  let j:=λ(p2:Bool) =>
   cond (p2) (
   cond (decide (a.most=b.most)) (
    j9 (P1 (Uz a.whr) (Uz b.whr))) (
    j9 false)) (
   j9 false)
  cond (p1) (
   j (decide (a.has=b.has))) (
   j false)
  cond (p) (
  j1 (decide (a.on=b.on))) (
  j1 false)
 cond (decide (a.kind=b.kind)) (
  j2 (decide (a.name=b.name))) (
  j2 false)
theorem A25(k:Nat):FO 213 [.sv .stmt,.sv .stmt] [.bool] (Pq k):=fR (px:=Aqw _ k) (n:=0) Tryz.func213 rfl (λcx H=>by have h1:Lv cx (Aez (HV [.bool]) k):=lv H (c1 H Qv Ae) Aa Ab;have hlastmts_0:=lO H h1 (b:=lp Tryz.f255 0) (k:=k) (n:=0) (s:=Ae1) (step:=Mk) (λ_ _ _ (_,_,_,_,_,_,_)=>by kernel_rfl) Ai;have h4:Lv cx (O7 (HV [.bool]) k):=lv H (c1 H Qv Ae) Aa Ab;have hlastmts_2:=lO H h4 (b:=lp Tryz.f255 0) (k:=k) (n:=0) (s:=Afb) (step:=Lt) (λ_ _ _ (_,_,_,_,_,_,_)=>by kernel_rfl) Ai;have h3:Lv cx (Vb (HV [.bool]) k):=lv H (Ao (cR H h4 Tryz.func255 rfl (n:=1) ((A6 Ai hlastmts_2))) Ae) Aa Ab;have h2:Lv cx (Aes (HV [.bool]) k):=lv H (Ao (cR H h3 Tryz.func257 rfl (n:=0) (Ai)) Ae) Aa Ab;have hlastmts_1:=lO H h2 (b:=lp Tryz.f256 0) (k:=k) (n:=0) (s:=Aek) (step:=L3 k) (λ_ _ _ (_,_,_,_,_,_,_)=>by kernel_rfl) Ai;have h6:Lv cx (Ve (HV [.bool]) k):=lv H (c1 H Qv Ae) Aa Ab;have h5:Lv cx (Aee (HV [.bool]) k):=lv H (Ao (cR H h6 Tryz.func259 rfl (n:=0) (Ai)) Ae) Aa Ab;have hlastmts_3:=lO H h5 (b:=lp Tryz.f258 0) (k:=k) (n:=0) (s:=Ae6) (step:=K9) (λ_ _ _ (_,_,_,_,_)=>by kernel_rfl) Ai;have h0:Lv cx (Aqw (HV [.bool]) k):=lv H (c1 H Qv (c1 H Bnn (c1 H Bnp (c1 H Bpp (Ao (cR H h1 Tryz.func255 rfl (n:=1) ((A6 Ai hlastmts_0))) (Ao (cR H h2 Tryz.func256 rfl (n:=1) ((A6 Ai hlastmts_1))) (Ao (cR H h5 Tryz.func258 rfl (n:=1) ((A6 Ai hlastmts_3))) Ae))))))) Aa Ab;exact⟨h0,Ai⟩) λ(_,_)=>by kernel_rfl
def A28(a b:Stm):Bool:=Akc a b
def Avu:FT [.sv .stmt,.sv .stmt] [.bool]:=λx=>some (A28 x.1 x.2)
theorem Y0{α:Type}[DecidableEq α](x y : α)(l m:List α):decide (x::l=y::m)=(decide (x=y)&&decide (l=m)):=by simp
theorem Amo{R:Type}{kx:Ex->N0->Option R}{l m:List Xpr}{s t:Stm}{c:Bool->Option R}(hn:ln l.length)(hm:l.length=m.length)
  (h1:∀i,kx .ret (m,false,l,(l.length:Int),i,s,t)=c false) (h2:∀q i,kx (.exit 0) (m,q,l,(l.length:Int),i,s,t)=c true) (k:Nat) (hk:l.length<k):Aj (λrec=>Mk rec kx) k (m,false,l,(l.length:Int),0,s,t)=c (decide (l=m)):=by
 refine(A8 l.length (λi=>(m,false,l,(l.length:Int),(i:Int),s,t)) (λi=>c (decide (l.drop i=m.drop i))) (λi hi rec hr =>?_) (λrec =>?_) k 0 (Nat.zero_le _) (by omega)).trans (by rw[Zq1,Zq1])
 ·have hi2:i<m.length:=by omega
  simp only[Mk,Ea hi,Af,As hi,As hi2,chk,Al (c :=.expr) hi,Al (c :=.expr) hi2,An hi hn,hr,h1,Ak hi,Ak hi2,Y0,P1,R1];cases decide (l[i]=m[i])<;>rfl
 ·simp only[Mk,Ee,Ag,h2];rw[Zk1 (Zn1 _),Zk1 (by omega)];rfl
theorem Amr{R:Type}{kx:Ex->N8->Option R}{l m:List Xpr}{s t:Stm}{c:Bool->Option R}(hn:ln l.length)(hm:l.length=m.length)
  (h1:∀i,kx .ret (m,false,l,(l.length:Int),i,s,t)=c false) (h2:∀q i,kx (.exit 0) (m,q,l,(l.length:Int),i,s,t)=c true) (k:Nat) (hk:l.length<k):Aj (λrec=>Lt rec kx) k (m,false,l,(l.length:Int),0,s,t)=c (decide (l=m)):=by
 refine(A8 l.length (λi=>(m,false,l,(l.length:Int),(i:Int),s,t)) (λi=>c (decide (l.drop i=m.drop i))) (λi hi rec hr =>?_) (λrec =>?_) k 0 (Nat.zero_le _) (by omega)).trans (by rw[Zq1,Zq1])
 ·have hi2:i<m.length:=by omega
  simp only[Lt,Ea hi,Af,As hi,As hi2,chk,Al (c :=.expr) hi,Al (c :=.expr) hi2,An hi hn,hr,h1,Ak hi,Ak hi2,Y0,P1,R1];cases decide (l[i]=m[i])<;>rfl
 ·simp only[Lt,Ee,Ag,h2];rw[Zk1 (Zn1 _),Zk1 (by omega)];rfl
theorem Amm{R:Type}{kx:Ex->O3->Option R}{l m:List (List Xpr)}{s t:Stm}{c:Bool->Option R}(hn:ln l.length)(hm:l.length=m.length)(hr0:∀x,x∈l->ln x.length)(k:Nat)(hkr:∀x,x∈l->List.length x<k)
  (h1:∀i,kx .ret (m,false,l,(l.length:Int),i,s,t)=c false) (h2:∀q i,kx (.exit 0) (m,q,l,(l.length:Int),i,s,t)=c true) (hk:l.length<k):Aj (λrec=>L3 k rec kx) k (m,false,l,(l.length:Int),0,s,t)=c (decide (l=m)):=by
 refine(A8 l.length (λi=>(m,false,l,(l.length:Int),(i:Int),s,t)) (λi=>c (decide (l.drop i=m.drop i))) (λi hi rec hr =>?_) (λrec =>?_) k 0 (Nat.zero_le _) (by omega)).trans (by rw[Zq1,Zq1])
 ·have hi2:i<m.length:=by omega
  simp only[L3,Ea hi,Af,As hi,As hi2,chk,Al (c :=.exprs) hi,Al (c :=.exprs) hi2,An hi hn,Ak hi,Ak hi2,Y0];by_cases hlen:l[i].length=m[i].length
  ·rw[Ze1 (show(l[i].length:Int)=(m[i].length:Int) by omega),Zt1,Ag];rw[Amr (c:=λb=>cond b (c (decide (l.drop (i+1)=m.drop (i+1)))) (c false)) (hr0 _ (List.getElem_mem hi)) hlen (λ_=>h1 _) (λ_ _=>hr) k (hkr _ (List.getElem_mem hi))];cases decide (l[i]=m[i])<;>rfl
  ·rw[Zd1 (show ¬(l[i].length:Int)=(m[i].length:Int) by omega),Zd1 (λh=>hlen (by rw[h])),h1];rfl
 ·simp only[L3,Ee,Ag,h2];rw[Zk1 (Zn1 _),Zk1 (by omega)];rfl
theorem Amk{R:Type}{kx:Ex->Nn->Option R}{l m:List SetE}{c:Bool->Option R}(hn:ln l.length)(hm:l.length=m.length)
  (h1:∀i,kx .ret (m,false,l,(l.length:Int),i)=c false) (h2:∀q i,kx (.exit 0) (m,q,l,(l.length:Int),i)=c true) (k:Nat) (hk:l.length<k):Aj (λrec=>K9 rec kx) k (m,false,l,(l.length:Int),0)=c (decide (l=m)):=by
 refine(A8 l.length (λi=>(m,false,l,(l.length:Int),(i:Int))) (λi=>c (decide (l.drop i=m.drop i))) (λi hi rec hr =>?_) (λrec =>?_) k 0 (Nat.zero_le _) (by omega)).trans (by rw[Zq1,Zq1])
 ·have hi2:i<m.length:=by omega
  simp only[K9,Ea hi,Af,As hi,As hi2,chk,Al (c :=.set) hi,Al (c :=.set) hi2,An hi hn,hr,h1,Ak hi,Ak hi2,Y0,P1,<-Au9,Aub,Ro];cases decide (l[i].name=m[i].name)<;>cases J4 l[i].e m[i].e<;>rfl
 ·simp only[K9,Ee,Ag,h2];rw[Zk1 (Zn1 _),Zk1 (by omega)];rfl
theorem Ars{α:Type}[DecidableEq α]{l m:List α}(h:¬l.length=m.length):decide (l=m)=false:=Zd1 λe=>h (by rw[e])
def Bry(s:Stm):Nat:=s.l.length+s.rows.length+s.sets.length+(s.rows.map List.length).sum
theorem Brq{l:List (List Xpr)}{x:List Xpr}(h:x∈l):x.length<=(l.map List.length).sum:=by
 induction l with
 |nil=>cases h
 |cons y l ih =>
  simp;rcases List.mem_cons.1 h with rfl|h
  ·omega
  ·have:=ih h;omega
theorem Bhh(k:Nat)(a b:Stm)(hb:BdStm a)(hk:Bry a<k):Pq k (a,b)=some (Akc a b):=by
 have hk2:=hk;simp[Bry] at hk2;simp -zeta only [Pq,P1,R1,Ro,Bqo,Bhp,Bn5];extract_lets j6 j9 j j1 j2;have h6:∀q,j6 q a b=some (q&&decide (a.sets=b.sets)):=λq=>by
  simp -zeta only [j6];cases q with
  |false=>rfl
  |true =>
   rw[Af,Bool.true_and];by_cases hs:a.sets.length=b.sets.length
   ·rw[Ze1 (show(a.sets.length:Int)=(b.sets.length:Int) by omega),Zt1,Ag];exact Amk (c:=some) hb.sets.1 hs (λ_=>rfl) (λ_ _=>rfl) k (by omega)
   ·rw[Zd1 (show ¬(a.sets.length:Int)=(b.sets.length:Int) by omega),Ars hs];rfl
 have h9:∀p,j9 p=some (p&&(decide (a.cols=b.cols)&&decide (a.names=b.names)&&decide (a.order=b.order)&&decide (a.desc=b.desc)&&decide (a.l=b.l))&&decide (a.rows=b.rows)&&decide (a.sets=b.sets)):=λp=>by
  simp -zeta only [j9];extract_lets j8 j3 j4 j5;have h8:∀q,j8 q a b=some (p&&q&&decide (a.rows=b.rows)&&decide (a.sets=b.sets)):=λq=>by
   simp -zeta only [j8];extract_lets j7;have h7:∀q,j7 q=some (q&&decide (a.rows=b.rows)&&decide (a.sets=b.sets)):=λq=>by
    simp -zeta only [j7];cases q with
    |false=>exact(h6 false).trans rfl
    |true =>
     rw[Af,Bool.true_and];by_cases hs:a.rows.length=b.rows.length
     ·rw[Ze1 (show(a.rows.length:Int)=(b.rows.length:Int) by omega),Zt1,Ag];refine(Amm (c:=λq=>j6 q a b) hb.rows.1 hs (λx hx=>(hb.rows.2 x hx).1) k (λx hx=>by have:=Brq hx;omega) (λ_=>rfl) (λ_ _=>rfl) (by omega)).trans (h6 _)
     ·rw[Zd1 (show ¬(a.rows.length:Int)=(b.rows.length:Int) by omega),Ars hs];exact(h6 false).trans rfl
   cases p with|false=>exact(h7 false).trans rfl|true=>exact(h7 q).trans (by rw[Bool.true_and])
  have h3:∀q,j3 q=some (p&&(q&&decide (a.l=b.l))&&decide (a.rows=b.rows)&&decide (a.sets=b.sets)):=λq=>by
   simp -zeta only [j3];cases q with
   |false=>exact h8 false
   |true =>
    rw[Af,Bool.true_and];by_cases hs:a.l.length=b.l.length
    ·rw[Ze1 (show(a.l.length:Int)=(b.l.length:Int) by omega),Zt1,Ag];exact(Amo (c:=λq=>j8 q a b) hb.l.1 hs (λ_=>rfl) (λ_ _=>rfl) k (by omega)).trans (h8 _)
    ·rw[Zd1 (show ¬(a.l.length:Int)=(b.l.length:Int) by omega),Ars hs];exact h8 false
  have h4:∀q,j4 q=some (p&&(q&&decide (a.desc=b.desc)&&decide (a.l=b.l))&&decide (a.rows=b.rows)&&decide (a.sets=b.sets)):=λq=>by simp -zeta only [j4];cases q with|false=>exact h3 false|true=>exact(h3 _).trans (by rw[Bool.true_and])
  have h5:∀q,j5 q=some (p&&(q&&decide (a.order=b.order)&&decide (a.desc=b.desc)&&decide (a.l=b.l))&&decide (a.rows=b.rows)&&decide (a.sets=b.sets)):=λq=>by simp -zeta only [j5];cases q with|false=>exact h4 false|true=>exact(h4 _).trans (by rw[Bool.true_and])
  cases decide (a.cols=b.cols) with|false=>exact h5 false|true=>exact(h5 _).trans (by simp)
 simp -zeta only [j2,j1,j,Akc];cases decide (a.kind=b.kind) with
 |false=>exact(h9 false).trans rfl
 |true =>
  cases decide (a.name=b.name) with
  |false=>exact(h9 false).trans rfl
  |true =>
   cases decide (a.on=b.on) with
   |false=>exact(h9 false).trans rfl
   |true =>
    cases decide (a.has=b.has) with
    |false=>exact(h9 false).trans rfl
    |true =>cases decide (a.most=b.most) with|false=>exact(h9 false).trans rfl|true=>exact(h9 _).trans (by simp)
theorem Bdo:FO 213 [.sv .stmt,.sv .stmt] [.bool] Avu :=.fin 0 A25 λ(a,b) r hb hx=>⟨Bry a+1,(Bhh (Bry a+1) a b hb.1 (by omega)).trans hx⟩
instance:DecidableEq Stm:=λa b=>decidable_of_iff (Akc a b=true) (Apu a b)
theorem Bbz(a b:Stm):Akc a b=decide (a=b):=by rw[Bool.eq_iff_iff,Apu,Zg1]
def Bm1(R:Type):Px R:=pxO [] [] [] []
def W7(x:HV [.int .i64]):Option (HV [.bool]):=match x with
 |n =>
 cond (decide (1<=n)) (
  some (decide (n<=100))) (
  some false)
theorem A9v:FO 216 [.int .i64] [.bool] (W7):=fR (px:=Bm1 _) (n:=0) Tryz.func216 rfl (λ_ H=>⟨lv H Ae Aa Ab,Ai⟩) λ_=>by kernel_rfl
def Dj(n:Int):Bool :=
 cond (decide (1<=n)) (
  (decide (n<=100))) (
  false)
theorem A9m(x:HV [.int .i64]):W7 x=some (Dj x):=by
 first
  |exact rfl
  |simp only[W7,Dj,Az]
def Yk:FT [.int .i64] [.bool]:=λx=>some (Dj x)
theorem Aa6:FO 216 [.int .i64] [.bool] Yk :=.fin0 A9v λx _ _ hx=>(A9m x).trans hx
def Ahk:Sig:=⟨26,[(0,.sl .str false),(2,.bool),(5,.sl .str false),(6,.int .i64),(7,.int .i64)],[],[],0,0,0,[],[]⟩
abbrev S3:=List Str×Bool×List Str×Int×Int
def Rj{R:Type}(rec:S3->Option R)(kx:Ex->S3->Option R)(v:S3):Option R:=match v with
 |(v,v1,v2,v3,v4) =>
 cond (decide (v4<v3)) (
  chk (inb v4 v2.length) (
  cond (!(Ds (at' .str v2 v4))) (
   kx .ret (v,false,v2,v3,v4)) (
   chk (upto 0 v4 v.length) (
   cond ((Bec (v.take (v4:Int).toNat) (at' .str v2 v4))) (
    kx .ret (v,false,v2,v3,v4)) (
    rec (v,v1,v2,v3,(wr .i64 (v4+1)))))))) (
  kx (.exit 0) (v,v1,v2,v3,v4))
def Ax4(R:Type)(k:Nat):Px R:=pxO [(187,cA Um),(54,cA Bg4)] [] [(2,Am k Ahk (Rj))] []
def Ag9(k:Nat)(x:HV [.sl .str false]):Option (HV [.bool]):=match x with
 |l =>
 Aj (λrec=>Rj rec (λe vz=>match vz with|(v5,v6,_,_,_)=>match e with
  |.ret =>
  some v6
  |.exit 0 =>
  some (decide ((v5.length:Int)<=100))
  |_=>none)) k (l,false,l,(l.length:Int),0)
theorem Bcc(k:Nat):FO 217 [.sl .str false] [.bool] (Ag9 k):=fR (px:=Ax4 _ k) (n:=1) Tryz.func217 rfl (λcx H=>by have h0:Lv cx (Ax4 (HV [.bool]) k):=lv H (c1 H Y7 (c1 H Brf Ae)) Aa Ab;have hlaonce_0:=lO H h0 (b:=lp Tryz.f217 0) (k:=k) (n:=0) (s:=Ahk) (step:=Rj) (λ_ _ _ (_,_,_,_,_)=>by kernel_rfl) Ai;exact⟨h0,(A6 Ai hlaonce_0)⟩) λ_=>by kernel_rfl
def Ad2:List Str->List Str->Bool
 |_,[]=>true
 |seen,s::r=>Ds s && !seen.contains s&&Ad2 (seen++[s]) r
def Dq(l:List Str):Bool:=Ad2 [] l&&decide (l.length<=100)
def Z8:FT [.sl .str false] [.bool]:=λx=>some (Dq x)
theorem A3c{l:List Str}{i:Nat}(hi:i<l.length):l.take (i+1)=l.take i++[l[i]]:=by simp_all
theorem A3e{R:Type}{kx:Ex->S3->Option R}{l:List Str}{c:Bool->Option R}(hn:ln l.length)(h1:∀i,kx .ret (l,false,l,(l.length:Int),i)=c false)(h2:∀q i,kx (.exit 0) (l,q,l,(l.length:Int),i)=c true)(k:Nat)(hk:l.length<k) :
  Aj (λrec=>Rj rec kx) k (l,false,l,(l.length:Int),0)=c (Ad2 [] l):=by
 refine(A8 l.length (λi=>(l,false,l,(l.length:Int),(i:Int))) (λi=>c (Ad2 (l.take i) (l.drop i))) (λi hi rec hr =>?_) (λrec =>?_) k 0 (Nat.zero_le _) (by omega)).trans (by rw[Zq1,List.take_zero])
 ·have hu:upto 0 (i:Int) l.length=true:=by simp[upto];omega
  simp only[Rj,Ea hi,As hi,Al (c :=.str) hi,An hi hn,hr,h1,Ak hi,Ad2,hu,Int.toNat_natCast,Bos,A3c hi];cases Ds l[i]<;>cases (l.take i).contains l[i]<;>rfl
 ·simp only[Rj,Ee,h2];rw[Zk1 (Zn1 _)];rfl
theorem Ah8:FO 217 [.sl .str false] [.bool] Z8 :=.fin 0 Bcc λl r hb hx=>⟨l.length+1,by simp only[Z8,Za1] at hx;rw[<-hx];simp only[Ag9];refine(A3e (l:=l) (c:=λb=>cond b (some (decide ((l.length:Int)<=100))) (some false)) hb.1 (λ_=>rfl) (λ_ _=>rfl) (l.length+1) (by omega)).trans ?_;rw[show decide ((l.length:Int)<=100)=decide (l.length<=100) from Zy1.2 (by omega),Dq];cases Ad2 [] l<;>rfl⟩
def Ad6:Sig:=⟨19,[(0,.sl .expr false),(4,.int .i64),(7,.int .i64),(8,.int .i64)],[(1,.fn 260 [])],[],80,80,400,[],[]⟩
abbrev M5:=List Xpr×Int×Int×Int
def Lr{R:Type}(rec:M5->Option R)(kx:Ex->M5->Option R)(v:M5):Option R:=match v with
 |(v,v1,v2,v3) =>
 cond (decide (v3<v2)) (
  chk (inb v3 v.length) (
  cond (!(B1 (at' .expr v v3) 30)) (
   kx .ret (v,v3,v2,v3)) (
   rec (v,v1,v2,(wr .i64 (v3+1)))))) (
  kx (.exit 0) (v,v1,v2,v3))
def Pd(R:Type)(_k:Nat):Px R:=pxO [(133,cA Qm)] [] [] []
noncomputable def U9(R:Type)(k:Nat):Px R:=pxO [(260,A1 120 600 (Pd R k) Tryz.f260)] [] [(2,Am k Ad6 (Lr))] []
noncomputable def Ae8(R:Type)(k:Nat):Px R:=pxO [(231,A1 80 400 (U9 R k) Tryz.f231)] [] [] []
noncomputable def Aqq(R:Type)(k:Nat):Px R:=pxO [(188,A1 40 200 (Ae8 R k) Tryz.f188)] [] [] []
def Ael(k:Nat)(x:HV [.sl .expr false]):Option (HV [.bool]):=match x with
 |l =>
 cond (decide ((l.length:Int)<=100)) (
  Aj (λrec=>Lr rec (λe vz=>match vz with|(_,v5,_,_)=>match e with
  |.ret =>some (!(decide (0<=v5)))
  |.exit 0 =>some true
  |_=>none)) k (l,0,(l.length:Int),0)) (
  some false)
theorem A3b(k:Nat):FO 218 [.sl .expr false] [.bool] (Ael k):=fR (px:=Aqq _ k) (n:=0) Tryz.func218 rfl (λcx H=>by have h3:Lv cx (Pd (HV [.bool]) k):=lv H (c1 H R7 Ae) Aa Ab;have h2:Lv cx (U9 (HV [.bool]) k):=lv H (Ao (cR H h3 Tryz.func260 rfl (n:=0) (Ai)) Ae) Aa Ab;have hlaexprs_0:=lO H h2 (b:=lp Tryz.f231 0) (k:=k) (n:=0) (s:=Ad6) (step:=Lr) (λ_ _ _ (_,_,_,_)=>by kernel_rfl) Ai;have h1:Lv cx (Ae8 (HV [.bool]) k):=lv H (Ao (cR H h2 Tryz.func231 rfl (n:=1) ((A6 Ai hlaexprs_0))) Ae) Aa Ab;have h0:Lv cx (Aqq (HV [.bool]) k):=lv H (Ao (cR H h1 Tryz.func188 rfl (n:=0) (Ai)) Ae) Aa Ab;exact⟨h0,Ai⟩) λ_=>by kernel_rfl
def Je(l:List Xpr):Bool:=decide (l.length<=100)&&l.all λe=>B1 e 30
def X7:FT [.sl .expr false] [.bool]:=λx=>some (Je x)
theorem Ayz{R:Type}{kx:Ex->M5->Option R}{l:List Xpr}{c:Bool->Option R}(hn:ln l.length)(h1:∀i:Nat,kx .ret (l,(i:Int),(l.length:Int),(i:Int))=c false)(h2:∀q i,kx (.exit 0) (l,q,(l.length:Int),i)=c true)(k:Nat)(hk:l.length<k) :
  Aj (λrec=>Lr rec kx) k (l,0,(l.length:Int),0)=c (l.all λe=>B1 e 30):=by
 refine(A8 l.length (λi=>(l,(0:Int),(l.length:Int),(i:Int))) (λi=>c ((l.drop i).all λe=>B1 e 30)) (λi hi rec hr =>?_) (λrec =>?_) k 0 (Nat.zero_le _) (by omega)).trans (by rw[Zq1])
 ·simp only[Lr,Ea hi,As hi,Al (c :=.expr) hi,An hi hn,hr,h1,Ak hi,Zv1];cases B1 l[i] 30<;>rfl
 ·simp only[Lr,Ee,h2];rw[Zk1 (Zn1 _)];rfl
theorem Anq:FO 218 [.sl .expr false] [.bool] X7 :=.fin 0 A3b λl r hb hx=>⟨l.length+1,by
 simp only[X7,Za1] at hx;rw[<-hx];simp only[Ael,Je];rw[show decide ((l.length:Int)<=100)=decide (l.length<=100) from Zy1.2 (by omega)];cases decide (l.length<=100) with
 |false=>rfl
 |true =>rw[Af,Bool.true_and];exact Ayz (l:=l) (c:=some) hb.1 (λi=>by simp) (λ_ _=>rfl) (l.length+1) (by omega)⟩
def Alz:Sig:=⟨19,[(0,.sl .exprs false),(4,.int .i64),(7,.int .i64),(8,.int .i64)],[(1,.fn 262 [])],[],80,80,400,[],[]⟩
abbrev S8:=List (List Xpr)×Int×Int×Int
def Tm{R:Type}(rec:S8->Option R)(kx:Ex->S8->Option R)(v:S8):Option R:=match v with
 |(v,v1,v2,v3) =>
 cond (decide (v3<v2)) (
  chk (inb v3 v.length) (
  cond (decide (((at' .exprs v v3).length:Int)=0)) (
   kx .ret (v,v3,v2,v3)) (
   cond (!(Je (at' .exprs v v3))) (
   kx .ret (v,v3,v2,v3)) (
   rec (v,v1,v2,(wr .i64 (v3+1))))))) (
  kx (.exit 0) (v,v1,v2,v3))
def Qu(R:Type)(_k:Nat):Px R:=pxO [(218,cA X7)] [] [] []
noncomputable def Z1(R:Type)(k:Nat):Px R:=pxO [(262,A1 120 600 (Qu R k) Tryz.f262)] [] [(2,Am k Alz (Tm))] []
noncomputable def Aig(R:Type)(k:Nat):Px R:=pxO [(277,A1 80 400 (Z1 R k) Tryz.f277)] [] [] []
noncomputable def Az2(R:Type)(k:Nat):Px R:=pxO [(216,cA Yk),(261,A1 40 200 (Aig R k) Tryz.f261)] [] [] []
def Ah4(k:Nat)(x:HV [.sl .exprs false]):Option (HV [.bool]):=match x with
 |l =>
 cond ((Dj (l.length:Int))) (
  Aj (λrec=>Tm rec (λe vz=>match vz with|(_,v5,_,_)=>match e with
  |.ret =>some (!(decide (0<=v5)))
  |.exit 0 =>some true
  |_=>none)) k (l,0,(l.length:Int),0)) (
  some false)
theorem Bar(k:Nat):FO 219 [.sl .exprs false] [.bool] (Ah4 k):=fR (px:=Az2 _ k) (n:=0) Tryz.func219 rfl (λcx H=>by have h3:Lv cx (Qu (HV [.bool]) k):=lv H (c1 H Anq Ae) Aa Ab;have h2:Lv cx (Z1 (HV [.bool]) k):=lv H (Ao (cR H h3 Tryz.func262 rfl (n:=0) (Ai)) Ae) Aa Ab;have hlarows_0:=lO H h2 (b:=lp Tryz.f277 0) (k:=k) (n:=0) (s:=Alz) (step:=Tm) (λ_ _ _ (_,_,_,_)=>by kernel_rfl) Ai;have h1:Lv cx (Aig (HV [.bool]) k):=lv H (Ao (cR H h2 Tryz.func277 rfl (n:=1) ((A6 Ai hlarows_0))) Ae) Aa Ab;have h0:Lv cx (Az2 (HV [.bool]) k):=lv H (c1 H Aa6 (Ao (cR H h1 Tryz.func261 rfl (n:=0) (Ai)) Ae)) Aa Ab;exact⟨h0,Ai⟩) λ_=>by kernel_rfl
def A6w(r:List Xpr):Bool := !decide (r.length=0)&&Je r
def Avp(l:List (List Xpr)):Bool:=Dj (l.length:Int)&&l.all A6w
def Ar9:FT [.sl .exprs false] [.bool]:=λx=>some (Avp x)
theorem A4a{R:Type}{kx:Ex->S8->Option R}{l:List (List Xpr)}{c:Bool->Option R}(hn:ln l.length)(h1:∀i:Nat,kx .ret (l,(i:Int),(l.length:Int),(i:Int))=c false)(h2:∀q i,kx (.exit 0) (l,q,(l.length:Int),i)=c true)(k:Nat)(hk:l.length<k) :
  Aj (λrec=>Tm rec kx) k (l,0,(l.length:Int),0)=c (l.all A6w):=by
 refine(A8 l.length (λi=>(l,(0:Int),(l.length:Int),(i:Int))) (λi=>c ((l.drop i).all A6w)) (λi hi rec hr =>?_) (λrec =>?_) k 0 (Nat.zero_le _) (by omega)).trans (by rw[Zq1])
 ·simp only[Tm,Ea hi,As hi,chk,Al (c :=.exprs) hi,An hi hn,hr,h1,Ak hi,Zv1,A6w];rw[show decide ((l[i].length:Int)=0)=decide (l[i].length=0) from Zy1.2 (by omega)];cases decide (l[i].length=0)<;>cases Je l[i]<;>rfl
 ·simp only[Tm,Ee,h2];rw[Zk1 (Zn1 _)];rfl
theorem Bfv:FO 219 [.sl .exprs false] [.bool] Ar9 :=.fin 0 Bar λl r hb hx=>⟨l.length+1,by
 simp only[Ar9,Za1] at hx;rw[<-hx];simp only[Ah4,Avp];cases Dj (l.length:Int) with
 |false=>rfl
 |true =>rw[Af,Bool.true_and];exact A4a (l:=l) (c:=some) hb.1 (λi=>by simp) (λ_ _=>rfl) (l.length+1) (by omega)⟩
def Bhd(R:Type):Px R:=pxO [(251,cA S5)] [] [] []
def Xf(x:HV [.sv .expr]):Option (HV [.bool]):=match x with
 |e =>
 some (P1 e (Xpr.mk 0 ⟨0,0,[]⟩ [] []))
theorem A95:FO 263 [.sv .expr] [.bool] (Xf):=fR (px:=Bhd _) (n:=0) Tryz.func263 rfl (λ_ H=>⟨lv H (c1 H Qv Ae) Aa Ab,Ai⟩) λ_=>by kernel_rfl
def Axy(e:Xpr):Bool :=(P1 e (Xpr.mk 0 ⟨0,0,[]⟩ [] []))
theorem Bdj(x:HV [.sv .expr]):Xf x=some (Axy x):=by
 first
  |exact rfl
  |simp only[Xf,Axy,Az]
def A8c:FT [.sv .expr] [.bool]:=λx=>some (Axy x)
theorem Bik:FO 263 [.sv .expr] [.bool] A8c :=.fin0 A95 λx _ _ hx=>(Bdj x).trans hx
def Bep(R:Type):Px R:=pxO [(263,cA A8c),(133,cA Qm)] [] [] []
def Py(x:HV [.sv .stmt]):Option (HV [.bool]):=match x with
 |s =>
 cond (!s.has) (
  some (Axy (Uz s.whr))) (
  some (B1 (Uz s.whr) 30))
theorem A4l:FO 221 [.sv .stmt] [.bool] (Py):=fR (px:=Bep _) (n:=0) Tryz.func221 rfl (λ_ H=>⟨lv H (c1 H Bik (c1 H R7 Ae)) Aa Ab,Ai⟩) λ_=>by kernel_rfl
def K3(s:Stm):Bool :=
 cond (!s.has) (
  (Axy (Uz s.whr))) (
  (B1 (Uz s.whr) 30))
theorem A2i(x:HV [.sv .stmt]):Py x=some (K3 x):=by
 first
  |exact rfl
  |simp only[Py,K3,Az]
def A0y:FT [.sv .stmt] [.bool]:=λx=>some (K3 x)
theorem Bap:FO 221 [.sv .stmt] [.bool] A0y :=.fin0 A4l λx _ _ hx=>(A2i x).trans hx
def Al6:Sig:=⟨44,[(0,.sl .col false),(2,.bool),(3,.sl .str true),(6,.sl .col false),(7,.int .i64),(8,.int .i64)],[],[],0,0,0,[],[]⟩
abbrev Up:=List Col×Bool×List Str×List Col×Int×Int
def Un{R:Type}(rec:Up->Option R)(kx:Ex->Up->Option R)(v:Up):Option R:=match v with
 |(v,v1,v2,v3,v4,v5) =>
 cond (decide (v5<v4)) (
  chk (inb v5 v3.length) (
  let j:=λ(p:Bool) =>
   cond (p) (
   kx .ret (v,false,v2,v3,v4,v5)) (
   cond (!decide (((at' .col v3 v5).ref)=[])) (
    cond (!(Ds ((at' .col v3 v5).ref))) (
    kx .ret (v,false,v2,v3,v4,v5)) (
    chk (decide (v2.length+1<=Ah)) (
     rec (v,v1,(v2++[((at' .col v3 v5).name)]),v3,v4,(wr .i64 (v5+1)))))) (
    chk (decide (v2.length+1<=Ah)) (
    rec (v,v1,(v2++[((at' .col v3 v5).name)]),v3,v4,(wr .i64 (v5+1))))))
  cond (decide ((at' .col v3 v5).kind<2)) (
   j true) (
   j (decide (5<(at' .col v3 v5).kind))))) (
  kx (.exit 0) (v,v1,v2,v3,v4,v5))
def Axo(R:Type)(k:Nat):Px R:=pxO [(187,cA Um),(216,cA Yk),(217,cA Z8)] [] [(3,Am k Al6 (Un))] []
def Alm(k:Nat)(x:HV [.sl .col false]):Option (HV [.bool]):=match x with
 |l =>
 Aj (λrec=>Un rec (λe vz=>match vz with|(v6,v7,v8,_,_,_)=>match e with
  |.ret =>
  some v7
  |.exit 0 =>
  cond ((Dj (v6.length:Int))) (
   some (Dq v8)) (
   some false)
  |_=>none)) k (l,false,[],l,(l.length:Int),0)
theorem Beo(k:Nat):FO 215 [.sl .col false] [.bool] (Alm k):=fR (px:=Axo _ k) (n:=1) Tryz.func215 rfl (λcx H=>by have h0:Lv cx (Axo (HV [.bool]) k):=lv H (c1 H Y7 (c1 H Aa6 (c1 H Ah8 Ae))) Aa Ab;have hlacols_0:=lO H h0 (b:=lp Tryz.f215 0) (k:=k) (n:=0) (s:=Al6) (step:=Un) (λ_ _ _ (_,_,_,_,_,_)=>by kernel_rfl) Ai;exact⟨h0,(A6 Ai hlacols_0)⟩) λ_=>by kernel_rfl
def Ae4(c:Col):Bool:=decide (2<=c.kind)&&decide (c.kind<=5)&&(decide (c.ref=[])||Ds c.ref)
def A6v(l:List Col):Option Bool:=if l.length<=2000000 then some (l.all Ae4&&Dj (l.length:Int)&&Dq (l.map (·.name))) else none
def At7:FT [.sl .col false] [.bool]:=λx=>A6v x
theorem A1v{R:Type}{kx:Ex->Up->Option R}{l:List Col}{c:Bool->Option R}(hn:l.length<=2000000)(h1:∀o i,kx .ret (l,false,o,l,(l.length:Int),i)=c false)(h2:∀q o i,kx (.exit 0) (l,q,o,l,(l.length:Int),i)=cond (Dj (l.length:Int)) (c (Dq o)) (c false))(k:Nat)(hk:l.length<k) :
  Aj (λrec=>Un rec kx) k (l,false,[],l,(l.length:Int),0)=c (l.all Ae4&&Dj (l.length:Int)&&Dq (l.map (·.name))):=by
 have hl:ln l.length:=by simp[ln];omega
 refine(A8 l.length (λi=>(l,false,(l.take i).map (·.name),l,(l.length:Int),(i:Int))) (λi=>c ((l.drop i).all Ae4&&Dj (l.length:Int)&&Dq (l.map (·.name)))) (λi hi rec hr =>?_) (λrec =>?_) k 0 (Nat.zero_le _) (by omega)).trans (by rw[Zq1])
 ·have ht:(l.take (i+1)).map (·.name)=(l.take i).map (·.name)++[l[i].name]:=by rw[List.take_add_one,Zo1 hi,List.map_append];rfl
  have hlen:((l.take i).map (·.name)).length+1<=Ah:=by simp[List.length_map,List.length_take,Ah];omega
  rw[ht] at hr;simp only[Un,Ea hi,Af,As hi,chk,Al (c :=.col) hi,An hi hl,hr,h1,Ak hi,Zv1,Ae4,Ze1 hlen];by_cases ha:l[i].kind<2
  ·grind
  ·grind
 ·simp only[Un,Ee,Ag,h2];rw[Zk1 (Zn1 _),List.take_length];cases Dj (l.length:Int)<;>rfl
theorem Bm9:FO 215 [.sl .col false] [.bool] At7 :=.fin 0 Beo λl r hb hx=>⟨l.length+1,by
 simp only[At7,A6v] at hx;split at hx
 ·rename_i h;rw[<-hx];simp only[Alm];refine A1v (l:=l) (c:=some) h (λ_ _=>rfl) (λ_ _ _ =>?_) (l.length+1) (by omega);cases Dj (l.length:Int)<;>rfl
 ·cases hx⟩
def Ake:Sig:=⟨29,[(0,.sl .set false),(2,.bool),(3,.sl .str true),(6,.sl .set false),(7,.int .i64),(8,.int .i64)],[],[],0,0,0,[],[]⟩
abbrev Tp:=List SetE×Bool×List Str×List SetE×Int×Int
def T7{R:Type}(rec:Tp->Option R)(kx:Ex->Tp->Option R)(v:Tp):Option R:=match v with
 |(v,v1,v2,v3,v4,v5) =>
 cond (decide (v5<v4)) (
  chk (inb v5 v3.length) (
  cond (!(B1 (Uz ((at' .set v3 v5).e)) 30)) (
   kx .ret (v,false,v2,v3,v4,v5)) (
   chk (decide (v2.length+1<=Ah)) (
   rec (v,v1,(v2++[((at' .set v3 v5).name)]),v3,v4,(wr .i64 (v5+1))))))) (
  kx (.exit 0) (v,v1,v2,v3,v4,v5))
def Awp(R:Type)(k:Nat):Px R:=pxO [(133,cA Qm),(216,cA Yk),(217,cA Z8)] [] [(3,Am k Ake (T7))] []
def Ait(k:Nat)(x:HV [.sl .set false]):Option (HV [.bool]):=match x with
 |l =>
 Aj (λrec=>T7 rec (λe vz=>match vz with|(v6,v7,v8,_,_,_)=>match e with
  |.ret =>
  some v7
  |.exit 0 =>
  cond ((Dj (v6.length:Int))) (
   some (Dq v8)) (
   some false)
  |_=>none)) k (l,false,[],l,(l.length:Int),0)
theorem Bbw(k:Nat):FO 220 [.sl .set false] [.bool] (Ait k):=fR (px:=Awp _ k) (n:=1) Tryz.func220 rfl (λcx H=>by have h0:Lv cx (Awp (HV [.bool]) k):=lv H (c1 H R7 (c1 H Aa6 (c1 H Ah8 Ae))) Aa Ab;have hlasets_0:=lO H h0 (b:=lp Tryz.f220 0) (k:=k) (n:=0) (s:=Ake) (step:=T7) (λ_ _ _ (_,_,_,_,_,_)=>by kernel_rfl) Ai;exact⟨h0,(A6 Ai hlasets_0)⟩) λ_=>by kernel_rfl
def A69(l:List SetE):Option Bool:=if l.length<=2000000 then some (l.all (λx=>B1 x.e 30)&&Dj (l.length:Int)&&Dq (l.map (·.name))) else none
def Ar2:FT [.sl .set false] [.bool]:=λx=>A69 x
theorem A5h{R:Type}{kx:Ex->Tp->Option R}{l:List SetE}{c:Bool->Option R}(hn:l.length<=2000000)(h1:∀o i,kx .ret (l,false,o,l,(l.length:Int),i)=c false)(h2:∀q o i,kx (.exit 0) (l,q,o,l,(l.length:Int),i)=cond (Dj (l.length:Int)) (c (Dq o)) (c false))(k:Nat)(hk:l.length<k) :
  Aj (λrec=>T7 rec kx) k (l,false,[],l,(l.length:Int),0)=c (l.all (λx=>B1 x.e 30)&&Dj (l.length:Int)&&Dq (l.map (·.name))):=by
 have hl:ln l.length:=by simp[ln];omega
 refine(A8 l.length (λi=>(l,false,(l.take i).map (·.name),l,(l.length:Int),(i:Int))) (λi=>c ((l.drop i).all (λx=>B1 x.e 30)&&Dj (l.length:Int)&&Dq (l.map (·.name)))) (λi hi rec hr =>?_) (λrec =>?_) k 0 (Nat.zero_le _) (by omega)).trans (by rw[Zq1])
 ·have ht:(l.take (i+1)).map (·.name)=(l.take i).map (·.name)++[l[i].name]:=by rw[List.take_add_one,Zo1 hi,List.map_append];rfl
  have hlen:((l.take i).map (·.name)).length+1<=Ah:=by simp[List.length_map,List.length_take,Ah];omega
  rw[ht] at hr;simp only[T7,Ea hi,Af,As hi,chk,Al (c :=.set) hi,An hi hl,hr,h1,Ak hi,Zv1,Ze1 hlen,Ro];cases B1 l[i].e 30<;>rfl
 ·simp only[T7,Ee,Ag,h2];rw[Zk1 (Zn1 _),List.take_length];cases Dj (l.length:Int)<;>rfl
theorem Bi2:FO 220 [.sl .set false] [.bool] Ar2 :=.fin 0 Bbw λl r hb hx=>⟨l.length+1,by
 simp only[Ar2,A69] at hx;split at hx
 ·rename_i h;rw[<-hx];simp only[Ait];refine A5h (l:=l) (c:=some) h (λ_ _=>rfl) (λ_ _ _ =>?_) (l.length+1) (by omega);cases Dj (l.length:Int)<;>rfl
 ·cases hx⟩
def noX:Xpr :=.mk 0 ⟨0,0,[]⟩ [] []
def noS:Stm:=⟨0,[],[],[],[],[],[],[],false,noX,[],[],0⟩
def Bgi(R:Type):Px R:=pxO [] [] [] []
def Alg(x:HV [.sv .stmt]):Option (HV [.sv .stmt]):=match x with
 |s =>
 cond (decide (s.kind=1)) (
  some (Stm.mk 0 [] s.on [] [] [] s.rows s.sets s.has (Uz s.whr) s.order s.desc s.most)) (
  cond (decide (s.kind=3)) (
  some (Stm.mk 0 [] [] s.cols [] s.l s.rows s.sets s.has (Uz s.whr) s.order s.desc s.most)) (
  cond (decide (s.kind=5)) (
   some (Stm.mk 0 [] s.on s.cols s.names s.l [] s.sets s.has (Uz s.whr) s.order s.desc s.most)) (
   cond (decide (s.kind=6)) (
   some (Stm.mk 0 [] s.on s.cols s.names s.l s.rows [] false (Xpr.mk 0 ⟨0,0,[]⟩ [] []) s.order s.desc s.most)) (
   cond (decide (s.kind=7)) (
    some (Stm.mk 0 [] s.on s.cols s.names s.l s.rows s.sets false (Xpr.mk 0 ⟨0,0,[]⟩ [] []) s.order s.desc s.most)) (
    cond (decide (s.kind=8)) (
    some (Stm.mk 0 [] s.on s.cols s.names [] s.rows s.sets false (Xpr.mk 0 ⟨0,0,[]⟩ [] []) [] [] 0)) (
    some (Stm.mk 0 [] s.on s.cols s.names s.l s.rows s.sets s.has (Uz s.whr) s.order s.desc s.most)))))))
theorem A97:FO 214 [.sv .stmt] [.sv .stmt] (Alg):=fR (px:=Bgi _) (n:=0) Tryz.func214 rfl (λ_ H=>⟨lv H Ae Aa Ab,Ai⟩) λ_=>by kernel_rfl
def Al5(s:Stm):Stm :=
 if s.kind=1 then { s with kind:=0,name:=[],cols:=[],names:=[],l:=[] }
 else if s.kind=3 then { s with kind:=0,name:=[],on:=[],names:=[] }
 else if s.kind=5 then { s with kind:=0,name:=[],rows:=[] }
 else if s.kind=6 then { s with kind:=0,name:=[],sets:=[],has:=false,whr:=noX }
 else if s.kind=7 then { s with kind:=0,name:=[],has:=false,whr:=noX }
 else if s.kind=8 then { s with kind:=0,name:=[],l:=[],has:=false,whr:=noX,order:=[],desc:=[],most:=0 }
 else { s with kind:=0,name:=[] }
def Auo:FT [.sv .stmt] [.sv .stmt]:=λx=>some (Al5 x)
theorem Bg2:FO 214 [.sv .stmt] [.sv .stmt] Auo :=.fin0 A97 λs r hb hx=>by
 simp only[Auo,Za1] at hx;rw[<-hx];simp only[Alg,Al5,Ro,Bool.cond_decide];split; · rfl
 split; · rfl
 split; · rfl
 split; · rfl
 split; · rfl
 split<;>rfl
def Bdp(R:Type):Px R:=pxO [(187,cA Um),(214,cA Auo),(213,cA Avu),(215,cA At7),(216,cA Yk),(217,cA Z8),(218,cA X7),(219,cA Ar9),(220,cA Ar2),(221,cA A0y)] [] [] []
def Ae2(x:HV [.sv .stmt]):Option (HV [.int .i64]):=match x with
 |s =>
 let j7:=λ(p1:Bool) =>
  cond (decide (s.kind=1)) (
  let j1:=λ(p2:Bool) =>
   let j:=λ(p3:Bool) =>
   cond (p3) (
    cond ((Dq s.names)) (
    cond (!(Je s.l)) (
     some 2) (
     some 0)) (
    some 2)) (
    some 2)
   cond (p2) (
   j (Dj (s.names.length:Int))) (
   j false)
  cond (p1) (
   (A6v s.cols).bind λx =>
   j1 x) (
   j1 false)) (
  cond (decide (s.kind=3)) (
   let j2:=λ(p7:Bool) =>
   cond (p7) (
    cond ((Dj (s.names.length:Int))) (
    cond (!(Dq s.names)) (
     some 2) (
     some 0)) (
    some 2)) (
    some 2)
   cond (p1) (
   j2 (Ds s.on)) (
   j2 false)) (
   let j6:=λ(a:Bool) =>
   cond (a) (
    cond (!p1) (
    some 2) (
    some 0)) (
    cond (decide (s.kind=5)) (
    cond (p1) (
     cond (!(Avp s.rows)) (
     some 2) (
     some 0)) (
     some 2)) (
    cond (decide (s.kind=6)) (
     cond (p1) (
     (A69 s.sets).bind λx1 =>
      cond (x1) (
      cond (!(K3 s)) (
       some 2) (
       some 0)) (
      some 2)) (
     some 2)) (
     cond (decide (s.kind=7)) (
     cond (p1) (
      cond (!(K3 s)) (
      some 2) (
      some 0)) (
      some 2)) (
     cond (decide (s.kind=8)) (
      let j5:=λ(b:Bool) =>
      let j4:=λ(c:Bool) =>
       let j3:=λ(d:Bool) =>
       cond (d) (
        cond (decide ((s.desc.length:Int)=(s.order.length:Int))) (
        cond (!(decide ((-1)<=s.most))) (
         some 2) (
         some 0)) (
        some 2)) (
        some 2)
       cond (c) (
       j3 (Dq s.order)) (
       j3 false)
      cond (b) (
       j4 (K3 s)) (
       j4 false)
      cond (p1) (
      j5 (Je s.l)) (
      j5 false)) (
      some 2)))))
   cond (decide (s.kind=2)) (
   j6 (decide (s.kind=2))) (
   j6 (decide (s.kind=4)))))
 cond ((Ds s.name)) (
  j7 (A28 (Al5 s) (Stm.mk 0 [] [] [] [] [] [] [] false (Xpr.mk 0 ⟨0,0,[]⟩ [] []) [] [] 0))) (
  j7 false)
theorem A4i:FO 176 [.sv .stmt] [.int .i64] (Ae2):=fR (px:=Bdp _) (n:=0) Tryz.func176 rfl (λ_ H=>⟨lv H (c1 H Y7 (c1 H Bg2 (c1 H Bdo (c1 H Bm9 (c1 H Aa6 (c1 H Ah8 (c1 H Anq (c1 H Bfv (c1 H Bi2 (c1 H Bap Ae)))))))))) Aa Ab,Ai⟩) λ_=>by kernel_rfl
def F1(s:Stm):Bool:=Ds s.name&&decide (Al5 s=noS)&&(
 if s.kind=1 then s.cols.all Ae4&&Dj (s.cols.length:Int)&&Dq (s.cols.map (·.name))&&Dj (s.names.length:Int)&&Dq s.names&&Je s.l
 else if s.kind=3 then Ds s.on&&Dj (s.names.length:Int)&&Dq s.names
 else if s.kind=2\/s.kind=4 then true
 else if s.kind=5 then Avp s.rows
 else if s.kind=6 then s.sets.all (λx=>B1 x.e 30)&&Dj (s.sets.length:Int)&&Dq (s.sets.map (·.name))&&K3 s
 else if s.kind=7 then K3 s
 else if s.kind=8 then Je s.l&&K3 s&&Dq s.order&&decide (s.desc.length=s.order.length)&&decide (-1<=s.most)
 else false)
def Acy(s:Stm):Option Int:=if s.cols.length<=2000000/\s.sets.length<=2000000 then some (cond (F1 s) 0 2) else none
def Aa4:FT [.sv .stmt] [.int .i64]:=λx=>Acy x
theorem Ap0:FO 176 [.sv .stmt] [.int .i64] Aa4 :=.fin0 A4i λs r hb hx=>by
 simp only[Aa4,Acy] at hx;split at hx
 case isFalse=>cases hx
 rename_i h;rw[<-hx];have e1:A6v s.cols=some (s.cols.all Ae4&&Dj (s.cols.length:Int)&&Dq (s.cols.map (·.name))):=if_pos h.1;have e2:A69 s.sets=some (s.sets.all (λx=>B1 x.e 30)&&Dj (s.sets.length:Int)&&Dq (s.sets.map (·.name))):=if_pos h.2;have e3:A28 (Al5 s) (Stm.mk 0 [] [] [] [] [] [] [] false (Xpr.mk 0 ⟨0,0,[]⟩ [] []) [] [] 0)=decide (Al5 s=noS):=Bbz _ _;have e4:decide ((s.desc.length:Int)=(s.order.length:Int))=decide (s.desc.length=s.order.length):=Zy1.2 (by omega);simp only[Ae2,F1,e1,e2,e3,e4,Zc1];generalize Ds s.name=A;generalize decide (Al5 s=noS)=B;generalize (s.cols.all Ae4&&Dj (s.cols.length:Int)&&Dq (s.cols.map (·.name)))=C;generalize Dj (s.names.length:Int)=D;generalize Dq s.names=E;generalize Je s.l=F;generalize Ds s.on=G;generalize Avp s.rows=H;generalize (s.sets.all (λx=>B1 x.e 30)&&Dj (s.sets.length:Int)&&Dq (s.sets.map (·.name)))=I;generalize K3 s=J;generalize Dq s.order=K;generalize decide (s.desc.length=s.order.length)=L;generalize decide (-1<=s.most)=M;by_cases h1:s.kind=1
 ·rw[Ze1 h1,if_pos h1];cases A<;>cases B<;>cases C<;>cases D<;>cases E<;>cases F<;>rfl
 rw[Zd1 h1,if_neg h1];by_cases h3:s.kind=3
 ·rw[Ze1 h3,if_pos h3];cases A<;>cases B<;>cases G<;>cases D<;>cases E<;>rfl
 rw[Zd1 h3,if_neg h3];by_cases h24:s.kind=2\/s.kind=4
 ·rw[if_pos h24];rcases h24 with h2|h2
  ·rw[Ze1 h2];cases A<;>cases B<;>rfl
  ·rw[Ze1 h2,Zd1 (show ¬s.kind=2 by omega)];cases A<;>cases B<;>rfl
 rw[if_neg h24,Zd1 (show ¬s.kind=2 by omega),Zd1 (show ¬s.kind=4 by omega)];by_cases h5:s.kind=5
 ·rw[Ze1 h5,if_pos h5];cases A<;>cases B<;>cases H<;>rfl
 rw[Zd1 h5,if_neg h5];by_cases h6:s.kind=6
 ·rw[Ze1 h6,if_pos h6];cases A<;>cases B<;>cases I<;>cases J<;>rfl
 rw[Zd1 h6,if_neg h6];by_cases h7:s.kind=7
 ·rw[Ze1 h7,if_pos h7];cases A<;>cases B<;>cases J<;>rfl
 rw[Zd1 h7,if_neg h7];by_cases h8:s.kind=8
 ·rw[Ze1 h8,if_pos h8];cases A<;>cases B<;>cases F<;>cases J<;>cases K<;>cases L<;>cases M<;>rfl
 rw[Zd1 h8,if_neg h8];cases A<;>cases B<;>rfl
def Qo:Sig:=⟨26,[(10,.int .i64),(11,.int .i64)],[(1,.ptr 0 0),(2,.ptr 1 0)],[(0,.oc [.int .i64,.int .i64,.int .i64,.str,.str] 2 .expr),(1,.one (.sv .expr)),(2,.one (.dn .expr))],3,0,0,[],[]⟩
abbrev Gi:=Int×Int×Int×Int×Int×Str×Str×Int×Int×Xpr×List Xpr
def Ju{R:Type}(rf:FT [.sv .expr] [.sv .expr])(rec:Gi->Option R)(kx:Ex->Gi->Option R)(v:Gi):Option R:=match v with
 |(v,v1,w,w1,w2,w3,w4,w5,w6,w7,w8) =>
 cond (decide (v1<v)) (
  chk (inO v1 w6) (
  chk (inb (w5+v1) w8.length) (
   (rf (at' .expr w8 (w5+v1))).bind λx =>
   chk (inO v1 w6) (
    chk (inb (w5+v1) w8.length) (
    rec (v,(wr .i64 (v1+1)),w,w1,w2,w3,w4,w5,w6,w7,(w8.set ((w5+v1):Int).toNat x))))))) (
  kx (.exit 0) (v,v1,w,w1,w2,w3,w4,w5,w6,w7,w8))
noncomputable def Ai0(R:Type)(_k:Nat)(rf:FT [.sv .expr] [.sv .expr]):Px R:=pxO [(225,W0 .expr)] [(181,qA rf)] [] []
noncomputable def Ru(R:Type)(k:Nat)(rf:FT [.sv .expr] [.sv .expr]):Px R:=pxO [(225,W0 .expr)] [(181,qA rf)] [(3,Ar5 (Ai0 R k rf) (lp Tryz.f181 0) k Qo (Ju rf))] []
theorem Ax2(R:Type)(k:Nat)(rf:FT [.sv .expr] [.sv .expr]):∀(fr:List Fr) (rec:Gi->Option R) (kx:Ex->Gi->Option R) (v:Gi),round (Ru R k rf) Qo (lp Tryz.f181 0) fr rec kx v=Ju rf rec kx v
 |fr,rec,kx,(v,v1,w,w1,w2,w3,w4,w5,w6,w7,w8)=>by kernel_rfl
def Ic(k:Nat)(rf:FT [.sv .expr] [.sv .expr])(x:HV [.sv .expr]):Option (HV [.sv .expr]):=match x with
 |e =>
 chk (decide (e.l.length<=2000000)) (
  cond (List.isEmpty e.l) (
  some (Xpr.mk e.kind ⟨e.v.kind,e.v.n,e.v.s⟩ e.name [])) (
  Aj (λrec=>Ju rf rec (λe vz=>match vz with|(_,_,v4,v5,v6,v7,v8,v9,a,_,b)=>match e with
   |.exit 0 =>
   chk (decide ((0:Int)<=v9)&&decide ((0:Int)<=a)&&decide ((v9+a)<=(b.length:Int))) (
    some (Xpr.mk v4 ⟨v5,v6,v7⟩ v8 (cut b v9 (v9+a))))
   |_=>none)) k ((e.l.length:Int),0,e.kind,e.v.kind,e.v.n,e.v.s,e.name,0,(e.l.length:Int),(Xpr.mk 0 ⟨0,0,[]⟩ [] []),e.l)))
theorem A2x(k:Nat)(rf:FT [.sv .expr] [.sv .expr])(hrf:FO 181 [.sv .expr] [.sv .expr] rf):FO 181 [.sv .expr] [.sv .expr] (Ic k rf):=fR (px:=Ru _ k rf) (n:=1) Tryz.func181 rfl (λcx H=>by have h0:Lv cx (Ru (HV [.sv .expr]) k rf):=lv H (Ao (cCl H Afa Yz) Ae) (q1 H hrf Aa) Ab;have h00:Lv cx (Ai0 (HV [.sv .expr]) k rf):=lv H (Ao (cCl H Afa Yz) Ae) (q1 H hrf Aa) Ab;have hlcopied_0:Bg cx (Ru (HV [.sv .expr]) k rf) (lp Tryz.f181 0):=Ala h0.p h0.c h0.q (by rw[H.p];exact follows) h00.p h00.c h00.q (λ_ _ _=>rfl) (k:=k) (s:=Qo) (step:=Ju rf) (λ_ _=>by kernel_rfl) (by kernel_rfl) (Ax2 _ k rf) (Q3 (n:=0) (by kernel_rfl) Ai);exact⟨h0,(A6 Ai hlcopied_0)⟩) λ_=>by kernel_rfl
def Air(e:Xpr):Option Xpr:=cond (decide (Be e<=2000000)) (some e) none
def Aie:FT [.sv .expr] [.sv .expr]:=λx=>Air x
theorem Bpr{i n:Nat}(h:i<n):inO (i:Int) (n:Int)=true:=by simp[inO];omega
theorem Ay0{R:Type}{rf:FT [.sv .expr] [.sv .expr]}{kx:Ex->Gi->Option R}{a b n:Int}{s nm:Str}{z:Xpr}{l:List Xpr}{c:Option R}(hn:ln l.length)(hrf:∀x,x∈l->rf x=some x)(h2:kx (.exit 0) ((l.length:Int),(l.length:Int),a,b,n,s,nm,0,(l.length:Int),z,l)=c)(k:Nat)(hk:l.length<k) :
  Aj (λrec=>Ju rf rec kx) k ((l.length:Int),0,a,b,n,s,nm,0,(l.length:Int),z,l)=c:=by
 refine A8 l.length (λi=>((l.length:Int),(i:Int),a,b,n,s,nm,0,(l.length:Int),z,l)) (λ_=>c) (λi hi rec hr =>?_) (λrec =>?_) k 0 (Nat.zero_le _) (by omega)
 ·simp only[Ju,Ea hi,Af,Int.zero_add,Bpr hi,As hi,chk,Al (c :=.expr) hi,hrf _ (List.getElem_mem hi),Zc1,An hi hn,Int.toNat_natCast,List.set_getElem_self,hr]
 ·simp[Ju,h2]
theorem Ako(k:Nat):∀(n:Nat) (e:Xpr),BdExpr e->Be e<=n->Be e<=k->Be e<=2000000->Aj (Ic k) n e=some e
 |0,e,_,h,_,_=>by have:=Hw e;omega
 |n+1,e,hb,h,hk,ho=>by
  obtain⟨hb4,hb5⟩:=Arh hb;rw[Mj] at h hk ho;have hl:=Hn e.l;have hrf:∀x,x∈e.l->Aj (Ic k) n x=some x:=λx hx=>Ako k n x (hb5 x hx) (by have:=C3 hx;omega) (by have:=C3 hx;omega) (by have:=C3 hx;omega);rw[Ay];simp[Ic];rw[Ze1 (show e.l.length<=2000000 by omega)];simp[chk];cases he:e.l with
  |nil =>simp;obtain⟨kd,v,nm,l⟩:=e;simp[Xpr.l] at he;subst he;rfl
  |cons x t =>
   rw[<-he];have:List.isEmpty e.l=false:=by rw[he];rfl
   rw[this];simp;refine(Ay0 (c:=some e) hb4 hrf ?_ k (by omega));have h1:(decide ((0:Int)<=0)&&decide ((0:Int)<=(e.l.length:Int))&&decide ((0:Int)+(e.l.length:Int)<=(e.l.length:Int)))=true:=by simp
   simp only[h1,A54];cases e;rfl
theorem A93:FO 181 [.sv .expr] [.sv .expr] Aie:=by refine .fin (ι:=Nat) 0 (F:=λn=>Aj (Ic n) n) (λn=>FnOk.rec' (Sx.enters_of Tryz.func181 rfl rfl) (λrf hrf=>A2x n rf hrf) n) λe r hb hx=>⟨Be e,?_⟩;simp only[Aie,Air] at hx;cases hd:decide (Be e<=2000000) with|false=>rw[hd] at hx;cases hx|true =>rw[hd] at hx;exact(Ako (Be e) (Be e) e hb (Zn1 _) (Zn1 _) (of_decide_eq_true hd)).trans hx
def Ap1:Sig:=⟨19,[(0,.sl .col false),(4,.int .i64),(7,.int .i64),(8,.int .i64)],[(1,.fn 266 [.ptr 1 0])],[(1,.cells [.str])],40,40,200,[],[]⟩
abbrev Xt:=List Col×Int×Int×Int×Str
def Abk{R:Type}(rec:Xt->Option R)(kx:Ex->Xt->Option R)(v:Xt):Option R:=match v with
 |(v,v1,v2,v3,w) =>
 cond (decide (v3<v2)) (
  chk (inb v3 v.length) (
  cond (decide (((at' .col v v3).name)=w)) (
   kx .ret (v,v3,v2,v3,w)) (
   rec (v,v1,v2,(wr .i64 (v3+1)),w)))) (
  kx (.exit 0) (v,v1,v2,v3,w))
def Aeb(R:Type)(_k:Nat):Px R:=pxO [] [] [] []
noncomputable def An8(R:Type)(k:Nat):Px R:=pxO [(266,A1 80 400 (Aeb R k) Tryz.f266)] [] [(2,Am k Ap1 (Abk))] []
noncomputable def A8m(R:Type)(k:Nat):Px R:=pxO [(265,A1 40 200 (An8 R k) Tryz.f265)] [] [] []
def Aoz(k:Nat)(x:HV [.sv .tbl,.str]):Option (HV [.int .i64]):=match x with
 |(t,s) =>
 Aj (λrec=>Abk rec (λe vz=>match vz with|(_,v5,_,_,_)=>match e with
  |.ret =>
  some v5
  |.exit 0 =>
  some (-1)
  |_=>none)) k (t.cols,0,(t.cols.length:Int),0,s)
theorem Bi6(k:Nat):FO 224 [.sv .tbl,.str] [.int .i64] (Aoz k):=fR (px:=A8m _ k) (n:=0) Tryz.func224 rfl (λcx H=>by have h2:Lv cx (Aeb (HV [.int .i64]) k):=lv H Ae Aa Ab;have h1:Lv cx (An8 (HV [.int .i64]) k):=lv H (Ao (cR H h2 Tryz.func266 rfl (n:=0) (Ai)) Ae) Aa Ab;have hlscol_0:=lO H h1 (b:=lp Tryz.f265 0) (k:=k) (n:=0) (s:=Ap1) (step:=Abk) (λ_ _ _ (_,_,_,_,_)=>by kernel_rfl) Ai;have h0:Lv cx (A8m (HV [.int .i64]) k):=lv H (Ao (cR H h1 Tryz.func265 rfl (n:=1) ((A6 Ai hlscol_0))) Ae) Aa Ab;exact⟨h0,Ai⟩) λ(_,_)=>by kernel_rfl
def Bqb(t:Tbl)(s:Str):Int:=C8 t.cols s
def A38:FT [.sv .tbl,.str] [.int .i64]:=λx=>some (Bqb x.1 x.2)
theorem Bcg{R:Type}{kx:Ex->Xt->Option R}{s:Str}{cols:List Col}{g:Int->Option R}(hn:ln cols.length)(h1:∀i:Nat,kx .ret (cols,(i:Int),(cols.length:Int),(i:Int),s)=g i)(h2:kx (.exit 0) (cols,0,(cols.length:Int),(cols.length:Int),s)=g (-1))(k:Nat)(hk:cols.length<k) :
  Aj (λrec=>Abk rec kx) k (cols,0,(cols.length:Int),0,s)=g (C8 cols s):=by
 refine(A8 cols.length (λi=>(cols,0,(cols.length:Int),(i:Int),s)) (λi=>g (Dt (cols.drop i) s i)) (λi hi rec hr =>?_) (λrec =>?_) k 0 (Nat.zero_le _) (by omega)).trans (by rw[Zq1];rfl)
 ·simp only[Abk,Ea hi,As hi,Al (c :=.col) hi,An hi hn,hr,h1,Ak hi,Dt,Bool.cond_decide];split<;>rfl
 ·simp only[Abk,Ee,h2];rw[Zk1 (Zn1 _)];rfl
theorem Bn0:FO 224 [.sv .tbl,.str] [.int .i64] A38 :=.fin 0 Bi6 λ(t,s) r hb hx=>⟨t.cols.length+1,by simp only[A38,Za1,Bqb] at hx;simp only[Aoz];exact(Bcg (g:=some) hb.1.cols.1 (λ_=>rfl) rfl _ (by omega)).trans (congrArg some hx)⟩
def Aoo:Sig:=⟨19,[(0,.sl .str false),(4,.int .i64),(7,.int .i64),(8,.int .i64)],[(1,.fn 223 [.ptr 0 0])],[(0,.one (.sv .tbl))],80,80,400,[],[]⟩
abbrev Z4:=List Str×Int×Int×Int×Tbl
def Abf{R:Type}(rec:Z4->Option R)(kx:Ex->Z4->Option R)(v:Z4):Option R:=match v with
 |(v,v1,v2,v3,w) =>
 cond (decide (v3<v2)) (
  chk (inb v3 v.length) (
  cond (decide ((Bqb w (at' .str v v3))<0)) (
   kx .ret (v,v3,v2,v3,w)) (
   rec (v,v1,v2,(wr .i64 (v3+1)),w)))) (
  kx (.exit 0) (v,v1,v2,v3,w))
def Vf(R:Type)(_k:Nat):Px R:=pxO [(224,cA A38)] [] [] []
noncomputable def Aep(R:Type)(k:Nat):Px R:=pxO [(223,A1 120 600 (Vf R k) Tryz.f223)] [] [(2,Am k Aoo (Abf))] []
noncomputable def Aov(R:Type)(k:Nat):Px R:=pxO [(264,A1 80 400 (Aep R k) Tryz.f264)] [] [] []
noncomputable def A86(R:Type)(k:Nat):Px R:=pxO [(222,A1 40 200 (Aov R k) Tryz.f222)] [] [] []
def Apy(k:Nat)(x:HV [.sv .tbl,.sl .str false]):Option (HV [.bool]):=match x with
 |(t,names) =>
 Aj (λrec=>Abf rec (λe vz=>match vz with|(_,v5,_,_,_)=>match e with
  |.ret =>
  some (!(decide (0<=v5)))
  |.exit 0 =>
  some true
  |_=>none)) k (names,0,(names.length:Int),0,t)
theorem Bkq(k:Nat):FO 179 [.sv .tbl,.sl .str false] [.bool] (Apy k):=fR (px:=A86 _ k) (n:=0) Tryz.func179 rfl (λcx H=>by have h3:Lv cx (Vf (HV [.bool]) k):=lv H (c1 H Bn0 Ae) Aa Ab;have h2:Lv cx (Aep (HV [.bool]) k):=lv H (Ao (cR H h3 Tryz.func223 rfl (n:=0) (Ai)) Ae) Aa Ab;have hlsall_0:=lO H h2 (b:=lp Tryz.f264 0) (k:=k) (n:=0) (s:=Aoo) (step:=Abf) (λ_ _ _ (_,_,_,_,_)=>by kernel_rfl) Ai;have h1:Lv cx (Aov (HV [.bool]) k):=lv H (Ao (cR H h2 Tryz.func264 rfl (n:=1) ((A6 Ai hlsall_0))) Ae) Aa Ab;have h0:Lv cx (A86 (HV [.bool]) k):=lv H (Ao (cR H h1 Tryz.func222 rfl (n:=0) (Ai)) Ae) Aa Ab;exact⟨h0,Ai⟩) λ(_,_)=>by kernel_rfl
def Ph(t:Tbl)(names:List Str):Bool:=names.all λs => !decide (C8 t.cols s<0)
def Atk:FT [.sv .tbl,.sl .str false] [.bool]:=λx=>some (Ph x.1 x.2)
theorem Bau{R:Type}{kx:Ex->Z4->Option R}{t:Tbl}{l:List Str}{a b:Option R}(hn:ln l.length)(h1:∀i:Nat,kx .ret (l,(i:Int),(l.length:Int),(i:Int),t)=a)(h2:kx (.exit 0) (l,0,(l.length:Int),(l.length:Int),t)=b)(k:Nat)(hk:l.length<k) :
  Aj (λrec=>Abf rec kx) k (l,0,(l.length:Int),0,t)=cond (Ph t l) b a:=by
 refine(A8 l.length (λi=>(l,0,(l.length:Int),(i:Int),t)) (λi=>cond (Ph t (l.drop i)) b a) (λi hi rec hr =>?_) (λrec =>?_) k 0 (Nat.zero_le _) (by omega)).trans (by rw[Zq1])
 ·simp only[Abf,Ea hi,As hi,Al (c :=.str) hi,An hi hn,hr,h1,Ak hi,Ph,Zv1,Bqb];cases decide (C8 t.cols l[i]<0)<;>rfl
 ·simp only[Abf,Ee,h2];rw[Zk1 (Zn1 _)];rfl
theorem A6s:FO 179 [.sv .tbl,.sl .str false] [.bool] Atk :=.fin 0 Bkq λ(t,l) r hb hx=>⟨l.length+1,by
 simp only[Atk,Za1] at hx;simp only[Apy];refine(Bau (a:=some false) (b:=some true) hb.2.1 (λi =>?_) rfl _ (by omega)).trans ?_
 ·show some (!decide ((0:Int)<=(i:Int)))=some false;rw[Ze1 (by omega)];rfl
 ·rw[<-hx];cases Ph t l<;>rfl⟩
structure LinC {α:Type}(c : α->α->Int):Prop where
 rng:∀x y,c x y = -1\/c x y=0\/c x y=1
 eq:∀x y,c x y=0↔x=y
 anti:∀x y,c y x = -(c x y)
 tr:∀x y z,c x y<=0->c y z<=0->c x z<=0
def Fx(p q:Int):Int:=if p=0 then q else p
theorem A02{p q:Int}(h:Fx p q<=0):p<=0/\(p=0->q<=0):=by simp[Fx] at h;split at h<;>omega
theorem Ajl{α β:Type}{c : α->α->Int}{d : β->β->Int}(hc:LinC c){x y z : α}{u v w : β}(hd:d u v<=0->d v w<=0->d u w<=0)(h1:Fx (c x y) (d u v)<=0)(h2:Fx (c y z) (d v w)<=0):Fx (c x z) (d u w)<=0:=by
 obtain⟨a1,a2⟩:=A02 h1;obtain⟨b1,b2⟩:=A02 h2;simp[Fx];split
 ·rename_i h0;have e:=(hc.eq x z).1 h0;subst e;have an:=hc.anti x y
  grind
 ·exact(hc.tr x y z a1 b1)
def H3{α:Type}(c : α->α->Int):List α->List α->Int
 |[],[]=>0
 |[],_::_ => -1
 |_::_,[]=>1
 |x::a,y::b=>Fx (c x y) (H3 c a b)
theorem Bip{α:Type}{c : α->α->Int}(hc:LinC c):LinC (H3 c):=by
 refine⟨?_,?_,?_,?_⟩
 ·intro x;induction x with
  |nil=>intro y;cases y<;>simp[H3]
  |cons x a ih =>
   intro y;cases y with
   |nil=>simp[H3]
   |cons y b =>
    simp[H3,Fx];split
    ·exact ih b
    ·exact hc.rng x y
 ·intro x;induction x with
  |nil=>intro y;cases y<;>simp[H3]
  |cons x a ih =>
   intro y;cases y with
   |nil=>simp[H3]
   |cons y b =>
    simp[H3,Fx];split
    ·rename_i h;rw[ih b];exact⟨λe=>⟨(hc.eq x y).1 h,e⟩,λe=>e.2⟩
    ·rename_i h;exact⟨λe=>absurd e h,λe=>absurd ((hc.eq x y).2 e.1) h⟩
 ·intro x;induction x with
  |nil=>intro y;cases y<;>simp[H3]
  |cons x a ih =>intro y;cases y with|nil=>simp[H3]|cons y b =>have h:=hc.anti x y;have hb:=ih b;simp[H3,Fx];split<;>split<;>omega
 ·intro x;induction x with
  |nil=>intro y z _ _;cases z<;>simp[H3]
  |cons x a ih =>
   intro y z h1 h2;cases y with
   |nil=>simp[H3] at h1
   |cons y b =>cases z with|nil=>simp[H3] at h2|cons z e =>exact Ajl hc (λp q=>ih b e p q) h1 h2
theorem sg_lin:LinC Di:=by
 have e:∀x y,Di x y=if x<y then -1 else if y<x then 1 else 0:=λx y=>by simp[Di,Bool.cond_decide]
 refine⟨λx y =>?_,λx y =>?_,λx y =>?_,λx y z h1 h2 =>?_⟩
 ·grind
 ·grind
 ·grind
 ·grind
def Bla(a b:UInt8):Int:=Di (a.toNat:Int) (b.toNat:Int)
theorem Bf0:LinC Bla:=by
 refine⟨λx y=>sg_lin.rng _ _,λx y =>?_,λx y=>sg_lin.anti _ _,λx y z=>sg_lin.tr _ _ _⟩;simp[Bla];rw[sg_lin.eq];constructor
 ·intro h;exact UInt8.toNat_inj.1 (by omega)
 ·intro h;rw[h]
theorem A03:∀a b:Str,C1 a b=H3 Bla a b
 |[],[]=>rfl
 |[],_::_=>rfl
 |_::_,[]=>rfl
 |a::l,b::m=>by
  have ih:=A03 l m;simp[C1,Lib.compareBytes] at ih ⊢;simp only[H3,Fx,Bla,Di,<-ih];by_cases h1:a<b
  ·have:(a.toNat:Int)<(b.toNat:Int):=by have:=UInt8.lt_iff_toNat_lt.1 h1;omega
   simp[h1,this]
  ·by_cases h2:b<a
   ·have h3:¬(a.toNat:Int)<(b.toNat:Int):=by have:=UInt8.lt_iff_toNat_lt.1 h2;omega
    have h4:(b.toNat:Int)<(a.toNat:Int):=by have:=UInt8.lt_iff_toNat_lt.1 h2;omega
    simp[h1,h2,h3,h4]
   ·have h3:a=b:=UInt8.le_antisymm (UInt8.not_lt.1 h2) (UInt8.not_lt.1 h1);subst h3;simp
theorem scmp_lin:LinC C1:=by
 have e:(C1:Str->Str->Int)=H3 Bla:=by funext a b;exact A03 a b
 rw[e];exact Bip Bf0
theorem Ma(a b:Val):Gt a b=Fx (Di a.kind b.kind) (Fx (Di a.n b.n) (C1 a.s b.s)):=by
 simp only[Gt,F6,Fx];by_cases h1:Di a.kind b.kind=0
 ·rw[Ze1 h1,if_pos h1];by_cases h2:Di a.n b.n=0
  ·rw[Ze1 h2,if_pos h2];rfl
  ·rw[Zd1 h2,if_neg h2];rfl
 ·rw[Zd1 h1,if_neg h1];rfl
theorem vcmp_lin:LinC Gt:=by
 refine⟨λx y =>?_,λx y =>?_,λx y =>?_,λx y z h1 h2 =>?_⟩
 ·rw[Ma];simp only[Fx];split
  ·split
   ·exact scmp_lin.rng _ _
   ·exact sg_lin.rng _ _
  ·exact sg_lin.rng _ _
 ·rw[Ma];have e1:=sg_lin.eq x.kind y.kind;have e2:=sg_lin.eq x.n y.n;have e3:=scmp_lin.eq x.s y.s;obtain⟨k,n,s⟩:=x;obtain⟨k',n',s'⟩:=y;simp only[Fx,Val.mk.injEq] at *;split
  ·split
   ·rename_i h1 h2;rw[e3,e1.1 h1,e2.1 h2];simp
   ·rename_i h1 h2;exact⟨λh=>absurd h h2,λh=>absurd (e2.2 h.2.1) h2⟩
  ·rename_i h1;exact⟨λh=>absurd h h1,λh=>absurd (e1.2 h.1) h1⟩
 ·rw[Ma,Ma];have e1:=sg_lin.anti x.kind y.kind;have e2:=sg_lin.anti x.n y.n;have e3:=scmp_lin.anti x.s y.s;simp only[Fx];split<;>split<;>(try split)<;>(try split)<;>omega
 ·rw[Ma] at h1 h2 ⊢;refine Ajl (d:=λ(p q:Int×Str)=>Fx (Di p.1 q.1) (C1 p.2 q.2)) (u:=(x.n,x.s)) (v:=(y.n,y.s)) (w:=(z.n,z.s)) sg_lin ?_ h1 h2;intro h3 h4;exact Ajl (d:=C1) sg_lin (λp q=>scmp_lin.tr _ _ _ p q) h3 h4
def ltN(a b:Str):Bool:=decide (C1 a b<0)
theorem A71(a:Str):ltN a a=false:=by have:=(scmp_lin.eq a a).2 rfl;simp[ltN,this]
theorem Bky{a b c:Str}(h1:ltN a b=true)(h2:ltN b c=true):ltN a c=true:=by
 simp[ltN] at *;rcases Int.lt_or_eq_of_le (scmp_lin.tr a b c (by omega) (by omega)) with h|h
 ·exact h
 ·have e:=(scmp_lin.eq a c).1 h;subst e;have:=scmp_lin.anti a b;omega
theorem Bp8(a b:Str):ltN a b=true\/a=b\/ltN b a=true:=by
 simp[ltN];rcases scmp_lin.rng a b with h|h|h
 ·left;omega
 ·exact .inr (.inl ((scmp_lin.eq a b).1 h))
 ·right;have:=scmp_lin.anti a b;omega
theorem A4u{a b:Str}(h:ltN a b=true):a≠b:=λe=>by rw[e,A71] at h;cases h
def Ba:List Idx->Bool
 |[]=>true
 |x::l=>l.all (λy=>ltN x.name y.name)&&Ba l
def Ly(l:List Idx)(x:Idx):List Idx:=l.takeWhile (λy=>ltN y.name x.name)++x::l.dropWhile (λy=>ltN y.name x.name)
def Pg(l:List Idx)(s:Str):Bool:=l.any λy=>decide (y.name=s)
def E7(l:List Idx)(s:Str):Nat:=(l.takeWhile λy=>ltN y.name s).length
theorem A8n(l:List Idx)(s:Str):E7 l s<=l.length:=by
 induction l with
 |nil=>simp[E7]
 |cons x l ih =>
  simp[E7,List.takeWhile_cons] at ih ⊢;split
  ·simp;omega
  ·simp
theorem Z2:∀{l:List Idx}{s:Str},Ba l=true->∀(h:Nat) (hl:h<l.length),ltN l[h].name s=decide (h<E7 l s)
 |[],_,_,h,hl=>by simp at hl
 |x::l,s,hs,h,hl=>by
  simp[Ba,Zg2] at hs;have ih:=Z2 (l:=l) (s:=s) hs.2;have hp:E7 (x::l) s=if ltN x.name s then E7 l s+1 else 0:=by simp[E7,List.takeWhile_cons];split<;>simp
  rw[hp];cases hx:ltN x.name s with
  |true=>grind
  |false =>
   cases h with
   |zero=>simpa using hx
   |succ h =>simp;cases hq:ltN (l[h]'(by simpa using hl)).name s with|false=>rfl|true=>rw[Bky (hs.1 _ (List.getElem_mem _)) hq] at hx;cases hx
theorem Np:∀{l:List Idx},Ba l=true->∀(i j:Nat) (hi:i<l.length) (hj:j<l.length),i<j->ltN l[i].name l[j].name=true
 |[],_,i,j,hi,_,_=>by simp at hi
 |x::l,hs,i,j,hi,hj,hij=>by
  simp[Ba,Zg2] at hs;cases j with
  |zero=>omega
  |succ j =>cases i with|zero=>grind|succ i=>exact Np hs.2 i j (by simpa using hi) (by simpa using hj) (by omega)
theorem A5x{l:List Idx}{s:Str}:Pg l s=true↔∃y,y∈l/\y.name=s:=by simp[Pg]
theorem A6o{l:List Idx}{s:Str}(hs:Ba l=true):Pg l s=true↔∃h:E7 l s<l.length,l[E7 l s].name=s:=by
 rw[A5x];constructor
 ·rintro⟨y,hy,e⟩;obtain⟨k,hk,rfl⟩:=List.getElem_of_mem hy;have h1:=Z2 (s:=s) hs k hk;rw[e,A71] at h1;have hkp:¬k<E7 l s:=λh=>by rw[Ze1 h] at h1;cases h1
  have hpl:E7 l s<l.length:=by omega
  refine⟨hpl,?_⟩;rcases Nat.lt_or_eq_of_le (Nat.le_of_not_lt hkp) with h|h
  ·have h2:=Np hs _ k hpl hk h;rw[e] at h2;have h3:=Z2 (s:=s) hs _ hpl;rw[h2] at h3;simp at h3
  ·subst h;exact e
 ·grind
theorem Bj9(l:List Idx)(s:Str):l.take (E7 l s)=l.takeWhile (λy=>ltN y.name s):=by have:=List.takeWhile_append_dropWhile (p:=λy:Idx=>ltN y.name s) (l:=l);have h2:(l.takeWhile (λy=>ltN y.name s)++l.dropWhile (λy=>ltN y.name s)).take (E7 l s)=l.takeWhile (λy=>ltN y.name s):=List.take_left' rfl;rwa[this] at h2
theorem Blo(l:List Idx)(s:Str):l.drop (E7 l s)=l.dropWhile (λy=>ltN y.name s):=by have:=List.takeWhile_append_dropWhile (p:=λy:Idx=>ltN y.name s) (l:=l);have h2:(l.takeWhile (λy=>ltN y.name s)++l.dropWhile (λy=>ltN y.name s)).drop (E7 l s)=l.dropWhile (λy=>ltN y.name s):=List.drop_left' rfl;rwa[this] at h2
theorem Agt(l:List Idx)(x:Idx):Ly l x=l.take (E7 l x.name)++x::l.drop (E7 l x.name):=by rw[Bj9,Blo,Ly]
theorem A7t{l:List Idx}{x y:Idx}:y∈Ly l x↔y=x\/y∈l:=by
 rw[Agt];have:y∈l↔y∈l.take (E7 l x.name)\/y∈l.drop (E7 l x.name):=by rw[<-List.mem_append,List.take_append_drop]
 constructor
 ·grind
 ·grind
theorem A6c(l:List Idx)(x:Idx):(Ly l x).length=l.length+1:=by rw[Agt];simp[ Za2];omega
theorem W9:∀{l:List Idx}{x:Idx},Ba l=true->Pg l x.name=false->Ba (Ly l x)=true
 |[],x,_,_=>by simp[Ly,Ba]
 |y::l,x,hs,hh=>by
  have hs':=hs;simp[Ba,Zg2] at hs';simp only[Pg,List.any_cons,Bool.or_eq_false_iff,decide_eq_false_iff_not] at hh;have ih:=W9 (l:=l) (x:=x) hs'.2 hh.2;cases hy:ltN y.name x.name with
  |true =>
   have e:Ly (y::l) x=y::Ly l x:=by simp[Ly,hy]
   rw[e];simp[Ba,Zg2];refine⟨λz hz =>?_,ih⟩;rcases A7t.1 hz with rfl|hz
   ·exact hy
   ·exact hs'.1 z hz
  |false =>
   have e:Ly (y::l) x=x::y::l:=by simp[Ly,hy]
   have hxy:ltN x.name y.name=true:=by
    rcases Bp8 x.name y.name with h|h|h
    ·exact h
    ·exact absurd h.symm hh.1
    ·rw[h] at hy;cases hy
   rw[e];simp only[Ba,Zb1,Zg2];refine⟨λz hz =>?_,hs'⟩;rcases List.mem_cons.1 hz with rfl|hz
   ·exact hxy
   ·exact Bky hxy (hs'.1 z hz)
theorem A0p:∀{l:List Idx}{x:Idx},(∀y,y∈l->ltN y.name x.name=true)->Ly l x=l++[x]
 |[],x,_=>rfl
 |y::l,x,h=>by
  have e:Ly (y::l) x=y::Ly l x:=by simp[Ly,(h y (by simp))]
  rw[e,A0p λz hz=>h z (by simp[hz])];rfl
theorem U7:∀{p q:List Idx},Ba (p++q)=true->Ba p=true/\∀y z,y∈p->z∈q->ltN y.name z.name=true
 |[],_,_=>⟨rfl,λ_ _ h=>by cases h⟩
 |x::p,q,h=>by
  simp only[Zb2,Ba,Zb1,Zg2,List.mem_append] at h;obtain⟨h1,h2⟩:=U7 h.2;refine⟨?_,λy z hy hz =>?_⟩
  ·simp[Ba,Zg2];exact⟨λy hy=>h.1 y (.inl hy),h1⟩
  ·rcases List.mem_cons.1 hy with rfl|hy
   ·exact h.1 z (.inr hz)
   ·exact h2 y z hy hz
def Ih:Tbl:=⟨[],[],[],[],[]⟩
def Bh7(cols:List Col)(e:Xpr):Int:=cond (decide ((Km e cols).2=0)) (cond (decide ((Km e cols).1=2)||decide ((Km e cols).1=1)) 0 151) (Km e cols).2
def O6(cols:List Col):List Xpr->Int
 |[]=>0
 |e::l=>cond (decide (Bh7 cols e=0)) (O6 cols l) (Bh7 cols e)
def Ads(s:Stm):Bool:=decide (s.cols.length<=2000000)&&(decide (s.sets.length<=2000000)&&(decide (s.names.length<=2000000)&&(decide (s.l.length<=2000000)&&s.l.all λe=>decide (Be e<=2000000))))
def Q6(s:Stm):Tbl×Int:=cond (decide (s.kind=1)&&F1 s) (cond (Ph ⟨s.name,s.cols,s.names,[],[]⟩ s.names) (cond (decide (O6 s.cols s.l=0)) (⟨s.name,s.cols,s.names,s.l,[]⟩,0) (Ih,O6 s.cols s.l)) (Ih,150)) (Ih,2)
def Ahr:Sig:=⟨70,[(3,.int .i64),(34,.sl .expr false),(35,.int .i64),(36,.int .i64)],[(2,.ptr 1 0),(4,.ptr 2 0)],[(1,.cells [.str,.sl .col true,.sl .str true,.sl .expr true,.sl .idx true]),(2,.cells [.str,.sl .col false,.sl .str false,.sl .expr true,.sl .idx true])],3,0,0,[],[]⟩
abbrev T3:=Int×List Xpr×Int×Int×Str×List Col×List Str×List Xpr×List Idx×Str×List Col×List Str×List Xpr×List Idx
def Sy{R:Type}(rec:T3->Option R)(kx:Ex->T3->Option R)(v:T3):Option R:=match v with
 |(v,v1,v2,v3,w,w1,w2,w3,w4,w5,w6,w7,w8,w9) =>
 cond (decide (v3<v2)) (
  chk (inb v3 v1.length) (
  let j:=λ(p6:Int) =>
   cond (!decide (p6=0)) (
   kx .ret (p6,v1,v2,v3,[],[],[],[],[],w5,w6,w7,w8,w9)) (
   (Air (at' .expr v1 v3)).bind λx3 =>
    chk (decide (w8.length+1<=Ah)) (
    rec (v,v1,v2,(wr .i64 (v3+1)),w,w1,w2,w3,w4,w5,w6,w7,(w8++[x3]),w9)))
  cond (decide ((Km (at' .expr v1 v3) w6).2=0)) (
   cond (!decide ((Km (at' .expr v1 v3) w6).1=2)) (
   cond (!decide ((Km (at' .expr v1 v3) w6).1=1)) (
    j 151) (
    j ((Km (at' .expr v1 v3) w6).2))) (
   j ((Km (at' .expr v1 v3) w6).2))) (
   j ((Km (at' .expr v1 v3) w6).2)))) (
  kx (.exit 0) (v,v1,v2,v3,w,w1,w2,w3,w4,w5,w6,w7,w8,w9))
def Av7(R:Type)(k:Nat):Px R:=pxO [(176,cA Aa4),(179,cA Atk),(180,cA A5z)] [(177,qA Aic),(178,qA Wp),(181,qA Aie)] [(7,Am k Ahr (Sy))] []
def Ak6(k:Nat)(x:HV [.sv .stmt]):Option (HV [.sv .tbl,.int .i64]):=match x with
 |s =>
 cond (!decide (s.kind=1)) (
  some ((Tbl.mk [] [] [] [] []),2)) (
  (Acy s).bind λx =>
  cond (!decide (x=0)) (
   some ((Tbl.mk [] [] [] [] []),2)) (
   (Aip s.cols).bind λx1 =>
   (Lq s.names).bind λx2 =>
    cond (!(Ph (Tbl.mk s.name x1 x2 [] []) x2)) (
    some ((Tbl.mk [] [] [] [] []),150)) (
    Aj (λrec=>Sy rec (λe vz=>match vz with|(v4,_,_,_,v8,v9,a,b,c,d,f,g,h,i)=>match e with
     |.ret =>
     some ((Tbl.mk v8 v9 a b c),v4)
     |.exit 0 =>
     some ((Tbl.mk d f g h i),0)
     |_=>none)) k (0,s.l,(s.l.length:Int),0,[],[],[],[],[],s.name,x1,x2,[],[]))))
theorem Bc1(k:Nat):FO 129 [.sv .stmt] [.sv .tbl,.int .i64] (Ak6 k):=fR (px:=Av7 _ k) (n:=1) Tryz.func129 rfl (λcx H=>by have h0:Lv cx (Av7 (HV [.sv .tbl,.int .i64]) k):=lv H (c1 H Ap0 (c1 H A6s (c1 H Bl5 Ae))) (q1 H Av4 (q1 H Aef (q1 H A93 Aa))) Ab;have hlsmake_0:=lO H h0 (b:=lp Tryz.f129 0) (k:=k) (n:=0) (s:=Ahr) (step:=Sy) (λ_ _ _ (_,_,_,_,_,_,_,_,_,_,_,_,_,_)=>by kernel_rfl) Ai;exact⟨h0,(A6 Ai hlsmake_0)⟩) λ_=>by kernel_rfl
def Ayx(s:Stm):Option (Tbl×Int):=cond (Ads s) (some (Q6 s)) none
def Ar8:FT [.sv .stmt] [.sv .tbl,.int .i64]:=λx=>Ayx x
theorem A43{R:Type}{kx:Ex->T3->Option R}{nm:Str}{cols:List Col}{names:List Str}{l:List Xpr}{b:Option R}{g:Int->Option R}(hn:l.length<=2000000)(hs:l.all (λe=>decide (Be e<=2000000))=true)(h1:∀(p:Int) (i:Nat) (acc:List Xpr),kx .ret (p,l,(l.length:Int),(i:Int),[],[],[],[],[],nm,cols,names,acc,[])=g p)(h2:kx (.exit 0) (0,l,(l.length:Int),(l.length:Int),[],[],[],[],[],nm,cols,names,l,[])=b)(k:Nat)(hk:l.length<k) :
  Aj (λrec=>Sy rec kx) k (0,l,(l.length:Int),0,[],[],[],[],[],nm,cols,names,[],[])=cond (decide (O6 cols l=0)) b (g (O6 cols l)):=by
 have hl:ln l.length:=by simp[ln];omega
 refine(A8 l.length (λi=>(0,l,(l.length:Int),(i:Int),[],[],[],[],[],nm,cols,names,l.take i,[])) (λi=>cond (decide (O6 cols (l.drop i)=0)) b (g (O6 cols (l.drop i)))) (λi hi rec hr =>?_) (λrec =>?_) k 0 (Nat.zero_le _) (by omega)).trans (by rw[Zq1])
 ·have ht:l.take (i+1)=l.take i++[l[i]]:=by rw[List.take_add_one,Zo1 hi];rfl
  have hlen:decide ((l.take i).length+1<=Ah)=true:=Ze1 (by simp[ Ah];omega);have hc:Air l[i]=some l[i]:=by have:=Zg2.1 hs _ (List.getElem_mem hi);simp[Air,this]
  rw[ht] at hr;simp only[Sy,Ea hi,As hi,chk,Al (c :=.expr) hi,An hi hl,h1,Ak hi,O6,Bh7];by_cases hf:(Km l[i] cols).2=0
  ·grind
  ·simp[hf]
 ·simp only[Sy,Ee,h2,List.take_length];rw[Zk1 (Zn1 _)];rfl
theorem Bd1{s:Stm}(h:Ads s=true):s.cols.length<=2000000/\s.sets.length<=2000000/\s.names.length<=2000000/\s.l.length<=2000000/\s.l.all (λe=>decide (Be e<=2000000))=true:=by simp only[Ads,Zb1,Zg1] at h;exact h
theorem Bhr:FO 129 [.sv .stmt] [.sv .tbl,.int .i64] Ar8 :=.fin 0 Bc1 λs r hb hx=>⟨s.l.length+1,by
 simp only[Ar8,Ayx] at hx;cases hs:Ads s with
 |false=>rw[hs] at hx;cases hx
 |true =>
  rw[hs] at hx;simp only[Af,Za1] at hx;rw[<-hx];obtain⟨q1,q2,q3,q4,q5⟩:=Bd1 hs;have ec:Acy s=some (cond (F1 s) 0 2):=if_pos ⟨q1,q2⟩;simp only[Ak6,ec,Zc1,Aip,Lq,Ze1 q1,Ze1 q3,Af,Q6];cases decide (s.kind=1) with
  |false=>rfl
  |true =>
   cases F1 s with
   |false=>rfl
   |true =>
    simp only[Zt1,Ag,Af,Bool.and_self,decide_true];cases Ph ⟨s.name,s.cols,s.names,[],[]⟩ s.names with
    |false=>rfl
    |true =>simp only[Zt1,Ag,Af];refine(A43 (g:=λp=>some (Ih,p)) (b:=some (⟨s.name,s.cols,s.names,s.l,[]⟩,0)) q4 q5 (λ_ _ _=>rfl) rfl _ (by omega)).trans ?_;cases decide (O6 s.cols s.l=0)<;>rfl⟩
def Bii(R:Type):Px R:=pxO [] [] [] []
def Xh(x:HV [.sv .tbl]):Option (HV [.sv .stmt]):=match x with
 |t =>
 some (Stm.mk 1 t.name [] t.cols t.key t.checks [] [] false (Xpr.mk 0 ⟨0,0,[]⟩ [] []) [] [] 0)
theorem A9y:FO 130 [.sv .tbl] [.sv .stmt] (Xh):=fR (px:=Bii _) (n:=0) Tryz.func130 rfl (λ_ H=>⟨lv H Ae Aa Ab,Ai⟩) λ_=>by kernel_rfl
def Fw(t:Tbl):Stm :=(Stm.mk 1 t.name [] t.cols t.key t.checks [] [] false (Xpr.mk 0 ⟨0,0,[]⟩ [] []) [] [] 0)
theorem Bam(x:HV [.sv .tbl]):Xh x=some (Fw x):=by
 first
  |exact rfl
  |simp only[Xh,Fw,Az]
def A8j:FT [.sv .tbl] [.sv .stmt]:=λx=>some (Fw x)
theorem Bj6:FO 130 [.sv .tbl] [.sv .stmt] A8j :=.fin0 A9y λx _ _ hx=>(Bam x).trans hx
def Bee(R:Type):Px R:=pxO [] [] [] []
def Qf(x:HV [.sv .tbl,.sv .idx]):Option (HV [.sv .stmt]):=match x with
 |(t,x) =>
 some (Stm.mk 3 x.name t.name [] x.cols [] [] [] false (Xpr.mk 0 ⟨0,0,[]⟩ [] []) [] [] 0)
theorem A1n:FO 132 [.sv .tbl,.sv .idx] [.sv .stmt] (Qf):=fR (px:=Bee _) (n:=0) Tryz.func132 rfl (λ_ H=>⟨lv H Ae Aa Ab,Ai⟩) λ(_,_)=>by kernel_rfl
def Hv(t:Tbl)(x:Idx):Stm :=(Stm.mk 3 x.name t.name [] x.cols [] [] [] false (Xpr.mk 0 ⟨0,0,[]⟩ [] []) [] [] 0)
theorem A2q(x:HV [.sv .tbl,.sv .idx]):Qf x=some (Hv x.1 x.2):=by
 first
  |exact rfl
  |simp only[Qf,Hv,Az]
def Axk:FT [.sv .tbl,.sv .idx] [.sv .stmt]:=λx=>some (Hv x.1 x.2)
theorem Bdl:FO 132 [.sv .tbl,.sv .idx] [.sv .stmt] Axk :=.fin0 A1n λx _ _ hx=>(A2q x).trans hx
def A3h(R:Type):Px R:=pxO [(93,cA Wx)] [] [] []
def Mz(x:HV [.sv .idx,.str]):Option (HV [.int .i64]):=match x with
 |(x,name) =>
 some (F6 x.name name)
theorem Axl:FO 183 [.sv .idx,.str] [.int .i64] (Mz):=fR (px:=A3h _) (n:=0) Tryz.func183 rfl (λ_ H=>⟨lv H (c1 H Aer Ae) Aa Ab,Ai⟩) λ(_,_)=>by kernel_rfl
def Kk(x:Idx)(name:Str):Int :=(F6 x.name name)
theorem Av3(x:HV [.sv .idx,.str]):Mz x=some (Kk x.1 x.2):=by
 first
  |exact rfl
  |simp only[Mz,Kk,Az]
def Aom:FT [.sv .idx,.str] [.int .i64]:=λx=>some (Kk x.1 x.2)
theorem A27:FO 183 [.sv .idx,.str] [.int .i64] Aom :=.fin0 Axl λx _ _ hx=>(Av3 x).trans hx
def Akv:Sig:=⟨49,[(0,.sl .idx false),(1,.str),(8,.int .i64),(9,.int .i64),(10,.int .i64)],[(2,.fn 183 [])],[(0,.one (.sv .tbl)),(1,.one (.sv .stmt)),(2,.one (.sv .tbl))],40,40,200,[],[]⟩
abbrev Rl:=List Idx×Str×Int×Int×Int×Tbl×Stm×Tbl
def Ut{R:Type}(rec:Rl->Option R)(kx:Ex->Rl->Option R)(v:Rl):Option R:=match v with
 |(v,v1,v2,v3,v4,w,w1,w2) =>
 cond (decide (v3<v4)) (
  chk (inb (wr .i64 (D5 .u64 (wr .u64 (wr .i64 (v3+v4))) 1)) v.length) (
  cond (decide ((Kk (at' .idx v (wr .i64 (D5 .u64 (wr .u64 (wr .i64 (v3+v4))) 1))) v1)<0)) (
   rec (v,v1,v2,(wr .i64 ((wr .i64 (D5 .u64 (wr .u64 (wr .i64 (v3+v4))) 1))+1)),v4,w,w1,w2)) (
   rec (v,v1,v2,v3,(wr .i64 (D5 .u64 (wr .u64 (wr .i64 (v3+v4))) 1)),w,w1,w2)))) (
  kx (.exit 0) (v,v1,v2,v3,v4,w,w1,w2))
def Alb(R:Type)(k:Nat):Px R:=pxO [(183,cA Aom)] [] [(3,Am k Akv (Ut))] []
noncomputable def Av9(R:Type)(k:Nat):Px R:=pxO [(176,cA Aa4),(179,cA Atk),(184,Aga),(182,A1 40 200 (Alb R k) Tryz.f182)] [(178,qA Wp)] [] [(185,Af7 .idx)]
def Aja(k:Nat)(x:HV [.sv .tbl,.sv .stmt]):Option (HV [.sv .tbl,.int .i64]):=match x with
 |(t,s) =>
 cond (!decide (s.kind=3)) (
  some ((Tbl.mk [] [] [] [] []),2)) (
  (Acy s).bind λx =>
  cond (!decide (x=0)) (
   some ((Tbl.mk [] [] [] [] []),2)) (
   cond (!decide (s.on=t.name)) (
   some ((Tbl.mk [] [] [] [] []),2)) (
   Aj (λrec=>Ut rec (λe vz=>match vz with|(v5,v6,v7,v8,_,a,b,_)=>match e with
    |.exit 0 =>
    let j:=λ(c:Bool) =>
     cond (c) (
     some ((Tbl.mk [] [] [] [] []),160)) (
     cond (decide (100<=(a.idx.length:Int))) (
      some ((Tbl.mk [] [] [] [] []),3)) (
      cond (!(Ph a b.names)) (
      some ((Tbl.mk [] [] [] [] []),150)) (
      chk (decide (a.idx.length<=2000000)) (
       cond (List.isEmpty a.idx) (
       (Lq b.names).bind λx1 =>
        chk (decide (v8=0)) (
        some ((Tbl.mk a.name a.cols a.key a.checks [(Idx.mk b.name x1)]),0))) (
       (Lq b.names).bind λx2 =>
        chk (decide ((0:Int)=0)&&decide ((0:Int)<(a.idx.length:Int))&&decide ((a.idx.length:Int)=(a.idx.length:Int))&&decide ((0:Int)<=v8)&&decide (v8<=(a.idx.length:Int))&&decide ((a.idx.length:Int)<=(2000000:Int))) (
        some ((Tbl.mk a.name a.cols a.key a.checks (List.take (v8:Int).toNat a.idx++(Idx.mk b.name x2)::List.drop (v8:Int).toNat a.idx)),0)))))))
    cond (decide (v8<v7)) (
     chk (inb v8 v5.length) (
     j (decide ((Kk (at' .idx v5 v8) v6)=0)))) (
     j false)
    |_=>none)) k (t.idx,s.name,(t.idx.length:Int),0,(t.idx.length:Int),t,s,(Tbl.mk [] [] [] [] [])))))
theorem Bem(k:Nat):FO 131 [.sv .tbl,.sv .stmt] [.sv .tbl,.int .i64] (Aja k):=fR (px:=Av9 _ k) (n:=0) Tryz.func131 rfl (λcx H=>by have h1:Lv cx (Alb (HV [.sv .tbl,.int .i64]) k):=lv H (c1 H A27 Ae) Aa Ab;have hlswith_0:=lO H h1 (b:=lp Tryz.f182 0) (k:=k) (n:=0) (s:=Akv) (step:=Ut) (λ_ _ _ (_,_,_,_,_,_,_,_)=>by kernel_rfl) Ai;have h0:Lv cx (Av9 (HV [.sv .tbl,.int .i64]) k):=lv H (c1 H Ap0 (c1 H A6s (Ao (Bxc H Bsu) (Ao (cR H h1 Tryz.func182 rfl (n:=1) ((A6 Ai hlswith_0))) Ae)))) (q1 H Aef Aa) (Api (Bw6 H Avk Asl) Ab);exact⟨h0,Ai⟩) λ(_,_)=>by kernel_rfl
def Axd(t:Tbl)(s:Stm):Tbl×Int:=cond (decide (s.kind=3)&&(F1 s&&decide (s.on=t.name))) (cond (Pg t.idx s.name) (Ih,160) (cond (decide (100<=t.idx.length)) (Ih,3) (cond (Ph t s.names) ({ t with idx:=Ly t.idx ⟨s.name,s.names⟩ },0) (Ih,150)))) (Ih,2)
def Ajb(t:Tbl)(s:Stm):Bool:=decide (s.cols.length<=2000000)&&(decide (s.sets.length<=2000000)&&(decide (s.names.length<=2000000)&&(decide (t.idx.length<=2000000)&&Ba t.idx)))
def Axu(t:Tbl)(s:Stm):Option (Tbl×Int):=cond (Ajb t s) (some (Axd t s)) none
def Aro:FT [.sv .tbl,.sv .stmt] [.sv .tbl,.int .i64]:=λx=>Axu x.1 x.2
theorem Bw4{n:Nat}(h:n<=4000000):wr .u64 (n:Int)=(n:Int):=by
 have e:wr .u64 (n:Int)=(n:Int) % 18446744073709551616:=by simp[wr,IntKind.wrap,IntKind.bits,IntKind.signed]
 omega
theorem Bs5{a:Int}:D5 .u64 a 1=a / 2:=by show a.fdiv (2 ^ min (1:Int).toNat IntKind.u64.bits)=_;rw[show(2:Int) ^ min (1:Int).toNat IntKind.u64.bits=2 from by decide];exact Int.fdiv_eq_ediv_of_nonneg _ (by omega)
theorem Bny{a b:Nat}(h:a+b<=4000000):wr .i64 (D5 .u64 (wr .u64 (wr .i64 ((a:Int)+(b:Int)))) 1)=(((a+b) / 2:Nat):Int):=by rw[show(a:Int)+(b:Int)=((a+b:Nat):Int) by omega,Bhf (by simp[ln];omega),Bw4 h,Bs5,show((a+b:Nat):Int) / 2=(((a+b) / 2:Nat):Int) by omega,Bhf (by simp[ln];omega)]
theorem Wm{R:Type}{kx:Ex->Rl->Option R}{l:List Idx}{nm:Str}{t t2:Tbl}{s:Stm}{c:Option R}(hs:Ba l=true)(hn:l.length<=2000000)(h2:kx (.exit 0) (l,nm,(l.length:Int),(E7 l nm:Int),(E7 l nm:Int),t,s,t2)=c):∀(k lo hi:Nat),lo<=E7 l nm->E7 l nm<=hi->hi<=l.length->hi-lo<k ->
  Aj (λrec=>Ut rec kx) k (l,nm,(l.length:Int),(lo:Int),(hi:Int),t,s,t2)=c
 |0,lo,hi,_,_,_,h=>by omega
 |k+1,lo,hi,h3,h4,h5,h=>by
  rw[Ay];by_cases hlt:lo<hi
  ·have hm:(lo+hi) / 2<l.length:=by omega
   have hp:=Z2 (s:=nm) hs _ hm;have hb:decide (Kk l[(lo+hi) / 2] nm<0)=decide ((lo+hi) / 2<E7 l nm):=hp;have ih1:=Wm hs hn h2 k ((lo+hi) / 2+1) hi;have ih2:=Wm hs hn h2 k lo ((lo+hi) / 2);simp only[Ut,Bny (show lo+hi<=4000000 by omega),As hm,chk,Al (c :=.idx) hm,An hm (show ln l.length by simp[ln];omega)];by_cases hq:(lo+hi) / 2<E7 l nm
   ·grind
   ·grind
  ·have e1:lo=E7 l nm:=by omega
   have e2:hi=E7 l nm:=by omega
   simp only[Ut,Zd1 (show ¬(lo:Int)<(hi:Int) by omega)];rw[e1,e2];exact h2
theorem Bh3{l:List Idx}{nm:Str}(hs:Ba l=true){R:Type}{A B:Option R}:(cond (decide ((E7 l nm:Int)<(l.length:Int))) (chk (inb (E7 l nm:Int) l.length) (cond (decide (Kk (at' .idx l (E7 l nm:Int)) nm=0)) A B)) B)=cond (Pg l nm) A B:=by
 by_cases hp:E7 l nm<l.length
 ·rw[Ze1 (show(E7 l nm:Int)<(l.length:Int) by omega)];simp[ As hp,chk,Al (c :=.idx) hp];have e:decide (Kk l[E7 l nm] nm=0)=Pg l nm:=by
   rw[Bool.eq_iff_iff,A6o hs,Zg1];constructor
   ·intro h;exact⟨hp,(scmp_lin.eq _ _).1 h⟩
   ·rintro⟨_,h⟩;exact(scmp_lin.eq _ _).2 h
  rw[e]
 ·rw[Zd1 (show ¬(E7 l nm:Int)<(l.length:Int) by omega)];have e:Pg l nm=false:=by cases h:Pg l nm with|false=>rfl|true=>exact absurd ((A6o hs).1 h).1 hp
  rw[e];rfl
theorem Bcm{t:Tbl}{s:Stm}(h:Ajb t s=true):s.cols.length<=2000000/\s.sets.length<=2000000/\s.names.length<=2000000/\t.idx.length<=2000000/\Ba t.idx=true:=by simp[Ajb] at h;exact h
theorem Bk9:FO 131 [.sv .tbl,.sv .stmt] [.sv .tbl,.int .i64] Aro :=.fin 0 Bem λ(t,s) r hb hx=>⟨t.idx.length+1,by
 simp only[Aro,Axu] at hx;cases hs:Ajb t s with
 |false=>rw[hs] at hx;cases hx
 |true =>
  rw[hs] at hx;simp only[Af,Za1] at hx;rw[<-hx];obtain⟨q1,q2,q3,q4,q5⟩:=Bcm hs;have ec:Acy s=some (cond (F1 s) 0 2):=if_pos ⟨q1,q2⟩;simp only[Aja,ec,Zc1,Lq,Axd];cases decide (s.kind=3) with
  |false=>rfl
  |true =>
   cases F1 s with
   |false=>rfl
   |true =>
    cases decide (s.on=t.name) with
    |false=>rfl
    |true =>
     simp only[Zt1,Ag,Af,Bool.and_self,decide_true];refine(Wm (c:=some (cond (Pg t.idx s.name) (Ih,160) (cond (decide (100<=t.idx.length)) (Ih,3) (cond (Ph t s.names) ({ t with idx:=Ly t.idx ⟨s.name,s.names⟩ },0) (Ih,150))))) q5 q4 ?_ _ 0 t.idx.length (Nat.zero_le _) (A8n _ _) (Zn1 _) (by omega)).trans rfl;have hle:=A8n t.idx s.name;simp only;rw[Bh3 q5];cases Pg t.idx s.name with
     |true=>rfl
     |false =>
      have e100:decide ((100:Int)<=(t.idx.length:Int))=decide (100<=t.idx.length):=Zy1.2 (by omega);simp only[Ag,e100];cases decide (100<=t.idx.length) with
      |true=>rfl
      |false =>
       simp only[Ag];cases Ph t s.names with
       |false=>rfl
       |true =>
        simp only[Zt1,Ag,Af,chk,Ze1 q4];simp only[Ze1 q3,Af,Zc1];cases hE:t.idx.isEmpty with
        |true =>have h0:t.idx=[]:=List.isEmpty_iff.1 hE;simp only[Af,h0];rfl
        |false =>
         have hpos : 0<t.idx.length:=by cases h0:t.idx with|nil=>rw[h0] at hE;cases hE|cons x l=>simp only[Zf1];omega
         simp only[Ag,Agt,Int.toNat_natCast];have hck:decide ((0:Int)<(t.idx.length:Int))=true/\decide ((0:Int)<=(E7 t.idx s.name:Int))=true/\decide ((E7 t.idx s.name:Int)<=(t.idx.length:Int))=true/\decide ((t.idx.length:Int)<=2000000)=true:=by simp only[Zg1];omega
         simp only[hck.1,hck.2.1,hck.2.2.1,hck.2.2.2,Bool.and_self,Af]⟩
def U6:Sig:=⟨58,[(3,.bool),(39,.sl .idx false),(40,.int .i64),(41,.int .i64)],[(1,.ptr 0 0),(2,.ptr 1 0),(4,.ptr 2 0)],[(0,.one (.sv .tbl)),(1,.one (.sv .tbl)),(2,.one (.sv .tbl))],3,0,0,[],[]⟩
abbrev It:=Bool×List Idx×Int×Int×Tbl×Tbl×Tbl
def Hs{R:Type}(rec:It->Option R)(kx:Ex->It->Option R)(v:It):Option R:=match v with
 |(d,b,c,a,w3,w4,w5) =>
 cond (decide (a<c)) (
  chk (inb a b.length) (
  chk (inb a w3.idx.length) (
   cond (!decide (((at' .idx b a).name)=((at' .idx w3.idx a).name))) (
   kx .ret (false,b,c,a,w3,(Tbl.mk [] [] [] [] []),w5)) (
   rec (d,b,c,(wr .i64 (a+1)),w3,w4,w5))))) (
  kx (.exit 2) (d,b,c,a,w3,w4,w5))
def U4:Sig:=⟨58,[(3,.bool),(20,.sl .idx false),(21,.int .i64),(22,.int .i64)],[(1,.ptr 0 0),(2,.ptr 1 0),(4,.ptr 2 0)],[(0,.one (.sv .tbl)),(1,.one (.sv .tbl)),(2,.one (.sv .tbl))],3,0,0,[],[]⟩
abbrev Ip:=Bool×List Idx×Int×Int×Tbl×Tbl×Tbl
def Hy{R:Type}(rec:Ip->Option R)(kx:Ex->Ip->Option R)(v:Ip):Option R:=match v with
 |(v,v1,v2,v3,w,w1,w2) =>
 cond (decide (v3<v2)) (
  chk (inb v3 v1.length) (
  (Axu w2 (Hv w (at' .idx v1 v3))).bind λ(x2,x3) =>
   cond (!decide (x3=0)) (
   kx .ret (false,v1,v2,v3,w,(Tbl.mk [] [] [] [] []),x2)) (
   rec (v,v1,v2,(wr .i64 (v3+1)),w,w1,x2)))) (
  kx (.exit 0) (v,v1,v2,v3,w,w1,w2))
def Aeu(R:Type)(k:Nat):Px R:=pxO [(130,cA A8j),(129,cA Ar8)] [(132,qA Axk),(131,qA Aro)] [(5,Am k U4 (Hy)),(12,Am k U6 (Hs))] []
def Vd(k:Nat)(x:HV [.sv .tbl]):Option (HV [.sv .tbl,.bool]):=match x with
 |t =>
 (Ayx (Fw t)).bind λ(x,x1) =>
  cond (!decide (x1=0)) (
  some ((Tbl.mk [] [] [] [] []),false)) (
  Aj (λrec=>Hy rec (λe vz=>match vz with|(v4,_,_,_,v8,v9,a)=>match e with
   |.ret =>
   some (v9,v4)
   |.exit 0 =>
   Aj (λrec=>Hs rec (λe vz=>match vz with|(b,_,_,_,_,c,d)=>match e with
    |.ret =>
    some (c,b)
    |.exit 2 =>
    some (d,true)
    |_=>none)) k (v4,a.idx,(a.idx.length:Int),0,v8,v9,a)
   |_=>none)) k (false,t.idx,(t.idx.length:Int),0,t,(Tbl.mk [] [] [] [] []),x))
theorem At6(k:Nat):FO 86 [.sv .tbl] [.sv .tbl,.bool] (Vd k):=fR (px:=Aeu _ k) (n:=2) Tryz.func86 rfl (λcx H=>by have h0:Lv cx (Aeu (HV [.sv .tbl,.bool]) k):=lv H (c1 H Bj6 (c1 H Bhr Ae)) (q1 H Bdl (q1 H Bk9 Aa)) Ab;have hlsrebuilt_0:=lO H h0 (b:=lp Tryz.f86 0) (k:=k) (n:=0) (s:=U4) (step:=Hy) (λ_ _ _ (_,_,_,_,_,_,_)=>by kernel_rfl) Ai;have hlsrebuilt_1:=lO H h0 (b:=lp Tryz.f86 1) (k:=k) (n:=0) (s:=U6) (step:=Hs) (λ_ _ _ (_,_,_,_,_,_,_)=>by kernel_rfl) Ai;exact⟨h0,(A6 (A6 Ai hlsrebuilt_0) hlsrebuilt_1)⟩) λ_=>by kernel_rfl
def Qy(t:Tbl)(x:Idx):Bool:=F1 (Hv t x)&&Ph t x.cols
def ixs(t:Tbl):List Idx->List Idx->Option (List Idx)
 |acc,[]=>some acc
 |acc,x::l=>cond (Qy t x&&(!Pg acc x.name&&decide (acc.length<100))) (ixs t (Ly acc x) l) none
def Js(t:Tbl):Bool:=decide ((Q6 (Fw t)).2=0)&&(Ba t.idx&&(decide (t.idx.length<=100)&&t.idx.all (Qy t)))
def G4(t:Tbl):Bool:=Ads (Fw t)&&(decide (t.idx.length<=2000000)&&t.idx.all λx=>decide (x.cols.length<=2000000))
def Zh(t:Tbl):Option (Tbl×Bool):=cond (G4 t) (some (cond (Js t) (t,true) (Ih,false))) none
def Xj:FT [.sv .tbl] [.sv .tbl,.bool]:=λx=>Zh x
theorem Bpa{t:Tbl}{acc:List Idx}{x:Idx}:Axd { t with idx:=acc } (Hv t x)=cond (F1 (Hv t x)) (cond (Pg acc x.name) (Ih,160) (cond (decide (100<=acc.length)) (Ih,3) (cond (Ph t x.cols) ({ t with idx:=Ly acc x },0) (Ih,150)))) (Ih,2):=by simp[Axd,Hv];rfl
theorem Awo{t:Tbl}:∀{l acc a:List Idx},Ba acc=true->ixs t acc l=some a->Ba a=true/\(∀y,y∈a↔y∈acc\/y∈l)/\a.length=acc.length+l.length/\l.all (Qy t)=true/\(acc.length<=100->a.length<=100)
 |[],acc,a,hs,h=>by simp[ixs] at h;subst h;exact⟨hs,by simp,by simp,rfl,id⟩
 |x::l,acc,a,hs,h=>by
  simp[ixs] at h;cases hc:Qy t x&&(!Pg acc x.name&&decide (acc.length<100)) with
  |false=>rw[hc] at h;cases h
  |true =>
   rw[hc] at h;simp at h;simp at hc;obtain⟨h1,h2,h3,h4,h5⟩:=Awo (W9 hs hc.2.1) h;rw[A6c] at h3 h5;refine⟨h1,λy =>?_,by simp;omega,by simp[h4,hc.1],λ_=>h5 (by omega)⟩;rw[h2,A7t,List.mem_cons];constructor
   ·grind
   ·grind
theorem At3{t:Tbl}:∀{q p:List Idx},Ba (p++q)=true->(p++q).length<=100->q.all (Qy t)=true->ixs t p q=some (p++q)
 |[],p,_,_,_=>by simp[ixs]
 |x::q,p,hs,hn,hk=>by
  simp only[Zv1,Zb1] at hk;have hlt:=(U7 hs).2;have h1:Pg p x.name=false:=by cases h:Pg p x.name with|false=>rfl|true =>obtain⟨y,hy,e⟩:=A5x.1 h;exact absurd e (A4u (hlt y x hy (by simp)))
  have h2:decide (p.length<100)=true:=Ze1 (by simp at hn;omega);have h3:Ly p x=p++[x]:=A0p λy hy=>hlt y x hy (by simp);simp[ixs,hk.1,h1,h2,h3];rw[At3 (by simpa using hs) (by simpa using hn) hk.2];simp
def Afl:List Idx->List Idx->Bool
 |x::a,y::b=>decide (x.name=y.name)&&Afl a b
 |_,_=>true
theorem Au5:∀{a b:List Idx},Afl a b=true->∀(i:Nat) (hi:i<a.length) (hj:i<b.length),a[i].name=b[i].name
 |[],_,_,i,hi,_=>by simp at hi
 |_::_,[],_,i,_,hj=>by simp at hj
 |x::a,y::b,h,i,hi,hj=>by simp[Afl] at h;cases i with|zero=>exact h.1|succ i=>exact Au5 h.2 i (by simpa using hi) (by simpa using hj)
theorem Amx:∀a:List Idx,Afl a a=true
 |[]=>rfl
 |x::a=>by simp[Afl,Amx a]
theorem Ba5{l:List Idx}(hs:Ba l=true){x y:Idx}(hx:x∈l)(hy:y∈l)(e:x.name=y.name):x=y:=by
 obtain⟨i,hi,rfl⟩:=List.getElem_of_mem hx;obtain⟨j,hj,rfl⟩:=List.getElem_of_mem hy;rcases Nat.lt_trichotomy i j with h|h|h
 ·exact absurd e (A4u (Np hs i j hi hj h))
 ·subst h;rfl
 ·exact absurd e.symm (A4u (Np hs j i hj hi h))
theorem Bo7{a b:List Idx}(hs:Ba a=true)(hm:∀y,y∈a↔y∈b)(hn:a.length=b.length)(h:Afl a b=true):a=b :=List.ext_getElem hn λi hi hj=>Ba5 hs (List.getElem_mem hi) ((hm _).2 (List.getElem_mem hj)) (Au5 h i hi hj)
theorem Bus{t:Tbl}{R:Type}{g:List Idx->R}{c:R}:(match ixs t [] t.idx with|some a=>cond (Afl a t.idx) (g a) c|none=>c)=cond (Ba t.idx&&(decide (t.idx.length<=100)&&t.idx.all (Qy t))) (g t.idx) c:=by
 cases hx:ixs t [] t.idx with
 |none =>cases hc:Ba t.idx&&(decide (t.idx.length<=100)&&t.idx.all (Qy t)) with|false=>rfl|true =>simp only[Zb1] at hc;rw[At3 (p:=[]) (by simpa using hc.1) (by simpa using hc.2.1) hc.2.2] at hx;cases hx
 |some a =>
  obtain⟨h1,h2,h3,h4,h5⟩:=Awo (by rfl) hx;simp only;cases hs:Afl a t.idx with
  |true =>have e:=Bo7 h1 (λy=>by rw[h2];simp) (by simpa using h3) hs;rw[<-e,h1];rw[<-e] at h4;rw[h4,Ze1 (h5 (by simp))];rfl
  |false =>cases hc:Ba t.idx&&(decide (t.idx.length<=100)&&t.idx.all (Qy t)) with|false=>rfl|true =>simp only[Zb1] at hc;rw[At3 (p:=[]) (by simpa using hc.1) (by simpa using hc.2.1) hc.2.2] at hx;cases hx;rw[Zf2,Amx] at hs;cases hs
theorem Ab8{t:Tbl}(h:G4 t=true):Ads (Fw t)=true/\t.idx.length<=2000000/\∀x,x∈t.idx->x.cols.length<=2000000:=by simp[G4] at h;exact h
theorem Azl{R:Type}{kx:Ex->Ip->Option R}{t:Tbl}{g:List Idx->Option R}{c:Option R}(hs:G4 t=true)(h1:∀i p,kx .ret (false,t.idx,(t.idx.length:Int),i,t,Ih,p)=c)(h2:∀a:List Idx,a.length=t.idx.length->kx (.exit 0) (false,t.idx,(t.idx.length:Int),(t.idx.length:Int),t,Ih,{ t with idx:=a })=g a)(k:Nat)(hk:t.idx.length<k) :
  Aj (λrec=>Hy rec kx) k (false,t.idx,(t.idx.length:Int),0,t,Ih,{ t with idx:=[] })=(match ixs t [] t.idx with|some a=>g a|none=>c):=by
 obtain⟨_,hn,hcs⟩:=Ab8 hs;have hl:ln t.idx.length:=by simp[ln];omega
 refine(Dc t.idx.length (λi (acc:List Idx)=>(false,t.idx,(t.idx.length:Int),(i:Int),t,Ih,{ t with idx:=acc })) (λi acc=>Ba acc=true/\acc.length=i) (λi acc=>(match ixs t acc (t.idx.drop i) with|some a=>g a|none=>c)) (λi hi acc ha rec hr =>?_) (λacc ha rec =>?_) k 0 [] (Nat.zero_le _) (by omega) ⟨rfl,rfl⟩).trans (by rw[Zq1])
 ·have hw:Axu { t with idx:=acc } (Hv t t.idx[i])=some (Axd { t with idx:=acc } (Hv t t.idx[i])):=by
   have:Ajb { t with idx:=acc } (Hv t t.idx[i])=true:=by have h1:=hcs _ (List.getElem_mem hi);have h2:=ha.2;show(decide ((0:Nat)<=2000000)&&(decide ((0:Nat)<=2000000)&&(decide (t.idx[i].cols.length<=2000000)&&(decide (acc.length<=2000000)&&Ba acc))))=true;rw[Ze1 h1,Ze1 (show acc.length<=2000000 by omega),ha.1];rfl
   rw[Axu,this];rfl
  simp only[Hy,Ea hi,As hi,Al (c :=.idx) hi,hw,Bpa,An hi hl,Ak hi,ixs,Qy];cases F1 (Hv t t.idx[i]) with
  |false=>exact h1 _ _
  |true =>
   simp;cases hh:Pg acc t.idx[i].name with
   |true =>simp;exact h1 _ _
   |false =>
    simp;by_cases h100:acc.length<100
    ·rw[Ze1 h100,Zd1 (show ¬ 100<=acc.length by omega)];simp;cases Ph t t.idx[i].cols with|false=>exact h1 _ _|true =>simp;exact hr _ ⟨W9 ha.1 hh,by rw[A6c,ha.2]⟩
    ·rw[Zd1 h100,Ze1 (show 100<=acc.length by omega)];simp;exact h1 _ _
 ·simp only[Hy,Ee,h2 acc ha.2];rw[Zk1 (Zn1 _)];rfl
theorem Ax1{R:Type}{kx:Ex->It->Option R}{t:Tbl}{a:List Idx}{b c:Option R}(hs:G4 t=true)(ha:a.length=t.idx.length)(h1:∀i,kx .ret (false,a,(a.length:Int),i,t,Ih,{ t with idx:=a })=c)(h2:kx (.exit 2) (false,a,(a.length:Int),(a.length:Int),t,Ih,{ t with idx:=a })=b)(k:Nat)(hk:t.idx.length<k) :
  Aj (λrec=>Hs rec kx) k (false,a,(a.length:Int),0,t,Ih,{ t with idx:=a })=cond (Afl a t.idx) b c:=by
 obtain⟨_,hn,hcs⟩:=Ab8 hs;have hl:ln a.length:=by simp[ln];omega
 refine(A8 a.length (λi=>(false,a,(a.length:Int),(i:Int),t,Ih,{ t with idx:=a })) (λi=>cond (Afl (a.drop i) (t.idx.drop i)) b c) (λi hi rec hr =>?_) (λrec =>?_) k 0 (Nat.zero_le _) (by omega)).trans (by rw[Zq1,Zq1])
 ·have hi2:i<t.idx.length:=by omega
  simp only[Hs,Ea hi,As hi,As hi2,Al (c :=.idx) hi,Al (c :=.idx) hi2,An hi hl,Ak hi,Ak hi2,Afl,hr];cases decide (a[i].name=t.idx[i].name) with|false=>exact h1 _|true=>rfl
 ·simp only[Hs,Ee,h2];rw[Zk1 (Zn1 _)];rfl
theorem Bb1{t:Tbl}(h:(Q6 (Fw t)).2=0):Q6 (Fw t)=({ t with idx:=[] },0):=by
 simp[Q6] at h ⊢;generalize (decide ((Fw t).kind=1)&&F1 (Fw t))=b1 at h ⊢;generalize Ph ⟨(Fw t).name,(Fw t).cols,(Fw t).names,[],[]⟩ (Fw t).names=b2 at h ⊢;cases b1 with
 |false=>simp at h
 |true =>
  cases b2 with
  |false=>simp at h
  |true =>
   by_cases hc:O6 (Fw t).cols (Fw t).l=0
   ·simp only[hc];rfl
   ·simp[hc] at h
theorem Awk:FO 86 [.sv .tbl] [.sv .tbl,.bool] Xj :=.fin 0 At6 λt r hb hx=>⟨t.idx.length+1,by
 simp only[Xj,Zh] at hx;cases hs:G4 t with
 |false=>rw[hs] at hx;cases hx
 |true =>
  rw[hs] at hx;simp only[Af,Za1] at hx;rw[<-hx];obtain⟨q1,q2,q3⟩:=Ab8 hs;have em:Ayx (Fw t)=some (Q6 (Fw t)):=by rw[Ayx,q1];rfl
  simp only[Vd,em,Zc1,Js];by_cases h0:(Q6 (Fw t)).2=0
  ·simp only[Bb1 h0,decide_true,Zt1,Ag,Bool.true_and];refine(Azl (c:=some (Ih,false)) (g:=λa=>cond (Afl a t.idx) (some ({ t with idx:=a },true)) (some (Ih,false))) hs (λ_ _=>rfl) (λa ha =>?_) _ (by omega)).trans ?_
   ·exact Ax1 hs ha (λ_=>rfl) rfl _ (by omega)
   ·rw[Bus (g:=λa=>some (({ t with idx:=a }:Tbl),true)),Az]
  ·simp only[Zd1 h0,Zs1,Af,Bool.false_and,Ag];rfl⟩
def Beh(R:Type):Px R:=pxO [(86,cA Xj)] [] [] []
def Ae0(x:HV [.sv .tbl]):Option (HV [.int .i64]):=match x with
 |t =>
 (Zh t).bind λ(_,x1) =>
  cond (!x1) (
  some 2) (
  some 0)
theorem A2o:FO 52 [.sv .tbl] [.int .i64] (Ae0):=fR (px:=Beh _) (n:=0) Tryz.func52 rfl (λ_ H=>⟨lv H (c1 H Awk Ae) Aa Ab,Ai⟩) λ_=>by kernel_rfl
def Jx(t:Tbl):Option Int:=cond (G4 t) (some (cond (Js t) 0 2)) none
def Yy:FT [.sv .tbl] [.int .i64]:=λx=>Jx x
theorem Aol:FO 52 [.sv .tbl] [.int .i64] Yy :=.fin0 A2o λt r hb hx=>by simp only[Yy,Jx] at hx;rw[<-hx];simp only[Ae0,Zh];cases G4 t with|false=>rfl|true=>cases Js t<;>rfl
def Aok:Sig:=⟨19,[(0,.int .u64),(3,.sl .byte true)],[],[],0,0,0,[],[]⟩
abbrev Zj:=Int×List UInt8
def Xa{R:Type}(rec:Zj->Option R)(kx:Ex->Zj->Option R)(v:Zj):Option R:=match v with
 |(v,v1) =>
 cond (decide (128<=v)) (
  chk (decide (v1.length+1<=Ah)) (
  rec ((D5 .u64 v 7),(v1++[(UInt8.ofNat ((ior .u8 (wr .u8 v) 128):Int).toNat)])))) (
  kx (.exit 0) (v,v1))
def A6p(R:Type)(k:Nat):Px R:=pxO [] [] [(2,Am k Aok (Xa))] []
def Ao9(k:Nat)(x:HV [.int .u64]):Option (HV [.sl .byte true]):=match x with
 |n =>
 Aj (λrec=>Xa rec (λe vz=>match vz with|(v2,v3)=>match e with
  |.exit 0 =>
  chk (decide (v3.length+1<=Ah)) (
   some (v3++[(UInt8.ofNat ((wr .u8 v2):Int).toNat)]))
  |_=>none)) k (n,[])
theorem Bjk(k:Nat):FO 94 [.int .u64] [.sl .byte true] (Ao9 k):=fR (px:=A6p _ k) (n:=1) Tryz.func94 rfl (λcx H=>by have h0:Lv cx (A6p (HV [.sl .byte true]) k):=lv H Ae Aa Ab;have hlvput_0:=lO H h0 (b:=lp Tryz.f94 0) (k:=k) (n:=0) (s:=Aok) (step:=Xa) (λ_ _ _ (_,_)=>by kernel_rfl) Ai;exact⟨h0,(A6 Ai hlvput_0)⟩) λ_=>by kernel_rfl
def Bao(n:Int):Option Str:=Ao9 100 n
def Atf:FT [.int .u64] [.sl .byte true]:=λx=>Bao x
theorem Arw:FO 94 [.int .u64] [.sl .byte true] Atf :=.fin 0 Bjk λ_ _ _ hx=>⟨100,hx⟩
def Bfm(R:Type):Px R:=pxO [(94,cA Atf)] [] [] []
def W2(x:HV [.sl .byte false]):Option (HV [.sl .byte true]):=match x with
 |s =>
 (Bao (wr .u64 (s.length:Int))).bind λx =>
  chk (decide (x.length+s.length<=Ah)) (
  some (x++s))
theorem Bat:FO 96 [.sl .byte false] [.sl .byte true] (W2):=fR (px:=Bfm _) (n:=0) Tryz.func96 rfl (λ_ H=>⟨lv H (c1 H Arw Ae) Aa Ab,Ai⟩) λ_=>by kernel_rfl
def A8f(s:Str):Option Str:=W2 s
def A8b:FT [.sl .byte false] [.sl .byte true]:=λx=>A8f x
theorem Biy:FO 96 [.sl .byte false] [.sl .byte true] A8b :=.fin0 Bat λ_ _ _ hx=>hx
def Bhc(R:Type):Px R:=pxO [(89,cA Atq),(53,cA Sj),(90,cA Aul),(91,cA A6b)] [] [] []
def Vy(x:HV [.sv .expr,.sl .col false,.sl .val false]):Option (HV [.sv .val,.int .i64]):=match x with
 |(e,cols,row) =>
 cond (!decide ((Io e)=0)) (
  some ((Val.mk 0 0 []),2)) (
  cond (!(Fs cols row)) (
  some ((Val.mk 0 0 []),2)) (
  cond (!decide ((Bj e cols).2=0)) (
   some ((Val.mk 0 0 []),(Bj e cols).2)) (
   (Q0 e cols row).bind λ(x,x1) =>
   some (x,x1))))
theorem Bdn:FO 55 [.sv .expr,.sl .col false,.sl .val false] [.sv .val,.int .i64] (Vy):=fR (px:=Bhc _) (n:=0) Tryz.func55 rfl (λ_ H=>⟨lv H (c1 H Aw8 (c1 H Akh (c1 H Av1 (c1 H Bew Ae)))) Aa Ab,Ai⟩) λ(_,_,_)=>by kernel_rfl
def A7d(e:Xpr)(cols:List Col)(row:List Val):Option (Val×Int):=Vy (e,cols,row)
def A7q:FT [.sv .expr,.sl .col false,.sl .val false] [.sv .val,.int .i64]:=λx=>A7d x.1 x.2.1 x.2.2
theorem Bkd:FO 55 [.sv .expr,.sl .col false,.sl .val false] [.sv .val,.int .i64] A7q :=.fin0 Bdn λ_ _ _ hx=>hx
def Aiy:Sig:=⟨73,[(1,.sl .val false),(4,.int .i64),(49,.sl .expr false),(50,.int .i64),(51,.int .i64)],[(2,.ptr 0 0)],[(0,.one (.sv .tbl))],1,0,0,[],[]⟩
abbrev Rx:=List Val×Int×List Xpr×Int×Int×Tbl
def S4{R:Type}(rec:Rx->Option R)(kx:Ex->Rx->Option R)(v:Rx):Option R:=match v with
 |(c,e,b,d,a,w2) =>
 cond (decide (a<d)) (
  chk (inb a b.length) (
  (A7d (at' .expr b a) w2.cols c).bind λ(x1,x2) =>
   cond (!decide (x2=0)) (
   kx .ret (c,x2,b,d,a,w2)) (
   cond (decide ((Gt x1 (Val.mk 2 0 []))=0)) (
    kx .ret (c,162,b,d,a,w2)) (
    rec (c,e,b,d,(wr .i64 (a+1)),w2))))) (
  kx (.exit 2) (c,e,b,d,a,w2))
def Al9:Sig:=⟨19,[(0,.sl .str false),(1,.str),(4,.int .i64),(7,.int .i64),(8,.int .i64)],[],[(0,.one (.sv .tbl))],80,80,400,[],[]⟩
abbrev R6:=List Str×Str×Int×Int×Int×Tbl
def S1{R:Type}(rec:R6->Option R)(kx:Ex->R6->Option R)(v:R6):Option R:=match v with
 |(v5,v6,v7,v8,v9,w1) =>
 cond (decide (v9<v8)) (
  chk (inb v9 v5.length) (
  cond (decide (v6=(at' .str v5 v9))) (
   kx .ret (v5,v6,v9,v8,v9,w1)) (
   rec (v5,v6,v7,v8,(wr .i64 (v9+1)),w1)))) (
  kx (.exit 0) (v5,v6,v7,v8,v9,w1))
def Ahi:Sig:=⟨73,[(1,.sl .val false),(4,.int .i64),(23,.sl .col false),(24,.int .i64),(25,.int .i64)],[(2,.ptr 0 0)],[(0,.one (.sv .tbl))],1,0,0,[],[]⟩
abbrev To:=List Val×Int×List Col×Int×Int×Tbl
def Sw{R:Type}(k:Nat)(rec:To->Option R)(kx:Ex->To->Option R)(v:To):Option R:=match v with
 |(v,v1,v2,v3,v4,w) =>
 cond (decide (v4<v3)) (
  chk (inb v4 v2.length) (
  chk (inb v4 v.length) (
   cond (decide ((at' .val v v4).kind=1)) (
   cond ((at' .col v2 v4).notNull) (
    kx .ret (v,161,v2,v3,v4,w)) (
    Aj (λrc=>S1 rc (λe vz=>match vz with|(_,_,b,_,_,a)=>match e with
    |.ret =>
     cond (decide (0<=b)) (
     kx .ret (v,161,v2,v3,v4,a)) (
     rec (v,v1,v2,v3,(wr .i64 (v4+1)),a))
    |.exit 0 =>rec (v,v1,v2,v3,(wr .i64 (v4+1)),a)
    |_=>none)) k (w.key,(at' .col v2 v4).name,0,(w.key.length:Int),0,w))) (
   rec (v,v1,v2,v3,(wr .i64 (v4+1)),w))))) (
  kx (.exit 0) (v,v1,v2,v3,v4,w))
def Z6(R:Type)(k:Nat):Px R:=pxO [] [] [(2,Am k Al9 (S1))] []
noncomputable def Amd(R:Type)(k:Nat):Px R:=pxO [(88,A1 80 400 (Z6 R k) Tryz.f88)] [] [] []
noncomputable def Ayq(R:Type)(k:Nat):Px R:=pxO [(52,cA Yy),(53,cA Sj),(55,cA A7q),(56,cA A4x),(54,A1 40 200 (Amd R k) Tryz.f54)] [] [(7,Am k Ahi (Sw k)),(13,Am k Aiy (S4))] []
def Hz(k:Nat)(x:HV [.sv .tbl,.sl .val false]):Option (HV [.int .i64]):=match x with
 |(t,row) =>
 (Jx t).bind λx =>
  cond (!decide (x=0)) (
  some x) (
  cond (!(Fs t.cols row)) (
   some 151) (
   Aj (λrec=>Sw k rec (λe vz=>match vz with|(c,b,_,_,_,a)=>match e with
   |.ret =>some b
   |.exit 0 =>
    Aj (λrec=>S4 rec (λe vz=>match vz with|(_,d,_,_,_,_)=>match e with
    |.ret =>some d
    |.exit 2 =>some 0
    |_=>none)) k (c,b,a.checks,(a.checks.length:Int),0,a)
   |_=>none)) k (row,0,t.cols,(t.cols.length:Int),0,t)))
theorem Bbt(k:Nat):FO 25 [.sv .tbl,.sl .val false] [.int .i64] (Hz k):=fR (px:=Ayq _ k) (n:=2) Tryz.func25 rfl (λcx H=>by have h2:Lv cx (Z6 (HV [.int .i64]) k):=lv H Ae Aa Ab;have hlsfits_1:=lO H h2 (b:=lp Tryz.f88 0) (k:=k) (n:=0) (s:=Al9) (step:=S1) (λ_ _ _ (_,_,_,_,_,_)=>by kernel_rfl) Ai;have h1:Lv cx (Amd (HV [.int .i64]) k):=lv H (Ao (cR H h2 Tryz.func88 rfl (n:=1) ((A6 Ai hlsfits_1))) Ae) Aa Ab;have h0:Lv cx (Ayq (HV [.int .i64]) k):=lv H (c1 H Aol (c1 H Akh (c1 H Bkd (c1 H A7r (Ao (cR H h1 Tryz.func54 rfl (n:=0) (Ai)) Ae))))) Aa Ab;have hlsfits_0:=lO H h0 (b:=lp Tryz.f25 0) (k:=k) (n:=0) (s:=Ahi) (step:=Sw k) (λ_ _ _ (_,_,_,_,_,_)=>by kernel_rfl) Ai;have hlsfits_2:=lO H h0 (b:=lp Tryz.f25 1) (k:=k) (n:=0) (s:=Aiy) (step:=S4) (λ_ _ _ (_,_,_,_,_,_)=>by kernel_rfl) Ai;exact⟨h0,(A6 (A6 Ai hlsfits_0) hlsfits_2)⟩) λ(_,_)=>by kernel_rfl
def O5(t:Tbl)(row:List Val):Option Int:=Hz 5000 (t,row)
def Art:FT [.sv .tbl,.sl .val false] [.int .i64]:=λx=>O5 x.1 x.2
theorem Azo:FO 25 [.sv .tbl,.sl .val false] [.int .i64] Art :=.fin 0 Bbt λ_ _ _ hx=>⟨5000,hx⟩
def Cr:Nat->Nat->Str
 |0,n=>[UInt8.ofNat n]
 |k+1,n=>if n<128 then [UInt8.ofNat n] else UInt8.ofNat (n % 128+128)::Cr k (n / 128)
theorem Fa:∀k n,1<=(Cr k n).length/\(Cr k n).length<=k+1
 |0,n=>by simp[Cr]
 |k+1,n=>by
  have:=Fa k (n / 128);simp[Cr]
  grind
theorem Bou:∀m:Nat,m<256->UInt8.ofNat (ior .u8 ((m:Nat):Int) 128).toNat=UInt8.ofNat (m % 128+128):=by decide +kernel
theorem Bje(n:Nat):wr .u8 (n:Int)=((n % 256:Nat):Int):=by simp[wr,IntKind.wrap,IntKind.bits,IntKind.signed]
theorem Abb{n:Nat}(h:n<18446744073709551616):wr .u64 (n:Int)=(n:Int):=by simp[wr,IntKind.wrap,IntKind.bits,IntKind.signed];omega
theorem Bwy(n:Nat):D5 .u64 (n:Int) 7=((n / 128:Nat):Int):=by
 simp only[D5];rw[show(2 ^ min (7:Int).toNat IntKind.u64.bits:Int)=128 from by decide]
 grind
theorem Adq{kx:Ex->Zj->Option Str}(hx:∀n acc,kx (.exit 0) (n,acc)=chk (decide (acc.length+1<=Ah)) (some (acc++[UInt8.ofNat (wr .u8 n).toNat]))):∀(k m n:Nat) (acc:Str),n<128 ^ (k+1)->k<m->acc.length+k<=1000->Aj (λrec=>Xa rec kx) m ((n:Int),acc)=some (acc++Cr k n)
 |k,0,_,_,_,h,_=>by omega
 |k,m+1,n,acc,hn,hm,ha=>by
  have c1:decide (acc.length+1<=Ah)=true:=Ze1 (by simp[Ah];omega);have low:n<128->Aj (λrec=>Xa rec kx) (m+1) ((n:Int),acc)=some (acc++[UInt8.ofNat n]):=λh=>by simp only[Aj,Xa,Zd1 (show ¬(128:Int)<=(n:Int) by omega),Ag,hx,c1,chk,Af,Bje,Int.toNat_natCast];rw[Nat.mod_eq_of_lt (by omega)]
  cases k with
  |zero=>exact low (by simpa using hn)
  |succ k =>
   simp only[Cr];split
   ·rename_i h;exact low h
   ·rename_i h;have ih:=Adq hx k m (n / 128) (acc++[UInt8.ofNat (n % 128+128)]) (Nat.div_lt_of_lt_mul (by rw[Nat.pow_succ] at hn;omega)) (by omega) (by simp[ Zi1];omega);have e:UInt8.ofNat (ior .u8 (wr .u8 (n:Int)) 128).toNat=UInt8.ofNat (n % 128+128):=by rw[Bje,Bou _ (Nat.mod_lt _ (by omega))];congr 1;omega
    simp only[Aj,Xa,Ze1 (show(128:Int)<=(n:Int) by omega),c1,e,Bwy];rw[<-List.append_cons] at ih;exact ih
theorem Bp9{n:Nat}(h:n<128 ^ 6):Bao (n:Int)=some (Cr 5 n):=by
 have:=Adq (kx:=λe vz=>match vz with|(v2,v3)=>match e with
  |.exit 0=>chk (decide (v3.length+1<=Ah)) (some (v3++[UInt8.ofNat (wr .u8 v2).toNat]))
  |_=>none) (λ_ _=>rfl) 5 100 n [] h (by omega) (by simp)
 exact this
theorem Aww{s:Str}(h:s.length<=274877906900):A8f s=some (Cr 5 s.length++s):=by have e:wr .u64 (s.length:Int)=(s.length:Int):=Abb (by omega);have:=Fa 5 s.length;simp[A8f,W2,e,Bp9 (show s.length<128 ^ 6 by omega)];rw[Ze1 (by simp[Ah];omega)];rfl
noncomputable section
end
theorem L4:∀k n,n<128 ^ (k+1)->Cr (k+1) n=Cr k n
 |0,n,h=>by simp[Cr];omega
 |k+1,n,h=>by rw[Cr,L4 k (n / 128) (Nat.div_lt_of_lt_mul (by rw[Nat.pow_succ] at h;omega))];rfl
theorem A1r{n:Nat}(h:n<128 ^ 6):Cr 9 n=Cr 5 n:=by rw[L4 8 n (by omega),L4 7 n (by omega),L4 6 n (by omega),L4 5 n h]
theorem Bhu{n:Nat}(h:n<18446744073709551616):Bao (n:Int)=some (Cr 9 n):=by
 have:=Adq (kx:=λe vz=>match vz with|(v2,v3)=>match e with
  |.exit 0=>chk (decide (v3.length+1<=Ah)) (some (v3++[UInt8.ofNat (wr .u8 v2).toNat]))
  |_=>none) (λ_ _=>rfl) 9 100 n [] (by omega) (by omega) (by simp)
 exact this
noncomputable section
end
theorem Ak3{v:Val}:Ei v=0↔Aq v=true:=by simp[Ei];cases Aq v<;>simp
def Bmf(R:Type):Px R:=pxO [(94,cA Atf)] [] [] []
def Vo(x:HV [.int .i64]):Option (HV [.sl .byte true]):=match x with
 |n =>
 (Bao (Xk .u64 (Afq .u64 (wr .u64 n) 1) (wr .u64 (D5 .i64 n 63)))).bind λx =>some x
theorem Ba4:FO 95 [.int .i64] [.sl .byte true] (Vo):=fR (px:=Bmf _) (n:=0) Tryz.func95 rfl (λ_ H=>⟨lv H (c1 H Arw Ae) Aa Ab,Ai⟩) λ_=>by kernel_rfl
def A75(n:Int):Option Str:=Vo n
def A6g:FT [.int .i64] [.sl .byte true]:=λx=>A75 x
theorem Bf6:FO 95 [.int .i64] [.sl .byte true] A6g :=.fin0 Ba4 λ_ _ _ hx=>hx
def Aqm:Sig:=⟨60,[(0,.sl .val false),(2,.sl .byte true),(3,.int .i64),(4,.sl .byte true),(12,.sl .val false),(13,.int .i64),(14,.int .i64)],[],[],0,0,0,[],[]⟩
abbrev Mm:=List Val×List UInt8×Int×List UInt8×List Val×Int×Int
def Q4{R:Type}(rec:Mm->Option R)(kx:Ex->Mm->Option R)(v:Mm):Option R:=match v with
 |(v,v1,v2,v3,v4,v5,v6) =>
 cond (decide (v6<v5)) (
  chk (inb v6 v4.length) (
  cond (!decide ((Ei (at' .val v4 v6))=0)) (
   kx .ret (v,[],(Ei (at' .val v4 v6)),v3,v4,v5,v6)) (
   chk (decide (v3.length+1<=Ah)) (
   cond (decide ((at' .val v4 v6).kind=2)) (
    chk (decide ((v3++[(UInt8.ofNat ((wr .u8 ((at' .val v4 v6).kind)):Int).toNat)]).length+1<=Ah)) (
    rec (v,v1,v2,((v3++[(UInt8.ofNat ((wr .u8 ((at' .val v4 v6).kind)):Int).toNat)])++[(UInt8.ofNat ((wr .u8 ((at' .val v4 v6).n)):Int).toNat)]),v4,v5,(wr .i64 (v6+1))))) (
    cond (decide ((at' .val v4 v6).kind=3)) (
    (A75 ((at' .val v4 v6).n)).bind λx1 =>
     chk (decide ((v3++[(UInt8.ofNat ((wr .u8 ((at' .val v4 v6).kind)):Int).toNat)]).length+x1.length<=Ah)) (
     rec (v,v1,v2,((v3++[(UInt8.ofNat ((wr .u8 ((at' .val v4 v6).kind)):Int).toNat)])++x1),v4,v5,(wr .i64 (v6+1))))) (
    let j:=λ(p:Bool) =>
     cond (p) (
     chk (decide (((at' .val v4 v6).s).length<=Ah)) (
      (A8f ((at' .val v4 v6).s)).bind λx2 =>
      chk (decide ((v3++[(UInt8.ofNat ((wr .u8 ((at' .val v4 v6).kind)):Int).toNat)]).length+x2.length<=Ah)) (
       rec (v,v1,v2,((v3++[(UInt8.ofNat ((wr .u8 ((at' .val v4 v6).kind)):Int).toNat)])++x2),v4,v5,(wr .i64 (v6+1)))))) (
     rec (v,v1,v2,(v3++[(UInt8.ofNat ((wr .u8 ((at' .val v4 v6).kind)):Int).toNat)]),v4,v5,(wr .i64 (v6+1))))
    cond (decide ((at' .val v4 v6).kind=4)) (
     j (decide ((at' .val v4 v6).kind=4))) (
     j (decide ((at' .val v4 v6).kind=5))))))))) (
  kx (.exit 0) (v,v1,v2,v3,v4,v5,v6))
def A8l(R:Type)(k:Nat):Px R:=pxO [(94,cA Atf),(80,cA Qb),(95,cA A6g),(96,cA A8b)] [] [(3,Am k Aqm (Q4))] []
def Abl(k:Nat)(x:HV [.sl .val false]):Option (HV [.sl .byte true,.int .i64]):=match x with
 |l =>
 (Bao (wr .u64 (l.length:Int))).bind λx =>
  Aj (λrec=>Q4 rec (λe vz=>match vz with|(v7,v8,v9,a,_,_,_)=>match e with
  |.ret =>some (v8,v9)
  |.exit 0 =>
   cond (decide (100<(v7.length:Int))) (
   some ([],3)) (
   some (a,0))
  |_=>none)) k (l,[],0,x,l,(l.length:Int),0)
theorem Bk8(k:Nat):FO 58 [.sl .val false] [.sl .byte true,.int .i64] (Abl k):=fR (px:=A8l _ k) (n:=1) Tryz.func58 rfl (λcx H=>by have h0:Lv cx (A8l (HV [.sl .byte true,.int .i64]) k):=lv H (c1 H Arw (c1 H Uq (c1 H Bf6 (c1 H Biy Ae)))) Aa Ab;have hlwenc_0:=lO H h0 (b:=lp Tryz.f58 0) (k:=k) (n:=0) (s:=Aqm) (step:=Q4) (λ_ _ _ (_,_,_,_,_,_,_)=>by kernel_rfl) Ai;exact⟨h0,(A6 Ai hlwenc_0)⟩) λ_=>by kernel_rfl
def A00(l:List Val):Option (Str×Int):=Abl 5000 l
def Bgw:FT [.sl .val false] [.sl .byte true,.int .i64]:=λx=>A00 x
theorem Bn2:FO 58 [.sl .val false] [.sl .byte true,.int .i64] Bgw :=.fin 0 Bk8 λ_ _ _ hx=>⟨5000,hx⟩
noncomputable section
end
def zz(n:Int):Nat:=if n<0 then(-2*n-1).toNat else(2*n).toNat
theorem Bnf{n:Int}(h:inI n=true):zz n<18446744073709551616:=by simp[inI] at h;simp only[zz];split<;>omega
theorem wrU(n:Int):wr .u64 n=n % 18446744073709551616:=by simp[wr,IntKind.wrap,IntKind.bits,IntKind.signed]
theorem Bwg(k:IntKind)(x:Int):Xk k x 0=k.wrap ((BitVec.ofInt k.bits x).toNat:Int):=by simp[Xk,Al7]
theorem Bw1{x:Int}(h : 0<=x/\x<18446744073709551616):Xk .u64 x 18446744073709551615=18446744073709551615-x:=by show wr .u64 (((BitVec.ofInt 64 x ^^^ BitVec.ofInt 64 18446744073709551615).toNat:Nat):Int)=_;rw[show BitVec.ofInt 64 18446744073709551615=BitVec.allOnes 64 by decide,BitVec.xor_allOnes,BitVec.toNat_not,BitVec.toNat_ofInt,wrU];omega
theorem Buj{n:Int}(h:inI n=true):Xk .u64 (Afq .u64 (wr .u64 n) 1) (wr .u64 (D5 .i64 n 63))=(zz n:Int):=by
 simp[inI] at h;have e1:Afq .u64 (wr .u64 n) 1=(wr .u64 n*2) % 18446744073709551616:=by rw[<-wrU];rfl
 have e2:D5 .i64 n 63=n.fdiv 9223372036854775808:=rfl;rw[e1,e2,wrU,wrU];by_cases hn:n<0
 ·have e3:n.fdiv 9223372036854775808 = -1:=by rw[Int.fdiv_eq_ediv_of_nonneg _ (by omega)];omega
  rw[e3,show(-1:Int) % 18446744073709551616=18446744073709551615 by decide,Bw1 (by omega)];simp only[zz,if_pos hn];omega
 ·have e3:n.fdiv 9223372036854775808=0:=by rw[Int.fdiv_eq_ediv_of_nonneg _ (by omega)];omega
  rw[e3,show(0:Int) % 18446744073709551616=0 by decide,Bwg];show wr .u64 (((BitVec.ofInt 64 _).toNat:Nat):Int)=_;rw[BitVec.toNat_ofInt,wrU];simp only[zz,if_neg hn];omega
theorem Bhj{n:Int}(h:inI n=true):A75 n=some (Cr 9 (zz n)):=by simp only[A75,Vo,Buj h,Bhu (Bnf h)];rfl
theorem Jy{v:Val}(h:Aq v=true)(hk:v.kind=4\/v.kind=5):v.s.length<=1000:=by rcases hk with hk|hk<;>simp[Aq,hk] at h<;>grind
theorem Ad7{v:Val}(h:Aq v=true):v.kind=1\/v.kind=2\/v.kind=3\/v.kind=4\/v.kind=5:=by
 by_cases h1:v.kind=1; · exact .inl h1
 by_cases h2:v.kind=2; · exact .inr (.inl h2)
 by_cases h3:v.kind=3; · exact .inr (.inr (.inl h3))
 by_cases h4:v.kind=4; · exact .inr (.inr (.inr (.inl h4)))
 by_cases h5:v.kind=5; · exact .inr (.inr (.inr (.inr h5)))
 simp[Aq,h1,h2,h3,h4,h5] at h
def b8(n:Int):UInt8:=UInt8.ofNat (wr .u8 n).toNat
def M3(v:Val):Str:=b8 v.kind::(if v.kind=2 then [b8 v.n] else if v.kind=3 then Cr 9 (zz v.n) else if v.kind=4\/v.kind=5 then Cr 5 v.s.length++v.s else [])
theorem Aye{v:Val}(h:Aq v=true):(M3 v).length<=1020:=by
 have h1:=Fa 9 (zz v.n);have h2:=Fa 5 v.s.length;simp only[M3,Zf1];split
 ·simp
 ·split
  ·omega
  ·split
   ·have:=Jy h (by assumption);rw[Zh1];omega
   ·simp
def J6(l:List Val):Str:=(l.map M3).flatten
def Hf(l:List Val):Str×Int:=cond (l.all λv=>Aq v) (cond (decide (100<(l.length:Int))) ([],3) (Cr 9 l.length++J6 l,0)) ([],2)
theorem vch(v:Val):Ei v=cond (!Aq v) 2 0:=rfl
theorem Bbu{l:List Val}{i:Nat}{acc:Str}{a:Str}{b:Int}{kx:Ex->Mm->Option (Str×Int)}(rec:Mm->Option (Str×Int))(hi:i<l.length)(hl:ln l.length)(hn:inI l[i].n=true)(ha:acc.length<=200000000000) :
  Q4 rec kx (l,a,b,acc,l,(l.length:Int),(i:Int))=cond (Aq l[i]) (rec (l,a,b,acc++M3 l[i],l,(l.length:Int),((i+1:Nat):Int))) (kx .ret (l,[],2,acc,l,(l.length:Int),(i:Int))):=by
 simp only[Q4,Ea hi,Af,As hi,chk,Al (c :=.val) hi,An hi hl,vch];cases hv:Aq l[i] with
 |false=>rfl
 |true =>
  have d1:decide (acc.length+1<=Ah)=true:=Ze1 (by simp[Ah];omega);have d2:∀x:Str,x.length<=2000->decide ((acc++[b8 l[i].kind]).length+x.length<=Ah)=true:=λx hx=>Ze1 (by simp[Ah];omega);rcases Ad7 hv with hk|hk|hk|hk|hk
  ·simp[M3,hk,d1,b8]
  ·have d3:=d2 [b8 l[i].n] (by simp);simp[b8,hk] at d3;simp[M3,hk,d1,b8,d3]
  ·have d3:=d2 (Cr 9 (zz l[i].n)) (by have:=Fa 9 (zz l[i].n);omega);simp[b8,hk] at d3;simp[M3,hk,d1,b8,Bhj hn,d3]
  ·have hs:=Jy hv (.inl hk);have d3:=d2 (Cr 5 l[i].s.length++l[i].s) (by have:=Fa 5 l[i].s.length;simp;omega);simp[b8,hk] at d3;simp[M3,hk,d1,b8,Aww (show l[i].s.length<=274877906900 by omega),d3,show l[i].s.length<=Ah by simp[Ah];omega]
  ·have hs:=Jy hv (.inr hk);have d3:=d2 (Cr 5 l[i].s.length++l[i].s) (by have:=Fa 5 l[i].s.length;simp;omega);simp[b8,hk] at d3;simp[M3,hk,d1,b8,Aww (show l[i].s.length<=274877906900 by omega),d3,show l[i].s.length<=Ah by simp[Ah];omega]
theorem Vp(v:Val)(l:List Val):J6 (v::l)=M3 v++J6 l:=by simp[J6]
theorem Apa:∀{l:List Val},(l.all λv=>Aq v)=true->(J6 l).length<=1020*l.length
 |[],_=>by simp[J6]
 |v::l,h=>by simp only[Zv1,Zb1] at h;have h1:=Aye h.1;have h2:=Apa h.2;rw[Vp,Zh1,Zf1];omega
theorem Apb{l:List Val}{kx:Ex->Mm->Option (Str×Int)}(hl:l.length<=4000)(hn:∀v,v∈l->inI v.n=true):∀(k i:Nat) (acc:Str),i<=l.length->l.length-i<k->acc.length+1020*(l.length-i)<=200000000000 ->
  ((l.drop i).all (λv=>Aq v)=true->Aj (λrec=>Q4 rec kx) k (l,[],0,acc,l,(l.length:Int),(i:Int))=kx (.exit 0) (l,[],0,acc++J6 (l.drop i),l,(l.length:Int),(l.length:Int))) /\
  ((l.drop i).all (λv=>Aq v)=false->∃acc' j,Aj (λrec=>Q4 rec kx) k (l,[],0,acc,l,(l.length:Int),(i:Int))=kx .ret (l,[],2,acc',l,(l.length:Int),j))
 |0,_,_,_,h,_=>by omega
 |k+1,i,acc,hi,hk,ha=>by
  have hln:ln l.length:=by simp[ln];omega
  rw[Ay];by_cases h:i<l.length
  ·have hv:l[i]∈l:=List.getElem_mem h;rw[Bbu _ h hln (hn _ hv) (by omega),List.drop_eq_getElem_cons h,Zv1];cases hr:Aq l[i] with|false =>refine⟨λe=>by simp at e,λ_=>⟨_,_,rfl⟩⟩|true =>have hlen:=Aye hr;rw[Af,Bool.true_and,Vp,<-Zj1];exact Apb hl hn k (i+1) (acc++M3 l[i]) h (by omega) (by rw[Zh1];omega)
  ·have:i=l.length:=by omega
   subst this;refine⟨λ_ =>?_,λe=>by simp at e⟩;simp only[Q4,Ee,Ag];simp[J6]
theorem A52{l:List Val}(hl:l.length<=4000)(hn:∀v,v∈l->inI v.n=true):A00 l=some (Hf l):=by
 have h9:=Fa 9 l.length;obtain⟨h1,h2⟩:=Apb (l:=l) (kx:=λe vz=>match vz with|(v7,v8,v9,a,_,_,_)=>match e with
  |.ret=>some (v8,v9)
  |.exit 0=>cond (decide (100<(v7.length:Int))) (some ([],3)) (some (a,0))
  |_=>none) hl hn 5000 0 (Cr 9 l.length) (by omega) (by omega) (by omega)
 have e:wr .u64 (l.length:Int)=(l.length:Int):=Abb (by omega);simp only[A00,Abl,e,Bhu (show l.length<18446744073709551616 by omega),Zc1,Hf];rw[Zq1] at h1 h2;cases h:l.all (λv=>Aq v) with|true =>refine(h1 h).trans ?_;show cond (decide (100<(l.length:Int))) (some (([]:Str),(3:Int))) (some (Cr 9 l.length++J6 l,0))=_;cases decide (100<(l.length:Int))<;>rfl|false =>obtain⟨_,_,h3⟩:=h2 h;exact h3
end Go.Proofs.YtcoaaebppfbbnaaGreatDoor
namespace Go.Proofs.YtcoaaebppfbbnaaGreatDoor
open Go.Sx Go.RowKit
theorem Bsc:ElTy Tryz.prog 43 5 1 1:=elTy_of (by kernel_rfl)
set_option maxRecDepth 20000 in
theorem As0(a:Option Addr)(n c:Nat)(xs:List Value)(h1:xs.all one=true)(hbig:n<=2000000):Con Tryz.prog 151 [.slice a n c] [] (RdS (.slice a n c) 1 n xs) (C2 5 1 n xs):=by
 refine Bh Tryz.func151 Tryz.ntmps151 rfl (by kernel_rfl) rfl λw M =>?_
 repeat' (first|(refine E3 ?_;(first|refine B4 ?_|(apply Au rfl rfl;(first|exact p_move rfl|exact p_assign rfl))|(apply Au rfl rfl;exact H4 1 (by dsimp only;decide +kernel) rfl rfl)|(refine F9 rfl rfl Bsc rfl rfl rfl rfl ?_;intro b)))|(refine E0 ?_;(first|refine D4 ?_|refine Bb ?_|refine Ej ?_|(refine Ef rfl ?_ ?_<;>intro hc<;>try contradiction)|refine B2 rfl rfl ?_))|(refine E6 ?_;(first|refine B5 ?_))|fail)
 ·exact Hp (N2 (by assumption)) rfl
 ·refine Jg 1 ?_;refine Jw 0 rfl rfl Bsc rfl rfl rfl (Jz (λw h=>h)) h1 (by omega) (by omega) ?_;intro v'
  repeat' (first|(refine E3 ?_;(first|refine B4 ?_|(apply Au rfl rfl;(first|exact p_assign rfl))))|(refine E0 ?_;(first|refine B2 rfl rfl ?_))|(refine E6 ?_;(first|refine B5 ?_))|fail)
  refine Bv ?_;simp[C2]
theorem Brz:ElTy Tryz.prog 43 5 1 1:=elTy_of (by kernel_rfl)
set_option maxRecDepth 20000 in
theorem Aux(a:Option Addr)(n c:Nat)(xs:List Value)(h1:xs.all one=true)(hbig:n<=2000000):Con Tryz.prog 69 [.slice a n c] [] (RdS (.slice a n c) 1 n xs) (C2 5 1 n xs):=by
 refine Bh Tryz.func69 Tryz.ntmps69 rfl (by kernel_rfl) rfl λw M =>?_
 repeat' (first|(refine E3 ?_;(first|refine B4 ?_|(apply Au rfl rfl;(first|exact p_move rfl|exact p_assign rfl))|(apply Au rfl rfl;exact H4 1 (by dsimp only;decide +kernel) rfl rfl)|(refine F9 rfl rfl Brz rfl rfl rfl rfl ?_;intro b)))|(refine E0 ?_;(first|refine D4 ?_|refine Bb ?_|refine Ej ?_|(refine Ef rfl ?_ ?_<;>intro hc<;>try contradiction)|refine B2 rfl rfl ?_))|(refine E6 ?_;(first|refine B5 ?_))|fail)
 ·exact Hp (N2 (by assumption)) rfl
 ·refine Jg 1 ?_;refine Jw 0 rfl rfl Brz rfl rfl rfl (Jz (λw h=>h)) h1 (by omega) (by omega) ?_;intro v'
  repeat' (first|(refine E3 ?_;(first|refine B4 ?_|(apply Au rfl rfl;(first|exact p_assign rfl))))|(refine E0 ?_;(first|refine B2 rfl rfl ?_))|(refine E6 ?_;(first|refine B5 ?_))|fail)
  refine Bv ?_;simp[C2]
theorem A8a:ElTy Tryz.prog 44 46 6 112:=elTy_of (by kernel_rfl)
set_option maxRecDepth 20000 in
theorem Aru(a:Option Addr)(n c:Nat)(xs:List Value)(h1:xs.all one=true)(hbig:n<=2000000):Con Tryz.prog 157 [.slice a n c] [] (RdS (.slice a n c) 6 n xs) (C2 46 6 n xs):=by
 refine Bh Tryz.func157 Tryz.ntmps157 rfl (by kernel_rfl) rfl λw M =>?_
 repeat' (first|(refine E3 ?_;(first|refine B4 ?_|(apply Au rfl rfl;(first|exact p_move rfl|exact p_assign rfl))|(apply Au rfl rfl;exact H4 6 (by dsimp only;decide +kernel) rfl rfl)|(refine F9 rfl rfl A8a rfl rfl rfl rfl ?_;intro b)))|(refine E0 ?_;(first|refine D4 ?_|refine Bb ?_|refine Ej ?_|(refine Ef rfl ?_ ?_<;>intro hc<;>try contradiction)|refine B2 rfl rfl ?_))|(refine E6 ?_;(first|refine B5 ?_))|fail)
 ·exact Hp (N2 (by assumption)) rfl
 ·refine Jg 6 ?_;refine Jw 0 rfl rfl A8a rfl rfl rfl (Jz (λw h=>h)) h1 (by omega) (by omega) ?_;intro v'
  repeat' (first|(refine E3 ?_;(first|refine B4 ?_|(apply Au rfl rfl;(first|exact p_assign rfl))))|(refine E0 ?_;(first|refine B2 rfl rfl ?_))|(refine E6 ?_;(first|refine B5 ?_))|fail)
  refine Bv ?_;simp[C2]
set_option maxRecDepth 20000 in
theorem Amp(a:Option Addr)(c:Nat):Con Tryz.prog 157 [.slice a 0 c] [] (λ_=>True) (λv _ _=>∃a',v = .slice a' 0 0):=by
 refine Bh Tryz.func157 Tryz.ntmps157 rfl (by kernel_rfl) rfl λw M =>?_
 repeat' (first|(refine E3 ?_;(first|refine B4 ?_|(apply Au rfl rfl;(first|exact p_move rfl|exact p_assign rfl))|(apply Au rfl rfl;exact H4 6 (by dsimp only;decide +kernel) rfl rfl)|(refine F9 rfl rfl A8a rfl rfl rfl rfl ?_;intro b)|(apply Au rfl rfl;exact Aci A8a rfl rfl)))|(refine E0 ?_;(first|refine D4 ?_|refine Bb ?_|refine Ej ?_|(refine Ef rfl ?_ ?_<;>intro hc<;>try contradiction)|refine B2 rfl rfl ?_))|(refine E6 ?_;(first|refine B5 ?_))|fail)
 ·exact Bv ⟨_,rfl⟩
 ·exact Bv ⟨_,rfl⟩
theorem Bub:ElTy Tryz.prog 43 5 1 1:=elTy_of (by kernel_rfl)
set_option maxRecDepth 20000 in
theorem Axt(n:Int)(h0 : 0<n)(hbig:n<=2000000):Con Tryz.prog 199 [.slice none 0 0,.int .i64 n] [] (λ_=>True) (λv L _=>∃b q cs,v = .slice (some ⟨b,0,none⟩) 0 q/\q<=maxLen/\List.length cs=q*1/\L=[.blk b cs 5]):=by
 refine Bh Tryz.func199 Tryz.ntmps199 rfl (by kernel_rfl) rfl λw M =>?_
 repeat' (first|(refine E3 ?_;(first|refine B4 ?_|(apply Au rfl rfl;(first|exact p_move rfl|exact p_assign rfl|exact p_lensl (by dsimp only;decide +kernel) rfl|exact p_lss rfl rfl|exact p_gtr rfl rfl|exact Kl rfl rfl (by omega)))|(apply Au rfl rfl;exact Aks 1 (by dsimp only;decide +kernel) rfl)|(apply Au rfl rfl;exact K4 1 (by dsimp only;decide +kernel) rfl rfl (by omega))))|(refine E0 ?_;(first|refine D4 ?_|refine Bb ?_|refine Ej ?_|(refine Iv rfl ?_ ?_<;>intro hc<;>try (first|(exfalso;omega)))))|(refine E6 ?_;(first|refine B5 ?_))|fail)
 refine At4 (kn :=.i64) rfl rfl Bub (by dsimp only;decide +kernel) rfl rfl (by omega) (by simp only[maxLen];omega) (by omega) ?_;intro b' q cs hq1 hq2 hcs
 repeat' (first|(refine E3 ?_;(first|refine B4 ?_|(apply Au rfl rfl;(first|exact p_move rfl|exact p_assign rfl|exact p_lensl (by dsimp only;decide +kernel) rfl))|(apply Au rfl rfl;exact K4 1 (by dsimp only;decide +kernel) rfl rfl (by omega))))|(refine E0 ?_;(first|refine D4 ?_|refine Bb ?_|refine B2 rfl rfl ?_))|(refine E6 ?_;(first|refine B5 ?_))|fail)
 exact Bv ⟨_,_,_,rfl,hq2,hcs,rfl⟩
set_option maxRecDepth 20000 in
theorem Atv:Con Tryz.prog 199 [.slice none 0 0,.int .i64 0] [] (λ_=>True) (λv _ _=>v = .slice none 0 0):=by
 refine Bh Tryz.func199 Tryz.ntmps199 rfl (by kernel_rfl) rfl λw M =>?_
 repeat' (first|(refine E3 ?_;(first|refine B4 ?_|(apply Au rfl rfl;(first|exact p_move rfl|exact p_assign rfl|exact p_lensl (by dsimp only;decide +kernel) rfl|exact p_lss rfl rfl|exact p_gtr rfl rfl|exact Kl rfl rfl (by omega)))|(apply Au rfl rfl;exact Aks 1 (by dsimp only;decide +kernel) rfl)|(apply Au rfl rfl;exact K4 1 (by dsimp only;decide +kernel) rfl rfl (by omega))))|(refine E0 ?_;(first|refine D4 ?_|refine Bb ?_|refine Ej ?_|refine B2 rfl rfl ?_|(refine Iv rfl ?_ ?_<;>intro hc<;>try (first|(exfalso;omega)))))|(refine E6 ?_;(first|refine B5 ?_))|fail)
 exact Bv rfl
theorem Ahx:Go.Ax.GrOk Tryz.prog 199 (elT .byte) (Go.Ax.csz .byte):=⟨Sx.enters_of Tryz.func199 rfl (by kernel_rfl),Axt,Atv⟩
theorem Btf:ElTy Tryz.prog 28 56 3 32:=elTy_of (by kernel_rfl)
set_option maxRecDepth 20000 in
theorem Avq(n:Int)(h0 : 0<n)(hbig:n<=2000000):Con Tryz.prog 113 [.slice none 0 0,.int .i64 n] [] (λ_=>True) (λv L _=>∃b q cs,v = .slice (some ⟨b,0,none⟩) 0 q/\q<=maxLen/\List.length cs=q*3/\L=[.blk b cs 56]):=by
 refine Bh Tryz.func113 Tryz.ntmps113 rfl (by kernel_rfl) rfl λw M =>?_
 repeat' (first|(refine E3 ?_;(first|refine B4 ?_|(apply Au rfl rfl;(first|exact p_move rfl|exact p_assign rfl|exact p_lensl (by dsimp only;decide +kernel) rfl|exact p_lss rfl rfl|exact p_gtr rfl rfl|exact Kl rfl rfl (by omega)))|(apply Au rfl rfl;exact Aks 3 (by dsimp only;decide +kernel) rfl)|(apply Au rfl rfl;exact K4 3 (by dsimp only;decide +kernel) rfl rfl (by omega))))|(refine E0 ?_;(first|refine D4 ?_|refine Bb ?_|refine Ej ?_|(refine Iv rfl ?_ ?_<;>intro hc<;>try (first|(exfalso;omega)))))|(refine E6 ?_;(first|refine B5 ?_))|fail)
 refine At4 (kn :=.i64) rfl rfl Btf (by dsimp only;decide +kernel) rfl rfl (by omega) (by simp only[maxLen];omega) (by omega) ?_;intro b' q cs hq1 hq2 hcs
 repeat' (first|(refine E3 ?_;(first|refine B4 ?_|(apply Au rfl rfl;(first|exact p_move rfl|exact p_assign rfl|exact p_lensl (by dsimp only;decide +kernel) rfl))|(apply Au rfl rfl;exact K4 3 (by dsimp only;decide +kernel) rfl rfl (by omega))))|(refine E0 ?_;(first|refine D4 ?_|refine Bb ?_|refine B2 rfl rfl ?_))|(refine E6 ?_;(first|refine B5 ?_))|fail)
 exact Bv ⟨_,_,_,rfl,hq2,hcs,rfl⟩
set_option maxRecDepth 20000 in
theorem Ati:Con Tryz.prog 113 [.slice none 0 0,.int .i64 0] [] (λ_=>True) (λv _ _=>v = .slice none 0 0):=by
 refine Bh Tryz.func113 Tryz.ntmps113 rfl (by kernel_rfl) rfl λw M =>?_
 repeat' (first|(refine E3 ?_;(first|refine B4 ?_|(apply Au rfl rfl;(first|exact p_move rfl|exact p_assign rfl|exact p_lensl (by dsimp only;decide +kernel) rfl|exact p_lss rfl rfl|exact p_gtr rfl rfl|exact Kl rfl rfl (by omega)))|(apply Au rfl rfl;exact Aks 3 (by dsimp only;decide +kernel) rfl)|(apply Au rfl rfl;exact K4 3 (by dsimp only;decide +kernel) rfl rfl (by omega))))|(refine E0 ?_;(first|refine D4 ?_|refine Bb ?_|refine Ej ?_|refine B2 rfl rfl ?_|(refine Iv rfl ?_ ?_<;>intro hc<;>try (first|(exfalso;omega)))))|(refine E6 ?_;(first|refine B5 ?_))|fail)
 exact Bv rfl
theorem Aj5:Go.Ax.GrOk Tryz.prog 113 (elT .val) (Go.Ax.csz .val):=⟨Sx.enters_of Tryz.func113 rfl (by kernel_rfl),Avq,Ati⟩
theorem Bvk:ElTy Tryz.prog 32 80 2 48:=elTy_of (by kernel_rfl)
set_option maxRecDepth 20000 in
theorem A2f(n:Int)(h0 : 0<n)(hbig:n<=2000000):Con Tryz.prog 70 [.slice none 0 0,.int .i64 n] [] (λ_=>True) (λv L _=>∃b q cs,v = .slice (some ⟨b,0,none⟩) 0 q/\q<=maxLen/\List.length cs=q*2/\L=[.blk b cs 80]):=by
 refine Bh Tryz.func70 Tryz.ntmps70 rfl (by kernel_rfl) rfl λw M =>?_
 repeat' (first|(refine E3 ?_;(first|refine B4 ?_|(apply Au rfl rfl;(first|exact p_move rfl|exact p_assign rfl|exact p_lensl (by dsimp only;decide +kernel) rfl|exact p_lss rfl rfl|exact p_gtr rfl rfl|exact Kl rfl rfl (by omega)))|(apply Au rfl rfl;exact Aks 2 (by dsimp only;decide +kernel) rfl)|(apply Au rfl rfl;exact K4 2 (by dsimp only;decide +kernel) rfl rfl (by omega))))|(refine E0 ?_;(first|refine D4 ?_|refine Bb ?_|refine Ej ?_|(refine Iv rfl ?_ ?_<;>intro hc<;>try (first|(exfalso;omega)))))|(refine E6 ?_;(first|refine B5 ?_))|fail)
 refine At4 (kn :=.i64) rfl rfl Bvk (by dsimp only;decide +kernel) rfl rfl (by omega) (by simp only[maxLen];omega) (by omega) ?_;intro b' q cs hq1 hq2 hcs
 repeat' (first|(refine E3 ?_;(first|refine B4 ?_|(apply Au rfl rfl;(first|exact p_move rfl|exact p_assign rfl|exact p_lensl (by dsimp only;decide +kernel) rfl))|(apply Au rfl rfl;exact K4 2 (by dsimp only;decide +kernel) rfl rfl (by omega))))|(refine E0 ?_;(first|refine D4 ?_|refine Bb ?_|refine B2 rfl rfl ?_))|(refine E6 ?_;(first|refine B5 ?_))|fail)
 exact Bv ⟨_,_,_,rfl,hq2,hcs,rfl⟩
set_option maxRecDepth 20000 in
theorem Avn:Con Tryz.prog 70 [.slice none 0 0,.int .i64 0] [] (λ_=>True) (λv _ _=>v = .slice none 0 0):=by
 refine Bh Tryz.func70 Tryz.ntmps70 rfl (by kernel_rfl) rfl λw M =>?_
 repeat' (first|(refine E3 ?_;(first|refine B4 ?_|(apply Au rfl rfl;(first|exact p_move rfl|exact p_assign rfl|exact p_lensl (by dsimp only;decide +kernel) rfl|exact p_lss rfl rfl|exact p_gtr rfl rfl|exact Kl rfl rfl (by omega)))|(apply Au rfl rfl;exact Aks 2 (by dsimp only;decide +kernel) rfl)|(apply Au rfl rfl;exact K4 2 (by dsimp only;decide +kernel) rfl rfl (by omega))))|(refine E0 ?_;(first|refine D4 ?_|refine Bb ?_|refine Ej ?_|refine B2 rfl rfl ?_|(refine Iv rfl ?_ ?_<;>intro hc<;>try (first|(exfalso;omega)))))|(refine E6 ?_;(first|refine B5 ?_))|fail)
 exact Bv rfl
theorem Apd:Go.Ax.GrOk Tryz.prog 70 (elT .kv) (Go.Ax.csz .kv):=⟨Sx.enters_of Tryz.func70 rfl (by kernel_rfl),A2f,Avn⟩
open Go.Ax
theorem A09:ClOk Tryz.prog 151 (elT .byte) (csz .byte):=⟨Sx.enters_of Tryz.func151 rfl (by kernel_rfl),As0⟩
theorem A04:ClOk Tryz.prog 69 (elT .byte) (csz .byte):=⟨Sx.enters_of Tryz.func69 rfl (by kernel_rfl),Aux⟩
theorem Ad8:ClOk Tryz.prog 157 (elT .node) (csz .node):=⟨Sx.enters_of Tryz.func157 rfl (by kernel_rfl),Aru⟩
theorem Z7:Ajy Tryz.prog 157:=Amp
theorem Azn:FO 151 [.sl .byte false] [.sl .byte true] (A4z .byte):=Xy A09
theorem Azd:FO 69 [.sl .byte false] [.sl .byte true] (A4z .byte):=Xy A04
end Go.Proofs.YtcoaaebppfbbnaaGreatDoor
namespace Go.Ax
theorem Ap5{P:Program}{S:Fp}{w:World}{l:Str}{t:Tk}{v:Value}(h:RF S w (.sl .byte l t) v):(Extern.Bytes.bytesOf v).run P w = .ok ⟨l.toArray⟩ w:=by
 obtain⟨a,cap,rfl,hf⟩:=h.here.slice;cases l with
 |nil=>cases a<;>simp[Extern.Bytes.bytesOf,Extern.Bytes.loadBytes,go_sem]<;>rfl
 |cons x l =>
  rcases hf with h|⟨b,o,rfl,_,hat⟩
  ·cases h
  ·have hl:=Lib.run_loadBytesX (P:=P) w ((x::l).map λb=>(b.toNat:Int)) ⟨b,o,none⟩ .empty (λj y hj=>by rw[List.getElem?_map] at hj;obtain⟨z,hz,rfl⟩:=Option.map_eq_some_iff.1 hj;obtain⟨u,hu,hf⟩:=hat j z hz 0 (.int .u8 (z.toNat:Int)) rfl;cases hf;rw[Sx.add_mk];simpa[csz] using hu)
   have e:Lib.bytesOf ((x::l).map λb=>(b.toNat:Int))=x::l:=by simp[Lib.bytesOf,Function.comp_def]
   rw[e,List.length_map] at hl;simp only[Extern.Bytes.bytesOf,hl];congr 1;apply ByteArray.ext;simp
theorem Bel{P:Program}{S:Fp}{w:World}{l:Str}{t:Tk}{v:Value}(h:RF S w (.sl .byte l t) v)(c:Int):(Extern.BytealgCount.count #[v,.int .u8 c]).run P w = .ok (.int .i64 (Lib.countByte l c.toNat.toUInt8)) w:=by
 have hs:=Lib.run_countString (P:=P) ⟨l.toArray⟩ c w;have hb:=Ap5 (P:=P) h;change Sem.run P (do
  let b <-Extern.Bytes.bytesOf v;let c' <-Extern.Bytes.asByte (.int .u8 c)
  pure (goInt (b.foldl (λn x=>if x == c' then n+1 else n) (0:Nat)))) w=_
 change Sem.run P (do
  let b <-Extern.Bytes.bytesOf (.string ⟨l.toArray⟩);let c' <-Extern.Bytes.asByte (.int .u8 c)
  pure (goInt (b.foldl (λn x=>if x == c' then n+1 else n) (0:Nat)))) w=_ at hs
 rw[Sem.run_bind] at hs ⊢;rw[hb];exact hs
theorem Bc7{P:Program}{S:Fp}{w:World}{l:Str}{t:Tk}{v:Value}(h:RF S w (.sl .byte l t) v)(c:Int):(Extern.BytealgIndexByte.indexByte #[v,.int .u8 c]).run P w = .ok (.int .i64 (Lib.indexByte l c.toNat.toUInt8)) w:=by
 have hs:=Lib.run_indexByteString (P:=P) ⟨l.toArray⟩ c w;have hb:=Ap5 (P:=P) h;change Sem.run P (do
  let b <-Extern.Bytes.bytesOf v;let c' <-Extern.Bytes.asByte (.int .u8 c);match(List.range b.size).find? λi=>b[i]! == c' with
  |some i=>pure (goInt i)
  |none=>pure (goInt (-1))) w=_
 change Sem.run P (do
  let b <-Extern.Bytes.bytesOf (.string ⟨l.toArray⟩);let c' <-Extern.Bytes.asByte (.int .u8 c);match(List.range b.size).find? λi=>b[i]! == c' with
  |some i=>pure (goInt i)
  |none=>pure (goInt (-1))) w=_ at hs
 rw[Sem.run_bind] at hs ⊢;rw[hb];exact hs
end Go.Ax
namespace Go.Proofs.YtcoaaebppfbbnaaGreatDoor
open Go.Ax
def Aty(s sep:Str):Option Int:=match sep with|[c]=>some (Lib.countByte s c)|_=>none
def Ail:FT [.sl .byte false,.sl .byte false] [.int .i64]:=λx=>Aty x.1 x.2
theorem Bdq:FO 207 [.sl .byte false,.sl .byte false] [.int .i64] Ail:=by
 refine⟨Sx.enters_of Tryz.func207 rfl (by kernel_rfl),λx r hx w M vs hM hgl hr =>?_⟩;obtain⟨s,sep⟩:=x;obtain⟨c,rfl⟩:∃c,sep=[c]:=by
  cases sep with
  |nil=>cases hx
  |cons c tl=>cases tl with|nil=>exact⟨c,rfl⟩|cons _ _=>cases hx
 simp only[Ail,Aty,Za1] at hx;subst hx;simp only[Bw,Cn,Reps,Rep] at hr;obtain⟨u,us,rfl,⟨h1,_⟩,u2,us2,rfl,⟨h2,_⟩,rfl⟩:=hr;have h1:RF (v0 elT M w).S w (.sl .byte s .no) u:=h1;have h2:RF (v0 elT M w).S w (.sl .byte [c] .no) u2:=h2;have walk:Calls Tryz.prog 207 #[u,u2] w λe w'=>e = .returned (.int .i64 (Lib.countByte s c))/\w' = w:=by
  have hrun:=Bel (P:=Tryz.prog) h1 (c.toNat:Int);have e1:(Int.toNat (c.toNat:Int)).toUInt8=c:=by simp
  rw[e1] at hrun;obtain⟨a2,cap2,rfl,hf2⟩:=h2.here.slice;rcases hf2 with h|⟨b2,o2,rfl,_,hat⟩
  ·cases h
  obtain⟨q,hc2,hq⟩:=hat 0 c rfl 0 (.int .u8 (c.toNat:Int)) rfl;cases hq;have hc2:w.cell? ⟨b2,o2,none⟩=some (.int .u8 (c.toNat:Int)):=by simpa using hc2
  obtain⟨a,cap,rfl,_⟩:=h1.here.slice;have mixed:=follows;have t0:=Tryz.underlying5;simp only[List.length_singleton];clear h1 h2 hat hM hgl
  set_option maxRecDepth 100000 in go_enter Tryz.func207,Tryz.ntmps207
  set_option maxRecDepth 100000 in go_wp2
  rw[run_callFunc_extern Tryz.func243 (by kernel_rfl) (by kernel_rfl) (by kernel_rfl) (e:=Extern.BytealgCount.count) (by kernel_rfl),hrun];simp only[Result.andThen];rw[Oper.upon_value]
  set_option maxRecDepth 100000 in go_wp2
  go_ret
  exact⟨rfl,rfl⟩
 refine Calls.mono walk ?_;rintro en w' ⟨rfl,rfl⟩;refine⟨_,⟨λ_=>0,λ_=>Option.none⟩,rfl,Chg.refl _ _,λp g o hp=>(by simp[A7] at hp),λp q g o o2 hp=>(by simp[A7] at hp),?_⟩;simp only[Gu,Bw,Cn,Rep];have hl:Lib.countByte s c<=s.length:=List.count_le_length;have hs:=h1.here.len;exact⟨trivial,Qq (Nat.le_trans hl hs)⟩
theorem Bjj(l:Str)(c:UInt8) : -1<=Lib.indexByte l c/\Lib.indexByte l c<=l.length:=by
 induction l with
 |nil=>simp[Lib.indexByte]
 |cons b l ih =>
  simp only[Lib.indexByte,Zf1];split
  ·omega
  ·split<;>omega
def Adj(s:Str)(c:Int):Int:=Lib.indexByte s c.toNat.toUInt8
def Ah6:FT [.sl .byte false,.int .u8] [.int .i64]:=λx=>some (Adj x.1 x.2)
theorem Baf:FO 244 [.sl .byte false,.int .u8] [.int .i64] Ah6:=by
 refine⟨Sx.enters_of Tryz.func244 rfl (by kernel_rfl),λx r hx w M vs hM hgl hr =>?_⟩;obtain⟨s,c⟩:=x;simp only[Ah6,Za1] at hx;subst hx;simp only[Bw,Cn,Reps,Rep] at hr;obtain⟨u,us,rfl,⟨h1,_⟩,u2,us2,rfl,⟨rfl,_⟩,rfl⟩:=hr;have h1:RF (v0 elT M w).S w (.sl .byte s .no) u:=h1;have walk:Calls Tryz.prog 244 #[u,.int .u8 c] w λe w'=>e = .returned (.int .i64 (Adj s c))/\w' = w:=by
  have hrun:=Bc7 (P:=Tryz.prog) h1 c;obtain⟨a,cap,rfl,_⟩:=h1.here.slice;have mixed:=follows;clear h1 hM hgl
  set_option maxRecDepth 100000 in go_enter Tryz.func244,Tryz.ntmps244
  set_option maxRecDepth 100000 in go_wp2
  rw[run_callFunc_extern Tryz.func274 (by kernel_rfl) (by kernel_rfl) (by kernel_rfl) (e:=Extern.BytealgIndexByte.indexByte) (by kernel_rfl),hrun];simp only[Result.andThen];rw[Oper.upon_value]
  set_option maxRecDepth 100000 in go_wp2
  go_ret
  exact⟨rfl,rfl⟩
 refine Calls.mono walk ?_;rintro en w' ⟨rfl,rfl⟩;refine⟨_,⟨λ_=>0,λ_=>Option.none⟩,rfl,Chg.refl _ _,λp g o hp=>(by simp[A7] at hp),λp q g o o2 hp=>(by simp[A7] at hp),?_⟩;simp only[Gu,Bw,Cn,Rep];have hs:=h1.here.len;refine⟨trivial,Azc ?_⟩;have hb:=Bjj s c.toNat.toUInt8;have hm:maxLen=9223372036854775807:=rfl;simp only[IntKind.min,IntKind.max,IntKind.signed,IntKind.bits,Adj];simp only[if_true];omega
def Blv(R:Type):Px R:=pxO [(244,cA Ah6)] [] [] []
def A2v(x:HV [.sl .byte false,.sl .byte false]):Option (HV [.int .i64]):=match x with
 |(s,sep) =>
 cond (decide ((sep.length:Int)=0)) (
  some 0) (
  cond (decide ((sep.length:Int)=1)) (
  chk (inb 0 sep.length) (
   some (Adj s ((at' .byte sep 0).toNat:Int)))) (
  cond (decide ((sep.length:Int)=(s.length:Int))) (
   none) (
   cond (decide ((s.length:Int)<(sep.length:Int))) (
   some (-1)) (
   none))))
theorem Bc6:FO 208 [.sl .byte false,.sl .byte false] [.int .i64] (A2v):=fR (px:=Blv _) (n:=2) Tryz.func208 rfl (λ_ H=>⟨lv H (c1 H Baf Ae) Aa Ab,(A6 (A6 Ai (Are (λ_ _=>by kernel_rfl))) (Are (λ_ _=>by kernel_rfl)))⟩) λ(_,_)=>by kernel_rfl
def A8x(s sep:Str):Option Int:=match sep with|[c]=>some (Lib.indexByte s c)|_=>none
def A9g:FT [.sl .byte false,.sl .byte false] [.int .i64]:=λx=>A8x x.1 x.2
theorem Bex:FO 208 [.sl .byte false,.sl .byte false] [.int .i64] A9g :=.fin0 Bc6 λ(s,sep) r _ hx=>by
 obtain⟨c,rfl⟩:∃c,sep=[c]:=by
  cases sep with
  |nil=>cases hx
  |cons c tl=>cases tl with|nil=>exact⟨c,rfl⟩|cons _ _=>cases hx
 rw[<-hx];show(some (Adj s ((at' .byte [c] 0).toNat:Int)):Option Int)=some (Lib.indexByte s c);simp[Adj,at']
def esc(s:Str):Str:=s.flatMap λb=>if b=0 then [0,255] else [b]
theorem Afw:esc []=[]:=rfl
theorem O1(a b:Str):esc (a++b)=esc a++esc b:=by simp[esc]
theorem J2(l:Str):esc (0::l)=0::255::esc l:=by simp[esc]
theorem F4{b:UInt8}(h:b≠0)(l:Str):esc (b::l)=b::esc l:=by simp[esc,h]
theorem Auh:∀{a:Str},(0:UInt8)∉a->esc a=a
 |[],_=>rfl
 |b::a,h=>by simp only[List.mem_cons,not_or] at h;rw[F4 (Ne.symm h.1),Auh h.2]
theorem T2(s:Str):(esc s).length=s.length+s.count 0:=by
 induction s with
 |nil=>rfl
 |cons b s ih =>
  by_cases h:b=0
  ·subst h;rw[J2];simp only[Zf1,ih,List.count_cons_self];omega
  ·rw[F4 h,List.count_cons_of_ne h];simp only[Zf1,ih];omega
theorem Aiq:∀{l:Str},0<l.count 0->∃a b,l=a++0::b/\(0:UInt8)∉a/\Lib.indexByte l 0=(a.length:Int)/\l.count 0=b.count 0+1
 |[],h=>by simp at h
 |x::l,h=>by
  by_cases hx:x=0
  ·subst hx;exact⟨[],l,rfl,by simp,by simp[Lib.indexByte],by simp⟩
  ·rw[List.count_cons_of_ne hx] at h;obtain⟨a,b,e,h1,h2,h3⟩:=Aiq h;refine⟨x::a,b,by rw[e];rfl,by simp[h1,Ne.symm hx],?_,by rw[List.count_cons_of_ne hx];exact h3⟩;have h4:¬(a.length:Int) = -1:=by omega
   simp[Lib.indexByte,hx,h2,h4]
theorem P7{α:Type}(xs:List α)(o:Nat)(l:List α)(h:o+l.length<=xs.length):(B7 xs o l).take (o+l.length)=xs.take o++l:=by
 have h1:(xs.take o).length=o:=by simp;omega
 simp only[B7];rw[<-Zj1,List.take_append_of_le_length (by simp;omega)];rw[List.take_of_length_le (by simp;omega)]
def Alo:Sig:=⟨132,[(0,.sl .byte false),(2,.sl .byte false),(11,.int .i64),(12,.int .i64),(88,.int .i64),(89,.int .i64)],[],[(0,.one (.dn .byte))],1,0,0,[],[(10,0,.byte)]⟩
abbrev Adg:=List UInt8×List UInt8×Int×Int×Int×Int×List UInt8×Int×Int
def Atu{R:Type}(_:Adg->Option R)(kx:Ex->Adg->Option R)(v:Adg):Option R:=match v with
 |(a,e,f,b,c,d,w3,w4,w5) =>
 cond (decide (d<c)) (
  chk (upto b a.length a.length) (
  none)) (
  kx (.exit 2) (a,e,f,b,c,d,w3,w4,w5))
def Ajr:Sig:=⟨132,[(0,.sl .byte false),(1,.sl .byte false),(2,.sl .byte false),(11,.int .i64),(12,.int .i64),(48,.int .i64),(49,.int .i64)],[],[(0,.one (.dn .byte))],1,0,0,[],[(10,0,.byte)]⟩
abbrev Jc:=List UInt8×List UInt8×List UInt8×Int×Int×Int×Int×List UInt8×Int×Int
def M2{R:Type}(rec:Jc->Option R)(kx:Ex->Jc->Option R)(v:Jc):Option R:=match v with
 |(v,v1,v2,v3,v4,v5,v6,w,w1,w2) =>
 cond (decide (v6<v5)) (
  chk (upto v4 v.length v.length) (
  (A8x (v.drop (v4:Int).toNat) v1).bind λx1 =>
   chk (upI v3 w2 w2) (
   chk (upto v4 (wr .i64 (v4+x1)) v.length) (
    chk (decide ((0:Int)<=(w1+v3))&&decide ((0:Int)<=(w2-v3))&&decide ((w1+v3)+(w2-v3)<=(w.length:Int))) (
    chk (upI (wr .i64 (v3+((min ((w2-v3):Int).toNat (cut v v4 (wr .i64 (v4+x1))).length:Nat):Int))) w2 w2) (
     chk (decide ((0:Int)<=(w1+(wr .i64 (v3+((min ((w2-v3):Int).toNat (cut v v4 (wr .i64 (v4+x1))).length:Nat):Int)))))&&decide ((0:Int)<=(w2-(wr .i64 (v3+((min ((w2-v3):Int).toNat (cut v v4 (wr .i64 (v4+x1))).length:Nat):Int)))))&&decide ((w1+(wr .i64 (v3+((min ((w2-v3):Int).toNat (cut v v4 (wr .i64 (v4+x1))).length:Nat):Int))))+(w2-(wr .i64 (v3+((min ((w2-v3):Int).toNat (cut v v4 (wr .i64 (v4+x1))).length:Nat):Int))))<=((B7 w ((w1+v3):Int).toNat ((cut v v4 (wr .i64 (v4+x1))).take ((w2-v3):Int).toNat)).length:Int))) (
     rec (v,v1,v2,(wr .i64 ((wr .i64 (v3+((min ((w2-v3):Int).toNat (cut v v4 (wr .i64 (v4+x1))).length:Nat):Int)))+((min ((w2-(wr .i64 (v3+((min ((w2-v3):Int).toNat (cut v v4 (wr .i64 (v4+x1))).length:Nat):Int)))):Int).toNat v2.length:Nat):Int))),(wr .i64 ((wr .i64 (v4+x1))+(v1.length:Int))),v5,(wr .i64 (v6+1)),(B7 (B7 w ((w1+v3):Int).toNat ((cut v v4 (wr .i64 (v4+x1))).take ((w2-v3):Int).toNat)) ((w1+(wr .i64 (v3+((min ((w2-v3):Int).toNat (cut v v4 (wr .i64 (v4+x1))).length:Nat):Int)))):Int).toNat (v2.take ((w2-(wr .i64 (v3+((min ((w2-v3):Int).toNat (cut v v4 (wr .i64 (v4+x1))).length:Nat):Int)))):Int).toNat)),w1,w2)))))))) (
  kx (.exit 0) (v,v1,v2,v3,v4,v5,v6,w,w1,w2))
def Awi(R:Type)(k:Nat):Px R:=pxO [(207,cA Ail),(208,cA A9g)] [] [(13,Am k Ajr (M2)),(21,Am k Alo (Atu))] []
def W4(k:Nat)(x:HV [.sl .byte false,.sl .byte false,.sl .byte false,.int .i64]):Option (HV [.sl .byte true]):=match x with
 |(s,old,new,n) =>
 let j2:=λ(p:Int) =>
  cond (decide (p=0)) (
  chk (decide (0+s.length<=Ah)) (
   some ([]++s))) (
  let j1:=λ(p3:Int) =>
   chk (upI 0 (wr .i64 ((s.length:Int)+(wr .i64 (p3*(wr .i64 ((new.length:Int)-(old.length:Int))))))) (wr .i64 ((s.length:Int)+(wr .i64 (p3*(wr .i64 ((new.length:Int)-(old.length:Int)))))))&&decide ((wr .i64 ((s.length:Int)+(wr .i64 (p3*(wr .i64 ((new.length:Int)-(old.length:Int)))))))<=(Ah:Int))) (
   let j:=λ(p4:List UInt8) (p5:Int) (p6:Int) (p7:Int) (p8:Int) (q:List UInt8) =>
    chk (upI p7 p6 p6) (
    chk (upto p8 p4.length p4.length) (
     chk (decide ((0:Int)<=(p5+p7))&&decide ((0:Int)<=(p6-p7))&&decide ((p5+p7)+(p6-p7)<=(q.length:Int))) (
     chk (upI 0 (wr .i64 (p7+((min ((p6-p7):Int).toNat (p4.drop (p8:Int).toNat).length:Nat):Int))) p6) (
      chk (decide (((p5+0):Int)=0)&&decide ((0:Int)<((wr .i64 (p7+((min ((p6-p7):Int).toNat (p4.drop (p8:Int).toNat).length:Nat):Int)))-0))&&decide (((wr .i64 (p7+((min ((p6-p7):Int).toNat (p4.drop (p8:Int).toNat).length:Nat):Int)))-0)<=((B7 q ((p5+p7):Int).toNat ((p4.drop (p8:Int).toNat).take ((p6-p7):Int).toNat)).length:Int))) (
      some ((B7 q ((p5+p7):Int).toNat ((p4.drop (p8:Int).toNat).take ((p6-p7):Int).toNat)).take (((wr .i64 (p7+((min ((p6-p7):Int).toNat (p4.drop (p8:Int).toNat).length:Nat):Int)))-0):Int).toNat))))))
   cond (decide (0<(old.length:Int))) (
    Aj (λrec=>M2 rec (λe vz=>match vz with|(v7,_,_,a,b,_,_,c,d,f)=>match e with
    |.exit 0 =>j v7 d f a b c
    |_=>none)) k (s,old,new,0,0,p3,0,(List.replicate ((wr .i64 ((s.length:Int)+(wr .i64 (p3*(wr .i64 ((new.length:Int)-(old.length:Int))))))):Int).toNat (zer .byte)),0,(wr .i64 ((s.length:Int)+(wr .i64 (p3*(wr .i64 ((new.length:Int)-(old.length:Int))))))))) (
    chk (upI 0 (wr .i64 ((s.length:Int)+(wr .i64 (p3*(wr .i64 ((new.length:Int)-(old.length:Int))))))) (wr .i64 ((s.length:Int)+(wr .i64 (p3*(wr .i64 ((new.length:Int)-(old.length:Int)))))))) (
    chk (decide ((0:Int)<=0)&&decide ((0:Int)<=((wr .i64 ((s.length:Int)+(wr .i64 (p3*(wr .i64 ((new.length:Int)-(old.length:Int)))))))-0))&&decide (0+((wr .i64 ((s.length:Int)+(wr .i64 (p3*(wr .i64 ((new.length:Int)-(old.length:Int)))))))-0)<=((List.replicate ((wr .i64 ((s.length:Int)+(wr .i64 (p3*(wr .i64 ((new.length:Int)-(old.length:Int))))))):Int).toNat (zer .byte)).length:Int))) (
     Aj (λrec=>Atu rec (λe vz=>match vz with|(g,_,h,i,_,_,l,m,o)=>match e with
     |.exit 2 =>j g m o h i l
     |_=>none)) k (s,new,(wr .i64 (0+((min (((wr .i64 ((s.length:Int)+(wr .i64 (p3*(wr .i64 ((new.length:Int)-(old.length:Int)))))))-0):Int).toNat new.length:Nat):Int))),0,(wr .i64 (p3-1)),0,(B7 (List.replicate ((wr .i64 ((s.length:Int)+(wr .i64 (p3*(wr .i64 ((new.length:Int)-(old.length:Int))))))):Int).toNat (zer .byte)) (0:Int).toNat (new.take (((wr .i64 ((s.length:Int)+(wr .i64 (p3*(wr .i64 ((new.length:Int)-(old.length:Int)))))))-0):Int).toNat)),0,(wr .i64 ((s.length:Int)+(wr .i64 (p3*(wr .i64 ((new.length:Int)-(old.length:Int))))))))))))
  cond (decide (n<0)) (
   j1 p) (
   cond (decide (p<n)) (
   j1 p) (
   j1 n)))
 cond (!decide (n=0)) (
  (Aty s old).bind λx =>
  j2 x) (
  j2 0)
theorem Bb4(k:Nat):FO 169 [.sl .byte false,.sl .byte false,.sl .byte false,.int .i64] [.sl .byte true] (W4 k):=fR (px:=Awi _ k) (n:=2) Tryz.func169 rfl (λcx H=>by have h0:Lv cx (Awi (HV [.sl .byte true]) k):=lv H (c1 H Bdq (c1 H Bex Ae)) Aa Ab;have hlbrepl_0:=lO H h0 (b:=lp Tryz.f169 0) (k:=k) (n:=0) (s:=Ajr) (step:=M2) (λ_ _ _ (_,_,_,_,_,_,_,_,_,_)=>by kernel_rfl) Ai;have hlbrepl_1:=lO H h0 (b:=lp Tryz.f169 1) (k:=k) (n:=0) (s:=Alo) (step:=Atu) (λ_ _ _ (_,_,_,_,_,_,_,_,_)=>by kernel_rfl) Ai;exact⟨h0,(A6 (A6 Ai hlbrepl_0) hlbrepl_1)⟩) λ(_,_,_,_)=>by kernel_rfl
def Am6(s old new:Str)(n:Int):Option Str:=cond (decide (old=[0])&&decide (new=[0,255])&&decide (n = -1)&&decide (s.length<=68719476736)) (some (esc s)) none
def Asr:FT [.sl .byte false,.sl .byte false,.sl .byte false,.int .i64] [.sl .byte true]:=λx=>Am6 x.1 x.2.1 x.2.2.1 x.2.2.2
theorem A2y{R:Type}{rec:Jc->Option R}{kx:Ex->Jc->Option R}{s A B:Str}{p L N m i:Nat}{w:Str}(hs:s.length<=68719476736)(hN:N<=137438953472)(hi:i<m)(hm:ln m)(hp:s.drop p=A++0::B)(hA:Lib.indexByte (A++0::B) 0=(A.length:Int))(hL:L+A.length+2<=N)(hw:w.length=N):M2 rec kx (s,[0],[0,255],(L:Int),(p:Int),(m:Int),(i:Int),w,0,(N:Int))=rec (s,[0],[0,255],((L+A.length+2:Nat):Int),((p+A.length+1:Nat):Int),(m:Int),((i+1:Nat):Int),B7 (B7 w L A) (L+A.length) [0,255],0,(N:Int)):=by
 have hpl:p+(A.length+1+B.length)=s.length:=by have:=congrArg List.length hp;simp only[Za2,Zh1,Zf1] at this;omega
 have e1:upto (p:Int) (s.length:Int) s.length=true:=by rw[Akd];simp;omega
 have e2:A8x (s.drop p) [0]=some (A.length:Int):=by simp only[A8x,hp,hA]
 have e3:wr .i64 ((p:Int)+(A.length:Int))=((p+A.length:Nat):Int):=by rw[B3 (by simp only[inI];omega)];rfl
 have e4:cut s (p:Int) ((p+A.length:Nat):Int)=A:=by simp only[cut,Int.toNat_natCast,hp];rw[show p+A.length-p=A.length by omega];simp
 have e5:upto (p:Int) ((p+A.length:Nat):Int) s.length=true:=by rw[Akd];simp;omega
 have e6:min ((N:Int)-(L:Int)).toNat A.length=A.length:=by omega
 have e7:wr .i64 ((L:Int)+(A.length:Int))=((L+A.length:Nat):Int):=by rw[B3 (by simp only[inI];omega)];rfl
 have e8:upI (L:Int) (N:Int) (N:Int)=true:=by simp only[upI,Zb1,Zg1];omega
 have e9:upI ((L+A.length:Nat):Int) (N:Int) (N:Int)=true:=by simp only[upI,Zb1,Zg1];omega
 have e10:A.take ((N:Int)-(L:Int)).toNat=A:=List.take_of_length_le (by omega);have e11:([0,255]:Str).take ((N:Int)-((L+A.length:Nat):Int)).toNat=[0,255]:=List.take_of_length_le (by simp;omega);have e12:min ((N:Int)-((L+A.length:Nat):Int)).toNat 2=2:=by omega
 have e13:wr .i64 (((L+A.length:Nat):Int)+2)=((L+A.length+2:Nat):Int):=by rw[B3 (by simp only[inI];omega)];rfl
 have e14:wr .i64 (((p+A.length:Nat):Int)+1)=((p+A.length+1:Nat):Int):=by rw[B3 (by simp only[inI];omega)];rfl
 have e15:wr .i64 ((i:Int)+1)=((i+1:Nat):Int):=An hi hm;have e16:decide ((i:Int)<(m:Int))=true:=Ze1 (by omega);have e17:(0:Int)+(L:Int)=(L:Int):=Int.zero_add _;have e18:(0:Int)+((L+A.length:Nat):Int)=((L+A.length:Nat):Int):=Int.zero_add _;have hsl:(B7 w L A).length=N:=by rw[Ff _ _ _ (by omega)];exact hw
 have e19:(decide ((0:Int)<=(L:Int))&&decide ((0:Int)<=((N:Int)-(L:Int)))&&decide ((L:Int)+((N:Int)-(L:Int))<=(N:Int)))=true:=by simp only[Zb1,Zg1];omega
 have e20:(decide ((0:Int)<=((L+A.length:Nat):Int))&&decide ((0:Int)<=((N:Int)-((L+A.length:Nat):Int)))&&decide (((L+A.length:Nat):Int)+((N:Int)-((L+A.length:Nat):Int))<=(N:Int)))=true:=by simp only[Zb1,Zg1];omega
 have e21:((2:Nat):Int)=2:=rfl;have e22:((1:Nat):Int)=1:=rfl;have l2:([0,255]:Str).length=2:=rfl;have l1:([0]:Str).length=1:=rfl;simp only[M2,e16,Af,e1,chk,Int.toNat_natCast,e2,Zc1,e8,e3,e5,e4,e6,e7,e17,hw,e19,e9,e10,e18,hsl,e20,l1,l2,e11,e12,e21,e22,e13,e14,e15]
theorem Akk{R:Type}{kx:Ex->Jc->Option R}{s:Str}{c:Option R}{N m:Nat}(hs:s.length<=68719476736)(hN:N=(esc s).length)(hm:m<=s.length)(h0:∀(L p:Nat) (w:Str),p<=s.length->L=(esc (s.take p)).length->w.length=N->w.take L=esc (s.take p)->(s.drop p).count 0=0->kx (.exit 0) (s,[0],[0,255],(L:Int),(p:Int),(m:Int),(m:Int),w,0,(N:Int))=c) :
  ∀(k i L p:Nat) (w:Str),(s.drop p).count 0=m-i->i<=m->m-i<k->p<=s.length->L=(esc (s.take p)).length->w.length=N->w.take L=esc (s.take p)->Aj (λrec=>M2 rec kx) k (s,[0],[0,255],(L:Int),(p:Int),(m:Int),(i:Int),w,0,(N:Int))=c
 |0,i,L,p,w,_,_,h,_,_,_,_=>by omega
 |k+1,i,L,p,w,hc,him,hk,hp,hL,hw,ht=>by
  have hcl:s.count 0<=s.length:=List.count_le_length;have hNs:N<=137438953472:=by rw[hN,T2];omega
  rw[Ay];by_cases hi:i<m
  ·obtain⟨A,B,hd,hA,hix,hcb⟩:=Aiq (l:=s.drop p) (by omega);have e1:s.take (p+A.length+1)=s.take p++(A++[0]):=by rw[Nat.add_assoc,List.take_add,hd];congr 1;rw[show A++0::B=(A++[0])++B by simp];exact List.take_left' (by simp)
   have e2:s.drop (p+A.length+1)=B:=by rw[Nat.add_assoc,<-List.drop_drop,hd,show A++0::B=(A++[0])++B by simp];exact List.drop_left' (by simp)
   have e3:esc (s.take (p+A.length+1))=esc (s.take p)++(A++[0,255]):=by rw[e1,O1,O1,Auh hA];rfl
   have hpl:p+A.length+1<=s.length:=by have:=congrArg List.length hd;simp only[Za2,Zh1,Zf1] at this;omega
   have hL2:L+A.length+2=(esc (s.take (p+A.length+1))).length:=by rw[e3,Zh1,<-hL];simp;omega
   have hLN:L+A.length+2<=N:=by
    have:esc s=esc (s.take (p+A.length+1))++esc (s.drop (p+A.length+1)):=by rw[<-O1,List.take_append_drop]
    rw[hN,this,Zh1];omega
   have hsl:(B7 w L A).length=N:=by rw[Ff _ _ _ (by omega)];exact hw
   rw[A2y hs hNs hi (by simp only[ln];omega) hd (hd▸hix) hLN hw];refine Akk hs hN hm h0 k (i+1) (L+A.length+2) (p+A.length+1) _ ?_ (by omega) (by omega) hpl hL2 ?_ ?_
   ·rw[e2];omega
   ·rw[Ff _ _ _ (by rw[hsl];simp;omega)];exact hsl
   ·rw[show L+A.length+2=(L+A.length)+([0,255]:Str).length by rfl,P7 _ _ _ (by rw[hsl];simp;omega),P7 _ _ _ (by omega),ht,e3];simp
  ·have him:i=m:=by omega
   subst him;simp only[M2,Zd1 (show ¬((i:Nat):Int)<(i:Int) by omega),Ag];exact h0 L p w hp hL hw ht (by omega)
theorem Bi8:FO 169 [.sl .byte false,.sl .byte false,.sl .byte false,.int .i64] [.sl .byte true] Asr :=.fin 0 Bb4 λ(s,old,new,n) r hb hx=>⟨s.count 0+1,by
 simp only[Asr,Am6] at hx;cases hc:decide (old=[0])&&decide (new=[0,255])&&decide (n = -1)&&decide (s.length<=68719476736) with
 |false=>rw[hc] at hx;cases hx
 |true =>
  rw[hc] at hx;simp only[Zb1,Zg1] at hc;obtain⟨⟨⟨rfl,rfl⟩,rfl⟩,hs⟩:=hc;have hx:some (esc s)=some r:=hx;rw[<-hx];have hcl:s.count 0<=s.length:=List.count_le_length;have hNl:=T2 s;have ecount:Aty s [0]=some ((s.count 0:Nat):Int):=rfl;have l2:([0,255]:Str).length=2:=rfl;have l1:([0]:Str).length=1:=rfl;by_cases h0:s.count 0=0
  ·have hno:(0:UInt8)∉s:=List.count_eq_zero.1 h0;have c1:decide (0+s.length<=Ah)=true:=Ze1 (by simp only[Ah];omega);have c2:decide (((s.count 0:Nat):Int)=0)=true:=Ze1 (by omega);simp only[W4,ecount,Zc1,c2,Af,c1,chk,Auh hno];rfl
  ·have c2:decide (((s.count 0:Nat):Int)=0)=false:=Zd1 (by omega);have c3:wr .i64 (((2:Nat):Int)-((1:Nat):Int))=1:=by decide
   have c4:wr .i64 (((s.count 0:Nat):Int)*1)=((s.count 0:Nat):Int):=by rw[Int.mul_one,B3 (by simp only[inI];omega)]
   have c5:wr .i64 ((s.length:Int)+((s.count 0:Nat):Int))=(((esc s).length:Nat):Int):=by rw[B3 (by simp only[inI];omega),hNl];rfl
   have c6:(upI 0 (((esc s).length:Nat):Int) (((esc s).length:Nat):Int)&&decide ((((esc s).length:Nat):Int)<=(Ah:Int)))=true:=by
    have h1:(((esc s).length:Nat):Int)<=274877906944:=by rw[hNl];omega
    simp only[upI,Zb1,Zg1];exact⟨⟨⟨Int.le_refl _,Int.natCast_nonneg _⟩,Int.le_refl _⟩,h1⟩
   have c7:decide ((0:Int)<((1:Nat):Int))=true:=rfl;have c8:decide ((-1:Int)<0)=true:=rfl;have c9:(!decide ((-1:Int)=0))=true:=rfl;simp only[W4,c9,ecount,Zc1,c2,Af,Ag,c8,l1,l2,c3,c4,c5,c6,chk,c7];refine Akk (c:=some (esc s)) (N:=(esc s).length) (m:=s.count 0) hs rfl hcl (λL p w hp hL hw ht hz =>?_) (s.count 0+1) 0 0 0 _ (by simp) (Nat.zero_le _) (by omega) (Nat.zero_le _) (by simp[esc]) (by simp) (by simp[esc]);have hdn:(0:UInt8)∉s.drop p:=List.count_eq_zero.1 hz;have hes:esc s=esc (s.take p)++s.drop p:=by rw[<-Auh hdn,<-O1,List.take_append_drop]
   have hNL:(esc s).length=L+(s.drop p).length:=by rw[hes,Zh1,<-hL]
   have hdl:(s.drop p).length=s.length-p:=Za2;have e1:upI (L:Int) (((esc s).length:Nat):Int) (((esc s).length:Nat):Int)=true:=by simp only[upI,Zb1,Zg1];omega
   have e2:upto (p:Int) (s.length:Int) s.length=true:=by rw[Akd];simp;omega
   have e3:(decide ((0:Int)<=(L:Int))&&decide ((0:Int)<=((((esc s).length:Nat):Int)-(L:Int)))&&decide ((L:Int)+((((esc s).length:Nat):Int)-(L:Int))<=(((esc s).length:Nat):Int)))=true:=by simp only[Zb1,Zg1];omega
   have e4:min ((((esc s).length:Nat):Int)-(L:Int)).toNat (s.drop p).length=(s.drop p).length:=by omega
   have e5:wr .i64 ((L:Int)+(((s.drop p).length:Nat):Int))=(((esc s).length:Nat):Int):=by rw[B3 (by simp only[inI];omega)];omega
   have e6:upI 0 (((esc s).length:Nat):Int) (((esc s).length:Nat):Int)=true:=by simp only[upI,Zb1,Zg1];omega
   have e7:(s.drop p).take ((((esc s).length:Nat):Int)-(L:Int)).toNat=s.drop p:=List.take_of_length_le (by omega);have hsl:(B7 w L (s.drop p)).length=(esc s).length:=by rw[Ff _ _ _ (by omega)];exact hw
   have e8:decide ((0:Int)<(((esc s).length:Nat):Int))=true:=Ze1 (by omega);have e10:decide ((((esc s).length:Nat):Int)<=(((esc s).length:Nat):Int))=true:=Ze1 (Int.le_refl _);have e9:(B7 w L (s.drop p)).take (esc s).length=esc s:=by have:=P7 w L (s.drop p) (by omega);rw[<-hNL,ht] at this;rw[this,hes]
   simp only[Int.zero_add,Int.add_zero,Int.sub_zero,Int.toNat_natCast,hw,e1,e2,e3,e4,e5,e6,e7,hsl,e8,e9,e10,decide_true,Bool.true_and,Af]⟩
def Ba7(R:Type):Px R:=pxO [(169,cA Asr)] [] [] []
def Aex(x:HV [.sl .byte false,.sl .byte false,.sl .byte false]):Option (HV [.sl .byte true]):=match x with
 |(s,old,new) =>
 (Am6 s old new (-1)).bind λx =>some x
theorem A3t:FO 124 [.sl .byte false,.sl .byte false,.sl .byte false] [.sl .byte true] (Aex):=fR (px:=Ba7 _) (n:=0) Tryz.func124 rfl (λ_ H=>⟨lv H (c1 H Bi8 Ae) Aa Ab,Ai⟩) λ(_,_,_)=>by kernel_rfl
def Aj7(s old new:Str):Option Str:=Am6 s old new (-1)
def Aaa:FT [.sl .byte false,.sl .byte false,.sl .byte false] [.sl .byte true]:=λx=>Aj7 x.1 x.2.1 x.2.2
theorem Anj:FO 124 [.sl .byte false,.sl .byte false,.sl .byte false] [.sl .byte true] Aaa :=.fin0 A3t λ(s,old,new) r _ hx=>by rw[<-hx];simp only[Aex,Aaa,Aj7];cases Am6 s old new (-1)<;>rfl
def Cc(s:Str):Option Str:=cond (decide (s.length<=2000000)) (some s) none
def Em:FT [.sl .byte false] [.sl .byte true]:=λx=>Cc x
theorem D9:FO 69 [.sl .byte false] [.sl .byte true] Em:=Azd
def Ow(s:Str):Option Str:=cond (decide (s.length<=2000000)) (some s) none
def Hd:FT [.sl .byte false] [.sl .byte true]:=λx=>Ow x
theorem Gn:FO 151 [.sl .byte false] [.sl .byte true] Hd:=Azn
theorem Bs4{c:UInt8}(n:UInt8):decide ((c.toNat:Int)=(n.toNat:Int))=decide (c=n):=by refine Zy1.2 ⟨λe=>UInt8.toNat_inj.1 (by omega),λe=>by rw[e]⟩
def nxt:Str->Str
 |[]=>[]
 |c::l=>if nxt l=[] then(if c=255 then [] else [c+1]) else c::nxt l
theorem At2:∀n:Nat,nxt (List.replicate n 255)=[]
 |0=>rfl
 |n+1=>by simp[List.replicate_succ,nxt,At2 n]
theorem Az9{c:UInt8}(h:c≠255)(n:Nat):∀l:Str,nxt (l++c::List.replicate n 255)=l++[c+1]
 |[]=>by simp[nxt,At2,h]
 |d::l=>by simp[nxt,Az9 h n l]
def V6:Sig:=⟨35,[],[],[(0,.one (.dn .byte))],1,0,0,[],[(3,0,.byte)]⟩
abbrev Hm:=List UInt8×Int×Int
def M8{R:Type}(rec:Hm->Option R)(kx:Ex->Hm->Option R)(v:Hm):Option R:=match v with
 |(w,w1,w2) =>
 cond (decide (0<w2)) (
  chk (inO (wr .i64 (w2-1)) w2) (
  chk (inb (w1+(wr .i64 (w2-1))) w.length) (
   cond (decide (((at' .byte w (w1+(wr .i64 (w2-1)))).toNat:Int)=255)) (
   chk (upI 0 (wr .i64 (w2-1)) w2) (
    rec (w,w1,(wr .i64 (w2-1))))) (
   kx (.exit 0) (w,w1,w2))))) (
  kx (.exit 0) (w,w1,w2))
noncomputable def Ap4(R:Type)(_k:Nat):Px R:=pxO [(69,Lz [.sl .byte false] .byte Em)] [] [] []
noncomputable def Aac(R:Type)(k:Nat):Px R:=pxO [(69,Lz [.sl .byte false] .byte Em)] [] [(2,Ar5 (Ap4 R k) (lp Tryz.f38 0) k V6 (M8))] []
theorem A39(R:Type)(k:Nat):∀(fr:List Fr) (rec:Hm->Option R) (kx:Ex->Hm->Option R) (v:Hm),round (Aac R k) V6 (lp Tryz.f38 0) fr rec kx v=M8 rec kx v
 |fr,rec,kx,(w,w1,w2)=>by kernel_rfl
def Als(k:Nat)(x:HV [.sl .byte false]):Option (HV [.sl .byte false]):=match x with
 |b =>
 (Cc b).bind λx =>
  cond (List.isEmpty x) (
  some []) (
  Aj (λrec=>M8 rec (λe vz=>match vz with|(v,v1,v2)=>match e with
   |.exit 0 =>
   cond (decide (0<v2)) (
    chk (inO (wr .i64 (v2-1)) v2) (
    chk (inb (v1+(wr .i64 (v2-1))) v.length) (
     chk (inO (wr .i64 (v2-1)) v2) (
     chk (inb (v1+(wr .i64 (v2-1))) v.length) (
      chk (decide ((0:Int)<=v1)&&decide ((0:Int)<=v2)&&decide ((v1+v2)<=((v.set ((v1+(wr .i64 (v2-1))):Int).toNat (UInt8.ofNat ((wr .u8 (((at' .byte v (v1+(wr .i64 (v2-1)))).toNat:Int)+1)):Int).toNat)).length:Int))) (
      some (cut (v.set ((v1+(wr .i64 (v2-1))):Int).toNat (UInt8.ofNat ((wr .u8 (((at' .byte v (v1+(wr .i64 (v2-1)))).toNat:Int)+1)):Int).toNat)) v1 (v1+v2)))))))) (
    chk (decide ((0:Int)<=v1)&&decide ((0:Int)<=v2)&&decide ((v1+v2)<=(v.length:Int))) (
    some (cut v v1 (v1+v2))))
   |_=>none)) k (x,0,(x.length:Int)))
theorem Bc0(k:Nat):FO 38 [.sl .byte false] [.sl .byte false] (Als k):=fR (px:=Aac _ k) (n:=1) Tryz.func38 rfl (λcx H=>by have h0:Lv cx (Aac (HV [.sl .byte false]) k):=lv H (Ao (cT H D9) Ae) Aa Ab;have h00:Lv cx (Ap4 (HV [.sl .byte false]) k):=lv H (Ao (cT H D9) Ae) Aa Ab;have hlknext_0:Bg cx (Aac (HV [.sl .byte false]) k) (lp Tryz.f38 0):=Ala h0.p h0.c h0.q (by rw[H.p];exact follows) h00.p h00.c h00.q (λ_ _ _=>rfl) (k:=k) (s:=V6) (step:=M8) (λ_ _=>by kernel_rfl) (by kernel_rfl) (A39 _ k) (Q3 (n:=0) (by kernel_rfl) Ai);exact⟨h0,(A6 Ai hlknext_0)⟩) λ_=>by kernel_rfl
def Awa(b:Str):Option Str:=cond (decide (b.length<=2000000)) (some (nxt b)) none
def Agk:FT [.sl .byte false] [.sl .byte false]:=λx=>Awa x
theorem A37{w:Str}{n:Nat}(hn:n<w.length)(h:w.drop (n+1)=List.replicate (w.length-(n+1)) 255)(h2:w[n]=255):w.drop n=List.replicate (w.length-n) 255:=by rw[Ak hn,h2,h,show w.length-n=(w.length-(n+1))+1 by omega,List.replicate_succ]
theorem Alw{R:Type}{kx:Ex->Hm->Option R}{w:Str}{c:Option R}(hw:w.length<=2000000)(h:∀m:Nat,m<=w.length->w.drop m=List.replicate (w.length-m) 255->(∀(h:m-1<w.length),0<m->w[m-1]≠255)->kx (.exit 0) (w,0,(m:Int))=c) :
  ∀(k n:Nat),n<=w.length->n<k->w.drop n=List.replicate (w.length-n) 255->Aj (λrec=>M8 rec kx) k (w,0,(n:Int))=c
 |0,n,_,h,_=>by omega
 |k+1,n,hn,hk,hd=>by
  rw[Ay];by_cases h0 : 0<n
  ·have hl:n-1<w.length:=by omega
   have e0:wr .i64 ((n:Int)-1)=((n-1:Nat):Int):=by rw[B3 (by simp only[inI];omega)];omega
   have e1:decide ((0:Int)<(n:Int))=true:=Ze1 (by omega);have e2:inO ((n-1:Nat):Int) (n:Int)=true:=by simp only[inO,Zb1,Zg1];omega
   have e3:upI 0 ((n-1:Nat):Int) (n:Int)=true:=by simp only[upI,Zb1,Zg1];omega
   simp only[M8,e1,Af,e0,e2,chk,Int.zero_add,As hl,Al (c :=.byte) hl,e3];have q:decide (((w[n-1]).toNat:Int)=255)=decide (w[n-1]=255):=Bs4 255;rw[q];by_cases hc:w[n-1]=255
   ·rw[Ze1 hc,Af];refine Alw hw h k (n-1) (by omega) (by omega) (A37 hl ?_ hc);rw[show n-1+1=n by omega];exact hd
   ·rw[Zd1 hc,Ag];exact h n hn hd λ_ _=>hc
  ·have h00:n=0:=by omega
   subst h00;have e1:decide ((0:Int)<((0:Nat):Int))=false:=rfl;simp only[M8,e1,Ag];exact h 0 hn hd λ_ h=>absurd h (by omega)
theorem Bup{w:Str}{m:Nat}(hm:m<=w.length)(hd:w.drop m=List.replicate (w.length-m) 255)(h0 : 0<m)(hc:w[m-1]≠255):nxt w=w.take (m-1)++[w[m-1]+1]:=by
 have e:w=w.take (m-1)++w[m-1]::List.replicate (w.length-m) 255:=by
  rw[<-hd]
  conv=>lhs;rw[<-List.take_append_drop (m-1) w]
  rw[Ak (show m-1<w.length by omega),show m-1+1=m by omega]
 rw[<-Az9 hc (w.length-m) (w.take (m-1)),<-e]
theorem Bga{w:Str}(hd:w.drop 0=List.replicate (w.length-0) 255):nxt w=[]:=by rw[Zq1] at hd;rw[hd];exact At2 _
theorem Bdv(b:UInt8):UInt8.ofNat (wr .u8 ((b.toNat:Int)+1)).toNat=b+1:=by
 have:wr .u8 ((b.toNat:Int)+1)=(((b.toNat+1) % 256:Nat):Int):=by simp[wr,IntKind.wrap,IntKind.bits,IntKind.signed]
 rw[this,Int.toNat_natCast];apply UInt8.toNat_inj.1;simp
theorem Bn1{w:Str}{m:Nat}{c:UInt8}(h0 : 0<m)(hm:m<=w.length):cut (w.set (m-1) c) 0 (m:Int)=w.take (m-1)++[c]:=by
 simp only[cut,Int.toNat_zero,Zq1,Int.toNat_natCast,Nat.sub_zero];rw[List.take_set];have:w.take m=w.take (m-1)++[w[m-1]]:=by
  conv=>lhs;rw[show m=(m-1)+1 by omega]
  exact(List.take_append_getElem _).symm
 have hl:(w.take (m-1)).length=m-1:=by rw[List.length_take];omega
 rw[this,List.set_append_right (h:=by omega),hl,Nat.sub_self];rfl
theorem Ay5:FO 38 [.sl .byte false] [.sl .byte false] Agk :=.fin 0 Bc0 λb r hb hx=>⟨b.length+1,by
 simp only[Agk,Awa] at hx;cases hc:decide (b.length<=2000000) with
 |false=>rw[hc] at hx;cases hx
 |true =>
  rw[hc] at hx;have hl:=of_decide_eq_true hc;have hx:some (nxt b)=some r:=hx;rw[<-hx];have e1:Cc b=some b:=by simp only[Cc];rw[Ze1 hl];rfl
  simp only[Als,e1,Zc1];by_cases hb0:b=[]
  ·subst hb0;rfl
  ·have e2:List.isEmpty b=false:=by cases b with|nil=>exact absurd rfl hb0|cons _ _=>rfl
   rw[e2,Ag];refine Alw (c:=some (nxt b)) hl (λm hm hd hcc =>?_) (b.length+1) b.length (Zn1 _) (by omega) (by simp);by_cases h0 : 0<m
   ·have hml:m-1<b.length:=by omega
    have f0:wr .i64 ((m:Int)-1)=((m-1:Nat):Int):=by rw[B3 (by simp only[inI];omega)];omega
    have f1:decide ((0:Int)<(m:Int))=true:=Ze1 (by omega);have f2:inO ((m-1:Nat):Int) (m:Int)=true:=by simp only[inO,Zb1,Zg1];omega
    have f3:∀x:UInt8,(decide ((0:Int)<=0)&&decide ((0:Int)<=(m:Int))&&decide ((m:Int)<=(((b.set (m-1) x).length:Nat):Int)))=true:=λx=>by simp only[List.length_set,Zb1,Zg1];omega
    simp only[f1,Af,f0,f2,chk,Int.zero_add,As hml,Al (c :=.byte) hml,Int.toNat_natCast,f3,Bdv];rw[Bn1 h0 hm,Bup hm hd h0 (hcc hml h0)]
   ·have hm0:m=0:=by omega
    subst hm0;have f1:decide ((0:Int)<((0:Nat):Int))=false:=rfl;have f3:(decide ((0:Int)<=0)&&decide ((0:Int)<=((0:Nat):Int))&&decide ((0:Int)+((0:Nat):Int)<=((b.length:Nat):Int)))=true:=by simp
    simp only[f1,Ag,f3,chk,Af];rw[Bga hd];simp[cut]⟩
def Bpz(R:Type):Px R:=pxO [(124,cA Aaa)] [] [] []
def Ao7(x:HV [.str]):Option (HV [.sl .byte true]):=match x with
 |s =>
 chk (decide (s.length<=Ah)) (
  (Aj7 s [(UInt8.ofNat (0:Int).toNat)] [(UInt8.ofNat (0:Int).toNat),(UInt8.ofNat (255:Int).toNat)]).bind λx =>
  chk (decide (x.length+2<=Ah)) (
   some (x++[(UInt8.ofNat (0:Int).toNat),(UInt8.ofNat (1:Int).toNat)])))
theorem Bna:FO 81 [.str] [.sl .byte true] (Ao7):=fR (px:=Bpz _) (n:=0) Tryz.func81 rfl (λ_ H=>⟨lv H (c1 H Anj Ae) Aa Ab,Ai⟩) λ_=>by kernel_rfl
def A2z(s:Str):Option Str:=cond (decide (s.length<=68719476736)) (some (esc s++[0,1])) none
def A3y:FT [.str] [.sl .byte true]:=λx=>A2z x
theorem Bn4:FO 81 [.str] [.sl .byte true] A3y :=.fin0 Bna λs r _ hx=>by
 simp only[A3y,A2z] at hx;cases hc:decide (s.length<=68719476736) with
 |false=>rw[hc] at hx;cases hx
 |true =>
  rw[hc] at hx;have hl:=of_decide_eq_true hc;have hcl:s.count 0<=s.length:=List.count_le_length;have hNl:=T2 s;rw[<-hx];have c1:decide (s.length<=Ah)=true:=Ze1 (by simp only[Ah];omega);have c2:Aj7 s [0] [0,255]=some (esc s):=by simp[Aj7,Am6,hc]
  have c3:decide ((esc s).length+2<=Ah)=true:=Ze1 (by simp only[Ah];omega);simp[Ao7,c1,c2,c3,chk]
def Bt(x s:Nat):UInt8:=UInt8.ofNat (x / 2 ^ s % 256)
def Akz(x:Nat):Str:=[Bt x 56,Bt x 48,Bt x 40,Bt x 32,Bt x 24,Bt x 16,Bt x 8,Bt x 0]
def Ar0(n:Int):Str:=Akz (n+9223372036854775808).toNat
def Gz(v:Val):Str:=cond (decide (v.kind=2)) [UInt8.ofNat v.n.toNat] (cond (decide (v.kind=3)) (Ar0 v.n) (cond (decide (v.kind=4)||decide (v.kind=5)) (esc v.s++[0,1]) []))
def Mb(v:Val):Str:=UInt8.ofNat v.kind.toNat::Gz v
def E4(l:List Val):Str:=l.flatMap Mb
def vsz:List Val->Nat
 |[]=>0
 |v::l=>v.s.length+1+vsz l
theorem Aj0:∀a b,vsz (a++b)=vsz a+vsz b
 |[],b=>by simp[vsz]
 |v::a,b=>by simp only[Zb2,vsz,Aj0 a b];omega
theorem Bpj{l:List Val}{i:Nat}(h:i<l.length):vsz (l.take i)+(l[i].s.length+1)<=vsz l:=by have h1:=Aj0 (l.take i) (l.drop i);rw[List.take_append_drop,Ak h] at h1;simp only[vsz] at h1;omega
theorem Bhn(v:Val):(Mb v).length<=9*(v.s.length+1):=by have h:=T2 v.s;have hc:v.s.count 0<=v.s.length:=List.count_le_length;simp only[Mb,Gz,Zf1];cases decide (v.kind=2)<;>cases decide (v.kind=3)<;>cases (decide (v.kind=4)||decide (v.kind=5))<;>simp[Ar0,Akz]<;>omega
theorem Ayb(l:List Val):(E4 l).length<=9*vsz l:=by induction l with|nil=>simp[E4]|cons v l ih =>have:=Bhn v;simp only[E4,List.flatMap_cons,Zh1,vsz] at ih ⊢;omega
theorem Avl(a b:List Val):E4 (a++b)=E4 a++E4 b:=by simp[E4]
theorem Bc8{l:List Val}{i:Nat}(h:i<l.length):E4 (l.take (i+1))=E4 (l.take i)++Mb l[i]:=by rw[<-List.take_append_getElem h,Avl];simp[E4]
theorem Br8{x:Nat}(h:x<2 ^ 63):x ^^^ 2 ^ 63=x+2 ^ 63:=by
 rw[Nat.add_comm,Nat.xor_comm];apply Nat.eq_of_testBit_eq;intro i;rw[Nat.testBit_xor,Nat.testBit_two_pow];rcases Nat.lt_trichotomy i 63 with hi|rfl|hi
 ·rw[Nat.testBit_two_pow_add_gt hi];simp[Nat.ne_of_gt hi]
 ·rw[Nat.testBit_two_pow_add_eq,Nat.testBit_lt_two_pow h];simp
 ·rw[Nat.testBit_lt_two_pow (Zx1 h (Nat.pow_le_pow_right (by omega) (by omega)))];rw[Nat.testBit_lt_two_pow (show 2 ^ 63+x<2 ^ i from Zx1 (show 2 ^ 63+x<2 ^ 64 by omega) (Nat.pow_le_pow_right (by omega) (by omega)))];simp[Nat.ne_of_lt hi]
theorem Ayi{m:Nat}(h:m<18446744073709551616):IntKind.wrap .u64 (m:Int)=(m:Int):=by simp[IntKind.wrap,IntKind.bits,IntKind.signed];omega
theorem Bqd{n:Int}(h:inI n):∃a:Nat,wr .u64 n=(a:Int)/\a<18446744073709551616/\((0<=n/\(a:Int)=n)\/(n<0/\(a:Int)=n+18446744073709551616)):=by
 simp only[inI] at h;have e:wr .u64 n=n % 18446744073709551616:=by simp[wr,IntKind.wrap,IntKind.bits,IntKind.signed]
 refine⟨(n % 18446744073709551616).toNat,?_,?_,?_⟩<;>omega
theorem Bt7{n:Int}(h:inI n):Xk .u64 (wr .u64 n) 9223372036854775808=n+9223372036854775808:=by
 obtain⟨a,ha,hlt,hc⟩:=Bqd h;have e1:(BitVec.ofInt 64 (a:Int)).toNat=a:=by simp;omega
 have e2:(BitVec.ofInt 64 (9223372036854775808:Int)).toNat=2 ^ 63:=by decide
 have e3:Xk .u64 (a:Int) 9223372036854775808=IntKind.wrap .u64 (((a ^^^ 2 ^ 63:Nat)):Int):=by show IntKind.wrap .u64 (((BitVec.ofInt 64 (a:Int) ^^^ BitVec.ofInt 64 (9223372036854775808:Int)).toNat:Nat):Int)=_;rw[BitVec.toNat_xor,e1,e2]
 rw[ha,e3];simp only[inI] at h;rcases hc with ⟨h0,h1⟩|⟨h0,h1⟩
 ·rw[Br8 (by omega),Ayi (by omega)];omega
 ·obtain⟨b,rfl⟩:∃b,a=b+2 ^ 63:=⟨a-2 ^ 63,by omega⟩;rw[<-Br8 (x:=b) (by omega),Nat.xor_assoc,Nat.xor_self,Nat.xor_zero,Ayi (by omega)];omega
theorem A9q(x s:Nat)(hs:s<=63):UInt8.ofNat (wr .u8 (D5 .u64 (x:Int) (s:Int))).toNat=UInt8.ofNat (x / 2 ^ s % 256):=by
 have e:min (s:Int).toNat (IntKind.bits .u64)=s:=by simp[IntKind.bits];omega
 have e2:D5 .u64 (x:Int) (s:Int)=((x / 2 ^ s:Nat):Int):=by
  simp only[D5,e];have e0:((2:Int) ^ s)=((2 ^ s:Nat):Int):=by simp
  rw[e0,Int.fdiv_eq_ediv_of_nonneg _ (Int.natCast_nonneg _)];rfl
 have e3:wr .u8 ((x / 2 ^ s:Nat):Int)=((x / 2 ^ s % 256:Nat):Int):=by simp[wr,IntKind.wrap,IntKind.bits,IntKind.signed]
 rw[e2,e3,Int.toNat_natCast]
def Am5:Sig:=⟨64,[(2,.sl .byte true),(3,.int .i64),(4,.sl .byte true),(8,.int .u64),(9,.int .i64),(10,.sl .val false),(11,.int .i64),(12,.int .i64)],[],[],0,0,0,[],[]⟩
abbrev L6:=List UInt8×Int×List UInt8×Int×Int×List Val×Int×Int
def Nj{R:Type}(rec:L6->Option R)(kx:Ex->L6->Option R)(v:L6):Option R:=match v with
 |(v6,v7,v8,v9,a,b,c,d) =>
 cond (decide (0<=a)) (
  chk (decide (0<=a)) (
  chk (decide (v8.length+1<=Ah)) (
   rec (v6,v7,(v8++[(UInt8.ofNat ((wr .u8 (D5 .u64 v9 a)):Int).toNat)]),v9,(wr .i64 (a-8)),b,c,d)))) (
  kx (.exit 3) (v6,v7,v8,v9,a,b,c,d))
def Apn:Sig:=⟨64,[(2,.sl .byte true),(3,.int .i64),(4,.sl .byte true),(10,.sl .val false),(11,.int .i64),(12,.int .i64)],[],[],0,0,0,[],[]⟩
abbrev Mc:=List UInt8×Int×List UInt8×List Val×Int×Int
def Wa{R:Type}(k:Nat)(rec:Mc->Option R)(kx:Ex->Mc->Option R)(v:Mc):Option R:=match v with
 |(v,v1,v2,v3,v4,v5) =>
 cond (decide (v5<v4)) (
  chk (inb v5 v3.length) (
  cond (!decide ((Ei (at' .val v3 v5))=0)) (
   kx .ret ([],(Ei (at' .val v3 v5)),v2,v3,v4,v5)) (
   chk (decide (v2.length+1<=Ah)) (
   cond (decide ((at' .val v3 v5).kind=2)) (
    chk (decide ((v2++[(UInt8.ofNat ((wr .u8 ((at' .val v3 v5).kind)):Int).toNat)]).length+1<=Ah)) (
    rec (v,v1,((v2++[(UInt8.ofNat ((wr .u8 ((at' .val v3 v5).kind)):Int).toNat)])++[(UInt8.ofNat ((wr .u8 ((at' .val v3 v5).n)):Int).toNat)]),v3,v4,(wr .i64 (v5+1))))) (
    cond (decide ((at' .val v3 v5).kind=3)) (
    Aj (λrc=>Nj rc (λe vz=>match vz with|(a,b,c,_,_,d,f,g)=>match e with
     |.exit 3 =>
     rec (a,b,c,d,f,(wr .i64 (g+1)))
     |_=>none)) k (v,v1,(v2++[(UInt8.ofNat ((wr .u8 ((at' .val v3 v5).kind)):Int).toNat)]),(Xk .u64 (wr .u64 ((at' .val v3 v5).n)) 9223372036854775808),56,v3,v4,v5)) (
    let j:=λ(p:Bool) =>
     cond (p) (
     (A2z ((at' .val v3 v5).s)).bind λx =>
      chk (decide ((v2++[(UInt8.ofNat ((wr .u8 ((at' .val v3 v5).kind)):Int).toNat)]).length+x.length<=Ah)) (
      rec (v,v1,((v2++[(UInt8.ofNat ((wr .u8 ((at' .val v3 v5).kind)):Int).toNat)])++x),v3,v4,(wr .i64 (v5+1))))) (
     rec (v,v1,(v2++[(UInt8.ofNat ((wr .u8 ((at' .val v3 v5).kind)):Int).toNat)]),v3,v4,(wr .i64 (v5+1))))
    cond (decide ((at' .val v3 v5).kind=4)) (
     j (decide ((at' .val v3 v5).kind=4))) (
     j (decide ((at' .val v3 v5).kind=5))))))))) (
  kx (.exit 0) (v,v1,v2,v3,v4,v5))
def A8o(R:Type)(k:Nat):Px R:=pxO [(80,cA Qb),(81,cA A3y)] [] [(15,Am k Am5 (Nj)),(3,Am k Apn (Wa k))] []
def Ana(k:Nat)(x:HV [.sl .val false]):Option (HV [.sl .byte true,.int .i64]):=match x with
 |l =>
 Aj (λrec=>Wa k rec (λe vz=>match vz with|(a,b,c,_,_,_)=>match e with
  |.ret =>
  some (a,b)
  |.exit 0 =>
  some (c,0)
  |_=>none)) k ([],0,[],l,(l.length:Int),0)
theorem Bir(k:Nat):FO 45 [.sl .val false] [.sl .byte true,.int .i64] (Ana k):=fR (px:=A8o _ k) (n:=2) Tryz.func45 rfl (λcx H=>by have h0:Lv cx (A8o (HV [.sl .byte true,.int .i64]) k):=lv H (c1 H Uq (c1 H Bn4 Ae)) Aa Ab;have hlkenc_1:=lO H h0 (b:=lpC (lp Tryz.f45 0) 0) (k:=k) (n:=0) (s:=Am5) (step:=Nj) (λ_ _ _ (_,_,_,_,_,_,_,_)=>by kernel_rfl) Ai;have hlkenc_0:=lO H h0 (b:=lp Tryz.f45 0) (k:=k) (n:=1) (s:=Apn) (step:=Wa k) (λ_ _ _ (_,_,_,_,_,_)=>by kernel_rfl) (A6 Ai hlkenc_1);exact⟨h0,(A6 (A6 Ai hlkenc_0) hlkenc_1)⟩) λ_=>by kernel_rfl
def Bkr(l:List Val):Option (Str×Int):=cond (decide (vsz l<=1000000)) (some (cond (l.all Aq) (E4 l,0) ([],2))) none
def A3v:FT [.sl .val false] [.sl .byte true,.int .i64]:=λx=>Bkr x
theorem Beg{R:Type}{rec:L6->Option R}{kx:Ex->L6->Option R}{q acc:Str}{e:Int}{x s:Nat}{l:List Val}{n i:Int}(hs:s<=63)(ha:acc.length<=20000000):Nj rec kx (q,e,acc,(x:Int),(s:Int),l,n,i)=rec (q,e,acc++[Bt x s],(x:Int),wr .i64 ((s:Int)-8),l,n,i):=by have c1:decide ((0:Int)<=(s:Int))=true:=Ze1 (by omega);have c2:decide (acc.length+1<=Ah)=true:=Ze1 (by simp only[Ah];omega);simp only[Nj,c1,c2,chk,Af,A9q x s hs,Bt]
theorem A1f{R:Type}{kx:Ex->L6->Option R}{q acc:Str}{e:Int}{x:Nat}{l:List Val}{n i:Int}{k:Nat}(ha:acc.length<=10000000):Aj (λrec=>Nj rec kx) (k+9) (q,e,acc,(x:Int),56,l,n,i)=kx (.exit 3) (q,e,acc++Akz x,(x:Int), -8,l,n,i):=by
 have st:∀(k s:Nat) (acc:Str) (t:Int),s<=63->acc.length<=20000000->wr .i64 ((s:Int)-8)=t->Aj (λrec=>Nj rec kx) (k+1) (q,e,acc,(x:Int),(s:Int),l,n,i)=Aj (λrec=>Nj rec kx) k (q,e,acc++[Bt x s],(x:Int),t,l,n,i):=λk s acc t h1 h2 h3=>by rw[Ay,Beg h1 h2,h3]
 have e1:=st (k+8) 56 acc 48 (by omega) (by omega) (by decide);have e2:=st (k+7) 48 (acc++[Bt x 56]) 40 (by omega) (by simp;omega) (by decide);have e3:=st (k+6) 40 (acc++[Bt x 56]++[Bt x 48]) 32 (by omega) (by simp;omega) (by decide);have e4:=st (k+5) 32 (acc++[Bt x 56]++[Bt x 48]++[Bt x 40]) 24 (by omega) (by simp;omega) (by decide);have e5:=st (k+4) 24 (acc++[Bt x 56]++[Bt x 48]++[Bt x 40]++[Bt x 32]) 16 (by omega) (by simp;omega) (by decide);have e6:=st (k+3) 16 (acc++[Bt x 56]++[Bt x 48]++[Bt x 40]++[Bt x 32]++[Bt x 24]) 8 (by omega) (by simp;omega) (by decide);have e7:=st (k+2) 8 (acc++[Bt x 56]++[Bt x 48]++[Bt x 40]++[Bt x 32]++[Bt x 24]++[Bt x 16]) 0 (by omega) (by simp;omega) (by decide);have e8:=st (k+1) 0 (acc++[Bt x 56]++[Bt x 48]++[Bt x 40]++[Bt x 32]++[Bt x 24]++[Bt x 16]++[Bt x 8]) (-8) (by omega) (by simp;omega) (by decide);refine e1.trans (e2.trans (e3.trans (e4.trans (e5.trans (e6.trans (e7.trans (e8.trans ?_)))))));rw[Ay];have c1:decide ((0:Int) <= -8)=false:=rfl;simp only[Nj,c1,Ag,Akz,Zj1,Zb2,Zf2]
theorem Ed{v:Val}:Aq v=true↔(v.kind=1/\v.n=0/\v.s=[])\/(v.kind=2/\(v.n=0\/v.n=1)/\v.s=[])\/(v.kind=3/\v.s=[])\/(v.kind=4/\v.n=0/\v.s.length<=1000/\Uc v.s=true)\/(v.kind=5/\v.n=0/\v.s.length<=1000):=by
 have hl:(v.s.length:Int)<=1000↔v.s.length<=1000:=by omega
 by_cases h1:v.kind=1
 ·by_cases h0:v.n=0<;>simp[Aq,h1,h0]
 by_cases h2:v.kind=2
 ·by_cases h0:v.n=0
  ·simp[Aq,h2,h0]
  ·by_cases h3:v.n=1<;>simp[Aq,h2,h0,h3]
 by_cases h3:v.kind=3
 ·simp[Aq,h3]
 by_cases h4:v.kind=4
 ·by_cases h0:v.n=0
  ·by_cases h5:v.s.length<=1000<;>simp[Aq,h4,h0,h5,hl]
  ·simp[Aq,h4,h0]
 by_cases h5:v.kind=5
 ·by_cases h0:v.n=0<;>simp[Aq,h5,h0,hl]
 simp[Aq,h1,h2,h3,h4,h5]
theorem A1i{R:Type}{rec:Mc->Option R}{kx:Ex->Mc->Option R}{l:List Val}{q:Str}{e:Int}{acc:Str}{i k:Nat}(hl:ln l.length)(hi:i<l.length)(hb:Aij l[i])(ha:acc.length<=9000000)(hs:l[i].s.length<=1000000):Wa (k+9) rec kx (q,e,acc,l,(l.length:Int),(i:Int))=cond (Aq l[i]) (rec (q,e,acc++Mb l[i],l,(l.length:Int),((i+1:Nat):Int))) (kx .ret ([],2,acc,l,(l.length:Int),(i:Int))):=by
 have c1:decide ((i:Int)<(l.length:Int))=true:=Ze1 (by omega);have c2:wr .i64 ((i:Int)+1)=((i+1:Nat):Int):=An hi hl;have c3:decide (acc.length+1<=Ah)=true:=Ze1 (by simp only[Ah];omega);simp only[Wa,c1,Af,As hi,chk,Al (c :=.val) hi,c2,c3];generalize l[i]=v at *;cases hr:Aq v with
 |false =>
  have hc:Ei v=2:=by simp[Ei,hr]
  simp only[hc];rfl
 |true =>
  have hc:Ei v=0:=Ak3.2 hr;have c4:(!decide (Ei v=0))=false:=by rw[hc];rfl
  have c5:∀b:UInt8,decide ((acc++[b]).length+1<=Ah)=true:=λb=>Ze1 (by simp only[Ah,Zh1,List.length_singleton];omega);simp only[c4,Ag,c5,Af];have w1:wr .u8 1=1:=by decide
  have w2:wr .u8 2=2:=by decide
  have w3:wr .u8 3=3:=by decide
  have w4:wr .u8 4=4:=by decide
  have w5:wr .u8 5=5:=by decide
  have w0:wr .u8 0=0:=by decide
  rcases Ed.1 hr with ⟨h,_⟩|⟨h,hn,_⟩|⟨h,_⟩|⟨h,_,hsl,_⟩|⟨h,_,hsl⟩
  ·simp[h,Mb,Gz,w1]
  ·rcases hn with hn|hn<;>simp[h,hn,Mb,Gz,w0,w1,w2]
  ·obtain⟨x,hxe,hx⟩:∃x:Nat,(v.n+9223372036854775808).toNat=x/\Xk .u64 (wr .u64 v.n) 9223372036854775808=(x:Int):=by have:=hb.2.1;refine⟨_,rfl,?_⟩;rw[Bt7 this];simp only[inI] at this;omega
   have h8:=A1f (R:=R) (kx:=λe v=>match v with|(a,d,f,_,_,g,j,m)=>match e with
     |.exit 3=>rec (a,d,f,g,j,(wr .i64 (m+1)))
     |_=>none) (q:=q) (acc:=acc++[3]) (e:=e) (x:=x) (l:=l) (n:=(l.length:Int)) (i:=(i:Int)) (k:=k) (by simp;omega)
   have p1:Mb v=3::Akz x:=by simp[Mb,Gz,h,Ar0,hxe]
   have d2:decide (v.kind=2)=false:=by rw[h];rfl
   have d3:decide (v.kind=3)=true:=by rw[h];rfl
   have d0:UInt8.ofNat (wr .u8 v.kind).toNat=3:=by rw[h,w3];rfl
   simp only[d2,d3,d0,Ag,Af,hx,p1,h8,c2,Zj1,Zb2,Zf2]
  ·have hk:A2z v.s=some (esc v.s++[0,1]):=by simp only[A2z,Ze1 (show v.s.length<=68719476736 by omega),Af]
   have hc1:v.s.count 0<=v.s.length:=List.count_le_length;have hc2:=T2 v.s;have hc3:acc.length+1+((esc v.s).length+2)<=Ah:=by simp only[Ah];omega
   simp[h,Mb,Gz,w4,hk,hc3]
  ·have hk:A2z v.s=some (esc v.s++[0,1]):=by simp only[A2z,Ze1 (show v.s.length<=68719476736 by omega),Af]
   have hc1:v.s.count 0<=v.s.length:=List.count_le_length;have hc2:=T2 v.s;have hc3:acc.length+1+((esc v.s).length+2)<=Ah:=by simp only[Ah];omega
   simp[h,Mb,Gz,w5,hk,hc3]
theorem Ane{R:Type}{kx:Ex->Mc->Option R}{l:List Val}{c1 c2:Option R}{k0:Nat}(hl:ln l.length)(hb:∀v,v∈l->Aij v)(hz:vsz l<=1000000)(h1:∀q i,kx .ret ([],2,q,l,(l.length:Int),i)=c1)(h2:∀q e,kx (.exit 0) (q,e,E4 l,l,(l.length:Int),(l.length:Int))=c2) :
  ∀(k i:Nat) (q:Str) (e:Int),i<=l.length->l.length-i<k->Aj (λrec=>Wa (k0+9) rec kx) k (q,e,E4 (l.take i),l,(l.length:Int),(i:Int))=cond ((l.drop i).all Aq) c2 c1
 |0,i,q,e,_,h=>by omega
 |k+1,i,q,e,hi,h=>by
  rw[Ay];by_cases hlt:i<l.length
  ·have hg:=Bpj hlt;have hel:=Ayb (l.take i);rw[A1i hl hlt (hb _ (List.getElem_mem hlt)) (by omega) (by omega),<-Bc8 hlt,Ane hl hb hz h1 h2 k (i+1) q e (by omega) (by omega),h1,Ak hlt];simp only[Zv1];cases Aq l[i]<;>rfl
  ·have hi:i=l.length:=by omega
   subst hi;simp only[Wa,Zd1 (show ¬((l.length:Nat):Int)<(l.length:Int) by omega),Ag,List.take_length,h2,Zc2];rfl
theorem Brj:FO 45 [.sl .val false] [.sl .byte true,.int .i64] A3v :=.fin 0 Bir λl r hb hx=>⟨l.length+10,by
 simp only[A3v,Bkr] at hx;cases hc:decide (vsz l<=1000000) with
 |false=>rw[hc] at hx;cases hx
 |true =>rw[hc] at hx;have hx:some (cond (l.all Aq) (E4 l,0) ([],2))=some r:=hx;rw[<-hx];simp only[Ana];refine(Ane (c1:=some ([],2)) (c2:=some (E4 l,0)) (k0:=l.length+1) hb.1 hb.2 (of_decide_eq_true hc) (λ_ _=>rfl) (λ_ _=>rfl) (l.length+10) 0 [] 0 (Nat.zero_le _) (by omega)).trans ?_;rw[Zq1];cases l.all Aq<;>rfl⟩
end Go.Proofs.YtcoaaebppfbbnaaGreatDoor
