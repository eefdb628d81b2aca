/- Texts of the proof,one behind the other: Fd,Es,Ix,En,Ep,Ac,Ad,Sc,No,So,Sd,Se,Zf,Zv,Vu,Xu,Vc,Zr,Zi,Sn,Ck. -/
import Derived.Test.YtcoaaebppfbbnaaGreatDoorJ5
set_option linter.all false
namespace Go.Proofs.YtcoaaebppfbbnaaGreatDoor
open Go.Ax
theorem P1:∀(l:List Col) (s:Str) (i:Nat),A7 l s i = -1\/((i:Int)<=A7 l s i/\A7 l s i<(i+l.length:Nat))
 |[],_,_ =>.inl rfl
 |c::l,s,i=>by
  simp[A7];split
  ·right;omega
  ·have:=P1 l s (i+1);omega
theorem N4(l:List Col)(s:Str):B9 l s = -1\/(0<=B9 l s/\B9 l s<(l.length:Int)):=by have:=P1 l s 0;simpa[B9] using this
theorem Be7{l:List Col}{s:Str}(h:¬B9 l s<0):inb (B9 l s) l.length=true:=by have:=N4 l s;simp[inb];omega
def Aha:Sig:=⟨102,[(1,.sl .col false),(4,.int .i64),(5,.int .i64),(12,.sl .expr false),(13,.int .i64),(14,.int .i64)],[(2,.ptr 0 0),(6,.ptr 1 0)],[(0,.one (.sv .expr)),(1,.one (.rw .int 2))],2,0,0,[],[]⟩
abbrev T1:=List Col×Int×Int×List Xpr×Int×Int×Xpr×List Int
def Gs{R:Type}(rf:FT [.sv .expr,.sl .col false] [.int .i64,.int .i64])(rec:T1->Option R)(kx:Ex->T1->Option R)(v:T1):Option R:=match v with
 |(v,v1,v2,v3,v4,v5,w,w1) =>
 cond (decide (v5<v4)) (
  chk (inb v5 v3.length) (
  (rf ((at' .expr v3 v5),v)).bind λ(x,x1) =>
   chk (inb v5 2) (
   cond (!decide (x1=0)) (
    kx .ret (v,0,x1,v3,v4,v5,w,(w1.set (v5:Int).toNat x))) (
    cond (decide (v5=1)) (
    kx (.exit 0) (v,v1,v2,v3,v4,v5,w,(w1.set (v5:Int).toNat x))) (
    rec (v,v1,v2,v3,v4,(wr .i64 (v5+1)),w,(w1.set (v5:Int).toNat x))))))) (
  kx (.exit 0) (v,v1,v2,v3,v4,v5,w,w1))
def Ayz(R:Type)(k:Nat)(rf:FT [.sv .expr,.sl .col false] [.int .i64,.int .i64]):Px R:=pxO [(90,cA rf),(134,cA A08),(135,cA A8a)] [] [(3,Am k Aha (Gs rf))] []
def Jm(k:Nat)(rf:FT [.sv .expr,.sl .col false] [.int .i64,.int .i64])(x:HV [.sv .expr,.sl .col false]):Option (HV [.int .i64,.int .i64]):=match x with
 |(e,cols) =>
 Ak (λrec=>Gs rf rec (λe vz=>match vz with|(v6,v7,v8,_,_,_,a,b)=>match e with
  |.ret =>
  some (v7,v8)
  |.exit 0 =>
  let j2:=λ(q:List Int) =>
   cond (decide (a.kind=1)) (
   some (a.v.kind,0)) (
   cond (decide (a.kind=2)) (
    cond (decide ((B9 v6 a.name)<0)) (
    some (0,150)) (
    chk (inb (B9 v6 a.name) v6.length) (
     some ((at' .col v6 (B9 v6 a.name)).kind,0)))) (
    cond (decide (a.kind=16)) (
    some (2,0)) (
    let j1:=λ(p:Bool) =>
     cond (p) (
     cond ((Gu (at' .int q 0) 2)) (
      cond ((Gu (at' .int q 1) 2)) (
      some (2,0)) (
      some (0,151))) (
      some (0,151))) (
     let j:=λ(p3:Bool) =>
      cond (p3) (
      cond ((Gu (at' .int q 0) 3)) (
       cond ((Gu (at' .int q 1) 3)) (
       some (3,0)) (
       some (0,151))) (
       some (0,151))) (
      cond (decide ((at' .int q 0)=(at' .int q 1))) (
       some (2,0)) (
       cond (decide ((at' .int q 0)=1)) (
       some (2,0)) (
       cond (decide ((at' .int q 1)=1)) (
        some (2,0)) (
        some (0,151)))))
     cond (decide (a.kind=12)) (
      j (decide (a.kind=12))) (
      cond (decide (a.kind=13)) (
      j (decide (a.kind=13))) (
      cond (decide (a.kind=14)) (
       j (decide (a.kind=14))) (
       j (decide (a.kind=15))))))
    cond (decide (a.kind=3)) (
     j1 (decide (a.kind=3))) (
     cond (decide (a.kind=4)) (
     j1 (decide (a.kind=4))) (
     j1 (decide (a.kind=5)))))))
  cond (decide ((a.l.length:Int)=1)) (
   j2 (b.set (1:Int).toNat (at' .int b 0))) (
   j2 b)
  |_=>none)) k (cols,0,0,e.l,(e.l.length:Int),0,e,[0,0])
theorem Bef(k:Nat)(rf:FT [.sv .expr,.sl .col false] [.int .i64,.int .i64])(hrf:FO 90 [.sv .expr,.sl .col false] [.int .i64,.int .i64] rf):FO 90 [.sv .expr,.sl .col false] [.int .i64,.int .i64] (Jm k rf):=fR (px:=Ayz _ k rf) (n:=1) Tryz.func90 rfl (λcx H=>by have h0:Lv cx (Ayz (HV [.int .i64,.int .i64]) k rf):=lv H (c1 H hrf (c1 H A45 (c1 H Bhr Ae))) Aa Ab;have hlkindE_0:=lO H h0 (b:=lp Tryz.f90 0) (k:=k) (n:=0) (s:=Aha) (step:=Gs rf) (λ_ _ _ (_,_,_,_,_,_,_,_)=>by kernel_rfl) Aj;exact⟨h0,(A3 Aj hlkindE_0)⟩) λ(_,_)=>by kernel_rfl
def Gf(e:Xpr)(cols:List Col)(a b:Int):Int×Int :=
 if e.kind=1 then(e.v.kind,0)
 else if e.kind=2 then(if B9 cols e.name<0 then(0,150) else((at' .col cols (B9 cols e.name)).kind,0))
 else if e.kind=16 then(2,0)
 else if e.kind=3\/e.kind=4\/e.kind=5 then(if Gu a 2&&Gu b 2 then(2,0) else(0,151))
 else if e.kind=12\/e.kind=13\/e.kind=14\/e.kind=15 then(if Gu a 3&&Gu b 3 then(3,0) else(0,151))
 else if a=b\/a=1\/b=1 then(2,0) else(0,151)
def Q0(e:Xpr)(cols:List Col):List (Int×Int)->Int×Int
 |[]=>Gf e cols 0 0
 |[(a,f)]=>if f=0 then Gf e cols a a else(0,f)
 |(a,f)::(b,g)::_=>if f=0 then(if g=0 then Gf e cols a b else(0,g)) else(0,f)
mutual
def A4:Xpr->List Col->Int×Int
 |.mk k v nm l,cols=>Q0 (.mk k v nm l) cols (kindL l cols)
def kindL:List Xpr->List Col->List (Int×Int)
 |[],_=>[]
 |x::l,cols=>A4 x cols::kindL l cols
end
theorem H7(e:Xpr)(cols:List Col):A4 e cols=Q0 e cols (kindL e.l cols):=by cases e;simp[A4,Xpr.l]
def At0:FT [.sv .expr,.sl .col false] [.int .i64,.int .i64]:=λx=>some (A4 x.1 x.2)
def A73(a:Xpr)(v6:List Col)(q:List Int):Option (Int×Int) :=
   cond (decide (a.kind=1)) (
   some (a.v.kind,0)) (
   cond (decide (a.kind=2)) (
    cond (decide ((B9 v6 a.name)<0)) (
    some (0,150)) (
    chk (inb (B9 v6 a.name) v6.length) (
     some ((at' .col v6 (B9 v6 a.name)).kind,0)))) (
    cond (decide (a.kind=16)) (
    some (2,0)) (
    let j1:=λ(p:Bool) =>
     cond (p) (
     cond ((Gu (at' .int q 0) 2)) (
      cond ((Gu (at' .int q 1) 2)) (
      some (2,0)) (
      some (0,151))) (
      some (0,151))) (
     let j:=λ(p3:Bool) =>
      cond (p3) (
      cond ((Gu (at' .int q 0) 3)) (
       cond ((Gu (at' .int q 1) 3)) (
       some (3,0)) (
       some (0,151))) (
       some (0,151))) (
      cond (decide ((at' .int q 0)=(at' .int q 1))) (
       some (2,0)) (
       cond (decide ((at' .int q 0)=1)) (
       some (2,0)) (
       cond (decide ((at' .int q 1)=1)) (
        some (2,0)) (
        some (0,151)))))
     cond (decide (a.kind=12)) (
      j (decide (a.kind=12))) (
      cond (decide (a.kind=13)) (
      j (decide (a.kind=13))) (
      cond (decide (a.kind=14)) (
       j (decide (a.kind=14))) (
       j (decide (a.kind=15))))))
    cond (decide (a.kind=3)) (
     j1 (decide (a.kind=3))) (
     cond (decide (a.kind=4)) (
     j1 (decide (a.kind=4))) (
     j1 (decide (a.kind=5)))))))
theorem Ab9(e:Xpr)(cols:List Col)(a b:Int):A73 e cols [a,b]=some (Gf e cols a b):=by
 have ha:at' .int [a,b] 0=a:=rfl;have hb:at' .int [a,b] 1=b:=rfl;simp[A73,Gf,ha,hb];generalize e.kind=k;by_cases h1:k=1
 ·simp[h1]
 by_cases h2:k=2
 ·simp[h2];by_cases hf:B9 cols e.name<0
  ·simp[hf]
  ·rw[Be7 hf];simp[hf,chk]
 by_cases h16:k=16
 ·simp[h16]
 rw[Zd1 h1,Zd1 h2,Zd1 h16,if_neg h1,if_neg h2,if_neg h16];simp;by_cases h3:k=3
 ·grind
 by_cases h4:k=4
 ·grind
 by_cases h5:k=5
 ·grind
 rw[Zd1 h3,Zd1 h4,Zd1 h5,if_neg (by omega)];simp;by_cases h12:k=12
 ·grind
 by_cases h13:k=13
 ·grind
 by_cases h14:k=14
 ·grind
 by_cases h15:k=15
 ·grind
 rw[Zd1 h12,Zd1 h13,Zd1 h14,Zd1 h15,if_neg (by omega)];simp;by_cases c1:a=b
 ·simp[c1]
 by_cases c2:a=1
 ·simp[c2]
 by_cases c3:b=1
 ·simp[c3]
 simp[c1,c2,c3]
def Apb{R:Type}(ga:Int->Option R)(gb:Int->Int->Option R):List (Int×Int)->Option R
 |[]=>gb 0 0
 |[(a,f)]=>if f=0 then gb a 0 else ga f
 |(a,f)::(b,g)::_=>if f=0 then(if g=0 then gb a b else ga g) else ga f
theorem Bav{R:Type}{rf:FT [.sv .expr,.sl .col false] [.int .i64,.int .i64]}{kx:Ex->T1->Option R}{cols:List Col}{e:Xpr}{ga:Int->Option R}{gb:Int->Int->Option R}(hn:ln e.l.length)(hrf:∀x,x∈e.l->rf (x,cols)=some (A4 x cols))(h1:∀f i ks,kx .ret (cols,0,f,e.l,(e.l.length:Int),i,e,ks)=ga f)(h2:∀i a b,kx (.exit 0) (cols,0,0,e.l,(e.l.length:Int),i,e,[a,b])=gb a b)(k:Nat):Ak (λrec=>Gs rf rec kx) (k+3) (cols,0,0,e.l,(e.l.length:Int),0,e,[0,0])=Apb ga gb (kindL e.l cols):=by
 rw[A0];generalize e.l=l at *;match l with
 |[] =>simp;exact h2 0 0 0
 |[x] =>
  simp only[Gs];have e1:at' .expr [x] 0=x:=rfl;rw[e1,hrf x (by simp)];simp only[ kindL,Apb];show cond (!decide ((A4 x cols).2=0)) (kx .ret (cols,0,(A4 x cols).2,[x],1,0,e,[(A4 x cols).1,0])) (Ak (λrec=>Gs rf rec kx) (k+2) (cols,0,0,[x],1,1,e,[(A4 x cols).1,0]))=_;have h1':=λf i ks=>h1 f i ks;have h2':=λi a b=>h2 i a b;have hl:(([x]:List Xpr).length:Int)=1:=rfl;rw[hl] at h1' h2';rw[h1',A0];have:Gs rf (Ak (λrec=>Gs rf rec kx) (k+1)) kx (cols,0,0,[x],1,1,e,[(A4 x cols).1,0])=kx (.exit 0) (cols,0,0,[x],1,1,e,[(A4 x cols).1,0]):=rfl;rw[this,h2'];by_cases hf:(A4 x cols).2=0
  ·simp
  ·simp
 |x::y::t =>
  simp only[Gs];have hlen:(0:Int)<((x::y::t).length:Int):=by simp;omega
  have hlen1:(1:Int)<((x::y::t).length:Int):=by simp;omega
  have e1:at' .expr (x::y::t) 0=x:=rfl;have e2:at' .expr (x::y::t) 1=y:=rfl;rw[Ze1 hlen,e1,hrf x (by simp)];have i1:inb 0 (x::y::t).length=true:=Ao (i:=0) (by simp);have i2:inb 1 (x::y::t).length=true:=Ao (i:=1) (by simp);rw[i1];simp only[ kindL,Apb];show cond (!decide ((A4 x cols).2=0)) (kx .ret (cols,0,(A4 x cols).2,x::y::t,_,0,e,[(A4 x cols).1,0])) (Ak (λrec=>Gs rf rec kx) (k+2) (cols,0,0,x::y::t,((x::y::t).length:Int),1,e,[(A4 x cols).1,0]))=_;rw[h1,A0];simp only[Gs];rw[Ze1 hlen1,e2,hrf y (by simp),i2];simp only[ chk];show cond (!decide ((A4 x cols).2=0)) (ga (A4 x cols).2) (cond (!decide ((A4 y cols).2=0)) (kx .ret (cols,0,(A4 y cols).2,x::y::t,_,1,e,_)) (kx (.exit 0) (cols,0,0,x::y::t,_,1,e,[(A4 x cols).1,(A4 y cols).1])))=_;rw[h1,h2];by_cases hf:(A4 x cols).2=0
  ·grind
  ·simp[hf]
theorem Am2(k:Nat):∀(n:Nat) (e:Xpr) (cols:List Col),BdExpr e->Aw e<=n->Ak (Jm (k+3)) n (e,cols)=some (A4 e cols)
 |0,e,cols,_,h=>by have:=Cn e;omega
 |n+1,e,cols,hb,h=>by
  obtain⟨hb4,hb5⟩:=Adu hb;rw[Ci] at h;have hrf:∀x,x∈e.l->Ak (Jm (k+3)) n (x,cols)=some (A4 x cols):=λx hx=>Am2 k n x cols (hb5 x hx) (by have:=A9 hx;omega);rw[A0,H7];simp[Jm];refine(Bav (ga:=λf=>some (0,f)) (gb:=λa b=>cond (decide ((e.l.length:Int)=1)) (A73 e cols [a,a]) (A73 e cols [a,b])) hb4 hrf ?_ ?_ k).trans ?_
  ·exactλ_ _ _=>rfl
  ·exactλ_ _ _=>rfl
  ·generalize e.l=l;match l with
   |[]=>simp[kindL,Apb,Q0,Ab9]
   |[x] =>simp[kindL,Apb,Q0,Ab9];split<;>simp
   |x::y::t =>
    simp only[kindL,Apb,Q0,Ab9];have:¬(((x::y::t).length:Int)=1):=by simp;omega
    rw[Zd1 this];split
    ·split<;>rfl
    ·rfl
theorem Az6:FO 90 [.sv .expr,.sl .col false] [.int .i64,.int .i64] At0:=by refine .fin (ι:=Nat) 0 (F:=λn=>Ak (Jm 3) n) (λn=>FnOk.rec' (Sx.enters_of Tryz.func90 rfl rfl) (λrf hrf=>Bef 3 rf hrf) n) λ(e,cols) r hb hx=>⟨Aw e,?_⟩;exact(Am2 0 (Aw e) e cols hb.1 (Zn1 _)).trans hx
def Bl6(R:Type):Px R:=pxO [(89,cA Asj),(90,cA At0)] [] [] []
def Vi(x:HV [.sv .expr,.sl .col false]):Option (HV [.int .i64,.int .i64]):=match x with
 |(e,cols) =>
 cond (!decide ((Dk e)=0)) (
  some (0,(Dk e))) (
  some ((A4 e cols).1,(A4 e cols).2))
theorem A9q:FO 180 [.sv .expr,.sl .col false] [.int .i64,.int .i64] (Vi):=fR (px:=Bl6 _) (n:=0) Tryz.func180 rfl (λ_ H=>⟨lv H (c1 H Axp (c1 H Az6 Ae)) Aa Ab,Aj⟩) λ(_,_)=>by kernel_rfl
def D5(e:Xpr)(cols:List Col):Int×Int :=
 cond (!decide ((Dk e)=0)) (
  (0,(Dk e))) (
  ((A4 e cols).1,(A4 e cols).2))
theorem Bc9(x:HV [.sv .expr,.sl .col false]):Vi x=some (D5 x.1 x.2):=by
 first
  |exact rfl
  |simp only[Vi,D5,As]
def A5l:FT [.sv .expr,.sl .col false] [.int .i64,.int .i64]:=λx=>some (D5 x.1 x.2)
theorem Bf0:FO 180 [.sv .expr,.sl .col false] [.int .i64,.int .i64] A5l :=.fin0 A9q λx _ _ hx=>(Bc9 x).trans hx
def Agp:Sig:=⟨133,[(1,.sl .col false),(2,.sl .val false),(7,.int .i64),(8,.sl .val true),(9,.bool),(15,.sl .expr false),(16,.int .i64),(17,.int .i64)],[(3,.ptr 0 0),(6,.ptr 1 0)],[(0,.one (.sv .expr)),(1,.one (.sv .val))],2,0,0,[],[]⟩
abbrev R1:=List Col×List Val×Int×List Val×Bool×List Xpr×Int×Int×Xpr×Val
def Ss{R:Type}(rf:FT [.sv .expr,.sl .col false,.sl .val false] [.sv .val,.int .i64])(rec:R1->Option R)(kx:Ex->R1->Option R)(v:R1):Option R:=match v with
 |(v,v1,v2,v3,v4,v5,v6,v7,w,w1) =>
 cond (decide (v7<v6)) (
  chk (inb v7 v5.length) (
  (rf ((at' .expr v5 v7),v,v1)).bind λ(x,x1) =>
   cond (!decide (x1=0)) (
   kx .ret (v,v1,x1,v3,v4,v5,v6,v7,w,(Val.mk 0 0 []))) (
   chk (decide (v3.length+1<=Af)) (
    cond (v4) (
    rec (v,v1,v2,(v3++[x]),true,v5,v6,(wr .i64 (v7+1)),w,w1)) (
    rec (v,v1,v2,(v3++[x]),decide (x.kind=1),v5,v6,(wr .i64 (v7+1)),w,w1)))))) (
  kx (.exit 0) (v,v1,v2,v3,v4,v5,v6,v7,w,w1))
def Ay1(R:Type)(k:Nat)(rf:FT [.sv .expr,.sl .col false,.sl .val false] [.sv .val,.int .i64]):Px R:=pxO [(91,cA rf),(134,cA A08),(136,cA Ats),(137,cA Ar6),(139,cA Ays)] [(138,qA Bgk),(56,qA A2w)] [(4,Am k Agp (Ss rf))] []
def Jw(k:Nat)(rf:FT [.sv .expr,.sl .col false,.sl .val false] [.sv .val,.int .i64])(x:HV [.sv .expr,.sl .col false,.sl .val false]):Option (HV [.sv .val,.int .i64]):=match x with
 |(e,cols,row) =>
 Ak (λrec=>Ss rf rec (λe vz=>match vz with|(v8,v9,d,b,c,_,_,_,a,f)=>match e with
  |.ret =>
  some (f,d)
  |.exit 0 =>
  cond (decide (a.kind=1)) (
   some (a.v,0)) (
   cond (decide (a.kind=2)) (
   chk (inb (B9 v8 a.name) v9.length) (
    some ((at' .val v9 (B9 v8 a.name)),0))) (
   cond (decide (a.kind=16)) (
    some ((Dx c),0)) (
    let j:=λ(p5:Bool) =>
    cond (p5) (
     some ((Qm a.kind b),0)) (
     cond (c) (
     some ((Val.mk 1 0 []),0)) (
     cond (decide (a.kind=3)) (
      chk (inb 0 b.length) (
      some ((Dx (decide ((at' .val b 0).n=0))),0))) (
      cond (decide (a.kind=15)) (
      chk (inb 0 b.length) (
       some ((Fl a.kind ((at' .val b 0).n) 0).1,(Fl a.kind ((at' .val b 0).n) 0).2))) (
      cond (decide (12<=a.kind)) (
       chk (inb 0 b.length) (
       chk (inb 1 b.length) (
        some ((Fl a.kind ((at' .val b 0).n) ((at' .val b 1).n)).1,(Fl a.kind ((at' .val b 0).n) ((at' .val b 1).n)).2)))) (
       chk (inb 0 b.length) (
       chk (inb 1 b.length) (
        some ((Dx (Q8 a.kind (Nw (at' .val b 0) (at' .val b 1)))),0))))))))
    cond (decide (a.kind=4)) (
    j true) (
    j (decide (a.kind=5))))))
  |_=>none)) k (cols,row,0,[],false,e.l,(e.l.length:Int),0,e,(Val.mk 0 0 []))
theorem A9h(k:Nat)(rf:FT [.sv .expr,.sl .col false,.sl .val false] [.sv .val,.int .i64])(hrf:FO 91 [.sv .expr,.sl .col false,.sl .val false] [.sv .val,.int .i64] rf):FO 91 [.sv .expr,.sl .col false,.sl .val false] [.sv .val,.int .i64] (Jw k rf):=fR (px:=Ay1 _ k rf) (n:=1) Tryz.func91 rfl (λcx H=>by have h0:Lv cx (Ay1 (HV [.sv .val,.int .i64]) k rf):=lv H (c1 H hrf (c1 H A45 (c1 H Ax6 (c1 H Bjm (c1 H Baj Ae))))) (q1 H Bo6 (q1 H A5v Aa)) Ab;have hlevalE_0:=lO H h0 (b:=lp Tryz.f91 0) (k:=k) (n:=0) (s:=Agp) (step:=Ss rf) (λ_ _ _ (_,_,_,_,_,_,_,_,_,_)=>by kernel_rfl) Aj;exact⟨h0,(A3 Aj hlevalE_0)⟩) λ(_,_,_)=>by kernel_rfl
def Po(a:Xpr)(v8:List Col)(v9:List Val)(b:List Val)(c:Bool):Option (Val×Int) :=
  cond (decide (a.kind=1)) (
   some (a.v,0)) (
   cond (decide (a.kind=2)) (
   chk (inb (B9 v8 a.name) v9.length) (
    some ((at' .val v9 (B9 v8 a.name)),0))) (
   cond (decide (a.kind=16)) (
    some ((Dx c),0)) (
    let j:=λ(p3:Bool) =>
    cond (p3) (
     some ((Qm a.kind b),0)) (
     cond (c) (
     some ((Val.mk 1 0 []),0)) (
     cond (decide (a.kind=3)) (
      chk (inb 0 b.length) (
      some ((Dx (decide ((at' .val b 0).n=0))),0))) (
      cond (decide (a.kind=15)) (
      chk (inb 0 b.length) (
       some (((Fl a.kind ((at' .val b 0).n) 0).1),(Fl a.kind ((at' .val b 0).n) 0).2))) (
      cond (decide (12<=a.kind)) (
       chk (inb 0 b.length) (
       chk (inb 1 b.length) (
        some (((Fl a.kind ((at' .val b 0).n) ((at' .val b 1).n)).1),(Fl a.kind ((at' .val b 0).n) ((at' .val b 1).n)).2)))) (
       chk (inb 0 b.length) (
       chk (inb 1 b.length) (
        some ((Dx (Q8 a.kind (Nw (at' .val b 0) (at' .val b 1)))),0))))))))
    cond (decide (a.kind=4)) (
    j true) (
    j (decide (a.kind=5))))))
mutual
def H9:Xpr->List Col->List Val->Option (Val×Int)
 |.mk k v nm l,cols,row=>match evalL l cols row with|some (f,vs)=>chk (decide (l.length<=Af)) (if f=0 then Po (.mk k v nm l) cols row vs (vs.any Dt) else some (⟨0,0,[]⟩,f))|none=>none
def evalL:List Xpr->List Col->List Val->Option (Int×List Val)
 |[],_,_=>some (0,[])
 |x::l,cols,row=>match H9 x cols row with
  |some (v,f)=>if f=0 then(match evalL l cols row with
   |some (g,vs)=>some (g,v::vs)
   |none=>none) else some (f,[])
  |none=>none
end
theorem Xg(e:Xpr)(cols:List Col)(row:List Val):H9 e cols row=match evalL e.l cols row with
  |some (f,vs)=>chk (decide (e.l.length<=Af)) (if f=0 then Po e cols row vs (vs.any Dt) else some (⟨0,0,[]⟩,f))
  |none=>none:=by
 cases e;simp[H9];rfl
def A6q:FT [.sv .expr,.sl .col false,.sl .val false] [.sv .val,.int .i64]:=λx=>H9 x.1 x.2.1 x.2.2
theorem Aqi{R:Type}{rf:FT [.sv .expr,.sl .col false,.sl .val false] [.sv .val,.int .i64]}{kx:Ex->R1->Option R}{cols:List Col}{row:List Val}{e:Xpr}{ga:Int->Option R}{gb:List Val->Bool->Option R}(hn:ln e.l.length)(hm:e.l.length<=Af)(hrf:∀x,x∈e.l->∀r,H9 x cols row=some r->rf (x,cols,row)=some r)(h1:∀f vs u j,kx .ret (cols,row,f,vs,u,e.l,(e.l.length:Int),j,e,⟨0,0,[]⟩)=ga f)(h2:∀vs u j z,kx (.exit 0) (cols,row,0,vs,u,e.l,(e.l.length:Int),j,e,z)=gb vs u):∀(k i:Nat) (acc:List Val) (u:Bool) z f vs,acc.length=i->i<=e.l.length->e.l.length-i<k->evalL (e.l.drop i) cols row=some (f,vs)->Ak (λrec=>Ss rf rec kx) k (cols,row,0,acc,u,e.l,(e.l.length:Int),(i:Int),e,z)=if f=0 then gb (acc++vs) (u||vs.any Dt) else ga f
 |0,i,_,_,_,_,_,_,_,h,_=>by omega
 |k+1,i,acc,u,z,f,vs,ha,hi,h,hev=>by
  rw[A0];by_cases hl:i<e.l.length
  ·rw[Ah hl] at hev;simp[evalL] at hev;split at hev
   ·rename_i v f' hx;simp only[Ss,Al (c :=.expr) hl,Ao hl,(hrf _ (List.getElem_mem hl) _ hx),Zc1,chk,Bool.cond_decide];rw[if_pos (by omega)];split at hev
    ·rename_i hf;subst hf;split at hev
     ·rename_i g vs' hrest;simp[ Zp1] at hev;obtain⟨rfl,rfl⟩:=hev;rw[if_pos (by simp at *;omega)];simp only[ An hl hn,(λu=>Aqi hn hm hrf h1 h2 k (i+1) (acc++[v]) u z g vs' (by simp[ha]) (by omega) (by omega) hrest),List.any_cons];cases u<;>simp[Dt]
     ·cases hev
    ·rename_i hf;simp[ Zp1] at hev;obtain⟨rfl,rfl⟩:=hev;rw[Zd1 hf,if_neg hf];simp[ h1]
   ·cases hev
  ·rw[Zk1 (by omega)] at hev;simp[evalL,Zp1] at hev;obtain⟨rfl,rfl⟩:=hev;simp only[Ss,h2,Bool.cond_decide];rw[if_neg (by omega)];simp
theorem Aqe(k:Nat):∀(n:Nat) (e:Xpr) (cols:List Col) (row:List Val) r,BdExpr e->Aw e<=n->Aw e<=k->H9 e cols row=some r->Ak (Jw k) n (e,cols,row)=some r
 |0,e,_,_,_,_,h,_,_=>by have:=Cn e;omega
 |n+1,e,cols,row,r,hb,h,hk,he=>by
  obtain⟨hb4,hb5⟩:=Adu hb;rw[Ci] at h hk;have hl:=F0 e.l;have hrf:∀x,x∈e.l->∀r,H9 x cols row=some r->Ak (Jw k) n (x,cols,row)=some r:=λx hx r hr=>Aqe k n x cols row r (hb5 x hx) (by have:=A9 hx;omega) (by have:=A9 hx;omega) hr;rw[A0];simp[Jw];rw[Xg] at he;split at he
  ·rename_i f vs hev;obtain⟨hc,he⟩:=A1 he;simp at hc;refine(Aqi (ga:=λf=>some (⟨0,0,[]⟩,f)) (gb:=λvs u=>Po e cols row vs u) hb4 hc hrf ?_ ?_ k 0 [] false _ f vs rfl (Nat.zero_le _) (by omega) (by simpa using hev)).trans ?_
   ·exactλ_ _ _ _=>rfl
   ·exactλ_ _ _ _=>rfl
   ·simpa using he
  ·cases he
theorem Bhs:FO 91 [.sv .expr,.sl .col false,.sl .val false] [.sv .val,.int .i64] A6q:=by refine .fin (ι:=Nat) 0 (F:=λn=>Ak (Jw n) n) (λn=>FnOk.rec' (Sx.enters_of Tryz.func91 rfl rfl) (λrf hrf=>A9h n rf hrf) n) λ(e,cols,row) r hb hx=>⟨Aw e,?_⟩;exact Aqe (Aw e) (Aw e) e cols row r hb.1 (Zn1 _) (Zn1 _) hx
mutual
def F9:Xpr->Xpr->Bool
 |.mk k v n l,.mk k' v' n' l'=>decide (k=k')&&decide (v=v')&&decide (n=n')&&xsames l l'
def xsames:List Xpr->List Xpr->Bool
 |[],[]=>true
 |x::l,y::m=>F9 x y&&xsames l m
 |_,_=>false
end
mutual
theorem Abh:∀a b:Xpr,F9 a b=true↔a=b
 |.mk k v n l,.mk k' v' n' l'=>by
  simp only[F9,Zb1,Zg1,xsames_iff l l',Xpr.mk.injEq];constructor
  ·rintro⟨⟨⟨h1,h2⟩,h3⟩,h4⟩;exact⟨h1,h2,h3,h4⟩
  ·rintro⟨h1,h2,h3,h4⟩;exact⟨⟨⟨h1,h2⟩,h3⟩,h4⟩
theorem xsames_iff:∀a b:List Xpr,xsames a b=true↔a=b
 |[],[]=>by simp[xsames]
 |x::l,y::m=>by simp only[xsames,Zb1,Abh x y,xsames_iff l m,Ze2]
 |[],_::_=>by simp[xsames]
 |_::_,[]=>by simp[xsames]
end
instance:DecidableEq Xpr:=λa b=>decidable_of_iff (F9 a b=true) (Abh a b)
theorem Ho(a b:Xpr):F9 a b=decide (a=b):=by rw[Bool.eq_iff_iff,Abh,Zg1]
theorem Alu{a b:List Xpr}(h:xsames a b=true):a.length=b.length:=by rw[(xsames_iff a b).1 h]
theorem Axc(a b:Xpr):F9 a b=(decide (a.kind=b.kind)&&decide (a.v=b.v)&&decide (a.name=b.name)&&xsames a.l b.l):=by cases a;cases b;simp[F9];rfl
def Aih:Sig:=⟨32,[(1,.sl .expr false),(6,.bool),(15,.sl .expr false),(16,.int .i64),(17,.int .i64)],[(2,.fn 251 [])],[],40,40,200,[],[]⟩
abbrev S5:=List Xpr×Bool×List Xpr×Int×Int
def Te{R:Type}(rf:FT [.sv .expr,.sv .expr] [.bool])(rec:S5->Option R)(kx:Ex->S5->Option R)(v:S5):Option R:=match v with
 |(v,v1,v2,v3,v4) =>
 cond (decide (v4<v3)) (
  chk (inb v4 v2.length) (
  chk (inb v4 v.length) (
   (rf ((at' .expr v2 v4),(at' .expr v v4))).bind λx =>
   cond (!x) (
    kx .ret (v,false,v2,v3,v4)) (
    rec (v,v1,v2,v3,(wr .i64 (v4+1))))))) (
  kx (.exit 0) (v,v1,v2,v3,v4))
def Ahn(R:Type)(k:Nat)(rf:FT [.sv .expr,.sv .expr] [.bool]):Px R:=pxO [(251,cA rf)] [] [(4,Am k Aih (Te rf))] []
noncomputable def Av4(R:Type)(k:Nat)(rf:FT [.sv .expr,.sv .expr] [.bool]):Px R:=pxO [(255,Bi 40 200 (Ahn R k rf) Tryz.f255)] [] [] []
def Hd(k:Nat)(rf:FT [.sv .expr,.sv .expr] [.bool])(x:HV [.sv .expr,.sv .expr]):Option (HV [.bool]):=match x with
 |(a,b) =>
 let j1:=λ(p:Bool) =>
  let j:=λ(p1:Bool) =>
  cond (p1) (
   cond (!decide ((a.l.length:Int)=(b.l.length:Int))) (
   some false) (
   Ak (λrec=>Te rf rec (λe vz=>match vz with|(_,v6,_,_,_)=>match e with
    |.ret =>
    some v6
    |.exit 0 =>
    some true
    |_=>none)) k (b.l,false,a.l,(a.l.length:Int),0))) (
   some false)
  cond (p) (
  j (decide (a.name=b.name))) (
  j false)
 cond (decide (a.kind=b.kind)) (
  j1 (decide (a.v=b.v))) (
  j1 false)
theorem Bed(k:Nat)(rf:FT [.sv .expr,.sv .expr] [.bool])(hrf:FO 251 [.sv .expr,.sv .expr] [.bool] rf):FO 251 [.sv .expr,.sv .expr] [.bool] (Hd k rf):=fR (px:=Av4 _ k rf) (n:=0) Tryz.func251 rfl (λcx H=>by have h1:Lv cx (Ahn (HV [.bool]) k rf):=lv H (c1 H hrf Ae) Aa Ab;have hlasame_0:=lO H h1 (b:=lp Tryz.f255 0) (k:=k) (n:=0) (s:=Aih) (step:=Te rf) (λ_ _ _ (_,_,_,_,_)=>by kernel_rfl) Aj;have h0:Lv cx (Av4 (HV [.bool]) k rf):=lv H (A2 (cR H h1 Tryz.func255 rfl (n:=1) ((A3 Aj hlasame_0))) Ae) Aa Ab;exact⟨h0,Aj⟩) λ(_,_)=>by kernel_rfl
def Pu(a b:Xpr):Bool:=F9 a b
def Tg:FT [.sv .expr,.sv .expr] [.bool]:=λx=>some (Pu x.1 x.2)
theorem A4f{R:Type}{rf:FT [.sv .expr,.sv .expr] [.bool]}{kx:Ex->S5->Option R}{l m:List Xpr}{c:Bool->Option R}(hn:ln l.length)(hm:l.length=m.length)(hrf:∀x,x∈l->∀y,y∈m->rf (x,y)=some (F9 x y))
  (h1:∀i,kx .ret (m,false,l,(l.length:Int),i)=c false) (h2:∀q i,kx (.exit 0) (m,q,l,(l.length:Int),i)=c true) (k:Nat) (hk:l.length<k):Ak (λrec=>Te rf rec kx) k (m,false,l,(l.length:Int),0)=c (xsames l m):=by
 refine(Ay l.length (λi=>(m,false,l,(l.length:Int),(i:Int))) (λi=>c (xsames (l.drop i) (m.drop i))) (λi hi rec hr =>?_) (λrec =>?_) k 0 (Nat.zero_le _) (by omega)).trans (by rw[Zq1,Zq1])
 ·have hi2:i<m.length:=by omega
  simp only[Te,Br hi,Ao hi,Ao hi2,Al (c :=.expr) hi,Al (c :=.expr) hi2,hrf _ (List.getElem_mem hi) _ (List.getElem_mem hi2),An hi hn,hr,h1,Ah hi,Ah hi2,xsames];cases F9 l[i] m[i]<;>rfl
 ·simp only[Te,Bu,h2];rw[Zk1 (Zn1 _),Zk1 (by omega)];rfl
theorem Ane(k:Nat):∀(n:Nat) (a b:Xpr),BdExpr a->BdExpr b->Aw a<=n->Aw a<=k->Ak (Hd k) n (a,b)=some (F9 a b)
 |0,a,b,_,_,h,_=>by have:=Cn a;omega
 |n+1,a,b,ha,hb,h,hk=>by
  obtain⟨hb4,hb5⟩:=Adu ha;obtain⟨hc4,hc5⟩:=Adu hb;rw[Ci] at h hk;have hl:=F0 a.l;have hrf:∀x,x∈a.l->∀y,y∈b.l->Ak (Hd k) n (x,y)=some (F9 x y):=λx hx y hy=>Ane k n x y (hb5 x hx) (hc5 y hy) (by have:=A9 hx;omega) (by have:=A9 hx;omega);rw[A0,Axc];simp only[Hd];by_cases hlen:a.l.length=b.l.length
  ·have hloop:=A4f (R:=Bool) (rf:=Ak (Hd k) n) (l:=a.l) (m:=b.l) (c:=some) (kx:=λe v=>match v with
    |(_,v6,_,_,_)=>match e with
     |.ret=>some v6
     |.exit 0=>some true
     |_=>none) hb4 hlen hrf (λ_=>rfl) (λ_ _=>rfl) k (by omega)
   rw[hloop,Ze1 (show(a.l.length:Int)=(b.l.length:Int) by omega)];cases decide (a.kind=b.kind)<;>cases decide (a.v=b.v)<;>cases decide (a.name=b.name)<;>cases xsames a.l b.l<;>rfl
  ·have hno:xsames a.l b.l=false:=by cases hs:xsames a.l b.l with|false=>rfl|true=>exact absurd (Alu hs) hlen
   rw[hno,Zd1 (show ¬(a.l.length:Int)=(b.l.length:Int) by omega)];cases decide (a.kind=b.kind)<;>cases decide (a.v=b.v)<;>cases decide (a.name=b.name)<;>rfl
theorem Qu:FO 251 [.sv .expr,.sv .expr] [.bool] Tg:=by refine .fin (ι:=Nat) 0 (F:=λn=>Ak (Hd n) n) (λn=>FnOk.rec' (Sx.enters_of Tryz.func251 rfl rfl) (λrf hrf=>Bed n rf hrf) n) λ(a,b) r hb hx=>⟨Aw a,?_⟩;exact(Ane (Aw a) (Aw a) a b hb.1 hb.2 (Zn1 _) (Zn1 _)).trans hx
def Agq:Sig:=⟨53,[(4,.bool),(5,.int .i64)],[(2,.ptr 0 0),(3,.ptr 1 0)],[(0,.one (.sv .expr)),(1,.one (.sv .expr))],2,0,0,[],[]⟩
abbrev Sp:=Bool×Int×Xpr×Xpr
def Tn{R:Type}(rf:FT [.sv .expr,.sv .expr] [.bool])(rec:Sp->Option R)(kx:Ex->Sp->Option R)(v:Sp):Option R:=match v with
 |(v,v1,w,w1) =>
 cond (decide (v1<(w.l.length:Int))) (
  chk (inb v1 w.l.length) (
  chk (inb v1 w1.l.length) (
   (rf ((at' .expr w.l v1),(at' .expr w1.l v1))).bind λx =>
   cond (!x) (
    kx .ret (false,v1,w,w1)) (
    rec (v,(wr .i64 (v1+1)),w,w1))))) (
  kx (.exit 0) (v,v1,w,w1))
def Ax5(R:Type)(k:Nat)(rf:FT [.sv .expr,.sv .expr] [.bool]):Px R:=pxO [(165,cA rf)] [] [(4,Am k Agq (Tn rf))] []
def Hu(k:Nat)(rf:FT [.sv .expr,.sv .expr] [.bool])(x:HV [.sv .expr,.sv .expr]):Option (HV [.bool]):=match x with
 |(a,b) =>
 let j:=λ(p:Bool) =>
  cond (p) (
  some false) (
  cond (!decide (a.name=b.name)) (
   some false) (
   cond (!decide ((a.l.length:Int)=(b.l.length:Int))) (
   some false) (
   Ak (λrec=>Tn rf rec (λe vz=>match vz with|(v2,_,_,_)=>match e with
    |.ret =>
    some v2
    |.exit 0 =>
    some true
    |_=>none)) k (false,0,a,b))))
 cond (!decide (a.kind=b.kind)) (
  j true) (
  j (!decide (a.v=b.v)))
theorem Bd8(k:Nat)(rf:FT [.sv .expr,.sv .expr] [.bool])(hrf:FO 165 [.sv .expr,.sv .expr] [.bool] rf):FO 165 [.sv .expr,.sv .expr] [.bool] (Hu k rf):=fR (px:=Ax5 _ k rf) (n:=1) Tryz.func165 rfl (λcx H=>by have h0:Lv cx (Ax5 (HV [.bool]) k rf):=lv H (c1 H hrf Ae) Aa Ab;have hlrsame_0:=lO H h0 (b:=lp Tryz.f165 0) (k:=k) (n:=0) (s:=Agq) (step:=Tn rf) (λ_ _ _ (_,_,_,_)=>by kernel_rfl) Aj;exact⟨h0,(A3 Aj hlrsame_0)⟩) λ(_,_)=>by kernel_rfl
def Anr(a b:Xpr):Bool:=F9 a b
def Aua:FT [.sv .expr,.sv .expr] [.bool]:=λx=>some (Anr x.1 x.2)
theorem A1b{R:Type}{rf:FT [.sv .expr,.sv .expr] [.bool]}{kx:Ex->Sp->Option R}{a b:Xpr}{c:Bool->Option R}(hn:ln a.l.length)(hm:a.l.length=b.l.length)(hrf:∀x,x∈a.l->∀y,y∈b.l->rf (x,y)=some (F9 x y))
  (h1:∀i,kx .ret (false,i,a,b)=c false) (h2:∀q i,kx (.exit 0) (q,i,a,b)=c true) (k:Nat) (hk:a.l.length<k):Ak (λrec=>Tn rf rec kx) k (false,0,a,b)=c (xsames a.l b.l):=by
 refine(Ay a.l.length (λi=>(false,(i:Int),a,b)) (λi=>c (xsames (a.l.drop i) (b.l.drop i))) (λi hi rec hr =>?_) (λrec =>?_) k 0 (Nat.zero_le _) (by omega)).trans (by rw[Zq1,Zq1])
 ·have hi2:i<b.l.length:=by omega
  simp only[Tn,Br hi,Ao hi,Ao hi2,Al (c :=.expr) hi,Al (c :=.expr) hi2,hrf _ (List.getElem_mem hi) _ (List.getElem_mem hi2),An hi hn,hr,h1,Ah hi,Ah hi2,xsames];cases F9 a.l[i] b.l[i]<;>rfl
 ·simp only[Tn,Bu,h2];rw[Zk1 (Zn1 _),Zk1 (by omega)];rfl
theorem Anf(k:Nat):∀(n:Nat) (a b:Xpr),BdExpr a->BdExpr b->Aw a<=n->Aw a<=k->Ak (Hu k) n (a,b)=some (F9 a b)
 |0,a,b,_,_,h,_=>by have:=Cn a;omega
 |n+1,a,b,ha,hb,h,hk=>by
  obtain⟨hb4,hb5⟩:=Adu ha;obtain⟨hc4,hc5⟩:=Adu hb;rw[Ci] at h hk;have hl:=F0 a.l;have hrf:∀x,x∈a.l->∀y,y∈b.l->Ak (Hu k) n (x,y)=some (F9 x y):=λx hx y hy=>Anf k n x y (hb5 x hx) (hc5 y hy) (by have:=A9 hx;omega) (by have:=A9 hx;omega);rw[A0,Axc];simp only[Hu];by_cases hlen:a.l.length=b.l.length
  ·have hloop:=A1b (R:=Bool) (rf:=Ak (Hu k) n) (a:=a) (b:=b) (c:=some) (kx:=λe v=>match v with
    |(v2,_,_,_)=>match e with
     |.ret=>some v2
     |.exit 0=>some true
     |_=>none) hb4 hlen hrf (λ_=>rfl) (λ_ _=>rfl) k (by omega)
   rw[hloop,Ze1 (show(a.l.length:Int)=(b.l.length:Int) by omega)];cases decide (a.kind=b.kind)<;>cases decide (a.v=b.v)<;>cases decide (a.name=b.name)<;>cases xsames a.l b.l<;>rfl
  ·have hno:xsames a.l b.l=false:=by cases hs:xsames a.l b.l with|false=>rfl|true=>exact absurd (Alu hs) hlen
   rw[hno,Zd1 (show ¬(a.l.length:Int)=(b.l.length:Int) by omega)];cases decide (a.kind=b.kind)<;>cases decide (a.v=b.v)<;>cases decide (a.name=b.name)<;>rfl
theorem Azn:FO 165 [.sv .expr,.sv .expr] [.bool] Aua:=by refine .fin (ι:=Nat) 0 (F:=λn=>Ak (Hu n) n) (λn=>FnOk.rec' (Sx.enters_of Tryz.func165 rfl rfl) (λrf hrf=>Bd8 n rf hrf) n) λ(a,b) r hb hx=>⟨Aw a,?_⟩;exact(Anf (Aw a) (Aw a) a b hb.1 hb.2 (Zn1 _) (Zn1 _)).trans hx
def Aox:Sig:=⟨19,[(0,.sl .str false),(1,.str),(4,.int .i64),(7,.int .i64),(8,.int .i64)],[],[],0,0,0,[],[]⟩
abbrev Y3:=List Str×Str×Int×Int×Int
def Abd{R:Type}(rec:Y3->Option R)(kx:Ex->Y3->Option R)(v:Y3):Option R:=match v with
 |(v,v1,v2,v3,v4) =>
 cond (decide (v4<v3)) (
  chk (inb v4 v.length) (
  cond (decide (v1=(at' .str v v4))) (
   kx .ret (v,v1,v4,v3,v4)) (
   rec (v,v1,v2,v3,(wr .i64 (v4+1)))))) (
  kx (.exit 0) (v,v1,v2,v3,v4))
def A6a(R:Type)(k:Nat):Px R:=pxO [] [] [(2,Am k Aox (Abd))] []
def Apd(k:Nat)(x:HV [.sl .str false,.str]):Option (HV [.int .i64]):=match x with
 |(l,s) =>
 Ak (λrec=>Abd rec (λe vz=>match vz with|(_,_,v7,_,_)=>match e with
  |.ret =>
  some v7
  |.exit 0 =>
  some (-1)
  |_=>none)) k (l,s,0,(l.length:Int),0)
theorem Blc(k:Nat):FO 88 [.sl .str false,.str] [.int .i64] (Apd k):=fR (px:=A6a _ k) (n:=1) Tryz.func88 rfl (λcx H=>by have h0:Lv cx (A6a (HV [.int .i64]) k):=lv H Ae Aa Ab;have hlsidx_0:=lO H h0 (b:=lp Tryz.f88 0) (k:=k) (n:=0) (s:=Aox) (step:=Abd) (λ_ _ _ (_,_,_,_,_)=>by kernel_rfl) Aj;exact⟨h0,(A3 Aj hlsidx_0)⟩) λ(_,_)=>by kernel_rfl
def Bsq(l:List Str)(s:Str):Int:=Lp.idx s l 0
def A0x:FT [.sl .str false,.str] [.int .i64]:=λx=>some (Bsq x.1 x.2)
theorem Ao4{R:Type}{kx:Ex->Y3->Option R}{l:List Str}{s:Str}{c:Int->Option R}(hl:ln l.length)(h1:∀(r:Int) (i:Int),kx .ret (l,s,r,(l.length:Int),i)=c r)(h2:∀q:Int,kx (.exit 0) (l,s,q,(l.length:Int),(l.length:Int))=c (-1)) :
  ∀(k i:Nat) (q:Int),i<=l.length->l.length-i<k->Ak (λrec=>Abd rec kx) k (l,s,q,(l.length:Int),(i:Int))=c (Lp.idx s (l.drop i) i)
 |0,i,_,_,h=>absurd h (Zm1 _)
 |k+1,i,q,hi,h=>by
  rw[A0];by_cases hlt:i<l.length
  ·have e1:decide ((i:Int)<(l.length:Int))=true:=Ze1 (by omega);have en:((i+1:Nat):Int)=(i:Int)+1:=by omega
   simp only[Abd,Ao hlt,chk,Al (c :=.str) hlt,An hlt hl,(Ao4 hl h1 h2 k (i+1) q (by omega) (by omega))];rw[Ah hlt,Lp.idx,en];by_cases hx:s=l[i]
   ·grind
   ·grind
  ·have hi:i=l.length:=by omega
   subst hi;simp[Abd,h2,Lp.idx]
theorem Bno:FO 88 [.sl .str false,.str] [.int .i64] A0x :=.fin 0 Blc λ(l,s) r hb hx=>⟨l.length+1,by simp only[A0x,Za1] at hx;rw[<-hx];simp only[Apd];exact Ao4 (c:=λq=>some q) hb.1.1 (λ_ _=>rfl) (λ_=>rfl) (l.length+1) 0 0 (Nat.zero_le _) (by omega)⟩
def Bpo(R:Type):Px R:=pxO [(88,cA A0x)] [] [] []
def Ab5(x:HV [.sl .str false,.str]):Option (HV [.bool]):=match x with
 |(l,s) =>
 some (decide (0<=(Bsq l s)))
theorem Bhz:FO 54 [.sl .str false,.str] [.bool] (Ab5):=fR (px:=Bpo _) (n:=0) Tryz.func54 rfl (λ_ H=>⟨lv H (c1 H Bno Ae) Aa Ab,Aj⟩) λ(_,_)=>by kernel_rfl
def A88(l:List Str)(s:Str):Bool :=(decide (0<=(Bsq l s)))
theorem Bmu(x:HV [.sl .str false,.str]):Ab5 x=some (A88 x.1 x.2):=by
 first
  |exact rfl
  |simp only[Ab5,A88,As]
def Bel:FT [.sl .str false,.str] [.bool]:=λx=>some (A88 x.1 x.2)
theorem Bn6:FO 54 [.sl .str false,.str] [.bool] Bel :=.fin0 Bhz λx _ _ hx=>(Bmu x).trans hx
theorem Bnn(l:List Str)(s:Str):A88 l s=l.contains s:=by have e:A88 l s=decide (0<=Lp.idx s l 0):=rfl;rw[e,Bool.eq_iff_iff,Zg1,Lp.idx_ge s l 0 (Int.le_refl 0)];simp
theorem Ng(k:Int):(parts k=0/\(k=1\/k=2))\/(parts k=1/\(k=3\/k=15\/k=16))\/(parts k=2/\4<=k/\k<=14)\/parts k = -1:=by
 by_cases h1:k=1
 ·subst h1;left;decide
 by_cases h2:k=2
 ·subst h2;left;decide
 by_cases h3:k=3
 ·subst h3;right;left;decide
 by_cases h15:k=15
 ·subst h15;right;left;decide
 by_cases h16:k=16
 ·subst h16;right;left;decide
 right;right;by_cases h : 4<=k/\k<=14
 ·left;refine⟨?_,h⟩;have:k=4\/k=5\/k=6\/k=7\/k=8\/k=9\/k=10\/k=11\/k=12\/k=13\/k=14:=by omega
  rcases this with rfl|rfl|rfl|rfl|rfl|rfl|rfl|rfl|rfl|rfl|rfl<;>decide
 ·right;have hm:Un signsL k=[]:=by simp only[signsL,Un];rw[Zd1 (by omega),Zd1 (by omega),Zd1 (by omega),Zd1 (by omega),Zd1 (by omega),Zd1 (by omega),Zd1 (by omega),Zd1 (by omega),Zd1 (by omega),Zd1 (by omega),Zd1 (by omega)]
  simp[parts,hm,h1,h2,h3,h15,h16]
theorem Gm{e:Xpr}{m:Int}(h:A5 e m=true):(e.l.length:Int)=parts e.kind/\eok e.kind e.v e.name=true/\erights e.l (wr .i64 (m-1))=true:=by rw[L8] at h;simp only[Zb1,Zg1] at h;exact⟨h.1.1.2,h.1.2,h.2⟩
theorem Mw{e:Xpr}:Dk e=0↔A5 e 30=true:=by simp only[Dk];cases A5 e 30<;>simp
def Anb:Sig:=⟨26,[(0,.sl .col false),(1,.sl .col false),(4,.bool),(12,.int .i64),(13,.int .i64)],[],[],0,0,0,[],[]⟩
abbrev Za:=List Col×List Col×Bool×Int×Int
def Aby{R:Type}(rec:Za->Option R)(kx:Ex->Za->Option R)(v:Za):Option R:=match v with
 |(v,v1,v2,v3,v4) =>
 cond (decide (v4<v3)) (
  chk (inb v4 v.length) (
  chk (inb v4 v1.length) (
   cond (!decide ((at' .col v v4)=(at' .col v1 v4))) (
   kx .ret (v,v1,false,v3,v4)) (
   rec (v,v1,v2,v3,(wr .i64 (v4+1))))))) (
  kx (.exit 0) (v,v1,v2,v3,v4))
def A6d(R:Type)(k:Nat):Px R:=pxO [] [] [(4,Am k Anb (Aby))] []
def Aok(k:Nat)(x:HV [.sl .col false,.sl .col false]):Option (HV [.bool]):=match x with
 |(a,b) =>
 cond (!decide ((a.length:Int)=(b.length:Int))) (
  some false) (
  Ak (λrec=>Aby rec (λe vz=>match vz with|(_,_,v7,_,_)=>match e with
  |.ret =>some v7
  |.exit 0 =>some true
  |_=>none)) k (a,b,false,(a.length:Int),0))
theorem Bl0(k:Nat):FO 252 [.sl .col false,.sl .col false] [.bool] (Aok k):=fR (px:=A6d _ k) (n:=1) Tryz.func252 rfl (λcx H=>by have h0:Lv cx (A6d (HV [.bool]) k):=lv H Ae Aa Ab;have hlaeqc_0:=lO H h0 (b:=lp Tryz.f252 0) (k:=k) (n:=0) (s:=Anb) (step:=Aby) (λ_ _ _ (_,_,_,_,_)=>by kernel_rfl) Aj;exact⟨h0,(A3 Aj hlaeqc_0)⟩) λ(_,_)=>by kernel_rfl
def Bnh(a b:List Col):Bool:=decide (a=b)
def A0u:FT [.sl .col false,.sl .col false] [.bool]:=λx=>some (Bnh x.1 x.2)
theorem Baz{R:Type}{kx:Ex->Za->Option R}{a b:List Col}{c:Bool->Option R}(hn:ln a.length)(he:a.length=b.length)(h1:∀i,kx .ret (a,b,false,(a.length:Int),i)=c false)(h2:∀q i,kx (.exit 0) (a,b,q,(a.length:Int),i)=c true)(k:Nat)(hk:a.length<k) :
  Ak (λrec=>Aby rec kx) k (a,b,false,(a.length:Int),0)=c (decide (a=b)):=by
 refine(Ay a.length (λi=>(a,b,false,(a.length:Int),(i:Int))) (λi=>c (decide (a.drop i=b.drop i))) (λi hi rec hr =>?_) (λrec =>?_) k 0 (Nat.zero_le _) (by omega)).trans (by rw[Zq1,Zq1])
 ·have hi2:i<b.length:=by omega
  simp only[Aby,Br hi,Ag,Ao hi,Ao hi2,chk,Al (c :=.col) hi,Al (c :=.col) hi2,An hi hn,hr,h1,Ah hi,Ah hi2,Ze2];by_cases hx:a[i]=b[i]
  ·rw[Ze1 hx];simp[hx]
  ·rw[Zd1 hx];simp[hx]
 ·simp only[Aby,Bu,Ai,h2];rw[Zk1 (Zn1 _),Zk1 (by omega)];rfl
theorem Bp8:FO 252 [.sl .col false,.sl .col false] [.bool] A0u :=.fin 0 Bl0 λ(a,b) r hb hx=>⟨a.length+1,by
 simp only[A0u,Za1] at hx;rw[<-hx];simp only[Aok,Bnh];by_cases he:a.length=b.length
 ·rw[Ze1 (show(a.length:Int)=(b.length:Int) by omega),Zt1,Ai];exact Baz (c:=some) hb.1.1 he (λ_=>rfl) (λ_ _=>rfl) (a.length+1) (by omega)
 ·rw[Zd1 (show ¬(a.length:Int)=(b.length:Int) by omega),Zd1 (λh=>he (by rw[h]))];rfl⟩
def Apw:Sig:=⟨26,[(0,.sl .str false),(1,.sl .str false),(4,.bool),(12,.int .i64),(13,.int .i64)],[],[],0,0,0,[],[]⟩
abbrev Zy:=List Str×List Str×Bool×Int×Int
def Aaw{R:Type}(rec:Zy->Option R)(kx:Ex->Zy->Option R)(v:Zy):Option R:=match v with
 |(v,v1,v2,v3,v4) =>
 cond (decide (v4<v3)) (
  chk (inb v4 v.length) (
  chk (inb v4 v1.length) (
   cond (!decide ((at' .str v v4)=(at' .str v1 v4))) (
   kx .ret (v,v1,false,v3,v4)) (
   rec (v,v1,v2,v3,(wr .i64 (v4+1))))))) (
  kx (.exit 0) (v,v1,v2,v3,v4))
def A6r(R:Type)(k:Nat):Px R:=pxO [] [] [(4,Am k Apw (Aaw))] []
def Am6(k:Nat)(x:HV [.sl .str false,.sl .str false]):Option (HV [.bool]):=match x with
 |(a,b) =>
 cond (!decide ((a.length:Int)=(b.length:Int))) (
  some false) (
  Ak (λrec=>Aaw rec (λe vz=>match vz with|(_,_,v7,_,_)=>match e with
  |.ret =>some v7
  |.exit 0 =>some true
  |_=>none)) k (a,b,false,(a.length:Int),0))
theorem Bl4(k:Nat):FO 253 [.sl .str false,.sl .str false] [.bool] (Am6 k):=fR (px:=A6r _ k) (n:=1) Tryz.func253 rfl (λcx H=>by have h0:Lv cx (A6r (HV [.bool]) k):=lv H Ae Aa Ab;have hlaeqs_0:=lO H h0 (b:=lp Tryz.f253 0) (k:=k) (n:=0) (s:=Apw) (step:=Aaw) (λ_ _ _ (_,_,_,_,_)=>by kernel_rfl) Aj;exact⟨h0,(A3 Aj hlaeqs_0)⟩) λ(_,_)=>by kernel_rfl
def Blx(a b:List Str):Bool:=decide (a=b)
def A27:FT [.sl .str false,.sl .str false] [.bool]:=λx=>some (Blx x.1 x.2)
theorem Bdp{R:Type}{kx:Ex->Zy->Option R}{a b:List Str}{c:Bool->Option R}(hn:ln a.length)(he:a.length=b.length)(h1:∀i,kx .ret (a,b,false,(a.length:Int),i)=c false)(h2:∀q i,kx (.exit 0) (a,b,q,(a.length:Int),i)=c true)(k:Nat)(hk:a.length<k) :
  Ak (λrec=>Aaw rec kx) k (a,b,false,(a.length:Int),0)=c (decide (a=b)):=by
 refine(Ay a.length (λi=>(a,b,false,(a.length:Int),(i:Int))) (λi=>c (decide (a.drop i=b.drop i))) (λi hi rec hr =>?_) (λrec =>?_) k 0 (Nat.zero_le _) (by omega)).trans (by rw[Zq1,Zq1])
 ·have hi2:i<b.length:=by omega
  simp only[Aaw,Br hi,Ag,Ao hi,Ao hi2,chk,Al (c :=.str) hi,Al (c :=.str) hi2,An hi hn,hr,h1,Ah hi,Ah hi2,Ze2];by_cases hx:a[i]=b[i]
  ·rw[Ze1 hx];simp[hx]
  ·rw[Zd1 hx];simp[hx]
 ·simp only[Aaw,Bu,Ai,h2];rw[Zk1 (Zn1 _),Zk1 (by omega)];rfl
theorem Bnc:FO 253 [.sl .str false,.sl .str false] [.bool] A27 :=.fin 0 Bl4 λ(a,b) r hb hx=>⟨a.length+1,by
 simp only[A27,Za1] at hx;rw[<-hx];simp only[Am6,Blx];by_cases he:a.length=b.length
 ·rw[Ze1 (show(a.length:Int)=(b.length:Int) by omega),Zt1,Ai];exact Bdp (c:=some) hb.1.1 he (λ_=>rfl) (λ_ _=>rfl) (a.length+1) (by omega)
 ·rw[Zd1 (show ¬(a.length:Int)=(b.length:Int) by omega),Zd1 (λh=>he (by rw[h]))];rfl⟩
def Am5:Sig:=⟨26,[(0,.sl .bool false),(1,.sl .bool false),(4,.bool),(12,.int .i64),(13,.int .i64)],[],[],0,0,0,[],[]⟩
abbrev Xe:=List Bool×List Bool×Bool×Int×Int
def Ab2{R:Type}(rec:Xe->Option R)(kx:Ex->Xe->Option R)(v:Xe):Option R:=match v with
 |(v,v1,v2,v3,v4) =>
 cond (decide (v4<v3)) (
  chk (inb v4 v.length) (
  chk (inb v4 v1.length) (
   cond (!decide ((at' .bool v v4)=(at' .bool v1 v4))) (
   kx .ret (v,v1,false,v3,v4)) (
   rec (v,v1,v2,v3,(wr .i64 (v4+1))))))) (
  kx (.exit 0) (v,v1,v2,v3,v4))
def A7g(R:Type)(k:Nat):Px R:=pxO [] [] [(4,Am k Am5 (Ab2))] []
def Aqq(k:Nat)(x:HV [.sl .bool false,.sl .bool false]):Option (HV [.bool]):=match x with
 |(a,b) =>
 cond (!decide ((a.length:Int)=(b.length:Int))) (
  some false) (
  Ak (λrec=>Ab2 rec (λe vz=>match vz with|(_,_,v7,_,_)=>match e with
  |.ret =>some v7
  |.exit 0 =>some true
  |_=>none)) k (a,b,false,(a.length:Int),0))
theorem Beq(k:Nat):FO 254 [.sl .bool false,.sl .bool false] [.bool] (Aqq k):=fR (px:=A7g _ k) (n:=1) Tryz.func254 rfl (λcx H=>by have h0:Lv cx (A7g (HV [.bool]) k):=lv H Ae Aa Ab;have hlaeqb_0:=lO H h0 (b:=lp Tryz.f254 0) (k:=k) (n:=0) (s:=Am5) (step:=Ab2) (λ_ _ _ (_,_,_,_,_)=>by kernel_rfl) Aj;exact⟨h0,(A3 Aj hlaeqb_0)⟩) λ(_,_)=>by kernel_rfl
def Bqg(a b:List Bool):Bool:=decide (a=b)
def A3e:FT [.sl .bool false,.sl .bool false] [.bool]:=λx=>some (Bqg x.1 x.2)
theorem Bco{R:Type}{kx:Ex->Xe->Option R}{a b:List Bool}{c:Bool->Option R}(hn:ln a.length)(he:a.length=b.length)(h1:∀i,kx .ret (a,b,false,(a.length:Int),i)=c false)(h2:∀q i,kx (.exit 0) (a,b,q,(a.length:Int),i)=c true)(k:Nat)(hk:a.length<k) :
  Ak (λrec=>Ab2 rec kx) k (a,b,false,(a.length:Int),0)=c (decide (a=b)):=by
 refine(Ay a.length (λi=>(a,b,false,(a.length:Int),(i:Int))) (λi=>c (decide (a.drop i=b.drop i))) (λi hi rec hr =>?_) (λrec =>?_) k 0 (Nat.zero_le _) (by omega)).trans (by rw[Zq1,Zq1])
 ·have hi2:i<b.length:=by omega
  simp only[Ab2,Br hi,Ag,Ao hi,Ao hi2,chk,Al (c :=.bool) hi,Al (c :=.bool) hi2,An hi hn,hr,h1,Ah hi,Ah hi2,Ze2];by_cases hx:a[i]=b[i]
  ·rw[Ze1 hx];simp[hx]
  ·rw[Zd1 hx];simp[hx]
 ·simp only[Ab2,Bu,Ai,h2];rw[Zk1 (Zn1 _),Zk1 (by omega)];rfl
theorem Bra:FO 254 [.sl .bool false,.sl .bool false] [.bool] A3e :=.fin 0 Beq λ(a,b) r hb hx=>⟨a.length+1,by
 simp only[A3e,Za1] at hx;rw[<-hx];simp only[Aqq,Bqg];by_cases he:a.length=b.length
 ·rw[Ze1 (show(a.length:Int)=(b.length:Int) by omega),Zt1,Ai];exact Bco (c:=some) hb.1.1 he (λ_=>rfl) (λ_ _=>rfl) (a.length+1) (by omega)
 ·rw[Zd1 (show ¬(a.length:Int)=(b.length:Int) by omega),Zd1 (λh=>he (by rw[h]))];rfl⟩
instance:DecidableEq SetE:=λa b=>decidable_of_iff (a.name=b.name/\a.e=b.e) (by cases a;cases b;simp)
def Atx(a b:SetE):Bool:=decide (a.name=b.name)&&F9 a.e b.e
theorem Awe(a b:SetE):Atx a b=decide (a=b):=by cases a;cases b;simp[Atx,Ho]
def Aiq(a b:Stm):Bool:=decide (a.kind=b.kind)&&decide (a.name=b.name)&&decide (a.on=b.on)&&decide (a.has=b.has)&&decide (a.most=b.most)&&decide (a.whr=b.whr)&&(decide (a.cols=b.cols)&&decide (a.names=b.names)&&decide (a.order=b.order)&&decide (a.desc=b.desc)&&decide (a.l=b.l))&&decide (a.rows=b.rows)&&decide (a.sets=b.sets)
theorem Aq3(a b:Stm):Aiq a b=true↔a=b:=by
 cases a;cases b;simp[Aiq,Stm.mk.injEq];constructor
 ·grind
 ·grind
def Aec:Sig:=⟨32,[(1,.sl .set false),(6,.bool),(15,.sl .set false),(16,.int .i64),(17,.int .i64)],[(2,.fn 259 [])],[],40,40,600,[],[]⟩
abbrev N0:=List SetE×Bool×List SetE×Int×Int
def Lk{R:Type}(rec:N0->Option R)(kx:Ex->N0->Option R)(v:N0):Option R:=match v with
 |(b,f,c,d,a) =>
 cond (decide (a<d)) (
  chk (inb a c.length) (
  chk (inb a b.length) (
   cond (decide (((at' .set c a).name)=((at' .set b a).name))) (
   cond (!(Pu (Hk ((at' .set c a).e)) (Hk ((at' .set b a).e)))) (
    kx .ret (b,false,c,d,a)) (
    rec (b,f,c,d,(wr .i64 (a+1))))) (
   kx .ret (b,false,c,d,a))))) (
  kx (.exit 0) (b,f,c,d,a))
def Acn:Sig:=⟨32,[(1,.sl .expr false),(6,.bool),(15,.sl .expr false),(16,.int .i64),(17,.int .i64)],[(2,.fn 251 [])],[(0,.one (.sv .stmt)),(1,.one (.sv .stmt))],120,120,600,[],[]⟩
abbrev Nh:=List Xpr×Bool×List Xpr×Int×Int×Stm×Stm
def Mt{R:Type}(rec:Nh->Option R)(kx:Ex->Nh->Option R)(v:Nh):Option R:=match v with
 |(b,e,c,d,a,w4,w5) =>
 cond (decide (a<d)) (
  chk (inb a c.length) (
  chk (inb a b.length) (
   cond (!(Pu (at' .expr c a) (at' .expr b a))) (
   kx .ret (b,false,c,d,a,w4,w5)) (
   rec (b,e,c,d,(wr .i64 (a+1)),w4,w5))))) (
  kx (.exit 0) (b,e,c,d,a,w4,w5))
def Ado:Sig:=⟨32,[(1,.sl .exprs false),(6,.bool),(15,.sl .exprs false),(16,.int .i64),(17,.int .i64)],[(2,.fn 257 [])],[(0,.one (.sv .stmt)),(1,.one (.sv .stmt))],40,40,400,[],[]⟩
abbrev Nn:=List (List Xpr)×Bool×List (List Xpr)×Int×Int×Stm×Stm
def L1{R:Type}(k:Nat)(rec:Nn->Option R)(kx:Ex->Nn->Option R)(v:Nn):Option R:=match v with
 |(c,f,b,d,a,w2,w3) =>
 cond (decide (a<d)) (
  chk (inb a b.length) (
  chk (inb a c.length) (
   cond (!decide (((at' .exprs b a).length:Int)=((at' .exprs c a).length:Int))) (
   kx .ret (c,false,b,d,a,w2,w3)) (
   Ak (λrc=>Mt rc (λe vz=>match vz with|(_,i,_,_,_,g,h)=>match e with
    |.ret =>
    cond (!i) (
     kx .ret (c,false,b,d,a,g,h)) (
     rec (c,f,b,d,(wr .i64 (a+1)),g,h))
    |.exit 0 =>
    rec (c,f,b,d,(wr .i64 (a+1)),g,h)
    |_=>none)) k ((at' .exprs c a),false,(at' .exprs b a),((at' .exprs b a).length:Int),0,w2,w3))))) (
  kx (.exit 0) (c,f,b,d,a,w2,w3))
def Ack:Sig:=⟨32,[(1,.sl .expr false),(6,.bool),(15,.sl .expr false),(16,.int .i64),(17,.int .i64)],[(2,.fn 251 [])],[(0,.one (.sv .stmt)),(1,.one (.sv .stmt))],40,40,200,[],[]⟩
abbrev Nt:=List Xpr×Bool×List Xpr×Int×Int×Stm×Stm
def Lw{R:Type}(rec:Nt->Option R)(kx:Ex->Nt->Option R)(v:Nt):Option R:=match v with
 |(v,v1,v2,v3,v4,w,w1) =>
 cond (decide (v4<v3)) (
  chk (inb v4 v2.length) (
  chk (inb v4 v.length) (
   cond (!(Pu (at' .expr v2 v4) (at' .expr v v4))) (
   kx .ret (v,false,v2,v3,v4,w,w1)) (
   rec (v,v1,v2,v3,(wr .i64 (v4+1)),w,w1))))) (
  kx (.exit 0) (v,v1,v2,v3,v4,w,w1))
def Aei(R:Type)(k:Nat):Px R:=pxO [(251,cA Tg)] [] [(4,Am k Ack (Lw))] []
def O9(R:Type)(k:Nat):Px R:=pxO [(251,cA Tg)] [] [(4,Am k Acn (Mt))] []
noncomputable def Up(R:Type)(k:Nat):Px R:=pxO [(255,Bi 120 600 (O9 R k) Tryz.f255)] [] [] []
noncomputable def Ad8(R:Type)(k:Nat):Px R:=pxO [(257,Bi 80 600 (Up R k) Tryz.f257)] [] [(4,Am k Ado (L1 k))] []
def Ut(R:Type)(_k:Nat):Px R:=pxO [(251,cA Tg)] [] [] []
noncomputable def Ac6(R:Type)(k:Nat):Px R:=pxO [(259,Bi 80 800 (Ut R k) Tryz.f259)] [] [(4,Am k Aec (Lk))] []
noncomputable def Aog(R:Type)(k:Nat):Px R:=pxO [(251,cA Tg),(252,cA A0u),(253,cA A27),(254,cA A3e),(255,Bi 40 200 (Aei R k) Tryz.f255),(256,Bi 40 400 (Ad8 R k) Tryz.f256),(258,Bi 40 600 (Ac6 R k) Tryz.f258)] [] [] []
def Qi(k:Nat)(x:HV [.sv .stmt,.sv .stmt]):Option (HV [.bool]):=match x with
 |(a,b) =>
 let j9:=λ(p6:Bool) =>
  let j8:=λ(m:Bool) (q6:Stm) (q7:Stm) =>
  let j7:=λ(n:Bool) =>
   let j6:=λ(o:Bool) (c:Stm) (d:Stm) =>
   cond (o) (
    cond (!decide ((c.sets.length:Int)=(d.sets.length:Int))) (
    some false) (
    Ak (λrec=>Lk rec (λe vz=>match vz with|(_,q,_,_,_)=>match e with
     |.ret =>
     some q
     |.exit 0 =>
     some true
     |_=>none)) k (d.sets,false,c.sets,(c.sets.length:Int),0))) (
    some false)
   cond (n) (
   cond (!decide ((q6.rows.length:Int)=(q7.rows.length:Int))) (
    j6 false q6 q7) (
    Ak (λrec=>L1 k rec (λe vz=>match vz with|(_,r,_,_,_,f,g)=>match e with
    |.ret =>j6 r f g
    |.exit 0 =>j6 true f g
    |_=>none)) k (q7.rows,false,q6.rows,(q6.rows.length:Int),0,q6,q7))) (
   j6 false q6 q7)
  cond (p6) (
   j7 m) (
   j7 false)
  let j5:=λ(p7:Bool) =>
  let j4:=λ(p8:Bool) =>
   let j3:=λ(p9:Bool) =>
   cond (p9) (
    cond (!decide ((a.l.length:Int)=(b.l.length:Int))) (
    j8 false a b) (
    Ak (λrec=>Lw rec (λe vz=>match vz with|(_,v6,_,_,_,h,i)=>match e with
     |.ret =>
     j8 v6 h i
     |.exit 0 =>
     j8 true h i
     |_=>none)) k (b.l,false,a.l,(a.l.length:Int),0,a,b))) (
    j8 false a b)
   cond (p8) (
   j3 (Bqg a.desc b.desc)) (
   j3 false)
  cond (p7) (
   j4 (Blx a.order b.order)) (
   j4 false)
  cond ((Bnh a.cols b.cols)) (
  j5 (Blx a.names b.names)) (
  j5 false)
 let j2:=λ(p:Bool) =>
  let j1:=λ(p1:Bool) =>
  let j:=λ(p2:Bool) =>
   cond (p2) (
   cond (decide (a.most=b.most)) (
    j9 (Pu (Hk a.whr) (Hk b.whr))) (
    j9 false)) (
   j9 false)
  cond (p1) (
   j (decide (a.has=b.has))) (
   j false)
  cond (p) (
  j1 (decide (a.on=b.on))) (
  j1 false)
 cond (decide (a.kind=b.kind)) (
  j2 (decide (a.name=b.name))) (
  j2 false)
theorem A1q(k:Nat):FO 213 [.sv .stmt,.sv .stmt] [.bool] (Qi k):=fR (px:=Aog _ k) (n:=0) Tryz.func213 rfl (λcx H=>by have h1:Lv cx (Aei (HV [.bool]) k):=lv H (c1 H Qu Ae) Aa Ab;have hlastmts_0:=lO H h1 (b:=lp Tryz.f255 0) (k:=k) (n:=0) (s:=Ack) (step:=Lw) (λ_ _ _ (_,_,_,_,_,_,_)=>by kernel_rfl) Aj;have h4:Lv cx (O9 (HV [.bool]) k):=lv H (c1 H Qu Ae) Aa Ab;have hlastmts_2:=lO H h4 (b:=lp Tryz.f255 0) (k:=k) (n:=0) (s:=Acn) (step:=Mt) (λ_ _ _ (_,_,_,_,_,_,_)=>by kernel_rfl) Aj;have h3:Lv cx (Up (HV [.bool]) k):=lv H (A2 (cR H h4 Tryz.func255 rfl (n:=1) ((A3 Aj hlastmts_2))) Ae) Aa Ab;have h2:Lv cx (Ad8 (HV [.bool]) k):=lv H (A2 (cR H h3 Tryz.func257 rfl (n:=0) (Aj)) Ae) Aa Ab;have hlastmts_1:=lO H h2 (b:=lp Tryz.f256 0) (k:=k) (n:=0) (s:=Ado) (step:=L1 k) (λ_ _ _ (_,_,_,_,_,_,_)=>by kernel_rfl) Aj;have h6:Lv cx (Ut (HV [.bool]) k):=lv H (c1 H Qu Ae) Aa Ab;have h5:Lv cx (Ac6 (HV [.bool]) k):=lv H (A2 (cR H h6 Tryz.func259 rfl (n:=0) (Aj)) Ae) Aa Ab;have hlastmts_3:=lO H h5 (b:=lp Tryz.f258 0) (k:=k) (n:=0) (s:=Aec) (step:=Lk) (λ_ _ _ (_,_,_,_,_)=>by kernel_rfl) Aj;have h0:Lv cx (Aog (HV [.bool]) k):=lv H (c1 H Qu (c1 H Bp8 (c1 H Bnc (c1 H Bra (A2 (cR H h1 Tryz.func255 rfl (n:=1) ((A3 Aj hlastmts_0))) (A2 (cR H h2 Tryz.func256 rfl (n:=1) ((A3 Aj hlastmts_1))) (A2 (cR H h5 Tryz.func258 rfl (n:=1) ((A3 Aj hlastmts_3))) Ae))))))) Aa Ab;exact⟨h0,Aj⟩) λ(_,_)=>by kernel_rfl
def A0w(a b:Stm):Bool:=Aiq a b
def A0o:FT [.sv .stmt,.sv .stmt] [.bool]:=λx=>some (A0w x.1 x.2)
theorem Y4{α:Type}[DecidableEq α](x y : α)(l m:List α):decide (x::l=y::m)=(decide (x=y)&&decide (l=m)):=by simp
theorem Ami{R:Type}{kx:Ex->Nt->Option R}{l m:List Xpr}{s t:Stm}{c:Bool->Option R}(hn:ln l.length)(hm:l.length=m.length)
  (h1:∀i,kx .ret (m,false,l,(l.length:Int),i,s,t)=c false) (h2:∀q i,kx (.exit 0) (m,q,l,(l.length:Int),i,s,t)=c true) (k:Nat) (hk:l.length<k):Ak (λrec=>Lw rec kx) k (m,false,l,(l.length:Int),0,s,t)=c (decide (l=m)):=by
 refine(Ay l.length (λi=>(m,false,l,(l.length:Int),(i:Int),s,t)) (λi=>c (decide (l.drop i=m.drop i))) (λi hi rec hr =>?_) (λrec =>?_) k 0 (Nat.zero_le _) (by omega)).trans (by rw[Zq1,Zq1])
 ·have hi2:i<m.length:=by omega
  simp only[Lw,Br hi,Ag,Ao hi,Ao hi2,chk,Al (c :=.expr) hi,Al (c :=.expr) hi2,An hi hn,hr,h1,Ah hi,Ah hi2,Y4,Pu,Ho];cases decide (l[i]=m[i])<;>rfl
 ·simp only[Lw,Bu,Ai,h2];rw[Zk1 (Zn1 _),Zk1 (by omega)];rfl
theorem Amm{R:Type}{kx:Ex->Nh->Option R}{l m:List Xpr}{s t:Stm}{c:Bool->Option R}(hn:ln l.length)(hm:l.length=m.length)
  (h1:∀i,kx .ret (m,false,l,(l.length:Int),i,s,t)=c false) (h2:∀q i,kx (.exit 0) (m,q,l,(l.length:Int),i,s,t)=c true) (k:Nat) (hk:l.length<k):Ak (λrec=>Mt rec kx) k (m,false,l,(l.length:Int),0,s,t)=c (decide (l=m)):=by
 refine(Ay l.length (λi=>(m,false,l,(l.length:Int),(i:Int),s,t)) (λi=>c (decide (l.drop i=m.drop i))) (λi hi rec hr =>?_) (λrec =>?_) k 0 (Nat.zero_le _) (by omega)).trans (by rw[Zq1,Zq1])
 ·have hi2:i<m.length:=by omega
  simp only[Mt,Br hi,Ag,Ao hi,Ao hi2,chk,Al (c :=.expr) hi,Al (c :=.expr) hi2,An hi hn,hr,h1,Ah hi,Ah hi2,Y4,Pu,Ho];cases decide (l[i]=m[i])<;>rfl
 ·simp only[Mt,Bu,Ai,h2];rw[Zk1 (Zn1 _),Zk1 (by omega)];rfl
theorem Amh{R:Type}{kx:Ex->Nn->Option R}{l m:List (List Xpr)}{s t:Stm}{c:Bool->Option R}(hn:ln l.length)(hm:l.length=m.length)(hr0:∀x,x∈l->ln x.length)(k:Nat)(hkr:∀x,x∈l->List.length x<k)
  (h1:∀i,kx .ret (m,false,l,(l.length:Int),i,s,t)=c false) (h2:∀q i,kx (.exit 0) (m,q,l,(l.length:Int),i,s,t)=c true) (hk:l.length<k):Ak (λrec=>L1 k rec kx) k (m,false,l,(l.length:Int),0,s,t)=c (decide (l=m)):=by
 refine(Ay l.length (λi=>(m,false,l,(l.length:Int),(i:Int),s,t)) (λi=>c (decide (l.drop i=m.drop i))) (λi hi rec hr =>?_) (λrec =>?_) k 0 (Nat.zero_le _) (by omega)).trans (by rw[Zq1,Zq1])
 ·have hi2:i<m.length:=by omega
  simp only[L1,Br hi,Ag,Ao hi,Ao hi2,chk,Al (c :=.exprs) hi,Al (c :=.exprs) hi2,An hi hn,Ah hi,Ah hi2,Y4];by_cases hlen:l[i].length=m[i].length
  ·rw[Ze1 (show(l[i].length:Int)=(m[i].length:Int) by omega),Zt1,Ai];rw[Amm (c:=λb=>cond b (c (decide (l.drop (i+1)=m.drop (i+1)))) (c false)) (hr0 _ (List.getElem_mem hi)) hlen (λ_=>h1 _) (λ_ _=>hr) k (hkr _ (List.getElem_mem hi))];cases decide (l[i]=m[i])<;>rfl
  ·rw[Zd1 (show ¬(l[i].length:Int)=(m[i].length:Int) by omega),Zd1 (λh=>hlen (by rw[h])),h1];rfl
 ·simp only[L1,Bu,Ai,h2];rw[Zk1 (Zn1 _),Zk1 (by omega)];rfl
theorem Amw{R:Type}{kx:Ex->N0->Option R}{l m:List SetE}{c:Bool->Option R}(hn:ln l.length)(hm:l.length=m.length)
  (h1:∀i,kx .ret (m,false,l,(l.length:Int),i)=c false) (h2:∀q i,kx (.exit 0) (m,q,l,(l.length:Int),i)=c true) (k:Nat) (hk:l.length<k):Ak (λrec=>Lk rec kx) k (m,false,l,(l.length:Int),0)=c (decide (l=m)):=by
 refine(Ay l.length (λi=>(m,false,l,(l.length:Int),(i:Int))) (λi=>c (decide (l.drop i=m.drop i))) (λi hi rec hr =>?_) (λrec =>?_) k 0 (Nat.zero_le _) (by omega)).trans (by rw[Zq1,Zq1])
 ·have hi2:i<m.length:=by omega
  simp only[Lk,Br hi,Ag,Ao hi,Ao hi2,chk,Al (c :=.set) hi,Al (c :=.set) hi2,An hi hn,hr,h1,Ah hi,Ah hi2,Y4,Pu,<-Awe,Atx,Gp];cases decide (l[i].name=m[i].name)<;>cases F9 l[i].e m[i].e<;>rfl
 ·simp only[Lk,Bu,Ai,h2];rw[Zk1 (Zn1 _),Zk1 (by omega)];rfl
theorem Ars{α:Type}[DecidableEq α]{l m:List α}(h:¬l.length=m.length):decide (l=m)=false:=Zd1 λe=>h (by rw[e])
def Bq1(s:Stm):Nat:=s.l.length+s.rows.length+s.sets.length+(s.rows.map List.length).sum
theorem Bqx{l:List (List Xpr)}{x:List Xpr}(h:x∈l):x.length<=(l.map List.length).sum:=by
 induction l with
 |nil=>cases h
 |cons y l ih =>
  simp;rcases List.mem_cons.1 h with rfl|h
  ·omega
  ·have:=ih h;omega
theorem Bkj(k:Nat)(a b:Stm)(hb:BdStm a)(hk:Bq1 a<k):Qi k (a,b)=some (Aiq a b):=by
 have hk2:=hk;simp[Bq1] at hk2;simp -zeta only [Qi,Pu,Ho,Gp,Bnh,Blx,Bqg];extract_lets j6 j9 j j1 j2;have h6:∀q,j6 q a b=some (q&&decide (a.sets=b.sets)):=λq=>by
  simp -zeta only [j6];cases q with
  |false=>rfl
  |true =>
   rw[Ag,Bool.true_and];by_cases hs:a.sets.length=b.sets.length
   ·rw[Ze1 (show(a.sets.length:Int)=(b.sets.length:Int) by omega),Zt1,Ai];exact Amw (c:=some) hb.sets.1 hs (λ_=>rfl) (λ_ _=>rfl) k (by omega)
   ·rw[Zd1 (show ¬(a.sets.length:Int)=(b.sets.length:Int) by omega),Ars hs];rfl
 have h9:∀p,j9 p=some (p&&(decide (a.cols=b.cols)&&decide (a.names=b.names)&&decide (a.order=b.order)&&decide (a.desc=b.desc)&&decide (a.l=b.l))&&decide (a.rows=b.rows)&&decide (a.sets=b.sets)):=λp=>by
  simp -zeta only [j9];extract_lets j8 j3 j4 j5;have h8:∀q,j8 q a b=some (p&&q&&decide (a.rows=b.rows)&&decide (a.sets=b.sets)):=λq=>by
   simp -zeta only [j8];extract_lets j7;have h7:∀q,j7 q=some (q&&decide (a.rows=b.rows)&&decide (a.sets=b.sets)):=λq=>by
    simp -zeta only [j7];cases q with
    |false=>exact(h6 false).trans rfl
    |true =>
     rw[Ag,Bool.true_and];by_cases hs:a.rows.length=b.rows.length
     ·rw[Ze1 (show(a.rows.length:Int)=(b.rows.length:Int) by omega),Zt1,Ai];refine(Amh (c:=λq=>j6 q a b) hb.rows.1 hs (λx hx=>(hb.rows.2 x hx).1) k (λx hx=>by have:=Bqx hx;omega) (λ_=>rfl) (λ_ _=>rfl) (by omega)).trans (h6 _)
     ·rw[Zd1 (show ¬(a.rows.length:Int)=(b.rows.length:Int) by omega),Ars hs];exact(h6 false).trans rfl
   cases p with|false=>exact(h7 false).trans rfl|true=>exact(h7 q).trans (by rw[Bool.true_and])
  have h3:∀q,j3 q=some (p&&(q&&decide (a.l=b.l))&&decide (a.rows=b.rows)&&decide (a.sets=b.sets)):=λq=>by
   simp -zeta only [j3];cases q with
   |false=>exact h8 false
   |true =>
    rw[Ag,Bool.true_and];by_cases hs:a.l.length=b.l.length
    ·rw[Ze1 (show(a.l.length:Int)=(b.l.length:Int) by omega),Zt1,Ai];exact(Ami (c:=λq=>j8 q a b) hb.l.1 hs (λ_=>rfl) (λ_ _=>rfl) k (by omega)).trans (h8 _)
    ·rw[Zd1 (show ¬(a.l.length:Int)=(b.l.length:Int) by omega),Ars hs];exact h8 false
  have h4:∀q,j4 q=some (p&&(q&&decide (a.desc=b.desc)&&decide (a.l=b.l))&&decide (a.rows=b.rows)&&decide (a.sets=b.sets)):=λq=>by simp -zeta only [j4];cases q with|false=>exact h3 false|true=>exact(h3 _).trans (by rw[Bool.true_and])
  have h5:∀q,j5 q=some (p&&(q&&decide (a.order=b.order)&&decide (a.desc=b.desc)&&decide (a.l=b.l))&&decide (a.rows=b.rows)&&decide (a.sets=b.sets)):=λq=>by simp -zeta only [j5];cases q with|false=>exact h4 false|true=>exact(h4 _).trans (by rw[Bool.true_and])
  cases decide (a.cols=b.cols) with|false=>exact h5 false|true=>exact(h5 _).trans (by simp)
 simp -zeta only [j2,j1,j,Aiq];cases decide (a.kind=b.kind) with
 |false=>exact(h9 false).trans rfl
 |true =>
  cases decide (a.name=b.name) with
  |false=>exact(h9 false).trans rfl
  |true =>
   cases decide (a.on=b.on) with
   |false=>exact(h9 false).trans rfl
   |true =>
    cases decide (a.has=b.has) with
    |false=>exact(h9 false).trans rfl
    |true =>cases decide (a.most=b.most) with|false=>exact(h9 false).trans rfl|true=>exact(h9 _).trans (by simp)
theorem Bdb:FO 213 [.sv .stmt,.sv .stmt] [.bool] A0o :=.fin 0 A1q λ(a,b) r hb hx=>⟨Bq1 a+1,(Bkj (Bq1 a+1) a b hb.1 (by omega)).trans hx⟩
instance:DecidableEq Stm:=λa b=>decidable_of_iff (Aiq a b=true) (Aq3 a b)
theorem Bdk(a b:Stm):Aiq a b=decide (a=b):=by rw[Bool.eq_iff_iff,Aq3,Zg1]
def Blo(R:Type):Px R:=pxO [] [] [] []
def Xb(x:HV [.int .i64]):Option (HV [.bool]):=match x with
 |n =>
 cond (decide (1<=n)) (
  some (decide (n<=100))) (
  some false)
theorem A85:FO 216 [.int .i64] [.bool] (Xb):=fR (px:=Blo _) (n:=0) Tryz.func216 rfl (λ_ H=>⟨lv H Ae Aa Ab,Aj⟩) λ_=>by kernel_rfl
def C0(n:Int):Bool :=
 cond (decide (1<=n)) (
  (decide (n<=100))) (
  false)
theorem Bdz(x:HV [.int .i64]):Xb x=some (C0 x):=by
 first
  |exact rfl
  |simp only[Xb,C0,As]
def Yx:FT [.int .i64] [.bool]:=λx=>some (C0 x)
theorem Yw:FO 216 [.int .i64] [.bool] Yx :=.fin0 A85 λx _ _ hx=>(Bdz x).trans hx
theorem A0j(n:Nat):C0 (n:Int)=(decide (1<=n)&&decide (n<=100)):=by simp only[C0];rw[show decide ((1:Int)<=(n:Int))=decide (1<=n) from Zy1.2 (by omega),show decide ((n:Int)<=100)=decide (n<=100) from Zy1.2 (by omega)];cases decide (1<=n)<;>rfl
def Agg:Sig:=⟨26,[(0,.sl .str false),(2,.bool),(5,.sl .str false),(6,.int .i64),(7,.int .i64)],[],[],0,0,0,[],[]⟩
abbrev R7:=List Str×Bool×List Str×Int×Int
def Ry{R:Type}(rec:R7->Option R)(kx:Ex->R7->Option R)(v:R7):Option R:=match v with
 |(v,v1,v2,v3,v4) =>
 cond (decide (v4<v3)) (
  chk (inb v4 v2.length) (
  cond (!(Cj (at' .str v2 v4))) (
   kx .ret (v,false,v2,v3,v4)) (
   chk (upto 0 v4 v.length) (
   cond ((A88 (v.take (v4:Int).toNat) (at' .str v2 v4))) (
    kx .ret (v,false,v2,v3,v4)) (
    rec (v,v1,v2,v3,(wr .i64 (v4+1)))))))) (
  kx (.exit 0) (v,v1,v2,v3,v4))
def Axw(R:Type)(k:Nat):Px R:=pxO [(187,cA R0),(54,cA Bel)] [] [(2,Am k Agg (Ry))] []
def Ajl(k:Nat)(x:HV [.sl .str false]):Option (HV [.bool]):=match x with
 |l =>
 Ak (λrec=>Ry rec (λe vz=>match vz with|(v5,v6,_,_,_)=>match e with
  |.ret =>
  some v6
  |.exit 0 =>
  some (decide ((v5.length:Int)<=100))
  |_=>none)) k (l,false,l,(l.length:Int),0)
theorem Bc2(k:Nat):FO 217 [.sl .str false] [.bool] (Ajl k):=fR (px:=Axw _ k) (n:=1) Tryz.func217 rfl (λcx H=>by have h0:Lv cx (Axw (HV [.bool]) k):=lv H (c1 H Yj (c1 H Bn6 Ae)) Aa Ab;have hlaonce_0:=lO H h0 (b:=lp Tryz.f217 0) (k:=k) (n:=0) (s:=Agg) (step:=Ry) (λ_ _ _ (_,_,_,_,_)=>by kernel_rfl) Aj;exact⟨h0,(A3 Aj hlaonce_0)⟩) λ_=>by kernel_rfl
def Md:List Str->List Str->Bool
 |_,[]=>true
 |seen,s::r=>Cj s && !seen.contains s&&Md (seen++[s]) r
def C6(l:List Str):Bool:=Md [] l&&decide (l.length<=100)
def Y7:FT [.sl .str false] [.bool]:=λx=>some (C6 x)
theorem Afu{l:List Str}{i:Nat}(hi:i<l.length):l.take (i+1)=l.take i++[l[i]]:=by simp_all
theorem A3d{R:Type}{kx:Ex->R7->Option R}{l:List Str}{c:Bool->Option R}(hn:ln l.length)(h1:∀i,kx .ret (l,false,l,(l.length:Int),i)=c false)(h2:∀q i,kx (.exit 0) (l,q,l,(l.length:Int),i)=c true)(k:Nat)(hk:l.length<k) :
  Ak (λrec=>Ry rec kx) k (l,false,l,(l.length:Int),0)=c (Md [] l):=by
 refine(Ay l.length (λi=>(l,false,l,(l.length:Int),(i:Int))) (λi=>c (Md (l.take i) (l.drop i))) (λi hi rec hr =>?_) (λrec =>?_) k 0 (Nat.zero_le _) (by omega)).trans (by rw[Zq1,List.take_zero])
 ·have hu:upto 0 (i:Int) l.length=true:=by simp[upto];omega
  simp only[Ry,Br hi,Ao hi,Al (c :=.str) hi,An hi hn,hr,h1,Ah hi,Md,hu,Int.toNat_natCast,Bnn,Afu hi];cases Cj l[i]<;>cases (l.take i).contains l[i]<;>rfl
 ·simp only[Ry,Bu,h2];rw[Zk1 (Zn1 _)];rfl
theorem Aic:FO 217 [.sl .str false] [.bool] Y7 :=.fin 0 Bc2 λl r hb hx=>⟨l.length+1,by simp only[Y7,Za1] at hx;rw[<-hx];simp only[Ajl];refine(A3d (l:=l) (c:=λb=>cond b (some (decide ((l.length:Int)<=100))) (some false)) hb.1 (λ_=>rfl) (λ_ _=>rfl) (l.length+1) (by omega)).trans ?_;rw[show decide ((l.length:Int)<=100)=decide (l.length<=100) from Zy1.2 (by omega),C6];cases Md [] l<;>rfl⟩
def Ad0:Sig:=⟨19,[(0,.sl .expr false),(4,.int .i64),(7,.int .i64),(8,.int .i64)],[(1,.fn 260 [])],[],80,80,400,[],[]⟩
abbrev Oy:=List Xpr×Int×Int×Int
def Mf{R:Type}(rec:Oy->Option R)(kx:Ex->Oy->Option R)(v:Oy):Option R:=match v with
 |(v,v1,v2,v3) =>
 cond (decide (v3<v2)) (
  chk (inb v3 v.length) (
  cond (!(A5 (at' .expr v v3) 30)) (
   kx .ret (v,v3,v2,v3)) (
   rec (v,v1,v2,(wr .i64 (v3+1)))))) (
  kx (.exit 0) (v,v1,v2,v3))
def Ph(R:Type)(_k:Nat):Px R:=pxO [(133,cA P3)] [] [] []
noncomputable def Uz(R:Type)(k:Nat):Px R:=pxO [(260,Bi 120 600 (Ph R k) Tryz.f260)] [] [(2,Am k Ad0 (Mf))] []
noncomputable def Acu(R:Type)(k:Nat):Px R:=pxO [(231,Bi 80 400 (Uz R k) Tryz.f231)] [] [] []
noncomputable def Anp(R:Type)(k:Nat):Px R:=pxO [(188,Bi 40 200 (Acu R k) Tryz.f188)] [] [] []
def Acw(k:Nat)(x:HV [.sl .expr false]):Option (HV [.bool]):=match x with
 |l =>
 cond (decide ((l.length:Int)<=100)) (
  Ak (λrec=>Mf rec (λe vz=>match vz with|(_,v5,_,_)=>match e with
  |.ret =>some (!(decide (0<=v5)))
  |.exit 0 =>some true
  |_=>none)) k (l,0,(l.length:Int),0)) (
  some false)
theorem A4p(k:Nat):FO 218 [.sl .expr false] [.bool] (Acw k):=fR (px:=Anp _ k) (n:=0) Tryz.func218 rfl (λcx H=>by have h3:Lv cx (Ph (HV [.bool]) k):=lv H (c1 H Sz Ae) Aa Ab;have h2:Lv cx (Uz (HV [.bool]) k):=lv H (A2 (cR H h3 Tryz.func260 rfl (n:=0) (Aj)) Ae) Aa Ab;have hlaexprs_0:=lO H h2 (b:=lp Tryz.f231 0) (k:=k) (n:=0) (s:=Ad0) (step:=Mf) (λ_ _ _ (_,_,_,_)=>by kernel_rfl) Aj;have h1:Lv cx (Acu (HV [.bool]) k):=lv H (A2 (cR H h2 Tryz.func231 rfl (n:=1) ((A3 Aj hlaexprs_0))) Ae) Aa Ab;have h0:Lv cx (Anp (HV [.bool]) k):=lv H (A2 (cR H h1 Tryz.func188 rfl (n:=0) (Aj)) Ae) Aa Ab;exact⟨h0,Aj⟩) λ_=>by kernel_rfl
def Fx(l:List Xpr):Bool:=decide (l.length<=100)&&l.all λe=>A5 e 30
def Y0:FT [.sl .expr false] [.bool]:=λx=>some (Fx x)
theorem Avo{R:Type}{kx:Ex->Oy->Option R}{l:List Xpr}{c:Bool->Option R}(hn:ln l.length)(h1:∀i:Nat,kx .ret (l,(i:Int),(l.length:Int),(i:Int))=c false)(h2:∀q i,kx (.exit 0) (l,q,(l.length:Int),i)=c true)(k:Nat)(hk:l.length<k) :
  Ak (λrec=>Mf rec kx) k (l,0,(l.length:Int),0)=c (l.all λe=>A5 e 30):=by
 refine(Ay l.length (λi=>(l,(0:Int),(l.length:Int),(i:Int))) (λi=>c ((l.drop i).all λe=>A5 e 30)) (λi hi rec hr =>?_) (λrec =>?_) k 0 (Nat.zero_le _) (by omega)).trans (by rw[Zq1])
 ·simp only[Mf,Br hi,Ao hi,Al (c :=.expr) hi,An hi hn,hr,h1,Ah hi,Zv1];cases A5 l[i] 30<;>rfl
 ·simp only[Mf,Bu,h2];rw[Zk1 (Zn1 _)];rfl
theorem Aq5:FO 218 [.sl .expr false] [.bool] Y0 :=.fin 0 A4p λl r hb hx=>⟨l.length+1,by
 simp only[Y0,Za1] at hx;rw[<-hx];simp only[Acw,Fx];rw[show decide ((l.length:Int)<=100)=decide (l.length<=100) from Zy1.2 (by omega)];cases decide (l.length<=100) with
 |false=>rfl
 |true =>rw[Ag,Bool.true_and];exact Avo (l:=l) (c:=some) hb.1 (λi=>by simp) (λ_ _=>rfl) (l.length+1) (by omega)⟩
def Aig:Sig:=⟨19,[(0,.sl .exprs false),(4,.int .i64),(7,.int .i64),(8,.int .i64)],[(1,.fn 262 [])],[],80,80,400,[],[]⟩
abbrev Tj:=List (List Xpr)×Int×Int×Int
def Ua{R:Type}(rec:Tj->Option R)(kx:Ex->Tj->Option R)(v:Tj):Option R:=match v with
 |(v,v1,v2,v3) =>
 cond (decide (v3<v2)) (
  chk (inb v3 v.length) (
  cond (decide (((at' .exprs v v3).length:Int)=0)) (
   kx .ret (v,v3,v2,v3)) (
   cond (!(Fx (at' .exprs v v3))) (
   kx .ret (v,v3,v2,v3)) (
   rec (v,v1,v2,(wr .i64 (v3+1))))))) (
  kx (.exit 0) (v,v1,v2,v3))
def Qf(R:Type)(_k:Nat):Px R:=pxO [(218,cA Y0)] [] [] []
noncomputable def Zq(R:Type)(k:Nat):Px R:=pxO [(262,Bi 120 600 (Qf R k) Tryz.f262)] [] [(2,Am k Aig (Ua))] []
noncomputable def Aj9(R:Type)(k:Nat):Px R:=pxO [(277,Bi 80 400 (Zq R k) Tryz.f277)] [] [] []
noncomputable def Avm(R:Type)(k:Nat):Px R:=pxO [(216,cA Yx),(261,Bi 40 200 (Aj9 R k) Tryz.f261)] [] [] []
def Aku(k:Nat)(x:HV [.sl .exprs false]):Option (HV [.bool]):=match x with
 |l =>
 cond ((C0 (l.length:Int))) (
  Ak (λrec=>Ua rec (λe vz=>match vz with|(_,v5,_,_)=>match e with
  |.ret =>some (!(decide (0<=v5)))
  |.exit 0 =>some true
  |_=>none)) k (l,0,(l.length:Int),0)) (
  some false)
theorem Bbj(k:Nat):FO 219 [.sl .exprs false] [.bool] (Aku k):=fR (px:=Avm _ k) (n:=0) Tryz.func219 rfl (λcx H=>by have h3:Lv cx (Qf (HV [.bool]) k):=lv H (c1 H Aq5 Ae) Aa Ab;have h2:Lv cx (Zq (HV [.bool]) k):=lv H (A2 (cR H h3 Tryz.func262 rfl (n:=0) (Aj)) Ae) Aa Ab;have hlarows_0:=lO H h2 (b:=lp Tryz.f277 0) (k:=k) (n:=0) (s:=Aig) (step:=Ua) (λ_ _ _ (_,_,_,_)=>by kernel_rfl) Aj;have h1:Lv cx (Aj9 (HV [.bool]) k):=lv H (A2 (cR H h2 Tryz.func277 rfl (n:=1) ((A3 Aj hlarows_0))) Ae) Aa Ab;have h0:Lv cx (Avm (HV [.bool]) k):=lv H (c1 H Yw (A2 (cR H h1 Tryz.func261 rfl (n:=0) (Aj)) Ae)) Aa Ab;exact⟨h0,Aj⟩) λ_=>by kernel_rfl
def Af4(r:List Xpr):Bool := !decide (r.length=0)&&Fx r
def Am7(l:List (List Xpr)):Bool:=C0 (l.length:Int)&&l.all Af4
def Aul:FT [.sl .exprs false] [.bool]:=λx=>some (Am7 x)
theorem A1j{R:Type}{kx:Ex->Tj->Option R}{l:List (List Xpr)}{c:Bool->Option R}(hn:ln l.length)(h1:∀i:Nat,kx .ret (l,(i:Int),(l.length:Int),(i:Int))=c false)(h2:∀q i,kx (.exit 0) (l,q,(l.length:Int),i)=c true)(k:Nat)(hk:l.length<k) :
  Ak (λrec=>Ua rec kx) k (l,0,(l.length:Int),0)=c (l.all Af4):=by
 refine(Ay l.length (λi=>(l,(0:Int),(l.length:Int),(i:Int))) (λi=>c ((l.drop i).all Af4)) (λi hi rec hr =>?_) (λrec =>?_) k 0 (Nat.zero_le _) (by omega)).trans (by rw[Zq1])
 ·simp only[Ua,Br hi,Ao hi,chk,Al (c :=.exprs) hi,An hi hn,hr,h1,Ah hi,Zv1,Af4];rw[show decide ((l[i].length:Int)=0)=decide (l[i].length=0) from Zy1.2 (by omega)];cases decide (l[i].length=0)<;>cases Fx l[i]<;>rfl
 ·simp only[Ua,Bu,h2];rw[Zk1 (Zn1 _)];rfl
theorem Bjr:FO 219 [.sl .exprs false] [.bool] Aul :=.fin 0 Bbj λl r hb hx=>⟨l.length+1,by
 simp only[Aul,Za1] at hx;rw[<-hx];simp only[Aku,Am7];cases C0 (l.length:Int) with
 |false=>rfl
 |true =>rw[Ag,Bool.true_and];exact A1j (l:=l) (c:=some) hb.1 (λi=>by simp) (λ_ _=>rfl) (l.length+1) (by omega)⟩
def Bfa(R:Type):Px R:=pxO [(251,cA Tg)] [] [] []
def Vv(x:HV [.sv .expr]):Option (HV [.bool]):=match x with
 |e =>
 some (Pu e (Xpr.mk 0 ⟨0,0,[]⟩ [] []))
theorem Bd7:FO 263 [.sv .expr] [.bool] (Vv):=fR (px:=Bfa _) (n:=0) Tryz.func263 rfl (λ_ H=>⟨lv H (c1 H Qu Ae) Aa Ab,Aj⟩) λ_=>by kernel_rfl
def Aq7(e:Xpr):Bool :=(Pu e (Xpr.mk 0 ⟨0,0,[]⟩ [] []))
theorem Bc5(x:HV [.sv .expr]):Vv x=some (Aq7 x):=by
 first
  |exact rfl
  |simp only[Vv,Aq7,As]
def A6u:FT [.sv .expr] [.bool]:=λx=>some (Aq7 x)
theorem Bjl:FO 263 [.sv .expr] [.bool] A6u :=.fin0 Bd7 λx _ _ hx=>(Bc5 x).trans hx
theorem Bjb(e:Xpr):Aq7 e=decide (e = .mk 0 ⟨0,0,[]⟩ [] []):=Ho e _
def Bdm(R:Type):Px R:=pxO [(263,cA A6u),(133,cA P3)] [] [] []
def P4(x:HV [.sv .stmt]):Option (HV [.bool]):=match x with
 |s =>
 cond (!s.has) (
  some (Aq7 (Hk s.whr))) (
  some (A5 (Hk s.whr) 30))
theorem A3g:FO 221 [.sv .stmt] [.bool] (P4):=fR (px:=Bdm _) (n:=0) Tryz.func221 rfl (λ_ H=>⟨lv H (c1 H Bjl (c1 H Sz Ae)) Aa Ab,Aj⟩) λ_=>by kernel_rfl
def G2(s:Stm):Bool :=
 cond (!s.has) (
  (Aq7 (Hk s.whr))) (
  (A5 (Hk s.whr) 30))
theorem A4g(x:HV [.sv .stmt]):P4 x=some (G2 x):=by
 first
  |exact rfl
  |simp only[P4,G2,As]
def Azu:FT [.sv .stmt] [.bool]:=λx=>some (G2 x)
theorem Ba5:FO 221 [.sv .stmt] [.bool] Azu :=.fin0 A3g λx _ _ hx=>(A4g x).trans hx
theorem Aqo(s:Stm):G2 s=cond s.has (A5 s.whr 30) (decide (s.whr = .mk 0 ⟨0,0,[]⟩ [] [])):=by simp only[G2,Gp,Bjb];cases s.has<;>rfl
def Ajt:Sig:=⟨44,[(0,.sl .col false),(2,.bool),(3,.sl .str true),(6,.sl .col false),(7,.int .i64),(8,.int .i64)],[],[],0,0,0,[],[]⟩
abbrev S9:=List Col×Bool×List Str×List Col×Int×Int
def S6{R:Type}(rec:S9->Option R)(kx:Ex->S9->Option R)(v:S9):Option R:=match v with
 |(v,v1,v2,v3,v4,v5) =>
 cond (decide (v5<v4)) (
  chk (inb v5 v3.length) (
  let j:=λ(p:Bool) =>
   cond (p) (
   kx .ret (v,false,v2,v3,v4,v5)) (
   cond (!decide (((at' .col v3 v5).ref)=[])) (
    cond (!(Cj ((at' .col v3 v5).ref))) (
    kx .ret (v,false,v2,v3,v4,v5)) (
    chk (decide (v2.length+1<=Af)) (
     rec (v,v1,(v2++[((at' .col v3 v5).name)]),v3,v4,(wr .i64 (v5+1)))))) (
    chk (decide (v2.length+1<=Af)) (
    rec (v,v1,(v2++[((at' .col v3 v5).name)]),v3,v4,(wr .i64 (v5+1))))))
  cond (decide ((at' .col v3 v5).kind<2)) (
   j true) (
   j (decide (5<(at' .col v3 v5).kind))))) (
  kx (.exit 0) (v,v1,v2,v3,v4,v5))
def Ayd(R:Type)(k:Nat):Px R:=pxO [(187,cA R0),(216,cA Yx),(217,cA Y7)] [] [(3,Am k Ajt (S6))] []
def Af2(k:Nat)(x:HV [.sl .col false]):Option (HV [.bool]):=match x with
 |l =>
 Ak (λrec=>S6 rec (λe vz=>match vz with|(v6,v7,v8,_,_,_)=>match e with
  |.ret =>
  some v7
  |.exit 0 =>
  cond ((C0 (v6.length:Int))) (
   some (C6 v8)) (
   some false)
  |_=>none)) k (l,false,[],l,(l.length:Int),0)
theorem Bbt(k:Nat):FO 215 [.sl .col false] [.bool] (Af2 k):=fR (px:=Ayd _ k) (n:=1) Tryz.func215 rfl (λcx H=>by have h0:Lv cx (Ayd (HV [.bool]) k):=lv H (c1 H Yj (c1 H Yw (c1 H Aic Ae))) Aa Ab;have hlacols_0:=lO H h0 (b:=lp Tryz.f215 0) (k:=k) (n:=0) (s:=Ajt) (step:=S6) (λ_ _ _ (_,_,_,_,_,_)=>by kernel_rfl) Aj;exact⟨h0,(A3 Aj hlacols_0)⟩) λ_=>by kernel_rfl
def Hc(c:Col):Bool:=decide (2<=c.kind)&&decide (c.kind<=5)&&(decide (c.ref=[])||Cj c.ref)
def A7t(l:List Col):Option Bool:=if l.length<=2000000 then some (l.all Hc&&C0 (l.length:Int)&&C6 (l.map (·.name))) else none
def Arl:FT [.sl .col false] [.bool]:=λx=>A7t x
theorem A1u{R:Type}{kx:Ex->S9->Option R}{l:List Col}{c:Bool->Option R}(hn:l.length<=2000000)(h1:∀o i,kx .ret (l,false,o,l,(l.length:Int),i)=c false)(h2:∀q o i,kx (.exit 0) (l,q,o,l,(l.length:Int),i)=cond (C0 (l.length:Int)) (c (C6 o)) (c false))(k:Nat)(hk:l.length<k) :
  Ak (λrec=>S6 rec kx) k (l,false,[],l,(l.length:Int),0)=c (l.all Hc&&C0 (l.length:Int)&&C6 (l.map (·.name))):=by
 have hl:ln l.length:=by simp[ln];omega
 refine(Ay l.length (λi=>(l,false,(l.take i).map (·.name),l,(l.length:Int),(i:Int))) (λi=>c ((l.drop i).all Hc&&C0 (l.length:Int)&&C6 (l.map (·.name)))) (λi hi rec hr =>?_) (λrec =>?_) k 0 (Nat.zero_le _) (by omega)).trans (by rw[Zq1])
 ·have ht:(l.take (i+1)).map (·.name)=(l.take i).map (·.name)++[l[i].name]:=by rw[List.take_add_one,Zo1 hi,List.map_append];rfl
  have hlen:((l.take i).map (·.name)).length+1<=Af:=by simp[List.length_map,List.length_take,Af];omega
  rw[ht] at hr;simp only[S6,Br hi,Ag,Ao hi,chk,Al (c :=.col) hi,An hi hl,hr,h1,Ah hi,Zv1,Hc,Ze1 hlen];by_cases ha:l[i].kind<2
  ·grind
  ·grind
 ·simp only[S6,Bu,Ai,h2];rw[Zk1 (Zn1 _),List.take_length];cases C0 (l.length:Int)<;>rfl
theorem Bj5:FO 215 [.sl .col false] [.bool] Arl :=.fin 0 Bbt λl r hb hx=>⟨l.length+1,by
 simp only[Arl,A7t] at hx;split at hx
 ·rename_i h;rw[<-hx];simp only[Af2];refine A1u (l:=l) (c:=some) h (λ_ _=>rfl) (λ_ _ _ =>?_) (l.length+1) (by omega);cases C0 (l.length:Int)<;>rfl
 ·cases hx⟩
def Aiy:Sig:=⟨29,[(0,.sl .set false),(2,.bool),(3,.sl .str true),(6,.sl .set false),(7,.int .i64),(8,.int .i64)],[],[],0,0,0,[],[]⟩
abbrev Tc:=List SetE×Bool×List Str×List SetE×Int×Int
def Uc{R:Type}(rec:Tc->Option R)(kx:Ex->Tc->Option R)(v:Tc):Option R:=match v with
 |(v,v1,v2,v3,v4,v5) =>
 cond (decide (v5<v4)) (
  chk (inb v5 v3.length) (
  cond (!(A5 (Hk ((at' .set v3 v5).e)) 30)) (
   kx .ret (v,false,v2,v3,v4,v5)) (
   chk (decide (v2.length+1<=Af)) (
   rec (v,v1,(v2++[((at' .set v3 v5).name)]),v3,v4,(wr .i64 (v5+1))))))) (
  kx (.exit 0) (v,v1,v2,v3,v4,v5))
def Aw0(R:Type)(k:Nat):Px R:=pxO [(133,cA P3),(216,cA Yx),(217,cA Y7)] [] [(3,Am k Aiy (Uc))] []
def Ako(k:Nat)(x:HV [.sl .set false]):Option (HV [.bool]):=match x with
 |l =>
 Ak (λrec=>Uc rec (λe vz=>match vz with|(v6,v7,v8,_,_,_)=>match e with
  |.ret =>
  some v7
  |.exit 0 =>
  cond ((C0 (v6.length:Int))) (
   some (C6 v8)) (
   some false)
  |_=>none)) k (l,false,[],l,(l.length:Int),0)
theorem A8n(k:Nat):FO 220 [.sl .set false] [.bool] (Ako k):=fR (px:=Aw0 _ k) (n:=1) Tryz.func220 rfl (λcx H=>by have h0:Lv cx (Aw0 (HV [.bool]) k):=lv H (c1 H Sz (c1 H Yw (c1 H Aic Ae))) Aa Ab;have hlasets_0:=lO H h0 (b:=lp Tryz.f220 0) (k:=k) (n:=0) (s:=Aiy) (step:=Uc) (λ_ _ _ (_,_,_,_,_,_)=>by kernel_rfl) Aj;exact⟨h0,(A3 Aj hlasets_0)⟩) λ_=>by kernel_rfl
def A4x(l:List SetE):Option Bool:=if l.length<=2000000 then some (l.all (λx=>A5 x.e 30)&&C0 (l.length:Int)&&C6 (l.map (·.name))) else none
def At1:FT [.sl .set false] [.bool]:=λx=>A4x x
theorem A1v{R:Type}{kx:Ex->Tc->Option R}{l:List SetE}{c:Bool->Option R}(hn:l.length<=2000000)(h1:∀o i,kx .ret (l,false,o,l,(l.length:Int),i)=c false)(h2:∀q o i,kx (.exit 0) (l,q,o,l,(l.length:Int),i)=cond (C0 (l.length:Int)) (c (C6 o)) (c false))(k:Nat)(hk:l.length<k) :
  Ak (λrec=>Uc rec kx) k (l,false,[],l,(l.length:Int),0)=c (l.all (λx=>A5 x.e 30)&&C0 (l.length:Int)&&C6 (l.map (·.name))):=by
 have hl:ln l.length:=by simp[ln];omega
 refine(Ay l.length (λi=>(l,false,(l.take i).map (·.name),l,(l.length:Int),(i:Int))) (λi=>c ((l.drop i).all (λx=>A5 x.e 30)&&C0 (l.length:Int)&&C6 (l.map (·.name)))) (λi hi rec hr =>?_) (λrec =>?_) k 0 (Nat.zero_le _) (by omega)).trans (by rw[Zq1])
 ·have ht:(l.take (i+1)).map (·.name)=(l.take i).map (·.name)++[l[i].name]:=by rw[List.take_add_one,Zo1 hi,List.map_append];rfl
  have hlen:((l.take i).map (·.name)).length+1<=Af:=by simp[List.length_map,List.length_take,Af];omega
  rw[ht] at hr;simp only[Uc,Br hi,Ag,Ao hi,chk,Al (c :=.set) hi,An hi hl,hr,h1,Ah hi,Zv1,Ze1 hlen,Gp];cases A5 l[i].e 30<;>rfl
 ·simp only[Uc,Bu,Ai,h2];rw[Zk1 (Zn1 _),List.take_length];cases C0 (l.length:Int)<;>rfl
theorem Bj2:FO 220 [.sl .set false] [.bool] At1 :=.fin 0 A8n λl r hb hx=>⟨l.length+1,by
 simp only[At1,A4x] at hx;split at hx
 ·rename_i h;rw[<-hx];simp only[Ako];refine A1v (l:=l) (c:=some) h (λ_ _=>rfl) (λ_ _ _ =>?_) (l.length+1) (by omega);cases C0 (l.length:Int)<;>rfl
 ·cases hx⟩
def noX:Xpr :=.mk 0 ⟨0,0,[]⟩ [] []
def noS:Stm:=⟨0,[],[],[],[],[],[],[],false,noX,[],[],0⟩
def Bj1(R:Type):Px R:=pxO [] [] [] []
def Ald(x:HV [.sv .stmt]):Option (HV [.sv .stmt]):=match x with
 |s =>
 cond (decide (s.kind=1)) (
  some (Stm.mk 0 [] s.on [] [] [] s.rows s.sets s.has (Hk s.whr) s.order s.desc s.most)) (
  cond (decide (s.kind=3)) (
  some (Stm.mk 0 [] [] s.cols [] s.l s.rows s.sets s.has (Hk s.whr) s.order s.desc s.most)) (
  cond (decide (s.kind=5)) (
   some (Stm.mk 0 [] s.on s.cols s.names s.l [] s.sets s.has (Hk s.whr) s.order s.desc s.most)) (
   cond (decide (s.kind=6)) (
   some (Stm.mk 0 [] s.on s.cols s.names s.l s.rows [] false (Xpr.mk 0 ⟨0,0,[]⟩ [] []) s.order s.desc s.most)) (
   cond (decide (s.kind=7)) (
    some (Stm.mk 0 [] s.on s.cols s.names s.l s.rows s.sets false (Xpr.mk 0 ⟨0,0,[]⟩ [] []) s.order s.desc s.most)) (
    cond (decide (s.kind=8)) (
    some (Stm.mk 0 [] s.on s.cols s.names [] s.rows s.sets false (Xpr.mk 0 ⟨0,0,[]⟩ [] []) [] [] 0)) (
    some (Stm.mk 0 [] s.on s.cols s.names s.l s.rows s.sets s.has (Hk s.whr) s.order s.desc s.most)))))))
theorem Bb2:FO 214 [.sv .stmt] [.sv .stmt] (Ald):=fR (px:=Bj1 _) (n:=0) Tryz.func214 rfl (λ_ H=>⟨lv H Ae Aa Ab,Aj⟩) λ_=>by kernel_rfl
def Cl(s:Stm):Stm :=
 if s.kind=1 then { s with kind:=0,name:=[],cols:=[],names:=[],l:=[] }
 else if s.kind=3 then { s with kind:=0,name:=[],on:=[],names:=[] }
 else if s.kind=5 then { s with kind:=0,name:=[],rows:=[] }
 else if s.kind=6 then { s with kind:=0,name:=[],sets:=[],has:=false,whr:=noX }
 else if s.kind=7 then { s with kind:=0,name:=[],has:=false,whr:=noX }
 else if s.kind=8 then { s with kind:=0,name:=[],l:=[],has:=false,whr:=noX,order:=[],desc:=[],most:=0 }
 else { s with kind:=0,name:=[] }
def Ar9:FT [.sv .stmt] [.sv .stmt]:=λx=>some (Cl x)
theorem Bjd:FO 214 [.sv .stmt] [.sv .stmt] Ar9 :=.fin0 Bb2 λs r hb hx=>by
 simp only[Ar9,Za1] at hx;rw[<-hx];simp only[Ald,Cl,Gp,Bool.cond_decide];split; · rfl
 split; · rfl
 split; · rfl
 split; · rfl
 split; · rfl
 split<;>rfl
def Bb1(R:Type):Px R:=pxO [(187,cA R0),(214,cA Ar9),(213,cA A0o),(215,cA Arl),(216,cA Yx),(217,cA Y7),(218,cA Y0),(219,cA Aul),(220,cA At1),(221,cA Azu)] [] [] []
def Acs(x:HV [.sv .stmt]):Option (HV [.int .i64]):=match x with
 |s =>
 let j7:=λ(p1:Bool) =>
  cond (decide (s.kind=1)) (
  let j1:=λ(p2:Bool) =>
   let j:=λ(p3:Bool) =>
   cond (p3) (
    cond ((C6 s.names)) (
    cond (!(Fx s.l)) (
     some 2) (
     some 0)) (
    some 2)) (
    some 2)
   cond (p2) (
   j (C0 (s.names.length:Int))) (
   j false)
  cond (p1) (
   (A7t s.cols).bind λx =>
   j1 x) (
   j1 false)) (
  cond (decide (s.kind=3)) (
   let j2:=λ(p7:Bool) =>
   cond (p7) (
    cond ((C0 (s.names.length:Int))) (
    cond (!(C6 s.names)) (
     some 2) (
     some 0)) (
    some 2)) (
    some 2)
   cond (p1) (
   j2 (Cj s.on)) (
   j2 false)) (
   let j6:=λ(a:Bool) =>
   cond (a) (
    cond (!p1) (
    some 2) (
    some 0)) (
    cond (decide (s.kind=5)) (
    cond (p1) (
     cond (!(Am7 s.rows)) (
     some 2) (
     some 0)) (
     some 2)) (
    cond (decide (s.kind=6)) (
     cond (p1) (
     (A4x s.sets).bind λx1 =>
      cond (x1) (
      cond (!(G2 s)) (
       some 2) (
       some 0)) (
      some 2)) (
     some 2)) (
     cond (decide (s.kind=7)) (
     cond (p1) (
      cond (!(G2 s)) (
      some 2) (
      some 0)) (
      some 2)) (
     cond (decide (s.kind=8)) (
      let j5:=λ(b:Bool) =>
      let j4:=λ(c:Bool) =>
       let j3:=λ(d:Bool) =>
       cond (d) (
        cond (decide ((s.desc.length:Int)=(s.order.length:Int))) (
        cond (!(decide ((-1)<=s.most))) (
         some 2) (
         some 0)) (
        some 2)) (
        some 2)
       cond (c) (
       j3 (C6 s.order)) (
       j3 false)
      cond (b) (
       j4 (G2 s)) (
       j4 false)
      cond (p1) (
      j5 (Fx s.l)) (
      j5 false)) (
      some 2)))))
   cond (decide (s.kind=2)) (
   j6 (decide (s.kind=2))) (
   j6 (decide (s.kind=4)))))
 cond ((Cj s.name)) (
  j7 (A0w (Cl s) (Stm.mk 0 [] [] [] [] [] [] [] false (Xpr.mk 0 ⟨0,0,[]⟩ [] []) [] [] 0))) (
  j7 false)
theorem A2d:FO 176 [.sv .stmt] [.int .i64] (Acs):=fR (px:=Bb1 _) (n:=0) Tryz.func176 rfl (λ_ H=>⟨lv H (c1 H Yj (c1 H Bjd (c1 H Bdb (c1 H Bj5 (c1 H Yw (c1 H Aic (c1 H Aq5 (c1 H Bjr (c1 H Bj2 (c1 H Ba5 Ae)))))))))) Aa Ab,Aj⟩) λ_=>by kernel_rfl
def Bm(s:Stm):Bool:=Cj s.name&&decide (Cl s=noS)&&(
 if s.kind=1 then s.cols.all Hc&&C0 (s.cols.length:Int)&&C6 (s.cols.map (·.name))&&C0 (s.names.length:Int)&&C6 s.names&&Fx s.l
 else if s.kind=3 then Cj s.on&&C0 (s.names.length:Int)&&C6 s.names
 else if s.kind=2\/s.kind=4 then true
 else if s.kind=5 then Am7 s.rows
 else if s.kind=6 then s.sets.all (λx=>A5 x.e 30)&&C0 (s.sets.length:Int)&&C6 (s.sets.map (·.name))&&G2 s
 else if s.kind=7 then G2 s
 else if s.kind=8 then Fx s.l&&G2 s&&C6 s.order&&decide (s.desc.length=s.order.length)&&decide (-1<=s.most)
 else false)
def Ab0(s:Stm):Option Int:=if s.cols.length<=2000000/\s.sets.length<=2000000 then some (cond (Bm s) 0 2) else none
def X7:FT [.sv .stmt] [.int .i64]:=λx=>Ab0 x
theorem Ap8:FO 176 [.sv .stmt] [.int .i64] X7 :=.fin0 A2d λs r hb hx=>by
 simp only[X7,Ab0] at hx;split at hx
 case isFalse=>cases hx
 rename_i h;rw[<-hx];have e1:A7t s.cols=some (s.cols.all Hc&&C0 (s.cols.length:Int)&&C6 (s.cols.map (·.name))):=if_pos h.1;have e2:A4x s.sets=some (s.sets.all (λx=>A5 x.e 30)&&C0 (s.sets.length:Int)&&C6 (s.sets.map (·.name))):=if_pos h.2;have e3:A0w (Cl s) (Stm.mk 0 [] [] [] [] [] [] [] false (Xpr.mk 0 ⟨0,0,[]⟩ [] []) [] [] 0)=decide (Cl s=noS):=Bdk _ _;have e4:decide ((s.desc.length:Int)=(s.order.length:Int))=decide (s.desc.length=s.order.length):=Zy1.2 (by omega);simp only[Acs,Bm,e1,e2,e3,e4,Zc1];generalize Cj s.name=A;generalize decide (Cl s=noS)=B;generalize (s.cols.all Hc&&C0 (s.cols.length:Int)&&C6 (s.cols.map (·.name)))=C;generalize C0 (s.names.length:Int)=D;generalize C6 s.names=E;generalize Fx s.l=F;generalize Cj s.on=G;generalize Am7 s.rows=H;generalize (s.sets.all (λx=>A5 x.e 30)&&C0 (s.sets.length:Int)&&C6 (s.sets.map (·.name)))=I;generalize G2 s=J;generalize C6 s.order=K;generalize decide (s.desc.length=s.order.length)=L;generalize decide (-1<=s.most)=M;by_cases h1:s.kind=1
 ·rw[Ze1 h1,if_pos h1];cases A<;>cases B<;>cases C<;>cases D<;>cases E<;>cases F<;>rfl
 rw[Zd1 h1,if_neg h1];by_cases h3:s.kind=3
 ·rw[Ze1 h3,if_pos h3];cases A<;>cases B<;>cases G<;>cases D<;>cases E<;>rfl
 rw[Zd1 h3,if_neg h3];by_cases h24:s.kind=2\/s.kind=4
 ·rw[if_pos h24];rcases h24 with h2|h2
  ·rw[Ze1 h2];cases A<;>cases B<;>rfl
  ·rw[Ze1 h2,Zd1 (show ¬s.kind=2 by omega)];cases A<;>cases B<;>rfl
 rw[if_neg h24,Zd1 (show ¬s.kind=2 by omega),Zd1 (show ¬s.kind=4 by omega)];by_cases h5:s.kind=5
 ·rw[Ze1 h5,if_pos h5];cases A<;>cases B<;>cases H<;>rfl
 rw[Zd1 h5,if_neg h5];by_cases h6:s.kind=6
 ·rw[Ze1 h6,if_pos h6];cases A<;>cases B<;>cases I<;>cases J<;>rfl
 rw[Zd1 h6,if_neg h6];by_cases h7:s.kind=7
 ·rw[Ze1 h7,if_pos h7];cases A<;>cases B<;>cases J<;>rfl
 rw[Zd1 h7,if_neg h7];by_cases h8:s.kind=8
 ·rw[Ze1 h8,if_pos h8];cases A<;>cases B<;>cases F<;>cases J<;>cases K<;>cases L<;>cases M<;>rfl
 rw[Zd1 h8,if_neg h8];cases A<;>cases B<;>rfl
def Qa:Sig:=⟨26,[(10,.int .i64),(11,.int .i64)],[(1,.ptr 0 0),(2,.ptr 1 0)],[(0,.oc [.int .i64,.int .i64,.int .i64,.str,.str] 2 .expr),(1,.one (.sv .expr)),(2,.one (.dn .expr))],3,0,0,[],[]⟩
abbrev F3:=Int×Int×Int×Int×Int×Str×Str×Int×Int×Xpr×List Xpr
def Jh{R:Type}(rf:FT [.sv .expr] [.sv .expr])(rec:F3->Option R)(kx:Ex->F3->Option R)(v:F3):Option R:=match v with
 |(v,v1,w,w1,w2,w3,w4,w5,w6,w7,w8) =>
 cond (decide (v1<v)) (
  chk (inO v1 w6) (
  chk (inb (w5+v1) w8.length) (
   (rf (at' .expr w8 (w5+v1))).bind λx =>
   chk (inO v1 w6) (
    chk (inb (w5+v1) w8.length) (
    rec (v,(wr .i64 (v1+1)),w,w1,w2,w3,w4,w5,w6,w7,(w8.set ((w5+v1):Int).toNat x))))))) (
  kx (.exit 0) (v,v1,w,w1,w2,w3,w4,w5,w6,w7,w8))
noncomputable def Ahe(R:Type)(_k:Nat)(rf:FT [.sv .expr] [.sv .expr]):Px R:=pxO [(225,Aap .expr)] [(181,qA rf)] [] []
noncomputable def Rn(R:Type)(k:Nat)(rf:FT [.sv .expr] [.sv .expr]):Px R:=pxO [(225,Aap .expr)] [(181,qA rf)] [(3,Asy (Ahe R k rf) (lp Tryz.f181 0) k Qa (Jh rf))] []
theorem Ayn(R:Type)(k:Nat)(rf:FT [.sv .expr] [.sv .expr]):∀(fr:List Fr) (rec:F3->Option R) (kx:Ex->F3->Option R) (v:F3),round (Rn R k rf) Qa (lp Tryz.f181 0) fr rec kx v=Jh rf rec kx v
 |fr,rec,kx,(v,v1,w,w1,w2,w3,w4,w5,w6,w7,w8)=>by kernel_rfl
def Ib(k:Nat)(rf:FT [.sv .expr] [.sv .expr])(x:HV [.sv .expr]):Option (HV [.sv .expr]):=match x with
 |e =>
 chk (decide (e.l.length<=2000000)) (
  cond (List.isEmpty e.l) (
  some (Xpr.mk e.kind ⟨e.v.kind,e.v.n,e.v.s⟩ e.name [])) (
  Ak (λrec=>Jh rf rec (λe vz=>match vz with|(_,_,v4,v5,v6,v7,v8,v9,a,_,b)=>match e with
   |.exit 0 =>
   chk (decide ((0:Int)<=v9)&&decide ((0:Int)<=a)&&decide ((v9+a)<=(b.length:Int))) (
    some (Xpr.mk v4 ⟨v5,v6,v7⟩ v8 (cut b v9 (v9+a))))
   |_=>none)) k ((e.l.length:Int),0,e.kind,e.v.kind,e.v.n,e.v.s,e.name,0,(e.l.length:Int),(Xpr.mk 0 ⟨0,0,[]⟩ [] []),e.l)))
theorem A1e(k:Nat)(rf:FT [.sv .expr] [.sv .expr])(hrf:FO 181 [.sv .expr] [.sv .expr] rf):FO 181 [.sv .expr] [.sv .expr] (Ib k rf):=fR (px:=Rn _ k rf) (n:=1) Tryz.func181 rfl (λcx H=>by have h0:Lv cx (Rn (HV [.sv .expr]) k rf):=lv H (A2 (cCl H Acz Z1) Ae) (q1 H hrf Aa) Ab;have h00:Lv cx (Ahe (HV [.sv .expr]) k rf):=lv H (A2 (cCl H Acz Z1) Ae) (q1 H hrf Aa) Ab;have hlcopied_0:B8 cx (Rn (HV [.sv .expr]) k rf) (lp Tryz.f181 0):=Akc h0.p h0.c h0.q (by rw[H.p];exact follows) h00.p h00.c h00.q (λ_ _ _=>rfl) (k:=k) (s:=Qa) (step:=Jh rf) (λ_ _=>by kernel_rfl) (by kernel_rfl) (Ayn _ k rf) (Ag1 (n:=0) (by kernel_rfl) Aj);exact⟨h0,(A3 Aj hlcopied_0)⟩) λ_=>by kernel_rfl
def Aka(e:Xpr):Option Xpr:=cond (decide (Aw e<=2000000)) (some e) none
def Ag7:FT [.sv .expr] [.sv .expr]:=λx=>Aka x
theorem Bp3{i n:Nat}(h:i<n):inO (i:Int) (n:Int)=true:=by simp[inO];omega
theorem Ax4{R:Type}{rf:FT [.sv .expr] [.sv .expr]}{kx:Ex->F3->Option R}{a b n:Int}{s nm:Str}{z:Xpr}{l:List Xpr}{c:Option R}(hn:ln l.length)(hrf:∀x,x∈l->rf x=some x)(h2:kx (.exit 0) ((l.length:Int),(l.length:Int),a,b,n,s,nm,0,(l.length:Int),z,l)=c)(k:Nat)(hk:l.length<k) :
  Ak (λrec=>Jh rf rec kx) k ((l.length:Int),0,a,b,n,s,nm,0,(l.length:Int),z,l)=c:=by
 refine Ay l.length (λi=>((l.length:Int),(i:Int),a,b,n,s,nm,0,(l.length:Int),z,l)) (λ_=>c) (λi hi rec hr =>?_) (λrec =>?_) k 0 (Nat.zero_le _) (by omega)
 ·simp only[Jh,Br hi,Ag,Int.zero_add,Bp3 hi,Ao hi,chk,Al (c :=.expr) hi,hrf _ (List.getElem_mem hi),Zc1,An hi hn,Int.toNat_natCast,List.set_getElem_self,hr]
 ·simp[Jh,h2]
theorem Akt(k:Nat):∀(n:Nat) (e:Xpr),BdExpr e->Aw e<=n->Aw e<=k->Aw e<=2000000->Ak (Ib k) n e=some e
 |0,e,_,h,_,_=>by have:=Cn e;omega
 |n+1,e,hb,h,hk,ho=>by
  obtain⟨hb4,hb5⟩:=Adu hb;rw[Ci] at h hk ho;have hl:=F0 e.l;have hrf:∀x,x∈e.l->Ak (Ib k) n x=some x:=λx hx=>Akt k n x (hb5 x hx) (by have:=A9 hx;omega) (by have:=A9 hx;omega) (by have:=A9 hx;omega);rw[A0];simp[Ib];rw[Ze1 (show e.l.length<=2000000 by omega)];simp[chk];cases he:e.l with
  |nil =>simp;obtain⟨kd,v,nm,l⟩:=e;simp[Xpr.l] at he;subst he;rfl
  |cons x t =>
   rw[<-he];have:List.isEmpty e.l=false:=by rw[he];rfl
   rw[this];simp;refine(Ax4 (c:=some e) hb4 hrf ?_ k (by omega));have h1:(decide ((0:Int)<=0)&&decide ((0:Int)<=(e.l.length:Int))&&decide ((0:Int)+(e.l.length:Int)<=(e.l.length:Int)))=true:=by simp
   simp only[h1,A77];cases e;rfl
theorem Bec:FO 181 [.sv .expr] [.sv .expr] Ag7:=by refine .fin (ι:=Nat) 0 (F:=λn=>Ak (Ib n) n) (λn=>FnOk.rec' (Sx.enters_of Tryz.func181 rfl rfl) (λrf hrf=>A1e n rf hrf) n) λe r hb hx=>⟨Aw e,?_⟩;simp only[Ag7,Aka] at hx;cases hd:decide (Aw e<=2000000) with|false=>rw[hd] at hx;cases hx|true =>rw[hd] at hx;exact(Akt (Aw e) (Aw e) e hb (Zn1 _) (Zn1 _) (of_decide_eq_true hd)).trans hx
def Aom:Sig:=⟨19,[(0,.sl .col false),(4,.int .i64),(7,.int .i64),(8,.int .i64)],[(1,.fn 266 [.ptr 1 0])],[(1,.cells [.str])],40,40,200,[],[]⟩
abbrev Ys:=List Col×Int×Int×Int×Str
def Abt{R:Type}(rec:Ys->Option R)(kx:Ex->Ys->Option R)(v:Ys):Option R:=match v with
 |(v,v1,v2,v3,w) =>
 cond (decide (v3<v2)) (
  chk (inb v3 v.length) (
  cond (decide (((at' .col v v3).name)=w)) (
   kx .ret (v,v3,v2,v3,w)) (
   rec (v,v1,v2,(wr .i64 (v3+1)),w)))) (
  kx (.exit 0) (v,v1,v2,v3,w))
def Adp(R:Type)(_k:Nat):Px R:=pxO [] [] [] []
noncomputable def Aqb(R:Type)(k:Nat):Px R:=pxO [(266,Bi 80 400 (Adp R k) Tryz.f266)] [] [(2,Am k Aom (Abt))] []
noncomputable def A54(R:Type)(k:Nat):Px R:=pxO [(265,Bi 40 200 (Aqb R k) Tryz.f265)] [] [] []
def Am4(k:Nat)(x:HV [.sv .tbl,.str]):Option (HV [.int .i64]):=match x with
 |(t,s) =>
 Ak (λrec=>Abt rec (λe vz=>match vz with|(_,v5,_,_,_)=>match e with
  |.ret =>
  some v5
  |.exit 0 =>
  some (-1)
  |_=>none)) k (t.cols,0,(t.cols.length:Int),0,s)
theorem Bhb(k:Nat):FO 224 [.sv .tbl,.str] [.int .i64] (Am4 k):=fR (px:=A54 _ k) (n:=0) Tryz.func224 rfl (λcx H=>by have h2:Lv cx (Adp (HV [.int .i64]) k):=lv H Ae Aa Ab;have h1:Lv cx (Aqb (HV [.int .i64]) k):=lv H (A2 (cR H h2 Tryz.func266 rfl (n:=0) (Aj)) Ae) Aa Ab;have hlscol_0:=lO H h1 (b:=lp Tryz.f265 0) (k:=k) (n:=0) (s:=Aom) (step:=Abt) (λ_ _ _ (_,_,_,_,_)=>by kernel_rfl) Aj;have h0:Lv cx (A54 (HV [.int .i64]) k):=lv H (A2 (cR H h1 Tryz.func265 rfl (n:=1) ((A3 Aj hlscol_0))) Ae) Aa Ab;exact⟨h0,Aj⟩) λ(_,_)=>by kernel_rfl
def Boo(t:Tbl)(s:Str):Int:=B9 t.cols s
def A1k:FT [.sv .tbl,.str] [.int .i64]:=λx=>some (Boo x.1 x.2)
theorem Bac{R:Type}{kx:Ex->Ys->Option R}{s:Str}{cols:List Col}{g:Int->Option R}(hn:ln cols.length)(h1:∀i:Nat,kx .ret (cols,(i:Int),(cols.length:Int),(i:Int),s)=g i)(h2:kx (.exit 0) (cols,0,(cols.length:Int),(cols.length:Int),s)=g (-1))(k:Nat)(hk:cols.length<k) :
  Ak (λrec=>Abt rec kx) k (cols,0,(cols.length:Int),0,s)=g (B9 cols s):=by
 refine(Ay cols.length (λi=>(cols,0,(cols.length:Int),(i:Int),s)) (λi=>g (A7 (cols.drop i) s i)) (λi hi rec hr =>?_) (λrec =>?_) k 0 (Nat.zero_le _) (by omega)).trans (by rw[Zq1];rfl)
 ·simp only[Abt,Br hi,Ao hi,Al (c :=.col) hi,An hi hn,hr,h1,Ah hi,A7,Bool.cond_decide];split<;>rfl
 ·simp only[Abt,Bu,h2];rw[Zk1 (Zn1 _)];rfl
theorem Bpe:FO 224 [.sv .tbl,.str] [.int .i64] A1k :=.fin 0 Bhb λ(t,s) r hb hx=>⟨t.cols.length+1,by simp only[A1k,Za1,Boo] at hx;simp only[Am4];exact(Bac (g:=some) hb.1.cols.1 (λ_=>rfl) rfl _ (by omega)).trans (congrArg some hx)⟩
def Apz:Sig:=⟨19,[(0,.sl .str false),(4,.int .i64),(7,.int .i64),(8,.int .i64)],[(1,.fn 223 [.ptr 0 0])],[(0,.one (.sv .tbl))],80,80,400,[],[]⟩
abbrev Yt:=List Str×Int×Int×Int×Tbl
def Aay{R:Type}(rec:Yt->Option R)(kx:Ex->Yt->Option R)(v:Yt):Option R:=match v with
 |(v,v1,v2,v3,w) =>
 cond (decide (v3<v2)) (
  chk (inb v3 v.length) (
  cond (decide ((Boo w (at' .str v v3))<0)) (
   kx .ret (v,v3,v2,v3,w)) (
   rec (v,v1,v2,(wr .i64 (v3+1)),w)))) (
  kx (.exit 0) (v,v1,v2,v3,w))
def Uv(R:Type)(_k:Nat):Px R:=pxO [(224,cA A1k)] [] [] []
noncomputable def Aea(R:Type)(k:Nat):Px R:=pxO [(223,Bi 120 600 (Uv R k) Tryz.f223)] [] [(2,Am k Apz (Aay))] []
noncomputable def Ap3(R:Type)(k:Nat):Px R:=pxO [(264,Bi 80 400 (Aea R k) Tryz.f264)] [] [] []
noncomputable def A70(R:Type)(k:Nat):Px R:=pxO [(222,Bi 40 200 (Ap3 R k) Tryz.f222)] [] [] []
def Aon(k:Nat)(x:HV [.sv .tbl,.sl .str false]):Option (HV [.bool]):=match x with
 |(t,names) =>
 Ak (λrec=>Aay rec (λe vz=>match vz with|(_,v5,_,_,_)=>match e with
  |.ret =>
  some (!(decide (0<=v5)))
  |.exit 0 =>
  some true
  |_=>none)) k (names,0,(names.length:Int),0,t)
theorem Bgf(k:Nat):FO 179 [.sv .tbl,.sl .str false] [.bool] (Aon k):=fR (px:=A70 _ k) (n:=0) Tryz.func179 rfl (λcx H=>by have h3:Lv cx (Uv (HV [.bool]) k):=lv H (c1 H Bpe Ae) Aa Ab;have h2:Lv cx (Aea (HV [.bool]) k):=lv H (A2 (cR H h3 Tryz.func223 rfl (n:=0) (Aj)) Ae) Aa Ab;have hlsall_0:=lO H h2 (b:=lp Tryz.f264 0) (k:=k) (n:=0) (s:=Apz) (step:=Aay) (λ_ _ _ (_,_,_,_,_)=>by kernel_rfl) Aj;have h1:Lv cx (Ap3 (HV [.bool]) k):=lv H (A2 (cR H h2 Tryz.func264 rfl (n:=1) ((A3 Aj hlsall_0))) Ae) Aa Ab;have h0:Lv cx (A70 (HV [.bool]) k):=lv H (A2 (cR H h1 Tryz.func222 rfl (n:=0) (Aj)) Ae) Aa Ab;exact⟨h0,Aj⟩) λ(_,_)=>by kernel_rfl
def Iq(t:Tbl)(names:List Str):Bool:=names.all λs => !decide (B9 t.cols s<0)
def Asr:FT [.sv .tbl,.sl .str false] [.bool]:=λx=>some (Iq x.1 x.2)
theorem Bcs{R:Type}{kx:Ex->Yt->Option R}{t:Tbl}{l:List Str}{a b:Option R}(hn:ln l.length)(h1:∀i:Nat,kx .ret (l,(i:Int),(l.length:Int),(i:Int),t)=a)(h2:kx (.exit 0) (l,0,(l.length:Int),(l.length:Int),t)=b)(k:Nat)(hk:l.length<k) :
  Ak (λrec=>Aay rec kx) k (l,0,(l.length:Int),0,t)=cond (Iq t l) b a:=by
 refine(Ay l.length (λi=>(l,0,(l.length:Int),(i:Int),t)) (λi=>cond (Iq t (l.drop i)) b a) (λi hi rec hr =>?_) (λrec =>?_) k 0 (Nat.zero_le _) (by omega)).trans (by rw[Zq1])
 ·simp only[Aay,Br hi,Ao hi,Al (c :=.str) hi,An hi hn,hr,h1,Ah hi,Iq,Zv1,Boo];cases decide (B9 t.cols l[i]<0)<;>rfl
 ·simp only[Aay,Bu,h2];rw[Zk1 (Zn1 _)];rfl
theorem A53:FO 179 [.sv .tbl,.sl .str false] [.bool] Asr :=.fin 0 Bgf λ(t,l) r hb hx=>⟨l.length+1,by
 simp only[Asr,Za1] at hx;simp only[Aon];refine(Bcs (a:=some false) (b:=some true) hb.2.1 (λi =>?_) rfl _ (by omega)).trans ?_
 ·show some (!decide ((0:Int)<=(i:Int)))=some false;rw[Ze1 (by omega)];rfl
 ·rw[<-hx];cases Iq t l<;>rfl⟩
structure LinC {α:Type}(c : α->α->Int):Prop where
 rng:∀x y,c x y = -1\/c x y=0\/c x y=1
 eq:∀x y,c x y=0↔x=y
 anti:∀x y,c y x = -(c x y)
 tr:∀x y z,c x y<=0->c y z<=0->c x z<=0
def Ha(p q:Int):Int:=if p=0 then q else p
theorem Ay8{p q:Int}(h:Ha p q<=0):p<=0/\(p=0->q<=0):=by simp[Ha] at h;split at h<;>omega
theorem Al9{α β:Type}{c : α->α->Int}{d : β->β->Int}(hc:LinC c){x y z : α}{u v w : β}(hd:d u v<=0->d v w<=0->d u w<=0)(h1:Ha (c x y) (d u v)<=0)(h2:Ha (c y z) (d v w)<=0):Ha (c x z) (d u w)<=0:=by
 obtain⟨a1,a2⟩:=Ay8 h1;obtain⟨b1,b2⟩:=Ay8 h2;simp[Ha];split
 ·rename_i h0;have e:=(hc.eq x z).1 h0;subst e;have an:=hc.anti x y
  grind
 ·exact(hc.tr x y z a1 b1)
def Qw{α:Type}(c : α->α->Int):List α->List α->Int
 |[],[]=>0
 |[],_::_ => -1
 |_::_,[]=>1
 |x::a,y::b=>Ha (c x y) (Qw c a b)
theorem Bmw{α:Type}{c : α->α->Int}(hc:LinC c):LinC (Qw c):=by
 refine⟨?_,?_,?_,?_⟩
 ·intro x;induction x with
  |nil=>intro y;cases y<;>simp[Qw]
  |cons x a ih =>
   intro y;cases y with
   |nil=>simp[Qw]
   |cons y b =>
    simp[Qw,Ha];split
    ·exact ih b
    ·exact hc.rng x y
 ·intro x;induction x with
  |nil=>intro y;cases y<;>simp[Qw]
  |cons x a ih =>
   intro y;cases y with
   |nil=>simp[Qw]
   |cons y b =>
    simp[Qw,Ha];split
    ·rename_i h;rw[ih b];exact⟨λe=>⟨(hc.eq x y).1 h,e⟩,λe=>e.2⟩
    ·rename_i h;exact⟨λe=>absurd e h,λe=>absurd ((hc.eq x y).2 e.1) h⟩
 ·intro x;induction x with
  |nil=>intro y;cases y<;>simp[Qw]
  |cons x a ih =>intro y;cases y with|nil=>simp[Qw]|cons y b =>have h:=hc.anti x y;have hb:=ih b;simp[Qw,Ha];split<;>split<;>omega
 ·intro x;induction x with
  |nil=>intro y z _ _;cases z<;>simp[Qw]
  |cons x a ih =>
   intro y z h1 h2;cases y with
   |nil=>simp[Qw] at h1
   |cons y b =>cases z with|nil=>simp[Qw] at h2|cons z e =>exact Al9 hc (λp q=>ih b e p q) h1 h2
theorem sg_lin:LinC D7:=by
 have e:∀x y,D7 x y=if x<y then -1 else if y<x then 1 else 0:=λx y=>by simp[D7,Bool.cond_decide]
 refine⟨λx y =>?_,λx y =>?_,λx y =>?_,λx y z h1 h2 =>?_⟩
 ·grind
 ·grind
 ·grind
 ·grind
def Bl9(a b:UInt8):Int:=D7 (a.toNat:Int) (b.toNat:Int)
theorem Bj6:LinC Bl9:=by
 refine⟨λx y=>sg_lin.rng _ _,λx y =>?_,λx y=>sg_lin.anti _ _,λx y z=>sg_lin.tr _ _ _⟩;simp[Bl9];rw[sg_lin.eq];constructor
 ·intro h;exact UInt8.toNat_inj.1 (by omega)
 ·intro h;rw[h]
theorem Axi:∀a b:Str,Hl a b=Qw Bl9 a b
 |[],[]=>rfl
 |[],_::_=>rfl
 |_::_,[]=>rfl
 |a::l,b::m=>by
  have ih:=Axi l m;simp[Hl,Lib.compareBytes] at ih ⊢;simp only[Qw,Ha,Bl9,D7,<-ih];by_cases h1:a<b
  ·have:(a.toNat:Int)<(b.toNat:Int):=by have:=UInt8.lt_iff_toNat_lt.1 h1;omega
   simp[h1,this]
  ·by_cases h2:b<a
   ·have h3:¬(a.toNat:Int)<(b.toNat:Int):=by have:=UInt8.lt_iff_toNat_lt.1 h2;omega
    have h4:(b.toNat:Int)<(a.toNat:Int):=by have:=UInt8.lt_iff_toNat_lt.1 h2;omega
    simp[h1,h2,h3,h4]
   ·have h3:a=b:=UInt8.le_antisymm (UInt8.not_lt.1 h2) (UInt8.not_lt.1 h1);subst h3;simp
theorem scmp_lin:LinC Hl:=by
 have e:(Hl:Str->Str->Int)=Qw Bl9:=by funext a b;exact Axi a b
 rw[e];exact Bmw Bj6
theorem Ma(a b:Val):Nw a b=Ha (D7 a.kind b.kind) (Ha (D7 a.n b.n) (Hl a.s b.s)):=by
 simp only[Nw,Gg,Ha];by_cases h1:D7 a.kind b.kind=0
 ·rw[Ze1 h1,if_pos h1];by_cases h2:D7 a.n b.n=0
  ·rw[Ze1 h2,if_pos h2];rfl
  ·rw[Zd1 h2,if_neg h2];rfl
 ·rw[Zd1 h1,if_neg h1];rfl
theorem vcmp_lin:LinC Nw:=by
 refine⟨λx y =>?_,λx y =>?_,λx y =>?_,λx y z h1 h2 =>?_⟩
 ·rw[Ma];simp only[Ha];split
  ·split
   ·exact scmp_lin.rng _ _
   ·exact sg_lin.rng _ _
  ·exact sg_lin.rng _ _
 ·rw[Ma];have e1:=sg_lin.eq x.kind y.kind;have e2:=sg_lin.eq x.n y.n;have e3:=scmp_lin.eq x.s y.s;obtain⟨k,n,s⟩:=x;obtain⟨k',n',s'⟩:=y;simp only[Ha,Val.mk.injEq] at *;split
  ·split
   ·rename_i h1 h2;rw[e3,e1.1 h1,e2.1 h2];simp
   ·rename_i h1 h2;exact⟨λh=>absurd h h2,λh=>absurd (e2.2 h.2.1) h2⟩
  ·rename_i h1;exact⟨λh=>absurd h h1,λh=>absurd (e1.2 h.1) h1⟩
 ·rw[Ma,Ma];have e1:=sg_lin.anti x.kind y.kind;have e2:=sg_lin.anti x.n y.n;have e3:=scmp_lin.anti x.s y.s;simp only[Ha];split<;>split<;>(try split)<;>(try split)<;>omega
 ·rw[Ma] at h1 h2 ⊢;refine Al9 (d:=λ(p q:Int×Str)=>Ha (D7 p.1 q.1) (Hl p.2 q.2)) (u:=(x.n,x.s)) (v:=(y.n,y.s)) (w:=(z.n,z.s)) sg_lin ?_ h1 h2;intro h3 h4;exact Al9 (d:=Hl) sg_lin (λp q=>scmp_lin.tr _ _ _ p q) h3 h4
def ltN(a b:Str):Bool:=decide (Hl a b<0)
theorem A4z(a:Str):ltN a a=false:=by have:=(scmp_lin.eq a a).2 rfl;simp[ltN,this]
theorem A3w{a b c:Str}(h1:ltN a b=true)(h2:ltN b c=true):ltN a c=true:=by
 simp[ltN] at *;rcases Int.lt_or_eq_of_le (scmp_lin.tr a b c (by omega) (by omega)) with h|h
 ·exact h
 ·have e:=(scmp_lin.eq a c).1 h;subst e;have:=scmp_lin.anti a b;omega
theorem Bnf(a b:Str):ltN a b=true\/a=b\/ltN b a=true:=by
 simp[ltN];rcases scmp_lin.rng a b with h|h|h
 ·left;omega
 ·exact .inr (.inl ((scmp_lin.eq a b).1 h))
 ·right;have:=scmp_lin.anti a b;omega
theorem A11{a b:Str}(h:ltN a b=true):a≠b:=λe=>by rw[e,A4z] at h;cases h
def A8:List Idx->Bool
 |[]=>true
 |x::l=>l.all (λy=>ltN x.name y.name)&&A8 l
def Ll(l:List Idx)(x:Idx):List Idx:=l.takeWhile (λy=>ltN y.name x.name)++x::l.dropWhile (λy=>ltN y.name x.name)
def Pn(l:List Idx)(s:Str):Bool:=l.any λy=>decide (y.name=s)
def Eu(l:List Idx)(s:Str):Nat:=(l.takeWhile λy=>ltN y.name s).length
theorem A8c(l:List Idx)(s:Str):Eu l s<=l.length:=by
 induction l with
 |nil=>simp[Eu]
 |cons x l ih =>
  simp[Eu,List.takeWhile_cons] at ih ⊢;split
  ·simp;omega
  ·simp
theorem X1:∀{l:List Idx}{s:Str},A8 l=true->∀(h:Nat) (hl:h<l.length),ltN l[h].name s=decide (h<Eu l s)
 |[],_,_,h,hl=>by simp at hl
 |x::l,s,hs,h,hl=>by
  simp[A8,Zg2] at hs;have ih:=X1 (l:=l) (s:=s) hs.2;have hp:Eu (x::l) s=if ltN x.name s then Eu l s+1 else 0:=by simp[Eu,List.takeWhile_cons];split<;>simp
  rw[hp];cases hx:ltN x.name s with
  |true=>grind
  |false =>
   cases h with
   |zero=>simpa using hx
   |succ h =>simp;cases hq:ltN (l[h]'(by simpa using hl)).name s with|false=>rfl|true=>rw[A3w (hs.1 _ (List.getElem_mem _)) hq] at hx;cases hx
theorem O5:∀{l:List Idx},A8 l=true->∀(i j:Nat) (hi:i<l.length) (hj:j<l.length),i<j->ltN l[i].name l[j].name=true
 |[],_,i,j,hi,_,_=>by simp at hi
 |x::l,hs,i,j,hi,hj,hij=>by
  simp[A8,Zg2] at hs;cases j with
  |zero=>omega
  |succ j =>cases i with|zero=>grind|succ i=>exact O5 hs.2 i j (by simpa using hi) (by simpa using hj) (by omega)
theorem A5t{l:List Idx}{s:Str}:Pn l s=true↔∃y,y∈l/\y.name=s:=by simp[Pn]
theorem A7v{l:List Idx}{s:Str}(hs:A8 l=true):Pn l s=true↔∃h:Eu l s<l.length,l[Eu l s].name=s:=by
 rw[A5t];constructor
 ·rintro⟨y,hy,e⟩;obtain⟨k,hk,rfl⟩:=List.getElem_of_mem hy;have h1:=X1 (s:=s) hs k hk;rw[e,A4z] at h1;have hkp:¬k<Eu l s:=λh=>by rw[Ze1 h] at h1;cases h1
  have hpl:Eu l s<l.length:=by omega
  refine⟨hpl,?_⟩;rcases Nat.lt_or_eq_of_le (Nat.le_of_not_lt hkp) with h|h
  ·have h2:=O5 hs _ k hpl hk h;rw[e] at h2;have h3:=X1 (s:=s) hs _ hpl;rw[h2] at h3;simp at h3
  ·subst h;exact e
 ·grind
theorem Bi3(l:List Idx)(s:Str):l.take (Eu l s)=l.takeWhile (λy=>ltN y.name s):=by have:=List.takeWhile_append_dropWhile (p:=λy:Idx=>ltN y.name s) (l:=l);have h2:(l.takeWhile (λy=>ltN y.name s)++l.dropWhile (λy=>ltN y.name s)).take (Eu l s)=l.takeWhile (λy=>ltN y.name s):=List.take_left' rfl;rwa[this] at h2
theorem Bjw(l:List Idx)(s:Str):l.drop (Eu l s)=l.dropWhile (λy=>ltN y.name s):=by have:=List.takeWhile_append_dropWhile (p:=λy:Idx=>ltN y.name s) (l:=l);have h2:(l.takeWhile (λy=>ltN y.name s)++l.dropWhile (λy=>ltN y.name s)).drop (Eu l s)=l.dropWhile (λy=>ltN y.name s):=List.drop_left' rfl;rwa[this] at h2
theorem Alb(l:List Idx)(x:Idx):Ll l x=l.take (Eu l x.name)++x::l.drop (Eu l x.name):=by rw[Bi3,Bjw,Ll]
theorem A57{l:List Idx}{x y:Idx}:y∈Ll l x↔y=x\/y∈l:=by
 rw[Alb];have:y∈l↔y∈l.take (Eu l x.name)\/y∈l.drop (Eu l x.name):=by rw[<-List.mem_append,List.take_append_drop]
 constructor
 ·grind
 ·grind
theorem A7s(l:List Idx)(x:Idx):(Ll l x).length=l.length+1:=by rw[Alb];simp[ Za2];omega
theorem U9:∀{l:List Idx}{x:Idx},A8 l=true->Pn l x.name=false->A8 (Ll l x)=true
 |[],x,_,_=>by simp[Ll,A8]
 |y::l,x,hs,hh=>by
  have hs':=hs;simp[A8,Zg2] at hs';simp only[Pn,List.any_cons,Bool.or_eq_false_iff,decide_eq_false_iff_not] at hh;have ih:=U9 (l:=l) (x:=x) hs'.2 hh.2;cases hy:ltN y.name x.name with
  |true =>
   have e:Ll (y::l) x=y::Ll l x:=by simp[Ll,hy]
   rw[e];simp[A8,Zg2];refine⟨λz hz =>?_,ih⟩;rcases A57.1 hz with rfl|hz
   ·exact hy
   ·exact hs'.1 z hz
  |false =>
   have e:Ll (y::l) x=x::y::l:=by simp[Ll,hy]
   have hxy:ltN x.name y.name=true:=by
    rcases Bnf x.name y.name with h|h|h
    ·exact h
    ·exact absurd h.symm hh.1
    ·rw[h] at hy;cases hy
   rw[e];simp only[A8,Zb1,Zg2];refine⟨λz hz =>?_,hs'⟩;rcases List.mem_cons.1 hz with rfl|hz
   ·exact hxy
   ·exact A3w hxy (hs'.1 z hz)
theorem Awn:∀{l:List Idx}{x:Idx},(∀y,y∈l->ltN y.name x.name=true)->Ll l x=l++[x]
 |[],x,_=>rfl
 |y::l,x,h=>by
  have e:Ll (y::l) x=y::Ll l x:=by simp[Ll,(h y (by simp))]
  rw[e,Awn λz hz=>h z (by simp[hz])];rfl
theorem Uq:∀{p q:List Idx},A8 (p++q)=true->A8 p=true/\∀y z,y∈p->z∈q->ltN y.name z.name=true
 |[],_,_=>⟨rfl,λ_ _ h=>by cases h⟩
 |x::p,q,h=>by
  simp only[Zb2,A8,Zb1,Zg2,List.mem_append] at h;obtain⟨h1,h2⟩:=Uq h.2;refine⟨?_,λy z hy hz =>?_⟩
  ·simp[A8,Zg2];exact⟨λy hy=>h.1 y (.inl hy),h1⟩
  ·rcases List.mem_cons.1 hy with rfl|hy
   ·exact h.1 z (.inr hz)
   ·exact h2 y z hy hz
def Fi:Tbl:=⟨[],[],[],[],[]⟩
def Ax3(cols:List Col)(e:Xpr):Int:=cond (decide ((D5 e cols).2=0)) (cond (decide ((D5 e cols).1=2)||decide ((D5 e cols).1=1)) 0 151) (D5 e cols).2
def G1(cols:List Col):List Xpr->Int
 |[]=>0
 |e::l=>cond (decide (Ax3 cols e=0)) (G1 cols l) (Ax3 cols e)
def Abg(s:Stm):Bool:=decide (s.cols.length<=2000000)&&(decide (s.sets.length<=2000000)&&(decide (s.names.length<=2000000)&&(decide (s.l.length<=2000000)&&s.l.all λe=>decide (Aw e<=2000000))))
def H3(s:Stm):Tbl×Int:=cond (decide (s.kind=1)&&Bm s) (cond (Iq ⟨s.name,s.cols,s.names,[],[]⟩ s.names) (cond (decide (G1 s.cols s.l=0)) (⟨s.name,s.cols,s.names,s.l,[]⟩,0) (Fi,G1 s.cols s.l)) (Fi,150)) (Fi,2)
def Afl:Sig:=⟨70,[(3,.int .i64),(34,.sl .expr false),(35,.int .i64),(36,.int .i64)],[(2,.ptr 1 0),(4,.ptr 2 0)],[(1,.cells [.str,.sl .col true,.sl .str true,.sl .expr true,.sl .idx true]),(2,.cells [.str,.sl .col false,.sl .str false,.sl .expr true,.sl .idx true])],3,0,0,[],[]⟩
abbrev S8:=Int×List Xpr×Int×Int×Str×List Col×List Str×List Xpr×List Idx×Str×List Col×List Str×List Xpr×List Idx
def Tt{R:Type}(rec:S8->Option R)(kx:Ex->S8->Option R)(v:S8):Option R:=match v with
 |(v,v1,v2,v3,w,w1,w2,w3,w4,w5,w6,w7,w8,w9) =>
 cond (decide (v3<v2)) (
  chk (inb v3 v1.length) (
  let j:=λ(p6:Int) =>
   cond (!decide (p6=0)) (
   kx .ret (p6,v1,v2,v3,[],[],[],[],[],w5,w6,w7,w8,w9)) (
   (Aka (at' .expr v1 v3)).bind λx3 =>
    chk (decide (w8.length+1<=Af)) (
    rec (v,v1,v2,(wr .i64 (v3+1)),w,w1,w2,w3,w4,w5,w6,w7,(w8++[x3]),w9)))
  cond (decide ((D5 (at' .expr v1 v3) w6).2=0)) (
   cond (!decide ((D5 (at' .expr v1 v3) w6).1=2)) (
   cond (!decide ((D5 (at' .expr v1 v3) w6).1=1)) (
    j 151) (
    j ((D5 (at' .expr v1 v3) w6).2))) (
   j ((D5 (at' .expr v1 v3) w6).2))) (
   j ((D5 (at' .expr v1 v3) w6).2)))) (
  kx (.exit 0) (v,v1,v2,v3,w,w1,w2,w3,w4,w5,w6,w7,w8,w9))
def Auw(R:Type)(k:Nat):Px R:=pxO [(176,cA X7),(179,cA Asr),(180,cA A5l)] [(177,qA Amb),(178,qA Wz),(181,qA Ag7)] [(7,Am k Afl (Tt))] []
def Ahk(k:Nat)(x:HV [.sv .stmt]):Option (HV [.sv .tbl,.int .i64]):=match x with
 |s =>
 cond (!decide (s.kind=1)) (
  some ((Tbl.mk [] [] [] [] []),2)) (
  (Ab0 s).bind λx =>
  cond (!decide (x=0)) (
   some ((Tbl.mk [] [] [] [] []),2)) (
   (Akj s.cols).bind λx1 =>
   (Lr s.names).bind λx2 =>
    cond (!(Iq (Tbl.mk s.name x1 x2 [] []) x2)) (
    some ((Tbl.mk [] [] [] [] []),150)) (
    Ak (λrec=>Tt rec (λe vz=>match vz with|(v4,_,_,_,v8,v9,a,b,c,d,f,g,h,i)=>match e with
     |.ret =>
     some ((Tbl.mk v8 v9 a b c),v4)
     |.exit 0 =>
     some ((Tbl.mk d f g h i),0)
     |_=>none)) k (0,s.l,(s.l.length:Int),0,[],[],[],[],[],s.name,x1,x2,[],[]))))
theorem Bau(k:Nat):FO 129 [.sv .stmt] [.sv .tbl,.int .i64] (Ahk k):=fR (px:=Auw _ k) (n:=1) Tryz.func129 rfl (λcx H=>by have h0:Lv cx (Auw (HV [.sv .tbl,.int .i64]) k):=lv H (c1 H Ap8 (c1 H A53 (c1 H Bf0 Ae))) (q1 H Awo (q1 H Ads (q1 H Bec Aa))) Ab;have hlsmake_0:=lO H h0 (b:=lp Tryz.f129 0) (k:=k) (n:=0) (s:=Afl) (step:=Tt) (λ_ _ _ (_,_,_,_,_,_,_,_,_,_,_,_,_,_)=>by kernel_rfl) Aj;exact⟨h0,(A3 Aj hlsmake_0)⟩) λ_=>by kernel_rfl
def Azw(s:Stm):Option (Tbl×Int):=cond (Abg s) (some (H3 s)) none
def Asv:FT [.sv .stmt] [.sv .tbl,.int .i64]:=λx=>Azw x
theorem A3c{R:Type}{kx:Ex->S8->Option R}{nm:Str}{cols:List Col}{names:List Str}{l:List Xpr}{b:Option R}{g:Int->Option R}(hn:l.length<=2000000)(hs:l.all (λe=>decide (Aw e<=2000000))=true)(h1:∀(p:Int) (i:Nat) (acc:List Xpr),kx .ret (p,l,(l.length:Int),(i:Int),[],[],[],[],[],nm,cols,names,acc,[])=g p)(h2:kx (.exit 0) (0,l,(l.length:Int),(l.length:Int),[],[],[],[],[],nm,cols,names,l,[])=b)(k:Nat)(hk:l.length<k) :
  Ak (λrec=>Tt rec kx) k (0,l,(l.length:Int),0,[],[],[],[],[],nm,cols,names,[],[])=cond (decide (G1 cols l=0)) b (g (G1 cols l)):=by
 have hl:ln l.length:=by simp[ln];omega
 refine(Ay l.length (λi=>(0,l,(l.length:Int),(i:Int),[],[],[],[],[],nm,cols,names,l.take i,[])) (λi=>cond (decide (G1 cols (l.drop i)=0)) b (g (G1 cols (l.drop i)))) (λi hi rec hr =>?_) (λrec =>?_) k 0 (Nat.zero_le _) (by omega)).trans (by rw[Zq1])
 ·have ht:l.take (i+1)=l.take i++[l[i]]:=by rw[List.take_add_one,Zo1 hi];rfl
  have hlen:decide ((l.take i).length+1<=Af)=true:=Ze1 (by simp[ Af];omega);have hc:Aka l[i]=some l[i]:=by have:=Zg2.1 hs _ (List.getElem_mem hi);simp[Aka,this]
  rw[ht] at hr;simp only[Tt,Br hi,Ao hi,chk,Al (c :=.expr) hi,An hi hl,h1,Ah hi,G1,Ax3];by_cases hf:(D5 l[i] cols).2=0
  ·grind
  ·simp[hf]
 ·simp only[Tt,Bu,h2,List.take_length];rw[Zk1 (Zn1 _)];rfl
theorem Bd0{s:Stm}(h:Abg s=true):s.cols.length<=2000000/\s.sets.length<=2000000/\s.names.length<=2000000/\s.l.length<=2000000/\s.l.all (λe=>decide (Aw e<=2000000))=true:=by simp only[Abg,Zb1,Zg1] at h;exact h
theorem Bj7:FO 129 [.sv .stmt] [.sv .tbl,.int .i64] Asv :=.fin 0 Bau λs r hb hx=>⟨s.l.length+1,by
 simp only[Asv,Azw] at hx;cases hs:Abg s with
 |false=>rw[hs] at hx;cases hx
 |true =>
  rw[hs] at hx;simp only[Ag,Za1] at hx;rw[<-hx];obtain⟨q1,q2,q3,q4,q5⟩:=Bd0 hs;have ec:Ab0 s=some (cond (Bm s) 0 2):=if_pos ⟨q1,q2⟩;simp only[Ahk,ec,Zc1,Akj,Lr,Ze1 q1,Ze1 q3,Ag,H3];cases decide (s.kind=1) with
  |false=>rfl
  |true =>
   cases Bm s with
   |false=>rfl
   |true =>
    simp only[Zt1,Ai,Ag,Bool.and_self,decide_true];cases Iq ⟨s.name,s.cols,s.names,[],[]⟩ s.names with
    |false=>rfl
    |true =>simp only[Zt1,Ai,Ag];refine(A3c (g:=λp=>some (Fi,p)) (b:=some (⟨s.name,s.cols,s.names,s.l,[]⟩,0)) q4 q5 (λ_ _ _=>rfl) rfl _ (by omega)).trans ?_;cases decide (G1 s.cols s.l=0)<;>rfl⟩
def Be2(R:Type):Px R:=pxO [] [] [] []
def Ve(x:HV [.sv .tbl]):Option (HV [.sv .stmt]):=match x with
 |t =>
 some (Stm.mk 1 t.name [] t.cols t.key t.checks [] [] false (Xpr.mk 0 ⟨0,0,[]⟩ [] []) [] [] 0)
theorem Bdj:FO 130 [.sv .tbl] [.sv .stmt] (Ve):=fR (px:=Be2 _) (n:=0) Tryz.func130 rfl (λ_ H=>⟨lv H Ae Aa Ab,Aj⟩) λ_=>by kernel_rfl
def Et(t:Tbl):Stm :=(Stm.mk 1 t.name [] t.cols t.key t.checks [] [] false (Xpr.mk 0 ⟨0,0,[]⟩ [] []) [] [] 0)
theorem A8y(x:HV [.sv .tbl]):Ve x=some (Et x):=by
 first
  |exact rfl
  |simp only[Ve,Et,As]
def A46:FT [.sv .tbl] [.sv .stmt]:=λx=>some (Et x)
theorem Bmz:FO 130 [.sv .tbl] [.sv .stmt] A46 :=.fin0 Bdj λx _ _ hx=>(A8y x).trans hx
def Bd1(R:Type):Px R:=pxO [] [] [] []
def Q7(x:HV [.sv .tbl,.sv .idx]):Option (HV [.sv .stmt]):=match x with
 |(t,x) =>
 some (Stm.mk 3 x.name t.name [] x.cols [] [] [] false (Xpr.mk 0 ⟨0,0,[]⟩ [] []) [] [] 0)
theorem A3a:FO 132 [.sv .tbl,.sv .idx] [.sv .stmt] (Q7):=fR (px:=Bd1 _) (n:=0) Tryz.func132 rfl (λ_ H=>⟨lv H Ae Aa Ab,Aj⟩) λ(_,_)=>by kernel_rfl
def Bz(t:Tbl)(x:Idx):Stm :=(Stm.mk 3 x.name t.name [] x.cols [] [] [] false (Xpr.mk 0 ⟨0,0,[]⟩ [] []) [] [] 0)
theorem A17(x:HV [.sv .tbl,.sv .idx]):Q7 x=some (Bz x.1 x.2):=by
 first
  |exact rfl
  |simp only[Q7,Bz,As]
def Axy:FT [.sv .tbl,.sv .idx] [.sv .stmt]:=λx=>some (Bz x.1 x.2)
theorem A82:FO 132 [.sv .tbl,.sv .idx] [.sv .stmt] Axy :=.fin0 A3a λx _ _ hx=>(A17 x).trans hx
def A23(R:Type):Px R:=pxO [(93,cA Vr)] [] [] []
def Nq(x:HV [.sv .idx,.str]):Option (HV [.int .i64]):=match x with
 |(x,name) =>
 some (Gg x.name name)
theorem Azl:FO 183 [.sv .idx,.str] [.int .i64] (Nq):=fR (px:=A23 _) (n:=0) Tryz.func183 rfl (λ_ H=>⟨lv H (c1 H Ac2 Ae) Aa Ab,Aj⟩) λ(_,_)=>by kernel_rfl
def Ku(x:Idx)(name:Str):Int :=(Gg x.name name)
theorem A0k(x:HV [.sv .idx,.str]):Nq x=some (Ku x.1 x.2):=by
 first
  |exact rfl
  |simp only[Nq,Ku,As]
def Ap5:FT [.sv .idx,.str] [.int .i64]:=λx=>some (Ku x.1 x.2)
theorem A2l:FO 183 [.sv .idx,.str] [.int .i64] Ap5 :=.fin0 Azl λx _ _ hx=>(A0k x).trans hx
def Ahp:Sig:=⟨49,[(0,.sl .idx false),(1,.str),(8,.int .i64),(9,.int .i64),(10,.int .i64)],[(2,.fn 183 [])],[(0,.one (.sv .tbl)),(1,.one (.sv .stmt)),(2,.one (.sv .tbl))],40,40,200,[],[]⟩
abbrev T2:=List Idx×Str×Int×Int×Int×Tbl×Stm×Tbl
def S0{R:Type}(rec:T2->Option R)(kx:Ex->T2->Option R)(v:T2):Option R:=match v with
 |(v,v1,v2,v3,v4,w,w1,w2) =>
 cond (decide (v3<v4)) (
  chk (inb (wr .i64 (Ev .u64 (wr .u64 (wr .i64 (v3+v4))) 1)) v.length) (
  cond (decide ((Ku (at' .idx v (wr .i64 (Ev .u64 (wr .u64 (wr .i64 (v3+v4))) 1))) v1)<0)) (
   rec (v,v1,v2,(wr .i64 ((wr .i64 (Ev .u64 (wr .u64 (wr .i64 (v3+v4))) 1))+1)),v4,w,w1,w2)) (
   rec (v,v1,v2,v3,(wr .i64 (Ev .u64 (wr .u64 (wr .i64 (v3+v4))) 1)),w,w1,w2)))) (
  kx (.exit 0) (v,v1,v2,v3,v4,w,w1,w2))
def Aiu(R:Type)(k:Nat):Px R:=pxO [(183,cA Ap5)] [] [(3,Am k Ahp (S0))] []
noncomputable def Awm(R:Type)(k:Nat):Px R:=pxO [(176,cA X7),(179,cA Asr),(184,Afj),(182,Bi 40 200 (Aiu R k) Tryz.f182)] [(178,qA Wz)] [] [(185,Aes .idx)]
def Afs(k:Nat)(x:HV [.sv .tbl,.sv .stmt]):Option (HV [.sv .tbl,.int .i64]):=match x with
 |(t,s) =>
 cond (!decide (s.kind=3)) (
  some ((Tbl.mk [] [] [] [] []),2)) (
  (Ab0 s).bind λx =>
  cond (!decide (x=0)) (
   some ((Tbl.mk [] [] [] [] []),2)) (
   cond (!decide (s.on=t.name)) (
   some ((Tbl.mk [] [] [] [] []),2)) (
   Ak (λrec=>S0 rec (λe vz=>match vz with|(v5,v6,v7,v8,_,a,b,_)=>match e with
    |.exit 0 =>
    let j:=λ(c:Bool) =>
     cond (c) (
     some ((Tbl.mk [] [] [] [] []),160)) (
     cond (decide (100<=(a.idx.length:Int))) (
      some ((Tbl.mk [] [] [] [] []),3)) (
      cond (!(Iq a b.names)) (
      some ((Tbl.mk [] [] [] [] []),150)) (
      chk (decide (a.idx.length<=2000000)) (
       cond (List.isEmpty a.idx) (
       (Lr b.names).bind λx1 =>
        chk (decide (v8=0)) (
        some ((Tbl.mk a.name a.cols a.key a.checks [(Idx.mk b.name x1)]),0))) (
       (Lr b.names).bind λx2 =>
        chk (decide ((0:Int)=0)&&decide ((0:Int)<(a.idx.length:Int))&&decide ((a.idx.length:Int)=(a.idx.length:Int))&&decide ((0:Int)<=v8)&&decide (v8<=(a.idx.length:Int))&&decide ((a.idx.length:Int)<=(2000000:Int))) (
        some ((Tbl.mk a.name a.cols a.key a.checks (List.take (v8:Int).toNat a.idx++(Idx.mk b.name x2)::List.drop (v8:Int).toNat a.idx)),0)))))))
    cond (decide (v8<v7)) (
     chk (inb v8 v5.length) (
     j (decide ((Ku (at' .idx v5 v8) v6)=0)))) (
     j false)
    |_=>none)) k (t.idx,s.name,(t.idx.length:Int),0,(t.idx.length:Int),t,s,(Tbl.mk [] [] [] [] [])))))
theorem Bcd(k:Nat):FO 131 [.sv .tbl,.sv .stmt] [.sv .tbl,.int .i64] (Afs k):=fR (px:=Awm _ k) (n:=0) Tryz.func131 rfl (λcx H=>by have h1:Lv cx (Aiu (HV [.sv .tbl,.int .i64]) k):=lv H (c1 H A2l Ae) Aa Ab;have hlswith_0:=lO H h1 (b:=lp Tryz.f182 0) (k:=k) (n:=0) (s:=Ahp) (step:=S0) (λ_ _ _ (_,_,_,_,_,_,_,_)=>by kernel_rfl) Aj;have h0:Lv cx (Awm (HV [.sv .tbl,.int .i64]) k):=lv H (c1 H Ap8 (c1 H A53 (A2 (Bv5 H Bul) (A2 (cR H h1 Tryz.func182 rfl (n:=1) ((A3 Aj hlswith_0))) Ae)))) (q1 H Ads Aa) (Aph (Bwl H Ay7 Ar1) Ab);exact⟨h0,Aj⟩) λ(_,_)=>by kernel_rfl
def Azx(t:Tbl)(s:Stm):Tbl×Int:=cond (decide (s.kind=3)&&(Bm s&&decide (s.on=t.name))) (cond (Pn t.idx s.name) (Fi,160) (cond (decide (100<=t.idx.length)) (Fi,3) (cond (Iq t s.names) ({ t with idx:=Ll t.idx ⟨s.name,s.names⟩ },0) (Fi,150)))) (Fi,2)
def Aj4(t:Tbl)(s:Stm):Bool:=decide (s.cols.length<=2000000)&&(decide (s.sets.length<=2000000)&&(decide (s.names.length<=2000000)&&(decide (t.idx.length<=2000000)&&A8 t.idx)))
def Aww(t:Tbl)(s:Stm):Option (Tbl×Int):=cond (Aj4 t s) (some (Azx t s)) none
def Ar5:FT [.sv .tbl,.sv .stmt] [.sv .tbl,.int .i64]:=λx=>Aww x.1 x.2
theorem Bwh{n:Nat}(h:n<=4000000):wr .u64 (n:Int)=(n:Int):=by
 have e:wr .u64 (n:Int)=(n:Int) % 18446744073709551616:=by simp[wr,IntKind.wrap,IntKind.bits,IntKind.signed]
 omega
theorem Bth{a:Int}:Ev .u64 a 1=a / 2:=by show a.fdiv (2 ^ min (1:Int).toNat IntKind.u64.bits)=_;rw[show(2:Int) ^ min (1:Int).toNat IntKind.u64.bits=2 from by decide];exact Int.fdiv_eq_ediv_of_nonneg _ (by omega)
theorem Bpk{a b:Nat}(h:a+b<=4000000):wr .i64 (Ev .u64 (wr .u64 (wr .i64 ((a:Int)+(b:Int)))) 1)=(((a+b) / 2:Nat):Int):=by rw[show(a:Int)+(b:Int)=((a+b:Nat):Int) by omega,Bgv (by simp[ln];omega),Bwh h,Bth,show((a+b:Nat):Int) / 2=(((a+b) / 2:Nat):Int) by omega,Bgv (by simp[ln];omega)]
theorem V6{R:Type}{kx:Ex->T2->Option R}{l:List Idx}{nm:Str}{t t2:Tbl}{s:Stm}{c:Option R}(hs:A8 l=true)(hn:l.length<=2000000)(h2:kx (.exit 0) (l,nm,(l.length:Int),(Eu l nm:Int),(Eu l nm:Int),t,s,t2)=c):∀(k lo hi:Nat),lo<=Eu l nm->Eu l nm<=hi->hi<=l.length->hi-lo<k ->
  Ak (λrec=>S0 rec kx) k (l,nm,(l.length:Int),(lo:Int),(hi:Int),t,s,t2)=c
 |0,lo,hi,_,_,_,h=>by omega
 |k+1,lo,hi,h3,h4,h5,h=>by
  rw[A0];by_cases hlt:lo<hi
  ·have hm:(lo+hi) / 2<l.length:=by omega
   have hp:=X1 (s:=nm) hs _ hm;have hb:decide (Ku l[(lo+hi) / 2] nm<0)=decide ((lo+hi) / 2<Eu l nm):=hp;have ih1:=V6 hs hn h2 k ((lo+hi) / 2+1) hi;have ih2:=V6 hs hn h2 k lo ((lo+hi) / 2);simp only[S0,Bpk (show lo+hi<=4000000 by omega),Ao hm,chk,Al (c :=.idx) hm,An hm (show ln l.length by simp[ln];omega)];by_cases hq:(lo+hi) / 2<Eu l nm
   ·grind
   ·grind
  ·have e1:lo=Eu l nm:=by omega
   have e2:hi=Eu l nm:=by omega
   simp only[S0,Zd1 (show ¬(lo:Int)<(hi:Int) by omega)];rw[e1,e2];exact h2
theorem Bj3{l:List Idx}{nm:Str}(hs:A8 l=true){R:Type}{A B:Option R}:(cond (decide ((Eu l nm:Int)<(l.length:Int))) (chk (inb (Eu l nm:Int) l.length) (cond (decide (Ku (at' .idx l (Eu l nm:Int)) nm=0)) A B)) B)=cond (Pn l nm) A B:=by
 by_cases hp:Eu l nm<l.length
 ·rw[Ze1 (show(Eu l nm:Int)<(l.length:Int) by omega)];simp[ Ao hp,chk,Al (c :=.idx) hp];have e:decide (Ku l[Eu l nm] nm=0)=Pn l nm:=by
   rw[Bool.eq_iff_iff,A7v hs,Zg1];constructor
   ·intro h;exact⟨hp,(scmp_lin.eq _ _).1 h⟩
   ·rintro⟨_,h⟩;exact(scmp_lin.eq _ _).2 h
  rw[e]
 ·rw[Zd1 (show ¬(Eu l nm:Int)<(l.length:Int) by omega)];have e:Pn l nm=false:=by cases h:Pn l nm with|false=>rfl|true=>exact absurd ((A7v hs).1 h).1 hp
  rw[e];rfl
theorem Bdn{t:Tbl}{s:Stm}(h:Aj4 t s=true):s.cols.length<=2000000/\s.sets.length<=2000000/\s.names.length<=2000000/\t.idx.length<=2000000/\A8 t.idx=true:=by simp[Aj4] at h;exact h
theorem Bkl:FO 131 [.sv .tbl,.sv .stmt] [.sv .tbl,.int .i64] Ar5 :=.fin 0 Bcd λ(t,s) r hb hx=>⟨t.idx.length+1,by
 simp only[Ar5,Aww] at hx;cases hs:Aj4 t s with
 |false=>rw[hs] at hx;cases hx
 |true =>
  rw[hs] at hx;simp only[Ag,Za1] at hx;rw[<-hx];obtain⟨q1,q2,q3,q4,q5⟩:=Bdn hs;have ec:Ab0 s=some (cond (Bm s) 0 2):=if_pos ⟨q1,q2⟩;simp only[Afs,ec,Zc1,Lr,Azx];cases decide (s.kind=3) with
  |false=>rfl
  |true =>
   cases Bm s with
   |false=>rfl
   |true =>
    cases decide (s.on=t.name) with
    |false=>rfl
    |true =>
     simp only[Zt1,Ai,Ag,Bool.and_self,decide_true];refine(V6 (c:=some (cond (Pn t.idx s.name) (Fi,160) (cond (decide (100<=t.idx.length)) (Fi,3) (cond (Iq t s.names) ({ t with idx:=Ll t.idx ⟨s.name,s.names⟩ },0) (Fi,150))))) q5 q4 ?_ _ 0 t.idx.length (Nat.zero_le _) (A8c _ _) (Zn1 _) (by omega)).trans rfl;have hle:=A8c t.idx s.name;simp only;rw[Bj3 q5];cases Pn t.idx s.name with
     |true=>rfl
     |false =>
      have e100:decide ((100:Int)<=(t.idx.length:Int))=decide (100<=t.idx.length):=Zy1.2 (by omega);simp only[Ai,e100];cases decide (100<=t.idx.length) with
      |true=>rfl
      |false =>
       simp only[Ai];cases Iq t s.names with
       |false=>rfl
       |true =>
        simp only[Zt1,Ai,Ag,chk,Ze1 q4];simp only[Ze1 q3,Ag,Zc1];cases hE:t.idx.isEmpty with
        |true =>have h0:t.idx=[]:=List.isEmpty_iff.1 hE;simp only[Ag,h0];rfl
        |false =>
         have hpos : 0<t.idx.length:=by cases h0:t.idx with|nil=>rw[h0] at hE;cases hE|cons x l=>simp only[Zf1];omega
         simp only[Ai,Alb,Int.toNat_natCast];have hck:decide ((0:Int)<(t.idx.length:Int))=true/\decide ((0:Int)<=(Eu t.idx s.name:Int))=true/\decide ((Eu t.idx s.name:Int)<=(t.idx.length:Int))=true/\decide ((t.idx.length:Int)<=2000000)=true:=by simp only[Zg1];omega
         simp only[hck.1,hck.2.1,hck.2.2.1,hck.2.2.2,Bool.and_self,Ag]⟩
def Uy:Sig:=⟨58,[(3,.bool),(39,.sl .idx false),(40,.int .i64),(41,.int .i64)],[(1,.ptr 0 0),(2,.ptr 1 0),(4,.ptr 2 0)],[(0,.one (.sv .tbl)),(1,.one (.sv .tbl)),(2,.one (.sv .tbl))],3,0,0,[],[]⟩
abbrev Ir:=Bool×List Idx×Int×Int×Tbl×Tbl×Tbl
def Ht{R:Type}(rec:Ir->Option R)(kx:Ex->Ir->Option R)(v:Ir):Option R:=match v with
 |(d,b,c,a,w3,w4,w5) =>
 cond (decide (a<c)) (
  chk (inb a b.length) (
  chk (inb a w3.idx.length) (
   cond (!decide (((at' .idx b a).name)=((at' .idx w3.idx a).name))) (
   kx .ret (false,b,c,a,w3,(Tbl.mk [] [] [] [] []),w5)) (
   rec (d,b,c,(wr .i64 (a+1)),w3,w4,w5))))) (
  kx (.exit 2) (d,b,c,a,w3,w4,w5))
def Uu:Sig:=⟨58,[(3,.bool),(20,.sl .idx false),(21,.int .i64),(22,.int .i64)],[(1,.ptr 0 0),(2,.ptr 1 0),(4,.ptr 2 0)],[(0,.one (.sv .tbl)),(1,.one (.sv .tbl)),(2,.one (.sv .tbl))],3,0,0,[],[]⟩
abbrev Iv:=Bool×List Idx×Int×Int×Tbl×Tbl×Tbl
def Hh{R:Type}(rec:Iv->Option R)(kx:Ex->Iv->Option R)(v:Iv):Option R:=match v with
 |(v,v1,v2,v3,w,w1,w2) =>
 cond (decide (v3<v2)) (
  chk (inb v3 v1.length) (
  (Aww w2 (Bz w (at' .idx v1 v3))).bind λ(x2,x3) =>
   cond (!decide (x3=0)) (
   kx .ret (false,v1,v2,v3,w,(Tbl.mk [] [] [] [] []),x2)) (
   rec (v,v1,v2,(wr .i64 (v3+1)),w,w1,x2)))) (
  kx (.exit 0) (v,v1,v2,v3,w,w1,w2))
def Ad9(R:Type)(k:Nat):Px R:=pxO [(130,cA A46),(129,cA Asv)] [(132,qA Axy),(131,qA Ar5)] [(5,Am k Uu (Hh)),(12,Am k Uy (Ht))] []
def U3(k:Nat)(x:HV [.sv .tbl]):Option (HV [.sv .tbl,.bool]):=match x with
 |t =>
 (Azw (Et t)).bind λ(x,x1) =>
  cond (!decide (x1=0)) (
  some ((Tbl.mk [] [] [] [] []),false)) (
  Ak (λrec=>Hh rec (λe vz=>match vz with|(v4,_,_,_,v8,v9,a)=>match e with
   |.ret =>
   some (v9,v4)
   |.exit 0 =>
   Ak (λrec=>Ht rec (λe vz=>match vz with|(b,_,_,_,_,c,d)=>match e with
    |.ret =>
    some (c,b)
    |.exit 2 =>
    some (d,true)
    |_=>none)) k (v4,a.idx,(a.idx.length:Int),0,v8,v9,a)
   |_=>none)) k (false,t.idx,(t.idx.length:Int),0,t,(Tbl.mk [] [] [] [] []),x))
theorem Ati(k:Nat):FO 86 [.sv .tbl] [.sv .tbl,.bool] (U3 k):=fR (px:=Ad9 _ k) (n:=2) Tryz.func86 rfl (λcx H=>by have h0:Lv cx (Ad9 (HV [.sv .tbl,.bool]) k):=lv H (c1 H Bmz (c1 H Bj7 Ae)) (q1 H A82 (q1 H Bkl Aa)) Ab;have hlsrebuilt_0:=lO H h0 (b:=lp Tryz.f86 0) (k:=k) (n:=0) (s:=Uu) (step:=Hh) (λ_ _ _ (_,_,_,_,_,_,_)=>by kernel_rfl) Aj;have hlsrebuilt_1:=lO H h0 (b:=lp Tryz.f86 1) (k:=k) (n:=0) (s:=Uy) (step:=Ht) (λ_ _ _ (_,_,_,_,_,_,_)=>by kernel_rfl) Aj;exact⟨h0,(A3 (A3 Aj hlsrebuilt_0) hlsrebuilt_1)⟩) λ_=>by kernel_rfl
def Io(t:Tbl)(x:Idx):Bool:=Bm (Bz t x)&&Iq t x.cols
def ixs(t:Tbl):List Idx->List Idx->Option (List Idx)
 |acc,[]=>some acc
 |acc,x::l=>cond (Io t x&&(!Pn acc x.name&&decide (acc.length<100))) (ixs t (Ll acc x) l) none
def Ip(t:Tbl):Bool:=decide ((H3 (Et t)).2=0)&&(A8 t.idx&&(decide (t.idx.length<=100)&&t.idx.all (Io t)))
def Ij(t:Tbl):Bool:=Abg (Et t)&&(decide (t.idx.length<=2000000)&&t.idx.all λx=>decide (x.cols.length<=2000000))
def X5(t:Tbl):Option (Tbl×Bool):=cond (Ij t) (some (cond (Ip t) (t,true) (Fi,false))) none
def Vh:FT [.sv .tbl] [.sv .tbl,.bool]:=λx=>X5 x
theorem Bpu{t:Tbl}{acc:List Idx}{x:Idx}:Azx { t with idx:=acc } (Bz t x)=cond (Bm (Bz t x)) (cond (Pn acc x.name) (Fi,160) (cond (decide (100<=acc.length)) (Fi,3) (cond (Iq t x.cols) ({ t with idx:=Ll acc x },0) (Fi,150)))) (Fi,2):=by simp[Azx,Bz];rfl
theorem Ax8{t:Tbl}:∀{l acc a:List Idx},A8 acc=true->ixs t acc l=some a->A8 a=true/\(∀y,y∈a↔y∈acc\/y∈l)/\a.length=acc.length+l.length/\l.all (Io t)=true/\(acc.length<=100->a.length<=100)
 |[],acc,a,hs,h=>by simp[ixs] at h;subst h;exact⟨hs,by simp,by simp,rfl,id⟩
 |x::l,acc,a,hs,h=>by
  simp[ixs] at h;cases hc:Io t x&&(!Pn acc x.name&&decide (acc.length<100)) with
  |false=>rw[hc] at h;cases h
  |true =>
   rw[hc] at h;simp at h;simp at hc;obtain⟨h1,h2,h3,h4,h5⟩:=Ax8 (U9 hs hc.2.1) h;rw[A7s] at h3 h5;refine⟨h1,λy =>?_,by simp;omega,by simp[h4,hc.1],λ_=>h5 (by omega)⟩;rw[h2,A57,List.mem_cons];constructor
   ·grind
   ·grind
theorem Asd{t:Tbl}:∀{q p:List Idx},A8 (p++q)=true->(p++q).length<=100->q.all (Io t)=true->ixs t p q=some (p++q)
 |[],p,_,_,_=>by simp[ixs]
 |x::q,p,hs,hn,hk=>by
  simp only[Zv1,Zb1] at hk;have hlt:=(Uq hs).2;have h1:Pn p x.name=false:=by cases h:Pn p x.name with|false=>rfl|true =>obtain⟨y,hy,e⟩:=A5t.1 h;exact absurd e (A11 (hlt y x hy (by simp)))
  have h2:decide (p.length<100)=true:=Ze1 (by simp at hn;omega);have h3:Ll p x=p++[x]:=Awn λy hy=>hlt y x hy (by simp);simp[ixs,hk.1,h1,h2,h3];rw[Asd (by simpa using hs) (by simpa using hn) hk.2];simp
def Aeo:List Idx->List Idx->Bool
 |x::a,y::b=>decide (x.name=y.name)&&Aeo a b
 |_,_=>true
theorem Ax7:∀{a b:List Idx},Aeo a b=true->∀(i:Nat) (hi:i<a.length) (hj:i<b.length),a[i].name=b[i].name
 |[],_,_,i,hi,_=>by simp at hi
 |_::_,[],_,i,_,hj=>by simp at hj
 |x::a,y::b,h,i,hi,hj=>by simp[Aeo] at h;cases i with|zero=>exact h.1|succ i=>exact Ax7 h.2 i (by simpa using hi) (by simpa using hj)
theorem Arb:∀a:List Idx,Aeo a a=true
 |[]=>rfl
 |x::a=>by simp[Aeo,Arb a]
theorem A86{l:List Idx}(hs:A8 l=true){x y:Idx}(hx:x∈l)(hy:y∈l)(e:x.name=y.name):x=y:=by
 obtain⟨i,hi,rfl⟩:=List.getElem_of_mem hx;obtain⟨j,hj,rfl⟩:=List.getElem_of_mem hy;rcases Nat.lt_trichotomy i j with h|h|h
 ·exact absurd e (A11 (O5 hs i j hi hj h))
 ·subst h;rfl
 ·exact absurd e.symm (A11 (O5 hs j i hj hi h))
theorem Bp0{a b:List Idx}(hs:A8 a=true)(hm:∀y,y∈a↔y∈b)(hn:a.length=b.length)(h:Aeo a b=true):a=b :=List.ext_getElem hn λi hi hj=>A86 hs (List.getElem_mem hi) ((hm _).2 (List.getElem_mem hj)) (Ax7 h i hi hj)
theorem Btu{t:Tbl}{R:Type}{g:List Idx->R}{c:R}:(match ixs t [] t.idx with|some a=>cond (Aeo a t.idx) (g a) c|none=>c)=cond (A8 t.idx&&(decide (t.idx.length<=100)&&t.idx.all (Io t))) (g t.idx) c:=by
 cases hx:ixs t [] t.idx with
 |none =>cases hc:A8 t.idx&&(decide (t.idx.length<=100)&&t.idx.all (Io t)) with|false=>rfl|true =>simp only[Zb1] at hc;rw[Asd (p:=[]) (by simpa using hc.1) (by simpa using hc.2.1) hc.2.2] at hx;cases hx
 |some a =>
  obtain⟨h1,h2,h3,h4,h5⟩:=Ax8 (by rfl) hx;simp only;cases hs:Aeo a t.idx with
  |true =>have e:=Bp0 h1 (λy=>by rw[h2];simp) (by simpa using h3) hs;rw[<-e,h1];rw[<-e] at h4;rw[h4,Ze1 (h5 (by simp))];rfl
  |false =>cases hc:A8 t.idx&&(decide (t.idx.length<=100)&&t.idx.all (Io t)) with|false=>rfl|true =>simp only[Zb1] at hc;rw[Asd (p:=[]) (by simpa using hc.1) (by simpa using hc.2.1) hc.2.2] at hx;cases hx;rw[Zf2,Arb] at hs;cases hs
theorem Aao{t:Tbl}(h:Ij t=true):Abg (Et t)=true/\t.idx.length<=2000000/\∀x,x∈t.idx->x.cols.length<=2000000:=by simp[Ij] at h;exact h
theorem A0d{R:Type}{kx:Ex->Iv->Option R}{t:Tbl}{g:List Idx->Option R}{c:Option R}(hs:Ij t=true)(h1:∀i p,kx .ret (false,t.idx,(t.idx.length:Int),i,t,Fi,p)=c)(h2:∀a:List Idx,a.length=t.idx.length->kx (.exit 0) (false,t.idx,(t.idx.length:Int),(t.idx.length:Int),t,Fi,{ t with idx:=a })=g a)(k:Nat)(hk:t.idx.length<k) :
  Ak (λrec=>Hh rec kx) k (false,t.idx,(t.idx.length:Int),0,t,Fi,{ t with idx:=[] })=(match ixs t [] t.idx with|some a=>g a|none=>c):=by
 obtain⟨_,hn,hcs⟩:=Aao hs;have hl:ln t.idx.length:=by simp[ln];omega
 refine(Bo t.idx.length (λi (acc:List Idx)=>(false,t.idx,(t.idx.length:Int),(i:Int),t,Fi,{ t with idx:=acc })) (λi acc=>A8 acc=true/\acc.length=i) (λi acc=>(match ixs t acc (t.idx.drop i) with|some a=>g a|none=>c)) (λi hi acc ha rec hr =>?_) (λacc ha rec =>?_) k 0 [] (Nat.zero_le _) (by omega) ⟨rfl,rfl⟩).trans (by rw[Zq1])
 ·have hw:Aww { t with idx:=acc } (Bz t t.idx[i])=some (Azx { t with idx:=acc } (Bz t t.idx[i])):=by
   have:Aj4 { t with idx:=acc } (Bz t t.idx[i])=true:=by have h1:=hcs _ (List.getElem_mem hi);have h2:=ha.2;show(decide ((0:Nat)<=2000000)&&(decide ((0:Nat)<=2000000)&&(decide (t.idx[i].cols.length<=2000000)&&(decide (acc.length<=2000000)&&A8 acc))))=true;rw[Ze1 h1,Ze1 (show acc.length<=2000000 by omega),ha.1];rfl
   rw[Aww,this];rfl
  simp only[Hh,Br hi,Ao hi,Al (c :=.idx) hi,hw,Bpu,An hi hl,Ah hi,ixs,Io];cases Bm (Bz t t.idx[i]) with
  |false=>exact h1 _ _
  |true =>
   simp;cases hh:Pn acc t.idx[i].name with
   |true =>simp;exact h1 _ _
   |false =>
    simp;by_cases h100:acc.length<100
    ·rw[Ze1 h100,Zd1 (show ¬ 100<=acc.length by omega)];simp;cases Iq t t.idx[i].cols with|false=>exact h1 _ _|true =>simp;exact hr _ ⟨U9 ha.1 hh,by rw[A7s,ha.2]⟩
    ·rw[Zd1 h100,Ze1 (show 100<=acc.length by omega)];simp;exact h1 _ _
 ·simp only[Hh,Bu,h2 acc ha.2];rw[Zk1 (Zn1 _)];rfl
theorem Avu{R:Type}{kx:Ex->Ir->Option R}{t:Tbl}{a:List Idx}{b c:Option R}(hs:Ij t=true)(ha:a.length=t.idx.length)(h1:∀i,kx .ret (false,a,(a.length:Int),i,t,Fi,{ t with idx:=a })=c)(h2:kx (.exit 2) (false,a,(a.length:Int),(a.length:Int),t,Fi,{ t with idx:=a })=b)(k:Nat)(hk:t.idx.length<k) :
  Ak (λrec=>Ht rec kx) k (false,a,(a.length:Int),0,t,Fi,{ t with idx:=a })=cond (Aeo a t.idx) b c:=by
 obtain⟨_,hn,hcs⟩:=Aao hs;have hl:ln a.length:=by simp[ln];omega
 refine(Ay a.length (λi=>(false,a,(a.length:Int),(i:Int),t,Fi,{ t with idx:=a })) (λi=>cond (Aeo (a.drop i) (t.idx.drop i)) b c) (λi hi rec hr =>?_) (λrec =>?_) k 0 (Nat.zero_le _) (by omega)).trans (by rw[Zq1,Zq1])
 ·have hi2:i<t.idx.length:=by omega
  simp only[Ht,Br hi,Ao hi,Ao hi2,Al (c :=.idx) hi,Al (c :=.idx) hi2,An hi hl,Ah hi,Ah hi2,Aeo,hr];cases decide (a[i].name=t.idx[i].name) with|false=>exact h1 _|true=>rfl
 ·simp only[Ht,Bu,h2];rw[Zk1 (Zn1 _)];rfl
theorem A99{t:Tbl}(h:(H3 (Et t)).2=0):H3 (Et t)=({ t with idx:=[] },0):=by
 simp[H3] at h ⊢;generalize (decide ((Et t).kind=1)&&Bm (Et t))=b1 at h ⊢;generalize Iq ⟨(Et t).name,(Et t).cols,(Et t).names,[],[]⟩ (Et t).names=b2 at h ⊢;cases b1 with
 |false=>simp at h
 |true =>
  cases b2 with
  |false=>simp at h
  |true =>
   by_cases hc:G1 (Et t).cols (Et t).l=0
   ·simp only[hc];rfl
   ·simp[hc] at h
theorem Ay2:FO 86 [.sv .tbl] [.sv .tbl,.bool] Vh :=.fin 0 Ati λt r hb hx=>⟨t.idx.length+1,by
 simp only[Vh,X5] at hx;cases hs:Ij t with
 |false=>rw[hs] at hx;cases hx
 |true =>
  rw[hs] at hx;simp only[Ag,Za1] at hx;rw[<-hx];obtain⟨q1,q2,q3⟩:=Aao hs;have em:Azw (Et t)=some (H3 (Et t)):=by rw[Azw,q1];rfl
  simp only[U3,em,Zc1,Ip];by_cases h0:(H3 (Et t)).2=0
  ·simp only[A99 h0,decide_true,Zt1,Ai,Bool.true_and];refine(A0d (c:=some (Fi,false)) (g:=λa=>cond (Aeo a t.idx) (some ({ t with idx:=a },true)) (some (Fi,false))) hs (λ_ _=>rfl) (λa ha =>?_) _ (by omega)).trans ?_
   ·exact Avu hs ha (λ_=>rfl) rfl _ (by omega)
   ·rw[Btu (g:=λa=>some (({ t with idx:=a }:Tbl),true)),As]
  ·simp only[Zd1 h0,Zs1,Ag,Bool.false_and,Ai];rfl⟩
def Ba0(R:Type):Px R:=pxO [(86,cA Vh)] [] [] []
def Ad4(x:HV [.sv .tbl]):Option (HV [.int .i64]):=match x with
 |t =>
 (X5 t).bind λ(_,x1) =>
  cond (!x1) (
  some 2) (
  some 0)
theorem A2c:FO 52 [.sv .tbl] [.int .i64] (Ad4):=fR (px:=Ba0 _) (n:=0) Tryz.func52 rfl (λ_ H=>⟨lv H (c1 H Ay2 Ae) Aa Ab,Aj⟩) λ_=>by kernel_rfl
def Ajf(t:Tbl):Option Int:=cond (Ij t) (some (cond (Ip t) 0 2)) none
def Aib:FT [.sv .tbl] [.int .i64]:=λx=>Ajf x
theorem A83:FO 52 [.sv .tbl] [.int .i64] Aib :=.fin0 A2c λt r hb hx=>by simp only[Aib,Ajf] at hx;rw[<-hx];simp only[Ad4,X5];cases Ij t with|false=>rfl|true=>cases Ip t<;>rfl
def Aq0:Sig:=⟨19,[(0,.int .u64),(3,.sl .byte true)],[],[],0,0,0,[],[]⟩
abbrev Yf:=Int×List UInt8
def Vb{R:Type}(rec:Yf->Option R)(kx:Ex->Yf->Option R)(v:Yf):Option R:=match v with
 |(v,v1) =>
 cond (decide (128<=v)) (
  chk (decide (v1.length+1<=Af)) (
  rec ((Ev .u64 v 7),(v1++[(UInt8.ofNat ((ior .u8 (wr .u8 v) 128):Int).toNat)])))) (
  kx (.exit 0) (v,v1))
def A68(R:Type)(k:Nat):Px R:=pxO [] [] [(2,Am k Aq0 (Vb))] []
def Aor(k:Nat)(x:HV [.int .u64]):Option (HV [.sl .byte true]):=match x with
 |n =>
 Ak (λrec=>Vb rec (λe vz=>match vz with|(v2,v3)=>match e with
  |.exit 0 =>
  chk (decide (v3.length+1<=Af)) (
   some (v3++[(UInt8.ofNat ((wr .u8 v2):Int).toNat)]))
  |_=>none)) k (n,[])
theorem Bhd(k:Nat):FO 94 [.int .u64] [.sl .byte true] (Aor k):=fR (px:=A68 _ k) (n:=1) Tryz.func94 rfl (λcx H=>by have h0:Lv cx (A68 (HV [.sl .byte true]) k):=lv H Ae Aa Ab;have hlvput_0:=lO H h0 (b:=lp Tryz.f94 0) (k:=k) (n:=0) (s:=Aq0) (step:=Vb) (λ_ _ _ (_,_)=>by kernel_rfl) Aj;exact⟨h0,(A3 Aj hlvput_0)⟩) λ_=>by kernel_rfl
def Bc1(n:Int):Option Str:=Aor 100 n
def Arp:FT [.int .u64] [.sl .byte true]:=λx=>Bc1 x
theorem As3:FO 94 [.int .u64] [.sl .byte true] Arp :=.fin 0 Bhd λ_ _ _ hx=>⟨100,hx⟩
def Bkr(R:Type):Px R:=pxO [(94,cA Arp)] [] [] []
def U5(x:HV [.sl .byte false]):Option (HV [.sl .byte true]):=match x with
 |s =>
 (Bc1 (wr .u64 (s.length:Int))).bind λx =>
  chk (decide (x.length+s.length<=Af)) (
  some (x++s))
theorem Beg:FO 96 [.sl .byte false] [.sl .byte true] (U5):=fR (px:=Bkr _) (n:=0) Tryz.func96 rfl (λ_ H=>⟨lv H (c1 H As3 Ae) Aa Ab,Aj⟩) λ_=>by kernel_rfl
def A5j(s:Str):Option Str:=U5 s
def A8d:FT [.sl .byte false] [.sl .byte true]:=λx=>A5j x
theorem Bjy:FO 96 [.sl .byte false] [.sl .byte true] A8d :=.fin0 Beg λ_ _ _ hx=>hx
def Bfy(R:Type):Px R:=pxO [(89,cA Asj),(53,cA Sl),(90,cA At0),(91,cA A6q)] [] [] []
def V3(x:HV [.sv .expr,.sl .col false,.sl .val false]):Option (HV [.sv .val,.int .i64]):=match x with
 |(e,cols,row) =>
 cond (!decide ((Dk e)=0)) (
  some ((Val.mk 0 0 []),2)) (
  cond (!(Dr cols row)) (
  some ((Val.mk 0 0 []),2)) (
  cond (!decide ((A4 e cols).2=0)) (
   some ((Val.mk 0 0 []),(A4 e cols).2)) (
   (H9 e cols row).bind λ(x,x1) =>
   some (x,x1))))
theorem Bc8:FO 55 [.sv .expr,.sl .col false,.sl .val false] [.sv .val,.int .i64] (V3):=fR (px:=Bfy _) (n:=0) Tryz.func55 rfl (λ_ H=>⟨lv H (c1 H Axp (c1 H Af0 (c1 H Az6 (c1 H Bhs Ae)))) Aa Ab,Aj⟩) λ(_,_,_)=>by kernel_rfl
def A7l(e:Xpr)(cols:List Col)(row:List Val):Option (Val×Int):=V3 (e,cols,row)
def A6l:FT [.sv .expr,.sl .col false,.sl .val false] [.sv .val,.int .i64]:=λx=>A7l x.1 x.2.1 x.2.2
theorem Bhx:FO 55 [.sv .expr,.sl .col false,.sl .val false] [.sv .val,.int .i64] A6l :=.fin0 Bc8 λ_ _ _ hx=>hx
def Ajw:Sig:=⟨73,[(1,.sl .val false),(4,.int .i64),(49,.sl .expr false),(50,.int .i64),(51,.int .i64)],[(2,.ptr 0 0)],[(0,.one (.sv .tbl))],1,0,0,[],[]⟩
abbrev Rk:=List Val×Int×List Xpr×Int×Int×Tbl
def Sa{R:Type}(rec:Rk->Option R)(kx:Ex->Rk->Option R)(v:Rk):Option R:=match v with
 |(c,e,b,d,a,w2) =>
 cond (decide (a<d)) (
  chk (inb a b.length) (
  (A7l (at' .expr b a) w2.cols c).bind λ(x1,x2) =>
   cond (!decide (x2=0)) (
   kx .ret (c,x2,b,d,a,w2)) (
   cond (decide ((Nw x1 (Val.mk 2 0 []))=0)) (
    kx .ret (c,162,b,d,a,w2)) (
    rec (c,e,b,d,(wr .i64 (a+1)),w2))))) (
  kx (.exit 2) (c,e,b,d,a,w2))
def Ag5:Sig:=⟨19,[(0,.sl .str false),(1,.str),(4,.int .i64),(7,.int .i64),(8,.int .i64)],[],[(0,.one (.sv .tbl))],80,80,400,[],[]⟩
abbrev Rc:=List Str×Str×Int×Int×Int×Tbl
def Tl{R:Type}(rec:Rc->Option R)(kx:Ex->Rc->Option R)(v:Rc):Option R:=match v with
 |(v5,v6,v7,v8,v9,w1) =>
 cond (decide (v9<v8)) (
  chk (inb v9 v5.length) (
  cond (decide (v6=(at' .str v5 v9))) (
   kx .ret (v5,v6,v9,v8,v9,w1)) (
   rec (v5,v6,v7,v8,(wr .i64 (v9+1)),w1)))) (
  kx (.exit 0) (v5,v6,v7,v8,v9,w1))
def Ahs:Sig:=⟨73,[(1,.sl .val false),(4,.int .i64),(23,.sl .col false),(24,.int .i64),(25,.int .i64)],[(2,.ptr 0 0)],[(0,.one (.sv .tbl))],1,0,0,[],[]⟩
abbrev Rz:=List Val×Int×List Col×Int×Int×Tbl
def Ro{R:Type}(k:Nat)(rec:Rz->Option R)(kx:Ex->Rz->Option R)(v:Rz):Option R:=match v with
 |(v,v1,v2,v3,v4,w) =>
 cond (decide (v4<v3)) (
  chk (inb v4 v2.length) (
  chk (inb v4 v.length) (
   cond (decide ((at' .val v v4).kind=1)) (
   cond ((at' .col v2 v4).notNull) (
    kx .ret (v,161,v2,v3,v4,w)) (
    Ak (λrc=>Tl rc (λe vz=>match vz with|(_,_,b,_,_,a)=>match e with
    |.ret =>
     cond (decide (0<=b)) (
     kx .ret (v,161,v2,v3,v4,a)) (
     rec (v,v1,v2,v3,(wr .i64 (v4+1)),a))
    |.exit 0 =>rec (v,v1,v2,v3,(wr .i64 (v4+1)),a)
    |_=>none)) k (w.key,(at' .col v2 v4).name,0,(w.key.length:Int),0,w))) (
   rec (v,v1,v2,v3,(wr .i64 (v4+1)),w))))) (
  kx (.exit 0) (v,v1,v2,v3,v4,w))
def Yc(R:Type)(k:Nat):Px R:=pxO [] [] [(2,Am k Ag5 (Tl))] []
noncomputable def Ahh(R:Type)(k:Nat):Px R:=pxO [(88,Bi 80 400 (Yc R k) Tryz.f88)] [] [] []
noncomputable def Az4(R:Type)(k:Nat):Px R:=pxO [(52,cA Aib),(53,cA Sl),(55,cA A6l),(56,cA A2w),(54,Bi 40 200 (Ahh R k) Tryz.f54)] [] [(7,Am k Ahs (Ro k)),(13,Am k Ajw (Sa))] []
def Hs(k:Nat)(x:HV [.sv .tbl,.sl .val false]):Option (HV [.int .i64]):=match x with
 |(t,row) =>
 (Ajf t).bind λx =>
  cond (!decide (x=0)) (
  some x) (
  cond (!(Dr t.cols row)) (
   some 151) (
   Ak (λrec=>Ro k rec (λe vz=>match vz with|(c,b,_,_,_,a)=>match e with
   |.ret =>some b
   |.exit 0 =>
    Ak (λrec=>Sa rec (λe vz=>match vz with|(_,d,_,_,_,_)=>match e with
    |.ret =>some d
    |.exit 2 =>some 0
    |_=>none)) k (c,b,a.checks,(a.checks.length:Int),0,a)
   |_=>none)) k (row,0,t.cols,(t.cols.length:Int),0,t)))
theorem A96(k:Nat):FO 25 [.sv .tbl,.sl .val false] [.int .i64] (Hs k):=fR (px:=Az4 _ k) (n:=2) Tryz.func25 rfl (λcx H=>by have h2:Lv cx (Yc (HV [.int .i64]) k):=lv H Ae Aa Ab;have hlsfits_1:=lO H h2 (b:=lp Tryz.f88 0) (k:=k) (n:=0) (s:=Ag5) (step:=Tl) (λ_ _ _ (_,_,_,_,_,_)=>by kernel_rfl) Aj;have h1:Lv cx (Ahh (HV [.int .i64]) k):=lv H (A2 (cR H h2 Tryz.func88 rfl (n:=1) ((A3 Aj hlsfits_1))) Ae) Aa Ab;have h0:Lv cx (Az4 (HV [.int .i64]) k):=lv H (c1 H A83 (c1 H Af0 (c1 H Bhx (c1 H A5v (A2 (cR H h1 Tryz.func54 rfl (n:=0) (Aj)) Ae))))) Aa Ab;have hlsfits_0:=lO H h0 (b:=lp Tryz.f25 0) (k:=k) (n:=0) (s:=Ahs) (step:=Ro k) (λ_ _ _ (_,_,_,_,_,_)=>by kernel_rfl) Aj;have hlsfits_2:=lO H h0 (b:=lp Tryz.f25 1) (k:=k) (n:=0) (s:=Ajw) (step:=Sa) (λ_ _ _ (_,_,_,_,_,_)=>by kernel_rfl) Aj;exact⟨h0,(A3 (A3 Aj hlsfits_0) hlsfits_2)⟩) λ(_,_)=>by kernel_rfl
def Axz(t:Tbl)(row:List Val):Option Int:=Hs 5000 (t,row)
def A6c:FT [.sv .tbl,.sl .val false] [.int .i64]:=λx=>Axz x.1 x.2
theorem Bgd:FO 25 [.sv .tbl,.sl .val false] [.int .i64] A6c :=.fin 0 A96 λ_ _ _ hx=>⟨5000,hx⟩
def Ek:Nat->Nat->Str
 |0,n=>[UInt8.ofNat n]
 |k+1,n=>if n<128 then [UInt8.ofNat n] else UInt8.ofNat (n % 128+128)::Ek k (n / 128)
theorem D4:∀k n,1<=(Ek k n).length/\(Ek k n).length<=k+1
 |0,n=>by simp[Ek]
 |k+1,n=>by
  have:=D4 k (n / 128);simp[Ek]
  grind
theorem Boa:∀m:Nat,m<256->UInt8.ofNat (ior .u8 ((m:Nat):Int) 128).toNat=UInt8.ofNat (m % 128+128):=by decide +kernel
theorem A56(n:Nat):wr .u8 (n:Int)=((n % 256:Nat):Int):=by simp[wr,IntKind.wrap,IntKind.bits,IntKind.signed]
theorem Aj2{n:Nat}(h:n<18446744073709551616):wr .u64 (n:Int)=(n:Int):=by simp[wr,IntKind.wrap,IntKind.bits,IntKind.signed];omega
theorem Bwb(n:Nat):Ev .u64 (n:Int) 7=((n / 128:Nat):Int):=by
 simp only[Ev];rw[show(2 ^ min (7:Int).toNat IntKind.u64.bits:Int)=128 from by decide]
 grind
theorem Aa0{kx:Ex->Yf->Option Str}(hx:∀n acc,kx (.exit 0) (n,acc)=chk (decide (acc.length+1<=Af)) (some (acc++[UInt8.ofNat (wr .u8 n).toNat]))):∀(k m n:Nat) (acc:Str),n<128 ^ (k+1)->k<m->acc.length+k<=1000->Ak (λrec=>Vb rec kx) m ((n:Int),acc)=some (acc++Ek k n)
 |k,0,_,_,_,h,_=>by omega
 |k,m+1,n,acc,hn,hm,ha=>by
  have c1:decide (acc.length+1<=Af)=true:=Ze1 (by simp[Af];omega);have low:n<128->Ak (λrec=>Vb rec kx) (m+1) ((n:Int),acc)=some (acc++[UInt8.ofNat n]):=λh=>by simp only[Ak,Vb,Zd1 (show ¬(128:Int)<=(n:Int) by omega),Ai,hx,c1,chk,Ag,A56,Int.toNat_natCast];rw[Nat.mod_eq_of_lt (by omega)]
  cases k with
  |zero=>exact low (by simpa using hn)
  |succ k =>
   simp only[Ek];split
   ·rename_i h;exact low h
   ·rename_i h;have ih:=Aa0 hx k m (n / 128) (acc++[UInt8.ofNat (n % 128+128)]) (Nat.div_lt_of_lt_mul (by rw[Nat.pow_succ] at hn;omega)) (by omega) (by simp[ Zi1];omega);have e:UInt8.ofNat (ior .u8 (wr .u8 (n:Int)) 128).toNat=UInt8.ofNat (n % 128+128):=by rw[A56,Boa _ (Nat.mod_lt _ (by omega))];congr 1;omega
    simp only[Ak,Vb,Ze1 (show(128:Int)<=(n:Int) by omega),c1,e,Bwb];rw[<-List.append_cons] at ih;exact ih
theorem Bog{n:Nat}(h:n<128 ^ 6):Bc1 (n:Int)=some (Ek 5 n):=by
 have:=Aa0 (kx:=λe vz=>match vz with|(v2,v3)=>match e with
  |.exit 0=>chk (decide (v3.length+1<=Af)) (some (v3++[UInt8.ofNat (wr .u8 v2).toNat]))
  |_=>none) (λ_ _=>rfl) 5 100 n [] h (by omega) (by simp)
 exact this
theorem Avb{s:Str}(h:s.length<=274877906900):A5j s=some (Ek 5 s.length++s):=by have e:wr .u64 (s.length:Int)=(s.length:Int):=Aj2 (by omega);have:=D4 5 s.length;simp[A5j,U5,e,Bog (show s.length<128 ^ 6 by omega)];rw[Ze1 (by simp[Af];omega)];rfl
def Bm3:Sig:=⟨37,[(0,.int .u64),(3,.sl .byte true)],[],[],0,0,0,[],[]⟩
def A2a:Sig:=⟨37,[(4,.int .i64)],[],[(0,.one (.dn .byte))],1,0,0,[],[(3,0,.byte)]⟩
def V5{R:Type}(rec:Int×Str->Option R)(kx:Ex->Int×Str->Option R)(v:Int×Str):Option R:=match v with|(n,l)=>cond (decide (0<n)) (chk (decide (l.length+1<=Af)) (rec (wr .u64 (n.tdiv 128),l++[UInt8.ofNat (wr .u8 (n.tmod 128)).toNat]))) (kx (.exit 0) (n,l))
def Vj{R:Type}(rec:Int×Str×Int×Int->Option R)(kx:Ex->Int×Str×Int×Int->Option R)(v:Int×Str×Int×Int):Option R:=match v with|(i,l,s,m)=>cond (decide (wr .i64 (i+1)<m)) (chk (inO i m) (chk (inb (s+i) l.length) (chk (inO i m) (chk (inb (s+i) l.length) (rec (wr .i64 (i+1),l.set (s+i).toNat (UInt8.ofNat (wr .u8 (((at' .byte l (s+i)).toNat:Int)+128)).toNat),s,m)))))) (kx (.exit 2) (i,l,s,m))
def Aro(R:Type)(k:Nat)(th:Bool):Px R:=⟨Aal ttL,λ_=>none,Au6 [],Akq [],Bre [(3,Am k Bm3 V5),(7,λst K=>cond th (Bjn 3 st λst=>Am k A2a Vj st K) (Am k A2a Vj st K))],tbl [],λ_ _ _ _=>none⟩
def Bll:Ex->Int×Str×Int×Int->Option Str
 |.exit 2,(_,l,s,m)=>chk (decide (s=0)&&decide (0<m)&&decide (m<=(l.length:Int))) (some (l.take m.toNat))
 |_,_=>none
def Ab3(k:Nat)(n:Int):Option Str:=Ak (λrec=>V5 rec λe v=>match e,v with
 |.exit 0,(_,l)=>chk (!l.isEmpty) (Ak (λrec=>Vj rec Bll) k (0,l,0,(l.length:Int)))
 |_,_=>none) k (wr .u64 (n.tdiv 128),[UInt8.ofNat (wr .u8 (n.tmod 128)).toNat])
theorem Avf(k:Nat):FnOk Tryz.prog elT (λ_=>none) 102 [.int .u64] [.sl .byte true] (Ab3 k) :=Aw5 (px:=Aro _ k true) (n:=2) Tryz.func102 rfl (by kernel_rfl) follows (by kernel_rfl) (by kernel_rfl) (λcx h1 h2 h3 h4=>by have H:Hx Tryz.prog elT (λ_=>none) (Aal ttL) cx:=⟨h1,h2,h3,Apo Ab7,follows⟩;have h0:∀b,Lv cx (Aro Str k b):=λb=>lv H Ae Aa Ab;exact⟨(h0 _).p,(h0 _).c,(h0 _).q,A3 (A3 Aj (lO H (h0 true) (b:=lp Tryz.f102 0) (k:=k) (n:=0) (s:=Bm3) (step:=V5) (λ_ _ _ (_,_)=>by kernel_rfl) Aj)) (A8s (px2:=Aro Str k false) (sl:=3) h4 (λg=>by rw[h3]) (lO H (h0 false) (b:=lp Tryz.f102 1) (k:=k) (n:=0) (s:=A2a) (step:=Vj) (λ_ _ _ (_,_,_,_)=>by kernel_rfl) Aj) λ_ _=>by kernel_rfl)⟩) λn=>by kernel_rfl
def up8(b:UInt8):UInt8:=UInt8.ofNat (wr .u8 ((b.toNat:Int)+128)).toNat
def hi8:UInt8->Str->Str
 |x,[]=>[x]
 |x,y::l=>up8 x::hi8 y l
def dg7:Nat->Nat->Str
 |0,_=>[]
 |k+1,n=>if n=0 then [] else UInt8.ofNat (n % 128)::dg7 k (n / 128)
theorem A8l:∀k n,(dg7 k n).length<=k
 |0,n=>Zn1 _
 |k+1,n=>by have:=A8l k (n / 128);simp[dg7];split<;>simp<;>omega
theorem Bkw:∀k n,n<128 ^ (k+1)->Ek k n=hi8 (UInt8.ofNat (n % 128)) (dg7 k (n / 128))
 |0,n,h=>by simp[Ek,dg7,hi8,Nat.mod_eq_of_lt h]
 |k+1,n,h=>by
  simp only[Ek,dg7];by_cases hn:n<128
  ·rw[if_pos hn,if_pos (by omega),Nat.mod_eq_of_lt hn,hi8]
  ·rw[if_neg hn,if_neg (by omega),hi8,Bkw k (n / 128) (Nat.div_lt_of_lt_mul (by rw[Nat.pow_succ] at h;omega))];congr 1;have:(UInt8.ofNat (n % 128)).toNat=n % 128:=by simp;omega
   rw[up8,this,show((n % 128:Nat):Int)+128=((n % 128+128:Nat):Int) by omega,A56];congr 1;omega
theorem Br2{n:Nat}(h:n<18446744073709551616):wr .u64 ((n:Int).tdiv 128)=((n / 128:Nat):Int):=by rw[show(n:Int).tdiv 128=((n / 128:Nat):Int) from rfl,Aj2 (by omega)]
theorem Brn(n:Nat):(wr .u8 ((n:Int).tmod 128)).toNat=n % 128:=by rw[show(n:Int).tmod 128=((n % 128:Nat):Int) from rfl,A56,Int.toNat_natCast];omega
theorem A7z:∀x l,(hi8 x l).length=l.length+1
 |x,[]=>rfl
 |x,y::l=>by simp[hi8,A7z y l]
theorem A7j{R:Type}{kx:Ex->Int×Str->Option R}:∀(k m n:Nat) (l:Str),n<128 ^ k->n<18446744073709551616->k<m->l.length+k<=1000->Ak (λrec=>V5 rec kx) m ((n:Int),l)=kx (.exit 0) (0,l++dg7 k n)
 |k,0,_,_,_,_,h,_=>by omega
 |0,m+1,n,l,hn,_,_,_=>by
  obtain rfl:n=0:=by simpa using hn
  simp[Ak,V5,dg7]
 |k+1,m+1,n,l,hn,hb,hm,hl=>by
  by_cases h:n=0
  ·subst h;simp[Ak,V5,dg7]
  ·have ih:=A7j (kx:=kx) k m (n / 128) (l++[UInt8.ofNat (n % 128)]) (Nat.div_lt_of_lt_mul (by rw[Nat.pow_succ] at hn;omega)) (by omega) (by omega) (by simp;omega);simp only[Ak,V5,Ze1 (show(0:Int)<(n:Int) by omega),Ag,Ze1 (show l.length+1<=Af by simp[Af];omega),chk,Br2 hb,Brn,ih,dg7,if_neg h,Zj1,Zb2,Zf2]
theorem A5y{R:Type}{kx:Ex->Int×Str×Int×Int->Option R}:∀(l:Str) (k:Nat) (p:Str) (x:UInt8) (n:Nat),l.length<k->p.length+l.length+1=n->n<=1000->∃i,Ak (λrec=>Vj rec kx) k ((p.length:Int),p++x::l,0,(n:Int))=kx (.exit 2) (i,p++hi8 x l,0,(n:Int))
 |_,0,_,_,_,h,_,_=>by omega
 |[],k+1,p,x,n,_,hn,h1=>by refine⟨p.length,?_⟩;simp[Ak,Vj,Bd (show inI ((p.length:Int)+1) by simp[inI];omega),Zd1 (show ¬(p.length:Int)+1<(n:Int) by simp at hn;omega),hi8]
 |y::l,k+1,p,x,n,hk,hn,h1=>by
  simp at hk hn;obtain⟨i,ih⟩:=A5y (kx:=kx) l k (p++[up8 x]) y n (by omega) (by simp;omega) h1;refine⟨i,?_⟩;have a1:inO (p.length:Int) (n:Int)=true:=by simp[inO];omega
  have a2:inb (p.length:Int) (p++x::y::l).length=true:=Ao (by simp);have a3:at' .byte (p++x::y::l) (p.length:Int)=x:=by simp[at']
  simp only[Ak,Vj,Bd (show inI ((p.length:Int)+1) by simp[inI];omega),Ze1 (show(p.length:Int)+1<(n:Int) by omega),chk,Int.zero_add,a1,a2,a3,Int.toNat_natCast];have e:(p++x::y::l).set p.length (up8 x)=(p++[up8 x])++y::l:=by simp
  simp only[up8] at e ih ⊢;simpa[hi8,up8] using ih
noncomputable section
end
theorem Mq:∀k n,n<128 ^ (k+1)->Ek (k+1) n=Ek k n
 |0,n,h=>by simp[Ek];omega
 |k+1,n,h=>by rw[Ek,Mq k (n / 128) (Nat.div_lt_of_lt_mul (by rw[Nat.pow_succ] at h;omega))];rfl
theorem Bsl{n:Nat}(h:n<128 ^ 6):Ek 9 n=Ek 5 n:=by rw[Mq 8 n (by omega),Mq 7 n (by omega),Mq 6 n (by omega),Mq 5 n h]
theorem Biz{n:Nat}(h:n<18446744073709551616):Bc1 (n:Int)=some (Ek 9 n):=by
 have:=Aa0 (kx:=λe vz=>match vz with|(v2,v3)=>match e with
  |.exit 0=>chk (decide (v3.length+1<=Af)) (some (v3++[UInt8.ofNat (wr .u8 v2).toNat]))
  |_=>none) (λ_ _=>rfl) 9 100 n [] (by omega) (by omega) (by simp)
 exact this
theorem Bo1{n:Nat}(h:n<18446744073709551616):Ab3 20 (n:Int)=some (Ek 9 n):=by rw[Bkw 9 n (by omega),Ab3,Br2 (by omega),Brn,A7j 9 20 (n / 128) [UInt8.ofNat (n % 128)] (by omega) (by omega) (by omega) (by simp)];have hl:=A8l 9 (n / 128);obtain⟨i,hi⟩:=A5y (kx:=Bll) (dg7 9 (n / 128)) 20 [] (UInt8.ofNat (n % 128)) ((dg7 9 (n / 128)).length+1) (by omega) (by simp) (by omega);refine hi.trans ?_;have:=A7z (UInt8.ofNat (n % 128)) (dg7 9 (n / 128));generalize hi8 (UInt8.ofNat (n % 128)) (dg7 9 (n / 128))=q at *;rw[<-this];show chk (decide ((0:Int)=0)&&decide (0<(q.length:Int))&&decide ((q.length:Int)<=(q.length:Int))) (some (q.take (q.length:Int).toNat))=_;rw[Ze1 rfl,Ze1 (by omega),Ze1 (Int.le_refl _),Int.toNat_natCast,List.take_length];rfl
noncomputable def U4(n:Int):Option Str :=@ite _ (0<=n/\n<18446744073709551616) (Classical.propDecidable _) (some (Ek 9 n.toNat)) none
noncomputable section
def Aad:FT [.int .u64] [.sl .byte true]:=λx=>U4 x
theorem Ahy:FO 102 [.int .u64] [.sl .byte true] Aad:=⟨(Avf 0).enters,λn r hx w M vs hM _ hr=>(Avf 20).run n r (by
 simp only[Aad,U4] at hx;split at hx
 ·rename_i h;obtain⟨m,rfl⟩:=Int.eq_ofNat_of_zero_le h.1;rw[<-hx];exact Bo1 (by omega)
 ·cases hx) w M vs hM ⟨λ_ _ _ h=>(by cases h),λ_ _ h=>(by cases h),λ_ _ h=>(by cases h)⟩ hr⟩
end
theorem Y6{n:Nat}(h:n<18446744073709551616):U4 (n:Int)=some (Ek 9 n):=by rw[U4,if_pos (by omega),Int.toNat_natCast]
theorem O8{v:Val}:B7 v=0↔Aq v=true:=by simp[B7];cases Aq v<;>simp
def Adz:Sig:=⟨88,[(2,.int .i64),(5,.int .i64)],[(1,.ptr 0 0)],[(0,.one (.sv .val))],1,0,0,[],[]⟩
abbrev Jt:=Int×Int×Val
def Gq{R:Type}(rec:Jt->Option R)(kx:Ex->Jt->Option R)(v:Jt):Option R:=match v with
 |(v1,v2,w) =>
 cond (decide (v2<(w.s.length:Int))) (
  cond (decide (w.kind=4)) (
  chk (inb v2 w.s.length) (
   cond (decide ((bat w.s v2)<32)) (
   kx .ret (2,v2,w)) (
   chk (inb v2 w.s.length) (
    cond (decide (127<=(bat w.s v2))) (
    kx .ret (2,v2,w)) (
    rec (v1,(wr .i64 (v2+1)),w)))))) (
  kx (.exit 0) (v1,v2,w))) (
  kx (.exit 0) (v1,v2,w))
def Aod(R:Type)(k:Nat):Px R:=pxO [] [] [(6,Am k Adz (Gq))] []
def Adt(k:Nat)(x:HV [.sv .val]):Option (HV [.int .i64]):=match x with
 |v =>
 let j4:=λ(p4:Bool) =>
  let j3:=λ(p6:Bool) =>
  let j2:=λ(_:Unit) =>
   Ak (λrec=>Gq rec (λe vz=>match vz with|(v3,_,_)=>match e with
   |.ret =>some v3
   |.exit 0 =>some 0
   |_=>none)) k (0,0,v)
  let j1:=λ(p7:Bool) =>
   let j:=λ(p9:Bool) =>
   cond (p9) (
    some 2) (
    cond (!p6) (
    cond (!decide (v.s=[])) (
     some 2) (
     cond (decide (1000<(v.s.length:Int))) (
     some 2) (
     j2 ()))) (
    cond (decide (1000<(v.s.length:Int))) (
     some 2) (
     j2 ())))
   cond (p7) (
   j true) (
   cond (!p4) (
    j (!decide (v.n=0))) (
    j false))
  cond (decide (v.kind<1)) (
   j1 true) (
   j1 (decide (5<v.kind)))
  cond (decide (v.kind=4)) (
  j3 true) (
  j3 (decide (v.kind=5)))
 cond (decide (v.kind=2)) (
  cond (decide (v.n=0)) (
  j4 true) (
  cond (decide (v.n=1)) (
   j4 true) (
   j4 (decide (v.kind=3))))) (
  j4 (decide (v.kind=3)))
theorem A2u(k:Nat):FO 101 [.sv .val] [.int .i64] (Adt k):=fR (px:=Aod _ k) (n:=1) Tryz.func101 rfl (λcx H=>by have h0:Lv cx (Aod (HV [.int .i64]) k):=lv H Ae Aa Ab;have hlrcheck_0:=lO H h0 (b:=lp Tryz.f101 0) (k:=k) (n:=0) (s:=Adz) (step:=Gq) (λ_ _ _ (_,_,_)=>by kernel_rfl) Aj;exact⟨h0,(A3 Aj hlrcheck_0)⟩) λ_=>by kernel_rfl
abbrev Jg(v:Val):Int:=B7 v
def Lu:FT [.sv .val] [.int .i64]:=λx=>some (Jg x)
theorem Adv{R:Type}{kx:Ex->Jt->Option R}{v:Val}{a b:Option R}(hn:ln v.s.length)(h4:v.kind=4)(h1:∀j,kx .ret (2,j,v)=a)(h2:∀q j,kx (.exit 0) (q,j,v)=b):∀(k i:Nat) q,i<=v.s.length->v.s.length-i<k->Ak (λrec=>Gq rec kx) k (q,(i:Int),v)=cond ((v.s.drop i).all vis) b a
 |0,i,q,_,h=>by omega
 |k+1,i,q,hi,h=>by
  rw[A0];by_cases hl:i<v.s.length
  ·simp only[Gq,An hl hn,(Adv hn h4 h1 h2 k (i+1) q (by omega) (by omega)),h1,Ah hl,Rp hl,Ao hl,Zv1,Bool.cond_decide];simp[*];simp only[vis];split
   ·rw[Zd1 (by omega)];rfl
   ·split
    ·rw[Ze1 (by omega),Zd1 (by omega)];rfl
    ·rw[Ze1 (by omega),Ze1 (by omega)];rfl
  ·simp[Gq,h2,Bool.cond_decide]
   grind
theorem A84{R:Type}{kx:Ex->Jt->Option R}{v:Val}{b:Option R}(h4:¬v.kind=4)(h2:kx (.exit 0) (0,0,v)=b)(k:Nat):Ak (λrec=>Gq rec kx) (k+1) (0,0,v)=b:=by rw[A0];simp only[Gq,h2,Bool.cond_decide];split<;>rfl
theorem Sf:FO 101 [.sv .val] [.int .i64] Lu :=.fin 0 A2u λv r hb hx=>⟨v.s.length+1,by
 simp only[Lu,Za1] at hx;subst hx;have e0:((0:Nat):Int)=0:=rfl;have hloop:Ak (λrec=>Gq rec (λe v=>match v with|(v2,_,_)=>match e with
   |.ret=>some v2
   |.exit 0=>some 0
   |_=>none)) (v.s.length+1) (0,0,v)=cond (decide (v.kind=4) && !I2 v.s) (some (2:Int)) (some 0):=by
  by_cases h4:v.kind=4
  ·have:=Adv (a:=some (2:Int)) (b:=some 0) hb.2.2 h4 (kx:=λe v=>match v with|(v2,_,_)=>match e with
    |.ret=>some v2
    |.exit 0=>some 0
    |_=>none) (λ_=>rfl) (λ_ _=>rfl) (v.s.length+1) 0 0 (Nat.zero_le _) (by omega)
   rw[e0] at this;rw[this,Ze1 h4,Zq1,I2];cases v.s.all vis<;>rfl
  ·rw[A84 (b:=some 0) h4 rfl,Zd1 h4];rfl
 simp only[Adt] at hloop ⊢;rw[hloop];have hlen:v.s=[]->¬(1000<(v.s.length:Int)):=λh=>by rw[h];simp
 have hle:decide ((v.s.length:Int)<=1000) = !decide (1000<(v.s.length:Int)):=by
  by_cases h : 1000<(v.s.length:Int)
  ·rw[Ze1 h,Zd1 (by omega)];rfl
  ·rw[Zd1 h,Ze1 (by omega)];rfl
 have hs:decide (v.s=[])=true->decide (1000<(v.s.length:Int))=false:=λh=>Zd1 (hlen (of_decide_eq_true h));simp only[B7,Aq,hle];generalize decide (1000<(v.s.length:Int))=q at *;generalize decide (v.s=[])=s at *;generalize I2 v.s=w at *;by_cases hk:v.kind=1
 ·simp only[hk];cases decide (v.n=0)<;>cases s<;>simp_all
 by_cases hk2:v.kind=2
 ·simp only[hk2];cases decide (v.n=0)<;>cases decide (v.n=1)<;>cases s<;>simp_all
 by_cases hk3:v.kind=3
 ·simp only[hk3];cases decide (v.n=0)<;>cases decide (v.n=1)<;>cases s<;>simp_all
 by_cases hk4:v.kind=4
 ·simp only[hk4];cases decide (v.n=0)<;>cases w<;>cases q<;>simp_all
 by_cases hk5:v.kind=5
 ·simp only[hk5];cases decide (v.n=0)<;>cases q<;>simp_all
 rw[Zd1 hk,Zd1 hk2,Zd1 hk3,Zd1 hk4,Zd1 hk5];by_cases hl:v.kind<1
 ·rw[Ze1 hl];rfl
 ·rw[Zd1 hl,Ze1 (show 5<v.kind by omega)];rfl⟩
def Bjx(R:Type):Px R:=pxO [(94,cA Arp)] [] [] []
def Wb(x:HV [.int .i64]):Option (HV [.sl .byte true]):=match x with
 |n =>
 (Bc1 (Aa3 .u64 (Bp2 .u64 (wr .u64 n) 1) (wr .u64 (Ev .i64 n 63)))).bind λx =>some x
theorem Baf:FO 95 [.int .i64] [.sl .byte true] (Wb):=fR (px:=Bjx _) (n:=0) Tryz.func95 rfl (λ_ H=>⟨lv H (c1 H As3 Ae) Aa Ab,Aj⟩) λ_=>by kernel_rfl
def A8e(n:Int):Option Str:=Wb n
def A7p:FT [.int .i64] [.sl .byte true]:=λx=>A8e x
theorem Bic:FO 95 [.int .i64] [.sl .byte true] A7p :=.fin0 Baf λ_ _ _ hx=>hx
def Aps:Sig:=⟨60,[(0,.sl .val false),(2,.sl .byte true),(3,.int .i64),(4,.sl .byte true),(12,.sl .val false),(13,.int .i64),(14,.int .i64)],[],[],0,0,0,[],[]⟩
abbrev Lx:=List Val×List UInt8×Int×List UInt8×List Val×Int×Int
def Qz{R:Type}(rec:Lx->Option R)(kx:Ex->Lx->Option R)(v:Lx):Option R:=match v with
 |(v,v1,v2,v3,v4,v5,v6) =>
 cond (decide (v6<v5)) (
  chk (inb v6 v4.length) (
  cond (!decide ((B7 (at' .val v4 v6))=0)) (
   kx .ret (v,[],(B7 (at' .val v4 v6)),v3,v4,v5,v6)) (
   chk (decide (v3.length+1<=Af)) (
   cond (decide ((at' .val v4 v6).kind=2)) (
    chk (decide ((v3++[(UInt8.ofNat ((wr .u8 ((at' .val v4 v6).kind)):Int).toNat)]).length+1<=Af)) (
    rec (v,v1,v2,((v3++[(UInt8.ofNat ((wr .u8 ((at' .val v4 v6).kind)):Int).toNat)])++[(UInt8.ofNat ((wr .u8 ((at' .val v4 v6).n)):Int).toNat)]),v4,v5,(wr .i64 (v6+1))))) (
    cond (decide ((at' .val v4 v6).kind=3)) (
    (A8e ((at' .val v4 v6).n)).bind λx1 =>
     chk (decide ((v3++[(UInt8.ofNat ((wr .u8 ((at' .val v4 v6).kind)):Int).toNat)]).length+x1.length<=Af)) (
     rec (v,v1,v2,((v3++[(UInt8.ofNat ((wr .u8 ((at' .val v4 v6).kind)):Int).toNat)])++x1),v4,v5,(wr .i64 (v6+1))))) (
    let j:=λ(p:Bool) =>
     cond (p) (
     chk (decide (((at' .val v4 v6).s).length<=Af)) (
      (A5j ((at' .val v4 v6).s)).bind λx2 =>
      chk (decide ((v3++[(UInt8.ofNat ((wr .u8 ((at' .val v4 v6).kind)):Int).toNat)]).length+x2.length<=Af)) (
       rec (v,v1,v2,((v3++[(UInt8.ofNat ((wr .u8 ((at' .val v4 v6).kind)):Int).toNat)])++x2),v4,v5,(wr .i64 (v6+1)))))) (
     rec (v,v1,v2,(v3++[(UInt8.ofNat ((wr .u8 ((at' .val v4 v6).kind)):Int).toNat)]),v4,v5,(wr .i64 (v6+1))))
    cond (decide ((at' .val v4 v6).kind=4)) (
     j (decide ((at' .val v4 v6).kind=4))) (
     j (decide ((at' .val v4 v6).kind=5))))))))) (
  kx (.exit 0) (v,v1,v2,v3,v4,v5,v6))
def A8m(R:Type)(k:Nat):Px R:=pxO [(94,cA Arp),(80,cA X6),(95,cA A7p),(96,cA A8d)] [] [(3,Am k Aps (Qz))] []
def Aak(k:Nat)(x:HV [.sl .val false]):Option (HV [.sl .byte true,.int .i64]):=match x with
 |l =>
 (Bc1 (wr .u64 (l.length:Int))).bind λx =>
  Ak (λrec=>Qz rec (λe vz=>match vz with|(v7,v8,v9,a,_,_,_)=>match e with
  |.ret =>some (v8,v9)
  |.exit 0 =>
   cond (decide (100<(v7.length:Int))) (
   some ([],3)) (
   some (a,0))
  |_=>none)) k (l,[],0,x,l,(l.length:Int),0)
theorem Bmi(k:Nat):FO 58 [.sl .val false] [.sl .byte true,.int .i64] (Aak k):=fR (px:=A8m _ k) (n:=1) Tryz.func58 rfl (λcx H=>by have h0:Lv cx (A8m (HV [.sl .byte true,.int .i64]) k):=lv H (c1 H As3 (c1 H Abv (c1 H Bic (c1 H Bjy Ae)))) Aa Ab;have hlwenc_0:=lO H h0 (b:=lp Tryz.f58 0) (k:=k) (n:=0) (s:=Aps) (step:=Qz) (λ_ _ _ (_,_,_,_,_,_,_)=>by kernel_rfl) Aj;exact⟨h0,(A3 Aj hlwenc_0)⟩) λ_=>by kernel_rfl
def Ayr(l:List Val):Option (Str×Int):=Aak 5000 l
def Bhg:FT [.sl .val false] [.sl .byte true,.int .i64]:=λx=>Ayr x
theorem Bnu:FO 58 [.sl .val false] [.sl .byte true,.int .i64] Bhg :=.fin 0 Bmi λ_ _ _ hx=>⟨5000,hx⟩
noncomputable section
def Bgz(R:Type):Px R:=pxO [(102,cA Aad)] [] [] []
def Vl(x:HV [.sl .byte false]):Option (HV [.sl .byte true]):=match x with
 |s =>
 (U4 (wr .u64 (s.length:Int))).bind λx =>
  chk (decide (x.length+s.length<=Af)) (
  some (x++s))
theorem Bd5:FO 147 [.sl .byte false] [.sl .byte true] (Vl):=fR (px:=Bgz _) (n:=0) Tryz.func147 rfl (λ_ H=>⟨lv H (c1 H Ahy Ae) Aa Ab,Aj⟩) λ_=>by kernel_rfl
def A44(s:Str):Option Str:=Vl s
def A6f:FT [.sl .byte false] [.sl .byte true]:=λx=>A44 x
theorem Bet:FO 147 [.sl .byte false] [.sl .byte true] A6f :=.fin0 Bd5 λ_ _ _ hx=>hx
def Bhy(R:Type):Px R:=pxO [(102,cA Aad)] [] [] []
def Wn(x:HV [.int .i64]):Option (HV [.sl .byte true]):=match x with
 |n =>
 cond (decide (n<0)) (
  (U4 (wr .u64 ((wr .u64 (2*(wr .u64 (wr .i64 (0-(wr .i64 (n+1)))))))+1))).bind λx =>
  some x) (
  (U4 (wr .u64 (2*(wr .u64 n)))).bind λx1 =>
  some x1)
theorem Bcy:FO 146 [.int .i64] [.sl .byte true] (Wn):=fR (px:=Bhy _) (n:=0) Tryz.func146 rfl (λ_ H=>⟨lv H (c1 H Ahy Ae) Aa Ab,Aj⟩) λ_=>by kernel_rfl
def A5w(n:Int):Option Str:=Wn n
def A67:FT [.int .i64] [.sl .byte true]:=λx=>A5w x
theorem Bmq:FO 146 [.int .i64] [.sl .byte true] A67 :=.fin0 Bcy λ_ _ _ hx=>hx
def Bga(R:Type):Px R:=pxO [(146,cA A67),(147,cA A6f)] [] [] []
def Wi(x:HV [.sv .val]):Option (HV [.sl .byte true]):=match x with
 |v =>
 cond (decide (v.kind=2)) (
  some [(UInt8.ofNat ((wr .u8 v.kind):Int).toNat),(UInt8.ofNat ((wr .u8 v.n):Int).toNat)]) (
  cond (decide (v.kind=3)) (
  (A5w v.n).bind λx =>
   chk (decide (1+x.length<=Af)) (
   some ([(UInt8.ofNat ((wr .u8 v.kind):Int).toNat)]++x))) (
  let j:=λ(p:Bool) =>
   cond (p) (
   chk (decide (v.s.length<=Af)) (
    (A44 v.s).bind λx1 =>
    chk (decide (1+x1.length<=Af)) (
     some ([(UInt8.ofNat ((wr .u8 v.kind):Int).toNat)]++x1)))) (
   some [(UInt8.ofNat ((wr .u8 v.kind):Int).toNat)])
  cond (decide (v.kind=4)) (
   j (decide (v.kind=4))) (
   j (decide (v.kind=5)))))
theorem Bax:FO 103 [.sv .val] [.sl .byte true] (Wi):=fR (px:=Bga _) (n:=0) Tryz.func103 rfl (λ_ H=>⟨lv H (c1 H Bmq (c1 H Bet Ae)) Aa Ab,Aj⟩) λ_=>by kernel_rfl
def A5u(v:Val):Option Str:=Wi v
def A62:FT [.sv .val] [.sl .byte true]:=λx=>A5u x
theorem Bhl:FO 103 [.sv .val] [.sl .byte true] A62 :=.fin0 Bax λ_ _ _ hx=>hx
def Anm:Sig:=⟨43,[(0,.sl .val false),(6,.sl .byte true),(7,.int .i64)],[],[],0,0,0,[],[]⟩
abbrev Aab:=List Val×List UInt8×Int
def Qd{R:Type}(rec:Aab->Option R)(kx:Ex->Aab->Option R)(v:Aab):Option R:=match v with
 |(v8,v9,a) =>
 cond (decide (a<(v8.length:Int))) (
  chk (inb a v8.length) (
  (A5u (at' .val v8 a)).bind λx1 =>
   chk (decide (v9.length+x1.length<=Af)) (
   rec (v8,(v9++x1),(wr .i64 (a+1)))))) (
  kx (.exit 2) (v8,v9,a))
def Ao5:Sig:=⟨43,[(0,.sl .val false),(2,.sl .byte true),(3,.int .i64),(4,.int .i64)],[],[],0,0,0,[],[]⟩
abbrev Aag:=List Val×List UInt8×Int×Int
def Wv{R:Type}(rec:Aag->Option R)(kx:Ex->Aag->Option R)(v:Aag):Option R:=match v with
 |(v,v1,v2,v3) =>
 cond (decide (v3<(v.length:Int))) (
  chk (inb v3 v.length) (
  cond (!decide ((Jg (at' .val v v3))=0)) (
   kx .ret (v,[],(Jg (at' .val v v3)),v3)) (
   rec (v,v1,v2,(wr .i64 (v3+1)))))) (
  kx (.exit 0) (v,v1,v2,v3))
def A7e(R:Type)(k:Nat):Px R:=pxO [(101,cA Lu),(102,cA Aad),(103,cA A62)] [] [(2,Am k Ao5 (Wv)),(11,Am k Anm (Qd))] []
def Sq(k:Nat)(x:HV [.sl .val false]):Option (HV [.sl .byte true,.int .i64]):=match x with
 |l =>
 Ak (λrec=>Wv rec (λe vz=>match vz with|(v4,v5,v6,_)=>match e with
  |.ret =>
  some (v5,v6)
  |.exit 0 =>
  cond (decide (100<(v4.length:Int))) (
   some ([],3)) (
   (U4 (wr .u64 (v4.length:Int))).bind λx =>
   Ak (λrec=>Qd rec (λe vz=>match vz with|(_,a,_)=>match e with
    |.exit 2 =>
    some (a,0)
    |_=>none)) k (v4,x,0))
  |_=>none)) k (l,[],0,0)
theorem Biu(k:Nat):FO 64 [.sl .val false] [.sl .byte true,.int .i64] (Sq k):=fR (px:=A7e _ k) (n:=2) Tryz.func64 rfl (λcx H=>by have h0:Lv cx (A7e (HV [.sl .byte true,.int .i64]) k):=lv H (c1 H Sf (c1 H Ahy (c1 H Bhl Ae))) Aa Ab;have hldenc_0:=lO H h0 (b:=lp Tryz.f64 0) (k:=k) (n:=0) (s:=Ao5) (step:=Wv) (λ_ _ _ (_,_,_,_)=>by kernel_rfl) Aj;have hldenc_1:=lO H h0 (b:=lp Tryz.f64 1) (k:=k) (n:=0) (s:=Anm) (step:=Qd) (λ_ _ _ (_,_,_)=>by kernel_rfl) Aj;exact⟨h0,(A3 (A3 Aj hldenc_0) hldenc_1)⟩) λ_=>by kernel_rfl
def Bar(l:List Val):Option (Str×Int):=Sq 10000 l
def Bgx:FT [.sl .val false] [.sl .byte true,.int .i64]:=λx=>Bar x
theorem Bnx:FO 64 [.sl .val false] [.sl .byte true,.int .i64] Bgx :=.fin 0 Biu λ_ _ _ hx=>⟨10000,hx⟩
end
def zz(n:Int):Nat:=if n<0 then(-2*n-1).toNat else(2*n).toNat
theorem Br5{n:Int}(h:inI n=true):zz n<18446744073709551616:=by simp[inI] at h;simp only[zz];split<;>omega
theorem wrU(n:Int):wr .u64 n=n % 18446744073709551616:=by simp[wr,IntKind.wrap,IntKind.bits,IntKind.signed]
theorem Bv9(k:IntKind)(x:Int):Aa3 k x 0=k.wrap ((BitVec.ofInt k.bits x).toNat:Int):=by simp[Aa3,Agn]
theorem Bv0{x:Int}(h : 0<=x/\x<18446744073709551616):Aa3 .u64 x 18446744073709551615=18446744073709551615-x:=by show wr .u64 (((BitVec.ofInt 64 x ^^^ BitVec.ofInt 64 18446744073709551615).toNat:Nat):Int)=_;rw[show BitVec.ofInt 64 18446744073709551615=BitVec.allOnes 64 by decide,BitVec.xor_allOnes,BitVec.toNat_not,BitVec.toNat_ofInt,wrU];omega
theorem Bs1{n:Int}(h:inI n=true):Aa3 .u64 (Bp2 .u64 (wr .u64 n) 1) (wr .u64 (Ev .i64 n 63))=(zz n:Int):=by
 simp[inI] at h;have e1:Bp2 .u64 (wr .u64 n) 1=(wr .u64 n*2) % 18446744073709551616:=by rw[<-wrU];rfl
 have e2:Ev .i64 n 63=n.fdiv 9223372036854775808:=rfl;rw[e1,e2,wrU,wrU];by_cases hn:n<0
 ·have e3:n.fdiv 9223372036854775808 = -1:=by rw[Int.fdiv_eq_ediv_of_nonneg _ (by omega)];omega
  rw[e3,show(-1:Int) % 18446744073709551616=18446744073709551615 by decide,Bv0 (by omega)];simp only[zz,if_pos hn];omega
 ·have e3:n.fdiv 9223372036854775808=0:=by rw[Int.fdiv_eq_ediv_of_nonneg _ (by omega)];omega
  rw[e3,show(0:Int) % 18446744073709551616=0 by decide,Bv9];show wr .u64 (((BitVec.ofInt 64 _).toNat:Nat):Int)=_;rw[BitVec.toNat_ofInt,wrU];simp only[zz,if_neg hn];omega
theorem Bfn{n:Int}(h:inI n=true):A8e n=some (Ek 9 (zz n)):=by simp only[A8e,Wb,Bs1 h,Biz (Br5 h)];rfl
theorem Bjq{n:Int}(h:inI n=true):A5w n=some (Ek 9 (zz n)):=by
 have hz:=Br5 h;simp[inI] at h;simp only[A5w,Wn];by_cases hn:n<0
 ·have e:wr .u64 ((wr .u64 (2*(wr .u64 (wr .i64 (0-(wr .i64 (n+1)))))))+1)=(zz n:Int):=by rw[Bd (n:=n+1) (by simp[inI];omega),Bd (n:=0-(n+1)) (by simp[inI];omega),wrU,wrU,wrU];simp only[zz,if_pos hn];omega
  rw[Ze1 hn,Ag,e,Y6 hz];rfl
 ·have e:wr .u64 (2*(wr .u64 n))=(zz n:Int):=by rw[wrU,wrU];simp only[zz,if_neg hn];omega
  rw[Zd1 hn,Ai,e,Y6 hz];rfl
theorem J1{v:Val}(h:Aq v=true)(hk:v.kind=4\/v.kind=5):v.s.length<=1000:=by rcases hk with hk|hk<;>simp[Aq,hk] at h<;>grind
theorem Acv{v:Val}(h:Aq v=true):v.kind=1\/v.kind=2\/v.kind=3\/v.kind=4\/v.kind=5:=by
 by_cases h1:v.kind=1; · exact .inl h1
 by_cases h2:v.kind=2; · exact .inr (.inl h2)
 by_cases h3:v.kind=3; · exact .inr (.inr (.inl h3))
 by_cases h4:v.kind=4; · exact .inr (.inr (.inr (.inl h4)))
 by_cases h5:v.kind=5; · exact .inr (.inr (.inr (.inr h5)))
 simp[Aq,h1,h2,h3,h4,h5] at h
def b8(n:Int):UInt8:=UInt8.ofNat (wr .u8 n).toNat
def M8(v:Val):Str:=b8 v.kind::(if v.kind=2 then [b8 v.n] else if v.kind=3 then Ek 9 (zz v.n) else if v.kind=4\/v.kind=5 then Ek 5 v.s.length++v.s else [])
theorem Axm{v:Val}(h:Aq v=true):(M8 v).length<=1020:=by
 have h1:=D4 9 (zz v.n);have h2:=D4 5 v.s.length;simp only[M8,Zf1];split
 ·simp
 ·split
  ·omega
  ·split
   ·have:=J1 h (by assumption);rw[Zh1];omega
   ·simp
theorem Avn{s:Str}(h:s.length<=274877906900):A44 s=some (Ek 5 s.length++s):=by have e:wr .u64 (s.length:Int)=(s.length:Int):=Aj2 (by omega);have:=D4 5 s.length;simp only[A44,Vl,e,Y6 (show s.length<18446744073709551616 by omega),Bsl (show s.length<128 ^ 6 by omega),Zc1];rw[Ze1 (by simp[Af];omega)];rfl
def Z5(l:List Val):Str:=(l.map M8).flatten
def Fy(l:List Val):Str×Int:=cond (l.all λv=>Aq v) (cond (decide (100<(l.length:Int))) ([],3) (Ek 9 l.length++Z5 l,0)) ([],2)
theorem vch(v:Val):B7 v=cond (!Aq v) 2 0:=rfl
theorem Bat{l:List Val}{i:Nat}{acc:Str}{a:Str}{b:Int}{kx:Ex->Lx->Option (Str×Int)}(rec:Lx->Option (Str×Int))(hi:i<l.length)(hl:ln l.length)(hn:inI l[i].n=true)(ha:acc.length<=200000000000) :
  Qz rec kx (l,a,b,acc,l,(l.length:Int),(i:Int))=cond (Aq l[i]) (rec (l,a,b,acc++M8 l[i],l,(l.length:Int),((i+1:Nat):Int))) (kx .ret (l,[],2,acc,l,(l.length:Int),(i:Int))):=by
 simp only[Qz,Br hi,Ag,Ao hi,chk,Al (c :=.val) hi,An hi hl,vch];cases hv:Aq l[i] with
 |false=>rfl
 |true =>
  have d1:decide (acc.length+1<=Af)=true:=Ze1 (by simp[Af];omega);have d2:∀x:Str,x.length<=2000->decide ((acc++[b8 l[i].kind]).length+x.length<=Af)=true:=λx hx=>Ze1 (by simp[Af];omega);rcases Acv hv with hk|hk|hk|hk|hk
  ·simp[M8,hk,d1,b8]
  ·have d3:=d2 [b8 l[i].n] (by simp);simp[b8,hk] at d3;simp[M8,hk,d1,b8,d3]
  ·have d3:=d2 (Ek 9 (zz l[i].n)) (by have:=D4 9 (zz l[i].n);omega);simp[b8,hk] at d3;simp[M8,hk,d1,b8,Bfn hn,d3]
  ·have hs:=J1 hv (.inl hk);have d3:=d2 (Ek 5 l[i].s.length++l[i].s) (by have:=D4 5 l[i].s.length;simp;omega);simp[b8,hk] at d3;simp[M8,hk,d1,b8,Avb (show l[i].s.length<=274877906900 by omega),d3,show l[i].s.length<=Af by simp[Af];omega]
  ·have hs:=J1 hv (.inr hk);have d3:=d2 (Ek 5 l[i].s.length++l[i].s) (by have:=D4 5 l[i].s.length;simp;omega);simp[b8,hk] at d3;simp[M8,hk,d1,b8,Avb (show l[i].s.length<=274877906900 by omega),d3,show l[i].s.length<=Af by simp[Af];omega]
theorem Aij(v:Val)(l:List Val):Z5 (v::l)=M8 v++Z5 l:=by simp[Z5]
theorem An7{l:List Val}{kx:Ex->Lx->Option (Str×Int)}(hl:l.length<=4000)(hn:∀v,v∈l->inI v.n=true):∀(k i:Nat) (acc:Str),i<=l.length->l.length-i<k->acc.length+1020*(l.length-i)<=200000000000 ->
  ((l.drop i).all (λv=>Aq v)=true->Ak (λrec=>Qz rec kx) k (l,[],0,acc,l,(l.length:Int),(i:Int))=kx (.exit 0) (l,[],0,acc++Z5 (l.drop i),l,(l.length:Int),(l.length:Int))) /\
  ((l.drop i).all (λv=>Aq v)=false->∃acc' j,Ak (λrec=>Qz rec kx) k (l,[],0,acc,l,(l.length:Int),(i:Int))=kx .ret (l,[],2,acc',l,(l.length:Int),j))
 |0,_,_,_,h,_=>by omega
 |k+1,i,acc,hi,hk,ha=>by
  have hln:ln l.length:=by simp[ln];omega
  rw[A0];by_cases h:i<l.length
  ·have hv:l[i]∈l:=List.getElem_mem h;rw[Bat _ h hln (hn _ hv) (by omega),List.drop_eq_getElem_cons h,Zv1];cases hr:Aq l[i] with|false =>refine⟨λe=>by simp at e,λ_=>⟨_,_,rfl⟩⟩|true =>have hlen:=Axm hr;rw[Ag,Bool.true_and,Aij,<-Zj1];exact An7 hl hn k (i+1) (acc++M8 l[i]) h (by omega) (by rw[Zh1];omega)
  ·have:i=l.length:=by omega
   subst this;refine⟨λ_ =>?_,λe=>by simp at e⟩;simp only[Qz,Bu,Ai];simp[Z5]
theorem A5m{l:List Val}(hl:l.length<=4000)(hn:∀v,v∈l->inI v.n=true):Ayr l=some (Fy l):=by
 have h9:=D4 9 l.length;obtain⟨h1,h2⟩:=An7 (l:=l) (kx:=λe vz=>match vz with|(v7,v8,v9,a,_,_,_)=>match e with
  |.ret=>some (v8,v9)
  |.exit 0=>cond (decide (100<(v7.length:Int))) (some ([],3)) (some (a,0))
  |_=>none) hl hn 5000 0 (Ek 9 l.length) (by omega) (by omega) (by omega)
 have e:wr .u64 (l.length:Int)=(l.length:Int):=Aj2 (by omega);simp only[Ayr,Aak,e,Biz (show l.length<18446744073709551616 by omega),Zc1,Fy];rw[Zq1] at h1 h2;cases h:l.all (λv=>Aq v) with|true =>refine(h1 h).trans ?_;show cond (decide (100<(l.length:Int))) (some (([]:Str),(3:Int))) (some (Ek 9 l.length++Z5 l,0))=_;cases decide (100<(l.length:Int))<;>rfl|false =>obtain⟨_,_,h3⟩:=h2 h;exact h3
theorem Bhv{v:Val}(h:Aq v=true)(hn:inI v.n=true):A5u v=some (M8 v):=by
 simp only[A5u,Wi];rcases Acv h with hk|hk|hk|hk|hk
 ·simp[M8,hk,b8]
 ·simp[M8,hk,b8]
 ·have h1:=D4 9 (zz v.n);have d : 1+(Ek 9 (zz v.n)).length<=Af:=by simp[Af];omega
  simp[M8,hk,b8,Bjq hn,d,chk]
 ·have hs:=J1 h (.inl hk);have h1:=D4 5 v.s.length;have d : 1+(Ek 5 v.s.length++v.s).length<=Af:=by simp[Af];omega
  simp only[Zh1] at d;simp[M8,hk,b8,Avn (show v.s.length<=274877906900 by omega),d,chk,show v.s.length<=Af by simp[Af];omega]
 ·have hs:=J1 h (.inr hk);have h1:=D4 5 v.s.length;have d : 1+(Ek 5 v.s.length++v.s).length<=Af:=by simp[Af];omega
  simp only[Zh1] at d;simp[M8,hk,b8,Avn (show v.s.length<=274877906900 by omega),d,chk,show v.s.length<=Af by simp[Af];omega]
theorem A75{l:List Val}{kx:Ex->Aag->Option (Str×Int)}(hl:l.length<=4000):∀(k i:Nat),i<=l.length->l.length-i<k ->
  ((l.drop i).all (λv=>Aq v)=true->Ak (λrec=>Wv rec kx) k (l,[],0,(i:Int))=kx (.exit 0) (l,[],0,(l.length:Int))) /\
  ((l.drop i).all (λv=>Aq v)=false->∃j,Ak (λrec=>Wv rec kx) k (l,[],0,(i:Int))=kx .ret (l,[],2,j))
 |0,_,_,h=>by omega
 |k+1,i,hi,hk=>by
  have hln:ln l.length:=by simp[ln];omega
  rw[A0];by_cases h:i<l.length
  ·simp only[Wv,Br h,Ag,Ao h,chk,Al (c :=.val) h,An h hln];rw[List.drop_eq_getElem_cons h,Zv1];have e:Jg l[i]=cond (!Aq l[i]) 2 0:=rfl;rw[e];cases hr:Aq l[i] with|false =>refine⟨λe=>by simp at e,λ_=>⟨_,rfl⟩⟩|true =>rw[Bool.true_and];exact A75 hl k (i+1) h (by omega)
  ·have:i=l.length:=by omega
   subst this;refine⟨λ_ =>?_,λe=>by simp at e⟩;simp only[Wv,Bu,Ai]
theorem A7w{l:List Val}{kx:Ex->Aab->Option (Str×Int)}(hl:l.length<=4000)(hn:∀v,v∈l->inI v.n=true)(hv:(l.all λv=>Aq v)=true):∀(k i:Nat) (acc:Str),i<=l.length->l.length-i<k->acc.length+1020*(l.length-i)<=200000000000 ->
  Ak (λrec=>Qd rec kx) k (l,acc,(i:Int))=kx (.exit 2) (l,acc++Z5 (l.drop i),(l.length:Int))
 |0,_,_,_,h,_=>by omega
 |k+1,i,acc,hi,hk,ha=>by
  have hln:ln l.length:=by simp[ln];omega
  rw[A0];by_cases h:i<l.length
  ·have hm:l[i]∈l:=List.getElem_mem h;have hr:=Zg2.1 hv _ hm;have hlen:=Axm hr;simp only[Qd,Br h,Ag,Ao h,chk,Al (c :=.val) h,An h hln,Bhv hr (hn _ hm),Zc1,Ze1 (show acc.length+(M8 l[i]).length<=Af by simp[Af];omega)];rw[List.drop_eq_getElem_cons h,Aij,<-Zj1];exact A7w hl hn hv k (i+1) (acc++M8 l[i]) h (by omega) (by rw[Zh1];omega)
  ·have:i=l.length:=by omega
   subst this;simp only[Qd,Bu,Ai];simp[Z5]
theorem Bt3{l:List Val}(m:Nat)(hm : 4000<m)(hl:l.length<=4000)(hn:∀v,v∈l->inI v.n=true):Sq m l=some (Fy l):=by
 have h9:=D4 9 l.length;have e:wr .u64 (l.length:Int)=(l.length:Int):=Aj2 (by omega);obtain⟨h1,h2⟩:=A75 (l:=l) (kx:=λe vz=>match vz with|(v4,v5,v6,_)=>match e with
  |.ret=>some (v5,v6)
  |.exit 0 =>
  cond (decide (100<(v4.length:Int))) (
   some ([],3)) (
   (U4 (wr .u64 (v4.length:Int))).bind λx =>
   Ak (λrec=>Qd rec (λe vz=>match vz with|(_,a,_)=>match e with
    |.exit 2=>some (a,0)
    |_=>none)) m (v4,x,0))
  |_=>none) hl m 0 (by omega) (by omega)
 simp only[Sq,Fy];rw[Zq1] at h1 h2;cases h:l.all (λv=>Aq v) with
 |true =>
  refine(h1 h).trans ?_;show cond (decide (100<(l.length:Int))) (some (([]:Str),(3:Int))) ((U4 (wr .u64 (l.length:Int))).bind λx=>Ak (λrec=>Qd rec (λe vz=>match vz with|(_,a,_)=>match e with
    |.exit 2=>some (a,0)
    |_=>none)) m (l,x,0))=_
  rw[e,Y6 (show l.length<18446744073709551616 by omega),Zc1];have h3:=A7w (l:=l) (kx:=λe vz=>match vz with|(_,a,_)=>match e with
    |.exit 2=>some (a,(0:Int))
    |_=>none) hl hn h m 0 (Ek 9 l.length) (by omega) (by omega) (by omega)
  rw[Zq1] at h3;cases decide (100<(l.length:Int)) with|true=>rfl|false=>exact h3
 |false =>obtain⟨_,h3⟩:=h2 h;exact h3
theorem A5b{l:List Val}(hl:l.length<=4000)(hn:∀v,v∈l->inI v.n=true):Bar l=some (Fy l):=Bt3 10000 (by omega) hl hn
end Go.Proofs.YtcoaaebppfbbnaaGreatDoor
namespace Go.Proofs.YtcoaaebppfbbnaaGreatDoor
open Go.Sx Go.RowKit
theorem Brm:ElTy Tryz.prog 43 5 1 1:=elTy_of (by kernel_rfl)
set_option maxRecDepth 20000 in
theorem Asx(a:Option Addr)(n c:Nat)(xs:List Value)(h1:xs.all one=true)(hbig:n<=2000000):Con Tryz.prog 151 [.slice a n c] [] (RdS (.slice a n c) 1 n xs) (C2 5 1 n xs):=by
 refine Bn Tryz.func151 Tryz.ntmps151 rfl (by kernel_rfl) rfl λw M =>?_
 repeat' (first|(refine Eo ?_;(first|refine Ca ?_|(apply Au rfl rfl;(first|exact p_move rfl|exact p_assign rfl))|(apply Au rfl rfl;exact Hy 1 (by dsimp only;decide +kernel) rfl rfl)|(refine Fs rfl rfl Brm rfl rfl rfl rfl ?_;intro b)))|(refine Em ?_;(first|refine Dw ?_|refine Bg ?_|refine Ed ?_|(refine Ea rfl ?_ ?_<;>intro hc<;>try contradiction)|refine B5 rfl rfl ?_))|(refine Ej ?_;(first|refine Cb ?_))|fail)
 ·exact Hm (M5 (by assumption)) rfl
 ·refine Ji 1 ?_;refine Jp 0 rfl rfl Brm rfl rfl rfl (Js (λw h=>h)) h1 (by omega) (by omega) ?_;intro v'
  repeat' (first|(refine Eo ?_;(first|refine Ca ?_|(apply Au rfl rfl;(first|exact p_assign rfl))))|(refine Em ?_;(first|refine B5 rfl rfl ?_))|(refine Ej ?_;(first|refine Cb ?_))|fail)
  refine B1 ?_;simp[C2]
theorem Bry:ElTy Tryz.prog 43 5 1 1:=elTy_of (by kernel_rfl)
set_option maxRecDepth 20000 in
theorem Atn(a:Option Addr)(n c:Nat)(xs:List Value)(h1:xs.all one=true)(hbig:n<=2000000):Con Tryz.prog 69 [.slice a n c] [] (RdS (.slice a n c) 1 n xs) (C2 5 1 n xs):=by
 refine Bn Tryz.func69 Tryz.ntmps69 rfl (by kernel_rfl) rfl λw M =>?_
 repeat' (first|(refine Eo ?_;(first|refine Ca ?_|(apply Au rfl rfl;(first|exact p_move rfl|exact p_assign rfl))|(apply Au rfl rfl;exact Hy 1 (by dsimp only;decide +kernel) rfl rfl)|(refine Fs rfl rfl Bry rfl rfl rfl rfl ?_;intro b)))|(refine Em ?_;(first|refine Dw ?_|refine Bg ?_|refine Ed ?_|(refine Ea rfl ?_ ?_<;>intro hc<;>try contradiction)|refine B5 rfl rfl ?_))|(refine Ej ?_;(first|refine Cb ?_))|fail)
 ·exact Hm (M5 (by assumption)) rfl
 ·refine Ji 1 ?_;refine Jp 0 rfl rfl Bry rfl rfl rfl (Js (λw h=>h)) h1 (by omega) (by omega) ?_;intro v'
  repeat' (first|(refine Eo ?_;(first|refine Ca ?_|(apply Au rfl rfl;(first|exact p_assign rfl))))|(refine Em ?_;(first|refine B5 rfl rfl ?_))|(refine Ej ?_;(first|refine Cb ?_))|fail)
  refine B1 ?_;simp[C2]
theorem A7x:ElTy Tryz.prog 44 46 6 112:=elTy_of (by kernel_rfl)
set_option maxRecDepth 20000 in
theorem Aud(a:Option Addr)(n c:Nat)(xs:List Value)(h1:xs.all one=true)(hbig:n<=2000000):Con Tryz.prog 157 [.slice a n c] [] (RdS (.slice a n c) 6 n xs) (C2 46 6 n xs):=by
 refine Bn Tryz.func157 Tryz.ntmps157 rfl (by kernel_rfl) rfl λw M =>?_
 repeat' (first|(refine Eo ?_;(first|refine Ca ?_|(apply Au rfl rfl;(first|exact p_move rfl|exact p_assign rfl))|(apply Au rfl rfl;exact Hy 6 (by dsimp only;decide +kernel) rfl rfl)|(refine Fs rfl rfl A7x rfl rfl rfl rfl ?_;intro b)))|(refine Em ?_;(first|refine Dw ?_|refine Bg ?_|refine Ed ?_|(refine Ea rfl ?_ ?_<;>intro hc<;>try contradiction)|refine B5 rfl rfl ?_))|(refine Ej ?_;(first|refine Cb ?_))|fail)
 ·exact Hm (M5 (by assumption)) rfl
 ·refine Ji 6 ?_;refine Jp 0 rfl rfl A7x rfl rfl rfl (Js (λw h=>h)) h1 (by omega) (by omega) ?_;intro v'
  repeat' (first|(refine Eo ?_;(first|refine Ca ?_|(apply Au rfl rfl;(first|exact p_assign rfl))))|(refine Em ?_;(first|refine B5 rfl rfl ?_))|(refine Ej ?_;(first|refine Cb ?_))|fail)
  refine B1 ?_;simp[C2]
set_option maxRecDepth 20000 in
theorem Amo(a:Option Addr)(c:Nat):Con Tryz.prog 157 [.slice a 0 c] [] (λ_=>True) (λv _ _=>∃a',v = .slice a' 0 0):=by
 refine Bn Tryz.func157 Tryz.ntmps157 rfl (by kernel_rfl) rfl λw M =>?_
 repeat' (first|(refine Eo ?_;(first|refine Ca ?_|(apply Au rfl rfl;(first|exact p_move rfl|exact p_assign rfl))|(apply Au rfl rfl;exact Hy 6 (by dsimp only;decide +kernel) rfl rfl)|(refine Fs rfl rfl A7x rfl rfl rfl rfl ?_;intro b)|(apply Au rfl rfl;exact Abb A7x rfl rfl)))|(refine Em ?_;(first|refine Dw ?_|refine Bg ?_|refine Ed ?_|(refine Ea rfl ?_ ?_<;>intro hc<;>try contradiction)|refine B5 rfl rfl ?_))|(refine Ej ?_;(first|refine Cb ?_))|fail)
 ·exact B1 ⟨_,rfl⟩
 ·exact B1 ⟨_,rfl⟩
theorem Btl:ElTy Tryz.prog 43 5 1 1:=elTy_of (by kernel_rfl)
set_option maxRecDepth 20000 in
theorem Awc(n:Int)(h0 : 0<n)(hbig:n<=2000000):Con Tryz.prog 199 [.slice none 0 0,.int .i64 n] [] (λ_=>True) (λv L _=>∃b q cs,v = .slice (some ⟨b,0,none⟩) 0 q/\q<=maxLen/\List.length cs=q*1/\L=[.blk b cs 5]):=by
 refine Bn Tryz.func199 Tryz.ntmps199 rfl (by kernel_rfl) rfl λw M =>?_
 repeat' (first|(refine Eo ?_;(first|refine Ca ?_|(apply Au rfl rfl;(first|exact p_move rfl|exact p_assign rfl|exact p_lensl (by dsimp only;decide +kernel) rfl|exact p_lss rfl rfl|exact p_gtr rfl rfl|exact Kj rfl rfl (by omega)))|(apply Au rfl rfl;exact Ah5 1 (by dsimp only;decide +kernel) rfl)|(apply Au rfl rfl;exact Lb 1 (by dsimp only;decide +kernel) rfl rfl (by omega))))|(refine Em ?_;(first|refine Dw ?_|refine Bg ?_|refine Ed ?_|(refine Iz rfl ?_ ?_<;>intro hc<;>try (first|(exfalso;omega)))))|(refine Ej ?_;(first|refine Cb ?_))|fail)
 refine Aun (kn :=.i64) rfl rfl Btl (by dsimp only;decide +kernel) rfl rfl (by omega) (by simp only[maxLen];omega) (by omega) ?_;intro b' q cs hq1 hq2 hcs
 repeat' (first|(refine Eo ?_;(first|refine Ca ?_|(apply Au rfl rfl;(first|exact p_move rfl|exact p_assign rfl|exact p_lensl (by dsimp only;decide +kernel) rfl))|(apply Au rfl rfl;exact Lb 1 (by dsimp only;decide +kernel) rfl rfl (by omega))))|(refine Em ?_;(first|refine Dw ?_|refine Bg ?_|refine B5 rfl rfl ?_))|(refine Ej ?_;(first|refine Cb ?_))|fail)
 exact B1 ⟨_,_,_,rfl,hq2,hcs,rfl⟩
set_option maxRecDepth 20000 in
theorem As6:Con Tryz.prog 199 [.slice none 0 0,.int .i64 0] [] (λ_=>True) (λv _ _=>v = .slice none 0 0):=by
 refine Bn Tryz.func199 Tryz.ntmps199 rfl (by kernel_rfl) rfl λw M =>?_
 repeat' (first|(refine Eo ?_;(first|refine Ca ?_|(apply Au rfl rfl;(first|exact p_move rfl|exact p_assign rfl|exact p_lensl (by dsimp only;decide +kernel) rfl|exact p_lss rfl rfl|exact p_gtr rfl rfl|exact Kj rfl rfl (by omega)))|(apply Au rfl rfl;exact Ah5 1 (by dsimp only;decide +kernel) rfl)|(apply Au rfl rfl;exact Lb 1 (by dsimp only;decide +kernel) rfl rfl (by omega))))|(refine Em ?_;(first|refine Dw ?_|refine Bg ?_|refine Ed ?_|refine B5 rfl rfl ?_|(refine Iz rfl ?_ ?_<;>intro hc<;>try (first|(exfalso;omega)))))|(refine Ej ?_;(first|refine Cb ?_))|fail)
 exact B1 rfl
theorem A4e:Go.Ax.GrOk Tryz.prog 199 (elT .byte) (Go.Ax.csz .byte):=⟨Sx.enters_of Tryz.func199 rfl (by kernel_rfl),Awc,As6⟩
theorem Bsh:ElTy Tryz.prog 28 56 3 32:=elTy_of (by kernel_rfl)
set_option maxRecDepth 20000 in
theorem A0m(n:Int)(h0 : 0<n)(hbig:n<=2000000):Con Tryz.prog 113 [.slice none 0 0,.int .i64 n] [] (λ_=>True) (λv L _=>∃b q cs,v = .slice (some ⟨b,0,none⟩) 0 q/\q<=maxLen/\List.length cs=q*3/\L=[.blk b cs 56]):=by
 refine Bn Tryz.func113 Tryz.ntmps113 rfl (by kernel_rfl) rfl λw M =>?_
 repeat' (first|(refine Eo ?_;(first|refine Ca ?_|(apply Au rfl rfl;(first|exact p_move rfl|exact p_assign rfl|exact p_lensl (by dsimp only;decide +kernel) rfl|exact p_lss rfl rfl|exact p_gtr rfl rfl|exact Kj rfl rfl (by omega)))|(apply Au rfl rfl;exact Ah5 3 (by dsimp only;decide +kernel) rfl)|(apply Au rfl rfl;exact Lb 3 (by dsimp only;decide +kernel) rfl rfl (by omega))))|(refine Em ?_;(first|refine Dw ?_|refine Bg ?_|refine Ed ?_|(refine Iz rfl ?_ ?_<;>intro hc<;>try (first|(exfalso;omega)))))|(refine Ej ?_;(first|refine Cb ?_))|fail)
 refine Aun (kn :=.i64) rfl rfl Bsh (by dsimp only;decide +kernel) rfl rfl (by omega) (by simp only[maxLen];omega) (by omega) ?_;intro b' q cs hq1 hq2 hcs
 repeat' (first|(refine Eo ?_;(first|refine Ca ?_|(apply Au rfl rfl;(first|exact p_move rfl|exact p_assign rfl|exact p_lensl (by dsimp only;decide +kernel) rfl))|(apply Au rfl rfl;exact Lb 3 (by dsimp only;decide +kernel) rfl rfl (by omega))))|(refine Em ?_;(first|refine Dw ?_|refine Bg ?_|refine B5 rfl rfl ?_))|(refine Ej ?_;(first|refine Cb ?_))|fail)
 exact B1 ⟨_,_,_,rfl,hq2,hcs,rfl⟩
set_option maxRecDepth 20000 in
theorem Ar4:Con Tryz.prog 113 [.slice none 0 0,.int .i64 0] [] (λ_=>True) (λv _ _=>v = .slice none 0 0):=by
 refine Bn Tryz.func113 Tryz.ntmps113 rfl (by kernel_rfl) rfl λw M =>?_
 repeat' (first|(refine Eo ?_;(first|refine Ca ?_|(apply Au rfl rfl;(first|exact p_move rfl|exact p_assign rfl|exact p_lensl (by dsimp only;decide +kernel) rfl|exact p_lss rfl rfl|exact p_gtr rfl rfl|exact Kj rfl rfl (by omega)))|(apply Au rfl rfl;exact Ah5 3 (by dsimp only;decide +kernel) rfl)|(apply Au rfl rfl;exact Lb 3 (by dsimp only;decide +kernel) rfl rfl (by omega))))|(refine Em ?_;(first|refine Dw ?_|refine Bg ?_|refine Ed ?_|refine B5 rfl rfl ?_|(refine Iz rfl ?_ ?_<;>intro hc<;>try (first|(exfalso;omega)))))|(refine Ej ?_;(first|refine Cb ?_))|fail)
 exact B1 rfl
theorem Ago:Go.Ax.GrOk Tryz.prog 113 (elT .val) (Go.Ax.csz .val):=⟨Sx.enters_of Tryz.func113 rfl (by kernel_rfl),A0m,Ar4⟩
theorem Buy:ElTy Tryz.prog 32 80 2 48:=elTy_of (by kernel_rfl)
set_option maxRecDepth 20000 in
theorem A4d(n:Int)(h0 : 0<n)(hbig:n<=2000000):Con Tryz.prog 70 [.slice none 0 0,.int .i64 n] [] (λ_=>True) (λv L _=>∃b q cs,v = .slice (some ⟨b,0,none⟩) 0 q/\q<=maxLen/\List.length cs=q*2/\L=[.blk b cs 80]):=by
 refine Bn Tryz.func70 Tryz.ntmps70 rfl (by kernel_rfl) rfl λw M =>?_
 repeat' (first|(refine Eo ?_;(first|refine Ca ?_|(apply Au rfl rfl;(first|exact p_move rfl|exact p_assign rfl|exact p_lensl (by dsimp only;decide +kernel) rfl|exact p_lss rfl rfl|exact p_gtr rfl rfl|exact Kj rfl rfl (by omega)))|(apply Au rfl rfl;exact Ah5 2 (by dsimp only;decide +kernel) rfl)|(apply Au rfl rfl;exact Lb 2 (by dsimp only;decide +kernel) rfl rfl (by omega))))|(refine Em ?_;(first|refine Dw ?_|refine Bg ?_|refine Ed ?_|(refine Iz rfl ?_ ?_<;>intro hc<;>try (first|(exfalso;omega)))))|(refine Ej ?_;(first|refine Cb ?_))|fail)
 refine Aun (kn :=.i64) rfl rfl Buy (by dsimp only;decide +kernel) rfl rfl (by omega) (by simp only[maxLen];omega) (by omega) ?_;intro b' q cs hq1 hq2 hcs
 repeat' (first|(refine Eo ?_;(first|refine Ca ?_|(apply Au rfl rfl;(first|exact p_move rfl|exact p_assign rfl|exact p_lensl (by dsimp only;decide +kernel) rfl))|(apply Au rfl rfl;exact Lb 2 (by dsimp only;decide +kernel) rfl rfl (by omega))))|(refine Em ?_;(first|refine Dw ?_|refine Bg ?_|refine B5 rfl rfl ?_))|(refine Ej ?_;(first|refine Cb ?_))|fail)
 exact B1 ⟨_,_,_,rfl,hq2,hcs,rfl⟩
set_option maxRecDepth 20000 in
theorem Avz:Con Tryz.prog 70 [.slice none 0 0,.int .i64 0] [] (λ_=>True) (λv _ _=>v = .slice none 0 0):=by
 refine Bn Tryz.func70 Tryz.ntmps70 rfl (by kernel_rfl) rfl λw M =>?_
 repeat' (first|(refine Eo ?_;(first|refine Ca ?_|(apply Au rfl rfl;(first|exact p_move rfl|exact p_assign rfl|exact p_lensl (by dsimp only;decide +kernel) rfl|exact p_lss rfl rfl|exact p_gtr rfl rfl|exact Kj rfl rfl (by omega)))|(apply Au rfl rfl;exact Ah5 2 (by dsimp only;decide +kernel) rfl)|(apply Au rfl rfl;exact Lb 2 (by dsimp only;decide +kernel) rfl rfl (by omega))))|(refine Em ?_;(first|refine Dw ?_|refine Bg ?_|refine Ed ?_|refine B5 rfl rfl ?_|(refine Iz rfl ?_ ?_<;>intro hc<;>try (first|(exfalso;omega)))))|(refine Ej ?_;(first|refine Cb ?_))|fail)
 exact B1 rfl
theorem A9g:Go.Ax.GrOk Tryz.prog 70 (elT .kv) (Go.Ax.csz .kv):=⟨Sx.enters_of Tryz.func70 rfl (by kernel_rfl),A4d,Avz⟩
open Go.Ax
theorem Axg:ClOk Tryz.prog 151 (elT .byte) (csz .byte):=⟨Sx.enters_of Tryz.func151 rfl (by kernel_rfl),Asx⟩
theorem Az7:ClOk Tryz.prog 69 (elT .byte) (csz .byte):=⟨Sx.enters_of Tryz.func69 rfl (by kernel_rfl),Atn⟩
theorem Awx:ClOk Tryz.prog 157 (elT .node) (csz .node):=⟨Sx.enters_of Tryz.func157 rfl (by kernel_rfl),Aud⟩
theorem Atr:Ah2 Tryz.prog 157:=Amo
theorem Awv:FO 151 [.sl .byte false] [.sl .byte true] (A29 .byte):=Aah Axg
theorem Az8:FO 69 [.sl .byte false] [.sl .byte true] (A29 .byte):=Aah Az7
end Go.Proofs.YtcoaaebppfbbnaaGreatDoor
