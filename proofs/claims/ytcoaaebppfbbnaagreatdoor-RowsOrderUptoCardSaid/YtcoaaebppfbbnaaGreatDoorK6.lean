/- Texts of the proof,one behind the other: Fd,Es,Ix,En,Ep,Ac,Ad,Sc,No,So,Sd,Se,Zf,Zv,Vu,Xu,Vc,Zr,Zi,Sn,Ck,Kr,Zk. -/
import Derived.Test.YtcoaaebppfbbnaaGreatDoorK5
import Derived.Lib.Walk
import Derived.Lib.BytesEntry
import Derived.Laws.Externs
set_option linter.all false
namespace Go.Proofs.YtcoaaebppfbbnaaGreatDoor
open Go.Ax
theorem P8:∀(l:List Col) (s:Str) (i:Nat),Ds l s i = -1\/((i:Int)<=Ds l s i/\Ds l s i<(i+l.length:Nat))
 |[],_,_ =>.inl rfl
 |c::l,s,i=>by
  simp[Ds];split
  ·right;omega
  ·have:=P8 l s (i+1);omega
theorem Xb(l:List Col)(s:Str):C7 l s = -1\/(0<=C7 l s/\C7 l s<(l.length:Int)):=by have:=P8 l s 0;simpa[C7] using this
theorem Bi5{l:List Col}{s:Str}(h:¬C7 l s<0):inb (C7 l s) l.length=true:=by have:=Xb l s;simp[inb];omega
def Aha:Sig:=⟨102,[(1,.sl .col false),(4,.int .i64),(5,.int .i64),(12,.sl .expr false),(13,.int .i64),(14,.int .i64)],[(2,.ptr 0 0),(6,.ptr 1 0)],[(0,.one (.sv .expr)),(1,.one (.rw .int 2))],2,0,0,[],[]⟩
abbrev Sm:=List Col×Int×Int×List Xpr×Int×Int×Xpr×List Int
def Hb{R:Type}(rf:FT [.sv .expr,.sl .col false] [.int .i64,.int .i64])(rec:Sm->Option R)(kx:Ex->Sm->Option R)(v:Sm):Option R:=match v with
 |(v,v1,v2,v3,v4,v5,w,w1) =>
 cond (decide (v5<v4)) (
  chk (inb v5 v3.length) (
  (rf ((at' .expr v3 v5),v)).bind λ(x,x1) =>
   chk (inb v5 2) (
   cond (!decide (x1=0)) (
    kx .ret (v,0,x1,v3,v4,v5,w,(w1.set (v5:Int).toNat x))) (
    cond (decide (v5=1)) (
    kx (.exit 0) (v,v1,v2,v3,v4,v5,w,(w1.set (v5:Int).toNat x))) (
    rec (v,v1,v2,v3,v4,(wr .i64 (v5+1)),w,(w1.set (v5:Int).toNat x))))))) (
  kx (.exit 0) (v,v1,v2,v3,v4,v5,w,w1))
def Axj(R:Type)(k:Nat)(rf:FT [.sv .expr,.sl .col false] [.int .i64,.int .i64]):Px R:=pxO [(90,cA rf),(134,cA A21),(135,cA A57)] [] [(3,Am k Aha (Hb rf))] []
def Jj(k:Nat)(rf:FT [.sv .expr,.sl .col false] [.int .i64,.int .i64])(x:HV [.sv .expr,.sl .col false]):Option (HV [.int .i64,.int .i64]):=match x with
 |(e,cols) =>
 Aj (λrec=>Hb rf rec (λe vz=>match vz with|(v6,v7,v8,_,_,_,a,b)=>match e with
  |.ret =>
  some (v7,v8)
  |.exit 0 =>
  let j2:=λ(q:List Int) =>
   cond (decide (a.kind=1)) (
   some (a.v.kind,0)) (
   cond (decide (a.kind=2)) (
    cond (decide ((C7 v6 a.name)<0)) (
    some (0,150)) (
    chk (inb (C7 v6 a.name) v6.length) (
     some ((at' .col v6 (C7 v6 a.name)).kind,0)))) (
    cond (decide (a.kind=16)) (
    some (2,0)) (
    let j1:=λ(p:Bool) =>
     cond (p) (
     cond ((Jv (at' .int q 0) 2)) (
      cond ((Jv (at' .int q 1) 2)) (
      some (2,0)) (
      some (0,151))) (
      some (0,151))) (
     let j:=λ(p3:Bool) =>
      cond (p3) (
      cond ((Jv (at' .int q 0) 3)) (
       cond ((Jv (at' .int q 1) 3)) (
       some (3,0)) (
       some (0,151))) (
       some (0,151))) (
      cond (decide ((at' .int q 0)=(at' .int q 1))) (
       some (2,0)) (
       cond (decide ((at' .int q 0)=1)) (
       some (2,0)) (
       cond (decide ((at' .int q 1)=1)) (
        some (2,0)) (
        some (0,151)))))
     cond (decide (a.kind=12)) (
      j (decide (a.kind=12))) (
      cond (decide (a.kind=13)) (
      j (decide (a.kind=13))) (
      cond (decide (a.kind=14)) (
       j (decide (a.kind=14))) (
       j (decide (a.kind=15))))))
    cond (decide (a.kind=3)) (
     j1 (decide (a.kind=3))) (
     cond (decide (a.kind=4)) (
     j1 (decide (a.kind=4))) (
     j1 (decide (a.kind=5)))))))
  cond (decide ((a.l.length:Int)=1)) (
   j2 (b.set (1:Int).toNat (at' .int b 0))) (
   j2 b)
  |_=>none)) k (cols,0,0,e.l,(e.l.length:Int),0,e,[0,0])
theorem Bd7(k:Nat)(rf:FT [.sv .expr,.sl .col false] [.int .i64,.int .i64])(hrf:FO 90 [.sv .expr,.sl .col false] [.int .i64,.int .i64] rf):FO 90 [.sv .expr,.sl .col false] [.int .i64,.int .i64] (Jj k rf):=fR (px:=Axj _ k rf) (n:=1) Tryz.func90 rfl (λcx H=>by have h0:Lv cx (Axj (HV [.int .i64,.int .i64]) k rf):=lv H (c1 H hrf (c1 H A8i (c1 H Bku Ae))) Aa Ab;have hlkindE_0:=lO H h0 (b:=lp Tryz.f90 0) (k:=k) (n:=0) (s:=Aha) (step:=Hb rf) (λ_ _ _ (_,_,_,_,_,_,_,_)=>by kernel_rfl) Ai;exact⟨h0,(A6 Ai hlkindE_0)⟩) λ(_,_)=>by kernel_rfl
def Pe(e:Xpr)(cols:List Col)(a b:Int):Int×Int :=
 if e.kind=1 then(e.v.kind,0)
 else if e.kind=2 then(if C7 cols e.name<0 then(0,150) else((at' .col cols (C7 cols e.name)).kind,0))
 else if e.kind=16 then(2,0)
 else if e.kind=3\/e.kind=4\/e.kind=5 then(if Jv a 2&&Jv b 2 then(2,0) else(0,151))
 else if e.kind=12\/e.kind=13\/e.kind=14\/e.kind=15 then(if Jv a 3&&Jv b 3 then(3,0) else(0,151))
 else if a=b\/a=1\/b=1 then(2,0) else(0,151)
def Avw(e:Xpr)(cols:List Col):List (Int×Int)->Int×Int
 |[]=>Pe e cols 0 0
 |[(a,f)]=>if f=0 then Pe e cols a a else(0,f)
 |(a,f)::(b,g)::_=>if f=0 then(if g=0 then Pe e cols a b else(0,g)) else(0,f)
mutual
def Bl:Xpr->List Col->Int×Int
 |.mk k v nm l,cols=>Avw (.mk k v nm l) cols (kindL l cols)
def kindL:List Xpr->List Col->List (Int×Int)
 |[],_=>[]
 |x::l,cols=>Bl x cols::kindL l cols
end
theorem Azp(e:Xpr)(cols:List Col):Bl e cols=Avw e cols (kindL e.l cols):=by cases e;simp[Bl,Xpr.l]
def Aso:FT [.sv .expr,.sl .col false] [.int .i64,.int .i64]:=λx=>some (Bl x.1 x.2)
def A79(a:Xpr)(v6:List Col)(q:List Int):Option (Int×Int) :=
   cond (decide (a.kind=1)) (
   some (a.v.kind,0)) (
   cond (decide (a.kind=2)) (
    cond (decide ((C7 v6 a.name)<0)) (
    some (0,150)) (
    chk (inb (C7 v6 a.name) v6.length) (
     some ((at' .col v6 (C7 v6 a.name)).kind,0)))) (
    cond (decide (a.kind=16)) (
    some (2,0)) (
    let j1:=λ(p:Bool) =>
     cond (p) (
     cond ((Jv (at' .int q 0) 2)) (
      cond ((Jv (at' .int q 1) 2)) (
      some (2,0)) (
      some (0,151))) (
      some (0,151))) (
     let j:=λ(p3:Bool) =>
      cond (p3) (
      cond ((Jv (at' .int q 0) 3)) (
       cond ((Jv (at' .int q 1) 3)) (
       some (3,0)) (
       some (0,151))) (
       some (0,151))) (
      cond (decide ((at' .int q 0)=(at' .int q 1))) (
       some (2,0)) (
       cond (decide ((at' .int q 0)=1)) (
       some (2,0)) (
       cond (decide ((at' .int q 1)=1)) (
        some (2,0)) (
        some (0,151)))))
     cond (decide (a.kind=12)) (
      j (decide (a.kind=12))) (
      cond (decide (a.kind=13)) (
      j (decide (a.kind=13))) (
      cond (decide (a.kind=14)) (
       j (decide (a.kind=14))) (
       j (decide (a.kind=15))))))
    cond (decide (a.kind=3)) (
     j1 (decide (a.kind=3))) (
     cond (decide (a.kind=4)) (
     j1 (decide (a.kind=4))) (
     j1 (decide (a.kind=5)))))))
theorem Adb(e:Xpr)(cols:List Col)(a b:Int):A79 e cols [a,b]=some (Pe e cols a b):=by
 have ha:at' .int [a,b] 0=a:=rfl;have hb:at' .int [a,b] 1=b:=rfl;simp[A79,Pe,ha,hb];generalize e.kind=k;by_cases h1:k=1
 ·simp[h1]
 by_cases h2:k=2
 ·simp[h2];by_cases hf:C7 cols e.name<0
  ·simp[hf]
  ·rw[Bi5 hf];simp[hf,chk]
 by_cases h16:k=16
 ·simp[h16]
 rw[Zd1 h1,Zd1 h2,Zd1 h16,if_neg h1,if_neg h2,if_neg h16];simp;by_cases h3:k=3
 ·grind
 by_cases h4:k=4
 ·grind
 by_cases h5:k=5
 ·grind
 rw[Zd1 h3,Zd1 h4,Zd1 h5,if_neg (by omega)];simp;by_cases h12:k=12
 ·grind
 by_cases h13:k=13
 ·grind
 by_cases h14:k=14
 ·grind
 by_cases h15:k=15
 ·grind
 rw[Zd1 h12,Zd1 h13,Zd1 h14,Zd1 h15,if_neg (by omega)];simp;by_cases c1:a=b
 ·simp[c1]
 by_cases c2:a=1
 ·simp[c2]
 by_cases c3:b=1
 ·simp[c3]
 simp[c1,c2,c3]
def Anp{R:Type}(ga:Int->Option R)(gb:Int->Int->Option R):List (Int×Int)->Option R
 |[]=>gb 0 0
 |[(a,f)]=>if f=0 then gb a 0 else ga f
 |(a,f)::(b,g)::_=>if f=0 then(if g=0 then gb a b else ga g) else ga f
theorem Bdi{R:Type}{rf:FT [.sv .expr,.sl .col false] [.int .i64,.int .i64]}{kx:Ex->Sm->Option R}{cols:List Col}{e:Xpr}{ga:Int->Option R}{gb:Int->Int->Option R}(hn:ln e.l.length)(hrf:∀x,x∈e.l->rf (x,cols)=some (Bl x cols))(h1:∀f i ks,kx .ret (cols,0,f,e.l,(e.l.length:Int),i,e,ks)=ga f)(h2:∀i a b,kx (.exit 0) (cols,0,0,e.l,(e.l.length:Int),i,e,[a,b])=gb a b)(k:Nat):Aj (λrec=>Hb rf rec kx) (k+3) (cols,0,0,e.l,(e.l.length:Int),0,e,[0,0])=Anp ga gb (kindL e.l cols):=by
 rw[Ay];generalize e.l=l at *;match l with
 |[] =>simp;exact h2 0 0 0
 |[x] =>
  simp only[Hb];have e1:at' .expr [x] 0=x:=rfl;rw[e1,hrf x (by simp)];simp only[ kindL,Anp];show cond (!decide ((Bl x cols).2=0)) (kx .ret (cols,0,(Bl x cols).2,[x],1,0,e,[(Bl x cols).1,0])) (Aj (λrec=>Hb rf rec kx) (k+2) (cols,0,0,[x],1,1,e,[(Bl x cols).1,0]))=_;have h1':=λf i ks=>h1 f i ks;have h2':=λi a b=>h2 i a b;have hl:(([x]:List Xpr).length:Int)=1:=rfl;rw[hl] at h1' h2';rw[h1',Ay];have:Hb rf (Aj (λrec=>Hb rf rec kx) (k+1)) kx (cols,0,0,[x],1,1,e,[(Bl x cols).1,0])=kx (.exit 0) (cols,0,0,[x],1,1,e,[(Bl x cols).1,0]):=rfl;rw[this,h2'];by_cases hf:(Bl x cols).2=0
  ·simp
  ·simp
 |x::y::t =>
  simp only[Hb];have hlen:(0:Int)<((x::y::t).length:Int):=by simp;omega
  have hlen1:(1:Int)<((x::y::t).length:Int):=by simp;omega
  have e1:at' .expr (x::y::t) 0=x:=rfl;have e2:at' .expr (x::y::t) 1=y:=rfl;rw[Ze1 hlen,e1,hrf x (by simp)];have i1:inb 0 (x::y::t).length=true:=As (i:=0) (by simp);have i2:inb 1 (x::y::t).length=true:=As (i:=1) (by simp);rw[i1];simp only[ kindL,Anp];show cond (!decide ((Bl x cols).2=0)) (kx .ret (cols,0,(Bl x cols).2,x::y::t,_,0,e,[(Bl x cols).1,0])) (Aj (λrec=>Hb rf rec kx) (k+2) (cols,0,0,x::y::t,((x::y::t).length:Int),1,e,[(Bl x cols).1,0]))=_;rw[h1,Ay];simp only[Hb];rw[Ze1 hlen1,e2,hrf y (by simp),i2];simp only[ chk];show cond (!decide ((Bl x cols).2=0)) (ga (Bl x cols).2) (cond (!decide ((Bl y cols).2=0)) (kx .ret (cols,0,(Bl y cols).2,x::y::t,_,1,e,_)) (kx (.exit 0) (cols,0,0,x::y::t,_,1,e,[(Bl x cols).1,(Bl y cols).1])))=_;rw[h1,h2];by_cases hf:(Bl x cols).2=0
  ·grind
  ·simp[hf]
theorem Aq0(k:Nat):∀(n:Nat) (e:Xpr) (cols:List Col),BdExpr e->Bf e<=n->Aj (Jj (k+3)) n (e,cols)=some (Bl e cols)
 |0,e,cols,_,h=>by have:=Hu e;omega
 |n+1,e,cols,hb,h=>by
  obtain⟨hb4,hb5⟩:=Are hb;rw[Ld] at h;have hrf:∀x,x∈e.l->Aj (Jj (k+3)) n (x,cols)=some (Bl x cols):=λx hx=>Aq0 k n x cols (hb5 x hx) (by have:=C6 hx;omega);rw[Ay,Azp];simp[Jj];refine(Bdi (ga:=λf=>some (0,f)) (gb:=λa b=>cond (decide ((e.l.length:Int)=1)) (A79 e cols [a,a]) (A79 e cols [a,b])) hb4 hrf ?_ ?_ k).trans ?_
  ·exactλ_ _ _=>rfl
  ·exactλ_ _ _=>rfl
  ·generalize e.l=l;match l with
   |[]=>simp[kindL,Anp,Avw,Adb]
   |[x] =>simp[kindL,Anp,Avw,Adb];split<;>simp
   |x::y::t =>
    simp only[kindL,Anp,Avw,Adb];have:¬(((x::y::t).length:Int)=1):=by simp;omega
    rw[Zd1 this];split
    ·split<;>rfl
    ·rfl
theorem Ax5:FO 90 [.sv .expr,.sl .col false] [.int .i64,.int .i64] Aso:=by refine .fin (ι:=Nat) 0 (F:=λn=>Aj (Jj 3) n) (λn=>FnOk.rec' (Sx.enters_of Tryz.func90 rfl rfl) (λrf hrf=>Bd7 3 rf hrf) n) λ(e,cols) r hb hx=>⟨Bf e,?_⟩;exact(Aq0 0 (Bf e) e cols hb.1 (Zn1 _)).trans hx
def Bm2(R:Type):Px R:=pxO [(89,cA Ar5),(90,cA Aso)] [] [] []
def Xn(x:HV [.sv .expr,.sl .col false]):Option (HV [.int .i64,.int .i64]):=match x with
 |(e,cols) =>
 cond (!decide ((Il e)=0)) (
  some (0,(Il e))) (
  some ((Bl e cols).1,(Bl e cols).2))
theorem Bah:FO 180 [.sv .expr,.sl .col false] [.int .i64,.int .i64] (Xn):=fR (px:=Bm2 _) (n:=0) Tryz.func180 rfl (λ_ H=>⟨lv H (c1 H Aw2 (c1 H Ax5 Ae)) Aa Ab,Ai⟩) λ(_,_)=>by kernel_rfl
def J4(e:Xpr)(cols:List Col):Int×Int :=
 cond (!decide ((Il e)=0)) (
  (0,(Il e))) (
  ((Bl e cols).1,(Bl e cols).2))
theorem Bab(x:HV [.sv .expr,.sl .col false]):Xn x=some (J4 x.1 x.2):=by
 first
  |exact rfl
  |simp only[Xn,J4,Az]
def A5w:FT [.sv .expr,.sl .col false] [.int .i64,.int .i64]:=λx=>some (J4 x.1 x.2)
theorem Bj0:FO 180 [.sv .expr,.sl .col false] [.int .i64,.int .i64] A5w :=.fin0 Bah λx _ _ hx=>(Bab x).trans hx
def Akk:Sig:=⟨133,[(1,.sl .col false),(2,.sl .val false),(7,.int .i64),(8,.sl .val true),(9,.bool),(15,.sl .expr false),(16,.int .i64),(17,.int .i64)],[(3,.ptr 0 0),(6,.ptr 1 0)],[(0,.one (.sv .expr)),(1,.one (.sv .val))],2,0,0,[],[]⟩
abbrev Ua:=List Col×List Val×Int×List Val×Bool×List Xpr×Int×Int×Xpr×Val
def R9{R:Type}(rf:FT [.sv .expr,.sl .col false,.sl .val false] [.sv .val,.int .i64])(rec:Ua->Option R)(kx:Ex->Ua->Option R)(v:Ua):Option R:=match v with
 |(v,v1,v2,v3,v4,v5,v6,v7,w,w1) =>
 cond (decide (v7<v6)) (
  chk (inb v7 v5.length) (
  (rf ((at' .expr v5 v7),v,v1)).bind λ(x,x1) =>
   cond (!decide (x1=0)) (
   kx .ret (v,v1,x1,v3,v4,v5,v6,v7,w,(Val.mk 0 0 []))) (
   chk (decide (v3.length+1<=Ah)) (
    cond (v4) (
    rec (v,v1,v2,(v3++[x]),true,v5,v6,(wr .i64 (v7+1)),w,w1)) (
    rec (v,v1,v2,(v3++[x]),decide (x.kind=1),v5,v6,(wr .i64 (v7+1)),w,w1)))))) (
  kx (.exit 0) (v,v1,v2,v3,v4,v5,v6,v7,w,w1))
def Avx(R:Type)(k:Nat)(rf:FT [.sv .expr,.sl .col false,.sl .val false] [.sv .val,.int .i64]):Px R:=pxO [(91,cA rf),(134,cA A21),(136,cA Atg),(137,cA Asw),(139,cA Ay1)] [(138,qA Blj),(56,qA A37)] [(4,Am k Akk (R9 rf))] []
def Jf(k:Nat)(rf:FT [.sv .expr,.sl .col false,.sl .val false] [.sv .val,.int .i64])(x:HV [.sv .expr,.sl .col false,.sl .val false]):Option (HV [.sv .val,.int .i64]):=match x with
 |(e,cols,row) =>
 Aj (λrec=>R9 rf rec (λe vz=>match vz with|(v8,v9,d,b,c,_,_,_,a,f)=>match e with
  |.ret =>
  some (f,d)
  |.exit 0 =>
  cond (decide (a.kind=1)) (
   some (a.v,0)) (
   cond (decide (a.kind=2)) (
   chk (inb (C7 v8 a.name) v9.length) (
    some ((at' .val v9 (C7 v8 a.name)),0))) (
   cond (decide (a.kind=16)) (
    some ((Fv c),0)) (
    let j:=λ(p5:Bool) =>
    cond (p5) (
     some ((Ae2 a.kind b),0)) (
     cond (c) (
     some ((Val.mk 1 0 []),0)) (
     cond (decide (a.kind=3)) (
      chk (inb 0 b.length) (
      some ((Fv (decide ((at' .val b 0).n=0))),0))) (
      cond (decide (a.kind=15)) (
      chk (inb 0 b.length) (
       some ((U1 a.kind ((at' .val b 0).n) 0).1,(U1 a.kind ((at' .val b 0).n) 0).2))) (
      cond (decide (12<=a.kind)) (
       chk (inb 0 b.length) (
       chk (inb 1 b.length) (
        some ((U1 a.kind ((at' .val b 0).n) ((at' .val b 1).n)).1,(U1 a.kind ((at' .val b 0).n) ((at' .val b 1).n)).2)))) (
       chk (inb 0 b.length) (
       chk (inb 1 b.length) (
        some ((Fv (Al0 a.kind (Gu (at' .val b 0) (at' .val b 1)))),0))))))))
    cond (decide (a.kind=4)) (
    j true) (
    j (decide (a.kind=5))))))
  |_=>none)) k (cols,row,0,[],false,e.l,(e.l.length:Int),0,e,(Val.mk 0 0 []))
theorem Bcc(k:Nat)(rf:FT [.sv .expr,.sl .col false,.sl .val false] [.sv .val,.int .i64])(hrf:FO 91 [.sv .expr,.sl .col false,.sl .val false] [.sv .val,.int .i64] rf):FO 91 [.sv .expr,.sl .col false,.sl .val false] [.sv .val,.int .i64] (Jf k rf):=fR (px:=Avx _ k rf) (n:=1) Tryz.func91 rfl (λcx H=>by have h0:Lv cx (Avx (HV [.sv .val,.int .i64]) k rf):=lv H (c1 H hrf (c1 H A8i (c1 H Aya (c1 H Bgg (c1 H A90 Ae))))) (q1 H Boh (q1 H A7l Aa)) Ab;have hlevalE_0:=lO H h0 (b:=lp Tryz.f91 0) (k:=k) (n:=0) (s:=Akk) (step:=R9 rf) (λ_ _ _ (_,_,_,_,_,_,_,_,_,_)=>by kernel_rfl) Ai;exact⟨h0,(A6 Ai hlevalE_0)⟩) λ(_,_,_)=>by kernel_rfl
def A3b(a:Xpr)(v8:List Col)(v9:List Val)(b:List Val)(c:Bool):Option (Val×Int) :=
  cond (decide (a.kind=1)) (
   some (a.v,0)) (
   cond (decide (a.kind=2)) (
   chk (inb (C7 v8 a.name) v9.length) (
    some ((at' .val v9 (C7 v8 a.name)),0))) (
   cond (decide (a.kind=16)) (
    some ((Fv c),0)) (
    let j:=λ(p3:Bool) =>
    cond (p3) (
     some ((Ae2 a.kind b),0)) (
     cond (c) (
     some ((Val.mk 1 0 []),0)) (
     cond (decide (a.kind=3)) (
      chk (inb 0 b.length) (
      some ((Fv (decide ((at' .val b 0).n=0))),0))) (
      cond (decide (a.kind=15)) (
      chk (inb 0 b.length) (
       some (((U1 a.kind ((at' .val b 0).n) 0).1),(U1 a.kind ((at' .val b 0).n) 0).2))) (
      cond (decide (12<=a.kind)) (
       chk (inb 0 b.length) (
       chk (inb 1 b.length) (
        some (((U1 a.kind ((at' .val b 0).n) ((at' .val b 1).n)).1),(U1 a.kind ((at' .val b 0).n) ((at' .val b 1).n)).2)))) (
       chk (inb 0 b.length) (
       chk (inb 1 b.length) (
        some ((Fv (Al0 a.kind (Gu (at' .val b 0) (at' .val b 1)))),0))))))))
    cond (decide (a.kind=4)) (
    j true) (
    j (decide (a.kind=5))))))
mutual
def Qi:Xpr->List Col->List Val->Option (Val×Int)
 |.mk k v nm l,cols,row=>match evalL l cols row with|some (f,vs)=>chk (decide (l.length<=Ah)) (if f=0 then A3b (.mk k v nm l) cols row vs (vs.any Ij) else some (⟨0,0,[]⟩,f))|none=>none
def evalL:List Xpr->List Col->List Val->Option (Int×List Val)
 |[],_,_=>some (0,[])
 |x::l,cols,row=>match Qi x cols row with
  |some (v,f)=>if f=0 then(match evalL l cols row with
   |some (g,vs)=>some (g,v::vs)
   |none=>none) else some (f,[])
  |none=>none
end
theorem Awl(e:Xpr)(cols:List Col)(row:List Val):Qi e cols row=match evalL e.l cols row with
  |some (f,vs)=>chk (decide (e.l.length<=Ah)) (if f=0 then A3b e cols row vs (vs.any Ij) else some (⟨0,0,[]⟩,f))
  |none=>none:=by
 cases e;simp[Qi];rfl
def A8k:FT [.sv .expr,.sl .col false,.sl .val false] [.sv .val,.int .i64]:=λx=>Qi x.1 x.2.1 x.2.2
theorem Am3{R:Type}{rf:FT [.sv .expr,.sl .col false,.sl .val false] [.sv .val,.int .i64]}{kx:Ex->Ua->Option R}{cols:List Col}{row:List Val}{e:Xpr}{ga:Int->Option R}{gb:List Val->Bool->Option R}(hn:ln e.l.length)(hm:e.l.length<=Ah)(hrf:∀x,x∈e.l->∀r,Qi x cols row=some r->rf (x,cols,row)=some r)(h1:∀f vs u j,kx .ret (cols,row,f,vs,u,e.l,(e.l.length:Int),j,e,⟨0,0,[]⟩)=ga f)(h2:∀vs u j z,kx (.exit 0) (cols,row,0,vs,u,e.l,(e.l.length:Int),j,e,z)=gb vs u):∀(k i:Nat) (acc:List Val) (u:Bool) z f vs,acc.length=i->i<=e.l.length->e.l.length-i<k->evalL (e.l.drop i) cols row=some (f,vs)->Aj (λrec=>R9 rf rec kx) k (cols,row,0,acc,u,e.l,(e.l.length:Int),(i:Int),e,z)=if f=0 then gb (acc++vs) (u||vs.any Ij) else ga f
 |0,i,_,_,_,_,_,_,_,h,_=>by omega
 |k+1,i,acc,u,z,f,vs,ha,hi,h,hev=>by
  rw[Ay];by_cases hl:i<e.l.length
  ·rw[Ak hl] at hev;simp[evalL] at hev;split at hev
   ·rename_i v f' hx;simp only[R9,Al (c :=.expr) hl,As hl,(hrf _ (List.getElem_mem hl) _ hx),Zc1,chk,Bool.cond_decide];rw[if_pos (by omega)];split at hev
    ·rename_i hf;subst hf;split at hev
     ·rename_i g vs' hrest;simp[ Zp1] at hev;obtain⟨rfl,rfl⟩:=hev;rw[if_pos (by simp at *;omega)];simp only[ An hl hn,(λu=>Am3 hn hm hrf h1 h2 k (i+1) (acc++[v]) u z g vs' (by simp[ha]) (by omega) (by omega) hrest),List.any_cons];cases u<;>simp[Ij]
     ·cases hev
    ·rename_i hf;simp[ Zp1] at hev;obtain⟨rfl,rfl⟩:=hev;rw[Zd1 hf,if_neg hf];simp[ h1]
   ·cases hev
  ·rw[Zk1 (by omega)] at hev;simp[evalL,Zp1] at hev;obtain⟨rfl,rfl⟩:=hev;simp only[R9,h2,Bool.cond_decide];rw[if_neg (by omega)];simp
theorem Amy(k:Nat):∀(n:Nat) (e:Xpr) (cols:List Col) (row:List Val) r,BdExpr e->Bf e<=n->Bf e<=k->Qi e cols row=some r->Aj (Jf k) n (e,cols,row)=some r
 |0,e,_,_,_,_,h,_,_=>by have:=Hu e;omega
 |n+1,e,cols,row,r,hb,h,hk,he=>by
  obtain⟨hb4,hb5⟩:=Are hb;rw[Ld] at h hk;have hl:=Hm e.l;have hrf:∀x,x∈e.l->∀r,Qi x cols row=some r->Aj (Jf k) n (x,cols,row)=some r:=λx hx r hr=>Amy k n x cols row r (hb5 x hx) (by have:=C6 hx;omega) (by have:=C6 hx;omega) hr;rw[Ay];simp[Jf];rw[Awl] at he;split at he
  ·rename_i f vs hev;obtain⟨hc,he⟩:=A0 he;simp at hc;refine(Am3 (ga:=λf=>some (⟨0,0,[]⟩,f)) (gb:=λvs u=>A3b e cols row vs u) hb4 hc hrf ?_ ?_ k 0 [] false _ f vs rfl (Nat.zero_le _) (by omega) (by simpa using hev)).trans ?_
   ·exactλ_ _ _ _=>rfl
   ·exactλ_ _ _ _=>rfl
   ·simpa using he
  ·cases he
theorem Bgv:FO 91 [.sv .expr,.sl .col false,.sl .val false] [.sv .val,.int .i64] A8k:=by refine .fin (ι:=Nat) 0 (F:=λn=>Aj (Jf n) n) (λn=>FnOk.rec' (Sx.enters_of Tryz.func91 rfl rfl) (λrf hrf=>Bcc n rf hrf) n) λ(e,cols,row) r hb hx=>⟨Bf e,?_⟩;exact Amy (Bf e) (Bf e) e cols row r hb.1 (Zn1 _) (Zn1 _) hx
mutual
def Ki:Xpr->Xpr->Bool
 |.mk k v n l,.mk k' v' n' l'=>decide (k=k')&&decide (v=v')&&decide (n=n')&&xsames l l'
def xsames:List Xpr->List Xpr->Bool
 |[],[]=>true
 |x::l,y::m=>Ki x y&&xsames l m
 |_,_=>false
end
mutual
theorem Ab9:∀a b:Xpr,Ki a b=true↔a=b
 |.mk k v n l,.mk k' v' n' l'=>by
  simp only[Ki,Zb1,Zg1,xsames_iff l l',Xpr.mk.injEq];constructor
  ·rintro⟨⟨⟨h1,h2⟩,h3⟩,h4⟩;exact⟨h1,h2,h3,h4⟩
  ·rintro⟨h1,h2,h3,h4⟩;exact⟨⟨⟨h1,h2⟩,h3⟩,h4⟩
theorem xsames_iff:∀a b:List Xpr,xsames a b=true↔a=b
 |[],[]=>by simp[xsames]
 |x::l,y::m=>by simp only[xsames,Zb1,Ab9 x y,xsames_iff l m,Ze2]
 |[],_::_=>by simp[xsames]
 |_::_,[]=>by simp[xsames]
end
instance:DecidableEq Xpr:=λa b=>decidable_of_iff (Ki a b=true) (Ab9 a b)
theorem T4(a b:Xpr):Ki a b=decide (a=b):=by rw[Bool.eq_iff_iff,Ab9,Zg1]
theorem A5d{a b:List Xpr}(h:xsames a b=true):a.length=b.length:=by rw[(xsames_iff a b).1 h]
theorem Bhr(a b:Xpr):Ki a b=(decide (a.kind=b.kind)&&decide (a.v=b.v)&&decide (a.name=b.name)&&xsames a.l b.l):=by cases a;cases b;simp[Ki];rfl
def Ahj:Sig:=⟨32,[(1,.sl .expr false),(6,.bool),(15,.sl .expr false),(16,.int .i64),(17,.int .i64)],[(2,.fn 251 [])],[],40,40,200,[],[]⟩
abbrev Re:=List Xpr×Bool×List Xpr×Int×Int
def Ra{R:Type}(rf:FT [.sv .expr,.sv .expr] [.bool])(rec:Re->Option R)(kx:Ex->Re->Option R)(v:Re):Option R:=match v with
 |(v,v1,v2,v3,v4) =>
 cond (decide (v4<v3)) (
  chk (inb v4 v2.length) (
  chk (inb v4 v.length) (
   (rf ((at' .expr v2 v4),(at' .expr v v4))).bind λx =>
   cond (!x) (
    kx .ret (v,false,v2,v3,v4)) (
    rec (v,v1,v2,v3,(wr .i64 (v4+1))))))) (
  kx (.exit 0) (v,v1,v2,v3,v4))
def Aiy(R:Type)(k:Nat)(rf:FT [.sv .expr,.sv .expr] [.bool]):Px R:=pxO [(251,cA rf)] [] [(4,Am k Ahj (Ra rf))] []
noncomputable def Azc(R:Type)(k:Nat)(rf:FT [.sv .expr,.sv .expr] [.bool]):Px R:=pxO [(255,A1 40 200 (Aiy R k rf) Tryz.f255)] [] [] []
def H0(k:Nat)(rf:FT [.sv .expr,.sv .expr] [.bool])(x:HV [.sv .expr,.sv .expr]):Option (HV [.bool]):=match x with
 |(a,b) =>
 let j1:=λ(p:Bool) =>
  let j:=λ(p1:Bool) =>
  cond (p1) (
   cond (!decide ((a.l.length:Int)=(b.l.length:Int))) (
   some false) (
   Aj (λrec=>Ra rf rec (λe vz=>match vz with|(_,v6,_,_,_)=>match e with
    |.ret =>
    some v6
    |.exit 0 =>
    some true
    |_=>none)) k (b.l,false,a.l,(a.l.length:Int),0))) (
   some false)
  cond (p) (
  j (decide (a.name=b.name))) (
  j false)
 cond (decide (a.kind=b.kind)) (
  j1 (decide (a.v=b.v))) (
  j1 false)
theorem A9y(k:Nat)(rf:FT [.sv .expr,.sv .expr] [.bool])(hrf:FO 251 [.sv .expr,.sv .expr] [.bool] rf):FO 251 [.sv .expr,.sv .expr] [.bool] (H0 k rf):=fR (px:=Azc _ k rf) (n:=0) Tryz.func251 rfl (λcx H=>by have h1:Lv cx (Aiy (HV [.bool]) k rf):=lv H (c1 H hrf Ae) Aa Ab;have hlasame_0:=lO H h1 (b:=lp Tryz.f255 0) (k:=k) (n:=0) (s:=Ahj) (step:=Ra rf) (λ_ _ _ (_,_,_,_,_)=>by kernel_rfl) Ai;have h0:Lv cx (Azc (HV [.bool]) k rf):=lv H (Ao (cR H h1 Tryz.func255 rfl (n:=1) ((A6 Ai hlasame_0))) Ae) Aa Ab;exact⟨h0,Ai⟩) λ(_,_)=>by kernel_rfl
def P0(a b:Xpr):Bool:=Ki a b
def Ut:FT [.sv .expr,.sv .expr] [.bool]:=λx=>some (P0 x.1 x.2)
theorem A2v{R:Type}{rf:FT [.sv .expr,.sv .expr] [.bool]}{kx:Ex->Re->Option R}{l m:List Xpr}{c:Bool->Option R}(hn:ln l.length)(hm:l.length=m.length)(hrf:∀x,x∈l->∀y,y∈m->rf (x,y)=some (Ki x y))
  (h1:∀i,kx .ret (m,false,l,(l.length:Int),i)=c false) (h2:∀q i,kx (.exit 0) (m,q,l,(l.length:Int),i)=c true) (k:Nat) (hk:l.length<k):Aj (λrec=>Ra rf rec kx) k (m,false,l,(l.length:Int),0)=c (xsames l m):=by
 refine(A8 l.length (λi=>(m,false,l,(l.length:Int),(i:Int))) (λi=>c (xsames (l.drop i) (m.drop i))) (λi hi rec hr =>?_) (λrec =>?_) k 0 (Nat.zero_le _) (by omega)).trans (by rw[Zq1,Zq1])
 ·have hi2:i<m.length:=by omega
  simp only[Ra,Ea hi,As hi,As hi2,Al (c :=.expr) hi,Al (c :=.expr) hi2,hrf _ (List.getElem_mem hi) _ (List.getElem_mem hi2),An hi hn,hr,h1,Ak hi,Ak hi2,xsames];cases Ki l[i] m[i]<;>rfl
 ·simp only[Ra,Ee,h2];rw[Zk1 (Zn1 _),Zk1 (by omega)];rfl
theorem Anm(k:Nat):∀(n:Nat) (a b:Xpr),BdExpr a->BdExpr b->Bf a<=n->Bf a<=k->Aj (H0 k) n (a,b)=some (Ki a b)
 |0,a,b,_,_,h,_=>by have:=Hu a;omega
 |n+1,a,b,ha,hb,h,hk=>by
  obtain⟨hb4,hb5⟩:=Are ha;obtain⟨hc4,hc5⟩:=Are hb;rw[Ld] at h hk;have hl:=Hm a.l;have hrf:∀x,x∈a.l->∀y,y∈b.l->Aj (H0 k) n (x,y)=some (Ki x y):=λx hx y hy=>Anm k n x y (hb5 x hx) (hc5 y hy) (by have:=C6 hx;omega) (by have:=C6 hx;omega);rw[Ay,Bhr];simp only[H0];by_cases hlen:a.l.length=b.l.length
  ·have hloop:=A2v (R:=Bool) (rf:=Aj (H0 k) n) (l:=a.l) (m:=b.l) (c:=some) (kx:=λe v=>match v with
    |(_,v6,_,_,_)=>match e with
     |.ret=>some v6
     |.exit 0=>some true
     |_=>none) hb4 hlen hrf (λ_=>rfl) (λ_ _=>rfl) k (by omega)
   rw[hloop,Ze1 (show(a.l.length:Int)=(b.l.length:Int) by omega)];cases decide (a.kind=b.kind)<;>cases decide (a.v=b.v)<;>cases decide (a.name=b.name)<;>cases xsames a.l b.l<;>rfl
  ·have hno:xsames a.l b.l=false:=by cases hs:xsames a.l b.l with|false=>rfl|true=>exact absurd (A5d hs) hlen
   rw[hno,Zd1 (show ¬(a.l.length:Int)=(b.l.length:Int) by omega)];cases decide (a.kind=b.kind)<;>cases decide (a.v=b.v)<;>cases decide (a.name=b.name)<;>rfl
theorem Pn:FO 251 [.sv .expr,.sv .expr] [.bool] Ut:=by refine .fin (ι:=Nat) 0 (F:=λn=>Aj (H0 n) n) (λn=>FnOk.rec' (Sx.enters_of Tryz.func251 rfl rfl) (λrf hrf=>A9y n rf hrf) n) λ(a,b) r hb hx=>⟨Bf a,?_⟩;exact(Anm (Bf a) (Bf a) a b hb.1 hb.2 (Zn1 _) (Zn1 _)).trans hx
def Aol:Sig:=⟨19,[(0,.sl .str false),(1,.str),(4,.int .i64),(7,.int .i64),(8,.int .i64)],[],[],0,0,0,[],[]⟩
abbrev Yg:=List Str×Str×Int×Int×Int
def Acj{R:Type}(rec:Yg->Option R)(kx:Ex->Yg->Option R)(v:Yg):Option R:=match v with
 |(v,v1,v2,v3,v4) =>
 cond (decide (v4<v3)) (
  chk (inb v4 v.length) (
  cond (decide (v1=(at' .str v v4))) (
   kx .ret (v,v1,v4,v3,v4)) (
   rec (v,v1,v2,v3,(wr .i64 (v4+1)))))) (
  kx (.exit 0) (v,v1,v2,v3,v4))
def A8y(R:Type)(k:Nat):Px R:=pxO [] [] [(2,Am k Aol (Acj))] []
def Am7(k:Nat)(x:HV [.sl .str false,.str]):Option (HV [.int .i64]):=match x with
 |(l,s) =>
 Aj (λrec=>Acj rec (λe vz=>match vz with|(_,_,v7,_,_)=>match e with
  |.ret =>
  some v7
  |.exit 0 =>
  some (-1)
  |_=>none)) k (l,s,0,(l.length:Int),0)
theorem Bl2(k:Nat):FO 88 [.sl .str false,.str] [.int .i64] (Am7 k):=fR (px:=A8y _ k) (n:=1) Tryz.func88 rfl (λcx H=>by have h0:Lv cx (A8y (HV [.int .i64]) k):=lv H Ae Aa Ab;have hlsidx_0:=lO H h0 (b:=lp Tryz.f88 0) (k:=k) (n:=0) (s:=Aol) (step:=Acj) (λ_ _ _ (_,_,_,_,_)=>by kernel_rfl) Ai;exact⟨h0,(A6 Ai hlsidx_0)⟩) λ(_,_)=>by kernel_rfl
def Bur(l:List Str)(s:Str):Int:=Lp.idx s l 0
def A1d:FT [.sl .str false,.str] [.int .i64]:=λx=>some (Bur x.1 x.2)
theorem Arh{R:Type}{kx:Ex->Yg->Option R}{l:List Str}{s:Str}{c:Int->Option R}(hl:ln l.length)(h1:∀(r:Int) (i:Int),kx .ret (l,s,r,(l.length:Int),i)=c r)(h2:∀q:Int,kx (.exit 0) (l,s,q,(l.length:Int),(l.length:Int))=c (-1)) :
  ∀(k i:Nat) (q:Int),i<=l.length->l.length-i<k->Aj (λrec=>Acj rec kx) k (l,s,q,(l.length:Int),(i:Int))=c (Lp.idx s (l.drop i) i)
 |0,i,_,_,h=>absurd h (Zm1 _)
 |k+1,i,q,hi,h=>by
  rw[Ay];by_cases hlt:i<l.length
  ·have e1:decide ((i:Int)<(l.length:Int))=true:=Ze1 (by omega);have en:((i+1:Nat):Int)=(i:Int)+1:=by omega
   simp only[Acj,As hlt,chk,Al (c :=.str) hlt,An hlt hl,(Arh hl h1 h2 k (i+1) q (by omega) (by omega))];rw[Ak hlt,Lp.idx,en];by_cases hx:s=l[i]
   ·grind
   ·grind
  ·have hi:i=l.length:=by omega
   subst hi;simp[Acj,h2,Lp.idx]
theorem Bqs:FO 88 [.sl .str false,.str] [.int .i64] A1d :=.fin 0 Bl2 λ(l,s) r hb hx=>⟨l.length+1,by simp only[A1d,Za1] at hx;rw[<-hx];simp only[Am7];exact Arh (c:=λq=>some q) hb.1.1 (λ_ _=>rfl) (λ_=>rfl) (l.length+1) 0 0 (Nat.zero_le _) (by omega)⟩
def Bp8(R:Type):Px R:=pxO [(88,cA A1d)] [] [] []
def Aa9(x:HV [.sl .str false,.str]):Option (HV [.bool]):=match x with
 |(l,s) =>
 some (decide (0<=(Bur l s)))
theorem Bkq:FO 54 [.sl .str false,.str] [.bool] (Aa9):=fR (px:=Bp8 _) (n:=0) Tryz.func54 rfl (λ_ H=>⟨lv H (c1 H Bqs Ae) Aa Ab,Ai⟩) λ(_,_)=>by kernel_rfl
def Ber(l:List Str)(s:Str):Bool :=(decide (0<=(Bur l s)))
theorem Bkk(x:HV [.sl .str false,.str]):Aa9 x=some (Ber x.1 x.2):=by
 first
  |exact rfl
  |simp only[Aa9,Ber,Az]
def Blv:FT [.sl .str false,.str] [.bool]:=λx=>some (Ber x.1 x.2)
theorem Brq:FO 54 [.sl .str false,.str] [.bool] Blv :=.fin0 Bkq λx _ _ hx=>(Bkk x).trans hx
theorem Bp0(l:List Str)(s:Str):Ber l s=l.contains s:=by have e:Ber l s=decide (0<=Lp.idx s l 0):=rfl;rw[e,Bool.eq_iff_iff,Zg1,Lp.idx_ge s l 0 (Int.le_refl 0)];simp
theorem A2l(k:Int):(parts k=0/\(k=1\/k=2))\/(parts k=1/\(k=3\/k=15\/k=16))\/(parts k=2/\4<=k/\k<=14)\/parts k = -1:=by
 by_cases h1:k=1
 ·subst h1;left;decide
 by_cases h2:k=2
 ·subst h2;left;decide
 by_cases h3:k=3
 ·subst h3;right;left;decide
 by_cases h15:k=15
 ·subst h15;right;left;decide
 by_cases h16:k=16
 ·subst h16;right;left;decide
 right;right;by_cases h : 4<=k/\k<=14
 ·left;refine⟨?_,h⟩;have:k=4\/k=5\/k=6\/k=7\/k=8\/k=9\/k=10\/k=11\/k=12\/k=13\/k=14:=by omega
  rcases this with rfl|rfl|rfl|rfl|rfl|rfl|rfl|rfl|rfl|rfl|rfl<;>decide
 ·right;have hm:U0 signsL k=[]:=by simp only[signsL,U0];rw[Zd1 (by omega),Zd1 (by omega),Zd1 (by omega),Zd1 (by omega),Zd1 (by omega),Zd1 (by omega),Zd1 (by omega),Zd1 (by omega),Zd1 (by omega),Zd1 (by omega),Zd1 (by omega)]
  simp[parts,hm,h1,h2,h3,h15,h16]
theorem Aty{e:Xpr}{m:Int}(h:B0 e m=true):(e.l.length:Int)=parts e.kind/\eok e.kind e.v e.name=true/\erights e.l (wr .i64 (m-1))=true:=by rw[Ao4] at h;simp only[Zb1,Zg1] at h;exact⟨h.1.1.2,h.1.2,h.2⟩
theorem Bek{e:Xpr}:Il e=0↔B0 e 30=true:=by simp only[Il];cases B0 e 30<;>simp
def Aqk:Sig:=⟨26,[(0,.sl .col false),(1,.sl .col false),(4,.bool),(12,.int .i64),(13,.int .i64)],[],[],0,0,0,[],[]⟩
abbrev Zh:=List Col×List Col×Bool×Int×Int
def Adp{R:Type}(rec:Zh->Option R)(kx:Ex->Zh->Option R)(v:Zh):Option R:=match v with
 |(v,v1,v2,v3,v4) =>
 cond (decide (v4<v3)) (
  chk (inb v4 v.length) (
  chk (inb v4 v1.length) (
   cond (!decide ((at' .col v v4)=(at' .col v1 v4))) (
   kx .ret (v,v1,false,v3,v4)) (
   rec (v,v1,v2,v3,(wr .i64 (v4+1))))))) (
  kx (.exit 0) (v,v1,v2,v3,v4))
def A80(R:Type)(k:Nat):Px R:=pxO [] [] [(4,Am k Aqk (Adp))] []
def Ank(k:Nat)(x:HV [.sl .col false,.sl .col false]):Option (HV [.bool]):=match x with
 |(a,b) =>
 cond (!decide ((a.length:Int)=(b.length:Int))) (
  some false) (
  Aj (λrec=>Adp rec (λe vz=>match vz with|(_,_,v7,_,_)=>match e with
  |.ret =>some v7
  |.exit 0 =>some true
  |_=>none)) k (a,b,false,(a.length:Int),0))
theorem Bmw(k:Nat):FO 252 [.sl .col false,.sl .col false] [.bool] (Ank k):=fR (px:=A80 _ k) (n:=1) Tryz.func252 rfl (λcx H=>by have h0:Lv cx (A80 (HV [.bool]) k):=lv H Ae Aa Ab;have hlaeqc_0:=lO H h0 (b:=lp Tryz.f252 0) (k:=k) (n:=0) (s:=Aqk) (step:=Adp) (λ_ _ _ (_,_,_,_,_)=>by kernel_rfl) Ai;exact⟨h0,(A6 Ai hlaeqc_0)⟩) λ(_,_)=>by kernel_rfl
def Bpx(a b:List Col):Bool:=decide (a=b)
def A1h:FT [.sl .col false,.sl .col false] [.bool]:=λx=>some (Bpx x.1 x.2)
theorem Bck{R:Type}{kx:Ex->Zh->Option R}{a b:List Col}{c:Bool->Option R}(hn:ln a.length)(he:a.length=b.length)(h1:∀i,kx .ret (a,b,false,(a.length:Int),i)=c false)(h2:∀q i,kx (.exit 0) (a,b,q,(a.length:Int),i)=c true)(k:Nat)(hk:a.length<k) :
  Aj (λrec=>Adp rec kx) k (a,b,false,(a.length:Int),0)=c (decide (a=b)):=by
 refine(A8 a.length (λi=>(a,b,false,(a.length:Int),(i:Int))) (λi=>c (decide (a.drop i=b.drop i))) (λi hi rec hr =>?_) (λrec =>?_) k 0 (Nat.zero_le _) (by omega)).trans (by rw[Zq1,Zq1])
 ·have hi2:i<b.length:=by omega
  simp only[Adp,Ea hi,Af,As hi,As hi2,chk,Al (c :=.col) hi,Al (c :=.col) hi2,An hi hn,hr,h1,Ak hi,Ak hi2,Ze2];by_cases hx:a[i]=b[i]
  ·rw[Ze1 hx];simp[hx]
  ·rw[Zd1 hx];simp[hx]
 ·simp only[Adp,Ee,Ag,h2];rw[Zk1 (Zn1 _),Zk1 (by omega)];rfl
theorem Bry:FO 252 [.sl .col false,.sl .col false] [.bool] A1h :=.fin 0 Bmw λ(a,b) r hb hx=>⟨a.length+1,by
 simp only[A1h,Za1] at hx;rw[<-hx];simp only[Ank,Bpx];by_cases he:a.length=b.length
 ·rw[Ze1 (show(a.length:Int)=(b.length:Int) by omega),Zt1,Ag];exact Bck (c:=some) hb.1.1 he (λ_=>rfl) (λ_ _=>rfl) (a.length+1) (by omega)
 ·rw[Zd1 (show ¬(a.length:Int)=(b.length:Int) by omega),Zd1 (λh=>he (by rw[h]))];rfl⟩
def Apb:Sig:=⟨26,[(0,.sl .str false),(1,.sl .str false),(4,.bool),(12,.int .i64),(13,.int .i64)],[],[],0,0,0,[],[]⟩
abbrev Yb:=List Str×List Str×Bool×Int×Int
def Adf{R:Type}(rec:Yb->Option R)(kx:Ex->Yb->Option R)(v:Yb):Option R:=match v with
 |(v,v1,v2,v3,v4) =>
 cond (decide (v4<v3)) (
  chk (inb v4 v.length) (
  chk (inb v4 v1.length) (
   cond (!decide ((at' .str v v4)=(at' .str v1 v4))) (
   kx .ret (v,v1,false,v3,v4)) (
   rec (v,v1,v2,v3,(wr .i64 (v4+1))))))) (
  kx (.exit 0) (v,v1,v2,v3,v4))
def A7p(R:Type)(k:Nat):Px R:=pxO [] [] [(4,Am k Apb (Adf))] []
def Aoz(k:Nat)(x:HV [.sl .str false,.sl .str false]):Option (HV [.bool]):=match x with
 |(a,b) =>
 cond (!decide ((a.length:Int)=(b.length:Int))) (
  some false) (
  Aj (λrec=>Adf rec (λe vz=>match vz with|(_,_,v7,_,_)=>match e with
  |.ret =>some v7
  |.exit 0 =>some true
  |_=>none)) k (a,b,false,(a.length:Int),0))
theorem Bkr(k:Nat):FO 253 [.sl .str false,.sl .str false] [.bool] (Aoz k):=fR (px:=A7p _ k) (n:=1) Tryz.func253 rfl (λcx H=>by have h0:Lv cx (A7p (HV [.bool]) k):=lv H Ae Aa Ab;have hlaeqs_0:=lO H h0 (b:=lp Tryz.f253 0) (k:=k) (n:=0) (s:=Apb) (step:=Adf) (λ_ _ _ (_,_,_,_,_)=>by kernel_rfl) Ai;exact⟨h0,(A6 Ai hlaeqs_0)⟩) λ(_,_)=>by kernel_rfl
def Bfx(a b:List Str):Bool:=decide (a=b)
def A1s:FT [.sl .str false,.sl .str false] [.bool]:=λx=>some (Bfx x.1 x.2)
theorem Bel{R:Type}{kx:Ex->Yb->Option R}{a b:List Str}{c:Bool->Option R}(hn:ln a.length)(he:a.length=b.length)(h1:∀i,kx .ret (a,b,false,(a.length:Int),i)=c false)(h2:∀q i,kx (.exit 0) (a,b,q,(a.length:Int),i)=c true)(k:Nat)(hk:a.length<k) :
  Aj (λrec=>Adf rec kx) k (a,b,false,(a.length:Int),0)=c (decide (a=b)):=by
 refine(A8 a.length (λi=>(a,b,false,(a.length:Int),(i:Int))) (λi=>c (decide (a.drop i=b.drop i))) (λi hi rec hr =>?_) (λrec =>?_) k 0 (Nat.zero_le _) (by omega)).trans (by rw[Zq1,Zq1])
 ·have hi2:i<b.length:=by omega
  simp only[Adf,Ea hi,Af,As hi,As hi2,chk,Al (c :=.str) hi,Al (c :=.str) hi2,An hi hn,hr,h1,Ak hi,Ak hi2,Ze2];by_cases hx:a[i]=b[i]
  ·rw[Ze1 hx];simp[hx]
  ·rw[Zd1 hx];simp[hx]
 ·simp only[Adf,Ee,Ag,h2];rw[Zk1 (Zn1 _),Zk1 (by omega)];rfl
theorem Bov:FO 253 [.sl .str false,.sl .str false] [.bool] A1s :=.fin 0 Bkr λ(a,b) r hb hx=>⟨a.length+1,by
 simp only[A1s,Za1] at hx;rw[<-hx];simp only[Aoz,Bfx];by_cases he:a.length=b.length
 ·rw[Ze1 (show(a.length:Int)=(b.length:Int) by omega),Zt1,Ag];exact Bel (c:=some) hb.1.1 he (λ_=>rfl) (λ_ _=>rfl) (a.length+1) (by omega)
 ·rw[Zd1 (show ¬(a.length:Int)=(b.length:Int) by omega),Zd1 (λh=>he (by rw[h]))];rfl⟩
def Anz:Sig:=⟨26,[(0,.sl .bool false),(1,.sl .bool false),(4,.bool),(12,.int .i64),(13,.int .i64)],[],[],0,0,0,[],[]⟩
abbrev Aa2:=List Bool×List Bool×Bool×Int×Int
def Acc{R:Type}(rec:Aa2->Option R)(kx:Ex->Aa2->Option R)(v:Aa2):Option R:=match v with
 |(v,v1,v2,v3,v4) =>
 cond (decide (v4<v3)) (
  chk (inb v4 v.length) (
  chk (inb v4 v1.length) (
   cond (!decide ((at' .bool v v4)=(at' .bool v1 v4))) (
   kx .ret (v,v1,false,v3,v4)) (
   rec (v,v1,v2,v3,(wr .i64 (v4+1))))))) (
  kx (.exit 0) (v,v1,v2,v3,v4))
def A78(R:Type)(k:Nat):Px R:=pxO [] [] [(4,Am k Anz (Acc))] []
def Anf(k:Nat)(x:HV [.sl .bool false,.sl .bool false]):Option (HV [.bool]):=match x with
 |(a,b) =>
 cond (!decide ((a.length:Int)=(b.length:Int))) (
  some false) (
  Aj (λrec=>Acc rec (λe vz=>match vz with|(_,_,v7,_,_)=>match e with
  |.ret =>some v7
  |.exit 0 =>some true
  |_=>none)) k (a,b,false,(a.length:Int),0))
theorem Bj4(k:Nat):FO 254 [.sl .bool false,.sl .bool false] [.bool] (Anf k):=fR (px:=A78 _ k) (n:=1) Tryz.func254 rfl (λcx H=>by have h0:Lv cx (A78 (HV [.bool]) k):=lv H Ae Aa Ab;have hlaeqb_0:=lO H h0 (b:=lp Tryz.f254 0) (k:=k) (n:=0) (s:=Anz) (step:=Acc) (λ_ _ _ (_,_,_,_,_)=>by kernel_rfl) Ai;exact⟨h0,(A6 Ai hlaeqb_0)⟩) λ(_,_)=>by kernel_rfl
def Bor(a b:List Bool):Bool:=decide (a=b)
def A35:FT [.sl .bool false,.sl .bool false] [.bool]:=λx=>some (Bor x.1 x.2)
theorem Bdz{R:Type}{kx:Ex->Aa2->Option R}{a b:List Bool}{c:Bool->Option R}(hn:ln a.length)(he:a.length=b.length)(h1:∀i,kx .ret (a,b,false,(a.length:Int),i)=c false)(h2:∀q i,kx (.exit 0) (a,b,q,(a.length:Int),i)=c true)(k:Nat)(hk:a.length<k) :
  Aj (λrec=>Acc rec kx) k (a,b,false,(a.length:Int),0)=c (decide (a=b)):=by
 refine(A8 a.length (λi=>(a,b,false,(a.length:Int),(i:Int))) (λi=>c (decide (a.drop i=b.drop i))) (λi hi rec hr =>?_) (λrec =>?_) k 0 (Nat.zero_le _) (by omega)).trans (by rw[Zq1,Zq1])
 ·have hi2:i<b.length:=by omega
  simp only[Acc,Ea hi,Af,As hi,As hi2,chk,Al (c :=.bool) hi,Al (c :=.bool) hi2,An hi hn,hr,h1,Ak hi,Ak hi2,Ze2];by_cases hx:a[i]=b[i]
  ·rw[Ze1 hx];simp[hx]
  ·rw[Zd1 hx];simp[hx]
 ·simp only[Acc,Ee,Ag,h2];rw[Zk1 (Zn1 _),Zk1 (by omega)];rfl
theorem Bo1:FO 254 [.sl .bool false,.sl .bool false] [.bool] A35 :=.fin 0 Bj4 λ(a,b) r hb hx=>⟨a.length+1,by
 simp only[A35,Za1] at hx;rw[<-hx];simp only[Anf,Bor];by_cases he:a.length=b.length
 ·rw[Ze1 (show(a.length:Int)=(b.length:Int) by omega),Zt1,Ag];exact Bdz (c:=some) hb.1.1 he (λ_=>rfl) (λ_ _=>rfl) (a.length+1) (by omega)
 ·rw[Zd1 (show ¬(a.length:Int)=(b.length:Int) by omega),Zd1 (λh=>he (by rw[h]))];rfl⟩
instance:DecidableEq SetE:=λa b=>decidable_of_iff (a.name=b.name/\a.e=b.e) (by cases a;cases b;simp)
def Ar8(a b:SetE):Bool:=decide (a.name=b.name)&&Ki a.e b.e
theorem Ava(a b:SetE):Ar8 a b=decide (a=b):=by cases a;cases b;simp[Ar8,T4]
def Akr(a b:Stm):Bool:=decide (a.kind=b.kind)&&decide (a.name=b.name)&&decide (a.on=b.on)&&decide (a.has=b.has)&&decide (a.most=b.most)&&decide (a.whr=b.whr)&&(decide (a.cols=b.cols)&&decide (a.names=b.names)&&decide (a.order=b.order)&&decide (a.desc=b.desc)&&decide (a.l=b.l))&&decide (a.rows=b.rows)&&decide (a.sets=b.sets)
theorem Anh(a b:Stm):Akr a b=true↔a=b:=by
 cases a;cases b;simp[Akr,Stm.mk.injEq];constructor
 ·grind
 ·grind
def Afa:Sig:=⟨32,[(1,.sl .set false),(6,.bool),(15,.sl .set false),(16,.int .i64),(17,.int .i64)],[(2,.fn 259 [])],[],40,40,600,[],[]⟩
abbrev N2:=List SetE×Bool×List SetE×Int×Int
def Me{R:Type}(rec:N2->Option R)(kx:Ex->N2->Option R)(v:N2):Option R:=match v with
 |(b,f,c,d,a) =>
 cond (decide (a<d)) (
  chk (inb a c.length) (
  chk (inb a b.length) (
   cond (decide (((at' .set c a).name)=((at' .set b a).name))) (
   cond (!(P0 (U2 ((at' .set c a).e)) (U2 ((at' .set b a).e)))) (
    kx .ret (b,false,c,d,a)) (
    rec (b,f,c,d,(wr .i64 (a+1))))) (
   kx .ret (b,false,c,d,a))))) (
  kx (.exit 0) (b,f,c,d,a))
def Ad3:Sig:=⟨32,[(1,.sl .expr false),(6,.bool),(15,.sl .expr false),(16,.int .i64),(17,.int .i64)],[(2,.fn 251 [])],[(0,.one (.sv .stmt)),(1,.one (.sv .stmt))],120,120,600,[],[]⟩
abbrev Ot:=List Xpr×Bool×List Xpr×Int×Int×Stm×Stm
def Mc{R:Type}(rec:Ot->Option R)(kx:Ex->Ot->Option R)(v:Ot):Option R:=match v with
 |(b,e,c,d,a,w4,w5) =>
 cond (decide (a<d)) (
  chk (inb a c.length) (
  chk (inb a b.length) (
   cond (!(P0 (at' .expr c a) (at' .expr b a))) (
   kx .ret (b,false,c,d,a,w4,w5)) (
   rec (b,e,c,d,(wr .i64 (a+1)),w4,w5))))) (
  kx (.exit 0) (b,e,c,d,a,w4,w5))
def Aeo:Sig:=⟨32,[(1,.sl .exprs false),(6,.bool),(15,.sl .exprs false),(16,.int .i64),(17,.int .i64)],[(2,.fn 257 [])],[(0,.one (.sv .stmt)),(1,.one (.sv .stmt))],40,40,400,[],[]⟩
abbrev Ox:=List (List Xpr)×Bool×List (List Xpr)×Int×Int×Stm×Stm
def L4{R:Type}(k:Nat)(rec:Ox->Option R)(kx:Ex->Ox->Option R)(v:Ox):Option R:=match v with
 |(c,f,b,d,a,w2,w3) =>
 cond (decide (a<d)) (
  chk (inb a b.length) (
  chk (inb a c.length) (
   cond (!decide (((at' .exprs b a).length:Int)=((at' .exprs c a).length:Int))) (
   kx .ret (c,false,b,d,a,w2,w3)) (
   Aj (λrc=>Mc rc (λe vz=>match vz with|(_,i,_,_,_,g,h)=>match e with
    |.ret =>
    cond (!i) (
     kx .ret (c,false,b,d,a,g,h)) (
     rec (c,f,b,d,(wr .i64 (a+1)),g,h))
    |.exit 0 =>
    rec (c,f,b,d,(wr .i64 (a+1)),g,h)
    |_=>none)) k ((at' .exprs c a),false,(at' .exprs b a),((at' .exprs b a).length:Int),0,w2,w3))))) (
  kx (.exit 0) (c,f,b,d,a,w2,w3))
def Ae8:Sig:=⟨32,[(1,.sl .expr false),(6,.bool),(15,.sl .expr false),(16,.int .i64),(17,.int .i64)],[(2,.fn 251 [])],[(0,.one (.sv .stmt)),(1,.one (.sv .stmt))],40,40,200,[],[]⟩
abbrev Ns:=List Xpr×Bool×List Xpr×Int×Int×Stm×Stm
def Ls{R:Type}(rec:Ns->Option R)(kx:Ex->Ns->Option R)(v:Ns):Option R:=match v with
 |(v,v1,v2,v3,v4,w,w1) =>
 cond (decide (v4<v3)) (
  chk (inb v4 v2.length) (
  chk (inb v4 v.length) (
   cond (!(P0 (at' .expr v2 v4) (at' .expr v v4))) (
   kx .ret (v,false,v2,v3,v4,w,w1)) (
   rec (v,v1,v2,v3,(wr .i64 (v4+1)),w,w1))))) (
  kx (.exit 0) (v,v1,v2,v3,v4,w,w1))
def Aey(R:Type)(k:Nat):Px R:=pxO [(251,cA Ut)] [] [(4,Am k Ae8 (Ls))] []
def O8(R:Type)(k:Nat):Px R:=pxO [(251,cA Ut)] [] [(4,Am k Ad3 (Mc))] []
noncomputable def Ve(R:Type)(k:Nat):Px R:=pxO [(255,A1 120 600 (O8 R k) Tryz.f255)] [] [] []
noncomputable def Afh(R:Type)(k:Nat):Px R:=pxO [(257,A1 80 600 (Ve R k) Tryz.f257)] [] [(4,Am k Aeo (L4 k))] []
def Vh(R:Type)(_k:Nat):Px R:=pxO [(251,cA Ut)] [] [] []
noncomputable def Ae7(R:Type)(k:Nat):Px R:=pxO [(259,A1 80 800 (Vh R k) Tryz.f259)] [] [(4,Am k Afa (Me))] []
noncomputable def Apd(R:Type)(k:Nat):Px R:=pxO [(251,cA Ut),(252,cA A1h),(253,cA A1s),(254,cA A35),(255,A1 40 200 (Aey R k) Tryz.f255),(256,A1 40 400 (Afh R k) Tryz.f256),(258,A1 40 600 (Ae7 R k) Tryz.f258)] [] [] []
def Q8(k:Nat)(x:HV [.sv .stmt,.sv .stmt]):Option (HV [.bool]):=match x with
 |(a,b) =>
 let j9:=λ(p6:Bool) =>
  let j8:=λ(m:Bool) (q6:Stm) (q7:Stm) =>
  let j7:=λ(n:Bool) =>
   let j6:=λ(o:Bool) (c:Stm) (d:Stm) =>
   cond (o) (
    cond (!decide ((c.sets.length:Int)=(d.sets.length:Int))) (
    some false) (
    Aj (λrec=>Me rec (λe vz=>match vz with|(_,q,_,_,_)=>match e with
     |.ret =>
     some q
     |.exit 0 =>
     some true
     |_=>none)) k (d.sets,false,c.sets,(c.sets.length:Int),0))) (
    some false)
   cond (n) (
   cond (!decide ((q6.rows.length:Int)=(q7.rows.length:Int))) (
    j6 false q6 q7) (
    Aj (λrec=>L4 k rec (λe vz=>match vz with|(_,r,_,_,_,f,g)=>match e with
    |.ret =>j6 r f g
    |.exit 0 =>j6 true f g
    |_=>none)) k (q7.rows,false,q6.rows,(q6.rows.length:Int),0,q6,q7))) (
   j6 false q6 q7)
  cond (p6) (
   j7 m) (
   j7 false)
  let j5:=λ(p7:Bool) =>
  let j4:=λ(p8:Bool) =>
   let j3:=λ(p9:Bool) =>
   cond (p9) (
    cond (!decide ((a.l.length:Int)=(b.l.length:Int))) (
    j8 false a b) (
    Aj (λrec=>Ls rec (λe vz=>match vz with|(_,v6,_,_,_,h,i)=>match e with
     |.ret =>
     j8 v6 h i
     |.exit 0 =>
     j8 true h i
     |_=>none)) k (b.l,false,a.l,(a.l.length:Int),0,a,b))) (
    j8 false a b)
   cond (p8) (
   j3 (Bor a.desc b.desc)) (
   j3 false)
  cond (p7) (
   j4 (Bfx a.order b.order)) (
   j4 false)
  cond ((Bpx a.cols b.cols)) (
  j5 (Bfx a.names b.names)) (
  j5 false)
 let j2:=λ(p:Bool) =>
  let j1:=λ(p1:Bool) =>
  let j:=λ(p2:Bool) =>
   cond (p2) (
   cond (decide (a.most=b.most)) (
    j9 (P0 (U2 a.whr) (U2 b.whr))) (
    j9 false)) (
   j9 false)
  cond (p1) (
   j (decide (a.has=b.has))) (
   j false)
  cond (p) (
  j1 (decide (a.on=b.on))) (
  j1 false)
 cond (decide (a.kind=b.kind)) (
  j2 (decide (a.name=b.name))) (
  j2 false)
theorem A43(k:Nat):FO 213 [.sv .stmt,.sv .stmt] [.bool] (Q8 k):=fR (px:=Apd _ k) (n:=0) Tryz.func213 rfl (λcx H=>by have h1:Lv cx (Aey (HV [.bool]) k):=lv H (c1 H Pn Ae) Aa Ab;have hlastmts_0:=lO H h1 (b:=lp Tryz.f255 0) (k:=k) (n:=0) (s:=Ae8) (step:=Ls) (λ_ _ _ (_,_,_,_,_,_,_)=>by kernel_rfl) Ai;have h4:Lv cx (O8 (HV [.bool]) k):=lv H (c1 H Pn Ae) Aa Ab;have hlastmts_2:=lO H h4 (b:=lp Tryz.f255 0) (k:=k) (n:=0) (s:=Ad3) (step:=Mc) (λ_ _ _ (_,_,_,_,_,_,_)=>by kernel_rfl) Ai;have h3:Lv cx (Ve (HV [.bool]) k):=lv H (Ao (cR H h4 Tryz.func255 rfl (n:=1) ((A6 Ai hlastmts_2))) Ae) Aa Ab;have h2:Lv cx (Afh (HV [.bool]) k):=lv H (Ao (cR H h3 Tryz.func257 rfl (n:=0) (Ai)) Ae) Aa Ab;have hlastmts_1:=lO H h2 (b:=lp Tryz.f256 0) (k:=k) (n:=0) (s:=Aeo) (step:=L4 k) (λ_ _ _ (_,_,_,_,_,_,_)=>by kernel_rfl) Ai;have h6:Lv cx (Vh (HV [.bool]) k):=lv H (c1 H Pn Ae) Aa Ab;have h5:Lv cx (Ae7 (HV [.bool]) k):=lv H (Ao (cR H h6 Tryz.func259 rfl (n:=0) (Ai)) Ae) Aa Ab;have hlastmts_3:=lO H h5 (b:=lp Tryz.f258 0) (k:=k) (n:=0) (s:=Afa) (step:=Me) (λ_ _ _ (_,_,_,_,_)=>by kernel_rfl) Ai;have h0:Lv cx (Apd (HV [.bool]) k):=lv H (c1 H Pn (c1 H Bry (c1 H Bov (c1 H Bo1 (Ao (cR H h1 Tryz.func255 rfl (n:=1) ((A6 Ai hlastmts_0))) (Ao (cR H h2 Tryz.func256 rfl (n:=1) ((A6 Ai hlastmts_1))) (Ao (cR H h5 Tryz.func258 rfl (n:=1) ((A6 Ai hlastmts_3))) Ae))))))) Aa Ab;exact⟨h0,Ai⟩) λ(_,_)=>by kernel_rfl
def A5i(a b:Stm):Bool:=Akr a b
def Awg:FT [.sv .stmt,.sv .stmt] [.bool]:=λx=>some (A5i x.1 x.2)
theorem X9{α:Type}[DecidableEq α](x y : α)(l m:List α):decide (x::l=y::m)=(decide (x=y)&&decide (l=m)):=by simp
theorem Amp{R:Type}{kx:Ex->Ns->Option R}{l m:List Xpr}{s t:Stm}{c:Bool->Option R}(hn:ln l.length)(hm:l.length=m.length)
  (h1:∀i,kx .ret (m,false,l,(l.length:Int),i,s,t)=c false) (h2:∀q i,kx (.exit 0) (m,q,l,(l.length:Int),i,s,t)=c true) (k:Nat) (hk:l.length<k):Aj (λrec=>Ls rec kx) k (m,false,l,(l.length:Int),0,s,t)=c (decide (l=m)):=by
 refine(A8 l.length (λi=>(m,false,l,(l.length:Int),(i:Int),s,t)) (λi=>c (decide (l.drop i=m.drop i))) (λi hi rec hr =>?_) (λrec =>?_) k 0 (Nat.zero_le _) (by omega)).trans (by rw[Zq1,Zq1])
 ·have hi2:i<m.length:=by omega
  simp only[Ls,Ea hi,Af,As hi,As hi2,chk,Al (c :=.expr) hi,Al (c :=.expr) hi2,An hi hn,hr,h1,Ak hi,Ak hi2,X9,P0,T4];cases decide (l[i]=m[i])<;>rfl
 ·simp only[Ls,Ee,Ag,h2];rw[Zk1 (Zn1 _),Zk1 (by omega)];rfl
theorem Ami{R:Type}{kx:Ex->Ot->Option R}{l m:List Xpr}{s t:Stm}{c:Bool->Option R}(hn:ln l.length)(hm:l.length=m.length)
  (h1:∀i,kx .ret (m,false,l,(l.length:Int),i,s,t)=c false) (h2:∀q i,kx (.exit 0) (m,q,l,(l.length:Int),i,s,t)=c true) (k:Nat) (hk:l.length<k):Aj (λrec=>Mc rec kx) k (m,false,l,(l.length:Int),0,s,t)=c (decide (l=m)):=by
 refine(A8 l.length (λi=>(m,false,l,(l.length:Int),(i:Int),s,t)) (λi=>c (decide (l.drop i=m.drop i))) (λi hi rec hr =>?_) (λrec =>?_) k 0 (Nat.zero_le _) (by omega)).trans (by rw[Zq1,Zq1])
 ·have hi2:i<m.length:=by omega
  simp only[Mc,Ea hi,Af,As hi,As hi2,chk,Al (c :=.expr) hi,Al (c :=.expr) hi2,An hi hn,hr,h1,Ak hi,Ak hi2,X9,P0,T4];cases decide (l[i]=m[i])<;>rfl
 ·simp only[Mc,Ee,Ag,h2];rw[Zk1 (Zn1 _),Zk1 (by omega)];rfl
theorem Amq{R:Type}{kx:Ex->Ox->Option R}{l m:List (List Xpr)}{s t:Stm}{c:Bool->Option R}(hn:ln l.length)(hm:l.length=m.length)(hr0:∀x,x∈l->ln x.length)(k:Nat)(hkr:∀x,x∈l->List.length x<k)
  (h1:∀i,kx .ret (m,false,l,(l.length:Int),i,s,t)=c false) (h2:∀q i,kx (.exit 0) (m,q,l,(l.length:Int),i,s,t)=c true) (hk:l.length<k):Aj (λrec=>L4 k rec kx) k (m,false,l,(l.length:Int),0,s,t)=c (decide (l=m)):=by
 refine(A8 l.length (λi=>(m,false,l,(l.length:Int),(i:Int),s,t)) (λi=>c (decide (l.drop i=m.drop i))) (λi hi rec hr =>?_) (λrec =>?_) k 0 (Nat.zero_le _) (by omega)).trans (by rw[Zq1,Zq1])
 ·have hi2:i<m.length:=by omega
  simp only[L4,Ea hi,Af,As hi,As hi2,chk,Al (c :=.exprs) hi,Al (c :=.exprs) hi2,An hi hn,Ak hi,Ak hi2,X9];by_cases hlen:l[i].length=m[i].length
  ·rw[Ze1 (show(l[i].length:Int)=(m[i].length:Int) by omega),Zt1,Ag];rw[Ami (c:=λb=>cond b (c (decide (l.drop (i+1)=m.drop (i+1)))) (c false)) (hr0 _ (List.getElem_mem hi)) hlen (λ_=>h1 _) (λ_ _=>hr) k (hkr _ (List.getElem_mem hi))];cases decide (l[i]=m[i])<;>rfl
  ·rw[Zd1 (show ¬(l[i].length:Int)=(m[i].length:Int) by omega),Zd1 (λh=>hlen (by rw[h])),h1];rfl
 ·simp only[L4,Ee,Ag,h2];rw[Zk1 (Zn1 _),Zk1 (by omega)];rfl
theorem Amj{R:Type}{kx:Ex->N2->Option R}{l m:List SetE}{c:Bool->Option R}(hn:ln l.length)(hm:l.length=m.length)
  (h1:∀i,kx .ret (m,false,l,(l.length:Int),i)=c false) (h2:∀q i,kx (.exit 0) (m,q,l,(l.length:Int),i)=c true) (k:Nat) (hk:l.length<k):Aj (λrec=>Me rec kx) k (m,false,l,(l.length:Int),0)=c (decide (l=m)):=by
 refine(A8 l.length (λi=>(m,false,l,(l.length:Int),(i:Int))) (λi=>c (decide (l.drop i=m.drop i))) (λi hi rec hr =>?_) (λrec =>?_) k 0 (Nat.zero_le _) (by omega)).trans (by rw[Zq1,Zq1])
 ·have hi2:i<m.length:=by omega
  simp only[Me,Ea hi,Af,As hi,As hi2,chk,Al (c :=.set) hi,Al (c :=.set) hi2,An hi hn,hr,h1,Ak hi,Ak hi2,X9,P0,<-Ava,Ar8,T1];cases decide (l[i].name=m[i].name)<;>cases Ki l[i].e m[i].e<;>rfl
 ·simp only[Me,Ee,Ag,h2];rw[Zk1 (Zn1 _),Zk1 (by omega)];rfl
theorem Atb{α:Type}[DecidableEq α]{l m:List α}(h:¬l.length=m.length):decide (l=m)=false:=Zd1 λe=>h (by rw[e])
def Bn7(s:Stm):Nat:=s.l.length+s.rows.length+s.sets.length+(s.rows.map List.length).sum
theorem Bqh{l:List (List Xpr)}{x:List Xpr}(h:x∈l):x.length<=(l.map List.length).sum:=by
 induction l with
 |nil=>cases h
 |cons y l ih =>
  simp;rcases List.mem_cons.1 h with rfl|h
  ·omega
  ·have:=ih h;omega
theorem Bk7(k:Nat)(a b:Stm)(hb:BdStm a)(hk:Bn7 a<k):Q8 k (a,b)=some (Akr a b):=by
 have hk2:=hk;simp[Bn7] at hk2;simp -zeta only [Q8,P0,T4,T1,Bpx,Bfx,Bor];extract_lets j6 j9 j j1 j2;have h6:∀q,j6 q a b=some (q&&decide (a.sets=b.sets)):=λq=>by
  simp -zeta only [j6];cases q with
  |false=>rfl
  |true =>
   rw[Af,Bool.true_and];by_cases hs:a.sets.length=b.sets.length
   ·rw[Ze1 (show(a.sets.length:Int)=(b.sets.length:Int) by omega),Zt1,Ag];exact Amj (c:=some) hb.sets.1 hs (λ_=>rfl) (λ_ _=>rfl) k (by omega)
   ·rw[Zd1 (show ¬(a.sets.length:Int)=(b.sets.length:Int) by omega),Atb hs];rfl
 have h9:∀p,j9 p=some (p&&(decide (a.cols=b.cols)&&decide (a.names=b.names)&&decide (a.order=b.order)&&decide (a.desc=b.desc)&&decide (a.l=b.l))&&decide (a.rows=b.rows)&&decide (a.sets=b.sets)):=λp=>by
  simp -zeta only [j9];extract_lets j8 j3 j4 j5;have h8:∀q,j8 q a b=some (p&&q&&decide (a.rows=b.rows)&&decide (a.sets=b.sets)):=λq=>by
   simp -zeta only [j8];extract_lets j7;have h7:∀q,j7 q=some (q&&decide (a.rows=b.rows)&&decide (a.sets=b.sets)):=λq=>by
    simp -zeta only [j7];cases q with
    |false=>exact(h6 false).trans rfl
    |true =>
     rw[Af,Bool.true_and];by_cases hs:a.rows.length=b.rows.length
     ·rw[Ze1 (show(a.rows.length:Int)=(b.rows.length:Int) by omega),Zt1,Ag];refine(Amq (c:=λq=>j6 q a b) hb.rows.1 hs (λx hx=>(hb.rows.2 x hx).1) k (λx hx=>by have:=Bqh hx;omega) (λ_=>rfl) (λ_ _=>rfl) (by omega)).trans (h6 _)
     ·rw[Zd1 (show ¬(a.rows.length:Int)=(b.rows.length:Int) by omega),Atb hs];exact(h6 false).trans rfl
   cases p with|false=>exact(h7 false).trans rfl|true=>exact(h7 q).trans (by rw[Bool.true_and])
  have h3:∀q,j3 q=some (p&&(q&&decide (a.l=b.l))&&decide (a.rows=b.rows)&&decide (a.sets=b.sets)):=λq=>by
   simp -zeta only [j3];cases q with
   |false=>exact h8 false
   |true =>
    rw[Af,Bool.true_and];by_cases hs:a.l.length=b.l.length
    ·rw[Ze1 (show(a.l.length:Int)=(b.l.length:Int) by omega),Zt1,Ag];exact(Amp (c:=λq=>j8 q a b) hb.l.1 hs (λ_=>rfl) (λ_ _=>rfl) k (by omega)).trans (h8 _)
    ·rw[Zd1 (show ¬(a.l.length:Int)=(b.l.length:Int) by omega),Atb hs];exact h8 false
  have h4:∀q,j4 q=some (p&&(q&&decide (a.desc=b.desc)&&decide (a.l=b.l))&&decide (a.rows=b.rows)&&decide (a.sets=b.sets)):=λq=>by simp -zeta only [j4];cases q with|false=>exact h3 false|true=>exact(h3 _).trans (by rw[Bool.true_and])
  have h5:∀q,j5 q=some (p&&(q&&decide (a.order=b.order)&&decide (a.desc=b.desc)&&decide (a.l=b.l))&&decide (a.rows=b.rows)&&decide (a.sets=b.sets)):=λq=>by simp -zeta only [j5];cases q with|false=>exact h4 false|true=>exact(h4 _).trans (by rw[Bool.true_and])
  cases decide (a.cols=b.cols) with|false=>exact h5 false|true=>exact(h5 _).trans (by simp)
 simp -zeta only [j2,j1,j,Akr];cases decide (a.kind=b.kind) with
 |false=>exact(h9 false).trans rfl
 |true =>
  cases decide (a.name=b.name) with
  |false=>exact(h9 false).trans rfl
  |true =>
   cases decide (a.on=b.on) with
   |false=>exact(h9 false).trans rfl
   |true =>
    cases decide (a.has=b.has) with
    |false=>exact(h9 false).trans rfl
    |true =>cases decide (a.most=b.most) with|false=>exact(h9 false).trans rfl|true=>exact(h9 _).trans (by simp)
theorem Bad:FO 213 [.sv .stmt,.sv .stmt] [.bool] Awg :=.fin 0 A43 λ(a,b) r hb hx=>⟨Bn7 a+1,(Bk7 (Bn7 a+1) a b hb.1 (by omega)).trans hx⟩
instance:DecidableEq Stm:=λa b=>decidable_of_iff (Akr a b=true) (Anh a b)
theorem Bbz(a b:Stm):Akr a b=decide (a=b):=by rw[Bool.eq_iff_iff,Anh,Zg1]
def Bi3(R:Type):Px R:=pxO [] [] [] []
def Vj(x:HV [.int .i64]):Option (HV [.bool]):=match x with
 |n =>
 cond (decide (1<=n)) (
  some (decide (n<=100))) (
  some false)
theorem Bcm:FO 216 [.int .i64] [.bool] (Vj):=fR (px:=Bi3 _) (n:=0) Tryz.func216 rfl (λ_ H=>⟨lv H Ae Aa Ab,Ai⟩) λ_=>by kernel_rfl
def Dk(n:Int):Bool :=
 cond (decide (1<=n)) (
  (decide (n<=100))) (
  false)
theorem Beq(x:HV [.int .i64]):Vj x=some (Dk x):=by
 first
  |exact rfl
  |simp only[Vj,Dk,Az]
def Xs:FT [.int .i64] [.bool]:=λx=>some (Dk x)
theorem X2:FO 216 [.int .i64] [.bool] Xs :=.fin0 Bcm λx _ _ hx=>(Beq x).trans hx
def Ahg:Sig:=⟨26,[(0,.sl .str false),(2,.bool),(5,.sl .str false),(6,.int .i64),(7,.int .i64)],[],[],0,0,0,[],[]⟩
abbrev Ro:=List Str×Bool×List Str×Int×Int
def T3{R:Type}(rec:Ro->Option R)(kx:Ex->Ro->Option R)(v:Ro):Option R:=match v with
 |(v,v1,v2,v3,v4) =>
 cond (decide (v4<v3)) (
  chk (inb v4 v2.length) (
  cond (!(Dr (at' .str v2 v4))) (
   kx .ret (v,false,v2,v3,v4)) (
   chk (upto 0 v4 v.length) (
   cond ((Ber (v.take (v4:Int).toNat) (at' .str v2 v4))) (
    kx .ret (v,false,v2,v3,v4)) (
    rec (v,v1,v2,v3,(wr .i64 (v4+1)))))))) (
  kx (.exit 0) (v,v1,v2,v3,v4))
def Axn(R:Type)(k:Nat):Px R:=pxO [(187,cA Uc),(54,cA Blv)] [] [(2,Am k Ahg (T3))] []
def Ahu(k:Nat)(x:HV [.sl .str false]):Option (HV [.bool]):=match x with
 |l =>
 Aj (λrec=>T3 rec (λe vz=>match vz with|(v5,v6,_,_,_)=>match e with
  |.ret =>
  some v6
  |.exit 0 =>
  some (decide ((v5.length:Int)<=100))
  |_=>none)) k (l,false,l,(l.length:Int),0)
theorem Ba9(k:Nat):FO 217 [.sl .str false] [.bool] (Ahu k):=fR (px:=Axn _ k) (n:=1) Tryz.func217 rfl (λcx H=>by have h0:Lv cx (Axn (HV [.bool]) k):=lv H (c1 H Yn (c1 H Brq Ae)) Aa Ab;have hlaonce_0:=lO H h0 (b:=lp Tryz.f217 0) (k:=k) (n:=0) (s:=Ahg) (step:=T3) (λ_ _ _ (_,_,_,_,_)=>by kernel_rfl) Ai;exact⟨h0,(A6 Ai hlaonce_0)⟩) λ_=>by kernel_rfl
def Ad1:List Str->List Str->Bool
 |_,[]=>true
 |seen,s::r=>Dr s && !seen.contains s&&Ad1 (seen++[s]) r
def Dt(l:List Str):Bool:=Ad1 [] l&&decide (l.length<=100)
def X4:FT [.sl .str false] [.bool]:=λx=>some (Dt x)
theorem A5b{l:List Str}{i:Nat}(hi:i<l.length):l.take (i+1)=l.take i++[l[i]]:=by simp_all
theorem A3j{R:Type}{kx:Ex->Ro->Option R}{l:List Str}{c:Bool->Option R}(hn:ln l.length)(h1:∀i,kx .ret (l,false,l,(l.length:Int),i)=c false)(h2:∀q i,kx (.exit 0) (l,q,l,(l.length:Int),i)=c true)(k:Nat)(hk:l.length<k) :
  Aj (λrec=>T3 rec kx) k (l,false,l,(l.length:Int),0)=c (Ad1 [] l):=by
 refine(A8 l.length (λi=>(l,false,l,(l.length:Int),(i:Int))) (λi=>c (Ad1 (l.take i) (l.drop i))) (λi hi rec hr =>?_) (λrec =>?_) k 0 (Nat.zero_le _) (by omega)).trans (by rw[Zq1,List.take_zero])
 ·have hu:upto 0 (i:Int) l.length=true:=by simp[upto];omega
  simp only[T3,Ea hi,As hi,Al (c :=.str) hi,An hi hn,hr,h1,Ak hi,Ad1,hu,Int.toNat_natCast,Bp0,A5b hi];cases Dr l[i]<;>cases (l.take i).contains l[i]<;>rfl
 ·simp only[T3,Ee,h2];rw[Zk1 (Zn1 _)];rfl
theorem Al3:FO 217 [.sl .str false] [.bool] X4 :=.fin 0 Ba9 λl r hb hx=>⟨l.length+1,by simp only[X4,Za1] at hx;rw[<-hx];simp only[Ahu];refine(A3j (l:=l) (c:=λb=>cond b (some (decide ((l.length:Int)<=100))) (some false)) hb.1 (λ_=>rfl) (λ_ _=>rfl) (l.length+1) (by omega)).trans ?_;rw[show decide ((l.length:Int)<=100)=decide (l.length<=100) from Zy1.2 (by omega),Dt];cases Ad1 [] l<;>rfl⟩
def Aes:Sig:=⟨19,[(0,.sl .expr false),(4,.int .i64),(7,.int .i64),(8,.int .i64)],[(1,.fn 260 [])],[],80,80,400,[],[]⟩
abbrev N8:=List Xpr×Int×Int×Int
def Lq{R:Type}(rec:N8->Option R)(kx:Ex->N8->Option R)(v:N8):Option R:=match v with
 |(v,v1,v2,v3) =>
 cond (decide (v3<v2)) (
  chk (inb v3 v.length) (
  cond (!(B0 (at' .expr v v3) 30)) (
   kx .ret (v,v3,v2,v3)) (
   rec (v,v1,v2,(wr .i64 (v3+1)))))) (
  kx (.exit 0) (v,v1,v2,v3))
def Pb(R:Type)(_k:Nat):Px R:=pxO [(133,cA Ql)] [] [] []
noncomputable def U5(R:Type)(k:Nat):Px R:=pxO [(260,A1 120 600 (Pb R k) Tryz.f260)] [] [(2,Am k Aes (Lq))] []
noncomputable def Ad6(R:Type)(k:Nat):Px R:=pxO [(231,A1 80 400 (U5 R k) Tryz.f231)] [] [] []
noncomputable def An9(R:Type)(k:Nat):Px R:=pxO [(188,A1 40 200 (Ad6 R k) Tryz.f188)] [] [] []
def Afd(k:Nat)(x:HV [.sl .expr false]):Option (HV [.bool]):=match x with
 |l =>
 cond (decide ((l.length:Int)<=100)) (
  Aj (λrec=>Lq rec (λe vz=>match vz with|(_,v5,_,_)=>match e with
  |.ret =>some (!(decide (0<=v5)))
  |.exit 0 =>some true
  |_=>none)) k (l,0,(l.length:Int),0)) (
  some false)
theorem A2u(k:Nat):FO 218 [.sl .expr false] [.bool] (Afd k):=fR (px:=An9 _ k) (n:=0) Tryz.func218 rfl (λcx H=>by have h3:Lv cx (Pb (HV [.bool]) k):=lv H (c1 H R5 Ae) Aa Ab;have h2:Lv cx (U5 (HV [.bool]) k):=lv H (Ao (cR H h3 Tryz.func260 rfl (n:=0) (Ai)) Ae) Aa Ab;have hlaexprs_0:=lO H h2 (b:=lp Tryz.f231 0) (k:=k) (n:=0) (s:=Aes) (step:=Lq) (λ_ _ _ (_,_,_,_)=>by kernel_rfl) Ai;have h1:Lv cx (Ad6 (HV [.bool]) k):=lv H (Ao (cR H h2 Tryz.func231 rfl (n:=1) ((A6 Ai hlaexprs_0))) Ae) Aa Ab;have h0:Lv cx (An9 (HV [.bool]) k):=lv H (Ao (cR H h1 Tryz.func188 rfl (n:=0) (Ai)) Ae) Aa Ab;exact⟨h0,Ai⟩) λ_=>by kernel_rfl
def Js(l:List Xpr):Bool:=decide (l.length<=100)&&l.all λe=>B0 e 30
def Xv:FT [.sl .expr false] [.bool]:=λx=>some (Js x)
theorem Ax2{R:Type}{kx:Ex->N8->Option R}{l:List Xpr}{c:Bool->Option R}(hn:ln l.length)(h1:∀i:Nat,kx .ret (l,(i:Int),(l.length:Int),(i:Int))=c false)(h2:∀q i,kx (.exit 0) (l,q,(l.length:Int),i)=c true)(k:Nat)(hk:l.length<k) :
  Aj (λrec=>Lq rec kx) k (l,0,(l.length:Int),0)=c (l.all λe=>B0 e 30):=by
 refine(A8 l.length (λi=>(l,(0:Int),(l.length:Int),(i:Int))) (λi=>c ((l.drop i).all λe=>B0 e 30)) (λi hi rec hr =>?_) (λrec =>?_) k 0 (Nat.zero_le _) (by omega)).trans (by rw[Zq1])
 ·simp only[Lq,Ea hi,As hi,Al (c :=.expr) hi,An hi hn,hr,h1,Ak hi,Zv1];cases B0 l[i] 30<;>rfl
 ·simp only[Lq,Ee,h2];rw[Zk1 (Zn1 _)];rfl
theorem Ao7:FO 218 [.sl .expr false] [.bool] Xv :=.fin 0 A2u λl r hb hx=>⟨l.length+1,by
 simp only[Xv,Za1] at hx;rw[<-hx];simp only[Afd,Js];rw[show decide ((l.length:Int)<=100)=decide (l.length<=100) from Zy1.2 (by omega)];cases decide (l.length<=100) with
 |false=>rfl
 |true =>rw[Af,Bool.true_and];exact Ax2 (l:=l) (c:=some) hb.1 (λi=>by simp) (λ_ _=>rfl) (l.length+1) (by omega)⟩
def Aij:Sig:=⟨19,[(0,.sl .exprs false),(4,.int .i64),(7,.int .i64),(8,.int .i64)],[(1,.fn 262 [])],[],80,80,400,[],[]⟩
abbrev Rl:=List (List Xpr)×Int×Int×Int
def R6{R:Type}(rec:Rl->Option R)(kx:Ex->Rl->Option R)(v:Rl):Option R:=match v with
 |(v,v1,v2,v3) =>
 cond (decide (v3<v2)) (
  chk (inb v3 v.length) (
  cond (decide (((at' .exprs v v3).length:Int)=0)) (
   kx .ret (v,v3,v2,v3)) (
   cond (!(Js (at' .exprs v v3))) (
   kx .ret (v,v3,v2,v3)) (
   rec (v,v1,v2,(wr .i64 (v3+1))))))) (
  kx (.exit 0) (v,v1,v2,v3))
def Q1(R:Type)(_k:Nat):Px R:=pxO [(218,cA Xv)] [] [] []
noncomputable def Yd(R:Type)(k:Nat):Px R:=pxO [(262,A1 120 600 (Q1 R k) Tryz.f262)] [] [(2,Am k Aij (R6))] []
noncomputable def Ajr(R:Type)(k:Nat):Px R:=pxO [(277,A1 80 400 (Yd R k) Tryz.f277)] [] [] []
noncomputable def Avf(R:Type)(k:Nat):Px R:=pxO [(216,cA Xs),(261,A1 40 200 (Ajr R k) Tryz.f261)] [] [] []
def Agv(k:Nat)(x:HV [.sl .exprs false]):Option (HV [.bool]):=match x with
 |l =>
 cond ((Dk (l.length:Int))) (
  Aj (λrec=>R6 rec (λe vz=>match vz with|(_,v5,_,_)=>match e with
  |.ret =>some (!(decide (0<=v5)))
  |.exit 0 =>some true
  |_=>none)) k (l,0,(l.length:Int),0)) (
  some false)
theorem Bbg(k:Nat):FO 219 [.sl .exprs false] [.bool] (Agv k):=fR (px:=Avf _ k) (n:=0) Tryz.func219 rfl (λcx H=>by have h3:Lv cx (Q1 (HV [.bool]) k):=lv H (c1 H Ao7 Ae) Aa Ab;have h2:Lv cx (Yd (HV [.bool]) k):=lv H (Ao (cR H h3 Tryz.func262 rfl (n:=0) (Ai)) Ae) Aa Ab;have hlarows_0:=lO H h2 (b:=lp Tryz.f277 0) (k:=k) (n:=0) (s:=Aij) (step:=R6) (λ_ _ _ (_,_,_,_)=>by kernel_rfl) Ai;have h1:Lv cx (Ajr (HV [.bool]) k):=lv H (Ao (cR H h2 Tryz.func277 rfl (n:=1) ((A6 Ai hlarows_0))) Ae) Aa Ab;have h0:Lv cx (Avf (HV [.bool]) k):=lv H (c1 H X2 (Ao (cR H h1 Tryz.func261 rfl (n:=0) (Ai)) Ae)) Aa Ab;exact⟨h0,Ai⟩) λ_=>by kernel_rfl
def A9h(r:List Xpr):Bool := !decide (r.length=0)&&Js r
def Aw8(l:List (List Xpr)):Bool:=Dk (l.length:Int)&&l.all A9h
def At4:FT [.sl .exprs false] [.bool]:=λx=>some (Aw8 x)
theorem A4i{R:Type}{kx:Ex->Rl->Option R}{l:List (List Xpr)}{c:Bool->Option R}(hn:ln l.length)(h1:∀i:Nat,kx .ret (l,(i:Int),(l.length:Int),(i:Int))=c false)(h2:∀q i,kx (.exit 0) (l,q,(l.length:Int),i)=c true)(k:Nat)(hk:l.length<k) :
  Aj (λrec=>R6 rec kx) k (l,0,(l.length:Int),0)=c (l.all A9h):=by
 refine(A8 l.length (λi=>(l,(0:Int),(l.length:Int),(i:Int))) (λi=>c ((l.drop i).all A9h)) (λi hi rec hr =>?_) (λrec =>?_) k 0 (Nat.zero_le _) (by omega)).trans (by rw[Zq1])
 ·simp only[R6,Ea hi,As hi,chk,Al (c :=.exprs) hi,An hi hn,hr,h1,Ak hi,Zv1,A9h];rw[show decide ((l[i].length:Int)=0)=decide (l[i].length=0) from Zy1.2 (by omega)];cases decide (l[i].length=0)<;>cases Js l[i]<;>rfl
 ·simp only[R6,Ee,h2];rw[Zk1 (Zn1 _)];rfl
theorem Bio:FO 219 [.sl .exprs false] [.bool] At4 :=.fin 0 Bbg λl r hb hx=>⟨l.length+1,by
 simp only[At4,Za1] at hx;rw[<-hx];simp only[Agv,Aw8];cases Dk (l.length:Int) with
 |false=>rfl
 |true =>rw[Af,Bool.true_and];exact A4i (l:=l) (c:=some) hb.1 (λi=>by simp) (λ_ _=>rfl) (l.length+1) (by omega)⟩
def Bfm(R:Type):Px R:=pxO [(251,cA Ut)] [] [] []
def Wo(x:HV [.sv .expr]):Option (HV [.bool]):=match x with
 |e =>
 some (P0 e (Xpr.mk 0 ⟨0,0,[]⟩ [] []))
theorem Beo:FO 263 [.sv .expr] [.bool] (Wo):=fR (px:=Bfm _) (n:=0) Tryz.func263 rfl (λ_ H=>⟨lv H (c1 H Pn Ae) Aa Ab,Ai⟩) λ_=>by kernel_rfl
def A03(e:Xpr):Bool :=(P0 e (Xpr.mk 0 ⟨0,0,[]⟩ [] []))
theorem Bdt(x:HV [.sv .expr]):Wo x=some (A03 x):=by
 first
  |exact rfl
  |simp only[Wo,A03,Az]
def A8c:FT [.sv .expr] [.bool]:=λx=>some (A03 x)
theorem Bfq:FO 263 [.sv .expr] [.bool] A8c :=.fin0 Beo λx _ _ hx=>(Bdt x).trans hx
def Bb2(R:Type):Px R:=pxO [(263,cA A8c),(133,cA Ql)] [] [] []
def Qz(x:HV [.sv .stmt]):Option (HV [.bool]):=match x with
 |s =>
 cond (!s.has) (
  some (A03 (U2 s.whr))) (
  some (B0 (U2 s.whr) 30))
theorem A2x:FO 221 [.sv .stmt] [.bool] (Qz):=fR (px:=Bb2 _) (n:=0) Tryz.func221 rfl (λ_ H=>⟨lv H (c1 H Bfq (c1 H R5 Ae)) Aa Ab,Ai⟩) λ_=>by kernel_rfl
def Kt(s:Stm):Bool :=
 cond (!s.has) (
  (A03 (U2 s.whr))) (
  (B0 (U2 s.whr) 30))
theorem A3e(x:HV [.sv .stmt]):Qz x=some (Kt x):=by
 first
  |exact rfl
  |simp only[Qz,Kt,Az]
def Ayz:FT [.sv .stmt] [.bool]:=λx=>some (Kt x)
theorem Bb3:FO 221 [.sv .stmt] [.bool] Ayz :=.fin0 A2x λx _ _ hx=>(A3e x).trans hx
def Alc:Sig:=⟨44,[(0,.sl .col false),(2,.bool),(3,.sl .str true),(6,.sl .col false),(7,.int .i64),(8,.int .i64)],[],[],0,0,0,[],[]⟩
abbrev Tq:=List Col×Bool×List Str×List Col×Int×Int
def Tz{R:Type}(rec:Tq->Option R)(kx:Ex->Tq->Option R)(v:Tq):Option R:=match v with
 |(v,v1,v2,v3,v4,v5) =>
 cond (decide (v5<v4)) (
  chk (inb v5 v3.length) (
  let j:=λ(p:Bool) =>
   cond (p) (
   kx .ret (v,false,v2,v3,v4,v5)) (
   cond (!decide (((at' .col v3 v5).ref)=[])) (
    cond (!(Dr ((at' .col v3 v5).ref))) (
    kx .ret (v,false,v2,v3,v4,v5)) (
    chk (decide (v2.length+1<=Ah)) (
     rec (v,v1,(v2++[((at' .col v3 v5).name)]),v3,v4,(wr .i64 (v5+1)))))) (
    chk (decide (v2.length+1<=Ah)) (
    rec (v,v1,(v2++[((at' .col v3 v5).name)]),v3,v4,(wr .i64 (v5+1))))))
  cond (decide ((at' .col v3 v5).kind<2)) (
   j true) (
   j (decide (5<(at' .col v3 v5).kind))))) (
  kx (.exit 0) (v,v1,v2,v3,v4,v5))
def Azy(R:Type)(k:Nat):Px R:=pxO [(187,cA Uc),(216,cA Xs),(217,cA X4)] [] [(3,Am k Alc (Tz))] []
def Aj8(k:Nat)(x:HV [.sl .col false]):Option (HV [.bool]):=match x with
 |l =>
 Aj (λrec=>Tz rec (λe vz=>match vz with|(v6,v7,v8,_,_,_)=>match e with
  |.ret =>
  some v7
  |.exit 0 =>
  cond ((Dk (v6.length:Int))) (
   some (Dt v8)) (
   some false)
  |_=>none)) k (l,false,[],l,(l.length:Int),0)
theorem Ba8(k:Nat):FO 215 [.sl .col false] [.bool] (Aj8 k):=fR (px:=Azy _ k) (n:=1) Tryz.func215 rfl (λcx H=>by have h0:Lv cx (Azy (HV [.bool]) k):=lv H (c1 H Yn (c1 H X2 (c1 H Al3 Ae))) Aa Ab;have hlacols_0:=lO H h0 (b:=lp Tryz.f215 0) (k:=k) (n:=0) (s:=Alc) (step:=Tz) (λ_ _ _ (_,_,_,_,_,_)=>by kernel_rfl) Ai;exact⟨h0,(A6 Ai hlacols_0)⟩) λ_=>by kernel_rfl
def Ae4(c:Col):Bool:=decide (2<=c.kind)&&decide (c.kind<=5)&&(decide (c.ref=[])||Dr c.ref)
def A7n(l:List Col):Option Bool:=if l.length<=2000000 then some (l.all Ae4&&Dk (l.length:Int)&&Dt (l.map (·.name))) else none
def As6:FT [.sl .col false] [.bool]:=λx=>A7n x
theorem A41{R:Type}{kx:Ex->Tq->Option R}{l:List Col}{c:Bool->Option R}(hn:l.length<=2000000)(h1:∀o i,kx .ret (l,false,o,l,(l.length:Int),i)=c false)(h2:∀q o i,kx (.exit 0) (l,q,o,l,(l.length:Int),i)=cond (Dk (l.length:Int)) (c (Dt o)) (c false))(k:Nat)(hk:l.length<k) :
  Aj (λrec=>Tz rec kx) k (l,false,[],l,(l.length:Int),0)=c (l.all Ae4&&Dk (l.length:Int)&&Dt (l.map (·.name))):=by
 have hl:ln l.length:=by simp[ln];omega
 refine(A8 l.length (λi=>(l,false,(l.take i).map (·.name),l,(l.length:Int),(i:Int))) (λi=>c ((l.drop i).all Ae4&&Dk (l.length:Int)&&Dt (l.map (·.name)))) (λi hi rec hr =>?_) (λrec =>?_) k 0 (Nat.zero_le _) (by omega)).trans (by rw[Zq1])
 ·have ht:(l.take (i+1)).map (·.name)=(l.take i).map (·.name)++[l[i].name]:=by rw[List.take_add_one,Zo1 hi,List.map_append];rfl
  have hlen:((l.take i).map (·.name)).length+1<=Ah:=by simp[List.length_map,List.length_take,Ah];omega
  rw[ht] at hr;simp only[Tz,Ea hi,Af,As hi,chk,Al (c :=.col) hi,An hi hl,hr,h1,Ak hi,Zv1,Ae4,Ze1 hlen];by_cases ha:l[i].kind<2
  ·grind
  ·grind
 ·simp only[Tz,Ee,Ag,h2];rw[Zk1 (Zn1 _),List.take_length];cases Dk (l.length:Int)<;>rfl
theorem Bls:FO 215 [.sl .col false] [.bool] As6 :=.fin 0 Ba8 λl r hb hx=>⟨l.length+1,by
 simp only[As6,A7n] at hx;split at hx
 ·rename_i h;rw[<-hx];simp only[Aj8];refine A41 (l:=l) (c:=some) h (λ_ _=>rfl) (λ_ _ _ =>?_) (l.length+1) (by omega);cases Dk (l.length:Int)<;>rfl
 ·cases hx⟩
def Ah0:Sig:=⟨29,[(0,.sl .set false),(2,.bool),(3,.sl .str true),(6,.sl .set false),(7,.int .i64),(8,.int .i64)],[],[],0,0,0,[],[]⟩
abbrev Rc:=List SetE×Bool×List Str×List SetE×Int×Int
def Sz{R:Type}(rec:Rc->Option R)(kx:Ex->Rc->Option R)(v:Rc):Option R:=match v with
 |(v,v1,v2,v3,v4,v5) =>
 cond (decide (v5<v4)) (
  chk (inb v5 v3.length) (
  cond (!(B0 (U2 ((at' .set v3 v5).e)) 30)) (
   kx .ret (v,false,v2,v3,v4,v5)) (
   chk (decide (v2.length+1<=Ah)) (
   rec (v,v1,(v2++[((at' .set v3 v5).name)]),v3,v4,(wr .i64 (v5+1))))))) (
  kx (.exit 0) (v,v1,v2,v3,v4,v5))
def Aw5(R:Type)(k:Nat):Px R:=pxO [(133,cA Ql),(216,cA Xs),(217,cA X4)] [] [(3,Am k Ah0 (Sz))] []
def Ag9(k:Nat)(x:HV [.sl .set false]):Option (HV [.bool]):=match x with
 |l =>
 Aj (λrec=>Sz rec (λe vz=>match vz with|(v6,v7,v8,_,_,_)=>match e with
  |.ret =>
  some v7
  |.exit 0 =>
  cond ((Dk (v6.length:Int))) (
   some (Dt v8)) (
   some false)
  |_=>none)) k (l,false,[],l,(l.length:Int),0)
theorem Bdn(k:Nat):FO 220 [.sl .set false] [.bool] (Ag9 k):=fR (px:=Aw5 _ k) (n:=1) Tryz.func220 rfl (λcx H=>by have h0:Lv cx (Aw5 (HV [.bool]) k):=lv H (c1 H R5 (c1 H X2 (c1 H Al3 Ae))) Aa Ab;have hlasets_0:=lO H h0 (b:=lp Tryz.f220 0) (k:=k) (n:=0) (s:=Ah0) (step:=Sz) (λ_ _ _ (_,_,_,_,_,_)=>by kernel_rfl) Ai;exact⟨h0,(A6 Ai hlasets_0)⟩) λ_=>by kernel_rfl
def A86(l:List SetE):Option Bool:=if l.length<=2000000 then some (l.all (λx=>B0 x.e 30)&&Dk (l.length:Int)&&Dt (l.map (·.name))) else none
def Aux:FT [.sl .set false] [.bool]:=λx=>A86 x
theorem A2f{R:Type}{kx:Ex->Rc->Option R}{l:List SetE}{c:Bool->Option R}(hn:l.length<=2000000)(h1:∀o i,kx .ret (l,false,o,l,(l.length:Int),i)=c false)(h2:∀q o i,kx (.exit 0) (l,q,o,l,(l.length:Int),i)=cond (Dk (l.length:Int)) (c (Dt o)) (c false))(k:Nat)(hk:l.length<k) :
  Aj (λrec=>Sz rec kx) k (l,false,[],l,(l.length:Int),0)=c (l.all (λx=>B0 x.e 30)&&Dk (l.length:Int)&&Dt (l.map (·.name))):=by
 have hl:ln l.length:=by simp[ln];omega
 refine(A8 l.length (λi=>(l,false,(l.take i).map (·.name),l,(l.length:Int),(i:Int))) (λi=>c ((l.drop i).all (λx=>B0 x.e 30)&&Dk (l.length:Int)&&Dt (l.map (·.name)))) (λi hi rec hr =>?_) (λrec =>?_) k 0 (Nat.zero_le _) (by omega)).trans (by rw[Zq1])
 ·have ht:(l.take (i+1)).map (·.name)=(l.take i).map (·.name)++[l[i].name]:=by rw[List.take_add_one,Zo1 hi,List.map_append];rfl
  have hlen:((l.take i).map (·.name)).length+1<=Ah:=by simp[List.length_map,List.length_take,Ah];omega
  rw[ht] at hr;simp only[Sz,Ea hi,Af,As hi,chk,Al (c :=.set) hi,An hi hl,hr,h1,Ak hi,Zv1,Ze1 hlen,T1];cases B0 l[i].e 30<;>rfl
 ·simp only[Sz,Ee,Ag,h2];rw[Zk1 (Zn1 _),List.take_length];cases Dk (l.length:Int)<;>rfl
theorem Bgz:FO 220 [.sl .set false] [.bool] Aux :=.fin 0 Bdn λl r hb hx=>⟨l.length+1,by
 simp only[Aux,A86] at hx;split at hx
 ·rename_i h;rw[<-hx];simp only[Ag9];refine A2f (l:=l) (c:=some) h (λ_ _=>rfl) (λ_ _ _ =>?_) (l.length+1) (by omega);cases Dk (l.length:Int)<;>rfl
 ·cases hx⟩
def noX:Xpr :=.mk 0 ⟨0,0,[]⟩ [] []
def noS:Stm:=⟨0,[],[],[],[],[],[],[],false,noX,[],[],0⟩
def Bh9(R:Type):Px R:=pxO [] [] [] []
def Ai8(x:HV [.sv .stmt]):Option (HV [.sv .stmt]):=match x with
 |s =>
 cond (decide (s.kind=1)) (
  some (Stm.mk 0 [] s.on [] [] [] s.rows s.sets s.has (U2 s.whr) s.order s.desc s.most)) (
  cond (decide (s.kind=3)) (
  some (Stm.mk 0 [] [] s.cols [] s.l s.rows s.sets s.has (U2 s.whr) s.order s.desc s.most)) (
  cond (decide (s.kind=5)) (
   some (Stm.mk 0 [] s.on s.cols s.names s.l [] s.sets s.has (U2 s.whr) s.order s.desc s.most)) (
   cond (decide (s.kind=6)) (
   some (Stm.mk 0 [] s.on s.cols s.names s.l s.rows [] false (Xpr.mk 0 ⟨0,0,[]⟩ [] []) s.order s.desc s.most)) (
   cond (decide (s.kind=7)) (
    some (Stm.mk 0 [] s.on s.cols s.names s.l s.rows s.sets false (Xpr.mk 0 ⟨0,0,[]⟩ [] []) s.order s.desc s.most)) (
    cond (decide (s.kind=8)) (
    some (Stm.mk 0 [] s.on s.cols s.names [] s.rows s.sets false (Xpr.mk 0 ⟨0,0,[]⟩ [] []) [] [] 0)) (
    some (Stm.mk 0 [] s.on s.cols s.names s.l s.rows s.sets s.has (U2 s.whr) s.order s.desc s.most)))))))
theorem Ban:FO 214 [.sv .stmt] [.sv .stmt] (Ai8):=fR (px:=Bh9 _) (n:=0) Tryz.func214 rfl (λ_ H=>⟨lv H Ae Aa Ab,Ai⟩) λ_=>by kernel_rfl
def Aiv(s:Stm):Stm :=
 if s.kind=1 then { s with kind:=0,name:=[],cols:=[],names:=[],l:=[] }
 else if s.kind=3 then { s with kind:=0,name:=[],on:=[],names:=[] }
 else if s.kind=5 then { s with kind:=0,name:=[],rows:=[] }
 else if s.kind=6 then { s with kind:=0,name:=[],sets:=[],has:=false,whr:=noX }
 else if s.kind=7 then { s with kind:=0,name:=[],has:=false,whr:=noX }
 else if s.kind=8 then { s with kind:=0,name:=[],l:=[],has:=false,whr:=noX,order:=[],desc:=[],most:=0 }
 else { s with kind:=0,name:=[] }
def Ary:FT [.sv .stmt] [.sv .stmt]:=λx=>some (Aiv x)
theorem Bjm:FO 214 [.sv .stmt] [.sv .stmt] Ary :=.fin0 Ban λs r hb hx=>by
 simp only[Ary,Za1] at hx;rw[<-hx];simp only[Ai8,Aiv,T1,Bool.cond_decide];split; · rfl
 split; · rfl
 split; · rfl
 split; · rfl
 split; · rfl
 split<;>rfl
def A9p(R:Type):Px R:=pxO [(187,cA Uc),(214,cA Ary),(213,cA Awg),(215,cA As6),(216,cA Xs),(217,cA X4),(218,cA Xv),(219,cA At4),(220,cA Aux),(221,cA Ayz)] [] [] []
def Afg(x:HV [.sv .stmt]):Option (HV [.int .i64]):=match x with
 |s =>
 let j7:=λ(p1:Bool) =>
  cond (decide (s.kind=1)) (
  let j1:=λ(p2:Bool) =>
   let j:=λ(p3:Bool) =>
   cond (p3) (
    cond ((Dt s.names)) (
    cond (!(Js s.l)) (
     some 2) (
     some 0)) (
    some 2)) (
    some 2)
   cond (p2) (
   j (Dk (s.names.length:Int))) (
   j false)
  cond (p1) (
   (A7n s.cols).bind λx =>
   j1 x) (
   j1 false)) (
  cond (decide (s.kind=3)) (
   let j2:=λ(p7:Bool) =>
   cond (p7) (
    cond ((Dk (s.names.length:Int))) (
    cond (!(Dt s.names)) (
     some 2) (
     some 0)) (
    some 2)) (
    some 2)
   cond (p1) (
   j2 (Dr s.on)) (
   j2 false)) (
   let j6:=λ(a:Bool) =>
   cond (a) (
    cond (!p1) (
    some 2) (
    some 0)) (
    cond (decide (s.kind=5)) (
    cond (p1) (
     cond (!(Aw8 s.rows)) (
     some 2) (
     some 0)) (
     some 2)) (
    cond (decide (s.kind=6)) (
     cond (p1) (
     (A86 s.sets).bind λx1 =>
      cond (x1) (
      cond (!(Kt s)) (
       some 2) (
       some 0)) (
      some 2)) (
     some 2)) (
     cond (decide (s.kind=7)) (
     cond (p1) (
      cond (!(Kt s)) (
      some 2) (
      some 0)) (
      some 2)) (
     cond (decide (s.kind=8)) (
      let j5:=λ(b:Bool) =>
      let j4:=λ(c:Bool) =>
       let j3:=λ(d:Bool) =>
       cond (d) (
        cond (decide ((s.desc.length:Int)=(s.order.length:Int))) (
        cond (!(decide ((-1)<=s.most))) (
         some 2) (
         some 0)) (
        some 2)) (
        some 2)
       cond (c) (
       j3 (Dt s.order)) (
       j3 false)
      cond (b) (
       j4 (Kt s)) (
       j4 false)
      cond (p1) (
      j5 (Js s.l)) (
      j5 false)) (
      some 2)))))
   cond (decide (s.kind=2)) (
   j6 (decide (s.kind=2))) (
   j6 (decide (s.kind=4)))))
 cond ((Dr s.name)) (
  j7 (A5i (Aiv s) (Stm.mk 0 [] [] [] [] [] [] [] false (Xpr.mk 0 ⟨0,0,[]⟩ [] []) [] [] 0))) (
  j7 false)
theorem A3c:FO 176 [.sv .stmt] [.int .i64] (Afg):=fR (px:=A9p _) (n:=0) Tryz.func176 rfl (λ_ H=>⟨lv H (c1 H Yn (c1 H Bjm (c1 H Bad (c1 H Bls (c1 H X2 (c1 H Al3 (c1 H Ao7 (c1 H Bio (c1 H Bgz (c1 H Bb3 Ae)))))))))) Aa Ab,Ai⟩) λ_=>by kernel_rfl
def Fz(s:Stm):Bool:=Dr s.name&&decide (Aiv s=noS)&&(
 if s.kind=1 then s.cols.all Ae4&&Dk (s.cols.length:Int)&&Dt (s.cols.map (·.name))&&Dk (s.names.length:Int)&&Dt s.names&&Js s.l
 else if s.kind=3 then Dr s.on&&Dk (s.names.length:Int)&&Dt s.names
 else if s.kind=2\/s.kind=4 then true
 else if s.kind=5 then Aw8 s.rows
 else if s.kind=6 then s.sets.all (λx=>B0 x.e 30)&&Dk (s.sets.length:Int)&&Dt (s.sets.map (·.name))&&Kt s
 else if s.kind=7 then Kt s
 else if s.kind=8 then Js s.l&&Kt s&&Dt s.order&&decide (s.desc.length=s.order.length)&&decide (-1<=s.most)
 else false)
def Aca(s:Stm):Option Int:=if s.cols.length<=2000000/\s.sets.length<=2000000 then some (cond (Fz s) 0 2) else none
def Yt:FT [.sv .stmt] [.int .i64]:=λx=>Aca x
theorem Aof:FO 176 [.sv .stmt] [.int .i64] Yt :=.fin0 A3c λs r hb hx=>by
 simp only[Yt,Aca] at hx;split at hx
 case isFalse=>cases hx
 rename_i h;rw[<-hx];have e1:A7n s.cols=some (s.cols.all Ae4&&Dk (s.cols.length:Int)&&Dt (s.cols.map (·.name))):=if_pos h.1;have e2:A86 s.sets=some (s.sets.all (λx=>B0 x.e 30)&&Dk (s.sets.length:Int)&&Dt (s.sets.map (·.name))):=if_pos h.2;have e3:A5i (Aiv s) (Stm.mk 0 [] [] [] [] [] [] [] false (Xpr.mk 0 ⟨0,0,[]⟩ [] []) [] [] 0)=decide (Aiv s=noS):=Bbz _ _;have e4:decide ((s.desc.length:Int)=(s.order.length:Int))=decide (s.desc.length=s.order.length):=Zy1.2 (by omega);simp only[Afg,Fz,e1,e2,e3,e4,Zc1];generalize Dr s.name=A;generalize decide (Aiv s=noS)=B;generalize (s.cols.all Ae4&&Dk (s.cols.length:Int)&&Dt (s.cols.map (·.name)))=C;generalize Dk (s.names.length:Int)=D;generalize Dt s.names=E;generalize Js s.l=F;generalize Dr s.on=G;generalize Aw8 s.rows=H;generalize (s.sets.all (λx=>B0 x.e 30)&&Dk (s.sets.length:Int)&&Dt (s.sets.map (·.name)))=I;generalize Kt s=J;generalize Dt s.order=K;generalize decide (s.desc.length=s.order.length)=L;generalize decide (-1<=s.most)=M;by_cases h1:s.kind=1
 ·rw[Ze1 h1,if_pos h1];cases A<;>cases B<;>cases C<;>cases D<;>cases E<;>cases F<;>rfl
 rw[Zd1 h1,if_neg h1];by_cases h3:s.kind=3
 ·rw[Ze1 h3,if_pos h3];cases A<;>cases B<;>cases G<;>cases D<;>cases E<;>rfl
 rw[Zd1 h3,if_neg h3];by_cases h24:s.kind=2\/s.kind=4
 ·rw[if_pos h24];rcases h24 with h2|h2
  ·rw[Ze1 h2];cases A<;>cases B<;>rfl
  ·rw[Ze1 h2,Zd1 (show ¬s.kind=2 by omega)];cases A<;>cases B<;>rfl
 rw[if_neg h24,Zd1 (show ¬s.kind=2 by omega),Zd1 (show ¬s.kind=4 by omega)];by_cases h5:s.kind=5
 ·rw[Ze1 h5,if_pos h5];cases A<;>cases B<;>cases H<;>rfl
 rw[Zd1 h5,if_neg h5];by_cases h6:s.kind=6
 ·rw[Ze1 h6,if_pos h6];cases A<;>cases B<;>cases I<;>cases J<;>rfl
 rw[Zd1 h6,if_neg h6];by_cases h7:s.kind=7
 ·rw[Ze1 h7,if_pos h7];cases A<;>cases B<;>cases J<;>rfl
 rw[Zd1 h7,if_neg h7];by_cases h8:s.kind=8
 ·rw[Ze1 h8,if_pos h8];cases A<;>cases B<;>cases F<;>cases J<;>cases K<;>cases L<;>cases M<;>rfl
 rw[Zd1 h8,if_neg h8];cases A<;>cases B<;>rfl
def Pv:Sig:=⟨26,[(10,.int .i64),(11,.int .i64)],[(1,.ptr 0 0),(2,.ptr 1 0)],[(0,.oc [.int .i64,.int .i64,.int .i64,.str,.str] 2 .expr),(1,.one (.sv .expr)),(2,.one (.dn .expr))],3,0,0,[],[]⟩
abbrev Gf:=Int×Int×Int×Int×Int×Str×Str×Int×Int×Xpr×List Xpr
def Jt{R:Type}(rf:FT [.sv .expr] [.sv .expr])(rec:Gf->Option R)(kx:Ex->Gf->Option R)(v:Gf):Option R:=match v with
 |(v,v1,w,w1,w2,w3,w4,w5,w6,w7,w8) =>
 cond (decide (v1<v)) (
  chk (inO v1 w6) (
  chk (inb (w5+v1) w8.length) (
   (rf (at' .expr w8 (w5+v1))).bind λx =>
   chk (inO v1 w6) (
    chk (inb (w5+v1) w8.length) (
    rec (v,(wr .i64 (v1+1)),w,w1,w2,w3,w4,w5,w6,w7,(w8.set ((w5+v1):Int).toNat x))))))) (
  kx (.exit 0) (v,v1,w,w1,w2,w3,w4,w5,w6,w7,w8))
noncomputable def Ag7(R:Type)(_k:Nat)(rf:FT [.sv .expr] [.sv .expr]):Px R:=pxO [(225,V1 .expr)] [(181,qA rf)] [] []
noncomputable def Uf(R:Type)(k:Nat)(rf:FT [.sv .expr] [.sv .expr]):Px R:=pxO [(225,V1 .expr)] [(181,qA rf)] [(3,Asa (Ag7 R k rf) (lp Tryz.f181 0) k Pv (Jt rf))] []
theorem Avl(R:Type)(k:Nat)(rf:FT [.sv .expr] [.sv .expr]):∀(fr:List Fr) (rec:Gf->Option R) (kx:Ex->Gf->Option R) (v:Gf),round (Uf R k rf) Pv (lp Tryz.f181 0) fr rec kx v=Jt rf rec kx v
 |fr,rec,kx,(v,v1,w,w1,w2,w3,w4,w5,w6,w7,w8)=>by kernel_rfl
def H9(k:Nat)(rf:FT [.sv .expr] [.sv .expr])(x:HV [.sv .expr]):Option (HV [.sv .expr]):=match x with
 |e =>
 chk (decide (e.l.length<=2000000)) (
  cond (List.isEmpty e.l) (
  some (Xpr.mk e.kind ⟨e.v.kind,e.v.n,e.v.s⟩ e.name [])) (
  Aj (λrec=>Jt rf rec (λe vz=>match vz with|(_,_,v4,v5,v6,v7,v8,v9,a,_,b)=>match e with
   |.exit 0 =>
   chk (decide ((0:Int)<=v9)&&decide ((0:Int)<=a)&&decide ((v9+a)<=(b.length:Int))) (
    some (Xpr.mk v4 ⟨v5,v6,v7⟩ v8 (cut b v9 (v9+a))))
   |_=>none)) k ((e.l.length:Int),0,e.kind,e.v.kind,e.v.n,e.v.s,e.name,0,(e.l.length:Int),(Xpr.mk 0 ⟨0,0,[]⟩ [] []),e.l)))
theorem A1e(k:Nat)(rf:FT [.sv .expr] [.sv .expr])(hrf:FO 181 [.sv .expr] [.sv .expr] rf):FO 181 [.sv .expr] [.sv .expr] (H9 k rf):=fR (px:=Uf _ k rf) (n:=1) Tryz.func181 rfl (λcx H=>by have h0:Lv cx (Uf (HV [.sv .expr]) k rf):=lv H (Ao (cCl H Aeq Xw) Ae) (q1 H hrf Aa) Ab;have h00:Lv cx (Ag7 (HV [.sv .expr]) k rf):=lv H (Ao (cCl H Aeq Xw) Ae) (q1 H hrf Aa) Ab;have hlcopied_0:Bg cx (Uf (HV [.sv .expr]) k rf) (lp Tryz.f181 0):=Aj7 h0.p h0.c h0.q (by rw[H.p];exact follows) h00.p h00.c h00.q (λ_ _ _=>rfl) (k:=k) (s:=Pv) (step:=Jt rf) (λ_ _=>by kernel_rfl) (by kernel_rfl) (Avl _ k rf) (Pj (n:=0) (by kernel_rfl) Ai);exact⟨h0,(A6 Ai hlcopied_0)⟩) λ_=>by kernel_rfl
def Ajj(e:Xpr):Option Xpr:=cond (decide (Bf e<=2000000)) (some e) none
def Ai0:FT [.sv .expr] [.sv .expr]:=λx=>Ajj x
theorem Bnt{i n:Nat}(h:i<n):inO (i:Int) (n:Int)=true:=by simp[inO];omega
theorem Az6{R:Type}{rf:FT [.sv .expr] [.sv .expr]}{kx:Ex->Gf->Option R}{a b n:Int}{s nm:Str}{z:Xpr}{l:List Xpr}{c:Option R}(hn:ln l.length)(hrf:∀x,x∈l->rf x=some x)(h2:kx (.exit 0) ((l.length:Int),(l.length:Int),a,b,n,s,nm,0,(l.length:Int),z,l)=c)(k:Nat)(hk:l.length<k) :
  Aj (λrec=>Jt rf rec kx) k ((l.length:Int),0,a,b,n,s,nm,0,(l.length:Int),z,l)=c:=by
 refine A8 l.length (λi=>((l.length:Int),(i:Int),a,b,n,s,nm,0,(l.length:Int),z,l)) (λ_=>c) (λi hi rec hr =>?_) (λrec =>?_) k 0 (Nat.zero_le _) (by omega)
 ·simp only[Jt,Ea hi,Af,Int.zero_add,Bnt hi,As hi,chk,Al (c :=.expr) hi,hrf _ (List.getElem_mem hi),Zc1,An hi hn,Int.toNat_natCast,List.set_getElem_self,hr]
 ·simp[Jt,h2]
theorem Ajd(k:Nat):∀(n:Nat) (e:Xpr),BdExpr e->Bf e<=n->Bf e<=k->Bf e<=2000000->Aj (H9 k) n e=some e
 |0,e,_,h,_,_=>by have:=Hu e;omega
 |n+1,e,hb,h,hk,ho=>by
  obtain⟨hb4,hb5⟩:=Are hb;rw[Ld] at h hk ho;have hl:=Hm e.l;have hrf:∀x,x∈e.l->Aj (H9 k) n x=some x:=λx hx=>Ajd k n x (hb5 x hx) (by have:=C6 hx;omega) (by have:=C6 hx;omega) (by have:=C6 hx;omega);rw[Ay];simp[H9];rw[Ze1 (show e.l.length<=2000000 by omega)];simp[chk];cases he:e.l with
  |nil =>simp;obtain⟨kd,v,nm,l⟩:=e;simp[Xpr.l] at he;subst he;rfl
  |cons x t =>
   rw[<-he];have:List.isEmpty e.l=false:=by rw[he];rfl
   rw[this];simp;refine(Az6 (c:=some e) hb4 hrf ?_ k (by omega));have h1:(decide ((0:Int)<=0)&&decide ((0:Int)<=(e.l.length:Int))&&decide ((0:Int)+(e.l.length:Int)<=(e.l.length:Int)))=true:=by simp
   simp only[h1,A82];cases e;rfl
theorem Bdq:FO 181 [.sv .expr] [.sv .expr] Ai0:=by refine .fin (ι:=Nat) 0 (F:=λn=>Aj (H9 n) n) (λn=>FnOk.rec' (Sx.enters_of Tryz.func181 rfl rfl) (λrf hrf=>A1e n rf hrf) n) λe r hb hx=>⟨Bf e,?_⟩;simp only[Ai0,Ajj] at hx;cases hd:decide (Bf e<=2000000) with|false=>rw[hd] at hx;cases hx|true =>rw[hd] at hx;exact(Ajd (Bf e) (Bf e) e hb (Zn1 _) (Zn1 _) (of_decide_eq_true hd)).trans hx
def An3:Sig:=⟨19,[(0,.sl .col false),(4,.int .i64),(7,.int .i64),(8,.int .i64)],[(1,.fn 266 [.ptr 1 0])],[(1,.cells [.str])],40,40,200,[],[]⟩
abbrev Xx:=List Col×Int×Int×Int×Str
def Abr{R:Type}(rec:Xx->Option R)(kx:Ex->Xx->Option R)(v:Xx):Option R:=match v with
 |(v,v1,v2,v3,w) =>
 cond (decide (v3<v2)) (
  chk (inb v3 v.length) (
  cond (decide (((at' .col v v3).name)=w)) (
   kx .ret (v,v3,v2,v3,w)) (
   rec (v,v1,v2,(wr .i64 (v3+1)),w)))) (
  kx (.exit 0) (v,v1,v2,v3,w))
def Ad9(R:Type)(_k:Nat):Px R:=pxO [] [] [] []
noncomputable def Am6(R:Type)(k:Nat):Px R:=pxO [(266,A1 80 400 (Ad9 R k) Tryz.f266)] [] [(2,Am k An3 (Abr))] []
noncomputable def A8j(R:Type)(k:Nat):Px R:=pxO [(265,A1 40 200 (Am6 R k) Tryz.f265)] [] [] []
def Aqr(k:Nat)(x:HV [.sv .tbl,.str]):Option (HV [.int .i64]):=match x with
 |(t,s) =>
 Aj (λrec=>Abr rec (λe vz=>match vz with|(_,v5,_,_,_)=>match e with
  |.ret =>
  some v5
  |.exit 0 =>
  some (-1)
  |_=>none)) k (t.cols,0,(t.cols.length:Int),0,s)
theorem Bld(k:Nat):FO 224 [.sv .tbl,.str] [.int .i64] (Aqr k):=fR (px:=A8j _ k) (n:=0) Tryz.func224 rfl (λcx H=>by have h2:Lv cx (Ad9 (HV [.int .i64]) k):=lv H Ae Aa Ab;have h1:Lv cx (Am6 (HV [.int .i64]) k):=lv H (Ao (cR H h2 Tryz.func266 rfl (n:=0) (Ai)) Ae) Aa Ab;have hlscol_0:=lO H h1 (b:=lp Tryz.f265 0) (k:=k) (n:=0) (s:=An3) (step:=Abr) (λ_ _ _ (_,_,_,_,_)=>by kernel_rfl) Ai;have h0:Lv cx (A8j (HV [.int .i64]) k):=lv H (Ao (cR H h1 Tryz.func265 rfl (n:=1) ((A6 Ai hlscol_0))) Ae) Aa Ab;exact⟨h0,Ai⟩) λ(_,_)=>by kernel_rfl
def Bo6(t:Tbl)(s:Str):Int:=C7 t.cols s
def A4o:FT [.sv .tbl,.str] [.int .i64]:=λx=>some (Bo6 x.1 x.2)
theorem Ben{R:Type}{kx:Ex->Xx->Option R}{s:Str}{cols:List Col}{g:Int->Option R}(hn:ln cols.length)(h1:∀i:Nat,kx .ret (cols,(i:Int),(cols.length:Int),(i:Int),s)=g i)(h2:kx (.exit 0) (cols,0,(cols.length:Int),(cols.length:Int),s)=g (-1))(k:Nat)(hk:cols.length<k) :
  Aj (λrec=>Abr rec kx) k (cols,0,(cols.length:Int),0,s)=g (C7 cols s):=by
 refine(A8 cols.length (λi=>(cols,0,(cols.length:Int),(i:Int),s)) (λi=>g (Ds (cols.drop i) s i)) (λi hi rec hr =>?_) (λrec =>?_) k 0 (Nat.zero_le _) (by omega)).trans (by rw[Zq1];rfl)
 ·simp only[Abr,Ea hi,As hi,Al (c :=.col) hi,An hi hn,hr,h1,Ak hi,Ds,Bool.cond_decide];split<;>rfl
 ·simp only[Abr,Ee,h2];rw[Zk1 (Zn1 _)];rfl
theorem Bph:FO 224 [.sv .tbl,.str] [.int .i64] A4o :=.fin 0 Bld λ(t,s) r hb hx=>⟨t.cols.length+1,by simp only[A4o,Za1,Bo6] at hx;simp only[Aqr];exact(Ben (g:=some) hb.1.cols.1 (λ_=>rfl) rfl _ (by omega)).trans (congrArg some hx)⟩
def Ap3:Sig:=⟨19,[(0,.sl .str false),(4,.int .i64),(7,.int .i64),(8,.int .i64)],[(1,.fn 223 [.ptr 0 0])],[(0,.one (.sv .tbl))],80,80,400,[],[]⟩
abbrev Yz:=List Str×Int×Int×Int×Tbl
def Ac2{R:Type}(rec:Yz->Option R)(kx:Ex->Yz->Option R)(v:Yz):Option R:=match v with
 |(v,v1,v2,v3,w) =>
 cond (decide (v3<v2)) (
  chk (inb v3 v.length) (
  cond (decide ((Bo6 w (at' .str v v3))<0)) (
   kx .ret (v,v3,v2,v3,w)) (
   rec (v,v1,v2,(wr .i64 (v3+1)),w)))) (
  kx (.exit 0) (v,v1,v2,v3,w))
def Va(R:Type)(_k:Nat):Px R:=pxO [(224,cA A4o)] [] [] []
noncomputable def Aei(R:Type)(k:Nat):Px R:=pxO [(223,A1 120 600 (Va R k) Tryz.f223)] [] [(2,Am k Ap3 (Ac2))] []
noncomputable def An4(R:Type)(k:Nat):Px R:=pxO [(264,A1 80 400 (Aei R k) Tryz.f264)] [] [] []
noncomputable def A5t(R:Type)(k:Nat):Px R:=pxO [(222,A1 40 200 (An4 R k) Tryz.f222)] [] [] []
def Aok(k:Nat)(x:HV [.sv .tbl,.sl .str false]):Option (HV [.bool]):=match x with
 |(t,names) =>
 Aj (λrec=>Ac2 rec (λe vz=>match vz with|(_,v5,_,_,_)=>match e with
  |.ret =>
  some (!(decide (0<=v5)))
  |.exit 0 =>
  some true
  |_=>none)) k (names,0,(names.length:Int),0,t)
theorem Bif(k:Nat):FO 179 [.sv .tbl,.sl .str false] [.bool] (Aok k):=fR (px:=A5t _ k) (n:=0) Tryz.func179 rfl (λcx H=>by have h3:Lv cx (Va (HV [.bool]) k):=lv H (c1 H Bph Ae) Aa Ab;have h2:Lv cx (Aei (HV [.bool]) k):=lv H (Ao (cR H h3 Tryz.func223 rfl (n:=0) (Ai)) Ae) Aa Ab;have hlsall_0:=lO H h2 (b:=lp Tryz.f264 0) (k:=k) (n:=0) (s:=Ap3) (step:=Ac2) (λ_ _ _ (_,_,_,_,_)=>by kernel_rfl) Ai;have h1:Lv cx (An4 (HV [.bool]) k):=lv H (Ao (cR H h2 Tryz.func264 rfl (n:=1) ((A6 Ai hlsall_0))) Ae) Aa Ab;have h0:Lv cx (A5t (HV [.bool]) k):=lv H (Ao (cR H h1 Tryz.func222 rfl (n:=0) (Ai)) Ae) Aa Ab;exact⟨h0,Ai⟩) λ(_,_)=>by kernel_rfl
def Ph(t:Tbl)(names:List Str):Bool:=names.all λs => !decide (C7 t.cols s<0)
def Aua:FT [.sv .tbl,.sl .str false] [.bool]:=λx=>some (Ph x.1 x.2)
theorem A9x{R:Type}{kx:Ex->Yz->Option R}{t:Tbl}{l:List Str}{a b:Option R}(hn:ln l.length)(h1:∀i:Nat,kx .ret (l,(i:Int),(l.length:Int),(i:Int),t)=a)(h2:kx (.exit 0) (l,0,(l.length:Int),(l.length:Int),t)=b)(k:Nat)(hk:l.length<k) :
  Aj (λrec=>Ac2 rec kx) k (l,0,(l.length:Int),0,t)=cond (Ph t l) b a:=by
 refine(A8 l.length (λi=>(l,0,(l.length:Int),(i:Int),t)) (λi=>cond (Ph t (l.drop i)) b a) (λi hi rec hr =>?_) (λrec =>?_) k 0 (Nat.zero_le _) (by omega)).trans (by rw[Zq1])
 ·simp only[Ac2,Ea hi,As hi,Al (c :=.str) hi,An hi hn,hr,h1,Ak hi,Ph,Zv1,Bo6];cases decide (C7 t.cols l[i]<0)<;>rfl
 ·simp only[Ac2,Ee,h2];rw[Zk1 (Zn1 _)];rfl
theorem A6l:FO 179 [.sv .tbl,.sl .str false] [.bool] Aua :=.fin 0 Bif λ(t,l) r hb hx=>⟨l.length+1,by
 simp only[Aua,Za1] at hx;simp only[Aok];refine(A9x (a:=some false) (b:=some true) hb.2.1 (λi =>?_) rfl _ (by omega)).trans ?_
 ·show some (!decide ((0:Int)<=(i:Int)))=some false;rw[Ze1 (by omega)];rfl
 ·rw[<-hx];cases Ph t l<;>rfl⟩
structure LinC {α:Type}(c : α->α->Int):Prop where
 rng:∀x y,c x y = -1\/c x y=0\/c x y=1
 eq:∀x y,c x y=0↔x=y
 anti:∀x y,c y x = -(c x y)
 tr:∀x y z,c x y<=0->c y z<=0->c x z<=0
def Fy(p q:Int):Int:=if p=0 then q else p
theorem Av9{p q:Int}(h:Fy p q<=0):p<=0/\(p=0->q<=0):=by simp[Fy] at h;split at h<;>omega
theorem Aka{α β:Type}{c : α->α->Int}{d : β->β->Int}(hc:LinC c){x y z : α}{u v w : β}(hd:d u v<=0->d v w<=0->d u w<=0)(h1:Fy (c x y) (d u v)<=0)(h2:Fy (c y z) (d v w)<=0):Fy (c x z) (d u w)<=0:=by
 obtain⟨a1,a2⟩:=Av9 h1;obtain⟨b1,b2⟩:=Av9 h2;simp[Fy];split
 ·rename_i h0;have e:=(hc.eq x z).1 h0;subst e;have an:=hc.anti x y
  grind
 ·exact(hc.tr x y z a1 b1)
def Hn{α:Type}(c : α->α->Int):List α->List α->Int
 |[],[]=>0
 |[],_::_ => -1
 |_::_,[]=>1
 |x::a,y::b=>Fy (c x y) (Hn c a b)
theorem Bg3{α:Type}{c : α->α->Int}(hc:LinC c):LinC (Hn c):=by
 refine⟨?_,?_,?_,?_⟩
 ·intro x;induction x with
  |nil=>intro y;cases y<;>simp[Hn]
  |cons x a ih =>
   intro y;cases y with
   |nil=>simp[Hn]
   |cons y b =>
    simp[Hn,Fy];split
    ·exact ih b
    ·exact hc.rng x y
 ·intro x;induction x with
  |nil=>intro y;cases y<;>simp[Hn]
  |cons x a ih =>
   intro y;cases y with
   |nil=>simp[Hn]
   |cons y b =>
    simp[Hn,Fy];split
    ·rename_i h;rw[ih b];exact⟨λe=>⟨(hc.eq x y).1 h,e⟩,λe=>e.2⟩
    ·rename_i h;exact⟨λe=>absurd e h,λe=>absurd ((hc.eq x y).2 e.1) h⟩
 ·intro x;induction x with
  |nil=>intro y;cases y<;>simp[Hn]
  |cons x a ih =>intro y;cases y with|nil=>simp[Hn]|cons y b =>have h:=hc.anti x y;have hb:=ih b;simp[Hn,Fy];split<;>split<;>omega
 ·intro x;induction x with
  |nil=>intro y z _ _;cases z<;>simp[Hn]
  |cons x a ih =>
   intro y z h1 h2;cases y with
   |nil=>simp[Hn] at h1
   |cons y b =>cases z with|nil=>simp[Hn] at h2|cons z e =>exact Aka hc (λp q=>ih b e p q) h1 h2
theorem sg_lin:LinC Dj:=by
 have e:∀x y,Dj x y=if x<y then -1 else if y<x then 1 else 0:=λx y=>by simp[Dj,Bool.cond_decide]
 refine⟨λx y =>?_,λx y =>?_,λx y =>?_,λx y z h1 h2 =>?_⟩
 ·grind
 ·grind
 ·grind
 ·grind
def Bmm(a b:UInt8):Int:=Dj (a.toNat:Int) (b.toNat:Int)
theorem Bh7:LinC Bmm:=by
 refine⟨λx y=>sg_lin.rng _ _,λx y =>?_,λx y=>sg_lin.anti _ _,λx y z=>sg_lin.tr _ _ _⟩;simp[Bmm];rw[sg_lin.eq];constructor
 ·intro h;exact UInt8.toNat_inj.1 (by omega)
 ·intro h;rw[h]
theorem Ayg:∀a b:Str,Cr a b=Hn Bmm a b
 |[],[]=>rfl
 |[],_::_=>rfl
 |_::_,[]=>rfl
 |a::l,b::m=>by
  have ih:=Ayg l m;simp[Cr,Lib.compareBytes] at ih ⊢;simp only[Hn,Fy,Bmm,Dj,<-ih];by_cases h1:a<b
  ·have:(a.toNat:Int)<(b.toNat:Int):=by have:=UInt8.lt_iff_toNat_lt.1 h1;omega
   simp[h1,this]
  ·by_cases h2:b<a
   ·have h3:¬(a.toNat:Int)<(b.toNat:Int):=by have:=UInt8.lt_iff_toNat_lt.1 h2;omega
    have h4:(b.toNat:Int)<(a.toNat:Int):=by have:=UInt8.lt_iff_toNat_lt.1 h2;omega
    simp[h1,h2,h3,h4]
   ·have h3:a=b:=UInt8.le_antisymm (UInt8.not_lt.1 h2) (UInt8.not_lt.1 h1);subst h3;simp
theorem scmp_lin:LinC Cr:=by
 have e:(Cr:Str->Str->Int)=Hn Bmm:=by funext a b;exact Ayg a b
 rw[e];exact Bg3 Bh7
theorem K9(a b:Val):Gu a b=Fy (Dj a.kind b.kind) (Fy (Dj a.n b.n) (Cr a.s b.s)):=by
 simp only[Gu,F2,Fy];by_cases h1:Dj a.kind b.kind=0
 ·rw[Ze1 h1,if_pos h1];by_cases h2:Dj a.n b.n=0
  ·rw[Ze1 h2,if_pos h2];rfl
  ·rw[Zd1 h2,if_neg h2];rfl
 ·rw[Zd1 h1,if_neg h1];rfl
theorem vcmp_lin:LinC Gu:=by
 refine⟨λx y =>?_,λx y =>?_,λx y =>?_,λx y z h1 h2 =>?_⟩
 ·rw[K9];simp only[Fy];split
  ·split
   ·exact scmp_lin.rng _ _
   ·exact sg_lin.rng _ _
  ·exact sg_lin.rng _ _
 ·rw[K9];have e1:=sg_lin.eq x.kind y.kind;have e2:=sg_lin.eq x.n y.n;have e3:=scmp_lin.eq x.s y.s;obtain⟨k,n,s⟩:=x;obtain⟨k',n',s'⟩:=y;simp only[Fy,Val.mk.injEq] at *;split
  ·split
   ·rename_i h1 h2;rw[e3,e1.1 h1,e2.1 h2];simp
   ·rename_i h1 h2;exact⟨λh=>absurd h h2,λh=>absurd (e2.2 h.2.1) h2⟩
  ·rename_i h1;exact⟨λh=>absurd h h1,λh=>absurd (e1.2 h.1) h1⟩
 ·rw[K9,K9];have e1:=sg_lin.anti x.kind y.kind;have e2:=sg_lin.anti x.n y.n;have e3:=scmp_lin.anti x.s y.s;simp only[Fy];split<;>split<;>(try split)<;>(try split)<;>omega
 ·rw[K9] at h1 h2 ⊢;refine Aka (d:=λ(p q:Int×Str)=>Fy (Dj p.1 q.1) (Cr p.2 q.2)) (u:=(x.n,x.s)) (v:=(y.n,y.s)) (w:=(z.n,z.s)) sg_lin ?_ h1 h2;intro h3 h4;exact Aka (d:=Cr) sg_lin (λp q=>scmp_lin.tr _ _ _ p q) h3 h4
def ltN(a b:Str):Bool:=decide (Cr a b<0)
theorem A6w(a:Str):ltN a a=false:=by have:=(scmp_lin.eq a a).2 rfl;simp[ltN,this]
theorem Bjc{a b c:Str}(h1:ltN a b=true)(h2:ltN b c=true):ltN a c=true:=by
 simp[ltN] at *;rcases Int.lt_or_eq_of_le (scmp_lin.tr a b c (by omega) (by omega)) with h|h
 ·exact h
 ·have e:=(scmp_lin.eq a c).1 h;subst e;have:=scmp_lin.anti a b;omega
theorem Brt(a b:Str):ltN a b=true\/a=b\/ltN b a=true:=by
 simp[ltN];rcases scmp_lin.rng a b with h|h|h
 ·left;omega
 ·exact .inr (.inl ((scmp_lin.eq a b).1 h))
 ·right;have:=scmp_lin.anti a b;omega
theorem A31{a b:Str}(h:ltN a b=true):a≠b:=λe=>by rw[e,A6w] at h;cases h
def A9:List Idx->Bool
 |[]=>true
 |x::l=>l.all (λy=>ltN x.name y.name)&&A9 l
def K8(l:List Idx)(x:Idx):List Idx:=l.takeWhile (λy=>ltN y.name x.name)++x::l.dropWhile (λy=>ltN y.name x.name)
def Pi(l:List Idx)(s:Str):Bool:=l.any λy=>decide (y.name=s)
def E7(l:List Idx)(s:Str):Nat:=(l.takeWhile λy=>ltN y.name s).length
theorem A77(l:List Idx)(s:Str):E7 l s<=l.length:=by
 induction l with
 |nil=>simp[E7]
 |cons x l ih =>
  simp[E7,List.takeWhile_cons] at ih ⊢;split
  ·simp;omega
  ·simp
theorem Yo:∀{l:List Idx}{s:Str},A9 l=true->∀(h:Nat) (hl:h<l.length),ltN l[h].name s=decide (h<E7 l s)
 |[],_,_,h,hl=>by simp at hl
 |x::l,s,hs,h,hl=>by
  simp[A9,Zg2] at hs;have ih:=Yo (l:=l) (s:=s) hs.2;have hp:E7 (x::l) s=if ltN x.name s then E7 l s+1 else 0:=by simp[E7,List.takeWhile_cons];split<;>simp
  rw[hp];cases hx:ltN x.name s with
  |true=>grind
  |false =>
   cases h with
   |zero=>simpa using hx
   |succ h =>simp;cases hq:ltN (l[h]'(by simpa using hl)).name s with|false=>rfl|true=>rw[Bjc (hs.1 _ (List.getElem_mem _)) hq] at hx;cases hx
theorem Og:∀{l:List Idx},A9 l=true->∀(i j:Nat) (hi:i<l.length) (hj:j<l.length),i<j->ltN l[i].name l[j].name=true
 |[],_,i,j,hi,_,_=>by simp at hi
 |x::l,hs,i,j,hi,hj,hij=>by
  simp[A9,Zg2] at hs;cases j with
  |zero=>omega
  |succ j =>cases i with|zero=>grind|succ i=>exact Og hs.2 i j (by simpa using hi) (by simpa using hj) (by omega)
theorem A5l{l:List Idx}{s:Str}:Pi l s=true↔∃y,y∈l/\y.name=s:=by simp[Pi]
theorem A8z{l:List Idx}{s:Str}(hs:A9 l=true):Pi l s=true↔∃h:E7 l s<l.length,l[E7 l s].name=s:=by
 rw[A5l];constructor
 ·rintro⟨y,hy,e⟩;obtain⟨k,hk,rfl⟩:=List.getElem_of_mem hy;have h1:=Yo (s:=s) hs k hk;rw[e,A6w] at h1;have hkp:¬k<E7 l s:=λh=>by rw[Ze1 h] at h1;cases h1
  have hpl:E7 l s<l.length:=by omega
  refine⟨hpl,?_⟩;rcases Nat.lt_or_eq_of_le (Nat.le_of_not_lt hkp) with h|h
  ·have h2:=Og hs _ k hpl hk h;rw[e] at h2;have h3:=Yo (s:=s) hs _ hpl;rw[h2] at h3;simp at h3
  ·subst h;exact e
 ·grind
theorem Bfv(l:List Idx)(s:Str):l.take (E7 l s)=l.takeWhile (λy=>ltN y.name s):=by have:=List.takeWhile_append_dropWhile (p:=λy:Idx=>ltN y.name s) (l:=l);have h2:(l.takeWhile (λy=>ltN y.name s)++l.dropWhile (λy=>ltN y.name s)).take (E7 l s)=l.takeWhile (λy=>ltN y.name s):=List.take_left' rfl;rwa[this] at h2
theorem Bf0(l:List Idx)(s:Str):l.drop (E7 l s)=l.dropWhile (λy=>ltN y.name s):=by have:=List.takeWhile_append_dropWhile (p:=λy:Idx=>ltN y.name s) (l:=l);have h2:(l.takeWhile (λy=>ltN y.name s)++l.dropWhile (λy=>ltN y.name s)).drop (E7 l s)=l.dropWhile (λy=>ltN y.name s):=List.drop_left' rfl;rwa[this] at h2
theorem Ahk(l:List Idx)(x:Idx):K8 l x=l.take (E7 l x.name)++x::l.drop (E7 l x.name):=by rw[Bfv,Bf0,K8]
theorem A7z{l:List Idx}{x y:Idx}:y∈K8 l x↔y=x\/y∈l:=by
 rw[Ahk];have:y∈l↔y∈l.take (E7 l x.name)\/y∈l.drop (E7 l x.name):=by rw[<-List.mem_append,List.take_append_drop]
 constructor
 ·grind
 ·grind
theorem A5u(l:List Idx)(x:Idx):(K8 l x).length=l.length+1:=by rw[Ahk];simp[ Za2];omega
theorem Vv:∀{l:List Idx}{x:Idx},A9 l=true->Pi l x.name=false->A9 (K8 l x)=true
 |[],x,_,_=>by simp[K8,A9]
 |y::l,x,hs,hh=>by
  have hs':=hs;simp[A9,Zg2] at hs';simp only[Pi,List.any_cons,Bool.or_eq_false_iff,decide_eq_false_iff_not] at hh;have ih:=Vv (l:=l) (x:=x) hs'.2 hh.2;cases hy:ltN y.name x.name with
  |true =>
   have e:K8 (y::l) x=y::K8 l x:=by simp[K8,hy]
   rw[e];simp[A9,Zg2];refine⟨λz hz =>?_,ih⟩;rcases A7z.1 hz with rfl|hz
   ·exact hy
   ·exact hs'.1 z hz
  |false =>
   have e:K8 (y::l) x=x::y::l:=by simp[K8,hy]
   have hxy:ltN x.name y.name=true:=by
    rcases Brt x.name y.name with h|h|h
    ·exact h
    ·exact absurd h.symm hh.1
    ·rw[h] at hy;cases hy
   rw[e];simp only[A9,Zb1,Zg2];refine⟨λz hz =>?_,hs'⟩;rcases List.mem_cons.1 hz with rfl|hz
   ·exact hxy
   ·exact Bjc hxy (hs'.1 z hz)
theorem A0v:∀{l:List Idx}{x:Idx},(∀y,y∈l->ltN y.name x.name=true)->K8 l x=l++[x]
 |[],x,_=>rfl
 |y::l,x,h=>by
  have e:K8 (y::l) x=y::K8 l x:=by simp[K8,(h y (by simp))]
  rw[e,A0v λz hz=>h z (by simp[hz])];rfl
theorem U8:∀{p q:List Idx},A9 (p++q)=true->A9 p=true/\∀y z,y∈p->z∈q->ltN y.name z.name=true
 |[],_,_=>⟨rfl,λ_ _ h=>by cases h⟩
 |x::p,q,h=>by
  simp only[Zb2,A9,Zb1,Zg2,List.mem_append] at h;obtain⟨h1,h2⟩:=U8 h.2;refine⟨?_,λy z hy hz =>?_⟩
  ·simp[A9,Zg2];exact⟨λy hy=>h.1 y (.inl hy),h1⟩
  ·rcases List.mem_cons.1 hy with rfl|hy
   ·exact h.1 z (.inr hz)
   ·exact h2 y z hy hz
def H8:Tbl:=⟨[],[],[],[],[]⟩
def Bmt(cols:List Col)(e:Xpr):Int:=cond (decide ((J4 e cols).2=0)) (cond (decide ((J4 e cols).1=2)||decide ((J4 e cols).1=1)) 0 151) (J4 e cols).2
def O7(cols:List Col):List Xpr->Int
 |[]=>0
 |e::l=>cond (decide (Bmt cols e=0)) (O7 cols l) (Bmt cols e)
def Ab4(s:Stm):Bool:=decide (s.cols.length<=2000000)&&(decide (s.sets.length<=2000000)&&(decide (s.names.length<=2000000)&&(decide (s.l.length<=2000000)&&s.l.all λe=>decide (Bf e<=2000000))))
def Qp(s:Stm):Tbl×Int:=cond (decide (s.kind=1)&&Fz s) (cond (Ph ⟨s.name,s.cols,s.names,[],[]⟩ s.names) (cond (decide (O7 s.cols s.l=0)) (⟨s.name,s.cols,s.names,s.l,[]⟩,0) (H8,O7 s.cols s.l)) (H8,150)) (H8,2)
def Amf:Sig:=⟨70,[(3,.int .i64),(34,.sl .expr false),(35,.int .i64),(36,.int .i64)],[(2,.ptr 1 0),(4,.ptr 2 0)],[(1,.cells [.str,.sl .col true,.sl .str true,.sl .expr true,.sl .idx true]),(2,.cells [.str,.sl .col false,.sl .str false,.sl .expr true,.sl .idx true])],3,0,0,[],[]⟩
abbrev T2:=Int×List Xpr×Int×Int×Str×List Col×List Str×List Xpr×List Idx×Str×List Col×List Str×List Xpr×List Idx
def Tr{R:Type}(rec:T2->Option R)(kx:Ex->T2->Option R)(v:T2):Option R:=match v with
 |(v,v1,v2,v3,w,w1,w2,w3,w4,w5,w6,w7,w8,w9) =>
 cond (decide (v3<v2)) (
  chk (inb v3 v1.length) (
  let j:=λ(p6:Int) =>
   cond (!decide (p6=0)) (
   kx .ret (p6,v1,v2,v3,[],[],[],[],[],w5,w6,w7,w8,w9)) (
   (Ajj (at' .expr v1 v3)).bind λx3 =>
    chk (decide (w8.length+1<=Ah)) (
    rec (v,v1,v2,(wr .i64 (v3+1)),w,w1,w2,w3,w4,w5,w6,w7,(w8++[x3]),w9)))
  cond (decide ((J4 (at' .expr v1 v3) w6).2=0)) (
   cond (!decide ((J4 (at' .expr v1 v3) w6).1=2)) (
   cond (!decide ((J4 (at' .expr v1 v3) w6).1=1)) (
    j 151) (
    j ((J4 (at' .expr v1 v3) w6).2))) (
   j ((J4 (at' .expr v1 v3) w6).2))) (
   j ((J4 (at' .expr v1 v3) w6).2)))) (
  kx (.exit 0) (v,v1,v2,v3,w,w1,w2,w3,w4,w5,w6,w7,w8,w9))
def Axr(R:Type)(k:Nat):Px R:=pxO [(176,cA Yt),(179,cA Aua),(180,cA A5w)] [(177,qA Ahb),(178,qA Vp),(181,qA Ai0)] [(7,Am k Amf (Tr))] []
def Akn(k:Nat)(x:HV [.sv .stmt]):Option (HV [.sv .tbl,.int .i64]):=match x with
 |s =>
 cond (!decide (s.kind=1)) (
  some ((Tbl.mk [] [] [] [] []),2)) (
  (Aca s).bind λx =>
  cond (!decide (x=0)) (
   some ((Tbl.mk [] [] [] [] []),2)) (
   (Akg s.cols).bind λx1 =>
   (Lb s.names).bind λx2 =>
    cond (!(Ph (Tbl.mk s.name x1 x2 [] []) x2)) (
    some ((Tbl.mk [] [] [] [] []),150)) (
    Aj (λrec=>Tr rec (λe vz=>match vz with|(v4,_,_,_,v8,v9,a,b,c,d,f,g,h,i)=>match e with
     |.ret =>
     some ((Tbl.mk v8 v9 a b c),v4)
     |.exit 0 =>
     some ((Tbl.mk d f g h i),0)
     |_=>none)) k (0,s.l,(s.l.length:Int),0,[],[],[],[],[],s.name,x1,x2,[],[]))))
theorem Bc5(k:Nat):FO 129 [.sv .stmt] [.sv .tbl,.int .i64] (Akn k):=fR (px:=Axr _ k) (n:=1) Tryz.func129 rfl (λcx H=>by have h0:Lv cx (Axr (HV [.sv .tbl,.int .i64]) k):=lv H (c1 H Aof (c1 H A6l (c1 H Bj0 Ae))) (q1 H Avc (q1 H Ael (q1 H Bdq Aa))) Ab;have hlsmake_0:=lO H h0 (b:=lp Tryz.f129 0) (k:=k) (n:=0) (s:=Amf) (step:=Tr) (λ_ _ _ (_,_,_,_,_,_,_,_,_,_,_,_,_,_)=>by kernel_rfl) Ai;exact⟨h0,(A6 Ai hlsmake_0)⟩) λ_=>by kernel_rfl
def Azz(s:Stm):Option (Tbl×Int):=cond (Ab4 s) (some (Qp s)) none
def Asd:FT [.sv .stmt] [.sv .tbl,.int .i64]:=λx=>Azz x
theorem A13{R:Type}{kx:Ex->T2->Option R}{nm:Str}{cols:List Col}{names:List Str}{l:List Xpr}{b:Option R}{g:Int->Option R}(hn:l.length<=2000000)(hs:l.all (λe=>decide (Bf e<=2000000))=true)(h1:∀(p:Int) (i:Nat) (acc:List Xpr),kx .ret (p,l,(l.length:Int),(i:Int),[],[],[],[],[],nm,cols,names,acc,[])=g p)(h2:kx (.exit 0) (0,l,(l.length:Int),(l.length:Int),[],[],[],[],[],nm,cols,names,l,[])=b)(k:Nat)(hk:l.length<k) :
  Aj (λrec=>Tr rec kx) k (0,l,(l.length:Int),0,[],[],[],[],[],nm,cols,names,[],[])=cond (decide (O7 cols l=0)) b (g (O7 cols l)):=by
 have hl:ln l.length:=by simp[ln];omega
 refine(A8 l.length (λi=>(0,l,(l.length:Int),(i:Int),[],[],[],[],[],nm,cols,names,l.take i,[])) (λi=>cond (decide (O7 cols (l.drop i)=0)) b (g (O7 cols (l.drop i)))) (λi hi rec hr =>?_) (λrec =>?_) k 0 (Nat.zero_le _) (by omega)).trans (by rw[Zq1])
 ·have ht:l.take (i+1)=l.take i++[l[i]]:=by rw[List.take_add_one,Zo1 hi];rfl
  have hlen:decide ((l.take i).length+1<=Ah)=true:=Ze1 (by simp[ Ah];omega);have hc:Ajj l[i]=some l[i]:=by have:=Zg2.1 hs _ (List.getElem_mem hi);simp[Ajj,this]
  rw[ht] at hr;simp only[Tr,Ea hi,As hi,chk,Al (c :=.expr) hi,An hi hl,h1,Ak hi,O7,Bmt];by_cases hf:(J4 l[i] cols).2=0
  ·grind
  ·simp[hf]
 ·simp only[Tr,Ee,h2,List.take_length];rw[Zk1 (Zn1 _)];rfl
theorem Ba5{s:Stm}(h:Ab4 s=true):s.cols.length<=2000000/\s.sets.length<=2000000/\s.names.length<=2000000/\s.l.length<=2000000/\s.l.all (λe=>decide (Bf e<=2000000))=true:=by simp only[Ab4,Zb1,Zg1] at h;exact h
theorem Bgj:FO 129 [.sv .stmt] [.sv .tbl,.int .i64] Asd :=.fin 0 Bc5 λs r hb hx=>⟨s.l.length+1,by
 simp only[Asd,Azz] at hx;cases hs:Ab4 s with
 |false=>rw[hs] at hx;cases hx
 |true =>
  rw[hs] at hx;simp only[Af,Za1] at hx;rw[<-hx];obtain⟨q1,q2,q3,q4,q5⟩:=Ba5 hs;have ec:Aca s=some (cond (Fz s) 0 2):=if_pos ⟨q1,q2⟩;simp only[Akn,ec,Zc1,Akg,Lb,Ze1 q1,Ze1 q3,Af,Qp];cases decide (s.kind=1) with
  |false=>rfl
  |true =>
   cases Fz s with
   |false=>rfl
   |true =>
    simp only[Zt1,Ag,Af,Bool.and_self,decide_true];cases Ph ⟨s.name,s.cols,s.names,[],[]⟩ s.names with
    |false=>rfl
    |true =>simp only[Zt1,Ag,Af];refine(A13 (g:=λp=>some (H8,p)) (b:=some (⟨s.name,s.cols,s.names,s.l,[]⟩,0)) q4 q5 (λ_ _ _=>rfl) rfl _ (by omega)).trans ?_;cases decide (O7 s.cols s.l=0)<;>rfl⟩
def Be6(R:Type):Px R:=pxO [] [] [] []
def V4(x:HV [.sv .tbl]):Option (HV [.sv .stmt]):=match x with
 |t =>
 some (Stm.mk 1 t.name [] t.cols t.key t.checks [] [] false (Xpr.mk 0 ⟨0,0,[]⟩ [] []) [] [] 0)
theorem Bae:FO 130 [.sv .tbl] [.sv .stmt] (V4):=fR (px:=Be6 _) (n:=0) Tryz.func130 rfl (λ_ H=>⟨lv H Ae Aa Ab,Ai⟩) λ_=>by kernel_rfl
def Fx(t:Tbl):Stm :=(Stm.mk 1 t.name [] t.cols t.key t.checks [] [] false (Xpr.mk 0 ⟨0,0,[]⟩ [] []) [] [] 0)
theorem Beb(x:HV [.sv .tbl]):V4 x=some (Fx x):=by
 first
  |exact rfl
  |simp only[V4,Fx,Az]
def A6k:FT [.sv .tbl] [.sv .stmt]:=λx=>some (Fx x)
theorem Bfo:FO 130 [.sv .tbl] [.sv .stmt] A6k :=.fin0 Bae λx _ _ hx=>(Beb x).trans hx
def Bdo(R:Type):Px R:=pxO [] [] [] []
def Pw(x:HV [.sv .tbl,.sv .idx]):Option (HV [.sv .stmt]):=match x with
 |(t,x) =>
 some (Stm.mk 3 x.name t.name [] x.cols [] [] [] false (Xpr.mk 0 ⟨0,0,[]⟩ [] []) [] [] 0)
theorem A3s:FO 132 [.sv .tbl,.sv .idx] [.sv .stmt] (Pw):=fR (px:=Bdo _) (n:=0) Tryz.func132 rfl (λ_ H=>⟨lv H Ae Aa Ab,Ai⟩) λ(_,_)=>by kernel_rfl
def Hv(t:Tbl)(x:Idx):Stm :=(Stm.mk 3 x.name t.name [] x.cols [] [] [] false (Xpr.mk 0 ⟨0,0,[]⟩ [] []) [] [] 0)
theorem A5h(x:HV [.sv .tbl,.sv .idx]):Pw x=some (Hv x.1 x.2):=by
 first
  |exact rfl
  |simp only[Pw,Hv,Az]
def Ayq:FT [.sv .tbl,.sv .idx] [.sv .stmt]:=λx=>some (Hv x.1 x.2)
theorem Bec:FO 132 [.sv .tbl,.sv .idx] [.sv .stmt] Ayq :=.fin0 A3s λx _ _ hx=>(A5h x).trans hx
def A1r(R:Type):Px R:=pxO [(93,cA W3)] [] [] []
def Ow(x:HV [.sv .idx,.str]):Option (HV [.int .i64]):=match x with
 |(x,name) =>
 some (F2 x.name name)
theorem A0d:FO 183 [.sv .idx,.str] [.int .i64] (Ow):=fR (px:=A1r _) (n:=0) Tryz.func183 rfl (λ_ H=>⟨lv H (c1 H Aew Ae) Aa Ab,Ai⟩) λ(_,_)=>by kernel_rfl
def Kj(x:Idx)(name:Str):Int :=(F2 x.name name)
theorem Az2(x:HV [.sv .idx,.str]):Ow x=some (Kj x.1 x.2):=by
 first
  |exact rfl
  |simp only[Ow,Kj,Az]
def Anu:FT [.sv .idx,.str] [.int .i64]:=λx=>some (Kj x.1 x.2)
theorem A1j:FO 183 [.sv .idx,.str] [.int .i64] Anu :=.fin0 A0d λx _ _ hx=>(Az2 x).trans hx
def Al9:Sig:=⟨49,[(0,.sl .idx false),(1,.str),(8,.int .i64),(9,.int .i64),(10,.int .i64)],[(2,.fn 183 [])],[(0,.one (.sv .tbl)),(1,.one (.sv .stmt)),(2,.one (.sv .tbl))],40,40,200,[],[]⟩
abbrev S9:=List Idx×Str×Int×Int×Int×Tbl×Stm×Tbl
def Uu{R:Type}(rec:S9->Option R)(kx:Ex->S9->Option R)(v:S9):Option R:=match v with
 |(v,v1,v2,v3,v4,w,w1,w2) =>
 cond (decide (v3<v4)) (
  chk (inb (wr .i64 (D5 .u64 (wr .u64 (wr .i64 (v3+v4))) 1)) v.length) (
  cond (decide ((Kj (at' .idx v (wr .i64 (D5 .u64 (wr .u64 (wr .i64 (v3+v4))) 1))) v1)<0)) (
   rec (v,v1,v2,(wr .i64 ((wr .i64 (D5 .u64 (wr .u64 (wr .i64 (v3+v4))) 1))+1)),v4,w,w1,w2)) (
   rec (v,v1,v2,v3,(wr .i64 (D5 .u64 (wr .u64 (wr .i64 (v3+v4))) 1)),w,w1,w2)))) (
  kx (.exit 0) (v,v1,v2,v3,v4,w,w1,w2))
def Akf(R:Type)(k:Nat):Px R:=pxO [(183,cA Anu)] [] [(3,Am k Al9 (Uu))] []
noncomputable def Ax6(R:Type)(k:Nat):Px R:=pxO [(176,cA Yt),(179,cA Aua),(184,Agj),(182,A1 40 200 (Akf R k) Tryz.f182)] [(178,qA Vp)] [] [(185,Af1 .idx)]
def Aif(k:Nat)(x:HV [.sv .tbl,.sv .stmt]):Option (HV [.sv .tbl,.int .i64]):=match x with
 |(t,s) =>
 cond (!decide (s.kind=3)) (
  some ((Tbl.mk [] [] [] [] []),2)) (
  (Aca s).bind λx =>
  cond (!decide (x=0)) (
   some ((Tbl.mk [] [] [] [] []),2)) (
   cond (!decide (s.on=t.name)) (
   some ((Tbl.mk [] [] [] [] []),2)) (
   Aj (λrec=>Uu rec (λe vz=>match vz with|(v5,v6,v7,v8,_,a,b,_)=>match e with
    |.exit 0 =>
    let j:=λ(c:Bool) =>
     cond (c) (
     some ((Tbl.mk [] [] [] [] []),160)) (
     cond (decide (100<=(a.idx.length:Int))) (
      some ((Tbl.mk [] [] [] [] []),3)) (
      cond (!(Ph a b.names)) (
      some ((Tbl.mk [] [] [] [] []),150)) (
      chk (decide (a.idx.length<=2000000)) (
       cond (List.isEmpty a.idx) (
       (Lb b.names).bind λx1 =>
        chk (decide (v8=0)) (
        some ((Tbl.mk a.name a.cols a.key a.checks [(Idx.mk b.name x1)]),0))) (
       (Lb b.names).bind λx2 =>
        chk (decide ((0:Int)=0)&&decide ((0:Int)<(a.idx.length:Int))&&decide ((a.idx.length:Int)=(a.idx.length:Int))&&decide ((0:Int)<=v8)&&decide (v8<=(a.idx.length:Int))&&decide ((a.idx.length:Int)<=(2000000:Int))) (
        some ((Tbl.mk a.name a.cols a.key a.checks (List.take (v8:Int).toNat a.idx++(Idx.mk b.name x2)::List.drop (v8:Int).toNat a.idx)),0)))))))
    cond (decide (v8<v7)) (
     chk (inb v8 v5.length) (
     j (decide ((Kj (at' .idx v5 v8) v6)=0)))) (
     j false)
    |_=>none)) k (t.idx,s.name,(t.idx.length:Int),0,(t.idx.length:Int),t,s,(Tbl.mk [] [] [] [] [])))))
theorem Ba6(k:Nat):FO 131 [.sv .tbl,.sv .stmt] [.sv .tbl,.int .i64] (Aif k):=fR (px:=Ax6 _ k) (n:=0) Tryz.func131 rfl (λcx H=>by have h1:Lv cx (Akf (HV [.sv .tbl,.int .i64]) k):=lv H (c1 H A1j Ae) Aa Ab;have hlswith_0:=lO H h1 (b:=lp Tryz.f182 0) (k:=k) (n:=0) (s:=Al9) (step:=Uu) (λ_ _ _ (_,_,_,_,_,_,_,_)=>by kernel_rfl) Ai;have h0:Lv cx (Ax6 (HV [.sv .tbl,.int .i64]) k):=lv H (c1 H Aof (c1 H A6l (Ao (Bw7 H Bsy) (Ao (cR H h1 Tryz.func182 rfl (n:=1) ((A6 Ai hlswith_0))) Ae)))) (q1 H Ael Aa) (Ap4 (Bxe H Avu Atp) Ab);exact⟨h0,Ai⟩) λ(_,_)=>by kernel_rfl
def Aze(t:Tbl)(s:Stm):Tbl×Int:=cond (decide (s.kind=3)&&(Fz s&&decide (s.on=t.name))) (cond (Pi t.idx s.name) (H8,160) (cond (decide (100<=t.idx.length)) (H8,3) (cond (Ph t s.names) ({ t with idx:=K8 t.idx ⟨s.name,s.names⟩ },0) (H8,150)))) (H8,2)
def Ame(t:Tbl)(s:Stm):Bool:=decide (s.cols.length<=2000000)&&(decide (s.sets.length<=2000000)&&(decide (s.names.length<=2000000)&&(decide (t.idx.length<=2000000)&&A9 t.idx)))
def Ax0(t:Tbl)(s:Stm):Option (Tbl×Int):=cond (Ame t s) (some (Aze t s)) none
def At7:FT [.sv .tbl,.sv .stmt] [.sv .tbl,.int .i64]:=λx=>Ax0 x.1 x.2
theorem Bw0{n:Nat}(h:n<=4000000):wr .u64 (n:Int)=(n:Int):=by
 have e:wr .u64 (n:Int)=(n:Int) % 18446744073709551616:=by simp[wr,IntKind.wrap,IntKind.bits,IntKind.signed]
 omega
theorem Bty{a:Int}:D5 .u64 a 1=a / 2:=by show a.fdiv (2 ^ min (1:Int).toNat IntKind.u64.bits)=_;rw[show(2:Int) ^ min (1:Int).toNat IntKind.u64.bits=2 from by decide];exact Int.fdiv_eq_ediv_of_nonneg _ (by omega)
theorem Bo2{a b:Nat}(h:a+b<=4000000):wr .i64 (D5 .u64 (wr .u64 (wr .i64 ((a:Int)+(b:Int)))) 1)=(((a+b) / 2:Nat):Int):=by rw[show(a:Int)+(b:Int)=((a+b:Nat):Int) by omega,Bgb (by simp[ln];omega),Bw0 h,Bty,show((a+b:Nat):Int) / 2=(((a+b) / 2:Nat):Int) by omega,Bgb (by simp[ln];omega)]
theorem W6{R:Type}{kx:Ex->S9->Option R}{l:List Idx}{nm:Str}{t t2:Tbl}{s:Stm}{c:Option R}(hs:A9 l=true)(hn:l.length<=2000000)(h2:kx (.exit 0) (l,nm,(l.length:Int),(E7 l nm:Int),(E7 l nm:Int),t,s,t2)=c):∀(k lo hi:Nat),lo<=E7 l nm->E7 l nm<=hi->hi<=l.length->hi-lo<k ->
  Aj (λrec=>Uu rec kx) k (l,nm,(l.length:Int),(lo:Int),(hi:Int),t,s,t2)=c
 |0,lo,hi,_,_,_,h=>by omega
 |k+1,lo,hi,h3,h4,h5,h=>by
  rw[Ay];by_cases hlt:lo<hi
  ·have hm:(lo+hi) / 2<l.length:=by omega
   have hp:=Yo (s:=nm) hs _ hm;have hb:decide (Kj l[(lo+hi) / 2] nm<0)=decide ((lo+hi) / 2<E7 l nm):=hp;have ih1:=W6 hs hn h2 k ((lo+hi) / 2+1) hi;have ih2:=W6 hs hn h2 k lo ((lo+hi) / 2);simp only[Uu,Bo2 (show lo+hi<=4000000 by omega),As hm,chk,Al (c :=.idx) hm,An hm (show ln l.length by simp[ln];omega)];by_cases hq:(lo+hi) / 2<E7 l nm
   ·grind
   ·grind
  ·have e1:lo=E7 l nm:=by omega
   have e2:hi=E7 l nm:=by omega
   simp only[Uu,Zd1 (show ¬(lo:Int)<(hi:Int) by omega)];rw[e1,e2];exact h2
theorem Bjv{l:List Idx}{nm:Str}(hs:A9 l=true){R:Type}{A B:Option R}:(cond (decide ((E7 l nm:Int)<(l.length:Int))) (chk (inb (E7 l nm:Int) l.length) (cond (decide (Kj (at' .idx l (E7 l nm:Int)) nm=0)) A B)) B)=cond (Pi l nm) A B:=by
 by_cases hp:E7 l nm<l.length
 ·rw[Ze1 (show(E7 l nm:Int)<(l.length:Int) by omega)];simp[ As hp,chk,Al (c :=.idx) hp];have e:decide (Kj l[E7 l nm] nm=0)=Pi l nm:=by
   rw[Bool.eq_iff_iff,A8z hs,Zg1];constructor
   ·intro h;exact⟨hp,(scmp_lin.eq _ _).1 h⟩
   ·rintro⟨_,h⟩;exact(scmp_lin.eq _ _).2 h
  rw[e]
 ·rw[Zd1 (show ¬(E7 l nm:Int)<(l.length:Int) by omega)];have e:Pi l nm=false:=by cases h:Pi l nm with|false=>rfl|true=>exact absurd ((A8z hs).1 h).1 hp
  rw[e];rfl
theorem Baq{t:Tbl}{s:Stm}(h:Ame t s=true):s.cols.length<=2000000/\s.sets.length<=2000000/\s.names.length<=2000000/\t.idx.length<=2000000/\A9 t.idx=true:=by simp[Ame] at h;exact h
theorem Bmx:FO 131 [.sv .tbl,.sv .stmt] [.sv .tbl,.int .i64] At7 :=.fin 0 Ba6 λ(t,s) r hb hx=>⟨t.idx.length+1,by
 simp only[At7,Ax0] at hx;cases hs:Ame t s with
 |false=>rw[hs] at hx;cases hx
 |true =>
  rw[hs] at hx;simp only[Af,Za1] at hx;rw[<-hx];obtain⟨q1,q2,q3,q4,q5⟩:=Baq hs;have ec:Aca s=some (cond (Fz s) 0 2):=if_pos ⟨q1,q2⟩;simp only[Aif,ec,Zc1,Lb,Aze];cases decide (s.kind=3) with
  |false=>rfl
  |true =>
   cases Fz s with
   |false=>rfl
   |true =>
    cases decide (s.on=t.name) with
    |false=>rfl
    |true =>
     simp only[Zt1,Ag,Af,Bool.and_self,decide_true];refine(W6 (c:=some (cond (Pi t.idx s.name) (H8,160) (cond (decide (100<=t.idx.length)) (H8,3) (cond (Ph t s.names) ({ t with idx:=K8 t.idx ⟨s.name,s.names⟩ },0) (H8,150))))) q5 q4 ?_ _ 0 t.idx.length (Nat.zero_le _) (A77 _ _) (Zn1 _) (by omega)).trans rfl;have hle:=A77 t.idx s.name;simp only;rw[Bjv q5];cases Pi t.idx s.name with
     |true=>rfl
     |false =>
      have e100:decide ((100:Int)<=(t.idx.length:Int))=decide (100<=t.idx.length):=Zy1.2 (by omega);simp only[Ag,e100];cases decide (100<=t.idx.length) with
      |true=>rfl
      |false =>
       simp only[Ag];cases Ph t s.names with
       |false=>rfl
       |true =>
        simp only[Zt1,Ag,Af,chk,Ze1 q4];simp only[Ze1 q3,Af,Zc1];cases hE:t.idx.isEmpty with
        |true =>have h0:t.idx=[]:=List.isEmpty_iff.1 hE;simp only[Af,h0];rfl
        |false =>
         have hpos : 0<t.idx.length:=by cases h0:t.idx with|nil=>rw[h0] at hE;cases hE|cons x l=>simp only[Zf1];omega
         simp only[Ag,Ahk,Int.toNat_natCast];have hck:decide ((0:Int)<(t.idx.length:Int))=true/\decide ((0:Int)<=(E7 t.idx s.name:Int))=true/\decide ((E7 t.idx s.name:Int)<=(t.idx.length:Int))=true/\decide ((t.idx.length:Int)<=2000000)=true:=by simp only[Zg1];omega
         simp only[hck.1,hck.2.1,hck.2.2.1,hck.2.2.2,Bool.and_self,Af]⟩
def U9:Sig:=⟨58,[(3,.bool),(39,.sl .idx false),(40,.int .i64),(41,.int .i64)],[(1,.ptr 0 0),(2,.ptr 1 0),(4,.ptr 2 0)],[(0,.one (.sv .tbl)),(1,.one (.sv .tbl)),(2,.one (.sv .tbl))],3,0,0,[],[]⟩
abbrev Iy:=Bool×List Idx×Int×Int×Tbl×Tbl×Tbl
def Hk{R:Type}(rec:Iy->Option R)(kx:Ex->Iy->Option R)(v:Iy):Option R:=match v with
 |(d,b,c,a,w3,w4,w5) =>
 cond (decide (a<c)) (
  chk (inb a b.length) (
  chk (inb a w3.idx.length) (
   cond (!decide (((at' .idx b a).name)=((at' .idx w3.idx a).name))) (
   kx .ret (false,b,c,a,w3,(Tbl.mk [] [] [] [] []),w5)) (
   rec (d,b,c,(wr .i64 (a+1)),w3,w4,w5))))) (
  kx (.exit 2) (d,b,c,a,w3,w4,w5))
def U6:Sig:=⟨58,[(3,.bool),(20,.sl .idx false),(21,.int .i64),(22,.int .i64)],[(1,.ptr 0 0),(2,.ptr 1 0),(4,.ptr 2 0)],[(0,.one (.sv .tbl)),(1,.one (.sv .tbl)),(2,.one (.sv .tbl))],3,0,0,[],[]⟩
abbrev Ip:=Bool×List Idx×Int×Int×Tbl×Tbl×Tbl
def Hs{R:Type}(rec:Ip->Option R)(kx:Ex->Ip->Option R)(v:Ip):Option R:=match v with
 |(v,v1,v2,v3,w,w1,w2) =>
 cond (decide (v3<v2)) (
  chk (inb v3 v1.length) (
  (Ax0 w2 (Hv w (at' .idx v1 v3))).bind λ(x2,x3) =>
   cond (!decide (x3=0)) (
   kx .ret (false,v1,v2,v3,w,(Tbl.mk [] [] [] [] []),x2)) (
   rec (v,v1,v2,(wr .i64 (v3+1)),w,w1,x2)))) (
  kx (.exit 0) (v,v1,v2,v3,w,w1,w2))
def Ad8(R:Type)(k:Nat):Px R:=pxO [(130,cA A6k),(129,cA Asd)] [(132,qA Ayq),(131,qA At7)] [(5,Am k U6 (Hs)),(12,Am k U9 (Hk))] []
def Vf(k:Nat)(x:HV [.sv .tbl]):Option (HV [.sv .tbl,.bool]):=match x with
 |t =>
 (Azz (Fx t)).bind λ(x,x1) =>
  cond (!decide (x1=0)) (
  some ((Tbl.mk [] [] [] [] []),false)) (
  Aj (λrec=>Hs rec (λe vz=>match vz with|(v4,_,_,_,v8,v9,a)=>match e with
   |.ret =>
   some (v9,v4)
   |.exit 0 =>
   Aj (λrec=>Hk rec (λe vz=>match vz with|(b,_,_,_,_,c,d)=>match e with
    |.ret =>
    some (c,b)
    |.exit 2 =>
    some (d,true)
    |_=>none)) k (v4,a.idx,(a.idx.length:Int),0,v8,v9,a)
   |_=>none)) k (false,t.idx,(t.idx.length:Int),0,t,(Tbl.mk [] [] [] [] []),x))
theorem Atj(k:Nat):FO 86 [.sv .tbl] [.sv .tbl,.bool] (Vf k):=fR (px:=Ad8 _ k) (n:=2) Tryz.func86 rfl (λcx H=>by have h0:Lv cx (Ad8 (HV [.sv .tbl,.bool]) k):=lv H (c1 H Bfo (c1 H Bgj Ae)) (q1 H Bec (q1 H Bmx Aa)) Ab;have hlsrebuilt_0:=lO H h0 (b:=lp Tryz.f86 0) (k:=k) (n:=0) (s:=U6) (step:=Hs) (λ_ _ _ (_,_,_,_,_,_,_)=>by kernel_rfl) Ai;have hlsrebuilt_1:=lO H h0 (b:=lp Tryz.f86 1) (k:=k) (n:=0) (s:=U9) (step:=Hk) (λ_ _ _ (_,_,_,_,_,_,_)=>by kernel_rfl) Ai;exact⟨h0,(A6 (A6 Ai hlsrebuilt_0) hlsrebuilt_1)⟩) λ_=>by kernel_rfl
def P4(t:Tbl)(x:Idx):Bool:=Fz (Hv t x)&&Ph t x.cols
def ixs(t:Tbl):List Idx->List Idx->Option (List Idx)
 |acc,[]=>some acc
 |acc,x::l=>cond (P4 t x&&(!Pi acc x.name&&decide (acc.length<100))) (ixs t (K8 acc x) l) none
def J0(t:Tbl):Bool:=decide ((Qp (Fx t)).2=0)&&(A9 t.idx&&(decide (t.idx.length<=100)&&t.idx.all (P4 t)))
def G2(t:Tbl):Bool:=Ab4 (Fx t)&&(decide (t.idx.length<=2000000)&&t.idx.all λx=>decide (x.cols.length<=2000000))
def Yx(t:Tbl):Option (Tbl×Bool):=cond (G2 t) (some (cond (J0 t) (t,true) (H8,false))) none
def Xm:FT [.sv .tbl] [.sv .tbl,.bool]:=λx=>Yx x
theorem Bqc{t:Tbl}{acc:List Idx}{x:Idx}:Aze { t with idx:=acc } (Hv t x)=cond (Fz (Hv t x)) (cond (Pi acc x.name) (H8,160) (cond (decide (100<=acc.length)) (H8,3) (cond (Ph t x.cols) ({ t with idx:=K8 acc x },0) (H8,150)))) (H8,2):=by simp[Aze,Hv];rfl
theorem Aye{t:Tbl}:∀{l acc a:List Idx},A9 acc=true->ixs t acc l=some a->A9 a=true/\(∀y,y∈a↔y∈acc\/y∈l)/\a.length=acc.length+l.length/\l.all (P4 t)=true/\(acc.length<=100->a.length<=100)
 |[],acc,a,hs,h=>by simp[ixs] at h;subst h;exact⟨hs,by simp,by simp,rfl,id⟩
 |x::l,acc,a,hs,h=>by
  simp[ixs] at h;cases hc:P4 t x&&(!Pi acc x.name&&decide (acc.length<100)) with
  |false=>rw[hc] at h;cases h
  |true =>
   rw[hc] at h;simp at h;simp at hc;obtain⟨h1,h2,h3,h4,h5⟩:=Aye (Vv hs hc.2.1) h;rw[A5u] at h3 h5;refine⟨h1,λy =>?_,by simp;omega,by simp[h4,hc.1],λ_=>h5 (by omega)⟩;rw[h2,A7z,List.mem_cons];constructor
   ·grind
   ·grind
theorem Aur{t:Tbl}:∀{q p:List Idx},A9 (p++q)=true->(p++q).length<=100->q.all (P4 t)=true->ixs t p q=some (p++q)
 |[],p,_,_,_=>by simp[ixs]
 |x::q,p,hs,hn,hk=>by
  simp only[Zv1,Zb1] at hk;have hlt:=(U8 hs).2;have h1:Pi p x.name=false:=by cases h:Pi p x.name with|false=>rfl|true =>obtain⟨y,hy,e⟩:=A5l.1 h;exact absurd e (A31 (hlt y x hy (by simp)))
  have h2:decide (p.length<100)=true:=Ze1 (by simp at hn;omega);have h3:K8 p x=p++[x]:=A0v λy hy=>hlt y x hy (by simp);simp[ixs,hk.1,h1,h2,h3];rw[Aur (by simpa using hs) (by simpa using hn) hk.2];simp
def Afr:List Idx->List Idx->Bool
 |x::a,y::b=>decide (x.name=y.name)&&Afr a b
 |_,_=>true
theorem Axx:∀{a b:List Idx},Afr a b=true->∀(i:Nat) (hi:i<a.length) (hj:i<b.length),a[i].name=b[i].name
 |[],_,_,i,hi,_=>by simp at hi
 |_::_,[],_,i,_,hj=>by simp at hj
 |x::a,y::b,h,i,hi,hj=>by simp[Afr] at h;cases i with|zero=>exact h.1|succ i=>exact Axx h.2 i (by simpa using hi) (by simpa using hj)
theorem Ari:∀a:List Idx,Afr a a=true
 |[]=>rfl
 |x::a=>by simp[Afr,Ari a]
theorem A99{l:List Idx}(hs:A9 l=true){x y:Idx}(hx:x∈l)(hy:y∈l)(e:x.name=y.name):x=y:=by
 obtain⟨i,hi,rfl⟩:=List.getElem_of_mem hx;obtain⟨j,hj,rfl⟩:=List.getElem_of_mem hy;rcases Nat.lt_trichotomy i j with h|h|h
 ·exact absurd e (A31 (Og hs i j hi hj h))
 ·subst h;rfl
 ·exact absurd e.symm (A31 (Og hs j i hj hi h))
theorem Bom{a b:List Idx}(hs:A9 a=true)(hm:∀y,y∈a↔y∈b)(hn:a.length=b.length)(h:Afr a b=true):a=b :=List.ext_getElem hn λi hi hj=>A99 hs (List.getElem_mem hi) ((hm _).2 (List.getElem_mem hj)) (Axx h i hi hj)
theorem Bte{t:Tbl}{R:Type}{g:List Idx->R}{c:R}:(match ixs t [] t.idx with|some a=>cond (Afr a t.idx) (g a) c|none=>c)=cond (A9 t.idx&&(decide (t.idx.length<=100)&&t.idx.all (P4 t))) (g t.idx) c:=by
 cases hx:ixs t [] t.idx with
 |none =>cases hc:A9 t.idx&&(decide (t.idx.length<=100)&&t.idx.all (P4 t)) with|false=>rfl|true =>simp only[Zb1] at hc;rw[Aur (p:=[]) (by simpa using hc.1) (by simpa using hc.2.1) hc.2.2] at hx;cases hx
 |some a =>
  obtain⟨h1,h2,h3,h4,h5⟩:=Aye (by rfl) hx;simp only;cases hs:Afr a t.idx with
  |true =>have e:=Bom h1 (λy=>by rw[h2];simp) (by simpa using h3) hs;rw[<-e,h1];rw[<-e] at h4;rw[h4,Ze1 (h5 (by simp))];rfl
  |false =>cases hc:A9 t.idx&&(decide (t.idx.length<=100)&&t.idx.all (P4 t)) with|false=>rfl|true =>simp only[Zb1] at hc;rw[Aur (p:=[]) (by simpa using hc.1) (by simpa using hc.2.1) hc.2.2] at hx;cases hx;rw[Zf2,Ari] at hs;cases hs
theorem Aby{t:Tbl}(h:G2 t=true):Ab4 (Fx t)=true/\t.idx.length<=2000000/\∀x,x∈t.idx->x.cols.length<=2000000:=by simp[G2] at h;exact h
theorem Avd{R:Type}{kx:Ex->Ip->Option R}{t:Tbl}{g:List Idx->Option R}{c:Option R}(hs:G2 t=true)(h1:∀i p,kx .ret (false,t.idx,(t.idx.length:Int),i,t,H8,p)=c)(h2:∀a:List Idx,a.length=t.idx.length->kx (.exit 0) (false,t.idx,(t.idx.length:Int),(t.idx.length:Int),t,H8,{ t with idx:=a })=g a)(k:Nat)(hk:t.idx.length<k) :
  Aj (λrec=>Hs rec kx) k (false,t.idx,(t.idx.length:Int),0,t,H8,{ t with idx:=[] })=(match ixs t [] t.idx with|some a=>g a|none=>c):=by
 obtain⟨_,hn,hcs⟩:=Aby hs;have hl:ln t.idx.length:=by simp[ln];omega
 refine(C9 t.idx.length (λi (acc:List Idx)=>(false,t.idx,(t.idx.length:Int),(i:Int),t,H8,{ t with idx:=acc })) (λi acc=>A9 acc=true/\acc.length=i) (λi acc=>(match ixs t acc (t.idx.drop i) with|some a=>g a|none=>c)) (λi hi acc ha rec hr =>?_) (λacc ha rec =>?_) k 0 [] (Nat.zero_le _) (by omega) ⟨rfl,rfl⟩).trans (by rw[Zq1])
 ·have hw:Ax0 { t with idx:=acc } (Hv t t.idx[i])=some (Aze { t with idx:=acc } (Hv t t.idx[i])):=by
   have:Ame { t with idx:=acc } (Hv t t.idx[i])=true:=by have h1:=hcs _ (List.getElem_mem hi);have h2:=ha.2;show(decide ((0:Nat)<=2000000)&&(decide ((0:Nat)<=2000000)&&(decide (t.idx[i].cols.length<=2000000)&&(decide (acc.length<=2000000)&&A9 acc))))=true;rw[Ze1 h1,Ze1 (show acc.length<=2000000 by omega),ha.1];rfl
   rw[Ax0,this];rfl
  simp only[Hs,Ea hi,As hi,Al (c :=.idx) hi,hw,Bqc,An hi hl,Ak hi,ixs,P4];cases Fz (Hv t t.idx[i]) with
  |false=>exact h1 _ _
  |true =>
   simp;cases hh:Pi acc t.idx[i].name with
   |true =>simp;exact h1 _ _
   |false =>
    simp;by_cases h100:acc.length<100
    ·rw[Ze1 h100,Zd1 (show ¬ 100<=acc.length by omega)];simp;cases Ph t t.idx[i].cols with|false=>exact h1 _ _|true =>simp;exact hr _ ⟨Vv ha.1 hh,by rw[A5u,ha.2]⟩
    ·rw[Zd1 h100,Ze1 (show 100<=acc.length by omega)];simp;exact h1 _ _
 ·simp only[Hs,Ee,h2 acc ha.2];rw[Zk1 (Zn1 _)];rfl
theorem Avb{R:Type}{kx:Ex->Iy->Option R}{t:Tbl}{a:List Idx}{b c:Option R}(hs:G2 t=true)(ha:a.length=t.idx.length)(h1:∀i,kx .ret (false,a,(a.length:Int),i,t,H8,{ t with idx:=a })=c)(h2:kx (.exit 2) (false,a,(a.length:Int),(a.length:Int),t,H8,{ t with idx:=a })=b)(k:Nat)(hk:t.idx.length<k) :
  Aj (λrec=>Hk rec kx) k (false,a,(a.length:Int),0,t,H8,{ t with idx:=a })=cond (Afr a t.idx) b c:=by
 obtain⟨_,hn,hcs⟩:=Aby hs;have hl:ln a.length:=by simp[ln];omega
 refine(A8 a.length (λi=>(false,a,(a.length:Int),(i:Int),t,H8,{ t with idx:=a })) (λi=>cond (Afr (a.drop i) (t.idx.drop i)) b c) (λi hi rec hr =>?_) (λrec =>?_) k 0 (Nat.zero_le _) (by omega)).trans (by rw[Zq1,Zq1])
 ·have hi2:i<t.idx.length:=by omega
  simp only[Hk,Ea hi,As hi,As hi2,Al (c :=.idx) hi,Al (c :=.idx) hi2,An hi hl,Ak hi,Ak hi2,Afr,hr];cases decide (a[i].name=t.idx[i].name) with|false=>exact h1 _|true=>rfl
 ·simp only[Hk,Ee,h2];rw[Zk1 (Zn1 _)];rfl
theorem Bcx{t:Tbl}(h:(Qp (Fx t)).2=0):Qp (Fx t)=({ t with idx:=[] },0):=by
 simp[Qp] at h ⊢;generalize (decide ((Fx t).kind=1)&&Fz (Fx t))=b1 at h ⊢;generalize Ph ⟨(Fx t).name,(Fx t).cols,(Fx t).names,[],[]⟩ (Fx t).names=b2 at h ⊢;cases b1 with
 |false=>simp at h
 |true =>
  cases b2 with
  |false=>simp at h
  |true =>
   by_cases hc:O7 (Fx t).cols (Fx t).l=0
   ·simp only[hc];rfl
   ·simp[hc] at h
theorem Ayh:FO 86 [.sv .tbl] [.sv .tbl,.bool] Xm :=.fin 0 Atj λt r hb hx=>⟨t.idx.length+1,by
 simp only[Xm,Yx] at hx;cases hs:G2 t with
 |false=>rw[hs] at hx;cases hx
 |true =>
  rw[hs] at hx;simp only[Af,Za1] at hx;rw[<-hx];obtain⟨q1,q2,q3⟩:=Aby hs;have em:Azz (Fx t)=some (Qp (Fx t)):=by rw[Azz,q1];rfl
  simp only[Vf,em,Zc1,J0];by_cases h0:(Qp (Fx t)).2=0
  ·simp only[Bcx h0,decide_true,Zt1,Ag,Bool.true_and];refine(Avd (c:=some (H8,false)) (g:=λa=>cond (Afr a t.idx) (some ({ t with idx:=a },true)) (some (H8,false))) hs (λ_ _=>rfl) (λa ha =>?_) _ (by omega)).trans ?_
   ·exact Avb hs ha (λ_=>rfl) rfl _ (by omega)
   ·rw[Bte (g:=λa=>some (({ t with idx:=a }:Tbl),true)),Az]
  ·simp only[Zd1 h0,Zs1,Af,Bool.false_and,Ag];rfl⟩
def Bbd(R:Type):Px R:=pxO [(86,cA Xm)] [] [] []
def Afj(x:HV [.sv .tbl]):Option (HV [.int .i64]):=match x with
 |t =>
 (Yx t).bind λ(_,x1) =>
  cond (!x1) (
  some 2) (
  some 0)
theorem A18:FO 52 [.sv .tbl] [.int .i64] (Afj):=fR (px:=Bbd _) (n:=0) Tryz.func52 rfl (λ_ H=>⟨lv H (c1 H Ayh Ae) Aa Ab,Ai⟩) λ_=>by kernel_rfl
def Ji(t:Tbl):Option Int:=cond (G2 t) (some (cond (J0 t) 0 2)) none
def X5:FT [.sv .tbl] [.int .i64]:=λx=>Ji x
theorem Ant:FO 52 [.sv .tbl] [.int .i64] X5 :=.fin0 A18 λt r hb hx=>by simp only[X5,Ji] at hx;rw[<-hx];simp only[Afj,Yx];cases G2 t with|false=>rfl|true=>cases J0 t<;>rfl
def Apk:Sig:=⟨19,[(0,.int .u64),(3,.sl .byte true)],[],[],0,0,0,[],[]⟩
abbrev X6:=Int×List UInt8
def Vr{R:Type}(rec:X6->Option R)(kx:Ex->X6->Option R)(v:X6):Option R:=match v with
 |(v,v1) =>
 cond (decide (128<=v)) (
  chk (decide (v1.length+1<=Ah)) (
  rec ((D5 .u64 v 7),(v1++[(UInt8.ofNat ((ior .u8 (wr .u8 v) 128):Int).toNat)])))) (
  kx (.exit 0) (v,v1))
def A7t(R:Type)(k:Nat):Px R:=pxO [] [] [(2,Am k Apk (Vr))] []
def Aqo(k:Nat)(x:HV [.int .u64]):Option (HV [.sl .byte true]):=match x with
 |n =>
 Aj (λrec=>Vr rec (λe vz=>match vz with|(v2,v3)=>match e with
  |.exit 0 =>
  chk (decide (v3.length+1<=Ah)) (
   some (v3++[(UInt8.ofNat ((wr .u8 v2):Int).toNat)]))
  |_=>none)) k (n,[])
theorem Bjg(k:Nat):FO 94 [.int .u64] [.sl .byte true] (Aqo k):=fR (px:=A7t _ k) (n:=1) Tryz.func94 rfl (λcx H=>by have h0:Lv cx (A7t (HV [.sl .byte true]) k):=lv H Ae Aa Ab;have hlvput_0:=lO H h0 (b:=lp Tryz.f94 0) (k:=k) (n:=0) (s:=Apk) (step:=Vr) (λ_ _ _ (_,_)=>by kernel_rfl) Ai;exact⟨h0,(A6 Ai hlvput_0)⟩) λ_=>by kernel_rfl
def Bd0(n:Int):Option Str:=Aqo 100 n
def Auy:FT [.int .u64] [.sl .byte true]:=λx=>Bd0 x
theorem Ar3:FO 94 [.int .u64] [.sl .byte true] Auy :=.fin 0 Bjg λ_ _ _ hx=>⟨100,hx⟩
def Bex(R:Type):Px R:=pxO [(94,cA Auy)] [] [] []
def Wq(x:HV [.sl .byte false]):Option (HV [.sl .byte true]):=match x with
 |s =>
 (Bd0 (wr .u64 (s.length:Int))).bind λx =>
  chk (decide (x.length+s.length<=Ah)) (
  some (x++s))
theorem Bbh:FO 96 [.sl .byte false] [.sl .byte true] (Wq):=fR (px:=Bex _) (n:=0) Tryz.func96 rfl (λ_ H=>⟨lv H (c1 H Ar3 Ae) Aa Ab,Ai⟩) λ_=>by kernel_rfl
def A9a(s:Str):Option Str:=Wq s
def A61:FT [.sl .byte false] [.sl .byte true]:=λx=>A9a x
theorem Bke:FO 96 [.sl .byte false] [.sl .byte true] A61 :=.fin0 Bbh λ_ _ _ hx=>hx
def Bji(R:Type):Px R:=pxO [(89,cA Ar5),(53,cA Tb),(90,cA Aso),(91,cA A8k)] [] [] []
def W9(x:HV [.sv .expr,.sl .col false,.sl .val false]):Option (HV [.sv .val,.int .i64]):=match x with
 |(e,cols,row) =>
 cond (!decide ((Il e)=0)) (
  some ((Val.mk 0 0 []),2)) (
  cond (!(Fu cols row)) (
  some ((Val.mk 0 0 []),2)) (
  cond (!decide ((Bl e cols).2=0)) (
   some ((Val.mk 0 0 []),(Bl e cols).2)) (
   (Qi e cols row).bind λ(x,x1) =>
   some (x,x1))))
theorem Bcj:FO 55 [.sv .expr,.sl .col false,.sl .val false] [.sv .val,.int .i64] (W9):=fR (px:=Bji _) (n:=0) Tryz.func55 rfl (λ_ H=>⟨lv H (c1 H Aw2 (c1 H Aj9 (c1 H Ax5 (c1 H Bgv Ae)))) Aa Ab,Ai⟩) λ(_,_,_)=>by kernel_rfl
def A51(e:Xpr)(cols:List Col)(row:List Val):Option (Val×Int):=W9 (e,cols,row)
def A81:FT [.sv .expr,.sl .col false,.sl .val false] [.sv .val,.int .i64]:=λx=>A51 x.1 x.2.1 x.2.2
theorem Bkx:FO 55 [.sv .expr,.sl .col false,.sl .val false] [.sv .val,.int .i64] A81 :=.fin0 Bcj λ_ _ _ hx=>hx
def Ald:Sig:=⟨73,[(1,.sl .val false),(4,.int .i64),(49,.sl .expr false),(50,.int .i64),(51,.int .i64)],[(2,.ptr 0 0)],[(0,.one (.sv .tbl))],1,0,0,[],[]⟩
abbrev Tt:=List Val×Int×List Xpr×Int×Int×Tbl
def Ur{R:Type}(rec:Tt->Option R)(kx:Ex->Tt->Option R)(v:Tt):Option R:=match v with
 |(c,e,b,d,a,w2) =>
 cond (decide (a<d)) (
  chk (inb a b.length) (
  (A51 (at' .expr b a) w2.cols c).bind λ(x1,x2) =>
   cond (!decide (x2=0)) (
   kx .ret (c,x2,b,d,a,w2)) (
   cond (decide ((Gu x1 (Val.mk 2 0 []))=0)) (
    kx .ret (c,162,b,d,a,w2)) (
    rec (c,e,b,d,(wr .i64 (a+1)),w2))))) (
  kx (.exit 2) (c,e,b,d,a,w2))
def Alj:Sig:=⟨19,[(0,.sl .str false),(1,.str),(4,.int .i64),(7,.int .i64),(8,.int .i64)],[],[(0,.one (.sv .tbl))],80,80,400,[],[]⟩
abbrev Up:=List Str×Str×Int×Int×Int×Tbl
def S6{R:Type}(rec:Up->Option R)(kx:Ex->Up->Option R)(v:Up):Option R:=match v with
 |(v5,v6,v7,v8,v9,w1) =>
 cond (decide (v9<v8)) (
  chk (inb v9 v5.length) (
  cond (decide (v6=(at' .str v5 v9))) (
   kx .ret (v5,v6,v9,v8,v9,w1)) (
   rec (v5,v6,v7,v8,(wr .i64 (v9+1)),w1)))) (
  kx (.exit 0) (v5,v6,v7,v8,v9,w1))
def Amd:Sig:=⟨73,[(1,.sl .val false),(4,.int .i64),(23,.sl .col false),(24,.int .i64),(25,.int .i64)],[(2,.ptr 0 0)],[(0,.one (.sv .tbl))],1,0,0,[],[]⟩
abbrev Sv:=List Val×Int×List Col×Int×Int×Tbl
def T7{R:Type}(k:Nat)(rec:Sv->Option R)(kx:Ex->Sv->Option R)(v:Sv):Option R:=match v with
 |(v,v1,v2,v3,v4,w) =>
 cond (decide (v4<v3)) (
  chk (inb v4 v2.length) (
  chk (inb v4 v.length) (
   cond (decide ((at' .val v v4).kind=1)) (
   cond ((at' .col v2 v4).notNull) (
    kx .ret (v,161,v2,v3,v4,w)) (
    Aj (λrc=>S6 rc (λe vz=>match vz with|(_,_,b,_,_,a)=>match e with
    |.ret =>
     cond (decide (0<=b)) (
     kx .ret (v,161,v2,v3,v4,a)) (
     rec (v,v1,v2,v3,(wr .i64 (v4+1)),a))
    |.exit 0 =>rec (v,v1,v2,v3,(wr .i64 (v4+1)),a)
    |_=>none)) k (w.key,(at' .col v2 v4).name,0,(w.key.length:Int),0,w))) (
   rec (v,v1,v2,v3,(wr .i64 (v4+1)),w))))) (
  kx (.exit 0) (v,v1,v2,v3,v4,w))
def Z3(R:Type)(k:Nat):Px R:=pxO [] [] [(2,Am k Alj (S6))] []
noncomputable def Ajm(R:Type)(k:Nat):Px R:=pxO [(88,A1 80 400 (Z3 R k) Tryz.f88)] [] [] []
noncomputable def Axm(R:Type)(k:Nat):Px R:=pxO [(52,cA X5),(53,cA Tb),(55,cA A81),(56,cA A37),(54,A1 40 200 (Ajm R k) Tryz.f54)] [] [(7,Am k Amd (T7 k)),(13,Am k Ald (Ur))] []
def H1(k:Nat)(x:HV [.sv .tbl,.sl .val false]):Option (HV [.int .i64]):=match x with
 |(t,row) =>
 (Ji t).bind λx =>
  cond (!decide (x=0)) (
  some x) (
  cond (!(Fu t.cols row)) (
   some 151) (
   Aj (λrec=>T7 k rec (λe vz=>match vz with|(c,b,_,_,_,a)=>match e with
   |.ret =>some b
   |.exit 0 =>
    Aj (λrec=>Ur rec (λe vz=>match vz with|(_,d,_,_,_,_)=>match e with
    |.ret =>some d
    |.exit 2 =>some 0
    |_=>none)) k (c,b,a.checks,(a.checks.length:Int),0,a)
   |_=>none)) k (row,0,t.cols,(t.cols.length:Int),0,t)))
theorem Bbj(k:Nat):FO 25 [.sv .tbl,.sl .val false] [.int .i64] (H1 k):=fR (px:=Axm _ k) (n:=2) Tryz.func25 rfl (λcx H=>by have h2:Lv cx (Z3 (HV [.int .i64]) k):=lv H Ae Aa Ab;have hlsfits_1:=lO H h2 (b:=lp Tryz.f88 0) (k:=k) (n:=0) (s:=Alj) (step:=S6) (λ_ _ _ (_,_,_,_,_,_)=>by kernel_rfl) Ai;have h1:Lv cx (Ajm (HV [.int .i64]) k):=lv H (Ao (cR H h2 Tryz.func88 rfl (n:=1) ((A6 Ai hlsfits_1))) Ae) Aa Ab;have h0:Lv cx (Axm (HV [.int .i64]) k):=lv H (c1 H Ant (c1 H Aj9 (c1 H Bkx (c1 H A7l (Ao (cR H h1 Tryz.func54 rfl (n:=0) (Ai)) Ae))))) Aa Ab;have hlsfits_0:=lO H h0 (b:=lp Tryz.f25 0) (k:=k) (n:=0) (s:=Amd) (step:=T7 k) (λ_ _ _ (_,_,_,_,_,_)=>by kernel_rfl) Ai;have hlsfits_2:=lO H h0 (b:=lp Tryz.f25 1) (k:=k) (n:=0) (s:=Ald) (step:=Ur) (λ_ _ _ (_,_,_,_,_,_)=>by kernel_rfl) Ai;exact⟨h0,(A6 (A6 Ai hlsfits_0) hlsfits_2)⟩) λ(_,_)=>by kernel_rfl
def O9(t:Tbl)(row:List Val):Option Int:=H1 5000 (t,row)
def Ar0:FT [.sv .tbl,.sl .val false] [.int .i64]:=λx=>O9 x.1 x.2
theorem A0k:FO 25 [.sv .tbl,.sl .val false] [.int .i64] Ar0 :=.fin 0 Bbj λ_ _ _ hx=>⟨5000,hx⟩
def Cq:Nat->Nat->Str
 |0,n=>[UInt8.ofNat n]
 |k+1,n=>if n<128 then [UInt8.ofNat n] else UInt8.ofNat (n % 128+128)::Cq k (n / 128)
theorem Ff:∀k n,1<=(Cq k n).length/\(Cq k n).length<=k+1
 |0,n=>by simp[Cq]
 |k+1,n=>by
  have:=Ff k (n / 128);simp[Cq]
  grind
theorem Bpi:∀m:Nat,m<256->UInt8.ofNat (ior .u8 ((m:Nat):Int) 128).toNat=UInt8.ofNat (m % 128+128):=by decide +kernel
theorem Bis(n:Nat):wr .u8 (n:Int)=((n % 256:Nat):Int):=by simp[wr,IntKind.wrap,IntKind.bits,IntKind.signed]
theorem Adj{n:Nat}(h:n<18446744073709551616):wr .u64 (n:Int)=(n:Int):=by simp[wr,IntKind.wrap,IntKind.bits,IntKind.signed];omega
theorem Bw1(n:Nat):D5 .u64 (n:Int) 7=((n / 128:Nat):Int):=by
 simp only[D5];rw[show(2 ^ min (7:Int).toNat IntKind.u64.bits:Int)=128 from by decide]
 grind
theorem Acy{kx:Ex->X6->Option Str}(hx:∀n acc,kx (.exit 0) (n,acc)=chk (decide (acc.length+1<=Ah)) (some (acc++[UInt8.ofNat (wr .u8 n).toNat]))):∀(k m n:Nat) (acc:Str),n<128 ^ (k+1)->k<m->acc.length+k<=1000->Aj (λrec=>Vr rec kx) m ((n:Int),acc)=some (acc++Cq k n)
 |k,0,_,_,_,h,_=>by omega
 |k,m+1,n,acc,hn,hm,ha=>by
  have c1:decide (acc.length+1<=Ah)=true:=Ze1 (by simp[Ah];omega);have low:n<128->Aj (λrec=>Vr rec kx) (m+1) ((n:Int),acc)=some (acc++[UInt8.ofNat n]):=λh=>by simp only[Aj,Vr,Zd1 (show ¬(128:Int)<=(n:Int) by omega),Ag,hx,c1,chk,Af,Bis,Int.toNat_natCast];rw[Nat.mod_eq_of_lt (by omega)]
  cases k with
  |zero=>exact low (by simpa using hn)
  |succ k =>
   simp only[Cq];split
   ·rename_i h;exact low h
   ·rename_i h;have ih:=Acy hx k m (n / 128) (acc++[UInt8.ofNat (n % 128+128)]) (Nat.div_lt_of_lt_mul (by rw[Nat.pow_succ] at hn;omega)) (by omega) (by simp[ Zi1];omega);have e:UInt8.ofNat (ior .u8 (wr .u8 (n:Int)) 128).toNat=UInt8.ofNat (n % 128+128):=by rw[Bis,Bpi _ (Nat.mod_lt _ (by omega))];congr 1;omega
    simp only[Aj,Vr,Ze1 (show(128:Int)<=(n:Int) by omega),c1,e,Bw1];rw[<-List.append_cons] at ih;exact ih
theorem Bqf{n:Nat}(h:n<128 ^ 6):Bd0 (n:Int)=some (Cq 5 n):=by
 have:=Acy (kx:=λe vz=>match vz with|(v2,v3)=>match e with
  |.exit 0=>chk (decide (v3.length+1<=Ah)) (some (v3++[UInt8.ofNat (wr .u8 v2).toNat]))
  |_=>none) (λ_ _=>rfl) 5 100 n [] h (by omega) (by simp)
 exact this
theorem Axl{s:Str}(h:s.length<=274877906900):A9a s=some (Cq 5 s.length++s):=by have e:wr .u64 (s.length:Int)=(s.length:Int):=Adj (by omega);have:=Ff 5 s.length;simp[A9a,Wq,e,Bqf (show s.length<128 ^ 6 by omega)];rw[Ze1 (by simp[Ah];omega)];rfl
noncomputable section
end
theorem Lu:∀k n,n<128 ^ (k+1)->Cq (k+1) n=Cq k n
 |0,n,h=>by simp[Cq];omega
 |k+1,n,h=>by rw[Cq,Lu k (n / 128) (Nat.div_lt_of_lt_mul (by rw[Nat.pow_succ] at h;omega))];rfl
theorem A2j{n:Nat}(h:n<128 ^ 6):Cq 9 n=Cq 5 n:=by rw[Lu 8 n (by omega),Lu 7 n (by omega),Lu 6 n (by omega),Lu 5 n h]
theorem Bhe{n:Nat}(h:n<18446744073709551616):Bd0 (n:Int)=some (Cq 9 n):=by
 have:=Acy (kx:=λe vz=>match vz with|(v2,v3)=>match e with
  |.exit 0=>chk (decide (v3.length+1<=Ah)) (some (v3++[UInt8.ofNat (wr .u8 v2).toNat]))
  |_=>none) (λ_ _=>rfl) 9 100 n [] (by omega) (by omega) (by simp)
 exact this
noncomputable section
end
theorem Ag8{v:Val}:Eg v=0↔Aq v=true:=by simp[Eg];cases Aq v<;>simp
def Bhx(R:Type):Px R:=pxO [(94,cA Auy)] [] [] []
def V3(x:HV [.int .i64]):Option (HV [.sl .byte true]):=match x with
 |n =>
 (Bd0 (Xh .u64 (Afp .u64 (wr .u64 n) 1) (wr .u64 (D5 .i64 n 63)))).bind λx =>some x
theorem A9v:FO 95 [.int .i64] [.sl .byte true] (V3):=fR (px:=Bhx _) (n:=0) Tryz.func95 rfl (λ_ H=>⟨lv H (c1 H Ar3 Ae) Aa Ab,Ai⟩) λ_=>by kernel_rfl
def A7v(n:Int):Option Str:=V3 n
def A5q:FT [.int .i64] [.sl .byte true]:=λx=>A7v x
theorem Bik:FO 95 [.int .i64] [.sl .byte true] A5q :=.fin0 A9v λ_ _ _ hx=>hx
def Aqi:Sig:=⟨60,[(0,.sl .val false),(2,.sl .byte true),(3,.int .i64),(4,.sl .byte true),(12,.sl .val false),(13,.int .i64),(14,.int .i64)],[],[],0,0,0,[],[]⟩
abbrev Mf:=List Val×List UInt8×Int×List UInt8×List Val×Int×Int
def Qx{R:Type}(rec:Mf->Option R)(kx:Ex->Mf->Option R)(v:Mf):Option R:=match v with
 |(v,v1,v2,v3,v4,v5,v6) =>
 cond (decide (v6<v5)) (
  chk (inb v6 v4.length) (
  cond (!decide ((Eg (at' .val v4 v6))=0)) (
   kx .ret (v,[],(Eg (at' .val v4 v6)),v3,v4,v5,v6)) (
   chk (decide (v3.length+1<=Ah)) (
   cond (decide ((at' .val v4 v6).kind=2)) (
    chk (decide ((v3++[(UInt8.ofNat ((wr .u8 ((at' .val v4 v6).kind)):Int).toNat)]).length+1<=Ah)) (
    rec (v,v1,v2,((v3++[(UInt8.ofNat ((wr .u8 ((at' .val v4 v6).kind)):Int).toNat)])++[(UInt8.ofNat ((wr .u8 ((at' .val v4 v6).n)):Int).toNat)]),v4,v5,(wr .i64 (v6+1))))) (
    cond (decide ((at' .val v4 v6).kind=3)) (
    (A7v ((at' .val v4 v6).n)).bind λx1 =>
     chk (decide ((v3++[(UInt8.ofNat ((wr .u8 ((at' .val v4 v6).kind)):Int).toNat)]).length+x1.length<=Ah)) (
     rec (v,v1,v2,((v3++[(UInt8.ofNat ((wr .u8 ((at' .val v4 v6).kind)):Int).toNat)])++x1),v4,v5,(wr .i64 (v6+1))))) (
    let j:=λ(p:Bool) =>
     cond (p) (
     chk (decide (((at' .val v4 v6).s).length<=Ah)) (
      (A9a ((at' .val v4 v6).s)).bind λx2 =>
      chk (decide ((v3++[(UInt8.ofNat ((wr .u8 ((at' .val v4 v6).kind)):Int).toNat)]).length+x2.length<=Ah)) (
       rec (v,v1,v2,((v3++[(UInt8.ofNat ((wr .u8 ((at' .val v4 v6).kind)):Int).toNat)])++x2),v4,v5,(wr .i64 (v6+1)))))) (
     rec (v,v1,v2,(v3++[(UInt8.ofNat ((wr .u8 ((at' .val v4 v6).kind)):Int).toNat)]),v4,v5,(wr .i64 (v6+1))))
    cond (decide ((at' .val v4 v6).kind=4)) (
     j (decide ((at' .val v4 v6).kind=4))) (
     j (decide ((at' .val v4 v6).kind=5))))))))) (
  kx (.exit 0) (v,v1,v2,v3,v4,v5,v6))
def A9e(R:Type)(k:Nat):Px R:=pxO [(94,cA Auy),(80,cA Qs),(95,cA A5q),(96,cA A61)] [] [(3,Am k Aqi (Qx))] []
def Abm(k:Nat)(x:HV [.sl .val false]):Option (HV [.sl .byte true,.int .i64]):=match x with
 |l =>
 (Bd0 (wr .u64 (l.length:Int))).bind λx =>
  Aj (λrec=>Qx rec (λe vz=>match vz with|(v7,v8,v9,a,_,_,_)=>match e with
  |.ret =>some (v8,v9)
  |.exit 0 =>
   cond (decide (100<(v7.length:Int))) (
   some ([],3)) (
   some (a,0))
  |_=>none)) k (l,[],0,x,l,(l.length:Int),0)
theorem Bmj(k:Nat):FO 58 [.sl .val false] [.sl .byte true,.int .i64] (Abm k):=fR (px:=A9e _ k) (n:=1) Tryz.func58 rfl (λcx H=>by have h0:Lv cx (A9e (HV [.sl .byte true,.int .i64]) k):=lv H (c1 H Ar3 (c1 H Ud (c1 H Bik (c1 H Bke Ae)))) Aa Ab;have hlwenc_0:=lO H h0 (b:=lp Tryz.f58 0) (k:=k) (n:=0) (s:=Aqi) (step:=Qx) (λ_ _ _ (_,_,_,_,_,_,_)=>by kernel_rfl) Ai;exact⟨h0,(A6 Ai hlwenc_0)⟩) λ_=>by kernel_rfl
def Ax3(l:List Val):Option (Str×Int):=Abm 5000 l
def Bfp:FT [.sl .val false] [.sl .byte true,.int .i64]:=λx=>Ax3 x
theorem Bro:FO 58 [.sl .val false] [.sl .byte true,.int .i64] Bfp :=.fin 0 Bmj λ_ _ _ hx=>⟨5000,hx⟩
noncomputable section
end
def zz(n:Int):Nat:=if n<0 then(-2*n-1).toNat else(2*n).toNat
theorem Bj9{n:Int}(h:inI n=true):zz n<18446744073709551616:=by simp[inI] at h;simp only[zz];split<;>omega
theorem wrU(n:Int):wr .u64 n=n % 18446744073709551616:=by simp[wr,IntKind.wrap,IntKind.bits,IntKind.signed]
theorem Bv8(k:IntKind)(x:Int):Xh k x 0=k.wrap ((BitVec.ofInt k.bits x).toNat:Int):=by simp[Xh,Ajo]
theorem Bwz{x:Int}(h : 0<=x/\x<18446744073709551616):Xh .u64 x 18446744073709551615=18446744073709551615-x:=by show wr .u64 (((BitVec.ofInt 64 x ^^^ BitVec.ofInt 64 18446744073709551615).toNat:Nat):Int)=_;rw[show BitVec.ofInt 64 18446744073709551615=BitVec.allOnes 64 by decide,BitVec.xor_allOnes,BitVec.toNat_not,BitVec.toNat_ofInt,wrU];omega
theorem Bs5{n:Int}(h:inI n=true):Xh .u64 (Afp .u64 (wr .u64 n) 1) (wr .u64 (D5 .i64 n 63))=(zz n:Int):=by
 simp[inI] at h;have e1:Afp .u64 (wr .u64 n) 1=(wr .u64 n*2) % 18446744073709551616:=by rw[<-wrU];rfl
 have e2:D5 .i64 n 63=n.fdiv 9223372036854775808:=rfl;rw[e1,e2,wrU,wrU];by_cases hn:n<0
 ·have e3:n.fdiv 9223372036854775808 = -1:=by rw[Int.fdiv_eq_ediv_of_nonneg _ (by omega)];omega
  rw[e3,show(-1:Int) % 18446744073709551616=18446744073709551615 by decide,Bwz (by omega)];simp only[zz,if_pos hn];omega
 ·have e3:n.fdiv 9223372036854775808=0:=by rw[Int.fdiv_eq_ediv_of_nonneg _ (by omega)];omega
  rw[e3,show(0:Int) % 18446744073709551616=0 by decide,Bv8];show wr .u64 (((BitVec.ofInt 64 _).toNat:Nat):Int)=_;rw[BitVec.toNat_ofInt,wrU];simp only[zz,if_neg hn];omega
theorem Bm7{n:Int}(h:inI n=true):A7v n=some (Cq 9 (zz n)):=by simp only[A7v,V3,Bs5 h,Bhe (Bj9 h)];rfl
theorem Je{v:Val}(h:Aq v=true)(hk:v.kind=4\/v.kind=5):v.s.length<=1000:=by rcases hk with hk|hk<;>simp[Aq,hk] at h<;>grind
theorem Afe{v:Val}(h:Aq v=true):v.kind=1\/v.kind=2\/v.kind=3\/v.kind=4\/v.kind=5:=by
 by_cases h1:v.kind=1; · exact .inl h1
 by_cases h2:v.kind=2; · exact .inr (.inl h2)
 by_cases h3:v.kind=3; · exact .inr (.inr (.inl h3))
 by_cases h4:v.kind=4; · exact .inr (.inr (.inr (.inl h4)))
 by_cases h5:v.kind=5; · exact .inr (.inr (.inr (.inr h5)))
 simp[Aq,h1,h2,h3,h4,h5] at h
def b8(n:Int):UInt8:=UInt8.ofNat (wr .u8 n).toNat
def Nt(v:Val):Str:=b8 v.kind::(if v.kind=2 then [b8 v.n] else if v.kind=3 then Cq 9 (zz v.n) else if v.kind=4\/v.kind=5 then Cq 5 v.s.length++v.s else [])
theorem A00{v:Val}(h:Aq v=true):(Nt v).length<=1020:=by
 have h1:=Ff 9 (zz v.n);have h2:=Ff 5 v.s.length;simp only[Nt,Zf1];split
 ·simp
 ·split
  ·omega
  ·split
   ·have:=Je h (by assumption);rw[Zh1];omega
   ·simp
def Kk(l:List Val):Str:=(l.map Nt).flatten
def Hf(l:List Val):Str×Int:=cond (l.all λv=>Aq v) (cond (decide (100<(l.length:Int))) ([],3) (Cq 9 l.length++Kk l,0)) ([],2)
theorem vch(v:Val):Eg v=cond (!Aq v) 2 0:=rfl
theorem Bd9{l:List Val}{i:Nat}{acc:Str}{a:Str}{b:Int}{kx:Ex->Mf->Option (Str×Int)}(rec:Mf->Option (Str×Int))(hi:i<l.length)(hl:ln l.length)(hn:inI l[i].n=true)(ha:acc.length<=200000000000) :
  Qx rec kx (l,a,b,acc,l,(l.length:Int),(i:Int))=cond (Aq l[i]) (rec (l,a,b,acc++Nt l[i],l,(l.length:Int),((i+1:Nat):Int))) (kx .ret (l,[],2,acc,l,(l.length:Int),(i:Int))):=by
 simp only[Qx,Ea hi,Af,As hi,chk,Al (c :=.val) hi,An hi hl,vch];cases hv:Aq l[i] with
 |false=>rfl
 |true =>
  have d1:decide (acc.length+1<=Ah)=true:=Ze1 (by simp[Ah];omega);have d2:∀x:Str,x.length<=2000->decide ((acc++[b8 l[i].kind]).length+x.length<=Ah)=true:=λx hx=>Ze1 (by simp[Ah];omega);rcases Afe hv with hk|hk|hk|hk|hk
  ·simp[Nt,hk,d1,b8]
  ·have d3:=d2 [b8 l[i].n] (by simp);simp[b8,hk] at d3;simp[Nt,hk,d1,b8,d3]
  ·have d3:=d2 (Cq 9 (zz l[i].n)) (by have:=Ff 9 (zz l[i].n);omega);simp[b8,hk] at d3;simp[Nt,hk,d1,b8,Bm7 hn,d3]
  ·have hs:=Je hv (.inl hk);have d3:=d2 (Cq 5 l[i].s.length++l[i].s) (by have:=Ff 5 l[i].s.length;simp;omega);simp[b8,hk] at d3;simp[Nt,hk,d1,b8,Axl (show l[i].s.length<=274877906900 by omega),d3,show l[i].s.length<=Ah by simp[Ah];omega]
  ·have hs:=Je hv (.inr hk);have d3:=d2 (Cq 5 l[i].s.length++l[i].s) (by have:=Ff 5 l[i].s.length;simp;omega);simp[b8,hk] at d3;simp[Nt,hk,d1,b8,Axl (show l[i].s.length<=274877906900 by omega),d3,show l[i].s.length<=Ah by simp[Ah];omega]
theorem W2(v:Val)(l:List Val):Kk (v::l)=Nt v++Kk l:=by simp[Kk]
theorem Aqs:∀{l:List Val},(l.all λv=>Aq v)=true->(Kk l).length<=1020*l.length
 |[],_=>by simp[Kk]
 |v::l,h=>by simp only[Zv1,Zb1] at h;have h1:=A00 h.1;have h2:=Aqs h.2;rw[W2,Zh1,Zf1];omega
theorem Aoo{l:List Val}{kx:Ex->Mf->Option (Str×Int)}(hl:l.length<=4000)(hn:∀v,v∈l->inI v.n=true):∀(k i:Nat) (acc:Str),i<=l.length->l.length-i<k->acc.length+1020*(l.length-i)<=200000000000 ->
  ((l.drop i).all (λv=>Aq v)=true->Aj (λrec=>Qx rec kx) k (l,[],0,acc,l,(l.length:Int),(i:Int))=kx (.exit 0) (l,[],0,acc++Kk (l.drop i),l,(l.length:Int),(l.length:Int))) /\
  ((l.drop i).all (λv=>Aq v)=false->∃acc' j,Aj (λrec=>Qx rec kx) k (l,[],0,acc,l,(l.length:Int),(i:Int))=kx .ret (l,[],2,acc',l,(l.length:Int),j))
 |0,_,_,_,h,_=>by omega
 |k+1,i,acc,hi,hk,ha=>by
  have hln:ln l.length:=by simp[ln];omega
  rw[Ay];by_cases h:i<l.length
  ·have hv:l[i]∈l:=List.getElem_mem h;rw[Bd9 _ h hln (hn _ hv) (by omega),List.drop_eq_getElem_cons h,Zv1];cases hr:Aq l[i] with|false =>refine⟨λe=>by simp at e,λ_=>⟨_,_,rfl⟩⟩|true =>have hlen:=A00 hr;rw[Af,Bool.true_and,W2,<-Zj1];exact Aoo hl hn k (i+1) (acc++Nt l[i]) h (by omega) (by rw[Zh1];omega)
  ·have:i=l.length:=by omega
   subst this;refine⟨λ_ =>?_,λe=>by simp at e⟩;simp only[Qx,Ee,Ag];simp[Kk]
theorem A8d{l:List Val}(hl:l.length<=4000)(hn:∀v,v∈l->inI v.n=true):Ax3 l=some (Hf l):=by
 have h9:=Ff 9 l.length;obtain⟨h1,h2⟩:=Aoo (l:=l) (kx:=λe vz=>match vz with|(v7,v8,v9,a,_,_,_)=>match e with
  |.ret=>some (v8,v9)
  |.exit 0=>cond (decide (100<(v7.length:Int))) (some ([],3)) (some (a,0))
  |_=>none) hl hn 5000 0 (Cq 9 l.length) (by omega) (by omega) (by omega)
 have e:wr .u64 (l.length:Int)=(l.length:Int):=Adj (by omega);simp only[Ax3,Abm,e,Bhe (show l.length<18446744073709551616 by omega),Zc1,Hf];rw[Zq1] at h1 h2;cases h:l.all (λv=>Aq v) with|true =>refine(h1 h).trans ?_;show cond (decide (100<(l.length:Int))) (some (([]:Str),(3:Int))) (some (Cq 9 l.length++Kk l,0))=_;cases decide (100<(l.length:Int))<;>rfl|false =>obtain⟨_,_,h3⟩:=h2 h;exact h3
end Go.Proofs.YtcoaaebppfbbnaaGreatDoor
namespace Go.Proofs.YtcoaaebppfbbnaaGreatDoor
open Go.Sx Go.RowKit
theorem Bsm:ElTy Tryz.prog 43 5 1 1:=elTy_of (by kernel_rfl)
set_option maxRecDepth 20000 in
theorem Atr(a:Option Addr)(n c:Nat)(xs:List Value)(h1:xs.all one=true)(hbig:n<=2000000):Con Tryz.prog 151 [.slice a n c] [] (RdS (.slice a n c) 1 n xs) (C5 5 1 n xs):=by
 refine Bh Tryz.func151 Tryz.ntmps151 rfl (by kernel_rfl) rfl λw M =>?_
 repeat' (first|(refine E3 ?_;(first|refine B4 ?_|(apply Au rfl rfl;(first|exact p_move rfl|exact p_assign rfl))|(apply Au rfl rfl;exact H6 1 (by dsimp only;decide +kernel) rfl rfl)|(refine F7 rfl rfl Bsm rfl rfl rfl rfl ?_;intro b)))|(refine E5 ?_;(first|refine D3 ?_|refine Bb ?_|refine Eh ?_|(refine Ek rfl ?_ ?_<;>intro hc<;>try contradiction)|refine B1 rfl rfl ?_))|(refine E0 ?_;(first|refine B5 ?_))|fail)
 ·exact Hq (Nq (by assumption)) rfl
 ·refine J2 1 ?_;refine Jn 0 rfl rfl Bsm rfl rfl rfl (Jo (λw h=>h)) h1 (by omega) (by omega) ?_;intro v'
  repeat' (first|(refine E3 ?_;(first|refine B4 ?_|(apply Au rfl rfl;(first|exact p_assign rfl))))|(refine E5 ?_;(first|refine B1 rfl rfl ?_))|(refine E0 ?_;(first|refine B5 ?_))|fail)
  refine Bv ?_;simp[C5]
theorem Bsr:ElTy Tryz.prog 43 5 1 1:=elTy_of (by kernel_rfl)
set_option maxRecDepth 20000 in
theorem Asy(a:Option Addr)(n c:Nat)(xs:List Value)(h1:xs.all one=true)(hbig:n<=2000000):Con Tryz.prog 69 [.slice a n c] [] (RdS (.slice a n c) 1 n xs) (C5 5 1 n xs):=by
 refine Bh Tryz.func69 Tryz.ntmps69 rfl (by kernel_rfl) rfl λw M =>?_
 repeat' (first|(refine E3 ?_;(first|refine B4 ?_|(apply Au rfl rfl;(first|exact p_move rfl|exact p_assign rfl))|(apply Au rfl rfl;exact H6 1 (by dsimp only;decide +kernel) rfl rfl)|(refine F7 rfl rfl Bsr rfl rfl rfl rfl ?_;intro b)))|(refine E5 ?_;(first|refine D3 ?_|refine Bb ?_|refine Eh ?_|(refine Ek rfl ?_ ?_<;>intro hc<;>try contradiction)|refine B1 rfl rfl ?_))|(refine E0 ?_;(first|refine B5 ?_))|fail)
 ·exact Hq (Nq (by assumption)) rfl
 ·refine J2 1 ?_;refine Jn 0 rfl rfl Bsr rfl rfl rfl (Jo (λw h=>h)) h1 (by omega) (by omega) ?_;intro v'
  repeat' (first|(refine E3 ?_;(first|refine B4 ?_|(apply Au rfl rfl;(first|exact p_assign rfl))))|(refine E5 ?_;(first|refine B1 rfl rfl ?_))|(refine E0 ?_;(first|refine B5 ?_))|fail)
  refine Bv ?_;simp[C5]
theorem A67:ElTy Tryz.prog 44 46 6 112:=elTy_of (by kernel_rfl)
set_option maxRecDepth 20000 in
theorem Ash(a:Option Addr)(n c:Nat)(xs:List Value)(h1:xs.all one=true)(hbig:n<=2000000):Con Tryz.prog 157 [.slice a n c] [] (RdS (.slice a n c) 6 n xs) (C5 46 6 n xs):=by
 refine Bh Tryz.func157 Tryz.ntmps157 rfl (by kernel_rfl) rfl λw M =>?_
 repeat' (first|(refine E3 ?_;(first|refine B4 ?_|(apply Au rfl rfl;(first|exact p_move rfl|exact p_assign rfl))|(apply Au rfl rfl;exact H6 6 (by dsimp only;decide +kernel) rfl rfl)|(refine F7 rfl rfl A67 rfl rfl rfl rfl ?_;intro b)))|(refine E5 ?_;(first|refine D3 ?_|refine Bb ?_|refine Eh ?_|(refine Ek rfl ?_ ?_<;>intro hc<;>try contradiction)|refine B1 rfl rfl ?_))|(refine E0 ?_;(first|refine B5 ?_))|fail)
 ·exact Hq (Nq (by assumption)) rfl
 ·refine J2 6 ?_;refine Jn 0 rfl rfl A67 rfl rfl rfl (Jo (λw h=>h)) h1 (by omega) (by omega) ?_;intro v'
  repeat' (first|(refine E3 ?_;(first|refine B4 ?_|(apply Au rfl rfl;(first|exact p_assign rfl))))|(refine E5 ?_;(first|refine B1 rfl rfl ?_))|(refine E0 ?_;(first|refine B5 ?_))|fail)
  refine Bv ?_;simp[C5]
set_option maxRecDepth 20000 in
theorem Amk(a:Option Addr)(c:Nat):Con Tryz.prog 157 [.slice a 0 c] [] (λ_=>True) (λv _ _=>∃a',v = .slice a' 0 0):=by
 refine Bh Tryz.func157 Tryz.ntmps157 rfl (by kernel_rfl) rfl λw M =>?_
 repeat' (first|(refine E3 ?_;(first|refine B4 ?_|(apply Au rfl rfl;(first|exact p_move rfl|exact p_assign rfl))|(apply Au rfl rfl;exact H6 6 (by dsimp only;decide +kernel) rfl rfl)|(refine F7 rfl rfl A67 rfl rfl rfl rfl ?_;intro b)|(apply Au rfl rfl;exact Ab0 A67 rfl rfl)))|(refine E5 ?_;(first|refine D3 ?_|refine Bb ?_|refine Eh ?_|(refine Ek rfl ?_ ?_<;>intro hc<;>try contradiction)|refine B1 rfl rfl ?_))|(refine E0 ?_;(first|refine B5 ?_))|fail)
 ·exact Bv ⟨_,rfl⟩
 ·exact Bv ⟨_,rfl⟩
theorem Bs6:ElTy Tryz.prog 43 5 1 1:=elTy_of (by kernel_rfl)
set_option maxRecDepth 20000 in
theorem Ay6(n:Int)(h0 : 0<n)(hbig:n<=2000000):Con Tryz.prog 199 [.slice none 0 0,.int .i64 n] [] (λ_=>True) (λv L _=>∃b q cs,v = .slice (some ⟨b,0,none⟩) 0 q/\q<=maxLen/\List.length cs=q*1/\L=[.blk b cs 5]):=by
 refine Bh Tryz.func199 Tryz.ntmps199 rfl (by kernel_rfl) rfl λw M =>?_
 repeat' (first|(refine E3 ?_;(first|refine B4 ?_|(apply Au rfl rfl;(first|exact p_move rfl|exact p_assign rfl|exact p_lensl (by dsimp only;decide +kernel) rfl|exact p_lss rfl rfl|exact p_gtr rfl rfl|exact Ka rfl rfl (by omega)))|(apply Au rfl rfl;exact Ah8 1 (by dsimp only;decide +kernel) rfl)|(apply Au rfl rfl;exact Ks 1 (by dsimp only;decide +kernel) rfl rfl (by omega))))|(refine E5 ?_;(first|refine D3 ?_|refine Bb ?_|refine Eh ?_|(refine Iq rfl ?_ ?_<;>intro hc<;>try (first|(exfalso;omega)))))|(refine E0 ?_;(first|refine B5 ?_))|fail)
 refine As9 (kn :=.i64) rfl rfl Bs6 (by dsimp only;decide +kernel) rfl rfl (by omega) (by simp only[maxLen];omega) (by omega) ?_;intro b' q cs hq1 hq2 hcs
 repeat' (first|(refine E3 ?_;(first|refine B4 ?_|(apply Au rfl rfl;(first|exact p_move rfl|exact p_assign rfl|exact p_lensl (by dsimp only;decide +kernel) rfl))|(apply Au rfl rfl;exact Ks 1 (by dsimp only;decide +kernel) rfl rfl (by omega))))|(refine E5 ?_;(first|refine D3 ?_|refine Bb ?_|refine B1 rfl rfl ?_))|(refine E0 ?_;(first|refine B5 ?_))|fail)
 exact Bv ⟨_,_,_,rfl,hq2,hcs,rfl⟩
set_option maxRecDepth 20000 in
theorem Asl:Con Tryz.prog 199 [.slice none 0 0,.int .i64 0] [] (λ_=>True) (λv _ _=>v = .slice none 0 0):=by
 refine Bh Tryz.func199 Tryz.ntmps199 rfl (by kernel_rfl) rfl λw M =>?_
 repeat' (first|(refine E3 ?_;(first|refine B4 ?_|(apply Au rfl rfl;(first|exact p_move rfl|exact p_assign rfl|exact p_lensl (by dsimp only;decide +kernel) rfl|exact p_lss rfl rfl|exact p_gtr rfl rfl|exact Ka rfl rfl (by omega)))|(apply Au rfl rfl;exact Ah8 1 (by dsimp only;decide +kernel) rfl)|(apply Au rfl rfl;exact Ks 1 (by dsimp only;decide +kernel) rfl rfl (by omega))))|(refine E5 ?_;(first|refine D3 ?_|refine Bb ?_|refine Eh ?_|refine B1 rfl rfl ?_|(refine Iq rfl ?_ ?_<;>intro hc<;>try (first|(exfalso;omega)))))|(refine E0 ?_;(first|refine B5 ?_))|fail)
 exact Bv rfl
theorem Ah9:Go.Ax.GrOk Tryz.prog 199 (elT .byte) (Go.Ax.csz .byte):=⟨Sx.enters_of Tryz.func199 rfl (by kernel_rfl),Ay6,Asl⟩
theorem Bua:ElTy Tryz.prog 28 56 3 32:=elTy_of (by kernel_rfl)
set_option maxRecDepth 20000 in
theorem Awi(n:Int)(h0 : 0<n)(hbig:n<=2000000):Con Tryz.prog 113 [.slice none 0 0,.int .i64 n] [] (λ_=>True) (λv L _=>∃b q cs,v = .slice (some ⟨b,0,none⟩) 0 q/\q<=maxLen/\List.length cs=q*3/\L=[.blk b cs 56]):=by
 refine Bh Tryz.func113 Tryz.ntmps113 rfl (by kernel_rfl) rfl λw M =>?_
 repeat' (first|(refine E3 ?_;(first|refine B4 ?_|(apply Au rfl rfl;(first|exact p_move rfl|exact p_assign rfl|exact p_lensl (by dsimp only;decide +kernel) rfl|exact p_lss rfl rfl|exact p_gtr rfl rfl|exact Ka rfl rfl (by omega)))|(apply Au rfl rfl;exact Ah8 3 (by dsimp only;decide +kernel) rfl)|(apply Au rfl rfl;exact Ks 3 (by dsimp only;decide +kernel) rfl rfl (by omega))))|(refine E5 ?_;(first|refine D3 ?_|refine Bb ?_|refine Eh ?_|(refine Iq rfl ?_ ?_<;>intro hc<;>try (first|(exfalso;omega)))))|(refine E0 ?_;(first|refine B5 ?_))|fail)
 refine As9 (kn :=.i64) rfl rfl Bua (by dsimp only;decide +kernel) rfl rfl (by omega) (by simp only[maxLen];omega) (by omega) ?_;intro b' q cs hq1 hq2 hcs
 repeat' (first|(refine E3 ?_;(first|refine B4 ?_|(apply Au rfl rfl;(first|exact p_move rfl|exact p_assign rfl|exact p_lensl (by dsimp only;decide +kernel) rfl))|(apply Au rfl rfl;exact Ks 3 (by dsimp only;decide +kernel) rfl rfl (by omega))))|(refine E5 ?_;(first|refine D3 ?_|refine Bb ?_|refine B1 rfl rfl ?_))|(refine E0 ?_;(first|refine B5 ?_))|fail)
 exact Bv ⟨_,_,_,rfl,hq2,hcs,rfl⟩
set_option maxRecDepth 20000 in
theorem At1:Con Tryz.prog 113 [.slice none 0 0,.int .i64 0] [] (λ_=>True) (λv _ _=>v = .slice none 0 0):=by
 refine Bh Tryz.func113 Tryz.ntmps113 rfl (by kernel_rfl) rfl λw M =>?_
 repeat' (first|(refine E3 ?_;(first|refine B4 ?_|(apply Au rfl rfl;(first|exact p_move rfl|exact p_assign rfl|exact p_lensl (by dsimp only;decide +kernel) rfl|exact p_lss rfl rfl|exact p_gtr rfl rfl|exact Ka rfl rfl (by omega)))|(apply Au rfl rfl;exact Ah8 3 (by dsimp only;decide +kernel) rfl)|(apply Au rfl rfl;exact Ks 3 (by dsimp only;decide +kernel) rfl rfl (by omega))))|(refine E5 ?_;(first|refine D3 ?_|refine Bb ?_|refine Eh ?_|refine B1 rfl rfl ?_|(refine Iq rfl ?_ ?_<;>intro hc<;>try (first|(exfalso;omega)))))|(refine E0 ?_;(first|refine B5 ?_))|fail)
 exact Bv rfl
theorem Aho:Go.Ax.GrOk Tryz.prog 113 (elT .val) (Go.Ax.csz .val):=⟨Sx.enters_of Tryz.func113 rfl (by kernel_rfl),Awi,At1⟩
theorem Bv1:ElTy Tryz.prog 32 80 2 48:=elTy_of (by kernel_rfl)
set_option maxRecDepth 20000 in
theorem A3h(n:Int)(h0 : 0<n)(hbig:n<=2000000):Con Tryz.prog 70 [.slice none 0 0,.int .i64 n] [] (λ_=>True) (λv L _=>∃b q cs,v = .slice (some ⟨b,0,none⟩) 0 q/\q<=maxLen/\List.length cs=q*2/\L=[.blk b cs 80]):=by
 refine Bh Tryz.func70 Tryz.ntmps70 rfl (by kernel_rfl) rfl λw M =>?_
 repeat' (first|(refine E3 ?_;(first|refine B4 ?_|(apply Au rfl rfl;(first|exact p_move rfl|exact p_assign rfl|exact p_lensl (by dsimp only;decide +kernel) rfl|exact p_lss rfl rfl|exact p_gtr rfl rfl|exact Ka rfl rfl (by omega)))|(apply Au rfl rfl;exact Ah8 2 (by dsimp only;decide +kernel) rfl)|(apply Au rfl rfl;exact Ks 2 (by dsimp only;decide +kernel) rfl rfl (by omega))))|(refine E5 ?_;(first|refine D3 ?_|refine Bb ?_|refine Eh ?_|(refine Iq rfl ?_ ?_<;>intro hc<;>try (first|(exfalso;omega)))))|(refine E0 ?_;(first|refine B5 ?_))|fail)
 refine As9 (kn :=.i64) rfl rfl Bv1 (by dsimp only;decide +kernel) rfl rfl (by omega) (by simp only[maxLen];omega) (by omega) ?_;intro b' q cs hq1 hq2 hcs
 repeat' (first|(refine E3 ?_;(first|refine B4 ?_|(apply Au rfl rfl;(first|exact p_move rfl|exact p_assign rfl|exact p_lensl (by dsimp only;decide +kernel) rfl))|(apply Au rfl rfl;exact Ks 2 (by dsimp only;decide +kernel) rfl rfl (by omega))))|(refine E5 ?_;(first|refine D3 ?_|refine Bb ?_|refine B1 rfl rfl ?_))|(refine E0 ?_;(first|refine B5 ?_))|fail)
 exact Bv ⟨_,_,_,rfl,hq2,hcs,rfl⟩
set_option maxRecDepth 20000 in
theorem Avs:Con Tryz.prog 70 [.slice none 0 0,.int .i64 0] [] (λ_=>True) (λv _ _=>v = .slice none 0 0):=by
 refine Bh Tryz.func70 Tryz.ntmps70 rfl (by kernel_rfl) rfl λw M =>?_
 repeat' (first|(refine E3 ?_;(first|refine B4 ?_|(apply Au rfl rfl;(first|exact p_move rfl|exact p_assign rfl|exact p_lensl (by dsimp only;decide +kernel) rfl|exact p_lss rfl rfl|exact p_gtr rfl rfl|exact Ka rfl rfl (by omega)))|(apply Au rfl rfl;exact Ah8 2 (by dsimp only;decide +kernel) rfl)|(apply Au rfl rfl;exact Ks 2 (by dsimp only;decide +kernel) rfl rfl (by omega))))|(refine E5 ?_;(first|refine D3 ?_|refine Bb ?_|refine Eh ?_|refine B1 rfl rfl ?_|(refine Iq rfl ?_ ?_<;>intro hc<;>try (first|(exfalso;omega)))))|(refine E0 ?_;(first|refine B5 ?_))|fail)
 exact Bv rfl
theorem Aqe:Go.Ax.GrOk Tryz.prog 70 (elT .kv) (Go.Ax.csz .kv):=⟨Sx.enters_of Tryz.func70 rfl (by kernel_rfl),A3h,Avs⟩
open Go.Ax
theorem Ayc:ClOk Tryz.prog 151 (elT .byte) (csz .byte):=⟨Sx.enters_of Tryz.func151 rfl (by kernel_rfl),Atr⟩
theorem Avr:ClOk Tryz.prog 69 (elT .byte) (csz .byte):=⟨Sx.enters_of Tryz.func69 rfl (by kernel_rfl),Asy⟩
theorem Aea:ClOk Tryz.prog 157 (elT .node) (csz .node):=⟨Sx.enters_of Tryz.func157 rfl (by kernel_rfl),Ash⟩
theorem Zm:Ajk Tryz.prog 157:=Amk
theorem Awa:FO 151 [.sl .byte false] [.sl .byte true] (A1n .byte):=Aao Ayc
theorem Axk:FO 69 [.sl .byte false] [.sl .byte true] (A1n .byte):=Aao Avr
end Go.Proofs.YtcoaaebppfbbnaaGreatDoor
namespace Go.Ax
theorem Aq4{P:Program}{S:Fp}{w:World}{l:Str}{t:Tk}{v:Value}(h:RF S w (.sl .byte l t) v):(Extern.Bytes.bytesOf v).run P w = .ok ⟨l.toArray⟩ w:=by
 obtain⟨a,cap,rfl,hf⟩:=h.here.slice;cases l with
 |nil=>cases a<;>simp[Extern.Bytes.bytesOf,Extern.Bytes.loadBytes,go_sem]<;>rfl
 |cons x l =>
  rcases hf with h|⟨b,o,rfl,_,hat⟩
  ·cases h
  ·have hl:=Lib.run_loadBytesX (P:=P) w ((x::l).map λb=>(b.toNat:Int)) ⟨b,o,none⟩ .empty (λj y hj=>by rw[List.getElem?_map] at hj;obtain⟨z,hz,rfl⟩:=Option.map_eq_some_iff.1 hj;obtain⟨u,hu,hf⟩:=hat j z hz 0 (.int .u8 (z.toNat:Int)) rfl;cases hf;rw[Sx.add_mk];simpa[csz] using hu)
   have e:Lib.bytesOf ((x::l).map λb=>(b.toNat:Int))=x::l:=by simp[Lib.bytesOf,Function.comp_def]
   rw[e,List.length_map] at hl;simp only[Extern.Bytes.bytesOf,hl];congr 1;apply ByteArray.ext;simp
theorem Bcl{P:Program}{S:Fp}{w:World}{l:Str}{t:Tk}{v:Value}(h:RF S w (.sl .byte l t) v)(c:Int):(Extern.BytealgCount.count #[v,.int .u8 c]).run P w = .ok (.int .i64 (Lib.countByte l c.toNat.toUInt8)) w:=by
 have hs:=Lib.run_countString (P:=P) ⟨l.toArray⟩ c w;have hb:=Aq4 (P:=P) h;change Sem.run P (do
  let b <-Extern.Bytes.bytesOf v;let c' <-Extern.Bytes.asByte (.int .u8 c)
  pure (goInt (b.foldl (λn x=>if x == c' then n+1 else n) (0:Nat)))) w=_
 change Sem.run P (do
  let b <-Extern.Bytes.bytesOf (.string ⟨l.toArray⟩);let c' <-Extern.Bytes.asByte (.int .u8 c)
  pure (goInt (b.foldl (λn x=>if x == c' then n+1 else n) (0:Nat)))) w=_ at hs
 rw[Sem.run_bind] at hs ⊢;rw[hb];exact hs
theorem Bef{P:Program}{S:Fp}{w:World}{l:Str}{t:Tk}{v:Value}(h:RF S w (.sl .byte l t) v)(c:Int):(Extern.BytealgIndexByte.indexByte #[v,.int .u8 c]).run P w = .ok (.int .i64 (Lib.indexByte l c.toNat.toUInt8)) w:=by
 have hs:=Lib.run_indexByteString (P:=P) ⟨l.toArray⟩ c w;have hb:=Aq4 (P:=P) h;change Sem.run P (do
  let b <-Extern.Bytes.bytesOf v;let c' <-Extern.Bytes.asByte (.int .u8 c);match(List.range b.size).find? λi=>b[i]! == c' with
  |some i=>pure (goInt i)
  |none=>pure (goInt (-1))) w=_
 change Sem.run P (do
  let b <-Extern.Bytes.bytesOf (.string ⟨l.toArray⟩);let c' <-Extern.Bytes.asByte (.int .u8 c);match(List.range b.size).find? λi=>b[i]! == c' with
  |some i=>pure (goInt i)
  |none=>pure (goInt (-1))) w=_ at hs
 rw[Sem.run_bind] at hs ⊢;rw[hb];exact hs
end Go.Ax
namespace Go.Proofs.YtcoaaebppfbbnaaGreatDoor
open Go.Ax
def As5(s sep:Str):Option Int:=match sep with|[c]=>some (Lib.countByte s c)|_=>none
def Aib:FT [.sl .byte false,.sl .byte false] [.int .i64]:=λx=>As5 x.1 x.2
theorem Bbv:FO 207 [.sl .byte false,.sl .byte false] [.int .i64] Aib:=by
 refine⟨Sx.enters_of Tryz.func207 rfl (by kernel_rfl),λx r hx w M vs hM hgl hr =>?_⟩;obtain⟨s,sep⟩:=x;obtain⟨c,rfl⟩:∃c,sep=[c]:=by
  cases sep with
  |nil=>cases hx
  |cons c tl=>cases tl with|nil=>exact⟨c,rfl⟩|cons _ _=>cases hx
 simp only[Aib,As5,Za1] at hx;subst hx;simp only[Bw,Cl,Reps,Rep] at hr;obtain⟨u,us,rfl,⟨h1,_⟩,u2,us2,rfl,⟨h2,_⟩,rfl⟩:=hr;have h1:RF (v0 elT M w).S w (.sl .byte s .no) u:=h1;have h2:RF (v0 elT M w).S w (.sl .byte [c] .no) u2:=h2;have walk:Calls Tryz.prog 207 #[u,u2] w λe w'=>e = .returned (.int .i64 (Lib.countByte s c))/\w' = w:=by
  have hrun:=Bcl (P:=Tryz.prog) h1 (c.toNat:Int);have e1:(Int.toNat (c.toNat:Int)).toUInt8=c:=by simp
  rw[e1] at hrun;obtain⟨a2,cap2,rfl,hf2⟩:=h2.here.slice;rcases hf2 with h|⟨b2,o2,rfl,_,hat⟩
  ·cases h
  obtain⟨q,hc2,hq⟩:=hat 0 c rfl 0 (.int .u8 (c.toNat:Int)) rfl;cases hq;have hc2:w.cell? ⟨b2,o2,none⟩=some (.int .u8 (c.toNat:Int)):=by simpa using hc2
  obtain⟨a,cap,rfl,_⟩:=h1.here.slice;have mixed:=follows;have t0:=Tryz.underlying5;simp only[List.length_singleton];clear h1 h2 hat hM hgl
  set_option maxRecDepth 100000 in go_enter Tryz.func207,Tryz.ntmps207
  set_option maxRecDepth 100000 in go_wp2
  rw[run_callFunc_extern Tryz.func243 (by kernel_rfl) (by kernel_rfl) (by kernel_rfl) (e:=Extern.BytealgCount.count) (by kernel_rfl),hrun];simp only[Result.andThen];rw[Oper.upon_value]
  set_option maxRecDepth 100000 in go_wp2
  go_ret
  exact⟨rfl,rfl⟩
 refine Calls.mono walk ?_;rintro en w' ⟨rfl,rfl⟩;refine⟨_,⟨λ_=>0,λ_=>Option.none⟩,rfl,Chg.refl _ _,λp g o hp=>(by simp[A7] at hp),λp q g o o2 hp=>(by simp[A7] at hp),?_⟩;simp only[Gw,Bw,Cl,Rep];have hl:Lib.countByte s c<=s.length:=List.count_le_length;have hs:=h1.here.len;exact⟨trivial,P3 (Nat.le_trans hl hs)⟩
theorem Bkg(l:Str)(c:UInt8) : -1<=Lib.indexByte l c/\Lib.indexByte l c<=l.length:=by
 induction l with
 |nil=>simp[Lib.indexByte]
 |cons b l ih =>
  simp only[Lib.indexByte,Zf1];split
  ·omega
  ·split<;>omega
def Abx(s:Str)(c:Int):Int:=Lib.indexByte s c.toNat.toUInt8
def Aku:FT [.sl .byte false,.int .u8] [.int .i64]:=λx=>some (Abx x.1 x.2)
theorem Bcd:FO 244 [.sl .byte false,.int .u8] [.int .i64] Aku:=by
 refine⟨Sx.enters_of Tryz.func244 rfl (by kernel_rfl),λx r hx w M vs hM hgl hr =>?_⟩;obtain⟨s,c⟩:=x;simp only[Aku,Za1] at hx;subst hx;simp only[Bw,Cl,Reps,Rep] at hr;obtain⟨u,us,rfl,⟨h1,_⟩,u2,us2,rfl,⟨rfl,_⟩,rfl⟩:=hr;have h1:RF (v0 elT M w).S w (.sl .byte s .no) u:=h1;have walk:Calls Tryz.prog 244 #[u,.int .u8 c] w λe w'=>e = .returned (.int .i64 (Abx s c))/\w' = w:=by
  have hrun:=Bef (P:=Tryz.prog) h1 c;obtain⟨a,cap,rfl,_⟩:=h1.here.slice;have mixed:=follows;clear h1 hM hgl
  set_option maxRecDepth 100000 in go_enter Tryz.func244,Tryz.ntmps244
  set_option maxRecDepth 100000 in go_wp2
  rw[run_callFunc_extern Tryz.func274 (by kernel_rfl) (by kernel_rfl) (by kernel_rfl) (e:=Extern.BytealgIndexByte.indexByte) (by kernel_rfl),hrun];simp only[Result.andThen];rw[Oper.upon_value]
  set_option maxRecDepth 100000 in go_wp2
  go_ret
  exact⟨rfl,rfl⟩
 refine Calls.mono walk ?_;rintro en w' ⟨rfl,rfl⟩;refine⟨_,⟨λ_=>0,λ_=>Option.none⟩,rfl,Chg.refl _ _,λp g o hp=>(by simp[A7] at hp),λp q g o o2 hp=>(by simp[A7] at hp),?_⟩;simp only[Gw,Bw,Cl,Rep];have hs:=h1.here.len;refine⟨trivial,Ay8 ?_⟩;have hb:=Bkg s c.toNat.toUInt8;have hm:maxLen=9223372036854775807:=rfl;simp only[IntKind.min,IntKind.max,IntKind.signed,IntKind.bits,Abx];simp only[if_true];omega
def Biw(R:Type):Px R:=pxO [(244,cA Aku)] [] [] []
def A2s(x:HV [.sl .byte false,.sl .byte false]):Option (HV [.int .i64]):=match x with
 |(s,sep) =>
 cond (decide ((sep.length:Int)=0)) (
  some 0) (
  cond (decide ((sep.length:Int)=1)) (
  chk (inb 0 sep.length) (
   some (Abx s ((at' .byte sep 0).toNat:Int)))) (
  cond (decide ((sep.length:Int)=(s.length:Int))) (
   none) (
   cond (decide ((s.length:Int)<(sep.length:Int))) (
   some (-1)) (
   none))))
theorem Bar:FO 208 [.sl .byte false,.sl .byte false] [.int .i64] (A2s):=fR (px:=Biw _) (n:=2) Tryz.func208 rfl (λ_ H=>⟨lv H (c1 H Bcd Ae) Aa Ab,(A6 (A6 Ai (Aqn (λ_ _=>by kernel_rfl))) (Aqn (λ_ _=>by kernel_rfl)))⟩) λ(_,_)=>by kernel_rfl
def A7g(s sep:Str):Option Int:=match sep with|[c]=>some (Lib.indexByte s c)|_=>none
def A55:FT [.sl .byte false,.sl .byte false] [.int .i64]:=λx=>A7g x.1 x.2
theorem Bnl:FO 208 [.sl .byte false,.sl .byte false] [.int .i64] A55 :=.fin0 Bar λ(s,sep) r _ hx=>by
 obtain⟨c,rfl⟩:∃c,sep=[c]:=by
  cases sep with
  |nil=>cases hx
  |cons c tl=>cases tl with|nil=>exact⟨c,rfl⟩|cons _ _=>cases hx
 rw[<-hx];show(some (Abx s ((at' .byte [c] 0).toNat:Int)):Option Int)=some (Lib.indexByte s c);simp[Abx,at']
def esc(s:Str):Str:=s.flatMap λb=>if b=0 then [0,255] else [b]
theorem Agc:esc []=[]:=rfl
theorem My(a b:Str):esc (a++b)=esc a++esc b:=by simp[esc]
theorem Jx(l:Str):esc (0::l)=0::255::esc l:=by simp[esc]
theorem F9{b:UInt8}(h:b≠0)(l:Str):esc (b::l)=b::esc l:=by simp[esc,h]
theorem Ate:∀{a:Str},(0:UInt8)∉a->esc a=a
 |[],_=>rfl
 |b::a,h=>by simp only[List.mem_cons,not_or] at h;rw[F9 (Ne.symm h.1),Ate h.2]
theorem S5(s:Str):(esc s).length=s.length+s.count 0:=by
 induction s with
 |nil=>rfl
 |cons b s ih =>
  by_cases h:b=0
  ·subst h;rw[Jx];simp only[Zf1,ih,List.count_cons_self];omega
  ·rw[F9 h,List.count_cons_of_ne h];simp only[Zf1,ih];omega
theorem Ahn:∀{l:Str},0<l.count 0->∃a b,l=a++0::b/\(0:UInt8)∉a/\Lib.indexByte l 0=(a.length:Int)/\l.count 0=b.count 0+1
 |[],h=>by simp at h
 |x::l,h=>by
  by_cases hx:x=0
  ·subst hx;exact⟨[],l,rfl,by simp,by simp[Lib.indexByte],by simp⟩
  ·rw[List.count_cons_of_ne hx] at h;obtain⟨a,b,e,h1,h2,h3⟩:=Ahn h;refine⟨x::a,b,by rw[e];rfl,by simp[h1,Ne.symm hx],?_,by rw[List.count_cons_of_ne hx];exact h3⟩;have h4:¬(a.length:Int) = -1:=by omega
   simp[Lib.indexByte,hx,h2,h4]
theorem Qq{α:Type}(xs:List α)(o:Nat)(l:List α)(h:o+l.length<=xs.length):(B7 xs o l).take (o+l.length)=xs.take o++l:=by
 have h1:(xs.take o).length=o:=by simp;omega
 simp only[B7];rw[<-Zj1,List.take_append_of_le_length (by simp;omega)];rw[List.take_of_length_le (by simp;omega)]
def Ahy:Sig:=⟨132,[(0,.sl .byte false),(2,.sl .byte false),(11,.int .i64),(12,.int .i64),(88,.int .i64),(89,.int .i64)],[],[(0,.one (.dn .byte))],1,0,0,[],[(10,0,.byte)]⟩
abbrev Adg:=List UInt8×List UInt8×Int×Int×Int×Int×List UInt8×Int×Int
def Atd{R:Type}(_:Adg->Option R)(kx:Ex->Adg->Option R)(v:Adg):Option R:=match v with
 |(a,e,f,b,c,d,w3,w4,w5) =>
 cond (decide (d<c)) (
  chk (upto b a.length a.length) (
  none)) (
  kx (.exit 2) (a,e,f,b,c,d,w3,w4,w5))
def Ai7:Sig:=⟨132,[(0,.sl .byte false),(1,.sl .byte false),(2,.sl .byte false),(11,.int .i64),(12,.int .i64),(48,.int .i64),(49,.int .i64)],[],[(0,.one (.dn .byte))],1,0,0,[],[(10,0,.byte)]⟩
abbrev Jb:=List UInt8×List UInt8×List UInt8×Int×Int×Int×Int×List UInt8×Int×Int
def Nn{R:Type}(rec:Jb->Option R)(kx:Ex->Jb->Option R)(v:Jb):Option R:=match v with
 |(v,v1,v2,v3,v4,v5,v6,w,w1,w2) =>
 cond (decide (v6<v5)) (
  chk (upto v4 v.length v.length) (
  (A7g (v.drop (v4:Int).toNat) v1).bind λx1 =>
   chk (upI v3 w2 w2) (
   chk (upto v4 (wr .i64 (v4+x1)) v.length) (
    chk (decide ((0:Int)<=(w1+v3))&&decide ((0:Int)<=(w2-v3))&&decide ((w1+v3)+(w2-v3)<=(w.length:Int))) (
    chk (upI (wr .i64 (v3+((min ((w2-v3):Int).toNat (cut v v4 (wr .i64 (v4+x1))).length:Nat):Int))) w2 w2) (
     chk (decide ((0:Int)<=(w1+(wr .i64 (v3+((min ((w2-v3):Int).toNat (cut v v4 (wr .i64 (v4+x1))).length:Nat):Int)))))&&decide ((0:Int)<=(w2-(wr .i64 (v3+((min ((w2-v3):Int).toNat (cut v v4 (wr .i64 (v4+x1))).length:Nat):Int)))))&&decide ((w1+(wr .i64 (v3+((min ((w2-v3):Int).toNat (cut v v4 (wr .i64 (v4+x1))).length:Nat):Int))))+(w2-(wr .i64 (v3+((min ((w2-v3):Int).toNat (cut v v4 (wr .i64 (v4+x1))).length:Nat):Int))))<=((B7 w ((w1+v3):Int).toNat ((cut v v4 (wr .i64 (v4+x1))).take ((w2-v3):Int).toNat)).length:Int))) (
     rec (v,v1,v2,(wr .i64 ((wr .i64 (v3+((min ((w2-v3):Int).toNat (cut v v4 (wr .i64 (v4+x1))).length:Nat):Int)))+((min ((w2-(wr .i64 (v3+((min ((w2-v3):Int).toNat (cut v v4 (wr .i64 (v4+x1))).length:Nat):Int)))):Int).toNat v2.length:Nat):Int))),(wr .i64 ((wr .i64 (v4+x1))+(v1.length:Int))),v5,(wr .i64 (v6+1)),(B7 (B7 w ((w1+v3):Int).toNat ((cut v v4 (wr .i64 (v4+x1))).take ((w2-v3):Int).toNat)) ((w1+(wr .i64 (v3+((min ((w2-v3):Int).toNat (cut v v4 (wr .i64 (v4+x1))).length:Nat):Int)))):Int).toNat (v2.take ((w2-(wr .i64 (v3+((min ((w2-v3):Int).toNat (cut v v4 (wr .i64 (v4+x1))).length:Nat):Int)))):Int).toNat)),w1,w2)))))))) (
  kx (.exit 0) (v,v1,v2,v3,v4,v5,v6,w,w1,w2))
def Avg(R:Type)(k:Nat):Px R:=pxO [(207,cA Aib),(208,cA A55)] [] [(13,Am k Ai7 (Nn)),(21,Am k Ahy (Atd))] []
def Vz(k:Nat)(x:HV [.sl .byte false,.sl .byte false,.sl .byte false,.int .i64]):Option (HV [.sl .byte true]):=match x with
 |(s,old,new,n) =>
 let j2:=λ(p:Int) =>
  cond (decide (p=0)) (
  chk (decide (0+s.length<=Ah)) (
   some ([]++s))) (
  let j1:=λ(p3:Int) =>
   chk (upI 0 (wr .i64 ((s.length:Int)+(wr .i64 (p3*(wr .i64 ((new.length:Int)-(old.length:Int))))))) (wr .i64 ((s.length:Int)+(wr .i64 (p3*(wr .i64 ((new.length:Int)-(old.length:Int)))))))&&decide ((wr .i64 ((s.length:Int)+(wr .i64 (p3*(wr .i64 ((new.length:Int)-(old.length:Int)))))))<=(Ah:Int))) (
   let j:=λ(p4:List UInt8) (p5:Int) (p6:Int) (p7:Int) (p8:Int) (q:List UInt8) =>
    chk (upI p7 p6 p6) (
    chk (upto p8 p4.length p4.length) (
     chk (decide ((0:Int)<=(p5+p7))&&decide ((0:Int)<=(p6-p7))&&decide ((p5+p7)+(p6-p7)<=(q.length:Int))) (
     chk (upI 0 (wr .i64 (p7+((min ((p6-p7):Int).toNat (p4.drop (p8:Int).toNat).length:Nat):Int))) p6) (
      chk (decide (((p5+0):Int)=0)&&decide ((0:Int)<((wr .i64 (p7+((min ((p6-p7):Int).toNat (p4.drop (p8:Int).toNat).length:Nat):Int)))-0))&&decide (((wr .i64 (p7+((min ((p6-p7):Int).toNat (p4.drop (p8:Int).toNat).length:Nat):Int)))-0)<=((B7 q ((p5+p7):Int).toNat ((p4.drop (p8:Int).toNat).take ((p6-p7):Int).toNat)).length:Int))) (
      some ((B7 q ((p5+p7):Int).toNat ((p4.drop (p8:Int).toNat).take ((p6-p7):Int).toNat)).take (((wr .i64 (p7+((min ((p6-p7):Int).toNat (p4.drop (p8:Int).toNat).length:Nat):Int)))-0):Int).toNat))))))
   cond (decide (0<(old.length:Int))) (
    Aj (λrec=>Nn rec (λe vz=>match vz with|(v7,_,_,a,b,_,_,c,d,f)=>match e with
    |.exit 0 =>j v7 d f a b c
    |_=>none)) k (s,old,new,0,0,p3,0,(List.replicate ((wr .i64 ((s.length:Int)+(wr .i64 (p3*(wr .i64 ((new.length:Int)-(old.length:Int))))))):Int).toNat (zer .byte)),0,(wr .i64 ((s.length:Int)+(wr .i64 (p3*(wr .i64 ((new.length:Int)-(old.length:Int))))))))) (
    chk (upI 0 (wr .i64 ((s.length:Int)+(wr .i64 (p3*(wr .i64 ((new.length:Int)-(old.length:Int))))))) (wr .i64 ((s.length:Int)+(wr .i64 (p3*(wr .i64 ((new.length:Int)-(old.length:Int)))))))) (
    chk (decide ((0:Int)<=0)&&decide ((0:Int)<=((wr .i64 ((s.length:Int)+(wr .i64 (p3*(wr .i64 ((new.length:Int)-(old.length:Int)))))))-0))&&decide (0+((wr .i64 ((s.length:Int)+(wr .i64 (p3*(wr .i64 ((new.length:Int)-(old.length:Int)))))))-0)<=((List.replicate ((wr .i64 ((s.length:Int)+(wr .i64 (p3*(wr .i64 ((new.length:Int)-(old.length:Int))))))):Int).toNat (zer .byte)).length:Int))) (
     Aj (λrec=>Atd rec (λe vz=>match vz with|(g,_,h,i,_,_,l,m,o)=>match e with
     |.exit 2 =>j g m o h i l
     |_=>none)) k (s,new,(wr .i64 (0+((min (((wr .i64 ((s.length:Int)+(wr .i64 (p3*(wr .i64 ((new.length:Int)-(old.length:Int)))))))-0):Int).toNat new.length:Nat):Int))),0,(wr .i64 (p3-1)),0,(B7 (List.replicate ((wr .i64 ((s.length:Int)+(wr .i64 (p3*(wr .i64 ((new.length:Int)-(old.length:Int))))))):Int).toNat (zer .byte)) (0:Int).toNat (new.take (((wr .i64 ((s.length:Int)+(wr .i64 (p3*(wr .i64 ((new.length:Int)-(old.length:Int)))))))-0):Int).toNat)),0,(wr .i64 ((s.length:Int)+(wr .i64 (p3*(wr .i64 ((new.length:Int)-(old.length:Int))))))))))))
  cond (decide (n<0)) (
   j1 p) (
   cond (decide (p<n)) (
   j1 p) (
   j1 n)))
 cond (!decide (n=0)) (
  (As5 s old).bind λx =>
  j2 x) (
  j2 0)
theorem Bby(k:Nat):FO 169 [.sl .byte false,.sl .byte false,.sl .byte false,.int .i64] [.sl .byte true] (Vz k):=fR (px:=Avg _ k) (n:=2) Tryz.func169 rfl (λcx H=>by have h0:Lv cx (Avg (HV [.sl .byte true]) k):=lv H (c1 H Bbv (c1 H Bnl Ae)) Aa Ab;have hlbrepl_0:=lO H h0 (b:=lp Tryz.f169 0) (k:=k) (n:=0) (s:=Ai7) (step:=Nn) (λ_ _ _ (_,_,_,_,_,_,_,_,_,_)=>by kernel_rfl) Ai;have hlbrepl_1:=lO H h0 (b:=lp Tryz.f169 1) (k:=k) (n:=0) (s:=Ahy) (step:=Atd) (λ_ _ _ (_,_,_,_,_,_,_,_,_)=>by kernel_rfl) Ai;exact⟨h0,(A6 (A6 Ai hlbrepl_0) hlbrepl_1)⟩) λ(_,_,_,_)=>by kernel_rfl
def Aq1(s old new:Str)(n:Int):Option Str:=cond (decide (old=[0])&&decide (new=[0,255])&&decide (n = -1)&&decide (s.length<=68719476736)) (some (esc s)) none
def Ark:FT [.sl .byte false,.sl .byte false,.sl .byte false,.int .i64] [.sl .byte true]:=λx=>Aq1 x.1 x.2.1 x.2.2.1 x.2.2.2
theorem A3d{R:Type}{rec:Jb->Option R}{kx:Ex->Jb->Option R}{s A B:Str}{p L N m i:Nat}{w:Str}(hs:s.length<=68719476736)(hN:N<=137438953472)(hi:i<m)(hm:ln m)(hp:s.drop p=A++0::B)(hA:Lib.indexByte (A++0::B) 0=(A.length:Int))(hL:L+A.length+2<=N)(hw:w.length=N):Nn rec kx (s,[0],[0,255],(L:Int),(p:Int),(m:Int),(i:Int),w,0,(N:Int))=rec (s,[0],[0,255],((L+A.length+2:Nat):Int),((p+A.length+1:Nat):Int),(m:Int),((i+1:Nat):Int),B7 (B7 w L A) (L+A.length) [0,255],0,(N:Int)):=by
 have hpl:p+(A.length+1+B.length)=s.length:=by have:=congrArg List.length hp;simp only[Za2,Zh1,Zf1] at this;omega
 have e1:upto (p:Int) (s.length:Int) s.length=true:=by rw[Alm];simp;omega
 have e2:A7g (s.drop p) [0]=some (A.length:Int):=by simp only[A7g,hp,hA]
 have e3:wr .i64 ((p:Int)+(A.length:Int))=((p+A.length:Nat):Int):=by rw[B3 (by simp only[inI];omega)];rfl
 have e4:cut s (p:Int) ((p+A.length:Nat):Int)=A:=by simp only[cut,Int.toNat_natCast,hp];rw[show p+A.length-p=A.length by omega];simp
 have e5:upto (p:Int) ((p+A.length:Nat):Int) s.length=true:=by rw[Alm];simp;omega
 have e6:min ((N:Int)-(L:Int)).toNat A.length=A.length:=by omega
 have e7:wr .i64 ((L:Int)+(A.length:Int))=((L+A.length:Nat):Int):=by rw[B3 (by simp only[inI];omega)];rfl
 have e8:upI (L:Int) (N:Int) (N:Int)=true:=by simp only[upI,Zb1,Zg1];omega
 have e9:upI ((L+A.length:Nat):Int) (N:Int) (N:Int)=true:=by simp only[upI,Zb1,Zg1];omega
 have e10:A.take ((N:Int)-(L:Int)).toNat=A:=List.take_of_length_le (by omega);have e11:([0,255]:Str).take ((N:Int)-((L+A.length:Nat):Int)).toNat=[0,255]:=List.take_of_length_le (by simp;omega);have e12:min ((N:Int)-((L+A.length:Nat):Int)).toNat 2=2:=by omega
 have e13:wr .i64 (((L+A.length:Nat):Int)+2)=((L+A.length+2:Nat):Int):=by rw[B3 (by simp only[inI];omega)];rfl
 have e14:wr .i64 (((p+A.length:Nat):Int)+1)=((p+A.length+1:Nat):Int):=by rw[B3 (by simp only[inI];omega)];rfl
 have e15:wr .i64 ((i:Int)+1)=((i+1:Nat):Int):=An hi hm;have e16:decide ((i:Int)<(m:Int))=true:=Ze1 (by omega);have e17:(0:Int)+(L:Int)=(L:Int):=Int.zero_add _;have e18:(0:Int)+((L+A.length:Nat):Int)=((L+A.length:Nat):Int):=Int.zero_add _;have hsl:(B7 w L A).length=N:=by rw[Fa _ _ _ (by omega)];exact hw
 have e19:(decide ((0:Int)<=(L:Int))&&decide ((0:Int)<=((N:Int)-(L:Int)))&&decide ((L:Int)+((N:Int)-(L:Int))<=(N:Int)))=true:=by simp only[Zb1,Zg1];omega
 have e20:(decide ((0:Int)<=((L+A.length:Nat):Int))&&decide ((0:Int)<=((N:Int)-((L+A.length:Nat):Int)))&&decide (((L+A.length:Nat):Int)+((N:Int)-((L+A.length:Nat):Int))<=(N:Int)))=true:=by simp only[Zb1,Zg1];omega
 have e21:((2:Nat):Int)=2:=rfl;have e22:((1:Nat):Int)=1:=rfl;have l2:([0,255]:Str).length=2:=rfl;have l1:([0]:Str).length=1:=rfl;simp only[Nn,e16,Af,e1,chk,Int.toNat_natCast,e2,Zc1,e8,e3,e5,e4,e6,e7,e17,hw,e19,e9,e10,e18,hsl,e20,l1,l2,e11,e12,e21,e22,e13,e14,e15]
theorem Ajn{R:Type}{kx:Ex->Jb->Option R}{s:Str}{c:Option R}{N m:Nat}(hs:s.length<=68719476736)(hN:N=(esc s).length)(hm:m<=s.length)(h0:∀(L p:Nat) (w:Str),p<=s.length->L=(esc (s.take p)).length->w.length=N->w.take L=esc (s.take p)->(s.drop p).count 0=0->kx (.exit 0) (s,[0],[0,255],(L:Int),(p:Int),(m:Int),(m:Int),w,0,(N:Int))=c) :
  ∀(k i L p:Nat) (w:Str),(s.drop p).count 0=m-i->i<=m->m-i<k->p<=s.length->L=(esc (s.take p)).length->w.length=N->w.take L=esc (s.take p)->Aj (λrec=>Nn rec kx) k (s,[0],[0,255],(L:Int),(p:Int),(m:Int),(i:Int),w,0,(N:Int))=c
 |0,i,L,p,w,_,_,h,_,_,_,_=>by omega
 |k+1,i,L,p,w,hc,him,hk,hp,hL,hw,ht=>by
  have hcl:s.count 0<=s.length:=List.count_le_length;have hNs:N<=137438953472:=by rw[hN,S5];omega
  rw[Ay];by_cases hi:i<m
  ·obtain⟨A,B,hd,hA,hix,hcb⟩:=Ahn (l:=s.drop p) (by omega);have e1:s.take (p+A.length+1)=s.take p++(A++[0]):=by rw[Nat.add_assoc,List.take_add,hd];congr 1;rw[show A++0::B=(A++[0])++B by simp];exact List.take_left' (by simp)
   have e2:s.drop (p+A.length+1)=B:=by rw[Nat.add_assoc,<-List.drop_drop,hd,show A++0::B=(A++[0])++B by simp];exact List.drop_left' (by simp)
   have e3:esc (s.take (p+A.length+1))=esc (s.take p)++(A++[0,255]):=by rw[e1,My,My,Ate hA];rfl
   have hpl:p+A.length+1<=s.length:=by have:=congrArg List.length hd;simp only[Za2,Zh1,Zf1] at this;omega
   have hL2:L+A.length+2=(esc (s.take (p+A.length+1))).length:=by rw[e3,Zh1,<-hL];simp;omega
   have hLN:L+A.length+2<=N:=by
    have:esc s=esc (s.take (p+A.length+1))++esc (s.drop (p+A.length+1)):=by rw[<-My,List.take_append_drop]
    rw[hN,this,Zh1];omega
   have hsl:(B7 w L A).length=N:=by rw[Fa _ _ _ (by omega)];exact hw
   rw[A3d hs hNs hi (by simp only[ln];omega) hd (hd▸hix) hLN hw];refine Ajn hs hN hm h0 k (i+1) (L+A.length+2) (p+A.length+1) _ ?_ (by omega) (by omega) hpl hL2 ?_ ?_
   ·rw[e2];omega
   ·rw[Fa _ _ _ (by rw[hsl];simp;omega)];exact hsl
   ·rw[show L+A.length+2=(L+A.length)+([0,255]:Str).length by rfl,Qq _ _ _ (by rw[hsl];simp;omega),Qq _ _ _ (by omega),ht,e3];simp
  ·have him:i=m:=by omega
   subst him;simp only[Nn,Zd1 (show ¬((i:Nat):Int)<(i:Int) by omega),Ag];exact h0 L p w hp hL hw ht (by omega)
theorem Bmy:FO 169 [.sl .byte false,.sl .byte false,.sl .byte false,.int .i64] [.sl .byte true] Ark :=.fin 0 Bby λ(s,old,new,n) r hb hx=>⟨s.count 0+1,by
 simp only[Ark,Aq1] at hx;cases hc:decide (old=[0])&&decide (new=[0,255])&&decide (n = -1)&&decide (s.length<=68719476736) with
 |false=>rw[hc] at hx;cases hx
 |true =>
  rw[hc] at hx;simp only[Zb1,Zg1] at hc;obtain⟨⟨⟨rfl,rfl⟩,rfl⟩,hs⟩:=hc;have hx:some (esc s)=some r:=hx;rw[<-hx];have hcl:s.count 0<=s.length:=List.count_le_length;have hNl:=S5 s;have ecount:As5 s [0]=some ((s.count 0:Nat):Int):=rfl;have l2:([0,255]:Str).length=2:=rfl;have l1:([0]:Str).length=1:=rfl;by_cases h0:s.count 0=0
  ·have hno:(0:UInt8)∉s:=List.count_eq_zero.1 h0;have c1:decide (0+s.length<=Ah)=true:=Ze1 (by simp only[Ah];omega);have c2:decide (((s.count 0:Nat):Int)=0)=true:=Ze1 (by omega);simp only[Vz,ecount,Zc1,c2,Af,c1,chk,Ate hno];rfl
  ·have c2:decide (((s.count 0:Nat):Int)=0)=false:=Zd1 (by omega);have c3:wr .i64 (((2:Nat):Int)-((1:Nat):Int))=1:=by decide
   have c4:wr .i64 (((s.count 0:Nat):Int)*1)=((s.count 0:Nat):Int):=by rw[Int.mul_one,B3 (by simp only[inI];omega)]
   have c5:wr .i64 ((s.length:Int)+((s.count 0:Nat):Int))=(((esc s).length:Nat):Int):=by rw[B3 (by simp only[inI];omega),hNl];rfl
   have c6:(upI 0 (((esc s).length:Nat):Int) (((esc s).length:Nat):Int)&&decide ((((esc s).length:Nat):Int)<=(Ah:Int)))=true:=by
    have h1:(((esc s).length:Nat):Int)<=274877906944:=by rw[hNl];omega
    simp only[upI,Zb1,Zg1];exact⟨⟨⟨Int.le_refl _,Int.natCast_nonneg _⟩,Int.le_refl _⟩,h1⟩
   have c7:decide ((0:Int)<((1:Nat):Int))=true:=rfl;have c8:decide ((-1:Int)<0)=true:=rfl;have c9:(!decide ((-1:Int)=0))=true:=rfl;simp only[Vz,c9,ecount,Zc1,c2,Af,Ag,c8,l1,l2,c3,c4,c5,c6,chk,c7];refine Ajn (c:=some (esc s)) (N:=(esc s).length) (m:=s.count 0) hs rfl hcl (λL p w hp hL hw ht hz =>?_) (s.count 0+1) 0 0 0 _ (by simp) (Nat.zero_le _) (by omega) (Nat.zero_le _) (by simp[esc]) (by simp) (by simp[esc]);have hdn:(0:UInt8)∉s.drop p:=List.count_eq_zero.1 hz;have hes:esc s=esc (s.take p)++s.drop p:=by rw[<-Ate hdn,<-My,List.take_append_drop]
   have hNL:(esc s).length=L+(s.drop p).length:=by rw[hes,Zh1,<-hL]
   have hdl:(s.drop p).length=s.length-p:=Za2;have e1:upI (L:Int) (((esc s).length:Nat):Int) (((esc s).length:Nat):Int)=true:=by simp only[upI,Zb1,Zg1];omega
   have e2:upto (p:Int) (s.length:Int) s.length=true:=by rw[Alm];simp;omega
   have e3:(decide ((0:Int)<=(L:Int))&&decide ((0:Int)<=((((esc s).length:Nat):Int)-(L:Int)))&&decide ((L:Int)+((((esc s).length:Nat):Int)-(L:Int))<=(((esc s).length:Nat):Int)))=true:=by simp only[Zb1,Zg1];omega
   have e4:min ((((esc s).length:Nat):Int)-(L:Int)).toNat (s.drop p).length=(s.drop p).length:=by omega
   have e5:wr .i64 ((L:Int)+(((s.drop p).length:Nat):Int))=(((esc s).length:Nat):Int):=by rw[B3 (by simp only[inI];omega)];omega
   have e6:upI 0 (((esc s).length:Nat):Int) (((esc s).length:Nat):Int)=true:=by simp only[upI,Zb1,Zg1];omega
   have e7:(s.drop p).take ((((esc s).length:Nat):Int)-(L:Int)).toNat=s.drop p:=List.take_of_length_le (by omega);have hsl:(B7 w L (s.drop p)).length=(esc s).length:=by rw[Fa _ _ _ (by omega)];exact hw
   have e8:decide ((0:Int)<(((esc s).length:Nat):Int))=true:=Ze1 (by omega);have e10:decide ((((esc s).length:Nat):Int)<=(((esc s).length:Nat):Int))=true:=Ze1 (Int.le_refl _);have e9:(B7 w L (s.drop p)).take (esc s).length=esc s:=by have:=Qq w L (s.drop p) (by omega);rw[<-hNL,ht] at this;rw[this,hes]
   simp only[Int.zero_add,Int.add_zero,Int.sub_zero,Int.toNat_natCast,hw,e1,e2,e3,e4,e5,e6,e7,hsl,e8,e9,e10,decide_true,Bool.true_and,Af]⟩
def Bcz(R:Type):Px R:=pxO [(169,cA Ark)] [] [] []
def Aeh(x:HV [.sl .byte false,.sl .byte false,.sl .byte false]):Option (HV [.sl .byte true]):=match x with
 |(s,old,new) =>
 (Aq1 s old new (-1)).bind λx =>some x
theorem A3g:FO 124 [.sl .byte false,.sl .byte false,.sl .byte false] [.sl .byte true] (Aeh):=fR (px:=Bcz _) (n:=0) Tryz.func124 rfl (λ_ H=>⟨lv H (c1 H Bmy Ae) Aa Ab,Ai⟩) λ(_,_,_)=>by kernel_rfl
def Akj(s old new:Str):Option Str:=Aq1 s old new (-1)
def Aab:FT [.sl .byte false,.sl .byte false,.sl .byte false] [.sl .byte true]:=λx=>Akj x.1 x.2.1 x.2.2
theorem Aqc:FO 124 [.sl .byte false,.sl .byte false,.sl .byte false] [.sl .byte true] Aab :=.fin0 A3g λ(s,old,new) r _ hx=>by rw[<-hx];simp only[Aeh,Aab,Akj];cases Aq1 s old new (-1)<;>rfl
def Cb(s:Str):Option Str:=cond (decide (s.length<=2000000)) (some s) none
def Em:FT [.sl .byte false] [.sl .byte true]:=λx=>Cb x
theorem D6:FO 69 [.sl .byte false] [.sl .byte true] Em:=Axk
def Mw(s:Str):Option Str:=cond (decide (s.length<=2000000)) (some s) none
def He:FT [.sl .byte false] [.sl .byte true]:=λx=>Mw x
theorem Gr:FO 151 [.sl .byte false] [.sl .byte true] He:=Awa
theorem Bu9{c:UInt8}(n:UInt8):decide ((c.toNat:Int)=(n.toNat:Int))=decide (c=n):=by refine Zy1.2 ⟨λe=>UInt8.toNat_inj.1 (by omega),λe=>by rw[e]⟩
def nxt:Str->Str
 |[]=>[]
 |c::l=>if nxt l=[] then(if c=255 then [] else [c+1]) else c::nxt l
theorem Asn:∀n:Nat,nxt (List.replicate n 255)=[]
 |0=>rfl
 |n+1=>by simp[List.replicate_succ,nxt,Asn n]
theorem Axv{c:UInt8}(h:c≠255)(n:Nat):∀l:Str,nxt (l++c::List.replicate n 255)=l++[c+1]
 |[]=>by simp[nxt,Asn,h]
 |d::l=>by simp[nxt,Axv h n l]
def We:Sig:=⟨35,[],[],[(0,.one (.dn .byte))],1,0,0,[],[(3,0,.byte)]⟩
abbrev Hl:=List UInt8×Int×Int
def Ou{R:Type}(rec:Hl->Option R)(kx:Ex->Hl->Option R)(v:Hl):Option R:=match v with
 |(w,w1,w2) =>
 cond (decide (0<w2)) (
  chk (inO (wr .i64 (w2-1)) w2) (
  chk (inb (w1+(wr .i64 (w2-1))) w.length) (
   cond (decide (((at' .byte w (w1+(wr .i64 (w2-1)))).toNat:Int)=255)) (
   chk (upI 0 (wr .i64 (w2-1)) w2) (
    rec (w,w1,(wr .i64 (w2-1))))) (
   kx (.exit 0) (w,w1,w2))))) (
  kx (.exit 0) (w,w1,w2))
noncomputable def Ap2(R:Type)(_k:Nat):Px R:=pxO [(69,K5 [.sl .byte false] .byte Em)] [] [] []
noncomputable def X1(R:Type)(k:Nat):Px R:=pxO [(69,K5 [.sl .byte false] .byte Em)] [] [(2,Asa (Ap2 R k) (lp Tryz.f38 0) k We (Ou))] []
theorem A1v(R:Type)(k:Nat):∀(fr:List Fr) (rec:Hl->Option R) (kx:Ex->Hl->Option R) (v:Hl),round (X1 R k) We (lp Tryz.f38 0) fr rec kx v=Ou rec kx v
 |fr,rec,kx,(w,w1,w2)=>by kernel_rfl
def Aj1(k:Nat)(x:HV [.sl .byte false]):Option (HV [.sl .byte false]):=match x with
 |b =>
 (Cb b).bind λx =>
  cond (List.isEmpty x) (
  some []) (
  Aj (λrec=>Ou rec (λe vz=>match vz with|(v,v1,v2)=>match e with
   |.exit 0 =>
   cond (decide (0<v2)) (
    chk (inO (wr .i64 (v2-1)) v2) (
    chk (inb (v1+(wr .i64 (v2-1))) v.length) (
     chk (inO (wr .i64 (v2-1)) v2) (
     chk (inb (v1+(wr .i64 (v2-1))) v.length) (
      chk (decide ((0:Int)<=v1)&&decide ((0:Int)<=v2)&&decide ((v1+v2)<=((v.set ((v1+(wr .i64 (v2-1))):Int).toNat (UInt8.ofNat ((wr .u8 (((at' .byte v (v1+(wr .i64 (v2-1)))).toNat:Int)+1)):Int).toNat)).length:Int))) (
      some (cut (v.set ((v1+(wr .i64 (v2-1))):Int).toNat (UInt8.ofNat ((wr .u8 (((at' .byte v (v1+(wr .i64 (v2-1)))).toNat:Int)+1)):Int).toNat)) v1 (v1+v2)))))))) (
    chk (decide ((0:Int)<=v1)&&decide ((0:Int)<=v2)&&decide ((v1+v2)<=(v.length:Int))) (
    some (cut v v1 (v1+v2))))
   |_=>none)) k (x,0,(x.length:Int)))
theorem A95(k:Nat):FO 38 [.sl .byte false] [.sl .byte false] (Aj1 k):=fR (px:=X1 _ k) (n:=1) Tryz.func38 rfl (λcx H=>by have h0:Lv cx (X1 (HV [.sl .byte false]) k):=lv H (Ao (cT H D6) Ae) Aa Ab;have h00:Lv cx (Ap2 (HV [.sl .byte false]) k):=lv H (Ao (cT H D6) Ae) Aa Ab;have hlknext_0:Bg cx (X1 (HV [.sl .byte false]) k) (lp Tryz.f38 0):=Aj7 h0.p h0.c h0.q (by rw[H.p];exact follows) h00.p h00.c h00.q (λ_ _ _=>rfl) (k:=k) (s:=We) (step:=Ou) (λ_ _=>by kernel_rfl) (by kernel_rfl) (A1v _ k) (Pj (n:=0) (by kernel_rfl) Ai);exact⟨h0,(A6 Ai hlknext_0)⟩) λ_=>by kernel_rfl
def Aw0(b:Str):Option Str:=cond (decide (b.length<=2000000)) (some (nxt b)) none
def Af0:FT [.sl .byte false] [.sl .byte false]:=λx=>Aw0 x
theorem A29{w:Str}{n:Nat}(hn:n<w.length)(h:w.drop (n+1)=List.replicate (w.length-(n+1)) 255)(h2:w[n]=255):w.drop n=List.replicate (w.length-n) 255:=by rw[Ak hn,h2,h,show w.length-n=(w.length-(n+1))+1 by omega,List.replicate_succ]
theorem Akh{R:Type}{kx:Ex->Hl->Option R}{w:Str}{c:Option R}(hw:w.length<=2000000)(h:∀m:Nat,m<=w.length->w.drop m=List.replicate (w.length-m) 255->(∀(h:m-1<w.length),0<m->w[m-1]≠255)->kx (.exit 0) (w,0,(m:Int))=c) :
  ∀(k n:Nat),n<=w.length->n<k->w.drop n=List.replicate (w.length-n) 255->Aj (λrec=>Ou rec kx) k (w,0,(n:Int))=c
 |0,n,_,h,_=>by omega
 |k+1,n,hn,hk,hd=>by
  rw[Ay];by_cases h0 : 0<n
  ·have hl:n-1<w.length:=by omega
   have e0:wr .i64 ((n:Int)-1)=((n-1:Nat):Int):=by rw[B3 (by simp only[inI];omega)];omega
   have e1:decide ((0:Int)<(n:Int))=true:=Ze1 (by omega);have e2:inO ((n-1:Nat):Int) (n:Int)=true:=by simp only[inO,Zb1,Zg1];omega
   have e3:upI 0 ((n-1:Nat):Int) (n:Int)=true:=by simp only[upI,Zb1,Zg1];omega
   simp only[Ou,e1,Af,e0,e2,chk,Int.zero_add,As hl,Al (c :=.byte) hl,e3];have q:decide (((w[n-1]).toNat:Int)=255)=decide (w[n-1]=255):=Bu9 255;rw[q];by_cases hc:w[n-1]=255
   ·rw[Ze1 hc,Af];refine Akh hw h k (n-1) (by omega) (by omega) (A29 hl ?_ hc);rw[show n-1+1=n by omega];exact hd
   ·rw[Zd1 hc,Ag];exact h n hn hd λ_ _=>hc
  ·have h00:n=0:=by omega
   subst h00;have e1:decide ((0:Int)<((0:Nat):Int))=false:=rfl;simp only[Ou,e1,Ag];exact h 0 hn hd λ_ h=>absurd h (by omega)
theorem Bue{w:Str}{m:Nat}(hm:m<=w.length)(hd:w.drop m=List.replicate (w.length-m) 255)(h0 : 0<m)(hc:w[m-1]≠255):nxt w=w.take (m-1)++[w[m-1]+1]:=by
 have e:w=w.take (m-1)++w[m-1]::List.replicate (w.length-m) 255:=by
  rw[<-hd]
  conv=>lhs;rw[<-List.take_append_drop (m-1) w]
  rw[Ak (show m-1<w.length by omega),show m-1+1=m by omega]
 rw[<-Axv hc (w.length-m) (w.take (m-1)),<-e]
theorem Bew{w:Str}(hd:w.drop 0=List.replicate (w.length-0) 255):nxt w=[]:=by rw[Zq1] at hd;rw[hd];exact Asn _
theorem Bcs(b:UInt8):UInt8.ofNat (wr .u8 ((b.toNat:Int)+1)).toNat=b+1:=by
 have:wr .u8 ((b.toNat:Int)+1)=(((b.toNat+1) % 256:Nat):Int):=by simp[wr,IntKind.wrap,IntKind.bits,IntKind.signed]
 rw[this,Int.toNat_natCast];apply UInt8.toNat_inj.1;simp
theorem Bnq{w:Str}{m:Nat}{c:UInt8}(h0 : 0<m)(hm:m<=w.length):cut (w.set (m-1) c) 0 (m:Int)=w.take (m-1)++[c]:=by
 simp only[cut,Int.toNat_zero,Zq1,Int.toNat_natCast,Nat.sub_zero];rw[List.take_set];have:w.take m=w.take (m-1)++[w[m-1]]:=by
  conv=>lhs;rw[show m=(m-1)+1 by omega]
  exact(List.take_append_getElem _).symm
 have hl:(w.take (m-1)).length=m-1:=by rw[List.length_take];omega
 rw[this,List.set_append_right (h:=by omega),hl,Nat.sub_self];rfl
theorem Axy:FO 38 [.sl .byte false] [.sl .byte false] Af0 :=.fin 0 A95 λb r hb hx=>⟨b.length+1,by
 simp only[Af0,Aw0] at hx;cases hc:decide (b.length<=2000000) with
 |false=>rw[hc] at hx;cases hx
 |true =>
  rw[hc] at hx;have hl:=of_decide_eq_true hc;have hx:some (nxt b)=some r:=hx;rw[<-hx];have e1:Cb b=some b:=by simp only[Cb];rw[Ze1 hl];rfl
  simp only[Aj1,e1,Zc1];by_cases hb0:b=[]
  ·subst hb0;rfl
  ·have e2:List.isEmpty b=false:=by cases b with|nil=>exact absurd rfl hb0|cons _ _=>rfl
   rw[e2,Ag];refine Akh (c:=some (nxt b)) hl (λm hm hd hcc =>?_) (b.length+1) b.length (Zn1 _) (by omega) (by simp);by_cases h0 : 0<m
   ·have hml:m-1<b.length:=by omega
    have f0:wr .i64 ((m:Int)-1)=((m-1:Nat):Int):=by rw[B3 (by simp only[inI];omega)];omega
    have f1:decide ((0:Int)<(m:Int))=true:=Ze1 (by omega);have f2:inO ((m-1:Nat):Int) (m:Int)=true:=by simp only[inO,Zb1,Zg1];omega
    have f3:∀x:UInt8,(decide ((0:Int)<=0)&&decide ((0:Int)<=(m:Int))&&decide ((m:Int)<=(((b.set (m-1) x).length:Nat):Int)))=true:=λx=>by simp only[List.length_set,Zb1,Zg1];omega
    simp only[f1,Af,f0,f2,chk,Int.zero_add,As hml,Al (c :=.byte) hml,Int.toNat_natCast,f3,Bcs];rw[Bnq h0 hm,Bue hm hd h0 (hcc hml h0)]
   ·have hm0:m=0:=by omega
    subst hm0;have f1:decide ((0:Int)<((0:Nat):Int))=false:=rfl;have f3:(decide ((0:Int)<=0)&&decide ((0:Int)<=((0:Nat):Int))&&decide ((0:Int)+((0:Nat):Int)<=((b.length:Nat):Int)))=true:=by simp
    simp only[f1,Ag,f3,chk,Af];rw[Bew hd];simp[cut]⟩
def Boi(R:Type):Px R:=pxO [(124,cA Aab)] [] [] []
def Ao6(x:HV [.str]):Option (HV [.sl .byte true]):=match x with
 |s =>
 chk (decide (s.length<=Ah)) (
  (Akj s [(UInt8.ofNat (0:Int).toNat)] [(UInt8.ofNat (0:Int).toNat),(UInt8.ofNat (255:Int).toNat)]).bind λx =>
  chk (decide (x.length+2<=Ah)) (
   some (x++[(UInt8.ofNat (0:Int).toNat),(UInt8.ofNat (1:Int).toNat)])))
theorem Bkc:FO 81 [.str] [.sl .byte true] (Ao6):=fR (px:=Boi _) (n:=0) Tryz.func81 rfl (λ_ H=>⟨lv H (c1 H Aqc Ae) Aa Ab,Ai⟩) λ_=>by kernel_rfl
def A3w(s:Str):Option Str:=cond (decide (s.length<=68719476736)) (some (esc s++[0,1])) none
def A38:FT [.str] [.sl .byte true]:=λx=>A3w x
theorem Bob:FO 81 [.str] [.sl .byte true] A38 :=.fin0 Bkc λs r _ hx=>by
 simp only[A38,A3w] at hx;cases hc:decide (s.length<=68719476736) with
 |false=>rw[hc] at hx;cases hx
 |true =>
  rw[hc] at hx;have hl:=of_decide_eq_true hc;have hcl:s.count 0<=s.length:=List.count_le_length;have hNl:=S5 s;rw[<-hx];have c1:decide (s.length<=Ah)=true:=Ze1 (by simp only[Ah];omega);have c2:Akj s [0] [0,255]=some (esc s):=by simp[Akj,Aq1,hc]
  have c3:decide ((esc s).length+2<=Ah)=true:=Ze1 (by simp only[Ah];omega);simp[Ao6,c1,c2,c3,chk]
def Bt(x s:Nat):UInt8:=UInt8.ofNat (x / 2 ^ s % 256)
def Ajt(x:Nat):Str:=[Bt x 56,Bt x 48,Bt x 40,Bt x 32,Bt x 24,Bt x 16,Bt x 8,Bt x 0]
def Arz(n:Int):Str:=Ajt (n+9223372036854775808).toNat
def Hc(v:Val):Str:=cond (decide (v.kind=2)) [UInt8.ofNat v.n.toNat] (cond (decide (v.kind=3)) (Arz v.n) (cond (decide (v.kind=4)||decide (v.kind=5)) (esc v.s++[0,1]) []))
def L1(v:Val):Str:=UInt8.ofNat v.kind.toNat::Hc v
def E4(l:List Val):Str:=l.flatMap L1
def vsz:List Val->Nat
 |[]=>0
 |v::l=>v.s.length+1+vsz l
theorem Agx:∀a b,vsz (a++b)=vsz a+vsz b
 |[],b=>by simp[vsz]
 |v::a,b=>by simp only[Zb2,vsz,Agx a b];omega
theorem Bp3{l:List Val}{i:Nat}(h:i<l.length):vsz (l.take i)+(l[i].s.length+1)<=vsz l:=by have h1:=Agx (l.take i) (l.drop i);rw[List.take_append_drop,Ak h] at h1;simp only[vsz] at h1;omega
theorem Bgp(v:Val):(L1 v).length<=9*(v.s.length+1):=by have h:=S5 v.s;have hc:v.s.count 0<=v.s.length:=List.count_le_length;simp only[L1,Hc,Zf1];cases decide (v.kind=2)<;>cases decide (v.kind=3)<;>cases (decide (v.kind=4)||decide (v.kind=5))<;>simp[Arz,Ajt]<;>omega
theorem A0q(l:List Val):(E4 l).length<=9*vsz l:=by induction l with|nil=>simp[E4]|cons v l ih =>have:=Bgp v;simp only[E4,List.flatMap_cons,Zh1,vsz] at ih ⊢;omega
theorem Awx(a b:List Val):E4 (a++b)=E4 a++E4 b:=by simp[E4]
theorem Beg{l:List Val}{i:Nat}(h:i<l.length):E4 (l.take (i+1))=E4 (l.take i)++L1 l[i]:=by rw[<-List.take_append_getElem h,Awx];simp[E4]
theorem Bsk{x:Nat}(h:x<2 ^ 63):x ^^^ 2 ^ 63=x+2 ^ 63:=by
 rw[Nat.add_comm,Nat.xor_comm];apply Nat.eq_of_testBit_eq;intro i;rw[Nat.testBit_xor,Nat.testBit_two_pow];rcases Nat.lt_trichotomy i 63 with hi|rfl|hi
 ·rw[Nat.testBit_two_pow_add_gt hi];simp[Nat.ne_of_gt hi]
 ·rw[Nat.testBit_two_pow_add_eq,Nat.testBit_lt_two_pow h];simp
 ·rw[Nat.testBit_lt_two_pow (Zx1 h (Nat.pow_le_pow_right (by omega) (by omega)))];rw[Nat.testBit_lt_two_pow (show 2 ^ 63+x<2 ^ i from Zx1 (show 2 ^ 63+x<2 ^ 64 by omega) (Nat.pow_le_pow_right (by omega) (by omega)))];simp[Nat.ne_of_lt hi]
theorem Ay0{m:Nat}(h:m<18446744073709551616):IntKind.wrap .u64 (m:Int)=(m:Int):=by simp[IntKind.wrap,IntKind.bits,IntKind.signed];omega
theorem Bpm{n:Int}(h:inI n):∃a:Nat,wr .u64 n=(a:Int)/\a<18446744073709551616/\((0<=n/\(a:Int)=n)\/(n<0/\(a:Int)=n+18446744073709551616)):=by
 simp only[inI] at h;have e:wr .u64 n=n % 18446744073709551616:=by simp[wr,IntKind.wrap,IntKind.bits,IntKind.signed]
 refine⟨(n % 18446744073709551616).toNat,?_,?_,?_⟩<;>omega
theorem Bts{n:Int}(h:inI n):Xh .u64 (wr .u64 n) 9223372036854775808=n+9223372036854775808:=by
 obtain⟨a,ha,hlt,hc⟩:=Bpm h;have e1:(BitVec.ofInt 64 (a:Int)).toNat=a:=by simp;omega
 have e2:(BitVec.ofInt 64 (9223372036854775808:Int)).toNat=2 ^ 63:=by decide
 have e3:Xh .u64 (a:Int) 9223372036854775808=IntKind.wrap .u64 (((a ^^^ 2 ^ 63:Nat)):Int):=by show IntKind.wrap .u64 (((BitVec.ofInt 64 (a:Int) ^^^ BitVec.ofInt 64 (9223372036854775808:Int)).toNat:Nat):Int)=_;rw[BitVec.toNat_xor,e1,e2]
 rw[ha,e3];simp only[inI] at h;rcases hc with ⟨h0,h1⟩|⟨h0,h1⟩
 ·rw[Bsk (by omega),Ay0 (by omega)];omega
 ·obtain⟨b,rfl⟩:∃b,a=b+2 ^ 63:=⟨a-2 ^ 63,by omega⟩;rw[<-Bsk (x:=b) (by omega),Nat.xor_assoc,Nat.xor_self,Nat.xor_zero,Ay0 (by omega)];omega
theorem Bcf(x s:Nat)(hs:s<=63):UInt8.ofNat (wr .u8 (D5 .u64 (x:Int) (s:Int))).toNat=UInt8.ofNat (x / 2 ^ s % 256):=by
 have e:min (s:Int).toNat (IntKind.bits .u64)=s:=by simp[IntKind.bits];omega
 have e2:D5 .u64 (x:Int) (s:Int)=((x / 2 ^ s:Nat):Int):=by
  simp only[D5,e];have e0:((2:Int) ^ s)=((2 ^ s:Nat):Int):=by simp
  rw[e0,Int.fdiv_eq_ediv_of_nonneg _ (Int.natCast_nonneg _)];rfl
 have e3:wr .u8 ((x / 2 ^ s:Nat):Int)=((x / 2 ^ s % 256:Nat):Int):=by simp[wr,IntKind.wrap,IntKind.bits,IntKind.signed]
 rw[e2,e3,Int.toNat_natCast]
def Arf:Sig:=⟨64,[(2,.sl .byte true),(3,.int .i64),(4,.sl .byte true),(8,.int .u64),(9,.int .i64),(10,.sl .val false),(11,.int .i64),(12,.int .i64)],[],[],0,0,0,[],[]⟩
abbrev Li:=List UInt8×Int×List UInt8×Int×Int×List Val×Int×Int
def Ny{R:Type}(rec:Li->Option R)(kx:Ex->Li->Option R)(v:Li):Option R:=match v with
 |(v6,v7,v8,v9,a,b,c,d) =>
 cond (decide (0<=a)) (
  chk (decide (0<=a)) (
  chk (decide (v8.length+1<=Ah)) (
   rec (v6,v7,(v8++[(UInt8.ofNat ((wr .u8 (D5 .u64 v9 a)):Int).toNat)]),v9,(wr .i64 (a-8)),b,c,d)))) (
  kx (.exit 3) (v6,v7,v8,v9,a,b,c,d))
def Apg:Sig:=⟨64,[(2,.sl .byte true),(3,.int .i64),(4,.sl .byte true),(10,.sl .val false),(11,.int .i64),(12,.int .i64)],[],[],0,0,0,[],[]⟩
abbrev Ll:=List UInt8×Int×List UInt8×List Val×Int×Int
def Xl{R:Type}(k:Nat)(rec:Ll->Option R)(kx:Ex->Ll->Option R)(v:Ll):Option R:=match v with
 |(v,v1,v2,v3,v4,v5) =>
 cond (decide (v5<v4)) (
  chk (inb v5 v3.length) (
  cond (!decide ((Eg (at' .val v3 v5))=0)) (
   kx .ret ([],(Eg (at' .val v3 v5)),v2,v3,v4,v5)) (
   chk (decide (v2.length+1<=Ah)) (
   cond (decide ((at' .val v3 v5).kind=2)) (
    chk (decide ((v2++[(UInt8.ofNat ((wr .u8 ((at' .val v3 v5).kind)):Int).toNat)]).length+1<=Ah)) (
    rec (v,v1,((v2++[(UInt8.ofNat ((wr .u8 ((at' .val v3 v5).kind)):Int).toNat)])++[(UInt8.ofNat ((wr .u8 ((at' .val v3 v5).n)):Int).toNat)]),v3,v4,(wr .i64 (v5+1))))) (
    cond (decide ((at' .val v3 v5).kind=3)) (
    Aj (λrc=>Ny rc (λe vz=>match vz with|(a,b,c,_,_,d,f,g)=>match e with
     |.exit 3 =>
     rec (a,b,c,d,f,(wr .i64 (g+1)))
     |_=>none)) k (v,v1,(v2++[(UInt8.ofNat ((wr .u8 ((at' .val v3 v5).kind)):Int).toNat)]),(Xh .u64 (wr .u64 ((at' .val v3 v5).n)) 9223372036854775808),56,v3,v4,v5)) (
    let j:=λ(p:Bool) =>
     cond (p) (
     (A3w ((at' .val v3 v5).s)).bind λx =>
      chk (decide ((v2++[(UInt8.ofNat ((wr .u8 ((at' .val v3 v5).kind)):Int).toNat)]).length+x.length<=Ah)) (
      rec (v,v1,((v2++[(UInt8.ofNat ((wr .u8 ((at' .val v3 v5).kind)):Int).toNat)])++x),v3,v4,(wr .i64 (v5+1))))) (
     rec (v,v1,(v2++[(UInt8.ofNat ((wr .u8 ((at' .val v3 v5).kind)):Int).toNat)]),v3,v4,(wr .i64 (v5+1))))
    cond (decide ((at' .val v3 v5).kind=4)) (
     j (decide ((at' .val v3 v5).kind=4))) (
     j (decide ((at' .val v3 v5).kind=5))))))))) (
  kx (.exit 0) (v,v1,v2,v3,v4,v5))
def A6a(R:Type)(k:Nat):Px R:=pxO [(80,cA Qs),(81,cA A38)] [] [(15,Am k Arf (Ny)),(3,Am k Apg (Xl k))] []
def Am2(k:Nat)(x:HV [.sl .val false]):Option (HV [.sl .byte true,.int .i64]):=match x with
 |l =>
 Aj (λrec=>Xl k rec (λe vz=>match vz with|(a,b,c,_,_,_)=>match e with
  |.ret =>
  some (a,b)
  |.exit 0 =>
  some (c,0)
  |_=>none)) k ([],0,[],l,(l.length:Int),0)
theorem Bil(k:Nat):FO 45 [.sl .val false] [.sl .byte true,.int .i64] (Am2 k):=fR (px:=A6a _ k) (n:=2) Tryz.func45 rfl (λcx H=>by have h0:Lv cx (A6a (HV [.sl .byte true,.int .i64]) k):=lv H (c1 H Ud (c1 H Bob Ae)) Aa Ab;have hlkenc_1:=lO H h0 (b:=lpC (lp Tryz.f45 0) 0) (k:=k) (n:=0) (s:=Arf) (step:=Ny) (λ_ _ _ (_,_,_,_,_,_,_,_)=>by kernel_rfl) Ai;have hlkenc_0:=lO H h0 (b:=lp Tryz.f45 0) (k:=k) (n:=1) (s:=Apg) (step:=Xl k) (λ_ _ _ (_,_,_,_,_,_)=>by kernel_rfl) (A6 Ai hlkenc_1);exact⟨h0,(A6 (A6 Ai hlkenc_0) hlkenc_1)⟩) λ_=>by kernel_rfl
def Bgr(l:List Val):Option (Str×Int):=cond (decide (vsz l<=1000000)) (some (cond (l.all Aq) (E4 l,0) ([],2))) none
def A2w:FT [.sl .val false] [.sl .byte true,.int .i64]:=λx=>Bgr x
theorem Bc6{R:Type}{rec:Li->Option R}{kx:Ex->Li->Option R}{q acc:Str}{e:Int}{x s:Nat}{l:List Val}{n i:Int}(hs:s<=63)(ha:acc.length<=20000000):Ny rec kx (q,e,acc,(x:Int),(s:Int),l,n,i)=rec (q,e,acc++[Bt x s],(x:Int),wr .i64 ((s:Int)-8),l,n,i):=by have c1:decide ((0:Int)<=(s:Int))=true:=Ze1 (by omega);have c2:decide (acc.length+1<=Ah)=true:=Ze1 (by simp only[Ah];omega);simp only[Ny,c1,c2,chk,Af,Bcf x s hs,Bt]
theorem A3r{R:Type}{kx:Ex->Li->Option R}{q acc:Str}{e:Int}{x:Nat}{l:List Val}{n i:Int}{k:Nat}(ha:acc.length<=10000000):Aj (λrec=>Ny rec kx) (k+9) (q,e,acc,(x:Int),56,l,n,i)=kx (.exit 3) (q,e,acc++Ajt x,(x:Int), -8,l,n,i):=by
 have st:∀(k s:Nat) (acc:Str) (t:Int),s<=63->acc.length<=20000000->wr .i64 ((s:Int)-8)=t->Aj (λrec=>Ny rec kx) (k+1) (q,e,acc,(x:Int),(s:Int),l,n,i)=Aj (λrec=>Ny rec kx) k (q,e,acc++[Bt x s],(x:Int),t,l,n,i):=λk s acc t h1 h2 h3=>by rw[Ay,Bc6 h1 h2,h3]
 have e1:=st (k+8) 56 acc 48 (by omega) (by omega) (by decide);have e2:=st (k+7) 48 (acc++[Bt x 56]) 40 (by omega) (by simp;omega) (by decide);have e3:=st (k+6) 40 (acc++[Bt x 56]++[Bt x 48]) 32 (by omega) (by simp;omega) (by decide);have e4:=st (k+5) 32 (acc++[Bt x 56]++[Bt x 48]++[Bt x 40]) 24 (by omega) (by simp;omega) (by decide);have e5:=st (k+4) 24 (acc++[Bt x 56]++[Bt x 48]++[Bt x 40]++[Bt x 32]) 16 (by omega) (by simp;omega) (by decide);have e6:=st (k+3) 16 (acc++[Bt x 56]++[Bt x 48]++[Bt x 40]++[Bt x 32]++[Bt x 24]) 8 (by omega) (by simp;omega) (by decide);have e7:=st (k+2) 8 (acc++[Bt x 56]++[Bt x 48]++[Bt x 40]++[Bt x 32]++[Bt x 24]++[Bt x 16]) 0 (by omega) (by simp;omega) (by decide);have e8:=st (k+1) 0 (acc++[Bt x 56]++[Bt x 48]++[Bt x 40]++[Bt x 32]++[Bt x 24]++[Bt x 16]++[Bt x 8]) (-8) (by omega) (by simp;omega) (by decide);refine e1.trans (e2.trans (e3.trans (e4.trans (e5.trans (e6.trans (e7.trans (e8.trans ?_)))))));rw[Ay];have c1:decide ((0:Int) <= -8)=false:=rfl;simp only[Ny,c1,Ag,Ajt,Zj1,Zb2,Zf2]
theorem Ei{v:Val}:Aq v=true↔(v.kind=1/\v.n=0/\v.s=[])\/(v.kind=2/\(v.n=0\/v.n=1)/\v.s=[])\/(v.kind=3/\v.s=[])\/(v.kind=4/\v.n=0/\v.s.length<=1000/\S0 v.s=true)\/(v.kind=5/\v.n=0/\v.s.length<=1000):=by
 have hl:(v.s.length:Int)<=1000↔v.s.length<=1000:=by omega
 by_cases h1:v.kind=1
 ·by_cases h0:v.n=0<;>simp[Aq,h1,h0]
 by_cases h2:v.kind=2
 ·by_cases h0:v.n=0
  ·simp[Aq,h2,h0]
  ·by_cases h3:v.n=1<;>simp[Aq,h2,h0,h3]
 by_cases h3:v.kind=3
 ·simp[Aq,h3]
 by_cases h4:v.kind=4
 ·by_cases h0:v.n=0
  ·by_cases h5:v.s.length<=1000<;>simp[Aq,h4,h0,h5,hl]
  ·simp[Aq,h4,h0]
 by_cases h5:v.kind=5
 ·by_cases h0:v.n=0<;>simp[Aq,h5,h0,hl]
 simp[Aq,h1,h2,h3,h4,h5]
theorem A2c{R:Type}{rec:Ll->Option R}{kx:Ex->Ll->Option R}{l:List Val}{q:Str}{e:Int}{acc:Str}{i k:Nat}(hl:ln l.length)(hi:i<l.length)(hb:Aky l[i])(ha:acc.length<=9000000)(hs:l[i].s.length<=1000000):Xl (k+9) rec kx (q,e,acc,l,(l.length:Int),(i:Int))=cond (Aq l[i]) (rec (q,e,acc++L1 l[i],l,(l.length:Int),((i+1:Nat):Int))) (kx .ret ([],2,acc,l,(l.length:Int),(i:Int))):=by
 have c1:decide ((i:Int)<(l.length:Int))=true:=Ze1 (by omega);have c2:wr .i64 ((i:Int)+1)=((i+1:Nat):Int):=An hi hl;have c3:decide (acc.length+1<=Ah)=true:=Ze1 (by simp only[Ah];omega);simp only[Xl,c1,Af,As hi,chk,Al (c :=.val) hi,c2,c3];generalize l[i]=v at *;cases hr:Aq v with
 |false =>
  have hc:Eg v=2:=by simp[Eg,hr]
  simp only[hc];rfl
 |true =>
  have hc:Eg v=0:=Ag8.2 hr;have c4:(!decide (Eg v=0))=false:=by rw[hc];rfl
  have c5:∀b:UInt8,decide ((acc++[b]).length+1<=Ah)=true:=λb=>Ze1 (by simp only[Ah,Zh1,List.length_singleton];omega);simp only[c4,Ag,c5,Af];have w1:wr .u8 1=1:=by decide
  have w2:wr .u8 2=2:=by decide
  have w3:wr .u8 3=3:=by decide
  have w4:wr .u8 4=4:=by decide
  have w5:wr .u8 5=5:=by decide
  have w0:wr .u8 0=0:=by decide
  rcases Ei.1 hr with ⟨h,_⟩|⟨h,hn,_⟩|⟨h,_⟩|⟨h,_,hsl,_⟩|⟨h,_,hsl⟩
  ·simp[h,L1,Hc,w1]
  ·rcases hn with hn|hn<;>simp[h,hn,L1,Hc,w0,w1,w2]
  ·obtain⟨x,hxe,hx⟩:∃x:Nat,(v.n+9223372036854775808).toNat=x/\Xh .u64 (wr .u64 v.n) 9223372036854775808=(x:Int):=by have:=hb.2.1;refine⟨_,rfl,?_⟩;rw[Bts this];simp only[inI] at this;omega
   have h8:=A3r (R:=R) (kx:=λe v=>match v with|(a,d,f,_,_,g,j,m)=>match e with
     |.exit 3=>rec (a,d,f,g,j,(wr .i64 (m+1)))
     |_=>none) (q:=q) (acc:=acc++[3]) (e:=e) (x:=x) (l:=l) (n:=(l.length:Int)) (i:=(i:Int)) (k:=k) (by simp;omega)
   have p1:L1 v=3::Ajt x:=by simp[L1,Hc,h,Arz,hxe]
   have d2:decide (v.kind=2)=false:=by rw[h];rfl
   have d3:decide (v.kind=3)=true:=by rw[h];rfl
   have d0:UInt8.ofNat (wr .u8 v.kind).toNat=3:=by rw[h,w3];rfl
   simp only[d2,d3,d0,Ag,Af,hx,p1,h8,c2,Zj1,Zb2,Zf2]
  ·have hk:A3w v.s=some (esc v.s++[0,1]):=by simp only[A3w,Ze1 (show v.s.length<=68719476736 by omega),Af]
   have hc1:v.s.count 0<=v.s.length:=List.count_le_length;have hc2:=S5 v.s;have hc3:acc.length+1+((esc v.s).length+2)<=Ah:=by simp only[Ah];omega
   simp[h,L1,Hc,w4,hk,hc3]
  ·have hk:A3w v.s=some (esc v.s++[0,1]):=by simp only[A3w,Ze1 (show v.s.length<=68719476736 by omega),Af]
   have hc1:v.s.count 0<=v.s.length:=List.count_le_length;have hc2:=S5 v.s;have hc3:acc.length+1+((esc v.s).length+2)<=Ah:=by simp only[Ah];omega
   simp[h,L1,Hc,w5,hk,hc3]
theorem Aou{R:Type}{kx:Ex->Ll->Option R}{l:List Val}{c1 c2:Option R}{k0:Nat}(hl:ln l.length)(hb:∀v,v∈l->Aky v)(hz:vsz l<=1000000)(h1:∀q i,kx .ret ([],2,q,l,(l.length:Int),i)=c1)(h2:∀q e,kx (.exit 0) (q,e,E4 l,l,(l.length:Int),(l.length:Int))=c2) :
  ∀(k i:Nat) (q:Str) (e:Int),i<=l.length->l.length-i<k->Aj (λrec=>Xl (k0+9) rec kx) k (q,e,E4 (l.take i),l,(l.length:Int),(i:Int))=cond ((l.drop i).all Aq) c2 c1
 |0,i,q,e,_,h=>by omega
 |k+1,i,q,e,hi,h=>by
  rw[Ay];by_cases hlt:i<l.length
  ·have hg:=Bp3 hlt;have hel:=A0q (l.take i);rw[A2c hl hlt (hb _ (List.getElem_mem hlt)) (by omega) (by omega),<-Beg hlt,Aou hl hb hz h1 h2 k (i+1) q e (by omega) (by omega),h1,Ak hlt];simp only[Zv1];cases Aq l[i]<;>rfl
  ·have hi:i=l.length:=by omega
   subst hi;simp only[Xl,Zd1 (show ¬((l.length:Nat):Int)<(l.length:Int) by omega),Ag,List.take_length,h2,Zc2];rfl
theorem Bny:FO 45 [.sl .val false] [.sl .byte true,.int .i64] A2w :=.fin 0 Bil λl r hb hx=>⟨l.length+10,by
 simp only[A2w,Bgr] at hx;cases hc:decide (vsz l<=1000000) with
 |false=>rw[hc] at hx;cases hx
 |true =>rw[hc] at hx;have hx:some (cond (l.all Aq) (E4 l,0) ([],2))=some r:=hx;rw[<-hx];simp only[Am2];refine(Aou (c1:=some ([],2)) (c2:=some (E4 l,0)) (k0:=l.length+1) hb.1 hb.2 (of_decide_eq_true hc) (λ_ _=>rfl) (λ_ _=>rfl) (l.length+10) 0 [] 0 (Nat.zero_le _) (by omega)).trans ?_;rw[Zq1];cases l.all Aq<;>rfl⟩
end Go.Proofs.YtcoaaebppfbbnaaGreatDoor
