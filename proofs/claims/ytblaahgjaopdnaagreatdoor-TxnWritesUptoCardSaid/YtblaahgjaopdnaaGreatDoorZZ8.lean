/- Texts of the proof,one behind the other: Xe,Xf,Vh,Xg,Vj,Xh,Xi,Xj,Xk,Xl,Xm,Xn,Xo,Xr,Xs,Xt,Xv,Xw,Xx,Xp,Xq. -/
import Derived.Test.YtblaahgjaopdnaaGreatDoorZZ7
set_option linter.all false
namespace Go.Proofs.YtblaahgjaopdnaaGreatDoor
open Go.Ax
noncomputable section
def Bsm(R:Type):Px R:=pxO [] [] [] []
def Jm(x:HV [.sl .byte false,.sl .byte false]):Option (HV [.bool]):=match x with
 |(a,b) =>
 some (decide (a=b))
theorem Bhr:FO 11 [.sl .byte false,.sl .byte false] [.bool] (Jm):=fR (px:=Bsm _) (n:=0) Tryz.func11 rfl (λ_ H=>⟨lv H Ae Aa Ab,Ai⟩) λ(_,_)=>by kernel_rfl
def Akc(a b:Str):Option Bool:=Jm (a,b)
def Awg:FT [.sl .byte false,.sl .byte false] [.bool]:=λx=>Akc x.1 x.2
theorem Az2:FO 11 [.sl .byte false,.sl .byte false] [.bool] Awg :=.fin0 Bhr λ_ _ _ hx=>hx
def Bus(R:Type):Px R:=pxO [] [] [] []
def Aff(x:HV [.sv .val,.sv .val]):Option (HV [.int .i64]):=match x with
 |(a,b) =>
 let j:=λ(p1:Bool) =>
  cond (p1) (
  some (-1)) (
  cond (decide (a.kind=b.kind)) (
   cond (decide (a.n=b.n)) (
   cond (Op.bytesLess a.s b.s) (
    some (-1)) (
    cond (decide (a=b)) (
    some 0) (
    some 1))) (
   cond (decide (a=b)) (
    some 0) (
    some 1))) (
   cond (decide (a=b)) (
   some 0) (
   some 1)))
 cond (decide (a.kind<b.kind)) (
  j true) (
  cond (decide (a.kind=b.kind)) (
  j (decide (a.n<b.n))) (
  j false))
theorem Bkh:FO 106 [.sv .val,.sv .val] [.int .i64] (Aff):=fR (px:=Bus _) (n:=0) Tryz.func106 rfl (λ_ H=>⟨lv H Ae Aa Ab,Ai⟩) λ(_,_)=>by kernel_rfl
def Bpo(a b:Val):Option Int:=Aff (a,b)
def Bku:FT [.sv .val,.sv .val] [.int .i64]:=λx=>Bpo x.1 x.2
theorem Bvv:FO 106 [.sv .val,.sv .val] [.int .i64] Bku :=.fin0 Bkh λ_ _ _ hx=>hx
def Anr:Sig:=⟨59,[(0,.sl .val false),(1,.sl .val false),(5,.int .i64)],[],[],0,0,0,[],[]⟩
abbrev Tc:=List Val×List Val×Int
def Iy{R:Type}(rec:Tc->Option R)(kx:Ex->Tc->Option R)(v:Tc):Option R:=match v with
 |(v,v1,v2) =>
 let j:=λ(p:Bool) =>
  cond (p) (
  chk (inb v2 v.length) (
   chk (inb v2 v1.length) (
   cond (decide ((at' .val v v2)=(at' .val v1 v2))) (
    rec (v,v1,(wr .i64 (v2+1)))) (
    kx (.exit 0) (v,v1,v2))))) (
  kx (.exit 0) (v,v1,v2))
 cond (decide (v2<(v.length:Int))) (
  j (decide (v2<(v1.length:Int)))) (
  j false)
def A1f(R:Type)(k:Nat):Px R:=pxO [(106,cA Bku)] [] [(2,Al k Anr (Iy))] []
def Yg(k:Nat)(x:HV [.sl .val false,.sl .val false]):Option (HV [.int .i64]):=match x with
 |(a,b) =>
 Aj (λrec=>Iy rec (λe vz=>match vz with|(v3,v4,v5)=>match e with
  |.exit 0 =>
  let j1:=λ(p4:Bool) =>
   cond (p4) (
   chk (inb v5 v3.length) (
    chk (inb v5 v4.length) (
    (Bpo (at' .val v3 v5) (at' .val v4 v5)).bind λx =>some x))) (
   cond (decide (v5<(v4.length:Int))) (
    some (-1)) (
    cond (decide (v5<(v3.length:Int))) (
    some 1) (
    some 0)))
  cond (decide (v5<(v3.length:Int))) (
   j1 (decide (v5<(v4.length:Int)))) (
   j1 false)
  |_=>none)) k (a,b,0)
theorem Bij(k:Nat):FO 66 [.sl .val false,.sl .val false] [.int .i64] (Yg k):=fR (px:=A1f _ k) (n:=1) Tryz.func66 rfl (λcx H=>by have h0:Lv cx (A1f (HV [.int .i64]) k):=lv H (c1 H Bvv Ae) Aa Ab;have hldrows_0:=lO H h0 (b:=lp Tryz.f66 0) (k:=k) (n:=0) (s:=Anr) (step:=Iy) (λ_ _ _ (_,_,_)=>by kernel_rfl) Ai;exact⟨h0,(A2 Ai hldrows_0)⟩) λ(_,_)=>by kernel_rfl
def Bl1(a b:List Val):Option Int:=Yg 10000 (a,b)
def Bay:FT [.sl .val false,.sl .val false] [.int .i64]:=λx=>Bl1 x.1 x.2
theorem Bor:FO 66 [.sl .val false,.sl .val false] [.int .i64] Bay :=.fin 0 Bij λ_ _ _ hx=>⟨10000,hx⟩
def Aie:Sig:=⟨27,[(0,.sl .vals false),(1,.sl .vals false),(4,.bool),(5,.int .i64)],[],[],0,0,0,[],[]⟩
abbrev On:=List (List Val)×List (List Val)×Bool×Int
def Mu{R:Type}(rec:On->Option R)(kx:Ex->On->Option R)(v:On):Option R:=match v with
 |(v,v1,v2,v3) =>
 cond (decide (v3<(v.length:Int))) (
  chk (inb v3 v.length) (
  chk (inb v3 v1.length) (
   (Bl1 (at' .vals v v3) (at' .vals v1 v3)).bind λx =>
   cond (!decide (x=0)) (
    kx .ret (v,v1,false,v3)) (
    rec (v,v1,v2,(wr .i64 (v3+1))))))) (
  kx (.exit 0) (v,v1,v2,v3))
def Aqe(R:Type)(k:Nat):Px R:=pxO [(66,cA Bay)] [] [(4,Al k Aie (Mu))] []
def K7(k:Nat)(x:HV [.sl .vals false,.sl .vals false]):Option (HV [.bool]):=match x with
 |(a,b) =>
 cond (!decide ((a.length:Int)=(b.length:Int))) (
  some false) (
  Aj (λrec=>Mu rec (λe vz=>match vz with|(_,_,v6,_)=>match e with
  |.ret =>some v6
  |.exit 0 =>some true
  |_=>none)) k (a,b,false,0))
theorem A67(k:Nat):FO 50 [.sl .vals false,.sl .vals false] [.bool] (K7 k):=fR (px:=Aqe _ k) (n:=1) Tryz.func50 rfl (λcx H=>by have h0:Lv cx (Aqe (HV [.bool]) k):=lv H (c1 H Bor Ae) Aa Ab;have hldsrows_0:=lO H h0 (b:=lp Tryz.f50 0) (k:=k) (n:=0) (s:=Aie) (step:=Mu) (λ_ _ _ (_,_,_,_)=>by kernel_rfl) Ai;exact⟨h0,(A2 Ai hldsrows_0)⟩) λ(_,_)=>by kernel_rfl
def A8g(a b:List (List Val)):Option Bool:=K7 10000 (a,b)
def Azn:FT [.sl .vals false,.sl .vals false] [.bool]:=λx=>A8g x.1 x.2
theorem Bgc:FO 50 [.sl .vals false,.sl .vals false] [.bool] Azn :=.fin 0 A67 λ_ _ _ hx=>⟨10000,hx⟩
def Br7(R:Type):Px R:=pxO [(50,cA Azn)] [] [] []
def Y4(x:HV [.sv .res,.sv .res]):Option (HV [.bool]):=match x with
 |(a,b) =>
 cond (decide (a.n=b.n)) (
  (A8g a.rows b.rows).bind λx =>
  some x) (
  some false)
theorem Bfm:FO 29 [.sv .res,.sv .res] [.bool] (Y4):=fR (px:=Br7 _) (n:=0) Tryz.func29 rfl (λ_ H=>⟨lv H (c1 H Bgc Ae) Aa Ab,Ai⟩) λ(_,_)=>by kernel_rfl
def A9s(a b:ResS):Option Bool:=Y4 (a,b)
def Bde:FT [.sv .res,.sv .res] [.bool]:=λx=>A9s x.1 x.2
theorem Bns:FO 29 [.sv .res,.sv .res] [.bool] Bde :=.fin0 Bfm λ_ _ _ hx=>hx
def Alv:Sig:=⟨46,[(4,.bool),(5,.int .i64)],[(2,.ptr 0 0),(3,.ptr 1 0)],[(0,.one (.sv .outc)),(1,.one (.sv .outc))],2,0,0,[],[]⟩
abbrev Uj:=Bool×Int×OutS×OutS
def Od{R:Type}(rec:Uj->Option R)(kx:Ex->Uj->Option R)(v:Uj):Option R:=match v with
 |(v,v1,w,w1) =>
 cond (decide (v1<(w.l.length:Int))) (
  chk (inb v1 w.l.length) (
  chk (inb v1 w1.l.length) (
   (A9s (at' .res w.l v1) (at' .res w1.l v1)).bind λx =>
   cond (!x) (
    kx .ret (false,v1,w,w1)) (
    rec (v,(wr .i64 (v1+1)),w,w1))))) (
  kx (.exit 0) (v,v1,w,w1))
def A1d(R:Type)(k:Nat):Px R:=pxO [(29,cA Bde)] [] [(4,Al k Alv (Od))] []
def Oc(k:Nat)(x:HV [.sv .outc,.sv .outc]):Option (HV [.bool]):=match x with
 |(a,b) =>
 cond (!decide (a.e=b.e)) (
  some false) (
  cond (!decide (a.pos=b.pos)) (
  some false) (
  cond (!decide ((a.l.length:Int)=(b.l.length:Int))) (
   some false) (
   Aj (λrec=>Od rec (λe vz=>match vz with|(v2,_,_,_)=>match e with
   |.ret =>some v2
   |.exit 0 =>some true
   |_=>none)) k (false,0,a,b))))
theorem Bhn(k:Nat):FO 12 [.sv .outc,.sv .outc] [.bool] (Oc k):=fR (px:=A1d _ k) (n:=1) Tryz.func12 rfl (λcx H=>by have h0:Lv cx (A1d (HV [.bool]) k):=lv H (c1 H Bns Ae) Aa Ab;have hldsame_0:=lO H h0 (b:=lp Tryz.f12 0) (k:=k) (n:=0) (s:=Alv) (step:=Od) (λ_ _ _ (_,_,_,_)=>by kernel_rfl) Ai;exact⟨h0,(A2 Ai hldsame_0)⟩) λ(_,_)=>by kernel_rfl
def A9g(a b:OutS):Option Bool:=Oc 10000 (a,b)
def A9d:FT [.sv .outc,.sv .outc] [.bool]:=λx=>A9g x.1 x.2
theorem Bq7:FO 12 [.sv .outc,.sv .outc] [.bool] A9d :=.fin 0 Bhn λ_ _ _ hx=>⟨10000,hx⟩
def Alg:Sig:=⟨116,[(2,.sl .byte true),(3,.int .i64),(4,.sl .byte true),(5,.bool),(6,.int .i64)],[(1,.ptr 0 0)],[(0,.one (.sv .outc))],1,0,0,[],[]⟩
abbrev Ul:=List UInt8×Int×List UInt8×Bool×Int×OutS
def Li{R:Type}(rec:Ul->Option R)(kx:Ex->Ul->Option R)(v:Ul):Option R:=match v with
 |(v,v1,v2,v3,v4,w) =>
 cond (decide (v4<(w.l.length:Int))) (
  chk (inb v4 w.l.length) (
  (Boi ((at' .res w.l v4).rows)).bind λ(x3,x4) =>
   cond (!decide (x4=0)) (
   kx .ret ([],2,v2,v3,v4,w)) (
   chk (inb v4 w.l.length) (
    cond (decide ((at' .res w.l v4).n<0)) (
    kx .ret ([],2,v2,v3,v4,w)) (
    let j3:=λ(a:Bool) =>
     chk (inb v4 w.l.length) (
     (G8 (wr .u64 ((at' .res w.l v4).n))).bind λx5 =>
      chk (decide (v2.length+x5.length<=Ag)) (
      (Arv x3).bind λx6 =>
       chk (decide ((v2++x5).length+x6.length<=Ag)) (
       rec (v,v1,((v2++x5)++x6),a,(wr .i64 (v4+1)),w))))
    cond (v3) (
     j3 true) (
     j3 (decide (1048576<(x3.length:Int))))))))) (
  kx (.exit 0) (v,v1,v2,v3,v4,w))
def Az0(R:Type)(k:Nat):Px R:=pxO [(21,cA Pp),(22,cA Bbc),(23,cA Ajb)] [] [(8,Al k Alg (Li))] []
def N1(k:Nat)(x:HV [.sv .outc]):Option (HV [.sl .byte true,.int .i64]):=match x with
 |o =>
 let j4:=λ(_:Unit) =>
  (G8 (wr .u64 o.e)).bind λx =>
  (G8 (wr .u64 o.pos)).bind λx1 =>
   chk (decide (x.length+x1.length<=Ag)) (
   (G8 (wr .u64 (o.l.length:Int))).bind λx2 =>
    chk (decide ((x++x1).length+x2.length<=Ag)) (
    Aj (λrec=>Li rec (λe vz=>match vz with|(v5,v6,v7,v8,_,_)=>match e with
     |.ret =>
     some (v5,v6)
     |.exit 0 =>
     cond (v8) (
      some ([],3)) (
      cond (decide (1048576<(v7.length:Int))) (
      some ([],3)) (
      some (v7,0)))
     |_=>none)) k ([],0,((x++x1)++x2),false,0,o)))
 let j2:=λ(p:Bool) =>
  let j1:=λ(p1:Bool) =>
  let j:=λ(p2:Bool) =>
   cond (p2) (
   some ([],2)) (
   cond (!decide (o.e=0)) (
    cond (decide (0<(o.l.length:Int))) (
    some ([],2)) (
    cond (decide (50<(o.l.length:Int))) (
     some ([],2)) (
     j4 ()))) (
    cond (decide (50<(o.l.length:Int))) (
    some ([],2)) (
    j4 ())))
  cond (p1) (
   j true) (
   j (decide (50<o.pos)))
  cond (p) (
  j1 true) (
  j1 (decide (o.pos<0)))
 cond (decide (o.e<0)) (
  j2 true) (
  j2 (decide (999<o.e)))
theorem Bhy(k:Nat):FO 8 [.sv .outc] [.sl .byte true,.int .i64] (N1 k):=fR (px:=Az0 _ k) (n:=1) Tryz.func8 rfl (λcx H=>by have h0:Lv cx (Az0 (HV [.sl .byte true,.int .i64]) k):=lv H (c1 H Rp (c1 H Bo1 (c1 H Apd Ae))) Aa Ab;have hldoenc_0:=lO H h0 (b:=lp Tryz.f8 0) (k:=k) (n:=0) (s:=Alg) (step:=Li) (λ_ _ _ (_,_,_,_,_,_)=>by kernel_rfl) Ai;exact⟨h0,(A2 Ai hldoenc_0)⟩) λ_=>by kernel_rfl
def A3i(o:OutS):Option (Str×Int):=N1 10000 o
def Awd:FT [.sv .outc] [.sl .byte true,.int .i64]:=λx=>A3i x
theorem Azh:FO 8 [.sv .outc] [.sl .byte true,.int .i64] Awd :=.fin 0 Bhy λ_ _ _ hx=>⟨10000,hx⟩
def Bqi(R:Type):Px R:=pxO [(47,cA Y0)] [] [] []
def Oh(x:HV [.sl .byte false,.int .i64]):Option (HV [.int .i64,.int .i64,.bool]):=match x with
 |(b,p) =>
 (Rb b p).bind λ(x,x1,x2) =>
  cond (!decide (x2=0)) (
  some (0,0,false)) (
  cond (decide (9223372036854775807<x)) (
   some (0,0,false)) (
   some ((wr .i64 x),x1,true)))
theorem Bhx:FO 26 [.sl .byte false,.int .i64] [.int .i64,.int .i64,.bool] (Oh):=fR (px:=Bqi _) (n:=0) Tryz.func26 rfl (λ_ H=>⟨lv H (c1 H Tb Ae) Aa Ab,Ai⟩) λ(_,_)=>by kernel_rfl
def Qx(b:Str)(p:Int):Option (Int×Int×Bool):=Oh (b,p)
def Bca:FT [.sl .byte false,.int .i64] [.int .i64,.int .i64,.bool]:=λx=>Qx x.1 x.2
theorem Bo5:FO 26 [.sl .byte false,.int .i64] [.int .i64,.int .i64,.bool] Bca :=.fin0 Bhx λ_ _ _ hx=>hx
def Ak2:Sig:=⟨115,[(0,.sl .byte false),(3,.int .i64),(5,.int .i64),(8,.int .i64),(10,.int .i64)],[(2,.ptr 0 0),(9,.ptr 1 0)],[(0,.cells [.int .i64,.int .i64,.sl .res true]),(1,.cells [.int .i64,.int .i64,.sl .res true])],2,0,0,[],[]⟩
abbrev Vm:=List UInt8×Int×Int×Int×Int×Int×Int×List ResS×Int×Int×List ResS
def Ku{R:Type}(rec:Vm->Option R)(kx:Ex->Vm->Option R)(v:Vm):Option R:=match v with
 |(v,v1,v2,v3,v4,w,w1,w2,w3,w4,w5) =>
 cond (decide (v4<v3)) (
  (Qx v v2).bind λ(x9,a,b) =>
  cond (!b) (
   kx .ret (v,11,v2,v3,v4,0,0,[],w3,w4,w5)) (
   (Ms v a).bind λ(c,d,e) =>
   (Bu2 c).bind λ(f,g) =>
    cond (!decide (e=0)) (
    kx .ret (v,11,v2,v3,v4,0,0,[],w3,w4,w5)) (
    cond (!decide (g=0)) (
     kx .ret (v,11,v2,v3,v4,0,0,[],w3,w4,w5)) (
     chk (decide (w5.length+1<=Ag)) (
     rec (v,v1,d,v3,(wr .i64 (v4+1)),w,w1,w2,w3,w4,(w5++[(ResS.mk f x9)]))))))) (
  kx (.exit 0) (v,v1,v2,v3,v4,w,w1,w2,w3,w4,w5))
def A00(R:Type)(k:Nat):Px R:=pxO [(26,cA Bca),(27,cA Ai5),(28,cA Bqs),(8,cA Awd),(11,cA Awg)] [] [(12,Al k Ak2 (Ku))] []
def Hk(k:Nat)(x:HV [.sl .byte false]):Option (HV [.sv .outc,.int .i64]):=match x with
 |b =>
 (Qx b 0).bind λ(x,x1,x2) =>
  cond (!x2) (
  some ((OutS.mk 0 0 []),11)) (
  (Qx b x1).bind λ(x3,x4,x5) =>
   cond (!x5) (
   some ((OutS.mk 0 0 []),11)) (
   (Qx b x4).bind λ(x6,x7,x8) =>
    cond (!x8) (
    some ((OutS.mk 0 0 []),11)) (
    cond (decide (50<x6)) (
     some ((OutS.mk 0 0 []),11)) (
     Aj (λrec=>Ku rec (λe vz=>match vz with|(v5,v6,_,_,_,f,g,h,a,c,d)=>match e with
     |.ret =>some ((OutS.mk f g h),v6)
     |.exit 0 =>
      (A3i (OutS.mk a c d)).bind λ(i,j) =>
      cond (!decide (j=0)) (
       some ((OutS.mk 0 0 []),11)) (
       (Akc i v5).bind λl =>
       cond (!l) (
        some ((OutS.mk 0 0 []),11)) (
        some ((OutS.mk a c d),0)))
     |_=>none)) k (b,0,x7,x6,0,0,0,[],x,x3,[])))))
theorem Ben(k:Nat):FO 10 [.sl .byte false] [.sv .outc,.int .i64] (Hk k):=fR (px:=A00 _ k) (n:=1) Tryz.func10 rfl (λcx H=>by have h0:Lv cx (A00 (HV [.sv .outc,.int .i64]) k):=lv H (c1 H Bo5 (c1 H Ajq (c1 H Bt4 (c1 H Azh (c1 H Az2 Ae))))) Aa Ab;have hldodec_0:=lO H h0 (b:=lp Tryz.f10 0) (k:=k) (n:=0) (s:=Ak2) (step:=Ku) (λ_ _ _ (_,_,_,_,_,_,_,_,_,_,_)=>by kernel_rfl) Ai;exact⟨h0,(A2 Ai hldodec_0)⟩) λ_=>by kernel_rfl
def A3h(b:Str):Option (OutS×Int):=Hk 10000 b
def A97:FT [.sl .byte false] [.sv .outc,.int .i64]:=λx=>A3h x
theorem Bsc:FO 10 [.sl .byte false] [.sv .outc,.int .i64] A97 :=.fin 0 Ben λ_ _ _ hx=>⟨10000,hx⟩
end
noncomputable section
def Asy:Sig:=⟨82,[(3,.int .i64),(4,.int .i64),(5,.int .i64),(6,.int .i64)],[(1,.ptr 0 0)],[(0,.one (.sv .outc))],1,0,0,[],[]⟩
abbrev Aco:=Int×Int×Int×Int×OutS
def Am1{R:Type}(rec:Aco->Option R)(kx:Ex->Aco->Option R)(v:Aco):Option R:=match v with
 |(v5,v6,v7,v8,w2) =>
 chk (inb v6 w2.l.length) (
  chk (inb v7 (((at' .res w2.l v6).rows).length)) (
  cond (decide (v8<((at' .vals ((at' .res w2.l v6).rows) v7).length:Int))) (
   chk (inb v6 w2.l.length) (
   chk (inb v7 (((at' .res w2.l v6).rows).length)) (
    chk (inb v8 ((at' .vals ((at' .res w2.l v6).rows) v7).length)) (
    rec ((wr .i64 (v5+(wr .i64 (Int.tdiv (((at' .val (at' .vals ((at' .res w2.l v6).rows) v7) v8).s).length:Int) 20)))),v6,v7,(wr .i64 (v8+1)),w2))))) (
   kx (.exit 4) (v5,v6,v7,v8,w2))))
def Asn:Sig:=⟨82,[(3,.int .i64),(4,.int .i64),(5,.int .i64)],[(1,.ptr 0 0)],[(0,.one (.sv .outc))],1,0,0,[],[]⟩
abbrev Abp:=Int×Int×Int×OutS
def Apc{R:Type}(k:Nat)(rec:Abp->Option R)(kx:Ex->Abp->Option R)(v:Abp):Option R:=match v with
 |(v2,v3,v4,w1) =>
 chk (inb v3 w1.l.length) (
  cond (decide (v4<(((at' .res w1.l v3).rows).length:Int))) (
  cond (decide (v2<500)) (
   chk (inb v3 w1.l.length) (
   chk (inb v4 (((at' .res w1.l v3).rows).length)) (
    Aj (λrc=>Am1 rc (λe vz=>match vz with|(v9,a,b,_,c)=>match e with
    |.exit 4 =>rec (v9,a,(wr .i64 (b+1)),c)
    |_=>none)) k ((wr .i64 ((wr .i64 (v2+1))+((at' .vals ((at' .res w1.l v3).rows) v4).length:Int))),v3,v4,0,w1)))) (
   kx (.exit 2) (v2,v3,v4,w1))) (
  kx (.exit 2) (v2,v3,v4,w1)))
def Ats:Sig:=⟨82,[(3,.int .i64),(4,.int .i64)],[(1,.ptr 0 0)],[(0,.one (.sv .outc))],1,0,0,[],[]⟩
abbrev Aaw:=Int×Int×OutS
def Af4{R:Type}(k:Nat)(rec:Aaw->Option R)(kx:Ex->Aaw->Option R)(v:Aaw):Option R:=match v with
 |(v,v1,w) =>
 cond (decide (v1<(w.l.length:Int))) (
  cond (decide (v<500)) (
  Aj (λrc=>Apc k rc (λe vz=>match vz with|(a,b,_,c)=>match e with
   |.exit 2 =>
   rec (a,(wr .i64 (b+1)),c)
   |_=>none)) k (v,v1,0,w)) (
  kx (.exit 0) (v,v1,w))) (
  kx (.exit 0) (v,v1,w))
def Bdt(R:Type)(k:Nat):Px R:=pxO [] [] [(10,Al k Asy (Am1)),(6,Al k Asn (Apc k)),(3,Al k Ats (Af4 k))] []
def Aee(k:Nat)(x:HV [.sv .outc]):Option (HV [.bool]):=match x with
 |o =>
 Aj (λrec=>Af4 k rec (λe vz=>match vz with|(a,_,_)=>match e with
  |.exit 0 =>
  some (decide (500<=a))
  |_=>none)) k ((o.l.length:Int),0,o)
theorem Bmr(k:Nat):FO 5 [.sv .outc] [.bool] (Aee k):=fR (px:=Bdt _ k) (n:=3) Tryz.func5 rfl (λcx H=>by have h0:Lv cx (Bdt (HV [.bool]) k):=lv H Ae Aa Ab;have hllbig_2:=lO H h0 (b:=lpC (lpC (lp Tryz.f5 0) 0) 0) (k:=k) (n:=0) (s:=Asy) (step:=Am1) (λ_ _ _ (_,_,_,_,_)=>by kernel_rfl) Ai;have hllbig_1:=lO H h0 (b:=lpC (lp Tryz.f5 0) 0) (k:=k) (n:=1) (s:=Asn) (step:=Apc k) (λ_ _ _ (_,_,_,_)=>by kernel_rfl) (A2 Ai hllbig_2);have hllbig_0:=lO H h0 (b:=lp Tryz.f5 0) (k:=k) (n:=2) (s:=Ats) (step:=Af4 k) (λ_ _ _ (_,_,_)=>by kernel_rfl) (A2 (A2 Ai hllbig_1) hllbig_2);exact⟨h0,(A2 (A2 (A2 Ai hllbig_0) hllbig_1) hllbig_2)⟩) λ_=>by kernel_rfl
def Bt9(o:OutS):Option Bool:=Aee 2000000 o
def Bkf:FT [.sv .outc] [.bool]:=λx=>Bt9 x
theorem Btr:FO 5 [.sv .outc] [.bool] Bkf :=.fin 0 Bmr λ_ _ _ hx=>⟨2000000,hx⟩
def Bzf(R:Type):Px R:=pxO [(5,cA Bkf),(6,cA Ata),(7,cA A6x),(8,cA Awd),(9,cA Blh),(10,cA A97),(13,cA Awc)] [(11,qA Awg),(12,qA A9d),(13,qA Awc)] [] []
def Aoo(x:HV [.sv .outc,.sv .outc,.sl .byte false]):Option (HV [.bool]):=match x with
 |(a,c,b) =>
 let j:=λ(p3:Bool) =>
  cond (p3) (
  (Aw4).bind λx2 =>some x2) (
  (A54 a).bind λ(x3,x4) =>
   (A3i a).bind λ(x5,x6) =>
   (A77 b).bind λ(x7,x8) =>
    (A3h b).bind λ(x9,d) =>
    (Akc x3 x5).bind λe =>
     let j5:=λ(p4:Bool) =>
     let j4:=λ(p5:Bool) =>
      let j3:=λ(p6:Bool) =>
      let j2:=λ(p7:Bool) =>
       let j1:=λ(p8:Bool) =>
       cond (p8) (
        (Aw4).bind λf =>
        some f) (
        some false)
       cond (p7) (
       (Bb1 a a).bind λg =>j1 g) (
       j1 false)
      cond (p6) (
       (Bb1 a c).bind λh =>
       (A9g a c).bind λi =>j2 (decide (h=i))) (
       j2 false)
      cond (p5) (
      j3 (decide (x8=d))) (
      j3 false)
     cond (p4) (
      (A9g x7 x9).bind λk =>
      j4 k) (
      j4 false)
     cond (e) (
     j5 (decide (x4=x6))) (
     j5 false))
 (Bt9 a).bind λx =>
  cond (x) (
  j true) (
  (Bt9 c).bind λx1 =>
   cond (x1) (
   j true) (
   j (decide (5000<(b.length:Int)))))
theorem Bvn:FO 3 [.sv .outc,.sv .outc,.sl .byte false] [.bool] (Aoo):=fR (px:=Bzf _) (n:=0) Tryz.func3 rfl (λ_ H=>⟨lv H (c1 H Btr (c1 H A79 (c1 H Bbi (c1 H Azh (c1 H Bt8 (c1 H Bsc (c1 H A0p Ae))))))) (q1 H Az2 (q1 H Bq7 (q1 H A0p Aa))) Ab,Ai⟩) λ(_,_,_)=>by kernel_rfl
end
abbrev vgR:=Int×Int×Int
def vgX:Ex->Nj->Option vgR:=λe vz=>match vz with|(_,a,b,c,_,d,_,_,_)=>match e with|.ret=>some (a,b,c)|.exit 0=>some (0,0,d)|_=>none
theorem Brs:∀c:Nat,c<256->ior .u64 0 (Aax .u64 (wr .u64 (Ek .u8 (c:Int) 127)) (wr .i64 (7*((0:Nat):Int))))=((c % 128:Nat):Int):=by decide +kernel
theorem Bof:∀c:Nat,c<256->Aax .u64 (wr .u64 (Ek .u8 (c:Int) 127)) (wr .i64 (7*((1:Nat):Int)))=((c % 128*128:Nat):Int):=by decide +kernel
theorem or7{n x:Nat}(hn:n<128)(hx:x<128):ior .u64 (n:Int) ((x*128:Nat):Int)=((n+128*x:Nat):Int):=by
 have e3:(BitVec.ofInt 64 ((x*128:Nat):Int)).toNat=x*128:=by simp;omega
 have e4:(BitVec.ofInt 64 (n:Int)).toNat=n:=by simp;omega
 have e5:n ||| x*128=n+128*x:=by have:=Nat.shiftLeft_add_eq_or_of_lt (i:=7) (b:=n) (by omega) x;rw[Nat.shiftLeft_eq] at this;rw[Nat.or_comm,<-this];omega
 show IntKind.wrap .u64 (((BitVec.ofInt 64 (n:Int) ||| BitVec.ofInt 64 ((x*128:Nat):Int)).toNat:Nat):Int)=_;rw[BitVec.toNat_or,e3,e4,e5];exact Br (by omega)
theorem Bz2(x y:Int) : 0<=ior .u64 x y:=by exact Int.emod_nonneg _ (by decide)
theorem Bs4{p n:Int}{l:Str}{i:Nat}(hi:i<l.length)(h9:i<=9)(hl:ln l.length):∃n':Int,0<=n'/\(i=0->n=0->n' = ((l[i].toNat % 128:Nat):Int))/\(i=1->0<=n->n<128->n' = n+128*((l[i].toNat % 128:Nat):Int)) /\
  ∀rec:Nj->Option vgR,Ho rec vgX (p,0,0,0,n,10,l,(l.length:Int),(i:Int))=if(i=9/\1<l[i].toNat)\/(l[i].toNat=0/\0<i) then some (0,0,11) else if l[i].toNat<128 then some (n',wr .i64 (wr .i64 (p+i)+1),0) else rec (p,0,0,0,n',10,l,(l.length:Int),((i+1:Nat):Int)):=by
 have hc:=l[i].toNat_lt;refine⟨ior .u64 n (Aax .u64 (wr .u64 (Ek .u8 (l[i].toNat:Int) 127)) (wr .i64 (7*(i:Int)))),Bz2 _ _,?_,?_,?_⟩
 ·rintro rfl rfl;exact Brs _ hc
 ·rintro rfl h0 h1;rw[Bof _ hc];obtain⟨m,rfl⟩:=Int.eq_ofNat_of_zero_le h0;rw[or7 (by omega) (Nat.mod_lt _ (by omega))];omega
 ·intro rec;have c1:decide (0<=wr .i64 (7*(i:Int)))=true:=by rw[Be (by simp[inI];omega)];exact Ze1 (by omega)
  simp only[Ho,Cb hi,Ah,Au hi,chk,Aq (c :=.byte) hi,Ao hi hl,vgX,c1]
  grind
theorem Bl3{p:Int}{l:Str}(hl:ln l.length):∀(k i:Nat) (n:Int),i<=9->i<=l.length->9-i<k->∃m to e,Aj (λrec=>Ho rec vgX) k (p,0,0,0,n,10,l,(l.length:Int),(i:Int))=some (m,to,e)/\(e=0->0<=m/\∃j:Nat,j<l.length/\to=wr .i64 (wr .i64 (p+(j:Int))+1))
 |0,_,_,_,_,h=>by omega
 |k+1,i,n,h9,hi,hk=>by
  rw[Aj];by_cases h:i<l.length
  ·obtain⟨n',n0,_,_,hs⟩:=Bs4 (p:=p) (n:=n) h h9 hl;rw[hs];split
   ·grind
   ·rename_i h1;split
    ·grind
    ·rename_i h2;exact Bl3 hl k (i+1) n' (by omega) h (by omega)
  ·have:i=l.length:=by omega
   subst this;simp only[Ho,Ds,vgX]
   grind
theorem Bcs{b:Str}{p:Nat}(hp:p<=b.length)(hb:b.length<=1000000):Vv b (p:Int)=Aj (λrec=>Ho rec vgX) 100 ((p:Int),0,0,0,0,10,b.drop p,((b.drop p).length:Int),0):=by simp only[Vv,Aey];rw[Zd1 (show ¬(p:Int)<0 by omega),Af,Zd1 (show ¬(b.length:Int)<(p:Int) by omega),Af,show upto (p:Int) b.length b.length=true by simp[upto,Zb1];omega];rfl
theorem Js{b:Str}{p:Nat}(hp:p<=b.length)(hb:b.length<=1000000):∃m to e,Vv b (p:Int)=some (m,to,e)/\(e=0->0<=m/\∃j:Nat,to=(j:Int)/\p<j/\j<=b.length):=by
 rw[Bcs hp hb];have hl:ln (b.drop p).length:=by simp[ln];omega
 obtain⟨m,to,e,h,ht⟩:=Bl3 (p:=(p:Int)) hl 100 0 0 (by omega) (by omega) (by omega);refine⟨m,to,e,h,λhe =>?_⟩;obtain⟨m0,j,hj,rfl⟩:=ht he;rw[Za2] at hj;refine⟨m0,p+j+1,?_,by omega,by omega⟩;rw[Be (n:=(p:Int)+j) (by simp[inI];omega),Be (by simp[inI];omega)];omega
theorem Q0{n:Nat}(h:n<256):(UInt8.ofNat n).toNat=n:=by simp_all
theorem Aeb{b:Str}{p:Nat}(hp:p<=b.length)(hb:b.length<=1000000):∃s to e,Ag7 b (p:Int)=some (s,to,e)/\(e=0->s.length<=b.length/\∃j:Nat,to=(j:Int)/\p<j/\j<=b.length):=by
 obtain⟨m,to,e,h,ht⟩:=Js hp hb;simp only[Ag7,Oz,h,Zc1];by_cases he:e=0
 ·obtain⟨m0,j,rfl,j1,j2⟩:=ht he;rw[Ze1 he,Zt1,Af,Be (n:=(b.length:Int)-j) (by simp[inI];omega),show(b.length:Int)-(j:Int)=((b.length-j:Nat):Int) by omega,Br (by omega)];by_cases h1 : 1048576<m
  ·grind
  rw[Zd1 h1,Af];by_cases h2:((b.length-j:Nat):Int)<m
  ·grind
  rw[Zd1 h2,Af,Be (n:=m) (by simp[inI];omega),Be (by simp[inI];omega)];have hu:upto (j:Int) ((j:Int)+m) b.length=true:=by simp[upto,Zb1];omega
  have hc:(cut b (j:Int) ((j:Int)+m)).length<=b.length:=by simp[cut,Za2];omega
  rw[hu,chk,Ah,Ze1 (show 0+(cut b (j:Int) ((j:Int)+m)).length<=Ag by simp[Ag];omega),chk,Ah];exact⟨_,_,_,rfl,λ_=>⟨hc,(j+m.toNat),by omega,by omega,by omega⟩⟩
 ·grind
def vsX:Ex->O0->Option (List Str×Int):=λe vz=>match vz with|(v6,v7,v8,_,a,b)=>match e with|.ret=>some (v7,v8)|.exit 0=>cond (decide (a<(v6.length:Int))) (some ([],11)) (some (b,0))|_=>none
theorem Bnp{b:Str}(hb:b.length<=1000000):∀(k p:Nat) (n:Int) (acc:List Str),p<=b.length->b.length-p<k->acc.length+1<=p->0<=n->(∀x,x∈acc->x.length<=b.length)->∃l e,Aj (λrec=>H1 rec vsX) k (b,[],0,n,(p:Int),acc)=some (l,e)/\l.length+1<=b.length/\∀x,x∈l->x.length<=b.length
 |0,_,_,_,_,h,_,_,_=>by omega
 |k+1,p,n,acc,hp,hk,ha,hn,hl=>by
  simp only[Aj,H1];by_cases h0 : 0<n
  ·obtain⟨s,to,e,h,ht⟩:=Aeb hp hb;rw[Ze1 h0,Ah,h,Zc1];by_cases he:e=0
   ·obtain⟨hs,j,rfl,j1,j2⟩:=ht he;rw[Ze1 he,Zt1,Af,Ze1 (show acc.length+1<=Ag by simp[Ag];omega),chk,Ah];exact Bnp hb k j _ _ j2 (by omega) (by simp[ Zi1];omega) (by simp[wr,IntKind.wrap];exact Int.emod_nonneg _ (by decide)) λx hx=>by
     rcases List.mem_append.1 hx with hx|hx
     ·exact hl x hx
     ·rw[List.mem_singleton.1 hx];exact hs
   ·rw[Zd1 he,Zs1,Ah];exact⟨_,_,rfl,by simp;omega,λx hx=>by cases hx⟩
  ·rw[Zd1 h0,Af];simp only[vsX];cases decide ((p:Int)<(b.length:Int)) with|true=>exact⟨_,_,rfl,by simp;omega,λx hx=>by cases hx⟩|false=>exact⟨_,_,rfl,by omega,hl⟩
theorem By8:∀c:Nat,c<256->wr .u64 (Ek .u8 (c:Int) 127)=((c % 128:Nat):Int):=by decide +kernel
theorem Bzw{x i:Nat}(hi:i<=9)(h:x*2 ^ (7*i)<18446744073709551616):Aax .u64 (x:Int) (wr .i64 (7*(i:Int)))=((x*2 ^ (7*i):Nat):Int):=by
 have e:(wr .i64 (7*(i:Int))).toNat=7*i:=by rw[Be (by simp[inI];omega)];omega
 show wr .u64 ((x:Int)*2 ^ min (wr .i64 (7*(i:Int))).toNat IntKind.u64.bits)=_;rw[e,Nat.min_eq_left (by simp[IntKind.bits];omega),<-Br h];simp
theorem B08{a x i:Nat}(ha:a<2 ^ (7*i))(h:a+x*2 ^ (7*i)<18446744073709551616):ior .u64 (a:Int) ((x*2 ^ (7*i):Nat):Int)=((a+x*2 ^ (7*i):Nat):Int):=by
 have e3:(BitVec.ofInt 64 ((x*2 ^ (7*i):Nat):Int)).toNat=x*2 ^ (7*i):=by simp only[BitVec.toNat_ofInt];omega
 have e4:(BitVec.ofInt 64 (a:Int)).toNat=a:=by simp only[BitVec.toNat_ofInt];omega
 have e5:a ||| x*2 ^ (7*i)=a+x*2 ^ (7*i):=by have:=Nat.shiftLeft_add_eq_or_of_lt (i:=7*i) (b:=a) ha x;rw[Nat.shiftLeft_eq] at this;rw[Nat.or_comm,<-this];omega
 show IntKind.wrap .u64 (((BitVec.ofInt 64 (a:Int) ||| BitVec.ofInt 64 ((x*2 ^ (7*i):Nat):Int)).toNat:Nat):Int)=_;rw[BitVec.toNat_or,e3,e4,e5];exact Br h
theorem A10{p:Int}{a i:Nat}{l:Str}(hi:i<l.length)(h9:i<=9)(hl:ln l.length)(ha:a<2 ^ (7*i))(hx:a+(l[i].toNat % 128)*2 ^ (7*i)<18446744073709551616)(rec:Nj->Option vgR) :
  Ho rec vgX (p,0,0,0,(a:Int),10,l,(l.length:Int),(i:Int))=if(i=9/\1<l[i].toNat)\/(l[i].toNat=0/\0<i) then some (0,0,11) else if l[i].toNat<128 then some (((a+(l[i].toNat % 128)*2 ^ (7*i):Nat):Int),wr .i64 (wr .i64 (p+i)+1),0) else rec (p,0,0,0,((a+(l[i].toNat % 128)*2 ^ (7*i):Nat):Int),10,l,(l.length:Int),((i+1:Nat):Int)):=by
 have hc:=l[i].toNat_lt;have e:ior .u64 (a:Int) (Aax .u64 (wr .u64 (Ek .u8 (l[i].toNat:Int) 127)) (wr .i64 (7*(i:Int))))=((a+(l[i].toNat % 128)*2 ^ (7*i):Nat):Int):=by rw[By8 _ hc,Bzw h9 (by omega),B08 ha hx]
 have c1:decide (0<=wr .i64 (7*(i:Int)))=true:=by rw[Be (by simp[inI];omega)];exact Ze1 (by omega)
 simp only[Ho,Cb hi,Ah,Au hi,chk,Aq (c :=.byte) hi,Ao hi hl,vgX,c1,e]
 grind
theorem Ba4{p:Nat}{l r:Str}(hl:p+l.length<=1000000):∀(k i a m f:Nat),i+k=9->l.drop i=Av k m++r->a<2 ^ (7*i)->a+m*2 ^ (7*i)<18446744073709551616->(0<i->0<m)->k<f ->
  Aj (λrec=>Ho rec vgX) f ((p:Int),0,0,0,(a:Int),10,l,(l.length:Int),(i:Int))=some (((a+m*2 ^ (7*i):Nat):Int),((p+i+(Av k m).length:Nat):Int),0)
 |_,_,_,_,0,_,_,_,_,_,h=>by omega
 |k,i,a,m,f+1,hk,hd,ha,hm,h0,hf=>by
  have hlen:=congrArg List.length hd;have h1:=A3 k m;rw[Za2,Zh1] at hlen;have hi:i<l.length:=by omega
  have hln:ln l.length:=by simp[ln];omega
  have hgi:l[i]=(Av k m++r)[0]'(by simp;omega):=by
   have:(l.drop i)[0]'(by rw[Za2];omega)=l[i]:=by simp
   rw[<-this];simp only[hd]
  have w1:wr .i64 (wr .i64 ((p:Int)+i)+1)=((p+i+1:Nat):Int):=by rw[Be (n:=(p:Int)+i) (by simp[inI];omega),Be (by simp[inI];omega)];omega
  rw[A0];have small:m<128->Av k m=[UInt8.ofNat m]->Ho (Aj (λrec=>Ho rec vgX) f) vgX ((p:Int),0,0,0,(a:Int),10,l,(l.length:Int),(i:Int))=some (((a+m*2 ^ (7*i):Nat):Int),((p+i+(Av k m).length:Nat):Int),0):=λhs e=>by
   have e0:l[i].toNat=m:=by rw[hgi];simp only[e];exact Q0 (by omega)
   rw[A10 hi (by omega) hln ha (by rw[e0,Nat.mod_eq_of_lt hs];exact hm),e0,Nat.mod_eq_of_lt hs,if_neg,if_pos hs,w1,e]
   ·rfl
   ·rintro(⟨h9,h2⟩|⟨h2,h3⟩)
    ·subst h9;have : 2*2 ^ (7*9)<=m*2 ^ (7*9):=Nat.mul_le_mul_right _ h2;omega
    ·have:=h0 h3;omega
  cases k with
  |zero =>
   have h9:i=9:=by omega
   subst h9;exact small (by omega) rfl
  |succ k =>
   by_cases hs:m<128
   ·exact small hs (by simp[Av,hs])
   ·have e:Av (k+1) m=UInt8.ofNat (m % 128+128)::Av k (m / 128):=by simp[Av,hs]
    have e0:l[i].toNat=m % 128+128:=by rw[hgi];simp only[e];exact Q0 (by omega)
    have e1:(m % 128+128) % 128=m % 128:=by omega
    have hp : 2 ^ (7*(i+1))=128*2 ^ (7*i):=by rw[Nat.mul_add,Nat.pow_add];omega
    have hq:m % 128*2 ^ (7*i)+(m / 128)*2 ^ (7*(i+1))=m*2 ^ (7*i):=by rw[hp,<-Nat.mul_assoc,<-Nat.add_mul];congr 1;omega
    have hle:m % 128*2 ^ (7*i)<=127*2 ^ (7*i):=Nat.mul_le_mul_right _ (by omega);rw[A10 hi (by omega) hln ha (by rw[e0,e1];omega),e0,e1,if_neg (by omega),if_neg (by omega)];have ih:=Ba4 (r:=r) hl k (i+1) (a+m % 128*2 ^ (7*i)) (m / 128) f (by omega) (by rw[<-List.drop_drop,hd,e];simp) (by rw[hp];omega) (by omega) (by omega) (by omega)
    rw[ih,e];simp only[Zf1,Za1,Zp1];refine⟨by congr 1;omega,by congr 1;omega,trivial⟩
theorem Af1{b r:Str}{p n:Nat}(hd:b.drop p=Av 9 n++r)(hn:n<18446744073709551616)(hb:b.length<=1000000):Vv b (p:Int)=some ((n:Int),((p+(Av 9 n).length:Nat):Int),0)/\p+(Av 9 n).length+r.length=b.length:=by have hl:=congrArg List.length hd;have h1:=A3 9 n;rw[Za2,Zh1] at hl;refine⟨?_,by omega⟩;rw[Bcs (by omega) hb];have:=Ba4 (p:=p) (l:=b.drop p) (r:=r) (by rw[Za2];omega) 9 0 0 n 100 rfl (by simpa using hd) (by simp) (by simpa using hn) (by omega) (by omega);simpa using this
def rgX:Ex->S2->Option vgR:=λe vz=>match vz with|(_,_,a,b,c,_,_,_)=>match e with|.ret=>some (a,b,c)|.exit 0=>some (0,0,10)|_=>none
theorem B06(x:Int) : 0<=wr .u64 x:=by exact Int.emod_nonneg _ (by decide)
theorem Aad{b:Str}{p q:Nat}{n u:Int}(hq:q<b.length)(hp:p<=q)(hb:b.length<=1000000):∃n':Int,0<=n'/\n' = wr .u64 (n+wr .u64 (((b[q].toNat % 128:Nat):Int)*u)) /\
  ∀rec:S2->Option vgR,Gm rec rgX (b,(p:Int),0,0,0,n,u,(q:Int))=if(q-p=9/\1<b[q].toNat)\/(p<q/\b[q].toNat=0) then some (0,0,11) else if b[q].toNat<128 then some (n',((q+1:Nat):Int),0) else rec (b,(p:Int),0,0,0,n',wr .u64 (u*128),((q+1:Nat):Int)):=by
 have et:wr .u64 (Int.tmod (b[q].toNat:Int) 128)=((b[q].toNat % 128:Nat):Int):=by rw[show Int.tmod (b[q].toNat:Int) 128=((b[q].toNat % 128:Nat):Int) from rfl,Br (by omega)]
 refine⟨_,B06 _,rfl,λrec =>?_⟩;have hl:ln b.length:=by simp[ln];omega
 have eq9:decide (wr .i64 ((q:Int)-(p:Int))=9)=decide (q-p=9):=by
  rw[Be (by simp[inI];omega)]
  grind
 simp only[Gm,Cb hq,Au hq,Aq (c :=.byte) hq,Ao hq hl,et,eq9];by_cases z:b[q].toNat=0
 ·rw[Ze1 (show(b[q].toNat:Int)=0 by omega),Zt1];by_cases y:p<q
  ·rw[if_pos (.inr ⟨y,z⟩),Ze1 (show(p:Int)<(q:Int) by omega)];cases decide (q-p=9)<;>rfl
  ·rw[if_neg (by omega),if_pos (by omega),Zd1 (show ¬(p:Int)<(q:Int) by omega),Ze1 (show(b[q].toNat:Int)<128 by omega)];cases decide (q-p=9)<;>rfl
 ·rw[Zd1 (show ¬(b[q].toNat:Int)=0 by omega),Zs1];by_cases a:q-p=9/\1<b[q].toNat
  ·rw[if_pos (.inl a),Ze1 a.1,Zd1 (show ¬(b[q].toNat:Int)=1 by omega)];rfl
  ·rw[if_neg (by omega)];have e:cond (decide (q-p=9)) (!decide ((b[q].toNat:Int)=1)) false=false:=by grind
   by_cases y:b[q].toNat<128
   ·rw[if_pos y,Ze1 (show(b[q].toNat:Int)<128 by omega)];cases h:decide (q-p=9)<;>cases h2:decide ((b[q].toNat:Int)=1)<;>rw[h,h2] at e<;>first|(cases decide ((p:Int)<(q:Int))<;>rfl)|cases e
   ·rw[if_neg y,Zd1 (show ¬(b[q].toNat:Int)<128 by omega)];cases h:decide (q-p=9)<;>cases h2:decide ((b[q].toNat:Int)=1)<;>rw[h,h2] at e<;>first|(cases decide ((p:Int)<(q:Int))<;>rfl)|cases e
theorem Ble{b:Str}{p:Nat}(hb:b.length<=1000000):∀(k q:Nat) (n u:Int),0<=n->p<=q->q<=b.length->b.length-q<k->∃m to e,Aj (λrec=>Gm rec rgX) k (b,(p:Int),0,0,0,n,u,(q:Int))=some (m,to,e)/\(e=0->0<=m/\∃j:Nat,to=(j:Int)/\p<j/\j<=b.length)
 |0,_,_,_,_,_,_,h=>by omega
 |k+1,q,n,u,h0,hp,hq,hk=>by
  rw[Aj];by_cases h:q<b.length
  ·obtain⟨n',n0,_,hs⟩:=Aad (n:=n) (u:=u) h hp hb;rw[hs];split
   ·grind
   ·split
    ·exact⟨_,_,_,rfl,λ_=>⟨n0,q+1,rfl,by omega,h⟩⟩
    ·exact Ble hb k (q+1) n' _ n0 (by omega) h (by omega)
  ·have:q=b.length:=by omega
   subst this;simp only[Gm,Ds,rgX]
   grind
theorem Au4{b:Str}{p:Nat}(hp:p<=b.length):Rb b (p:Int)=Aj (λrec=>Gm rec rgX) 10000 (b,(p:Int),0,0,0,0,1,(p:Int)):=by simp only[Rb,Afd];rw[Zd1 (show ¬(p:Int)<0 by omega),Af,Zd1 (show ¬(b.length:Int)<(p:Int) by omega),Af];rfl
theorem J0{b:Str}{p:Nat}(hp:p<=b.length)(hb:b.length<=9000):∃m to e,Rb b (p:Int)=some (m,to,e)/\(e=0->0<=m/\∃j:Nat,to=(j:Int)/\p<j/\j<=b.length):=by rw[Au4 hp];exact Ble (by omega) 10000 p 0 1 (by omega) (Zn1 _) hp (by omega)
theorem A3w{b r:Str}{p n:Nat}(hd:b.drop p=Av 5 n++r)(hn:n<16384)(hb:b.length<=9000):Rb b (p:Int)=some ((n:Int),((p+(Av 5 n).length:Nat):Int),0):=by
 have hl:=congrArg List.length hd;have h1:=A3 5 n;rw[Za2,Zh1] at hl;have hp:p<b.length:=by omega
 have at_:∀i (h:p+i<b.length) (h2:i<(Av 5 n++r).length),b[p+i]=(Av 5 n++r)[i]:=λi h h2=>by grind
 rw[Au4 (by omega)];by_cases h:n<128
 ·have e:Av 5 n=[UInt8.ofNat n]:=by simp[Av,if_pos h]
  have a0:=at_ 0 (by omega) (by simp[e]);obtain⟨n',_,a1,hs⟩:=Aad (p:=p) (n:=0) (u:=1) hp (Zn1 _) (by omega);have e0:b[p].toNat=n:=by have:b[p]=(Av 5 n++r)[0]'(by simp[e]):=a0;rw[this];simp only[e];exact Q0 (by omega)
  rw[e0] at a1;have hs:=hs (Aj (λrec=>Gm rec rgX) 9999);simp only[e0] at hs;rw[if_neg (by omega),if_pos h,a1] at hs;refine Eq.trans hs ?_;rw[show((n % 128:Nat):Int)*1=(n:Int) by omega,Br (by omega),show(0:Int)+(n:Int)=(n:Int) by omega,Br (by omega),e];rfl
 ·have e:Av 5 n=[UInt8.ofNat (n % 128+128),UInt8.ofNat (n / 128)]:=by simp[Av,if_neg h,if_pos (show n / 128<128 by omega)]
  have el:(Av 5 n).length=2:=by rw[e];rfl
  have hp2:p+1<b.length:=by omega
  have a2:=at_ 1 (by omega) (by simp[e]);have e0:b[p].toNat=n % 128+128:=by have:b[p]=(Av 5 n++r)[0]'(by simp[e]):=(at_ 0 (by omega) (by simp[e]));rw[this];simp only[e];exact Q0 (by omega)
  have e1:b[p+1].toNat=n / 128:=by rw[a2];simp only[e];exact Q0 (by omega)
  obtain⟨n',_,b1,hs⟩:=Aad (p:=p) (n:=0) (u:=1) hp (Zn1 _) (by omega);obtain⟨n2,_,b2,hs2⟩:=Aad (p:=p) (n:=n') (u:=wr .u64 (1*128)) hp2 (by omega) (by omega);have hs:=hs (Aj (λrec=>Gm rec rgX) 9999);have hs2:=hs2 (Aj (λrec=>Gm rec rgX) 9998);rw[e0] at b1;rw[e1] at b2;simp only[e0] at hs;simp only[e1] at hs2;rw[if_neg (by omega),if_neg (by omega)] at hs;rw[if_neg (by omega),if_pos (by omega)] at hs2;refine Eq.trans hs (Eq.trans hs2 ?_);have c1:n' = ((n % 128:Nat):Int):=by rw[b1,show(((n % 128+128) % 128:Nat):Int)*1=((n % 128:Nat):Int) by omega,Br (by omega),show(0:Int)+((n % 128:Nat):Int)=((n % 128:Nat):Int) by omega,Br (by omega)]
  have c2:n2=(n:Int):=by rw[b2,c1,show wr .u64 (1*128)=128 by decide,show((n / 128 % 128:Nat):Int)*128=((n / 128*128:Nat):Int) by omega,Br (by omega),show((n % 128:Nat):Int)+((n / 128*128:Nat):Int)=(n:Int) by omega,Br (by omega)]
  rw[c2,el]
theorem Adr{b:Str}{p:Nat}(hp:p<=b.length)(hb:b.length<=9000):∃s to e,Ms b (p:Int)=some (s,to,e)/\(e=0->s.length<=b.length/\∃j:Nat,to=(j:Int)/\p<j/\j<=b.length):=by
 obtain⟨m,to,e,h,ht⟩:=J0 hp hb;simp only[Ms,Jx,h,Zc1];by_cases he:e=0
 ·obtain⟨m0,j,rfl,j1,j2⟩:=ht he;rw[Ze1 he,Zt1,Af];by_cases h1 : 1048576<m
  ·grind
  rw[Zd1 h1,Af,Be (n:=m) (by simp[inI];omega),Be (by simp[inI];omega)];by_cases h2:(b.length:Int)<(j:Int)+m
  ·grind
  rw[Zd1 h2,Af];have hu:upto (j:Int) ((j:Int)+m) b.length=true:=by simp[upto,Zb1];omega
  have hc:(cut b (j:Int) ((j:Int)+m)).length<=b.length:=by simp[cut,Za2];omega
  rw[hu,chk,Ah,Ze1 (show 0+(cut b (j:Int) ((j:Int)+m)).length<=Ag by simp[Ag];omega),chk,Ah];exact⟨_,_,_,rfl,λ_=>⟨hc,(j+m.toNat),by omega,by omega,by omega⟩⟩
 ·grind
theorem Up{b r s:Str}{p:Nat}(hd:b.drop p=(Av 5 s.length++s)++r)(hn:s.length<16384)(hb:b.length<=9000):Ms b (p:Int)=some (s,((p+(Av 5 s.length++s).length:Nat):Int),0)/\b.drop (p+(Av 5 s.length++s).length)=r:=by
 have hd2:=hd;rw[Zj1] at hd2;have h1:=A3w hd2 hn hb;have h2:=congrArg List.length hd;have h4:=A3 5 s.length;rw[Zh1,Zh1,Za2] at h2;have h3:b.drop (p+(Av 5 s.length).length)=s++r:=by rw[<-List.drop_drop,hd2,List.drop_left]
 refine⟨?_,by rw[<-List.drop_drop,hd,List.drop_left]⟩;obtain⟨q,hq⟩:∃q,q=p+(Av 5 s.length).length:=⟨_,rfl⟩;rw[<-hq] at h1 h3;simp only[Ms,Jx,h1,Zc1,decide_true,Af];rw[Zd1 (by omega),Af,Be (n:=(s.length:Int)) (by simp[inI];omega),Be (by simp[inI];omega),Zd1 (by omega),Af];have hu:upto (q:Int) ((q:Int)+(s.length:Int)) b.length=true:=by simp[upto,Zb1];omega
 have hc:cut b (q:Int) ((q:Int)+(s.length:Int))=s:=by simp[cut];rw[h3,show((q:Int)+(s.length:Int)).toNat-q=s.length by omega,List.take_left]
 rw[hu,hc,chk,Ah,Ze1 (show 0+s.length<=Ag by simp[Ag];omega),chk,Ah,Zh1];simp[ and_true];show(q:Int)+((s.length:Nat):Int)=((p+((Av 5 s.length).length+s.length):Nat):Int);omega
def rsX:Ex->Pt->Option (List Str×Int):=λe vz=>match vz with|(v6,v7,v8,_,a,b)=>match e with|.ret=>some (v7,v8)|.exit 0=>cond (!decide (a=(v6.length:Int))) (some ([],11)) (some (b,0))|_=>none
theorem Bnr{b:Str}(hb:b.length<=9000):∀(k p:Nat) (n:Int) (acc:List Str),p<=b.length->b.length-p<k->acc.length+1<=p->(∀x,x∈acc->x.length<=b.length)->∃l e,Aj (λrec=>Ig rec rsX) k (b,[],0,n,(p:Int),acc)=some (l,e)/\l.length+1<=b.length/\∀x,x∈l->x.length<=b.length
 |0,_,_,_,_,h,_,_=>by omega
 |k+1,p,n,acc,hp,hk,ha,hl=>by
  simp only[Aj,Ig];by_cases h0:wr .u64 (acc.length:Int)<n
  ·obtain⟨s,to,e,h,ht⟩:=Adr hp hb;rw[Ze1 h0,Ah,h,Zc1];by_cases he:e=0
   ·obtain⟨hs,j,rfl,j1,j2⟩:=ht he;rw[Ze1 he,Zt1,Af,Ze1 (show acc.length+1<=Ag by simp[Ag];omega),chk,Ah];exact Bnr hb k j _ _ j2 (by omega) (by simp[ Zi1];omega) λx hx=>by
     rcases List.mem_append.1 hx with hx|hx
     ·exact hl x hx
     ·rw[List.mem_singleton.1 hx];exact hs
   ·rw[Zd1 he,Zs1,Ah];exact⟨_,_,rfl,by simp;omega,λx hx=>by cases hx⟩
  ·rw[Zd1 h0,Af];simp only[rsX];cases decide ((p:Int)=(b.length:Int)) with|false=>exact⟨_,_,rfl,by simp;omega,λx hx=>by cases hx⟩|true=>exact⟨_,_,rfl,by omega,hl⟩
theorem A6z{b:Str}(hb:b.length<=5000):∃l e,Aen b=some (l,e)/\l.length<5000/\∀x,x∈l->x.length<=b.length:=by
 obtain⟨m,to,e,h,ht⟩:=J0 (b:=b) (p:=0) (by omega) (by omega);simp only[Aen,Kn];rw[show Rb b 0=_ from h,Zc1];by_cases he:e=0
 ·obtain⟨m0,j,rfl,j1,j2⟩:=ht he;rw[Ze1 he,Zt1,Af];obtain⟨l,e,h1,h2,h3⟩:=Bnr (b:=b) (by omega) 10000 j m [] j2 (by omega) (by simp;omega) λx hx=>by cases hx
  exact⟨l,e,h1,by omega,h3⟩
 ·rw[Zd1 he,Zs1,Ah];exact⟨_,_,rfl,by simp,λx hx=>by cases hx⟩
theorem Bks{b:Str}(hb:b.length<=9000){n:Nat}(hn:n<=9000):∀(l:List Str) (k p:Nat) (acc:List Str),b.drop p=Ch l->p<=b.length->l.length<k->acc.length+l.length=n->(∀x,x∈l->x.length<16384)->Aj (λrec=>Ig rec rsX) k (b,[],0,(n:Int),(p:Int),acc)=some (acc++l,0)
 |_,0,_,_,_,_,h,_,_=>by omega
 |[],k+1,p,acc,hd,hp,_,ha,_=>by have:=congrArg List.length hd;simp[Ch,Zi1] at this ha;simp only[Aj,Ig,rsX];rw[Br (by omega),Zd1 (by omega),Af,Ze1 (by omega),Zt1,Af,List.append_nil]
 |s::l,k+1,p,acc,hd,hp,hk,ha,hl=>by simp at hk ha;obtain⟨h1,h2⟩:=Up (r:=Ch l) hd (hl s (by simp)) hb;have h4:=congrArg List.length hd;simp[Ch,Za2] at h4;have ih:=Bks hb hn l k (p+(Av 5 s.length++s).length) (acc++[s]) h2 (by rw[Zh1];omega) (by omega) (by simp[ Zi1];omega) λx hx=>hl x (by simp[hx]);simp only[Aj,Ig];rw[Br (by omega),Ze1 (by omega),Ah,h1,Zc1,Ze1 (show(0:Int)=0 from rfl),Zt1,Af,Ze1 (show acc.length+1<=Ag by simp[Ag];omega),chk,Ah,ih,Zj1];rfl
theorem A7x{l:List Str}(hl:l.length<5000)(hb:(Gi l).length<=9000)(hs:∀x,x∈l->x.length<16384):Aen (Gi l)=some (l,0):=by
 have h1:=A3w (b:=Gi l) (r:=Ch l) (p:=0) (n:=l.length) rfl (by omega) hb;have h2:(Av 5 l.length).length+(Ch l).length=(Gi l).length:=by simp[Gi]
 simp only[Aen,Kn];rw[show Rb (Gi l) 0=_ from h1,Zc1,Ze1 (show(0:Int)=0 from rfl),Zt1,Af];exact Bks hb (by omega) l 10000 _ [] (by rw[Nat.zero_add];exact List.drop_left) (by omega) (by omega) (by simp) hs
theorem Bdn{p:Nat}{b r:Str}(hb:b.length<=1000000):∀(k i a m f:Nat),i+k=9->b.drop (p+i)=Av k m++r->a<2 ^ (7*i)->a+m*2 ^ (7*i)<18446744073709551616->(0<i->0<m)->k<f ->
  Aj (λrec=>Gm rec rgX) f (b,(p:Int),0,0,0,(a:Int),((2 ^ (7*i):Nat):Int),((p+i:Nat):Int))=some (((a+m*2 ^ (7*i):Nat):Int),((p+i+(Av k m).length:Nat):Int),0)
 |_,_,_,_,0,_,_,_,_,_,h=>by omega
 |k,i,a,m,f+1,hk,hd,ha,hm,h0,hf=>by
  have hlen:=congrArg List.length hd;have h1:=A3 k m;rw[Za2,Zh1] at hlen;have hi:p+i<b.length:=by omega
  have hgi:b[p+i]=(Av k m++r)[0]'(by simp;omega):=by
   have:(b.drop (p+i))[0]'(by rw[Za2];omega)=b[p+i]:=by simp
   rw[<-this];simp only[hd]
  rw[A0];obtain⟨n',_,hn',hs⟩:=Aad (p:=p) (n:=(a:Int)) (u:=((2 ^ (7*i):Nat):Int)) hi (Nat.le_add_right _ _) hb;have val:∀x:Nat,b[p+i].toNat % 128=x->a+x*2 ^ (7*i)<18446744073709551616->n' = ((a+x*2 ^ (7*i):Nat):Int):=λx hx hlt=>by rw[hn',hx,<-Int.natCast_mul,Br (by omega),<-Int.natCast_add,Br hlt]
  rw[hs (Aj (λrec=>Gm rec rgX) f),Nat.add_sub_cancel_left];have small:m<128->Av k m=[UInt8.ofNat m]->(if i=9/\1<b[p+i].toNat\/p<p+i/\b[p+i].toNat=0 then some ((0:Int),(0:Int),(11:Int)) else if b[p+i].toNat<128 then some (n',((p+i+1:Nat):Int),0) else Aj (λrec=>Gm rec rgX) f (b,(p:Int),0,0,0,n',wr .u64 (((2 ^ (7*i):Nat):Int)*128),((p+i+1:Nat):Int)))=some (((a+m*2 ^ (7*i):Nat):Int),((p+i+(Av k m).length:Nat):Int),0):=λhsm e=>by
   have e0:b[p+i].toNat=m:=by rw[hgi];simp only[e];exact Q0 (by omega)
   rw[val m (by rw[e0,Nat.mod_eq_of_lt hsm]) hm,e0,if_neg,if_pos hsm,e]
   ·rfl
   ·rintro(⟨h9,h2⟩|⟨h2,h3⟩)
    ·subst h9;have : 2*2 ^ (7*9)<=m*2 ^ (7*9):=Nat.mul_le_mul_right _ h2;omega
    ·have:=h0 (by omega);omega
  cases k with
  |zero =>
   have h9:i=9:=by omega
   subst h9;exact small (by omega) rfl
  |succ k =>
   by_cases hsm:m<128
   ·exact small hsm (by simp[Av,hsm])
   ·have e:Av (k+1) m=UInt8.ofNat (m % 128+128)::Av k (m / 128):=by simp[Av,hsm]
    have e0:b[p+i].toNat=m % 128+128:=by rw[hgi];simp only[e];exact Q0 (by omega)
    have e1:(m % 128+128) % 128=m % 128:=by omega
    have hp : 2 ^ (7*(i+1))=128*2 ^ (7*i):=by rw[Nat.mul_add,Nat.pow_add];omega
    have hq:m % 128*2 ^ (7*i)+(m / 128)*2 ^ (7*(i+1))=m*2 ^ (7*i):=by rw[hp,<-Nat.mul_assoc,<-Nat.add_mul];congr 1;omega
    have hle:m % 128*2 ^ (7*i)<=127*2 ^ (7*i):=Nat.mul_le_mul_right _ (by omega);have hpl : 2 ^ (7*i)<=2 ^ (7*8):=Nat.pow_le_pow_right (by omega) (by omega);have hu:wr .u64 (((2 ^ (7*i):Nat):Int)*128)=((2 ^ (7*(i+1)):Nat):Int):=by rw[show((2 ^ (7*i):Nat):Int)*128=((2 ^ (7*(i+1)):Nat):Int) by rw[hp];omega,Br (by omega)]
    rw[val (m % 128) (by rw[e0,e1]) (by omega),e0,if_neg (by omega),if_neg (by omega),hu];have ih:=Bdn (p:=p) (r:=r) hb k (i+1) (a+m % 128*2 ^ (7*i)) (m / 128) f (by omega) (by rw[<-Nat.add_assoc,<-List.drop_drop,hd,e];simp) (by rw[hp];omega) (by omega) (by omega) (by omega)
    rw[show p+i+1=p+(i+1) by omega,ih,e];simp only[Zf1,Za1,Zp1];refine⟨by congr 1;omega,by congr 1;omega,trivial⟩
theorem A60{b r:Str}{p n:Nat}(hd:b.drop p=Av 9 n++r)(hn:n<18446744073709551616)(hb:b.length<=9000):Rb b (p:Int)=some ((n:Int),((p+(Av 9 n).length:Nat):Int),0):=by have hl:=congrArg List.length hd;have h1:=A3 9 n;rw[Za2,Zh1] at hl;rw[Au4 (by omega)];have:=Bdn (p:=p) (b:=b) (r:=r) (by omega) 9 0 0 n 10000 rfl (by simpa using hd) (by simp) (by simpa using hn) (by omega) (by omega);simpa using this
def zz(n:Int):Nat:=if n<0 then(-2*n-1).toNat else(2*n).toNat
theorem A2z{n:Int}(h:inI n=true):zz n<18446744073709551616:=by simp[inI] at h;simp only[zz];split<;>omega
theorem wrU(n:Int):wr .u64 n=n % 18446744073709551616:=by simp[wr,IntKind.wrap,IntKind.bits,IntKind.signed]
theorem B0q(k:IntKind)(x:Int):Aip k x 0=k.wrap ((BitVec.ofInt k.bits x).toNat:Int):=by simp[Aip,Aos]
theorem B07{x:Int}(h : 0<=x/\x<18446744073709551616):Aip .u64 x 18446744073709551615=18446744073709551615-x:=by show wr .u64 (((BitVec.ofInt 64 x ^^^ BitVec.ofInt 64 18446744073709551615).toNat:Nat):Int)=_;rw[show BitVec.ofInt 64 18446744073709551615=BitVec.allOnes 64 by decide,BitVec.xor_allOnes,BitVec.toNat_not,BitVec.toNat_ofInt,wrU];omega
theorem Byg{n:Int}(h:inI n=true):Aip .u64 (Aax .u64 (wr .u64 n) 1) (wr .u64 (Dz .i64 n 63))=(zz n:Int):=by
 simp[inI] at h;have e1:Aax .u64 (wr .u64 n) 1=(wr .u64 n*2) % 18446744073709551616:=by rw[<-wrU];rfl
 have e2:Dz .i64 n 63=n.fdiv 9223372036854775808:=rfl;rw[e1,e2,wrU,wrU];by_cases hn:n<0
 ·have e3:n.fdiv 9223372036854775808 = -1:=by rw[Int.fdiv_eq_ediv_of_nonneg _ (by omega)];omega
  rw[e3,show(-1:Int) % 18446744073709551616=18446744073709551615 by decide,B07 (by omega)];simp only[zz,if_pos hn];omega
 ·have e3:n.fdiv 9223372036854775808=0:=by rw[Int.fdiv_eq_ediv_of_nonneg _ (by omega)];omega
  rw[e3,show(0:Int) % 18446744073709551616=0 by decide,B0q];show wr .u64 (((BitVec.ofInt 64 _).toNat:Nat):Int)=_;rw[BitVec.toNat_ofInt,wrU];simp only[zz,if_neg hn];omega
theorem Bqk{n:Int}(h:inI n=true):A9e n=some (Av 9 (zz n)):=by simp only[A9e,X6,Byg h,Afa (A2z h)];rfl
theorem Bpn{n:Int}(h:inI n=true):Bdf n=some (Av 9 (zz n)):=by
 have hz:=A2z h;simp[inI] at h;simp only[Bdf,W4];by_cases hn:n<0
 ·have e:wr .u64 ((wr .u64 (2*(wr .u64 (wr .i64 (0-(wr .i64 (n+1)))))))+1)=(zz n:Int):=by rw[Be (n:=n+1) (by simp[inI];omega),Be (n:=0-(n+1)) (by simp[inI];omega),wrU,wrU,wrU];simp only[zz,if_pos hn];omega
  rw[Ze1 hn,Ah,e,Gw hz];rfl
 ·have e:wr .u64 (2*(wr .u64 n))=(zz n:Int):=by rw[wrU,wrU];simp only[zz,if_neg hn];omega
  rw[Zd1 hn,Af,e,Gw hz];rfl
theorem wrI(n:Int):wr .i64 n=(n+9223372036854775808) % 18446744073709551616-9223372036854775808:=by simp only[wr,IntKind.wrap_i64]
theorem Bz9{n:Int}(h:inI n=true):Aip .i64 (wr .i64 (Dz .u64 (zz n:Int) 1)) (wr .i64 (0-(wr .i64 (Ek .u64 (zz n:Int) 1))))=n:=by
 have hz:=A2z h;simp[inI] at h;have e1:Dz .u64 (zz n:Int) 1=((zz n / 2:Nat):Int):=by show(zz n:Int).fdiv 2=_;rw[Int.fdiv_eq_ediv_of_nonneg _ (by omega)];omega
 have e2:Ek .u64 (zz n:Int) 1=((zz n % 2:Nat):Int):=by show wr .u64 (((BitVec.ofInt 64 (zz n:Int) &&& BitVec.ofInt 64 1).toNat:Nat):Int)=_;rw[BitVec.toNat_and,show(BitVec.ofInt 64 1).toNat=1 by decide,Nat.and_one_is_mod,BitVec.toNat_ofInt,wrU];omega
 rw[e1,e2,Be (n:=((zz n / 2:Nat):Int)) (by simp[inI];omega),Be (n:=((zz n % 2:Nat):Int)) (by simp[inI];omega)];by_cases hn:n<0
 ·have z:zz n % 2=1:=by simp only[zz,if_pos hn];omega
  have z2:((zz n / 2:Nat):Int) = -n-1:=by simp only[zz,if_pos hn];omega
  rw[z,z2,show wr .i64 (0-((1:Nat):Int)) = -1 by decide];show wr .i64 (((BitVec.ofInt 64 (-n-1) ^^^ BitVec.ofInt 64 (-1)).toNat:Nat):Int)=_;rw[show BitVec.ofInt 64 (-1)=BitVec.allOnes 64 by decide,BitVec.xor_allOnes,BitVec.toNat_not,BitVec.toNat_ofInt,wrI];omega
 ·have z:zz n % 2=0:=by simp only[zz,if_neg hn];omega
  have z2:((zz n / 2:Nat):Int)=n:=by simp only[zz,if_neg hn];omega
  rw[z,z2,show wr .i64 (0-((0:Nat):Int))=0 by decide,B0q];show wr .i64 (((BitVec.ofInt 64 n).toNat:Nat):Int)=_;rw[BitVec.toNat_ofInt,wrI];omega
theorem Bt6{b r:Str}{p:Nat}{n:Int}(h:inI n=true)(hd:b.drop p=Av 9 (zz n)++r)(hb:b.length<=1000000):Arz b (p:Int)=some (n,((p+(Av 9 (zz n)).length:Nat):Int),0):=by simp only[Arz,O8,(Af1 hd (A2z h) hb).1,Zc1,Bz9 h]
theorem Bty{b r:Str}{p:Nat}{n:Int}(h:inI n=true)(hd:b.drop p=Av 9 (zz n)++r)(hb:b.length<=9000):Acp b (p:Int)=some (n,((p+(Av 9 (zz n)).length:Nat):Int),0):=by
 have hz:=A2z h;simp only[Acp,O7,A60 hd hz hb,Zc1];simp[inI] at h;have e1:Int.tmod (zz n:Int) 2=((zz n % 2:Nat):Int):=rfl;have e2:wr .i64 (wr .u64 (Int.tdiv (zz n:Int) 2))=((zz n / 2:Nat):Int):=by rw[show Int.tdiv (zz n:Int) 2=((zz n / 2:Nat):Int) from rfl,Br (by omega),Be (by simp[inI];omega)]
 rw[e1,e2];by_cases hn:n<0
 ·have z:zz n % 2=1:=by simp only[zz,if_pos hn];omega
  have z2:((zz n / 2:Nat):Int) = -n-1:=by simp only[zz,if_pos hn];omega
  rw[z,z2,Be (n:=0-(-n-1)) (by simp[inI];omega),show 0-(-n-1)-1=n by omega,Be (n:=n) (by simp[inI];omega)];simp
 ·have z:zz n % 2=0:=by simp only[zz,if_neg hn];omega
  have z2:((zz n / 2:Nat):Int)=n:=by simp only[zz,if_neg hn];omega
  rw[z,z2];simp
theorem D9{v:Val}(h:A7 v=true)(hk:v.kind=4\/v.kind=5):v.s.length<=1000:=by rcases hk with hk|hk<;>simp[A7,hk] at h<;>grind
theorem Le{v:Val}(h:A7 v=true):v.kind=1\/v.kind=2\/v.kind=3\/v.kind=4\/v.kind=5:=by
 by_cases h1:v.kind=1; · exact .inl h1
 by_cases h2:v.kind=2; · exact .inr (.inl h2)
 by_cases h3:v.kind=3; · exact .inr (.inr (.inl h3))
 by_cases h4:v.kind=4; · exact .inr (.inr (.inr (.inl h4)))
 by_cases h5:v.kind=5; · exact .inr (.inr (.inr (.inr h5)))
 simp[A7,h1,h2,h3,h4,h5] at h
def b8(n:Int):UInt8:=UInt8.ofNat (wr .u8 n).toNat
def D7(v:Val):Str:=b8 v.kind::(if v.kind=2 then [b8 v.n] else if v.kind=3 then Av 9 (zz v.n) else if v.kind=4\/v.kind=5 then Av 5 v.s.length++v.s else [])
theorem An0{v:Val}(h:A7 v=true):(D7 v).length<=1020:=by
 have h1:=A3 9 (zz v.n);have h2:=A3 5 v.s.length;simp only[D7,Zf1];split
 ·simp
 ·split
  ·omega
  ·split
   ·have:=D9 h (by assumption);rw[Zh1];omega
   ·simp
theorem Abs{s:Str}(h:s.length<=274877906900):Arv s=some (Av 5 s.length++s):=by have e:wr .u64 (s.length:Int)=(s.length:Int):=Br (by omega);have:=A3 5 s.length;simp only[Arv,Y7,e,Gw (show s.length<18446744073709551616 by omega),Zp (show s.length<128 ^ 6 by omega),Zc1];rw[Ze1 (by simp[Ag];omega)];rfl
def Ft(l:List Val):Str:=(l.map D7).flatten
def Ff(l:List Val):Str×Int:=cond (l.all λv=>A7 v) (cond (decide (100<(l.length:Int))) ([],3) (Av 9 l.length++Ft l,0)) ([],2)
theorem vch(v:Val):Fa v=cond (!A7 v) 2 0:=rfl
theorem Bih{l:List Val}{i:Nat}{acc:Str}{a:Str}{b:Int}{kx:Ex->Mi->Option (Str×Int)}(rec:Mi->Option (Str×Int))(hi:i<l.length)(hl:ln l.length)(hn:inI l[i].n=true)(ha:acc.length<=200000000000) :
  Qv rec kx (l,a,b,acc,l,(l.length:Int),(i:Int))=cond (A7 l[i]) (rec (l,a,b,acc++D7 l[i],l,(l.length:Int),((i+1:Nat):Int))) (kx .ret (l,[],2,acc,l,(l.length:Int),(i:Int))):=by
 simp only[Qv,Cb hi,Ah,Au hi,chk,Aq (c :=.val) hi,Ao hi hl,vch];cases hv:A7 l[i] with
 |false=>rfl
 |true =>
  have d1:decide (acc.length+1<=Ag)=true:=Ze1 (by simp[Ag];omega);have d2:∀x:Str,x.length<=2000->decide ((acc++[b8 l[i].kind]).length+x.length<=Ag)=true:=λx hx=>Ze1 (by simp[Ag];omega);rcases Le hv with hk|hk|hk|hk|hk
  ·simp[D7,hk,d1,b8]
  ·have d3:=d2 [b8 l[i].n] (by simp);simp[b8,hk] at d3;simp[D7,hk,d1,b8,d3]
  ·have d3:=d2 (Av 9 (zz l[i].n)) (by have:=A3 9 (zz l[i].n);omega);simp[b8,hk] at d3;simp[D7,hk,d1,b8,Bqk hn,d3]
  ·have hs:=D9 hv (.inl hk);have d3:=d2 (Av 5 l[i].s.length++l[i].s) (by have:=A3 5 l[i].s.length;simp;omega);simp[b8,hk] at d3;simp[D7,hk,d1,b8,Abh (show l[i].s.length<=274877906900 by omega),d3,show l[i].s.length<=Ag by simp[Ag];omega]
  ·have hs:=D9 hv (.inr hk);have d3:=d2 (Av 5 l[i].s.length++l[i].s) (by have:=A3 5 l[i].s.length;simp;omega);simp[b8,hk] at d3;simp[D7,hk,d1,b8,Abh (show l[i].s.length<=274877906900 by omega),d3,show l[i].s.length<=Ag by simp[Ag];omega]
theorem Jl(v:Val)(l:List Val):Ft (v::l)=D7 v++Ft l:=by simp[Ft]
theorem Arm:∀{l:List Val},(l.all λv=>A7 v)=true->(Ft l).length<=1020*l.length
 |[],_=>by simp[Ft]
 |v::l,h=>by simp only[Zv1,Zb1] at h;have h1:=An0 h.1;have h2:=Arm h.2;rw[Jl,Zh1,Zf1];omega
theorem Ap9{l:List Val}{kx:Ex->Mi->Option (Str×Int)}(hl:l.length<=4000)(hn:∀v,v∈l->inI v.n=true):∀(k i:Nat) (acc:Str),i<=l.length->l.length-i<k->acc.length+1020*(l.length-i)<=200000000000 ->
  ((l.drop i).all (λv=>A7 v)=true->Aj (λrec=>Qv rec kx) k (l,[],0,acc,l,(l.length:Int),(i:Int))=kx (.exit 0) (l,[],0,acc++Ft (l.drop i),l,(l.length:Int),(l.length:Int))) /\
  ((l.drop i).all (λv=>A7 v)=false->∃acc' j,Aj (λrec=>Qv rec kx) k (l,[],0,acc,l,(l.length:Int),(i:Int))=kx .ret (l,[],2,acc',l,(l.length:Int),j))
 |0,_,_,_,h,_=>by omega
 |k+1,i,acc,hi,hk,ha=>by
  have hln:ln l.length:=by simp[ln];omega
  rw[A0];by_cases h:i<l.length
  ·have hv:l[i]∈l:=List.getElem_mem h;rw[Bih _ h hln (hn _ hv) (by omega),List.drop_eq_getElem_cons h,Zv1];cases hr:A7 l[i] with|false =>refine⟨λe=>by simp at e,λ_=>⟨_,_,rfl⟩⟩|true =>have hlen:=An0 hr;rw[Ah,Bool.true_and,Jl,<-Zj1];exact Ap9 hl hn k (i+1) (acc++D7 l[i]) h (by omega) (by rw[Zh1];omega)
  ·have:i=l.length:=by omega
   subst this;refine⟨λ_ =>?_,λe=>by simp at e⟩;simp only[Qv,Ds,Af];simp[Ft]
theorem Bs5{l:List Val}(hl:l.length<=4000)(hn:∀v,v∈l->inI v.n=true):Bux l=some (Ff l):=by
 have h9:=A3 9 l.length;obtain⟨h1,h2⟩:=Ap9 (l:=l) (kx:=λe vz=>match vz with|(v7,v8,v9,a,_,_,_)=>match e with
  |.ret=>some (v8,v9)
  |.exit 0=>cond (decide (100<(v7.length:Int))) (some ([],3)) (some (a,0))
  |_=>none) hl hn 5000 0 (Av 9 l.length) (by omega) (by omega) (by omega)
 have e:wr .u64 (l.length:Int)=(l.length:Int):=Br (by omega);simp only[Bux,Afb,e,Afa (show l.length<18446744073709551616 by omega),Zc1,Ff];rw[Zq1] at h1 h2;cases h:l.all (λv=>A7 v) with|true =>refine(h1 h).trans ?_;show cond (decide (100<(l.length:Int))) (some (([]:Str),(3:Int))) (some (Av 9 l.length++Ft l,0))=_;cases decide (100<(l.length:Int))<;>rfl|false =>obtain⟨_,_,h3⟩:=h2 h;exact h3
theorem Bqe{v:Val}(h:A7 v=true)(hn:inI v.n=true):Bar v=some (D7 v):=by
 simp only[Bar,Yh];rcases Le h with hk|hk|hk|hk|hk
 ·simp[D7,hk,b8]
 ·simp[D7,hk,b8]
 ·have h1:=A3 9 (zz v.n);have d : 1+(Av 9 (zz v.n)).length<=Ag:=by simp[Ag];omega
  simp[D7,hk,b8,Bpn hn,d,chk]
 ·have hs:=D9 h (.inl hk);have h1:=A3 5 v.s.length;have d : 1+(Av 5 v.s.length++v.s).length<=Ag:=by simp[Ag];omega
  simp only[Zh1] at d;simp[D7,hk,b8,Abs (show v.s.length<=274877906900 by omega),d,chk,show v.s.length<=Ag by simp[Ag];omega]
 ·have hs:=D9 h (.inr hk);have h1:=A3 5 v.s.length;have d : 1+(Av 5 v.s.length++v.s).length<=Ag:=by simp[Ag];omega
  simp only[Zh1] at d;simp[D7,hk,b8,Abs (show v.s.length<=274877906900 by omega),d,chk,show v.s.length<=Ag by simp[Ag];omega]
theorem Bdm{l:List Val}{kx:Ex->Aas->Option (Str×Int)}(hl:l.length<=4000):∀(k i:Nat),i<=l.length->l.length-i<k ->
  ((l.drop i).all (λv=>A7 v)=true->Aj (λrec=>Zt rec kx) k (l,[],0,(i:Int))=kx (.exit 0) (l,[],0,(l.length:Int))) /\
  ((l.drop i).all (λv=>A7 v)=false->∃j,Aj (λrec=>Zt rec kx) k (l,[],0,(i:Int))=kx .ret (l,[],2,j))
 |0,_,_,h=>by omega
 |k+1,i,hi,hk=>by
  have hln:ln l.length:=by simp[ln];omega
  rw[A0];by_cases h:i<l.length
  ·simp only[Zt,Cb h,Ah,Au h,chk,Aq (c :=.val) h,Ao h hln];rw[List.drop_eq_getElem_cons h,Zv1];have e:Io l[i]=cond (!A7 l[i]) 2 0:=rfl;rw[e];cases hr:A7 l[i] with|false =>refine⟨λe=>by simp at e,λ_=>⟨_,rfl⟩⟩|true =>rw[Bool.true_and];exact Bdm hl k (i+1) h (by omega)
  ·have:i=l.length:=by omega
   subst this;refine⟨λ_ =>?_,λe=>by simp at e⟩;simp only[Zt,Ds,Af]
theorem A9v{l:List Val}{kx:Ex->Z2->Option (Str×Int)}(hl:l.length<=4000)(hn:∀v,v∈l->inI v.n=true)(hv:(l.all λv=>A7 v)=true):∀(k i:Nat) (acc:Str),i<=l.length->l.length-i<k->acc.length+1020*(l.length-i)<=200000000000 ->
  Aj (λrec=>Rx rec kx) k (l,acc,(i:Int))=kx (.exit 2) (l,acc++Ft (l.drop i),(l.length:Int))
 |0,_,_,_,h,_=>by omega
 |k+1,i,acc,hi,hk,ha=>by
  have hln:ln l.length:=by simp[ln];omega
  rw[A0];by_cases h:i<l.length
  ·have hm:l[i]∈l:=List.getElem_mem h;have hr:=Zg2.1 hv _ hm;have hlen:=An0 hr;simp only[Rx,Cb h,Ah,Au h,chk,Aq (c :=.val) h,Ao h hln,Bqe hr (hn _ hm),Zc1,Ze1 (show acc.length+(D7 l[i]).length<=Ag by simp[Ag];omega)];rw[List.drop_eq_getElem_cons h,Jl,<-Zj1];exact A9v hl hn hv k (i+1) (acc++D7 l[i]) h (by omega) (by rw[Zh1];omega)
  ·have:i=l.length:=by omega
   subst this;simp only[Rx,Ds,Af];simp[Ft]
theorem Bzd{l:List Val}(m:Nat)(hm : 4000<m)(hl:l.length<=4000)(hn:∀v,v∈l->inI v.n=true):T8 m l=some (Ff l):=by
 have h9:=A3 9 l.length;have e:wr .u64 (l.length:Int)=(l.length:Int):=Br (by omega);obtain⟨h1,h2⟩:=Bdm (l:=l) (kx:=λe vz=>match vz with|(v4,v5,v6,_)=>match e with
  |.ret=>some (v5,v6)
  |.exit 0 =>
  cond (decide (100<(v4.length:Int))) (
   some ([],3)) (
   (G8 (wr .u64 (v4.length:Int))).bind λx =>
   Aj (λrec=>Rx rec (λe vz=>match vz with|(_,a,_)=>match e with
    |.exit 2=>some (a,0)
    |_=>none)) m (v4,x,0))
  |_=>none) hl m 0 (by omega) (by omega)
 simp only[T8,Ff];rw[Zq1] at h1 h2;cases h:l.all (λv=>A7 v) with
 |true =>
  refine(h1 h).trans ?_;show cond (decide (100<(l.length:Int))) (some (([]:Str),(3:Int))) ((G8 (wr .u64 (l.length:Int))).bind λx=>Aj (λrec=>Rx rec (λe vz=>match vz with|(_,a,_)=>match e with
    |.exit 2=>some (a,0)
    |_=>none)) m (l,x,0))=_
  rw[e,Gw (show l.length<18446744073709551616 by omega),Zc1];have h3:=A9v (l:=l) (kx:=λe vz=>match vz with|(_,a,_)=>match e with
    |.exit 2=>some (a,(0:Int))
    |_=>none) hl hn h m 0 (Av 9 l.length) (by omega) (by omega) (by omega)
  rw[Zq1] at h3;cases decide (100<(l.length:Int)) with|true=>rfl|false=>exact h3
 |false =>obtain⟨_,h3⟩:=h2 h;exact h3
theorem Btu{l:List Val}(hl:l.length<=4000)(hn:∀v,v∈l->inI v.n=true):Bzc l=some (Ff l):=Bzd 10000 (by omega) hl hn
theorem A01{l:List Val}(hl:l.length<=4000):(Ff l).1.length<=110000:=by
 simp only[Ff];cases h:l.all (λv=>A7 v) with
 |false=>simp
 |true =>rw[Ah];cases hd:decide (100<(l.length:Int)) with|true=>simp|false =>have:=of_decide_eq_false hd;have h1:=Arm h;have h2:=A3 9 l.length;simp only[Af,Zh1];omega
def okR(r:List Val):Bool:=decide ((Ff r).2=0)
def Ame:List (List Val)->Int
 |[]=>0
 |r::l=>if(Ff r).2=0 then Ame l else(Ff r).2
theorem A8v:∀{l:List (List Val)},l.all okR=false->Ame l≠0
 |[],h=>by simp at h
 |r::l,h=>by
  simp only[Ame];split
  ·rename_i e;refine A8v ?_;simpa[okR,e] using h
  ·assumption
def Bb(l:List (List Val)):List Str:=l.map λr=>(Ff r).1
theorem Qs(r:List Val)(l:List (List Val)):Bb (r::l)=(Ff r).1::Bb l:=rfl
def C6(l:List (List Val)):Str×Int:=cond (l.all okR) (Gi (Bb l),0) ([],Ame l)
def Kk(l:List (List Val)):Prop:=l.length<=20000/\∀r,r∈l->r.length<=4000/\∀v,v∈r->inI v.n=true
theorem Asz:∀{l:List Str}{m:Nat},(∀s,s∈l->s.length<=m)->(Ch l).length<=(m+6)*l.length
 |[],_,_=>by simp[Ch]
 |s::l,m,h=>by have h1:=A3 5 s.length;have h2:=h s (by simp);have h3:=Asz (l:=l) (m:=m) λs hs=>h s (by simp[hs]);simp only[Ch,Zh1,Zf1,Nat.mul_succ];omega
theorem R7{l:List (List Val)}(h:Kk l):(Ch (Bb l)).length<=110006*l.length:=by
 have:=Asz (l:=Bb l) (m:=110000) λs hs=>by obtain⟨r,hr,rfl⟩:=List.mem_map.1 hs;exact A01 (h.2 r hr).1
 simpa[Bb] using this
theorem Ans{l:List (List Val)}{kx:Ex->Vb->Option (Str×Int)}(hb:Kk l):∀(k i:Nat) (acc:List Str),i<=l.length->l.length-i<k->acc.length<=i ->
  ((l.drop i).all okR=true->Aj (λrec=>O6 rec kx) k ([],0,acc,l,(l.length:Int),(i:Int))=kx (.exit 0) ([],0,acc++Bb (l.drop i),l,(l.length:Int),(l.length:Int))) /\
  ((l.drop i).all okR=false->∃acc' j,Aj (λrec=>O6 rec kx) k ([],0,acc,l,(l.length:Int),(i:Int))=kx .ret ([],Ame (l.drop i),acc',l,(l.length:Int),j))
 |0,_,_,_,h,_=>by omega
 |k+1,i,acc,hi,hk,ha=>by
  have hl:=hb.1;have hln:ln l.length:=by simp[ln];omega
  rw[A0];by_cases h:i<l.length
  ·have hm:=hb.2 l[i] (List.getElem_mem h);simp only[O6,Cb h,Ah,Au h,chk,Aq (c :=.vals) h,Ao h hln];rw[Bs5 hm.1 hm.2,Zc1,List.drop_eq_getElem_cons h,Zv1];cases ho:okR l[i] with|false =>have e:¬(Ff l[i]).2=0:=of_decide_eq_false ho;refine⟨λe=>by simp at e,λ_=>⟨acc,i,?_⟩⟩;simp[Ame,e]|true =>have e:(Ff l[i]).2=0:=of_decide_eq_true ho;simp only[e,decide_true,Zt1,Af,Bool.true_and,Ze1 (show acc.length+1<=Ag by simp[Ag];omega),Ah,Ame,if_true];have ih:=Ans (kx:=kx) hb k (i+1) (acc++[(Ff l[i]).1]) h (by omega) (by simp;omega);rw[Qs,List.append_cons acc _ (Bb _)];exact ih
  ·have:i=l.length:=by omega
   subst this;refine⟨λ_ =>?_,λe=>by simp at e⟩;simp only[O6,Ds,Af];simp[Bb]
theorem Bnn{l:List (List Val)}(hb:Kk l):Bc6 l=some (C6 l):=by
 have hl:=hb.1;obtain⟨h1,h2⟩:=Ans (l:=l) (kx:=λe vz=>match vz with|(v6,v7,v8,_,_,_)=>match e with
  |.ret=>some (v6,v7)
  |.exit 0=>(Ak1 v8).bind λx2=>some (x2,0)
  |_=>none) hb 50000 0 [] (by omega) (by omega) (by simp)
 have hj:=R7 hb;simp only[Bc6,Yk,C6];rw[Zq1] at h1 h2;cases h:l.all okR with|true =>refine(h1 h).trans ?_;show((Ak1 ([]++Bb l)).bind λx2=>some (x2,(0:Int)))=_;rw[Zf2,Bo3 (by simp[Bb];omega) (by omega)];rfl|false =>obtain⟨_,_,h3⟩:=h2 h;exact h3
theorem A43{l:List Str}{kx:Ex->T1->Option Str}(hn:ln l.length)(hx:∀acc,kx (.exit 0) (l,acc,(l.length:Int))=some acc)(k:Nat)(hk:l.length<k)(acc:Str)(ha:acc.length+(Ch l).length<=274877906900) :
  Aj (λrec=>Ve rec kx) k (l,acc,0)=some (acc++Ch l):=by
 refine(H0 l.length (λi acc=>(l,acc,(i:Int))) (λi a=>a.length+(Ch (l.drop i)).length<=274877906900) (λi a=>some (a++Ch (l.drop i))) (λi hi a hb rec hr =>?_) (λa _ rec =>?_) k 0 acc (Nat.zero_le _) (by omega) (by rw[Zq1];exact ha)).trans (by rw[Zq1])
 ·rw[Ay hi] at hb ⊢;simp[Ch] at hb ⊢;simp only[Ve,Cb hi,Au hi,chk,Aq (c :=.bytes) hi];rw[Abs (by omega),Zc1,Ze1 (by simp[Ag];omega),Ah,Ao hi hn,hr _ (by simp;omega)];simp
 ·simp only[Ve,hx];simp[Ch]
theorem Bvh{l:List Str}(m:Nat)(hl:l.length<m)(hln:l.length<50000)(hs:(Ch l).length<=274877906000):Pv m l=some (Gi l):=by have:=A3 5 l.length;simp only[Pv];rw[Br (by omega),Gw (by omega),Zc1,Zp (by omega)];exact A43 (by simp[ln];omega) (λ_=>rfl) m hl _ (by omega)
theorem Bq6{l:List Str}(hl:l.length<50000)(hs:(Ch l).length<=274877906000):A3v l=some (Gi l):=Bvh 50000 (by omega) hl hs
theorem Alh{l:List (List Val)}{kx:Ex->Vi->Option (Str×Int)}(hb:Kk l):∀(k i:Nat) (acc:List Str),i<=l.length->l.length-i<k->acc.length<=i ->
  ((l.drop i).all okR=true->Aj (λrec=>O9 rec kx) k (l,[],0,acc,(i:Int))=kx (.exit 0) (l,[],0,acc++Bb (l.drop i),(l.length:Int))) /\
  ((l.drop i).all okR=false->∃acc' j,Aj (λrec=>O9 rec kx) k (l,[],0,acc,(i:Int))=kx .ret (l,[],Ame (l.drop i),acc',j))
 |0,_,_,_,h,_=>by omega
 |k+1,i,acc,hi,hk,ha=>by
  have hl:=hb.1;have hln:ln l.length:=by simp[ln];omega
  rw[A0];by_cases h:i<l.length
  ·have hm:=hb.2 l[i] (List.getElem_mem h);simp only[O9,Cb h,Ah,Au h,chk,Aq (c :=.vals) h,Ao h hln];rw[Btu hm.1 hm.2,Zc1,List.drop_eq_getElem_cons h,Zv1];cases ho:okR l[i] with|false =>have e:¬(Ff l[i]).2=0:=of_decide_eq_false ho;refine⟨λe=>by simp at e,λ_=>⟨acc,i,?_⟩⟩;simp[Ame,e]|true =>have e:(Ff l[i]).2=0:=of_decide_eq_true ho;simp only[e,decide_true,Zt1,Af,Bool.true_and,Ze1 (show acc.length+1<=Ag by simp[Ag];omega),Ah,Ame,if_true];have ih:=Alh (kx:=kx) hb k (i+1) (acc++[(Ff l[i]).1]) h (by omega) (by simp;omega);rw[Qs,List.append_cons acc _ (Bb _)];exact ih
  ·have:i=l.length:=by omega
   subst this;refine⟨λ_ =>?_,λe=>by simp at e⟩;simp only[O9,Ds,Af];simp[Bb]
theorem Bv9{l:List (List Val)}(m:Nat)(hm : 20000<m)(hb:Kk l):Py m l=some (C6 l):=by
 have hl:=hb.1;obtain⟨h1,h2⟩:=Alh (l:=l) (kx:=λe vz=>match vz with|(_,v6,v7,v8,_)=>match e with
  |.ret=>some (v6,v7)
  |.exit 0=>(A3v v8).bind λx2=>some (x2,0)
  |_=>none) hb m 0 [] (by omega) (by omega) (by simp)
 have hj:=R7 hb;simp only[Py,C6];rw[Zq1] at h1 h2;cases h:l.all okR with|true =>refine(h1 h).trans ?_;show((A3v ([]++Bb l)).bind λx2=>some (x2,(0:Int)))=_;rw[Zf2,Bq6 (by simp[Bb];omega) (by omega)];rfl|false =>obtain⟨_,_,h3⟩:=h2 h;exact h3
theorem Bme{l:List (List Val)}(hb:Kk l):Boi l=some (C6 l):=Bv9 50000 (by omega) hb
def R3(o:OutS):Bool := !(decide (o.e<0)||decide (999<o.e)||decide (o.pos<0)||decide (50<o.pos)||(!decide (o.e=0)&&decide (0<(o.l.length:Int)))||decide (50<(o.l.length:Int)))
def Bci{α:Type}(o:OutS)(no yes : α) : α :=
 let j2:=λ(p:Bool) =>
  let j1:=λ(p1:Bool) =>
  let j:=λ(p2:Bool)=>cond p2 no (cond (!decide (o.e=0)) (cond (decide (0<(o.l.length:Int))) no (cond (decide (50<(o.l.length:Int))) no yes)) (cond (decide (50<(o.l.length:Int))) no yes))
  cond p1 (j true) (j (decide (50<o.pos)))
  cond p (j1 true) (j1 (decide (o.pos<0)))
 cond (decide (o.e<0)) (j2 true) (j2 (decide (999<o.e)))
theorem A3t{α:Type}(o:OutS)(no yes : α):Bci o no yes=cond (R3 o) yes no:=by simp only[Bci,R3];cases decide (o.e<0)<;>cases decide (999<o.e)<;>cases decide (o.pos<0)<;>cases decide (50<o.pos)<;>cases decide (o.e=0)<;>cases decide (0<(o.l.length:Int))<;>cases decide (50<(o.l.length:Int))<;>rfl
theorem Ah3{l:List ResS}{kx:Ex->N3->Option Bool}(hl:l.length<=4000):∀(k i:Nat),i<=l.length->l.length-i<k ->
  ((l.drop i).all (λr=>decide (0<=r.n))=true->Aj (λrec=>Gt rec kx) k (false,l,(l.length:Int),(i:Int))=kx (.exit 0) (false,l,(l.length:Int),(l.length:Int))) /\
  ((l.drop i).all (λr=>decide (0<=r.n))=false->∃j,Aj (λrec=>Gt rec kx) k (false,l,(l.length:Int),(i:Int))=kx .ret (false,l,(l.length:Int),j))
 |0,_,_,h=>by omega
 |k+1,i,hi,hk=>by
  have hln:ln l.length:=by simp[ln];omega
  rw[A0];by_cases h:i<l.length
  ·simp only[Gt,Cb h,Ah,Au h,chk,Aq (c :=.res) h,Ao h hln];rw[List.drop_eq_getElem_cons h,Zv1];by_cases hn:l[i].n<0
   ·rw[Ze1 hn,Zd1 (show ¬ 0<=l[i].n by omega)];exact⟨λe=>by simp at e,λ_=>⟨_,rfl⟩⟩
   ·rw[Zd1 hn,Ze1 (show 0<=l[i].n by omega),Bool.true_and];exact Ah3 hl k (i+1) h (by omega)
  ·have:i=l.length:=by omega
   subst this;refine⟨λ_ =>?_,λe=>by simp at e⟩;simp only[Gt,Ds,Af]
theorem Bhu{o:OutS}(hl:o.l.length<=4000):Av8 o=some (R3 o&&o.l.all λr=>decide (0<=r.n)):=by
 have key:Aj (λrec=>Gt rec (λe vz=>match vz with|(v4,_,_,_)=>match e with
  |.ret=>some v4
  |.exit 0=>some true
  |_=>none)) 5000 (false,o.l,(o.l.length:Int),0)=some (o.l.all λr=>decide (0<=r.n)):=by
  obtain⟨h1,h2⟩:=Ah3 (l:=o.l) (kx:=λe vz=>match vz with|(v4,_,_,_)=>match e with
   |.ret=>some v4
   |.exit 0=>some true
   |_=>none) hl 5000 0 (by omega) (by omega)
  rw[Zq1] at h1 h2;cases h:o.l.all (λr=>decide (0<=r.n)) with|true=>exact h1 h|false =>obtain⟨_,h3⟩:=h2 h;exact h3
 refine(show Av8 o=Bci o (some false) (Aj (λrec=>Gt rec (λe vz=>match vz with|(v4,_,_,_)=>match e with
  |.ret=>some v4
  |.exit 0=>some true
  |_=>none)) 5000 (false,o.l,(o.l.length:Int),0)) from rfl).trans ?_
 rw[key,A3t];cases R3 o<;>rfl
theorem Ayl{l:List (List Val)}(hb:Kk l):(C6 l).1.length<=2200200000:=by simp only[C6];cases h:l.all okR with|false=>simp|true =>have h1:=R7 hb;have h2:=A3 5 (Bb l).length;have h3:=hb.1;simp only[Ah,Gi,Zh1];omega
theorem Baw(l:List (List Val)):decide ((C6 l).2=0)=l.all okR:=by
 by_cases h:l.all okR=true
 ·rw[C6,h];rfl
 ·have h:=Bool.eq_false_iff.2 h;have e:(C6 l).2=Ame l:=by rw[C6,h];rfl
  rw[e,h];exact Zd1 (A8v h)
def okM(r:ResS):Bool:=r.rows.all okR
def P5(r:ResS):Bool:=decide (1048576<((C6 r.rows).1.length:Int))
def Rw(r:ResS):Str:=Av 9 r.n.toNat++(Av 5 (C6 r.rows).1.length++(C6 r.rows).1)
def Gu(l:List ResS):Str:=(l.map Rw).flatten
theorem Jp(r:ResS)(l:List ResS):Gu (r::l)=Rw r++Gu l:=by simp[Gu]
def Amv(r:ResS):Prop:=Kk r.rows/\inI r.n=true
theorem Tt{n:Int}(h:inI n=true)(h0 : 0<=n):wr .u64 n=((n.toNat:Nat):Int)/\n.toNat<18446744073709551616:=by simp[inI] at h;refine⟨?_,by omega⟩;obtain⟨m,rfl⟩:=Int.eq_ofNat_of_zero_le h0;rw[Br (by omega),Int.toNat_natCast]
theorem Atn{l:List ResS}{kx:Ex->Ac5->Option (Str×Int)}(hl:l.length<=50)(hb:∀r,r∈l->Amv r)(h0:∀r,r∈l->0<=r.n):∀(k i:Nat) (acc:Str) (g:Bool),i<=l.length->l.length-i<k->acc.length+2200200100*(l.length-i)<=200000000000 ->
  ((l.drop i).all okM=true->Aj (λrec=>X9 rec kx) k ([],0,acc,g,l,(l.length:Int),(i:Int))=kx (.exit 0) ([],0,acc++Gu (l.drop i),g||(l.drop i).any P5,l,(l.length:Int),(l.length:Int))) /\
  ((l.drop i).all okM=false->∃acc' g' j,Aj (λrec=>X9 rec kx) k ([],0,acc,g,l,(l.length:Int),(i:Int))=kx .ret ([],2,acc',g',l,(l.length:Int),j))
 |0,_,_,_,_,h,_=>by omega
 |k+1,i,acc,g,hi,hk,ha=>by
  have hln:ln l.length:=by simp[ln];omega
  rw[A0];by_cases h:i<l.length
  ·have hm:=List.getElem_mem h;obtain⟨hr,hn⟩:=hb _ hm;obtain⟨u1,u2⟩:=Tt hn (h0 _ hm);have hlen:=Ayl hr;have p9:=A3 9 l[i].n.toNat;have p5:=A3 5 (C6 l[i].rows).1.length;have c1:decide (acc.length+(Av 9 l[i].n.toNat).length<=Ag)=true:=Ze1 (by simp[Ag];omega);have c2:decide ((acc++Av 9 l[i].n.toNat).length+(Av 5 (C6 l[i].rows).1.length++(C6 l[i].rows).1).length<=Ag)=true:=Ze1 (by simp[Ag];omega);simp only[X9,Cb h,Ah,Au h,chk,Aq (c :=.res) h,Ao h hln,Bnn hr,Zc1];rw[Baw,List.drop_eq_getElem_cons h,Zv1,List.any_cons];have ho:okM l[i]=l[i].rows.all okR:=rfl;have hg:P5 l[i]=decide (1048576<((C6 l[i].rows).1.length:Int)):=rfl;rw[<-ho,<-hg];cases hok:okM l[i] with
   |false=>exact⟨λe=>by simp at e,λ_=>⟨_,_,_,rfl⟩⟩
   |true =>
    simp only[Zt1,Af,u1,Afa u2,Zc1,c1,Ah,Abh (show(C6 l[i].rows).1.length<=274877906900 by omega),c2,Bool.true_and];have ih:=λg'=>Atn (kx:=kx) hl hb h0 k (i+1) (acc++Av 9 l[i].n.toNat++(Av 5 (C6 l[i].rows).1.length++(C6 l[i].rows).1)) g' h (by omega) (by simp only[Zh1];omega);have e:acc++Gu (l[i]::List.drop (i+1) l)=acc++Av 9 l[i].n.toNat++(Av 5 (C6 l[i].rows).1.length++(C6 l[i].rows).1)++Gu (List.drop (i+1) l):=by rw[Jp];simp[Rw]
    rw[e];cases g with|true=>exact ih true|false =>have:=ih (P5 l[i]);simpa using this
  ·have:i=l.length:=by omega
   subst this;refine⟨λ_ =>?_,λe=>by simp at e⟩;simp only[X9,Ds,Af];simp[Gu]
def Bn(o:OutS):Str:=Av 9 o.e.toNat++Av 9 o.pos.toNat++Av 9 o.l.length++Gu o.l
def Il(o:OutS):Str×Int:=cond (R3 o) (cond (o.l.all λr=>decide (0<=r.n)) (cond (o.l.all okM) (cond (o.l.any P5) ([],3) (cond (decide (1048576<((Bn o).length:Int))) ([],3) (Bn o,0))) ([],2)) ([],2)) ([],2)
def Apk(o:OutS):Prop:=o.l.length<=4000/\inI o.e=true/\inI o.pos=true/\∀r,r∈o.l->Amv r
theorem P0{o:OutS}(h:R3 o=true) : 0<=o.e/\o.e<=999/\0<=o.pos/\o.pos<=50/\o.l.length<=50:=by simp[R3] at h;omega
theorem Ava{o:OutS}(hb:Apk o):A54 o=some (Il o):=by
 obtain⟨hl,he,hp,hr⟩:=hb;simp only[A54,Aez,Bhu hl,Zc1,Il];cases hh:R3 o with
 |false=>rfl
 |true =>
  cases ha:o.l.all (λr=>decide (0<=r.n)) with
  |false=>rfl
  |true =>
   obtain⟨s1,s2,s3,s4,s5⟩:=P0 hh;obtain⟨e1,e2⟩:=Tt he s1;obtain⟨p1,p2⟩:=Tt hp s3;have l1:wr .u64 (o.l.length:Int)=(o.l.length:Int):=Br (by omega);have q1:=A3 9 o.e.toNat;have q2:=A3 9 o.pos.toNat;have q3:=A3 9 o.l.length;simp only[Bool.and_true,Zt1,Af,Ah,e1,p1,l1,Afa e2,Afa p2,Afa (show o.l.length<18446744073709551616 by omega),Zc1,chk,Ze1 (show(Av 9 o.e.toNat).length+(Av 9 o.pos.toNat).length<=Ag by simp[Ag];omega),Ze1 (show(Av 9 o.e.toNat++Av 9 o.pos.toNat).length+(Av 9 o.l.length).length<=Ag by simp[Ag];omega)];obtain⟨h1,h2⟩:=Atn (l:=o.l) (kx:=λe vz=>match vz with|(v7,v8,v9,a,_,_,_)=>match e with
     |.ret=>some (v7,v8)
     |.exit 0=>cond (a) (some ([],3)) (cond (decide (1048576<(v9.length:Int))) (some ([],3)) (some (v9,0)))
     |_=>none) s5 hr (λr hm=>by simpa using Zg2.1 ha r hm) 5000 0 (Av 9 o.e.toNat++Av 9 o.pos.toNat++Av 9 o.l.length) false (by omega) (by omega) (by simp only[Zh1];omega)
   rw[Zq1] at h1 h2;cases hk:o.l.all okM with|false =>obtain⟨_,_,_,h3⟩:=h2 hk;exact h3|true =>refine(h1 hk).trans ?_;show cond (false||o.l.any P5) (some (([]:Str),(3:Int))) (cond (decide (1048576<((Bn o).length:Int))) (some ([],3)) (some (Bn o,0)))=_;cases o.l.any P5<;>cases decide (1048576<((Bn o).length:Int))<;>rfl
def A0s(r:ResS):Bool:=okM r&&decide (0<=r.n)
theorem Ajr{o:OutS}{kx:Ex->Ul->Option (Str×Int)}(hl:o.l.length<=50)(hb:∀r,r∈o.l->Amv r):∀(k i:Nat) (acc:Str) (g:Bool),i<=o.l.length->o.l.length-i<k->acc.length+2200200100*(o.l.length-i)<=200000000000 ->
  ((o.l.drop i).all A0s=true->Aj (λrec=>Li rec kx) k ([],0,acc,g,(i:Int),o)=kx (.exit 0) ([],0,acc++Gu (o.l.drop i),g||(o.l.drop i).any P5,(o.l.length:Int),o)) /\
  ((o.l.drop i).all A0s=false->∃acc' g' j,Aj (λrec=>Li rec kx) k ([],0,acc,g,(i:Int),o)=kx .ret ([],2,acc',g',j,o))
 |0,_,_,_,_,h,_=>by omega
 |k+1,i,acc,g,hi,hk,ha=>by
  have hln:ln o.l.length:=by simp[ln];omega
  rw[A0];by_cases h:i<o.l.length
  ·have hm:=List.getElem_mem h;obtain⟨hr,hn⟩:=hb _ hm;have hlen:=Ayl hr;have p9:=A3 9 o.l[i].n.toNat;have p5:=A3 5 (C6 o.l[i].rows).1.length;have c1:decide (acc.length+(Av 9 o.l[i].n.toNat).length<=Ag)=true:=Ze1 (by simp[Ag];omega);have c2:decide ((acc++Av 9 o.l[i].n.toNat).length+(Av 5 (C6 o.l[i].rows).1.length++(C6 o.l[i].rows).1).length<=Ag)=true:=Ze1 (by simp[Ag];omega);simp only[Li,Cb h,Ah,Au h,chk,Aq (c :=.res) h,Ao h hln,Bme hr,Zc1];rw[Baw,List.drop_eq_getElem_cons h,Zv1,List.any_cons];have ho:okM o.l[i]=o.l[i].rows.all okR:=rfl;have hg:P5 o.l[i]=decide (1048576<((C6 o.l[i].rows).1.length:Int)):=rfl;rw[<-ho,<-hg];cases hok:okM o.l[i] with
   |false=>exact⟨λe=>by simp[A0s,hok] at e,λ_=>⟨_,_,_,rfl⟩⟩
   |true =>
    by_cases h0:o.l[i].n<0
    ·rw[Ze1 h0];exact⟨λe=>by simp[A0s] at e;omega,λ_=>⟨_,_,_,rfl⟩⟩
    ·obtain⟨u1,u2⟩:=Tt hn (by omega);have hN:A0s o.l[i]=true:=by simp[A0s,hok];omega
     simp only[Zd1 h0,Zt1,Af,u1,Gw u2,Zc1,c1,Ah,Abs (show(C6 o.l[i].rows).1.length<=274877906900 by omega),c2,hN,Bool.true_and];have ih:=λg'=>Ajr (kx:=kx) hl hb k (i+1) (acc++Av 9 o.l[i].n.toNat++(Av 5 (C6 o.l[i].rows).1.length++(C6 o.l[i].rows).1)) g' h (by omega) (by simp only[Zh1];omega);have e:acc++Gu (o.l[i]::List.drop (i+1) o.l)=acc++Av 9 o.l[i].n.toNat++(Av 5 (C6 o.l[i].rows).1.length++(C6 o.l[i].rows).1)++Gu (List.drop (i+1) o.l):=by rw[Jp];simp[Rw]
     rw[e];cases g with|true=>exact ih true|false =>have:=ih (P5 o.l[i]);simpa using this
  ·have:i=o.l.length:=by omega
   subst this;refine⟨λ_ =>?_,λe=>by simp at e⟩;simp only[Li,Ds,Af];simp[Gu]
theorem Byw(l:List ResS):l.all A0s=(l.all (λr=>decide (0<=r.n))&&l.all okM):=by induction l with|nil=>rfl|cons r l ih =>simp only[Zv1,ih,A0s];cases okM r<;>cases decide (0<=r.n)<;>cases l.all okM<;>cases l.all (λr=>decide (0<=r.n))<;>rfl
noncomputable def Br4(m:Nat)(o:OutS):Option (Str×Int) :=
  (G8 (wr .u64 o.e)).bind λx =>
  (G8 (wr .u64 o.pos)).bind λx1 =>
   chk (decide (x.length+x1.length<=Ag)) (
   (G8 (wr .u64 (o.l.length:Int))).bind λx2 =>
    chk (decide ((x++x1).length+x2.length<=Ag)) (
    Aj (λrec=>Li rec (λe vz=>match vz with|(v5,v6,v7,v8,_,_)=>match e with
     |.ret=>some (v5,v6)
     |.exit 0=>cond (v8) (some ([],3)) (cond (decide (1048576<(v7.length:Int))) (some ([],3)) (some (v7,0)))
     |_=>none)) m ([],0,((x++x1)++x2),false,0,o)))
theorem Bsi(m:Nat)(o:OutS):N1 m o=Bci o (some ([],2)) (Br4 m o):=rfl
theorem Bur{o:OutS}(m:Nat)(hm : 50<m)(hb:Apk o):N1 m o=some (Il o):=by
 obtain⟨hl,he,hp,hr⟩:=hb;rw[Bsi,A3t];simp only[Il];cases hh:R3 o with
 |false=>rfl
 |true =>
  obtain⟨s1,s2,s3,s4,s5⟩:=P0 hh;obtain⟨e1,e2⟩:=Tt he s1;obtain⟨p1,p2⟩:=Tt hp s3;have l1:wr .u64 (o.l.length:Int)=(o.l.length:Int):=Br (by omega);have q1:=A3 9 o.e.toNat;have q2:=A3 9 o.pos.toNat;have q3:=A3 9 o.l.length;simp only[Br4,Ah,e1,p1,l1,Gw e2,Gw p2,Gw (show o.l.length<18446744073709551616 by omega),Zc1,chk,Ze1 (show(Av 9 o.e.toNat).length+(Av 9 o.pos.toNat).length<=Ag by simp[Ag];omega),Ze1 (show(Av 9 o.e.toNat++Av 9 o.pos.toNat).length+(Av 9 o.l.length).length<=Ag by simp[Ag];omega)];obtain⟨h1,h2⟩:=Ajr (o:=o) (kx:=λe vz=>match vz with|(v5,v6,v7,v8,_,_)=>match e with
     |.ret=>some (v5,v6)
     |.exit 0=>cond (v8) (some ([],3)) (cond (decide (1048576<(v7.length:Int))) (some ([],3)) (some (v7,0)))
     |_=>none) s5 hr m 0 (Av 9 o.e.toNat++Av 9 o.pos.toNat++Av 9 o.l.length) false (by omega) (by omega) (by simp only[Zh1];omega)
  rw[Zq1,Byw] at h1 h2;cases ha:o.l.all (λr=>decide (0<=r.n)) with
  |false =>obtain⟨_,_,_,h3⟩:=h2 (by rw[ha];rfl);exact h3
  |true =>cases hk:o.l.all okM with|false =>obtain⟨_,_,_,h3⟩:=h2 (by rw[ha,hk];rfl);exact h3|true =>refine(h1 (by rw[ha,hk];rfl)).trans ?_;show cond (false||o.l.any P5) (some (([]:Str),(3:Int))) (cond (decide (1048576<((Bn o).length:Int))) (some ([],3)) (some (Bn o,0)))=_;cases o.l.any P5<;>cases decide (1048576<((Bn o).length:Int))<;>rfl
theorem Anl{o:OutS}(hb:Apk o):A3i o=some (Il o):=Bur 10000 (by omega) hb
theorem Aaf{o:OutS}(h:(Il o).2=0):R3 o=true/\(∀r,r∈o.l->0<=r.n)/\(∀r,r∈o.l->okM r=true)/\(Il o).1=Bn o/\(Bn o).length<=1048576:=by
 cases h1:R3 o with
 |false=>simp[Il,h1] at h
 |true =>
  cases h2:o.l.all (λr=>decide (0<=r.n)) with
  |false=>simp[Il,h1,h2] at h
  |true =>
   cases h3:o.l.all okM with
   |false=>simp[Il,h1,h2,h3] at h
   |true =>
    cases h4:o.l.any P5 with
    |true=>simp[Il,h1,h2,h3,h4] at h
    |false =>cases h5:decide (1048576<((Bn o).length:Int)) with|true=>simp[Il,h1,h2,h3,h4,h5] at h|false =>have:=of_decide_eq_false h5;refine⟨rfl,λr hr=>by simpa using Zg2.1 h2 r hr,λr hr=>Zg2.1 h3 r hr,by simp[Il,h1,h2,h3,h4,h5],by omega⟩
theorem inT{n:Int}(h:inI n):inI n=true:=by simpa using h
theorem Atx(n:Int):inI (wr .i64 n):=by rw[wrI,inI];omega
theorem Bxo(x y:Int):inI (Aip .i64 x y):=Atx _
theorem Azg{b:Str}{p:Nat}(e:Int)(hp:p<=b.length)(hb:b.length<=1000000):∃(x:Int) (q:Nat) (f:Int),Lq (b,(p:Int),e)=some (x,b,(q:Int),f)/\p<=q/\q<=b.length/\(f=10\/f=e/\p<q):=by
 simp only[Lq,S9];by_cases h:p=b.length
 ·rw[Ze1 (show(p:Int)=(b.length:Int) by omega),Ah];exact⟨0,p,10,rfl,Zn1 _,hp,.inl rfl⟩
 ·rw[Zd1 (show ¬(p:Int)=(b.length:Int) by omega),Af,Be (n:=(p:Int)+1) (by simp[inI];omega),show(p:Int)+1-1=(p:Int) by omega,Be (n:=(p:Int)) (by simp[inI];omega),Au (show p<b.length by omega),chk,Ah];exact⟨_,p+1,e,rfl,by omega,by omega,.inr ⟨rfl,by omega⟩⟩
theorem Bew{b:Str}{p:Nat}(hp:p<=b.length)(hb:b.length<=1000000):∃n to e,Arz b (p:Int)=some (n,to,e)/\inI n/\(e=0->∃j:Nat,to=(j:Int)/\p<j/\j<=b.length):=by obtain⟨m,to,e,h,ht⟩:=Js hp hb;simp only[Arz,O8,h,Zc1];exact⟨_,_,_,rfl,Bxo _ _,λhe=>(ht he).2⟩
theorem Bh1{b:Str}{p:Nat}(e:Int)(hp:p<=b.length)(hb:b.length<=1000000):∃(s:Str) (q:Nat) (f:Int),Iu (b,(p:Int),e)=some (s,b,(q:Int),f)/\p<=q/\q<=b.length/\(f=0->p<q):=by
 obtain⟨m,to,e,h,_⟩:=Js hp hb;obtain⟨s,to2,e2,h2,ht⟩:=Aeb hp hb;simp only[Iu,Om,h,h2,Zc1];have key:∀f:Int,∃(s':Str) (q:Nat) (g:Int),cond (!decide (f=0)) (some (([]:Str),b,(p:Int),f)) (cond (decide (e2=0)) (some (s,b,to2,e2)) (some (s,b,(p:Int),e2)))=some (s',b,(q:Int),g)/\p<=q/\q<=b.length/\(g=0->p<q):=λf=>by
  by_cases hf:f=0
  ·rw[Ze1 hf,Zt1,Af];by_cases he:e2=0
   ·obtain⟨_,j,rfl,j1,j2⟩:=ht he;rw[Ze1 he,Ah];exact⟨_,j,_,rfl,by omega,j2,λ_=>j1⟩
   ·rw[Zd1 he,Af];exact⟨_,p,_,rfl,Zn1 _,hp,λh=>absurd h he⟩
  ·rw[Zd1 hf,Zs1,Ah];exact⟨_,p,_,rfl,Zn1 _,hp,λh=>absurd h hf⟩
 have sel:∀c1 c2:Bool,∃(s':Str) (q:Nat) (g:Int),cond c1 (cond c2 (cond (!decide ((11:Int)=0)) (some (([]:Str),b,(p:Int),11)) (cond (decide (e2=0)) (some (s,b,to2,e2)) (some (s,b,(p:Int),e2)))) (cond (!decide (e=0)) (some (([]:Str),b,(p:Int),e)) (cond (decide (e2=0)) (some (s,b,to2,e2)) (some (s,b,(p:Int),e2))))) (cond (!decide (e=0)) (some (([]:Str),b,(p:Int),e)) (cond (decide (e2=0)) (some (s,b,to2,e2)) (some (s,b,(p:Int),e2))))=some (s',b,(q:Int),g)/\p<=q/\q<=b.length/\(g=0->p<q):=λc1 c2=>by cases c1<;>cases c2<;>first|exact key 11|exact key e
 exact sel _ _
def wpX:Ex->Kh->Option Vk:=λe vz=>match vz with|(v5,_,_,_,v9,a,b)=>match e with|.ret=>some (v5,v9,a,b)|.exit 0=>some (true,v9,a,b)|_=>none
theorem Baf{l b:Str}{p e:Int}(hl:ln l.length):∀(k i:Nat),i<=l.length->l.length-i<k->∃r,Aj (λrec=>I5 rec wpX) k (false,l,(l.length:Int),(i:Int),b,p,e)=some (r,b,p,e)
 |0,_,_,h=>by omega
 |k+1,i,hi,hk=>by
  rw[A0];by_cases h:i<l.length
  ·simp only[I5,Cb h,Ah,Au h,chk,Aq (c :=.byte) h,Ao h hl];cases decide ((l[i].toNat:Int)<32) with
   |true=>exact⟨false,rfl⟩
   |false =>cases decide (126<(l[i].toNat:Int)) with|true=>exact⟨false,rfl⟩|false=>exact Baf hl k (i+1) h (by omega)
  ·have:i=l.length:=by omega
   subst this;simp only[I5,Ds,Af];exact⟨true,rfl⟩
theorem Bgb{b:Str}{p:Nat}(m:Nat)(hm:b.length<m)(v:Val)(e:Int)(hp:p<=b.length)(hb:b.length<=1000000):∃r,D8 m (v,b,(p:Int),e)=some (r,b,(p:Int),e):=by
 simp only[D8];cases decide (v.kind=4) with
 |false=>exact⟨true,rfl⟩
 |true =>
  cases decide (e=10) with
  |false=>exact⟨true,rfl⟩
  |true =>
   obtain⟨n,to,f,h,ht⟩:=Js hp hb;rw[h,Zc1];by_cases hf:f=0
   ·obtain⟨_,j,rfl,j1,j2⟩:=ht hf;rw[Ze1 hf,show upto (j:Int) b.length b.length=true by simp[upto,Zb1];omega];exact Baf (by simp[ln,Za2];omega) m 0 (by omega) (by rw[Za2];omega)
   ·rw[Zd1 hf];exact⟨true,rfl⟩
theorem A0d{b:Str}{p:Nat}(v:Val)(e:Int)(hp:p<=b.length)(hb:b.length<=40000):∃r,Gf (v,b,(p:Int),e)=some (r,b,(p:Int),e):=Bgb 50000 (by omega) v e hp (by omega)
def wvJ(q:Str)(q1 q2:Int)(v:Val):Option Aau :=
 let j1:=λ(p2:Bool)=>cond p2 (some (v,q,q1,11)) ((Gf (v,q,q1,q2)).bind λ(c,a,b,d)=>cond (!c) (some (v,a,b,11)) (some (v,a,b,d)))
 cond (decide (q2=0)) (j1 (!decide (Fa v=0))) (j1 false)
def wvB(x:Int)(b:Str)(p e:Int):Option Aau :=
 cond (decide (x=1)) (wvJ b p e (Val.mk x 0 [])) (
  cond (decide (x=2)) ((Lq (b,p,e)).bind λ(x4,x5,x6,x7)=>wvJ x5 x6 x7 (Val.mk x (wr .i64 x4) [])) (
  cond (decide (x=3)) ((Jf (b,p,e)).bind λ(x8,x9,a,c)=>wvJ x9 a c (Val.mk x x8 [])) (
   let j:=λ(p1:Bool)=>cond p1 ((Iu (b,p,e)).bind λ(d,f,g,h)=>wvJ f g h (Val.mk x 0 d)) (wvJ b p 11 (Val.mk x 0 []))
   cond (decide (x=4)) (j (decide (x=4))) (j (decide (x=5))))))
theorem Ars(b:Str)(p e:Int):Np (b,p,e)=(Lq (b,p,e)).bind λ(x,x1,x2,x3)=>cond (!decide (x3=0)) (some (Val.mk (wr .i64 x) 0 [],x1,x2,x3)) (wvB (wr .i64 x) x1 x2 x3):=rfl
theorem Z3{b:Str}{p:Nat}{q1 q2:Int}{v:Val}(hb:b.length<=40000)(h4:v.kind=4->∃j:Nat,q1=(j:Int)/\j<=b.length)(h:q2=0->∃j:Nat,q1=(j:Int)/\p<j/\j<=b.length):∃q f,wvJ b q1 q2 v=some (v,b,q,f)/\(f=0->∃j:Nat,q=(j:Int)/\p<j/\j<=b.length):=by
 have pre:∃r,Gf (v,b,q1,q2)=some (r,b,q1,q2):=by
  by_cases hk:v.kind=4
  ·obtain⟨j,rfl,hj⟩:=h4 hk;exact A0d v q2 hj hb
  ·simp only[Gf,D8,Zd1 hk];exact⟨true,rfl⟩
 obtain⟨r,hr⟩:=pre;have no:∃q f,some (v,b,q1,(11:Int))=some (v,b,q,f)/\(f=0->∃j:Nat,q=(j:Int)/\p<j/\j<=b.length):=⟨_,_,rfl,λh=>absurd h (by decide)⟩;simp only[wvJ,hr,Zc1];cases decide (q2=0)<;>cases decide (Fa v=0)<;>cases r<;>first|exact no|exact⟨_,_,rfl,h⟩
theorem Bvz{x:Int}{b:Str}{p:Nat}(hp:p<=b.length)(h0 : 0<p)(hb:b.length<=40000):∃v q f,wvB x b (p:Int) 0=some (v,b,q,f)/\inI v.n/\(f=0->∃j:Nat,q=(j:Int)/\p-1<j/\j<=b.length):=by
 have z:inI 0:=by simp[inI]
 simp only[wvB];by_cases h1:x=1
 ·obtain⟨q,f,e,h⟩:=Z3 (p:=p-1) (q1:=(p:Int)) (q2:=0) (v:=Val.mk x 0 []) hb (λ_=>⟨p,rfl,hp⟩) λ_=>⟨p,rfl,by omega,hp⟩;rw[Ze1 h1];exact⟨_,q,f,e,z,h⟩
 rw[Zd1 h1,Af];by_cases h2:x=2
 ·obtain⟨y,r,g,hy,r1,r2,r3⟩:=Azg 0 hp (by omega);obtain⟨q,f,e,h⟩:=Z3 (p:=p-1) (q1:=(r:Int)) (q2:=g) (v:=Val.mk x (wr .i64 y) []) hb (λ_=>⟨r,rfl,r2⟩) λ_=>⟨r,rfl,by omega,r2⟩;rw[Ze1 h2,Ah,hy];exact⟨_,q,f,e,Atx _,h⟩
 rw[Zd1 h2,Af];by_cases h3:x=3
 ·obtain⟨n,to,g,hn,n1,n2⟩:=Bew hp (show b.length<=1000000 by omega);obtain⟨q,f,e,h⟩:=Z3 (p:=p-1) (q1:=to) (q2:=g) (v:=Val.mk x n []) hb (λh=>by simp only[h3] at h;omega) λhg=>by obtain⟨j,j1,j2,j3⟩:=n2 hg;exact⟨j,j1,by omega,j3⟩
  rw[Ze1 h3,Ah];simp only[Jf,It,hn,Zc1];exact⟨_,q,f,e,n1,h⟩
 rw[Zd1 h3,Af];have hj:∀t:Bool,∃v q f,cond t ((Iu (b,(p:Int),0)).bind λ(a,c,d,i)=>wvJ c d i (Val.mk x 0 a)) (wvJ b (p:Int) 11 (Val.mk x 0 []))=some (v,b,q,f)/\inI v.n/\(f=0->∃j:Nat,q=(j:Int)/\p-1<j/\j<=b.length):=λt=>by cases t with|true =>obtain⟨s,r,g,hs,r1,r2,_⟩:=Bh1 0 hp (show b.length<=1000000 by omega);obtain⟨q,f,e,h⟩:=Z3 (p:=p-1) (q1:=(r:Int)) (q2:=g) (v:=Val.mk x 0 s) hb (λ_=>⟨r,rfl,r2⟩) λ_=>⟨r,rfl,by omega,r2⟩;rw[Ah,hs];exact⟨_,q,f,e,z,h⟩|false =>obtain⟨q,f,e,h⟩:=Z3 (p:=p-1) (q1:=(p:Int)) (q2:=11) (v:=Val.mk x 0 []) hb (λ_=>⟨p,rfl,hp⟩) λh=>absurd h (by decide);exact⟨_,q,f,e,z,h⟩
 by_cases h4:x=4
 ·rw[Ze1 h4,Ah];exact hj _
 ·rw[Zd1 h4,Af];exact hj _
theorem A4w{b:Str}{p:Nat}(hp:p<=b.length)(hb:b.length<=40000):∃v q f,Np (b,(p:Int),0)=some (v,b,q,f)/\inI v.n/\(f=0->∃j:Nat,q=(j:Int)/\p<j/\j<=b.length):=by
 obtain⟨y,r,g,hy,r1,r2,r3⟩:=Azg 0 hp (show b.length<=1000000 by omega);rw[Ars,hy,Zc1];rcases r3 with rfl|⟨rfl,r3⟩
 ·exact⟨_,_,_,rfl,by simp[inI],λh=>absurd h (by decide)⟩
 ·obtain⟨v,q,f,e,v1,h⟩:=Bvz (x:=wr .i64 y) r2 (by omega) hb;refine⟨v,q,f,e,v1,λhf =>?_⟩;obtain⟨j,j1,j2,j3⟩:=h hf;exact⟨j,j1,by omega,j3⟩
def wdX:Ex->Aca->Option (List Val×Int):=λe vz=>match vz with|(v4,v5,_,_,_,v9,a)=>match e with|.exit 1=>cond (decide (a=0)) (cond (decide (v9<(v4.length:Int))) (some ([],11)) (cond (!decide (a=0)) (some ([],a)) (some (v5,0)))) (cond (!decide (a=0)) (some ([],a)) (some (v5,0)))|_=>none
def M6(l:List Val):Prop:=l.length<=4000/\∀v,v∈l->inI v.n=true
theorem Gn:M6 []:=⟨by simp,λ_ h=>by cases h⟩
theorem Ar7{l:List Val}{v:Val}(h:M6 l)(hl:l.length<4000)(hv:inI v.n):M6 (l++[v]):=⟨by simp;omega,λx hx=>by
 rcases List.mem_append.1 hx with hx|hx
 ·exact h.2 x hx
 ·rw[List.mem_singleton.1 hx];exact inT hv⟩
theorem A9j{b:Str}{acc:List Val}{n i q f:Int}(ha:M6 acc):∃l e,wdX (.exit 1) (b,acc,n,i,b,q,f)=some (l,e)/\M6 l:=by simp only[wdX];cases decide (f=0)<;>cases decide (q<(b.length:Int))<;>first|exact⟨_,_,rfl,Gn⟩|exact⟨_,_,rfl,ha⟩
theorem Bcx{b:Str}{n:Int}(hb:b.length<=40000)(hn:n<=100):∀(k i p:Nat) (acc:List Val),p<=b.length->(i:Int)<=100->100-i<k->acc.length=i->M6 acc->∃l e,Aj (λrec=>Ou rec wdX) k (b,acc,n,(i:Int),b,(p:Int),0)=some (l,e)/\M6 l
 |0,_,_,_,_,_,h,_,_=>by omega
 |k+1,i,p,acc,hp,hi,hk,ha,hv=>by
  rw[A0];by_cases h:(i:Int)<n
  ·obtain⟨v,q,f,e,v1,v2⟩:=A4w hp hb;simp only[Ou,Ze1 h,Ah,e,Zc1,chk,Ze1 (show acc.length+1<=Ag by simp[Ag];omega)];have hs:=Ar7 hv (by omega) v1;by_cases hf:f=0
   ·obtain⟨j,rfl,_,j3⟩:=v2 hf;subst hf;rw[Ze1 rfl,Zt1,Af,show(i:Int)+1=((i+1:Nat):Int) by omega,Br (by omega)];exact Bcx hb hn k (i+1) j _ j3 (by omega) (by omega) (by simp;omega) hs
   ·rw[Zd1 hf,Zs1,Ah];exact A9j hs
  ·simp only[Ou,Zd1 h,Af];exact A9j hv
theorem Bkn{b:Str}(hb:b.length<=40000):∃l e,Bd3 b=some (l,e)/\M6 l:=by
 obtain⟨m,to,e,h,ht⟩:=Js (b:=b) (p:=0) (by omega) (by omega);simp only[Bd3,Ut];rw[show Vv b 0=_ from h,Zc1];by_cases he:e=0
 ·obtain⟨m0,j,rfl,j1,j2⟩:=ht he;rw[Ze1 he,Zt1,Af];by_cases hm : 100<m
  ·rw[Ze1 hm];exact⟨_,_,rfl,Gn⟩
  ·rw[Zd1 hm,Af];exact Bcx hb (by omega) 5000 0 j [] j2 (by omega) (by omega) rfl Gn
 ·rw[Zd1 he];exact⟨_,_,rfl,Gn⟩
def wfX:Ex->Aag->Option (List (List Val)×Int):=λe vz=>match vz with|(v6,v7,v8,_,_,_)=>match e with|.ret=>some (v6,v7)|.exit 0=>some (v8,0)|_=>none
def Ac1(n:Nat)(l:List (List Val)):Prop:=l.length<=n/\∀r,r∈l->M6 r
theorem Jc{n:Nat}:Ac1 n []:=⟨by simp,λ_ h=>by cases h⟩
theorem Bae{x:List Str}(hl:x.length<=1000000)(hx:∀s,s∈x->s.length<=40000):∀(k i:Nat) (acc:List (List Val)),i<=x.length->x.length-i<k->Ac1 i acc->∃l e,Aj (λrec=>Oo rec wfX) k ([],0,acc,x,(x.length:Int),(i:Int))=some (l,e)/\Ac1 x.length l
 |0,_,_,_,h,_=>by omega
 |k+1,i,acc,hi,hk,ha=>by
  have hln:ln x.length:=by simp[ln];omega
  rw[A0];by_cases h:i<x.length
  ·obtain⟨l,e,h1,h2⟩:=Bkn (hx _ (List.getElem_mem h));have:=ha.1;simp only[Oo,Cb h,Ah,Au h,chk,Aq (c :=.bytes) h,Ao h hln,h1,Zc1,Ze1 (show acc.length+1<=Ag by simp[Ag];omega)];cases decide (e=0) with
   |false=>exact⟨_,_,rfl,Jc⟩
   |true =>
    exact Bae hl hx k (i+1) (acc++[l]) h (by omega) ⟨by simp;omega,λr hr=>by
     rcases List.mem_append.1 hr with hr|hr
     ·exact ha.2 r hr
     ·rw[List.mem_singleton.1 hr];exact h2⟩
  ·have:i=x.length:=by omega
   subst this;simp only[Oo,Ds,Af];exact⟨_,_,rfl,ha⟩
theorem Bqu{b:Str}(hb:b.length<=40000):∃l e,Yq b=some (l,e)/\l.length<=b.length/\∀x,x∈l->x.length<=b.length:=by
 obtain⟨m,to,e,h,ht⟩:=Js (b:=b) (p:=0) (by omega) (by omega);simp only[Yq,Kg];rw[show Vv b 0=_ from h,Zc1];by_cases he:e=0
 ·obtain⟨m0,j,rfl,j1,j2⟩:=ht he;rw[Ze1 he,Zt1,Af];obtain⟨l,e,h1,h2,h3⟩:=Bnp (b:=b) (by omega) 50000 j m [] j2 (by omega) (by simp;omega) m0 λx hx=>by cases hx
  exact⟨l,e,h1,by omega,h3⟩
 ·rw[Zd1 he,Zs1,Ah];exact⟨_,_,rfl,by simp,λx hx=>by cases hx⟩
theorem Bzh{b:Str}(m:Nat)(hm : 40000<m)(hb:b.length<=40000):∃l e,Ji m b=some (l,e)/\Ac1 b.length l:=by obtain⟨x,e,h,h1,h2⟩:=Bqu hb;simp only[Ji,h,Zc1];cases decide (e=0) with|false=>exact⟨_,_,rfl,Jc⟩|true =>obtain⟨l,f,h3,h4⟩:=Bae (x:=x) (by omega) (λs hs=>Nat.le_trans (h2 s hs) hb) m 0 [] (by omega) (by omega) Jc;exact⟨l,f,h3,by have:=h4.1;omega,h4.2⟩
theorem Bj0{b:Str}(hb:b.length<=40000):∃l e,Bub b=some (l,e)/\Ac1 b.length l:=Bzh 50000 (by omega) hb
theorem Avi{b r s:Str}{p:Nat}(hd:b.drop p=(Av 5 s.length++s)++r)(hb:b.length<=1000000):Ag7 b (p:Int)=some (s,((p+(Av 5 s.length++s).length:Nat):Int),0)/\b.drop (p+(Av 5 s.length++s).length)=r:=by
 have h0:=congrArg List.length hd;simp only[Za2,Zh1] at h0;have hd2:=hd;rw[Zj1,<-Zp (show s.length<128 ^ 6 by omega)] at hd2;obtain⟨h1,h2⟩:=Af1 hd2 (by omega) hb;rw[Zp (show s.length<128 ^ 6 by omega)] at hd2 h1 h2;rw[Zh1] at h2;have h3:b.drop (p+(Av 5 s.length).length)=s++r:=by rw[<-List.drop_drop,hd2,List.drop_left]
 refine⟨?_,by rw[<-List.drop_drop,hd,List.drop_left]⟩;obtain⟨q,hq⟩:∃q,q=p+(Av 5 s.length).length:=⟨_,rfl⟩;rw[<-hq] at h1 h2 h3;simp only[Ag7,Oz,h1,Zc1,decide_true,Zt1,Af];rw[Zd1 (by omega),Af,Be (n:=(b.length:Int)-q) (by simp[inI];omega),show(b.length:Int)-(q:Int)=((b.length-q:Nat):Int) by omega,Br (by omega),Zd1 (by omega),Af,Be (n:=(s.length:Int)) (by simp[inI];omega),Be (by simp[inI];omega)];have hu:upto (q:Int) ((q:Int)+(s.length:Int)) b.length=true:=by simp[upto,Zb1];omega
 have hc:cut b (q:Int) ((q:Int)+(s.length:Int))=s:=by simp only[cut,Int.toNat_natCast];rw[h3,show((q:Int)+(s.length:Int)).toNat-q=s.length by omega,List.take_left]
 rw[hu,hc,chk,Ah,Ze1 (show 0+s.length<=Ag by simp[Ag];omega),chk,Ah,Zh1,show(q:Int)+(s.length:Int)=((p+((Av 5 s.length).length+s.length):Nat):Int) by omega];rfl
theorem Aac{n:Int}(h : 0<=n/\n<256):((b8 n).toNat:Int)=n:=by obtain⟨m,rfl⟩:=Int.eq_ofNat_of_zero_le h.1;rw[b8,Az3,Int.toNat_natCast,Q0 (Nat.mod_lt _ (by omega))];omega
theorem A1r{b r:Str}{c:UInt8}{p:Nat}(hd:b.drop p=c::r)(hb:b.length<=1000000):Lq (b,(p:Int),0)=some ((c.toNat:Int),b,((p+1:Nat):Int),0)/\b.drop (p+1)=r/\p<b.length:=by
 have h0:=congrArg List.length hd;simp only[Za2,Zf1] at h0;have hp:p<b.length:=by omega
 rw[List.drop_eq_getElem_cons hp] at hd;obtain⟨h1,h2⟩:=List.cons.inj hd;refine⟨?_,h2,hp⟩;simp only[Lq,S9];rw[Zd1 (show ¬(p:Int)=(b.length:Int) by omega),Af,Be (n:=(p:Int)+1) (by simp[inI];omega),show(p:Int)+1-1=(p:Int) by omega,Be (n:=(p:Int)) (by simp[inI];omega),Au hp,chk,Ah,Aq (c :=.byte) hp,h1];rfl
theorem Aud{b r s:Str}{p:Nat}(hd:b.drop p=(Av 5 s.length++s)++r)(hs:s.length<=1000)(hb:b.length<=1000000):Iu (b,(p:Int),0)=some (s,b,((p+(Av 5 s.length++s).length:Nat):Int),0):=by have hd2:=hd;rw[Zj1,<-Zp (show s.length<128 ^ 6 by omega)] at hd2;obtain⟨h1,_⟩:=Af1 hd2 (by omega) hb;simp only[Iu,Om,h1,(Avi hd hb).1,Zc1];rw[Zd1 (show ¬(1000:Int)<(s.length:Int) by omega)];rfl
theorem Aab{b:Str}{q:Int}{v:Val}(h:A7 v=true):wvJ b q 0 v=some (v,b,q,0):=by simp only[wvJ,vch,h,Gf,D8];cases decide (v.kind=4)<;>rfl
theorem Ab6{v:Val}(h:A7 v=true):(v.kind=1->v.n=0/\v.s=[])/\(v.kind=2->(v.n=0\/v.n=1)/\v.s=[])/\(v.kind=3->v.s=[])/\(v.kind=4\/v.kind=5->v.n=0):=by
 obtain⟨k,n,s⟩:=v;refine⟨λh1 =>?_,λh1 =>?_,λh1 =>?_,λh1 =>?_⟩
 ·simp only at h1;subst h1;by_cases h0:n=0<;>simp[A7,h0] at h ⊢ <;> grind
 ·simp only at h1;subst h1;by_cases h0:n=0<;>by_cases h2:n=1<;>simp[A7,h0,h2] at h ⊢ <;> grind
 ·simp only at h1;subst h1;simp[A7] at h ⊢
  grind
 ·rcases h1 with h1|h1<;>(simp only at h1;subst h1;by_cases h0:n=0<;>simp[A7,h0] at h ⊢)
theorem A6f{b r:Str}{p:Nat}{v:Val}(h:A7 v=true)(hn:inI v.n=true)(hd:b.drop p=D7 v++r)(hb:b.length<=1000000):Np (b,(p:Int),0)=some (v,b,((p+(D7 v).length:Nat):Int),0)/\b.drop (p+(D7 v).length)=r:=by
 refine⟨?_,by rw[<-List.drop_drop,hd,List.drop_left]⟩;have hd1:=hd;rw[D7,Zb2] at hd1;obtain⟨w1,w2,w3⟩:=A1r hd1 hb;obtain⟨s1,s2,s3,s4⟩:=Ab6 h;have hk5:=Le h;have hkk:wr .i64 ((b8 v.kind).toNat:Int)=v.kind:=by rw[Aac (by omega),Be (by simp[inI];omega)]
 rw[Ars,w1,Zc1];simp only[hkk,decide_true,Zt1,Af];simp only[wvB];obtain⟨k,n,s⟩:=v;simp only at s1 s2 s3 s4 hk5 w2 ⊢;rcases hk5 with rfl|rfl|rfl|rfl|rfl
 ·obtain⟨rfl,rfl⟩:=s1 rfl;exact Aab h
 ·obtain⟨h2,rfl⟩:=s2 rfl;have w2:b.drop (p+1)=b8 n::r:=by rw[w2];rfl
  obtain⟨x1,_,_⟩:=A1r w2 hb;rw[Zd1 (by decide),Af,Ze1 (by decide),Ah,x1,Zc1];simp only[Aac (show 0<=n/\n<256 by omega),Be (show inI n by simpa using hn)];exact Aab h
 ·obtain rfl:=s3 rfl;have w2:b.drop (p+1)=Av 9 (zz n)++r:=by rw[w2];rfl
  have x1:=Bt6 hn w2 hb;rw[Zd1 (by decide),Af,Zd1 (by decide),Af,Ze1 (by decide),Ah];simp only[Jf,It,x1,Zc1];rw[Aab h,D7];simp only[if_neg (show ¬(3:Int)=2 by decide),if_true,Zf1,Za1,Zp1,true_and,and_true];omega
 ·obtain rfl:=s4 (.inl rfl);have hl:=D9 h (.inl rfl);have w2:b.drop (p+1)=(Av 5 s.length++s)++r:=by rw[w2];rfl
  have x1:=Aud w2 hl hb;rw[Zd1 (by decide),Af,Zd1 (by decide),Af,Zd1 (by decide),Af,Ze1 (by decide),Ah,Ah,x1,Zc1];simp only;rw[Aab h,D7];simp only[if_neg (show ¬(4:Int)=2 by decide),if_neg (show ¬(4:Int)=3 by decide),true_or,if_true,Zf1,Za1,Zp1,true_and,and_true];omega
 ·obtain rfl:=s4 (.inr rfl);have hl:=D9 h (.inr rfl);have w2:b.drop (p+1)=(Av 5 s.length++s)++r:=by rw[w2];rfl
  have x1:=Aud w2 hl hb;rw[Zd1 (by decide),Af,Zd1 (by decide),Af,Zd1 (by decide),Af,Zd1 (by decide),Af,Ze1 (by decide),Ah,x1,Zc1];simp only;rw[Aab h,D7];simp only[if_neg (show ¬(5:Int)=2 by decide),if_neg (show ¬(5:Int)=3 by decide),or_true,if_true,Zf1,Za1,Zp1,true_and,and_true];omega
theorem Bnl{b:Str}{n:Nat}(hb:b.length<=1000000)(hn:n<=100):∀(l:List Val) (k p:Nat) (acc:List Val),b.drop p=Ft l->p<=b.length->l.length<k->acc.length+l.length=n->(∀v,v∈l->A7 v=true/\inI v.n=true)->Aj (λrec=>Ou rec wdX) k (b,acc,(n:Int),(acc.length:Int),b,(p:Int),0)=some (acc++l,0)
 |_,0,_,_,_,_,h,_,_=>by omega
 |[],k+1,p,acc,hd,hp,_,ha,_=>by have:=congrArg List.length hd;simp[Ft] at this ha;rw[A0];simp only[Ou,Zd1 (show ¬(acc.length:Int)<(n:Int) by omega),Af,wdX,Zd1 (show ¬(p:Int)<(b.length:Int) by omega),List.append_nil];rfl
 |v::l,k+1,p,acc,hd,hp,hk,ha,hv=>by simp only[Zf1] at hk ha;rw[Jl] at hd;obtain⟨v1,v2⟩:=hv v (by simp);obtain⟨h1,h2⟩:=A6f v1 v2 hd hb;have h4:=congrArg List.length hd;simp only[Za2,Zh1] at h4;have ih:=Bnl hb hn l k (p+(D7 v).length) (acc++[v]) h2 (by omega) (by omega) (by simp;omega) λx hx=>hv x (by simp[hx]);rw[A0];simp only[Ou,Ze1 (show(acc.length:Int)<(n:Int) by omega),Ah,h1,Zc1,chk,Ze1 (show acc.length+1<=Ag by simp[Ag];omega),decide_true,Zt1,Af,show(acc.length:Int)+1=((acc.length+1:Nat):Int) by omega,Br (show acc.length+1<18446744073709551616 by omega)];rw[Zh1] at ih;exact ih.trans (by rw[Zj1];rfl)
theorem Akg{l:List Val}(h:okR l=true):(∀v,v∈l->A7 v=true)/\l.length<=100/\(Ff l).1=Av 9 l.length++Ft l:=by
 have h:=of_decide_eq_true h;cases h1:l.all (λv=>A7 v) with
 |false=>simp[Ff,h1] at h
 |true =>cases h2:decide (100<(l.length:Int)) with|true=>simp[Ff,h1,h2] at h|false =>have:=of_decide_eq_false h2;refine⟨λv hv=>Zg2.1 h1 v hv,by omega,by simp[Ff,h1,h2]⟩
theorem Bj5{l:List Val}(h:okR l=true)(hn:∀v,v∈l->inI v.n=true):Bd3 (Ff l).1=some (l,0):=by obtain⟨h1,h2,h3⟩:=Akg h;have hl:(Ff l).1.length<=110000:=A01 (by omega);rw[h3] at hl ⊢;have h4:=(Af1 (b:=Av 9 l.length++Ft l) (p:=0) rfl (show l.length<18446744073709551616 by omega) (by omega)).1;simp only[Bd3,Ut];rw[show Vv (Av 9 l.length++Ft l) 0=_ from h4,Zc1,Ze1 rfl,Zt1,Af,Zd1 (show ¬(100:Int)<(l.length:Int) by omega),Af];exact Bnl (n:=l.length) (by omega) h2 l 5000 _ [] (by rw[Nat.zero_add,List.drop_left]) (by simp) (by omega) (by simp) λv hv=>⟨h1 v hv,hn v hv⟩
theorem B0d{b:Str}(hb:b.length<=1000000):∀(l:List Str) (k p:Nat) (acc:List Str),b.drop p=Ch l->p<=b.length->l.length<k->acc.length+l.length<=1000000->Aj (λrec=>H1 rec vsX) k (b,[],0,(l.length:Int),(p:Int),acc)=some (acc++l,0)
 |_,0,_,_,_,_,h,_=>by omega
 |[],k+1,p,acc,hd,hp,_,_=>by have:=congrArg List.length hd;simp[Ch] at this;simp only[Aj,H1,Zi1,vsX];rw[Zd1 (by omega),Af,Zd1 (by omega),Af,List.append_nil]
 |s::l,k+1,p,acc,hd,hp,hk,ha=>by
  simp at hk ha;obtain⟨h1,h2⟩:=Avi (r:=Ch l) hd hb;have h4:=congrArg List.length hd;simp[Ch,Za2] at h4;have ih:=B0d hb l k (p+(Av 5 s.length++s).length) (acc++[s]) h2 (by rw[Zh1];omega) (by omega) (by simp;omega);simp only[Aj,H1,Zf1];rw[Ze1 (by omega),Ah,h1,Zc1,Ze1 (show(0:Int)=0 from rfl),Zt1,Af,Ze1 (show acc.length+1<=Ag by simp[Ag];omega),chk,Ah];have e:wr .u64 (((l.length+1:Nat):Int)-1)=(l.length:Int):=by rw[show((l.length+1:Nat):Int)-1=(l.length:Int) by omega,Br (by omega)]
  rw[e,ih,Zj1];rfl
theorem Brh{l:List Str}(hl:l.length<50000)(hb:(Gi l).length<=1000000):Yq (Gi l)=some (l,0):=by have h0:=Af1 (b:=Gi l) (r:=Ch l) (p:=0) (n:=l.length) (by rw[Zp (by omega)];rfl) (by omega) hb;rw[Zp (by omega)] at h0;simp only[Yq,Kg];rw[show Vv (Gi l) 0=_ from h0.1,Zc1,Ze1 (show(0:Int)=0 from rfl),Zt1,Af];exact B0d hb l 50000 _ [] (by rw[Nat.zero_add];exact List.drop_left) (by omega) hl (by simp;omega)
theorem Bj8{l:List (List Val)}(hb:Kk l)(ho:l.all okR=true):∀(k i:Nat),i<=l.length->l.length-i<k->Aj (λrec=>Oo rec wfX) k ([],0,l.take i,Bb l,((Bb l).length:Int),(i:Int))=some (l,0)
 |0,_,_,h=>by omega
 |k+1,i,hi,hk=>by
  have hl:=hb.1;have hbl:(Bb l).length=l.length:=by simp[Bb]
  have hln:ln (Bb l).length:=by simp[ln];omega
  rw[A0];by_cases h:i<l.length
  ·have h':i<(Bb l).length:=by omega
   have hm:=List.getElem_mem h;have e:(Bb l)[i]=(Ff l[i]).1:=by simp[Bb]
   have h2:(l.take i).length=i:=by simp;omega
   simp only[Oo,Cb h',Ah,Au h',chk,Aq (c :=.bytes) h',Ao h' hln,e,Bj5 (Zg2.1 ho _ hm) (hb.2 _ hm).2,Zc1,h2,Ze1 (show i+1<=Ag by simp[Ag];omega),decide_true,Zt1,Af];have:=Bj8 hb ho k (i+1) h (by omega);rw[List.take_succ_eq_append_getElem h] at this;exact this
  ·have:i=l.length:=by omega
   subst this;simp only[Oo,Zd1 (show ¬(l.length:Int)<((Bb l).length:Int) by omega),Af,wfX,List.take_length]
theorem Byc{l:List (List Val)}(m:Nat)(hm : 20000<m)(hb:Kk l)(ho:l.all okR=true)(hl:(C6 l).1.length<=1000000):Ji m (C6 l).1=some (l,0):=by
 have e:(C6 l).1=Gi (Bb l):=by rw[C6,ho];rfl
 have h0:=hb.1;have hbl:(Bb l).length=l.length:=by simp[Bb]
 rw[e] at hl ⊢;simp only[Ji,Brh (show(Bb l).length<50000 by omega) hl,Zc1];exact Bj8 hb ho m 0 (by omega) (by omega)
theorem Bm5{l:List (List Val)}(hb:Kk l)(ho:l.all okR=true)(hl:(C6 l).1.length<=1000000):Bub (C6 l).1=some (l,0):=Byc 50000 (by omega) hb ho hl
theorem Aap{b:Str}{p:Nat}(c:Bool)(hp:p<=b.length)(hb:b.length<=1000000):∃(x:Int) (q:Nat) (d:Bool),Hb (b,(p:Int),c)=some (x,b,(q:Int),d)/\inI x/\q<=b.length:=by
 obtain⟨m,to,e,h,ht⟩:=Js hp hb;simp only[Hb,Uy,h,Zc1];have z:inI 0:=by simp[inI]
 by_cases he:e=0
 ·obtain⟨_,j,rfl,j1,j2⟩:=ht he;rw[Ze1 he,Zt1,Af];cases decide (9223372036854775807<m) with|true=>exact⟨_,p,_,rfl,z,hp⟩|false=>exact⟨_,j,_,rfl,Atx _,j2⟩
 ·rw[Zd1 he];exact⟨_,p,_,rfl,z,hp⟩
theorem Abd{b r:Str}{p n:Nat}(hd:b.drop p=Av 9 n++r)(hn:n<=9223372036854775807)(hb:b.length<=1000000):Hb (b,(p:Int),false)=some ((n:Int),b,((p+(Av 9 n).length:Nat):Int),false)/\b.drop (p+(Av 9 n).length)=r:=by refine⟨?_,by rw[<-List.drop_drop,hd,List.drop_left]⟩;simp only[Hb,Uy,(Af1 hd (by omega) hb).1,Zc1];rw[Zd1 (show ¬(9223372036854775807:Int)<(n:Int) by omega),Be (n:=(n:Int)) (by simp[inI];omega)];rfl
theorem Bsj:Amv (ResS.mk [] 0):=⟨⟨by simp,λ_ h=>by cases h⟩,inT (by simp[inI])⟩
theorem Bkj{b:Str}{p:Nat}(c:Bool)(hp:p<=b.length)(hb:b.length<=20000):∃(r:ResS) (q:Nat) (d:Bool),Zj (b,(p:Int),c)=some (r,b,(q:Int),d)/\Amv r/\q<=b.length:=by
 obtain⟨x,q,d,h1,h2,h3⟩:=Aap c hp (show b.length<=1000000 by omega);obtain⟨s,to,e,h4,h5⟩:=Aeb h3 (show b.length<=1000000 by omega);simp only[Zj,Tz,h1,h4,Zc1];by_cases he:e=0
 ·obtain⟨s1,j,rfl,j1,j2⟩:=h5 he;obtain⟨l,f,h6,h7⟩:=Bj0 (b:=s) (by omega);have hr:Amv (ResS.mk l x):=⟨⟨Nat.le_trans h7.1 (by omega),h7.2⟩,inT h2⟩;rw[Ze1 he,Zt1,Af,h6,Zc1];cases d<;>exact⟨_,j,_,rfl,hr,j2⟩
 ·rw[Zd1 he];exact⟨_,q,_,rfl,Bsj,h3⟩
theorem toN{n:Int}(h:inI n=true)(h0 : 0<=n):((n.toNat:Nat):Int)=n/\n.toNat<=9223372036854775807:=by simp[inI] at h;omega
theorem Bkt{b r:Str}{p:Nat}{x:ResS}(hx:Amv x)(h0 : 0<=x.n)(ho:okM x=true)(hd:b.drop p=Rw x++r)(hb:b.length<=1000000):Zj (b,(p:Int),false)=some (x,b,((p+(Rw x).length:Nat):Int),false)/\b.drop (p+(Rw x).length)=r:=by
 refine⟨?_,by rw[<-List.drop_drop,hd,List.drop_left]⟩;have h1:=congrArg List.length hd;obtain⟨t1,t2⟩:=toN hx.2 h0;rw[Rw,Zj1] at hd;obtain⟨n1,n2⟩:=Abd hd t2 hb;obtain⟨v1,_⟩:=Avi n2 hb;have hl:(C6 x.rows).1.length<=1000000:=by simp only[Rw,Za2,Zh1] at h1;omega
 simp only[Zj,Tz,n1,v1,Bm5 hx.1 ho hl,Zc1,decide_true,Zt1,Af,t1];rw[Nat.add_assoc,<-Zh1];rfl
def tdX:Ex->Acj->Option (OutS×Int):=λe vz=>match vz with|(v3,_,_,_,_,_,_,_,d,a,b,c)=>match e with|.exit 0=>(A54 (OutS.mk a b c)).bind λ(f,g)=>cond d (some ((OutS.mk 0 0 []),11)) (cond (!decide (g=0)) (some ((OutS.mk 0 0 []),11)) (cond (!decide (f=v3)) (some ((OutS.mk 0 0 []),11)) (some ((OutS.mk a b c),0))))|_=>none
def Am4(b:Str)(o:OutS)(f:Int):Prop:=(o=OutS.mk 0 0 []/\f=11)\/(f=0/\Apk o/\Il o=(b,0))
theorem Bs9{b b':Str}{n i p e pos:Int}{c:Bool}{acc:List ResS}(ho:Apk (OutS.mk e pos acc)):∃o f,tdX (.exit 0) (b,n,i,0,0,[],b',p,c,e,pos,acc)=some (o,f)/\Am4 b o f:=by
 simp only[tdX,Ava ho,Zc1];have no:∃o f,some ((OutS.mk 0 0 []),(11:Int))=some (o,f)/\Am4 b o f:=⟨_,_,rfl,.inl ⟨rfl,rfl⟩⟩;cases c with
 |true=>exact no
 |false =>
  by_cases h1:(Il (OutS.mk e pos acc)).2=0
  ·by_cases h2:(Il (OutS.mk e pos acc)).1=b
   ·rw[Ze1 h1,Ze1 h2];exact⟨_,_,rfl,.inr ⟨rfl,ho,Prod.ext h2 h1⟩⟩
   ·rw[Ze1 h1,Zd1 h2];exact no
  ·rw[Zd1 h1];exact no
theorem Bab{b:Str}{n e pos:Int}(hb:b.length<=20000)(he:inI e=true)(hp:inI pos=true):∀(k i p:Nat) (c:Bool) (acc:List ResS),p<=b.length->i<=51->51-i<k->acc.length=i->(∀r,r∈acc->Amv r)->∃o f,Aj (λrec=>S8 rec tdX) k (b,n,(i:Int),0,0,[],b,(p:Int),c,e,pos,acc)=some (o,f)/\Am4 b o f
 |0,_,_,_,_,_,_,h,_,_=>by omega
 |k+1,i,p,c,acc,hq,hi,hk,ha,hr=>by
  rw[A0];have stop:∃o f,tdX (.exit 0) (b,n,(i:Int),0,0,[],b,(p:Int),c,e,pos,acc)=some (o,f)/\Am4 b o f:=Bs9 ⟨by simp only;omega,he,hp,hr⟩;simp only[S8];by_cases h1:(i:Int)<n
  ·by_cases h2:(i:Int)<=50
   ·cases c with
    |true =>rw[Ze1 h1,Ze1 h2];exact stop
    |false =>
     obtain⟨r,q,d,r1,r2,r3⟩:=Bkj false hq hb;rw[Ze1 h1,Ze1 h2,r1,Zc1];simp only[Zs1,Ah,chk,Ze1 (show acc.length+1<=Ag by simp[Ag];omega)];rw[Be (n:=(i:Int)+1) (by simp[inI];omega),show(i:Int)+1=((i+1:Nat):Int) by omega];exact Bab hb he hp k (i+1) q d (acc++[r]) r3 (by omega) (by omega) (by simp;omega) λx hx=>by
      rcases List.mem_append.1 hx with hx|hx
      ·exact hr x hx
      ·rw[List.mem_singleton.1 hx];exact r2
   ·rw[Ze1 h1,Zd1 h2];exact stop
  ·rw[Zd1 h1];exact stop
theorem Bl2{b:Str}(hb:b.length<=20000):∃o f,A77 b=some (o,f)/\Am4 b o f:=by obtain⟨x,p,c,h1,i1,p1⟩:=Aap (b:=b) (p:=0) false (by omega) (by omega);obtain⟨y,q,d,h2,i2,p2⟩:=Aap (b:=b) c p1 (by omega);obtain⟨z,r,g,h3,i3,p3⟩:=Aap (b:=b) d p2 (by omega);simp only[A77,Vf];rw[show Hb (b,0,false)=_ from h1];simp only[Zc1,h2,h3];exact Bab hb (inT i1) (inT i2) 5000 0 r g [] p3 (by omega) (by omega) rfl λ_ h=>by cases h
theorem Bl6{b:Str}{n:Nat}{e pos:Int}(hb:b.length<=1000000)(hn:n<=50):∀(l:List ResS) (k p:Nat) (acc:List ResS),b.drop p=Gu l->p<=b.length->l.length<k->acc.length+l.length=n->(∀x,x∈l->Amv x/\0<=x.n/\okM x=true)->∃q,Aj (λrec=>S8 rec tdX) k (b,(n:Int),(acc.length:Int),0,0,[],b,(p:Int),false,e,pos,acc)=tdX (.exit 0) (b,(n:Int),(n:Int),0,0,[],b,q,false,e,pos,acc++l)
 |_,0,_,_,_,_,h,_,_=>by omega
 |[],k+1,p,acc,hd,hp,_,ha,_=>by simp only[Zi1,Nat.add_zero] at ha;rw[A0];simp only[S8,ha,Zd1 (show ¬(n:Int)<(n:Int) by omega),Af,List.append_nil];exact⟨_,rfl⟩
 |x::l,k+1,p,acc,hd,hp,hk,ha,hv=>by simp only[Zf1] at hk ha;rw[Jp] at hd;obtain⟨x1,x2,x3⟩:=hv x (by simp);obtain⟨h1,h2⟩:=Bkt x1 x2 x3 hd hb;have h4:=congrArg List.length hd;simp only[Za2,Zh1] at h4;obtain⟨q,ih⟩:=Bl6 (e:=e) (pos:=pos) hb hn l k (p+(Rw x).length) (acc++[x]) h2 (by omega) (by omega) (by simp;omega) λy hy=>hv y (by simp[hy]);refine⟨q,?_⟩;rw[A0];simp only[S8,Ze1 (show(acc.length:Int)<(n:Int) by omega),Ze1 (show(acc.length:Int)<=50 by omega),Ah,Zs1,h1,Zc1,chk,Ze1 (show acc.length+1<=Ag by simp[Ag];omega)];rw[Be (n:=(acc.length:Int)+1) (by simp[inI];omega),show(acc.length:Int)+1=((acc.length+1:Nat):Int) by omega];rw[Zh1,Zj1] at ih;exact ih
theorem Box{o:OutS}(hb:Apk o)(ho:(Il o).2=0)(hl:(Bn o).length<=1000000):A77 (Bn o)=some (o,0):=by
 obtain⟨e1,e2,e3,e4,_⟩:=Aaf ho;obtain⟨a1,a2,a3,a4,a5⟩:=P0 e1;obtain⟨t1,t2⟩:=toN hb.2.1 a1;obtain⟨u1,u2⟩:=toN hb.2.2.1 a3;obtain⟨n1,n2⟩:=Abd (b:=Bn o) (p:=0) (show List.drop 0 (Bn o)=Av 9 o.e.toNat++(Av 9 o.pos.toNat++(Av 9 o.l.length++Gu o.l)) by simp only[Bn,Zq1,Zj1]) t2 hl;obtain⟨n3,n4⟩:=Abd n2 u2 hl;obtain⟨n5,n6⟩:=Abd n4 (by omega) hl;have h6:=congrArg List.length n6;simp only[A77,Vf];rw[show Hb (Bn o,0,false)=_ from n1];simp only[Zc1,n3,n5,t1,u1];have hw:(Bn o).length=(Av 9 o.e.toNat).length+((Av 9 o.pos.toNat).length+((Av 9 o.l.length).length+(Gu o.l).length)):=by simp only[Bn,Zh1];omega
 obtain⟨q,h⟩:=Bl6 (e:=o.e) (pos:=o.pos) hl a5 o.l 5000 _ [] n6 (by omega) (by omega) (by simp) λx hx=>⟨hb.2.2.2 x hx,e2 x hx,e3 x hx⟩;refine h.trans ?_;have hs:Il o=(Bn o,0):=Prod.ext e4 ho;show((A54 (OutS.mk o.e o.pos ([]++o.l))).bind λ(a,c)=>cond false (some ((OutS.mk 0 0 []),(11:Int))) (cond (!decide (c=0)) (some ((OutS.mk 0 0 []),11)) (cond (!decide (a=Bn o)) (some ((OutS.mk 0 0 []),11)) (some ((OutS.mk o.e o.pos ([]++o.l)),0)))))=_;rw[Zf2,show OutS.mk o.e o.pos o.l=o from rfl,Ava hb,hs,Zc1];simp only[decide_true,Zt1,Af]
def dvF(v:Val)(k:Int):Option (Val×Int×Bool):=cond (!decide (Io v=0)) (some (Val.mk 0 0 [],0,false)) (some (v,k,false))
def dvJ(x:Int)(b:Str)(p:Bool):Option (Val×Int×Bool) :=cond p ((Ms b 1).bind λ(x4,x5,x6)=>cond (!decide (x6=0)) (chk (upto 1 b.length b.length) (chk (inb 0 b.length) ((Bgf (b.drop (1:Int).toNat) (wr .i64 x)).bind λx7=>some (Val.mk 0 0 [],0,x7)))) (dvF (Val.mk (wr .i64 x) 0 x4) x5)) (dvF (Val.mk (wr .i64 x) 0 []) 1)
def dvB(x:Int)(b:Str):Option (Val×Int×Bool) :=
 cond (decide (x=1)) (dvF (Val.mk (wr .i64 x) 0 []) 1) (
  cond (decide (x=2)) (cond (decide ((b.length:Int)=1)) (some (Val.mk 0 0 [],0,true)) (chk (inb 1 b.length) (dvF (Val.mk (wr .i64 x) (wr .i64 ((at' .byte b 1).toNat:Int)) []) 2))) (
  cond (decide (x=3)) ((Acp b 1).bind λ(y,x1,x2)=>cond (!decide (x2=0)) (chk (upto 1 b.length b.length) ((Bgf (b.drop (1:Int).toNat) 3).bind λx3=>some (Val.mk 0 0 [],0,x3))) (dvF (Val.mk (wr .i64 x) y []) x1)) (
   cond (decide (x=4)) (dvJ x b (decide (x=4))) (dvJ x b (decide (x=5))))))
theorem Bdw(c:UInt8)(s:Str):Be0 (c::s)=dvB (c.toNat:Int) (c::s):=by have h1:at' .byte (c::s) 0=c:=Aq (c :=.byte) (i:=0) (by simp);simp only[Be0,Adw,chk,show inb 0 (c::s).length=true from Au (i:=0) (by simp),Ah,h1];rw[Zd1 (show ¬((c::s).length:Int)=0 by simp only[Zf1];omega),Af];simp only[dvB,dvJ,dvF,chk,show inb 0 (c::s).length=true from Au (i:=0) (by simp),Ah]
theorem Aqz{b:Str}{q:Int}{kx:Ex->Abf->Option Bool}(hb:ln b.length)(h1:∀i,kx .ret (b,q,false,i)=some false)(h2:∀i,kx (.exit 0) (b,q,false,i)=some true):∀(k i:Nat),i<=b.length->b.length-i<k->∃r,Aj (λrec=>Ad2 rec kx) k (b,q,false,(i:Int))=some r
 |0,_,_,h=>by omega
 |k+1,i,hi,hk=>by
  rw[A0];by_cases h:i<b.length
  ·simp only[Ad2,Cb h,Ah,Au h,chk,Aq (c :=.byte) h,Ao h hb,h1,h2];cases decide (q=4) with
   |false=>exact⟨_,rfl⟩
   |true =>
    cases decide ((b[i].toNat:Int)<32) with
    |true=>exact⟨_,rfl⟩
    |false =>cases decide (126<(b[i].toNat:Int)) with|true=>exact⟨_,rfl⟩|false=>exact Aqz hb h1 h2 k (i+1) h (by omega)
  ·have:i=b.length:=by omega
   subst this;simp only[Ad2,Ds,Af,h2];exact⟨_,rfl⟩
theorem Bxp{b:Str}(m:Nat)(hm : 9000<m)(q:Int)(hb:b.length<=9000):∃r,U8 m (b,q)=some r:=by
 obtain⟨n,to,e,h,ht⟩:=J0 (b:=b) (p:=0) (by omega) hb;simp only[U8];rw[show Rb b 0=_ from h,Zc1];by_cases he:e=0
 ·obtain⟨_,j,rfl,j1,j2⟩:=ht he;rw[Ze1 he,Zt1,Af];cases decide (q=3) with
  |true=>exact⟨_,rfl⟩
  |false =>cases decide (1000<n) with|true=>exact⟨_,rfl⟩|false=>exact Aqz (by simp[ln];omega) (λ_=>rfl) (λ_=>rfl) m j j2 (by omega)
 ·rw[Zd1 he];exact⟨_,rfl⟩
theorem A2g{b:Str}(q:Int)(hb:b.length<=9000):∃r,Bgf b q=some r:=Bxp 10000 (by omega) q hb
theorem Bhw{b:Str}{p:Nat}(hp:p<=b.length)(hb:b.length<=9000):∃n to e,Acp b (p:Int)=some (n,to,e)/\inI n/\(e=0->∃j:Nat,to=(j:Int)/\p<j/\j<=b.length):=by
 obtain⟨m,to,e,h,ht⟩:=J0 hp hb;simp only[Acp,O7,h,Zc1];have z:inI 0:=by simp[inI]
 by_cases he:e=0
 ·rw[Ze1 he,Zt1,Af];cases decide (Int.tmod m 2=1)<;>exact⟨_,_,_,rfl,Atx _,λ_=>(ht he).2⟩
 ·rw[Zd1 he];exact⟨_,_,_,rfl,z,λh=>absurd h he⟩
theorem Abw{v:Val}{n k:Nat}(h:inI v.n)(hk:k<=n):∃(w:Val) (j:Nat) (t:Bool),dvF v (k:Int)=some (w,(j:Int),t)/\inI w.n/\j<=n:=by simp only[dvF];cases decide (Io v=0) with|true=>exact⟨_,k,_,rfl,h,hk⟩|false=>exact⟨_,0,_,rfl,by simp[inI],by omega⟩
theorem up1(c:UInt8)(s:Str):upto 1 (c::s).length (c::s).length=true:=by simp[upto];omega
theorem Bmi{b:Str}(hb:b.length<=9000):∃(v:Val) (k:Nat) (t:Bool),Be0 b=some (v,(k:Int),t)/\inI v.n/\k<=b.length:=by
 have z:inI 0:=by simp[inI]
 cases b with
 |nil=>exact⟨_,0,_,rfl,z,by omega⟩
 |cons c s =>
  have hl:(c::s).length=s.length+1:=rfl;have hs:((c::s).drop (1:Int).toNat).length<=9000:=by rw[Za2];omega
  rw[Bdw];generalize (c.toNat:Int)=x;simp only[dvB];by_cases h1:x=1
  ·rw[Ze1 h1];exact Abw (k:=1) z (by omega)
  rw[Zd1 h1,Af];by_cases h2:x=2
  ·rw[Ze1 h2,Ah];by_cases g:(c::s).length=1
   ·rw[Ze1 (show((c::s).length:Int)=1 by omega)];exact⟨_,0,_,rfl,z,by omega⟩
   ·rw[Zd1 (show ¬((c::s).length:Int)=1 by omega),Af,show inb 1 (c::s).length=true from Au (i:=1) (by omega)];exact Abw (k:=2) (Atx _) (by omega)
  rw[Zd1 h2,Af];by_cases h3:x=3
  ·obtain⟨n,to,e,g1,g2,g3⟩:=Bhw (b:=c::s) (p:=1) (by omega) hb;rw[Ze1 h3,Ah,show Acp (c::s) 1=_ from g1,Zc1];by_cases he:e=0
   ·obtain⟨j,rfl,j1,j2⟩:=g3 he;simp only[Ze1 he,Zt1,Af];exact Abw g2 j2
   ·obtain⟨r,hr⟩:=A2g 3 hs;simp only[Zd1 he,Zs1,Ah,up1,chk,hr,Zc1];exact⟨_,0,_,rfl,z,by omega⟩
  rw[Zd1 h3,Af];have hj:∀p:Bool,∃(v:Val) (k:Nat) (t:Bool),dvJ x (c::s) p=some (v,(k:Int),t)/\inI v.n/\k<=(c::s).length:=λp=>by
   cases p with
   |false=>exact Abw (k:=1) z (by omega)
   |true =>
    obtain⟨n,to,e,g1,g3⟩:=Adr (b:=c::s) (p:=1) (by omega) hb;rw[dvJ,Ah,show Ms (c::s) 1=_ from g1,Zc1];by_cases he:e=0
    ·obtain⟨_,j,rfl,j1,j2⟩:=g3 he;simp only[Ze1 he,Zt1,Af];exact Abw z j2
    ·obtain⟨r,hr⟩:=A2g (wr .i64 x) hs;simp only[Zd1 he,Zs1,Ah,up1,chk,show inb 0 (c::s).length=true from Au (i:=0) (by omega),hr,Zc1];exact⟨_,0,_,rfl,z,by omega⟩
  by_cases h4:x=4
  ·rw[Ze1 h4,Ah];exact hj _
  ·rw[Zd1 h4,Af];exact hj _
theorem rch(v:Val):Io v=cond (!A7 v) 2 0:=rfl
theorem Ach{v:Val}{k:Int}(h:A7 v=true):dvF v k=some (v,k,false):=by rw[dvF,rch,h];rfl
theorem Blr{r:Str}{v:Val}(h:A7 v=true)(hn:inI v.n=true)(hb:(D7 v++r).length<=9000):Be0 (D7 v++r)=some (v,((D7 v).length:Int),false):=by
 obtain⟨s1,s2,s3,s4⟩:=Ab6 h;have hk5:=Le h;have hk:=Aac (n:=v.kind) (by omega);obtain⟨w,hw⟩:∃w,D7 v=b8 v.kind::w:=⟨_,rfl⟩;rw[hw] at hb ⊢;rw[Zb2] at hb ⊢;rw[Bdw,hk];have hkk:wr .i64 v.kind=v.kind:=Be (by simp[inI];omega);simp only[dvB,dvJ,hkk];have d1:∀c:UInt8,(c::(w++r)).drop 1=w++r:=λ_=>rfl;have hl:=λc:UInt8=>show(c::(w++r)).length=w.length+r.length+1 by simp
 obtain⟨k,n,s⟩:=v;simp only at s1 s2 s3 s4 hk5 hw ⊢;rw[D7] at hw;have hw:=(List.cons.inj hw).2;rcases hk5 with rfl|rfl|rfl|rfl|rfl
 ·obtain⟨rfl,rfl⟩:=s1 rfl;subst hw;exact Ach h
 ·obtain⟨h2,rfl⟩:=s2 rfl;simp only[if_true] at hw;subst hw;have ha:at' .byte (b8 2::([b8 n]++r)) 1=b8 n:=Aq (c :=.byte) (i:=1) (by simp);rw[Zd1 (by decide),Af,Ze1 (by decide),Ah,Zd1 (by rw[hl];simp;omega),Af,show inb 1 (b8 2::([b8 n]++r)).length=true from Au (i:=1) (by simp),chk,Ah,ha,Aac (by omega),Be (show inI n by simpa using hn)];exact Ach h
 ·obtain rfl:=s3 rfl;simp only[if_neg (show ¬(3:Int)=2 by decide),if_true] at hw;subst hw;have x1:=Bty (p:=1) hn (d1 (b8 3)) hb;rw[Zd1 (by decide),Af,Zd1 (by decide),Af,Ze1 (by decide),Ah,show Acp _ 1=_ from x1,Zc1];simp only[decide_true,Zt1,Af];rw[Ach h,Nat.add_comm];rfl
 ·obtain rfl:=s4 (.inl rfl);have hl4:=D9 h (.inl rfl);simp only[if_neg (show ¬(4:Int)=2 by decide),if_neg (show ¬(4:Int)=3 by decide),true_or,if_true] at hw;subst hw;have x1:=(Up (p:=1) (d1 (b8 4)) (by simp only at hl4;omega) hb).1;rw[Zd1 (by decide),Af,Zd1 (by decide),Af,Zd1 (by decide),Af,Ze1 (by decide),Ah,Ah,show Ms _ 1=_ from x1,Zc1];simp only[decide_true,Zt1,Af];rw[Ach h,Nat.add_comm];rfl
 ·obtain rfl:=s4 (.inr rfl);have hl4:=D9 h (.inr rfl);simp only[if_neg (show ¬(5:Int)=2 by decide),if_neg (show ¬(5:Int)=3 by decide),or_true,if_true] at hw;subst hw;have x1:=(Up (p:=1) (d1 (b8 5)) (by simp only at hl4;omega) hb).1;rw[Zd1 (by decide),Af,Zd1 (by decide),Af,Zd1 (by decide),Af,Zd1 (by decide),Af,Ze1 (by decide),Ah,show Ms _ 1=_ from x1,Zc1];simp only[decide_true,Zt1,Af];rw[Ach h,Nat.add_comm];rfl
def ddX:Ex->Acf->Option (List Val×Int):=λe vz=>match vz with|(v6,v7,v8,_,a,b)=>match e with|.ret=>some (v7,v8)|.exit 0=>cond (!decide (a=(v6.length:Int))) (some ([],11)) (some (b,0))|_=>none
theorem A96{b:Str}{n:Int}(hb:b.length<=9000)(hn:n<=100):∀(k i p:Nat) (acc:List Val),p<=b.length->i<=100->100-i<k->acc.length=i->M6 acc->∃l e,Aj (λrec=>S0 rec ddX) k (b,[],0,n,(p:Int),acc)=some (l,e)/\M6 l
 |0,_,_,_,_,_,h,_,_=>by omega
 |k+1,i,p,acc,hp,hi,hk,ha,hv=>by
  rw[A0];have e0:wr .u64 (acc.length:Int)=(acc.length:Int):=Br (by omega);simp only[S0,e0];by_cases h:(acc.length:Int)<n
  ·obtain⟨v,j,t,e,v1,v2⟩:=Bmi (b:=b.drop p) (by rw[Za2];omega);rw[Za2] at v2;have hu:upto (p:Int) b.length b.length=true:=by simp[upto];omega
   simp only[Ze1 h,Ah,hu,chk,Int.toNat_natCast,e,Zc1];by_cases hj:j=0
   ·rw[Ze1 (show(j:Int)=0 by omega)];cases t<;>exact⟨_,_,rfl,Gn⟩
   ·rw[Zd1 (show ¬(j:Int)=0 by omega),Af,Af,Ze1 (show acc.length+1<=Ag by simp[Ag];omega),Ah,Be (n:=(p:Int)+j) (by simp[inI];omega),show(p:Int)+j=((p+j:Nat):Int) by omega];exact A96 hb hn k (i+1) (p+j) _ (by omega) (by omega) (by omega) (by simp;omega) (Ar7 hv (by omega) v1)
  ·simp only[Zd1 h,Af,ddX];cases decide ((p:Int)=(b.length:Int)) with|true=>exact⟨_,_,rfl,hv⟩|false=>exact⟨_,_,rfl,Gn⟩
theorem Byl{b:Str}(m:Nat)(hm : 200<m)(hb:b.length<=9000):∃l e,Jg m b=some (l,e)/\M6 l:=by
 obtain⟨n,to,e,h,ht⟩:=J0 (b:=b) (p:=0) (by omega) hb;simp only[Jg];rw[show Rb b 0=_ from h,Zc1];by_cases he:e=0
 ·obtain⟨m0,j,rfl,j1,j2⟩:=ht he;rw[Ze1 he,Zt1,Af];by_cases hn : 100<n
  ·rw[Ze1 hn];exact⟨_,_,rfl,Gn⟩
  ·rw[Zd1 hn,Af];exact A96 hb (by omega) m 0 j [] j2 (by omega) (by omega) rfl Gn
 ·rw[Zd1 he];exact⟨_,_,rfl,Gn⟩
theorem Bmo{b:Str}(hb:b.length<=9000):∃l e,Bv3 b=some (l,e)/\M6 l:=Byl 10000 (by omega) hb
theorem Bjy(v:Val) : 0<(D7 v).length:=by simp[D7]
theorem Bq2{b:Str}{n:Nat}(hb:b.length<=9000)(hn:n<=100):∀(l:List Val) (k p:Nat) (acc:List Val),b.drop p=Ft l->p<=b.length->l.length<k->acc.length+l.length=n->(∀v,v∈l->A7 v=true/\inI v.n=true)->Aj (λrec=>S0 rec ddX) k (b,[],0,(n:Int),(p:Int),acc)=some (acc++l,0)
 |_,0,_,_,_,_,h,_,_=>by omega
 |[],k+1,p,acc,hd,hp,_,ha,_=>by have:=congrArg List.length hd;simp[Ft] at this ha;rw[A0];simp only[S0,Br (show acc.length<18446744073709551616 by omega),Zd1 (show ¬(acc.length:Int)<(n:Int) by omega),Af,ddX,Ze1 (show(p:Int)=(b.length:Int) by omega),List.append_nil];rfl
 |v::l,k+1,p,acc,hd,hp,hk,ha,hv=>by
  simp only[Zf1] at hk ha;rw[Jl] at hd;obtain⟨v1,v2⟩:=hv v (by simp);have h4:=congrArg List.length hd;simp only[Za2,Zh1] at h4;have h1:=Blr (r:=Ft l) v1 v2 (by rw[Zh1];omega);have hpos:=Bjy v;have hu:upto (p:Int) b.length b.length=true:=by simp[upto];omega
  have ih:=Bq2 hb hn l k (p+(D7 v).length) (acc++[v]) (by rw[<-List.drop_drop,hd,List.drop_left]) (by omega) (by omega) (by simp;omega) λx hx=>hv x (by simp[hx]);rw[A0];simp only[S0,Br (show acc.length<18446744073709551616 by omega),Ze1 (show(acc.length:Int)<(n:Int) by omega),Ah,hu,chk,Int.toNat_natCast,hd,h1,Zc1,Zd1 (show ¬((D7 v).length:Int)=0 by omega),Af,Ze1 (show acc.length+1<=Ag by simp[Ag];omega)];rw[Be (n:=(p:Int)+((D7 v).length:Int)) (by simp[inI];omega),show(p:Int)+((D7 v).length:Int)=((p+(D7 v).length:Nat):Int) by omega,ih,Zj1];rfl
theorem By0{l:List Val}(m:Nat)(hm : 200<m)(h:okR l=true)(hn:∀v,v∈l->inI v.n=true)(hl:(Ff l).1.length<=9000):Jg m (Ff l).1=some (l,0):=by obtain⟨h1,h2,h3⟩:=Akg h;rw[h3] at hl ⊢;have h4:=A60 (b:=Av 9 l.length++Ft l) (p:=0) rfl (show l.length<18446744073709551616 by omega) hl;simp only[Jg];rw[show Rb (Av 9 l.length++Ft l) 0=_ from h4,Zc1,Ze1 rfl,Zt1,Af,Zd1 (show ¬(100:Int)<(l.length:Int) by omega),Af];exact Bq2 (n:=l.length) hl h2 l m _ [] (by rw[Nat.zero_add,List.drop_left]) (by simp) (by omega) (by simp) λv hv=>⟨h1 v hv,hn v hv⟩
theorem Bn5{l:List Val}(h:okR l=true)(hn:∀v,v∈l->inI v.n=true)(hl:(Ff l).1.length<=9000):Bv3 (Ff l).1=some (l,0):=By0 10000 (by omega) h hn hl
def dfX:Ex->Ac0->Option (List (List Val)×Int):=λe vz=>match vz with|(v5,v6,_,v8,_)=>match e with|.ret=>some (v5,v6)|.exit 0=>some (v8,0)|_=>none
theorem Bdv{x:List Str}(hl:x.length<=1000000)(hx:∀s,s∈x->s.length<=9000):∀(k i:Nat) (acc:List (List Val)),i<=x.length->x.length-i<k->Ac1 i acc->∃l e,Aj (λrec=>N6 rec dfX) k ([],0,x,acc,(i:Int))=some (l,e)/\Ac1 x.length l
 |0,_,_,_,h,_=>by omega
 |k+1,i,acc,hi,hk,ha=>by
  have hln:ln x.length:=by simp[ln];omega
  rw[A0];by_cases h:i<x.length
  ·obtain⟨l,e,h1,h2⟩:=Bmo (hx _ (List.getElem_mem h));have:=ha.1;simp only[N6,Cb h,Ah,Au h,chk,Aq (c :=.bytes) h,Ao h hln,h1,Zc1,Ze1 (show acc.length+1<=Ag by simp[Ag];omega)];cases decide (e=0) with
   |false=>exact⟨_,_,rfl,Jc⟩
   |true =>
    exact Bdv hl hx k (i+1) (acc++[l]) h (by omega) ⟨by simp;omega,λr hr=>by
     rcases List.mem_append.1 hr with hr|hr
     ·exact ha.2 r hr
     ·rw[List.mem_singleton.1 hr];exact h2⟩
  ·have:i=x.length:=by omega
   subst this;simp only[N6,Ds,Af];exact⟨_,_,rfl,ha⟩
theorem By3{b:Str}(m:Nat)(hm : 5000<m)(hb:b.length<=5000):∃l e,Jb m b=some (l,e)/\Ac1 5000 l:=by obtain⟨x,e,h,h1,h2⟩:=A6z hb;simp only[Jb,h,Zc1];cases decide (e=0) with|false=>exact⟨_,_,rfl,Jc⟩|true =>obtain⟨l,f,h3,h4⟩:=Bdv (x:=x) (by omega) (λs hs=>by have:=h2 s hs;omega) m 0 [] (by omega) (by omega) Jc;exact⟨l,f,h3,by have:=h4.1;omega,h4.2⟩
theorem A2u{b:Str}(hb:b.length<=5000):∃l e,Bu2 b=some (l,e)/\Ac1 5000 l:=By3 10000 (by omega) hb
theorem Bn9{l:List (List Val)}(hb:Kk l)(ho:l.all okR=true)(hs:∀r,r∈l->(Ff r).1.length<=9000):∀(k i:Nat),i<=l.length->l.length-i<k->Aj (λrec=>N6 rec dfX) k ([],0,Bb l,l.take i,(i:Int))=some (l,0)
 |0,_,_,h=>by omega
 |k+1,i,hi,hk=>by
  have hl:=hb.1;have hbl:(Bb l).length=l.length:=by simp[Bb]
  have hln:ln (Bb l).length:=by simp[ln];omega
  rw[A0];by_cases h:i<l.length
  ·have h':i<(Bb l).length:=by omega
   have hm:=List.getElem_mem h;have e:(Bb l)[i]=(Ff l[i]).1:=by simp[Bb]
   have h2:(l.take i).length=i:=by simp;omega
   simp only[N6,Cb h',Ah,Au h',chk,Aq (c :=.bytes) h',Ao h' hln,e,Bn5 (Zg2.1 ho _ hm) (hb.2 _ hm).2 (hs _ hm),Zc1,h2,Ze1 (show i+1<=Ag by simp[Ag];omega),decide_true,Zt1,Af];have:=Bn9 hb ho hs k (i+1) h (by omega);rw[List.take_succ_eq_append_getElem h] at this;exact this
  ·have:i=l.length:=by omega
   subst this;simp only[N6,Zd1 (show ¬(l.length:Int)<((Bb l).length:Int) by omega),Af,dfX,List.take_length]
theorem Ni:∀{l:List Str}{s:Str},s∈l->s.length<=(Ch l).length/\l.length<=(Ch l).length
 |x::l,s,h=>by
  have hx:=A3 5 x.length;have h0:l.length<=(Ch l).length:=by cases l with|nil=>simp|cons y l=>exact(Ni (Zr1 (a:=y) (l:=l))).2
  simp only[Ch,Zh1,Zf1];rcases List.mem_cons.1 h with rfl|h
  ·omega
  ·have:=(Ni h).1;omega
theorem Bzt{l:List (List Val)}(m:Nat)(hm : 9000<m)(hb:Kk l)(ho:l.all okR=true)(hl:(C6 l).1.length<=5000):Jb m (C6 l).1=some (l,0):=by
 have e:(C6 l).1=Gi (Bb l):=by rw[C6,ho];rfl
 have hbl:(Bb l).length=l.length:=by simp[Bb]
 have h0:=hb.1;rw[e] at hl ⊢;have h2:=hl;rw[Gi,Zh1] at h2;have h3:(Bb l).length<5000:=by cases h:Bb l with|nil=>simp|cons y t =>have:=(Ni (Zr1 (a:=y) (l:=t))).2;have:=A3 5 (y::t).length;rw[h] at h2;omega
 simp only[Jb,A7x h3 (by omega) (λx hx=>by have:=(Ni hx).1;omega),Zc1];exact Bn9 hb ho (λr hr=>by have:=(Ni (show(Ff r).1∈Bb l from List.mem_map.2 ⟨r,hr,rfl⟩)).1;omega) m 0 (by omega) (by omega)
theorem Bmn{l:List (List Val)}(hb:Kk l)(ho:l.all okR=true)(hl:(C6 l).1.length<=5000):Bu2 (C6 l).1=some (l,0):=Bzt 10000 (by omega) hb ho hl
theorem Ue{b:Str}{p:Nat}(hp:p<=b.length)(hb:b.length<=9000):∃x q t,Qx b (p:Int)=some (x,q,t)/\inI x/\(t=true->∃j:Nat,q=(j:Int)/\j<=b.length):=by
 obtain⟨m,to,e,h,ht⟩:=J0 hp hb;simp only[Qx,Oh,h,Zc1];have no:∃x q t,some ((0:Int),(0:Int),false)=some (x,q,t)/\inI x/\(t=true->∃j:Nat,q=(j:Int)/\j<=b.length):=⟨_,_,_,rfl,by simp[inI],λh=>by cases h⟩;by_cases he:e=0
 ·obtain⟨_,j,rfl,j1,j2⟩:=ht he;rw[Ze1 he,Zt1,Af];cases decide (9223372036854775807<m) with|true=>exact no|false=>exact⟨_,_,_,rfl,Atx _,λ_=>⟨j,rfl,j2⟩⟩
 ·rw[Zd1 he];exact no
theorem Vl{b r:Str}{p n:Nat}(hd:b.drop p=Av 9 n++r)(hn:n<=9223372036854775807)(hb:b.length<=9000):Qx b (p:Int)=some ((n:Int),((p+(Av 9 n).length:Nat):Int),true)/\b.drop (p+(Av 9 n).length)=r:=by refine⟨?_,by rw[<-List.drop_drop,hd,List.drop_left]⟩;simp only[Qx,Oh,A60 hd (by omega) hb,Zc1];rw[Zd1 (show ¬(9223372036854775807:Int)<(n:Int) by omega),Be (n:=(n:Int)) (by simp[inI];omega)];rfl
noncomputable def doX:Ex->Vm->Option (OutS×Int):=λe vz=>match vz with|(v5,v6,_,_,_,d,f,g,a,b,c)=>match e with|.ret=>some ((OutS.mk d f g),v6)|.exit 0=>(A3i (OutS.mk a b c)).bind λ(h,i)=>cond (!decide (i=0)) (some ((OutS.mk 0 0 []),11)) ((Akc h v5).bind λj=>cond (!j) (some ((OutS.mk 0 0 []),11)) (some ((OutS.mk a b c),0)))|_=>none
theorem Iv{b:Str}:∃o f,some ((OutS.mk 0 0 []),(11:Int))=some (o,f)/\Am4 b o f:=⟨_,_,rfl,.inl ⟨rfl,rfl⟩⟩
theorem Buq{b:Str}{n i p e pos:Int}{acc:List ResS}(ho:Apk (OutS.mk e pos acc)):∃o f,doX (.exit 0) (b,0,p,n,i,0,0,[],e,pos,acc)=some (o,f)/\Am4 b o f:=by
 simp only[doX,Anl ho,Zc1,Akc,Jm];by_cases h1:(Il (OutS.mk e pos acc)).2=0
 ·by_cases h2:(Il (OutS.mk e pos acc)).1=b
  ·rw[Ze1 h1,Ze1 h2];exact⟨_,_,rfl,.inr ⟨rfl,ho,Prod.ext h2 h1⟩⟩
  ·rw[Ze1 h1,Zd1 h2];exact Iv
 ·rw[Zd1 h1];exact Iv
theorem Bb0{b:Str}{n e pos:Int}(hb:b.length<=5000)(hn:n<=50)(he:inI e=true)(hp:inI pos=true):∀(k i p:Nat) (acc:List ResS),p<=b.length->i<=50->50-i<k->acc.length=i->(∀r,r∈acc->Amv r)->∃o f,Aj (λrec=>Ku rec doX) k (b,0,(p:Int),n,(i:Int),0,0,[],e,pos,acc)=some (o,f)/\Am4 b o f
 |0,_,_,_,_,_,h,_,_=>by omega
 |k+1,i,p,acc,hq,hi,hk,ha,hr=>by
  rw[A0];simp only[Ku];by_cases h1:(i:Int)<n
  ·obtain⟨x,q,t,g1,g2,g3⟩:=Ue hq (show b.length<=9000 by omega);simp only[Ze1 h1,Ah,g1,Zc1];cases t with
   |false=>exact Iv
   |true =>
    obtain⟨j,rfl,j1⟩:=g3 rfl;obtain⟨s,to,f,k1,k2⟩:=Adr j1 (show b.length<=9000 by omega);simp only[Zt1,Af,k1,Zc1];by_cases hf:f=0
    ·obtain⟨s1,u,rfl,u1,u2⟩:=k2 hf;obtain⟨l,g,l1,l2⟩:=A2u (b:=s) (by omega);simp only[l1,Zc1,Ze1 hf,Zt1,Af];cases decide (g=0) with
     |false=>exact Iv
     |true =>
      simp only[Zt1,Af,chk,Ze1 (show acc.length+1<=Ag by simp[Ag];omega),Ah];rw[Be (n:=(i:Int)+1) (by simp[inI];omega),show(i:Int)+1=((i+1:Nat):Int) by omega];exact Bb0 hb hn he hp k (i+1) u (acc++[ResS.mk l x]) u2 (by omega) (by omega) (by simp;omega) λy hy=>by
       rcases List.mem_append.1 hy with hy|hy
       ·exact hr y hy
       ·rw[List.mem_singleton.1 hy];exact⟨⟨Nat.le_trans l2.1 (by omega),l2.2⟩,inT g2⟩
    ·have hsl:s.length<=5000:=by
      simp only[Ms,Jx] at k1;obtain⟨m,to2,e2,v1,v2⟩:=J0 j1 (show b.length<=9000 by omega);rw[v1,Zc1] at k1;by_cases he2:e2=0
      ·obtain⟨m0,w,rfl,w1,w2⟩:=v2 he2;simp only[Ze1 he2,Zt1,Af] at k1;cases hd1:decide (1048576<m)<;>rw[hd1] at k1
       ·rw[Af] at k1;cases hd2:decide ((b.length:Int)<wr .i64 ((w:Int)+wr .i64 m))<;>rw[hd2] at k1
        ·exfalso;simp only[Af,chk] at k1;cases hd3:upto (w:Int) (wr .i64 ((w:Int)+wr .i64 m)) b.length<;>rw[hd3] at k1
         ·cases k1
         ·rw[Ah] at k1;cases hd4:decide (0+(cut b (w:Int) (wr .i64 ((w:Int)+wr .i64 m))).length<=Ag)<;>rw[hd4] at k1
          ·cases k1
          ·injection k1 with k1;injection k1 with _ k1;injection k1 with _ k1;exact hf k1.symm
        ·injection k1 with k1;injection k1 with k1 _;rw[<-k1];simp
       ·injection k1 with k1;injection k1 with k1 _;rw[<-k1];simp
      ·simp only[Zd1 he2,Zs1,Ah] at k1;injection k1 with k1;injection k1 with k1 _;rw[<-k1];simp
     obtain⟨l,g,l1,l2⟩:=A2u hsl;simp only[l1,Zc1,Zd1 hf,Zs1,Ah];exact Iv
  ·rw[Zd1 h1,Af];exact Buq ⟨by simp only;omega,he,hp,hr⟩
theorem Bs3{b:Str}(m:Nat)(hm : 100<m)(hb:b.length<=5000):∃o f,Hk m b=some (o,f)/\Am4 b o f:=by
 obtain⟨x,p,c,h1,i1,p1⟩:=Ue (b:=b) (p:=0) (by omega) (by omega);simp only[Hk];rw[show Qx b 0=_ from h1,Zc1];cases c with
 |false=>exact Iv
 |true =>
  obtain⟨pn,rfl,p4⟩:=p1 rfl;obtain⟨y,q,d,h2,i2,p2⟩:=Ue p4 (show b.length<=9000 by omega);simp only[Zt1,Af,h2,Zc1];cases d with
  |false=>exact Iv
  |true =>
   obtain⟨qn,rfl,p5⟩:=p2 rfl;obtain⟨z,r,g,h3,i3,p3⟩:=Ue p5 (show b.length<=9000 by omega);simp only[Zt1,Af,h3,Zc1];cases g with
   |false=>exact Iv
   |true =>
    obtain⟨rn,rfl,p6⟩:=p3 rfl;by_cases hz : 50<z
    ·rw[Ze1 hz];exact Iv
    ·rw[Zd1 hz];exact Bb0 hb (by omega) (inT i1) (inT i2) m 0 rn [] p6 (by omega) (by omega) rfl λ_ h=>by cases h
theorem Bhj{b:Str}(hb:b.length<=5000):∃o f,A3h b=some (o,f)/\Am4 b o f:=Bs3 10000 (by omega) hb
theorem Bm0{b:Str}{n:Nat}{e pos:Int}(hb:b.length<=5000)(hn:n<=50):∀(l:List ResS) (k p:Nat) (acc:List ResS),b.drop p=Gu l->p<=b.length->l.length<k->acc.length+l.length=n->(∀x,x∈l->Amv x/\0<=x.n/\okM x=true)->∃q,Aj (λrec=>Ku rec doX) k (b,0,(p:Int),(n:Int),(acc.length:Int),0,0,[],e,pos,acc)=doX (.exit 0) (b,0,q,(n:Int),(n:Int),0,0,[],e,pos,acc++l)
 |_,0,_,_,_,_,h,_,_=>by omega
 |[],k+1,p,acc,hd,hp,_,ha,_=>by simp only[Zi1,Nat.add_zero] at ha;rw[A0];simp only[Ku,ha,Zd1 (show ¬(n:Int)<(n:Int) by omega),Af,List.append_nil];exact⟨_,rfl⟩
 |x::l,k+1,p,acc,hd,hp,hk,ha,hv=>by
  simp only[Zf1] at hk ha;rw[Jp] at hd;obtain⟨x1,x2,x3⟩:=hv x (by simp);obtain⟨t1,t2⟩:=toN x1.2 x2;have h4:=congrArg List.length hd;have hd2:=hd;simp only[Rw,Zj1] at hd2;obtain⟨n1,n2⟩:=Vl hd2 t2 (show b.length<=9000 by omega);have hl:(C6 x.rows).1.length<=5000/\p+(Rw x).length<=b.length/\(Rw x).length=(Av 9 x.n.toNat).length+(Av 5 (C6 x.rows).1.length++(C6 x.rows).1).length:=by simp only[Rw,Za2,Zh1] at h4 ⊢;refine⟨?_,?_,trivial⟩<;>omega
  rw[<-Zj1] at n2;obtain⟨v1,v2⟩:=Up n2 (by omega) (show b.length<=9000 by omega);rw[Nat.add_assoc,<-hl.2.2] at v1 v2;obtain⟨q,ih⟩:=Bm0 (e:=e) (pos:=pos) hb hn l k (p+(Rw x).length) (acc++[x]) v2 hl.2.1 (by omega) (by simp;omega) λy hy=>hv y (by simp[hy]);refine⟨q,?_⟩;rw[A0];simp only[Ku,Ze1 (show(acc.length:Int)<(n:Int) by omega),Ah,n1,Zt1,Af,v1,Zc1,Bmn x1.1 x3 hl.1,decide_true,chk,Ze1 (show acc.length+1<=Ag by simp[Ag];omega),t1];rw[Be (n:=(acc.length:Int)+1) (by simp[inI];omega),show(acc.length:Int)+1=((acc.length+1:Nat):Int) by omega];rw[Zh1,Zj1] at ih;exact ih
theorem Btp{o:OutS}(m:Nat)(hm : 100<m)(hb:Apk o)(ho:(Il o).2=0)(hl:(Bn o).length<=5000):Hk m (Bn o)=some (o,0):=by
 obtain⟨e1,e2,e3,e4,_⟩:=Aaf ho;obtain⟨a1,a2,a3,a4,a5⟩:=P0 e1;obtain⟨t1,t2⟩:=toN hb.2.1 a1;obtain⟨u1,u2⟩:=toN hb.2.2.1 a3;obtain⟨n1,n2⟩:=Vl (b:=Bn o) (p:=0) (show List.drop 0 (Bn o)=Av 9 o.e.toNat++(Av 9 o.pos.toNat++(Av 9 o.l.length++Gu o.l)) by simp only[Bn,Zq1,Zj1]) t2 (by omega);obtain⟨n3,n4⟩:=Vl n2 u2 (by omega);obtain⟨n5,n6⟩:=Vl n4 (by omega) (by omega);have h6:=congrArg List.length n6;simp only[Hk];rw[show Qx (Bn o) 0=_ from n1];simp only[Zc1,Zt1,Af,n3,n5,t1,u1];rw[Zd1 (show ¬(50:Int)<(o.l.length:Int) by omega),Af];have hw:(Bn o).length=(Av 9 o.e.toNat).length+((Av 9 o.pos.toNat).length+((Av 9 o.l.length).length+(Gu o.l).length)):=by simp only[Bn,Zh1];omega
 obtain⟨q,h⟩:=Bm0 (e:=o.e) (pos:=o.pos) hl a5 o.l m _ [] n6 (by omega) (by omega) (by simp) λx hx=>⟨hb.2.2.2 x hx,e2 x hx,e3 x hx⟩;refine h.trans ?_;have hs:Il o=(Bn o,0):=Prod.ext e4 ho;simp only[doX];rw[Zf2,show OutS.mk o.e o.pos o.l=o from rfl,Anl hb,hs,Zc1];simp only[decide_true,Zt1,Af,Akc,Jm,Zc1]
theorem Bi0{o:OutS}(hb:Apk o)(ho:(Il o).2=0)(hl:(Bn o).length<=5000):A3h (Bn o)=some (o,0):=Btp 10000 (by omega) hb ho hl
theorem Bog{b:Str}(hb:b.length<=5000):∃o f,A77 b=some (o,f)/\A3h b=some (o,f)/\Am4 b o f:=by
 obtain⟨o,f,h1,h2⟩:=Bl2 (b:=b) (by omega);obtain⟨p,g,h3,h4⟩:=Bhj hb;rcases h2 with ⟨rfl,rfl⟩|⟨rfl,ho,he⟩
 ·rcases h4 with ⟨rfl,rfl⟩|⟨rfl,hp,he⟩
  ·exact⟨_,_,h1,h3,.inl ⟨rfl,rfl⟩⟩
  ·have hs:(Il p).2=0:=by rw[he]
   have hw:Bn p=b:=by rw[<-(Aaf hs).2.2.2.1,he]
   have:=Box hp hs (by rw[hw];omega);rw[hw] at this;exact⟨p,0,this,h3,.inr ⟨rfl,hp,he⟩⟩
 ·have hs:(Il o).2=0:=by rw[he]
  have hw:Bn o=b:=by rw[<-(Aaf hs).2.2.2.1,he]
  have:=Bi0 ho hs (by rw[hw];omega);rw[hw] at this;exact⟨o,0,h1,this,.inr ⟨rfl,ho,he⟩⟩
theorem Anz{a b:List Val}{kx:Ex->Tr->Option Bool}(hl:a.length<=4000)(he:a.length=b.length)(h1:∀i,kx .ret (a,b,false,(a.length:Int),i)=some false)(h2:kx (.exit 0) (a,b,false,(a.length:Int),(a.length:Int))=some true):∀(k i:Nat),i<=a.length->a.length-i<k ->
  Aj (λrec=>Tv rec kx) k (a,b,false,(a.length:Int),(i:Int))=some (decide (a.drop i=b.drop i))
 |0,_,_,h=>by omega
 |k+1,i,hi,hk=>by
  have hln:ln a.length:=by simp[ln];omega
  rw[A0];by_cases h:i<a.length
  ·have hb:i<b.length:=by omega
   simp only[Tv,Cb h,Ah,Au h,Au hb,chk,Aq (c :=.val) h,Aq (c :=.val) hb,Ao h hln];rw[List.drop_eq_getElem_cons h,List.drop_eq_getElem_cons hb];by_cases hv:a[i]=b[i]
   ·rw[Ze1 hv];refine(Anz hl he h1 h2 k (i+1) h (by omega)).trans ?_;exact congrArg some (Zy1.2 ⟨λe=>by rw[hv,e],λe=>(List.cons.inj e).2⟩)
   ·rw[Zd1 hv];refine(h1 _).trans ?_;exact congrArg some (Zd1 λe=>hv (List.cons.inj e).1).symm
  ·have:i=a.length:=by omega
   subst this;simp only[Tv,Ds,Af,h2];rw[Zc2,he,Zc2];rfl
theorem Bt7{a b:List Val}(m:Nat)(hm : 4000<m)(hl:a.length<=4000):O2 m (a,b)=some (decide (a=b)):=by
 simp only[O2];by_cases he:a.length=b.length
 ·rw[Ze1 (show(a.length:Int)=(b.length:Int) by omega)];have:=Anz (kx:=λe vz=>match vz with|(_,_,v7,_,_)=>match e with
   |.ret=>some v7
   |.exit 0=>some true
   |_=>none) hl he (λ_=>rfl) rfl m 0 (by omega) (by omega)
  rw[Zq1,Zq1] at this;exact this
 ·rw[Zd1 (show ¬(a.length:Int)=(b.length:Int) by omega),Zd1 (λe=>he (by rw[e]))];rfl
theorem Bpw{a b:List Val}(hl:a.length<=4000):Bou a b=some (decide (a=b)):=Bt7 5000 (by omega) hl
theorem Ayr{a b:OutS}{x y:ResS}{q:Int}{kx:Ex->Uq->Option Bool}(hx:∀r,r∈x.rows->r.length<=4000)(hl:x.rows.length<=4000)(he:x.rows.length=y.rows.length):∀(k i:Nat),i<=x.rows.length->x.rows.length-i<k ->
  (x.rows.drop i=y.rows.drop i->Aj (λrec=>Pr rec kx) k (false,a.l,(a.l.length:Int),q,(x.rows.length:Int),(i:Int),b,x,y)=kx (.exit 2) (false,a.l,(a.l.length:Int),q,(x.rows.length:Int),(x.rows.length:Int),b,x,y)) /\
  (¬x.rows.drop i=y.rows.drop i->∃j,Aj (λrec=>Pr rec kx) k (false,a.l,(a.l.length:Int),q,(x.rows.length:Int),(i:Int),b,x,y)=kx .ret (false,a.l,(a.l.length:Int),q,(x.rows.length:Int),j,b,x,y))
 |0,_,_,h=>by omega
 |k+1,i,hi,hk=>by
  have hln:ln x.rows.length:=by simp[ln];omega
  rw[A0];by_cases h:i<x.rows.length
  ·have hb:i<y.rows.length:=by omega
   simp only[Pr,Cb h,Ah,Au h,Au hb,chk,Aq (c :=.vals) h,Aq (c :=.vals) hb,Ao h hln,Bpw (hx _ (List.getElem_mem h)),Zc1];rw[List.drop_eq_getElem_cons h,List.drop_eq_getElem_cons hb];by_cases hv:x.rows[i]=y.rows[i]
   ·rw[Ze1 hv];obtain⟨i1,i2⟩:=Ayr (a:=a) (b:=b) (q:=q) (kx:=kx) hx hl he k (i+1) h (by omega);exact⟨λe=>i1 (List.cons.inj e).2,λe=>i2 λe2=>e (by rw[hv,e2])⟩
   ·rw[Zd1 hv];exact⟨λe=>absurd (List.cons.inj e).1 hv,λ_=>⟨_,rfl⟩⟩
  ·have:i=x.rows.length:=by omega
   subst this;refine⟨λ_ =>?_,λe=>absurd (by rw[Zc2,he,Zc2]) e⟩;simp only[Pr,Ds,Af]
deriving instance DecidableEq for ResS,OutS
def tsK(e:Ex)(vz:Um):Option Bool:=match vz with
 |(a,_,_,_,_)=>match e with|.ret=>some a|.exit 0=>some true|_=>none
def Ae3(r:ResS):Prop:=r.rows.length<=4000/\∀q,q∈r.rows->q.length<=4000
theorem A1k{a b:OutS}(m:Nat)(hm : 4000<m)(hl:a.l.length<=4000)(he:a.l.length=b.l.length)(hx:∀r,r∈a.l->Ae3 r):∀(k i:Nat),i<=a.l.length->a.l.length-i<k ->
  Aj (λrec=>I3 m rec tsK) k (false,a.l,(a.l.length:Int),(i:Int),b)=some (decide (a.l.drop i=b.l.drop i))
 |0,_,_,h=>by omega
 |k+1,i,hi,hk=>by
  have hln:ln a.l.length:=by simp[ln];omega
  rw[A0];by_cases h:i<a.l.length
  ·have hb:i<b.l.length:=by omega
   obtain⟨r1,r2⟩:=hx _ (List.getElem_mem h);have no:¬a.l[i]=b.l[i]->some false=some (decide (a.l.drop i=b.l.drop i)):=λhv=>by rw[List.drop_eq_getElem_cons h,List.drop_eq_getElem_cons hb];exact congrArg some (Zd1 λe=>hv (List.cons.inj e).1).symm
   simp only[I3,Cb h,Ah,Au h,Au hb,chk,Aq (c :=.res) h,Aq (c :=.res) hb,Ao h hln];by_cases hn:a.l[i].n=b.l[i].n
   ·rw[Ze1 hn];by_cases hr:a.l[i].rows.length=b.l[i].rows.length
    ·rw[Ze1 (show(a.l[i].rows.length:Int)=(b.l[i].rows.length:Int) by omega)];simp only[Zt1,Af];obtain⟨i1,i2⟩:=Ayr (a:=a) (b:=b) (x:=a.l[i]) (y:=b.l[i]) (q:=(i:Int)) (kx:=λe vz=>match vz with|(d,f,g,o,_,_,p,_,_)=>match e with
      |.ret=>tsK .ret (d,f,g,o,p)
      |.exit 2=>Aj (λrec=>I3 m rec tsK) k (d,f,g,(wr .i64 (o+1)),p)
      |_=>none) r2 r1 hr m 0 (by omega) (by omega)
     rw[Zq1,Zq1] at i1 i2;by_cases hv:a.l[i].rows=b.l[i].rows
     ·refine(i1 hv).trans ?_;show Aj (λrec=>I3 m rec tsK) k (false,a.l,(a.l.length:Int),wr .i64 ((i:Int)+1),b)=_;rw[Ao h hln];refine(A1k m hm hl he hx k (i+1) h (by omega)).trans ?_;rw[List.drop_eq_getElem_cons h,List.drop_eq_getElem_cons hb];have hab:a.l[i]=b.l[i]:=by generalize a.l[i]=x at *;generalize b.l[i]=y at *;cases x;cases y;simp only at hn hv;rw[hn,hv]
      exact congrArg some (Zy1.2 ⟨λe=>by rw[hab,e],λe=>(List.cons.inj e).2⟩)
     ·obtain⟨j,h3⟩:=i2 hv;exact h3.trans (no λe=>hv (by rw[e]))
    ·rw[Zd1 (show ¬(a.l[i].rows.length:Int)=(b.l[i].rows.length:Int) by omega)];exact no λe=>hr (by rw[e])
   ·rw[Zd1 hn];exact no λe=>hn (by rw[e])
  ·have:i=a.l.length:=by omega
   subst this;simp only[I3,Ds,Af];rw[Zc2,he,Zc2];rfl
theorem Btd{a b:OutS}(m:Nat)(hm : 4000<m)(hl:a.l.length<=4000)(hx:∀r,r∈a.l->Ae3 r):Pq m (a,b)=some (decide (a=b)):=by
 have u:Pq m (a,b)=cond (!decide (a.e=b.e)) (some false) (cond (!decide (a.pos=b.pos)) (some false) (cond (!decide ((a.l.length:Int)=(b.l.length:Int))) (some false) (Aj (λrec=>I3 m rec tsK) m (false,a.l,(a.l.length:Int),0,b)))):=rfl;rw[u];by_cases h1:a.e=b.e
 ·by_cases h2:a.pos=b.pos
  ·by_cases h3:a.l.length=b.l.length
   ·rw[Ze1 h1,Ze1 h2,Ze1 (show(a.l.length:Int)=(b.l.length:Int) by omega)];have:=A1k (a:=a) (b:=b) m hm hl h3 hx m 0 (by omega) (by omega);rw[Zq1,Zq1] at this;refine this.trans (congrArg some (Zy1.2 ⟨λe =>?_,λe=>by rw[e]⟩));cases a;cases b;simp only at h1 h2 e;rw[h1,h2,e]
   ·rw[Ze1 h1,Ze1 h2,Zd1 (show ¬(a.l.length:Int)=(b.l.length:Int) by omega),Zd1 (show ¬a=b fromλe=>h3 (by rw[e]))];rfl
  ·rw[Ze1 h1,Zd1 h2,Zd1 (show ¬a=b fromλe=>h2 (by rw[e]))];rfl
 ·rw[Zd1 h1,Zd1 (show ¬a=b fromλe=>h1 (by rw[e]))];rfl
theorem Br9{a b:OutS}(hl:a.l.length<=4000)(hx:∀r,r∈a.l->Ae3 r):Bb1 a b=some (decide (a=b)):=Btd 5000 (by omega) hl hx
theorem Bt5{a b:Val}(h:¬a=b):∃r,Bpo a b=some r/\r≠0:=by simp only[Bpo,Aff];rw[Zd1 h];cases decide (a.kind<b.kind)<;>cases decide (a.kind=b.kind)<;>cases decide (a.n<b.n)<;>cases decide (a.n=b.n)<;>cases Op.bytesLess a.s b.s<;>first|exact⟨-1,rfl,by decide⟩|exact⟨1,rfl,by decide⟩
def drK(e:Ex)(v:Tc):Option Int:=match v with
 |(v3,v4,v5)=>match e with
  |.exit 0 =>
  let j1:=λ(p4:Bool) =>
   cond (p4) (
   chk (inb v5 v3.length) (
    chk (inb v5 v4.length) (
    (Bpo (at' .val v3 v5) (at' .val v4 v5)).bind λx =>some x))) (
   cond (decide (v5<(v4.length:Int))) (
    some (-1)) (
    cond (decide (v5<(v3.length:Int))) (
    some 1) (
    some 0)))
  cond (decide (v5<(v3.length:Int))) (
   j1 (decide (v5<(v4.length:Int)))) (
   j1 false)
  |_=>none
theorem Bc0{a b:List Val}(ha:a.length<=4000)(hb:b.length<=4000):∀(k i:Nat),i<=a.length->i<=b.length->a.length-i<k->∃r,Aj (λrec=>Iy rec drK) k (a,b,(i:Int))=some r/\(r=0↔a.drop i=b.drop i)
 |0,_,_,_,h=>by omega
 |k+1,i,hi,hj,hk=>by
  have hln:ln a.length:=by simp[ln];omega
  rw[A0];by_cases h:i<a.length
  ·by_cases g:i<b.length
   ·rw[List.drop_eq_getElem_cons h,List.drop_eq_getElem_cons g];by_cases hv:a[i]=b[i]
    ·obtain⟨r,h1,h2⟩:=Bc0 ha hb k (i+1) h g (by omega);refine⟨r,?_,h2.trans ⟨λe=>by rw[hv,e],λe=>(List.cons.inj e).2⟩⟩;simp only[Iy,Cb h,Cb g,Ah,Au h,Au g,chk,Aq (c :=.val) h,Aq (c :=.val) g,Ze1 hv,Ao h hln];exact h1
    ·obtain⟨r,h1,h2⟩:=Bt5 hv;refine⟨r,?_,⟨λe=>absurd e h2,λe=>absurd (List.cons.inj e).1 hv⟩⟩;simp only[Iy,Cb h,Cb g,Ah,Au h,Au g,chk,Aq (c :=.val) h,Aq (c :=.val) g,Zd1 hv,Af,drK,h1,Zc1]
   ·have e:i=b.length:=by omega
    refine⟨1,?_,⟨λe=>absurd e (by decide),λe2 =>?_⟩⟩
    ·simp only[Iy,Cb h,Zd1 (show ¬(i:Int)<(b.length:Int) by omega),Ah,Af,drK]
    ·have:=congrArg List.length e2;simp only[Za2] at this;omega
  ·by_cases g:i<b.length
   ·refine⟨-1,?_,⟨λe=>absurd e (by decide),λe2 =>?_⟩⟩
    ·simp only[Iy,Cb g,Zd1 (show ¬(i:Int)<(a.length:Int) by omega),Ah,Af,drK]
    ·have:=congrArg List.length e2;simp only[Za2] at this;omega
   ·refine⟨0,?_,⟨λ_ =>?_,λ_=>rfl⟩⟩
    ·simp only[Iy,Zd1 (show ¬(i:Int)<(a.length:Int) by omega),Zd1 (show ¬(i:Int)<(b.length:Int) by omega),Af,drK]
    ·rw[Zk1 (by omega),Zk1 (by omega)]
theorem Bwg{a b:List Val}(m:Nat)(hm : 4000<m)(ha:a.length<=4000)(hb:b.length<=4000):∃r,Yg m (a,b)=some r/\(r=0↔a=b):=by obtain⟨r,h1,h2⟩:=Bc0 ha hb m 0 (by omega) (by omega) (by omega);rw[Zq1,Zq1] at h2;exact⟨r,h1,h2⟩
theorem Bsa{a b:List Val}(ha:a.length<=4000)(hb:b.length<=4000):∃r,Bl1 a b=some r/\(r=0↔a=b):=Bwg 10000 (by omega) ha hb
theorem A1v{a b:List (List Val)}{kx:Ex->On->Option Bool}(hl:a.length<=4000)(he:a.length=b.length)(ha:∀r,r∈a->r.length<=4000)(hb:∀r,r∈b->r.length<=4000)(h1:∀i,kx .ret (a,b,false,i)=some false)(h2:∀i,kx (.exit 0) (a,b,false,i)=some true):∀(k i:Nat),i<=a.length->a.length-i<k ->
  Aj (λrec=>Mu rec kx) k (a,b,false,(i:Int))=some (decide (a.drop i=b.drop i))
 |0,_,_,h=>by omega
 |k+1,i,hi,hk=>by
  have hln:ln a.length:=by simp[ln];omega
  rw[A0];by_cases h:i<a.length
  ·have g:i<b.length:=by omega
   obtain⟨r,r1,r2⟩:=Bsa (ha _ (List.getElem_mem h)) (hb _ (List.getElem_mem g));simp only[Mu,Cb h,Ah,Au h,Au g,chk,Aq (c :=.vals) h,Aq (c :=.vals) g,Ao h hln,r1,Zc1];rw[List.drop_eq_getElem_cons h,List.drop_eq_getElem_cons g];by_cases hv:a[i]=b[i]
   ·rw[Ze1 (r2.2 hv)];refine(A1v hl he ha hb h1 h2 k (i+1) h (by omega)).trans ?_;exact congrArg some (Zy1.2 ⟨λe=>by rw[hv,e],λe=>(List.cons.inj e).2⟩)
   ·rw[Zd1 (λe=>hv (r2.1 e))];refine(h1 _).trans ?_;exact congrArg some (Zd1 λe=>hv (List.cons.inj e).1).symm
  ·have:i=a.length:=by omega
   subst this;simp only[Mu,Ds,Af,h2];rw[Zc2,he,Zc2];rfl
theorem Brk{a b:List (List Val)}(m:Nat)(hm : 4000<m)(hl:a.length<=4000)(ha:∀r,r∈a->r.length<=4000)(hb:∀r,r∈b->r.length<=4000):K7 m (a,b)=some (decide (a=b)):=by
 simp only[K7];by_cases he:a.length=b.length
 ·rw[Ze1 (show(a.length:Int)=(b.length:Int) by omega)];have:=A1v (kx:=λe vz=>match vz with|(_,_,v6,_)=>match e with
   |.ret=>some v6
   |.exit 0=>some true
   |_=>none) hl he ha hb (λ_=>rfl) (λ_=>rfl) m 0 (by omega) (by omega)
  rw[Zq1,Zq1] at this;exact this
 ·rw[Zd1 (show ¬(a.length:Int)=(b.length:Int) by omega),Zd1 (show ¬a=b fromλe=>he (by rw[e]))];rfl
theorem Bis{a b:List (List Val)}(hl:a.length<=4000)(ha:∀r,r∈a->r.length<=4000)(hb:∀r,r∈b->r.length<=4000):A8g a b=some (decide (a=b)):=Brk 10000 (by omega) hl ha hb
theorem Bnk{a b:ResS}(ha:Ae3 a)(hb:Ae3 b):A9s a b=some (decide (a=b)):=by
 simp only[A9s,Y4];by_cases h:a.n=b.n
 ·rw[Ze1 h,Ah,Bis ha.1 ha.2 hb.2];refine congrArg some (Zy1.2 ⟨λe =>?_,λe=>by rw[e]⟩);cases a;cases b;simp only at h e;rw[h,e]
 ·rw[Zd1 h,Zd1 (show ¬a=b fromλe=>h (by rw[e]))];rfl
def dsK(e:Ex)(vz:Uj):Option Bool:=match vz with
 |(v2,_,_,_)=>match e with|.ret=>some v2|.exit 0=>some true|_=>none
theorem A9k{a b:OutS}(hl:a.l.length<=4000)(he:a.l.length=b.l.length)(ha:∀r,r∈a.l->Ae3 r)(hb:∀r,r∈b.l->Ae3 r):∀(k i:Nat),i<=a.l.length->a.l.length-i<k ->
  Aj (λrec=>Od rec dsK) k (false,(i:Int),a,b)=some (decide (a.l.drop i=b.l.drop i))
 |0,_,_,h=>by omega
 |k+1,i,hi,hk=>by
  have hln:ln a.l.length:=by simp[ln];omega
  rw[A0];by_cases h:i<a.l.length
  ·have g:i<b.l.length:=by omega
   simp only[Od,Cb h,Ah,Au h,Au g,chk,Aq (c :=.res) h,Aq (c :=.res) g,Ao h hln,Bnk (ha _ (List.getElem_mem h)) (hb _ (List.getElem_mem g)),Zc1];rw[List.drop_eq_getElem_cons h,List.drop_eq_getElem_cons g];by_cases hv:a.l[i]=b.l[i]
   ·rw[Ze1 hv];refine(A9k hl he ha hb k (i+1) h (by omega)).trans ?_;exact congrArg some (Zy1.2 ⟨λe=>by rw[hv,e],λe=>(List.cons.inj e).2⟩)
   ·rw[Zd1 hv];exact congrArg some (Zd1 λe=>hv (List.cons.inj e).1).symm
  ·have:i=a.l.length:=by omega
   subst this;simp only[Od,Ds,Af];rw[Zc2,he,Zc2];rfl
theorem Bwm{a b:OutS}(m:Nat)(hm : 4000<m)(hl:a.l.length<=4000)(ha:∀r,r∈a.l->Ae3 r)(hb:∀r,r∈b.l->Ae3 r):Oc m (a,b)=some (decide (a=b)):=by
 have u:Oc m (a,b)=cond (!decide (a.e=b.e)) (some false) (cond (!decide (a.pos=b.pos)) (some false) (cond (!decide ((a.l.length:Int)=(b.l.length:Int))) (some false) (Aj (λrec=>Od rec dsK) m (false,0,a,b)))):=rfl;rw[u];by_cases h1:a.e=b.e
 ·by_cases h2:a.pos=b.pos
  ·by_cases h3:a.l.length=b.l.length
   ·rw[Ze1 h1,Ze1 h2,Ze1 (show(a.l.length:Int)=(b.l.length:Int) by omega)];have:=A9k (a:=a) (b:=b) hl h3 ha hb m 0 (by omega) (by omega);rw[Zq1,Zq1] at this;refine this.trans (congrArg some (Zy1.2 ⟨λe =>?_,λe=>by rw[e]⟩));cases a;cases b;simp only at h1 h2 e;rw[h1,h2,e]
   ·rw[Ze1 h1,Ze1 h2,Zd1 (show ¬(a.l.length:Int)=(b.l.length:Int) by omega),Zd1 (show ¬a=b fromλe=>h3 (by rw[e]))];rfl
  ·rw[Ze1 h1,Zd1 h2,Zd1 (show ¬a=b fromλe=>h2 (by rw[e]))];rfl
 ·rw[Zd1 h1,Zd1 (show ¬a=b fromλe=>h1 (by rw[e]))];rfl
theorem A3l{a b:OutS}(hl:a.l.length<=4000)(ha:∀r,r∈a.l->Ae3 r)(hb:∀r,r∈b.l->Ae3 r):A9g a b=some (decide (a=b)):=Bwm 10000 (by omega) hl ha hb
end Go.Proofs.YtblaahgjaopdnaaGreatDoor
