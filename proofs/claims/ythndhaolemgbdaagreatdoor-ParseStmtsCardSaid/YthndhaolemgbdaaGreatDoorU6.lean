/- Texts of the proof,one behind the other: Ws,Pi,Vc,Da,Rp,Ga,Gb,Gc,Gd,Ru,Vt,Nf,Uq,Us,Ya,Yb,Qf,Qg,Qh,Qi. -/
import Derived.Test.YthndhaolemgbdaaGreatDoorU5
set_option linter.all false
namespace Go.Proofs.YthndhaolemgbdaaGreatDoor
open Go.Ax
theorem C8{R:Type}{out t:Str}{f g:Str->Option R}(h:∀x:Str,x.length<=100000000000->f x=g x):(app out t).bind f=(app out t).bind g:=by cases hx:app out t with|none=>rfl|some x=>exact h x (Awi hx).1
theorem P0{R:Type}(i:Nat)(acc t:Str)(c:Str->Option R):cond (decide ((0:Int)<(i:Int))) ((app acc [44,32]).bind λx=>(app x t).bind c) ((app acc t).bind c)=(app acc ((if i=0 then [] else [44,32])++t)).bind c:=by
 by_cases h:i=0
 ·rw[Zd1 (by omega),if_pos h];rfl
 ·rw[Ze1 (by omega),if_neg h,Aa,C4]
theorem fl1(a:Str):([a]:List Str).flatten=a:=by simp
theorem fl2(a b:Str):([a,b]:List Str).flatten=a++b:=by simp
theorem fl3(a b c:Str):([a,b,c]:List Str).flatten=a++(b++c):=by simp
theorem fl5(a b c d e:Str):([a,b,c,d,e]:List Str).flatten=a++(b++(c++(d++e))):=by simp
theorem Bhe{V R α:Type}{step:(V->Option R)->V->Option R}(l:List α)(f : α->Str)(st:Nat->Str->V)(c:Str->Option R)
  (hs:∀i (hi:i<l.length) (acc:Str) rec,step rec (st i acc)=(app acc (f l[i])).bind λx=>rec (st (i+1) x))
  (he:∀acc rec,step rec (st l.length acc)=c acc) (k:Nat) (hk:l.length<k) (out:Str) (ho:out.length<=100000000000):Ak step k (st 0 out)=(app out (l.map f).flatten).bind c:=by
 refine(J2 l.length st (λ_ acc=>acc.length<=100000000000) (λi acc=>(app acc ((l.drop i).map f).flatten).bind c) (λi hi acc ha rec hr =>?_) (λacc ha rec =>?_) k 0 out (Nat.zero_le _) (by omega) ho).trans (by rw[Zq1])
 ·rw[hs i hi acc rec,An hi,Zw1,Zz1,<-C4];exact C8 λx hx=>hr x hx
 ·rw[he,Zc2,List.map_nil,List.flatten_nil,Aiz ha];rfl
theorem Buk{out r:Str}(h:app out []=some r):some out=some r:=by have:=(Awi h).2;rw[List.append_nil] at this;rw[this]
def Bg0(R:Type):Px R:=pxO [(39,cA Om),(40,Am Gp F7 Fi),(41,Am bstr_si Ajj Ir)] [] [] []
def Amu(x:HV [.sv .expr]):Option (HV [.str,.int .i64]):=match x with
 |e =>
 cond (!(Bl e 30)) (
  some ([],2)) (
  (Fi (e,[])).bind λx =>
  (Ir x).bind λx1 =>some (x1,0))
theorem Bem:FO 14 [.sv .expr] [.str,.int .i64] (Amu):=fR (px:=Bg0 _) (n:=0) Tryz.func14 rfl (λ_ H=>⟨lv H (c1 H Ox (l1 H Pv (l1 H A6g Ah))) Ae Ab,Aj⟩) λ_=>by kernel_rfl
def A0t(e:Xpr):Option (Str×Int):=cond (Bl e 30) (cond (okx e) ((app [] (etx e)).bind λt=>some (t,0)) none) (some ([],2))
def A8v:FT [.sv .expr] [.str,.int .i64]:=λx=>A0t x
theorem Blq:FO 14 [.sv .expr] [.str,.int .i64] A8v :=.fin0 Bem λe r hb hx=>by
 have hx:A0t e=some r:=hx;rw[<-hx];simp only[Amu,A0t];simp only[A0t] at hx;cases hr:Bl e 30 with
 |false=>rfl
 |true =>rw[hr] at hx;cases ho:okx e with|false=>rw[ho] at hx;cases hx|true =>simp only[we ho,Zt1,Af,Aa];rfl
def Avk(l:List Str):Bool:=decide (l.length<=1000000)&&decide ((Lib.join l [44,32]).length<=1000000000)
def nmT(l:List Str):Str:=[40]++(Lib.join l [44,32]++[41])
def Vj:Sig:=⟨2,[(1,.sl .str false)],[(0,.ptr 0 0)],[(0,.bld 82)],1,1,0,[],[]⟩
def Vz:Sig:=⟨0,[],[],[(0,.bld 82)],1,1,0,[],[]⟩
abbrev Az3:=List Str×List UInt8
abbrev Ay9:=List UInt8
def Bea(R:Type):Px R:=pxO [(105,cA Avt),(49,Am Ca B8 Aq)] [] [] []
def Ue(x:Az3):Option (Ay9):=match x with
 |(l,out) =>
 (A8w l [44,32]).bind λx =>
  (Aq ([[40],x,[41]],out)).bind λx1 =>
  some x1
theorem A2k:FM 50 Vj Vz (Ue):=fRL (px:=Bea _) (n:=0) Tryz.func50 rfl (λ_ H=>⟨lv H (c1 H Bkd (l1 H Cs Ah)) Ae Ab,Aj⟩) λ(_,_)=>by kernel_rfl
def Br7(l:List Str)(out:Str):Option Str:=cond (Avk l) (app out (nmT l)) none
def Oq:Az3->Option Ay9:=λx=>Br7 x.1 x.2
theorem Bg3(l:List Str)(out:Str)(h:Avk l=true):Ue (l,out)=app out (nmT l):=by simp only[Avk,Zb1,Zg1] at h;have hj:A8w l [44,32]=some (Lib.join l [44,32]):=if_pos h;simp only[Ue,hj,ww,Zc1,It,fl3];rfl
theorem Arq:FM 50 Vj Vz Oq :=.fin0 A2k λ(l,out) r hb hx=>by have hx:cond (Avk l) (app out (nmT l)) none=some r:=hx;cases ho:Avk l with|false=>rw[ho] at hx;cases hx|true =>rw[ho] at hx;exact(Bg3 l out ho).trans hx
theorem wn{l:List Str}(h:Avk l=true)(out:Str):Oq (l,out)=app out (nmT l):=by show cond (Avk l) _ _=_;rw[h];rfl
def Afx(c:Col):Str:=c.name++([32]++at' .str Zm c.kind)++cond c.notNull [32,78,79,84,32,78,85,76,76] []++cond c.unique [32,85,78,73,81,85,69] []++cond (decide (c.ref=[])) [] ([32,82,69,70,69,82,69,78,67,69,83,32]++c.ref)
def Awd:Sig:=⟨2,[(1,.sv .col)],[(0,.ptr 0 0)],[(0,.bld 82)],1,1,0,[],[]⟩
def Auh:Sig:=⟨0,[],[],[(0,.bld 82)],1,1,0,[],[]⟩
abbrev Bj1:=Col×List UInt8
abbrev Bfx:=List UInt8
def Bmk(R:Type):Px R:=pxO [(49,Am Ca B8 Aq)] [] [] []
def Ad0(x:Bj1):Option (Bfx):=match x with
 |(c,out) =>
 chk (inb c.kind 6) (
  (Aq ([c.name,[32],(at' .str Zm c.kind)],out)).bind λx =>
  let j1:=λ(q:List UInt8) =>
   let j:=λ(q1:List UInt8) =>
   cond (!decide (c.ref=[])) (
    (Aq ([[32,82,69,70,69,82,69,78,67,69,83,32],c.ref],q1)).bind λx3 =>
    some x3) (
    some q1)
   cond (c.unique) (
   (Aq ([[32,85,78,73,81,85,69]],q)).bind λx2 =>j x2) (
   j q)
  cond (c.notNull) (
   (Aq ([[32,78,79,84,32,78,85,76,76]],x)).bind λx1 =>
   j1 x1) (
   j1 x))
theorem Bi9:FM 103 Awd Auh (Ad0):=fRL (px:=Bmk _) (n:=0) Tryz.func103 rfl (λ_ H=>⟨lv H (l1 H Cs Ah) Ae Ab,Aj⟩) λ(_,_)=>by kernel_rfl
def Bvv(c:Col)(out:Str):Option Str:=cond (inb c.kind 6) (app out (Afx c)) none
def Avg:Bj1->Option Bfx:=λx=>Bvv x.1 x.2
theorem Bq4(c:Col)(out:Str)(h:inb c.kind 6=true):Ad0 (c,out)=app out (Afx c):=by simp only[Ad0,h,chk,Aa,ww,fl1,fl2,fl3,Afx];cases c.notNull<;>cases c.unique<;>cases decide (c.ref=[])<;>simp only[Aa,Af,Zt1,Zs1,It,I5,List.append_nil,Zj1]
theorem Bod:FM 103 Awd Auh Avg :=.fin0 Bi9 λ(c,out) r hb hx=>by have hx:cond (inb c.kind 6) (app out (Afx c)) none=some r:=hx;cases ho:inb c.kind 6 with|false=>rw[ho] at hx;cases hx|true =>rw[ho] at hx;exact(Bq4 c out ho).trans hx
theorem wc{c:Col}(h:inb c.kind 6=true)(out:Str):Avg (c,out)=app out (Afx c):=by show cond (inb c.kind 6) _ _=_;rw[h];rfl
def whT(s:Stm):Str:=cond s.has ([32,87,72,69,82,69,32]++etx s.whr) []
def okW(s:Stm):Bool := !s.has||okx s.whr
def W4:Sig:=⟨2,[(1,.sv .stmt)],[(0,.ptr 0 0)],[(0,.bld 82)],1,1,0,[],[]⟩
def Xi:Sig:=⟨0,[],[],[(0,.bld 82)],1,1,0,[],[]⟩
abbrev Ax6:=Stm×List UInt8
abbrev A0i:=List UInt8
def A9y(R:Type):Px R:=pxO [(49,Am Ca B8 Aq),(40,Am Gp F7 Fi)] [] [] []
def S6(x:Ax6):Option (A0i):=match x with
 |(s,out) =>
 cond (s.has) (
  (Aq ([[32,87,72,69,82,69,32]],out)).bind λx =>
  (Fi ((Fb s.whr),x)).bind λx1 =>some x1) (
  some out)
theorem A3r:FM 55 W4 Xi (S6):=fRL (px:=A9y _) (n:=0) Tryz.func55 rfl (λ_ H=>⟨lv H (l1 H Cs (l1 H Pv Ah)) Ae Ab,Aj⟩) λ(_,_)=>by kernel_rfl
def Bs0(s:Stm)(out:Str):Option Str:=cond (okW s) (app out (whT s)) none
def Iu:Ax6->Option A0i:=λx=>Bs0 x.1 x.2
theorem Bho(s:Stm)(out r:Str)(h:okW s=true)(hr:app out (whT s)=some r):S6 (s,out)=some r:=by simp only[okW] at h;simp only[whT] at hr;simp only[S6,Ez,ww,fl1];cases hs:s.has with|false =>rw[hs] at hr;exact Buk hr|true =>rw[hs] at h hr;simp only[we (show okx s.whr=true from h),Aa,It,I5];exact hr
theorem Api:FM 55 W4 Xi Iu :=.fin0 A3r λ(s,out) r hb hx=>by have hx:cond (okW s) (app out (whT s)) none=some r:=hx;cases ho:okW s with|false=>rw[ho] at hx;cases hx|true =>rw[ho] at hx;exact Bho s out r ho hx
theorem wh{s:Stm}(h:okW s=true)(out:Str):Iu (s,out)=app out (whT s):=by show cond (okW s) _ _=_;rw[h];rfl
def A4x(e:Xpr):Str:=[44,32,67,72,69,67,75,32]++cond (decide (J9 e.kind=0)) ([40]++(etx e++[41])) (etx e)
def Qz(s:Stm):Str:=[67,82,69,65,84,69,32,84,65,66,76,69,32]++(s.name++[32,40])++Cy Afx s.cols++[44,32,80,82,73,77,65,82,89,32,75,69,89,32]++nmT s.names++(s.l.map A4x).flatten++[41]
def okT(s:Stm):Bool:=s.cols.all (λc=>inb c.kind 6)&&Avk s.names&&s.l.all okx
def I8(s:Stm):Nat:=s.cols.length+s.l.length+s.order.length+s.rows.length+s.sets.length+(s.rows.map List.length).sum+1
def Afa:Sig:=⟨2,[(1,.sv .stmt)],[(0,.ptr 0 0)],[(0,.bld 82)],1,1,0,[],[]⟩
def Aea:Sig:=⟨0,[],[],[(0,.bld 82)],1,1,0,[],[]⟩
abbrev Ax4:=Stm×List UInt8
abbrev U1:=List UInt8
def Aic:Sig:=⟨54,[(25,.sl .expr false),(26,.int .i64),(27,.int .i64)],[(2,.ptr 1 0)],[(0,.bld 82),(1,.fx [.ptr 0 0])],2,1,0,[],[]⟩
abbrev Za:=List Xpr×Int×Int×List UInt8
def T9{R:Type}(rec:Za->Option R)(kx:Ex->Za->Option R)(v:Za):Option R:=match v with
 |(v6,v7,v8,w2) =>
 cond (decide (v8<v7)) (
  chk (inb v8 v6.length) (
  (Aq ([[44,32,67,72,69,67,75,32]],w2)).bind λx5 =>
   cond (decide ((J9 ((at' .expr v6 v8).kind))=0)) (
   (Aq ([[40]],x5)).bind λx6 =>
    (Fi ((at' .expr v6 v8),x6)).bind λx7 =>
    (Aq ([[41]],x7)).bind λx8 =>rec (v6,v7,(wr .i64 (v8+1)),x8)) (
   (Fi ((at' .expr v6 v8),x5)).bind λx9 =>rec (v6,v7,(wr .i64 (v8+1)),x9)))) (
  kx (.exit 0) (v6,v7,v8,w2))
def Ah7:Sig:=⟨20,[(7,.int .i64),(8,.int .i64)],[(0,.ptr 0 0),(2,.fn 102 [.ptr 1 0,.ptr 2 0])],[(0,.bld 82),(1,.fx [.ptr 0 0]),(2,.one (.sv .stmt))],80,80,400,[],[]⟩
abbrev Z6:=Int×Int×List UInt8×Stm
def Ta{R:Type}(rec:Z6->Option R)(kx:Ex->Z6->Option R)(v:Z6):Option R:=match v with
 |(v,v1,w,w1) =>
 cond (decide (v1<v)) (
  let j:=λ(q:List UInt8) =>
  chk (inb v1 w1.cols.length) (
   (Avg ((at' .col w1.cols v1),q)).bind λx2 =>
   rec (v,(wr .i64 (v1+1)),x2,w1))
  cond (decide (0<v1)) (
  (Aq ([[44,32]],w)).bind λx1 =>j x1) (
  j w)) (
  kx (.exit 0) (v,v1,w,w1))
def Xq(R:Type)(_k:Nat):Px R:=pxO [(103,Am Awd Auh Avg)] [] [] []
noncomputable def Aik(R:Type)(k:Nat):Px R:=pxO [(49,Am Ca B8 Aq),(102,Av 120 600 (Xq R k) Tryz.f102)] [] [(1,Ao k Ah7 (Ta))] []
noncomputable def Apd(R:Type)(k:Nat):Px R:=pxO [(49,Am Ca B8 Aq),(50,Am Vj Vz Oq),(94,cA Avl),(40,Am Gp F7 Fi),(51,Av 80 400 (Aik R k) Tryz.f51)] [] [(6,Ao k Aic (T9))] []
def T7(k:Nat)(x:Ax4):Option (U1):=match x with
 |(s,out) =>
 (Aq ([[67,82,69,65,84,69,32,84,65,66,76,69,32],s.name,[32,40]],out)).bind λx =>
  Ak (λrec=>Ta rec (λe vz=>match vz with|(_,_,v4,v5)=>match e with
  |.exit 0 =>
   (Aq ([[44,32,80,82,73,77,65,82,89,32,75,69,89,32]],v4)).bind λx3 =>
   (Oq (v5.names,x3)).bind λx4 =>
    Ak (λrec=>T9 rec (λe vz=>match vz with|(_,_,_,a)=>match e with
    |.exit 0 =>
     (Aq ([[41]],a)).bind λb =>
     some b
    |_=>none)) k (v5.l,(v5.l.length:Int),0,x4)
  |_=>none)) k ((s.cols.length:Int),0,x,s)
theorem A4l(k:Nat):FM 48 Afa Aea (T7 k):=fRL (px:=Apd _ k) (n:=1) Tryz.func48 rfl (λcx H=>by have h2:Lv cx (Xq (U1) k):=lv H (l1 H Bod Ah) Ae Ab;have h1:Lv cx (Aik (U1) k):=lv H (l1 H Cs (As (cR H h2 Tryz.func102 rfl (n:=0) (Aj)) Ah)) Ae Ab;have hlwtable_0:=lO H h1 (b:=lp Tryz.f51 0) (k:=k) (n:=0) (s:=Ah7) (step:=Ta) (λ_ _ _ (_,_,_,_)=>by kernel_rfl) Aj;have h0:Lv cx (Apd (U1) k):=lv H (l1 H Cs (l1 H Arq (c1 H Aw3 (l1 H Pv (As (cR H h1 Tryz.func51 rfl (n:=1) ((Bh Aj hlwtable_0))) Ah))))) Ae Ab;have hlwtable_1:=lO H h0 (b:=lp Tryz.f48 0) (k:=k) (n:=0) (s:=Aic) (step:=T9) (λ_ _ _ (_,_,_,_)=>by kernel_rfl) Aj;exact⟨h0,(Bh Aj hlwtable_1)⟩) λ(_,_)=>by kernel_rfl
def Bqx(s:Stm)(out:Str):Option Str:=cond (okT s) (app out (Qz s)) none
def Aao:Ax4->Option U1:=λx=>Bqx x.1 x.2
theorem Bfr(k:Nat)(s:Stm)(out:Str)(hb:BdStm s)(h:okT s=true)(hk:I8 s<=k):T7 k (s,out)=app out (Qz s):=by
 simp only[okT,Zb1] at h;obtain⟨⟨h1,h2⟩,h3⟩:=h;simp only[I8] at hk;have hc:=Zg2.1 h1;have hl:=Zg2.1 h3;simp only[T7,ww,fl1,fl3];refine(C8 λx hx=>(Le s.cols Afx (λi acc=>((s.cols.length:Int),(i:Int),acc,s)) (λacc=>(app acc ([44,32,80,82,73,77,65,82,89,32,75,69,89,32]++nmT s.names)).bind λx=>(app x (s.l.map A4x).flatten).bind λx=>app x [41]) (λi hi acc rec =>?_) (λacc rec =>?_) k (by omega) x hx)).trans ?_
 ·simp only[Ta,E7 hi,Aa,A5 hi,chk,A8 (c :=.col) hi,wc (hc _ (List.getElem_mem hi)),A1 hi hb.cols.1,ww,fl1];exact P0 i acc (Afx s.cols[i]) _
 ·simp only[Ta,E8,Af,ww,fl1,wn h2];rw[C4];refine C8 λx hx=>Bhe s.l A4x (λi acc=>(s.l,(s.l.length:Int),(i:Int),acc)) (λacc=>app acc [41]) (λi hi acc rec =>?_) (λacc rec =>?_) k (by omega) x hx
  ·simp only[T9,E7 hi,Aa,A5 hi,chk,A8 (c :=.expr) hi,we (hl _ (List.getElem_mem hi)),A1 hi hb.l.1,ww,fl1,A4x];cases decide (J9 s.l[i].kind=0) with|true=>simp only[Aa,C4]|false=>simp only[Af,C4]
  ·simp only[T9,E8,Af,ww,fl1,It]
 ·simp only[I5,Qz,Zj1]
theorem Ba9:FM 48 Afa Aea Aao :=.fin 0 A4l λ(s,out) r hb hx=>⟨I8 s,by
 have hx:cond (okT s) (app out (Qz s)) none=some r:=hx;cases ho:okT s with
 |false=>rw[ho] at hx;cases hx
 |true =>rw[ho] at hx;exact(Bfr (I8 s) s out hb.1 ho (Zn1 _)).trans hx⟩
theorem wt{s:Stm}(h:okT s=true)(out:Str):Aao (s,out)=app out (Qz s):=by show cond (okT s) _ _=_;rw[h];rfl
def Ain(p:Str×Bool):Str:=p.1++cond p.2 [32,68,69,83,67] []
def Bae(s:Stm):Str:=cond (decide (0<=s.most)) ([32,76,73,77,73,84,32]++Ds ⟨3,s.most,[]⟩) []
def obT(s:Stm):Str:=cond (decide (0<(s.order.length:Int))) [32,79,82,68,69,82,32,66,89,32] []
def A5b(s:Stm):Str:=[83,69,76,69,67,84,32]++cond (decide ((s.l.length:Int)=0)) [42] []++Cy etx s.l++([32,70,82,79,77,32]++s.name)++whT s++obT s++Cy Ain (s.order.zip s.desc)++Bae s
def okS(s:Stm):Bool:=s.l.all okx&&okW s&&decide (s.desc.length=s.order.length)
def Yz:Sig:=⟨2,[(1,.sv .stmt)],[(0,.ptr 0 0)],[(0,.bld 82)],1,1,0,[],[]⟩
def Aaa:Sig:=⟨0,[],[],[(0,.bld 82)],1,1,0,[],[]⟩
abbrev Apg:=Stm×List UInt8
abbrev Gx:=List UInt8
def Abo:Sig:=⟨20,[(7,.int .i64),(8,.int .i64)],[(0,.ptr 0 0),(2,.fn 107 [.ptr 1 0,.ptr 2 0])],[(0,.bld 82),(1,.fx [.ptr 0 0]),(2,.one (.sv .stmt))],80,80,600,[],[]⟩
abbrev Nq:=Int×Int×List UInt8×Stm
def H7{R:Type}(rec:Nq->Option R)(kx:Ex->Nq->Option R)(v:Nq):Option R:=match v with
 |(v6,v7,w2,w3) =>
 cond (decide (v7<v6)) (
  let j1:=λ(q3:List UInt8) =>
  chk (inb v7 w3.order.length) (
   (Aq ([(at' .str w3.order v7)],q3)).bind λx8 =>
   chk (inb v7 w3.desc.length) (
    cond ((at' .bool w3.desc v7)) (
    (Aq ([[32,68,69,83,67]],x8)).bind λx9 =>rec (v6,(wr .i64 (v7+1)),x9,w3)) (
    rec (v6,(wr .i64 (v7+1)),x8,w3))))
  cond (decide (0<v7)) (
  (Aq ([[44,32]],w2)).bind λx7 =>j1 x7) (
  j1 w2)) (
  kx (.exit 0) (v6,v7,w2,w3))
def Ac7:Sig:=⟨20,[(7,.int .i64),(8,.int .i64)],[(0,.ptr 0 0),(2,.fn 106 [.ptr 1 0,.ptr 2 0])],[(0,.bld 82),(1,.fx [.ptr 0 0]),(2,.one (.sv .stmt))],80,80,400,[],[]⟩
abbrev M8:=Int×Int×List UInt8×Stm
def Lb{R:Type}(rec:M8->Option R)(kx:Ex->M8->Option R)(v:M8):Option R:=match v with
 |(v,v1,w,w1) =>
 cond (decide (v1<v)) (
  let j:=λ(q1:List UInt8) =>
  chk (inb v1 w1.l.length) (
   (Fi ((at' .expr w1.l v1),q1)).bind λx3 =>
   rec (v,(wr .i64 (v1+1)),x3,w1))
  cond (decide (0<v1)) (
  (Aq ([[44,32]],w)).bind λx2 =>j x2) (
  j w)) (
  kx (.exit 0) (v,v1,w,w1))
def Tz(R:Type)(_k:Nat):Px R:=pxO [(40,Am Gp F7 Fi)] [] [] []
noncomputable def Abi(R:Type)(k:Nat):Px R:=pxO [(49,Am Ca B8 Aq),(106,Av 120 600 (Tz R k) Tryz.f106)] [] [(1,Ao k Ac7 (Lb))] []
def Tu(R:Type)(_k:Nat):Px R:=pxO [(49,Am Ca B8 Aq)] [] [] []
noncomputable def Abr(R:Type)(k:Nat):Px R:=pxO [(49,Am Ca B8 Aq),(107,Av 120 800 (Tu R k) Tryz.f107)] [] [(1,Ao k Abo (H7))] []
noncomputable def Akm(R:Type)(k:Nat):Px R:=pxO [(49,Am Ca B8 Aq),(55,Am W4 Xi Iu),(51,Vu 80 400 (Abi R k) Tryz.f51 (Av 80 600 (Abr R k) Tryz.f51))] [(98,qA Aan)] [] []
def Qx(k:Nat)(x:Apg):Option (Gx):=match x with
 |(s,out) =>
 (Aq ([[83,69,76,69,67,84,32]],out)).bind λx =>
  let j3:=λ(q:List UInt8) =>
  Ak (λrec=>Lb rec (λe vz=>match vz with|(_,_,v4,v5)=>match e with
   |.exit 0 =>
   (Aq ([[32,70,82,79,77,32],v5.name],v4)).bind λx4 =>
    (Iu (v5,x4)).bind λx5 =>
    let j2:=λ(q2:List UInt8) =>
     Ak (λrec=>H7 rec (λe vz=>match vz with|(_,_,a,b)=>match e with
     |.exit 0 =>
      cond (decide (0<=b.most)) (
      (Aq ([[32,76,73,77,73,84,32],(Ds (Val.mk 3 b.most []))],a)).bind λc =>some c) (
      some a)
     |_=>none)) k ((v5.order.length:Int),0,q2,v5)
    cond (decide (0<(v5.order.length:Int))) (
     (Aq ([[32,79,82,68,69,82,32,66,89,32]],x5)).bind λx6 =>
     j2 x6) (
     j2 x5)
   |_=>none)) k ((s.l.length:Int),0,q,s)
  cond (decide ((s.l.length:Int)=0)) (
  (Aq ([[42]],x)).bind λx1 =>j3 x1) (
  j3 x)
theorem A0d(k:Nat):FM 56 Yz Aaa (Qx k):=fRL (px:=Akm _ k) (n:=0) Tryz.func56 rfl (λcx H=>by have h2:Lv cx (Tz (Gx) k):=lv H (l1 H Pv Ah) Ae Ab;have h1:Lv cx (Abi (Gx) k):=lv H (l1 H Cs (As (cR H h2 Tryz.func106 rfl (n:=0) (Aj)) Ah)) Ae Ab;have hlwchosen_0:=lO H h1 (b:=lp Tryz.f51 0) (k:=k) (n:=0) (s:=Ac7) (step:=Lb) (λ_ _ _ (_,_,_,_)=>by kernel_rfl) Aj;have h4:Lv cx (Tu (Gx) k):=lv H (l1 H Cs Ah) Ae Ab;have h3:Lv cx (Abr (Gx) k):=lv H (l1 H Cs (As (cR H h4 Tryz.func107 rfl (n:=0) (Aj)) Ah)) Ae Ab;have hlwchosen_1:=lO H h3 (b:=lp Tryz.f51 0) (k:=k) (n:=0) (s:=Abo) (step:=H7) (λ_ _ _ (_,_,_,_)=>by kernel_rfl) Aj;have h0:Lv cx (Akm (Gx) k):=lv H (l1 H Cs (l1 H Api (As (Ax3 (cR H h1 Tryz.func51 rfl (n:=1) ((Bh Aj hlwchosen_0))) (cR H h3 Tryz.func51 rfl (n:=1) ((Bh Aj hlwchosen_1)))) Ah))) (q1 H Ash Ae) Ab;exact⟨h0,Aj⟩) λ(_,_)=>by kernel_rfl
def Boe(s:Stm)(out:Str):Option Str:=cond (okS s) (app out (A5b s)) none
def V6:Apg->Option Gx:=λx=>Boe x.1 x.2
theorem Akw{R:Type}{b:Bool}{out t:Str}{c:Str->Option R}(ho:out.length<=100000000000):cond b ((app out t).bind c) (c out)=(app out (cond b t [])).bind c:=by cases b with|true=>rfl|false=>rw[Af,Af,Aiz ho];rfl
theorem A92(k:Nat)(s:Stm)(out:Str)(hb:BdStm s)(h:okS s=true)(hk:I8 s<=k):Qx k (s,out)=app out (A5b s):=by
 simp only[okS,Zb1,Zg1] at h;obtain⟨⟨h1,h2⟩,h3⟩:=h;simp only[I8] at hk;have hl:=Zg2.1 h1;have hz:(s.order.zip s.desc).length=s.order.length:=by rw[List.length_zip];omega
 have hend:∀x:Str,x.length<=100000000000->cond (decide (0<=s.most)) (app x ([32,76,73,77,73,84,32]++Ds ⟨3,s.most,[]⟩)) (some x)=app x (Bae s):=λx hx=>by simp only[Bae];cases decide (0<=s.most) with|true=>rfl|false=>rw[Af,Af,Aiz hx]
 have hord:∀(kx:Ex->Nq->Option Gx),(∀acc,kx (.exit 0) ((s.order.length:Int),(s.order.length:Int),acc,s)=cond (decide (0<=s.most)) (app acc ([32,76,73,77,73,84,32]++Ds ⟨3,s.most,[]⟩)) (some acc))->∀x:Str,x.length<=100000000000 ->
   Ak (λrec=>H7 rec kx) k ((s.order.length:Int),0,x,s)=(app x (Cy Ain (s.order.zip s.desc))).bind λx=>app x (Bae s):=λkx hkx x hx=>by
  refine(Le (s.order.zip s.desc) Ain (λi acc=>((s.order.length:Int),(i:Int),acc,s)) (λacc=>cond (decide (0<=s.most)) (app acc ([32,76,73,77,73,84,32]++Ds ⟨3,s.most,[]⟩)) (some acc)) (λi hi acc rec =>?_) (λacc rec =>?_) k (by omega) x hx).trans (C8 hend)
  ·have hi1:i<s.order.length:=by omega
   have hi2:i<s.desc.length:=by omega
   have hg:(s.order.zip s.desc)[i]=(s.order[i],s.desc[i]):=by simp
   simp only[H7,E7 hi1,Aa,A5 hi1,A5 hi2,chk,A8 (c :=.str) hi1,A8 (c :=.bool) hi2,A1 hi1 hb.order.1,ww,fl1,hg];have hitem:∀q:Str,((app q s.order[i]).bind λx8=>cond s.desc[i] ((app x8 [32,68,69,83,67]).bind λx9=>rec ((s.order.length:Int),((i+1:Nat):Int),x9,s)) (rec ((s.order.length:Int),((i+1:Nat):Int),x8,s)))=(app q (Ain (s.order[i],s.desc[i]))).bind λx=>rec ((s.order.length:Int),((i+1:Nat):Int),x,s):=λq=>by simp only[Ain];rw[<-C4];exact C8 λx hx=>Akw hx
   simp only[hitem];exact P0 i acc _ _
  ·rw[hz];simp only[H7,E8,Af,hkx]
 simp only[Qx,ww,fl1,fl2];have hsel:∀(kx:Ex->M8->Option Gx),(∀acc:Str,acc.length<=100000000000->kx (.exit 0) ((s.l.length:Int),(s.l.length:Int),acc,s)=app acc (([32,70,82,79,77,32]++s.name)++whT s++obT s++Cy Ain (s.order.zip s.desc)++Bae s))->∀x:Str,x.length<=100000000000 ->
   Ak (λrec=>Lb rec kx) k ((s.l.length:Int),0,x,s)=app x (Cy etx s.l++(([32,70,82,79,77,32]++s.name)++whT s++obT s++Cy Ain (s.order.zip s.desc)++Bae s)):=λkx hkx x hx=>by
  refine(Le s.l etx (λi acc=>((s.l.length:Int),(i:Int),acc,s)) (λacc=>kx (.exit 0) ((s.l.length:Int),(s.l.length:Int),acc,s)) (λi hi acc rec =>?_) (λacc rec =>?_) k (by omega) x hx).trans ((C8 hkx).trans (I5 _ _ _))
  ·simp only[Lb,E7 hi,Aa,A5 hi,chk,A8 (c :=.expr) hi,we (hl _ (List.getElem_mem hi)),A1 hi hb.l.1,ww,fl1];exact P0 i acc _ _
  ·simp only[Lb,E8,Af]
 refine(C8 λx hx=>(Akw hx).trans (C8 λq hq=>hsel _ (λacc ha =>?_) q hq)).trans ?_
 ·show((app acc ([32,70,82,79,77,32]++s.name)).bind λx4=>(Iu (s,x4)).bind λx5=>cond (decide (0<(s.order.length:Int))) ((app x5 [32,79,82,68,69,82,32,66,89,32]).bind λx6=>Ak (λrec=>H7 rec _) k ((s.order.length:Int),0,x6,s)) (Ak (λrec=>H7 rec _) k ((s.order.length:Int),0,x5,s)))=_;simp only[wh h2];rw[C4];refine(C8 λx5 hx5=>(Akw hx5).trans (C8 λy hy=>hord _ (λ_ =>?_) y hy)).trans ?_
  ·simp only[It,Ds]
  ·simp only[I5,obT,Zj1]
 ·simp only[I5,A5b,Zj1]
theorem A2h:FM 56 Yz Aaa V6 :=.fin 0 A0d λ(s,out) r hb hx=>⟨I8 s,by
 have hx:cond (okS s) (app out (A5b s)) none=some r:=hx;cases ho:okS s with
 |false=>rw[ho] at hx;cases hx
 |true =>rw[ho] at hx;exact(A92 (I8 s) s out hb.1 ho (Zn1 _)).trans hx⟩
theorem ws{s:Stm}(h:okS s=true)(out:Str):V6 (s,out)=app out (A5b s):=by show cond (okS s) _ _=_;rw[h];rfl
def Aow(r:List Xpr):Str:=[40]++(Cy etx r++[41])
def A1g(x:SetE):Str:=x.name++[32,61,32]++etx x.e
def Dh(s:Stm):Str :=
 if s.kind=1 then Qz s
 else if s.kind=2 then [68,82,79,80,32,84,65,66,76,69,32]++s.name
 else if s.kind=3 then [67,82,69,65,84,69,32,73,78,68,69,88,32]++(s.name++([32,79,78,32]++(s.on++[32])))++nmT s.names
 else if s.kind=4 then [68,82,79,80,32,73,78,68,69,88,32]++s.name
 else if s.kind=5 then [73,78,83,69,82,84,32,73,78,84,79,32]++(s.name++[32,86,65,76,85,69,83,32])++Cy Aow s.rows
 else if s.kind=6 then [85,80,68,65,84,69,32]++(s.name++[32,83,69,84,32])++Cy A1g s.sets++whT s
 else if s.kind=7 then [68,69,76,69,84,69,32,70,82,79,77,32]++s.name++whT s
 else A5b s
def okP(s:Stm):Bool :=
 if s.kind=1 then okT s
 else if s.kind=2\/s.kind=4 then true
 else if s.kind=3 then Avk s.names
 else if s.kind=5 then s.rows.all λr=>r.all okx
 else if s.kind=6 then s.sets.all (λx=>okx x.e)&&okW s
 else if s.kind=7 then okW s
 else decide (s.kind=8)&&okS s
def T4:Sig:=⟨20,[(7,.int .i64),(8,.int .i64)],[(0,.ptr 1 0),(2,.fn 54 [.ptr 1 0,.ptr 0 0])],[(0,.one (.sv .stmt)),(1,.bld 82)],40,40,200,[],[]⟩
abbrev Hw:=Int×Int×Stm×List UInt8
def Mc{R:Type}(rec:Hw->Option R)(kx:Ex->Hw->Option R)(v:Hw):Option R:=match v with
 |(b,a,w5,w6) =>
 cond (decide (a<b)) (
  let j2:=λ(q2:List UInt8) =>
  chk (inb a w5.sets.length) (
   (Aq ([((at' .set w5.sets a).name),[32,61,32]],q2)).bind λc =>
   chk (inb a w5.sets.length) (
    (Fi ((Fb ((at' .set w5.sets a).e)),c)).bind λd =>
    rec (b,(wr .i64 (a+1)),w5,d)))
  cond (decide (0<a)) (
  (Aq ([[44,32]],w6)).bind λf =>j2 f) (
  j2 w6)) (
  kx (.exit 0) (b,a,w5,w6))
def Aig:Sig:=⟨20,[(7,.int .i64),(8,.int .i64)],[(0,.ptr 1 0),(2,.fn 53 [.ptr 1 0,.ptr 0 0,.ptr 80 0])],[(0,.one (.sv .stmt)),(1,.bld 82),(80,.cells [.int .i64])],120,120,600,[],[]⟩
abbrev Sf:=Int×Int×Stm×List UInt8×Int
def Mf{R:Type}(rec:Sf->Option R)(kx:Ex->Sf->Option R)(v:Sf):Option R:=match v with
 |(v2,v3,w2,w3,w4) =>
 cond (decide (v3<v2)) (
  let j:=λ(q1:List UInt8) =>
  chk (inb w4 w2.rows.length) (
   chk (inb v3 ((at' .exprs w2.rows w4).length)) (
   (Fi ((at' .expr (at' .exprs w2.rows w4) v3),q1)).bind λa =>rec (v2,(wr .i64 (v3+1)),w2,a,w4)))
  cond (decide (0<v3)) (
  (Aq ([[44,32]],w3)).bind λx9 =>j x9) (
  j w3)) (
  kx (.exit 0) (v2,v3,w2,w3,w4))
def Td:Sig:=⟨20,[(7,.int .i64),(8,.int .i64)],[(0,.ptr 1 0),(2,.fn 52 [.ptr 1 0,.ptr 0 0])],[(0,.one (.sv .stmt)),(1,.bld 82)],40,40,200,[],[]⟩
abbrev Hk:=Int×Int×Stm×List UInt8
def Mw{R:Type}(k:Nat)(rec:Hk->Option R)(kx:Ex->Hk->Option R)(v:Hk):Option R:=match v with
 |(v,v1,w,w1) =>
 cond (decide (v1<v)) (
  let j1:=λ(q:List UInt8) =>
  (Aq ([[40]],q)).bind λx8 =>
   chk (inb v1 w.rows.length) (
   Ak (λrc=>Mf rc (λe vz=>match vz with|(_,_,v6,v7,_)=>match e with
    |.exit 0 =>
    (Aq ([[41]],v7)).bind λa =>rec (v,(wr .i64 (v1+1)),v6,a)
    |_=>none)) k (((at' .exprs w.rows v1).length:Int),0,w,x8,v1))
  cond (decide (0<v1)) (
  (Aq ([[44,32]],w1)).bind λx7 =>j1 x7) (
  j1 w1)) (
  kx (.exit 0) (v,v1,w,w1))
def Nv(R:Type)(_k:Nat):Px R:=pxO [(40,Am Gp F7 Fi)] [] [] []
noncomputable def Ss(R:Type)(k:Nat):Px R:=pxO [(49,Am Ca B8 Aq),(53,Av 160 800 (Nv R k) Tryz.f53)] [] [(1,Ao k Aig (Mf))] []
noncomputable def Yp(R:Type)(k:Nat):Px R:=pxO [(49,Am Ca B8 Aq),(51,Av 120 600 (Ss R k) Tryz.f51)] [] [] []
def X7(R:Type)(_k:Nat):Px R:=pxO [(49,Am Ca B8 Aq),(40,Am Gp F7 Fi)] [] [] []
noncomputable def Kj(R:Type)(k:Nat):Px R:=pxO [(49,Am Ca B8 Aq),(52,Av 80 400 (Yp R k) Tryz.f52),(54,Av 80 400 (X7 R k) Tryz.f54)] [] [(1,Vp k Td (Mw k) (Ao k T4 (Mc)))] []
noncomputable def Aso(R:Type)(k:Nat):Px R:=pxO [(25,cA Aau),(48,Am Afa Aea Aao),(49,Am Ca B8 Aq),(50,Am Vj Vz Oq),(55,Am W4 Xi Iu),(56,Am Yz Aaa V6),(41,Am bstr_si Ajj Ir),(51,Av 40 200 (Kj R k) Tryz.f51)] [] [] []
theorem A06(R:Type)(k:Nat):∀(fr:List Fr) (rec:Hk->Option R) (kx:Ex->Hk->Option R) (v:Hk),Ud (Kj R k) Td (lp Tryz.f51 0) fr rec kx v=Mw k rec kx v
 |fr,rec,kx,(v,v1,w,w1)=>by kernel_rfl
theorem Axk(R:Type)(k:Nat):∀(fr:List Fr) (rec:Hw->Option R) (kx:Ex->Hw->Option R) (v:Hw),Ud (Kj R k) T4 (lp Tryz.f51 0) fr rec kx v=Mc rec kx v
 |fr,rec,kx,(a,b,w5,w6)=>by kernel_rfl
def Nr(k:Nat)(x:HV [.sv .stmt]):Option (HV [.str,.int .i64]):=match x with
 |s =>
 (N8 s).bind λx =>
  cond (!decide (x=0)) (
  some ([],x)) (
  cond (decide (s.kind=1)) (
   (Aao (s,[])).bind λx1 =>
   (Ir x1).bind λa =>some (a,0)) (
   cond (decide (s.kind=2)) (
   (Aq ([[68,82,79,80,32,84,65,66,76,69,32],s.name],[])).bind λx2 =>
    (Ir x2).bind λb =>
    some (b,0)) (
   cond (decide (s.kind=3)) (
    (Aq ([[67,82,69,65,84,69,32,73,78,68,69,88,32],s.name,[32,79,78,32],s.on,[32]],[])).bind λx3 =>
    (Oq (s.names,x3)).bind λx4 =>
     (Ir x4).bind λc =>
     some (c,0)) (
    cond (decide (s.kind=4)) (
    (Aq ([[68,82,79,80,32,73,78,68,69,88,32],s.name],[])).bind λx5 =>
     (Ir x5).bind λd =>
     some (d,0)) (
    cond (decide (s.kind=5)) (
     (Aq ([[73,78,83,69,82,84,32,73,78,84,79,32],s.name,[32,86,65,76,85,69,83,32]],[])).bind λx6 =>
     Ak (λrec=>Mw k rec (λe vz=>match vz with|(_,_,_,f)=>match e with
      |.exit 0 =>
      (Ir f).bind λg =>some (g,0)
      |_=>none)) k ((s.rows.length:Int),0,s,x6)) (
     cond (decide (s.kind=6)) (
     (Aq ([[85,80,68,65,84,69,32],s.name,[32,83,69,84,32]],[])).bind λh =>
      Ak (λrec=>Mc rec (λe vz=>match vz with|(_,_,i,j)=>match e with
      |.exit 0 =>
       (Iu (i,j)).bind λl =>
       (Ir l).bind λm =>some (m,0)
      |_=>none)) k ((s.sets.length:Int),0,s,h)) (
     cond (decide (s.kind=7)) (
      (Aq ([[68,69,76,69,84,69,32,70,82,79,77,32],s.name],[])).bind λn =>
      (Iu (s,n)).bind λo =>
       (Ir o).bind λp =>
       some (p,0)) (
      cond (decide (s.kind=8)) (
      (V6 (s,[])).bind λq =>
       (Ir q).bind λr =>
       some (r,0)) (
      (Ir []).bind λt =>some (t,0))))))))))
theorem A37(k:Nat):FO 23 [.sv .stmt] [.str,.int .i64] (Nr k):=fR (px:=Aso _ k) (n:=0) Tryz.func23 rfl (λcx H=>by have h4:Lv cx (Nv (HV [.str,.int .i64]) k):=lv H (l1 H Pv Ah) Ae Ab;have h3:Lv cx (Ss (HV [.str,.int .i64]) k):=lv H (l1 H Cs (As (cR H h4 Tryz.func53 rfl (n:=0) (Aj)) Ah)) Ae Ab;have hlaprint_1:=lO H h3 (b:=lp Tryz.f51 0) (k:=k) (n:=0) (s:=Aig) (step:=Mf) (λ_ _ _ (_,_,_,_,_)=>by kernel_rfl) Aj;have h2:Lv cx (Yp (HV [.str,.int .i64]) k):=lv H (l1 H Cs (As (cR H h3 Tryz.func51 rfl (n:=1) ((Bh Aj hlaprint_1))) Ah)) Ae Ab;have h5:Lv cx (X7 (HV [.str,.int .i64]) k):=lv H (l1 H Cs (l1 H Pv Ah)) Ae Ab;have h1:Lv cx (Kj (HV [.str,.int .i64]) k):=lv H (l1 H Cs (As (cR H h2 Tryz.func52 rfl (n:=0) (Aj)) (As (cR H h5 Tryz.func54 rfl (n:=0) (Aj)) Ah))) Ae Ab;have hlaprint_0:C5 cx (Kj (HV [.str,.int .i64]) k) (lp Tryz.f51 0):=Av2 (λ_ _=>by kernel_rfl) (W6 (Ls h1.p h1.c h1.q (by rw[H.p];exact follows) (k:=k) (s:=Td) (step:=Mw k) (by kernel_rfl) (A06 _ k) (J0 (n:=0) (by kernel_rfl) Aj)) (Ls h1.p h1.c h1.q (by rw[H.p];exact follows) (k:=k) (s:=T4) (step:=Mc) (by kernel_rfl) (Axk _ k) (J0 (n:=0) (by kernel_rfl) Aj)));have h0:Lv cx (Aso (HV [.str,.int .i64]) k):=lv H (c1 H Aqh (l1 H Ba9 (l1 H Cs (l1 H Arq (l1 H Api (l1 H A2h (l1 H A6g (As (cR H h1 Tryz.func51 rfl (n:=1) ((Bh Aj hlaprint_0))) Ah)))))))) Ae Ab;exact⟨h0,Aj⟩) λ_=>by kernel_rfl
def Auo(s:Stm):Option (Str×Int):=(N8 s).bind λx=>cond (!decide (x=0)) (some ([],x)) (cond (okP s) ((app [] (Dh s)).bind λt=>some (t,0)) none)
def Ayi:FT [.sv .stmt] [.str,.int .i64]:=λx=>Auo x
theorem Aoz{R:Type}{kx:Ex->Sf->Option R}{s:Stm}{j:Nat}{c:Str->Option R}(hj:j<s.rows.length)(hn:ln s.rows[j].length)(hok:s.rows[j].all okx=true)(h2:∀acc,kx (.exit 0) ((s.rows[j].length:Int),(s.rows[j].length:Int),s,acc,(j:Int))=c acc)(k:Nat)(hk:s.rows[j].length<k)(out:Str)(ho:out.length<=100000000000) :
  Ak (λrec=>Mf rec kx) k ((s.rows[j].length:Int),0,s,out,(j:Int))=(app out (Cy etx s.rows[j])).bind c:=by
 have hl:=Zg2.1 hok;refine Le s.rows[j] etx (λi acc=>((s.rows[j].length:Int),(i:Int),s,acc,(j:Int))) c (λi hi acc rec =>?_) (λacc rec =>?_) k hk out ho
 ·simp only[Mf,E7 hi,Aa,A5 hi,A5 hj,chk,A8 (c :=.exprs) hj,A8 (c :=.expr) hi,we (hl _ (List.getElem_mem hi)),A1 hi hn,ww,fl1];exact P0 i acc _ _
 ·simp only[Mf,E8,Af,h2]
theorem Ao5{R:Type}{kx:Ex->Hk->Option R}{s:Stm}{c:Str->Option R}(hb:BdStm s)(hok:(s.rows.all λr=>r.all okx)=true)(h2:∀acc,kx (.exit 0) ((s.rows.length:Int),(s.rows.length:Int),s,acc)=c acc)(k:Nat)(hk:I8 s<=k)(out:Str)(ho:out.length<=100000000000) :
  Ak (λrec=>Mw k rec kx) k ((s.rows.length:Int),0,s,out)=(app out (Cy Aow s.rows)).bind c:=by
 have hl:=Zg2.1 hok;simp only[I8] at hk;refine Le s.rows Aow (λi acc=>((s.rows.length:Int),(i:Int),s,acc)) c (λi hi acc rec =>?_) (λacc rec =>?_) k (by omega) out ho
 ·have hm:=A6b (List.getElem_mem hi);have hrow:∀q:Str,((app q [40]).bind λx8=>Ak (λrc=>Mf rc (λe v=>match v with
    |(_,_,v6,v7,_)=>match e with
     |.exit 0=>(app v7 [41]).bind λa=>rec ((s.rows.length:Int),((i+1:Nat):Int),v6,a)
     |_=>none)) k ((s.rows[i].length:Int),0,s,x8,(i:Int)))=(app q (Aow s.rows[i])).bind λx=>rec ((s.rows.length:Int),((i+1:Nat):Int),s,x):=λq=>by
   refine(C8 λx hx=>Aoz (c:=λacc=>(app acc [41]).bind λa=>rec ((s.rows.length:Int),((i+1:Nat):Int),s,a)) hi (hb.rows.2 _ (List.getElem_mem hi)).1 (hl _ (List.getElem_mem hi)) (λ_=>rfl) k (by omega) x hx).trans ?_;simp only[C4,Aow]
  simp only[Mw,E7 hi,Aa,A5 hi,chk,A8 (c :=.exprs) hi,A1 hi hb.rows.1,ww,fl1];refine Eq.trans ?_ (P0 i acc _ _);have e:∀(b:Bool) (x y x' y':Option R),x=x'->y=y'->cond b x y=cond b x' y':=λ_ _ _ _ _ h1 h2=>by rw[h1,h2]
  exact e _ _ _ _ _ (C8 λx _=>hrow x) (hrow acc)
 ·simp only[Mw,E8,Af,h2]
theorem Ao6{R:Type}{kx:Ex->Hw->Option R}{s:Stm}{c:Str->Option R}(hb:BdStm s)(hok:(s.sets.all λx=>okx x.e)=true)(h2:∀acc,kx (.exit 0) ((s.sets.length:Int),(s.sets.length:Int),s,acc)=c acc)(k:Nat)(hk:s.sets.length<k)(out:Str)(ho:out.length<=100000000000) :
  Ak (λrec=>Mc rec kx) k ((s.sets.length:Int),0,s,out)=(app out (Cy A1g s.sets)).bind c:=by
 have hl:=Zg2.1 hok;refine Le s.sets A1g (λi acc=>((s.sets.length:Int),(i:Int),s,acc)) c (λi hi acc rec =>?_) (λacc rec =>?_) k hk out ho
 ·simp only[Mc,E7 hi,Aa,A5 hi,chk,A8 (c :=.set) hi,Ez,we (hl _ (List.getElem_mem hi)),A1 hi hb.sets.1,ww,fl1,fl2];have hitem:∀q:Str,((app q (s.sets[i].name++[32,61,32])).bind λa=>(app a (etx s.sets[i].e)).bind λb=>rec ((s.sets.length:Int),((i+1:Nat):Int),s,b))=(app q (A1g s.sets[i])).bind λx=>rec ((s.sets.length:Int),((i+1:Nat):Int),s,x):=λq=>by rw[C4];rfl
  simp only[hitem];exact P0 i acc _ _
 ·simp only[Mc,E8,Af,h2]
theorem bs(x:Str):((Ir x).bind λt=>some (t,(0:Int)))=some (x,0):=rfl
theorem Bhu(k:Nat)(s:Stm)(hb:BdStm s)(hk:I8 s<=k)(h:okP s=true)(hc:N8 s=some 0):Nr k s=((app [] (Dh s)).bind λt=>some (t,0)):=by
 have hk2:=hk;simp only[I8] at hk2;simp only[Nr,hc,Zc1,bs,ww,fl2,fl3,fl5];simp only[okP] at h;simp only[Dh];rw[decide_true,Zt1,Af];by_cases h1:s.kind=1
 ·rw[if_pos h1] at h;rw[Ze1 h1,if_pos h1,Aa,wt h]
 rw[if_neg h1] at h;rw[Zd1 h1,if_neg h1,Af];by_cases h2:s.kind=2
 ·rw[Ze1 h2,if_pos h2,Aa]
 rw[Zd1 h2,if_neg h2,Af];by_cases h3:s.kind=3
 ·rw[if_neg (by omega),if_pos h3] at h;rw[Ze1 h3,if_pos h3,Aa];simp only[wn h,C4]
 rw[Zd1 h3,if_neg h3,Af];by_cases h4:s.kind=4
 ·rw[Ze1 h4,if_pos h4,Aa]
 rw[if_neg (by omega),if_neg h3] at h;rw[Zd1 h4,if_neg h4,Af];by_cases h5:s.kind=5
 ·rw[if_pos h5] at h;rw[Ze1 h5,if_pos h5,Aa];refine(C8 λx hx=>Ao5 (c:=λt=>some (t,(0:Int))) hb h (λ_=>rfl) k hk x hx).trans ?_;rw[C4]
 rw[if_neg h5] at h;rw[Zd1 h5,if_neg h5,Af];by_cases h6:s.kind=6
 ·rw[if_pos h6,Zb1] at h;rw[Ze1 h6,if_pos h6,Aa];refine(C8 λx hx=>Ao6 (c:=λt=>(app t (whT s)).bind λt=>some (t,(0:Int))) hb h.1 (λacc =>?_) k (by omega) x hx).trans ?_
  ·show((Iu (s,acc)).bind λa=>some (a,(0:Int)))=_;rw[wh h.2]
  ·simp only[C4,Zj1]
 rw[if_neg h6] at h;rw[Zd1 h6,if_neg h6,Af];by_cases h7:s.kind=7
 ·rw[if_pos h7] at h;rw[Ze1 h7,if_pos h7,Aa];simp only[wh h,C4]
 rw[if_neg h7,Zb1,Zg1] at h;rw[Zd1 h7,if_neg h7,Af,Ze1 h.1,Aa,ws h.2]
theorem Bbn:FO 23 [.sv .stmt] [.str,.int .i64] Ayi :=.fin 0 A37 λs r hb hx=>⟨I8 s,by
 have hx:Auo s=some r:=hx;simp only[Auo] at hx;cases hc:N8 s with
 |none=>rw[hc] at hx;cases hx
 |some x =>
  rw[hc,Zc1] at hx;by_cases h0:x=0
  ·subst h0;cases ho:okP s with|false=>rw[ho] at hx;cases hx|true =>rw[ho] at hx;exact(Bhu (I8 s) s hb (Zn1 _) ho hc).trans hx
  ·rw[Zd1 h0] at hx;rw[<-hx];simp only[Nr,hc,Zc1];rw[Zd1 h0];rfl⟩
def Akz(R:Type):Px R:=pxO [(116,cA Awo)] [] [] []
noncomputable def Ayh(R:Type):Px R:=pxO [(85,Am Ac6 Aar Jr),(86,Am Ade Aaj Jv),(25,cA Aau),(84,Av 40 200 (Akz R) Tryz.f84)] [] [] []
def Z3(x:HV [.str]):Option (HV [.sv .stmt,.int .i64,.int .i64]):=match x with
 |s =>
 cond (!decide ((Hl s).2.2=0)) (
  some ((Stm.mk 0 [] [] [] [] [] [] [] false (Xpr.mk 0 ⟨0,0,[]⟩ [] []) [] [] 0),(Hl s).2.1,(Hl s).2.2)) (
  (Jr ((Hl s).1,(s.length:Int),false,0)).bind λ(x,x1,x2,x3,x4) =>
  (Jv (x1,x2,x3,x4)).bind λ(x5,_,_,_,x9) =>
   cond (!x5) (
   some ((Stm.mk 0 [] [] [] [] [] [] [] false (Xpr.mk 0 ⟨0,0,[]⟩ [] []) [] [] 0),x9,11)) (
   (N8 x).bind λa =>
    cond (!decide (a=0)) (
    some ((Stm.mk 0 [] [] [] [] [] [] [] false (Xpr.mk 0 ⟨0,0,[]⟩ [] []) [] [] 0),0,a)) (
    some (x,0,0))))
theorem Bb4:FO 30 [.str] [.sv .stmt,.int .i64,.int .i64] (Z3):=fR (px:=Ayh _) (n:=0) Tryz.func30 rfl (λcx H=>by have h1:Lv cx (Akz (HV [.sv .stmt,.int .i64,.int .i64])):=lv H (c1 H A60 Ah) Ae Ab;have h0:Lv cx (Ayh (HV [.sv .stmt,.int .i64,.int .i64])):=lv H (l1 H Bkg (l1 H A0h (c1 H Aqh (As (cR H h1 Tryz.func84 rfl (n:=0) (Aj)) Ah)))) Ae Ab;exact⟨h0,Aj⟩) λ_=>by kernel_rfl
def X3(s:Str):Option (Stm×Int×Int):=Z3 s
def Ajc:FT [.str] [.sv .stmt,.int .i64,.int .i64]:=λx=>X3 x
theorem Aoj:FO 30 [.str] [.sv .stmt,.int .i64,.int .i64] Ajc :=.fin0 Bb4 λ_ _ _ hx=>hx
def Ama(R:Type):Px R:=pxO [(116,cA Awo)] [] [] []
noncomputable def A02(R:Type):Px R:=pxO [(90,Am Cu Cv Ft),(86,Am Ade Aaj Jv),(18,cA A6s),(84,Av 40 200 (Ama R) Tryz.f84)] [] [] []
def Anj(x:HV [.str]):Option (HV [.sv .expr,.int .i64,.int .i64]):=match x with
 |s =>
 cond (!decide ((Hl s).2.2=0)) (
  some ((Xpr.mk 0 ⟨0,0,[]⟩ [] []),(Hl s).2.1,(Hl s).2.2)) (
  (Ft ((Hl s).1,(s.length:Int),false,0)).bind λ(x,x1,x2,x3,x4) =>
  (Jv (x1,x2,x3,x4)).bind λ(x5,_,_,_,x9) =>
   cond (!x5) (
   some ((Xpr.mk 0 ⟨0,0,[]⟩ [] []),x9,11)) (
   cond (!decide ((Axh x)=0)) (
    some ((Xpr.mk 0 ⟨0,0,[]⟩ [] []),0,(Axh x))) (
    some (x,0,0))))
theorem Bd4:FO 32 [.str] [.sv .expr,.int .i64,.int .i64] (Anj):=fR (px:=A02 _) (n:=0) Tryz.func32 rfl (λcx H=>by have h1:Lv cx (Ama (HV [.sv .expr,.int .i64,.int .i64])):=lv H (c1 H A60 Ah) Ae Ab;have h0:Lv cx (A02 (HV [.sv .expr,.int .i64,.int .i64])):=lv H (l1 H Aom (l1 H A0h (c1 H Biz (As (cR H h1 Tryz.func84 rfl (n:=0) (Aj)) Ah)))) Ae Ab;exact⟨h0,Aj⟩) λ_=>by kernel_rfl
def Bqg(s:Str):Option (Xpr×Int×Int):=Anj s
def A58:FT [.str] [.sv .expr,.int .i64,.int .i64]:=λx=>Bqg x
theorem Bhk:FO 32 [.str] [.sv .expr,.int .i64,.int .i64] A58 :=.fin0 Bd4 λ_ _ _ hx=>hx
def Bby(R:Type):Px R:=pxO [(30,cA Ajc),(23,cA Ayi)] [] [] []
def Aia(x:HV [.str]):Option (HV [.str,.int .i64,.int .i64]):=match x with
 |s =>
 (X3 s).bind λ(x,x1,x2) =>
  cond (!decide (x2=0)) (
  some ([],x1,x2)) (
  (Auo x).bind λ(x3,x4) =>some (x3,0,x4))
theorem A1w:FO 34 [.str] [.str,.int .i64,.int .i64] (Aia):=fR (px:=Bby _) (n:=0) Tryz.func34 rfl (λ_ H=>⟨lv H (c1 H Aoj (c1 H Bbn Ah)) Ae Ab,Aj⟩) λ_=>by kernel_rfl
def Bfo(s:Str):Option (Str×Int×Int):=Aia s
def Axy:FT [.str] [.str,.int .i64,.int .i64]:=λx=>Bfo x
theorem A90:FO 34 [.str] [.str,.int .i64,.int .i64] Axy :=.fin0 A1w λ_ _ _ hx=>hx
def A2d(R:Type):Px R:=pxO [(34,cA Axy),(30,cA Ajc),(32,cA A58),(14,cA A8v)] [] [] []
def Abl(x:HV []):Option (HV [.bool]):=match x with
 |() =>
 (Bfo [83,69,76,69,67,84,32,97,43,98,42,50,32,70,82,79,77,32,116,32,87,72,69,82,69,32,78,79,84,32,97,61,49,32,79,82,32,98,32,73,83,32,78,79,84,32,78,85,76,76]).bind λ(x,x1,x2) =>
  (X3 [83,69,76,69,67,84,32,97,32,70,82,79,77]).bind λ(_,x4,x5) =>
  (Bqg [97,45,98,45,49]).bind λ(x6,_,x8) =>
   (A0t x6).bind λ(x9,_) =>
   let j3:=λ(p:Bool) =>
    let j2:=λ(p1:Bool) =>
    let j1:=λ(p2:Bool) =>
     let j:=λ(p3:Bool) =>
     cond (p3) (
      cond (decide (x8=0)) (
      some (decide (x9=[40,40,97,32,45,32,98,41,32,45,32,49,41]))) (
      some false)) (
      some false)
     cond (p2) (
     j (decide (x5=11))) (
     j false)
    cond (p1) (
     j1 (decide (x4=13))) (
     j1 false)
    cond (p) (
    j2 (decide (x2=0))) (
    j2 false)
   cond (decide (x=[83,69,76,69,67,84,32,40,97,32,43,32,40,98,32,42,32,50,41,41,32,70,82,79,77,32,116,32,87,72,69,82,69,32,40,40,78,79,84,32,40,97,32,61,32,49,41,41,32,79,82,32,40,78,79,84,32,40,98,32,73,83,32,78,85,76,76,41,41,41])) (
    j3 (decide (x1=0))) (
    j3 false)
theorem Ay0:FO 29 [] [.bool] (Abl):=fR (px:=A2d _) (n:=0) Tryz.func29 rfl (λ_ H=>⟨lv H (c1 H A90 (c1 H Aoj (c1 H Bhk (c1 H Blq Ah)))) Ae Ab,Aj⟩) λ()=>by kernel_rfl
def Xf:Option Bool:=Abl ()
def Aqz:FT [] [.bool]:=λ_=>Xf
theorem A4n:FO 29 [] [.bool] Aqz :=.fin0 Ay0 λ_ _ _ hx=>hx
def Ahf:Sig:=⟨88,[(2,.int .i64),(5,.int .i64)],[(1,.ptr 0 0)],[(0,.one (.sv .val))],1,0,0,[],[]⟩
abbrev L6:=Int×Int×Val
def I3{R:Type}(rec:L6->Option R)(kx:Ex->L6->Option R)(v:L6):Option R:=match v with
 |(v1,v2,w) =>
 cond (decide (v2<(w.s.length:Int))) (
  cond (decide (w.kind=4)) (
  chk (inb v2 w.s.length) (
   cond (decide ((bat w.s v2)<32)) (
   kx .ret (2,v2,w)) (
   chk (inb v2 w.s.length) (
    cond (decide (127<=(bat w.s v2))) (
    kx .ret (2,v2,w)) (
    rec (v1,(wr .i64 (v2+1)),w)))))) (
  kx (.exit 0) (v1,v2,w))) (
  kx (.exit 0) (v1,v2,w))
def Ar5(R:Type)(k:Nat):Px R:=pxO [] [] [(6,Ao k Ahf (I3))] []
def Aif(k:Nat)(x:HV [.sv .val]):Option (HV [.int .i64]):=match x with
 |v =>
 let j4:=λ(p4:Bool) =>
  let j3:=λ(p6:Bool) =>
  let j2:=λ(_:Unit) =>
   Ak (λrec=>I3 rec (λe vz=>match vz with|(v3,_,_)=>match e with
   |.ret =>some v3
   |.exit 0 =>some 0
   |_=>none)) k (0,0,v)
  let j1:=λ(p7:Bool) =>
   let j:=λ(p9:Bool) =>
   cond (p9) (
    some 2) (
    cond (!p6) (
    cond (!decide (v.s=[])) (
     some 2) (
     cond (decide (1000<(v.s.length:Int))) (
     some 2) (
     j2 ()))) (
    cond (decide (1000<(v.s.length:Int))) (
     some 2) (
     j2 ())))
   cond (p7) (
   j true) (
   cond (!p4) (
    j (!decide (v.n=0))) (
    j false))
  cond (decide (v.kind<1)) (
   j1 true) (
   j1 (decide (5<v.kind)))
  cond (decide (v.kind=4)) (
  j3 true) (
  j3 (decide (v.kind=5)))
 cond (decide (v.kind=2)) (
  cond (decide (v.n=0)) (
  j4 true) (
  cond (decide (v.n=1)) (
   j4 true) (
   j4 (decide (v.kind=3))))) (
  j4 (decide (v.kind=3)))
theorem A5x(k:Nat):FO 101 [.sv .val] [.int .i64] (Aif k):=fR (px:=Ar5 _ k) (n:=1) Tryz.func101 rfl (λcx H=>by have h0:Lv cx (Ar5 (HV [.int .i64]) k):=lv H Ah Ae Ab;have hlrcheck_0:=lO H h0 (b:=lp Tryz.f101 0) (k:=k) (n:=0) (s:=Ahf) (step:=I3) (λ_ _ _ (_,_,_)=>by kernel_rfl) Aj;exact⟨h0,(Bh Aj hlrcheck_0)⟩) λ_=>by kernel_rfl
abbrev Ane(v:Val):Int:=G4 v
def Abc:FT [.sv .val] [.int .i64]:=λx=>some (Ane x)
theorem Ag3{R:Type}{kx:Ex->L6->Option R}{v:Val}{a b:Option R}(hn:ln v.s.length)(h4:v.kind=4)(h1:∀j,kx .ret (2,j,v)=a)(h2:∀q j,kx (.exit 0) (q,j,v)=b):∀(k i:Nat) q,i<=v.s.length->v.s.length-i<k->Ak (λrec=>I3 rec kx) k (q,(i:Int),v)=cond ((v.s.drop i).all vis) b a
 |0,i,q,_,h=>by omega
 |k+1,i,q,hi,h=>by
  rw[Aw];by_cases hl:i<v.s.length
  ·have ih:=Ag3 hn h4 h1 h2 k (i+1) q (by omega) (by omega);simp only[I3,A1 hl hn,ih,h1,An hl,Cg hl,A5 hl,Zv1,chk,Aa,Bool.cond_decide];rw[if_pos (by omega),if_pos h4];simp only[vis];split
   ·rw[Zd1 (by omega)];rfl
   ·split
    ·rw[Ze1 (by omega),Zd1 (by omega)];rfl
    ·rw[Ze1 (by omega),Ze1 (by omega)];rfl
  ·simp only[I3,h2,Bool.cond_decide];rw[if_neg (by omega),Zk1 (by omega)];rfl
theorem Bcf{R:Type}{kx:Ex->L6->Option R}{v:Val}{b:Option R}(h4:¬v.kind=4)(h2:kx (.exit 0) (0,0,v)=b)(k:Nat):Ak (λrec=>I3 rec kx) (k+1) (0,0,v)=b:=by rw[Aw];simp only[I3,h2,Bool.cond_decide,if_neg h4];split<;>rfl
theorem Aqb:FO 101 [.sv .val] [.int .i64] Abc :=.fin 0 A5x λv r hb hx=>⟨v.s.length+1,by
 simp only[Abc,Za1] at hx;subst hx;have e0:((0:Nat):Int)=0:=rfl;have hloop:Ak (λrec=>I3 rec (λe v=>match v with|(v2,_,_)=>match e with
   |.ret=>some v2
   |.exit 0=>some 0
   |_=>none)) (v.s.length+1) (0,0,v)=cond (decide (v.kind=4) && !Gz v.s) (some (2:Int)) (some 0):=by
  by_cases h4:v.kind=4
  ·have:=Ag3 (a:=some (2:Int)) (b:=some 0) hb.2.2 h4 (kx:=λe v=>match v with|(v2,_,_)=>match e with
    |.ret=>some v2
    |.exit 0=>some 0
    |_=>none) (λ_=>rfl) (λ_ _=>rfl) (v.s.length+1) 0 0 (Nat.zero_le _) (by omega)
   rw[e0] at this;rw[this,Ze1 h4,Zq1,Gz];cases v.s.all vis<;>rfl
  ·rw[Bcf (b:=some 0) h4 rfl,Zd1 h4];rfl
 simp only[Aif] at hloop ⊢;rw[hloop];have hlen:v.s=[]->¬(1000<(v.s.length:Int)):=λh=>by rw[h];simp
 have hle:decide ((v.s.length:Int)<=1000) = !decide (1000<(v.s.length:Int)):=by
  by_cases h : 1000<(v.s.length:Int)
  ·rw[Ze1 h,Zd1 (by omega)];rfl
  ·rw[Zd1 h,Ze1 (by omega)];rfl
 have hs:decide (v.s=[])=true->decide (1000<(v.s.length:Int))=false:=λh=>Zd1 (hlen (of_decide_eq_true h));simp only[G4,Fy,hle];generalize decide (1000<(v.s.length:Int))=q at *;generalize decide (v.s=[])=s at *;generalize Gz v.s=w at *;by_cases hk:v.kind=1
 ·simp only[hk];cases decide (v.n=0)<;>cases s<;>simp_all
 by_cases hk2:v.kind=2
 ·simp only[hk2];cases decide (v.n=0)<;>cases decide (v.n=1)<;>cases s<;>simp_all
 by_cases hk3:v.kind=3
 ·simp only[hk3];cases decide (v.n=0)<;>cases decide (v.n=1)<;>cases s<;>simp_all
 by_cases hk4:v.kind=4
 ·simp only[hk4];cases decide (v.n=0)<;>cases w<;>cases q<;>simp_all
 by_cases hk5:v.kind=5
 ·simp only[hk5];cases decide (v.n=0)<;>cases q<;>simp_all
 rw[Zd1 hk,Zd1 hk2,Zd1 hk3,Zd1 hk4,Zd1 hk5];by_cases hl:v.kind<1
 ·rw[Ze1 hl];rfl
 ·rw[Zd1 hl,Ze1 (show 5<v.kind by omega)];rfl⟩
def Ahk:Sig:=⟨58,[(0,.int .u8),(2,.int .i64),(3,.str),(4,.int .i64)],[],[],0,0,0,[],[]⟩
abbrev Aab:=Int×Int×Str×Int
def Aoc{R:Type}(rec:Aab->Option R)(kx:Ex->Aab->Option R)(v:Aab):Option R:=match v with
 |(v,v1,v2,v3) =>
 cond (decide (v3<(v2.length:Int))) (
  chk (inb v3 v2.length) (
  cond (decide ((bat v2 v3)=v)) (
   kx .ret (v,7,v2,v3)) (
   rec (v,v1,v2,(wr .i64 (v3+1)))))) (
  kx (.exit 1) (v,v1,v2,v3))
def Aqj(R:Type)(k:Nat):Px R:=pxO [] [] [(15,Ao k Ahk (Aoc))] []
def Ah2(k:Nat)(x:HV [.int .u8]):Option (HV [.int .i64]):=match x with
 |c =>
 let j3:Bool->Option (HV [.int .i64]):=λ(p1:Bool) =>
  cond (p1) (
  some 1) (
  let j2:Bool->Option (HV [.int .i64]):=λ(p3:Bool) =>
   cond (p3) (
   some 2) (
   let j1:Bool->Option (HV [.int .i64]):=λ(p5:Bool) =>
    cond (p5) (
    some 3) (
    cond (decide (c=95)) (
     some 4) (
     cond (decide (c=39)) (
     some 5) (
     let j:Bool->Option (HV [.int .i64]):=λ(p6:Bool) =>
      cond (p6) (
      some 6) (
      cond (decide (c=10)) (
       some 6) (
       cond (decide (c=13)) (
       some 6) (
       Ak (λrec=>Aoc rec (λe vz=>match vz with|(_,v5,_,_)=>match e with
        |.ret =>
        some v5
        |.exit 1 =>
        some 0
        |_=>none)) k (c,0,[40,41,44,42,61,60,62,43,45,59],0))))
     cond (decide (c=32)) (
      j true) (
      j (decide (c=9))))))
   cond (decide (48<=c)) (
    j1 (decide (c<=57))) (
    j1 false))
  cond (decide (97<=c)) (
   j2 (decide (c<=122))) (
   j2 false))
 cond (decide (65<=c)) (
  j3 (decide (c<=90))) (
  j3 false)
theorem A5t(k:Nat):FO 92 [.int .u8] [.int .i64] (Ah2 k):=fR (px:=Aqj _ k) (n:=1) Tryz.func92 rfl (λcx H=>by have h0:Lv cx (Aqj (HV [.int .i64]) k):=lv H Ah Ae Ab;have hlrclass_0:=lO H h0 (b:=lp Tryz.f92 0) (k:=k) (n:=0) (s:=Ahk) (step:=Aoc) (λ_ _ _ (_,_,_,_)=>by kernel_rfl) Aj;exact⟨h0,(Bh Aj hlrclass_0)⟩) λ_=>by kernel_rfl
def B4(c:Int):Int:=Lp.clsF c
def Mq:FT [.int .u8] [.int .i64]:=λx=>some (B4 x)
theorem A25:((List.range 256).all λn=>decide (Ah2 11 (n:Int)=some (Lp.clsF (n:Int))))=true:=by kernel_rfl
theorem Oa:FO 92 [.int .u8] [.int .i64] Mq :=.fin 0 A5t λ(c:Int) r hb hx=>⟨11,by
 simp only[Mq,Za1] at hx;have h : 0<=c/\c<=255:=by have h0:inK .u8 c:=hb;simp only[inK,IntKind.min,IntKind.max] at h0;exact⟨h0.1,h0.2⟩
 obtain⟨n,rfl⟩:∃n:Nat,c=(n:Int):=⟨c.toNat,by omega⟩;have h2:=Zg2.1 A25 n (List.mem_range.2 (by omega));exact(of_decide_eq_true h2).trans (congrArg some hx)⟩
def Al7:Sig:=⟨37,[(0,.str),(2,.bool),(3,.int .i64)],[],[],0,0,0,[],[]⟩
abbrev W2:=Str×Bool×Int
def W5{R:Type}(rec:W2->Option R)(kx:Ex->W2->Option R)(v:W2):Option R:=match v with
 |(v,v1,v2) =>
 cond (decide (v2<(v.length:Int))) (
  chk (inb v2 v.length) (
  cond (!decide ((B4 (bat v v2))=2)) (
   cond (decide (v2=0)) (
   kx .ret (v,false,v2)) (
   cond (!decide ((B4 (bat v v2))=3)) (
    cond (!decide ((B4 (bat v v2))=4)) (
    kx .ret (v,false,v2)) (
    rec (v,v1,(wr .i64 (v2+1))))) (
    rec (v,v1,(wr .i64 (v2+1)))))) (
   rec (v,v1,(wr .i64 (v2+1)))))) (
  kx (.exit 0) (v,v1,v2))
def Azk(R:Type)(k:Nat):Px R:=pxO [(92,cA Mq)] [] [(2,Ao k Al7 (W5))] []
def Aoo(k:Nat)(x:HV [.str]):Option (HV [.bool]):=match x with
 |s =>
 Ak (λrec=>W5 rec (λe vz=>match vz with|(v3,v4,_)=>match e with
  |.ret =>
  some v4
  |.exit 0 =>
  cond (decide (1<=(v3.length:Int))) (
   some (decide ((v3.length:Int)<=30))) (
   some false)
  |_=>none)) k (s,false,0)
theorem Ba0(k:Nat):FO 72 [.str] [.bool] (Aoo k):=fR (px:=Azk _ k) (n:=1) Tryz.func72 rfl (λcx H=>by have h0:Lv cx (Azk (HV [.bool]) k):=lv H (c1 H Oa Ah) Ae Ab;have hlrname_0:=lO H h0 (b:=lp Tryz.f72 0) (k:=k) (n:=0) (s:=Al7) (step:=W5) (λ_ _ _ (_,_,_)=>by kernel_rfl) Aj;exact⟨h0,(Bh Aj hlrname_0)⟩) λ_=>by kernel_rfl
def Tq(s:Str):Bool:=Lp.rnameF s
def Ww:FT [.str] [.bool]:=λx=>some (Tq x)
theorem Am1{R:Type}{kx:Ex->W2->Option R}{s:Str}{c:Bool->Option R}(hn:ln s.length)(h1:∀j,kx .ret (s,false,j)=c false)(h2:∀q j,kx (.exit 0) (s,q,j)=c true):∀(k i:Nat) q,i<=s.length->s.length-i<k->Ak (λrec=>W5 rec kx) k (s,q,(i:Int))=c (Lp.okGo (s.drop i) i)
 |0,i,q,_,h=>absurd h (Zm1 _)
 |k+1,i,q,hi,h=>by
  rw[Aw];by_cases hl:i<s.length
  ·have ih:=Am1 hn h1 h2 k (i+1) q (by omega) (by omega);have en:((i+1:Nat):Int)=(i:Int)+1:=by omega
   simp only[W5,A1 hl hn,ih,h1,An hl,Cg hl,A5 hl,chk,Aa,B4,Lp.okGo,Lp.nmOk];rw[Ze1 (show(i:Int)<(s.length:Int) by omega),en];cases decide (Lp.clsF (s[i].toNat:Int)=2)<;>cases decide ((i:Int)=0)<;>cases decide (Lp.clsF (s[i].toNat:Int)=3)<;>cases decide (Lp.clsF (s[i].toNat:Int)=4)<;>rfl
  ·simp only[W5,h2];rw[Zd1 (by omega),Zk1 (by omega)];rfl
theorem Ac5:FO 72 [.str] [.bool] Ww :=.fin 0 Ba0 λs r hb hx=>⟨s.length+1,by simp only[Ww,Za1] at hx;subst hx;simp only[Aoo];refine(Am1 (s:=s) (c:=λb=>cond b (cond (decide (1<=(s.length:Int))) (some (decide ((s.length:Int)<=30))) (some false)) (some false)) hb (λ_=>rfl) (λ_ _=>rfl) (s.length+1) 0 false (Nat.zero_le _) (by omega)).trans ?_;rw[Zq1,Tq,Lp.rnameF];show cond (Lp.okGo s 0) _ _=_;cases Lp.okGo s 0<;>cases decide (1<=(s.length:Int))<;>rfl⟩
theorem Nm(s:Str):Tq s=Dr s:=(Lp.name_eq s).symm
def Bkb(R:Type):Px R:=pxO [] [] [] []
def Am9(x:HV [.int .i64]):Option (HV [.str]):=match x with
 |kind =>
 cond (decide (kind<0)) (
  some []) (
  cond (decide (15<=kind)) (
  some []) (
  chk (inb kind 15) (
   some (at' .str [[],[],[],[],[65,78,68],[79,82],[61],[60,62],[60],[60,61],[62],[62,61],[43],[45],[42]] kind))))
theorem A9z:FO 36 [.int .i64] [.str] (Am9):=fR (px:=Bkb _) (n:=0) Tryz.func36 rfl (λ_ H=>⟨lv H Ah Ae Ab,Aj⟩) λ_=>by kernel_rfl
def Br6:List Str:=[[],[],[],[],[65,78,68],[79,82],[61],[60,62],[60],[60,61],[62],[62,61],[43],[45],[42]]
def Abd(k:Int):Str:=if k<0\/15<=k then [] else at' .str Br6 k
def Ais:FT [.int .i64] [.str]:=λx=>some (Abd x)
theorem Azn:FO 36 [.int .i64] [.str] Ais :=.fin0 A9z λ(k:Int) r _ hx=>by
 simp only[Ais,Za1] at hx;subst hx;simp only[Am9,Abd];by_cases h1:k<0
 ·rw[Ze1 h1,if_pos (.inl h1)];rfl
 ·by_cases h2 : 15<=k
  ·rw[Zd1 h1,Ze1 h2,if_pos (.inr h2)];rfl
  ·rw[Zd1 h1,Zd1 h2,if_neg (by omega)];obtain⟨j,rfl⟩:∃j:Nat,k=(j:Int):=⟨k.toNat,by omega⟩;rw[A5 (i:=j) (n:=15) (by omega)];rfl
def Bnu(R:Type):Px R:=pxO [] [] [] []
def Adu(x:HV [.sl .tok false,.sv .got]):Option (HV [.sv .tok]):=match x with
 |(l,g) =>
 cond (decide (g.pos<(l.length:Int))) (
  chk (inb g.pos l.length) (
  some (at' .tok l g.pos))) (
  some (Tok.mk 0 0 [] 0))
theorem Bgk:FO 136 [.sl .tok false,.sv .got] [.sv .tok] (Adu):=fR (px:=Bnu _) (n:=0) Tryz.func136 rfl (λ_ H=>⟨lv H Ah Ae Ab,Aj⟩) λ(_,_)=>by kernel_rfl
def Ae6(l:List Tok)(g:GotS):Option Tok:=Adu (l,g)
def Afi:FT [.sl .tok false,.sv .got] [.sv .tok]:=λx=>Ae6 x.1 x.2
theorem Acj:FO 136 [.sl .tok false,.sv .got] [.sv .tok] Afi :=.fin0 Bgk λ_ _ _ hx=>hx
def Bro(R:Type):Px R:=pxO [(136,cA Afi)] [] [] []
def Aa0(x:HV [.sl .tok false,.sv .got,.str]):Option (HV [.bool]):=match x with
 |(l,g,s) =>
 (Ae6 l g).bind λx =>
  cond (!g.bad) (
  cond (decide (x.kind=1)) (
   some (decide (x.s=s))) (
   cond (decide (x.kind=6)) (
   some (decide (x.s=s))) (
   some false))) (
  some false)
theorem Bne:FO 88 [.sl .tok false,.sv .got,.str] [.bool] (Aa0):=fR (px:=Bro _) (n:=0) Tryz.func88 rfl (λ_ H=>⟨lv H (c1 H Acj Ah) Ae Ab,Aj⟩) λ(_,_,_)=>by kernel_rfl
def gis(l:List Tok)(g:GotS)(s:Str):Option Bool:=Aa0 (l,g,s)
def Kq:FT [.sl .tok false,.sv .got,.str] [.bool]:=λx=>gis x.1 x.2.1 x.2.2
theorem Hm:FO 88 [.sl .tok false,.sv .got,.str] [.bool] Kq :=.fin0 Bne λ_ _ _ hx=>hx
def Ahr:Sig:=⟨43,[(0,.sl .tok false),(2,.str),(7,.int .i64),(8,.int .i64)],[(4,.ptr 0 0),(6,.ptr 1 0)],[(0,.one (.sv .got)),(1,.one (.sv .got))],2,0,0,[],[]⟩
abbrev Z0:=List Tok×Str×Int×Int×GotS×GotS
def Akp{R:Type}(rec:Z0->Option R)(kx:Ex->Z0->Option R)(v:Z0):Option R:=match v with
 |(v,v1,v2,v3,w,w1) =>
 cond (decide (v3<=(v1.length:Int))) (
  let j:=λ(_:Unit) =>
  chk (Dp v2 v3 v1.length) (
   (gis v w (cut v1 v2 v3)).bind λx =>
   cond (!x) (
    kx .ret (v,v1,v2,v3,w,(GotS.mk w.pos true))) (
    rec (v,v1,(wr .i64 (v3+1)),(wr .i64 (v3+1)),(GotS.mk (wr .i64 (w.pos+1)) w.bad),w1)))
  cond (decide (v3<(v1.length:Int))) (
  chk (inb v3 v1.length) (
   cond (!decide ((bat v1 v3)=32)) (
   rec (v,v1,v2,(wr .i64 (v3+1)),w,w1)) (
   j ()))) (
  j ())) (
  kx (.exit 0) (v,v1,v2,v3,w,w1))
def Asi(R:Type)(k:Nat):Px R:=pxO [(88,cA Kq)] [] [(3,Ao k Ahr (Akp))] []
def Aho(k:Nat)(x:HV [.sl .tok false,.sv .got,.str]):Option (HV [.sv .got]):=match x with
 |(l,g,s) =>
 Ak (λrec=>Akp rec (λe vz=>match vz with|(_,_,_,_,v8,v9)=>match e with
  |.ret =>
  some v9
  |.exit 0 =>
  some v8
  |_=>none)) k (l,s,0,0,g,(GotS.mk 0 false))
theorem A2m(k:Nat):FO 130 [.sl .tok false,.sv .got,.str] [.sv .got] (Aho k):=fR (px:=Asi _ k) (n:=1) Tryz.func130 rfl (λcx H=>by have h0:Lv cx (Asi (HV [.sv .got]) k):=lv H (c1 H Hm Ah) Ae Ab;have hlgafter_0:=lO H h0 (b:=lp Tryz.f130 0) (k:=k) (n:=0) (s:=Ahr) (step:=Akp) (λ_ _ _ (_,_,_,_,_,_)=>by kernel_rfl) Aj;exact⟨h0,(Bh Aj hlgafter_0)⟩) λ(_,_,_)=>by kernel_rfl
def A0(l:List Tok)(g:GotS)(s:Str):Option GotS:=Aho (s.length+2) (l,g,s)
def Fj:FT [.sl .tok false,.sv .got,.str] [.sv .got]:=λx=>A0 x.1 x.2.1 x.2.2
theorem E0:FO 130 [.sl .tok false,.sv .got,.str] [.sv .got] Fj :=.fin 0 A2m λ(_,_,s) _ _ hx=>⟨s.length+2,hx⟩
def Bkm(R:Type):Px R:=pxO [(136,cA Afi)] [] [] []
def Sl(x:HV [.sl .tok false,.sv .got]):Option (HV [.str,.sv .got]):=match x with
 |(l,g) =>
 (Ae6 l g).bind λx =>
  cond (g.bad) (
  some ([],(GotS.mk g.pos true))) (
  cond (!decide (x.kind=2)) (
   some ([],(GotS.mk g.pos true))) (
   some (x.s,(GotS.mk (wr .i64 (g.pos+1)) false))))
theorem Bax:FO 129 [.sl .tok false,.sv .got] [.str,.sv .got] (Sl):=fR (px:=Bkm _) (n:=0) Tryz.func129 rfl (λ_ H=>⟨lv H (c1 H Acj Ah) Ae Ab,Aj⟩) λ(_,_)=>by kernel_rfl
def Dm(l:List Tok)(g:GotS):Option (Str×GotS):=Sl (l,g)
def Mz:FT [.sl .tok false,.sv .got] [.str,.sv .got]:=λx=>Dm x.1 x.2
theorem L3:FO 129 [.sl .tok false,.sv .got] [.str,.sv .got] Mz :=.fin0 Bax λ_ _ _ hx=>hx
def Aha:Sig:=⟨35,[(0,.sl .tok false),(4,.sl .str false),(6,.sl .str true)],[(3,.ptr 0 0),(5,.ptr 1 0)],[(0,.one (.sv .got)),(1,.one (.sv .got))],2,0,0,[],[]⟩
abbrev Ht:=List Tok×List Str×List Str×GotS×GotS
def J8{R:Type}(rec:Ht->Option R)(kx:Ex->Ht->Option R)(v:Ht):Option R:=match v with
 |(v,v1,v2,w,w1) =>
 (Dm v w).bind λ(x1,x2) =>
  chk (decide (v2.length+1<=Al)) (
  (gis v x2 [44]).bind λx3 =>
   cond (!x3) (
   (A0 v x2 [41]).bind λx4 =>kx .ret (v,(v2++[x1]),(v2++[x1]),x2,x4)) (
   rec (v,v1,(v2++[x1]),(GotS.mk (wr .i64 (x2.pos+1)) x2.bad),w1)))
def Asy(R:Type)(k:Nat):Px R:=pxO [(130,cA Fj),(129,cA Mz),(88,cA Kq)] [] [(3,Ao k Aha (J8))] []
def U6(k:Nat)(x:HV [.sl .tok false,.sv .got]):Option (HV [.sl .str false,.sv .got]):=match x with
 |(l,g) =>
 (A0 l g [40]).bind λx =>
  Ak (λrec=>J8 rec (λe vz=>match vz with|(_,v4,_,_,v7)=>match e with
  |.ret =>some (v4,v7)
  |_=>none)) k (l,[],[],x,(GotS.mk 0 false))
theorem A3k(k:Nat):FO 131 [.sl .tok false,.sv .got] [.sl .str false,.sv .got] (U6 k):=fR (px:=Asy _ k) (n:=1) Tryz.func131 rfl (λcx H=>by have h0:Lv cx (Asy (HV [.sl .str false,.sv .got]) k):=lv H (c1 H E0 (c1 H L3 (c1 H Hm Ah))) Ae Ab;have hlgnames_0:=lO H h0 (b:=lp Tryz.f131 0) (k:=k) (n:=0) (s:=Aha) (step:=J8) (λ_ _ _ (_,_,_,_,_)=>by kernel_rfl) Aj;exact⟨h0,(Bh Aj hlgnames_0)⟩) λ(_,_)=>by kernel_rfl
def Sd(l:List Tok)(g:GotS):Option (List Str×GotS):=U6 (l.length+2) (l,g)
def Am0:FT [.sl .tok false,.sv .got] [.sl .str false,.sv .got]:=λx=>Sd x.1 x.2
theorem Apt:FO 131 [.sl .tok false,.sv .got] [.sl .str false,.sv .got] Am0 :=.fin 0 A3k λ(l,_) _ _ hx=>⟨l.length+2,hx⟩
def Aga:Sig:=⟨29,[(2,.int .i64),(3,.int .i64),(4,.sl .int true),(5,.int .i64)],[(1,.ptr 0 0)],[(0,.one (.sv .tok))],1,0,0,[],[]⟩
abbrev Z4:=Int×Int×List Int×Int×Tok
def Aat{R:Type}(rec:Z4->Option R)(kx:Ex->Z4->Option R)(v:Z4):Option R:=match v with
 |(v,v1,v2,v3,w) =>
 cond (decide (v3<=14)) (
  cond (decide ((Abd v3)=w.s)) (
  chk (inb v3 v2.length) (
   kx .ret ((at' .int v2 v3),v3,v2,v3,w))) (
  rec (v,v1,v2,(wr .i64 (v3+1)),w))) (
  kx (.exit 0) (v,v1,v2,v3,w))
def As6(R:Type)(k:Nat):Px R:=pxO [] [(36,qA Ais)] [(5,Ao k Aga (Aat))] []
def J4(k:Nat)(x:HV [.sv .tok]):Option (HV [.int .i64,.int .i64]):=match x with
 |t =>
 let j:=λ(_:Unit) =>
  Ak (λrec=>Aat rec (λe vz=>match vz with|(v4,v5,_,_,_)=>match e with
  |.ret =>some (v4,v5)
  |.exit 0 =>some (0,0)
  |_=>none)) k (0,0,[0,0,0,0,2,1,4,4,4,4,4,4,5,5,6],4,t)
 cond (!decide (t.kind=1)) (
  cond (!decide (t.kind=6)) (
  some (0,0)) (
  j ())) (
  j ())
theorem A5f(k:Nat):FO 141 [.sv .tok] [.int .i64,.int .i64] (J4 k):=fR (px:=As6 _ k) (n:=1) Tryz.func141 rfl (λcx H=>by have h0:Lv cx (As6 (HV [.int .i64,.int .i64]) k):=lv H Ah (q1 H Azn Ae) Ab;have hlgbinds_0:=lO H h0 (b:=lp Tryz.f141 0) (k:=k) (n:=0) (s:=Aga) (step:=Aat) (λ_ _ _ (_,_,_,_,_)=>by kernel_rfl) Aj;exact⟨h0,(Bh Aj hlgbinds_0)⟩) λ_=>by kernel_rfl
def Ajz(t:Tok):Option (Int×Int):=J4 20 t
def A03:FT [.sv .tok] [.int .i64,.int .i64]:=λx=>Ajz x
theorem Bes:FO 141 [.sv .tok] [.int .i64,.int .i64] A03 :=.fin 0 A5f λ_ _ _ hx=>⟨20,hx⟩
def Ajx:Sig:=⟨150,[(0,.sl .tok false),(2,.int .i64),(9,.int .i64)],[(4,.ptr 0 0),(6,.ptr 1 0),(7,.ptr 2 0),(8,.ptr 3 0)],[(0,.one (.sv .got)),(1,.one (.sv .expr)),(2,.one (.sv .got)),(3,.one (.sv .expr))],4,0,0,[],[]⟩
abbrev O2:=List Tok×Int×Int×GotS×Xpr×GotS×Xpr
def Nu{R:Type}(rf:FT [.sl .tok false,.sv .got,.int .i64] [.sv .expr,.sv .got])(rec:O2->Option R)(kx:Ex->O2->Option R)(v:O2):Option R:=match v with
 |(v,v1,v2,w,w1,w2,w3) =>
 cond (!w.bad) (
  (Ae6 v w).bind λc =>
  (Ajz c).bind λ(a,b) =>
   let j5:=λ(d:Bool) =>
   cond (d) (
    (gis v (GotS.mk (wr .i64 (w.pos+1)) w.bad) [78,79,84]).bind λe =>
    cond (e) (
     (A0 v (GotS.mk (wr .i64 ((wr .i64 (w.pos+1))+1)) w.bad) [78,85,76,76]).bind λf =>
     rec (v,v1,4,f,w1,w2,(Xpr.mk 3 ⟨0,0,[]⟩ [] [(Xpr.mk 16 ⟨0,0,[]⟩ [] [w3])]))) (
     (A0 v (GotS.mk (wr .i64 (w.pos+1)) w.bad) [78,85,76,76]).bind λg =>
     rec (v,v1,4,g,w1,w2,(Xpr.mk 16 ⟨0,0,[]⟩ [] [w3])))) (
    let j7:=λ(h:Bool) =>
    let j6:=λ(i:Bool) =>
     cond (i) (
     kx (.exit 1) (v,v1,v2,w,w1,w2,w3)) (
     cond (decide (a=4)) (
      cond (decide (v2=4)) (
      kx (.exit 1) (v,v1,v2,w,w1,w2,w3)) (
      (rf (v,(GotS.mk (wr .i64 (w.pos+1)) false),(wr .i64 (a+1)))).bind λ(j,k) =>rec (v,v1,a,k,w1,w2,(Xpr.mk b ⟨0,0,[]⟩ [] [w3,j])))) (
      (rf (v,(GotS.mk (wr .i64 (w.pos+1)) false),(wr .i64 (a+1)))).bind λ(l,m) =>
      rec (v,v1,a,m,w1,w2,(Xpr.mk b ⟨0,0,[]⟩ [] [w3,l]))))
    cond (h) (
     j6 true) (
     j6 (decide (v2<a)))
    cond (decide (a=0)) (
    j7 true) (
    j7 (decide (a<v1))))
   (gis v w [73,83]).bind λn =>
   cond (n) (
    cond (decide (v1<=4)) (
    j5 (decide (4<v2))) (
    j5 false)) (
    j5 false)) (
  kx (.exit 1) (v,v1,v2,w,w1,w2,w3))
def Ak2(R:Type)(_k:Nat)(_rf:FT [.sl .tok false,.sv .got,.int .i64] [.sv .expr,.sv .got]):Px R:=pxO [] [] [] []
def Alz(R:Type)(_k:Nat)(rf:FT [.sl .tok false,.sv .got,.int .i64] [.sv .expr,.sv .got]):Px R:=pxO [(136,cA Afi),(130,cA Fj),(91,cA rf)] [(130,qA Fj)] [] []
def Alf(R:Type)(_k:Nat)(_rf:FT [.sl .tok false,.sv .got,.int .i64] [.sv .expr,.sv .got]):Px R:=pxO [] [] [] []
noncomputable def Az7(R:Type)(k:Nat)(rf:FT [.sl .tok false,.sv .got,.int .i64] [.sv .expr,.sv .got]):Px R:=pxO [(88,cA Kq),(91,cA rf),(136,cA Afi),(141,cA A03),(130,cA Fj),(139,Vu 40 200 (Ak2 R k rf) Tryz.f139 (Av 80 400 (Alf R k rf) Tryz.f139)),(140,Av 40 200 (Alz R k rf) Tryz.f140)] [] [(17,Ao k Ajx (Nu rf))] []
def F9(k:Nat)(rf:FT [.sl .tok false,.sv .got,.int .i64] [.sv .expr,.sv .got])(x:HV [.sl .tok false,.sv .got,.int .i64]):Option (HV [.sv .expr,.sv .got]):=match x with
 |(l,g,m) =>
 let j8:=λ(a:Int) (q5:GotS) (q6:Xpr) =>
  Ak (λrec=>Nu rf rec (λe vz=>match vz with|(_,_,_,v6,_,_,v9)=>match e with
  |.exit 1 =>some (v9,v6)
  |_=>none)) k (l,m,a,q5,(Xpr.mk 0 ⟨0,0,[]⟩ [] []),(GotS.mk 0 false),q6)
 cond (g.bad) (
  some ((Xpr.mk 0 ⟨0,0,[]⟩ [] []),g)) (
  let j4:=λ(p1:Bool) =>
  cond (p1) (
   (rf (l,(GotS.mk (wr .i64 (g.pos+1)) false),3)).bind λ(x1,x2) =>
   j8 3 x2 (Xpr.mk 3 ⟨0,0,[]⟩ [] [x1])) (
   (gis l g [45]).bind λx3 =>
   cond (x3) (
    (rf (l,(GotS.mk (wr .i64 (g.pos+1)) false),7)).bind λ(x4,x5) =>
    j8 7 x5 (Xpr.mk 15 ⟨0,0,[]⟩ [] [x4])) (
    (Ae6 l g).bind λx6 =>
    cond (decide (x6.kind=2)) (
     j8 7 (GotS.mk (wr .i64 (g.pos+1)) false) (Xpr.mk 2 ⟨0,0,[]⟩ x6.s [])) (
     cond (decide (x6.kind=3)) (
     j8 7 (GotS.mk (wr .i64 (g.pos+1)) false) (Xpr.mk 1 ⟨3,x6.n,[]⟩ [] [])) (
     let j3:=λ(p3:Bool) =>
      cond (p3) (
      j8 7 (GotS.mk (wr .i64 (g.pos+1)) false) (Xpr.mk 1 ⟨x6.kind,0,x6.s⟩ [] [])) (
      let j2:=λ(p5:Bool) =>
       cond (p5) (
       j8 7 (GotS.mk (wr .i64 (g.pos+1)) false) (Xpr.mk 1 ⟨1,0,[]⟩ [] [])) (
       let j1:=λ(p7:Bool) =>
        cond (p7) (
        j8 7 (GotS.mk (wr .i64 (g.pos+1)) false) (Xpr.mk 1 ⟨2,0,[]⟩ [] [])) (
        let j:=λ(p9:Bool) =>
         cond (p9) (
         j8 7 (GotS.mk (wr .i64 (g.pos+1)) false) (Xpr.mk 1 ⟨2,1,[]⟩ [] [])) (
         (A0 l g [40]).bind λx7 =>
          (rf (l,x7,1)).bind λ(x8,x9) =>
          (A0 l x9 [41]).bind λb =>j8 7 b x8)
        cond (decide (x6.kind=1)) (
         j (decide (x6.s=[84,82,85,69]))) (
         j false))
       cond (decide (x6.kind=1)) (
        j1 (decide (x6.s=[70,65,76,83,69]))) (
        j1 false))
      cond (decide (x6.kind=1)) (
       j2 (decide (x6.s=[78,85,76,76]))) (
       j2 false))
     cond (decide (x6.kind=4)) (
      j3 true) (
      j3 (decide (x6.kind=5)))))))
  (gis l g [78,79,84]).bind λx =>
  cond (x) (
   j4 (decide (m<=3))) (
   j4 false))
theorem Bc2(k:Nat)(rf:FT [.sl .tok false,.sv .got,.int .i64] [.sv .expr,.sv .got])(hrf:FO 91 [.sl .tok false,.sv .got,.int .i64] [.sv .expr,.sv .got] rf):FO 91 [.sl .tok false,.sv .got,.int .i64] [.sv .expr,.sv .got] (F9 k rf):=fR (px:=Az7 _ k rf) (n:=1) Tryz.func91 rfl (λcx H=>by have h1:Lv cx (Ak2 (HV [.sv .expr,.sv .got]) k rf):=lv H Ah Ae Ab;have h2:Lv cx (Alz (HV [.sv .expr,.sv .got]) k rf):=lv H (c1 H Acj (c1 H E0 (c1 H hrf Ah))) (q1 H E0 Ae) Ab;have h3:Lv cx (Alf (HV [.sv .expr,.sv .got]) k rf):=lv H Ah Ae Ab;have h0:Lv cx (Az7 (HV [.sv .expr,.sv .got]) k rf):=lv H (c1 H Hm (c1 H hrf (c1 H Acj (c1 H Bes (c1 H E0 (As (Ax3 (cR H h1 Tryz.func139 rfl (n:=0) (Aj)) (cR H h3 Tryz.func139 rfl (n:=0) (Aj))) (As (cR H h2 Tryz.func140 rfl (n:=0) (Aj)) Ah))))))) Ae Ab;have hlgexpr_0:=lO H h0 (b:=lp Tryz.f91 0) (k:=k) (n:=0) (s:=Ajx) (step:=Nu rf) (λ_ _ _ (_,_,_,_,_,_,_)=>by kernel_rfl) Aj;exact⟨h0,(Bh Aj hlgexpr_0)⟩) λ(_,_,_)=>by kernel_rfl
def Vo(rf:FT [.sl .tok false,.sv .got,.int .i64] [.sv .expr,.sv .got]):FT [.sl .tok false,.sv .got,.int .i64] [.sv .expr,.sv .got]:=λx=>F9 (x.1.length+3) rf x
theorem Bab(rf:FT [.sl .tok false,.sv .got,.int .i64] [.sv .expr,.sv .got])(hrf:FnOk Tryz.prog elT glT 91 [.sl .tok false,.sv .got,.int .i64] [.sv .expr,.sv .got] rf):FnOk Tryz.prog elT glT 91 [.sl .tok false,.sv .got,.int .i64] [.sv .expr,.sv .got] (Vo rf) :=.fin (ι:=Nat) 0 (F:=λk=>F9 k rf) (λk=>Bc2 k rf hrf) λx _ _ hx=>⟨x.1.length+3,hx⟩
def Kr(l:List Tok)(g:GotS)(m:Int):Option (Xpr×GotS):=Ak (V:=HV [.sl .tok false,.sv .got,.int .i64]) (R:=HV [.sv .expr,.sv .got]) Vo (l.length+3) (l,g,m)
def Rn:FT [.sl .tok false,.sv .got,.int .i64] [.sv .expr,.sv .got]:=λx=>Kr x.1 x.2.1 x.2.2
theorem Pd:FO 91 [.sl .tok false,.sv .got,.int .i64] [.sv .expr,.sv .got] Rn :=.fin (ι:=Nat) 0 (F:=λn=>Ak (V:=HV [.sl .tok false,.sv .got,.int .i64]) (R:=HV [.sv .expr,.sv .got]) Vo n) (λn=>FnOk.rec' (Sx.enters_of Tryz.func91 rfl rfl) (λrf hrf=>Bab rf hrf) n) λ(l,_,_) _ _ hx=>⟨l.length+3,hx⟩
def Ahy:Sig:=⟨30,[(0,.sl .tok false),(4,.sl .expr false),(6,.sl .expr true)],[(3,.ptr 0 0),(5,.ptr 1 0)],[(0,.one (.sv .got)),(1,.one (.sv .got))],2,0,0,[],[]⟩
abbrev Hr:=List Tok×List Xpr×List Xpr×GotS×GotS
def Mj{R:Type}(rec:Hr->Option R)(kx:Ex->Hr->Option R)(v:Hr):Option R:=match v with
 |(v,v1,v2,w,w1) =>
 (Kr v w 1).bind λ(x,x1) =>
  chk (decide (v2.length+1<=Al)) (
  (gis v x1 [44]).bind λx2 =>
   cond (!x2) (
   kx .ret (v,(v2++[x]),(v2++[x]),x1,x1)) (
   rec (v,v1,(v2++[x]),(GotS.mk (wr .i64 (x1.pos+1)) x1.bad),w1)))
def Apb(R:Type)(k:Nat):Px R:=pxO [(91,cA Rn),(88,cA Kq)] [] [(2,Ao k Ahy (Mj))] []
def Tg(k:Nat)(x:HV [.sl .tok false,.sv .got]):Option (HV [.sl .expr false,.sv .got]):=match x with
 |(l,g) =>
 Ak (λrec=>Mj rec (λe vz=>match vz with|(_,v4,_,_,v7)=>match e with
  |.ret =>
  some (v4,v7)
  |_=>none)) k (l,[],[],g,(GotS.mk 0 false))
theorem A4y(k:Nat):FO 166 [.sl .tok false,.sv .got] [.sl .expr false,.sv .got] (Tg k):=fR (px:=Apb _ k) (n:=1) Tryz.func166 rfl (λcx H=>by have h0:Lv cx (Apb (HV [.sl .expr false,.sv .got]) k):=lv H (c1 H Pd (c1 H Hm Ah)) Ae Ab;have hlgexprs_0:=lO H h0 (b:=lp Tryz.f166 0) (k:=k) (n:=0) (s:=Ahy) (step:=Mj) (λ_ _ _ (_,_,_,_,_)=>by kernel_rfl) Aj;exact⟨h0,(Bh Aj hlgexprs_0)⟩) λ(_,_)=>by kernel_rfl
def Up(l:List Tok)(g:GotS):Option (List Xpr×GotS):=Tg (l.length+2) (l,g)
def Akg:FT [.sl .tok false,.sv .got] [.sl .expr false,.sv .got]:=λx=>Up x.1 x.2
theorem Atr:FO 166 [.sl .tok false,.sv .got] [.sl .expr false,.sv .got] Akg :=.fin 0 A4y λ(l,_) _ _ hx=>⟨l.length+2,hx⟩
def Atc:Sig:=⟨74,[(0,.sl .tok false),(8,.sl .str true),(9,.int .i64)],[(3,.ptr 0 0),(4,.ptr 1 0),(5,.ptr 2 0),(7,.ptr 3 0)],[(0,.one (.sv .got)),(1,.one (.sv .col)),(2,.one (.sv .got)),(3,.one (.sv .col))],4,0,0,[],[]⟩
abbrev Oc:=List Tok×List Str×Int×GotS×Col×GotS×Col
def Lu{R:Type}(rec:Oc->Option R)(kx:Ex->Oc->Option R)(v:Oc):Option R:=match v with
 |(v,v1,v2,w,w1,w2,w3) =>
 cond (decide (v2<=5)) (
  chk (inb v2 v1.length) (
  (gis v w (at' .str v1 v2)).bind λx2 =>
   cond (x2) (
   rec (v,v1,(wr .i64 (v2+1)),w,w1,w2,(Col.mk w3.name v2 w3.notNull w3.unique w3.ref))) (
   rec (v,v1,(wr .i64 (v2+1)),w,w1,w2,w3)))) (
  kx (.exit 0) (v,v1,v2,w,w1,w2,w3))
def A8c(R:Type)(k:Nat):Px R:=pxO [(129,cA Mz),(88,cA Kq),(130,cA Fj)] [] [(5,Ao k Atc (Lu))] []
def Afd(k:Nat)(x:HV [.sl .tok false,.sv .got]):Option (HV [.sv .col,.sv .got]):=match x with
 |(l,g) =>
 (Dm l g).bind λ(x,x1) =>
  Ak (λrec=>Lu rec (λe vz=>match vz with|(v3,_,_,v6,_,_,v9)=>match e with
  |.exit 0 =>
   cond (decide (v9.kind=0)) (
   some (v9,(GotS.mk v6.pos true))) (
   let j1:=λ(q1:GotS) (q2:Col) =>
    let j:=λ(q3:GotS) (q4:Col) =>
    (gis v3 q3 [82,69,70,69,82,69,78,67,69,83]).bind λx6 =>
     cond (x6) (
     (Dm v3 (GotS.mk (wr .i64 (q3.pos+1)) q3.bad)).bind λ(x7,x8) =>some ((Col.mk q4.name q4.kind q4.notNull q4.unique x7),x8)) (
     some (q4,q3))
    (gis v3 q1 [85,78,73,81,85,69]).bind λx5 =>
    cond (x5) (
     j (GotS.mk (wr .i64 (q1.pos+1)) q1.bad) (Col.mk q2.name q2.kind q2.notNull true q2.ref)) (
     j q1 q2)
   (gis v3 (GotS.mk (wr .i64 (v6.pos+1)) v6.bad) [78,79,84]).bind λx3 =>
    cond (x3) (
    (A0 v3 (GotS.mk (wr .i64 (v6.pos+1)) v6.bad) [78,79,84,32,78,85,76,76]).bind λx4 =>j1 x4 (Col.mk v9.name v9.kind true v9.unique v9.ref)) (
    j1 (GotS.mk (wr .i64 (v6.pos+1)) v6.bad) v9))
  |_=>none)) k (l,[[],[],[66,79,79,76],[73,78,84],[84,69,88,84],[66,89,84,69,83]],2,x1,(Col.mk [] 0 false false []),(GotS.mk 0 false),(Col.mk x 0 false false []))
theorem Bln(k:Nat):FO 165 [.sl .tok false,.sv .got] [.sv .col,.sv .got] (Afd k):=fR (px:=A8c _ k) (n:=1) Tryz.func165 rfl (λcx H=>by have h0:Lv cx (A8c (HV [.sv .col,.sv .got]) k):=lv H (c1 H L3 (c1 H Hm (c1 H E0 Ah))) Ae Ab;have hlgcol_0:=lO H h0 (b:=lp Tryz.f165 0) (k:=k) (n:=0) (s:=Atc) (step:=Lu) (λ_ _ _ (_,_,_,_,_,_,_)=>by kernel_rfl) Aj;exact⟨h0,(Bh Aj hlgcol_0)⟩) λ(_,_)=>by kernel_rfl
def A18(l:List Tok)(g:GotS):Option (Col×GotS):=Afd 10 (l,g)
def Bjd:FT [.sl .tok false,.sv .got] [.sv .col,.sv .got]:=λx=>A18 x.1 x.2
theorem Bnr:FO 165 [.sl .tok false,.sv .got] [.sv .col,.sv .got] Bjd :=.fin 0 Bln λ_ _ _ hx=>⟨10,hx⟩
def hd0:TL->Tok
 |[]=>⟨0,0,[],0⟩
 |t::_=>t
theorem Rb(L:TL)(i:Nat)(b:Bool):Ae6 L ⟨(i:Int),b⟩=some (hd0 (L.drop i)):=by
 simp only[Ae6,Adu];by_cases h:i<L.length
 ·rw[Ze1 (by omega),Aa,A5 h,An h];simp only[chk,Aa,A8 (c :=.tok) h];rfl
 ·rw[Zd1 (by omega),Af,Zk1 (by omega)];rfl
theorem Bub(t:Tok)(s:Str):(cond (decide (t.kind=1)) (some (decide (t.s=s))) (cond (decide (t.kind=6)) (some (decide (t.s=s))) (some false)))=some ((decide (t.kind=1)||decide (t.kind=6))&&decide (t.s=s)):=by cases decide (t.kind=1)<;>cases decide (t.kind=6)<;>rfl
theorem Gs(L:TL)(i:Nat)(s:Str):gis L ⟨(i:Int),false⟩ s=some (isT s (L.drop i)):=by simp only[gis,Aa0,Rb,Zc1,Zs1,Aa];cases L.drop i with|nil=>rfl|cons t r=>exact Bub t s
theorem H5(L:TL)(i:Nat)(s:Str):gis L ⟨(i:Int),true⟩ s=some false:=by simp only[gis,Aa0,Rb,Zc1,Zt1,Af]
theorem N1{i:Nat}(h:i<=2000000000):wr .i64 ((i:Int)+1)=((i+1:Nat):Int):=by rw[C3 (by simp only[inI];omega)];omega
theorem B6{L:TL}{i:Nat}{s:Str}(h:isT s (L.drop i)=true):i+1<=L.length/\(L.drop i).tail=L.drop (i+1):=by
 by_cases hl:i<L.length
 ·rw[An hl];exact⟨hl,rfl⟩
 ·rw[Zk1 (by omega)] at h;cases h
def aft(L:TL):List Str->GotS->Option GotS
 |[],g=>some g
 |w::ws,g=>(gis L g w).bind λx=>cond (!x) (some ⟨g.pos,true⟩) (aft L ws ⟨wr .i64 (g.pos+1),g.bad⟩)
theorem Bmx(L:TL)(i:Nat):∀ws,aft L ws ⟨(i:Int),true⟩=some ⟨(i:Int),true⟩
 |[]=>rfl
 |w::ws=>by simp only[aft,H5,Zc1,Zs1,Aa]
theorem A7w{L:TL}(hL:L.length<=1000000000):∀(ws:List Str) (i:Nat),i<=L.length->match Ay ws (L.drop i) with|.ok (_,m)=>∃j,i<=j/\j<=L.length/\m=L.drop j/\aft L ws ⟨(i:Int),false⟩=some ⟨(j:Int),false⟩|.error q=>∃j,j<=L.length/\q=L.drop j/\aft L ws ⟨(i:Int),false⟩=some ⟨(j:Int),true⟩
 |[],i,hi=>⟨i,Zn1 _,hi,rfl,rfl⟩
 |w::ws,i,hi=>by
  simp only[Ay,aft,Gs,Zc1];cases h:isT w (L.drop i) with
  |false=>exact⟨i,hi,rfl,rfl⟩
  |true =>obtain⟨h1,h2⟩:=B6 h;have ih:=A7w hL ws (i+1) h1;simp only[Zt1,Af,h2,N1 (show i<=2000000000 by omega)];cases hq:Ay ws (L.drop (i+1)) with|error q =>rw[hq] at ih;exact ih|ok x =>obtain⟨u,m⟩:=x;rw[hq] at ih;obtain⟨j,a1,a2,a3,a4⟩:=ih;exact⟨j,by omega,a2,a3,a4⟩
theorem Ady(L:TL)(g:GotS):A0 L g [40]=aft L [[40]] g:=by kernel_rfl
theorem N7(L:TL)(g:GotS):A0 L g [41]=aft L [[41]] g:=by kernel_rfl
theorem Bhi(L:TL)(g:GotS):A0 L g [44]=aft L [[44]] g:=by kernel_rfl
theorem Bgo(L:TL)(g:GotS):A0 L g [61]=aft L [[61]] g:=by kernel_rfl
theorem Bjp(L:TL)(g:GotS):A0 L g [78,85,76,76]=aft L [sNULL] g:=by kernel_rfl
theorem Bnj(L:TL)(g:GotS):A0 L g [78,79,84,32,78,85,76,76]=aft L [sNOT,sNULL] g:=by kernel_rfl
structure SimG {α:Type}(L:TL) (n:Nat) (F:GotS->Option (α×GotS)) (p:TL->PR α):Prop where
 ok:∀(i:Nat) e m,i<=L.length->L.length-i<n->p (L.drop i) = .ok (e,m)->∃j:Nat,j<=L.length/\m=L.drop j/\F ⟨(i:Int),false⟩=some (e,⟨(j:Int),false⟩)
 er:∀(i:Nat) q,i<=L.length->L.length-i<n->p (L.drop i) = .error q->∃(j:Nat) (e : α),j<=L.length/\q=L.drop j/\F ⟨(i:Int),false⟩=some (e,⟨(j:Int),true⟩)
 bad:∀i:Nat,∃e,F ⟨(i:Int),true⟩=some (e,⟨(i:Int),true⟩)
def Bc{γ:Type}(L:TL)(x:Option (γ×GotS))(y:PR γ):Prop:=match y with|.ok (r,m)=>∃j:Nat,j<=L.length/\m=L.drop j/\x=some (r,⟨(j:Int),false⟩)|.error q=>∃(j:Nat) (e : γ),j<=L.length/\q=L.drop j/\x=some (e,⟨(j:Int),true⟩)
def A4{γ:Type}(x:Option (γ×GotS))(i:Nat):Prop:=∃e,x=some (e,⟨(i:Int),true⟩)
section
variable {α β γ:Type}{L:TL}{n:Nat}
theorem SimG.mono{F:GotS->Option (α×GotS)}{p:TL->PR α}(h:SimG L n F p){m:Nat}(hm:m<=n):SimG L m F p :=⟨λi e q hi hn=>h.ok i e q hi (by omega),λi q hi hn=>h.er i q hi (by omega),h.bad⟩
theorem SimG.out{F:GotS->Option (α×GotS)}{p:TL->PR α}(h:SimG L n F p){i:Nat}(hi:i<=L.length)(hn:L.length-i<n):Bc L (F ⟨(i:Int),false⟩) (p (L.drop i)):=by cases hq:p (L.drop i) with|error q=>exact h.er i q hi hn hq|ok x =>obtain⟨r,m⟩:=x;exact h.ok i r m hi hn hq
theorem SimG.of{F:GotS->Option (α×GotS)}{p:TL->PR α}(h:∀i:Nat,i<=L.length->L.length-i<n->Bc L (F ⟨(i:Int),false⟩) (p (L.drop i)))(hb:∀i:Nat,A4 (F ⟨(i:Int),true⟩) i):SimG L n F p where
 ok i e m hi hn hp:=by have:=h i hi hn;rw[hp] at this;exact this
 er i q hi hn hp:=by have:=h i hi hn;rw[hp] at this;exact this
 bad:=hb
theorem Bc.bind{F:GotS->Option (α×GotS)}{p:TL->PR α}(h:SimG L n F p){G : α×GotS->Option (γ×GotS)}{f : α->TL->PR γ}{i:Nat}(hi:i<=L.length)(hn:L.length-i<n)(h1:∀r (j:Nat),j<=L.length->p (L.drop i) = .ok (r,L.drop j)->Bc L (G (r,⟨(j:Int),false⟩)) (f r (L.drop j)))(h2:∀r (j:Nat),A4 (G (r,⟨(j:Int),true⟩)) j):Bc L ((F ⟨(i:Int),false⟩).bind G) (bP p f (L.drop i)):=by unfold bP;cases hq:p (L.drop i) with|error q =>obtain⟨j,e,a1,a2,a3⟩:=h.er i q hi hn hq;rw[a3,Zc1];obtain⟨e2,h3⟩:=h2 e j;exact⟨j,e2,a1,a2,h3⟩|ok x =>obtain⟨r,m⟩:=x;obtain⟨j,a1,a2,a3⟩:=h.ok i r m hi hn hq;subst a2;rw[a3,Zc1];exact h1 r j a1 hq
theorem A4.bind{F:GotS->Option (α×GotS)}{p:TL->PR α}(h:SimG L n F p){G : α×GotS->Option (γ×GotS)}{i:Nat}(h2:∀r,A4 (G (r,⟨(i:Int),true⟩)) i):A4 ((F ⟨(i:Int),true⟩).bind G) i:=by obtain⟨e,h1⟩:=h.bad i;rw[h1];exact h2 e
theorem Bc.must(hL:L.length<=1000000000){ws:List Str}{G:GotS->Option (γ×GotS)}{f:Unit->TL->PR γ}{i:Nat}(hi:i<=L.length)(h1:∀j:Nat,i<=j->j<=L.length->Ay ws (L.drop i) = .ok ((),L.drop j)->Bc L (G ⟨(j:Int),false⟩) (f () (L.drop j)))(h2:∀j:Nat,A4 (G ⟨(j:Int),true⟩) j):Bc L ((aft L ws ⟨(i:Int),false⟩).bind G) (bP (Ay ws) f (L.drop i)):=by have h:=A7w hL ws i hi;unfold bP;cases hq:Ay ws (L.drop i) with|error q =>rw[hq] at h;obtain⟨j,a1,a2,a3⟩:=h;rw[a3,Zc1];obtain⟨e2,h3⟩:=h2 j;exact⟨j,e2,a1,a2,h3⟩|ok x =>obtain⟨u,m⟩:=x;rw[hq] at h;obtain⟨j,a0,a1,a2,a3⟩:=h;subst a2;rw[a3,Zc1];exact h1 j a0 a1 hq
theorem A4.must{ws:List Str}{G:GotS->Option (γ×GotS)}{i:Nat}(h2:A4 (G ⟨(i:Int),true⟩) i):A4 ((aft L ws ⟨(i:Int),true⟩).bind G) i:=by rw[Bmx];exact h2
theorem Bc.ok{r : γ}{j:Nat}(hj:j<=L.length):Bc L (some (r,⟨(j:Int),false⟩)) (.ok (r,L.drop j)):=⟨j,hj,rfl,rfl⟩
theorem Bc.er{r : γ}{j:Nat}(hj:j<=L.length):Bc L (some (r,⟨(j:Int),true⟩)) (.error (L.drop j)):=⟨j,r,hj,rfl,rfl⟩
theorem A4.bd{r : γ}{j:Nat}:A4 (some (r,⟨(j:Int),true⟩)) j:=⟨r,rfl⟩
end
theorem Cb{L:TL}(hL:L.length<=1000000000)(n:Nat):SimG L n (Dm L) Bt :=.of (λi hi _=>by
 simp only[Dm,Sl,Rb,Zc1,Af];by_cases h:i<L.length
 ·rw[An h];have e:∀t:Tok,Bc L (cond (!decide (t.kind=2)) (some ([],GotS.mk i true)) (some (t.s,GotS.mk (wr .i64 ((i:Int)+1)) false))) (match decide (t.kind=2) with
    |true =>.ok (t.s,L.drop (i+1))
    |false =>.error (L.drop i)):=λt=>by
   cases decide (t.kind=2) with|true =>rw[N1 (show i<=2000000000 by omega)];exact⟨i+1,h,rfl,rfl⟩|false=>exact⟨i,[],hi,rfl,rfl⟩
  have e:=e L[i];rw[An h] at e;exact e
 ·rw[Zk1 (by omega)];exact⟨i,[],hi,(Zk1 (by omega)).symm,rfl⟩) (λi=>by
 simp only[Dm,Sl,Rb,Zc1,Aa];exact⟨_,rfl⟩)
def bch(s:Str):List (Str×Nat×Int)->Option (Int×Int)
 |[]=>some (0,0)
 |p::l=>cond (decide (p.1=s)) (some ((p.2.1:Int),p.2.2)) (bch s l)
theorem Bkc(s:Str):∀l,bch s l=some (match l.find? (λp=>decide (s=p.1)) with
  |some p=>((p.2.1:Int),p.2.2)
  |none=>(0,0))
 |[]=>rfl
 |p::l=>by
  simp only[bch,List.find?_cons];by_cases h:s=p.1
  ·rw[Ze1 h,Ze1 h.symm];rfl
  ·rw[Zd1 h,Zd1 (λe=>h e.symm),Af,Bkc s l]
theorem A20(t:Tok):Ak (λrec=>Aat rec (λe vz=>match vz with|(v4,v5,_,_,_)=>match e with
  |.ret=>some (v4,v5)
  |.exit 0=>some (0,0)
  |_=>none)) 20 (0,0,[0,0,0,0,2,1,4,4,4,4,4,4,5,5,6],4,t)=bch t.s opTab:=by kernel_rfl
theorem Bb7(l:TL):Ajz (hd0 l)=some (((Bb l).1:Int),(Bb l).2):=by
 cases l with
 |nil=>rfl
 |cons t r =>
  have key:(decide (t.kind=1)||decide (t.kind=6))=true->J4 20 t=bch t.s opTab:=λhk=>by rw[<-A20];simp only[J4];cases h1:decide (t.kind=1) with|true=>rfl|false =>rw[h1,Bool.false_or] at hk;rw[hk];rfl
  simp only[hd0,Bb];cases hk:decide (t.kind=1)||decide (t.kind=6) with
  |false =>have h1:=(Bool.or_eq_false_iff.1 hk).1;have h6:=(Bool.or_eq_false_iff.1 hk).2;simp only[Ajz,J4,h1,h6,Zs1,Aa];rfl
  |true =>simp only[Ajz,key hk,Bkc,bindS];cases opTab.find? (λp=>decide (t.s=p.1)) with|none=>rfl|some p=>rfl
def Aba(x:Except TL SR):PR Xpr:=match x with|.error q =>.error q|.ok s =>.ok (s.1,s.2.2)
theorem Boa(rec:Nat->TL->PR Xpr)(k:Nat)(l:TL):exB rec k l=Aba (exT rec k l):=by unfold exB Aba;cases exT rec k l<;>rfl
section
variable {R:Type}(J:Xpr->R) (A:R) (t:Tok)
def Bgf(p:Bool):R:=cond p (J (.mk 1 ⟨2,1,[]⟩ [] [])) A
def Be5(p:Bool):R:=cond p (J (.mk 1 ⟨2,0,[]⟩ [] [])) (cond (decide (t.kind=1)) (Bgf J A (decide (t.s=[84,82,85,69]))) (Bgf J A false))
def Bh6(p:Bool):R:=cond p (J (.mk 1 ⟨1,0,[]⟩ [] [])) (cond (decide (t.kind=1)) (Be5 J A t (decide (t.s=[70,65,76,83,69]))) (Be5 J A t false))
def A1c(p:Bool):R:=cond p (J (.mk 1 ⟨t.kind,0,t.s⟩ [] [])) (cond (decide (t.kind=1)) (Bh6 J A t (decide (t.s=[78,85,76,76]))) (Bh6 J A t false))
def Bs1:R:=cond (decide (t.kind=2)) (J (.mk 2 ⟨0,0,[]⟩ t.s [])) (cond (decide (t.kind=3)) (J (.mk 1 ⟨3,t.n,[]⟩ [] [])) (cond (decide (t.kind=4)) (A1c J A t true) (A1c J A t (decide (t.kind=5)))))
theorem Bom:Bs1 J A t=match Ab9 t with
  |some v=>J v
  |none=>A:=by
 simp only[Bs1,Ab9];by_cases k2:t.kind=2
 ·rw[Ze1 k2,if_pos k2];rfl
 rw[Zd1 k2,if_neg k2];by_cases k3:t.kind=3
 ·rw[Ze1 k3,if_pos k3];rfl
 rw[Zd1 k3,if_neg k3];by_cases k4:t.kind=4
 ·rw[Ze1 k4,if_pos k4];simp only[Af,Aa,A1c,k4];rfl
 rw[Zd1 k4,if_neg k4];by_cases k5:t.kind=5
 ·rw[Ze1 k5,if_pos k5];simp only[Af,Aa,A1c,k5];rfl
 rw[Zd1 k5,if_neg k5];simp only[Af,A1c,Bh6,Be5,Bgf];by_cases k1:t.kind=1
 ·rw[Ze1 k1];simp only[Aa];by_cases s1:t.s=Aae
  ·rw[if_pos ⟨k1,s1⟩,Zd1 (show ¬t.s=[78,85,76,76] by rw[s1];decide),Zd1 (show ¬t.s=[70,65,76,83,69] by rw[s1];decide),Ze1 (show t.s=[84,82,85,69] from s1)];rfl
  rw[if_neg (λq=>s1 q.2)];by_cases s2:t.s=Rs
  ·rw[if_pos ⟨k1,s2⟩,Zd1 (show ¬t.s=[78,85,76,76] by rw[s2];decide),Ze1 (show t.s=[70,65,76,83,69] from s2)];rfl
  rw[if_neg (λq=>s2 q.2)];by_cases s3:t.s=sNULL
  ·rw[if_pos ⟨k1,s3⟩,Ze1 (show t.s=[78,85,76,76] from s3)];rfl
  rw[if_neg (λq=>s3 q.2),Zd1 (show ¬t.s=[78,85,76,76] from s3),Zd1 (show ¬t.s=[70,65,76,83,69] from s2),Zd1 (show ¬t.s=[84,82,85,69] from s1)];rfl
 ·rw[Zd1 k1,if_neg (λq=>k1 q.1),if_neg (λq=>k1 q.1),if_neg (λq=>k1 q.1)];rfl
end
section
variable {L:TL}{n:Nat}{rf:FT [.sl .tok false,.sv .got,.int .i64] [.sv .expr,.sv .got]}
theorem Ai4{k:Int}{kx:Ex->O2->Option (Xpr×GotS)}(hkx:∀h w w1 w2 e,kx (.exit 1) (L,k,h,w,w1,w2,e)=some (e,w))(kk:Nat)(h:Int)(j:Nat)(w1:Xpr)(w2:GotS)(e:Xpr):A4 (Ak (λrec=>Nu rf rec kx) (kk+1) (L,k,h,⟨(j:Int),true⟩,w1,w2,e)) j:=by simp only[Aw,Nu,Zt1,Af,hkx];exact⟨_,rfl⟩
theorem Awy(hL:L.length<=1000000000)(hrf:∀k:Nat,1<=k->k<=7->SimG L n (λg=>rf (L,g,(k:Int))) (VV k)){k:Nat}{kx:Ex->O2->Option (Xpr×GotS)}(hkx:∀h w w1 w2 e,kx (.exit 1) (L,(k:Int),h,w,w1,w2,e)=some (e,w)):∀(kk kk' h j:Nat) (w1:Xpr) (w2:GotS) (e:Xpr),j<=L.length->L.length-j<n+1->L.length-j<kk->L.length-j<kk'->Bc L (Ak (λrec=>Nu rf rec kx) kk (L,(k:Int),(h:Int),⟨(j:Int),false⟩,w1,w2,e)) (Aba (Bz VV k kk' (e,h,L.drop j)))
 |0,_,_,_,_,_,_,_,_,h,_=>absurd h (Zm1 _)
 |_,0,_,_,_,_,_,_,_,_,h=>absurd h (Zm1 _)
 |kk+1,kk'+1,h,j,w1,w2,e,hj,hn,h1,h2=>by
  have ih:=Awy hL hrf hkx kk kk';have w0:wr .i64 ((j:Int)+1)=((j+1:Nat):Int):=N1 (by omega);have wA:wr .i64 (((j+1:Nat):Int)+1)=((j+2:Nat):Int):=N1 (by omega);simp -zeta only [Aw,Nu,Zs1,Aa,Rb,Zc1,Bb7,Gs,w0,wA];extract_lets j6 j7 j5;by_cases hi:isT sIS (L.drop j)=true/\k<=4/\4<h
  ·have hi1:isT [73,83] (L.drop j)=true:=hi.1;obtain⟨i1,i2⟩:=B6 hi.1;have hst:Cw VV k (e,h,L.drop j)=some (match isP e (L.drop j) with
     |.error q =>.error q
     |.ok (x,l') =>.ok (x,4,l')):=if_pos hi
   rw[hi1,Ze1 (show(k:Int)<=4 by omega),Ze1 (show 4<(h:Int) by omega)];simp only[Aa,j5,Bz,hst,isP,i2,Bjp,aft,Gs,Zc1];cases hN:isT sNOT (L.drop (j+1)) with
   |true =>obtain⟨n1,n2⟩:=B6 hN;have hN':isT [78,79,84] (L.drop (j+1))=true:=hN;rw[hN',n2];simp only[Aa];cases hU:isT sNULL (L.drop (j+2)) with|true =>obtain⟨u1,u2⟩:=B6 hU;have wB:wr .i64 (((j+2:Nat):Int)+1)=((j+3:Nat):Int):=N1 (by omega);simp only[Zt1,Af,Zc1,wB,u2];exact ih 4 (j+3) w1 w2 (mkX 3 [mkX 16 [e]]) u1 (by omega) (by omega) (by omega)|false =>simp only[Zs1,Aa,Zc1];obtain⟨kk,rfl⟩:∃q,kk=q+1:=⟨kk-1,by omega⟩;obtain⟨z,hz⟩:=Ai4 (rf:=rf) hkx kk 4 (j+2) w1 w2 (mkX 3 [mkX 16 [e]]);exact⟨j+2,z,n1,rfl,hz⟩
   |false =>have hN':isT [78,79,84] (L.drop (j+1))=false:=hN;rw[hN'];simp only[Af];cases hU:isT sNULL (L.drop (j+1)) with|true =>obtain⟨u1,u2⟩:=B6 hU;simp only[Zt1,Af,Zc1,wA,u2];exact ih 4 (j+2) w1 w2 (mkX 16 [e]) u1 (by omega) (by omega) (by omega)|false =>simp only[Zs1,Aa,Zc1];obtain⟨kk,rfl⟩:∃q,kk=q+1:=⟨kk-1,by omega⟩;obtain⟨z,hz⟩:=Ai4 (rf:=rf) hkx kk 4 (j+1) w1 w2 (mkX 16 [e]);exact⟨j+1,z,i1,rfl,hz⟩
  ·have hj5:cond (isT [73,83] (L.drop j)) (cond (decide ((k:Int)<=4)) (j5 (decide (4<(h:Int)))) (j5 false)) (j5 false)=j5 false:=by
    cases hc:isT [73,83] (L.drop j) with
    |false=>rfl
    |true =>
     by_cases c1:k<=4
     ·rw[Ze1 (show(k:Int)<=4 by omega),Zd1 (show ¬ 4<(h:Int) fromλq=>hi ⟨hc,c1,by omega⟩)];rfl
     ·rw[Zd1 (show ¬(k:Int)<=4 by omega)];rfl
   rw[hj5];simp only[j5,j7,j6,Af];clear hj5 j5 j7 j6;by_cases hs:(Bb (L.drop j)).1=0\/(Bb (L.drop j)).1<k\/h<(Bb (L.drop j)).1\/((Bb (L.drop j)).1=4/\h=4)
   ·have hst:Cw VV k (e,h,L.drop j)=none:=by simp only[Cw];rw[if_neg hi,if_pos hs]
    simp only[Bz,hst,Aba,hkx];generalize (Bb (L.drop j)).1=b at hs ⊢;have fin:Bc L (some (e,(⟨(j:Int),false⟩:GotS))) (.ok (e,L.drop j)) :=.ok hj;by_cases c0:b=0
    ·rw[Ze1 (show(b:Int)=0 by omega)];exact fin
    ·rw[Zd1 (show ¬(b:Int)=0 by omega)];by_cases c1:b<k
     ·rw[Ze1 (show(b:Int)<(k:Int) by omega)];exact fin
     ·rw[Zd1 (show ¬(b:Int)<(k:Int) by omega)];by_cases c2:h<b
      ·rw[Ze1 (show(h:Int)<(b:Int) by omega)];exact fin
      ·rw[Zd1 (show ¬(h:Int)<(b:Int) by omega),Ze1 (show(b:Int)=4 by omega),Ze1 (show(h:Int)=4 by omega)];exact fin
   ·have hb:=Abq (L.drop j);have hlt:j<L.length:=by refine Nat.lt_of_not_le λq=>hs (.inl ?_);rw[Zk1 q];rfl
    have ht:(L.drop j).tail=L.drop (j+1):=by rw[An hlt];rfl
    have hst:Cw VV k (e,h,L.drop j)=some (match VV ((Bb (L.drop j)).1+1) (L.drop (j+1)) with
      |.error q =>.error q
      |.ok (x,l') =>.ok (mkX (Bb (L.drop j)).2 [e,x],(Bb (L.drop j)).1,l')):=by
     simp only[Cw];rw[if_neg hi,if_neg hs,ht];rfl
    have hpl:Aba (Bz VV k (kk'+1) (e,h,L.drop j))=bP (VV ((Bb (L.drop j)).1+1)) (λx l'=>Aba (Bz VV k kk' (mkX (Bb (L.drop j)).2 [e,x],(Bb (L.drop j)).1,l'))) (L.drop (j+1)):=by simp only[Bz,hst,bP];cases VV ((Bb (L.drop j)).1+1) (L.drop (j+1)) with|error q=>rfl|ok x=>rfl
    rw[hpl];generalize (Bb (L.drop j)).1=b at *;generalize (Bb (L.drop j)).2=kd at *;have wb:wr .i64 ((b:Int)+1)=((b+1:Nat):Int):=N1 (by omega);obtain⟨kk,rfl⟩:∃q,kk=q+1:=⟨kk-1,by omega⟩;have key:Bc L ((rf (L,⟨((j+1:Nat):Int),false⟩,((b+1:Nat):Int))).bind λ(x,x2)=>Ak (λrec=>Nu rf rec kx) (kk+1) (L,(k:Int),(b:Int),x2,w1,w2,mkX kd [e,x])) (bP (VV (b+1)) (λx l'=>Aba (Bz VV k kk' (mkX kd [e,x],b,l'))) (L.drop (j+1))) :=Bc.bind (hrf (b+1) (by omega) (by omega)) (by omega) (by omega) (λr j' hj' hp=>by have he:=Kt (b+1) _ _ _ hp;rw[Za2,Za2] at he;exact ih b j' w1 w2 (mkX kd [e,r]) hj' (by omega) (by omega) (by omega)) (λr j'=>Ai4 hkx kk b j' w1 w2 (mkX kd [e,r]))
    rw[Zd1 (show ¬(b:Int)=0 by omega),Zd1 (show ¬(b:Int)<(k:Int) by omega),Zd1 (show ¬(h:Int)<(b:Int) by omega)];simp only[Af,wb];by_cases c4:b=4
    ·rw[Ze1 (show(b:Int)=4 by omega),Zd1 (show ¬(h:Int)=4 by omega)];exact key
    ·rw[Zd1 (show ¬(b:Int)=4 by omega)];exact key
theorem Bj8(hL:L.length<=1000000000)(hrf:∀k:Nat,1<=k->k<=7->SimG L n (λg=>rf (L,g,(k:Int))) (VV k)){k:Nat}(k1 : 1<=k)(k7:k<=7):SimG L (n+1) (λg=>Vo rf (L,g,(k:Int))) (VV k) :=.of (λi hi hn=>by
 rw[<-Btt k1 k7,Boa];have w0:wr .i64 ((i:Int)+1)=((i+1:Nat):Int):=N1 (by omega);show Bc L (F9 (L.length+3) rf (L,⟨(i:Int),false⟩,(k:Int))) _;simp -zeta only [F9,Af,Gs,Rb,Zc1,w0];extract_lets j8 j j1 j2 j3 j4;have hJ:∀(p q:Nat) (e:Xpr),q<=L.length->L.length-q<n+1->Bc L (j8 (p:Int) ⟨(q:Int),false⟩ e) (Aba (Bz VV k ((L.drop q).length+1) (e,p,L.drop q))):=λp q e hq hqn=>Awy hL hrf (λ_ _ _ _ _=>rfl) (L.length+3) _ p q _ _ e hq hqn (by omega) (by rw[Za2];omega);have hJb:∀(p q:Nat) (e:Xpr),A4 (j8 (p:Int) ⟨(q:Int),true⟩ e) q:=λp q e=>Ai4 (λ_ _ _ _ _=>rfl) (L.length+2) p q _ _ e;have un:∀(p m:Nat) (kk:Int),1<=m->m<=7->i+1<=L.length->Bc L ((rf (L,⟨((i+1:Nat):Int),false⟩,(m:Int))).bind λ(x,x2)=>j8 (p:Int) x2 (mkX kk [x])) (Aba (Ahp (match VV m (L.drop (i+1)) with
   |.error q =>.error q
   |.ok (x,l') =>.ok (mkX kk [x],p,l')) λs=>Bz VV k (s.2.2.length+1) s)):=λp m kk m1 m7 hi1=>by
  have hpl:Aba (Ahp (match VV m (L.drop (i+1)) with
   |.error q =>.error q
   |.ok (x,l') =>.ok (mkX kk [x],p,l')) λs=>Bz VV k (s.2.2.length+1) s)=bP (VV m) (λx l'=>Aba (Bz VV k (l'.length+1) (mkX kk [x],p,l'))) (L.drop (i+1)):=by
   simp only[bP];cases VV m (L.drop (i+1)) with|error q=>rfl|ok x=>rfl
  rw[hpl];exact Bc.bind (hrf m m1 m7) hi1 (by omega) (λr q hq hp=>by have he:=Kt m _ _ _ hp;rw[Za2,Za2] at he;exact hJ p q _ hq (by omega)) (λr q=>hJb p q _)
 have hnot:cond (isT [78,79,84] (L.drop i)) (j4 (decide ((k:Int)<=3))) (j4 false)=j4 (isT sNOT (L.drop i)&&decide (k<=3)):=by have hs:isT [78,79,84] (L.drop i)=isT sNOT (L.drop i):=rfl;rw[hs];cases isT sNOT (L.drop i) with|false=>rfl|true =>rw[Aa,Bool.true_and];congr 1;exact Zy1.2 (by omega)
 rw[hnot];simp only[exT,S3];cases hc:isT sNOT (L.drop i)&&decide (k<=3) with
 |true =>obtain⟨i1,i2⟩:=B6 (Bool.and_eq_true_iff.1 hc).1;rw[i2];exact un 3 3 3 (by omega) (by omega) i1
 |false =>
  simp only[j4,Af];cases hm:isT [45] (L.drop i) with
  |true =>obtain⟨i1,i2⟩:=B6 hm;rw[i2];exact un 7 7 15 (by omega) (by omega) i1
  |false =>
   simp only[Af,Au6];have br:Bc L ((A0 L ⟨(i:Int),false⟩ [40]).bind λx7=>(rf (L,x7,1)).bind λ(x8,x9)=>(A0 L x9 [41]).bind λa=>j8 7 a x8) (Aba (Ahp (match(bP (Ay [[40]]) (λ_=>bP (VV 1) λe=>bP (Ay [[41]]) λ_=>Bg e) (L.drop i)) with
     |.error q =>.error q
     |.ok (x,l') =>.ok (x,7,l')) λs=>Bz VV k (s.2.2.length+1) s)):=by
    have hpl:Aba (Ahp (match(bP (Ay [[40]]) (λ_=>bP (VV 1) λe=>bP (Ay [[41]]) λ_=>Bg e) (L.drop i)) with
     |.error q =>.error q
     |.ok (x,l') =>.ok (x,7,l')) λs=>Bz VV k (s.2.2.length+1) s)=bP (Ay [[40]]) (λ_=>bP (VV 1) λe=>bP (Ay [[41]]) λ_ l'=>Aba (Bz VV k (l'.length+1) (e,7,l'))) (L.drop i):=by
     simp only[bP,Bg];cases Ay [[40]] (L.drop i) with
     |error q=>rfl
     |ok x =>
      simp only;cases VV 1 x.2 with
      |error q=>rfl
      |ok y =>simp only;cases Ay [[41]] y.2 with|error q=>rfl|ok z=>rfl
    rw[hpl,Ady];simp only[N7];refine Bc.must hL hi (λj hj hj2 hp =>?_) (λj =>?_)
    ·have hlt:i<j:=by
      simp only[Ay] at hp;cases ho:isT [40] (L.drop i) with
      |false=>rw[ho] at hp;cases hp
      |true =>rw[ho,(B6 ho).2] at hp;have hl:=(B6 ho).1;injection hp with hp;have:=congrArg (λx:Unit×TL=>x.2.length) hp;simp only[Za2] at this;omega
     refine Bc.bind (hrf 1 (by omega) (by omega)) hj2 (by omega) (λr q hq hp2 =>?_) (λr q =>?_)
     ·have he:=Kt 1 _ _ _ hp2;rw[Za2,Za2] at he;exact Bc.must hL hq (λq2 h1 h2 _=>hJ 7 q2 r h2 (by omega)) (λq2=>hJb 7 q2 r)
     ·exact A4.must (hJb 7 q r)
    ·obtain⟨z,hz⟩:=(hrf 1 (by omega) (by omega)).bad j;have hz:rf (L,⟨(j:Int),true⟩,1)=some (z,⟨(j:Int),true⟩):=hz;rw[hz];exact A4.must (hJb 7 j z)
   show Bc L (Bs1 (λv=>j8 7 ⟨((i+1:Nat):Int),false⟩ v) ((A0 L ⟨(i:Int),false⟩ [40]).bind λx7=>(rf (L,x7,1)).bind λ(x8,x9)=>(A0 L x9 [41]).bind λa=>j8 7 a x8) (hd0 (L.drop i))) _;rw[Bom];by_cases hlt:i<L.length
   ·obtain⟨t,hd⟩:∃t,L.drop i=t::L.drop (i+1):=⟨L[i],An hlt⟩;have hh:hd0 (L.drop i)=t:=by rw[hd];rfl
    rw[hh];cases hv:Ab9 t with
    |some v =>
     have ht:Cf orW (L.drop i) = .ok (v,L.drop (i+1)):=by rw[hd,Pm,hv]
     rw[ht];exact hJ 7 (i+1) v hlt (by omega)
    |none =>
     have ht:Cf orW (L.drop i)=bP (Ay [[40]]) (λ_=>bP (VV 1) λe=>bP (Ay [[41]]) λ_=>Bg e) (L.drop i):=by
      rw[hd,Pm,hv];simp only[bP,Ay,brP,Au6];cases isT [40] (t::L.drop (i+1)) with
      |false=>rfl
      |true =>simp only[List.tail_cons];cases orW (L.drop (i+1)) with|error q=>rfl|ok y =>simp only;cases isT [41] y.2<;>rfl
     rw[ht];exact br
   ·have hd:L.drop i=[]:=Zk1 (by omega);have hh:Ab9 (hd0 (L.drop i))=none:=by rw[hd];rfl
    have ht:Cf orW (L.drop i)=bP (Ay [[40]]) (λ_=>bP (VV 1) λe=>bP (Ay [[41]]) λ_=>Bg e) (L.drop i):=by rw[hd];rfl
    rw[hh,ht];exact br) (λi=>by
 show A4 (F9 (L.length+3) rf (L,⟨(i:Int),true⟩,(k:Int))) i;simp only[F9,Aa];exact⟨_,rfl⟩)
end
theorem A54{L:TL}(hL:L.length<=1000000000):∀(n k:Nat),1<=k->k<=7->SimG L n (λg=>Ak (V:=HV [.sl .tok false,.sv .got,.int .i64]) (R:=HV [.sv .expr,.sv .got]) Vo (n+1) (L,g,(k:Int))) (VV k)
 |0,k,_,_=>⟨λ_ _ _ _ h=>absurd h (Zm1 _),λ_ _ _ h=>absurd h (Zm1 _),λi=>by simp only[Aw,Vo,F9,Aa];exact⟨_,rfl⟩⟩
 |n+1,k,k1,k7=>Bj8 hL (λk k1 k7=>A54 hL n k k1 k7) k1 k7
theorem Bc6{L:TL}(hL:L.length<=1000000000)(k:Nat)(k1 : 1<=k)(k7:k<=7)(n:Nat)(hn:n<=L.length+2):SimG L n (λg=>Kr L g (k:Int)) (VV k):=(A54 hL (L.length+2) k k1 k7).mono hn
theorem Ju{L:TL}(hL:L.length<=1000000000):SimG L (L.length+1) (λg=>Kr L g 1) orW:=by have h:=Bc6 hL 1 (by omega) (by omega) (L.length+1) (by omega);rw[Au6] at h;exact h
def Lep{α:Type}(p:TL->PR α):Prop:=∀l e l',p l = .ok (e,l')->l'.length<=l.length
theorem Ad8{α:Type}{part:TL->PR α}(he:Lep part):∀(m m':Nat) (acc:List α) (l:TL),l.length<m->l.length<m'->Ba part m acc l=Ba part m' acc l
 |0,_,_,_,h,_=>absurd h (Zm1 _)
 |_,0,_,_,_,h=>absurd h (Zm1 _)
 |m+1,m'+1,acc,l,h,h'=>by
  simp only[Ba];cases hi:isT [44] l with
  |false=>rfl
  |true =>have ht:=Kn hi;cases hq:part l.tail with|error q=>rfl|ok x =>have h1:=he _ _ _ hq;simp only;exact Ad8 he m m' _ _ (by omega) (by omega)
theorem T5{α γ:Type}{part:TL->PR α}(he:Lep part){f:List α->TL->PR γ}{l:TL}{m:Nat}(hm:l.length<m):bP (Im part) f l=bP part (λx l'=>bP (Ba part m [x]) f l') l:=by simp only[bP,Im];cases hq:part l with|error q=>rfl|ok x =>have h1:=he _ _ _ hq;simp only;rw[Ad8 he (x.2.length+1) m [x.1] x.2 (by omega) (by omega)]
section
variable {L:TL}{V α γ:Type}{step:(V->Option (γ×GotS))->V->Option (γ×GotS)}{st:List α->GotS->V}{F:GotS->Option (α×GotS)}{part:TL->PR α}{c:List α->GotS->Option (γ×GotS)}{f:List α->TL->PR γ}
theorem Pp(hs:SimG L (L.length+1) F part)(hstep:∀rec acc g,acc.length<=1000000000->step rec (st acc g)=(F g).bind λz=>(gis L z.2 [44]).bind λb=>cond (!b) (c (acc++[z.1]) z.2) (rec (st (acc++[z.1]) ⟨wr .i64 (z.2.pos+1),z.2.bad⟩)))(hcb:∀acc (j:Nat),A4 (c acc ⟨(j:Int),true⟩) j)(k:Nat)(acc:List α)(ha:acc.length<=1000000000)(i:Nat):A4 (Ak step (k+1) (st acc ⟨(i:Int),true⟩)) i:=by obtain⟨e,h⟩:=hs.bad i;rw[Aw,hstep _ acc _ ha,h];simp only[Zc1,H5,Zs1,Aa];exact hcb _ i
theorem Aq5(hL:L.length<=1000000000)(hs:SimG L (L.length+1) F part)(he:Lep part)(hstep:∀rec acc g,acc.length<=1000000000->step rec (st acc g)=(F g).bind λz=>(gis L z.2 [44]).bind λb=>cond (!b) (c (acc++[z.1]) z.2) (rec (st (acc++[z.1]) ⟨wr .i64 (z.2.pos+1),z.2.bad⟩)))(hc:∀acc (j:Nat),j<=L.length->Bc L (c acc ⟨(j:Int),false⟩) (f acc (L.drop j)))(hcb:∀acc (j:Nat),A4 (c acc ⟨(j:Int),true⟩) j):∀(k m:Nat) (acc:List α) (i:Nat),i<=L.length->L.length-i<k->L.length-i<m->acc.length+(L.length-i)<=1000000000->Bc L (Ak step k (st acc ⟨(i:Int),false⟩)) (bP part (λx l'=>bP (Ba part m (acc++[x])) f l') (L.drop i))
 |0,_,_,_,_,h,_,_=>absurd h (Zm1 _)
 |_,0,_,_,_,_,h,_=>absurd h (Zm1 _)
 |k+1,m+1,acc,i,hi,h1,h2,h3=>by
  rw[Aw,hstep _ acc _ (by omega)];refine Bc.bind hs hi (by omega) (λr j hj hp =>?_) (λr j =>?_)
  ·have hle:=he _ _ _ hp;rw[Za2,Za2] at hle;simp only[Gs,Zc1];cases hq:isT [44] (L.drop j) with
   |false =>
    have e1:bP (Ba part (m+1) (acc++[r])) f (L.drop j)=f (acc++[r]) (L.drop j):=by simp only[bP,Ba,hq]
    rw[e1];exact hc _ j hj
   |true =>
    obtain⟨j1,j2⟩:=B6 hq;have e1:bP (Ba part (m+1) (acc++[r])) f (L.drop j)=bP part (λx l'=>bP (Ba part m ((acc++[r])++[x])) f l') (L.drop (j+1)):=by simp only[bP,Ba,hq,j2];cases part (L.drop (j+1)) with|error q=>rfl|ok x=>rfl
    rw[e1];simp only[Zt1,Af,N1 (show j<=2000000000 by omega)];exact Aq5 hL hs he hstep hc hcb k m (acc++[r]) (j+1) j1 (by omega) (by omega) (by simp only[Zh1,Zf1,Zi1];omega)
  ·simp only[H5,Zc1,Zs1,Aa];exact hcb _ j
end
theorem A0y:Lep Bt:=λl e l' h=>by
 cases l with
 |nil=>cases h
 |cons t r =>simp only[Bt] at h;cases hk:decide (t.kind=2) with|true=>rw[hk] at h;cases h;simp|false=>rw[hk] at h;cases h
theorem Be1:Lep orW:=λl e l' h=>Nat.le_of_lt (Gj l e l' h)
section
variable {L:TL}
theorem SimG.all{α:Type}{F:GotS->Option (α×GotS)}{p:TL->PR α}(h:SimG L (L.length+1) F p)(n:Nat):SimG L n F p :=⟨λi e m hi _=>h.ok i e m hi (by omega),λi q hi _=>h.er i q hi (by omega),h.bad⟩
def Air:Ex->Ht->Option (List Str×GotS):=λe vz=>match vz with|(_,v4,_,_,v7)=>match e with|.ret=>some (v4,v7)|_=>none
theorem F8(hL:L.length<=1000000000):SimG L (L.length+1) (Sd L) Mg:=by
 have hst:∀(rec:Ht->Option (List Str×GotS)) (acc:List Str) (g:GotS),acc.length<=1000000000->J8 rec Air (L,[],acc,g,⟨0,false⟩)=(Dm L g).bind λz=>(gis L z.2 [44]).bind λb=>cond (!b) ((A0 L z.2 [41]).bind λx=>some (acc++[z.1],x)) (rec (L,[],acc++[z.1],⟨wr .i64 (z.2.pos+1),z.2.bad⟩,⟨0,false⟩)):=λrec acc g ha=>by have hm:decide (acc.length+1<=Al)=true:=Ze1 (by simp only[Al];omega);simp only[J8,hm,chk,Aa];rfl
 have hcb:∀(acc:List Str) (j:Nat),A4 ((A0 L ⟨(j:Int),true⟩ [41]).bind λx=>some (acc,x)) j:=λacc j=>by rw[N7];exact A4.must A4.bd
 have bad:∀j:Nat,A4 (Ak (λrec=>J8 rec Air) (L.length+2) (L,[],[],⟨(j:Int),true⟩,⟨0,false⟩)) j:=λj =>Pp (V:=Ht) (step:=λrec=>J8 rec Air) (st:=λacc g=>(L,[],acc,g,GotS.mk 0 false)) (c:=λacc g=>(A0 L g [41]).bind λx=>some (acc,x)) (Cb hL _) hst hcb (L.length+1) [] (by simp) j
 refine .of (λi hi _ =>?_) (λi =>?_)
 ·simp only[Sd,U6,Ady,Mg];refine Bc.must hL hi (λj hij hj _ =>?_) (λj=>bad j);rw[T5 A0y (m:=L.length+1) (by rw[Za2];omega)];exact Aq5 (V:=Ht) (step:=λrec=>J8 rec Air) (st:=λacc g=>(L,[],acc,g,GotS.mk 0 false)) (c:=λacc g=>(A0 L g [41]).bind λx=>some (acc,x)) (f:=λacc=>bP (Ay [[41]]) λ_=>Bg acc) hL (Cb hL _) A0y hst (λacc q hq=>by rw[N7];exact Bc.must hL hq (λq2 _ h2 _ =>.ok h2) (λq2=>A4.bd)) hcb (L.length+2) (L.length+1) [] j hj (by omega) (by omega) (by simp only[Zi1];omega)
 ·show A4 ((A0 L ⟨(i:Int),true⟩ [40]).bind _) i;rw[Ady];exact A4.must (bad i)
def Avr:Ex->Hr->Option (List Xpr×GotS):=λe vz=>match vz with|(_,v4,_,_,v7)=>match e with|.ret=>some (v4,v7)|_=>none
theorem R6(hL:L.length<=1000000000):SimG L (L.length+1) (Up L) L5:=by
 have hst:∀(rec:Hr->Option (List Xpr×GotS)) (acc:List Xpr) (g:GotS),acc.length<=1000000000->Mj rec Avr (L,[],acc,g,⟨0,false⟩)=(Kr L g 1).bind λz=>(gis L z.2 [44]).bind λb=>cond (!b) (some (acc++[z.1],z.2)) (rec (L,[],acc++[z.1],⟨wr .i64 (z.2.pos+1),z.2.bad⟩,⟨0,false⟩)):=λrec acc g ha=>by have hm:decide (acc.length+1<=Al)=true:=Ze1 (by simp only[Al];omega);simp only[Mj,hm,chk,Aa];rfl
 refine .of (λi hi _ =>?_) (λi =>?_)
 ·simp only[Up,Tg];have hp:L5 (L.drop i)=bP (Im orW) Bg (L.drop i):=by simp only[L5,bP,Bg];cases Im orW (L.drop i)<;>rfl
  rw[hp,T5 Be1 (m:=L.length+1) (by rw[Za2];omega)];exact Aq5 (V:=Hr) (step:=λrec=>Mj rec Avr) (st:=λacc g=>(L,[],acc,g,GotS.mk 0 false)) (c:=λacc g=>some (acc,g)) (f:=Bg) hL (Ju hL) Be1 hst (λacc q hq =>.ok hq) (λacc q=>A4.bd) (L.length+2) (L.length+1) [] i hi (by omega) (by omega) (by simp only[Zi1];omega)
 ·exact Pp (V:=Hr) (step:=λrec=>Mj rec Avr) (st:=λacc g=>(L,[],acc,g,GotS.mk 0 false)) (c:=λacc g=>some (acc,g)) (Ju hL) hst (λacc q=>A4.bd) (L.length+1) [] (by simp) i
end
theorem Aeq{a b:Str}{l:TL}(h:isT a l=true)(hab:¬b=a):isT b l=false:=by cases l with|nil=>cases h|cons t r =>simp only[isT,Zb1,Zg1] at h;simp only[isT,Bool.and_eq_false_iff,decide_eq_false_iff_not];exact .inr λe=>hab (e.symm.trans h.2)
def Aqk(L:TL)(q:GotS)(c:Col):Option (Col×GotS):=(gis L q [82,69,70,69,82,69,78,67,69,83]).bind λx6=>cond x6 ((Dm L ⟨wr .i64 (q.pos+1),q.bad⟩).bind λ(x7,x8)=>some (⟨c.name,c.kind,c.notNull,c.unique,x7⟩,x8)) (some (c,q))
def Adw(L:TL)(q:GotS)(c:Col):Option (Col×GotS):=(gis L q [85,78,73,81,85,69]).bind λx5=>cond x5 (Aqk L ⟨wr .i64 (q.pos+1),q.bad⟩ ⟨c.name,c.kind,c.notNull,true,c.ref⟩) (Aqk L q c)
def Ab0(L:TL)(g:GotS)(c:Col):Option (Col×GotS):=cond (decide (c.kind=0)) (some (c,⟨g.pos,true⟩)) ((gis L ⟨wr .i64 (g.pos+1),g.bad⟩ [78,79,84]).bind λx3=>cond x3 ((A0 L ⟨wr .i64 (g.pos+1),g.bad⟩ [78,79,84,32,78,85,76,76]).bind λx4=>Adw L x4 ⟨c.name,c.kind,true,c.unique,c.ref⟩) (Adw L ⟨wr .i64 (g.pos+1),g.bad⟩ c))
def A21(b2 b3 b4 b5:Bool):Int:=cond b5 5 (cond b4 4 (cond b3 3 (cond b2 2 0)))
theorem Auy{L:TL}{g g1:GotS}{x:Str}{b2 b3 b4 b5:Bool}(h:Dm L g=some (x,g1))(h2:gis L g1 X6=some b2)(h3:gis L g1 Aov=some b3)(h4:gis L g1 Xv=some b4)(h5:gis L g1 Nz=some b5):A18 L g=Ab0 L g1 ⟨x,A21 b2 b3 b4 b5,false,false,[]⟩:=by
 simp only[A18,Afd,h,Zc1];generalize hkx:(λ(e:Ex) (vz:Oc)=>(match vz with|(v3,_,_,v6,_,_,v9)=>match e with
  |.exit 0=>_
  |_=>none:Option (Col×GotS)))=kx
 have hk:∀g c w1 w2 k,kx (.exit 0) (L,[[],[],[66,79,79,76],[73,78,84],[84,69,88,84],[66,89,84,69,83]],k,g,w1,w2,c)=Ab0 L g c:=λg c w1 w2 k=>by rw[<-hkx];rfl
 clear hkx;have step:∀(rec:Oc->Option (Col×GotS)) (k:Nat) (c:Col) w1 w2,k<=5->Lu rec kx (L,[[],[],[66,79,79,76],[73,78,84],[84,69,88,84],[66,89,84,69,83]],(k:Int),g1,w1,w2,c)=(gis L g1 (at' .str [[],[],[66,79,79,76],[73,78,84],[84,69,88,84],[66,89,84,69,83]] (k:Int))).bind λx2=>cond x2 (rec (L,[[],[],[66,79,79,76],[73,78,84],[84,69,88,84],[66,89,84,69,83]],((k+1:Nat):Int),g1,w1,w2,⟨c.name,k,c.notNull,c.unique,c.ref⟩)) (rec (L,[[],[],[66,79,79,76],[73,78,84],[84,69,88,84],[66,89,84,69,83]],((k+1:Nat):Int),g1,w1,w2,c)):=λrec k c w1 w2 hk=>by have e1:decide ((k:Int)<=5)=true:=Ze1 (by omega);have e2:inb (k:Int) ([[],[],[66,79,79,76],[73,78,84],[84,69,88,84],[66,89,84,69,83]]:List Str).length=true:=A5 (by simp only[Zf1,Zi1];omega);simp only[Lu,e1,e2,chk,Aa,N1 (show k<=2000000000 by omega)]
 have last:∀(rec:Oc->Option (Col×GotS)) (c:Col) w1 w2,Lu rec kx (L,[[],[],[66,79,79,76],[73,78,84],[84,69,88,84],[66,89,84,69,83]],((6:Nat):Int),g1,w1,w2,c)=Ab0 L g1 c:=λrec c w1 w2=>by have e1:decide (((6:Nat):Int)<=5)=false:=Zd1 (by omega);simp only[Lu,e1,Af,hk]
 have a2:gis L g1 (at' .str [[],[],[66,79,79,76],[73,78,84],[84,69,88,84],[66,89,84,69,83]] ((2:Nat):Int))=some b2:=h2;have a3:gis L g1 (at' .str [[],[],[66,79,79,76],[73,78,84],[84,69,88,84],[66,89,84,69,83]] ((3:Nat):Int))=some b3:=h3;have a4:gis L g1 (at' .str [[],[],[66,79,79,76],[73,78,84],[84,69,88,84],[66,89,84,69,83]] ((4:Nat):Int))=some b4:=h4;have a5:gis L g1 (at' .str [[],[],[66,79,79,76],[73,78,84],[84,69,88,84],[66,89,84,69,83]] ((5:Nat):Int))=some b5:=h5;have s5:∀(n:Nat) (c:Col) w1 w2,Ak (λrec=>Lu rec kx) (n+2) (L,[[],[],[66,79,79,76],[73,78,84],[84,69,88,84],[66,89,84,69,83]],((5:Nat):Int),g1,w1,w2,c)=Ab0 L g1 (cond b5 ⟨c.name,5,c.notNull,c.unique,c.ref⟩ c):=λn c w1 w2=>by rw[Aw,step _ _ _ _ _ (by omega),a5,Zc1,Aw,Aw,last,last];cases b5<;>rfl
 have s4:∀(n:Nat) (c:Col) w1 w2,Ak (λrec=>Lu rec kx) (n+3) (L,[[],[],[66,79,79,76],[73,78,84],[84,69,88,84],[66,89,84,69,83]],((4:Nat):Int),g1,w1,w2,c)=Ab0 L g1 (cond b5 ⟨c.name,5,c.notNull,c.unique,c.ref⟩ (cond b4 ⟨c.name,4,c.notNull,c.unique,c.ref⟩ c)):=λn c w1 w2=>by rw[Aw,step _ _ _ _ _ (by omega),a4,Zc1,s5,s5];cases b4<;>rfl
 have s3:∀(n:Nat) (c:Col) w1 w2,Ak (λrec=>Lu rec kx) (n+4) (L,[[],[],[66,79,79,76],[73,78,84],[84,69,88,84],[66,89,84,69,83]],((3:Nat):Int),g1,w1,w2,c)=Ab0 L g1 (cond b5 ⟨c.name,5,c.notNull,c.unique,c.ref⟩ (cond b4 ⟨c.name,4,c.notNull,c.unique,c.ref⟩ (cond b3 ⟨c.name,3,c.notNull,c.unique,c.ref⟩ c))):=λn c w1 w2=>by rw[Aw,step _ _ _ _ _ (by omega),a3,Zc1,s4,s4];cases b3<;>cases b4<;>rfl
 show Ak (λrec=>Lu rec kx) (5+5) (L,_,((2:Nat):Int),g1,_,_,_)=_;rw[Aw,step _ _ _ _ _ (by omega),a2,Zc1,s3,s3];cases b2<;>cases b3<;>cases b4<;>cases b5<;>rfl
section
variable {L:TL}
theorem Asz(hL:L.length<=1000000000)(n:Str)(k:Int)(nn u:Bool){q:Nat}(hq:q<=L.length):Bc L (Aqk L ⟨(q:Int),false⟩ ⟨n,k,nn,u,[]⟩) (bP I7 (λr=>Bg (Col.mk n k nn u r)) (L.drop q)):=by
 simp only[Aqk,Gs,Zc1];cases h:isT wREF (L.drop q) with
 |false =>
  have h':isT [82,69,70,69,82,69,78,67,69,83] (L.drop q)=false:=h;have e:bP I7 (λr=>Bg (Col.mk n k nn u r)) (L.drop q) = .ok (Col.mk n k nn u [],L.drop q):=by simp only[bP,I7,h];rfl
  rw[h',e];exact .ok hq
 |true =>
  have h':isT [82,69,70,69,82,69,78,67,69,83] (L.drop q)=true:=h;obtain⟨q1,q2⟩:=B6 h;have e:bP I7 (λr=>Bg (Col.mk n k nn u r)) (L.drop q)=bP Bt (λr=>Bg (Col.mk n k nn u r)) (L.drop (q+1)):=by simp only[bP,I7,h,q2]
  rw[h',e,Aa,N1 (by omega)];exact Bc.bind (Cb hL (L.length+1)) q1 (by omega) (λr j hj _ =>.ok hj) (λr j=>A4.bd)
theorem Bav(q:Nat)(c:Col):A4 (Aqk L ⟨(q:Int),true⟩ c) q:=by simp only[Aqk,H5,Zc1,Af];exact A4.bd
theorem Aky(hL:L.length<=1000000000)(n:Str)(k:Int)(nn:Bool){q:Nat}(hq:q<=L.length):Bc L (Adw L ⟨(q:Int),false⟩ ⟨n,k,nn,false,[]⟩) (bP (F3 wUNIQUE []) (λu=>bP I7 λr=>Bg (Col.mk n k nn u r)) (L.drop q)):=by
 simp only[Adw,Gs,Zc1];cases h:isT wUNIQUE (L.drop q) with
 |false =>
  have h':isT [85,78,73,81,85,69] (L.drop q)=false:=h;have e:bP (F3 wUNIQUE []) (λu=>bP I7 λr=>Bg (Col.mk n k nn u r)) (L.drop q)=bP I7 (λr=>Bg (Col.mk n k nn false r)) (L.drop q):=by simp only[bP,F3,h]
  rw[h',e];exact Asz hL n k nn false hq
 |true =>
  have h':isT [85,78,73,81,85,69] (L.drop q)=true:=h;obtain⟨q1,q2⟩:=B6 h;have e:bP (F3 wUNIQUE []) (λu=>bP I7 λr=>Bg (Col.mk n k nn u r)) (L.drop q)=bP I7 (λr=>Bg (Col.mk n k nn true r)) (L.drop (q+1)):=by simp only[bP,F3,h,Ay,q2]
  rw[h',e,Aa,N1 (by omega)];exact Asz hL n k nn true q1
theorem A2w(q:Nat)(c:Col):A4 (Adw L ⟨(q:Int),true⟩ c) q:=by simp only[Adw,H5,Zc1,Af];exact Bav q c
theorem A96(hL:L.length<=1000000000)(n:Str){k:Int}(hk:¬k=0){q:Nat}(hq:q+1<=L.length):Bc L (Ab0 L ⟨(q:Int),false⟩ ⟨n,k,false,false,[]⟩) (bP (F3 sNOT [sNULL]) (λnn=>bP (F3 wUNIQUE []) λu=>bP I7 λr=>Bg (Col.mk n k nn u r)) (L.drop (q+1))):=by
 have w0:wr .i64 ((q:Int)+1)=((q+1:Nat):Int):=N1 (by omega);simp only[Ab0,w0,Gs,Zc1,Bnj];rw[Zd1 hk,Af];cases h:isT sNOT (L.drop (q+1)) with
 |false =>
  have h':isT [78,79,84] (L.drop (q+1))=false:=h;have e:bP (F3 sNOT [sNULL]) (λnn=>bP (F3 wUNIQUE []) λu=>bP I7 λr=>Bg (Col.mk n k nn u r)) (L.drop (q+1))=bP (F3 wUNIQUE []) (λu=>bP I7 λr=>Bg (Col.mk n k false u r)) (L.drop (q+1)):=by simp only[bP,F3,h]
  rw[h',e];exact Aky hL n k false hq
 |true =>
  have h':isT [78,79,84] (L.drop (q+1))=true:=h;have e:bP (F3 sNOT [sNULL]) (λnn=>bP (F3 wUNIQUE []) λu=>bP I7 λr=>Bg (Col.mk n k nn u r)) (L.drop (q+1))=bP (Ay [sNOT,sNULL]) (λ_=>bP (F3 wUNIQUE []) λu=>bP I7 λr=>Bg (Col.mk n k true u r)) (L.drop (q+1)):=by simp only[bP,F3,Ay,h];cases isT sNULL (L.drop (q+1)).tail<;>rfl
  rw[h',e,Aa];exact Bc.must hL hq (λj _ hj _=>Aky hL n k true hj) (λj=>A2w j _)
theorem A0n(hL:L.length<=1000000000):SimG L (L.length+1) (A18 L) A0v:=by
 have key:∀(i:Nat),i<=L.length->Bc L (A18 L ⟨(i:Int),false⟩) (A0v (L.drop i)):=λi hi=>by
  unfold A0v;have hn:=(Cb hL (L.length+1)).out hi (by omega);unfold bP;cases hq:Bt (L.drop i) with
  |error q =>rw[hq] at hn;obtain⟨j,e,a1,a2,a3⟩:=hn;have hu:=Auy a3 (H5 L j _) (H5 L j _) (H5 L j _) (H5 L j _);exact⟨j,_,a1,a2,hu.trans rfl⟩
  |ok y =>
   obtain⟨x,m⟩:=y;rw[hq] at hn;obtain⟨j,a1,a2,a3⟩:=hn;subst a2;have hu:=Auy a3 (Gs L j _) (Gs L j _) (Gs L j _) (Gs L j _);rw[hu];have one:∀{w:Str}{k:Int},isT w (L.drop j)=true->¬k=0->I9 (L.drop j) = .ok (k,(L.drop j).tail)->A21 (isT X6 (L.drop j)) (isT Aov (L.drop j)) (isT Xv (L.drop j)) (isT Nz (L.drop j))=k->Bc L (Ab0 L ⟨(j:Int),false⟩ ⟨x,A21 (isT X6 (L.drop j)) (isT Aov (L.drop j)) (isT Xv (L.drop j)) (isT Nz (L.drop j)),false,false,[]⟩) (bP I9 (λk=>bP (F3 sNOT [sNULL]) λnn=>bP (F3 wUNIQUE []) λu=>bP I7 λr=>Bg (Col.mk x k nn u r)) (L.drop j)):=λ{w k} hw hk hp he=>by
    obtain⟨j1,j2⟩:=B6 hw;rw[he];have e:bP I9 (λk=>bP (F3 sNOT [sNULL]) λnn=>bP (F3 wUNIQUE []) λu=>bP I7 λr=>Bg (Col.mk x k nn u r)) (L.drop j)=bP (F3 sNOT [sNULL]) (λnn=>bP (F3 wUNIQUE []) λu=>bP I7 λr=>Bg (Col.mk x k nn u r)) (L.drop (j+1)):=by rw[bP,hp,j2]
    rw[e];exact A96 hL x hk j1
   cases h2:isT X6 (L.drop j) with
   |true =>have:=one h2 (k:=2) (by decide) (by simp only[I9,h2]) (by rw[h2,Aeq h2 (show ¬Aov=X6 by decide),Aeq h2 (show ¬Xv=X6 by decide),Aeq h2 (show ¬Nz=X6 by decide)];rfl);rw[h2] at this;exact this
   |false =>
    cases h3:isT Aov (L.drop j) with
    |true =>have:=one h3 (k:=3) (by decide) (by simp only[I9,h2,h3]) (by rw[h2,h3,Aeq h3 (show ¬Xv=Aov by decide),Aeq h3 (show ¬Nz=Aov by decide)];rfl);rw[h2,h3] at this;exact this
    |false =>
     cases h4:isT Xv (L.drop j) with
     |true =>have:=one h4 (k:=4) (by decide) (by simp only[I9,h2,h3,h4]) (by rw[h2,h3,h4,Aeq h4 (show ¬Nz=Xv by decide)];rfl);rw[h2,h3,h4] at this;exact this
     |false =>
      cases h5:isT Nz (L.drop j) with
      |true =>have:=one h5 (k:=5) (by decide) (by simp only[I9,h2,h3,h4,h5]) (by rw[h2,h3,h4,h5];rfl);rw[h2,h3,h4,h5] at this;exact this
      |false =>
       have e:bP I9 (λk=>bP (F3 sNOT [sNULL]) λnn=>bP (F3 wUNIQUE []) λu=>bP I7 λr=>Bg (Col.mk x k nn u r)) (L.drop j) = .error (L.drop j):=by simp only[bP,I9,h2,h3,h4,h5]
       show Bc L _ (bP I9 (λk=>bP (F3 sNOT [sNULL]) λnn=>bP (F3 wUNIQUE []) λu=>bP I7 λr=>Bg (Col.mk x k nn u r)) (L.drop j));rw[e];exact⟨j,_,a1,rfl,rfl⟩
 refine .of (λi hi _=>key i hi) (λi =>?_);obtain⟨e,h⟩:=(Cb hL (L.length+1)).bad i;have hu:=Auy h (H5 L i _) (H5 L i _) (H5 L i _) (H5 L i _);exact⟨_,hu.trans rfl⟩
end
def Z5:Sig:=⟨116,[(0,.sl .tok false)],[(4,.ptr 40 0),(5,.ptr 41 0),(6,.ptr 42 0),(7,.ptr 43 0)],[(1,.cells [.int .i64,.str,.str,.sl .col true,.sl .str true,.sl .expr true,.sl .exprs true,.sl .set true,.bool,.int .i64,.int .i64,.int .i64,.str,.str,.sl .expr true,.sl .str true,.sl .bool true,.int .i64]),(2,.one (.sv .got)),(40,.one (.sv .got)),(41,.cells [.int .i64,.str,.str,.sl .col true,.sl .str true,.sl .expr false,.sl .exprs true,.sl .set true,.bool,.int .i64,.int .i64,.int .i64,.str,.str,.sl .expr true,.sl .str true,.sl .bool true,.int .i64]),(42,.cells [.int .i64,.str,.str,.sl .col true,.sl .str true,.sl .expr true,.sl .exprs true,.sl .set true,.bool,.int .i64,.int .i64,.int .i64,.str,.str,.sl .expr true,.sl .str true,.sl .bool true,.int .i64]),(43,.one (.sv .got))],44,40,200,[],[]⟩
abbrev K7:=List Tok×Int×Str×Str×List Col×List Str×List Xpr×List (List Xpr)×List SetE×Bool×Int×Int×Int×Str×Str×List Xpr×List Str×List Bool×Int×GotS×GotS×Int×Str×Str×List Col×List Str×List Xpr×List (List Xpr)×List SetE×Bool×Int×Int×Int×Str×Str×List Xpr×List Str×List Bool×Int×Int×Str×Str×List Col×List Str×List Xpr×List (List Xpr)×List SetE×Bool×Int×Int×Int×Str×Str×List Xpr×List Str×List Bool×Int×GotS
def Wj{R:Type}(rec:K7->Option R)(kx:Ex->K7->Option R)(v:K7):Option R:=match v with
 |(b,f,g,h,i,j,k,l,m,n,o,p,q,r,s,t,u,w,x,y,b2,z,a0,a1,a2,a3,a4,a5,a6,a7,a8,a9,aa,ab,ac,ad,d,e,ae,af,ag,ah,ai,aj,ak,al,am,an,ao,ap,aq,ar,au,av,aw,ax,ay,az) =>
 (Dm b b2).bind λ(b0,a) =>
  chk (decide (d.length+1<=Al)) (
  (gis b a [68,69,83,67]).bind λb1 =>
   chk (decide (e.length+1<=Al)) (
   let j2:=λ(c:GotS) =>
    (gis b c [44]).bind λb3 =>
    cond (!b3) (
     kx (.exit 0) (b,f,g,h,i,j,k,l,m,n,o,p,q,r,s,t,u,w,x,y,c,z,a0,a1,a2,a3,a4,a5,a6,a7,a8,a9,aa,ab,ac,ad,(d++[b0]),(e++[b1]),ae,af,ag,ah,ai,aj,ak,al,am,an,ao,ap,aq,ar,au,av,aw,ax,ay,az)) (
     rec (b,f,g,h,i,j,k,l,m,n,o,p,q,r,s,t,u,w,x,y,(GotS.mk (wr .i64 (c.pos+1)) c.bad),z,a0,a1,a2,a3,a4,a5,a6,a7,a8,a9,aa,ab,ac,ad,(d++[b0]),(e++[b1]),ae,af,ag,ah,ai,aj,ak,al,am,an,ao,ap,aq,ar,au,av,aw,ax,ay,az))
   (gis b a [68,69,83,67]).bind λb4 =>
    cond (b4) (
    j2 (GotS.mk (wr .i64 (a.pos+1)) a.bad)) (
    (gis b a [65,83,67]).bind λb5 =>
     cond (b5) (
     j2 (GotS.mk (wr .i64 (a.pos+1)) a.bad)) (
     j2 a))))
def Z7:Sig:=⟨116,[(0,.sl .tok false)],[(4,.ptr 40 0),(5,.ptr 41 0),(6,.ptr 42 0),(7,.ptr 43 0)],[(1,.cells [.int .i64,.str,.str,.sl .col true,.sl .str true,.sl .expr true,.sl .exprs true,.sl .set true,.bool,.int .i64,.int .i64,.int .i64,.str,.str,.sl .expr true,.sl .str true,.sl .bool true,.int .i64]),(2,.one (.sv .got)),(40,.one (.sv .got)),(41,.cells [.int .i64,.str,.str,.sl .col true,.sl .str true,.sl .expr false,.sl .exprs true,.sl .set true,.bool,.int .i64,.int .i64,.int .i64,.str,.str,.sl .expr false,.sl .str true,.sl .bool true,.int .i64]),(42,.cells [.int .i64,.str,.str,.sl .col true,.sl .str true,.sl .expr true,.sl .exprs true,.sl .set true,.bool,.int .i64,.int .i64,.int .i64,.str,.str,.sl .expr true,.sl .str true,.sl .bool true,.int .i64]),(43,.one (.sv .got))],44,40,200,[],[]⟩
abbrev E5:=List Tok×Int×Str×Str×List Col×List Str×List Xpr×List (List Xpr)×List SetE×Bool×Int×Int×Int×Str×Str×List Xpr×List Str×List Bool×Int×GotS×GotS×Int×Str×Str×List Col×List Str×List Xpr×List (List Xpr)×List SetE×Bool×Int×Int×Int×Str×Str×List Xpr×List Str×List Bool×Int×Int×Str×Str×List Col×List Str×List Xpr×List (List Xpr)×List SetE×Bool×Int×Int×Int×Str×Str×List Xpr×List Str×List Bool×Int×GotS
def W3{R:Type}(rec:E5->Option R)(kx:Ex->E5->Option R)(v:E5):Option R:=match v with
 |(b,f,g,h,i,j,k,l,m,n,o,p,q,r,s,t,u,w,x,y,b2,z,a0,a1,a2,a3,a4,a5,a6,a7,a8,a9,aa,ab,ac,ad,d,e,ae,af,ag,ah,ai,aj,ak,al,am,an,ao,ap,aq,ar,au,av,aw,ax,ay,az) =>
 (Dm b b2).bind λ(b0,a) =>
  chk (decide (d.length+1<=Al)) (
  (gis b a [68,69,83,67]).bind λb1 =>
   chk (decide (e.length+1<=Al)) (
   let j1:=λ(c:GotS) =>
    (gis b c [44]).bind λb3 =>
    cond (!b3) (
     kx (.exit 0) (b,f,g,h,i,j,k,l,m,n,o,p,q,r,s,t,u,w,x,y,c,z,a0,a1,a2,a3,a4,a5,a6,a7,a8,a9,aa,ab,ac,ad,(d++[b0]),(e++[b1]),ae,af,ag,ah,ai,aj,ak,al,am,an,ao,ap,aq,ar,au,av,aw,ax,ay,az)) (
     rec (b,f,g,h,i,j,k,l,m,n,o,p,q,r,s,t,u,w,x,y,(GotS.mk (wr .i64 (c.pos+1)) c.bad),z,a0,a1,a2,a3,a4,a5,a6,a7,a8,a9,aa,ab,ac,ad,(d++[b0]),(e++[b1]),ae,af,ag,ah,ai,aj,ak,al,am,an,ao,ap,aq,ar,au,av,aw,ax,ay,az))
   (gis b a [68,69,83,67]).bind λb4 =>
    cond (b4) (
    j1 (GotS.mk (wr .i64 (a.pos+1)) a.bad)) (
    (gis b a [65,83,67]).bind λb5 =>
     cond (b5) (
     j1 (GotS.mk (wr .i64 (a.pos+1)) a.bad)) (
     j1 a))))
def Anv:Sig:=⟨60,[(0,.sl .tok false)],[(4,.ptr 40 0),(5,.ptr 41 0),(6,.ptr 42 0),(7,.ptr 43 0)],[(1,.cells [.int .i64,.str,.str,.sl .col true,.sl .str true,.sl .expr true,.sl .exprs true,.sl .set true,.bool,.int .i64,.int .i64,.int .i64,.str,.str,.sl .expr true,.sl .str true,.sl .bool true,.int .i64]),(2,.one (.sv .got)),(40,.one (.sv .got)),(41,.cells [.int .i64,.str,.str,.sl .col true,.sl .str true,.sl .expr true,.sl .exprs true,.sl .set true,.bool,.int .i64,.int .i64,.int .i64,.str,.str,.sl .expr true,.sl .str true,.sl .bool true,.int .i64]),(42,.cells [.int .i64,.str,.str,.sl .col false,.sl .str false,.sl .expr false,.sl .exprs false,.sl .set false,.bool,.int .i64,.int .i64,.int .i64,.str,.str,.sl .expr false,.sl .str false,.sl .bool false,.int .i64]),(43,.one (.sv .got))],44,40,200,[],[]⟩
abbrev Wd:=List Tok×Int×Str×Str×List Col×List Str×List Xpr×List (List Xpr)×List SetE×Bool×Int×Int×Int×Str×Str×List Xpr×List Str×List Bool×Int×GotS×GotS×Int×Str×Str×List Col×List Str×List Xpr×List (List Xpr)×List SetE×Bool×Int×Int×Int×Str×Str×List Xpr×List Str×List Bool×Int×Int×Str×Str×List Col×List Str×List Xpr×List (List Xpr)×List SetE×Bool×Int×Int×Int×Str×Str×List Xpr×List Str×List Bool×Int×GotS
def Ab7{R:Type}(rec:Wd->Option R)(kx:Ex->Wd->Option R)(v:Wd):Option R:=match v with
 |(a,a1,a2,a3,a4,a5,a6,a7,a8,a9,aa,ab,ac,ad,ae,af,ag,ah,ai,aj,ak,e,f,g,h,i,j,k,c,t,u,w,x,y,z,a0,m,o,p,al,am,an,ao,ap,aq,ar,au,av,aw,ax,ay,az,b0,b1,b2,b3,b4,b5) =>
 (Dm a ak).bind λ(q,b6) =>
  (A0 a b6 [61]).bind λb7 =>
  (Kr a b7 1).bind λ(r,b) =>
   chk (decide (c.length+1<=Al)) (
   (gis a b [44]).bind λb8 =>
    cond (!b8) (
    (gis a b [87,72,69,82,69]).bind λb9 =>
     cond (b9) (
     (Kr a (GotS.mk (wr .i64 (b.pos+1)) false) 1).bind λ(d,ba) =>kx .ret (a,a1,a2,a3,a4,a5,a6,a7,a8,a9,aa,ab,ac,ad,ae,af,ag,ah,ai,aj,b,e,f,g,h,i,j,k,(c++[(SetE.mk q (Fb r))]),t,u,w,x,y,z,a0,m,o,p,e,f,g,h,i,j,k,(c++[(SetE.mk q (Fb r))]),true,d.kind,d.v.kind,d.v.n,d.v.s,d.name,d.l,m,o,p,ba)) (
     kx .ret (a,a1,a2,a3,a4,a5,a6,a7,a8,a9,aa,ab,ac,ad,ae,af,ag,ah,ai,aj,b,e,f,g,h,i,j,k,(c++[(SetE.mk q (Fb r))]),t,u,w,x,y,z,a0,m,o,p,e,f,g,h,i,j,k,(c++[(SetE.mk q (Fb r))]),t,u,w,x,y,z,a0,m,o,p,b))) (
    rec (a,a1,a2,a3,a4,a5,a6,a7,a8,a9,aa,ab,ac,ad,ae,af,ag,ah,ai,aj,(GotS.mk (wr .i64 (b.pos+1)) b.bad),e,f,g,h,i,j,k,(c++[(SetE.mk q (Fb r))]),t,u,w,x,y,z,a0,m,o,p,al,am,an,ao,ap,aq,ar,au,av,aw,ax,ay,az,b0,b1,b2,b3,b4,b5)))
def An5:Sig:=⟨50,[(0,.sl .tok false)],[(4,.ptr 40 0),(5,.ptr 41 0),(6,.ptr 42 0),(7,.ptr 43 0)],[(1,.cells [.int .i64,.str,.str,.sl .col true,.sl .str true,.sl .expr true,.sl .exprs true,.sl .set true,.bool,.int .i64,.int .i64,.int .i64,.str,.str,.sl .expr true,.sl .str true,.sl .bool true,.int .i64]),(2,.one (.sv .got)),(40,.one (.sv .got)),(41,.cells [.int .i64,.str,.str,.sl .col true,.sl .str true,.sl .expr true,.sl .exprs true,.sl .set true,.bool,.int .i64,.int .i64,.int .i64,.str,.str,.sl .expr true,.sl .str true,.sl .bool true,.int .i64]),(42,.cells [.int .i64,.str,.str,.sl .col false,.sl .str false,.sl .expr false,.sl .exprs false,.sl .set false,.bool,.int .i64,.int .i64,.int .i64,.str,.str,.sl .expr false,.sl .str false,.sl .bool false,.int .i64]),(43,.one (.sv .got))],44,40,200,[],[]⟩
abbrev Wi:=List Tok×Int×Str×Str×List Col×List Str×List Xpr×List (List Xpr)×List SetE×Bool×Int×Int×Int×Str×Str×List Xpr×List Str×List Bool×Int×GotS×GotS×Int×Str×Str×List Col×List Str×List Xpr×List (List Xpr)×List SetE×Bool×Int×Int×Int×Str×Str×List Xpr×List Str×List Bool×Int×Int×Str×Str×List Col×List Str×List Xpr×List (List Xpr)×List SetE×Bool×Int×Int×Int×Str×Str×List Xpr×List Str×List Bool×Int×GotS
def Aay{R:Type}(rec:Wi->Option R)(kx:Ex->Wi->Option R)(v:Wi):Option R:=match v with
 |(a,w,x,y,z,a0,a1,a2,a3,a4,a5,a6,a7,a8,a9,aa,ab,ac,ad,ae,af,d,e,f,g,h,i,c,j,k,l,m,n,o,p,q,r,s,t,ag,ah,ai,aj,ak,al,am,an,ao,ap,aq,ar,au,av,aw,ax,ay,az,b0) =>
 (A0 a af [40]).bind λb1 =>
  (Up a b1).bind λ(u,b2) =>
  chk (decide (c.length+1<=Al)) (
   (A0 a b2 [41]).bind λb =>
   (gis a b [44]).bind λb3 =>
    cond (!b3) (
    kx .ret (a,w,x,y,z,a0,a1,a2,a3,a4,a5,a6,a7,a8,a9,aa,ab,ac,ad,ae,b,d,e,f,g,h,i,(c++[u]),j,k,l,m,n,o,p,q,r,s,t,d,e,f,g,h,i,(c++[u]),j,k,l,m,n,o,p,q,r,s,t,b)) (
    rec (a,w,x,y,z,a0,a1,a2,a3,a4,a5,a6,a7,a8,a9,aa,ab,ac,ad,ae,(GotS.mk (wr .i64 (b.pos+1)) b.bad),d,e,f,g,h,i,(c++[u]),j,k,l,m,n,o,p,q,r,s,t,ag,ah,ai,aj,ak,al,am,an,ao,ap,aq,ar,au,av,aw,ax,ay,az,b0)))
def Alb:Sig:=⟨86,[(0,.sl .tok false)],[(4,.ptr 40 0),(5,.ptr 41 0),(6,.ptr 42 0),(7,.ptr 43 0)],[(1,.cells [.int .i64,.str,.str,.sl .col true,.sl .str true,.sl .expr true,.sl .exprs true,.sl .set true,.bool,.int .i64,.int .i64,.int .i64,.str,.str,.sl .expr true,.sl .str true,.sl .bool true,.int .i64]),(2,.one (.sv .got)),(40,.one (.sv .got)),(41,.cells [.int .i64,.str,.str,.sl .col true,.sl .str false,.sl .expr true,.sl .exprs true,.sl .set true,.bool,.int .i64,.int .i64,.int .i64,.str,.str,.sl .expr true,.sl .str true,.sl .bool true,.int .i64]),(42,.cells [.int .i64,.str,.str,.sl .col true,.sl .str true,.sl .expr true,.sl .exprs true,.sl .set true,.bool,.int .i64,.int .i64,.int .i64,.str,.str,.sl .expr true,.sl .str true,.sl .bool true,.int .i64]),(43,.one (.sv .got))],44,40,200,[],[]⟩
abbrev Oi:=List Tok×Int×Str×Str×List Col×List Str×List Xpr×List (List Xpr)×List SetE×Bool×Int×Int×Int×Str×Str×List Xpr×List Str×List Bool×Int×GotS×GotS×Int×Str×Str×List Col×List Str×List Xpr×List (List Xpr)×List SetE×Bool×Int×Int×Int×Str×Str×List Xpr×List Str×List Bool×Int×Int×Str×Str×List Col×List Str×List Xpr×List (List Xpr)×List SetE×Bool×Int×Int×Int×Str×Str×List Xpr×List Str×List Bool×Int×GotS
def I4{R:Type}(rec:Oi->Option R)(kx:Ex->Oi->Option R)(v:Oi):Option R:=match v with
 |(a,d,e,f,g,h,i,j,k,l,m,n,o,p,q,r,s,t,u,w,b,x,y,z,a0,a1,c,a2,a3,a4,a5,a6,a7,a8,a9,aa,ab,ac,ad,ae,af,ag,ah,ai,aj,ak,al,am,an,ao,ap,aq,ar,au,av,aw,ax,ay) =>
 (gis a b [44]).bind λaz =>
  cond (az) (
  (A0 a b [44,32,67,72,69,67,75,32,40]).bind λb0 =>
   (Kr a b0 1).bind λ(b1,b2) =>
   chk (decide (c.length+1<=Al)) (
    (A0 a b2 [41]).bind λb3 =>
    rec (a,d,e,f,g,h,i,j,k,l,m,n,o,p,q,r,s,t,u,w,b3,x,y,z,a0,a1,(c++[b1]),a2,a3,a4,a5,a6,a7,a8,a9,aa,ab,ac,ad,ae,af,ag,ah,ai,aj,ak,al,am,an,ao,ap,aq,ar,au,av,aw,ax,ay))) (
  kx (.exit 2) (a,d,e,f,g,h,i,j,k,l,m,n,o,p,q,r,s,t,u,w,b,x,y,z,a0,a1,c,a2,a3,a4,a5,a6,a7,a8,a9,aa,ab,ac,ad,ae,af,ag,ah,ai,aj,ak,al,am,an,ao,ap,aq,ar,au,av,aw,ax,ay))
def Ams:Sig:=⟨86,[(0,.sl .tok false)],[(4,.ptr 40 0),(5,.ptr 41 0),(6,.ptr 42 0),(7,.ptr 43 0)],[(1,.cells [.int .i64,.str,.str,.sl .col true,.sl .str true,.sl .expr true,.sl .exprs true,.sl .set true,.bool,.int .i64,.int .i64,.int .i64,.str,.str,.sl .expr true,.sl .str true,.sl .bool true,.int .i64]),(2,.one (.sv .got)),(40,.one (.sv .got)),(41,.cells [.int .i64,.str,.str,.sl .col true,.sl .str true,.sl .expr true,.sl .exprs true,.sl .set true,.bool,.int .i64,.int .i64,.int .i64,.str,.str,.sl .expr true,.sl .str true,.sl .bool true,.int .i64]),(42,.cells [.int .i64,.str,.str,.sl .col true,.sl .str true,.sl .expr true,.sl .exprs true,.sl .set true,.bool,.int .i64,.int .i64,.int .i64,.str,.str,.sl .expr true,.sl .str true,.sl .bool true,.int .i64]),(43,.one (.sv .got))],44,40,200,[],[]⟩
abbrev K9:=List Tok×Int×Str×Str×List Col×List Str×List Xpr×List (List Xpr)×List SetE×Bool×Int×Int×Int×Str×Str×List Xpr×List Str×List Bool×Int×GotS×GotS×Int×Str×Str×List Col×List Str×List Xpr×List (List Xpr)×List SetE×Bool×Int×Int×Int×Str×Str×List Xpr×List Str×List Bool×Int×Int×Str×Str×List Col×List Str×List Xpr×List (List Xpr)×List SetE×Bool×Int×Int×Int×Str×Str×List Xpr×List Str×List Bool×Int×GotS
def Jq{R:Type}(rec:K9->Option R)(kx:Ex->K9->Option R)(v:K9):Option R:=match v with
 |(v,w,w1,w2,w3,w4,w5,w6,w7,w8,w9,c,d,e,f,g,h,i,k,l,a,m,n,o,b,p,q,r,s,t,u,x,y,z,a0,a1,a2,a3,a4,a5,a6,a7,a8,a9,aa,ab,ac,ad,ae,af,ag,ah,ai,aj,ak,al,am,an) =>
 let j:=λ(_:Unit) =>
  (A18 v a).bind λ(x5,x6) =>
  chk (decide (b.length+1<=Al)) (
   (A0 v x6 [44]).bind λx7 =>
   rec (v,w,w1,w2,w3,w4,w5,w6,w7,w8,w9,c,d,e,f,g,h,i,k,l,x7,m,n,o,(b++[x5]),p,q,r,s,t,u,x,y,z,a0,a1,a2,a3,a4,a5,a6,a7,a8,a9,aa,ab,ac,ad,ae,af,ag,ah,ai,aj,ak,al,am,an))
 cond (!a.bad) (
  cond (decide ((b.length:Int)=0)) (
  j ()) (
  (gis v a [80,82,73,77,65,82,89]).bind λx4 =>
   cond (!x4) (
   j ()) (
   kx (.exit 0) (v,w,w1,w2,w3,w4,w5,w6,w7,w8,w9,c,d,e,f,g,h,i,k,l,a,m,n,o,b,p,q,r,s,t,u,x,y,z,a0,a1,a2,a3,a4,a5,a6,a7,a8,a9,aa,ab,ac,ad,ae,af,ag,ah,ai,aj,ak,al,am,an)))) (
  kx (.exit 0) (v,w,w1,w2,w3,w4,w5,w6,w7,w8,w9,c,d,e,f,g,h,i,k,l,a,m,n,o,b,p,q,r,s,t,u,x,y,z,a0,a1,a2,a3,a4,a5,a6,a7,a8,a9,aa,ab,ac,ad,ae,af,ag,ah,ai,aj,ak,al,am,an))
def Al3(R:Type)(k:Nat):Px R:=pxO [(129,cA Mz),(130,cA Fj),(88,cA Kq),(165,cA Bjd),(131,cA Am0),(91,cA Rn)] [(130,qA Fj)] [(4,Ao k Ams (Jq)),(9,Ao k Alb (I4))] []
def Aop(R:Type)(k:Nat):Px R:=pxO [(130,cA Fj),(129,cA Mz),(166,cA Akg),(88,cA Kq)] [] [(4,Ao k An5 (Aay))] []
def Abe(R:Type)(_k:Nat):Px R:=pxO [(88,cA Kq),(91,cA Rn)] [] [] []
noncomputable def Alt(R:Type)(k:Nat):Px R:=pxO [(129,cA Mz),(130,cA Fj),(91,cA Rn),(88,cA Kq),(134,Av 80 400 (Abe R k) Tryz.f134)] [] [(4,Ao k Anv (Ab7))] []
def Amk(R:Type)(_k:Nat):Px R:=pxO [(88,cA Kq),(91,cA Rn)] [] [] []
def Ado(R:Type)(_k:Nat):Px R:=pxO [(88,cA Kq),(91,cA Rn)] [] [] []
noncomputable def Mh(R:Type)(k:Nat):Px R:=pxO [(88,cA Kq),(166,cA Akg),(130,cA Fj),(129,cA Mz),(136,cA Afi),(134,Av 80 400 (Ado R k) Tryz.f134)] [(88,qA Kq)] [(10,Vp k Z7 (W3) (Ao k Z5 (Wj)))] []
noncomputable def Axu(R:Type)(k:Nat):Px R:=pxO [(88,cA Kq),(130,cA Fj),(129,cA Mz),(131,cA Am0),(128,Av 40 200 (Al3 R k) Tryz.f128),(132,Av 40 200 (Aop R k) Tryz.f132),(133,Av 40 200 (Alt R k) Tryz.f133),(134,Av 40 200 (Amk R k) Tryz.f134),(135,Av 40 200 (Mh R k) Tryz.f135)] [] [] []
theorem A33(R:Type)(k:Nat):∀(fr:List Fr) (rec:E5->Option R) (kx:Ex->E5->Option R) (v:E5),Ud (Mh R k) Z7 (lp Tryz.f135 0) fr rec kx v=W3 rec kx v
 |fr,rec,kx,(a,b,c,d,e,f,g,h,i,j,l,m,n,o,p,q,r,s,t,u,w,x,y,z,a0,a1,a2,a3,a4,a5,a6,a7,a8,a9,aa,ab,ac,ad,ae,af,ag,ah,ai,aj,ak,al,am,an,ao,ap,aq,ar,au,av,aw,ax,ay,az)=>by kernel_rfl
theorem A3d(R:Type)(k:Nat):∀(fr:List Fr) (rec:K7->Option R) (kx:Ex->K7->Option R) (v:K7),Ud (Mh R k) Z5 (lp Tryz.f135 0) fr rec kx v=Wj rec kx v
 |fr,rec,kx,(a,b,c,d,e,f,g,h,i,j,l,m,n,o,p,q,r,s,t,u,w,x,y,z,a0,a1,a2,a3,a4,a5,a6,a7,a8,a9,aa,ab,ac,ad,ae,af,ag,ah,ai,aj,ak,al,am,an,ao,ap,aq,ar,au,av,aw,ax,ay,az)=>by kernel_rfl
def Fh(k:Nat)(x:HV [.sl .tok false,.sv .got,.str]):Option (HV [.sv .stmt,.sv .got]):=match x with
 |(l,g,f) =>
 cond (decide (f=[67,82,69,65,84,69])) (
  (gis l g [84,65,66,76,69]).bind λx =>
  cond (x) (
   (Dm l (GotS.mk (wr .i64 (g.pos+1)) false)).bind λ(x1,x2) =>
   (A0 l x2 [40]).bind λx3 =>
    Ak (λrec=>Jq rec (λe vz=>match vz with|(v1,v2,v3,v4,v5,v6,v7,v8,v9,b0,b1,b2,b3,b4,b5,b6,b7,b8,b9,ba,bb,bc,bd,be,bf,_,bg,bh,bi,bj,bk,bl,bm,bn,bo,bp,bq,br,bs,bt,bu,bv,bw,bx,bz,c0,c1,c2,c3,c4,c5,c6,c7,c8,c9,ca,cb,cc)=>match e with
    |.exit 0 =>
     (A0 v1 bb [80,82,73,77,65,82,89,32,75,69,89]).bind λx8 =>
     (Sd v1 x8).bind λ(x9,cd) =>
      Ak (λrec=>I4 rec (λe vz=>match vz with|(ce,_,_,_,_,_,_,_,_,_,_,_,_,_,_,_,_,_,_,_,cf,cg,ch,ci,cj,ck,cl,cm,cn,co,cp,cq,cr,cs,ct,cu,cv,cw,cx,_,_,_,_,_,_,_,_,_,_,_,_,_,_,_,_,_,_,_)=>match e with
      |.exit 2 =>
       (A0 ce cf [41]).bind λcy =>
       some ((Stm.mk cg ch ci cj ck cl cm cn co (Xpr.mk cp ⟨cq,cr,cs⟩ ct cu) cv cw cx),cy)
      |_=>none)) k (v1,v2,v3,v4,v5,v6,v7,v8,v9,b0,b1,b2,b3,b4,b5,b6,b7,b8,b9,ba,cd,bc,bd,be,bf,x9,bg,bh,bi,bj,bk,bl,bm,bn,bo,bp,bq,br,bs,bt,bu,bv,bw,bx,bz,c0,c1,c2,c3,c4,c5,c6,c7,c8,c9,ca,cb,cc)
    |_=>none)) k (l,0,[],[],[],[],[],[],[],false,0,0,0,[],[],[],[],[],0,(GotS.mk 0 false),x3,1,x1,[],[],[],[],[],[],false,0,0,0,[],[],[],[],[],0,0,[],[],[],[],[],[],[],false,0,0,0,[],[],[],[],[],0,(GotS.mk 0 false))) (
   (A0 l g [73,78,68,69,88]).bind λcz =>
   (Dm l cz).bind λ(d0,d1) =>
    (A0 l d1 [79,78]).bind λd2 =>
    (Dm l d2).bind λ(d3,d4) =>
     (Sd l d4).bind λ(d5,d6) =>
     some ((Stm.mk 3 d0 d3 [] d5 [] [] [] false (Xpr.mk 0 ⟨0,0,[]⟩ [] []) [] [] 0),d6))) (
  cond (decide (f=[68,82,79,80])) (
  (gis l g [84,65,66,76,69]).bind λd7 =>
   cond (!d7) (
   (A0 l g [73,78,68,69,88]).bind λd8 =>
    (Dm l d8).bind λ(d9,da) =>
    some ((Stm.mk 4 d9 [] [] [] [] [] [] false (Xpr.mk 0 ⟨0,0,[]⟩ [] []) [] [] 0),da)) (
   (Dm l (GotS.mk (wr .i64 (g.pos+1)) g.bad)).bind λ(db,dc) =>some ((Stm.mk 2 db [] [] [] [] [] [] false (Xpr.mk 0 ⟨0,0,[]⟩ [] []) [] [] 0),dc))) (
  cond (decide (f=[73,78,83,69,82,84])) (
   (A0 l g [73,78,84,79]).bind λdd =>
   (Dm l dd).bind λ(de,df) =>
    (A0 l df [86,65,76,85,69,83]).bind λdg =>
    Ak (λrec=>Aay rec (λe vz=>match vz with|(_,_,_,_,_,_,_,_,_,_,_,_,_,_,_,_,_,_,_,_,_,_,_,_,_,_,_,_,_,_,_,_,_,_,_,_,_,_,_,dh,di,dj,dk,dl,dm,dn,dp,dq,dr,ds,dt,du,dv,dw,dx,dy,dz,e0)=>match e with
     |.ret =>
     some ((Stm.mk dh di dj dk dl dm dn dp dq (Xpr.mk dr ⟨ds,dt,du⟩ dv dw) dx dy dz),e0)
     |_=>none)) k (l,0,[],[],[],[],[],[],[],false,0,0,0,[],[],[],[],[],0,(GotS.mk 0 false),dg,5,de,[],[],[],[],[],[],false,0,0,0,[],[],[],[],[],0,0,[],[],[],[],[],[],[],false,0,0,0,[],[],[],[],[],0,(GotS.mk 0 false))) (
   cond (decide (f=[85,80,68,65,84,69])) (
   (Dm l g).bind λ(e1,e2) =>
    (A0 l e2 [83,69,84]).bind λe3 =>
    Ak (λrec=>Ab7 rec (λe vz=>match vz with|(_,_,_,_,_,_,_,_,_,_,_,_,_,_,_,_,_,_,_,_,_,_,_,_,_,_,_,_,_,_,_,_,_,_,_,_,_,_,_,e4,e5,e6,e7,e8,e9,ea,eb,ec,ed,ee,ef,eg,eh,ei,ej,ek,el,em)=>match e with
     |.ret =>
     some ((Stm.mk e4 e5 e6 e7 e8 e9 ea eb ec (Xpr.mk ed ⟨ee,ef,eg⟩ eh ei) ej ek el),em)
     |_=>none)) k (l,0,[],[],[],[],[],[],[],false,0,0,0,[],[],[],[],[],0,(GotS.mk 0 false),e3,6,e1,[],[],[],[],[],[],false,0,0,0,[],[],[],[],[],0,0,[],[],[],[],[],[],[],false,0,0,0,[],[],[],[],[],0,(GotS.mk 0 false))) (
   cond (decide (f=[68,69,76,69,84,69])) (
    (A0 l g [70,82,79,77]).bind λen =>
    (Dm l en).bind λ(ap,m) =>
     (gis l m [87,72,69,82,69]).bind λeo =>
     cond (eo) (
      (Kr l (GotS.mk (wr .i64 (m.pos+1)) false) 1).bind λ(ep,er) =>
      some ((Stm.mk 7 ap [] [] [] [] [] [] true (Fb ep) [] [] 0),er)) (
      some ((Stm.mk 7 ap [] [] [] [] [] [] false (Xpr.mk 0 ⟨0,0,[]⟩ [] []) [] [] 0),m))) (
    cond (decide (f=[83,69,76,69,67,84])) (
    let j3:=λ(es:GotS) (d:List Xpr) =>
     (A0 l es [70,82,79,77]).bind λet =>
     (Dm l et).bind λ(h,a) =>
      (gis l a [87,72,69,82,69]).bind λeu =>
      cond (eu) (
       (Kr l (GotS.mk (wr .i64 (a.pos+1)) false) 1).bind λ(b,c) =>
       (gis l c [79,82,68,69,82]).bind λev =>
        cond (ev) (
        (A0 l c [79,82,68,69,82,32,66,89]).bind λew =>
         Ak (λrec=>W3 rec (λe vz=>match vz with|(aq,_,_,_,_,_,_,_,_,_,_,_,_,_,_,_,_,_,_,_,i,o,p,q,r,t,u,w,y,z,a0,a1,a2,a3,a4,a5,a6,a7,ar,_,_,_,_,_,_,_,_,_,_,_,_,_,_,_,_,_,_,_)=>match e with
         |.exit 0 =>
          (gis aq i [76,73,77,73,84]).bind λex =>
          cond (ex) (
           (Ae6 aq (GotS.mk (wr .i64 (i.pos+1)) i.bad)).bind λau =>
           cond (!decide (au.kind=3)) (
            some ((Stm.mk o p q r t u w y z (Xpr.mk a0 ⟨a1,a2,a3⟩ a4 a5) a6 a7 ar),(GotS.mk (wr .i64 (i.pos+1)) true))) (
            some ((Stm.mk o p q r t u w y z (Xpr.mk a0 ⟨a1,a2,a3⟩ a4 a5) a6 a7 au.n),(GotS.mk (wr .i64 ((wr .i64 (i.pos+1))+1)) i.bad)))) (
           some ((Stm.mk o p q r t u w y z (Xpr.mk a0 ⟨a1,a2,a3⟩ a4 a5) a6 a7 ar),i))
         |_=>none)) k (l,0,[],[],[],[],[],[],[],false,0,0,0,[],[],[],[],[],0,(GotS.mk 0 false),ew,8,h,[],[],[],d,[],[],true,b.kind,b.v.kind,b.v.n,b.v.s,b.name,b.l,[],[],(-1),0,[],[],[],[],[],[],[],false,0,0,0,[],[],[],[],[],0,(GotS.mk 0 false))) (
        (gis l c [76,73,77,73,84]).bind λey =>
         cond (ey) (
         (Ae6 l (GotS.mk (wr .i64 (c.pos+1)) c.bad)).bind λav =>
          cond (!decide (av.kind=3)) (
          some ((Stm.mk 8 h [] [] [] d [] [] true (Fb b) [] [] (-1)),(GotS.mk (wr .i64 (c.pos+1)) true))) (
          some ((Stm.mk 8 h [] [] [] d [] [] true (Fb b) [] [] av.n),(GotS.mk (wr .i64 ((wr .i64 (c.pos+1))+1)) c.bad)))) (
         some ((Stm.mk 8 h [] [] [] d [] [] true (Fb b) [] [] (-1)),c)))) (
       (gis l a [79,82,68,69,82]).bind λez =>
       cond (ez) (
        (A0 l a [79,82,68,69,82,32,66,89]).bind λf0 =>
        Ak (λrec=>Wj rec (λe vz=>match vz with|(aw,_,_,_,_,_,_,_,_,_,_,_,_,_,_,_,_,_,_,_,j,a8,a9,aa,ab,ac,ad,ae,af,ag,ah,ai,aj,ak,al,am,an,ao,ax,_,_,_,_,_,_,_,_,_,_,_,_,_,_,_,_,_,_,_)=>match e with
         |.exit 0 =>
         (gis aw j [76,73,77,73,84]).bind λf1 =>
          cond (f1) (
          (Ae6 aw (GotS.mk (wr .i64 (j.pos+1)) j.bad)).bind λay =>
           cond (!decide (ay.kind=3)) (
           some ((Stm.mk a8 a9 aa ab ac ad ae af ag (Xpr.mk ah ⟨ai,aj,ak⟩ al am) an ao ax),(GotS.mk (wr .i64 (j.pos+1)) true))) (
           some ((Stm.mk a8 a9 aa ab ac ad ae af ag (Xpr.mk ah ⟨ai,aj,ak⟩ al am) an ao ay.n),(GotS.mk (wr .i64 ((wr .i64 (j.pos+1))+1)) j.bad)))) (
          some ((Stm.mk a8 a9 aa ab ac ad ae af ag (Xpr.mk ah ⟨ai,aj,ak⟩ al am) an ao ax),j))
         |_=>none)) k (l,0,[],[],[],[],[],[],[],false,0,0,0,[],[],[],[],[],0,(GotS.mk 0 false),f0,8,h,[],[],[],d,[],[],false,0,0,0,[],[],[],[],[],(-1),0,[],[],[],[],[],[],[],false,0,0,0,[],[],[],[],[],0,(GotS.mk 0 false))) (
        (gis l a [76,73,77,73,84]).bind λf2 =>
        cond (f2) (
         (Ae6 l (GotS.mk (wr .i64 (a.pos+1)) a.bad)).bind λaz =>
         cond (!decide (az.kind=3)) (
          some ((Stm.mk 8 h [] [] [] d [] [] false (Xpr.mk 0 ⟨0,0,[]⟩ [] []) [] [] (-1)),(GotS.mk (wr .i64 (a.pos+1)) true))) (
          some ((Stm.mk 8 h [] [] [] d [] [] false (Xpr.mk 0 ⟨0,0,[]⟩ [] []) [] [] az.n),(GotS.mk (wr .i64 ((wr .i64 (a.pos+1))+1)) a.bad)))) (
         some ((Stm.mk 8 h [] [] [] d [] [] false (Xpr.mk 0 ⟨0,0,[]⟩ [] []) [] [] (-1)),a))))
    (gis l g [42]).bind λf3 =>
     cond (f3) (
     j3 (GotS.mk (wr .i64 (g.pos+1)) g.bad) []) (
     (Up l g).bind λ(f4,f5) =>j3 f5 f4)) (
    some ((Stm.mk 0 [] [] [] [] [] [] [] false (Xpr.mk 0 ⟨0,0,[]⟩ [] []) [] [] 0),(GotS.mk 0 true))))))))
theorem A9v(k:Nat):FO 87 [.sl .tok false,.sv .got,.str] [.sv .stmt,.sv .got] (Fh k):=fR (px:=Axu _ k) (n:=0) Tryz.func87 rfl (λcx H=>by have h1:Lv cx (Al3 (HV [.sv .stmt,.sv .got]) k):=lv H (c1 H L3 (c1 H E0 (c1 H Hm (c1 H Bnr (c1 H Apt (c1 H Pd Ah)))))) (q1 H E0 Ae) Ab;have hlgstmt_0:=lO H h1 (b:=lp Tryz.f128 0) (k:=k) (n:=0) (s:=Ams) (step:=Jq) (λ_ _ _ (_,_,_,_,_,_,_,_,_,_,_,_,_,_,_,_,_,_,_,_,_,_,_,_,_,_,_,_,_,_,_,_,_,_,_,_,_,_,_,_,_,_,_,_,_,_,_,_,_,_,_,_,_,_,_,_,_,_)=>by kernel_rfl) Aj;have hlgstmt_1:=lO H h1 (b:=lp Tryz.f128 1) (k:=k) (n:=0) (s:=Alb) (step:=I4) (λ_ _ _ (_,_,_,_,_,_,_,_,_,_,_,_,_,_,_,_,_,_,_,_,_,_,_,_,_,_,_,_,_,_,_,_,_,_,_,_,_,_,_,_,_,_,_,_,_,_,_,_,_,_,_,_,_,_,_,_,_,_)=>by kernel_rfl) Aj;have h2:Lv cx (Aop (HV [.sv .stmt,.sv .got]) k):=lv H (c1 H E0 (c1 H L3 (c1 H Atr (c1 H Hm Ah)))) Ae Ab;have hlgstmt_2:=lO H h2 (b:=lp Tryz.f132 0) (k:=k) (n:=0) (s:=An5) (step:=Aay) (λ_ _ _ (_,_,_,_,_,_,_,_,_,_,_,_,_,_,_,_,_,_,_,_,_,_,_,_,_,_,_,_,_,_,_,_,_,_,_,_,_,_,_,_,_,_,_,_,_,_,_,_,_,_,_,_,_,_,_,_,_,_)=>by kernel_rfl) Aj;have h4:Lv cx (Abe (HV [.sv .stmt,.sv .got]) k):=lv H (c1 H Hm (c1 H Pd Ah)) Ae Ab;have h3:Lv cx (Alt (HV [.sv .stmt,.sv .got]) k):=lv H (c1 H L3 (c1 H E0 (c1 H Pd (c1 H Hm (As (cR H h4 Tryz.func134 rfl (n:=0) (Aj)) Ah))))) Ae Ab;have hlgstmt_3:=lO H h3 (b:=lp Tryz.f133 0) (k:=k) (n:=0) (s:=Anv) (step:=Ab7) (λ_ _ _ (_,_,_,_,_,_,_,_,_,_,_,_,_,_,_,_,_,_,_,_,_,_,_,_,_,_,_,_,_,_,_,_,_,_,_,_,_,_,_,_,_,_,_,_,_,_,_,_,_,_,_,_,_,_,_,_,_,_)=>by kernel_rfl) Aj;have h5:Lv cx (Amk (HV [.sv .stmt,.sv .got]) k):=lv H (c1 H Hm (c1 H Pd Ah)) Ae Ab;have h7:Lv cx (Ado (HV [.sv .stmt,.sv .got]) k):=lv H (c1 H Hm (c1 H Pd Ah)) Ae Ab;have h6:Lv cx (Mh (HV [.sv .stmt,.sv .got]) k):=lv H (c1 H Hm (c1 H Atr (c1 H E0 (c1 H L3 (c1 H Acj (As (cR H h7 Tryz.func134 rfl (n:=0) (Aj)) Ah)))))) (q1 H Hm Ae) Ab;have hlgstmt_4:C5 cx (Mh (HV [.sv .stmt,.sv .got]) k) (lp Tryz.f135 0):=Av2 (λ_ _=>by kernel_rfl) (W6 (Ls h6.p h6.c h6.q (by rw[H.p];exact follows) (k:=k) (s:=Z7) (step:=W3) (by kernel_rfl) (A33 _ k) (J0 (n:=0) (by kernel_rfl) Aj)) (Ls h6.p h6.c h6.q (by rw[H.p];exact follows) (k:=k) (s:=Z5) (step:=Wj) (by kernel_rfl) (A3d _ k) (J0 (n:=0) (by kernel_rfl) Aj)));have h0:Lv cx (Axu (HV [.sv .stmt,.sv .got]) k):=lv H (c1 H Hm (c1 H E0 (c1 H L3 (c1 H Apt (As (cR H h1 Tryz.func128 rfl (n:=2) ((Bh (Bh Aj hlgstmt_0) hlgstmt_1))) (As (cR H h2 Tryz.func132 rfl (n:=1) ((Bh Aj hlgstmt_2))) (As (cR H h3 Tryz.func133 rfl (n:=1) ((Bh Aj hlgstmt_3))) (As (cR H h5 Tryz.func134 rfl (n:=0) (Aj)) (As (cR H h6 Tryz.func135 rfl (n:=1) ((Bh Aj hlgstmt_4))) Ah))))))))) Ae Ab;exact⟨h0,Aj⟩) λ(_,_,_)=>by kernel_rfl
def Hc(l:List Tok)(g:GotS)(f:Str):Option (Stm×GotS):=Fh (l.length+3) (l,g,f)
def A6t:FT [.sl .tok false,.sv .got,.str] [.sv .stmt,.sv .got]:=λx=>Hc x.1 x.2.1 x.2.2
theorem Blz:FO 87 [.sl .tok false,.sv .got,.str] [.sv .stmt,.sv .got] A6t :=.fin 0 A9v λ(l,_,_) _ _ hx=>⟨l.length+3,hx⟩
open Lp (tokS tw isWd isUp isLo isDi isIn pre clsF rnameF wordF nq qS unGo hexD rnumF rnumGo checkF)
def dlm(r:Str):Prop:=∀c t,r=c::t->isWd (c.toNat:Int)=false/\c≠39
theorem Bpf{p q:UInt8->Bool}(h:∀b,p b=true->q b=true){w:Str}(hw:w.all p=true):w.all q=true:=Zg2.2 λb hb=>h b (Zg2.1 hw b hb)
theorem Bo3{p:Int->Bool}{w r:Str}(hw:w.all (λb=>p b.toNat)=true)(hr:∀c t,r=c::t->p (c.toNat:Int)=false):tw p (w++r)=w:=by rw[Lp.tw_app r hr w];have h1:=(Lp.tw_full (p:=p) w).2 hw;have h2:=Lp.tw_take p w;rw[h1,List.take_length] at h2;exact h2.symm
theorem Bsk{m:Str}(h:∀a t,m=a::39::t->False):pre m [120,39]=false:=by match m,h with|[],_=>rfl|[a],_=>simp[pre]|a::b::t,h =>have hb:b≠39:=λe=>h a t (by rw[e]);simp[pre,hb]
theorem Bvk:isWd 39=false:=by decide +kernel
theorem Bii{w r:Str}(hne:w≠[])(hw:w.all (λb=>isWd b.toNat)=true)(hr:dlm r):pre (w++r) [120,39]=false:=by refine Bsk λa t h =>?_;match w,hne,hw,h with|[x],_,_,h =>simp only[Zb2,Zf2,Ze2] at h;exact(hr 39 t h.2).2 rfl|x::y::w,_,hw,h =>simp only[Zb2,Ze2] at h;obtain⟨_,rfl,_⟩:=h;simp only[Zv1,Zb1] at hw;have h2:=hw.2.1;have e:((39:UInt8).toNat:Int)=39:=rfl;rw[e,Bvk] at h2;cases h2
theorem Bsz{c:Int}(h:isUp c=true):clsF c=1:=by simp[clsF,h]
theorem Bcl{w r:Str}(h:wordF w=true)(hr:dlm r):tokS (w++r)=some (1,w,0,w.length):=by
 have hu:=Lp.word_up h;have hne:w≠[]:=by rintro rfl;exact absurd h (by decide +kernel)
 have hw:w.all (λb=>isWd b.toNat)=true:=Bpf (λb hb=>Lp.up_wd b hb) hu;have hp:=Bii hne hw hr;have ht:=Bo3 hw (λc t e=>(hr c t e).1);cases w with|nil=>exact absurd rfl hne|cons c t =>simp only[Zv1,Zb1] at hu;have hc:clsF (Sx.byt (c::t++r) 0)=1:=Bsz hu.1;unfold tokS;rw[hp,ht,if_neg (by simp),if_pos hc,if_pos h]
def Ayq(n:Nat):Str:=if n=0 then [48] else txt (S0 n)
theorem Axg{n:Int}(h : 0<=n):Bfa n=Ayq n.natAbs:=by
 unfold Bfa Ayq;rw[if_neg (by omega)];by_cases h0:n=0
 ·rw[if_pos h0,if_pos (by omega)]
 ·rw[if_neg h0,if_neg (by omega)]
theorem Bel(x:Str):Gz x=Lp.visF x:=by
 have e:∀b:UInt8,vis b=Lp.vis (b.toNat:Int):=λb=>by simp only[vis,Lp.vis];rw[show decide (32<=b.toNat)=decide (32<=(b.toNat:Int)) from Zy1.2 (by omega),show decide (b.toNat<=126)=decide ((b.toNat:Int)<=126) from Zy1.2 (by omega)]
 simp only[Gz,Lp.visF];congr 1;funext b;exact e b
theorem Bjg(x:Str):Fy (Val.mk 4 0 x)=Lp.rightF 4 0 x:=by show cond (decide ((x.length:Int)<=1000)) (Gz x) false=(decide ((x.length:Int)<=1000)&&Lp.visF x);rw[Bel];cases decide ((x.length:Int)<=1000)<;>rfl
end Go.Proofs.YthndhaolemgbdaaGreatDoor
namespace Go.Proofs.YthndhaolemgbdaaGreatDoor
open Go.Ax
open Lp (tokS)
def Bt6(k:Int):Prop:=4<=k/\k<=14
theorem A9q(x:Xpr):etx (.mk 3 ⟨0,0,[]⟩ [] [x])=40::([78,79,84]++32::(etx x++[41])):=by simp[etx,etxs]
theorem Boz(x:Xpr):etx (.mk 15 ⟨0,0,[]⟩ [] [x])=40::45::(etx x++[41]):=by simp[etx,etxs]
theorem A74(x:Xpr):etx (.mk 16 ⟨0,0,[]⟩ [] [x])=40::(etx x++32::73::83::32::78::85::76::76::[41]):=by simp[etx,etxs]
theorem Bqw{k:Int}(h:Bt6 k)(x y:Xpr):etx (.mk k ⟨0,0,[]⟩ [] [x,y])=40::(etx x++32::(sgn k++32::(etx y++[41]))):=by simp only[Bt6] at h;simp only[etx,etxs,etx1];rw[if_neg (by omega),if_neg (by omega),if_neg (by omega),if_neg (by omega),if_neg (by omega)];simp
def Bn7(k:Int):Bool:=(sgn k).all (λc => !decide (c=32)) && !decide (sgn k=[]) && !decide ((sgn k).head? = some 73)
section
variable {α:Type}(f : α->Str) (P : α->Prop) (D:Str->Prop)
end
theorem Atu:∀l:List Str,Lib.join l [44,32]=Cy (λx=>x) l
 |[]=>rfl
 |[x]=>by simp[Lib.join,Cy,Ke]
 |x::y::l=>by
  have ih:=Atu (y::l);have e:Lib.join (x::y::l) [44,32]=x++([44,32]++Lib.join (y::l) [44,32]):=by simp[Lib.join,List.intercalate,List.intersperse]
  simp only[Cy,Ke] at ih ⊢;rw[e,ih];simp only[Zj1]
theorem Bqe{s:Stm}(h : 1<=s.kind/\s.kind<=8):(Dh s).take 6=if s.kind=1\/s.kind=3 then [67,82,69,65,84,69] else if s.kind=2 then [68,82,79,80,32,84] else if s.kind=4 then [68,82,79,80,32,73] else if s.kind=5 then [73,78,83,69,82,84] else if s.kind=6 then [85,80,68,65,84,69] else if s.kind=7 then [68,69,76,69,84,69] else [83,69,76,69,67,84]:=by
 have:s.kind=1\/s.kind=2\/s.kind=3\/s.kind=4\/s.kind=5\/s.kind=6\/s.kind=7\/s.kind=8:=by omega
 rcases this with h|h|h|h|h|h|h|h<;>simp[Dh,Qz,A5b,h]
theorem Ajn{s t:Stm}(hs : 1<=s.kind/\s.kind<=8)(ht : 1<=t.kind/\t.kind<=8)(h:Dh s=Dh t):s.kind=t.kind:=by
 have h6:=congrArg (List.take 6) h;rw[Bqe hs,Bqe ht] at h6;have e1:s.kind=1\/s.kind=2\/s.kind=3\/s.kind=4\/s.kind=5\/s.kind=6\/s.kind=7\/s.kind=8:=by omega
 have e2:t.kind=1\/t.kind=2\/t.kind=3\/t.kind=4\/t.kind=5\/t.kind=6\/t.kind=7\/t.kind=8:=by omega
 rcases e1 with k|k|k|k|k|k|k|k<;>rcases e2 with l|l|l|l|l|l|l|l<;>first
  |exact k.trans l.symm
  |(simp[k,l] at h6;done)
  |(simp[Dh,Qz,k,l] at h)
end Go.Proofs.YthndhaolemgbdaaGreatDoor
namespace Go.Proofs.YthndhaolemgbdaaGreatDoor
open Go.Ax
open Lp (tokS Sc clsF)
theorem Bpy{m:Str}{x:Int×Str×Int×Nat}(h:tokS m=some x):clsF (Sx.byt m 0)≠6:=λh6=>by
 by_cases hp:Lp.pre m [120,39]=true
 ·have e:Sx.byt m 0=120:=by match m,hp with|[],hp=>cases hp|[a],hp=>simp[Lp.pre] at hp|a::b::t,hp =>simp[Lp.pre] at hp;rw[hp.1];rfl
  rw[e] at h6;exact absurd h6 (by decide +kernel)
 ·unfold tokS at h;rw[if_neg hp,h6] at h;simp at h
theorem Bqu{w r:Str}{q k n:Int}{s:Str}{us:TL}(h:tokS (w++r)=some (k,s,n,w.length))(hr:Sc r (q+w.length) us):Sc (w++r) q (⟨k,q,s,n⟩::us) :=.tok (Bpy h) h (by rw[List.drop_left];exact hr)
theorem Btq:clsF ((32:UInt8).toNat:Int)=6:=by decide +kernel
def Lx(D:Str->Prop)(a:Str)(Q:TL->Prop):Prop:=∀r q us,D r->Sc r (q+a.length) us->∃ts,Sc (a++r) q (ts++us)/\Q ts
def Bvq(_:Str):Prop:=True
theorem Lx.app{D1 D2:Str->Prop}{a b:Str}{Q1 Q2:TL->Prop}(ha:Lx D1 a Q1)(hb:Lx D2 b Q2)(hd:∀r,D2 r->D1 (b++r)):Lx D2 (a++b) λts=>∃t1 t2,ts=t1++t2/\Q1 t1/\Q2 t2:=λr q us hr hs=>by obtain⟨t2,h2,q2⟩:=hb r (q+a.length) us hr (by rw[Zh1] at hs;rw[show q+(a.length:Int)+(b.length:Int)=q+((a.length+b.length:Nat):Int) by omega];exact hs);obtain⟨t1,h1,q1⟩:=ha (b++r) q (t2++us) (hd r hr) h2;exact⟨t1++t2,by rw[Zj1,Zj1];exact h1,t1,t2,rfl,q1,q2⟩
theorem Lx.mono{D D':Str->Prop}{a:Str}{Q Q':TL->Prop}(h:Lx D a Q)(hd:∀r,D' r->D r)(hq:∀ts,Q ts->Q' ts):Lx D' a Q':=λr q us hr hs=>by obtain⟨ts,h1,h2⟩:=h r q us (hd r hr) hs;exact⟨ts,h1,hq ts h2⟩
theorem Lx.nil{D:Str->Prop}{Q:TL->Prop}(h:Q []):Lx D [] Q:=λr q us _ hs=>⟨[],by simpa using hs,h⟩
theorem Lx.sp{D:Str->Prop}{a:Str}{Q:TL->Prop}(h:Lx D a Q):Lx D (32::a) Q:=λr q us hr hs=>by obtain⟨ts,h1,h2⟩:=h r (q+1) us hr (by rw[Zf1] at hs;rw[show q+1+(a.length:Int)=q+((a.length+1:Nat):Int) by omega];exact hs);exact⟨ts,.blank Btq h1,h2⟩
def Bun(k:Int)(s:Str)(n:Int)(ts:TL):Prop:=∃t:Tok,ts=[t]/\t.kind=k/\t.s=s/\t.n=n
def IsW(s:Str)(ts:TL):Prop:=∃t:Tok,ts=[t]/\isT s [t]=true
theorem Lx.one{D:Str->Prop}{w s:Str}{k n:Int}(h:∀r,D r->tokS (w++r)=some (k,s,n,w.length)):Lx D w (Bun k s n):=λr q _ hr hs =>⟨[⟨k,q,s,n⟩],Bqu (h r hr) hs,_,rfl,rfl,rfl,rfl⟩
theorem Bud{k n:Int}{s:Str}(hk:k=1\/k=6){ts:TL}(h:Bun k s n ts):IsW s ts:=by obtain⟨t,h1,h2,h3,_⟩:=h;refine⟨t,h1,?_⟩;simp only[isT,h2,h3,decide_true,Bool.and_true,Zd2,Zg1];exact hk
theorem Lx.word{w:Str}(h:Lp.wordF w=true):Lx dlm w (IsW w):=(Lx.one λ_ hr=>Bcl h hr).mono (λ_ h=>h) (λ_ h=>Bud (.inl rfl) h)
theorem Btr{c:UInt8}(hc:clsF (c.toNat:Int)=7):c≠120:=λh=>by subst h;exact absurd hc (by decide +kernel)
theorem Bef{c:UInt8}{r:Str}(hc:clsF (c.toNat:Int)=7)(h2:Lp.twoS (c::r)=false):tokS ([c]++r)=some (6,[c],0,[c].length):=by
 have hp:Lp.pre (c::r) [120,39]=false:=by simp[Lp.pre,Btr hc]
 have hc':clsF (Sx.byt (c::r) 0)=7:=hc;show tokS (c::r)=_;unfold tokS;rw[hp,if_neg (by simp),if_neg (by rw[hc'];decide),if_neg (by rw[hc'];decide),if_neg (by rw[hc'];decide),if_neg (by rw[hc'];decide),if_pos hc',h2];rfl
theorem Br5{c:UInt8}(h1:c≠60)(h2:c≠62)(r:Str):Lp.twoS (c::r)=false:=by simp[Lp.twoS,Lp.pre,h1,h2]
theorem Lx.sign{c:UInt8}(hc:clsF (c.toNat:Int)=7)(h1:c≠60)(h2:c≠62):Lx Bvq [c] (IsW [c]):=(Lx.one λr _=>Bef hc (Br5 h1 h2 r)).mono (λ_ h=>h) (λ_ h=>Bud (.inr rfl) h)
def Stop(us:TL):Prop:=Bb us=(0,0)/\isT sIS us=false
def isIn(ts:TL)(e:Xpr):Prop:=∀us,Stop us->orW (ts++us) = .ok (e,us)
def Rd{α:Type}(p:TL->PR α)(D:Str->Prop)(S T:TL->Prop)(a:Str)(x : α):Prop:=Lx D a λts=>∀vs,S vs->T (ts++vs)/\p (ts++vs) = .ok (x,vs)
section
variable {α β:Type}{p:TL->PR α}{D D1 D2:Str->Prop}{S S1 S2 T T1 T2:TL->Prop}{a b:Str}{x : α}{y : β}
theorem Rd.bind{f : α->TL->PR β}(h1:Rd p D1 S1 T1 a x)(h2:Rd (f x) D2 S2 T2 b y)(hd:∀r,D2 r->D1 (b++r))(hs:∀l,T2 l->S1 l):Rd (bP p f) D2 S2 T1 (a++b) y :=(Lx.app h1 h2 hd).mono (λ_ h=>h) λts ⟨t1,t2,e,q1,q2⟩ vs hv=>by subst e;obtain⟨a1,a2⟩:=q2 vs hv;obtain⟨b1,b2⟩:=q1 (t2++vs) (hs _ a1);rw[Zj1];refine⟨b1,?_⟩;simp only[bP,b2,a2]
theorem Rd.map{g : α->β}(h:Rd p D S T a x):Rd (bP p λx=>Bg (g x)) D S T a (g x) :=Lx.mono h (λ_ h=>h) λ_ q vs hv=>⟨(q vs hv).1,by simp only[bP,(q vs hv).2];rfl⟩
theorem Rd.mono(h:Rd p D1 S1 T1 a x)(hd:∀r,D2 r->D1 r)(hs:∀l,S2 l->S1 l)(ht:∀l,T1 l->T2 l):Rd p D2 S2 T2 a x :=Lx.mono h hd λ_ q vs hv=>⟨ht _ (q vs (hs vs hv)).1,(q vs (hs vs hv)).2⟩
end
def hdW(w:Str)(l:TL):Prop:=isT w l=true
end Go.Proofs.YthndhaolemgbdaaGreatDoor
namespace Go.Proofs.YthndhaolemgbdaaGreatDoor
open Go.Ax
abbrev RS:=List Tok×Int×Bool×Int
def hdT(n:Int):TL->Tok
 |[]=>⟨0,n,[],0⟩
 |t::_=>t
theorem Bqt(n:Int)(l:TL):(hdT n l).pos=G6 n l:=by cases l<;>rfl
theorem Si(l:TL)(n:Int)(b:Bool)(p:Int):D9 (l,n,b,p)=some (hdT n l,l,n,b,p):=by cases l with|nil=>rfl|cons t r =>have e:decide (((t::r).length:Int)=0)=false:=Zd1 (by simp only[Zf1];omega);have h0:inb 0 (t::r).length=true:=A5 (i:=0) (by simp);simp only[D9,Zk,e,Af,h0,chk];rfl
theorem A9a(l:TL)(n:Int)(b:Bool)(p:Int):Cj (l,n,b,p)=some (hdT n l,l.tail,n,b,p):=by
 simp only[Cj,Zo,Si,Zc1];cases l with
 |nil=>rfl
 |cons t r =>
  have e:decide (0<((t::r).length:Int))=true:=Ze1 (by simp only[Zf1];omega);have h:Dp 1 ((t::r).length:Int) (t::r).length=true:=by simp only[Dp,Zb1,Zg1,Zf1];omega
  simp only[e,Aa,h,chk];rfl
theorem Awt(t:Tok)(r:TL)(n:Int)(b:Bool)(p:Int):D9 (t::r,n,b,p)=some (t,t::r,n,b,p):=Si _ _ _ _
theorem Auf(t:Tok)(r:TL)(n:Int)(b:Bool)(p:Int):Cj (t::r,n,b,p)=some (t,r,n,b,p):=A9a _ _ _ _
theorem Ew{s:Str}{l:TL}{n:Int}{b:Bool}{p:Int}(h:isT s l=true):Au (s,l,n,b,p)=some (true,l.tail,n,b,p):=by
 cases l with
 |nil=>cases h
 |cons t r =>simp only[isT,Zb1] at h;simp only[Au,Abg,Si,A9a,Zc1,hdT,h.2,Zt1,Af];have h1:=h.1;generalize decide (t.kind=1)=c1 at h1 ⊢;generalize decide (t.kind=6)=c2 at h1 ⊢;cases c1<;>cases c2<;>first|rfl|cases h1
theorem Ed{s:Str}{l:TL}{n:Int}{b:Bool}{p:Int}(h:isT s l=false):Au (s,l,n,b,p)=some (false,l,n,b,p):=by
 simp only[Au,Abg,Si,Zc1];cases l with
 |nil=>rfl
 |cons t r =>simp only[isT] at h;simp only[hdT];by_cases h1:t.kind=1<;>by_cases h6:t.kind=6<;>by_cases h3:t.s=s<;>first|(exfalso;simp[h1,h6,h3] at h;done)|simp[h1,h6,h3]
theorem W1(l:TL)(n p:Int):Ch (l,n,false,p)=some (l,n,true,G6 n l):=by simp only[Ch,S7,Si,Zc1,Bqt,Zs1,Aa]
theorem Acd(l:TL)(n p:Int):Ch (l,n,true,p)=some (l,n,true,p):=rfl
theorem Apq{R:Type}{kx:Ex->Vi->Option R}{ss:List Str}{n:Int}{c:TL->Bool->Int->Option R}(hn:ln ss.length)(h1:∀i l b p,kx .ret (ss,(ss.length:Int),i,l,n,b,p)=c l b p)(h2:∀i l b p,kx (.exit 0) (ss,(ss.length:Int),i,l,n,b,p)=c l b p)(a:Int):∀(k i:Nat) (l:TL),i<=ss.length->ss.length-i<k ->
  Ak (λrec=>R4 rec kx) k (ss,(ss.length:Int),(i:Int),l,n,false,a)=match Ay (ss.drop i) l with|.ok (_,l')=>c l' false a|.error q=>c q true (G6 n q)
 |0,_,_,_,h=>absurd h (Zm1 _)
 |k+1,i,l,hi,h=>by
  rw[Aw];by_cases hlt:i<ss.length
  ·have ih:=Apq hn h1 h2 a k (i+1) l.tail (by omega) (by omega);rw[An hlt];simp only[R4,E7 hlt,Aa,Af,A5 hlt,chk,A8 (c :=.str) hlt,A1 hlt hn,Ay];cases ht:isT ss[i] l with|true=>simp only[Ew ht,Zc1,Zt1,Af,ih]|false=>simp only[Ed ht,Zc1,Zs1,Aa,W1,h1]
  ·obtain rfl:i=ss.length:=by omega
   simp only[R4,E8,Af,h2,Zc2,Ay]
theorem Ava{ss:List Str}(hs:ss.length<=100)(l:TL)(n a:Int):Ai (ss,l,n,false,a)=match Ay ss l with
  |.ok (_,l')=>some (l',n,false,a)
  |.error q=>some (q,n,true,G6 n q):=by
 simp only[Ai,Ms];exact Apq (c:=λl b p=>some (l,n,b,p)) (by simp only[ln];omega) (λ_ _ _ _=>rfl) (λ_ _ _ _=>rfl) a (ss.length+1) 0 l (Nat.zero_le _) (by omega)
theorem Vr{ss:List Str}(hs:ss.length<=100){l l':TL}{x:Unit}(h:Ay ss l = .ok (x,l'))(n a:Int):Ai (ss,l,n,false,a)=some (l',n,false,a):=by rw[Ava hs,h]
theorem W9{ss:List Str}(hs:ss.length<=100){l q:TL}(h:Ay ss l = .error q)(n a:Int):Ai (ss,l,n,false,a)=some (q,n,true,G6 n q):=by rw[Ava hs,h]
theorem Ry(ss:List Str)(l:TL)(n a:Int):Ai (ss,l,n,true,a)=some (l,n,true,a):=by cases ss with|nil=>rfl|cons s r =>have e:decide ((0:Int)<((s::r).length:Int))=true:=Ze1 (by simp only[Zf1];omega);have h0:inb 0 (s::r).length=true:=A5 (i:=0) (by simp);simp only[Ai,Ms,Aw,R4,e,Aa,h0,chk,Acd,Zc1]
theorem Agq{s:Str}{l:TL}(h:isT s l=true):Ay [s] l = .ok ((),l.tail):=by simp only[Ay,h]
theorem Al6{s:Str}{l:TL}(h:isT s l=false):Ay [s] l = .error l:=by simp only[Ay,h]
structure SimP {α:Type}(F:RS->Option (α×RS)) (p:TL->PR α) (L:Nat):Prop where
 ok:∀l n a e l',l.length<L->p l = .ok (e,l')->F (l,n,false,a)=some (e,l',n,false,a)
 er:∀l n a q,l.length<L->p l = .error q->∃e l',F (l,n,false,a)=some (e,l',n,true,G6 n q)
 bad:∀l n a,∃e,F (l,n,true,a)=some (e,l,n,true,a)
theorem Cn(L:Nat):SimP Az Bt L where
 ok l n a e l' _ h:=by
  cases l with
  |nil=>cases h
  |cons t r =>simp only[Az,Lw,Awt,Auf,Zc1,Af];simp only[Bt] at h;cases hk:decide (t.kind=2) with|true=>rw[hk] at h;cases h;rfl|false=>rw[hk] at h;cases h
 er l n a q _ h:=by
  cases l with
  |nil=>cases h;exact⟨_,_,rfl⟩
  |cons t r =>simp only[Az,Lw,Awt,W1,Zc1,Af];simp only[Bt] at h;cases hk:decide (t.kind=2) with|true=>rw[hk] at h;cases h|false=>rw[hk] at h;cases h;exact⟨_,_,rfl⟩
 bad l n a:=by simp only[Az,Lw,Si,Acd,Zc1,Aa];exact⟨_,rfl⟩
theorem A7p(rf:A3->Option A2)(t:Tok)(r:TL)(n a:Int):Gr rf (t::r,n,false,a)=match Ab9 t with
  |some v=>some (v,r,n,false,a)
  |none=>(Ai ([[40]],t::r,n,false,a)).bind λ(x1,x2,x3,x4)=>(rf (x1,x2,x3,x4)).bind λ(e,y1,y2,y3,y4)=>(Ai ([[41]],y1,y2,y3,y4)).bind λ(z1,z2,z3,z4)=>some (e,z1,z2,z3,z4):=by
 simp only[Gr,Ng,Awt,Auf,Zc1,Af];unfold Ab9;by_cases h2:t.kind=2
 ·rw[Ze1 h2,if_pos h2];rfl
 rw[Zd1 h2,if_neg h2,Af];by_cases h3:t.kind=3
 ·rw[Ze1 h3,if_pos h3];rfl
 rw[Zd1 h3,if_neg h3,Af];by_cases h4:t.kind=4
 ·rw[Ze1 h4,if_pos h4];rfl
 rw[Zd1 h4,if_neg h4,Af];by_cases h5:t.kind=5
 ·rw[Ze1 h5,if_pos h5];rfl
 rw[Zd1 h5,if_neg h5,Af];by_cases h1:t.kind=1
 ·rw[Ze1 h1];simp only[Aa];by_cases g1:t.s=Aae
  ·rw[Ze1 (show t.s=[84,82,85,69] from g1),if_pos ⟨h1,g1⟩];rfl
  rw[Zd1 (show ¬t.s=[84,82,85,69] from g1),if_neg (λq=>g1 q.2),Af];by_cases g2:t.s=Rs
  ·rw[Ze1 (show t.s=[70,65,76,83,69] from g2),if_pos ⟨h1,g2⟩];rfl
  rw[Zd1 (show ¬t.s=[70,65,76,83,69] from g2),if_neg (λq=>g2 q.2),Af];by_cases g3:t.s=sNULL
  ·rw[Ze1 (show t.s=[78,85,76,76] from g3),if_pos ⟨h1,g3⟩];rfl
  rw[Zd1 (show ¬t.s=[78,85,76,76] from g3),if_neg (λq=>g3 q.2),Af]
 ·rw[Zd1 h1,if_neg (λq=>h1 q.1),if_neg (λq=>h1 q.1),if_neg (λq=>h1 q.1)];simp only[Af]
def I6{α:Type}(F:RS->Option (α×RS)):Prop:=∀l n a,∃e,F (l,n,true,a)=some (e,l,n,true,a)
theorem Ar8(rf:A3->Option A2):I6 (Gr rf):=λl n a=>by simp only[Gr,Ng,Si,Zc1,Aa];exact⟨_,rfl⟩
theorem Bdk{rf:A3->Option A2}{rec:TL->PR Xpr}{L:Nat}(h:SimP rf rec L):SimP (Gr rf) (Cf rec) (L+1) where
 ok l n a e l' hl hp:=by
  cases l with
  |nil=>cases hp
  |cons t r =>
   simp only[Zf1] at hl;rw[Pm] at hp;rw[A7p];cases hv:Ab9 t with
   |some v=>rw[hv] at hp;cases hp;rfl
   |none =>
    rw[hv] at hp;cases hi:isT [40] (t::r) with
    |false=>rw[hi] at hp;cases hp
    |true =>
     rw[hi] at hp;simp only[brP,bP] at hp;simp only[Vr (by decide) (Agq hi),Zc1,List.tail_cons];cases hq:rec r with
     |error q=>rw[hq] at hp;cases hp
     |ok x =>obtain⟨e1,l1⟩:=x;rw[hq] at hp;simp only at hp;simp only[h.ok r n a e1 l1 (by omega) hq,Zc1];cases hj:isT [41] l1 with|false=>rw[hj] at hp;cases hp|true =>rw[hj] at hp;cases hp;simp only[Vr (by decide) (Agq hj),Zc1]
 er l n a q hl hp:=by
  cases l with
  |nil =>cases hp;obtain⟨e1,h1⟩:=h.bad [] n n;refine⟨e1,[],?_⟩;have e:Gr rf ([],n,false,a)=(Ai ([[40]],[],n,false,a)).bind λ(x1,x2,x3,x4)=>(rf (x1,x2,x3,x4)).bind λ(e,y1,y2,y3,y4)=>(Ai ([[41]],y1,y2,y3,y4)).bind λ(z1,z2,z3,z4)=>some (e,z1,z2,z3,z4):=rfl;have hm:Ay [[40]] ([]:TL) = .error []:=rfl;simp only[e,W9 (by decide) hm,Zc1,G6,h1,Ry]
  |cons t r =>
   simp only[Zf1] at hl;rw[Pm] at hp;rw[A7p];cases hv:Ab9 t with
   |some v=>rw[hv] at hp;cases hp
   |none =>
    rw[hv] at hp;cases hi:isT [40] (t::r) with
    |false =>rw[hi] at hp;cases hp;obtain⟨e1,h1⟩:=h.bad (t::r) n (G6 n (t::r));simp only[W9 (by decide) (Al6 hi),Zc1,h1,Ry];exact⟨_,_,rfl⟩
    |true =>
     rw[hi] at hp;simp only[brP,bP] at hp;simp only[Vr (by decide) (Agq hi),Zc1,List.tail_cons];cases hq:rec r with
     |error q' =>rw[hq] at hp;cases hp;obtain⟨e1,l1,h1⟩:=h.er r n a q (by omega) hq;simp only[h1,Zc1,Ry];exact⟨_,_,rfl⟩
     |ok x =>obtain⟨e1,l1⟩:=x;rw[hq] at hp;simp only at hp;simp only[h.ok r n a e1 l1 (by omega) hq,Zc1];cases hj:isT [41] l1 with|true=>rw[hj] at hp;cases hp|false =>rw[hj] at hp;cases hp;simp only[W9 (by decide) (Al6 hj),Zc1];exact⟨_,_,rfl⟩
 bad:=Ar8 rf
def Di(s:Str):TL->Nat×TL
 |[]=>(0,[])
 |t::r=>match isT s (t::r) with|true=>((Di s r).1+1,(Di s r).2)|false=>(0,t::r)
def M3(k:Int):Nat->Xpr->Xpr
 |0,e=>e
 |n+1,e=>M3 k n (.mk k ⟨0,0,[]⟩ [] [e])
theorem Axi(k:Int):∀(n:Nat) (e:Xpr),M3 k (n+1) e=mkX k [M3 k n e]
 |0,_=>rfl
 |n+1,_=>Axi k n _
theorem Aiv{s:Str}{l:TL}(h:isT s l=true):Di s l=((Di s l.tail).1+1,(Di s l.tail).2):=by cases l with|nil=>cases h|cons t r=>simp only[Di,h,List.tail_cons]
theorem Ai6{s:Str}{l:TL}(h:isT s l=false):Di s l=(0,l):=by cases l with|nil=>rfl|cons t r=>simp only[Di,h]
theorem Pl(s:Str):∀l:TL,(Di s l).1+(Di s l).2.length=l.length
 |[]=>rfl
 |t::r=>by have ih:=Pl s r;cases h:isT s (t::r) with|true=>rw[Aiv h];simp only[List.tail_cons,Zf1];omega|false=>rw[Ai6 h];simp
theorem J7(s:Str)(k:Int)(part:TL->PR Xpr):∀l:TL,Bi s k part l=match part (Di s l).2 with|.error q =>.error q|.ok (e,l') =>.ok (M3 k (Di s l).1 e,l')
 |[]=>by simp only[Bi,Di,M3];cases part []<;>rfl
 |t::r=>by
  cases h:isT s (t::r) with
  |true =>rw[Aiv h];simp only[Bi,h,J7 s k part r,List.tail_cons];cases part (Di s r).2 with|error q=>rfl|ok x=>simp only[Axi]
  |false =>rw[Ai6 h];simp only[Bi,h,M3];cases part (t::r)<;>rfl
theorem At2{R:Type}{kx:Ex->Abt->Option R}{s:Str}{kd n a:Int}{z1 z2:Xpr}{c:Int->TL->Option R}(h:∀i l,kx (.exit 0) (s,kd,i,l,n,false,a,z1,z2)=c i l):∀(k i:Nat) (l:TL),l.length<k->i+l.length<=1000000000 ->
  Ak (λrec=>Aen rec kx) k (s,kd,(i:Int),l,n,false,a,z1,z2)=c ((i+(Di s l).1:Nat):Int) (Di s l).2
 |0,_,_,hk,_=>absurd hk (Zm1 _)
 |k+1,i,l,hk,hb=>by rw[Aw];simp only[Aen,Zs1,Aa];cases hi:isT s l with|false=>simp only[Ed hi,Zc1,Af,h,Ai6 hi,Nat.add_zero]|true =>have hl:=Kn hi;have hw:wr .i64 ((i:Int)+1)=((i+1:Nat):Int):=A1 (n:=i+1) (by omega) (by simp only[ln];omega);simp only[Ew hi,Zc1,Aa,hw,At2 h k (i+1) l.tail (by omega) (by omega),Aiv hi];rw[Nat.add_assoc,Nat.add_comm 1]
theorem Aua{R:Type}{kx:Ex->Adg->Option R}{kd:Int}{m:Nat}{l:TL}{n a:Int}{b:Bool}{z1 z2:Xpr}{c:Xpr->Option R}(h:∀i e,kx (.exit 2) (kd,(m:Int),i,l,n,b,a,z1,z2,e)=c e)(hm:m<=1000000000):∀(k i:Nat) (e:Xpr),i<=m->m-i<k ->
  Ak (λrec=>Zt rec kx) k (kd,(m:Int),(i:Int),l,n,b,a,z1,z2,e)=c (M3 kd (m-i) e)
 |0,_,_,_,hk=>absurd hk (Zm1 _)
 |k+1,i,e,hi,hk=>by
  rw[Aw];by_cases hlt:i<m
  ·have hs:m-i=(m-(i+1))+1:=by omega
   simp only[Zt,E7 hlt,Aa,A1 hlt (show ln m by simp only[ln];omega),Aua h hm k (i+1) _ (by omega) (by omega),hs,M3]
  ·obtain rfl:i=m:=by omega
   simp only[Zt,E8,Af,h,Nat.sub_self,M3]
theorem A00{rf:A3->Option A2}(h:I6 (Gr rf)):I6 (Iq rf):=λl n a=>by obtain⟨e1,h1⟩:=h l n a;refine⟨e1,?_⟩;simp only[Iq,K5,Aw,Aen,Zt1,Af,h1,Zc1,Zt];rfl
theorem Biq{rf:A3->Option A2}{part:TL->PR Xpr}{L:Nat}(h:SimP (Gr rf) part L)(hL:L<=1000000000):SimP (Iq rf) (Bi [45] 15 part) L where
 ok l n a e l' hl hp:=by have hs:=Pl [45] l;rw[J7] at hp;simp only[Iq,K5];refine(At2 (s:=[45]) (i:=0) (λ_ _=>rfl) (l.length+1) l (by omega) (by omega)).trans ?_;cases hq:part (Di [45] l).2 with|error q=>rw[hq] at hp;cases hp|ok x =>obtain⟨e1,l1⟩:=x;rw[hq] at hp;cases hp;simp only[h.ok _ n a e1 l' (by omega) hq,Zc1,Nat.zero_add];exact(Aua (c:=λe=>some (e,l',n,false,a)) (λ_ _=>rfl) (by omega) (l.length+1) 0 e1 (Nat.zero_le _) (by omega)).trans rfl
 er l n a q hl hp:=by have hs:=Pl [45] l;rw[J7] at hp;cases hq:part (Di [45] l).2 with|ok x=>rw[hq] at hp;cases hp|error q' =>rw[hq] at hp;cases hp;obtain⟨e1,l1,h1⟩:=h.er _ n a q (by omega) hq;refine⟨M3 15 (Di [45] l).1 e1,l1,?_⟩;simp only[Iq,K5];refine(At2 (s:=[45]) (i:=0) (λ_ _=>rfl) (l.length+1) l (by omega) (by omega)).trans ?_;simp only[h1,Zc1,Nat.zero_add];exact(Aua (c:=λe=>some (e,l1,n,true,G6 n q)) (λ_ _=>rfl) (by omega) (l.length+1) 0 e1 (Nat.zero_le _) (by omega)).trans rfl
 bad:=A00 h.bad
def prs(S:List PairS):List (Str×Int):=S.map λp=>(p.sign,p.kind)
theorem Mt(l:TL):∀S:List PairS,(prs S).find? (λp=>isT p.1 l)=(S.find? λp=>isT p.sign l).map λp=>(p.sign,p.kind)
 |[]=>rfl
 |p::S=>by have ih:=Mt l S;simp only[prs] at ih;simp only[prs,Zw1,List.find?_cons,ih];cases isT p.sign l<;>rfl
theorem Aim{R:Type}(rf:A3->Option A2){kx:Ex->Kx->Option R}{S:List PairS}(hn:ln S.length){l:TL}{n a:Int}{z1 z2 e:Xpr}{c1:Xpr->TL->Int->Bool->Int->Option R}{c2:Option R}(h1:∀i l n b a e,kx (.exit 1) (S,S,(S.length:Int),i,l,n,b,a,z1,z2,e)=c1 e l n b a)(h2:kx (.exit 2) (S,S,(S.length:Int),(S.length:Int),l,n,false,a,z1,z2,e)=c2):∀(k i:Nat),i<=S.length->S.length-i<k ->
  Ak (λrc=>Jp rf rc kx) k (S,S,(S.length:Int),(i:Int),l,n,false,a,z1,z2,e)=match(S.drop i).find? (λp=>isT p.sign l) with|none=>c2|some p=>(Iq rf (l.tail,n,false,a)).bind λ(x,y1,y2,y3,y4)=>c1 (mkX p.kind [e,x]) y1 y2 y3 y4
 |0,_,_,hk=>absurd hk (Zm1 _)
 |k+1,i,hi,hk=>by
  rw[Aw];by_cases hlt:i<S.length
  ·rw[An hlt];simp only[Jp,E7 hlt,Aa,A5 hlt,chk,A8 (c :=.pair) hlt,A1 hlt hn,List.find?_cons];cases ht:isT S[i].sign l with|true =>simp only[Ew ht,Zc1,Aa,h1];rfl|false=>simp only[Ed ht,Zc1,Af,Aim rf hn h1 h2 k (i+1) (by omega) (by omega)]
  ·obtain rfl:i=S.length:=by omega
   simp only[Jp,E8,Af,h2,Zc2,List.find?_nil]
theorem Rh{R:Type}{rf:A3->Option A2}{part:TL->PR Xpr}{L:Nat}(h:SimP (Iq rf) part L)(hp:Cm part){kx:Ex->Gy->Option R}{S:List PairS}(hn:ln S.length){n a:Int}{z1 z2:Xpr}{c:Xpr->TL->Bool->Int->Option R}(hx:∀l b a e,kx (.exit 0) (S,l,n,b,a,z1,z2,e)=c e l b a)(K:Nat)(hK:S.length<K):∀(k m:Nat) (e:Xpr) (l:TL),l.length<L->l.length<k->l.length<m ->
  match Em part (prs S) m e l with|.ok (e',l')=>Ak (λrec=>Jn K rf rec kx) k (S,l,n,false,a,z1,z2,e)=c e' l' false a|.error q=>∃e' l',Ak (λrec=>Jn K rf rec kx) k (S,l,n,false,a,z1,z2,e)=c e' l' true (G6 n q)
 |0,_,_,_,_,hk,_=>absurd hk (Zm1 _)
 |_,0,_,_,_,_,hk=>absurd hk (Zm1 _)
 |k+1,m+1,e,l,hl,hk,hm=>by
  have hin:=λ(rec:Gy->Option R)=>Aim (R:=R) rf (kx:=λe vz=>match vz with|(v5,_,_,_,v9,d,f,g,i,j,o)=>match e with
   |.exit 1=>rec (v5,v9,d,f,g,i,j,o)
   |.exit 2=>kx (.exit 0) (v5,v9,d,f,g,i,j,o)
   |_=>none) hn (l:=l) (n:=n) (a:=a) (z1:=z1) (z2:=z2) (e:=e) (c1:=λe l n b a=>rec (S,l,n,b,a,z1,z2,e)) (λ_ _ _ _ _ _=>rfl) rfl K 0 (Nat.zero_le _) (by omega)
  have hit:∀rec:Gy->Option R,Jn K rf rec kx (S,l,n,false,a,z1,z2,e)=_:=hin;have hf:=Mt l S;rw[Aw];simp only[Em,hit,Zq1];cases hs:S.find? (λp=>isT p.sign l) with
  |none =>rw[hs] at hf;simp only[Option.map_none] at hf;rw[hf];exact hx _ _ _ _
  |some p =>
   rw[hs] at hf;simp only[Zl2] at hf;rw[hf];have hi:isT p.sign l=true:=by simpa using List.find?_some hs
   have hlt:=Kn hi;cases hq:part l.tail with|error q =>obtain⟨e1,l1,h1⟩:=h.er l.tail n a q (by omega) hq;simp only[h1,Zc1];obtain⟨k,rfl⟩:∃k',k=k'+1:=⟨k-1,by omega⟩;exact⟨mkX p.kind [e,e1],l1,hx _ _ _ _⟩|ok x =>obtain⟨x,l1⟩:=x;have h3:=hp _ _ _ hq;simp only[h.ok l.tail n a x l1 (by omega) hq,Zc1];exact Rh h hp hn hx K hK k m (mkX p.kind [e,x]) l1 (by omega) (by omega) (by omega)
theorem Aci{rf:A3->Option A2}(h:I6 (Iq rf)):I6 (B7 rf):=λl n a=>by obtain⟨e1,h1⟩:=h l n a;simp only[B7,Eg,h1,Zc1];exact⟨e1,rfl⟩
theorem Au8{rf:A3->Option A2}{part:TL->PR Xpr}{L:Nat}(h:SimP (Iq rf) part L)(hp:Cm part):SimP (B7 rf) (C2 part (prs [PairS.mk [42] 14])) L where
 ok l n a e l' hl hq:=by
  simp only[C2] at hq;cases hr:part l with
  |error q=>rw[hr] at hq;cases hq
  |ok x =>
   obtain⟨e1,l1⟩:=x;rw[hr] at hq;have h3:=hp _ _ _ hr;simp only at hq;have:=Rh h hp (S:=[PairS.mk [42] 14]) (by simp[ln]) (n:=n) (a:=a) (z1:=Xpr.mk 0 ⟨0,0,[]⟩ [] []) (z2:=Xpr.mk 0 ⟨0,0,[]⟩ [] []) (c:=λe l b a=>some (e,l,n,b,a)) (kx:=λe vz=>match vz with|(_,d,f,g,i,_,_,j)=>match e with
    |.exit 0=>some (j,d,f,g,i)
    |_=>none) (λ_ _ _ _=>rfl) (l.length+3) (by simp) (l.length+3) (l1.length+1) e1 l1 (by omega) (by omega) (by omega)
   rw[hq] at this;simp only[B7,Eg,h.ok l n a e1 l1 hl hr,Zc1];exact this
 er l n a q hl hq:=by
  simp only[C2] at hq;cases hr:part l with
  |error q' =>rw[hr] at hq;cases hq;obtain⟨e1,l1,h1⟩:=h.er l n a q hl hr;simp only[B7,Eg,h1,Zc1];exact⟨e1,l1,rfl⟩
  |ok x =>
   obtain⟨e1,l1⟩:=x;rw[hr] at hq;have h3:=hp _ _ _ hr;simp only at hq;have:=Rh h hp (S:=[PairS.mk [42] 14]) (by simp[ln]) (n:=n) (a:=a) (z1:=Xpr.mk 0 ⟨0,0,[]⟩ [] []) (z2:=Xpr.mk 0 ⟨0,0,[]⟩ [] []) (c:=λe l b a=>some (e,l,n,b,a)) (kx:=λe vz=>match vz with|(_,d,f,g,i,_,_,j)=>match e with
    |.exit 0=>some (j,d,f,g,i)
    |_=>none) (λ_ _ _ _=>rfl) (l.length+3) (by simp) (l.length+3) (l1.length+1) e1 l1 (by omega) (by omega) (by omega)
   rw[hq] at this;simp only[B7,Eg,h.ok l n a e1 l1 hl hr,Zc1];exact this
 bad:=Aci h.bad
theorem A9h{R:Type}(rf:A3->Option A2){kx:Ex->Ab8->Option R}{S:List PairS}(hn:ln S.length){l:TL}{n a:Int}{z1 z2 e:Xpr}{c1:Xpr->TL->Int->Bool->Int->Option R}{c2:Option R}(h1:∀i l n b a e,kx (.exit 1) (S,S,(S.length:Int),i,l,n,b,a,z1,z2,e)=c1 e l n b a)(h2:kx (.exit 2) (S,S,(S.length:Int),(S.length:Int),l,n,false,a,z1,z2,e)=c2):∀(k i:Nat),i<=S.length->S.length-i<k ->
  Ak (λrc=>Afn rf rc kx) k (S,S,(S.length:Int),(i:Int),l,n,false,a,z1,z2,e)=match(S.drop i).find? (λp=>isT p.sign l) with|none=>c2|some p=>(B7 rf (l.tail,n,false,a)).bind λ(x,y1,y2,y3,y4)=>c1 (mkX p.kind [e,x]) y1 y2 y3 y4
 |0,_,_,hk=>absurd hk (Zm1 _)
 |k+1,i,hi,hk=>by
  rw[Aw];by_cases hlt:i<S.length
  ·rw[An hlt];simp only[Afn,E7 hlt,Aa,A5 hlt,chk,A8 (c :=.pair) hlt,A1 hlt hn,List.find?_cons];cases ht:isT S[i].sign l with|true =>simp only[Ew ht,Zc1,Aa,h1];rfl|false=>simp only[Ed ht,Zc1,Af,A9h rf hn h1 h2 k (i+1) (by omega) (by omega)]
  ·obtain rfl:i=S.length:=by omega
   simp only[Afn,E8,Af,h2,Zc2,List.find?_nil]
theorem An2{R:Type}{rf:A3->Option A2}{part:TL->PR Xpr}{L:Nat}(h:SimP (B7 rf) part L)(hp:Cm part){kx:Ex->Og->Option R}{S:List PairS}(hn:ln S.length){n a:Int}{z1 z2:Xpr}{c:Xpr->TL->Bool->Int->Option R}(hx:∀l b a e,kx (.exit 0) (S,l,n,b,a,z1,z2,e)=c e l b a)(K:Nat)(hK:S.length<K):∀(k m:Nat) (e:Xpr) (l:TL),l.length<L->l.length<k->l.length<m ->
  match Em part (prs S) m e l with|.ok (e',l')=>Ak (λrec=>Adt K rf rec kx) k (S,l,n,false,a,z1,z2,e)=c e' l' false a|.error q=>∃e' l',Ak (λrec=>Adt K rf rec kx) k (S,l,n,false,a,z1,z2,e)=c e' l' true (G6 n q)
 |0,_,_,_,_,hk,_=>absurd hk (Zm1 _)
 |_,0,_,_,_,_,hk=>absurd hk (Zm1 _)
 |k+1,m+1,e,l,hl,hk,hm=>by
  have hin:=λ(rec:Og->Option R)=>A9h (R:=R) rf (kx:=λe vz=>match vz with|(v5,_,_,_,v9,d,f,g,i,j,o)=>match e with
   |.exit 1=>rec (v5,v9,d,f,g,i,j,o)
   |.exit 2=>kx (.exit 0) (v5,v9,d,f,g,i,j,o)
   |_=>none) hn (l:=l) (n:=n) (a:=a) (z1:=z1) (z2:=z2) (e:=e) (c1:=λe l n b a=>rec (S,l,n,b,a,z1,z2,e)) (λ_ _ _ _ _ _=>rfl) rfl K 0 (Nat.zero_le _) (by omega)
  have hit:∀rec:Og->Option R,Adt K rf rec kx (S,l,n,false,a,z1,z2,e)=_:=hin;have hf:=Mt l S;rw[Aw];simp only[Em,hit,Zq1];cases hs:S.find? (λp=>isT p.sign l) with
  |none =>rw[hs] at hf;simp only[Option.map_none] at hf;rw[hf];exact hx _ _ _ _
  |some p =>
   rw[hs] at hf;simp only[Zl2] at hf;rw[hf];have hi:isT p.sign l=true:=by simpa using List.find?_some hs
   have hlt:=Kn hi;cases hq:part l.tail with|error q =>obtain⟨e1,l1,h1⟩:=h.er l.tail n a q (by omega) hq;simp only[h1,Zc1];obtain⟨k,rfl⟩:∃k',k=k'+1:=⟨k-1,by omega⟩;exact⟨mkX p.kind [e,e1],l1,hx _ _ _ _⟩|ok x =>obtain⟨x,l1⟩:=x;have h3:=hp _ _ _ hq;simp only[h.ok l.tail n a x l1 (by omega) hq,Zc1];exact An2 h hp hn hx K hK k m (mkX p.kind [e,x]) l1 (by omega) (by omega) (by omega)
theorem Ay8{rf:A3->Option A2}(h:I6 (B7 rf)):I6 (G5 rf):=λl n a=>by obtain⟨e1,h1⟩:=h l n a;simp only[G5,Jf,h1,Zc1];exact⟨e1,rfl⟩
theorem Blb{rf:A3->Option A2}{part:TL->PR Xpr}{L:Nat}(h:SimP (B7 rf) part L)(hp:Cm part):SimP (G5 rf) (C2 part (prs [PairS.mk [43] 12,PairS.mk [45] 13])) L where
 ok l n a e l' hl hq:=by
  simp only[C2] at hq;cases hr:part l with
  |error q=>rw[hr] at hq;cases hq
  |ok x =>
   obtain⟨e1,l1⟩:=x;rw[hr] at hq;have h3:=hp _ _ _ hr;simp only at hq;have:=An2 h hp (S:=[PairS.mk [43] 12,PairS.mk [45] 13]) (by simp[ln]) (n:=n) (a:=a) (z1:=Xpr.mk 0 ⟨0,0,[]⟩ [] []) (z2:=Xpr.mk 0 ⟨0,0,[]⟩ [] []) (c:=λe l b a=>some (e,l,n,b,a)) (kx:=λe vz=>match vz with|(_,d,f,g,i,_,_,j)=>match e with
    |.exit 0=>some (j,d,f,g,i)
    |_=>none) (λ_ _ _ _=>rfl) (l.length+3) (by simp) (l.length+3) (l1.length+1) e1 l1 (by omega) (by omega) (by omega)
   rw[hq] at this;simp only[G5,Jf,h.ok l n a e1 l1 hl hr,Zc1];exact this
 er l n a q hl hq:=by
  simp only[C2] at hq;cases hr:part l with
  |error q' =>rw[hr] at hq;cases hq;obtain⟨e1,l1,h1⟩:=h.er l n a q hl hr;simp only[G5,Jf,h1,Zc1];exact⟨e1,l1,rfl⟩
  |ok x =>
   obtain⟨e1,l1⟩:=x;rw[hr] at hq;have h3:=hp _ _ _ hr;simp only at hq;have:=An2 h hp (S:=[PairS.mk [43] 12,PairS.mk [45] 13]) (by simp[ln]) (n:=n) (a:=a) (z1:=Xpr.mk 0 ⟨0,0,[]⟩ [] []) (z2:=Xpr.mk 0 ⟨0,0,[]⟩ [] []) (c:=λe l b a=>some (e,l,n,b,a)) (kx:=λe vz=>match vz with|(_,d,f,g,i,_,_,j)=>match e with
    |.exit 0=>some (j,d,f,g,i)
    |_=>none) (λ_ _ _ _=>rfl) (l.length+3) (by simp) (l.length+3) (l1.length+1) e1 l1 (by omega) (by omega) (by omega)
   rw[hq] at this;simp only[G5,Jf,h.ok l n a e1 l1 hl hr,Zc1];exact this
 bad:=Ay8 h.bad
def cmpC:List PairS:=[PairS.mk [61] 6,PairS.mk [60,62] 7,PairS.mk [60] 8,PairS.mk [60,61] 9,PairS.mk [62] 10,PairS.mk [62,61] 11]
theorem A8i{R:Type}(rf:A3->Option A2){kx:Ex->Ab6->Option R}{S:List PairS}(hn:ln S.length){l:TL}{n a:Int}{z e:Xpr}{c1:Xpr->TL->Int->Bool->Int->Option R}{c2:Option R}(h1:∀i l n b a x,kx .ret (S,(S.length:Int),i,l,n,b,a,x,e)=c1 x l n b a)(h2:kx (.exit 0) (S,(S.length:Int),(S.length:Int),l,n,false,a,z,e)=c2):∀(k i:Nat),i<=S.length->S.length-i<k ->
  Ak (λrc=>Aed rf rc kx) k (S,(S.length:Int),(i:Int),l,n,false,a,z,e)=match(S.drop i).find? (λp=>isT p.sign l) with|none=>c2|some p=>(G5 rf (l.tail,n,false,a)).bind λ(x,y1,y2,y3,y4)=>c1 (mkX p.kind [e,x]) y1 y2 y3 y4
 |0,_,_,hk=>absurd hk (Zm1 _)
 |k+1,i,hi,hk=>by
  rw[Aw];by_cases hlt:i<S.length
  ·rw[An hlt];simp only[Aed,E7 hlt,Aa,A5 hlt,chk,A8 (c :=.pair) hlt,A1 hlt hn,List.find?_cons];cases ht:isT S[i].sign l with|true =>simp only[Ew ht,Zc1,Aa,h1];rfl|false=>simp only[Ed ht,Zc1,Af,A8i rf hn h1 h2 k (i+1) (by omega) (by omega)]
  ·obtain rfl:i=S.length:=by omega
   simp only[Aed,E8,Af,h2,Zc2,List.find?_nil]
def isF(e:Xpr)(l:TL)(n a:Int):Option A2:=(Au ([73,83],l,n,false,a)).bind λ(k,b,c,d,f) =>cond (!k) (some (e,b,c,d,f)) ((Au ([78,79,84],b,c,d,f)).bind λ(m,o,p,q,r) =>(Ai ([[78,85,76,76]],o,p,q,r)).bind λ(g,h,i,j) =>cond (m) (some ((Xpr.mk 3 ⟨0,0,[]⟩ [] [(Xpr.mk 16 ⟨0,0,[]⟩ [] [e])]),g,h,i,j)) (some ((Xpr.mk 16 ⟨0,0,[]⟩ [] [e]),g,h,i,j)))
theorem A6i(rf:A3->Option A2){l l1:TL}{n a:Int}{e:Xpr}(h:G5 rf (l,n,false,a)=some (e,l1,n,false,a)):Md rf (l,n,false,a)=match cmpC.find? (λp=>isT p.sign l1) with
  |none=>isF e l1 n a
  |some p=>(G5 rf (l1.tail,n,false,a)).bind λ(x,y1,y2,y3,y4)=>some (mkX p.kind [e,x],y1,y2,y3,y4):=by
 simp only[Md,Kz,h,Zc1,Af];exact A8i rf (S:=cmpC) (by simp[ln,cmpC]) (z:=Xpr.mk 0 ⟨0,0,[]⟩ [] []) (c1:=λx l n b a=>some (x,l,n,b,a)) (c2:=isF e l1 n a) (λ_ _ _ _ _ _=>rfl) rfl 10 0 (Nat.zero_le _) (by decide)
theorem Btd{e x:Xpr}{l l':TL}(h:(match isT sIS l with|true=>isP e l|false =>.ok (e,l)) = .ok (x,l'))(n a:Int):isF e l n a=some (x,l',n,false,a):=by
 simp only[isF];cases hi:isT sIS l with
 |false=>rw[hi] at h;cases h;simp only[Ed (s:=[73,83]) hi,Zc1,Zs1,Aa]
 |true =>
  rw[hi] at h;simp only[isP] at h;simp only[Ew (s:=[73,83]) hi,Zc1,Zt1,Af];cases hn:isT sNOT l.tail with
  |true =>rw[hn] at h;simp only[Ew (s:=[78,79,84]) hn,Zc1,Aa];cases hu:isT sNULL l.tail.tail with|true=>simp only[hu] at h;cases h;simp only[Vr (by decide) (Agq (s:=[78,85,76,76]) hu),Zc1];rfl|false=>simp only[hu] at h;cases h
  |false =>rw[hn] at h;simp only[Ed (s:=[78,79,84]) hn,Zc1,Af];cases hu:isT sNULL l.tail with|true=>simp only[hu] at h;cases h;simp only[Vr (by decide) (Agq (s:=[78,85,76,76]) hu),Zc1];rfl|false=>simp only[hu] at h;cases h
theorem Bu4{e:Xpr}{l q:TL}(h:(match isT sIS l with|true=>isP e l|false =>.ok (e,l)) = .error q)(n a:Int):∃x l',isF e l n a=some (x,l',n,true,G6 n q):=by
 simp only[isF];cases hi:isT sIS l with
 |false=>rw[hi] at h;cases h
 |true =>
  rw[hi] at h;simp only[isP] at h;simp only[Ew (s:=[73,83]) hi,Zc1,Zt1,Af];cases hn:isT sNOT l.tail with
  |true =>rw[hn] at h;simp only[Ew (s:=[78,79,84]) hn,Zc1,Aa];cases hu:isT sNULL l.tail.tail with|true=>simp only[hu] at h;cases h|false=>simp only[hu] at h;cases h;simp only[W9 (by decide) (Al6 (s:=[78,85,76,76]) hu),Zc1];exact⟨_,_,rfl⟩
  |false =>rw[hn] at h;simp only[Ed (s:=[78,79,84]) hn,Zc1,Af];cases hu:isT sNULL l.tail with|true=>simp only[hu] at h;cases h|false=>simp only[hu] at h;cases h;simp only[W9 (by decide) (Al6 (s:=[78,85,76,76]) hu),Zc1];exact⟨_,_,rfl⟩
theorem Azo{rf:A3->Option A2}(h:I6 (G5 rf)):I6 (Md rf):=λl n a=>by obtain⟨e1,h1⟩:=h l n a;refine⟨e1,?_⟩;simp only[Md,Kz,h1,Zc1,Aa]
theorem Bk9{rf:A3->Option A2}{part:TL->PR Xpr}{L:Nat}(h:SimP (G5 rf) part L)(he:Cm part):SimP (Md rf) (Xn part) L where
 ok l n a e l' hl hp:=by
  simp only[Xn] at hp;cases hr:part l with
  |error q=>rw[hr] at hp;cases hp
  |ok x =>
   obtain⟨e1,l1⟩:=x;have h3:=he _ _ _ hr;have hf:cmpS.find? (λp=>isT p.1 l1)=(cmpC.find? λp=>isT p.sign l1).map λp=>(p.sign,p.kind):=Mt l1 cmpC;rw[hr] at hp;simp only[hf] at hp;rw[A6i rf (h.ok l n a e1 l1 hl hr)];cases hs:cmpC.find? (λp=>isT p.sign l1) with
   |none=>rw[hs] at hp;exact Btd hp n a
   |some p =>rw[hs] at hp;simp only[Zl2] at hp;have h4:=Bj l1;cases hq:part l1.tail with|error q=>rw[hq] at hp;cases hp|ok y =>obtain⟨x,l2⟩:=y;rw[hq] at hp;cases hp;simp only[h.ok l1.tail n a x l' (by omega) hq,Zc1]
 er l n a q hl hp:=by
  simp only[Xn] at hp;cases hr:part l with
  |error q' =>rw[hr] at hp;cases hp;obtain⟨e1,l1,h1⟩:=h.er l n a q hl hr;refine⟨e1,l1,?_⟩;simp only[Md,Kz,h1,Zc1,Aa]
  |ok x =>
   obtain⟨e1,l1⟩:=x;have h3:=he _ _ _ hr;have hf:cmpS.find? (λp=>isT p.1 l1)=(cmpC.find? λp=>isT p.sign l1).map λp=>(p.sign,p.kind):=Mt l1 cmpC;rw[hr] at hp;simp only[hf] at hp;rw[A6i rf (h.ok l n a e1 l1 hl hr)];cases hs:cmpC.find? (λp=>isT p.sign l1) with
   |none=>rw[hs] at hp;exact Bu4 hp n a
   |some p =>rw[hs] at hp;simp only[Zl2] at hp;have h4:=Bj l1;cases hq:part l1.tail with|ok y=>rw[hq] at hp;cases hp|error q' =>rw[hq] at hp;cases hp;obtain⟨e2,l2,h2⟩:=h.er l1.tail n a q (by omega) hq;simp only[h2,Zc1];exact⟨_,_,rfl⟩
 bad:=Azo h.bad
theorem Avs{R:Type}{kx:Ex->Aa2->Option R}{s:Str}{kd n a:Int}{z1 z2:Xpr}{c:Int->TL->Option R}(h:∀i l,kx (.exit 0) (s,kd,i,l,n,false,a,z1,z2)=c i l):∀(k i:Nat) (l:TL),l.length<k->i+l.length<=1000000000 ->
  Ak (λrec=>Afu rec kx) k (s,kd,(i:Int),l,n,false,a,z1,z2)=c ((i+(Di s l).1:Nat):Int) (Di s l).2
 |0,_,_,hk,_=>absurd hk (Zm1 _)
 |k+1,i,l,hk,hb=>by rw[Aw];simp only[Afu,Zs1,Aa];cases hi:isT s l with|false=>simp only[Ed hi,Zc1,Af,h,Ai6 hi,Nat.add_zero]|true =>have hl:=Kn hi;have hw:wr .i64 ((i:Int)+1)=((i+1:Nat):Int):=A1 (n:=i+1) (by omega) (by simp only[ln];omega);simp only[Ew hi,Zc1,Aa,hw,Avs h k (i+1) l.tail (by omega) (by omega),Aiv hi];rw[Nat.add_assoc,Nat.add_comm 1]
theorem Au1{R:Type}{kx:Ex->Abs->Option R}{kd:Int}{m:Nat}{l:TL}{n a:Int}{b:Bool}{z1 z2:Xpr}{c:Xpr->Option R}(h:∀i e,kx (.exit 2) (kd,(m:Int),i,l,n,b,a,z1,z2,e)=c e)(hm:m<=1000000000):∀(k i:Nat) (e:Xpr),i<=m->m-i<k ->
  Ak (λrec=>Aad rec kx) k (kd,(m:Int),(i:Int),l,n,b,a,z1,z2,e)=c (M3 kd (m-i) e)
 |0,_,_,_,hk=>absurd hk (Zm1 _)
 |k+1,i,e,hi,hk=>by
  rw[Aw];by_cases hlt:i<m
  ·have hs:m-i=(m-(i+1))+1:=by omega
   simp only[Aad,E7 hlt,Aa,A1 hlt (show ln m by simp only[ln];omega),Au1 h hm k (i+1) _ (by omega) (by omega),hs,M3]
  ·obtain rfl:i=m:=by omega
   simp only[Aad,E8,Af,h,Nat.sub_self,M3]
theorem Az8{rf:A3->Option A2}(h:I6 (Md rf)):I6 (Iw rf):=λl n a=>by obtain⟨e1,h1⟩:=h l n a;refine⟨e1,?_⟩;simp only[Iw,La,Aw,Afu,Zt1,Af,h1,Zc1,Aad];rfl
theorem Bf7{rf:A3->Option A2}{part:TL->PR Xpr}{L:Nat}(h:SimP (Md rf) part L)(hL:L<=1000000000):SimP (Iw rf) (Bi [78,79,84] 3 part) L where
 ok l n a e l' hl hp:=by have hs:=Pl [78,79,84] l;rw[J7] at hp;simp only[Iw,La];refine(Avs (s:=[78,79,84]) (i:=0) (λ_ _=>rfl) (l.length+1) l (by omega) (by omega)).trans ?_;cases hq:part (Di [78,79,84] l).2 with|error q=>rw[hq] at hp;cases hp|ok x =>obtain⟨e1,l1⟩:=x;rw[hq] at hp;cases hp;simp only[h.ok _ n a e1 l' (by omega) hq,Zc1,Nat.zero_add];exact(Au1 (c:=λe=>some (e,l',n,false,a)) (λ_ _=>rfl) (by omega) (l.length+1) 0 e1 (Nat.zero_le _) (by omega)).trans rfl
 er l n a q hl hp:=by have hs:=Pl [78,79,84] l;rw[J7] at hp;cases hq:part (Di [78,79,84] l).2 with|ok x=>rw[hq] at hp;cases hp|error q' =>rw[hq] at hp;cases hp;obtain⟨e1,l1,h1⟩:=h.er _ n a q (by omega) hq;refine⟨M3 3 (Di [78,79,84] l).1 e1,l1,?_⟩;simp only[Iw,La];refine(Avs (s:=[78,79,84]) (i:=0) (λ_ _=>rfl) (l.length+1) l (by omega) (by omega)).trans ?_;simp only[h1,Zc1,Nat.zero_add];exact(Au1 (c:=λe=>some (e,l1,n,true,G6 n q)) (λ_ _=>rfl) (by omega) (l.length+1) 0 e1 (Nat.zero_le _) (by omega)).trans rfl
 bad:=Az8 h.bad
theorem A7z{R:Type}(rf:A3->Option A2){kx:Ex->Adb->Option R}{S:List PairS}(hn:ln S.length){l:TL}{n a:Int}{z1 z2 e:Xpr}{c1:Xpr->TL->Int->Bool->Int->Option R}{c2:Option R}(h1:∀i l n b a e,kx (.exit 1) (S,S,(S.length:Int),i,l,n,b,a,z1,z2,e)=c1 e l n b a)(h2:kx (.exit 2) (S,S,(S.length:Int),(S.length:Int),l,n,false,a,z1,z2,e)=c2):∀(k i:Nat),i<=S.length->S.length-i<k ->
  Ak (λrc=>Afr rf rc kx) k (S,S,(S.length:Int),(i:Int),l,n,false,a,z1,z2,e)=match(S.drop i).find? (λp=>isT p.sign l) with|none=>c2|some p=>(Iw rf (l.tail,n,false,a)).bind λ(x,y1,y2,y3,y4)=>c1 (mkX p.kind [e,x]) y1 y2 y3 y4
 |0,_,_,hk=>absurd hk (Zm1 _)
 |k+1,i,hi,hk=>by
  rw[Aw];by_cases hlt:i<S.length
  ·rw[An hlt];simp only[Afr,E7 hlt,Aa,A5 hlt,chk,A8 (c :=.pair) hlt,A1 hlt hn,List.find?_cons];cases ht:isT S[i].sign l with|true =>simp only[Ew ht,Zc1,Aa,h1];rfl|false=>simp only[Ed ht,Zc1,Af,A7z rf hn h1 h2 k (i+1) (by omega) (by omega)]
  ·obtain rfl:i=S.length:=by omega
   simp only[Afr,E8,Af,h2,Zc2,List.find?_nil]
theorem Ak6{R:Type}{rf:A3->Option A2}{part:TL->PR Xpr}{L:Nat}(h:SimP (Iw rf) part L)(hp:Cm part){kx:Ex->Ol->Option R}{S:List PairS}(hn:ln S.length){n a:Int}{z1 z2:Xpr}{c:Xpr->TL->Bool->Int->Option R}(hx:∀l b a e,kx (.exit 0) (S,l,n,b,a,z1,z2,e)=c e l b a)(K:Nat)(hK:S.length<K):∀(k m:Nat) (e:Xpr) (l:TL),l.length<L->l.length<k->l.length<m ->
  match Em part (prs S) m e l with|.ok (e',l')=>Ak (λrec=>Ael K rf rec kx) k (S,l,n,false,a,z1,z2,e)=c e' l' false a|.error q=>∃e' l',Ak (λrec=>Ael K rf rec kx) k (S,l,n,false,a,z1,z2,e)=c e' l' true (G6 n q)
 |0,_,_,_,_,hk,_=>absurd hk (Zm1 _)
 |_,0,_,_,_,_,hk=>absurd hk (Zm1 _)
 |k+1,m+1,e,l,hl,hk,hm=>by
  have hin:=λ(rec:Ol->Option R)=>A7z (R:=R) rf (kx:=λe vz=>match vz with|(v5,_,_,_,v9,d,f,g,i,j,o)=>match e with
   |.exit 1=>rec (v5,v9,d,f,g,i,j,o)
   |.exit 2=>kx (.exit 0) (v5,v9,d,f,g,i,j,o)
   |_=>none) hn (l:=l) (n:=n) (a:=a) (z1:=z1) (z2:=z2) (e:=e) (c1:=λe l n b a=>rec (S,l,n,b,a,z1,z2,e)) (λ_ _ _ _ _ _=>rfl) rfl K 0 (Nat.zero_le _) (by omega)
  have hit:∀rec:Ol->Option R,Ael K rf rec kx (S,l,n,false,a,z1,z2,e)=_:=hin;have hf:=Mt l S;rw[Aw];simp only[Em,hit,Zq1];cases hs:S.find? (λp=>isT p.sign l) with
  |none =>rw[hs] at hf;simp only[Option.map_none] at hf;rw[hf];exact hx _ _ _ _
  |some p =>
   rw[hs] at hf;simp only[Zl2] at hf;rw[hf];have hi:isT p.sign l=true:=by simpa using List.find?_some hs
   have hlt:=Kn hi;cases hq:part l.tail with|error q =>obtain⟨e1,l1,h1⟩:=h.er l.tail n a q (by omega) hq;simp only[h1,Zc1];obtain⟨k,rfl⟩:∃k',k=k'+1:=⟨k-1,by omega⟩;exact⟨mkX p.kind [e,e1],l1,hx _ _ _ _⟩|ok x =>obtain⟨x,l1⟩:=x;have h3:=hp _ _ _ hq;simp only[h.ok l.tail n a x l1 (by omega) hq,Zc1];exact Ak6 h hp hn hx K hK k m (mkX p.kind [e,x]) l1 (by omega) (by omega) (by omega)
theorem Ay4{rf:A3->Option A2}(h:I6 (Iw rf)):I6 (Hj rf):=λl n a=>by obtain⟨e1,h1⟩:=h l n a;simp only[Hj,Jc,h1,Zc1];exact⟨e1,rfl⟩
theorem Bk0{rf:A3->Option A2}{part:TL->PR Xpr}{L:Nat}(h:SimP (Iw rf) part L)(hp:Cm part):SimP (Hj rf) (C2 part (prs [PairS.mk [65,78,68] 4])) L where
 ok l n a e l' hl hq:=by
  simp only[C2] at hq;cases hr:part l with
  |error q=>rw[hr] at hq;cases hq
  |ok x =>
   obtain⟨e1,l1⟩:=x;rw[hr] at hq;have h3:=hp _ _ _ hr;simp only at hq;have:=Ak6 h hp (S:=[PairS.mk [65,78,68] 4]) (by simp[ln]) (n:=n) (a:=a) (z1:=Xpr.mk 0 ⟨0,0,[]⟩ [] []) (z2:=Xpr.mk 0 ⟨0,0,[]⟩ [] []) (c:=λe l b a=>some (e,l,n,b,a)) (kx:=λe vz=>match vz with|(_,d,f,g,i,_,_,j)=>match e with
    |.exit 0=>some (j,d,f,g,i)
    |_=>none) (λ_ _ _ _=>rfl) (l.length+3) (by simp) (l.length+3) (l1.length+1) e1 l1 (by omega) (by omega) (by omega)
   rw[hq] at this;simp only[Hj,Jc,h.ok l n a e1 l1 hl hr,Zc1];exact this
 er l n a q hl hq:=by
  simp only[C2] at hq;cases hr:part l with
  |error q' =>rw[hr] at hq;cases hq;obtain⟨e1,l1,h1⟩:=h.er l n a q hl hr;simp only[Hj,Jc,h1,Zc1];exact⟨e1,l1,rfl⟩
  |ok x =>
   obtain⟨e1,l1⟩:=x;rw[hr] at hq;have h3:=hp _ _ _ hr;simp only at hq;have:=Ak6 h hp (S:=[PairS.mk [65,78,68] 4]) (by simp[ln]) (n:=n) (a:=a) (z1:=Xpr.mk 0 ⟨0,0,[]⟩ [] []) (z2:=Xpr.mk 0 ⟨0,0,[]⟩ [] []) (c:=λe l b a=>some (e,l,n,b,a)) (kx:=λe vz=>match vz with|(_,d,f,g,i,_,_,j)=>match e with
    |.exit 0=>some (j,d,f,g,i)
    |_=>none) (λ_ _ _ _=>rfl) (l.length+3) (by simp) (l.length+3) (l1.length+1) e1 l1 (by omega) (by omega) (by omega)
   rw[hq] at this;simp only[Hj,Jc,h.ok l n a e1 l1 hl hr,Zc1];exact this
 bad:=Ay4 h.bad
theorem Bgu{R:Type}(rf:A3->Option A2){kx:Ex->Ai0->Option R}{S:List PairS}(hn:ln S.length){l:TL}{n a:Int}{z1 z2 e:Xpr}{c1:Xpr->TL->Int->Bool->Int->Option R}{c2:Option R}(h1:∀i l n b a e,kx (.exit 1) (S,S,(S.length:Int),i,l,n,b,a,z1,z2,e)=c1 e l n b a)(h2:kx (.exit 2) (S,S,(S.length:Int),(S.length:Int),l,n,false,a,z1,z2,e)=c2):∀(k i:Nat),i<=S.length->S.length-i<k ->
  Ak (λrc=>Apo rf rc kx) k (S,S,(S.length:Int),(i:Int),l,n,false,a,z1,z2,e)=match(S.drop i).find? (λp=>isT p.sign l) with|none=>c2|some p=>(Hj rf (l.tail,n,false,a)).bind λ(x,y1,y2,y3,y4)=>c1 (mkX p.kind [e,x]) y1 y2 y3 y4
 |0,_,_,hk=>absurd hk (Zm1 _)
 |k+1,i,hi,hk=>by
  rw[Aw];by_cases hlt:i<S.length
  ·rw[An hlt];simp only[Apo,E7 hlt,Aa,A5 hlt,chk,A8 (c :=.pair) hlt,A1 hlt hn,List.find?_cons];cases ht:isT S[i].sign l with|true =>simp only[Ew ht,Zc1,Aa,h1];rfl|false=>simp only[Ed ht,Zc1,Af,Bgu rf hn h1 h2 k (i+1) (by omega) (by omega)]
  ·obtain rfl:i=S.length:=by omega
   simp only[Apo,E8,Af,h2,Zc2,List.find?_nil]
theorem Atz{R:Type}{rf:A3->Option A2}{part:TL->PR Xpr}{L:Nat}(h:SimP (Hj rf) part L)(hp:Cm part){kx:Ex->Vq->Option R}{S:List PairS}(hn:ln S.length){n a:Int}{z1 z2:Xpr}{c:Xpr->TL->Bool->Int->Option R}(hx:∀l b a e,kx (.exit 0) (S,l,n,b,a,z1,z2,e)=c e l b a)(K:Nat)(hK:S.length<K):∀(k m:Nat) (e:Xpr) (l:TL),l.length<L->l.length<k->l.length<m ->
  match Em part (prs S) m e l with|.ok (e',l')=>Ak (λrec=>Arf K rf rec kx) k (S,l,n,false,a,z1,z2,e)=c e' l' false a|.error q=>∃e' l',Ak (λrec=>Arf K rf rec kx) k (S,l,n,false,a,z1,z2,e)=c e' l' true (G6 n q)
 |0,_,_,_,_,hk,_=>absurd hk (Zm1 _)
 |_,0,_,_,_,_,hk=>absurd hk (Zm1 _)
 |k+1,m+1,e,l,hl,hk,hm=>by
  have hin:=λ(rec:Vq->Option R)=>Bgu (R:=R) rf (kx:=λe vz=>match vz with|(v5,_,_,_,v9,d,f,g,i,j,o)=>match e with
   |.exit 1=>rec (v5,v9,d,f,g,i,j,o)
   |.exit 2=>kx (.exit 0) (v5,v9,d,f,g,i,j,o)
   |_=>none) hn (l:=l) (n:=n) (a:=a) (z1:=z1) (z2:=z2) (e:=e) (c1:=λe l n b a=>rec (S,l,n,b,a,z1,z2,e)) (λ_ _ _ _ _ _=>rfl) rfl K 0 (Nat.zero_le _) (by omega)
  have hit:∀rec:Vq->Option R,Arf K rf rec kx (S,l,n,false,a,z1,z2,e)=_:=hin;have hf:=Mt l S;rw[Aw];simp only[Em,hit,Zq1];cases hs:S.find? (λp=>isT p.sign l) with
  |none =>rw[hs] at hf;simp only[Option.map_none] at hf;rw[hf];exact hx _ _ _ _
  |some p =>
   rw[hs] at hf;simp only[Zl2] at hf;rw[hf];have hi:isT p.sign l=true:=by simpa using List.find?_some hs
   have hlt:=Kn hi;cases hq:part l.tail with|error q =>obtain⟨e1,l1,h1⟩:=h.er l.tail n a q (by omega) hq;simp only[h1,Zc1];obtain⟨k,rfl⟩:∃k',k=k'+1:=⟨k-1,by omega⟩;exact⟨mkX p.kind [e,e1],l1,hx _ _ _ _⟩|ok x =>obtain⟨x,l1⟩:=x;have h3:=hp _ _ _ hq;simp only[h.ok l.tail n a x l1 (by omega) hq,Zc1];exact Atz h hp hn hx K hK k m (mkX p.kind [e,x]) l1 (by omega) (by omega) (by omega)
theorem A61{rf:A3->Option A2}(h:I6 (Hj rf)):I6 (Sq rf):=λl n a=>by obtain⟨e1,h1⟩:=h l n a;simp only[Sq,Ml,h1,Zc1];exact⟨e1,rfl⟩
theorem Bpt{rf:A3->Option A2}{part:TL->PR Xpr}{L:Nat}(h:SimP (Hj rf) part L)(hp:Cm part):SimP (Sq rf) (C2 part (prs [PairS.mk [79,82] 5])) L where
 ok l n a e l' hl hq:=by
  simp only[C2] at hq;cases hr:part l with
  |error q=>rw[hr] at hq;cases hq
  |ok x =>
   obtain⟨e1,l1⟩:=x;rw[hr] at hq;have h3:=hp _ _ _ hr;simp only at hq;have:=Atz h hp (S:=[PairS.mk [79,82] 5]) (by simp[ln]) (n:=n) (a:=a) (z1:=Xpr.mk 0 ⟨0,0,[]⟩ [] []) (z2:=Xpr.mk 0 ⟨0,0,[]⟩ [] []) (c:=λe l b a=>some (e,l,n,b,a)) (kx:=λe vz=>match vz with|(_,d,f,g,i,_,_,j)=>match e with
    |.exit 0=>some (j,d,f,g,i)
    |_=>none) (λ_ _ _ _=>rfl) (l.length+3) (by simp) (l.length+3) (l1.length+1) e1 l1 (by omega) (by omega) (by omega)
   rw[hq] at this;simp only[Sq,Ml,h.ok l n a e1 l1 hl hr,Zc1];exact this
 er l n a q hl hq:=by
  simp only[C2] at hq;cases hr:part l with
  |error q' =>rw[hr] at hq;cases hq;obtain⟨e1,l1,h1⟩:=h.er l n a q hl hr;simp only[Sq,Ml,h1,Zc1];exact⟨e1,l1,rfl⟩
  |ok x =>
   obtain⟨e1,l1⟩:=x;rw[hr] at hq;have h3:=hp _ _ _ hr;simp only at hq;have:=Atz h hp (S:=[PairS.mk [79,82] 5]) (by simp[ln]) (n:=n) (a:=a) (z1:=Xpr.mk 0 ⟨0,0,[]⟩ [] []) (z2:=Xpr.mk 0 ⟨0,0,[]⟩ [] []) (c:=λe l b a=>some (e,l,n,b,a)) (kx:=λe vz=>match vz with|(_,d,f,g,i,_,_,j)=>match e with
    |.exit 0=>some (j,d,f,g,i)
    |_=>none) (λ_ _ _ _=>rfl) (l.length+3) (by simp) (l.length+3) (l1.length+1) e1 l1 (by omega) (by omega) (by omega)
   rw[hq] at this;simp only[Sq,Ml,h.ok l n a e1 l1 hl hr,Zc1];exact this
 bad:=A61 h.bad
theorem Bqh(rf:A3->Option A2):I6 (Sq rf):=A61 (Ay4 (Az8 (Azo (Ay8 (Aci (A00 (Ar8 rf)))))))
theorem Bux{rf:A3->Option A2}{L:Nat}(h:SimP rf orW L)(hL:L+1<=1000000000):SimP (Sq rf) orW (L+1):=by have e:orW=lev orW 1:=funext A9i;have e7:=Hu (s:=[45]) (k:=15) (Zv Gj);have e6:=Fu (sg:=[([42],14)]) e7;have e5:=Fu (sg:=[([43],12),([45],13)]) e6;have e3:Cm (Bi sNOT 3 _):=Hu (Amq e5);have e2:=Fu (sg:=[(Avp,4)]) e3;have:=Bpt (Bk0 (Bf7 (Bk9 (Blb (Au8 (Biq (Bdk h) hL) e7) e6) e5) hL) e3) e2;rw[e];exact this
theorem Aup:∀m:Nat,m<=1000000000->SimP (Ak (V:=A3) (R:=A2) Sq (m+1)) orW m
 |0,_=>⟨λ_ _ _ _ _ h=>absurd h (Zm1 _),λ_ _ _ _ h=>absurd h (Zm1 _),Bqh _⟩
 |m+1,h=>Bux (Aup m (by omega)) h
theorem Ui{L:Nat}(hL:L<=1000000000):SimP Ft orW L where
 ok l n a e l' hl hp:=(Aup (l.length+1) (by omega)).ok l n a e l' (by omega) hp
 er l n a q hl hp:=(Aup (l.length+1) (by omega)).er l n a q (by omega) hp
 bad l n a:=Bqh _ l n a
def Out{α γ:Type}(g : α->TL->γ)(E:Int->γ->Prop)(n:Int)(x:Option γ)(y:PR α):Prop:=match y with|.ok (r,l)=>x=some (g r l)|.error q=>∃z,x=some z/\E (G6 n q) z
def Br{γ:Type}(E:Int->γ->Prop)(b:Int)(x:Option γ):Prop:=∃z,x=some z/\E b z
section
variable {α β γ:Type}{g : β->TL->γ}{E:Int->γ->Prop}{n a:Int}
theorem Out.bindS{F:RS->Option (α×RS)}{p:TL->PR α}{L:Nat}(h:SimP F p L){G : α×RS->Option γ}{f : α->TL->PR β}{l:TL}(hl:l.length<L)(h1:∀r l',p l = .ok (r,l')->Out g E n (G (r,l',n,false,a)) (f r l'))(h2:∀r l' b,Br E b (G (r,l',n,true,b))):Out g E n ((F (l,n,false,a)).bind G) (bP p f l):=by unfold bP;cases hq:p l with|error q =>obtain⟨e1,l1,h3⟩:=h.er l n a q hl hq;rw[h3];exact h2 e1 l1 (G6 n q)|ok x =>obtain⟨r,l'⟩:=x;rw[h.ok l n a r l' hl hq];exact h1 r l' hq
theorem Br.bindS{F:RS->Option (α×RS)}(h:I6 F){G : α×RS->Option γ}{l:TL}{b:Int}(h2:∀r,Br E b (G (r,l,n,true,b))):Br E b ((F (l,n,true,b)).bind G):=by obtain⟨e,h1⟩:=h l n b;rw[h1];exact h2 e
theorem Out.must{ss:List Str}(hs:ss.length<=100){G:RS->Option γ}{f:Unit->TL->PR β}{l:TL}(h1:∀l',Ay ss l = .ok ((),l')->Out g E n (G (l',n,false,a)) (f () l'))(h2:∀l' b,Br E b (G (l',n,true,b))):Out g E n ((Ai (ss,l,n,false,a)).bind G) (bP (Ay ss) f l):=by unfold bP;rw[Ava hs];cases hq:Ay ss l with|error q=>exact h2 q (G6 n q)|ok x =>obtain⟨⟨⟩,l'⟩:=x;exact h1 l' hq
theorem Br.must{ss:List Str}{G:RS->Option γ}{l:TL}{b:Int}(h2:Br E b (G (l,n,true,b))):Br E b ((Ai (ss,l,n,true,b)).bind G):=by rw[Ry];exact h2
theorem Out.loop{part:TL->PR α}{m:Nat}{acc:List α}{l:TL}{X:Option γ}(c:List α->TL->Bool->Int->Option γ){f:List α->TL->PR β}(hX:∀e l',Ba part m acc l = .ok (e,l')->X=c e l' false a)(hE:∀q,Ba part m acc l = .error q->∃e l',X=c e l' true (G6 n q))(h1:∀e l',Ba part m acc l = .ok (e,l')->Out g E n (c e l' false a) (f e l'))(h2:∀e l' b,Br E b (c e l' true b)):Out g E n X (bP (Ba part m acc) f l):=by unfold bP;cases hq:Ba part m acc l with|error q =>obtain⟨e,l',h⟩:=hE q hq;rw[h];exact h2 e l' (G6 n q)|ok x =>obtain⟨e,l'⟩:=x;rw[hX e l' hq];exact h1 e l' hq
end
theorem V0{α β:Type}(part:TL->PR α)(f:List α->TL->PR β)(l:TL):bP (Im part) f l=bP part (λx l'=>bP (Ba part (l'.length+1) [x]) f l') l:=by simp only[bP,Im];cases part l with|error q=>rfl|ok x=>rfl
theorem Bnv{α:Type}(part:TL->PR α)(l:TL):Im part l=bP part (λx l'=>bP (Ba part (l'.length+1) [x]) Bg l') l:=by simp only[bP,Im,Bg];cases part l with|error q=>rfl|ok x =>obtain⟨x,l'⟩:=x;simp only;cases Ba part (l'.length+1) [x] l'<;>rfl
abbrev gV{α:Type}(n a:Int)(r : α)(l:TL) : α×RS:=(r,l,n,false,a)
abbrev EV{α:Type}(n:Int)(p:Int)(z : α×RS):Prop:=z.2.2.1=n/\z.2.2.2.1=true/\z.2.2.2.2=p
theorem SimP.of{α:Type}{F:RS->Option (α×RS)}{p:TL->PR α}{L:Nat}(h:∀l n a,l.length<L->Out (gV n a) (EV n) n (F (l,n,false,a)) (p l))(hb:I6 F):SimP F p L where
 ok l n a e l' hl hp:=by have:=h l n a hl;rw[hp] at this;exact this
 er l n a q hl hp:=by have:=h l n a hl;rw[hp] at this;obtain⟨⟨r,l',n',b,p'⟩,h1,h2,h3,h4⟩:=this;simp only at h2 h3 h4;subst h2 h3 h4;exact⟨r,l',h1⟩
 bad:=hb
theorem Gu:Cm Bt:=λl e l' h=>by
 cases l with
 |nil=>cases h
 |cons t r =>simp only[Bt] at h;cases hk:decide (t.kind=2) with|true=>rw[hk] at h;cases h;simp|false=>rw[hk] at h;cases h
theorem Vb{R:Type}{kx:Ex->Hp->Option R}{n:Int}{c:List Str->TL->Bool->Int->Option R}(hk:∀acc l b a,kx (.exit 0) (l,n,b,a,acc)=c acc l b a){L:Nat}(hs:SimP Az Bt L)(he:Cm Bt)(a:Int):∀(k m:Nat) (acc:List Str) (l:TL),l.length<L->l.length<k->l.length<m->acc.length+l.length<=1000000000 ->
  match Ba Bt m acc l with|.ok (e,l')=>Ak (λrec=>Hb rec kx) k (l,n,false,a,acc)=c e l' false a|.error q=>∃e l',Ak (λrec=>Hb rec kx) k (l,n,false,a,acc)=c e l' true (G6 n q)
 |0,_,_,_,_,h,_,_=>absurd h (Zm1 _)
 |_,0,_,_,_,_,h,_=>absurd h (Zm1 _)
 |k+1,m+1,acc,l,hl,h1,h2,h3=>by
  have hm:decide (acc.length+1<=Al)=true:=Ze1 (by simp only[Al];omega);simp only[Aw,Hb,Zs1,Aa,Ba];cases hi:isT [44] l with
  |false=>simp only[Ed hi,Zc1,Af,hk]
  |true =>have hlt:=Kn hi;simp only[Ew hi,Zc1,Aa];cases hq:Bt l.tail with|error q =>obtain⟨e1,l1,h4⟩:=hs.er l.tail n a q (by omega) hq;simp only[h4,Zc1,hm,chk];obtain⟨k,rfl⟩:∃k',k=k'+1:=⟨k-1,by omega⟩;exact⟨acc++[e1],l1,hk _ _ _ _⟩|ok x =>obtain⟨x,l1⟩:=x;have h5:=he _ _ _ hq;simp only[hs.ok l.tail n a x l1 (by omega) hq,Zc1,hm,chk];exact Vb hk hs he a k m (acc++[x]) l1 (by omega) (by omega) (by omega) (by simp only[Zh1,Zf1,Zi1];omega)
theorem A5m{R:Type}{kx:Ex->Hp->Option R}{n:Int}{c:List Str->TL->Bool->Int->Option R}(hk:∀acc l b a,kx (.exit 0) (l,n,b,a,acc)=c acc l b a){L:Nat}(hs:SimP Az Bt L)(he:Cm Bt){a:Int}{k m:Nat}{acc:List Str}{l:TL}(h1:l.length<L)(h2:l.length<k)(h3:l.length<m)(h4:acc.length+l.length<=1000000000)(e:List Str)(l':TL)(h:Ba Bt m acc l = .ok (e,l')):Ak (λrec=>Hb rec kx) k (l,n,false,a,acc)=c e l' false a:=by have:=Vb hk hs he a k m acc l h1 h2 h3 h4;rw[h] at this;exact this
theorem A3o{R:Type}{kx:Ex->Hp->Option R}{n:Int}{c:List Str->TL->Bool->Int->Option R}(hk:∀acc l b a,kx (.exit 0) (l,n,b,a,acc)=c acc l b a){L:Nat}(hs:SimP Az Bt L)(he:Cm Bt){a:Int}{k m:Nat}{acc:List Str}{l:TL}(h1:l.length<L)(h2:l.length<k)(h3:l.length<m)(h4:acc.length+l.length<=1000000000)(q:TL)(h:Ba Bt m acc l = .error q):∃e l',Ak (λrec=>Hb rec kx) k (l,n,false,a,acc)=c e l' true (G6 n q):=by have:=Vb hk hs he a k m acc l h1 h2 h3 h4;rw[h] at this;exact this
theorem Zw{R:Type}{kx:Ex->Hp->Option R}{n a:Int}{l:TL}{acc:List Str}(k:Nat):Ak (λrec=>Hb rec kx) (k+1) (l,n,true,a,acc)=kx (.exit 0) (l,n,true,a,acc):=by simp only[Aw,Hb,Zt1,Af]
theorem Tb{R:Type}{kx:Ex->Hs->Option R}{n:Int}{c:List Xpr->TL->Bool->Int->Option R}(hk:∀acc l b a,kx (.exit 0) (l,n,b,a,acc)=c acc l b a){L:Nat}(hs:SimP Ft orW L)(he:Cm orW)(a:Int):∀(k m:Nat) (acc:List Xpr) (l:TL),l.length<L->l.length<k->l.length<m->acc.length+l.length<=1000000000 ->
  match Ba orW m acc l with|.ok (e,l')=>Ak (λrec=>Ha rec kx) k (l,n,false,a,acc)=c e l' false a|.error q=>∃e l',Ak (λrec=>Ha rec kx) k (l,n,false,a,acc)=c e l' true (G6 n q)
 |0,_,_,_,_,h,_,_=>absurd h (Zm1 _)
 |_,0,_,_,_,_,h,_=>absurd h (Zm1 _)
 |k+1,m+1,acc,l,hl,h1,h2,h3=>by
  have hm:decide (acc.length+1<=Al)=true:=Ze1 (by simp only[Al];omega);simp only[Aw,Ha,Zs1,Aa,Ba];cases hi:isT [44] l with
  |false=>simp only[Ed hi,Zc1,Af,hk]
  |true =>have hlt:=Kn hi;simp only[Ew hi,Zc1,Aa];cases hq:orW l.tail with|error q =>obtain⟨e1,l1,h4⟩:=hs.er l.tail n a q (by omega) hq;simp only[h4,Zc1,hm,decide_true,Bool.and_self,chk];obtain⟨k,rfl⟩:∃k',k=k'+1:=⟨k-1,by omega⟩;exact⟨acc++[e1],l1,hk _ _ _ _⟩|ok x =>obtain⟨x,l1⟩:=x;have h5:=he _ _ _ hq;simp only[hs.ok l.tail n a x l1 (by omega) hq,Zc1,hm,decide_true,Bool.and_self,chk];exact Tb hk hs he a k m (acc++[x]) l1 (by omega) (by omega) (by omega) (by simp only[Zh1,Zf1,Zi1];omega)
theorem A1x{R:Type}{kx:Ex->Hs->Option R}{n:Int}{c:List Xpr->TL->Bool->Int->Option R}(hk:∀acc l b a,kx (.exit 0) (l,n,b,a,acc)=c acc l b a){L:Nat}(hs:SimP Ft orW L)(he:Cm orW){a:Int}{k m:Nat}{acc:List Xpr}{l:TL}(h1:l.length<L)(h2:l.length<k)(h3:l.length<m)(h4:acc.length+l.length<=1000000000)(e:List Xpr)(l':TL)(h:Ba orW m acc l = .ok (e,l')):Ak (λrec=>Ha rec kx) k (l,n,false,a,acc)=c e l' false a:=by have:=Tb hk hs he a k m acc l h1 h2 h3 h4;rw[h] at this;exact this
theorem A4o{R:Type}{kx:Ex->Hs->Option R}{n:Int}{c:List Xpr->TL->Bool->Int->Option R}(hk:∀acc l b a,kx (.exit 0) (l,n,b,a,acc)=c acc l b a){L:Nat}(hs:SimP Ft orW L)(he:Cm orW){a:Int}{k m:Nat}{acc:List Xpr}{l:TL}(h1:l.length<L)(h2:l.length<k)(h3:l.length<m)(h4:acc.length+l.length<=1000000000)(q:TL)(h:Ba orW m acc l = .error q):∃e l',Ak (λrec=>Ha rec kx) k (l,n,false,a,acc)=c e l' true (G6 n q):=by have:=Tb hk hs he a k m acc l h1 h2 h3 h4;rw[h] at this;exact this
theorem Aml{R:Type}{kx:Ex->Hs->Option R}{n a:Int}{l:TL}{acc:List Xpr}(k:Nat):Ak (λrec=>Ha rec kx) (k+1) (l,n,true,a,acc)=kx (.exit 0) (l,n,true,a,acc):=by simp only[Aw,Ha,Zt1,Af]
theorem D6:I6 Az:=(Cn 0).bad
theorem Ad1:I6 Ft:=(Ui (L:=0) (by omega)).bad
theorem Aei:I6 C6:=λl n a=>by obtain⟨e1,h1⟩:=Ad1 l n a;simp only[C6,Jz,h1,Zc1,Aml];exact⟨[e1],rfl⟩
theorem Ar3{L:Nat}(hL:L<=1000000000):SimP C6 L5 L :=.of (λl n a hl=>by
 unfold L5;rw[Bnv];simp only[C6,Jz];refine Out.bindS (Ui hL) hl (λr l' hp =>?_) (λr l' b =>?_)
 ·have h5:=Gj _ _ _ hp;have hm:decide (0+1<=Al)=true:=Ze1 (by simp only[Al];omega);simp only[hm,decide_true,Bool.and_self,chk,Aa];have hl':[r].length+l'.length<=1000000000:=by simp only[Zf1,Zi1];omega
  refine Out.loop (a:=a) (λacc l b a=>some (acc,l,n,b,a)) (A1x (λ_ _ _ _=>rfl) (Ui hL) Gj (by omega) (by omega) (by omega) hl') (A4o (λ_ _ _ _=>rfl) (Ui hL) Gj (by omega) (by omega) (by omega) hl') (λe l2 _ =>?_) (λe l2 b =>?_)
  ·exact rfl
  ·exact⟨_,rfl,rfl,rfl,rfl⟩
 ·have hm:decide (0+1<=Al)=true:=Ze1 (by simp only[Al];omega);simp only[hm,decide_true,Bool.and_self,chk,Aa,Aml];exact⟨_,rfl,rfl,rfl,rfl⟩) Aei
theorem Jl:I6 Dq:=λl n a=>by obtain⟨e1,h1⟩:=D6 l n a;simp only[Dq,Ki,Ry,h1,Zc1,Zw];exact⟨[e1],rfl⟩
theorem Aq8{L:Nat}(hL:L<=1000000000):SimP Dq Mg L :=.of (λl n a hl=>by
 unfold Mg;simp only[Dq,Ki];refine Out.must (by decide) (λl0 h0 =>?_) (λl0 b =>?_)
 ·have hl0:l0.length<=l.length:=by cases hi:isT [40] l with|true=>rw[Agq hi] at h0;cases h0;exact Bj l|false=>rw[Al6 hi] at h0;cases h0
  rw[V0];refine Out.bindS (Cn L) (show l0.length<L by omega) (λr l' hp =>?_) (λr l' b =>?_)
  ·have h5:l'.length<l0.length:=Gu _ _ _ hp;have hl':[r].length+l'.length<=1000000000:=by simp only[Zf1,Zi1];omega
   refine Out.loop (a:=a) (λacc l b a=>(Ai ([[41]],l,n,b,a)).bind λ(c,d,f,g)=>some (acc,c,d,f,g)) (A5m (λ_ _ _ _=>rfl) (Cn L) Gu (by omega) (by omega) (by omega) hl') (A3o (λ_ _ _ _=>rfl) (Cn L) Gu (by omega) (by omega) (by omega) hl') (λe l2 _ =>?_) (λe l2 b =>?_)
   ·exact Out.must (by decide) (λl3 _=>rfl) (λl3 b=>⟨_,rfl,rfl,rfl,rfl⟩)
   ·exact Br.must ⟨_,rfl,rfl,rfl,rfl⟩
  ·simp only[Zw];exact Br.must ⟨_,rfl,rfl,rfl,rfl⟩
 ·refine Br.bindS D6 (λr =>?_);simp only[Zw];exact Br.must ⟨_,rfl,rfl,rfl,rfl⟩) Jl
section
variable {V R α:Type}{step:(V->Option R)->V->Option R}{st:TL->Int->Bool->Int->List α->V}{n:Int}{Fp:RS->Option (α×RS)}{part:TL->PR α}{L:Nat}{c:List α->TL->Bool->Int->Option R}
theorem Aog(hs:SimP Fp part L)(he:Cm part)
  (hg:∀rec l a acc,acc.length<=1000000000->isT [44] l=true->step rec (st l n false a acc)=(Fp (l.tail,n,false,a)).bind λz=>rec (st z.2.1 z.2.2.1 z.2.2.2.1 z.2.2.2.2 (acc++[z.1])))
  (hf:∀rec l a acc,isT [44] l=false->step rec (st l n false a acc)=c acc l false a)
  (hb:∀rec l a acc,step rec (st l n true a acc)=c acc l true a) (a:Int):∀(k m:Nat) (acc:List α) (l:TL),l.length<L->l.length<k->l.length<m->acc.length+l.length<=1000000000 ->
  match Ba part m acc l with|.ok (e,l')=>Ak step k (st l n false a acc)=c e l' false a|.error q=>∃e l',Ak step k (st l n false a acc)=c e l' true (G6 n q)
 |0,_,_,_,_,h,_,_=>absurd h (Zm1 _)
 |_,0,_,_,_,_,h,_=>absurd h (Zm1 _)
 |k+1,m+1,acc,l,hl,h1,h2,h3=>by
  simp only[Aw,Ba];cases hi:isT [44] l with
  |false=>exact hf _ l a acc hi
  |true =>have hlt:=Kn hi;simp only[hg _ l a acc (by omega) hi];cases hq:part l.tail with|error q =>obtain⟨e1,l1,h4⟩:=hs.er l.tail n a q (by omega) hq;simp only[h4,Zc1];obtain⟨k,rfl⟩:∃k',k=k'+1:=⟨k-1,by omega⟩;exact⟨acc++[e1],l1,hb _ _ _ _⟩|ok x =>obtain⟨x,l1⟩:=x;have h5:=he _ _ _ hq;simp only[hs.ok l.tail n a x l1 (by omega) hq,Zc1];exact Aog hs he hg hf hb a k m (acc++[x]) l1 (by omega) (by omega) (by omega) (by simp only[Zh1,Zf1,Zi1];omega)
theorem At8(hs:SimP Fp part L)(he:Cm part)
  (hg:∀rec l a acc,acc.length<=1000000000->isT [44] l=true->step rec (st l n false a acc)=(Fp (l.tail,n,false,a)).bind λz=>rec (st z.2.1 z.2.2.1 z.2.2.2.1 z.2.2.2.2 (acc++[z.1])))
  (hf:∀rec l a acc,isT [44] l=false->step rec (st l n false a acc)=c acc l false a)
  (hb:∀rec l a acc,step rec (st l n true a acc)=c acc l true a) {a:Int}{k m:Nat}{acc:List α}{l:TL}(h1:l.length<L) (h2:l.length<k) (h3:l.length<m) (h4:acc.length+l.length<=1000000000) (e:List α) (l':TL) (h:Ba part m acc l = .ok (e,l')):Ak step k (st l n false a acc)=c e l' false a:=by
 have:=Aog hs he hg hf hb a k m acc l h1 h2 h3 h4;rw[h] at this;exact this
theorem Awb(hs:SimP Fp part L)(he:Cm part)
  (hg:∀rec l a acc,acc.length<=1000000000->isT [44] l=true->step rec (st l n false a acc)=(Fp (l.tail,n,false,a)).bind λz=>rec (st z.2.1 z.2.2.1 z.2.2.2.1 z.2.2.2.2 (acc++[z.1])))
  (hf:∀rec l a acc,isT [44] l=false->step rec (st l n false a acc)=c acc l false a)
  (hb:∀rec l a acc,step rec (st l n true a acc)=c acc l true a) {a:Int}{k m:Nat}{acc:List α}{l:TL}(h1:l.length<L) (h2:l.length<k) (h3:l.length<m) (h4:acc.length+l.length<=1000000000) (q:TL) (h:Ba part m acc l = .error q):∃e l',Ak step k (st l n false a acc)=c e l' true (G6 n q):=by
 have:=Aog hs he hg hf hb a k m acc l h1 h2 h3 h4;rw[h] at this;exact this
end
abbrev Cl:=Int×Str×Str×List Col×List Str×List Xpr×List (List Xpr)×List SetE×Bool×Int×Int×Int×Str×Str×List Xpr×List Str×List Bool×Int
abbrev ES(n:Int)(p:Int)(z:TL×Int×Bool×Int×Cl):Prop:=z.2.1=n/\z.2.2.1=true/\z.2.2.2.1=p
theorem Aiy(l:TL)(n a:Int)(z:Cl):Ce (l,n,true,a,z)=some (l,n,true,a,z):=by obtain⟨sk,sn,so,sc,ss,sl,sr,st,sh,wk,vk,vn,vs,wn,wl,sd,se,sm⟩:=z;simp only[Ce,M4,Zt1,Af]
theorem Aft{L:Nat}(hL:L<=1000000000)(n a sk:Int)(sn so:Str)(sc:List Col)(ss:List Str)(sl:List Xpr)(sr:List (List Xpr))(st:List SetE)(sd:List Str)(se:List Bool)(sm:Int){l:TL}(hl:l.length<L) :
  Out (λ(w:Bool×Xpr) l'=>((l',n,false,a,sk,sn,so,sc,ss,sl,sr,st,w.1,w.2.kind,w.2.v.kind,w.2.v.n,w.2.v.s,w.2.name,w.2.l,sd,se,sm):TL×Int×Bool×Int×Cl)) (ES n) n (Ce (l,n,false,a,sk,sn,so,sc,ss,sl,sr,st,false,0,0,0,[],[],[],sd,se,sm)) (Ek l):=by
 simp only[Ce,M4,Zs1,Aa,Ek];cases hi:isT wWHERE l with
 |false =>simp only[Ed (s:=[87,72,69,82,69]) hi,Zc1,Af];exact rfl
 |true =>have ht:=Bj l;simp only[Ew (s:=[87,72,69,82,69]) hi,Zc1,Aa];cases hq:orW l.tail with|error q =>obtain⟨e1,l1,h1⟩:=(Ui hL).er l.tail n a q (by omega) hq;simp only[h1,Zc1];exact⟨_,rfl,rfl,rfl,rfl⟩|ok x =>obtain⟨x,l1⟩:=x;simp only[(Ui hL).ok l.tail n a x l1 (by omega) hq,Zc1];exact rfl
end Go.Proofs.YthndhaolemgbdaaGreatDoor
