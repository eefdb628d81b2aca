/- Texts of the proof,one behind the other: Ws,Pi,Vc,Da,Rp,Ga,Gb,Gc,Gd,Ru,Vt,Nf,Uq,Us,Ya,Yb,Qf,Qg,Qh,Qi,Qj,Qk,Ql,Qm,Yc,Yd,Qn,Qo,Qp,Qq,Qr,Qs,Qt,Qu,Qv,Qw,Rv,Db,Rw,Rx,Kp. -/
import Derived.Test.YthndhaolemgbdaaGreatDoorV5
set_option linter.all false
namespace Go.Proofs.YthndhaolemgbdaaGreatDoor
open Go.Ax
theorem Cg{R:Type}{out t:Str}{f g:Str→Option R}(h:∀x:Str,x.length≤100000000000→f x=g x):(app out t).bind f=(app out t).bind g:=by
 cases hx:app out t with
 |none=>rfl
 |some x=>exact h x (Amb hx).1
theorem Ky{R:Type}(i:Nat) (acc t:Str) (c:Str→Option R):cond (decide ((0:Int)<(i:Int))) ((app acc [44,32]).bind fun x=>(app x t).bind c) ((app acc t).bind c)=(app acc ((if i=0 then [] else [44,32])++t)).bind c:=by
 by_cases h:i=0
 ·rw [Zd1 (by omega),if_pos h]
  rfl
 ·rw [Ze1 (by omega),if_neg h,Af,Cd]
theorem fl1(a:Str):([a]:List Str).flatten=a:=by simp
theorem fl2(a b:Str):([a,b]:List Str).flatten=a++b:=by simp
theorem fl3(a b c:Str):([a,b,c]:List Str).flatten=a++(b++c):=by simp
theorem fl5(a b c d e:Str):([a,b,c,d,e]:List Str).flatten=a++(b++(c++(d++e))):=by simp
theorem A53{V R α:Type}{step:(V→Option R)→V→Option R}(l:List α) (f : α→Str) (st:Nat→Str→V) (c:Str→Option R)
  (hs:∀i (hi:i<l.length) (acc:Str) rec,step rec (st i acc)=(app acc (f l[i])).bind fun x=>rec (st (i+1) x))
  (he:∀acc rec,step rec (st l.length acc)=c acc) (k:Nat) (hk:l.length<k) (out:Str) (ho:out.length≤100000000000):Al step k (st 0 out)=(app out (l.map f).flatten).bind c:=by
 refine(O7 l.length st (fun _ acc=>acc.length≤100000000000) (fun i acc=>(app acc ((l.drop i).map f).flatten).bind c) (fun i hi acc ha rec hr =>?_) (fun acc ha rec =>?_) k 0 out (Nat.zero_le _) (by omega) ho).trans (by rw [Zq1])
 ·rw [hs i hi acc rec,Am hi,Zw1,Zz1,←Cd]
  exact Cg fun x hx=>hr x hx
 ·rw [he,Zc2,List.map_nil,List.flatten_nil,Adh ha]
  rfl
theorem Bha{out r:Str}(h:app out []=some r):some out=some r:=by
 have:=(Amb h).2
 rw [List.append_nil] at this
 rw [this]
def A5n(R:Type):Px R:=pxO [(39,cA Lh),(40,Ai Dz Ec Dp),(41,Ai bstr_si Adp F4)] [] [] []
def Ahm(x:HV [.sv .expr]):Option (HV [.str,.int .i64]):=match x with
 |e =>
 cond (!(A8 e 30)) (
  some ([],2)) (
  (Dp (e,[])).bind fun x =>
  (F4 x).bind fun x1 =>
   some (x1,0))
theorem A3v:FO 14 [.sv .expr] [.str,.int .i64] (Ahm):=fR (px:=A5n _) (n:=0) Tryz.func14 rfl (fun _ H=>⟨lv H (c1 H Kn (l1 H Lt (l1 H Aw2 Ae))) Aa Ab,Aj⟩) fun _=>by kernel_rfl
def Ard(e:Xpr):Option (Str×Int):=cond (A8 e 30) (cond (okx e) ((app [] (etx e)).bind fun t=>some (t,0)) none) (some ([],2))
def Awd:FT [.sv .expr] [.str,.int .i64]:=fun x=>Ard x
theorem A65:FO 14 [.sv .expr] [.str,.int .i64] Awd :=.fin0 A3v fun e r hb hx=>by
 have hx:Ard e=some r:=hx
 rw [←hx]
 simp only [Ahm,Ard]
 simp only [Ard] at hx
 cases hr:A8 e 30 with
 |false=>rfl
 |true =>
  rw [hr] at hx
  cases ho:okx e with
  |false=>rw [ho] at hx;cases hx
  |true =>
   simp only [we ho,Zt1,Ah,Af]
   rfl
def Amo(l:List Str):Bool:=decide (l.length≤1000000)&&decide ((Lib.join l [44,32]).length≤1000000000)
def nmT(l:List Str):Str:=[40]++(Lib.join l [44,32]++[41])
def Sa:Sig:=⟨2,[(1,.sl .str false)],[(0,.ptr 0 0)],[(0,.bld 82)],1,1,0,[],[]⟩
def R7:Sig:=⟨0,[],[],[(0,.bld 82)],1,1,0,[],[]⟩
abbrev Asd:=List Str×List UInt8
abbrev Arz:=List UInt8
def Azy(R:Type):Px R:=pxO [(105,cA Amz),(49,Ai Bq Br Ak)] [] [] []
def O0(x:Asd):Option (Arz):=match x with
 |(l,out) =>
 (Awp l [44,32]).bind fun x =>
  (Ak ([[40],x,[41]],out)).bind fun x1 =>
  some x1
theorem Aty:FM 50 Sa R7 (O0):=fRL (px:=Azy _) (n:=0) Tryz.func50 rfl (fun _ H=>⟨lv H (c1 H A8e (l1 H B3 Ae)) Aa Ab,Aj⟩) fun(_,_)=>by kernel_rfl
def Bfb(l:List Str) (out:Str):Option Str:=cond (Amo l) (app out (nmT l)) none
def L3:Asd→Option Arz:=fun x=>Bfb x.1 x.2
theorem A7y(l:List Str) (out:Str) (h:Amo l=true):O0 (l,out)=app out (nmT l):=by
 simp only [Amo,Zb1,Zg1] at h
 have hj:Awp l [44,32]=some (Lib.join l [44,32]):=if_pos h
 simp only [O0,hj,ww,Zc1,F2,fl3]
 rfl
theorem Ai4:FM 50 Sa R7 L3 :=.fin0 Aty fun(l,out) r hb hx=>by
 have hx:cond (Amo l) (app out (nmT l)) none=some r:=hx
 cases ho:Amo l with
 |false=>rw [ho] at hx;cases hx
 |true =>
  rw [ho] at hx
  exact(A7y l out ho).trans hx
theorem wn{l:List Str}(h:Amo l=true) (out:Str):L3 (l,out)=app out (nmT l):=by
 show cond (Amo l) _ _=_
 rw [h]
 rfl
def Arf(c:Col):Str:=c.name++([32]++at' .str Amm c.kind)++cond c.notNull [32,78,79,84,32,78,85,76,76] []++cond c.unique [32,85,78,73,81,85,69] []++cond (decide (c.ref=[])) [] ([32,82,69,70,69,82,69,78,67,69,83,32]++c.ref)
def Am1:Sig:=⟨2,[(1,.sv .col)],[(0,.ptr 0 0)],[(0,.bld 82)],1,1,0,[],[]⟩
def Ama:Sig:=⟨0,[],[],[(0,.bld 82)],1,1,0,[],[]⟩
abbrev A8x:=Col×List UInt8
abbrev A9r:=List UInt8
def Bbu(R:Type):Px R:=pxO [(49,Ai Bq Br Ak)] [] [] []
def Y9(x:A8x):Option (A9r):=match x with
 |(c,out) =>
 chk (inb c.kind 6) (
  (Ak ([c.name,[32],(at' .str Amm c.kind)],out)).bind fun x =>
  let j1:=fun(q:List UInt8) =>
   let j:=fun(q1:List UInt8) =>
   cond (!decide (c.ref=[])) (
    (Ak ([[32,82,69,70,69,82,69,78,67,69,83,32],c.ref],q1)).bind fun x3 =>
    some x3) (
    some q1)
   cond (c.unique) (
   (Ak ([[32,85,78,73,81,85,69]],q)).bind fun x2 =>
    j x2) (
   j q)
  cond (c.notNull) (
   (Ak ([[32,78,79,84,32,78,85,76,76]],x)).bind fun x1 =>
   j1 x1) (
   j1 x))
theorem A8a:FM 103 Am1 Ama (Y9):=fRL (px:=Bbu _) (n:=0) Tryz.func103 rfl (fun _ H=>⟨lv H (l1 H B3 Ae) Aa Ab,Aj⟩) fun(_,_)=>by kernel_rfl
def Bi8(c:Col) (out:Str):Option Str:=cond (inb c.kind 6) (app out (Arf c)) none
def Ams:A8x→Option A9r:=fun x=>Bi8 x.1 x.2
theorem Bfu(c:Col) (out:Str) (h:inb c.kind 6=true):Y9 (c,out)=app out (Arf c):=by
 simp only [Y9,h,chk,Af,ww,fl1,fl2,fl3,Arf]
 cases c.notNull<;>cases c.unique<;>cases decide (c.ref=[])<;>simp only [Af,Ah,Zt1,Zs1,F2,F8,List.append_nil,Zj1]
theorem Bdq:FM 103 Am1 Ama Ams :=.fin0 A8a fun(c,out) r hb hx=>by
 have hx:cond (inb c.kind 6) (app out (Arf c)) none=some r:=hx
 cases ho:inb c.kind 6 with
 |false=>rw [ho] at hx;cases hx
 |true =>
  rw [ho] at hx
  exact(Bfu c out ho).trans hx
theorem wc{c:Col}(h:inb c.kind 6=true) (out:Str):Ams (c,out)=app out (Arf c):=by
 show cond (inb c.kind 6) _ _=_
 rw [h]
 rfl
def whT(s:Stm):Str:=cond s.has ([32,87,72,69,82,69,32]++etx s.whr) []
def okW(s:Stm):Bool := !s.has||okx s.whr
def P1:Sig:=⟨2,[(1,.sv .stmt)],[(0,.ptr 0 0)],[(0,.bld 82)],1,1,0,[],[]⟩
def Q7:Sig:=⟨0,[],[],[(0,.bld 82)],1,1,0,[],[]⟩
abbrev Aqa:=Stm×List UInt8
abbrev Aop:=List UInt8
def A3h(R:Type):Px R:=pxO [(49,Ai Bq Br Ak),(40,Ai Dz Ec Dp)] [] [] []
def O8(x:Aqa):Option (Aop):=match x with
 |(s,out) =>
 cond (s.has) (
  (Ak ([[32,87,72,69,82,69,32]],out)).bind fun x =>
  (Dp ((Nr s.whr),x)).bind fun x1 =>
   some x1) (
  some out)
theorem At0:FM 55 P1 Q7 (O8):=fRL (px:=A3h _) (n:=0) Tryz.func55 rfl (fun _ H=>⟨lv H (l1 H B3 (l1 H Lt Ae)) Aa Ab,Aj⟩) fun(_,_)=>by kernel_rfl
def Bgj(s:Stm) (out:Str):Option Str:=cond (okW s) (app out (whT s)) none
def F6:Aqa→Option Aop:=fun x=>Bgj x.1 x.2
theorem A8t(s:Stm) (out r:Str) (h:okW s=true) (hr:app out (whT s)=some r):O8 (s,out)=some r:=by
 simp only [okW] at h
 simp only [whT] at hr
 simp only [O8,R9,ww,fl1]
 cases hs:s.has with
 |false =>
  rw [hs] at hr
  exact Bha hr
 |true =>
  rw [hs] at h hr
  simp only [we (show okx s.whr=true from h),Af,F2,F8]
  exact hr
theorem Aj4:FM 55 P1 Q7 F6 :=.fin0 At0 fun(s,out) r hb hx=>by
 have hx:cond (okW s) (app out (whT s)) none=some r:=hx
 cases ho:okW s with
 |false=>rw [ho] at hx;cases hx
 |true =>
  rw [ho] at hx
  exact A8t s out r ho hx
theorem wh{s:Stm}(h:okW s=true) (out:Str):F6 (s,out)=app out (whT s):=by
 show cond (okW s) _ _=_
 rw [h]
 rfl
def Bbg(e:Xpr):Str:=[44,32,67,72,69,67,75,32]++cond (decide (Hn e.kind=0)) ([40]++(etx e++[41])) (etx e)
def N3(s:Stm):Str:=[67,82,69,65,84,69,32,84,65,66,76,69,32]++(s.name++[32,40])++Gl Arf s.cols++[44,32,80,82,73,77,65,82,89,32,75,69,89,32]++nmT s.names++(s.l.map Bbg).flatten++[41]
def okT(s:Stm):Bool:=s.cols.all (fun c=>inb c.kind 6)&&Amo s.names&&s.l.all okx
def Jc(s:Stm):Nat:=s.cols.length+s.l.length+s.order.length+s.rows.length+s.sets.length+(s.rows.map List.length).sum+1
def Zw:Sig:=⟨2,[(1,.sv .stmt)],[(0,.ptr 0 0)],[(0,.bld 82)],1,1,0,[],[]⟩
def Z7:Sig:=⟨0,[],[],[(0,.bld 82)],1,1,0,[],[]⟩
abbrev Ar2:=Stm×List UInt8
abbrev Ow:=List UInt8
def Aaz:Sig:=⟨54,[(25,.sl .expr false),(26,.int .i64),(27,.int .i64)],[(2,.ptr 1 0)],[(0,.bld 82),(1,.fx [.ptr 0 0])],2,1,0,[],[]⟩
abbrev Uv:=List Xpr×Int×Int×List UInt8
def O3{R:Type}(rec:Uv→Option R) (kx:Ex→Uv→Option R) (v:Uv):Option R:=match v with
 |(v6,v7,v8,w2) =>
 cond (decide (v8<v7)) (
  chk (inb v8 v6.length) (
  (Ak ([[44,32,67,72,69,67,75,32]],w2)).bind fun x5 =>
   cond (decide ((Hn ((at' .expr v6 v8).kind))=0)) (
   (Ak ([[40]],x5)).bind fun x6 =>
    (Dp ((at' .expr v6 v8),x6)).bind fun x7 =>
    (Ak ([[41]],x7)).bind fun x8 =>
     rec (v6,v7,(wr .i64 (v8+1)),x8)) (
   (Dp ((at' .expr v6 v8),x5)).bind fun x9 =>
    rec (v6,v7,(wr .i64 (v8+1)),x9)))) (
  kx (.exit 0) (v6,v7,v8,w2))
def Aa0:Sig:=⟨20,[(7,.int .i64),(8,.int .i64)],[(0,.ptr 0 0),(2,.fn 102 [.ptr 1 0,.ptr 2 0])],[(0,.bld 82),(1,.fx [.ptr 0 0]),(2,.one (.sv .stmt))],80,80,400,[],[]⟩
abbrev Tr:=Int×Int×List UInt8×Stm
def Pl{R:Type}(rec:Tr→Option R) (kx:Ex→Tr→Option R) (v:Tr):Option R:=match v with
 |(v,v1,w,w1) =>
 cond (decide (v1<v)) (
  let j:=fun(q:List UInt8) =>
  chk (inb v1 w1.cols.length) (
   (Ams ((at' .col w1.cols v1),q)).bind fun x2 =>
   rec (v,(wr .i64 (v1+1)),x2,w1))
  cond (decide (0<v1)) (
  (Ak ([[44,32]],w)).bind fun x1 =>
   j x1) (
  j w)) (
  kx (.exit 0) (v,v1,w,w1))
def Tg(R:Type) (_k:Nat):Px R:=pxO [(103,Ai Am1 Ama Ams)] [] [] []
noncomputable def Abk (R:Type) (k:Nat):Px R:=pxO [(49,Ai Bq Br Ak),(102,As 120 600 (Tg R k) Tryz.f102)] [] [(1,Ao k Aa0 (Pl))] []
noncomputable def Aik (R:Type) (k:Nat):Px R:=pxO [(49,Ai Bq Br Ak),(50,Ai Sa R7 L3),(94,cA Anu),(40,Ai Dz Ec Dp),(51,As 80 400 (Abk R k) Tryz.f51)] [] [(6,Ao k Aaz (O3))] []
def Od(k:Nat) (x:Ar2):Option (Ow):=match x with
 |(s,out) =>
 (Ak ([[67,82,69,65,84,69,32,84,65,66,76,69,32],s.name,[32,40]],out)).bind fun x =>
  Al (fun rec=>Pl rec (fun e vz=>match vz with|(_,_,v4,v5)=>match e with
  |.exit 0 =>
   (Ak ([[44,32,80,82,73,77,65,82,89,32,75,69,89,32]],v4)).bind fun x3 =>
   (L3 (v5.names,x3)).bind fun x4 =>
    Al (fun rec=>O3 rec (fun e vz=>match vz with|(_,_,_,v12)=>match e with
    |.exit 0 =>
     (Ak ([[41]],v12)).bind fun x10 =>
     some x10
    |_=>none)) k (v5.l,(v5.l.length:Int),0,x4)
  |_=>none)) k ((s.cols.length:Int),0,x,s)
theorem At1(k:Nat):FM 48 Zw Z7 (Od k):=fRL (px:=Aik _ k) (n:=1) Tryz.func48 rfl (fun cx H=>by
 have h2:Lv cx (Tg (Ow) k):=lv H (l1 H Bdq Ae) Aa Ab
 have h1:Lv cx (Abk (Ow) k):=lv H (l1 H B3 (An (cR H h2 Tryz.func102 rfl (n:=0) (Aj)) Ae)) Aa Ab
 have hlwtable_0:=lO H h1 (b:=lp Tryz.f51 0) (k:=k) (n:=0) (s:=Aa0) (step:=Pl) (fun _ _ _ (_,_,_,_)=>by kernel_rfl) Aj
 have h0:Lv cx (Aik (Ow) k):=lv H (l1 H B3 (l1 H Ai4 (c1 H Aou (l1 H Lt (An (cR H h1 Tryz.func51 rfl (n:=1) ((Bf Aj hlwtable_0))) Ae))))) Aa Ab
 have hlwtable_1:=lO H h0 (b:=lp Tryz.f48 0) (k:=k) (n:=0) (s:=Aaz) (step:=O3) (fun _ _ _ (_,_,_,_)=>by kernel_rfl) Aj
 exact⟨h0,(Bf Aj hlwtable_1)⟩) fun(_,_)=>by kernel_rfl
def Bf3(s:Stm) (out:Str):Option Str:=cond (okT s) (app out (N3 s)) none
def Wd:Ar2→Option Ow:=fun x=>Bf3 x.1 x.2
theorem A5u(k:Nat) (s:Stm) (out:Str) (hb:BdStm s) (h:okT s=true) (hk:Jc s≤k):Od k (s,out)=app out (N3 s):=by
 simp only [okT,Zb1] at h
 obtain⟨⟨h1,h2⟩,h3⟩:=h
 simp only [Jc] at hk
 have hc:=Zg2.1 h1
 have hl:=Zg2.1 h3
 simp only [Od,ww,fl1,fl3]
 refine(Cg fun x hx=>(H7 s.cols Arf (fun i acc=>((s.cols.length:Int),(i:Int),acc,s)) (fun acc=>(app acc ([44,32,80,82,73,77,65,82,89,32,75,69,89,32]++nmT s.names)).bind fun x=>(app x (s.l.map Bbg).flatten).bind fun x=>app x [41]) (fun i hi acc rec =>?_) (fun acc rec =>?_) k (by omega) x hx)).trans ?_
 ·simp only [Pl,Fw hi,Af,A4 hi,chk,A9 (c :=.col) hi,wc (hc _ (List.getElem_mem hi)),Az hi hb.cols.1,ww,fl1]
  exact Ky i acc (Arf s.cols[i]) _
 ·simp only [Pl,Fx,Ah,ww,fl1,wn h2]
  rw [Cd]
  refine Cg fun x hx=>A53 s.l Bbg (fun i acc=>(s.l,(s.l.length:Int),(i:Int),acc)) (fun acc=>app acc [41]) (fun i hi acc rec =>?_) (fun acc rec =>?_) k (by omega) x hx
  ·simp only [O3,Fw hi,Af,A4 hi,chk,A9 (c :=.expr) hi,we (hl _ (List.getElem_mem hi)),Az hi hb.l.1,ww,fl1,Bbg]
   cases decide (Hn s.l[i].kind=0) with
   |true=>simp only [Af,Cd]
   |false=>simp only [Ah,Cd]
  ·simp only [O3,Fx,Ah,ww,fl1,F2]
 ·simp only [F8,N3,Zj1]
theorem A0m:FM 48 Zw Z7 Wd :=.fin 0 At1 fun(s,out) r hb hx=>⟨Jc s,by
 have hx:cond (okT s) (app out (N3 s)) none=some r:=hx
 cases ho:okT s with
 |false=>rw [ho] at hx;cases hx
 |true =>
  rw [ho] at hx
  exact(A5u (Jc s) s out hb.1 ho (Zn1 _)).trans hx⟩
theorem wt{s:Stm}(h:okT s=true) (out:Str):Wd (s,out)=app out (N3 s):=by
 show cond (okT s) _ _=_
 rw [h]
 rfl
def As6(p:Str×Bool):Str:=p.1++cond p.2 [32,68,69,83,67] []
def A24(s:Stm):Str:=cond (decide (0≤s.most)) ([32,76,73,77,73,84,32]++Dm ⟨3,s.most,[]⟩) []
def obT(s:Stm):Str:=cond (decide (0<(s.order.length:Int))) [32,79,82,68,69,82,32,66,89,32] []
def Ass(s:Stm):Str:=[83,69,76,69,67,84,32]++cond (decide ((s.l.length:Int)=0)) [42] []++Gl etx s.l++([32,70,82,79,77,32]++s.name)++whT s++obT s++Gl As6 (s.order.zip s.desc)++A24 s
def okS(s:Stm):Bool:=s.l.all okx&&okW s&&decide (s.desc.length=s.order.length)
def Ux:Sig:=⟨2,[(1,.sv .stmt)],[(0,.ptr 0 0)],[(0,.bld 82)],1,1,0,[],[]⟩
def Ug:Sig:=⟨0,[],[],[(0,.bld 82)],1,1,0,[],[]⟩
abbrev Ak1:=Stm×List UInt8
abbrev Ej:=List UInt8
def Xu:Sig:=⟨20,[(7,.int .i64),(8,.int .i64)],[(0,.ptr 0 0),(2,.fn 107 [.ptr 1 0,.ptr 2 0])],[(0,.bld 82),(1,.fx [.ptr 0 0]),(2,.one (.sv .stmt))],80,80,600,[],[]⟩
abbrev Jw:=Int×Int×List UInt8×Stm
def Fg{R:Type}(rec:Jw→Option R) (kx:Ex→Jw→Option R) (v:Jw):Option R:=match v with
 |(v6,v7,w2,w3) =>
 cond (decide (v7<v6)) (
  let j1:=fun(q3:List UInt8) =>
  chk (inb v7 w3.order.length) (
   (Ak ([(at' .str w3.order v7)],q3)).bind fun x8 =>
   chk (inb v7 w3.desc.length) (
    cond ((at' .bool w3.desc v7)) (
    (Ak ([[32,68,69,83,67]],x8)).bind fun x9 =>
     rec (v6,(wr .i64 (v7+1)),x9,w3)) (
    rec (v6,(wr .i64 (v7+1)),x8,w3))))
  cond (decide (0<v7)) (
  (Ak ([[44,32]],w2)).bind fun x7 =>
   j1 x7) (
  j1 w2)) (
  kx (.exit 0) (v6,v7,w2,w3))
def X1:Sig:=⟨20,[(7,.int .i64),(8,.int .i64)],[(0,.ptr 0 0),(2,.fn 106 [.ptr 1 0,.ptr 2 0])],[(0,.bld 82),(1,.fx [.ptr 0 0]),(2,.one (.sv .stmt))],80,80,400,[],[]⟩
abbrev Ja:=Int×Int×List UInt8×Stm
def Hz{R:Type}(rec:Ja→Option R) (kx:Ex→Ja→Option R) (v:Ja):Option R:=match v with
 |(v,v1,w,w1) =>
 cond (decide (v1<v)) (
  let j:=fun(q1:List UInt8) =>
  chk (inb v1 w1.l.length) (
   (Dp ((at' .expr w1.l v1),q1)).bind fun x3 =>
   rec (v,(wr .i64 (v1+1)),x3,w1))
  cond (decide (0<v1)) (
  (Ak ([[44,32]],w)).bind fun x2 =>
   j x2) (
  j w)) (
  kx (.exit 0) (v,v1,w,w1))
def Oo(R:Type) (_k:Nat):Px R:=pxO [(40,Ai Dz Ec Dp)] [] [] []
noncomputable def V5 (R:Type) (k:Nat):Px R:=pxO [(49,Ai Bq Br Ak),(106,As 120 600 (Oo R k) Tryz.f106)] [] [(1,Ao k X1 (Hz))] []
def O1(R:Type) (_k:Nat):Px R:=pxO [(49,Ai Bq Br Ak)] [] [] []
noncomputable def Wg (R:Type) (k:Nat):Px R:=pxO [(49,Ai Bq Br Ak),(107,As 120 800 (O1 R k) Tryz.f107)] [] [(1,Ao k Xu (Fg))] []
noncomputable def Ahr (R:Type) (k:Nat):Px R:=pxO [(49,Ai Bq Br Ak),(55,Ai P1 Q7 F6),(51,Rs 80 400 (V5 R k) Tryz.f51 (As 80 600 (Wg R k) Tryz.f51))] [(98,qA X9)] [] []
def Mk(k:Nat) (x:Ak1):Option (Ej):=match x with
 |(s,out) =>
 (Ak ([[83,69,76,69,67,84,32]],out)).bind fun x =>
  let j3:=fun(q:List UInt8) =>
  Al (fun rec=>Hz rec (fun e vz=>match vz with|(_,_,v4,v5)=>match e with
   |.exit 0 =>
   (Ak ([[32,70,82,79,77,32],v5.name],v4)).bind fun x4 =>
    (F6 (v5,x4)).bind fun x5 =>
    let j2:=fun(q2:List UInt8) =>
     Al (fun rec=>Fg rec (fun e vz=>match vz with|(_,_,v10,v11)=>match e with
     |.exit 0 =>
      cond (decide (0≤v11.most)) (
      (Ak ([[32,76,73,77,73,84,32],(Dm (Val.mk 3 v11.most []))],v10)).bind fun x10 =>
       some x10) (
      some v10)
     |_=>none)) k ((v5.order.length:Int),0,q2,v5)
    cond (decide (0<(v5.order.length:Int))) (
     (Ak ([[32,79,82,68,69,82,32,66,89,32]],x5)).bind fun x6 =>
     j2 x6) (
     j2 x5)
   |_=>none)) k ((s.l.length:Int),0,q,s)
  cond (decide ((s.l.length:Int)=0)) (
  (Ak ([[42]],x)).bind fun x1 =>
   j3 x1) (
  j3 x)
theorem Aoi(k:Nat):FM 56 Ux Ug (Mk k):=fRL (px:=Ahr _ k) (n:=0) Tryz.func56 rfl (fun cx H=>by
 have h2:Lv cx (Oo (Ej) k):=lv H (l1 H Lt Ae) Aa Ab
 have h1:Lv cx (V5 (Ej) k):=lv H (l1 H B3 (An (cR H h2 Tryz.func106 rfl (n:=0) (Aj)) Ae)) Aa Ab
 have hlwchosen_0:=lO H h1 (b:=lp Tryz.f51 0) (k:=k) (n:=0) (s:=X1) (step:=Hz) (fun _ _ _ (_,_,_,_)=>by kernel_rfl) Aj
 have h4:Lv cx (O1 (Ej) k):=lv H (l1 H B3 Ae) Aa Ab
 have h3:Lv cx (Wg (Ej) k):=lv H (l1 H B3 (An (cR H h4 Tryz.func107 rfl (n:=0) (Aj)) Ae)) Aa Ab
 have hlwchosen_1:=lO H h3 (b:=lp Tryz.f51 0) (k:=k) (n:=0) (s:=Xu) (step:=Fg) (fun _ _ _ (_,_,_,_)=>by kernel_rfl) Aj
 have h0:Lv cx (Ahr (Ej) k):=lv H (l1 H B3 (l1 H Aj4 (An (Ao6 (cR H h1 Tryz.func51 rfl (n:=1) ((Bf Aj hlwchosen_0))) (cR H h3 Tryz.func51 rfl (n:=1) ((Bf Aj hlwchosen_1)))) Ae))) (q1 H Ali Aa) Ab
 exact⟨h0,Aj⟩) fun(_,_)=>by kernel_rfl
def Bbr(s:Stm) (out:Str):Option Str:=cond (okS s) (app out (Ass s)) none
def Ri:Ak1→Option Ej:=fun x=>Bbr x.1 x.2
theorem Afu{R:Type}{b:Bool}{out t:Str}{c:Str→Option R}(ho:out.length≤100000000000):cond b ((app out t).bind c) (c out)=(app out (cond b t [])).bind c:=by
 cases b with
 |true=>rfl
 |false=>rw [Ah,Ah,Adh ho];rfl
theorem A0t(k:Nat) (s:Stm) (out:Str) (hb:BdStm s) (h:okS s=true) (hk:Jc s≤k):Mk k (s,out)=app out (Ass s):=by
 simp only [okS,Zb1,Zg1] at h
 obtain⟨⟨h1,h2⟩,h3⟩:=h
 simp only [Jc] at hk
 have hl:=Zg2.1 h1
 have hz:(s.order.zip s.desc).length=s.order.length:=by rw [List.length_zip];omega
 have hend:∀x:Str,x.length≤100000000000→cond (decide (0≤s.most)) (app x ([32,76,73,77,73,84,32]++Dm ⟨3,s.most,[]⟩)) (some x)=app x (A24 s):=fun x hx=>by
  simp only [A24]
  cases decide (0≤s.most) with
  |true=>rfl
  |false=>rw [Ah,Ah,Adh hx]
 have hord:∀(kx:Ex→Jw→Option Ej),(∀acc,kx (.exit 0) ((s.order.length:Int),(s.order.length:Int),acc,s)=cond (decide (0≤s.most)) (app acc ([32,76,73,77,73,84,32]++Dm ⟨3,s.most,[]⟩)) (some acc))→∀x:Str,x.length≤100000000000 →
   Al (fun rec=>Fg rec kx) k ((s.order.length:Int),0,x,s)=(app x (Gl As6 (s.order.zip s.desc))).bind fun x=>app x (A24 s):=fun kx hkx x hx=>by
  refine(H7 (s.order.zip s.desc) As6 (fun i acc=>((s.order.length:Int),(i:Int),acc,s)) (fun acc=>cond (decide (0≤s.most)) (app acc ([32,76,73,77,73,84,32]++Dm ⟨3,s.most,[]⟩)) (some acc)) (fun i hi acc rec =>?_) (fun acc rec =>?_) k (by omega) x hx).trans (Cg hend)
  ·have hi1:i<s.order.length:=by omega
   have hi2:i<s.desc.length:=by omega
   have hg:(s.order.zip s.desc)[i]=(s.order[i],s.desc[i]):=by simp
   simp only [Fg,Fw hi1,Af,A4 hi1,A4 hi2,chk,A9 (c :=.str) hi1,A9 (c :=.bool) hi2,Az hi1 hb.order.1,ww,fl1,hg]
   have hitem:∀q:Str,((app q s.order[i]).bind fun x8=>cond s.desc[i] ((app x8 [32,68,69,83,67]).bind fun x9=>rec ((s.order.length:Int),((i+1:Nat):Int),x9,s)) (rec ((s.order.length:Int),((i+1:Nat):Int),x8,s)))=(app q (As6 (s.order[i],s.desc[i]))).bind fun x=>rec ((s.order.length:Int),((i+1:Nat):Int),x,s):=fun q=>by
    simp only [As6]
    rw [←Cd]
    exact Cg fun x hx=>Afu hx
   simp only [hitem]
   exact Ky i acc _ _
  ·rw [hz]
   simp only [Fg,Fx,Ah,hkx]
 simp only [Mk,ww,fl1,fl2]
 have hsel:∀(kx:Ex→Ja→Option Ej),(∀acc:Str,acc.length≤100000000000→kx (.exit 0) ((s.l.length:Int),(s.l.length:Int),acc,s)=app acc (([32,70,82,79,77,32]++s.name)++whT s++obT s++Gl As6 (s.order.zip s.desc)++A24 s))→∀x:Str,x.length≤100000000000 →
   Al (fun rec=>Hz rec kx) k ((s.l.length:Int),0,x,s)=app x (Gl etx s.l++(([32,70,82,79,77,32]++s.name)++whT s++obT s++Gl As6 (s.order.zip s.desc)++A24 s)):=fun kx hkx x hx=>by
  refine(H7 s.l etx (fun i acc=>((s.l.length:Int),(i:Int),acc,s)) (fun acc=>kx (.exit 0) ((s.l.length:Int),(s.l.length:Int),acc,s)) (fun i hi acc rec =>?_) (fun acc rec =>?_) k (by omega) x hx).trans ((Cg hkx).trans (F8 _ _ _))
  ·simp only [Hz,Fw hi,Af,A4 hi,chk,A9 (c :=.expr) hi,we (hl _ (List.getElem_mem hi)),Az hi hb.l.1,ww,fl1]
   exact Ky i acc _ _
  ·simp only [Hz,Fx,Ah]
 refine(Cg fun x hx=>(Afu hx).trans (Cg fun q hq=>hsel _ (fun acc ha =>?_) q hq)).trans ?_
 ·show((app acc ([32,70,82,79,77,32]++s.name)).bind fun x4=>(F6 (s,x4)).bind fun x5=>cond (decide (0<(s.order.length:Int))) ((app x5 [32,79,82,68,69,82,32,66,89,32]).bind fun x6=>Al (fun rec=>Fg rec _) k ((s.order.length:Int),0,x6,s)) (Al (fun rec=>Fg rec _) k ((s.order.length:Int),0,x5,s)))=_
  simp only [wh h2]
  rw [Cd]
  refine(Cg fun x5 hx5=>(Afu hx5).trans (Cg fun y hy=>hord _ (fun _ =>?_) y hy)).trans ?_
  ·simp only [F2,Dm]
  ·simp only [F8,obT,Zj1]
 ·simp only [F8,Ass,Zj1]
theorem Atd:FM 56 Ux Ug Ri :=.fin 0 Aoi fun(s,out) r hb hx=>⟨Jc s,by
 have hx:cond (okS s) (app out (Ass s)) none=some r:=hx
 cases ho:okS s with
 |false=>rw [ho] at hx;cases hx
 |true =>
  rw [ho] at hx
  exact(A0t (Jc s) s out hb.1 ho (Zn1 _)).trans hx⟩
theorem ws{s:Stm}(h:okS s=true) (out:Str):Ri (s,out)=app out (Ass s):=by
 show cond (okS s) _ _=_
 rw [h]
 rfl
def A9x(r:List Xpr):Str:=[40]++(Gl etx r++[41])
def Bdb(x:SetE):Str:=x.name++[32,61,32]++etx x.e
def N8(s:Stm):Str :=
 if s.kind=1 then N3 s
 else if s.kind=2 then [68,82,79,80,32,84,65,66,76,69,32]++s.name
 else if s.kind=3 then [67,82,69,65,84,69,32,73,78,68,69,88,32]++(s.name++([32,79,78,32]++(s.on++[32])))++nmT s.names
 else if s.kind=4 then [68,82,79,80,32,73,78,68,69,88,32]++s.name
 else if s.kind=5 then [73,78,83,69,82,84,32,73,78,84,79,32]++(s.name++[32,86,65,76,85,69,83,32])++Gl A9x s.rows
 else if s.kind=6 then [85,80,68,65,84,69,32]++(s.name++[32,83,69,84,32])++Gl Bdb s.sets++whT s
 else if s.kind=7 then [68,69,76,69,84,69,32,70,82,79,77,32]++s.name++whT s
 else Ass s
def okP(s:Stm):Bool :=
 if s.kind=1 then okT s
 else if s.kind=2∨s.kind=4 then true
 else if s.kind=3 then Amo s.names
 else if s.kind=5 then s.rows.all fun r=>r.all okx
 else if s.kind=6 then s.sets.all (fun x=>okx x.e)&&okW s
 else if s.kind=7 then okW s
 else decide (s.kind=8)&&okS s
def Ot:Sig:=⟨20,[(7,.int .i64),(8,.int .i64)],[(0,.ptr 1 0),(2,.fn 54 [.ptr 1 0,.ptr 0 0])],[(0,.one (.sv .stmt)),(1,.bld 82)],40,40,200,[],[]⟩
abbrev E9:=Int×Int×Stm×List UInt8
def I7{R:Type}(rec:E9→Option R) (kx:Ex→E9→Option R) (v:E9):Option R:=match v with
 |(v13,v14,w5,w6) =>
 cond (decide (v14<v13)) (
  let j2:=fun(q2:List UInt8) =>
  chk (inb v14 w5.sets.length) (
   (Ak ([((at' .set w5.sets v14).name),[32,61,32]],q2)).bind fun x14 =>
   chk (inb v14 w5.sets.length) (
    (Dp ((Nr ((at' .set w5.sets v14).e)),x14)).bind fun x15 =>
    rec (v13,(wr .i64 (v14+1)),w5,x15)))
  cond (decide (0<v14)) (
  (Ak ([[44,32]],w6)).bind fun x13 =>
   j2 x13) (
  j2 w6)) (
  kx (.exit 0) (v13,v14,w5,w6))
def Ab0:Sig:=⟨20,[(7,.int .i64),(8,.int .i64)],[(0,.ptr 1 0),(2,.fn 53 [.ptr 1 0,.ptr 0 0,.ptr 80 0])],[(0,.one (.sv .stmt)),(1,.bld 82),(80,.cells [.int .i64])],120,120,600,[],[]⟩
abbrev Ma:=Int×Int×Stm×List UInt8×Int
def I6{R:Type}(rec:Ma→Option R) (kx:Ex→Ma→Option R) (v:Ma):Option R:=match v with
 |(v2,v3,w2,w3,w4) =>
 cond (decide (v3<v2)) (
  let j:=fun(q1:List UInt8) =>
  chk (inb w4 w2.rows.length) (
   chk (inb v3 ((at' .exprs w2.rows w4).length)) (
   (Dp ((at' .expr (at' .exprs w2.rows w4) v3),q1)).bind fun x10 =>
    rec (v2,(wr .i64 (v3+1)),w2,x10,w4)))
  cond (decide (0<v3)) (
  (Ak ([[44,32]],w3)).bind fun x9 =>
   j x9) (
  j w3)) (
  kx (.exit 0) (v2,v3,w2,w3,w4))
def Oq:Sig:=⟨20,[(7,.int .i64),(8,.int .i64)],[(0,.ptr 1 0),(2,.fn 52 [.ptr 1 0,.ptr 0 0])],[(0,.one (.sv .stmt)),(1,.bld 82)],40,40,200,[],[]⟩
abbrev E8:=Int×Int×Stm×List UInt8
def Iz{R:Type}(k:Nat) (rec:E8→Option R) (kx:Ex→E8→Option R) (v:E8):Option R:=match v with
 |(v,v1,w,w1) =>
 cond (decide (v1<v)) (
  let j1:=fun(q:List UInt8) =>
  (Ak ([[40]],q)).bind fun x8 =>
   chk (inb v1 w.rows.length) (
   Al (fun rc=>I6 rc (fun e vz=>match vz with|(_,_,v6,v7,_)=>match e with
    |.exit 0 =>
    (Ak ([[41]],v7)).bind fun x11 =>
     rec (v,(wr .i64 (v1+1)),v6,x11)
    |_=>none)) k (((at' .exprs w.rows v1).length:Int),0,w,x8,v1))
  cond (decide (0<v1)) (
  (Ak ([[44,32]],w1)).bind fun x7 =>
   j1 x7) (
  j1 w1)) (
  kx (.exit 0) (v,v1,w,w1))
def J0(R:Type) (_k:Nat):Px R:=pxO [(40,Ai Dz Ec Dp)] [] [] []
noncomputable def Nl (R:Type) (k:Nat):Px R:=pxO [(49,Ai Bq Br Ak),(53,As 160 800 (J0 R k) Tryz.f53)] [] [(1,Ao k Ab0 (I6))] []
noncomputable def Tf (R:Type) (k:Nat):Px R:=pxO [(49,Ai Bq Br Ak),(51,As 120 600 (Nl R k) Tryz.f51)] [] [] []
def Sz(R:Type) (_k:Nat):Px R:=pxO [(49,Ai Bq Br Ak),(40,Ai Dz Ec Dp)] [] [] []
noncomputable def G8 (R:Type) (k:Nat):Px R:=pxO [(49,Ai Bq Br Ak),(52,As 80 400 (Tf R k) Tryz.f52),(54,As 80 400 (Sz R k) Tryz.f54)] [] [(1,Xd k Oq (Iz k) (Ao k Ot (I7)))] []
noncomputable def Alr (R:Type) (k:Nat):Px R:=pxO [(25,cA Vz),(48,Ai Zw Z7 Wd),(49,Ai Bq Br Ak),(50,Ai Sa R7 L3),(55,Ai P1 Q7 F6),(56,Ai Ux Ug Ri),(41,Ai bstr_si Adp F4),(51,As 40 200 (G8 R k) Tryz.f51)] [] [] []
theorem Aq7(R:Type) (k:Nat):∀(fr:List Fr) (rec:E8→Option R) (kx:Ex→E8→Option R) (v:E8),W1 (G8 R k) Oq (lp Tryz.f51 0) fr rec kx v=Iz k rec kx v
 |fr,rec,kx,(v,v1,w,w1)=>by kernel_rfl
theorem Ark(R:Type) (k:Nat):∀(fr:List Fr) (rec:E9→Option R) (kx:Ex→E9→Option R) (v:E9),W1 (G8 R k) Ot (lp Tryz.f51 0) fr rec kx v=I7 rec kx v
 |fr,rec,kx,(v13,v14,w5,w6)=>by kernel_rfl
def Jf(k:Nat) (x:HV [.sv .stmt]):Option (HV [.str,.int .i64]):=match x with
 |s =>
 (Ny s).bind fun x =>
  cond (!decide (x=0)) (
  some ([],x)) (
  cond (decide (s.kind=1)) (
   (Wd (s,[])).bind fun x1 =>
   (F4 x1).bind fun x21 =>
    some (x21,0)) (
   cond (decide (s.kind=2)) (
   (Ak ([[68,82,79,80,32,84,65,66,76,69,32],s.name],[])).bind fun x2 =>
    (F4 x2).bind fun x22 =>
    some (x22,0)) (
   cond (decide (s.kind=3)) (
    (Ak ([[67,82,69,65,84,69,32,73,78,68,69,88,32],s.name,[32,79,78,32],s.on,[32]],[])).bind fun x3 =>
    (L3 (s.names,x3)).bind fun x4 =>
     (F4 x4).bind fun x23 =>
     some (x23,0)) (
    cond (decide (s.kind=4)) (
    (Ak ([[68,82,79,80,32,73,78,68,69,88,32],s.name],[])).bind fun x5 =>
     (F4 x5).bind fun x24 =>
     some (x24,0)) (
    cond (decide (s.kind=5)) (
     (Ak ([[73,78,83,69,82,84,32,73,78,84,79,32],s.name,[32,86,65,76,85,69,83,32]],[])).bind fun x6 =>
     Al (fun rec=>Iz k rec (fun e vz=>match vz with|(_,_,_,v12)=>match e with
      |.exit 0 =>
      (F4 v12).bind fun x25 =>
       some (x25,0)
      |_=>none)) k ((s.rows.length:Int),0,s,x6)) (
     cond (decide (s.kind=6)) (
     (Ak ([[85,80,68,65,84,69,32],s.name,[32,83,69,84,32]],[])).bind fun x12 =>
      Al (fun rec=>I7 rec (fun e vz=>match vz with|(_,_,v17,v18)=>match e with
      |.exit 0 =>
       (F6 (v17,v18)).bind fun x16 =>
       (F4 x16).bind fun x26 =>
        some (x26,0)
      |_=>none)) k ((s.sets.length:Int),0,s,x12)) (
     cond (decide (s.kind=7)) (
      (Ak ([[68,69,76,69,84,69,32,70,82,79,77,32],s.name],[])).bind fun x17 =>
      (F6 (s,x17)).bind fun x18 =>
       (F4 x18).bind fun x27 =>
       some (x27,0)) (
      cond (decide (s.kind=8)) (
      (Ri (s,[])).bind fun x19 =>
       (F4 x19).bind fun x28 =>
       some (x28,0)) (
      (F4 []).bind fun x29 =>
       some (x29,0))))))))))
theorem Aut(k:Nat):FO 23 [.sv .stmt] [.str,.int .i64] (Jf k):=fR (px:=Alr _ k) (n:=0) Tryz.func23 rfl (fun cx H=>by
 have h4:Lv cx (J0 (HV [.str,.int .i64]) k):=lv H (l1 H Lt Ae) Aa Ab
 have h3:Lv cx (Nl (HV [.str,.int .i64]) k):=lv H (l1 H B3 (An (cR H h4 Tryz.func53 rfl (n:=0) (Aj)) Ae)) Aa Ab
 have hlaprint_1:=lO H h3 (b:=lp Tryz.f51 0) (k:=k) (n:=0) (s:=Ab0) (step:=I6) (fun _ _ _ (_,_,_,_,_)=>by kernel_rfl) Aj
 have h2:Lv cx (Tf (HV [.str,.int .i64]) k):=lv H (l1 H B3 (An (cR H h3 Tryz.func51 rfl (n:=1) ((Bf Aj hlaprint_1))) Ae)) Aa Ab
 have h5:Lv cx (Sz (HV [.str,.int .i64]) k):=lv H (l1 H B3 (l1 H Lt Ae)) Aa Ab
 have h1:Lv cx (G8 (HV [.str,.int .i64]) k):=lv H (l1 H B3 (An (cR H h2 Tryz.func52 rfl (n:=0) (Aj)) (An (cR H h5 Tryz.func54 rfl (n:=0) (Aj)) Ae))) Aa Ab
 have hlaprint_0:Ch cx (G8 (HV [.str,.int .i64]) k) (lp Tryz.f51 0):=Axi (fun _ _=>by kernel_rfl) (Zl (Oe h1.p h1.c h1.q (by rw [H.p];exact follows) (k:=k) (s:=Oq) (step:=Iz k) (by kernel_rfl) (Aq7 _ k) (Ls (n:=0) (by kernel_rfl) Aj)) (Oe h1.p h1.c h1.q (by rw [H.p];exact follows) (k:=k) (s:=Ot) (step:=I7) (by kernel_rfl) (Ark _ k) (Ls (n:=0) (by kernel_rfl) Aj)))
 have h0:Lv cx (Alr (HV [.str,.int .i64]) k):=lv H (c1 H Aiw (l1 H A0m (l1 H B3 (l1 H Ai4 (l1 H Aj4 (l1 H Atd (l1 H Aw2 (An (cR H h1 Tryz.func51 rfl (n:=1) ((Bf Aj hlaprint_0))) Ae)))))))) Aa Ab
 exact⟨h0,Aj⟩) fun _=>by kernel_rfl
def Amx(s:Stm):Option (Str×Int):=(Ny s).bind fun x=>cond (!decide (x=0)) (some ([],x)) (cond (okP s) ((app [] (N8 s)).bind fun t=>some (t,0)) none)
def Ao2:FT [.sv .stmt] [.str,.int .i64]:=fun x=>Amx x
theorem Ah7{R:Type}{kx:Ex→Ma→Option R}{s:Stm}{j:Nat}{c:Str→Option R}(hj:j<s.rows.length) (hn:ln s.rows[j].length) (hok:s.rows[j].all okx=true) (h2:∀acc,kx (.exit 0) ((s.rows[j].length:Int),(s.rows[j].length:Int),s,acc,(j:Int))=c acc) (k:Nat) (hk:s.rows[j].length<k) (out:Str) (ho:out.length≤100000000000) :
  Al (fun rec=>I6 rec kx) k ((s.rows[j].length:Int),0,s,out,(j:Int))=(app out (Gl etx s.rows[j])).bind c:=by
 have hl:=Zg2.1 hok
 refine H7 s.rows[j] etx (fun i acc=>((s.rows[j].length:Int),(i:Int),s,acc,(j:Int))) c (fun i hi acc rec =>?_) (fun acc rec =>?_) k hk out ho
 ·simp only [I6,Fw hi,Af,A4 hi,A4 hj,chk,A9 (c :=.exprs) hj,A9 (c :=.expr) hi,we (hl _ (List.getElem_mem hi)),Az hi hn,ww,fl1]
  exact Ky i acc _ _
 ·simp only [I6,Fx,Ah,h2]
theorem Ah5{R:Type}{kx:Ex→E8→Option R}{s:Stm}{c:Str→Option R}(hb:BdStm s) (hok:(s.rows.all fun r=>r.all okx)=true) (h2:∀acc,kx (.exit 0) ((s.rows.length:Int),(s.rows.length:Int),s,acc)=c acc) (k:Nat) (hk:Jc s≤k) (out:Str) (ho:out.length≤100000000000) :
  Al (fun rec=>Iz k rec kx) k ((s.rows.length:Int),0,s,out)=(app out (Gl A9x s.rows)).bind c:=by
 have hl:=Zg2.1 hok
 simp only [Jc] at hk
 refine H7 s.rows A9x (fun i acc=>((s.rows.length:Int),(i:Int),s,acc)) c (fun i hi acc rec =>?_) (fun acc rec =>?_) k (by omega) out ho
 ·have hm:=Awr (List.getElem_mem hi)
  have hrow:∀q:Str,((app q [40]).bind fun x8=>Al (fun rc=>I6 rc (fun e v=>match v with
    |(_,_,v6,v7,_)=>match e with
     |.exit 0=>(app v7 [41]).bind fun x11=>rec ((s.rows.length:Int),((i+1:Nat):Int),v6,x11)
     |_=>none)) k ((s.rows[i].length:Int),0,s,x8,(i:Int)))=(app q (A9x s.rows[i])).bind fun x=>rec ((s.rows.length:Int),((i+1:Nat):Int),s,x):=fun q=>by
   refine(Cg fun x hx=>Ah7 (c:=fun acc=>(app acc [41]).bind fun x11=>rec ((s.rows.length:Int),((i+1:Nat):Int),s,x11)) hi (hb.rows.2 _ (List.getElem_mem hi)).1 (hl _ (List.getElem_mem hi)) (fun _=>rfl) k (by omega) x hx).trans ?_
   simp only [Cd,A9x]
  simp only [Iz,Fw hi,Af,A4 hi,chk,A9 (c :=.exprs) hi,Az hi hb.rows.1,ww,fl1]
  refine Eq.trans ?_ (Ky i acc _ _)
  have e:∀(b:Bool) (x y x' y':Option R),x=x'→y=y'→cond b x y=cond b x' y':=fun _ _ _ _ _ h1 h2=>by rw [h1,h2]
  exact e _ _ _ _ _ (Cg fun x _=>hrow x) (hrow acc)
 ·simp only [Iz,Fx,Ah,h2]
theorem Aid{R:Type}{kx:Ex→E9→Option R}{s:Stm}{c:Str→Option R}(hb:BdStm s) (hok:(s.sets.all fun x=>okx x.e)=true) (h2:∀acc,kx (.exit 0) ((s.sets.length:Int),(s.sets.length:Int),s,acc)=c acc) (k:Nat) (hk:s.sets.length<k) (out:Str) (ho:out.length≤100000000000) :
  Al (fun rec=>I7 rec kx) k ((s.sets.length:Int),0,s,out)=(app out (Gl Bdb s.sets)).bind c:=by
 have hl:=Zg2.1 hok
 refine H7 s.sets Bdb (fun i acc=>((s.sets.length:Int),(i:Int),s,acc)) c (fun i hi acc rec =>?_) (fun acc rec =>?_) k hk out ho
 ·simp only [I7,Fw hi,Af,A4 hi,chk,A9 (c :=.set) hi,R9,we (hl _ (List.getElem_mem hi)),Az hi hb.sets.1,ww,fl1,fl2]
  have hitem:∀q:Str,((app q (s.sets[i].name++[32,61,32])).bind fun x14=>(app x14 (etx s.sets[i].e)).bind fun x15=>rec ((s.sets.length:Int),((i+1:Nat):Int),s,x15))=(app q (Bdb s.sets[i])).bind fun x=>rec ((s.sets.length:Int),((i+1:Nat):Int),s,x):=fun q=>by
   rw [Cd]
   rfl
  simp only [hitem]
  exact Ky i acc _ _
 ·simp only [I7,Fx,Ah,h2]
theorem bs(x:Str):((F4 x).bind fun t=>some (t,(0:Int)))=some (x,0):=rfl
theorem A4o(k:Nat) (s:Stm) (hb:BdStm s) (hk:Jc s≤k) (h:okP s=true) (hc:Ny s=some 0):Jf k s=((app [] (N8 s)).bind fun t=>some (t,0)):=by
 have hk2:=hk
 simp only [Jc] at hk2
 simp only [Jf,hc,Zc1,bs,ww,fl2,fl3,fl5]
 simp only [okP] at h
 simp only [N8]
 rw [decide_true,Zt1,Ah]
 by_cases h1:s.kind=1
 ·rw [if_pos h1] at h
  rw [Ze1 h1,if_pos h1,Af,wt h]
 rw [if_neg h1] at h
 rw [Zd1 h1,if_neg h1,Ah]
 by_cases h2:s.kind=2
 ·rw [Ze1 h2,if_pos h2,Af]
 rw [Zd1 h2,if_neg h2,Ah]
 by_cases h3:s.kind=3
 ·rw [if_neg (by omega),if_pos h3] at h
  rw [Ze1 h3,if_pos h3,Af]
  simp only [wn h,Cd]
 rw [Zd1 h3,if_neg h3,Ah]
 by_cases h4:s.kind=4
 ·rw [Ze1 h4,if_pos h4,Af]
 rw [if_neg (by omega),if_neg h3] at h
 rw [Zd1 h4,if_neg h4,Ah]
 by_cases h5:s.kind=5
 ·rw [if_pos h5] at h
  rw [Ze1 h5,if_pos h5,Af]
  refine(Cg fun x hx=>Ah5 (c:=fun t=>some (t,(0:Int))) hb h (fun _=>rfl) k hk x hx).trans ?_
  rw [Cd]
 rw [if_neg h5] at h
 rw [Zd1 h5,if_neg h5,Ah]
 by_cases h6:s.kind=6
 ·rw [if_pos h6,Zb1] at h
  rw [Ze1 h6,if_pos h6,Af]
  refine(Cg fun x hx=>Aid (c:=fun t=>(app t (whT s)).bind fun t=>some (t,(0:Int))) hb h.1 (fun acc =>?_) k (by omega) x hx).trans ?_
  ·show((F6 (s,acc)).bind fun x16=>some (x16,(0:Int)))=_
   rw [wh h.2]
  ·simp only [Cd,Zj1]
 rw [if_neg h6] at h
 rw [Zd1 h6,if_neg h6,Ah]
 by_cases h7:s.kind=7
 ·rw [if_pos h7] at h
  rw [Ze1 h7,if_pos h7,Af]
  simp only [wh h,Cd]
 rw [if_neg h7,Zb1,Zg1] at h
 rw [Zd1 h7,if_neg h7,Ah,Ze1 h.1,Af,ws h.2]
theorem A1v:FO 23 [.sv .stmt] [.str,.int .i64] Ao2 :=.fin 0 Aut fun s r hb hx=>⟨Jc s,by
 have hx:Amx s=some r:=hx
 simp only [Amx] at hx
 cases hc:Ny s with
 |none=>rw [hc] at hx;cases hx
 |some x =>
  rw [hc,Zc1] at hx
  by_cases h0:x=0
  ·subst h0
   cases ho:okP s with
   |false=>rw [ho] at hx;cases hx
   |true =>
    rw [ho] at hx
    exact(A4o (Jc s) s hb (Zn1 _) ho hc).trans hx
  ·rw [Zd1 h0] at hx
   rw [←hx]
   simp only [Jf,hc,Zc1]
   rw [Zd1 h0]
   rfl⟩
end Go.Proofs.YthndhaolemgbdaaGreatDoor
namespace Go.Proofs.YthndhaolemgbdaaGreatDoor
open Go.Ax
def Afj(R:Type):Px R:=pxO [(116,cA Anw)] [] [] []
noncomputable def Aq0 (R:Type):Px R:=pxO [(85,Ai Xm We Amc),(86,Ai Vp Xt G2),(25,cA Vz),(84,As 40 200 (Afj R) Tryz.f84)] [] [] []
def Ahx(x:HV [.str]):Option (HV [.sv .stmt,.int .i64,.int .i64]):=match x with
 |s =>
 cond (!decide ((Dy s).2.2=0)) (
  some ((Stm.mk 0 [] [] [] [] [] [] [] false (Xpr.mk 0 ⟨0,0,[]⟩ [] []) [] [] 0),(Dy s).2.1,(Dy s).2.2)) (
  (Amc ((Dy s).1,(s.length:Int),false,0)).bind fun(x,x1,x2,x3,x4) =>
  (G2 (x1,x2,x3,x4)).bind fun(x5,_,_,_,x9) =>
   cond (!x5) (
   some ((Stm.mk 0 [] [] [] [] [] [] [] false (Xpr.mk 0 ⟨0,0,[]⟩ [] []) [] [] 0),x9,11)) (
   (Ny x).bind fun x10 =>
    cond (!decide (x10=0)) (
    some ((Stm.mk 0 [] [] [] [] [] [] [] false (Xpr.mk 0 ⟨0,0,[]⟩ [] []) [] [] 0),0,x10)) (
    some (x,0,0))))
theorem Azk:FO 30 [.str] [.sv .stmt,.int .i64,.int .i64] (Ahx):=fR (px:=Aq0 _) (n:=0) Tryz.func30 rfl (fun cx H=>by
 have h1:Lv cx (Afj (HV [.sv .stmt,.int .i64,.int .i64])):=lv H (c1 H Awc Ae) Aa Ab
 have h0:Lv cx (Aq0 (HV [.sv .stmt,.int .i64,.int .i64])):=lv H (l1 H A9p (l1 H Ar7 (c1 H Aiw (An (cR H h1 Tryz.func84 rfl (n:=0) (Aj)) Ae)))) Aa Ab
 exact⟨h0,Aj⟩) fun _=>by kernel_rfl
def A7p(s:Str):Option (Stm×Int×Int):=Ahx s
def An7:FT [.str] [.sv .stmt,.int .i64,.int .i64]:=fun x=>A7p x
theorem Ar1:FO 30 [.str] [.sv .stmt,.int .i64,.int .i64] An7 :=.fin0 Azk fun _ _ _ hx=>hx
def Ad0(R:Type):Px R:=pxO [(116,cA Anw)] [] [] []
noncomputable def Apk (R:Type):Px R:=pxO [(90,Ai B5 B4 Jq),(86,Ai Vp Xt G2),(18,cA Aw9),(84,As 40 200 (Ad0 R) Tryz.f84)] [] [] []
def Uk(x:HV [.str]):Option (HV [.sv .expr,.int .i64,.int .i64]):=match x with
 |s =>
 cond (!decide ((Dy s).2.2=0)) (
  some ((Xpr.mk 0 ⟨0,0,[]⟩ [] []),(Dy s).2.1,(Dy s).2.2)) (
  (Jq ((Dy s).1,(s.length:Int),false,0)).bind fun(x,x1,x2,x3,x4) =>
  (G2 (x1,x2,x3,x4)).bind fun(x5,_,_,_,x9) =>
   cond (!x5) (
   some ((Xpr.mk 0 ⟨0,0,[]⟩ [] []),x9,11)) (
   cond (!decide ((Tb x)=0)) (
    some ((Xpr.mk 0 ⟨0,0,[]⟩ [] []),0,(Tb x))) (
    some (x,0,0))))
theorem A3i:FO 32 [.str] [.sv .expr,.int .i64,.int .i64] (Uk):=fR (px:=Apk _) (n:=0) Tryz.func32 rfl (fun cx H=>by
 have h1:Lv cx (Ad0 (HV [.sv .expr,.int .i64,.int .i64])):=lv H (c1 H Awc Ae) Aa Ab
 have h0:Lv cx (Apk (HV [.sv .expr,.int .i64,.int .i64])):=lv H (l1 H Ag0 (l1 H Ar7 (c1 H A6p (An (cR H h1 Tryz.func84 rfl (n:=0) (Aj)) Ae)))) Aa Ab
 exact⟨h0,Aj⟩) fun _=>by kernel_rfl
def V6(s:Str):Option (Xpr×Int×Int):=Uk s
def Ani:FT [.str] [.sv .expr,.int .i64,.int .i64]:=fun x=>V6 x
theorem Aox:FO 32 [.str] [.sv .expr,.int .i64,.int .i64] Ani :=.fin0 A3i fun _ _ _ hx=>hx
def A3q(R:Type):Px R:=pxO [(30,cA An7),(23,cA Ao2)] [] [] []
def Aa1(x:HV [.str]):Option (HV [.str,.int .i64,.int .i64]):=match x with
 |s =>
 (A7p s).bind fun(x,x1,x2) =>
  cond (!decide (x2=0)) (
  some ([],x1,x2)) (
  (Amx x).bind fun(x3,x4) =>
   some (x3,0,x4))
theorem At3:FO 34 [.str] [.str,.int .i64,.int .i64] (Aa1):=fR (px:=A3q _) (n:=0) Tryz.func34 rfl (fun _ H=>⟨lv H (c1 H Ar1 (c1 H A1v Ae)) Aa Ab,Aj⟩) fun _=>by kernel_rfl
def A6v(s:Str):Option (Str×Int×Int):=Aa1 s
def Ar6:FT [.str] [.str,.int .i64,.int .i64]:=fun x=>A6v x
theorem A0x:FO 34 [.str] [.str,.int .i64,.int .i64] Ar6 :=.fin0 At3 fun _ _ _ hx=>hx
def Ave(R:Type):Px R:=pxO [(34,cA Ar6),(30,cA An7),(32,cA Ani),(14,cA Awd)] [] [] []
def X2(x:HV []):Option (HV [.bool]):=match x with
 |() =>
 (A6v [83,69,76,69,67,84,32,97,43,98,42,50,32,70,82,79,77,32,116,32,87,72,69,82,69,32,78,79,84,32,97,61,49,32,79,82,32,98,32,73,83,32,78,79,84,32,78,85,76,76]).bind fun(x,x1,x2) =>
  (A7p [83,69,76,69,67,84,32,97,32,70,82,79,77]).bind fun(_,x4,x5) =>
  (V6 [97,45,98,45,49]).bind fun(x6,_,x8) =>
   (Ard x6).bind fun(x9,_) =>
   let j3:=fun(p:Bool) =>
    let j2:=fun(p1:Bool) =>
    let j1:=fun(p2:Bool) =>
     let j:=fun(p3:Bool) =>
     cond (p3) (
      cond (decide (x8=0)) (
      some (decide (x9=[40,40,97,32,45,32,98,41,32,45,32,49,41]))) (
      some false)) (
      some false)
     cond (p2) (
     j (decide (x5=11))) (
     j false)
    cond (p1) (
     j1 (decide (x4=13))) (
     j1 false)
    cond (p) (
    j2 (decide (x2=0))) (
    j2 false)
   cond (decide (x=[83,69,76,69,67,84,32,40,97,32,43,32,40,98,32,42,32,50,41,41,32,70,82,79,77,32,116,32,87,72,69,82,69,32,40,40,78,79,84,32,40,97,32,61,32,49,41,41,32,79,82,32,40,78,79,84,32,40,98,32,73,83,32,78,85,76,76,41,41,41])) (
    j3 (decide (x1=0))) (
    j3 false)
theorem Ary:FO 29 [] [.bool] (X2):=fR (px:=Ave _) (n:=0) Tryz.func29 rfl (fun _ H=>⟨lv H (c1 H A0x (c1 H Ar1 (c1 H Aox (c1 H A65 Ae)))) Aa Ab,Aj⟩) fun()=>by kernel_rfl
def Adg:Option Bool:=X2 ()
def Ajf:FT [] [.bool]:=fun _=>Adg
theorem Atk:FO 29 [] [.bool] Ajf :=.fin0 Ary fun _ _ _ hx=>hx
end Go.Proofs.YthndhaolemgbdaaGreatDoor
namespace Go.Proofs.YthndhaolemgbdaaGreatDoor
open Go.Ax
def Aaj:Sig:=⟨88,[(2,.int .i64),(5,.int .i64)],[(1,.ptr 0 0)],[(0,.one (.sv .val))],1,0,0,[],[]⟩
abbrev I4:=Int×Int×Val
def Fy{R:Type}(rec:I4→Option R) (kx:Ex→I4→Option R) (v:I4):Option R:=match v with
 |(v1,v2,w) =>
 cond (decide (v2<(w.s.length:Int))) (
  cond (decide (w.kind=4)) (
  chk (inb v2 w.s.length) (
   cond (decide ((bat w.s v2)<32)) (
   kx .ret (2,v2,w)) (
   chk (inb v2 w.s.length) (
    cond (decide (127≤(bat w.s v2))) (
    kx .ret (2,v2,w)) (
    rec (v1,(wr .i64 (v2+1)),w)))))) (
  kx (.exit 0) (v1,v2,w))) (
  kx (.exit 0) (v1,v2,w))
def Aka(R:Type) (k:Nat):Px R:=pxO [] [] [(6,Ao k Aaj (Fy))] []
def Ab1(k:Nat) (x:HV [.sv .val]):Option (HV [.int .i64]):=match x with
 |v =>
 let j4:=fun(p4:Bool) =>
  let j3:=fun(p6:Bool) =>
  let j2:=fun(_:Unit) =>
   Al (fun rec=>Fy rec (fun e vz=>match vz with|(v3,_,_)=>match e with
   |.ret =>
    some v3
   |.exit 0 =>
    some 0
   |_=>none)) k (0,0,v)
  let j1:=fun(p7:Bool) =>
   let j:=fun(p9:Bool) =>
   cond (p9) (
    some 2) (
    cond (!p6) (
    cond (!decide (v.s=[])) (
     some 2) (
     cond (decide (1000<(v.s.length:Int))) (
     some 2) (
     j2 ()))) (
    cond (decide (1000<(v.s.length:Int))) (
     some 2) (
     j2 ())))
   cond (p7) (
   j true) (
   cond (!p4) (
    j (!decide (v.n=0))) (
    j false))
  cond (decide (v.kind<1)) (
   j1 true) (
   j1 (decide (5<v.kind)))
  cond (decide (v.kind=4)) (
  j3 true) (
  j3 (decide (v.kind=5)))
 cond (decide (v.kind=2)) (
  cond (decide (v.n=0)) (
  j4 true) (
  cond (decide (v.n=1)) (
   j4 true) (
   j4 (decide (v.kind=3))))) (
  j4 (decide (v.kind=3)))
theorem Au7(k:Nat):FO 101 [.sv .val] [.int .i64] (Ab1 k):=fR (px:=Aka _ k) (n:=1) Tryz.func101 rfl (fun cx H=>by
 have h0:Lv cx (Aka (HV [.int .i64]) k):=lv H Ae Aa Ab
 have hlrcheck_0:=lO H h0 (b:=lp Tryz.f101 0) (k:=k) (n:=0) (s:=Aaj) (step:=Fy) (fun _ _ _ (_,_,_)=>by kernel_rfl) Aj
 exact⟨h0,(Bf Aj hlrcheck_0)⟩) fun _=>by kernel_rfl
abbrev Aem (v:Val):Int:=Em v
def Xg:FT [.sv .val] [.int .i64]:=fun x=>some (Aem x)
theorem Aal{R:Type}{kx:Ex→I4→Option R}{v:Val}{a b:Option R}(hn:ln v.s.length) (h4:v.kind=4) (h1:∀j,kx .ret (2,j,v)=a) (h2:∀q j,kx (.exit 0) (q,j,v)=b):∀(k i:Nat) q,i≤v.s.length→v.s.length-i<k→Al (fun rec=>Fy rec kx) k (q,(i:Int),v)=cond ((v.s.drop i).all vis) b a
 |0,i,q,_,h=>by omega
 |k+1,i,q,hi,h=>by
  rw [A3]
  by_cases hl:i<v.s.length
  ·have ih:=Aal hn h4 h1 h2 k (i+1) q (by omega) (by omega)
   simp only [Fy,Az hl hn,ih,h1,Am hl,Bz hl,A4 hl,Zv1,chk,Af,Bool.cond_decide]
   rw [if_pos (by omega),if_pos h4]
   simp only [vis]
   split
   ·rw [Zd1 (by omega)];rfl
   ·split
    ·rw [Ze1 (by omega),Zd1 (by omega)];rfl
    ·rw [Ze1 (by omega),Ze1 (by omega)];rfl
  ·simp only [Fy,h2,Bool.cond_decide]
   rw [if_neg (by omega),Zk1 (by omega)]
   rfl
theorem Az0{R:Type}{kx:Ex→I4→Option R}{v:Val}{b:Option R}(h4:¬v.kind=4) (h2:kx (.exit 0) (0,0,v)=b) (k:Nat):Al (fun rec=>Fy rec kx) (k+1) (0,0,v)=b:=by
 rw [A3]
 simp only [Fy,h2,Bool.cond_decide,if_neg h4]
 split<;>rfl
theorem Alo:FO 101 [.sv .val] [.int .i64] Xg :=.fin 0 Au7 fun v r hb hx=>⟨v.s.length+1,by
 simp only [Xg,Za1] at hx
 subst hx
 have e0:((0:Nat):Int)=0:=rfl
 have hloop:Al (fun rec=>Fy rec (fun e v=>match v with|(v2,_,_)=>match e with
   |.ret=>some v2
   |.exit 0=>some 0
   |_=>none)) (v.s.length+1) (0,0,v)=cond (decide (v.kind=4) && !Eg v.s) (some (2:Int)) (some 0):=by
  by_cases h4:v.kind=4
  ·have:=Aal (a:=some (2:Int)) (b:=some 0) hb.2.2 h4 (kx:=fun e v=>match v with|(v2,_,_)=>match e with
    |.ret=>some v2
    |.exit 0=>some 0
    |_=>none) (fun _=>rfl) (fun _ _=>rfl) (v.s.length+1) 0 0 (Nat.zero_le _) (by omega)
   rw [e0] at this
   rw [this,Ze1 h4,Zq1,Eg]
   cases v.s.all vis<;>rfl
  ·rw [Az0 (b:=some 0) h4 rfl,Zd1 h4]
   rfl
 simp only [Ab1] at hloop ⊢
 rw [hloop]
 have hlen:v.s=[]→¬(1000<(v.s.length:Int)):=fun h=>by rw [h];simp
 have hle:decide ((v.s.length:Int)≤1000) = !decide (1000<(v.s.length:Int)):=by
  by_cases h : 1000<(v.s.length:Int)
  ·rw [Ze1 h,Zd1 (by omega)];rfl
  ·rw [Zd1 h,Ze1 (by omega)];rfl
 have hs:decide (v.s=[])=true→decide (1000<(v.s.length:Int))=false:=fun h=>Zd1 (hlen (of_decide_eq_true h))
 simp only [Em,Dv,hle]
 generalize decide (1000<(v.s.length:Int))=q at *
 generalize decide (v.s=[])=s at *
 generalize Eg v.s=w at *
 by_cases hk:v.kind=1
 ·simp only [hk];cases decide (v.n=0)<;>cases s<;>simp_all
 by_cases hk2:v.kind=2
 ·simp only [hk2];cases decide (v.n=0)<;>cases decide (v.n=1)<;>cases s<;>simp_all
 by_cases hk3:v.kind=3
 ·simp only [hk3];cases decide (v.n=0)<;>cases decide (v.n=1)<;>cases s<;>simp_all
 by_cases hk4:v.kind=4
 ·simp only [hk4];cases decide (v.n=0)<;>cases w<;>cases q<;>simp_all
 by_cases hk5:v.kind=5
 ·simp only [hk5];cases decide (v.n=0)<;>cases q<;>simp_all
 rw [Zd1 hk,Zd1 hk2,Zd1 hk3,Zd1 hk4,Zd1 hk5]
 by_cases hl:v.kind<1
 ·rw [Ze1 hl];rfl
 ·rw [Zd1 hl,Ze1 (show 5<v.kind by omega)];rfl⟩
end Go.Proofs.YthndhaolemgbdaaGreatDoor
namespace Go.Proofs.YthndhaolemgbdaaGreatDoor
open Go.Ax
def Aa2:Sig:=⟨58,[(0,.int .u8),(2,.int .i64),(3,.str),(4,.int .i64)],[],[],0,0,0,[],[]⟩
abbrev Ud:=Int×Int×Str×Int
def Agw{R:Type}(rec:Ud→Option R) (kx:Ex→Ud→Option R) (v:Ud):Option R:=match v with
 |(v,v1,v2,v3) =>
 cond (decide (v3<(v2.length:Int))) (
  chk (inb v3 v2.length) (
  cond (decide ((bat v2 v3)=v)) (
   kx .ret (v,7,v2,v3)) (
   rec (v,v1,v2,(wr .i64 (v3+1)))))) (
  kx (.exit 1) (v,v1,v2,v3))
def Aji(R:Type) (k:Nat):Px R:=pxO [] [] [(15,Ao k Aa2 (Agw))] []
def Aas(k:Nat) (x:HV [.int .u8]):Option (HV [.int .i64]):=match x with
 |c =>
 let j3:Bool→Option (HV [.int .i64]):=fun(p1:Bool) =>
  cond (p1) (
  some 1) (
  let j2:Bool→Option (HV [.int .i64]):=fun(p3:Bool) =>
   cond (p3) (
   some 2) (
   let j1:Bool→Option (HV [.int .i64]):=fun(p5:Bool) =>
    cond (p5) (
    some 3) (
    cond (decide (c=95)) (
     some 4) (
     cond (decide (c=39)) (
     some 5) (
     let j:Bool→Option (HV [.int .i64]):=fun(p6:Bool) =>
      cond (p6) (
      some 6) (
      cond (decide (c=10)) (
       some 6) (
       cond (decide (c=13)) (
       some 6) (
       Al (fun rec=>Agw rec (fun e vz=>match vz with|(_,v5,_,_)=>match e with
        |.ret =>
        some v5
        |.exit 1 =>
        some 0
        |_=>none)) k (c,0,[40,41,44,42,61,60,62,43,45,59],0))))
     cond (decide (c=32)) (
      j true) (
      j (decide (c=9))))))
   cond (decide (48≤c)) (
    j1 (decide (c≤57))) (
    j1 false))
  cond (decide (97≤c)) (
   j2 (decide (c≤122))) (
   j2 false))
 cond (decide (65≤c)) (
  j3 (decide (c≤90))) (
  j3 false)
theorem Ath(k:Nat):FO 92 [.int .u8] [.int .i64] (Aas k):=fR (px:=Aji _ k) (n:=1) Tryz.func92 rfl (fun cx H=>by
 have h0:Lv cx (Aji (HV [.int .i64]) k):=lv H Ae Aa Ab
 have hlrclass_0:=lO H h0 (b:=lp Tryz.f92 0) (k:=k) (n:=0) (s:=Aa2) (step:=Agw) (fun _ _ _ (_,_,_,_)=>by kernel_rfl) Aj
 exact⟨h0,(Bf Aj hlrclass_0)⟩) fun _=>by kernel_rfl
def Bn(c:Int):Int:=Lp.clsF c
def Im:FT [.int .u8] [.int .i64]:=fun x=>some (Bn x)
theorem Auk:((List.range 256).all fun n=>decide (Aas 11 (n:Int)=some (Lp.clsF (n:Int))))=true:=by kernel_rfl
theorem Kf:FO 92 [.int .u8] [.int .i64] Im :=.fin 0 Ath fun(c:Int) r hb hx=>⟨11,by
 simp only [Im,Za1] at hx
 have h : 0≤c∧c≤255:=by
  have h0:inK .u8 c:=hb
  simp only [inK,IntKind.min,IntKind.max] at h0
  exact⟨h0.1,h0.2⟩
 obtain⟨n,rfl⟩:∃n:Nat,c=(n:Int):=⟨c.toNat,by omega⟩
 have h2:=Zg2.1 Auk n (List.mem_range.2 (by omega))
 exact(of_decide_eq_true h2).trans (congrArg some hx)⟩
def Ae7:Sig:=⟨37,[(0,.str),(2,.bool),(3,.int .i64)],[],[],0,0,0,[],[]⟩
abbrev P2:=Str×Bool×Int
def Py{R:Type}(rec:P2→Option R) (kx:Ex→P2→Option R) (v:P2):Option R:=match v with
 |(v,v1,v2) =>
 cond (decide (v2<(v.length:Int))) (
  chk (inb v2 v.length) (
  cond (!decide ((Bn (bat v v2))=2)) (
   cond (decide (v2=0)) (
   kx .ret (v,false,v2)) (
   cond (!decide ((Bn (bat v v2))=3)) (
    cond (!decide ((Bn (bat v v2))=4)) (
    kx .ret (v,false,v2)) (
    rec (v,v1,(wr .i64 (v2+1))))) (
    rec (v,v1,(wr .i64 (v2+1)))))) (
   rec (v,v1,(wr .i64 (v2+1)))))) (
  kx (.exit 0) (v,v1,v2))
def Asg(R:Type) (k:Nat):Px R:=pxO [(92,cA Im)] [] [(2,Ao k Ae7 (Py))] []
def Ae0(k:Nat) (x:HV [.str]):Option (HV [.bool]):=match x with
 |s =>
 Al (fun rec=>Py rec (fun e vz=>match vz with|(v3,v4,_)=>match e with
  |.ret =>
  some v4
  |.exit 0 =>
  cond (decide (1≤(v3.length:Int))) (
   some (decide ((v3.length:Int)≤30))) (
   some false)
  |_=>none)) k (s,false,0)
theorem A0l(k:Nat):FO 72 [.str] [.bool] (Ae0 k):=fR (px:=Asg _ k) (n:=1) Tryz.func72 rfl (fun cx H=>by
 have h0:Lv cx (Asg (HV [.bool]) k):=lv H (c1 H Kf Ae) Aa Ab
 have hlrname_0:=lO H h0 (b:=lp Tryz.f72 0) (k:=k) (n:=0) (s:=Ae7) (step:=Py) (fun _ _ _ (_,_,_)=>by kernel_rfl) Aj
 exact⟨h0,(Bf Aj hlrname_0)⟩) fun _=>by kernel_rfl
def Agp(s:Str):Bool:=Lp.rnameF s
def Ada:FT [.str] [.bool]:=fun x=>some (Agp x)
theorem Ahk{R:Type}{kx:Ex→P2→Option R}{s:Str}{c:Bool→Option R}(hn:ln s.length) (h1:∀j,kx .ret (s,false,j)=c false) (h2:∀q j,kx (.exit 0) (s,q,j)=c true):∀(k i:Nat) q,i≤s.length→s.length-i<k→Al (fun rec=>Py rec kx) k (s,q,(i:Int))=c (Lp.okGo (s.drop i) i)
 |0,i,q,_,h=>absurd h (Zm1 _)
 |k+1,i,q,hi,h=>by
  rw [A3]
  by_cases hl:i<s.length
  ·have ih:=Ahk hn h1 h2 k (i+1) q (by omega) (by omega)
   have en:((i+1:Nat):Int)=(i:Int)+1:=by omega
   simp only [Py,Az hl hn,ih,h1,Am hl,Bz hl,A4 hl,chk,Af,Bn,Lp.okGo,Lp.nmOk]
   rw [Ze1 (show(i:Int)<(s.length:Int) by omega),en]
   cases decide (Lp.clsF (s[i].toNat:Int)=2)<;>cases decide ((i:Int)=0)<;>cases decide (Lp.clsF (s[i].toNat:Int)=3)<;>cases decide (Lp.clsF (s[i].toNat:Int)=4)<;>rfl
  ·simp only [Py,h2]
   rw [Zd1 (by omega),Zk1 (by omega)]
   rfl
theorem Ao3:FO 72 [.str] [.bool] Ada :=.fin 0 A0l fun s r hb hx=>⟨s.length+1,by
 simp only [Ada,Za1] at hx
 subst hx
 simp only [Ae0]
 refine(Ahk (s:=s) (c:=fun b=>cond b (cond (decide (1≤(s.length:Int))) (some (decide ((s.length:Int)≤30))) (some false)) (some false)) hb (fun _=>rfl) (fun _ _=>rfl) (s.length+1) 0 false (Nat.zero_le _) (by omega)).trans ?_
 rw [Zq1,Agp,Lp.rnameF]
 show cond (Lp.okGo s 0) _ _=_
 cases Lp.okGo s 0<;>cases decide (1≤(s.length:Int))<;>rfl⟩
theorem Aol(s:Str):Agp s=Dq s:=(Lp.name_eq s).symm
def A9d(R:Type):Px R:=pxO [] [] [] []
def Ahy(x:HV [.int .i64]):Option (HV [.str]):=match x with
 |kind =>
 cond (decide (kind<0)) (
  some []) (
  cond (decide (15≤kind)) (
  some []) (
  chk (inb kind 15) (
   some (at' .str [[],[],[],[],[65,78,68],[79,82],[61],[60,62],[60],[60,61],[62],[62,61],[43],[45],[42]] kind))))
theorem A2b:FO 36 [.int .i64] [.str] (Ahy):=fR (px:=A9d _) (n:=0) Tryz.func36 rfl (fun _ H=>⟨lv H Ae Aa Ab,Aj⟩) fun _=>by kernel_rfl
def Beu:List Str:=[[],[],[],[],[65,78,68],[79,82],[61],[60,62],[60],[60,61],[62],[62,61],[43],[45],[42]]
def Vu(k:Int):Str:=if k<0∨15≤k then [] else at' .str Beu k
def Ac6:FT [.int .i64] [.str]:=fun x=>some (Vu x)
theorem Asj:FO 36 [.int .i64] [.str] Ac6 :=.fin0 A2b fun(k:Int) r _ hx=>by
 simp only [Ac6,Za1] at hx
 subst hx
 simp only [Ahy,Vu]
 by_cases h1:k<0
 ·rw [Ze1 h1,if_pos (.inl h1)];rfl
 ·by_cases h2 : 15≤k
  ·rw [Zd1 h1,Ze1 h2,if_pos (.inr h2)];rfl
  ·rw [Zd1 h1,Zd1 h2,if_neg (by omega)]
   obtain⟨j,rfl⟩:∃j:Nat,k=(j:Int):=⟨k.toNat,by omega⟩
   rw [A4 (i:=j) (n:=15) (by omega)]
   rfl
end Go.Proofs.YthndhaolemgbdaaGreatDoor
namespace Go.Proofs.YthndhaolemgbdaaGreatDoor
open Go.Ax
def Bcg(R:Type):Px R:=pxO [] [] [] []
def Aac(x:HV [.sl .tok false,.sv .got]):Option (HV [.sv .tok]):=match x with
 |(l,g) =>
 cond (decide (g.pos<(l.length:Int))) (
  chk (inb g.pos l.length) (
  some (at' .tok l g.pos))) (
  some (Tok.mk 0 0 [] 0))
theorem A92:FO 136 [.sl .tok false,.sv .got] [.sv .tok] (Aac):=fR (px:=Bcg _) (n:=0) Tryz.func136 rfl (fun _ H=>⟨lv H Ae Aa Ab,Aj⟩) fun(_,_)=>by kernel_rfl
def A2k(l:List Tok) (g:GotS):Option Tok:=Aac (l,g)
def Amt:FT [.sl .tok false,.sv .got] [.sv .tok]:=fun x=>A2k x.1 x.2
theorem Al2:FO 136 [.sl .tok false,.sv .got] [.sv .tok] Amt :=.fin0 A92 fun _ _ _ hx=>hx
def Bfl(R:Type):Px R:=pxO [(136,cA Amt)] [] [] []
def Xl(x:HV [.sl .tok false,.sv .got,.str]):Option (HV [.bool]):=match x with
 |(l,g,s) =>
 (A2k l g).bind fun x =>
  cond (!g.bad) (
  cond (decide (x.kind=1)) (
   some (decide (x.s=s))) (
   cond (decide (x.kind=6)) (
   some (decide (x.s=s))) (
   some false))) (
  some false)
theorem Bak:FO 88 [.sl .tok false,.sv .got,.str] [.bool] (Xl):=fR (px:=Bfl _) (n:=0) Tryz.func88 rfl (fun _ H=>⟨lv H (c1 H Al2 Ae) Aa Ab,Aj⟩) fun(_,_,_)=>by kernel_rfl
def gis(l:List Tok) (g:GotS) (s:Str):Option Bool:=Xl (l,g,s)
def A39:FT [.sl .tok false,.sv .got,.str] [.bool]:=fun x=>gis x.1 x.2.1 x.2.2
theorem A5l:FO 88 [.sl .tok false,.sv .got,.str] [.bool] A39 :=.fin0 Bak fun _ _ _ hx=>hx
def Aci:Sig:=⟨43,[(0,.sl .tok false),(2,.str),(7,.int .i64),(8,.int .i64)],[(4,.ptr 0 0),(6,.ptr 1 0)],[(0,.one (.sv .got)),(1,.one (.sv .got))],2,0,0,[],[]⟩
abbrev Uw:=List Tok×Str×Int×Int×GotS×GotS
def Aga{R:Type}(rec:Uw→Option R) (kx:Ex→Uw→Option R) (v:Uw):Option R:=match v with
 |(v,v1,v2,v3,w,w1) =>
 cond (decide (v3≤(v1.length:Int))) (
  let j:=fun(_:Unit) =>
  chk (Cs v2 v3 v1.length) (
   (gis v w (cut v1 v2 v3)).bind fun x =>
   cond (!x) (
    kx .ret (v,v1,v2,v3,w,(GotS.mk w.pos true))) (
    rec (v,v1,(wr .i64 (v3+1)),(wr .i64 (v3+1)),(GotS.mk (wr .i64 (w.pos+1)) w.bad),w1)))
  cond (decide (v3<(v1.length:Int))) (
  chk (inb v3 v1.length) (
   cond (!decide ((bat v1 v3)=32)) (
   rec (v,v1,v2,(wr .i64 (v3+1)),w,w1)) (
   j ()))) (
  j ())) (
  kx (.exit 0) (v,v1,v2,v3,w,w1))
def Aj6(R:Type) (k:Nat):Px R:=pxO [(88,cA A39)] [] [(3,Ao k Aci (Aga))] []
def Acd(k:Nat) (x:HV [.sl .tok false,.sv .got,.str]):Option (HV [.sv .got]):=match x with
 |(l,g,s) =>
 Al (fun rec=>Aga rec (fun e vz=>match vz with|(_,_,_,_,v8,v9)=>match e with
  |.ret =>
  some v9
  |.exit 0 =>
  some v8
  |_=>none)) k (l,s,0,0,g,(GotS.mk 0 false))
theorem Avb(k:Nat):FO 130 [.sl .tok false,.sv .got,.str] [.sv .got] (Acd k):=fR (px:=Aj6 _ k) (n:=1) Tryz.func130 rfl (fun cx H=>by
 have h0:Lv cx (Aj6 (HV [.sv .got]) k):=lv H (c1 H A5l Ae) Aa Ab
 have hlgafter_0:=lO H h0 (b:=lp Tryz.f130 0) (k:=k) (n:=0) (s:=Aci) (step:=Aga) (fun _ _ _ (_,_,_,_,_,_)=>by kernel_rfl) Aj
 exact⟨h0,(Bf Aj hlgafter_0)⟩) fun(_,_,_)=>by kernel_rfl
def Hl(l:List Tok) (g:GotS) (s:Str):Option GotS:=Acd (s.length+2) (l,g,s)
def Vd:FT [.sl .tok false,.sv .got,.str] [.sv .got]:=fun x=>Hl x.1 x.2.1 x.2.2
theorem Zn:FO 130 [.sl .tok false,.sv .got,.str] [.sv .got] Vd :=.fin 0 Avb fun(_,_,s) _ _ hx=>⟨s.length+2,hx⟩
def Aau:Sig:=⟨29,[(2,.int .i64),(3,.int .i64),(4,.sl .int true),(5,.int .i64)],[(1,.ptr 0 0)],[(0,.one (.sv .tok))],1,0,0,[],[]⟩
abbrev Ua:=Int×Int×List Int×Int×Tok
def V7{R:Type}(rec:Ua→Option R) (kx:Ex→Ua→Option R) (v:Ua):Option R:=match v with
 |(v,v1,v2,v3,w) =>
 cond (decide (v3≤14)) (
  cond (decide ((Vu v3)=w.s)) (
  chk (inb v3 v2.length) (
   kx .ret ((at' .int v2 v3),v3,v2,v3,w))) (
  rec (v,v1,v2,(wr .i64 (v3+1)),w))) (
  kx (.exit 0) (v,v1,v2,v3,w))
def Ala(R:Type) (k:Nat):Px R:=pxO [] [(36,qA Ac6)] [(5,Ao k Aau (V7))] []
def Hd(k:Nat) (x:HV [.sv .tok]):Option (HV [.int .i64,.int .i64]):=match x with
 |t =>
 let j:=fun(_:Unit) =>
  Al (fun rec=>V7 rec (fun e vz=>match vz with|(v4,v5,_,_,_)=>match e with
  |.ret =>
   some (v4,v5)
  |.exit 0 =>
   some (0,0)
  |_=>none)) k (0,0,[0,0,0,0,2,1,4,4,4,4,4,4,5,5,6],4,t)
 cond (!decide (t.kind=1)) (
  cond (!decide (t.kind=6)) (
  some (0,0)) (
  j ())) (
  j ())
theorem At4(k:Nat):FO 141 [.sv .tok] [.int .i64,.int .i64] (Hd k):=fR (px:=Ala _ k) (n:=1) Tryz.func141 rfl (fun cx H=>by
 have h0:Lv cx (Ala (HV [.int .i64,.int .i64]) k):=lv H Ae (q1 H Asj Aa) Ab
 have hlgbinds_0:=lO H h0 (b:=lp Tryz.f141 0) (k:=k) (n:=0) (s:=Aau) (step:=V7) (fun _ _ _ (_,_,_,_,_)=>by kernel_rfl) Aj
 exact⟨h0,(Bf Aj hlgbinds_0)⟩) fun _=>by kernel_rfl
def Ael(t:Tok):Option (Int×Int):=Hd 20 t
def Ao4:FT [.sv .tok] [.int .i64,.int .i64]:=fun x=>Ael x
theorem A3l:FO 141 [.sv .tok] [.int .i64,.int .i64] Ao4 :=.fin 0 At4 fun _ _ _ hx=>⟨20,hx⟩
def Afa:Sig:=⟨150,[(0,.sl .tok false),(2,.int .i64),(9,.int .i64)],[(4,.ptr 0 0),(6,.ptr 1 0),(7,.ptr 2 0),(8,.ptr 3 0)],[(0,.one (.sv .got)),(1,.one (.sv .expr)),(2,.one (.sv .got)),(3,.one (.sv .expr))],4,0,0,[],[]⟩
abbrev Le:=List Tok×Int×Int×GotS×Xpr×GotS×Xpr
def Jl{R:Type}(rf:FT [.sl .tok false,.sv .got,.int .i64] [.sv .expr,.sv .got]) (rec:Le→Option R) (kx:Ex→Le→Option R) (v:Le):Option R:=match v with
 |(v,v1,v2,w,w1,w2,w3) =>
 cond (!w.bad) (
  (A2k v w).bind fun x11 =>
  (Ael x11).bind fun(x12,x13) =>
   let j5:=fun(p14:Bool) =>
   cond (p14) (
    (gis v (GotS.mk (wr .i64 (w.pos+1)) w.bad) [78,79,84]).bind fun x15 =>
    cond (x15) (
     (Hl v (GotS.mk (wr .i64 ((wr .i64 (w.pos+1))+1)) w.bad) [78,85,76,76]).bind fun x17 =>
     rec (v,v1,4,x17,w1,w2,(Xpr.mk 3 ⟨0,0,[]⟩ [] [(Xpr.mk 16 ⟨0,0,[]⟩ [] [w3])]))) (
     (Hl v (GotS.mk (wr .i64 (w.pos+1)) w.bad) [78,85,76,76]).bind fun x18 =>
     rec (v,v1,4,x18,w1,w2,(Xpr.mk 16 ⟨0,0,[]⟩ [] [w3])))) (
    let j7:=fun(p15:Bool) =>
    let j6:=fun(p16:Bool) =>
     cond (p16) (
     kx (.exit 1) (v,v1,v2,w,w1,w2,w3)) (
     cond (decide (x12=4)) (
      cond (decide (v2=4)) (
      kx (.exit 1) (v,v1,v2,w,w1,w2,w3)) (
      (rf (v,(GotS.mk (wr .i64 (w.pos+1)) false),(wr .i64 (x12+1)))).bind fun(x21,x22) =>
       rec (v,v1,x12,x22,w1,w2,(Xpr.mk x13 ⟨0,0,[]⟩ [] [w3,x21])))) (
      (rf (v,(GotS.mk (wr .i64 (w.pos+1)) false),(wr .i64 (x12+1)))).bind fun(x23,x24) =>
      rec (v,v1,x12,x24,w1,w2,(Xpr.mk x13 ⟨0,0,[]⟩ [] [w3,x23]))))
    cond (p15) (
     j6 true) (
     j6 (decide (v2<x12)))
    cond (decide (x12=0)) (
    j7 true) (
    j7 (decide (x12<v1))))
   (gis v w [73,83]).bind fun x14 =>
   cond (x14) (
    cond (decide (v1≤4)) (
    j5 (decide (4<v2))) (
    j5 false)) (
    j5 false)) (
  kx (.exit 1) (v,v1,v2,w,w1,w2,w3))
def Aea(R:Type) (_k:Nat) (_rf:FT [.sl .tok false,.sv .got,.int .i64] [.sv .expr,.sv .got]):Px R:=pxO [] [] [] []
def Ahg(R:Type) (_k:Nat) (rf:FT [.sl .tok false,.sv .got,.int .i64] [.sv .expr,.sv .got]):Px R:=pxO [(136,cA Amt),(130,cA Vd),(91,cA rf)] [(130,qA Vd)] [] []
def Aer(R:Type) (_k:Nat) (_rf:FT [.sl .tok false,.sv .got,.int .i64] [.sv .expr,.sv .got]):Px R:=pxO [] [] [] []
noncomputable def Aq6 (R:Type) (k:Nat) (rf:FT [.sl .tok false,.sv .got,.int .i64] [.sv .expr,.sv .got]):Px R:=pxO [(88,cA A39),(91,cA rf),(136,cA Amt),(141,cA Ao4),(130,cA Vd),(139,Rs 40 200 (Aea R k rf) Tryz.f139 (As 80 400 (Aer R k rf) Tryz.f139)),(140,As 40 200 (Ahg R k rf) Tryz.f140)] [] [(17,Ao k Afa (Jl rf))] []
def Ea(k:Nat) (rf:FT [.sl .tok false,.sv .got,.int .i64] [.sv .expr,.sv .got]) (x:HV [.sl .tok false,.sv .got,.int .i64]):Option (HV [.sv .expr,.sv .got]):=match x with
 |(l,g,m) =>
 let j8:=fun(p10:Int) (q5:GotS) (q6:Xpr) =>
  Al (fun rec=>Jl rf rec (fun e vz=>match vz with|(_,_,_,v6,_,_,v9)=>match e with
  |.exit 1 =>
   some (v9,v6)
  |_=>none)) k (l,m,p10,q5,(Xpr.mk 0 ⟨0,0,[]⟩ [] []),(GotS.mk 0 false),q6)
 cond (g.bad) (
  some ((Xpr.mk 0 ⟨0,0,[]⟩ [] []),g)) (
  let j4:=fun(p1:Bool) =>
  cond (p1) (
   (rf (l,(GotS.mk (wr .i64 (g.pos+1)) false),3)).bind fun(x1,x2) =>
   j8 3 x2 (Xpr.mk 3 ⟨0,0,[]⟩ [] [x1])) (
   (gis l g [45]).bind fun x3 =>
   cond (x3) (
    (rf (l,(GotS.mk (wr .i64 (g.pos+1)) false),7)).bind fun(x4,x5) =>
    j8 7 x5 (Xpr.mk 15 ⟨0,0,[]⟩ [] [x4])) (
    (A2k l g).bind fun x6 =>
    cond (decide (x6.kind=2)) (
     j8 7 (GotS.mk (wr .i64 (g.pos+1)) false) (Xpr.mk 2 ⟨0,0,[]⟩ x6.s [])) (
     cond (decide (x6.kind=3)) (
     j8 7 (GotS.mk (wr .i64 (g.pos+1)) false) (Xpr.mk 1 ⟨3,x6.n,[]⟩ [] [])) (
     let j3:=fun(p3:Bool) =>
      cond (p3) (
      j8 7 (GotS.mk (wr .i64 (g.pos+1)) false) (Xpr.mk 1 ⟨x6.kind,0,x6.s⟩ [] [])) (
      let j2:=fun(p5:Bool) =>
       cond (p5) (
       j8 7 (GotS.mk (wr .i64 (g.pos+1)) false) (Xpr.mk 1 ⟨1,0,[]⟩ [] [])) (
       let j1:=fun(p7:Bool) =>
        cond (p7) (
        j8 7 (GotS.mk (wr .i64 (g.pos+1)) false) (Xpr.mk 1 ⟨2,0,[]⟩ [] [])) (
        let j:=fun(p9:Bool) =>
         cond (p9) (
         j8 7 (GotS.mk (wr .i64 (g.pos+1)) false) (Xpr.mk 1 ⟨2,1,[]⟩ [] [])) (
         (Hl l g [40]).bind fun x7 =>
          (rf (l,x7,1)).bind fun(x8,x9) =>
          (Hl l x9 [41]).bind fun x10 =>
           j8 7 x10 x8)
        cond (decide (x6.kind=1)) (
         j (decide (x6.s=[84,82,85,69]))) (
         j false))
       cond (decide (x6.kind=1)) (
        j1 (decide (x6.s=[70,65,76,83,69]))) (
        j1 false))
      cond (decide (x6.kind=1)) (
       j2 (decide (x6.s=[78,85,76,76]))) (
       j2 false))
     cond (decide (x6.kind=4)) (
      j3 true) (
      j3 (decide (x6.kind=5)))))))
  (gis l g [78,79,84]).bind fun x =>
  cond (x) (
   j4 (decide (m≤3))) (
   j4 false))
theorem Azz(k:Nat) (rf:FT [.sl .tok false,.sv .got,.int .i64] [.sv .expr,.sv .got]) (hrf:FO 91 [.sl .tok false,.sv .got,.int .i64] [.sv .expr,.sv .got] rf):FO 91 [.sl .tok false,.sv .got,.int .i64] [.sv .expr,.sv .got] (Ea k rf):=fR (px:=Aq6 _ k rf) (n:=1) Tryz.func91 rfl (fun cx H=>by
 have h1:Lv cx (Aea (HV [.sv .expr,.sv .got]) k rf):=lv H Ae Aa Ab
 have h2:Lv cx (Ahg (HV [.sv .expr,.sv .got]) k rf):=lv H (c1 H Al2 (c1 H Zn (c1 H hrf Ae))) (q1 H Zn Aa) Ab
 have h3:Lv cx (Aer (HV [.sv .expr,.sv .got]) k rf):=lv H Ae Aa Ab
 have h0:Lv cx (Aq6 (HV [.sv .expr,.sv .got]) k rf):=lv H (c1 H A5l (c1 H hrf (c1 H Al2 (c1 H A3l (c1 H Zn (An (Ao6 (cR H h1 Tryz.func139 rfl (n:=0) (Aj)) (cR H h3 Tryz.func139 rfl (n:=0) (Aj))) (An (cR H h2 Tryz.func140 rfl (n:=0) (Aj)) Ae))))))) Aa Ab
 have hlgexpr_0:=lO H h0 (b:=lp Tryz.f91 0) (k:=k) (n:=0) (s:=Afa) (step:=Jl rf) (fun _ _ _ (_,_,_,_,_,_,_)=>by kernel_rfl) Aj
 exact⟨h0,(Bf Aj hlgexpr_0)⟩) fun(_,_,_)=>by kernel_rfl
def Rn(rf:FT [.sl .tok false,.sv .got,.int .i64] [.sv .expr,.sv .got]):FT [.sl .tok false,.sv .got,.int .i64] [.sv .expr,.sv .got]:=fun x=>Ea (x.1.length+3) rf x
theorem Azu(rf:FT [.sl .tok false,.sv .got,.int .i64] [.sv .expr,.sv .got]) (hrf:FnOk Tryz.prog elT glT 91 [.sl .tok false,.sv .got,.int .i64] [.sv .expr,.sv .got] rf):FnOk Tryz.prog elT glT 91 [.sl .tok false,.sv .got,.int .i64] [.sv .expr,.sv .got] (Rn rf) :=.fin (ι:=Nat) 0 (F:=fun k=>Ea k rf) (fun k=>Azz k rf hrf) fun x _ _ hx=>⟨x.1.length+3,hx⟩
def Afs(l:List Tok) (g:GotS) (m:Int):Option (Xpr×GotS):=Al (V:=HV [.sl .tok false,.sv .got,.int .i64]) (R:=HV [.sv .expr,.sv .got]) Rn (l.length+3) (l,g,m)
def Axq:FT [.sl .tok false,.sv .got,.int .i64] [.sv .expr,.sv .got]:=fun x=>Afs x.1 x.2.1 x.2.2
theorem A8q:FO 91 [.sl .tok false,.sv .got,.int .i64] [.sv .expr,.sv .got] Axq :=.fin (ι:=Nat) 0 (F:=fun n=>Al (V:=HV [.sl .tok false,.sv .got,.int .i64]) (R:=HV [.sv .expr,.sv .got]) Rn n) (fun n=>FnOk.rec' (Sx.enters_of Tryz.func91 rfl rfl) (fun rf hrf=>Azu rf hrf) n) fun(l,_,_) _ _ hx=>⟨l.length+3,hx⟩
end Go.Proofs.YthndhaolemgbdaaGreatDoor
namespace Go.Proofs.YthndhaolemgbdaaGreatDoor
open Go.Ax
def hd0:TL→Tok
 |[]=>⟨0,0,[],0⟩
 |t::_=>t
theorem Adl(L:TL) (i:Nat) (b:Bool):A2k L ⟨(i:Int),b⟩=some (hd0 (L.drop i)):=by
 simp only [A2k,Aac]
 by_cases h:i<L.length
 ·rw [Ze1 (by omega),Af,A4 h,Am h]
  simp only [chk,Af,A9 (c :=.tok) h]
  rfl
 ·rw [Zd1 (by omega),Ah,Zk1 (by omega)]
  rfl
theorem Bis(t:Tok) (s:Str):(cond (decide (t.kind=1)) (some (decide (t.s=s))) (cond (decide (t.kind=6)) (some (decide (t.s=s))) (some false)))=some ((decide (t.kind=1)||decide (t.kind=6))&&decide (t.s=s)):=by
 cases decide (t.kind=1)<;>cases decide (t.kind=6)<;>rfl
theorem Aza(L:TL) (i:Nat) (s:Str):gis L ⟨(i:Int),false⟩ s=some (isT s (L.drop i)):=by
 simp only [gis,Xl,Adl,Zc1,Zs1,Af]
 cases L.drop i with
 |nil=>rfl
 |cons t r=>exact Bis t s
theorem Bhx(L:TL) (i:Nat) (s:Str):gis L ⟨(i:Int),true⟩ s=some false:=by
 simp only [gis,Xl,Adl,Zc1,Zt1,Ah]
theorem A3j{i:Nat}(h:i≤2000000000):wr .i64 ((i:Int)+1)=((i+1:Nat):Int):=by
 rw [Cc (by simp only [inI];omega)]
 omega
theorem Hr{L:TL}{i:Nat}{s:Str}(h:isT s (L.drop i)=true):i+1≤L.length∧(L.drop i).tail=L.drop (i+1):=by
 by_cases hl:i<L.length
 ·rw [Am hl]
  exact⟨hl,rfl⟩
 ·rw [Zk1 (by omega)] at h
  cases h
def aft(L:TL):List Str→GotS→Option GotS
 |[],g=>some g
 |w::ws,g=>(gis L g w).bind fun x=>cond (!x) (some ⟨g.pos,true⟩) (aft L ws ⟨wr .i64 (g.pos+1),g.bad⟩)
theorem Bat(L:TL) (i:Nat):∀ws,aft L ws ⟨(i:Int),true⟩=some ⟨(i:Int),true⟩
 |[]=>rfl
 |w::ws=>by simp only [aft,Bhx,Zc1,Zs1,Af]
theorem Ax6{L:TL}(hL:L.length≤1000000000):∀(ws:List Str) (i:Nat),i≤L.length→match Ba ws (L.drop i) with
  |.ok (_,m)=>∃j,i≤j∧j≤L.length∧m=L.drop j∧aft L ws ⟨(i:Int),false⟩=some ⟨(j:Int),false⟩
  |.error q=>∃j,j≤L.length∧q=L.drop j∧aft L ws ⟨(i:Int),false⟩=some ⟨(j:Int),true⟩
 |[],i,hi=>⟨i,Zn1 _,hi,rfl,rfl⟩
 |w::ws,i,hi=>by
  simp only [Ba,aft,Aza,Zc1]
  cases h:isT w (L.drop i) with
  |false=>exact⟨i,hi,rfl,rfl⟩
  |true =>
   obtain⟨h1,h2⟩:=Hr h
   have ih:=Ax6 hL ws (i+1) h1
   simp only [Zt1,Ah,h2,A3j (show i≤2000000000 by omega)]
   cases hq:Ba ws (L.drop (i+1)) with
   |error q =>
    rw [hq] at ih
    exact ih
   |ok x =>
    obtain⟨u,m⟩:=x
    rw [hq] at ih
    obtain⟨j,a1,a2,a3,a4⟩:=ih
    exact⟨j,by omega,a2,a3,a4⟩
theorem Bem(L:TL) (g:GotS):Hl L g [40]=aft L [[40]] g:=by kernel_rfl
theorem Bf1(L:TL) (g:GotS):Hl L g [41]=aft L [[41]] g:=by kernel_rfl
theorem A94(L:TL) (g:GotS):Hl L g [78,85,76,76]=aft L [sNULL] g:=by kernel_rfl
structure SimG {α:Type}(L:TL) (n:Nat) (F:GotS→Option (α×GotS)) (p:TL→PR α):Prop where
 ok:∀(i:Nat) e m,i≤L.length→L.length-i<n→p (L.drop i) = .ok (e,m)→∃j:Nat,j≤L.length∧m=L.drop j∧F ⟨(i:Int),false⟩=some (e,⟨(j:Int),false⟩)
 er:∀(i:Nat) q,i≤L.length→L.length-i<n→p (L.drop i) = .error q→∃(j:Nat) (e : α),j≤L.length∧q=L.drop j∧F ⟨(i:Int),false⟩=some (e,⟨(j:Int),true⟩)
 bad:∀i:Nat,∃e,F ⟨(i:Int),true⟩=some (e,⟨(i:Int),true⟩)
def Gu{γ:Type}(L:TL) (x:Option (γ×GotS)) (y:PR γ):Prop:=match y with
 |.ok (r,m)=>∃j:Nat,j≤L.length∧m=L.drop j∧x=some (r,⟨(j:Int),false⟩)
 |.error q=>∃(j:Nat) (e : γ),j≤L.length∧q=L.drop j∧x=some (e,⟨(j:Int),true⟩)
def Wc{γ:Type}(x:Option (γ×GotS)) (i:Nat):Prop:=∃e,x=some (e,⟨(i:Int),true⟩)
section
variable {α β γ:Type}{L:TL}{n:Nat}
theorem SimG.mono{F:GotS→Option (α×GotS)}{p:TL→PR α}(h:SimG L n F p) {m:Nat}(hm:m≤n):SimG L m F p :=
 ⟨fun i e q hi hn=>h.ok i e q hi (by omega),fun i q hi hn=>h.er i q hi (by omega),h.bad⟩
theorem SimG.out{F:GotS→Option (α×GotS)}{p:TL→PR α}(h:SimG L n F p) {i:Nat}(hi:i≤L.length) (hn:L.length-i<n):Gu L (F ⟨(i:Int),false⟩) (p (L.drop i)):=by
 cases hq:p (L.drop i) with
 |error q=>exact h.er i q hi hn hq
 |ok x =>
  obtain⟨r,m⟩:=x
  exact h.ok i r m hi hn hq
theorem SimG.of{F:GotS→Option (α×GotS)}{p:TL→PR α}(h:∀i:Nat,i≤L.length→L.length-i<n→Gu L (F ⟨(i:Int),false⟩) (p (L.drop i))) (hb:∀i:Nat,Wc (F ⟨(i:Int),true⟩) i):SimG L n F p where
 ok i e m hi hn hp:=by
  have:=h i hi hn
  rw [hp] at this
  exact this
 er i q hi hn hp:=by
  have:=h i hi hn
  rw [hp] at this
  exact this
 bad:=hb
theorem Gu.bind{F:GotS→Option (α×GotS)}{p:TL→PR α}(h:SimG L n F p) {G : α×GotS→Option (γ×GotS)}{f : α→TL→PR γ}{i:Nat}(hi:i≤L.length) (hn:L.length-i<n) (h1:∀r (j:Nat),j≤L.length→p (L.drop i) = .ok (r,L.drop j)→Gu L (G (r,⟨(j:Int),false⟩)) (f r (L.drop j))) (h2:∀r (j:Nat),Wc (G (r,⟨(j:Int),true⟩)) j):Gu L ((F ⟨(i:Int),false⟩).bind G) (bP p f (L.drop i)):=by
 unfold bP
 cases hq:p (L.drop i) with
 |error q =>
  obtain⟨j,e,a1,a2,a3⟩:=h.er i q hi hn hq
  rw [a3,Zc1]
  obtain⟨e2,h3⟩:=h2 e j
  exact⟨j,e2,a1,a2,h3⟩
 |ok x =>
  obtain⟨r,m⟩:=x
  obtain⟨j,a1,a2,a3⟩:=h.ok i r m hi hn hq
  subst a2
  rw [a3,Zc1]
  exact h1 r j a1 hq
theorem Wc.bind{F:GotS→Option (α×GotS)}{p:TL→PR α}(h:SimG L n F p) {G : α×GotS→Option (γ×GotS)}{i:Nat}(h2:∀r,Wc (G (r,⟨(i:Int),true⟩)) i):Wc ((F ⟨(i:Int),true⟩).bind G) i:=by
 obtain⟨e,h1⟩:=h.bad i
 rw [h1]
 exact h2 e
theorem Gu.must(hL:L.length≤1000000000) {ws:List Str}{G:GotS→Option (γ×GotS)}{f:Unit→TL→PR γ}{i:Nat}(hi:i≤L.length) (h1:∀j:Nat,i≤j→j≤L.length→Ba ws (L.drop i) = .ok ((),L.drop j)→Gu L (G ⟨(j:Int),false⟩) (f () (L.drop j))) (h2:∀j:Nat,Wc (G ⟨(j:Int),true⟩) j):Gu L ((aft L ws ⟨(i:Int),false⟩).bind G) (bP (Ba ws) f (L.drop i)):=by
 have h:=Ax6 hL ws i hi
 unfold bP
 cases hq:Ba ws (L.drop i) with
 |error q =>
  rw [hq] at h
  obtain⟨j,a1,a2,a3⟩:=h
  rw [a3,Zc1]
  obtain⟨e2,h3⟩:=h2 j
  exact⟨j,e2,a1,a2,h3⟩
 |ok x =>
  obtain⟨u,m⟩:=x
  rw [hq] at h
  obtain⟨j,a0,a1,a2,a3⟩:=h
  subst a2
  rw [a3,Zc1]
  exact h1 j a0 a1 hq
theorem Wc.must{ws:List Str}{G:GotS→Option (γ×GotS)}{i:Nat}(h2:Wc (G ⟨(i:Int),true⟩) i):Wc ((aft L ws ⟨(i:Int),true⟩).bind G) i:=by
 rw [Bat]
 exact h2
theorem Gu.ok{r : γ}{j:Nat}(hj:j≤L.length):Gu L (some (r,⟨(j:Int),false⟩)) (.ok (r,L.drop j)):=⟨j,hj,rfl,rfl⟩
theorem Gu.er{r : γ}{j:Nat}(hj:j≤L.length):Gu L (some (r,⟨(j:Int),true⟩)) (.error (L.drop j)):=⟨j,r,hj,rfl,rfl⟩
end
def bch(s:Str):List (Str×Nat×Int)→Option (Int×Int)
 |[]=>some (0,0)
 |p::l=>cond (decide (p.1=s)) (some ((p.2.1:Int),p.2.2)) (bch s l)
theorem A34(s:Str):∀l,bch s l=some (match l.find? (fun p=>decide (s=p.1)) with
  |some p=>((p.2.1:Int),p.2.2)
  |none=>(0,0))
 |[]=>rfl
 |p::l=>by
  simp only [bch,List.find?_cons]
  by_cases h:s=p.1
  ·rw [Ze1 h,Ze1 h.symm];rfl
  ·rw [Zd1 h,Zd1 (fun e=>h e.symm),Ah,A34 s l]
theorem Ast(t:Tok):Al (fun rec=>V7 rec (fun e vz=>match vz with|(v4,v5,_,_,_)=>match e with
  |.ret=>some (v4,v5)
  |.exit 0=>some (0,0)
  |_=>none)) 20 (0,0,[0,0,0,0,2,1,4,4,4,4,4,4,5,5,6],4,t)=bch t.s opTab:=by kernel_rfl
theorem Azm(l:TL):Ael (hd0 l)=some (((A2 l).1:Int),(A2 l).2):=by
 cases l with
 |nil=>rfl
 |cons t r =>
  have key:(decide (t.kind=1)||decide (t.kind=6))=true→Hd 20 t=bch t.s opTab:=fun hk=>by
   rw [←Ast]
   simp only [Hd]
   cases h1:decide (t.kind=1) with
   |true=>rfl
   |false =>
    rw [h1,Bool.false_or] at hk
    rw [hk]
    rfl
  simp only [hd0,A2]
  cases hk:decide (t.kind=1)||decide (t.kind=6) with
  |false =>
   have h1:=(Bool.or_eq_false_iff.1 hk).1
   have h6:=(Bool.or_eq_false_iff.1 hk).2
   simp only [Ael,Hd,h1,h6,Zs1,Af]
   rfl
  |true =>
   simp only [Ael,key hk,A34,bindS]
   cases opTab.find? (fun p=>decide (t.s=p.1)) with
   |none=>rfl
   |some p=>rfl
end Go.Proofs.YthndhaolemgbdaaGreatDoor
namespace Go.Proofs.YthndhaolemgbdaaGreatDoor
open Go.Ax
def Ve(x:Except TL SR):PR Xpr:=match x with
 |.error q =>.error q
 |.ok s =>.ok (s.1,s.2.2)
theorem Bbe(rec:Nat→TL→PR Xpr) (k:Nat) (l:TL):exB rec k l=Ve (exT rec k l):=by
 unfold exB Ve
 cases exT rec k l<;>rfl
section
variable {R:Type}(J:Xpr→R) (A:R) (t:Tok)
def A9s(p:Bool):R:=cond p (J (.mk 1 ⟨2,1,[]⟩ [] [])) A
def A5w(p:Bool):R:=cond p (J (.mk 1 ⟨2,0,[]⟩ [] [])) (cond (decide (t.kind=1)) (A9s J A (decide (t.s=[84,82,85,69]))) (A9s J A false))
def A38(p:Bool):R:=cond p (J (.mk 1 ⟨1,0,[]⟩ [] [])) (cond (decide (t.kind=1)) (A5w J A t (decide (t.s=[70,65,76,83,69]))) (A5w J A t false))
def Aqc(p:Bool):R:=cond p (J (.mk 1 ⟨t.kind,0,t.s⟩ [] [])) (cond (decide (t.kind=1)) (A38 J A t (decide (t.s=[78,85,76,76]))) (A38 J A t false))
def Bgb:R:=cond (decide (t.kind=2)) (J (.mk 2 ⟨0,0,[]⟩ t.s [])) (cond (decide (t.kind=3)) (J (.mk 1 ⟨3,t.n,[]⟩ [] [])) (cond (decide (t.kind=4)) (Aqc J A t true) (Aqc J A t (decide (t.kind=5)))))
theorem Baz:Bgb J A t=match Wh t with
  |some v=>J v
  |none=>A:=by
 simp only [Bgb,Wh]
 by_cases k2:t.kind=2
 ·rw [Ze1 k2,if_pos k2];rfl
 rw [Zd1 k2,if_neg k2]
 by_cases k3:t.kind=3
 ·rw [Ze1 k3,if_pos k3];rfl
 rw [Zd1 k3,if_neg k3]
 by_cases k4:t.kind=4
 ·rw [Ze1 k4,if_pos k4]
  simp only [Ah,Af,Aqc,k4]
  rfl
 rw [Zd1 k4,if_neg k4]
 by_cases k5:t.kind=5
 ·rw [Ze1 k5,if_pos k5]
  simp only [Ah,Af,Aqc,k5]
  rfl
 rw [Zd1 k5,if_neg k5]
 simp only [Ah,Aqc,A38,A5w,A9s]
 by_cases k1:t.kind=1
 ·rw [Ze1 k1]
  simp only [Af]
  by_cases s1:t.s=X6
  ·rw [if_pos ⟨k1,s1⟩,Zd1 (show ¬t.s=[78,85,76,76] by rw [s1];decide),Zd1 (show ¬t.s=[70,65,76,83,69] by rw [s1];decide),Ze1 (show t.s=[84,82,85,69] from s1)]
   rfl
  rw [if_neg (fun q=>s1 q.2)]
  by_cases s2:t.s=Mg
  ·rw [if_pos ⟨k1,s2⟩,Zd1 (show ¬t.s=[78,85,76,76] by rw [s2];decide),Ze1 (show t.s=[70,65,76,83,69] from s2)]
   rfl
  rw [if_neg (fun q=>s2 q.2)]
  by_cases s3:t.s=sNULL
  ·rw [if_pos ⟨k1,s3⟩,Ze1 (show t.s=[78,85,76,76] from s3)]
   rfl
  rw [if_neg (fun q=>s3 q.2),Zd1 (show ¬t.s=[78,85,76,76] from s3),Zd1 (show ¬t.s=[70,65,76,83,69] from s2),Zd1 (show ¬t.s=[84,82,85,69] from s1)]
  rfl
 ·rw [Zd1 k1,if_neg (fun q=>k1 q.1),if_neg (fun q=>k1 q.1),if_neg (fun q=>k1 q.1)]
  rfl
end
section
variable {L:TL}{n:Nat}{rf:FT [.sl .tok false,.sv .got,.int .i64] [.sv .expr,.sv .got]}
theorem Adm{k:Int}{kx:Ex→Le→Option (Xpr×GotS)}(hkx:∀h w w1 w2 e,kx (.exit 1) (L,k,h,w,w1,w2,e)=some (e,w)) (kk:Nat) (h:Int) (j:Nat) (w1:Xpr) (w2:GotS) (e:Xpr):Wc (Al (fun rec=>Jl rf rec kx) (kk+1) (L,k,h,⟨(j:Int),true⟩,w1,w2,e)) j:=by
 simp only [A3,Jl,Zt1,Ah,hkx]
 exact⟨_,rfl⟩
theorem Aqv(hL:L.length≤1000000000) (hrf:∀k:Nat,1≤k→k≤7→SimG L n (fun g=>rf (L,g,(k:Int))) (VV k)) {k:Nat}{kx:Ex→Le→Option (Xpr×GotS)}(hkx:∀h w w1 w2 e,kx (.exit 1) (L,(k:Int),h,w,w1,w2,e)=some (e,w)):∀(kk kk' h j:Nat) (w1:Xpr) (w2:GotS) (e:Xpr),j≤L.length→L.length-j<n+1→L.length-j<kk→L.length-j<kk'→Gu L (Al (fun rec=>Jl rf rec kx) kk (L,(k:Int),(h:Int),⟨(j:Int),false⟩,w1,w2,e)) (Ve (Bi VV k kk' (e,h,L.drop j)))
 |0,_,_,_,_,_,_,_,_,h,_=>absurd h (Zm1 _)
 |_,0,_,_,_,_,_,_,_,_,h=>absurd h (Zm1 _)
 |kk+1,kk'+1,h,j,w1,w2,e,hj,hn,h1,h2=>by
  have ih:=Aqv hL hrf hkx kk kk'
  have w0:wr .i64 ((j:Int)+1)=((j+1:Nat):Int):=A3j (by omega)
  have wA:wr .i64 (((j+1:Nat):Int)+1)=((j+2:Nat):Int):=A3j (by omega)
  simp -zeta only [A3,Jl,Zs1,Af,Adl,Zc1,Azm,Aza,w0,wA]
  extract_lets j6 j7 j5
  by_cases hi:isT sIS (L.drop j)=true∧k≤4∧4<h
  ·have hi1:isT [73,83] (L.drop j)=true:=hi.1
   obtain⟨i1,i2⟩:=Hr hi.1
   have hst:B7 VV k (e,h,L.drop j)=some (match isP e (L.drop j) with
     |.error q =>.error q
     |.ok (x,l') =>.ok (x,4,l')):=if_pos hi
   rw [hi1,Ze1 (show(k:Int)≤4 by omega),Ze1 (show 4<(h:Int) by omega)]
   simp only [Af,j5,Bi,hst,isP,i2,A94,aft,Aza,Zc1]
   cases hN:isT sNOT (L.drop (j+1)) with
   |true =>
    obtain⟨n1,n2⟩:=Hr hN
    have hN':isT [78,79,84] (L.drop (j+1))=true:=hN
    rw [hN',n2]
    simp only [Af]
    cases hU:isT sNULL (L.drop (j+2)) with
    |true =>
     obtain⟨u1,u2⟩:=Hr hU
     have wB:wr .i64 (((j+2:Nat):Int)+1)=((j+3:Nat):Int):=A3j (by omega)
     simp only [Zt1,Ah,Zc1,wB,u2]
     exact ih 4 (j+3) w1 w2 (mkX 3 [mkX 16 [e]]) u1 (by omega) (by omega) (by omega)
    |false =>
     simp only [Zs1,Af,Zc1]
     obtain⟨kk,rfl⟩:∃q,kk=q+1:=⟨kk-1,by omega⟩
     obtain⟨z,hz⟩:=Adm (rf:=rf) hkx kk 4 (j+2) w1 w2 (mkX 3 [mkX 16 [e]])
     exact⟨j+2,z,n1,rfl,hz⟩
   |false =>
    have hN':isT [78,79,84] (L.drop (j+1))=false:=hN
    rw [hN']
    simp only [Ah]
    cases hU:isT sNULL (L.drop (j+1)) with
    |true =>
     obtain⟨u1,u2⟩:=Hr hU
     simp only [Zt1,Ah,Zc1,wA,u2]
     exact ih 4 (j+2) w1 w2 (mkX 16 [e]) u1 (by omega) (by omega) (by omega)
    |false =>
     simp only [Zs1,Af,Zc1]
     obtain⟨kk,rfl⟩:∃q,kk=q+1:=⟨kk-1,by omega⟩
     obtain⟨z,hz⟩:=Adm (rf:=rf) hkx kk 4 (j+1) w1 w2 (mkX 16 [e])
     exact⟨j+1,z,i1,rfl,hz⟩
  ·have hj5:cond (isT [73,83] (L.drop j)) (cond (decide ((k:Int)≤4)) (j5 (decide (4<(h:Int)))) (j5 false)) (j5 false)=j5 false:=by
    cases hc:isT [73,83] (L.drop j) with
    |false=>rfl
    |true =>
     by_cases c1:k≤4
     ·rw [Ze1 (show(k:Int)≤4 by omega),Zd1 (show ¬ 4<(h:Int) from fun q=>hi ⟨hc,c1,by omega⟩)]
      rfl
     ·rw [Zd1 (show ¬(k:Int)≤4 by omega)]
      rfl
   rw [hj5]
   simp only [j5,j7,j6,Ah]
   clear hj5 j5 j7 j6
   by_cases hs:(A2 (L.drop j)).1=0∨(A2 (L.drop j)).1<k∨h<(A2 (L.drop j)).1∨((A2 (L.drop j)).1=4∧h=4)
   ·have hst:B7 VV k (e,h,L.drop j)=none:=by
     simp only [B7]
     rw [if_neg hi,if_pos hs]
    simp only [Bi,hst,Ve,hkx]
    generalize (A2 (L.drop j)).1=b at hs ⊢
    have fin:Gu L (some (e,(⟨(j:Int),false⟩:GotS))) (.ok (e,L.drop j)) :=.ok hj
    by_cases c0:b=0
    ·rw [Ze1 (show(b:Int)=0 by omega)];exact fin
    ·rw [Zd1 (show ¬(b:Int)=0 by omega)]
     by_cases c1:b<k
     ·rw [Ze1 (show(b:Int)<(k:Int) by omega)];exact fin
     ·rw [Zd1 (show ¬(b:Int)<(k:Int) by omega)]
      by_cases c2:h<b
      ·rw [Ze1 (show(h:Int)<(b:Int) by omega)];exact fin
      ·rw [Zd1 (show ¬(h:Int)<(b:Int) by omega),Ze1 (show(b:Int)=4 by omega),Ze1 (show(h:Int)=4 by omega)]
       exact fin
   ·have hb:=Wb (L.drop j)
    have hlt:j<L.length:=by
     refine Nat.lt_of_not_le fun q=>hs (.inl ?_)
     rw [Zk1 q]
     rfl
    have ht:(L.drop j).tail=L.drop (j+1):=by rw [Am hlt];rfl
    have hst:B7 VV k (e,h,L.drop j)=some (match VV ((A2 (L.drop j)).1+1) (L.drop (j+1)) with
      |.error q =>.error q
      |.ok (x,l') =>.ok (mkX (A2 (L.drop j)).2 [e,x],(A2 (L.drop j)).1,l')):=by
     simp only [B7]
     rw [if_neg hi,if_neg hs,ht]
     rfl
    have hpl:Ve (Bi VV k (kk'+1) (e,h,L.drop j))=bP (VV ((A2 (L.drop j)).1+1)) (fun x l'=>Ve (Bi VV k kk' (mkX (A2 (L.drop j)).2 [e,x],(A2 (L.drop j)).1,l'))) (L.drop (j+1)):=by
     simp only [Bi,hst,bP]
     cases VV ((A2 (L.drop j)).1+1) (L.drop (j+1)) with
     |error q=>rfl
     |ok x=>rfl
    rw [hpl]
    generalize (A2 (L.drop j)).1=b at *
    generalize (A2 (L.drop j)).2=kd at *
    have wb:wr .i64 ((b:Int)+1)=((b+1:Nat):Int):=A3j (by omega)
    obtain⟨kk,rfl⟩:∃q,kk=q+1:=⟨kk-1,by omega⟩
    have key:Gu L ((rf (L,⟨((j+1:Nat):Int),false⟩,((b+1:Nat):Int))).bind fun(x,x2)=>Al (fun rec=>Jl rf rec kx) (kk+1) (L,(k:Int),(b:Int),x2,w1,w2,mkX kd [e,x])) (bP (VV (b+1)) (fun x l'=>Ve (Bi VV k kk' (mkX kd [e,x],b,l'))) (L.drop (j+1))) :=
     Gu.bind (hrf (b+1) (by omega) (by omega)) (by omega) (by omega) (fun r j' hj' hp=>by
      have he:=Hs (b+1) _ _ _ hp
      rw [Za2,Za2] at he
      exact ih b j' w1 w2 (mkX kd [e,r]) hj' (by omega) (by omega) (by omega)) (fun r j'=>Adm hkx kk b j' w1 w2 (mkX kd [e,r]))
    rw [Zd1 (show ¬(b:Int)=0 by omega),Zd1 (show ¬(b:Int)<(k:Int) by omega),Zd1 (show ¬(h:Int)<(b:Int) by omega)]
    simp only [Ah,wb]
    by_cases c4:b=4
    ·rw [Ze1 (show(b:Int)=4 by omega),Zd1 (show ¬(h:Int)=4 by omega)]
     exact key
    ·rw [Zd1 (show ¬(b:Int)=4 by omega)]
     exact key
theorem A99(hL:L.length≤1000000000) (hrf:∀k:Nat,1≤k→k≤7→SimG L n (fun g=>rf (L,g,(k:Int))) (VV k)) {k:Nat}(k1 : 1≤k) (k7:k≤7):SimG L (n+1) (fun g=>Rn rf (L,g,(k:Int))) (VV k) :=.of (fun i hi hn=>by
 rw [←Bhz k1 k7,Bbe]
 have w0:wr .i64 ((i:Int)+1)=((i+1:Nat):Int):=A3j (by omega)
 show Gu L (Ea (L.length+3) rf (L,⟨(i:Int),false⟩,(k:Int))) _
 simp -zeta only [Ea,Ah,Aza,Adl,Zc1,w0]
 extract_lets j8 j j1 j2 j3 j4
 have hJ:∀(p q:Nat) (e:Xpr),q≤L.length→L.length-q<n+1→Gu L (j8 (p:Int) ⟨(q:Int),false⟩ e) (Ve (Bi VV k ((L.drop q).length+1) (e,p,L.drop q))):=fun p q e hq hqn=>Aqv hL hrf (fun _ _ _ _ _=>rfl) (L.length+3) _ p q _ _ e hq hqn (by omega) (by rw [Za2];omega)
 have hJb:∀(p q:Nat) (e:Xpr),Wc (j8 (p:Int) ⟨(q:Int),true⟩ e) q:=fun p q e=>Adm (fun _ _ _ _ _=>rfl) (L.length+2) p q _ _ e
 have un:∀(p m:Nat) (kk:Int),1≤m→m≤7→i+1≤L.length→Gu L ((rf (L,⟨((i+1:Nat):Int),false⟩,(m:Int))).bind fun(x,x2)=>j8 (p:Int) x2 (mkX kk [x])) (Ve (Abv (match VV m (L.drop (i+1)) with
   |.error q =>.error q
   |.ok (x,l') =>.ok (mkX kk [x],p,l')) fun s=>Bi VV k (s.2.2.length+1) s)):=fun p m kk m1 m7 hi1=>by
  have hpl:Ve (Abv (match VV m (L.drop (i+1)) with
   |.error q =>.error q
   |.ok (x,l') =>.ok (mkX kk [x],p,l')) fun s=>Bi VV k (s.2.2.length+1) s)=bP (VV m) (fun x l'=>Ve (Bi VV k (l'.length+1) (mkX kk [x],p,l'))) (L.drop (i+1)):=by
   simp only [bP]
   cases VV m (L.drop (i+1)) with
   |error q=>rfl
   |ok x=>rfl
  rw [hpl]
  exact Gu.bind (hrf m m1 m7) hi1 (by omega) (fun r q hq hp=>by
   have he:=Hs m _ _ _ hp
   rw [Za2,Za2] at he
   exact hJ p q _ hq (by omega)) (fun r q=>hJb p q _)
 have hnot:cond (isT [78,79,84] (L.drop i)) (j4 (decide ((k:Int)≤3))) (j4 false)=j4 (isT sNOT (L.drop i)&&decide (k≤3)):=by
  have hs:isT [78,79,84] (L.drop i)=isT sNOT (L.drop i):=rfl
  rw [hs]
  cases isT sNOT (L.drop i) with
  |false=>rfl
  |true =>
   rw [Af,Bool.true_and]
   congr 1
   exact Zy1.2 (by omega)
 rw [hnot]
 simp only [exT,Nt]
 cases hc:isT sNOT (L.drop i)&&decide (k≤3) with
 |true =>
  obtain⟨i1,i2⟩:=Hr (Bool.and_eq_true_iff.1 hc).1
  rw [i2]
  exact un 3 3 3 (by omega) (by omega) i1
 |false =>
  simp only [j4,Ah]
  cases hm:isT [45] (L.drop i) with
  |true =>
   obtain⟨i1,i2⟩:=Hr hm
   rw [i2]
   exact un 7 7 15 (by omega) (by omega) i1
  |false =>
   simp only [Ah,Amk]
   have br:Gu L ((Hl L ⟨(i:Int),false⟩ [40]).bind fun x7=>(rf (L,x7,1)).bind fun(x8,x9)=>(Hl L x9 [41]).bind fun x10=>j8 7 x10 x8) (Ve (Abv (match(bP (Ba [[40]]) (fun _=>bP (VV 1) fun e=>bP (Ba [[41]]) fun _=>Hq e) (L.drop i)) with
     |.error q =>.error q
     |.ok (x,l') =>.ok (x,7,l')) fun s=>Bi VV k (s.2.2.length+1) s)):=by
    have hpl:Ve (Abv (match(bP (Ba [[40]]) (fun _=>bP (VV 1) fun e=>bP (Ba [[41]]) fun _=>Hq e) (L.drop i)) with
     |.error q =>.error q
     |.ok (x,l') =>.ok (x,7,l')) fun s=>Bi VV k (s.2.2.length+1) s)=bP (Ba [[40]]) (fun _=>bP (VV 1) fun e=>bP (Ba [[41]]) fun _ l'=>Ve (Bi VV k (l'.length+1) (e,7,l'))) (L.drop i):=by
     simp only [bP,Hq]
     cases Ba [[40]] (L.drop i) with
     |error q=>rfl
     |ok x =>
      simp only
      cases VV 1 x.2 with
      |error q=>rfl
      |ok y =>
       simp only
       cases Ba [[41]] y.2 with
       |error q=>rfl
       |ok z=>rfl
    rw [hpl,Bem]
    simp only [Bf1]
    refine Gu.must hL hi (fun j hj hj2 hp =>?_) (fun j =>?_)
    ·have hlt:i<j:=by
      simp only [Ba] at hp
      cases ho:isT [40] (L.drop i) with
      |false=>rw [ho] at hp;cases hp
      |true =>
       rw [ho,(Hr ho).2] at hp
       have hl:=(Hr ho).1
       injection hp with hp
       have:=congrArg (fun x:Unit×TL=>x.2.length) hp
       simp only [Za2] at this
       omega
     refine Gu.bind (hrf 1 (by omega) (by omega)) hj2 (by omega) (fun r q hq hp2 =>?_) (fun r q =>?_)
     ·have he:=Hs 1 _ _ _ hp2
      rw [Za2,Za2] at he
      exact Gu.must hL hq (fun q2 h1 h2 _=>hJ 7 q2 r h2 (by omega)) (fun q2=>hJb 7 q2 r)
     ·exact Wc.must (hJb 7 q r)
    ·obtain⟨z,hz⟩:=(hrf 1 (by omega) (by omega)).bad j
     have hz:rf (L,⟨(j:Int),true⟩,1)=some (z,⟨(j:Int),true⟩):=hz
     rw [hz]
     exact Wc.must (hJb 7 j z)
   show Gu L (Bgb (fun v=>j8 7 ⟨((i+1:Nat):Int),false⟩ v) ((Hl L ⟨(i:Int),false⟩ [40]).bind fun x7=>(rf (L,x7,1)).bind fun(x8,x9)=>(Hl L x9 [41]).bind fun x10=>j8 7 x10 x8) (hd0 (L.drop i))) _
   rw [Baz]
   by_cases hlt:i<L.length
   ·obtain⟨t,hd⟩:∃t,L.drop i=t::L.drop (i+1):=⟨L[i],Am hlt⟩
    have hh:hd0 (L.drop i)=t:=by rw [hd];rfl
    rw [hh]
    cases hv:Wh t with
    |some v =>
     have ht:Bv orW (L.drop i) = .ok (v,L.drop (i+1)):=by rw [hd,Kx,hv]
     rw [ht]
     exact hJ 7 (i+1) v hlt (by omega)
    |none =>
     have ht:Bv orW (L.drop i)=bP (Ba [[40]]) (fun _=>bP (VV 1) fun e=>bP (Ba [[41]]) fun _=>Hq e) (L.drop i):=by
      rw [hd,Kx,hv]
      simp only [bP,Ba,brP,Amk]
      cases isT [40] (t::L.drop (i+1)) with
      |false=>rfl
      |true =>
       simp only [List.tail_cons]
       cases orW (L.drop (i+1)) with
       |error q=>rfl
       |ok y =>
        simp only
        cases isT [41] y.2<;>rfl
     rw [ht]
     exact br
   ·have hd:L.drop i=[]:=Zk1 (by omega)
    have hh:Wh (hd0 (L.drop i))=none:=by rw [hd];rfl
    have ht:Bv orW (L.drop i)=bP (Ba [[40]]) (fun _=>bP (VV 1) fun e=>bP (Ba [[41]]) fun _=>Hq e) (L.drop i):=by rw [hd];rfl
    rw [hh,ht]
    exact br) (fun i=>by
 show Wc (Ea (L.length+3) rf (L,⟨(i:Int),true⟩,(k:Int))) i
 simp only [Ea,Af]
 exact⟨_,rfl⟩)
end
theorem Ax5{L:TL}(hL:L.length≤1000000000):∀(n k:Nat),1≤k→k≤7→SimG L n (fun g=>Al (V:=HV [.sl .tok false,.sv .got,.int .i64]) (R:=HV [.sv .expr,.sv .got]) Rn (n+1) (L,g,(k:Int))) (VV k)
 |0,k,_,_=>⟨fun _ _ _ _ h=>absurd h (Zm1 _),fun _ _ _ h=>absurd h (Zm1 _),fun i=>by
  simp only [A3,Rn,Ea,Af]
  exact⟨_,rfl⟩⟩
 |n+1,k,k1,k7=>A99 hL (fun k k1 k7=>Ax5 hL n k k1 k7) k1 k7
theorem A14{L:TL}(hL:L.length≤1000000000) (k:Nat) (k1 : 1≤k) (k7:k≤7) (n:Nat) (hn:n≤L.length+2):SimG L n (fun g=>Afs L g (k:Int)) (VV k):=(Ax5 hL (L.length+2) k k1 k7).mono hn
theorem Ayv{L:TL}(hL:L.length≤1000000000):SimG L (L.length+1) (fun g=>Afs L g 1) orW:=by
 have h:=A14 hL 1 (by omega) (by omega) (L.length+1) (by omega)
 rw [Amk] at h
 exact h
end Go.Proofs.YthndhaolemgbdaaGreatDoor
namespace Go.Proofs.YthndhaolemgbdaaGreatDoor
open Go.Ax
section
variable {L:TL}{V α γ:Type}{step:(V→Option (γ×GotS))→V→Option (γ×GotS)}{st:List α→GotS→V}{F:GotS→Option (α×GotS)}{part:TL→PR α}{c:List α→GotS→Option (γ×GotS)}{f:List α→TL→PR γ}
end
section
variable {L:TL}
theorem SimG.all{α:Type}{F:GotS→Option (α×GotS)}{p:TL→PR α}(h:SimG L (L.length+1) F p) (n:Nat):SimG L n F p :=
 ⟨fun i e m hi _=>h.ok i e m hi (by omega),fun i q hi _=>h.er i q hi (by omega),h.bad⟩
end
end Go.Proofs.YthndhaolemgbdaaGreatDoor
namespace Go.Proofs.YthndhaolemgbdaaGreatDoor
open Go.Ax
section
variable {L:TL}
end
end Go.Proofs.YthndhaolemgbdaaGreatDoor
namespace Go.Proofs.YthndhaolemgbdaaGreatDoor
open Go.Ax
end Go.Proofs.YthndhaolemgbdaaGreatDoor
namespace Go.Proofs.YthndhaolemgbdaaGreatDoor
open Go.Ax
open Lp (tokS tw isWd isUp isLo isDi isIn pre clsF rnameF wordF nq qS unGo hexD rnumF rnumGo checkF)
def dlm(r:Str):Prop:=∀c t,r=c::t→isWd (c.toNat:Int)=false∧c≠39
theorem Bbd{p q:UInt8→Bool}(h:∀b,p b=true→q b=true) {w:Str}(hw:w.all p=true):w.all q=true:=Zg2.2 fun b hb=>h b (Zg2.1 hw b hb)
theorem Bcr{p:Int→Bool}{w r:Str}(hw:w.all (fun b=>p b.toNat)=true) (hr:∀c t,r=c::t→p (c.toNat:Int)=false):tw p (w++r)=w:=by
 rw [Lp.tw_app r hr w]
 have h1:=(Lp.tw_full (p:=p) w).2 hw
 have h2:=Lp.tw_take p w
 rw [h1,List.take_length] at h2
 exact h2.symm
theorem Bgf{m:Str}(h:∀a t,m=a::39::t→False):pre m [120,39]=false:=by
 match m,h with
 |[],_=>rfl
 |[a],_=>simp [pre]
 |a::b::t,h =>
  have hb:b≠39:=fun e=>h a t (by rw [e])
  simp [pre,hb]
theorem Bje:isWd 39=false:=by decide +kernel
theorem A6u{w r:Str}(hne:w≠[]) (hw:w.all (fun b=>isWd b.toNat)=true) (hr:dlm r):pre (w++r) [120,39]=false:=by
 refine Bgf fun a t h =>?_
 match w,hne,hw,h with
 |[x],_,_,h =>
  simp only [Zb2,Zf2,Ze2] at h
  exact(hr 39 t h.2).2 rfl
 |x::y::w,_,hw,h =>
  simp only [Zb2,Ze2] at h
  obtain⟨_,rfl,_⟩:=h
  simp only [Zv1,Zb1] at hw
  have h2:=hw.2.1
  have e:((39:UInt8).toNat:Int)=39:=rfl
  rw [e,Bje] at h2
  cases h2
theorem Bf4{c:Int}(h:isUp c=true):clsF c=1:=by simp [clsF,h]
theorem Azx{w r:Str}(h:wordF w=true) (hr:dlm r):tokS (w++r)=some (1,w,0,w.length):=by
 have hu:=Lp.word_up h
 have hne:w≠[]:=by rintro rfl;exact absurd h (by decide +kernel)
 have hw:w.all (fun b=>isWd b.toNat)=true:=Bbd (fun b hb=>Lp.up_wd b hb) hu
 have hp:=A6u hne hw hr
 have ht:=Bcr hw (fun c t e=>(hr c t e).1)
 cases w with
 |nil=>exact absurd rfl hne
 |cons c t =>
  simp only [Zv1,Zb1] at hu
  have hc:clsF (Sx.byt (c::t++r) 0)=1:=Bf4 hu.1
  unfold tokS
  rw [hp,ht,if_neg (by simp),if_pos hc,if_pos h]
def As5(n:Nat):Str:=if n=0 then [48] else txt (Nu n)
theorem A8b{n:Int}(h : 0≤n):A84 n=As5 n.natAbs:=by
 unfold A84 As5
 rw [if_neg (by omega)]
 by_cases h0:n=0
 ·rw [if_pos h0,if_pos (by omega)]
 ·rw [if_neg h0,if_neg (by omega)]
theorem A2w(x:Str):Eg x=Lp.visF x:=by
 have e:∀b:UInt8,vis b=Lp.vis (b.toNat:Int):=fun b=>by
  simp only [vis,Lp.vis]
  rw [show decide (32≤b.toNat)=decide (32≤(b.toNat:Int)) from Zy1.2 (by omega),show decide (b.toNat≤126)=decide ((b.toNat:Int)≤126) from Zy1.2 (by omega)]
 simp only [Eg,Lp.visF]
 congr 1
 funext b
 exact e b
theorem A59(x:Str):Dv (Val.mk 4 0 x)=Lp.rightF 4 0 x:=by
 show cond (decide ((x.length:Int)≤1000)) (Eg x) false=(decide ((x.length:Int)≤1000)&&Lp.visF x)
 rw [A2w]
 cases decide ((x.length:Int)≤1000)<;>rfl
end Go.Proofs.YthndhaolemgbdaaGreatDoor
namespace Go.Proofs.YthndhaolemgbdaaGreatDoor
open Go.Ax
end Go.Proofs.YthndhaolemgbdaaGreatDoor
namespace Go.Proofs.YthndhaolemgbdaaGreatDoor
open Go.Ax
open Lp (tokS)
def Be6(k:Int):Prop:=4≤k∧k≤14
inductive Shape:Xpr→Prop where
 |atom (e:Xpr) (h:e.kind=1∨e.kind=2):Shape e
 |not (x:Xpr):Shape (.mk 3 ⟨0,0,[]⟩ [] [x])
 |neg (x:Xpr):Shape (.mk 15 ⟨0,0,[]⟩ [] [x])
 |isn (x:Xpr):Shape (.mk 16 ⟨0,0,[]⟩ [] [x])
 |op (k:Int) (x y:Xpr) (h:Be6 k):Shape (.mk k ⟨0,0,[]⟩ [] [x,y])
theorem Ayg(x:Xpr):etx (.mk 3 ⟨0,0,[]⟩ [] [x])=40::([78,79,84]++32::(etx x++[41])):=by
 simp [etx,etxs]
theorem Bbv(x:Xpr):etx (.mk 15 ⟨0,0,[]⟩ [] [x])=40::45::(etx x++[41]):=by
 simp [etx,etxs]
theorem Awy(x:Xpr):etx (.mk 16 ⟨0,0,[]⟩ [] [x])=40::(etx x++32::73::83::32::78::85::76::76::[41]):=by
 simp [etx,etxs]
theorem Bgu{k:Int}(h:Be6 k) (x y:Xpr):etx (.mk k ⟨0,0,[]⟩ [] [x,y])=40::(etx x++32::(sgn k++32::(etx y++[41]))):=by
 simp only [Be6] at h
 simp only [etx,etxs,etx1]
 rw [if_neg (by omega),if_neg (by omega),if_neg (by omega),if_neg (by omega),if_neg (by omega)]
 simp
def Ba0(k:Int):Bool:=(sgn k).all (fun c => !decide (c=32)) && !decide (sgn k=[]) && !decide ((sgn k).head? = some 73)
end Go.Proofs.YthndhaolemgbdaaGreatDoor
namespace Go.Proofs.YthndhaolemgbdaaGreatDoor
open Go.Ax
open Lp (tokS)
section
variable {α:Type}(f : α→Str) (P : α→Prop) (D:Str→Prop)
end
theorem Bd3{s:Stm}(h : 1≤s.kind∧s.kind≤8):(N8 s).take 6=if s.kind=1∨s.kind=3 then [67,82,69,65,84,69] else if s.kind=2 then [68,82,79,80,32,84] else if s.kind=4 then [68,82,79,80,32,73] else if s.kind=5 then [73,78,83,69,82,84] else if s.kind=6 then [85,80,68,65,84,69] else if s.kind=7 then [68,69,76,69,84,69] else [83,69,76,69,67,84]:=by
 have:s.kind=1∨s.kind=2∨s.kind=3∨s.kind=4∨s.kind=5∨s.kind=6∨s.kind=7∨s.kind=8:=by omega
 rcases this with h|h|h|h|h|h|h|h<;>simp [N8,N3,Ass,h]
theorem Ado{s t:Stm}(hs : 1≤s.kind∧s.kind≤8) (ht : 1≤t.kind∧t.kind≤8) (h:N8 s=N8 t):s.kind=t.kind:=by
 have h6:=congrArg (List.take 6) h
 rw [Bd3 hs,Bd3 ht] at h6
 have e1:s.kind=1∨s.kind=2∨s.kind=3∨s.kind=4∨s.kind=5∨s.kind=6∨s.kind=7∨s.kind=8:=by omega
 have e2:t.kind=1∨t.kind=2∨t.kind=3∨t.kind=4∨t.kind=5∨t.kind=6∨t.kind=7∨t.kind=8:=by omega
 rcases e1 with k|k|k|k|k|k|k|k<;>rcases e2 with l|l|l|l|l|l|l|l<;>first
  |exact k.trans l.symm
  |(simp [k,l] at h6;done)
  |(simp [N8,N3,k,l] at h)
end Go.Proofs.YthndhaolemgbdaaGreatDoor
namespace Go.Proofs.YthndhaolemgbdaaGreatDoor
open Go.Ax
open Lp (tokS Sc clsF)
theorem Bcw{m:Str}{x:Int×Str×Int×Nat}(h:tokS m=some x):clsF (Sx.byt m 0)≠6:=fun h6=>by
 by_cases hp:Lp.pre m [120,39]=true
 ·have e:Sx.byt m 0=120:=by
   match m,hp with
   |[],hp=>cases hp
   |[a],hp=>simp [Lp.pre] at hp
   |a::b::t,hp =>
    simp [Lp.pre] at hp
    rw [hp.1]
    rfl
  rw [e] at h6
  exact absurd h6 (by decide +kernel)
 ·unfold tokS at h
  rw [if_neg hp,h6] at h
  simp at h
theorem Bgn{w r:Str}{q k n:Int}{s:Str}{us:TL}(h:tokS (w++r)=some (k,s,n,w.length)) (hr:Sc r (q+w.length) us):Sc (w++r) q (⟨k,q,s,n⟩::us) :=
 .tok (Bcw h) h (by rw [List.drop_left];exact hr)
theorem Bim:clsF ((32:UInt8).toNat:Int)=6:=by decide +kernel
def Lx(D:Str→Prop) (a:Str) (Q:TL→Prop):Prop:=∀r q us,D r→Sc r (q+a.length) us→∃ts,Sc (a++r) q (ts++us)∧Q ts
def Bjo(_:Str):Prop:=True
theorem Lx.app{D1 D2:Str→Prop}{a b:Str}{Q1 Q2:TL→Prop}(ha:Lx D1 a Q1) (hb:Lx D2 b Q2) (hd:∀r,D2 r→D1 (b++r)):Lx D2 (a++b) fun ts=>∃t1 t2,ts=t1++t2∧Q1 t1∧Q2 t2:=fun r q us hr hs=>by
 obtain⟨t2,h2,q2⟩:=hb r (q+a.length) us hr (by rw [Zh1] at hs;rw [show q+(a.length:Int)+(b.length:Int)=q+((a.length+b.length:Nat):Int) by omega];exact hs)
 obtain⟨t1,h1,q1⟩:=ha (b++r) q (t2++us) (hd r hr) h2
 exact⟨t1++t2,by rw [Zj1,Zj1];exact h1,t1,t2,rfl,q1,q2⟩
theorem Lx.mono{D D':Str→Prop}{a:Str}{Q Q':TL→Prop}(h:Lx D a Q) (hd:∀r,D' r→D r) (hq:∀ts,Q ts→Q' ts):Lx D' a Q':=fun r q us hr hs=>by
 obtain⟨ts,h1,h2⟩:=h r q us (hd r hr) hs
 exact⟨ts,h1,hq ts h2⟩
theorem Lx.nil{D:Str→Prop}{Q:TL→Prop}(h:Q []):Lx D [] Q:=fun r q us _ hs=>⟨[],by simpa using hs,h⟩
theorem Lx.sp{D:Str→Prop}{a:Str}{Q:TL→Prop}(h:Lx D a Q):Lx D (32::a) Q:=fun r q us hr hs=>by
 obtain⟨ts,h1,h2⟩:=h r (q+1) us hr (by rw [Zf1] at hs;rw [show q+1+(a.length:Int)=q+((a.length+1:Nat):Int) by omega];exact hs)
 exact⟨ts,.blank Bim h1,h2⟩
def Bir(k:Int) (s:Str) (n:Int) (ts:TL):Prop:=∃t:Tok,ts=[t]∧t.kind=k∧t.s=s∧t.n=n
def IsW(s:Str) (ts:TL):Prop:=∃t:Tok,ts=[t]∧isT s [t]=true
theorem Lx.one{D:Str→Prop}{w s:Str}{k n:Int}(h:∀r,D r→tokS (w++r)=some (k,s,n,w.length)):Lx D w (Bir k s n):=fun r q _ hr hs =>
 ⟨[⟨k,q,s,n⟩],Bgn (h r hr) hs,_,rfl,rfl,rfl,rfl⟩
theorem Bik{k n:Int}{s:Str}(hk:k=1∨k=6) {ts:TL}(h:Bir k s n ts):IsW s ts:=by
 obtain⟨t,h1,h2,h3,_⟩:=h
 refine⟨t,h1,?_⟩
 simp only [isT,h2,h3,decide_true,Bool.and_true,Zd2,Zg1]
 exact hk
theorem Lx.word{w:Str}(h:Lp.wordF w=true):Lx dlm w (IsW w):=(Lx.one fun _ hr=>Azx h hr).mono (fun _ h=>h) (fun _ h=>Bik (.inl rfl) h)
theorem Biv{c:UInt8}(hc:clsF (c.toNat:Int)=7):c≠120:=fun h=>by
 subst h
 exact absurd hc (by decide +kernel)
theorem A00{c:UInt8}{r:Str}(hc:clsF (c.toNat:Int)=7) (h2:Lp.twoS (c::r)=false):tokS ([c]++r)=some (6,[c],0,[c].length):=by
 have hp:Lp.pre (c::r) [120,39]=false:=by simp [Lp.pre,Biv hc]
 have hc':clsF (Sx.byt (c::r) 0)=7:=hc
 show tokS (c::r)=_
 unfold tokS
 rw [hp,if_neg (by simp),if_neg (by rw [hc'];decide),if_neg (by rw [hc'];decide),if_neg (by rw [hc'];decide),if_neg (by rw [hc'];decide),if_pos hc',h2]
 rfl
theorem Bg0{c:UInt8}(h1:c≠60) (h2:c≠62) (r:Str):Lp.twoS (c::r)=false:=by simp [Lp.twoS,Lp.pre,h1,h2]
theorem Lx.sign{c:UInt8}(hc:clsF (c.toNat:Int)=7) (h1:c≠60) (h2:c≠62):Lx Bjo [c] (IsW [c]):=(Lx.one fun r _=>A00 hc (Bg0 h1 h2 r)).mono (fun _ h=>h) (fun _ h=>Bik (.inr rfl) h)
structure isPE (ts:TL) (e:Xpr):Prop where
 ne:ts≠[]
 hn:isT sNOT ts=false
 hm:isT [45] ts=false
 hs:isT [42] ts=false
 rd:∀us,Bv orW (ts++us) = .ok (e,us)
def Stop(us:TL):Prop:=A2 us=(0,0)∧isT sIS us=false
def isIn(ts:TL) (e:Xpr):Prop:=∀us,Stop us→orW (ts++us) = .ok (e,us)
end Go.Proofs.YthndhaolemgbdaaGreatDoor
namespace Go.Proofs.YthndhaolemgbdaaGreatDoor
open Go.Ax
open Lp (tokS Sc clsF)
def Rd{α:Type}(p:TL→PR α) (D:Str→Prop) (S T:TL→Prop) (a:Str) (x : α):Prop:=Lx D a fun ts=>∀vs,S vs→T (ts++vs)∧p (ts++vs) = .ok (x,vs)
section
variable {α β:Type}{p:TL→PR α}{D D1 D2:Str→Prop}{S S1 S2 T T1 T2:TL→Prop}{a b:Str}{x : α}{y : β}
theorem Rd.bind{f : α→TL→PR β}(h1:Rd p D1 S1 T1 a x) (h2:Rd (f x) D2 S2 T2 b y) (hd:∀r,D2 r→D1 (b++r)) (hs:∀l,T2 l→S1 l):Rd (bP p f) D2 S2 T1 (a++b) y :=
 (Lx.app h1 h2 hd).mono (fun _ h=>h) fun ts ⟨t1,t2,e,q1,q2⟩ vs hv=>by
  subst e
  obtain⟨a1,a2⟩:=q2 vs hv
  obtain⟨b1,b2⟩:=q1 (t2++vs) (hs _ a1)
  rw [Zj1]
  refine⟨b1,?_⟩
  simp only [bP,b2,a2]
theorem Rd.map{g : α→β}(h:Rd p D S T a x):Rd (bP p fun x=>Hq (g x)) D S T a (g x) :=
 Lx.mono h (fun _ h=>h) fun _ q vs hv=>⟨(q vs hv).1,by simp only [bP,(q vs hv).2];rfl⟩
theorem Rd.mono(h:Rd p D1 S1 T1 a x) (hd:∀r,D2 r→D1 r) (hs:∀l,S2 l→S1 l) (ht:∀l,T1 l→T2 l):Rd p D2 S2 T2 a x :=
 Lx.mono h hd fun _ q vs hv=>⟨ht _ (q vs (hs vs hv)).1,(q vs (hs vs hv)).2⟩
end
def hdW(w:Str) (l:TL):Prop:=isT w l=true
end Go.Proofs.YthndhaolemgbdaaGreatDoor
namespace Go.Proofs.YthndhaolemgbdaaGreatDoor
open Go.Ax
abbrev RS:=List Tok×Int×Bool×Int
def hdT(n:Int):TL→Tok
 |[]=>⟨0,n,[],0⟩
 |t::_=>t
theorem Bew(n:Int) (l:TL):(hdT n l).pos=Hh n l:=by cases l<;>rfl
theorem Q9(l:TL) (n:Int) (b:Bool) (p:Int):Dh (l,n,b,p)=some (hdT n l,l,n,b,p):=by
 cases l with
 |nil=>rfl
 |cons t r =>
  have e:decide (((t::r).length:Int)=0)=false:=Zd1 (by simp only [Zf1];omega)
  have h0:inb 0 (t::r).length=true:=A4 (i:=0) (by simp)
  simp only [Dh,Tt,e,Ah,h0,chk]
  rfl
theorem Axu(l:TL) (n:Int) (b:Bool) (p:Int):Ca (l,n,b,p)=some (hdT n l,l.tail,n,b,p):=by
 simp only [Ca,Um,Q9,Zc1]
 cases l with
 |nil=>rfl
 |cons t r =>
  have e:decide (0<((t::r).length:Int))=true:=Ze1 (by simp only [Zf1];omega)
  have h:Cs 1 ((t::r).length:Int) (t::r).length=true:=by
   simp only [Cs,Zb1,Zg1,Zf1]
   omega
  simp only [e,Af,h,chk]
  rfl
theorem Bgd(t:Tok) (r:TL) (n:Int) (b:Bool) (p:Int):Dh (t::r,n,b,p)=some (t,t::r,n,b,p):=Q9 _ _ _ _
theorem Bg1(t:Tok) (r:TL) (n:Int) (b:Bool) (p:Int):Ca (t::r,n,b,p)=some (t,r,n,b,p):=Axu _ _ _ _
theorem Acs{s:Str}{l:TL}{n:Int}{b:Bool}{p:Int}(h:isT s l=true):A0 (s,l,n,b,p)=some (true,l.tail,n,b,p):=by
 cases l with
 |nil=>cases h
 |cons t r =>
  simp only [isT,Zb1] at h
  simp only [A0,W4,Q9,Axu,Zc1,hdT,h.2,Zt1,Ah]
  have h1:=h.1
  generalize decide (t.kind=1)=c1 at h1 ⊢
  generalize decide (t.kind=6)=c2 at h1 ⊢
  cases c1<;>cases c2<;>first|rfl|cases h1
theorem Agd{s:Str}{l:TL}{n:Int}{b:Bool}{p:Int}(h:isT s l=false):A0 (s,l,n,b,p)=some (false,l,n,b,p):=by
 simp only [A0,W4,Q9,Zc1]
 cases l with
 |nil=>rfl
 |cons t r =>
  simp only [isT] at h
  simp only [hdT]
  by_cases h1:t.kind=1<;>by_cases h6:t.kind=6<;>by_cases h3:t.s=s<;>first|(exfalso;simp [h1,h6,h3] at h;done)|simp [h1,h6,h3]
theorem Awh(l:TL) (n p:Int):Co (l,n,false,p)=some (l,n,true,Hh n l):=by
 simp only [Co,Pu,Q9,Zc1,Bew,Zs1,Af]
theorem Azb(l:TL) (n p:Int):Co (l,n,true,p)=some (l,n,true,p):=rfl
theorem Ajh{R:Type}{kx:Ex→Qz→Option R}{ss:List Str}{n:Int}{c:TL→Bool→Int→Option R}(hn:ln ss.length) (h1:∀i l b p,kx .ret (ss,(ss.length:Int),i,l,n,b,p)=c l b p) (h2:∀i l b p,kx (.exit 0) (ss,(ss.length:Int),i,l,n,b,p)=c l b p) (a:Int):∀(k i:Nat) (l:TL),i≤ss.length→ss.length-i<k →
  Al (fun rec=>L8 rec kx) k (ss,(ss.length:Int),(i:Int),l,n,false,a)=match Ba (ss.drop i) l with
   |.ok (_,l')=>c l' false a
   |.error q=>c q true (Hh n q)
 |0,_,_,_,h=>absurd h (Zm1 _)
 |k+1,i,l,hi,h=>by
  rw [A3]
  by_cases hlt:i<ss.length
  ·have ih:=Ajh hn h1 h2 a k (i+1) l.tail (by omega) (by omega)
   rw [Am hlt]
   simp only [L8,Fw hlt,Af,Ah,A4 hlt,chk,A9 (c :=.str) hlt,Az hlt hn,Ba]
   cases ht:isT ss[i] l with
   |true=>simp only [Acs ht,Zc1,Zt1,Ah,ih]
   |false=>simp only [Agd ht,Zc1,Zs1,Af,Awh,h1]
  ·obtain rfl:i=ss.length:=by omega
   simp only [L8,Fx,Ah,h2,Zc2,Ba]
theorem Aoa{ss:List Str}(hs:ss.length≤100) (l:TL) (n a:Int):Aw (ss,l,n,false,a)=match Ba ss l with
  |.ok (_,l')=>some (l',n,false,a)
  |.error q=>some (q,n,true,Hh n q):=by
 simp only [Aw,Iv]
 exact Ajh (c:=fun l b p=>some (l,n,b,p)) (by simp only [ln];omega) (fun _ _ _ _=>rfl) (fun _ _ _ _=>rfl) a (ss.length+1) 0 l (Nat.zero_le _) (by omega)
theorem Xw{ss:List Str}(hs:ss.length≤100) {l l':TL}{x:Unit}(h:Ba ss l = .ok (x,l')) (n a:Int):Aw (ss,l,n,false,a)=some (l',n,false,a):=by rw [Aoa hs,h]
theorem Vo{ss:List Str}(hs:ss.length≤100) {l q:TL}(h:Ba ss l = .error q) (n a:Int):Aw (ss,l,n,false,a)=some (q,n,true,Hh n q):=by rw [Aoa hs,h]
theorem Ang(ss:List Str) (l:TL) (n a:Int):Aw (ss,l,n,true,a)=some (l,n,true,a):=by
 cases ss with
 |nil=>rfl
 |cons s r =>
  have e:decide ((0:Int)<((s::r).length:Int))=true:=Ze1 (by simp only [Zf1];omega)
  have h0:inb 0 (s::r).length=true:=A4 (i:=0) (by simp)
  simp only [Aw,Iv,A3,L8,e,Af,h0,chk,Azb,Zc1]
theorem Ase{s:Str}{l:TL}(h:isT s l=true):Ba [s] l = .ok ((),l.tail):=by simp only [Ba,h]
theorem Axr{s:Str}{l:TL}(h:isT s l=false):Ba [s] l = .error l:=by simp only [Ba,h]
structure SimP {α:Type}(F:RS→Option (α×RS)) (p:TL→PR α) (L:Nat):Prop where
 ok:∀l n a e l',l.length<L→p l = .ok (e,l')→F (l,n,false,a)=some (e,l',n,false,a)
 er:∀l n a q,l.length<L→p l = .error q→∃e l',F (l,n,false,a)=some (e,l',n,true,Hh n q)
 bad:∀l n a,∃e,F (l,n,true,a)=some (e,l,n,true,a)
theorem Ax4(rf:Au→Option Aq) (t:Tok) (r:TL) (n a:Int):D4 rf (t::r,n,false,a)=match Wh t with
  |some v=>some (v,r,n,false,a)
  |none=>(Aw ([[40]],t::r,n,false,a)).bind fun(x1,x2,x3,x4)=>(rf (x1,x2,x3,x4)).bind fun(e,y1,y2,y3,y4)=>(Aw ([[41]],y1,y2,y3,y4)).bind fun(z1,z2,z3,z4)=>some (e,z1,z2,z3,z4):=by
 simp only [D4,Jo,Bgd,Bg1,Zc1,Ah]
 unfold Wh
 by_cases h2:t.kind=2
 ·rw [Ze1 h2,if_pos h2];rfl
 rw [Zd1 h2,if_neg h2,Ah]
 by_cases h3:t.kind=3
 ·rw [Ze1 h3,if_pos h3];rfl
 rw [Zd1 h3,if_neg h3,Ah]
 by_cases h4:t.kind=4
 ·rw [Ze1 h4,if_pos h4];rfl
 rw [Zd1 h4,if_neg h4,Ah]
 by_cases h5:t.kind=5
 ·rw [Ze1 h5,if_pos h5];rfl
 rw [Zd1 h5,if_neg h5,Ah]
 by_cases h1:t.kind=1
 ·rw [Ze1 h1]
  simp only [Af]
  by_cases g1:t.s=X6
  ·rw [Ze1 (show t.s=[84,82,85,69] from g1),if_pos ⟨h1,g1⟩];rfl
  rw [Zd1 (show ¬t.s=[84,82,85,69] from g1),if_neg (fun q=>g1 q.2),Ah]
  by_cases g2:t.s=Mg
  ·rw [Ze1 (show t.s=[70,65,76,83,69] from g2),if_pos ⟨h1,g2⟩];rfl
  rw [Zd1 (show ¬t.s=[70,65,76,83,69] from g2),if_neg (fun q=>g2 q.2),Ah]
  by_cases g3:t.s=sNULL
  ·rw [Ze1 (show t.s=[78,85,76,76] from g3),if_pos ⟨h1,g3⟩];rfl
  rw [Zd1 (show ¬t.s=[78,85,76,76] from g3),if_neg (fun q=>g3 q.2),Ah]
 ·rw [Zd1 h1,if_neg (fun q=>h1 q.1),if_neg (fun q=>h1 q.1),if_neg (fun q=>h1 q.1)]
  simp only [Ah]
def Nq{α:Type}(F:RS→Option (α×RS)):Prop:=∀l n a,∃e,F (l,n,true,a)=some (e,l,n,true,a)
theorem Ak9(rf:Au→Option Aq):Nq (D4 rf):=fun l n a=>by
 simp only [D4,Jo,Q9,Zc1,Af]
 exact⟨_,rfl⟩
theorem A1l{rf:Au→Option Aq}{rec:TL→PR Xpr}{L:Nat}(h:SimP rf rec L):SimP (D4 rf) (Bv rec) (L+1) where
 ok l n a e l' hl hp:=by
  cases l with
  |nil=>cases hp
  |cons t r =>
   simp only [Zf1] at hl
   rw [Kx] at hp
   rw [Ax4]
   cases hv:Wh t with
   |some v=>rw [hv] at hp;cases hp;rfl
   |none =>
    rw [hv] at hp
    cases hi:isT [40] (t::r) with
    |false=>rw [hi] at hp;cases hp
    |true =>
     rw [hi] at hp
     simp only [brP,bP] at hp
     simp only [Xw (by decide) (Ase hi),Zc1,List.tail_cons]
     cases hq:rec r with
     |error q=>rw [hq] at hp;cases hp
     |ok x =>
      obtain⟨e1,l1⟩:=x
      rw [hq] at hp
      simp only at hp
      simp only [h.ok r n a e1 l1 (by omega) hq,Zc1]
      cases hj:isT [41] l1 with
      |false=>rw [hj] at hp;cases hp
      |true =>
       rw [hj] at hp
       cases hp
       simp only [Xw (by decide) (Ase hj),Zc1]
 er l n a q hl hp:=by
  cases l with
  |nil =>
   cases hp
   obtain⟨e1,h1⟩:=h.bad [] n n
   refine⟨e1,[],?_⟩
   have e:D4 rf ([],n,false,a)=(Aw ([[40]],[],n,false,a)).bind fun(x1,x2,x3,x4)=>(rf (x1,x2,x3,x4)).bind fun(e,y1,y2,y3,y4)=>(Aw ([[41]],y1,y2,y3,y4)).bind fun(z1,z2,z3,z4)=>some (e,z1,z2,z3,z4):=rfl
   have hm:Ba [[40]] ([]:TL) = .error []:=rfl
   simp only [e,Vo (by decide) hm,Zc1,Hh,h1,Ang]
  |cons t r =>
   simp only [Zf1] at hl
   rw [Kx] at hp
   rw [Ax4]
   cases hv:Wh t with
   |some v=>rw [hv] at hp;cases hp
   |none =>
    rw [hv] at hp
    cases hi:isT [40] (t::r) with
    |false =>
     rw [hi] at hp
     cases hp
     obtain⟨e1,h1⟩:=h.bad (t::r) n (Hh n (t::r))
     simp only [Vo (by decide) (Axr hi),Zc1,h1,Ang]
     exact⟨_,_,rfl⟩
    |true =>
     rw [hi] at hp
     simp only [brP,bP] at hp
     simp only [Xw (by decide) (Ase hi),Zc1,List.tail_cons]
     cases hq:rec r with
     |error q' =>
      rw [hq] at hp
      cases hp
      obtain⟨e1,l1,h1⟩:=h.er r n a q (by omega) hq
      simp only [h1,Zc1,Ang]
      exact⟨_,_,rfl⟩
     |ok x =>
      obtain⟨e1,l1⟩:=x
      rw [hq] at hp
      simp only at hp
      simp only [h.ok r n a e1 l1 (by omega) hq,Zc1]
      cases hj:isT [41] l1 with
      |true=>rw [hj] at hp;cases hp
      |false =>
       rw [hj] at hp
       cases hp
       simp only [Vo (by decide) (Axr hj),Zc1]
       exact⟨_,_,rfl⟩
 bad:=Ak9 rf
end Go.Proofs.YthndhaolemgbdaaGreatDoor
namespace Go.Proofs.YthndhaolemgbdaaGreatDoor
open Go.Ax
def Cq(s:Str):TL→Nat×TL
 |[]=>(0,[])
 |t::r=>match isT s (t::r) with
  |true=>((Cq s r).1+1,(Cq s r).2)
  |false=>(0,t::r)
def Ju(k:Int):Nat→Xpr→Xpr
 |0,e=>e
 |n+1,e=>Ju k n (.mk k ⟨0,0,[]⟩ [] [e])
theorem Aqe(k:Int):∀(n:Nat) (e:Xpr),Ju k (n+1) e=mkX k [Ju k n e]
 |0,_=>rfl
 |n+1,_=>Aqe k n _
theorem Adj{s:Str}{l:TL}(h:isT s l=true):Cq s l=((Cq s l.tail).1+1,(Cq s l.tail).2):=by
 cases l with
 |nil=>cases h
 |cons t r=>simp only [Cq,h,List.tail_cons]
theorem Ac2{s:Str}{l:TL}(h:isT s l=false):Cq s l=(0,l):=by
 cases l with
 |nil=>rfl
 |cons t r=>simp only [Cq,h]
theorem Lw(s:Str):∀l:TL,(Cq s l).1+(Cq s l).2.length=l.length
 |[]=>rfl
 |t::r=>by
  have ih:=Lw s r
  cases h:isT s (t::r) with
  |true=>rw [Adj h];simp only [List.tail_cons,Zf1];omega
  |false=>rw [Ac2 h];simp
theorem G6(s:Str) (k:Int) (part:TL→PR Xpr):∀l:TL,A7 s k part l=match part (Cq s l).2 with
  |.error q =>.error q
  |.ok (e,l') =>.ok (Ju k (Cq s l).1 e,l')
 |[]=>by
  simp only [A7,Cq,Ju]
  cases part []<;>rfl
 |t::r=>by
  cases h:isT s (t::r) with
  |true =>
   rw [Adj h]
   simp only [A7,h,G6 s k part r,List.tail_cons]
   cases part (Cq s r).2 with
   |error q=>rfl
   |ok x=>simp only [Aqe]
  |false =>
   rw [Ac2 h]
   simp only [A7,h,Ju]
   cases part (t::r)<;>rfl
theorem Amg{R:Type}{kx:Ex→Xa→Option R}{s:Str}{kd n a:Int}{z1 z2:Xpr}{c:Int→TL→Option R}(h:∀i l,kx (.exit 0) (s,kd,i,l,n,false,a,z1,z2)=c i l):∀(k i:Nat) (l:TL),l.length<k→i+l.length≤1000000000 →
  Al (fun rec=>Yr rec kx) k (s,kd,(i:Int),l,n,false,a,z1,z2)=c ((i+(Cq s l).1:Nat):Int) (Cq s l).2
 |0,_,_,hk,_=>absurd hk (Zm1 _)
 |k+1,i,l,hk,hb=>by
  rw [A3]
  simp only [Yr,Zs1,Af]
  cases hi:isT s l with
  |false=>simp only [Agd hi,Zc1,Ah,h,Ac2 hi,Nat.add_zero]
  |true =>
   have hl:=J3 hi
   have hw:wr .i64 ((i:Int)+1)=((i+1:Nat):Int):=Az (n:=i+1) (by omega) (by simp only [ln];omega)
   simp only [Acs hi,Zc1,Af,hw,Amg h k (i+1) l.tail (by omega) (by omega),Adj hi]
   rw [Nat.add_assoc,Nat.add_comm 1]
theorem Al8{R:Type}{kx:Ex→Vh→Option R}{kd:Int}{m:Nat}{l:TL}{n a:Int}{b:Bool}{z1 z2:Xpr}{c:Xpr→Option R}(h:∀i e,kx (.exit 2) (kd,(m:Int),i,l,n,b,a,z1,z2,e)=c e) (hm:m≤1000000000):∀(k i:Nat) (e:Xpr),i≤m→m-i<k →
  Al (fun rec=>T8 rec kx) k (kd,(m:Int),(i:Int),l,n,b,a,z1,z2,e)=c (Ju kd (m-i) e)
 |0,_,_,_,hk=>absurd hk (Zm1 _)
 |k+1,i,e,hi,hk=>by
  rw [A3]
  by_cases hlt:i<m
  ·have hs:m-i=(m-(i+1))+1:=by omega
   simp only [T8,Fw hlt,Af,Az hlt (show ln m by simp only [ln];omega),Al8 h hm k (i+1) _ (by omega) (by omega),hs,Ju]
  ·obtain rfl:i=m:=by omega
   simp only [T8,Fx,Ah,h,Nat.sub_self,Ju]
theorem Apw{rf:Au→Option Aq}(h:Nq (D4 rf)):Nq (Gj rf):=fun l n a=>by
 obtain⟨e1,h1⟩:=h l n a
 refine⟨e1,?_⟩
 simp only [Gj,H4,A3,Yr,Zt1,Ah,h1,Zc1,T8]
 rfl
theorem A8y{rf:Au→Option Aq}{part:TL→PR Xpr}{L:Nat}(h:SimP (D4 rf) part L) (hL:L≤1000000000):SimP (Gj rf) (A7 [45] 15 part) L where
 ok l n a e l' hl hp:=by
  have hs:=Lw [45] l
  rw [G6] at hp
  simp only [Gj,H4]
  refine(Amg (s:=[45]) (i:=0) (fun _ _=>rfl) (l.length+1) l (by omega) (by omega)).trans ?_
  cases hq:part (Cq [45] l).2 with
  |error q=>rw [hq] at hp;cases hp
  |ok x =>
   obtain⟨e1,l1⟩:=x
   rw [hq] at hp
   cases hp
   simp only [h.ok _ n a e1 l' (by omega) hq,Zc1,Nat.zero_add]
   exact(Al8 (c:=fun e=>some (e,l',n,false,a)) (fun _ _=>rfl) (by omega) (l.length+1) 0 e1 (Nat.zero_le _) (by omega)).trans rfl
 er l n a q hl hp:=by
  have hs:=Lw [45] l
  rw [G6] at hp
  cases hq:part (Cq [45] l).2 with
  |ok x=>rw [hq] at hp;cases hp
  |error q' =>
   rw [hq] at hp
   cases hp
   obtain⟨e1,l1,h1⟩:=h.er _ n a q (by omega) hq
   refine⟨Ju 15 (Cq [45] l).1 e1,l1,?_⟩
   simp only [Gj,H4]
   refine(Amg (s:=[45]) (i:=0) (fun _ _=>rfl) (l.length+1) l (by omega) (by omega)).trans ?_
   simp only [h1,Zc1,Nat.zero_add]
   exact(Al8 (c:=fun e=>some (e,l1,n,true,Hh n q)) (fun _ _=>rfl) (by omega) (l.length+1) 0 e1 (Nat.zero_le _) (by omega)).trans rfl
 bad:=Apw h.bad
def prs(S:List PairS):List (Str×Int):=S.map fun p=>(p.sign,p.kind)
theorem I3(l:TL):∀S:List PairS,(prs S).find? (fun p=>isT p.1 l)=(S.find? fun p=>isT p.sign l).map fun p=>(p.sign,p.kind)
 |[]=>rfl
 |p::S=>by
  have ih:=I3 l S
  simp only [prs] at ih
  simp only [prs,Zw1,List.find?_cons,ih]
  cases isT p.sign l<;>rfl
theorem Ack{R:Type}(rf:Au→Option Aq) {kx:Ex→Hu→Option R}{S:List PairS}(hn:ln S.length) {l:TL}{n a:Int}{z1 z2 e:Xpr}{c1:Xpr→TL→Int→Bool→Int→Option R}{c2:Option R}(h1:∀i l n b a e,kx (.exit 1) (S,S,(S.length:Int),i,l,n,b,a,z1,z2,e)=c1 e l n b a) (h2:kx (.exit 2) (S,S,(S.length:Int),(S.length:Int),l,n,false,a,z1,z2,e)=c2):∀(k i:Nat),i≤S.length→S.length-i<k →
  Al (fun rc=>Gq rf rc kx) k (S,S,(S.length:Int),(i:Int),l,n,false,a,z1,z2,e)=match(S.drop i).find? (fun p=>isT p.sign l) with
   |none=>c2
   |some p=>(Gj rf (l.tail,n,false,a)).bind fun(x,y1,y2,y3,y4)=>c1 (mkX p.kind [e,x]) y1 y2 y3 y4
 |0,_,_,hk=>absurd hk (Zm1 _)
 |k+1,i,hi,hk=>by
  rw [A3]
  by_cases hlt:i<S.length
  ·rw [Am hlt]
   simp only [Gq,Fw hlt,Af,A4 hlt,chk,A9 (c :=.pair) hlt,Az hlt hn,List.find?_cons]
   cases ht:isT S[i].sign l with
   |true =>
    simp only [Acs ht,Zc1,Af,h1]
    rfl
   |false=>simp only [Agd ht,Zc1,Ah,Ack rf hn h1 h2 k (i+1) (by omega) (by omega)]
  ·obtain rfl:i=S.length:=by omega
   simp only [Gq,Fx,Ah,h2,Zc2,List.find?_nil]
theorem Mq{R:Type}{rf:Au→Option Aq}{part:TL→PR Xpr}{L:Nat}(h:SimP (Gj rf) part L) (hp:Dj part) {kx:Ex→Eh→Option R}{S:List PairS}(hn:ln S.length) {n a:Int}{z1 z2:Xpr}{c:Xpr→TL→Bool→Int→Option R}(hx:∀l b a e,kx (.exit 0) (S,l,n,b,a,z1,z2,e)=c e l b a) (K:Nat) (hK:S.length<K):∀(k m:Nat) (e:Xpr) (l:TL),l.length<L→l.length<k→l.length<m →
  match Bh part (prs S) m e l with
  |.ok (e',l')=>Al (fun rec=>G0 K rf rec kx) k (S,l,n,false,a,z1,z2,e)=c e' l' false a
  |.error q=>∃e' l',Al (fun rec=>G0 K rf rec kx) k (S,l,n,false,a,z1,z2,e)=c e' l' true (Hh n q)
 |0,_,_,_,_,hk,_=>absurd hk (Zm1 _)
 |_,0,_,_,_,_,hk=>absurd hk (Zm1 _)
 |k+1,m+1,e,l,hl,hk,hm=>by
  have hin:=fun(rec:Eh→Option R)=>Ack (R:=R) rf (kx:=fun e vz=>match vz with|(v5,_,_,_,v9,v10,v11,v12,v13,v14,v15)=>match e with
   |.exit 1=>rec (v5,v9,v10,v11,v12,v13,v14,v15)
   |.exit 2=>kx (.exit 0) (v5,v9,v10,v11,v12,v13,v14,v15)
   |_=>none) hn (l:=l) (n:=n) (a:=a) (z1:=z1) (z2:=z2) (e:=e) (c1:=fun e l n b a=>rec (S,l,n,b,a,z1,z2,e)) (fun _ _ _ _ _ _=>rfl) rfl K 0 (Nat.zero_le _) (by omega)
  have hit:∀rec:Eh→Option R,G0 K rf rec kx (S,l,n,false,a,z1,z2,e)=_:=hin
  have hf:=I3 l S
  rw [A3]
  simp only [Bh,hit,Zq1]
  cases hs:S.find? (fun p=>isT p.sign l) with
  |none =>
   rw [hs] at hf
   simp only [Option.map_none] at hf
   rw [hf]
   exact hx _ _ _ _
  |some p =>
   rw [hs] at hf
   simp only [Zl2] at hf
   rw [hf]
   have hi:isT p.sign l=true:=by simpa using List.find?_some hs
   have hlt:=J3 hi
   cases hq:part l.tail with
   |error q =>
    obtain⟨e1,l1,h1⟩:=h.er l.tail n a q (by omega) hq
    simp only [h1,Zc1]
    obtain⟨k,rfl⟩:∃k',k=k'+1:=⟨k-1,by omega⟩
    exact⟨mkX p.kind [e,e1],l1,hx _ _ _ _⟩
   |ok x =>
    obtain⟨x,l1⟩:=x
    have h3:=hp _ _ _ hq
    simp only [h.ok l.tail n a x l1 (by omega) hq,Zc1]
    exact Mq h hp hn hx K hK k m (mkX p.kind [e,x]) l1 (by omega) (by omega) (by omega)
theorem Wo{rf:Au→Option Aq}(h:Nq (Gj rf)):Nq (Bo rf):=fun l n a=>by
 obtain⟨e1,h1⟩:=h l n a
 simp only [Bo,C8,h1,Zc1]
 exact⟨e1,rfl⟩
theorem Al0{rf:Au→Option Aq}{part:TL→PR Xpr}{L:Nat}(h:SimP (Gj rf) part L) (hp:Dj part):SimP (Bo rf) (B0 part (prs [PairS.mk [42] 14])) L where
 ok l n a e l' hl hq:=by
  simp only [B0] at hq
  cases hr:part l with
  |error q=>rw [hr] at hq;cases hq
  |ok x =>
   obtain⟨e1,l1⟩:=x
   rw [hr] at hq
   have h3:=hp _ _ _ hr
   simp only at hq
   have:=Mq h hp (S:=[PairS.mk [42] 14]) (by simp [ln]) (n:=n) (a:=a) (z1:=Xpr.mk 0 ⟨0,0,[]⟩ [] []) (z2:=Xpr.mk 0 ⟨0,0,[]⟩ [] []) (c:=fun e l b a=>some (e,l,n,b,a)) (kx:=fun e vz=>match vz with|(_,v17,v18,v19,v20,_,_,v23)=>match e with
    |.exit 0=>some (v23,v17,v18,v19,v20)
    |_=>none) (fun _ _ _ _=>rfl) (l.length+3) (by simp) (l.length+3) (l1.length+1) e1 l1 (by omega) (by omega) (by omega)
   rw [hq] at this
   simp only [Bo,C8,h.ok l n a e1 l1 hl hr,Zc1]
   exact this
 er l n a q hl hq:=by
  simp only [B0] at hq
  cases hr:part l with
  |error q' =>
   rw [hr] at hq
   cases hq
   obtain⟨e1,l1,h1⟩:=h.er l n a q hl hr
   simp only [Bo,C8,h1,Zc1]
   exact⟨e1,l1,rfl⟩
  |ok x =>
   obtain⟨e1,l1⟩:=x
   rw [hr] at hq
   have h3:=hp _ _ _ hr
   simp only at hq
   have:=Mq h hp (S:=[PairS.mk [42] 14]) (by simp [ln]) (n:=n) (a:=a) (z1:=Xpr.mk 0 ⟨0,0,[]⟩ [] []) (z2:=Xpr.mk 0 ⟨0,0,[]⟩ [] []) (c:=fun e l b a=>some (e,l,n,b,a)) (kx:=fun e vz=>match vz with|(_,v17,v18,v19,v20,_,_,v23)=>match e with
    |.exit 0=>some (v23,v17,v18,v19,v20)
    |_=>none) (fun _ _ _ _=>rfl) (l.length+3) (by simp) (l.length+3) (l1.length+1) e1 l1 (by omega) (by omega) (by omega)
   rw [hq] at this
   simp only [Bo,C8,h.ok l n a e1 l1 hl hr,Zc1]
   exact this
 bad:=Wo h.bad
theorem Axe{R:Type}(rf:Au→Option Aq) {kx:Ex→Xo→Option R}{S:List PairS}(hn:ln S.length) {l:TL}{n a:Int}{z1 z2 e:Xpr}{c1:Xpr→TL→Int→Bool→Int→Option R}{c2:Option R}(h1:∀i l n b a e,kx (.exit 1) (S,S,(S.length:Int),i,l,n,b,a,z1,z2,e)=c1 e l n b a) (h2:kx (.exit 2) (S,S,(S.length:Int),(S.length:Int),l,n,false,a,z1,z2,e)=c2):∀(k i:Nat),i≤S.length→S.length-i<k →
  Al (fun rc=>Yw rf rc kx) k (S,S,(S.length:Int),(i:Int),l,n,false,a,z1,z2,e)=match(S.drop i).find? (fun p=>isT p.sign l) with
   |none=>c2
   |some p=>(Bo rf (l.tail,n,false,a)).bind fun(x,y1,y2,y3,y4)=>c1 (mkX p.kind [e,x]) y1 y2 y3 y4
 |0,_,_,hk=>absurd hk (Zm1 _)
 |k+1,i,hi,hk=>by
  rw [A3]
  by_cases hlt:i<S.length
  ·rw [Am hlt]
   simp only [Yw,Fw hlt,Af,A4 hlt,chk,A9 (c :=.pair) hlt,Az hlt hn,List.find?_cons]
   cases ht:isT S[i].sign l with
   |true =>
    simp only [Acs ht,Zc1,Af,h1]
    rfl
   |false=>simp only [Agd ht,Zc1,Ah,Axe rf hn h1 h2 k (i+1) (by omega) (by omega)]
  ·obtain rfl:i=S.length:=by omega
   simp only [Yw,Fx,Ah,h2,Zc2,List.find?_nil]
theorem Aeg{R:Type}{rf:Au→Option Aq}{part:TL→PR Xpr}{L:Nat}(h:SimP (Bo rf) part L) (hp:Dj part) {kx:Ex→Kq→Option R}{S:List PairS}(hn:ln S.length) {n a:Int}{z1 z2:Xpr}{c:Xpr→TL→Bool→Int→Option R}(hx:∀l b a e,kx (.exit 0) (S,l,n,b,a,z1,z2,e)=c e l b a) (K:Nat) (hK:S.length<K):∀(k m:Nat) (e:Xpr) (l:TL),l.length<L→l.length<k→l.length<m →
  match Bh part (prs S) m e l with
  |.ok (e',l')=>Al (fun rec=>Z3 K rf rec kx) k (S,l,n,false,a,z1,z2,e)=c e' l' false a
  |.error q=>∃e' l',Al (fun rec=>Z3 K rf rec kx) k (S,l,n,false,a,z1,z2,e)=c e' l' true (Hh n q)
 |0,_,_,_,_,hk,_=>absurd hk (Zm1 _)
 |_,0,_,_,_,_,hk=>absurd hk (Zm1 _)
 |k+1,m+1,e,l,hl,hk,hm=>by
  have hin:=fun(rec:Kq→Option R)=>Axe (R:=R) rf (kx:=fun e vz=>match vz with|(v5,_,_,_,v9,v10,v11,v12,v13,v14,v15)=>match e with
   |.exit 1=>rec (v5,v9,v10,v11,v12,v13,v14,v15)
   |.exit 2=>kx (.exit 0) (v5,v9,v10,v11,v12,v13,v14,v15)
   |_=>none) hn (l:=l) (n:=n) (a:=a) (z1:=z1) (z2:=z2) (e:=e) (c1:=fun e l n b a=>rec (S,l,n,b,a,z1,z2,e)) (fun _ _ _ _ _ _=>rfl) rfl K 0 (Nat.zero_le _) (by omega)
  have hit:∀rec:Kq→Option R,Z3 K rf rec kx (S,l,n,false,a,z1,z2,e)=_:=hin
  have hf:=I3 l S
  rw [A3]
  simp only [Bh,hit,Zq1]
  cases hs:S.find? (fun p=>isT p.sign l) with
  |none =>
   rw [hs] at hf
   simp only [Option.map_none] at hf
   rw [hf]
   exact hx _ _ _ _
  |some p =>
   rw [hs] at hf
   simp only [Zl2] at hf
   rw [hf]
   have hi:isT p.sign l=true:=by simpa using List.find?_some hs
   have hlt:=J3 hi
   cases hq:part l.tail with
   |error q =>
    obtain⟨e1,l1,h1⟩:=h.er l.tail n a q (by omega) hq
    simp only [h1,Zc1]
    obtain⟨k,rfl⟩:∃k',k=k'+1:=⟨k-1,by omega⟩
    exact⟨mkX p.kind [e,e1],l1,hx _ _ _ _⟩
   |ok x =>
    obtain⟨x,l1⟩:=x
    have h3:=hp _ _ _ hq
    simp only [h.ok l.tail n a x l1 (by omega) hq,Zc1]
    exact Aeg h hp hn hx K hK k m (mkX p.kind [e,x]) l1 (by omega) (by omega) (by omega)
theorem Apn{rf:Au→Option Aq}(h:Nq (Bo rf)):Nq (Eo rf):=fun l n a=>by
 obtain⟨e1,h1⟩:=h l n a
 simp only [Eo,Gp,h1,Zc1]
 exact⟨e1,rfl⟩
theorem A9k{rf:Au→Option Aq}{part:TL→PR Xpr}{L:Nat}(h:SimP (Bo rf) part L) (hp:Dj part):SimP (Eo rf) (B0 part (prs [PairS.mk [43] 12,PairS.mk [45] 13])) L where
 ok l n a e l' hl hq:=by
  simp only [B0] at hq
  cases hr:part l with
  |error q=>rw [hr] at hq;cases hq
  |ok x =>
   obtain⟨e1,l1⟩:=x
   rw [hr] at hq
   have h3:=hp _ _ _ hr
   simp only at hq
   have:=Aeg h hp (S:=[PairS.mk [43] 12,PairS.mk [45] 13]) (by simp [ln]) (n:=n) (a:=a) (z1:=Xpr.mk 0 ⟨0,0,[]⟩ [] []) (z2:=Xpr.mk 0 ⟨0,0,[]⟩ [] []) (c:=fun e l b a=>some (e,l,n,b,a)) (kx:=fun e vz=>match vz with|(_,v17,v18,v19,v20,_,_,v23)=>match e with
    |.exit 0=>some (v23,v17,v18,v19,v20)
    |_=>none) (fun _ _ _ _=>rfl) (l.length+3) (by simp) (l.length+3) (l1.length+1) e1 l1 (by omega) (by omega) (by omega)
   rw [hq] at this
   simp only [Eo,Gp,h.ok l n a e1 l1 hl hr,Zc1]
   exact this
 er l n a q hl hq:=by
  simp only [B0] at hq
  cases hr:part l with
  |error q' =>
   rw [hr] at hq
   cases hq
   obtain⟨e1,l1,h1⟩:=h.er l n a q hl hr
   simp only [Eo,Gp,h1,Zc1]
   exact⟨e1,l1,rfl⟩
  |ok x =>
   obtain⟨e1,l1⟩:=x
   rw [hr] at hq
   have h3:=hp _ _ _ hr
   simp only at hq
   have:=Aeg h hp (S:=[PairS.mk [43] 12,PairS.mk [45] 13]) (by simp [ln]) (n:=n) (a:=a) (z1:=Xpr.mk 0 ⟨0,0,[]⟩ [] []) (z2:=Xpr.mk 0 ⟨0,0,[]⟩ [] []) (c:=fun e l b a=>some (e,l,n,b,a)) (kx:=fun e vz=>match vz with|(_,v17,v18,v19,v20,_,_,v23)=>match e with
    |.exit 0=>some (v23,v17,v18,v19,v20)
    |_=>none) (fun _ _ _ _=>rfl) (l.length+3) (by simp) (l.length+3) (l1.length+1) e1 l1 (by omega) (by omega) (by omega)
   rw [hq] at this
   simp only [Eo,Gp,h.ok l n a e1 l1 hl hr,Zc1]
   exact this
 bad:=Apn h.bad
def cmpC:List PairS:=[PairS.mk [61] 6,PairS.mk [60,62] 7,PairS.mk [60] 8,PairS.mk [60,61] 9,PairS.mk [62] 10,PairS.mk [62,61] 11]
theorem Azh{R:Type}(rf:Au→Option Aq) {kx:Ex→Vv→Option R}{S:List PairS}(hn:ln S.length) {l:TL}{n a:Int}{z e:Xpr}{c1:Xpr→TL→Int→Bool→Int→Option R}{c2:Option R}(h1:∀i l n b a x,kx .ret (S,(S.length:Int),i,l,n,b,a,x,e)=c1 x l n b a) (h2:kx (.exit 0) (S,(S.length:Int),(S.length:Int),l,n,false,a,z,e)=c2):∀(k i:Nat),i≤S.length→S.length-i<k →
  Al (fun rc=>Zt rf rc kx) k (S,(S.length:Int),(i:Int),l,n,false,a,z,e)=match(S.drop i).find? (fun p=>isT p.sign l) with
   |none=>c2
   |some p=>(Eo rf (l.tail,n,false,a)).bind fun(x,y1,y2,y3,y4)=>c1 (mkX p.kind [e,x]) y1 y2 y3 y4
 |0,_,_,hk=>absurd hk (Zm1 _)
 |k+1,i,hi,hk=>by
  rw [A3]
  by_cases hlt:i<S.length
  ·rw [Am hlt]
   simp only [Zt,Fw hlt,Af,A4 hlt,chk,A9 (c :=.pair) hlt,Az hlt hn,List.find?_cons]
   cases ht:isT S[i].sign l with
   |true =>
    simp only [Acs ht,Zc1,Af,h1]
    rfl
   |false=>simp only [Agd ht,Zc1,Ah,Azh rf hn h1 h2 k (i+1) (by omega) (by omega)]
  ·obtain rfl:i=S.length:=by omega
   simp only [Zt,Fx,Ah,h2,Zc2,List.find?_nil]
def isF(e:Xpr) (l:TL) (n a:Int):Option Aq:=(A0 ([73,83],l,n,false,a)).bind fun(x15,x16,x17,x18,x19) =>
 cond (!x15) (some (e,x16,x17,x18,x19)) ((A0 ([78,79,84],x16,x17,x18,x19)).bind fun(x20,x21,x22,x23,x24) =>
  (Aw ([[78,85,76,76]],x21,x22,x23,x24)).bind fun(x25,x26,x27,x28) =>
   cond (x20) (some ((Xpr.mk 3 ⟨0,0,[]⟩ [] [(Xpr.mk 16 ⟨0,0,[]⟩ [] [e])]),x25,x26,x27,x28)) (some ((Xpr.mk 16 ⟨0,0,[]⟩ [] [e]),x25,x26,x27,x28)))
theorem Aw3(rf:Au→Option Aq) {l l1:TL}{n a:Int}{e:Xpr}(h:Eo rf (l,n,false,a)=some (e,l1,n,false,a)):Ik rf (l,n,false,a)=match cmpC.find? (fun p=>isT p.sign l1) with
  |none=>isF e l1 n a
  |some p=>(Eo rf (l1.tail,n,false,a)).bind fun(x,y1,y2,y3,y4)=>some (mkX p.kind [e,x],y1,y2,y3,y4):=by
 simp only [Ik,H5,h,Zc1,Ah]
 exact Azh rf (S:=cmpC) (by simp [ln,cmpC]) (z:=Xpr.mk 0 ⟨0,0,[]⟩ [] []) (c1:=fun x l n b a=>some (x,l,n,b,a)) (c2:=isF e l1 n a) (fun _ _ _ _ _ _=>rfl) rfl 10 0 (Nat.zero_le _) (by decide)
theorem Bg7{e x:Xpr}{l l':TL}(h:(match isT sIS l with|true=>isP e l|false =>.ok (e,l)) = .ok (x,l')) (n a:Int):isF e l n a=some (x,l',n,false,a):=by
 simp only [isF]
 cases hi:isT sIS l with
 |false=>rw [hi] at h;cases h;simp only [Agd (s:=[73,83]) hi,Zc1,Zs1,Af]
 |true =>
  rw [hi] at h
  simp only [isP] at h
  simp only [Acs (s:=[73,83]) hi,Zc1,Zt1,Ah]
  cases hn:isT sNOT l.tail with
  |true =>
   rw [hn] at h
   simp only [Acs (s:=[78,79,84]) hn,Zc1,Af]
   cases hu:isT sNULL l.tail.tail with
   |true=>simp only [hu] at h;cases h;simp only [Xw (by decide) (Ase (s:=[78,85,76,76]) hu),Zc1];rfl
   |false=>simp only [hu] at h;cases h
  |false =>
   rw [hn] at h
   simp only [Agd (s:=[78,79,84]) hn,Zc1,Ah]
   cases hu:isT sNULL l.tail with
   |true=>simp only [hu] at h;cases h;simp only [Xw (by decide) (Ase (s:=[78,85,76,76]) hu),Zc1];rfl
   |false=>simp only [hu] at h;cases h
theorem Bhf{e:Xpr}{l q:TL}(h:(match isT sIS l with|true=>isP e l|false =>.ok (e,l)) = .error q) (n a:Int):∃x l',isF e l n a=some (x,l',n,true,Hh n q):=by
 simp only [isF]
 cases hi:isT sIS l with
 |false=>rw [hi] at h;cases h
 |true =>
  rw [hi] at h
  simp only [isP] at h
  simp only [Acs (s:=[73,83]) hi,Zc1,Zt1,Ah]
  cases hn:isT sNOT l.tail with
  |true =>
   rw [hn] at h
   simp only [Acs (s:=[78,79,84]) hn,Zc1,Af]
   cases hu:isT sNULL l.tail.tail with
   |true=>simp only [hu] at h;cases h
   |false=>simp only [hu] at h;cases h;simp only [Vo (by decide) (Axr (s:=[78,85,76,76]) hu),Zc1];exact⟨_,_,rfl⟩
  |false =>
   rw [hn] at h
   simp only [Agd (s:=[78,79,84]) hn,Zc1,Ah]
   cases hu:isT sNULL l.tail with
   |true=>simp only [hu] at h;cases h
   |false=>simp only [hu] at h;cases h;simp only [Vo (by decide) (Axr (s:=[78,85,76,76]) hu),Zc1];exact⟨_,_,rfl⟩
theorem Aqs{rf:Au→Option Aq}(h:Nq (Eo rf)):Nq (Ik rf):=fun l n a=>by
 obtain⟨e1,h1⟩:=h l n a
 refine⟨e1,?_⟩
 simp only [Ik,H5,h1,Zc1,Af]
theorem A7h{rf:Au→Option Aq}{part:TL→PR Xpr}{L:Nat}(h:SimP (Eo rf) part L) (he:Dj part):SimP (Ik rf) (Si part) L where
 ok l n a e l' hl hp:=by
  simp only [Si] at hp
  cases hr:part l with
  |error q=>rw [hr] at hp;cases hp
  |ok x =>
   obtain⟨e1,l1⟩:=x
   have h3:=he _ _ _ hr
   have hf:cmpS.find? (fun p=>isT p.1 l1)=(cmpC.find? fun p=>isT p.sign l1).map fun p=>(p.sign,p.kind):=I3 l1 cmpC
   rw [hr] at hp
   simp only [hf] at hp
   rw [Aw3 rf (h.ok l n a e1 l1 hl hr)]
   cases hs:cmpC.find? (fun p=>isT p.sign l1) with
   |none=>rw [hs] at hp;exact Bg7 hp n a
   |some p =>
    rw [hs] at hp
    simp only [Zl2] at hp
    have h4:=Bt l1
    cases hq:part l1.tail with
    |error q=>rw [hq] at hp;cases hp
    |ok y =>
     obtain⟨x,l2⟩:=y
     rw [hq] at hp
     cases hp
     simp only [h.ok l1.tail n a x l' (by omega) hq,Zc1]
 er l n a q hl hp:=by
  simp only [Si] at hp
  cases hr:part l with
  |error q' =>
   rw [hr] at hp
   cases hp
   obtain⟨e1,l1,h1⟩:=h.er l n a q hl hr
   refine⟨e1,l1,?_⟩
   simp only [Ik,H5,h1,Zc1,Af]
  |ok x =>
   obtain⟨e1,l1⟩:=x
   have h3:=he _ _ _ hr
   have hf:cmpS.find? (fun p=>isT p.1 l1)=(cmpC.find? fun p=>isT p.sign l1).map fun p=>(p.sign,p.kind):=I3 l1 cmpC
   rw [hr] at hp
   simp only [hf] at hp
   rw [Aw3 rf (h.ok l n a e1 l1 hl hr)]
   cases hs:cmpC.find? (fun p=>isT p.sign l1) with
   |none=>rw [hs] at hp;exact Bhf hp n a
   |some p =>
    rw [hs] at hp
    simp only [Zl2] at hp
    have h4:=Bt l1
    cases hq:part l1.tail with
    |ok y=>rw [hq] at hp;cases hp
    |error q' =>
     rw [hq] at hp
     cases hp
     obtain⟨e2,l2,h2⟩:=h.er l1.tail n a q (by omega) hq
     simp only [h2,Zc1]
     exact⟨_,_,rfl⟩
 bad:=Aqs h.bad
theorem Ann{R:Type}{kx:Ex→V1→Option R}{s:Str}{kd n a:Int}{z1 z2:Xpr}{c:Int→TL→Option R}(h:∀i l,kx (.exit 0) (s,kd,i,l,n,false,a,z1,z2)=c i l):∀(k i:Nat) (l:TL),l.length<k→i+l.length≤1000000000 →
  Al (fun rec=>Zx rec kx) k (s,kd,(i:Int),l,n,false,a,z1,z2)=c ((i+(Cq s l).1:Nat):Int) (Cq s l).2
 |0,_,_,hk,_=>absurd hk (Zm1 _)
 |k+1,i,l,hk,hb=>by
  rw [A3]
  simp only [Zx,Zs1,Af]
  cases hi:isT s l with
  |false=>simp only [Agd hi,Zc1,Ah,h,Ac2 hi,Nat.add_zero]
  |true =>
   have hl:=J3 hi
   have hw:wr .i64 ((i:Int)+1)=((i+1:Nat):Int):=Az (n:=i+1) (by omega) (by simp only [ln];omega)
   simp only [Acs hi,Zc1,Af,hw,Ann h k (i+1) l.tail (by omega) (by omega),Adj hi]
   rw [Nat.add_assoc,Nat.add_comm 1]
theorem Amf{R:Type}{kx:Ex→V3→Option R}{kd:Int}{m:Nat}{l:TL}{n a:Int}{b:Bool}{z1 z2:Xpr}{c:Xpr→Option R}(h:∀i e,kx (.exit 2) (kd,(m:Int),i,l,n,b,a,z1,z2,e)=c e) (hm:m≤1000000000):∀(k i:Nat) (e:Xpr),i≤m→m-i<k →
  Al (fun rec=>Uz rec kx) k (kd,(m:Int),(i:Int),l,n,b,a,z1,z2,e)=c (Ju kd (m-i) e)
 |0,_,_,_,hk=>absurd hk (Zm1 _)
 |k+1,i,e,hi,hk=>by
  rw [A3]
  by_cases hlt:i<m
  ·have hs:m-i=(m-(i+1))+1:=by omega
   simp only [Uz,Fw hlt,Af,Az hlt (show ln m by simp only [ln];omega),Amf h hm k (i+1) _ (by omega) (by omega),hs,Ju]
  ·obtain rfl:i=m:=by omega
   simp only [Uz,Fx,Ah,h,Nat.sub_self,Ju]
theorem Ap5{rf:Au→Option Aq}(h:Nq (Ik rf)):Nq (F0 rf):=fun l n a=>by
 obtain⟨e1,h1⟩:=h l n a
 refine⟨e1,?_⟩
 simp only [F0,Ic,A3,Zx,Zt1,Ah,h1,Zc1,Uz]
 rfl
theorem A8k{rf:Au→Option Aq}{part:TL→PR Xpr}{L:Nat}(h:SimP (Ik rf) part L) (hL:L≤1000000000):SimP (F0 rf) (A7 [78,79,84] 3 part) L where
 ok l n a e l' hl hp:=by
  have hs:=Lw [78,79,84] l
  rw [G6] at hp
  simp only [F0,Ic]
  refine(Ann (s:=[78,79,84]) (i:=0) (fun _ _=>rfl) (l.length+1) l (by omega) (by omega)).trans ?_
  cases hq:part (Cq [78,79,84] l).2 with
  |error q=>rw [hq] at hp;cases hp
  |ok x =>
   obtain⟨e1,l1⟩:=x
   rw [hq] at hp
   cases hp
   simp only [h.ok _ n a e1 l' (by omega) hq,Zc1,Nat.zero_add]
   exact(Amf (c:=fun e=>some (e,l',n,false,a)) (fun _ _=>rfl) (by omega) (l.length+1) 0 e1 (Nat.zero_le _) (by omega)).trans rfl
 er l n a q hl hp:=by
  have hs:=Lw [78,79,84] l
  rw [G6] at hp
  cases hq:part (Cq [78,79,84] l).2 with
  |ok x=>rw [hq] at hp;cases hp
  |error q' =>
   rw [hq] at hp
   cases hp
   obtain⟨e1,l1,h1⟩:=h.er _ n a q (by omega) hq
   refine⟨Ju 3 (Cq [78,79,84] l).1 e1,l1,?_⟩
   simp only [F0,Ic]
   refine(Ann (s:=[78,79,84]) (i:=0) (fun _ _=>rfl) (l.length+1) l (by omega) (by omega)).trans ?_
   simp only [h1,Zc1,Nat.zero_add]
   exact(Amf (c:=fun e=>some (e,l1,n,true,Hh n q)) (fun _ _=>rfl) (by omega) (l.length+1) 0 e1 (Nat.zero_le _) (by omega)).trans rfl
 bad:=Ap5 h.bad
theorem Awt{R:Type}(rf:Au→Option Aq) {kx:Ex→Xh→Option R}{S:List PairS}(hn:ln S.length) {l:TL}{n a:Int}{z1 z2 e:Xpr}{c1:Xpr→TL→Int→Bool→Int→Option R}{c2:Option R}(h1:∀i l n b a e,kx (.exit 1) (S,S,(S.length:Int),i,l,n,b,a,z1,z2,e)=c1 e l n b a) (h2:kx (.exit 2) (S,S,(S.length:Int),(S.length:Int),l,n,false,a,z1,z2,e)=c2):∀(k i:Nat),i≤S.length→S.length-i<k →
  Al (fun rc=>Zm rf rc kx) k (S,S,(S.length:Int),(i:Int),l,n,false,a,z1,z2,e)=match(S.drop i).find? (fun p=>isT p.sign l) with
   |none=>c2
   |some p=>(F0 rf (l.tail,n,false,a)).bind fun(x,y1,y2,y3,y4)=>c1 (mkX p.kind [e,x]) y1 y2 y3 y4
 |0,_,_,hk=>absurd hk (Zm1 _)
 |k+1,i,hi,hk=>by
  rw [A3]
  by_cases hlt:i<S.length
  ·rw [Am hlt]
   simp only [Zm,Fw hlt,Af,A4 hlt,chk,A9 (c :=.pair) hlt,Az hlt hn,List.find?_cons]
   cases ht:isT S[i].sign l with
   |true =>
    simp only [Acs ht,Zc1,Af,h1]
    rfl
   |false=>simp only [Agd ht,Zc1,Ah,Awt rf hn h1 h2 k (i+1) (by omega) (by omega)]
  ·obtain rfl:i=S.length:=by omega
   simp only [Zm,Fx,Ah,h2,Zc2,List.find?_nil]
theorem Aeh{R:Type}{rf:Au→Option Aq}{part:TL→PR Xpr}{L:Nat}(h:SimP (F0 rf) part L) (hp:Dj part) {kx:Ex→Kj→Option R}{S:List PairS}(hn:ln S.length) {n a:Int}{z1 z2:Xpr}{c:Xpr→TL→Bool→Int→Option R}(hx:∀l b a e,kx (.exit 0) (S,l,n,b,a,z1,z2,e)=c e l b a) (K:Nat) (hK:S.length<K):∀(k m:Nat) (e:Xpr) (l:TL),l.length<L→l.length<k→l.length<m →
  match Bh part (prs S) m e l with
  |.ok (e',l')=>Al (fun rec=>Y6 K rf rec kx) k (S,l,n,false,a,z1,z2,e)=c e' l' false a
  |.error q=>∃e' l',Al (fun rec=>Y6 K rf rec kx) k (S,l,n,false,a,z1,z2,e)=c e' l' true (Hh n q)
 |0,_,_,_,_,hk,_=>absurd hk (Zm1 _)
 |_,0,_,_,_,_,hk=>absurd hk (Zm1 _)
 |k+1,m+1,e,l,hl,hk,hm=>by
  have hin:=fun(rec:Kj→Option R)=>Awt (R:=R) rf (kx:=fun e vz=>match vz with|(v5,_,_,_,v9,v10,v11,v12,v13,v14,v15)=>match e with
   |.exit 1=>rec (v5,v9,v10,v11,v12,v13,v14,v15)
   |.exit 2=>kx (.exit 0) (v5,v9,v10,v11,v12,v13,v14,v15)
   |_=>none) hn (l:=l) (n:=n) (a:=a) (z1:=z1) (z2:=z2) (e:=e) (c1:=fun e l n b a=>rec (S,l,n,b,a,z1,z2,e)) (fun _ _ _ _ _ _=>rfl) rfl K 0 (Nat.zero_le _) (by omega)
  have hit:∀rec:Kj→Option R,Y6 K rf rec kx (S,l,n,false,a,z1,z2,e)=_:=hin
  have hf:=I3 l S
  rw [A3]
  simp only [Bh,hit,Zq1]
  cases hs:S.find? (fun p=>isT p.sign l) with
  |none =>
   rw [hs] at hf
   simp only [Option.map_none] at hf
   rw [hf]
   exact hx _ _ _ _
  |some p =>
   rw [hs] at hf
   simp only [Zl2] at hf
   rw [hf]
   have hi:isT p.sign l=true:=by simpa using List.find?_some hs
   have hlt:=J3 hi
   cases hq:part l.tail with
   |error q =>
    obtain⟨e1,l1,h1⟩:=h.er l.tail n a q (by omega) hq
    simp only [h1,Zc1]
    obtain⟨k,rfl⟩:∃k',k=k'+1:=⟨k-1,by omega⟩
    exact⟨mkX p.kind [e,e1],l1,hx _ _ _ _⟩
   |ok x =>
    obtain⟨x,l1⟩:=x
    have h3:=hp _ _ _ hq
    simp only [h.ok l.tail n a x l1 (by omega) hq,Zc1]
    exact Aeh h hp hn hx K hK k m (mkX p.kind [e,x]) l1 (by omega) (by omega) (by omega)
theorem Aql{rf:Au→Option Aq}(h:Nq (F0 rf)):Nq (E0 rf):=fun l n a=>by
 obtain⟨e1,h1⟩:=h l n a
 simp only [E0,Gs,h1,Zc1]
 exact⟨e1,rfl⟩
theorem A8n{rf:Au→Option Aq}{part:TL→PR Xpr}{L:Nat}(h:SimP (F0 rf) part L) (hp:Dj part):SimP (E0 rf) (B0 part (prs [PairS.mk [65,78,68] 4])) L where
 ok l n a e l' hl hq:=by
  simp only [B0] at hq
  cases hr:part l with
  |error q=>rw [hr] at hq;cases hq
  |ok x =>
   obtain⟨e1,l1⟩:=x
   rw [hr] at hq
   have h3:=hp _ _ _ hr
   simp only at hq
   have:=Aeh h hp (S:=[PairS.mk [65,78,68] 4]) (by simp [ln]) (n:=n) (a:=a) (z1:=Xpr.mk 0 ⟨0,0,[]⟩ [] []) (z2:=Xpr.mk 0 ⟨0,0,[]⟩ [] []) (c:=fun e l b a=>some (e,l,n,b,a)) (kx:=fun e vz=>match vz with|(_,v17,v18,v19,v20,_,_,v23)=>match e with
    |.exit 0=>some (v23,v17,v18,v19,v20)
    |_=>none) (fun _ _ _ _=>rfl) (l.length+3) (by simp) (l.length+3) (l1.length+1) e1 l1 (by omega) (by omega) (by omega)
   rw [hq] at this
   simp only [E0,Gs,h.ok l n a e1 l1 hl hr,Zc1]
   exact this
 er l n a q hl hq:=by
  simp only [B0] at hq
  cases hr:part l with
  |error q' =>
   rw [hr] at hq
   cases hq
   obtain⟨e1,l1,h1⟩:=h.er l n a q hl hr
   simp only [E0,Gs,h1,Zc1]
   exact⟨e1,l1,rfl⟩
  |ok x =>
   obtain⟨e1,l1⟩:=x
   rw [hr] at hq
   have h3:=hp _ _ _ hr
   simp only at hq
   have:=Aeh h hp (S:=[PairS.mk [65,78,68] 4]) (by simp [ln]) (n:=n) (a:=a) (z1:=Xpr.mk 0 ⟨0,0,[]⟩ [] []) (z2:=Xpr.mk 0 ⟨0,0,[]⟩ [] []) (c:=fun e l b a=>some (e,l,n,b,a)) (kx:=fun e vz=>match vz with|(_,v17,v18,v19,v20,_,_,v23)=>match e with
    |.exit 0=>some (v23,v17,v18,v19,v20)
    |_=>none) (fun _ _ _ _=>rfl) (l.length+3) (by simp) (l.length+3) (l1.length+1) e1 l1 (by omega) (by omega) (by omega)
   rw [hq] at this
   simp only [E0,Gs,h.ok l n a e1 l1 hl hr,Zc1]
   exact this
 bad:=Aql h.bad
theorem A8d{R:Type}(rf:Au→Option Aq) {kx:Ex→Ade→Option R}{S:List PairS}(hn:ln S.length) {l:TL}{n a:Int}{z1 z2 e:Xpr}{c1:Xpr→TL→Int→Bool→Int→Option R}{c2:Option R}(h1:∀i l n b a e,kx (.exit 1) (S,S,(S.length:Int),i,l,n,b,a,z1,z2,e)=c1 e l n b a) (h2:kx (.exit 2) (S,S,(S.length:Int),(S.length:Int),l,n,false,a,z1,z2,e)=c2):∀(k i:Nat),i≤S.length→S.length-i<k →
  Al (fun rc=>Ajz rf rc kx) k (S,S,(S.length:Int),(i:Int),l,n,false,a,z1,z2,e)=match(S.drop i).find? (fun p=>isT p.sign l) with
   |none=>c2
   |some p=>(E0 rf (l.tail,n,false,a)).bind fun(x,y1,y2,y3,y4)=>c1 (mkX p.kind [e,x]) y1 y2 y3 y4
 |0,_,_,hk=>absurd hk (Zm1 _)
 |k+1,i,hi,hk=>by
  rw [A3]
  by_cases hlt:i<S.length
  ·rw [Am hlt]
   simp only [Ajz,Fw hlt,Af,A4 hlt,chk,A9 (c :=.pair) hlt,Az hlt hn,List.find?_cons]
   cases ht:isT S[i].sign l with
   |true =>
    simp only [Acs ht,Zc1,Af,h1]
    rfl
   |false=>simp only [Agd ht,Zc1,Ah,A8d rf hn h1 h2 k (i+1) (by omega) (by omega)]
  ·obtain rfl:i=S.length:=by omega
   simp only [Ajz,Fx,Ah,h2,Zc2,List.find?_nil]
theorem An2{R:Type}{rf:Au→Option Aq}{part:TL→PR Xpr}{L:Nat}(h:SimP (E0 rf) part L) (hp:Dj part) {kx:Ex→Qy→Option R}{S:List PairS}(hn:ln S.length) {n a:Int}{z1 z2:Xpr}{c:Xpr→TL→Bool→Int→Option R}(hx:∀l b a e,kx (.exit 0) (S,l,n,b,a,z1,z2,e)=c e l b a) (K:Nat) (hK:S.length<K):∀(k m:Nat) (e:Xpr) (l:TL),l.length<L→l.length<k→l.length<m →
  match Bh part (prs S) m e l with
  |.ok (e',l')=>Al (fun rec=>Aje K rf rec kx) k (S,l,n,false,a,z1,z2,e)=c e' l' false a
  |.error q=>∃e' l',Al (fun rec=>Aje K rf rec kx) k (S,l,n,false,a,z1,z2,e)=c e' l' true (Hh n q)
 |0,_,_,_,_,hk,_=>absurd hk (Zm1 _)
 |_,0,_,_,_,_,hk=>absurd hk (Zm1 _)
 |k+1,m+1,e,l,hl,hk,hm=>by
  have hin:=fun(rec:Qy→Option R)=>A8d (R:=R) rf (kx:=fun e vz=>match vz with|(v5,_,_,_,v9,v10,v11,v12,v13,v14,v15)=>match e with
   |.exit 1=>rec (v5,v9,v10,v11,v12,v13,v14,v15)
   |.exit 2=>kx (.exit 0) (v5,v9,v10,v11,v12,v13,v14,v15)
   |_=>none) hn (l:=l) (n:=n) (a:=a) (z1:=z1) (z2:=z2) (e:=e) (c1:=fun e l n b a=>rec (S,l,n,b,a,z1,z2,e)) (fun _ _ _ _ _ _=>rfl) rfl K 0 (Nat.zero_le _) (by omega)
  have hit:∀rec:Qy→Option R,Aje K rf rec kx (S,l,n,false,a,z1,z2,e)=_:=hin
  have hf:=I3 l S
  rw [A3]
  simp only [Bh,hit,Zq1]
  cases hs:S.find? (fun p=>isT p.sign l) with
  |none =>
   rw [hs] at hf
   simp only [Option.map_none] at hf
   rw [hf]
   exact hx _ _ _ _
  |some p =>
   rw [hs] at hf
   simp only [Zl2] at hf
   rw [hf]
   have hi:isT p.sign l=true:=by simpa using List.find?_some hs
   have hlt:=J3 hi
   cases hq:part l.tail with
   |error q =>
    obtain⟨e1,l1,h1⟩:=h.er l.tail n a q (by omega) hq
    simp only [h1,Zc1]
    obtain⟨k,rfl⟩:∃k',k=k'+1:=⟨k-1,by omega⟩
    exact⟨mkX p.kind [e,e1],l1,hx _ _ _ _⟩
   |ok x =>
    obtain⟨x,l1⟩:=x
    have h3:=hp _ _ _ hq
    simp only [h.ok l.tail n a x l1 (by omega) hq,Zc1]
    exact An2 h hp hn hx K hK k m (mkX p.kind [e,x]) l1 (by omega) (by omega) (by omega)
theorem Ayp{rf:Au→Option Aq}(h:Nq (E0 rf)):Nq (Nk rf):=fun l n a=>by
 obtain⟨e1,h1⟩:=h l n a
 simp only [Nk,I1,h1,Zc1]
 exact⟨e1,rfl⟩
theorem Bdh{rf:Au→Option Aq}{part:TL→PR Xpr}{L:Nat}(h:SimP (E0 rf) part L) (hp:Dj part):SimP (Nk rf) (B0 part (prs [PairS.mk [79,82] 5])) L where
 ok l n a e l' hl hq:=by
  simp only [B0] at hq
  cases hr:part l with
  |error q=>rw [hr] at hq;cases hq
  |ok x =>
   obtain⟨e1,l1⟩:=x
   rw [hr] at hq
   have h3:=hp _ _ _ hr
   simp only at hq
   have:=An2 h hp (S:=[PairS.mk [79,82] 5]) (by simp [ln]) (n:=n) (a:=a) (z1:=Xpr.mk 0 ⟨0,0,[]⟩ [] []) (z2:=Xpr.mk 0 ⟨0,0,[]⟩ [] []) (c:=fun e l b a=>some (e,l,n,b,a)) (kx:=fun e vz=>match vz with|(_,v17,v18,v19,v20,_,_,v23)=>match e with
    |.exit 0=>some (v23,v17,v18,v19,v20)
    |_=>none) (fun _ _ _ _=>rfl) (l.length+3) (by simp) (l.length+3) (l1.length+1) e1 l1 (by omega) (by omega) (by omega)
   rw [hq] at this
   simp only [Nk,I1,h.ok l n a e1 l1 hl hr,Zc1]
   exact this
 er l n a q hl hq:=by
  simp only [B0] at hq
  cases hr:part l with
  |error q' =>
   rw [hr] at hq
   cases hq
   obtain⟨e1,l1,h1⟩:=h.er l n a q hl hr
   simp only [Nk,I1,h1,Zc1]
   exact⟨e1,l1,rfl⟩
  |ok x =>
   obtain⟨e1,l1⟩:=x
   rw [hr] at hq
   have h3:=hp _ _ _ hr
   simp only at hq
   have:=An2 h hp (S:=[PairS.mk [79,82] 5]) (by simp [ln]) (n:=n) (a:=a) (z1:=Xpr.mk 0 ⟨0,0,[]⟩ [] []) (z2:=Xpr.mk 0 ⟨0,0,[]⟩ [] []) (c:=fun e l b a=>some (e,l,n,b,a)) (kx:=fun e vz=>match vz with|(_,v17,v18,v19,v20,_,_,v23)=>match e with
    |.exit 0=>some (v23,v17,v18,v19,v20)
    |_=>none) (fun _ _ _ _=>rfl) (l.length+3) (by simp) (l.length+3) (l1.length+1) e1 l1 (by omega) (by omega) (by omega)
   rw [hq] at this
   simp only [Nk,I1,h.ok l n a e1 l1 hl hr,Zc1]
   exact this
 bad:=Ayp h.bad
theorem Bd0(rf:Au→Option Aq):Nq (Nk rf):=Ayp (Aql (Ap5 (Aqs (Apn (Wo (Apw (Ak9 rf)))))))
theorem Biu{rf:Au→Option Aq}{L:Nat}(h:SimP rf orW L) (hL:L+1≤1000000000):SimP (Nk rf) orW (L+1):=by
 have e:orW=lev orW 1:=funext Axm
 have e7:=Fb (s:=[45]) (k:=15) (Uc Aqy)
 have e6:=Du (sg:=[([42],14)]) e7
 have e5:=Du (sg:=[([43],12),([45],13)]) e6
 have e3:Dj (A7 sNOT 3 _):=Fb (Ag6 e5)
 have e2:=Du (sg:=[(Am4,4)]) e3
 have:=Bdh (A8n (A8k (A7h (A9k (Al0 (A8y (A1l h) hL) e7) e6) e5) hL) e3) e2
 rw [e]
 exact this
theorem Anj:∀m:Nat,m≤1000000000→SimP (Al (V:=Au) (R:=Aq) Nk (m+1)) orW m
 |0,_=>⟨fun _ _ _ _ _ h=>absurd h (Zm1 _),fun _ _ _ _ h=>absurd h (Zm1 _),Bd0 _⟩
 |m+1,h=>Biu (Anj m (by omega)) h
theorem A7x{L:Nat}(hL:L≤1000000000):SimP Jq orW L where
 ok l n a e l' hl hp:=(Anj (l.length+1) (by omega)).ok l n a e l' (by omega) hp
 er l n a q hl hp:=(Anj (l.length+1) (by omega)).er l n a q (by omega) hp
 bad l n a:=Bd0 _ l n a
end Go.Proofs.YthndhaolemgbdaaGreatDoor
namespace Go.Proofs.YthndhaolemgbdaaGreatDoor
open Go.Ax
def Out{α γ:Type}(g : α→TL→γ) (E:Int→γ→Prop) (n:Int) (x:Option γ) (y:PR α):Prop:=match y with
 |.ok (r,l)=>x=some (g r l)
 |.error q=>∃z,x=some z∧E (Hh n q) z
def Amn{γ:Type}(E:Int→γ→Prop) (b:Int) (x:Option γ):Prop:=∃z,x=some z∧E b z
section
variable {α β γ:Type}{g : β→TL→γ}{E:Int→γ→Prop}{n a:Int}
theorem Out.bindS{F:RS→Option (α×RS)}{p:TL→PR α}{L:Nat}(h:SimP F p L) {G : α×RS→Option γ}{f : α→TL→PR β}{l:TL}(hl:l.length<L) (h1:∀r l',p l = .ok (r,l')→Out g E n (G (r,l',n,false,a)) (f r l')) (h2:∀r l' b,Amn E b (G (r,l',n,true,b))):Out g E n ((F (l,n,false,a)).bind G) (bP p f l):=by
 unfold bP
 cases hq:p l with
 |error q =>
  obtain⟨e1,l1,h3⟩:=h.er l n a q hl hq
  rw [h3]
  exact h2 e1 l1 (Hh n q)
 |ok x =>
  obtain⟨r,l'⟩:=x
  rw [h.ok l n a r l' hl hq]
  exact h1 r l' hq
theorem Amn.bindS{F:RS→Option (α×RS)}(h:Nq F) {G : α×RS→Option γ}{l:TL}{b:Int}(h2:∀r,Amn E b (G (r,l,n,true,b))):Amn E b ((F (l,n,true,b)).bind G):=by
 obtain⟨e,h1⟩:=h l n b
 rw [h1]
 exact h2 e
theorem Out.must{ss:List Str}(hs:ss.length≤100) {G:RS→Option γ}{f:Unit→TL→PR β}{l:TL}(h1:∀l',Ba ss l = .ok ((),l')→Out g E n (G (l',n,false,a)) (f () l')) (h2:∀l' b,Amn E b (G (l',n,true,b))):Out g E n ((Aw (ss,l,n,false,a)).bind G) (bP (Ba ss) f l):=by
 unfold bP
 rw [Aoa hs]
 cases hq:Ba ss l with
 |error q=>exact h2 q (Hh n q)
 |ok x =>
  obtain⟨⟨⟩,l'⟩:=x
  exact h1 l' hq
theorem Amn.must{ss:List Str}{G:RS→Option γ}{l:TL}{b:Int}(h2:Amn E b (G (l,n,true,b))):Amn E b ((Aw (ss,l,n,true,b)).bind G):=by
 rw [Ang]
 exact h2
theorem Out.loop{part:TL→PR α}{m:Nat}{acc:List α}{l:TL}{X:Option γ}(c:List α→TL→Bool→Int→Option γ) {f:List α→TL→PR β}(hX:∀e l',Cv part m acc l = .ok (e,l')→X=c e l' false a) (hE:∀q,Cv part m acc l = .error q→∃e l',X=c e l' true (Hh n q)) (h1:∀e l',Cv part m acc l = .ok (e,l')→Out g E n (c e l' false a) (f e l')) (h2:∀e l' b,Amn E b (c e l' true b)):Out g E n X (bP (Cv part m acc) f l):=by
 unfold bP
 cases hq:Cv part m acc l with
 |error q =>
  obtain⟨e,l',h⟩:=hE q hq
  rw [h]
  exact h2 e l' (Hh n q)
 |ok x =>
  obtain⟨e,l'⟩:=x
  rw [hX e l' hq]
  exact h1 e l' hq
end
abbrev gV {α:Type}(n a:Int) (r : α) (l:TL) : α×RS:=(r,l,n,false,a)
abbrev EV {α:Type}(n:Int) (p:Int) (z : α×RS):Prop:=z.2.2.1=n∧z.2.2.2.1=true∧z.2.2.2.2=p
theorem SimP.of{α:Type}{F:RS→Option (α×RS)}{p:TL→PR α}{L:Nat}(h:∀l n a,l.length<L→Out (gV n a) (EV n) n (F (l,n,false,a)) (p l)) (hb:Nq F):SimP F p L where
 ok l n a e l' hl hp:=by
  have:=h l n a hl
  rw [hp] at this
  exact this
 er l n a q hl hp:=by
  have:=h l n a hl
  rw [hp] at this
  obtain⟨⟨r,l',n',b,p'⟩,h1,h2,h3,h4⟩:=this
  simp only at h2 h3 h4
  subst h2 h3 h4
  exact⟨r,l',h1⟩
 bad:=hb
end Go.Proofs.YthndhaolemgbdaaGreatDoor
namespace Go.Proofs.YthndhaolemgbdaaGreatDoor
open Go.Ax
section
variable {V R α:Type}{step:(V→Option R)→V→Option R}{st:TL→Int→Bool→Int→List α→V}{n:Int}{Fp:RS→Option (α×RS)}{part:TL→PR α}{L:Nat}{c:List α→TL→Bool→Int→Option R}
end
abbrev Cl:=Int×Str×Str×List Col×List Str×List Xpr×List (List Xpr)×List SetE×Bool×Int×Int×Int×Str×Str×List Xpr×List Str×List Bool×Int
end Go.Proofs.YthndhaolemgbdaaGreatDoor
namespace Go.Proofs.YthndhaolemgbdaaGreatDoor
open Go.Ax
section
variable {R:Type}{kx:Ex→Jy→Option R}{n:Int}{sn so:Str}{sc:List Col}{ss:List Str}{sl:List Xpr}{sr:List (List Xpr)}{sd:List Str}{se:List Bool}{sm:Int}
end
end Go.Proofs.YthndhaolemgbdaaGreatDoor
namespace Go.Proofs.YthndhaolemgbdaaGreatDoor
open Go.Ax
theorem Out.map{α β γ:Type}{g : α→TL→γ}{g' : β→TL→γ}{E:Int→γ→Prop}{n:Int}{x:Option γ}{p:TL→PR α}{h : α→β}{l:TL}(ho:Out g E n x (p l)) (hg:∀r l',g r l' = g' (h r) l'):Out g' E n x (bP p (fun w=>Hq (h w)) l):=by
 unfold bP
 cases hq:p l with
 |error q=>rw [hq] at ho;exact ho
 |ok y =>
  obtain⟨r,l'⟩:=y
  rw [hq] at ho
  exact ho.trans (congrArg some (hg r l'))
def Bfc(s:Stm):Cl:=(s.kind,s.name,s.on,s.cols,s.names,s.l,s.rows,s.sets,s.has,s.whr.kind,s.whr.v.kind,s.whr.v.n,s.whr.v.s,s.whr.name,s.whr.l,s.order,s.desc,s.most)
abbrev gS (n a:Int) (s:Stm) (l:TL):TL×Int×Bool×Int×Cl:=(l,n,false,a,Bfc s)
abbrev z0:Cl:=(0,[],[],[],[],[],[],[],false,0,0,0,[],[],[],[],[],0)
end Go.Proofs.YthndhaolemgbdaaGreatDoor
namespace Go.Proofs.YthndhaolemgbdaaGreatDoor
open Go.Ax
abbrev c0 (nm:Str):Col:=Col.mk nm 0 false false []
section
variable {R:Type}{kx:Ex→Pr→Option R}(rec:Pr→Option R) (w:TL) (n a:Int) (z:Col) (nm:Str)
end
section
variable {L:Nat}(n a:Int) (nm:Str) (k:Int)
end
end Go.Proofs.YthndhaolemgbdaaGreatDoor
namespace Go.Proofs.YthndhaolemgbdaaGreatDoor
open Go.Ax
section
variable {V R:Type}{step:(V→Option R)→V→Option R}{st:TL→Int→Bool→Int→List Col→V}{n:Int}{L:Nat}{c:List Col→TL→Bool→Int→Option R}
end
end Go.Proofs.YthndhaolemgbdaaGreatDoor
namespace Go.Proofs.YthndhaolemgbdaaGreatDoor
open Go.Ax
open Lp (tokS Sc clsF)
end Go.Proofs.YthndhaolemgbdaaGreatDoor
namespace Go.Proofs.YthndhaolemgbdaaGreatDoor
open Go.Ax
open Lp (tokS Sc clsF)
def Fin(l:TL):Prop:=l=[]∨hdW [59] l
end Go.Proofs.YthndhaolemgbdaaGreatDoor
namespace Go.Proofs.YthndhaolemgbdaaGreatDoor
open Go.Ax
section
variable {R:Type}{n:Int}{nm:Str}{cs:List Col}{ns:List Str}
end
end Go.Proofs.YthndhaolemgbdaaGreatDoor
namespace Go.Proofs.YthndhaolemgbdaaGreatDoor
open Go.Ax
end Go.Proofs.YthndhaolemgbdaaGreatDoor
namespace Go.Proofs.YthndhaolemgbdaaGreatDoor
open Go.Ax
end Go.Proofs.YthndhaolemgbdaaGreatDoor
namespace Go.Proofs.YthndhaolemgbdaaGreatDoor
open Go.Ax
section
variable {R:Type}{kx:Ex→Hw→Option R}{n:Int}{c:Cl}
end
end Go.Proofs.YthndhaolemgbdaaGreatDoor
namespace Go.Proofs.YthndhaolemgbdaaGreatDoor
open Go.Ax
end Go.Proofs.YthndhaolemgbdaaGreatDoor
namespace Go.Proofs.YthndhaolemgbdaaGreatDoor
open Go.Ax
end Go.Proofs.YthndhaolemgbdaaGreatDoor
namespace Go.Proofs.YthndhaolemgbdaaGreatDoor
open Go.Ax
abbrev gF (n a:Int) (s:Stm) (l:TL):Stm×RS:=(s,Bd6 l,n,false,a)
section
variable {R:Type}{kx:Ex→Pz→Option R}{n:Int}{nm:Str}
end
end Go.Proofs.YthndhaolemgbdaaGreatDoor
namespace Go.Proofs.YthndhaolemgbdaaGreatDoor
open Go.Ax
end Go.Proofs.YthndhaolemgbdaaGreatDoor
namespace Go.Proofs.YthndhaolemgbdaaGreatDoor
open Go.Ax
end Go.Proofs.YthndhaolemgbdaaGreatDoor
namespace Go.Proofs.YthndhaolemgbdaaGreatDoor
open Go.Ax
theorem A8v(n a:Int):G2 ([],n,false,a)=some (true,[],n,false,a):=rfl
theorem Az9(t:Tok) (r:TL) (n a:Int):G2 (t::r,n,false,a)=some (false,t::r,n,true,t.pos):=by
 have e:decide (0<((t::r).length:Int))=true:=Ze1 (by simp only [Zf1];omega)
 simp only [G2,M4,e,Af,Awh,Zc1]
 rfl
theorem A6e(l:TL) (n a:Int):G2 (l,n,true,a)=some (false,l,n,true,a):=by
 simp only [G2,M4,Azb,Zc1]
 cases decide (0<(l.length:Int))<;>rfl
def xS(s:Str):Option (Stm×Int×Int):=if(Dy s).2.2=0 then match Bfq (Dy s).1 with
  |.error q=>some (zS,Hh s.length q,11)
  |.ok x=>(Ny x).bind fun e=>if e=0 then some (x,0,0) else some (zS,0,e)
 else some (zS,(Dy s).2.1,(Dy s).2.2)
def xX(s:Str):Option (Xpr×Int×Int):=if(Dy s).2.2=0 then match Mf (Dy s).1 with
  |.error q=>some (zX,Hh s.length q,11)
  |.ok x=>if Tb x=0 then some (x,0,0) else some (zX,0,Tb x)
 else some (zX,(Dy s).2.1,(Dy s).2.2)
theorem Afw(s:Str) (hs:(Dy s).1.length<1000000000):V6 s=xX s:=by
 unfold xX V6
 simp only [Uk]
 by_cases h0:(Dy s).2.2=0
 ·rw [Ze1 h0,if_pos h0]
  simp only [Zt1,Ah]
  unfold Mf
  cases hq:orW (Dy s).1 with
  |error q =>
   obtain⟨x,l',h1⟩:=(A7x (L:=1000000000) (Zn1 _)).er (Dy s).1 (s.length:Int) 0 q hs hq
   simp only [h1,Zc1,A6e,Zs1,Af]
   rfl
  |ok y =>
   obtain⟨x,l'⟩:=y
   simp only [(A7x (L:=1000000000) (Zn1 _)).ok (Dy s).1 (s.length:Int) 0 x l' hs hq,Zc1]
   cases l' with
   |nil =>
    simp only [A8v,Zc1,Zt1,Ah]
    by_cases he:Tb x=0
    ·rw [Ze1 he,if_pos he];rfl
    ·rw [Zd1 he,if_neg he];rfl
   |cons t r =>
    simp only [Az9,Zc1,Zs1,Af]
    rfl
 ·rw [Zd1 h0,if_neg h0]
  rfl
end Go.Proofs.YthndhaolemgbdaaGreatDoor
namespace Go.Proofs.YthndhaolemgbdaaGreatDoor
open Go.Ax
end Go.Proofs.YthndhaolemgbdaaGreatDoor
namespace Go.Proofs.YthndhaolemgbdaaGreatDoor
open Go.Ax
def A5r(R:Type) (rf:FT [.sv .expr] [.int .i64]):Px R:=pxO [(101,cA Xg),(72,cA Ada),(36,cA Ac6),(46,cA rf)] [] [] []
def I2(rf:FT [.sv .expr] [.int .i64]) (x:HV [.sv .expr]):Option (HV [.int .i64]):=match x with
 |e =>
 let j2:=fun(p11:Int) =>
  cond (!decide ((e.l.length:Int)=p11)) (
  some 31) (
  cond (!decide (e.v=(Val.mk 0 0 []))) (
   some 31) (
   cond (!decide (e.name=[])) (
   some 31) (
   chk (inb 0 e.l.length) (
    (rf (at' .expr e.l 0)).bind fun x =>
    cond (decide (p11=2)) (
     chk (inb 1 e.l.length) (
     (rf (at' .expr e.l 1)).bind fun x1 =>
      some (wr .i64 (1+(max2 x x1))))) (
     some (wr .i64 (1+x)))))))
 cond (decide (e.kind=1)) (
  let j:=fun(p1:Bool) =>
  cond (p1) (
   some 31) (
   cond (!decide (e.name=[])) (
   some 31) (
   cond (decide (0<(e.l.length:Int))) (
    some 31) (
    some 1)))
  cond (!decide ((Aem e.v)=0)) (
  j true) (
  cond (decide (e.v.kind=3)) (
   j (decide (e.v.n<0))) (
   j false))) (
  cond (decide (e.kind=2)) (
  cond (!(Agp e.name)) (
   some 31) (
   cond (!decide (e.v=(Val.mk 0 0 []))) (
   some 31) (
   cond (decide (0<(e.l.length:Int))) (
    some 31) (
    some 1)))) (
  let j1:=fun(p10:Bool) =>
   cond (p10) (
   j2 1) (
   cond (decide ((Vu e.kind)=[])) (
    some 31) (
    j2 2))
  cond (decide (e.kind=3)) (
   j1 (decide (e.kind=3))) (
   cond (decide (e.kind=15)) (
   j1 (decide (e.kind=15))) (
   j1 (decide (e.kind=16))))))
theorem A2a(rf:FT [.sv .expr] [.int .i64]) (hrf:FO 46 [.sv .expr] [.int .i64] rf):FO 46 [.sv .expr] [.int .i64] (I2 rf):=fR (px:=A5r _ rf) (n:=0) Tryz.func46 rfl (fun _ H=>⟨lv H (c1 H Alo (c1 H Ao3 (c1 H Asj (c1 H hrf Ae)))) Aa Ab,Aj⟩) fun _=>by kernel_rfl
def hd(q:List Int) (i:Nat):Int:=q.getD i 0
def An4(e:Xpr) (q:List Int):Int :=
 if e.kind=1 then(if Em e.v=0∧¬(e.v.kind=3∧e.v.n<0)∧e.name=[]∧¬ 0<(e.l.length:Int) then 1 else 31)
 else if e.kind=2 then(if Dq e.name=true∧e.v=⟨0,0,[]⟩∧¬ 0<(e.l.length:Int) then 1 else 31)
 else if e.kind=3∨e.kind=15∨e.kind=16 then(if(e.l.length:Int)=1∧e.v=⟨0,0,[]⟩∧e.name=[] then wr .i64 (1+hd q 0) else 31)
 else if Vu e.kind=[] then 31
 else if(e.l.length:Int)=2∧e.v=⟨0,0,[]⟩∧e.name=[] then wr .i64 (1+max2 (hd q 0) (hd q 1)) else 31
mutual
def Bm:Xpr→Int
 |.mk k v nm l=>An4 (.mk k v nm l) (rdeepL l)
def rdeepL:List Xpr→List Int
 |[]=>[]
 |x::l=>Bm x::rdeepL l
end
theorem Adt(e:Xpr):Bm e=An4 e (rdeepL e.l):=by
 cases e
 simp only [Bm,Xpr.l]
def Awb:FT [.sv .expr] [.int .i64]:=fun x=>some (Bm x)
theorem Afx{e:Xpr}{rf:FT [.sv .expr] [.int .i64]}(hrf:∀x,x∈e.l→rf x=some (Bm x)) (p:Int→Option Int):(cond (!decide ((e.l.length:Int)=1)) (some 31) (cond (!decide (e.v=Val.mk 0 0 [])) (some 31) (cond (!decide (e.name=[])) (some 31) (chk (inb 0 e.l.length) ((rf (at' .expr e.l 0)).bind fun x=>cond (decide ((1:Int)=2)) (p x) (some (wr .i64 (1+x))))))))=some (if(e.l.length:Int)=1∧e.v=⟨0,0,[]⟩∧e.name=[] then wr .i64 (1+hd (rdeepL e.l) 0) else 31):=by
 by_cases b1:(e.l.length:Int)=1
 ·obtain⟨x,hl⟩:∃x,e.l=[x]:=List.length_eq_one_iff.1 (by omega)
  have hrx:=hrf x (by rw [hl];simp)
  rw [hl]
  have a0:at' .expr [x] 0=x:=rfl
  have i0:inb 0 [x].length=true:=rfl
  by_cases b2:e.v=⟨0,0,[]⟩
  ·by_cases b3:e.name=[]
   ·rw [Ze1 b2,Ze1 b3,if_pos ⟨rfl,b2,b3⟩,a0,i0,hrx]
    rfl
   ·rw [Ze1 b2,Zd1 b3,if_neg (fun h=>b3 h.2.2)]
    rfl
  ·rw [Zd1 b2,if_neg (fun h=>b2 h.2.1)]
   rfl
 ·rw [Zd1 b1,if_neg (fun h=>b1 h.1)]
  rfl
theorem Ana{l:List Xpr}(h:l.length=2):∃x y,l=[x,y]:=by
 match l,h with
 |[x,y],_=>exact⟨x,y,rfl⟩
theorem A6q{e:Xpr}{rf:FT [.sv .expr] [.int .i64]}(hrf:∀x,x∈e.l→rf x=some (Bm x)) (p:Int→Option Int):(cond (!decide ((e.l.length:Int)=2)) (some 31) (cond (!decide (e.v=Val.mk 0 0 [])) (some 31) (cond (!decide (e.name=[])) (some 31) (chk (inb 0 e.l.length) ((rf (at' .expr e.l 0)).bind fun x=>cond (decide ((2:Int)=2)) (chk (inb 1 e.l.length) ((rf (at' .expr e.l 1)).bind fun x1=>some (wr .i64 (1+(max2 x x1))))) (p x))))))=some (if(e.l.length:Int)=2∧e.v=⟨0,0,[]⟩∧e.name=[] then wr .i64 (1+max2 (hd (rdeepL e.l) 0) (hd (rdeepL e.l) 1)) else 31):=by
 by_cases b1:(e.l.length:Int)=2
 ·obtain⟨x,y,hl⟩:∃x y,e.l=[x,y]:=Ana (by omega)
  have hrx:=hrf x (by rw [hl];simp)
  have hry:=hrf y (by rw [hl];simp)
  rw [hl]
  have a0:at' .expr [x,y] 0=x:=rfl
  have a1:at' .expr [x,y] 1=y:=rfl
  have i0:inb 0 [x,y].length=true:=rfl
  have i1:inb 1 [x,y].length=true:=rfl
  by_cases b2:e.v=⟨0,0,[]⟩
  ·by_cases b3:e.name=[]
   ·rw [Ze1 b2,Ze1 b3,if_pos ⟨rfl,b2,b3⟩,a0,i0,a1,i1,hrx,hry]
    rfl
   ·rw [Ze1 b2,Zd1 b3,if_neg (fun h=>b3 h.2.2)]
    rfl
  ·rw [Zd1 b2,if_neg (fun h=>b2 h.2.1)]
   rfl
 ·rw [Zd1 b1,if_neg (fun h=>b1 h.1)]
  rfl
theorem As9{e:Xpr}{rf:FT [.sv .expr] [.int .i64]}(hrf:∀x,x∈e.l→rf x=some (Bm x)):I2 rf e=some (Bm e):=by
 have ro:∀v:Val,Aem v=Em v:=fun _=>rfl
 have rn:∀s:Str,Agp s=Dq s:=Aol
 have a6 : 0<e.l.length↔¬e.l=[]:=List.length_pos_iff
 rw [Adt]
 simp only [I2,An4,ro,rn]
 by_cases k1:e.kind=1
 ·simp only [Ze1 k1,if_pos k1,Af]
  by_cases a1:Em e.v=0<;>by_cases a2:e.v.kind=3<;>by_cases a3:e.v.n<0<;>by_cases a4:e.name=[]<;>by_cases a5:e.l=[]<;>simp [a1,a2,a3,a4,a5,a6]
 ·by_cases k2:e.kind=2
  ·simp only [Zd1 k1,if_neg k1,Ze1 k2,if_pos k2,Af,Ah]
   cases Dq e.name<;>by_cases a2:e.v=⟨0,0,[]⟩<;>by_cases a5:e.l=[]<;>simp [a2,a5,a6]
  ·rw [if_neg k1,if_neg k2,Zd1 k1,Zd1 k2]
   by_cases k3:e.kind=3
   ·rw [if_pos (.inl k3),Ze1 k3]
    exact Afx hrf _
   ·by_cases k15:e.kind=15
    ·rw [if_pos (.inr (.inl k15)),Zd1 k3,Ze1 k15]
     exact Afx hrf _
    ·by_cases k16:e.kind=16
     ·rw [if_pos (.inr (.inr k16)),Zd1 k3,Zd1 k15,Ze1 k16]
      exact Afx hrf _
     ·rw [if_neg (by omega),Zd1 k3,Zd1 k15,Zd1 k16]
      by_cases ks:Vu e.kind=[]
      ·rw [if_pos ks,Ze1 ks]
       rfl
      ·rw [if_neg ks,Zd1 ks]
       exact A6q hrf _
theorem Aln:∀(n:Nat) (e:Xpr),Bc e≤n→Al I2 n e=some (Bm e)
 |0,e,h=>by have:=Gr e;omega
 |n+1,e,h=>by
  rw [A3]
  refine As9 fun x hx=>Aln n x ?_
  have:=Ei hx
  rw [D6] at h
  omega
theorem A6a:FO 46 [.sv .expr] [.int .i64] Awb:=by
 refine .fin (ι:=Nat) 0 (F:=fun n=>Al I2 n) (fun n=>FnOk.rec' (Sx.enters_of Tryz.func46 rfl rfl) (fun rf hrf=>A2a rf hrf) n) fun e r hb hx=>⟨Bc e,?_⟩
 exact(Aln (Bc e) e (Zn1 _)).trans hx
def A4m(R:Type):Px R:=pxO [(46,cA Awb)] [] [] []
def Tz(x:HV [.sv .expr]):Option (HV [.int .i64]):=match x with
 |e =>
 cond (decide (30<(Bm e))) (
  some 2) (
  some 0)
theorem A17:FO 19 [.sv .expr] [.int .i64] (Tz):=fR (px:=A4m _) (n:=0) Tryz.func19 rfl (fun _ H=>⟨lv H (c1 H A6a Ae) Aa Ab,Aj⟩) fun _=>by kernel_rfl
def Ln(e:Xpr):Int :=
 cond (decide (30<(Bm e))) (
  2) (
  0)
theorem Az1(x:HV [.sv .expr]):Tz x=some (Ln x):=by
 first
  |exact rfl
  |simp only [Tz,Ln,Bb]
def Axk:FT [.sv .expr] [.int .i64]:=fun x=>some (Ln x)
theorem A4s:FO 19 [.sv .expr] [.int .i64] Axk :=.fin0 A17 fun x _ _ hx=>(Az1 x).trans hx
theorem M9:∀(n:Nat) (e:Xpr),Bc e≤n→n<1000000→1≤Bm e∧Bm e≤31+(n:Int)
 |0,e,h,_=>by have:=Gr e;omega
 |n+1,e,h,hn=>by
  have one:(e.l.length:Int)=1→1≤wr .i64 (1+hd (rdeepL e.l) 0)∧wr .i64 (1+hd (rdeepL e.l) 0)≤31+((n+1:Nat):Int):=fun hl=>by
   obtain⟨x,hx⟩:∃x,e.l=[x]:=List.length_eq_one_iff.1 (by omega)
   have hb:=M9 n x (by rw [D6,hx] at h;simp only [esizes] at h;omega) (by omega)
   have h0:hd (rdeepL e.l) 0=Bm x:=by rw [hx];rfl
   rw [h0,Cc (by simp only [inI];omega)]
   omega
  have two:(e.l.length:Int)=2→1≤wr .i64 (1+max2 (hd (rdeepL e.l) 0) (hd (rdeepL e.l) 1))∧wr .i64 (1+max2 (hd (rdeepL e.l) 0) (hd (rdeepL e.l) 1))≤31+((n+1:Nat):Int):=fun hl=>by
   obtain⟨x,y,hx⟩:∃x y,e.l=[x,y]:=Ana (by omega)
   have hb:=M9 n x (by rw [D6,hx] at h;simp only [esizes] at h;omega) (by omega)
   have hc:=M9 n y (by rw [D6,hx] at h;simp only [esizes] at h;omega) (by omega)
   have h0:hd (rdeepL e.l) 0=Bm x:=by rw [hx];rfl
   have h1:hd (rdeepL e.l) 1=Bm y:=by rw [hx];rfl
   have hm:max2 (Bm x) (Bm y)=Bm x∨max2 (Bm x) (Bm y)=Bm y:=by
    simp only [max2]
    split<;>simp
   rw [h0,h1]
   rcases hm with hm|hm<;>rw [hm,Cc (by simp only [inI];omega)]<;>omega
  rw [Adt]
  simp only [An4]
  split
  ·split<;>omega
  ·split
   ·split<;>omega
   ·split
    ·split
     ·rename_i hc
      exact one hc.1
     ·omega
    ·split
     ·omega
     ·split
      ·rename_i hc
       exact two hc.1
      ·omega
theorem A1b{k:Int}(h : 4≤k∧k≤14):¬Vu k=[]:=by
 rcases(by omega:k=4∨k=5∨k=6∨k=7∨k=8∨k=9∨k=10∨k=11∨k=12∨k=13∨k=14) with rfl|rfl|rfl|rfl|rfl|rfl|rfl|rfl|rfl|rfl|rfl<;>decide
theorem A83{k:Int}(h1:¬(4≤k∧k≤14)):Vu k=[]:=by
 by_cases h2:k<0∨15≤k
 ·rw [Vu,if_pos h2]
 ·rcases(by omega:k=0∨k=1∨k=2∨k=3) with rfl|rfl|rfl|rfl<;>decide
theorem A9j{k:Int}(h:Hn k = -1):¬(1≤k∧k≤16):=fun hk=>by
 rcases(by omega:k=1∨k=2∨k=3∨k=4∨k=5∨k=6∨k=7∨k=8∨k=9∨k=10∨k=11∨k=12∨k=13∨k=14∨k=15∨k=16) with rfl|rfl|rfl|rfl|rfl|rfl|rfl|rfl|rfl|rfl|rfl|rfl|rfl|rfl|rfl|rfl<;>exact absurd h (by decide)
theorem M3:∀(n:Nat) (e:Xpr) (m:Nat),Bc e≤n→n<1000000→m≤30→(A8 e (m:Int)=true↔Bm e≤(m:Int))
 |0,e,_,h,_,_=>by have:=Gr e;omega
 |n+1,e,m,h,hn,hm=>by
  have hb:=M9 (n+1) e h hn
  rw [Aii]
  by_cases h0:m=0
  ·subst h0
   constructor
   ·intro hx
    rw [Ze1 (show((0:Nat):Int)=0 from rfl)] at hx
    cases hx
   ·intro hx;omega
  ·have hw:wr .i64 ((m:Int)-1)=((m-1:Nat):Int):=by
    rw [Cc (by simp only [inI];omega)];omega
   have m1:(1:Int)≤(m:Int):=by omega
   have m31:¬(31:Int)≤(m:Int):=by omega
   rw [hw,Zd1 (show ¬(m:Int)=0 by omega),Adt]
   rcases At5 e.kind with ⟨p,hk⟩|⟨p,hk⟩|⟨p,hk⟩|p
   ·rw [p]
    have hz:decide ((e.l.length:Int)=0)=decide (e.l=[]):=Zy1.2 ⟨fun h=>List.eq_nil_of_length_eq_zero (by omega),fun h=>by rw [h];rfl⟩
    have hy : 0<e.l.length↔¬e.l=[]:=List.length_pos_iff
    rw [hz]
    rcases hk with k1|k2
    ·simp only [An4,eok,k1]
     by_cases hl:e.l=[]<;>by_cases a1:Em e.v=0<;>by_cases a2:e.v.kind=3<;>by_cases a3:e.v.n<0<;>by_cases a4:e.name=[]<;>simp [hl,a1,a2,a3,a4,m1,m31,erights]
    ·simp only [An4,eok,k2]
     by_cases hl:e.l=[]<;>by_cases a1:Dq e.name=true<;>by_cases a2:e.v=⟨0,0,[]⟩<;>simp [hl,a1,a2,m1,m31,erights]
   ·have k1:¬e.kind=1:=by omega
    have k2:¬e.kind=2:=by omega
    rw [p]
    simp only [An4,eok,if_neg k1,if_neg k2,if_pos hk,Zd1 k1,Zd1 k2,Ah]
    by_cases hl:(e.l.length:Int)=1
    ·obtain⟨x,hx⟩:∃x,e.l=[x]:=List.length_eq_one_iff.1 (by omega)
     have hs:Bc x≤n:=by rw [D6,hx] at h;simp only [esizes] at h;omega
     have hbx:=M9 n x hs (by omega)
     have ih:A8 x ((m-1:Nat):Int)=true↔1+Bm x≤(m:Int):=(M3 n x (m-1) hs (by omega) (by omega)).trans (by omega)
     have hr:erights e.l ((m-1:Nat):Int)=A8 x ((m-1:Nat):Int):=by rw [hx];simp only [erights,Bool.and_true]
     have h0:hd (rdeepL e.l) 0=Bm x:=by rw [hx];rfl
     have hwx:wr .i64 (1+Bm x)=1+Bm x:=Cc (by simp only [inI];omega)
     rw [hr,h0,hwx,Ze1 hl]
     by_cases b2:e.v=⟨0,0,[]⟩<;>by_cases b3:e.name=[]<;>simp [hl,b2,b3,ih,m31]
    ·rw [Zd1 hl]
     simp [hl,m31]
   ·have k1:¬e.kind=1:=by omega
    have k2:¬e.kind=2:=by omega
    have k3:¬(e.kind=3∨e.kind=15∨e.kind=16):=by omega
    rw [p]
    simp only [An4,eok,if_neg k1,if_neg k2,if_neg k3,if_neg (A1b hk),Zd1 k1,Zd1 k2,Ah]
    by_cases hl:(e.l.length:Int)=2
    ·obtain⟨x,y,hx⟩:∃x y,e.l=[x,y]:=Ana (by omega)
     have hs:Bc x≤n:=by rw [D6,hx] at h;simp only [esizes] at h;omega
     have ht:Bc y≤n:=by rw [D6,hx] at h;simp only [esizes] at h;omega
     have hbx:=M9 n x hs (by omega)
     have hby:=M9 n y ht (by omega)
     have ih:A8 x ((m-1:Nat):Int)=true↔1+Bm x≤(m:Int):=(M3 n x (m-1) hs (by omega) (by omega)).trans (by omega)
     have jh:A8 y ((m-1:Nat):Int)=true↔1+Bm y≤(m:Int):=(M3 n y (m-1) ht (by omega) (by omega)).trans (by omega)
     have hr:erights e.l ((m-1:Nat):Int)=(A8 x ((m-1:Nat):Int)&&A8 y ((m-1:Nat):Int)):=by rw [hx];simp only [erights,Bool.and_true]
     have h0:hd (rdeepL e.l) 0=Bm x:=by rw [hx];rfl
     have h1:hd (rdeepL e.l) 1=Bm y:=by rw [hx];rfl
     have hwx:wr .i64 (1+max2 (Bm x) (Bm y))=1+max2 (Bm x) (Bm y):=Cc (by
      simp only [inI,max2]
      split<;>omega)
     have hmx : 1+max2 (Bm x) (Bm y)≤(m:Int)↔(1+Bm x≤(m:Int)∧1+Bm y≤(m:Int)):=by
      simp only [max2]
      split<;>omega
     rw [hr,h0,h1,hwx,Ze1 hl]
     by_cases b2:e.v=⟨0,0,[]⟩<;>by_cases b3:e.name=[]<;>simp [hl,b2,b3,ih,jh,hmx,m31]
    ·rw [Zd1 hl]
     simp [hl,m31]
   ·have hk:=A9j p
    rw [p,Zd1 (show ¬(e.l.length:Int) = -1 by omega)]
    simp only [An4,if_neg (show ¬e.kind=1 by omega),if_neg (show ¬e.kind=2 by omega),if_neg (show ¬(e.kind=3∨e.kind=15∨e.kind=16) by omega),if_pos (A83 (show ¬(4≤e.kind∧e.kind≤14) by omega))]
    simp [m31]
end Go.Proofs.YthndhaolemgbdaaGreatDoor
namespace Go.Proofs.YthndhaolemgbdaaGreatDoor
open Go.Ax
theorem A5i(s:Str):Wp s=decide (s∈wordsL):=by
 have e:Wp s=wordsL.contains s:=Aho s
 rw [e,Bool.eq_iff_iff]
 simp
def Az6(R:Type):Px R:=pxO [] [] [] []
def Ox(x:HV []):Option (HV [.sl .str true]):=match x with
 |() =>
 some [[65,68,68],[65,78,68],[65,83,67],[66,79,79,76],[66,89],[66,89,84,69,83],[67,72,69,67,75],[67,82,69,65,84,69],[68,69,76,69,84,69],[68,69,83,67],[68,82,79,80],[70,65,76,83,69],[70,82,79,77],[73,78,68,69,88],[73,78,83,69,82,84],[73,78,84],[73,78,84,79],[73,83],[75,69,89],[76,73,77,73,84],[78,79,84],[78,85,76,76],[79,78],[79,82],[79,82,68,69,82],[80,82,73,77,65,82,89],[82,69,70,69,82,69,78,67,69,83],[83,69,76,69,67,84],[83,69,84],[84,65,66,76,69],[84,69,88,84],[84,82,85,69],[85,78,73,81,85,69],[85,80,68,65,84,69],[86,65,76,85,69,83],[87,72,69,82,69]]
theorem Auf:FO 168 [] [.sl .str true] (Ox):=fR (px:=Az6 _) (n:=0) Tryz.func168 rfl (fun _ H=>⟨lv H Ae Aa Ab,Aj⟩) fun()=>by kernel_rfl
def Afr:List Str :=
 [[65,68,68],[65,78,68],[65,83,67],[66,79,79,76],[66,89],[66,89,84,69,83],[67,72,69,67,75],[67,82,69,65,84,69],[68,69,76,69,84,69],[68,69,83,67],[68,82,79,80],[70,65,76,83,69],[70,82,79,77],[73,78,68,69,88],[73,78,83,69,82,84],[73,78,84],[73,78,84,79],[73,83],[75,69,89],[76,73,77,73,84],[78,79,84],[78,85,76,76],[79,78],[79,82],[79,82,68,69,82],[80,82,73,77,65,82,89],[82,69,70,69,82,69,78,67,69,83],[83,69,76,69,67,84],[83,69,84],[84,65,66,76,69],[84,69,88,84],[84,82,85,69],[85,78,73,81,85,69],[85,80,68,65,84,69],[86,65,76,85,69,83],[87,72,69,82,69]]
theorem Au3(x:HV []):Ox x=some (Afr):=by
 first
  |exact rfl
  |simp only [Ox,Afr,Bb]
def Apj:FT [] [.sl .str true]:=fun _=>some (Afr)
theorem A1n:FO 168 [] [.sl .str true] Apj :=.fin0 Auf fun x _ _ hx=>(Au3 x).trans hx
theorem A29:Afr=wordsL:=rfl
def Ag9:Sig:=⟨18,[(0,.str),(2,.bool),(3,.sl .str true),(4,.int .i64)],[],[],0,0,0,[],[]⟩
abbrev Q4:=Str×Bool×List Str×Int
def P4{R:Type}(rec:Q4→Option R) (kx:Ex→Q4→Option R) (v:Q4):Option R:=match v with
 |(v,v1,v2,v3) =>
 cond (decide (v3<(v2.length:Int))) (
  chk (inb v3 v2.length) (
  cond (decide ((at' .str v2 v3)=v)) (
   kx .ret (v,true,v2,v3)) (
   rec (v,v1,v2,(wr .i64 (v3+1)))))) (
  kx (.exit 0) (v,v1,v2,v3))
def Aq3(R:Type) (k:Nat):Px R:=pxO [(168,cA Apj)] [] [(3,Ao k Ag9 (P4))] []
def Ah0(k:Nat) (x:HV [.str]):Option (HV [.bool]):=match x with
 |s =>
 Al (fun rec=>P4 rec (fun e vz=>match vz with|(_,v5,_,_)=>match e with
  |.ret =>
  some v5
  |.exit 0 =>
  some false
  |_=>none)) k (s,false,Afr,0)
theorem A1g(k:Nat):FO 144 [.str] [.bool] (Ah0 k):=fR (px:=Aq3 _ k) (n:=1) Tryz.func144 rfl (fun cx H=>by
 have h0:Lv cx (Aq3 (HV [.bool]) k):=lv H (c1 H A1n Ae) Aa Ab
 have hlrword_0:=lO H h0 (b:=lp Tryz.f144 0) (k:=k) (n:=0) (s:=Ag9) (step:=P4) (fun _ _ _ (_,_,_,_)=>by kernel_rfl) Aj
 exact⟨h0,(Bf Aj hlrword_0)⟩) fun _=>by kernel_rfl
abbrev Ay4 (s:Str):Bool:=Wp s
def Am0:FT [.str] [.bool]:=fun x=>some (Ay4 x)
theorem Ahw{R:Type}{kx:Ex→Q4→Option R}{l:List Str}{s:Str}{c:Bool→Option R}(hl:ln l.length) (h1:∀i,kx .ret (s,true,l,i)=c true) (h2:∀q i,kx (.exit 0) (s,q,l,i)=c false) :
  ∀(k i:Nat) (q:Bool),i≤l.length→l.length-i<k→Al (fun rec=>P4 rec kx) k (s,q,l,(i:Int))=c (decide (s∈l.drop i))
 |0,i,_,_,h=>by omega
 |k+1,i,q,hi,h=>by
  rw [A3]
  by_cases hlt:i<l.length
  ·have ih:=Ahw hl h1 h2 k (i+1) q (by omega) (by omega)
   have e1:decide ((i:Int)<(l.length:Int))=true:=Ze1 (by omega)
   simp only [P4,e1,Af,A4 hlt,chk,A9 (c :=.str) hlt,Az hlt hl,ih,h1]
   rw [Am hlt]
   by_cases hx:l[i]=s
   ·rw [Ze1 hx];simp [hx]
   ·have hx2:¬s=l[i]:=fun e=>hx e.symm
    have hm:(s∈l[i]::l.drop (i+1))↔s∈l.drop (i+1):=⟨fun q=>(List.mem_cons.1 q).resolve_left hx2,fun q=>Zu1 _ q⟩
    rw [Zd1 hx,Ah,Zy1.2 hm]
  ·simp only [P4,Zd1 (show ¬(i:Int)<(l.length:Int) by omega),Ah,h2]
   rw [Zk1 (by omega)]
   simp
theorem A8w:FO 144 [.str] [.bool] Am0 :=.fin 0 A1g fun s r hb hx=>⟨37,by
 simp only [Am0,Za1] at hx
 rw [←hx]
 simp only [Ah0,A29]
 refine(Ahw (c:=fun q=>some q) (by simp [ln,wordsL]) (fun _=>rfl) (fun _ _=>rfl) 37 0 false (Nat.zero_le _) (by simp [wordsL])).trans ?_
 rw [Zq1,Ay4,A5i]⟩
def sm1(s:Str) (i:Int):Prop:=0≤i∧i≤(s.length:Int)∧s.length≤1000000
instance (s:Str) (i:Int):Decidable (sm1 s i):=by unfold sm1;infer_instance
def Ajk:Sig:=⟨26,[(0,.str),(1,.int .i64)],[],[],0,0,0,[],[]⟩
abbrev V8:=Str×Int
def Zg{R:Type}(rec:V8→Option R) (kx:Ex→V8→Option R) (v:V8):Option R:=match v with
 |(v,v1) =>
 let j:=fun(p:Bool) =>
  cond (p) (
  chk (inb v1 v.length) (
   cond (decide ((Bn (bat v v1))≤4)) (
   rec (v,(wr .i64 (v1+1)))) (
   kx (.exit 0) (v,v1)))) (
  kx (.exit 0) (v,v1))
 cond (decide (v1<(v.length:Int))) (
  chk (inb v1 v.length) (
  j (decide (1≤(Bn (bat v v1)))))) (
  j false)
def Ayu(R:Type) (k:Nat):Px R:=pxO [(92,cA Im)] [] [(1,Ao k Ajk (Zg))] []
def A06(k:Nat) (x:HV [.str,.int .i64]):Option (HV [.int .i64]):=match x with
 |(s,i) =>
 Al (fun rec=>Zg rec (fun e vz=>match vz with|(_,v3)=>match e with
  |.exit 0 =>
  some v3
  |_=>none)) k (s,i)
theorem A6j(k:Nat):FO 142 [.str,.int .i64] [.int .i64] (A06 k):=fR (px:=Ayu _ k) (n:=1) Tryz.func142 rfl (fun cx H=>by
 have h0:Lv cx (Ayu (HV [.int .i64]) k):=lv H (c1 H Kf Ae) Aa Ab
 have hlrend_0:=lO H h0 (b:=lp Tryz.f142 0) (k:=k) (n:=0) (s:=Ajk) (step:=Zg) (fun _ _ _ (_,_)=>by kernel_rfl) Aj
 exact⟨h0,(Bf Aj hlrend_0)⟩) fun(_,_)=>by kernel_rfl
def Bb9(s:Str) (i:Int):Option Int:=if sm1 s i then some (Lp.runTo Lp.isWd s i) else none
def Av4:FT [.str,.int .i64] [.int .i64]:=fun x=>Bb9 x.1 x.2
theorem Akg{R:Type}{kx:Ex→V8→Option R}{s:Str}{c:Int→Option R}(hs:s.length≤1000000) (h2:∀i,kx (.exit 0) (s,i)=c i):∀(k i:Nat),i≤s.length→s.length-i<k→Al (fun rec=>Zg rec kx) k (s,(i:Int))=c (Lp.runTo Lp.isWd s i)
 |0,i,_,h=>absurd h (Zm1 _)
 |k+1,i,hi,h=>by
  rw [A3]
  by_cases hl:i<s.length
  ·have ih:=Akg hs h2 k (i+1) (by omega) (by omega)
   have ew:wr .i64 ((i:Int)+1)=((i+1:Nat):Int):=by rw [Cc (by simp only [inI];omega)];omega
   have e1:decide ((i:Int)<(s.length:Int))=true:=Ze1 (by omega)
   simp only [Zg,e1,Af,A4 hl,chk,ew,ih,h2]
   have hy:Lp.isWd (Sx.byt s i)=(decide (1≤Bn (bat s i))&&decide (Bn (bat s i)≤4)):=rfl
   have e2:((i+1:Nat):Int)=(i:Int)+1:=by omega
   cases h1:decide (1≤Bn (bat s i)) with
   |false =>
    rw [h1,Bool.false_and] at hy
    rw [Lp.runTo_no ⟨by omega,by omega⟩ hy]
    rfl
   |true =>
    rw [h1,Bool.true_and] at hy
    cases h4:decide (Bn (bat s i)≤4) with
    |false =>
     rw [h4] at hy
     rw [Lp.runTo_no ⟨by omega,by omega⟩ hy]
     rfl
    |true =>
     rw [h4] at hy
     rw [e2,Lp.runTo_yes ⟨by omega,by omega⟩ hy]
     rfl
  ·simp only [Zg,h2]
   rw [Zd1 (by omega),Lp.runTo_end (by omega)]
   rfl
theorem Bbp:FO 142 [.str,.int .i64] [.int .i64] Av4 :=.fin 0 A6j fun(s,i) r hb hx=>⟨s.length+1,by
 simp only [Av4,Bb9] at hx
 split at hx
 ·rename_i h
  obtain⟨h1,h2,h3⟩:=h
  rw [←hx]
  obtain⟨n,rfl⟩:=Int.eq_ofNat_of_zero_le h1
  exact Akg (c:=some) h3 (fun _=>rfl) (s.length+1) n (by omega) (by omega)
 ·cases hx⟩
def Ad2:Sig:=⟨47,[(0,.str),(2,.int .i64),(3,.int .i64),(4,.int .i64)],[],[],0,0,0,[],[]⟩
abbrev Ry:=Str×Int×Int×Int
def Q6{R:Type}(rec:Ry→Option R) (kx:Ex→Ry→Option R) (v:Ry):Option R:=match v with
 |(v,v1,v2,v3) =>
 cond (decide (v3<(v.length:Int))) (
  chk (inb v3 v.length) (
  chk (inb v3 v.length) (
   let j:=fun(p:Bool) =>
   cond (p) (
    kx .ret (v,(-1),v2,v3)) (
    cond (decide (v2=922337203685477580)) (
    cond (decide (7<(wr .i64 ((wr .i64 (bat v v3))-48)))) (
     kx .ret (v,(-1),v2,v3)) (
     rec (v,v1,(wr .i64 ((wr .i64 (10*v2))+(wr .i64 ((wr .i64 (bat v v3))-48)))),(wr .i64 (v3+1))))) (
    rec (v,v1,(wr .i64 ((wr .i64 (10*v2))+(wr .i64 ((wr .i64 (bat v v3))-48)))),(wr .i64 (v3+1)))))
   cond (!decide ((Bn (bat v v3))=3)) (
   j true) (
   j (decide (922337203685477580<v2)))))) (
  kx (.exit 0) (v,v1,v2,v3))
def Api(R:Type) (k:Nat):Px R:=pxO [(92,cA Im)] [] [(3,Ao k Ad2 (Q6))] []
def Ae8(k:Nat) (x:HV [.str]):Option (HV [.int .i64]):=match x with
 |s =>
 Al (fun rec=>Q6 rec (fun e vz=>match vz with|(v4,v5,v6,_)=>match e with
  |.ret =>
  some v5
  |.exit 0 =>
  cond (decide (1<(v4.length:Int))) (
   chk (inb 0 v4.length) (
   cond (decide ((bat v4 0)=48)) (
    some (-1)) (
    some v6))) (
   some v6)
  |_=>none)) k (s,0,0,0)
theorem Az5(k:Nat):FO 145 [.str] [.int .i64] (Ae8 k):=fR (px:=Api _ k) (n:=1) Tryz.func145 rfl (fun cx H=>by
 have h0:Lv cx (Api (HV [.int .i64]) k):=lv H (c1 H Kf Ae) Aa Ab
 have hlrnumb_0:=lO H h0 (b:=lp Tryz.f145 0) (k:=k) (n:=0) (s:=Ad2) (step:=Q6) (fun _ _ _ (_,_,_,_)=>by kernel_rfl) Aj
 exact⟨h0,(Bf Aj hlrnumb_0)⟩) fun _=>by kernel_rfl
def Ayo(s:Str):Option Int:=if s.length≤1000000 then some (Lp.rnumF s) else none
def Amr:FT [.str] [.int .i64]:=fun x=>Ayo x
theorem T3{R:Type}{kx:Ex→Ry→Option R}{s:Str}{c:Option Int→Option R}(hs:s.length≤1000000) (h1:∀n j,kx .ret (s, -1,n,j)=c none) (h2:∀q n j,kx (.exit 0) (s,q,n,j)=c (some n)):∀(k i:Nat) (q n:Int),0≤n∧n≤9223372036854775807→i≤s.length→s.length-i<k→Al (fun rec=>Q6 rec kx) k (s,q,n,(i:Int))=c (Lp.rnumGo (s.drop i) n)
 |0,i,_,_,_,_,h=>absurd h (Zm1 _)
 |k+1,i,q,n,hn,hi,h=>by
  rw [A3]
  by_cases hl:i<s.length
  ·have ew:wr .i64 ((i:Int)+1)=((i+1:Nat):Int):=by rw [Cc (by simp only [inI];omega)];omega
   have e1:decide ((i:Int)<(s.length:Int))=true:=Ze1 (by omega)
   have hu:=Lp.u8_range s[i]
   have eb:wr .i64 (s[i].toNat:Int)=(s[i].toNat:Int):=Cc (by simp only [inI];omega)
   have ed:wr .i64 ((s[i].toNat:Int)-48)=(s[i].toNat:Int)-48:=Cc (by simp only [inI];omega)
   rw [Am hl]
   simp only [Q6,e1,Af,A4 hl,chk,ew,Bz hl,eb,ed,Bn,Lp.rnumGo,h1]
   by_cases c3:Lp.clsF (s[i].toNat:Int)=3
   ·have hd:=Lp.cls3 c3
    rw [Ze1 c3,Zt1,Ah]
    by_cases c4 : 922337203685477580<n
    ·rw [Ze1 c4,if_pos (.inr (.inl c4))]
     rfl
    ·rw [Zd1 c4,Ah]
     have em:wr .i64 (10*n)=10*n:=Cc (by simp only [inI];omega)
     by_cases c5:n=922337203685477580
     ·rw [Ze1 c5,Af]
      by_cases c6 : 7<(s[i].toNat:Int)-48
      ·rw [Ze1 c6,if_pos (.inr (.inr ⟨c5,c6⟩))]
       rfl
      ·have ea:wr .i64 (10*n+((s[i].toNat:Int)-48))=10*n+((s[i].toNat:Int)-48):=Cc (by simp only [inI];omega)
       rw [Zd1 c6,Ah,if_neg (by omega),em,ea]
       exact T3 hs h1 h2 k (i+1) q _ (by omega) (by omega) (by omega)
     ·have ea:wr .i64 (10*n+((s[i].toNat:Int)-48))=10*n+((s[i].toNat:Int)-48):=Cc (by simp only [inI];omega)
      rw [Zd1 c5,Ah,if_neg (by omega),em,ea]
      exact T3 hs h1 h2 k (i+1) q _ (by omega) (by omega) (by omega)
   ·rw [Zd1 c3,Zs1,Af,if_pos (.inl c3)]
  ·simp only [Q6,h2]
   rw [Zd1 (by omega),Zk1 (by omega)]
   rfl
theorem A36:FO 145 [.str] [.int .i64] Amr :=.fin 0 Az5 fun s r hb hx=>⟨s.length+1,by
 simp only [Amr,Ayo] at hx
 split at hx
 ·rename_i h
  rw [←hx]
  simp only [Ae8]
  refine(T3 (s:=s) (c:=fun o=>match o with|none=>some (-1)|some n=>some (if 1<(s.length:Int)∧Sx.byt s 0=48 then -1 else n)) h (fun _ _=>rfl) (fun _ n _ =>?_) (s.length+1) 0 0 0 (by omega) (Nat.zero_le _) (by omega)).trans ?_
  ·show cond (decide (1<(s.length:Int))) (chk (inb 0 s.length) (cond (decide (bat s 0=48)) (some (-1)) (some n))) (some n)=_
   by_cases h1 : 1<(s.length:Int)
   ·rw [Ze1 h1,Af,On (by omega)]
    show cond (decide (bat s 0=48)) (some (-1)) (some n)=some (if 1<(s.length:Int)∧Sx.byt s 0=48 then -1 else n)
    by_cases h2:bat s 0=48
    ·rw [Ze1 h2,if_pos ⟨h1,h2⟩];rfl
    ·rw [Zd1 h2,if_neg (fun q=>h2 q.2)];rfl
   ·rw [Zd1 h1]
    show some n=some (if 1<(s.length:Int)∧Sx.byt s 0=48 then -1 else n)
    rw [if_neg (fun q=>h1 q.1)]
  ·simp only [Zq1,Lp.rnumF]
   cases Lp.rnumGo s 0<;>rfl
 ·cases hx⟩
def Ab2:Sig:=⟨46,[(0,.str),(1,.int .i64),(4,.str),(5,.int .i64),(6,.str)],[],[],0,0,0,[],[]⟩
abbrev M5:=Str×Int×Str×Int×Str
def Lq{R:Type}(rec:M5→Option R) (kx:Ex→M5→Option R) (v:M5):Option R:=match v with
 |(v,v1,v2,v3,v4) =>
 cond (decide (v1<(v.length:Int))) (
  let j:=fun(_:Unit) =>
  chk (inb v1 v.length) (
   cond (decide ((bat v v1)=39)) (
   chk (Cs (wr .i64 (v1+1)) (wr .i64 ((wr .i64 (v1+1))+1)) v.length) (
    chk (decide (v4.length+(cut v (wr .i64 (v1+1)) (wr .i64 ((wr .i64 (v1+1))+1))).length≤C7)) (
    rec (v,(wr .i64 ((wr .i64 (v1+1))+1)),v2,v3,(v4++(cut v (wr .i64 (v1+1)) (wr .i64 ((wr .i64 (v1+1))+1)))))))) (
   chk (Cs v1 (wr .i64 (v1+1)) v.length) (
    chk (decide (v4.length+(cut v v1 (wr .i64 (v1+1))).length≤C7)) (
    rec (v,(wr .i64 (v1+1)),v2,v3,(v4++(cut v v1 (wr .i64 (v1+1)))))))))
  chk (inb v1 v.length) (
  cond (decide ((bat v v1)=39)) (
   cond (decide ((wr .i64 (v1+1))=(v.length:Int))) (
   kx .ret (v,v1,v4,v1,v4)) (
   chk (inb (wr .i64 (v1+1)) v.length) (
    cond (!decide ((bat v (wr .i64 (v1+1)))=39)) (
    kx .ret (v,v1,v4,v1,v4)) (
    j ())))) (
   j ()))) (
  kx (.exit 0) (v,v1,v2,v3,v4))
def Ak4(R:Type) (k:Nat):Px R:=pxO [] [] [(2,Ao k Ab2 (Lq))] []
def Abq(k:Nat) (x:HV [.str,.int .i64]):Option (HV [.str,.int .i64]):=match x with
 |(s,i) =>
 Al (fun rec=>Lq rec (fun e vz=>match vz with|(_,_,v7,v8,_)=>match e with
  |.ret =>
  some (v7,v8)
  |.exit 0 =>
  some ([],(-1))
  |_=>none)) k (s,i,[],0,[])
theorem Atx(k:Nat):FO 146 [.str,.int .i64] [.str,.int .i64] (Abq k):=fR (px:=Ak4 _ k) (n:=1) Tryz.func146 rfl (fun cx H=>by
 have h0:Lv cx (Ak4 (HV [.str,.int .i64]) k):=lv H Ae Aa Ab
 have hlrclose_0:=lO H h0 (b:=lp Tryz.f146 0) (k:=k) (n:=0) (s:=Ab2) (step:=Lq) (fun _ _ _ (_,_,_,_,_)=>by kernel_rfl) Aj
 exact⟨h0,(Bf Aj hlrclose_0)⟩) fun(_,_)=>by kernel_rfl
def Aup(q:Str×Int):Str×Int:=if q.2 = -1 then([], -1) else(q.1,q.2-1)
def Zj(s:Str) (i:Int):Option (Str×Int):=if sm1 s i then some (Aup (Lp.qGo (s.drop i.toNat) [] i)) else none
def Agc:FT [.str,.int .i64] [.str,.int .i64]:=fun x=>Zj x.1 x.2
theorem N2{R:Type}{kx:Ex→M5→Option R}{s:Str}{c:Str×Int→Option R}(hs:s.length≤1000000) (h1:∀(a:Str) (j:Int),0≤j→kx .ret (s,j,a,j,a)=c (a,j+1)) (h2:∀q r a j,kx (.exit 0) (s,j,q,r,a)=c ([], -1)):∀(k i:Nat) (q:Str) (r:Int) (a:Str),a.length≤i→i≤s.length→s.length-i<k→Al (fun rec=>Lq rec kx) k (s,(i:Int),q,r,a)=c (Lp.qGo (s.drop (i:Int).toNat) a i)
 |0,i,_,_,_,_,_,h=>absurd h (Zm1 _)
 |k+1,i,q,r,a,ha,hi,h=>by
  rw [A3]
  by_cases hl:i<s.length
  ·have ew:wr .i64 ((i:Int)+1)=((i+1:Nat):Int):=by rw [Cc (by simp only [inI];omega)];omega
   have ew2:wr .i64 (((i+1:Nat):Int)+1)=((i+2:Nat):Int):=by rw [Cc (by simp only [inI];omega)];omega
   have e1:decide ((i:Int)<(s.length:Int))=true:=Ze1 (by omega)
   have c1:cut s (i:Int) ((i+1:Nat):Int)=[s.getD (i:Int).toNat 0]:=by
    have:=Lp.cut_one s (i:Int) ⟨by omega,by omega⟩
    rw [show((i+1:Nat):Int)=(i:Int)+1 by omega]
    exact this
   have u1:Cs (i:Int) ((i+1:Nat):Int) s.length=true:=Fe (by omega)
   have m1:decide (a.length+[s.getD (i:Int).toNat 0].length≤C7)=true:=Ze1 (by simp only [C7,Zf1,Zi1];omega)
   have e2:((i+1:Nat):Int)=(i:Int)+1:=by omega
   have e3:((i+2:Nat):Int)=(i:Int)+1+1:=by omega
   simp only [Lq,e1,Af,A4 hl,chk,ew,ew2,c1,u1,m1,h1 _ _ (show(0:Int)≤(i:Int) by omega)]
   by_cases hq:bat s i=39
   ·rw [Ze1 hq,Af,Af]
    by_cases he:((i+1:Nat):Int)=(s.length:Int)
    ·rw [Ze1 he,Af,Lp.q_last (by omega) (by omega) hq]
    ·have hl2:i+1<s.length:=by omega
     have c2:cut s ((i+1:Nat):Int) ((i+2:Nat):Int)=[s.getD ((i+1:Nat):Int).toNat 0]:=by
      have:=Lp.cut_one s ((i+1:Nat):Int) ⟨by omega,by omega⟩
      rw [show((i+2:Nat):Int)=((i+1:Nat):Int)+1 by omega]
      exact this
     have u2:Cs ((i+1:Nat):Int) ((i+2:Nat):Int) s.length=true:=Fe (by omega)
     have m2:decide (a.length+[s.getD ((i+1:Nat):Int).toNat 0].length≤C7)=true:=Ze1 (by simp only [C7,Zf1,Zi1];omega)
     rw [Zd1 he,Ah,A4 hl2,Af,c2,u2,m2]
     by_cases hq2:bat s ((i+1:Nat):Int)=39
     ·rw [Ze1 hq2,Zt1,Ah,Af,Af]
      have hx:s.getD ((i+1:Nat):Int).toNat 0=39:=(Lp.byt_lit (c:=39)).1 hq2
      rw [hx,Lp.q_two (by omega) (by omega) hq (by rw [←e2];exact hq2),←e3]
      exact N2 hs h1 h2 k (i+2) q r (a++[39]) (by simp only [Zh1,Zf1,Zi1];omega) (by omega) (by omega)
     ·rw [Zd1 hq2,Zs1,Af,Lp.q_close (by omega) (by omega) hq (by rw [←e2];exact hq2)]
   ·rw [Zd1 hq,Ah,Ah,Lp.q_other (by omega) (by omega) hq,←e2]
    exact N2 hs h1 h2 k (i+1) q r (a++[s.getD (i:Int).toNat 0]) (by simp only [Zh1,Zf1,Zi1];omega) (by omega) (by omega)
  ·simp only [Lq,h2]
   rw [Zd1 (by omega),Lp.q_end (by omega)]
   rfl
theorem Az3:FO 146 [.str,.int .i64] [.str,.int .i64] Agc :=.fin 0 Atx fun(s,i) r hb hx=>⟨s.length+1,by
 simp only [Agc,Zj] at hx
 split at hx
 ·rename_i h
  obtain⟨h1,h2,h3⟩:=h
  rw [←hx]
  obtain⟨n,rfl⟩:=Int.eq_ofNat_of_zero_le h1
  simp only [Abq]
  refine(N2 (c:=fun q=>some (Aup q)) h3 (fun a j hj =>?_) (fun _ _ _ _=>rfl) (s.length+1) n [] 0 [] (by simp) (by omega) (by omega))
  show some (a,j)=some (Aup (a,j+1))
  simp only [Aup]
  rw [if_neg (by omega),show j+1-1=j by omega]
 ·cases hx⟩
def Aay:Sig:=⟨69,[(0,.str),(2,.sl .byte true),(3,.int .i64),(4,.sl .byte true),(5,.int .i64),(6,.int .i64),(7,.int .i64)],[],[],0,0,0,[],[]⟩
abbrev Iq:=Str×List UInt8×Int×List UInt8×Int×Int×Int
def L2{R:Type}(rec:Iq→Option R) (kx:Ex→Iq→Option R) (v:Iq):Option R:=match v with
 |(v5,v6,v7,v8,v9,v10,v11) =>
 cond (decide (v11<(wr .i64 (v9+2)))) (
  let j2:=fun(p2:Int) =>
  let j1:=fun(p4:Bool) =>
   cond (p4) (
   chk (inb v11 v5.length) (
    cond (decide ((wr .i64 ((wr .i64 (bat v5 v11))-87))<0)) (
    kx .ret (v5,[],11,v8,v9,v10,v11)) (
    rec (v5,v6,v7,v8,v9,(wr .i64 ((wr .i64 (16*v10))+(wr .i64 ((wr .i64 (bat v5 v11))-87)))),(wr .i64 (v11+1)))))) (
   cond (decide (p2<0)) (
    kx .ret (v5,[],11,v8,v9,v10,v11)) (
    rec (v5,v6,v7,v8,v9,(wr .i64 ((wr .i64 (16*v10))+p2)),(wr .i64 (v11+1)))))
  chk (inb v11 v5.length) (
   cond (decide (97≤(bat v5 v11))) (
   chk (inb v11 v5.length) (
    j1 (decide ((bat v5 v11)≤102)))) (
   j1 false))
  let j:=fun(p1:Bool) =>
  cond (p1) (
   chk (inb v11 v5.length) (
   j2 (wr .i64 ((wr .i64 (bat v5 v11))-48)))) (
   j2 (-1))
  chk (inb v11 v5.length) (
  cond (decide (48≤(bat v5 v11))) (
   chk (inb v11 v5.length) (
   j (decide ((bat v5 v11)≤57)))) (
   j false))) (
  kx (.exit 2) (v5,v6,v7,v8,v9,v10,v11))
def Aa7:Sig:=⟨69,[(0,.str),(2,.sl .byte true),(3,.int .i64),(4,.sl .byte true),(5,.int .i64)],[],[],0,0,0,[],[]⟩
abbrev Mb:=Str×List UInt8×Int×List UInt8×Int
def Ko{R:Type}(k:Nat) (rec:Mb→Option R) (kx:Ex→Mb→Option R) (v:Mb):Option R:=match v with
 |(v,v1,v2,v3,v4) =>
 cond (decide ((wr .i64 (v4+1))<(v.length:Int))) (
  Al (fun rc=>L2 rc (fun e vz=>match vz with|(v12,v13,v14,v15,v16,v17,_)=>match e with
  |.ret =>
   kx .ret (v12,v13,v14,v15,v16)
  |.exit 2 =>
   chk (decide (v15.length+1≤Av)) (
   rec (v12,v13,v14,(v15++[(UInt8.ofNat ((wr .u8 v17):Int).toNat)]),(wr .i64 (v16+2))))
  |_=>none)) k (v,v1,v2,v3,v4,0,v4)) (
  kx (.exit 0) (v,v1,v2,v3,v4))
def Akv(R:Type) (k:Nat):Px R:=pxO [] [] [(7,Ao k Aay (L2)),(3,Ao k Aa7 (Ko k))] []
def Aar(k:Nat) (x:HV [.str]):Option (HV [.sl .byte true,.int .i64]):=match x with
 |s =>
 Al (fun rec=>Ko k rec (fun e vz=>match vz with|(v19,v20,v21,v22,_)=>match e with
  |.ret =>
  some (v20,v21)
  |.exit 0 =>
  cond (decide ((Int.tmod (v19.length:Int) 2)=1)) (
   some ([],11)) (
   some (v22,0))
  |_=>none)) k (s,[],0,[],0)
theorem As3(k:Nat):FO 143 [.str] [.sl .byte true,.int .i64] (Aar k):=fR (px:=Akv _ k) (n:=2) Tryz.func143 rfl (fun cx H=>by
 have h0:Lv cx (Akv (HV [.sl .byte true,.int .i64]) k):=lv H Ae Aa Ab
 have hlrunhex_1:=lO H h0 (b:=lpC (lp Tryz.f143 0) 0) (k:=k) (n:=0) (s:=Aay) (step:=L2) (fun _ _ _ (_,_,_,_,_,_,_)=>by kernel_rfl) Aj
 have hlrunhex_0:=lO H h0 (b:=lp Tryz.f143 0) (k:=k) (n:=1) (s:=Aa7) (step:=Ko k) (fun _ _ _ (_,_,_,_,_)=>by kernel_rfl) (Bf Aj hlrunhex_1)
 exact⟨h0,(Bf (Bf Aj hlrunhex_0) hlrunhex_1)⟩) fun _=>by kernel_rfl
def Awa(s:Str):Str×Int:=match(if s.length % 2=0 then Lp.unGo s [] else none) with
 |none=>([],11)
 |some b=>(b,0)
def Z8(s:Str):Option (Str×Int):=if s.length≤1000000 then some (Awa s) else none
def Ahj:FT [.str] [.sl .byte true,.int .i64]:=fun x=>Z8 x
theorem S8{R:Type}{kx:Ex→Iq→Option R}{rec:Iq→Option R}{s b:Str}{n x:Int}{b2:Str}{i0:Int}{i:Nat}(hs:s.length≤1000000) (hl:i<s.length) (hx : 0≤x∧x≤255) (h:(i:Int)<wr .i64 (i0+2)):L2 rec kx (s,b,n,b2,i0,x,(i:Int))=match Lp.hexD (bat s i) with
  |some d=>rec (s,b,n,b2,i0,16*x+d,((i+1:Nat):Int))
  |none=>kx .ret (s,[],11,b2,i0,x,(i:Int)):=by
 have hu:=Lp.u8_range s[i]
 have eb:wr .i64 (s[i].toNat:Int)=(s[i].toNat:Int):=Cc (by simp only [inI];omega)
 have e48:wr .i64 ((s[i].toNat:Int)-48)=(s[i].toNat:Int)-48:=Cc (by simp only [inI];omega)
 have e87:wr .i64 ((s[i].toNat:Int)-87)=(s[i].toNat:Int)-87:=Cc (by simp only [inI];omega)
 have ex:wr .i64 (16*x)=16*x:=Cc (by simp only [inI];omega)
 have ea:wr .i64 (16*x+((s[i].toNat:Int)-48))=16*x+((s[i].toNat:Int)-48):=Cc (by simp only [inI];omega)
 have ec:wr .i64 (16*x+((s[i].toNat:Int)-87))=16*x+((s[i].toNat:Int)-87):=Cc (by simp only [inI];omega)
 have ew:wr .i64 ((i:Int)+1)=((i+1:Nat):Int):=by rw [Cc (by simp only [inI];omega)];omega
 simp only [L2,A4 hl,chk,Af,Bz hl,eb,e48,e87,ex,ea,ec,ew,Ze1 h,Lp.hexD]
 generalize (s[i].toNat:Int)=y at *
 by_cases h1 : 48≤y∧y≤57
 ·rw [Ze1 h1.1,Ze1 h1.2,Zd1 (show ¬ 97≤y by omega),if_pos h1]
  simp only [Af,Ah]
  rw [Zd1 (show ¬y-48<0 by omega)]
  rfl
 ·rw [if_neg h1]
  have hf:cond (decide (48≤y)) (decide (y≤57)) false=false:=by
   by_cases q : 48≤y
   ·rw [Ze1 q,Zd1 (by omega)];rfl
   ·rw [Zd1 q];rfl
  by_cases h2 : 97≤y∧y≤102
  ·rw [if_pos h2,Ze1 h2.1,Ze1 h2.2,Ze1 (show 48≤y by omega),Zd1 (show ¬y≤57 by omega)]
   simp only [Af,Ah]
   rw [Zd1 (show ¬y-87<0 by omega)]
   rfl
  ·rw [if_neg h2]
   have n1:decide ((-1:Int)<0)=true:=rfl
   by_cases q : 48≤y
   ·rw [Ze1 q,Zd1 (show ¬y≤57 by omega)]
    simp only [Af,Ah,n1]
    by_cases q2 : 97≤y
    ·rw [Ze1 q2,Zd1 (show ¬y≤102 by omega)];rfl
    ·rw [Zd1 q2];rfl
   ·rw [Zd1 q,Zd1 (show ¬ 97≤y by omega)]
    rfl
theorem Ab4{R:Type}{kx:Ex→Mb→Option R}{s b:Str}{n:Int}{c:Option Str→Option R}(kk:Nat) (hkk : 3≤kk) (hs:s.length≤1000000) (h1:∀a i,kx .ret (s,[],11,a,i)=c none) (h2:∀a (i:Nat),s.length≤i+1→kx (.exit 0) (s,b,n,a,(i:Int))=c (if s.length % 2=1 then none else some a)):∀(k i:Nat) (a:Str),i % 2=0→i≤s.length→a.length≤i→s.length-i<k→Al (fun rec=>Ko kk rec kx) k (s,b,n,a,(i:Int))=c (if s.length % 2=1 then none else Lp.unGo (s.drop i) a)
 |0,i,_,_,_,_,h=>absurd h (Zm1 _)
 |k+1,i,a,he,hi,ha,h=>by
  have ew:wr .i64 ((i:Int)+1)=((i+1:Nat):Int):=by rw [Cc (by simp only [inI];omega)];omega
  have ew2:wr .i64 ((i:Int)+2)=((i+2:Nat):Int):=by rw [Cc (by simp only [inI];omega)];omega
  rw [A3]
  by_cases hl:i+1<s.length
  ·simp only [Ko,ew]
   rw [Ze1 (show((i+1:Nat):Int)<(s.length:Int) by omega),Af]
   obtain⟨kk,rfl⟩:∃q,kk=q+3:=⟨kk-3,by omega⟩
   have hu:=Lp.un_step (l:=s) (acc:=a) (j:=(i:Int)) (by omega) (by omega)
   have e2:((i:Int)+2).toNat=i+2:=by omega
   have e0:(i:Int).toNat=i:=by omega
   have e1:(i:Int)+1=((i+1:Nat):Int):=by omega
   rw [e0,e2,e1] at hu
   rw [A3,S8 hs (show i<s.length by omega) (by omega) (by rw [ew2];omega)]
   have hx:Lp.hexD (bat s i)=Lp.hexD (Sx.byt s i):=rfl
   have hy:Lp.hexD (bat s ((i+1:Nat):Int))=Lp.hexD (Sx.byt s ((i+1:Nat):Int)):=rfl
   cases q1:Lp.hexD (Sx.byt s i) with
   |none =>
    rw [hx,q1]
    rw [q1] at hu
    simp only [h1]
    congr 1
    split
    ·rfl
    ·exact hu.symm
   |some x =>
    have b1:=Lp.hexD_lt q1
    rw [hx,q1]
    simp only
    rw [A3,S8 hs hl (by omega) (by rw [ew2];omega)]
    cases q2:Lp.hexD (Sx.byt s ((i+1:Nat):Int)) with
    |none =>
     rw [hy,q2]
     rw [q1,q2] at hu
     simp only [h1]
     congr 1
     split
     ·rfl
     ·exact hu.symm
    |some y =>
     have b2:=Lp.hexD_lt q2
     rw [hy,q2]
     rw [q1,q2] at hu
     simp only at hu ⊢
     rw [A3]
     have e3:((i+1+1:Nat):Int)=((i+2:Nat):Int):=rfl
     have ed : 16*(16*0+x)+y=x*16+y:=by omega
     have eu:wr .u8 (x*16+y)=x*16+y:=by
      have:IntKind.u8.wrap (x*16+y)=x*16+y:=IntWalk.u8_in _ (by omega)
      exact this
     simp only [L2,ew2]
     rw [Zd1 (show ¬((i+1+1:Nat):Int)<((i+2:Nat):Int) by omega),Ah]
     simp only [ed,eu]
     rw [Ze1 (show a.length+1≤Av by simp only [Av];omega)]
     simp only [chk,Af]
     rw [Ab4 kk.succ.succ.succ (by omega) hs h1 h2 k (i+2) _ (by omega) (by omega) (by simp only [Zh1,Zf1,Zi1];omega) (by omega),hu]
  ·simp only [Ko,ew]
   rw [Zd1 (show ¬((i+1:Nat):Int)<(s.length:Int) by omega),Ah,h2 a i (by omega)]
   congr 1
   by_cases hm:s.length % 2=1
   ·rw [if_pos hm,if_pos hm]
   ·rw [if_neg hm,if_neg hm,Zk1 (by omega)]
    rfl
theorem A3a:FO 143 [.str] [.sl .byte true,.int .i64] Ahj :=.fin 0 As3 fun s r hb hx=>⟨s.length+3,by
 simp only [Ahj,Z8] at hx
 split at hx
 ·rename_i h
  rw [←hx]
  simp only [Aar]
  refine Eq.trans (Ab4 (s:=s) (R:=Str×Int) (c:=fun o=>match o with|none=>some (([]:Str),(11:Int))|some b=>some (b,0)) (s.length+3) (by omega) h (fun _ _=>rfl) (fun a i _ =>?_) (s.length+3) 0 [] rfl (Nat.zero_le _) (by simp) (by omega)) ?_
  ·show cond (decide (Int.tmod (s.length:Int) 2=1)) (some ([],11)) (some (a,0))=_
   have ht:Int.tmod (s.length:Int) 2=((s.length % 2:Nat):Int):=rfl
   rw [ht]
   by_cases hm:s.length % 2=1
   ·rw [Ze1 (by omega),if_pos hm];rfl
   ·rw [Zd1 (by omega),if_neg hm];rfl
  ·simp only [Zq1,Awa]
   by_cases hm:s.length % 2=1
   ·rw [if_pos hm,if_neg (by omega)]
   ·rw [if_neg hm,if_pos (by omega)]
    cases Lp.unGo s []<;>rfl
 ·cases hx⟩
end Go.Proofs.YthndhaolemgbdaaGreatDoor
namespace Go.Proofs.YthndhaolemgbdaaGreatDoor
open Go.Ax
def Aip:Sig:=⟨178,[(0,.str),(1,.int .i64),(7,.int .i64),(9,.int .i64)],[(4,.ptr 0 0)],[(0,.one (.sv .tok))],1,0,0,[],[]⟩
abbrev U9:=Str×Int×Int×Int×Tok
def Aaa{R:Type}(rec:U9→Option R) (kx:Ex→U9→Option R) (v:U9):Option R:=match v with
 |(v,v1,v2,v3,w) =>
 cond (decide (v3<(v.length:Int))) (
  chk (inb v3 v.length) (
  cond (!decide ((bat v v3)=39)) (
   rec (v,v1,v2,(wr .i64 (v3+1)),w)) (
   kx (.exit 0) (v,v1,v2,v3,w)))) (
  kx (.exit 0) (v,v1,v2,v3,w))
def Axb(R:Type) (k:Nat):Px R:=pxO [(92,cA Im),(142,cA Av4),(143,cA Ahj),(144,cA Am0),(72,cA Ada),(145,cA Amr),(146,cA Agc),(101,cA Xg)] [] [(6,Ao k Aip (Aaa))] []
def Y5(k:Nat) (x:HV [.str,.int .i64]):Option (HV [.sv .tok,.int .i64]):=match x with
 |(s,i) =>
 chk (inb i s.length) (
  (Bb9 s i).bind fun x =>
  chk (Cs i x s.length) (
   let j1:Bool→Option (HV [.sv .tok,.int .i64]):=fun(p2:Bool) =>
   cond (p2) (
    Al (fun rec=>Aaa rec (fun e vz=>match vz with|(v4,v5,v6,v7,_)=>match e with
    |.exit 0 =>
     cond (decide (v7=(v4.length:Int))) (
     some ((Tok.mk 0 0 [] 0),(-1))) (
     chk (Cs (wr .i64 (v6+1)) v7 v4.length) (
      (Z8 (cut v4 (wr .i64 (v6+1)) v7)).bind fun(x1,x2) =>
      cond (!decide (x2=0)) (
       some ((Tok.mk 0 0 [] 0),(-1))) (
       cond (decide (1000<(x1.length:Int))) (
       some ((Tok.mk 0 0 [] 0),(-1))) (
       some ((Tok.mk 5 v5 x1 0),(wr .i64 (v7+1)))))))
    |_=>none)) k (s,i,x,(wr .i64 (x+1)),(Tok.mk 0 0 [] 0))) (
    cond (decide ((Bn (bat s i))=1)) (
    cond ((Ay4 (cut s i x))) (
     some ((Tok.mk 1 i (cut s i x) 0),x)) (
     some ((Tok.mk 0 0 [] 0),(-1)))) (
    cond (decide ((Bn (bat s i))=2)) (
     cond ((Agp (cut s i x))) (
     some ((Tok.mk 2 i (cut s i x) 0),x)) (
     some ((Tok.mk 0 0 [] 0),(-1)))) (
     cond (decide ((Bn (bat s i))=3)) (
     (Ayo (cut s i x)).bind fun x3 =>
      cond (decide (0≤x3)) (
      some ((Tok.mk 3 i (cut s i x) x3),x)) (
      some ((Tok.mk 0 0 [] 0),(-1)))) (
     cond (decide ((Bn (bat s i))=5)) (
      (Zj s (wr .i64 (i+1))).bind fun(x4,x5) =>
      cond (decide (0≤x5)) (
       cond (decide ((Aem (Val.mk 4 0 x4))=0)) (
       some ((Tok.mk 4 i x4 0),(wr .i64 (x5+1)))) (
       some ((Tok.mk 0 0 [] 0),(-1)))) (
       some ((Tok.mk 0 0 [] 0),(-1)))) (
      cond (decide ((Bn (bat s i))=7)) (
      cond (decide ((wr .i64 (i+1))<(s.length:Int))) (
       chk (Cs i (wr .i64 (i+2)) s.length) (
       let j2:Bool→Option (HV [.sv .tok,.int .i64]):=fun(p9:Bool) =>
        cond (p9) (
        chk (Cs i (wr .i64 (i+2)) s.length) (
         some ((Tok.mk 6 i (cut s i (wr .i64 (i+2))) 0),(wr .i64 (i+2))))) (
        chk (Cs i (wr .i64 (i+2)) s.length) (
         cond (decide ((cut s i (wr .i64 (i+2)))=[62,61])) (
         chk (Cs i (wr .i64 (i+2)) s.length) (
          some ((Tok.mk 6 i (cut s i (wr .i64 (i+2))) 0),(wr .i64 (i+2))))) (
         chk (Cs i (wr .i64 (i+1)) s.length) (
          some ((Tok.mk 6 i (cut s i (wr .i64 (i+1))) 0),(wr .i64 (i+1)))))))
       cond (decide ((cut s i (wr .i64 (i+2)))=[60,62])) (
        j2 true) (
        chk (Cs i (wr .i64 (i+2)) s.length) (
        j2 (decide ((cut s i (wr .i64 (i+2)))=[60,61])))))) (
       chk (Cs i (wr .i64 (i+1)) s.length) (
       some ((Tok.mk 6 i (cut s i (wr .i64 (i+1))) 0),(wr .i64 (i+1)))))) (
      some ((Tok.mk 0 0 [] 0),(-1))))))))
   let j:Bool→Option (HV [.sv .tok,.int .i64]):=fun(p:Bool) =>
   cond (p) (
    chk (inb x s.length) (
    j1 (decide ((bat s x)=39)))) (
    j1 false)
   cond (decide ((cut s i x)=[120])) (
   j (decide (x<(s.length:Int)))) (
   j false)))
theorem A54(k:Nat):FO 93 [.str,.int .i64] [.sv .tok,.int .i64] (Y5 k):=fR (px:=Axb _ k) (n:=1) Tryz.func93 rfl (fun cx H=>by
 have h0:Lv cx (Axb (HV [.sv .tok,.int .i64]) k):=lv H (c1 H Kf (c1 H Bbp (c1 H A3a (c1 H A8w (c1 H Ao3 (c1 H A36 (c1 H Az3 (c1 H Alo Ae)))))))) Aa Ab
 have hlrone_0:=lO H h0 (b:=lp Tryz.f93 0) (k:=k) (n:=0) (s:=Aip) (step:=Aaa) (fun _ _ _ (_,_,_,_,_)=>by kernel_rfl) Aj
 exact⟨h0,(Bf Aj hlrone_0)⟩) fun(_,_)=>by kernel_rfl
def tkR(i:Int):Option (Int×Str×Int×Int)→Tok×Int
 |none=>(⟨0,0,[],0⟩, -1)
 |some (k,x,n,e)=>(⟨k,i,x,n⟩,e)
def A2q(s:Str) (i:Int):Option (Tok×Int):=if 0≤i∧i<(s.length:Int)∧s.length≤1000000 then some (tkR i (Lp.tokR s i)) else none
def Atv:FT [.str,.int .i64] [.sv .tok,.int .i64]:=fun x=>A2q x.1 x.2
theorem Akk{R:Type}{kx:Ex→U9→Option R}{s:Str}{i t:Int}{w:Tok}{c:Int→Option R}(hs:s.length≤1000000) (h2:∀q,kx (.exit 0) (s,i,t,q,w)=c q):∀(k n:Nat),n≤s.length→s.length-n<k→Al (fun rec=>Aaa rec kx) k (s,i,t,(n:Int),w)=c (Lp.runTo (fun c => !decide (c=39)) s n)
 |0,_,_,h=>absurd h (Zm1 _)
 |k+1,n,hn,h=>by
  rw [A3]
  by_cases hl:n<s.length
  ·have ih:=Akk hs h2 k (n+1) (by omega) (by omega)
   have ew:wr .i64 ((n:Int)+1)=((n+1:Nat):Int):=by rw [Cc (by simp only [inI];omega)];omega
   have e1:decide ((n:Int)<(s.length:Int))=true:=Ze1 (by omega)
   have e2:((n+1:Nat):Int)=(n:Int)+1:=by omega
   simp only [Aaa,e1,Af,A4 hl,chk,ew,ih,h2]
   by_cases hq:bat s n=39
   ·have hr:=Lp.runTo_no (p:=fun c => !decide (c=39)) (l:=s) (j:=(n:Int)) ⟨by omega,by omega⟩ (by show(!decide (bat s n=39))=false;rw [Ze1 hq];rfl)
    rw [Ze1 hq,hr]
    rfl
   ·have hr:=Lp.runTo_yes (p:=fun c => !decide (c=39)) (l:=s) (j:=(n:Int)) ⟨by omega,by omega⟩ (by show(!decide (bat s n=39))=true;rw [Zd1 hq];rfl)
    rw [Zd1 hq,e2,hr]
    rfl
  ·simp only [Aaa,h2]
   rw [Zd1 (by omega),Lp.runTo_end (by omega)]
   rfl
theorem Axd{s:Str}(a b:Int):(cut s a b).length≤s.length:=by
 have h:(cut s a b).length=((s.drop a.toNat).take (b.toNat-a.toNat)).length:=rfl
 rw [h,List.length_take,Za2]
 omega
theorem Bf6(s:Str) (i:Int) (h : 0≤i∧i<(s.length:Int)∧s.length≤1000000):Y5 (s.length+1) (s,i)=some (tkR i (Lp.tokR s i)):=by
 obtain⟨h0,h1,h2⟩:=h
 have ht:=Lp.runTo_range Lp.isWd s i ⟨h0,by omega⟩
 have he:Bb9 s i=some (Lp.runTo Lp.isWd s i):=if_pos ⟨h0,by omega,h2⟩
 have ew1:wr .i64 (i+1)=i+1:=Cc (by simp only [inI];omega)
 have ew2:wr .i64 (i+2)=i+2:=Cc (by simp only [inI];omega)
 simp -zeta only [Y5,he,Zc1,ew1,ew2]
 unfold Lp.tokR
 by_cases hx:Lp.HexAt s i
 ·rw [if_pos hx]
  simp only [Lp.HexAt] at hx
  generalize Lp.runTo Lp.isWd s i=t at ht hx ⊢
  have ewt:wr .i64 (t+1)=t+1:=Cc (by simp only [inI];omega)
  rw [On ⟨h0,h1⟩,Fe (by omega),ewt]
  simp -zeta only [chk,Af]
  extract_lets j2 j1 j t2 q
  have hj:cond (decide (cut s i t=[120])) (j (decide (t<(s.length:Int)))) (j false)=j1 true:=by
   rw [Ze1 (show cut s i t=[120] from hx.1),Ze1 hx.2.1]
   show cond (inb t s.length) (j1 (decide (bat s t=39))) none=j1 true
   rw [On ⟨by omega,hx.2.1⟩,Ze1 (show bat s t=39 from hx.2.2)]
   rfl
  rw [hj]
  obtain⟨n,hn⟩:=Int.eq_ofNat_of_zero_le (show 0≤t+1 by omega)
  show Al _ _ (s,i,t,t+1,_)=_
  rw [hn]
  refine(Akk (c:=fun q=>cond (decide (q=(s.length:Int))) (some (⟨0,0,[],0⟩, -1)) (cond (Cs (t+1) q s.length) ((Z8 (cut s (t+1) q)).bind fun(x1,x2)=>cond (!decide (x2=0)) (some (⟨0,0,[],0⟩, -1)) (cond (decide (1000<(x1.length:Int))) (some (⟨0,0,[],0⟩, -1)) (some (⟨5,i,x1,0⟩,wr .i64 (q+1))))) none)) h2 (fun q=>by show cond _ _ (cond (Cs (wr .i64 (t+1)) q s.length) ((Z8 (cut s (wr .i64 (t+1)) q)).bind _) none)=_;rw [ewt]) (s.length+1) n (by omega) (by omega)).trans ?_
  rw [←hn]
  have hq:=Lp.runTo_range (fun c => !decide (c=39)) s (t+1) ⟨by omega,by omega⟩
  have eq1:Lp.runTo (fun c => !decide (c=39)) s (t+1)=q:=rfl
  rw [eq1] at hq ⊢
  clear_value q
  by_cases hqe:q=(s.length:Int)
  ·rw [Ze1 hqe,if_pos hqe]
   rfl
  ·have hc:Z8 (cut s (t+1) q)=some (Awa (cut s (t+1) q)):=if_pos (by have:=Axd (s:=s) (t+1) q;omega)
   have ewq:wr .i64 (q+1)=q+1:=Cc (by simp only [inI];omega)
   rw [Zd1 hqe,if_neg hqe,Ah,Fe (by omega),Af,hc,ewq]
   have hcc:(Sx.cut s (t+1) q)=cut s (t+1) q:=rfl
   rw [hcc]
   simp only [Zc1,Awa]
   cases (if(cut s (t+1) q).length % 2=0 then Lp.unGo (cut s (t+1) q) [] else none) with
   |none=>rfl
   |some b =>
    simp only [decide_true,Zt1,Ah]
    by_cases hb : 1000<(b.length:Int)
    ·rw [Ze1 hb,if_pos hb];rfl
    ·rw [Zd1 hb,if_neg hb];rfl
 ·rw [if_neg hx]
  simp only [Lp.HexAt] at hx
  generalize Lp.runTo Lp.isWd s i=t at ht hx ⊢
  have ewt:wr .i64 (t+1)=t+1:=Cc (by simp only [inI];omega)
  rw [On ⟨h0,h1⟩,Fe (by omega),ewt]
  simp -zeta only [chk,Af]
  extract_lets j2 j1 j q
  have hj:cond (decide (cut s i t=[120])) (j (decide (t<(s.length:Int)))) (j false)=j1 false:=by
   by_cases c1:cut s i t=[120]
   ·rw [Ze1 c1]
    by_cases c2:t<(s.length:Int)
    ·rw [Ze1 c2]
     show cond (inb t s.length) (j1 (decide (bat s t=39))) none=j1 false
     rw [On ⟨by omega,c2⟩,Zd1 (show ¬bat s t=39 from fun q=>hx ⟨c1,c2,q⟩)]
     rfl
    ·rw [Zd1 c2]
     rfl
   ·rw [Zd1 c1]
    rfl
  rw [hj]
  clear hj
  have hb:Sx.byt s i=bat s i:=rfl
  have hcw:Sx.cut s i t=cut s i t:=rfl
  rw [hb,hcw]
  simp only [j1,j2,Ah]
  by_cases k1:Lp.clsF (bat s i)=1
  ·rw [Ze1 (show Bn (bat s i)=1 from k1),if_pos k1,Af]
   have hw:Ay4 (cut s i t)=Lp.wordF (cut s i t):=Aho _
   rw [hw]
   cases Lp.wordF (cut s i t)<;>rfl
  rw [Zd1 (show ¬Bn (bat s i)=1 from k1),if_neg k1,Ah]
  by_cases k2:Lp.clsF (bat s i)=2
  ·rw [Ze1 (show Bn (bat s i)=2 from k2),if_pos k2,Af,Agp]
   cases Lp.rnameF (cut s i t)<;>rfl
  rw [Zd1 (show ¬Bn (bat s i)=2 from k2),if_neg k2,Ah]
  by_cases k3:Lp.clsF (bat s i)=3
  ·have hc:Ayo (cut s i t)=some (Lp.rnumF (cut s i t)):=if_pos (by have:=Axd (s:=s) i t;omega)
   rw [Ze1 (show Bn (bat s i)=3 from k3),if_pos k3,Af,hc,Zc1]
   by_cases hn : 0≤Lp.rnumF (cut s i t)
   ·rw [Ze1 hn,if_pos hn];rfl
   ·rw [Zd1 hn,if_neg hn];rfl
  rw [Zd1 (show ¬Bn (bat s i)=3 from k3),if_neg k3,Ah]
  by_cases k5:Lp.clsF (bat s i)=5
  ·have hc:Zj s (i+1)=some (Aup (Lp.qGo (s.drop (i+1).toNat) [] (i+1))):=if_pos ⟨by omega,by omega,h2⟩
   have hqi:=Lp.qGo_in _ (s.drop (i+1).toNat) [] (i+1) (Zn1 _) (by omega)
   have hdl:(s.drop (i+1).toNat).length=s.length-(i+1).toNat:=Za2
   have eq1:Lp.qGo (s.drop (i+1).toNat) [] (i+1)=q:=rfl
   rw [eq1] at hc hqi
   rw [Ze1 (show Bn (bat s i)=5 from k5),if_pos k5,Af]
   clear_value q
   by_cases hq:q.2 = -1
   ·have hc2:Zj s (i+1)=some ([], -1):=by rw [hc,Aup,if_pos hq]
    rw [hc2,if_neg (fun c=>c.1 hq)]
    rfl
   ·have hc2:Zj s (i+1)=some (q.1,q.2-1):=by rw [hc,Aup,if_neg hq]
    have e9:wr .i64 (q.2-1+1)=q.2:=by rw [Cc (by simp only [inI];omega)];omega
    rw [hc2]
    simp only [Zc1,e9]
    rw [Ze1 (show 0≤q.2-1 by omega),Af]
    have hk:Aem (Val.mk 4 0 q.1)=Lp.checkF 4 0 q.1:=by
     show Em (Val.mk 4 0 q.1)=_
     simp only [Em,Lp.checkF,A59]
     cases Lp.rightF 4 0 q.1<;>rfl
    by_cases hc2:Lp.checkF 4 0 q.1=0
    ·rw [Ze1 (hk.trans hc2),if_pos ⟨hq,hc2⟩];rfl
    ·rw [Zd1 (fun e=>hc2 (hk.symm.trans e)),if_neg (fun c=>hc2 c.2)];rfl
  rw [Zd1 (show ¬Bn (bat s i)=5 from k5),if_neg k5,Ah]
  by_cases k7:Lp.clsF (bat s i)=7
  ·rw [Ze1 (show Bn (bat s i)=7 from k7),if_pos k7,Af]
   have hcc:Sx.cut s i (i+2)=cut s i (i+2):=rfl
   have hcd:Sx.cut s i (i+1)=cut s i (i+1):=rfl
   simp only [Lp.twoR,hcc,hcd]
   by_cases hl:i+1<(s.length:Int)
   ·rw [Ze1 hl,Fe (show 0≤i∧i≤i+2∧i+2≤(s.length:Int) by omega),Fe (show 0≤i∧i≤i+1∧i+1≤(s.length:Int) by omega)]
    simp only [Af]
    generalize cut s i (i+2)=y
    by_cases y1:y=[60,62]
    ·rw [Ze1 y1,if_pos ⟨hl,.inl y1⟩];rfl
    ·by_cases y2:y=[60,61]
     ·rw [Zd1 y1,Ze1 y2,if_pos ⟨hl,.inr (.inl y2)⟩];rfl
     ·by_cases y3:y=[62,61]
      ·rw [Zd1 y1,Zd1 y2,Ze1 y3,if_pos ⟨hl,.inr (.inr y3)⟩];rfl
      ·rw [Zd1 y1,Zd1 y2,Zd1 y3,if_neg (fun c=>by rcases c.2 with c|c|c<;>contradiction)];rfl
   ·rw [Zd1 hl,Ah,Fe (by omega),if_neg (fun c=>hl c.1)]
    rfl
  rw [Zd1 (show ¬Bn (bat s i)=7 from k7),if_neg k7,Ah]
  rfl
theorem Bdt:FO 93 [.str,.int .i64] [.sv .tok,.int .i64] Atv :=.fin 0 A54 fun(s,i) r hb hx=>⟨s.length+1,by
 simp only [Atv,A2q] at hx
 split at hx
 ·rename_i h
  exact(Bf6 s i h).trans hx
 ·cases hx⟩
def Ab9:Sig:=⟨38,[(0,.str),(2,.sl .tok true),(3,.int .i64),(4,.int .i64),(5,.sl .tok true),(6,.int .i64)],[],[],0,0,0,[],[]⟩
abbrev Md:=Str×List Tok×Int×Int×List Tok×Int
def N6{R:Type}(rec:Md→Option R) (kx:Ex→Md→Option R) (v:Md):Option R:=match v with
 |(v,v1,v2,v3,v4,v5) =>
 cond (decide (v5<(v.length:Int))) (
  chk (inb v5 v.length) (
  cond (decide ((Bn (bat v v5))=6)) (
   rec (v,v1,v2,v3,v4,(wr .i64 (v5+1)))) (
   (A2q v v5).bind fun(x,x1) =>
   cond (decide (x1<0)) (
    kx .ret (v,[],v5,11,v4,v5)) (
    chk (decide (v4.length+1≤Av)) (
    rec (v,v1,v2,v3,(v4++[x]),x1)))))) (
  kx (.exit 0) (v,v1,v2,v3,v4,v5))
def Ajm(R:Type) (k:Nat):Px R:=pxO [(92,cA Im),(93,cA Atv)] [] [(5,Ao k Ab9 (N6))] []
def Abb(k:Nat) (x:HV [.str]):Option (HV [.sl .tok true,.int .i64,.int .i64]):=match x with
 |s =>
 cond (decide (20000<(s.length:Int))) (
  some ([],0,3)) (
  Al (fun rec=>N6 rec (fun e vz=>match vz with|(_,v7,v8,v9,v10,_)=>match e with
  |.ret =>
   some (v7,v8,v9)
  |.exit 0 =>
   some (v10,0,0)
  |_=>none)) k (s,[],0,0,[],0))
theorem Asr(k:Nat):FO 35 [.str] [.sl .tok true,.int .i64,.int .i64] (Abb k):=fR (px:=Ajm _ k) (n:=1) Tryz.func35 rfl (fun cx H=>by
 have h0:Lv cx (Ajm (HV [.sl .tok true,.int .i64,.int .i64]) k):=lv H (c1 H Kf (c1 H Bdt Ae)) Aa Ab
 have hlrall12_0:=lO H h0 (b:=lp Tryz.f35 0) (k:=k) (n:=0) (s:=Ab9) (step:=N6) (fun _ _ _ (_,_,_,_,_,_)=>by kernel_rfl) Aj
 exact⟨h0,(Bf Aj hlrall12_0)⟩) fun _=>by kernel_rfl
abbrev Hk (s:Str):List Tok×Int×Int:=Auv s
def Agv:FT [.str] [.sl .tok true,.int .i64,.int .i64]:=fun x=>some (Hk x)
theorem Pk{R:Type}{kx:Ex→Md→Option R}{s:Str}{c:Except Int (List Tok)→Option R}(hs:s.length≤20000) (h1:∀a i,kx .ret (s,[],i,11,a,i)=c (.error i)) (h2:∀a i,kx (.exit 0) (s,[],0,0,a,i)=c (.ok a)):∀(k:Nat) (i:Int) (f:Nat) (a:List Tok),(a.length:Int)≤i→0≤i→i≤s.length→(s.length:Int)-i<k→(s.length:Int)-i<f→Al (fun rec=>N6 rec kx) k (s,[],0,0,a,i)=c (Lp.rallGo f s i a)
 |0,i,f,a,_,_,_,h,_=>by omega
 |_,i,0,a,_,_,_,_,h=>by omega
 |k+1,i,f+1,a,ha,h0,hi,hk,hf=>by
  rw [A3]
  simp only [N6,Lp.rallGo]
  by_cases hl:i<(s.length:Int)
  ·rw [Ze1 hl,Af,if_neg (by omega),On ⟨h0,hl⟩]
   have ew:wr .i64 (i+1)=i+1:=Cc (by simp only [inI];omega)
   show cond (decide (Bn (bat s i)=6)) _ _=_
   by_cases h6:Lp.clsF (Sx.byt s i)=6
   ·rw [Ze1 (show Bn (bat s i)=6 from h6),if_pos h6,Af,ew]
    exact Pk hs h1 h2 k (i+1) f a (by omega) (by omega) (by omega) (by omega) (by omega)
   ·have hc:A2q s i=some (tkR i (Lp.tokR s i)):=if_pos ⟨h0,hl,by omega⟩
    rw [Zd1 (show ¬Bn (bat s i)=6 from h6),if_neg h6,Ah]
    cases ht:Lp.tokR s i with
    |none =>
     have hc2:A2q s i=some (⟨0,0,[],0⟩, -1):=by rw [hc,ht];rfl
     rw [hc2]
     simp only [Zc1]
     rw [Ze1 (show(-1:Int)<0 by decide),Af,h1]
    |some x =>
     obtain⟨y1,y2,y3,e⟩:=x
     have he:=Lp.tokR_end ⟨h0,hl⟩ ht
     have hc2:A2q s i=some (⟨y1,i,y2,y3⟩,e):=by rw [hc,ht];rfl
     rw [hc2]
     simp only [Zc1]
     rw [Zd1 (show ¬e<0 by omega),Ah,Ze1 (show a.length+1≤Av by simp only [Av];omega)]
     simp only [chk,Af]
     exact Pk hs h1 h2 k e f (a++[⟨y1,i,y2,y3⟩]) (by simp only [Zh1,Zf1,Zi1];omega) (by omega) (by omega) (by omega) (by omega)
  ·rw [Zd1 hl,Ah,h2,if_pos (by omega)]
theorem A0j:FO 35 [.str] [.sl .tok true,.int .i64,.int .i64] Agv :=.fin 0 Asr fun s r hb hx=>⟨20001,by
 simp only [Agv,Za1] at hx
 rw [←hx]
 simp only [Abb,Hk,Auv]
 by_cases hl : 20000<(s.length:Int)
 ·rw [Ze1 hl,if_pos hl]
  rfl
 ·rw [Zd1 hl,if_neg hl,Ah]
  refine(Pk (s:=s) (c:=fun o=>match o with|.error i=>some (([]:List Tok),i,(11:Int))|.ok ts=>some (ts,(0:Int),(0:Int))) (by omega) (fun _ _=>rfl) (fun _ _=>rfl) 20001 0 (s.length+1) [] (by simp) (by omega) (by omega) (by omega) (by omega)).trans ?_
  rw [Lp.allF_eq]
  simp only [Lp.rallF]
  cases Lp.rallGo (s.length+1) s 0 []<;>rfl⟩
end Go.Proofs.YthndhaolemgbdaaGreatDoor
namespace Go.Proofs.YthndhaolemgbdaaGreatDoor
open Go.Ax
theorem Vw:Adg=some true:=by kernel_rfl
end Go.Proofs.YthndhaolemgbdaaGreatDoor
