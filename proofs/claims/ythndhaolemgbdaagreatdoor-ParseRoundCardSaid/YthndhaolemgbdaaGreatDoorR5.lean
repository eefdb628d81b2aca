/- Texts of the proof,one behind the other: Ac,Ad,Bw,Shj,Sj,Wr,Ws,Vt,Nf,Uq,Us,Ya,Yb,Lx,Ly. -/
import Derived.Test.YthndhaolemgbdaaGreatDoorR4
import Derived.Lib.Walk
import Derived.Lib.Strings
import Derived.Lib.Slices
import Derived.Lib.Builder
import Derived.Lib.UnsafeStr
import Derived.Lib.FrozenHead
import Derived.Laws.Externs
import Derived.Shelf.RegionOpenPlain
import Derived.Shelf.Strings.OnBuilder
set_option linter.all false
namespace Go.Proofs.YthndhaolemgbdaaGreatDoor
open Go.Ax
def Alg:Sig:=⟨26,[(0,.sl .col false),(1,.sl .col false),(4,.bool),(12,.int .i64),(13,.int .i64)],[],[],0,0,0,[],[]⟩
abbrev Yz:=List Col×List Col×Bool×Int×Int
def Abt{R:Type}(rec:Yz→Option R) (kx:Ex→Yz→Option R) (v:Yz):Option R:=match v with
 |(v,v1,v2,v3,v4) =>
 cond (decide (v4<v3)) (
  chk (inb v4 v.length) (
  chk (inb v4 v1.length) (
   cond (!decide ((at' .col v v4)=(at' .col v1 v4))) (
   kx .ret (v,v1,false,v3,v4)) (
   rec (v,v1,v2,v3,(wr .i64 (v4+1))))))) (
  kx (.exit 0) (v,v1,v2,v3,v4))
def A3c(R:Type) (k:Nat):Px R:=pxO [] [] [(4,Ay k Alg (Abt))] []
def Amr(k:Nat) (x:HV [.sl .col false,.sl .col false]):Option (HV [.bool]):=match x with
 |(a,b) =>
 cond (!decide ((a.length:Int)=(b.length:Int))) (
  some false) (
  Al (fun rec=>Abt rec (fun e vz=>match vz with|(_,_,v7,_,_)=>match e with
  |.ret =>
   some v7
  |.exit 0 =>
   some true
  |_=>none)) k (a,b,false,(a.length:Int),0))
theorem A9v(k:Nat):FO 75 [.sl .col false,.sl .col false] [.bool] (Amr k):=fR (px:=A3c _ k) (n:=1) Tryz.func75 rfl (fun cx H=>by
 have h0:Lv cx (A3c (HV [.bool]) k):=lv H Af Ab Aa
 have hlaeqc_0:=lO H h0 (b:=lp Tryz.f75 0) (k:=k) (n:=0) (s:=Alg) (step:=Abt) (fun _ _ _ (_,_,_,_,_)=>by kernel_rfl) Ak
 exact⟨h0,(B7 Ak hlaeqc_0)⟩) fun(_,_)=>by kernel_rfl
def Bgj(a b:List Col):Bool:=decide (a=b)
def Aw8:FT [.sl .col false,.sl .col false] [.bool]:=fun x=>some (Bgj x.1 x.2)
theorem A8a{R:Type}{kx:Ex→Yz→Option R}{a b:List Col}{c:Bool→Option R}(hn:ln a.length) (he:a.length=b.length) (h1:∀i,kx .ret (a,b,false,(a.length:Int),i)=c false) (h2:∀q i,kx (.exit 0) (a,b,q,(a.length:Int),i)=c true) (k:Nat) (hk:a.length<k) :
  Al (fun rec=>Abt rec kx) k (a,b,false,(a.length:Int),0)=c (decide (a=b)):=by
 refine(Cy a.length (fun i=>(a,b,false,(a.length:Int),(i:Int))) (fun i=>c (decide (a.drop i=b.drop i))) (fun i hi rec hr =>?_) (fun rec =>?_) k 0 (Nat.zero_le _) (by omega)).trans (by rw [Zq1,Zq1])
 ·have hi2:i<b.length:=by omega
  simp only [Abt,Gb hi,Ae,Be hi,Be hi2,chk,Bc (c :=.col) hi,Bc (c :=.col) hi2,A3 hi hn,hr,h1,Av hi,Av hi2,Ze2]
  by_cases hx:a[i]=b[i]
  ·rw [Ze1 hx]
   simp [hx]
  ·rw [Zd1 hx]
   simp [hx]
 ·simp only [Abt,Fz,Ah,h2]
  rw [Zk1 (Zn1 _),Zk1 (by omega)]
  rfl
theorem Bfv:FO 75 [.sl .col false,.sl .col false] [.bool] Aw8 :=.fin 0 A9v fun(a,b) r hb hx=>⟨a.length+1,by
 simp only [Aw8,Za1] at hx
 rw [←hx]
 simp only [Amr,Bgj]
 by_cases he:a.length=b.length
 ·rw [Ze1 (show(a.length:Int)=(b.length:Int) by omega),Zt1,Ah]
  exact A8a (c:=some) hb.1.1 he (fun _=>rfl) (fun _ _=>rfl) (a.length+1) (by omega)
 ·rw [Zd1 (show ¬(a.length:Int)=(b.length:Int) by omega),Zd1 (fun h=>he (by rw [h]))]
  rfl⟩
def Aor:Sig:=⟨26,[(0,.sl .str false),(1,.sl .str false),(4,.bool),(12,.int .i64),(13,.int .i64)],[],[],0,0,0,[],[]⟩
abbrev Aao:=List Str×List Str×Bool×Int×Int
def Adh{R:Type}(rec:Aao→Option R) (kx:Ex→Aao→Option R) (v:Aao):Option R:=match v with
 |(v,v1,v2,v3,v4) =>
 cond (decide (v4<v3)) (
  chk (inb v4 v.length) (
  chk (inb v4 v1.length) (
   cond (!decide ((at' .str v v4)=(at' .str v1 v4))) (
   kx .ret (v,v1,false,v3,v4)) (
   rec (v,v1,v2,v3,(wr .i64 (v4+1))))))) (
  kx (.exit 0) (v,v1,v2,v3,v4))
def A26(R:Type) (k:Nat):Px R:=pxO [] [] [(4,Ay k Aor (Adh))] []
def Aln(k:Nat) (x:HV [.sl .str false,.sl .str false]):Option (HV [.bool]):=match x with
 |(a,b) =>
 cond (!decide ((a.length:Int)=(b.length:Int))) (
  some false) (
  Al (fun rec=>Adh rec (fun e vz=>match vz with|(_,_,v7,_,_)=>match e with
  |.ret =>
   some v7
  |.exit 0 =>
   some true
  |_=>none)) k (a,b,false,(a.length:Int),0))
theorem Bbe(k:Nat):FO 76 [.sl .str false,.sl .str false] [.bool] (Aln k):=fR (px:=A26 _ k) (n:=1) Tryz.func76 rfl (fun cx H=>by
 have h0:Lv cx (A26 (HV [.bool]) k):=lv H Af Ab Aa
 have hlaeqs_0:=lO H h0 (b:=lp Tryz.f76 0) (k:=k) (n:=0) (s:=Aor) (step:=Adh) (fun _ _ _ (_,_,_,_,_)=>by kernel_rfl) Ak
 exact⟨h0,(B7 Ak hlaeqs_0)⟩) fun(_,_)=>by kernel_rfl
def Bb1(a b:List Str):Bool:=decide (a=b)
def A0t:FT [.sl .str false,.sl .str false] [.bool]:=fun x=>some (Bb1 x.1 x.2)
theorem A4z{R:Type}{kx:Ex→Aao→Option R}{a b:List Str}{c:Bool→Option R}(hn:ln a.length) (he:a.length=b.length) (h1:∀i,kx .ret (a,b,false,(a.length:Int),i)=c false) (h2:∀q i,kx (.exit 0) (a,b,q,(a.length:Int),i)=c true) (k:Nat) (hk:a.length<k) :
  Al (fun rec=>Adh rec kx) k (a,b,false,(a.length:Int),0)=c (decide (a=b)):=by
 refine(Cy a.length (fun i=>(a,b,false,(a.length:Int),(i:Int))) (fun i=>c (decide (a.drop i=b.drop i))) (fun i hi rec hr =>?_) (fun rec =>?_) k 0 (Nat.zero_le _) (by omega)).trans (by rw [Zq1,Zq1])
 ·have hi2:i<b.length:=by omega
  simp only [Adh,Gb hi,Ae,Be hi,Be hi2,chk,Bc (c :=.str) hi,Bc (c :=.str) hi2,A3 hi hn,hr,h1,Av hi,Av hi2,Ze2]
  by_cases hx:a[i]=b[i]
  ·rw [Ze1 hx]
   simp [hx]
  ·rw [Zd1 hx]
   simp [hx]
 ·simp only [Adh,Fz,Ah,h2]
  rw [Zk1 (Zn1 _),Zk1 (by omega)]
  rfl
theorem Bfj:FO 76 [.sl .str false,.sl .str false] [.bool] A0t :=.fin 0 Bbe fun(a,b) r hb hx=>⟨a.length+1,by
 simp only [A0t,Za1] at hx
 rw [←hx]
 simp only [Aln,Bb1]
 by_cases he:a.length=b.length
 ·rw [Ze1 (show(a.length:Int)=(b.length:Int) by omega),Zt1,Ah]
  exact A4z (c:=some) hb.1.1 he (fun _=>rfl) (fun _ _=>rfl) (a.length+1) (by omega)
 ·rw [Zd1 (show ¬(a.length:Int)=(b.length:Int) by omega),Zd1 (fun h=>he (by rw [h]))]
  rfl⟩
def Aom:Sig:=⟨26,[(0,.sl .bool false),(1,.sl .bool false),(4,.bool),(12,.int .i64),(13,.int .i64)],[],[],0,0,0,[],[]⟩
abbrev Aay:=List Bool×List Bool×Bool×Int×Int
def Acr{R:Type}(rec:Aay→Option R) (kx:Ex→Aay→Option R) (v:Aay):Option R:=match v with
 |(v,v1,v2,v3,v4) =>
 cond (decide (v4<v3)) (
  chk (inb v4 v.length) (
  chk (inb v4 v1.length) (
   cond (!decide ((at' .bool v v4)=(at' .bool v1 v4))) (
   kx .ret (v,v1,false,v3,v4)) (
   rec (v,v1,v2,v3,(wr .i64 (v4+1))))))) (
  kx (.exit 0) (v,v1,v2,v3,v4))
def A3y(R:Type) (k:Nat):Px R:=pxO [] [] [(4,Ay k Aom (Acr))] []
def Ama(k:Nat) (x:HV [.sl .bool false,.sl .bool false]):Option (HV [.bool]):=match x with
 |(a,b) =>
 cond (!decide ((a.length:Int)=(b.length:Int))) (
  some false) (
  Al (fun rec=>Acr rec (fun e vz=>match vz with|(_,_,v7,_,_)=>match e with
  |.ret =>
   some v7
  |.exit 0 =>
   some true
  |_=>none)) k (a,b,false,(a.length:Int),0))
theorem Bb3(k:Nat):FO 77 [.sl .bool false,.sl .bool false] [.bool] (Ama k):=fR (px:=A3y _ k) (n:=1) Tryz.func77 rfl (fun cx H=>by
 have h0:Lv cx (A3y (HV [.bool]) k):=lv H Af Ab Aa
 have hlaeqb_0:=lO H h0 (b:=lp Tryz.f77 0) (k:=k) (n:=0) (s:=Aom) (step:=Acr) (fun _ _ _ (_,_,_,_,_)=>by kernel_rfl) Ak
 exact⟨h0,(B7 Ak hlaeqb_0)⟩) fun(_,_)=>by kernel_rfl
def Bgl(a b:List Bool):Bool:=decide (a=b)
def Azc:FT [.sl .bool false,.sl .bool false] [.bool]:=fun x=>some (Bgl x.1 x.2)
theorem A6o{R:Type}{kx:Ex→Aay→Option R}{a b:List Bool}{c:Bool→Option R}(hn:ln a.length) (he:a.length=b.length) (h1:∀i,kx .ret (a,b,false,(a.length:Int),i)=c false) (h2:∀q i,kx (.exit 0) (a,b,q,(a.length:Int),i)=c true) (k:Nat) (hk:a.length<k) :
  Al (fun rec=>Acr rec kx) k (a,b,false,(a.length:Int),0)=c (decide (a=b)):=by
 refine(Cy a.length (fun i=>(a,b,false,(a.length:Int),(i:Int))) (fun i=>c (decide (a.drop i=b.drop i))) (fun i hi rec hr =>?_) (fun rec =>?_) k 0 (Nat.zero_le _) (by omega)).trans (by rw [Zq1,Zq1])
 ·have hi2:i<b.length:=by omega
  simp only [Acr,Gb hi,Ae,Be hi,Be hi2,chk,Bc (c :=.bool) hi,Bc (c :=.bool) hi2,A3 hi hn,hr,h1,Av hi,Av hi2,Ze2]
  by_cases hx:a[i]=b[i]
  ·rw [Ze1 hx]
   simp [hx]
  ·rw [Zd1 hx]
   simp [hx]
 ·simp only [Acr,Fz,Ah,h2]
  rw [Zk1 (Zn1 _),Zk1 (by omega)]
  rfl
theorem Biz:FO 77 [.sl .bool false,.sl .bool false] [.bool] Azc :=.fin 0 Bb3 fun(a,b) r hb hx=>⟨a.length+1,by
 simp only [Azc,Za1] at hx
 rw [←hx]
 simp only [Ama,Bgl]
 by_cases he:a.length=b.length
 ·rw [Ze1 (show(a.length:Int)=(b.length:Int) by omega),Zt1,Ah]
  exact A6o (c:=some) hb.1.1 he (fun _=>rfl) (fun _ _=>rfl) (a.length+1) (by omega)
 ·rw [Zd1 (show ¬(a.length:Int)=(b.length:Int) by omega),Zd1 (fun h=>he (by rw [h]))]
  rfl⟩
instance:DecidableEq SetE:=fun a b=>decidable_of_iff (a.name=b.name∧a.e=b.e) (by
 cases a;cases b
 simp)
def Ap7(a b:SetE):Bool:=decide (a.name=b.name)&&Hp a.e b.e
theorem Atf(a b:SetE):Ap7 a b=decide (a=b):=by
 cases a;cases b
 simp only [Ap7,I8,SetE.mk.injEq,Bool.decide_and]
def Ajs(a b:Stm):Bool:=decide (a.kind=b.kind)&&decide (a.name=b.name)&&decide (a.on=b.on)&&decide (a.has=b.has)&&decide (a.most=b.most)&&decide (a.whr=b.whr)&&(decide (a.cols=b.cols)&&decide (a.names=b.names)&&decide (a.order=b.order)&&decide (a.desc=b.desc)&&decide (a.l=b.l))&&decide (a.rows=b.rows)&&decide (a.sets=b.sets)
theorem Ao4(a b:Stm):Ajs a b=true↔a=b:=by
 cases a;cases b
 simp only [Ajs,Zb1,Zg1,Stm.mk.injEq]
 constructor
 ·rintro⟨⟨⟨⟨⟨⟨⟨⟨h1,h2⟩,h3⟩,h4⟩,h5⟩,h6⟩,⟨⟨⟨h7,h8⟩,h9⟩,h10⟩,h11⟩,h12⟩,h13⟩
  exact⟨h1,h2,h3,h7,h8,h11,h12,h13,h4,h6,h9,h10,h5⟩
 ·rintro⟨h1,h2,h3,h7,h8,h11,h12,h13,h4,h6,h9,h10,h5⟩
  exact⟨⟨⟨⟨⟨⟨⟨⟨h1,h2⟩,h3⟩,h4⟩,h5⟩,h6⟩,⟨⟨⟨h7,h8⟩,h9⟩,h10⟩,h11⟩,h12⟩,h13⟩
def Ad6:Sig:=⟨32,[(1,.sl .set false),(6,.bool),(15,.sl .set false),(16,.int .i64),(17,.int .i64)],[(2,.fn 81 [])],[],40,40,600,[],[]⟩
abbrev Pb:=List SetE×Bool×List SetE×Int×Int
def Oy{R:Type}(rec:Pb→Option R) (kx:Ex→Pb→Option R) (v:Pb):Option R:=match v with
 |(v36,v37,v38,v39,v40) =>
 cond (decide (v40<v39)) (
  chk (inb v40 v38.length) (
  chk (inb v40 v36.length) (
   cond (decide (((at' .set v38 v40).name)=((at' .set v36 v40).name))) (
   cond (!(Tq (Kj ((at' .set v38 v40).e)) (Kj ((at' .set v36 v40).e)))) (
    kx .ret (v36,false,v38,v39,v40)) (
    rec (v36,v37,v38,v39,(wr .i64 (v40+1))))) (
   kx .ret (v36,false,v38,v39,v40))))) (
  kx (.exit 0) (v36,v37,v38,v39,v40))
def Aeb:Sig:=⟨32,[(1,.sl .expr false),(6,.bool),(15,.sl .expr false),(16,.int .i64),(17,.int .i64)],[(2,.fn 20 [])],[(0,.one (.sv .stmt)),(1,.one (.sv .stmt))],120,120,600,[],[]⟩
abbrev P9:=List Xpr×Bool×List Xpr×Int×Int×Stm×Stm
def O6{R:Type}(rec:P9→Option R) (kx:Ex→P9→Option R) (v:P9):Option R:=match v with
 |(v17,v18,v19,v20,v21,w4,w5) =>
 cond (decide (v21<v20)) (
  chk (inb v21 v19.length) (
  chk (inb v21 v17.length) (
   cond (!(Tq (at' .expr v19 v21) (at' .expr v17 v21))) (
   kx .ret (v17,false,v19,v20,v21,w4,w5)) (
   rec (v17,v18,v19,v20,(wr .i64 (v21+1)),w4,w5))))) (
  kx (.exit 0) (v17,v18,v19,v20,v21,w4,w5))
def Afb:Sig:=⟨32,[(1,.sl .exprs false),(6,.bool),(15,.sl .exprs false),(16,.int .i64),(17,.int .i64)],[(2,.fn 79 [])],[(0,.one (.sv .stmt)),(1,.one (.sv .stmt))],40,40,400,[],[]⟩
abbrev Q5:=List (List Xpr)×Bool×List (List Xpr)×Int×Int×Stm×Stm
def Oi{R:Type}(k:Nat) (rec:Q5→Option R) (kx:Ex→Q5→Option R) (v:Q5):Option R:=match v with
 |(v12,v13,v14,v15,v16,w2,w3) =>
 cond (decide (v16<v15)) (
  chk (inb v16 v14.length) (
  chk (inb v16 v12.length) (
   cond (!decide (((at' .exprs v14 v16).length:Int)=((at' .exprs v12 v16).length:Int))) (
   kx .ret (v12,false,v14,v15,v16,w2,w3)) (
   Al (fun rc=>O6 rc (fun e vz=>match vz with|(_,v23,_,_,_,v27,v28)=>match e with
    |.ret =>
    cond (!v23) (
     kx .ret (v12,false,v14,v15,v16,v27,v28)) (
     rec (v12,v13,v14,v15,(wr .i64 (v16+1)),v27,v28))
    |.exit 0 =>
    rec (v12,v13,v14,v15,(wr .i64 (v16+1)),v27,v28)
    |_=>none)) k ((at' .exprs v12 v16),false,(at' .exprs v14 v16),((at' .exprs v14 v16).length:Int),0,w2,w3))))) (
  kx (.exit 0) (v12,v13,v14,v15,v16,w2,w3))
def Aeq:Sig:=⟨32,[(1,.sl .expr false),(6,.bool),(15,.sl .expr false),(16,.int .i64),(17,.int .i64)],[(2,.fn 20 [])],[(0,.one (.sv .stmt)),(1,.one (.sv .stmt))],40,40,200,[],[]⟩
abbrev P1:=List Xpr×Bool×List Xpr×Int×Int×Stm×Stm
def N7{R:Type}(rec:P1→Option R) (kx:Ex→P1→Option R) (v:P1):Option R:=match v with
 |(v,v1,v2,v3,v4,w,w1) =>
 cond (decide (v4<v3)) (
  chk (inb v4 v2.length) (
  chk (inb v4 v.length) (
   cond (!(Tq (at' .expr v2 v4) (at' .expr v v4))) (
   kx .ret (v,false,v2,v3,v4,w,w1)) (
   rec (v,v1,v2,v3,(wr .i64 (v4+1)),w,w1))))) (
  kx (.exit 0) (v,v1,v2,v3,v4,w,w1))
def Aeh(R:Type) (k:Nat):Px R:=pxO [(20,cA Uf)] [] [(4,Ay k Aeq (N7))] []
def Rf(R:Type) (k:Nat):Px R:=pxO [(20,cA Uf)] [] [(4,Ay k Aeb (O6))] []
noncomputable def Wu (R:Type) (k:Nat):Px R:=pxO [(47,Az 120 600 (Rf R k) Tryz.f47)] [] [] []
noncomputable def Ae0 (R:Type) (k:Nat):Px R:=pxO [(79,Az 80 600 (Wu R k) Tryz.f79)] [] [(4,Ay k Afb (Oi k))] []
def V7(R:Type) (_k:Nat):Px R:=pxO [(20,cA Uf)] [] [] []
noncomputable def Aev (R:Type) (k:Nat):Px R:=pxO [(81,Az 80 800 (V7 R k) Tryz.f81)] [] [(4,Ay k Ad6 (Oy))] []
noncomputable def Apa (R:Type) (k:Nat):Px R:=pxO [(20,cA Uf),(75,cA Aw8),(76,cA A0t),(77,cA Azc),(47,Az 40 200 (Aeh R k) Tryz.f47),(78,Az 40 400 (Ae0 R k) Tryz.f78),(80,Az 40 600 (Aev R k) Tryz.f80)] [] [] []
def Tx(k:Nat) (x:HV [.sv .stmt,.sv .stmt]):Option (HV [.bool]):=match x with
 |(a,b) =>
 let j9:=fun(p6:Bool) =>
  let j8:=fun(p13:Bool) (q6:Stm) (q7:Stm) =>
  let j7:=fun(p14:Bool) =>
   let j6:=fun(p23:Bool) (q24:Stm) (q25:Stm) =>
   cond (p23) (
    cond (!decide ((q24.sets.length:Int)=(q25.sets.length:Int))) (
    some false) (
    Al (fun rec=>Oy rec (fun e vz=>match vz with|(_,v42,_,_,_)=>match e with
     |.ret =>
     some v42
     |.exit 0 =>
     some true
     |_=>none)) k (q25.sets,false,q24.sets,(q24.sets.length:Int),0))) (
    some false)
   cond (p14) (
   cond (!decide ((q6.rows.length:Int)=(q7.rows.length:Int))) (
    j6 false q6 q7) (
    Al (fun rec=>Oi k rec (fun e vz=>match vz with|(_,v30,_,_,_,v34,v35)=>match e with
    |.ret =>
     j6 v30 v34 v35
    |.exit 0 =>
     j6 true v34 v35
    |_=>none)) k (q7.rows,false,q6.rows,(q6.rows.length:Int),0,q6,q7))) (
   j6 false q6 q7)
  cond (p6) (
   j7 p13) (
   j7 false)
  let j5:=fun(p7:Bool) =>
  let j4:=fun(p8:Bool) =>
   let j3:=fun(p9:Bool) =>
   cond (p9) (
    cond (!decide ((a.l.length:Int)=(b.l.length:Int))) (
    j8 false a b) (
    Al (fun rec=>N7 rec (fun e vz=>match vz with|(_,v6,_,_,_,v10,v11)=>match e with
     |.ret =>
     j8 v6 v10 v11
     |.exit 0 =>
     j8 true v10 v11
     |_=>none)) k (b.l,false,a.l,(a.l.length:Int),0,a,b))) (
    j8 false a b)
   cond (p8) (
   j3 (Bgl a.desc b.desc)) (
   j3 false)
  cond (p7) (
   j4 (Bb1 a.order b.order)) (
   j4 false)
  cond ((Bgj a.cols b.cols)) (
  j5 (Bb1 a.names b.names)) (
  j5 false)
 let j2:=fun(p:Bool) =>
  let j1:=fun(p1:Bool) =>
  let j:=fun(p2:Bool) =>
   cond (p2) (
   cond (decide (a.most=b.most)) (
    j9 (Tq (Kj a.whr) (Kj b.whr))) (
    j9 false)) (
   j9 false)
  cond (p1) (
   j (decide (a.has=b.has))) (
   j false)
  cond (p) (
  j1 (decide (a.on=b.on))) (
  j1 false)
 cond (decide (a.kind=b.kind)) (
  j2 (decide (a.name=b.name))) (
  j2 false)
theorem Axu(k:Nat):FO 27 [.sv .stmt,.sv .stmt] [.bool] (Tx k):=fR (px:=Apa _ k) (n:=0) Tryz.func27 rfl (fun cx H=>by
 have h1:Lv cx (Aeh (HV [.bool]) k):=lv H (c1 H Sz Af) Ab Aa
 have hlastmts_0:=lO H h1 (b:=lp Tryz.f47 0) (k:=k) (n:=0) (s:=Aeq) (step:=N7) (fun _ _ _ (_,_,_,_,_,_,_)=>by kernel_rfl) Ak
 have h4:Lv cx (Rf (HV [.bool]) k):=lv H (c1 H Sz Af) Ab Aa
 have hlastmts_2:=lO H h4 (b:=lp Tryz.f47 0) (k:=k) (n:=0) (s:=Aeb) (step:=O6) (fun _ _ _ (_,_,_,_,_,_,_)=>by kernel_rfl) Ak
 have h3:Lv cx (Wu (HV [.bool]) k):=lv H (Aq (cR H h4 Tryz.func47 rfl (n:=1) ((B7 Ak hlastmts_2))) Af) Ab Aa
 have h2:Lv cx (Ae0 (HV [.bool]) k):=lv H (Aq (cR H h3 Tryz.func79 rfl (n:=0) (Ak)) Af) Ab Aa
 have hlastmts_1:=lO H h2 (b:=lp Tryz.f78 0) (k:=k) (n:=0) (s:=Afb) (step:=Oi k) (fun _ _ _ (_,_,_,_,_,_,_)=>by kernel_rfl) Ak
 have h6:Lv cx (V7 (HV [.bool]) k):=lv H (c1 H Sz Af) Ab Aa
 have h5:Lv cx (Aev (HV [.bool]) k):=lv H (Aq (cR H h6 Tryz.func81 rfl (n:=0) (Ak)) Af) Ab Aa
 have hlastmts_3:=lO H h5 (b:=lp Tryz.f80 0) (k:=k) (n:=0) (s:=Ad6) (step:=Oy) (fun _ _ _ (_,_,_,_,_)=>by kernel_rfl) Ak
 have h0:Lv cx (Apa (HV [.bool]) k):=lv H (c1 H Sz (c1 H Bfv (c1 H Bfj (c1 H Biz (Aq (cR H h1 Tryz.func47 rfl (n:=1) ((B7 Ak hlastmts_0))) (Aq (cR H h2 Tryz.func78 rfl (n:=1) ((B7 Ak hlastmts_1))) (Aq (cR H h5 Tryz.func80 rfl (n:=1) ((B7 Ak hlastmts_3))) Af))))))) Ab Aa
 exact⟨h0,Ak⟩) fun(_,_)=>by kernel_rfl
def Aw4(a b:Stm):Bool:=Ajs a b
def At2:FT [.sv .stmt,.sv .stmt] [.bool]:=fun x=>some (Aw4 x.1 x.2)
theorem Zq{α:Type} [DecidableEq α] (x y : α) (l m:List α):decide (x::l=y::m)=(decide (x=y)&&decide (l=m)):=by
 simp only [Ze2,Bool.decide_and]
theorem Ak2{R:Type}{kx:Ex→P1→Option R}{l m:List Xpr}{s t:Stm}{c:Bool→Option R}(hn:ln l.length) (hm:l.length=m.length)
  (h1:∀i,kx .ret (m,false,l,(l.length:Int),i,s,t)=c false) (h2:∀q i,kx (.exit 0) (m,q,l,(l.length:Int),i,s,t)=c true) (k:Nat) (hk:l.length<k):Al (fun rec=>N7 rec kx) k (m,false,l,(l.length:Int),0,s,t)=c (decide (l=m)):=by
 refine(Cy l.length (fun i=>(m,false,l,(l.length:Int),(i:Int),s,t)) (fun i=>c (decide (l.drop i=m.drop i))) (fun i hi rec hr =>?_) (fun rec =>?_) k 0 (Nat.zero_le _) (by omega)).trans (by rw [Zq1,Zq1])
 ·have hi2:i<m.length:=by omega
  simp only [N7,Gb hi,Ae,Be hi,Be hi2,chk,Bc (c :=.expr) hi,Bc (c :=.expr) hi2,A3 hi hn,hr,h1,Av hi,Av hi2,Zq,Tq,I8]
  cases decide (l[i]=m[i])<;>rfl
 ·simp only [N7,Fz,Ah,h2]
  rw [Zk1 (Zn1 _),Zk1 (by omega)]
  rfl
theorem Akv{R:Type}{kx:Ex→P9→Option R}{l m:List Xpr}{s t:Stm}{c:Bool→Option R}(hn:ln l.length) (hm:l.length=m.length)
  (h1:∀i,kx .ret (m,false,l,(l.length:Int),i,s,t)=c false) (h2:∀q i,kx (.exit 0) (m,q,l,(l.length:Int),i,s,t)=c true) (k:Nat) (hk:l.length<k):Al (fun rec=>O6 rec kx) k (m,false,l,(l.length:Int),0,s,t)=c (decide (l=m)):=by
 refine(Cy l.length (fun i=>(m,false,l,(l.length:Int),(i:Int),s,t)) (fun i=>c (decide (l.drop i=m.drop i))) (fun i hi rec hr =>?_) (fun rec =>?_) k 0 (Nat.zero_le _) (by omega)).trans (by rw [Zq1,Zq1])
 ·have hi2:i<m.length:=by omega
  simp only [O6,Gb hi,Ae,Be hi,Be hi2,chk,Bc (c :=.expr) hi,Bc (c :=.expr) hi2,A3 hi hn,hr,h1,Av hi,Av hi2,Zq,Tq,I8]
  cases decide (l[i]=m[i])<;>rfl
 ·simp only [O6,Fz,Ah,h2]
  rw [Zk1 (Zn1 _),Zk1 (by omega)]
  rfl
theorem Ala{R:Type}{kx:Ex→Q5→Option R}{l m:List (List Xpr)}{s t:Stm}{c:Bool→Option R}(hn:ln l.length) (hm:l.length=m.length) (hr0:∀x,x∈l→ln x.length) (k:Nat) (hkr:∀x,x∈l→List.length x<k)
  (h1:∀i,kx .ret (m,false,l,(l.length:Int),i,s,t)=c false) (h2:∀q i,kx (.exit 0) (m,q,l,(l.length:Int),i,s,t)=c true) (hk:l.length<k):Al (fun rec=>Oi k rec kx) k (m,false,l,(l.length:Int),0,s,t)=c (decide (l=m)):=by
 refine(Cy l.length (fun i=>(m,false,l,(l.length:Int),(i:Int),s,t)) (fun i=>c (decide (l.drop i=m.drop i))) (fun i hi rec hr =>?_) (fun rec =>?_) k 0 (Nat.zero_le _) (by omega)).trans (by rw [Zq1,Zq1])
 ·have hi2:i<m.length:=by omega
  simp only [Oi,Gb hi,Ae,Be hi,Be hi2,chk,Bc (c :=.exprs) hi,Bc (c :=.exprs) hi2,A3 hi hn,Av hi,Av hi2,Zq]
  by_cases hlen:l[i].length=m[i].length
  ·rw [Ze1 (show(l[i].length:Int)=(m[i].length:Int) by omega),Zt1,Ah]
   rw [Akv (c:=fun b=>cond b (c (decide (l.drop (i+1)=m.drop (i+1)))) (c false)) (hr0 _ (List.getElem_mem hi)) hlen (fun _=>h1 _) (fun _ _=>hr) k (hkr _ (List.getElem_mem hi))]
   cases decide (l[i]=m[i])<;>rfl
  ·rw [Zd1 (show ¬(l[i].length:Int)=(m[i].length:Int) by omega),Zd1 (fun h=>hlen (by rw [h])),h1]
   rfl
 ·simp only [Oi,Fz,Ah,h2]
  rw [Zk1 (Zn1 _),Zk1 (by omega)]
  rfl
theorem Aky{R:Type}{kx:Ex→Pb→Option R}{l m:List SetE}{c:Bool→Option R}(hn:ln l.length) (hm:l.length=m.length)
  (h1:∀i,kx .ret (m,false,l,(l.length:Int),i)=c false) (h2:∀q i,kx (.exit 0) (m,q,l,(l.length:Int),i)=c true) (k:Nat) (hk:l.length<k):Al (fun rec=>Oy rec kx) k (m,false,l,(l.length:Int),0)=c (decide (l=m)):=by
 refine(Cy l.length (fun i=>(m,false,l,(l.length:Int),(i:Int))) (fun i=>c (decide (l.drop i=m.drop i))) (fun i hi rec hr =>?_) (fun rec =>?_) k 0 (Nat.zero_le _) (by omega)).trans (by rw [Zq1,Zq1])
 ·have hi2:i<m.length:=by omega
  simp only [Oy,Gb hi,Ae,Be hi,Be hi2,chk,Bc (c :=.set) hi,Bc (c :=.set) hi2,A3 hi hn,hr,h1,Av hi,Av hi2,Zq,Tq,←Atf,Ap7,Jn]
  cases decide (l[i].name=m[i].name)<;>cases Hp l[i].e m[i].e<;>rfl
 ·simp only [Oy,Fz,Ah,h2]
  rw [Zk1 (Zn1 _),Zk1 (by omega)]
  rfl
theorem Art{α:Type} [DecidableEq α] {l m:List α}(h:¬l.length=m.length):decide (l=m)=false:=Zd1 fun e=>h (by rw [e])
def Bhd(s:Stm):Nat:=s.l.length+s.rows.length+s.sets.length+(s.rows.map List.length).sum
theorem A4j{l:List (List Xpr)}{x:List Xpr}(h:x∈l):x.length≤(l.map List.length).sum:=by
 induction l with
 |nil=>cases h
 |cons y l ih =>
  simp only [Zw1,List.sum_cons]
  rcases List.mem_cons.1 h with rfl|h
  ·omega
  ·have:=ih h;omega
theorem A96(k:Nat) (a b:Stm) (hb:BdStm a) (hk:Bhd a<k):Tx k (a,b)=some (Ajs a b):=by
 have hk2:=hk
 simp only [Bhd] at hk2
 simp -zeta only [Tx,Tq,I8,Jn,Bgj,Bb1,Bgl]
 extract_lets j6 j9 j j1 j2
 have h6:∀q,j6 q a b=some (q&&decide (a.sets=b.sets)):=fun q=>by
  simp -zeta only [j6]
  cases q with
  |false=>rfl
  |true =>
   rw [Ae,Bool.true_and]
   by_cases hs:a.sets.length=b.sets.length
   ·rw [Ze1 (show(a.sets.length:Int)=(b.sets.length:Int) by omega),Zt1,Ah]
    exact Aky (c:=some) hb.sets.1 hs (fun _=>rfl) (fun _ _=>rfl) k (by omega)
   ·rw [Zd1 (show ¬(a.sets.length:Int)=(b.sets.length:Int) by omega),Art hs]
    rfl
 have h9:∀p,j9 p=some (p&&(decide (a.cols=b.cols)&&decide (a.names=b.names)&&decide (a.order=b.order)&&decide (a.desc=b.desc)&&decide (a.l=b.l))&&decide (a.rows=b.rows)&&decide (a.sets=b.sets)):=fun p=>by
  simp -zeta only [j9]
  extract_lets j8 j3 j4 j5
  have h8:∀q,j8 q a b=some (p&&q&&decide (a.rows=b.rows)&&decide (a.sets=b.sets)):=fun q=>by
   simp -zeta only [j8]
   extract_lets j7
   have h7:∀q,j7 q=some (q&&decide (a.rows=b.rows)&&decide (a.sets=b.sets)):=fun q=>by
    simp -zeta only [j7]
    cases q with
    |false=>exact(h6 false).trans rfl
    |true =>
     rw [Ae,Bool.true_and]
     by_cases hs:a.rows.length=b.rows.length
     ·rw [Ze1 (show(a.rows.length:Int)=(b.rows.length:Int) by omega),Zt1,Ah]
      refine(Ala (c:=fun q=>j6 q a b) hb.rows.1 hs (fun x hx=>(hb.rows.2 x hx).1) k (fun x hx=>by have:=A4j hx;omega) (fun _=>rfl) (fun _ _=>rfl) (by omega)).trans (h6 _)
     ·rw [Zd1 (show ¬(a.rows.length:Int)=(b.rows.length:Int) by omega),Art hs]
      exact(h6 false).trans rfl
   cases p with
   |false=>exact(h7 false).trans rfl
   |true=>exact(h7 q).trans (by rw [Bool.true_and])
  have h3:∀q,j3 q=some (p&&(q&&decide (a.l=b.l))&&decide (a.rows=b.rows)&&decide (a.sets=b.sets)):=fun q=>by
   simp -zeta only [j3]
   cases q with
   |false=>exact h8 false
   |true =>
    rw [Ae,Bool.true_and]
    by_cases hs:a.l.length=b.l.length
    ·rw [Ze1 (show(a.l.length:Int)=(b.l.length:Int) by omega),Zt1,Ah]
     exact(Ak2 (c:=fun q=>j8 q a b) hb.l.1 hs (fun _=>rfl) (fun _ _=>rfl) k (by omega)).trans (h8 _)
    ·rw [Zd1 (show ¬(a.l.length:Int)=(b.l.length:Int) by omega),Art hs]
     exact h8 false
  have h4:∀q,j4 q=some (p&&(q&&decide (a.desc=b.desc)&&decide (a.l=b.l))&&decide (a.rows=b.rows)&&decide (a.sets=b.sets)):=fun q=>by
   simp -zeta only [j4]
   cases q with
   |false=>exact h3 false
   |true=>exact(h3 _).trans (by rw [Bool.true_and])
  have h5:∀q,j5 q=some (p&&(q&&decide (a.order=b.order)&&decide (a.desc=b.desc)&&decide (a.l=b.l))&&decide (a.rows=b.rows)&&decide (a.sets=b.sets)):=fun q=>by
   simp -zeta only [j5]
   cases q with
   |false=>exact h4 false
   |true=>exact(h4 _).trans (by rw [Bool.true_and])
  cases decide (a.cols=b.cols) with
  |false=>exact h5 false
  |true=>exact(h5 _).trans (by simp only [Bool.true_and])
 simp -zeta only [j2,j1,j,Ajs]
 cases decide (a.kind=b.kind) with
 |false=>exact(h9 false).trans rfl
 |true =>
  cases decide (a.name=b.name) with
  |false=>exact(h9 false).trans rfl
  |true =>
   cases decide (a.on=b.on) with
   |false=>exact(h9 false).trans rfl
   |true =>
    cases decide (a.has=b.has) with
    |false=>exact(h9 false).trans rfl
    |true =>
     cases decide (a.most=b.most) with
     |false=>exact(h9 false).trans rfl
     |true=>exact(h9 _).trans (by simp only [Bool.true_and])
theorem A4y:FO 27 [.sv .stmt,.sv .stmt] [.bool] At2 :=.fin 0 Axu fun(a,b) r hb hx=>⟨Bhd a+1,(A96 (Bhd a+1) a b hb.1 (by omega)).trans hx⟩
end Go.Proofs.YthndhaolemgbdaaGreatDoor
namespace Go.Proofs.YthndhaolemgbdaaGreatDoor
open Go.Ax
instance:DecidableEq Stm:=fun a b=>decidable_of_iff (Ajs a b=true) (Ao4 a b)
theorem A5u(a b:Stm):Ajs a b=decide (a=b):=by
 rw [Bool.eq_iff_iff,Ao4,Zg1]
def Ba5(R:Type):Px R:=pxO [] [] [] []
def Wy(x:HV [.int .i64]):Option (HV [.bool]):=match x with
 |n =>
 cond (decide (1≤n)) (
  some (decide (n≤100))) (
  some false)
theorem A55:FO 66 [.int .i64] [.bool] (Wy):=fR (px:=Ba5 _) (n:=0) Tryz.func66 rfl (fun _ H=>⟨lv H Af Ab Aa,Ak⟩) fun _=>by kernel_rfl
def C7(n:Int):Bool :=
 cond (decide (1≤n)) (
  (decide (n≤100))) (
  false)
theorem A6y(x:HV [.int .i64]):Wy x=some (C7 x):=by
 first
  |exact rfl
  |simp only [Wy,C7,Bq]
def Aab:FT [.int .i64] [.bool]:=fun x=>some (C7 x)
theorem Zp:FO 66 [.int .i64] [.bool] Aab :=.fin0 A55 fun x _ _ hx=>(A6y x).trans hx
theorem Bcs(n:Nat):C7 (n:Int)=(decide (1≤n)&&decide (n≤100)):=by
 simp only [C7]
 rw [show decide ((1:Int)≤(n:Int))=decide (1≤n) from Zy1.2 (by omega),show decide ((n:Int)≤100)=decide (n≤100) from Zy1.2 (by omega)]
 cases decide (1≤n)<;>rfl
def Ajr:Sig:=⟨26,[(0,.sl .str false),(2,.bool),(5,.sl .str false),(6,.int .i64),(7,.int .i64)],[],[],0,0,0,[],[]⟩
abbrev U2:=List Str×Bool×List Str×Int×Int
def Uj{R:Type}(rec:U2→Option R) (kx:Ex→U2→Option R) (v:U2):Option R:=match v with
 |(v,v1,v2,v3,v4) =>
 cond (decide (v4<v3)) (
  chk (inb v4 v2.length) (
  cond (!(Bm (at' .str v2 v4))) (
   kx .ret (v,false,v2,v3,v4)) (
   chk (G3 0 v4 v.length) (
   cond ((Asj (v.take (v4:Int).toNat) (at' .str v2 v4))) (
    kx .ret (v,false,v2,v3,v4)) (
    rec (v,v1,v2,v3,(wr .i64 (v4+1)))))))) (
  kx (.exit 0) (v,v1,v2,v3,v4))
def As7(R:Type) (k:Nat):Px R:=pxO [(63,cA Pq),(44,cA Axs)] [] [(2,Ay k Ajr (Uj))] []
def Ag4(k:Nat) (x:HV [.sl .str false]):Option (HV [.bool]):=match x with
 |l =>
 Al (fun rec=>Uj rec (fun e vz=>match vz with|(v5,v6,_,_,_)=>match e with
  |.ret =>
  some v6
  |.exit 0 =>
  some (decide ((v5.length:Int)≤100))
  |_=>none)) k (l,false,l,(l.length:Int),0)
theorem A8d(k:Nat):FO 67 [.sl .str false] [.bool] (Ag4 k):=fR (px:=As7 _ k) (n:=1) Tryz.func67 rfl (fun cx H=>by
 have h0:Lv cx (As7 (HV [.bool]) k):=lv H (c1 H R0 (c1 H A1s Af)) Ab Aa
 have hlaonce_0:=lO H h0 (b:=lp Tryz.f67 0) (k:=k) (n:=0) (s:=Ajr) (step:=Uj) (fun _ _ _ (_,_,_,_,_)=>by kernel_rfl) Ak
 exact⟨h0,(B7 Ak hlaonce_0)⟩) fun _=>by kernel_rfl
def Zg:List Str→List Str→Bool
 |_,[]=>true
 |seen,s::r=>Bm s && !seen.contains s&&Zg (seen++[s]) r
def Ew(l:List Str):Bool:=Zg [] l&&decide (l.length≤100)
def Aam:FT [.sl .str false] [.bool]:=fun x=>some (Ew x)
theorem Azq{l:List Str}{i:Nat}(hi:i<l.length):l.take (i+1)=l.take i++[l[i]]:=by
 rw [List.take_add_one,Zo1 hi]
 rfl
theorem Ayq{R:Type}{kx:Ex→U2→Option R}{l:List Str}{c:Bool→Option R}(hn:ln l.length) (h1:∀i,kx .ret (l,false,l,(l.length:Int),i)=c false) (h2:∀q i,kx (.exit 0) (l,q,l,(l.length:Int),i)=c true) (k:Nat) (hk:l.length<k) :
  Al (fun rec=>Uj rec kx) k (l,false,l,(l.length:Int),0)=c (Zg [] l):=by
 refine(Cy l.length (fun i=>(l,false,l,(l.length:Int),(i:Int))) (fun i=>c (Zg (l.take i) (l.drop i))) (fun i hi rec hr =>?_) (fun rec =>?_) k 0 (Nat.zero_le _) (by omega)).trans (by rw [Zq1,List.take_zero])
 ·have hu:G3 0 (i:Int) l.length=true:=by simp [G3];omega
  simp only [Uj,Gb hi,Ae,Be hi,chk,Bc (c :=.str) hi,A3 hi hn,hr,h1,Av hi,Zg,hu,Int.toNat_natCast,A17,Azq hi]
  cases Bm l[i]<;>cases (l.take i).contains l[i]<;>rfl
 ·simp only [Uj,Fz,Ah,h2]
  rw [Zk1 (Zn1 _)]
  rfl
theorem Ag1:FO 67 [.sl .str false] [.bool] Aam :=.fin 0 A8d fun l r hb hx=>⟨l.length+1,by
 simp only [Aam,Za1] at hx
 rw [←hx]
 simp only [Ag4]
 refine(Ayq (l:=l) (c:=fun b=>cond b (some (decide ((l.length:Int)≤100))) (some false)) hb.1 (fun _=>rfl) (fun _ _=>rfl) (l.length+1) (by omega)).trans ?_
 rw [show decide ((l.length:Int)≤100)=decide (l.length≤100) from Zy1.2 (by omega),Ew]
 cases Zg [] l<;>rfl⟩
theorem Ao2:∀(l seen:List Str),Zg seen l=true↔(∀s,s∈l→Bm s=true)∧l.Nodup∧∀s,s∈l→s∉seen
 |[],seen=>by simp [Zg]
 |x::l,seen=>by
  simp only [Zg,Zb1,Bool.not_eq_true',Ao2 l (seen++[x]),List.mem_cons,List.nodup_cons,List.mem_append,List.not_mem_nil,or_false,not_or]
  rw [←Bool.not_eq_true,List.contains_iff_mem]
  constructor
  ·rintro⟨⟨h1,h2⟩,h3,h4,h5⟩
   exact⟨fun s hs=>hs.elim (fun e=>by rw [e];exact h1) (h3 s),⟨fun hx=>(h5 x hx).2 rfl,h4⟩,fun s hs=>hs.elim (fun e=>by rw [e];exact h2) (fun h=>(h5 s h).1)⟩
  ·rintro⟨h1,⟨h2,h3⟩,h4⟩
   exact⟨⟨h1 x (.inl rfl),h4 x (.inl rfl)⟩,fun s hs=>h1 s (.inr hs),h3,fun s hs=>⟨h4 s (.inr hs),fun e=>h2 (by rw [←e];exact hs)⟩⟩
def Afj:Sig:=⟨19,[(0,.sl .expr false),(4,.int .i64),(7,.int .i64),(8,.int .i64)],[(1,.fn 112 [])],[],80,80,400,[],[]⟩
abbrev Qz:=List Xpr×Int×Int×Int
def Nv{R:Type}(rec:Qz→Option R) (kx:Ex→Qz→Option R) (v:Qz):Option R:=match v with
 |(v,v1,v2,v3) =>
 cond (decide (v3<v2)) (
  chk (inb v3 v.length) (
  cond (!(Bl (at' .expr v v3) 30)) (
   kx .ret (v,v3,v2,v3)) (
   rec (v,v1,v2,(wr .i64 (v3+1)))))) (
  kx (.exit 0) (v,v1,v2,v3))
def Re(R:Type) (_k:Nat):Px R:=pxO [(39,cA N3)] [] [] []
noncomputable def Wp (R:Type) (k:Nat):Px R:=pxO [(112,Az 120 600 (Re R k) Tryz.f112)] [] [(2,Ay k Afj (Nv))] []
noncomputable def Ads (R:Type) (k:Nat):Px R:=pxO [(148,Az 80 400 (Wp R k) Tryz.f148)] [] [] []
noncomputable def Ams (R:Type) (k:Nat):Px R:=pxO [(96,Az 40 200 (Ads R k) Tryz.f96)] [] [] []
def Adt(k:Nat) (x:HV [.sl .expr false]):Option (HV [.bool]):=match x with
 |l =>
 cond (decide ((l.length:Int)≤100)) (
  Al (fun rec=>Nv rec (fun e vz=>match vz with|(_,v5,_,_)=>match e with
  |.ret =>
   some (!(decide (0≤v5)))
  |.exit 0 =>
   some true
  |_=>none)) k (l,0,(l.length:Int),0)) (
  some false)
theorem A0n(k:Nat):FO 68 [.sl .expr false] [.bool] (Adt k):=fR (px:=Ams _ k) (n:=0) Tryz.func68 rfl (fun cx H=>by
 have h3:Lv cx (Re (HV [.bool]) k):=lv H (c1 H Of Af) Ab Aa
 have h2:Lv cx (Wp (HV [.bool]) k):=lv H (Aq (cR H h3 Tryz.func112 rfl (n:=0) (Ak)) Af) Ab Aa
 have hlaexprs_0:=lO H h2 (b:=lp Tryz.f148 0) (k:=k) (n:=0) (s:=Afj) (step:=Nv) (fun _ _ _ (_,_,_,_)=>by kernel_rfl) Ak
 have h1:Lv cx (Ads (HV [.bool]) k):=lv H (Aq (cR H h2 Tryz.func148 rfl (n:=1) ((B7 Ak hlaexprs_0))) Af) Ab Aa
 have h0:Lv cx (Ams (HV [.bool]) k):=lv H (Aq (cR H h1 Tryz.func96 rfl (n:=0) (Ak)) Af) Ab Aa
 exact⟨h0,Ak⟩) fun _=>by kernel_rfl
def Hi(l:List Xpr):Bool:=decide (l.length≤100)&&l.all fun e=>Bl e 30
def Zh:FT [.sl .expr false] [.bool]:=fun x=>some (Hi x)
theorem Avq{R:Type}{kx:Ex→Qz→Option R}{l:List Xpr}{c:Bool→Option R}(hn:ln l.length) (h1:∀i:Nat,kx .ret (l,(i:Int),(l.length:Int),(i:Int))=c false) (h2:∀q i,kx (.exit 0) (l,q,(l.length:Int),i)=c true) (k:Nat) (hk:l.length<k) :
  Al (fun rec=>Nv rec kx) k (l,0,(l.length:Int),0)=c (l.all fun e=>Bl e 30):=by
 refine(Cy l.length (fun i=>(l,(0:Int),(l.length:Int),(i:Int))) (fun i=>c ((l.drop i).all fun e=>Bl e 30)) (fun i hi rec hr =>?_) (fun rec =>?_) k 0 (Nat.zero_le _) (by omega)).trans (by rw [Zq1])
 ·simp only [Nv,Gb hi,Ae,Be hi,chk,Bc (c :=.expr) hi,A3 hi hn,hr,h1,Av hi,Zv1]
  cases Bl l[i] 30<;>rfl
 ·simp only [Nv,Fz,Ah,h2]
  rw [Zk1 (Zn1 _)]
  rfl
theorem Amc:FO 68 [.sl .expr false] [.bool] Zh :=.fin 0 A0n fun l r hb hx=>⟨l.length+1,by
 simp only [Zh,Za1] at hx
 rw [←hx]
 simp only [Adt,Hi]
 rw [show decide ((l.length:Int)≤100)=decide (l.length≤100) from Zy1.2 (by omega)]
 cases decide (l.length≤100) with
 |false=>rfl
 |true =>
  rw [Ae,Bool.true_and]
  exact Avq (l:=l) (c:=some) hb.1 (fun i=>by simp) (fun _ _=>rfl) (l.length+1) (by omega)⟩
def Aj0:Sig:=⟨19,[(0,.sl .exprs false),(4,.int .i64),(7,.int .i64),(8,.int .i64)],[(1,.fn 114 [])],[],80,80,400,[],[]⟩
abbrev U9:=List (List Xpr)×Int×Int×Int
def Uo{R:Type}(rec:U9→Option R) (kx:Ex→U9→Option R) (v:U9):Option R:=match v with
 |(v,v1,v2,v3) =>
 cond (decide (v3<v2)) (
  chk (inb v3 v.length) (
  cond (decide (((at' .exprs v v3).length:Int)=0)) (
   kx .ret (v,v3,v2,v3)) (
   cond (!(Hi (at' .exprs v v3))) (
   kx .ret (v,v3,v2,v3)) (
   rec (v,v1,v2,(wr .i64 (v3+1))))))) (
  kx (.exit 0) (v,v1,v2,v3))
def Ss(R:Type) (_k:Nat):Px R:=pxO [(68,cA Zh)] [] [] []
noncomputable def Aai (R:Type) (k:Nat):Px R:=pxO [(114,Az 120 600 (Ss R k) Tryz.f114)] [] [(2,Ay k Aj0 (Uo))] []
noncomputable def Aj4 (R:Type) (k:Nat):Px R:=pxO [(155,Az 80 400 (Aai R k) Tryz.f155)] [] [] []
noncomputable def Atx (R:Type) (k:Nat):Px R:=pxO [(66,cA Aab),(113,Az 40 200 (Aj4 R k) Tryz.f113)] [] [] []
def Ahm(k:Nat) (x:HV [.sl .exprs false]):Option (HV [.bool]):=match x with
 |l =>
 cond ((C7 (l.length:Int))) (
  Al (fun rec=>Uo rec (fun e vz=>match vz with|(_,v5,_,_)=>match e with
  |.ret =>
   some (!(decide (0≤v5)))
  |.exit 0 =>
   some true
  |_=>none)) k (l,0,(l.length:Int),0)) (
  some false)
theorem A7w(k:Nat):FO 69 [.sl .exprs false] [.bool] (Ahm k):=fR (px:=Atx _ k) (n:=0) Tryz.func69 rfl (fun cx H=>by
 have h3:Lv cx (Ss (HV [.bool]) k):=lv H (c1 H Amc Af) Ab Aa
 have h2:Lv cx (Aai (HV [.bool]) k):=lv H (Aq (cR H h3 Tryz.func114 rfl (n:=0) (Ak)) Af) Ab Aa
 have hlarows_0:=lO H h2 (b:=lp Tryz.f155 0) (k:=k) (n:=0) (s:=Aj0) (step:=Uo) (fun _ _ _ (_,_,_,_)=>by kernel_rfl) Ak
 have h1:Lv cx (Aj4 (HV [.bool]) k):=lv H (Aq (cR H h2 Tryz.func155 rfl (n:=1) ((B7 Ak hlarows_0))) Af) Ab Aa
 have h0:Lv cx (Atx (HV [.bool]) k):=lv H (c1 H Zp (Aq (cR H h1 Tryz.func113 rfl (n:=0) (Ak)) Af)) Ab Aa
 exact⟨h0,Ak⟩) fun _=>by kernel_rfl
def Asx(r:List Xpr):Bool := !decide (r.length=0)&&Hi r
def Anj(l:List (List Xpr)):Bool:=C7 (l.length:Int)&&l.all Asx
def Apl:FT [.sl .exprs false] [.bool]:=fun x=>some (Anj x)
theorem Axd{R:Type}{kx:Ex→U9→Option R}{l:List (List Xpr)}{c:Bool→Option R}(hn:ln l.length) (h1:∀i:Nat,kx .ret (l,(i:Int),(l.length:Int),(i:Int))=c false) (h2:∀q i,kx (.exit 0) (l,q,(l.length:Int),i)=c true) (k:Nat) (hk:l.length<k) :
  Al (fun rec=>Uo rec kx) k (l,0,(l.length:Int),0)=c (l.all Asx):=by
 refine(Cy l.length (fun i=>(l,(0:Int),(l.length:Int),(i:Int))) (fun i=>c ((l.drop i).all Asx)) (fun i hi rec hr =>?_) (fun rec =>?_) k 0 (Nat.zero_le _) (by omega)).trans (by rw [Zq1])
 ·simp only [Uo,Gb hi,Ae,Be hi,chk,Bc (c :=.exprs) hi,A3 hi hn,hr,h1,Av hi,Zv1,Asx]
  rw [show decide ((l[i].length:Int)=0)=decide (l[i].length=0) from Zy1.2 (by omega)]
  cases decide (l[i].length=0)<;>cases Hi l[i]<;>rfl
 ·simp only [Uo,Fz,Ah,h2]
  rw [Zk1 (Zn1 _)]
  rfl
theorem Bem:FO 69 [.sl .exprs false] [.bool] Apl :=.fin 0 A7w fun l r hb hx=>⟨l.length+1,by
 simp only [Apl,Za1] at hx
 rw [←hx]
 simp only [Ahm,Anj]
 cases C7 (l.length:Int) with
 |false=>rfl
 |true =>
  rw [Ae,Bool.true_and]
  exact Axd (l:=l) (c:=some) hb.1 (fun i=>by simp) (fun _ _=>rfl) (l.length+1) (by omega)⟩
def Bb9(R:Type):Px R:=pxO [(20,cA Uf)] [] [] []
def W3(x:HV [.sv .expr]):Option (HV [.bool]):=match x with
 |e =>
 some (Tq e (Xpr.mk 0 ⟨0,0,[]⟩ [] []))
theorem A66:FO 115 [.sv .expr] [.bool] (W3):=fR (px:=Bb9 _) (n:=0) Tryz.func115 rfl (fun _ H=>⟨lv H (c1 H Sz Af) Ab Aa,Ak⟩) fun _=>by kernel_rfl
def Ali(e:Xpr):Bool :=
 (Tq e (Xpr.mk 0 ⟨0,0,[]⟩ [] []))
theorem A77(x:HV [.sv .expr]):W3 x=some (Ali x):=by
 first
  |exact rfl
  |simp only [W3,Ali,Bq]
def A2q:FT [.sv .expr] [.bool]:=fun x=>some (Ali x)
theorem Baq:FO 115 [.sv .expr] [.bool] A2q :=.fin0 A66 fun x _ _ hx=>(A77 x).trans hx
theorem A9f(e:Xpr):Ali e=decide (e = .mk 0 ⟨0,0,[]⟩ [] []):=I8 e _
def A7s(R:Type):Px R:=pxO [(115,cA A2q),(39,cA N3)] [] [] []
def Sp(x:HV [.sv .stmt]):Option (HV [.bool]):=match x with
 |s =>
 cond (!s.has) (
  some (Ali (Kj s.whr))) (
  some (Bl (Kj s.whr) 30))
theorem Azu:FO 71 [.sv .stmt] [.bool] (Sp):=fR (px:=A7s _) (n:=0) Tryz.func71 rfl (fun _ H=>⟨lv H (c1 H Baq (c1 H Of Af)) Ab Aa,Ak⟩) fun _=>by kernel_rfl
def Gp(s:Stm):Bool :=
 cond (!s.has) (
  (Ali (Kj s.whr))) (
  (Bl (Kj s.whr) 30))
theorem Axh(x:HV [.sv .stmt]):Sp x=some (Gp x):=by
 first
  |exact rfl
  |simp only [Sp,Gp,Bq]
def Auo:FT [.sv .stmt] [.bool]:=fun x=>some (Gp x)
theorem A5x:FO 71 [.sv .stmt] [.bool] Auo :=.fin0 Azu fun x _ _ hx=>(Axh x).trans hx
theorem Alr(s:Stm):Gp s=cond s.has (Bl s.whr 30) (decide (s.whr = .mk 0 ⟨0,0,[]⟩ [] [])):=by
 simp only [Gp,Jn,A9f]
 cases s.has<;>rfl
def Ag2:Sig:=⟨44,[(0,.sl .col false),(2,.bool),(3,.sl .str true),(6,.sl .col false),(7,.int .i64),(8,.int .i64)],[],[],0,0,0,[],[]⟩
abbrev U4:=List Col×Bool×List Str×List Col×Int×Int
def U8{R:Type}(rec:U4→Option R) (kx:Ex→U4→Option R) (v:U4):Option R:=match v with
 |(v,v1,v2,v3,v4,v5) =>
 cond (decide (v5<v4)) (
  chk (inb v5 v3.length) (
  let j:=fun(p:Bool) =>
   cond (p) (
   kx .ret (v,false,v2,v3,v4,v5)) (
   cond (!decide (((at' .col v3 v5).ref)=[])) (
    cond (!(Bm ((at' .col v3 v5).ref))) (
    kx .ret (v,false,v2,v3,v4,v5)) (
    chk (decide (v2.length+1≤Am)) (
     rec (v,v1,(v2++[((at' .col v3 v5).name)]),v3,v4,(wr .i64 (v5+1)))))) (
    chk (decide (v2.length+1≤Am)) (
    rec (v,v1,(v2++[((at' .col v3 v5).name)]),v3,v4,(wr .i64 (v5+1))))))
  cond (decide ((at' .col v3 v5).kind<2)) (
   j true) (
   j (decide (5<(at' .col v3 v5).kind))))) (
  kx (.exit 0) (v,v1,v2,v3,v4,v5))
def Aur(R:Type) (k:Nat):Px R:=pxO [(63,cA Pq),(66,cA Aab),(67,cA Aam)] [] [(3,Ay k Ag2 (U8))] []
def Agv(k:Nat) (x:HV [.sl .col false]):Option (HV [.bool]):=match x with
 |l =>
 Al (fun rec=>U8 rec (fun e vz=>match vz with|(v6,v7,v8,_,_,_)=>match e with
  |.ret =>
  some v7
  |.exit 0 =>
  cond ((C7 (v6.length:Int))) (
   some (Ew v8)) (
   some false)
  |_=>none)) k (l,false,[],l,(l.length:Int),0)
theorem A7g(k:Nat):FO 65 [.sl .col false] [.bool] (Agv k):=fR (px:=Aur _ k) (n:=1) Tryz.func65 rfl (fun cx H=>by
 have h0:Lv cx (Aur (HV [.bool]) k):=lv H (c1 H R0 (c1 H Zp (c1 H Ag1 Af))) Ab Aa
 have hlacols_0:=lO H h0 (b:=lp Tryz.f65 0) (k:=k) (n:=0) (s:=Ag2) (step:=U8) (fun _ _ _ (_,_,_,_,_,_)=>by kernel_rfl) Ak
 exact⟨h0,(B7 Ak hlacols_0)⟩) fun _=>by kernel_rfl
def Rr(c:Col):Bool:=decide (2≤c.kind)&&decide (c.kind≤5)&&(decide (c.ref=[])||Bm c.ref)
def A3o(l:List Col):Option Bool:=if l.length≤1000000 then some (l.all Rr&&C7 (l.length:Int)&&Ew (l.map (·.name))) else none
def Aq0:FT [.sl .col false] [.bool]:=fun x=>A3o x
theorem Awy{R:Type}{kx:Ex→U4→Option R}{l:List Col}{c:Bool→Option R}(hn:l.length≤1000000) (h1:∀o i,kx .ret (l,false,o,l,(l.length:Int),i)=c false) (h2:∀q o i,kx (.exit 0) (l,q,o,l,(l.length:Int),i)=cond (C7 (l.length:Int)) (c (Ew o)) (c false)) (k:Nat) (hk:l.length<k) :
  Al (fun rec=>U8 rec kx) k (l,false,[],l,(l.length:Int),0)=c (l.all Rr&&C7 (l.length:Int)&&Ew (l.map (·.name))):=by
 have hl:ln l.length:=by simp only [ln];omega
 refine(Cy l.length (fun i=>(l,false,(l.take i).map (·.name),l,(l.length:Int),(i:Int))) (fun i=>c ((l.drop i).all Rr&&C7 (l.length:Int)&&Ew (l.map (·.name)))) (fun i hi rec hr =>?_) (fun rec =>?_) k 0 (Nat.zero_le _) (by omega)).trans (by rw [Zq1])
 ·have ht:(l.take (i+1)).map (·.name)=(l.take i).map (·.name)++[l[i].name]:=by
   rw [List.take_add_one,Zo1 hi,List.map_append]
   rfl
  have hlen:((l.take i).map (·.name)).length+1≤Am:=by simp only [List.length_map,List.length_take,Am];omega
  rw [ht] at hr
  simp only [U8,Gb hi,Ae,Be hi,chk,Bc (c :=.col) hi,A3 hi hl,hr,h1,Av hi,Zv1,Rr,Ze1 hlen]
  by_cases ha:l[i].kind<2
  ·rw [Ze1 ha,Zd1 (show ¬ 2≤l[i].kind by omega)]
   rfl
  ·rw [Zd1 ha,Ze1 (show 2≤l[i].kind by omega)]
   by_cases hb : 5<l[i].kind
   ·rw [Ze1 hb,Zd1 (show ¬l[i].kind≤5 by omega)]
    rfl
   ·rw [Zd1 hb,Ze1 (show l[i].kind≤5 by omega)]
    cases decide (l[i].ref=[])<;>cases Bm l[i].ref<;>rfl
 ·simp only [U8,Fz,Ah,h2]
  rw [Zk1 (Zn1 _),List.take_length]
  cases C7 (l.length:Int)<;>rfl
theorem Bck:FO 65 [.sl .col false] [.bool] Aq0 :=.fin 0 A7g fun l r hb hx=>⟨l.length+1,by
 simp only [Aq0,A3o] at hx
 split at hx
 ·rename_i h
  rw [←hx]
  simp only [Agv]
  refine Awy (l:=l) (c:=some) h (fun _ _=>rfl) (fun _ _ _ =>?_) (l.length+1) (by omega)
  cases C7 (l.length:Int)<;>rfl
 ·cases hx⟩
def Akn:Sig:=⟨29,[(0,.sl .set false),(2,.bool),(3,.sl .str true),(6,.sl .set false),(7,.int .i64),(8,.int .i64)],[],[],0,0,0,[],[]⟩
abbrev Vi:=List SetE×Bool×List Str×List SetE×Int×Int
def Vr{R:Type}(rec:Vi→Option R) (kx:Ex→Vi→Option R) (v:Vi):Option R:=match v with
 |(v,v1,v2,v3,v4,v5) =>
 cond (decide (v5<v4)) (
  chk (inb v5 v3.length) (
  cond (!(Bl (Kj ((at' .set v3 v5).e)) 30)) (
   kx .ret (v,false,v2,v3,v4,v5)) (
   chk (decide (v2.length+1≤Am)) (
   rec (v,v1,(v2++[((at' .set v3 v5).name)]),v3,v4,(wr .i64 (v5+1))))))) (
  kx (.exit 0) (v,v1,v2,v3,v4,v5))
def Aue(R:Type) (k:Nat):Px R:=pxO [(39,cA N3),(66,cA Aab),(67,cA Aam)] [] [(3,Ay k Akn (Vr))] []
def Ajn(k:Nat) (x:HV [.sl .set false]):Option (HV [.bool]):=match x with
 |l =>
 Al (fun rec=>Vr rec (fun e vz=>match vz with|(v6,v7,v8,_,_,_)=>match e with
  |.ret =>
  some v7
  |.exit 0 =>
  cond ((C7 (v6.length:Int))) (
   some (Ew v8)) (
   some false)
  |_=>none)) k (l,false,[],l,(l.length:Int),0)
theorem A4w(k:Nat):FO 70 [.sl .set false] [.bool] (Ajn k):=fR (px:=Aue _ k) (n:=1) Tryz.func70 rfl (fun cx H=>by
 have h0:Lv cx (Aue (HV [.bool]) k):=lv H (c1 H Of (c1 H Zp (c1 H Ag1 Af))) Ab Aa
 have hlasets_0:=lO H h0 (b:=lp Tryz.f70 0) (k:=k) (n:=0) (s:=Akn) (step:=Vr) (fun _ _ _ (_,_,_,_,_,_)=>by kernel_rfl) Ak
 exact⟨h0,(B7 Ak hlasets_0)⟩) fun _=>by kernel_rfl
def A1i(l:List SetE):Option Bool:=if l.length≤1000000 then some (l.all (fun x=>Bl x.e 30)&&C7 (l.length:Int)&&Ew (l.map (·.name))) else none
def Apy:FT [.sl .set false] [.bool]:=fun x=>A1i x
theorem Ayi{R:Type}{kx:Ex→Vi→Option R}{l:List SetE}{c:Bool→Option R}(hn:l.length≤1000000) (h1:∀o i,kx .ret (l,false,o,l,(l.length:Int),i)=c false) (h2:∀q o i,kx (.exit 0) (l,q,o,l,(l.length:Int),i)=cond (C7 (l.length:Int)) (c (Ew o)) (c false)) (k:Nat) (hk:l.length<k) :
  Al (fun rec=>Vr rec kx) k (l,false,[],l,(l.length:Int),0)=c (l.all (fun x=>Bl x.e 30)&&C7 (l.length:Int)&&Ew (l.map (·.name))):=by
 have hl:ln l.length:=by simp only [ln];omega
 refine(Cy l.length (fun i=>(l,false,(l.take i).map (·.name),l,(l.length:Int),(i:Int))) (fun i=>c ((l.drop i).all (fun x=>Bl x.e 30)&&C7 (l.length:Int)&&Ew (l.map (·.name)))) (fun i hi rec hr =>?_) (fun rec =>?_) k 0 (Nat.zero_le _) (by omega)).trans (by rw [Zq1])
 ·have ht:(l.take (i+1)).map (·.name)=(l.take i).map (·.name)++[l[i].name]:=by
   rw [List.take_add_one,Zo1 hi,List.map_append]
   rfl
  have hlen:((l.take i).map (·.name)).length+1≤Am:=by simp only [List.length_map,List.length_take,Am];omega
  rw [ht] at hr
  simp only [Vr,Gb hi,Ae,Be hi,chk,Bc (c :=.set) hi,A3 hi hl,hr,h1,Av hi,Zv1,Ze1 hlen,Jn]
  cases Bl l[i].e 30<;>rfl
 ·simp only [Vr,Fz,Ah,h2]
  rw [Zk1 (Zn1 _),List.take_length]
  cases C7 (l.length:Int)<;>rfl
theorem A9g:FO 70 [.sl .set false] [.bool] Apy :=.fin 0 A4w fun l r hb hx=>⟨l.length+1,by
 simp only [Apy,A1i] at hx
 split at hx
 ·rename_i h
  rw [←hx]
  simp only [Ajn]
  refine Ayi (l:=l) (c:=some) h (fun _ _=>rfl) (fun _ _ _ =>?_) (l.length+1) (by omega)
  cases C7 (l.length:Int)<;>rfl
 ·cases hx⟩
def noX:Xpr :=.mk 0 ⟨0,0,[]⟩ [] []
def noS:Stm:=⟨0,[],[],[],[],[],[],[],false,noX,[],[],0⟩
def Bcz(R:Type):Px R:=pxO [] [] [] []
def Ag8(x:HV [.sv .stmt]):Option (HV [.sv .stmt]):=match x with
 |s =>
 cond (decide (s.kind=1)) (
  some (Stm.mk 0 [] s.on [] [] [] s.rows s.sets s.has (Kj s.whr) s.order s.desc s.most)) (
  cond (decide (s.kind=3)) (
  some (Stm.mk 0 [] [] s.cols [] s.l s.rows s.sets s.has (Kj s.whr) s.order s.desc s.most)) (
  cond (decide (s.kind=5)) (
   some (Stm.mk 0 [] s.on s.cols s.names s.l [] s.sets s.has (Kj s.whr) s.order s.desc s.most)) (
   cond (decide (s.kind=6)) (
   some (Stm.mk 0 [] s.on s.cols s.names s.l s.rows [] false (Xpr.mk 0 ⟨0,0,[]⟩ [] []) s.order s.desc s.most)) (
   cond (decide (s.kind=7)) (
    some (Stm.mk 0 [] s.on s.cols s.names s.l s.rows s.sets false (Xpr.mk 0 ⟨0,0,[]⟩ [] []) s.order s.desc s.most)) (
    cond (decide (s.kind=8)) (
    some (Stm.mk 0 [] s.on s.cols s.names [] s.rows s.sets false (Xpr.mk 0 ⟨0,0,[]⟩ [] []) [] [] 0)) (
    some (Stm.mk 0 [] s.on s.cols s.names s.l s.rows s.sets s.has (Kj s.whr) s.order s.desc s.most)))))))
theorem A56:FO 64 [.sv .stmt] [.sv .stmt] (Ag8):=fR (px:=Bcz _) (n:=0) Tryz.func64 rfl (fun _ H=>⟨lv H Af Ab Aa,Ak⟩) fun _=>by kernel_rfl
def Gm(s:Stm):Stm :=
 if s.kind=1 then { s with kind:=0,name:=[],cols:=[],names:=[],l:=[] }
 else if s.kind=3 then { s with kind:=0,name:=[],on:=[],names:=[] }
 else if s.kind=5 then { s with kind:=0,name:=[],rows:=[] }
 else if s.kind=6 then { s with kind:=0,name:=[],sets:=[],has:=false,whr:=noX }
 else if s.kind=7 then { s with kind:=0,name:=[],has:=false,whr:=noX }
 else if s.kind=8 then { s with kind:=0,name:=[],l:=[],has:=false,whr:=noX,order:=[],desc:=[],most:=0 }
 else { s with kind:=0,name:=[] }
def Aqc:FT [.sv .stmt] [.sv .stmt]:=fun x=>some (Gm x)
theorem Bei:FO 64 [.sv .stmt] [.sv .stmt] Aqc :=.fin0 A56 fun s r hb hx=>by
 simp only [Aqc,Za1] at hx
 rw [←hx]
 simp only [Ag8,Gm,Jn,Bool.cond_decide]
 split; · rfl
 split; · rfl
 split; · rfl
 split; · rfl
 split; · rfl
 split<;>rfl
def A6d(R:Type):Px R:=pxO [(63,cA Pq),(64,cA Aqc),(27,cA At2),(65,cA Aq0),(66,cA Aab),(67,cA Aam),(68,cA Zh),(69,cA Apl),(70,cA Apy),(71,cA Auo)] [] [] []
def Adq(x:HV [.sv .stmt]):Option (HV [.int .i64]):=match x with
 |s =>
 let j7:=fun(p1:Bool) =>
  cond (decide (s.kind=1)) (
  let j1:=fun(p2:Bool) =>
   let j:=fun(p3:Bool) =>
   cond (p3) (
    cond ((Ew s.names)) (
    cond (!(Hi s.l)) (
     some 2) (
     some 0)) (
    some 2)) (
    some 2)
   cond (p2) (
   j (C7 (s.names.length:Int))) (
   j false)
  cond (p1) (
   (A3o s.cols).bind fun x =>
   j1 x) (
   j1 false)) (
  cond (decide (s.kind=3)) (
   let j2:=fun(p7:Bool) =>
   cond (p7) (
    cond ((C7 (s.names.length:Int))) (
    cond (!(Ew s.names)) (
     some 2) (
     some 0)) (
    some 2)) (
    some 2)
   cond (p1) (
   j2 (Bm s.on)) (
   j2 false)) (
   let j6:=fun(p11:Bool) =>
   cond (p11) (
    cond (!p1) (
    some 2) (
    some 0)) (
    cond (decide (s.kind=5)) (
    cond (p1) (
     cond (!(Anj s.rows)) (
     some 2) (
     some 0)) (
     some 2)) (
    cond (decide (s.kind=6)) (
     cond (p1) (
     (A1i s.sets).bind fun x1 =>
      cond (x1) (
      cond (!(Gp s)) (
       some 2) (
       some 0)) (
      some 2)) (
     some 2)) (
     cond (decide (s.kind=7)) (
     cond (p1) (
      cond (!(Gp s)) (
      some 2) (
      some 0)) (
      some 2)) (
     cond (decide (s.kind=8)) (
      let j5:=fun(p17:Bool) =>
      let j4:=fun(p18:Bool) =>
       let j3:=fun(p19:Bool) =>
       cond (p19) (
        cond (decide ((s.desc.length:Int)=(s.order.length:Int))) (
        cond (!(decide ((-1)≤s.most))) (
         some 2) (
         some 0)) (
        some 2)) (
        some 2)
       cond (p18) (
       j3 (Ew s.order)) (
       j3 false)
      cond (p17) (
       j4 (Gp s)) (
       j4 false)
      cond (p1) (
      j5 (Hi s.l)) (
      j5 false)) (
      some 2)))))
   cond (decide (s.kind=2)) (
   j6 (decide (s.kind=2))) (
   j6 (decide (s.kind=4)))))
 cond ((Bm s.name)) (
  j7 (Aw4 (Gm s) (Stm.mk 0 [] [] [] [] [] [] [] false (Xpr.mk 0 ⟨0,0,[]⟩ [] []) [] [] 0))) (
  j7 false)
theorem Az7:FO 25 [.sv .stmt] [.int .i64] (Adq):=fR (px:=A6d _) (n:=0) Tryz.func25 rfl (fun _ H=>⟨lv H (c1 H R0 (c1 H Bei (c1 H A4y (c1 H Bck (c1 H Zp (c1 H Ag1 (c1 H Amc (c1 H Bem (c1 H A9g (c1 H A5x Af)))))))))) Ab Aa,Ak⟩) fun _=>by kernel_rfl
def Je(s:Stm):Bool:=Bm s.name&&decide (Gm s=noS)&&(
 if s.kind=1 then s.cols.all Rr&&C7 (s.cols.length:Int)&&Ew (s.cols.map (·.name))&&C7 (s.names.length:Int)&&Ew s.names&&Hi s.l
 else if s.kind=3 then Bm s.on&&C7 (s.names.length:Int)&&Ew s.names
 else if s.kind=2∨s.kind=4 then true
 else if s.kind=5 then Anj s.rows
 else if s.kind=6 then s.sets.all (fun x=>Bl x.e 30)&&C7 (s.sets.length:Int)&&Ew (s.sets.map (·.name))&&Gp s
 else if s.kind=7 then Gp s
 else if s.kind=8 then Hi s.l&&Gp s&&Ew s.order&&decide (s.desc.length=s.order.length)&&decide (-1≤s.most)
 else false)
def J8(s:Stm):Option Int:=if s.cols.length≤1000000∧s.sets.length≤1000000 then some (cond (Je s) 0 2) else none
def T5:FT [.sv .stmt] [.int .i64]:=fun x=>J8 x
theorem Aco:FO 25 [.sv .stmt] [.int .i64] T5 :=.fin0 Az7 fun s r hb hx=>by
 simp only [T5,J8] at hx
 split at hx
 case isFalse=>cases hx
 rename_i h
 rw [←hx]
 have e1:A3o s.cols=some (s.cols.all Rr&&C7 (s.cols.length:Int)&&Ew (s.cols.map (·.name))):=if_pos h.1
 have e2:A1i s.sets=some (s.sets.all (fun x=>Bl x.e 30)&&C7 (s.sets.length:Int)&&Ew (s.sets.map (·.name))):=if_pos h.2
 have e3:Aw4 (Gm s) (Stm.mk 0 [] [] [] [] [] [] [] false (Xpr.mk 0 ⟨0,0,[]⟩ [] []) [] [] 0)=decide (Gm s=noS):=A5u _ _
 have e4:decide ((s.desc.length:Int)=(s.order.length:Int))=decide (s.desc.length=s.order.length):=Zy1.2 (by omega)
 simp only [Adq,Je,e1,e2,e3,e4,Zc1]
 generalize Bm s.name=A
 generalize decide (Gm s=noS)=B
 generalize (s.cols.all Rr&&C7 (s.cols.length:Int)&&Ew (s.cols.map (·.name)))=C
 generalize C7 (s.names.length:Int)=D
 generalize Ew s.names=E
 generalize Hi s.l=F
 generalize Bm s.on=G
 generalize Anj s.rows=H
 generalize (s.sets.all (fun x=>Bl x.e 30)&&C7 (s.sets.length:Int)&&Ew (s.sets.map (·.name)))=I
 generalize Gp s=J
 generalize Ew s.order=K
 generalize decide (s.desc.length=s.order.length)=L
 generalize decide (-1≤s.most)=M
 by_cases h1:s.kind=1
 ·rw [Ze1 h1,if_pos h1]
  cases A<;>cases B<;>cases C<;>cases D<;>cases E<;>cases F<;>rfl
 rw [Zd1 h1,if_neg h1]
 by_cases h3:s.kind=3
 ·rw [Ze1 h3,if_pos h3]
  cases A<;>cases B<;>cases G<;>cases D<;>cases E<;>rfl
 rw [Zd1 h3,if_neg h3]
 by_cases h24:s.kind=2∨s.kind=4
 ·rw [if_pos h24]
  rcases h24 with h2|h2
  ·rw [Ze1 h2]
   cases A<;>cases B<;>rfl
  ·rw [Ze1 h2,Zd1 (show ¬s.kind=2 by omega)]
   cases A<;>cases B<;>rfl
 rw [if_neg h24,Zd1 (show ¬s.kind=2 by omega),Zd1 (show ¬s.kind=4 by omega)]
 by_cases h5:s.kind=5
 ·rw [Ze1 h5,if_pos h5]
  cases A<;>cases B<;>cases H<;>rfl
 rw [Zd1 h5,if_neg h5]
 by_cases h6:s.kind=6
 ·rw [Ze1 h6,if_pos h6]
  cases A<;>cases B<;>cases I<;>cases J<;>rfl
 rw [Zd1 h6,if_neg h6]
 by_cases h7:s.kind=7
 ·rw [Ze1 h7,if_pos h7]
  cases A<;>cases B<;>cases J<;>rfl
 rw [Zd1 h7,if_neg h7]
 by_cases h8:s.kind=8
 ·rw [Ze1 h8,if_pos h8]
  cases A<;>cases B<;>cases F<;>cases J<;>cases K<;>cases L<;>cases M<;>rfl
 rw [Zd1 h8,if_neg h8]
 cases A<;>cases B<;>rfl
end Go.Proofs.YthndhaolemgbdaaGreatDoor
namespace Go.Proofs.YthndhaolemgbdaaGreatDoor
open Go.Ax Go.RowKit
def Awh:List Nat:=[80,82]
abbrev Bol:TypeId:=80
theorem A00:(Tryz.prog.info? Bol).map (·.size)=some 2:=by kernel_rfl
theorem Bij(T:TypeId) (h:T∈Awh):liesAt Tryz.prog Tryz.prog.depth T (2 / Tryz.prog.cellsOf T) 0 Bol 1=true:=by
 simp only [Awh,List.mem_cons,List.not_mem_nil,or_false] at h
 rcases h with rfl|rfl<;>kernel_rfl
set_option maxRecDepth 100000 in
theorem Bfs(b:Nat) (w:World) (h0:w.cell? ⟨b,0,none⟩=some (.pointer (some ⟨b,0,none⟩))) :
  Calls Tryz.prog 152 #[.pointer (some ⟨b,0,none⟩)] w fun e w'=>e = .returned (.tuple #[])∧w' = w:=by
 obtain⟨j,hj,_⟩:=Option.map_eq_some_iff.1 A00
 have mixed:=follows
 have t1:=Tryz.underlying77
 have t2:=Tryz.underlying80
 have u1:=run_underlying (P:=Tryz.prog) t1
 have u2:=run_underlying (P:=Tryz.prog) t2
 go_enter Tryz.func152,Tryz.ntmps152
 go_wp2
 rw [Lib.run_neq_ptr_same w _ t1 hj]
 go_wp2
 go_end0
 exact⟨rfl,rfl⟩
set_option maxRecDepth 100000 in
theorem Bey(b:Nat) (T:TypeId) (hT:T∈Awh) (w:World) (h0:w.cell? ⟨b,0,none⟩=some (.pointer none)) (hsh:w.shape? b=some (T,2)) (hfz:w.frozen? ⟨b,0,none⟩=false) :
  Calls Tryz.prog 152 #[.pointer (some ⟨b,0,none⟩)] w fun e w'=>e = .returned (.tuple #[])∧w' = w.setCell ⟨b,0,none⟩ (.pointer (some ⟨b,0,none⟩)):=by
 obtain⟨j,hj,hjs⟩:=Option.map_eq_some_iff.1 A00
 have mixed:=follows
 have t1:=Tryz.underlying77
 have t2:=Tryz.underlying80
 have t3:=Tryz.underlying205
 have u1:=run_underlying (P:=Tryz.prog) t1
 have u2:=run_underlying (P:=Tryz.prog) t2
 have u3:=run_underlying (P:=Tryz.prog) t3
 go_enter Tryz.func152,Tryz.ntmps152
 go_wp2
 rw [Lib.run_to_unsafe w ⟨b,0,none⟩ t1 t3 hj (by rw [hjs];decide) hsh (Nat.zero_lt_succ 1)]
 simp only [Result.andThen]
 rw [Oper.upon_value]
 go_wp2
 rw [run_callFunc_extern Tryz.func172 (by kernel_rfl) (by kernel_rfl) (by kernel_rfl) (e:=Extern.AbiNoEscape.same) (by kernel_rfl)]
 rw [Lib.run_noEscape]
 simp only [Result.andThen]
 rw [Oper.upon_value]
 go_wp2
 rw [Lib.run_from_unsafe w ⟨b,0,none⟩ t3 t1 hj hsh (Bij T hT)]
 simp only [Result.andThen]
 rw [Oper.upon_value]
 go_wp2
 go_end0
 exact⟨rfl,rfl⟩
theorem A53:Sx.Enters Tryz.prog 152:=Sx.enters_of Tryz.func152 rfl (by kernel_rfl)
theorem Bnn:∀T,T∈Awh→∀(b:Nat) (w:World) (a v:Value),w.heap[b]? = some (.cells #[a,v] T (0,0))→(a = .pointer none∨a = .pointer (some ⟨b,0,none⟩))→Calls Tryz.prog 152 #[.pointer (some ⟨b,0,none⟩)] w fun e w'=>e = .returned (.tuple #[])∧(w' = w∨w' = w.setCell ⟨b,0,none⟩ (.pointer (some ⟨b,0,none⟩))):=by
 intro T hT b w a v hh ha
 have c0:w.cell? ⟨b,0,none⟩=some a:=by simp [World.cell?,hh]
 rcases ha with rfl|rfl
 ·refine(Bey b T hT w c0 (by simp [World.shape?,hh]) (by simp [World.frozen?,hh])).mono ?_
  rintro e w' ⟨rfl,rfl⟩
  exact⟨rfl,.inr rfl⟩
 ·refine(Bfs b w c0).mono ?_
  rintro e w' ⟨rfl,rfl⟩
  exact⟨rfl,.inl rfl⟩
theorem Az6(w:World) (g n k:Nat):Chg (fun b i=>b=g∧k≤i) w (w.freeze ⟨g,0,none⟩ n):=by
 unfold World.freeze
 split
 ·exact Chg.refl _ _
 ·have hne:∀(q:Nat),q≠g→∀F:Obj→Obj,(w.heap.modify g F)[q]? = w.heap[q]? := fun q hq F=>by
   rw [Array.getElem?_modify,if_neg (Ne.symm hq)]
  refine⟨rfl,rfl,rfl,by simp,fun q _ hq2=>hne q (fun e=>hq2 k ⟨e,Zn1 _⟩) _,fun b i v hv _ =>?_,fun b cs t f hb =>?_⟩
  ·by_cases hbg:b=g
   ·subst hbg
    unfold World.cell? at hv ⊢
    simp only [Array.getElem?_modify,if_true] at hv ⊢
    cases hh:w.heap[b]? with
    |none=>rw [hh] at hv;cases hv
    |some o =>
     rw [hh] at hv
     cases o with
     |cells c e f=>obtain⟨lo,hi⟩:=f;exact hv
     |_=>cases hv
   ·rw [World.cell?_of_block (a:=⟨b,i,none⟩) (hne b hbg _)]
    exact hv
  ·by_cases hbg:b=g
   ·subst hbg
    obtain⟨lo,hi⟩:=f
    exact⟨cs,_,by simp only [Array.getElem?_modify,if_true,hb];rfl,rfl⟩
   ·exact⟨cs,f,by rw [hne b hbg];exact hb,rfl⟩
theorem cellsByte:Tryz.prog.cellsOf 5=1:=by kernel_rfl
set_option maxHeartbeats 2000000 in
set_option maxRecDepth 100000 in
theorem Av0(b g cap n:Nat) (w:World) (s:ByteArray) (hcap:cap≠0) (hc:w.cell? ⟨b,1,none⟩=some (.slice (some ⟨g,0,none⟩) n cap)) (hUS:(Builtin.unsafeString_ #[148,3] 9 #[.pointer (some ⟨g,0,none⟩),.int .i64 n]).run Tryz.prog w.drew = .ok (.string s) (w.drew.freeze ⟨g,0,none⟩ n)) :
  Calls Tryz.prog 41 #[.pointer (some ⟨b,0,none⟩)] w fun e w'=>e = .returned (.string s)∧w' = w.drew.freeze ⟨g,0,none⟩ n:=by
 have c1:w.drew.cell? ⟨b,1,none⟩=some (.slice (some ⟨g,0,none⟩) n cap):=hc
 have hSD:(Builtin.unsafeSliceData_ #[78] 148 #[.slice (some ⟨g,0,none⟩) n cap]).run Tryz.prog w.drew = .ok (.pointer (some ⟨g,0,none⟩)) w.drew:=Lib.run_unsafeSliceData_row _ _ _ _ _ _ hcap
 clear hcap
 have mixed:=follows
 have t1:=Tryz.underlying77
 have t2:=Tryz.underlying80
 have t3:=Tryz.underlying78
 have t4:=Tryz.underlying148
 have t5:=Tryz.underlying3
 have t6:=Tryz.underlying9
 have u1:=run_underlying (P:=Tryz.prog) t1
 have u2:=run_underlying (P:=Tryz.prog) t2
 have u3:=run_underlying (P:=Tryz.prog) t3
 have u4:=run_underlying (P:=Tryz.prog) t4
 have u5:=run_underlying (P:=Tryz.prog) t5
 have u6:=run_underlying (P:=Tryz.prog) t6
 go_enter Tryz.func41,Tryz.ntmps41
 go_wp2
 go_region_o
 all_goals (go_wp2;go_ret;exact⟨rfl,rfl⟩)
theorem Ar4(W:World) (q:Option Addr):(Builtin.unsafeString_ #[148,3] 9 #[.pointer q,.int .i64 0]).run Tryz.prog W = .ok (.string .empty) W:=Lib.run_unsafeString_none W _ _ _ q
set_option maxHeartbeats 2000000 in
set_option maxRecDepth 100000 in
theorem Bfw(b:Nat) (w:World) (hc:w.cell? ⟨b,1,none⟩=some (.slice none 0 0)) :
  Calls Tryz.prog 41 #[.pointer (some ⟨b,0,none⟩)] w fun e w'=>e = .returned (.string ⟨#[]⟩)∧w' = w.drew:=by
 have hUS:=Ar4
 have c1:w.drew.cell? ⟨b,1,none⟩=some (.slice none 0 0):=hc
 have hSD:(Builtin.unsafeSliceData_ #[78] 148 #[.slice none 0 0]).run Tryz.prog w.drew = .ok (.pointer none) w.drew:=rfl
 have mixed:=follows
 have t1:=Tryz.underlying77
 have t2:=Tryz.underlying80
 have t3:=Tryz.underlying78
 have t4:=Tryz.underlying148
 have t5:=Tryz.underlying3
 have t6:=Tryz.underlying9
 have u1:=run_underlying (P:=Tryz.prog) t1
 have u2:=run_underlying (P:=Tryz.prog) t2
 have u3:=run_underlying (P:=Tryz.prog) t3
 have u4:=run_underlying (P:=Tryz.prog) t4
 have u5:=run_underlying (P:=Tryz.prog) t5
 have u6:=run_underlying (P:=Tryz.prog) t6
 go_enter Tryz.func41,Tryz.ntmps41
 go_wp2
 go_region_o
 all_goals (go_wp2;go_ret;exact⟨rfl,rfl⟩)
set_option maxHeartbeats 2000000 in
set_option maxRecDepth 100000 in
theorem Ay3(b g:Nat) (w:World) (cur:Array Value) (hlt:b<w.heap.size) (hc:w.cell? ⟨b,1,none⟩=some (.slice (some ⟨g,0,none⟩) 0 0)) (hg:w.heap[g]? = some (.cells cur 5 (0,0))) :
  Calls Tryz.prog 41 #[.pointer (some ⟨b,0,none⟩)] w fun e w'=>e = .returned (.string ⟨#[]⟩)∧Chg Fw w w':=by
 have hUS:=Ar4
 have c1:w.drew.cell? ⟨b,1,none⟩=some (.slice (some ⟨g,0,none⟩) 0 0):=hc
 have t4:=Tryz.underlying148
 have hSD:(Builtin.unsafeSliceData_ #[78] 148 #[.slice (some ⟨g,0,none⟩) 0 0]).run Tryz.prog w.drew = .ok (.pointer (some ⟨w.drew.heap.size,0,none⟩)) (w.drew.alloc (.view ⟨g,0,none⟩ 5)) :=
  Lib.run_unsafeSliceData_zero w.drew _ _ 5 t4 ⟨g,0,none⟩ 0 (5,cur.size) (by have hg':w.drew.heap[g]? = some (.cells cur 5 (0,0)):=hg;simp [World.shape?,hg'])
 have c2:(w.drew.alloc (.view ⟨g,0,none⟩ 5)).cell? ⟨b,1,none⟩=some (.slice (some ⟨g,0,none⟩) 0 0):=by
  rw [World.cell?_of_block (a:=⟨b,1,none⟩) (Below.heap_alloc w.drew _ _ hlt)]
  exact c1
 have c3:(w.alloc (.view ⟨g,0,none⟩ 5)).drew.cell? ⟨b,1,none⟩=some (.slice (some ⟨g,0,none⟩) 0 0):=c2
 have c0:w.cell? ⟨b,1,none⟩=some (.slice (some ⟨g,0,none⟩) 0 0):=c1
 have mixed:=follows
 have t1:=Tryz.underlying77
 have t2:=Tryz.underlying80
 have t3:=Tryz.underlying78
 have t5:=Tryz.underlying3
 have t6:=Tryz.underlying9
 have u1:=run_underlying (P:=Tryz.prog) t1
 have u2:=run_underlying (P:=Tryz.prog) t2
 have u3:=run_underlying (P:=Tryz.prog) t3
 have u4:=run_underlying (P:=Tryz.prog) t4
 have u5:=run_underlying (P:=Tryz.prog) t5
 have u6:=run_underlying (P:=Tryz.prog) t6
 go_enter Tryz.func41,Tryz.ntmps41
 go_wp2
 go_region_o
 all_goals (go_wp2;go_ret;exact⟨rfl,(Chg.drew Fw w).trans (Chg.alloc Fw w.drew _)⟩)
theorem Bhj{cx:Cx}{m:Mp}{a:Act}{rs:List Act}{st:St}{w w':World}(hr:Rel cx m a rs (fs st) w) (hch:Chg (Du m (fs st)) w w') {d:D}{v:Value}(hd:Rep (vx cx m (fs { st with n:=1,env:=[(0,d)],bl:=[],tk:=[] }) w') d v):Rel cx m ⟨#[v],[]⟩ rs (fs { st with n:=1,env:=[(0,d)],bl:=[],tk:=[] }) w':=by
 have hnf:∀b i,¬Du m (fs { st with n:=1,env:=[(0,d)],bl:=[],tk:=[] }) b i:=by
  rintro b i (⟨q,hq,_⟩|⟨t,o,h1,_,_⟩)
  ·exact hq rfl
  ·simp [fs] at h1
 have nx:Nx (vx cx m (fs st) w) (vx cx m (fs { st with n:=1,env:=[(0,d)],bl:=[],tk:=[] }) w'):=by
  refine⟨hch.mono fun b i hi =>.inr hi,?_,rfl,fun _ _=>rfl,Zn1 _,Zn1 _,fun t _ ha =>?_⟩
  ·rintro b i (h|h)
   ·exact .inl (.inl h)
   ·exact absurd h (hnf b i)
  ·simp [vx,fs] at ha
 have h1:Rel cx m a rs { fs st with bl:=fun _=>none,al:=fun _=>False } w':=by
  refine hr.step (s':={ fs st with bl:=fun _=>none,al:=fun _=>False }) rfl rfl rfl rfl rfl hch ?_ (fun b k hk=>by cases hk) (fun t ht=>ht.elim) (fun b b' h=>absurd rfl h) (fun t t' g o o' h=>h.elim) (fun b t g o h=>absurd rfl h) (fun b i hi =>?_)
  ·refine⟨hch.mono fun b i hi =>.inr hi,?_,rfl,fun _ _=>rfl,Zn1 _,Zn1 _,fun t _ ha=>ha.elim⟩
   rintro b i (h|⟨q,hq,_⟩|⟨t,o,h1,_,_⟩)
   ·exact .inl (.inl h)
   ·exact absurd rfl hq
   ·exact h1.elim
  ·rcases hi with ⟨q,hq,_⟩|⟨t,o,h1,_,_⟩
   ·exact absurd rfl hq
   ·exact h1.elim
 have hal:(fs { st with n:=1,env:=[(0,d)],bl:=[],tk:=[] }).al=fun _=>False:=by
  funext t;simp [fs]
 have e:fs { st with n:=1,env:=[(0,d)],bl:=[],tk:=[] }={ (fs { st with n:=1,env:=[(0,d)],bl:=[],tk:=[] }) with al:=fun _=>False }:=by
  rw [←hal]
 rw [e] at hd ⊢
 refine⟨h1.chg,⟨rfl,rfl,fun k d' hk =>?_⟩,h1.frs,h1.lb,h1.lt,h1.blks,h1.als,h1.inj,h1.injt,h1.injbt,h1.own,h1.away,h1.glb⟩
 have hk:get [(0,d)] k=some d':=hk
 rw [Cq] at hk
 by_cases h0:k=0
 ·subst h0
  simp only [if_true,Za1] at hk
  subst hk
  exact⟨v,rfl,hd⟩
 ·rw [if_neg h0] at hk
  cases hk
abbrev wT:TypeId:=82
def bstr_si:Sig:=⟨1,[],[(0,.ptr 0 0)],[(0,.bld wT)],1,1,0,[],[]⟩
def Afz:Sig:=⟨1,[(0,.str)],[],[],1,1,0,[],[]⟩
abbrev Bmm:=List UInt8
abbrev Bj5:=Str
def H4:Bmm→Option Bj5:=fun x=>some x
theorem A1j:FnLn Tryz.prog elT glT 41 bstr_si Afz H4:=by
 refine⟨Sx.enters_of Tryz.func41 rfl (by kernel_rfl),fun(l:List UInt8) r hx _ cx m vs af w h1 h2 h3 hr =>?_⟩
 obtain rfl:l=r:=Option.some.inj hx
 obtain⟨_,hb⟩:=hr.blks 0 (.bld wT (.sl .byte l (.id 0))) rfl
 obtain⟨_,a,v,hh,ha,hrep⟩:=hb
 obtain⟨u,hu,hup⟩:=hr.env.get 0 (.ptr 0 0) rfl
 have hsz:vs.toArray.size=1:=hr.env.size
 have hvs:vs=[u]:=by
  match vs,hsz,hu with
  |[y],_,hu=>simpa using hu
 subst hvs
 simp only [Rep] at hup hrep
 obtain⟨_,rfl⟩:=hup
 obtain⟨hrf,_,htk⟩:=hrep
 have htk:=htk (show(fs (Ev bstr_si [Gn bstr_si] l)).al 0 by simp [fs,Ev,bstr_si,Sig.sgs,Ak3,Br,Bs.sgs,Ak6])
 have hh:w.heap[m.bl 0]? = some (.cells #[a,v] wT (0,0)):=hh
 have hblt:m.bl 0<w.heap.size:=(Zh2.1 hh).1
 have hlen:l.length≤maxLen:=hrf.here.len
 have c1:w.cell? ⟨m.bl 0,1,none⟩=some v:=by simp [World.cell?,hh]
 have done:(Calls Tryz.prog 41 #[.pointer (some ⟨m.bl 0,0,none⟩)] w fun e w'=>e = .returned (.string ⟨l.toArray⟩)∧Chg (Du m (fs (Ev bstr_si [Gn bstr_si] l))) w w')→Calls Tryz.prog 41 ([.pointer (some ⟨m.bl 0,0,none⟩)]:List Value).toArray w fun en w'=>∃us st' m',en = .returned (Sx.resv us)∧(∀k,(bstr_si.bl.map (·.1)).contains k=true→m'.bl k=m.bl k)∧M2 Afz st' = some l∧Rel cx m' ⟨us.toArray,[]⟩ [af] (fs st') w':=fun hc=>by
  refine hc.mono ?_
  rintro e w' ⟨rfl,hch⟩
  exact⟨[.string ⟨l.toArray⟩],{ Ev bstr_si [Gn bstr_si] l with n:=1,env:=[(0,.str l)],bl:=[],tk:=[] },m,rfl,fun _ _=>rfl,rfl,Bhj hr hch (by simp only [Rep];exact⟨trivial,hlen⟩)⟩
 refine done ?_
 rcases htk with ⟨rfl,_,rfl⟩|⟨g,cap,cur,rfl,ht,hg,hcs,hle,hcm⟩
 ·refine(Bfw (m.bl 0) w c1).mono ?_
  rintro e w' ⟨rfl,rfl⟩
  exact⟨rfl,Chg.drew _ w⟩
 ·have ht:m.tk 0=some (g,l.length*1):=ht
  have hel:(vx cx m (fs (Ev bstr_si [Gn bstr_si] l)) w).el .byte=5:=by
   show cx.el .byte=_
   rw [h2];rfl
  rw [hel] at hg
  have hg:w.heap[g]? = some (.cells cur 5 (0,0)):=hg
  have hcs:cur.size=cap*1:=hcs
  by_cases hl0:l=[]
  ·subst hl0
   by_cases hc0:cap=0
   ·subst hc0
    refine(Ay3 (m.bl 0) g w cur hblt c1 hg).mono ?_
    rintro e w' ⟨rfl,hch⟩
    exact⟨rfl,hch.mono fun _ _ h=>h.elim⟩
   ·refine(Av0 (m.bl 0) g cap 0 w .empty hc0 c1 (Ar4 _ _)).mono ?_
    rintro e w' ⟨rfl,rfl⟩
    exact⟨rfl,Chg.drew _ w⟩
  ·have hcells:∀(j:Nat) x,l[j]? = some x→w.cell? ⟨g,j,none⟩=some (.int .u8 x.toNat):=fun j x hj=>by
    obtain⟨a',cap',e1,h|⟨b0,o0,e2,_,h4⟩⟩:=hrf.here.slice
    ·exact absurd h hl0
    ·simp only [Value.slice.injEq] at e1
     rw [e2] at e1
     simp only [Za1,Addr.mk.injEq] at e1
     obtain⟨⟨rfl,rfl,_⟩,_⟩:=e1
     obtain⟨u,hu,hf⟩:=h4 j x hj 0 _ rfl
     have e3 : 0+j*csz .byte+0=j:=by simp [csz]
     rw [e3] at hu
     cases hf
     exact hu
   have hn0:l.length≠0:=fun e=>hl0 (List.eq_nil_of_length_eq_zero e)
   have hUS:=Lib.run_unsafeString_row w.drew 148 3 9 5 Tryz.underlying148 cellsByte g cur.size (by have hg':w.drew.heap[g]? = some (.cells cur 5 (0,0)):=hg;simp [World.shape?,hg']) l hl0 (by omega) (by unfold maxLen at hcm;omega) (fun j x hj=>by
    have e:(⟨g,0,none⟩:Addr).add j=⟨g,j,none⟩:=by
     unfold Addr.add
     by_cases hj0:j=0
     ·subst hj0;simp
     ·simp [hj0]
    rw [e]
    exact hcells j x hj)
   refine(Av0 (m.bl 0) g cap l.length w ⟨l.toArray⟩ (by omega) c1 hUS).mono ?_
   rintro e w' ⟨rfl,rfl⟩
   refine⟨rfl,(Chg.drew _ w).trans ((Az6 w.drew g l.length (l.length*1)).mono fun b i hi =>?_)⟩
   obtain⟨rfl,hi⟩:=hi
   exact .inr ⟨0,l.length*1,by simp [fs,Ev,bstr_si,Sig.sgs,Ak3,Br,Bs.sgs,Ak6],ht,hi⟩
def Adg:Sig:=⟨2,[(1,.str)],[(0,.ptr 0 0)],[(0,.bld 82)],1,1,0,[],[]⟩
def Acj:Sig:=⟨2,[],[],[(0,.bld 82)],1,1,0,[],[]⟩
abbrev Avi:=Str×List UInt8
abbrev Atq:=List UInt8
def A68(R:Type):Px R:=pxO [(152,A0i Awh)] [] [] []
def Adx(x:Avi):Option (Atq):=match x with
 |(s,out) =>
 chk (decide (out.length+s.length≤Am)) (
  some (out++s))
theorem Ax3:FM 104 Adg Acj (Adx):=fRL (px:=A68 _) (n:=0) Tryz.func104 rfl (fun _ H=>⟨lv H (Aq (Bm0 (by rw [H.p];exact A53) (by rw [H.p];exact Bnn)) Af) Ab Aa,Ak⟩) fun(_,_)=>by kernel_rfl
def Apg(s out:Str):Option Str:=if out.length+s.length≤Am then some (out++s) else none
def Td:Avi→Option Atq:=fun x=>Apg x.1 x.2
theorem A44:FM 104 Adg Acj Td :=.fin0 Ax3 fun(s,out) r hb hx=>by
 simp only [Td,Apg] at hx
 split at hx
 ·rename_i h
  simp only [Adx]
  rw [Ze1 h]
  exact hx
 ·cases hx
end Go.Proofs.YthndhaolemgbdaaGreatDoor
namespace Go.Proofs
open Go.Shelf
def Tryz.laysRJ_ren:Go.Shelf.Ren:=⟨fun|156=>105|165=>153|166=>104|169=>41|240=>152|241=>173|276=>172|277=>190|n=>n,fun|0=>0|3=>3|4=>4|5=>5|9=>9|20=>20|31=>34|37=>78|70=>77|72=>80|75=>153|76=>154|80=>84|127=>148|164=>205|n=>n,fun n=>n⟩
theorem Tryz.laysRJ:Go.Proofs.Lays.n156 Tryz.prog Tryz.laysRJ_ren:={
 mixed:=by kernel_rfl
 f156:=Tryz.func105.trans (congrArg some (by kernel_rfl))
 f165:=Tryz.func153.trans (congrArg some (by kernel_rfl))
 f166:=Tryz.func104.trans (congrArg some (by kernel_rfl))
 f169:=Tryz.func41.trans (congrArg some (by kernel_rfl))
 f240:=Tryz.func152.trans (congrArg some (by kernel_rfl))
 f241:=Tryz.func173.trans (congrArg some (by kernel_rfl))
 f276:=Tryz.func172.trans (congrArg some (by kernel_rfl))
 f277:=Tryz.func190.trans (congrArg some (by kernel_rfl))
 t0:=Tryz.underlying0
 a0:=Tryz.isAgg0
 z0:=Tryz.sizeOf0
 v0:=Tryz.zeroValue0
 t3:=Tryz.underlying3
 a3:=Tryz.isAgg3
 z3:=Tryz.sizeOf3
 v3:=Tryz.zeroValue3
 t4:=Tryz.underlying4
 a4:=Tryz.isAgg4
 z4:=Tryz.sizeOf4
 v4:=Tryz.zeroValue4
 t9:=Tryz.underlying9
 a9:=Tryz.isAgg9
 z9:=Tryz.sizeOf9
 v9:=Tryz.zeroValue9
 t20:=Tryz.underlying20
 a20:=Tryz.isAgg20
 z20:=Tryz.sizeOf20
 v20:=Tryz.zeroValue20
 t31:=Tryz.underlying34
 a31:=Tryz.isAgg34
 z31:=Tryz.sizeOf34
 v31:=Tryz.zeroValue34
 t37:=Tryz.underlying78
 a37:=Tryz.isAgg78
 z37:=Tryz.sizeOf78
 v37:=Tryz.zeroValue78
 t70:=Tryz.underlying77
 a70:=Tryz.isAgg77
 z70:=Tryz.sizeOf77
 v70:=Tryz.zeroValue77
 t72:=Tryz.underlying80
 a72:=Tryz.isAgg80
 z72:=Tryz.sizeOf80
 v72:=Tryz.zeroValue80
 t75:=Tryz.underlying153
 a75:=Tryz.isAgg153
 z75:=Tryz.sizeOf153
 v75:=Tryz.zeroValue153
 t76:=Tryz.underlying154
 a76:=Tryz.isAgg154
 z76:=Tryz.sizeOf154
 v76:=Tryz.zeroValue154
 t127:=Tryz.underlying148
 a127:=Tryz.isAgg148
 z127:=Tryz.sizeOf148
 v127:=Tryz.zeroValue148
 t164:=Tryz.underlying205
 a164:=Tryz.isAgg205
 z164:=Tryz.sizeOf205
 v164:=Tryz.zeroValue205 }
theorem Tryz.extraRJ:Builder.Extra Tryz.prog Tryz.laysRJ_ren:={
 sizeBuilder:=by kernel_rfl
 liesBuilder:=by kernel_rfl
 t5:=Tryz.underlying5
 a5:=Tryz.isAgg5
 z5:=Tryz.sizeOf5
 v5:=Tryz.zeroValue5
 infoByte:=by kernel_rfl
 cellsByte:=by kernel_rfl
 sizeByte:=by kernel_rfl
 neB5:=by decide }
end Go.Proofs
namespace Go.Proofs.YthndhaolemgbdaaGreatDoor
open Go.Ax Go.RowKit
def A35(l:List Str) (sep:Str):Option Str:=if l.length≤1000000∧(Lib.join l sep).length≤1000000000 then some (Lib.join l sep) else none
def Apv:FT [.sl .str false,.str] [.str]:=fun x=>A35 x.1 x.2
theorem A87:FO 105 [.sl .str false,.str] [.str] Apv:=by
 refine⟨Sx.enters_of Tryz.func105 rfl (by kernel_rfl),fun x r hx w M vs hM hgl hr =>?_⟩
 obtain⟨l,sep⟩:=x
 simp only [Apv,A35] at hx
 split at hx
 case isFalse=>cases hx
 rename_i hc
 obtain⟨h1,h2⟩:=hc
 obtain rfl:=Option.some.inj hx
 simp only [Cp,Dk,Reps,Rep] at hr
 obtain⟨u,us,rfl,⟨hrf,_⟩,u2,us2,rfl,⟨rfl,_⟩,rfl⟩:=hr
 have key:Calls Tryz.prog 105 #[u,.string ⟨sep.toArray⟩] w fun e w'=>e = .returned (.string ⟨(Lib.join l sep).toArray⟩)∧Below w.heap.size w w':=by
  obtain⟨a,cap,rfl,h⟩:=hrf.here.slice
  rcases h with rfl|⟨b,o,rfl,⟨hle,hcm⟩,hat⟩
  ·have c:=Any.strings_Join_none Tryz.laysRJ Tryz.extraRJ a cap ⟨sep.toArray⟩ w
   refine Calls.mono (show Calls Tryz.prog 105 _ w _ from c) ?_
   rintro e w' ⟨rfl,rfl⟩
   exact⟨rfl,Below.refl _ _⟩
  ·by_cases hl:l=[]
   ·subst hl
    have c:=Any.strings_Join_none Tryz.laysRJ Tryz.extraRJ (some ⟨b,o,none⟩) cap ⟨sep.toArray⟩ w
    refine Calls.mono (show Calls Tryz.prog 105 _ w _ from c) ?_
    rintro e w' ⟨rfl,rfl⟩
    exact⟨rfl,Below.refl _ _⟩
   ·have hcell:∀(j:Nat) x,l[j]? = some x→w.cell? ⟨b,o+j,none⟩=some (.string ⟨x.toArray⟩):=fun j x hj=>by
     obtain⟨u,hu,hf⟩:=hat j x hj 0 _ rfl
     have e3:o+j*csz .str+0=o+j:=by simp [csz]
     rw [e3] at hu
     cases hf
     exact hu
    have hb:b<w.heap.size:=by
     cases l with
     |nil=>exact absurd rfl hl
     |cons x l=>exact Agj (hcell 0 x rfl)
    have em:(l.map fun s=>(⟨s.toArray⟩:ByteArray)).map (·.data.toList)=l:=by
     rw [List.map_map]
     simp [Function.comp_def]
    have es:(⟨sep.toArray⟩:ByteArray).data.toList=sep:=by simp
    have c:=Any.strings_Join Tryz.laysRJ Tryz.extraRJ b o cap (l.map fun s=>⟨s.toArray⟩) ⟨sep.toArray⟩ w (fun j x hj=>by
     rw [List.getElem?_map] at hj
     obtain⟨y,hy,rfl⟩:=Option.map_eq_some_iff.1 hj
     exact hcell j y hy) hb (by rw [List.length_map];omega) (by rw [List.length_map];exact hle) (by rw [em,es];omega)
    rw [em,es,List.length_map] at c
    exact c
 refine key.mono ?_
 rintro en w' ⟨rfl,hbel⟩
 refine⟨_,⟨fun _=>0,fun _=>Option.none⟩,rfl,Chg.of_below hbel,fun p g o hp=>(by simp [Br] at hp),fun p q g o o2 hp=>(by simp [Br] at hp),?_⟩
 simp only [L8,Cp,Dk,Rep]
 exact⟨trivial,by simp only [maxLen];omega⟩
end Go.Proofs.YthndhaolemgbdaaGreatDoor
namespace Go.Proofs.YthndhaolemgbdaaGreatDoor
open Go.Ax
def app(out t:Str):Option Str:=if out.length+t.length≤100000000000 then some (out++t) else none
theorem Ij(out a b:Str):((app out a).bind fun x=>app x b)=app out (a++b):=by
 simp only [app,Zh1]
 by_cases h1:out.length+a.length≤100000000000
 ·rw [if_pos h1,Zc1]
  simp only [Zh1,Zj1,Nat.add_assoc]
 ·rw [if_neg h1,if_neg (by omega)]
  rfl
theorem C5{R:Type}(out a b:Str) (c:Str→Option R):((app out a).bind fun x=>(app x b).bind c)=(app out (a++b)).bind c:=by
 rw [←Ij,Option.bind_assoc]
theorem Il{o:Option Str}:(o.bind fun x=>some x)=o:=by cases o<;>rfl
theorem Agd{out:Str}(h:out.length≤100000000000):app out []=some out:=by
 simp only [app,Zi1,Nat.add_zero,List.append_nil]
 rw [if_pos h]
theorem Ar2{out t r:Str}(h:app out t=some r):r.length≤100000000000∧r=out++t:=by
 simp only [app] at h
 split at h
 ·rename_i h1
  obtain rfl:=Option.some.inj h
  exact⟨by rw [Zh1];exact h1,rfl⟩
 ·cases h
theorem Bik{out t r:Str}(h:app out t=some r):out.length+t.length≤100000000000:=by
 simp only [app] at h
 split at h
 ·rename_i h1;exact h1
 ·cases h
theorem Bd4{out t:Str}(h:out.length+t.length≤100000000000):app out t=some (out++t):=if_pos h
def Dj{α:Type}(f : α→Str):List α→Str
 |[]=>[]
 |x::l=>[44,32]++f x++Dj f l
def Bj{α:Type}(f : α→Str):List α→Str
 |[]=>[]
 |x::l=>f x++Dj f l
theorem Ks{V R α:Type}{step:(V→Option R)→V→Option R}(l:List α) (f : α→Str) (st:Nat→Str→V) (c:Str→Option R)
  (hs:∀i (hi:i<l.length) (acc:Str) rec,step rec (st i acc)=(app acc ((if i=0 then [] else [44,32])++f l[i])).bind fun x=>rec (st (i+1) x))
  (he:∀acc rec,step rec (st l.length acc)=c acc) (k:Nat) (hk:l.length<k) (out:Str) (ho:out.length≤100000000000):Al step k (st 0 out)=(app out (Bj f l)).bind c:=by
 refine(Ro l.length st (fun _ acc=>acc.length≤100000000000) (fun i acc=>(app acc (if i=0 then Bj f (l.drop i) else Dj f (l.drop i))).bind c) (fun i hi acc ha rec hr =>?_) (fun acc ha rec =>?_) k 0 out (Nat.zero_le _) (by omega) ho).trans (by rw [if_pos rfl,Zq1])
 ·rw [hs i hi acc rec]
  have hd:(if i=0 then Bj f (l.drop i) else Dj f (l.drop i))=((if i=0 then [] else [44,32])++f l[i])++Dj f (l.drop (i+1)):=by
   rw [Av hi]
   split<;>simp [Bj,Dj]
  rw [hd,←C5 acc ((if i=0 then [] else [44,32])++f l[i]) (Dj f (l.drop (i+1))) c]
  cases hx:app acc ((if i=0 then [] else [44,32])++f l[i]) with
  |none=>rfl
  |some x =>
   rw [Zc1,Zc1,hr x (Ar2 hx).1,if_neg (by omega)]
 ·rw [he]
  have:(if l.length=0 then Bj f (l.drop l.length) else Dj f (l.drop l.length))=[]:=by
   rw [Zc2]
   split<;>rfl
  rw [this,Agd ha]
  rfl
def Ca:Sig:=⟨2,[(1,.sl .str false)],[(0,.ptr 0 0)],[(0,.bld 82)],1,1,0,[],[]⟩
def Cb:Sig:=⟨0,[],[],[(0,.bld 82)],1,1,0,[],[]⟩
abbrev As4:=List Str×List UInt8
abbrev Agz:=List UInt8
def Aej:Sig:=⟨18,[(6,.sl .str false),(7,.int .i64),(8,.int .i64)],[(0,.ptr 0 0)],[(0,.bld 82)],1,1,0,[],[]⟩
abbrev P3:=List Str×Int×Int×List UInt8
def O3{R:Type}(rec:P3→Option R) (kx:Ex→P3→Option R) (v:P3):Option R:=match v with
 |(v,v1,v2,w) =>
 cond (decide (v2<v1)) (
  chk (inb v2 v.length) (
  (Td ((at' .str v v2),w)).bind fun x =>
   rec (v,v1,(wr .i64 (v2+1)),x))) (
  kx (.exit 0) (v,v1,v2,w))
def Alm(R:Type) (k:Nat):Px R:=pxO [(104,Aj Adg Acj Td)] [] [(1,Ay k Aej (O3))] []
def Av8(k:Nat) (x:As4):Option (Agz):=match x with
 |(l,out) =>
 Al (fun rec=>O3 rec (fun e vz=>match vz with|(_,_,_,v6)=>match e with
  |.exit 0 =>
  some v6
  |_=>none)) k (l,(l.length:Int),0,out)
theorem Ay4(k:Nat):FM 49 Ca Cb (Av8 k):=fRL (px:=Alm _ k) (n:=1) Tryz.func49 rfl (fun cx H=>by
 have h0:Lv cx (Alm (Agz) k):=lv H (l1 H A44 Af) Ab Aa
 have hlwwords_0:=lO H h0 (b:=lp Tryz.f49 0) (k:=k) (n:=0) (s:=Aej) (step:=O3) (fun _ _ _ (_,_,_,_)=>by kernel_rfl) Ak
 exact⟨h0,(B7 Ak hlwwords_0)⟩) fun(_,_)=>by kernel_rfl
def Bkl(l:List Str) (out:Str):Option Str:=app out l.flatten
def An:As4→Option Agz:=fun x=>Bkl x.1 x.2
theorem Aut{R:Type}{kx:Ex→P3→Option R}{l:List Str}{c:Str→Option R}(hn:ln l.length) (h2:∀i out,kx (.exit 0) (l,(l.length:Int),i,out)=c out) (k:Nat) (hk:l.length<k) (out:Str) (ho:out.length+l.flatten.length≤100000000000) :
  Al (fun rec=>O3 rec kx) k (l,(l.length:Int),0,out)=c (out++l.flatten):=by
 refine(Ro l.length (fun i out=>(l,(l.length:Int),(i:Int),out)) (fun i out=>List.length out+((l.drop i).flatten).length≤100000000000) (fun i out=>c (out++(l.drop i).flatten)) (fun i hi out ha rec hr =>?_) (fun out _ rec =>?_) k 0 out (Nat.zero_le _) (by omega) (by rw [Zq1];exact ho)).trans (by rw [Zq1])
 ·rw [Av hi] at ha ⊢
  simp only [Zz1,Zh1] at ha
  have hw:Apg l[i] out=some (out++l[i]):=by
   simp only [Apg]
   rw [if_pos (by simp only [Am];omega)]
  have hr:=hr (out++l[i]) (by rw [Zh1];omega)
  simp only [O3,Gb hi,Ae,Be hi,chk,Bc (c :=.str) hi,Td,hw,Zc1,A3 hi hn,hr,Zz1,Zj1]
 ·simp only [O3,Fz,Ah,h2]
  rw [Zk1 (Zn1 _)]
  simp
theorem Ct:FM 49 Ca Cb An :=.fin 0 Ay4 fun(l,out) r hb hx=>⟨l.length+1,by
 have hx:app out l.flatten=some r:=hx
 have hlen:=Bik hx
 rw [(Ar2 hx).2]
 exact Aut (l:=l) (c:=some) hb.1.1 (fun _ _=>rfl) (l.length+1) (by omega) out hlen⟩
theorem ww(l:List Str) (out:Str):An (l,out)=app out l.flatten:=rfl
def sgn(k:Int):Str:=P8 signsL k
mutual
def etx:Xpr→Str
 |.mk k v n l=>if k=1 then Bf v else if k=2 then n else etxs k l
def etxs:Int→List Xpr→Str
 |_,[]=>[]
 |k,x::l=>if k=3 then [40]++[78,79,84,32]++etx x++[41] else if k=15 then [40]++[45]++etx x++[41] else if k=16 then [40]++etx x++[32,73,83,32,78,85,76,76]++[41] else [40]++etx x++([32]++(sgn k++[32]))++etx1 l++[41]
def etx1:List Xpr→Str
 |[]=>[]
 |y::_=>etx y
end
mutual
def okx:Xpr→Bool
 |.mk k _ _ l=>if k=1∨k=2 then true else okxs k l
def okxs:Int→List Xpr→Bool
 |_,[]=>false
 |k,x::l=>okx x&&(if k=3∨k=15∨k=16 then true else okx1 l)
def okx1:List Xpr→Bool
 |[]=>false
 |y::_=>okx y
end
theorem Axp(e:Xpr):etx e=if e.kind=1 then Bf e.v else if e.kind=2 then e.name else etxs e.kind e.l:=by
 cases e;simp only [etx];rfl
theorem Bal(e:Xpr):okx e=if e.kind=1∨e.kind=2 then true else okxs e.kind e.l:=by
 cases e;simp only [okx];rfl
def F6:Sig:=⟨2,[(1,.sv .expr)],[(0,.ptr 0 0)],[(0,.bld 82)],1,1,0,[],[]⟩
def F3:Sig:=⟨0,[],[],[(0,.bld 82)],1,1,0,[],[]⟩
abbrev Mk:=Xpr×List UInt8
abbrev Mv:=List UInt8
def Be7(R:Type) (rf:Mk→Option Mv):Px R:=pxO [(98,cA Aa6),(49,Aj Ca Cb An),(40,Aj F6 F3 rf)] [] [] []
def L5(rf:Mk→Option Mv) (x:Mk):Option (Mv):=match x with
 |(e,out) =>
 cond (decide (e.kind=1)) (
  (An ([(Bf e.v)],out)).bind fun x =>
  some x) (
  cond (decide (e.kind=2)) (
  (An ([e.name],out)).bind fun x1 =>
   some x1) (
  (An ([[40]],out)).bind fun x2 =>
   cond (decide (e.kind=3)) (
   (An ([[78,79,84,32]],x2)).bind fun x3 =>
    chk (inb 0 e.l.length) (
    (rf ((at' .expr e.l 0),x3)).bind fun x4 =>
     (An ([[41]],x4)).bind fun x13 =>
     some x13)) (
   cond (decide (e.kind=15)) (
    (An ([[45]],x2)).bind fun x5 =>
    chk (inb 0 e.l.length) (
     (rf ((at' .expr e.l 0),x5)).bind fun x6 =>
     (An ([[41]],x6)).bind fun x14 =>
      some x14)) (
    cond (decide (e.kind=16)) (
    chk (inb 0 e.l.length) (
     (rf ((at' .expr e.l 0),x2)).bind fun x7 =>
     (An ([[32,73,83,32,78,85,76,76]],x7)).bind fun x8 =>
      (An ([[41]],x8)).bind fun x15 =>
      some x15)) (
    chk (inb 0 e.l.length) (
     (rf ((at' .expr e.l 0),x2)).bind fun x9 =>
     (An ([[32],(P8 signsL e.kind),[32]],x9)).bind fun x10 =>
      chk (inb 1 e.l.length) (
      (rf ((at' .expr e.l 1),x10)).bind fun x11 =>
       (An ([[41]],x11)).bind fun x16 =>
       some x16)))))))
theorem A5m(rf:Mk→Option Mv) (hrf:FM 40 F6 F3 rf):FM 40 F6 F3 (L5 rf):=fRL (px:=Be7 _ rf) (n:=0) Tryz.func40 rfl (fun _ H=>⟨lv H (c1 H Am2 (l1 H Ct (l1 H hrf Af))) Ab Aa,Ak⟩) fun(_,_)=>by kernel_rfl
def Bou(e:Xpr) (out:Str):Option Str:=cond (okx e) (app out (etx e)) none
def Fe:Mk→Option Mv:=fun x=>Bou x.1 x.2
theorem Anb:∀(n:Nat) (e:Xpr) (out:Str),BdExpr e→Bi e≤n→okx e=true→Al (V:=Mk) (R:=Mv) L5 n (e,out)=app out (etx e)
 |0,e,_,_,h,_=>by have:=Hw e;omega
 |n+1,e,out,hb,h,hok=>by
  obtain⟨hb4,hb5⟩:=Ae9 hb
  rw [Ln] at h
  have hrf:∀x,x∈e.l→okx x=true→∀out:Str,Al (V:=Mk) (R:=Mv) L5 n (x,out)=app out (etx x):=fun x hx ho out=>Anb n x out (hb5 x hx) (by have:=E7 hx;omega) ho
  rw [Bh,Axp]
  rw [Bal] at hok
  simp only [L5,ww]
  by_cases h1:e.kind=1
  ·rw [Ze1 h1,if_pos h1,Ae,Il]
   simp
  by_cases h2:e.kind=2
  ·rw [Zd1 h1,Ze1 h2,if_neg h1,if_pos h2,Ah,Ae,Il]
   simp
  rw [Zd1 h1,Zd1 h2,if_neg h1,if_neg h2,Ah,Ah]
  rw [if_neg (by omega)] at hok
  cases hl:e.l with
  |nil=>rw [hl] at hok;cases hok
  |cons x l =>
   rw [hl] at hok hrf
   simp only [okxs,Zb1] at hok
   have hx:=hrf x Zr1 hok.1
   have e0:at' .expr (x::l) 0=x:=rfl
   have i0:inb 0 (x::l).length=true:=Be (i:=0) (by simp)
   simp only [e0,i0,hx,chk,Ae,etxs]
   by_cases h3:e.kind=3
   ·rw [Ze1 h3,if_pos h3]
    simp only [Ae,C5,Il,Ij,Zz1,List.flatten_nil,List.append_nil,Zj1]
   by_cases h15:e.kind=15
   ·rw [Zd1 h3,Ze1 h15,if_neg h3,if_pos h15]
    simp only [Ae,Ah,C5,Il,Ij,Zz1,List.flatten_nil,List.append_nil,Zj1]
   by_cases h16:e.kind=16
   ·rw [Zd1 h3,Zd1 h15,Ze1 h16,if_neg h3,if_neg h15,if_pos h16]
    simp only [Ae,Ah,C5,Il,Ij,Zz1,List.flatten_nil,List.append_nil,Zj1]
   rw [Zd1 h3,Zd1 h15,Zd1 h16,if_neg h3,if_neg h15,if_neg h16]
   rw [if_neg (by omega)] at hok
   cases l with
   |nil=>exact absurd hok.2 (by simp [okx1])
   |cons y l =>
    have hy:=hrf y (by simp) hok.2
    have e1:at' .expr (x::y::l) 1=y:=rfl
    have i1:inb 1 (x::y::l).length=true:=Be (i:=1) (by simp)
    simp only [e1,i1,hy,Ae,Ah,etx1]
    simp only [Il,Ij,Zz1,List.flatten_nil,List.append_nil,Zj1,sgn]
theorem Oe:FM 40 F6 F3 Fe:=by
 refine .fin (ι:=Nat) (sg:=F6) (so:=F3) 0 (F:=fun n=>Al (V:=Mk) (R:=Mv) L5 n) (fun n=>FnLn.rec' (Sx.enters_of Tryz.func40 rfl rfl) (fun rf hrf=>A5m rf hrf) n) fun(e,out) r hb hx=>⟨Bi e,?_⟩
 have hx:cond (okx e) (app out (etx e)) none=some r:=hx
 cases hok:okx e with
 |false=>rw [hok] at hx;cases hx
 |true =>
  rw [hok] at hx
  exact(Anb (Bi e) e out hb.1 (Zn1 _) hok).trans hx
theorem we{e:Xpr}(h:okx e=true) (out:Str):Fe (e,out)=app out (etx e):=by
 show cond (okx e) _ _=_
 rw [h]
 rfl
end Go.Proofs.YthndhaolemgbdaaGreatDoor
namespace Go.Proofs.YthndhaolemgbdaaGreatDoor
open Go.Ax
theorem C6{R:Type}{out t:Str}{f g:Str→Option R}(h:∀x:Str,x.length≤100000000000→f x=g x):(app out t).bind f=(app out t).bind g:=by
 cases hx:app out t with
 |none=>rfl
 |some x=>exact h x (Ar2 hx).1
theorem O7{R:Type}(i:Nat) (acc t:Str) (c:Str→Option R):cond (decide ((0:Int)<(i:Int))) ((app acc [44,32]).bind fun x=>(app x t).bind c) ((app acc t).bind c)=(app acc ((if i=0 then [] else [44,32])++t)).bind c:=by
 by_cases h:i=0
 ·rw [Zd1 (by omega),if_pos h]
  rfl
 ·rw [Ze1 (by omega),if_neg h,Ae,C5]
theorem fl1(a:Str):([a]:List Str).flatten=a:=by simp
theorem fl2(a b:Str):([a,b]:List Str).flatten=a++b:=by simp
theorem fl3(a b c:Str):([a,b,c]:List Str).flatten=a++(b++c):=by simp
theorem fl5(a b c d e:Str):([a,b,c,d,e]:List Str).flatten=a++(b++(c++(d++e))):=by simp
theorem A9i{V R α:Type}{step:(V→Option R)→V→Option R}(l:List α) (f : α→Str) (st:Nat→Str→V) (c:Str→Option R)
  (hs:∀i (hi:i<l.length) (acc:Str) rec,step rec (st i acc)=(app acc (f l[i])).bind fun x=>rec (st (i+1) x))
  (he:∀acc rec,step rec (st l.length acc)=c acc) (k:Nat) (hk:l.length<k) (out:Str) (ho:out.length≤100000000000):Al step k (st 0 out)=(app out (l.map f).flatten).bind c:=by
 refine(Ro l.length st (fun _ acc=>acc.length≤100000000000) (fun i acc=>(app acc ((l.drop i).map f).flatten).bind c) (fun i hi acc ha rec hr =>?_) (fun acc ha rec =>?_) k 0 out (Nat.zero_le _) (by omega) ho).trans (by rw [Zq1])
 ·rw [hs i hi acc rec,Av hi,Zw1,Zz1,←C5]
  exact C6 fun x hx=>hr x hx
 ·rw [he,Zc2,List.map_nil,List.flatten_nil,Agd ha]
  rfl
theorem Bm3{out r:Str}(h:app out []=some r):some out=some r:=by
 have:=(Ar2 h).2
 rw [List.append_nil] at this
 rw [this]
def Bao(R:Type):Px R:=pxO [(39,cA N3),(40,Aj F6 F3 Fe),(41,Aj bstr_si Afz H4)] [] [] []
def Ahg(x:HV [.sv .expr]):Option (HV [.str,.int .i64]):=match x with
 |e =>
 cond (!(Bl e 30)) (
  some ([],2)) (
  (Fe (e,[])).bind fun x =>
  (H4 x).bind fun x1 =>
   some (x1,0))
theorem A79:FO 14 [.sv .expr] [.str,.int .i64] (Ahg):=fR (px:=Bao _) (n:=0) Tryz.func14 rfl (fun _ H=>⟨lv H (c1 H Of (l1 H Oe (l1 H A1j Af))) Ab Aa,Ak⟩) fun _=>by kernel_rfl
def Atr(e:Xpr):Option (Str×Int):=cond (Bl e 30) (cond (okx e) ((app [] (etx e)).bind fun t=>some (t,0)) none) (some ([],2))
def A3r:FT [.sv .expr] [.str,.int .i64]:=fun x=>Atr x
theorem Bdg:FO 14 [.sv .expr] [.str,.int .i64] A3r :=.fin0 A79 fun e r hb hx=>by
 have hx:Atr e=some r:=hx
 rw [←hx]
 simp only [Ahg,Atr]
 simp only [Atr] at hx
 cases hr:Bl e 30 with
 |false=>rfl
 |true =>
  rw [hr] at hx
  cases ho:okx e with
  |false=>rw [ho] at hx;cases hx
  |true =>
   simp only [we ho,Zt1,Ah,Ae]
   rfl
theorem Sm:∀(l:List Xpr) (m:Int),erights l m=l.all fun x=>Bl x m
 |[],_=>rfl
 |x::l,m=>by simp only [erights,Zv1,Sm l m]
theorem Anc:∀(n:Nat) (e:Xpr) (m:Int),Bi e≤n→Bl e m=true→okx e=true
 |0,e,_,h,_=>by have:=Hw e;omega
 |n+1,e,m,h,hr=>by
  obtain⟨hp,_,hs⟩:=Gf hr
  rw [Ln] at h
  rw [Sm] at hs
  have ih:∀x,x∈e.l→okx x=true:=fun x hx=>Anc n x _ (by have:=E7 hx;omega) (Zg2.1 hs x hx)
  rw [Bal]
  rcases W0 e.kind with ⟨h0,hk⟩|⟨h0,hk⟩|⟨h0,hk⟩|h0
  ·rw [if_pos hk]
  ·rw [if_neg (by omega)]
   rw [h0] at hp
   match hl:e.l,hp with
   |[x],_=>rw [okxs,if_pos hk,ih x (by rw [hl];simp)];rfl
  ·rw [if_neg (by omega)]
   rw [h0] at hp
   match hl:e.l,hp with
   |[x,y],_ =>
    rw [okxs,ih x (by rw [hl];simp),okx1,ih y (by rw [hl];simp)]
    split<;>rfl
  ·rw [h0] at hp
   omega
theorem Akp{e:Xpr}{m:Int}(h:Bl e m=true):okx e=true:=Anc _ e m (Zn1 _) h
def Ahr(l:List Str):Bool:=decide (l.length≤1000000)&&decide ((Lib.join l [44,32]).length≤1000000000)
def nmT(l:List Str):Str:=[40]++(Lib.join l [44,32]++[41])
def Ug:Sig:=⟨2,[(1,.sl .str false)],[(0,.ptr 0 0)],[(0,.bld 82)],1,1,0,[],[]⟩
def Va:Sig:=⟨0,[],[],[(0,.bld 82)],1,1,0,[],[]⟩
abbrev Awd:=List Str×List UInt8
abbrev Auc:=List UInt8
def A47(R:Type):Px R:=pxO [(105,cA Apv),(49,Aj Ca Cb An)] [] [] []
def R5(x:Awd):Option (Auc):=match x with
 |(l,out) =>
 (A35 l [44,32]).bind fun x =>
  (An ([[40],x,[41]],out)).bind fun x1 =>
  some x1
theorem Ay5:FM 50 Ug Va (R5):=fRL (px:=A47 _) (n:=0) Tryz.func50 rfl (fun _ H=>⟨lv H (c1 H A87 (l1 H Ct Af)) Ab Aa,Ak⟩) fun(_,_)=>by kernel_rfl
def Bj8(l:List Str) (out:Str):Option Str:=cond (Ahr l) (app out (nmT l)) none
def O4:Awd→Option Auc:=fun x=>Bj8 x.1 x.2
theorem A9a(l:List Str) (out:Str) (h:Ahr l=true):R5 (l,out)=app out (nmT l):=by
 simp only [Ahr,Zb1,Zg1] at h
 have hj:A35 l [44,32]=some (Lib.join l [44,32]):=if_pos h
 simp only [R5,hj,ww,Zc1,Il,fl3]
 rfl
theorem Aon:FM 50 Ug Va O4 :=.fin0 Ay5 fun(l,out) r hb hx=>by
 have hx:cond (Ahr l) (app out (nmT l)) none=some r:=hx
 cases ho:Ahr l with
 |false=>rw [ho] at hx;cases hx
 |true =>
  rw [ho] at hx
  exact(A9a l out ho).trans hx
theorem wn{l:List Str}(h:Ahr l=true) (out:Str):O4 (l,out)=app out (nmT l):=by
 show cond (Ahr l) _ _=_
 rw [h]
 rfl
def P7(c:Col):Str:=c.name++([32]++at' .str kindsL c.kind)++cond c.notNull [32,78,79,84,32,78,85,76,76] []++cond c.unique [32,85,78,73,81,85,69] []++cond (decide (c.ref=[])) [] ([32,82,69,70,69,82,69,78,67,69,83,32]++c.ref)
def Apk:Sig:=⟨2,[(1,.sv .col)],[(0,.ptr 0 0)],[(0,.bld 82)],1,1,0,[],[]⟩
def Aqv:Sig:=⟨0,[],[],[(0,.bld 82)],1,1,0,[],[]⟩
abbrev Bdb:=Col×List UInt8
abbrev Bcf:=List UInt8
def Bg1(R:Type):Px R:=pxO [(49,Aj Ca Cb An)] [] [] []
def Abv(x:Bdb):Option (Bcf):=match x with
 |(c,out) =>
 chk (inb c.kind 6) (
  (An ([c.name,[32],(at' .str kindsL c.kind)],out)).bind fun x =>
  let j1:=fun(q:List UInt8) =>
   let j:=fun(q1:List UInt8) =>
   cond (!decide (c.ref=[])) (
    (An ([[32,82,69,70,69,82,69,78,67,69,83,32],c.ref],q1)).bind fun x3 =>
    some x3) (
    some q1)
   cond (c.unique) (
   (An ([[32,85,78,73,81,85,69]],q)).bind fun x2 =>
    j x2) (
   j q)
  cond (c.notNull) (
   (An ([[32,78,79,84,32,78,85,76,76]],x)).bind fun x1 =>
   j1 x1) (
   j1 x))
theorem Be2:FM 103 Apk Aqv (Abv):=fRL (px:=Bg1 _) (n:=0) Tryz.func103 rfl (fun _ H=>⟨lv H (l1 H Ct Af) Ab Aa,Ak⟩) fun(_,_)=>by kernel_rfl
def Bo9(c:Col) (out:Str):Option Str:=cond (inb c.kind 6) (app out (P7 c)) none
def Apt:Bdb→Option Bcf:=fun x=>Bo9 x.1 x.2
theorem Bj0(c:Col) (out:Str) (h:inb c.kind 6=true):Abv (c,out)=app out (P7 c):=by
 simp only [Abv,h,chk,Ae,ww,fl1,fl2,fl3,P7]
 cases c.notNull<;>cases c.unique<;>cases decide (c.ref=[])<;>simp only [Ae,Ah,Zt1,Zs1,Il,Ij,List.append_nil,Zj1]
theorem Bgi:FM 103 Apk Aqv Apt :=.fin0 Be2 fun(c,out) r hb hx=>by
 have hx:cond (inb c.kind 6) (app out (P7 c)) none=some r:=hx
 cases ho:inb c.kind 6 with
 |false=>rw [ho] at hx;cases hx
 |true =>
  rw [ho] at hx
  exact(Bj0 c out ho).trans hx
theorem wc{c:Col}(h:inb c.kind 6=true) (out:Str):Apt (c,out)=app out (P7 c):=by
 show cond (inb c.kind 6) _ _=_
 rw [h]
 rfl
def whT(s:Stm):Str:=cond s.has ([32,87,72,69,82,69,32]++etx s.whr) []
def okW(s:Stm):Bool := !s.has||okx s.whr
def Vs:Sig:=⟨2,[(1,.sv .stmt)],[(0,.ptr 0 0)],[(0,.bld 82)],1,1,0,[],[]⟩
def Vm:Sig:=⟨0,[],[],[(0,.bld 82)],1,1,0,[],[]⟩
abbrev Av3:=Stm×List UInt8
abbrev Asl:=List UInt8
def A7p(R:Type):Px R:=pxO [(49,Aj Ca Cb An),(40,Aj F6 F3 Fe)] [] [] []
def Rz(x:Av3):Option (Asl):=match x with
 |(s,out) =>
 cond (s.has) (
  (An ([[32,87,72,69,82,69,32]],out)).bind fun x =>
  (Fe ((Kj s.whr),x)).bind fun x1 =>
   some x1) (
  some out)
theorem Axq:FM 55 Vs Vm (Rz):=fRL (px:=A7p _) (n:=0) Tryz.func55 rfl (fun _ H=>⟨lv H (l1 H Ct (l1 H Oe Af)) Ab Aa,Ak⟩) fun(_,_)=>by kernel_rfl
def Blc(s:Stm) (out:Str):Option Str:=cond (okW s) (app out (whT s)) none
def H7:Av3→Option Asl:=fun x=>Blc x.1 x.2
theorem Bbn(s:Stm) (out r:Str) (h:okW s=true) (hr:app out (whT s)=some r):Rz (s,out)=some r:=by
 simp only [okW] at h
 simp only [whT] at hr
 simp only [Rz,Jn,ww,fl1]
 cases hs:s.has with
 |false =>
  rw [hs] at hr
  exact Bm3 hr
 |true =>
  rw [hs] at h hr
  simp only [we (show okx s.whr=true from h),Ae,Il,Ij]
  exact hr
theorem Aoq:FM 55 Vs Vm H7 :=.fin0 Axq fun(s,out) r hb hx=>by
 have hx:cond (okW s) (app out (whT s)) none=some r:=hx
 cases ho:okW s with
 |false=>rw [ho] at hx;cases hx
 |true =>
  rw [ho] at hx
  exact Bbn s out r ho hx
theorem wh{s:Stm}(h:okW s=true) (out:Str):H7 (s,out)=app out (whT s):=by
 show cond (okW s) _ _=_
 rw [h]
 rfl
def Aaj(e:Xpr):Str:=[44,32,67,72,69,67,75,32]++cond (decide (Gy e.kind=0)) ([40]++(etx e++[41])) (etx e)
def J6(s:Stm):Str:=[67,82,69,65,84,69,32,84,65,66,76,69,32]++(s.name++[32,40])++Bj P7 s.cols++[44,32,80,82,73,77,65,82,89,32,75,69,89,32]++nmT s.names++(s.l.map Aaj).flatten++[41]
def okT(s:Stm):Bool:=s.cols.all (fun c=>inb c.kind 6)&&Ahr s.names&&s.l.all okx
def Mt(s:Stm):Nat:=s.cols.length+s.l.length+s.order.length+s.rows.length+s.sets.length+(s.rows.map List.length).sum+1
def Abw:Sig:=⟨2,[(1,.sv .stmt)],[(0,.ptr 0 0)],[(0,.bld 82)],1,1,0,[],[]⟩
def Ac3:Sig:=⟨0,[],[],[(0,.bld 82)],1,1,0,[],[]⟩
abbrev Av2:=Stm×List UInt8
abbrev Rx:=List UInt8
def Ad8:Sig:=⟨54,[(25,.sl .expr false),(26,.int .i64),(27,.int .i64)],[(2,.ptr 1 0)],[(0,.bld 82),(1,.fx [.ptr 0 0])],2,1,0,[],[]⟩
abbrev Wz:=List Xpr×Int×Int×List UInt8
def S9{R:Type}(rec:Wz→Option R) (kx:Ex→Wz→Option R) (v:Wz):Option R:=match v with
 |(v6,v7,v8,w2) =>
 cond (decide (v8<v7)) (
  chk (inb v8 v6.length) (
  (An ([[44,32,67,72,69,67,75,32]],w2)).bind fun x5 =>
   cond (decide ((Gy ((at' .expr v6 v8).kind))=0)) (
   (An ([[40]],x5)).bind fun x6 =>
    (Fe ((at' .expr v6 v8),x6)).bind fun x7 =>
    (An ([[41]],x7)).bind fun x8 =>
     rec (v6,v7,(wr .i64 (v8+1)),x8)) (
   (Fe ((at' .expr v6 v8),x5)).bind fun x9 =>
    rec (v6,v7,(wr .i64 (v8+1)),x9)))) (
  kx (.exit 0) (v6,v7,v8,w2))
def Aea:Sig:=⟨20,[(7,.int .i64),(8,.int .i64)],[(0,.ptr 0 0),(2,.fn 102 [.ptr 1 0,.ptr 2 0])],[(0,.bld 82),(1,.fx [.ptr 0 0]),(2,.one (.sv .stmt))],80,80,400,[],[]⟩
abbrev Xf:=Int×Int×List UInt8×Stm
def R6{R:Type}(rec:Xf→Option R) (kx:Ex→Xf→Option R) (v:Xf):Option R:=match v with
 |(v,v1,w,w1) =>
 cond (decide (v1<v)) (
  let j:=fun(q:List UInt8) =>
  chk (inb v1 w1.cols.length) (
   (Apt ((at' .col w1.cols v1),q)).bind fun x2 =>
   rec (v,(wr .i64 (v1+1)),x2,w1))
  cond (decide (0<v1)) (
  (An ([[44,32]],w)).bind fun x1 =>
   j x1) (
  j w)) (
  kx (.exit 0) (v,v1,w,w1))
def Wq(R:Type) (_k:Nat):Px R:=pxO [(103,Aj Apk Aqv Apt)] [] [] []
noncomputable def Adp (R:Type) (k:Nat):Px R:=pxO [(49,Aj Ca Cb An),(102,Az 120 600 (Wq R k) Tryz.f102)] [] [(1,Ay k Aea (R6))] []
noncomputable def An0 (R:Type) (k:Nat):Px R:=pxO [(49,Aj Ca Cb An),(50,Aj Ug Va O4),(94,cA Aq9),(40,Aj F6 F3 Fe),(51,Az 80 400 (Adp R k) Tryz.f51)] [] [(6,Ay k Ad8 (S9))] []
def Tj(k:Nat) (x:Av2):Option (Rx):=match x with
 |(s,out) =>
 (An ([[67,82,69,65,84,69,32,84,65,66,76,69,32],s.name,[32,40]],out)).bind fun x =>
  Al (fun rec=>R6 rec (fun e vz=>match vz with|(_,_,v4,v5)=>match e with
  |.exit 0 =>
   (An ([[44,32,80,82,73,77,65,82,89,32,75,69,89,32]],v4)).bind fun x3 =>
   (O4 (v5.names,x3)).bind fun x4 =>
    Al (fun rec=>S9 rec (fun e vz=>match vz with|(_,_,_,v12)=>match e with
    |.exit 0 =>
     (An ([[41]],v12)).bind fun x10 =>
     some x10
    |_=>none)) k (v5.l,(v5.l.length:Int),0,x4)
  |_=>none)) k ((s.cols.length:Int),0,x,s)
theorem Axb(k:Nat):FM 48 Abw Ac3 (Tj k):=fRL (px:=An0 _ k) (n:=1) Tryz.func48 rfl (fun cx H=>by
 have h2:Lv cx (Wq (Rx) k):=lv H (l1 H Bgi Af) Ab Aa
 have h1:Lv cx (Adp (Rx) k):=lv H (l1 H Ct (Aq (cR H h2 Tryz.func102 rfl (n:=0) (Ak)) Af)) Ab Aa
 have hlwtable_0:=lO H h1 (b:=lp Tryz.f51 0) (k:=k) (n:=0) (s:=Aea) (step:=R6) (fun _ _ _ (_,_,_,_)=>by kernel_rfl) Ak
 have h0:Lv cx (An0 (Rx) k):=lv H (l1 H Ct (l1 H Aon (c1 H As5 (l1 H Oe (Aq (cR H h1 Tryz.func51 rfl (n:=1) ((B7 Ak hlwtable_0))) Af))))) Ab Aa
 have hlwtable_1:=lO H h0 (b:=lp Tryz.f48 0) (k:=k) (n:=0) (s:=Ad8) (step:=S9) (fun _ _ _ (_,_,_,_)=>by kernel_rfl) Ak
 exact⟨h0,(B7 Ak hlwtable_1)⟩) fun(_,_)=>by kernel_rfl
def Bla(s:Stm) (out:Str):Option Str:=cond (okT s) (app out (J6 s)) none
def Z8:Av2→Option Rx:=fun x=>Bla x.1 x.2
theorem A86(k:Nat) (s:Stm) (out:Str) (hb:BdStm s) (h:okT s=true) (hk:Mt s≤k):Tj k (s,out)=app out (J6 s):=by
 simp only [okT,Zb1] at h
 obtain⟨⟨h1,h2⟩,h3⟩:=h
 simp only [Mt] at hk
 have hc:=Zg2.1 h1
 have hl:=Zg2.1 h3
 simp only [Tj,ww,fl1,fl3]
 refine(C6 fun x hx=>(Ks s.cols P7 (fun i acc=>((s.cols.length:Int),(i:Int),acc,s)) (fun acc=>(app acc ([44,32,80,82,73,77,65,82,89,32,75,69,89,32]++nmT s.names)).bind fun x=>(app x (s.l.map Aaj).flatten).bind fun x=>app x [41]) (fun i hi acc rec =>?_) (fun acc rec =>?_) k (by omega) x hx)).trans ?_
 ·simp only [R6,Gb hi,Ae,Be hi,chk,Bc (c :=.col) hi,wc (hc _ (List.getElem_mem hi)),A3 hi hb.cols.1,ww,fl1]
  exact O7 i acc (P7 s.cols[i]) _
 ·simp only [R6,Fz,Ah,ww,fl1,wn h2]
  rw [C5]
  refine C6 fun x hx=>A9i s.l Aaj (fun i acc=>(s.l,(s.l.length:Int),(i:Int),acc)) (fun acc=>app acc [41]) (fun i hi acc rec =>?_) (fun acc rec =>?_) k (by omega) x hx
  ·simp only [S9,Gb hi,Ae,Be hi,chk,Bc (c :=.expr) hi,we (hl _ (List.getElem_mem hi)),A3 hi hb.l.1,ww,fl1,Aaj]
   cases decide (Gy s.l[i].kind=0) with
   |true=>simp only [Ae,C5]
   |false=>simp only [Ah,C5]
  ·simp only [S9,Fz,Ah,ww,fl1,Il]
 ·simp only [Ij,J6,Zj1]
theorem A57:FM 48 Abw Ac3 Z8 :=.fin 0 Axb fun(s,out) r hb hx=>⟨Mt s,by
 have hx:cond (okT s) (app out (J6 s)) none=some r:=hx
 cases ho:okT s with
 |false=>rw [ho] at hx;cases hx
 |true =>
  rw [ho] at hx
  exact(A86 (Mt s) s out hb.1 ho (Zn1 _)).trans hx⟩
theorem wt{s:Stm}(h:okT s=true) (out:Str):Z8 (s,out)=app out (J6 s):=by
 show cond (okT s) _ _=_
 rw [h]
 rfl
def Ma(p:Str×Bool):Str:=p.1++cond p.2 [32,68,69,83,67] []
def Aby(s:Stm):Str:=cond (decide (0≤s.most)) ([32,76,73,77,73,84,32]++Bf ⟨3,s.most,[]⟩) []
def obT(s:Stm):Str:=cond (decide (0<(s.order.length:Int))) [32,79,82,68,69,82,32,66,89,32] []
def Akz(s:Stm):Str:=[83,69,76,69,67,84,32]++cond (decide ((s.l.length:Int)=0)) [42] []++Bj etx s.l++([32,70,82,79,77,32]++s.name)++whT s++obT s++Bj Ma (s.order.zip s.desc)++Aby s
def okS(s:Stm):Bool:=s.l.all okx&&okW s&&decide (s.desc.length=s.order.length)
def W1:Sig:=⟨2,[(1,.sv .stmt)],[(0,.ptr 0 0)],[(0,.bld 82)],1,1,0,[],[]⟩
def W7:Sig:=⟨0,[],[],[(0,.bld 82)],1,1,0,[],[]⟩
abbrev Ano:=Stm×List UInt8
abbrev Gh:=List UInt8
def Ys:Sig:=⟨20,[(7,.int .i64),(8,.int .i64)],[(0,.ptr 0 0),(2,.fn 107 [.ptr 1 0,.ptr 2 0])],[(0,.bld 82),(1,.fx [.ptr 0 0]),(2,.one (.sv .stmt))],80,80,600,[],[]⟩
abbrev Me:=Int×Int×List UInt8×Stm
def Hu{R:Type}(rec:Me→Option R) (kx:Ex→Me→Option R) (v:Me):Option R:=match v with
 |(v6,v7,w2,w3) =>
 cond (decide (v7<v6)) (
  let j1:=fun(q3:List UInt8) =>
  chk (inb v7 w3.order.length) (
   (An ([(at' .str w3.order v7)],q3)).bind fun x8 =>
   chk (inb v7 w3.desc.length) (
    cond ((at' .bool w3.desc v7)) (
    (An ([[32,68,69,83,67]],x8)).bind fun x9 =>
     rec (v6,(wr .i64 (v7+1)),x9,w3)) (
    rec (v6,(wr .i64 (v7+1)),x8,w3))))
  cond (decide (0<v7)) (
  (An ([[44,32]],w2)).bind fun x7 =>
   j1 x7) (
  j1 w2)) (
  kx (.exit 0) (v6,v7,w2,w3))
def Aak:Sig:=⟨20,[(7,.int .i64),(8,.int .i64)],[(0,.ptr 0 0),(2,.fn 106 [.ptr 1 0,.ptr 2 0])],[(0,.bld 82),(1,.fx [.ptr 0 0]),(2,.one (.sv .stmt))],80,80,400,[],[]⟩
abbrev Mw:=Int×Int×List UInt8×Stm
def Kx{R:Type}(rec:Mw→Option R) (kx:Ex→Mw→Option R) (v:Mw):Option R:=match v with
 |(v,v1,w,w1) =>
 cond (decide (v1<v)) (
  let j:=fun(q1:List UInt8) =>
  chk (inb v1 w1.l.length) (
   (Fe ((at' .expr w1.l v1),q1)).bind fun x3 =>
   rec (v,(wr .i64 (v1+1)),x3,w1))
  cond (decide (0<v1)) (
  (An ([[44,32]],w)).bind fun x2 =>
   j x2) (
  j w)) (
  kx (.exit 0) (v,v1,w,w1))
def S4(R:Type) (_k:Nat):Px R:=pxO [(40,Aj F6 F3 Fe)] [] [] []
noncomputable def Aax (R:Type) (k:Nat):Px R:=pxO [(49,Aj Ca Cb An),(106,Az 120 600 (S4 R k) Tryz.f106)] [] [(1,Ay k Aak (Kx))] []
def Rp(R:Type) (_k:Nat):Px R:=pxO [(49,Aj Ca Cb An)] [] [] []
noncomputable def Z2 (R:Type) (k:Nat):Px R:=pxO [(49,Aj Ca Cb An),(107,Az 120 800 (Rp R k) Tryz.f107)] [] [(1,Ay k Ys (Hu))] []
noncomputable def Ai0 (R:Type) (k:Nat):Px R:=pxO [(49,Aj Ca Cb An),(55,Aj Vs Vm H7),(51,Ac6 80 400 (Aax R k) Tryz.f51 (Az 80 600 (Z2 R k) Tryz.f51))] [(98,qA Aa6)] [] []
def Pd(k:Nat) (x:Ano):Option (Gh):=match x with
 |(s,out) =>
 (An ([[83,69,76,69,67,84,32]],out)).bind fun x =>
  let j3:=fun(q:List UInt8) =>
  Al (fun rec=>Kx rec (fun e vz=>match vz with|(_,_,v4,v5)=>match e with
   |.exit 0 =>
   (An ([[32,70,82,79,77,32],v5.name],v4)).bind fun x4 =>
    (H7 (v5,x4)).bind fun x5 =>
    let j2:=fun(q2:List UInt8) =>
     Al (fun rec=>Hu rec (fun e vz=>match vz with|(_,_,v10,v11)=>match e with
     |.exit 0 =>
      cond (decide (0≤v11.most)) (
      (An ([[32,76,73,77,73,84,32],(Bf (Val.mk 3 v11.most []))],v10)).bind fun x10 =>
       some x10) (
      some v10)
     |_=>none)) k ((v5.order.length:Int),0,q2,v5)
    cond (decide (0<(v5.order.length:Int))) (
     (An ([[32,79,82,68,69,82,32,66,89,32]],x5)).bind fun x6 =>
     j2 x6) (
     j2 x5)
   |_=>none)) k ((s.l.length:Int),0,q,s)
  cond (decide ((s.l.length:Int)=0)) (
  (An ([[42]],x)).bind fun x1 =>
   j3 x1) (
  j3 x)
theorem Ats(k:Nat):FM 56 W1 W7 (Pd k):=fRL (px:=Ai0 _ k) (n:=0) Tryz.func56 rfl (fun cx H=>by
 have h2:Lv cx (S4 (Gh) k):=lv H (l1 H Oe Af) Ab Aa
 have h1:Lv cx (Aax (Gh) k):=lv H (l1 H Ct (Aq (cR H h2 Tryz.func106 rfl (n:=0) (Ak)) Af)) Ab Aa
 have hlwchosen_0:=lO H h1 (b:=lp Tryz.f51 0) (k:=k) (n:=0) (s:=Aak) (step:=Kx) (fun _ _ _ (_,_,_,_)=>by kernel_rfl) Ak
 have h4:Lv cx (Rp (Gh) k):=lv H (l1 H Ct Af) Ab Aa
 have h3:Lv cx (Z2 (Gh) k):=lv H (l1 H Ct (Aq (cR H h4 Tryz.func107 rfl (n:=0) (Ak)) Af)) Ab Aa
 have hlwchosen_1:=lO H h3 (b:=lp Tryz.f51 0) (k:=k) (n:=0) (s:=Ys) (step:=Hu) (fun _ _ _ (_,_,_,_)=>by kernel_rfl) Ak
 have h0:Lv cx (Ai0 (Gh) k):=lv H (l1 H Ct (l1 H Aoq (Aq (Bcw (cR H h1 Tryz.func51 rfl (n:=1) ((B7 Ak hlwchosen_0))) (cR H h3 Tryz.func51 rfl (n:=1) ((B7 Ak hlwchosen_1)))) Af))) (q1 H Am2 Ab) Aa
 exact⟨h0,Ak⟩) fun(_,_)=>by kernel_rfl
def Bio(s:Stm) (out:Str):Option Str:=cond (okS s) (app out (Akz s)) none
def Ue:Ano→Option Gh:=fun x=>Bio x.1 x.2
theorem Aiv{R:Type}{b:Bool}{out t:Str}{c:Str→Option R}(ho:out.length≤100000000000):cond b ((app out t).bind c) (c out)=(app out (cond b t [])).bind c:=by
 cases b with
 |true=>rfl
 |false=>rw [Ah,Ah,Agd ho];rfl
theorem A54(k:Nat) (s:Stm) (out:Str) (hb:BdStm s) (h:okS s=true) (hk:Mt s≤k):Pd k (s,out)=app out (Akz s):=by
 simp only [okS,Zb1,Zg1] at h
 obtain⟨⟨h1,h2⟩,h3⟩:=h
 simp only [Mt] at hk
 have hl:=Zg2.1 h1
 have hz:(s.order.zip s.desc).length=s.order.length:=by rw [List.length_zip];omega
 have hend:∀x:Str,x.length≤100000000000→cond (decide (0≤s.most)) (app x ([32,76,73,77,73,84,32]++Bf ⟨3,s.most,[]⟩)) (some x)=app x (Aby s):=fun x hx=>by
  simp only [Aby]
  cases decide (0≤s.most) with
  |true=>rfl
  |false=>rw [Ah,Ah,Agd hx]
 have hord:∀(kx:Ex→Me→Option Gh),(∀acc,kx (.exit 0) ((s.order.length:Int),(s.order.length:Int),acc,s)=cond (decide (0≤s.most)) (app acc ([32,76,73,77,73,84,32]++Bf ⟨3,s.most,[]⟩)) (some acc))→∀x:Str,x.length≤100000000000 →
   Al (fun rec=>Hu rec kx) k ((s.order.length:Int),0,x,s)=(app x (Bj Ma (s.order.zip s.desc))).bind fun x=>app x (Aby s):=fun kx hkx x hx=>by
  refine(Ks (s.order.zip s.desc) Ma (fun i acc=>((s.order.length:Int),(i:Int),acc,s)) (fun acc=>cond (decide (0≤s.most)) (app acc ([32,76,73,77,73,84,32]++Bf ⟨3,s.most,[]⟩)) (some acc)) (fun i hi acc rec =>?_) (fun acc rec =>?_) k (by omega) x hx).trans (C6 hend)
  ·have hi1:i<s.order.length:=by omega
   have hi2:i<s.desc.length:=by omega
   have hg:(s.order.zip s.desc)[i]=(s.order[i],s.desc[i]):=by simp
   simp only [Hu,Gb hi1,Ae,Be hi1,Be hi2,chk,Bc (c :=.str) hi1,Bc (c :=.bool) hi2,A3 hi1 hb.order.1,ww,fl1,hg]
   have hitem:∀q:Str,((app q s.order[i]).bind fun x8=>cond s.desc[i] ((app x8 [32,68,69,83,67]).bind fun x9=>rec ((s.order.length:Int),((i+1:Nat):Int),x9,s)) (rec ((s.order.length:Int),((i+1:Nat):Int),x8,s)))=(app q (Ma (s.order[i],s.desc[i]))).bind fun x=>rec ((s.order.length:Int),((i+1:Nat):Int),x,s):=fun q=>by
    simp only [Ma]
    rw [←C5]
    exact C6 fun x hx=>Aiv hx
   simp only [hitem]
   exact O7 i acc _ _
  ·rw [hz]
   simp only [Hu,Fz,Ah,hkx]
 simp only [Pd,ww,fl1,fl2]
 have hsel:∀(kx:Ex→Mw→Option Gh),(∀acc:Str,acc.length≤100000000000→kx (.exit 0) ((s.l.length:Int),(s.l.length:Int),acc,s)=app acc (([32,70,82,79,77,32]++s.name)++whT s++obT s++Bj Ma (s.order.zip s.desc)++Aby s))→∀x:Str,x.length≤100000000000 →
   Al (fun rec=>Kx rec kx) k ((s.l.length:Int),0,x,s)=app x (Bj etx s.l++(([32,70,82,79,77,32]++s.name)++whT s++obT s++Bj Ma (s.order.zip s.desc)++Aby s)):=fun kx hkx x hx=>by
  refine(Ks s.l etx (fun i acc=>((s.l.length:Int),(i:Int),acc,s)) (fun acc=>kx (.exit 0) ((s.l.length:Int),(s.l.length:Int),acc,s)) (fun i hi acc rec =>?_) (fun acc rec =>?_) k (by omega) x hx).trans ((C6 hkx).trans (Ij _ _ _))
  ·simp only [Kx,Gb hi,Ae,Be hi,chk,Bc (c :=.expr) hi,we (hl _ (List.getElem_mem hi)),A3 hi hb.l.1,ww,fl1]
   exact O7 i acc _ _
  ·simp only [Kx,Fz,Ah]
 refine(C6 fun x hx=>(Aiv hx).trans (C6 fun q hq=>hsel _ (fun acc ha =>?_) q hq)).trans ?_
 ·show((app acc ([32,70,82,79,77,32]++s.name)).bind fun x4=>(H7 (s,x4)).bind fun x5=>cond (decide (0<(s.order.length:Int))) ((app x5 [32,79,82,68,69,82,32,66,89,32]).bind fun x6=>Al (fun rec=>Hu rec _) k ((s.order.length:Int),0,x6,s)) (Al (fun rec=>Hu rec _) k ((s.order.length:Int),0,x5,s)))=_
  simp only [wh h2]
  rw [C5]
  refine(C6 fun x5 hx5=>(Aiv hx5).trans (C6 fun y hy=>hord _ (fun _ =>?_) y hy)).trans ?_
  ·simp only [Il,Bf]
  ·simp only [Ij,obT,Zj1]
 ·simp only [Ij,Akz,Zj1]
theorem Axg:FM 56 W1 W7 Ue :=.fin 0 Ats fun(s,out) r hb hx=>⟨Mt s,by
 have hx:cond (okS s) (app out (Akz s)) none=some r:=hx
 cases ho:okS s with
 |false=>rw [ho] at hx;cases hx
 |true =>
  rw [ho] at hx
  exact(A54 (Mt s) s out hb.1 ho (Zn1 _)).trans hx⟩
theorem ws{s:Stm}(h:okS s=true) (out:Str):Ue (s,out)=app out (Akz s):=by
 show cond (okS s) _ _=_
 rw [h]
 rfl
def Se(r:List Xpr):Str:=[40]++(Bj etx r++[41])
def Xu(x:SetE):Str:=x.name++[32,61,32]++etx x.e
def A7(s:Stm):Str :=
 if s.kind=1 then J6 s
 else if s.kind=2 then [68,82,79,80,32,84,65,66,76,69,32]++s.name
 else if s.kind=3 then [67,82,69,65,84,69,32,73,78,68,69,88,32]++(s.name++([32,79,78,32]++(s.on++[32])))++nmT s.names
 else if s.kind=4 then [68,82,79,80,32,73,78,68,69,88,32]++s.name
 else if s.kind=5 then [73,78,83,69,82,84,32,73,78,84,79,32]++(s.name++[32,86,65,76,85,69,83,32])++Bj Se s.rows
 else if s.kind=6 then [85,80,68,65,84,69,32]++(s.name++[32,83,69,84,32])++Bj Xu s.sets++whT s
 else if s.kind=7 then [68,69,76,69,84,69,32,70,82,79,77,32]++s.name++whT s
 else Akz s
def okP(s:Stm):Bool :=
 if s.kind=1 then okT s
 else if s.kind=2∨s.kind=4 then true
 else if s.kind=3 then Ahr s.names
 else if s.kind=5 then s.rows.all fun r=>r.all okx
 else if s.kind=6 then s.sets.all (fun x=>okx x.e)&&okW s
 else if s.kind=7 then okW s
 else decide (s.kind=8)&&okS s
def Rn:Sig:=⟨20,[(7,.int .i64),(8,.int .i64)],[(0,.ptr 1 0),(2,.fn 54 [.ptr 1 0,.ptr 0 0])],[(0,.one (.sv .stmt)),(1,.bld 82)],40,40,200,[],[]⟩
abbrev G9:=Int×Int×Stm×List UInt8
def Ld{R:Type}(rec:G9→Option R) (kx:Ex→G9→Option R) (v:G9):Option R:=match v with
 |(v13,v14,w5,w6) =>
 cond (decide (v14<v13)) (
  let j2:=fun(q2:List UInt8) =>
  chk (inb v14 w5.sets.length) (
   (An ([((at' .set w5.sets v14).name),[32,61,32]],q2)).bind fun x14 =>
   chk (inb v14 w5.sets.length) (
    (Fe ((Kj ((at' .set w5.sets v14).e)),x14)).bind fun x15 =>
    rec (v13,(wr .i64 (v14+1)),w5,x15)))
  cond (decide (0<v14)) (
  (An ([[44,32]],w6)).bind fun x13 =>
   j2 x13) (
  j2 w6)) (
  kx (.exit 0) (v13,v14,w5,w6))
def Ad7:Sig:=⟨20,[(7,.int .i64),(8,.int .i64)],[(0,.ptr 1 0),(2,.fn 53 [.ptr 1 0,.ptr 0 0,.ptr 80 0])],[(0,.one (.sv .stmt)),(1,.bld 82),(80,.cells [.int .i64])],120,120,600,[],[]⟩
abbrev Pr:=Int×Int×Stm×List UInt8×Int
def Lt{R:Type}(rec:Pr→Option R) (kx:Ex→Pr→Option R) (v:Pr):Option R:=match v with
 |(v2,v3,w2,w3,w4) =>
 cond (decide (v3<v2)) (
  let j:=fun(q1:List UInt8) =>
  chk (inb w4 w2.rows.length) (
   chk (inb v3 ((at' .exprs w2.rows w4).length)) (
   (Fe ((at' .expr (at' .exprs w2.rows w4) v3),q1)).bind fun x10 =>
    rec (v2,(wr .i64 (v3+1)),w2,x10,w4)))
  cond (decide (0<v3)) (
  (An ([[44,32]],w3)).bind fun x9 =>
   j x9) (
  j w3)) (
  kx (.exit 0) (v2,v3,w2,w3,w4))
def R1:Sig:=⟨20,[(7,.int .i64),(8,.int .i64)],[(0,.ptr 1 0),(2,.fn 52 [.ptr 1 0,.ptr 0 0])],[(0,.one (.sv .stmt)),(1,.bld 82)],40,40,200,[],[]⟩
abbrev Hk:=Int×Int×Stm×List UInt8
def L6{R:Type}(k:Nat) (rec:Hk→Option R) (kx:Ex→Hk→Option R) (v:Hk):Option R:=match v with
 |(v,v1,w,w1) =>
 cond (decide (v1<v)) (
  let j1:=fun(q:List UInt8) =>
  (An ([[40]],q)).bind fun x8 =>
   chk (inb v1 w.rows.length) (
   Al (fun rc=>Lt rc (fun e vz=>match vz with|(_,_,v6,v7,_)=>match e with
    |.exit 0 =>
    (An ([[41]],v7)).bind fun x11 =>
     rec (v,(wr .i64 (v1+1)),v6,x11)
    |_=>none)) k (((at' .exprs w.rows v1).length:Int),0,w,x8,v1))
  cond (decide (0<v1)) (
  (An ([[44,32]],w1)).bind fun x7 =>
   j1 x7) (
  j1 w1)) (
  kx (.exit 0) (v,v1,w,w1))
def Mi(R:Type) (_k:Nat):Px R:=pxO [(40,Aj F6 F3 Fe)] [] [] []
noncomputable def Rc (R:Type) (k:Nat):Px R:=pxO [(49,Aj Ca Cb An),(53,Az 160 800 (Mi R k) Tryz.f53)] [] [(1,Ay k Ad7 (Lt))] []
noncomputable def Wn (R:Type) (k:Nat):Px R:=pxO [(49,Aj Ca Cb An),(51,Az 120 600 (Rc R k) Tryz.f51)] [] [] []
def Wl(R:Type) (_k:Nat):Px R:=pxO [(49,Aj Ca Cb An),(40,Aj F6 F3 Fe)] [] [] []
noncomputable def J1 (R:Type) (k:Nat):Px R:=pxO [(49,Aj Ca Cb An),(52,Az 80 400 (Wn R k) Tryz.f52),(54,Az 80 400 (Wl R k) Tryz.f54)] [] [(1,Zb k R1 (L6 k) (Ay k Rn (Ld)))] []
noncomputable def Alx (R:Type) (k:Nat):Px R:=pxO [(25,cA T5),(48,Aj Abw Ac3 Z8),(49,Aj Ca Cb An),(50,Aj Ug Va O4),(55,Aj Vs Vm H7),(56,Aj W1 W7 Ue),(41,Aj bstr_si Afz H4),(51,Az 40 200 (J1 R k) Tryz.f51)] [] [] []
theorem Avp(R:Type) (k:Nat):∀(fr:List Fr) (rec:Hk→Option R) (kx:Ex→Hk→Option R) (v:Hk),Aae (J1 R k) R1 (lp Tryz.f51 0) fr rec kx v=L6 k rec kx v
 |fr,rec,kx,(v,v1,w,w1)=>by kernel_rfl
theorem Aty(R:Type) (k:Nat):∀(fr:List Fr) (rec:G9→Option R) (kx:Ex→G9→Option R) (v:G9),Aae (J1 R k) Rn (lp Tryz.f51 0) fr rec kx v=Ld rec kx v
 |fr,rec,kx,(v13,v14,w5,w6)=>by kernel_rfl
def Mj(k:Nat) (x:HV [.sv .stmt]):Option (HV [.str,.int .i64]):=match x with
 |s =>
 (J8 s).bind fun x =>
  cond (!decide (x=0)) (
  some ([],x)) (
  cond (decide (s.kind=1)) (
   (Z8 (s,[])).bind fun x1 =>
   (H4 x1).bind fun x21 =>
    some (x21,0)) (
   cond (decide (s.kind=2)) (
   (An ([[68,82,79,80,32,84,65,66,76,69,32],s.name],[])).bind fun x2 =>
    (H4 x2).bind fun x22 =>
    some (x22,0)) (
   cond (decide (s.kind=3)) (
    (An ([[67,82,69,65,84,69,32,73,78,68,69,88,32],s.name,[32,79,78,32],s.on,[32]],[])).bind fun x3 =>
    (O4 (s.names,x3)).bind fun x4 =>
     (H4 x4).bind fun x23 =>
     some (x23,0)) (
    cond (decide (s.kind=4)) (
    (An ([[68,82,79,80,32,73,78,68,69,88,32],s.name],[])).bind fun x5 =>
     (H4 x5).bind fun x24 =>
     some (x24,0)) (
    cond (decide (s.kind=5)) (
     (An ([[73,78,83,69,82,84,32,73,78,84,79,32],s.name,[32,86,65,76,85,69,83,32]],[])).bind fun x6 =>
     Al (fun rec=>L6 k rec (fun e vz=>match vz with|(_,_,_,v12)=>match e with
      |.exit 0 =>
      (H4 v12).bind fun x25 =>
       some (x25,0)
      |_=>none)) k ((s.rows.length:Int),0,s,x6)) (
     cond (decide (s.kind=6)) (
     (An ([[85,80,68,65,84,69,32],s.name,[32,83,69,84,32]],[])).bind fun x12 =>
      Al (fun rec=>Ld rec (fun e vz=>match vz with|(_,_,v17,v18)=>match e with
      |.exit 0 =>
       (H7 (v17,v18)).bind fun x16 =>
       (H4 x16).bind fun x26 =>
        some (x26,0)
      |_=>none)) k ((s.sets.length:Int),0,s,x12)) (
     cond (decide (s.kind=7)) (
      (An ([[68,69,76,69,84,69,32,70,82,79,77,32],s.name],[])).bind fun x17 =>
      (H7 (s,x17)).bind fun x18 =>
       (H4 x18).bind fun x27 =>
       some (x27,0)) (
      cond (decide (s.kind=8)) (
      (Ue (s,[])).bind fun x19 =>
       (H4 x19).bind fun x28 =>
       some (x28,0)) (
      (H4 []).bind fun x29 =>
       some (x29,0))))))))))
theorem Awm(k:Nat):FO 23 [.sv .stmt] [.str,.int .i64] (Mj k):=fR (px:=Alx _ k) (n:=0) Tryz.func23 rfl (fun cx H=>by
 have h4:Lv cx (Mi (HV [.str,.int .i64]) k):=lv H (l1 H Oe Af) Ab Aa
 have h3:Lv cx (Rc (HV [.str,.int .i64]) k):=lv H (l1 H Ct (Aq (cR H h4 Tryz.func53 rfl (n:=0) (Ak)) Af)) Ab Aa
 have hlaprint_1:=lO H h3 (b:=lp Tryz.f51 0) (k:=k) (n:=0) (s:=Ad7) (step:=Lt) (fun _ _ _ (_,_,_,_,_)=>by kernel_rfl) Ak
 have h2:Lv cx (Wn (HV [.str,.int .i64]) k):=lv H (l1 H Ct (Aq (cR H h3 Tryz.func51 rfl (n:=1) ((B7 Ak hlaprint_1))) Af)) Ab Aa
 have h5:Lv cx (Wl (HV [.str,.int .i64]) k):=lv H (l1 H Ct (l1 H Oe Af)) Ab Aa
 have h1:Lv cx (J1 (HV [.str,.int .i64]) k):=lv H (l1 H Ct (Aq (cR H h2 Tryz.func52 rfl (n:=0) (Ak)) (Aq (cR H h5 Tryz.func54 rfl (n:=0) (Ak)) Af))) Ab Aa
 have hlaprint_0:De cx (J1 (HV [.str,.int .i64]) k) (lp Tryz.f51 0):=A1p (fun _ _=>by kernel_rfl) (Ace (Tc h1.p h1.c h1.q (by rw [H.p];exact follows) (k:=k) (s:=R1) (step:=L6 k) (by kernel_rfl) (Avp _ k) (Nq (n:=0) (by kernel_rfl) Ak)) (Tc h1.p h1.c h1.q (by rw [H.p];exact follows) (k:=k) (s:=Rn) (step:=Ld) (by kernel_rfl) (Aty _ k) (Nq (n:=0) (by kernel_rfl) Ak)))
 have h0:Lv cx (Alx (HV [.str,.int .i64]) k):=lv H (c1 H Aco (l1 H A57 (l1 H Ct (l1 H Aon (l1 H Aoq (l1 H Axg (l1 H A1j (Aq (cR H h1 Tryz.func51 rfl (n:=1) ((B7 Ak hlaprint_0))) Af)))))))) Ab Aa
 exact⟨h0,Ak⟩) fun _=>by kernel_rfl
def Abq(s:Stm):Option (Str×Int):=(J8 s).bind fun x=>cond (!decide (x=0)) (some ([],x)) (cond (okP s) ((app [] (A7 s)).bind fun t=>some (t,0)) none)
def Au5:FT [.sv .stmt] [.str,.int .i64]:=fun x=>Abq x
theorem Ak8{R:Type}{kx:Ex→Pr→Option R}{s:Stm}{j:Nat}{c:Str→Option R}(hj:j<s.rows.length) (hn:ln s.rows[j].length) (hok:s.rows[j].all okx=true) (h2:∀acc,kx (.exit 0) ((s.rows[j].length:Int),(s.rows[j].length:Int),s,acc,(j:Int))=c acc) (k:Nat) (hk:s.rows[j].length<k) (out:Str) (ho:out.length≤100000000000) :
  Al (fun rec=>Lt rec kx) k ((s.rows[j].length:Int),0,s,out,(j:Int))=(app out (Bj etx s.rows[j])).bind c:=by
 have hl:=Zg2.1 hok
 refine Ks s.rows[j] etx (fun i acc=>((s.rows[j].length:Int),(i:Int),s,acc,(j:Int))) c (fun i hi acc rec =>?_) (fun acc rec =>?_) k hk out ho
 ·simp only [Lt,Gb hi,Ae,Be hi,Be hj,chk,Bc (c :=.exprs) hj,Bc (c :=.expr) hi,we (hl _ (List.getElem_mem hi)),A3 hi hn,ww,fl1]
  exact O7 i acc _ _
 ·simp only [Lt,Fz,Ah,h2]
theorem Ak7{R:Type}{kx:Ex→Hk→Option R}{s:Stm}{c:Str→Option R}(hb:BdStm s) (hok:(s.rows.all fun r=>r.all okx)=true) (h2:∀acc,kx (.exit 0) ((s.rows.length:Int),(s.rows.length:Int),s,acc)=c acc) (k:Nat) (hk:Mt s≤k) (out:Str) (ho:out.length≤100000000000) :
  Al (fun rec=>L6 k rec kx) k ((s.rows.length:Int),0,s,out)=(app out (Bj Se s.rows)).bind c:=by
 have hl:=Zg2.1 hok
 simp only [Mt] at hk
 refine Ks s.rows Se (fun i acc=>((s.rows.length:Int),(i:Int),s,acc)) c (fun i hi acc rec =>?_) (fun acc rec =>?_) k (by omega) out ho
 ·have hm:=A4j (List.getElem_mem hi)
  have hrow:∀q:Str,((app q [40]).bind fun x8=>Al (fun rc=>Lt rc (fun e v=>match v with
    |(_,_,v6,v7,_)=>match e with
     |.exit 0=>(app v7 [41]).bind fun x11=>rec ((s.rows.length:Int),((i+1:Nat):Int),v6,x11)
     |_=>none)) k ((s.rows[i].length:Int),0,s,x8,(i:Int)))=(app q (Se s.rows[i])).bind fun x=>rec ((s.rows.length:Int),((i+1:Nat):Int),s,x):=fun q=>by
   refine(C6 fun x hx=>Ak8 (c:=fun acc=>(app acc [41]).bind fun x11=>rec ((s.rows.length:Int),((i+1:Nat):Int),s,x11)) hi (hb.rows.2 _ (List.getElem_mem hi)).1 (hl _ (List.getElem_mem hi)) (fun _=>rfl) k (by omega) x hx).trans ?_
   simp only [C5,Se]
  simp only [L6,Gb hi,Ae,Be hi,chk,Bc (c :=.exprs) hi,A3 hi hb.rows.1,ww,fl1]
  refine Eq.trans ?_ (O7 i acc _ _)
  have e:∀(b:Bool) (x y x' y':Option R),x=x'→y=y'→cond b x y=cond b x' y':=fun _ _ _ _ _ h1 h2=>by rw [h1,h2]
  exact e _ _ _ _ _ (C6 fun x _=>hrow x) (hrow acc)
 ·simp only [L6,Fz,Ah,h2]
theorem Ak0{R:Type}{kx:Ex→G9→Option R}{s:Stm}{c:Str→Option R}(hb:BdStm s) (hok:(s.sets.all fun x=>okx x.e)=true) (h2:∀acc,kx (.exit 0) ((s.sets.length:Int),(s.sets.length:Int),s,acc)=c acc) (k:Nat) (hk:s.sets.length<k) (out:Str) (ho:out.length≤100000000000) :
  Al (fun rec=>Ld rec kx) k ((s.sets.length:Int),0,s,out)=(app out (Bj Xu s.sets)).bind c:=by
 have hl:=Zg2.1 hok
 refine Ks s.sets Xu (fun i acc=>((s.sets.length:Int),(i:Int),s,acc)) c (fun i hi acc rec =>?_) (fun acc rec =>?_) k hk out ho
 ·simp only [Ld,Gb hi,Ae,Be hi,chk,Bc (c :=.set) hi,Jn,we (hl _ (List.getElem_mem hi)),A3 hi hb.sets.1,ww,fl1,fl2]
  have hitem:∀q:Str,((app q (s.sets[i].name++[32,61,32])).bind fun x14=>(app x14 (etx s.sets[i].e)).bind fun x15=>rec ((s.sets.length:Int),((i+1:Nat):Int),s,x15))=(app q (Xu s.sets[i])).bind fun x=>rec ((s.sets.length:Int),((i+1:Nat):Int),s,x):=fun q=>by
   rw [C5]
   rfl
  simp only [hitem]
  exact O7 i acc _ _
 ·simp only [Ld,Fz,Ah,h2]
theorem bs(x:Str):((H4 x).bind fun t=>some (t,(0:Int)))=some (x,0):=rfl
theorem Bex(k:Nat) (s:Stm) (hb:BdStm s) (hk:Mt s≤k) (h:okP s=true) (hc:J8 s=some 0):Mj k s=((app [] (A7 s)).bind fun t=>some (t,0)):=by
 have hk2:=hk
 simp only [Mt] at hk2
 simp only [Mj,hc,Zc1,bs,ww,fl2,fl3,fl5]
 simp only [okP] at h
 simp only [A7]
 rw [decide_true,Zt1,Ah]
 by_cases h1:s.kind=1
 ·rw [if_pos h1] at h
  rw [Ze1 h1,if_pos h1,Ae,wt h]
 rw [if_neg h1] at h
 rw [Zd1 h1,if_neg h1,Ah]
 by_cases h2:s.kind=2
 ·rw [Ze1 h2,if_pos h2,Ae]
 rw [Zd1 h2,if_neg h2,Ah]
 by_cases h3:s.kind=3
 ·rw [if_neg (by omega),if_pos h3] at h
  rw [Ze1 h3,if_pos h3,Ae]
  simp only [wn h,C5]
 rw [Zd1 h3,if_neg h3,Ah]
 by_cases h4:s.kind=4
 ·rw [Ze1 h4,if_pos h4,Ae]
 rw [if_neg (by omega),if_neg h3] at h
 rw [Zd1 h4,if_neg h4,Ah]
 by_cases h5:s.kind=5
 ·rw [if_pos h5] at h
  rw [Ze1 h5,if_pos h5,Ae]
  refine(C6 fun x hx=>Ak7 (c:=fun t=>some (t,(0:Int))) hb h (fun _=>rfl) k hk x hx).trans ?_
  rw [C5]
 rw [if_neg h5] at h
 rw [Zd1 h5,if_neg h5,Ah]
 by_cases h6:s.kind=6
 ·rw [if_pos h6,Zb1] at h
  rw [Ze1 h6,if_pos h6,Ae]
  refine(C6 fun x hx=>Ak0 (c:=fun t=>(app t (whT s)).bind fun t=>some (t,(0:Int))) hb h.1 (fun acc =>?_) k (by omega) x hx).trans ?_
  ·show((H7 (s,acc)).bind fun x16=>some (x16,(0:Int)))=_
   rw [wh h.2]
  ·simp only [C5,Zj1]
 rw [if_neg h6] at h
 rw [Zd1 h6,if_neg h6,Ah]
 by_cases h7:s.kind=7
 ·rw [if_pos h7] at h
  rw [Ze1 h7,if_pos h7,Ae]
  simp only [wh h,C5]
 rw [if_neg h7,Zb1,Zg1] at h
 rw [Zd1 h7,if_neg h7,Ah,Ze1 h.1,Ae,ws h.2]
theorem A48:FO 23 [.sv .stmt] [.str,.int .i64] Au5 :=.fin 0 Awm fun s r hb hx=>⟨Mt s,by
 have hx:Abq s=some r:=hx
 simp only [Abq] at hx
 cases hc:J8 s with
 |none=>rw [hc] at hx;cases hx
 |some x =>
  rw [hc,Zc1] at hx
  by_cases h0:x=0
  ·subst h0
   cases ho:okP s with
   |false=>rw [ho] at hx;cases hx
   |true =>
    rw [ho] at hx
    exact(Bex (Mt s) s hb (Zn1 _) ho hc).trans hx
  ·rw [Zd1 h0] at hx
   rw [←hx]
   simp only [Mj,hc,Zc1]
   rw [Zd1 h0]
   rfl⟩
end Go.Proofs.YthndhaolemgbdaaGreatDoor
namespace Go.Proofs.YthndhaolemgbdaaGreatDoor
open Go.Ax
open Lp (tokS tw isWd isUp isLo isDi isIn pre A4 rnameF wordF nq qS unGo hexD rnumF D7 T3)
def dlm(r:Str):Prop:=∀c t,r=c::t→isWd (c.toNat:Int)=false∧c≠39
theorem Bg4:dlm []:=fun _ _ h=>by cases h
theorem Ars{p q:UInt8→Bool}(h:∀b,p b=true→q b=true) {w:Str}(hw:w.all p=true):w.all q=true:=Zg2.2 fun b hb=>h b (Zg2.1 hw b hb)
theorem Af6{p:Int→Bool}{w r:Str}(hw:w.all (fun b=>p b.toNat)=true) (hr:∀c t,r=c::t→p (c.toNat:Int)=false):tw p (w++r)=w:=by
 rw [Lp.tw_app r hr w]
 have h1:=(Lp.tw_full (p:=p) w).2 hw
 have h2:=Lp.tw_take p w
 rw [h1,List.take_length] at h2
 exact h2.symm
theorem Bk8{m:Str}(h:∀a t,m=a::39::t→False):pre m [120,39]=false:=by
 match m,h with
 |[],_=>rfl
 |[a],_=>simp [pre]
 |a::b::t,h =>
  have hb:b≠39:=fun e=>h a t (by rw [e])
  simp [pre,hb]
theorem Bpc:isWd 39=false:=by decide +kernel
theorem Ag9{w r:Str}(hne:w≠[]) (hw:w.all (fun b=>isWd b.toNat)=true) (hr:dlm r):pre (w++r) [120,39]=false:=by
 refine Bk8 fun a t h =>?_
 match w,hne,hw,h with
 |[x],_,_,h =>
  simp only [Zb2,Zf2,Ze2] at h
  exact(hr 39 t h.2).2 rfl
 |x::y::w,_,hw,h =>
  simp only [Zb2,Ze2] at h
  obtain⟨_,rfl,_⟩:=h
  simp only [Zv1,Zb1] at hw
  have h2:=hw.2.1
  have e:((39:UInt8).toNat:Int)=39:=rfl
  rw [e,Bpc] at h2
  cases h2
theorem Bmh{c:Int}(h:isUp c=true):A4 c=1:=by simp [A4,h]
theorem Azb:∀n:Fin 256,isLo (n.val:Int)=true→A4 (n.val:Int)=2:=by decide +kernel
theorem Bkw{b:UInt8}(h:isLo b.toNat=true):A4 b.toNat=2:=Lp.of256 (p:=fun c=>isLo c=true→A4 c=2) Azb b.toNat (Lp.u8_range b) h
theorem Abk{w r:Str}(h:wordF w=true) (hr:dlm r):tokS (w++r)=some (1,w,0,w.length):=by
 have hu:=Lp.word_up h
 have hne:w≠[]:=by rintro rfl;exact absurd h (by decide +kernel)
 have hw:w.all (fun b=>isWd b.toNat)=true:=Ars (fun b hb=>Lp.up_wd b hb) hu
 have hp:=Ag9 hne hw hr
 have ht:=Af6 hw (fun c t e=>(hr c t e).1)
 cases w with
 |nil=>exact absurd rfl hne
 |cons c t =>
  simp only [Zv1,Zb1] at hu
  have hc:A4 (Sx.byt (c::t++r) 0)=1:=Bmh hu.1
  unfold tokS
  rw [hp,ht,if_neg (by simp),if_pos hc,if_pos h]
theorem Axj{w:Str}(h:rnameF w=true):∃c t,w=c::t∧isLo c.toNat=true∧w.all (fun b=>isIn b.toNat)=true:=by
 cases w with
 |nil=>cases h
 |cons c t =>
  simp only [rnameF,Lp.okGo_zero,Zb1] at h
  exact⟨c,t,rfl,h.1.1,by simp only [Zv1,Zb1];exact⟨Lp.lo_in h.1.1,h.1.2⟩⟩
theorem Ane{w r:Str}(h:rnameF w=true) (hr:dlm r):tokS (w++r)=some (2,w,0,w.length):=by
 obtain⟨c,t,rfl,h1,h2⟩:=Axj h
 have hw:(c::t).all (fun b=>isWd b.toNat)=true:=Ars (fun b hb=>Lp.in_wd b hb) h2
 have hp:=Ag9 (by simp) hw hr
 have ht:=Af6 hw (fun c t e=>(hr c t e).1)
 have hc:A4 (Sx.byt (c::t++r) 0)=2:=Bkw h1
 unfold tokS
 rw [hp,ht,if_neg (by simp),if_neg (by rw [hc];decide),if_pos hc,if_pos h]
theorem Ah3:∀(a b:Str) (n:Int),D7 (a++b) n=(D7 a n).bind fun m=>D7 b m
 |[],b,n=>rfl
 |c::a,b,n=>by
  simp only [Zb2,D7]
  split
  ·rfl
  ·exact Ah3 a b _
theorem Axz{d:Int}(h : 0≤d∧d≤9):((dch d).toNat:Int)=48+d∧isDi ((dch d).toNat:Int)=true:=by
 have e:((dch d).toNat:Int)=48+d:=by
  simp only [dch,UInt8.toNat_ofNat']
  omega
 refine⟨e,?_⟩
 rw [e]
 simp only [isDi,Zb1,Zg1]
 omega
theorem Bc3:∀{l:List Int},dg l=true→(txt l).all (fun b=>isDi b.toNat)=true
 |[],_=>rfl
 |d::l,h=>by
  have h:=Agf.1 h
  rw [Ta,List.all_append,Bc3 h.2]
  simp [(Axz h.1).2]
theorem Atz:∀{l:List Int},dg l=true→D7 (txt l) 0=if val l≤9223372036854775807 then some (val l) else none
 |[],_=>rfl
 |d::l,h=>by
  have h:=Agf.1 h
  have hv:=Bc9 h.2
  obtain⟨hd,hdi⟩:=Axz h.1
  have hc:A4 (48+d)=3:=by rw [←hd];exact Lp.cls_di hdi
  rw [Ta,Ah3,Atz h.2,show val (d::l)=d+10*val l from rfl]
  by_cases h1:val l≤9223372036854775807
  ·rw [if_pos h1]
   simp only [Zc1,D7,hd,hc]
   by_cases h2:d+10*val l≤9223372036854775807
   ·rw [if_pos h2,if_neg (by omega)]
    congr 1
    omega
   ·rw [if_neg h2,if_pos (by omega)]
  ·rw [if_neg h1,if_neg (by omega)]
   rfl
theorem Ajb:∀(k n:Nat),n≤k→n≠0→Sx.byt (txt (J4 n)) 0≠48∧txt (J4 n)≠[]
 |0,n,h,h0=>absurd (Nat.le_zero.1 h) h0
 |k+1,n,h,h0=>by
  rw [Ls h0,Ta]
  by_cases h1:n / 10=0
  ·rw [h1,Gk]
   have e:Sx.byt (txt []++[dch ((n % 10:Nat):Int)]) 0=((dch ((n % 10:Nat):Int)).toNat:Int):=rfl
   rw [e,(Axz (by omega)).1]
   exact⟨by omega,by simp⟩
  ·obtain⟨h2,h3⟩:=Ajb k (n / 10) (by omega) h1
   rw [Lp.byt_app h3]
   exact⟨h2,by simp⟩
theorem A8o{n:Nat}(h0:n≠0):rnumF (txt (J4 n))=if(n:Int)≤9223372036854775807 then(n:Int) else -1:=by
 unfold rnumF
 rw [Atz (A1e n),Bdp]
 by_cases h:(n:Int)≤9223372036854775807
 ·rw [if_pos h,if_pos h]
  simp only
  rw [if_neg (fun e=>(Ajb n n (Zn1 _) h0).1 e.2)]
 ·rw [if_neg h,if_neg h]
def Jb(n:Nat):Str:=if n=0 then [48] else txt (J4 n)
theorem A2y(n:Nat):(Jb n).all (fun b=>isDi b.toNat)=true:=by
 unfold Jb
 split
 ·rfl
 ·exact Bc3 (A1e n)
theorem A2j(n:Nat):Jb n≠[]:=by
 unfold Jb
 split
 ·simp
 ·rename_i h;exact(Ajb n n (Zn1 _) h).2
theorem Aw2(n:Nat):rnumF (Jb n)=if(n:Int)≤9223372036854775807 then(n:Int) else -1:=by
 unfold Jb
 split
 ·rename_i h;subst h;decide +kernel
 ·rename_i h;exact A8o h
theorem A3m(n:Nat):(Jb n).all (fun b=>isWd b.toNat)=true:=Ars (fun b hb=>Lp.in_wd b (Lp.di_in b hb)) (A2y n)
theorem Atd{n:Nat}{r:Str}(hr:dlm r):tokS (Jb n++r)=if(n:Int)≤9223372036854775807 then some (3,Jb n,(n:Int),(Jb n).length) else none:=by
 have hp:=Ag9 (A2j n) (A3m n) hr
 have ht:=Af6 (A3m n) (fun c t e=>(hr c t e).1)
 have hc:A4 (Sx.byt (Jb n++r) 0)=3:=by
  have h1:=A2y n
  have h2:=A2j n
  cases hw:Jb n with
  |nil=>exact absurd hw h2
  |cons c t =>
   rw [hw] at h1
   simp only [Zv1,Zb1] at h1
   exact Lp.cls_di h1.1
 unfold tokS
 rw [hp,ht,if_neg (by simp),if_neg (by rw [hc];decide),if_neg (by rw [hc];decide),if_pos hc,Aw2]
 by_cases h:(n:Int)≤9223372036854775807
 ·rw [if_pos h,if_pos h,if_pos (by omega)]
 ·rw [if_neg h,if_neg h,if_neg (by decide)]
theorem Abi{n:Int}(h : 0≤n):Awj n=Jb n.natAbs:=by
 unfold Awj Jb
 rw [if_neg (by omega)]
 by_cases h0:n=0
 ·rw [if_pos h0,if_pos (by omega)]
 ·rw [if_neg h0,if_neg (by omega)]
theorem Awp{r:Str}(hr:∀t,r≠39::t):∀(s acc:Str),qS (quo s++39::r) acc=some (acc++s,(quo s).length+1)
 |[],acc=>by
  cases r with
  |nil=>simp [quo,qS]
  |cons d t =>
   have hd:d≠39:=fun e=>hr t (by rw [e])
   simp [quo,qS,hd]
 |b::s,acc=>by
  by_cases hb:b=39
  ·subst hb
   simp only [quo,if_true,Zb2,qS]
   rw [Awp hr s (acc++[39])]
   simp
  ·have ih:=Awp hr s (acc++[b])
   simp only [quo,if_neg hb,Zb2]
   cases hq:quo s++39::r with
   |nil=>simp at hq
   |cons d t =>
    rw [hq] at ih
    rw [qS,if_neg hb,ih]
    simp
theorem A6x{s r:Str}(h:T3 4 0 s=0) (hr:∀t,r≠39::t):tokS (39::(quo s++[39])++r)=some (4,s,0,(quo s).length+2):=by
 have hp:pre (39::(quo s++[39])++r) [120,39]=false:=by simp [pre]
 have hc:A4 (Sx.byt (39::(quo s++[39])++r) 0)=5:=by
  have e:Sx.byt (39::(quo s++[39])++r) 0=39:=rfl
  rw [e];decide +kernel
 have hd:(39::(quo s++[39])++r).drop 1=quo s++39::r:=by simp
 unfold tokS
 rw [hp,if_neg (by simp),if_neg (by rw [hc];decide),if_neg (by rw [hc];decide),if_neg (by rw [hc];decide),if_pos hc,hd,Awp hr s []]
 simp only [Zf2]
 rw [if_pos h]
theorem Bap:((List.range 256).all fun n=>decide (hexD ((hexL.getD (n / 16) 0).toNat:Int)=some ((n / 16:Nat):Int))&&decide (hexD ((hexL.getD (n % 16) 0).toNat:Int)=some ((n % 16:Nat):Int))&&nq ((hexL.getD (n / 16) 0).toNat:Int)&&nq ((hexL.getD (n % 16) 0).toNat:Int))=true:=by kernel_rfl
theorem A3n(b:UInt8):hexD ((hexL.getD (b.toNat / 16) 0).toNat:Int)=some ((b.toNat / 16:Nat):Int)∧hexD ((hexL.getD (b.toNat % 16) 0).toNat:Int)=some ((b.toNat % 16:Nat):Int)∧nq ((hexL.getD (b.toNat / 16) 0).toNat:Int)=true∧nq ((hexL.getD (b.toNat % 16) 0).toNat:Int)=true:=by
 have h:=Zg2.1 Bap b.toNat (List.mem_range.2 b.toNat_lt)
 simp only [Zb1,Zg1] at h
 exact⟨h.1.1.1,h.1.1.2,h.1.2,h.2⟩
theorem Ai2(b:UInt8) (s:Str):L9 (b::s)=hexL.getD (b.toNat / 16) 0::hexL.getD (b.toNat % 16) 0::L9 s:=rfl
theorem Amq:∀(s acc:Str),unGo (L9 s) acc=some (acc++s)
 |[],acc=>by simp [L9,unGo]
 |b::s,acc=>by
  obtain⟨h1,h2,_,_⟩:=A3n b
  rw [Ai2,unGo,h1,h2]
  simp only
  rw [Amq s]
  have e:(((b.toNat / 16:Nat):Int)*16+((b.toNat % 16:Nat):Int)).toNat=b.toNat:=by omega
  rw [e]
  simp
theorem A09:∀s:Str,(L9 s).all (fun b=>nq b.toNat)=true
 |[]=>rfl
 |b::s=>by
  obtain⟨_,_,h1,h2⟩:=A3n b
  rw [Ai2,Zv1,Zv1,h1,h2,A09 s]
  rfl
theorem A0r{s r:Str}(h:s.length≤1000):tokS (120::39::(L9 s++[39])++r)=some (5,s,0,(L9 s).length+3):=by
 have hp:pre (120::39::(L9 s++[39])++r) [120,39]=true:=by simp [pre]
 have hd:(120::39::(L9 s++[39])++r).drop 2=L9 s++39::r:=by simp
 have ht:tw nq (L9 s++39::r)=L9 s:=Af6 (A09 s) (fun c t e=>by cases e;decide +kernel)
 have hl:=Zo s
 unfold tokS
 rw [hp,if_pos rfl,hd,ht,if_neg (by simp only [Zh1,Zf1];omega),if_pos (by omega),Amq]
 simp only [Zf2]
 rw [if_neg (by omega)]
theorem A0s{v:Val}(h:B4 v=true) (hk:v.kind=1):v.n=0∧v.s=[]:=by
 simp [B4,hk] at h
 by_cases h0:v.n=0
 ·simp [h0] at h;exact⟨h0,h⟩
 ·simp [h0] at h
theorem Ae4{v:Val}(h:B4 v=true):v.kind=1∨v.kind=2∨v.kind=3∨v.kind=4∨v.kind=5:=by
 by_cases h1:v.kind=1; · exact .inl h1
 by_cases h2:v.kind=2; · exact .inr (.inl h2)
 by_cases h3:v.kind=3; · exact .inr (.inr (.inl h3))
 by_cases h4:v.kind=4; · exact .inr (.inr (.inr (.inl h4)))
 by_cases h5:v.kind=5; · exact .inr (.inr (.inr (.inr h5)))
 simp [B4,h1,h2,h3,h4,h5] at h
theorem A65(x:Str):Jm x=Lp.visF x:=by
 have e:∀b:UInt8,vis b=Lp.vis (b.toNat:Int):=fun b=>by
  simp only [vis,Lp.vis]
  rw [show decide (32≤b.toNat)=decide (32≤(b.toNat:Int)) from Zy1.2 (by omega),show decide (b.toNat≤126)=decide ((b.toNat:Int)≤126) from Zy1.2 (by omega)]
 simp only [Jm,Lp.visF]
 congr 1
 funext b
 exact e b
theorem A9o(x:Str):B4 (Val.mk 4 0 x)=Lp.rightF 4 0 x:=by
 show cond (decide ((x.length:Int)≤1000)) (Jm x) false=(decide ((x.length:Int)≤1000)&&Lp.visF x)
 rw [A65]
 cases decide ((x.length:Int)≤1000)<;>rfl
theorem Aet{v:Val}(h:B4 v=true) (hk:v.kind=4):T3 4 0 v.s=0∧v.n=0:=by
 have hn:v.n=0:=by
  by_cases h0:v.n=0
  ·exact h0
  ·simp [B4,hk,h0] at h
 have e:v=Val.mk 4 0 v.s:=by cases v;simp only at hk hn;subst hk hn;rfl
 have h2:=A9o v.s
 rw [←e,h] at h2
 refine⟨?_,hn⟩
 unfold T3
 rw [if_pos h2.symm]
theorem Yn{v:Val}(h:B4 v=true) (hk:v.kind=5):v.s.length≤1000∧v.n=0:=by
 refine⟨N5 h (.inr hk),?_⟩
 by_cases h0:v.n=0
 ·exact h0
 ·simp [B4,hk,h0] at h
def Ll(v:Val):Int×Str×Int:=if v.kind=3 then(3,Jb v.n.natAbs,v.n) else if v.kind=4 then(4,v.s,0) else if v.kind=5 then(5,v.s,0) else(1,Bf v,0)
theorem Bd5{v:Val}{r:Str}(h:B4 v=true) (hn:v.kind=3→0≤v.n∧v.n≤9223372036854775807) (hr:dlm r):tokS (Bf v++r)=some ((Ll v).1,(Ll v).2.1,(Ll v).2.2,(Bf v).length):=by
 have hr39:∀t,r≠39::t:=fun t e=>(hr 39 t e).2 rfl
 rcases Ae4 h with hk|hk|hk|hk|hk
 ·have e:Bf v=[78,85,76,76]:=by simp [Bf,h,hk]
  have e2:Ll v=(1,[78,85,76,76],0):=by simp [Ll,hk,e]
  rw [e,e2]
  exact Abk (by decide +kernel) hr
 ·have e:Bf v=if v.n=0 then [70,65,76,83,69] else [84,82,85,69]:=by simp [Bf,h,hk]
  have e2:Ll v=(1,Bf v,0):=by simp [Ll,hk]
  rw [e2]
  exact Abk (by rw [e];split<;>decide +kernel) hr
 ·obtain⟨h0,h1⟩:=hn hk
  have e:Bf v=Jb v.n.natAbs:=by simp only [Bf,h,hk];rw [←Abi h0];rfl
  have e2:Ll v=(3,Jb v.n.natAbs,v.n):=by simp [Ll,hk]
  rw [e,e2,Atd hr,if_pos (by omega)]
  have e3:((v.n.natAbs:Nat):Int)=v.n:=by omega
  rw [e3]
 ·have e:Bf v=39::(quo v.s++[39]):=by simp [Bf,h,hk]
  have e2:Ll v=(4,v.s,0):=by simp [Ll,hk]
  rw [e,e2,A6x (Aet h hk).1 hr39]
  simp
 ·have e:Bf v=120::39::(L9 v.s++[39]):=by simp [Bf,h,hk]
  have e2:Ll v=(5,v.s,0):=by simp [Ll,hk]
  rw [e,e2,A0r (Yn h hk).1]
  simp
end Go.Proofs.YthndhaolemgbdaaGreatDoor
namespace Go.Proofs.YthndhaolemgbdaaGreatDoor
open Go.Ax
end Go.Proofs.YthndhaolemgbdaaGreatDoor
namespace Go.Proofs.YthndhaolemgbdaaGreatDoor
open Go.Ax
open Lp (tokS)
def Dl(r:Str):Prop:=∀c t,r=c::t→c=32∨c=41∨c=44
theorem Azh(t:Str):Dl (32::t):=fun _ _ e=>by cases e;exact .inl rfl
theorem Bnp(t:Str):Dl (41::t):=fun _ _ e=>by cases e;exact .inr (.inl rfl)
theorem Bo8(t:Str):Dl (44::t):=fun _ _ e=>by cases e;exact .inr (.inr rfl)
theorem M5{r:Str}(h:Dl r):dlm r:=fun c t e=>by
 rcases h c t e with rfl|rfl|rfl<;>exact⟨by decide +kernel,by decide⟩
theorem A22{e:Xpr}(h:eok e.kind e.v e.name=true) (hk:e.kind=1):B4 e.v=true∧(e.v.kind=3→0≤e.v.n)∧e.name=[]:=by
 simp only [eok] at h
 rw [Ze1 hk,Zd1 (show ¬e.kind=2 by omega),Ae,Ah] at h
 simp only [Zb1,Zg1,Bool.not_eq_true',Bool.and_eq_false_iff,decide_eq_false_iff_not] at h
 obtain⟨⟨h1,h2⟩,h3⟩:=h
 refine⟨?_,fun h =>?_,h3⟩
 ·simp only [P2] at h1
  cases hv:B4 e.v with
  |true=>rfl
  |false=>rw [hv] at h1;simp at h1
 ·rcases h2 with h2|h2
  ·exact absurd h h2
  ·omega
theorem Au8{e:Xpr}(h:eok e.kind e.v e.name=true) (hk:e.kind=2):Bm e.name=true∧e.v=⟨0,0,[]⟩:=by
 simp only [eok] at h
 rw [Ze1 hk,Zd1 (show ¬e.kind=1 by omega),Ae,Ah] at h
 simp only [Zb1,Zg1] at h
 exact⟨h.2,h.1⟩
theorem Bmw{e:Xpr}(h:eok e.kind e.v e.name=true) (h1:¬e.kind=1) (h2:¬e.kind=2):e.v=⟨0,0,[]⟩∧e.name=[]:=by
 simp only [eok] at h
 rw [Zd1 h1,Zd1 h2,Ah,Ah] at h
 simp only [Zb1,Zg1] at h
 exact h
theorem Bi1{a b:Xpr}(h1:a.kind=b.kind) (h2:a.v=b.v) (h3:a.name=b.name) (h4:a.l=b.l):a=b:=by
 cases a;cases b
 simp only [Xpr.kind,Xpr.v,Xpr.name,Xpr.l] at h1 h2 h3 h4
 rw [h1,h2,h3,h4]
theorem A7j{e:Xpr}{m:Int}(h:Bl e m=true) (hk:e.kind=1∨e.kind=2):e.l=[]:=by
 obtain⟨hp,_,_⟩:=Gf h
 have:Gy e.kind=0:=by rcases hk with k|k<;>rw [k]<;>decide
 exact List.eq_nil_of_length_eq_zero (by omega)
def Ajk(k:Int):Prop:=4≤k∧k≤14
inductive Shape:Xpr→Prop where
 |atom (e:Xpr) (h:e.kind=1∨e.kind=2):Shape e
 |not (x:Xpr):Shape (.mk 3 ⟨0,0,[]⟩ [] [x])
 |neg (x:Xpr):Shape (.mk 15 ⟨0,0,[]⟩ [] [x])
 |isn (x:Xpr):Shape (.mk 16 ⟨0,0,[]⟩ [] [x])
 |op (k:Int) (x y:Xpr) (h:Ajk k):Shape (.mk k ⟨0,0,[]⟩ [] [x,y])
theorem At0{e:Xpr}{m:Int}(h:Bl e m=true):Shape e:=by
 obtain⟨hp,ho,_⟩:=Gf h
 by_cases hk:e.kind=1∨e.kind=2
 ·exact .atom e hk
 ·obtain⟨h1,h2⟩:=Bmw ho (fun h=>hk (.inl h)) (fun h=>hk (.inr h))
  have ee:e = .mk e.kind ⟨0,0,[]⟩ [] e.l:=Bi1 rfl h1 h2 rfl
  rcases W0 e.kind with ⟨p,q⟩|⟨p,q⟩|⟨p,q⟩|p
  ·exact absurd q hk
  ·obtain⟨x,hx⟩:∃x,e.l=[x]:=List.length_eq_one_iff.1 (by omega)
   rw [hx] at ee
   rcases q with q|q|q<;>rw [q] at ee<;>rw [ee]
   ·exact .not x
   ·exact .neg x
   ·exact .isn x
  ·obtain⟨x,y,hx⟩:∃x y,e.l=[x,y]:=by
    match hq:e.l,(show e.l.length=2 by omega) with
    |[x,y],_=>exact⟨x,y,rfl⟩
   rw [hx] at ee
   rw [ee]
   exact .op _ x y q
  ·omega
theorem Age(x:Xpr):etx (.mk 3 ⟨0,0,[]⟩ [] [x])=40::([78,79,84]++32::(etx x++[41])):=by
 simp [etx,etxs]
theorem Arv(x:Xpr):etx (.mk 15 ⟨0,0,[]⟩ [] [x])=40::45::(etx x++[41]):=by
 simp [etx,etxs]
theorem Agc(x:Xpr):etx (.mk 16 ⟨0,0,[]⟩ [] [x])=40::(etx x++32::73::83::32::78::85::76::76::[41]):=by
 simp [etx,etxs]
theorem Aw3{k:Int}(h:Ajk k) (x y:Xpr):etx (.mk k ⟨0,0,[]⟩ [] [x,y])=40::(etx x++32::(sgn k++32::(etx y++[41]))):=by
 simp only [Ajk] at h
 simp only [etx,etxs,etx1]
 rw [if_neg (by omega),if_neg (by omega),if_neg (by omega),if_neg (by omega),if_neg (by omega)]
 simp
def Bhc(k:Int):Bool:=(sgn k).all (fun c => !decide (c=32)) && !decide (sgn k=[]) && !decide ((sgn k).head? = some 73)
theorem Aum:Lp.wordF [78,79,84]=true:=by decide +kernel
theorem Alf{e x:Xpr}{m:Int}(h:Bl e m=true) (hx:x∈e.l):∃m',Bl x m' = true:=by
 obtain⟨_,_,hs⟩:=Gf h
 rw [Sm] at hs
 exact⟨_,Zg2.1 hs x hx⟩
end Go.Proofs.YthndhaolemgbdaaGreatDoor
namespace Go.Proofs.YthndhaolemgbdaaGreatDoor
open Go.Ax
open Lp (tokS)
section
variable {α:Type}(f : α→Str) (P : α→Prop) (D:Str→Prop)
end
theorem Ob:∀l:List Str,Lib.join l [44,32]=Bj (fun x=>x) l
 |[]=>rfl
 |[x]=>by simp [Lib.join,Bj,Dj]
 |x::y::l=>by
  have ih:=Ob (y::l)
  have e:Lib.join (x::y::l) [44,32]=x++([44,32]++Lib.join (y::l) [44,32]):=by simp [Lib.join,List.intercalate,List.intersperse]
  simp only [Bj,Dj] at ih ⊢
  rw [e,ih]
  simp only [Zj1]
def RX(e:Xpr):Prop:=Bl e 30=true∧BdExpr e
def A71(c:Col):Str:=cond (decide (c.ref=[])) [] ([32,82,69,70,69,82,69,78,67,69,83,32]++c.ref)
def CX(c:Col):Prop:=Rr c=true∧Bm c.name=true
def ckT(e:Xpr):Str:=cond (decide (Gy e.kind=0)) ([40]++(etx e++[41])) (etx e)
theorem Bel{k:Int}:Gy k=0↔(k=1∨k=2):=by
 rcases W0 k with ⟨p,h⟩|⟨p,h⟩|⟨p,h⟩|p
 ·exact⟨fun _=>h,fun _=>p⟩
 ·exact⟨fun q=>by omega,fun q=>by omega⟩
 ·exact⟨fun q=>by omega,fun q=>by omega⟩
 ·refine⟨fun q=>by omega,fun q =>?_⟩
  rcases q with rfl|rfl<;>decide
theorem Ab0{l:List Xpr}(h:Hi l=true) (hb:E8 BdExpr l):∀x,x∈l→RX x:=fun x hx=>by
 simp only [Hi,Zb1] at h
 exact⟨Zg2.1 h.2 x hx,hb.2 x hx⟩
theorem Sn{l:List Str}(h:Ew l=true):∀x,x∈l→Bm x=true:=by
 simp only [Ew,Zb1] at h
 exact((Ao2 l []).1 h.1).1
theorem Aba{α:Type}{l:List α}(h:C7 (l.length:Int)=true):l≠[]:=fun e=>by
 rw [Bcs,e] at h
 simp at h
def WX(s:Stm):Prop:=Gp s=true∧BdExpr s.whr
theorem A8u{s:Stm}(h:WX s) (hs:s.has=true):RX s.whr:=by
 have h1:=h.1
 rw [Alr,hs] at h1
 exact⟨h1,h.2⟩
theorem Bn8{s:Stm}(h:WX s) (hs:s.has=false):s.whr=noX:=by
 have h1:=h.1
 rw [Alr,hs] at h1
 exact of_decide_eq_true h1
theorem Bnw{s:Stm}(h:Gm s=noS) (hk:s.kind=1):s={ noS with kind:=1,name:=s.name,cols:=s.cols,names:=s.names,l:=s.l }:=by
 obtain⟨k,nm,on,cols,names,l,rows,sets,has,whr,order,desc,most⟩:=s
 simp only at hk
 subst hk
 simp [Gm,noS] at h
 simp [noS,h]
theorem Bls{s:Stm}(h:Gm s=noS) (hk:s.kind=2∨s.kind=4):s={ noS with kind:=s.kind,name:=s.name }:=by
 obtain⟨k,nm,on,cols,names,l,rows,sets,has,whr,order,desc,most⟩:=s
 simp only at hk
 rcases hk with rfl|rfl<;>simp [Gm,noS] at h<;>simp [noS,h]
theorem Bm4{s:Stm}(h:Gm s=noS) (hk:s.kind=3):s={ noS with kind:=3,name:=s.name,on:=s.on,names:=s.names }:=by
 obtain⟨k,nm,on,cols,names,l,rows,sets,has,whr,order,desc,most⟩:=s
 simp only at hk
 subst hk
 simp [Gm,noS] at h
 simp [noS,h]
theorem Bny{s:Stm}(h:Gm s=noS) (hk:s.kind=5):s={ noS with kind:=5,name:=s.name,rows:=s.rows }:=by
 obtain⟨k,nm,on,cols,names,l,rows,sets,has,whr,order,desc,most⟩:=s
 simp only at hk
 subst hk
 simp [Gm,noS] at h
 simp [noS,h]
theorem Bnq{s:Stm}(h:Gm s=noS) (hk:s.kind=6):s={ noS with kind:=6,name:=s.name,sets:=s.sets,has:=s.has,whr:=s.whr }:=by
 obtain⟨k,nm,on,cols,names,l,rows,sets,has,whr,order,desc,most⟩:=s
 simp only at hk
 subst hk
 simp [Gm,noS] at h
 simp [noS,h]
theorem Boy{s:Stm}(h:Gm s=noS) (hk:s.kind=7):s={ noS with kind:=7,name:=s.name,has:=s.has,whr:=s.whr }:=by
 obtain⟨k,nm,on,cols,names,l,rows,sets,has,whr,order,desc,most⟩:=s
 simp only at hk
 subst hk
 simp [Gm,noS] at h
 simp [noS,h]
theorem Bo2{s:Stm}(h:Gm s=noS) (hk:s.kind=8):s={ noS with kind:=8,name:=s.name,l:=s.l,has:=s.has,whr:=s.whr,order:=s.order,desc:=s.desc,most:=s.most }:=by
 obtain⟨k,nm,on,cols,names,l,rows,sets,has,whr,order,desc,most⟩:=s
 simp only at hk
 subst hk
 simp [Gm,noS] at h
 simp [noS,h]
theorem Xm{s:Stm}(h:Je s=true):(Bm s.name=true∧Gm s=noS)∧((s.kind=1∧(∀c,c∈s.cols→CX c)∧s.cols≠[]∧s.names≠[]∧(∀x,x∈s.names→Bm x=true)∧Hi s.l=true)
  ∨ (s.kind=2∨s.kind=4)∨(s.kind=3∧Bm s.on=true∧s.names≠[]∧∀x,x∈s.names→Bm x=true)∨(s.kind=5∧s.rows≠[]∧∀r,r∈s.rows→r≠[]∧Hi r=true)
  ∨ (s.kind=6∧s.sets≠[]∧(∀x,x∈s.sets→Bl x.e 30=true∧Bm x.name=true)∧Gp s=true)∨(s.kind=7∧Gp s=true)
  ∨ (s.kind=8∧Hi s.l=true∧Gp s=true∧(∀x,x∈s.order→Bm x=true)∧s.desc.length=s.order.length ∧ -1≤s.most)):=by
 simp only [Je,Zb1,Zg1] at h
 refine⟨h.1,?_⟩
 have h:=h.2
 by_cases h1:s.kind=1
 ·rw [if_pos h1] at h
  simp only [Zb1] at h
  obtain⟨⟨⟨⟨⟨a1,a2⟩,a3⟩,a4⟩,a5⟩,a6⟩:=h
  refine .inl ⟨h1,fun c hc=>⟨Zg2.1 a1 c hc,Sn a3 _ (List.mem_map.2 ⟨c,hc,rfl⟩)⟩,Aba a2,Aba a4,Sn a5,a6⟩
 rw [if_neg h1] at h
 by_cases h3:s.kind=3
 ·rw [if_pos h3] at h
  simp only [Zb1] at h
  exact .inr (.inr (.inl ⟨h3,h.1.1,Aba h.1.2,Sn h.2⟩))
 rw [if_neg h3] at h
 by_cases h24:s.kind=2∨s.kind=4
 ·exact .inr (.inl h24)
 rw [if_neg h24] at h
 by_cases h5:s.kind=5
 ·rw [if_pos h5] at h
  simp only [Anj,Zb1] at h
  refine .inr (.inr (.inr (.inl ⟨h5,Aba h.1,fun r hr =>?_⟩)))
  have:=Zg2.1 h.2 r hr
  simp only [Asx,Zb1,Bool.not_eq_true',decide_eq_false_iff_not] at this
  exact⟨fun e=>this.1 (by rw [e];rfl),this.2⟩
 rw [if_neg h5] at h
 by_cases h6:s.kind=6
 ·rw [if_pos h6] at h
  simp only [Zb1] at h
  exact .inr (.inr (.inr (.inr (.inl ⟨h6,Aba h.1.1.2,fun x hx=>⟨Zg2.1 h.1.1.1 x hx,Sn h.1.2 _ (List.mem_map.2 ⟨x,hx,rfl⟩)⟩,h.2⟩))))
 rw [if_neg h6] at h
 by_cases h7:s.kind=7
 ·rw [if_pos h7] at h
  exact .inr (.inr (.inr (.inr (.inr (.inl ⟨h7,h⟩)))))
 rw [if_neg h7] at h
 by_cases h8:s.kind=8
 ·rw [if_pos h8] at h
  simp only [Zb1,Zg1] at h
  obtain⟨⟨⟨⟨a1,a2⟩,a3⟩,a4⟩,a5⟩:=h
  exact .inr (.inr (.inr (.inr (.inr (.inr ⟨h8,a1,a2,Sn a3,a4,a5⟩)))))
 rw [if_neg h8] at h
 cases h
theorem Bji{s:Stm}(h : 1≤s.kind∧s.kind≤8):(A7 s).take 6=if s.kind=1∨s.kind=3 then [67,82,69,65,84,69] else if s.kind=2 then [68,82,79,80,32,84] else if s.kind=4 then [68,82,79,80,32,73] else if s.kind=5 then [73,78,83,69,82,84] else if s.kind=6 then [85,80,68,65,84,69] else if s.kind=7 then [68,69,76,69,84,69] else [83,69,76,69,67,84]:=by
 have:s.kind=1∨s.kind=2∨s.kind=3∨s.kind=4∨s.kind=5∨s.kind=6∨s.kind=7∨s.kind=8:=by omega
 rcases this with h|h|h|h|h|h|h|h<;>simp [A7,J6,Akz,h]
theorem Aga{s t:Stm}(hs : 1≤s.kind∧s.kind≤8) (ht : 1≤t.kind∧t.kind≤8) (h:A7 s=A7 t):s.kind=t.kind:=by
 have h6:=congrArg (List.take 6) h
 rw [Bji hs,Bji ht] at h6
 have e1:s.kind=1∨s.kind=2∨s.kind=3∨s.kind=4∨s.kind=5∨s.kind=6∨s.kind=7∨s.kind=8:=by omega
 have e2:t.kind=1∨t.kind=2∨t.kind=3∨t.kind=4∨t.kind=5∨t.kind=6∨t.kind=7∨t.kind=8:=by omega
 rcases e1 with k|k|k|k|k|k|k|k<;>rcases e2 with l|l|l|l|l|l|l|l<;>first
  |exact k.trans l.symm
  |(simp [k,l] at h6;done)
  |(simp [A7,J6,k,l] at h)
end Go.Proofs.YthndhaolemgbdaaGreatDoor
namespace Go.Proofs.YthndhaolemgbdaaGreatDoor
open Go.Ax
open Lp (tokS Sc A4)
theorem Bgv{m:Str}{x:Int×Str×Int×Nat}(h:tokS m=some x):A4 (Sx.byt m 0)≠6:=fun h6=>by
 by_cases hp:Lp.pre m [120,39]=true
 ·have e:Sx.byt m 0=120:=by
   match m,hp with
   |[],hp=>cases hp
   |[a],hp=>simp [Lp.pre] at hp
   |a::b::t,hp =>
    simp [Lp.pre] at hp
    rw [hp.1]
    rfl
  rw [e] at h6
  exact absurd h6 (by decide +kernel)
 ·unfold tokS at h
  rw [if_neg hp,h6] at h
  simp at h
theorem Bku{w r:Str}{q k n:Int}{s:Str}{us:TL}(h:tokS (w++r)=some (k,s,n,w.length)) (hr:Sc r (q+w.length) us):Sc (w++r) q (⟨k,q,s,n⟩::us) :=
 .tok (Bgv h) h (by rw [List.drop_left];exact hr)
theorem Bjl:A4 ((32:UInt8).toNat:Int)=6:=by decide +kernel
def Lx(D:Str→Prop) (a:Str) (Q:TL→Prop):Prop:=∀r q us,D r→Sc r (q+a.length) us→∃ts,Sc (a++r) q (ts++us)∧Q ts
def Dc(_:Str):Prop:=True
theorem Lx.app{D1 D2:Str→Prop}{a b:Str}{Q1 Q2:TL→Prop}(ha:Lx D1 a Q1) (hb:Lx D2 b Q2) (hd:∀r,D2 r→D1 (b++r)):Lx D2 (a++b) fun ts=>∃t1 t2,ts=t1++t2∧Q1 t1∧Q2 t2:=fun r q us hr hs=>by
 obtain⟨t2,h2,q2⟩:=hb r (q+a.length) us hr (by rw [Zh1] at hs;rw [show q+(a.length:Int)+(b.length:Int)=q+((a.length+b.length:Nat):Int) by omega];exact hs)
 obtain⟨t1,h1,q1⟩:=ha (b++r) q (t2++us) (hd r hr) h2
 exact⟨t1++t2,by rw [Zj1,Zj1];exact h1,t1,t2,rfl,q1,q2⟩
theorem Lx.mono{D D':Str→Prop}{a:Str}{Q Q':TL→Prop}(h:Lx D a Q) (hd:∀r,D' r→D r) (hq:∀ts,Q ts→Q' ts):Lx D' a Q':=fun r q us hr hs=>by
 obtain⟨ts,h1,h2⟩:=h r q us (hd r hr) hs
 exact⟨ts,h1,hq ts h2⟩
theorem Lx.nil{D:Str→Prop}{Q:TL→Prop}(h:Q []):Lx D [] Q:=fun r q us _ hs=>⟨[],by simpa using hs,h⟩
theorem Lx.sp{D:Str→Prop}{a:Str}{Q:TL→Prop}(h:Lx D a Q):Lx D (32::a) Q:=fun r q us hr hs=>by
 obtain⟨ts,h1,h2⟩:=h r (q+1) us hr (by rw [Zf1] at hs;rw [show q+1+(a.length:Int)=q+((a.length+1:Nat):Int) by omega];exact hs)
 exact⟨ts,.blank Bjl h1,h2⟩
theorem Lx.spb{D:Str→Prop}{a:Str}{Q:TL→Prop}(h:Lx dlm a Q):Lx D (a++[32]) Q:=fun r q us _ hs=>by
 have hd:dlm (32::r):=M5 (Azh r)
 obtain⟨ts,h1,h2⟩:=h (32::r) q us hd (.blank Bjl (by rw [Zh1,Zf1,Zi1] at hs;rw [show q+(a.length:Int)+1=q+((a.length+(0+1):Nat):Int) by omega];exact hs))
 exact⟨ts,by rw [Zj1];exact h1,h2⟩
def Boa(k:Int) (s:Str) (n:Int) (ts:TL):Prop:=∃t:Tok,ts=[t]∧t.kind=k∧t.s=s∧t.n=n
def IsW(s:Str) (ts:TL):Prop:=∃t:Tok,ts=[t]∧isT s [t]=true
theorem Lx.one{D:Str→Prop}{w s:Str}{k n:Int}(h:∀r,D r→tokS (w++r)=some (k,s,n,w.length)):Lx D w (Boa k s n):=fun r q _ hr hs =>
 ⟨[⟨k,q,s,n⟩],Bku (h r hr) hs,_,rfl,rfl,rfl,rfl⟩
theorem Bg3{k n:Int}{s:Str}(hk:k=1∨k=6) {ts:TL}(h:Boa k s n ts):IsW s ts:=by
 obtain⟨t,h1,h2,h3,_⟩:=h
 refine⟨t,h1,?_⟩
 simp only [isT,h2,h3,decide_true,Bool.and_true,Zd2,Zg1]
 exact hk
theorem Lx.word{w:Str}(h:Lp.wordF w=true):Lx dlm w (IsW w):=(Lx.one fun _ hr=>Abk h hr).mono (fun _ h=>h) (fun _ h=>Bg3 (.inl rfl) h)
theorem Bjv{c:UInt8}(hc:A4 (c.toNat:Int)=7):c≠120:=fun h=>by
 subst h
 exact absurd hc (by decide +kernel)
theorem Ani{c:UInt8}{r:Str}(hc:A4 (c.toNat:Int)=7) (h2:Lp.twoS (c::r)=false):tokS ([c]++r)=some (6,[c],0,[c].length):=by
 have hp:Lp.pre (c::r) [120,39]=false:=by simp [Lp.pre,Bjv hc]
 have hc':A4 (Sx.byt (c::r) 0)=7:=hc
 show tokS (c::r)=_
 unfold tokS
 rw [hp,if_neg (by simp),if_neg (by rw [hc'];decide),if_neg (by rw [hc'];decide),if_neg (by rw [hc'];decide),if_neg (by rw [hc'];decide),if_pos hc',h2]
 rfl
theorem A73{c d:UInt8}{r:Str}(hc:A4 (c.toNat:Int)=7) (h2:Lp.twoS (c::d::r)=true):tokS ([c,d]++r)=some (6,[c,d],0,[c,d].length):=by
 have hp:Lp.pre (c::d::r) [120,39]=false:=by simp [Lp.pre,Bjv hc]
 have hc':A4 (Sx.byt (c::d::r) 0)=7:=hc
 show tokS (c::d::r)=_
 unfold tokS
 rw [hp,if_neg (by simp),if_neg (by rw [hc'];decide),if_neg (by rw [hc'];decide),if_neg (by rw [hc'];decide),if_neg (by rw [hc'];decide),if_pos hc',h2]
 rfl
theorem Blp{c:UInt8}(h1:c≠60) (h2:c≠62) (r:Str):Lp.twoS (c::r)=false:=by simp [Lp.twoS,Lp.pre,h1,h2]
theorem Lx.sign{c:UInt8}(hc:A4 (c.toNat:Int)=7) (h1:c≠60) (h2:c≠62):Lx Dc [c] (IsW [c]):=(Lx.one fun r _=>Ani hc (Blp h1 h2 r)).mono (fun _ h=>h) (fun _ h=>Bg3 (.inr rfl) h)
theorem lx40:Lx Dc [40] (IsW [40]):=Lx.sign (by decide +kernel) (by decide) (by decide)
theorem Awb:Lx Dc [41] (IsW [41]):=Lx.sign (by decide +kernel) (by decide) (by decide)
theorem lx44:Lx Dc [44] (IsW [44]):=Lx.sign (by decide +kernel) (by decide) (by decide)
theorem lx45:Lx Dc [45] (IsW [45]):=Lx.sign (by decide +kernel) (by decide) (by decide)
theorem lx42:Lx Dc [42] (IsW [42]):=Lx.sign (by decide +kernel) (by decide) (by decide)
theorem lx61:Lx Dc [61] (IsW [61]):=Lx.sign (by decide +kernel) (by decide) (by decide)
def blD(r:Str):Prop:=∃t,r=32::t
theorem Blb{k:Int}(h:Ajk k):Lx blD (sgn k) (IsW (sgn k)):=by
 simp only [Ajk] at h
 have hk:k=4∨k=5∨k=6∨k=7∨k=8∨k=9∨k=10∨k=11∨k=12∨k=13∨k=14:=by omega
 have hd:∀r,blD r→dlm r:=fun r hr=>by
  obtain⟨t,rfl⟩:=hr
  exact M5 (Azh t)
 have two:∀c d,A4 (c.toNat:Int)=7→(∀r,Lp.twoS (c::d::r)=true)→Lx blD [c,d] (IsW [c,d]):=fun c d hc ht=>(Lx.one fun r _=>A73 hc (ht r)).mono (fun _ h=>h) (fun _ h=>Bg3 (.inr rfl) h)
 have one:∀c,A4 (c.toNat:Int)=7→(∀r,Lp.twoS (c::32::r)=false)→Lx blD [c] (IsW [c]):=fun c hc ht=>(Lx.one fun r hr=>by
  obtain⟨t,rfl⟩:=hr
  exact Ani hc (ht t)).mono (fun _ h=>h) (fun _ h=>Bg3 (.inr rfl) h)
 rcases hk with rfl|rfl|rfl|rfl|rfl|rfl|rfl|rfl|rfl|rfl|rfl
 ·exact(Lx.word (by decide +kernel)).mono hd (fun _ h=>h)
 ·exact(Lx.word (by decide +kernel)).mono hd (fun _ h=>h)
 ·exact one 61 (by decide +kernel) (fun r=>by simp [Lp.twoS,Lp.pre])
 ·exact two 60 62 (by decide +kernel) (fun r=>by simp [Lp.twoS,Lp.pre])
 ·exact one 60 (by decide +kernel) (fun r=>by simp [Lp.twoS,Lp.pre])
 ·exact two 60 61 (by decide +kernel) (fun r=>by simp [Lp.twoS,Lp.pre])
 ·exact one 62 (by decide +kernel) (fun r=>by simp [Lp.twoS,Lp.pre])
 ·exact two 62 61 (by decide +kernel) (fun r=>by simp [Lp.twoS,Lp.pre])
 ·exact one 43 (by decide +kernel) (fun r=>by simp [Lp.twoS,Lp.pre])
 ·exact one 45 (by decide +kernel) (fun r=>by simp [Lp.twoS,Lp.pre])
 ·exact one 42 (by decide +kernel) (fun r=>by simp [Lp.twoS,Lp.pre])
structure isPE (ts:TL) (e:Xpr):Prop where
 ne:ts≠[]
 hn:isT sNOT ts=false
 hm:isT [45] ts=false
 hs:isT [42] ts=false
 rd:∀us,Bo orW (ts++us) = .ok (e,us)
def Stop(us:TL):Prop:=Bp us=(0,0)∧isT sIS us=false
def isIn(ts:TL) (e:Xpr):Prop:=∀us,Stop us→orW (ts++us) = .ok (e,us)
def Ax5(ts:TL) (e:Xpr):Prop:=∃o ti c:TL,ts=o++(ti++c)∧IsW [40] o∧IsW [41] c∧isIn ti e
theorem Oz{k h:Nat}{e:Xpr}{us:TL}(hs:Stop us):C0 VV k (e,h,us)=none:=Ku (fun q=>by rw [hs.2] at q;cases q.1) (.inl (by rw [hs.1]))
theorem Ba2{s w:Str}{t:Tok}{r:TL}(h:isT s [t]=true) (hw:¬w=s):isT w (t::r)=false:=by
 simp only [isT,Zb1,Zg1] at h
 simp only [isT,Bool.and_eq_false_iff,decide_eq_false_iff_not]
 exact .inr fun e=>hw (e.symm.trans h.2)
theorem Acb{s w:Str}{o:TL}(h:IsW s o) (hw:¬w=s) (r:TL):isT w (o++r)=false:=by
 obtain⟨t,rfl,h⟩:=h
 exact Ba2 h hw
theorem Di{s:Str}{o:TL}(h:IsW s o) (r:TL):isT s (o++r)=true:=by
 obtain⟨t,rfl,h⟩:=h
 exact h
theorem Dd{s:Str}{o:TL}(h:IsW s o) (r:TL):(o++r).tail=r:=by
 obtain⟨t,rfl,h⟩:=h
 rfl
theorem Bgo{s:Str}{o:TL}(h:IsW s o):o≠[]:=by
 obtain⟨t,rfl,h⟩:=h
 simp
theorem A11{s:Str}{o:TL}(h:IsW s o) (r:TL):Bp (o++r)=bindS s:=by
 obtain⟨t,rfl,h⟩:=h
 simp only [isT,Zb1,Zg1] at h
 show Bp (t::r)=_
 simp only [Bp,h.1,h.2]
theorem Azw{s:Str}{o:TL}(h:IsW s o) (h1:bindS s=(0,0)) (h2:¬sIS=s) (r:TL):Stop (o++r):=⟨by rw [A11 h,h1],Acb h h2 r⟩
theorem Sb{ts:TL}{e:Xpr}(h:isPE ts e) {k:Nat}(h1 : 1≤k) (h7:k≤7) {us:TL}(hs:Stop us):VV k (ts++us) = .ok (e,us):=by
 rw [←Aun h1 h7]
 have hp:I1 VV k (ts++us) = .ok (e,7,us):=by
  simp only [I1,E3 h.ne,h.hn,h.hm,Bool.false_and,Nj,h.rd us]
 have hl:Ch VV k (us.length+1) (e,7,us) = .ok (e,7,us):=E5 (Oz hs)
 simp only [exB,exT,hp,Zr,hl]
theorem Bo0{t1 t2 o:TL}{a b:Xpr}{s:Str}{p:Nat}{k:Int}(h1:isPE t1 a) (h2:isPE t2 b) (ho:IsW s o) (hb:bindS s=(p,k)) (hp : 1≤p) (hi:¬sIS=s):isIn (t1++(o++t2)) (mkX k [a,b]):=fun us hs=>by
 have hle:p≤6:=by have:=(A0w s).1;rw [hb] at this;exact this
 rw [←Nj,←Aun (by omega) (by omega),Zj1,Zj1]
 have hpr:I1 VV 1 (t1++(o++(t2++us))) = .ok (a,7,o++(t2++us)):=by
  simp only [I1,E3 h1.ne,h1.hn,h1.hm,Bool.false_and,Nj,h1.rd]
 have hst:C0 VV 1 (a,7,o++(t2++us))=some (.ok (mkX k [a,b],p,us)):=by
  simp only [C0,A11 ho,hb,Acb ho hi,Dd ho,Sb h2 (show 1≤p+1 by omega) (show p+1≤7 by omega) hs]
  rw [if_neg (by simp),if_neg (by omega)]
 obtain⟨n,hn⟩:∃n,(o++(t2++us)).length=n+1:=⟨(o++(t2++us)).length-1,by
  have:=List.length_pos_iff.2 (Bgo ho)
  simp only [Zh1]
  omega⟩
 have hl:Ch VV 1 ((o++(t2++us)).length+1) (a,7,o++(t2++us)) = .ok (mkX k [a,b],p,us):=by
  rw [hn]
  simp only [Ch,hst]
  exact E5 (Oz hs)
 simp only [exB,exT,hpr,Zr,hl]
theorem Bjz{t o:TL}{a:Xpr}(h:isPE t a) (ho:IsW sNOT o):isIn (o++t) (mkX 3 [a]):=fun us hs=>by
 rw [←Nj,←Aun (by omega) (by omega),Zj1]
 have hpr:I1 VV 1 (o++(t++us)) = .ok (mkX 3 [a],3,us):=by
  simp only [I1,Di ho,Dd ho,Sb h (show 1≤3 by omega) (show 3≤7 by omega) hs]
  rfl
 have hl:Ch VV 1 (us.length+1) (mkX 3 [a],3,us) = .ok (mkX 3 [a],3,us):=E5 (Oz hs)
 simp only [exB,exT,hpr,Zr,hl]
theorem Bma{t o:TL}{a:Xpr}(h:isPE t a) (ho:IsW [45] o):isIn (o++t) (mkX 15 [a]):=fun us hs=>by
 rw [←Nj,←Aun (by omega) (by omega),Zj1]
 have hpr:I1 VV 1 (o++(t++us)) = .ok (mkX 15 [a],7,us):=by
  simp only [I1,Acb ho (show ¬sNOT=[45] by decide),Bool.false_and,Di ho,Dd ho,Sb h (show 1≤7 by omega) (show 7≤7 by omega) hs]
 have hl:Ch VV 1 (us.length+1) (mkX 15 [a],7,us) = .ok (mkX 15 [a],7,us):=E5 (Oz hs)
 simp only [exB,exT,hpr,Zr,hl]
theorem Bkt{t o p:TL}{a:Xpr}(h:isPE t a) (ho:IsW sIS o) (hp:IsW sNULL p):isIn (t++(o++p)) (mkX 16 [a]):=fun us hs=>by
 rw [←Nj,←Aun (by omega) (by omega),Zj1,Zj1]
 have hpr:I1 VV 1 (t++(o++(p++us))) = .ok (a,7,o++(p++us)):=by
  simp only [I1,E3 h.ne,h.hn,h.hm,Bool.false_and,Nj,h.rd]
 have hst:C0 VV 1 (a,7,o++(p++us))=some (.ok (mkX 16 [a],4,us)):=by
  simp only [C0,Di ho,isP,Dd ho,Acb hp (show ¬sNOT=sNULL by decide),Di hp,Dd hp]
  rfl
 obtain⟨n,hn⟩:∃n,(o++(p++us)).length=n+1:=⟨(o++(p++us)).length-1,by
  have:=List.length_pos_iff.2 (Bgo ho)
  simp only [Zh1]
  omega⟩
 have hl:Ch VV 1 ((o++(p++us)).length+1) (a,7,o++(p++us)) = .ok (mkX 16 [a],4,us):=by
  rw [hn]
  simp only [Ch,hst]
  exact E5 (Oz hs)
 simp only [exB,exT,hpr,Zr,hl]
theorem A25{ts:TL}{e:Xpr}(h:Ax5 ts e):isPE ts e:=by
 obtain⟨o,ti,c,rfl,ho,hc,hi⟩:=h
 refine⟨fun e=>Bgo ho (List.append_eq_nil_iff.1 e).1,Acb ho (by decide) _,Acb ho (by decide) _,Acb ho (by decide) _,fun us =>?_⟩
 have h1:=hi (c++us) (Azw hc (by decide) (by decide) us)
 have hb:isT [41] (c++us)=true:=Di hc us
 have ht:(c++us).tail=us:=Dd hc us
 obtain⟨t,rfl,h0⟩:=ho
 have hs:t.s=[40]∧(t.kind=1∨t.kind=6):=by
  simp only [isT,Zb1,Zd2,Zg1] at h0
  exact⟨h0.2,h0.1⟩
 have n:∀w:Str,¬w=[40]→¬(t.kind=1∧t.s=w):=fun w hw q=>hw (q.2.symm.trans hs.1)
 show Bo orW (t::((ti++c)++us))=_
 have h2:isT [40] (t::((ti++c)++us))=true:=h0
 simp only [Bo]
 rw [if_neg (by omega),if_neg (by omega),if_neg (by omega),if_neg (by omega),if_neg (n _ (by decide)),if_neg (n _ (by decide)),if_neg (n _ (by decide)),if_pos h2,Zj1,h1]
 simp only [if_pos hb,ht]
theorem U7{v:Val}{k n:Int}{s:Str}(h1:v.kind=k) (h2:v.n=n) (h3:v.s=s):v=⟨k,n,s⟩:=by
 cases v
 simp only at h1 h2 h3
 rw [h1,h2,h3]
theorem Ayc{v:Val}(h:B4 v=true) (hk:v.kind=2):(v.n=0∨v.n=1)∧v.s=[]:=by
 simp [B4,hk] at h
 by_cases h0:v.n=0
 ·simp [h0] at h;exact⟨.inl h0,h⟩
 ·by_cases h1:v.n=1
  ·simp [h1] at h;exact⟨.inr h1,h⟩
  ·simp [h0,h1] at h
theorem Bgm{e:Xpr}{m:Int}(h:Bl e m=true) (hb:BdExpr e) (hk:e.kind=1∨e.kind=2):Lx dlm (etx e) (fun ts=>isPE ts e):=by
 obtain⟨_,ho,_⟩:=Gf h
 have hl:=A7j h hk
 rw [Axp]
 rcases hk with k1|k2
 ·rw [if_pos k1]
  obtain⟨h1,h2,h3⟩:=A22 ho k1
  have hn:=(Bns hb).1.2.1
  simp only [inI] at hn
  refine(Lx.one fun r hr=>Bd5 h1 (fun hk=>⟨h2 hk,hn.2⟩) hr).mono (fun _ h=>h) (fun ts hts =>?_)
  obtain⟨t,rfl,a1,a2,a3⟩:=hts
  have ee:e = .mk 1 e.v [] []:=by
   cases e
   simp only [Xpr.kind,Xpr.name,Xpr.l] at k1 h3 hl
   simp only [Xpr.v]
   rw [k1,h3,hl]
  have fin:∀(k n:Int) (s:Str),e.v=⟨k,n,s⟩→((t.kind=1∧(t.s=sNULL∨t.s=Yw∨t.s=P4))∨t.kind=3∨t.kind=4∨t.kind=5)→(∀us,Bo orW (t::us) = .ok (Kg k n s,us))→isPE [t] e:=fun k n s hv hk hr=>by
   have no:∀w:Str,¬w=sNULL→¬w=Yw→¬w=P4→isT w [t]=false:=fun w w1 w2 w3=>by
    simp only [isT,Bool.and_eq_false_iff,Bool.or_eq_false_iff,decide_eq_false_iff_not]
    rcases hk with ⟨_,q|q|q⟩|q
    ·exact .inr fun e=>w1 (e.symm.trans q)
    ·exact .inr fun e=>w2 (e.symm.trans q)
    ·exact .inr fun e=>w3 (e.symm.trans q)
    ·exact .inl ⟨by omega,by omega⟩
   refine⟨by simp,no _ (by decide) (by decide) (by decide),no _ (by decide) (by decide) (by decide),no _ (by decide) (by decide) (by decide),fun us =>?_⟩
   rw [ee,hv]
   exact hr us
  rcases Ae4 h1 with hk|hk|hk|hk|hk
  ·obtain⟨b1,b2⟩:=A0s h1 hk
   have e1:Bf e.v=sNULL:=by simp [Bf,h1,hk,sNULL]
   have e2:Ll e.v=(1,sNULL,0):=by simp [Ll,hk,e1]
   rw [e2] at a1 a2
   refine fin 1 0 [] (U7 hk b1 b2) (.inl ⟨a1,.inl a2⟩) (fun us =>?_)
   simp only [Bo,a1,a2]
   rfl
  ·obtain⟨b1,b2⟩:=Ayc h1 hk
   have e2:Ll e.v=(1,Bf e.v,0):=by simp [Ll,hk]
   have e1:Bf e.v=if e.v.n=0 then [70,65,76,83,69] else [84,82,85,69]:=by simp [Bf,h1,hk]
   rw [e2] at a1 a2
   rcases b1 with b1|b1
   ·have e3:Bf e.v=P4:=by rw [e1,if_pos b1];rfl
    rw [e3] at a2
    refine fin 2 0 [] (U7 hk b1 b2) (.inl ⟨a1,.inr (.inr a2)⟩) (fun us =>?_)
    simp only [Bo,a1,a2]
    rfl
   ·have e3:Bf e.v=Yw:=by rw [e1,if_neg (by omega)];rfl
    rw [e3] at a2
    refine fin 2 1 [] (U7 hk b1 b2) (.inl ⟨a1,.inr (.inl a2)⟩) (fun us =>?_)
    simp only [Bo,a1,a2]
    rfl
  ·have b2:e.v.s=[]:=by simpa [B4,hk] using h1
   have e2:Ll e.v=(3,Jb e.v.n.natAbs,e.v.n):=by simp [Ll,hk]
   rw [e2] at a1 a3
   refine fin 3 e.v.n [] (U7 hk rfl b2) (.inr (.inl a1)) (fun us =>?_)
   simp only [Bo,a1,a3]
   rfl
  ·have b1:=(Aet h1 hk).2
   have e2:Ll e.v=(4,e.v.s,0):=by simp [Ll,hk]
   rw [e2] at a1 a2
   refine fin 4 0 e.v.s (U7 hk b1 rfl) (.inr (.inr (.inl a1))) (fun us =>?_)
   simp only [Bo,a1,a2]
   rfl
  ·have b1:=(Yn h1 hk).2
   have e2:Ll e.v=(5,e.v.s,0):=by simp [Ll,hk]
   rw [e2] at a1 a2
   refine fin 5 0 e.v.s (U7 hk b1 rfl) (.inr (.inr (.inr a1))) (fun us =>?_)
   simp only [Bo,a1,a2]
   rfl
 ·rw [if_neg (by omega),if_pos k2]
  obtain⟨h1,h2⟩:=Au8 ho k2
  have h1':Lp.rnameF e.name=true:=by
   have h1:Lp.nameF e.name=true:=h1
   rw [Lp.name_eq] at h1
   exact h1
  refine(Lx.one fun r hr=>Ane h1' hr).mono (fun _ h=>h) (fun ts hts =>?_)
  obtain⟨t,rfl,a1,a2,a3⟩:=hts
  have no:∀w:Str,isT w [t]=false:=fun w=>by simp only [isT,a1];rfl
  refine⟨by simp,no _,no _,no _,fun us =>?_⟩
  have ee:e = .mk 2 ⟨0,0,[]⟩ e.name []:=by
   cases e
   simp only [Xpr.kind,Xpr.v,Xpr.l] at k2 h2 hl
   simp only [Xpr.name]
   rw [k2,h2,hl]
  show Bo orW (t::us)=_
  simp only [Bo,a1,a2]
  rw [ee]
  rfl
theorem A8j{k:Int}(h:Ajk k):∃p,bindS (sgn k)=(p,k)∧1≤p:=by
 simp only [Ajk] at h
 have hk:k=4∨k=5∨k=6∨k=7∨k=8∨k=9∨k=10∨k=11∨k=12∨k=13∨k=14:=by omega
 rcases hk with rfl|rfl|rfl|rfl|rfl|rfl|rfl|rfl|rfl|rfl|rfl<;>exact⟨_,rfl,by decide⟩
theorem Bli{k:Int}(h:Ajk k):¬sIS=sgn k:=by
 simp only [Ajk] at h
 have hk:k=4∨k=5∨k=6∨k=7∨k=8∨k=9∨k=10∨k=11∨k=12∨k=13∨k=14:=by omega
 rcases hk with rfl|rfl|rfl|rfl|rfl|rfl|rfl|rfl|rfl|rfl|rfl<;>decide
theorem Axl:∀(n:Nat) (e:Xpr) (m:Int),Bi e≤n→Bl e m=true→BdExpr e→Lx dlm (etx e) (fun ts=>isPE ts e∧(e.kind=1∨e.kind=2∨Ax5 ts e))
 |0,e,_,h,_,_=>by have:=Hw e;omega
 |n+1,e,m,hn,he,hb=>by
  have ih:∀x,x∈e.l→Lx dlm (etx x) (fun ts=>isPE ts x):=fun x hx=>by
   obtain⟨m1,h1⟩:=Alf he hx
   refine(Axl n x m1 ?_ h1 ((Ae9 hb).2 x hx)).mono (fun _ h=>h) (fun _ h=>h.1)
   have:=E7 hx
   rw [Ln] at hn
   omega
  have dm41:∀r,Dc r→dlm ([41]++r):=fun r _=>M5 (Bnp r)
  have any:∀{D:Str→Prop}(r:Str),D r→Dc r:=fun _ _=>trivial
  have sh:=At0 he
  cases sh with
  |atom _ hk=>exact(Bgm he hb hk).mono (fun _ h=>h) (fun _ h=>⟨h,hk.imp_right fun q =>.inl q⟩)
  |not x =>
   rw [Age]
   have h:=lx40.app (((Lx.word (w:=sNOT) Aum).app ((ih x Zr1).sp.app Awb dm41) (fun r _=>M5 (Azh _)))) (fun r _=>trivial)
   refine(show Lx Dc _ _ from h).mono (fun _ _=>trivial) (fun ts hts =>?_)
   obtain⟨o,t1,rfl,ho,w,t2,rfl,hw,tx,c,rfl,hx,hc⟩:=hts
   have hbr:Ax5 (o++(w++(tx++c))) (mkX 3 [x]):=⟨o,w++tx,c,by simp only [Zj1],ho,hc,Bjz hx hw⟩
   exact⟨A25 hbr,.inr (.inr hbr)⟩
  |neg x =>
   rw [Arv]
   have h:=lx40.app (lx45.app ((ih x Zr1).app Awb dm41) (fun r _=>trivial)) (fun r _=>trivial)
   refine(show Lx Dc _ _ from h).mono (fun _ _=>trivial) (fun ts hts =>?_)
   obtain⟨o,t1,rfl,ho,w,t2,rfl,hw,tx,c,rfl,hx,hc⟩:=hts
   have hbr:Ax5 (o++(w++(tx++c))) (mkX 15 [x]):=⟨o,w++tx,c,by simp only [Zj1],ho,hc,Bma hx hw⟩
   exact⟨A25 hbr,.inr (.inr hbr)⟩
  |isn x =>
   rw [Agc]
   have h:=lx40.app ((ih x Zr1).app (((Lx.word (w:=sIS) (by decide +kernel)).app (((Lx.word (w:=sNULL) (by decide +kernel)).app Awb dm41).sp) (fun r _=>M5 (Azh _))).sp) (fun r _=>M5 (Azh _))) (fun r _=>trivial)
   refine(show Lx Dc _ _ from h).mono (fun _ _=>trivial) (fun ts hts =>?_)
   obtain⟨o,t1,rfl,ho,tx,t2,rfl,hx,w,t3,rfl,hw,v,c,rfl,hv,hc⟩:=hts
   have hbr:Ax5 (o++(tx++(w++(v++c)))) (mkX 16 [x]):=⟨o,tx++(w++v),c,by simp only [Zj1],ho,hc,Bkt hx hw hv⟩
   exact⟨A25 hbr,.inr (.inr hbr)⟩
  |op k x y hk =>
   rw [Aw3 hk]
   have h:=lx40.app ((ih x Zr1).app (((Blb hk).app (((ih y (Zu1 _ Zr1)).app Awb dm41).sp) (fun r _=>⟨_,rfl⟩)).sp) (fun r _=>M5 (Azh _))) (fun r _=>trivial)
   refine(show Lx Dc _ _ from h).mono (fun _ _=>trivial) (fun ts hts =>?_)
   obtain⟨o,t1,rfl,ho,tx,t2,rfl,hx,w,t3,rfl,hw,ty,c,rfl,hy,hc⟩:=hts
   obtain⟨p,hp,hp1⟩:=A8j hk
   have hbr:Ax5 (o++(tx++(w++(ty++c)))) (mkX k [x,y]):=⟨o,tx++(w++ty),c,by simp only [Zj1],ho,hc,Bo0 hx hy hw hp hp1 (Bli hk)⟩
   exact⟨A25 hbr,.inr (.inr hbr)⟩
end Go.Proofs.YthndhaolemgbdaaGreatDoor
namespace Go.Proofs.YthndhaolemgbdaaGreatDoor
open Go.Ax
open Lp (tokS Sc A4)
def Rd{α:Type}(p:TL→PR α) (D:Str→Prop) (S T:TL→Prop) (a:Str) (x : α):Prop:=Lx D a fun ts=>∀vs,S vs→T (ts++vs)∧p (ts++vs) = .ok (x,vs)
def Cz(_:TL):Prop:=True
section
variable {α β:Type}{p:TL→PR α}{D D1 D2:Str→Prop}{S S1 S2 T T1 T2:TL→Prop}{a b:Str}{x : α}{y : β}
theorem Rd.bind{f : α→TL→PR β}(h1:Rd p D1 S1 T1 a x) (h2:Rd (f x) D2 S2 T2 b y) (hd:∀r,D2 r→D1 (b++r)) (hs:∀l,T2 l→S1 l):Rd (bP p f) D2 S2 T1 (a++b) y :=
 (Lx.app h1 h2 hd).mono (fun _ h=>h) fun ts ⟨t1,t2,e,q1,q2⟩ vs hv=>by
  subst e
  obtain⟨a1,a2⟩:=q2 vs hv
  obtain⟨b1,b2⟩:=q1 (t2++vs) (hs _ a1)
  rw [Zj1]
  refine⟨b1,?_⟩
  simp only [bP,b2,a2]
theorem Rd.map{g : α→β}(h:Rd p D S T a x):Rd (bP p fun x=>Cn (g x)) D S T a (g x) :=
 Lx.mono h (fun _ h=>h) fun _ q vs hv=>⟨(q vs hv).1,by simp only [bP,(q vs hv).2];rfl⟩
theorem Rd.mono(h:Rd p D1 S1 T1 a x) (hd:∀r,D2 r→D1 r) (hs:∀l,S2 l→S1 l) (ht:∀l,T1 l→T2 l):Rd p D2 S2 T2 a x :=
 Lx.mono h hd fun _ q vs hv=>⟨ht _ (q vs (hs vs hv)).1,(q vs (hs vs hv)).2⟩
end
def hdW(w:Str) (l:TL):Prop:=isT w l=true
def No(W:List Str) (l:TL):Prop:=∀w,w∈W→isT w l=false
theorem Aes{w:Str}{W:List Str}(hw:¬w∈W) {l:TL}(h:hdW w l):No W l:=fun v hv=>by
 cases l with
 |nil=>rfl
 |cons t r =>
  simp only [hdW,isT,Zb1,Zg1] at h
  simp only [isT,Bool.and_eq_false_iff,decide_eq_false_iff_not]
  exact .inr fun e=>hw (by rw [←h.2,e];exact hv)
theorem Agt{w:Str}(h1:bindS w=(0,0)) (h2:¬sIS=w) {l:TL}(h:hdW w l):Stop l:=by
 cases l with
 |nil=>cases h
 |cons t r=>exact Azw (o:=[t]) ⟨t,rfl,h⟩ h1 h2 r
theorem U0{W V:List Str}(h:∀w,w∈V→w∈W) {l:TL}(hl:No W l):No V l:=fun w hw=>hl w (h w hw)
theorem Bc7:Stop []:=⟨rfl,rfl⟩
theorem Bj6(W:List Str):No W []:=fun _ _=>rfl
theorem Dx{w a:Str}{D:Str→Prop}(h:Lx D a (IsW w)):Rd (A5 [w]) D Cz (hdW w) a () :=
 h.mono (fun _ h=>h) fun ts q vs _=>⟨Di q vs,by simp only [A5,Di q,Dd q]⟩
theorem Kl{α:Type}{w a b:Str}{D D':Str→Prop}{S T:TL→Prop}{p q:TL→PR α}{x : α}(h:Lx D a (IsW w)) (hb:Rd p D' S T b x) (hd:∀r,D' r→D (b++r)):Rd (fun l=>match isT w l with|true=>p l.tail|false=>q l) D' S (hdW w) (a++b) x :=
 (Lx.app h hb hd).mono (fun _ h=>h) fun ts ⟨t1,t2,e,q1,q2⟩ vs hv=>by
  subst e
  rw [Zj1]
  exact⟨Di q1 _,by simp only [Di q1,Dd q1];exact(q2 vs hv).2⟩
theorem Dy{α:Type}{w b:Str}{D:Str→Prop}{S T:TL→Prop}{p q:TL→PR α}{x : α}(hb:Rd q D S T b x) (hT:∀l,T l→isT w l=false):Rd (fun l=>match isT w l with|true=>p l.tail|false=>q l) D S T b x :=
 Lx.mono hb (fun _ h=>h) fun ts q2 vs hv=>by
  obtain⟨h1,h2⟩:=q2 vs hv
  exact⟨h1,by simp only [hT _ h1];exact h2⟩
def noW(l:TL):Prop:=∀w,isT w l=false
theorem Ft{s:Str}(h:Bm s=true):Rd B0 dlm Cz noW s s:=by
 have h1:Lp.nameF s=true:=h
 rw [Lp.name_eq] at h1
 refine(Lx.one fun r hr=>Ane h1 hr).mono (fun _ h=>h) fun ts hts vs _ =>?_
 obtain⟨t,rfl,a1,a2,_⟩:=hts
 refine⟨fun w =>?_,?_⟩
 ·show isT w (t::vs)=false
  simp only [isT,a1]
  rfl
 ·show B0 (t::vs)=_
  simp only [B0,a1,a2,decide_true]
theorem Bcn{e:Xpr}(h:RX e):Rd orW dlm Stop (fun l=>isT [42] l=false) (etx e) e :=
 (Axl (Bi e) e 30 (Zn1 _) h.1 h.2).mono (fun _ h=>h) fun ts q vs hv=>⟨(E3 q.1.ne _ _).trans q.1.hs,by rw [←Nj];exact Sb q.1 (by omega) (by omega) hv⟩
theorem Apb{α:Type}{part:TL→PR α}{f : α→Str}{D:Str→Prop}{S T:TL→Prop}(hD:∀t,D (44::32::t)) (hS:∀l,hdW [44] l→S l):∀l:List α,(∀x,x∈l→Rd part D S T (f x) x)→Lx D (Dj f l) fun ts=>∀vs,S vs∧isT [44] vs=false→S (ts++vs)∧∀k acc,(ts++vs).length<k→Bb part k acc (ts++vs) = .ok (acc++l,vs)
 |[],_=>Lx.nil fun vs hv=>⟨hv.1,fun k acc hk=>by
  obtain⟨k,rfl⟩:∃k',k=k'+1:=⟨k-1,by omega⟩
  simp only [Zf2,Bb,hv.2,List.append_nil]⟩
 |x::l,h=>by
  have hx:=h x Zr1
  have ih:=Apb hD hS l fun y hy=>h y (Zu1 _ hy)
  have hd:∀r,D r→D (Dj f l++r):=fun r hr=>by
   cases l with
   |nil=>exact hr
   |cons y l=>exact hD _
  have e:Dj f (x::l)=[44]++(32::(f x++Dj f l)):=by simp [Dj]
  rw [e]
  refine(lx44.app (Lx.sp (Lx.app hx ih hd)) (fun _ _=>trivial)).mono (fun _ h=>h) fun ts hts vs hv =>?_
  obtain⟨c,t1,rfl,hc,tx,tr,rfl,q1,q2⟩:=hts
  obtain⟨r1,r2⟩:=q2 vs hv
  obtain⟨_,p2⟩:=q1 (tr++vs) r1
  refine⟨by rw [Zj1];exact hS _ (Di hc _),fun k acc hk =>?_⟩
  obtain⟨k,rfl⟩:∃k',k=k'+1:=⟨k-1,by omega⟩
  have hcl:=List.length_pos_iff.2 (Bgo hc)
  simp only [Zh1] at hk
  simp only [Zj1,Bb,Di hc,Dd hc,p2]
  rw [r2 k (acc++[x]) (by simp only [Zh1];omega)]
  simp
theorem Zj{α:Type}{part:TL→PR α}{f : α→Str}{D:Str→Prop}{S T:TL→Prop}(hD:∀t,D (44::32::t)) (hS:∀l,hdW [44] l→S l) {l:List α}(hl:l≠[]) (h:∀x,x∈l→Rd part D S T (f x) x):Rd (G1 part) D (fun l=>S l∧isT [44] l=false) T (Bj f l) l:=by
 cases l with
 |nil=>exact absurd rfl hl
 |cons x l =>
  have hx:=h x Zr1
  have ht:=Apb hD hS l fun y hy=>h y (Zu1 _ hy)
  have hd:∀r,D r→D (Dj f l++r):=fun r hr=>by
   cases l with
   |nil=>exact hr
   |cons y l=>exact hD _
  refine(Lx.app hx ht hd).mono (fun _ h=>h) fun ts hts vs hv =>?_
  obtain⟨tx,tr,rfl,q1,q2⟩:=hts
  obtain⟨r1,r2⟩:=q2 vs hv
  obtain⟨p1,p2⟩:=q1 (tr++vs) r1
  rw [Zj1]
  refine⟨p1,?_⟩
  simp only [G1,p2]
  rw [r2 _ [x] (by omega)]
  rfl
theorem D5{D:Str→Prop}:∀r,D r→Dc r:=fun _ _=>trivial
theorem B3{S:TL→Prop}:∀l,S l→Cz l:=fun _ _=>trivial
theorem Y4(t:Str):dlm (32::t):=M5 (Azh t)
theorem dm41(t:Str):dlm (41::t):=M5 (Bnp t)
theorem Azm(t:Str):dlm (44::t):=M5 (Bo8 t)
theorem Ast{l:List Str}(hl:l≠[]) (h:∀x,x∈l→Bm x=true):Rd Nb Dc Cz (hdW [40]) (nmT l) l:=by
 unfold nmT
 rw [Ob]
 refine(Dx lx40).bind (D2:=Dc) (T2:=noW) ?_ D5 B3
 refine(Zj (S:=Cz) (fun _=>Azm _) B3 hl fun x hx=>Ft (h x hx)).bind (T2:=hdW [41]) ?_ (fun r _=>dm41 _) (fun l hl=>⟨trivial,Aes (W:=[[44]]) (by decide) hl _ (by simp)⟩)
 exact(Dx Awb).map
theorem Bfh{l:TL}(h:hdW [44] l):Stop l:=Agt (by decide) (by decide) h
theorem Bj3{l:TL}(h:hdW [41] l):Stop l:=Agt (by decide) (by decide) h
theorem Bn1{w:Str}(hw:¬w=[44]) {l:TL}(h:hdW w l):isT [44] l=false:=Aes (W:=[[44]]) (by simpa using hw) h _ (by simp)
theorem Atp{l:List Xpr}(hl:l≠[]) (h:∀x,x∈l→RX x):Rd M7 dlm (fun l=>Stop l∧isT [44] l=false) (fun l=>isT [42] l=false) (Bj etx l) l :=
 Zj (fun _=>Azm _) (fun _ h=>Bfh h) hl fun x hx=>Bcn (h x hx)
theorem Blt{l:List Xpr}(hl:l≠[]) (h:∀x,x∈l→RX x):Rd A0k Dc Cz (hdW [40]) (Se l) l:=by
 unfold Se
 refine(Dx lx40).bind (D2:=Dc) (T2:=fun l=>isT [42] l=false) ?_ D5 B3
 refine(Atp hl h).bind (T2:=hdW [41]) ?_ (fun r _=>dm41 _) (fun l hl=>⟨Bj3 hl,Bn1 (by decide) hl⟩)
 exact(Dx Awb).map
end Go.Proofs.YthndhaolemgbdaaGreatDoor
namespace Go.Proofs.YthndhaolemgbdaaGreatDoor
open Go.Ax
theorem Bce{m n:Nat}(h:m≤n):G3 0 (m:Int) n=true:=by simp [G3];omega
def A9w(R:Type):Px R:=pxO [] [] [] []
def Agx(x:HV [.str,.str]):Option (HV [.bool]):=match x with
 |(l,m) =>
 cond (decide ((m.length:Int)≤(l.length:Int))) (
  chk (G3 0 (m.length:Int) l.length) (
  some (decide ((l.take ((m.length:Int):Int).toNat)=m)))) (
  some false)
theorem A78:FO 192 [.str,.str] [.bool] (Agx):=fR (px:=A9w _) (n:=0) Tryz.func192 rfl (fun _ H=>⟨lv H Af Ab Aa,Ak⟩) fun(_,_)=>by kernel_rfl
def A03(l m:Str):Bool:=Lp.pre l m
def Aq3:FT [.str,.str] [.bool]:=fun x=>some (A03 x.1 x.2)
theorem A9p:FO 192 [.str,.str] [.bool] Aq3 :=.fin0 A78 fun(l,m) r hb hx=>by
 simp only [Aq3,Za1] at hx
 subst hx
 simp only [Agx,A03,Lp.pre]
 have e:decide ((m.length:Int)≤(l.length:Int))=decide (m.length≤l.length):=Zy1.2 (by omega)
 rw [e]
 by_cases h:m.length≤l.length
 ·rw [Ze1 h,Ae,Bce h,Int.toNat_natCast]
  rfl
 ·rw [Zd1 h]
  rfl
def Bhu(R:Type):Px R:=pxO [(192,cA Aq3)] [] [] []
def Acx(x:HV [.str,.str]):Option (HV [.bool]):=match x with
 |(l,m) =>
 some (A03 l m)
theorem A9u:FO 175 [.str,.str] [.bool] (Acx):=fR (px:=Bhu _) (n:=0) Tryz.func175 rfl (fun _ H=>⟨lv H (c1 H A9p Af) Ab Aa,Ak⟩) fun(_,_)=>by kernel_rfl
def hpre(l:Str) (m:Str):Bool :=
 (A03 l m)
theorem Baa(x:HV [.str,.str]):Acx x=some (hpre x.1 x.2):=by
 first
  |exact rfl
  |simp only [Acx,hpre,Bq]
def Ayh:FT [.str,.str] [.bool]:=fun x=>some (hpre x.1 x.2)
theorem A1c:FO 175 [.str,.str] [.bool] Ayh :=.fin0 A9u fun x _ _ hx=>(Baa x).trans hx
set_option maxRecDepth 20000 in
open Go.Sx in
theorem Sw(l:Str) (c:Int):Con Tryz.prog 174 [S l,.int .u8 c] [] (fun _=>True) (Is (.int .i64 (Lib.indexByte l c.toNat.toUInt8))):=by
 have run:∀w,(callFunc 191 #[S l,.int .u8 c]).run Tryz.prog w = .ok (.value (.int .i64 (Lib.indexByte l c.toNat.toUInt8))) w:=fun w=>by
  rw [run_callFunc_extern Tryz.func191 (by kernel_rfl) rfl (by kernel_rfl) (e:=Extern.BytealgIndexByte.indexByte) (by kernel_rfl)]
  simp [Lib.run_indexByteString,go_sem]
 refine Amz Tryz.func174 Tryz.ntmps174 rfl (by kernel_rfl) rfl fun w M =>?_
 repeat' (first|refine Bnj ?_|refine Bas ?_|refine Bn5 ?_|refine Bmz ?_|refine Bod ?_|refine Biy ?_|refine Bj7 ?_|refine Bms ?_|refine Bl8 ?_|refine Bn6 ?_|refine Bmf ?_|refine Bmy rfl ?_|refine Bgz ?_|refine Bh6 ?_|refine Bir ?_|refine Bf8 ?_|(apply Bbx rfl rfl;(first|exact p_move rfl|exact p_assign rfl|exact p_lens (by dsimp only;decide +kernel) rfl|exact p_lensl (by dsimp only;decide +kernel) rfl|exact p_extract rfl rfl|exact p_pick_t rfl rfl|exact p_pick_f rfl rfl|exact p_eql rfl rfl|exact p_neq rfl rfl|exact p_lss rfl rfl|exact p_leq rfl rfl|exact p_gtr rfl rfl|exact p_geq rfl rfl|exact p_not rfl|exact p_eqls rfl rfl|exact p_neqs rfl rfl|exact Bfm rfl rfl (by omega)|exact Bfp rfl rfl (by omega)|exact p_index (by dsimp only;decide +kernel) rfl rfl (by omega)|exact p_cut (by dsimp only;decide +kernel) rfl rfl rfl (by omega)|exact p_cutlo (by dsimp only;decide +kernel) rfl rfl (by omega)|exact p_cuthi (by dsimp only;decide +kernel) rfl rfl (by omega)|exact p_fa (fo:=0) (by dsimp only;decide +kernel) rfl|exact p_fa (fo:=1) (by dsimp only;decide +kernel) rfl|exact p_fa (fo:=2) (by dsimp only;decide +kernel) rfl|exact p_fa (fo:=3) (by dsimp only;decide +kernel) rfl|exact Bn9 rfl))|refine Bm8 rfl rfl ?_|refine Axm rfl ?_|(apply Bbx rfl rfl (Bfo rfl rfl run))|(refine Boc rfl rfl ?_ ?_<;>intro hc)|(refine Bm7 rfl rfl ?_ ?_<;>intro hc)|(refine Boe rfl rfl ?_ ?_<;>intro hc)|(refine Bl3 rfl rfl ?_ ?_<;>intro hc)|(refine Bos rfl rfl ?_ ?_<;>intro hc)|(refine Bpa rfl rfl ?_ ?_<;>intro hc)|refine Ase rfl rfl ?_|refine Aug rfl rfl ?_|refine Ase rfl (Ze1 (by omega)) ?_|refine Aug rfl (Zd1 (by omega)) ?_|(refine Bh0 rfl ?_ ?_<;>intro hc)|(refine Bh5 rfl ?_ ?_<;>intro hc)|(refine Bgb rfl ?_ ?_<;>intro hc)|(refine A9m rfl ?_ ?_<;>intro hc)|(refine Bh9 rfl ?_ ?_<;>intro hc)|(refine S3 rfl ?_ ?_<;>intro hc)|refine Bmp rfl rfl ?_|refine Bll rfl rfl rfl ?_|refine Bk5 rfl rfl rfl rfl ?_)
 exact Bjb rfl
def sib(l:Str) (c:Int):Int:=Lib.indexByte l c.toNat.toUInt8
def A9h:FT [.str,.int .u8] [.int .i64]:=fun x=>some (sib x.1 x.2)
theorem Bhh(l:Str) (c:Int) : -1≤sib l c∧sib l c<l.length+1:=by
 have:=Lp.indexByte_in l c.toNat.toUInt8
 simp only [sib]
 omega
theorem Bmb:FO 174 [.str,.int .u8] [.int .i64] A9h:=by
 refine FnOk.ofIs (Sw [] 0).enters rfl fun x r hx =>?_
 obtain⟨l,c⟩:=x
 simp only [A9h,Za1] at hx
 subst hx
 refine⟨[Sx.S l,.int .u8 c],_,fun X vs h =>?_,Sw l c,fun X hb =>?_⟩
 ·simp only [Cp,Dk,Reps,Rep] at h
  obtain⟨u,us,rfl,⟨rfl,_⟩,u2,us2,rfl,⟨rfl,_⟩,rfl⟩:=h
  rfl
 ·simp only [L8,Cp,Dk]
  have h:=Bhh l c
  have hl:ln l.length:=hb.1
  refine Eg (A3x ?_)
  simp only [IntKind.min,IntKind.max,IntKind.signed,IntKind.bits,sib,ln] at *
  simp only [if_true]
  omega
def Be6(R:Type):Px R:=pxO [(174,cA A9h)] [] [] []
def X1(x:HV [.str,.int .u8]):Option (HV [.int .i64]):=match x with
 |(l,c) =>
 some (sib l c)
theorem A6t:FO 156 [.str,.int .u8] [.int .i64] (X1):=fR (px:=Be6 _) (n:=0) Tryz.func156 rfl (fun _ H=>⟨lv H (c1 H Bmb Af) Ab Aa,Ak⟩) fun(_,_)=>by kernel_rfl
def Mh(l:Str) (c:Int):Int :=
 (sib l c)
theorem A7d(x:HV [.str,.int .u8]):X1 x=some (Mh x.1 x.2):=by
 first
  |exact rfl
  |simp only [X1,Mh,Bq]
def Af5:FT [.str,.int .u8] [.int .i64]:=fun x=>some (Mh x.1 x.2)
theorem Aid:FO 156 [.str,.int .u8] [.int .i64] Af5 :=.fin0 A6t fun x _ _ hx=>(A7d x).trans hx
def Bdt(R:Type):Px R:=pxO [] [] [] []
def Xo(x:HV [.int .u8]):Option (HV [.bool]):=match x with
 |c =>
 cond (decide (65≤c)) (
  some (decide (c≤90))) (
  some false)
theorem A6m:FO 177 [.int .u8] [.bool] (Xo):=fR (px:=Bdt _) (n:=0) Tryz.func177 rfl (fun _ H=>⟨lv H Af Ab Aa,Ak⟩) fun _=>by kernel_rfl
def Afm(c:Int):Bool :=
 cond (decide (65≤c)) (
  (decide (c≤90))) (
  false)
theorem A41(x:HV [.int .u8]):Xo x=some (Afm x):=by
 first
  |exact rfl
  |simp only [Xo,Afm,Bq]
def Agm:FT [.int .u8] [.bool]:=fun x=>some (Afm x)
theorem Ahc:FO 177 [.int .u8] [.bool] Agm :=.fin0 A6m fun x _ _ hx=>(A41 x).trans hx
theorem Ain(c:Int):Afm c=Lp.isUp c:=by simp only [Afm,Lp.isUp];cases decide (65≤c)<;>rfl
def Bcr(R:Type):Px R:=pxO [(111,cA Af3),(177,cA Agm)] [] [] []
def Xg(x:HV [.str,.int .i64]):Option (HV [.bool]):=match x with
 |(s,i) =>
 cond (decide (i=(s.length:Int))) (
  some true) (
  chk (inb i s.length) (
  cond (!(Afa (bat s i))) (
   chk (inb i s.length) (
   some (!(Afm (bat s i))))) (
   some false)))
theorem A4x:FO 179 [.str,.int .i64] [.bool] (Xg):=fR (px:=Bcr _) (n:=0) Tryz.func179 rfl (fun _ H=>⟨lv H (c1 H Aiz (c1 H Ahc Af)) Ab Aa,Ak⟩) fun(_,_)=>by kernel_rfl
def V3(s:Str) (i:Int):Option Bool:=if 0≤i∧i≤s.length then some (Lp.aloneF s i) else none
def Ar5:FT [.str,.int .i64] [.bool]:=fun x=>V3 x.1 x.2
theorem Bfk(a b:Int):(a == b)=decide (a=b):=rfl
theorem Bg8(s:Str) (i:Int) (h : 0≤i∧i≤s.length):Xg (s,i)=some (Lp.aloneF s i):=by
 simp only [Xg,Lp.aloneF,Aka,Ain,Bfk]
 by_cases he:i=s.length
 ·rw [Ze1 he];rfl
 ·rw [Zd1 he,Au1 (by omega)]
  show cond (!Lp.isIn (bat s i)) (some (!Lp.isUp (bat s i))) (some false)=some (!Lp.isIn (bat s i) && !Lp.isUp (bat s i))
  cases Lp.isIn (bat s i)<;>rfl
theorem Bct:FO 179 [.str,.int .i64] [.bool] Ar5 :=.fin0 A4x fun(s,i) r hb hx=>by
 simp only [Ar5,V3] at hx
 split at hx
 ·rename_i h
  exact(Bg8 s i h).trans hx
 ·cases hx
def Aen:Sig:=⟨46,[(0,.str),(2,.int .i64),(3,.bool),(4,.int .i64),(11,.int .i64),(12,.int .i64)],[],[],0,0,0,[],[]⟩
abbrev Pn:=Str×Int×Bool×Int×Int×Int
def Oj{R:Type}(rec:Pn→Option R) (kx:Ex→Pn→Option R) (v:Pn):Option R:=match v with
 |(v,v1,v2,v3,v4,v5) =>
 cond (decide (v5<v4)) (
  chk (inb v5 v.length) (
  cond (!decide ((Av9 v3 10).2=0)) (
   kx .ret (v,0,false,v3,v4,v5)) (
   cond (!decide ((Aza ((Av9 v3 10).1) (wr .i64 (wr .u8 ((bat v v5)-48)))).2=0)) (
   kx .ret (v,0,false,v3,v4,v5)) (
   rec (v,v1,v2,(Aza ((Av9 v3 10).1) (wr .i64 (wr .u8 ((bat v v5)-48)))).1,v4,(wr .i64 (v5+1))))))) (
  kx (.exit 0) (v,v1,v2,v3,v4,v5))
def An5(R:Type) (k:Nat):Px R:=pxO [(194,cA Bab),(195,cA Ban)] [] [(3,Ay k Aen (Oj))] []
def Ad2(k:Nat) (x:HV [.str]):Option (HV [.int .i64,.bool]):=match x with
 |s =>
 Al (fun rec=>Oj rec (fun e vz=>match vz with|(v6,v7,v8,v9,_,_)=>match e with
  |.ret =>
  some (v7,v8)
  |.exit 0 =>
  cond (decide (v6=[48])) (
   some (v9,true)) (
   chk (inb 0 v6.length) (
   some (v9, !decide ((bat v6 0)=48))))
  |_=>none)) k (s,0,false,0,(s.length:Int),0)
theorem A0a(k:Nat):FO 180 [.str] [.int .i64,.bool] (Ad2 k):=fR (px:=An5 _ k) (n:=1) Tryz.func180 rfl (fun cx H=>by
 have h0:Lv cx (An5 (HV [.int .i64,.bool]) k):=lv H (c1 H Bhz (c1 H Bg7 Af)) Ab Aa
 have hlnumber_0:=lO H h0 (b:=lp Tryz.f180 0) (k:=k) (n:=0) (s:=Aen) (step:=Oj) (fun _ _ _ (_,_,_,_,_,_)=>by kernel_rfl) Ak
 exact⟨h0,(B7 Ak hlnumber_0)⟩) fun _=>by kernel_rfl
def Bcu(s:Str):Int×Bool:=match Lp.numGo s 0 with
 |some n=>(n,decide (s=[48]) || !decide (bat s 0=48))
 |none=>(0,false)
def Aqw(s:Str):Option (Int×Bool):=match s with
 |[]=>none
 |_=>some (Bcu s)
def Ais:FT [.str] [.int .i64,.bool]:=fun x=>Aqw x
theorem Aew{R:Type}{kx:Ex→Pn→Option R}{s:Str}{c:Option Int→Option R}(hs:ln s.length) (h1:∀n j,kx .ret (s,0,false,n,(s.length:Int),j)=c none) (h2:∀q r n j,kx (.exit 0) (s,q,r,n,(s.length:Int),j)=c (some n)):∀(k i:Nat) (q:Int) (r:Bool) (n:Int),inI n→i≤s.length→s.length-i<k→Al (fun rec=>Oj rec kx) k (s,q,r,n,(s.length:Int),(i:Int))=c (Lp.numGo (s.drop i) n)
 |0,i,q,r,n,_,_,h=>absurd h (Zm1 _)
 |k+1,i,q,r,n,hn,hi,h=>by
  rw [Bh]
  by_cases hl:i<s.length
  ·have hd:=Lp.inI_dg (s[i].toNat:Int)
   have e10:inI (10:Int):=by simp only [inI];omega
   have em:=Bkb hn e10
   simp only [Oj,Be hl,Dn hl,em]
   rw [Ze1 (show(i:Int)<(s.length:Int) by omega),Av hl]
   simp only [Ae,chk,Lp.numGo]
   by_cases hm:inI (n*10)
   ·have hm':=hm
    simp only [inI] at hm'
    have ef:Xb (n*10)=(n*10,0):=by rw [Xb,if_pos hm']
    have ea:=Bk7 hm (show inI (wr .i64 (wr .u8 ((s[i].toNat:Int)-48))) from hd)
    simp only [ef,ea]
    by_cases hf:inI (n*10+Lp.dg (s[i].toNat:Int))
    ·have hf':=hf
     simp only [inI] at hf'
     have eg:Xb (n*10+wr .i64 (wr .u8 ((s[i].toNat:Int)-48)))=(n*10+Lp.dg (s[i].toNat:Int),0):=by
      have hf2 : -9223372036854775808≤n*10+wr .i64 (wr .u8 ((s[i].toNat:Int)-48))∧n*10+wr .i64 (wr .u8 ((s[i].toNat:Int)-48))≤9223372036854775807:=hf'
      rw [Xb,if_pos hf2];rfl
     rw [eg,if_pos (show Lp.inI _∧Lp.inI _ from⟨hm,hf⟩)]
     have ih:=Aew hs h1 h2 k (i+1) q r (n*10+Lp.dg (s[i].toNat:Int)) hf (by omega) (by omega)
     rw [A3 hl hs]
     exact ih
    ·have hf':=hf
     simp only [inI] at hf'
     have eg:Xb (n*10+wr .i64 (wr .u8 ((s[i].toNat:Int)-48)))=(0,20):=by
      have hf2:¬(-9223372036854775808≤n*10+wr .i64 (wr .u8 ((s[i].toNat:Int)-48))∧n*10+wr .i64 (wr .u8 ((s[i].toNat:Int)-48))≤9223372036854775807):=hf'
      rw [Xb,if_neg hf2]
     rw [eg,if_neg (fun h=>hf h.2)]
     exact h1 _ _
   ·have hm':=hm
    simp only [inI] at hm'
    have ef:Xb (n*10)=(0,20):=by rw [Xb,if_neg hm']
    rw [if_neg (fun h=>hm h.1)]
    simp only [ef]
    exact h1 _ _
  ·simp only [Oj,h2]
   rw [Zd1 (by omega),Zk1 (by omega)]
   rfl
theorem A5q:FO 180 [.str] [.int .i64,.bool] Ais :=.fin 0 A0a fun s r hb hx=>⟨s.length+1,by
 simp only [Ais] at hx
 cases s with
 |nil=>cases hx
 |cons b l =>
  have hx:some (Bcu (b::l))=some r:=hx
  rw [←hx]
  simp only [Ad2]
  refine(Aew (s:=b::l) (c:=fun o=>match o with|some n=>some (n,decide (b::l=[48]) || !decide (bat (b::l) 0=48))|none=>some (0,false)) hb (fun _ _=>rfl) (fun _ _ n _ =>?_) ((b::l).length+1) 0 0 false 0 (by simp [inI]) (Nat.zero_le _) (by omega)).trans ?_
  ·show cond (decide (b::l=[48])) (some (n,true)) (chk (inb 0 (b::l).length) (some (n, !decide (bat (b::l) 0=48))))=_
   rw [Au1 (by simp only [Zf1];omega)]
   cases decide (b::l=[48])<;>rfl
  ·simp only [Zq1,Bcu]
   cases Lp.numGo (b::l) 0<;>rfl⟩
def Ae3:Sig:=⟨40,[(0,.str),(4,.str),(5,.int .i64),(6,.sl .byte true),(7,.int .i64)],[],[],0,0,0,[],[]⟩
abbrev Q6:=Str×Str×Int×List UInt8×Int
def Ox{R:Type}(rec:Q6→Option R) (kx:Ex→Q6→Option R) (v:Q6):Option R:=match v with
 |(v,v1,v2,v3,v4) =>
 cond (decide (v4<(v.length:Int))) (
  chk (inb v4 v.length) (
  cond (decide ((bat v v4)=39)) (
   cond (decide ((wr .i64 (v4+1))=(v.length:Int))) (
   kx .ret (v,v3,(wr .i64 (v4+1)),v3,(wr .i64 (v4+1)))) (
   chk (inb (wr .i64 (v4+1)) v.length) (
    cond (!decide ((bat v (wr .i64 (v4+1)))=39)) (
    kx .ret (v,v3,(wr .i64 (v4+1)),v3,(wr .i64 (v4+1)))) (
    chk (inb (wr .i64 (v4+1)) v.length) (
     chk (decide (v3.length+1≤Am)) (
     rec (v,v1,v2,(v3++[(UInt8.ofNat ((bat v (wr .i64 (v4+1))):Int).toNat)]),(wr .i64 ((wr .i64 (v4+1))+1))))))))) (
   chk (inb v4 v.length) (
   chk (decide (v3.length+1≤Am)) (
    rec (v,v1,v2,(v3++[(UInt8.ofNat ((bat v v4):Int).toNat)]),(wr .i64 (v4+1)))))))) (
  kx (.exit 0) (v,v1,v2,v3,v4))
def Aou(R:Type) (k:Nat):Px R:=pxO [] [] [(3,Ay k Ae3 (Ox))] []
def Adk(k:Nat) (x:HV [.str,.int .i64]):Option (HV [.str,.int .i64]):=match x with
 |(s,i) =>
 Al (fun rec=>Ox rec (fun e vz=>match vz with|(_,v6,v7,_,_)=>match e with
  |.ret =>
  some (v6,v7)
  |.exit 0 =>
  some ([],(-1))
  |_=>none)) k (s,[],0,[],i)
theorem Ay6(k:Nat):FO 181 [.str,.int .i64] [.str,.int .i64] (Adk k):=fR (px:=Aou _ k) (n:=1) Tryz.func181 rfl (fun cx H=>by
 have h0:Lv cx (Aou (HV [.str,.int .i64]) k):=lv H Af Ab Aa
 have hlquoted_0:=lO H h0 (b:=lp Tryz.f181 0) (k:=k) (n:=0) (s:=Ae3) (step:=Ox) (fun _ _ _ (_,_,_,_,_)=>by kernel_rfl) Ak
 exact⟨h0,(B7 Ak hlquoted_0)⟩) fun(_,_)=>by kernel_rfl
def Aqr(s:Str) (i:Int):Option (Str×Int):=if 0≤i∧i≤s.length∧s.length≤1000000 then some (Lp.qGo (s.drop i.toNat) [] i) else none
def Aim:FT [.str,.int .i64] [.str,.int .i64]:=fun x=>Aqr x.1 x.2
theorem Ahj(b:UInt8):UInt8.ofNat ((b.toNat:Int)).toNat=b:=by simp
theorem Ti{R:Type}{kx:Ex→Q6→Option R}{s:Str}{c:Str×Int→Option R}(hs:s.length≤1000000) (h1:∀a j,kx .ret (s,a,j,a,j)=c (a,j)) (h2:∀q r a j,kx (.exit 0) (s,q,r,a,j)=c ([], -1)):∀(k i:Nat) (q:Str) (r:Int) (a:Str),a.length≤i→i≤s.length→s.length-i<k→Al (fun rec=>Ox rec kx) k (s,q,r,a,(i:Int))=c (Lp.qGo (s.drop (i:Int).toNat) a i)
 |0,i,q,r,a,_,_,h=>absurd h (Zm1 _)
 |k+1,i,q,r,a,ha,hi,h=>by
  rw [Bh]
  by_cases hl:i<s.length
  ·have hln:ln s.length:=by simp only [ln];omega
   have ea:decide (a.length+1≤Am)=true:=Ze1 (by simp only [Am];omega)
   have eb:Sx.byt s (i:Int)=(s[i].toNat:Int):=Dn hl
   simp only [Ox,Be hl,A3 hl hln,Dn hl,ea,Ahj]
   rw [Ze1 (show(i:Int)<(s.length:Int) by omega)]
   simp only [Ae,chk]
   by_cases h39:(s[i].toNat:Int)=39
   ·rw [Ze1 h39,Ae]
    by_cases he:i+1=s.length
    ·rw [Ze1 (show((i+1:Nat):Int)=(s.length:Int) by omega),Ae,h1,Lp.q_last (by omega) (by omega) (eb.trans h39)]
     rfl
    ·have hl2:i+1<s.length:=by omega
     have eb2:Sx.byt s ((i:Int)+1)=(s[i+1].toNat:Int):=Dn hl2
     rw [Zd1 (show ¬((i+1:Nat):Int)=(s.length:Int) by omega),Be hl2,Ah]
     simp only [Ae,Dn hl2,Ahj]
     by_cases h3:(s[i+1].toNat:Int)=39
     ·have ih:=Ti hs h1 h2 k (i+1+1) q r (a++[s[i+1]]) (by simp only [Zh1,Zf1,Zi1];omega) (by omega) (by omega)
      have e39:s[i+1]=39:=by rw [←UInt8.toNat_inj];exact Int.ofNat.inj h3
      rw [Ze1 h3,Lp.q_two (by omega) (by omega) (eb.trans h39) (eb2.trans h3),A3 hl2 hln]
      simp only [Zt1,Ah]
      rw [ih,e39]
      rfl
     ·rw [Zd1 h3,Lp.q_close (by omega) (by omega) (eb.trans h39) (fun e=>h3 (eb2.symm.trans e))]
      simp only [Zs1,Ae,h1]
      rfl
   ·have ih:=Ti hs h1 h2 k (i+1) q r (a++[s[i]]) (by simp only [Zh1,Zf1,Zi1];omega) (by omega) (by omega)
    rw [Zd1 h39,Ah,ih,Lp.q_other (by omega) (by omega) (fun e=>h39 (eb.symm.trans e))]
    have eg:s.getD (i:Int).toNat 0=s[i]:=by simp [List.getD_eq_getElem?_getD,hl]
    rw [eg]
    rfl
  ·simp only [Ox,h2]
   rw [Zd1 (by omega),Lp.q_end (by omega)]
   rfl
theorem A8c:FO 181 [.str,.int .i64] [.str,.int .i64] Aim :=.fin 0 Ay6 fun(s,i) r hb hx=>⟨s.length+1,by
 simp only [Aim,Aqr] at hx
 split at hx
 ·rename_i h
  rw [←hx]
  obtain⟨n,rfl⟩:=Int.eq_ofNat_of_zero_le h.1
  simp only [Adk]
  exact Ti (c:=some) h.2.2 (fun _ _=>rfl) (fun _ _ _ _=>rfl) (s.length+1) n [] 0 [] (Nat.zero_le _) (by omega) (by omega)
 ·cases hx⟩
def Aih:Sig:=⟨19,[(0,.str),(2,.int .i64),(5,.sl .str true),(6,.int .i64),(7,.int .i64)],[],[],0,0,0,[],[]⟩
abbrev Ac8:=Str×Int×List Str×Int×Int
def Apf{R:Type}(rec:Ac8→Option R) (kx:Ex→Ac8→Option R) (v:Ac8):Option R:=match v with
 |(v,v1,v2,v3,v4) =>
 cond (decide (v4<v3)) (
  chk (inb v4 v2.length) (
  cond ((hpre v (at' .str v2 v4))) (
   kx .ret (v,2,v2,v3,v4)) (
   rec (v,v1,v2,v3,(wr .i64 (v4+1)))))) (
  kx (.exit 0) (v,v1,v2,v3,v4))
def Ava(R:Type) (k:Nat):Px R:=pxO [(175,cA Ayh),(156,cA Af5)] [] [(2,Ay k Aih (Apf))] []
def Ahx(k:Nat) (x:HV [.str]):Option (HV [.int .i64]):=match x with
 |s =>
 Al (fun rec=>Apf rec (fun e vz=>match vz with|(v5,v6,_,_,_)=>match e with
  |.ret =>
  some v6
  |.exit 0 =>
  chk (inb 0 v5.length) (
   cond (decide (0≤(Mh [40,41,44,42,61,60,62,43,45,59] (bat v5 0)))) (
   some 1) (
   some 0))
  |_=>none)) k (s,0,[[60,62],[60,61],[62,61]],3,0)
theorem A7x(k:Nat):FO 182 [.str] [.int .i64] (Ahx k):=fR (px:=Ava _ k) (n:=1) Tryz.func182 rfl (fun cx H=>by
 have h0:Lv cx (Ava (HV [.int .i64]) k):=lv H (c1 H A1c (c1 H Aid Af)) Ab Aa
 have hllsign_0:=lO H h0 (b:=lp Tryz.f182 0) (k:=k) (n:=0) (s:=Aih) (step:=Apf) (fun _ _ _ (_,_,_,_,_)=>by kernel_rfl) Ak
 exact⟨h0,(B7 Ak hllsign_0)⟩) fun _=>by kernel_rfl
def A9z(s:Str):Option Int:=match s with
 |[]=>none
 |_=>some (Lp.signF s)
def Arb:FT [.str] [.int .i64]:=fun x=>A9z x
theorem Bbs:FO 182 [.str] [.int .i64] Arb :=.fin 0 A7x fun s r hb hx=>⟨4,by
 simp only [Arb] at hx
 cases s with
 |nil=>cases hx
 |cons b l =>
  have hx:some (Lp.signF (b::l))=some r:=hx
  rw [←hx]
  have e0:inb 0 (b::l).length=true:=Au1 (by simp only [Zf1];omega)
  have e1:hpre (b::l) [60,62]=Lp.pre (b::l) [60,62]:=rfl
  have e2:hpre (b::l) [60,61]=Lp.pre (b::l) [60,61]:=rfl
  have e3:hpre (b::l) [62,61]=Lp.pre (b::l) [62,61]:=rfl
  have ei:Mh [40,41,44,42,61,60,62,43,45,59] (bat (b::l) 0)=Lib.indexByte Lp.signs (Sx.byt (b::l) 0).toNat.toUInt8:=rfl
  simp only [Ahx,Lp.signF,←ei,←e1,←e2,←e3]
  show cond (hpre (b::l) [60,62]) (some 2) (cond (hpre (b::l) [60,61]) (some 2) (cond (hpre (b::l) [62,61]) (some 2) (chk (inb 0 (b::l).length) (cond (decide (0≤Mh [40,41,44,42,61,60,62,43,45,59] (bat (b::l) 0))) (some 1) (some 0)))))=_
  generalize Mh [40,41,44,42,61,60,62,43,45,59] (bat (b::l) 0)=z
  rw [e0]
  by_cases hz : 0≤z
  ·rw [Ze1 hz,if_pos hz]
   cases hpre (b::l) [60,62]<;>cases hpre (b::l) [60,61]<;>cases hpre (b::l) [62,61]<;>rfl
  ·rw [Zd1 hz,if_neg hz]
   cases hpre (b::l) [60,62]<;>cases hpre (b::l) [60,61]<;>cases hpre (b::l) [62,61]<;>rfl⟩
def A42(R:Type):Px R:=pxO [] [] [] []
def R8(x:HV [.int .u8]):Option (HV [.int .u8,.bool]):=match x with
 |c =>
 let j:=fun(p1:Bool) =>
  cond (p1) (
  some ((wr .u8 (c-48)),true)) (
  cond (decide (97≤c)) (
   cond (decide (c≤102)) (
   some ((wr .u8 ((wr .u8 (c-97))+10)),true)) (
   some (0,false))) (
   some (0,false)))
 cond (decide (48≤c)) (
  j (decide (c≤57))) (
  j false)
theorem Azp:FO 193 [.int .u8] [.int .u8,.bool] (R8):=fR (px:=A42 _) (n:=0) Tryz.func193 rfl (fun _ H=>⟨lv H Af Ab Aa,Ak⟩) fun _=>by kernel_rfl
def O8(c:Int):Int×Bool :=
 let j:=fun(p1:Bool) =>
  cond (p1) (
  ((wr .u8 (c-48)),true)) (
  cond (decide (97≤c)) (
   cond (decide (c≤102)) (
   ((wr .u8 ((wr .u8 (c-97))+10)),true)) (
   (0,false))) (
   (0,false)))
 cond (decide (48≤c)) (
  j (decide (c≤57))) (
  j false)
theorem Ayn(x:HV [.int .u8]):R8 x=some (O8 x):=by
 first
  |exact rfl
  |simp only [R8,O8,Bq]
def Awi:FT [.int .u8] [.int .u8,.bool]:=fun x=>some (O8 x)
theorem A5t:FO 193 [.int .u8] [.int .u8,.bool] Awi :=.fin0 Azp fun x _ _ hx=>(Ayn x).trans hx
def Bk9(c:Int):Int×Bool:=match Lp.hexD c with
 |some n=>(n,true)
 |none=>(0,false)
theorem Ay0:((List.range 256).all fun n=>decide (O8 (n:Int)=Bk9 (n:Int)))=true:=by kernel_rfl
theorem A5k(b:UInt8):O8 (b.toNat:Int)=Bk9 (b.toNat:Int):=by
 have h:=Zg2.1 Ay0 b.toNat (List.mem_range.2 b.toNat_lt)
 exact of_decide_eq_true h
def Aj9:Sig:=⟨49,[(0,.str),(2,.sl .byte true),(3,.int .i64),(4,.sl .byte true),(5,.int .i64)],[],[],0,0,0,[],[]⟩
abbrev Uh:=Str×List UInt8×Int×List UInt8×Int
def Vb{R:Type}(rec:Uh→Option R) (kx:Ex→Uh→Option R) (v:Uh):Option R:=match v with
 |(v,v1,v2,v3,v4) =>
 cond (decide (v4<(v.length:Int))) (
  chk (inb v4 v.length) (
  chk (inb (wr .i64 (v4+1)) v.length) (
   cond (!((O8 (bat v v4)).2)) (
   kx .ret (v,[],11,v3,v4)) (
   cond (!((O8 (bat v (wr .i64 (v4+1)))).2)) (
    kx .ret (v,[],11,v3,v4)) (
    chk (decide (v3.length+1≤Am)) (
    rec (v,v1,v2,(v3++[(UInt8.ofNat ((ior .u8 (Bko .u8 ((O8 (bat v v4)).1) 4) ((O8 (bat v (wr .i64 (v4+1)))).1)):Int).toNat)]),(wr .i64 (v4+2))))))))) (
  kx (.exit 0) (v,v1,v2,v3,v4))
def Ati(R:Type) (k:Nat):Px R:=pxO [(193,cA Awi)] [] [(5,Ay k Aj9 (Vb))] []
def Ag5(k:Nat) (x:HV [.str]):Option (HV [.sl .byte true,.int .i64]):=match x with
 |s =>
 cond (!decide ((Int.tmod (s.length:Int) 2)=0)) (
  some ([],11)) (
  Al (fun rec=>Vb rec (fun e vz=>match vz with|(_,v6,v7,v8,_)=>match e with
  |.ret =>
   some (v6,v7)
  |.exit 0 =>
   some (v8,0)
  |_=>none)) k (s,[],0,[],0))
theorem A7a(k:Nat):FO 176 [.str] [.sl .byte true,.int .i64] (Ag5 k):=fR (px:=Ati _ k) (n:=1) Tryz.func176 rfl (fun cx H=>by
 have h0:Lv cx (Ati (HV [.sl .byte true,.int .i64]) k):=lv H (c1 H A5t Af) Ab Aa
 have hlunhex_0:=lO H h0 (b:=lp Tryz.f176 0) (k:=k) (n:=0) (s:=Aj9) (step:=Vb) (fun _ _ _ (_,_,_,_,_)=>by kernel_rfl) Ak
 exact⟨h0,(B7 Ak hlunhex_0)⟩) fun _=>by kernel_rfl
def unP(s:Str):Str×Int:=match(if s.length % 2=0 then Lp.unGo s [] else none) with
 |some b=>(b,0)
 |none=>([],11)
def A2z(s:Str):Option (Str×Int):=if s.length≤1000000 then some (unP s) else none
def Aqu:FT [.str] [.sl .byte true,.int .i64]:=fun x=>A2z x
theorem Aic{R:Type}{kx:Ex→Uh→Option R}{s:Str}{c:Option Str→Option R}(hs:s.length≤1000000) (h1:∀a j,kx .ret (s,[],11,a,j)=c none) (h2:∀q r a j,kx (.exit 0) (s,q,r,a,j)=c (some a)):∀(k i:Nat) (q:Str) (r:Int) (a:Str),a.length≤i→i≤s.length→(s.length-i) % 2=0→s.length-i<k→Al (fun rec=>Vb rec kx) k (s,q,r,a,(i:Int))=c (Lp.unGo (s.drop (i:Int).toNat) a)
 |0,i,q,r,a,_,_,_,h=>absurd h (Zm1 _)
 |k+1,i,q,r,a,ha,hi,hev,h=>by
  rw [Bh]
  by_cases hl:i<s.length
  ·have hl2:i+1<s.length:=by omega
   have hln:ln s.length:=by simp only [ln];omega
   have ea:decide (a.length+1≤Am)=true:=Ze1 (by simp only [Am];omega)
   have eb:Sx.byt s (i:Int)=(s[i].toNat:Int):=Dn hl
   have eb2:Sx.byt s ((i:Int)+1)=(s[i+1].toNat:Int):=Dn hl2
   have ew:wr .i64 ((i:Int)+2)=((i+1+1:Nat):Int):=by rw [Bav (by simp only [inI];omega)];omega
   simp only [Vb,Be hl,A3 hl hln,Dn hl,Dn hl2,Be hl2,ea,ew,A5k]
   rw [Ze1 (show(i:Int)<(s.length:Int) by omega),Lp.un_step (by omega) (by omega),eb,eb2]
   simp only [Ae,chk,Bk9]
   cases hx:Lp.hexD (s[i].toNat:Int) with
   |none=>exact h1 _ _
   |some x =>
    cases hy:Lp.hexD (s[i+1].toNat:Int) with
    |none=>exact h1 _ _
    |some y =>
     have ih:=Aic hs h1 h2 k (i+1+1) q r (a++[UInt8.ofNat (x*16+y).toNat]) (by simp only [Zh1,Zf1,Zi1];omega) (by omega) (by omega) (by omega)
     have ej:ior .u8 (Bko .u8 x 4) y=_:=Lp.joinhex' (Lp.hexD_lt hx) (Lp.hexD_lt hy)
     simp only [Zt1,Ah,ej,Ahj]
     exact ih
  ·simp only [Vb,h2]
   rw [Zd1 (by omega),Zk1 (by omega)]
   rfl
theorem Bff:FO 176 [.str] [.sl .byte true,.int .i64] Aqu :=.fin 0 A7a fun s r hb hx=>⟨s.length+1,by
 simp only [Aqu,A2z] at hx
 split at hx
 ·rename_i h
  rw [←hx]
  have et:Int.tmod (s.length:Int) 2=((s.length % 2:Nat):Int):=rfl
  simp only [Ag5,et,unP]
  by_cases h2:s.length % 2=0
  ·rw [Ze1 (show((s.length % 2:Nat):Int)=0 by omega),if_pos h2,Zt1,Ah]
   refine(Aic (c:=fun o=>match o with|some b=>some (b,(0:Int))|none=>some ([],11)) h (fun _ _ =>?_) (fun _ _ _ _ =>?_) (s.length+1) 0 [] 0 [] (Nat.zero_le _) (Nat.zero_le _) h2 (by omega)).trans ?_
   ·rfl
   ·rfl
   simp only [Int.toNat_natCast,Zq1]
   cases Lp.unGo s []<;>rfl
  ·rw [Zd1 (show ¬((s.length % 2:Nat):Int)=0 by omega),if_neg h2]
   rfl
 ·cases hx⟩
end Go.Proofs.YthndhaolemgbdaaGreatDoor
namespace Go.Proofs.YthndhaolemgbdaaGreatDoor
open Go.Ax
def Bc8(R:Type):Px R:=pxO [(44,cA Axs)] [] [] []
def Xq(x:HV [.str]):Option (HV [.bool]):=match x with
 |s =>
 some (Asj wordsL s)
theorem A6u:FO 178 [.str] [.bool] (Xq):=fR (px:=Bc8 _) (n:=0) Tryz.func178 rfl (fun _ H=>⟨lv H (c1 H A1s Af) Ab Aa,Ak⟩) fun _=>by kernel_rfl
def Aof(s:Str):Bool :=
 (Asj wordsL s)
theorem A75(x:HV [.str]):Xq x=some (Aof x):=by
 first
  |exact rfl
  |simp only [Xq,Aof,Bq]
def A4e:FT [.str] [.bool]:=fun x=>some (Aof x)
theorem Bd0:FO 178 [.str] [.bool] A4e :=.fin0 A6u fun x _ _ hx=>(A75 x).trans hx
theorem A9x(s:Str):Aof s=Lp.wordF s:=A17 wordsL s
end Go.Proofs.YthndhaolemgbdaaGreatDoor
