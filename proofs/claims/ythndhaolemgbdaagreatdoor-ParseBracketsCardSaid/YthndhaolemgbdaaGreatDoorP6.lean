/- Texts of the proof,one behind the other: Ad,Bw,Shj,Sj,Wr,Ws,Vt,Nf,Uq,Us,Ya,Yb,Lx,Ly,Lz. -/
import Derived.Test.YthndhaolemgbdaaGreatDoorP5
import Derived.Lib.Walk
import Derived.Lib.Strings
import Derived.Lib.Slices
import Derived.Lib.Builder
import Derived.Lib.UnsafeStr
import Derived.Lib.FrozenHead
import Derived.Laws.Externs
import Derived.Shelf.RegionOpenPlain
import Derived.Shelf.Strings.OnBuilder
set_option linter.all false
namespace Go.Proofs.YthndhaolemgbdaaGreatDoor
open Go.Ax
instance:DecidableEq Stm:=fun a b=>decidable_of_iff (Ait a b=true) (Ak2 a b)
theorem A2n(a b:Stm):Ait a b=decide (a=b):=by
 rw [Bool.eq_iff_iff,Ak2,Zg1]
def Wy(R:Type):Px R:=⟨A7 ttL,glT,Aq [],Ak [],Av [],tbl []⟩
def Ug(x:HV [.int .i64]):Option (HV [.bool]):=match x with
 |n =>
 cond (decide (1≤n)) (
  some (decide (n≤100))) (
  some false)
theorem A7l:∀(x:HV [.int .i64]),Ci (Wy _) Tryz.f66 [.int .i64] [.bool] x some=Ug x
 |n=>by kernel_rfl
theorem A2z:FnOk Tryz.prog elT glT 66 [.int .i64] [.bool] (Ug):=by
 refine A1 Tryz.func66 rfl (by kernel_rfl) follows (by kernel_rfl) (n:=0) (by kernel_rfl) (px:=Wy _) (fun cx hP hel hgl =>?_) (A7l)
 have hp0:PxOk cx (Wy (HV [.bool])):=⟨fun t=>by rw [hP,hel];exact Au Al t,by rw [hgl];rfl⟩
 have hc0:Aj cx (Wy (HV [.bool])):=Ah rfl Ai
 have hq0:CallQOk cx (Wy (HV [.bool])):=Ab rfl rfl Af Ae
 exact⟨hp0,hc0,hq0,Aw⟩
def Dw(n:Int):Bool :=
 cond (decide (1≤n)) (
  (decide (n≤100))) (
  false)
theorem Azm(x:HV [.int .i64]):Ug x=some (Dw x):=by
 first
  |exact rfl
  |simp only [Ug,Dw,B2]
def Abd:FT [.int .i64] [.bool]:=fun x=>some (Dw x)
theorem Ach:FnOk Tryz.prog elT glT 66 [.int .i64] [.bool] Abd :=.fin0 A2z fun x _ _ hx=>(Azm x).trans hx
def Zs:Sig:=⟨26,[(0,.sl .str false),(2,.bool),(5,.sl .str false),(6,.int .i64),(7,.int .i64)],[],[],0,0,0,[],[]⟩
abbrev I5:=List Str×Bool×List Str×Int×Int
def Sk{R:Type}(rec:I5→Option R) (kx:Ex→I5→Option R) (v:I5):Option R:=match v with
 |(v,v1,v2,v3,v4) =>
 cond (decide (v4<v3)) (
  chk (inb v4 v2.length) (
  cond (!(F9 (at' .str v2 v4))) (
   kx .ret (v,false,v2,v3,v4)) (
   chk (Gg 0 v4 v.length) (
   cond ((Aqt (v.take (v4:Int).toNat) (at' .str v2 v4))) (
    kx .ret (v,false,v2,v3,v4)) (
    rec (v,v1,v2,v3,(wr .i64 (v4+1)))))))) (
  kx (.exit 0) (v,v1,v2,v3,v4))
def Mg(R:Type) (k:Nat):Px R:=⟨A7 ttL,glT,Aq [(63,As [.str] [.bool] Ss),(44,As [.sl .str false,.str] [.bool] Au3)],Ak [],Av [(2,Bc k Zs (Sk))],tbl []⟩
theorem Atg(R:Type) (k:Nat):∀(fr:List Fr) (rec:I5→Option R) (kx:Ex→I5→Option R) (v:I5),Bn (Mg R k) Zs (lp Tryz.f67 0) fr rec kx v=Sk rec kx v
 |fr,rec,kx,(v,v1,v2,v3,v4)=>by kernel_rfl
def Z9(k:Nat) (x:HV [.sl .str false]):Option (HV [.bool]):=match x with
 |l =>
 A5 (fun rec=>Sk rec (fun e vz=>match vz with|(v5,v6,_,_,_)=>match e with
  |.ret =>
  some v6
  |.exit 0 =>
  some (decide ((v5.length:Int)≤100))
  |_=>none)) k (l,false,l,(l.length:Int),0)
theorem A8x(k:Nat):∀(x:HV [.sl .str false]),Ci (Mg _ k) Tryz.f67 [.sl .str false] [.bool] x some=Z9 k x
 |l=>by kernel_rfl
theorem A2o(k:Nat):FnOk Tryz.prog elT glT 67 [.sl .str false] [.bool] (Z9 k):=by
 refine A1 Tryz.func67 rfl (by kernel_rfl) follows (by kernel_rfl) (n:=1) (by kernel_rfl) (px:=Mg _ k) (fun cx hP hel hgl =>?_) (A8x k)
 have hp0:PxOk cx (Mg (HV [.bool]) k):=⟨fun t=>by rw [hP,hel];exact Au Al t,by rw [hgl];rfl⟩
 have hc0:Aj cx (Mg (HV [.bool]) k):=Ah rfl (Aa (A4 (by rw [hP,hel,hgl];exact U0) (by kernel_rfl)) (Aa (A4 (by rw [hP,hel,hgl];exact Aw1) (by kernel_rfl)) Ai))
 have hq0:CallQOk cx (Mg (HV [.bool]) k):=Ab rfl rfl Af Ae
 have hlaonce_0:A6 cx (Mg (HV [.bool]) k) (lp Tryz.f67 0):=A8 hp0 hc0 hq0 (by rw [hP];exact follows) (k:=k) (s:=Zs) (step:=Sk) (fun _ _=>by kernel_rfl) (by kernel_rfl) (Atg _ k) (A0 (n:=0) (by kernel_rfl) Aw)
 exact⟨hp0,hc0,hq0,(Cg Aw hlaonce_0)⟩
def Akk:List Str→List Str→Bool
 |_,[]=>true
 |seen,s::r=>F9 s && !seen.contains s&&Akk (seen++[s]) r
def Eo(l:List Str):Bool:=Akk [] l&&decide (l.length≤100)
def Abp:FT [.sl .str false] [.bool]:=fun x=>some (Eo x)
theorem Auz{l:List Str}{i:Nat}(hi:i<l.length):l.take (i+1)=l.take i++[l[i]]:=by
 rw [List.take_add_one,Zo1 hi]
 rfl
theorem At9{R:Type}{kx:Ex→I5→Option R}{l:List Str}{c:Bool→Option R}(hn:ln l.length) (h1:∀i,kx .ret (l,false,l,(l.length:Int),i)=c false) (h2:∀q i,kx (.exit 0) (l,q,l,(l.length:Int),i)=c true) (k:Nat) (hk:l.length<k) :
  A5 (fun rec=>Sk rec kx) k (l,false,l,(l.length:Int),0)=c (Akk [] l):=by
 refine(C4 l.length (fun i=>(l,false,l,(l.length:Int),(i:Int))) (fun i=>c (Akk (l.take i) (l.drop i))) (fun i hi rec hr =>?_) (fun rec =>?_) k 0 (Nat.zero_le _) (by omega)).trans (by rw [Zq1,List.take_zero])
 ·have hu:Gg 0 (i:Int) l.length=true:=by simp [Gg];omega
  simp only [Sk,H1 hi,Am,Bp hi,chk,Bq (c :=.str) hi,Bg hi hn,hr,h1,A9 hi,Akk,hu,Int.toNat_natCast,Aw4,Auz hi]
  cases F9 l[i]<;>cases (l.take i).contains l[i]<;>rfl
 ·simp only [Sk,H0,An,h2]
  rw [Zk1 (Zn1 _)]
  rfl
theorem Ag5:FnOk Tryz.prog elT glT 67 [.sl .str false] [.bool] Abp :=.fin 0 A2o fun l r hb hx=>⟨l.length+1,by
 simp only [Abp,Za1] at hx
 rw [←hx]
 simp only [Z9]
 refine(At9 (l:=l) (c:=fun b=>cond b (some (decide ((l.length:Int)≤100))) (some false)) hb.1 (fun _=>rfl) (fun _ _=>rfl) (l.length+1) (by omega)).trans ?_
 rw [show decide ((l.length:Int)≤100)=decide (l.length≤100) from Zy1.2 (by omega),Eo]
 cases Akk [] l<;>rfl⟩
def Uw:Sig:=⟨19,[(0,.sl .expr false),(4,.int .i64),(7,.int .i64),(8,.int .i64)],[(1,.fn 112 [])],[],80,80,400,[],[]⟩
abbrev G9:=List Xpr×Int×Int×Int
def Mq{R:Type}(rec:G9→Option R) (kx:Ex→G9→Option R) (v:G9):Option R:=match v with
 |(v,v1,v2,v3) =>
 cond (decide (v3<v2)) (
  chk (inb v3 v.length) (
  cond (!(Bo (at' .expr v v3) 30)) (
   kx .ret (v,v3,v2,v3)) (
   rec (v,v1,v2,(wr .i64 (v3+1)))))) (
  kx (.exit 0) (v,v1,v2,v3))
def Gj(R:Type) (_k:Nat):Px R:=⟨A7 ttL,glT,Aq [(39,As [.sv .expr,.int .i64] [.bool] P5)],Ak [],Av [],tbl []⟩
noncomputable def Fe (R:Type) (k:Nat):Px R:=⟨A7 ttL,glT,Aq [(112,Bb 120 600 (Gj R k) Tryz.f112)],Ak [],Av [(2,Bc k Uw (Mq))],tbl []⟩
noncomputable def N4 (R:Type) (k:Nat):Px R:=⟨A7 ttL,glT,Aq [(148,Bb 80 400 (Fe R k) Tryz.f148)],Ak [],Av [],tbl []⟩
noncomputable def Pt (R:Type) (k:Nat):Px R:=⟨A7 ttL,glT,Aq [(96,Bb 40 200 (N4 R k) Tryz.f96)],Ak [],Av [],tbl []⟩
theorem Aqp(R:Type) (k:Nat):∀(fr:List Fr) (rec:G9→Option R) (kx:Ex→G9→Option R) (v:G9),Bn (Fe R k) Uw (lp Tryz.f148 0) fr rec kx v=Mq rec kx v
 |fr,rec,kx,(v,v1,v2,v3)=>by kernel_rfl
def Xk(k:Nat) (x:HV [.sl .expr false]):Option (HV [.bool]):=match x with
 |l =>
 cond (decide ((l.length:Int)≤100)) (
  A5 (fun rec=>Mq rec (fun e vz=>match vz with|(_,v5,_,_)=>match e with
  |.ret =>
   some (!(decide (0≤v5)))
  |.exit 0 =>
   some true
  |_=>none)) k (l,0,(l.length:Int),0)) (
  some false)
theorem A23(k:Nat):∀(x:HV [.sl .expr false]),Ci (Pt _ k) Tryz.f68 [.sl .expr false] [.bool] x some=Xk k x
 |l=>by kernel_rfl
theorem Avw(k:Nat):FnOk Tryz.prog elT glT 68 [.sl .expr false] [.bool] (Xk k):=by
 refine A1 Tryz.func68 rfl (by kernel_rfl) follows (by kernel_rfl) (n:=0) (by kernel_rfl) (px:=Pt _ k) (fun cx hP hel hgl =>?_) (A23 k)
 have hp3:PxOk cx (Gj (HV [.bool]) k):=⟨fun t=>by rw [hP,hel];exact Au Al t,by rw [hgl];rfl⟩
 have hc3:Aj cx (Gj (HV [.bool]) k):=Ah rfl (Aa (A4 (by rw [hP,hel,hgl];exact Rc) (by kernel_rfl)) Ai)
 have hq3:CallQOk cx (Gj (HV [.bool]) k):=Ab rfl rfl Af Ae
 have hp2:PxOk cx (Fe (HV [.bool]) k):=⟨fun t=>by rw [hP,hel];exact Au Al t,by rw [hgl];rfl⟩
 have hc2:Aj cx (Fe (HV [.bool]) k):=Ah rfl (Aa (Bm hp3 hc3 hq3 (by rw [hP];exact follows) (by rw [hP];exact Tryz.func112) rfl (by kernel_rfl) (by kernel_rfl) (n:=0) (by kernel_rfl) (Aw)) Ai)
 have hq2:CallQOk cx (Fe (HV [.bool]) k):=Ab rfl rfl Af Ae
 have hlaexprs_0:A6 cx (Fe (HV [.bool]) k) (lp Tryz.f148 0):=A8 hp2 hc2 hq2 (by rw [hP];exact follows) (k:=k) (s:=Uw) (step:=Mq) (fun _ _=>by kernel_rfl) (by kernel_rfl) (Aqp _ k) (A0 (n:=0) (by kernel_rfl) Aw)
 have hp1:PxOk cx (N4 (HV [.bool]) k):=⟨fun t=>by rw [hP,hel];exact Au Al t,by rw [hgl];rfl⟩
 have hc1:Aj cx (N4 (HV [.bool]) k):=Ah rfl (Aa (Bm hp2 hc2 hq2 (by rw [hP];exact follows) (by rw [hP];exact Tryz.func148) rfl (by kernel_rfl) (by kernel_rfl) (n:=1) (by kernel_rfl) ((Cg Aw hlaexprs_0))) Ai)
 have hq1:CallQOk cx (N4 (HV [.bool]) k):=Ab rfl rfl Af Ae
 have hp0:PxOk cx (Pt (HV [.bool]) k):=⟨fun t=>by rw [hP,hel];exact Au Al t,by rw [hgl];rfl⟩
 have hc0:Aj cx (Pt (HV [.bool]) k):=Ah rfl (Aa (Bm hp1 hc1 hq1 (by rw [hP];exact follows) (by rw [hP];exact Tryz.func96) rfl (by kernel_rfl) (by kernel_rfl) (n:=0) (by kernel_rfl) (Aw)) Ai)
 have hq0:CallQOk cx (Pt (HV [.bool]) k):=Ab rfl rfl Af Ae
 exact⟨hp0,hc0,hq0,Aw⟩
def O0(l:List Xpr):Bool:=decide (l.length≤100)&&l.all fun e=>Bo e 30
def Abo:FT [.sl .expr false] [.bool]:=fun x=>some (O0 x)
theorem Ap7{R:Type}{kx:Ex→G9→Option R}{l:List Xpr}{c:Bool→Option R}(hn:ln l.length) (h1:∀i:Nat,kx .ret (l,(i:Int),(l.length:Int),(i:Int))=c false) (h2:∀q i,kx (.exit 0) (l,q,(l.length:Int),i)=c true) (k:Nat) (hk:l.length<k) :
  A5 (fun rec=>Mq rec kx) k (l,0,(l.length:Int),0)=c (l.all fun e=>Bo e 30):=by
 refine(C4 l.length (fun i=>(l,(0:Int),(l.length:Int),(i:Int))) (fun i=>c ((l.drop i).all fun e=>Bo e 30)) (fun i hi rec hr =>?_) (fun rec =>?_) k 0 (Nat.zero_le _) (by omega)).trans (by rw [Zq1])
 ·simp only [Mq,H1 hi,Am,Bp hi,chk,Bq (c :=.expr) hi,Bg hi hn,hr,h1,A9 hi,Zv1]
  cases Bo l[i] 30<;>rfl
 ·simp only [Mq,H0,An,h2]
  rw [Zk1 (Zn1 _)]
  rfl
theorem Alh:FnOk Tryz.prog elT glT 68 [.sl .expr false] [.bool] Abo :=.fin 0 Avw fun l r hb hx=>⟨l.length+1,by
 simp only [Abo,Za1] at hx
 rw [←hx]
 simp only [Xk,O0]
 rw [show decide ((l.length:Int)≤100)=decide (l.length≤100) from Zy1.2 (by omega)]
 cases decide (l.length≤100) with
 |false=>rfl
 |true =>
  rw [Am,Bool.true_and]
  exact Ap7 (l:=l) (c:=some) hb.1 (fun i=>by simp) (fun _ _=>rfl) (l.length+1) (by omega)⟩
def Aar:Sig:=⟨19,[(0,.sl .exprs false),(4,.int .i64),(7,.int .i64),(8,.int .i64)],[(1,.fn 114 [])],[],80,80,400,[],[]⟩
abbrev J1:=List (List Xpr)×Int×Int×Int
def Tp{R:Type}(rec:J1→Option R) (kx:Ex→J1→Option R) (v:J1):Option R:=match v with
 |(v,v1,v2,v3) =>
 cond (decide (v3<v2)) (
  chk (inb v3 v.length) (
  cond (decide (((at' .exprs v v3).length:Int)=0)) (
   kx .ret (v,v3,v2,v3)) (
   cond (!(O0 (at' .exprs v v3))) (
   kx .ret (v,v3,v2,v3)) (
   rec (v,v1,v2,(wr .i64 (v3+1))))))) (
  kx (.exit 0) (v,v1,v2,v3))
def Ic(R:Type) (_k:Nat):Px R:=⟨A7 ttL,glT,Aq [(68,As [.sl .expr false] [.bool] Abo)],Ak [],Av [],tbl []⟩
noncomputable def F1 (R:Type) (k:Nat):Px R:=⟨A7 ttL,glT,Aq [(114,Bb 120 600 (Ic R k) Tryz.f114)],Ak [],Av [(2,Bc k Aar (Tp))],tbl []⟩
noncomputable def T4 (R:Type) (k:Nat):Px R:=⟨A7 ttL,glT,Aq [(155,Bb 80 400 (F1 R k) Tryz.f155)],Ak [],Av [],tbl []⟩
noncomputable def Vu (R:Type) (k:Nat):Px R:=⟨A7 ttL,glT,Aq [(66,As [.int .i64] [.bool] Abd),(113,Bb 40 200 (T4 R k) Tryz.f113)],Ak [],Av [],tbl []⟩
theorem Asl(R:Type) (k:Nat):∀(fr:List Fr) (rec:J1→Option R) (kx:Ex→J1→Option R) (v:J1),Bn (F1 R k) Aar (lp Tryz.f155 0) fr rec kx v=Tp rec kx v
 |fr,rec,kx,(v,v1,v2,v3)=>by kernel_rfl
def Zw(k:Nat) (x:HV [.sl .exprs false]):Option (HV [.bool]):=match x with
 |l =>
 cond ((Dw (l.length:Int))) (
  A5 (fun rec=>Tp rec (fun e vz=>match vz with|(_,v5,_,_)=>match e with
  |.ret =>
   some (!(decide (0≤v5)))
  |.exit 0 =>
   some true
  |_=>none)) k (l,0,(l.length:Int),0)) (
  some false)
theorem A7s(k:Nat):∀(x:HV [.sl .exprs false]),Ci (Vu _ k) Tryz.f69 [.sl .exprs false] [.bool] x some=Zw k x
 |l=>by kernel_rfl
theorem A0b(k:Nat):FnOk Tryz.prog elT glT 69 [.sl .exprs false] [.bool] (Zw k):=by
 refine A1 Tryz.func69 rfl (by kernel_rfl) follows (by kernel_rfl) (n:=0) (by kernel_rfl) (px:=Vu _ k) (fun cx hP hel hgl =>?_) (A7s k)
 have hp3:PxOk cx (Ic (HV [.bool]) k):=⟨fun t=>by rw [hP,hel];exact Au Al t,by rw [hgl];rfl⟩
 have hc3:Aj cx (Ic (HV [.bool]) k):=Ah rfl (Aa (A4 (by rw [hP,hel,hgl];exact Alh) (by kernel_rfl)) Ai)
 have hq3:CallQOk cx (Ic (HV [.bool]) k):=Ab rfl rfl Af Ae
 have hp2:PxOk cx (F1 (HV [.bool]) k):=⟨fun t=>by rw [hP,hel];exact Au Al t,by rw [hgl];rfl⟩
 have hc2:Aj cx (F1 (HV [.bool]) k):=Ah rfl (Aa (Bm hp3 hc3 hq3 (by rw [hP];exact follows) (by rw [hP];exact Tryz.func114) rfl (by kernel_rfl) (by kernel_rfl) (n:=0) (by kernel_rfl) (Aw)) Ai)
 have hq2:CallQOk cx (F1 (HV [.bool]) k):=Ab rfl rfl Af Ae
 have hlarows_0:A6 cx (F1 (HV [.bool]) k) (lp Tryz.f155 0):=A8 hp2 hc2 hq2 (by rw [hP];exact follows) (k:=k) (s:=Aar) (step:=Tp) (fun _ _=>by kernel_rfl) (by kernel_rfl) (Asl _ k) (A0 (n:=0) (by kernel_rfl) Aw)
 have hp1:PxOk cx (T4 (HV [.bool]) k):=⟨fun t=>by rw [hP,hel];exact Au Al t,by rw [hgl];rfl⟩
 have hc1:Aj cx (T4 (HV [.bool]) k):=Ah rfl (Aa (Bm hp2 hc2 hq2 (by rw [hP];exact follows) (by rw [hP];exact Tryz.func155) rfl (by kernel_rfl) (by kernel_rfl) (n:=1) (by kernel_rfl) ((Cg Aw hlarows_0))) Ai)
 have hq1:CallQOk cx (T4 (HV [.bool]) k):=Ab rfl rfl Af Ae
 have hp0:PxOk cx (Vu (HV [.bool]) k):=⟨fun t=>by rw [hP,hel];exact Au Al t,by rw [hgl];rfl⟩
 have hc0:Aj cx (Vu (HV [.bool]) k):=Ah rfl (Aa (A4 (by rw [hP,hel,hgl];exact Ach) (by kernel_rfl)) (Aa (Bm hp1 hc1 hq1 (by rw [hP];exact follows) (by rw [hP];exact Tryz.func113) rfl (by kernel_rfl) (by kernel_rfl) (n:=0) (by kernel_rfl) (Aw)) Ai))
 have hq0:CallQOk cx (Vu (HV [.bool]) k):=Ab rfl rfl Af Ae
 exact⟨hp0,hc0,hq0,Aw⟩
def Ayg(r:List Xpr):Bool := !decide (r.length=0)&&O0 r
def Apz(l:List (List Xpr)):Bool:=Dw (l.length:Int)&&l.all Ayg
def Amr:FT [.sl .exprs false] [.bool]:=fun x=>some (Apz x)
theorem Atj{R:Type}{kx:Ex→J1→Option R}{l:List (List Xpr)}{c:Bool→Option R}(hn:ln l.length) (h1:∀i:Nat,kx .ret (l,(i:Int),(l.length:Int),(i:Int))=c false) (h2:∀q i,kx (.exit 0) (l,q,(l.length:Int),i)=c true) (k:Nat) (hk:l.length<k) :
  A5 (fun rec=>Tp rec kx) k (l,0,(l.length:Int),0)=c (l.all Ayg):=by
 refine(C4 l.length (fun i=>(l,(0:Int),(l.length:Int),(i:Int))) (fun i=>c ((l.drop i).all Ayg)) (fun i hi rec hr =>?_) (fun rec =>?_) k 0 (Nat.zero_le _) (by omega)).trans (by rw [Zq1])
 ·simp only [Tp,H1 hi,Am,Bp hi,chk,Bq (c :=.exprs) hi,Bg hi hn,hr,h1,A9 hi,Zv1,Ayg]
  rw [show decide ((l[i].length:Int)=0)=decide (l[i].length=0) from Zy1.2 (by omega)]
  cases decide (l[i].length=0)<;>cases O0 l[i]<;>rfl
 ·simp only [Tp,H0,An,h2]
  rw [Zk1 (Zn1 _)]
  rfl
theorem A5z:FnOk Tryz.prog elT glT 69 [.sl .exprs false] [.bool] Amr :=.fin 0 A0b fun l r hb hx=>⟨l.length+1,by
 simp only [Amr,Za1] at hx
 rw [←hx]
 simp only [Zw,Apz]
 cases Dw (l.length:Int) with
 |false=>rfl
 |true =>
  rw [Am,Bool.true_and]
  exact Atj (l:=l) (c:=some) hb.1 (fun i=>by simp) (fun _ _=>rfl) (l.length+1) (by omega)⟩
def Vz(R:Type):Px R:=⟨A7 ttL,glT,Aq [(20,As [.sv .expr,.sv .expr] [.bool] Yf)],Ak [],Av [],tbl []⟩
def S9(x:HV [.sv .expr]):Option (HV [.bool]):=match x with
 |e =>
 some (U3 e (Xpr.mk 0 ⟨0,0,[]⟩ [] []))
theorem A7d:∀(x:HV [.sv .expr]),Ci (Vz _) Tryz.f115 [.sv .expr] [.bool] x some=S9 x
 |e=>by kernel_rfl
theorem Ay0:FnOk Tryz.prog elT glT 115 [.sv .expr] [.bool] (S9):=by
 refine A1 Tryz.func115 rfl (by kernel_rfl) follows (by kernel_rfl) (n:=0) (by kernel_rfl) (px:=Vz _) (fun cx hP hel hgl =>?_) (A7d)
 have hp0:PxOk cx (Vz (HV [.bool])):=⟨fun t=>by rw [hP,hel];exact Au Al t,by rw [hgl];rfl⟩
 have hc0:Aj cx (Vz (HV [.bool])):=Ah rfl (Aa (A4 (by rw [hP,hel,hgl];exact Xe) (by kernel_rfl)) Ai)
 have hq0:CallQOk cx (Vz (HV [.bool])):=Ab rfl rfl Af Ae
 exact⟨hp0,hc0,hq0,Aw⟩
def Ao2(e:Xpr):Bool :=
 (U3 e (Xpr.mk 0 ⟨0,0,[]⟩ [] []))
theorem Ay6(x:HV [.sv .expr]):S9 x=some (Ao2 x):=by
 first
  |exact rfl
  |simp only [S9,Ao2,B2]
def Av9:FT [.sv .expr] [.bool]:=fun x=>some (Ao2 x)
theorem A5r:FnOk Tryz.prog elT glT 115 [.sv .expr] [.bool] Av9 :=.fin0 Ay0 fun x _ _ hx=>(Ay6 x).trans hx
def R1(R:Type):Px R:=⟨A7 ttL,glT,Aq [(115,As [.sv .expr] [.bool] Av9),(39,As [.sv .expr,.int .i64] [.bool] P5)],Ak [],Av [],tbl []⟩
def Oy(x:HV [.sv .stmt]):Option (HV [.bool]):=match x with
 |s =>
 cond (!s.has) (
  some (Ao2 (Ut s.whr))) (
  some (Bo (Ut s.whr) 30))
theorem A0v:∀(x:HV [.sv .stmt]),Ci (R1 _) Tryz.f71 [.sv .stmt] [.bool] x some=Oy x
 |s=>by kernel_rfl
theorem Asr:FnOk Tryz.prog elT glT 71 [.sv .stmt] [.bool] (Oy):=by
 refine A1 Tryz.func71 rfl (by kernel_rfl) follows (by kernel_rfl) (n:=0) (by kernel_rfl) (px:=R1 _) (fun cx hP hel hgl =>?_) (A0v)
 have hp0:PxOk cx (R1 (HV [.bool])):=⟨fun t=>by rw [hP,hel];exact Au Al t,by rw [hgl];rfl⟩
 have hc0:Aj cx (R1 (HV [.bool])):=Ah rfl (Aa (A4 (by rw [hP,hel,hgl];exact A5r) (by kernel_rfl)) (Aa (A4 (by rw [hP,hel,hgl];exact Rc) (by kernel_rfl)) Ai))
 have hq0:CallQOk cx (R1 (HV [.bool])):=Ab rfl rfl Af Ae
 exact⟨hp0,hc0,hq0,Aw⟩
def Pb(s:Stm):Bool :=
 cond (!s.has) (
  (Ao2 (Ut s.whr))) (
  (Bo (Ut s.whr) 30))
theorem Aul(x:HV [.sv .stmt]):Oy x=some (Pb x):=by
 first
  |exact rfl
  |simp only [Oy,Pb,B2]
def Aph:FT [.sv .stmt] [.bool]:=fun x=>some (Pb x)
theorem A0g:FnOk Tryz.prog elT glT 71 [.sv .stmt] [.bool] Aph :=.fin0 Asr fun x _ _ hx=>(Aul x).trans hx
def Aam:Sig:=⟨44,[(0,.sl .col false),(2,.bool),(3,.sl .str true),(6,.sl .col false),(7,.int .i64),(8,.int .i64)],[],[],0,0,0,[],[]⟩
abbrev Jm:=List Col×Bool×List Str×List Col×Int×Int
def R6{R:Type}(rec:Jm→Option R) (kx:Ex→Jm→Option R) (v:Jm):Option R:=match v with
 |(v,v1,v2,v3,v4,v5) =>
 cond (decide (v5<v4)) (
  chk (inb v5 v3.length) (
  let j:=fun(p:Bool) =>
   cond (p) (
   kx .ret (v,false,v2,v3,v4,v5)) (
   cond (!decide (((at' .col v3 v5).ref)=[])) (
    cond (!(F9 ((at' .col v3 v5).ref))) (
    kx .ret (v,false,v2,v3,v4,v5)) (
    chk (decide (v2.length+1≤Be)) (
     rec (v,v1,(v2++[((at' .col v3 v5).name)]),v3,v4,(wr .i64 (v5+1)))))) (
    chk (decide (v2.length+1≤Be)) (
    rec (v,v1,(v2++[((at' .col v3 v5).name)]),v3,v4,(wr .i64 (v5+1))))))
  cond (decide ((at' .col v3 v5).kind<2)) (
   j true) (
   j (decide (5<(at' .col v3 v5).kind))))) (
  kx (.exit 0) (v,v1,v2,v3,v4,v5))
def M2(R:Type) (k:Nat):Px R:=⟨A7 ttL,glT,Aq [(63,As [.str] [.bool] Ss),(66,As [.int .i64] [.bool] Abd),(67,As [.sl .str false] [.bool] Abp)],Ak [],Av [(3,Bc k Aam (R6))],tbl []⟩
theorem Asf(R:Type) (k:Nat):∀(fr:List Fr) (rec:Jm→Option R) (kx:Ex→Jm→Option R) (v:Jm),Bn (M2 R k) Aam (lp Tryz.f65 0) fr rec kx v=R6 rec kx v
 |fr,rec,kx,(v,v1,v2,v3,v4,v5)=>by kernel_rfl
def Aan(k:Nat) (x:HV [.sl .col false]):Option (HV [.bool]):=match x with
 |l =>
 A5 (fun rec=>R6 rec (fun e vz=>match vz with|(v6,v7,v8,_,_,_)=>match e with
  |.ret =>
  some v7
  |.exit 0 =>
  cond ((Dw (v6.length:Int))) (
   some (Eo v8)) (
   some false)
  |_=>none)) k (l,false,[],l,(l.length:Int),0)
theorem A5o(k:Nat):∀(x:HV [.sl .col false]),Ci (M2 _ k) Tryz.f65 [.sl .col false] [.bool] x some=Aan k x
 |l=>by kernel_rfl
theorem A19(k:Nat):FnOk Tryz.prog elT glT 65 [.sl .col false] [.bool] (Aan k):=by
 refine A1 Tryz.func65 rfl (by kernel_rfl) follows (by kernel_rfl) (n:=1) (by kernel_rfl) (px:=M2 _ k) (fun cx hP hel hgl =>?_) (A5o k)
 have hp0:PxOk cx (M2 (HV [.bool]) k):=⟨fun t=>by rw [hP,hel];exact Au Al t,by rw [hgl];rfl⟩
 have hc0:Aj cx (M2 (HV [.bool]) k):=Ah rfl (Aa (A4 (by rw [hP,hel,hgl];exact U0) (by kernel_rfl)) (Aa (A4 (by rw [hP,hel,hgl];exact Ach) (by kernel_rfl)) (Aa (A4 (by rw [hP,hel,hgl];exact Ag5) (by kernel_rfl)) Ai)))
 have hq0:CallQOk cx (M2 (HV [.bool]) k):=Ab rfl rfl Af Ae
 have hlacols_0:A6 cx (M2 (HV [.bool]) k) (lp Tryz.f65 0):=A8 hp0 hc0 hq0 (by rw [hP];exact follows) (k:=k) (s:=Aam) (step:=R6) (fun _ _=>by kernel_rfl) (by kernel_rfl) (Asf _ k) (A0 (n:=0) (by kernel_rfl) Aw)
 exact⟨hp0,hc0,hq0,(Cg Aw hlacols_0)⟩
def Ai6(c:Col):Bool:=decide (2≤c.kind)&&decide (c.kind≤5)&&(decide (c.ref=[])||F9 c.ref)
def Awr(l:List Col):Option Bool:=if l.length≤1000000 then some (l.all Ai6&&Dw (l.length:Int)&&Eo (l.map (·.name))) else none
def Anv:FT [.sl .col false] [.bool]:=fun x=>Awr x
theorem Atx{R:Type}{kx:Ex→Jm→Option R}{l:List Col}{c:Bool→Option R}(hn:l.length≤1000000) (h1:∀o i,kx .ret (l,false,o,l,(l.length:Int),i)=c false) (h2:∀q o i,kx (.exit 0) (l,q,o,l,(l.length:Int),i)=cond (Dw (l.length:Int)) (c (Eo o)) (c false)) (k:Nat) (hk:l.length<k) :
  A5 (fun rec=>R6 rec kx) k (l,false,[],l,(l.length:Int),0)=c (l.all Ai6&&Dw (l.length:Int)&&Eo (l.map (·.name))):=by
 have hl:ln l.length:=by simp only [ln];omega
 refine(C4 l.length (fun i=>(l,false,(l.take i).map (·.name),l,(l.length:Int),(i:Int))) (fun i=>c ((l.drop i).all Ai6&&Dw (l.length:Int)&&Eo (l.map (·.name)))) (fun i hi rec hr =>?_) (fun rec =>?_) k 0 (Nat.zero_le _) (by omega)).trans (by rw [Zq1])
 ·have ht:(l.take (i+1)).map (·.name)=(l.take i).map (·.name)++[l[i].name]:=by
   rw [List.take_add_one,Zo1 hi,List.map_append]
   rfl
  have hlen:((l.take i).map (·.name)).length+1≤Be:=by simp only [List.length_map,List.length_take,Be];omega
  rw [ht] at hr
  simp only [R6,H1 hi,Am,Bp hi,chk,Bq (c :=.col) hi,Bg hi hl,hr,h1,A9 hi,Zv1,Ai6,Ze1 hlen]
  by_cases ha:l[i].kind<2
  ·rw [Ze1 ha,Zd1 (show ¬ 2≤l[i].kind by omega)]
   rfl
  ·rw [Zd1 ha,Ze1 (show 2≤l[i].kind by omega)]
   by_cases hb : 5<l[i].kind
   ·rw [Ze1 hb,Zd1 (show ¬l[i].kind≤5 by omega)]
    rfl
   ·rw [Zd1 hb,Ze1 (show l[i].kind≤5 by omega)]
    cases decide (l[i].ref=[])<;>cases F9 l[i].ref<;>rfl
 ·simp only [R6,H0,An,h2]
  rw [Zk1 (Zn1 _),List.take_length]
  cases Dw (l.length:Int)<;>rfl
theorem A6h:FnOk Tryz.prog elT glT 65 [.sl .col false] [.bool] Anv :=.fin 0 A19 fun l r hb hx=>⟨l.length+1,by
 simp only [Anv,Awr] at hx
 split at hx
 ·rename_i h
  rw [←hx]
  simp only [Aan]
  refine Atx (l:=l) (c:=some) h (fun _ _=>rfl) (fun _ _ _ =>?_) (l.length+1) (by omega)
  cases Dw (l.length:Int)<;>rfl
 ·cases hx⟩
def Aak:Sig:=⟨29,[(0,.sl .set false),(2,.bool),(3,.sl .str true),(6,.sl .set false),(7,.int .i64),(8,.int .i64)],[],[],0,0,0,[],[]⟩
abbrev I2:=List SetE×Bool×List Str×List SetE×Int×Int
def Sp{R:Type}(rec:I2→Option R) (kx:Ex→I2→Option R) (v:I2):Option R:=match v with
 |(v,v1,v2,v3,v4,v5) =>
 cond (decide (v5<v4)) (
  chk (inb v5 v3.length) (
  cond (!(Bo (Ut ((at' .set v3 v5).e)) 30)) (
   kx .ret (v,false,v2,v3,v4,v5)) (
   chk (decide (v2.length+1≤Be)) (
   rec (v,v1,(v2++[((at' .set v3 v5).name)]),v3,v4,(wr .i64 (v5+1))))))) (
  kx (.exit 0) (v,v1,v2,v3,v4,v5))
def Mx(R:Type) (k:Nat):Px R:=⟨A7 ttL,glT,Aq [(39,As [.sv .expr,.int .i64] [.bool] P5),(66,As [.int .i64] [.bool] Abd),(67,As [.sl .str false] [.bool] Abp)],Ak [],Av [(3,Bc k Aak (Sp))],tbl []⟩
theorem Avu(R:Type) (k:Nat):∀(fr:List Fr) (rec:I2→Option R) (kx:Ex→I2→Option R) (v:I2),Bn (Mx R k) Aak (lp Tryz.f70 0) fr rec kx v=Sp rec kx v
 |fr,rec,kx,(v,v1,v2,v3,v4,v5)=>by kernel_rfl
def Zr(k:Nat) (x:HV [.sl .set false]):Option (HV [.bool]):=match x with
 |l =>
 A5 (fun rec=>Sp rec (fun e vz=>match vz with|(v6,v7,v8,_,_,_)=>match e with
  |.ret =>
  some v7
  |.exit 0 =>
  cond ((Dw (v6.length:Int))) (
   some (Eo v8)) (
   some false)
  |_=>none)) k (l,false,[],l,(l.length:Int),0)
theorem A8m(k:Nat):∀(x:HV [.sl .set false]),Ci (Mx _ k) Tryz.f70 [.sl .set false] [.bool] x some=Zr k x
 |l=>by kernel_rfl
theorem A0w(k:Nat):FnOk Tryz.prog elT glT 70 [.sl .set false] [.bool] (Zr k):=by
 refine A1 Tryz.func70 rfl (by kernel_rfl) follows (by kernel_rfl) (n:=1) (by kernel_rfl) (px:=Mx _ k) (fun cx hP hel hgl =>?_) (A8m k)
 have hp0:PxOk cx (Mx (HV [.bool]) k):=⟨fun t=>by rw [hP,hel];exact Au Al t,by rw [hgl];rfl⟩
 have hc0:Aj cx (Mx (HV [.bool]) k):=Ah rfl (Aa (A4 (by rw [hP,hel,hgl];exact Rc) (by kernel_rfl)) (Aa (A4 (by rw [hP,hel,hgl];exact Ach) (by kernel_rfl)) (Aa (A4 (by rw [hP,hel,hgl];exact Ag5) (by kernel_rfl)) Ai)))
 have hq0:CallQOk cx (Mx (HV [.bool]) k):=Ab rfl rfl Af Ae
 have hlasets_0:A6 cx (Mx (HV [.bool]) k) (lp Tryz.f70 0):=A8 hp0 hc0 hq0 (by rw [hP];exact follows) (k:=k) (s:=Aak) (step:=Sp) (fun _ _=>by kernel_rfl) (by kernel_rfl) (Avu _ k) (A0 (n:=0) (by kernel_rfl) Aw)
 exact⟨hp0,hc0,hq0,(Cg Aw hlasets_0)⟩
def Ayj(l:List SetE):Option Bool:=if l.length≤1000000 then some (l.all (fun x=>Bo x.e 30)&&Dw (l.length:Int)&&Eo (l.map (·.name))) else none
def Amp:FT [.sl .set false] [.bool]:=fun x=>Ayj x
theorem Aun{R:Type}{kx:Ex→I2→Option R}{l:List SetE}{c:Bool→Option R}(hn:l.length≤1000000) (h1:∀o i,kx .ret (l,false,o,l,(l.length:Int),i)=c false) (h2:∀q o i,kx (.exit 0) (l,q,o,l,(l.length:Int),i)=cond (Dw (l.length:Int)) (c (Eo o)) (c false)) (k:Nat) (hk:l.length<k) :
  A5 (fun rec=>Sp rec kx) k (l,false,[],l,(l.length:Int),0)=c (l.all (fun x=>Bo x.e 30)&&Dw (l.length:Int)&&Eo (l.map (·.name))):=by
 have hl:ln l.length:=by simp only [ln];omega
 refine(C4 l.length (fun i=>(l,false,(l.take i).map (·.name),l,(l.length:Int),(i:Int))) (fun i=>c ((l.drop i).all (fun x=>Bo x.e 30)&&Dw (l.length:Int)&&Eo (l.map (·.name)))) (fun i hi rec hr =>?_) (fun rec =>?_) k 0 (Nat.zero_le _) (by omega)).trans (by rw [Zq1])
 ·have ht:(l.take (i+1)).map (·.name)=(l.take i).map (·.name)++[l[i].name]:=by
   rw [List.take_add_one,Zo1 hi,List.map_append]
   rfl
  have hlen:((l.take i).map (·.name)).length+1≤Be:=by simp only [List.length_map,List.length_take,Be];omega
  rw [ht] at hr
  simp only [Sp,H1 hi,Am,Bp hi,chk,Bq (c :=.set) hi,Bg hi hl,hr,h1,A9 hi,Zv1,Ze1 hlen,Ym]
  cases Bo l[i].e 30<;>rfl
 ·simp only [Sp,H0,An,h2]
  rw [Zk1 (Zn1 _),List.take_length]
  cases Dw (l.length:Int)<;>rfl
theorem A8w:FnOk Tryz.prog elT glT 70 [.sl .set false] [.bool] Amp :=.fin 0 A0w fun l r hb hx=>⟨l.length+1,by
 simp only [Amp,Ayj] at hx
 split at hx
 ·rename_i h
  rw [←hx]
  simp only [Zr]
  refine Aun (l:=l) (c:=some) h (fun _ _=>rfl) (fun _ _ _ =>?_) (l.length+1) (by omega)
  cases Dw (l.length:Int)<;>rfl
 ·cases hx⟩
def noX:Xpr :=.mk 0 ⟨0,0,[]⟩ [] []
def noS:Stm:=⟨0,[],[],[],[],[],[],[],false,noX,[],[],0⟩
def Uy(R:Type):Px R:=⟨A7 ttL,glT,Aq [],Ak [],Av [],tbl []⟩
def Aag(x:HV [.sv .stmt]):Option (HV [.sv .stmt]):=match x with
 |s =>
 cond (decide (s.kind=1)) (
  some (Stm.mk 0 [] s.on [] [] [] s.rows s.sets s.has (Ut s.whr) s.order s.desc s.most)) (
  cond (decide (s.kind=3)) (
  some (Stm.mk 0 [] [] s.cols [] s.l s.rows s.sets s.has (Ut s.whr) s.order s.desc s.most)) (
  cond (decide (s.kind=5)) (
   some (Stm.mk 0 [] s.on s.cols s.names s.l [] s.sets s.has (Ut s.whr) s.order s.desc s.most)) (
   cond (decide (s.kind=6)) (
   some (Stm.mk 0 [] s.on s.cols s.names s.l s.rows [] false (Xpr.mk 0 ⟨0,0,[]⟩ [] []) s.order s.desc s.most)) (
   cond (decide (s.kind=7)) (
    some (Stm.mk 0 [] s.on s.cols s.names s.l s.rows s.sets false (Xpr.mk 0 ⟨0,0,[]⟩ [] []) s.order s.desc s.most)) (
    cond (decide (s.kind=8)) (
    some (Stm.mk 0 [] s.on s.cols s.names [] s.rows s.sets false (Xpr.mk 0 ⟨0,0,[]⟩ [] []) [] [] 0)) (
    some (Stm.mk 0 [] s.on s.cols s.names s.l s.rows s.sets s.has (Ut s.whr) s.order s.desc s.most)))))))
theorem A5a:∀(x:HV [.sv .stmt]),Ci (Uy _) Tryz.f64 [.sv .stmt] [.sv .stmt] x some=Aag x
 |s=>by kernel_rfl
theorem A2l:FnOk Tryz.prog elT glT 64 [.sv .stmt] [.sv .stmt] (Aag):=by
 refine A1 Tryz.func64 rfl (by kernel_rfl) follows (by kernel_rfl) (n:=0) (by kernel_rfl) (px:=Uy _) (fun cx hP hel hgl =>?_) (A5a)
 have hp0:PxOk cx (Uy (HV [.sv .stmt])):=⟨fun t=>by rw [hP,hel];exact Au Al t,by rw [hgl];rfl⟩
 have hc0:Aj cx (Uy (HV [.sv .stmt])):=Ah rfl Ai
 have hq0:CallQOk cx (Uy (HV [.sv .stmt])):=Ab rfl rfl Af Ae
 exact⟨hp0,hc0,hq0,Aw⟩
def Ahz(s:Stm):Stm :=
 if s.kind=1 then { s with kind:=0,name:=[],cols:=[],names:=[],l:=[] }
 else if s.kind=3 then { s with kind:=0,name:=[],on:=[],names:=[] }
 else if s.kind=5 then { s with kind:=0,name:=[],rows:=[] }
 else if s.kind=6 then { s with kind:=0,name:=[],sets:=[],has:=false,whr:=noX }
 else if s.kind=7 then { s with kind:=0,name:=[],has:=false,whr:=noX }
 else if s.kind=8 then { s with kind:=0,name:=[],l:=[],has:=false,whr:=noX,order:=[],desc:=[],most:=0 }
 else { s with kind:=0,name:=[] }
def Amu:FT [.sv .stmt] [.sv .stmt]:=fun x=>some (Ahz x)
theorem A6o:FnOk Tryz.prog elT glT 64 [.sv .stmt] [.sv .stmt] Amu :=.fin0 A2l fun s r hb hx=>by
 simp only [Amu,Za1] at hx
 rw [←hx]
 simp only [Aag,Ahz,Ym,Bool.cond_decide]
 split; · rfl
 split; · rfl
 split; · rfl
 split; · rfl
 split; · rfl
 split<;>rfl
def Ri(R:Type):Px R:=⟨A7 ttL,glT,Aq [(63,As [.str] [.bool] Ss),(64,As [.sv .stmt] [.sv .stmt] Amu),(27,As [.sv .stmt,.sv .stmt] [.bool] Aqk),(65,As [.sl .col false] [.bool] Anv),(66,As [.int .i64] [.bool] Abd),(67,As [.sl .str false] [.bool] Abp),(68,As [.sl .expr false] [.bool] Abo),(69,As [.sl .exprs false] [.bool] Amr),(70,As [.sl .set false] [.bool] Amp),(71,As [.sv .stmt] [.bool] Aph)],Ak [],Av [],tbl []⟩
def Va(x:HV [.sv .stmt]):Option (HV [.int .i64]):=match x with
 |s =>
 let j7:=fun(p1:Bool) =>
  cond (decide (s.kind=1)) (
  let j1:=fun(p2:Bool) =>
   let j:=fun(p3:Bool) =>
   cond (p3) (
    cond ((Eo s.names)) (
    cond (!(O0 s.l)) (
     some 2) (
     some 0)) (
    some 2)) (
    some 2)
   cond (p2) (
   j (Dw (s.names.length:Int))) (
   j false)
  cond (p1) (
   (Awr s.cols).bind fun x =>
   j1 x) (
   j1 false)) (
  cond (decide (s.kind=3)) (
   let j2:=fun(p7:Bool) =>
   cond (p7) (
    cond ((Dw (s.names.length:Int))) (
    cond (!(Eo s.names)) (
     some 2) (
     some 0)) (
    some 2)) (
    some 2)
   cond (p1) (
   j2 (F9 s.on)) (
   j2 false)) (
   let j6:=fun(p11:Bool) =>
   cond (p11) (
    cond (!p1) (
    some 2) (
    some 0)) (
    cond (decide (s.kind=5)) (
    cond (p1) (
     cond (!(Apz s.rows)) (
     some 2) (
     some 0)) (
     some 2)) (
    cond (decide (s.kind=6)) (
     cond (p1) (
     (Ayj s.sets).bind fun x1 =>
      cond (x1) (
      cond (!(Pb s)) (
       some 2) (
       some 0)) (
      some 2)) (
     some 2)) (
     cond (decide (s.kind=7)) (
     cond (p1) (
      cond (!(Pb s)) (
      some 2) (
      some 0)) (
      some 2)) (
     cond (decide (s.kind=8)) (
      let j5:=fun(p17:Bool) =>
      let j4:=fun(p18:Bool) =>
       let j3:=fun(p19:Bool) =>
       cond (p19) (
        cond (decide ((s.desc.length:Int)=(s.order.length:Int))) (
        cond (!(decide ((-1)≤s.most))) (
         some 2) (
         some 0)) (
        some 2)) (
        some 2)
       cond (p18) (
       j3 (Eo s.order)) (
       j3 false)
      cond (p17) (
       j4 (Pb s)) (
       j4 false)
      cond (p1) (
      j5 (O0 s.l)) (
      j5 false)) (
      some 2)))))
   cond (decide (s.kind=2)) (
   j6 (decide (s.kind=2))) (
   j6 (decide (s.kind=4)))))
 cond ((F9 s.name)) (
  j7 (Avn (Ahz s) (Stm.mk 0 [] [] [] [] [] [] [] false (Xpr.mk 0 ⟨0,0,[]⟩ [] []) [] [] 0))) (
  j7 false)
theorem Azc:∀(x:HV [.sv .stmt]),Ci (Ri _) Tryz.f25 [.sv .stmt] [.int .i64] x some=Va x
 |s=>by kernel_rfl
theorem Avv:FnOk Tryz.prog elT glT 25 [.sv .stmt] [.int .i64] (Va):=by
 refine A1 Tryz.func25 rfl (by kernel_rfl) follows (by kernel_rfl) (n:=0) (by kernel_rfl) (px:=Ri _) (fun cx hP hel hgl =>?_) (Azc)
 have hp0:PxOk cx (Ri (HV [.int .i64])):=⟨fun t=>by rw [hP,hel];exact Au Al t,by rw [hgl];rfl⟩
 have hc0:Aj cx (Ri (HV [.int .i64])):=Ah rfl (Aa (A4 (by rw [hP,hel,hgl];exact U0) (by kernel_rfl)) (Aa (A4 (by rw [hP,hel,hgl];exact A6o) (by kernel_rfl)) (Aa (A4 (by rw [hP,hel,hgl];exact Azp) (by kernel_rfl)) (Aa (A4 (by rw [hP,hel,hgl];exact A6h) (by kernel_rfl)) (Aa (A4 (by rw [hP,hel,hgl];exact Ach) (by kernel_rfl)) (Aa (A4 (by rw [hP,hel,hgl];exact Ag5) (by kernel_rfl)) (Aa (A4 (by rw [hP,hel,hgl];exact Alh) (by kernel_rfl)) (Aa (A4 (by rw [hP,hel,hgl];exact A5z) (by kernel_rfl)) (Aa (A4 (by rw [hP,hel,hgl];exact A8w) (by kernel_rfl)) (Aa (A4 (by rw [hP,hel,hgl];exact A0g) (by kernel_rfl)) Ai))))))))))
 have hq0:CallQOk cx (Ri (HV [.int .i64])):=Ab rfl rfl Af Ae
 exact⟨hp0,hc0,hq0,Aw⟩
def A3w(s:Stm):Bool:=F9 s.name&&decide (Ahz s=noS)&&(
 if s.kind=1 then s.cols.all Ai6&&Dw (s.cols.length:Int)&&Eo (s.cols.map (·.name))&&Dw (s.names.length:Int)&&Eo s.names&&O0 s.l
 else if s.kind=3 then F9 s.on&&Dw (s.names.length:Int)&&Eo s.names
 else if s.kind=2∨s.kind=4 then true
 else if s.kind=5 then Apz s.rows
 else if s.kind=6 then s.sets.all (fun x=>Bo x.e 30)&&Dw (s.sets.length:Int)&&Eo (s.sets.map (·.name))&&Pb s
 else if s.kind=7 then Pb s
 else if s.kind=8 then O0 s.l&&Pb s&&Eo s.order&&decide (s.desc.length=s.order.length)&&decide (-1≤s.most)
 else false)
def Uv(s:Stm):Option Int:=if s.cols.length≤1000000∧s.sets.length≤1000000 then some (cond (A3w s) 0 2) else none
def Ab3:FT [.sv .stmt] [.int .i64]:=fun x=>Uv x
theorem Aln:FnOk Tryz.prog elT glT 25 [.sv .stmt] [.int .i64] Ab3 :=.fin0 Avv fun s r hb hx=>by
 simp only [Ab3,Uv] at hx
 split at hx
 case isFalse=>cases hx
 rename_i h
 rw [←hx]
 have e1:Awr s.cols=some (s.cols.all Ai6&&Dw (s.cols.length:Int)&&Eo (s.cols.map (·.name))):=if_pos h.1
 have e2:Ayj s.sets=some (s.sets.all (fun x=>Bo x.e 30)&&Dw (s.sets.length:Int)&&Eo (s.sets.map (·.name))):=if_pos h.2
 have e3:Avn (Ahz s) (Stm.mk 0 [] [] [] [] [] [] [] false (Xpr.mk 0 ⟨0,0,[]⟩ [] []) [] [] 0)=decide (Ahz s=noS):=A2n _ _
 have e4:decide ((s.desc.length:Int)=(s.order.length:Int))=decide (s.desc.length=s.order.length):=Zy1.2 (by omega)
 simp only [Va,A3w,e1,e2,e3,e4,Zc1]
 generalize F9 s.name=A
 generalize decide (Ahz s=noS)=B
 generalize (s.cols.all Ai6&&Dw (s.cols.length:Int)&&Eo (s.cols.map (·.name)))=C
 generalize Dw (s.names.length:Int)=D
 generalize Eo s.names=E
 generalize O0 s.l=F
 generalize F9 s.on=G
 generalize Apz s.rows=H
 generalize (s.sets.all (fun x=>Bo x.e 30)&&Dw (s.sets.length:Int)&&Eo (s.sets.map (·.name)))=I
 generalize Pb s=J
 generalize Eo s.order=K
 generalize decide (s.desc.length=s.order.length)=L
 generalize decide (-1≤s.most)=M
 by_cases h1:s.kind=1
 ·rw [Ze1 h1,if_pos h1]
  cases A<;>cases B<;>cases C<;>cases D<;>cases E<;>cases F<;>rfl
 rw [Zd1 h1,if_neg h1]
 by_cases h3:s.kind=3
 ·rw [Ze1 h3,if_pos h3]
  cases A<;>cases B<;>cases G<;>cases D<;>cases E<;>rfl
 rw [Zd1 h3,if_neg h3]
 by_cases h24:s.kind=2∨s.kind=4
 ·rw [if_pos h24]
  rcases h24 with h2|h2
  ·rw [Ze1 h2]
   cases A<;>cases B<;>rfl
  ·rw [Ze1 h2,Zd1 (show ¬s.kind=2 by omega)]
   cases A<;>cases B<;>rfl
 rw [if_neg h24,Zd1 (show ¬s.kind=2 by omega),Zd1 (show ¬s.kind=4 by omega)]
 by_cases h5:s.kind=5
 ·rw [Ze1 h5,if_pos h5]
  cases A<;>cases B<;>cases H<;>rfl
 rw [Zd1 h5,if_neg h5]
 by_cases h6:s.kind=6
 ·rw [Ze1 h6,if_pos h6]
  cases A<;>cases B<;>cases I<;>cases J<;>rfl
 rw [Zd1 h6,if_neg h6]
 by_cases h7:s.kind=7
 ·rw [Ze1 h7,if_pos h7]
  cases A<;>cases B<;>cases J<;>rfl
 rw [Zd1 h7,if_neg h7]
 by_cases h8:s.kind=8
 ·rw [Ze1 h8,if_pos h8]
  cases A<;>cases B<;>cases F<;>cases J<;>cases K<;>cases L<;>cases M<;>rfl
 rw [Zd1 h8,if_neg h8]
 cases A<;>cases B<;>rfl
end Go.Proofs.YthndhaolemgbdaaGreatDoor
namespace Go.Proofs.YthndhaolemgbdaaGreatDoor
open Go.Ax Go.RowKit
def Ap6:List Nat:=[80,82]
abbrev Bhh:TypeId:=80
theorem Awo:(Tryz.prog.info? Bhh).map (·.size)=some 2:=by kernel_rfl
theorem Bau(T:TypeId) (h:T∈Ap6):liesAt Tryz.prog Tryz.prog.depth T (2 / Tryz.prog.cellsOf T) 0 Bhh 1=true:=by
 simp only [Ap6,List.mem_cons,List.not_mem_nil,or_false] at h
 rcases h with rfl|rfl<;>kernel_rfl
set_option maxRecDepth 100000 in
theorem Bac(b:Nat) (w:World) (h0:w.cell? ⟨b,0,none⟩=some (.pointer (some ⟨b,0,none⟩))) :
  Calls Tryz.prog 152 #[.pointer (some ⟨b,0,none⟩)] w fun e w'=>e = .returned (.tuple #[])∧w' = w:=by
 obtain⟨j,hj,_⟩:=Option.map_eq_some_iff.1 Awo
 have mixed:=follows
 have t1:=Tryz.underlying77
 have t2:=Tryz.underlying80
 have u1:=run_underlying (P:=Tryz.prog) t1
 have u2:=run_underlying (P:=Tryz.prog) t2
 go_enter Tryz.func152,Tryz.ntmps152
 go_wp2
 rw [Lib.run_neq_ptr_same w _ t1 hj]
 go_wp2
 go_end0
 exact⟨rfl,rfl⟩
set_option maxRecDepth 100000 in
theorem A4s(b:Nat) (T:TypeId) (hT:T∈Ap6) (w:World) (h0:w.cell? ⟨b,0,none⟩=some (.pointer none)) (hsh:w.shape? b=some (T,2)) (hfz:w.frozen? ⟨b,0,none⟩=false) :
  Calls Tryz.prog 152 #[.pointer (some ⟨b,0,none⟩)] w fun e w'=>e = .returned (.tuple #[])∧w' = w.setCell ⟨b,0,none⟩ (.pointer (some ⟨b,0,none⟩)):=by
 obtain⟨j,hj,hjs⟩:=Option.map_eq_some_iff.1 Awo
 have mixed:=follows
 have t1:=Tryz.underlying77
 have t2:=Tryz.underlying80
 have t3:=Tryz.underlying205
 have u1:=run_underlying (P:=Tryz.prog) t1
 have u2:=run_underlying (P:=Tryz.prog) t2
 have u3:=run_underlying (P:=Tryz.prog) t3
 go_enter Tryz.func152,Tryz.ntmps152
 go_wp2
 rw [Lib.run_to_unsafe w ⟨b,0,none⟩ t1 t3 hj (by rw [hjs];decide) hsh (Nat.zero_lt_succ 1)]
 simp only [Result.andThen]
 rw [Oper.upon_value]
 go_wp2
 rw [run_callFunc_extern Tryz.func172 (by kernel_rfl) (by kernel_rfl) (by kernel_rfl) (e:=Extern.AbiNoEscape.same) (by kernel_rfl)]
 rw [Lib.run_noEscape]
 simp only [Result.andThen]
 rw [Oper.upon_value]
 go_wp2
 rw [Lib.run_from_unsafe w ⟨b,0,none⟩ t3 t1 hj hsh (Bau T hT)]
 simp only [Result.andThen]
 rw [Oper.upon_value]
 go_wp2
 go_end0
 exact⟨rfl,rfl⟩
theorem A3b:Sx.Enters Tryz.prog 152:=Sx.enters_of Tryz.func152 rfl (by kernel_rfl)
theorem Bhb:∀T,T∈Ap6→∀(b:Nat) (w:World) (a v:Value),w.heap[b]? = some (.cells #[a,v] T (0,0))→(a = .pointer none∨a = .pointer (some ⟨b,0,none⟩))→Calls Tryz.prog 152 #[.pointer (some ⟨b,0,none⟩)] w fun e w'=>e = .returned (.tuple #[])∧(w' = w∨w' = w.setCell ⟨b,0,none⟩ (.pointer (some ⟨b,0,none⟩))):=by
 intro T hT b w a v hh ha
 have c0:w.cell? ⟨b,0,none⟩=some a:=by simp [World.cell?,hh]
 rcases ha with rfl|rfl
 ·refine(A4s b T hT w c0 (by simp [World.shape?,hh]) (by simp [World.frozen?,hh])).mono ?_
  rintro e w' ⟨rfl,rfl⟩
  exact⟨rfl,.inr rfl⟩
 ·refine(Bac b w c0).mono ?_
  rintro e w' ⟨rfl,rfl⟩
  exact⟨rfl,.inl rfl⟩
theorem Atk(w:World) (g n k:Nat):Chg (fun b i=>b=g∧k≤i) w (w.freeze ⟨g,0,none⟩ n):=by
 unfold World.freeze
 split
 ·exact Chg.refl _ _
 ·have hne:∀(q:Nat),q≠g→∀F:Obj→Obj,(w.heap.modify g F)[q]? = w.heap[q]? := fun q hq F=>by
   rw [Array.getElem?_modify,if_neg (Ne.symm hq)]
  refine⟨rfl,rfl,rfl,by simp,fun q _ hq2=>hne q (fun e=>hq2 k ⟨e,Zn1 _⟩) _,fun b i v hv _ =>?_,fun b cs t f hb =>?_⟩
  ·by_cases hbg:b=g
   ·subst hbg
    unfold World.cell? at hv ⊢
    simp only [Array.getElem?_modify,if_true] at hv ⊢
    cases hh:w.heap[b]? with
    |none=>rw [hh] at hv;cases hv
    |some o =>
     rw [hh] at hv
     cases o with
     |cells c e f=>obtain⟨lo,hi⟩:=f;exact hv
     |_=>cases hv
   ·rw [World.cell?_of_block (a:=⟨b,i,none⟩) (hne b hbg _)]
    exact hv
  ·by_cases hbg:b=g
   ·subst hbg
    obtain⟨lo,hi⟩:=f
    exact⟨cs,_,by simp only [Array.getElem?_modify,if_true,hb];rfl,rfl⟩
   ·exact⟨cs,f,by rw [hne b hbg];exact hb,rfl⟩
theorem cellsByte:Tryz.prog.cellsOf 5=1:=by kernel_rfl
set_option maxHeartbeats 2000000 in
set_option maxRecDepth 100000 in
theorem Ara(b g cap n:Nat) (w:World) (s:ByteArray) (hcap:cap≠0) (hc:w.cell? ⟨b,1,none⟩=some (.slice (some ⟨g,0,none⟩) n cap)) (hUS:(Builtin.unsafeString_ #[148,3] 9 #[.pointer (some ⟨g,0,none⟩),.int .i64 n]).run Tryz.prog w.drew = .ok (.string s) (w.drew.freeze ⟨g,0,none⟩ n)) :
  Calls Tryz.prog 41 #[.pointer (some ⟨b,0,none⟩)] w fun e w'=>e = .returned (.string s)∧w' = w.drew.freeze ⟨g,0,none⟩ n:=by
 have c1:w.drew.cell? ⟨b,1,none⟩=some (.slice (some ⟨g,0,none⟩) n cap):=hc
 have hSD:(Builtin.unsafeSliceData_ #[78] 148 #[.slice (some ⟨g,0,none⟩) n cap]).run Tryz.prog w.drew = .ok (.pointer (some ⟨g,0,none⟩)) w.drew:=Lib.run_unsafeSliceData_row _ _ _ _ _ _ hcap
 clear hcap
 have mixed:=follows
 have t1:=Tryz.underlying77
 have t2:=Tryz.underlying80
 have t3:=Tryz.underlying78
 have t4:=Tryz.underlying148
 have t5:=Tryz.underlying3
 have t6:=Tryz.underlying9
 have u1:=run_underlying (P:=Tryz.prog) t1
 have u2:=run_underlying (P:=Tryz.prog) t2
 have u3:=run_underlying (P:=Tryz.prog) t3
 have u4:=run_underlying (P:=Tryz.prog) t4
 have u5:=run_underlying (P:=Tryz.prog) t5
 have u6:=run_underlying (P:=Tryz.prog) t6
 go_enter Tryz.func41,Tryz.ntmps41
 go_wp2
 go_region_o
 all_goals (go_wp2;go_ret;exact⟨rfl,rfl⟩)
theorem Am1(W:World) (q:Option Addr):(Builtin.unsafeString_ #[148,3] 9 #[.pointer q,.int .i64 0]).run Tryz.prog W = .ok (.string .empty) W:=Lib.run_unsafeString_none W _ _ _ q
set_option maxHeartbeats 2000000 in
set_option maxRecDepth 100000 in
theorem Bca(b:Nat) (w:World) (hc:w.cell? ⟨b,1,none⟩=some (.slice none 0 0)) :
  Calls Tryz.prog 41 #[.pointer (some ⟨b,0,none⟩)] w fun e w'=>e = .returned (.string ⟨#[]⟩)∧w' = w.drew:=by
 have hUS:=Am1
 have c1:w.drew.cell? ⟨b,1,none⟩=some (.slice none 0 0):=hc
 have hSD:(Builtin.unsafeSliceData_ #[78] 148 #[.slice none 0 0]).run Tryz.prog w.drew = .ok (.pointer none) w.drew:=rfl
 have mixed:=follows
 have t1:=Tryz.underlying77
 have t2:=Tryz.underlying80
 have t3:=Tryz.underlying78
 have t4:=Tryz.underlying148
 have t5:=Tryz.underlying3
 have t6:=Tryz.underlying9
 have u1:=run_underlying (P:=Tryz.prog) t1
 have u2:=run_underlying (P:=Tryz.prog) t2
 have u3:=run_underlying (P:=Tryz.prog) t3
 have u4:=run_underlying (P:=Tryz.prog) t4
 have u5:=run_underlying (P:=Tryz.prog) t5
 have u6:=run_underlying (P:=Tryz.prog) t6
 go_enter Tryz.func41,Tryz.ntmps41
 go_wp2
 go_region_o
 all_goals (go_wp2;go_ret;exact⟨rfl,rfl⟩)
set_option maxHeartbeats 2000000 in
set_option maxRecDepth 100000 in
theorem Avx(b g:Nat) (w:World) (cur:Array Value) (hlt:b<w.heap.size) (hc:w.cell? ⟨b,1,none⟩=some (.slice (some ⟨g,0,none⟩) 0 0)) (hg:w.heap[g]? = some (.cells cur 5 (0,0))) :
  Calls Tryz.prog 41 #[.pointer (some ⟨b,0,none⟩)] w fun e w'=>e = .returned (.string ⟨#[]⟩)∧Chg Fk w w':=by
 have hUS:=Am1
 have c1:w.drew.cell? ⟨b,1,none⟩=some (.slice (some ⟨g,0,none⟩) 0 0):=hc
 have t4:=Tryz.underlying148
 have hSD:(Builtin.unsafeSliceData_ #[78] 148 #[.slice (some ⟨g,0,none⟩) 0 0]).run Tryz.prog w.drew = .ok (.pointer (some ⟨w.drew.heap.size,0,none⟩)) (w.drew.alloc (.view ⟨g,0,none⟩ 5)) :=
  Lib.run_unsafeSliceData_zero w.drew _ _ 5 t4 ⟨g,0,none⟩ 0 (5,cur.size) (by have hg':w.drew.heap[g]? = some (.cells cur 5 (0,0)):=hg;simp [World.shape?,hg'])
 have c2:(w.drew.alloc (.view ⟨g,0,none⟩ 5)).cell? ⟨b,1,none⟩=some (.slice (some ⟨g,0,none⟩) 0 0):=by
  rw [World.cell?_of_block (a:=⟨b,1,none⟩) (Below.heap_alloc w.drew _ _ hlt)]
  exact c1
 have c3:(w.alloc (.view ⟨g,0,none⟩ 5)).drew.cell? ⟨b,1,none⟩=some (.slice (some ⟨g,0,none⟩) 0 0):=c2
 have c0:w.cell? ⟨b,1,none⟩=some (.slice (some ⟨g,0,none⟩) 0 0):=c1
 have mixed:=follows
 have t1:=Tryz.underlying77
 have t2:=Tryz.underlying80
 have t3:=Tryz.underlying78
 have t5:=Tryz.underlying3
 have t6:=Tryz.underlying9
 have u1:=run_underlying (P:=Tryz.prog) t1
 have u2:=run_underlying (P:=Tryz.prog) t2
 have u3:=run_underlying (P:=Tryz.prog) t3
 have u4:=run_underlying (P:=Tryz.prog) t4
 have u5:=run_underlying (P:=Tryz.prog) t5
 have u6:=run_underlying (P:=Tryz.prog) t6
 go_enter Tryz.func41,Tryz.ntmps41
 go_wp2
 go_region_o
 all_goals (go_wp2;go_ret;exact⟨rfl,(Chg.drew Fk w).trans (Chg.alloc Fk w.drew _)⟩)
theorem Bcw{cx:Cx}{m:Mp}{a:Act}{rs:List Act}{st:St}{w w':World}(hr:Rel cx m a rs (fs st) w) (hch:Chg (Dq m (fs st)) w w') {d:D}{v:Value}(hd:Rep (vx cx m (fs { st with n:=1,env:=[(0,d)],bl:=[],tk:=[] }) w') d v):Rel cx m ⟨#[v],[]⟩ rs (fs { st with n:=1,env:=[(0,d)],bl:=[],tk:=[] }) w':=by
 have hnf:∀b i,¬Dq m (fs { st with n:=1,env:=[(0,d)],bl:=[],tk:=[] }) b i:=by
  rintro b i (⟨q,hq,_⟩|⟨t,o,h1,_,_⟩)
  ·exact hq rfl
  ·simp [fs] at h1
 have nx:Nx (vx cx m (fs st) w) (vx cx m (fs { st with n:=1,env:=[(0,d)],bl:=[],tk:=[] }) w'):=by
  refine⟨hch.mono fun b i hi =>.inr hi,?_,rfl,fun _ _=>rfl,Zn1 _,Zn1 _,fun t _ ha =>?_⟩
  ·rintro b i (h|h)
   ·exact .inl (.inl h)
   ·exact absurd h (hnf b i)
  ·simp [vx,fs] at ha
 have h1:Rel cx m a rs { fs st with bl:=fun _=>none,al:=fun _=>False } w':=by
  refine hr.step (s':={ fs st with bl:=fun _=>none,al:=fun _=>False }) rfl rfl rfl rfl rfl hch ?_ (fun b k hk=>by cases hk) (fun t ht=>ht.elim) (fun b b' h=>absurd rfl h) (fun t t' g o o' h=>h.elim) (fun b t g o h=>absurd rfl h) (fun b i hi =>?_)
  ·refine⟨hch.mono fun b i hi =>.inr hi,?_,rfl,fun _ _=>rfl,Zn1 _,Zn1 _,fun t _ ha=>ha.elim⟩
   rintro b i (h|⟨q,hq,_⟩|⟨t,o,h1,_,_⟩)
   ·exact .inl (.inl h)
   ·exact absurd rfl hq
   ·exact h1.elim
  ·rcases hi with ⟨q,hq,_⟩|⟨t,o,h1,_,_⟩
   ·exact absurd rfl hq
   ·exact h1.elim
 have hal:(fs { st with n:=1,env:=[(0,d)],bl:=[],tk:=[] }).al=fun _=>False:=by
  funext t;simp [fs]
 have e:fs { st with n:=1,env:=[(0,d)],bl:=[],tk:=[] }={ (fs { st with n:=1,env:=[(0,d)],bl:=[],tk:=[] }) with al:=fun _=>False }:=by
  rw [←hal]
 rw [e] at hd ⊢
 refine⟨h1.chg,⟨rfl,rfl,fun k d' hk =>?_⟩,h1.frs,h1.lb,h1.lt,h1.blks,h1.als,h1.inj,h1.injt,h1.injbt,h1.own,h1.away,h1.glb⟩
 have hk:get [(0,d)] k=some d':=hk
 rw [Cp] at hk
 by_cases h0:k=0
 ·subst h0
  simp only [if_true,Za1] at hk
  subst hk
  exact⟨v,rfl,hd⟩
 ·rw [if_neg h0] at hk
  cases hk
abbrev wT:TypeId:=82
def bstr_si:Sig:=⟨1,[],[(0,.ptr 0 0)],[(0,.bld wT)],1,1,0,[],[]⟩
def Af2:Sig:=⟨1,[(0,.str)],[],[],1,1,0,[],[]⟩
abbrev Bdp:=List UInt8
abbrev Bfu:=Str
def Ig:Bdp→Option Bfu:=fun x=>some x
theorem Aww:FnLn Tryz.prog elT glT 41 bstr_si Af2 Ig:=by
 refine⟨Sx.enters_of Tryz.func41 rfl (by kernel_rfl),fun(l:List UInt8) r hx _ cx m vs af w h1 h2 h3 hr =>?_⟩
 obtain rfl:l=r:=Option.some.inj hx
 obtain⟨_,hb⟩:=hr.blks 0 (.bld wT (.sl .byte l (.id 0))) rfl
 obtain⟨_,a,v,hh,ha,hrep⟩:=hb
 obtain⟨u,hu,hup⟩:=hr.env.get 0 (.ptr 0 0) rfl
 have hsz:vs.toArray.size=1:=hr.env.size
 have hvs:vs=[u]:=by
  match vs,hsz,hu with
  |[y],_,hu=>simpa using hu
 subst hvs
 simp only [Rep] at hup hrep
 obtain⟨_,rfl⟩:=hup
 obtain⟨hrf,_,htk⟩:=hrep
 have htk:=htk (show(fs (Ee bstr_si [Ga bstr_si] l)).al 0 by simp [fs,Ee,bstr_si,Sig.sgs,Aju,B4,Bs.sgs,Aj9])
 have hh:w.heap[m.bl 0]? = some (.cells #[a,v] wT (0,0)):=hh
 have hblt:m.bl 0<w.heap.size:=(Zh2.1 hh).1
 have hlen:l.length≤maxLen:=hrf.here.len
 have c1:w.cell? ⟨m.bl 0,1,none⟩=some v:=by simp [World.cell?,hh]
 have done:(Calls Tryz.prog 41 #[.pointer (some ⟨m.bl 0,0,none⟩)] w fun e w'=>e = .returned (.string ⟨l.toArray⟩)∧Chg (Dq m (fs (Ee bstr_si [Ga bstr_si] l))) w w')→Calls Tryz.prog 41 ([.pointer (some ⟨m.bl 0,0,none⟩)]:List Value).toArray w fun en w'=>∃us st' m',en = .returned (Sx.resv us)∧(∀k,(bstr_si.bl.map (·.1)).contains k=true→m'.bl k=m.bl k)∧Ou Af2 st' = some l∧Rel cx m' ⟨us.toArray,[]⟩ [af] (fs st') w':=fun hc=>by
  refine hc.mono ?_
  rintro e w' ⟨rfl,hch⟩
  exact⟨[.string ⟨l.toArray⟩],{ Ee bstr_si [Ga bstr_si] l with n:=1,env:=[(0,.str l)],bl:=[],tk:=[] },m,rfl,fun _ _=>rfl,rfl,Bcw hr hch (by simp only [Rep];exact⟨trivial,hlen⟩)⟩
 refine done ?_
 rcases htk with ⟨rfl,_,rfl⟩|⟨g,cap,cur,rfl,ht,hg,hcs,hle,hcm⟩
 ·refine(Bca (m.bl 0) w c1).mono ?_
  rintro e w' ⟨rfl,rfl⟩
  exact⟨rfl,Chg.drew _ w⟩
 ·have ht:m.tk 0=some (g,l.length*1):=ht
  have hel:(vx cx m (fs (Ee bstr_si [Ga bstr_si] l)) w).el .byte=5:=by
   show cx.el .byte=_
   rw [h2];rfl
  rw [hel] at hg
  have hg:w.heap[g]? = some (.cells cur 5 (0,0)):=hg
  have hcs:cur.size=cap*1:=hcs
  by_cases hl0:l=[]
  ·subst hl0
   by_cases hc0:cap=0
   ·subst hc0
    refine(Avx (m.bl 0) g w cur hblt c1 hg).mono ?_
    rintro e w' ⟨rfl,hch⟩
    exact⟨rfl,hch.mono fun _ _ h=>h.elim⟩
   ·refine(Ara (m.bl 0) g cap 0 w .empty hc0 c1 (Am1 _ _)).mono ?_
    rintro e w' ⟨rfl,rfl⟩
    exact⟨rfl,Chg.drew _ w⟩
  ·have hcells:∀(j:Nat) x,l[j]? = some x→w.cell? ⟨g,j,none⟩=some (.int .u8 x.toNat):=fun j x hj=>by
    obtain⟨a',cap',e1,h|⟨b0,o0,e2,_,h4⟩⟩:=hrf.here.slice
    ·exact absurd h hl0
    ·simp only [Value.slice.injEq] at e1
     rw [e2] at e1
     simp only [Za1,Addr.mk.injEq] at e1
     obtain⟨⟨rfl,rfl,_⟩,_⟩:=e1
     obtain⟨u,hu,hf⟩:=h4 j x hj 0 _ rfl
     have e3 : 0+j*csz .byte+0=j:=by simp [csz]
     rw [e3] at hu
     cases hf
     exact hu
   have hn0:l.length≠0:=fun e=>hl0 (List.eq_nil_of_length_eq_zero e)
   have hUS:=Lib.run_unsafeString_row w.drew 148 3 9 5 Tryz.underlying148 cellsByte g cur.size (by have hg':w.drew.heap[g]? = some (.cells cur 5 (0,0)):=hg;simp [World.shape?,hg']) l hl0 (by omega) (by unfold maxLen at hcm;omega) (fun j x hj=>by
    have e:(⟨g,0,none⟩:Addr).add j=⟨g,j,none⟩:=by
     unfold Addr.add
     by_cases hj0:j=0
     ·subst hj0;simp
     ·simp [hj0]
    rw [e]
    exact hcells j x hj)
   refine(Ara (m.bl 0) g cap l.length w ⟨l.toArray⟩ (by omega) c1 hUS).mono ?_
   rintro e w' ⟨rfl,rfl⟩
   refine⟨rfl,(Chg.drew _ w).trans ((Atk w.drew g l.length (l.length*1)).mono fun b i hi =>?_)⟩
   obtain⟨rfl,hi⟩:=hi
   exact .inr ⟨0,l.length*1,by simp [fs,Ee,bstr_si,Sig.sgs,Aju,B4,Bs.sgs,Aj9],ht,hi⟩
def Xz:Sig:=⟨2,[(1,.str)],[(0,.ptr 0 0)],[(0,.bld 82)],1,1,0,[],[]⟩
def Xx:Sig:=⟨2,[],[],[(0,.bld 82)],1,1,0,[],[]⟩
abbrev Ahe:=Str×List UInt8
abbrev W1:=List UInt8
def Ps(R:Type):Px R:=⟨A7 ttL,glT,Aq [(152,Avh Ap6)],Ak [],Av [],tbl []⟩
def Wz(x:Ahe):Option (W1):=match x with
 |(s,out) =>
 chk (decide (out.length+s.length≤Be)) (
  some (out++s))
theorem Az4:∀(x:Ahe),C2 (Ps _) Tryz.f104 Xz Xx x some=Wz x
 |(s,out)=>by kernel_rfl
theorem As5:FnLn Tryz.prog elT glT 104 Xz Xx (Wz):=by
 refine Bk Tryz.func104 rfl (by kernel_rfl) follows (by kernel_rfl) (n:=0) (by kernel_rfl) (px:=Ps _) (fun cx hP hel hgl =>?_) (Az4)
 have hp0:PxOk cx (Ps (W1)):=⟨fun t=>by rw [hP,hel];exact Au Al t,by rw [hgl];rfl⟩
 have hc0:Aj cx (Ps (W1)):=Ah rfl (Aa (Bg5 (by rw [hP];exact A3b) (by rw [hP];exact Bhb)) Ai)
 have hq0:CallQOk cx (Ps (W1)):=Ab rfl rfl Af Ae
 exact⟨hp0,hc0,hq0,Aw⟩
def Anz(s out:Str):Option Str:=if out.length+s.length≤Be then some (out++s) else none
def Wv:Ahe→Option W1:=fun x=>Anz x.1 x.2
theorem A2k:FnLn Tryz.prog elT glT 104 Xz Xx Wv :=.fin0 As5 fun(s,out) r hb hx=>by
 simp only [Wv,Anz] at hx
 split at hx
 ·rename_i h
  simp only [Wz]
  rw [Ze1 h]
  exact hx
 ·cases hx
end Go.Proofs.YthndhaolemgbdaaGreatDoor
namespace Go.Proofs
open Go.Shelf
def Tryz.laysRJ_ren:Go.Shelf.Ren:=⟨fun|156=>105|165=>153|166=>104|169=>41|240=>152|241=>173|276=>172|277=>190|n=>n,fun|0=>0|3=>3|4=>4|5=>5|9=>9|20=>20|31=>34|37=>78|70=>77|72=>80|75=>153|76=>154|80=>84|127=>148|164=>205|n=>n,fun n=>n⟩
theorem Tryz.laysRJ:Go.Proofs.Lays.n156 Tryz.prog Tryz.laysRJ_ren:={
 mixed:=by kernel_rfl
 f156:=Tryz.func105.trans (congrArg some (by kernel_rfl))
 f165:=Tryz.func153.trans (congrArg some (by kernel_rfl))
 f166:=Tryz.func104.trans (congrArg some (by kernel_rfl))
 f169:=Tryz.func41.trans (congrArg some (by kernel_rfl))
 f240:=Tryz.func152.trans (congrArg some (by kernel_rfl))
 f241:=Tryz.func173.trans (congrArg some (by kernel_rfl))
 f276:=Tryz.func172.trans (congrArg some (by kernel_rfl))
 f277:=Tryz.func190.trans (congrArg some (by kernel_rfl))
 t0:=Tryz.underlying0
 a0:=Tryz.isAgg0
 z0:=Tryz.sizeOf0
 v0:=Tryz.zeroValue0
 t3:=Tryz.underlying3
 a3:=Tryz.isAgg3
 z3:=Tryz.sizeOf3
 v3:=Tryz.zeroValue3
 t4:=Tryz.underlying4
 a4:=Tryz.isAgg4
 z4:=Tryz.sizeOf4
 v4:=Tryz.zeroValue4
 t9:=Tryz.underlying9
 a9:=Tryz.isAgg9
 z9:=Tryz.sizeOf9
 v9:=Tryz.zeroValue9
 t20:=Tryz.underlying20
 a20:=Tryz.isAgg20
 z20:=Tryz.sizeOf20
 v20:=Tryz.zeroValue20
 t31:=Tryz.underlying34
 a31:=Tryz.isAgg34
 z31:=Tryz.sizeOf34
 v31:=Tryz.zeroValue34
 t37:=Tryz.underlying78
 a37:=Tryz.isAgg78
 z37:=Tryz.sizeOf78
 v37:=Tryz.zeroValue78
 t70:=Tryz.underlying77
 a70:=Tryz.isAgg77
 z70:=Tryz.sizeOf77
 v70:=Tryz.zeroValue77
 t72:=Tryz.underlying80
 a72:=Tryz.isAgg80
 z72:=Tryz.sizeOf80
 v72:=Tryz.zeroValue80
 t75:=Tryz.underlying153
 a75:=Tryz.isAgg153
 z75:=Tryz.sizeOf153
 v75:=Tryz.zeroValue153
 t76:=Tryz.underlying154
 a76:=Tryz.isAgg154
 z76:=Tryz.sizeOf154
 v76:=Tryz.zeroValue154
 t127:=Tryz.underlying148
 a127:=Tryz.isAgg148
 z127:=Tryz.sizeOf148
 v127:=Tryz.zeroValue148
 t164:=Tryz.underlying205
 a164:=Tryz.isAgg205
 z164:=Tryz.sizeOf205
 v164:=Tryz.zeroValue205 }
theorem Tryz.extraRJ:Builder.Extra Tryz.prog Tryz.laysRJ_ren:={
 sizeBuilder:=by kernel_rfl
 liesBuilder:=by kernel_rfl
 t5:=Tryz.underlying5
 a5:=Tryz.isAgg5
 z5:=Tryz.sizeOf5
 v5:=Tryz.zeroValue5
 infoByte:=by kernel_rfl
 cellsByte:=by kernel_rfl
 sizeByte:=by kernel_rfl
 neB5:=by decide }
end Go.Proofs
namespace Go.Proofs.YthndhaolemgbdaaGreatDoor
open Go.Ax Go.RowKit
def Axo(l:List Str) (sep:Str):Option Str:=if l.length≤1000000∧(Lib.join l sep).length≤1000000000 then some (Lib.join l sep) else none
def Aof:FT [.sl .str false,.str] [.str]:=fun x=>Axo x.1 x.2
theorem A3x:FnOk Tryz.prog elT glT 105 [.sl .str false,.str] [.str] Aof:=by
 refine⟨Sx.enters_of Tryz.func105 rfl (by kernel_rfl),fun x r hx w M vs hM hgl hr =>?_⟩
 obtain⟨l,sep⟩:=x
 simp only [Aof,Axo] at hx
 split at hx
 case isFalse=>cases hx
 rename_i hc
 obtain⟨h1,h2⟩:=hc
 obtain rfl:=Option.some.inj hx
 simp only [Cq,C9,Reps,Rep] at hr
 obtain⟨u,us,rfl,⟨hrf,_⟩,u2,us2,rfl,⟨rfl,_⟩,rfl⟩:=hr
 have key:Calls Tryz.prog 105 #[u,.string ⟨sep.toArray⟩] w fun e w'=>e = .returned (.string ⟨(Lib.join l sep).toArray⟩)∧Below w.heap.size w w':=by
  obtain⟨a,cap,rfl,h⟩:=hrf.here.slice
  rcases h with rfl|⟨b,o,rfl,⟨hle,hcm⟩,hat⟩
  ·have c:=Any.strings_Join_none Tryz.laysRJ Tryz.extraRJ a cap ⟨sep.toArray⟩ w
   refine Calls.mono (show Calls Tryz.prog 105 _ w _ from c) ?_
   rintro e w' ⟨rfl,rfl⟩
   exact⟨rfl,Below.refl _ _⟩
  ·by_cases hl:l=[]
   ·subst hl
    have c:=Any.strings_Join_none Tryz.laysRJ Tryz.extraRJ (some ⟨b,o,none⟩) cap ⟨sep.toArray⟩ w
    refine Calls.mono (show Calls Tryz.prog 105 _ w _ from c) ?_
    rintro e w' ⟨rfl,rfl⟩
    exact⟨rfl,Below.refl _ _⟩
   ·have hcell:∀(j:Nat) x,l[j]? = some x→w.cell? ⟨b,o+j,none⟩=some (.string ⟨x.toArray⟩):=fun j x hj=>by
     obtain⟨u,hu,hf⟩:=hat j x hj 0 _ rfl
     have e3:o+j*csz .str+0=o+j:=by simp [csz]
     rw [e3] at hu
     cases hf
     exact hu
    have hb:b<w.heap.size:=by
     cases l with
     |nil=>exact absurd rfl hl
     |cons x l=>exact Af4 (hcell 0 x rfl)
    have em:(l.map fun s=>(⟨s.toArray⟩:ByteArray)).map (·.data.toList)=l:=by
     rw [List.map_map]
     simp [Function.comp_def]
    have es:(⟨sep.toArray⟩:ByteArray).data.toList=sep:=by simp
    have c:=Any.strings_Join Tryz.laysRJ Tryz.extraRJ b o cap (l.map fun s=>⟨s.toArray⟩) ⟨sep.toArray⟩ w (fun j x hj=>by
     rw [List.getElem?_map] at hj
     obtain⟨y,hy,rfl⟩:=Option.map_eq_some_iff.1 hj
     exact hcell j y hy) hb (by rw [List.length_map];omega) (by rw [List.length_map];exact hle) (by rw [em,es];omega)
    rw [em,es,List.length_map] at c
    exact c
 refine key.mono ?_
 rintro en w' ⟨rfl,hbel⟩
 refine⟨_,⟨fun _=>0,fun _=>Option.none⟩,rfl,Chg.of_below hbel,fun p g o hp=>(by simp [B4] at hp),fun p q g o o2 hp=>(by simp [B4] at hp),?_⟩
 simp only [Nz,Cq,C9,Rep]
 exact⟨trivial,by simp only [maxLen];omega⟩
end Go.Proofs.YthndhaolemgbdaaGreatDoor
namespace Go.Proofs.YthndhaolemgbdaaGreatDoor
open Go.Ax
def app(out t:Str):Option Str:=if out.length+t.length≤100000000000 then some (out++t) else none
theorem H6(out a b:Str):((app out a).bind fun x=>app x b)=app out (a++b):=by
 simp only [app,Zh1]
 by_cases h1:out.length+a.length≤100000000000
 ·rw [if_pos h1,Zc1]
  simp only [Zh1,Zj1,Nat.add_assoc]
 ·rw [if_neg h1,if_neg (by omega)]
  rfl
theorem C1{R:Type}(out a b:Str) (c:Str→Option R):((app out a).bind fun x=>(app x b).bind c)=(app out (a++b)).bind c:=by
 rw [←H6,Option.bind_assoc]
theorem Iq{o:Option Str}:(o.bind fun x=>some x)=o:=by cases o<;>rfl
theorem Agc{out:Str}(h:out.length≤100000000000):app out []=some out:=by
 simp only [app,Zi1,Nat.add_zero,List.append_nil]
 rw [if_pos h]
theorem Anr{out t r:Str}(h:app out t=some r):r.length≤100000000000∧r=out++t:=by
 simp only [app] at h
 split at h
 ·rename_i h1
  obtain rfl:=Option.some.inj h
  exact⟨by rw [Zh1];exact h1,rfl⟩
 ·cases h
theorem A90{out t r:Str}(h:app out t=some r):out.length+t.length≤100000000000:=by
 simp only [app] at h
 split at h
 ·rename_i h1;exact h1
 ·cases h
theorem A9d{out t:Str}(h:out.length+t.length≤100000000000):app out t=some (out++t):=if_pos h
def Afh{α:Type}(f : α→Str):List α→Str
 |[]=>[]
 |x::l=>[44,32]++f x++Afh f l
def It{α:Type}(f : α→Str):List α→Str
 |[]=>[]
 |x::l=>f x++Afh f l
theorem L4{V R α:Type}{step:(V→Option R)→V→Option R}(l:List α) (f : α→Str) (st:Nat→Str→V) (c:Str→Option R)
  (hs:∀i (hi:i<l.length) (acc:Str) rec,step rec (st i acc)=(app acc ((if i=0 then [] else [44,32])++f l[i])).bind fun x=>rec (st (i+1) x))
  (he:∀acc rec,step rec (st l.length acc)=c acc) (k:Nat) (hk:l.length<k) (out:Str) (ho:out.length≤100000000000):A5 step k (st 0 out)=(app out (It f l)).bind c:=by
 refine(W8 l.length st (fun _ acc=>acc.length≤100000000000) (fun i acc=>(app acc (if i=0 then It f (l.drop i) else Afh f (l.drop i))).bind c) (fun i hi acc ha rec hr =>?_) (fun acc ha rec =>?_) k 0 out (Nat.zero_le _) (by omega) ho).trans (by rw [if_pos rfl,Zq1])
 ·rw [hs i hi acc rec]
  have hd:(if i=0 then It f (l.drop i) else Afh f (l.drop i))=((if i=0 then [] else [44,32])++f l[i])++Afh f (l.drop (i+1)):=by
   rw [A9 hi]
   split<;>simp [It,Afh]
  rw [hd,←C1 acc ((if i=0 then [] else [44,32])++f l[i]) (Afh f (l.drop (i+1))) c]
  cases hx:app acc ((if i=0 then [] else [44,32])++f l[i]) with
  |none=>rfl
  |some x =>
   rw [Zc1,Zc1,hr x (Anr hx).1,if_neg (by omega)]
 ·rw [he]
  have:(if l.length=0 then It f (l.drop l.length) else Afh f (l.drop l.length))=[]:=by
   rw [Zc2]
   split<;>rfl
  rw [this,Agc ha]
  rfl
def Ca:Sig:=⟨2,[(1,.sl .str false)],[(0,.ptr 0 0)],[(0,.bld 82)],1,1,0,[],[]⟩
def B9:Sig:=⟨0,[],[],[(0,.bld 82)],1,1,0,[],[]⟩
abbrev Ajq:=List Str×List UInt8
abbrev Rs:=List UInt8
def U9:Sig:=⟨18,[(6,.sl .str false),(7,.int .i64),(8,.int .i64)],[(0,.ptr 0 0)],[(0,.bld 82)],1,1,0,[],[]⟩
abbrev G8:=List Str×Int×Int×List UInt8
def Mh{R:Type}(rec:G8→Option R) (kx:Ex→G8→Option R) (v:G8):Option R:=match v with
 |(v,v1,v2,w) =>
 cond (decide (v2<v1)) (
  chk (inb v2 v.length) (
  (Wv ((at' .str v v2),w)).bind fun x =>
   rec (v,v1,(wr .i64 (v2+1)),x))) (
  kx (.exit 0) (v,v1,v2,w))
def Jx(R:Type) (k:Nat):Px R:=⟨A7 ttL,glT,Aq [(104,Ao Xz Xx Wv)],Ak [],Av [(1,Bc k U9 (Mh))],tbl []⟩
theorem Aqs(R:Type) (k:Nat):∀(fr:List Fr) (rec:G8→Option R) (kx:Ex→G8→Option R) (v:G8),Bn (Jx R k) U9 (lp Tryz.f49 0) fr rec kx v=Mh rec kx v
 |fr,rec,kx,(v,v1,v2,w)=>by kernel_rfl
def Afc(k:Nat) (x:Ajq):Option (Rs):=match x with
 |(l,out) =>
 A5 (fun rec=>Mh rec (fun e vz=>match vz with|(_,_,_,v6)=>match e with
  |.exit 0 =>
  some v6
  |_=>none)) k (l,(l.length:Int),0,out)
theorem A1z(k:Nat):∀(x:Ajq),C2 (Jx _ k) Tryz.f49 Ca B9 x some=Afc k x
 |(l,out)=>by kernel_rfl
theorem Atc(k:Nat):FnLn Tryz.prog elT glT 49 Ca B9 (Afc k):=by
 refine Bk Tryz.func49 rfl (by kernel_rfl) follows (by kernel_rfl) (n:=1) (by kernel_rfl) (px:=Jx _ k) (fun cx hP hel hgl =>?_) (A1z k)
 have hp0:PxOk cx (Jx (Rs) k):=⟨fun t=>by rw [hP,hel];exact Au Al t,by rw [hgl];rfl⟩
 have hc0:Aj cx (Jx (Rs) k):=Ah rfl (Aa (A3 (by rw [hP,hel,hgl];exact A2k) (by kernel_rfl)) Ai)
 have hq0:CallQOk cx (Jx (Rs) k):=Ab rfl rfl Af Ae
 have hlwwords_0:A6 cx (Jx (Rs) k) (lp Tryz.f49 0):=A8 hp0 hc0 hq0 (by rw [hP];exact follows) (k:=k) (s:=U9) (step:=Mh) (fun _ _=>by kernel_rfl) (by kernel_rfl) (Aqs _ k) (A0 (n:=0) (by kernel_rfl) Aw)
 exact⟨hp0,hc0,hq0,(Cg Aw hlwwords_0)⟩
def Bd6(l:List Str) (out:Str):Option Str:=app out l.flatten
def Ay:Ajq→Option Rs:=fun x=>Bd6 x.1 x.2
theorem Arw{R:Type}{kx:Ex→G8→Option R}{l:List Str}{c:Str→Option R}(hn:ln l.length) (h2:∀i out,kx (.exit 0) (l,(l.length:Int),i,out)=c out) (k:Nat) (hk:l.length<k) (out:Str) (ho:out.length+l.flatten.length≤100000000000) :
  A5 (fun rec=>Mh rec kx) k (l,(l.length:Int),0,out)=c (out++l.flatten):=by
 refine(W8 l.length (fun i out=>(l,(l.length:Int),(i:Int),out)) (fun i out=>List.length out+((l.drop i).flatten).length≤100000000000) (fun i out=>c (out++(l.drop i).flatten)) (fun i hi out ha rec hr =>?_) (fun out _ rec =>?_) k 0 out (Nat.zero_le _) (by omega) (by rw [Zq1];exact ho)).trans (by rw [Zq1])
 ·rw [A9 hi] at ha ⊢
  simp only [Zz1,Zh1] at ha
  have hw:Anz l[i] out=some (out++l[i]):=by
   simp only [Anz]
   rw [if_pos (by simp only [Be];omega)]
  have hr:=hr (out++l[i]) (by rw [Zh1];omega)
  simp only [Mh,H1 hi,Am,Bp hi,chk,Bq (c :=.str) hi,Wv,hw,Zc1,Bg hi hn,hr,Zz1,Zj1]
 ·simp only [Mh,H0,An,h2]
  rw [Zk1 (Zn1 _)]
  simp
theorem Ct:FnLn Tryz.prog elT glT 49 Ca B9 Ay :=.fin 0 Atc fun(l,out) r hb hx=>⟨l.length+1,by
 have hx:app out l.flatten=some r:=hx
 have hlen:=A90 hx
 rw [(Anr hx).2]
 exact Arw (l:=l) (c:=some) hb.1.1 (fun _ _=>rfl) (l.length+1) (by omega) out hlen⟩
theorem ww(l:List Str) (out:Str):Ay (l,out)=app out l.flatten:=rfl
def sgn(k:Int):Str:=Tt signsL k
mutual
def etx:Xpr→Str
 |.mk k v n l=>if k=1 then B6 v else if k=2 then n else etxs k l
def etxs:Int→List Xpr→Str
 |_,[]=>[]
 |k,x::l=>if k=3 then [40]++[78,79,84,32]++etx x++[41] else if k=15 then [40]++[45]++etx x++[41] else if k=16 then [40]++etx x++[32,73,83,32,78,85,76,76]++[41] else [40]++etx x++([32]++(sgn k++[32]))++etx1 l++[41]
def etx1:List Xpr→Str
 |[]=>[]
 |y::_=>etx y
end
mutual
def okx:Xpr→Bool
 |.mk k _ _ l=>if k=1∨k=2 then true else okxs k l
def okxs:Int→List Xpr→Bool
 |_,[]=>false
 |k,x::l=>okx x&&(if k=3∨k=15∨k=16 then true else okx1 l)
def okx1:List Xpr→Bool
 |[]=>false
 |y::_=>okx y
end
theorem Aus(e:Xpr):etx e=if e.kind=1 then B6 e.v else if e.kind=2 then e.name else etxs e.kind e.l:=by
 cases e;simp only [etx];rfl
theorem A7a(e:Xpr):okx e=if e.kind=1∨e.kind=2 then true else okxs e.kind e.l:=by
 cases e;simp only [okx];rfl
def Fb:Sig:=⟨2,[(1,.sv .expr)],[(0,.ptr 0 0)],[(0,.bld 82)],1,1,0,[],[]⟩
def E4:Sig:=⟨0,[],[],[(0,.bld 82)],1,1,0,[],[]⟩
abbrev J5:=Xpr×List UInt8
abbrev Gk:=List UInt8
def Vh(R:Type) (rf:J5→Option Gk):Px R:=⟨A7 ttL,glT,Aq [(98,As [.sv .val] [.str] Ab7),(49,Ao Ca B9 Ay),(40,Ao Fb E4 rf)],Ak [],Av [],tbl []⟩
def Jb(rf:J5→Option Gk) (x:J5):Option (Gk):=match x with
 |(e,out) =>
 cond (decide (e.kind=1)) (
  (Ay ([(B6 e.v)],out)).bind fun x =>
  some x) (
  cond (decide (e.kind=2)) (
  (Ay ([e.name],out)).bind fun x1 =>
   some x1) (
  (Ay ([[40]],out)).bind fun x2 =>
   cond (decide (e.kind=3)) (
   (Ay ([[78,79,84,32]],x2)).bind fun x3 =>
    chk (inb 0 e.l.length) (
    (rf ((at' .expr e.l 0),x3)).bind fun x4 =>
     (Ay ([[41]],x4)).bind fun x13 =>
     some x13)) (
   cond (decide (e.kind=15)) (
    (Ay ([[45]],x2)).bind fun x5 =>
    chk (inb 0 e.l.length) (
     (rf ((at' .expr e.l 0),x5)).bind fun x6 =>
     (Ay ([[41]],x6)).bind fun x14 =>
      some x14)) (
    cond (decide (e.kind=16)) (
    chk (inb 0 e.l.length) (
     (rf ((at' .expr e.l 0),x2)).bind fun x7 =>
     (Ay ([[32,73,83,32,78,85,76,76]],x7)).bind fun x8 =>
      (Ay ([[41]],x8)).bind fun x15 =>
      some x15)) (
    chk (inb 0 e.l.length) (
     (rf ((at' .expr e.l 0),x2)).bind fun x9 =>
     (Ay ([[32],(Tt signsL e.kind),[32]],x9)).bind fun x10 =>
      chk (inb 1 e.l.length) (
      (rf ((at' .expr e.l 1),x10)).bind fun x11 =>
       (Ay ([[41]],x11)).bind fun x16 =>
       some x16)))))))
theorem A35(rf:J5→Option Gk):∀(x:J5),C2 (Vh _ rf) Tryz.f40 Fb E4 x some=Jb rf x
 |(e,out)=>by kernel_rfl
theorem Azh(rf:J5→Option Gk) (hrf:FnLn Tryz.prog elT glT 40 Fb E4 rf):FnLn Tryz.prog elT glT 40 Fb E4 (Jb rf):=by
 refine Bk Tryz.func40 rfl (by kernel_rfl) follows (by kernel_rfl) (n:=0) (by kernel_rfl) (px:=Vh _ rf) (fun cx hP hel hgl =>?_) (A35 rf)
 have hp0:PxOk cx (Vh (Gk) rf):=⟨fun t=>by rw [hP,hel];exact Au Al t,by rw [hgl];rfl⟩
 have hc0:Aj cx (Vh (Gk) rf):=Ah rfl (Aa (A4 (by rw [hP,hel,hgl];exact Akd) (by kernel_rfl)) (Aa (A3 (by rw [hP,hel,hgl];exact Ct) (by kernel_rfl)) (Aa (A3 (by rw [hP,hel,hgl];exact hrf) (by kernel_rfl)) Ai)))
 have hq0:CallQOk cx (Vh (Gk) rf):=Ab rfl rfl Af Ae
 exact⟨hp0,hc0,hq0,Aw⟩
def Bhn(e:Xpr) (out:Str):Option Str:=cond (okx e) (app out (etx e)) none
def E0:J5→Option Gk:=fun x=>Bhn x.1 x.2
theorem Ak7:∀(n:Nat) (e:Xpr) (out:Str),BdExpr e→Bt e≤n→okx e=true→A5 (V:=J5) (R:=Gk) Jb n (e,out)=app out (etx e)
 |0,e,_,_,h,_=>by have:=Ej e;omega
 |n+1,e,out,hb,h,hok=>by
  obtain⟨hb4,hb5⟩:=Ae3 hb
  rw [Kv] at h
  have hrf:∀x,x∈e.l→okx x=true→∀out:Str,A5 (V:=J5) (R:=Gk) Jb n (x,out)=app out (etx x):=fun x hx ho out=>Ak7 n x out (hb5 x hx) (by have:=Dn hx;omega) ho
  rw [Bu,Aus]
  rw [A7a] at hok
  simp only [Jb,ww]
  by_cases h1:e.kind=1
  ·rw [Ze1 h1,if_pos h1,Am,Iq]
   simp
  by_cases h2:e.kind=2
  ·rw [Zd1 h1,Ze1 h2,if_neg h1,if_pos h2,An,Am,Iq]
   simp
  rw [Zd1 h1,Zd1 h2,if_neg h1,if_neg h2,An,An]
  rw [if_neg (by omega)] at hok
  cases hl:e.l with
  |nil=>rw [hl] at hok;cases hok
  |cons x l =>
   rw [hl] at hok hrf
   simp only [okxs,Zb1] at hok
   have hx:=hrf x Zr1 hok.1
   have e0:at' .expr (x::l) 0=x:=rfl
   have i0:inb 0 (x::l).length=true:=Bp (i:=0) (by simp)
   simp only [e0,i0,hx,chk,Am,etxs]
   by_cases h3:e.kind=3
   ·rw [Ze1 h3,if_pos h3]
    simp only [Am,C1,Iq,H6,Zz1,List.flatten_nil,List.append_nil,Zj1]
   by_cases h15:e.kind=15
   ·rw [Zd1 h3,Ze1 h15,if_neg h3,if_pos h15]
    simp only [Am,An,C1,Iq,H6,Zz1,List.flatten_nil,List.append_nil,Zj1]
   by_cases h16:e.kind=16
   ·rw [Zd1 h3,Zd1 h15,Ze1 h16,if_neg h3,if_neg h15,if_pos h16]
    simp only [Am,An,C1,Iq,H6,Zz1,List.flatten_nil,List.append_nil,Zj1]
   rw [Zd1 h3,Zd1 h15,Zd1 h16,if_neg h3,if_neg h15,if_neg h16]
   rw [if_neg (by omega)] at hok
   cases l with
   |nil=>exact absurd hok.2 (by simp [okx1])
   |cons y l =>
    have hy:=hrf y (by simp) hok.2
    have e1:at' .expr (x::y::l) 1=y:=rfl
    have i1:inb 1 (x::y::l).length=true:=Bp (i:=1) (by simp)
    simp only [e1,i1,hy,Am,An,etx1]
    simp only [Iq,H6,Zz1,List.flatten_nil,List.append_nil,Zj1,sgn]
theorem Qx:FnLn Tryz.prog elT glT 40 Fb E4 E0:=by
 refine .fin (ι:=Nat) (sg:=Fb) (so:=E4) 0 (F:=fun n=>A5 (V:=J5) (R:=Gk) Jb n) (fun n=>FnLn.rec' (Sx.enters_of Tryz.func40 rfl rfl) (fun rf hrf=>Azh rf hrf) n) fun(e,out) r hb hx=>⟨Bt e,?_⟩
 have hx:cond (okx e) (app out (etx e)) none=some r:=hx
 cases hok:okx e with
 |false=>rw [hok] at hx;cases hx
 |true =>
  rw [hok] at hx
  exact(Ak7 (Bt e) e out hb.1 (Zn1 _) hok).trans hx
theorem we{e:Xpr}(h:okx e=true) (out:Str):E0 (e,out)=app out (etx e):=by
 show cond (okx e) _ _=_
 rw [h]
 rfl
end Go.Proofs.YthndhaolemgbdaaGreatDoor
namespace Go.Proofs.YthndhaolemgbdaaGreatDoor
open Go.Ax
theorem C3{R:Type}{out t:Str}{f g:Str→Option R}(h:∀x:Str,x.length≤100000000000→f x=g x):(app out t).bind f=(app out t).bind g:=by
 cases hx:app out t with
 |none=>rfl
 |some x=>exact h x (Anr hx).1
theorem Q9{R:Type}(i:Nat) (acc t:Str) (c:Str→Option R):cond (decide ((0:Int)<(i:Int))) ((app acc [44,32]).bind fun x=>(app x t).bind c) ((app acc t).bind c)=(app acc ((if i=0 then [] else [44,32])++t)).bind c:=by
 by_cases h:i=0
 ·rw [Zd1 (by omega),if_pos h]
  rfl
 ·rw [Ze1 (by omega),if_neg h,Am,C1]
theorem fl1(a:Str):([a]:List Str).flatten=a:=by simp
theorem fl2(a b:Str):([a,b]:List Str).flatten=a++b:=by simp
theorem fl3(a b c:Str):([a,b,c]:List Str).flatten=a++(b++c):=by simp
theorem fl5(a b c d e:Str):([a,b,c,d,e]:List Str).flatten=a++(b++(c++(d++e))):=by simp
theorem A7i{V R α:Type}{step:(V→Option R)→V→Option R}(l:List α) (f : α→Str) (st:Nat→Str→V) (c:Str→Option R)
  (hs:∀i (hi:i<l.length) (acc:Str) rec,step rec (st i acc)=(app acc (f l[i])).bind fun x=>rec (st (i+1) x))
  (he:∀acc rec,step rec (st l.length acc)=c acc) (k:Nat) (hk:l.length<k) (out:Str) (ho:out.length≤100000000000):A5 step k (st 0 out)=(app out (l.map f).flatten).bind c:=by
 refine(W8 l.length st (fun _ acc=>acc.length≤100000000000) (fun i acc=>(app acc ((l.drop i).map f).flatten).bind c) (fun i hi acc ha rec hr =>?_) (fun acc ha rec =>?_) k 0 out (Nat.zero_le _) (by omega) ho).trans (by rw [Zq1])
 ·rw [hs i hi acc rec,A9 hi,Zw1,Zz1,←C1]
  exact C3 fun x hx=>hr x hx
 ·rw [he,Zc2,List.map_nil,List.flatten_nil,Agc ha]
  rfl
theorem Bhg{out r:Str}(h:app out []=some r):some out=some r:=by
 have:=(Anr h).2
 rw [List.append_nil] at this
 rw [this]
def Xb(R:Type):Px R:=⟨A7 ttL,glT,Aq [(39,As [.sv .expr,.int .i64] [.bool] P5),(40,Ao Fb E4 E0),(41,Ao bstr_si Af2 Ig)],Ak [],Av [],tbl []⟩
def Aao(x:HV [.sv .expr]):Option (HV [.str,.int .i64]):=match x with
 |e =>
 cond (!(Bo e 30)) (
  some ([],2)) (
  (E0 (e,[])).bind fun x =>
  (Ig x).bind fun x1 =>
   some (x1,0))
theorem A61:∀(x:HV [.sv .expr]),Ci (Xb _) Tryz.f14 [.sv .expr] [.str,.int .i64] x some=Aao x
 |e=>by kernel_rfl
theorem Azo:FnOk Tryz.prog elT glT 14 [.sv .expr] [.str,.int .i64] (Aao):=by
 refine A1 Tryz.func14 rfl (by kernel_rfl) follows (by kernel_rfl) (n:=0) (by kernel_rfl) (px:=Xb _) (fun cx hP hel hgl =>?_) (A61)
 have hp0:PxOk cx (Xb (HV [.str,.int .i64])):=⟨fun t=>by rw [hP,hel];exact Au Al t,by rw [hgl];rfl⟩
 have hc0:Aj cx (Xb (HV [.str,.int .i64])):=Ah rfl (Aa (A4 (by rw [hP,hel,hgl];exact Rc) (by kernel_rfl)) (Aa (A3 (by rw [hP,hel,hgl];exact Qx) (by kernel_rfl)) (Aa (A3 (by rw [hP,hel,hgl];exact Aww) (by kernel_rfl)) Ai)))
 have hq0:CallQOk cx (Xb (HV [.str,.int .i64])):=Ab rfl rfl Af Ae
 exact⟨hp0,hc0,hq0,Aw⟩
def Zh(e:Xpr):Option (Str×Int):=cond (Bo e 30) (cond (okx e) ((app [] (etx e)).bind fun t=>some (t,0)) none) (some ([],2))
def An6:FT [.sv .expr] [.str,.int .i64]:=fun x=>Zh x
theorem Aqa:FnOk Tryz.prog elT glT 14 [.sv .expr] [.str,.int .i64] An6 :=.fin0 Azo fun e r hb hx=>by
 have hx:Zh e=some r:=hx
 rw [←hx]
 simp only [Aao,Zh]
 simp only [Zh] at hx
 cases hr:Bo e 30 with
 |false=>rfl
 |true =>
  rw [hr] at hx
  cases ho:okx e with
  |false=>rw [ho] at hx;cases hx
  |true =>
   simp only [we ho,Zt1,An,Am]
   rfl
theorem Wo:∀(l:List Xpr) (m:Int),erights l m=l.all fun x=>Bo x m
 |[],_=>rfl
 |x::l,m=>by simp only [erights,Zv1,Wo l m]
theorem Ako:∀(n:Nat) (e:Xpr) (m:Int),Bt e≤n→Bo e m=true→okx e=true
 |0,e,_,h,_=>by have:=Ej e;omega
 |n+1,e,m,h,hr=>by
  obtain⟨hp,_,hs⟩:=F2 hr
  rw [Kv] at h
  rw [Wo] at hs
  have ih:∀x,x∈e.l→okx x=true:=fun x hx=>Ako n x _ (by have:=Dn hx;omega) (Zg2.1 hs x hx)
  rw [A7a]
  rcases Ag9 e.kind with ⟨h0,hk⟩|⟨h0,hk⟩|⟨h0,hk⟩|h0
  ·rw [if_pos hk]
  ·rw [if_neg (by omega)]
   rw [h0] at hp
   match hl:e.l,hp with
   |[x],_=>rw [okxs,if_pos hk,ih x (by rw [hl];simp)];rfl
  ·rw [if_neg (by omega)]
   rw [h0] at hp
   match hl:e.l,hp with
   |[x,y],_ =>
    rw [okxs,ih x (by rw [hl];simp),okx1,ih y (by rw [hl];simp)]
    split<;>rfl
  ·rw [h0] at hp
   omega
theorem A7v{e:Xpr}{m:Int}(h:Bo e m=true):okx e=true:=Ako _ e m (Zn1 _) h
def Amk(l:List Str):Bool:=decide (l.length≤1000000)&&decide ((Lib.join l [44,32]).length≤1000000000)
def nmT(l:List Str):Str:=[40]++(Lib.join l [44,32]++[41])
def Pz:Sig:=⟨2,[(1,.sl .str false)],[(0,.ptr 0 0)],[(0,.bld 82)],1,1,0,[],[]⟩
def Rj:Sig:=⟨0,[],[],[(0,.bld 82)],1,1,0,[],[]⟩
abbrev Aip:=List Str×List UInt8
abbrev Vp:=List UInt8
def Rr(R:Type):Px R:=⟨A7 ttL,glT,Aq [(105,As [.sl .str false,.str] [.str] Aof),(49,Ao Ca B9 Ay)],Ak [],Av [],tbl []⟩
def Ox(x:Aip):Option (Vp):=match x with
 |(l,out) =>
 (Axo l [44,32]).bind fun x =>
  (Ay ([[40],x,[41]],out)).bind fun x1 =>
  some x1
theorem A1o:∀(x:Aip),C2 (Rr _) Tryz.f50 Pz Rj x some=Ox x
 |(l,out)=>by kernel_rfl
theorem As6:FnLn Tryz.prog elT glT 50 Pz Rj (Ox):=by
 refine Bk Tryz.func50 rfl (by kernel_rfl) follows (by kernel_rfl) (n:=0) (by kernel_rfl) (px:=Rr _) (fun cx hP hel hgl =>?_) (A1o)
 have hp0:PxOk cx (Rr (Vp)):=⟨fun t=>by rw [hP,hel];exact Au Al t,by rw [hgl];rfl⟩
 have hc0:Aj cx (Rr (Vp)):=Ah rfl (Aa (A4 (by rw [hP,hel,hgl];exact A3x) (by kernel_rfl)) (Aa (A3 (by rw [hP,hel,hgl];exact Ct) (by kernel_rfl)) Ai))
 have hq0:CallQOk cx (Rr (Vp)):=Ab rfl rfl Af Ae
 exact⟨hp0,hc0,hq0,Aw⟩
def Bfb(l:List Str) (out:Str):Option Str:=cond (Amk l) (app out (nmT l)) none
def Rm:Aip→Option Vp:=fun x=>Bfb x.1 x.2
theorem A6x(l:List Str) (out:Str) (h:Amk l=true):Ox (l,out)=app out (nmT l):=by
 simp only [Amk,Zb1,Zg1] at h
 have hj:Axo l [44,32]=some (Lib.join l [44,32]):=if_pos h
 simp only [Ox,hj,ww,Zc1,Iq,fl3]
 rfl
theorem Aky:FnLn Tryz.prog elT glT 50 Pz Rj Rm :=.fin0 As6 fun(l,out) r hb hx=>by
 have hx:cond (Amk l) (app out (nmT l)) none=some r:=hx
 cases ho:Amk l with
 |false=>rw [ho] at hx;cases hx
 |true =>
  rw [ho] at hx
  exact(A6x l out ho).trans hx
theorem wn{l:List Str}(h:Amk l=true) (out:Str):Rm (l,out)=app out (nmT l):=by
 show cond (Amk l) _ _=_
 rw [h]
 rfl
def Aqe(c:Col):Str:=c.name++([32]++at' .str Am4 c.kind)++cond c.notNull [32,78,79,84,32,78,85,76,76] []++cond c.unique [32,85,78,73,81,85,69] []++cond (decide (c.ref=[])) [] ([32,82,69,70,69,82,69,78,67,69,83,32]++c.ref)
def Agg:Sig:=⟨2,[(1,.sv .col)],[(0,.ptr 0 0)],[(0,.bld 82)],1,1,0,[],[]⟩
def Agi:Sig:=⟨0,[],[],[(0,.bld 82)],1,1,0,[],[]⟩
abbrev Ase:=Col×List UInt8
abbrev Ajs:=List UInt8
def Abt(R:Type):Px R:=⟨A7 ttL,glT,Aq [(49,Ao Ca B9 Ay)],Ak [],Av [],tbl []⟩
def Xw(x:Ase):Option (Ajs):=match x with
 |(c,out) =>
 chk (inb c.kind 6) (
  (Ay ([c.name,[32],(at' .str Am4 c.kind)],out)).bind fun x =>
  let j1:=fun(q:List UInt8) =>
   let j:=fun(q1:List UInt8) =>
   cond (!decide (c.ref=[])) (
    (Ay ([[32,82,69,70,69,82,69,78,67,69,83,32],c.ref],q1)).bind fun x3 =>
    some x3) (
    some q1)
   cond (c.unique) (
   (Ay ([[32,85,78,73,81,85,69]],q)).bind fun x2 =>
    j x2) (
   j q)
  cond (c.notNull) (
   (Ay ([[32,78,79,84,32,78,85,76,76]],x)).bind fun x1 =>
   j1 x1) (
   j1 x))
theorem Bcf:∀(x:Ase),C2 (Abt _) Tryz.f103 Agg Agi x some=Xw x
 |(c,out)=>by kernel_rfl
theorem A7h:FnLn Tryz.prog elT glT 103 Agg Agi (Xw):=by
 refine Bk Tryz.func103 rfl (by kernel_rfl) follows (by kernel_rfl) (n:=0) (by kernel_rfl) (px:=Abt _) (fun cx hP hel hgl =>?_) (Bcf)
 have hp0:PxOk cx (Abt (Ajs)):=⟨fun t=>by rw [hP,hel];exact Au Al t,by rw [hgl];rfl⟩
 have hc0:Aj cx (Abt (Ajs)):=Ah rfl (Aa (A3 (by rw [hP,hel,hgl];exact Ct) (by kernel_rfl)) Ai)
 have hq0:CallQOk cx (Abt (Ajs)):=Ab rfl rfl Af Ae
 exact⟨hp0,hc0,hq0,Aw⟩
def Bih(c:Col) (out:Str):Option Str:=cond (inb c.kind 6) (app out (Aqe c)) none
def Amo:Ase→Option Ajs:=fun x=>Bih x.1 x.2
theorem Bfn(c:Col) (out:Str) (h:inb c.kind 6=true):Xw (c,out)=app out (Aqe c):=by
 simp only [Xw,h,chk,Am,ww,fl1,fl2,fl3,Aqe]
 cases c.notNull<;>cases c.unique<;>cases decide (c.ref=[])<;>simp only [Am,An,Zt1,Zs1,Iq,H6,List.append_nil,Zj1]
theorem A9s:FnLn Tryz.prog elT glT 103 Agg Agi Amo :=.fin0 A7h fun(c,out) r hb hx=>by
 have hx:cond (inb c.kind 6) (app out (Aqe c)) none=some r:=hx
 cases ho:inb c.kind 6 with
 |false=>rw [ho] at hx;cases hx
 |true =>
  rw [ho] at hx
  exact(Bfn c out ho).trans hx
theorem wc{c:Col}(h:inb c.kind 6=true) (out:Str):Amo (c,out)=app out (Aqe c):=by
 show cond (inb c.kind 6) _ _=_
 rw [h]
 rfl
def whT(s:Stm):Str:=cond s.has ([32,87,72,69,82,69,32]++etx s.whr) []
def okW(s:Stm):Bool := !s.has||okx s.whr
def Pu:Sig:=⟨2,[(1,.sv .stmt)],[(0,.ptr 0 0)],[(0,.bld 82)],1,1,0,[],[]⟩
def Q6:Sig:=⟨0,[],[],[(0,.bld 82)],1,1,0,[],[]⟩
abbrev Agp:=Stm×List UInt8
abbrev V9:=List UInt8
def Py(R:Type):Px R:=⟨A7 ttL,glT,Aq [(49,Ao Ca B9 Ay),(40,Ao Fb E4 E0)],Ak [],Av [],tbl []⟩
def N2(x:Agp):Option (V9):=match x with
 |(s,out) =>
 cond (s.has) (
  (Ay ([[32,87,72,69,82,69,32]],out)).bind fun x =>
  (E0 ((Ut s.whr),x)).bind fun x1 =>
   some x1) (
  some out)
theorem A0a:∀(x:Agp),C2 (Py _) Tryz.f55 Pu Q6 x some=N2 x
 |(s,out)=>by kernel_rfl
theorem As0:FnLn Tryz.prog elT glT 55 Pu Q6 (N2):=by
 refine Bk Tryz.func55 rfl (by kernel_rfl) follows (by kernel_rfl) (n:=0) (by kernel_rfl) (px:=Py _) (fun cx hP hel hgl =>?_) (A0a)
 have hp0:PxOk cx (Py (V9)):=⟨fun t=>by rw [hP,hel];exact Au Al t,by rw [hgl];rfl⟩
 have hc0:Aj cx (Py (V9)):=Ah rfl (Aa (A3 (by rw [hP,hel,hgl];exact Ct) (by kernel_rfl)) (Aa (A3 (by rw [hP,hel,hgl];exact Qx) (by kernel_rfl)) Ai))
 have hq0:CallQOk cx (Py (V9)):=Ab rfl rfl Af Ae
 exact⟨hp0,hc0,hq0,Aw⟩
def Bff(s:Stm) (out:Str):Option Str:=cond (okW s) (app out (whT s)) none
def Ia:Agp→Option V9:=fun x=>Bff x.1 x.2
theorem A42(s:Stm) (out r:Str) (h:okW s=true) (hr:app out (whT s)=some r):N2 (s,out)=some r:=by
 simp only [okW] at h
 simp only [whT] at hr
 simp only [N2,Ym,ww,fl1]
 cases hs:s.has with
 |false =>
  rw [hs] at hr
  exact Bhg hr
 |true =>
  rw [hs] at h hr
  simp only [we (show okx s.whr=true from h),Am,Iq,H6]
  exact hr
theorem Ak9:FnLn Tryz.prog elT glT 55 Pu Q6 Ia :=.fin0 As0 fun(s,out) r hb hx=>by
 have hx:cond (okW s) (app out (whT s)) none=some r:=hx
 cases ho:okW s with
 |false=>rw [ho] at hx;cases hx
 |true =>
  rw [ho] at hx
  exact A42 s out r ho hx
theorem wh{s:Stm}(h:okW s=true) (out:Str):Ia (s,out)=app out (whT s):=by
 show cond (okW s) _ _=_
 rw [h]
 rfl
def A99(e:Xpr):Str:=[44,32,67,72,69,67,75,32]++cond (decide (Kk e.kind=0)) ([40]++(etx e++[41])) (etx e)
def V8(s:Stm):Str:=[67,82,69,65,84,69,32,84,65,66,76,69,32]++(s.name++[32,40])++It Aqe s.cols++[44,32,80,82,73,77,65,82,89,32,75,69,89,32]++nmT s.names++(s.l.map A99).flatten++[41]
def okT(s:Stm):Bool:=s.cols.all (fun c=>inb c.kind 6)&&Amk s.names&&s.l.all okx
def Oa(s:Stm):Nat:=s.cols.length+s.l.length+s.order.length+s.rows.length+s.sets.length+(s.rows.map List.length).sum+1
def Y5:Sig:=⟨2,[(1,.sv .stmt)],[(0,.ptr 0 0)],[(0,.bld 82)],1,1,0,[],[]⟩
def Yn:Sig:=⟨0,[],[],[(0,.bld 82)],1,1,0,[],[]⟩
abbrev Ahs:=Stm×List UInt8
abbrev Eh:=List UInt8
def Xj:Sig:=⟨54,[(25,.sl .expr false),(26,.int .i64),(27,.int .i64)],[(2,.ptr 1 0)],[(0,.bld 82),(1,.fx [.ptr 0 0])],2,1,0,[],[]⟩
abbrev Ja:=List Xpr×Int×Int×List UInt8
def Rk{R:Type}(rec:Ja→Option R) (kx:Ex→Ja→Option R) (v:Ja):Option R:=match v with
 |(v6,v7,v8,w2) =>
 cond (decide (v8<v7)) (
  chk (inb v8 v6.length) (
  (Ay ([[44,32,67,72,69,67,75,32]],w2)).bind fun x5 =>
   cond (decide ((Kk ((at' .expr v6 v8).kind))=0)) (
   (Ay ([[40]],x5)).bind fun x6 =>
    (E0 ((at' .expr v6 v8),x6)).bind fun x7 =>
    (Ay ([[41]],x7)).bind fun x8 =>
     rec (v6,v7,(wr .i64 (v8+1)),x8)) (
   (E0 ((at' .expr v6 v8),x5)).bind fun x9 =>
    rec (v6,v7,(wr .i64 (v8+1)),x9)))) (
  kx (.exit 0) (v6,v7,v8,w2))
def Vg:Sig:=⟨20,[(7,.int .i64),(8,.int .i64)],[(0,.ptr 0 0),(2,.fn 102 [.ptr 1 0,.ptr 2 0])],[(0,.bld 82),(1,.fx [.ptr 0 0]),(2,.one (.sv .stmt))],80,80,400,[],[]⟩
abbrev Iz:=Int×Int×List UInt8×Stm
def Rw{R:Type}(rec:Iz→Option R) (kx:Ex→Iz→Option R) (v:Iz):Option R:=match v with
 |(v,v1,w,w1) =>
 cond (decide (v1<v)) (
  let j:=fun(q:List UInt8) =>
  chk (inb v1 w1.cols.length) (
   (Amo ((at' .col w1.cols v1),q)).bind fun x2 =>
   rec (v,(wr .i64 (v1+1)),x2,w1))
  cond (decide (0<v1)) (
  (Ay ([[44,32]],w)).bind fun x1 =>
   j x1) (
  j w)) (
  kx (.exit 0) (v,v1,w,w1))
def Kd(R:Type) (_k:Nat):Px R:=⟨A7 ttL,glT,Aq [(103,Ao Agg Agi Amo)],Ak [],Av [],tbl []⟩
noncomputable def Hp (R:Type) (k:Nat):Px R:=⟨A7 ttL,glT,Aq [(49,Ao Ca B9 Ay),(102,Bb 120 600 (Kd R k) Tryz.f102)],Ak [],Av [(1,Bc k Vg (Rw))],tbl []⟩
noncomputable def Jj (R:Type) (k:Nat):Px R:=⟨A7 ttL,glT,Aq [(49,Ao Ca B9 Ay),(50,Ao Pz Rj Rm),(94,As [.int .i64] [.int .i64] Am5),(40,Ao Fb E4 E0),(51,Bb 80 400 (Hp R k) Tryz.f51)],Ak [],Av [(6,Bc k Xj (Rk))],tbl []⟩
theorem Apn(R:Type) (k:Nat):∀(fr:List Fr) (rec:Iz→Option R) (kx:Ex→Iz→Option R) (v:Iz),Bn (Hp R k) Vg (lp Tryz.f51 0) fr rec kx v=Rw rec kx v
 |fr,rec,kx,(v,v1,w,w1)=>by kernel_rfl
theorem Aoz(R:Type) (k:Nat):∀(fr:List Fr) (rec:Ja→Option R) (kx:Ex→Ja→Option R) (v:Ja),Bn (Jj R k) Xj (lp Tryz.f48 0) fr rec kx v=Rk rec kx v
 |fr,rec,kx,(v6,v7,v8,w2)=>by kernel_rfl
def Oo(k:Nat) (x:Ahs):Option (Eh):=match x with
 |(s,out) =>
 (Ay ([[67,82,69,65,84,69,32,84,65,66,76,69,32],s.name,[32,40]],out)).bind fun x =>
  A5 (fun rec=>Rw rec (fun e vz=>match vz with|(_,_,v4,v5)=>match e with
  |.exit 0 =>
   (Ay ([[44,32,80,82,73,77,65,82,89,32,75,69,89,32]],v4)).bind fun x3 =>
   (Rm (v5.names,x3)).bind fun x4 =>
    A5 (fun rec=>Rk rec (fun e vz=>match vz with|(_,_,_,v12)=>match e with
    |.exit 0 =>
     (Ay ([[41]],v12)).bind fun x10 =>
     some x10
    |_=>none)) k (v5.l,(v5.l.length:Int),0,x4)
  |_=>none)) k ((s.cols.length:Int),0,x,s)
theorem Ay4(k:Nat):∀(x:Ahs),C2 (Jj _ k) Tryz.f48 Y5 Yn x some=Oo k x
 |(s,out)=>by kernel_rfl
theorem Avf(k:Nat):FnLn Tryz.prog elT glT 48 Y5 Yn (Oo k):=by
 refine Bk Tryz.func48 rfl (by kernel_rfl) follows (by kernel_rfl) (n:=1) (by kernel_rfl) (px:=Jj _ k) (fun cx hP hel hgl =>?_) (Ay4 k)
 have hp2:PxOk cx (Kd (Eh) k):=⟨fun t=>by rw [hP,hel];exact Au Al t,by rw [hgl];rfl⟩
 have hc2:Aj cx (Kd (Eh) k):=Ah rfl (Aa (A3 (by rw [hP,hel,hgl];exact A9s) (by kernel_rfl)) Ai)
 have hq2:CallQOk cx (Kd (Eh) k):=Ab rfl rfl Af Ae
 have hp1:PxOk cx (Hp (Eh) k):=⟨fun t=>by rw [hP,hel];exact Au Al t,by rw [hgl];rfl⟩
 have hc1:Aj cx (Hp (Eh) k):=Ah rfl (Aa (A3 (by rw [hP,hel,hgl];exact Ct) (by kernel_rfl)) (Aa (Bm hp2 hc2 hq2 (by rw [hP];exact follows) (by rw [hP];exact Tryz.func102) rfl (by kernel_rfl) (by kernel_rfl) (n:=0) (by kernel_rfl) (Aw)) Ai))
 have hq1:CallQOk cx (Hp (Eh) k):=Ab rfl rfl Af Ae
 have hlwtable_0:A6 cx (Hp (Eh) k) (lp Tryz.f51 0):=A8 hp1 hc1 hq1 (by rw [hP];exact follows) (k:=k) (s:=Vg) (step:=Rw) (fun _ _=>by kernel_rfl) (by kernel_rfl) (Apn _ k) (A0 (n:=0) (by kernel_rfl) Aw)
 have hp0:PxOk cx (Jj (Eh) k):=⟨fun t=>by rw [hP,hel];exact Au Al t,by rw [hgl];rfl⟩
 have hc0:Aj cx (Jj (Eh) k):=Ah rfl (Aa (A3 (by rw [hP,hel,hgl];exact Ct) (by kernel_rfl)) (Aa (A3 (by rw [hP,hel,hgl];exact Aky) (by kernel_rfl)) (Aa (A4 (by rw [hP,hel,hgl];exact Ar6) (by kernel_rfl)) (Aa (A3 (by rw [hP,hel,hgl];exact Qx) (by kernel_rfl)) (Aa (Bm hp1 hc1 hq1 (by rw [hP];exact follows) (by rw [hP];exact Tryz.func51) rfl (by kernel_rfl) (by kernel_rfl) (n:=1) (by kernel_rfl) ((Cg Aw hlwtable_0))) Ai)))))
 have hq0:CallQOk cx (Jj (Eh) k):=Ab rfl rfl Af Ae
 have hlwtable_1:A6 cx (Jj (Eh) k) (lp Tryz.f48 0):=A8 hp0 hc0 hq0 (by rw [hP];exact follows) (k:=k) (s:=Xj) (step:=Rk) (fun _ _=>by kernel_rfl) (by kernel_rfl) (Aoz _ k) (A0 (n:=0) (by kernel_rfl) Aw)
 exact⟨hp0,hc0,hq0,(Cg Aw hlwtable_1)⟩
def Beu(s:Stm) (out:Str):Option Str:=cond (okT s) (app out (V8 s)) none
def Ac4:Ahs→Option Eh:=fun x=>Beu x.1 x.2
theorem A8g(k:Nat) (s:Stm) (out:Str) (hb:BdStm s) (h:okT s=true) (hk:Oa s≤k):Oo k (s,out)=app out (V8 s):=by
 simp only [okT,Zb1] at h
 obtain⟨⟨h1,h2⟩,h3⟩:=h
 simp only [Oa] at hk
 have hc:=Zg2.1 h1
 have hl:=Zg2.1 h3
 simp only [Oo,ww,fl1,fl3]
 refine(C3 fun x hx=>(L4 s.cols Aqe (fun i acc=>((s.cols.length:Int),(i:Int),acc,s)) (fun acc=>(app acc ([44,32,80,82,73,77,65,82,89,32,75,69,89,32]++nmT s.names)).bind fun x=>(app x (s.l.map A99).flatten).bind fun x=>app x [41]) (fun i hi acc rec =>?_) (fun acc rec =>?_) k (by omega) x hx)).trans ?_
 ·simp only [Rw,H1 hi,Am,Bp hi,chk,Bq (c :=.col) hi,wc (hc _ (List.getElem_mem hi)),Bg hi hb.cols.1,ww,fl1]
  exact Q9 i acc (Aqe s.cols[i]) _
 ·simp only [Rw,H0,An,ww,fl1,wn h2]
  rw [C1]
  refine C3 fun x hx=>A7i s.l A99 (fun i acc=>(s.l,(s.l.length:Int),(i:Int),acc)) (fun acc=>app acc [41]) (fun i hi acc rec =>?_) (fun acc rec =>?_) k (by omega) x hx
  ·simp only [Rk,H1 hi,Am,Bp hi,chk,Bq (c :=.expr) hi,we (hl _ (List.getElem_mem hi)),Bg hi hb.l.1,ww,fl1,A99]
   cases decide (Kk s.l[i].kind=0) with
   |true=>simp only [Am,C1]
   |false=>simp only [An,C1]
  ·simp only [Rk,H0,An,ww,fl1,Iq]
 ·simp only [H6,V8,Zj1]
theorem Az6:FnLn Tryz.prog elT glT 48 Y5 Yn Ac4 :=.fin 0 Avf fun(s,out) r hb hx=>⟨Oa s,by
 have hx:cond (okT s) (app out (V8 s)) none=some r:=hx
 cases ho:okT s with
 |false=>rw [ho] at hx;cases hx
 |true =>
  rw [ho] at hx
  exact(A8g (Oa s) s out hb.1 ho (Zn1 _)).trans hx⟩
theorem wt{s:Stm}(h:okT s=true) (out:Str):Ac4 (s,out)=app out (V8 s):=by
 show cond (okT s) _ _=_
 rw [h]
 rfl
def Avt(p:Str×Bool):Str:=p.1++cond p.2 [32,68,69,83,67] []
def Azs(s:Stm):Str:=cond (decide (0≤s.most)) ([32,76,73,77,73,84,32]++B6 ⟨3,s.most,[]⟩) []
def obT(s:Stm):Str:=cond (decide (0<(s.order.length:Int))) [32,79,82,68,69,82,32,66,89,32] []
def Atp(s:Stm):Str:=[83,69,76,69,67,84,32]++cond (decide ((s.l.length:Int)=0)) [42] []++It etx s.l++([32,70,82,79,77,32]++s.name)++whT s++obT s++It Avt (s.order.zip s.desc)++Azs s
def okS(s:Stm):Bool:=s.l.all okx&&okW s&&decide (s.desc.length=s.order.length)
def Sz:Sig:=⟨2,[(1,.sv .stmt)],[(0,.ptr 0 0)],[(0,.bld 82)],1,1,0,[],[]⟩
def Tx:Sig:=⟨0,[],[],[(0,.bld 82)],1,1,0,[],[]⟩
abbrev Adi:=Stm×List UInt8
abbrev Bx:=List UInt8
def Te:Sig:=⟨20,[(7,.int .i64),(8,.int .i64)],[(0,.ptr 0 0),(2,.fn 107 [.ptr 1 0,.ptr 2 0])],[(0,.bld 82),(1,.fx [.ptr 0 0]),(2,.one (.sv .stmt))],80,80,600,[],[]⟩
abbrev Ft:=Int×Int×List UInt8×Stm
def F6{R:Type}(rec:Ft→Option R) (kx:Ex→Ft→Option R) (v:Ft):Option R:=match v with
 |(v6,v7,w2,w3) =>
 cond (decide (v7<v6)) (
  let j1:=fun(q3:List UInt8) =>
  chk (inb v7 w3.order.length) (
   (Ay ([(at' .str w3.order v7)],q3)).bind fun x8 =>
   chk (inb v7 w3.desc.length) (
    cond ((at' .bool w3.desc v7)) (
    (Ay ([[32,68,69,83,67]],x8)).bind fun x9 =>
     rec (v6,(wr .i64 (v7+1)),x9,w3)) (
    rec (v6,(wr .i64 (v7+1)),x8,w3))))
  cond (decide (0<v7)) (
  (Ay ([[44,32]],w2)).bind fun x7 =>
   j1 x7) (
  j1 w2)) (
  kx (.exit 0) (v6,v7,w2,w3))
def S8:Sig:=⟨20,[(7,.int .i64),(8,.int .i64)],[(0,.ptr 0 0),(2,.fn 106 [.ptr 1 0,.ptr 2 0])],[(0,.bld 82),(1,.fx [.ptr 0 0]),(2,.one (.sv .stmt))],80,80,400,[],[]⟩
abbrev Fy:=Int×Int×List UInt8×Stm
def Jq{R:Type}(rec:Fy→Option R) (kx:Ex→Fy→Option R) (v:Fy):Option R:=match v with
 |(v,v1,w,w1) =>
 cond (decide (v1<v)) (
  let j:=fun(q1:List UInt8) =>
  chk (inb v1 w1.l.length) (
   (E0 ((at' .expr w1.l v1),q1)).bind fun x3 =>
   rec (v,(wr .i64 (v1+1)),x3,w1))
  cond (decide (0<v1)) (
  (Ay ([[44,32]],w)).bind fun x2 =>
   j x2) (
  j w)) (
  kx (.exit 0) (v,v1,w,w1))
def Ir(R:Type) (_k:Nat):Px R:=⟨A7 ttL,glT,Aq [(40,Ao Fb E4 E0)],Ak [],Av [],tbl []⟩
noncomputable def F5 (R:Type) (k:Nat):Px R:=⟨A7 ttL,glT,Aq [(49,Ao Ca B9 Ay),(106,Bb 120 600 (Ir R k) Tryz.f106)],Ak [],Av [(1,Bc k S8 (Jq))],tbl []⟩
def H7(R:Type) (_k:Nat):Px R:=⟨A7 ttL,glT,Aq [(49,Ao Ca B9 Ay)],Ak [],Av [],tbl []⟩
noncomputable def F3 (R:Type) (k:Nat):Px R:=⟨A7 ttL,glT,Aq [(49,Ao Ca B9 Ay),(107,Bb 120 800 (H7 R k) Tryz.f107)],Ak [],Av [(1,Bc k Te (F6))],tbl []⟩
noncomputable def Ms (R:Type) (k:Nat):Px R:=⟨A7 ttL,glT,Aq [(49,Ao Ca B9 Ay),(55,Ao Pu Q6 Ia),(51,Aej 80 400 (F5 R k) Tryz.f51 (Bb 80 600 (F3 R k) Tryz.f51))],Ak [(98,Ac2 [.sv .val] [.str] Ab7)],Av [],tbl []⟩
theorem Am7(R:Type) (k:Nat):∀(fr:List Fr) (rec:Fy→Option R) (kx:Ex→Fy→Option R) (v:Fy),Bn (F5 R k) S8 (lp Tryz.f51 0) fr rec kx v=Jq rec kx v
 |fr,rec,kx,(v,v1,w,w1)=>by kernel_rfl
theorem Amv(R:Type) (k:Nat):∀(fr:List Fr) (rec:Ft→Option R) (kx:Ex→Ft→Option R) (v:Ft),Bn (F3 R k) Te (lp Tryz.f51 0) fr rec kx v=F6 rec kx v
 |fr,rec,kx,(v6,v7,w2,w3)=>by kernel_rfl
def Lj(k:Nat) (x:Adi):Option (Bx):=match x with
 |(s,out) =>
 (Ay ([[83,69,76,69,67,84,32]],out)).bind fun x =>
  let j3:=fun(q:List UInt8) =>
  A5 (fun rec=>Jq rec (fun e vz=>match vz with|(_,_,v4,v5)=>match e with
   |.exit 0 =>
   (Ay ([[32,70,82,79,77,32],v5.name],v4)).bind fun x4 =>
    (Ia (v5,x4)).bind fun x5 =>
    let j2:=fun(q2:List UInt8) =>
     A5 (fun rec=>F6 rec (fun e vz=>match vz with|(_,_,v10,v11)=>match e with
     |.exit 0 =>
      cond (decide (0≤v11.most)) (
      (Ay ([[32,76,73,77,73,84,32],(B6 (Val.mk 3 v11.most []))],v10)).bind fun x10 =>
       some x10) (
      some v10)
     |_=>none)) k ((v5.order.length:Int),0,q2,v5)
    cond (decide (0<(v5.order.length:Int))) (
     (Ay ([[32,79,82,68,69,82,32,66,89,32]],x5)).bind fun x6 =>
     j2 x6) (
     j2 x5)
   |_=>none)) k ((s.l.length:Int),0,q,s)
  cond (decide ((s.l.length:Int)=0)) (
  (Ay ([[42]],x)).bind fun x1 =>
   j3 x1) (
  j3 x)
theorem Aup(k:Nat):∀(x:Adi),C2 (Ms _ k) Tryz.f56 Sz Tx x some=Lj k x
 |(s,out)=>by kernel_rfl
theorem Apa(k:Nat):FnLn Tryz.prog elT glT 56 Sz Tx (Lj k):=by
 refine Bk Tryz.func56 rfl (by kernel_rfl) follows (by kernel_rfl) (n:=0) (by kernel_rfl) (px:=Ms _ k) (fun cx hP hel hgl =>?_) (Aup k)
 have hp2:PxOk cx (Ir (Bx) k):=⟨fun t=>by rw [hP,hel];exact Au Al t,by rw [hgl];rfl⟩
 have hc2:Aj cx (Ir (Bx) k):=Ah rfl (Aa (A3 (by rw [hP,hel,hgl];exact Qx) (by kernel_rfl)) Ai)
 have hq2:CallQOk cx (Ir (Bx) k):=Ab rfl rfl Af Ae
 have hp1:PxOk cx (F5 (Bx) k):=⟨fun t=>by rw [hP,hel];exact Au Al t,by rw [hgl];rfl⟩
 have hc1:Aj cx (F5 (Bx) k):=Ah rfl (Aa (A3 (by rw [hP,hel,hgl];exact Ct) (by kernel_rfl)) (Aa (Bm hp2 hc2 hq2 (by rw [hP];exact follows) (by rw [hP];exact Tryz.func106) rfl (by kernel_rfl) (by kernel_rfl) (n:=0) (by kernel_rfl) (Aw)) Ai))
 have hq1:CallQOk cx (F5 (Bx) k):=Ab rfl rfl Af Ae
 have hlwchosen_0:A6 cx (F5 (Bx) k) (lp Tryz.f51 0):=A8 hp1 hc1 hq1 (by rw [hP];exact follows) (k:=k) (s:=S8) (step:=Jq) (fun _ _=>by kernel_rfl) (by kernel_rfl) (Am7 _ k) (A0 (n:=0) (by kernel_rfl) Aw)
 have hp4:PxOk cx (H7 (Bx) k):=⟨fun t=>by rw [hP,hel];exact Au Al t,by rw [hgl];rfl⟩
 have hc4:Aj cx (H7 (Bx) k):=Ah rfl (Aa (A3 (by rw [hP,hel,hgl];exact Ct) (by kernel_rfl)) Ai)
 have hq4:CallQOk cx (H7 (Bx) k):=Ab rfl rfl Af Ae
 have hp3:PxOk cx (F3 (Bx) k):=⟨fun t=>by rw [hP,hel];exact Au Al t,by rw [hgl];rfl⟩
 have hc3:Aj cx (F3 (Bx) k):=Ah rfl (Aa (A3 (by rw [hP,hel,hgl];exact Ct) (by kernel_rfl)) (Aa (Bm hp4 hc4 hq4 (by rw [hP];exact follows) (by rw [hP];exact Tryz.func107) rfl (by kernel_rfl) (by kernel_rfl) (n:=0) (by kernel_rfl) (Aw)) Ai))
 have hq3:CallQOk cx (F3 (Bx) k):=Ab rfl rfl Af Ae
 have hlwchosen_1:A6 cx (F3 (Bx) k) (lp Tryz.f51 0):=A8 hp3 hc3 hq3 (by rw [hP];exact follows) (k:=k) (s:=Te) (step:=F6) (fun _ _=>by kernel_rfl) (by kernel_rfl) (Amv _ k) (A0 (n:=0) (by kernel_rfl) Aw)
 have hp0:PxOk cx (Ms (Bx) k):=⟨fun t=>by rw [hP,hel];exact Au Al t,by rw [hgl];rfl⟩
 have hc0:Aj cx (Ms (Bx) k):=Ah rfl (Aa (A3 (by rw [hP,hel,hgl];exact Ct) (by kernel_rfl)) (Aa (A3 (by rw [hP,hel,hgl];exact Ak9) (by kernel_rfl)) (Aa (A4k (Bm hp1 hc1 hq1 (by rw [hP];exact follows) (by rw [hP];exact Tryz.func51) rfl (by kernel_rfl) (by kernel_rfl) (n:=1) (by kernel_rfl) ((Cg Aw hlwchosen_0))) (Bm hp3 hc3 hq3 (by rw [hP];exact follows) (by rw [hP];exact Tryz.func51) rfl (by kernel_rfl) (by kernel_rfl) (n:=1) (by kernel_rfl) ((Cg Aw hlwchosen_1)))) Ai)))
 have hq0:CallQOk cx (Ms (Bx) k):=Ab rfl rfl (Ak8 (A7o (by rw [hP,hel,hgl];exact Akd) (by kernel_rfl)) Af) Ae
 exact⟨hp0,hc0,hq0,Aw⟩
def A9t(s:Stm) (out:Str):Option Str:=cond (okS s) (app out (Atp s)) none
def Yo:Adi→Option Bx:=fun x=>A9t x.1 x.2
theorem Ah0{R:Type}{b:Bool}{out t:Str}{c:Str→Option R}(ho:out.length≤100000000000):cond b ((app out t).bind c) (c out)=(app out (cond b t [])).bind c:=by
 cases b with
 |true=>rfl
 |false=>rw [An,An,Agc ho];rfl
theorem A26(k:Nat) (s:Stm) (out:Str) (hb:BdStm s) (h:okS s=true) (hk:Oa s≤k):Lj k (s,out)=app out (Atp s):=by
 simp only [okS,Zb1,Zg1] at h
 obtain⟨⟨h1,h2⟩,h3⟩:=h
 simp only [Oa] at hk
 have hl:=Zg2.1 h1
 have hz:(s.order.zip s.desc).length=s.order.length:=by rw [List.length_zip];omega
 have hend:∀x:Str,x.length≤100000000000→cond (decide (0≤s.most)) (app x ([32,76,73,77,73,84,32]++B6 ⟨3,s.most,[]⟩)) (some x)=app x (Azs s):=fun x hx=>by
  simp only [Azs]
  cases decide (0≤s.most) with
  |true=>rfl
  |false=>rw [An,An,Agc hx]
 have hord:∀(kx:Ex→Ft→Option Bx),(∀acc,kx (.exit 0) ((s.order.length:Int),(s.order.length:Int),acc,s)=cond (decide (0≤s.most)) (app acc ([32,76,73,77,73,84,32]++B6 ⟨3,s.most,[]⟩)) (some acc))→∀x:Str,x.length≤100000000000 →
   A5 (fun rec=>F6 rec kx) k ((s.order.length:Int),0,x,s)=(app x (It Avt (s.order.zip s.desc))).bind fun x=>app x (Azs s):=fun kx hkx x hx=>by
  refine(L4 (s.order.zip s.desc) Avt (fun i acc=>((s.order.length:Int),(i:Int),acc,s)) (fun acc=>cond (decide (0≤s.most)) (app acc ([32,76,73,77,73,84,32]++B6 ⟨3,s.most,[]⟩)) (some acc)) (fun i hi acc rec =>?_) (fun acc rec =>?_) k (by omega) x hx).trans (C3 hend)
  ·have hi1:i<s.order.length:=by omega
   have hi2:i<s.desc.length:=by omega
   have hg:(s.order.zip s.desc)[i]=(s.order[i],s.desc[i]):=by simp
   simp only [F6,H1 hi1,Am,Bp hi1,Bp hi2,chk,Bq (c :=.str) hi1,Bq (c :=.bool) hi2,Bg hi1 hb.order.1,ww,fl1,hg]
   have hitem:∀q:Str,((app q s.order[i]).bind fun x8=>cond s.desc[i] ((app x8 [32,68,69,83,67]).bind fun x9=>rec ((s.order.length:Int),((i+1:Nat):Int),x9,s)) (rec ((s.order.length:Int),((i+1:Nat):Int),x8,s)))=(app q (Avt (s.order[i],s.desc[i]))).bind fun x=>rec ((s.order.length:Int),((i+1:Nat):Int),x,s):=fun q=>by
    simp only [Avt]
    rw [←C1]
    exact C3 fun x hx=>Ah0 hx
   simp only [hitem]
   exact Q9 i acc _ _
  ·rw [hz]
   simp only [F6,H0,An,hkx]
 simp only [Lj,ww,fl1,fl2]
 have hsel:∀(kx:Ex→Fy→Option Bx),(∀acc:Str,acc.length≤100000000000→kx (.exit 0) ((s.l.length:Int),(s.l.length:Int),acc,s)=app acc (([32,70,82,79,77,32]++s.name)++whT s++obT s++It Avt (s.order.zip s.desc)++Azs s))→∀x:Str,x.length≤100000000000 →
   A5 (fun rec=>Jq rec kx) k ((s.l.length:Int),0,x,s)=app x (It etx s.l++(([32,70,82,79,77,32]++s.name)++whT s++obT s++It Avt (s.order.zip s.desc)++Azs s)):=fun kx hkx x hx=>by
  refine(L4 s.l etx (fun i acc=>((s.l.length:Int),(i:Int),acc,s)) (fun acc=>kx (.exit 0) ((s.l.length:Int),(s.l.length:Int),acc,s)) (fun i hi acc rec =>?_) (fun acc rec =>?_) k (by omega) x hx).trans ((C3 hkx).trans (H6 _ _ _))
  ·simp only [Jq,H1 hi,Am,Bp hi,chk,Bq (c :=.expr) hi,we (hl _ (List.getElem_mem hi)),Bg hi hb.l.1,ww,fl1]
   exact Q9 i acc _ _
  ·simp only [Jq,H0,An]
 refine(C3 fun x hx=>(Ah0 hx).trans (C3 fun q hq=>hsel _ (fun acc ha =>?_) q hq)).trans ?_
 ·show((app acc ([32,70,82,79,77,32]++s.name)).bind fun x4=>(Ia (s,x4)).bind fun x5=>cond (decide (0<(s.order.length:Int))) ((app x5 [32,79,82,68,69,82,32,66,89,32]).bind fun x6=>A5 (fun rec=>F6 rec _) k ((s.order.length:Int),0,x6,s)) (A5 (fun rec=>F6 rec _) k ((s.order.length:Int),0,x5,s)))=_
  simp only [wh h2]
  rw [C1]
  refine(C3 fun x5 hx5=>(Ah0 hx5).trans (C3 fun y hy=>hord _ (fun _ =>?_) y hy)).trans ?_
  ·simp only [Iq,B6]
  ·simp only [H6,obT,Zj1]
 ·simp only [H6,Atp,Zj1]
theorem Avg:FnLn Tryz.prog elT glT 56 Sz Tx Yo :=.fin 0 Apa fun(s,out) r hb hx=>⟨Oa s,by
 have hx:cond (okS s) (app out (Atp s)) none=some r:=hx
 cases ho:okS s with
 |false=>rw [ho] at hx;cases hx
 |true =>
  rw [ho] at hx
  exact(A26 (Oa s) s out hb.1 ho (Zn1 _)).trans hx⟩
theorem ws{s:Stm}(h:okS s=true) (out:Str):Yo (s,out)=app out (Atp s):=by
 show cond (okS s) _ _=_
 rw [h]
 rfl
def A6m(r:List Xpr):Str:=[40]++(It etx r++[41])
def Bb6(x:SetE):Str:=x.name++[32,61,32]++etx x.e
def U6(s:Stm):Str :=
 if s.kind=1 then V8 s
 else if s.kind=2 then [68,82,79,80,32,84,65,66,76,69,32]++s.name
 else if s.kind=3 then [67,82,69,65,84,69,32,73,78,68,69,88,32]++(s.name++([32,79,78,32]++(s.on++[32])))++nmT s.names
 else if s.kind=4 then [68,82,79,80,32,73,78,68,69,88,32]++s.name
 else if s.kind=5 then [73,78,83,69,82,84,32,73,78,84,79,32]++(s.name++[32,86,65,76,85,69,83,32])++It A6m s.rows
 else if s.kind=6 then [85,80,68,65,84,69,32]++(s.name++[32,83,69,84,32])++It Bb6 s.sets++whT s
 else if s.kind=7 then [68,69,76,69,84,69,32,70,82,79,77,32]++s.name++whT s
 else Atp s
def okP(s:Stm):Bool :=
 if s.kind=1 then okT s
 else if s.kind=2∨s.kind=4 then true
 else if s.kind=3 then Amk s.names
 else if s.kind=5 then s.rows.all fun r=>r.all okx
 else if s.kind=6 then s.sets.all (fun x=>okx x.e)&&okW s
 else if s.kind=7 then okW s
 else decide (s.kind=8)&&okS s
def Vf:Sig:=⟨20,[(7,.int .i64),(8,.int .i64)],[(0,.ptr 1 0),(2,.fn 54 [.ptr 1 0,.ptr 0 0])],[(0,.one (.sv .stmt)),(1,.bld 82)],40,40,200,[],[]⟩
abbrev G1:=Int×Int×Stm×List UInt8
def Ng{R:Type}(rec:G1→Option R) (kx:Ex→G1→Option R) (v:G1):Option R:=match v with
 |(v13,v14,w5,w6) =>
 cond (decide (v14<v13)) (
  let j2:=fun(q2:List UInt8) =>
  chk (inb v14 w5.sets.length) (
   (Ay ([((at' .set w5.sets v14).name),[32,61,32]],q2)).bind fun x14 =>
   chk (inb v14 w5.sets.length) (
    (E0 ((Ut ((at' .set w5.sets v14).e)),x14)).bind fun x15 =>
    rec (v13,(wr .i64 (v14+1)),w5,x15)))
  cond (decide (0<v14)) (
  (Ay ([[44,32]],w6)).bind fun x13 =>
   j2 x13) (
  j2 w6)) (
  kx (.exit 0) (v13,v14,w5,w6))
def Wi:Sig:=⟨20,[(7,.int .i64),(8,.int .i64)],[(0,.ptr 1 0),(2,.fn 53 [.ptr 1 0,.ptr 0 0,.ptr 80 0])],[(0,.one (.sv .stmt)),(1,.bld 82),(80,.cells [.int .i64])],120,120,600,[],[]⟩
abbrev Gp:=Int×Int×Stm×List UInt8×Int
def Kw{R:Type}(rec:Gp→Option R) (kx:Ex→Gp→Option R) (v:Gp):Option R:=match v with
 |(v2,v3,w2,w3,w4) =>
 cond (decide (v3<v2)) (
  let j:=fun(q1:List UInt8) =>
  chk (inb w4 w2.rows.length) (
   chk (inb v3 ((at' .exprs w2.rows w4).length)) (
   (E0 ((at' .expr (at' .exprs w2.rows w4) v3),q1)).bind fun x10 =>
    rec (v2,(wr .i64 (v3+1)),w2,x10,w4)))
  cond (decide (0<v3)) (
  (Ay ([[44,32]],w3)).bind fun x9 =>
   j x9) (
  j w3)) (
  kx (.exit 0) (v2,v3,w2,w3,w4))
def U8:Sig:=⟨20,[(7,.int .i64),(8,.int .i64)],[(0,.ptr 1 0),(2,.fn 52 [.ptr 1 0,.ptr 0 0])],[(0,.one (.sv .stmt)),(1,.bld 82)],40,40,200,[],[]⟩
abbrev Gs:=Int×Int×Stm×List UInt8
def Mn{R:Type}(k:Nat) (rec:Gs→Option R) (kx:Ex→Gs→Option R) (v:Gs):Option R:=match v with
 |(v,v1,w,w1) =>
 cond (decide (v1<v)) (
  let j1:=fun(q:List UInt8) =>
  (Ay ([[40]],q)).bind fun x8 =>
   chk (inb v1 w.rows.length) (
   A5 (fun rc=>Kw rc (fun e vz=>match vz with|(_,_,v6,v7,_)=>match e with
    |.exit 0 =>
    (Ay ([[41]],v7)).bind fun x11 =>
     rec (v,(wr .i64 (v1+1)),v6,x11)
    |_=>none)) k (((at' .exprs w.rows v1).length:Int),0,w,x8,v1))
  cond (decide (0<v1)) (
  (Ay ([[44,32]],w1)).bind fun x7 =>
   j1 x7) (
  j1 w1)) (
  kx (.exit 0) (v,v1,w,w1))
def Fj(R:Type) (_k:Nat):Px R:=⟨A7 ttL,glT,Aq [(40,Ao Fb E4 E0)],Ak [],Av [],tbl []⟩
noncomputable def D3 (R:Type) (k:Nat):Px R:=⟨A7 ttL,glT,Aq [(49,Ao Ca B9 Ay),(53,Bb 160 800 (Fj R k) Tryz.f53)],Ak [],Av [(1,Bc k Wi (Kw))],tbl []⟩
noncomputable def J3 (R:Type) (k:Nat):Px R:=⟨A7 ttL,glT,Aq [(49,Ao Ca B9 Ay),(51,Bb 120 600 (D3 R k) Tryz.f51)],Ak [],Av [],tbl []⟩
def Ka(R:Type) (_k:Nat):Px R:=⟨A7 ttL,glT,Aq [(49,Ao Ca B9 Ay),(40,Ao Fb E4 E0)],Ak [],Av [],tbl []⟩
noncomputable def Fm (R:Type) (k:Nat):Px R:=⟨A7 ttL,glT,Aq [(49,Ao Ca B9 Ay),(52,Bb 80 400 (J3 R k) Tryz.f52),(54,Bb 80 400 (Ka R k) Tryz.f54)],Ak [],Av [(1,Abg k U8 (Mn k) (Bc k Vf (Ng)))],tbl []⟩
noncomputable def Rf (R:Type) (k:Nat):Px R:=⟨A7 ttL,glT,Aq [(25,As [.sv .stmt] [.int .i64] Ab3),(48,Ao Y5 Yn Ac4),(49,Ao Ca B9 Ay),(50,Ao Pz Rj Rm),(55,Ao Pu Q6 Ia),(56,Ao Sz Tx Yo),(41,Ao bstr_si Af2 Ig),(51,Bb 40 200 (Fm R k) Tryz.f51)],Ak [],Av [],tbl []⟩
theorem Apt(R:Type) (k:Nat):∀(fr:List Fr) (rec:Gp→Option R) (kx:Ex→Gp→Option R) (v:Gp),Bn (D3 R k) Wi (lp Tryz.f51 0) fr rec kx v=Kw rec kx v
 |fr,rec,kx,(v2,v3,w2,w3,w4)=>by kernel_rfl
theorem Ar1(R:Type) (k:Nat):∀(fr:List Fr) (rec:Gs→Option R) (kx:Ex→Gs→Option R) (v:Gs),Bn (Fm R k) U8 (lp Tryz.f51 0) fr rec kx v=Mn k rec kx v
 |fr,rec,kx,(v,v1,w,w1)=>by kernel_rfl
theorem Apw(R:Type) (k:Nat):∀(fr:List Fr) (rec:G1→Option R) (kx:Ex→G1→Option R) (v:G1),Bn (Fm R k) Vf (lp Tryz.f51 0) fr rec kx v=Ng rec kx v
 |fr,rec,kx,(v13,v14,w5,w6)=>by kernel_rfl
def Ki(k:Nat) (x:HV [.sv .stmt]):Option (HV [.str,.int .i64]):=match x with
 |s =>
 (Uv s).bind fun x =>
  cond (!decide (x=0)) (
  some ([],x)) (
  cond (decide (s.kind=1)) (
   (Ac4 (s,[])).bind fun x1 =>
   (Ig x1).bind fun x21 =>
    some (x21,0)) (
   cond (decide (s.kind=2)) (
   (Ay ([[68,82,79,80,32,84,65,66,76,69,32],s.name],[])).bind fun x2 =>
    (Ig x2).bind fun x22 =>
    some (x22,0)) (
   cond (decide (s.kind=3)) (
    (Ay ([[67,82,69,65,84,69,32,73,78,68,69,88,32],s.name,[32,79,78,32],s.on,[32]],[])).bind fun x3 =>
    (Rm (s.names,x3)).bind fun x4 =>
     (Ig x4).bind fun x23 =>
     some (x23,0)) (
    cond (decide (s.kind=4)) (
    (Ay ([[68,82,79,80,32,73,78,68,69,88,32],s.name],[])).bind fun x5 =>
     (Ig x5).bind fun x24 =>
     some (x24,0)) (
    cond (decide (s.kind=5)) (
     (Ay ([[73,78,83,69,82,84,32,73,78,84,79,32],s.name,[32,86,65,76,85,69,83,32]],[])).bind fun x6 =>
     A5 (fun rec=>Mn k rec (fun e vz=>match vz with|(_,_,_,v12)=>match e with
      |.exit 0 =>
      (Ig v12).bind fun x25 =>
       some (x25,0)
      |_=>none)) k ((s.rows.length:Int),0,s,x6)) (
     cond (decide (s.kind=6)) (
     (Ay ([[85,80,68,65,84,69,32],s.name,[32,83,69,84,32]],[])).bind fun x12 =>
      A5 (fun rec=>Ng rec (fun e vz=>match vz with|(_,_,v17,v18)=>match e with
      |.exit 0 =>
       (Ia (v17,v18)).bind fun x16 =>
       (Ig x16).bind fun x26 =>
        some (x26,0)
      |_=>none)) k ((s.sets.length:Int),0,s,x12)) (
     cond (decide (s.kind=7)) (
      (Ay ([[68,69,76,69,84,69,32,70,82,79,77,32],s.name],[])).bind fun x17 =>
      (Ia (s,x17)).bind fun x18 =>
       (Ig x18).bind fun x27 =>
       some (x27,0)) (
      cond (decide (s.kind=8)) (
      (Yo (s,[])).bind fun x19 =>
       (Ig x19).bind fun x28 =>
       some (x28,0)) (
      (Ig []).bind fun x29 =>
       some (x29,0))))))))))
theorem A13(k:Nat):∀(x:HV [.sv .stmt]),Ci (Rf _ k) Tryz.f23 [.sv .stmt] [.str,.int .i64] x some=Ki k x
 |s=>by kernel_rfl
theorem Avz(k:Nat):FnOk Tryz.prog elT glT 23 [.sv .stmt] [.str,.int .i64] (Ki k):=by
 refine A1 Tryz.func23 rfl (by kernel_rfl) follows (by kernel_rfl) (n:=0) (by kernel_rfl) (px:=Rf _ k) (fun cx hP hel hgl =>?_) (A13 k)
 have hp4:PxOk cx (Fj (HV [.str,.int .i64]) k):=⟨fun t=>by rw [hP,hel];exact Au Al t,by rw [hgl];rfl⟩
 have hc4:Aj cx (Fj (HV [.str,.int .i64]) k):=Ah rfl (Aa (A3 (by rw [hP,hel,hgl];exact Qx) (by kernel_rfl)) Ai)
 have hq4:CallQOk cx (Fj (HV [.str,.int .i64]) k):=Ab rfl rfl Af Ae
 have hp3:PxOk cx (D3 (HV [.str,.int .i64]) k):=⟨fun t=>by rw [hP,hel];exact Au Al t,by rw [hgl];rfl⟩
 have hc3:Aj cx (D3 (HV [.str,.int .i64]) k):=Ah rfl (Aa (A3 (by rw [hP,hel,hgl];exact Ct) (by kernel_rfl)) (Aa (Bm hp4 hc4 hq4 (by rw [hP];exact follows) (by rw [hP];exact Tryz.func53) rfl (by kernel_rfl) (by kernel_rfl) (n:=0) (by kernel_rfl) (Aw)) Ai))
 have hq3:CallQOk cx (D3 (HV [.str,.int .i64]) k):=Ab rfl rfl Af Ae
 have hlaprint_1:A6 cx (D3 (HV [.str,.int .i64]) k) (lp Tryz.f51 0):=A8 hp3 hc3 hq3 (by rw [hP];exact follows) (k:=k) (s:=Wi) (step:=Kw) (fun _ _=>by kernel_rfl) (by kernel_rfl) (Apt _ k) (A0 (n:=0) (by kernel_rfl) Aw)
 have hp2:PxOk cx (J3 (HV [.str,.int .i64]) k):=⟨fun t=>by rw [hP,hel];exact Au Al t,by rw [hgl];rfl⟩
 have hc2:Aj cx (J3 (HV [.str,.int .i64]) k):=Ah rfl (Aa (A3 (by rw [hP,hel,hgl];exact Ct) (by kernel_rfl)) (Aa (Bm hp3 hc3 hq3 (by rw [hP];exact follows) (by rw [hP];exact Tryz.func51) rfl (by kernel_rfl) (by kernel_rfl) (n:=1) (by kernel_rfl) ((Cg Aw hlaprint_1))) Ai))
 have hq2:CallQOk cx (J3 (HV [.str,.int .i64]) k):=Ab rfl rfl Af Ae
 have hp5:PxOk cx (Ka (HV [.str,.int .i64]) k):=⟨fun t=>by rw [hP,hel];exact Au Al t,by rw [hgl];rfl⟩
 have hc5:Aj cx (Ka (HV [.str,.int .i64]) k):=Ah rfl (Aa (A3 (by rw [hP,hel,hgl];exact Ct) (by kernel_rfl)) (Aa (A3 (by rw [hP,hel,hgl];exact Qx) (by kernel_rfl)) Ai))
 have hq5:CallQOk cx (Ka (HV [.str,.int .i64]) k):=Ab rfl rfl Af Ae
 have hp1:PxOk cx (Fm (HV [.str,.int .i64]) k):=⟨fun t=>by rw [hP,hel];exact Au Al t,by rw [hgl];rfl⟩
 have hc1:Aj cx (Fm (HV [.str,.int .i64]) k):=Ah rfl (Aa (A3 (by rw [hP,hel,hgl];exact Ct) (by kernel_rfl)) (Aa (Bm hp2 hc2 hq2 (by rw [hP];exact follows) (by rw [hP];exact Tryz.func52) rfl (by kernel_rfl) (by kernel_rfl) (n:=0) (by kernel_rfl) (Aw)) (Aa (Bm hp5 hc5 hq5 (by rw [hP];exact follows) (by rw [hP];exact Tryz.func54) rfl (by kernel_rfl) (by kernel_rfl) (n:=0) (by kernel_rfl) (Aw)) Ai)))
 have hq1:CallQOk cx (Fm (HV [.str,.int .i64]) k):=Ab rfl rfl Af Ae
 have hlaprint_0:A6 cx (Fm (HV [.str,.int .i64]) k) (lp Tryz.f51 0):=Awl (fun _ _=>by kernel_rfl) (Ac8 (Wd hp1 hc1 hq1 (by rw [hP];exact follows) (k:=k) (s:=U8) (step:=Mn k) (by kernel_rfl) (Ar1 _ k) (A0 (n:=0) (by kernel_rfl) Aw)) (Wd hp1 hc1 hq1 (by rw [hP];exact follows) (k:=k) (s:=Vf) (step:=Ng) (by kernel_rfl) (Apw _ k) (A0 (n:=0) (by kernel_rfl) Aw)))
 have hp0:PxOk cx (Rf (HV [.str,.int .i64]) k):=⟨fun t=>by rw [hP,hel];exact Au Al t,by rw [hgl];rfl⟩
 have hc0:Aj cx (Rf (HV [.str,.int .i64]) k):=Ah rfl (Aa (A4 (by rw [hP,hel,hgl];exact Aln) (by kernel_rfl)) (Aa (A3 (by rw [hP,hel,hgl];exact Az6) (by kernel_rfl)) (Aa (A3 (by rw [hP,hel,hgl];exact Ct) (by kernel_rfl)) (Aa (A3 (by rw [hP,hel,hgl];exact Aky) (by kernel_rfl)) (Aa (A3 (by rw [hP,hel,hgl];exact Ak9) (by kernel_rfl)) (Aa (A3 (by rw [hP,hel,hgl];exact Avg) (by kernel_rfl)) (Aa (A3 (by rw [hP,hel,hgl];exact Aww) (by kernel_rfl)) (Aa (Bm hp1 hc1 hq1 (by rw [hP];exact follows) (by rw [hP];exact Tryz.func51) rfl (by kernel_rfl) (by kernel_rfl) (n:=1) (by kernel_rfl) ((Cg Aw hlaprint_0))) Ai))))))))
 have hq0:CallQOk cx (Rf (HV [.str,.int .i64]) k):=Ab rfl rfl Af Ae
 exact⟨hp0,hc0,hq0,Aw⟩
def Am9(s:Stm):Option (Str×Int):=(Uv s).bind fun x=>cond (!decide (x=0)) (some ([],x)) (cond (okP s) ((app [] (U6 s)).bind fun t=>some (t,0)) none)
def Ar4:FT [.sv .stmt] [.str,.int .i64]:=fun x=>Am9 x
theorem Aj8{R:Type}{kx:Ex→Gp→Option R}{s:Stm}{j:Nat}{c:Str→Option R}(hj:j<s.rows.length) (hn:ln s.rows[j].length) (hok:s.rows[j].all okx=true) (h2:∀acc,kx (.exit 0) ((s.rows[j].length:Int),(s.rows[j].length:Int),s,acc,(j:Int))=c acc) (k:Nat) (hk:s.rows[j].length<k) (out:Str) (ho:out.length≤100000000000) :
  A5 (fun rec=>Kw rec kx) k ((s.rows[j].length:Int),0,s,out,(j:Int))=(app out (It etx s.rows[j])).bind c:=by
 have hl:=Zg2.1 hok
 refine L4 s.rows[j] etx (fun i acc=>((s.rows[j].length:Int),(i:Int),s,acc,(j:Int))) c (fun i hi acc rec =>?_) (fun acc rec =>?_) k hk out ho
 ·simp only [Kw,H1 hi,Am,Bp hi,Bp hj,chk,Bq (c :=.exprs) hj,Bq (c :=.expr) hi,we (hl _ (List.getElem_mem hi)),Bg hi hn,ww,fl1]
  exact Q9 i acc _ _
 ·simp only [Kw,H0,An,h2]
theorem Aj5{R:Type}{kx:Ex→Gs→Option R}{s:Stm}{c:Str→Option R}(hb:BdStm s) (hok:(s.rows.all fun r=>r.all okx)=true) (h2:∀acc,kx (.exit 0) ((s.rows.length:Int),(s.rows.length:Int),s,acc)=c acc) (k:Nat) (hk:Oa s≤k) (out:Str) (ho:out.length≤100000000000) :
  A5 (fun rec=>Mn k rec kx) k ((s.rows.length:Int),0,s,out)=(app out (It A6m s.rows)).bind c:=by
 have hl:=Zg2.1 hok
 simp only [Oa] at hk
 refine L4 s.rows A6m (fun i acc=>((s.rows.length:Int),(i:Int),s,acc)) c (fun i hi acc rec =>?_) (fun acc rec =>?_) k (by omega) out ho
 ·have hm:=Ayl (List.getElem_mem hi)
  have hrow:∀q:Str,((app q [40]).bind fun x8=>A5 (fun rc=>Kw rc (fun e v=>match v with
    |(_,_,v6,v7,_)=>match e with
     |.exit 0=>(app v7 [41]).bind fun x11=>rec ((s.rows.length:Int),((i+1:Nat):Int),v6,x11)
     |_=>none)) k ((s.rows[i].length:Int),0,s,x8,(i:Int)))=(app q (A6m s.rows[i])).bind fun x=>rec ((s.rows.length:Int),((i+1:Nat):Int),s,x):=fun q=>by
   refine(C3 fun x hx=>Aj8 (c:=fun acc=>(app acc [41]).bind fun x11=>rec ((s.rows.length:Int),((i+1:Nat):Int),s,x11)) hi (hb.rows.2 _ (List.getElem_mem hi)).1 (hl _ (List.getElem_mem hi)) (fun _=>rfl) k (by omega) x hx).trans ?_
   simp only [C1,A6m]
  simp only [Mn,H1 hi,Am,Bp hi,chk,Bq (c :=.exprs) hi,Bg hi hb.rows.1,ww,fl1]
  refine Eq.trans ?_ (Q9 i acc _ _)
  have e:∀(b:Bool) (x y x' y':Option R),x=x'→y=y'→cond b x y=cond b x' y':=fun _ _ _ _ _ h1 h2=>by rw [h1,h2]
  exact e _ _ _ _ _ (C3 fun x _=>hrow x) (hrow acc)
 ·simp only [Mn,H0,An,h2]
theorem Ajt{R:Type}{kx:Ex→G1→Option R}{s:Stm}{c:Str→Option R}(hb:BdStm s) (hok:(s.sets.all fun x=>okx x.e)=true) (h2:∀acc,kx (.exit 0) ((s.sets.length:Int),(s.sets.length:Int),s,acc)=c acc) (k:Nat) (hk:s.sets.length<k) (out:Str) (ho:out.length≤100000000000) :
  A5 (fun rec=>Ng rec kx) k ((s.sets.length:Int),0,s,out)=(app out (It Bb6 s.sets)).bind c:=by
 have hl:=Zg2.1 hok
 refine L4 s.sets Bb6 (fun i acc=>((s.sets.length:Int),(i:Int),s,acc)) c (fun i hi acc rec =>?_) (fun acc rec =>?_) k hk out ho
 ·simp only [Ng,H1 hi,Am,Bp hi,chk,Bq (c :=.set) hi,Ym,we (hl _ (List.getElem_mem hi)),Bg hi hb.sets.1,ww,fl1,fl2]
  have hitem:∀q:Str,((app q (s.sets[i].name++[32,61,32])).bind fun x14=>(app x14 (etx s.sets[i].e)).bind fun x15=>rec ((s.sets.length:Int),((i+1:Nat):Int),s,x15))=(app q (Bb6 s.sets[i])).bind fun x=>rec ((s.sets.length:Int),((i+1:Nat):Int),s,x):=fun q=>by
   rw [C1]
   rfl
  simp only [hitem]
  exact Q9 i acc _ _
 ·simp only [Ng,H0,An,h2]
theorem bs(x:Str):((Ig x).bind fun t=>some (t,(0:Int)))=some (x,0):=rfl
theorem A7t(k:Nat) (s:Stm) (hb:BdStm s) (hk:Oa s≤k) (h:okP s=true) (hc:Uv s=some 0):Ki k s=((app [] (U6 s)).bind fun t=>some (t,0)):=by
 have hk2:=hk
 simp only [Oa] at hk2
 simp only [Ki,hc,Zc1,bs,ww,fl2,fl3,fl5]
 simp only [okP] at h
 simp only [U6]
 rw [decide_true,Zt1,An]
 by_cases h1:s.kind=1
 ·rw [if_pos h1] at h
  rw [Ze1 h1,if_pos h1,Am,wt h]
 rw [if_neg h1] at h
 rw [Zd1 h1,if_neg h1,An]
 by_cases h2:s.kind=2
 ·rw [Ze1 h2,if_pos h2,Am]
 rw [Zd1 h2,if_neg h2,An]
 by_cases h3:s.kind=3
 ·rw [if_neg (by omega),if_pos h3] at h
  rw [Ze1 h3,if_pos h3,Am]
  simp only [wn h,C1]
 rw [Zd1 h3,if_neg h3,An]
 by_cases h4:s.kind=4
 ·rw [Ze1 h4,if_pos h4,Am]
 rw [if_neg (by omega),if_neg h3] at h
 rw [Zd1 h4,if_neg h4,An]
 by_cases h5:s.kind=5
 ·rw [if_pos h5] at h
  rw [Ze1 h5,if_pos h5,Am]
  refine(C3 fun x hx=>Aj5 (c:=fun t=>some (t,(0:Int))) hb h (fun _=>rfl) k hk x hx).trans ?_
  rw [C1]
 rw [if_neg h5] at h
 rw [Zd1 h5,if_neg h5,An]
 by_cases h6:s.kind=6
 ·rw [if_pos h6,Zb1] at h
  rw [Ze1 h6,if_pos h6,Am]
  refine(C3 fun x hx=>Ajt (c:=fun t=>(app t (whT s)).bind fun t=>some (t,(0:Int))) hb h.1 (fun acc =>?_) k (by omega) x hx).trans ?_
  ·show((Ia (s,acc)).bind fun x16=>some (x16,(0:Int)))=_
   rw [wh h.2]
  ·simp only [C1,Zj1]
 rw [if_neg h6] at h
 rw [Zd1 h6,if_neg h6,An]
 by_cases h7:s.kind=7
 ·rw [if_pos h7] at h
  rw [Ze1 h7,if_pos h7,Am]
  simp only [wh h,C1]
 rw [if_neg h7,Zb1,Zg1] at h
 rw [Zd1 h7,if_neg h7,An,Ze1 h.1,Am,ws h.2]
theorem Azu:FnOk Tryz.prog elT glT 23 [.sv .stmt] [.str,.int .i64] Ar4 :=.fin 0 Avz fun s r hb hx=>⟨Oa s,by
 have hx:Am9 s=some r:=hx
 simp only [Am9] at hx
 cases hc:Uv s with
 |none=>rw [hc] at hx;cases hx
 |some x =>
  rw [hc,Zc1] at hx
  by_cases h0:x=0
  ·subst h0
   cases ho:okP s with
   |false=>rw [ho] at hx;cases hx
   |true =>
    rw [ho] at hx
    exact(A7t (Oa s) s hb (Zn1 _) ho hc).trans hx
  ·rw [Zd1 h0] at hx
   rw [←hx]
   simp only [Ki,hc,Zc1]
   rw [Zd1 h0]
   rfl⟩
end Go.Proofs.YthndhaolemgbdaaGreatDoor
namespace Go.Proofs.YthndhaolemgbdaaGreatDoor
open Go.Ax
open Lp (Dt tw B3 isUp isLo isDi isIn pre Bf rnameF wordF nq qS unGo hexD Un Jw Vd)
def dlm(r:Str):Prop:=∀c t,r=c::t→B3 (c.toNat:Int)=false∧c≠39
theorem Bba:dlm []:=fun _ _ h=>by cases h
theorem Amx{p q:UInt8→Bool}(h:∀b,p b=true→q b=true) {w:Str}(hw:w.all p=true):w.all q=true:=Zg2.2 fun b hb=>h b (Zg2.1 hw b hb)
theorem Af7{p:Int→Bool}{w r:Str}(hw:w.all (fun b=>p b.toNat)=true) (hr:∀c t,r=c::t→p (c.toNat:Int)=false):tw p (w++r)=w:=by
 rw [Lp.tw_app r hr w]
 have h1:=(Lp.tw_full (p:=p) w).2 hw
 have h2:=Lp.tw_take p w
 rw [h1,List.take_length] at h2
 exact h2.symm
theorem Bf2{m:Str}(h:∀a t,m=a::39::t→False):pre m [120,39]=false:=by
 match m,h with
 |[],_=>rfl
 |[a],_=>simp [pre]
 |a::b::t,h =>
  have hb:b≠39:=fun e=>h a t (by rw [e])
  simp [pre,hb]
theorem Big:B3 39=false:=by decide +kernel
theorem Ail{w r:Str}(hne:w≠[]) (hw:w.all (fun b=>B3 b.toNat)=true) (hr:dlm r):pre (w++r) [120,39]=false:=by
 refine Bf2 fun a t h =>?_
 match w,hne,hw,h with
 |[x],_,_,h =>
  simp only [Zb2,Zf2,Ze2] at h
  exact(hr 39 t h.2).2 rfl
 |x::y::w,_,hw,h =>
  simp only [Zb2,Ze2] at h
  obtain⟨_,rfl,_⟩:=h
  simp only [Zv1,Zb1] at hw
  have h2:=hw.2.1
  have e:((39:UInt8).toNat:Int)=39:=rfl
  rw [e,Big] at h2
  cases h2
theorem Bfv{c:Int}(h:isUp c=true):Bf c=1:=by simp [Bf,h]
theorem Ast:∀n:Fin 256,isLo (n.val:Int)=true→Bf (n.val:Int)=2:=by decide +kernel
theorem Bdy{b:UInt8}(h:isLo b.toNat=true):Bf b.toNat=2:=Lp.of256 (p:=fun c=>isLo c=true→Bf c=2) Ast b.toNat (Lp.u8_range b) h
theorem Aef{w r:Str}(h:wordF w=true) (hr:dlm r):Dt (w++r)=some (1,w,0,w.length):=by
 have hu:=Lp.word_up h
 have hne:w≠[]:=by rintro rfl;exact absurd h (by decide +kernel)
 have hw:w.all (fun b=>B3 b.toNat)=true:=Amx (fun b hb=>Lp.up_wd b hb) hu
 have hp:=Ail hne hw hr
 have ht:=Af7 hw (fun c t e=>(hr c t e).1)
 cases w with
 |nil=>exact absurd rfl hne
 |cons c t =>
  simp only [Zv1,Zb1] at hu
  have hc:Bf (Sx.byt (c::t++r) 0)=1:=Bfv hu.1
  unfold Dt
  rw [hp,ht,if_neg (by simp),if_pos hc,if_pos h]
theorem Aur{w:Str}(h:rnameF w=true):∃c t,w=c::t∧isLo c.toNat=true∧w.all (fun b=>isIn b.toNat)=true:=by
 cases w with
 |nil=>cases h
 |cons c t =>
  simp only [rnameF,Lp.okGo_zero,Zb1] at h
  exact⟨c,t,rfl,h.1.1,by simp only [Zv1,Zb1];exact⟨Lp.lo_in h.1.1,h.1.2⟩⟩
theorem A0e{w r:Str}(h:rnameF w=true) (hr:dlm r):Dt (w++r)=some (2,w,0,w.length):=by
 obtain⟨c,t,rfl,h1,h2⟩:=Aur h
 have hw:(c::t).all (fun b=>B3 b.toNat)=true:=Amx (fun b hb=>Lp.in_wd b hb) h2
 have hp:=Ail (by simp) hw hr
 have ht:=Af7 hw (fun c t e=>(hr c t e).1)
 have hc:Bf (Sx.byt (c::t++r) 0)=2:=Bdy h1
 unfold Dt
 rw [hp,ht,if_neg (by simp),if_neg (by rw [hc];decide),if_pos hc,if_pos h]
theorem Agx:∀(a b:Str) (n:Int),Jw (a++b) n=(Jw a n).bind fun m=>Jw b m
 |[],b,n=>rfl
 |c::a,b,n=>by
  simp only [Zb2,Jw]
  split
  ·rfl
  ·exact Agx a b _
theorem Asn{d:Int}(h : 0≤d∧d≤9):((dch d).toNat:Int)=48+d∧isDi ((dch d).toNat:Int)=true:=by
 have e:((dch d).toNat:Int)=48+d:=by
  simp only [dch,UInt8.toNat_ofNat']
  omega
 refine⟨e,?_⟩
 rw [e]
 simp only [isDi,Zb1,Zg1]
 omega
theorem A4o:∀{l:List Int},dg l=true→(txt l).all (fun b=>isDi b.toNat)=true
 |[],_=>rfl
 |d::l,h=>by
  have h:=Agm.1 h
  rw [Vl,List.all_append,A4o h.2]
  simp [(Asn h.1).2]
theorem Ao0:∀{l:List Int},dg l=true→Jw (txt l) 0=if val l≤9223372036854775807 then some (val l) else none
 |[],_=>rfl
 |d::l,h=>by
  have h:=Agm.1 h
  have hv:=A8b h.2
  obtain⟨hd,hdi⟩:=Asn h.1
  have hc:Bf (48+d)=3:=by rw [←hd];exact Lp.cls_di hdi
  rw [Vl,Agx,Ao0 h.2,show val (d::l)=d+10*val l from rfl]
  by_cases h1:val l≤9223372036854775807
  ·rw [if_pos h1]
   simp only [Zc1,Jw,hd,hc]
   by_cases h2:d+10*val l≤9223372036854775807
   ·rw [if_pos h2,if_neg (by omega)]
    congr 1
    omega
   ·rw [if_neg h2,if_pos (by omega)]
  ·rw [if_neg h1,if_neg (by omega)]
   rfl
theorem Ag3:∀(k n:Nat),n≤k→n≠0→Sx.byt (txt (Lh n)) 0≠48∧txt (Lh n)≠[]
 |0,n,h,h0=>absurd (Nat.le_zero.1 h) h0
 |k+1,n,h,h0=>by
  rw [Ry h0,Vl]
  by_cases h1:n / 10=0
  ·rw [h1,Jk]
   have e:Sx.byt (txt []++[dch ((n % 10:Nat):Int)]) 0=((dch ((n % 10:Nat):Int)).toNat:Int):=rfl
   rw [e,(Asn (by omega)).1]
   exact⟨by omega,by simp⟩
  ·obtain⟨h2,h3⟩:=Ag3 k (n / 10) (by omega) h1
   rw [Lp.byt_app h3]
   exact⟨h2,by simp⟩
theorem Az1{n:Nat}(h0:n≠0):Un (txt (Lh n))=if(n:Int)≤9223372036854775807 then(n:Int) else -1:=by
 unfold Un
 rw [Ao0 (Awu n),A7j]
 by_cases h:(n:Int)≤9223372036854775807
 ·rw [if_pos h,if_pos h]
  simp only
  rw [if_neg (fun e=>(Ag3 n n (Zn1 _) h0).1 e.2)]
 ·rw [if_neg h,if_neg h]
def Ur(n:Nat):Str:=if n=0 then [48] else txt (Lh n)
theorem Awm(n:Nat):(Ur n).all (fun b=>isDi b.toNat)=true:=by
 unfold Ur
 split
 ·rfl
 ·exact A4o (Awu n)
theorem Aw8(n:Nat):Ur n≠[]:=by
 unfold Ur
 split
 ·simp
 ·rename_i h;exact(Ag3 n n (Zn1 _) h).2
theorem Aue(n:Nat):Un (Ur n)=if(n:Int)≤9223372036854775807 then(n:Int) else -1:=by
 unfold Ur
 split
 ·rename_i h;subst h;decide +kernel
 ·rename_i h;exact Az1 h
theorem Aye(n:Nat):(Ur n).all (fun b=>B3 b.toNat)=true:=Amx (fun b hb=>Lp.in_wd b (Lp.di_in b hb)) (Awm n)
theorem A7x{n:Nat}{r:Str}(hr:dlm r):Dt (Ur n++r)=if(n:Int)≤9223372036854775807 then some (3,Ur n,(n:Int),(Ur n).length) else none:=by
 have hp:=Ail (Aw8 n) (Aye n) hr
 have ht:=Af7 (Aye n) (fun c t e=>(hr c t e).1)
 have hc:Bf (Sx.byt (Ur n++r) 0)=3:=by
  have h1:=Awm n
  have h2:=Aw8 n
  cases hw:Ur n with
  |nil=>exact absurd hw h2
  |cons c t =>
   rw [hw] at h1
   simp only [Zv1,Zb1] at h1
   exact Lp.cls_di h1.1
 unfold Dt
 rw [hp,ht,if_neg (by simp),if_neg (by rw [hc];decide),if_neg (by rw [hc];decide),if_pos hc,Aue]
 by_cases h:(n:Int)≤9223372036854775807
 ·rw [if_pos h,if_pos h,if_pos (by omega)]
 ·rw [if_neg h,if_neg h,if_neg (by decide)]
theorem A5c{n:Int}(h : 0≤n):At8 n=Ur n.natAbs:=by
 unfold At8 Ur
 rw [if_neg (by omega)]
 by_cases h0:n=0
 ·rw [if_pos h0,if_pos (by omega)]
 ·rw [if_neg h0,if_neg (by omega)]
theorem Auh{r:Str}(hr:∀t,r≠39::t):∀(s acc:Str),qS (quo s++39::r) acc=some (acc++s,(quo s).length+1)
 |[],acc=>by
  cases r with
  |nil=>simp [quo,qS]
  |cons d t =>
   have hd:d≠39:=fun e=>hr t (by rw [e])
   simp [quo,qS,hd]
 |b::s,acc=>by
  by_cases hb:b=39
  ·subst hb
   simp only [quo,if_true,Zb2,qS]
   rw [Auh hr s (acc++[39])]
   simp
  ·have ih:=Auh hr s (acc++[b])
   simp only [quo,if_neg hb,Zb2]
   cases hq:quo s++39::r with
   |nil=>simp at hq
   |cons d t =>
    rw [hq] at ih
    rw [qS,if_neg hb,ih]
    simp
theorem A17{s r:Str}(h:Vd 4 0 s=0) (hr:∀t,r≠39::t):Dt (39::(quo s++[39])++r)=some (4,s,0,(quo s).length+2):=by
 have hp:pre (39::(quo s++[39])++r) [120,39]=false:=by simp [pre]
 have hc:Bf (Sx.byt (39::(quo s++[39])++r) 0)=5:=by
  have e:Sx.byt (39::(quo s++[39])++r) 0=39:=rfl
  rw [e];decide +kernel
 have hd:(39::(quo s++[39])++r).drop 1=quo s++39::r:=by simp
 unfold Dt
 rw [hp,if_neg (by simp),if_neg (by rw [hc];decide),if_neg (by rw [hc];decide),if_neg (by rw [hc];decide),if_pos hc,hd,Auh hr s []]
 simp only [Zf2]
 rw [if_pos h]
theorem A6k:((List.range 256).all fun n=>decide (hexD ((hexL.getD (n / 16) 0).toNat:Int)=some ((n / 16:Nat):Int))&&decide (hexD ((hexL.getD (n % 16) 0).toNat:Int)=some ((n % 16:Nat):Int))&&nq ((hexL.getD (n / 16) 0).toNat:Int)&&nq ((hexL.getD (n % 16) 0).toNat:Int))=true:=by kernel_rfl
theorem Awe(b:UInt8):hexD ((hexL.getD (b.toNat / 16) 0).toNat:Int)=some ((b.toNat / 16:Nat):Int)∧hexD ((hexL.getD (b.toNat % 16) 0).toNat:Int)=some ((b.toNat % 16:Nat):Int)∧nq ((hexL.getD (b.toNat / 16) 0).toNat:Int)=true∧nq ((hexL.getD (b.toNat % 16) 0).toNat:Int)=true:=by
 have h:=Zg2.1 A6k b.toNat (List.mem_range.2 b.toNat_lt)
 simp only [Zb1,Zg1] at h
 exact⟨h.1.1.1,h.1.1.2,h.1.2,h.2⟩
theorem Ahm(b:UInt8) (s:Str):O4 (b::s)=hexL.getD (b.toNat / 16) 0::hexL.getD (b.toNat % 16) 0::O4 s:=rfl
theorem Aly:∀(s acc:Str),unGo (O4 s) acc=some (acc++s)
 |[],acc=>by simp [O4,unGo]
 |b::s,acc=>by
  obtain⟨h1,h2,_,_⟩:=Awe b
  rw [Ahm,unGo,h1,h2]
  simp only
  rw [Aly s]
  have e:(((b.toNat / 16:Nat):Int)*16+((b.toNat % 16:Nat):Int)).toNat=b.toNat:=by omega
  rw [e]
  simp
theorem Ax4:∀s:Str,(O4 s).all (fun b=>nq b.toNat)=true
 |[]=>rfl
 |b::s=>by
  obtain⟨_,_,h1,h2⟩:=Awe b
  rw [Ahm,Zv1,Zv1,h1,h2,Ax4 s]
  rfl
theorem Avp{s r:Str}(h:s.length≤1000):Dt (120::39::(O4 s++[39])++r)=some (5,s,0,(O4 s).length+3):=by
 have hp:pre (120::39::(O4 s++[39])++r) [120,39]=true:=by simp [pre]
 have hd:(120::39::(O4 s++[39])++r).drop 2=O4 s++39::r:=by simp
 have ht:tw nq (O4 s++39::r)=O4 s:=Af7 (Ax4 s) (fun c t e=>by cases e;decide +kernel)
 have hl:=Air s
 unfold Dt
 rw [hp,if_pos rfl,hd,ht,if_neg (by simp only [Zh1,Zf1];omega),if_pos (by omega),Aly]
 simp only [Zf2]
 rw [if_neg (by omega)]
theorem Asb{v:Val}(h:Ch v=true) (hk:v.kind=1):v.n=0∧v.s=[]:=by
 simp [Ch,hk] at h
 by_cases h0:v.n=0
 ·simp [h0] at h;exact⟨h0,h⟩
 ·simp [h0] at h
theorem Afj{v:Val}(h:Ch v=true):v.kind=1∨v.kind=2∨v.kind=3∨v.kind=4∨v.kind=5:=by
 by_cases h1:v.kind=1; · exact .inl h1
 by_cases h2:v.kind=2; · exact .inr (.inl h2)
 by_cases h3:v.kind=3; · exact .inr (.inr (.inl h3))
 by_cases h4:v.kind=4; · exact .inr (.inr (.inr (.inl h4)))
 by_cases h5:v.kind=5; · exact .inr (.inr (.inr (.inr h5)))
 simp [Ch,h1,h2,h3,h4,h5] at h
theorem Ayt(x:Str):J2 x=Lp.visF x:=by
 have e:∀b:UInt8,vis b=Lp.vis (b.toNat:Int):=fun b=>by
  simp only [vis,Lp.vis]
  rw [show decide (32≤b.toNat)=decide (32≤(b.toNat:Int)) from Zy1.2 (by omega),show decide (b.toNat≤126)=decide ((b.toNat:Int)≤126) from Zy1.2 (by omega)]
 simp only [J2,Lp.visF]
 congr 1
 funext b
 exact e b
theorem A6w(x:Str):Ch (Val.mk 4 0 x)=Lp.rightF 4 0 x:=by
 show cond (decide ((x.length:Int)≤1000)) (J2 x) false=(decide ((x.length:Int)≤1000)&&Lp.visF x)
 rw [Ayt]
 cases decide ((x.length:Int)≤1000)<;>rfl
theorem Afr{v:Val}(h:Ch v=true) (hk:v.kind=4):Vd 4 0 v.s=0∧v.n=0:=by
 have hn:v.n=0:=by
  by_cases h0:v.n=0
  ·exact h0
  ·simp [Ch,hk,h0] at h
 have e:v=Val.mk 4 0 v.s:=by cases v;simp only at hk hn;subst hk hn;rfl
 have h2:=A6w v.s
 rw [←e,h] at h2
 refine⟨?_,hn⟩
 unfold Vd
 rw [if_pos h2.symm]
theorem Abx{v:Val}(h:Ch v=true) (hk:v.kind=5):v.s.length≤1000∧v.n=0:=by
 refine⟨Rl h (.inr hk),?_⟩
 by_cases h0:v.n=0
 ·exact h0
 ·simp [Ch,hk,h0] at h
def Nb(v:Val):Int×Str×Int:=if v.kind=3 then(3,Ur v.n.natAbs,v.n) else if v.kind=4 then(4,v.s,0) else if v.kind=5 then(5,v.s,0) else(1,B6 v,0)
theorem A9f{v:Val}{r:Str}(h:Ch v=true) (hn:v.kind=3→0≤v.n∧v.n≤9223372036854775807) (hr:dlm r):Dt (B6 v++r)=some ((Nb v).1,(Nb v).2.1,(Nb v).2.2,(B6 v).length):=by
 have hr39:∀t,r≠39::t:=fun t e=>(hr 39 t e).2 rfl
 rcases Afj h with hk|hk|hk|hk|hk
 ·have e:B6 v=[78,85,76,76]:=by simp [B6,h,hk]
  have e2:Nb v=(1,[78,85,76,76],0):=by simp [Nb,hk,e]
  rw [e,e2]
  exact Aef (by decide +kernel) hr
 ·have e:B6 v=if v.n=0 then [70,65,76,83,69] else [84,82,85,69]:=by simp [B6,h,hk]
  have e2:Nb v=(1,B6 v,0):=by simp [Nb,hk]
  rw [e2]
  exact Aef (by rw [e];split<;>decide +kernel) hr
 ·obtain⟨h0,h1⟩:=hn hk
  have e:B6 v=Ur v.n.natAbs:=by simp only [B6,h,hk];rw [←A5c h0];rfl
  have e2:Nb v=(3,Ur v.n.natAbs,v.n):=by simp [Nb,hk]
  rw [e,e2,A7x hr,if_pos (by omega)]
  have e3:((v.n.natAbs:Nat):Int)=v.n:=by omega
  rw [e3]
 ·have e:B6 v=39::(quo v.s++[39]):=by simp [B6,h,hk]
  have e2:Nb v=(4,v.s,0):=by simp [Nb,hk]
  rw [e,e2,A17 (Afr h hk).1 hr39]
  simp
 ·have e:B6 v=120::39::(O4 v.s++[39]):=by simp [B6,h,hk]
  have e2:Nb v=(5,v.s,0):=by simp [Nb,hk]
  rw [e,e2,Avp (Abx h hk).1]
  simp
end Go.Proofs.YthndhaolemgbdaaGreatDoor
namespace Go.Proofs.YthndhaolemgbdaaGreatDoor
open Go.Ax
end Go.Proofs.YthndhaolemgbdaaGreatDoor
namespace Go.Proofs.YthndhaolemgbdaaGreatDoor
open Go.Ax
open Lp (Dt)
def Dl(r:Str):Prop:=∀c t,r=c::t→c=32∨c=41∨c=44
theorem A7p(t:Str):Dl (32::t):=fun _ _ e=>by cases e;exact .inl rfl
theorem Bg0(t:Str):Dl (41::t):=fun _ _ e=>by cases e;exact .inr (.inl rfl)
theorem Z4{r:Str}(h:Dl r):dlm r:=fun c t e=>by
 rcases h c t e with rfl|rfl|rfl<;>exact⟨by decide +kernel,by decide⟩
theorem Ax1{e:Xpr}(h:eok e.kind e.v e.name=true) (hk:e.kind=1):Ch e.v=true∧(e.v.kind=3→0≤e.v.n)∧e.name=[]:=by
 simp only [eok] at h
 rw [Ze1 hk,Zd1 (show ¬e.kind=2 by omega),Am,An] at h
 simp only [Zb1,Zg1,Bool.not_eq_true',Bool.and_eq_false_iff,decide_eq_false_iff_not] at h
 obtain⟨⟨h1,h2⟩,h3⟩:=h
 refine⟨?_,fun h =>?_,h3⟩
 ·simp only [Ua] at h1
  cases hv:Ch e.v with
  |true=>rfl
  |false=>rw [hv] at h1;simp at h1
 ·rcases h2 with h2|h2
  ·exact absurd h h2
  ·omega
theorem Ark{e:Xpr}(h:eok e.kind e.v e.name=true) (hk:e.kind=2):F9 e.name=true∧e.v=⟨0,0,[]⟩:=by
 simp only [eok] at h
 rw [Ze1 hk,Zd1 (show ¬e.kind=1 by omega),Am,An] at h
 simp only [Zb1,Zg1] at h
 exact⟨h.2,h.1⟩
theorem Bd8{e:Xpr}(h:eok e.kind e.v e.name=true) (h1:¬e.kind=1) (h2:¬e.kind=2):e.v=⟨0,0,[]⟩∧e.name=[]:=by
 simp only [eok] at h
 rw [Zd1 h1,Zd1 h2,An,An] at h
 simp only [Zb1,Zg1] at h
 exact h
theorem Bcy{a b:Xpr}(h1:a.kind=b.kind) (h2:a.v=b.v) (h3:a.name=b.name) (h4:a.l=b.l):a=b:=by
 cases a;cases b
 simp only [Xpr.kind,Xpr.v,Xpr.name,Xpr.l] at h1 h2 h3 h4
 rw [h1,h2,h3,h4]
theorem A1i{e:Xpr}{m:Int}(h:Bo e m=true) (hk:e.kind=1∨e.kind=2):e.l=[]:=by
 obtain⟨hp,_,_⟩:=F2 h
 have:Kk e.kind=0:=by rcases hk with k|k<;>rw [k]<;>decide
 exact List.eq_nil_of_length_eq_zero (by omega)
def Agy(k:Int):Prop:=4≤k∧k≤14
inductive Shape:Xpr→Prop where
 |atom (e:Xpr) (h:e.kind=1∨e.kind=2):Shape e
 |not (x:Xpr):Shape (.mk 3 ⟨0,0,[]⟩ [] [x])
 |neg (x:Xpr):Shape (.mk 15 ⟨0,0,[]⟩ [] [x])
 |isn (x:Xpr):Shape (.mk 16 ⟨0,0,[]⟩ [] [x])
 |op (k:Int) (x y:Xpr) (h:Agy k):Shape (.mk k ⟨0,0,[]⟩ [] [x,y])
theorem Arb{e:Xpr}{m:Int}(h:Bo e m=true):Shape e:=by
 obtain⟨hp,ho,_⟩:=F2 h
 by_cases hk:e.kind=1∨e.kind=2
 ·exact .atom e hk
 ·obtain⟨h1,h2⟩:=Bd8 ho (fun h=>hk (.inl h)) (fun h=>hk (.inr h))
  have ee:e = .mk e.kind ⟨0,0,[]⟩ [] e.l:=Bcy rfl h1 h2 rfl
  rcases Ag9 e.kind with ⟨p,q⟩|⟨p,q⟩|⟨p,q⟩|p
  ·exact absurd q hk
  ·obtain⟨x,hx⟩:∃x,e.l=[x]:=List.length_eq_one_iff.1 (by omega)
   rw [hx] at ee
   rcases q with q|q|q<;>rw [q] at ee<;>rw [ee]
   ·exact .not x
   ·exact .neg x
   ·exact .isn x
  ·obtain⟨x,y,hx⟩:∃x y,e.l=[x,y]:=by
    match hq:e.l,(show e.l.length=2 by omega) with
    |[x,y],_=>exact⟨x,y,rfl⟩
   rw [hx] at ee
   rw [ee]
   exact .op _ x y q
  ·omega
theorem Ayn(x:Xpr):etx (.mk 3 ⟨0,0,[]⟩ [] [x])=40::([78,79,84]++32::(etx x++[41])):=by
 simp [etx,etxs]
theorem Awv(x:Xpr):etx (.mk 15 ⟨0,0,[]⟩ [] [x])=40::45::(etx x++[41]):=by
 simp [etx,etxs]
theorem Axv(x:Xpr):etx (.mk 16 ⟨0,0,[]⟩ [] [x])=40::(etx x++32::73::83::32::78::85::76::76::[41]):=by
 simp [etx,etxs]
theorem A5k{k:Int}(h:Agy k) (x y:Xpr):etx (.mk k ⟨0,0,[]⟩ [] [x,y])=40::(etx x++32::(sgn k++32::(etx y++[41]))):=by
 simp only [Agy] at h
 simp only [etx,etxs,etx1]
 rw [if_neg (by omega),if_neg (by omega),if_neg (by omega),if_neg (by omega),if_neg (by omega)]
 simp
def Bbf(k:Int):Bool:=(sgn k).all (fun c => !decide (c=32)) && !decide (sgn k=[]) && !decide ((sgn k).head? = some 73)
theorem A66:Lp.wordF [78,79,84]=true:=by decide +kernel
theorem Ak3{e x:Xpr}{m:Int}(h:Bo e m=true) (hx:x∈e.l):∃m',Bo x m' = true:=by
 obtain⟨_,_,hs⟩:=F2 h
 rw [Wo] at hs
 exact⟨_,Zg2.1 hs x hx⟩
end Go.Proofs.YthndhaolemgbdaaGreatDoor
namespace Go.Proofs.YthndhaolemgbdaaGreatDoor
open Go.Ax
open Lp (Dt)
section
variable {α:Type}(f : α→Str) (P : α→Prop) (D:Str→Prop)
end
theorem Bc2{s:Stm}(h : 1≤s.kind∧s.kind≤8):(U6 s).take 6=if s.kind=1∨s.kind=3 then [67,82,69,65,84,69] else if s.kind=2 then [68,82,79,80,32,84] else if s.kind=4 then [68,82,79,80,32,73] else if s.kind=5 then [73,78,83,69,82,84] else if s.kind=6 then [85,80,68,65,84,69] else if s.kind=7 then [68,69,76,69,84,69] else [83,69,76,69,67,84]:=by
 have:s.kind=1∨s.kind=2∨s.kind=3∨s.kind=4∨s.kind=5∨s.kind=6∨s.kind=7∨s.kind=8:=by omega
 rcases this with h|h|h|h|h|h|h|h<;>simp [U6,V8,Atp,h]
theorem Agf{s t:Stm}(hs : 1≤s.kind∧s.kind≤8) (ht : 1≤t.kind∧t.kind≤8) (h:U6 s=U6 t):s.kind=t.kind:=by
 have h6:=congrArg (List.take 6) h
 rw [Bc2 hs,Bc2 ht] at h6
 have e1:s.kind=1∨s.kind=2∨s.kind=3∨s.kind=4∨s.kind=5∨s.kind=6∨s.kind=7∨s.kind=8:=by omega
 have e2:t.kind=1∨t.kind=2∨t.kind=3∨t.kind=4∨t.kind=5∨t.kind=6∨t.kind=7∨t.kind=8:=by omega
 rcases e1 with k|k|k|k|k|k|k|k<;>rcases e2 with l|l|l|l|l|l|l|l<;>first
  |exact k.trans l.symm
  |(simp [k,l] at h6;done)
  |(simp [U6,V8,k,l] at h)
end Go.Proofs.YthndhaolemgbdaaGreatDoor
namespace Go.Proofs.YthndhaolemgbdaaGreatDoor
open Go.Ax
open Lp (Dt Sc Bf)
theorem Bcz{m:Str}{x:Int×Str×Int×Nat}(h:Dt m=some x):Bf (Sx.byt m 0)≠6:=fun h6=>by
 by_cases hp:Lp.pre m [120,39]=true
 ·have e:Sx.byt m 0=120:=by
   match m,hp with
   |[],hp=>cases hp
   |[a],hp=>simp [Lp.pre] at hp
   |a::b::t,hp =>
    simp [Lp.pre] at hp
    rw [hp.1]
    rfl
  rw [e] at h6
  exact absurd h6 (by decide +kernel)
 ·unfold Dt at h
  rw [if_neg hp,h6] at h
  simp at h
theorem A7y{w r:Str}{q k n:Int}{s:Str}{us:TL}(h:Dt (w++r)=some (k,s,n,w.length)) (hr:Sc r (q+w.length) us):Sc (w++r) q (⟨k,q,s,n⟩::us) :=
 .tok (Bcz h) h (by rw [List.drop_left];exact hr)
theorem Bha:Bf ((32:UInt8).toNat:Int)=6:=by decide +kernel
def Lx(D:Str→Prop) (a:Str) (Q:TL→Prop):Prop:=∀r q us,D r→Sc r (q+a.length) us→∃ts,Sc (a++r) q (ts++us)∧Q ts
def Afx(_:Str):Prop:=True
theorem Lx.app{D1 D2:Str→Prop}{a b:Str}{Q1 Q2:TL→Prop}(ha:Lx D1 a Q1) (hb:Lx D2 b Q2) (hd:∀r,D2 r→D1 (b++r)):Lx D2 (a++b) fun ts=>∃t1 t2,ts=t1++t2∧Q1 t1∧Q2 t2:=fun r q us hr hs=>by
 obtain⟨t2,h2,q2⟩:=hb r (q+a.length) us hr (by rw [Zh1] at hs;rw [show q+(a.length:Int)+(b.length:Int)=q+((a.length+b.length:Nat):Int) by omega];exact hs)
 obtain⟨t1,h1,q1⟩:=ha (b++r) q (t2++us) (hd r hr) h2
 exact⟨t1++t2,by rw [Zj1,Zj1];exact h1,t1,t2,rfl,q1,q2⟩
theorem Lx.mono{D D':Str→Prop}{a:Str}{Q Q':TL→Prop}(h:Lx D a Q) (hd:∀r,D' r→D r) (hq:∀ts,Q ts→Q' ts):Lx D' a Q':=fun r q us hr hs=>by
 obtain⟨ts,h1,h2⟩:=h r q us (hd r hr) hs
 exact⟨ts,h1,hq ts h2⟩
theorem Lx.nil{D:Str→Prop}{Q:TL→Prop}(h:Q []):Lx D [] Q:=fun r q us _ hs=>⟨[],by simpa using hs,h⟩
theorem Lx.sp{D:Str→Prop}{a:Str}{Q:TL→Prop}(h:Lx D a Q):Lx D (32::a) Q:=fun r q us hr hs=>by
 obtain⟨ts,h1,h2⟩:=h r (q+1) us hr (by rw [Zf1] at hs;rw [show q+1+(a.length:Int)=q+((a.length+1:Nat):Int) by omega];exact hs)
 exact⟨ts,.blank Bha h1,h2⟩
def Bf8(k:Int) (s:Str) (n:Int) (ts:TL):Prop:=∃t:Tok,ts=[t]∧t.kind=k∧t.s=s∧t.n=n
def IsW(s:Str) (ts:TL):Prop:=∃t:Tok,ts=[t]∧isT s [t]=true
theorem Lx.one{D:Str→Prop}{w s:Str}{k n:Int}(h:∀r,D r→Dt (w++r)=some (k,s,n,w.length)):Lx D w (Bf8 k s n):=fun r q _ hr hs =>
 ⟨[⟨k,q,s,n⟩],A7y (h r hr) hs,_,rfl,rfl,rfl,rfl⟩
theorem Ba7{k n:Int}{s:Str}(hk:k=1∨k=6) {ts:TL}(h:Bf8 k s n ts):IsW s ts:=by
 obtain⟨t,h1,h2,h3,_⟩:=h
 refine⟨t,h1,?_⟩
 simp only [isT,h2,h3,decide_true,Bool.and_true,Zd2,Zg1]
 exact hk
theorem Lx.word{w:Str}(h:Lp.wordF w=true):Lx dlm w (IsW w):=(Lx.one fun _ hr=>Aef h hr).mono (fun _ h=>h) (fun _ h=>Ba7 (.inl rfl) h)
theorem Bc7{c:UInt8}(hc:Bf (c.toNat:Int)=7):c≠120:=fun h=>by
 subst h
 exact absurd hc (by decide +kernel)
theorem Adl{c:UInt8}{r:Str}(hc:Bf (c.toNat:Int)=7) (h2:Lp.twoS (c::r)=false):Dt ([c]++r)=some (6,[c],0,[c].length):=by
 have hp:Lp.pre (c::r) [120,39]=false:=by simp [Lp.pre,Bc7 hc]
 have hc':Bf (Sx.byt (c::r) 0)=7:=hc
 show Dt (c::r)=_
 unfold Dt
 rw [hp,if_neg (by simp),if_neg (by rw [hc'];decide),if_neg (by rw [hc'];decide),if_neg (by rw [hc'];decide),if_neg (by rw [hc'];decide),if_pos hc',h2]
 rfl
theorem A0n{c d:UInt8}{r:Str}(hc:Bf (c.toNat:Int)=7) (h2:Lp.twoS (c::d::r)=true):Dt ([c,d]++r)=some (6,[c,d],0,[c,d].length):=by
 have hp:Lp.pre (c::d::r) [120,39]=false:=by simp [Lp.pre,Bc7 hc]
 have hc':Bf (Sx.byt (c::d::r) 0)=7:=hc
 show Dt (c::d::r)=_
 unfold Dt
 rw [hp,if_neg (by simp),if_neg (by rw [hc'];decide),if_neg (by rw [hc'];decide),if_neg (by rw [hc'];decide),if_neg (by rw [hc'];decide),if_pos hc',h2]
 rfl
theorem A51{c:UInt8}(h1:c≠60) (h2:c≠62) (r:Str):Lp.twoS (c::r)=false:=by simp [Lp.twoS,Lp.pre,h1,h2]
theorem Lx.sign{c:UInt8}(hc:Bf (c.toNat:Int)=7) (h1:c≠60) (h2:c≠62):Lx Afx [c] (IsW [c]):=(Lx.one fun r _=>Adl hc (A51 h1 h2 r)).mono (fun _ h=>h) (fun _ h=>Ba7 (.inr rfl) h)
theorem lx40:Lx Afx [40] (IsW [40]):=Lx.sign (by decide +kernel) (by decide) (by decide)
theorem lx41:Lx Afx [41] (IsW [41]):=Lx.sign (by decide +kernel) (by decide) (by decide)
theorem lx45:Lx Afx [45] (IsW [45]):=Lx.sign (by decide +kernel) (by decide) (by decide)
def blD(r:Str):Prop:=∃t,r=32::t
theorem Ber{k:Int}(h:Agy k):Lx blD (sgn k) (IsW (sgn k)):=by
 simp only [Agy] at h
 have hk:k=4∨k=5∨k=6∨k=7∨k=8∨k=9∨k=10∨k=11∨k=12∨k=13∨k=14:=by omega
 have hd:∀r,blD r→dlm r:=fun r hr=>by
  obtain⟨t,rfl⟩:=hr
  exact Z4 (A7p t)
 have two:∀c d,Bf (c.toNat:Int)=7→(∀r,Lp.twoS (c::d::r)=true)→Lx blD [c,d] (IsW [c,d]):=fun c d hc ht=>(Lx.one fun r _=>A0n hc (ht r)).mono (fun _ h=>h) (fun _ h=>Ba7 (.inr rfl) h)
 have one:∀c,Bf (c.toNat:Int)=7→(∀r,Lp.twoS (c::32::r)=false)→Lx blD [c] (IsW [c]):=fun c hc ht=>(Lx.one fun r hr=>by
  obtain⟨t,rfl⟩:=hr
  exact Adl hc (ht t)).mono (fun _ h=>h) (fun _ h=>Ba7 (.inr rfl) h)
 rcases hk with rfl|rfl|rfl|rfl|rfl|rfl|rfl|rfl|rfl|rfl|rfl
 ·exact(Lx.word (by decide +kernel)).mono hd (fun _ h=>h)
 ·exact(Lx.word (by decide +kernel)).mono hd (fun _ h=>h)
 ·exact one 61 (by decide +kernel) (fun r=>by simp [Lp.twoS,Lp.pre])
 ·exact two 60 62 (by decide +kernel) (fun r=>by simp [Lp.twoS,Lp.pre])
 ·exact one 60 (by decide +kernel) (fun r=>by simp [Lp.twoS,Lp.pre])
 ·exact two 60 61 (by decide +kernel) (fun r=>by simp [Lp.twoS,Lp.pre])
 ·exact one 62 (by decide +kernel) (fun r=>by simp [Lp.twoS,Lp.pre])
 ·exact two 62 61 (by decide +kernel) (fun r=>by simp [Lp.twoS,Lp.pre])
 ·exact one 43 (by decide +kernel) (fun r=>by simp [Lp.twoS,Lp.pre])
 ·exact one 45 (by decide +kernel) (fun r=>by simp [Lp.twoS,Lp.pre])
 ·exact one 42 (by decide +kernel) (fun r=>by simp [Lp.twoS,Lp.pre])
structure isPE (ts:TL) (e:Xpr):Prop where
 ne:ts≠[]
 hn:isT M0 ts=false
 hm:isT [45] ts=false
 hs:isT [42] ts=false
 rd:∀us,B1 orW (ts++us) = .ok (e,us)
def Stop(us:TL):Prop:=Bv us=(0,0)∧isT sIS us=false
def isIn(ts:TL) (e:Xpr):Prop:=∀us,Stop us→orW (ts++us) = .ok (e,us)
def Ayu(ts:TL) (e:Xpr):Prop:=∃o ti c:TL,ts=o++(ti++c)∧IsW [40] o∧IsW [41] c∧isIn ti e
theorem Rh{k h:Nat}{e:Xpr}{us:TL}(hs:Stop us):Cv VV k (e,h,us)=none:=Lw (fun q=>by rw [hs.2] at q;cases q.1) (.inl (by rw [hs.1]))
theorem A3i{s w:Str}{t:Tok}{r:TL}(h:isT s [t]=true) (hw:¬w=s):isT w (t::r)=false:=by
 simp only [isT,Zb1,Zg1] at h
 simp only [isT,Bool.and_eq_false_iff,decide_eq_false_iff_not]
 exact .inr fun e=>hw (e.symm.trans h.2)
theorem Avq{s w:Str}{o:TL}(h:IsW s o) (hw:¬w=s) (r:TL):isT w (o++r)=false:=by
 obtain⟨t,rfl,h⟩:=h
 exact A3i h hw
theorem Aq4{s:Str}{o:TL}(h:IsW s o) (r:TL):isT s (o++r)=true:=by
 obtain⟨t,rfl,h⟩:=h
 exact h
theorem Ac9{s:Str}{o:TL}(h:IsW s o) (r:TL):(o++r).tail=r:=by
 obtain⟨t,rfl,h⟩:=h
 rfl
theorem Bfk{s:Str}{o:TL}(h:IsW s o):o≠[]:=by
 obtain⟨t,rfl,h⟩:=h
 simp
theorem Awf{s:Str}{o:TL}(h:IsW s o) (r:TL):Bv (o++r)=bindS s:=by
 obtain⟨t,rfl,h⟩:=h
 simp only [isT,Zb1,Zg1] at h
 show Bv (t::r)=_
 simp only [Bv,h.1,h.2]
theorem A71{s:Str}{o:TL}(h:IsW s o) (h1:bindS s=(0,0)) (h2:¬sIS=s) (r:TL):Stop (o++r):=⟨by rw [Awf h,h1],Avq h h2 r⟩
theorem Qy{ts:TL}{e:Xpr}(h:isPE ts e) {k:Nat}(h1 : 1≤k) (h7:k≤7) {us:TL}(hs:Stop us):VV k (ts++us) = .ok (e,us):=by
 rw [←Apy h1 h7]
 have hp:Jh VV k (ts++us) = .ok (e,7,us):=by
  simp only [Jh,Ev h.ne,h.hn,h.hm,Bool.false_and,Mr,h.rd us]
 have hl:Cj VV k (us.length+1) (e,7,us) = .ok (e,7,us):=Ek (Rh hs)
 simp only [exB,exT,hp,Acr,hl]
theorem Bhx{t1 t2 o:TL}{a b:Xpr}{s:Str}{p:Nat}{k:Int}(h1:isPE t1 a) (h2:isPE t2 b) (ho:IsW s o) (hb:bindS s=(p,k)) (hp : 1≤p) (hi:¬sIS=s):isIn (t1++(o++t2)) (mkX k [a,b]):=fun us hs=>by
 have hle:p≤6:=by have:=(Awy s).1;rw [hb] at this;exact this
 rw [←Mr,←Apy (by omega) (by omega),Zj1,Zj1]
 have hpr:Jh VV 1 (t1++(o++(t2++us))) = .ok (a,7,o++(t2++us)):=by
  simp only [Jh,Ev h1.ne,h1.hn,h1.hm,Bool.false_and,Mr,h1.rd]
 have hst:Cv VV 1 (a,7,o++(t2++us))=some (.ok (mkX k [a,b],p,us)):=by
  simp only [Cv,Awf ho,hb,Avq ho hi,Ac9 ho,Qy h2 (show 1≤p+1 by omega) (show p+1≤7 by omega) hs]
  rw [if_neg (by simp),if_neg (by omega)]
 obtain⟨n,hn⟩:∃n,(o++(t2++us)).length=n+1:=⟨(o++(t2++us)).length-1,by
  have:=List.length_pos_iff.2 (Bfk ho)
  simp only [Zh1]
  omega⟩
 have hl:Cj VV 1 ((o++(t2++us)).length+1) (a,7,o++(t2++us)) = .ok (mkX k [a,b],p,us):=by
  rw [hn]
  simp only [Cj,hst]
  exact Ek (Rh hs)
 simp only [exB,exT,hpr,Acr,hl]
theorem Bfw{t o:TL}{a:Xpr}(h:isPE t a) (ho:IsW M0 o):isIn (o++t) (mkX 3 [a]):=fun us hs=>by
 rw [←Mr,←Apy (by omega) (by omega),Zj1]
 have hpr:Jh VV 1 (o++(t++us)) = .ok (mkX 3 [a],3,us):=by
  simp only [Jh,Aq4 ho,Ac9 ho,Qy h (show 1≤3 by omega) (show 3≤7 by omega) hs]
  rfl
 have hl:Cj VV 1 (us.length+1) (mkX 3 [a],3,us) = .ok (mkX 3 [a],3,us):=Ek (Rh hs)
 simp only [exB,exT,hpr,Acr,hl]
theorem Bdx{t o:TL}{a:Xpr}(h:isPE t a) (ho:IsW [45] o):isIn (o++t) (mkX 15 [a]):=fun us hs=>by
 rw [←Mr,←Apy (by omega) (by omega),Zj1]
 have hpr:Jh VV 1 (o++(t++us)) = .ok (mkX 15 [a],7,us):=by
  simp only [Jh,Avq ho (show ¬M0=[45] by decide),Bool.false_and,Aq4 ho,Ac9 ho,Qy h (show 1≤7 by omega) (show 7≤7 by omega) hs]
 have hl:Cj VV 1 (us.length+1) (mkX 15 [a],7,us) = .ok (mkX 15 [a],7,us):=Ek (Rh hs)
 simp only [exB,exT,hpr,Acr,hl]
theorem Bd1{t o p:TL}{a:Xpr}(h:isPE t a) (ho:IsW sIS o) (hp:IsW E3 p):isIn (t++(o++p)) (mkX 16 [a]):=fun us hs=>by
 rw [←Mr,←Apy (by omega) (by omega),Zj1,Zj1]
 have hpr:Jh VV 1 (t++(o++(p++us))) = .ok (a,7,o++(p++us)):=by
  simp only [Jh,Ev h.ne,h.hn,h.hm,Bool.false_and,Mr,h.rd]
 have hst:Cv VV 1 (a,7,o++(p++us))=some (.ok (mkX 16 [a],4,us)):=by
  simp only [Cv,Aq4 ho,isP,Ac9 ho,Avq hp (show ¬M0=E3 by decide),Aq4 hp,Ac9 hp]
  rfl
 obtain⟨n,hn⟩:∃n,(o++(p++us)).length=n+1:=⟨(o++(p++us)).length-1,by
  have:=List.length_pos_iff.2 (Bfk ho)
  simp only [Zh1]
  omega⟩
 have hl:Cj VV 1 ((o++(p++us)).length+1) (a,7,o++(p++us)) = .ok (mkX 16 [a],4,us):=by
  rw [hn]
  simp only [Cj,hst]
  exact Ek (Rh hs)
 simp only [exB,exT,hpr,Acr,hl]
theorem Ap3{ts:TL}{e:Xpr}(h:Ayu ts e):isPE ts e:=by
 obtain⟨o,ti,c,rfl,ho,hc,hi⟩:=h
 refine⟨fun e=>Bfk ho (List.append_eq_nil_iff.1 e).1,Avq ho (by decide) _,Avq ho (by decide) _,Avq ho (by decide) _,fun us =>?_⟩
 have h1:=hi (c++us) (A71 hc (by decide) (by decide) us)
 have hb:isT [41] (c++us)=true:=Aq4 hc us
 have ht:(c++us).tail=us:=Ac9 hc us
 obtain⟨t,rfl,h0⟩:=ho
 have hs:t.s=[40]∧(t.kind=1∨t.kind=6):=by
  simp only [isT,Zb1,Zd2,Zg1] at h0
  exact⟨h0.2,h0.1⟩
 have n:∀w:Str,¬w=[40]→¬(t.kind=1∧t.s=w):=fun w hw q=>hw (q.2.symm.trans hs.1)
 show B1 orW (t::((ti++c)++us))=_
 have h2:isT [40] (t::((ti++c)++us))=true:=h0
 simp only [B1]
 rw [if_neg (by omega),if_neg (by omega),if_neg (by omega),if_neg (by omega),if_neg (n _ (by decide)),if_neg (n _ (by decide)),if_neg (n _ (by decide)),if_pos h2,Zj1,h1]
 simp only [if_pos hb,ht]
theorem Y1{v:Val}{k n:Int}{s:Str}(h1:v.kind=k) (h2:v.n=n) (h3:v.s=s):v=⟨k,n,s⟩:=by
 cases v
 simp only at h1 h2 h3
 rw [h1,h2,h3]
theorem As1{v:Val}(h:Ch v=true) (hk:v.kind=2):(v.n=0∨v.n=1)∧v.s=[]:=by
 simp [Ch,hk] at h
 by_cases h0:v.n=0
 ·simp [h0] at h;exact⟨.inl h0,h⟩
 ·by_cases h1:v.n=1
  ·simp [h1] at h;exact⟨.inr h1,h⟩
  ·simp [h0,h1] at h
theorem Bch{e:Xpr}{m:Int}(h:Bo e m=true) (hb:BdExpr e) (hk:e.kind=1∨e.kind=2):Lx dlm (etx e) (fun ts=>isPE ts e):=by
 obtain⟨_,ho,_⟩:=F2 h
 have hl:=A1i h hk
 rw [Aus]
 rcases hk with k1|k2
 ·rw [if_pos k1]
  obtain⟨h1,h2,h3⟩:=Ax1 ho k1
  have hn:=(Bhv hb).1.2.1
  simp only [inI] at hn
  refine(Lx.one fun r hr=>A9f h1 (fun hk=>⟨h2 hk,hn.2⟩) hr).mono (fun _ h=>h) (fun ts hts =>?_)
  obtain⟨t,rfl,a1,a2,a3⟩:=hts
  have ee:e = .mk 1 e.v [] []:=by
   cases e
   simp only [Xpr.kind,Xpr.name,Xpr.l] at k1 h3 hl
   simp only [Xpr.v]
   rw [k1,h3,hl]
  have fin:∀(k n:Int) (s:Str),e.v=⟨k,n,s⟩→((t.kind=1∧(t.s=E3∨t.s=Ab6∨t.s=Sq))∨t.kind=3∨t.kind=4∨t.kind=5)→(∀us,B1 orW (t::us) = .ok (Tv k n s,us))→isPE [t] e:=fun k n s hv hk hr=>by
   have no:∀w:Str,¬w=E3→¬w=Ab6→¬w=Sq→isT w [t]=false:=fun w w1 w2 w3=>by
    simp only [isT,Bool.and_eq_false_iff,Bool.or_eq_false_iff,decide_eq_false_iff_not]
    rcases hk with ⟨_,q|q|q⟩|q
    ·exact .inr fun e=>w1 (e.symm.trans q)
    ·exact .inr fun e=>w2 (e.symm.trans q)
    ·exact .inr fun e=>w3 (e.symm.trans q)
    ·exact .inl ⟨by omega,by omega⟩
   refine⟨by simp,no _ (by decide) (by decide) (by decide),no _ (by decide) (by decide) (by decide),no _ (by decide) (by decide) (by decide),fun us =>?_⟩
   rw [ee,hv]
   exact hr us
  rcases Afj h1 with hk|hk|hk|hk|hk
  ·obtain⟨b1,b2⟩:=Asb h1 hk
   have e1:B6 e.v=E3:=by simp [B6,h1,hk,E3]
   have e2:Nb e.v=(1,E3,0):=by simp [Nb,hk,e1]
   rw [e2] at a1 a2
   refine fin 1 0 [] (Y1 hk b1 b2) (.inl ⟨a1,.inl a2⟩) (fun us =>?_)
   simp only [B1,a1,a2]
   rfl
  ·obtain⟨b1,b2⟩:=As1 h1 hk
   have e2:Nb e.v=(1,B6 e.v,0):=by simp [Nb,hk]
   have e1:B6 e.v=if e.v.n=0 then [70,65,76,83,69] else [84,82,85,69]:=by simp [B6,h1,hk]
   rw [e2] at a1 a2
   rcases b1 with b1|b1
   ·have e3:B6 e.v=Sq:=by rw [e1,if_pos b1];rfl
    rw [e3] at a2
    refine fin 2 0 [] (Y1 hk b1 b2) (.inl ⟨a1,.inr (.inr a2)⟩) (fun us =>?_)
    simp only [B1,a1,a2]
    rfl
   ·have e3:B6 e.v=Ab6:=by rw [e1,if_neg (by omega)];rfl
    rw [e3] at a2
    refine fin 2 1 [] (Y1 hk b1 b2) (.inl ⟨a1,.inr (.inl a2)⟩) (fun us =>?_)
    simp only [B1,a1,a2]
    rfl
  ·have b2:e.v.s=[]:=by simpa [Ch,hk] using h1
   have e2:Nb e.v=(3,Ur e.v.n.natAbs,e.v.n):=by simp [Nb,hk]
   rw [e2] at a1 a3
   refine fin 3 e.v.n [] (Y1 hk rfl b2) (.inr (.inl a1)) (fun us =>?_)
   simp only [B1,a1,a3]
   rfl
  ·have b1:=(Afr h1 hk).2
   have e2:Nb e.v=(4,e.v.s,0):=by simp [Nb,hk]
   rw [e2] at a1 a2
   refine fin 4 0 e.v.s (Y1 hk b1 rfl) (.inr (.inr (.inl a1))) (fun us =>?_)
   simp only [B1,a1,a2]
   rfl
  ·have b1:=(Abx h1 hk).2
   have e2:Nb e.v=(5,e.v.s,0):=by simp [Nb,hk]
   rw [e2] at a1 a2
   refine fin 5 0 e.v.s (Y1 hk b1 rfl) (.inr (.inr (.inr a1))) (fun us =>?_)
   simp only [B1,a1,a2]
   rfl
 ·rw [if_neg (by omega),if_pos k2]
  obtain⟨h1,h2⟩:=Ark ho k2
  have h1':Lp.rnameF e.name=true:=by
   have h1:Lp.nameF e.name=true:=h1
   rw [Lp.name_eq] at h1
   exact h1
  refine(Lx.one fun r hr=>A0e h1' hr).mono (fun _ h=>h) (fun ts hts =>?_)
  obtain⟨t,rfl,a1,a2,a3⟩:=hts
  have no:∀w:Str,isT w [t]=false:=fun w=>by simp only [isT,a1];rfl
  refine⟨by simp,no _,no _,no _,fun us =>?_⟩
  have ee:e = .mk 2 ⟨0,0,[]⟩ e.name []:=by
   cases e
   simp only [Xpr.kind,Xpr.v,Xpr.l] at k2 h2 hl
   simp only [Xpr.name]
   rw [k2,h2,hl]
  show B1 orW (t::us)=_
  simp only [B1,a1,a2]
  rw [ee]
  rfl
theorem A07{k:Int}(h:Agy k):∃p,bindS (sgn k)=(p,k)∧1≤p:=by
 simp only [Agy] at h
 have hk:k=4∨k=5∨k=6∨k=7∨k=8∨k=9∨k=10∨k=11∨k=12∨k=13∨k=14:=by omega
 rcases hk with rfl|rfl|rfl|rfl|rfl|rfl|rfl|rfl|rfl|rfl|rfl<;>exact⟨_,rfl,by decide⟩
theorem Bdw{k:Int}(h:Agy k):¬sIS=sgn k:=by
 simp only [Agy] at h
 have hk:k=4∨k=5∨k=6∨k=7∨k=8∨k=9∨k=10∨k=11∨k=12∨k=13∨k=14:=by omega
 rcases hk with rfl|rfl|rfl|rfl|rfl|rfl|rfl|rfl|rfl|rfl|rfl<;>decide
theorem A4r:∀(n:Nat) (e:Xpr) (m:Int),Bt e≤n→Bo e m=true→BdExpr e→Lx dlm (etx e) (fun ts=>isPE ts e∧(e.kind=1∨e.kind=2∨Ayu ts e))
 |0,e,_,h,_,_=>by have:=Ej e;omega
 |n+1,e,m,hn,he,hb=>by
  have ih:∀x,x∈e.l→Lx dlm (etx x) (fun ts=>isPE ts x):=fun x hx=>by
   obtain⟨m1,h1⟩:=Ak3 he hx
   refine(A4r n x m1 ?_ h1 ((Ae3 hb).2 x hx)).mono (fun _ h=>h) (fun _ h=>h.1)
   have:=Dn hx
   rw [Kv] at hn
   omega
  have dm41:∀r,Afx r→dlm ([41]++r):=fun r _=>Z4 (Bg0 r)
  have any:∀{D:Str→Prop}(r:Str),D r→Afx r:=fun _ _=>trivial
  have sh:=Arb he
  cases sh with
  |atom _ hk=>exact(Bch he hb hk).mono (fun _ h=>h) (fun _ h=>⟨h,hk.imp_right fun q =>.inl q⟩)
  |not x =>
   rw [Ayn]
   have h:=lx40.app (((Lx.word (w:=M0) A66).app ((ih x Zr1).sp.app lx41 dm41) (fun r _=>Z4 (A7p _)))) (fun r _=>trivial)
   refine(show Lx Afx _ _ from h).mono (fun _ _=>trivial) (fun ts hts =>?_)
   obtain⟨o,t1,rfl,ho,w,t2,rfl,hw,tx,c,rfl,hx,hc⟩:=hts
   have hbr:Ayu (o++(w++(tx++c))) (mkX 3 [x]):=⟨o,w++tx,c,by simp only [Zj1],ho,hc,Bfw hx hw⟩
   exact⟨Ap3 hbr,.inr (.inr hbr)⟩
  |neg x =>
   rw [Awv]
   have h:=lx40.app (lx45.app ((ih x Zr1).app lx41 dm41) (fun r _=>trivial)) (fun r _=>trivial)
   refine(show Lx Afx _ _ from h).mono (fun _ _=>trivial) (fun ts hts =>?_)
   obtain⟨o,t1,rfl,ho,w,t2,rfl,hw,tx,c,rfl,hx,hc⟩:=hts
   have hbr:Ayu (o++(w++(tx++c))) (mkX 15 [x]):=⟨o,w++tx,c,by simp only [Zj1],ho,hc,Bdx hx hw⟩
   exact⟨Ap3 hbr,.inr (.inr hbr)⟩
  |isn x =>
   rw [Axv]
   have h:=lx40.app ((ih x Zr1).app (((Lx.word (w:=sIS) (by decide +kernel)).app (((Lx.word (w:=E3) (by decide +kernel)).app lx41 dm41).sp) (fun r _=>Z4 (A7p _))).sp) (fun r _=>Z4 (A7p _))) (fun r _=>trivial)
   refine(show Lx Afx _ _ from h).mono (fun _ _=>trivial) (fun ts hts =>?_)
   obtain⟨o,t1,rfl,ho,tx,t2,rfl,hx,w,t3,rfl,hw,v,c,rfl,hv,hc⟩:=hts
   have hbr:Ayu (o++(tx++(w++(v++c)))) (mkX 16 [x]):=⟨o,tx++(w++v),c,by simp only [Zj1],ho,hc,Bd1 hx hw hv⟩
   exact⟨Ap3 hbr,.inr (.inr hbr)⟩
  |op k x y hk =>
   rw [A5k hk]
   have h:=lx40.app ((ih x Zr1).app (((Ber hk).app (((ih y (Zu1 _ Zr1)).app lx41 dm41).sp) (fun r _=>⟨_,rfl⟩)).sp) (fun r _=>Z4 (A7p _))) (fun r _=>trivial)
   refine(show Lx Afx _ _ from h).mono (fun _ _=>trivial) (fun ts hts =>?_)
   obtain⟨o,t1,rfl,ho,tx,t2,rfl,hx,w,t3,rfl,hw,ty,c,rfl,hy,hc⟩:=hts
   obtain⟨p,hp,hp1⟩:=A07 hk
   have hbr:Ayu (o++(tx++(w++(ty++c)))) (mkX k [x,y]):=⟨o,tx++(w++ty),c,by simp only [Zj1],ho,hc,Bhx hx hy hw hp hp1 (Bdw hk)⟩
   exact⟨Ap3 hbr,.inr (.inr hbr)⟩
end Go.Proofs.YthndhaolemgbdaaGreatDoor
namespace Go.Proofs.YthndhaolemgbdaaGreatDoor
open Go.Ax
open Lp (Dt Sc Bf)
def Rd{α:Type}(p:TL→PR α) (D:Str→Prop) (S T:TL→Prop) (a:Str) (x : α):Prop:=Lx D a fun ts=>∀vs,S vs→T (ts++vs)∧p (ts++vs) = .ok (x,vs)
section
variable {α β:Type}{p:TL→PR α}{D D1 D2:Str→Prop}{S S1 S2 T T1 T2:TL→Prop}{a b:Str}{x : α}{y : β}
theorem Rd.bind{f : α→TL→PR β}(h1:Rd p D1 S1 T1 a x) (h2:Rd (f x) D2 S2 T2 b y) (hd:∀r,D2 r→D1 (b++r)) (hs:∀l,T2 l→S1 l):Rd (bP p f) D2 S2 T1 (a++b) y :=
 (Lx.app h1 h2 hd).mono (fun _ h=>h) fun ts ⟨t1,t2,e,q1,q2⟩ vs hv=>by
  subst e
  obtain⟨a1,a2⟩:=q2 vs hv
  obtain⟨b1,b2⟩:=q1 (t2++vs) (hs _ a1)
  rw [Zj1]
  refine⟨b1,?_⟩
  simp only [bP,b2,a2]
theorem Rd.map{g : α→β}(h:Rd p D S T a x):Rd (bP p fun x=>T8 (g x)) D S T a (g x) :=
 Lx.mono h (fun _ h=>h) fun _ q vs hv=>⟨(q vs hv).1,by simp only [bP,(q vs hv).2];rfl⟩
theorem Rd.mono(h:Rd p D1 S1 T1 a x) (hd:∀r,D2 r→D1 r) (hs:∀l,S2 l→S1 l) (ht:∀l,T1 l→T2 l):Rd p D2 S2 T2 a x :=
 Lx.mono h hd fun _ q vs hv=>⟨ht _ (q vs (hs vs hv)).1,(q vs (hs vs hv)).2⟩
end
def hdW(w:Str) (l:TL):Prop:=isT w l=true
def No(W:List Str) (l:TL):Prop:=∀w,w∈W→isT w l=false
theorem A9k{w:Str}(h1:bindS w=(0,0)) (h2:¬sIS=w) {l:TL}(h:hdW w l):Stop l:=by
 cases l with
 |nil=>cases h
 |cons t r=>exact A71 (o:=[t]) ⟨t,rfl,h⟩ h1 h2 r
theorem A64:Stop []:=⟨rfl,rfl⟩
theorem Bgf{D:Str→Prop}:∀r,D r→Afx r:=fun _ _=>trivial
theorem dm41(t:Str):dlm (41::t):=Z4 (Bg0 t)
theorem Be0{l:TL}(h:hdW [41] l):Stop l:=A9k (by decide) (by decide) h
end Go.Proofs.YthndhaolemgbdaaGreatDoor
namespace Go.Proofs.YthndhaolemgbdaaGreatDoor
open Go.Ax
theorem A6e{m n:Nat}(h:m≤n):Gg 0 (m:Int) n=true:=by simp [Gg];omega
def W5(R:Type):Px R:=⟨A7 ttL,glT,Aq [],Ak [],Av [],tbl []⟩
def Aal(x:HV [.str,.str]):Option (HV [.bool]):=match x with
 |(l,m) =>
 cond (decide ((m.length:Int)≤(l.length:Int))) (
  chk (Gg 0 (m.length:Int) l.length) (
  some (decide ((l.take ((m.length:Int):Int).toNat)=m)))) (
  some false)
theorem A88:∀(x:HV [.str,.str]),Ci (W5 _) Tryz.f192 [.str,.str] [.bool] x some=Aal x
 |(l,m)=>by kernel_rfl
theorem Az0:FnOk Tryz.prog elT glT 192 [.str,.str] [.bool] (Aal):=by
 refine A1 Tryz.func192 rfl (by kernel_rfl) follows (by kernel_rfl) (n:=0) (by kernel_rfl) (px:=W5 _) (fun cx hP hel hgl =>?_) (A88)
 have hp0:PxOk cx (W5 (HV [.bool])):=⟨fun t=>by rw [hP,hel];exact Au Al t,by rw [hgl];rfl⟩
 have hc0:Aj cx (W5 (HV [.bool])):=Ah rfl Ai
 have hq0:CallQOk cx (W5 (HV [.bool])):=Ab rfl rfl Af Ae
 exact⟨hp0,hc0,hq0,Aw⟩
def Awg(l m:Str):Bool:=Lp.pre l m
def Aod:FT [.str,.str] [.bool]:=fun x=>some (Awg x.1 x.2)
theorem A53:FnOk Tryz.prog elT glT 192 [.str,.str] [.bool] Aod :=.fin0 Az0 fun(l,m) r hb hx=>by
 simp only [Aod,Za1] at hx
 subst hx
 simp only [Aal,Awg,Lp.pre]
 have e:decide ((m.length:Int)≤(l.length:Int))=decide (m.length≤l.length):=Zy1.2 (by omega)
 rw [e]
 by_cases h:m.length≤l.length
 ·rw [Ze1 h,Am,A6e h,Int.toNat_natCast]
  rfl
 ·rw [Zd1 h]
  rfl
def Ab1(R:Type):Px R:=⟨A7 ttL,glT,Aq [(192,As [.str,.str] [.bool] Aod)],Ak [],Av [],tbl []⟩
def Yi(x:HV [.str,.str]):Option (HV [.bool]):=match x with
 |(l,m) =>
 some (Awg l m)
theorem A97:∀(x:HV [.str,.str]),Ci (Ab1 _) Tryz.f175 [.str,.str] [.bool] x some=Yi x
 |(l,m)=>by kernel_rfl
theorem A55:FnOk Tryz.prog elT glT 175 [.str,.str] [.bool] (Yi):=by
 refine A1 Tryz.func175 rfl (by kernel_rfl) follows (by kernel_rfl) (n:=0) (by kernel_rfl) (px:=Ab1 _) (fun cx hP hel hgl =>?_) (A97)
 have hp0:PxOk cx (Ab1 (HV [.bool])):=⟨fun t=>by rw [hP,hel];exact Au Al t,by rw [hgl];rfl⟩
 have hc0:Aj cx (Ab1 (HV [.bool])):=Ah rfl (Aa (A4 (by rw [hP,hel,hgl];exact A53) (by kernel_rfl)) Ai)
 have hq0:CallQOk cx (Ab1 (HV [.bool])):=Ab rfl rfl Af Ae
 exact⟨hp0,hc0,hq0,Aw⟩
def hpre(l:Str) (m:Str):Bool :=
 (Awg l m)
theorem A8n(x:HV [.str,.str]):Yi x=some (hpre x.1 x.2):=by
 first
  |exact rfl
  |simp only [Yi,hpre,B2]
def Au4:FT [.str,.str] [.bool]:=fun x=>some (hpre x.1 x.2)
theorem Ayi:FnOk Tryz.prog elT glT 175 [.str,.str] [.bool] Au4 :=.fin0 A55 fun x _ _ hx=>(A8n x).trans hx
set_option maxRecDepth 20000 in
open Go.Sx in
theorem Wb(l:Str) (c:Int):Con Tryz.prog 174 [S l,.int .u8 c] [] (fun _=>True) (Is (.int .i64 (Lib.indexByte l c.toNat.toUInt8))):=by
 have run:∀w,(callFunc 191 #[S l,.int .u8 c]).run Tryz.prog w = .ok (.value (.int .i64 (Lib.indexByte l c.toNat.toUInt8))) w:=fun w=>by
  rw [run_callFunc_extern Tryz.func191 (by kernel_rfl) rfl (by kernel_rfl) (e:=Extern.BytealgIndexByte.indexByte) (by kernel_rfl)]
  simp [Lib.run_indexByteString,go_sem]
 refine Al5 Tryz.func174 Tryz.ntmps174 rfl (by kernel_rfl) rfl fun w M =>?_
 repeat' (first|refine Bg3 ?_|refine A4f ?_|refine Bhr ?_|refine Bhi ?_|refine Bge ?_|refine A9j ?_|refine Be9 ?_|refine Bex ?_|refine Be2 ?_|refine Bhf ?_|refine Be5 ?_|refine Bgj rfl ?_|refine A9q ?_|refine Ba4 ?_|refine Bbr ?_|refine Bat ?_|(apply A62 rfl rfl;(first|exact p_move rfl|exact p_assign rfl|exact p_lens (by dsimp only;decide +kernel) rfl|exact p_lensl (by dsimp only;decide +kernel) rfl|exact p_extract rfl rfl|exact p_pick_t rfl rfl|exact p_pick_f rfl rfl|exact p_eql rfl rfl|exact p_neq rfl rfl|exact p_lss rfl rfl|exact p_leq rfl rfl|exact p_gtr rfl rfl|exact p_geq rfl rfl|exact p_not rfl|exact p_eqls rfl rfl|exact p_neqs rfl rfl|exact Bcn rfl rfl (by omega)|exact Bby rfl rfl (by omega)|exact p_index (by dsimp only;decide +kernel) rfl rfl (by omega)|exact p_cut (by dsimp only;decide +kernel) rfl rfl rfl (by omega)|exact p_cutlo (by dsimp only;decide +kernel) rfl rfl (by omega)|exact p_cuthi (by dsimp only;decide +kernel) rfl rfl (by omega)|exact p_fa (fo:=0) (by dsimp only;decide +kernel) rfl|exact p_fa (fo:=1) (by dsimp only;decide +kernel) rfl|exact p_fa (fo:=2) (by dsimp only;decide +kernel) rfl|exact p_fa (fo:=3) (by dsimp only;decide +kernel) rfl|exact Bgx rfl))|refine Bhy rfl rfl ?_|refine As3 rfl ?_|(apply A62 rfl rfl (Bcr rfl rfl run))|(refine Bgo rfl rfl ?_ ?_<;>intro hc)|(refine Bhw rfl rfl ?_ ?_<;>intro hc)|(refine Bh0 rfl rfl ?_ ?_<;>intro hc)|(refine Bd9 rfl rfl ?_ ?_<;>intro hc)|(refine Bhq rfl rfl ?_ ?_<;>intro hc)|(refine Bh1 rfl rfl ?_ ?_<;>intro hc)|refine Arv rfl rfl ?_|refine Ao8 rfl rfl ?_|refine Arv rfl (Ze1 (by omega)) ?_|refine Ao8 rfl (Zd1 (by omega)) ?_|(refine Ba6 rfl ?_ ?_<;>intro hc)|(refine Baj rfl ?_ ?_<;>intro hc)|(refine Bb7 rfl ?_ ?_<;>intro hc)|(refine A7w rfl ?_ ?_<;>intro hc)|(refine Bcx rfl ?_ ?_<;>intro hc)|(refine Xa rfl ?_ ?_<;>intro hc)|refine Beg rfl rfl ?_|refine Bez rfl rfl rfl ?_|refine Bel rfl rfl rfl rfl ?_)
 exact Bdg rfl
def sib(l:Str) (c:Int):Int:=Lib.indexByte l c.toNat.toUInt8
def A7k:FT [.str,.int .u8] [.int .i64]:=fun x=>some (sib x.1 x.2)
theorem Bbj(l:Str) (c:Int) : -1≤sib l c∧sib l c<l.length+1:=by
 have:=Lp.indexByte_in l c.toNat.toUInt8
 simp only [sib]
 omega
theorem Be6:FnOk Tryz.prog elT glT 174 [.str,.int .u8] [.int .i64] A7k:=by
 refine FnOk.ofIs (Wb [] 0).enters rfl fun x r hx =>?_
 obtain⟨l,c⟩:=x
 simp only [A7k,Za1] at hx
 subst hx
 refine⟨[Sx.S l,.int .u8 c],_,fun X vs h =>?_,Wb l c,fun X hb =>?_⟩
 ·simp only [Cq,C9,Reps,Rep] at h
  obtain⟨u,us,rfl,⟨rfl,_⟩,u2,us2,rfl,⟨rfl,_⟩,rfl⟩:=h
  rfl
 ·simp only [Nz,Cq,C9]
  have h:=Bbj l c
  have hl:ln l.length:=hb.1
  refine D5 (Axp ?_)
  simp only [IntKind.min,IntKind.max,IntKind.signed,IntKind.bits,sib,ln] at *
  simp only [if_true]
  omega
def Wt(R:Type):Px R:=⟨A7 ttL,glT,Aq [(174,As [.str,.int .u8] [.int .i64] A7k)],Ak [],Av [],tbl []⟩
def Sd(x:HV [.str,.int .u8]):Option (HV [.int .i64]):=match x with
 |(l,c) =>
 some (sib l c)
theorem A9a:∀(x:HV [.str,.int .u8]),Ci (Wt _) Tryz.f156 [.str,.int .u8] [.int .i64] x some=Sd x
 |(l,c)=>by kernel_rfl
theorem Azk:FnOk Tryz.prog elT glT 156 [.str,.int .u8] [.int .i64] (Sd):=by
 refine A1 Tryz.func156 rfl (by kernel_rfl) follows (by kernel_rfl) (n:=0) (by kernel_rfl) (px:=Wt _) (fun cx hP hel hgl =>?_) (A9a)
 have hp0:PxOk cx (Wt (HV [.int .i64])):=⟨fun t=>by rw [hP,hel];exact Au Al t,by rw [hgl];rfl⟩
 have hc0:Aj cx (Wt (HV [.int .i64])):=Ah rfl (Aa (A4 (by rw [hP,hel,hgl];exact Be6) (by kernel_rfl)) Ai)
 have hq0:CallQOk cx (Wt (HV [.int .i64])):=Ab rfl rfl Af Ae
 exact⟨hp0,hc0,hq0,Aw⟩
def N9(l:Str) (c:Int):Int :=
 (sib l c)
theorem Azi(x:HV [.str,.int .u8]):Sd x=some (N9 x.1 x.2):=by
 first
  |exact rfl
  |simp only [Sd,N9,B2]
def Af9:FT [.str,.int .u8] [.int .i64]:=fun x=>some (N9 x.1 x.2)
theorem Aiw:FnOk Tryz.prog elT glT 156 [.str,.int .u8] [.int .i64] Af9 :=.fin0 Azk fun x _ _ hx=>(Azi x).trans hx
def Vr(R:Type):Px R:=⟨A7 ttL,glT,Aq [],Ak [],Av [],tbl []⟩
def Se(x:HV [.int .u8]):Option (HV [.bool]):=match x with
 |c =>
 cond (decide (65≤c)) (
  some (decide (c≤90))) (
  some false)
theorem A75:∀(x:HV [.int .u8]),Ci (Vr _) Tryz.f177 [.int .u8] [.bool] x some=Se x
 |c=>by kernel_rfl
theorem A0r:FnOk Tryz.prog elT glT 177 [.int .u8] [.bool] (Se):=by
 refine A1 Tryz.func177 rfl (by kernel_rfl) follows (by kernel_rfl) (n:=0) (by kernel_rfl) (px:=Vr _) (fun cx hP hel hgl =>?_) (A75)
 have hp0:PxOk cx (Vr (HV [.bool])):=⟨fun t=>by rw [hP,hel];exact Au Al t,by rw [hgl];rfl⟩
 have hc0:Aj cx (Vr (HV [.bool])):=Ah rfl Ai
 have hq0:CallQOk cx (Vr (HV [.bool])):=Ab rfl rfl Af Ae
 exact⟨hp0,hc0,hq0,Aw⟩
def Aff(c:Int):Bool :=
 cond (decide (65≤c)) (
  (decide (c≤90))) (
  false)
theorem A2c(x:HV [.int .u8]):Se x=some (Aff x):=by
 first
  |exact rfl
  |simp only [Se,Aff,B2]
def Aga:FT [.int .u8] [.bool]:=fun x=>some (Aff x)
theorem Ah8:FnOk Tryz.prog elT glT 177 [.int .u8] [.bool] Aga :=.fin0 A0r fun x _ _ hx=>(A2c x).trans hx
theorem Ah4(c:Int):Aff c=Lp.isUp c:=by simp only [Aff,Lp.isUp];cases decide (65≤c)<;>rfl
def Wp(R:Type):Px R:=⟨A7 ttL,glT,Aq [(111,As [.int .u8] [.bool] Afy),(177,As [.int .u8] [.bool] Aga)],Ak [],Av [],tbl []⟩
def Sa(x:HV [.str,.int .i64]):Option (HV [.bool]):=match x with
 |(s,i) =>
 cond (decide (i=(s.length:Int))) (
  some true) (
  chk (inb i s.length) (
  cond (!(Afa (bat s i))) (
   chk (inb i s.length) (
   some (!(Aff (bat s i))))) (
   some false)))
theorem A6q:∀(x:HV [.str,.int .i64]),Ci (Wp _) Tryz.f179 [.str,.int .i64] [.bool] x some=Sa x
 |(s,i)=>by kernel_rfl
theorem Az7:FnOk Tryz.prog elT glT 179 [.str,.int .i64] [.bool] (Sa):=by
 refine A1 Tryz.func179 rfl (by kernel_rfl) follows (by kernel_rfl) (n:=0) (by kernel_rfl) (px:=Wp _) (fun cx hP hel hgl =>?_) (A6q)
 have hp0:PxOk cx (Wp (HV [.bool])):=⟨fun t=>by rw [hP,hel];exact Au Al t,by rw [hgl];rfl⟩
 have hc0:Aj cx (Wp (HV [.bool])):=Ah rfl (Aa (A4 (by rw [hP,hel,hgl];exact Ajn) (by kernel_rfl)) (Aa (A4 (by rw [hP,hel,hgl];exact Ah8) (by kernel_rfl)) Ai))
 have hq0:CallQOk cx (Wp (HV [.bool])):=Ab rfl rfl Af Ae
 exact⟨hp0,hc0,hq0,Aw⟩
def Zd(s:Str) (i:Int):Option Bool:=if 0≤i∧i≤s.length then some (Lp.aloneF s i) else none
def Amh:FT [.str,.int .i64] [.bool]:=fun x=>Zd x.1 x.2
theorem A98(a b:Int):(a == b)=decide (a=b):=rfl
theorem Bcg(s:Str) (i:Int) (h : 0≤i∧i≤s.length):Sa (s,i)=some (Lp.aloneF s i):=by
 simp only [Sa,Lp.aloneF,Ahb,Ah4,A98]
 by_cases he:i=s.length
 ·rw [Ze1 he];rfl
 ·rw [Zd1 he,Ao1 (by omega)]
  show cond (!Lp.isIn (bat s i)) (some (!Lp.isUp (bat s i))) (some false)=some (!Lp.isIn (bat s i) && !Lp.isUp (bat s i))
  cases Lp.isIn (bat s i)<;>rfl
theorem A4q:FnOk Tryz.prog elT glT 179 [.str,.int .i64] [.bool] Amh :=.fin0 Az7 fun(s,i) r hb hx=>by
 simp only [Amh,Zd] at hx
 split at hx
 ·rename_i h
  exact(Bcg s i h).trans hx
 ·cases hx
def Wc:Sig:=⟨46,[(0,.str),(2,.int .i64),(3,.bool),(4,.int .i64),(11,.int .i64),(12,.int .i64)],[],[],0,0,0,[],[]⟩
abbrev G7:=Str×Int×Bool×Int×Int×Int
def Mz{R:Type}(rec:G7→Option R) (kx:Ex→G7→Option R) (v:G7):Option R:=match v with
 |(v,v1,v2,v3,v4,v5) =>
 cond (decide (v5<v4)) (
  chk (inb v5 v.length) (
  cond (!decide ((Aqo v3 10).2=0)) (
   kx .ret (v,0,false,v3,v4,v5)) (
   cond (!decide ((Aub ((Aqo v3 10).1) (wr .i64 (wr .u8 ((bat v v5)-48)))).2=0)) (
   kx .ret (v,0,false,v3,v4,v5)) (
   rec (v,v1,v2,(Aub ((Aqo v3 10).1) (wr .i64 (wr .u8 ((bat v v5)-48)))).1,v4,(wr .i64 (v5+1))))))) (
  kx (.exit 0) (v,v1,v2,v3,v4,v5))
def Iy(R:Type) (k:Nat):Px R:=⟨A7 ttL,glT,Aq [(194,As [.int .i64,.int .i64] [.int .i64,.int .i64] A6d),(195,As [.int .i64,.int .i64] [.int .i64,.int .i64] A5u)],Ak [],Av [(3,Bc k Wc (Mz))],tbl []⟩
theorem Ari(R:Type) (k:Nat):∀(fr:List Fr) (rec:G7→Option R) (kx:Ex→G7→Option R) (v:G7),Bn (Iy R k) Wc (lp Tryz.f180 0) fr rec kx v=Mz rec kx v
 |fr,rec,kx,(v,v1,v2,v3,v4,v5)=>by kernel_rfl
def Xp(k:Nat) (x:HV [.str]):Option (HV [.int .i64,.bool]):=match x with
 |s =>
 A5 (fun rec=>Mz rec (fun e vz=>match vz with|(v6,v7,v8,v9,_,_)=>match e with
  |.ret =>
  some (v7,v8)
  |.exit 0 =>
  cond (decide (v6=[48])) (
   some (v9,true)) (
   chk (inb 0 v6.length) (
   some (v9, !decide ((bat v6 0)=48))))
  |_=>none)) k (s,0,false,0,(s.length:Int),0)
theorem A2f(k:Nat):∀(x:HV [.str]),Ci (Iy _ k) Tryz.f180 [.str] [.int .i64,.bool] x some=Xp k x
 |s=>by kernel_rfl
theorem Asv(k:Nat):FnOk Tryz.prog elT glT 180 [.str] [.int .i64,.bool] (Xp k):=by
 refine A1 Tryz.func180 rfl (by kernel_rfl) follows (by kernel_rfl) (n:=1) (by kernel_rfl) (px:=Iy _ k) (fun cx hP hel hgl =>?_) (A2f k)
 have hp0:PxOk cx (Iy (HV [.int .i64,.bool]) k):=⟨fun t=>by rw [hP,hel];exact Au Al t,by rw [hgl];rfl⟩
 have hc0:Aj cx (Iy (HV [.int .i64,.bool]) k):=Ah rfl (Aa (A4 (by rw [hP,hel,hgl];exact Bak) (by kernel_rfl)) (Aa (A4 (by rw [hP,hel,hgl];exact Bbk) (by kernel_rfl)) Ai))
 have hq0:CallQOk cx (Iy (HV [.int .i64,.bool]) k):=Ab rfl rfl Af Ae
 have hlnumber_0:A6 cx (Iy (HV [.int .i64,.bool]) k) (lp Tryz.f180 0):=A8 hp0 hc0 hq0 (by rw [hP];exact follows) (k:=k) (s:=Wc) (step:=Mz) (fun _ _=>by kernel_rfl) (by kernel_rfl) (Ari _ k) (A0 (n:=0) (by kernel_rfl) Aw)
 exact⟨hp0,hc0,hq0,(Cg Aw hlnumber_0)⟩
def A76(s:Str):Int×Bool:=match Lp.numGo s 0 with
 |some n=>(n,decide (s=[48]) || !decide (bat s 0=48))
 |none=>(0,false)
def Aon(s:Str):Option (Int×Bool):=match s with
 |[]=>none
 |_=>some (A76 s)
def Aji:FT [.str] [.int .i64,.bool]:=fun x=>Aon x
theorem Ae4{R:Type}{kx:Ex→G7→Option R}{s:Str}{c:Option Int→Option R}(hs:ln s.length) (h1:∀n j,kx .ret (s,0,false,n,(s.length:Int),j)=c none) (h2:∀q r n j,kx (.exit 0) (s,q,r,n,(s.length:Int),j)=c (some n)):∀(k i:Nat) (q:Int) (r:Bool) (n:Int),inI n→i≤s.length→s.length-i<k→A5 (fun rec=>Mz rec kx) k (s,q,r,n,(s.length:Int),(i:Int))=c (Lp.numGo (s.drop i) n)
 |0,i,q,r,n,_,_,h=>absurd h (Zm1 _)
 |k+1,i,q,r,n,hn,hi,h=>by
  rw [Bu]
  by_cases hl:i<s.length
  ·have hd:=Lp.inI_dg (s[i].toNat:Int)
   have e10:inI (10:Int):=by simp only [inI];omega
   have em:=Bfe hn e10
   simp only [Mz,Bp hl,Di hl,em]
   rw [Ze1 (show(i:Int)<(s.length:Int) by omega),A9 hl]
   simp only [Am,chk,Lp.numGo]
   by_cases hm:inI (n*10)
   ·have hm':=hm
    simp only [inI] at hm'
    have ef:Z2 (n*10)=(n*10,0):=by rw [Z2,if_pos hm']
    have ea:=Bea hm (show inI (wr .i64 (wr .u8 ((s[i].toNat:Int)-48))) from hd)
    simp only [ef,ea]
    by_cases hf:inI (n*10+Lp.dg (s[i].toNat:Int))
    ·have hf':=hf
     simp only [inI] at hf'
     have eg:Z2 (n*10+wr .i64 (wr .u8 ((s[i].toNat:Int)-48)))=(n*10+Lp.dg (s[i].toNat:Int),0):=by
      have hf2 : -9223372036854775808≤n*10+wr .i64 (wr .u8 ((s[i].toNat:Int)-48))∧n*10+wr .i64 (wr .u8 ((s[i].toNat:Int)-48))≤9223372036854775807:=hf'
      rw [Z2,if_pos hf2];rfl
     rw [eg,if_pos (show Lp.inI _∧Lp.inI _ from⟨hm,hf⟩)]
     have ih:=Ae4 hs h1 h2 k (i+1) q r (n*10+Lp.dg (s[i].toNat:Int)) hf (by omega) (by omega)
     rw [Bg hl hs]
     exact ih
    ·have hf':=hf
     simp only [inI] at hf'
     have eg:Z2 (n*10+wr .i64 (wr .u8 ((s[i].toNat:Int)-48)))=(0,20):=by
      have hf2:¬(-9223372036854775808≤n*10+wr .i64 (wr .u8 ((s[i].toNat:Int)-48))∧n*10+wr .i64 (wr .u8 ((s[i].toNat:Int)-48))≤9223372036854775807):=hf'
      rw [Z2,if_neg hf2]
     rw [eg,if_neg (fun h=>hf h.2)]
     exact h1 _ _
   ·have hm':=hm
    simp only [inI] at hm'
    have ef:Z2 (n*10)=(0,20):=by rw [Z2,if_neg hm']
    rw [if_neg (fun h=>hm h.1)]
    simp only [ef]
    exact h1 _ _
  ·simp only [Mz,h2]
   rw [Zd1 (by omega),Zk1 (by omega)]
   rfl
theorem A2m:FnOk Tryz.prog elT glT 180 [.str] [.int .i64,.bool] Aji :=.fin 0 Asv fun s r hb hx=>⟨s.length+1,by
 simp only [Aji] at hx
 cases s with
 |nil=>cases hx
 |cons b l =>
  have hx:some (A76 (b::l))=some r:=hx
  rw [←hx]
  simp only [Xp]
  refine(Ae4 (s:=b::l) (c:=fun o=>match o with|some n=>some (n,decide (b::l=[48]) || !decide (bat (b::l) 0=48))|none=>some (0,false)) hb (fun _ _=>rfl) (fun _ _ n _ =>?_) ((b::l).length+1) 0 0 false 0 (by simp [inI]) (Nat.zero_le _) (by omega)).trans ?_
  ·show cond (decide (b::l=[48])) (some (n,true)) (chk (inb 0 (b::l).length) (some (n, !decide (bat (b::l) 0=48))))=_
   rw [Ao1 (by simp only [Zf1];omega)]
   cases decide (b::l=[48])<;>rfl
  ·simp only [Zq1,A76]
   cases Lp.numGo (b::l) 0<;>rfl⟩
def Vm:Sig:=⟨40,[(0,.str),(4,.str),(5,.int .i64),(6,.sl .byte true),(7,.int .i64)],[],[],0,0,0,[],[]⟩
abbrev Gt:=Str×Str×Int×List UInt8×Int
def Nj{R:Type}(rec:Gt→Option R) (kx:Ex→Gt→Option R) (v:Gt):Option R:=match v with
 |(v,v1,v2,v3,v4) =>
 cond (decide (v4<(v.length:Int))) (
  chk (inb v4 v.length) (
  cond (decide ((bat v v4)=39)) (
   cond (decide ((wr .i64 (v4+1))=(v.length:Int))) (
   kx .ret (v,v3,(wr .i64 (v4+1)),v3,(wr .i64 (v4+1)))) (
   chk (inb (wr .i64 (v4+1)) v.length) (
    cond (!decide ((bat v (wr .i64 (v4+1)))=39)) (
    kx .ret (v,v3,(wr .i64 (v4+1)),v3,(wr .i64 (v4+1)))) (
    chk (inb (wr .i64 (v4+1)) v.length) (
     chk (decide (v3.length+1≤Be)) (
     rec (v,v1,v2,(v3++[(UInt8.ofNat ((bat v (wr .i64 (v4+1))):Int).toNat)]),(wr .i64 ((wr .i64 (v4+1))+1))))))))) (
   chk (inb v4 v.length) (
   chk (decide (v3.length+1≤Be)) (
    rec (v,v1,v2,(v3++[(UInt8.ofNat ((bat v v4):Int).toNat)]),(wr .i64 (v4+1)))))))) (
  kx (.exit 0) (v,v1,v2,v3,v4))
def Jv(R:Type) (k:Nat):Px R:=⟨A7 ttL,glT,Aq [],Ak [],Av [(3,Bc k Vm (Nj))],tbl []⟩
theorem Aqv(R:Type) (k:Nat):∀(fr:List Fr) (rec:Gt→Option R) (kx:Ex→Gt→Option R) (v:Gt),Bn (Jv R k) Vm (lp Tryz.f181 0) fr rec kx v=Nj rec kx v
 |fr,rec,kx,(v,v1,v2,v3,v4)=>by kernel_rfl
def Vy(k:Nat) (x:HV [.str,.int .i64]):Option (HV [.str,.int .i64]):=match x with
 |(s,i) =>
 A5 (fun rec=>Nj rec (fun e vz=>match vz with|(_,v6,v7,_,_)=>match e with
  |.ret =>
  some (v6,v7)
  |.exit 0 =>
  some ([],(-1))
  |_=>none)) k (s,[],0,[],i)
theorem A1f(k:Nat):∀(x:HV [.str,.int .i64]),Ci (Jv _ k) Tryz.f181 [.str,.int .i64] [.str,.int .i64] x some=Vy k x
 |(s,i)=>by kernel_rfl
theorem Avk(k:Nat):FnOk Tryz.prog elT glT 181 [.str,.int .i64] [.str,.int .i64] (Vy k):=by
 refine A1 Tryz.func181 rfl (by kernel_rfl) follows (by kernel_rfl) (n:=1) (by kernel_rfl) (px:=Jv _ k) (fun cx hP hel hgl =>?_) (A1f k)
 have hp0:PxOk cx (Jv (HV [.str,.int .i64]) k):=⟨fun t=>by rw [hP,hel];exact Au Al t,by rw [hgl];rfl⟩
 have hc0:Aj cx (Jv (HV [.str,.int .i64]) k):=Ah rfl Ai
 have hq0:CallQOk cx (Jv (HV [.str,.int .i64]) k):=Ab rfl rfl Af Ae
 have hlquoted_0:A6 cx (Jv (HV [.str,.int .i64]) k) (lp Tryz.f181 0):=A8 hp0 hc0 hq0 (by rw [hP];exact follows) (k:=k) (s:=Vm) (step:=Nj) (fun _ _=>by kernel_rfl) (by kernel_rfl) (Aqv _ k) (A0 (n:=0) (by kernel_rfl) Aw)
 exact⟨hp0,hc0,hq0,(Cg Aw hlquoted_0)⟩
def Aog(s:Str) (i:Int):Option (Str×Int):=if 0≤i∧i≤s.length∧s.length≤1000000 then some (Lp.qGo (s.drop i.toNat) [] i) else none
def Ahi:FT [.str,.int .i64] [.str,.int .i64]:=fun x=>Aog x.1 x.2
theorem Ajf(b:UInt8):UInt8.ofNat ((b.toNat:Int)).toNat=b:=by simp
theorem Xm{R:Type}{kx:Ex→Gt→Option R}{s:Str}{c:Str×Int→Option R}(hs:s.length≤1000000) (h1:∀a j,kx .ret (s,a,j,a,j)=c (a,j)) (h2:∀q r a j,kx (.exit 0) (s,q,r,a,j)=c ([], -1)):∀(k i:Nat) (q:Str) (r:Int) (a:Str),a.length≤i→i≤s.length→s.length-i<k→A5 (fun rec=>Nj rec kx) k (s,q,r,a,(i:Int))=c (Lp.qGo (s.drop (i:Int).toNat) a i)
 |0,i,q,r,a,_,_,h=>absurd h (Zm1 _)
 |k+1,i,q,r,a,ha,hi,h=>by
  rw [Bu]
  by_cases hl:i<s.length
  ·have hln:ln s.length:=by simp only [ln];omega
   have ea:decide (a.length+1≤Be)=true:=Ze1 (by simp only [Be];omega)
   have eb:Sx.byt s (i:Int)=(s[i].toNat:Int):=Di hl
   simp only [Nj,Bp hl,Bg hl hln,Di hl,ea,Ajf]
   rw [Ze1 (show(i:Int)<(s.length:Int) by omega)]
   simp only [Am,chk]
   by_cases h39:(s[i].toNat:Int)=39
   ·rw [Ze1 h39,Am]
    by_cases he:i+1=s.length
    ·rw [Ze1 (show((i+1:Nat):Int)=(s.length:Int) by omega),Am,h1,Lp.q_last (by omega) (by omega) (eb.trans h39)]
     rfl
    ·have hl2:i+1<s.length:=by omega
     have eb2:Sx.byt s ((i:Int)+1)=(s[i+1].toNat:Int):=Di hl2
     rw [Zd1 (show ¬((i+1:Nat):Int)=(s.length:Int) by omega),Bp hl2,An]
     simp only [Am,Di hl2,Ajf]
     by_cases h3:(s[i+1].toNat:Int)=39
     ·have ih:=Xm hs h1 h2 k (i+1+1) q r (a++[s[i+1]]) (by simp only [Zh1,Zf1,Zi1];omega) (by omega) (by omega)
      have e39:s[i+1]=39:=by rw [←UInt8.toNat_inj];exact Int.ofNat.inj h3
      rw [Ze1 h3,Lp.q_two (by omega) (by omega) (eb.trans h39) (eb2.trans h3),Bg hl2 hln]
      simp only [Zt1,An]
      rw [ih,e39]
      rfl
     ·rw [Zd1 h3,Lp.q_close (by omega) (by omega) (eb.trans h39) (fun e=>h3 (eb2.symm.trans e))]
      simp only [Zs1,Am,h1]
      rfl
   ·have ih:=Xm hs h1 h2 k (i+1) q r (a++[s[i]]) (by simp only [Zh1,Zf1,Zi1];omega) (by omega) (by omega)
    rw [Zd1 h39,An,ih,Lp.q_other (by omega) (by omega) (fun e=>h39 (eb.symm.trans e))]
    have eg:s.getD (i:Int).toNat 0=s[i]:=by simp [List.getD_eq_getElem?_getD,hl]
    rw [eg]
    rfl
  ·simp only [Nj,h2]
   rw [Zd1 (by omega),Lp.q_end (by omega)]
   rfl
theorem Ayy:FnOk Tryz.prog elT glT 181 [.str,.int .i64] [.str,.int .i64] Ahi :=.fin 0 Avk fun(s,i) r hb hx=>⟨s.length+1,by
 simp only [Ahi,Aog] at hx
 split at hx
 ·rename_i h
  rw [←hx]
  obtain⟨n,rfl⟩:=Int.eq_ofNat_of_zero_le h.1
  simp only [Vy]
  exact Xm (c:=some) h.2.2 (fun _ _=>rfl) (fun _ _ _ _=>rfl) (s.length+1) n [] 0 [] (Nat.zero_le _) (by omega) (by omega)
 ·cases hx⟩
def Z3:Sig:=⟨19,[(0,.str),(2,.int .i64),(5,.sl .str true),(6,.int .i64),(7,.int .i64)],[],[],0,0,0,[],[]⟩
abbrev L5:=Str×Int×List Str×Int×Int
def Af0{R:Type}(rec:L5→Option R) (kx:Ex→L5→Option R) (v:L5):Option R:=match v with
 |(v,v1,v2,v3,v4) =>
 cond (decide (v4<v3)) (
  chk (inb v4 v2.length) (
  cond ((hpre v (at' .str v2 v4))) (
   kx .ret (v,2,v2,v3,v4)) (
   rec (v,v1,v2,v3,(wr .i64 (v4+1)))))) (
  kx (.exit 0) (v,v1,v2,v3,v4))
def Mm(R:Type) (k:Nat):Px R:=⟨A7 ttL,glT,Aq [(175,As [.str,.str] [.bool] Au4),(156,As [.str,.int .u8] [.int .i64] Af9)],Ak [],Av [(2,Bc k Z3 (Af0))],tbl []⟩
theorem Asz(R:Type) (k:Nat):∀(fr:List Fr) (rec:L5→Option R) (kx:Ex→L5→Option R) (v:L5),Bn (Mm R k) Z3 (lp Tryz.f182 0) fr rec kx v=Af0 rec kx v
 |fr,rec,kx,(v,v1,v2,v3,v4)=>by kernel_rfl
def Zn(k:Nat) (x:HV [.str]):Option (HV [.int .i64]):=match x with
 |s =>
 A5 (fun rec=>Af0 rec (fun e vz=>match vz with|(v5,v6,_,_,_)=>match e with
  |.ret =>
  some v6
  |.exit 0 =>
  chk (inb 0 v5.length) (
   cond (decide (0≤(N9 [40,41,44,42,61,60,62,43,45,59] (bat v5 0)))) (
   some 1) (
   some 0))
  |_=>none)) k (s,0,[[60,62],[60,61],[62,61]],3,0)
theorem A3e(k:Nat):∀(x:HV [.str]),Ci (Mm _ k) Tryz.f182 [.str] [.int .i64] x some=Zn k x
 |s=>by kernel_rfl
theorem A2q(k:Nat):FnOk Tryz.prog elT glT 182 [.str] [.int .i64] (Zn k):=by
 refine A1 Tryz.func182 rfl (by kernel_rfl) follows (by kernel_rfl) (n:=1) (by kernel_rfl) (px:=Mm _ k) (fun cx hP hel hgl =>?_) (A3e k)
 have hp0:PxOk cx (Mm (HV [.int .i64]) k):=⟨fun t=>by rw [hP,hel];exact Au Al t,by rw [hgl];rfl⟩
 have hc0:Aj cx (Mm (HV [.int .i64]) k):=Ah rfl (Aa (A4 (by rw [hP,hel,hgl];exact Ayi) (by kernel_rfl)) (Aa (A4 (by rw [hP,hel,hgl];exact Aiw) (by kernel_rfl)) Ai))
 have hq0:CallQOk cx (Mm (HV [.int .i64]) k):=Ab rfl rfl Af Ae
 have hllsign_0:A6 cx (Mm (HV [.int .i64]) k) (lp Tryz.f182 0):=A8 hp0 hc0 hq0 (by rw [hP];exact follows) (k:=k) (s:=Z3) (step:=Af0) (fun _ _=>by kernel_rfl) (by kernel_rfl) (Asz _ k) (A0 (n:=0) (by kernel_rfl) Aw)
 exact⟨hp0,hc0,hq0,(Cg Aw hllsign_0)⟩
def A45(s:Str):Option Int:=match s with
 |[]=>none
 |_=>some (Lp.signF s)
def Amf:FT [.str] [.int .i64]:=fun x=>A45 x
theorem A43:FnOk Tryz.prog elT glT 182 [.str] [.int .i64] Amf :=.fin 0 A2q fun s r hb hx=>⟨4,by
 simp only [Amf] at hx
 cases s with
 |nil=>cases hx
 |cons b l =>
  have hx:some (Lp.signF (b::l))=some r:=hx
  rw [←hx]
  have e0:inb 0 (b::l).length=true:=Ao1 (by simp only [Zf1];omega)
  have e1:hpre (b::l) [60,62]=Lp.pre (b::l) [60,62]:=rfl
  have e2:hpre (b::l) [60,61]=Lp.pre (b::l) [60,61]:=rfl
  have e3:hpre (b::l) [62,61]=Lp.pre (b::l) [62,61]:=rfl
  have ei:N9 [40,41,44,42,61,60,62,43,45,59] (bat (b::l) 0)=Lib.indexByte Lp.signs (Sx.byt (b::l) 0).toNat.toUInt8:=rfl
  simp only [Zn,Lp.signF,←ei,←e1,←e2,←e3]
  show cond (hpre (b::l) [60,62]) (some 2) (cond (hpre (b::l) [60,61]) (some 2) (cond (hpre (b::l) [62,61]) (some 2) (chk (inb 0 (b::l).length) (cond (decide (0≤N9 [40,41,44,42,61,60,62,43,45,59] (bat (b::l) 0))) (some 1) (some 0)))))=_
  generalize N9 [40,41,44,42,61,60,62,43,45,59] (bat (b::l) 0)=z
  rw [e0]
  by_cases hz : 0≤z
  ·rw [Ze1 hz,if_pos hz]
   cases hpre (b::l) [60,62]<;>cases hpre (b::l) [60,61]<;>cases hpre (b::l) [62,61]<;>rfl
  ·rw [Zd1 hz,if_neg hz]
   cases hpre (b::l) [60,62]<;>cases hpre (b::l) [60,61]<;>cases hpre (b::l) [62,61]<;>rfl⟩
def P1(R:Type):Px R:=⟨A7 ttL,glT,Aq [],Ak [],Av [],tbl []⟩
def Oc(x:HV [.int .u8]):Option (HV [.int .u8,.bool]):=match x with
 |c =>
 let j:=fun(p1:Bool) =>
  cond (p1) (
  some ((wr .u8 (c-48)),true)) (
  cond (decide (97≤c)) (
   cond (decide (c≤102)) (
   some ((wr .u8 ((wr .u8 (c-97))+10)),true)) (
   some (0,false))) (
   some (0,false)))
 cond (decide (48≤c)) (
  j (decide (c≤57))) (
  j false)
theorem A0t:∀(x:HV [.int .u8]),Ci (P1 _) Tryz.f193 [.int .u8] [.int .u8,.bool] x some=Oc x
 |c=>by kernel_rfl
theorem At3:FnOk Tryz.prog elT glT 193 [.int .u8] [.int .u8,.bool] (Oc):=by
 refine A1 Tryz.func193 rfl (by kernel_rfl) follows (by kernel_rfl) (n:=0) (by kernel_rfl) (px:=P1 _) (fun cx hP hel hgl =>?_) (A0t)
 have hp0:PxOk cx (P1 (HV [.int .u8,.bool])):=⟨fun t=>by rw [hP,hel];exact Au Al t,by rw [hgl];rfl⟩
 have hc0:Aj cx (P1 (HV [.int .u8,.bool])):=Ah rfl Ai
 have hq0:CallQOk cx (P1 (HV [.int .u8,.bool])):=Ab rfl rfl Af Ae
 exact⟨hp0,hc0,hq0,Aw⟩
def S0(c:Int):Int×Bool :=
 let j:=fun(p1:Bool) =>
  cond (p1) (
  ((wr .u8 (c-48)),true)) (
  cond (decide (97≤c)) (
   cond (decide (c≤102)) (
   ((wr .u8 ((wr .u8 (c-97))+10)),true)) (
   (0,false))) (
   (0,false)))
 cond (decide (48≤c)) (
  j (decide (c≤57))) (
  j false)
theorem Ass(x:HV [.int .u8]):Oc x=some (S0 x):=by
 first
  |exact rfl
  |simp only [Oc,S0,B2]
def Aqn:FT [.int .u8] [.int .u8,.bool]:=fun x=>some (S0 x)
theorem Ayx:FnOk Tryz.prog elT glT 193 [.int .u8] [.int .u8,.bool] Aqn :=.fin0 At3 fun x _ _ hx=>(Ass x).trans hx
def Bf3(c:Int):Int×Bool:=match Lp.hexD c with
 |some n=>(n,true)
 |none=>(0,false)
theorem Au8:((List.range 256).all fun n=>decide (S0 (n:Int)=Bf3 (n:Int)))=true:=by kernel_rfl
theorem A11(b:UInt8):S0 (b.toNat:Int)=Bf3 (b.toNat:Int):=by
 have h:=Zg2.1 Au8 b.toNat (List.mem_range.2 b.toNat_lt)
 exact of_decide_eq_true h
def Zz:Sig:=⟨49,[(0,.str),(2,.sl .byte true),(3,.int .i64),(4,.sl .byte true),(5,.int .i64)],[],[],0,0,0,[],[]⟩
abbrev Ju:=Str×List UInt8×Int×List UInt8×Int
def R3{R:Type}(rec:Ju→Option R) (kx:Ex→Ju→Option R) (v:Ju):Option R:=match v with
 |(v,v1,v2,v3,v4) =>
 cond (decide (v4<(v.length:Int))) (
  chk (inb v4 v.length) (
  chk (inb (wr .i64 (v4+1)) v.length) (
   cond (!((S0 (bat v v4)).2)) (
   kx .ret (v,[],11,v3,v4)) (
   cond (!((S0 (bat v (wr .i64 (v4+1)))).2)) (
    kx .ret (v,[],11,v3,v4)) (
    chk (decide (v3.length+1≤Be)) (
    rec (v,v1,v2,(v3++[(UInt8.ofNat ((ior .u8 (Bdo .u8 ((S0 (bat v v4)).1) 4) ((S0 (bat v (wr .i64 (v4+1)))).1)):Int).toNat)]),(wr .i64 (v4+2))))))))) (
  kx (.exit 0) (v,v1,v2,v3,v4))
def Mw(R:Type) (k:Nat):Px R:=⟨A7 ttL,glT,Aq [(193,As [.int .u8] [.int .u8,.bool] Aqn)],Ak [],Av [(5,Bc k Zz (R3))],tbl []⟩
theorem Atl(R:Type) (k:Nat):∀(fr:List Fr) (rec:Ju→Option R) (kx:Ex→Ju→Option R) (v:Ju),Bn (Mw R k) Zz (lp Tryz.f176 0) fr rec kx v=R3 rec kx v
 |fr,rec,kx,(v,v1,v2,v3,v4)=>by kernel_rfl
def Zo(k:Nat) (x:HV [.str]):Option (HV [.sl .byte true,.int .i64]):=match x with
 |s =>
 cond (!decide ((Int.tmod (s.length:Int) 2)=0)) (
  some ([],11)) (
  A5 (fun rec=>R3 rec (fun e vz=>match vz with|(_,v6,v7,v8,_)=>match e with
  |.ret =>
   some (v6,v7)
  |.exit 0 =>
   some (v8,0)
  |_=>none)) k (s,[],0,[],0))
theorem A5n(k:Nat):∀(x:HV [.str]),Ci (Mw _ k) Tryz.f176 [.str] [.sl .byte true,.int .i64] x some=Zo k x
 |s=>by kernel_rfl
theorem A2d(k:Nat):FnOk Tryz.prog elT glT 176 [.str] [.sl .byte true,.int .i64] (Zo k):=by
 refine A1 Tryz.func176 rfl (by kernel_rfl) follows (by kernel_rfl) (n:=1) (by kernel_rfl) (px:=Mw _ k) (fun cx hP hel hgl =>?_) (A5n k)
 have hp0:PxOk cx (Mw (HV [.sl .byte true,.int .i64]) k):=⟨fun t=>by rw [hP,hel];exact Au Al t,by rw [hgl];rfl⟩
 have hc0:Aj cx (Mw (HV [.sl .byte true,.int .i64]) k):=Ah rfl (Aa (A4 (by rw [hP,hel,hgl];exact Ayx) (by kernel_rfl)) Ai)
 have hq0:CallQOk cx (Mw (HV [.sl .byte true,.int .i64]) k):=Ab rfl rfl Af Ae
 have hlunhex_0:A6 cx (Mw (HV [.sl .byte true,.int .i64]) k) (lp Tryz.f176 0):=A8 hp0 hc0 hq0 (by rw [hP];exact follows) (k:=k) (s:=Zz) (step:=R3) (fun _ _=>by kernel_rfl) (by kernel_rfl) (Atl _ k) (A0 (n:=0) (by kernel_rfl) Aw)
 exact⟨hp0,hc0,hq0,(Cg Aw hlunhex_0)⟩
def unP(s:Str):Str×Int:=match(if s.length % 2=0 then Lp.unGo s [] else none) with
 |some b=>(b,0)
 |none=>([],11)
def Aw6(s:Str):Option (Str×Int):=if s.length≤1000000 then some (unP s) else none
def Ani:FT [.str] [.sl .byte true,.int .i64]:=fun x=>Aw6 x
theorem Ahk{R:Type}{kx:Ex→Ju→Option R}{s:Str}{c:Option Str→Option R}(hs:s.length≤1000000) (h1:∀a j,kx .ret (s,[],11,a,j)=c none) (h2:∀q r a j,kx (.exit 0) (s,q,r,a,j)=c (some a)):∀(k i:Nat) (q:Str) (r:Int) (a:Str),a.length≤i→i≤s.length→(s.length-i) % 2=0→s.length-i<k→A5 (fun rec=>R3 rec kx) k (s,q,r,a,(i:Int))=c (Lp.unGo (s.drop (i:Int).toNat) a)
 |0,i,q,r,a,_,_,_,h=>absurd h (Zm1 _)
 |k+1,i,q,r,a,ha,hi,hev,h=>by
  rw [Bu]
  by_cases hl:i<s.length
  ·have hl2:i+1<s.length:=by omega
   have hln:ln s.length:=by simp only [ln];omega
   have ea:decide (a.length+1≤Be)=true:=Ze1 (by simp only [Be];omega)
   have eb:Sx.byt s (i:Int)=(s[i].toNat:Int):=Di hl
   have eb2:Sx.byt s ((i:Int)+1)=(s[i+1].toNat:Int):=Di hl2
   have ew:wr .i64 ((i:Int)+2)=((i+1+1:Nat):Int):=by rw [Zk (by simp only [inI];omega)];omega
   simp only [R3,Bp hl,Bg hl hln,Di hl,Di hl2,Bp hl2,ea,ew,A11]
   rw [Ze1 (show(i:Int)<(s.length:Int) by omega),Lp.un_step (by omega) (by omega),eb,eb2]
   simp only [Am,chk,Bf3]
   cases hx:Lp.hexD (s[i].toNat:Int) with
   |none=>exact h1 _ _
   |some x =>
    cases hy:Lp.hexD (s[i+1].toNat:Int) with
    |none=>exact h1 _ _
    |some y =>
     have ih:=Ahk hs h1 h2 k (i+1+1) q r (a++[UInt8.ofNat (x*16+y).toNat]) (by simp only [Zh1,Zf1,Zi1];omega) (by omega) (by omega) (by omega)
     have ej:ior .u8 (Bdo .u8 x 4) y=_:=Lp.joinhex' (Lp.hexD_lt hx) (Lp.hexD_lt hy)
     simp only [Zt1,An,ej,Ajf]
     exact ih
  ·simp only [R3,h2]
   rw [Zd1 (by omega),Zk1 (by omega)]
   rfl
theorem A70:FnOk Tryz.prog elT glT 176 [.str] [.sl .byte true,.int .i64] Ani :=.fin 0 A2d fun s r hb hx=>⟨s.length+1,by
 simp only [Ani,Aw6] at hx
 split at hx
 ·rename_i h
  rw [←hx]
  have et:Int.tmod (s.length:Int) 2=((s.length % 2:Nat):Int):=rfl
  simp only [Zo,et,unP]
  by_cases h2:s.length % 2=0
  ·rw [Ze1 (show((s.length % 2:Nat):Int)=0 by omega),if_pos h2,Zt1,An]
   refine(Ahk (c:=fun o=>match o with|some b=>some (b,(0:Int))|none=>some ([],11)) h (fun _ _ =>?_) (fun _ _ _ _ =>?_) (s.length+1) 0 [] 0 [] (Nat.zero_le _) (Nat.zero_le _) h2 (by omega)).trans ?_
   ·rfl
   ·rfl
   simp only [Int.toNat_natCast,Zq1]
   cases Lp.unGo s []<;>rfl
  ·rw [Zd1 (show ¬((s.length % 2:Nat):Int)=0 by omega),if_neg h2]
   rfl
 ·cases hx⟩
end Go.Proofs.YthndhaolemgbdaaGreatDoor
namespace Go.Proofs.YthndhaolemgbdaaGreatDoor
open Go.Ax
def V4(R:Type):Px R:=⟨A7 ttL,glT,Aq [(44,As [.sl .str false,.str] [.bool] Au3)],Ak [],Av [],tbl []⟩
def Sm(x:HV [.str]):Option (HV [.bool]):=match x with
 |s =>
 some (Aqt wordsL s)
theorem A72:∀(x:HV [.str]),Ci (V4 _) Tryz.f178 [.str] [.bool] x some=Sm x
 |s=>by kernel_rfl
theorem Ay1:FnOk Tryz.prog elT glT 178 [.str] [.bool] (Sm):=by
 refine A1 Tryz.func178 rfl (by kernel_rfl) follows (by kernel_rfl) (n:=0) (by kernel_rfl) (px:=V4 _) (fun cx hP hel hgl =>?_) (A72)
 have hp0:PxOk cx (V4 (HV [.bool])):=⟨fun t=>by rw [hP,hel];exact Au Al t,by rw [hgl];rfl⟩
 have hc0:Aj cx (V4 (HV [.bool])):=Ah rfl (Aa (A4 (by rw [hP,hel,hgl];exact Aw1) (by kernel_rfl)) Ai)
 have hq0:CallQOk cx (V4 (HV [.bool])):=Ab rfl rfl Af Ae
 exact⟨hp0,hc0,hq0,Aw⟩
def Alv(s:Str):Bool :=
 (Aqt wordsL s)
theorem A0i(x:HV [.str]):Sm x=some (Alv x):=by
 first
  |exact rfl
  |simp only [Sm,Alv,B2]
def Aw0:FT [.str] [.bool]:=fun x=>some (Alv x)
theorem A6a:FnOk Tryz.prog elT glT 178 [.str] [.bool] Aw0 :=.fin0 Ay1 fun x _ _ hx=>(A0i x).trans hx
theorem A38(s:Str):Alv s=Lp.wordF s:=Aw4 wordsL s
end Go.Proofs.YthndhaolemgbdaaGreatDoor
namespace Go.Proofs.YthndhaolemgbdaaGreatDoor
open Go.Ax
def V6:Sig:=⟨21,[(0,.str),(1,.int .i64)],[(2,.fn 154 [])],[(0,.one (.sv .tok)),(1,.one (.sv .tok))],40,40,200,[],[]⟩
abbrev G5:=Str×Int×Tok×Tok
def Nq{R:Type}(rec:G5→Option R) (kx:Ex→G5→Option R) (v:G5):Option R:=match v with
 |(v12,v13,w4,w5) =>
 cond (decide (v13<(v12.length:Int))) (
  chk (inb v13 v12.length) (
  cond ((Abk (bat v12 v13))) (
   rec (v12,(wr .i64 (v13+1)),w4,w5)) (
   kx (.exit 0) (v12,v13,w4,w5)))) (
  kx (.exit 0) (v12,v13,w4,w5))
def Wu:Sig:=⟨21,[(0,.str),(1,.int .i64)],[(2,.fn 111 [])],[(0,.one (.sv .tok)),(1,.one (.sv .tok))],40,40,200,[],[]⟩
abbrev Gz:=Str×Int×Tok×Tok
def Mf{R:Type}(rec:Gz→Option R) (kx:Ex→Gz→Option R) (v:Gz):Option R:=match v with
 |(v6,v7,w2,w3) =>
 cond (decide (v7<(v6.length:Int))) (
  chk (inb v7 v6.length) (
  cond ((Afa (bat v6 v7))) (
   rec (v6,(wr .i64 (v7+1)),w2,w3)) (
   kx (.exit 0) (v6,v7,w2,w3)))) (
  kx (.exit 0) (v6,v7,w2,w3))
def Vo:Sig:=⟨21,[(0,.str),(1,.int .i64)],[(2,.fn 177 [])],[(0,.one (.sv .tok)),(1,.one (.sv .tok))],40,40,200,[],[]⟩
abbrev Gy:=Str×Int×Tok×Tok
def Nd{R:Type}(rec:Gy→Option R) (kx:Ex→Gy→Option R) (v:Gy):Option R:=match v with
 |(v,v1,w,w1) =>
 cond (decide (v1<(v.length:Int))) (
  chk (inb v1 v.length) (
  cond ((Aff (bat v v1))) (
   rec (v,(wr .i64 (v1+1)),w,w1)) (
   kx (.exit 0) (v,v1,w,w1)))) (
  kx (.exit 0) (v,v1,w,w1))
def Et(R:Type) (k:Nat):Px R:=⟨A7 ttL,glT,Aq [(177,As [.int .u8] [.bool] Aga),(111,As [.int .u8] [.bool] Afy),(154,As [.int .u8] [.bool] Agh)],Ak [],Av [(1,Abg k Vo (Nd) (Abg k Wu (Mf) (Bc k V6 (Nq))))],tbl []⟩
noncomputable def Rn (R:Type) (k:Nat):Px R:=⟨A7 ttL,glT,Aq [(175,As [.str,.str] [.bool] Au4),(156,As [.str,.int .u8] [.int .i64] Af9),(176,As [.str] [.sl .byte true,.int .i64] Ani),(177,As [.int .u8] [.bool] Aga),(178,As [.str] [.bool] Aw0),(179,As [.str,.int .i64] [.bool] Amh),(109,As [.int .u8] [.bool] Af3),(63,As [.str] [.bool] Ss),(154,As [.int .u8] [.bool] Agh),(180,As [.str] [.int .i64,.bool] Aji),(181,As [.str,.int .i64] [.str,.int .i64] Ahi),(95,As [.sv .val] [.int .i64] Aig),(182,As [.str] [.int .i64] Amf),(110,Bb 40 200 (Et R k) Tryz.f110)],Ak [],Av [],tbl []⟩
theorem Ap1(R:Type) (k:Nat):∀(fr:List Fr) (rec:Gy→Option R) (kx:Ex→Gy→Option R) (v:Gy),Bn (Et R k) Vo (lp Tryz.f110 0) fr rec kx v=Nd rec kx v
 |fr,rec,kx,(v,v1,w,w1)=>by kernel_rfl
theorem Apf(R:Type) (k:Nat):∀(fr:List Fr) (rec:Gz→Option R) (kx:Ex→Gz→Option R) (v:Gz),Bn (Et R k) Wu (lp Tryz.f110 0) fr rec kx v=Mf rec kx v
 |fr,rec,kx,(v6,v7,w2,w3)=>by kernel_rfl
theorem Ap5(R:Type) (k:Nat):∀(fr:List Fr) (rec:G5→Option R) (kx:Ex→G5→Option R) (v:G5),Bn (Et R k) V6 (lp Tryz.f110 0) fr rec kx v=Nq rec kx v
 |fr,rec,kx,(v12,v13,w4,w5)=>by kernel_rfl
def N3(k:Nat) (x:HV [.str,.int .i64]):Option (HV [.sv .tok,.int .i64]):=match x with
 |(s,i) =>
 chk (inb i s.length) (
  chk (Gg i s.length s.length) (
  cond ((hpre (s.drop (i:Int).toNat) [120,39])) (
   chk (Gg (wr .i64 (i+2)) s.length s.length) (
   cond (decide ((N9 (s.drop ((wr .i64 (i+2)):Int).toNat) 39)<0)) (
    some ((Tok.mk 0 i [] 0),(-1))) (
    chk (Gg (wr .i64 (i+2)) (wr .i64 ((wr .i64 (i+2))+(N9 (s.drop ((wr .i64 (i+2)):Int).toNat) 39))) s.length) (
    (Aw6 (cut s (wr .i64 (i+2)) (wr .i64 ((wr .i64 (i+2))+(N9 (s.drop ((wr .i64 (i+2)):Int).toNat) 39))))).bind fun(x,x1) =>
     cond (!decide (x1=0)) (
     some ((Tok.mk 5 i x 0),(-1))) (
     cond (decide (1000<(x.length:Int))) (
      some ((Tok.mk 5 i x 0),(-1))) (
      some ((Tok.mk 5 i x 0),(wr .i64 ((wr .i64 (i+3))+(N9 (s.drop ((wr .i64 (i+2)):Int).toNat) 39)))))))))) (
   cond ((Aff (bat s i))) (
   A5 (fun rec=>Nd rec (fun e vz=>match vz with|(_,v3,_,v5)=>match e with
    |.exit 0 =>
    chk (Gg i v3 s.length) (
     cond (!(Alv (cut s i v3))) (
     some ((Tok.mk 1 v5.pos (cut s i v3) v5.n),(-1))) (
     (Zd s v3).bind fun x2 =>
      cond (!x2) (
      some ((Tok.mk 1 v5.pos (cut s i v3) v5.n),(-1))) (
      some ((Tok.mk 1 v5.pos (cut s i v3) v5.n),v3))))
    |_=>none)) k (s,i,(Tok.mk 0 0 [] 0),(Tok.mk 0 i [] 0))) (
   cond ((Aca (bat s i))) (
    A5 (fun rec=>Mf rec (fun e vz=>match vz with|(_,v9,_,v11)=>match e with
    |.exit 0 =>
     chk (Gg i v9 s.length) (
     cond (!(F9 (cut s i v9))) (
      some ((Tok.mk 2 v11.pos (cut s i v9) v11.n),(-1))) (
      (Zd s v9).bind fun x3 =>
      cond (!x3) (
       some ((Tok.mk 2 v11.pos (cut s i v9) v11.n),(-1))) (
       some ((Tok.mk 2 v11.pos (cut s i v9) v11.n),v9))))
    |_=>none)) k (s,i,(Tok.mk 0 0 [] 0),(Tok.mk 0 i [] 0))) (
    cond ((Abk (bat s i))) (
    A5 (fun rec=>Nq rec (fun e vz=>match vz with|(_,v15,_,v17)=>match e with
     |.exit 0 =>
     chk (Gg i v15 s.length) (
      (Aon (cut s i v15)).bind fun(x4,x5) =>
      chk (Gg i v15 s.length) (
       cond (!x5) (
       some ((Tok.mk 3 v17.pos (cut s i v15) x4),(-1))) (
       (Zd s v15).bind fun x6 =>
        cond (!x6) (
        some ((Tok.mk 3 v17.pos (cut s i v15) x4),(-1))) (
        some ((Tok.mk 3 v17.pos (cut s i v15) x4),v15)))))
     |_=>none)) k (s,i,(Tok.mk 0 0 [] 0),(Tok.mk 0 i [] 0))) (
    cond (decide ((bat s i)=39)) (
     (Aog s (wr .i64 (i+1))).bind fun(x7,x8) =>
     cond (!decide ((Ua (Val.mk 4 0 x7))=0)) (
      some ((Tok.mk 4 i x7 0),(-1))) (
      some ((Tok.mk 4 i x7 0),x8))) (
     chk (Gg i s.length s.length) (
     (A45 (s.drop (i:Int).toNat)).bind fun x9 =>
      chk (Gg i (wr .i64 (i+x9)) s.length) (
      cond (decide (x9=0)) (
       some ((Tok.mk 6 i (cut s i (wr .i64 (i+x9))) 0),(-1))) (
       some ((Tok.mk 6 i (cut s i (wr .i64 (i+x9))) 0),(wr .i64 (i+x9)))))))))))))
theorem A0f(k:Nat):∀(x:HV [.str,.int .i64]),Ci (Rn _ k) Tryz.f157 [.str,.int .i64] [.sv .tok,.int .i64] x some=N3 k x
 |(s,i)=>by kernel_rfl
theorem Av5(k:Nat):FnOk Tryz.prog elT glT 157 [.str,.int .i64] [.sv .tok,.int .i64] (N3 k):=by
 refine A1 Tryz.func157 rfl (by kernel_rfl) follows (by kernel_rfl) (n:=0) (by kernel_rfl) (px:=Rn _ k) (fun cx hP hel hgl =>?_) (A0f k)
 have hp1:PxOk cx (Et (HV [.sv .tok,.int .i64]) k):=⟨fun t=>by rw [hP,hel];exact Au Al t,by rw [hgl];rfl⟩
 have hc1:Aj cx (Et (HV [.sv .tok,.int .i64]) k):=Ah rfl (Aa (A4 (by rw [hP,hel,hgl];exact Ah8) (by kernel_rfl)) (Aa (A4 (by rw [hP,hel,hgl];exact Ajn) (by kernel_rfl)) (Aa (A4 (by rw [hP,hel,hgl];exact Ajk) (by kernel_rfl)) Ai)))
 have hq1:CallQOk cx (Et (HV [.sv .tok,.int .i64]) k):=Ab rfl rfl Af Ae
 have hlltoken_0:A6 cx (Et (HV [.sv .tok,.int .i64]) k) (lp Tryz.f110 0):=Awl (fun _ _=>by kernel_rfl) (Ac8 (Wd hp1 hc1 hq1 (by rw [hP];exact follows) (k:=k) (s:=Vo) (step:=Nd) (by kernel_rfl) (Ap1 _ k) (A0 (n:=0) (by kernel_rfl) Aw)) (Ac8 (Wd hp1 hc1 hq1 (by rw [hP];exact follows) (k:=k) (s:=Wu) (step:=Mf) (by kernel_rfl) (Apf _ k) (A0 (n:=0) (by kernel_rfl) Aw)) (Wd hp1 hc1 hq1 (by rw [hP];exact follows) (k:=k) (s:=V6) (step:=Nq) (by kernel_rfl) (Ap5 _ k) (A0 (n:=0) (by kernel_rfl) Aw))))
 have hp0:PxOk cx (Rn (HV [.sv .tok,.int .i64]) k):=⟨fun t=>by rw [hP,hel];exact Au Al t,by rw [hgl];rfl⟩
 have hc0:Aj cx (Rn (HV [.sv .tok,.int .i64]) k):=Ah rfl (Aa (A4 (by rw [hP,hel,hgl];exact Ayi) (by kernel_rfl)) (Aa (A4 (by rw [hP,hel,hgl];exact Aiw) (by kernel_rfl)) (Aa (A4 (by rw [hP,hel,hgl];exact A70) (by kernel_rfl)) (Aa (A4 (by rw [hP,hel,hgl];exact Ah8) (by kernel_rfl)) (Aa (A4 (by rw [hP,hel,hgl];exact A6a) (by kernel_rfl)) (Aa (A4 (by rw [hP,hel,hgl];exact A4q) (by kernel_rfl)) (Aa (A4 (by rw [hP,hel,hgl];exact Aiv) (by kernel_rfl)) (Aa (A4 (by rw [hP,hel,hgl];exact U0) (by kernel_rfl)) (Aa (A4 (by rw [hP,hel,hgl];exact Ajk) (by kernel_rfl)) (Aa (A4 (by rw [hP,hel,hgl];exact A2m) (by kernel_rfl)) (Aa (A4 (by rw [hP,hel,hgl];exact Ayy) (by kernel_rfl)) (Aa (A4 (by rw [hP,hel,hgl];exact Al2) (by kernel_rfl)) (Aa (A4 (by rw [hP,hel,hgl];exact A43) (by kernel_rfl)) (Aa (Bm hp1 hc1 hq1 (by rw [hP];exact follows) (by rw [hP];exact Tryz.func110) rfl (by kernel_rfl) (by kernel_rfl) (n:=1) (by kernel_rfl) ((Cg Aw hlltoken_0))) Ai))))))))))))))
 have hq0:CallQOk cx (Rn (HV [.sv .tok,.int .i64]) k):=Ab rfl rfl Af Ae
 exact⟨hp0,hc0,hq0,Aw⟩
def Aeo(s:Str) (i:Int):Option (Tok×Int):=if s.length≤20000 then N3 20001 (s,i) else none
def Aiz:FT [.str,.int .i64] [.sv .tok,.int .i64]:=fun x=>Aeo x.1 x.2
theorem Ay5:FnOk Tryz.prog elT glT 157 [.str,.int .i64] [.sv .tok,.int .i64] Aiz :=.fin 0 Av5 fun(s,i) r hb hx=>⟨20001,by
 simp only [Aiz,Aeo] at hx
 split at hx
 ·exact hx
 ·cases hx⟩
theorem Zg{R:Type}{kx:Ex→Gy→Option R}{s:Str}(w w1:Tok) {a:Int→Option R}(hs:ln s.length) (h1:∀j,kx (.exit 0) (s,j,w,w1)=a j):∀(k i:Nat),i≤s.length→s.length-i<k→A5 (fun rec=>Nd rec kx) k (s,(i:Int),w,w1)=a (Lp.runTo Lp.isUp s i)
 |0,i,_,h=>absurd h (Zm1 _)
 |k+1,i,hi,h=>by
  rw [Bu]
  by_cases hl:i<s.length
  ·have ih:=Zg w w1 hs h1 k (i+1) (by omega) (by omega)
   have eb:Sx.byt s (i:Int)=(s[i].toNat:Int):=Di hl
   simp only [Nd,Bg hl hs,ih,h1,Di hl,Bp hl,Ah4]
   rw [Ze1 (show(i:Int)<(s.length:Int) by omega)]
   cases hp:Lp.isUp (s[i].toNat:Int) with
   |true =>
    have:=Lp.runTo_yes (p:=Lp.isUp) (l:=s) (j:=i) (by omega) (by rw [eb];exact hp)
    rw [←this]
    rfl
   |false =>
    have:=Lp.runTo_no (p:=Lp.isUp) (l:=s) (j:=i) (by omega) (by rw [eb];exact hp)
    rw [this]
    rfl
  ·have:=Lp.runTo_end (p:=Lp.isUp) (l:=s) (j:=i) (by omega)
   simp only [Nd,h1]
   rw [Zd1 (by omega),this]
   rfl
theorem Zi{R:Type}{kx:Ex→Gz→Option R}{s:Str}(w w1:Tok) {a:Int→Option R}(hs:ln s.length) (h1:∀j,kx (.exit 0) (s,j,w,w1)=a j):∀(k i:Nat),i≤s.length→s.length-i<k→A5 (fun rec=>Mf rec kx) k (s,(i:Int),w,w1)=a (Lp.runTo Lp.isIn s i)
 |0,i,_,h=>absurd h (Zm1 _)
 |k+1,i,hi,h=>by
  rw [Bu]
  by_cases hl:i<s.length
  ·have ih:=Zi w w1 hs h1 k (i+1) (by omega) (by omega)
   have eb:Sx.byt s (i:Int)=(s[i].toNat:Int):=Di hl
   simp only [Mf,Bg hl hs,ih,h1,Di hl,Bp hl,Ahb]
   rw [Ze1 (show(i:Int)<(s.length:Int) by omega)]
   cases hp:Lp.isIn (s[i].toNat:Int) with
   |true =>
    have:=Lp.runTo_yes (p:=Lp.isIn) (l:=s) (j:=i) (by omega) (by rw [eb];exact hp)
    rw [←this]
    rfl
   |false =>
    have:=Lp.runTo_no (p:=Lp.isIn) (l:=s) (j:=i) (by omega) (by rw [eb];exact hp)
    rw [this]
    rfl
  ·have:=Lp.runTo_end (p:=Lp.isIn) (l:=s) (j:=i) (by omega)
   simp only [Mf,h1]
   rw [Zd1 (by omega),this]
   rfl
theorem Zf{R:Type}{kx:Ex→G5→Option R}{s:Str}(w w1:Tok) {a:Int→Option R}(hs:ln s.length) (h1:∀j,kx (.exit 0) (s,j,w,w1)=a j):∀(k i:Nat),i≤s.length→s.length-i<k→A5 (fun rec=>Nq rec kx) k (s,(i:Int),w,w1)=a (Lp.runTo Lp.isDi s i)
 |0,i,_,h=>absurd h (Zm1 _)
 |k+1,i,hi,h=>by
  rw [Bu]
  by_cases hl:i<s.length
  ·have ih:=Zf w w1 hs h1 k (i+1) (by omega) (by omega)
   have eb:Sx.byt s (i:Int)=(s[i].toNat:Int):=Di hl
   simp only [Nq,Bg hl hs,ih,h1,Di hl,Bp hl,Aim]
   rw [Ze1 (show(i:Int)<(s.length:Int) by omega)]
   cases hp:Lp.isDi (s[i].toNat:Int) with
   |true =>
    have:=Lp.runTo_yes (p:=Lp.isDi) (l:=s) (j:=i) (by omega) (by rw [eb];exact hp)
    rw [←this]
    rfl
   |false =>
    have:=Lp.runTo_no (p:=Lp.isDi) (l:=s) (j:=i) (by omega) (by rw [eb];exact hp)
    rw [this]
    rfl
  ·have:=Lp.runTo_end (p:=Lp.isDi) (l:=s) (j:=i) (by omega)
   simp only [Nq,h1]
   rw [Zd1 (by omega),this]
   rfl
theorem Z8{i j:Int}{n:Nat}(h : 0≤i∧i≤j∧j≤n):Gg i j n=true:=by simp [Gg,h]
theorem Asa{n:Int}(h : 0≤n∧n≤1000000):wr .i64 n=n:=Zk (by simp only [inI];omega)
theorem Aza{x:Str}(h:x≠[]):Aon x=some (A76 x):=by
 cases x with
 |nil=>exact absurd rfl h
 |cons b l=>rfl
theorem A3m{x:Str}(h:x≠[]):A45 x=some (Lp.signF x):=by
 cases x with
 |nil=>exact absurd rfl h
 |cons b l=>rfl
theorem Ajo{s:Str}{i:Int}(h : 0≤i∧i≤s.length):Zd s i=some (Lp.aloneF s i):=if_pos h
theorem Av1(x:Str):J2 x=Lp.visF x:=by
 have e:∀b:UInt8,vis b=Lp.vis (b.toNat:Int):=fun b=>by
  simp only [vis,Lp.vis]
  rw [show decide (32≤b.toNat)=decide (32≤(b.toNat:Int)) from Zy1.2 (by omega),show decide (b.toNat≤126)=decide ((b.toNat:Int)≤126) from Zy1.2 (by omega)]
 simp only [J2,Lp.visF]
 congr 1
 funext b
 exact e b
theorem Aro(x:Str):Ch (Val.mk 4 0 x)=Lp.rightF 4 0 x:=by
 show cond (decide ((x.length:Int)≤1000)) (J2 x) false=(decide ((x.length:Int)≤1000)&&Lp.visF x)
 rw [Av1]
 cases decide ((x.length:Int)≤1000)<;>rfl
theorem Apd(x:Str):decide (Ua (Val.mk 4 0 x)=0)=Lp.rightF 4 0 x:=by
 have key:∀b:Bool,decide (cond (!b) (2:Int) 0=0)=b:=by decide
 rw [←Aro]
 exact key _
theorem Au1{s:Str}{i:Int}(hl : 0≤i∧i<s.length) (hs:s.length≤20000):match Lp.tokF s i with
  |some (k,x,n,e)=>Aeo s i=some (⟨k,i,x,n⟩,e)
  |none=>∃t,Aeo s i=some (t, -1):=by
 have hln:ln s.length:=by simp only [ln];omega
 have hd:(s.drop i.toNat).length=s.length-i.toNat:=Za2
 have hd2:(s.drop (i+2).toNat).length=s.length-(i+2).toNat:=Za2
 have hne:s.drop i.toNat≠[]:=List.ne_nil_of_length_pos (by omega)
 obtain⟨m,rfl⟩:=Int.eq_ofNat_of_zero_le hl.1
 have hm:m<s.length:=by omega
 have ep:∀p q,hpre p q=Lp.pre p q:=fun _ _=>rfl
 have eb:bat s (m:Int)=Sx.byt s (m:Int):=rfl
 have e39:N9 (s.drop ((m:Int)+2).toNat) 39=Lib.indexByte (s.drop ((m:Int)+2).toNat) 39:=rfl
 simp only [Aeo,if_pos hs,N3,Bp hm,Z8 (show 0≤(m:Int)∧(m:Int)≤(s.length:Int)∧(s.length:Int)≤s.length by omega),ep,eb,Ah4,Ah6,Aim,chk,Am,Lp.tokF,Asa (show 0≤(m:Int)+2∧(m:Int)+2≤1000000 by omega),Asa (show 0≤(m:Int)+3∧(m:Int)+3≤1000000 by omega),Asa (show 0≤(m:Int)+1∧(m:Int)+1≤1000000 by omega)]
 cases hx:Lp.pre (s.drop (m:Int).toNat) [120,39] with
 |true =>
  have h2 : 2≤(s.drop (m:Int).toNat).length:=by
   simp only [Lp.pre,Zb1,Zg1,Zf1,Zi1] at hx
   omega
  have hib:=Lp.indexByte_in (s.drop ((m:Int)+2).toNat) 39
  simp only [if_true,Am]
  rw [Z8 (show 0≤(m:Int)+2∧(m:Int)+2≤(s.length:Int)∧(s.length:Int)≤s.length by omega),e39,Am]
  generalize Lib.indexByte (s.drop ((m:Int)+2).toNat) 39=z at hib ⊢
  by_cases hz:z<0
  ·rw [if_pos hz,Ze1 hz]
   exact⟨_,rfl⟩
  ·rw [if_neg hz,Zd1 hz,Asa (show 0≤(m:Int)+2+z∧(m:Int)+2+z≤1000000 by omega),Asa (show 0≤(m:Int)+3+z∧(m:Int)+3+z≤1000000 by omega),Z8 (show 0≤(m:Int)+2∧(m:Int)+2≤(m:Int)+2+z∧(m:Int)+2+z≤s.length by omega),An,Am]
   have hcl:=Lp.cut_length s ((m:Int)+2) ((m:Int)+2+z) (by omega)
   have ec:cut s ((m:Int)+2) ((m:Int)+2+z)=Sx.cut s ((m:Int)+2) ((m:Int)+2+z):=rfl
   rw [ec]
   generalize Sx.cut s ((m:Int)+2) ((m:Int)+2+z)=y at hcl ⊢
   have eu:Aw6 y=some (unP y):=if_pos (by omega)
   rw [eu,unP]
   cases (if y.length % 2=0 then Lp.unGo y [] else none) with
   |none=>exact⟨_,rfl⟩
   |some b =>
    by_cases hb : 1000<(b.length:Int)
    ·simp only [Zc1]
     rw [if_pos hb,Ze1 hb]
     exact⟨_,rfl⟩
    ·simp only [Zc1]
     rw [if_neg hb,Zd1 hb]
     rfl
 |false =>
  simp only [An,Zj2,if_false]
  cases hu:Lp.isUp (Sx.byt s (m:Int)) with
  |true =>
   have hr:=Lp.runTo_range Lp.isUp s m (by omega)
   simp only [Am,if_true]
   rw [Zg (s:=s) (w:=Tok.mk 0 0 [] 0) (w1:=Tok.mk 0 m [] 0) (a:=fun v3=>cond (Gg (m:Int) v3 s.length) (cond (!(Alv (cut s m v3))) (some ((Tok.mk 1 m (cut s m v3) 0),(-1))) ((Zd s v3).bind fun x2=>cond (!x2) (some ((Tok.mk 1 m (cut s m v3) 0),(-1))) (some ((Tok.mk 1 m (cut s m v3) 0),v3)))) none) hln (fun _=>rfl) 20001 m (by omega) (by omega)]
   rw [Z8 (by omega),Ajo (by omega),A38]
   have ec:cut s (m:Int) (Lp.runTo Lp.isUp s m)=Sx.cut s (m:Int) (Lp.runTo Lp.isUp s m):=rfl
   rw [ec]
   cases Lp.wordF (Sx.cut s (m:Int) (Lp.runTo Lp.isUp s m)) with
   |false=>exact⟨_,rfl⟩
   |true =>
    cases Lp.aloneF s (Lp.runTo Lp.isUp s m) with
    |false=>exact⟨_,rfl⟩
    |true=>rfl
  |false =>
   simp only [An,Zj2,if_false]
   cases hu2:Lp.isLo (Sx.byt s (m:Int)) with
   |true =>
    have hr:=Lp.runTo_range Lp.isIn s m (by omega)
    simp only [Am,if_true]
    rw [Zi (s:=s) (w:=Tok.mk 0 0 [] 0) (w1:=Tok.mk 0 m [] 0) (a:=fun v3=>cond (Gg (m:Int) v3 s.length) (cond (!(F9 (cut s m v3))) (some ((Tok.mk 2 m (cut s m v3) 0),(-1))) ((Zd s v3).bind fun x2=>cond (!x2) (some ((Tok.mk 2 m (cut s m v3) 0),(-1))) (some ((Tok.mk 2 m (cut s m v3) 0),v3)))) none) hln (fun _=>rfl) 20001 m (by omega) (by omega)]
    rw [Z8 (by omega),Ajo (by omega)]
    have ec:cut s (m:Int) (Lp.runTo Lp.isIn s m)=Sx.cut s (m:Int) (Lp.runTo Lp.isIn s m):=rfl
    rw [ec]
    simp only [F9]
    cases Lp.nameF (Sx.cut s (m:Int) (Lp.runTo Lp.isIn s m)) with
    |false=>exact⟨_,rfl⟩
    |true =>
     cases Lp.aloneF s (Lp.runTo Lp.isIn s m) with
     |false=>exact⟨_,rfl⟩
     |true=>rfl
   |false =>
    simp only [An,Zj2,if_false]
    cases hu3:Lp.isDi (Sx.byt s (m:Int)) with
    |true =>
     have hr:=Lp.runTo_range Lp.isDi s m (by omega)
     have hg:=Lp.runTo_gt (p:=Lp.isDi) (by omega) hu3
     have hcl:=Lp.cut_length s (m:Int) (Lp.runTo Lp.isDi s m) (by omega)
     simp only [Am,if_true]
     rw [Zf (s:=s) (w:=Tok.mk 0 0 [] 0) (w1:=Tok.mk 0 m [] 0) (a:=fun v3=>cond (Gg (m:Int) v3 s.length) ((Aon (cut s m v3)).bind fun(x4,x5)=>cond (Gg (m:Int) v3 s.length) (cond (!x5) (some ((Tok.mk 3 m (cut s m v3) x4),(-1))) ((Zd s v3).bind fun x6=>cond (!x6) (some ((Tok.mk 3 m (cut s m v3) x4),(-1))) (some ((Tok.mk 3 m (cut s m v3) x4),v3)))) none) none) hln (fun _=>rfl) 20001 m (by omega) (by omega)]
     have ec:cut s (m:Int) (Lp.runTo Lp.isDi s m)=Sx.cut s (m:Int) (Lp.runTo Lp.isDi s m):=rfl
     rw [Z8 (by omega),Ajo (by omega),ec]
     generalize Sx.cut s (m:Int) (Lp.runTo Lp.isDi s m)=y at hcl ⊢
     rw [Aza (List.ne_nil_of_length_pos (by omega)),A76]
     cases Lp.numGo y 0 with
     |none=>exact⟨_,rfl⟩
     |some n =>
      simp only [Zc1,Am]
      have e0:(decide (y=[48]) || !decide (bat y 0=48))=(decide (y=[48])||Sx.byt y 0 != 48):=rfl
      rw [e0]
      cases (decide (y=[48])||Sx.byt y 0 != 48) with
      |false=>exact⟨_,rfl⟩
      |true =>
       cases Lp.aloneF s (Lp.runTo Lp.isDi s m) with
       |false=>exact⟨_,rfl⟩
       |true=>rfl
    |false =>
     simp only [An,Zj2,if_false]
     by_cases h39:Sx.byt s (m:Int)=39
     ·have hqi:=Lp.qGo_in _ (s.drop ((m:Int)+1).toNat) [] ((m:Int)+1) (Zn1 _) (by omega)
      have eq:Aog s ((m:Int)+1)=some (Lp.qGo (s.drop ((m:Int)+1).toNat) [] ((m:Int)+1)):=if_pos (by omega)
      rw [Ze1 h39,if_pos h39,eq]
      simp only [Am,Zc1,Apd]
      generalize Lp.qGo (s.drop ((m:Int)+1).toNat) [] ((m:Int)+1)=q at hqi ⊢
      obtain⟨y,z⟩:=q
      cases Lp.rightF 4 0 y with
      |false=>exact⟨_,rfl⟩
      |true =>
       simp only [if_true,Zt1,An]
       by_cases hz:z<0
       ·rw [if_pos hz]
        obtain rfl:z = -1:=by simp only at hqi;omega
        exact⟨_,rfl⟩
       ·rw [if_neg hz]
     ·have hsi:=Lp.signF_in (s.drop (m:Int).toNat) (by omega)
      rw [Zd1 h39,if_neg h39,A3m hne]
      simp only [An,Zc1]
      generalize Lp.signF (s.drop (m:Int).toNat)=z at hsi ⊢
      rw [Asa (show 0≤(m:Int)+z∧(m:Int)+z≤1000000 by omega),Z8 (by omega)]
      by_cases hz:z=0
      ·rw [Ze1 hz,if_pos hz]
       exact⟨_,rfl⟩
      ·rw [Zd1 hz,if_neg hz]
       rfl
def Ada:Sig:=⟨38,[(0,.str),(2,.sl .tok true),(3,.int .i64),(4,.int .i64),(5,.sl .tok true),(6,.int .i64)],[],[],0,0,0,[],[]⟩
abbrev M5:=Str×List Tok×Int×Int×List Tok×Int
def Aax{R:Type}(rec:M5→Option R) (kx:Ex→M5→Option R) (v:M5):Option R:=match v with
 |(v,v1,v2,v3,v4,v5) =>
 cond (decide (v5<(v.length:Int))) (
  chk (inb v5 v.length) (
  cond (decide (0≤(N9 [32,9,10,13] (bat v v5)))) (
   rec (v,v1,v2,v3,v4,(wr .i64 (v5+1)))) (
   (Aeo v v5).bind fun(x,x1) =>
   cond (decide (x1<0)) (
    kx .ret (v,[],v5,11,v4,v5)) (
    chk (decide (v4.length+1≤Be)) (
    rec (v,v1,v2,v3,(v4++[x]),x1)))))) (
  kx (.exit 0) (v,v1,v2,v3,v4,v5))
def Sv(R:Type) (k:Nat):Px R:=⟨A7 ttL,glT,Aq [(156,As [.str,.int .u8] [.int .i64] Af9),(157,As [.str,.int .i64] [.sv .tok,.int .i64] Aiz)],Ak [],Av [(5,Bc k Ada (Aax))],tbl []⟩
theorem A0m(R:Type) (k:Nat):∀(fr:List Fr) (rec:M5→Option R) (kx:Ex→M5→Option R) (v:M5),Bn (Sv R k) Ada (lp Tryz.f116 0) fr rec kx v=Aax rec kx v
 |fr,rec,kx,(v,v1,v2,v3,v4,v5)=>by kernel_rfl
def Ad6(k:Nat) (x:HV [.str]):Option (HV [.sl .tok true,.int .i64,.int .i64]):=match x with
 |s =>
 cond (decide (20000<(s.length:Int))) (
  some ([],0,3)) (
  A5 (fun rec=>Aax rec (fun e vz=>match vz with|(_,v7,v8,v9,v10,_)=>match e with
  |.ret =>
   some (v7,v8,v9)
  |.exit 0 =>
   some (v10,0,0)
  |_=>none)) k (s,[],0,0,[],0))
theorem Ba1(k:Nat):∀(x:HV [.str]),Ci (Sv _ k) Tryz.f116 [.str] [.sl .tok true,.int .i64,.int .i64] x some=Ad6 k x
 |s=>by kernel_rfl
theorem A7e(k:Nat):FnOk Tryz.prog elT glT 116 [.str] [.sl .tok true,.int .i64,.int .i64] (Ad6 k):=by
 refine A1 Tryz.func116 rfl (by kernel_rfl) follows (by kernel_rfl) (n:=1) (by kernel_rfl) (px:=Sv _ k) (fun cx hP hel hgl =>?_) (Ba1 k)
 have hp0:PxOk cx (Sv (HV [.sl .tok true,.int .i64,.int .i64]) k):=⟨fun t=>by rw [hP,hel];exact Au Al t,by rw [hgl];rfl⟩
 have hc0:Aj cx (Sv (HV [.sl .tok true,.int .i64,.int .i64]) k):=Ah rfl (Aa (A4 (by rw [hP,hel,hgl];exact Aiw) (by kernel_rfl)) (Aa (A4 (by rw [hP,hel,hgl];exact Ay5) (by kernel_rfl)) Ai))
 have hq0:CallQOk cx (Sv (HV [.sl .tok true,.int .i64,.int .i64]) k):=Ab rfl rfl Af Ae
 have hllall_0:A6 cx (Sv (HV [.sl .tok true,.int .i64,.int .i64]) k) (lp Tryz.f116 0):=A8 hp0 hc0 hq0 (by rw [hP];exact follows) (k:=k) (s:=Ada) (step:=Aax) (fun _ _=>by kernel_rfl) (by kernel_rfl) (A0m _ k) (A0 (n:=0) (by kernel_rfl) Aw)
 exact⟨hp0,hc0,hq0,(Cg Aw hllall_0)⟩
def A63(s:Str):List Tok×Int×Int:=if 20000<(s.length:Int) then([],0,3) else match Lp.allF s with
 |.error i=>([],i,11)
 |.ok ts=>(ts,0,0)
abbrev Gq (s:Str):List Tok×Int×Int:=A63 s
def An4:FT [.str] [.sl .tok true,.int .i64,.int .i64]:=fun x=>some (Gq x)
theorem A40(c:Int):decide (0≤N9 [32,9,10,13] c)=Lp.blankF c:=rfl
theorem Adb{R:Type}{kx:Ex→M5→Option R}{s:Str}{c:Except Int (List Tok)→Option R}(hs:s.length≤20000) (h1:∀a i j,kx .ret (s,[],i,11,a,j)=c (.error i)) (h2:∀q r t a j,kx (.exit 0) (s,q,r,t,a,j)=c (.ok a)):∀(k:Nat) (i:Int) (f:Nat) (q:List Tok) (r t:Int) (a:List Tok),(a.length:Int)≤i→0≤i→i≤s.length→(s.length:Int)-i<k→(s.length:Int)-i<f→A5 (fun rec=>Aax rec kx) k (s,q,r,t,a,i)=c (Lp.allGo f s i a)
 |0,i,f,q,r,t,a,_,_,_,h,_=>by omega
 |k+1,i,0,q,r,t,a,_,_,_,_,h=>by omega
 |k+1,i,f+1,q,r,t,a,ha,h0,hi,h,hf=>by
  rw [Bu]
  by_cases hl:i<s.length
  ·have ea:decide (a.length+1≤Be)=true:=Ze1 (by simp only [Be];omega)
   have eb:bat s i=Sx.byt s i:=rfl
   simp only [Aax,Ao1 (show 0≤i∧i<(s.length:Int) from⟨h0,hl⟩),A40,ea,eb,Lp.allGo]
   rw [Ze1 hl,if_neg (show ¬(s.length:Int)≤i by omega)]
   simp only [Am,chk]
   cases hbl:Lp.blankF (Sx.byt s i) with
   |true =>
    rw [Asa (by omega)]
    simp only [Am,if_true]
    exact Adb hs h1 h2 k (i+1) f q r t a (by omega) (by omega) (by omega) (by omega) (by omega)
   |false =>
    have ht:=Au1 (s:=s) (i:=i) ⟨h0,hl⟩ hs
    simp only [An,Zj2,if_false]
    cases hk:Lp.tokF s i with
    |none =>
     rw [hk] at ht
     obtain⟨u,hu⟩:=ht
     rw [hu]
     exact h1 _ _ _
    |some y =>
     obtain⟨y1,y2,y3,e⟩:=y
     rw [hk] at ht
     have hte:=Lp.tok_end ⟨h0,hl⟩ hk
     simp only at ht
     rw [ht]
     simp only [Zc1]
     rw [Zd1 (show ¬e<0 by omega),An]
     exact Adb hs h1 h2 k e f q r t (a++[⟨y1,i,y2,y3⟩]) (by simp only [Zh1,Zf1,Zi1];omega) (by omega) (by omega) (by omega) (by omega)
  ·simp only [Aax,h2,Lp.allGo]
   rw [Zd1 hl,if_pos (show(s.length:Int)≤i by omega)]
   rfl
theorem Axm:FnOk Tryz.prog elT glT 116 [.str] [.sl .tok true,.int .i64,.int .i64] An4 :=.fin 0 A7e fun s r hb hx=>⟨20001,by
 simp only [An4,Za1] at hx
 rw [←hx]
 simp only [Ad6,Gq,A63]
 by_cases hbig : 20000<(s.length:Int)
 ·rw [Ze1 hbig,if_pos hbig]
  rfl
 ·rw [Zd1 hbig,if_neg hbig,An]
  refine(Adb (s:=s) (c:=fun o=>match o with|.error i=>some ([],i,(11:Int))|.ok ts=>some (ts,(0:Int),(0:Int))) (by omega) (fun _ _ _ =>?_) (fun _ _ _ _ _ =>?_) 20001 0 (s.length+1) [] 0 0 [] (by simp) (by omega) (by omega) (by omega) (by omega)).trans ?_
  ·rfl
  ·rfl
  ·show _=some (match Lp.allGo (s.length+1) s 0 [] with|.error i=>([],i,(11:Int))|.ok ts=>(ts,(0:Int),(0:Int)))
   cases Lp.allGo (s.length+1) s 0 []<;>rfl⟩
end Go.Proofs.YthndhaolemgbdaaGreatDoor
