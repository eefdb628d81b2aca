/- Texts of the proof,one behind the other: Ad,Bw,Shj,Sj,Wr,Ws,Vt,Nf,Uq,Us,Ya,Yb,Lx,Ly. -/
import Derived.Test.YthndhaolemgbdaaGreatDoorQ5
import Derived.Lib.Walk
import Derived.Lib.Strings
import Derived.Lib.Slices
import Derived.Lib.Builder
import Derived.Lib.UnsafeStr
import Derived.Lib.FrozenHead
import Derived.Laws.Externs
import Derived.Shelf.RegionOpenPlain
import Derived.Shelf.Strings.OnBuilder
set_option linter.all false
namespace Go.Proofs.YthndhaolemgbdaaGreatDoor
open Go.Ax
instance:DecidableEq Stm:=fun a b=>decidable_of_iff (Akt a b=true) (Ao5 a b)
theorem A9m(a b:Stm):Akt a b=decide (a=b):=by
 rw [Bool.eq_iff_iff,Ao5,Zg1]
def Xu(R:Type):Px R:=⟨Bd ttL,glT,Au [],Am [],Aw [],tbl []⟩
def W9(x:HV [.int .i64]):Option (HV [.bool]):=match x with
 |n =>
 cond (decide (1≤n)) (
  some (decide (n≤100))) (
  some false)
theorem Bdl:∀(x:HV [.int .i64]),Cs (Xu _) Tryz.f66 [.int .i64] [.bool] x some=W9 x
 |n=>by kernel_rfl
theorem Ba9:FnOk Tryz.prog elT glT 66 [.int .i64] [.bool] (W9):=by
 refine A3 Tryz.func66 rfl (by kernel_rfl) follows (by kernel_rfl) (n:=0) (by kernel_rfl) (px:=Xu _) (fun cx hP hel hgl =>?_) (Bdl)
 have hp0:PxOk cx (Xu (HV [.bool])):=⟨fun t=>by rw [hP,hel];exact Av An t,by rw [hgl];rfl⟩
 have hc0:Al cx (Xu (HV [.bool])):=Af rfl Aj
 have hq0:CallQOk cx (Xu (HV [.bool])):=Ab rfl rfl Ah Ae
 exact⟨hp0,hc0,hq0,Ay⟩
def Dw(n:Int):Bool :=
 cond (decide (1≤n)) (
  (decide (n≤100))) (
  false)
theorem A8b(x:HV [.int .i64]):W9 x=some (Dw x):=by
 first
  |exact rfl
  |simp only [W9,Dw,B7]
def Af5:FT [.int .i64] [.bool]:=fun x=>some (Dw x)
theorem Af1:FnOk Tryz.prog elT glT 66 [.int .i64] [.bool] Af5 :=.fin0 Ba9 fun x _ _ hx=>(A8b x).trans hx
theorem Bgs(n:Nat):Dw (n:Int)=(decide (1≤n)&&decide (n≤100)):=by
 simp only [Dw]
 rw [show decide ((1:Int)≤(n:Int))=decide (1≤n) from Zy1.2 (by omega),show decide ((n:Int)≤100)=decide (n≤100) from Zy1.2 (by omega)]
 cases decide (1≤n)<;>rfl
def Ac6:Sig:=⟨26,[(0,.sl .str false),(2,.bool),(5,.sl .str false),(6,.int .i64),(7,.int .i64)],[],[],0,0,0,[],[]⟩
abbrev Kz:=List Str×Bool×List Str×Int×Int
def Ww{R:Type}(rec:Kz→Option R) (kx:Ex→Kz→Option R) (v:Kz):Option R:=match v with
 |(v,v1,v2,v3,v4) =>
 cond (decide (v4<v3)) (
  chk (inb v4 v2.length) (
  cond (!(B1 (at' .str v2 v4))) (
   kx .ret (v,false,v2,v3,v4)) (
   chk (H1 0 v4 v.length) (
   cond ((Au1 (v.take (v4:Int).toNat) (at' .str v2 v4))) (
    kx .ret (v,false,v2,v3,v4)) (
    rec (v,v1,v2,v3,(wr .i64 (v4+1)))))))) (
  kx (.exit 0) (v,v1,v2,v3,v4))
def P1(R:Type) (k:Nat):Px R:=⟨Bd ttL,glT,Au [(63,As [.str] [.bool] V5),(44,As [.sl .str false,.str] [.bool] Ay8)],Am [],Aw [(2,Be k Ac6 (Ww))],tbl []⟩
theorem A2j(R:Type) (k:Nat):∀(fr:List Fr) (rec:Kz→Option R) (kx:Ex→Kz→Option R) (v:Kz),Bn (P1 R k) Ac6 (lp Tryz.f67 0) fr rec kx v=Ww rec kx v
 |fr,rec,kx,(v,v1,v2,v3,v4)=>by kernel_rfl
def Acv(k:Nat) (x:HV [.sl .str false]):Option (HV [.bool]):=match x with
 |l =>
 A0 (fun rec=>Ww rec (fun e vz=>match vz with|(v5,v6,_,_,_)=>match e with
  |.ret =>
  some v6
  |.exit 0 =>
  some (decide ((v5.length:Int)≤100))
  |_=>none)) k (l,false,l,(l.length:Int),0)
theorem Bee(k:Nat):∀(x:HV [.sl .str false]),Cs (P1 _ k) Tryz.f67 [.sl .str false] [.bool] x some=Acv k x
 |l=>by kernel_rfl
theorem Bap(k:Nat):FnOk Tryz.prog elT glT 67 [.sl .str false] [.bool] (Acv k):=by
 refine A3 Tryz.func67 rfl (by kernel_rfl) follows (by kernel_rfl) (n:=1) (by kernel_rfl) (px:=P1 _ k) (fun cx hP hel hgl =>?_) (Bee k)
 have hp0:PxOk cx (P1 (HV [.bool]) k):=⟨fun t=>by rw [hP,hel];exact Av An t,by rw [hgl];rfl⟩
 have hc0:Al cx (P1 (HV [.bool]) k):=Af rfl (Aa (A7 (by rw [hP,hel,hgl];exact Zd) (by kernel_rfl)) (Aa (A7 (by rw [hP,hel,hgl];exact A4r) (by kernel_rfl)) Aj))
 have hq0:CallQOk cx (P1 (HV [.bool]) k):=Ab rfl rfl Ah Ae
 have hlaonce_0:A8 cx (P1 (HV [.bool]) k) (lp Tryz.f67 0):=Ba hp0 hc0 hq0 (by rw [hP];exact follows) (k:=k) (s:=Ac6) (step:=Ww) (fun _ _=>by kernel_rfl) (by kernel_rfl) (A2j _ k) (Az (n:=0) (by kernel_rfl) Ay)
 exact⟨hp0,hc0,hq0,(Cj Ay hlaonce_0)⟩
def Ael:List Str→List Str→Bool
 |_,[]=>true
 |seen,s::r=>B1 s && !seen.contains s&&Ael (seen++[s]) r
def Fs(l:List Str):Bool:=Ael [] l&&decide (l.length≤100)
def Agf:FT [.sl .str false] [.bool]:=fun x=>some (Fs x)
theorem A0c{l:List Str}{i:Nat}(hi:i<l.length):l.take (i+1)=l.take i++[l[i]]:=by
 rw [List.take_add_one,Zo1 hi]
 rfl
theorem A2c{R:Type}{kx:Ex→Kz→Option R}{l:List Str}{c:Bool→Option R}(hn:ln l.length) (h1:∀i,kx .ret (l,false,l,(l.length:Int),i)=c false) (h2:∀q i,kx (.exit 0) (l,q,l,(l.length:Int),i)=c true) (k:Nat) (hk:l.length<k) :
  A0 (fun rec=>Ww rec kx) k (l,false,l,(l.length:Int),0)=c (Ael [] l):=by
 refine(Dk l.length (fun i=>(l,false,l,(l.length:Int),(i:Int))) (fun i=>c (Ael (l.take i) (l.drop i))) (fun i hi rec hr =>?_) (fun rec =>?_) k 0 (Nat.zero_le _) (by omega)).trans (by rw [Zq1,List.take_zero])
 ·have hu:H1 0 (i:Int) l.length=true:=by simp [H1];omega
  simp only [Ww,Gm hi,Ai,Bl hi,chk,Bk (c :=.str) hi,Bf hi hn,hr,h1,Bb hi,Ael,hu,Int.toNat_natCast,A6f,A0c hi]
  cases B1 l[i]<;>cases (l.take i).contains l[i]<;>rfl
 ·simp only [Ww,Gh,Ak,h2]
  rw [Zk1 (Zn1 _)]
  rfl
theorem Alv:FnOk Tryz.prog elT glT 67 [.sl .str false] [.bool] Agf :=.fin 0 Bap fun l r hb hx=>⟨l.length+1,by
 simp only [Agf,Za1] at hx
 rw [←hx]
 simp only [Acv]
 refine(A2c (l:=l) (c:=fun b=>cond b (some (decide ((l.length:Int)≤100))) (some false)) hb.1 (fun _=>rfl) (fun _ _=>rfl) (l.length+1) (by omega)).trans ?_
 rw [show decide ((l.length:Int)≤100)=decide (l.length≤100) from Zy1.2 (by omega),Fs]
 cases Ael [] l<;>rfl⟩
theorem Apf:∀(l seen:List Str),Ael seen l=true↔(∀s,s∈l→B1 s=true)∧l.Nodup∧∀s,s∈l→s∉seen
 |[],seen=>by simp [Ael]
 |x::l,seen=>by
  simp only [Ael,Zb1,Bool.not_eq_true',Apf l (seen++[x]),List.mem_cons,List.nodup_cons,List.mem_append,List.not_mem_nil,or_false,not_or]
  rw [←Bool.not_eq_true,List.contains_iff_mem]
  constructor
  ·rintro⟨⟨h1,h2⟩,h3,h4,h5⟩
   exact⟨fun s hs=>hs.elim (fun e=>by rw [e];exact h1) (h3 s),⟨fun hx=>(h5 x hx).2 rfl,h4⟩,fun s hs=>hs.elim (fun e=>by rw [e];exact h2) (fun h=>(h5 s h).1)⟩
  ·rintro⟨h1,⟨h2,h3⟩,h4⟩
   exact⟨⟨h1 x (.inl rfl),h4 x (.inl rfl)⟩,fun s hs=>h1 s (.inr hs),h3,fun s hs=>⟨h4 s (.inr hs),fun e=>h2 (by rw [←e];exact hs)⟩⟩
def Aax:Sig:=⟨19,[(0,.sl .expr false),(4,.int .i64),(7,.int .i64),(8,.int .i64)],[(1,.fn 112 [])],[],80,80,400,[],[]⟩
abbrev I6:=List Xpr×Int×Int×Int
def Q8{R:Type}(rec:I6→Option R) (kx:Ex→I6→Option R) (v:I6):Option R:=match v with
 |(v,v1,v2,v3) =>
 cond (decide (v3<v2)) (
  chk (inb v3 v.length) (
  cond (!(Bp (at' .expr v v3) 30)) (
   kx .ret (v,v3,v2,v3)) (
   rec (v,v1,v2,(wr .i64 (v3+1)))))) (
  kx (.exit 0) (v,v1,v2,v3))
def Ic(R:Type) (_k:Nat):Px R:=⟨Bd ttL,glT,Au [(39,As [.sv .expr,.int .i64] [.bool] S5)],Am [],Aw [],tbl []⟩
noncomputable def Gw (R:Type) (k:Nat):Px R:=⟨Bd ttL,glT,Au [(112,Bg 120 600 (Ic R k) Tryz.f112)],Am [],Aw [(2,Be k Aax (Q8))],tbl []⟩
noncomputable def R2 (R:Type) (k:Nat):Px R:=⟨Bd ttL,glT,Au [(148,Bg 80 400 (Gw R k) Tryz.f148)],Am [],Aw [],tbl []⟩
noncomputable def Tr (R:Type) (k:Nat):Px R:=⟨Bd ttL,glT,Au [(96,Bg 40 200 (R2 R k) Tryz.f96)],Am [],Aw [],tbl []⟩
theorem Axd(R:Type) (k:Nat):∀(fr:List Fr) (rec:I6→Option R) (kx:Ex→I6→Option R) (v:I6),Bn (Gw R k) Aax (lp Tryz.f148 0) fr rec kx v=Q8 rec kx v
 |fr,rec,kx,(v,v1,v2,v3)=>by kernel_rfl
def Yy(k:Nat) (x:HV [.sl .expr false]):Option (HV [.bool]):=match x with
 |l =>
 cond (decide ((l.length:Int)≤100)) (
  A0 (fun rec=>Q8 rec (fun e vz=>match vz with|(_,v5,_,_)=>match e with
  |.ret =>
   some (!(decide (0≤v5)))
  |.exit 0 =>
   some true
  |_=>none)) k (l,0,(l.length:Int),0)) (
  some false)
theorem Ba3(k:Nat):∀(x:HV [.sl .expr false]),Cs (Tr _ k) Tryz.f68 [.sl .expr false] [.bool] x some=Yy k x
 |l=>by kernel_rfl
theorem A3h(k:Nat):FnOk Tryz.prog elT glT 68 [.sl .expr false] [.bool] (Yy k):=by
 refine A3 Tryz.func68 rfl (by kernel_rfl) follows (by kernel_rfl) (n:=0) (by kernel_rfl) (px:=Tr _ k) (fun cx hP hel hgl =>?_) (Ba3 k)
 have hp3:PxOk cx (Ic (HV [.bool]) k):=⟨fun t=>by rw [hP,hel];exact Av An t,by rw [hgl];rfl⟩
 have hc3:Al cx (Ic (HV [.bool]) k):=Af rfl (Aa (A7 (by rw [hP,hel,hgl];exact Tu) (by kernel_rfl)) Aj)
 have hq3:CallQOk cx (Ic (HV [.bool]) k):=Ab rfl rfl Ah Ae
 have hp2:PxOk cx (Gw (HV [.bool]) k):=⟨fun t=>by rw [hP,hel];exact Av An t,by rw [hgl];rfl⟩
 have hc2:Al cx (Gw (HV [.bool]) k):=Af rfl (Aa (Bv hp3 hc3 hq3 (by rw [hP];exact follows) (by rw [hP];exact Tryz.func112) rfl (by kernel_rfl) (by kernel_rfl) (n:=0) (by kernel_rfl) (Ay)) Aj)
 have hq2:CallQOk cx (Gw (HV [.bool]) k):=Ab rfl rfl Ah Ae
 have hlaexprs_0:A8 cx (Gw (HV [.bool]) k) (lp Tryz.f148 0):=Ba hp2 hc2 hq2 (by rw [hP];exact follows) (k:=k) (s:=Aax) (step:=Q8) (fun _ _=>by kernel_rfl) (by kernel_rfl) (Axd _ k) (Az (n:=0) (by kernel_rfl) Ay)
 have hp1:PxOk cx (R2 (HV [.bool]) k):=⟨fun t=>by rw [hP,hel];exact Av An t,by rw [hgl];rfl⟩
 have hc1:Al cx (R2 (HV [.bool]) k):=Af rfl (Aa (Bv hp2 hc2 hq2 (by rw [hP];exact follows) (by rw [hP];exact Tryz.func148) rfl (by kernel_rfl) (by kernel_rfl) (n:=1) (by kernel_rfl) ((Cj Ay hlaexprs_0))) Aj)
 have hq1:CallQOk cx (R2 (HV [.bool]) k):=Ab rfl rfl Ah Ae
 have hp0:PxOk cx (Tr (HV [.bool]) k):=⟨fun t=>by rw [hP,hel];exact Av An t,by rw [hgl];rfl⟩
 have hc0:Al cx (Tr (HV [.bool]) k):=Af rfl (Aa (Bv hp1 hc1 hq1 (by rw [hP];exact follows) (by rw [hP];exact Tryz.func96) rfl (by kernel_rfl) (by kernel_rfl) (n:=0) (by kernel_rfl) (Ay)) Aj)
 have hq0:CallQOk cx (Tr (HV [.bool]) k):=Ab rfl rfl Ah Ae
 exact⟨hp0,hc0,hq0,Ay⟩
def Ik(l:List Xpr):Bool:=decide (l.length≤100)&&l.all fun e=>Bp e 30
def Agk:FT [.sl .expr false] [.bool]:=fun x=>some (Ik x)
theorem Awi{R:Type}{kx:Ex→I6→Option R}{l:List Xpr}{c:Bool→Option R}(hn:ln l.length) (h1:∀i:Nat,kx .ret (l,(i:Int),(l.length:Int),(i:Int))=c false) (h2:∀q i,kx (.exit 0) (l,q,(l.length:Int),i)=c true) (k:Nat) (hk:l.length<k) :
  A0 (fun rec=>Q8 rec kx) k (l,0,(l.length:Int),0)=c (l.all fun e=>Bp e 30):=by
 refine(Dk l.length (fun i=>(l,(0:Int),(l.length:Int),(i:Int))) (fun i=>c ((l.drop i).all fun e=>Bp e 30)) (fun i hi rec hr =>?_) (fun rec =>?_) k 0 (Nat.zero_le _) (by omega)).trans (by rw [Zq1])
 ·simp only [Q8,Gm hi,Ai,Bl hi,chk,Bk (c :=.expr) hi,Bf hi hn,hr,h1,Bb hi,Zv1]
  cases Bp l[i] 30<;>rfl
 ·simp only [Q8,Gh,Ak,h2]
  rw [Zk1 (Zn1 _)]
  rfl
theorem Aqm:FnOk Tryz.prog elT glT 68 [.sl .expr false] [.bool] Agk :=.fin 0 A3h fun l r hb hx=>⟨l.length+1,by
 simp only [Agk,Za1] at hx
 rw [←hx]
 simp only [Yy,Ik]
 rw [show decide ((l.length:Int)≤100)=decide (l.length≤100) from Zy1.2 (by omega)]
 cases decide (l.length≤100) with
 |false=>rfl
 |true =>
  rw [Ai,Bool.true_and]
  exact Awi (l:=l) (c:=some) hb.1 (fun i=>by simp) (fun _ _=>rfl) (l.length+1) (by omega)⟩
def Ac8:Sig:=⟨19,[(0,.sl .exprs false),(4,.int .i64),(7,.int .i64),(8,.int .i64)],[(1,.fn 114 [])],[],80,80,400,[],[]⟩
abbrev K5:=List (List Xpr)×Int×Int×Int
def W7{R:Type}(rec:K5→Option R) (kx:Ex→K5→Option R) (v:K5):Option R:=match v with
 |(v,v1,v2,v3) =>
 cond (decide (v3<v2)) (
  chk (inb v3 v.length) (
  cond (decide (((at' .exprs v v3).length:Int)=0)) (
   kx .ret (v,v3,v2,v3)) (
   cond (!(Ik (at' .exprs v v3))) (
   kx .ret (v,v3,v2,v3)) (
   rec (v,v1,v2,(wr .i64 (v3+1))))))) (
  kx (.exit 0) (v,v1,v2,v3))
def J8(R:Type) (_k:Nat):Px R:=⟨Bd ttL,glT,Au [(68,As [.sl .expr false] [.bool] Agk)],Am [],Aw [],tbl []⟩
noncomputable def Hl (R:Type) (k:Nat):Px R:=⟨Bd ttL,glT,Au [(114,Bg 120 600 (J8 R k) Tryz.f114)],Am [],Aw [(2,Be k Ac8 (W7))],tbl []⟩
noncomputable def Vy (R:Type) (k:Nat):Px R:=⟨Bd ttL,glT,Au [(155,Bg 80 400 (Hl R k) Tryz.f155)],Am [],Aw [],tbl []⟩
noncomputable def Aam (R:Type) (k:Nat):Px R:=⟨Bd ttL,glT,Au [(66,As [.int .i64] [.bool] Af5),(113,Bg 40 200 (Vy R k) Tryz.f113)],Am [],Aw [],tbl []⟩
theorem Azu(R:Type) (k:Nat):∀(fr:List Fr) (rec:K5→Option R) (kx:Ex→K5→Option R) (v:K5),Bn (Hl R k) Ac8 (lp Tryz.f155 0) fr rec kx v=W7 rec kx v
 |fr,rec,kx,(v,v1,v2,v3)=>by kernel_rfl
def Acw(k:Nat) (x:HV [.sl .exprs false]):Option (HV [.bool]):=match x with
 |l =>
 cond ((Dw (l.length:Int))) (
  A0 (fun rec=>W7 rec (fun e vz=>match vz with|(_,v5,_,_)=>match e with
  |.ret =>
   some (!(decide (0≤v5)))
  |.exit 0 =>
   some true
  |_=>none)) k (l,0,(l.length:Int),0)) (
  some false)
theorem Bcj(k:Nat):∀(x:HV [.sl .exprs false]),Cs (Aam _ k) Tryz.f69 [.sl .exprs false] [.bool] x some=Acw k x
 |l=>by kernel_rfl
theorem A9r(k:Nat):FnOk Tryz.prog elT glT 69 [.sl .exprs false] [.bool] (Acw k):=by
 refine A3 Tryz.func69 rfl (by kernel_rfl) follows (by kernel_rfl) (n:=0) (by kernel_rfl) (px:=Aam _ k) (fun cx hP hel hgl =>?_) (Bcj k)
 have hp3:PxOk cx (J8 (HV [.bool]) k):=⟨fun t=>by rw [hP,hel];exact Av An t,by rw [hgl];rfl⟩
 have hc3:Al cx (J8 (HV [.bool]) k):=Af rfl (Aa (A7 (by rw [hP,hel,hgl];exact Aqm) (by kernel_rfl)) Aj)
 have hq3:CallQOk cx (J8 (HV [.bool]) k):=Ab rfl rfl Ah Ae
 have hp2:PxOk cx (Hl (HV [.bool]) k):=⟨fun t=>by rw [hP,hel];exact Av An t,by rw [hgl];rfl⟩
 have hc2:Al cx (Hl (HV [.bool]) k):=Af rfl (Aa (Bv hp3 hc3 hq3 (by rw [hP];exact follows) (by rw [hP];exact Tryz.func114) rfl (by kernel_rfl) (by kernel_rfl) (n:=0) (by kernel_rfl) (Ay)) Aj)
 have hq2:CallQOk cx (Hl (HV [.bool]) k):=Ab rfl rfl Ah Ae
 have hlarows_0:A8 cx (Hl (HV [.bool]) k) (lp Tryz.f155 0):=Ba hp2 hc2 hq2 (by rw [hP];exact follows) (k:=k) (s:=Ac8) (step:=W7) (fun _ _=>by kernel_rfl) (by kernel_rfl) (Azu _ k) (Az (n:=0) (by kernel_rfl) Ay)
 have hp1:PxOk cx (Vy (HV [.bool]) k):=⟨fun t=>by rw [hP,hel];exact Av An t,by rw [hgl];rfl⟩
 have hc1:Al cx (Vy (HV [.bool]) k):=Af rfl (Aa (Bv hp2 hc2 hq2 (by rw [hP];exact follows) (by rw [hP];exact Tryz.func155) rfl (by kernel_rfl) (by kernel_rfl) (n:=1) (by kernel_rfl) ((Cj Ay hlarows_0))) Aj)
 have hq1:CallQOk cx (Vy (HV [.bool]) k):=Ab rfl rfl Ah Ae
 have hp0:PxOk cx (Aam (HV [.bool]) k):=⟨fun t=>by rw [hP,hel];exact Av An t,by rw [hgl];rfl⟩
 have hc0:Al cx (Aam (HV [.bool]) k):=Af rfl (Aa (A7 (by rw [hP,hel,hgl];exact Af1) (by kernel_rfl)) (Aa (Bv hp1 hc1 hq1 (by rw [hP];exact follows) (by rw [hP];exact Tryz.func113) rfl (by kernel_rfl) (by kernel_rfl) (n:=0) (by kernel_rfl) (Ay)) Aj))
 have hq0:CallQOk cx (Aam (HV [.bool]) k):=Ab rfl rfl Ah Ae
 exact⟨hp0,hc0,hq0,Ay⟩
def Auv(r:List Xpr):Bool := !decide (r.length=0)&&Ik r
def Arj(l:List (List Xpr)):Bool:=Dw (l.length:Int)&&l.all Auv
def Aud:FT [.sl .exprs false] [.bool]:=fun x=>some (Arj x)
theorem A0a{R:Type}{kx:Ex→K5→Option R}{l:List (List Xpr)}{c:Bool→Option R}(hn:ln l.length) (h1:∀i:Nat,kx .ret (l,(i:Int),(l.length:Int),(i:Int))=c false) (h2:∀q i,kx (.exit 0) (l,q,(l.length:Int),i)=c true) (k:Nat) (hk:l.length<k) :
  A0 (fun rec=>W7 rec kx) k (l,0,(l.length:Int),0)=c (l.all Auv):=by
 refine(Dk l.length (fun i=>(l,(0:Int),(l.length:Int),(i:Int))) (fun i=>c ((l.drop i).all Auv)) (fun i hi rec hr =>?_) (fun rec =>?_) k 0 (Nat.zero_le _) (by omega)).trans (by rw [Zq1])
 ·simp only [W7,Gm hi,Ai,Bl hi,chk,Bk (c :=.exprs) hi,Bf hi hn,hr,h1,Bb hi,Zv1,Auv]
  rw [show decide ((l[i].length:Int)=0)=decide (l[i].length=0) from Zy1.2 (by omega)]
  cases decide (l[i].length=0)<;>cases Ik l[i]<;>rfl
 ·simp only [W7,Gh,Ak,h2]
  rw [Zk1 (Zn1 _)]
  rfl
theorem Bfh:FnOk Tryz.prog elT glT 69 [.sl .exprs false] [.bool] Aud :=.fin 0 A9r fun l r hb hx=>⟨l.length+1,by
 simp only [Aud,Za1] at hx
 rw [←hx]
 simp only [Acw,Arj]
 cases Dw (l.length:Int) with
 |false=>rfl
 |true =>
  rw [Ai,Bool.true_and]
  exact A0a (l:=l) (c:=some) hb.1 (fun i=>by simp) (fun _ _=>rfl) (l.length+1) (by omega)⟩
def Za(R:Type):Px R:=⟨Bd ttL,glT,Au [(20,As [.sv .expr,.sv .expr] [.bool] Abm)],Am [],Aw [],tbl []⟩
def Xj(x:HV [.sv .expr]):Option (HV [.bool]):=match x with
 |e =>
 some (Aap e (Xpr.mk 0 ⟨0,0,[]⟩ [] []))
theorem Beq:∀(x:HV [.sv .expr]),Cs (Za _) Tryz.f115 [.sv .expr] [.bool] x some=Xj x
 |e=>by kernel_rfl
theorem A63:FnOk Tryz.prog elT glT 115 [.sv .expr] [.bool] (Xj):=by
 refine A3 Tryz.func115 rfl (by kernel_rfl) follows (by kernel_rfl) (n:=0) (by kernel_rfl) (px:=Za _) (fun cx hP hel hgl =>?_) (Beq)
 have hp0:PxOk cx (Za (HV [.bool])):=⟨fun t=>by rw [hP,hel];exact Av An t,by rw [hgl];rfl⟩
 have hc0:Al cx (Za (HV [.bool])):=Af rfl (Aa (A7 (by rw [hP,hel,hgl];exact Yz) (by kernel_rfl)) Aj)
 have hq0:CallQOk cx (Za (HV [.bool])):=Ab rfl rfl Ah Ae
 exact⟨hp0,hc0,hq0,Ay⟩
def Aqi(e:Xpr):Bool :=
 (Aap e (Xpr.mk 0 ⟨0,0,[]⟩ [] []))
theorem Bbk(x:HV [.sv .expr]):Xj x=some (Aqi x):=by
 first
  |exact rfl
  |simp only [Xj,Aqi,B7]
def A5x:FT [.sv .expr] [.bool]:=fun x=>some (Aqi x)
theorem Bcd:FnOk Tryz.prog elT glT 115 [.sv .expr] [.bool] A5x :=.fin0 A63 fun x _ _ hx=>(Bbk x).trans hx
theorem Bbl(e:Xpr):Aqi e=decide (e = .mk 0 ⟨0,0,[]⟩ [] []):=Mb e _
def Uu(R:Type):Px R:=⟨Bd ttL,glT,Au [(115,As [.sv .expr] [.bool] A5x),(39,As [.sv .expr,.int .i64] [.bool] S5)],Am [],Aw [],tbl []⟩
def R8(x:HV [.sv .stmt]):Option (HV [.bool]):=match x with
 |s =>
 cond (!s.has) (
  some (Aqi (Ng s.whr))) (
  some (Bp (Ng s.whr) 30))
theorem A81:∀(x:HV [.sv .stmt]),Cs (Uu _) Tryz.f71 [.sv .stmt] [.bool] x some=R8 x
 |s=>by kernel_rfl
theorem Azm:FnOk Tryz.prog elT glT 71 [.sv .stmt] [.bool] (R8):=by
 refine A3 Tryz.func71 rfl (by kernel_rfl) follows (by kernel_rfl) (n:=0) (by kernel_rfl) (px:=Uu _) (fun cx hP hel hgl =>?_) (A81)
 have hp0:PxOk cx (Uu (HV [.bool])):=⟨fun t=>by rw [hP,hel];exact Av An t,by rw [hgl];rfl⟩
 have hc0:Al cx (Uu (HV [.bool])):=Af rfl (Aa (A7 (by rw [hP,hel,hgl];exact Bcd) (by kernel_rfl)) (Aa (A7 (by rw [hP,hel,hgl];exact Tu) (by kernel_rfl)) Aj))
 have hq0:CallQOk cx (Uu (HV [.bool])):=Ab rfl rfl Ah Ae
 exact⟨hp0,hc0,hq0,Ay⟩
def Hy(s:Stm):Bool :=
 cond (!s.has) (
  (Aqi (Ng s.whr))) (
  (Bp (Ng s.whr) 30))
theorem A2n(x:HV [.sv .stmt]):R8 x=some (Hy x):=by
 first
  |exact rfl
  |simp only [R8,Hy,B7]
def Ayp:FT [.sv .stmt] [.bool]:=fun x=>some (Hy x)
theorem A75:FnOk Tryz.prog elT glT 71 [.sv .stmt] [.bool] Ayp :=.fin0 Azm fun x _ _ hx=>(A2n x).trans hx
theorem Aqj(s:Stm):Hy s=cond s.has (Bp s.whr 30) (decide (s.whr = .mk 0 ⟨0,0,[]⟩ [] [])):=by
 simp only [Hy,H7,Bbl]
 cases s.has<;>rfl
def Adv:Sig:=⟨44,[(0,.sl .col false),(2,.bool),(3,.sl .str true),(6,.sl .col false),(7,.int .i64),(8,.int .i64)],[],[],0,0,0,[],[]⟩
abbrev Lk:=List Col×Bool×List Str×List Col×Int×Int
def W3{R:Type}(rec:Lk→Option R) (kx:Ex→Lk→Option R) (v:Lk):Option R:=match v with
 |(v,v1,v2,v3,v4,v5) =>
 cond (decide (v5<v4)) (
  chk (inb v5 v3.length) (
  let j:=fun(p:Bool) =>
   cond (p) (
   kx .ret (v,false,v2,v3,v4,v5)) (
   cond (!decide (((at' .col v3 v5).ref)=[])) (
    cond (!(B1 ((at' .col v3 v5).ref))) (
    kx .ret (v,false,v2,v3,v4,v5)) (
    chk (decide (v2.length+1≤A1)) (
     rec (v,v1,(v2++[((at' .col v3 v5).name)]),v3,v4,(wr .i64 (v5+1)))))) (
    chk (decide (v2.length+1≤A1)) (
    rec (v,v1,(v2++[((at' .col v3 v5).name)]),v3,v4,(wr .i64 (v5+1))))))
  cond (decide ((at' .col v3 v5).kind<2)) (
   j true) (
   j (decide (5<(at' .col v3 v5).kind))))) (
  kx (.exit 0) (v,v1,v2,v3,v4,v5))
def P9(R:Type) (k:Nat):Px R:=⟨Bd ttL,glT,Au [(63,As [.str] [.bool] V5),(66,As [.int .i64] [.bool] Af5),(67,As [.sl .str false] [.bool] Agf)],Am [],Aw [(3,Be k Adv (W3))],tbl []⟩
theorem A01(R:Type) (k:Nat):∀(fr:List Fr) (rec:Lk→Option R) (kx:Ex→Lk→Option R) (v:Lk),Bn (P9 R k) Adv (lp Tryz.f65 0) fr rec kx v=W3 rec kx v
 |fr,rec,kx,(v,v1,v2,v3,v4,v5)=>by kernel_rfl
def Ac9(k:Nat) (x:HV [.sl .col false]):Option (HV [.bool]):=match x with
 |l =>
 A0 (fun rec=>W3 rec (fun e vz=>match vz with|(v6,v7,v8,_,_,_)=>match e with
  |.ret =>
  some v7
  |.exit 0 =>
  cond ((Dw (v6.length:Int))) (
   some (Fs v8)) (
   some false)
  |_=>none)) k (l,false,[],l,(l.length:Int),0)
theorem Bhv(k:Nat):∀(x:HV [.sl .col false]),Cs (P9 _ k) Tryz.f65 [.sl .col false] [.bool] x some=Ac9 k x
 |l=>by kernel_rfl
theorem Bau(k:Nat):FnOk Tryz.prog elT glT 65 [.sl .col false] [.bool] (Ac9 k):=by
 refine A3 Tryz.func65 rfl (by kernel_rfl) follows (by kernel_rfl) (n:=1) (by kernel_rfl) (px:=P9 _ k) (fun cx hP hel hgl =>?_) (Bhv k)
 have hp0:PxOk cx (P9 (HV [.bool]) k):=⟨fun t=>by rw [hP,hel];exact Av An t,by rw [hgl];rfl⟩
 have hc0:Al cx (P9 (HV [.bool]) k):=Af rfl (Aa (A7 (by rw [hP,hel,hgl];exact Zd) (by kernel_rfl)) (Aa (A7 (by rw [hP,hel,hgl];exact Af1) (by kernel_rfl)) (Aa (A7 (by rw [hP,hel,hgl];exact Alv) (by kernel_rfl)) Aj)))
 have hq0:CallQOk cx (P9 (HV [.bool]) k):=Ab rfl rfl Ah Ae
 have hlacols_0:A8 cx (P9 (HV [.bool]) k) (lp Tryz.f65 0):=Ba hp0 hc0 hq0 (by rw [hP];exact follows) (k:=k) (s:=Adv) (step:=W3) (fun _ _=>by kernel_rfl) (by kernel_rfl) (A01 _ k) (Az (n:=0) (by kernel_rfl) Ay)
 exact⟨hp0,hc0,hq0,(Cj Ay hlacols_0)⟩
def Xy(c:Col):Bool:=decide (2≤c.kind)&&decide (c.kind≤5)&&(decide (c.ref=[])||B1 c.ref)
def A3w(l:List Col):Option Bool:=if l.length≤1000000 then some (l.all Xy&&Dw (l.length:Int)&&Fs (l.map (·.name))) else none
def Asu:FT [.sl .col false] [.bool]:=fun x=>A3w x
theorem A29{R:Type}{kx:Ex→Lk→Option R}{l:List Col}{c:Bool→Option R}(hn:l.length≤1000000) (h1:∀o i,kx .ret (l,false,o,l,(l.length:Int),i)=c false) (h2:∀q o i,kx (.exit 0) (l,q,o,l,(l.length:Int),i)=cond (Dw (l.length:Int)) (c (Fs o)) (c false)) (k:Nat) (hk:l.length<k) :
  A0 (fun rec=>W3 rec kx) k (l,false,[],l,(l.length:Int),0)=c (l.all Xy&&Dw (l.length:Int)&&Fs (l.map (·.name))):=by
 have hl:ln l.length:=by simp only [ln];omega
 refine(Dk l.length (fun i=>(l,false,(l.take i).map (·.name),l,(l.length:Int),(i:Int))) (fun i=>c ((l.drop i).all Xy&&Dw (l.length:Int)&&Fs (l.map (·.name)))) (fun i hi rec hr =>?_) (fun rec =>?_) k 0 (Nat.zero_le _) (by omega)).trans (by rw [Zq1])
 ·have ht:(l.take (i+1)).map (·.name)=(l.take i).map (·.name)++[l[i].name]:=by
   rw [List.take_add_one,Zo1 hi,List.map_append]
   rfl
  have hlen:((l.take i).map (·.name)).length+1≤A1:=by simp only [List.length_map,List.length_take,A1];omega
  rw [ht] at hr
  simp only [W3,Gm hi,Ai,Bl hi,chk,Bk (c :=.col) hi,Bf hi hl,hr,h1,Bb hi,Zv1,Xy,Ze1 hlen]
  by_cases ha:l[i].kind<2
  ·rw [Ze1 ha,Zd1 (show ¬ 2≤l[i].kind by omega)]
   rfl
  ·rw [Zd1 ha,Ze1 (show 2≤l[i].kind by omega)]
   by_cases hb : 5<l[i].kind
   ·rw [Ze1 hb,Zd1 (show ¬l[i].kind≤5 by omega)]
    rfl
   ·rw [Zd1 hb,Ze1 (show l[i].kind≤5 by omega)]
    cases decide (l[i].ref=[])<;>cases B1 l[i].ref<;>rfl
 ·simp only [W3,Gh,Ak,h2]
  rw [Zk1 (Zn1 _),List.take_length]
  cases Dw (l.length:Int)<;>rfl
theorem Bhw:FnOk Tryz.prog elT glT 65 [.sl .col false] [.bool] Asu :=.fin 0 Bau fun l r hb hx=>⟨l.length+1,by
 simp only [Asu,A3w] at hx
 split at hx
 ·rename_i h
  rw [←hx]
  simp only [Ac9]
  refine A29 (l:=l) (c:=some) h (fun _ _=>rfl) (fun _ _ _ =>?_) (l.length+1) (by omega)
  cases Dw (l.length:Int)<;>rfl
 ·cases hx⟩
def Ac2:Sig:=⟨29,[(0,.sl .set false),(2,.bool),(3,.sl .str true),(6,.sl .set false),(7,.int .i64),(8,.int .i64)],[],[],0,0,0,[],[]⟩
abbrev Lg:=List SetE×Bool×List Str×List SetE×Int×Int
def W2{R:Type}(rec:Lg→Option R) (kx:Ex→Lg→Option R) (v:Lg):Option R:=match v with
 |(v,v1,v2,v3,v4,v5) =>
 cond (decide (v5<v4)) (
  chk (inb v5 v3.length) (
  cond (!(Bp (Ng ((at' .set v3 v5).e)) 30)) (
   kx .ret (v,false,v2,v3,v4,v5)) (
   chk (decide (v2.length+1≤A1)) (
   rec (v,v1,(v2++[((at' .set v3 v5).name)]),v3,v4,(wr .i64 (v5+1))))))) (
  kx (.exit 0) (v,v1,v2,v3,v4,v5))
def Q9(R:Type) (k:Nat):Px R:=⟨Bd ttL,glT,Au [(39,As [.sv .expr,.int .i64] [.bool] S5),(66,As [.int .i64] [.bool] Af5),(67,As [.sl .str false] [.bool] Agf)],Am [],Aw [(3,Be k Ac2 (W2))],tbl []⟩
theorem Azb(R:Type) (k:Nat):∀(fr:List Fr) (rec:Lg→Option R) (kx:Ex→Lg→Option R) (v:Lg),Bn (Q9 R k) Ac2 (lp Tryz.f70 0) fr rec kx v=W2 rec kx v
 |fr,rec,kx,(v,v1,v2,v3,v4,v5)=>by kernel_rfl
def Adf(k:Nat) (x:HV [.sl .set false]):Option (HV [.bool]):=match x with
 |l =>
 A0 (fun rec=>W2 rec (fun e vz=>match vz with|(v6,v7,v8,_,_,_)=>match e with
  |.ret =>
  some v7
  |.exit 0 =>
  cond ((Dw (v6.length:Int))) (
   some (Fs v8)) (
   some false)
  |_=>none)) k (l,false,[],l,(l.length:Int),0)
theorem Bey(k:Nat):∀(x:HV [.sl .set false]),Cs (Q9 _ k) Tryz.f70 [.sl .set false] [.bool] x some=Adf k x
 |l=>by kernel_rfl
theorem Baf(k:Nat):FnOk Tryz.prog elT glT 70 [.sl .set false] [.bool] (Adf k):=by
 refine A3 Tryz.func70 rfl (by kernel_rfl) follows (by kernel_rfl) (n:=1) (by kernel_rfl) (px:=Q9 _ k) (fun cx hP hel hgl =>?_) (Bey k)
 have hp0:PxOk cx (Q9 (HV [.bool]) k):=⟨fun t=>by rw [hP,hel];exact Av An t,by rw [hgl];rfl⟩
 have hc0:Al cx (Q9 (HV [.bool]) k):=Af rfl (Aa (A7 (by rw [hP,hel,hgl];exact Tu) (by kernel_rfl)) (Aa (A7 (by rw [hP,hel,hgl];exact Af1) (by kernel_rfl)) (Aa (A7 (by rw [hP,hel,hgl];exact Alv) (by kernel_rfl)) Aj)))
 have hq0:CallQOk cx (Q9 (HV [.bool]) k):=Ab rfl rfl Ah Ae
 have hlasets_0:A8 cx (Q9 (HV [.bool]) k) (lp Tryz.f70 0):=Ba hp0 hc0 hq0 (by rw [hP];exact follows) (k:=k) (s:=Ac2) (step:=W2) (fun _ _=>by kernel_rfl) (by kernel_rfl) (Azb _ k) (Az (n:=0) (by kernel_rfl) Ay)
 exact⟨hp0,hc0,hq0,(Cj Ay hlasets_0)⟩
def A5n(l:List SetE):Option Bool:=if l.length≤1000000 then some (l.all (fun x=>Bp x.e 30)&&Dw (l.length:Int)&&Fs (l.map (·.name))) else none
def Ass:FT [.sl .set false] [.bool]:=fun x=>A5n x
theorem Az4{R:Type}{kx:Ex→Lg→Option R}{l:List SetE}{c:Bool→Option R}(hn:l.length≤1000000) (h1:∀o i,kx .ret (l,false,o,l,(l.length:Int),i)=c false) (h2:∀q o i,kx (.exit 0) (l,q,o,l,(l.length:Int),i)=cond (Dw (l.length:Int)) (c (Fs o)) (c false)) (k:Nat) (hk:l.length<k) :
  A0 (fun rec=>W2 rec kx) k (l,false,[],l,(l.length:Int),0)=c (l.all (fun x=>Bp x.e 30)&&Dw (l.length:Int)&&Fs (l.map (·.name))):=by
 have hl:ln l.length:=by simp only [ln];omega
 refine(Dk l.length (fun i=>(l,false,(l.take i).map (·.name),l,(l.length:Int),(i:Int))) (fun i=>c ((l.drop i).all (fun x=>Bp x.e 30)&&Dw (l.length:Int)&&Fs (l.map (·.name)))) (fun i hi rec hr =>?_) (fun rec =>?_) k 0 (Nat.zero_le _) (by omega)).trans (by rw [Zq1])
 ·have ht:(l.take (i+1)).map (·.name)=(l.take i).map (·.name)++[l[i].name]:=by
   rw [List.take_add_one,Zo1 hi,List.map_append]
   rfl
  have hlen:((l.take i).map (·.name)).length+1≤A1:=by simp only [List.length_map,List.length_take,A1];omega
  rw [ht] at hr
  simp only [W2,Gm hi,Ai,Bl hi,chk,Bk (c :=.set) hi,Bf hi hl,hr,h1,Bb hi,Zv1,Ze1 hlen,H7]
  cases Bp l[i].e 30<;>rfl
 ·simp only [W2,Gh,Ak,h2]
  rw [Zk1 (Zn1 _),List.take_length]
  cases Dw (l.length:Int)<;>rfl
theorem Bcf:FnOk Tryz.prog elT glT 70 [.sl .set false] [.bool] Ass :=.fin 0 Baf fun l r hb hx=>⟨l.length+1,by
 simp only [Ass,A5n] at hx
 split at hx
 ·rename_i h
  rw [←hx]
  simp only [Adf]
  refine Az4 (l:=l) (c:=some) h (fun _ _=>rfl) (fun _ _ _ =>?_) (l.length+1) (by omega)
  cases Dw (l.length:Int)<;>rfl
 ·cases hx⟩
def noX:Xpr :=.mk 0 ⟨0,0,[]⟩ [] []
def noS:Stm:=⟨0,[],[],[],[],[],[],[],false,noX,[],[],0⟩
def Yh(R:Type):Px R:=⟨Bd ttL,glT,Au [],Am [],Aw [],tbl []⟩
def Adk(x:HV [.sv .stmt]):Option (HV [.sv .stmt]):=match x with
 |s =>
 cond (decide (s.kind=1)) (
  some (Stm.mk 0 [] s.on [] [] [] s.rows s.sets s.has (Ng s.whr) s.order s.desc s.most)) (
  cond (decide (s.kind=3)) (
  some (Stm.mk 0 [] [] s.cols [] s.l s.rows s.sets s.has (Ng s.whr) s.order s.desc s.most)) (
  cond (decide (s.kind=5)) (
   some (Stm.mk 0 [] s.on s.cols s.names s.l [] s.sets s.has (Ng s.whr) s.order s.desc s.most)) (
   cond (decide (s.kind=6)) (
   some (Stm.mk 0 [] s.on s.cols s.names s.l s.rows [] false (Xpr.mk 0 ⟨0,0,[]⟩ [] []) s.order s.desc s.most)) (
   cond (decide (s.kind=7)) (
    some (Stm.mk 0 [] s.on s.cols s.names s.l s.rows s.sets false (Xpr.mk 0 ⟨0,0,[]⟩ [] []) s.order s.desc s.most)) (
    cond (decide (s.kind=8)) (
    some (Stm.mk 0 [] s.on s.cols s.names [] s.rows s.sets false (Xpr.mk 0 ⟨0,0,[]⟩ [] []) [] [] 0)) (
    some (Stm.mk 0 [] s.on s.cols s.names s.l s.rows s.sets s.has (Ng s.whr) s.order s.desc s.most)))))))
theorem Bdj:∀(x:HV [.sv .stmt]),Cs (Yh _) Tryz.f64 [.sv .stmt] [.sv .stmt] x some=Adk x
 |s=>by kernel_rfl
theorem A9j:FnOk Tryz.prog elT glT 64 [.sv .stmt] [.sv .stmt] (Adk):=by
 refine A3 Tryz.func64 rfl (by kernel_rfl) follows (by kernel_rfl) (n:=0) (by kernel_rfl) (px:=Yh _) (fun cx hP hel hgl =>?_) (Bdj)
 have hp0:PxOk cx (Yh (HV [.sv .stmt])):=⟨fun t=>by rw [hP,hel];exact Av An t,by rw [hgl];rfl⟩
 have hc0:Al cx (Yh (HV [.sv .stmt])):=Af rfl Aj
 have hq0:CallQOk cx (Yh (HV [.sv .stmt])):=Ab rfl rfl Ah Ae
 exact⟨hp0,hc0,hq0,Ay⟩
def Hw(s:Stm):Stm :=
 if s.kind=1 then { s with kind:=0,name:=[],cols:=[],names:=[],l:=[] }
 else if s.kind=3 then { s with kind:=0,name:=[],on:=[],names:=[] }
 else if s.kind=5 then { s with kind:=0,name:=[],rows:=[] }
 else if s.kind=6 then { s with kind:=0,name:=[],sets:=[],has:=false,whr:=noX }
 else if s.kind=7 then { s with kind:=0,name:=[],has:=false,whr:=noX }
 else if s.kind=8 then { s with kind:=0,name:=[],l:=[],has:=false,whr:=noX,order:=[],desc:=[],most:=0 }
 else { s with kind:=0,name:=[] }
def Aui:FT [.sv .stmt] [.sv .stmt]:=fun x=>some (Hw x)
theorem Bg4:FnOk Tryz.prog elT glT 64 [.sv .stmt] [.sv .stmt] Aui :=.fin0 A9j fun s r hb hx=>by
 simp only [Aui,Za1] at hx
 rw [←hx]
 simp only [Adk,Hw,H7,Bool.cond_decide]
 split; · rfl
 split; · rfl
 split; · rfl
 split; · rfl
 split; · rfl
 split<;>rfl
def Tq(R:Type):Px R:=⟨Bd ttL,glT,Au [(63,As [.str] [.bool] V5),(64,As [.sv .stmt] [.sv .stmt] Aui),(27,As [.sv .stmt,.sv .stmt] [.bool] Avf),(65,As [.sl .col false] [.bool] Asu),(66,As [.int .i64] [.bool] Af5),(67,As [.sl .str false] [.bool] Agf),(68,As [.sl .expr false] [.bool] Agk),(69,As [.sl .exprs false] [.bool] Aud),(70,As [.sl .set false] [.bool] Ass),(71,As [.sv .stmt] [.bool] Ayp)],Am [],Aw [],tbl []⟩
def Aay(x:HV [.sv .stmt]):Option (HV [.int .i64]):=match x with
 |s =>
 let j7:=fun(p1:Bool) =>
  cond (decide (s.kind=1)) (
  let j1:=fun(p2:Bool) =>
   let j:=fun(p3:Bool) =>
   cond (p3) (
    cond ((Fs s.names)) (
    cond (!(Ik s.l)) (
     some 2) (
     some 0)) (
    some 2)) (
    some 2)
   cond (p2) (
   j (Dw (s.names.length:Int))) (
   j false)
  cond (p1) (
   (A3w s.cols).bind fun x =>
   j1 x) (
   j1 false)) (
  cond (decide (s.kind=3)) (
   let j2:=fun(p7:Bool) =>
   cond (p7) (
    cond ((Dw (s.names.length:Int))) (
    cond (!(Fs s.names)) (
     some 2) (
     some 0)) (
    some 2)) (
    some 2)
   cond (p1) (
   j2 (B1 s.on)) (
   j2 false)) (
   let j6:=fun(p11:Bool) =>
   cond (p11) (
    cond (!p1) (
    some 2) (
    some 0)) (
    cond (decide (s.kind=5)) (
    cond (p1) (
     cond (!(Arj s.rows)) (
     some 2) (
     some 0)) (
     some 2)) (
    cond (decide (s.kind=6)) (
     cond (p1) (
     (A5n s.sets).bind fun x1 =>
      cond (x1) (
      cond (!(Hy s)) (
       some 2) (
       some 0)) (
      some 2)) (
     some 2)) (
     cond (decide (s.kind=7)) (
     cond (p1) (
      cond (!(Hy s)) (
      some 2) (
      some 0)) (
      some 2)) (
     cond (decide (s.kind=8)) (
      let j5:=fun(p17:Bool) =>
      let j4:=fun(p18:Bool) =>
       let j3:=fun(p19:Bool) =>
       cond (p19) (
        cond (decide ((s.desc.length:Int)=(s.order.length:Int))) (
        cond (!(decide ((-1)≤s.most))) (
         some 2) (
         some 0)) (
        some 2)) (
        some 2)
       cond (p18) (
       j3 (Fs s.order)) (
       j3 false)
      cond (p17) (
       j4 (Hy s)) (
       j4 false)
      cond (p1) (
      j5 (Ik s.l)) (
      j5 false)) (
      some 2)))))
   cond (decide (s.kind=2)) (
   j6 (decide (s.kind=2))) (
   j6 (decide (s.kind=4)))))
 cond ((B1 s.name)) (
  j7 (A0d (Hw s) (Stm.mk 0 [] [] [] [] [] [] [] false (Xpr.mk 0 ⟨0,0,[]⟩ [] []) [] [] 0))) (
  j7 false)
theorem A8u:∀(x:HV [.sv .stmt]),Cs (Tq _) Tryz.f25 [.sv .stmt] [.int .i64] x some=Aay x
 |s=>by kernel_rfl
theorem Ay2:FnOk Tryz.prog elT glT 25 [.sv .stmt] [.int .i64] (Aay):=by
 refine A3 Tryz.func25 rfl (by kernel_rfl) follows (by kernel_rfl) (n:=0) (by kernel_rfl) (px:=Tq _) (fun cx hP hel hgl =>?_) (A8u)
 have hp0:PxOk cx (Tq (HV [.int .i64])):=⟨fun t=>by rw [hP,hel];exact Av An t,by rw [hgl];rfl⟩
 have hc0:Al cx (Tq (HV [.int .i64])):=Af rfl (Aa (A7 (by rw [hP,hel,hgl];exact Zd) (by kernel_rfl)) (Aa (A7 (by rw [hP,hel,hgl];exact Bg4) (by kernel_rfl)) (Aa (A7 (by rw [hP,hel,hgl];exact Bbi) (by kernel_rfl)) (Aa (A7 (by rw [hP,hel,hgl];exact Bhw) (by kernel_rfl)) (Aa (A7 (by rw [hP,hel,hgl];exact Af1) (by kernel_rfl)) (Aa (A7 (by rw [hP,hel,hgl];exact Alv) (by kernel_rfl)) (Aa (A7 (by rw [hP,hel,hgl];exact Aqm) (by kernel_rfl)) (Aa (A7 (by rw [hP,hel,hgl];exact Bfh) (by kernel_rfl)) (Aa (A7 (by rw [hP,hel,hgl];exact Bcf) (by kernel_rfl)) (Aa (A7 (by rw [hP,hel,hgl];exact A75) (by kernel_rfl)) Aj))))))))))
 have hq0:CallQOk cx (Tq (HV [.int .i64])):=Ab rfl rfl Ah Ae
 exact⟨hp0,hc0,hq0,Ay⟩
def Ko(s:Stm):Bool:=B1 s.name&&decide (Hw s=noS)&&(
 if s.kind=1 then s.cols.all Xy&&Dw (s.cols.length:Int)&&Fs (s.cols.map (·.name))&&Dw (s.names.length:Int)&&Fs s.names&&Ik s.l
 else if s.kind=3 then B1 s.on&&Dw (s.names.length:Int)&&Fs s.names
 else if s.kind=2∨s.kind=4 then true
 else if s.kind=5 then Arj s.rows
 else if s.kind=6 then s.sets.all (fun x=>Bp x.e 30)&&Dw (s.sets.length:Int)&&Fs (s.sets.map (·.name))&&Hy s
 else if s.kind=7 then Hy s
 else if s.kind=8 then Ik s.l&&Hy s&&Fs s.order&&decide (s.desc.length=s.order.length)&&decide (-1≤s.most)
 else false)
def Sz(s:Stm):Option Int:=if s.cols.length≤1000000∧s.sets.length≤1000000 then some (cond (Ko s) 0 2) else none
def Aff:FT [.sv .stmt] [.int .i64]:=fun x=>Sz x
theorem Ari:FnOk Tryz.prog elT glT 25 [.sv .stmt] [.int .i64] Aff :=.fin0 Ay2 fun s r hb hx=>by
 simp only [Aff,Sz] at hx
 split at hx
 case isFalse=>cases hx
 rename_i h
 rw [←hx]
 have e1:A3w s.cols=some (s.cols.all Xy&&Dw (s.cols.length:Int)&&Fs (s.cols.map (·.name))):=if_pos h.1
 have e2:A5n s.sets=some (s.sets.all (fun x=>Bp x.e 30)&&Dw (s.sets.length:Int)&&Fs (s.sets.map (·.name))):=if_pos h.2
 have e3:A0d (Hw s) (Stm.mk 0 [] [] [] [] [] [] [] false (Xpr.mk 0 ⟨0,0,[]⟩ [] []) [] [] 0)=decide (Hw s=noS):=A9m _ _
 have e4:decide ((s.desc.length:Int)=(s.order.length:Int))=decide (s.desc.length=s.order.length):=Zy1.2 (by omega)
 simp only [Aay,Ko,e1,e2,e3,e4,Zc1]
 generalize B1 s.name=A
 generalize decide (Hw s=noS)=B
 generalize (s.cols.all Xy&&Dw (s.cols.length:Int)&&Fs (s.cols.map (·.name)))=C
 generalize Dw (s.names.length:Int)=D
 generalize Fs s.names=E
 generalize Ik s.l=F
 generalize B1 s.on=G
 generalize Arj s.rows=H
 generalize (s.sets.all (fun x=>Bp x.e 30)&&Dw (s.sets.length:Int)&&Fs (s.sets.map (·.name)))=I
 generalize Hy s=J
 generalize Fs s.order=K
 generalize decide (s.desc.length=s.order.length)=L
 generalize decide (-1≤s.most)=M
 by_cases h1:s.kind=1
 ·rw [Ze1 h1,if_pos h1]
  cases A<;>cases B<;>cases C<;>cases D<;>cases E<;>cases F<;>rfl
 rw [Zd1 h1,if_neg h1]
 by_cases h3:s.kind=3
 ·rw [Ze1 h3,if_pos h3]
  cases A<;>cases B<;>cases G<;>cases D<;>cases E<;>rfl
 rw [Zd1 h3,if_neg h3]
 by_cases h24:s.kind=2∨s.kind=4
 ·rw [if_pos h24]
  rcases h24 with h2|h2
  ·rw [Ze1 h2]
   cases A<;>cases B<;>rfl
  ·rw [Ze1 h2,Zd1 (show ¬s.kind=2 by omega)]
   cases A<;>cases B<;>rfl
 rw [if_neg h24,Zd1 (show ¬s.kind=2 by omega),Zd1 (show ¬s.kind=4 by omega)]
 by_cases h5:s.kind=5
 ·rw [Ze1 h5,if_pos h5]
  cases A<;>cases B<;>cases H<;>rfl
 rw [Zd1 h5,if_neg h5]
 by_cases h6:s.kind=6
 ·rw [Ze1 h6,if_pos h6]
  cases A<;>cases B<;>cases I<;>cases J<;>rfl
 rw [Zd1 h6,if_neg h6]
 by_cases h7:s.kind=7
 ·rw [Ze1 h7,if_pos h7]
  cases A<;>cases B<;>cases J<;>rfl
 rw [Zd1 h7,if_neg h7]
 by_cases h8:s.kind=8
 ·rw [Ze1 h8,if_pos h8]
  cases A<;>cases B<;>cases F<;>cases J<;>cases K<;>cases L<;>cases M<;>rfl
 rw [Zd1 h8,if_neg h8]
 cases A<;>cases B<;>rfl
end Go.Proofs.YthndhaolemgbdaaGreatDoor
namespace Go.Proofs.YthndhaolemgbdaaGreatDoor
open Go.Ax Go.RowKit
def Awc:List Nat:=[80,82]
abbrev Bpi:TypeId:=80
theorem A43:(Tryz.prog.info? Bpi).map (·.size)=some 2:=by kernel_rfl
theorem Bjn(T:TypeId) (h:T∈Awc):liesAt Tryz.prog Tryz.prog.depth T (2 / Tryz.prog.cellsOf T) 0 Bpi 1=true:=by
 simp only [Awc,List.mem_cons,List.not_mem_nil,or_false] at h
 rcases h with rfl|rfl<;>kernel_rfl
set_option maxRecDepth 100000 in
theorem Bk7(b:Nat) (w:World) (h0:w.cell? ⟨b,0,none⟩=some (.pointer (some ⟨b,0,none⟩))) :
  Calls Tryz.prog 152 #[.pointer (some ⟨b,0,none⟩)] w fun e w'=>e = .returned (.tuple #[])∧w' = w:=by
 obtain⟨j,hj,_⟩:=Option.map_eq_some_iff.1 A43
 have mixed:=follows
 have t1:=Tryz.underlying77
 have t2:=Tryz.underlying80
 have u1:=run_underlying (P:=Tryz.prog) t1
 have u2:=run_underlying (P:=Tryz.prog) t2
 go_enter Tryz.func152,Tryz.ntmps152
 go_wp2
 rw [Lib.run_neq_ptr_same w _ t1 hj]
 go_wp2
 go_end0
 exact⟨rfl,rfl⟩
set_option maxRecDepth 100000 in
theorem Bg3(b:Nat) (T:TypeId) (hT:T∈Awc) (w:World) (h0:w.cell? ⟨b,0,none⟩=some (.pointer none)) (hsh:w.shape? b=some (T,2)) (hfz:w.frozen? ⟨b,0,none⟩=false) :
  Calls Tryz.prog 152 #[.pointer (some ⟨b,0,none⟩)] w fun e w'=>e = .returned (.tuple #[])∧w' = w.setCell ⟨b,0,none⟩ (.pointer (some ⟨b,0,none⟩)):=by
 obtain⟨j,hj,hjs⟩:=Option.map_eq_some_iff.1 A43
 have mixed:=follows
 have t1:=Tryz.underlying77
 have t2:=Tryz.underlying80
 have t3:=Tryz.underlying205
 have u1:=run_underlying (P:=Tryz.prog) t1
 have u2:=run_underlying (P:=Tryz.prog) t2
 have u3:=run_underlying (P:=Tryz.prog) t3
 go_enter Tryz.func152,Tryz.ntmps152
 go_wp2
 rw [Lib.run_to_unsafe w ⟨b,0,none⟩ t1 t3 hj (by rw [hjs];decide) hsh (Nat.zero_lt_succ 1)]
 simp only [Result.andThen]
 rw [Oper.upon_value]
 go_wp2
 rw [run_callFunc_extern Tryz.func172 (by kernel_rfl) (by kernel_rfl) (by kernel_rfl) (e:=Extern.AbiNoEscape.same) (by kernel_rfl)]
 rw [Lib.run_noEscape]
 simp only [Result.andThen]
 rw [Oper.upon_value]
 go_wp2
 rw [Lib.run_from_unsafe w ⟨b,0,none⟩ t3 t1 hj hsh (Bjn T hT)]
 simp only [Result.andThen]
 rw [Oper.upon_value]
 go_wp2
 go_end0
 exact⟨rfl,rfl⟩
theorem A73:Sx.Enters Tryz.prog 152:=Sx.enters_of Tryz.func152 rfl (by kernel_rfl)
theorem Bqg:∀T,T∈Awc→∀(b:Nat) (w:World) (a v:Value),w.heap[b]? = some (.cells #[a,v] T (0,0))→(a = .pointer none∨a = .pointer (some ⟨b,0,none⟩))→Calls Tryz.prog 152 #[.pointer (some ⟨b,0,none⟩)] w fun e w'=>e = .returned (.tuple #[])∧(w' = w∨w' = w.setCell ⟨b,0,none⟩ (.pointer (some ⟨b,0,none⟩))):=by
 intro T hT b w a v hh ha
 have c0:w.cell? ⟨b,0,none⟩=some a:=by simp [World.cell?,hh]
 rcases ha with rfl|rfl
 ·refine(Bg3 b T hT w c0 (by simp [World.shape?,hh]) (by simp [World.frozen?,hh])).mono ?_
  rintro e w' ⟨rfl,rfl⟩
  exact⟨rfl,.inr rfl⟩
 ·refine(Bk7 b w c0).mono ?_
  rintro e w' ⟨rfl,rfl⟩
  exact⟨rfl,.inl rfl⟩
theorem A0m(w:World) (g n k:Nat):Chg (fun b i=>b=g∧k≤i) w (w.freeze ⟨g,0,none⟩ n):=by
 unfold World.freeze
 split
 ·exact Chg.refl _ _
 ·have hne:∀(q:Nat),q≠g→∀F:Obj→Obj,(w.heap.modify g F)[q]? = w.heap[q]? := fun q hq F=>by
   rw [Array.getElem?_modify,if_neg (Ne.symm hq)]
  refine⟨rfl,rfl,rfl,by simp,fun q _ hq2=>hne q (fun e=>hq2 k ⟨e,Zn1 _⟩) _,fun b i v hv _ =>?_,fun b cs t f hb =>?_⟩
  ·by_cases hbg:b=g
   ·subst hbg
    unfold World.cell? at hv ⊢
    simp only [Array.getElem?_modify,if_true] at hv ⊢
    cases hh:w.heap[b]? with
    |none=>rw [hh] at hv;cases hv
    |some o =>
     rw [hh] at hv
     cases o with
     |cells c e f=>obtain⟨lo,hi⟩:=f;exact hv
     |_=>cases hv
   ·rw [World.cell?_of_block (a:=⟨b,i,none⟩) (hne b hbg _)]
    exact hv
  ·by_cases hbg:b=g
   ·subst hbg
    obtain⟨lo,hi⟩:=f
    exact⟨cs,_,by simp only [Array.getElem?_modify,if_true,hb];rfl,rfl⟩
   ·exact⟨cs,f,by rw [hne b hbg];exact hb,rfl⟩
theorem cellsByte:Tryz.prog.cellsOf 5=1:=by kernel_rfl
set_option maxHeartbeats 2000000 in
set_option maxRecDepth 100000 in
theorem Aw2(b g cap n:Nat) (w:World) (s:ByteArray) (hcap:cap≠0) (hc:w.cell? ⟨b,1,none⟩=some (.slice (some ⟨g,0,none⟩) n cap)) (hUS:(Builtin.unsafeString_ #[148,3] 9 #[.pointer (some ⟨g,0,none⟩),.int .i64 n]).run Tryz.prog w.drew = .ok (.string s) (w.drew.freeze ⟨g,0,none⟩ n)) :
  Calls Tryz.prog 41 #[.pointer (some ⟨b,0,none⟩)] w fun e w'=>e = .returned (.string s)∧w' = w.drew.freeze ⟨g,0,none⟩ n:=by
 have c1:w.drew.cell? ⟨b,1,none⟩=some (.slice (some ⟨g,0,none⟩) n cap):=hc
 have hSD:(Builtin.unsafeSliceData_ #[78] 148 #[.slice (some ⟨g,0,none⟩) n cap]).run Tryz.prog w.drew = .ok (.pointer (some ⟨g,0,none⟩)) w.drew:=Lib.run_unsafeSliceData_row _ _ _ _ _ _ hcap
 clear hcap
 have mixed:=follows
 have t1:=Tryz.underlying77
 have t2:=Tryz.underlying80
 have t3:=Tryz.underlying78
 have t4:=Tryz.underlying148
 have t5:=Tryz.underlying3
 have t6:=Tryz.underlying9
 have u1:=run_underlying (P:=Tryz.prog) t1
 have u2:=run_underlying (P:=Tryz.prog) t2
 have u3:=run_underlying (P:=Tryz.prog) t3
 have u4:=run_underlying (P:=Tryz.prog) t4
 have u5:=run_underlying (P:=Tryz.prog) t5
 have u6:=run_underlying (P:=Tryz.prog) t6
 go_enter Tryz.func41,Tryz.ntmps41
 go_wp2
 go_region_o
 all_goals (go_wp2;go_ret;exact⟨rfl,rfl⟩)
theorem Atr(W:World) (q:Option Addr):(Builtin.unsafeString_ #[148,3] 9 #[.pointer q,.int .i64 0]).run Tryz.prog W = .ok (.string .empty) W:=Lib.run_unsafeString_none W _ _ _ q
set_option maxHeartbeats 2000000 in
set_option maxRecDepth 100000 in
theorem Bj1(b:Nat) (w:World) (hc:w.cell? ⟨b,1,none⟩=some (.slice none 0 0)) :
  Calls Tryz.prog 41 #[.pointer (some ⟨b,0,none⟩)] w fun e w'=>e = .returned (.string ⟨#[]⟩)∧w' = w.drew:=by
 have hUS:=Atr
 have c1:w.drew.cell? ⟨b,1,none⟩=some (.slice none 0 0):=hc
 have hSD:(Builtin.unsafeSliceData_ #[78] 148 #[.slice none 0 0]).run Tryz.prog w.drew = .ok (.pointer none) w.drew:=rfl
 have mixed:=follows
 have t1:=Tryz.underlying77
 have t2:=Tryz.underlying80
 have t3:=Tryz.underlying78
 have t4:=Tryz.underlying148
 have t5:=Tryz.underlying3
 have t6:=Tryz.underlying9
 have u1:=run_underlying (P:=Tryz.prog) t1
 have u2:=run_underlying (P:=Tryz.prog) t2
 have u3:=run_underlying (P:=Tryz.prog) t3
 have u4:=run_underlying (P:=Tryz.prog) t4
 have u5:=run_underlying (P:=Tryz.prog) t5
 have u6:=run_underlying (P:=Tryz.prog) t6
 go_enter Tryz.func41,Tryz.ntmps41
 go_wp2
 go_region_o
 all_goals (go_wp2;go_ret;exact⟨rfl,rfl⟩)
set_option maxHeartbeats 2000000 in
set_option maxRecDepth 100000 in
theorem Ayz(b g:Nat) (w:World) (cur:Array Value) (hlt:b<w.heap.size) (hc:w.cell? ⟨b,1,none⟩=some (.slice (some ⟨g,0,none⟩) 0 0)) (hg:w.heap[g]? = some (.cells cur 5 (0,0))) :
  Calls Tryz.prog 41 #[.pointer (some ⟨b,0,none⟩)] w fun e w'=>e = .returned (.string ⟨#[]⟩)∧Chg G1 w w':=by
 have hUS:=Atr
 have c1:w.drew.cell? ⟨b,1,none⟩=some (.slice (some ⟨g,0,none⟩) 0 0):=hc
 have t4:=Tryz.underlying148
 have hSD:(Builtin.unsafeSliceData_ #[78] 148 #[.slice (some ⟨g,0,none⟩) 0 0]).run Tryz.prog w.drew = .ok (.pointer (some ⟨w.drew.heap.size,0,none⟩)) (w.drew.alloc (.view ⟨g,0,none⟩ 5)) :=
  Lib.run_unsafeSliceData_zero w.drew _ _ 5 t4 ⟨g,0,none⟩ 0 (5,cur.size) (by have hg':w.drew.heap[g]? = some (.cells cur 5 (0,0)):=hg;simp [World.shape?,hg'])
 have c2:(w.drew.alloc (.view ⟨g,0,none⟩ 5)).cell? ⟨b,1,none⟩=some (.slice (some ⟨g,0,none⟩) 0 0):=by
  rw [World.cell?_of_block (a:=⟨b,1,none⟩) (Below.heap_alloc w.drew _ _ hlt)]
  exact c1
 have c3:(w.alloc (.view ⟨g,0,none⟩ 5)).drew.cell? ⟨b,1,none⟩=some (.slice (some ⟨g,0,none⟩) 0 0):=c2
 have c0:w.cell? ⟨b,1,none⟩=some (.slice (some ⟨g,0,none⟩) 0 0):=c1
 have mixed:=follows
 have t1:=Tryz.underlying77
 have t2:=Tryz.underlying80
 have t3:=Tryz.underlying78
 have t5:=Tryz.underlying3
 have t6:=Tryz.underlying9
 have u1:=run_underlying (P:=Tryz.prog) t1
 have u2:=run_underlying (P:=Tryz.prog) t2
 have u3:=run_underlying (P:=Tryz.prog) t3
 have u4:=run_underlying (P:=Tryz.prog) t4
 have u5:=run_underlying (P:=Tryz.prog) t5
 have u6:=run_underlying (P:=Tryz.prog) t6
 go_enter Tryz.func41,Tryz.ntmps41
 go_wp2
 go_region_o
 all_goals (go_wp2;go_ret;exact⟨rfl,(Chg.drew G1 w).trans (Chg.alloc G1 w.drew _)⟩)
theorem Bjj{cx:Cx}{m:Mp}{a:Act}{rs:List Act}{st:St}{w w':World}(hr:Rel cx m a rs (fs st) w) (hch:Chg (Ek m (fs st)) w w') {d:D}{v:Value}(hd:Rep (vx cx m (fs { st with n:=1,env:=[(0,d)],bl:=[],tk:=[] }) w') d v):Rel cx m ⟨#[v],[]⟩ rs (fs { st with n:=1,env:=[(0,d)],bl:=[],tk:=[] }) w':=by
 have hnf:∀b i,¬Ek m (fs { st with n:=1,env:=[(0,d)],bl:=[],tk:=[] }) b i:=by
  rintro b i (⟨q,hq,_⟩|⟨t,o,h1,_,_⟩)
  ·exact hq rfl
  ·simp [fs] at h1
 have nx:Nx (vx cx m (fs st) w) (vx cx m (fs { st with n:=1,env:=[(0,d)],bl:=[],tk:=[] }) w'):=by
  refine⟨hch.mono fun b i hi =>.inr hi,?_,rfl,fun _ _=>rfl,Zn1 _,Zn1 _,fun t _ ha =>?_⟩
  ·rintro b i (h|h)
   ·exact .inl (.inl h)
   ·exact absurd h (hnf b i)
  ·simp [vx,fs] at ha
 have h1:Rel cx m a rs { fs st with bl:=fun _=>none,al:=fun _=>False } w':=by
  refine hr.step (s':={ fs st with bl:=fun _=>none,al:=fun _=>False }) rfl rfl rfl rfl rfl hch ?_ (fun b k hk=>by cases hk) (fun t ht=>ht.elim) (fun b b' h=>absurd rfl h) (fun t t' g o o' h=>h.elim) (fun b t g o h=>absurd rfl h) (fun b i hi =>?_)
  ·refine⟨hch.mono fun b i hi =>.inr hi,?_,rfl,fun _ _=>rfl,Zn1 _,Zn1 _,fun t _ ha=>ha.elim⟩
   rintro b i (h|⟨q,hq,_⟩|⟨t,o,h1,_,_⟩)
   ·exact .inl (.inl h)
   ·exact absurd rfl hq
   ·exact h1.elim
  ·rcases hi with ⟨q,hq,_⟩|⟨t,o,h1,_,_⟩
   ·exact absurd rfl hq
   ·exact h1.elim
 have hal:(fs { st with n:=1,env:=[(0,d)],bl:=[],tk:=[] }).al=fun _=>False:=by
  funext t;simp [fs]
 have e:fs { st with n:=1,env:=[(0,d)],bl:=[],tk:=[] }={ (fs { st with n:=1,env:=[(0,d)],bl:=[],tk:=[] }) with al:=fun _=>False }:=by
  rw [←hal]
 rw [e] at hd ⊢
 refine⟨h1.chg,⟨rfl,rfl,fun k d' hk =>?_⟩,h1.frs,h1.lb,h1.lt,h1.blks,h1.als,h1.inj,h1.injt,h1.injbt,h1.own,h1.away,h1.glb⟩
 have hk:get [(0,d)] k=some d':=hk
 rw [Dc] at hk
 by_cases h0:k=0
 ·subst h0
  simp only [if_true,Za1] at hk
  subst hk
  exact⟨v,rfl,hd⟩
 ·rw [if_neg h0] at hk
  cases hk
abbrev wT:TypeId:=82
def bstr_si:Sig:=⟨1,[],[(0,.ptr 0 0)],[(0,.bld wT)],1,1,0,[],[]⟩
def Ajz:Sig:=⟨1,[(0,.str)],[],[],1,1,0,[],[]⟩
abbrev Bn8:=List UInt8
abbrev Bnx:=Str
def Kl:Bn8→Option Bnx:=fun x=>some x
theorem A3m:FnLn Tryz.prog elT glT 41 bstr_si Ajz Kl:=by
 refine⟨Sx.enters_of Tryz.func41 rfl (by kernel_rfl),fun(l:List UInt8) r hx _ cx m vs af w h1 h2 h3 hr =>?_⟩
 obtain rfl:l=r:=Option.some.inj hx
 obtain⟨_,hb⟩:=hr.blks 0 (.bld wT (.sl .byte l (.id 0))) rfl
 obtain⟨_,a,v,hh,ha,hrep⟩:=hb
 obtain⟨u,hu,hup⟩:=hr.env.get 0 (.ptr 0 0) rfl
 have hsz:vs.toArray.size=1:=hr.env.size
 have hvs:vs=[u]:=by
  match vs,hsz,hu with
  |[y],_,hu=>simpa using hu
 subst hvs
 simp only [Rep] at hup hrep
 obtain⟨_,rfl⟩:=hup
 obtain⟨hrf,_,htk⟩:=hrep
 have htk:=htk (show(fs (Fu bstr_si [Hv bstr_si] l)).al 0 by simp [fs,Fu,bstr_si,Sig.sgs,Aoz,Cg,Bs.sgs,Aoy])
 have hh:w.heap[m.bl 0]? = some (.cells #[a,v] wT (0,0)):=hh
 have hblt:m.bl 0<w.heap.size:=(Zh2.1 hh).1
 have hlen:l.length≤maxLen:=hrf.here.len
 have c1:w.cell? ⟨m.bl 0,1,none⟩=some v:=by simp [World.cell?,hh]
 have done:(Calls Tryz.prog 41 #[.pointer (some ⟨m.bl 0,0,none⟩)] w fun e w'=>e = .returned (.string ⟨l.toArray⟩)∧Chg (Ek m (fs (Fu bstr_si [Hv bstr_si] l))) w w')→Calls Tryz.prog 41 ([.pointer (some ⟨m.bl 0,0,none⟩)]:List Value).toArray w fun en w'=>∃us st' m',en = .returned (Sx.resv us)∧(∀k,(bstr_si.bl.map (·.1)).contains k=true→m'.bl k=m.bl k)∧R7 Ajz st' = some l∧Rel cx m' ⟨us.toArray,[]⟩ [af] (fs st') w':=fun hc=>by
  refine hc.mono ?_
  rintro e w' ⟨rfl,hch⟩
  exact⟨[.string ⟨l.toArray⟩],{ Fu bstr_si [Hv bstr_si] l with n:=1,env:=[(0,.str l)],bl:=[],tk:=[] },m,rfl,fun _ _=>rfl,rfl,Bjj hr hch (by simp only [Rep];exact⟨trivial,hlen⟩)⟩
 refine done ?_
 rcases htk with ⟨rfl,_,rfl⟩|⟨g,cap,cur,rfl,ht,hg,hcs,hle,hcm⟩
 ·refine(Bj1 (m.bl 0) w c1).mono ?_
  rintro e w' ⟨rfl,rfl⟩
  exact⟨rfl,Chg.drew _ w⟩
 ·have ht:m.tk 0=some (g,l.length*1):=ht
  have hel:(vx cx m (fs (Fu bstr_si [Hv bstr_si] l)) w).el .byte=5:=by
   show cx.el .byte=_
   rw [h2];rfl
  rw [hel] at hg
  have hg:w.heap[g]? = some (.cells cur 5 (0,0)):=hg
  have hcs:cur.size=cap*1:=hcs
  by_cases hl0:l=[]
  ·subst hl0
   by_cases hc0:cap=0
   ·subst hc0
    refine(Ayz (m.bl 0) g w cur hblt c1 hg).mono ?_
    rintro e w' ⟨rfl,hch⟩
    exact⟨rfl,hch.mono fun _ _ h=>h.elim⟩
   ·refine(Aw2 (m.bl 0) g cap 0 w .empty hc0 c1 (Atr _ _)).mono ?_
    rintro e w' ⟨rfl,rfl⟩
    exact⟨rfl,Chg.drew _ w⟩
  ·have hcells:∀(j:Nat) x,l[j]? = some x→w.cell? ⟨g,j,none⟩=some (.int .u8 x.toNat):=fun j x hj=>by
    obtain⟨a',cap',e1,h|⟨b0,o0,e2,_,h4⟩⟩:=hrf.here.slice
    ·exact absurd h hl0
    ·simp only [Value.slice.injEq] at e1
     rw [e2] at e1
     simp only [Za1,Addr.mk.injEq] at e1
     obtain⟨⟨rfl,rfl,_⟩,_⟩:=e1
     obtain⟨u,hu,hf⟩:=h4 j x hj 0 _ rfl
     have e3 : 0+j*csz .byte+0=j:=by simp [csz]
     rw [e3] at hu
     cases hf
     exact hu
   have hn0:l.length≠0:=fun e=>hl0 (List.eq_nil_of_length_eq_zero e)
   have hUS:=Lib.run_unsafeString_row w.drew 148 3 9 5 Tryz.underlying148 cellsByte g cur.size (by have hg':w.drew.heap[g]? = some (.cells cur 5 (0,0)):=hg;simp [World.shape?,hg']) l hl0 (by omega) (by unfold maxLen at hcm;omega) (fun j x hj=>by
    have e:(⟨g,0,none⟩:Addr).add j=⟨g,j,none⟩:=by
     unfold Addr.add
     by_cases hj0:j=0
     ·subst hj0;simp
     ·simp [hj0]
    rw [e]
    exact hcells j x hj)
   refine(Aw2 (m.bl 0) g cap l.length w ⟨l.toArray⟩ (by omega) c1 hUS).mono ?_
   rintro e w' ⟨rfl,rfl⟩
   refine⟨rfl,(Chg.drew _ w).trans ((A0m w.drew g l.length (l.length*1)).mono fun b i hi =>?_)⟩
   obtain⟨rfl,hi⟩:=hi
   exact .inr ⟨0,l.length*1,by simp [fs,Fu,bstr_si,Sig.sgs,Aoz,Cg,Bs.sgs,Aoy],ht,hi⟩
def Acf:Sig:=⟨2,[(1,.str)],[(0,.ptr 0 0)],[(0,.bld 82)],1,1,0,[],[]⟩
def Abw:Sig:=⟨2,[],[],[(0,.bld 82)],1,1,0,[],[]⟩
abbrev Alx:=Str×List UInt8
abbrev Yk:=List UInt8
def Vb(R:Type):Px R:=⟨Bd ttL,glT,Au [(152,A1e Awc)],Am [],Aw [],tbl []⟩
def Aae(x:Alx):Option (Yk):=match x with
 |(s,out) =>
 chk (decide (out.length+s.length≤A1)) (
  some (out++s))
theorem A7i:∀(x:Alx),Du (Vb _) Tryz.f104 Acf Abw x some=Aae x
 |(s,out)=>by kernel_rfl
theorem Azy:FnLn Tryz.prog elT glT 104 Acf Abw (Aae):=by
 refine Bu Tryz.func104 rfl (by kernel_rfl) follows (by kernel_rfl) (n:=0) (by kernel_rfl) (px:=Vb _) (fun cx hP hel hgl =>?_) (A7i)
 have hp0:PxOk cx (Vb (Yk)):=⟨fun t=>by rw [hP,hel];exact Av An t,by rw [hgl];rfl⟩
 have hc0:Al cx (Vb (Yk)):=Af rfl (Aa (Bp9 (by rw [hP];exact A73) (by rw [hP];exact Bqg)) Aj)
 have hq0:CallQOk cx (Vb (Yk)):=Ab rfl rfl Ah Ae
 exact⟨hp0,hc0,hq0,Ay⟩
def Ato(s out:Str):Option Str:=if out.length+s.length≤A1 then some (out++s) else none
def Z7:Alx→Option Yk:=fun x=>Ato x.1 x.2
theorem Bab:FnLn Tryz.prog elT glT 104 Acf Abw Z7 :=.fin0 Azy fun(s,out) r hb hx=>by
 simp only [Z7,Ato] at hx
 split at hx
 ·rename_i h
  simp only [Aae]
  rw [Ze1 h]
  exact hx
 ·cases hx
end Go.Proofs.YthndhaolemgbdaaGreatDoor
namespace Go.Proofs
open Go.Shelf
def Tryz.laysRJ_ren:Go.Shelf.Ren:=⟨fun|156=>105|165=>153|166=>104|169=>41|240=>152|241=>173|276=>172|277=>190|n=>n,fun|0=>0|3=>3|4=>4|5=>5|9=>9|20=>20|31=>34|37=>78|70=>77|72=>80|75=>153|76=>154|80=>84|127=>148|164=>205|n=>n,fun n=>n⟩
theorem Tryz.laysRJ:Go.Proofs.Lays.n156 Tryz.prog Tryz.laysRJ_ren:={
 mixed:=by kernel_rfl
 f156:=Tryz.func105.trans (congrArg some (by kernel_rfl))
 f165:=Tryz.func153.trans (congrArg some (by kernel_rfl))
 f166:=Tryz.func104.trans (congrArg some (by kernel_rfl))
 f169:=Tryz.func41.trans (congrArg some (by kernel_rfl))
 f240:=Tryz.func152.trans (congrArg some (by kernel_rfl))
 f241:=Tryz.func173.trans (congrArg some (by kernel_rfl))
 f276:=Tryz.func172.trans (congrArg some (by kernel_rfl))
 f277:=Tryz.func190.trans (congrArg some (by kernel_rfl))
 t0:=Tryz.underlying0
 a0:=Tryz.isAgg0
 z0:=Tryz.sizeOf0
 v0:=Tryz.zeroValue0
 t3:=Tryz.underlying3
 a3:=Tryz.isAgg3
 z3:=Tryz.sizeOf3
 v3:=Tryz.zeroValue3
 t4:=Tryz.underlying4
 a4:=Tryz.isAgg4
 z4:=Tryz.sizeOf4
 v4:=Tryz.zeroValue4
 t9:=Tryz.underlying9
 a9:=Tryz.isAgg9
 z9:=Tryz.sizeOf9
 v9:=Tryz.zeroValue9
 t20:=Tryz.underlying20
 a20:=Tryz.isAgg20
 z20:=Tryz.sizeOf20
 v20:=Tryz.zeroValue20
 t31:=Tryz.underlying34
 a31:=Tryz.isAgg34
 z31:=Tryz.sizeOf34
 v31:=Tryz.zeroValue34
 t37:=Tryz.underlying78
 a37:=Tryz.isAgg78
 z37:=Tryz.sizeOf78
 v37:=Tryz.zeroValue78
 t70:=Tryz.underlying77
 a70:=Tryz.isAgg77
 z70:=Tryz.sizeOf77
 v70:=Tryz.zeroValue77
 t72:=Tryz.underlying80
 a72:=Tryz.isAgg80
 z72:=Tryz.sizeOf80
 v72:=Tryz.zeroValue80
 t75:=Tryz.underlying153
 a75:=Tryz.isAgg153
 z75:=Tryz.sizeOf153
 v75:=Tryz.zeroValue153
 t76:=Tryz.underlying154
 a76:=Tryz.isAgg154
 z76:=Tryz.sizeOf154
 v76:=Tryz.zeroValue154
 t127:=Tryz.underlying148
 a127:=Tryz.isAgg148
 z127:=Tryz.sizeOf148
 v127:=Tryz.zeroValue148
 t164:=Tryz.underlying205
 a164:=Tryz.isAgg205
 z164:=Tryz.sizeOf205
 v164:=Tryz.zeroValue205 }
theorem Tryz.extraRJ:Builder.Extra Tryz.prog Tryz.laysRJ_ren:={
 sizeBuilder:=by kernel_rfl
 liesBuilder:=by kernel_rfl
 t5:=Tryz.underlying5
 a5:=Tryz.isAgg5
 z5:=Tryz.sizeOf5
 v5:=Tryz.zeroValue5
 infoByte:=by kernel_rfl
 cellsByte:=by kernel_rfl
 sizeByte:=by kernel_rfl
 neB5:=by decide }
end Go.Proofs
namespace Go.Proofs.YthndhaolemgbdaaGreatDoor
open Go.Ax Go.RowKit
def A56(l:List Str) (sep:Str):Option Str:=if l.length≤1000000∧(Lib.join l sep).length≤1000000000 then some (Lib.join l sep) else none
def Auh:FT [.sl .str false,.str] [.str]:=fun x=>A56 x.1 x.2
theorem Bde:FnOk Tryz.prog elT glT 105 [.sl .str false,.str] [.str] Auh:=by
 refine⟨Sx.enters_of Tryz.func105 rfl (by kernel_rfl),fun x r hx w M vs hM hgl hr =>?_⟩
 obtain⟨l,sep⟩:=x
 simp only [Auh,A56] at hx
 split at hx
 case isFalse=>cases hx
 rename_i hc
 obtain⟨h1,h2⟩:=hc
 obtain rfl:=Option.some.inj hx
 simp only [De,D6,Reps,Rep] at hr
 obtain⟨u,us,rfl,⟨hrf,_⟩,u2,us2,rfl,⟨rfl,_⟩,rfl⟩:=hr
 have key:Calls Tryz.prog 105 #[u,.string ⟨sep.toArray⟩] w fun e w'=>e = .returned (.string ⟨(Lib.join l sep).toArray⟩)∧Below w.heap.size w w':=by
  obtain⟨a,cap,rfl,h⟩:=hrf.here.slice
  rcases h with rfl|⟨b,o,rfl,⟨hle,hcm⟩,hat⟩
  ·have c:=Any.strings_Join_none Tryz.laysRJ Tryz.extraRJ a cap ⟨sep.toArray⟩ w
   refine Calls.mono (show Calls Tryz.prog 105 _ w _ from c) ?_
   rintro e w' ⟨rfl,rfl⟩
   exact⟨rfl,Below.refl _ _⟩
  ·by_cases hl:l=[]
   ·subst hl
    have c:=Any.strings_Join_none Tryz.laysRJ Tryz.extraRJ (some ⟨b,o,none⟩) cap ⟨sep.toArray⟩ w
    refine Calls.mono (show Calls Tryz.prog 105 _ w _ from c) ?_
    rintro e w' ⟨rfl,rfl⟩
    exact⟨rfl,Below.refl _ _⟩
   ·have hcell:∀(j:Nat) x,l[j]? = some x→w.cell? ⟨b,o+j,none⟩=some (.string ⟨x.toArray⟩):=fun j x hj=>by
     obtain⟨u,hu,hf⟩:=hat j x hj 0 _ rfl
     have e3:o+j*csz .str+0=o+j:=by simp [csz]
     rw [e3] at hu
     cases hf
     exact hu
    have hb:b<w.heap.size:=by
     cases l with
     |nil=>exact absurd rfl hl
     |cons x l=>exact Ajx (hcell 0 x rfl)
    have em:(l.map fun s=>(⟨s.toArray⟩:ByteArray)).map (·.data.toList)=l:=by
     rw [List.map_map]
     simp [Function.comp_def]
    have es:(⟨sep.toArray⟩:ByteArray).data.toList=sep:=by simp
    have c:=Any.strings_Join Tryz.laysRJ Tryz.extraRJ b o cap (l.map fun s=>⟨s.toArray⟩) ⟨sep.toArray⟩ w (fun j x hj=>by
     rw [List.getElem?_map] at hj
     obtain⟨y,hy,rfl⟩:=Option.map_eq_some_iff.1 hj
     exact hcell j y hy) hb (by rw [List.length_map];omega) (by rw [List.length_map];exact hle) (by rw [em,es];omega)
    rw [em,es,List.length_map] at c
    exact c
 refine key.mono ?_
 rintro en w' ⟨rfl,hbel⟩
 refine⟨_,⟨fun _=>0,fun _=>Option.none⟩,rfl,Chg.of_below hbel,fun p g o hp=>(by simp [Cg] at hp),fun p q g o o2 hp=>(by simp [Cg] at hp),?_⟩
 simp only [Rg,De,D6,Rep]
 exact⟨trivial,by simp only [maxLen];omega⟩
end Go.Proofs.YthndhaolemgbdaaGreatDoor
namespace Go.Proofs.YthndhaolemgbdaaGreatDoor
open Go.Ax
def app(out t:Str):Option Str:=if out.length+t.length≤100000000000 then some (out++t) else none
theorem Kc(out a b:Str):((app out a).bind fun x=>app x b)=app out (a++b):=by
 simp only [app,Zh1]
 by_cases h1:out.length+a.length≤100000000000
 ·rw [if_pos h1,Zc1]
  simp only [Zh1,Zj1,Nat.add_assoc]
 ·rw [if_neg h1,if_neg (by omega)]
  rfl
theorem Dt{R:Type}(out a b:Str) (c:Str→Option R):((app out a).bind fun x=>(app x b).bind c)=(app out (a++b)).bind c:=by
 rw [←Kc,Option.bind_assoc]
theorem Kf{o:Option Str}:(o.bind fun x=>some x)=o:=by cases o<;>rfl
theorem Akc{out:Str}(h:out.length≤100000000000):app out []=some out:=by
 simp only [app,Zi1,Nat.add_zero,List.append_nil]
 rw [if_pos h]
theorem Ath{out t r:Str}(h:app out t=some r):r.length≤100000000000∧r=out++t:=by
 simp only [app] at h
 split at h
 ·rename_i h1
  obtain rfl:=Option.some.inj h
  exact⟨by rw [Zh1];exact h1,rfl⟩
 ·cases h
theorem Bic{out t r:Str}(h:app out t=some r):out.length+t.length≤100000000000:=by
 simp only [app] at h
 split at h
 ·rename_i h1;exact h1
 ·cases h
theorem Avi{out t:Str}(h:out.length+t.length≤100000000000):app out t=some (out++t):=if_pos h
def Fq{α:Type}(f : α→Str):List α→Str
 |[]=>[]
 |x::l=>[44,32]++f x++Fq f l
def Cc{α:Type}(f : α→Str):List α→Str
 |[]=>[]
 |x::l=>f x++Fq f l
theorem Oo{V R α:Type}{step:(V→Option R)→V→Option R}(l:List α) (f : α→Str) (st:Nat→Str→V) (c:Str→Option R)
  (hs:∀i (hi:i<l.length) (acc:Str) rec,step rec (st i acc)=(app acc ((if i=0 then [] else [44,32])++f l[i])).bind fun x=>rec (st (i+1) x))
  (he:∀acc rec,step rec (st l.length acc)=c acc) (k:Nat) (hk:l.length<k) (out:Str) (ho:out.length≤100000000000):A0 step k (st 0 out)=(app out (Cc f l)).bind c:=by
 refine(Nn l.length st (fun _ acc=>acc.length≤100000000000) (fun i acc=>(app acc (if i=0 then Cc f (l.drop i) else Fq f (l.drop i))).bind c) (fun i hi acc ha rec hr =>?_) (fun acc ha rec =>?_) k 0 out (Nat.zero_le _) (by omega) ho).trans (by rw [if_pos rfl,Zq1])
 ·rw [hs i hi acc rec]
  have hd:(if i=0 then Cc f (l.drop i) else Fq f (l.drop i))=((if i=0 then [] else [44,32])++f l[i])++Fq f (l.drop (i+1)):=by
   rw [Bb hi]
   split<;>simp [Cc,Fq]
  rw [hd,←Dt acc ((if i=0 then [] else [44,32])++f l[i]) (Fq f (l.drop (i+1))) c]
  cases hx:app acc ((if i=0 then [] else [44,32])++f l[i]) with
  |none=>rfl
  |some x =>
   rw [Zc1,Zc1,hr x (Ath hx).1,if_neg (by omega)]
 ·rw [he]
  have:(if l.length=0 then Cc f (l.drop l.length) else Fq f (l.drop l.length))=[]:=by
   rw [Zc2]
   split<;>rfl
  rw [this,Akc ha]
  rfl
def Cn:Sig:=⟨2,[(1,.sl .str false)],[(0,.ptr 0 0)],[(0,.bld 82)],1,1,0,[],[]⟩
def Co:Sig:=⟨0,[],[],[(0,.bld 82)],1,1,0,[],[]⟩
abbrev Amv:=List Str×List UInt8
abbrev Ug:=List UInt8
def Yf:Sig:=⟨18,[(6,.sl .str false),(7,.int .i64),(8,.int .i64)],[(0,.ptr 0 0)],[(0,.bld 82)],1,1,0,[],[]⟩
abbrev Ig:=List Str×Int×Int×List UInt8
def Re{R:Type}(rec:Ig→Option R) (kx:Ex→Ig→Option R) (v:Ig):Option R:=match v with
 |(v,v1,v2,w) =>
 cond (decide (v2<v1)) (
  chk (inb v2 v.length) (
  (Z7 ((at' .str v v2),w)).bind fun x =>
   rec (v,v1,(wr .i64 (v2+1)),x))) (
  kx (.exit 0) (v,v1,v2,w))
def Mm(R:Type) (k:Nat):Px R:=⟨Bd ttL,glT,Au [(104,Aq Acf Abw Z7)],Am [],Aw [(1,Be k Yf (Re))],tbl []⟩
theorem Aw0(R:Type) (k:Nat):∀(fr:List Fr) (rec:Ig→Option R) (kx:Ex→Ig→Option R) (v:Ig),Bn (Mm R k) Yf (lp Tryz.f49 0) fr rec kx v=Re rec kx v
 |fr,rec,kx,(v,v1,v2,w)=>by kernel_rfl
def Aiw(k:Nat) (x:Amv):Option (Ug):=match x with
 |(l,out) =>
 A0 (fun rec=>Re rec (fun e vz=>match vz with|(_,_,_,v6)=>match e with
  |.exit 0 =>
  some v6
  |_=>none)) k (l,(l.length:Int),0,out)
theorem A7d(k:Nat):∀(x:Amv),Du (Mm _ k) Tryz.f49 Cn Co x some=Aiw k x
 |(l,out)=>by kernel_rfl
theorem A0p(k:Nat):FnLn Tryz.prog elT glT 49 Cn Co (Aiw k):=by
 refine Bu Tryz.func49 rfl (by kernel_rfl) follows (by kernel_rfl) (n:=1) (by kernel_rfl) (px:=Mm _ k) (fun cx hP hel hgl =>?_) (A7d k)
 have hp0:PxOk cx (Mm (Ug) k):=⟨fun t=>by rw [hP,hel];exact Av An t,by rw [hgl];rfl⟩
 have hc0:Al cx (Mm (Ug) k):=Af rfl (Aa (A9 (by rw [hP,hel,hgl];exact Bab) (by kernel_rfl)) Aj)
 have hq0:CallQOk cx (Mm (Ug) k):=Ab rfl rfl Ah Ae
 have hlwwords_0:A8 cx (Mm (Ug) k) (lp Tryz.f49 0):=Ba hp0 hc0 hq0 (by rw [hP];exact follows) (k:=k) (s:=Yf) (step:=Re) (fun _ _=>by kernel_rfl) (by kernel_rfl) (Aw0 _ k) (Az (n:=0) (by kernel_rfl) Ay)
 exact⟨hp0,hc0,hq0,(Cj Ay hlwwords_0)⟩
def Bm6(l:List Str) (out:Str):Option Str:=app out l.flatten
def A2:Amv→Option Ug:=fun x=>Bm6 x.1 x.2
theorem Av7{R:Type}{kx:Ex→Ig→Option R}{l:List Str}{c:Str→Option R}(hn:ln l.length) (h2:∀i out,kx (.exit 0) (l,(l.length:Int),i,out)=c out) (k:Nat) (hk:l.length<k) (out:Str) (ho:out.length+l.flatten.length≤100000000000) :
  A0 (fun rec=>Re rec kx) k (l,(l.length:Int),0,out)=c (out++l.flatten):=by
 refine(Nn l.length (fun i out=>(l,(l.length:Int),(i:Int),out)) (fun i out=>List.length out+((l.drop i).flatten).length≤100000000000) (fun i out=>c (out++(l.drop i).flatten)) (fun i hi out ha rec hr =>?_) (fun out _ rec =>?_) k 0 out (Nat.zero_le _) (by omega) (by rw [Zq1];exact ho)).trans (by rw [Zq1])
 ·rw [Bb hi] at ha ⊢
  simp only [Zz1,Zh1] at ha
  have hw:Ato l[i] out=some (out++l[i]):=by
   simp only [Ato]
   rw [if_pos (by simp only [A1];omega)]
  have hr:=hr (out++l[i]) (by rw [Zh1];omega)
  simp only [Re,Gm hi,Ai,Bl hi,chk,Bk (c :=.str) hi,Z7,hw,Zc1,Bf hi hn,hr,Zz1,Zj1]
 ·simp only [Re,Gh,Ak,h2]
  rw [Zk1 (Zn1 _)]
  simp
theorem Dj:FnLn Tryz.prog elT glT 49 Cn Co A2 :=.fin 0 A0p fun(l,out) r hb hx=>⟨l.length+1,by
 have hx:app out l.flatten=some r:=hx
 have hlen:=Bic hx
 rw [(Ath hx).2]
 exact Av7 (l:=l) (c:=some) hb.1.1 (fun _ _=>rfl) (l.length+1) (by omega) out hlen⟩
theorem ww(l:List Str) (out:Str):A2 (l,out)=app out l.flatten:=rfl
def sgn(k:Int):Str:=Vl signsL k
mutual
def etx:Xpr→Str
 |.mk k v n l=>if k=1 then B8 v else if k=2 then n else etxs k l
def etxs:Int→List Xpr→Str
 |_,[]=>[]
 |k,x::l=>if k=3 then [40]++[78,79,84,32]++etx x++[41] else if k=15 then [40]++[45]++etx x++[41] else if k=16 then [40]++etx x++[32,73,83,32,78,85,76,76]++[41] else [40]++etx x++([32]++(sgn k++[32]))++etx1 l++[41]
def etx1:List Xpr→Str
 |[]=>[]
 |y::_=>etx y
end
mutual
def okx:Xpr→Bool
 |.mk k _ _ l=>if k=1∨k=2 then true else okxs k l
def okxs:Int→List Xpr→Bool
 |_,[]=>false
 |k,x::l=>okx x&&(if k=3∨k=15∨k=16 then true else okx1 l)
def okx1:List Xpr→Bool
 |[]=>false
 |y::_=>okx y
end
theorem Azc(e:Xpr):etx e=if e.kind=1 then B8 e.v else if e.kind=2 then e.name else etxs e.kind e.l:=by
 cases e;simp only [etx];rfl
theorem Bc6(e:Xpr):okx e=if e.kind=1∨e.kind=2 then true else okxs e.kind e.l:=by
 cases e;simp only [okx];rfl
def Gf:Sig:=⟨2,[(1,.sv .expr)],[(0,.ptr 0 0)],[(0,.bld 82)],1,1,0,[],[]⟩
def Gi:Sig:=⟨0,[],[],[(0,.bld 82)],1,1,0,[],[]⟩
abbrev Mv:=Xpr×List UInt8
abbrev H9:=List UInt8
def Aag(R:Type) (rf:Mv→Option H9):Px R:=⟨Bd ttL,glT,Au [(98,As [.sv .val] [.str] Afd),(49,Aq Cn Co A2),(40,Aq Gf Gi rf)],Am [],Aw [],tbl []⟩
def Ma(rf:Mv→Option H9) (x:Mv):Option (H9):=match x with
 |(e,out) =>
 cond (decide (e.kind=1)) (
  (A2 ([(B8 e.v)],out)).bind fun x =>
  some x) (
  cond (decide (e.kind=2)) (
  (A2 ([e.name],out)).bind fun x1 =>
   some x1) (
  (A2 ([[40]],out)).bind fun x2 =>
   cond (decide (e.kind=3)) (
   (A2 ([[78,79,84,32]],x2)).bind fun x3 =>
    chk (inb 0 e.l.length) (
    (rf ((at' .expr e.l 0),x3)).bind fun x4 =>
     (A2 ([[41]],x4)).bind fun x13 =>
     some x13)) (
   cond (decide (e.kind=15)) (
    (A2 ([[45]],x2)).bind fun x5 =>
    chk (inb 0 e.l.length) (
     (rf ((at' .expr e.l 0),x5)).bind fun x6 =>
     (A2 ([[41]],x6)).bind fun x14 =>
      some x14)) (
    cond (decide (e.kind=16)) (
    chk (inb 0 e.l.length) (
     (rf ((at' .expr e.l 0),x2)).bind fun x7 =>
     (A2 ([[32,73,83,32,78,85,76,76]],x7)).bind fun x8 =>
      (A2 ([[41]],x8)).bind fun x15 =>
      some x15)) (
    chk (inb 0 e.l.length) (
     (rf ((at' .expr e.l 0),x2)).bind fun x9 =>
     (A2 ([[32],(Vl signsL e.kind),[32]],x9)).bind fun x10 =>
      chk (inb 1 e.l.length) (
      (rf ((at' .expr e.l 1),x10)).bind fun x11 =>
       (A2 ([[41]],x11)).bind fun x16 =>
       some x16)))))))
theorem Bha(rf:Mv→Option H9):∀(x:Mv),Du (Aag _ rf) Tryz.f40 Gf Gi x some=Ma rf x
 |(e,out)=>by kernel_rfl
theorem Bad(rf:Mv→Option H9) (hrf:FnLn Tryz.prog elT glT 40 Gf Gi rf):FnLn Tryz.prog elT glT 40 Gf Gi (Ma rf):=by
 refine Bu Tryz.func40 rfl (by kernel_rfl) follows (by kernel_rfl) (n:=0) (by kernel_rfl) (px:=Aag _ rf) (fun cx hP hel hgl =>?_) (Bha rf)
 have hp0:PxOk cx (Aag (H9) rf):=⟨fun t=>by rw [hP,hel];exact Av An t,by rw [hgl];rfl⟩
 have hc0:Al cx (Aag (H9) rf):=Af rfl (Aa (A7 (by rw [hP,hel,hgl];exact Apc) (by kernel_rfl)) (Aa (A9 (by rw [hP,hel,hgl];exact Dj) (by kernel_rfl)) (Aa (A9 (by rw [hP,hel,hgl];exact hrf) (by kernel_rfl)) Aj)))
 have hq0:CallQOk cx (Aag (H9) rf):=Ab rfl rfl Ah Ae
 exact⟨hp0,hc0,hq0,Ay⟩
def Bqi(e:Xpr) (out:Str):Option Str:=cond (okx e) (app out (etx e)) none
def F7:Mv→Option H9:=fun x=>Bqi x.1 x.2
theorem Aqs:∀(n:Nat) (e:Xpr) (out:Str),BdExpr e→Bx e≤n→okx e=true→A0 (V:=Mv) (R:=H9) Ma n (e,out)=app out (etx e)
 |0,e,_,_,h,_=>by have:=F2 e;omega
 |n+1,e,out,hb,h,hok=>by
  obtain⟨hb4,hb5⟩:=Ait hb
  rw [Hz] at h
  have hrf:∀x,x∈e.l→okx x=true→∀out:Str,A0 (V:=Mv) (R:=H9) Ma n (x,out)=app out (etx x):=fun x hx ho out=>Aqs n x out (hb5 x hx) (by have:=Eg hx;omega) ho
  rw [Br,Azc]
  rw [Bc6] at hok
  simp only [Ma,ww]
  by_cases h1:e.kind=1
  ·rw [Ze1 h1,if_pos h1,Ai,Kf]
   simp
  by_cases h2:e.kind=2
  ·rw [Zd1 h1,Ze1 h2,if_neg h1,if_pos h2,Ak,Ai,Kf]
   simp
  rw [Zd1 h1,Zd1 h2,if_neg h1,if_neg h2,Ak,Ak]
  rw [if_neg (by omega)] at hok
  cases hl:e.l with
  |nil=>rw [hl] at hok;cases hok
  |cons x l =>
   rw [hl] at hok hrf
   simp only [okxs,Zb1] at hok
   have hx:=hrf x Zr1 hok.1
   have e0:at' .expr (x::l) 0=x:=rfl
   have i0:inb 0 (x::l).length=true:=Bl (i:=0) (by simp)
   simp only [e0,i0,hx,chk,Ai,etxs]
   by_cases h3:e.kind=3
   ·rw [Ze1 h3,if_pos h3]
    simp only [Ai,Dt,Kf,Kc,Zz1,List.flatten_nil,List.append_nil,Zj1]
   by_cases h15:e.kind=15
   ·rw [Zd1 h3,Ze1 h15,if_neg h3,if_pos h15]
    simp only [Ai,Ak,Dt,Kf,Kc,Zz1,List.flatten_nil,List.append_nil,Zj1]
   by_cases h16:e.kind=16
   ·rw [Zd1 h3,Zd1 h15,Ze1 h16,if_neg h3,if_neg h15,if_pos h16]
    simp only [Ai,Ak,Dt,Kf,Kc,Zz1,List.flatten_nil,List.append_nil,Zj1]
   rw [Zd1 h3,Zd1 h15,Zd1 h16,if_neg h3,if_neg h15,if_neg h16]
   rw [if_neg (by omega)] at hok
   cases l with
   |nil=>exact absurd hok.2 (by simp [okx1])
   |cons y l =>
    have hy:=hrf y (by simp) hok.2
    have e1:at' .expr (x::y::l) 1=y:=rfl
    have i1:inb 1 (x::y::l).length=true:=Bl (i:=1) (by simp)
    simp only [e1,i1,hy,Ai,Ak,etx1]
    simp only [Kf,Kc,Zz1,List.flatten_nil,List.append_nil,Zj1,sgn]
theorem Uo:FnLn Tryz.prog elT glT 40 Gf Gi F7:=by
 refine .fin (ι:=Nat) (sg:=Gf) (so:=Gi) 0 (F:=fun n=>A0 (V:=Mv) (R:=H9) Ma n) (fun n=>FnLn.rec' (Sx.enters_of Tryz.func40 rfl rfl) (fun rf hrf=>Bad rf hrf) n) fun(e,out) r hb hx=>⟨Bx e,?_⟩
 have hx:cond (okx e) (app out (etx e)) none=some r:=hx
 cases hok:okx e with
 |false=>rw [hok] at hx;cases hx
 |true =>
  rw [hok] at hx
  exact(Aqs (Bx e) e out hb.1 (Zn1 _) hok).trans hx
theorem we{e:Xpr}(h:okx e=true) (out:Str):F7 (e,out)=app out (etx e):=by
 show cond (okx e) _ _=_
 rw [h]
 rfl
end Go.Proofs.YthndhaolemgbdaaGreatDoor
namespace Go.Proofs.YthndhaolemgbdaaGreatDoor
open Go.Ax
theorem Dx{R:Type}{out t:Str}{f g:Str→Option R}(h:∀x:Str,x.length≤100000000000→f x=g x):(app out t).bind f=(app out t).bind g:=by
 cases hx:app out t with
 |none=>rfl
 |some x=>exact h x (Ath hx).1
theorem U8{R:Type}(i:Nat) (acc t:Str) (c:Str→Option R):cond (decide ((0:Int)<(i:Int))) ((app acc [44,32]).bind fun x=>(app x t).bind c) ((app acc t).bind c)=(app acc ((if i=0 then [] else [44,32])++t)).bind c:=by
 by_cases h:i=0
 ·rw [Zd1 (by omega),if_pos h]
  rfl
 ·rw [Ze1 (by omega),if_neg h,Ai,Dt]
theorem fl1(a:Str):([a]:List Str).flatten=a:=by simp
theorem fl2(a b:Str):([a,b]:List Str).flatten=a++b:=by simp
theorem fl3(a b c:Str):([a,b,c]:List Str).flatten=a++(b++c):=by simp
theorem fl5(a b c d e:Str):([a,b,c,d,e]:List Str).flatten=a++(b++(c++(d++e))):=by simp
theorem Bgt{V R α:Type}{step:(V→Option R)→V→Option R}(l:List α) (f : α→Str) (st:Nat→Str→V) (c:Str→Option R)
  (hs:∀i (hi:i<l.length) (acc:Str) rec,step rec (st i acc)=(app acc (f l[i])).bind fun x=>rec (st (i+1) x))
  (he:∀acc rec,step rec (st l.length acc)=c acc) (k:Nat) (hk:l.length<k) (out:Str) (ho:out.length≤100000000000):A0 step k (st 0 out)=(app out (l.map f).flatten).bind c:=by
 refine(Nn l.length st (fun _ acc=>acc.length≤100000000000) (fun i acc=>(app acc ((l.drop i).map f).flatten).bind c) (fun i hi acc ha rec hr =>?_) (fun acc ha rec =>?_) k 0 out (Nat.zero_le _) (by omega) ho).trans (by rw [Zq1])
 ·rw [hs i hi acc rec,Bb hi,Zw1,Zz1,←Dt]
  exact Dx fun x hx=>hr x hx
 ·rw [he,Zc2,List.map_nil,List.flatten_nil,Akc ha]
  rfl
theorem Boy{out r:Str}(h:app out []=some r):some out=some r:=by
 have:=(Ath h).2
 rw [List.append_nil] at this
 rw [this]
def Z8(R:Type):Px R:=⟨Bd ttL,glT,Au [(39,As [.sv .expr,.int .i64] [.bool] S5),(40,Aq Gf Gi F7),(41,Aq bstr_si Ajz Kl)],Am [],Aw [],tbl []⟩
def Aeg(x:HV [.sv .expr]):Option (HV [.str,.int .i64]):=match x with
 |e =>
 cond (!(Bp e 30)) (
  some ([],2)) (
  (F7 (e,[])).bind fun x =>
  (Kl x).bind fun x1 =>
   some (x1,0))
theorem Bem:∀(x:HV [.sv .expr]),Cs (Z8 _) Tryz.f14 [.sv .expr] [.str,.int .i64] x some=Aeg x
 |e=>by kernel_rfl
theorem Bas:FnOk Tryz.prog elT glT 14 [.sv .expr] [.str,.int .i64] (Aeg):=by
 refine A3 Tryz.func14 rfl (by kernel_rfl) follows (by kernel_rfl) (n:=0) (by kernel_rfl) (px:=Z8 _) (fun cx hP hel hgl =>?_) (Bem)
 have hp0:PxOk cx (Z8 (HV [.str,.int .i64])):=⟨fun t=>by rw [hP,hel];exact Av An t,by rw [hgl];rfl⟩
 have hc0:Al cx (Z8 (HV [.str,.int .i64])):=Af rfl (Aa (A7 (by rw [hP,hel,hgl];exact Tu) (by kernel_rfl)) (Aa (A9 (by rw [hP,hel,hgl];exact Uo) (by kernel_rfl)) (Aa (A9 (by rw [hP,hel,hgl];exact A3m) (by kernel_rfl)) Aj)))
 have hq0:CallQOk cx (Z8 (HV [.str,.int .i64])):=Ab rfl rfl Ah Ae
 exact⟨hp0,hc0,hq0,Ay⟩
def Up(e:Xpr):Option (Str×Int):=cond (Bp e 30) (cond (okx e) ((app [] (etx e)).bind fun t=>some (t,0)) none) (some ([],2))
def Ars:FT [.sv .expr] [.str,.int .i64]:=fun x=>Up x
theorem Axs:FnOk Tryz.prog elT glT 14 [.sv .expr] [.str,.int .i64] Ars :=.fin0 Bas fun e r hb hx=>by
 have hx:Up e=some r:=hx
 rw [←hx]
 simp only [Aeg,Up]
 simp only [Up] at hx
 cases hr:Bp e 30 with
 |false=>rfl
 |true =>
  rw [hr] at hx
  cases ho:okx e with
  |false=>rw [ho] at hx;cases hx
  |true =>
   simp only [we ho,Zt1,Ak,Ai]
   rfl
theorem Y8:∀(l:List Xpr) (m:Int),erights l m=l.all fun x=>Bp x m
 |[],_=>rfl
 |x::l,m=>by simp only [erights,Zv1,Y8 l m]
theorem Arc:∀(n:Nat) (e:Xpr) (m:Int),Bx e≤n→Bp e m=true→okx e=true
 |0,e,_,h,_=>by have:=F2 e;omega
 |n+1,e,m,h,hr=>by
  obtain⟨hp,_,hs⟩:=Hr hr
  rw [Hz] at h
  rw [Y8] at hs
  have ih:∀x,x∈e.l→okx x=true:=fun x hx=>Arc n x _ (by have:=Eg hx;omega) (Zg2.1 hs x hx)
  rw [Bc6]
  rcases Adg e.kind with ⟨h0,hk⟩|⟨h0,hk⟩|⟨h0,hk⟩|h0
  ·rw [if_pos hk]
  ·rw [if_neg (by omega)]
   rw [h0] at hp
   match hl:e.l,hp with
   |[x],_=>rw [okxs,if_pos hk,ih x (by rw [hl];simp)];rfl
  ·rw [if_neg (by omega)]
   rw [h0] at hp
   match hl:e.l,hp with
   |[x,y],_ =>
    rw [okxs,ih x (by rw [hl];simp),okx1,ih y (by rw [hl];simp)]
    split<;>rfl
  ·rw [h0] at hp
   omega
theorem Agq{e:Xpr}{m:Int}(h:Bp e m=true):okx e=true:=Arc _ e m (Zn1 _) h
def Am3(l:List Str):Bool:=decide (l.length≤1000000)&&decide ((Lib.join l [44,32]).length≤1000000000)
def nmT(l:List Str):Str:=[40]++(Lib.join l [44,32]++[41])
def Tn:Sig:=⟨2,[(1,.sl .str false)],[(0,.ptr 0 0)],[(0,.bld 82)],1,1,0,[],[]⟩
def Tz:Sig:=⟨0,[],[],[(0,.bld 82)],1,1,0,[],[]⟩
abbrev Am4:=List Str×List UInt8
abbrev Zb:=List UInt8
def Ua(R:Type):Px R:=⟨Bd ttL,glT,Au [(105,As [.sl .str false,.str] [.str] Auh),(49,Aq Cn Co A2)],Am [],Aw [],tbl []⟩
def R4(x:Am4):Option (Zb):=match x with
 |(l,out) =>
 (A56 l [44,32]).bind fun x =>
  (A2 ([[40],x,[41]],out)).bind fun x1 =>
  some x1
theorem A7x:∀(x:Am4),Du (Ua _) Tryz.f50 Tn Tz x some=R4 x
 |(l,out)=>by kernel_rfl
theorem A28:FnLn Tryz.prog elT glT 50 Tn Tz (R4):=by
 refine Bu Tryz.func50 rfl (by kernel_rfl) follows (by kernel_rfl) (n:=0) (by kernel_rfl) (px:=Ua _) (fun cx hP hel hgl =>?_) (A7x)
 have hp0:PxOk cx (Ua (Zb)):=⟨fun t=>by rw [hP,hel];exact Av An t,by rw [hgl];rfl⟩
 have hc0:Al cx (Ua (Zb)):=Af rfl (Aa (A7 (by rw [hP,hel,hgl];exact Bde) (by kernel_rfl)) (Aa (A9 (by rw [hP,hel,hgl];exact Dj) (by kernel_rfl)) Aj))
 have hq0:CallQOk cx (Ua (Zb)):=Ab rfl rfl Ah Ae
 exact⟨hp0,hc0,hq0,Ay⟩
def Bod(l:List Str) (out:Str):Option Str:=cond (Am3 l) (app out (nmT l)) none
def Tb:Am4→Option Zb:=fun x=>Bod x.1 x.2
theorem Bhh(l:List Str) (out:Str) (h:Am3 l=true):R4 (l,out)=app out (nmT l):=by
 simp only [Am3,Zb1,Zg1] at h
 have hj:A56 l [44,32]=some (Lib.join l [44,32]):=if_pos h
 simp only [R4,hj,ww,Zc1,Kf,fl3]
 rfl
theorem Ao7:FnLn Tryz.prog elT glT 50 Tn Tz Tb :=.fin0 A28 fun(l,out) r hb hx=>by
 have hx:cond (Am3 l) (app out (nmT l)) none=some r:=hx
 cases ho:Am3 l with
 |false=>rw [ho] at hx;cases hx
 |true =>
  rw [ho] at hx
  exact(Bhh l out ho).trans hx
theorem wn{l:List Str}(h:Am3 l=true) (out:Str):Tb (l,out)=app out (nmT l):=by
 show cond (Am3 l) _ _=_
 rw [h]
 rfl
def Zx(c:Col):Str:=c.name++([32]++at' .str kindsL c.kind)++cond c.notNull [32,78,79,84,32,78,85,76,76] []++cond c.unique [32,85,78,73,81,85,69] []++cond (decide (c.ref=[])) [] ([32,82,69,70,69,82,69,78,67,69,83,32]++c.ref)
def Akf:Sig:=⟨2,[(1,.sv .col)],[(0,.ptr 0 0)],[(0,.bld 82)],1,1,0,[],[]⟩
def Aj5:Sig:=⟨0,[],[],[(0,.bld 82)],1,1,0,[],[]⟩
abbrev Azx:=Col×List UInt8
abbrev Anu:=List UInt8
def Aeq(R:Type):Px R:=⟨Bd ttL,glT,Au [(49,Aq Cn Co A2)],Am [],Aw [],tbl []⟩
def Abg(x:Azx):Option (Anu):=match x with
 |(c,out) =>
 chk (inb c.kind 6) (
  (A2 ([c.name,[32],(at' .str kindsL c.kind)],out)).bind fun x =>
  let j1:=fun(q:List UInt8) =>
   let j:=fun(q1:List UInt8) =>
   cond (!decide (c.ref=[])) (
    (A2 ([[32,82,69,70,69,82,69,78,67,69,83,32],c.ref],q1)).bind fun x3 =>
    some x3) (
    some q1)
   cond (c.unique) (
   (A2 ([[32,85,78,73,81,85,69]],q)).bind fun x2 =>
    j x2) (
   j q)
  cond (c.notNull) (
   (A2 ([[32,78,79,84,32,78,85,76,76]],x)).bind fun x1 =>
   j1 x1) (
   j1 x))
theorem Bi5:∀(x:Azx),Du (Aeq _) Tryz.f103 Akf Aj5 x some=Abg x
 |(c,out)=>by kernel_rfl
theorem Bfi:FnLn Tryz.prog elT glT 103 Akf Aj5 (Abg):=by
 refine Bu Tryz.func103 rfl (by kernel_rfl) follows (by kernel_rfl) (n:=0) (by kernel_rfl) (px:=Aeq _) (fun cx hP hel hgl =>?_) (Bi5)
 have hp0:PxOk cx (Aeq (Anu)):=⟨fun t=>by rw [hP,hel];exact Av An t,by rw [hgl];rfl⟩
 have hc0:Al cx (Aeq (Anu)):=Af rfl (Aa (A9 (by rw [hP,hel,hgl];exact Dj) (by kernel_rfl)) Aj)
 have hq0:CallQOk cx (Aeq (Anu)):=Ab rfl rfl Ah Ae
 exact⟨hp0,hc0,hq0,Ay⟩
def Bqr(c:Col) (out:Str):Option Str:=cond (inb c.kind 6) (app out (Zx c)) none
def Asr:Azx→Option Anu:=fun x=>Bqr x.1 x.2
theorem Bm0(c:Col) (out:Str) (h:inb c.kind 6=true):Abg (c,out)=app out (Zx c):=by
 simp only [Abg,h,chk,Ai,ww,fl1,fl2,fl3,Zx]
 cases c.notNull<;>cases c.unique<;>cases decide (c.ref=[])<;>simp only [Ai,Ak,Zt1,Zs1,Kf,Kc,List.append_nil,Zj1]
theorem Bk4:FnLn Tryz.prog elT glT 103 Akf Aj5 Asr :=.fin0 Bfi fun(c,out) r hb hx=>by
 have hx:cond (inb c.kind 6) (app out (Zx c)) none=some r:=hx
 cases ho:inb c.kind 6 with
 |false=>rw [ho] at hx;cases hx
 |true =>
  rw [ho] at hx
  exact(Bm0 c out ho).trans hx
theorem wc{c:Col}(h:inb c.kind 6=true) (out:Str):Asr (c,out)=app out (Zx c):=by
 show cond (inb c.kind 6) _ _=_
 rw [h]
 rfl
def whT(s:Stm):Str:=cond s.has ([32,87,72,69,82,69,32]++etx s.whr) []
def okW(s:Stm):Bool := !s.has||okx s.whr
def Uk:Sig:=⟨2,[(1,.sv .stmt)],[(0,.ptr 0 0)],[(0,.bld 82)],1,1,0,[],[]⟩
def Uv:Sig:=⟨0,[],[],[(0,.bld 82)],1,1,0,[],[]⟩
abbrev An9:=Stm×List UInt8
abbrev Zf:=List UInt8
def U4(R:Type):Px R:=⟨Bd ttL,glT,Au [(49,Aq Cn Co A2),(40,Aq Gf Gi F7)],Am [],Aw [],tbl []⟩
def Ru(x:An9):Option (Zf):=match x with
 |(s,out) =>
 cond (s.has) (
  (A2 ([[32,87,72,69,82,69,32]],out)).bind fun x =>
  (F7 ((Ng s.whr),x)).bind fun x1 =>
   some x1) (
  some out)
theorem Baa:∀(x:An9),Du (U4 _) Tryz.f55 Uk Uv x some=Ru x
 |(s,out)=>by kernel_rfl
theorem A1g:FnLn Tryz.prog elT glT 55 Uk Uv (Ru):=by
 refine Bu Tryz.func55 rfl (by kernel_rfl) follows (by kernel_rfl) (n:=0) (by kernel_rfl) (px:=U4 _) (fun cx hP hel hgl =>?_) (Baa)
 have hp0:PxOk cx (U4 (Zf)):=⟨fun t=>by rw [hP,hel];exact Av An t,by rw [hgl];rfl⟩
 have hc0:Al cx (U4 (Zf)):=Af rfl (Aa (A9 (by rw [hP,hel,hgl];exact Dj) (by kernel_rfl)) (Aa (A9 (by rw [hP,hel,hgl];exact Uo) (by kernel_rfl)) Aj))
 have hq0:CallQOk cx (U4 (Zf)):=Ab rfl rfl Ah Ae
 exact⟨hp0,hc0,hq0,Ay⟩
def Bmz(s:Stm) (out:Str):Option Str:=cond (okW s) (app out (whT s)) none
def Ks:An9→Option Zf:=fun x=>Bmz x.1 x.2
theorem Bb3(s:Stm) (out r:Str) (h:okW s=true) (hr:app out (whT s)=some r):Ru (s,out)=some r:=by
 simp only [okW] at h
 simp only [whT] at hr
 simp only [Ru,H7,ww,fl1]
 cases hs:s.has with
 |false =>
  rw [hs] at hr
  exact Boy hr
 |true =>
  rw [hs] at h hr
  simp only [we (show okx s.whr=true from h),Ai,Kf,Kc]
  exact hr
theorem Ao4:FnLn Tryz.prog elT glT 55 Uk Uv Ks :=.fin0 A1g fun(s,out) r hb hx=>by
 have hx:cond (okW s) (app out (whT s)) none=some r:=hx
 cases ho:okW s with
 |false=>rw [ho] at hx;cases hx
 |true =>
  rw [ho] at hx
  exact Bb3 s out r ho hx
theorem wh{s:Stm}(h:okW s=true) (out:Str):Ks (s,out)=app out (whT s):=by
 show cond (okW s) _ _=_
 rw [h]
 rfl
def Ak5(e:Xpr):Str:=[44,32,67,72,69,67,75,32]++cond (decide (Jf e.kind=0)) ([40]++(etx e++[41])) (etx e)
def Sn(s:Stm):Str:=[67,82,69,65,84,69,32,84,65,66,76,69,32]++(s.name++[32,40])++Cc Zx s.cols++[44,32,80,82,73,77,65,82,89,32,75,69,89,32]++nmT s.names++(s.l.map Ak5).flatten++[41]
def okT(s:Stm):Bool:=s.cols.all (fun c=>inb c.kind 6)&&Am3 s.names&&s.l.all okx
def Rh(s:Stm):Nat:=s.cols.length+s.l.length+s.order.length+s.rows.length+s.sets.length+(s.rows.map List.length).sum+1
def Ab4:Sig:=⟨2,[(1,.sv .stmt)],[(0,.ptr 0 0)],[(0,.bld 82)],1,1,0,[],[]⟩
def Aca:Sig:=⟨0,[],[],[(0,.bld 82)],1,1,0,[],[]⟩
abbrev Amk:=Stm×List UInt8
abbrev F0:=List UInt8
def Zy:Sig:=⟨54,[(25,.sl .expr false),(26,.int .i64),(27,.int .i64)],[(2,.ptr 1 0)],[(0,.bld 82),(1,.fx [.ptr 0 0])],2,1,0,[],[]⟩
abbrev L3:=List Xpr×Int×Int×List UInt8
def U5{R:Type}(rec:L3→Option R) (kx:Ex→L3→Option R) (v:L3):Option R:=match v with
 |(v6,v7,v8,w2) =>
 cond (decide (v8<v7)) (
  chk (inb v8 v6.length) (
  (A2 ([[44,32,67,72,69,67,75,32]],w2)).bind fun x5 =>
   cond (decide ((Jf ((at' .expr v6 v8).kind))=0)) (
   (A2 ([[40]],x5)).bind fun x6 =>
    (F7 ((at' .expr v6 v8),x6)).bind fun x7 =>
    (A2 ([[41]],x7)).bind fun x8 =>
     rec (v6,v7,(wr .i64 (v8+1)),x8)) (
   (F7 ((at' .expr v6 v8),x5)).bind fun x9 =>
    rec (v6,v7,(wr .i64 (v8+1)),x9)))) (
  kx (.exit 0) (v6,v7,v8,w2))
def X7:Sig:=⟨20,[(7,.int .i64),(8,.int .i64)],[(0,.ptr 0 0),(2,.fn 102 [.ptr 1 0,.ptr 2 0])],[(0,.bld 82),(1,.fx [.ptr 0 0]),(2,.one (.sv .stmt))],80,80,400,[],[]⟩
abbrev Ky:=Int×Int×List UInt8×Stm
def U7{R:Type}(rec:Ky→Option R) (kx:Ex→Ky→Option R) (v:Ky):Option R:=match v with
 |(v,v1,w,w1) =>
 cond (decide (v1<v)) (
  let j:=fun(q:List UInt8) =>
  chk (inb v1 w1.cols.length) (
   (Asr ((at' .col w1.cols v1),q)).bind fun x2 =>
   rec (v,(wr .i64 (v1+1)),x2,w1))
  cond (decide (0<v1)) (
  (A2 ([[44,32]],w)).bind fun x1 =>
   j x1) (
  j w)) (
  kx (.exit 0) (v,v1,w,w1))
def M6(R:Type) (_k:Nat):Px R:=⟨Bd ttL,glT,Au [(103,Aq Akf Aj5 Asr)],Am [],Aw [],tbl []⟩
noncomputable def Jw (R:Type) (k:Nat):Px R:=⟨Bd ttL,glT,Au [(49,Aq Cn Co A2),(102,Bg 120 600 (M6 R k) Tryz.f102)],Am [],Aw [(1,Be k X7 (U7))],tbl []⟩
noncomputable def Mh (R:Type) (k:Nat):Px R:=⟨Bd ttL,glT,Au [(49,Aq Cn Co A2),(50,Aq Tn Tz Tb),(94,As [.int .i64] [.int .i64] Atc),(40,Aq Gf Gi F7),(51,Bg 80 400 (Jw R k) Tryz.f51)],Am [],Aw [(6,Be k Zy (U5))],tbl []⟩
theorem Avk(R:Type) (k:Nat):∀(fr:List Fr) (rec:Ky→Option R) (kx:Ex→Ky→Option R) (v:Ky),Bn (Jw R k) X7 (lp Tryz.f51 0) fr rec kx v=U7 rec kx v
 |fr,rec,kx,(v,v1,w,w1)=>by kernel_rfl
theorem Axv(R:Type) (k:Nat):∀(fr:List Fr) (rec:L3→Option R) (kx:Ex→L3→Option R) (v:L3),Bn (Mh R k) Zy (lp Tryz.f48 0) fr rec kx v=U5 rec kx v
 |fr,rec,kx,(v6,v7,v8,w2)=>by kernel_rfl
def Ro(k:Nat) (x:Amk):Option (F0):=match x with
 |(s,out) =>
 (A2 ([[67,82,69,65,84,69,32,84,65,66,76,69,32],s.name,[32,40]],out)).bind fun x =>
  A0 (fun rec=>U7 rec (fun e vz=>match vz with|(_,_,v4,v5)=>match e with
  |.exit 0 =>
   (A2 ([[44,32,80,82,73,77,65,82,89,32,75,69,89,32]],v4)).bind fun x3 =>
   (Tb (v5.names,x3)).bind fun x4 =>
    A0 (fun rec=>U5 rec (fun e vz=>match vz with|(_,_,_,v12)=>match e with
    |.exit 0 =>
     (A2 ([[41]],v12)).bind fun x10 =>
     some x10
    |_=>none)) k (v5.l,(v5.l.length:Int),0,x4)
  |_=>none)) k ((s.cols.length:Int),0,x,s)
theorem A8e(k:Nat):∀(x:Amk),Du (Mh _ k) Tryz.f48 Ab4 Aca x some=Ro k x
 |(s,out)=>by kernel_rfl
theorem A2i(k:Nat):FnLn Tryz.prog elT glT 48 Ab4 Aca (Ro k):=by
 refine Bu Tryz.func48 rfl (by kernel_rfl) follows (by kernel_rfl) (n:=1) (by kernel_rfl) (px:=Mh _ k) (fun cx hP hel hgl =>?_) (A8e k)
 have hp2:PxOk cx (M6 (F0) k):=⟨fun t=>by rw [hP,hel];exact Av An t,by rw [hgl];rfl⟩
 have hc2:Al cx (M6 (F0) k):=Af rfl (Aa (A9 (by rw [hP,hel,hgl];exact Bk4) (by kernel_rfl)) Aj)
 have hq2:CallQOk cx (M6 (F0) k):=Ab rfl rfl Ah Ae
 have hp1:PxOk cx (Jw (F0) k):=⟨fun t=>by rw [hP,hel];exact Av An t,by rw [hgl];rfl⟩
 have hc1:Al cx (Jw (F0) k):=Af rfl (Aa (A9 (by rw [hP,hel,hgl];exact Dj) (by kernel_rfl)) (Aa (Bv hp2 hc2 hq2 (by rw [hP];exact follows) (by rw [hP];exact Tryz.func102) rfl (by kernel_rfl) (by kernel_rfl) (n:=0) (by kernel_rfl) (Ay)) Aj))
 have hq1:CallQOk cx (Jw (F0) k):=Ab rfl rfl Ah Ae
 have hlwtable_0:A8 cx (Jw (F0) k) (lp Tryz.f51 0):=Ba hp1 hc1 hq1 (by rw [hP];exact follows) (k:=k) (s:=X7) (step:=U7) (fun _ _=>by kernel_rfl) (by kernel_rfl) (Avk _ k) (Az (n:=0) (by kernel_rfl) Ay)
 have hp0:PxOk cx (Mh (F0) k):=⟨fun t=>by rw [hP,hel];exact Av An t,by rw [hgl];rfl⟩
 have hc0:Al cx (Mh (F0) k):=Af rfl (Aa (A9 (by rw [hP,hel,hgl];exact Dj) (by kernel_rfl)) (Aa (A9 (by rw [hP,hel,hgl];exact Ao7) (by kernel_rfl)) (Aa (A7 (by rw [hP,hel,hgl];exact Ax8) (by kernel_rfl)) (Aa (A9 (by rw [hP,hel,hgl];exact Uo) (by kernel_rfl)) (Aa (Bv hp1 hc1 hq1 (by rw [hP];exact follows) (by rw [hP];exact Tryz.func51) rfl (by kernel_rfl) (by kernel_rfl) (n:=1) (by kernel_rfl) ((Cj Ay hlwtable_0))) Aj)))))
 have hq0:CallQOk cx (Mh (F0) k):=Ab rfl rfl Ah Ae
 have hlwtable_1:A8 cx (Mh (F0) k) (lp Tryz.f48 0):=Ba hp0 hc0 hq0 (by rw [hP];exact follows) (k:=k) (s:=Zy) (step:=U5) (fun _ _=>by kernel_rfl) (by kernel_rfl) (Axv _ k) (Az (n:=0) (by kernel_rfl) Ay)
 exact⟨hp0,hc0,hq0,(Cj Ay hlwtable_1)⟩
def Bmi(s:Stm) (out:Str):Option Str:=cond (okT s) (app out (Sn s)) none
def Afu:Amk→Option F0:=fun x=>Bmi x.1 x.2
theorem Bgp(k:Nat) (s:Stm) (out:Str) (hb:BdStm s) (h:okT s=true) (hk:Rh s≤k):Ro k (s,out)=app out (Sn s):=by
 simp only [okT,Zb1] at h
 obtain⟨⟨h1,h2⟩,h3⟩:=h
 simp only [Rh] at hk
 have hc:=Zg2.1 h1
 have hl:=Zg2.1 h3
 simp only [Ro,ww,fl1,fl3]
 refine(Dx fun x hx=>(Oo s.cols Zx (fun i acc=>((s.cols.length:Int),(i:Int),acc,s)) (fun acc=>(app acc ([44,32,80,82,73,77,65,82,89,32,75,69,89,32]++nmT s.names)).bind fun x=>(app x (s.l.map Ak5).flatten).bind fun x=>app x [41]) (fun i hi acc rec =>?_) (fun acc rec =>?_) k (by omega) x hx)).trans ?_
 ·simp only [U7,Gm hi,Ai,Bl hi,chk,Bk (c :=.col) hi,wc (hc _ (List.getElem_mem hi)),Bf hi hb.cols.1,ww,fl1]
  exact U8 i acc (Zx s.cols[i]) _
 ·simp only [U7,Gh,Ak,ww,fl1,wn h2]
  rw [Dt]
  refine Dx fun x hx=>Bgt s.l Ak5 (fun i acc=>(s.l,(s.l.length:Int),(i:Int),acc)) (fun acc=>app acc [41]) (fun i hi acc rec =>?_) (fun acc rec =>?_) k (by omega) x hx
  ·simp only [U5,Gm hi,Ai,Bl hi,chk,Bk (c :=.expr) hi,we (hl _ (List.getElem_mem hi)),Bf hi hb.l.1,ww,fl1,Ak5]
   cases decide (Jf s.l[i].kind=0) with
   |true=>simp only [Ai,Dt]
   |false=>simp only [Ak,Dt]
  ·simp only [U5,Gh,Ak,ww,fl1,Kf]
 ·simp only [Kc,Sn,Zj1]
theorem A8s:FnLn Tryz.prog elT glT 48 Ab4 Aca Afu :=.fin 0 A2i fun(s,out) r hb hx=>⟨Rh s,by
 have hx:cond (okT s) (app out (Sn s)) none=some r:=hx
 cases ho:okT s with
 |false=>rw [ho] at hx;cases hx
 |true =>
  rw [ho] at hx
  exact(Bgp (Rh s) s out hb.1 ho (Zn1 _)).trans hx⟩
theorem wt{s:Stm}(h:okT s=true) (out:Str):Afu (s,out)=app out (Sn s):=by
 show cond (okT s) _ _=_
 rw [h]
 rfl
def Z4(p:Str×Bool):Str:=p.1++cond p.2 [32,68,69,83,67] []
def Agt(s:Stm):Str:=cond (decide (0≤s.most)) ([32,76,73,77,73,84,32]++B8 ⟨3,s.most,[]⟩) []
def obT(s:Stm):Str:=cond (decide (0<(s.order.length:Int))) [32,79,82,68,69,82,32,66,89,32] []
def Ar0(s:Stm):Str:=[83,69,76,69,67,84,32]++cond (decide ((s.l.length:Int)=0)) [42] []++Cc etx s.l++([32,70,82,79,77,32]++s.name)++whT s++obT s++Cc Z4 (s.order.zip s.desc)++Agt s
def okS(s:Stm):Bool:=s.l.all okx&&okW s&&decide (s.desc.length=s.order.length)
def Xi:Sig:=⟨2,[(1,.sv .stmt)],[(0,.ptr 0 0)],[(0,.bld 82)],1,1,0,[],[]⟩
def Wu:Sig:=⟨0,[],[],[(0,.bld 82)],1,1,0,[],[]⟩
abbrev Ain:=Stm×List UInt8
abbrev B6:=List UInt8
def Vs:Sig:=⟨20,[(7,.int .i64),(8,.int .i64)],[(0,.ptr 0 0),(2,.fn 107 [.ptr 1 0,.ptr 2 0])],[(0,.bld 82),(1,.fx [.ptr 0 0]),(2,.one (.sv .stmt))],80,80,600,[],[]⟩
abbrev G3:=Int×Int×List UInt8×Stm
def Hm{R:Type}(rec:G3→Option R) (kx:Ex→G3→Option R) (v:G3):Option R:=match v with
 |(v6,v7,w2,w3) =>
 cond (decide (v7<v6)) (
  let j1:=fun(q3:List UInt8) =>
  chk (inb v7 w3.order.length) (
   (A2 ([(at' .str w3.order v7)],q3)).bind fun x8 =>
   chk (inb v7 w3.desc.length) (
    cond ((at' .bool w3.desc v7)) (
    (A2 ([[32,68,69,83,67]],x8)).bind fun x9 =>
     rec (v6,(wr .i64 (v7+1)),x9,w3)) (
    rec (v6,(wr .i64 (v7+1)),x8,w3))))
  cond (decide (0<v7)) (
  (A2 ([[44,32]],w2)).bind fun x7 =>
   j1 x7) (
  j1 w2)) (
  kx (.exit 0) (v6,v7,w2,w3))
def Vh:Sig:=⟨20,[(7,.int .i64),(8,.int .i64)],[(0,.ptr 0 0),(2,.fn 106 [.ptr 1 0,.ptr 2 0])],[(0,.bld 82),(1,.fx [.ptr 0 0]),(2,.one (.sv .stmt))],80,80,400,[],[]⟩
abbrev G6:=Int×Int×List UInt8×Stm
def L9{R:Type}(rec:G6→Option R) (kx:Ex→G6→Option R) (v:G6):Option R:=match v with
 |(v,v1,w,w1) =>
 cond (decide (v1<v)) (
  let j:=fun(q1:List UInt8) =>
  chk (inb v1 w1.l.length) (
   (F7 ((at' .expr w1.l v1),q1)).bind fun x3 =>
   rec (v,(wr .i64 (v1+1)),x3,w1))
  cond (decide (0<v1)) (
  (A2 ([[44,32]],w)).bind fun x2 =>
   j x2) (
  j w)) (
  kx (.exit 0) (v,v1,w,w1))
def J6(R:Type) (_k:Nat):Px R:=⟨Bd ttL,glT,Au [(40,Aq Gf Gi F7)],Am [],Aw [],tbl []⟩
noncomputable def Hs (R:Type) (k:Nat):Px R:=⟨Bd ttL,glT,Au [(49,Aq Cn Co A2),(106,Bg 120 600 (J6 R k) Tryz.f106)],Am [],Aw [(1,Be k Vh (L9))],tbl []⟩
def Kt(R:Type) (_k:Nat):Px R:=⟨Bd ttL,glT,Au [(49,Aq Cn Co A2)],Am [],Aw [],tbl []⟩
noncomputable def Ht (R:Type) (k:Nat):Px R:=⟨Bd ttL,glT,Au [(49,Aq Cn Co A2),(107,Bg 120 800 (Kt R k) Tryz.f107)],Am [],Aw [(1,Be k Vs (Hm))],tbl []⟩
noncomputable def P6 (R:Type) (k:Nat):Px R:=⟨Bd ttL,glT,Au [(49,Aq Cn Co A2),(55,Aq Uk Uv Ks),(51,Ag2 80 400 (Hs R k) Tryz.f51 (Bg 80 600 (Ht R k) Tryz.f51))],Am [(98,Abu [.sv .val] [.str] Afd)],Aw [],tbl []⟩
theorem At7(R:Type) (k:Nat):∀(fr:List Fr) (rec:G6→Option R) (kx:Ex→G6→Option R) (v:G6),Bn (Hs R k) Vh (lp Tryz.f51 0) fr rec kx v=L9 rec kx v
 |fr,rec,kx,(v,v1,w,w1)=>by kernel_rfl
theorem Ask(R:Type) (k:Nat):∀(fr:List Fr) (rec:G3→Option R) (kx:Ex→G3→Option R) (v:G3),Bn (Ht R k) Vs (lp Tryz.f51 0) fr rec kx v=Hm rec kx v
 |fr,rec,kx,(v6,v7,w2,w3)=>by kernel_rfl
def Of(k:Nat) (x:Ain):Option (B6):=match x with
 |(s,out) =>
 (A2 ([[83,69,76,69,67,84,32]],out)).bind fun x =>
  let j3:=fun(q:List UInt8) =>
  A0 (fun rec=>L9 rec (fun e vz=>match vz with|(_,_,v4,v5)=>match e with
   |.exit 0 =>
   (A2 ([[32,70,82,79,77,32],v5.name],v4)).bind fun x4 =>
    (Ks (v5,x4)).bind fun x5 =>
    let j2:=fun(q2:List UInt8) =>
     A0 (fun rec=>Hm rec (fun e vz=>match vz with|(_,_,v10,v11)=>match e with
     |.exit 0 =>
      cond (decide (0≤v11.most)) (
      (A2 ([[32,76,73,77,73,84,32],(B8 (Val.mk 3 v11.most []))],v10)).bind fun x10 =>
       some x10) (
      some v10)
     |_=>none)) k ((v5.order.length:Int),0,q2,v5)
    cond (decide (0<(v5.order.length:Int))) (
     (A2 ([[32,79,82,68,69,82,32,66,89,32]],x5)).bind fun x6 =>
     j2 x6) (
     j2 x5)
   |_=>none)) k ((s.l.length:Int),0,q,s)
  cond (decide ((s.l.length:Int)=0)) (
  (A2 ([[42]],x)).bind fun x1 =>
   j3 x1) (
  j3 x)
theorem Ayr(k:Nat):∀(x:Ain),Du (P6 _ k) Tryz.f56 Xi Wu x some=Of k x
 |(s,out)=>by kernel_rfl
theorem Au8(k:Nat):FnLn Tryz.prog elT glT 56 Xi Wu (Of k):=by
 refine Bu Tryz.func56 rfl (by kernel_rfl) follows (by kernel_rfl) (n:=0) (by kernel_rfl) (px:=P6 _ k) (fun cx hP hel hgl =>?_) (Ayr k)
 have hp2:PxOk cx (J6 (B6) k):=⟨fun t=>by rw [hP,hel];exact Av An t,by rw [hgl];rfl⟩
 have hc2:Al cx (J6 (B6) k):=Af rfl (Aa (A9 (by rw [hP,hel,hgl];exact Uo) (by kernel_rfl)) Aj)
 have hq2:CallQOk cx (J6 (B6) k):=Ab rfl rfl Ah Ae
 have hp1:PxOk cx (Hs (B6) k):=⟨fun t=>by rw [hP,hel];exact Av An t,by rw [hgl];rfl⟩
 have hc1:Al cx (Hs (B6) k):=Af rfl (Aa (A9 (by rw [hP,hel,hgl];exact Dj) (by kernel_rfl)) (Aa (Bv hp2 hc2 hq2 (by rw [hP];exact follows) (by rw [hP];exact Tryz.func106) rfl (by kernel_rfl) (by kernel_rfl) (n:=0) (by kernel_rfl) (Ay)) Aj))
 have hq1:CallQOk cx (Hs (B6) k):=Ab rfl rfl Ah Ae
 have hlwchosen_0:A8 cx (Hs (B6) k) (lp Tryz.f51 0):=Ba hp1 hc1 hq1 (by rw [hP];exact follows) (k:=k) (s:=Vh) (step:=L9) (fun _ _=>by kernel_rfl) (by kernel_rfl) (At7 _ k) (Az (n:=0) (by kernel_rfl) Ay)
 have hp4:PxOk cx (Kt (B6) k):=⟨fun t=>by rw [hP,hel];exact Av An t,by rw [hgl];rfl⟩
 have hc4:Al cx (Kt (B6) k):=Af rfl (Aa (A9 (by rw [hP,hel,hgl];exact Dj) (by kernel_rfl)) Aj)
 have hq4:CallQOk cx (Kt (B6) k):=Ab rfl rfl Ah Ae
 have hp3:PxOk cx (Ht (B6) k):=⟨fun t=>by rw [hP,hel];exact Av An t,by rw [hgl];rfl⟩
 have hc3:Al cx (Ht (B6) k):=Af rfl (Aa (A9 (by rw [hP,hel,hgl];exact Dj) (by kernel_rfl)) (Aa (Bv hp4 hc4 hq4 (by rw [hP];exact follows) (by rw [hP];exact Tryz.func107) rfl (by kernel_rfl) (by kernel_rfl) (n:=0) (by kernel_rfl) (Ay)) Aj))
 have hq3:CallQOk cx (Ht (B6) k):=Ab rfl rfl Ah Ae
 have hlwchosen_1:A8 cx (Ht (B6) k) (lp Tryz.f51 0):=Ba hp3 hc3 hq3 (by rw [hP];exact follows) (k:=k) (s:=Vs) (step:=Hm) (fun _ _=>by kernel_rfl) (by kernel_rfl) (Ask _ k) (Az (n:=0) (by kernel_rfl) Ay)
 have hp0:PxOk cx (P6 (B6) k):=⟨fun t=>by rw [hP,hel];exact Av An t,by rw [hgl];rfl⟩
 have hc0:Al cx (P6 (B6) k):=Af rfl (Aa (A9 (by rw [hP,hel,hgl];exact Dj) (by kernel_rfl)) (Aa (A9 (by rw [hP,hel,hgl];exact Ao4) (by kernel_rfl)) (Aa (Bga (Bv hp1 hc1 hq1 (by rw [hP];exact follows) (by rw [hP];exact Tryz.func51) rfl (by kernel_rfl) (by kernel_rfl) (n:=1) (by kernel_rfl) ((Cj Ay hlwchosen_0))) (Bv hp3 hc3 hq3 (by rw [hP];exact follows) (by rw [hP];exact Tryz.func51) rfl (by kernel_rfl) (by kernel_rfl) (n:=1) (by kernel_rfl) ((Cj Ay hlwchosen_1)))) Aj)))
 have hq0:CallQOk cx (P6 (B6) k):=Ab rfl rfl (Ahf (A2x (by rw [hP,hel,hgl];exact Apc) (by kernel_rfl)) Ah) Ae
 exact⟨hp0,hc0,hq0,Ay⟩
def Bj6(s:Stm) (out:Str):Option Str:=cond (okS s) (app out (Ar0 s)) none
def Aa8:Ain→Option B6:=fun x=>Bj6 x.1 x.2
theorem Amz{R:Type}{b:Bool}{out t:Str}{c:Str→Option R}(ho:out.length≤100000000000):cond b ((app out t).bind c) (c out)=(app out (cond b t [])).bind c:=by
 cases b with
 |true=>rfl
 |false=>rw [Ak,Ak,Akc ho];rfl
theorem A9t(k:Nat) (s:Stm) (out:Str) (hb:BdStm s) (h:okS s=true) (hk:Rh s≤k):Of k (s,out)=app out (Ar0 s):=by
 simp only [okS,Zb1,Zg1] at h
 obtain⟨⟨h1,h2⟩,h3⟩:=h
 simp only [Rh] at hk
 have hl:=Zg2.1 h1
 have hz:(s.order.zip s.desc).length=s.order.length:=by rw [List.length_zip];omega
 have hend:∀x:Str,x.length≤100000000000→cond (decide (0≤s.most)) (app x ([32,76,73,77,73,84,32]++B8 ⟨3,s.most,[]⟩)) (some x)=app x (Agt s):=fun x hx=>by
  simp only [Agt]
  cases decide (0≤s.most) with
  |true=>rfl
  |false=>rw [Ak,Ak,Akc hx]
 have hord:∀(kx:Ex→G3→Option B6),(∀acc,kx (.exit 0) ((s.order.length:Int),(s.order.length:Int),acc,s)=cond (decide (0≤s.most)) (app acc ([32,76,73,77,73,84,32]++B8 ⟨3,s.most,[]⟩)) (some acc))→∀x:Str,x.length≤100000000000 →
   A0 (fun rec=>Hm rec kx) k ((s.order.length:Int),0,x,s)=(app x (Cc Z4 (s.order.zip s.desc))).bind fun x=>app x (Agt s):=fun kx hkx x hx=>by
  refine(Oo (s.order.zip s.desc) Z4 (fun i acc=>((s.order.length:Int),(i:Int),acc,s)) (fun acc=>cond (decide (0≤s.most)) (app acc ([32,76,73,77,73,84,32]++B8 ⟨3,s.most,[]⟩)) (some acc)) (fun i hi acc rec =>?_) (fun acc rec =>?_) k (by omega) x hx).trans (Dx hend)
  ·have hi1:i<s.order.length:=by omega
   have hi2:i<s.desc.length:=by omega
   have hg:(s.order.zip s.desc)[i]=(s.order[i],s.desc[i]):=by simp
   simp only [Hm,Gm hi1,Ai,Bl hi1,Bl hi2,chk,Bk (c :=.str) hi1,Bk (c :=.bool) hi2,Bf hi1 hb.order.1,ww,fl1,hg]
   have hitem:∀q:Str,((app q s.order[i]).bind fun x8=>cond s.desc[i] ((app x8 [32,68,69,83,67]).bind fun x9=>rec ((s.order.length:Int),((i+1:Nat):Int),x9,s)) (rec ((s.order.length:Int),((i+1:Nat):Int),x8,s)))=(app q (Z4 (s.order[i],s.desc[i]))).bind fun x=>rec ((s.order.length:Int),((i+1:Nat):Int),x,s):=fun q=>by
    simp only [Z4]
    rw [←Dt]
    exact Dx fun x hx=>Amz hx
   simp only [hitem]
   exact U8 i acc _ _
  ·rw [hz]
   simp only [Hm,Gh,Ak,hkx]
 simp only [Of,ww,fl1,fl2]
 have hsel:∀(kx:Ex→G6→Option B6),(∀acc:Str,acc.length≤100000000000→kx (.exit 0) ((s.l.length:Int),(s.l.length:Int),acc,s)=app acc (([32,70,82,79,77,32]++s.name)++whT s++obT s++Cc Z4 (s.order.zip s.desc)++Agt s))→∀x:Str,x.length≤100000000000 →
   A0 (fun rec=>L9 rec kx) k ((s.l.length:Int),0,x,s)=app x (Cc etx s.l++(([32,70,82,79,77,32]++s.name)++whT s++obT s++Cc Z4 (s.order.zip s.desc)++Agt s)):=fun kx hkx x hx=>by
  refine(Oo s.l etx (fun i acc=>((s.l.length:Int),(i:Int),acc,s)) (fun acc=>kx (.exit 0) ((s.l.length:Int),(s.l.length:Int),acc,s)) (fun i hi acc rec =>?_) (fun acc rec =>?_) k (by omega) x hx).trans ((Dx hkx).trans (Kc _ _ _))
  ·simp only [L9,Gm hi,Ai,Bl hi,chk,Bk (c :=.expr) hi,we (hl _ (List.getElem_mem hi)),Bf hi hb.l.1,ww,fl1]
   exact U8 i acc _ _
  ·simp only [L9,Gh,Ak]
 refine(Dx fun x hx=>(Amz hx).trans (Dx fun q hq=>hsel _ (fun acc ha =>?_) q hq)).trans ?_
 ·show((app acc ([32,70,82,79,77,32]++s.name)).bind fun x4=>(Ks (s,x4)).bind fun x5=>cond (decide (0<(s.order.length:Int))) ((app x5 [32,79,82,68,69,82,32,66,89,32]).bind fun x6=>A0 (fun rec=>Hm rec _) k ((s.order.length:Int),0,x6,s)) (A0 (fun rec=>Hm rec _) k ((s.order.length:Int),0,x5,s)))=_
  simp only [wh h2]
  rw [Dt]
  refine(Dx fun x5 hx5=>(Amz hx5).trans (Dx fun y hy=>hord _ (fun _ =>?_) y hy)).trans ?_
  ·simp only [Kf,B8]
  ·simp only [Kc,obT,Zj1]
 ·simp only [Kc,Ar0,Zj1]
theorem A0q:FnLn Tryz.prog elT glT 56 Xi Wu Aa8 :=.fin 0 Au8 fun(s,out) r hb hx=>⟨Rh s,by
 have hx:cond (okS s) (app out (Ar0 s)) none=some r:=hx
 cases ho:okS s with
 |false=>rw [ho] at hx;cases hx
 |true =>
  rw [ho] at hx
  exact(A9t (Rh s) s out hb.1 ho (Zn1 _)).trans hx⟩
theorem ws{s:Stm}(h:okS s=true) (out:Str):Aa8 (s,out)=app out (Ar0 s):=by
 show cond (okS s) _ _=_
 rw [h]
 rfl
def Aju(r:List Xpr):Str:=[40]++(Cc etx r++[41])
def Al0(x:SetE):Str:=x.name++[32,61,32]++etx x.e
def B2(s:Stm):Str :=
 if s.kind=1 then Sn s
 else if s.kind=2 then [68,82,79,80,32,84,65,66,76,69,32]++s.name
 else if s.kind=3 then [67,82,69,65,84,69,32,73,78,68,69,88,32]++(s.name++([32,79,78,32]++(s.on++[32])))++nmT s.names
 else if s.kind=4 then [68,82,79,80,32,73,78,68,69,88,32]++s.name
 else if s.kind=5 then [73,78,83,69,82,84,32,73,78,84,79,32]++(s.name++[32,86,65,76,85,69,83,32])++Cc Aju s.rows
 else if s.kind=6 then [85,80,68,65,84,69,32]++(s.name++[32,83,69,84,32])++Cc Al0 s.sets++whT s
 else if s.kind=7 then [68,69,76,69,84,69,32,70,82,79,77,32]++s.name++whT s
 else Ar0 s
def okP(s:Stm):Bool :=
 if s.kind=1 then okT s
 else if s.kind=2∨s.kind=4 then true
 else if s.kind=3 then Am3 s.names
 else if s.kind=5 then s.rows.all fun r=>r.all okx
 else if s.kind=6 then s.sets.all (fun x=>okx x.e)&&okW s
 else if s.kind=7 then okW s
 else decide (s.kind=8)&&okS s
def Zw:Sig:=⟨20,[(7,.int .i64),(8,.int .i64)],[(0,.ptr 1 0),(2,.fn 54 [.ptr 1 0,.ptr 0 0])],[(0,.one (.sv .stmt)),(1,.bld 82)],40,40,200,[],[]⟩
abbrev I7:=Int×Int×Stm×List UInt8
def Rb{R:Type}(rec:I7→Option R) (kx:Ex→I7→Option R) (v:I7):Option R:=match v with
 |(v13,v14,w5,w6) =>
 cond (decide (v14<v13)) (
  let j2:=fun(q2:List UInt8) =>
  chk (inb v14 w5.sets.length) (
   (A2 ([((at' .set w5.sets v14).name),[32,61,32]],q2)).bind fun x14 =>
   chk (inb v14 w5.sets.length) (
    (F7 ((Ng ((at' .set w5.sets v14).e)),x14)).bind fun x15 =>
    rec (v13,(wr .i64 (v14+1)),w5,x15)))
  cond (decide (0<v14)) (
  (A2 ([[44,32]],w6)).bind fun x13 =>
   j2 x13) (
  j2 w6)) (
  kx (.exit 0) (v13,v14,w5,w6))
def Y4:Sig:=⟨20,[(7,.int .i64),(8,.int .i64)],[(0,.ptr 1 0),(2,.fn 53 [.ptr 1 0,.ptr 0 0,.ptr 80 0])],[(0,.one (.sv .stmt)),(1,.bld 82),(80,.cells [.int .i64])],120,120,600,[],[]⟩
abbrev Iu:=Int×Int×Stm×List UInt8×Int
def M7{R:Type}(rec:Iu→Option R) (kx:Ex→Iu→Option R) (v:Iu):Option R:=match v with
 |(v2,v3,w2,w3,w4) =>
 cond (decide (v3<v2)) (
  let j:=fun(q1:List UInt8) =>
  chk (inb w4 w2.rows.length) (
   chk (inb v3 ((at' .exprs w2.rows w4).length)) (
   (F7 ((at' .expr (at' .exprs w2.rows w4) v3),q1)).bind fun x10 =>
    rec (v2,(wr .i64 (v3+1)),w2,x10,w4)))
  cond (decide (0<v3)) (
  (A2 ([[44,32]],w3)).bind fun x9 =>
   j x9) (
  j w3)) (
  kx (.exit 0) (v2,v3,w2,w3,w4))
def Zq:Sig:=⟨20,[(7,.int .i64),(8,.int .i64)],[(0,.ptr 1 0),(2,.fn 52 [.ptr 1 0,.ptr 0 0])],[(0,.one (.sv .stmt)),(1,.bld 82)],40,40,200,[],[]⟩
abbrev Ir:=Int×Int×Stm×List UInt8
def Rf{R:Type}(k:Nat) (rec:Ir→Option R) (kx:Ex→Ir→Option R) (v:Ir):Option R:=match v with
 |(v,v1,w,w1) =>
 cond (decide (v1<v)) (
  let j1:=fun(q:List UInt8) =>
  (A2 ([[40]],q)).bind fun x8 =>
   chk (inb v1 w.rows.length) (
   A0 (fun rc=>M7 rc (fun e vz=>match vz with|(_,_,v6,v7,_)=>match e with
    |.exit 0 =>
    (A2 ([[41]],v7)).bind fun x11 =>
     rec (v,(wr .i64 (v1+1)),v6,x11)
    |_=>none)) k (((at' .exprs w.rows v1).length:Int),0,w,x8,v1))
  cond (decide (0<v1)) (
  (A2 ([[44,32]],w1)).bind fun x7 =>
   j1 x7) (
  j1 w1)) (
  kx (.exit 0) (v,v1,w,w1))
def Gz(R:Type) (_k:Nat):Px R:=⟨Bd ttL,glT,Au [(40,Aq Gf Gi F7)],Am [],Aw [],tbl []⟩
noncomputable def E7 (R:Type) (k:Nat):Px R:=⟨Bd ttL,glT,Au [(49,Aq Cn Co A2),(53,Bg 160 800 (Gz R k) Tryz.f53)],Am [],Aw [(1,Be k Y4 (M7))],tbl []⟩
noncomputable def M2 (R:Type) (k:Nat):Px R:=⟨Bd ttL,glT,Au [(49,Aq Cn Co A2),(51,Bg 120 600 (E7 R k) Tryz.f51)],Am [],Aw [],tbl []⟩
def Mz(R:Type) (_k:Nat):Px R:=⟨Bd ttL,glT,Au [(49,Aq Cn Co A2),(40,Aq Gf Gi F7)],Am [],Aw [],tbl []⟩
noncomputable def G4 (R:Type) (k:Nat):Px R:=⟨Bd ttL,glT,Au [(49,Aq Cn Co A2),(52,Bg 80 400 (M2 R k) Tryz.f52),(54,Bg 80 400 (Mz R k) Tryz.f54)],Am [],Aw [(1,Afc k Zq (Rf k) (Be k Zw (Rb)))],tbl []⟩
noncomputable def Td (R:Type) (k:Nat):Px R:=⟨Bd ttL,glT,Au [(25,As [.sv .stmt] [.int .i64] Aff),(48,Aq Ab4 Aca Afu),(49,Aq Cn Co A2),(50,Aq Tn Tz Tb),(55,Aq Uk Uv Ks),(56,Aq Xi Wu Aa8),(41,Aq bstr_si Ajz Kl),(51,Bg 40 200 (G4 R k) Tryz.f51)],Am [],Aw [],tbl []⟩
theorem Ayd(R:Type) (k:Nat):∀(fr:List Fr) (rec:Iu→Option R) (kx:Ex→Iu→Option R) (v:Iu),Bn (E7 R k) Y4 (lp Tryz.f51 0) fr rec kx v=M7 rec kx v
 |fr,rec,kx,(v2,v3,w2,w3,w4)=>by kernel_rfl
theorem Avv(R:Type) (k:Nat):∀(fr:List Fr) (rec:Ir→Option R) (kx:Ex→Ir→Option R) (v:Ir),Bn (G4 R k) Zq (lp Tryz.f51 0) fr rec kx v=Rf k rec kx v
 |fr,rec,kx,(v,v1,w,w1)=>by kernel_rfl
theorem Ayg(R:Type) (k:Nat):∀(fr:List Fr) (rec:I7→Option R) (kx:Ex→I7→Option R) (v:I7),Bn (G4 R k) Zw (lp Tryz.f51 0) fr rec kx v=Rb rec kx v
 |fr,rec,kx,(v13,v14,w5,w6)=>by kernel_rfl
def Nb(k:Nat) (x:HV [.sv .stmt]):Option (HV [.str,.int .i64]):=match x with
 |s =>
 (Sz s).bind fun x =>
  cond (!decide (x=0)) (
  some ([],x)) (
  cond (decide (s.kind=1)) (
   (Afu (s,[])).bind fun x1 =>
   (Kl x1).bind fun x21 =>
    some (x21,0)) (
   cond (decide (s.kind=2)) (
   (A2 ([[68,82,79,80,32,84,65,66,76,69,32],s.name],[])).bind fun x2 =>
    (Kl x2).bind fun x22 =>
    some (x22,0)) (
   cond (decide (s.kind=3)) (
    (A2 ([[67,82,69,65,84,69,32,73,78,68,69,88,32],s.name,[32,79,78,32],s.on,[32]],[])).bind fun x3 =>
    (Tb (s.names,x3)).bind fun x4 =>
     (Kl x4).bind fun x23 =>
     some (x23,0)) (
    cond (decide (s.kind=4)) (
    (A2 ([[68,82,79,80,32,73,78,68,69,88,32],s.name],[])).bind fun x5 =>
     (Kl x5).bind fun x24 =>
     some (x24,0)) (
    cond (decide (s.kind=5)) (
     (A2 ([[73,78,83,69,82,84,32,73,78,84,79,32],s.name,[32,86,65,76,85,69,83,32]],[])).bind fun x6 =>
     A0 (fun rec=>Rf k rec (fun e vz=>match vz with|(_,_,_,v12)=>match e with
      |.exit 0 =>
      (Kl v12).bind fun x25 =>
       some (x25,0)
      |_=>none)) k ((s.rows.length:Int),0,s,x6)) (
     cond (decide (s.kind=6)) (
     (A2 ([[85,80,68,65,84,69,32],s.name,[32,83,69,84,32]],[])).bind fun x12 =>
      A0 (fun rec=>Rb rec (fun e vz=>match vz with|(_,_,v17,v18)=>match e with
      |.exit 0 =>
       (Ks (v17,v18)).bind fun x16 =>
       (Kl x16).bind fun x26 =>
        some (x26,0)
      |_=>none)) k ((s.sets.length:Int),0,s,x12)) (
     cond (decide (s.kind=7)) (
      (A2 ([[68,69,76,69,84,69,32,70,82,79,77,32],s.name],[])).bind fun x17 =>
      (Ks (s,x17)).bind fun x18 =>
       (Kl x18).bind fun x27 =>
       some (x27,0)) (
      cond (decide (s.kind=8)) (
      (Aa8 (s,[])).bind fun x19 =>
       (Kl x19).bind fun x28 =>
       some (x28,0)) (
      (Kl []).bind fun x29 =>
       some (x29,0))))))))))
theorem A78(k:Nat):∀(x:HV [.sv .stmt]),Cs (Td _ k) Tryz.f23 [.sv .stmt] [.str,.int .i64] x some=Nb k x
 |s=>by kernel_rfl
theorem A2o(k:Nat):FnOk Tryz.prog elT glT 23 [.sv .stmt] [.str,.int .i64] (Nb k):=by
 refine A3 Tryz.func23 rfl (by kernel_rfl) follows (by kernel_rfl) (n:=0) (by kernel_rfl) (px:=Td _ k) (fun cx hP hel hgl =>?_) (A78 k)
 have hp4:PxOk cx (Gz (HV [.str,.int .i64]) k):=⟨fun t=>by rw [hP,hel];exact Av An t,by rw [hgl];rfl⟩
 have hc4:Al cx (Gz (HV [.str,.int .i64]) k):=Af rfl (Aa (A9 (by rw [hP,hel,hgl];exact Uo) (by kernel_rfl)) Aj)
 have hq4:CallQOk cx (Gz (HV [.str,.int .i64]) k):=Ab rfl rfl Ah Ae
 have hp3:PxOk cx (E7 (HV [.str,.int .i64]) k):=⟨fun t=>by rw [hP,hel];exact Av An t,by rw [hgl];rfl⟩
 have hc3:Al cx (E7 (HV [.str,.int .i64]) k):=Af rfl (Aa (A9 (by rw [hP,hel,hgl];exact Dj) (by kernel_rfl)) (Aa (Bv hp4 hc4 hq4 (by rw [hP];exact follows) (by rw [hP];exact Tryz.func53) rfl (by kernel_rfl) (by kernel_rfl) (n:=0) (by kernel_rfl) (Ay)) Aj))
 have hq3:CallQOk cx (E7 (HV [.str,.int .i64]) k):=Ab rfl rfl Ah Ae
 have hlaprint_1:A8 cx (E7 (HV [.str,.int .i64]) k) (lp Tryz.f51 0):=Ba hp3 hc3 hq3 (by rw [hP];exact follows) (k:=k) (s:=Y4) (step:=M7) (fun _ _=>by kernel_rfl) (by kernel_rfl) (Ayd _ k) (Az (n:=0) (by kernel_rfl) Ay)
 have hp2:PxOk cx (M2 (HV [.str,.int .i64]) k):=⟨fun t=>by rw [hP,hel];exact Av An t,by rw [hgl];rfl⟩
 have hc2:Al cx (M2 (HV [.str,.int .i64]) k):=Af rfl (Aa (A9 (by rw [hP,hel,hgl];exact Dj) (by kernel_rfl)) (Aa (Bv hp3 hc3 hq3 (by rw [hP];exact follows) (by rw [hP];exact Tryz.func51) rfl (by kernel_rfl) (by kernel_rfl) (n:=1) (by kernel_rfl) ((Cj Ay hlaprint_1))) Aj))
 have hq2:CallQOk cx (M2 (HV [.str,.int .i64]) k):=Ab rfl rfl Ah Ae
 have hp5:PxOk cx (Mz (HV [.str,.int .i64]) k):=⟨fun t=>by rw [hP,hel];exact Av An t,by rw [hgl];rfl⟩
 have hc5:Al cx (Mz (HV [.str,.int .i64]) k):=Af rfl (Aa (A9 (by rw [hP,hel,hgl];exact Dj) (by kernel_rfl)) (Aa (A9 (by rw [hP,hel,hgl];exact Uo) (by kernel_rfl)) Aj))
 have hq5:CallQOk cx (Mz (HV [.str,.int .i64]) k):=Ab rfl rfl Ah Ae
 have hp1:PxOk cx (G4 (HV [.str,.int .i64]) k):=⟨fun t=>by rw [hP,hel];exact Av An t,by rw [hgl];rfl⟩
 have hc1:Al cx (G4 (HV [.str,.int .i64]) k):=Af rfl (Aa (A9 (by rw [hP,hel,hgl];exact Dj) (by kernel_rfl)) (Aa (Bv hp2 hc2 hq2 (by rw [hP];exact follows) (by rw [hP];exact Tryz.func52) rfl (by kernel_rfl) (by kernel_rfl) (n:=0) (by kernel_rfl) (Ay)) (Aa (Bv hp5 hc5 hq5 (by rw [hP];exact follows) (by rw [hP];exact Tryz.func54) rfl (by kernel_rfl) (by kernel_rfl) (n:=0) (by kernel_rfl) (Ay)) Aj)))
 have hq1:CallQOk cx (G4 (HV [.str,.int .i64]) k):=Ab rfl rfl Ah Ae
 have hlaprint_0:A8 cx (G4 (HV [.str,.int .i64]) k) (lp Tryz.f51 0):=A58 (fun _ _=>by kernel_rfl) (Aio (Zh hp1 hc1 hq1 (by rw [hP];exact follows) (k:=k) (s:=Zq) (step:=Rf k) (by kernel_rfl) (Avv _ k) (Az (n:=0) (by kernel_rfl) Ay)) (Zh hp1 hc1 hq1 (by rw [hP];exact follows) (k:=k) (s:=Zw) (step:=Rb) (by kernel_rfl) (Ayg _ k) (Az (n:=0) (by kernel_rfl) Ay)))
 have hp0:PxOk cx (Td (HV [.str,.int .i64]) k):=⟨fun t=>by rw [hP,hel];exact Av An t,by rw [hgl];rfl⟩
 have hc0:Al cx (Td (HV [.str,.int .i64]) k):=Af rfl (Aa (A7 (by rw [hP,hel,hgl];exact Ari) (by kernel_rfl)) (Aa (A9 (by rw [hP,hel,hgl];exact A8s) (by kernel_rfl)) (Aa (A9 (by rw [hP,hel,hgl];exact Dj) (by kernel_rfl)) (Aa (A9 (by rw [hP,hel,hgl];exact Ao7) (by kernel_rfl)) (Aa (A9 (by rw [hP,hel,hgl];exact Ao4) (by kernel_rfl)) (Aa (A9 (by rw [hP,hel,hgl];exact A0q) (by kernel_rfl)) (Aa (A9 (by rw [hP,hel,hgl];exact A3m) (by kernel_rfl)) (Aa (Bv hp1 hc1 hq1 (by rw [hP];exact follows) (by rw [hP];exact Tryz.func51) rfl (by kernel_rfl) (by kernel_rfl) (n:=1) (by kernel_rfl) ((Cj Ay hlaprint_0))) Aj))))))))
 have hq0:CallQOk cx (Td (HV [.str,.int .i64]) k):=Ab rfl rfl Ah Ae
 exact⟨hp0,hc0,hq0,Ay⟩
def V6(s:Stm):Option (Str×Int):=(Sz s).bind fun x=>cond (!decide (x=0)) (some ([],x)) (cond (okP s) ((app [] (B2 s)).bind fun t=>some (t,0)) none)
def Alf:FT [.sv .stmt] [.str,.int .i64]:=fun x=>V6 x
theorem Aol{R:Type}{kx:Ex→Iu→Option R}{s:Stm}{j:Nat}{c:Str→Option R}(hj:j<s.rows.length) (hn:ln s.rows[j].length) (hok:s.rows[j].all okx=true) (h2:∀acc,kx (.exit 0) ((s.rows[j].length:Int),(s.rows[j].length:Int),s,acc,(j:Int))=c acc) (k:Nat) (hk:s.rows[j].length<k) (out:Str) (ho:out.length≤100000000000) :
  A0 (fun rec=>M7 rec kx) k ((s.rows[j].length:Int),0,s,out,(j:Int))=(app out (Cc etx s.rows[j])).bind c:=by
 have hl:=Zg2.1 hok
 refine Oo s.rows[j] etx (fun i acc=>((s.rows[j].length:Int),(i:Int),s,acc,(j:Int))) c (fun i hi acc rec =>?_) (fun acc rec =>?_) k hk out ho
 ·simp only [M7,Gm hi,Ai,Bl hi,Bl hj,chk,Bk (c :=.exprs) hj,Bk (c :=.expr) hi,we (hl _ (List.getElem_mem hi)),Bf hi hn,ww,fl1]
  exact U8 i acc _ _
 ·simp only [M7,Gh,Ak,h2]
theorem Aom{R:Type}{kx:Ex→Ir→Option R}{s:Stm}{c:Str→Option R}(hb:BdStm s) (hok:(s.rows.all fun r=>r.all okx)=true) (h2:∀acc,kx (.exit 0) ((s.rows.length:Int),(s.rows.length:Int),s,acc)=c acc) (k:Nat) (hk:Rh s≤k) (out:Str) (ho:out.length≤100000000000) :
  A0 (fun rec=>Rf k rec kx) k ((s.rows.length:Int),0,s,out)=(app out (Cc Aju s.rows)).bind c:=by
 have hl:=Zg2.1 hok
 simp only [Rh] at hk
 refine Oo s.rows Aju (fun i acc=>((s.rows.length:Int),(i:Int),s,acc)) c (fun i hi acc rec =>?_) (fun acc rec =>?_) k (by omega) out ho
 ·have hm:=A3y (List.getElem_mem hi)
  have hrow:∀q:Str,((app q [40]).bind fun x8=>A0 (fun rc=>M7 rc (fun e v=>match v with
    |(_,_,v6,v7,_)=>match e with
     |.exit 0=>(app v7 [41]).bind fun x11=>rec ((s.rows.length:Int),((i+1:Nat):Int),v6,x11)
     |_=>none)) k ((s.rows[i].length:Int),0,s,x8,(i:Int)))=(app q (Aju s.rows[i])).bind fun x=>rec ((s.rows.length:Int),((i+1:Nat):Int),s,x):=fun q=>by
   refine(Dx fun x hx=>Aol (c:=fun acc=>(app acc [41]).bind fun x11=>rec ((s.rows.length:Int),((i+1:Nat):Int),s,x11)) hi (hb.rows.2 _ (List.getElem_mem hi)).1 (hl _ (List.getElem_mem hi)) (fun _=>rfl) k (by omega) x hx).trans ?_
   simp only [Dt,Aju]
  simp only [Rf,Gm hi,Ai,Bl hi,chk,Bk (c :=.exprs) hi,Bf hi hb.rows.1,ww,fl1]
  refine Eq.trans ?_ (U8 i acc _ _)
  have e:∀(b:Bool) (x y x' y':Option R),x=x'→y=y'→cond b x y=cond b x' y':=fun _ _ _ _ _ h1 h2=>by rw [h1,h2]
  exact e _ _ _ _ _ (Dx fun x _=>hrow x) (hrow acc)
 ·simp only [Rf,Gh,Ak,h2]
theorem Aoi{R:Type}{kx:Ex→I7→Option R}{s:Stm}{c:Str→Option R}(hb:BdStm s) (hok:(s.sets.all fun x=>okx x.e)=true) (h2:∀acc,kx (.exit 0) ((s.sets.length:Int),(s.sets.length:Int),s,acc)=c acc) (k:Nat) (hk:s.sets.length<k) (out:Str) (ho:out.length≤100000000000) :
  A0 (fun rec=>Rb rec kx) k ((s.sets.length:Int),0,s,out)=(app out (Cc Al0 s.sets)).bind c:=by
 have hl:=Zg2.1 hok
 refine Oo s.sets Al0 (fun i acc=>((s.sets.length:Int),(i:Int),s,acc)) c (fun i hi acc rec =>?_) (fun acc rec =>?_) k hk out ho
 ·simp only [Rb,Gm hi,Ai,Bl hi,chk,Bk (c :=.set) hi,H7,we (hl _ (List.getElem_mem hi)),Bf hi hb.sets.1,ww,fl1,fl2]
  have hitem:∀q:Str,((app q (s.sets[i].name++[32,61,32])).bind fun x14=>(app x14 (etx s.sets[i].e)).bind fun x15=>rec ((s.sets.length:Int),((i+1:Nat):Int),s,x15))=(app q (Al0 s.sets[i])).bind fun x=>rec ((s.sets.length:Int),((i+1:Nat):Int),s,x):=fun q=>by
   rw [Dt]
   rfl
  simp only [hitem]
  exact U8 i acc _ _
 ·simp only [Rb,Gh,Ak,h2]
theorem bs(x:Str):((Kl x).bind fun t=>some (t,(0:Int)))=some (x,0):=rfl
theorem Bej(k:Nat) (s:Stm) (hb:BdStm s) (hk:Rh s≤k) (h:okP s=true) (hc:Sz s=some 0):Nb k s=((app [] (B2 s)).bind fun t=>some (t,0)):=by
 have hk2:=hk
 simp only [Rh] at hk2
 simp only [Nb,hc,Zc1,bs,ww,fl2,fl3,fl5]
 simp only [okP] at h
 simp only [B2]
 rw [decide_true,Zt1,Ak]
 by_cases h1:s.kind=1
 ·rw [if_pos h1] at h
  rw [Ze1 h1,if_pos h1,Ai,wt h]
 rw [if_neg h1] at h
 rw [Zd1 h1,if_neg h1,Ak]
 by_cases h2:s.kind=2
 ·rw [Ze1 h2,if_pos h2,Ai]
 rw [Zd1 h2,if_neg h2,Ak]
 by_cases h3:s.kind=3
 ·rw [if_neg (by omega),if_pos h3] at h
  rw [Ze1 h3,if_pos h3,Ai]
  simp only [wn h,Dt]
 rw [Zd1 h3,if_neg h3,Ak]
 by_cases h4:s.kind=4
 ·rw [Ze1 h4,if_pos h4,Ai]
 rw [if_neg (by omega),if_neg h3] at h
 rw [Zd1 h4,if_neg h4,Ak]
 by_cases h5:s.kind=5
 ·rw [if_pos h5] at h
  rw [Ze1 h5,if_pos h5,Ai]
  refine(Dx fun x hx=>Aom (c:=fun t=>some (t,(0:Int))) hb h (fun _=>rfl) k hk x hx).trans ?_
  rw [Dt]
 rw [if_neg h5] at h
 rw [Zd1 h5,if_neg h5,Ak]
 by_cases h6:s.kind=6
 ·rw [if_pos h6,Zb1] at h
  rw [Ze1 h6,if_pos h6,Ai]
  refine(Dx fun x hx=>Aoi (c:=fun t=>(app t (whT s)).bind fun t=>some (t,(0:Int))) hb h.1 (fun acc =>?_) k (by omega) x hx).trans ?_
  ·show((Ks (s,acc)).bind fun x16=>some (x16,(0:Int)))=_
   rw [wh h.2]
  ·simp only [Dt,Zj1]
 rw [if_neg h6] at h
 rw [Zd1 h6,if_neg h6,Ak]
 by_cases h7:s.kind=7
 ·rw [if_pos h7] at h
  rw [Ze1 h7,if_pos h7,Ai]
  simp only [wh h,Dt]
 rw [if_neg h7,Zb1,Zg1] at h
 rw [Zd1 h7,if_neg h7,Ak,Ze1 h.1,Ai,ws h.2]
theorem Apg:FnOk Tryz.prog elT glT 23 [.sv .stmt] [.str,.int .i64] Alf :=.fin 0 A2o fun s r hb hx=>⟨Rh s,by
 have hx:V6 s=some r:=hx
 simp only [V6] at hx
 cases hc:Sz s with
 |none=>rw [hc] at hx;cases hx
 |some x =>
  rw [hc,Zc1] at hx
  by_cases h0:x=0
  ·subst h0
   cases ho:okP s with
   |false=>rw [ho] at hx;cases hx
   |true =>
    rw [ho] at hx
    exact(Bej (Rh s) s hb (Zn1 _) ho hc).trans hx
  ·rw [Zd1 h0] at hx
   rw [←hx]
   simp only [Nb,hc,Zc1]
   rw [Zd1 h0]
   rfl⟩
end Go.Proofs.YthndhaolemgbdaaGreatDoor
namespace Go.Proofs.YthndhaolemgbdaaGreatDoor
open Go.Ax
open Lp (E5 tw Ce isUp isLo isDi isIn pre Bi rnameF wordF nq qS unGo hexD Xs Lu Z3)
def dlm(r:Str):Prop:=∀c t,r=c::t→Ce (c.toNat:Int)=false∧c≠39
theorem A3l:dlm []:=fun _ _ h=>by cases h
theorem Ats{p q:UInt8→Bool}(h:∀b,p b=true→q b=true) {w:Str}(hw:w.all p=true):w.all q=true:=Zg2.2 fun b hb=>h b (Zg2.1 hw b hb)
theorem Aj3{p:Int→Bool}{w r:Str}(hw:w.all (fun b=>p b.toNat)=true) (hr:∀c t,r=c::t→p (c.toNat:Int)=false):tw p (w++r)=w:=by
 rw [Lp.tw_app r hr w]
 have h1:=(Lp.tw_full (p:=p) w).2 hw
 have h2:=Lp.tw_take p w
 rw [h1,List.take_length] at h2
 exact h2.symm
theorem Bob{m:Str}(h:∀a t,m=a::39::t→False):pre m [120,39]=false:=by
 match m,h with
 |[],_=>rfl
 |[a],_=>simp [pre]
 |a::b::t,h =>
  have hb:b≠39:=fun e=>h a t (by rw [e])
  simp [pre,hb]
theorem Bqs:Ce 39=false:=by decide +kernel
theorem Aoh{w r:Str}(hne:w≠[]) (hw:w.all (fun b=>Ce b.toNat)=true) (hr:dlm r):pre (w++r) [120,39]=false:=by
 refine Bob fun a t h =>?_
 match w,hne,hw,h with
 |[x],_,_,h =>
  simp only [Zb2,Zf2,Ze2] at h
  exact(hr 39 t h.2).2 rfl
 |x::y::w,_,hw,h =>
  simp only [Zb2,Ze2] at h
  obtain⟨_,rfl,_⟩:=h
  simp only [Zv1,Zb1] at hw
  have h2:=hw.2.1
  have e:((39:UInt8).toNat:Int)=39:=rfl
  rw [e,Bqs] at h2
  cases h2
theorem Bmk{c:Int}(h:isUp c=true):Bi c=1:=by simp [Bi,h]
theorem A0k:∀n:Fin 256,isLo (n.val:Int)=true→Bi (n.val:Int)=2:=by decide +kernel
theorem Bmw{b:UInt8}(h:isLo b.toNat=true):Bi b.toNat=2:=Lp.of256 (p:=fun c=>isLo c=true→Bi c=2) A0k b.toNat (Lp.u8_range b) h
theorem Agz{w r:Str}(h:wordF w=true) (hr:dlm r):E5 (w++r)=some (1,w,0,w.length):=by
 have hu:=Lp.word_up h
 have hne:w≠[]:=by rintro rfl;exact absurd h (by decide +kernel)
 have hw:w.all (fun b=>Ce b.toNat)=true:=Ats (fun b hb=>Lp.up_wd b hb) hu
 have hp:=Aoh hne hw hr
 have ht:=Aj3 hw (fun c t e=>(hr c t e).1)
 cases w with
 |nil=>exact absurd rfl hne
 |cons c t =>
  simp only [Zv1,Zb1] at hu
  have hc:Bi (Sx.byt (c::t++r) 0)=1:=Bmk hu.1
  unfold E5
  rw [hp,ht,if_neg (by simp),if_pos hc,if_pos h]
theorem A0v{w:Str}(h:rnameF w=true):∃c t,w=c::t∧isLo c.toNat=true∧w.all (fun b=>isIn b.toNat)=true:=by
 cases w with
 |nil=>cases h
 |cons c t =>
  simp only [rnameF,Lp.okGo_zero,Zb1] at h
  exact⟨c,t,rfl,h.1.1,by simp only [Zv1,Zb1];exact⟨Lp.lo_in h.1.1,h.1.2⟩⟩
theorem Apw{w r:Str}(h:rnameF w=true) (hr:dlm r):E5 (w++r)=some (2,w,0,w.length):=by
 obtain⟨c,t,rfl,h1,h2⟩:=A0v h
 have hw:(c::t).all (fun b=>Ce b.toNat)=true:=Ats (fun b hb=>Lp.in_wd b hb) h2
 have hp:=Aoh (by simp) hw hr
 have ht:=Aj3 hw (fun c t e=>(hr c t e).1)
 have hc:Bi (Sx.byt (c::t++r) 0)=2:=Bmw h1
 unfold E5
 rw [hp,ht,if_neg (by simp),if_neg (by rw [hc];decide),if_pos hc,if_pos h]
theorem An7:∀(a b:Str) (n:Int),Lu (a++b) n=(Lu a n).bind fun m=>Lu b m
 |[],b,n=>rfl
 |c::a,b,n=>by
  simp only [Zb2,Lu]
  split
  ·rfl
  ·exact An7 a b _
theorem A1s{d:Int}(h : 0≤d∧d≤9):((dch d).toNat:Int)=48+d∧isDi ((dch d).toNat:Int)=true:=by
 have e:((dch d).toNat:Int)=48+d:=by
  simp only [dch,UInt8.toNat_ofNat']
  omega
 refine⟨e,?_⟩
 rw [e]
 simp only [isDi,Zb1,Zg1]
 omega
theorem Bb4:∀{l:List Int},dg l=true→(txt l).all (fun b=>isDi b.toNat)=true
 |[],_=>rfl
 |d::l,h=>by
  have h:=Aj6.1 h
  rw [Aau,List.all_append,Bb4 h.2]
  simp [(A1s h.1).2]
theorem Axc:∀{l:List Int},dg l=true→Lu (txt l) 0=if val l≤9223372036854775807 then some (val l) else none
 |[],_=>rfl
 |d::l,h=>by
  have h:=Aj6.1 h
  have hv:=Beg h.2
  obtain⟨hd,hdi⟩:=A1s h.1
  have hc:Bi (48+d)=3:=by rw [←hd];exact Lp.cls_di hdi
  rw [Aau,An7,Axc h.2,show val (d::l)=d+10*val l from rfl]
  by_cases h1:val l≤9223372036854775807
  ·rw [if_pos h1]
   simp only [Zc1,Lu,hd,hc]
   by_cases h2:d+10*val l≤9223372036854775807
   ·rw [if_pos h2,if_neg (by omega)]
    congr 1
    omega
   ·rw [if_neg h2,if_pos (by omega)]
  ·rw [if_neg h1,if_neg (by omega)]
   rfl
theorem Aln:∀(k n:Nat),n≤k→n≠0→Sx.byt (txt (N8 n)) 0≠48∧txt (N8 n)≠[]
 |0,n,h,h0=>absurd (Nat.le_zero.1 h) h0
 |k+1,n,h,h0=>by
  rw [Ur h0,Aau]
  by_cases h1:n / 10=0
  ·rw [h1,Mj]
   have e:Sx.byt (txt []++[dch ((n % 10:Nat):Int)]) 0=((dch ((n % 10:Nat):Int)).toNat:Int):=rfl
   rw [e,(A1s (by omega)).1]
   exact⟨by omega,by simp⟩
  ·obtain⟨h2,h3⟩:=Aln k (n / 10) (by omega) h1
   rw [Lp.byt_app h3]
   exact⟨h2,by simp⟩
theorem Bbe{n:Nat}(h0:n≠0):Xs (txt (N8 n))=if(n:Int)≤9223372036854775807 then(n:Int) else -1:=by
 unfold Xs
 rw [Axc (A41 n),Bcn]
 by_cases h:(n:Int)≤9223372036854775807
 ·rw [if_pos h,if_pos h]
  simp only
  rw [if_neg (fun e=>(Aln n n (Zn1 _) h0).1 e.2)]
 ·rw [if_neg h,if_neg h]
def Sq(n:Nat):Str:=if n=0 then [48] else txt (N8 n)
theorem A4y(n:Nat):(Sq n).all (fun b=>isDi b.toNat)=true:=by
 unfold Sq
 split
 ·rfl
 ·exact Bb4 (A41 n)
theorem A5r(n:Nat):Sq n≠[]:=by
 unfold Sq
 split
 ·simp
 ·rename_i h;exact(Aln n n (Zn1 _) h).2
theorem A1a(n:Nat):Xs (Sq n)=if(n:Int)≤9223372036854775807 then(n:Int) else -1:=by
 unfold Sq
 split
 ·rename_i h;subst h;decide +kernel
 ·rename_i h;exact Bbe h
theorem A4e(n:Nat):(Sq n).all (fun b=>Ce b.toNat)=true:=Ats (fun b hb=>Lp.in_wd b (Lp.di_in b hb)) (A4y n)
theorem Awj{n:Nat}{r:Str}(hr:dlm r):E5 (Sq n++r)=if(n:Int)≤9223372036854775807 then some (3,Sq n,(n:Int),(Sq n).length) else none:=by
 have hp:=Aoh (A5r n) (A4e n) hr
 have ht:=Aj3 (A4e n) (fun c t e=>(hr c t e).1)
 have hc:Bi (Sx.byt (Sq n++r) 0)=3:=by
  have h1:=A4y n
  have h2:=A5r n
  cases hw:Sq n with
  |nil=>exact absurd hw h2
  |cons c t =>
   rw [hw] at h1
   simp only [Zv1,Zb1] at h1
   exact Lp.cls_di h1.1
 unfold E5
 rw [hp,ht,if_neg (by simp),if_neg (by rw [hc];decide),if_neg (by rw [hc];decide),if_pos hc,A1a]
 by_cases h:(n:Int)≤9223372036854775807
 ·rw [if_pos h,if_pos h,if_pos (by omega)]
 ·rw [if_neg h,if_neg h,if_neg (by decide)]
theorem Axq{n:Int}(h : 0≤n):Awt n=Sq n.natAbs:=by
 unfold Awt Sq
 rw [if_neg (by omega)]
 by_cases h0:n=0
 ·rw [if_pos h0,if_pos (by omega)]
 ·rw [if_neg h0,if_neg (by omega)]
theorem A20{r:Str}(hr:∀t,r≠39::t):∀(s acc:Str),qS (quo s++39::r) acc=some (acc++s,(quo s).length+1)
 |[],acc=>by
  cases r with
  |nil=>simp [quo,qS]
  |cons d t =>
   have hd:d≠39:=fun e=>hr t (by rw [e])
   simp [quo,qS,hd]
 |b::s,acc=>by
  by_cases hb:b=39
  ·subst hb
   simp only [quo,if_true,Zb2,qS]
   rw [A20 hr s (acc++[39])]
   simp
  ·have ih:=A20 hr s (acc++[b])
   simp only [quo,if_neg hb,Zb2]
   cases hq:quo s++39::r with
   |nil=>simp at hq
   |cons d t =>
    rw [hq] at ih
    rw [qS,if_neg hb,ih]
    simp
theorem Ba6{s r:Str}(h:Z3 4 0 s=0) (hr:∀t,r≠39::t):E5 (39::(quo s++[39])++r)=some (4,s,0,(quo s).length+2):=by
 have hp:pre (39::(quo s++[39])++r) [120,39]=false:=by simp [pre]
 have hc:Bi (Sx.byt (39::(quo s++[39])++r) 0)=5:=by
  have e:Sx.byt (39::(quo s++[39])++r) 0=39:=rfl
  rw [e];decide +kernel
 have hd:(39::(quo s++[39])++r).drop 1=quo s++39::r:=by simp
 unfold E5
 rw [hp,if_neg (by simp),if_neg (by rw [hc];decide),if_neg (by rw [hc];decide),if_neg (by rw [hc];decide),if_pos hc,hd,A20 hr s []]
 simp only [Zf2]
 rw [if_pos h]
theorem Bgw:((List.range 256).all fun n=>decide (hexD ((hexL.getD (n / 16) 0).toNat:Int)=some ((n / 16:Nat):Int))&&decide (hexD ((hexL.getD (n % 16) 0).toNat:Int)=some ((n % 16:Nat):Int))&&nq ((hexL.getD (n / 16) 0).toNat:Int)&&nq ((hexL.getD (n % 16) 0).toNat:Int))=true:=by kernel_rfl
theorem A5k(b:UInt8):hexD ((hexL.getD (b.toNat / 16) 0).toNat:Int)=some ((b.toNat / 16:Nat):Int)∧hexD ((hexL.getD (b.toNat % 16) 0).toNat:Int)=some ((b.toNat % 16:Nat):Int)∧nq ((hexL.getD (b.toNat / 16) 0).toNat:Int)=true∧nq ((hexL.getD (b.toNat % 16) 0).toNat:Int)=true:=by
 have h:=Zg2.1 Bgw b.toNat (List.mem_range.2 b.toNat_lt)
 simp only [Zb1,Zg1] at h
 exact⟨h.1.1.1,h.1.1.2,h.1.2,h.2⟩
theorem Akz(b:UInt8) (s:Str):Si (b::s)=hexL.getD (b.toNat / 16) 0::hexL.getD (b.toNat % 16) 0::Si s:=rfl
theorem Ap3:∀(s acc:Str),unGo (Si s) acc=some (acc++s)
 |[],acc=>by simp [Si,unGo]
 |b::s,acc=>by
  obtain⟨h1,h2,_,_⟩:=A5k b
  rw [Akz,unGo,h1,h2]
  simp only
  rw [Ap3 s]
  have e:(((b.toNat / 16:Nat):Int)*16+((b.toNat % 16:Nat):Int)).toNat=b.toNat:=by omega
  rw [e]
  simp
theorem A4z:∀s:Str,(Si s).all (fun b=>nq b.toNat)=true
 |[]=>rfl
 |b::s=>by
  obtain⟨_,_,h1,h2⟩:=A5k b
  rw [Akz,Zv1,Zv1,h1,h2,A4z s]
  rfl
theorem Az1{s r:Str}(h:s.length≤1000):E5 (120::39::(Si s++[39])++r)=some (5,s,0,(Si s).length+3):=by
 have hp:pre (120::39::(Si s++[39])++r) [120,39]=true:=by simp [pre]
 have hd:(120::39::(Si s++[39])++r).drop 2=Si s++39::r:=by simp
 have ht:tw nq (Si s++39::r)=Si s:=Aj3 (A4z s) (fun c t e=>by cases e;decide +kernel)
 have hl:=Ano s
 unfold E5
 rw [hp,if_pos rfl,hd,ht,if_neg (by simp only [Zh1,Zf1];omega),if_pos (by omega),Ap3]
 simp only [Zf2]
 rw [if_neg (by omega)]
theorem A2f{v:Val}(h:Cy v=true) (hk:v.kind=1):v.n=0∧v.s=[]:=by
 simp [Cy,hk] at h
 by_cases h0:v.n=0
 ·simp [h0] at h;exact⟨h0,h⟩
 ·simp [h0] at h
theorem Ai5{v:Val}(h:Cy v=true):v.kind=1∨v.kind=2∨v.kind=3∨v.kind=4∨v.kind=5:=by
 by_cases h1:v.kind=1; · exact .inl h1
 by_cases h2:v.kind=2; · exact .inr (.inl h2)
 by_cases h3:v.kind=3; · exact .inr (.inr (.inl h3))
 by_cases h4:v.kind=4; · exact .inr (.inr (.inr (.inl h4)))
 by_cases h5:v.kind=5; · exact .inr (.inr (.inr (.inr h5)))
 simp [Cy,h1,h2,h3,h4,h5] at h
theorem A9u(x:Str):Mw x=Lp.visF x:=by
 have e:∀b:UInt8,vis b=Lp.vis (b.toNat:Int):=fun b=>by
  simp only [vis,Lp.vis]
  rw [show decide (32≤b.toNat)=decide (32≤(b.toNat:Int)) from Zy1.2 (by omega),show decide (b.toNat≤126)=decide ((b.toNat:Int)≤126) from Zy1.2 (by omega)]
 simp only [Mw,Lp.visF]
 congr 1
 funext b
 exact e b
theorem Bhs(x:Str):Cy (Val.mk 4 0 x)=Lp.rightF 4 0 x:=by
 show cond (decide ((x.length:Int)≤1000)) (Mw x) false=(decide ((x.length:Int)≤1000)&&Lp.visF x)
 rw [A9u]
 cases decide ((x.length:Int)≤1000)<;>rfl
theorem Ajl{v:Val}(h:Cy v=true) (hk:v.kind=4):Z3 4 0 v.s=0∧v.n=0:=by
 have hn:v.n=0:=by
  by_cases h0:v.n=0
  ·exact h0
  ·simp [Cy,hk,h0] at h
 have e:v=Val.mk 4 0 v.s:=by cases v;simp only at hk hn;subst hk hn;rfl
 have h2:=Bhs v.s
 rw [←e,h] at h2
 refine⟨?_,hn⟩
 unfold Z3
 rw [if_pos h2.symm]
theorem Afb{v:Val}(h:Cy v=true) (hk:v.kind=5):v.s.length≤1000∧v.n=0:=by
 refine⟨S8 h (.inr hk),?_⟩
 by_cases h0:v.n=0
 ·exact h0
 ·simp [Cy,hk,h0] at h
def O8(v:Val):Int×Str×Int:=if v.kind=3 then(3,Sq v.n.natAbs,v.n) else if v.kind=4 then(4,v.s,0) else if v.kind=5 then(5,v.s,0) else(1,B8 v,0)
theorem Bhb{v:Val}{r:Str}(h:Cy v=true) (hn:v.kind=3→0≤v.n∧v.n≤9223372036854775807) (hr:dlm r):E5 (B8 v++r)=some ((O8 v).1,(O8 v).2.1,(O8 v).2.2,(B8 v).length):=by
 have hr39:∀t,r≠39::t:=fun t e=>(hr 39 t e).2 rfl
 rcases Ai5 h with hk|hk|hk|hk|hk
 ·have e:B8 v=[78,85,76,76]:=by simp [B8,h,hk]
  have e2:O8 v=(1,[78,85,76,76],0):=by simp [O8,hk,e]
  rw [e,e2]
  exact Agz (by decide +kernel) hr
 ·have e:B8 v=if v.n=0 then [70,65,76,83,69] else [84,82,85,69]:=by simp [B8,h,hk]
  have e2:O8 v=(1,B8 v,0):=by simp [O8,hk]
  rw [e2]
  exact Agz (by rw [e];split<;>decide +kernel) hr
 ·obtain⟨h0,h1⟩:=hn hk
  have e:B8 v=Sq v.n.natAbs:=by simp only [B8,h,hk];rw [←Axq h0];rfl
  have e2:O8 v=(3,Sq v.n.natAbs,v.n):=by simp [O8,hk]
  rw [e,e2,Awj hr,if_pos (by omega)]
  have e3:((v.n.natAbs:Nat):Int)=v.n:=by omega
  rw [e3]
 ·have e:B8 v=39::(quo v.s++[39]):=by simp [B8,h,hk]
  have e2:O8 v=(4,v.s,0):=by simp [O8,hk]
  rw [e,e2,Ba6 (Ajl h hk).1 hr39]
  simp
 ·have e:B8 v=120::39::(Si v.s++[39]):=by simp [B8,h,hk]
  have e2:O8 v=(5,v.s,0):=by simp [O8,hk]
  rw [e,e2,Az1 (Afb h hk).1]
  simp
end Go.Proofs.YthndhaolemgbdaaGreatDoor
namespace Go.Proofs.YthndhaolemgbdaaGreatDoor
open Go.Ax
end Go.Proofs.YthndhaolemgbdaaGreatDoor
namespace Go.Proofs.YthndhaolemgbdaaGreatDoor
open Go.Ax
open Lp (E5)
def Dl(r:Str):Prop:=∀c t,r=c::t→c=32∨c=41∨c=44
theorem A1b(t:Str):Dl (32::t):=fun _ _ e=>by cases e;exact .inl rfl
theorem Bp2(t:Str):Dl (41::t):=fun _ _ e=>by cases e;exact .inr (.inl rfl)
theorem Bqu(t:Str):Dl (44::t):=fun _ _ e=>by cases e;exact .inr (.inr rfl)
theorem Sp{r:Str}(h:Dl r):dlm r:=fun c t e=>by
 rcases h c t e with rfl|rfl|rfl<;>exact⟨by decide +kernel,by decide⟩
theorem A4x{e:Xpr}(h:eok e.kind e.v e.name=true) (hk:e.kind=1):Cy e.v=true∧(e.v.kind=3→0≤e.v.n)∧e.name=[]:=by
 simp only [eok] at h
 rw [Ze1 hk,Zd1 (show ¬e.kind=2 by omega),Ai,Ak] at h
 simp only [Zb1,Zg1,Bool.not_eq_true',Bool.and_eq_false_iff,decide_eq_false_iff_not] at h
 obtain⟨⟨h1,h2⟩,h3⟩:=h
 refine⟨?_,fun h =>?_,h3⟩
 ·simp only [W6] at h1
  cases hv:Cy e.v with
  |true=>rfl
  |false=>rw [hv] at h1;simp at h1
 ·rcases h2 with h2|h2
  ·exact absurd h h2
  ·omega
theorem Awo{e:Xpr}(h:eok e.kind e.v e.name=true) (hk:e.kind=2):B1 e.name=true∧e.v=⟨0,0,[]⟩:=by
 simp only [eok] at h
 rw [Ze1 hk,Zd1 (show ¬e.kind=1 by omega),Ai,Ak] at h
 simp only [Zb1,Zg1] at h
 exact⟨h.2,h.1⟩
theorem Bn3{e:Xpr}(h:eok e.kind e.v e.name=true) (h1:¬e.kind=1) (h2:¬e.kind=2):e.v=⟨0,0,[]⟩∧e.name=[]:=by
 simp only [eok] at h
 rw [Zd1 h1,Zd1 h2,Ak,Ak] at h
 simp only [Zb1,Zg1] at h
 exact h
theorem Bh5{a b:Xpr}(h1:a.kind=b.kind) (h2:a.v=b.v) (h3:a.name=b.name) (h4:a.l=b.l):a=b:=by
 cases a;cases b
 simp only [Xpr.kind,Xpr.v,Xpr.name,Xpr.l] at h1 h2 h3 h4
 rw [h1,h2,h3,h4]
theorem A9p{e:Xpr}{m:Int}(h:Bp e m=true) (hk:e.kind=1∨e.kind=2):e.l=[]:=by
 obtain⟨hp,_,_⟩:=Hr h
 have:Jf e.kind=0:=by rcases hk with k|k<;>rw [k]<;>decide
 exact List.eq_nil_of_length_eq_zero (by omega)
def Ams(k:Int):Prop:=4≤k∧k≤14
inductive Shape:Xpr→Prop where
 |atom (e:Xpr) (h:e.kind=1∨e.kind=2):Shape e
 |not (x:Xpr):Shape (.mk 3 ⟨0,0,[]⟩ [] [x])
 |neg (x:Xpr):Shape (.mk 15 ⟨0,0,[]⟩ [] [x])
 |isn (x:Xpr):Shape (.mk 16 ⟨0,0,[]⟩ [] [x])
 |op (k:Int) (x y:Xpr) (h:Ams k):Shape (.mk k ⟨0,0,[]⟩ [] [x,y])
theorem Ayl{e:Xpr}{m:Int}(h:Bp e m=true):Shape e:=by
 obtain⟨hp,ho,_⟩:=Hr h
 by_cases hk:e.kind=1∨e.kind=2
 ·exact .atom e hk
 ·obtain⟨h1,h2⟩:=Bn3 ho (fun h=>hk (.inl h)) (fun h=>hk (.inr h))
  have ee:e = .mk e.kind ⟨0,0,[]⟩ [] e.l:=Bh5 rfl h1 h2 rfl
  rcases Adg e.kind with ⟨p,q⟩|⟨p,q⟩|⟨p,q⟩|p
  ·exact absurd q hk
  ·obtain⟨x,hx⟩:∃x,e.l=[x]:=List.length_eq_one_iff.1 (by omega)
   rw [hx] at ee
   rcases q with q|q|q<;>rw [q] at ee<;>rw [ee]
   ·exact .not x
   ·exact .neg x
   ·exact .isn x
  ·obtain⟨x,y,hx⟩:∃x y,e.l=[x,y]:=by
    match hq:e.l,(show e.l.length=2 by omega) with
    |[x,y],_=>exact⟨x,y,rfl⟩
   rw [hx] at ee
   rw [ee]
   exact .op _ x y q
  ·omega
theorem A4j(x:Xpr):etx (.mk 3 ⟨0,0,[]⟩ [] [x])=40::([78,79,84]++32::(etx x++[41])):=by
 simp [etx,etxs]
theorem A36(x:Xpr):etx (.mk 15 ⟨0,0,[]⟩ [] [x])=40::45::(etx x++[41]):=by
 simp [etx,etxs]
theorem A6b(x:Xpr):etx (.mk 16 ⟨0,0,[]⟩ [] [x])=40::(etx x++32::73::83::32::78::85::76::76::[41]):=by
 simp [etx,etxs]
theorem Bg8{k:Int}(h:Ams k) (x y:Xpr):etx (.mk k ⟨0,0,[]⟩ [] [x,y])=40::(etx x++32::(sgn k++32::(etx y++[41]))):=by
 simp only [Ams] at h
 simp only [etx,etxs,etx1]
 rw [if_neg (by omega),if_neg (by omega),if_neg (by omega),if_neg (by omega),if_neg (by omega)]
 simp
def Biw(k:Int):Bool:=(sgn k).all (fun c => !decide (c=32)) && !decide (sgn k=[]) && !decide ((sgn k).head? = some 73)
theorem Axj:Lp.wordF [78,79,84]=true:=by decide +kernel
theorem Aqt{e x:Xpr}{m:Int}(h:Bp e m=true) (hx:x∈e.l):∃m',Bp x m' = true:=by
 obtain⟨_,_,hs⟩:=Hr h
 rw [Y8] at hs
 exact⟨_,Zg2.1 hs x hx⟩
end Go.Proofs.YthndhaolemgbdaaGreatDoor
namespace Go.Proofs.YthndhaolemgbdaaGreatDoor
open Go.Ax
open Lp (E5)
section
variable {α:Type}(f : α→Str) (P : α→Prop) (D:Str→Prop)
end
theorem Abi:∀l:List Str,Lib.join l [44,32]=Cc (fun x=>x) l
 |[]=>rfl
 |[x]=>by simp [Lib.join,Cc,Fq]
 |x::y::l=>by
  have ih:=Abi (y::l)
  have e:Lib.join (x::y::l) [44,32]=x++([44,32]++Lib.join (y::l) [44,32]):=by simp [Lib.join,List.intercalate,List.intersperse]
  simp only [Cc,Fq] at ih ⊢
  rw [e,ih]
  simp only [Zj1]
def RX(e:Xpr):Prop:=Bp e 30=true∧BdExpr e
def Bbc(c:Col):Str:=cond (decide (c.ref=[])) [] ([32,82,69,70,69,82,69,78,67,69,83,32]++c.ref)
def CX(c:Col):Prop:=Xy c=true∧B1 c.name=true
def ckT(e:Xpr):Str:=cond (decide (Jf e.kind=0)) ([40]++(etx e++[41])) (etx e)
theorem Bbx{k:Int}:Jf k=0↔(k=1∨k=2):=by
 rcases Adg k with ⟨p,h⟩|⟨p,h⟩|⟨p,h⟩|p
 ·exact⟨fun _=>h,fun _=>p⟩
 ·exact⟨fun q=>by omega,fun q=>by omega⟩
 ·exact⟨fun q=>by omega,fun q=>by omega⟩
 ·refine⟨fun q=>by omega,fun q =>?_⟩
  rcases q with rfl|rfl<;>decide
theorem Ah7{l:List Xpr}(h:Ik l=true) (hb:Ku BdExpr l):∀x,x∈l→RX x:=fun x hx=>by
 simp only [Ik,Zb1] at h
 exact⟨Zg2.1 h.2 x hx,hb.2 x hx⟩
theorem Aai{l:List Str}(h:Fs l=true):∀x,x∈l→B1 x=true:=by
 simp only [Fs,Zb1] at h
 exact((Apf l []).1 h.1).1
theorem Aex{α:Type}{l:List α}(h:Dw (l.length:Int)=true):l≠[]:=fun e=>by
 rw [Bgs,e] at h
 simp at h
def WX(s:Stm):Prop:=Hy s=true∧BdExpr s.whr
theorem Bd8{s:Stm}(h:WX s) (hs:s.has=true):RX s.whr:=by
 have h1:=h.1
 rw [Aqj,hs] at h1
 exact⟨h1,h.2⟩
theorem Bqo{s:Stm}(h:WX s) (hs:s.has=false):s.whr=noX:=by
 have h1:=h.1
 rw [Aqj,hs] at h1
 exact of_decide_eq_true h1
theorem Bpk{s:Stm}(h:Hw s=noS) (hk:s.kind=1):s={ noS with kind:=1,name:=s.name,cols:=s.cols,names:=s.names,l:=s.l }:=by
 obtain⟨k,nm,on,cols,names,l,rows,sets,has,whr,order,desc,most⟩:=s
 simp only at hk
 subst hk
 simp [Hw,noS] at h
 simp [noS,h]
theorem Bni{s:Stm}(h:Hw s=noS) (hk:s.kind=2∨s.kind=4):s={ noS with kind:=s.kind,name:=s.name }:=by
 obtain⟨k,nm,on,cols,names,l,rows,sets,has,whr,order,desc,most⟩:=s
 simp only at hk
 rcases hk with rfl|rfl<;>simp [Hw,noS] at h<;>simp [noS,h]
theorem Bo1{s:Stm}(h:Hw s=noS) (hk:s.kind=3):s={ noS with kind:=3,name:=s.name,on:=s.on,names:=s.names }:=by
 obtain⟨k,nm,on,cols,names,l,rows,sets,has,whr,order,desc,most⟩:=s
 simp only at hk
 subst hk
 simp [Hw,noS] at h
 simp [noS,h]
theorem Bpr{s:Stm}(h:Hw s=noS) (hk:s.kind=5):s={ noS with kind:=5,name:=s.name,rows:=s.rows }:=by
 obtain⟨k,nm,on,cols,names,l,rows,sets,has,whr,order,desc,most⟩:=s
 simp only at hk
 subst hk
 simp [Hw,noS] at h
 simp [noS,h]
theorem Bql{s:Stm}(h:Hw s=noS) (hk:s.kind=6):s={ noS with kind:=6,name:=s.name,sets:=s.sets,has:=s.has,whr:=s.whr }:=by
 obtain⟨k,nm,on,cols,names,l,rows,sets,has,whr,order,desc,most⟩:=s
 simp only at hk
 subst hk
 simp [Hw,noS] at h
 simp [noS,h]
theorem Bpt{s:Stm}(h:Hw s=noS) (hk:s.kind=7):s={ noS with kind:=7,name:=s.name,has:=s.has,whr:=s.whr }:=by
 obtain⟨k,nm,on,cols,names,l,rows,sets,has,whr,order,desc,most⟩:=s
 simp only at hk
 subst hk
 simp [Hw,noS] at h
 simp [noS,h]
theorem Bo8{s:Stm}(h:Hw s=noS) (hk:s.kind=8):s={ noS with kind:=8,name:=s.name,l:=s.l,has:=s.has,whr:=s.whr,order:=s.order,desc:=s.desc,most:=s.most }:=by
 obtain⟨k,nm,on,cols,names,l,rows,sets,has,whr,order,desc,most⟩:=s
 simp only at hk
 subst hk
 simp [Hw,noS] at h
 simp [noS,h]
theorem Al7{s:Stm}(h:Ko s=true):(B1 s.name=true∧Hw s=noS)∧((s.kind=1∧(∀c,c∈s.cols→CX c)∧s.cols≠[]∧s.names≠[]∧(∀x,x∈s.names→B1 x=true)∧Ik s.l=true)
  ∨ (s.kind=2∨s.kind=4)∨(s.kind=3∧B1 s.on=true∧s.names≠[]∧∀x,x∈s.names→B1 x=true)∨(s.kind=5∧s.rows≠[]∧∀r,r∈s.rows→r≠[]∧Ik r=true)
  ∨ (s.kind=6∧s.sets≠[]∧(∀x,x∈s.sets→Bp x.e 30=true∧B1 x.name=true)∧Hy s=true)∨(s.kind=7∧Hy s=true)
  ∨ (s.kind=8∧Ik s.l=true∧Hy s=true∧(∀x,x∈s.order→B1 x=true)∧s.desc.length=s.order.length ∧ -1≤s.most)):=by
 simp only [Ko,Zb1,Zg1] at h
 refine⟨h.1,?_⟩
 have h:=h.2
 by_cases h1:s.kind=1
 ·rw [if_pos h1] at h
  simp only [Zb1] at h
  obtain⟨⟨⟨⟨⟨a1,a2⟩,a3⟩,a4⟩,a5⟩,a6⟩:=h
  refine .inl ⟨h1,fun c hc=>⟨Zg2.1 a1 c hc,Aai a3 _ (List.mem_map.2 ⟨c,hc,rfl⟩)⟩,Aex a2,Aex a4,Aai a5,a6⟩
 rw [if_neg h1] at h
 by_cases h3:s.kind=3
 ·rw [if_pos h3] at h
  simp only [Zb1] at h
  exact .inr (.inr (.inl ⟨h3,h.1.1,Aex h.1.2,Aai h.2⟩))
 rw [if_neg h3] at h
 by_cases h24:s.kind=2∨s.kind=4
 ·exact .inr (.inl h24)
 rw [if_neg h24] at h
 by_cases h5:s.kind=5
 ·rw [if_pos h5] at h
  simp only [Arj,Zb1] at h
  refine .inr (.inr (.inr (.inl ⟨h5,Aex h.1,fun r hr =>?_⟩)))
  have:=Zg2.1 h.2 r hr
  simp only [Auv,Zb1,Bool.not_eq_true',decide_eq_false_iff_not] at this
  exact⟨fun e=>this.1 (by rw [e];rfl),this.2⟩
 rw [if_neg h5] at h
 by_cases h6:s.kind=6
 ·rw [if_pos h6] at h
  simp only [Zb1] at h
  exact .inr (.inr (.inr (.inr (.inl ⟨h6,Aex h.1.1.2,fun x hx=>⟨Zg2.1 h.1.1.1 x hx,Aai h.1.2 _ (List.mem_map.2 ⟨x,hx,rfl⟩)⟩,h.2⟩))))
 rw [if_neg h6] at h
 by_cases h7:s.kind=7
 ·rw [if_pos h7] at h
  exact .inr (.inr (.inr (.inr (.inr (.inl ⟨h7,h⟩)))))
 rw [if_neg h7] at h
 by_cases h8:s.kind=8
 ·rw [if_pos h8] at h
  simp only [Zb1,Zg1] at h
  obtain⟨⟨⟨⟨a1,a2⟩,a3⟩,a4⟩,a5⟩:=h
  exact .inr (.inr (.inr (.inr (.inr (.inr ⟨h8,a1,a2,Aai a3,a4,a5⟩)))))
 rw [if_neg h8] at h
 cases h
theorem Blo{s:Stm}(h : 1≤s.kind∧s.kind≤8):(B2 s).take 6=if s.kind=1∨s.kind=3 then [67,82,69,65,84,69] else if s.kind=2 then [68,82,79,80,32,84] else if s.kind=4 then [68,82,79,80,32,73] else if s.kind=5 then [73,78,83,69,82,84] else if s.kind=6 then [85,80,68,65,84,69] else if s.kind=7 then [68,69,76,69,84,69] else [83,69,76,69,67,84]:=by
 have:s.kind=1∨s.kind=2∨s.kind=3∨s.kind=4∨s.kind=5∨s.kind=6∨s.kind=7∨s.kind=8:=by omega
 rcases this with h|h|h|h|h|h|h|h<;>simp [B2,Sn,Ar0,h]
theorem Akj{s t:Stm}(hs : 1≤s.kind∧s.kind≤8) (ht : 1≤t.kind∧t.kind≤8) (h:B2 s=B2 t):s.kind=t.kind:=by
 have h6:=congrArg (List.take 6) h
 rw [Blo hs,Blo ht] at h6
 have e1:s.kind=1∨s.kind=2∨s.kind=3∨s.kind=4∨s.kind=5∨s.kind=6∨s.kind=7∨s.kind=8:=by omega
 have e2:t.kind=1∨t.kind=2∨t.kind=3∨t.kind=4∨t.kind=5∨t.kind=6∨t.kind=7∨t.kind=8:=by omega
 rcases e1 with k|k|k|k|k|k|k|k<;>rcases e2 with l|l|l|l|l|l|l|l<;>first
  |exact k.trans l.symm
  |(simp [k,l] at h6;done)
  |(simp [B2,Sn,k,l] at h)
end Go.Proofs.YthndhaolemgbdaaGreatDoor
namespace Go.Proofs.YthndhaolemgbdaaGreatDoor
open Go.Ax
open Lp (E5 Sc Bi)
theorem Bll{m:Str}{x:Int×Str×Int×Nat}(h:E5 m=some x):Bi (Sx.byt m 0)≠6:=fun h6=>by
 by_cases hp:Lp.pre m [120,39]=true
 ·have e:Sx.byt m 0=120:=by
   match m,hp with
   |[],hp=>cases hp
   |[a],hp=>simp [Lp.pre] at hp
   |a::b::t,hp =>
    simp [Lp.pre] at hp
    rw [hp.1]
    rfl
  rw [e] at h6
  exact absurd h6 (by decide +kernel)
 ·unfold E5 at h
  rw [if_neg hp,h6] at h
  simp at h
theorem Bfb{w r:Str}{q k n:Int}{s:Str}{us:TL}(h:E5 (w++r)=some (k,s,n,w.length)) (hr:Sc r (q+w.length) us):Sc (w++r) q (⟨k,q,s,n⟩::us) :=
 .tok (Bll h) h (by rw [List.drop_left];exact hr)
theorem Bb2:Bi ((32:UInt8).toNat:Int)=6:=by decide +kernel
def Lx(D:Str→Prop) (a:Str) (Q:TL→Prop):Prop:=∀r q us,D r→Sc r (q+a.length) us→∃ts,Sc (a++r) q (ts++us)∧Q ts
def D0(_:Str):Prop:=True
theorem Lx.app{D1 D2:Str→Prop}{a b:Str}{Q1 Q2:TL→Prop}(ha:Lx D1 a Q1) (hb:Lx D2 b Q2) (hd:∀r,D2 r→D1 (b++r)):Lx D2 (a++b) fun ts=>∃t1 t2,ts=t1++t2∧Q1 t1∧Q2 t2:=fun r q us hr hs=>by
 obtain⟨t2,h2,q2⟩:=hb r (q+a.length) us hr (by rw [Zh1] at hs;rw [show q+(a.length:Int)+(b.length:Int)=q+((a.length+b.length:Nat):Int) by omega];exact hs)
 obtain⟨t1,h1,q1⟩:=ha (b++r) q (t2++us) (hd r hr) h2
 exact⟨t1++t2,by rw [Zj1,Zj1];exact h1,t1,t2,rfl,q1,q2⟩
theorem Lx.mono{D D':Str→Prop}{a:Str}{Q Q':TL→Prop}(h:Lx D a Q) (hd:∀r,D' r→D r) (hq:∀ts,Q ts→Q' ts):Lx D' a Q':=fun r q us hr hs=>by
 obtain⟨ts,h1,h2⟩:=h r q us (hd r hr) hs
 exact⟨ts,h1,hq ts h2⟩
theorem Lx.nil{D:Str→Prop}{Q:TL→Prop}(h:Q []):Lx D [] Q:=fun r q us _ hs=>⟨[],by simpa using hs,h⟩
theorem Lx.sp{D:Str→Prop}{a:Str}{Q:TL→Prop}(h:Lx D a Q):Lx D (32::a) Q:=fun r q us hr hs=>by
 obtain⟨ts,h1,h2⟩:=h r (q+1) us hr (by rw [Zf1] at hs;rw [show q+1+(a.length:Int)=q+((a.length+1:Nat):Int) by omega];exact hs)
 exact⟨ts,.blank Bb2 h1,h2⟩
theorem Lx.spb{D:Str→Prop}{a:Str}{Q:TL→Prop}(h:Lx dlm a Q):Lx D (a++[32]) Q:=fun r q us _ hs=>by
 have hd:dlm (32::r):=Sp (A1b r)
 obtain⟨ts,h1,h2⟩:=h (32::r) q us hd (.blank Bb2 (by rw [Zh1,Zf1,Zi1] at hs;rw [show q+(a.length:Int)+1=q+((a.length+(0+1):Nat):Int) by omega];exact hs))
 exact⟨ts,by rw [Zj1];exact h1,h2⟩
def Bqh(k:Int) (s:Str) (n:Int) (ts:TL):Prop:=∃t:Tok,ts=[t]∧t.kind=k∧t.s=s∧t.n=n
def IsW(s:Str) (ts:TL):Prop:=∃t:Tok,ts=[t]∧isT s [t]=true
theorem Lx.one{D:Str→Prop}{w s:Str}{k n:Int}(h:∀r,D r→E5 (w++r)=some (k,s,n,w.length)):Lx D w (Bqh k s n):=fun r q _ hr hs =>
 ⟨[⟨k,q,s,n⟩],Bfb (h r hr) hs,_,rfl,rfl,rfl,rfl⟩
theorem Biz{k n:Int}{s:Str}(hk:k=1∨k=6) {ts:TL}(h:Bqh k s n ts):IsW s ts:=by
 obtain⟨t,h1,h2,h3,_⟩:=h
 refine⟨t,h1,?_⟩
 simp only [isT,h2,h3,decide_true,Bool.and_true,Zd2,Zg1]
 exact hk
theorem Lx.word{w:Str}(h:Lp.wordF w=true):Lx dlm w (IsW w):=(Lx.one fun _ hr=>Agz h hr).mono (fun _ h=>h) (fun _ h=>Biz (.inl rfl) h)
theorem Bl6{c:UInt8}(hc:Bi (c.toNat:Int)=7):c≠120:=fun h=>by
 subst h
 exact absurd hc (by decide +kernel)
theorem Ahp{c:UInt8}{r:Str}(hc:Bi (c.toNat:Int)=7) (h2:Lp.twoS (c::r)=false):E5 ([c]++r)=some (6,[c],0,[c].length):=by
 have hp:Lp.pre (c::r) [120,39]=false:=by simp [Lp.pre,Bl6 hc]
 have hc':Bi (Sx.byt (c::r) 0)=7:=hc
 show E5 (c::r)=_
 unfold E5
 rw [hp,if_neg (by simp),if_neg (by rw [hc'];decide),if_neg (by rw [hc'];decide),if_neg (by rw [hc'];decide),if_neg (by rw [hc'];decide),if_pos hc',h2]
 rfl
theorem A8d{c d:UInt8}{r:Str}(hc:Bi (c.toNat:Int)=7) (h2:Lp.twoS (c::d::r)=true):E5 ([c,d]++r)=some (6,[c,d],0,[c,d].length):=by
 have hp:Lp.pre (c::d::r) [120,39]=false:=by simp [Lp.pre,Bl6 hc]
 have hc':Bi (Sx.byt (c::d::r) 0)=7:=hc
 show E5 (c::d::r)=_
 unfold E5
 rw [hp,if_neg (by simp),if_neg (by rw [hc'];decide),if_neg (by rw [hc'];decide),if_neg (by rw [hc'];decide),if_neg (by rw [hc'];decide),if_pos hc',h2]
 rfl
theorem Bdi{c:UInt8}(h1:c≠60) (h2:c≠62) (r:Str):Lp.twoS (c::r)=false:=by simp [Lp.twoS,Lp.pre,h1,h2]
theorem Lx.sign{c:UInt8}(hc:Bi (c.toNat:Int)=7) (h1:c≠60) (h2:c≠62):Lx D0 [c] (IsW [c]):=(Lx.one fun r _=>Ahp hc (Bdi h1 h2 r)).mono (fun _ h=>h) (fun _ h=>Biz (.inr rfl) h)
theorem lx40:Lx D0 [40] (IsW [40]):=Lx.sign (by decide +kernel) (by decide) (by decide)
theorem Awz:Lx D0 [41] (IsW [41]):=Lx.sign (by decide +kernel) (by decide) (by decide)
theorem lx44:Lx D0 [44] (IsW [44]):=Lx.sign (by decide +kernel) (by decide) (by decide)
theorem lx45:Lx D0 [45] (IsW [45]):=Lx.sign (by decide +kernel) (by decide) (by decide)
theorem lx42:Lx D0 [42] (IsW [42]):=Lx.sign (by decide +kernel) (by decide) (by decide)
theorem lx61:Lx D0 [61] (IsW [61]):=Lx.sign (by decide +kernel) (by decide) (by decide)
def blD(r:Str):Prop:=∃t,r=32::t
theorem Bnp{k:Int}(h:Ams k):Lx blD (sgn k) (IsW (sgn k)):=by
 simp only [Ams] at h
 have hk:k=4∨k=5∨k=6∨k=7∨k=8∨k=9∨k=10∨k=11∨k=12∨k=13∨k=14:=by omega
 have hd:∀r,blD r→dlm r:=fun r hr=>by
  obtain⟨t,rfl⟩:=hr
  exact Sp (A1b t)
 have two:∀c d,Bi (c.toNat:Int)=7→(∀r,Lp.twoS (c::d::r)=true)→Lx blD [c,d] (IsW [c,d]):=fun c d hc ht=>(Lx.one fun r _=>A8d hc (ht r)).mono (fun _ h=>h) (fun _ h=>Biz (.inr rfl) h)
 have one:∀c,Bi (c.toNat:Int)=7→(∀r,Lp.twoS (c::32::r)=false)→Lx blD [c] (IsW [c]):=fun c hc ht=>(Lx.one fun r hr=>by
  obtain⟨t,rfl⟩:=hr
  exact Ahp hc (ht t)).mono (fun _ h=>h) (fun _ h=>Biz (.inr rfl) h)
 rcases hk with rfl|rfl|rfl|rfl|rfl|rfl|rfl|rfl|rfl|rfl|rfl
 ·exact(Lx.word (by decide +kernel)).mono hd (fun _ h=>h)
 ·exact(Lx.word (by decide +kernel)).mono hd (fun _ h=>h)
 ·exact one 61 (by decide +kernel) (fun r=>by simp [Lp.twoS,Lp.pre])
 ·exact two 60 62 (by decide +kernel) (fun r=>by simp [Lp.twoS,Lp.pre])
 ·exact one 60 (by decide +kernel) (fun r=>by simp [Lp.twoS,Lp.pre])
 ·exact two 60 61 (by decide +kernel) (fun r=>by simp [Lp.twoS,Lp.pre])
 ·exact one 62 (by decide +kernel) (fun r=>by simp [Lp.twoS,Lp.pre])
 ·exact two 62 61 (by decide +kernel) (fun r=>by simp [Lp.twoS,Lp.pre])
 ·exact one 43 (by decide +kernel) (fun r=>by simp [Lp.twoS,Lp.pre])
 ·exact one 45 (by decide +kernel) (fun r=>by simp [Lp.twoS,Lp.pre])
 ·exact one 42 (by decide +kernel) (fun r=>by simp [Lp.twoS,Lp.pre])
structure isPE (ts:TL) (e:Xpr):Prop where
 ne:ts≠[]
 hn:isT Gx ts=false
 hm:isT [45] ts=false
 hs:isT [42] ts=false
 rd:∀us,Cd orW (ts++us) = .ok (e,us)
def Stop(us:TL):Prop:=B5 us=(0,0)∧isT sIS us=false
def isIn(ts:TL) (e:Xpr):Prop:=∀us,Stop us→orW (ts++us) = .ok (e,us)
def A1o(ts:TL) (e:Xpr):Prop:=∃o ti c:TL,ts=o++(ti++c)∧IsW [40] o∧IsW [41] c∧isIn ti e
theorem Tg{k h:Nat}{e:Xpr}{us:TL}(hs:Stop us):Dn VV k (e,h,us)=none:=Oi (fun q=>by rw [hs.2] at q;cases q.1) (.inl (by rw [hs.1]))
theorem Bbo{s w:Str}{t:Tok}{r:TL}(h:isT s [t]=true) (hw:¬w=s):isT w (t::r)=false:=by
 simp only [isT,Zb1,Zg1] at h
 simp only [isT,Bool.and_eq_false_iff,decide_eq_false_iff_not]
 exact .inr fun e=>hw (e.symm.trans h.2)
theorem Aik{s w:Str}{o:TL}(h:IsW s o) (hw:¬w=s) (r:TL):isT w (o++r)=false:=by
 obtain⟨t,rfl,h⟩:=h
 exact Bbo h hw
theorem D5{s:Str}{o:TL}(h:IsW s o) (r:TL):isT s (o++r)=true:=by
 obtain⟨t,rfl,h⟩:=h
 exact h
theorem D3{s:Str}{o:TL}(h:IsW s o) (r:TL):(o++r).tail=r:=by
 obtain⟨t,rfl,h⟩:=h
 rfl
theorem Bkt{s:Str}{o:TL}(h:IsW s o):o≠[]:=by
 obtain⟨t,rfl,h⟩:=h
 simp
theorem A6c{s:Str}{o:TL}(h:IsW s o) (r:TL):B5 (o++r)=bindS s:=by
 obtain⟨t,rfl,h⟩:=h
 simp only [isT,Zb1,Zg1] at h
 show B5 (t::r)=_
 simp only [B5,h.1,h.2]
theorem A08{s:Str}{o:TL}(h:IsW s o) (h1:bindS s=(0,0)) (h2:¬sIS=s) (r:TL):Stop (o++r):=⟨by rw [A6c h,h1],Aik h h2 r⟩
theorem Yl{ts:TL}{e:Xpr}(h:isPE ts e) {k:Nat}(h1 : 1≤k) (h7:k≤7) {us:TL}(hs:Stop us):VV k (ts++us) = .ok (e,us):=by
 rw [←Aux h1 h7]
 have hp:K3 VV k (ts++us) = .ok (e,7,us):=by
  simp only [K3,Fy h.ne,h.hn,h.hm,Bool.false_and,S0,h.rd us]
 have hl:C1 VV k (us.length+1) (e,7,us) = .ok (e,7,us):=Fz (Tg hs)
 simp only [exB,exT,hp,Agh,hl]
theorem Bqf{t1 t2 o:TL}{a b:Xpr}{s:Str}{p:Nat}{k:Int}(h1:isPE t1 a) (h2:isPE t2 b) (ho:IsW s o) (hb:bindS s=(p,k)) (hp : 1≤p) (hi:¬sIS=s):isIn (t1++(o++t2)) (mkX k [a,b]):=fun us hs=>by
 have hle:p≤6:=by have:=(A3x s).1;rw [hb] at this;exact this
 rw [←S0,←Aux (by omega) (by omega),Zj1,Zj1]
 have hpr:K3 VV 1 (t1++(o++(t2++us))) = .ok (a,7,o++(t2++us)):=by
  simp only [K3,Fy h1.ne,h1.hn,h1.hm,Bool.false_and,S0,h1.rd]
 have hst:Dn VV 1 (a,7,o++(t2++us))=some (.ok (mkX k [a,b],p,us)):=by
  simp only [Dn,A6c ho,hb,Aik ho hi,D3 ho,Yl h2 (show 1≤p+1 by omega) (show p+1≤7 by omega) hs]
  rw [if_neg (by simp),if_neg (by omega)]
 obtain⟨n,hn⟩:∃n,(o++(t2++us)).length=n+1:=⟨(o++(t2++us)).length-1,by
  have:=List.length_pos_iff.2 (Bkt ho)
  simp only [Zh1]
  omega⟩
 have hl:C1 VV 1 ((o++(t2++us)).length+1) (a,7,o++(t2++us)) = .ok (mkX k [a,b],p,us):=by
  rw [hn]
  simp only [C1,hst]
  exact Fz (Tg hs)
 simp only [exB,exT,hpr,Agh,hl]
theorem Bmh{t o:TL}{a:Xpr}(h:isPE t a) (ho:IsW Gx o):isIn (o++t) (mkX 3 [a]):=fun us hs=>by
 rw [←S0,←Aux (by omega) (by omega),Zj1]
 have hpr:K3 VV 1 (o++(t++us)) = .ok (mkX 3 [a],3,us):=by
  simp only [K3,D5 ho,D3 ho,Yl h (show 1≤3 by omega) (show 3≤7 by omega) hs]
  rfl
 have hl:C1 VV 1 (us.length+1) (mkX 3 [a],3,us) = .ok (mkX 3 [a],3,us):=Fz (Tg hs)
 simp only [exB,exT,hpr,Agh,hl]
theorem Bng{t o:TL}{a:Xpr}(h:isPE t a) (ho:IsW [45] o):isIn (o++t) (mkX 15 [a]):=fun us hs=>by
 rw [←S0,←Aux (by omega) (by omega),Zj1]
 have hpr:K3 VV 1 (o++(t++us)) = .ok (mkX 15 [a],7,us):=by
  simp only [K3,Aik ho (show ¬Gx=[45] by decide),Bool.false_and,D5 ho,D3 ho,Yl h (show 1≤7 by omega) (show 7≤7 by omega) hs]
 have hl:C1 VV 1 (us.length+1) (mkX 15 [a],7,us) = .ok (mkX 15 [a],7,us):=Fz (Tg hs)
 simp only [exB,exT,hpr,Agh,hl]
theorem Bm4{t o p:TL}{a:Xpr}(h:isPE t a) (ho:IsW sIS o) (hp:IsW Ej p):isIn (t++(o++p)) (mkX 16 [a]):=fun us hs=>by
 rw [←S0,←Aux (by omega) (by omega),Zj1,Zj1]
 have hpr:K3 VV 1 (t++(o++(p++us))) = .ok (a,7,o++(p++us)):=by
  simp only [K3,Fy h.ne,h.hn,h.hm,Bool.false_and,S0,h.rd]
 have hst:Dn VV 1 (a,7,o++(p++us))=some (.ok (mkX 16 [a],4,us)):=by
  simp only [Dn,D5 ho,isP,D3 ho,Aik hp (show ¬Gx=Ej by decide),D5 hp,D3 hp]
  rfl
 obtain⟨n,hn⟩:∃n,(o++(p++us)).length=n+1:=⟨(o++(p++us)).length-1,by
  have:=List.length_pos_iff.2 (Bkt ho)
  simp only [Zh1]
  omega⟩
 have hl:C1 VV 1 ((o++(p++us)).length+1) (a,7,o++(p++us)) = .ok (mkX 16 [a],4,us):=by
  rw [hn]
  simp only [C1,hst]
  exact Fz (Tg hs)
 simp only [exB,exT,hpr,Agh,hl]
theorem A5q{ts:TL}{e:Xpr}(h:A1o ts e):isPE ts e:=by
 obtain⟨o,ti,c,rfl,ho,hc,hi⟩:=h
 refine⟨fun e=>Bkt ho (List.append_eq_nil_iff.1 e).1,Aik ho (by decide) _,Aik ho (by decide) _,Aik ho (by decide) _,fun us =>?_⟩
 have h1:=hi (c++us) (A08 hc (by decide) (by decide) us)
 have hb:isT [41] (c++us)=true:=D5 hc us
 have ht:(c++us).tail=us:=D3 hc us
 obtain⟨t,rfl,h0⟩:=ho
 have hs:t.s=[40]∧(t.kind=1∨t.kind=6):=by
  simp only [isT,Zb1,Zd2,Zg1] at h0
  exact⟨h0.2,h0.1⟩
 have n:∀w:Str,¬w=[40]→¬(t.kind=1∧t.s=w):=fun w hw q=>hw (q.2.symm.trans hs.1)
 show Cd orW (t::((ti++c)++us))=_
 have h2:isT [40] (t::((ti++c)++us))=true:=h0
 simp only [Cd]
 rw [if_neg (by omega),if_neg (by omega),if_neg (by omega),if_neg (by omega),if_neg (n _ (by decide)),if_neg (n _ (by decide)),if_neg (n _ (by decide)),if_pos h2,Zj1,h1]
 simp only [if_pos hb,ht]
theorem Abt{v:Val}{k n:Int}{s:Str}(h1:v.kind=k) (h2:v.n=n) (h3:v.s=s):v=⟨k,n,s⟩:=by
 cases v
 simp only at h1 h2 h3
 rw [h1,h2,h3]
theorem A0o{v:Val}(h:Cy v=true) (hk:v.kind=2):(v.n=0∨v.n=1)∧v.s=[]:=by
 simp [Cy,hk] at h
 by_cases h0:v.n=0
 ·simp [h0] at h;exact⟨.inl h0,h⟩
 ·by_cases h1:v.n=1
  ·simp [h1] at h;exact⟨.inr h1,h⟩
  ·simp [h0,h1] at h
theorem Bir{e:Xpr}{m:Int}(h:Bp e m=true) (hb:BdExpr e) (hk:e.kind=1∨e.kind=2):Lx dlm (etx e) (fun ts=>isPE ts e):=by
 obtain⟨_,ho,_⟩:=Hr h
 have hl:=A9p h hk
 rw [Azc]
 rcases hk with k1|k2
 ·rw [if_pos k1]
  obtain⟨h1,h2,h3⟩:=A4x ho k1
  have hn:=(Bpl hb).1.2.1
  simp only [inI] at hn
  refine(Lx.one fun r hr=>Bhb h1 (fun hk=>⟨h2 hk,hn.2⟩) hr).mono (fun _ h=>h) (fun ts hts =>?_)
  obtain⟨t,rfl,a1,a2,a3⟩:=hts
  have ee:e = .mk 1 e.v [] []:=by
   cases e
   simp only [Xpr.kind,Xpr.name,Xpr.l] at k1 h3 hl
   simp only [Xpr.v]
   rw [k1,h3,hl]
  have fin:∀(k n:Int) (s:Str),e.v=⟨k,n,s⟩→((t.kind=1∧(t.s=Ej∨t.s=Ae7∨t.s=Vj))∨t.kind=3∨t.kind=4∨t.kind=5)→(∀us,Cd orW (t::us) = .ok (Vo k n s,us))→isPE [t] e:=fun k n s hv hk hr=>by
   have no:∀w:Str,¬w=Ej→¬w=Ae7→¬w=Vj→isT w [t]=false:=fun w w1 w2 w3=>by
    simp only [isT,Bool.and_eq_false_iff,Bool.or_eq_false_iff,decide_eq_false_iff_not]
    rcases hk with ⟨_,q|q|q⟩|q
    ·exact .inr fun e=>w1 (e.symm.trans q)
    ·exact .inr fun e=>w2 (e.symm.trans q)
    ·exact .inr fun e=>w3 (e.symm.trans q)
    ·exact .inl ⟨by omega,by omega⟩
   refine⟨by simp,no _ (by decide) (by decide) (by decide),no _ (by decide) (by decide) (by decide),no _ (by decide) (by decide) (by decide),fun us =>?_⟩
   rw [ee,hv]
   exact hr us
  rcases Ai5 h1 with hk|hk|hk|hk|hk
  ·obtain⟨b1,b2⟩:=A2f h1 hk
   have e1:B8 e.v=Ej:=by simp [B8,h1,hk,Ej]
   have e2:O8 e.v=(1,Ej,0):=by simp [O8,hk,e1]
   rw [e2] at a1 a2
   refine fin 1 0 [] (Abt hk b1 b2) (.inl ⟨a1,.inl a2⟩) (fun us =>?_)
   simp only [Cd,a1,a2]
   rfl
  ·obtain⟨b1,b2⟩:=A0o h1 hk
   have e2:O8 e.v=(1,B8 e.v,0):=by simp [O8,hk]
   have e1:B8 e.v=if e.v.n=0 then [70,65,76,83,69] else [84,82,85,69]:=by simp [B8,h1,hk]
   rw [e2] at a1 a2
   rcases b1 with b1|b1
   ·have e3:B8 e.v=Vj:=by rw [e1,if_pos b1];rfl
    rw [e3] at a2
    refine fin 2 0 [] (Abt hk b1 b2) (.inl ⟨a1,.inr (.inr a2)⟩) (fun us =>?_)
    simp only [Cd,a1,a2]
    rfl
   ·have e3:B8 e.v=Ae7:=by rw [e1,if_neg (by omega)];rfl
    rw [e3] at a2
    refine fin 2 1 [] (Abt hk b1 b2) (.inl ⟨a1,.inr (.inl a2)⟩) (fun us =>?_)
    simp only [Cd,a1,a2]
    rfl
  ·have b2:e.v.s=[]:=by simpa [Cy,hk] using h1
   have e2:O8 e.v=(3,Sq e.v.n.natAbs,e.v.n):=by simp [O8,hk]
   rw [e2] at a1 a3
   refine fin 3 e.v.n [] (Abt hk rfl b2) (.inr (.inl a1)) (fun us =>?_)
   simp only [Cd,a1,a3]
   rfl
  ·have b1:=(Ajl h1 hk).2
   have e2:O8 e.v=(4,e.v.s,0):=by simp [O8,hk]
   rw [e2] at a1 a2
   refine fin 4 0 e.v.s (Abt hk b1 rfl) (.inr (.inr (.inl a1))) (fun us =>?_)
   simp only [Cd,a1,a2]
   rfl
  ·have b1:=(Afb h1 hk).2
   have e2:O8 e.v=(5,e.v.s,0):=by simp [O8,hk]
   rw [e2] at a1 a2
   refine fin 5 0 e.v.s (Abt hk b1 rfl) (.inr (.inr (.inr a1))) (fun us =>?_)
   simp only [Cd,a1,a2]
   rfl
 ·rw [if_neg (by omega),if_pos k2]
  obtain⟨h1,h2⟩:=Awo ho k2
  have h1':Lp.rnameF e.name=true:=by
   have h1:Lp.nameF e.name=true:=h1
   rw [Lp.name_eq] at h1
   exact h1
  refine(Lx.one fun r hr=>Apw h1' hr).mono (fun _ h=>h) (fun ts hts =>?_)
  obtain⟨t,rfl,a1,a2,a3⟩:=hts
  have no:∀w:Str,isT w [t]=false:=fun w=>by simp only [isT,a1];rfl
  refine⟨by simp,no _,no _,no _,fun us =>?_⟩
  have ee:e = .mk 2 ⟨0,0,[]⟩ e.name []:=by
   cases e
   simp only [Xpr.kind,Xpr.v,Xpr.l] at k2 h2 hl
   simp only [Xpr.name]
   rw [k2,h2,hl]
  show Cd orW (t::us)=_
  simp only [Cd,a1,a2]
  rw [ee]
  rfl
theorem A8t{k:Int}(h:Ams k):∃p,bindS (sgn k)=(p,k)∧1≤p:=by
 simp only [Ams] at h
 have hk:k=4∨k=5∨k=6∨k=7∨k=8∨k=9∨k=10∨k=11∨k=12∨k=13∨k=14:=by omega
 rcases hk with rfl|rfl|rfl|rfl|rfl|rfl|rfl|rfl|rfl|rfl|rfl<;>exact⟨_,rfl,by decide⟩
theorem Bna{k:Int}(h:Ams k):¬sIS=sgn k:=by
 simp only [Ams] at h
 have hk:k=4∨k=5∨k=6∨k=7∨k=8∨k=9∨k=10∨k=11∨k=12∨k=13∨k=14:=by omega
 rcases hk with rfl|rfl|rfl|rfl|rfl|rfl|rfl|rfl|rfl|rfl|rfl<;>decide
theorem A0z:∀(n:Nat) (e:Xpr) (m:Int),Bx e≤n→Bp e m=true→BdExpr e→Lx dlm (etx e) (fun ts=>isPE ts e∧(e.kind=1∨e.kind=2∨A1o ts e))
 |0,e,_,h,_,_=>by have:=F2 e;omega
 |n+1,e,m,hn,he,hb=>by
  have ih:∀x,x∈e.l→Lx dlm (etx x) (fun ts=>isPE ts x):=fun x hx=>by
   obtain⟨m1,h1⟩:=Aqt he hx
   refine(A0z n x m1 ?_ h1 ((Ait hb).2 x hx)).mono (fun _ h=>h) (fun _ h=>h.1)
   have:=Eg hx
   rw [Hz] at hn
   omega
  have dm41:∀r,D0 r→dlm ([41]++r):=fun r _=>Sp (Bp2 r)
  have any:∀{D:Str→Prop}(r:Str),D r→D0 r:=fun _ _=>trivial
  have sh:=Ayl he
  cases sh with
  |atom _ hk=>exact(Bir he hb hk).mono (fun _ h=>h) (fun _ h=>⟨h,hk.imp_right fun q =>.inl q⟩)
  |not x =>
   rw [A4j]
   have h:=lx40.app (((Lx.word (w:=Gx) Axj).app ((ih x Zr1).sp.app Awz dm41) (fun r _=>Sp (A1b _)))) (fun r _=>trivial)
   refine(show Lx D0 _ _ from h).mono (fun _ _=>trivial) (fun ts hts =>?_)
   obtain⟨o,t1,rfl,ho,w,t2,rfl,hw,tx,c,rfl,hx,hc⟩:=hts
   have hbr:A1o (o++(w++(tx++c))) (mkX 3 [x]):=⟨o,w++tx,c,by simp only [Zj1],ho,hc,Bmh hx hw⟩
   exact⟨A5q hbr,.inr (.inr hbr)⟩
  |neg x =>
   rw [A36]
   have h:=lx40.app (lx45.app ((ih x Zr1).app Awz dm41) (fun r _=>trivial)) (fun r _=>trivial)
   refine(show Lx D0 _ _ from h).mono (fun _ _=>trivial) (fun ts hts =>?_)
   obtain⟨o,t1,rfl,ho,w,t2,rfl,hw,tx,c,rfl,hx,hc⟩:=hts
   have hbr:A1o (o++(w++(tx++c))) (mkX 15 [x]):=⟨o,w++tx,c,by simp only [Zj1],ho,hc,Bng hx hw⟩
   exact⟨A5q hbr,.inr (.inr hbr)⟩
  |isn x =>
   rw [A6b]
   have h:=lx40.app ((ih x Zr1).app (((Lx.word (w:=sIS) (by decide +kernel)).app (((Lx.word (w:=Ej) (by decide +kernel)).app Awz dm41).sp) (fun r _=>Sp (A1b _))).sp) (fun r _=>Sp (A1b _))) (fun r _=>trivial)
   refine(show Lx D0 _ _ from h).mono (fun _ _=>trivial) (fun ts hts =>?_)
   obtain⟨o,t1,rfl,ho,tx,t2,rfl,hx,w,t3,rfl,hw,v,c,rfl,hv,hc⟩:=hts
   have hbr:A1o (o++(tx++(w++(v++c)))) (mkX 16 [x]):=⟨o,tx++(w++v),c,by simp only [Zj1],ho,hc,Bm4 hx hw hv⟩
   exact⟨A5q hbr,.inr (.inr hbr)⟩
  |op k x y hk =>
   rw [Bg8 hk]
   have h:=lx40.app ((ih x Zr1).app (((Bnp hk).app (((ih y (Zu1 _ Zr1)).app Awz dm41).sp) (fun r _=>⟨_,rfl⟩)).sp) (fun r _=>Sp (A1b _))) (fun r _=>trivial)
   refine(show Lx D0 _ _ from h).mono (fun _ _=>trivial) (fun ts hts =>?_)
   obtain⟨o,t1,rfl,ho,tx,t2,rfl,hx,w,t3,rfl,hw,ty,c,rfl,hy,hc⟩:=hts
   obtain⟨p,hp,hp1⟩:=A8t hk
   have hbr:A1o (o++(tx++(w++(ty++c)))) (mkX k [x,y]):=⟨o,tx++(w++ty),c,by simp only [Zj1],ho,hc,Bqf hx hy hw hp hp1 (Bna hk)⟩
   exact⟨A5q hbr,.inr (.inr hbr)⟩
end Go.Proofs.YthndhaolemgbdaaGreatDoor
namespace Go.Proofs.YthndhaolemgbdaaGreatDoor
open Go.Ax
open Lp (E5 Sc Bi)
def Rd{α:Type}(p:TL→PR α) (D:Str→Prop) (S T:TL→Prop) (a:Str) (x : α):Prop:=Lx D a fun ts=>∀vs,S vs→T (ts++vs)∧p (ts++vs) = .ok (x,vs)
def Di(_:TL):Prop:=True
section
variable {α β:Type}{p:TL→PR α}{D D1 D2:Str→Prop}{S S1 S2 T T1 T2:TL→Prop}{a b:Str}{x : α}{y : β}
theorem Rd.bind{f : α→TL→PR β}(h1:Rd p D1 S1 T1 a x) (h2:Rd (f x) D2 S2 T2 b y) (hd:∀r,D2 r→D1 (b++r)) (hs:∀l,T2 l→S1 l):Rd (bP p f) D2 S2 T1 (a++b) y :=
 (Lx.app h1 h2 hd).mono (fun _ h=>h) fun ts ⟨t1,t2,e,q1,q2⟩ vs hv=>by
  subst e
  obtain⟨a1,a2⟩:=q2 vs hv
  obtain⟨b1,b2⟩:=q1 (t2++vs) (hs _ a1)
  rw [Zj1]
  refine⟨b1,?_⟩
  simp only [bP,b2,a2]
theorem Rd.map{g : α→β}(h:Rd p D S T a x):Rd (bP p fun x=>Ey (g x)) D S T a (g x) :=
 Lx.mono h (fun _ h=>h) fun _ q vs hv=>⟨(q vs hv).1,by simp only [bP,(q vs hv).2];rfl⟩
theorem Rd.mono(h:Rd p D1 S1 T1 a x) (hd:∀r,D2 r→D1 r) (hs:∀l,S2 l→S1 l) (ht:∀l,T1 l→T2 l):Rd p D2 S2 T2 a x :=
 Lx.mono h hd fun _ q vs hv=>⟨ht _ (q vs (hs vs hv)).1,(q vs (hs vs hv)).2⟩
end
def hdW(w:Str) (l:TL):Prop:=isT w l=true
def No(W:List Str) (l:TL):Prop:=∀w,w∈W→isT w l=false
theorem Aje{w:Str}{W:List Str}(hw:¬w∈W) {l:TL}(h:hdW w l):No W l:=fun v hv=>by
 cases l with
 |nil=>rfl
 |cons t r =>
  simp only [hdW,isT,Zb1,Zg1] at h
  simp only [isT,Bool.and_eq_false_iff,decide_eq_false_iff_not]
  exact .inr fun e=>hw (by rw [←h.2,e];exact hv)
theorem Akg{w:Str}(h1:bindS w=(0,0)) (h2:¬sIS=w) {l:TL}(h:hdW w l):Stop l:=by
 cases l with
 |nil=>cases h
 |cons t r=>exact A08 (o:=[t]) ⟨t,rfl,h⟩ h1 h2 r
theorem Abf{W V:List Str}(h:∀w,w∈V→w∈W) {l:TL}(hl:No W l):No V l:=fun w hw=>hl w (h w hw)
theorem Awh:Stop []:=⟨rfl,rfl⟩
theorem Boq(W:List Str):No W []:=fun _ _=>rfl
theorem E3{w a:Str}{D:Str→Prop}(h:Lx D a (IsW w)):Rd (Bo [w]) D Di (hdW w) a () :=
 h.mono (fun _ h=>h) fun ts q vs _=>⟨D5 q vs,by simp only [Bo,D5 q,D3 q]⟩
theorem N6{α:Type}{w a b:Str}{D D':Str→Prop}{S T:TL→Prop}{p q:TL→PR α}{x : α}(h:Lx D a (IsW w)) (hb:Rd p D' S T b x) (hd:∀r,D' r→D (b++r)):Rd (fun l=>match isT w l with|true=>p l.tail|false=>q l) D' S (hdW w) (a++b) x :=
 (Lx.app h hb hd).mono (fun _ h=>h) fun ts ⟨t1,t2,e,q1,q2⟩ vs hv=>by
  subst e
  rw [Zj1]
  exact⟨D5 q1 _,by simp only [D5 q1,D3 q1];exact(q2 vs hv).2⟩
theorem E4{α:Type}{w b:Str}{D:Str→Prop}{S T:TL→Prop}{p q:TL→PR α}{x : α}(hb:Rd q D S T b x) (hT:∀l,T l→isT w l=false):Rd (fun l=>match isT w l with|true=>p l.tail|false=>q l) D S T b x :=
 Lx.mono hb (fun _ h=>h) fun ts q2 vs hv=>by
  obtain⟨h1,h2⟩:=q2 vs hv
  exact⟨h1,by simp only [hT _ h1];exact h2⟩
def noW(l:TL):Prop:=∀w,isT w l=false
theorem G0{s:Str}(h:B1 s=true):Rd Cq dlm Di noW s s:=by
 have h1:Lp.nameF s=true:=h
 rw [Lp.name_eq] at h1
 refine(Lx.one fun r hr=>Apw h1 hr).mono (fun _ h=>h) fun ts hts vs _ =>?_
 obtain⟨t,rfl,a1,a2,_⟩:=hts
 refine⟨fun w =>?_,?_⟩
 ·show isT w (t::vs)=false
  simp only [isT,a1]
  rfl
 ·show Cq (t::vs)=_
  simp only [Cq,a1,a2,decide_true]
theorem A4d{e:Xpr}(h:RX e):Rd orW dlm Stop (fun l=>isT [42] l=false) (etx e) e :=
 (A0z (Bx e) e 30 (Zn1 _) h.1 h.2).mono (fun _ h=>h) fun ts q vs hv=>⟨(Fy q.1.ne _ _).trans q.1.hs,by rw [←S0];exact Yl q.1 (by omega) (by omega) hv⟩
theorem Asi{α:Type}{part:TL→PR α}{f : α→Str}{D:Str→Prop}{S T:TL→Prop}(hD:∀t,D (44::32::t)) (hS:∀l,hdW [44] l→S l):∀l:List α,(∀x,x∈l→Rd part D S T (f x) x)→Lx D (Fq f l) fun ts=>∀vs,S vs∧isT [44] vs=false→S (ts++vs)∧∀k acc,(ts++vs).length<k→Bz part k acc (ts++vs) = .ok (acc++l,vs)
 |[],_=>Lx.nil fun vs hv=>⟨hv.1,fun k acc hk=>by
  obtain⟨k,rfl⟩:∃k',k=k'+1:=⟨k-1,by omega⟩
  simp only [Zf2,Bz,hv.2,List.append_nil]⟩
 |x::l,h=>by
  have hx:=h x Zr1
  have ih:=Asi hD hS l fun y hy=>h y (Zu1 _ hy)
  have hd:∀r,D r→D (Fq f l++r):=fun r hr=>by
   cases l with
   |nil=>exact hr
   |cons y l=>exact hD _
  have e:Fq f (x::l)=[44]++(32::(f x++Fq f l)):=by simp [Fq]
  rw [e]
  refine(lx44.app (Lx.sp (Lx.app hx ih hd)) (fun _ _=>trivial)).mono (fun _ h=>h) fun ts hts vs hv =>?_
  obtain⟨c,t1,rfl,hc,tx,tr,rfl,q1,q2⟩:=hts
  obtain⟨r1,r2⟩:=q2 vs hv
  obtain⟨_,p2⟩:=q1 (tr++vs) r1
  refine⟨by rw [Zj1];exact hS _ (D5 hc _),fun k acc hk =>?_⟩
  obtain⟨k,rfl⟩:∃k',k=k'+1:=⟨k-1,by omega⟩
  have hcl:=List.length_pos_iff.2 (Bkt hc)
  simp only [Zh1] at hk
  simp only [Zj1,Bz,D5 hc,D3 hc,p2]
  rw [r2 k (acc++[x]) (by simp only [Zh1];omega)]
  simp
theorem Agp{α:Type}{part:TL→PR α}{f : α→Str}{D:Str→Prop}{S T:TL→Prop}(hD:∀t,D (44::32::t)) (hS:∀l,hdW [44] l→S l) {l:List α}(hl:l≠[]) (h:∀x,x∈l→Rd part D S T (f x) x):Rd (Ni part) D (fun l=>S l∧isT [44] l=false) T (Cc f l) l:=by
 cases l with
 |nil=>exact absurd rfl hl
 |cons x l =>
  have hx:=h x Zr1
  have ht:=Asi hD hS l fun y hy=>h y (Zu1 _ hy)
  have hd:∀r,D r→D (Fq f l++r):=fun r hr=>by
   cases l with
   |nil=>exact hr
   |cons y l=>exact hD _
  refine(Lx.app hx ht hd).mono (fun _ h=>h) fun ts hts vs hv =>?_
  obtain⟨tx,tr,rfl,q1,q2⟩:=hts
  obtain⟨r1,r2⟩:=q2 vs hv
  obtain⟨p1,p2⟩:=q1 (tr++vs) r1
  rw [Zj1]
  refine⟨p1,?_⟩
  simp only [Ni,p2]
  rw [r2 _ [x] (by omega)]
  rfl
theorem E6{D:Str→Prop}:∀r,D r→D0 r:=fun _ _=>trivial
theorem Ci{S:TL→Prop}:∀l,S l→Di l:=fun _ _=>trivial
theorem Ad4(t:Str):dlm (32::t):=Sp (A1b t)
theorem dm41(t:Str):dlm (41::t):=Sp (Bp2 t)
theorem A3i(t:Str):dlm (44::t):=Sp (Bqu t)
theorem Aw7{l:List Str}(hl:l≠[]) (h:∀x,x∈l→B1 x=true):Rd X0 D0 Di (hdW [40]) (nmT l) l:=by
 unfold nmT
 rw [Abi]
 refine(E3 lx40).bind (D2:=D0) (T2:=noW) ?_ E6 Ci
 refine(Agp (S:=Di) (fun _=>A3i _) Ci hl fun x hx=>G0 (h x hx)).bind (T2:=hdW [41]) ?_ (fun r _=>dm41 _) (fun l hl=>⟨trivial,Aje (W:=[[44]]) (by decide) hl _ (by simp)⟩)
 exact(E3 Awz).map
theorem Bfw{l:TL}(h:hdW [44] l):Stop l:=Akg (by decide) (by decide) h
theorem Bnz{l:TL}(h:hdW [41] l):Stop l:=Akg (by decide) (by decide) h
theorem Bpq{w:Str}(hw:¬w=[44]) {l:TL}(h:hdW w l):isT [44] l=false:=Aje (W:=[[44]]) (by simpa using hw) h _ (by simp)
theorem Axg{l:List Xpr}(hl:l≠[]) (h:∀x,x∈l→RX x):Rd Aak dlm (fun l=>Stop l∧isT [44] l=false) (fun l=>isT [42] l=false) (Cc etx l) l :=
 Agp (fun _=>A3i _) (fun _ h=>Bfw h) hl fun x hx=>A4d (h x hx)
theorem Bm2{l:List Xpr}(hl:l≠[]) (h:∀x,x∈l→RX x):Rd Be8 D0 Di (hdW [40]) (Aju l) l:=by
 unfold Aju
 refine(E3 lx40).bind (D2:=D0) (T2:=fun l=>isT [42] l=false) ?_ E6 Ci
 refine(Axg hl h).bind (T2:=hdW [41]) ?_ (fun r _=>dm41 _) (fun l hl=>⟨Bnz hl,Bpq (by decide) hl⟩)
 exact(E3 Awz).map
end Go.Proofs.YthndhaolemgbdaaGreatDoor
namespace Go.Proofs.YthndhaolemgbdaaGreatDoor
open Go.Ax
theorem Bd9{m n:Nat}(h:m≤n):H1 0 (m:Int) n=true:=by simp [H1];omega
def Z1(R:Type):Px R:=⟨Bd ttL,glT,Au [],Am [],Aw [],tbl []⟩
def Aef(x:HV [.str,.str]):Option (HV [.bool]):=match x with
 |(l,m) =>
 cond (decide ((m.length:Int)≤(l.length:Int))) (
  chk (H1 0 (m.length:Int) l.length) (
  some (decide ((l.take ((m.length:Int):Int).toNat)=m)))) (
  some false)
theorem Bf9:∀(x:HV [.str,.str]),Cs (Z1 _) Tryz.f192 [.str,.str] [.bool] x some=Aef x
 |(l,m)=>by kernel_rfl
theorem A9h:FnOk Tryz.prog elT glT 192 [.str,.str] [.bool] (Aef):=by
 refine A3 Tryz.func192 rfl (by kernel_rfl) follows (by kernel_rfl) (n:=0) (by kernel_rfl) (px:=Z1 _) (fun cx hP hel hgl =>?_) (Bf9)
 have hp0:PxOk cx (Z1 (HV [.bool])):=⟨fun t=>by rw [hP,hel];exact Av An t,by rw [hgl];rfl⟩
 have hc0:Al cx (Z1 (HV [.bool])):=Af rfl Aj
 have hq0:CallQOk cx (Z1 (HV [.bool])):=Ab rfl rfl Ah Ae
 exact⟨hp0,hc0,hq0,Ay⟩
def A5z(l m:Str):Bool:=Lp.pre l m
def Ar3:FT [.str,.str] [.bool]:=fun x=>some (A5z x.1 x.2)
theorem Bfp:FnOk Tryz.prog elT glT 192 [.str,.str] [.bool] Ar3 :=.fin0 A9h fun(l,m) r hb hx=>by
 simp only [Ar3,Za1] at hx
 subst hx
 simp only [Aef,A5z,Lp.pre]
 have e:decide ((m.length:Int)≤(l.length:Int))=decide (m.length≤l.length):=Zy1.2 (by omega)
 rw [e]
 by_cases h:m.length≤l.length
 ·rw [Ze1 h,Ai,Bd9 h,Int.toNat_natCast]
  rfl
 ·rw [Zd1 h]
  rfl
def Aez(R:Type):Px R:=⟨Bd ttL,glT,Au [(192,As [.str,.str] [.bool] Ar3)],Am [],Aw [],tbl []⟩
def Aa2(x:HV [.str,.str]):Option (HV [.bool]):=match x with
 |(l,m) =>
 some (A5z l m)
theorem Bjw:∀(x:HV [.str,.str]),Cs (Aez _) Tryz.f175 [.str,.str] [.bool] x some=Aa2 x
 |(l,m)=>by kernel_rfl
theorem Bgk:FnOk Tryz.prog elT glT 175 [.str,.str] [.bool] (Aa2):=by
 refine A3 Tryz.func175 rfl (by kernel_rfl) follows (by kernel_rfl) (n:=0) (by kernel_rfl) (px:=Aez _) (fun cx hP hel hgl =>?_) (Bjw)
 have hp0:PxOk cx (Aez (HV [.bool])):=⟨fun t=>by rw [hP,hel];exact Av An t,by rw [hgl];rfl⟩
 have hc0:Al cx (Aez (HV [.bool])):=Af rfl (Aa (A7 (by rw [hP,hel,hgl];exact Bfp) (by kernel_rfl)) Aj)
 have hq0:CallQOk cx (Aez (HV [.bool])):=Ab rfl rfl Ah Ae
 exact⟨hp0,hc0,hq0,Ay⟩
def hpre(l:Str) (m:Str):Bool :=
 (A5z l m)
theorem Bhz(x:HV [.str,.str]):Aa2 x=some (hpre x.1 x.2):=by
 first
  |exact rfl
  |simp only [Aa2,hpre,B7]
def Ay3:FT [.str,.str] [.bool]:=fun x=>some (hpre x.1 x.2)
theorem A37:FnOk Tryz.prog elT glT 175 [.str,.str] [.bool] Ay3 :=.fin0 Bgk fun x _ _ hx=>(Bhz x).trans hx
set_option maxRecDepth 20000 in
open Go.Sx in
theorem Yx(l:Str) (c:Int):Con Tryz.prog 174 [S l,.int .u8 c] [] (fun _=>True) (Is (.int .i64 (Lib.indexByte l c.toNat.toUInt8))):=by
 have run:∀w,(callFunc 191 #[S l,.int .u8 c]).run Tryz.prog w = .ok (.value (.int .i64 (Lib.indexByte l c.toNat.toUInt8))) w:=fun w=>by
  rw [run_callFunc_extern Tryz.func191 (by kernel_rfl) rfl (by kernel_rfl) (e:=Extern.BytealgIndexByte.indexByte) (by kernel_rfl)]
  simp [Lib.run_indexByteString,go_sem]
 refine Apn Tryz.func174 Tryz.ntmps174 rfl (by kernel_rfl) rfl fun w M =>?_
 repeat' (first|refine Bow ?_|refine Bdb ?_|refine Bqn ?_|refine Bqd ?_|refine Bpj ?_|refine Biq ?_|refine Bn5 ?_|refine Bmr ?_|refine Bm5 ?_|refine Bov ?_|refine Bon ?_|refine Bpg rfl ?_|refine Bk6 ?_|refine Bk2 ?_|refine Bka ?_|refine Bkv ?_|(apply Bhi rfl rfl;(first|exact p_move rfl|exact p_assign rfl|exact p_lens (by dsimp only;decide +kernel) rfl|exact p_lensl (by dsimp only;decide +kernel) rfl|exact p_extract rfl rfl|exact p_pick_t rfl rfl|exact p_pick_f rfl rfl|exact p_eql rfl rfl|exact p_neq rfl rfl|exact p_lss rfl rfl|exact p_leq rfl rfl|exact p_gtr rfl rfl|exact p_geq rfl rfl|exact p_not rfl|exact p_eqls rfl rfl|exact p_neqs rfl rfl|exact Bi1 rfl rfl (by omega)|exact Bjm rfl rfl (by omega)|exact p_index (by dsimp only;decide +kernel) rfl rfl (by omega)|exact p_cut (by dsimp only;decide +kernel) rfl rfl rfl (by omega)|exact p_cutlo (by dsimp only;decide +kernel) rfl rfl (by omega)|exact p_cuthi (by dsimp only;decide +kernel) rfl rfl (by omega)|exact p_fa (fo:=0) (by dsimp only;decide +kernel) rfl|exact p_fa (fo:=1) (by dsimp only;decide +kernel) rfl|exact p_fa (fo:=2) (by dsimp only;decide +kernel) rfl|exact p_fa (fo:=3) (by dsimp only;decide +kernel) rfl|exact Bo4 rfl))|refine Bo7 rfl rfl ?_|refine A1j rfl ?_|(apply Bhi rfl rfl (Blj rfl rfl run))|(refine Bp7 rfl rfl ?_ ?_<;>intro hc)|(refine Bp3 rfl rfl ?_ ?_<;>intro hc)|(refine Bqp rfl rfl ?_ ?_<;>intro hc)|(refine Bns rfl rfl ?_ ?_<;>intro hc)|(refine Bou rfl rfl ?_ ?_<;>intro hc)|(refine Bqx rfl rfl ?_ ?_<;>intro hc)|refine Awl rfl rfl ?_|refine Aw8 rfl rfl ?_|refine Awl rfl (Ze1 (by omega)) ?_|refine Aw8 rfl (Zd1 (by omega)) ?_|(refine Bh8 rfl ?_ ?_<;>intro hc)|(refine Bjq rfl ?_ ?_<;>intro hc)|(refine Bkp rfl ?_ ?_<;>intro hc)|(refine Bez rfl ?_ ?_<;>intro hc)|(refine Bid rfl ?_ ?_<;>intro hc)|(refine Zz rfl ?_ ?_<;>intro hc)|refine Boa rfl rfl ?_|refine Bl9 rfl rfl rfl ?_|refine Bne rfl rfl rfl rfl ?_)
 exact Blx rfl
def sib(l:Str) (c:Int):Int:=Lib.indexByte l c.toNat.toUInt8
def Bgr:FT [.str,.int .u8] [.int .i64]:=fun x=>some (sib x.1 x.2)
theorem Bky(l:Str) (c:Int) : -1≤sib l c∧sib l c<l.length+1:=by
 have:=Lp.indexByte_in l c.toNat.toUInt8
 simp only [sib]
 omega
theorem Bmd:FnOk Tryz.prog elT glT 174 [.str,.int .u8] [.int .i64] Bgr:=by
 refine FnOk.ofIs (Yx [] 0).enters rfl fun x r hx =>?_
 obtain⟨l,c⟩:=x
 simp only [Bgr,Za1] at hx
 subst hx
 refine⟨[Sx.S l,.int .u8 c],_,fun X vs h =>?_,Yx l c,fun X hb =>?_⟩
 ·simp only [De,D6,Reps,Rep] at h
  obtain⟨u,us,rfl,⟨rfl,_⟩,u2,us2,rfl,⟨rfl,_⟩,rfl⟩:=h
  rfl
 ·simp only [Rg,De,D6]
  have h:=Bky l c
  have hl:ln l.length:=hb.1
  refine Ff (A4g ?_)
  simp only [IntKind.min,IntKind.max,IntKind.signed,IntKind.bits,sib,ln] at *
  simp only [if_true]
  omega
def Y1(R:Type):Px R:=⟨Bd ttL,glT,Au [(174,As [.str,.int .u8] [.int .i64] Bgr)],Am [],Aw [],tbl []⟩
def Wh(x:HV [.str,.int .u8]):Option (HV [.int .i64]):=match x with
 |(l,c) =>
 some (sib l c)
theorem Bht:∀(x:HV [.str,.int .u8]),Cs (Y1 _) Tryz.f156 [.str,.int .u8] [.int .i64] x some=Wh x
 |(l,c)=>by kernel_rfl
theorem A7u:FnOk Tryz.prog elT glT 156 [.str,.int .u8] [.int .i64] (Wh):=by
 refine A3 Tryz.func156 rfl (by kernel_rfl) follows (by kernel_rfl) (n:=0) (by kernel_rfl) (px:=Y1 _) (fun cx hP hel hgl =>?_) (Bht)
 have hp0:PxOk cx (Y1 (HV [.int .i64])):=⟨fun t=>by rw [hP,hel];exact Av An t,by rw [hgl];rfl⟩
 have hc0:Al cx (Y1 (HV [.int .i64])):=Af rfl (Aa (A7 (by rw [hP,hel,hgl];exact Bmd) (by kernel_rfl)) Aj)
 have hq0:CallQOk cx (Y1 (HV [.int .i64])):=Ab rfl rfl Ah Ae
 exact⟨hp0,hc0,hq0,Ay⟩
def R3(l:Str) (c:Int):Int :=
 (sib l c)
theorem A9l(x:HV [.str,.int .u8]):Wh x=some (R3 x.1 x.2):=by
 first
  |exact rfl
  |simp only [Wh,R3,B7]
def Aj0:FT [.str,.int .u8] [.int .i64]:=fun x=>some (R3 x.1 x.2)
theorem Amw:FnOk Tryz.prog elT glT 156 [.str,.int .u8] [.int .i64] Aj0 :=.fin0 A7u fun x _ _ hx=>(A9l x).trans hx
def Zs(R:Type):Px R:=⟨Bd ttL,glT,Au [],Am [],Aw [],tbl []⟩
def Xf(x:HV [.int .u8]):Option (HV [.bool]):=match x with
 |c =>
 cond (decide (65≤c)) (
  some (decide (c≤90))) (
  some false)
theorem Bdq:∀(x:HV [.int .u8]),Cs (Zs _) Tryz.f177 [.int .u8] [.bool] x some=Xf x
 |c=>by kernel_rfl
theorem Bar:FnOk Tryz.prog elT glT 177 [.int .u8] [.bool] (Xf):=by
 refine A3 Tryz.func177 rfl (by kernel_rfl) follows (by kernel_rfl) (n:=0) (by kernel_rfl) (px:=Zs _) (fun cx hP hel hgl =>?_) (Bdq)
 have hp0:PxOk cx (Zs (HV [.bool])):=⟨fun t=>by rw [hP,hel];exact Av An t,by rw [hgl];rfl⟩
 have hc0:Al cx (Zs (HV [.bool])):=Af rfl Aj
 have hq0:CallQOk cx (Zs (HV [.bool])):=Ab rfl rfl Ah Ae
 exact⟨hp0,hc0,hq0,Ay⟩
def Ai0(c:Int):Bool :=
 cond (decide (65≤c)) (
  (decide (c≤90))) (
  false)
theorem A7t(x:HV [.int .u8]):Xf x=some (Ai0 x):=by
 first
  |exact rfl
  |simp only [Xf,Ai0,B7]
def Akb:FT [.int .u8] [.bool]:=fun x=>some (Ai0 x)
theorem Al1:FnOk Tryz.prog elT glT 177 [.int .u8] [.bool] Akb :=.fin0 Bar fun x _ _ hx=>(A7t x).trans hx
theorem Ala(c:Int):Ai0 c=Lp.isUp c:=by simp only [Ai0,Lp.isUp];cases decide (65≤c)<;>rfl
def Zl(R:Type):Px R:=⟨Bd ttL,glT,Au [(111,As [.int .u8] [.bool] Akd),(177,As [.int .u8] [.bool] Akb)],Am [],Aw [],tbl []⟩
def Wv(x:HV [.str,.int .i64]):Option (HV [.bool]):=match x with
 |(s,i) =>
 cond (decide (i=(s.length:Int))) (
  some true) (
  chk (inb i s.length) (
  cond (!(Ai8 (bat s i))) (
   chk (inb i s.length) (
   some (!(Ai0 (bat s i))))) (
   some false)))
theorem Bdx:∀(x:HV [.str,.int .i64]),Cs (Zl _) Tryz.f179 [.str,.int .i64] [.bool] x some=Wv x
 |(s,i)=>by kernel_rfl
theorem A9f:FnOk Tryz.prog elT glT 179 [.str,.int .i64] [.bool] (Wv):=by
 refine A3 Tryz.func179 rfl (by kernel_rfl) follows (by kernel_rfl) (n:=0) (by kernel_rfl) (px:=Zl _) (fun cx hP hel hgl =>?_) (Bdx)
 have hp0:PxOk cx (Zl (HV [.bool])):=⟨fun t=>by rw [hP,hel];exact Av An t,by rw [hgl];rfl⟩
 have hc0:Al cx (Zl (HV [.bool])):=Af rfl (Aa (A7 (by rw [hP,hel,hgl];exact Amh) (by kernel_rfl)) (Aa (A7 (by rw [hP,hel,hgl];exact Al1) (by kernel_rfl)) Aj))
 have hq0:CallQOk cx (Zl (HV [.bool])):=Ab rfl rfl Ah Ae
 exact⟨hp0,hc0,hq0,Ay⟩
def Ack(s:Str) (i:Int):Option Bool:=if 0≤i∧i≤s.length then some (Lp.aloneF s i) else none
def Asc:FT [.str,.int .i64] [.bool]:=fun x=>Ack x.1 x.2
theorem Bks(a b:Int):(a == b)=decide (a=b):=rfl
theorem Bkf(s:Str) (i:Int) (h : 0≤i∧i≤s.length):Wv (s,i)=some (Lp.aloneF s i):=by
 simp only [Wv,Lp.aloneF,Amb,Ala,Bks]
 by_cases he:i=s.length
 ·rw [Ze1 he];rfl
 ·rw [Zd1 he,Avu (by omega)]
  show cond (!Lp.isIn (bat s i)) (some (!Lp.isUp (bat s i))) (some false)=some (!Lp.isIn (bat s i) && !Lp.isUp (bat s i))
  cases Lp.isIn (bat s i)<;>rfl
theorem Bdf:FnOk Tryz.prog elT glT 179 [.str,.int .i64] [.bool] Asc :=.fin0 A9f fun(s,i) r hb hx=>by
 simp only [Asc,Ack] at hx
 split at hx
 ·rename_i h
  exact(Bkf s i h).trans hx
 ·cases hx
def Zc:Sig:=⟨46,[(0,.str),(2,.int .i64),(3,.bool),(4,.int .i64),(11,.int .i64),(12,.int .i64)],[],[],0,0,0,[],[]⟩
abbrev Iy:=Str×Int×Bool×Int×Int×Int
def Rc{R:Type}(rec:Iy→Option R) (kx:Ex→Iy→Option R) (v:Iy):Option R:=match v with
 |(v,v1,v2,v3,v4,v5) =>
 cond (decide (v5<v4)) (
  chk (inb v5 v.length) (
  cond (!decide ((Axb v3 10).2=0)) (
   kx .ret (v,0,false,v3,v4,v5)) (
   cond (!decide ((Ay5 ((Axb v3 10).1) (wr .i64 (wr .u8 ((bat v v5)-48)))).2=0)) (
   kx .ret (v,0,false,v3,v4,v5)) (
   rec (v,v1,v2,(Ay5 ((Axb v3 10).1) (wr .i64 (wr .u8 ((bat v v5)-48)))).1,v4,(wr .i64 (v5+1))))))) (
  kx (.exit 0) (v,v1,v2,v3,v4,v5))
def Lr(R:Type) (k:Nat):Px R:=⟨Bd ttL,glT,Au [(194,As [.int .i64,.int .i64] [.int .i64,.int .i64] Bch),(195,As [.int .i64,.int .i64] [.int .i64,.int .i64] Bh0)],Am [],Aw [(3,Be k Zc (Rc))],tbl []⟩
theorem Axp(R:Type) (k:Nat):∀(fr:List Fr) (rec:Iy→Option R) (kx:Ex→Iy→Option R) (v:Iy),Bn (Lr R k) Zc (lp Tryz.f180 0) fr rec kx v=Rc rec kx v
 |fr,rec,kx,(v,v1,v2,v3,v4,v5)=>by kernel_rfl
def Aao(k:Nat) (x:HV [.str]):Option (HV [.int .i64,.bool]):=match x with
 |s =>
 A0 (fun rec=>Rc rec (fun e vz=>match vz with|(v6,v7,v8,v9,_,_)=>match e with
  |.ret =>
  some (v7,v8)
  |.exit 0 =>
  cond (decide (v6=[48])) (
   some (v9,true)) (
   chk (inb 0 v6.length) (
   some (v9, !decide ((bat v6 0)=48))))
  |_=>none)) k (s,0,false,0,(s.length:Int),0)
theorem Bai(k:Nat):∀(x:HV [.str]),Cs (Lr _ k) Tryz.f180 [.str] [.int .i64,.bool] x some=Aao k x
 |s=>by kernel_rfl
theorem A27(k:Nat):FnOk Tryz.prog elT glT 180 [.str] [.int .i64,.bool] (Aao k):=by
 refine A3 Tryz.func180 rfl (by kernel_rfl) follows (by kernel_rfl) (n:=1) (by kernel_rfl) (px:=Lr _ k) (fun cx hP hel hgl =>?_) (Bai k)
 have hp0:PxOk cx (Lr (HV [.int .i64,.bool]) k):=⟨fun t=>by rw [hP,hel];exact Av An t,by rw [hgl];rfl⟩
 have hc0:Al cx (Lr (HV [.int .i64,.bool]) k):=Af rfl (Aa (A7 (by rw [hP,hel,hgl];exact Bk1) (by kernel_rfl)) (Aa (A7 (by rw [hP,hel,hgl];exact Bji) (by kernel_rfl)) Aj))
 have hq0:CallQOk cx (Lr (HV [.int .i64,.bool]) k):=Ab rfl rfl Ah Ae
 have hlnumber_0:A8 cx (Lr (HV [.int .i64,.bool]) k) (lp Tryz.f180 0):=Ba hp0 hc0 hq0 (by rw [hP];exact follows) (k:=k) (s:=Zc) (step:=Rc) (fun _ _=>by kernel_rfl) (by kernel_rfl) (Axp _ k) (Az (n:=0) (by kernel_rfl) Ay)
 exact⟨hp0,hc0,hq0,(Cj Ay hlnumber_0)⟩
def Bgz(s:Str):Int×Bool:=match Lp.numGo s 0 with
 |some n=>(n,decide (s=[48]) || !decide (bat s 0=48))
 |none=>(0,false)
def Aro(s:Str):Option (Int×Bool):=match s with
 |[]=>none
 |_=>some (Bgz s)
def Al2:FT [.str] [.int .i64,.bool]:=fun x=>Aro x
theorem Ajo{R:Type}{kx:Ex→Iy→Option R}{s:Str}{c:Option Int→Option R}(hs:ln s.length) (h1:∀n j,kx .ret (s,0,false,n,(s.length:Int),j)=c none) (h2:∀q r n j,kx (.exit 0) (s,q,r,n,(s.length:Int),j)=c (some n)):∀(k i:Nat) (q:Int) (r:Bool) (n:Int),inI n→i≤s.length→s.length-i<k→A0 (fun rec=>Rc rec kx) k (s,q,r,n,(s.length:Int),(i:Int))=c (Lp.numGo (s.drop i) n)
 |0,i,q,r,n,_,_,h=>absurd h (Zm1 _)
 |k+1,i,q,r,n,hn,hi,h=>by
  rw [Br]
  by_cases hl:i<s.length
  ·have hd:=Lp.inI_dg (s[i].toNat:Int)
   have e10:inI (10:Int):=by simp only [inI];omega
   have em:=Bor hn e10
   simp only [Rc,Bl hl,D8 hl,em]
   rw [Ze1 (show(i:Int)<(s.length:Int) by omega),Bb hl]
   simp only [Ai,chk,Lp.numGo]
   by_cases hm:inI (n*10)
   ·have hm':=hm
    simp only [inI] at hm'
    have ef:Ad5 (n*10)=(n*10,0):=by rw [Ad5,if_pos hm']
    have ea:=Bm7 hm (show inI (wr .i64 (wr .u8 ((s[i].toNat:Int)-48))) from hd)
    simp only [ef,ea]
    by_cases hf:inI (n*10+Lp.dg (s[i].toNat:Int))
    ·have hf':=hf
     simp only [inI] at hf'
     have eg:Ad5 (n*10+wr .i64 (wr .u8 ((s[i].toNat:Int)-48)))=(n*10+Lp.dg (s[i].toNat:Int),0):=by
      have hf2 : -9223372036854775808≤n*10+wr .i64 (wr .u8 ((s[i].toNat:Int)-48))∧n*10+wr .i64 (wr .u8 ((s[i].toNat:Int)-48))≤9223372036854775807:=hf'
      rw [Ad5,if_pos hf2];rfl
     rw [eg,if_pos (show Lp.inI _∧Lp.inI _ from⟨hm,hf⟩)]
     have ih:=Ajo hs h1 h2 k (i+1) q r (n*10+Lp.dg (s[i].toNat:Int)) hf (by omega) (by omega)
     rw [Bf hl hs]
     exact ih
    ·have hf':=hf
     simp only [inI] at hf'
     have eg:Ad5 (n*10+wr .i64 (wr .u8 ((s[i].toNat:Int)-48)))=(0,20):=by
      have hf2:¬(-9223372036854775808≤n*10+wr .i64 (wr .u8 ((s[i].toNat:Int)-48))∧n*10+wr .i64 (wr .u8 ((s[i].toNat:Int)-48))≤9223372036854775807):=hf'
      rw [Ad5,if_neg hf2]
     rw [eg,if_neg (fun h=>hf h.2)]
     exact h1 _ _
   ·have hm':=hm
    simp only [inI] at hm'
    have ef:Ad5 (n*10)=(0,20):=by rw [Ad5,if_neg hm']
    rw [if_neg (fun h=>hm h.1)]
    simp only [ef]
    exact h1 _ _
  ·simp only [Rc,h2]
   rw [Zd1 (by omega),Zk1 (by omega)]
   rfl
theorem A9o:FnOk Tryz.prog elT glT 180 [.str] [.int .i64,.bool] Al2 :=.fin 0 A27 fun s r hb hx=>⟨s.length+1,by
 simp only [Al2] at hx
 cases s with
 |nil=>cases hx
 |cons b l =>
  have hx:some (Bgz (b::l))=some r:=hx
  rw [←hx]
  simp only [Aao]
  refine(Ajo (s:=b::l) (c:=fun o=>match o with|some n=>some (n,decide (b::l=[48]) || !decide (bat (b::l) 0=48))|none=>some (0,false)) hb (fun _ _=>rfl) (fun _ _ n _ =>?_) ((b::l).length+1) 0 0 false 0 (by simp [inI]) (Nat.zero_le _) (by omega)).trans ?_
  ·show cond (decide (b::l=[48])) (some (n,true)) (chk (inb 0 (b::l).length) (some (n, !decide (bat (b::l) 0=48))))=_
   rw [Avu (by simp only [Zf1];omega)]
   cases decide (b::l=[48])<;>rfl
  ·simp only [Zq1,Bgz]
   cases Lp.numGo (b::l) 0<;>rfl⟩
def Yp:Sig:=⟨40,[(0,.str),(4,.str),(5,.int .i64),(6,.sl .byte true),(7,.int .i64)],[],[],0,0,0,[],[]⟩
abbrev Ii:=Str×Str×Int×List UInt8×Int
def Ps{R:Type}(rec:Ii→Option R) (kx:Ex→Ii→Option R) (v:Ii):Option R:=match v with
 |(v,v1,v2,v3,v4) =>
 cond (decide (v4<(v.length:Int))) (
  chk (inb v4 v.length) (
  cond (decide ((bat v v4)=39)) (
   cond (decide ((wr .i64 (v4+1))=(v.length:Int))) (
   kx .ret (v,v3,(wr .i64 (v4+1)),v3,(wr .i64 (v4+1)))) (
   chk (inb (wr .i64 (v4+1)) v.length) (
    cond (!decide ((bat v (wr .i64 (v4+1)))=39)) (
    kx .ret (v,v3,(wr .i64 (v4+1)),v3,(wr .i64 (v4+1)))) (
    chk (inb (wr .i64 (v4+1)) v.length) (
     chk (decide (v3.length+1≤A1)) (
     rec (v,v1,v2,(v3++[(UInt8.ofNat ((bat v (wr .i64 (v4+1))):Int).toNat)]),(wr .i64 ((wr .i64 (v4+1))+1))))))))) (
   chk (inb v4 v.length) (
   chk (decide (v3.length+1≤A1)) (
    rec (v,v1,v2,(v3++[(UInt8.ofNat ((bat v v4):Int).toNat)]),(wr .i64 (v4+1)))))))) (
  kx (.exit 0) (v,v1,v2,v3,v4))
def Lt(R:Type) (k:Nat):Px R:=⟨Bd ttL,glT,Au [],Am [],Aw [(3,Be k Yp (Ps))],tbl []⟩
theorem Ax0(R:Type) (k:Nat):∀(fr:List Fr) (rec:Ii→Option R) (kx:Ex→Ii→Option R) (v:Ii),Bn (Lt R k) Yp (lp Tryz.f181 0) fr rec kx v=Ps rec kx v
 |fr,rec,kx,(v,v1,v2,v3,v4)=>by kernel_rfl
def X5(k:Nat) (x:HV [.str,.int .i64]):Option (HV [.str,.int .i64]):=match x with
 |(s,i) =>
 A0 (fun rec=>Ps rec (fun e vz=>match vz with|(_,v6,v7,_,_)=>match e with
  |.ret =>
  some (v6,v7)
  |.exit 0 =>
  some ([],(-1))
  |_=>none)) k (s,[],0,[],i)
theorem A79(k:Nat):∀(x:HV [.str,.int .i64]),Cs (Lt _ k) Tryz.f181 [.str,.int .i64] [.str,.int .i64] x some=X5 k x
 |(s,i)=>by kernel_rfl
theorem A0n(k:Nat):FnOk Tryz.prog elT glT 181 [.str,.int .i64] [.str,.int .i64] (X5 k):=by
 refine A3 Tryz.func181 rfl (by kernel_rfl) follows (by kernel_rfl) (n:=1) (by kernel_rfl) (px:=Lt _ k) (fun cx hP hel hgl =>?_) (A79 k)
 have hp0:PxOk cx (Lt (HV [.str,.int .i64]) k):=⟨fun t=>by rw [hP,hel];exact Av An t,by rw [hgl];rfl⟩
 have hc0:Al cx (Lt (HV [.str,.int .i64]) k):=Af rfl Aj
 have hq0:CallQOk cx (Lt (HV [.str,.int .i64]) k):=Ab rfl rfl Ah Ae
 have hlquoted_0:A8 cx (Lt (HV [.str,.int .i64]) k) (lp Tryz.f181 0):=Ba hp0 hc0 hq0 (by rw [hP];exact follows) (k:=k) (s:=Yp) (step:=Ps) (fun _ _=>by kernel_rfl) (by kernel_rfl) (Ax0 _ k) (Az (n:=0) (by kernel_rfl) Ay)
 exact⟨hp0,hc0,hq0,(Cj Ay hlquoted_0)⟩
def Auj(s:Str) (i:Int):Option (Str×Int):=if 0≤i∧i≤s.length∧s.length≤1000000 then some (Lp.qGo (s.drop i.toNat) [] i) else none
def Aku:FT [.str,.int .i64] [.str,.int .i64]:=fun x=>Auj x.1 x.2
theorem Ani(b:UInt8):UInt8.ofNat ((b.toNat:Int)).toNat=b:=by simp
theorem Xw{R:Type}{kx:Ex→Ii→Option R}{s:Str}{c:Str×Int→Option R}(hs:s.length≤1000000) (h1:∀a j,kx .ret (s,a,j,a,j)=c (a,j)) (h2:∀q r a j,kx (.exit 0) (s,q,r,a,j)=c ([], -1)):∀(k i:Nat) (q:Str) (r:Int) (a:Str),a.length≤i→i≤s.length→s.length-i<k→A0 (fun rec=>Ps rec kx) k (s,q,r,a,(i:Int))=c (Lp.qGo (s.drop (i:Int).toNat) a i)
 |0,i,q,r,a,_,_,h=>absurd h (Zm1 _)
 |k+1,i,q,r,a,ha,hi,h=>by
  rw [Br]
  by_cases hl:i<s.length
  ·have hln:ln s.length:=by simp only [ln];omega
   have ea:decide (a.length+1≤A1)=true:=Ze1 (by simp only [A1];omega)
   have eb:Sx.byt s (i:Int)=(s[i].toNat:Int):=D8 hl
   simp only [Ps,Bl hl,Bf hl hln,D8 hl,ea,Ani]
   rw [Ze1 (show(i:Int)<(s.length:Int) by omega)]
   simp only [Ai,chk]
   by_cases h39:(s[i].toNat:Int)=39
   ·rw [Ze1 h39,Ai]
    by_cases he:i+1=s.length
    ·rw [Ze1 (show((i+1:Nat):Int)=(s.length:Int) by omega),Ai,h1,Lp.q_last (by omega) (by omega) (eb.trans h39)]
     rfl
    ·have hl2:i+1<s.length:=by omega
     have eb2:Sx.byt s ((i:Int)+1)=(s[i+1].toNat:Int):=D8 hl2
     rw [Zd1 (show ¬((i+1:Nat):Int)=(s.length:Int) by omega),Bl hl2,Ak]
     simp only [Ai,D8 hl2,Ani]
     by_cases h3:(s[i+1].toNat:Int)=39
     ·have ih:=Xw hs h1 h2 k (i+1+1) q r (a++[s[i+1]]) (by simp only [Zh1,Zf1,Zi1];omega) (by omega) (by omega)
      have e39:s[i+1]=39:=by rw [←UInt8.toNat_inj];exact Int.ofNat.inj h3
      rw [Ze1 h3,Lp.q_two (by omega) (by omega) (eb.trans h39) (eb2.trans h3),Bf hl2 hln]
      simp only [Zt1,Ak]
      rw [ih,e39]
      rfl
     ·rw [Zd1 h3,Lp.q_close (by omega) (by omega) (eb.trans h39) (fun e=>h3 (eb2.symm.trans e))]
      simp only [Zs1,Ai,h1]
      rfl
   ·have ih:=Xw hs h1 h2 k (i+1) q r (a++[s[i]]) (by simp only [Zh1,Zf1,Zi1];omega) (by omega) (by omega)
    rw [Zd1 h39,Ak,ih,Lp.q_other (by omega) (by omega) (fun e=>h39 (eb.symm.trans e))]
    have eg:s.getD (i:Int).toNat 0=s[i]:=by simp [List.getD_eq_getElem?_getD,hl]
    rw [eg]
    rfl
  ·simp only [Ps,h2]
   rw [Zd1 (by omega),Lp.q_end (by omega)]
   rfl
theorem A91:FnOk Tryz.prog elT glT 181 [.str,.int .i64] [.str,.int .i64] Aku :=.fin 0 A0n fun(s,i) r hb hx=>⟨s.length+1,by
 simp only [Aku,Auj] at hx
 split at hx
 ·rename_i h
  rw [←hx]
  obtain⟨n,rfl⟩:=Int.eq_ofNat_of_zero_le h.1
  simp only [X5]
  exact Xw (c:=some) h.2.2 (fun _ _=>rfl) (fun _ _ _ _=>rfl) (s.length+1) n [] 0 [] (Nat.zero_le _) (by omega) (by omega)
 ·cases hx⟩
def Aea:Sig:=⟨19,[(0,.str),(2,.int .i64),(5,.sl .str true),(6,.int .i64),(7,.int .i64)],[],[],0,0,0,[],[]⟩
abbrev Ol:=Str×Int×List Str×Int×Int
def Akk{R:Type}(rec:Ol→Option R) (kx:Ex→Ol→Option R) (v:Ol):Option R:=match v with
 |(v,v1,v2,v3,v4) =>
 cond (decide (v4<v3)) (
  chk (inb v4 v2.length) (
  cond ((hpre v (at' .str v2 v4))) (
   kx .ret (v,2,v2,v3,v4)) (
   rec (v,v1,v2,v3,(wr .i64 (v4+1)))))) (
  kx (.exit 0) (v,v1,v2,v3,v4))
def Pn(R:Type) (k:Nat):Px R:=⟨Bd ttL,glT,Au [(175,As [.str,.str] [.bool] Ay3),(156,As [.str,.int .u8] [.int .i64] Aj0)],Am [],Aw [(2,Be k Aea (Akk))],tbl []⟩
theorem A1m(R:Type) (k:Nat):∀(fr:List Fr) (rec:Ol→Option R) (kx:Ex→Ol→Option R) (v:Ol),Bn (Pn R k) Aea (lp Tryz.f182 0) fr rec kx v=Akk rec kx v
 |fr,rec,kx,(v,v1,v2,v3,v4)=>by kernel_rfl
def Adm(k:Nat) (x:HV [.str]):Option (HV [.int .i64]):=match x with
 |s =>
 A0 (fun rec=>Akk rec (fun e vz=>match vz with|(v5,v6,_,_,_)=>match e with
  |.ret =>
  some v6
  |.exit 0 =>
  chk (inb 0 v5.length) (
   cond (decide (0≤(R3 [40,41,44,42,61,60,62,43,45,59] (bat v5 0)))) (
   some 1) (
   some 0))
  |_=>none)) k (s,0,[[60,62],[60,61],[62,61]],3,0)
theorem Bek(k:Nat):∀(x:HV [.str]),Cs (Pn _ k) Tryz.f182 [.str] [.int .i64] x some=Adm k x
 |s=>by kernel_rfl
theorem A8m(k:Nat):FnOk Tryz.prog elT glT 182 [.str] [.int .i64] (Adm k):=by
 refine A3 Tryz.func182 rfl (by kernel_rfl) follows (by kernel_rfl) (n:=1) (by kernel_rfl) (px:=Pn _ k) (fun cx hP hel hgl =>?_) (Bek k)
 have hp0:PxOk cx (Pn (HV [.int .i64]) k):=⟨fun t=>by rw [hP,hel];exact Av An t,by rw [hgl];rfl⟩
 have hc0:Al cx (Pn (HV [.int .i64]) k):=Af rfl (Aa (A7 (by rw [hP,hel,hgl];exact A37) (by kernel_rfl)) (Aa (A7 (by rw [hP,hel,hgl];exact Amw) (by kernel_rfl)) Aj))
 have hq0:CallQOk cx (Pn (HV [.int .i64]) k):=Ab rfl rfl Ah Ae
 have hllsign_0:A8 cx (Pn (HV [.int .i64]) k) (lp Tryz.f182 0):=Ba hp0 hc0 hq0 (by rw [hP];exact follows) (k:=k) (s:=Aea) (step:=Akk) (fun _ _=>by kernel_rfl) (by kernel_rfl) (A1m _ k) (Az (n:=0) (by kernel_rfl) Ay)
 exact⟨hp0,hc0,hq0,(Cj Ay hllsign_0)⟩
def Bed(s:Str):Option Int:=match s with
 |[]=>none
 |_=>some (Lp.signF s)
def Ash:FT [.str] [.int .i64]:=fun x=>Bed x
theorem Bhf:FnOk Tryz.prog elT glT 182 [.str] [.int .i64] Ash :=.fin 0 A8m fun s r hb hx=>⟨4,by
 simp only [Ash] at hx
 cases s with
 |nil=>cases hx
 |cons b l =>
  have hx:some (Lp.signF (b::l))=some r:=hx
  rw [←hx]
  have e0:inb 0 (b::l).length=true:=Avu (by simp only [Zf1];omega)
  have e1:hpre (b::l) [60,62]=Lp.pre (b::l) [60,62]:=rfl
  have e2:hpre (b::l) [60,61]=Lp.pre (b::l) [60,61]:=rfl
  have e3:hpre (b::l) [62,61]=Lp.pre (b::l) [62,61]:=rfl
  have ei:R3 [40,41,44,42,61,60,62,43,45,59] (bat (b::l) 0)=Lib.indexByte Lp.signs (Sx.byt (b::l) 0).toNat.toUInt8:=rfl
  simp only [Adm,Lp.signF,←ei,←e1,←e2,←e3]
  show cond (hpre (b::l) [60,62]) (some 2) (cond (hpre (b::l) [60,61]) (some 2) (cond (hpre (b::l) [62,61]) (some 2) (chk (inb 0 (b::l).length) (cond (decide (0≤R3 [40,41,44,42,61,60,62,43,45,59] (bat (b::l) 0))) (some 1) (some 0)))))=_
  generalize R3 [40,41,44,42,61,60,62,43,45,59] (bat (b::l) 0)=z
  rw [e0]
  by_cases hz : 0≤z
  ·rw [Ze1 hz,if_pos hz]
   cases hpre (b::l) [60,62]<;>cases hpre (b::l) [60,61]<;>cases hpre (b::l) [62,61]<;>rfl
  ·rw [Zd1 hz,if_neg hz]
   cases hpre (b::l) [60,62]<;>cases hpre (b::l) [60,61]<;>cases hpre (b::l) [62,61]<;>rfl⟩
def U3(R:Type):Px R:=⟨Bd ttL,glT,Au [],Am [],Aw [],tbl []⟩
def Sa(x:HV [.int .u8]):Option (HV [.int .u8,.bool]):=match x with
 |c =>
 let j:=fun(p1:Bool) =>
  cond (p1) (
  some ((wr .u8 (c-48)),true)) (
  cond (decide (97≤c)) (
   cond (decide (c≤102)) (
   some ((wr .u8 ((wr .u8 (c-97))+10)),true)) (
   some (0,false))) (
   some (0,false)))
 cond (decide (48≤c)) (
  j (decide (c≤57))) (
  j false)
theorem A6p:∀(x:HV [.int .u8]),Cs (U3 _) Tryz.f193 [.int .u8] [.int .u8,.bool] x some=Sa x
 |c=>by kernel_rfl
theorem A10:FnOk Tryz.prog elT glT 193 [.int .u8] [.int .u8,.bool] (Sa):=by
 refine A3 Tryz.func193 rfl (by kernel_rfl) follows (by kernel_rfl) (n:=0) (by kernel_rfl) (px:=U3 _) (fun cx hP hel hgl =>?_) (A6p)
 have hp0:PxOk cx (U3 (HV [.int .u8,.bool])):=⟨fun t=>by rw [hP,hel];exact Av An t,by rw [hgl];rfl⟩
 have hc0:Al cx (U3 (HV [.int .u8,.bool])):=Af rfl Aj
 have hq0:CallQOk cx (U3 (HV [.int .u8,.bool])):=Ab rfl rfl Ah Ae
 exact⟨hp0,hc0,hq0,Ay⟩
def Vg(c:Int):Int×Bool :=
 let j:=fun(p1:Bool) =>
  cond (p1) (
  ((wr .u8 (c-48)),true)) (
  cond (decide (97≤c)) (
   cond (decide (c≤102)) (
   ((wr .u8 ((wr .u8 (c-97))+10)),true)) (
   (0,false))) (
   (0,false)))
 cond (decide (48≤c)) (
  j (decide (c≤57))) (
  j false)
theorem Azq(x:HV [.int .u8]):Sa x=some (Vg x):=by
 first
  |exact rfl
  |simp only [Sa,Vg,B7]
def Ax1:FT [.int .u8] [.int .u8,.bool]:=fun x=>some (Vg x)
theorem A96:FnOk Tryz.prog elT glT 193 [.int .u8] [.int .u8,.bool] Ax1 :=.fin0 A10 fun x _ _ hx=>(Azq x).trans hx
def Boj(c:Int):Int×Bool:=match Lp.hexD c with
 |some n=>(n,true)
 |none=>(0,false)
theorem Azn:((List.range 256).all fun n=>decide (Vg (n:Int)=Boj (n:Int)))=true:=by kernel_rfl
theorem A90(b:UInt8):Vg (b.toNat:Int)=Boj (b.toNat:Int):=by
 have h:=Zg2.1 Azn b.toNat (List.mem_range.2 b.toNat_lt)
 exact of_decide_eq_true h
def Aek:Sig:=⟨49,[(0,.str),(2,.sl .byte true),(3,.int .i64),(4,.sl .byte true),(5,.int .i64)],[],[],0,0,0,[],[]⟩
abbrev L7:=Str×List UInt8×Int×List UInt8×Int
def Wn{R:Type}(rec:L7→Option R) (kx:Ex→L7→Option R) (v:L7):Option R:=match v with
 |(v,v1,v2,v3,v4) =>
 cond (decide (v4<(v.length:Int))) (
  chk (inb v4 v.length) (
  chk (inb (wr .i64 (v4+1)) v.length) (
   cond (!((Vg (bat v v4)).2)) (
   kx .ret (v,[],11,v3,v4)) (
   cond (!((Vg (bat v (wr .i64 (v4+1)))).2)) (
    kx .ret (v,[],11,v3,v4)) (
    chk (decide (v3.length+1≤A1)) (
    rec (v,v1,v2,(v3++[(UInt8.ofNat ((ior .u8 (Bmx .u8 ((Vg (bat v v4)).1) 4) ((Vg (bat v (wr .i64 (v4+1)))).1)):Int).toNat)]),(wr .i64 (v4+2))))))))) (
  kx (.exit 0) (v,v1,v2,v3,v4))
def Pz(R:Type) (k:Nat):Px R:=⟨Bd ttL,glT,Au [(193,As [.int .u8] [.int .u8,.bool] Ax1)],Am [],Aw [(5,Be k Aek (Wn))],tbl []⟩
theorem A0u(R:Type) (k:Nat):∀(fr:List Fr) (rec:L7→Option R) (kx:Ex→L7→Option R) (v:L7),Bn (Pz R k) Aek (lp Tryz.f176 0) fr rec kx v=Wn rec kx v
 |fr,rec,kx,(v,v1,v2,v3,v4)=>by kernel_rfl
def Adc(k:Nat) (x:HV [.str]):Option (HV [.sl .byte true,.int .i64]):=match x with
 |s =>
 cond (!decide ((Int.tmod (s.length:Int) 2)=0)) (
  some ([],11)) (
  A0 (fun rec=>Wn rec (fun e vz=>match vz with|(_,v6,v7,v8,_)=>match e with
  |.ret =>
   some (v6,v7)
  |.exit 0 =>
   some (v8,0)
  |_=>none)) k (s,[],0,[],0))
theorem Bcb(k:Nat):∀(x:HV [.str]),Cs (Pz _ k) Tryz.f176 [.str] [.sl .byte true,.int .i64] x some=Adc k x
 |s=>by kernel_rfl
theorem A6s(k:Nat):FnOk Tryz.prog elT glT 176 [.str] [.sl .byte true,.int .i64] (Adc k):=by
 refine A3 Tryz.func176 rfl (by kernel_rfl) follows (by kernel_rfl) (n:=1) (by kernel_rfl) (px:=Pz _ k) (fun cx hP hel hgl =>?_) (Bcb k)
 have hp0:PxOk cx (Pz (HV [.sl .byte true,.int .i64]) k):=⟨fun t=>by rw [hP,hel];exact Av An t,by rw [hgl];rfl⟩
 have hc0:Al cx (Pz (HV [.sl .byte true,.int .i64]) k):=Af rfl (Aa (A7 (by rw [hP,hel,hgl];exact A96) (by kernel_rfl)) Aj)
 have hq0:CallQOk cx (Pz (HV [.sl .byte true,.int .i64]) k):=Ab rfl rfl Ah Ae
 have hlunhex_0:A8 cx (Pz (HV [.sl .byte true,.int .i64]) k) (lp Tryz.f176 0):=Ba hp0 hc0 hq0 (by rw [hP];exact follows) (k:=k) (s:=Aek) (step:=Wn) (fun _ _=>by kernel_rfl) (by kernel_rfl) (A0u _ k) (Az (n:=0) (by kernel_rfl) Ay)
 exact⟨hp0,hc0,hq0,(Cj Ay hlunhex_0)⟩
def unP(s:Str):Str×Int:=match(if s.length % 2=0 then Lp.unGo s [] else none) with
 |some b=>(b,0)
 |none=>([],11)
def A3p(s:Str):Option (Str×Int):=if s.length≤1000000 then some (unP s) else none
def Arv:FT [.str] [.sl .byte true,.int .i64]:=fun x=>A3p x
theorem Ant{R:Type}{kx:Ex→L7→Option R}{s:Str}{c:Option Str→Option R}(hs:s.length≤1000000) (h1:∀a j,kx .ret (s,[],11,a,j)=c none) (h2:∀q r a j,kx (.exit 0) (s,q,r,a,j)=c (some a)):∀(k i:Nat) (q:Str) (r:Int) (a:Str),a.length≤i→i≤s.length→(s.length-i) % 2=0→s.length-i<k→A0 (fun rec=>Wn rec kx) k (s,q,r,a,(i:Int))=c (Lp.unGo (s.drop (i:Int).toNat) a)
 |0,i,q,r,a,_,_,_,h=>absurd h (Zm1 _)
 |k+1,i,q,r,a,ha,hi,hev,h=>by
  rw [Br]
  by_cases hl:i<s.length
  ·have hl2:i+1<s.length:=by omega
   have hln:ln s.length:=by simp only [ln];omega
   have ea:decide (a.length+1≤A1)=true:=Ze1 (by simp only [A1];omega)
   have eb:Sx.byt s (i:Int)=(s[i].toNat:Int):=D8 hl
   have eb2:Sx.byt s ((i:Int)+1)=(s[i+1].toNat:Int):=D8 hl2
   have ew:wr .i64 ((i:Int)+2)=((i+1+1:Nat):Int):=by rw [Jt (by simp only [inI];omega)];omega
   simp only [Wn,Bl hl,Bf hl hln,D8 hl,D8 hl2,Bl hl2,ea,ew,A90]
   rw [Ze1 (show(i:Int)<(s.length:Int) by omega),Lp.un_step (by omega) (by omega),eb,eb2]
   simp only [Ai,chk,Boj]
   cases hx:Lp.hexD (s[i].toNat:Int) with
   |none=>exact h1 _ _
   |some x =>
    cases hy:Lp.hexD (s[i+1].toNat:Int) with
    |none=>exact h1 _ _
    |some y =>
     have ih:=Ant hs h1 h2 k (i+1+1) q r (a++[UInt8.ofNat (x*16+y).toNat]) (by simp only [Zh1,Zf1,Zi1];omega) (by omega) (by omega) (by omega)
     have ej:ior .u8 (Bmx .u8 x 4) y=_:=Lp.joinhex' (Lp.hexD_lt hx) (Lp.hexD_lt hy)
     simp only [Zt1,Ak,ej,Ani]
     exact ih
  ·simp only [Wn,h2]
   rw [Zd1 (by omega),Zk1 (by omega)]
   rfl
theorem Bcy:FnOk Tryz.prog elT glT 176 [.str] [.sl .byte true,.int .i64] Arv :=.fin 0 A6s fun s r hb hx=>⟨s.length+1,by
 simp only [Arv,A3p] at hx
 split at hx
 ·rename_i h
  rw [←hx]
  have et:Int.tmod (s.length:Int) 2=((s.length % 2:Nat):Int):=rfl
  simp only [Adc,et,unP]
  by_cases h2:s.length % 2=0
  ·rw [Ze1 (show((s.length % 2:Nat):Int)=0 by omega),if_pos h2,Zt1,Ak]
   refine(Ant (c:=fun o=>match o with|some b=>some (b,(0:Int))|none=>some ([],11)) h (fun _ _ =>?_) (fun _ _ _ _ =>?_) (s.length+1) 0 [] 0 [] (Nat.zero_le _) (Nat.zero_le _) h2 (by omega)).trans ?_
   ·rfl
   ·rfl
   simp only [Int.toNat_natCast,Zq1]
   cases Lp.unGo s []<;>rfl
  ·rw [Zd1 (show ¬((s.length % 2:Nat):Int)=0 by omega),if_neg h2]
   rfl
 ·cases hx⟩
end Go.Proofs.YthndhaolemgbdaaGreatDoor
namespace Go.Proofs.YthndhaolemgbdaaGreatDoor
open Go.Ax
def X9(R:Type):Px R:=⟨Bd ttL,glT,Au [(44,As [.sl .str false,.str] [.bool] Ay8)],Am [],Aw [],tbl []⟩
def Xc(x:HV [.str]):Option (HV [.bool]):=match x with
 |s =>
 some (Au1 wordsL s)
theorem Bbp:∀(x:HV [.str]),Cs (X9 _) Tryz.f178 [.str] [.bool] x some=Xc x
 |s=>by kernel_rfl
theorem A7e:FnOk Tryz.prog elT glT 178 [.str] [.bool] (Xc):=by
 refine A3 Tryz.func178 rfl (by kernel_rfl) follows (by kernel_rfl) (n:=0) (by kernel_rfl) (px:=X9 _) (fun cx hP hel hgl =>?_) (Bbp)
 have hp0:PxOk cx (X9 (HV [.bool])):=⟨fun t=>by rw [hP,hel];exact Av An t,by rw [hgl];rfl⟩
 have hc0:Al cx (X9 (HV [.bool])):=Af rfl (Aa (A7 (by rw [hP,hel,hgl];exact A4r) (by kernel_rfl)) Aj)
 have hq0:CallQOk cx (X9 (HV [.bool])):=Ab rfl rfl Ah Ae
 exact⟨hp0,hc0,hq0,Ay⟩
def Ap9(s:Str):Bool :=
 (Au1 wordsL s)
theorem A7c(x:HV [.str]):Xc x=some (Ap9 x):=by
 first
  |exact rfl
  |simp only [Xc,Ap9,B7]
def A52:FT [.str] [.bool]:=fun x=>some (Ap9 x)
theorem Bbq:FnOk Tryz.prog elT glT 178 [.str] [.bool] A52 :=.fin0 A7e fun x _ _ hx=>(A7c x).trans hx
theorem Bhm(s:Str):Ap9 s=Lp.wordF s:=A6f wordsL s
end Go.Proofs.YthndhaolemgbdaaGreatDoor
