/- Texts of the proof,one behind the other: Fk,Fd,Es,Ix,En,Ep,Ac,Ad,Sc,No,So,Sd,Se,Lx,Ly,Lz,Pg. -/
import Derived.Test.YtblaahgjaopdnaaGreatDoorZZ5
set_option linter.all false
namespace Go.Proofs.YtblaahgjaopdnaaGreatDoor
open Go.Ax
def Bqt(R:Type):Px R:=pxO [] [] [] []
def Zr(x:HV [.int .i64,.int .i64]):Option (HV [.bool]):=match x with
 |(k,want) =>
 cond (decide (k=want)) (
  some true) (
  some (decide (k=1)))
theorem Bfi:FO 270 [.int .i64,.int .i64] [.bool] (Zr):=fR (px:=Bqt _) (n:=0) Tryz.func270 rfl (λ_ H=>⟨lv H Ae Aa Ab,Ai⟩) λ(_,_)=>by kernel_rfl
def J3(k:Int)(want:Int):Bool :=
 cond (decide (k=want)) (
  true) (
  (decide (k=1)))
theorem Bjj(x:HV [.int .i64,.int .i64]):Zr x=some (J3 x.1 x.2):=by
 first
  |exact rfl
  |simp only[Zr,J3,A4]
def A8z:FT [.int .i64,.int .i64] [.bool]:=λx=>some (J3 x.1 x.2)
theorem Bn6:FO 270 [.int .i64,.int .i64] [.bool] A8z :=.fin0 Bfi λx _ _ hx=>(Bjj x).trans hx
def Bp8(R:Type):Px R:=pxO [] [] [] []
def Zg(x:HV [.bool]):Option (HV [.sv .val]):=match x with
 |b =>
 cond (b) (
  some (Val.mk 2 1 [])) (
  some (Val.mk 2 0 []))
theorem Bh8:FO 271 [.bool] [.sv .val] (Zg):=fR (px:=Bp8 _) (n:=0) Tryz.func271 rfl (λ_ H=>⟨lv H Ae Aa Ab,Ai⟩) λ_=>by kernel_rfl
def Auo(b:Bool):Val :=
 cond (b) (
  (Val.mk 2 1 [])) (
  (Val.mk 2 0 []))
theorem Bfl(x:HV [.bool]):Zg x=some (Auo x):=by
 first
  |exact rfl
  |simp only[Zg,Auo,A4]
def Bct:FT [.bool] [.sv .val]:=λx=>some (Auo x)
theorem Brj:FO 271 [.bool] [.sv .val] Bct :=.fin0 Bh8 λx _ _ hx=>(Bfl x).trans hx
def Be2(R:Type):Px R:=pxO [] [] [] []
def Sp(x:HV [.int .i64,.int .i64]):Option (HV [.bool]):=match x with
 |(kind,n) =>
 cond (decide (kind=6)) (
  some (decide (n=0))) (
  cond (decide (kind=7)) (
  some (!decide (n=0))) (
  cond (decide (kind=8)) (
   some (decide (n<0))) (
   cond (decide (kind=9)) (
   some (decide (n<=0))) (
   cond (decide (kind=10)) (
    some (decide (0<n))) (
    some (decide (0<=n)))))))
theorem A4j:FO 310 [.int .i64,.int .i64] [.bool] (Sp):=fR (px:=Be2 _) (n:=0) Tryz.func310 rfl (λ_ H=>⟨lv H Ae Aa Ab,Ai⟩) λ(_,_)=>by kernel_rfl
def Axv(kind:Int)(n:Int):Bool :=
 cond (decide (kind=6)) (
  (decide (n=0))) (
  cond (decide (kind=7)) (
  (!decide (n=0))) (
  cond (decide (kind=8)) (
   (decide (n<0))) (
   cond (decide (kind=9)) (
   (decide (n<=0))) (
   cond (decide (kind=10)) (
    (decide (0<n))) (
    (decide (0<=n)))))))
theorem A5h(x:HV [.int .i64,.int .i64]):Sp x=some (Axv x.1 x.2):=by
 first
  |exact rfl
  |simp only[Sp,Axv,A4]
def Az9:FT [.int .i64,.int .i64] [.bool]:=λx=>some (Axv x.1 x.2)
theorem Bef:FO 310 [.int .i64,.int .i64] [.bool] Az9 :=.fin0 A4j λx _ _ hx=>(A5h x).trans hx
def Art:Sig:=⟨20,[(1,.str),(4,.int .i64),(7,.sl .col false),(8,.int .i64),(9,.int .i64)],[],[],0,0,0,[],[]⟩
abbrev Ab1:=Str×Int×List Col×Int×Int
def Ae9{R:Type}(rec:Ab1->Option R)(kx:Ex->Ab1->Option R)(v:Ab1):Option R:=match v with
 |(v,v1,v2,v3,v4) =>
 cond (decide (v4<v3)) (
  chk (inb v4 v2.length) (
  cond (decide (((at' .col v2 v4).name)=v)) (
   kx .ret (v,v4,v2,v3,v4)) (
   rec (v,v1,v2,v3,(wr .i64 (v4+1)))))) (
  kx (.exit 0) (v,v1,v2,v3,v4))
def Bb6(R:Type)(k:Nat):Px R:=pxO [] [] [(2,Al k Art (Ae9))] []
def Atz(k:Nat)(x:HV [.sl .col false,.str]):Option (HV [.int .i64]):=match x with
 |(cols,name) =>
 Aj (λrec=>Ae9 rec (λe vz=>match vz with|(_,v6,_,_,_)=>match e with
  |.ret =>
  some v6
  |.exit 0 =>
  some (-1)
  |_=>none)) k (name,0,cols,(cols.length:Int),0)
theorem Bro(k:Nat):FO 281 [.sl .col false,.str] [.int .i64] (Atz k):=fR (px:=Bb6 _ k) (n:=1) Tryz.func281 rfl (λcx H=>by have h0:Lv cx (Bb6 (HV [.int .i64]) k):=lv H Ae Aa Ab;have hlfind_0:=lO H h0 (b:=lp Tryz.f281 0) (k:=k) (n:=0) (s:=Art) (step:=Ae9) (λ_ _ _ (_,_,_,_,_)=>by kernel_rfl) Ai;exact⟨h0,(A2 Ai hlfind_0)⟩) λ(_,_)=>by kernel_rfl
def Fu:List Col->Str->Nat->Int
 |[],_,_ => -1
 |c::l,s,i=>if c.name=s then(i:Int) else Fu l s (i+1)
def Kf(cols:List Col)(name:Str):Int:=Fu cols name 0
def A7z:FT [.sl .col false,.str] [.int .i64]:=λx=>some (Kf x.1 x.2)
theorem Aro{R:Type}{kx:Ex->Ab1->Option R}{s:Str}{cols:List Col}{g:Int->Option R}(hn:ln cols.length)(h1:∀j,kx .ret (s,j,cols,(cols.length:Int),j)=g j)(h2:∀q j,kx (.exit 0) (s,q,cols,(cols.length:Int),j)=g (-1)):∀(k i:Nat) q,i<=cols.length->cols.length-i<k->Aj (λrec=>Ae9 rec kx) k (s,q,cols,(cols.length:Int),(i:Int))=g (Fu (cols.drop i) s i)
 |0,i,q,_,h=>by omega
 |k+1,i,q,hi,h=>by
  rw[A0];by_cases hl:i<cols.length
  ·simp only[Ae9,Ao hl hn,(Aro hn h1 h2 k (i+1) q (by omega) (by omega)),h1,Ay hl,Aq (c :=.col) hl,Au hl,Bool.cond_decide,Fu];rw[if_pos (by omega)];split<;>rfl
  ·simp[Ae9,h2,Bool.cond_decide];rw[if_neg (by omega),Zk1 (by omega)];rfl
theorem Bc3:FO 281 [.sl .col false,.str] [.int .i64] A7z :=.fin 0 Bro λ(cols,s) r hb hx=>⟨cols.length+1,by
 simp only[Atz];refine(Aro (g:=some) hb.1.1 ?_ ?_ (cols.length+1) 0 0 (Nat.zero_le _) (by omega)).trans hx
 ·exactλ_=>rfl
 ·exactλ_ _=>rfl⟩
theorem Qj:∀(l:List Col) (s:Str) (i:Nat),Fu l s i = -1\/((i:Int)<=Fu l s i/\Fu l s i<(i+l.length:Nat))
 |[],_,_ =>.inl rfl
 |c::l,s,i=>by
  simp[Fu];split
  ·right;omega
  ·have:=Qj l s (i+1);omega
theorem A5e(l:List Col)(s:Str):Kf l s = -1\/(0<=Kf l s/\Kf l s<(l.length:Int)):=by have:=Qj l s 0;simpa[Kf] using this
theorem Bj4{l:List Col}{s:Str}(h:¬Kf l s<0):inb (Kf l s) l.length=true:=by have:=A5e l s;simp[inb];omega
def Ak9:Sig:=⟨102,[(1,.sl .col false),(4,.int .i64),(5,.int .i64),(12,.sl .expr false),(13,.int .i64),(14,.int .i64)],[(2,.ptr 0 0),(6,.ptr 1 0)],[(0,.one (.sv .expr)),(1,.one (.rw .int 2))],2,0,0,[],[]⟩
abbrev Vs:=List Col×Int×Int×List Xpr×Int×Int×Xpr×List Int
def Gq{R:Type}(rf:FT [.sv .expr,.sl .col false] [.int .i64,.int .i64])(rec:Vs->Option R)(kx:Ex->Vs->Option R)(v:Vs):Option R:=match v with
 |(v,v1,v2,v3,v4,v5,w,w1) =>
 cond (decide (v5<v4)) (
  chk (inb v5 v3.length) (
  (rf ((at' .expr v3 v5),v)).bind λ(x,x1) =>
   chk (inb v5 2) (
   cond (!decide (x1=0)) (
    kx .ret (v,0,x1,v3,v4,v5,w,(w1.set (v5:Int).toNat x))) (
    cond (decide (v5=1)) (
    kx (.exit 0) (v,v1,v2,v3,v4,v5,w,(w1.set (v5:Int).toNat x))) (
    rec (v,v1,v2,v3,v4,(wr .i64 (v5+1)),w,(w1.set (v5:Int).toNat x))))))) (
  kx (.exit 0) (v,v1,v2,v3,v4,v5,w,w1))
def A26(R:Type)(k:Nat)(rf:FT [.sv .expr,.sl .col false] [.int .i64,.int .i64]):Px R:=pxO [(238,cA rf),(281,cA A7z),(270,cA A8z)] [] [(3,Al k Ak9 (Gq rf))] []
def Jv(k:Nat)(rf:FT [.sv .expr,.sl .col false] [.int .i64,.int .i64])(x:HV [.sv .expr,.sl .col false]):Option (HV [.int .i64,.int .i64]):=match x with
 |(e,cols) =>
 Aj (λrec=>Gq rf rec (λe vz=>match vz with|(v6,v7,v8,_,_,_,a,b)=>match e with
  |.ret =>
  some (v7,v8)
  |.exit 0 =>
  let j2:=λ(q:List Int) =>
   cond (decide (a.kind=1)) (
   some (a.v.kind,0)) (
   cond (decide (a.kind=2)) (
    cond (decide ((Kf v6 a.name)<0)) (
    some (0,150)) (
    chk (inb (Kf v6 a.name) v6.length) (
     some ((at' .col v6 (Kf v6 a.name)).kind,0)))) (
    cond (decide (a.kind=16)) (
    some (2,0)) (
    let j1:=λ(p:Bool) =>
     cond (p) (
     cond ((J3 (at' .int q 0) 2)) (
      cond ((J3 (at' .int q 1) 2)) (
      some (2,0)) (
      some (0,151))) (
      some (0,151))) (
     let j:=λ(p3:Bool) =>
      cond (p3) (
      cond ((J3 (at' .int q 0) 3)) (
       cond ((J3 (at' .int q 1) 3)) (
       some (3,0)) (
       some (0,151))) (
       some (0,151))) (
      cond (decide ((at' .int q 0)=(at' .int q 1))) (
       some (2,0)) (
       cond (decide ((at' .int q 0)=1)) (
       some (2,0)) (
       cond (decide ((at' .int q 1)=1)) (
        some (2,0)) (
        some (0,151)))))
     cond (decide (a.kind=12)) (
      j (decide (a.kind=12))) (
      cond (decide (a.kind=13)) (
      j (decide (a.kind=13))) (
      cond (decide (a.kind=14)) (
       j (decide (a.kind=14))) (
       j (decide (a.kind=15))))))
    cond (decide (a.kind=3)) (
     j1 (decide (a.kind=3))) (
     cond (decide (a.kind=4)) (
     j1 (decide (a.kind=4))) (
     j1 (decide (a.kind=5)))))))
  cond (decide ((a.l.length:Int)=1)) (
   j2 (b.set (1:Int).toNat (at' .int b 0))) (
   j2 b)
  |_=>none)) k (cols,0,0,e.l,(e.l.length:Int),0,e,[0,0])
theorem Bi6(k:Nat)(rf:FT [.sv .expr,.sl .col false] [.int .i64,.int .i64])(hrf:FO 238 [.sv .expr,.sl .col false] [.int .i64,.int .i64] rf):FO 238 [.sv .expr,.sl .col false] [.int .i64,.int .i64] (Jv k rf):=fR (px:=A26 _ k rf) (n:=1) Tryz.func238 rfl (λcx H=>by have h0:Lv cx (A26 (HV [.int .i64,.int .i64]) k rf):=lv H (c1 H hrf (c1 H Bc3 (c1 H Bn6 Ae))) Aa Ab;have hlkindE_0:=lO H h0 (b:=lp Tryz.f238 0) (k:=k) (n:=0) (s:=Ak9) (step:=Gq rf) (λ_ _ _ (_,_,_,_,_,_,_,_)=>by kernel_rfl) Ai;exact⟨h0,(A2 Ai hlkindE_0)⟩) λ(_,_)=>by kernel_rfl
def Bpi(e:Xpr)(cols:List Col)(a b:Int):Int×Int :=
 if e.kind=1 then(e.v.kind,0)
 else if e.kind=2 then(if Kf cols e.name<0 then(0,150) else((at' .col cols (Kf cols e.name)).kind,0))
 else if e.kind=16 then(2,0)
 else if e.kind=3\/e.kind=4\/e.kind=5 then(if J3 a 2&&J3 b 2 then(2,0) else(0,151))
 else if e.kind=12\/e.kind=13\/e.kind=14\/e.kind=15 then(if J3 a 3&&J3 b 3 then(3,0) else(0,151))
 else if a=b\/a=1\/b=1 then(2,0) else(0,151)
def Bkp(e:Xpr)(cols:List Col):List (Int×Int)->Int×Int
 |[]=>Bpi e cols 0 0
 |[(a,f)]=>if f=0 then Bpi e cols a a else(0,f)
 |(a,f)::(b,g)::_=>if f=0 then(if g=0 then Bpi e cols a b else(0,g)) else(0,f)
mutual
def Db:Xpr->List Col->Int×Int
 |.mk k v nm l,cols=>Bkp (.mk k v nm l) cols (kindL l cols)
def kindL:List Xpr->List Col->List (Int×Int)
 |[],_=>[]
 |x::l,cols=>Db x cols::kindL l cols
end
theorem Bm2(e:Xpr)(cols:List Col):Db e cols=Bkp e cols (kindL e.l cols):=by cases e;simp[Db,Xpr.l]
def Au6:FT [.sv .expr,.sl .col false] [.int .i64,.int .i64]:=λx=>some (Db x.1 x.2)
def Bdg(a:Xpr)(v6:List Col)(q:List Int):Option (Int×Int) :=
   cond (decide (a.kind=1)) (
   some (a.v.kind,0)) (
   cond (decide (a.kind=2)) (
    cond (decide ((Kf v6 a.name)<0)) (
    some (0,150)) (
    chk (inb (Kf v6 a.name) v6.length) (
     some ((at' .col v6 (Kf v6 a.name)).kind,0)))) (
    cond (decide (a.kind=16)) (
    some (2,0)) (
    let j1:=λ(p:Bool) =>
     cond (p) (
     cond ((J3 (at' .int q 0) 2)) (
      cond ((J3 (at' .int q 1) 2)) (
      some (2,0)) (
      some (0,151))) (
      some (0,151))) (
     let j:=λ(p3:Bool) =>
      cond (p3) (
      cond ((J3 (at' .int q 0) 3)) (
       cond ((J3 (at' .int q 1) 3)) (
       some (3,0)) (
       some (0,151))) (
       some (0,151))) (
      cond (decide ((at' .int q 0)=(at' .int q 1))) (
       some (2,0)) (
       cond (decide ((at' .int q 0)=1)) (
       some (2,0)) (
       cond (decide ((at' .int q 1)=1)) (
        some (2,0)) (
        some (0,151)))))
     cond (decide (a.kind=12)) (
      j (decide (a.kind=12))) (
      cond (decide (a.kind=13)) (
      j (decide (a.kind=13))) (
      cond (decide (a.kind=14)) (
       j (decide (a.kind=14))) (
       j (decide (a.kind=15))))))
    cond (decide (a.kind=3)) (
     j1 (decide (a.kind=3))) (
     cond (decide (a.kind=4)) (
     j1 (decide (a.kind=4))) (
     j1 (decide (a.kind=5)))))))
theorem Adu(e:Xpr)(cols:List Col)(a b:Int):Bdg e cols [a,b]=some (Bpi e cols a b):=by
 have ha:at' .int [a,b] 0=a:=rfl;have hb:at' .int [a,b] 1=b:=rfl;simp[Bdg,Bpi,ha,hb];generalize e.kind=k;by_cases h1:k=1
 ·simp[h1]
 by_cases h2:k=2
 ·simp[h2];by_cases hf:Kf cols e.name<0
  ·simp[hf]
  ·rw[Bj4 hf];simp[hf,chk]
 by_cases h16:k=16
 ·simp[h16]
 rw[Zd1 h1,Zd1 h2,Zd1 h16,if_neg h1,if_neg h2,if_neg h16];simp;by_cases h3:k=3
 ·grind
 by_cases h4:k=4
 ·grind
 by_cases h5:k=5
 ·grind
 rw[Zd1 h3,Zd1 h4,Zd1 h5,if_neg (by omega)];simp;by_cases h12:k=12
 ·grind
 by_cases h13:k=13
 ·grind
 by_cases h14:k=14
 ·grind
 by_cases h15:k=15
 ·grind
 rw[Zd1 h12,Zd1 h13,Zd1 h14,Zd1 h15,if_neg (by omega)];simp;by_cases c1:a=b
 ·simp[c1]
 by_cases c2:a=1
 ·simp[c2]
 by_cases c3:b=1
 ·simp[c3]
 simp[c1,c2,c3]
def Arr{R:Type}(ga:Int->Option R)(gb:Int->Int->Option R):List (Int×Int)->Option R
 |[]=>gb 0 0
 |[(a,f)]=>if f=0 then gb a 0 else ga f
 |(a,f)::(b,g)::_=>if f=0 then(if g=0 then gb a b else ga g) else ga f
theorem Bfn{R:Type}{rf:FT [.sv .expr,.sl .col false] [.int .i64,.int .i64]}{kx:Ex->Vs->Option R}{cols:List Col}{e:Xpr}{ga:Int->Option R}{gb:Int->Int->Option R}(hn:ln e.l.length)(hrf:∀x,x∈e.l->rf (x,cols)=some (Db x cols))(h1:∀f i ks,kx .ret (cols,0,f,e.l,(e.l.length:Int),i,e,ks)=ga f)(h2:∀i a b,kx (.exit 0) (cols,0,0,e.l,(e.l.length:Int),i,e,[a,b])=gb a b)(k:Nat):Aj (λrec=>Gq rf rec kx) (k+3) (cols,0,0,e.l,(e.l.length:Int),0,e,[0,0])=Arr ga gb (kindL e.l cols):=by
 rw[A0];generalize e.l=l at *;match l with
 |[] =>simp;exact h2 0 0 0
 |[x] =>
  simp only[Gq];have e1:at' .expr [x] 0=x:=rfl;rw[e1,hrf x (by simp)];simp only[ kindL,Arr];show cond (!decide ((Db x cols).2=0)) (kx .ret (cols,0,(Db x cols).2,[x],1,0,e,[(Db x cols).1,0])) (Aj (λrec=>Gq rf rec kx) (k+2) (cols,0,0,[x],1,1,e,[(Db x cols).1,0]))=_;have h1':=λf i ks=>h1 f i ks;have h2':=λi a b=>h2 i a b;have hl:(([x]:List Xpr).length:Int)=1:=rfl;rw[hl] at h1' h2';rw[h1',A0];have:Gq rf (Aj (λrec=>Gq rf rec kx) (k+1)) kx (cols,0,0,[x],1,1,e,[(Db x cols).1,0])=kx (.exit 0) (cols,0,0,[x],1,1,e,[(Db x cols).1,0]):=rfl;rw[this,h2'];by_cases hf:(Db x cols).2=0
  ·simp
  ·simp
 |x::y::t =>
  simp only[Gq];have hlen:(0:Int)<((x::y::t).length:Int):=by simp;omega
  have hlen1:(1:Int)<((x::y::t).length:Int):=by simp;omega
  have e1:at' .expr (x::y::t) 0=x:=rfl;have e2:at' .expr (x::y::t) 1=y:=rfl;rw[Ze1 hlen,e1,hrf x (by simp)];have i1:inb 0 (x::y::t).length=true:=Au (i:=0) (by simp);have i2:inb 1 (x::y::t).length=true:=Au (i:=1) (by simp);rw[i1];simp only[ kindL,Arr];show cond (!decide ((Db x cols).2=0)) (kx .ret (cols,0,(Db x cols).2,x::y::t,_,0,e,[(Db x cols).1,0])) (Aj (λrec=>Gq rf rec kx) (k+2) (cols,0,0,x::y::t,((x::y::t).length:Int),1,e,[(Db x cols).1,0]))=_;rw[h1,A0];simp only[Gq];rw[Ze1 hlen1,e2,hrf y (by simp),i2];simp only[ chk];show cond (!decide ((Db x cols).2=0)) (ga (Db x cols).2) (cond (!decide ((Db y cols).2=0)) (kx .ret (cols,0,(Db y cols).2,x::y::t,_,1,e,_)) (kx (.exit 0) (cols,0,0,x::y::t,_,1,e,[(Db x cols).1,(Db y cols).1])))=_;rw[h1,h2];by_cases hf:(Db x cols).2=0
  ·grind
  ·simp[hf]
theorem As7(k:Nat):∀(n:Nat) (e:Xpr) (cols:List Col),BdExpr e->C5 e<=n->Aj (Jv (k+3)) n (e,cols)=some (Db e cols)
 |0,e,cols,_,h=>by have:=Ng e;omega
 |n+1,e,cols,hb,h=>by
  obtain⟨hb4,hb5⟩:=Ari hb;rw[R6] at h;have hrf:∀x,x∈e.l->Aj (Jv (k+3)) n (x,cols)=some (Db x cols):=λx hx=>As7 k n x cols (hb5 x hx) (by have:=Ef hx;omega);rw[A0,Bm2];simp[Jv];refine(Bfn (ga:=λf=>some (0,f)) (gb:=λa b=>cond (decide ((e.l.length:Int)=1)) (Bdg e cols [a,a]) (Bdg e cols [a,b])) hb4 hrf ?_ ?_ k).trans ?_
  ·exactλ_ _ _=>rfl
  ·exactλ_ _ _=>rfl
  ·generalize e.l=l;match l with
   |[]=>simp[kindL,Arr,Bkp,Adu]
   |[x] =>simp[kindL,Arr,Bkp,Adu];split<;>simp
   |x::y::t =>
    simp only[kindL,Arr,Bkp,Adu];have:¬(((x::y::t).length:Int)=1):=by simp;omega
    rw[Zd1 this];split
    ·split<;>rfl
    ·rfl
theorem Ayx:FO 238 [.sv .expr,.sl .col false] [.int .i64,.int .i64] Au6:=by refine .fin (ι:=Nat) 0 (F:=λn=>Aj (Jv 3) n) (λn=>FnOk.rec' (Sx.enters_of Tryz.func238 rfl rfl) (λrf hrf=>Bi6 3 rf hrf) n) λ(e,cols) r hb hx=>⟨C5 e,?_⟩;exact(As7 0 (C5 e) e cols hb.1 (Zn1 _)).trans hx
def Bpy(R:Type):Px R:=pxO [(237,cA Axr),(238,cA Au6)] [] [] []
def Zo(x:HV [.sv .expr,.sl .col false]):Option (HV [.int .i64,.int .i64]):=match x with
 |(e,cols) =>
 cond (!decide ((Agi e)=0)) (
  some (0,(Agi e))) (
  some ((Db e cols).1,(Db e cols).2))
theorem Bh5:FO 191 [.sv .expr,.sl .col false] [.int .i64,.int .i64] (Zo):=fR (px:=Bpy _) (n:=0) Tryz.func191 rfl (λ_ H=>⟨lv H (c1 H A12 (c1 H Ayx Ae)) Aa Ab,Ai⟩) λ(_,_)=>by kernel_rfl
def Ks(e:Xpr)(cols:List Col):Int×Int :=
 cond (!decide ((Agi e)=0)) (
  (0,(Agi e))) (
  ((Db e cols).1,(Db e cols).2))
theorem Bhq(x:HV [.sv .expr,.sl .col false]):Zo x=some (Ks x.1 x.2):=by
 first
  |exact rfl
  |simp only[Zo,Ks,A4]
def Axs:FT [.sv .expr,.sl .col false] [.int .i64,.int .i64]:=λx=>some (Ks x.1 x.2)
theorem A0k:FO 191 [.sv .expr,.sl .col false] [.int .i64,.int .i64] Axs :=.fin0 Bh5 λx _ _ hx=>(Bhq x).trans hx
mutual
def Kq:Xpr->Xpr->Bool
 |.mk k v n l,.mk k' v' n' l'=>decide (k=k')&&decide (v=v')&&decide (n=n')&&xsames l l'
def xsames:List Xpr->List Xpr->Bool
 |[],[]=>true
 |x::l,y::m=>Kq x y&&xsames l m
 |_,_=>false
end
mutual
theorem Afc:∀a b:Xpr,Kq a b=true↔a=b
 |.mk k v n l,.mk k' v' n' l'=>by
  simp only[Kq,Zb1,Zg1,xsames_iff l l',Xpr.mk.injEq];constructor
  ·rintro⟨⟨⟨h1,h2⟩,h3⟩,h4⟩;exact⟨h1,h2,h3,h4⟩
  ·rintro⟨h1,h2,h3,h4⟩;exact⟨⟨⟨h1,h2⟩,h3⟩,h4⟩
theorem xsames_iff:∀a b:List Xpr,xsames a b=true↔a=b
 |[],[]=>by simp[xsames]
 |x::l,y::m=>by simp only[xsames,Zb1,Afc x y,xsames_iff l m,Ze2]
 |[],_::_=>by simp[xsames]
 |_::_,[]=>by simp[xsames]
end
instance:DecidableEq Xpr:=λa b=>decidable_of_iff (Kq a b=true) (Afc a b)
theorem T5(a b:Xpr):Kq a b=decide (a=b):=by rw[Bool.eq_iff_iff,Afc,Zg1]
theorem A6d{a b:List Xpr}(h:xsames a b=true):a.length=b.length:=by rw[(xsames_iff a b).1 h]
theorem Bo8(a b:Xpr):Kq a b=(decide (a.kind=b.kind)&&decide (a.v=b.v)&&decide (a.name=b.name)&&xsames a.l b.l):=by cases a;cases b;simp[Kq];rfl
def Anh:Sig:=⟨32,[(1,.sl .expr false),(6,.bool),(15,.sl .expr false),(16,.int .i64),(17,.int .i64)],[(2,.fn 122 [])],[],40,40,200,[],[]⟩
abbrev Uf:=List Xpr×Bool×List Xpr×Int×Int
def Tl{R:Type}(rf:FT [.sv .expr,.sv .expr] [.bool])(rec:Uf->Option R)(kx:Ex->Uf->Option R)(v:Uf):Option R:=match v with
 |(v,v1,v2,v3,v4) =>
 cond (decide (v4<v3)) (
  chk (inb v4 v2.length) (
  chk (inb v4 v.length) (
   (rf ((at' .expr v2 v4),(at' .expr v v4))).bind λx =>
   cond (!x) (
    kx .ret (v,false,v2,v3,v4)) (
    rec (v,v1,v2,v3,(wr .i64 (v4+1))))))) (
  kx (.exit 0) (v,v1,v2,v3,v4))
def Ajn(R:Type)(k:Nat)(rf:FT [.sv .expr,.sv .expr] [.bool]):Px R:=pxO [(122,cA rf)] [] [(4,Al k Anh (Tl rf))] []
noncomputable def A1x(R:Type)(k:Nat)(rf:FT [.sv .expr,.sv .expr] [.bool]):Px R:=pxO [(126,Aw 40 200 (Ajn R k rf) Tryz.f126)] [] [] []
def Hn(k:Nat)(rf:FT [.sv .expr,.sv .expr] [.bool])(x:HV [.sv .expr,.sv .expr]):Option (HV [.bool]):=match x with
 |(a,b) =>
 let j1:=λ(p:Bool) =>
  let j:=λ(p1:Bool) =>
  cond (p1) (
   cond (!decide ((a.l.length:Int)=(b.l.length:Int))) (
   some false) (
   Aj (λrec=>Tl rf rec (λe vz=>match vz with|(_,v6,_,_,_)=>match e with
    |.ret =>
    some v6
    |.exit 0 =>
    some true
    |_=>none)) k (b.l,false,a.l,(a.l.length:Int),0))) (
   some false)
  cond (p) (
  j (decide (a.name=b.name))) (
  j false)
 cond (decide (a.kind=b.kind)) (
  j1 (decide (a.v=b.v))) (
  j1 false)
theorem Bf5(k:Nat)(rf:FT [.sv .expr,.sv .expr] [.bool])(hrf:FO 122 [.sv .expr,.sv .expr] [.bool] rf):FO 122 [.sv .expr,.sv .expr] [.bool] (Hn k rf):=fR (px:=A1x _ k rf) (n:=0) Tryz.func122 rfl (λcx H=>by have h1:Lv cx (Ajn (HV [.bool]) k rf):=lv H (c1 H hrf Ae) Aa Ab;have hlasame_0:=lO H h1 (b:=lp Tryz.f126 0) (k:=k) (n:=0) (s:=Anh) (step:=Tl rf) (λ_ _ _ (_,_,_,_,_)=>by kernel_rfl) Ai;have h0:Lv cx (A1x (HV [.bool]) k rf):=lv H (Am (cR H h1 Tryz.func126 rfl (n:=1) ((A2 Ai hlasame_0))) Ae) Aa Ab;exact⟨h0,Ai⟩) λ(_,_)=>by kernel_rfl
def R9(a b:Xpr):Bool:=Kq a b
def Ua:FT [.sv .expr,.sv .expr] [.bool]:=λx=>some (R9 x.1 x.2)
theorem A7j{R:Type}{rf:FT [.sv .expr,.sv .expr] [.bool]}{kx:Ex->Uf->Option R}{l m:List Xpr}{c:Bool->Option R}(hn:ln l.length)(hm:l.length=m.length)(hrf:∀x,x∈l->∀y,y∈m->rf (x,y)=some (Kq x y))
  (h1:∀i,kx .ret (m,false,l,(l.length:Int),i)=c false) (h2:∀q i,kx (.exit 0) (m,q,l,(l.length:Int),i)=c true) (k:Nat) (hk:l.length<k):Aj (λrec=>Tl rf rec kx) k (m,false,l,(l.length:Int),0)=c (xsames l m):=by
 refine(B1 l.length (λi=>(m,false,l,(l.length:Int),(i:Int))) (λi=>c (xsames (l.drop i) (m.drop i))) (λi hi rec hr =>?_) (λrec =>?_) k 0 (Nat.zero_le _) (by omega)).trans (by rw[Zq1,Zq1])
 ·have hi2:i<m.length:=by omega
  simp only[Tl,Cb hi,Au hi,Au hi2,Aq (c :=.expr) hi,Aq (c :=.expr) hi2,hrf _ (List.getElem_mem hi) _ (List.getElem_mem hi2),Ao hi hn,hr,h1,Ay hi,Ay hi2,xsames];cases Kq l[i] m[i]<;>rfl
 ·simp only[Tl,Ds,h2];rw[Zk1 (Zn1 _),Zk1 (by omega)];rfl
theorem Asd(k:Nat):∀(n:Nat) (a b:Xpr),BdExpr a->BdExpr b->C5 a<=n->C5 a<=k->Aj (Hn k) n (a,b)=some (Kq a b)
 |0,a,b,_,_,h,_=>by have:=Ng a;omega
 |n+1,a,b,ha,hb,h,hk=>by
  obtain⟨hb4,hb5⟩:=Ari ha;obtain⟨hc4,hc5⟩:=Ari hb;rw[R6] at h hk;have hl:=Pw a.l;have hrf:∀x,x∈a.l->∀y,y∈b.l->Aj (Hn k) n (x,y)=some (Kq x y):=λx hx y hy=>Asd k n x y (hb5 x hx) (hc5 y hy) (by have:=Ef hx;omega) (by have:=Ef hx;omega);rw[A0,Bo8];simp only[Hn];by_cases hlen:a.l.length=b.l.length
  ·have hloop:=A7j (R:=Bool) (rf:=Aj (Hn k) n) (l:=a.l) (m:=b.l) (c:=some) (kx:=λe v=>match v with
    |(_,v6,_,_,_)=>match e with
     |.ret=>some v6
     |.exit 0=>some true
     |_=>none) hb4 hlen hrf (λ_=>rfl) (λ_ _=>rfl) k (by omega)
   rw[hloop,Ze1 (show(a.l.length:Int)=(b.l.length:Int) by omega)];cases decide (a.kind=b.kind)<;>cases decide (a.v=b.v)<;>cases decide (a.name=b.name)<;>cases xsames a.l b.l<;>rfl
  ·have hno:xsames a.l b.l=false:=by cases hs:xsames a.l b.l with|false=>rfl|true=>exact absurd (A6d hs) hlen
   rw[hno,Zd1 (show ¬(a.l.length:Int)=(b.l.length:Int) by omega)];cases decide (a.kind=b.kind)<;>cases decide (a.v=b.v)<;>cases decide (a.name=b.name)<;>rfl
theorem Qy:FO 122 [.sv .expr,.sv .expr] [.bool] Ua:=by refine .fin (ι:=Nat) 0 (F:=λn=>Aj (Hn n) n) (λn=>FnOk.rec' (Sx.enters_of Tryz.func122 rfl rfl) (λrf hrf=>Bf5 n rf hrf) n) λ(a,b) r hb hx=>⟨C5 a,?_⟩;exact(Asd (C5 a) (C5 a) a b hb.1 hb.2 (Zn1 _) (Zn1 _)).trans hx
def Ap4:Sig:=⟨19,[(0,.sl .str false),(1,.str),(4,.int .i64),(7,.int .i64),(8,.int .i64)],[],[],0,0,0,[],[]⟩
abbrev Abc:=List Str×Str×Int×Int×Int
def Adz{R:Type}(rec:Abc->Option R)(kx:Ex->Abc->Option R)(v:Abc):Option R:=match v with
 |(v,v1,v2,v3,v4) =>
 cond (decide (v4<v3)) (
  chk (inb v4 v.length) (
  cond (decide (v1=(at' .str v v4))) (
   kx .ret (v,v1,v4,v3,v4)) (
   rec (v,v1,v2,v3,(wr .i64 (v4+1)))))) (
  kx (.exit 0) (v,v1,v2,v3,v4))
def Bc4(R:Type)(k:Nat):Px R:=pxO [] [] [(2,Al k Ap4 (Adz))] []
def Aqo(k:Nat)(x:HV [.sl .str false,.str]):Option (HV [.int .i64]):=match x with
 |(l,s) =>
 Aj (λrec=>Adz rec (λe vz=>match vz with|(_,_,v7,_,_)=>match e with
  |.ret =>
  some v7
  |.exit 0 =>
  some (-1)
  |_=>none)) k (l,s,0,(l.length:Int),0)
theorem Bm8(k:Nat):FO 183 [.sl .str false,.str] [.int .i64] (Aqo k):=fR (px:=Bc4 _ k) (n:=1) Tryz.func183 rfl (λcx H=>by have h0:Lv cx (Bc4 (HV [.int .i64]) k):=lv H Ae Aa Ab;have hlsidx_0:=lO H h0 (b:=lp Tryz.f183 0) (k:=k) (n:=0) (s:=Ap4) (step:=Adz) (λ_ _ _ (_,_,_,_,_)=>by kernel_rfl) Ai;exact⟨h0,(A2 Ai hlsidx_0)⟩) λ(_,_)=>by kernel_rfl
def Bxy(l:List Str)(s:Str):Int:=Lp.idx s l 0
def A6r:FT [.sl .str false,.str] [.int .i64]:=λx=>some (Bxy x.1 x.2)
theorem Aun{R:Type}{kx:Ex->Abc->Option R}{l:List Str}{s:Str}{c:Int->Option R}(hl:ln l.length)(h1:∀(r:Int) (i:Int),kx .ret (l,s,r,(l.length:Int),i)=c r)(h2:∀q:Int,kx (.exit 0) (l,s,q,(l.length:Int),(l.length:Int))=c (-1)) :
  ∀(k i:Nat) (q:Int),i<=l.length->l.length-i<k->Aj (λrec=>Adz rec kx) k (l,s,q,(l.length:Int),(i:Int))=c (Lp.idx s (l.drop i) i)
 |0,i,_,_,h=>absurd h (Zm1 _)
 |k+1,i,q,hi,h=>by
  rw[A0];by_cases hlt:i<l.length
  ·have e1:decide ((i:Int)<(l.length:Int))=true:=Ze1 (by omega);have en:((i+1:Nat):Int)=(i:Int)+1:=by omega
   simp only[Adz,Au hlt,chk,Aq (c :=.str) hlt,Ao hlt hl,(Aun hl h1 h2 k (i+1) q (by omega) (by omega))];rw[Ay hlt,Lp.idx,en];by_cases hx:s=l[i]
   ·grind
   ·grind
  ·have hi:i=l.length:=by omega
   subst hi;simp[Adz,h2,Lp.idx]
theorem Bvi:FO 183 [.sl .str false,.str] [.int .i64] A6r :=.fin 0 Bm8 λ(l,s) r hb hx=>⟨l.length+1,by simp only[A6r,Za1] at hx;rw[<-hx];simp only[Aqo];exact Aun (c:=λq=>some q) hb.1.1 (λ_ _=>rfl) (λ_=>rfl) (l.length+1) 0 0 (Nat.zero_le _) (by omega)⟩
def Bvf(R:Type):Px R:=pxO [(183,cA A6r)] [] [] []
def Afh(x:HV [.sl .str false,.str]):Option (HV [.bool]):=match x with
 |(l,s) =>
 some (decide (0<=(Bxy l s)))
theorem Bk6:FO 131 [.sl .str false,.str] [.bool] (Afh):=fR (px:=Bvf _) (n:=0) Tryz.func131 rfl (λ_ H=>⟨lv H (c1 H Bvi Ae) Aa Ab,Ai⟩) λ(_,_)=>by kernel_rfl
def A0n(l:List Str)(s:Str):Bool :=(decide (0<=(Bxy l s)))
theorem Bo7(x:HV [.sl .str false,.str]):Afh x=some (A0n x.1 x.2):=by
 first
  |exact rfl
  |simp only[Afh,A0n,A4]
def A7t:FT [.sl .str false,.str] [.bool]:=λx=>some (A0n x.1 x.2)
theorem Bdx:FO 131 [.sl .str false,.str] [.bool] A7t :=.fin0 Bk6 λx _ _ hx=>(Bo7 x).trans hx
theorem Bdj(l:List Str)(s:Str):A0n l s=l.contains s:=by have e:A0n l s=decide (0<=Lp.idx s l 0):=rfl;rw[e,Bool.eq_iff_iff,Zg1,Lp.idx_ge s l 0 (Int.le_refl 0)];simp
def Aut:Sig:=⟨26,[(0,.sl .col false),(1,.sl .col false),(4,.bool),(12,.int .i64),(13,.int .i64)],[],[],0,0,0,[],[]⟩
abbrev Abn:=List Col×List Col×Bool×Int×Int
def Adf{R:Type}(rec:Abn->Option R)(kx:Ex->Abn->Option R)(v:Abn):Option R:=match v with
 |(v,v1,v2,v3,v4) =>
 cond (decide (v4<v3)) (
  chk (inb v4 v.length) (
  chk (inb v4 v1.length) (
   cond (!decide ((at' .col v v4)=(at' .col v1 v4))) (
   kx .ret (v,v1,false,v3,v4)) (
   rec (v,v1,v2,v3,(wr .i64 (v4+1))))))) (
  kx (.exit 0) (v,v1,v2,v3,v4))
def Ba6(R:Type)(k:Nat):Px R:=pxO [] [] [(4,Al k Aut (Adf))] []
def Aur(k:Nat)(x:HV [.sl .col false,.sl .col false]):Option (HV [.bool]):=match x with
 |(a,b) =>
 cond (!decide ((a.length:Int)=(b.length:Int))) (
  some false) (
  Aj (λrec=>Adf rec (λe vz=>match vz with|(_,_,v7,_,_)=>match e with
  |.ret =>some v7
  |.exit 0 =>some true
  |_=>none)) k (a,b,false,(a.length:Int),0))
theorem Bqa(k:Nat):FO 123 [.sl .col false,.sl .col false] [.bool] (Aur k):=fR (px:=Ba6 _ k) (n:=1) Tryz.func123 rfl (λcx H=>by have h0:Lv cx (Ba6 (HV [.bool]) k):=lv H Ae Aa Ab;have hlaeqc_0:=lO H h0 (b:=lp Tryz.f123 0) (k:=k) (n:=0) (s:=Aut) (step:=Adf) (λ_ _ _ (_,_,_,_,_)=>by kernel_rfl) Ai;exact⟨h0,(A2 Ai hlaeqc_0)⟩) λ(_,_)=>by kernel_rfl
def Bv1(a b:List Col):Bool:=decide (a=b)
def A6m:FT [.sl .col false,.sl .col false] [.bool]:=λx=>some (Bv1 x.1 x.2)
theorem Bhz{R:Type}{kx:Ex->Abn->Option R}{a b:List Col}{c:Bool->Option R}(hn:ln a.length)(he:a.length=b.length)(h1:∀i,kx .ret (a,b,false,(a.length:Int),i)=c false)(h2:∀q i,kx (.exit 0) (a,b,q,(a.length:Int),i)=c true)(k:Nat)(hk:a.length<k) :
  Aj (λrec=>Adf rec kx) k (a,b,false,(a.length:Int),0)=c (decide (a=b)):=by
 refine(B1 a.length (λi=>(a,b,false,(a.length:Int),(i:Int))) (λi=>c (decide (a.drop i=b.drop i))) (λi hi rec hr =>?_) (λrec =>?_) k 0 (Nat.zero_le _) (by omega)).trans (by rw[Zq1,Zq1])
 ·have hi2:i<b.length:=by omega
  simp only[Adf,Cb hi,Ah,Au hi,Au hi2,chk,Aq (c :=.col) hi,Aq (c :=.col) hi2,Ao hi hn,hr,h1,Ay hi,Ay hi2,Ze2];by_cases hx:a[i]=b[i]
  ·rw[Ze1 hx];simp[hx]
  ·rw[Zd1 hx];simp[hx]
 ·simp only[Adf,Ds,Af,h2];rw[Zk1 (Zn1 _),Zk1 (by omega)];rfl
theorem Bu4:FO 123 [.sl .col false,.sl .col false] [.bool] A6m :=.fin 0 Bqa λ(a,b) r hb hx=>⟨a.length+1,by
 simp only[A6m,Za1] at hx;rw[<-hx];simp only[Aur,Bv1];by_cases he:a.length=b.length
 ·rw[Ze1 (show(a.length:Int)=(b.length:Int) by omega),Zt1,Af];exact Bhz (c:=some) hb.1.1 he (λ_=>rfl) (λ_ _=>rfl) (a.length+1) (by omega)
 ·rw[Zd1 (show ¬(a.length:Int)=(b.length:Int) by omega),Zd1 (λh=>he (by rw[h]))];rfl⟩
def At1:Sig:=⟨26,[(0,.sl .str false),(1,.sl .str false),(4,.bool),(12,.int .i64),(13,.int .i64)],[],[],0,0,0,[],[]⟩
abbrev Ac4:=List Str×List Str×Bool×Int×Int
def Afs{R:Type}(rec:Ac4->Option R)(kx:Ex->Ac4->Option R)(v:Ac4):Option R:=match v with
 |(v,v1,v2,v3,v4) =>
 cond (decide (v4<v3)) (
  chk (inb v4 v.length) (
  chk (inb v4 v1.length) (
   cond (!decide ((at' .str v v4)=(at' .str v1 v4))) (
   kx .ret (v,v1,false,v3,v4)) (
   rec (v,v1,v2,v3,(wr .i64 (v4+1))))))) (
  kx (.exit 0) (v,v1,v2,v3,v4))
def Bcj(R:Type)(k:Nat):Px R:=pxO [] [] [(4,Al k At1 (Afs))] []
def Aug(k:Nat)(x:HV [.sl .str false,.sl .str false]):Option (HV [.bool]):=match x with
 |(a,b) =>
 cond (!decide ((a.length:Int)=(b.length:Int))) (
  some false) (
  Aj (λrec=>Afs rec (λe vz=>match vz with|(_,_,v7,_,_)=>match e with
  |.ret =>some v7
  |.exit 0 =>some true
  |_=>none)) k (a,b,false,(a.length:Int),0))
theorem Bsq(k:Nat):FO 124 [.sl .str false,.sl .str false] [.bool] (Aug k):=fR (px:=Bcj _ k) (n:=1) Tryz.func124 rfl (λcx H=>by have h0:Lv cx (Bcj (HV [.bool]) k):=lv H Ae Aa Ab;have hlaeqs_0:=lO H h0 (b:=lp Tryz.f124 0) (k:=k) (n:=0) (s:=At1) (step:=Afs) (λ_ _ _ (_,_,_,_,_)=>by kernel_rfl) Ai;exact⟨h0,(A2 Ai hlaeqs_0)⟩) λ(_,_)=>by kernel_rfl
def Bj2(a b:List Str):Bool:=decide (a=b)
def A38:FT [.sl .str false,.sl .str false] [.bool]:=λx=>some (Bj2 x.1 x.2)
theorem Bfa{R:Type}{kx:Ex->Ac4->Option R}{a b:List Str}{c:Bool->Option R}(hn:ln a.length)(he:a.length=b.length)(h1:∀i,kx .ret (a,b,false,(a.length:Int),i)=c false)(h2:∀q i,kx (.exit 0) (a,b,q,(a.length:Int),i)=c true)(k:Nat)(hk:a.length<k) :
  Aj (λrec=>Afs rec kx) k (a,b,false,(a.length:Int),0)=c (decide (a=b)):=by
 refine(B1 a.length (λi=>(a,b,false,(a.length:Int),(i:Int))) (λi=>c (decide (a.drop i=b.drop i))) (λi hi rec hr =>?_) (λrec =>?_) k 0 (Nat.zero_le _) (by omega)).trans (by rw[Zq1,Zq1])
 ·have hi2:i<b.length:=by omega
  simp only[Afs,Cb hi,Ah,Au hi,Au hi2,chk,Aq (c :=.str) hi,Aq (c :=.str) hi2,Ao hi hn,hr,h1,Ay hi,Ay hi2,Ze2];by_cases hx:a[i]=b[i]
  ·rw[Ze1 hx];simp[hx]
  ·rw[Zd1 hx];simp[hx]
 ·simp only[Afs,Ds,Af,h2];rw[Zk1 (Zn1 _),Zk1 (by omega)];rfl
theorem Btx:FO 124 [.sl .str false,.sl .str false] [.bool] A38 :=.fin 0 Bsq λ(a,b) r hb hx=>⟨a.length+1,by
 simp only[A38,Za1] at hx;rw[<-hx];simp only[Aug,Bj2];by_cases he:a.length=b.length
 ·rw[Ze1 (show(a.length:Int)=(b.length:Int) by omega),Zt1,Af];exact Bfa (c:=some) hb.1.1 he (λ_=>rfl) (λ_ _=>rfl) (a.length+1) (by omega)
 ·rw[Zd1 (show ¬(a.length:Int)=(b.length:Int) by omega),Zd1 (λh=>he (by rw[h]))];rfl⟩
def Aua:Sig:=⟨26,[(0,.sl .bool false),(1,.sl .bool false),(4,.bool),(12,.int .i64),(13,.int .i64)],[],[],0,0,0,[],[]⟩
abbrev Aae:=List Bool×List Bool×Bool×Int×Int
def Adc{R:Type}(rec:Aae->Option R)(kx:Ex->Aae->Option R)(v:Aae):Option R:=match v with
 |(v,v1,v2,v3,v4) =>
 cond (decide (v4<v3)) (
  chk (inb v4 v.length) (
  chk (inb v4 v1.length) (
   cond (!decide ((at' .bool v v4)=(at' .bool v1 v4))) (
   kx .ret (v,v1,false,v3,v4)) (
   rec (v,v1,v2,v3,(wr .i64 (v4+1))))))) (
  kx (.exit 0) (v,v1,v2,v3,v4))
def Baq(R:Type)(k:Nat):Px R:=pxO [] [] [(4,Al k Aua (Adc))] []
def Ath(k:Nat)(x:HV [.sl .bool false,.sl .bool false]):Option (HV [.bool]):=match x with
 |(a,b) =>
 cond (!decide ((a.length:Int)=(b.length:Int))) (
  some false) (
  Aj (λrec=>Adc rec (λe vz=>match vz with|(_,_,v7,_,_)=>match e with
  |.ret =>some v7
  |.exit 0 =>some true
  |_=>none)) k (a,b,false,(a.length:Int),0))
theorem Bnh(k:Nat):FO 125 [.sl .bool false,.sl .bool false] [.bool] (Ath k):=fR (px:=Baq _ k) (n:=1) Tryz.func125 rfl (λcx H=>by have h0:Lv cx (Baq (HV [.bool]) k):=lv H Ae Aa Ab;have hlaeqb_0:=lO H h0 (b:=lp Tryz.f125 0) (k:=k) (n:=0) (s:=Aua) (step:=Adc) (λ_ _ _ (_,_,_,_,_)=>by kernel_rfl) Ai;exact⟨h0,(A2 Ai hlaeqb_0)⟩) λ(_,_)=>by kernel_rfl
def Bva(a b:List Bool):Bool:=decide (a=b)
def A6s:FT [.sl .bool false,.sl .bool false] [.bool]:=λx=>some (Bva x.1 x.2)
theorem Bg5{R:Type}{kx:Ex->Aae->Option R}{a b:List Bool}{c:Bool->Option R}(hn:ln a.length)(he:a.length=b.length)(h1:∀i,kx .ret (a,b,false,(a.length:Int),i)=c false)(h2:∀q i,kx (.exit 0) (a,b,q,(a.length:Int),i)=c true)(k:Nat)(hk:a.length<k) :
  Aj (λrec=>Adc rec kx) k (a,b,false,(a.length:Int),0)=c (decide (a=b)):=by
 refine(B1 a.length (λi=>(a,b,false,(a.length:Int),(i:Int))) (λi=>c (decide (a.drop i=b.drop i))) (λi hi rec hr =>?_) (λrec =>?_) k 0 (Nat.zero_le _) (by omega)).trans (by rw[Zq1,Zq1])
 ·have hi2:i<b.length:=by omega
  simp only[Adc,Cb hi,Ah,Au hi,Au hi2,chk,Aq (c :=.bool) hi,Aq (c :=.bool) hi2,Ao hi hn,hr,h1,Ay hi,Ay hi2,Ze2];by_cases hx:a[i]=b[i]
  ·rw[Ze1 hx];simp[hx]
  ·rw[Zd1 hx];simp[hx]
 ·simp only[Adc,Ds,Af,h2];rw[Zk1 (Zn1 _),Zk1 (by omega)];rfl
theorem Bum:FO 125 [.sl .bool false,.sl .bool false] [.bool] A6s :=.fin 0 Bnh λ(a,b) r hb hx=>⟨a.length+1,by
 simp only[A6s,Za1] at hx;rw[<-hx];simp only[Ath,Bva];by_cases he:a.length=b.length
 ·rw[Ze1 (show(a.length:Int)=(b.length:Int) by omega),Zt1,Af];exact Bg5 (c:=some) hb.1.1 he (λ_=>rfl) (λ_ _=>rfl) (a.length+1) (by omega)
 ·rw[Zd1 (show ¬(a.length:Int)=(b.length:Int) by omega),Zd1 (λh=>he (by rw[h]))];rfl⟩
instance:DecidableEq SetE:=λa b=>decidable_of_iff (a.name=b.name/\a.e=b.e) (by cases a;cases b;simp)
def Awv(a b:SetE):Bool:=decide (a.name=b.name)&&Kq a.e b.e
theorem A16(a b:SetE):Awv a b=decide (a=b):=by cases a;cases b;simp[Awv,T5]
def Ajv(a b:Stm):Bool:=decide (a.kind=b.kind)&&decide (a.name=b.name)&&decide (a.on=b.on)&&decide (a.has=b.has)&&decide (a.most=b.most)&&decide (a.whr=b.whr)&&(decide (a.cols=b.cols)&&decide (a.names=b.names)&&decide (a.order=b.order)&&decide (a.desc=b.desc)&&decide (a.l=b.l))&&decide (a.rows=b.rows)&&decide (a.sets=b.sets)
theorem Aq5(a b:Stm):Ajv a b=true↔a=b:=by
 cases a;cases b;simp[Ajv,Stm.mk.injEq];constructor
 ·grind
 ·grind
def Ah9:Sig:=⟨32,[(1,.sl .set false),(6,.bool),(15,.sl .set false),(16,.int .i64),(17,.int .i64)],[(2,.fn 130 [])],[],40,40,600,[],[]⟩
abbrev Of:=List SetE×Bool×List SetE×Int×Int
def Nw{R:Type}(rec:Of->Option R)(kx:Ex->Of->Option R)(v:Of):Option R:=match v with
 |(b,f,c,d,a) =>
 cond (decide (a<d)) (
  chk (inb a c.length) (
  chk (inb a b.length) (
   cond (decide (((at' .set c a).name)=((at' .set b a).name))) (
   cond (!(R9 (Qf ((at' .set c a).e)) (Qf ((at' .set b a).e)))) (
    kx .ret (b,false,c,d,a)) (
    rec (b,f,c,d,(wr .i64 (a+1))))) (
   kx .ret (b,false,c,d,a))))) (
  kx (.exit 0) (b,f,c,d,a))
def Ahu:Sig:=⟨32,[(1,.sl .expr false),(6,.bool),(15,.sl .expr false),(16,.int .i64),(17,.int .i64)],[(2,.fn 122 [])],[(0,.one (.sv .stmt)),(1,.one (.sv .stmt))],120,120,600,[],[]⟩
abbrev N8:=List Xpr×Bool×List Xpr×Int×Int×Stm×Stm
def Mb{R:Type}(rec:N8->Option R)(kx:Ex->N8->Option R)(v:N8):Option R:=match v with
 |(b,e,c,d,a,w4,w5) =>
 cond (decide (a<d)) (
  chk (inb a c.length) (
  chk (inb a b.length) (
   cond (!(R9 (at' .expr c a) (at' .expr b a))) (
   kx .ret (b,false,c,d,a,w4,w5)) (
   rec (b,e,c,d,(wr .i64 (a+1)),w4,w5))))) (
  kx (.exit 0) (b,e,c,d,a,w4,w5))
def Ag9:Sig:=⟨32,[(1,.sl .exprs false),(6,.bool),(15,.sl .exprs false),(16,.int .i64),(17,.int .i64)],[(2,.fn 128 [])],[(0,.one (.sv .stmt)),(1,.one (.sv .stmt))],40,40,400,[],[]⟩
abbrev Pb:=List (List Xpr)×Bool×List (List Xpr)×Int×Int×Stm×Stm
def Nn{R:Type}(k:Nat)(rec:Pb->Option R)(kx:Ex->Pb->Option R)(v:Pb):Option R:=match v with
 |(c,f,b,d,a,w2,w3) =>
 cond (decide (a<d)) (
  chk (inb a b.length) (
  chk (inb a c.length) (
   cond (!decide (((at' .exprs b a).length:Int)=((at' .exprs c a).length:Int))) (
   kx .ret (c,false,b,d,a,w2,w3)) (
   Aj (λrc=>Mb rc (λe vz=>match vz with|(_,i,_,_,_,g,h)=>match e with
    |.ret =>
    cond (!i) (
     kx .ret (c,false,b,d,a,g,h)) (
     rec (c,f,b,d,(wr .i64 (a+1)),g,h))
    |.exit 0 =>
    rec (c,f,b,d,(wr .i64 (a+1)),g,h)
    |_=>none)) k ((at' .exprs c a),false,(at' .exprs b a),((at' .exprs b a).length:Int),0,w2,w3))))) (
  kx (.exit 0) (c,f,b,d,a,w2,w3))
def Ag2:Sig:=⟨32,[(1,.sl .expr false),(6,.bool),(15,.sl .expr false),(16,.int .i64),(17,.int .i64)],[(2,.fn 122 [])],[(0,.one (.sv .stmt)),(1,.one (.sv .stmt))],40,40,200,[],[]⟩
abbrev Ov:=List Xpr×Bool×List Xpr×Int×Int×Stm×Stm
def Mo{R:Type}(rec:Ov->Option R)(kx:Ex->Ov->Option R)(v:Ov):Option R:=match v with
 |(v,v1,v2,v3,v4,w,w1) =>
 cond (decide (v4<v3)) (
  chk (inb v4 v2.length) (
  chk (inb v4 v.length) (
   cond (!(R9 (at' .expr v2 v4) (at' .expr v v4))) (
   kx .ret (v,false,v2,v3,v4,w,w1)) (
   rec (v,v1,v2,v3,(wr .i64 (v4+1)),w,w1))))) (
  kx (.exit 0) (v,v1,v2,v3,v4,w,w1))
def Aga(R:Type)(k:Nat):Px R:=pxO [(122,cA Ua)] [] [(4,Al k Ag2 (Mo))] []
def Qc(R:Type)(k:Nat):Px R:=pxO [(122,cA Ua)] [] [(4,Al k Ahu (Mb))] []
noncomputable def Wd(R:Type)(k:Nat):Px R:=pxO [(126,Aw 120 600 (Qc R k) Tryz.f126)] [] [] []
noncomputable def Aib(R:Type)(k:Nat):Px R:=pxO [(128,Aw 80 600 (Wd R k) Tryz.f128)] [] [(4,Al k Ag9 (Nn k))] []
def Wm(R:Type)(_k:Nat):Px R:=pxO [(122,cA Ua)] [] [] []
noncomputable def Af9(R:Type)(k:Nat):Px R:=pxO [(130,Aw 80 800 (Wm R k) Tryz.f130)] [] [(4,Al k Ah9 (Nw))] []
noncomputable def Asi(R:Type)(k:Nat):Px R:=pxO [(122,cA Ua),(123,cA A6m),(124,cA A38),(125,cA A6s),(126,Aw 40 200 (Aga R k) Tryz.f126),(127,Aw 40 400 (Aib R k) Tryz.f127),(129,Aw 40 600 (Af9 R k) Tryz.f129)] [] [] []
def Sa(k:Nat)(x:HV [.sv .stmt,.sv .stmt]):Option (HV [.bool]):=match x with
 |(a,b) =>
 let j9:=λ(p6:Bool) =>
  let j8:=λ(m:Bool) (q6:Stm) (q7:Stm) =>
  let j7:=λ(n:Bool) =>
   let j6:=λ(o:Bool) (c:Stm) (d:Stm) =>
   cond (o) (
    cond (!decide ((c.sets.length:Int)=(d.sets.length:Int))) (
    some false) (
    Aj (λrec=>Nw rec (λe vz=>match vz with|(_,q,_,_,_)=>match e with
     |.ret =>
     some q
     |.exit 0 =>
     some true
     |_=>none)) k (d.sets,false,c.sets,(c.sets.length:Int),0))) (
    some false)
   cond (n) (
   cond (!decide ((q6.rows.length:Int)=(q7.rows.length:Int))) (
    j6 false q6 q7) (
    Aj (λrec=>Nn k rec (λe vz=>match vz with|(_,r,_,_,_,f,g)=>match e with
    |.ret =>j6 r f g
    |.exit 0 =>j6 true f g
    |_=>none)) k (q7.rows,false,q6.rows,(q6.rows.length:Int),0,q6,q7))) (
   j6 false q6 q7)
  cond (p6) (
   j7 m) (
   j7 false)
  let j5:=λ(p7:Bool) =>
  let j4:=λ(p8:Bool) =>
   let j3:=λ(p9:Bool) =>
   cond (p9) (
    cond (!decide ((a.l.length:Int)=(b.l.length:Int))) (
    j8 false a b) (
    Aj (λrec=>Mo rec (λe vz=>match vz with|(_,v6,_,_,_,h,i)=>match e with
     |.ret =>
     j8 v6 h i
     |.exit 0 =>
     j8 true h i
     |_=>none)) k (b.l,false,a.l,(a.l.length:Int),0,a,b))) (
    j8 false a b)
   cond (p8) (
   j3 (Bva a.desc b.desc)) (
   j3 false)
  cond (p7) (
   j4 (Bj2 a.order b.order)) (
   j4 false)
  cond ((Bv1 a.cols b.cols)) (
  j5 (Bj2 a.names b.names)) (
  j5 false)
 let j2:=λ(p:Bool) =>
  let j1:=λ(p1:Bool) =>
  let j:=λ(p2:Bool) =>
   cond (p2) (
   cond (decide (a.most=b.most)) (
    j9 (R9 (Qf a.whr) (Qf b.whr))) (
    j9 false)) (
   j9 false)
  cond (p1) (
   j (decide (a.has=b.has))) (
   j false)
  cond (p) (
  j1 (decide (a.on=b.on))) (
  j1 false)
 cond (decide (a.kind=b.kind)) (
  j2 (decide (a.name=b.name))) (
  j2 false)
theorem A6k(k:Nat):FO 84 [.sv .stmt,.sv .stmt] [.bool] (Sa k):=fR (px:=Asi _ k) (n:=0) Tryz.func84 rfl (λcx H=>by have h1:Lv cx (Aga (HV [.bool]) k):=lv H (c1 H Qy Ae) Aa Ab;have hlastmts_0:=lO H h1 (b:=lp Tryz.f126 0) (k:=k) (n:=0) (s:=Ag2) (step:=Mo) (λ_ _ _ (_,_,_,_,_,_,_)=>by kernel_rfl) Ai;have h4:Lv cx (Qc (HV [.bool]) k):=lv H (c1 H Qy Ae) Aa Ab;have hlastmts_2:=lO H h4 (b:=lp Tryz.f126 0) (k:=k) (n:=0) (s:=Ahu) (step:=Mb) (λ_ _ _ (_,_,_,_,_,_,_)=>by kernel_rfl) Ai;have h3:Lv cx (Wd (HV [.bool]) k):=lv H (Am (cR H h4 Tryz.func126 rfl (n:=1) ((A2 Ai hlastmts_2))) Ae) Aa Ab;have h2:Lv cx (Aib (HV [.bool]) k):=lv H (Am (cR H h3 Tryz.func128 rfl (n:=0) (Ai)) Ae) Aa Ab;have hlastmts_1:=lO H h2 (b:=lp Tryz.f127 0) (k:=k) (n:=0) (s:=Ag9) (step:=Nn k) (λ_ _ _ (_,_,_,_,_,_,_)=>by kernel_rfl) Ai;have h6:Lv cx (Wm (HV [.bool]) k):=lv H (c1 H Qy Ae) Aa Ab;have h5:Lv cx (Af9 (HV [.bool]) k):=lv H (Am (cR H h6 Tryz.func130 rfl (n:=0) (Ai)) Ae) Aa Ab;have hlastmts_3:=lO H h5 (b:=lp Tryz.f129 0) (k:=k) (n:=0) (s:=Ah9) (step:=Nw) (λ_ _ _ (_,_,_,_,_)=>by kernel_rfl) Ai;have h0:Lv cx (Asi (HV [.bool]) k):=lv H (c1 H Qy (c1 H Bu4 (c1 H Btx (c1 H Bum (Am (cR H h1 Tryz.func126 rfl (n:=1) ((A2 Ai hlastmts_0))) (Am (cR H h2 Tryz.func127 rfl (n:=1) ((A2 Ai hlastmts_1))) (Am (cR H h5 Tryz.func129 rfl (n:=1) ((A2 Ai hlastmts_3))) Ae))))))) Aa Ab;exact⟨h0,Ai⟩) λ(_,_)=>by kernel_rfl
def A4u(a b:Stm):Bool:=Ajv a b
def A2w:FT [.sv .stmt,.sv .stmt] [.bool]:=λx=>some (A4u x.1 x.2)
theorem Aa3{α:Type}[DecidableEq α](x y : α)(l m:List α):decide (x::l=y::m)=(decide (x=y)&&decide (l=m)):=by simp
theorem Apt{R:Type}{kx:Ex->Ov->Option R}{l m:List Xpr}{s t:Stm}{c:Bool->Option R}(hn:ln l.length)(hm:l.length=m.length)
  (h1:∀i,kx .ret (m,false,l,(l.length:Int),i,s,t)=c false) (h2:∀q i,kx (.exit 0) (m,q,l,(l.length:Int),i,s,t)=c true) (k:Nat) (hk:l.length<k):Aj (λrec=>Mo rec kx) k (m,false,l,(l.length:Int),0,s,t)=c (decide (l=m)):=by
 refine(B1 l.length (λi=>(m,false,l,(l.length:Int),(i:Int),s,t)) (λi=>c (decide (l.drop i=m.drop i))) (λi hi rec hr =>?_) (λrec =>?_) k 0 (Nat.zero_le _) (by omega)).trans (by rw[Zq1,Zq1])
 ·have hi2:i<m.length:=by omega
  simp only[Mo,Cb hi,Ah,Au hi,Au hi2,chk,Aq (c :=.expr) hi,Aq (c :=.expr) hi2,Ao hi hn,hr,h1,Ay hi,Ay hi2,Aa3,R9,T5];cases decide (l[i]=m[i])<;>rfl
 ·simp only[Mo,Ds,Af,h2];rw[Zk1 (Zn1 _),Zk1 (by omega)];rfl
theorem Apl{R:Type}{kx:Ex->N8->Option R}{l m:List Xpr}{s t:Stm}{c:Bool->Option R}(hn:ln l.length)(hm:l.length=m.length)
  (h1:∀i,kx .ret (m,false,l,(l.length:Int),i,s,t)=c false) (h2:∀q i,kx (.exit 0) (m,q,l,(l.length:Int),i,s,t)=c true) (k:Nat) (hk:l.length<k):Aj (λrec=>Mb rec kx) k (m,false,l,(l.length:Int),0,s,t)=c (decide (l=m)):=by
 refine(B1 l.length (λi=>(m,false,l,(l.length:Int),(i:Int),s,t)) (λi=>c (decide (l.drop i=m.drop i))) (λi hi rec hr =>?_) (λrec =>?_) k 0 (Nat.zero_le _) (by omega)).trans (by rw[Zq1,Zq1])
 ·have hi2:i<m.length:=by omega
  simp only[Mb,Cb hi,Ah,Au hi,Au hi2,chk,Aq (c :=.expr) hi,Aq (c :=.expr) hi2,Ao hi hn,hr,h1,Ay hi,Ay hi2,Aa3,R9,T5];cases decide (l[i]=m[i])<;>rfl
 ·simp only[Mb,Ds,Af,h2];rw[Zk1 (Zn1 _),Zk1 (by omega)];rfl
theorem Api{R:Type}{kx:Ex->Pb->Option R}{l m:List (List Xpr)}{s t:Stm}{c:Bool->Option R}(hn:ln l.length)(hm:l.length=m.length)(hr0:∀x,x∈l->ln x.length)(k:Nat)(hkr:∀x,x∈l->List.length x<k)
  (h1:∀i,kx .ret (m,false,l,(l.length:Int),i,s,t)=c false) (h2:∀q i,kx (.exit 0) (m,q,l,(l.length:Int),i,s,t)=c true) (hk:l.length<k):Aj (λrec=>Nn k rec kx) k (m,false,l,(l.length:Int),0,s,t)=c (decide (l=m)):=by
 refine(B1 l.length (λi=>(m,false,l,(l.length:Int),(i:Int),s,t)) (λi=>c (decide (l.drop i=m.drop i))) (λi hi rec hr =>?_) (λrec =>?_) k 0 (Nat.zero_le _) (by omega)).trans (by rw[Zq1,Zq1])
 ·have hi2:i<m.length:=by omega
  simp only[Nn,Cb hi,Ah,Au hi,Au hi2,chk,Aq (c :=.exprs) hi,Aq (c :=.exprs) hi2,Ao hi hn,Ay hi,Ay hi2,Aa3];by_cases hlen:l[i].length=m[i].length
  ·rw[Ze1 (show(l[i].length:Int)=(m[i].length:Int) by omega),Zt1,Af];rw[Apl (c:=λb=>cond b (c (decide (l.drop (i+1)=m.drop (i+1)))) (c false)) (hr0 _ (List.getElem_mem hi)) hlen (λ_=>h1 _) (λ_ _=>hr) k (hkr _ (List.getElem_mem hi))];cases decide (l[i]=m[i])<;>rfl
  ·rw[Zd1 (show ¬(l[i].length:Int)=(m[i].length:Int) by omega),Zd1 (λh=>hlen (by rw[h])),h1];rfl
 ·simp only[Nn,Ds,Af,h2];rw[Zk1 (Zn1 _),Zk1 (by omega)];rfl
theorem Ap0{R:Type}{kx:Ex->Of->Option R}{l m:List SetE}{c:Bool->Option R}(hn:ln l.length)(hm:l.length=m.length)
  (h1:∀i,kx .ret (m,false,l,(l.length:Int),i)=c false) (h2:∀q i,kx (.exit 0) (m,q,l,(l.length:Int),i)=c true) (k:Nat) (hk:l.length<k):Aj (λrec=>Nw rec kx) k (m,false,l,(l.length:Int),0)=c (decide (l=m)):=by
 refine(B1 l.length (λi=>(m,false,l,(l.length:Int),(i:Int))) (λi=>c (decide (l.drop i=m.drop i))) (λi hi rec hr =>?_) (λrec =>?_) k 0 (Nat.zero_le _) (by omega)).trans (by rw[Zq1,Zq1])
 ·have hi2:i<m.length:=by omega
  simp only[Nw,Cb hi,Ah,Au hi,Au hi2,chk,Aq (c :=.set) hi,Aq (c :=.set) hi2,Ao hi hn,hr,h1,Ay hi,Ay hi2,Aa3,R9,<-A16,Awv,T2];cases decide (l[i].name=m[i].name)<;>cases Kq l[i].e m[i].e<;>rfl
 ·simp only[Nw,Ds,Af,h2];rw[Zk1 (Zn1 _),Zk1 (by omega)];rfl
theorem Awm{α:Type}[DecidableEq α]{l m:List α}(h:¬l.length=m.length):decide (l=m)=false:=Zd1 λe=>h (by rw[e])
def Bu7(s:Stm):Nat:=s.l.length+s.rows.length+s.sets.length+(s.rows.map List.length).sum
theorem A9w{l:List (List Xpr)}{x:List Xpr}(h:x∈l):x.length<=(l.map List.length).sum:=by
 induction l with
 |nil=>cases h
 |cons y l ih =>
  simp;rcases List.mem_cons.1 h with rfl|h
  ·omega
  ·have:=ih h;omega
theorem Bnj(k:Nat)(a b:Stm)(hb:BdStm a)(hk:Bu7 a<k):Sa k (a,b)=some (Ajv a b):=by
 have hk2:=hk;simp[Bu7] at hk2;simp -zeta only [Sa,R9,T5,T2,Bv1,Bj2,Bva];extract_lets j6 j9 j j1 j2;have h6:∀q,j6 q a b=some (q&&decide (a.sets=b.sets)):=λq=>by
  simp -zeta only [j6];cases q with
  |false=>rfl
  |true =>
   rw[Ah,Bool.true_and];by_cases hs:a.sets.length=b.sets.length
   ·rw[Ze1 (show(a.sets.length:Int)=(b.sets.length:Int) by omega),Zt1,Af];exact Ap0 (c:=some) hb.sets.1 hs (λ_=>rfl) (λ_ _=>rfl) k (by omega)
   ·rw[Zd1 (show ¬(a.sets.length:Int)=(b.sets.length:Int) by omega),Awm hs];rfl
 have h9:∀p,j9 p=some (p&&(decide (a.cols=b.cols)&&decide (a.names=b.names)&&decide (a.order=b.order)&&decide (a.desc=b.desc)&&decide (a.l=b.l))&&decide (a.rows=b.rows)&&decide (a.sets=b.sets)):=λp=>by
  simp -zeta only [j9];extract_lets j8 j3 j4 j5;have h8:∀q,j8 q a b=some (p&&q&&decide (a.rows=b.rows)&&decide (a.sets=b.sets)):=λq=>by
   simp -zeta only [j8];extract_lets j7;have h7:∀q,j7 q=some (q&&decide (a.rows=b.rows)&&decide (a.sets=b.sets)):=λq=>by
    simp -zeta only [j7];cases q with
    |false=>exact(h6 false).trans rfl
    |true =>
     rw[Ah,Bool.true_and];by_cases hs:a.rows.length=b.rows.length
     ·rw[Ze1 (show(a.rows.length:Int)=(b.rows.length:Int) by omega),Zt1,Af];refine(Api (c:=λq=>j6 q a b) hb.rows.1 hs (λx hx=>(hb.rows.2 x hx).1) k (λx hx=>by have:=A9w hx;omega) (λ_=>rfl) (λ_ _=>rfl) (by omega)).trans (h6 _)
     ·rw[Zd1 (show ¬(a.rows.length:Int)=(b.rows.length:Int) by omega),Awm hs];exact(h6 false).trans rfl
   cases p with|false=>exact(h7 false).trans rfl|true=>exact(h7 q).trans (by rw[Bool.true_and])
  have h3:∀q,j3 q=some (p&&(q&&decide (a.l=b.l))&&decide (a.rows=b.rows)&&decide (a.sets=b.sets)):=λq=>by
   simp -zeta only [j3];cases q with
   |false=>exact h8 false
   |true =>
    rw[Ah,Bool.true_and];by_cases hs:a.l.length=b.l.length
    ·rw[Ze1 (show(a.l.length:Int)=(b.l.length:Int) by omega),Zt1,Af];exact(Apt (c:=λq=>j8 q a b) hb.l.1 hs (λ_=>rfl) (λ_ _=>rfl) k (by omega)).trans (h8 _)
    ·rw[Zd1 (show ¬(a.l.length:Int)=(b.l.length:Int) by omega),Awm hs];exact h8 false
  have h4:∀q,j4 q=some (p&&(q&&decide (a.desc=b.desc)&&decide (a.l=b.l))&&decide (a.rows=b.rows)&&decide (a.sets=b.sets)):=λq=>by simp -zeta only [j4];cases q with|false=>exact h3 false|true=>exact(h3 _).trans (by rw[Bool.true_and])
  have h5:∀q,j5 q=some (p&&(q&&decide (a.order=b.order)&&decide (a.desc=b.desc)&&decide (a.l=b.l))&&decide (a.rows=b.rows)&&decide (a.sets=b.sets)):=λq=>by simp -zeta only [j5];cases q with|false=>exact h4 false|true=>exact(h4 _).trans (by rw[Bool.true_and])
  cases decide (a.cols=b.cols) with|false=>exact h5 false|true=>exact(h5 _).trans (by simp)
 simp -zeta only [j2,j1,j,Ajv];cases decide (a.kind=b.kind) with
 |false=>exact(h9 false).trans rfl
 |true =>
  cases decide (a.name=b.name) with
  |false=>exact(h9 false).trans rfl
  |true =>
   cases decide (a.on=b.on) with
   |false=>exact(h9 false).trans rfl
   |true =>
    cases decide (a.has=b.has) with
    |false=>exact(h9 false).trans rfl
    |true =>cases decide (a.most=b.most) with|false=>exact(h9 false).trans rfl|true=>exact(h9 _).trans (by simp)
theorem Bd5:FO 84 [.sv .stmt,.sv .stmt] [.bool] A2w :=.fin 0 A6k λ(a,b) r hb hx=>⟨Bu7 a+1,(Bnj (Bu7 a+1) a b hb.1 (by omega)).trans hx⟩
instance:DecidableEq Stm:=λa b=>decidable_of_iff (Ajv a b=true) (Aq5 a b)
theorem Bd2(a b:Stm):Ajv a b=decide (a=b):=by rw[Bool.eq_iff_iff,Aq5,Zg1]
def Brq(R:Type):Px R:=pxO [] [] [] []
def Zv(x:HV [.int .i64]):Option (HV [.bool]):=match x with
 |n =>
 cond (decide (1<=n)) (
  some (decide (n<=100))) (
  some false)
theorem Bfb:FO 87 [.int .i64] [.bool] (Zv):=fR (px:=Brq _) (n:=0) Tryz.func87 rfl (λ_ H=>⟨lv H Ae Aa Ab,Ai⟩) λ_=>by kernel_rfl
def De(n:Int):Bool :=
 cond (decide (1<=n)) (
  (decide (n<=100))) (
  false)
theorem Bg8(x:HV [.int .i64]):Zv x=some (De x):=by
 first
  |exact rfl
  |simp only[Zv,De,A4]
def Zz:FT [.int .i64] [.bool]:=λx=>some (De x)
theorem Ab0:FO 87 [.int .i64] [.bool] Zz :=.fin0 Bfb λx _ _ hx=>(Bg8 x).trans hx
def Akq:Sig:=⟨26,[(0,.sl .str false),(2,.bool),(5,.sl .str false),(6,.int .i64),(7,.int .i64)],[],[],0,0,0,[],[]⟩
abbrev Uz:=List Str×Bool×List Str×Int×Int
def Tn{R:Type}(rec:Uz->Option R)(kx:Ex->Uz->Option R)(v:Uz):Option R:=match v with
 |(v,v1,v2,v3,v4) =>
 cond (decide (v4<v3)) (
  chk (inb v4 v2.length) (
  cond (!(G2 (at' .str v2 v4))) (
   kx .ret (v,false,v2,v3,v4)) (
   chk (upto 0 v4 v.length) (
   cond ((A0n (v.take (v4:Int).toNat) (at' .str v2 v4))) (
    kx .ret (v,false,v2,v3,v4)) (
    rec (v,v1,v2,v3,(wr .i64 (v4+1)))))))) (
  kx (.exit 0) (v,v1,v2,v3,v4))
def A11(R:Type)(k:Nat):Px R:=pxO [(83,cA Km),(131,cA A7t)] [] [(2,Al k Akq (Tn))] []
def Akf(k:Nat)(x:HV [.sl .str false]):Option (HV [.bool]):=match x with
 |l =>
 Aj (λrec=>Tn rec (λe vz=>match vz with|(v5,v6,_,_,_)=>match e with
  |.ret =>
  some v6
  |.exit 0 =>
  some (decide ((v5.length:Int)<=100))
  |_=>none)) k (l,false,l,(l.length:Int),0)
theorem Bfx(k:Nat):FO 88 [.sl .str false] [.bool] (Akf k):=fR (px:=A11 _ k) (n:=1) Tryz.func88 rfl (λcx H=>by have h0:Lv cx (A11 (HV [.bool]) k):=lv H (c1 H Mt (c1 H Bdx Ae)) Aa Ab;have hlaonce_0:=lO H h0 (b:=lp Tryz.f88 0) (k:=k) (n:=0) (s:=Akq) (step:=Tn) (λ_ _ _ (_,_,_,_,_)=>by kernel_rfl) Ai;exact⟨h0,(A2 Ai hlaonce_0)⟩) λ_=>by kernel_rfl
def Arb:List Str->List Str->Bool
 |_,[]=>true
 |seen,s::r=>G2 s && !seen.contains s&&Arb (seen++[s]) r
def D4(l:List Str):Bool:=Arb [] l&&decide (l.length<=100)
def Acs:FT [.sl .str false] [.bool]:=λx=>some (D4 x)
theorem A8q{l:List Str}{i:Nat}(hi:i<l.length):l.take (i+1)=l.take i++[l[i]]:=by simp_all
theorem A6v{R:Type}{kx:Ex->Uz->Option R}{l:List Str}{c:Bool->Option R}(hn:ln l.length)(h1:∀i,kx .ret (l,false,l,(l.length:Int),i)=c false)(h2:∀q i,kx (.exit 0) (l,q,l,(l.length:Int),i)=c true)(k:Nat)(hk:l.length<k) :
  Aj (λrec=>Tn rec kx) k (l,false,l,(l.length:Int),0)=c (Arb [] l):=by
 refine(B1 l.length (λi=>(l,false,l,(l.length:Int),(i:Int))) (λi=>c (Arb (l.take i) (l.drop i))) (λi hi rec hr =>?_) (λrec =>?_) k 0 (Nat.zero_le _) (by omega)).trans (by rw[Zq1,List.take_zero])
 ·have hu:upto 0 (i:Int) l.length=true:=by simp[upto];omega
  simp only[Tn,Cb hi,Au hi,Aq (c :=.str) hi,Ao hi hn,hr,h1,Ay hi,Arb,hu,Int.toNat_natCast,Bdj,A8q hi];cases G2 l[i]<;>cases (l.take i).contains l[i]<;>rfl
 ·simp only[Tn,Ds,h2];rw[Zk1 (Zn1 _)];rfl
theorem Ape:FO 88 [.sl .str false] [.bool] Acs :=.fin 0 Bfx λl r hb hx=>⟨l.length+1,by simp only[Acs,Za1] at hx;rw[<-hx];simp only[Akf];refine(A6v (l:=l) (c:=λb=>cond b (some (decide ((l.length:Int)<=100))) (some false)) hb.1 (λ_=>rfl) (λ_ _=>rfl) (l.length+1) (by omega)).trans ?_;rw[show decide ((l.length:Int)<=100)=decide (l.length<=100) from Zy1.2 (by omega),D4];cases Arb [] l<;>rfl⟩
def Ag5:Sig:=⟨19,[(0,.sl .expr false),(4,.int .i64),(7,.int .i64),(8,.int .i64)],[(1,.fn 133 [])],[],80,80,400,[],[]⟩
abbrev Po:=List Xpr×Int×Int×Int
def L9{R:Type}(rec:Po->Option R)(kx:Ex->Po->Option R)(v:Po):Option R:=match v with
 |(v,v1,v2,v3) =>
 cond (decide (v3<v2)) (
  chk (inb v3 v.length) (
  cond (!(C2 (at' .expr v v3) 30)) (
   kx .ret (v,v3,v2,v3)) (
   rec (v,v1,v2,(wr .i64 (v3+1)))))) (
  kx (.exit 0) (v,v1,v2,v3))
def P4(R:Type)(_k:Nat):Px R:=pxO [(134,cA Qz)] [] [] []
noncomputable def Wb(R:Type)(k:Nat):Px R:=pxO [(133,Aw 120 600 (P4 R k) Tryz.f133)] [] [(2,Al k Ag5 (L9))] []
noncomputable def Aif(R:Type)(k:Nat):Px R:=pxO [(184,Aw 80 400 (Wb R k) Tryz.f184)] [] [] []
noncomputable def Arw(R:Type)(k:Nat):Px R:=pxO [(132,Aw 40 200 (Aif R k) Tryz.f132)] [] [] []
def Aia(k:Nat)(x:HV [.sl .expr false]):Option (HV [.bool]):=match x with
 |l =>
 cond (decide ((l.length:Int)<=100)) (
  Aj (λrec=>L9 rec (λe vz=>match vz with|(_,v5,_,_)=>match e with
  |.ret =>some (!(decide (0<=v5)))
  |.exit 0 =>some true
  |_=>none)) k (l,0,(l.length:Int),0)) (
  some false)
theorem A4b(k:Nat):FO 89 [.sl .expr false] [.bool] (Aia k):=fR (px:=Arw _ k) (n:=0) Tryz.func89 rfl (λcx H=>by have h3:Lv cx (P4 (HV [.bool]) k):=lv H (c1 H To Ae) Aa Ab;have h2:Lv cx (Wb (HV [.bool]) k):=lv H (Am (cR H h3 Tryz.func133 rfl (n:=0) (Ai)) Ae) Aa Ab;have hlaexprs_0:=lO H h2 (b:=lp Tryz.f184 0) (k:=k) (n:=0) (s:=Ag5) (step:=L9) (λ_ _ _ (_,_,_,_)=>by kernel_rfl) Ai;have h1:Lv cx (Aif (HV [.bool]) k):=lv H (Am (cR H h2 Tryz.func184 rfl (n:=1) ((A2 Ai hlaexprs_0))) Ae) Aa Ab;have h0:Lv cx (Arw (HV [.bool]) k):=lv H (Am (cR H h1 Tryz.func132 rfl (n:=0) (Ai)) Ae) Aa Ab;exact⟨h0,Ai⟩) λ_=>by kernel_rfl
def Lw(l:List Xpr):Bool:=decide (l.length<=100)&&l.all λe=>C2 e 30
def Acg:FT [.sl .expr false] [.bool]:=λx=>some (Lw x)
theorem Ay9{R:Type}{kx:Ex->Po->Option R}{l:List Xpr}{c:Bool->Option R}(hn:ln l.length)(h1:∀i:Nat,kx .ret (l,(i:Int),(l.length:Int),(i:Int))=c false)(h2:∀q i,kx (.exit 0) (l,q,(l.length:Int),i)=c true)(k:Nat)(hk:l.length<k) :
  Aj (λrec=>L9 rec kx) k (l,0,(l.length:Int),0)=c (l.all λe=>C2 e 30):=by
 refine(B1 l.length (λi=>(l,(0:Int),(l.length:Int),(i:Int))) (λi=>c ((l.drop i).all λe=>C2 e 30)) (λi hi rec hr =>?_) (λrec =>?_) k 0 (Nat.zero_le _) (by omega)).trans (by rw[Zq1])
 ·simp only[L9,Cb hi,Au hi,Aq (c :=.expr) hi,Ao hi hn,hr,h1,Ay hi,Zv1];cases C2 l[i] 30<;>rfl
 ·simp only[L9,Ds,h2];rw[Zk1 (Zn1 _)];rfl
theorem Asb:FO 89 [.sl .expr false] [.bool] Acg :=.fin 0 A4b λl r hb hx=>⟨l.length+1,by
 simp only[Acg,Za1] at hx;rw[<-hx];simp only[Aia,Lw];rw[show decide ((l.length:Int)<=100)=decide (l.length<=100) from Zy1.2 (by omega)];cases decide (l.length<=100) with
 |false=>rfl
 |true =>rw[Ah,Bool.true_and];exact Ay9 (l:=l) (c:=some) hb.1 (λi=>by simp) (λ_ _=>rfl) (l.length+1) (by omega)⟩
def Ana:Sig:=⟨19,[(0,.sl .exprs false),(4,.int .i64),(7,.int .i64),(8,.int .i64)],[(1,.fn 136 [])],[],80,80,400,[],[]⟩
abbrev Uc:=List (List Xpr)×Int×Int×Int
def Vp{R:Type}(rec:Uc->Option R)(kx:Ex->Uc->Option R)(v:Uc):Option R:=match v with
 |(v,v1,v2,v3) =>
 cond (decide (v3<v2)) (
  chk (inb v3 v.length) (
  cond (decide (((at' .exprs v v3).length:Int)=0)) (
   kx .ret (v,v3,v2,v3)) (
   cond (!(Lw (at' .exprs v v3))) (
   kx .ret (v,v3,v2,v3)) (
   rec (v,v1,v2,(wr .i64 (v3+1))))))) (
  kx (.exit 0) (v,v1,v2,v3))
def Ru(R:Type)(_k:Nat):Px R:=pxO [(89,cA Acg)] [] [] []
noncomputable def Aal(R:Type)(k:Nat):Px R:=pxO [(136,Aw 120 600 (Ru R k) Tryz.f136)] [] [(2,Al k Ana (Vp))] []
noncomputable def Ant(R:Type)(k:Nat):Px R:=pxO [(187,Aw 80 400 (Aal R k) Tryz.f187)] [] [] []
noncomputable def Az6(R:Type)(k:Nat):Px R:=pxO [(87,cA Zz),(135,Aw 40 200 (Ant R k) Tryz.f135)] [] [] []
def Ali(k:Nat)(x:HV [.sl .exprs false]):Option (HV [.bool]):=match x with
 |l =>
 cond ((De (l.length:Int))) (
  Aj (λrec=>Vp rec (λe vz=>match vz with|(_,v5,_,_)=>match e with
  |.ret =>some (!(decide (0<=v5)))
  |.exit 0 =>some true
  |_=>none)) k (l,0,(l.length:Int),0)) (
  some false)
theorem Beq(k:Nat):FO 90 [.sl .exprs false] [.bool] (Ali k):=fR (px:=Az6 _ k) (n:=0) Tryz.func90 rfl (λcx H=>by have h3:Lv cx (Ru (HV [.bool]) k):=lv H (c1 H Asb Ae) Aa Ab;have h2:Lv cx (Aal (HV [.bool]) k):=lv H (Am (cR H h3 Tryz.func136 rfl (n:=0) (Ai)) Ae) Aa Ab;have hlarows_0:=lO H h2 (b:=lp Tryz.f187 0) (k:=k) (n:=0) (s:=Ana) (step:=Vp) (λ_ _ _ (_,_,_,_)=>by kernel_rfl) Ai;have h1:Lv cx (Ant (HV [.bool]) k):=lv H (Am (cR H h2 Tryz.func187 rfl (n:=1) ((A2 Ai hlarows_0))) Ae) Aa Ab;have h0:Lv cx (Az6 (HV [.bool]) k):=lv H (c1 H Ab0 (Am (cR H h1 Tryz.func135 rfl (n:=0) (Ai)) Ae)) Aa Ab;exact⟨h0,Ai⟩) λ_=>by kernel_rfl
def Bcr(r:List Xpr):Bool := !decide (r.length=0)&&Lw r
def A0t(l:List (List Xpr)):Bool:=De (l.length:Int)&&l.all Bcr
def Awj:FT [.sl .exprs false] [.bool]:=λx=>some (A0t x)
theorem A7f{R:Type}{kx:Ex->Uc->Option R}{l:List (List Xpr)}{c:Bool->Option R}(hn:ln l.length)(h1:∀i:Nat,kx .ret (l,(i:Int),(l.length:Int),(i:Int))=c false)(h2:∀q i,kx (.exit 0) (l,q,(l.length:Int),i)=c true)(k:Nat)(hk:l.length<k) :
  Aj (λrec=>Vp rec kx) k (l,0,(l.length:Int),0)=c (l.all Bcr):=by
 refine(B1 l.length (λi=>(l,(0:Int),(l.length:Int),(i:Int))) (λi=>c ((l.drop i).all Bcr)) (λi hi rec hr =>?_) (λrec =>?_) k 0 (Nat.zero_le _) (by omega)).trans (by rw[Zq1])
 ·simp only[Vp,Cb hi,Au hi,chk,Aq (c :=.exprs) hi,Ao hi hn,hr,h1,Ay hi,Zv1,Bcr];rw[show decide ((l[i].length:Int)=0)=decide (l[i].length=0) from Zy1.2 (by omega)];cases decide (l[i].length=0)<;>cases Lw l[i]<;>rfl
 ·simp only[Vp,Ds,h2];rw[Zk1 (Zn1 _)];rfl
theorem Blj:FO 90 [.sl .exprs false] [.bool] Awj :=.fin 0 Beq λl r hb hx=>⟨l.length+1,by
 simp only[Awj,Za1] at hx;rw[<-hx];simp only[Ali,A0t];cases De (l.length:Int) with
 |false=>rfl
 |true =>rw[Ah,Bool.true_and];exact A7f (l:=l) (c:=some) hb.1 (λi=>by simp) (λ_ _=>rfl) (l.length+1) (by omega)⟩
def Bl0(R:Type):Px R:=pxO [(122,cA Ua)] [] [] []
def Y9(x:HV [.sv .expr]):Option (HV [.bool]):=match x with
 |e =>
 some (R9 e (Xpr.mk 0 ⟨0,0,[]⟩ [] []))
theorem Bjh:FO 137 [.sv .expr] [.bool] (Y9):=fR (px:=Bl0 _) (n:=0) Tryz.func137 rfl (λ_ H=>⟨lv H (c1 H Qy Ae) Aa Ab,Ai⟩) λ_=>by kernel_rfl
def A2n(e:Xpr):Bool :=(R9 e (Xpr.mk 0 ⟨0,0,[]⟩ [] []))
theorem Bh7(x:HV [.sv .expr]):Y9 x=some (A2n x):=by
 first
  |exact rfl
  |simp only[Y9,A2n,A4]
def Bdi:FT [.sv .expr] [.bool]:=λx=>some (A2n x)
theorem Bqx:FO 137 [.sv .expr] [.bool] Bdi :=.fin0 Bjh λx _ _ hx=>(Bh7 x).trans hx
def Bgs(R:Type):Px R:=pxO [(137,cA Bdi),(134,cA Qz)] [] [] []
def R4(x:HV [.sv .stmt]):Option (HV [.bool]):=match x with
 |s =>
 cond (!s.has) (
  some (A2n (Qf s.whr))) (
  some (C2 (Qf s.whr) 30))
theorem A68:FO 92 [.sv .stmt] [.bool] (R4):=fR (px:=Bgs _) (n:=0) Tryz.func92 rfl (λ_ H=>⟨lv H (c1 H Bqx (c1 H To Ae)) Aa Ab,Ai⟩) λ_=>by kernel_rfl
def L3(s:Stm):Bool :=
 cond (!s.has) (
  (A2n (Qf s.whr))) (
  (C2 (Qf s.whr) 30))
theorem A62(x:HV [.sv .stmt]):R4 x=some (L3 x):=by
 first
  |exact rfl
  |simp only[R4,L3,A4]
def Ay6:FT [.sv .stmt] [.bool]:=λx=>some (L3 x)
theorem Bd7:FO 92 [.sv .stmt] [.bool] Ay6 :=.fin0 A68 λx _ _ hx=>(A62 x).trans hx
def Ak5:Sig:=⟨44,[(0,.sl .col false),(2,.bool),(3,.sl .str true),(6,.sl .col false),(7,.int .i64),(8,.int .i64)],[],[],0,0,0,[],[]⟩
abbrev Ui:=List Col×Bool×List Str×List Col×Int×Int
def Uw{R:Type}(rec:Ui->Option R)(kx:Ex->Ui->Option R)(v:Ui):Option R:=match v with
 |(v,v1,v2,v3,v4,v5) =>
 cond (decide (v5<v4)) (
  chk (inb v5 v3.length) (
  let j:=λ(p:Bool) =>
   cond (p) (
   kx .ret (v,false,v2,v3,v4,v5)) (
   cond (!decide (((at' .col v3 v5).ref)=[])) (
    cond (!(G2 ((at' .col v3 v5).ref))) (
    kx .ret (v,false,v2,v3,v4,v5)) (
    chk (decide (v2.length+1<=Ag)) (
     rec (v,v1,(v2++[((at' .col v3 v5).name)]),v3,v4,(wr .i64 (v5+1)))))) (
    chk (decide (v2.length+1<=Ag)) (
    rec (v,v1,(v2++[((at' .col v3 v5).name)]),v3,v4,(wr .i64 (v5+1))))))
  cond (decide ((at' .col v3 v5).kind<2)) (
   j true) (
   j (decide (5<(at' .col v3 v5).kind))))) (
  kx (.exit 0) (v,v1,v2,v3,v4,v5))
def A3e(R:Type)(k:Nat):Px R:=pxO [(83,cA Km),(87,cA Zz),(88,cA Acs)] [] [(3,Al k Ak5 (Uw))] []
def Anx(k:Nat)(x:HV [.sl .col false]):Option (HV [.bool]):=match x with
 |l =>
 Aj (λrec=>Uw rec (λe vz=>match vz with|(v6,v7,v8,_,_,_)=>match e with
  |.ret =>
  some v7
  |.exit 0 =>
  cond ((De (v6.length:Int))) (
   some (D4 v8)) (
   some false)
  |_=>none)) k (l,false,[],l,(l.length:Int),0)
theorem Bfv(k:Nat):FO 86 [.sl .col false] [.bool] (Anx k):=fR (px:=A3e _ k) (n:=1) Tryz.func86 rfl (λcx H=>by have h0:Lv cx (A3e (HV [.bool]) k):=lv H (c1 H Mt (c1 H Ab0 (c1 H Ape Ae))) Aa Ab;have hlacols_0:=lO H h0 (b:=lp Tryz.f86 0) (k:=k) (n:=0) (s:=Ak5) (step:=Uw) (λ_ _ _ (_,_,_,_,_,_)=>by kernel_rfl) Ai;exact⟨h0,(A2 Ai hlacols_0)⟩) λ_=>by kernel_rfl
def Anv(c:Col):Bool:=decide (2<=c.kind)&&decide (c.kind<=5)&&(decide (c.ref=[])||G2 c.ref)
def Bdq(l:List Col):Option Bool:=if l.length<=1000000 then some (l.all Anv&&De (l.length:Int)&&D4 (l.map (·.name))) else none
def Au3:FT [.sl .col false] [.bool]:=λx=>Bdq x
theorem A5k{R:Type}{kx:Ex->Ui->Option R}{l:List Col}{c:Bool->Option R}(hn:l.length<=1000000)(h1:∀o i,kx .ret (l,false,o,l,(l.length:Int),i)=c false)(h2:∀q o i,kx (.exit 0) (l,q,o,l,(l.length:Int),i)=cond (De (l.length:Int)) (c (D4 o)) (c false))(k:Nat)(hk:l.length<k) :
  Aj (λrec=>Uw rec kx) k (l,false,[],l,(l.length:Int),0)=c (l.all Anv&&De (l.length:Int)&&D4 (l.map (·.name))):=by
 have hl:ln l.length:=by simp[ln];omega
 refine(B1 l.length (λi=>(l,false,(l.take i).map (·.name),l,(l.length:Int),(i:Int))) (λi=>c ((l.drop i).all Anv&&De (l.length:Int)&&D4 (l.map (·.name)))) (λi hi rec hr =>?_) (λrec =>?_) k 0 (Nat.zero_le _) (by omega)).trans (by rw[Zq1])
 ·have ht:(l.take (i+1)).map (·.name)=(l.take i).map (·.name)++[l[i].name]:=by rw[List.take_add_one,Zo1 hi,List.map_append];rfl
  have hlen:((l.take i).map (·.name)).length+1<=Ag:=by simp[List.length_map,List.length_take,Ag];omega
  rw[ht] at hr;simp only[Uw,Cb hi,Ah,Au hi,chk,Aq (c :=.col) hi,Ao hi hl,hr,h1,Ay hi,Zv1,Anv,Ze1 hlen];by_cases ha:l[i].kind<2
  ·grind
  ·grind
 ·simp only[Uw,Ds,Af,h2];rw[Zk1 (Zn1 _),List.take_length];cases De (l.length:Int)<;>rfl
theorem Bk3:FO 86 [.sl .col false] [.bool] Au3 :=.fin 0 Bfv λl r hb hx=>⟨l.length+1,by
 simp only[Au3,Bdq] at hx;split at hx
 ·rename_i h;rw[<-hx];simp only[Anx];refine A5k (l:=l) (c:=some) h (λ_ _=>rfl) (λ_ _ _ =>?_) (l.length+1) (by omega);cases De (l.length:Int)<;>rfl
 ·cases hx⟩
def Aj8:Sig:=⟨29,[(0,.sl .set false),(2,.bool),(3,.sl .str true),(6,.sl .set false),(7,.int .i64),(8,.int .i64)],[],[],0,0,0,[],[]⟩
abbrev Tj:=List SetE×Bool×List Str×List SetE×Int×Int
def Ud{R:Type}(rec:Tj->Option R)(kx:Ex->Tj->Option R)(v:Tj):Option R:=match v with
 |(v,v1,v2,v3,v4,v5) =>
 cond (decide (v5<v4)) (
  chk (inb v5 v3.length) (
  cond (!(C2 (Qf ((at' .set v3 v5).e)) 30)) (
   kx .ret (v,false,v2,v3,v4,v5)) (
   chk (decide (v2.length+1<=Ag)) (
   rec (v,v1,(v2++[((at' .set v3 v5).name)]),v3,v4,(wr .i64 (v5+1))))))) (
  kx (.exit 0) (v,v1,v2,v3,v4,v5))
def A3z(R:Type)(k:Nat):Px R:=pxO [(134,cA Qz),(87,cA Zz),(88,cA Acs)] [] [(3,Al k Aj8 (Ud))] []
def Akp(k:Nat)(x:HV [.sl .set false]):Option (HV [.bool]):=match x with
 |l =>
 Aj (λrec=>Ud rec (λe vz=>match vz with|(v6,v7,v8,_,_,_)=>match e with
  |.ret =>
  some v7
  |.exit 0 =>
  cond ((De (v6.length:Int))) (
   some (D4 v8)) (
   some false)
  |_=>none)) k (l,false,[],l,(l.length:Int),0)
theorem Beg(k:Nat):FO 91 [.sl .set false] [.bool] (Akp k):=fR (px:=A3z _ k) (n:=1) Tryz.func91 rfl (λcx H=>by have h0:Lv cx (A3z (HV [.bool]) k):=lv H (c1 H To (c1 H Ab0 (c1 H Ape Ae))) Aa Ab;have hlasets_0:=lO H h0 (b:=lp Tryz.f91 0) (k:=k) (n:=0) (s:=Aj8) (step:=Ud) (λ_ _ _ (_,_,_,_,_,_)=>by kernel_rfl) Ai;exact⟨h0,(A2 Ai hlasets_0)⟩) λ_=>by kernel_rfl
def Ba8(l:List SetE):Option Bool:=if l.length<=1000000 then some (l.all (λx=>C2 x.e 30)&&De (l.length:Int)&&D4 (l.map (·.name))) else none
def Axp:FT [.sl .set false] [.bool]:=λx=>Ba8 x
theorem A7a{R:Type}{kx:Ex->Tj->Option R}{l:List SetE}{c:Bool->Option R}(hn:l.length<=1000000)(h1:∀o i,kx .ret (l,false,o,l,(l.length:Int),i)=c false)(h2:∀q o i,kx (.exit 0) (l,q,o,l,(l.length:Int),i)=cond (De (l.length:Int)) (c (D4 o)) (c false))(k:Nat)(hk:l.length<k) :
  Aj (λrec=>Ud rec kx) k (l,false,[],l,(l.length:Int),0)=c (l.all (λx=>C2 x.e 30)&&De (l.length:Int)&&D4 (l.map (·.name))):=by
 have hl:ln l.length:=by simp[ln];omega
 refine(B1 l.length (λi=>(l,false,(l.take i).map (·.name),l,(l.length:Int),(i:Int))) (λi=>c ((l.drop i).all (λx=>C2 x.e 30)&&De (l.length:Int)&&D4 (l.map (·.name)))) (λi hi rec hr =>?_) (λrec =>?_) k 0 (Nat.zero_le _) (by omega)).trans (by rw[Zq1])
 ·have ht:(l.take (i+1)).map (·.name)=(l.take i).map (·.name)++[l[i].name]:=by rw[List.take_add_one,Zo1 hi,List.map_append];rfl
  have hlen:((l.take i).map (·.name)).length+1<=Ag:=by simp[List.length_map,List.length_take,Ag];omega
  rw[ht] at hr;simp only[Ud,Cb hi,Ah,Au hi,chk,Aq (c :=.set) hi,Ao hi hl,hr,h1,Ay hi,Zv1,Ze1 hlen,T2];cases C2 l[i].e 30<;>rfl
 ·simp only[Ud,Ds,Af,h2];rw[Zk1 (Zn1 _),List.take_length];cases De (l.length:Int)<;>rfl
theorem Bl4:FO 91 [.sl .set false] [.bool] Axp :=.fin 0 Beg λl r hb hx=>⟨l.length+1,by
 simp only[Axp,Ba8] at hx;split at hx
 ·rename_i h;rw[<-hx];simp only[Akp];refine A7a (l:=l) (c:=some) h (λ_ _=>rfl) (λ_ _ _ =>?_) (l.length+1) (by omega);cases De (l.length:Int)<;>rfl
 ·cases hx⟩
def noX:Xpr :=.mk 0 ⟨0,0,[]⟩ [] []
def noS:Stm:=⟨0,[],[],[],[],[],[],[],false,noX,[],[],0⟩
def Brf(R:Type):Px R:=pxO [] [] [] []
def Amn(x:HV [.sv .stmt]):Option (HV [.sv .stmt]):=match x with
 |s =>
 cond (decide (s.kind=1)) (
  some (Stm.mk 0 [] s.on [] [] [] s.rows s.sets s.has (Qf s.whr) s.order s.desc s.most)) (
  cond (decide (s.kind=3)) (
  some (Stm.mk 0 [] [] s.cols [] s.l s.rows s.sets s.has (Qf s.whr) s.order s.desc s.most)) (
  cond (decide (s.kind=5)) (
   some (Stm.mk 0 [] s.on s.cols s.names s.l [] s.sets s.has (Qf s.whr) s.order s.desc s.most)) (
   cond (decide (s.kind=6)) (
   some (Stm.mk 0 [] s.on s.cols s.names s.l s.rows [] false (Xpr.mk 0 ⟨0,0,[]⟩ [] []) s.order s.desc s.most)) (
   cond (decide (s.kind=7)) (
    some (Stm.mk 0 [] s.on s.cols s.names s.l s.rows s.sets false (Xpr.mk 0 ⟨0,0,[]⟩ [] []) s.order s.desc s.most)) (
    cond (decide (s.kind=8)) (
    some (Stm.mk 0 [] s.on s.cols s.names [] s.rows s.sets false (Xpr.mk 0 ⟨0,0,[]⟩ [] []) [] [] 0)) (
    some (Stm.mk 0 [] s.on s.cols s.names s.l s.rows s.sets s.has (Qf s.whr) s.order s.desc s.most)))))))
theorem Bjk:FO 85 [.sv .stmt] [.sv .stmt] (Amn):=fR (px:=Brf _) (n:=0) Tryz.func85 rfl (λ_ H=>⟨lv H Ae Aa Ab,Ai⟩) λ_=>by kernel_rfl
def Al2(s:Stm):Stm :=
 if s.kind=1 then { s with kind:=0,name:=[],cols:=[],names:=[],l:=[] }
 else if s.kind=3 then { s with kind:=0,name:=[],on:=[],names:=[] }
 else if s.kind=5 then { s with kind:=0,name:=[],rows:=[] }
 else if s.kind=6 then { s with kind:=0,name:=[],sets:=[],has:=false,whr:=noX }
 else if s.kind=7 then { s with kind:=0,name:=[],has:=false,whr:=noX }
 else if s.kind=8 then { s with kind:=0,name:=[],l:=[],has:=false,whr:=noX,order:=[],desc:=[],most:=0 }
 else { s with kind:=0,name:=[] }
def Au7:FT [.sv .stmt] [.sv .stmt]:=λx=>some (Al2 x)
theorem Bn2:FO 85 [.sv .stmt] [.sv .stmt] Au7 :=.fin0 Bjk λs r hb hx=>by
 simp only[Au7,Za1] at hx;rw[<-hx];simp only[Amn,Al2,T2,Bool.cond_decide];split; · rfl
 split; · rfl
 split; · rfl
 split; · rfl
 split; · rfl
 split<;>rfl
def Bhe(R:Type):Px R:=pxO [(83,cA Km),(85,cA Au7),(84,cA A2w),(86,cA Au3),(87,cA Zz),(88,cA Acs),(89,cA Acg),(90,cA Awj),(91,cA Axp),(92,cA Ay6)] [] [] []
def Ahm(x:HV [.sv .stmt]):Option (HV [.int .i64]):=match x with
 |s =>
 let j7:=λ(p1:Bool) =>
  cond (decide (s.kind=1)) (
  let j1:=λ(p2:Bool) =>
   let j:=λ(p3:Bool) =>
   cond (p3) (
    cond ((D4 s.names)) (
    cond (!(Lw s.l)) (
     some 2) (
     some 0)) (
    some 2)) (
    some 2)
   cond (p2) (
   j (De (s.names.length:Int))) (
   j false)
  cond (p1) (
   (Bdq s.cols).bind λx =>
   j1 x) (
   j1 false)) (
  cond (decide (s.kind=3)) (
   let j2:=λ(p7:Bool) =>
   cond (p7) (
    cond ((De (s.names.length:Int))) (
    cond (!(D4 s.names)) (
     some 2) (
     some 0)) (
    some 2)) (
    some 2)
   cond (p1) (
   j2 (G2 s.on)) (
   j2 false)) (
   let j6:=λ(a:Bool) =>
   cond (a) (
    cond (!p1) (
    some 2) (
    some 0)) (
    cond (decide (s.kind=5)) (
    cond (p1) (
     cond (!(A0t s.rows)) (
     some 2) (
     some 0)) (
     some 2)) (
    cond (decide (s.kind=6)) (
     cond (p1) (
     (Ba8 s.sets).bind λx1 =>
      cond (x1) (
      cond (!(L3 s)) (
       some 2) (
       some 0)) (
      some 2)) (
     some 2)) (
     cond (decide (s.kind=7)) (
     cond (p1) (
      cond (!(L3 s)) (
      some 2) (
      some 0)) (
      some 2)) (
     cond (decide (s.kind=8)) (
      let j5:=λ(b:Bool) =>
      let j4:=λ(c:Bool) =>
       let j3:=λ(d:Bool) =>
       cond (d) (
        cond (decide ((s.desc.length:Int)=(s.order.length:Int))) (
        cond (!(decide ((-1)<=s.most))) (
         some 2) (
         some 0)) (
        some 2)) (
        some 2)
       cond (c) (
       j3 (D4 s.order)) (
       j3 false)
      cond (b) (
       j4 (L3 s)) (
       j4 false)
      cond (p1) (
      j5 (Lw s.l)) (
      j5 false)) (
      some 2)))))
   cond (decide (s.kind=2)) (
   j6 (decide (s.kind=2))) (
   j6 (decide (s.kind=4)))))
 cond ((G2 s.name)) (
  j7 (A4u (Al2 s) (Stm.mk 0 [] [] [] [] [] [] [] false (Xpr.mk 0 ⟨0,0,[]⟩ [] []) [] [] 0))) (
  j7 false)
theorem A5t:FO 57 [.sv .stmt] [.int .i64] (Ahm):=fR (px:=Bhe _) (n:=0) Tryz.func57 rfl (λ_ H=>⟨lv H (c1 H Mt (c1 H Bn2 (c1 H Bd5 (c1 H Bk3 (c1 H Ab0 (c1 H Ape (c1 H Asb (c1 H Blj (c1 H Bl4 (c1 H Bd7 Ae)))))))))) Aa Ab,Ai⟩) λ_=>by kernel_rfl
def Ik(s:Stm):Bool:=G2 s.name&&decide (Al2 s=noS)&&(
 if s.kind=1 then s.cols.all Anv&&De (s.cols.length:Int)&&D4 (s.cols.map (·.name))&&De (s.names.length:Int)&&D4 s.names&&Lw s.l
 else if s.kind=3 then G2 s.on&&De (s.names.length:Int)&&D4 s.names
 else if s.kind=2\/s.kind=4 then true
 else if s.kind=5 then A0t s.rows
 else if s.kind=6 then s.sets.all (λx=>C2 x.e 30)&&De (s.sets.length:Int)&&D4 (s.sets.map (·.name))&&L3 s
 else if s.kind=7 then L3 s
 else if s.kind=8 then Lw s.l&&L3 s&&D4 s.order&&decide (s.desc.length=s.order.length)&&decide (-1<=s.most)
 else false)
def Jy(s:Stm):Option Int:=if s.cols.length<=1000000/\s.sets.length<=1000000 then some (cond (Ik s) 0 2) else none
def J7:FT [.sv .stmt] [.int .i64]:=λx=>Jy x
theorem Md:FO 57 [.sv .stmt] [.int .i64] J7 :=.fin0 A5t λs r hb hx=>by
 simp only[J7,Jy] at hx;split at hx
 case isFalse=>cases hx
 rename_i h;rw[<-hx];have e1:Bdq s.cols=some (s.cols.all Anv&&De (s.cols.length:Int)&&D4 (s.cols.map (·.name))):=if_pos h.1;have e2:Ba8 s.sets=some (s.sets.all (λx=>C2 x.e 30)&&De (s.sets.length:Int)&&D4 (s.sets.map (·.name))):=if_pos h.2;have e3:A4u (Al2 s) (Stm.mk 0 [] [] [] [] [] [] [] false (Xpr.mk 0 ⟨0,0,[]⟩ [] []) [] [] 0)=decide (Al2 s=noS):=Bd2 _ _;have e4:decide ((s.desc.length:Int)=(s.order.length:Int))=decide (s.desc.length=s.order.length):=Zy1.2 (by omega);simp only[Ahm,Ik,e1,e2,e3,e4,Zc1];generalize G2 s.name=A;generalize decide (Al2 s=noS)=B;generalize (s.cols.all Anv&&De (s.cols.length:Int)&&D4 (s.cols.map (·.name)))=C;generalize De (s.names.length:Int)=D;generalize D4 s.names=E;generalize Lw s.l=F;generalize G2 s.on=G;generalize A0t s.rows=H;generalize (s.sets.all (λx=>C2 x.e 30)&&De (s.sets.length:Int)&&D4 (s.sets.map (·.name)))=I;generalize L3 s=J;generalize D4 s.order=K;generalize decide (s.desc.length=s.order.length)=L;generalize decide (-1<=s.most)=M;by_cases h1:s.kind=1
 ·rw[Ze1 h1,if_pos h1];cases A<;>cases B<;>cases C<;>cases D<;>cases E<;>cases F<;>rfl
 rw[Zd1 h1,if_neg h1];by_cases h3:s.kind=3
 ·rw[Ze1 h3,if_pos h3];cases A<;>cases B<;>cases G<;>cases D<;>cases E<;>rfl
 rw[Zd1 h3,if_neg h3];by_cases h24:s.kind=2\/s.kind=4
 ·rw[if_pos h24];rcases h24 with h2|h2
  ·rw[Ze1 h2];cases A<;>cases B<;>rfl
  ·rw[Ze1 h2,Zd1 (show ¬s.kind=2 by omega)];cases A<;>cases B<;>rfl
 rw[if_neg h24,Zd1 (show ¬s.kind=2 by omega),Zd1 (show ¬s.kind=4 by omega)];by_cases h5:s.kind=5
 ·rw[Ze1 h5,if_pos h5];cases A<;>cases B<;>cases H<;>rfl
 rw[Zd1 h5,if_neg h5];by_cases h6:s.kind=6
 ·rw[Ze1 h6,if_pos h6];cases A<;>cases B<;>cases I<;>cases J<;>rfl
 rw[Zd1 h6,if_neg h6];by_cases h7:s.kind=7
 ·rw[Ze1 h7,if_pos h7];cases A<;>cases B<;>cases J<;>rfl
 rw[Zd1 h7,if_neg h7];by_cases h8:s.kind=8
 ·rw[Ze1 h8,if_pos h8];cases A<;>cases B<;>cases F<;>cases J<;>cases K<;>cases L<;>cases M<;>rfl
 rw[Zd1 h8,if_neg h8];cases A<;>cases B<;>rfl
def Ro:Sig:=⟨26,[(10,.int .i64),(11,.int .i64)],[(1,.ptr 0 0),(2,.ptr 1 0)],[(0,.oc [.int .i64,.int .i64,.int .i64,.str,.str] 2 .expr),(1,.one (.sv .expr)),(2,.one (.dn .expr))],3,0,0,[],[]⟩
abbrev F2:=Int×Int×Int×Int×Int×Str×Str×Int×Int×Xpr×List Xpr
def Ka{R:Type}(rf:FT [.sv .expr] [.sv .expr])(rec:F2->Option R)(kx:Ex->F2->Option R)(v:F2):Option R:=match v with
 |(v,v1,w,w1,w2,w3,w4,w5,w6,w7,w8) =>
 cond (decide (v1<v)) (
  chk (inO v1 w6) (
  chk (inb (w5+v1) w8.length) (
   (rf (at' .expr w8 (w5+v1))).bind λx =>
   chk (inO v1 w6) (
    chk (inb (w5+v1) w8.length) (
    rec (v,(wr .i64 (v1+1)),w,w1,w2,w3,w4,w5,w6,w7,(w8.set ((w5+v1):Int).toNat x))))))) (
  kx (.exit 0) (v,v1,w,w1,w2,w3,w4,w5,w6,w7,w8))
noncomputable def Apf(R:Type)(_k:Nat)(rf:FT [.sv .expr] [.sv .expr]):Px R:=pxO [(239,Yx .expr)] [(192,qA rf)] [] []
noncomputable def Va(R:Type)(k:Nat)(rf:FT [.sv .expr] [.sv .expr]):Px R:=pxO [(239,Yx .expr)] [(192,qA rf)] [(3,Awk (Apf R k rf) (lp Tryz.f192 0) k Ro (Ka rf))] []
theorem A2l(R:Type)(k:Nat)(rf:FT [.sv .expr] [.sv .expr]):∀(fr:List Fr) (rec:F2->Option R) (kx:Ex->F2->Option R) (v:F2),P7 (Va R k rf) Ro (lp Tryz.f192 0) fr rec kx v=Ka rf rec kx v
 |fr,rec,kx,(v,v1,w,w1,w2,w3,w4,w5,w6,w7,w8)=>by kernel_rfl
def Ia(k:Nat)(rf:FT [.sv .expr] [.sv .expr])(x:HV [.sv .expr]):Option (HV [.sv .expr]):=match x with
 |e =>
 chk (decide (e.l.length<=1000000)) (
  cond (List.isEmpty e.l) (
  some (Xpr.mk e.kind ⟨e.v.kind,e.v.n,e.v.s⟩ e.name [])) (
  Aj (λrec=>Ka rf rec (λe vz=>match vz with|(_,_,v4,v5,v6,v7,v8,v9,a,_,b)=>match e with
   |.exit 0 =>
   chk (decide ((0:Int)<=v9)&&decide ((0:Int)<=a)&&decide ((v9+a)<=(b.length:Int))) (
    some (Xpr.mk v4 ⟨v5,v6,v7⟩ v8 (cut b v9 (v9+a))))
   |_=>none)) k ((e.l.length:Int),0,e.kind,e.v.kind,e.v.n,e.v.s,e.name,0,(e.l.length:Int),(Xpr.mk 0 ⟨0,0,[]⟩ [] []),e.l)))
theorem A57(k:Nat)(rf:FT [.sv .expr] [.sv .expr])(hrf:FO 192 [.sv .expr] [.sv .expr] rf):FO 192 [.sv .expr] [.sv .expr] (Ia k rf):=fR (px:=Va _ k rf) (n:=1) Tryz.func192 rfl (λcx H=>by have h0:Lv cx (Va (HV [.sv .expr]) k rf):=lv H (Am (cCl H Ahv Z1) Ae) (q1 H hrf Aa) Ab;have h00:Lv cx (Apf (HV [.sv .expr]) k rf):=lv H (Am (cCl H Ahv Z1) Ae) (q1 H hrf Aa) Ab;have hlcopied_0:Bv cx (Va (HV [.sv .expr]) k rf) (lp Tryz.f192 0):=Akj h0.p h0.c h0.q (by rw[H.p];exact follows) h00.p h00.c h00.q (λ_ _ _=>rfl) (k:=k) (s:=Ro) (step:=Ka rf) (λ_ _=>by kernel_rfl) (by kernel_rfl) (A2l _ k rf) (Ic (n:=0) (by kernel_rfl) Ai);exact⟨h0,(A2 Ai hlcopied_0)⟩) λ_=>by kernel_rfl
def Aki(e:Xpr):Option Xpr:=cond (decide (C5 e<=1000000)) (some e) none
def Ake:FT [.sv .expr] [.sv .expr]:=λx=>Aki x
theorem Bwl{i n:Nat}(h:i<n):inO (i:Int) (n:Int)=true:=by simp[inO];omega
theorem A1p{R:Type}{rf:FT [.sv .expr] [.sv .expr]}{kx:Ex->F2->Option R}{a b n:Int}{s nm:Str}{z:Xpr}{l:List Xpr}{c:Option R}(hn:ln l.length)(hrf:∀x,x∈l->rf x=some x)(h2:kx (.exit 0) ((l.length:Int),(l.length:Int),a,b,n,s,nm,0,(l.length:Int),z,l)=c)(k:Nat)(hk:l.length<k) :
  Aj (λrec=>Ka rf rec kx) k ((l.length:Int),0,a,b,n,s,nm,0,(l.length:Int),z,l)=c:=by
 refine B1 l.length (λi=>((l.length:Int),(i:Int),a,b,n,s,nm,0,(l.length:Int),z,l)) (λ_=>c) (λi hi rec hr =>?_) (λrec =>?_) k 0 (Nat.zero_le _) (by omega)
 ·simp only[Ka,Cb hi,Ah,Int.zero_add,Bwl hi,Au hi,chk,Aq (c :=.expr) hi,hrf _ (List.getElem_mem hi),Zc1,Ao hi hn,Int.toNat_natCast,List.set_getElem_self,hr]
 ·simp[Ka,h2]
theorem Am2(k:Nat):∀(n:Nat) (e:Xpr),BdExpr e->C5 e<=n->C5 e<=k->C5 e<=1000000->Aj (Ia k) n e=some e
 |0,e,_,h,_,_=>by have:=Ng e;omega
 |n+1,e,hb,h,hk,ho=>by
  obtain⟨hb4,hb5⟩:=Ari hb;rw[R6] at h hk ho;have hl:=Pw e.l;have hrf:∀x,x∈e.l->Aj (Ia k) n x=some x:=λx hx=>Am2 k n x (hb5 x hx) (by have:=Ef hx;omega) (by have:=Ef hx;omega) (by have:=Ef hx;omega);rw[A0];simp[Ia];rw[Ze1 (show e.l.length<=1000000 by omega)];simp[chk];cases he:e.l with
  |nil =>simp;obtain⟨kd,v,nm,l⟩:=e;simp[Xpr.l] at he;subst he;rfl
  |cons x t =>
   rw[<-he];have:List.isEmpty e.l=false:=by rw[he];rfl
   rw[this];simp;refine(A1p (c:=some e) hb4 hrf ?_ k (by omega));have h1:(decide ((0:Int)<=0)&&decide ((0:Int)<=(e.l.length:Int))&&decide ((0:Int)+(e.l.length:Int)<=(e.l.length:Int)))=true:=by simp
   simp only[h1,A9m];cases e;rfl
theorem Bet:FO 192 [.sv .expr] [.sv .expr] Ake:=by refine .fin (ι:=Nat) 0 (F:=λn=>Aj (Ia n) n) (λn=>FnOk.rec' (Sx.enters_of Tryz.func192 rfl rfl) (λrf hrf=>A57 n rf hrf) n) λe r hb hx=>⟨C5 e,?_⟩;simp only[Ake,Aki] at hx;cases hd:decide (C5 e<=1000000) with|false=>rw[hd] at hx;cases hx|true =>rw[hd] at hx;exact(Am2 (C5 e) (C5 e) e hb (Zn1 _) (Zn1 _) (of_decide_eq_true hd)).trans hx
def Ary:Sig:=⟨19,[(0,.sl .col false),(4,.int .i64),(7,.int .i64),(8,.int .i64)],[(1,.fn 280 [.ptr 1 0])],[(1,.cells [.str])],40,40,200,[],[]⟩
abbrev Acw:=List Col×Int×Int×Int×Str
def Afu{R:Type}(rec:Acw->Option R)(kx:Ex->Acw->Option R)(v:Acw):Option R:=match v with
 |(v,v1,v2,v3,w) =>
 cond (decide (v3<v2)) (
  chk (inb v3 v.length) (
  cond (decide (((at' .col v v3).name)=w)) (
   kx .ret (v,v3,v2,v3,w)) (
   rec (v,v1,v2,(wr .i64 (v3+1)),w)))) (
  kx (.exit 0) (v,v1,v2,v3,w))
def Ag1(R:Type)(_k:Nat):Px R:=pxO [] [] [] []
noncomputable def As5(R:Type)(k:Nat):Px R:=pxO [(280,Aw 80 400 (Ag1 R k) Tryz.f280)] [] [(2,Al k Ary (Afu))] []
noncomputable def Bcf(R:Type)(k:Nat):Px R:=pxO [(159,Aw 40 200 (As5 R k) Tryz.f159)] [] [] []
def Asw(k:Nat)(x:HV [.sv .tbl,.str]):Option (HV [.int .i64]):=match x with
 |(t,s) =>
 Aj (λrec=>Afu rec (λe vz=>match vz with|(_,v5,_,_,_)=>match e with
  |.ret =>
  some v5
  |.exit 0 =>
  some (-1)
  |_=>none)) k (t.cols,0,(t.cols.length:Int),0,s)
theorem Bsx(k:Nat):FO 236 [.sv .tbl,.str] [.int .i64] (Asw k):=fR (px:=Bcf _ k) (n:=0) Tryz.func236 rfl (λcx H=>by have h2:Lv cx (Ag1 (HV [.int .i64]) k):=lv H Ae Aa Ab;have h1:Lv cx (As5 (HV [.int .i64]) k):=lv H (Am (cR H h2 Tryz.func280 rfl (n:=0) (Ai)) Ae) Aa Ab;have hlscol_0:=lO H h1 (b:=lp Tryz.f159 0) (k:=k) (n:=0) (s:=Ary) (step:=Afu) (λ_ _ _ (_,_,_,_,_)=>by kernel_rfl) Ai;have h0:Lv cx (Bcf (HV [.int .i64]) k):=lv H (Am (cR H h1 Tryz.func159 rfl (n:=1) ((A2 Ai hlscol_0))) Ae) Aa Ab;exact⟨h0,Ai⟩) λ(_,_)=>by kernel_rfl
def Bti(t:Tbl)(s:Str):Int:=Kf t.cols s
def A5w:FT [.sv .tbl,.str] [.int .i64]:=λx=>some (Bti x.1 x.2)
theorem Bja{R:Type}{kx:Ex->Acw->Option R}{s:Str}{cols:List Col}{g:Int->Option R}(hn:ln cols.length)(h1:∀i:Nat,kx .ret (cols,(i:Int),(cols.length:Int),(i:Int),s)=g i)(h2:kx (.exit 0) (cols,0,(cols.length:Int),(cols.length:Int),s)=g (-1))(k:Nat)(hk:cols.length<k) :
  Aj (λrec=>Afu rec kx) k (cols,0,(cols.length:Int),0,s)=g (Kf cols s):=by
 refine(B1 cols.length (λi=>(cols,0,(cols.length:Int),(i:Int),s)) (λi=>g (Fu (cols.drop i) s i)) (λi hi rec hr =>?_) (λrec =>?_) k 0 (Nat.zero_le _) (by omega)).trans (by rw[Zq1];rfl)
 ·simp only[Afu,Cb hi,Au hi,Aq (c :=.col) hi,Ao hi hn,hr,h1,Ay hi,Fu,Bool.cond_decide];split<;>rfl
 ·simp only[Afu,Ds,h2];rw[Zk1 (Zn1 _)];rfl
theorem Buj:FO 236 [.sv .tbl,.str] [.int .i64] A5w :=.fin 0 Bsx λ(t,s) r hb hx=>⟨t.cols.length+1,by simp only[A5w,Za1,Bti] at hx;simp only[Asw];exact(Bja (g:=some) hb.1.cols.1 (λ_=>rfl) rfl _ (by omega)).trans (congrArg some hx)⟩
def Asm:Sig:=⟨19,[(0,.sl .str false),(4,.int .i64),(7,.int .i64),(8,.int .i64)],[(1,.fn 235 [.ptr 0 0])],[(0,.one (.sv .tbl))],80,80,400,[],[]⟩
abbrev Acm:=List Str×Int×Int×Int×Tbl
def Af5{R:Type}(rec:Acm->Option R)(kx:Ex->Acm->Option R)(v:Acm):Option R:=match v with
 |(v,v1,v2,v3,w) =>
 cond (decide (v3<v2)) (
  chk (inb v3 v.length) (
  cond (decide ((Bti w (at' .str v v3))<0)) (
   kx .ret (v,v3,v2,v3,w)) (
   rec (v,v1,v2,(wr .i64 (v3+1)),w)))) (
  kx (.exit 0) (v,v1,v2,v3,w))
def Wc(R:Type)(_k:Nat):Px R:=pxO [(236,cA A5w)] [] [] []
noncomputable def Aid(R:Type)(k:Nat):Px R:=pxO [(235,Aw 120 600 (Wc R k) Tryz.f235)] [] [(2,Al k Asm (Af5))] []
noncomputable def As3(R:Type)(k:Nat):Px R:=pxO [(279,Aw 80 400 (Aid R k) Tryz.f279)] [] [] []
noncomputable def Bal(R:Type)(k:Nat):Px R:=pxO [(234,Aw 40 200 (As3 R k) Tryz.f234)] [] [] []
def Atr(k:Nat)(x:HV [.sv .tbl,.sl .str false]):Option (HV [.bool]):=match x with
 |(t,names) =>
 Aj (λrec=>Af5 rec (λe vz=>match vz with|(_,v5,_,_,_)=>match e with
  |.ret =>
  some (!(decide (0<=v5)))
  |.exit 0 =>
  some true
  |_=>none)) k (names,0,(names.length:Int),0,t)
theorem Bny(k:Nat):FO 190 [.sv .tbl,.sl .str false] [.bool] (Atr k):=fR (px:=Bal _ k) (n:=0) Tryz.func190 rfl (λcx H=>by have h3:Lv cx (Wc (HV [.bool]) k):=lv H (c1 H Buj Ae) Aa Ab;have h2:Lv cx (Aid (HV [.bool]) k):=lv H (Am (cR H h3 Tryz.func235 rfl (n:=0) (Ai)) Ae) Aa Ab;have hlsall_0:=lO H h2 (b:=lp Tryz.f279 0) (k:=k) (n:=0) (s:=Asm) (step:=Af5) (λ_ _ _ (_,_,_,_,_)=>by kernel_rfl) Ai;have h1:Lv cx (As3 (HV [.bool]) k):=lv H (Am (cR H h2 Tryz.func279 rfl (n:=1) ((A2 Ai hlsall_0))) Ae) Aa Ab;have h0:Lv cx (Bal (HV [.bool]) k):=lv H (Am (cR H h1 Tryz.func234 rfl (n:=0) (Ai)) Ae) Aa Ab;exact⟨h0,Ai⟩) λ(_,_)=>by kernel_rfl
def Vy(t:Tbl)(names:List Str):Bool:=names.all λs => !decide (Kf t.cols s<0)
def Aw8:FT [.sv .tbl,.sl .str false] [.bool]:=λx=>some (Vy x.1 x.2)
theorem Bgy{R:Type}{kx:Ex->Acm->Option R}{t:Tbl}{l:List Str}{a b:Option R}(hn:ln l.length)(h1:∀i:Nat,kx .ret (l,(i:Int),(l.length:Int),(i:Int),t)=a)(h2:kx (.exit 0) (l,0,(l.length:Int),(l.length:Int),t)=b)(k:Nat)(hk:l.length<k) :
  Aj (λrec=>Af5 rec kx) k (l,0,(l.length:Int),0,t)=cond (Vy t l) b a:=by
 refine(B1 l.length (λi=>(l,0,(l.length:Int),(i:Int),t)) (λi=>cond (Vy t (l.drop i)) b a) (λi hi rec hr =>?_) (λrec =>?_) k 0 (Nat.zero_le _) (by omega)).trans (by rw[Zq1])
 ·simp only[Af5,Cb hi,Au hi,Aq (c :=.str) hi,Ao hi hn,hr,h1,Ay hi,Vy,Zv1,Bti];cases decide (Kf t.cols l[i]<0)<;>rfl
 ·simp only[Af5,Ds,h2];rw[Zk1 (Zn1 _)];rfl
theorem A81:FO 190 [.sv .tbl,.sl .str false] [.bool] Aw8 :=.fin 0 Bny λ(t,l) r hb hx=>⟨l.length+1,by
 simp only[Aw8,Za1] at hx;simp only[Atr];refine(Bgy (a:=some false) (b:=some true) hb.2.1 (λi =>?_) rfl _ (by omega)).trans ?_
 ·show some (!decide ((0:Int)<=(i:Int)))=some false;rw[Ze1 (by omega)];rfl
 ·rw[<-hx];cases Vy t l<;>rfl⟩
structure LinC {α:Type}(c : α->α->Int):Prop where
 rng:∀x y,c x y = -1\/c x y=0\/c x y=1
 eq:∀x y,c x y=0↔x=y
 anti:∀x y,c y x = -(c x y)
 tr:∀x y z,c x y<=0->c y z<=0->c x z<=0
def R1(p q:Int):Int:=if p=0 then q else p
theorem A2j{p q:Int}(h:R1 p q<=0):p<=0/\(p=0->q<=0):=by simp[R1] at h;split at h<;>omega
theorem Bnq{α β:Type}{c : α->α->Int}{d : β->β->Int}(hc:LinC c){x y z : α}{u v w : β}(hd:d u v<=0->d v w<=0->d u w<=0)(h1:R1 (c x y) (d u v)<=0)(h2:R1 (c y z) (d v w)<=0):R1 (c x z) (d u w)<=0:=by
 obtain⟨a1,a2⟩:=A2j h1;obtain⟨b1,b2⟩:=A2j h2;simp[R1];split
 ·rename_i h0;have e:=(hc.eq x z).1 h0;subst e;have an:=hc.anti x y
  grind
 ·exact(hc.tr x y z a1 b1)
def Rz{α:Type}(c : α->α->Int):List α->List α->Int
 |[],[]=>0
 |[],_::_ => -1
 |_::_,[]=>1
 |x::a,y::b=>R1 (c x y) (Rz c a b)
theorem Bnv{α:Type}{c : α->α->Int}(hc:LinC c):LinC (Rz c):=by
 refine⟨?_,?_,?_,?_⟩
 ·intro x;induction x with
  |nil=>intro y;cases y<;>simp[Rz]
  |cons x a ih =>
   intro y;cases y with
   |nil=>simp[Rz]
   |cons y b =>
    simp[Rz,R1];split
    ·exact ih b
    ·exact hc.rng x y
 ·intro x;induction x with
  |nil=>intro y;cases y<;>simp[Rz]
  |cons x a ih =>
   intro y;cases y with
   |nil=>simp[Rz]
   |cons y b =>
    simp[Rz,R1];split
    ·rename_i h;rw[ih b];exact⟨λe=>⟨(hc.eq x y).1 h,e⟩,λe=>e.2⟩
    ·rename_i h;exact⟨λe=>absurd e h,λe=>absurd ((hc.eq x y).2 e.1) h⟩
 ·intro x;induction x with
  |nil=>intro y;cases y<;>simp[Rz]
  |cons x a ih =>intro y;cases y with|nil=>simp[Rz]|cons y b =>have h:=hc.anti x y;have hb:=ih b;simp[Rz,R1];split<;>split<;>omega
 ·intro x;induction x with
  |nil=>intro y z _ _;cases z<;>simp[Rz]
  |cons x a ih =>
   intro y z h1 h2;cases y with
   |nil=>simp[Rz] at h1
   |cons y b =>cases z with|nil=>simp[Rz] at h2|cons z e =>exact Bnq hc (λp q=>ih b e p q) h1 h2
theorem sg_lin:LinC Ip:=by
 have e:∀x y,Ip x y=if x<y then -1 else if y<x then 1 else 0:=λx y=>by simp[Ip,Bool.cond_decide]
 refine⟨λx y =>?_,λx y =>?_,λx y =>?_,λx y z h1 h2 =>?_⟩
 ·grind
 ·grind
 ·grind
 ·grind
def Bkz(a b:UInt8):Int:=Ip (a.toNat:Int) (b.toNat:Int)
theorem Bko:LinC Bkz:=by
 refine⟨λx y=>sg_lin.rng _ _,λx y =>?_,λx y=>sg_lin.anti _ _,λx y z=>sg_lin.tr _ _ _⟩;simp[Bkz];rw[sg_lin.eq];constructor
 ·intro h;exact UInt8.toNat_inj.1 (by omega)
 ·intro h;rw[h]
theorem Ay4:∀a b:Str,Zq a b=Rz Bkz a b
 |[],[]=>rfl
 |[],_::_=>rfl
 |_::_,[]=>rfl
 |a::l,b::m=>by
  have ih:=Ay4 l m;simp[Zq,Lib.compareBytes] at ih ⊢;simp only[Rz,R1,Bkz,Ip,<-ih];by_cases h1:a<b
  ·have:(a.toNat:Int)<(b.toNat:Int):=by have:=UInt8.lt_iff_toNat_lt.1 h1;omega
   simp[h1,this]
  ·by_cases h2:b<a
   ·have h3:¬(a.toNat:Int)<(b.toNat:Int):=by have:=UInt8.lt_iff_toNat_lt.1 h2;omega
    have h4:(b.toNat:Int)<(a.toNat:Int):=by have:=UInt8.lt_iff_toNat_lt.1 h2;omega
    simp[h1,h2,h3,h4]
   ·have h3:a=b:=UInt8.le_antisymm (UInt8.not_lt.1 h2) (UInt8.not_lt.1 h1);subst h3;simp
theorem scmp_lin:LinC Zq:=by
 have e:(Zq:Str->Str->Int)=Rz Bkz:=by funext a b;exact Ay4 a b
 rw[e];exact Bnv Bko
def ltN(a b:Str):Bool:=decide (Zq a b<0)
theorem A8y(a:Str):ltN a a=false:=by have:=(scmp_lin.eq a a).2 rfl;simp[ltN,this]
theorem Bpe{a b c:Str}(h1:ltN a b=true)(h2:ltN b c=true):ltN a c=true:=by
 simp[ltN] at *;rcases Int.lt_or_eq_of_le (scmp_lin.tr a b c (by omega) (by omega)) with h|h
 ·exact h
 ·have e:=(scmp_lin.eq a c).1 h;subst e;have:=scmp_lin.anti a b;omega
theorem Bvw(a b:Str):ltN a b=true\/a=b\/ltN b a=true:=by
 simp[ltN];rcases scmp_lin.rng a b with h|h|h
 ·left;omega
 ·exact .inr (.inl ((scmp_lin.eq a b).1 h))
 ·right;have:=scmp_lin.anti a b;omega
theorem A8c{a b:Str}(h:ltN a b=true):a≠b:=λe=>by rw[e,A8y] at h;cases h
def Bi:List Idx->Bool
 |[]=>true
 |x::l=>l.all (λy=>ltN x.name y.name)&&Bi l
def M9(l:List Idx)(x:Idx):List Idx:=l.takeWhile (λy=>ltN y.name x.name)++x::l.dropWhile (λy=>ltN y.name x.name)
def Qe(l:List Idx)(s:Str):Bool:=l.any λy=>decide (y.name=s)
def Ei(l:List Idx)(s:Str):Nat:=(l.takeWhile λy=>ltN y.name s).length
theorem Bbq(l:List Idx)(s:Str):Ei l s<=l.length:=by
 induction l with
 |nil=>simp[Ei]
 |cons x l ih =>
  simp[Ei,List.takeWhile_cons] at ih ⊢;split
  ·simp;omega
  ·simp
theorem Abq:∀{l:List Idx}{s:Str},Bi l=true->∀(h:Nat) (hl:h<l.length),ltN l[h].name s=decide (h<Ei l s)
 |[],_,_,h,hl=>by simp at hl
 |x::l,s,hs,h,hl=>by
  simp[Bi,Zg2] at hs;have ih:=Abq (l:=l) (s:=s) hs.2;have hp:Ei (x::l) s=if ltN x.name s then Ei l s+1 else 0:=by simp[Ei,List.takeWhile_cons];split<;>simp
  rw[hp];cases hx:ltN x.name s with
  |true=>grind
  |false =>
   cases h with
   |zero=>simpa using hx
   |succ h =>simp;cases hq:ltN (l[h]'(by simpa using hl)).name s with|false=>rfl|true=>rw[Bpe (hs.1 _ (List.getElem_mem _)) hq] at hx;cases hx
theorem Ox:∀{l:List Idx},Bi l=true->∀(i j:Nat) (hi:i<l.length) (hj:j<l.length),i<j->ltN l[i].name l[j].name=true
 |[],_,i,j,hi,_,_=>by simp at hi
 |x::l,hs,i,j,hi,hj,hij=>by
  simp[Bi,Zg2] at hs;cases j with
  |zero=>omega
  |succ j =>cases i with|zero=>grind|succ i=>exact Ox hs.2 i j (by simpa using hi) (by simpa using hj) (by omega)
theorem A9b{l:List Idx}{s:Str}:Qe l s=true↔∃y,y∈l/\y.name=s:=by simp[Qe]
theorem Ba7{l:List Idx}{s:Str}(hs:Bi l=true):Qe l s=true↔∃h:Ei l s<l.length,l[Ei l s].name=s:=by
 rw[A9b];constructor
 ·rintro⟨y,hy,e⟩;obtain⟨k,hk,rfl⟩:=List.getElem_of_mem hy;have h1:=Abq (s:=s) hs k hk;rw[e,A8y] at h1;have hkp:¬k<Ei l s:=λh=>by rw[Ze1 h] at h1;cases h1
  have hpl:Ei l s<l.length:=by omega
  refine⟨hpl,?_⟩;rcases Nat.lt_or_eq_of_le (Nat.le_of_not_lt hkp) with h|h
  ·have h2:=Ox hs _ k hpl hk h;rw[e] at h2;have h3:=Abq (s:=s) hs _ hpl;rw[h2] at h3;simp at h3
  ·subst h;exact e
 ·grind
theorem Bmd(l:List Idx)(s:Str):l.take (Ei l s)=l.takeWhile (λy=>ltN y.name s):=by have:=List.takeWhile_append_dropWhile (p:=λy:Idx=>ltN y.name s) (l:=l);have h2:(l.takeWhile (λy=>ltN y.name s)++l.dropWhile (λy=>ltN y.name s)).take (Ei l s)=l.takeWhile (λy=>ltN y.name s):=List.take_left' rfl;rwa[this] at h2
theorem Blw(l:List Idx)(s:Str):l.drop (Ei l s)=l.dropWhile (λy=>ltN y.name s):=by have:=List.takeWhile_append_dropWhile (p:=λy:Idx=>ltN y.name s) (l:=l);have h2:(l.takeWhile (λy=>ltN y.name s)++l.dropWhile (λy=>ltN y.name s)).drop (Ei l s)=l.dropWhile (λy=>ltN y.name s):=List.drop_left' rfl;rwa[this] at h2
theorem Ani(l:List Idx)(x:Idx):M9 l x=l.take (Ei l x.name)++x::l.drop (Ei l x.name):=by rw[Bmd,Blw,M9]
theorem Bad{l:List Idx}{x y:Idx}:y∈M9 l x↔y=x\/y∈l:=by
 rw[Ani];have:y∈l↔y∈l.take (Ei l x.name)\/y∈l.drop (Ei l x.name):=by rw[<-List.mem_append,List.take_append_drop]
 constructor
 ·grind
 ·grind
theorem A87(l:List Idx)(x:Idx):(M9 l x).length=l.length+1:=by rw[Ani];simp[ Za2];omega
theorem Yw:∀{l:List Idx}{x:Idx},Bi l=true->Qe l x.name=false->Bi (M9 l x)=true
 |[],x,_,_=>by simp[M9,Bi]
 |y::l,x,hs,hh=>by
  have hs':=hs;simp[Bi,Zg2] at hs';simp only[Qe,List.any_cons,Bool.or_eq_false_iff,decide_eq_false_iff_not] at hh;have ih:=Yw (l:=l) (x:=x) hs'.2 hh.2;cases hy:ltN y.name x.name with
  |true =>
   have e:M9 (y::l) x=y::M9 l x:=by simp[M9,hy]
   rw[e];simp[Bi,Zg2];refine⟨λz hz =>?_,ih⟩;rcases Bad.1 hz with rfl|hz
   ·exact hy
   ·exact hs'.1 z hz
  |false =>
   have e:M9 (y::l) x=x::y::l:=by simp[M9,hy]
   have hxy:ltN x.name y.name=true:=by
    rcases Bvw x.name y.name with h|h|h
    ·exact h
    ·exact absurd h.symm hh.1
    ·rw[h] at hy;cases hy
   rw[e];simp only[Bi,Zb1,Zg2];refine⟨λz hz =>?_,hs'⟩;rcases List.mem_cons.1 hz with rfl|hz
   ·exact hxy
   ·exact Bpe hxy (hs'.1 z hz)
theorem A0r:∀{l:List Idx}{x:Idx},(∀y,y∈l->ltN y.name x.name=true)->M9 l x=l++[x]
 |[],x,_=>rfl
 |y::l,x,h=>by
  have e:M9 (y::l) x=y::M9 l x:=by simp[M9,(h y (by simp))]
  rw[e,A0r λz hz=>h z (by simp[hz])];rfl
theorem V3:∀{p q:List Idx},Bi (p++q)=true->Bi p=true/\∀y z,y∈p->z∈q->ltN y.name z.name=true
 |[],_,_=>⟨rfl,λ_ _ h=>by cases h⟩
 |x::p,q,h=>by
  simp only[Zb2,Bi,Zb1,Zg2,List.mem_append] at h;obtain⟨h1,h2⟩:=V3 h.2;refine⟨?_,λy z hy hz =>?_⟩
  ·simp[Bi,Zg2];exact⟨λy hy=>h.1 y (.inl hy),h1⟩
  ·rcases List.mem_cons.1 hy with rfl|hy
   ·exact h.1 z (.inr hz)
   ·exact h2 y z hy hz
def H8:Tbl:=⟨[],[],[],[],[]⟩
def Bnm(cols:List Col)(e:Xpr):Int:=cond (decide ((Ks e cols).2=0)) (cond (decide ((Ks e cols).1=2)||decide ((Ks e cols).1=1)) 0 151) (Ks e cols).2
def Wt(cols:List Col):List Xpr->Int
 |[]=>0
 |e::l=>cond (decide (Bnm cols e=0)) (Wt cols l) (Bnm cols e)
def Ado(s:Stm):Bool:=decide (s.cols.length<=1000000)&&(decide (s.sets.length<=1000000)&&(decide (s.names.length<=1000000)&&(decide (s.l.length<=1000000)&&s.l.all λe=>decide (C5 e<=1000000))))
def Ahj(s:Stm):Tbl×Int:=cond (decide (s.kind=1)&&Ik s) (cond (Vy ⟨s.name,s.cols,s.names,[],[]⟩ s.names) (cond (decide (Wt s.cols s.l=0)) (⟨s.name,s.cols,s.names,s.l,[]⟩,0) (H8,Wt s.cols s.l)) (H8,150)) (H8,2)
def Al3:Sig:=⟨70,[(3,.int .i64),(34,.sl .expr false),(35,.int .i64),(36,.int .i64)],[(2,.ptr 1 0),(4,.ptr 2 0)],[(1,.cells [.str,.sl .col true,.sl .str true,.sl .expr true,.sl .idx true]),(2,.cells [.str,.sl .col false,.sl .str false,.sl .expr true,.sl .idx true])],3,0,0,[],[]⟩
abbrev U7:=Int×List Xpr×Int×Int×Str×List Col×List Str×List Xpr×List Idx×Str×List Col×List Str×List Xpr×List Idx
def Vn{R:Type}(rec:U7->Option R)(kx:Ex->U7->Option R)(v:U7):Option R:=match v with
 |(v,v1,v2,v3,w,w1,w2,w3,w4,w5,w6,w7,w8,w9) =>
 cond (decide (v3<v2)) (
  chk (inb v3 v1.length) (
  let j:=λ(p6:Int) =>
   cond (!decide (p6=0)) (
   kx .ret (p6,v1,v2,v3,[],[],[],[],[],w5,w6,w7,w8,w9)) (
   (Aki (at' .expr v1 v3)).bind λx3 =>
    chk (decide (w8.length+1<=Ag)) (
    rec (v,v1,v2,(wr .i64 (v3+1)),w,w1,w2,w3,w4,w5,w6,w7,(w8++[x3]),w9)))
  cond (decide ((Ks (at' .expr v1 v3) w6).2=0)) (
   cond (!decide ((Ks (at' .expr v1 v3) w6).1=2)) (
   cond (!decide ((Ks (at' .expr v1 v3) w6).1=1)) (
    j 151) (
    j ((Ks (at' .expr v1 v3) w6).2))) (
   j ((Ks (at' .expr v1 v3) w6).2))) (
   j ((Ks (at' .expr v1 v3) w6).2)))) (
  kx (.exit 0) (v,v1,v2,v3,w,w1,w2,w3,w4,w5,w6,w7,w8,w9))
def A2m(R:Type)(k:Nat):Px R:=pxO [(57,cA J7),(190,cA Aw8),(191,cA Axs)] [(188,qA Ajw),(189,qA Y6),(192,qA Ake)] [(7,Al k Al3 (Vn))] []
def Amj(k:Nat)(x:HV [.sv .stmt]):Option (HV [.sv .tbl,.int .i64]):=match x with
 |s =>
 cond (!decide (s.kind=1)) (
  some ((Tbl.mk [] [] [] [] []),2)) (
  (Jy s).bind λx =>
  cond (!decide (x=0)) (
   some ((Tbl.mk [] [] [] [] []),2)) (
   (Amp s.cols).bind λx1 =>
   (M1 s.names).bind λx2 =>
    cond (!(Vy (Tbl.mk s.name x1 x2 [] []) x2)) (
    some ((Tbl.mk [] [] [] [] []),150)) (
    Aj (λrec=>Vn rec (λe vz=>match vz with|(v4,_,_,_,v8,v9,a,b,c,d,f,g,h,i)=>match e with
     |.ret =>
     some ((Tbl.mk v8 v9 a b c),v4)
     |.exit 0 =>
     some ((Tbl.mk d f g h i),0)
     |_=>none)) k (0,s.l,(s.l.length:Int),0,[],[],[],[],[],s.name,x1,x2,[],[]))))
theorem Beb(k:Nat):FO 138 [.sv .stmt] [.sv .tbl,.int .i64] (Amj k):=fR (px:=A2m _ k) (n:=1) Tryz.func138 rfl (λcx H=>by have h0:Lv cx (A2m (HV [.sv .tbl,.int .i64]) k):=lv H (c1 H Md (c1 H A81 (c1 H A0k Ae))) (q1 H A0j (q1 H Ahn (q1 H Bet Aa))) Ab;have hlsmake_0:=lO H h0 (b:=lp Tryz.f138 0) (k:=k) (n:=0) (s:=Al3) (step:=Vn) (λ_ _ _ (_,_,_,_,_,_,_,_,_,_,_,_,_,_)=>by kernel_rfl) Ai;exact⟨h0,(A2 Ai hlsmake_0)⟩) λ_=>by kernel_rfl
def Atq(s:Stm):Option (Tbl×Int):=cond (Ado s) (some (Ahj s)) none
def Abj:FT [.sv .stmt] [.sv .tbl,.int .i64]:=λx=>Atq x
theorem A4e{R:Type}{kx:Ex->U7->Option R}{nm:Str}{cols:List Col}{names:List Str}{l:List Xpr}{b:Option R}{g:Int->Option R}(hn:l.length<=1000000)(hs:l.all (λe=>decide (C5 e<=1000000))=true)(h1:∀(p:Int) (i:Nat) (acc:List Xpr),kx .ret (p,l,(l.length:Int),(i:Int),[],[],[],[],[],nm,cols,names,acc,[])=g p)(h2:kx (.exit 0) (0,l,(l.length:Int),(l.length:Int),[],[],[],[],[],nm,cols,names,l,[])=b)(k:Nat)(hk:l.length<k) :
  Aj (λrec=>Vn rec kx) k (0,l,(l.length:Int),0,[],[],[],[],[],nm,cols,names,[],[])=cond (decide (Wt cols l=0)) b (g (Wt cols l)):=by
 have hl:ln l.length:=by simp[ln];omega
 refine(B1 l.length (λi=>(0,l,(l.length:Int),(i:Int),[],[],[],[],[],nm,cols,names,l.take i,[])) (λi=>cond (decide (Wt cols (l.drop i)=0)) b (g (Wt cols (l.drop i)))) (λi hi rec hr =>?_) (λrec =>?_) k 0 (Nat.zero_le _) (by omega)).trans (by rw[Zq1])
 ·have ht:l.take (i+1)=l.take i++[l[i]]:=by rw[List.take_add_one,Zo1 hi];rfl
  have hlen:decide ((l.take i).length+1<=Ag)=true:=Ze1 (by simp[ Ag];omega);have hc:Aki l[i]=some l[i]:=by have:=Zg2.1 hs _ (List.getElem_mem hi);simp[Aki,this]
  rw[ht] at hr;simp only[Vn,Cb hi,Au hi,chk,Aq (c :=.expr) hi,Ao hi hl,h1,Ay hi,Wt,Bnm];by_cases hf:(Ks l[i] cols).2=0
  ·grind
  ·simp[hf]
 ·simp only[Vn,Ds,h2,List.take_length];rw[Zk1 (Zn1 _)];rfl
theorem Bhk{s:Stm}(h:Ado s=true):s.cols.length<=1000000/\s.sets.length<=1000000/\s.names.length<=1000000/\s.l.length<=1000000/\s.l.all (λe=>decide (C5 e<=1000000))=true:=by simp only[Ado,Zb1,Zg1] at h;exact h
theorem Ak0:FO 138 [.sv .stmt] [.sv .tbl,.int .i64] Abj :=.fin 0 Beb λs r hb hx=>⟨s.l.length+1,by
 simp only[Abj,Atq] at hx;cases hs:Ado s with
 |false=>rw[hs] at hx;cases hx
 |true =>
  rw[hs] at hx;simp only[Ah,Za1] at hx;rw[<-hx];obtain⟨q1,q2,q3,q4,q5⟩:=Bhk hs;have ec:Jy s=some (cond (Ik s) 0 2):=if_pos ⟨q1,q2⟩;simp only[Amj,ec,Zc1,Amp,M1,Ze1 q1,Ze1 q3,Ah,Ahj];cases decide (s.kind=1) with
  |false=>rfl
  |true =>
   cases Ik s with
   |false=>rfl
   |true =>
    simp only[Zt1,Af,Ah,Bool.and_self,decide_true];cases Vy ⟨s.name,s.cols,s.names,[],[]⟩ s.names with
    |false=>rfl
    |true =>simp only[Zt1,Af,Ah];refine(A4e (g:=λp=>some (H8,p)) (b:=some (⟨s.name,s.cols,s.names,s.l,[]⟩,0)) q4 q5 (λ_ _ _=>rfl) rfl _ (by omega)).trans ?_;cases decide (Wt s.cols s.l=0)<;>rfl⟩
def Bk5(R:Type):Px R:=pxO [] [] [] []
def W7(x:HV [.sv .tbl]):Option (HV [.sv .stmt]):=match x with
 |t =>
 some (Stm.mk 1 t.name [] t.cols t.key t.checks [] [] false (Xpr.mk 0 ⟨0,0,[]⟩ [] []) [] [] 0)
theorem Bg0:FO 246 [.sv .tbl] [.sv .stmt] (W7):=fR (px:=Bk5 _) (n:=0) Tryz.func246 rfl (λ_ H=>⟨lv H Ae Aa Ab,Ai⟩) λ_=>by kernel_rfl
def Fs(t:Tbl):Stm :=(Stm.mk 1 t.name [] t.cols t.key t.checks [] [] false (Xpr.mk 0 ⟨0,0,[]⟩ [] []) [] [] 0)
theorem Bi7(x:HV [.sv .tbl]):W7 x=some (Fs x):=by
 first
  |exact rfl
  |simp only[W7,Fs,A4]
def Axd:FT [.sv .tbl] [.sv .stmt]:=λx=>some (Fs x)
theorem A19:FO 246 [.sv .tbl] [.sv .stmt] Axd :=.fin0 Bg0 λx _ _ hx=>(Bi7 x).trans hx
def Bhg(R:Type):Px R:=pxO [] [] [] []
def Q8(x:HV [.sv .tbl,.sv .idx]):Option (HV [.sv .stmt]):=match x with
 |(t,x) =>
 some (Stm.mk 3 x.name t.name [] x.cols [] [] [] false (Xpr.mk 0 ⟨0,0,[]⟩ [] []) [] [] 0)
theorem A7n:FO 247 [.sv .tbl,.sv .idx] [.sv .stmt] (Q8):=fR (px:=Bhg _) (n:=0) Tryz.func247 rfl (λ_ H=>⟨lv H Ae Aa Ab,Ai⟩) λ(_,_)=>by kernel_rfl
def Hp(t:Tbl)(x:Idx):Stm :=(Stm.mk 3 x.name t.name [] x.cols [] [] [] false (Xpr.mk 0 ⟨0,0,[]⟩ [] []) [] [] 0)
theorem A5v(x:HV [.sv .tbl,.sv .idx]):Q8 x=some (Hp x.1 x.2):=by
 first
  |exact rfl
  |simp only[Q8,Hp,A4]
def Am8:FT [.sv .tbl,.sv .idx] [.sv .stmt]:=λx=>some (Hp x.1 x.2)
theorem Aqw:FO 247 [.sv .tbl,.sv .idx] [.sv .stmt] Am8 :=.fin0 A7n λx _ _ hx=>(A5v x).trans hx
def A6w(R:Type):Px R:=pxO [(274,cA Yz)] [] [] []
def N4(x:HV [.sv .idx,.str]):Option (HV [.int .i64]):=match x with
 |(x,name) =>
 some (Jk x.name name)
theorem A09:FO 256 [.sv .idx,.str] [.int .i64] (N4):=fR (px:=A6w _) (n:=0) Tryz.func256 rfl (λ_ H=>⟨lv H (c1 H Agt Ae) Aa Ab,Ai⟩) λ(_,_)=>by kernel_rfl
def Kp(x:Idx)(name:Str):Int :=(Jk x.name name)
theorem A22(x:HV [.sv .idx,.str]):N4 x=some (Kp x.1 x.2):=by
 first
  |exact rfl
  |simp only[N4,Kp,A4]
def Ap3:FT [.sv .idx,.str] [.int .i64]:=λx=>some (Kp x.1 x.2)
theorem A8l:FO 256 [.sv .idx,.str] [.int .i64] Ap3 :=.fin0 A09 λx _ _ hx=>(A22 x).trans hx
def Alr:Sig:=⟨49,[(0,.sl .idx false),(1,.str),(8,.int .i64),(9,.int .i64),(10,.int .i64)],[(2,.fn 256 [])],[(0,.one (.sv .tbl)),(1,.one (.sv .stmt)),(2,.one (.sv .tbl))],40,40,200,[],[]⟩
abbrev U6:=List Idx×Str×Int×Int×Int×Tbl×Stm×Tbl
def Te{R:Type}(rec:U6->Option R)(kx:Ex->U6->Option R)(v:U6):Option R:=match v with
 |(v,v1,v2,v3,v4,w,w1,w2) =>
 cond (decide (v3<v4)) (
  chk (inb (wr .i64 (Dz .u64 (wr .u64 (wr .i64 (v3+v4))) 1)) v.length) (
  cond (decide ((Kp (at' .idx v (wr .i64 (Dz .u64 (wr .u64 (wr .i64 (v3+v4))) 1))) v1)<0)) (
   rec (v,v1,v2,(wr .i64 ((wr .i64 (Dz .u64 (wr .u64 (wr .i64 (v3+v4))) 1))+1)),v4,w,w1,w2)) (
   rec (v,v1,v2,v3,(wr .i64 (Dz .u64 (wr .u64 (wr .i64 (v3+v4))) 1)),w,w1,w2)))) (
  kx (.exit 0) (v,v1,v2,v3,v4,w,w1,w2))
def Ao0(R:Type)(k:Nat):Px R:=pxO [(256,cA Ap3)] [] [(3,Al k Alr (Te))] []
noncomputable def A2d(R:Type)(k:Nat):Px R:=pxO [(57,cA J7),(190,cA Aw8),(257,Ai7),(255,Aw 40 200 (Ao0 R k) Tryz.f255)] [(189,qA Y6)] [] [(211,Aiy .idx)]
def Am7(k:Nat)(x:HV [.sv .tbl,.sv .stmt]):Option (HV [.sv .tbl,.int .i64]):=match x with
 |(t,s) =>
 cond (!decide (s.kind=3)) (
  some ((Tbl.mk [] [] [] [] []),2)) (
  (Jy s).bind λx =>
  cond (!decide (x=0)) (
   some ((Tbl.mk [] [] [] [] []),2)) (
   cond (!decide (s.on=t.name)) (
   some ((Tbl.mk [] [] [] [] []),2)) (
   Aj (λrec=>Te rec (λe vz=>match vz with|(v5,v6,v7,v8,_,a,b,_)=>match e with
    |.exit 0 =>
    let j:=λ(c:Bool) =>
     cond (c) (
     some ((Tbl.mk [] [] [] [] []),160)) (
     cond (decide (100<=(a.idx.length:Int))) (
      some ((Tbl.mk [] [] [] [] []),3)) (
      cond (!(Vy a b.names)) (
      some ((Tbl.mk [] [] [] [] []),150)) (
      chk (decide (a.idx.length<=1000000)) (
       cond (List.isEmpty a.idx) (
       (M1 b.names).bind λx1 =>
        chk (decide (v8=0)) (
        some ((Tbl.mk a.name a.cols a.key a.checks [(Idx.mk b.name x1)]),0))) (
       (M1 b.names).bind λx2 =>
        chk (decide ((0:Int)=0)&&decide ((0:Int)<(a.idx.length:Int))&&decide ((a.idx.length:Int)=(a.idx.length:Int))&&decide ((0:Int)<=v8)&&decide (v8<=(a.idx.length:Int))&&decide ((a.idx.length:Int)<=(1000000:Int))) (
        some ((Tbl.mk a.name a.cols a.key a.checks (List.take (v8:Int).toNat a.idx++(Idx.mk b.name x2)::List.drop (v8:Int).toNat a.idx)),0)))))))
    cond (decide (v8<v7)) (
     chk (inb v8 v5.length) (
     j (decide ((Kp (at' .idx v5 v8) v6)=0)))) (
     j false)
    |_=>none)) k (t.idx,s.name,(t.idx.length:Int),0,(t.idx.length:Int),t,s,(Tbl.mk [] [] [] [] [])))))
theorem Be7(k:Nat):FO 207 [.sv .tbl,.sv .stmt] [.sv .tbl,.int .i64] (Am7 k):=fR (px:=A2d _ k) (n:=0) Tryz.func207 rfl (λcx H=>by have h1:Lv cx (Ao0 (HV [.sv .tbl,.int .i64]) k):=lv H (c1 H A8l Ae) Aa Ab;have hlswith_0:=lO H h1 (b:=lp Tryz.f255 0) (k:=k) (n:=0) (s:=Alr) (step:=Te) (λ_ _ _ (_,_,_,_,_,_,_,_)=>by kernel_rfl) Ai;have h0:Lv cx (A2d (HV [.sv .tbl,.int .i64]) k):=lv H (c1 H Md (c1 H A81 (Am (B01 H Byr) (Am (cR H h1 Tryz.func255 rfl (n:=1) ((A2 Ai hlswith_0))) Ae)))) (q1 H Ahn Aa) (Afl (B1c H A1o Axu) Ab);exact⟨h0,Ai⟩) λ(_,_)=>by kernel_rfl
def A0z(t:Tbl)(s:Stm):Tbl×Int:=cond (decide (s.kind=3)&&(Ik s&&decide (s.on=t.name))) (cond (Qe t.idx s.name) (H8,160) (cond (decide (100<=t.idx.length)) (H8,3) (cond (Vy t s.names) ({ t with idx:=M9 t.idx ⟨s.name,s.names⟩ },0) (H8,150)))) (H8,2)
def Al7(t:Tbl)(s:Stm):Bool:=decide (s.cols.length<=1000000)&&(decide (s.sets.length<=1000000)&&(decide (s.names.length<=1000000)&&(decide (t.idx.length<=1000000)&&Bi t.idx)))
def As2(t:Tbl)(s:Stm):Option (Tbl×Int):=cond (Al7 t s) (some (A0z t s)) none
def Aiw:FT [.sv .tbl,.sv .stmt] [.sv .tbl,.int .i64]:=λx=>As2 x.1 x.2
theorem B09{n:Nat}(h:n<=4000000):wr .u64 (n:Int)=(n:Int):=by
 have e:wr .u64 (n:Int)=(n:Int) % 18446744073709551616:=by simp[wr,IntKind.wrap,IntKind.bits,IntKind.signed]
 omega
theorem Byo{a:Int}:Dz .u64 a 1=a / 2:=by show a.fdiv (2 ^ min (1:Int).toNat IntKind.u64.bits)=_;rw[show(2:Int) ^ min (1:Int).toNat IntKind.u64.bits=2 from by decide];exact Int.fdiv_eq_ediv_of_nonneg _ (by omega)
theorem Buk{a b:Nat}(h:a+b<=4000000):wr .i64 (Dz .u64 (wr .u64 (wr .i64 ((a:Int)+(b:Int)))) 1)=(((a+b) / 2:Nat):Int):=by rw[show(a:Int)+(b:Int)=((a+b:Nat):Int) by omega,Bll (by simp[ln];omega),B09 h,Byo,show((a+b:Nat):Int) / 2=(((a+b) / 2:Nat):Int) by omega,Bll (by simp[ln];omega)]
theorem Ya{R:Type}{kx:Ex->U6->Option R}{l:List Idx}{nm:Str}{t t2:Tbl}{s:Stm}{c:Option R}(hs:Bi l=true)(hn:l.length<=1000000)(h2:kx (.exit 0) (l,nm,(l.length:Int),(Ei l nm:Int),(Ei l nm:Int),t,s,t2)=c):∀(k lo hi:Nat),lo<=Ei l nm->Ei l nm<=hi->hi<=l.length->hi-lo<k ->
  Aj (λrec=>Te rec kx) k (l,nm,(l.length:Int),(lo:Int),(hi:Int),t,s,t2)=c
 |0,lo,hi,_,_,_,h=>by omega
 |k+1,lo,hi,h3,h4,h5,h=>by
  rw[A0];by_cases hlt:lo<hi
  ·have hm:(lo+hi) / 2<l.length:=by omega
   have hp:=Abq (s:=nm) hs _ hm;have hb:decide (Kp l[(lo+hi) / 2] nm<0)=decide ((lo+hi) / 2<Ei l nm):=hp;have ih1:=Ya hs hn h2 k ((lo+hi) / 2+1) hi;have ih2:=Ya hs hn h2 k lo ((lo+hi) / 2);simp only[Te,Buk (show lo+hi<=4000000 by omega),Au hm,chk,Aq (c :=.idx) hm,Ao hm (show ln l.length by simp[ln];omega)];by_cases hq:(lo+hi) / 2<Ei l nm
   ·grind
   ·grind
  ·have e1:lo=Ei l nm:=by omega
   have e2:hi=Ei l nm:=by omega
   simp only[Te,Zd1 (show ¬(lo:Int)<(hi:Int) by omega)];rw[e1,e2];exact h2
theorem Bse{l:List Idx}{nm:Str}(hs:Bi l=true){R:Type}{A B:Option R}:(cond (decide ((Ei l nm:Int)<(l.length:Int))) (chk (inb (Ei l nm:Int) l.length) (cond (decide (Kp (at' .idx l (Ei l nm:Int)) nm=0)) A B)) B)=cond (Qe l nm) A B:=by
 by_cases hp:Ei l nm<l.length
 ·rw[Ze1 (show(Ei l nm:Int)<(l.length:Int) by omega)];simp[ Au hp,chk,Aq (c :=.idx) hp];have e:decide (Kp l[Ei l nm] nm=0)=Qe l nm:=by
   rw[Bool.eq_iff_iff,Ba7 hs,Zg1];constructor
   ·intro h;exact⟨hp,(scmp_lin.eq _ _).1 h⟩
   ·rintro⟨_,h⟩;exact(scmp_lin.eq _ _).2 h
  rw[e]
 ·rw[Zd1 (show ¬(Ei l nm:Int)<(l.length:Int) by omega)];have e:Qe l nm=false:=by cases h:Qe l nm with|false=>rfl|true=>exact absurd ((Ba7 hs).1 h).1 hp
  rw[e];rfl
theorem Bgj{t:Tbl}{s:Stm}(h:Al7 t s=true):s.cols.length<=1000000/\s.sets.length<=1000000/\s.names.length<=1000000/\t.idx.length<=1000000/\Bi t.idx=true:=by simp[Al7] at h;exact h
theorem Azd:FO 207 [.sv .tbl,.sv .stmt] [.sv .tbl,.int .i64] Aiw :=.fin 0 Be7 λ(t,s) r hb hx=>⟨t.idx.length+1,by
 simp only[Aiw,As2] at hx;cases hs:Al7 t s with
 |false=>rw[hs] at hx;cases hx
 |true =>
  rw[hs] at hx;simp only[Ah,Za1] at hx;rw[<-hx];obtain⟨q1,q2,q3,q4,q5⟩:=Bgj hs;have ec:Jy s=some (cond (Ik s) 0 2):=if_pos ⟨q1,q2⟩;simp only[Am7,ec,Zc1,M1,A0z];cases decide (s.kind=3) with
  |false=>rfl
  |true =>
   cases Ik s with
   |false=>rfl
   |true =>
    cases decide (s.on=t.name) with
    |false=>rfl
    |true =>
     simp only[Zt1,Af,Ah,Bool.and_self,decide_true];refine(Ya (c:=some (cond (Qe t.idx s.name) (H8,160) (cond (decide (100<=t.idx.length)) (H8,3) (cond (Vy t s.names) ({ t with idx:=M9 t.idx ⟨s.name,s.names⟩ },0) (H8,150))))) q5 q4 ?_ _ 0 t.idx.length (Nat.zero_le _) (Bbq _ _) (Zn1 _) (by omega)).trans rfl;have hle:=Bbq t.idx s.name;simp only;rw[Bse q5];cases Qe t.idx s.name with
     |true=>rfl
     |false =>
      have e100:decide ((100:Int)<=(t.idx.length:Int))=decide (100<=t.idx.length):=Zy1.2 (by omega);simp only[Af,e100];cases decide (100<=t.idx.length) with
      |true=>rfl
      |false =>
       simp only[Af];cases Vy t s.names with
       |false=>rfl
       |true =>
        simp only[Zt1,Af,Ah,chk,Ze1 q4];simp only[Ze1 q3,Ah,Zc1];cases hE:t.idx.isEmpty with
        |true =>have h0:t.idx=[]:=List.isEmpty_iff.1 hE;simp only[Ah,h0];rfl
        |false =>
         have hpos : 0<t.idx.length:=by cases h0:t.idx with|nil=>rw[h0] at hE;cases hE|cons x l=>simp only[Zf1];omega
         simp only[Af,Ani,Int.toNat_natCast];have hck:decide ((0:Int)<(t.idx.length:Int))=true/\decide ((0:Int)<=(Ei t.idx s.name:Int))=true/\decide ((Ei t.idx s.name:Int)<=(t.idx.length:Int))=true/\decide ((t.idx.length:Int)<=1000000)=true:=by simp only[Zg1];omega
         simp only[hck.1,hck.2.1,hck.2.2.1,hck.2.2.2,Bool.and_self,Ah]⟩
def V8:Sig:=⟨58,[(3,.bool),(39,.sl .idx false),(40,.int .i64),(41,.int .i64)],[(1,.ptr 0 0),(2,.ptr 1 0),(4,.ptr 2 0)],[(0,.one (.sv .tbl)),(1,.one (.sv .tbl)),(2,.one (.sv .tbl))],3,0,0,[],[]⟩
abbrev Iz:=Bool×List Idx×Int×Int×Tbl×Tbl×Tbl
def Hm{R:Type}(rec:Iz->Option R)(kx:Ex->Iz->Option R)(v:Iz):Option R:=match v with
 |(d,b,c,a,w3,w4,w5) =>
 cond (decide (a<c)) (
  chk (inb a b.length) (
  chk (inb a w3.idx.length) (
   cond (!decide (((at' .idx b a).name)=((at' .idx w3.idx a).name))) (
   kx .ret (false,b,c,a,w3,(Tbl.mk [] [] [] [] []),w5)) (
   rec (d,b,c,(wr .i64 (a+1)),w3,w4,w5))))) (
  kx (.exit 2) (d,b,c,a,w3,w4,w5))
def Wa:Sig:=⟨58,[(3,.bool),(20,.sl .idx false),(21,.int .i64),(22,.int .i64)],[(1,.ptr 0 0),(2,.ptr 1 0),(4,.ptr 2 0)],[(0,.one (.sv .tbl)),(1,.one (.sv .tbl)),(2,.one (.sv .tbl))],3,0,0,[],[]⟩
abbrev I0:=Bool×List Idx×Int×Int×Tbl×Tbl×Tbl
def Hl{R:Type}(rec:I0->Option R)(kx:Ex->I0->Option R)(v:I0):Option R:=match v with
 |(v,v1,v2,v3,w,w1,w2) =>
 cond (decide (v3<v2)) (
  chk (inb v3 v1.length) (
  (As2 w2 (Hp w (at' .idx v1 v3))).bind λ(x2,x3) =>
   cond (!decide (x3=0)) (
   kx .ret (false,v1,v2,v3,w,(Tbl.mk [] [] [] [] []),x2)) (
   rec (v,v1,v2,(wr .i64 (v3+1)),w,w1,x2)))) (
  kx (.exit 0) (v,v1,v2,v3,w,w1,w2))
def Ag0(R:Type)(k:Nat):Px R:=pxO [(246,cA Axd),(138,cA Abj)] [(247,qA Am8),(207,qA Aiw)] [(5,Al k Wa (Hl)),(12,Al k V8 (Hm))] []
def Ww(k:Nat)(x:HV [.sv .tbl]):Option (HV [.sv .tbl,.bool]):=match x with
 |t =>
 (Atq (Fs t)).bind λ(x,x1) =>
  cond (!decide (x1=0)) (
  some ((Tbl.mk [] [] [] [] []),false)) (
  Aj (λrec=>Hl rec (λe vz=>match vz with|(v4,_,_,_,v8,v9,a)=>match e with
   |.ret =>
   some (v9,v4)
   |.exit 0 =>
   Aj (λrec=>Hm rec (λe vz=>match vz with|(b,_,_,_,_,c,d)=>match e with
    |.ret =>
    some (c,b)
    |.exit 2 =>
    some (d,true)
    |_=>none)) k (v4,a.idx,(a.idx.length:Int),0,v8,v9,a)
   |_=>none)) k (false,t.idx,(t.idx.length:Int),0,t,(Tbl.mk [] [] [] [] []),x))
theorem Avb(k:Nat):FO 206 [.sv .tbl] [.sv .tbl,.bool] (Ww k):=fR (px:=Ag0 _ k) (n:=2) Tryz.func206 rfl (λcx H=>by have h0:Lv cx (Ag0 (HV [.sv .tbl,.bool]) k):=lv H (c1 H A19 (c1 H Ak0 Ae)) (q1 H Aqw (q1 H Azd Aa)) Ab;have hlsrebuilt_0:=lO H h0 (b:=lp Tryz.f206 0) (k:=k) (n:=0) (s:=Wa) (step:=Hl) (λ_ _ _ (_,_,_,_,_,_,_)=>by kernel_rfl) Ai;have hlsrebuilt_1:=lO H h0 (b:=lp Tryz.f206 1) (k:=k) (n:=0) (s:=V8) (step:=Hm) (λ_ _ _ (_,_,_,_,_,_,_)=>by kernel_rfl) Ai;exact⟨h0,(A2 (A2 Ai hlsrebuilt_0) hlsrebuilt_1)⟩) λ_=>by kernel_rfl
def Acd(t:Tbl)(x:Idx):Bool:=Ik (Hp t x)&&Vy t x.cols
def ixs(t:Tbl):List Idx->List Idx->Option (List Idx)
 |acc,[]=>some acc
 |acc,x::l=>cond (Acd t x&&(!Qe acc x.name&&decide (acc.length<100))) (ixs t (M9 acc x) l) none
def Bai(t:Tbl):Bool:=decide ((Ahj (Fs t)).2=0)&&(Bi t.idx&&(decide (t.idx.length<=100)&&t.idx.all (Acd t)))
def R5(t:Tbl):Bool:=Ado (Fs t)&&(decide (t.idx.length<=1000000)&&t.idx.all λx=>decide (x.cols.length<=1000000))
def Aa1(t:Tbl):Option (Tbl×Bool):=cond (R5 t) (some (cond (Bai t) (t,true) (H8,false))) none
def Zn:FT [.sv .tbl] [.sv .tbl,.bool]:=λx=>Aa1 x
theorem Bu3{t:Tbl}{acc:List Idx}{x:Idx}:A0z { t with idx:=acc } (Hp t x)=cond (Ik (Hp t x)) (cond (Qe acc x.name) (H8,160) (cond (decide (100<=acc.length)) (H8,3) (cond (Vy t x.cols) ({ t with idx:=M9 acc x },0) (H8,150)))) (H8,2):=by simp[A0z,Hp];rfl
theorem A08{t:Tbl}:∀{l acc a:List Idx},Bi acc=true->ixs t acc l=some a->Bi a=true/\(∀y,y∈a↔y∈acc\/y∈l)/\a.length=acc.length+l.length/\l.all (Acd t)=true/\(acc.length<=100->a.length<=100)
 |[],acc,a,hs,h=>by simp[ixs] at h;subst h;exact⟨hs,by simp,by simp,rfl,id⟩
 |x::l,acc,a,hs,h=>by
  simp[ixs] at h;cases hc:Acd t x&&(!Qe acc x.name&&decide (acc.length<100)) with
  |false=>rw[hc] at h;cases h
  |true =>
   rw[hc] at h;simp at h;simp at hc;obtain⟨h1,h2,h3,h4,h5⟩:=A08 (Yw hs hc.2.1) h;rw[A87] at h3 h5;refine⟨h1,λy =>?_,by simp;omega,by simp[h4,hc.1],λ_=>h5 (by omega)⟩;rw[h2,Bad,List.mem_cons];constructor
   ·grind
   ·grind
theorem Axg{t:Tbl}:∀{q p:List Idx},Bi (p++q)=true->(p++q).length<=100->q.all (Acd t)=true->ixs t p q=some (p++q)
 |[],p,_,_,_=>by simp[ixs]
 |x::q,p,hs,hn,hk=>by
  simp only[Zv1,Zb1] at hk;have hlt:=(V3 hs).2;have h1:Qe p x.name=false:=by cases h:Qe p x.name with|false=>rfl|true =>obtain⟨y,hy,e⟩:=A9b.1 h;exact absurd e (A8c (hlt y x hy (by simp)))
  have h2:decide (p.length<100)=true:=Ze1 (by simp at hn;omega);have h3:M9 p x=p++[x]:=A0r λy hy=>hlt y x hy (by simp);simp[ixs,hk.1,h1,h2,h3];rw[Axg (by simpa using hs) (by simpa using hn) hk.2];simp
def Aik:List Idx->List Idx->Bool
 |x::a,y::b=>decide (x.name=y.name)&&Aik a b
 |_,_=>true
theorem Azy:∀{a b:List Idx},Aik a b=true->∀(i:Nat) (hi:i<a.length) (hj:i<b.length),a[i].name=b[i].name
 |[],_,_,i,hi,_=>by simp at hi
 |_::_,[],_,i,_,hj=>by simp at hj
 |x::a,y::b,h,i,hi,hj=>by simp[Aik] at h;cases i with|zero=>exact h.1|succ i=>exact Azy h.2 i (by simpa using hi) (by simpa using hj)
theorem Asx:∀a:List Idx,Aik a a=true
 |[]=>rfl
 |x::a=>by simp[Aik,Asx a]
theorem Bib{l:List Idx}(hs:Bi l=true){x y:Idx}(hx:x∈l)(hy:y∈l)(e:x.name=y.name):x=y:=by
 obtain⟨i,hi,rfl⟩:=List.getElem_of_mem hx;obtain⟨j,hj,rfl⟩:=List.getElem_of_mem hy;rcases Nat.lt_trichotomy i j with h|h|h
 ·exact absurd e (A8c (Ox hs i j hi hj h))
 ·subst h;rfl
 ·exact absurd e.symm (A8c (Ox hs j i hj hi h))
theorem Bs8{a b:List Idx}(hs:Bi a=true)(hm:∀y,y∈a↔y∈b)(hn:a.length=b.length)(h:Aik a b=true):a=b :=List.ext_getElem hn λi hi hj=>Bib hs (List.getElem_mem hi) ((hm _).2 (List.getElem_mem hj)) (Azy h i hi hj)
theorem By4{t:Tbl}{R:Type}{g:List Idx->R}{c:R}:(match ixs t [] t.idx with|some a=>cond (Aik a t.idx) (g a) c|none=>c)=cond (Bi t.idx&&(decide (t.idx.length<=100)&&t.idx.all (Acd t))) (g t.idx) c:=by
 cases hx:ixs t [] t.idx with
 |none =>cases hc:Bi t.idx&&(decide (t.idx.length<=100)&&t.idx.all (Acd t)) with|false=>rfl|true =>simp only[Zb1] at hc;rw[Axg (p:=[]) (by simpa using hc.1) (by simpa using hc.2.1) hc.2.2] at hx;cases hx
 |some a =>
  obtain⟨h1,h2,h3,h4,h5⟩:=A08 (by rfl) hx;simp only;cases hs:Aik a t.idx with
  |true =>have e:=Bs8 h1 (λy=>by rw[h2];simp) (by simpa using h3) hs;rw[<-e,h1];rw[<-e] at h4;rw[h4,Ze1 (h5 (by simp))];rfl
  |false =>cases hc:Bi t.idx&&(decide (t.idx.length<=100)&&t.idx.all (Acd t)) with|false=>rfl|true =>simp only[Zb1] at hc;rw[Axg (p:=[]) (by simpa using hc.1) (by simpa using hc.2.1) hc.2.2] at hx;cases hx;rw[Zf2,Asx] at hs;cases hs
theorem Aeg{t:Tbl}(h:R5 t=true):Ado (Fs t)=true/\t.idx.length<=1000000/\∀x,x∈t.idx->x.cols.length<=1000000:=by simp[R5] at h;exact h
theorem A0a{R:Type}{kx:Ex->I0->Option R}{t:Tbl}{g:List Idx->Option R}{c:Option R}(hs:R5 t=true)(h1:∀i p,kx .ret (false,t.idx,(t.idx.length:Int),i,t,H8,p)=c)(h2:∀a:List Idx,a.length=t.idx.length->kx (.exit 0) (false,t.idx,(t.idx.length:Int),(t.idx.length:Int),t,H8,{ t with idx:=a })=g a)(k:Nat)(hk:t.idx.length<k) :
  Aj (λrec=>Hl rec kx) k (false,t.idx,(t.idx.length:Int),0,t,H8,{ t with idx:=[] })=(match ixs t [] t.idx with|some a=>g a|none=>c):=by
 obtain⟨_,hn,hcs⟩:=Aeg hs;have hl:ln t.idx.length:=by simp[ln];omega
 refine(H0 t.idx.length (λi (acc:List Idx)=>(false,t.idx,(t.idx.length:Int),(i:Int),t,H8,{ t with idx:=acc })) (λi acc=>Bi acc=true/\acc.length=i) (λi acc=>(match ixs t acc (t.idx.drop i) with|some a=>g a|none=>c)) (λi hi acc ha rec hr =>?_) (λacc ha rec =>?_) k 0 [] (Nat.zero_le _) (by omega) ⟨rfl,rfl⟩).trans (by rw[Zq1])
 ·have hw:As2 { t with idx:=acc } (Hp t t.idx[i])=some (A0z { t with idx:=acc } (Hp t t.idx[i])):=by
   have:Al7 { t with idx:=acc } (Hp t t.idx[i])=true:=by have h1:=hcs _ (List.getElem_mem hi);have h2:=ha.2;show(decide ((0:Nat)<=1000000)&&(decide ((0:Nat)<=1000000)&&(decide (t.idx[i].cols.length<=1000000)&&(decide (acc.length<=1000000)&&Bi acc))))=true;rw[Ze1 h1,Ze1 (show acc.length<=1000000 by omega),ha.1];rfl
   rw[As2,this];rfl
  simp only[Hl,Cb hi,Au hi,Aq (c :=.idx) hi,hw,Bu3,Ao hi hl,Ay hi,ixs,Acd];cases Ik (Hp t t.idx[i]) with
  |false=>exact h1 _ _
  |true =>
   simp;cases hh:Qe acc t.idx[i].name with
   |true =>simp;exact h1 _ _
   |false =>
    simp;by_cases h100:acc.length<100
    ·rw[Ze1 h100,Zd1 (show ¬ 100<=acc.length by omega)];simp;cases Vy t t.idx[i].cols with|false=>exact h1 _ _|true =>simp;exact hr _ ⟨Yw ha.1 hh,by rw[A87,ha.2]⟩
    ·rw[Zd1 h100,Ze1 (show 100<=acc.length by omega)];simp;exact h1 _ _
 ·simp only[Hl,Ds,h2 acc ha.2];rw[Zk1 (Zn1 _)];rfl
theorem A1g{R:Type}{kx:Ex->Iz->Option R}{t:Tbl}{a:List Idx}{b c:Option R}(hs:R5 t=true)(ha:a.length=t.idx.length)(h1:∀i,kx .ret (false,a,(a.length:Int),i,t,H8,{ t with idx:=a })=c)(h2:kx (.exit 2) (false,a,(a.length:Int),(a.length:Int),t,H8,{ t with idx:=a })=b)(k:Nat)(hk:t.idx.length<k) :
  Aj (λrec=>Hm rec kx) k (false,a,(a.length:Int),0,t,H8,{ t with idx:=a })=cond (Aik a t.idx) b c:=by
 obtain⟨_,hn,hcs⟩:=Aeg hs;have hl:ln a.length:=by simp[ln];omega
 refine(B1 a.length (λi=>(false,a,(a.length:Int),(i:Int),t,H8,{ t with idx:=a })) (λi=>cond (Aik (a.drop i) (t.idx.drop i)) b c) (λi hi rec hr =>?_) (λrec =>?_) k 0 (Nat.zero_le _) (by omega)).trans (by rw[Zq1,Zq1])
 ·have hi2:i<t.idx.length:=by omega
  simp only[Hm,Cb hi,Au hi,Au hi2,Aq (c :=.idx) hi,Aq (c :=.idx) hi2,Ao hi hl,Ay hi,Ay hi2,Aik,hr];cases decide (a[i].name=t.idx[i].name) with|false=>exact h1 _|true=>rfl
 ·simp only[Hm,Ds,h2];rw[Zk1 (Zn1 _)];rfl
theorem Bi8{t:Tbl}(h:(Ahj (Fs t)).2=0):Ahj (Fs t)=({ t with idx:=[] },0):=by
 simp[Ahj] at h ⊢;generalize (decide ((Fs t).kind=1)&&Ik (Fs t))=b1 at h ⊢;generalize Vy ⟨(Fs t).name,(Fs t).cols,(Fs t).names,[],[]⟩ (Fs t).names=b2 at h ⊢;cases b1 with
 |false=>simp at h
 |true =>
  cases b2 with
  |false=>simp at h
  |true =>
   by_cases hc:Wt (Fs t).cols (Fs t).l=0
   ·simp only[hc];rfl
   ·simp[hc] at h
theorem Ayt:FO 206 [.sv .tbl] [.sv .tbl,.bool] Zn :=.fin 0 Avb λt r hb hx=>⟨t.idx.length+1,by
 simp only[Zn,Aa1] at hx;cases hs:R5 t with
 |false=>rw[hs] at hx;cases hx
 |true =>
  rw[hs] at hx;simp only[Ah,Za1] at hx;rw[<-hx];obtain⟨q1,q2,q3⟩:=Aeg hs;have em:Atq (Fs t)=some (Ahj (Fs t)):=by rw[Atq,q1];rfl
  simp only[Ww,em,Zc1,Bai];by_cases h0:(Ahj (Fs t)).2=0
  ·simp only[Bi8 h0,decide_true,Zt1,Af,Bool.true_and];refine(A0a (c:=some (H8,false)) (g:=λa=>cond (Aik a t.idx) (some ({ t with idx:=a },true)) (some (H8,false))) hs (λ_ _=>rfl) (λa ha =>?_) _ (by omega)).trans ?_
   ·exact A1g hs ha (λ_=>rfl) rfl _ (by omega)
   ·rw[By4 (g:=λa=>some (({ t with idx:=a }:Tbl),true)),A4]
  ·simp only[Zd1 h0,Zs1,Ah,Bool.false_and,Af];rfl⟩
def Bfr(R:Type):Px R:=pxO [(206,cA Zn)] [] [] []
def Ags(x:HV [.sv .tbl]):Option (HV [.int .i64]):=match x with
 |t =>
 (Aa1 t).bind λ(_,x1) =>
  cond (!x1) (
  some 2) (
  some 0)
theorem A74:FO 244 [.sv .tbl] [.int .i64] (Ags):=fR (px:=Bfr _) (n:=0) Tryz.func244 rfl (λ_ H=>⟨lv H (c1 H Ayt Ae) Aa Ab,Ai⟩) λ_=>by kernel_rfl
def Avf(t:Tbl):Option Int:=cond (R5 t) (some (cond (Bai t) 0 2)) none
def S7:FT [.sv .tbl] [.int .i64]:=λx=>Avf x
theorem Afe:FO 244 [.sv .tbl] [.int .i64] S7 :=.fin0 A74 λt r hb hx=>by simp only[S7,Avf] at hx;rw[<-hx];simp only[Ags,Aa1];cases R5 t with|false=>rfl|true=>cases Bai t<;>rfl
theorem Bm7{m n:Nat}(h:m<=n):upto 0 (m:Int) n=true:=by simp[upto];omega
def Bl9(R:Type):Px R:=pxO [] [] [] []
def Alw(x:HV [.str,.str]):Option (HV [.bool]):=match x with
 |(l,m) =>
 cond (decide ((m.length:Int)<=(l.length:Int))) (
  chk (upto 0 (m.length:Int) l.length) (
  some (decide ((l.take ((m.length:Int):Int).toNat)=m)))) (
  some false)
theorem Bg2:FO 229 [.str,.str] [.bool] (Alw):=fR (px:=Bl9 _) (n:=0) Tryz.func229 rfl (λ_ H=>⟨lv H Ae Aa Ab,Ai⟩) λ(_,_)=>by kernel_rfl
def Ba2(l m:Str):Bool:=Lp.pre l m
def Ax6:FT [.str,.str] [.bool]:=λx=>some (Ba2 x.1 x.2)
theorem Bjo:FO 229 [.str,.str] [.bool] Ax6 :=.fin0 Bg2 λ(l,m) r hb hx=>by
 simp only[Ax6,Za1] at hx;subst hx;simp only[Alw,Ba2,Lp.pre];have e:decide ((m.length:Int)<=(l.length:Int))=decide (m.length<=l.length):=Zy1.2 (by omega);rw[e];by_cases h:m.length<=l.length
 ·rw[Ze1 h,Ah,Bm7 h,Int.toNat_natCast];rfl
 ·rw[Zd1 h];rfl
def Bs7(R:Type):Px R:=pxO [(229,cA Ax6)] [] [] []
def Ael(x:HV [.str,.str]):Option (HV [.bool]):=match x with
 |(l,m) =>
 some (Ba2 l m)
theorem Brc:FO 170 [.str,.str] [.bool] (Ael):=fR (px:=Bs7 _) (n:=0) Tryz.func170 rfl (λ_ H=>⟨lv H (c1 H Bjo Ae) Aa Ab,Ai⟩) λ(_,_)=>by kernel_rfl
def hpre(l:Str)(m:Str):Bool :=(Ba2 l m)
theorem Brd(x:HV [.str,.str]):Ael x=some (hpre x.1 x.2):=by
 first
  |exact rfl
  |simp only[Ael,hpre,A4]
def A8r:FT [.str,.str] [.bool]:=λx=>some (hpre x.1 x.2)
theorem Bbm:FO 170 [.str,.str] [.bool] A8r :=.fin0 Brc λx _ _ hx=>(Brd x).trans hx
set_option maxRecDepth 20000 in
open Go.Sx in
theorem Sq(l:Str)(c:Int):Con Tryz.prog 169 [S l,.int .u8 c] [] (λ_=>True) (Is (.int .i64 (Lib.indexByte l c.toNat.toUInt8))):=by
 have run:∀w,(callFunc 228 #[S l,.int .u8 c]).run Tryz.prog w = .ok (.value (.int .i64 (Lib.indexByte l c.toNat.toUInt8))) w:=λw=>by rw[run_callFunc_extern Tryz.func228 (by kernel_rfl) rfl (by kernel_rfl) (e:=Extern.BytealgIndexByte.indexByte) (by kernel_rfl)];simp[Lib.run_indexByteString,go_sem]
 refine Bg Tryz.func169 Tryz.ntmps169 rfl (by kernel_rfl) rfl λw M =>?_
 repeat' (first|refine Dd ?_|refine Bf ?_|refine B5 ?_|refine B4 ?_|refine n_blk ?_|refine g_block ?_|refine Dk ?_|refine g_exit ?_|refine x_here ?_|refine x_seq ?_|refine x_loop ?_|refine x_blk rfl ?_|refine g_scope ?_|refine n_scope ?_|refine x_scope ?_|refine g_label ?_|(apply As rfl rfl;(first|exact p_move rfl|exact p_assign rfl|exact p_lens (by dsimp only;decide +kernel) rfl|exact p_lensl (by dsimp only;decide +kernel) rfl|exact p_extract rfl rfl|exact p_pick_t rfl rfl|exact p_pick_f rfl rfl|exact p_eql rfl rfl|exact p_neq rfl rfl|exact p_lss rfl rfl|exact p_leq rfl rfl|exact p_gtr rfl rfl|exact p_geq rfl rfl|exact p_not rfl|exact p_eqls rfl rfl|exact p_neqs rfl rfl|exact Abu rfl rfl (by omega)|exact Iw rfl rfl (by omega)|exact p_index (by dsimp only;decide +kernel) rfl rfl (by omega)|exact p_cut (by dsimp only;decide +kernel) rfl rfl rfl (by omega)|exact p_cutlo (by dsimp only;decide +kernel) rfl rfl (by omega)|exact p_cuthi (by dsimp only;decide +kernel) rfl rfl (by omega)|exact p_fa (fo:=0) (by dsimp only;decide +kernel) rfl|exact p_fa (fo:=1) (by dsimp only;decide +kernel) rfl|exact p_fa (fo:=2) (by dsimp only;decide +kernel) rfl|exact p_fa (fo:=3) (by dsimp only;decide +kernel) rfl|exact p_nil rfl))|refine o_off rfl rfl ?_|refine o_off_none rfl ?_|(apply As rfl rfl (Bbw rfl rfl run))|(refine o_gsd rfl rfl ?_ ?_<;>intro hc)|(refine o_gse rfl rfl ?_ ?_<;>intro hc)|(refine o_gsn rfl rfl ?_ ?_<;>intro hc)|(refine o_gsxd rfl rfl ?_ ?_<;>intro hc)|(refine o_gsx rfl rfl ?_ ?_<;>intro hc)|(refine o_gs rfl rfl ?_ ?_<;>intro hc)|refine g_cond_t rfl rfl ?_|refine g_cond_f rfl rfl ?_|refine g_cond_t rfl (Ze1 (by omega)) ?_|refine g_cond_f rfl (Zd1 (by omega)) ?_|(refine Hu rfl ?_ ?_<;>intro hc)|(refine g_conde rfl ?_ ?_<;>intro hc)|(refine g_condn rfl ?_ ?_<;>intro hc)|(refine g_condxd rfl ?_ ?_<;>intro hc)|(refine g_condx rfl ?_ ?_<;>intro hc)|(refine Fg rfl ?_ ?_<;>intro hc)|refine Bz rfl rfl ?_|refine g_ret2 rfl rfl rfl ?_|refine g_ret3 rfl rfl rfl rfl ?_|fail)
 exact Bnt rfl
def sib(l:Str)(c:Int):Int:=Lib.indexByte l c.toNat.toUInt8
def Blo:FT [.str,.int .u8] [.int .i64]:=λx=>some (sib x.1 x.2)
theorem Bui(l:Str)(c:Int) : -1<=sib l c/\sib l c<l.length+1:=by have:=Lp.indexByte_in l c.toNat.toUInt8;simp only[sib];omega
theorem Bxt:FO 169 [.str,.int .u8] [.int .i64] Blo:=by
 refine FnOk.ofIs (Sq [] 0).enters rfl λx r hx =>?_;obtain⟨l,c⟩:=x;simp only[Blo,Za1] at hx;subst hx;refine⟨[Sx.S l,.int .u8 c],_,λX vs h =>?_,Sq l c,λX hb =>?_⟩
 ·simp only[B0,Cj,Reps,Rep] at h;obtain⟨u,us,rfl,⟨rfl,_⟩,u2,us2,rfl,⟨rfl,_⟩,rfl⟩:=h;rfl
 ·simp only[Eo,B0,Cj];have h:=Bui l c;have hl:ln l.length:=hb.1;refine C0 (Auw ?_);simp only[IntKind.min,IntKind.max,IntKind.signed,IntKind.bits,sib,ln] at *;simp only[if_true];omega
def Bni(R:Type):Px R:=pxO [(169,cA Blo)] [] [] []
def X2(x:HV [.str,.int .u8]):Option (HV [.int .i64]):=match x with
 |(l,c) =>
 some (sib l c)
theorem Bes:FO 109 [.str,.int .u8] [.int .i64] (X2):=fR (px:=Bni _) (n:=0) Tryz.func109 rfl (λ_ H=>⟨lv H (c1 H Bxt Ae) Aa Ab,Ai⟩) λ(_,_)=>by kernel_rfl
def K4(l:Str)(c:Int):Int :=(sib l c)
theorem Be6(x:HV [.str,.int .u8]):X2 x=some (K4 x.1 x.2):=by
 first
  |exact rfl
  |simp only[X2,K4,A4]
def Ai0:FT [.str,.int .u8] [.int .i64]:=λx=>some (K4 x.1 x.2)
theorem Alx:FO 109 [.str,.int .u8] [.int .i64] Ai0 :=.fin0 Bes λx _ _ hx=>(Be6 x).trans hx
def Bly(R:Type):Px R:=pxO [] [] [] []
def Yu(x:HV [.int .u8]):Option (HV [.bool]):=match x with
 |c =>
 cond (decide (65<=c)) (
  some (decide (c<=90))) (
  some false)
theorem Bea:FO 172 [.int .u8] [.bool] (Yu):=fR (px:=Bly _) (n:=0) Tryz.func172 rfl (λ_ H=>⟨lv H Ae Aa Ab,Ai⟩) λ_=>by kernel_rfl
def Ag6(c:Int):Bool :=
 cond (decide (65<=c)) (
  (decide (c<=90))) (
  false)
theorem Bic(x:HV [.int .u8]):Yu x=some (Ag6 x):=by
 first
  |exact rfl
  |simp only[Yu,Ag6,A4]
def Ai2:FT [.int .u8] [.bool]:=λx=>some (Ag6 x)
theorem Aml:FO 172 [.int .u8] [.bool] Ai2 :=.fin0 Bea λx _ _ hx=>(Bic x).trans hx
theorem Aok(c:Int):Ag6 c=Lp.isUp c:=by simp only[Ag6,Lp.isUp];cases decide (65<=c)<;>rfl
def Bng(R:Type):Px R:=pxO [(121,cA Ajg),(172,cA Ai2)] [] [] []
def X3(x:HV [.str,.int .i64]):Option (HV [.bool]):=match x with
 |(s,i) =>
 cond (decide (i=(s.length:Int))) (
  some true) (
  chk (inb i s.length) (
  cond (!(Ahq (bat s i))) (
   chk (inb i s.length) (
   some (!(Ag6 (bat s i))))) (
   some false)))
theorem Bhd:FO 174 [.str,.int .i64] [.bool] (X3):=fR (px:=Bng _) (n:=0) Tryz.func174 rfl (λ_ H=>⟨lv H (c1 H Anq (c1 H Aml Ae)) Aa Ab,Ai⟩) λ(_,_)=>by kernel_rfl
def Wj(s:Str)(i:Int):Option Bool:=if 0<=i/\i<=s.length then some (Lp.aloneF s i) else none
def Avp:FT [.str,.int .i64] [.bool]:=λx=>Wj x.1 x.2
theorem Bu0(a b:Int):(a == b)=decide (a=b):=rfl
theorem Bwq(s:Str)(i:Int)(h : 0<=i/\i<=s.length):X3 (s,i)=some (Lp.aloneF s i):=by
 simp only[X3,Lp.aloneF,Ajx,Aok,Bu0];by_cases he:i=s.length
 ·grind
 ·rw[Zd1 he,Ay8 (by omega)];show cond (!Lp.isIn (bat s i)) (some (!Lp.isUp (bat s i))) (some false)=some (!Lp.isIn (bat s i) && !Lp.isUp (bat s i));cases Lp.isIn (bat s i)<;>rfl
theorem Bk9:FO 174 [.str,.int .i64] [.bool] Avp :=.fin0 Bhd λ(s,i) r hb hx=>by
 simp only[Avp,Wj] at hx;split at hx
 ·rename_i h;exact(Bwq s i h).trans hx
 ·cases hx
def Ahr:Sig:=⟨46,[(0,.str),(2,.int .i64),(3,.bool),(4,.int .i64),(11,.int .i64),(12,.int .i64)],[],[],0,0,0,[],[]⟩
abbrev Oi:=Str×Int×Bool×Int×Int×Int
def Nl{R:Type}(rec:Oi->Option R)(kx:Ex->Oi->Option R)(v:Oi):Option R:=match v with
 |(v,v1,v2,v3,v4,v5) =>
 cond (decide (v5<v4)) (
  chk (inb v5 v.length) (
  cond (!decide ((A2e v3 10).2=0)) (
   kx .ret (v,0,false,v3,v4,v5)) (
   cond (!decide ((A45 ((A2e v3 10).1) (wr .i64 (wr .u8 ((bat v v5)-48)))).2=0)) (
   kx .ret (v,0,false,v3,v4,v5)) (
   rec (v,v1,v2,(A45 ((A2e v3 10).1) (wr .i64 (wr .u8 ((bat v v5)-48)))).1,v4,(wr .i64 (v5+1))))))) (
  kx (.exit 0) (v,v1,v2,v3,v4,v5))
def Asj(R:Type)(k:Nat):Px R:=pxO [(231,cA Bpj),(232,cA Bkl)] [] [(3,Al k Ahr (Nl))] []
def Af8(k:Nat)(x:HV [.str]):Option (HV [.int .i64,.bool]):=match x with
 |s =>
 Aj (λrec=>Nl rec (λe vz=>match vz with|(v6,v7,v8,v9,_,_)=>match e with
  |.ret =>
  some (v7,v8)
  |.exit 0 =>
  cond (decide (v6=[48])) (
   some (v9,true)) (
   chk (inb 0 v6.length) (
   some (v9, !decide ((bat v6 0)=48))))
  |_=>none)) k (s,0,false,0,(s.length:Int),0)
theorem A7s(k:Nat):FO 176 [.str] [.int .i64,.bool] (Af8 k):=fR (px:=Asj _ k) (n:=1) Tryz.func176 rfl (λcx H=>by have h0:Lv cx (Asj (HV [.int .i64,.bool]) k):=lv H (c1 H Btt (c1 H Btf Ae)) Aa Ab;have hlnumber_0:=lO H h0 (b:=lp Tryz.f176 0) (k:=k) (n:=0) (s:=Ahr) (step:=Nl) (λ_ _ _ (_,_,_,_,_,_)=>by kernel_rfl) Ai;exact⟨h0,(A2 Ai hlnumber_0)⟩) λ_=>by kernel_rfl
def Bjp(s:Str):Int×Bool:=match Lp.numGo s 0 with|some n=>(n,decide (s=[48]) || !decide (bat s 0=48))|none=>(0,false)
def Axz(s:Str):Option (Int×Bool):=match s with|[]=>none|_=>some (Bjp s)
def Apa:FT [.str] [.int .i64,.bool]:=λx=>Axz x
theorem Agq{R:Type}{kx:Ex->Oi->Option R}{s:Str}{c:Option Int->Option R}(hs:ln s.length)(h1:∀n j,kx .ret (s,0,false,n,(s.length:Int),j)=c none)(h2:∀q r n j,kx (.exit 0) (s,q,r,n,(s.length:Int),j)=c (some n)):∀(k i:Nat) (q:Int) (r:Bool) (n:Int),inI n->i<=s.length->s.length-i<k->Aj (λrec=>Nl rec kx) k (s,q,r,n,(s.length:Int),(i:Int))=c (Lp.numGo (s.drop i) n)
 |0,i,q,r,n,_,_,h=>absurd h (Zm1 _)
 |k+1,i,q,r,n,hn,hi,h=>by
  rw[A0];by_cases hl:i<s.length
  ·have hd:=Lp.inI_dg (s[i].toNat:Int);have e10:inI (10:Int):=by simp[inI]
   simp only[Nl,Au hl,C1 hl,(Bxu hn e10)];rw[Ze1 (show(i:Int)<(s.length:Int) by omega),Ay hl];simp[ Lp.numGo];by_cases hm:inI (n*10)
   ·have hm':=hm;simp[inI] at hm';have ef:X0 (n*10)=(n*10,0):=by rw[X0,if_pos hm']
    simp[ef,(Bzo hm (show inI (wr .i64 (wr .u8 ((s[i].toNat:Int)-48))) from hd))];by_cases hf:inI (n*10+Lp.dg (s[i].toNat:Int))
    ·have hf':=hf;simp[inI] at hf';have eg:X0 (n*10+wr .i64 (wr .u8 ((s[i].toNat:Int)-48)))=(n*10+Lp.dg (s[i].toNat:Int),0):=by have hf2 : -9223372036854775808<=n*10+wr .i64 (wr .u8 ((s[i].toNat:Int)-48))/\n*10+wr .i64 (wr .u8 ((s[i].toNat:Int)-48))<=9223372036854775807:=hf';rw[X0,if_pos hf2];rfl
     rw[eg,if_pos (show Lp.inI _/\Lp.inI _ from⟨hm,hf⟩)];rw[Ao hl hs];exact(Agq hs h1 h2 k (i+1) q r (n*10+Lp.dg (s[i].toNat:Int)) hf (by omega) (by omega))
    ·have hf':=hf;simp only[inI] at hf';have eg:X0 (n*10+wr .i64 (wr .u8 ((s[i].toNat:Int)-48)))=(0,20):=by have hf2:¬(-9223372036854775808<=n*10+wr .i64 (wr .u8 ((s[i].toNat:Int)-48))/\n*10+wr .i64 (wr .u8 ((s[i].toNat:Int)-48))<=9223372036854775807):=hf';rw[X0,if_neg hf2]
     rw[eg,if_neg (λh=>hf h.2)];exact h1 _ _
   ·have hm':=hm;simp only[inI] at hm';have ef:X0 (n*10)=(0,20):=by rw[X0,if_neg hm']
    rw[if_neg (λh=>hm h.1)];simp[ef];exact h1 _ _
  ·simp[Nl,h2];rw[Zd1 (by omega),Zk1 (by omega)];rfl
theorem Bg6:FO 176 [.str] [.int .i64,.bool] Apa :=.fin 0 A7s λs r hb hx=>⟨s.length+1,by
 simp only[Apa] at hx;cases s with
 |nil=>cases hx
 |cons b l =>
  have hx:some (Bjp (b::l))=some r:=hx;rw[<-hx];simp only[Af8];refine(Agq (s:=b::l) (c:=λo=>match o with|some n=>some (n,decide (b::l=[48]) || !decide (bat (b::l) 0=48))|none=>some (0,false)) hb (λ_ _=>rfl) (λ_ _ n _ =>?_) ((b::l).length+1) 0 0 false 0 (by simp[inI]) (Nat.zero_le _) (by omega)).trans ?_
  ·show cond (decide (b::l=[48])) (some (n,true)) (chk (inb 0 (b::l).length) (some (n, !decide (bat (b::l) 0=48))))=_;rw[Ay8 (by simp only[Zf1];omega)];cases decide (b::l=[48])<;>rfl
  ·simp only[Zq1,Bjp];cases Lp.numGo (b::l) 0<;>rfl⟩
def Agc:Sig:=⟨40,[(0,.str),(4,.str),(5,.int .i64),(6,.sl .byte true),(7,.int .i64)],[],[],0,0,0,[],[]⟩
abbrev O3:=Str×Str×Int×List UInt8×Int
def Mm{R:Type}(rec:O3->Option R)(kx:Ex->O3->Option R)(v:O3):Option R:=match v with
 |(v,v1,v2,v3,v4) =>
 cond (decide (v4<(v.length:Int))) (
  chk (inb v4 v.length) (
  cond (decide ((bat v v4)=39)) (
   cond (decide ((wr .i64 (v4+1))=(v.length:Int))) (
   kx .ret (v,v3,(wr .i64 (v4+1)),v3,(wr .i64 (v4+1)))) (
   chk (inb (wr .i64 (v4+1)) v.length) (
    cond (!decide ((bat v (wr .i64 (v4+1)))=39)) (
    kx .ret (v,v3,(wr .i64 (v4+1)),v3,(wr .i64 (v4+1)))) (
    chk (inb (wr .i64 (v4+1)) v.length) (
     chk (decide (v3.length+1<=Ag)) (
     rec (v,v1,v2,(v3++[(UInt8.ofNat ((bat v (wr .i64 (v4+1))):Int).toNat)]),(wr .i64 ((wr .i64 (v4+1))+1))))))))) (
   chk (inb v4 v.length) (
   chk (decide (v3.length+1<=Ag)) (
    rec (v,v1,v2,(v3++[(UInt8.ofNat ((bat v v4):Int).toNat)]),(wr .i64 (v4+1)))))))) (
  kx (.exit 0) (v,v1,v2,v3,v4))
def Aq4(R:Type)(k:Nat):Px R:=pxO [] [] [(3,Al k Agc (Mm))] []
def Agb(k:Nat)(x:HV [.str,.int .i64]):Option (HV [.str,.int .i64]):=match x with
 |(s,i) =>
 Aj (λrec=>Mm rec (λe vz=>match vz with|(_,v6,v7,_,_)=>match e with
  |.ret =>
  some (v6,v7)
  |.exit 0 =>
  some ([],(-1))
  |_=>none)) k (s,[],0,[],i)
theorem A5r(k:Nat):FO 177 [.str,.int .i64] [.str,.int .i64] (Agb k):=fR (px:=Aq4 _ k) (n:=1) Tryz.func177 rfl (λcx H=>by have h0:Lv cx (Aq4 (HV [.str,.int .i64]) k):=lv H Ae Aa Ab;have hlquoted_0:=lO H h0 (b:=lp Tryz.f177 0) (k:=k) (n:=0) (s:=Agc) (step:=Mm) (λ_ _ _ (_,_,_,_,_)=>by kernel_rfl) Ai;exact⟨h0,(A2 Ai hlquoted_0)⟩) λ(_,_)=>by kernel_rfl
def Axk(s:Str)(i:Int):Option (Str×Int):=if 0<=i/\i<=s.length/\s.length<=1000000 then some (Lp.qGo (s.drop i.toNat) [] i) else none
def Aot:FT [.str,.int .i64] [.str,.int .i64]:=λx=>Axk x.1 x.2
theorem Ala(b:UInt8):UInt8.ofNat ((b.toNat:Int)).toNat=b:=by simp
theorem Ql{R:Type}{kx:Ex->O3->Option R}{s:Str}{c:Str×Int->Option R}(hs:s.length<=1000000)(h1:∀a j,kx .ret (s,a,j,a,j)=c (a,j))(h2:∀q r a j,kx (.exit 0) (s,q,r,a,j)=c ([], -1)):∀(k i:Nat) (q:Str) (r:Int) (a:Str),a.length<=i->i<=s.length->s.length-i<k->Aj (λrec=>Mm rec kx) k (s,q,r,a,(i:Int))=c (Lp.qGo (s.drop (i:Int).toNat) a i)
 |0,i,q,r,a,_,_,h=>absurd h (Zm1 _)
 |k+1,i,q,r,a,ha,hi,h=>by
  rw[A0];by_cases hl:i<s.length
  ·have hln:ln s.length:=by simp[ln];omega
   have ea:decide (a.length+1<=Ag)=true:=Ze1 (by simp[Ag];omega);have eb:Sx.byt s (i:Int)=(s[i].toNat:Int):=C1 hl;simp only[Mm,Au hl,Ao hl hln,C1 hl,ea,Ala];rw[Ze1 (show(i:Int)<(s.length:Int) by omega)];simp only[ chk];by_cases h39:(s[i].toNat:Int)=39
   ·rw[Ze1 h39,Ah];by_cases he:i+1=s.length
    ·rw[Ze1 (show((i+1:Nat):Int)=(s.length:Int) by omega),Ah,h1,Lp.q_last (by omega) (by omega) (eb.trans h39)];rfl
    ·have hl2:i+1<s.length:=by omega
     have eb2:Sx.byt s ((i:Int)+1)=(s[i+1].toNat:Int):=C1 hl2;rw[Zd1 (show ¬((i+1:Nat):Int)=(s.length:Int) by omega),Au hl2,Af];simp only[ C1 hl2,Ala];by_cases h3:(s[i+1].toNat:Int)=39
     ·have ih:=Ql hs h1 h2 k (i+1+1) q r (a++[s[i+1]]) (by simp;omega) (by omega) (by omega);have e39:s[i+1]=39:=by rw[<-UInt8.toNat_inj];exact Int.ofNat.inj h3
      rw[Ze1 h3,Lp.q_two (by omega) (by omega) (eb.trans h39) (eb2.trans h3),Ao hl2 hln];simp only[Zt1];rw[ih,e39];rfl
     ·rw[Zd1 h3,Lp.q_close (by omega) (by omega) (eb.trans h39) (λe=>h3 (eb2.symm.trans e))];simp[ h1]
   ·have ih:=Ql hs h1 h2 k (i+1) q r (a++[s[i]]) (by simp;omega) (by omega) (by omega);rw[Zd1 h39,Af,ih,Lp.q_other (by omega) (by omega) (λe=>h39 (eb.symm.trans e))];have eg:s.getD (i:Int).toNat 0=s[i]:=by simp[ hl]
    rw[eg];rfl
  ·simp only[Mm,h2];rw[Zd1 (by omega),Lp.q_end (by omega)];rfl
theorem Bf6:FO 177 [.str,.int .i64] [.str,.int .i64] Aot :=.fin 0 A5r λ(s,i) r hb hx=>⟨s.length+1,by
 simp only[Aot,Axk] at hx;split at hx
 ·rename_i h;rw[<-hx];obtain⟨n,rfl⟩:=Int.eq_ofNat_of_zero_le h.1;simp only[Agb];exact Ql (c:=some) h.2.2 (λ_ _=>rfl) (λ_ _ _ _=>rfl) (s.length+1) n [] 0 [] (Nat.zero_le _) (by omega) (by omega)
 ·cases hx⟩
def Amo:Sig:=⟨19,[(0,.str),(2,.int .i64),(5,.sl .str true),(6,.int .i64),(7,.int .i64)],[],[],0,0,0,[],[]⟩
abbrev Ae7:=Str×Int×List Str×Int×Int
def Axj{R:Type}(rec:Ae7->Option R)(kx:Ex->Ae7->Option R)(v:Ae7):Option R:=match v with
 |(v,v1,v2,v3,v4) =>
 cond (decide (v4<v3)) (
  chk (inb v4 v2.length) (
  cond ((hpre v (at' .str v2 v4))) (
   kx .ret (v,2,v2,v3,v4)) (
   rec (v,v1,v2,v3,(wr .i64 (v4+1)))))) (
  kx (.exit 0) (v,v1,v2,v3,v4))
def A1l(R:Type)(k:Nat):Px R:=pxO [(170,cA A8r),(109,cA Ai0)] [] [(2,Al k Amo (Axj))] []
def An1(k:Nat)(x:HV [.str]):Option (HV [.int .i64]):=match x with
 |s =>
 Aj (λrec=>Axj rec (λe vz=>match vz with|(v5,v6,_,_,_)=>match e with
  |.ret =>
  some v6
  |.exit 0 =>
  chk (inb 0 v5.length) (
   cond (decide (0<=(K4 [40,41,44,42,61,60,62,43,45,59] (bat v5 0)))) (
   some 1) (
   some 0))
  |_=>none)) k (s,0,[[60,62],[60,61],[62,61]],3,0)
theorem Bhi(k:Nat):FO 178 [.str] [.int .i64] (An1 k):=fR (px:=A1l _ k) (n:=1) Tryz.func178 rfl (λcx H=>by have h0:Lv cx (A1l (HV [.int .i64]) k):=lv H (c1 H Bbm (c1 H Alx Ae)) Aa Ab;have hllsign_0:=lO H h0 (b:=lp Tryz.f178 0) (k:=k) (n:=0) (s:=Amo) (step:=Axj) (λ_ _ _ (_,_,_,_,_)=>by kernel_rfl) Ai;exact⟨h0,(A2 Ai hllsign_0)⟩) λ_=>by kernel_rfl
def Brm(s:Str):Option Int:=match s with|[]=>none|_=>some (Lp.signF s)
def Aye:FT [.str] [.int .i64]:=λx=>Brm x
theorem Bma:FO 178 [.str] [.int .i64] Aye :=.fin 0 Bhi λs r hb hx=>⟨4,by
 simp only[Aye] at hx;cases s with
 |nil=>cases hx
 |cons b l =>
  have hx:some (Lp.signF (b::l))=some r:=hx;rw[<-hx];have e0:inb 0 (b::l).length=true:=Ay8 (by simp only[Zf1];omega);have e1:hpre (b::l) [60,62]=Lp.pre (b::l) [60,62]:=rfl;have e2:hpre (b::l) [60,61]=Lp.pre (b::l) [60,61]:=rfl;have e3:hpre (b::l) [62,61]=Lp.pre (b::l) [62,61]:=rfl;have ei:K4 [40,41,44,42,61,60,62,43,45,59] (bat (b::l) 0)=Lib.indexByte Lp.signs (Sx.byt (b::l) 0).toNat.toUInt8:=rfl;simp only[An1,Lp.signF,<-ei,<-e1,<-e2,<-e3];show cond (hpre (b::l) [60,62]) (some 2) (cond (hpre (b::l) [60,61]) (some 2) (cond (hpre (b::l) [62,61]) (some 2) (chk (inb 0 (b::l).length) (cond (decide (0<=K4 [40,41,44,42,61,60,62,43,45,59] (bat (b::l) 0))) (some 1) (some 0)))))=_;generalize K4 [40,41,44,42,61,60,62,43,45,59] (bat (b::l) 0)=z;rw[e0];by_cases hz : 0<=z
  ·rw[Ze1 hz,if_pos hz];cases hpre (b::l) [60,62]<;>cases hpre (b::l) [60,61]<;>cases hpre (b::l) [62,61]<;>rfl
  ·rw[Zd1 hz,if_neg hz];cases hpre (b::l) [60,62]<;>cases hpre (b::l) [60,61]<;>cases hpre (b::l) [62,61]<;>rfl⟩
def Bgl(R:Type):Px R:=pxO [] [] [] []
def Sz(x:HV [.int .u8]):Option (HV [.int .u8,.bool]):=match x with
 |c =>
 let j:=λ(p1:Bool) =>
  cond (p1) (
  some ((wr .u8 (c-48)),true)) (
  cond (decide (97<=c)) (
   cond (decide (c<=102)) (
   some ((wr .u8 ((wr .u8 (c-97))+10)),true)) (
   some (0,false))) (
   some (0,false)))
 cond (decide (48<=c)) (
  j (decide (c<=57))) (
  j false)
theorem A5l:FO 230 [.int .u8] [.int .u8,.bool] (Sz):=fR (px:=Bgl _) (n:=0) Tryz.func230 rfl (λ_ H=>⟨lv H Ae Aa Ab,Ai⟩) λ_=>by kernel_rfl
def Pe(c:Int):Int×Bool :=
 let j:=λ(p1:Bool) =>
  cond (p1) (
  ((wr .u8 (c-48)),true)) (
  cond (decide (97<=c)) (
   cond (decide (c<=102)) (
   ((wr .u8 ((wr .u8 (c-97))+10)),true)) (
   (0,false))) (
   (0,false)))
 cond (decide (48<=c)) (
  j (decide (c<=57))) (
  j false)
theorem A5q(x:HV [.int .u8]):Sz x=some (Pe x):=by
 first
  |exact rfl
  |simp only[Sz,Pe,A4]
def A1w:FT [.int .u8] [.int .u8,.bool]:=λx=>some (Pe x)
theorem Ber:FO 230 [.int .u8] [.int .u8,.bool] A1w :=.fin0 A5l λx _ _ hx=>(A5q x).trans hx
def Bza(c:Int):Int×Bool:=match Lp.hexD c with|some n=>(n,true)|none=>(0,false)
theorem A4s:((List.range 256).all λn=>decide (Pe (n:Int)=Bza (n:Int)))=true:=by kernel_rfl
theorem Beu(b:UInt8):Pe (b.toNat:Int)=Bza (b.toNat:Int):=by exact of_decide_eq_true (Zg2.1 A4s b.toNat (List.mem_range.2 b.toNat_lt))
def Aj9:Sig:=⟨49,[(0,.str),(2,.sl .byte true),(3,.int .i64),(4,.sl .byte true),(5,.int .i64)],[],[],0,0,0,[],[]⟩
abbrev Ti:=Str×List UInt8×Int×List UInt8×Int
def T4{R:Type}(rec:Ti->Option R)(kx:Ex->Ti->Option R)(v:Ti):Option R:=match v with
 |(v,v1,v2,v3,v4) =>
 cond (decide (v4<(v.length:Int))) (
  chk (inb v4 v.length) (
  chk (inb (wr .i64 (v4+1)) v.length) (
   cond (!((Pe (bat v v4)).2)) (
   kx .ret (v,[],11,v3,v4)) (
   cond (!((Pe (bat v (wr .i64 (v4+1)))).2)) (
    kx .ret (v,[],11,v3,v4)) (
    chk (decide (v3.length+1<=Ag)) (
    rec (v,v1,v2,(v3++[(UInt8.ofNat ((ior .u8 (Aax .u8 ((Pe (bat v v4)).1) 4) ((Pe (bat v (wr .i64 (v4+1)))).1)):Int).toNat)]),(wr .i64 (v4+2))))))))) (
  kx (.exit 0) (v,v1,v2,v3,v4))
def Azt(R:Type)(k:Nat):Px R:=pxO [(230,cA A1w)] [] [(5,Al k Aj9 (T4))] []
def Ank(k:Nat)(x:HV [.str]):Option (HV [.sl .byte true,.int .i64]):=match x with
 |s =>
 cond (!decide ((Int.tmod (s.length:Int) 2)=0)) (
  some ([],11)) (
  Aj (λrec=>T4 rec (λe vz=>match vz with|(_,v6,v7,v8,_)=>match e with
  |.ret =>some (v6,v7)
  |.exit 0 =>some (v8,0)
  |_=>none)) k (s,[],0,[],0))
theorem Bd4(k:Nat):FO 171 [.str] [.sl .byte true,.int .i64] (Ank k):=fR (px:=Azt _ k) (n:=1) Tryz.func171 rfl (λcx H=>by have h0:Lv cx (Azt (HV [.sl .byte true,.int .i64]) k):=lv H (c1 H Ber Ae) Aa Ab;have hlunhex_0:=lO H h0 (b:=lp Tryz.f171 0) (k:=k) (n:=0) (s:=Aj9) (step:=T4) (λ_ _ _ (_,_,_,_,_)=>by kernel_rfl) Ai;exact⟨h0,(A2 Ai hlunhex_0)⟩) λ_=>by kernel_rfl
def unP(s:Str):Str×Int:=match(if s.length % 2=0 then Lp.unGo s [] else none) with|some b=>(b,0)|none=>([],11)
def Bcq(s:Str):Option (Str×Int):=if s.length<=1000000 then some (unP s) else none
def Au0:FT [.str] [.sl .byte true,.int .i64]:=λx=>Bcq x
theorem Am3{R:Type}{kx:Ex->Ti->Option R}{s:Str}{c:Option Str->Option R}(hs:s.length<=1000000)(h1:∀a j,kx .ret (s,[],11,a,j)=c none)(h2:∀q r a j,kx (.exit 0) (s,q,r,a,j)=c (some a)):∀(k i:Nat) (q:Str) (r:Int) (a:Str),a.length<=i->i<=s.length->(s.length-i) % 2=0->s.length-i<k->Aj (λrec=>T4 rec kx) k (s,q,r,a,(i:Int))=c (Lp.unGo (s.drop (i:Int).toNat) a)
 |0,i,q,r,a,_,_,_,h=>absurd h (Zm1 _)
 |k+1,i,q,r,a,ha,hi,hev,h=>by
  rw[A0];by_cases hl:i<s.length
  ·have hl2:i+1<s.length:=by omega
   have hln:ln s.length:=by simp[ln];omega
   have ea:decide (a.length+1<=Ag)=true:=Ze1 (by simp[Ag];omega);have eb:Sx.byt s (i:Int)=(s[i].toNat:Int):=C1 hl;have eb2:Sx.byt s ((i:Int)+1)=(s[i+1].toNat:Int):=C1 hl2;have ew:wr .i64 ((i:Int)+2)=((i+1+1:Nat):Int):=by rw[Be (by simp[inI];omega)];omega
   simp only[T4,Au hl,Ao hl hln,C1 hl,C1 hl2,Au hl2,ea,ew,Beu];rw[Ze1 (show(i:Int)<(s.length:Int) by omega),Lp.un_step (by omega) (by omega),eb,eb2];simp[Ah,chk,Bza];cases hx:Lp.hexD (s[i].toNat:Int) with
   |none=>exact h1 _ _
   |some x =>cases hy:Lp.hexD (s[i+1].toNat:Int) with|none=>exact h1 _ _|some y =>have ih:=Am3 hs h1 h2 k (i+1+1) q r (a++[UInt8.ofNat (x*16+y).toNat]) (by simp[ Zi1];omega) (by omega) (by omega) (by omega);have ej:ior .u8 (Aax .u8 x 4) y=_:=Lp.joinhex' (Lp.hexD_lt hx) (Lp.hexD_lt hy);simp only[Zt1,Af,ej,Ala];exact ih
  ·simp[T4,h2];rw[Zd1 (by omega),Zk1 (by omega)];rfl
theorem Bp5:FO 171 [.str] [.sl .byte true,.int .i64] Au0 :=.fin 0 Bd4 λs r hb hx=>⟨s.length+1,by
 simp only[Au0,Bcq] at hx;split at hx
 ·rename_i h;rw[<-hx];have et:Int.tmod (s.length:Int) 2=((s.length % 2:Nat):Int):=rfl;simp only[Ank,et,unP];by_cases h2:s.length % 2=0
  ·rw[Ze1 (show((s.length % 2:Nat):Int)=0 by omega),if_pos h2,Zt1,Af];refine(Am3 (c:=λo=>match o with|some b=>some (b,(0:Int))|none=>some ([],11)) h (λ_ _ =>?_) (λ_ _ _ _ =>?_) (s.length+1) 0 [] 0 [] (Nat.zero_le _) (Nat.zero_le _) h2 (by omega)).trans ?_
   ·rfl
   ·rfl
   simp only[Int.toNat_natCast,Zq1];cases Lp.unGo s []<;>rfl
  ·rw[Zd1 (show ¬((s.length % 2:Nat):Int)=0 by omega),if_neg h2];rfl
 ·cases hx⟩
def Bm4(R:Type):Px R:=pxO [(131,cA A7t)] [] [] []
def Yo(x:HV [.str]):Option (HV [.bool]):=match x with
 |s =>
 some (A0n wordsL s)
theorem Bek:FO 173 [.str] [.bool] (Yo):=fR (px:=Bm4 _) (n:=0) Tryz.func173 rfl (λ_ H=>⟨lv H (c1 H Bdx Ae) Aa Ab,Ai⟩) λ_=>by kernel_rfl
def As9(s:Str):Bool :=(A0n wordsL s)
theorem Bht(x:HV [.str]):Yo x=some (As9 x):=by
 first
  |exact rfl
  |simp only[Yo,As9,A4]
def A85:FT [.str] [.bool]:=λx=>some (As9 x)
theorem Brx:FO 173 [.str] [.bool] A85 :=.fin0 Bek λx _ _ hx=>(Bht x).trans hx
theorem Bsk(s:Str):As9 s=Lp.wordF s:=Bdj wordsL s
def Q3:Sig:=⟨21,[(0,.str),(1,.int .i64)],[(2,.fn 175 [])],[(0,.one (.sv .tok)),(1,.one (.sv .tok))],40,40,200,[],[]⟩
abbrev F4:=Str×Int×Tok×Tok
def Kb{R:Type}(rec:F4->Option R)(kx:Ex->F4->Option R)(v:F4):Option R:=match v with
 |(a,b,w4,w5) =>
 cond (decide (b<(a.length:Int))) (
  chk (inb b a.length) (
  cond ((Acb (bat a b))) (
   rec (a,(wr .i64 (b+1)),w4,w5)) (
   kx (.exit 0) (a,b,w4,w5)))) (
  kx (.exit 0) (a,b,w4,w5))
def Ri:Sig:=⟨21,[(0,.str),(1,.int .i64)],[(2,.fn 121 [])],[(0,.one (.sv .tok)),(1,.one (.sv .tok))],40,40,200,[],[]⟩
abbrev Fw:=Str×Int×Tok×Tok
def J2{R:Type}(rec:Fw->Option R)(kx:Ex->Fw->Option R)(v:Fw):Option R:=match v with
 |(v6,v7,w2,w3) =>
 cond (decide (v7<(v6.length:Int))) (
  chk (inb v7 v6.length) (
  cond ((Ahq (bat v6 v7))) (
   rec (v6,(wr .i64 (v7+1)),w2,w3)) (
   kx (.exit 0) (v6,v7,w2,w3)))) (
  kx (.exit 0) (v6,v7,w2,w3))
def Qn:Sig:=⟨21,[(0,.str),(1,.int .i64)],[(2,.fn 172 [])],[(0,.one (.sv .tok)),(1,.one (.sv .tok))],40,40,200,[],[]⟩
abbrev F1:=Str×Int×Tok×Tok
def J6{R:Type}(rec:F1->Option R)(kx:Ex->F1->Option R)(v:F1):Option R:=match v with
 |(v,v1,w,w1) =>
 cond (decide (v1<(v.length:Int))) (
  chk (inb v1 v.length) (
  cond ((Ag6 (bat v v1))) (
   rec (v,(wr .i64 (v1+1)),w,w1)) (
   kx (.exit 0) (v,v1,w,w1)))) (
  kx (.exit 0) (v,v1,w,w1))
def Gg(R:Type)(k:Nat):Px R:=pxO [(172,cA Ai2),(121,cA Ajg),(175,cA Ai3)] [] [(1,Aa2 k Qn (J6) (Aa2 k Ri (J2) (Al k Q3 (Kb))))] []
noncomputable def Aqn(R:Type)(k:Nat):Px R:=pxO [(170,cA A8r),(109,cA Ai0),(171,cA Au0),(172,cA Ai2),(173,cA A85),(174,cA Avp),(119,cA Ai9),(83,cA Km),(175,cA Ai3),(176,cA Apa),(177,cA Aot),(59,cA Nr),(178,cA Aye),(120,Aw 40 200 (Gg R k) Tryz.f120)] [] [] []
theorem A1u(R:Type)(k:Nat):∀(fr:List Fr) (rec:F1->Option R) (kx:Ex->F1->Option R) (v:F1),P7 (Gg R k) Qn (lp Tryz.f120 0) fr rec kx v=J6 rec kx v
 |fr,rec,kx,(v,v1,w,w1)=>by kernel_rfl
theorem A3p(R:Type)(k:Nat):∀(fr:List Fr) (rec:Fw->Option R) (kx:Ex->Fw->Option R) (v:Fw),P7 (Gg R k) Ri (lp Tryz.f120 0) fr rec kx v=J2 rec kx v
 |fr,rec,kx,(v6,v7,w2,w3)=>by kernel_rfl
theorem A1i(R:Type)(k:Nat):∀(fr:List Fr) (rec:F4->Option R) (kx:Ex->F4->Option R) (v:F4),P7 (Gg R k) Q3 (lp Tryz.f120 0) fr rec kx v=Kb rec kx v
 |fr,rec,kx,(a,b,w4,w5)=>by kernel_rfl
def Rf(k:Nat)(x:HV [.str,.int .i64]):Option (HV [.sv .tok,.int .i64]):=match x with
 |(s,i) =>
 chk (inb i s.length) (
  chk (upto i s.length s.length) (
  cond ((hpre (s.drop (i:Int).toNat) [120,39])) (
   chk (upto (wr .i64 (i+2)) s.length s.length) (
   cond (decide ((K4 (s.drop ((wr .i64 (i+2)):Int).toNat) 39)<0)) (
    some ((Tok.mk 0 i [] 0),(-1))) (
    chk (upto (wr .i64 (i+2)) (wr .i64 ((wr .i64 (i+2))+(K4 (s.drop ((wr .i64 (i+2)):Int).toNat) 39))) s.length) (
    (Bcq (cut s (wr .i64 (i+2)) (wr .i64 ((wr .i64 (i+2))+(K4 (s.drop ((wr .i64 (i+2)):Int).toNat) 39))))).bind λ(x,x1) =>
     cond (!decide (x1=0)) (
     some ((Tok.mk 5 i x 0),(-1))) (
     cond (decide (1000<(x.length:Int))) (
      some ((Tok.mk 5 i x 0),(-1))) (
      some ((Tok.mk 5 i x 0),(wr .i64 ((wr .i64 (i+3))+(K4 (s.drop ((wr .i64 (i+2)):Int).toNat) 39)))))))))) (
   cond ((Ag6 (bat s i))) (
   Aj (λrec=>J6 rec (λe vz=>match vz with|(_,v3,_,v5)=>match e with
    |.exit 0 =>
    chk (upto i v3 s.length) (
     cond (!(As9 (cut s i v3))) (
     some ((Tok.mk 1 v5.pos (cut s i v3) v5.n),(-1))) (
     (Wj s v3).bind λx2 =>
      cond (!x2) (
      some ((Tok.mk 1 v5.pos (cut s i v3) v5.n),(-1))) (
      some ((Tok.mk 1 v5.pos (cut s i v3) v5.n),v3))))
    |_=>none)) k (s,i,(Tok.mk 0 0 [] 0),(Tok.mk 0 i [] 0))) (
   cond ((Z9 (bat s i))) (
    Aj (λrec=>J2 rec (λe vz=>match vz with|(_,v9,_,b)=>match e with
    |.exit 0 =>
     chk (upto i v9 s.length) (
     cond (!(G2 (cut s i v9))) (
      some ((Tok.mk 2 b.pos (cut s i v9) b.n),(-1))) (
      (Wj s v9).bind λx3 =>
      cond (!x3) (
       some ((Tok.mk 2 b.pos (cut s i v9) b.n),(-1))) (
       some ((Tok.mk 2 b.pos (cut s i v9) b.n),v9))))
    |_=>none)) k (s,i,(Tok.mk 0 0 [] 0),(Tok.mk 0 i [] 0))) (
    cond ((Acb (bat s i))) (
    Aj (λrec=>Kb rec (λe vz=>match vz with|(_,a,_,c)=>match e with
     |.exit 0 =>
     chk (upto i a s.length) (
      (Axz (cut s i a)).bind λ(x4,x5) =>
      chk (upto i a s.length) (
       cond (!x5) (
       some ((Tok.mk 3 c.pos (cut s i a) x4),(-1))) (
       (Wj s a).bind λx6 =>
        cond (!x6) (
        some ((Tok.mk 3 c.pos (cut s i a) x4),(-1))) (
        some ((Tok.mk 3 c.pos (cut s i a) x4),a)))))
     |_=>none)) k (s,i,(Tok.mk 0 0 [] 0),(Tok.mk 0 i [] 0))) (
    cond (decide ((bat s i)=39)) (
     (Axk s (wr .i64 (i+1))).bind λ(x7,x8) =>
     cond (!decide ((Fa (Val.mk 4 0 x7))=0)) (
      some ((Tok.mk 4 i x7 0),(-1))) (
      some ((Tok.mk 4 i x7 0),x8))) (
     chk (upto i s.length s.length) (
     (Brm (s.drop (i:Int).toNat)).bind λx9 =>
      chk (upto i (wr .i64 (i+x9)) s.length) (
      cond (decide (x9=0)) (
       some ((Tok.mk 6 i (cut s i (wr .i64 (i+x9))) 0),(-1))) (
       some ((Tok.mk 6 i (cut s i (wr .i64 (i+x9))) 0),(wr .i64 (i+x9)))))))))))))
theorem A7v(k:Nat):FO 110 [.str,.int .i64] [.sv .tok,.int .i64] (Rf k):=fR (px:=Aqn _ k) (n:=0) Tryz.func110 rfl (λcx H=>by have h1:Lv cx (Gg (HV [.sv .tok,.int .i64]) k):=lv H (c1 H Aml (c1 H Anq (c1 H Alb Ae))) Aa Ab;have hlltoken_0:Bv cx (Gg (HV [.sv .tok,.int .i64]) k) (lp Tryz.f120 0):=Bcd (λ_ _=>by kernel_rfl) (Aet (Ry h1.p h1.c h1.q (by rw[H.p];exact follows) (k:=k) (s:=Qn) (step:=J6) (by kernel_rfl) (A1u _ k) (Ic (n:=0) (by kernel_rfl) Ai)) (Aet (Ry h1.p h1.c h1.q (by rw[H.p];exact follows) (k:=k) (s:=Ri) (step:=J2) (by kernel_rfl) (A3p _ k) (Ic (n:=0) (by kernel_rfl) Ai)) (Ry h1.p h1.c h1.q (by rw[H.p];exact follows) (k:=k) (s:=Q3) (step:=Kb) (by kernel_rfl) (A1i _ k) (Ic (n:=0) (by kernel_rfl) Ai))));have h0:Lv cx (Aqn (HV [.sv .tok,.int .i64]) k):=lv H (c1 H Bbm (c1 H Alx (c1 H Bp5 (c1 H Aml (c1 H Brx (c1 H Bk9 (c1 H Alk (c1 H Mt (c1 H Alb (c1 H Bg6 (c1 H Bf6 (c1 H Mh (c1 H Bma (Am (cR H h1 Tryz.func120 rfl (n:=1) ((A2 Ai hlltoken_0))) Ae)))))))))))))) Aa Ab;exact⟨h0,Ai⟩) λ(_,_)=>by kernel_rfl
def Aef(s:Str)(i:Int):Option (Tok×Int):=if s.length<=20000 then Rf 20001 (s,i) else none
def Aou:FT [.str,.int .i64] [.sv .tok,.int .i64]:=λx=>Aef x.1 x.2
theorem Bez:FO 110 [.str,.int .i64] [.sv .tok,.int .i64] Aou :=.fin 0 A7v λ(s,i) r hb hx=>⟨20001,by
 simp only[Aou,Aef] at hx;split at hx
 ·exact hx
 ·cases hx⟩
theorem V7{R:Type}{kx:Ex->F1->Option R}{s:Str}(w w1:Tok){a:Int->Option R}(hs:ln s.length)(h1:∀j,kx (.exit 0) (s,j,w,w1)=a j):∀(k i:Nat),i<=s.length->s.length-i<k->Aj (λrec=>J6 rec kx) k (s,(i:Int),w,w1)=a (Lp.runTo Lp.isUp s i)
 |0,i,_,h=>absurd h (Zm1 _)
 |k+1,i,hi,h=>by
  rw[A0];by_cases hl:i<s.length
  ·have ih:=V7 w w1 hs h1 k (i+1) (by omega) (by omega);have eb:Sx.byt s (i:Int)=(s[i].toNat:Int):=C1 hl;simp only[J6,Ao hl hs,ih,h1,C1 hl,Au hl,Aok];rw[Ze1 (show(i:Int)<(s.length:Int) by omega)];cases hp:Lp.isUp (s[i].toNat:Int) with|true =>have:=Lp.runTo_yes (p:=Lp.isUp) (l:=s) (j:=i) (by omega) (by rw[eb];exact hp);rw[<-this];rfl|false =>have:=Lp.runTo_no (p:=Lp.isUp) (l:=s) (j:=i) (by omega) (by rw[eb];exact hp);rw[this];rfl
  ·have:=Lp.runTo_end (p:=Lp.isUp) (l:=s) (j:=i) (by omega);simp only[J6,h1];rw[Zd1 (by omega),this];rfl
theorem Wu{R:Type}{kx:Ex->Fw->Option R}{s:Str}(w w1:Tok){a:Int->Option R}(hs:ln s.length)(h1:∀j,kx (.exit 0) (s,j,w,w1)=a j):∀(k i:Nat),i<=s.length->s.length-i<k->Aj (λrec=>J2 rec kx) k (s,(i:Int),w,w1)=a (Lp.runTo Lp.isIn s i)
 |0,i,_,h=>absurd h (Zm1 _)
 |k+1,i,hi,h=>by
  rw[A0];by_cases hl:i<s.length
  ·have ih:=Wu w w1 hs h1 k (i+1) (by omega) (by omega);have eb:Sx.byt s (i:Int)=(s[i].toNat:Int):=C1 hl;simp only[J2,Ao hl hs,ih,h1,C1 hl,Au hl,Ajx];rw[Ze1 (show(i:Int)<(s.length:Int) by omega)];cases hp:Lp.isIn (s[i].toNat:Int) with|true =>have:=Lp.runTo_yes (p:=Lp.isIn) (l:=s) (j:=i) (by omega) (by rw[eb];exact hp);rw[<-this];rfl|false =>have:=Lp.runTo_no (p:=Lp.isIn) (l:=s) (j:=i) (by omega) (by rw[eb];exact hp);rw[this];rfl
  ·have:=Lp.runTo_end (p:=Lp.isIn) (l:=s) (j:=i) (by omega);simp only[J2,h1];rw[Zd1 (by omega),this];rfl
theorem V9{R:Type}{kx:Ex->F4->Option R}{s:Str}(w w1:Tok){a:Int->Option R}(hs:ln s.length)(h1:∀j,kx (.exit 0) (s,j,w,w1)=a j):∀(k i:Nat),i<=s.length->s.length-i<k->Aj (λrec=>Kb rec kx) k (s,(i:Int),w,w1)=a (Lp.runTo Lp.isDi s i)
 |0,i,_,h=>absurd h (Zm1 _)
 |k+1,i,hi,h=>by
  rw[A0];by_cases hl:i<s.length
  ·have ih:=V9 w w1 hs h1 k (i+1) (by omega) (by omega);have eb:Sx.byt s (i:Int)=(s[i].toNat:Int):=C1 hl;simp only[Kb,Ao hl hs,ih,h1,C1 hl,Au hl,Aku];rw[Ze1 (show(i:Int)<(s.length:Int) by omega)];cases hp:Lp.isDi (s[i].toNat:Int) with|true =>have:=Lp.runTo_yes (p:=Lp.isDi) (l:=s) (j:=i) (by omega) (by rw[eb];exact hp);rw[<-this];rfl|false =>have:=Lp.runTo_no (p:=Lp.isDi) (l:=s) (j:=i) (by omega) (by rw[eb];exact hp);rw[this];rfl
  ·have:=Lp.runTo_end (p:=Lp.isDi) (l:=s) (j:=i) (by omega);simp only[Kb,h1];rw[Zd1 (by omega),this];rfl
theorem Zf{i j:Int}{n:Nat}(h : 0<=i/\i<=j/\j<=n):upto i j n=true:=by simp[upto,h]
theorem A8m{n:Int}(h : 0<=n/\n<=1000000):wr .i64 n=n:=Be (by simp[inI];omega)
theorem Bjd{x:Str}(h:x≠[]):Axz x=some (Bjp x):=by cases x with|nil=>exact absurd rfl h|cons b l=>rfl
theorem Br3{x:Str}(h:x≠[]):Brm x=some (Lp.signF x):=by cases x with|nil=>exact absurd rfl h|cons b l=>rfl
theorem Alf{s:Str}{i:Int}(h : 0<=i/\i<=s.length):Wj s i=some (Lp.aloneF s i):=if_pos h
theorem A6b(x:Str):Hs x=Lp.visF x:=by
 have e:∀b:UInt8,vis b=Lp.vis (b.toNat:Int):=λb=>by simp[vis,Lp.vis];rw[show decide (32<=b.toNat)=decide (32<=(b.toNat:Int)) from Zy1.2 (by omega),show decide (b.toNat<=126)=decide ((b.toNat:Int)<=126) from Zy1.2 (by omega)]
 simp[Hs];congr 1;funext b;exact e b
theorem A33(x:Str):A7 (Val.mk 4 0 x)=Lp.rightF 4 0 x:=by show cond (decide ((x.length:Int)<=1000)) (Hs x) false=(decide ((x.length:Int)<=1000)&&Lp.visF x);rw[A6b];cases decide ((x.length:Int)<=1000)<;>rfl
theorem A2a(x:Str):decide (Fa (Val.mk 4 0 x)=0)=Lp.rightF 4 0 x:=by
 have key:∀b:Bool,decide (cond (!b) (2:Int) 0=0)=b:=by decide
 rw[<-A33];exact key _
theorem A5g{s:Str}{i:Int}(hl : 0<=i/\i<s.length)(hs:s.length<=20000):match Lp.tokF s i with
  |some (k,x,n,e)=>Aef s i=some (⟨k,i,x,n⟩,e)
  |none=>∃t,Aef s i=some (t, -1):=by
 have hln:ln s.length:=by simp[ln];omega
 have hd:(s.drop i.toNat).length=s.length-i.toNat:=Za2;have hd2:(s.drop (i+2).toNat).length=s.length-(i+2).toNat:=Za2;have hne:s.drop i.toNat≠[]:=List.ne_nil_of_length_pos (by omega);obtain⟨m,rfl⟩:=Int.eq_ofNat_of_zero_le hl.1;have hm:m<s.length:=by omega
 have ep:∀p q,hpre p q=Lp.pre p q:=λ_ _=>rfl;have eb:bat s (m:Int)=Sx.byt s (m:Int):=rfl;have e39:K4 (s.drop ((m:Int)+2).toNat) 39=Lib.indexByte (s.drop ((m:Int)+2).toNat) 39:=rfl;simp only[Aef,if_pos hs,Rf,Au hm,Zf (show 0<=(m:Int)/\(m:Int)<=(s.length:Int)/\(s.length:Int)<=s.length by omega),ep,eb,Aok,Aoz,Aku,chk,Ah,Lp.tokF,A8m (show 0<=(m:Int)+2/\(m:Int)+2<=1000000 by omega),A8m (show 0<=(m:Int)+3/\(m:Int)+3<=1000000 by omega),A8m (show 0<=(m:Int)+1/\(m:Int)+1<=1000000 by omega)];cases hx:Lp.pre (s.drop (m:Int).toNat) [120,39] with
 |true =>
  have h2 : 2<=(s.drop (m:Int).toNat).length:=by simp[Lp.pre,Zb1,Zg1,Zf1,Zi1] at hx;omega
  have hib:=Lp.indexByte_in (s.drop ((m:Int)+2).toNat) 39;simp[if_true,Ah];rw[Zf (show 0<=(m:Int)+2/\(m:Int)+2<=(s.length:Int)/\(s.length:Int)<=s.length by omega),e39,Ah];generalize Lib.indexByte (s.drop ((m:Int)+2).toNat) 39=z at hib ⊢;by_cases hz:z<0
  ·rw[if_pos hz,Ze1 hz];exact⟨_,rfl⟩
  ·rw[if_neg hz,Zd1 hz,A8m (show 0<=(m:Int)+2+z/\(m:Int)+2+z<=1000000 by omega),A8m (show 0<=(m:Int)+3+z/\(m:Int)+3+z<=1000000 by omega),Zf (show 0<=(m:Int)+2/\(m:Int)+2<=(m:Int)+2+z/\(m:Int)+2+z<=s.length by omega),Af,Ah];have hcl:=Lp.cut_length s ((m:Int)+2) ((m:Int)+2+z) (by omega);have ec:cut s ((m:Int)+2) ((m:Int)+2+z)=Sx.cut s ((m:Int)+2) ((m:Int)+2+z):=rfl;rw[ec];generalize Sx.cut s ((m:Int)+2) ((m:Int)+2+z)=y at hcl ⊢;have eu:Bcq y=some (unP y):=if_pos (by omega);rw[eu,unP];cases (if y.length % 2=0 then Lp.unGo y [] else none) with
   |none=>exact⟨_,rfl⟩
   |some b =>
    by_cases hb : 1000<(b.length:Int)
    ·simp[Zc1];rw[if_pos hb,Ze1 hb];exact⟨_,rfl⟩
    ·simp[Zc1];rw[if_neg hb,Zd1 hb];rfl
 |false =>
  simp only[Af,Zj2,if_false];cases hu:Lp.isUp (Sx.byt s (m:Int)) with
  |true =>
   have hr:=Lp.runTo_range Lp.isUp s m (by omega);simp only[Ah,if_true];rw[V7 (s:=s) (w:=Tok.mk 0 0 [] 0) (w1:=Tok.mk 0 m [] 0) (a:=λv3=>cond (upto (m:Int) v3 s.length) (cond (!(As9 (cut s m v3))) (some ((Tok.mk 1 m (cut s m v3) 0),(-1))) ((Wj s v3).bind λx2=>cond (!x2) (some ((Tok.mk 1 m (cut s m v3) 0),(-1))) (some ((Tok.mk 1 m (cut s m v3) 0),v3)))) none) hln (λ_=>rfl) 20001 m (by omega) (by omega)];rw[Zf (by omega),Alf (by omega),Bsk];have ec:cut s (m:Int) (Lp.runTo Lp.isUp s m)=Sx.cut s (m:Int) (Lp.runTo Lp.isUp s m):=rfl;rw[ec];cases Lp.wordF (Sx.cut s (m:Int) (Lp.runTo Lp.isUp s m)) with
   |false=>exact⟨_,rfl⟩
   |true =>cases Lp.aloneF s (Lp.runTo Lp.isUp s m) with|false=>exact⟨_,rfl⟩|true=>rfl
  |false =>
   simp only[Af,Zj2,if_false];cases hu2:Lp.isLo (Sx.byt s (m:Int)) with
   |true =>
    have hr:=Lp.runTo_range Lp.isIn s m (by omega);simp only[Ah,if_true];rw[Wu (s:=s) (w:=Tok.mk 0 0 [] 0) (w1:=Tok.mk 0 m [] 0) (a:=λv3=>cond (upto (m:Int) v3 s.length) (cond (!(G2 (cut s m v3))) (some ((Tok.mk 2 m (cut s m v3) 0),(-1))) ((Wj s v3).bind λx2=>cond (!x2) (some ((Tok.mk 2 m (cut s m v3) 0),(-1))) (some ((Tok.mk 2 m (cut s m v3) 0),v3)))) none) hln (λ_=>rfl) 20001 m (by omega) (by omega)];rw[Zf (by omega),Alf (by omega)];have ec:cut s (m:Int) (Lp.runTo Lp.isIn s m)=Sx.cut s (m:Int) (Lp.runTo Lp.isIn s m):=rfl;rw[ec];simp[G2];cases Lp.nameF (Sx.cut s (m:Int) (Lp.runTo Lp.isIn s m)) with
    |false=>exact⟨_,rfl⟩
    |true =>cases Lp.aloneF s (Lp.runTo Lp.isIn s m) with|false=>exact⟨_,rfl⟩|true=>rfl
   |false =>
    simp only[Af,Zj2,if_false];cases hu3:Lp.isDi (Sx.byt s (m:Int)) with
    |true =>
     have hr:=Lp.runTo_range Lp.isDi s m (by omega);have hg:=Lp.runTo_gt (p:=Lp.isDi) (by omega) hu3;have hcl:=Lp.cut_length s (m:Int) (Lp.runTo Lp.isDi s m) (by omega);simp only[Ah,if_true];rw[V9 (s:=s) (w:=Tok.mk 0 0 [] 0) (w1:=Tok.mk 0 m [] 0) (a:=λv3=>cond (upto (m:Int) v3 s.length) ((Axz (cut s m v3)).bind λ(x4,x5)=>cond (upto (m:Int) v3 s.length) (cond (!x5) (some ((Tok.mk 3 m (cut s m v3) x4),(-1))) ((Wj s v3).bind λx6=>cond (!x6) (some ((Tok.mk 3 m (cut s m v3) x4),(-1))) (some ((Tok.mk 3 m (cut s m v3) x4),v3)))) none) none) hln (λ_=>rfl) 20001 m (by omega) (by omega)];have ec:cut s (m:Int) (Lp.runTo Lp.isDi s m)=Sx.cut s (m:Int) (Lp.runTo Lp.isDi s m):=rfl;rw[Zf (by omega),Alf (by omega),ec];generalize Sx.cut s (m:Int) (Lp.runTo Lp.isDi s m)=y at hcl ⊢;rw[Bjd (List.ne_nil_of_length_pos (by omega)),Bjp];cases Lp.numGo y 0 with
     |none=>exact⟨_,rfl⟩
     |some n =>
      simp only[Zc1,Ah];have e0:(decide (y=[48]) || !decide (bat y 0=48))=(decide (y=[48])||Sx.byt y 0 != 48):=rfl;rw[e0];cases (decide (y=[48])||Sx.byt y 0 != 48) with
      |false=>exact⟨_,rfl⟩
      |true =>cases Lp.aloneF s (Lp.runTo Lp.isDi s m) with|false=>exact⟨_,rfl⟩|true=>rfl
    |false =>
     simp only[Af,Zj2,if_false];by_cases h39:Sx.byt s (m:Int)=39
     ·have hqi:=Lp.qGo_in _ (s.drop ((m:Int)+1).toNat) [] ((m:Int)+1) (Zn1 _) (by omega);have eq:Axk s ((m:Int)+1)=some (Lp.qGo (s.drop ((m:Int)+1).toNat) [] ((m:Int)+1)):=if_pos (by omega);rw[Ze1 h39,if_pos h39,eq];simp only[Ah,Zc1,A2a];generalize Lp.qGo (s.drop ((m:Int)+1).toNat) [] ((m:Int)+1)=q at hqi ⊢;obtain⟨y,z⟩:=q;cases Lp.rightF 4 0 y with
      |false=>exact⟨_,rfl⟩
      |true =>
       simp only[if_true,Zt1,Af];by_cases hz:z<0
       ·rw[if_pos hz];obtain rfl:z = -1:=by simp only at hqi;omega
        exact⟨_,rfl⟩
       ·rw[if_neg hz]
     ·have hsi:=Lp.signF_in (s.drop (m:Int).toNat) (by omega);rw[Zd1 h39,if_neg h39,Br3 hne];simp only[Af,Zc1];generalize Lp.signF (s.drop (m:Int).toNat)=z at hsi ⊢;rw[A8m (show 0<=(m:Int)+z/\(m:Int)+z<=1000000 by omega),Zf (by omega)];by_cases hz:z=0
      ·rw[Ze1 hz,if_pos hz];exact⟨_,rfl⟩
      ·rw[Zd1 hz,if_neg hz];rfl
def Ark:Sig:=⟨38,[(0,.str),(2,.sl .tok true),(3,.int .i64),(4,.int .i64),(5,.sl .tok true),(6,.int .i64)],[],[],0,0,0,[],[]⟩
abbrev Abi:=Str×List Tok×Int×Int×List Tok×Int
def Afq{R:Type}(rec:Abi->Option R)(kx:Ex->Abi->Option R)(v:Abi):Option R:=match v with
 |(v,v1,v2,v3,v4,v5) =>
 cond (decide (v5<(v.length:Int))) (
  chk (inb v5 v.length) (
  cond (decide (0<=(K4 [32,9,10,13] (bat v v5)))) (
   rec (v,v1,v2,v3,v4,(wr .i64 (v5+1)))) (
   (Aef v v5).bind λ(x,x1) =>
   cond (decide (x1<0)) (
    kx .ret (v,[],v5,11,v4,v5)) (
    chk (decide (v4.length+1<=Ag)) (
    rec (v,v1,v2,v3,(v4++[x]),x1)))))) (
  kx (.exit 0) (v,v1,v2,v3,v4,v5))
def Bc7(R:Type)(k:Nat):Px R:=pxO [(109,cA Ai0),(110,cA Aou)] [] [(5,Al k Ark (Afq))] []
def At0(k:Nat)(x:HV [.str]):Option (HV [.sl .tok true,.int .i64,.int .i64]):=match x with
 |s =>
 cond (decide (20000<(s.length:Int))) (
  some ([],0,3)) (
  Aj (λrec=>Afq rec (λe vz=>match vz with|(_,v7,v8,v9,a,_)=>match e with
  |.ret =>some (v7,v8,v9)
  |.exit 0 =>some (a,0,0)
  |_=>none)) k (s,[],0,0,[],0))
theorem Brz(k:Nat):FO 71 [.str] [.sl .tok true,.int .i64,.int .i64] (At0 k):=fR (px:=Bc7 _ k) (n:=1) Tryz.func71 rfl (λcx H=>by have h0:Lv cx (Bc7 (HV [.sl .tok true,.int .i64,.int .i64]) k):=lv H (c1 H Alx (c1 H Bez Ae)) Aa Ab;have hllall_0:=lO H h0 (b:=lp Tryz.f71 0) (k:=k) (n:=0) (s:=Ark) (step:=Afq) (λ_ _ _ (_,_,_,_,_,_)=>by kernel_rfl) Ai;exact⟨h0,(A2 Ai hllall_0)⟩) λ_=>by kernel_rfl
def B0t(s:Str):List Tok×Int×Int:=if 20000<(s.length:Int) then([],0,3) else match Lp.allF s with|.error i=>([],i,11)|.ok ts=>(ts,0,0)
abbrev Bfs(s:Str):List Tok×Int×Int:=B0t s
def A52:FT [.str] [.sl .tok true,.int .i64,.int .i64]:=λx=>some (Bfs x)
theorem Br2(c:Int):decide (0<=K4 [32,9,10,13] c)=Lp.blankF c:=rfl
theorem Aeh{R:Type}{kx:Ex->Abi->Option R}{s:Str}{c:Except Int (List Tok)->Option R}(hs:s.length<=20000)(h1:∀a i j,kx .ret (s,[],i,11,a,j)=c (.error i))(h2:∀q r t a j,kx (.exit 0) (s,q,r,t,a,j)=c (.ok a)):∀(k:Nat) (i:Int) (f:Nat) (q:List Tok) (r t:Int) (a:List Tok),(a.length:Int)<=i->0<=i->i<=s.length->(s.length:Int)-i<k->(s.length:Int)-i<f->Aj (λrec=>Afq rec kx) k (s,q,r,t,a,i)=c (Lp.allGo f s i a)
 |0,i,f,q,r,t,a,_,_,_,h,_=>by omega
 |k+1,i,0,q,r,t,a,_,_,_,_,h=>by omega
 |k+1,i,f+1,q,r,t,a,ha,h0,hi,h,hf=>by
  rw[A0];by_cases hl:i<s.length
  ·have ea:decide (a.length+1<=Ag)=true:=Ze1 (by simp[Ag];omega);have eb:bat s i=Sx.byt s i:=rfl;simp[Afq,Ay8 (show 0<=i/\i<(s.length:Int) from⟨h0,hl⟩),Br2,ea,eb,Lp.allGo];rw[Ze1 hl,if_neg (show ¬(s.length:Int)<=i by omega)];simp[Ah,chk];cases hbl:Lp.blankF (Sx.byt s i) with
   |true =>rw[A8m (by omega)];simp[Ah,if_true];exact Aeh hs h1 h2 k (i+1) f q r t a (by omega) (by omega) (by omega) (by omega) (by omega)
   |false =>have ht:=A5g (s:=s) (i:=i) ⟨h0,hl⟩ hs;simp[Af,Zj2,if_false];cases hk:Lp.tokF s i with|none =>rw[hk] at ht;obtain⟨u,hu⟩:=ht;rw[hu];exact h1 _ _ _|some y =>obtain⟨y1,y2,y3,e⟩:=y;rw[hk] at ht;have hte:=Lp.tok_end ⟨h0,hl⟩ hk;simp only at ht;rw[ht];simp[Zc1];rw[Zd1 (show ¬e<0 by omega),Af];exact Aeh hs h1 h2 k e f q r t (a++[⟨y1,i,y2,y3⟩]) (by simp[Zh1,Zf1,Zi1];omega) (by omega) (by omega) (by omega) (by omega)
  ·simp[Afq,h2,Lp.allGo];rw[Zd1 hl,if_pos (show(s.length:Int)<=i by omega)];rfl
theorem But:FO 71 [.str] [.sl .tok true,.int .i64,.int .i64] A52 :=.fin 0 Brz λs r hb hx=>⟨20001,by
 simp only[A52,Za1] at hx;rw[<-hx];simp only[At0,Bfs,B0t];by_cases hbig : 20000<(s.length:Int)
 ·rw[Ze1 hbig,if_pos hbig];rfl
 ·rw[Zd1 hbig,if_neg hbig,Af];refine(Aeh (s:=s) (c:=λo=>match o with|.error i=>some ([],i,(11:Int))|.ok ts=>some (ts,(0:Int),(0:Int))) (by omega) (λ_ _ _ =>?_) (λ_ _ _ _ _ =>?_) 20001 0 (s.length+1) [] 0 0 [] (by simp) (by omega) (by omega) (by omega) (by omega)).trans ?_
  ·rfl
  ·rfl
  ·show _=some (match Lp.allGo (s.length+1) s 0 [] with|.error i=>([],i,(11:Int))|.ok ts=>(ts,(0:Int),(0:Int)));cases Lp.allGo (s.length+1) s 0 []<;>rfl⟩
def H3:Sig:=⟨1,[],[(0,.ptr 0 0)],[(0,.cells [.sl .tok false,.int .i64,.bool,.int .i64])],1,1,0,[],[]⟩
def H6:Sig:=⟨1,[(0,.sv .tok)],[],[(0,.cells [.sl .tok false,.int .i64,.bool,.int .i64])],1,1,0,[],[]⟩
abbrev A80:=List Tok×Int×Bool×Int
abbrev Bdr:=Tok×List Tok×Int×Bool×Int
def Bmh(R:Type):Px R:=pxO [] [] [] []
def Aj0(x:A80):Option (Bdr):=match x with
 |(l,n,b,p) =>
 cond (decide ((l.length:Int)=0)) (
  some ((Tok.mk 0 n [] 0),l,n,b,p)) (
  chk (inb 0 l.length) (
  some ((at' .tok l 0),l,n,b,p)))
theorem Be5:FM 111 H3 H6 (Aj0):=fRL (px:=Bmh _) (n:=0) Tryz.func111 rfl (λ_ H=>⟨lv H Ae Aa Ab,Ai⟩) λ(_,_,_,_)=>by kernel_rfl
def E4:A80->Option Bdr:=λx=>Aj0 x
theorem Mv:FM 111 H3 H6 (E4):=Be5
def J1:Sig:=⟨1,[],[(0,.ptr 0 0)],[(0,.cells [.sl .tok false,.int .i64,.bool,.int .i64])],1,1,0,[],[]⟩
def Ju:Sig:=⟨1,[(0,.sv .tok)],[],[(0,.cells [.sl .tok false,.int .i64,.bool,.int .i64])],1,1,0,[],[]⟩
abbrev Bdy:=List Tok×Int×Bool×Int
abbrev Bbt:=Tok×List Tok×Int×Bool×Int
def Bq0(R:Type):Px R:=pxO [(111,Ak H3 H6 E4)] [] [] []
def Ajs(x:Bdy):Option (Bbt):=match x with
 |(l,n,b,p) =>
 (E4 (l,n,b,p)).bind λ(x,x1,x2,x3,x4) =>
  cond (decide (0<(x1.length:Int))) (
  chk (upto 1 x1.length x1.length) (
   some (x,(x1.drop (1:Int).toNat),x2,x3,x4))) (
  some (x,x1,x2,x3,x4))
theorem Bfo:FM 112 J1 Ju (Ajs):=fRL (px:=Bq0 _) (n:=0) Tryz.func112 rfl (λ_ H=>⟨lv H (l1 H Mv Ae) Aa Ab,Ai⟩) λ(_,_,_,_)=>by kernel_rfl
def Df:Bdy->Option Bbt:=λx=>Ajs x
theorem Sy:FM 112 J1 Ju (Df):=Bfo
def Di:Sig:=⟨2,[(1,.str)],[(0,.ptr 0 0)],[(0,.cells [.sl .tok false,.int .i64,.bool,.int .i64])],1,1,0,[],[]⟩
def Dh:Sig:=⟨1,[(0,.bool)],[],[(0,.cells [.sl .tok false,.int .i64,.bool,.int .i64])],1,1,0,[],[]⟩
abbrev Bxc:=Str×List Tok×Int×Bool×Int
abbrev Bw9:=Bool×List Tok×Int×Bool×Int
def Bze(R:Type):Px R:=pxO [(111,Ak H3 H6 E4),(112,Ak J1 Ju Df)] [] [] []
def Ayw(x:Bxc):Option (Bw9):=match x with
 |(s,l,n,b,p) =>
 (E4 (l,n,b,p)).bind λ(x,x1,x2,x3,x4) =>
  cond (!decide (x.kind=1)) (
  cond (!decide (x.kind=6)) (
   some (false,x1,x2,x3,x4)) (
   cond (!decide (x.s=s)) (
   some (false,x1,x2,x3,x4)) (
   (Df (x1,x2,x3,x4)).bind λ(_,a,c,d,e) =>some (true,a,c,d,e)))) (
  cond (!decide (x.s=s)) (
   some (false,x1,x2,x3,x4)) (
   (Df (x1,x2,x3,x4)).bind λ(_,f,g,h,i) =>
   some (true,f,g,h,i)))
theorem Bu9:FM 72 Di Dh (Ayw):=fRL (px:=Bze _) (n:=0) Tryz.func72 rfl (λ_ H=>⟨lv H (l1 H Mv (l1 H Sy Ae)) Aa Ab,Ai⟩) λ(_,_,_,_,_)=>by kernel_rfl
def A8:Bxc->Option Bw9:=λx=>Ayw x
theorem Dy:FM 72 Di Dh (A8):=Bu9
def Gj:Sig:=⟨1,[],[(0,.ptr 0 0)],[(0,.cells [.sl .tok false,.int .i64,.bool,.int .i64])],1,1,0,[],[]⟩
def F9:Sig:=⟨0,[],[],[(0,.cells [.sl .tok false,.int .i64,.bool,.int .i64])],1,1,0,[],[]⟩
abbrev Ayg:=List Tok×Int×Bool×Int
abbrev A1e:=List Tok×Int×Bool×Int
def Bgz(R:Type):Px R:=pxO [(111,Ak H3 H6 E4)] [] [] []
def Aig(x:Ayg):Option (A1e):=match x with
 |(l,n,b,p) =>
 cond (!b) (
  (E4 (l,n,b,p)).bind λ(x,x1,x2,_,_) =>
  some (x1,x2,true,x.pos)) (
  some (l,n,b,p))
theorem A78:FM 82 Gj F9 (Aig):=fRL (px:=Bgz _) (n:=0) Tryz.func82 rfl (λ_ H=>⟨lv H (l1 H Mv Ae) Aa Ab,Ai⟩) λ(_,_,_,_)=>by kernel_rfl
def Dw:Ayg->Option A1e:=λx=>Aig x
theorem I6:FM 82 Gj F9 (Dw):=A78
def Dq:Sig:=⟨2,[(1,.sl .str false)],[(0,.ptr 0 0)],[(0,.cells [.sl .tok false,.int .i64,.bool,.int .i64])],1,1,0,[],[]⟩
def Dm:Sig:=⟨0,[],[],[(0,.cells [.sl .tok false,.int .i64,.bool,.int .i64])],1,1,0,[],[]⟩
abbrev A8t:=List Str×List Tok×Int×Bool×Int
abbrev Avc:=List Tok×Int×Bool×Int
def Ao6:Sig:=⟨27,[(6,.sl .str false),(7,.int .i64),(8,.int .i64)],[(0,.ptr 0 0)],[(0,.cells [.sl .tok false,.int .i64,.bool,.int .i64])],1,1,0,[],[]⟩
abbrev Aew:=List Str×Int×Int×List Tok×Int×Bool×Int
def Awn{R:Type}(rec:Aew->Option R)(kx:Ex->Aew->Option R)(v:Aew):Option R:=match v with
 |(v,v1,v2,w,w1,w2,w3) =>
 cond (decide (v2<v1)) (
  chk (inb v2 v.length) (
  let j:=λ(p2:Bool) (q4:List Tok) (q5:Int) (q6:Bool) (q7:Int) =>
   cond (p2) (
   (Dw (q4,q5,q6,q7)).bind λ(x5,x6,x7,x8) =>kx .ret (v,v1,v2,x5,x6,x7,x8)) (
   rec (v,v1,(wr .i64 (v2+1)),q4,q5,q6,q7))
  cond (w2) (
   j true w w1 w2 w3) (
   (A8 ((at' .str v v2),w,w1,w2,w3)).bind λ(x,x1,x2,x3,x4) =>
   j (!x) x1 x2 x3 x4))) (
  kx (.exit 0) (v,v1,v2,w,w1,w2,w3))
def A1y(R:Type)(k:Nat):Px R:=pxO [(72,Ak Di Dh A8),(82,Ak Gj F9 Dw)] [] [(1,Al k Ao6 (Awn))] []
def X4(k:Nat)(x:A8t):Option (Avc):=match x with
 |(ss,l,n,b,p) =>
 Aj (λrec=>Awn rec (λe vz=>match vz with|(_,_,_,v6,v7,v8,v9)=>match e with
  |.ret =>
  some (v6,v7,v8,v9)
  |.exit 0 =>
  some (v6,v7,v8,v9)
  |_=>none)) k (ss,(ss.length:Int),0,l,n,b,p)
theorem Be1(k:Nat):FM 74 Dq Dm (X4 k):=fRL (px:=A1y _ k) (n:=1) Tryz.func74 rfl (λcx H=>by have h0:Lv cx (A1y (Avc) k):=lv H (l1 H Dy (l1 H I6 Ae)) Aa Ab;have hlpmust_0:=lO H h0 (b:=lp Tryz.f74 0) (k:=k) (n:=0) (s:=Ao6) (step:=Awn) (λ_ _ _ (_,_,_,_,_,_,_)=>by kernel_rfl) Ai;exact⟨h0,(A2 Ai hlpmust_0)⟩) λ(_,_,_,_,_)=>by kernel_rfl
def A9:A8t->Option Avc:=λx=>X4 ((x.1.length+1)) x
theorem Ev:FM 74 Dq Dm (A9):=FnLn.fin (ι:=Nat) (sg:=Dq) (so:=Dm) 0 (F:=λk=>X4 k) (λk=>Be1 k) λx _ _ hx=>⟨(x.1.length+1),hx⟩
def Ew:Sig:=⟨1,[],[(0,.ptr 0 0)],[(0,.cells [.sl .tok false,.int .i64,.bool,.int .i64])],1,1,0,[],[]⟩
def Ej:Sig:=⟨1,[(0,.str)],[],[(0,.cells [.sl .tok false,.int .i64,.bool,.int .i64])],1,1,0,[],[]⟩
abbrev Bcz:=List Tok×Int×Bool×Int
abbrev Baa:=Str×List Tok×Int×Bool×Int
def Bn0(R:Type):Px R:=pxO [(111,Ak H3 H6 E4),(82,Ak Gj F9 Dw),(112,Ak J1 Ju Df)] [] [] []
def Akb(x:Bcz):Option (Baa):=match x with
 |(l,n,b,p) =>
 (E4 (l,n,b,p)).bind λ(x,x1,x2,x3,x4) =>
  let j:=λ(p2:Bool) =>
  cond (p2) (
   (Dw (x1,x2,x3,x4)).bind λ(x5,x6,x7,x8) =>
   some ([],x5,x6,x7,x8)) (
   (Df (x1,x2,x3,x4)).bind λ(x9,a,c,d,e) =>
   some (x9.s,a,c,d,e))
  cond (x3) (
  j true) (
  j (!decide (x.kind=2)))
theorem Be3:FM 75 Ew Ej (Akb):=fRL (px:=Bn0 _) (n:=0) Tryz.func75 rfl (λ_ H=>⟨lv H (l1 H Mv (l1 H I6 (l1 H Sy Ae))) Aa Ab,Ai⟩) λ(_,_,_,_)=>by kernel_rfl
def Bt:Bcz->Option Baa:=λx=>Akb x
theorem G4:FM 75 Ew Ej (Bt):=Be3
def Cv:Sig:=⟨1,[],[(0,.ptr 0 0)],[(0,.cells [.sl .tok false,.int .i64,.bool,.int .i64])],1,1,0,[],[]⟩
def Cu:Sig:=⟨1,[(0,.sv .expr)],[],[(0,.cells [.sl .tok false,.int .i64,.bool,.int .i64])],1,1,0,[],[]⟩
abbrev Bc:=List Tok×Int×Bool×Int
abbrev Ba:=Xpr×List Tok×Int×Bool×Int
def Ad5:Sig:=⟨1,[],[(0,.ptr 0 0)],[(0,.cells [.sl .tok false,.int .i64,.bool,.int .i64])],1,1,0,[],[]⟩
def Adk:Sig:=⟨1,[(0,.sv .expr)],[],[(0,.cells [.sl .tok false,.int .i64,.bool,.int .i64])],1,1,0,[],[]⟩
abbrev A15:=List Tok×Int×Bool×Int
abbrev Aav:=Xpr×List Tok×Int×Bool×Int
def Agg(R:Type)(_rf:Bc->Option Ba):Px R:=pxO [(112,Ak J1 Ju Df)] [] [] []
noncomputable def Aqj(R:Type)(rf:Bc->Option Ba):Px R:=pxO [(111,Ak H3 H6 E4),(112,Ak J1 Ju Df),(74,Ak Dq Dm A9),(116,Ak Cv Cu rf),(401,Aw 80 400 (Agg R rf) Tryz.f401)] [] [] []
def Agv(rf:Bc->Option Ba)(x:A15):Option (Aav):=match x with
 |(l,n,b,p) =>
 (E4 (l,n,b,p)).bind λ(x,x1,x2,x3,x4) =>
  cond (x3) (
  some ((Xpr.mk 0 ⟨0,0,[]⟩ [] []),x1,x2,x3,x4)) (
  cond (decide (x.kind=2)) (
   (Df (x1,x2,x3,x4)).bind λ(_,x6,x7,x8,x9) =>
   some ((Xpr.mk 2 ⟨0,0,[]⟩ x.s []),x6,x7,x8,x9)) (
   cond (decide (x.kind=3)) (
   (Df (x1,x2,x3,x4)).bind λ(_,a,c,d,e) =>some ((Xpr.mk 1 ⟨3,x.n,[]⟩ [] []),a,c,d,e)) (
   cond (decide (x.kind=4)) (
    (Df (x1,x2,x3,x4)).bind λ(_,f,g,h,i) =>
    some ((Xpr.mk 1 ⟨4,0,x.s⟩ [] []),f,g,h,i)) (
    cond (decide (x.kind=5)) (
    (Df (x1,x2,x3,x4)).bind λ(_,k,m,o,q) =>some ((Xpr.mk 1 ⟨5,0,x.s⟩ [] []),k,m,o,q)) (
    let j2:=λ(p2:Bool) =>
     cond (p2) (
     (Df (x1,x2,x3,x4)).bind λ(_,r,t,u,v) =>some ((Xpr.mk 1 ⟨2,1,[]⟩ [] []),r,t,u,v)) (
     let j1:=λ(p4:Bool) =>
      cond (p4) (
      (Df (x1,x2,x3,x4)).bind λ(_,w,y,z,a0) =>some ((Xpr.mk 1 ⟨2,0,[]⟩ [] []),w,y,z,a0)) (
      let j:=λ(p6:Bool) =>
       cond (p6) (
       (Df (x1,x2,x3,x4)).bind λ(_,a1,a2,a3,a4) =>some ((Xpr.mk 1 ⟨1,0,[]⟩ [] []),a1,a2,a3,a4)) (
       (A9 ([[40]],x1,x2,x3,x4)).bind λ(a5,a6,a7,a8) =>
        (rf (a5,a6,a7,a8)).bind λ(a9,aa,ab,ac,ad) =>
        (A9 ([[41]],aa,ab,ac,ad)).bind λ(ae,af,ag,ah) =>some (a9,ae,af,ag,ah))
      cond (decide (x.kind=1)) (
       j (decide (x.s=[78,85,76,76]))) (
       j false))
     cond (decide (x.kind=1)) (
      j1 (decide (x.s=[70,65,76,83,69]))) (
      j1 false))
    cond (decide (x.kind=1)) (
     j2 (decide (x.s=[84,82,85,69]))) (
     j2 false))))))
theorem A6t(rf:Bc->Option Ba)(hrf:FM 116 Cv Cu rf):FM 390 Ad5 Adk (Agv rf):=fRL (px:=Aqj _ rf) (n:=0) Tryz.func390 rfl (λcx H=>by have h1:Lv cx (Agg (Aav) rf):=lv H (l1 H Sy Ae) Aa Ab;have h0:Lv cx (Aqj (Aav) rf):=lv H (l1 H Mv (l1 H Sy (l1 H Ev (l1 H hrf (Am (cR H h1 Tryz.func401 rfl (n:=0) (Ai)) Ae))))) Aa Ab;exact⟨h0,Ai⟩) λ(_,_,_,_)=>by kernel_rfl
def Apg(rf:Bc->Option Ba):A15->Option Aav:=λx=>Agv rf x
theorem Bg9(rf:Bc->Option Ba)(hrf:FM 116 Cv Cu rf):FM 390 Ad5 Adk (Apg rf):=A6t rf hrf
def Aaj:Sig:=⟨1,[],[(0,.ptr 0 0)],[(0,.cells [.sl .tok false,.int .i64,.bool,.int .i64])],1,1,0,[],[]⟩
def Acl:Sig:=⟨1,[(0,.sv .expr)],[],[(0,.cells [.sl .tok false,.int .i64,.bool,.int .i64])],1,1,0,[],[]⟩
abbrev Bmw:=List Tok×Int×Bool×Int
abbrev Aw7:=Xpr×List Tok×Int×Bool×Int
def Arh:Sig:=⟨36,[(2,.int .i64),(27,.int .i64),(28,.int .i64)],[(8,.ptr 80 0),(10,.ptr 81 0)],[(0,.cells [.sl .tok false,.int .i64,.bool,.int .i64]),(1,.one (.sv .expr)),(80,.one (.sv .expr)),(81,.one (.sv .expr))],82,80,400,[],[]⟩
abbrev Al6:=Int×Int×Int×List Tok×Int×Bool×Int×Xpr×Xpr×Xpr
def A51{R:Type}(rec:Al6->Option R)(kx:Ex->Al6->Option R)(v:Al6):Option R:=match v with
 |(a,b,c,w6,w7,w8,w9,d,e,f) =>
 cond (decide (c<b)) (
  rec (a,b,(wr .i64 (c+1)),w6,w7,w8,w9,d,e,(Xpr.mk a ⟨0,0,[]⟩ [] [f]))) (
  kx (.exit 2) (a,b,c,w6,w7,w8,w9,d,e,f))
def Arp:Sig:=⟨36,[(1,.str),(2,.int .i64),(9,.int .i64)],[(0,.ptr 0 0),(3,.bm 390 [.ptr 0 0]),(8,.ptr 80 0)],[(0,.cells [.sl .tok false,.int .i64,.bool,.int .i64]),(1,.one (.sv .expr)),(80,.one (.sv .expr))],81,80,400,[],[]⟩
abbrev Ao3:=Str×Int×Int×List Tok×Int×Bool×Int×Xpr×Xpr
def A58{R:Type}(rec:Ao3->Option R)(kx:Ex->Ao3->Option R)(v:Ao3):Option R:=match v with
 |(v,v1,v2,w,w1,w2,w3,w4,w5) =>
 cond (!w2) (
  (A8 (v,w,w1,w2,w3)).bind λ(x,x1,x2,x3,x4) =>
  cond (x) (
   rec (v,v1,(wr .i64 (v2+1)),x1,x2,x3,x4,w4,w5)) (
   kx (.exit 0) (v,v1,v2,x1,x2,x3,x4,w4,w5))) (
  kx (.exit 0) (v,v1,v2,w,w1,w2,w3,w4,w5))
def Are(R:Type)(k:Nat)(rf:Bc->Option Ba):Px R:=pxO [(72,Ak Di Dh A8),(390,Ak Ad5 Adk (Apg rf))] [] [(2,Al k Arp (A58)),(6,Al k Arh (A51))] []
noncomputable def Bce(R:Type)(k:Nat)(rf:Bc->Option Ba):Px R:=pxO [(277,Aw 80 400 (Are R k rf) Tryz.f277)] [] [] []
def Ad9(k:Nat)(rf:Bc->Option Ba)(x:Bmw):Option (Aw7):=match x with
 |(l,n,b,p) =>
 Aj (λrec=>A58 rec (λe vz=>match vz with|(_,v4,v5,v6,v7,v8,v9,a,c)=>match e with
  |.exit 0 =>
  (Apg rf (v6,v7,v8,v9)).bind λ(x5,x6,x7,x8,x9) =>
   Aj (λrec=>A51 rec (λe vz=>match vz with|(_,_,_,d,f,g,h,_,_,i)=>match e with
   |.exit 2 =>some (i,d,f,g,h)
   |_=>none)) k (v4,v5,0,x6,x7,x8,x9,a,c,x5)
  |_=>none)) k ([45],15,0,l,n,b,p,(Xpr.mk 0 ⟨0,0,[]⟩ [] []),(Xpr.mk 0 ⟨0,0,[]⟩ [] []))
theorem Bkk(k:Nat)(rf:Bc->Option Ba)(hrf:FM 116 Cv Cu rf):FM 374 Aaj Acl (Ad9 k rf):=fRL (px:=Bce _ k rf) (n:=0) Tryz.func374 rfl (λcx H=>by have h1:Lv cx (Are (Aw7) k rf):=lv H (l1 H Dy (l1 H (Bg9 rf hrf) Ae)) Aa Ab;have hlpneg_0:=lO H h1 (b:=lp Tryz.f277 0) (k:=k) (n:=0) (s:=Arp) (step:=A58) (λ_ _ _ (_,_,_,_,_,_,_,_,_)=>by kernel_rfl) Ai;have hlpneg_1:=lO H h1 (b:=lp Tryz.f277 1) (k:=k) (n:=0) (s:=Arh) (step:=A51) (λ_ _ _ (_,_,_,_,_,_,_,_,_,_)=>by kernel_rfl) Ai;have h0:Lv cx (Bce (Aw7) k rf):=lv H (Am (cR H h1 Tryz.func277 rfl (n:=2) ((A2 (A2 Ai hlpneg_0) hlpneg_1))) Ae) Aa Ab;exact⟨h0,Ai⟩) λ(_,_,_,_)=>by kernel_rfl
def Amg(rf:Bc->Option Ba):Bmw->Option Aw7:=λx=>Ad9 ((x.1.length+1)) rf x
theorem Ba1(rf:Bc->Option Ba)(hrf:FM 116 Cv Cu rf):FM 374 Aaj Acl (Amg rf):=FnLn.fin (ι:=Nat) (sg:=Aaj) (so:=Acl) 0 (F:=λk=>Ad9 k rf) (λk=>Bkk k rf hrf) λx _ _ hx=>⟨(x.1.length+1),hx⟩
def Hz:Sig:=⟨1,[],[(0,.ptr 0 0)],[(0,.cells [.sl .tok false,.int .i64,.bool,.int .i64])],1,1,0,[],[]⟩
def Ie:Sig:=⟨1,[(0,.sv .expr)],[],[(0,.cells [.sl .tok false,.int .i64,.bool,.int .i64])],1,1,0,[],[]⟩
abbrev Aoy:=List Tok×Int×Bool×Int
abbrev Ps:=Xpr×List Tok×Int×Bool×Int
def Wv:Sig:=⟨38,[(2,.sl .pair true),(17,.sl .pair false),(18,.int .i64),(19,.int .i64)],[(0,.ptr 0 0),(1,.bm 374 [.ptr 0 0]),(6,.ptr 80 0),(7,.ptr 81 0)],[(0,.cells [.sl .tok false,.int .i64,.bool,.int .i64]),(1,.one (.sv .expr)),(80,.one (.sv .expr)),(81,.one (.sv .expr))],82,80,400,[],[]⟩
abbrev Ob:=List PairS×List PairS×Int×Int×List Tok×Int×Bool×Int×Xpr×Xpr×Xpr
def Zd{R:Type}(rf:Bc->Option Ba)(rec:Ob->Option R)(kx:Ex->Ob->Option R)(v:Ob):Option R:=match v with
 |(v1,v2,v3,v4,w7,w8,w9,d,a,b,c) =>
 cond (decide (v4<v3)) (
  chk (inb v4 v2.length) (
  (A8 ((at' .pair v2 v4).sign,w7,w8,w9,d)).bind λ(x5,x6,x7,x8,x9) =>
   cond (x5) (
   (Amg rf (x6,x7,x8,x9)).bind λ(e,f,g,h,i) =>kx (.exit 1) (v1,v2,v3,v4,f,g,h,i,a,b,(Xpr.mk ((at' .pair v2 v4).kind) ⟨0,0,[]⟩ [] [c,e]))) (
   rec (v1,v2,v3,(wr .i64 (v4+1)),x6,x7,x8,x9,a,b,c)))) (
  kx (.exit 2) (v1,v2,v3,v4,w7,w8,w9,d,a,b,c))
def Wl:Sig:=⟨38,[(2,.sl .pair true)],[(0,.ptr 0 0),(1,.bm 374 [.ptr 0 0]),(6,.ptr 80 0),(7,.ptr 81 0)],[(0,.cells [.sl .tok false,.int .i64,.bool,.int .i64]),(1,.one (.sv .expr)),(80,.one (.sv .expr)),(81,.one (.sv .expr))],82,80,400,[],[]⟩
abbrev N7:=List PairS×List Tok×Int×Bool×Int×Xpr×Xpr×Xpr
def Zi{R:Type}(k:Nat)(rf:Bc->Option Ba)(rec:N7->Option R)(kx:Ex->N7->Option R)(v:N7):Option R:=match v with
 |(v,w,w1,w2,w3,w4,w5,w6) =>
 cond (!w2) (
  Aj (λrc=>Zd rf rc (λe vz=>match vz with|(v5,_,_,_,v9,a,b,c,d,f,g)=>match e with
  |.exit 1 =>rec (v5,v9,a,b,c,d,f,g)
  |.exit 2 =>kx (.exit 0) (v5,v9,a,b,c,d,f,g)
  |_=>none)) k (v,v,(v.length:Int),0,w,w1,w2,w3,w4,w5,w6)) (
  kx (.exit 0) (v,w,w1,w2,w3,w4,w5,w6))
def Wq(R:Type)(k:Nat)(rf:Bc->Option Ba):Px R:=pxO [(374,Ak Aaj Acl (Amg rf)),(72,Ak Di Dh A8)] [] [(4,Al k Wv (Zd rf)),(2,Al k Wl (Zi k rf))] [(374,Cy Aaj Acl (Amg rf))]
noncomputable def Aic(R:Type)(k:Nat)(rf:Bc->Option Ba):Px R:=pxO [(181,Aw 80 400 (Wq R k rf) Tryz.f181)] [] [] []
def Lr(k:Nat)(rf:Bc->Option Ba)(x:Aoy):Option (Ps):=match x with
 |(l,n,b,p) =>
 (Amg rf (l,n,b,p)).bind λ(x,x1,x2,x3,x4) =>
  Aj (λrec=>Zi k rf rec (λe vz=>match vz with|(_,a,c,d,f,_,_,g)=>match e with
  |.exit 0 =>some (g,a,c,d,f)
  |_=>none)) k ([(PairS.mk [42] 14)],x1,x2,x3,x4,(Xpr.mk 0 ⟨0,0,[]⟩ [] []),(Xpr.mk 0 ⟨0,0,[]⟩ [] []),x)
theorem Avz(k:Nat)(rf:Bc->Option Ba)(hrf:FM 116 Cv Cu rf):FM 352 Hz Ie (Lr k rf):=fRL (px:=Aic _ k rf) (n:=0) Tryz.func352 rfl (λcx H=>by have h1:Lv cx (Wq (Ps) k rf):=lv H (l1 H (Ba1 rf hrf) (l1 H Dy Ae)) Aa (w1 H (Ba1 rf hrf) Ab);have hlpproduct_1:=lO H h1 (b:=lpC (lp Tryz.f181 0) 0) (k:=k) (n:=0) (s:=Wv) (step:=Zd rf) (λ_ _ _ (_,_,_,_,_,_,_,_,_,_,_)=>by kernel_rfl) Ai;have hlpproduct_0:=lO H h1 (b:=lp Tryz.f181 0) (k:=k) (n:=1) (s:=Wl) (step:=Zi k rf) (λ_ _ _ (_,_,_,_,_,_,_,_)=>by kernel_rfl) (A2 Ai hlpproduct_1);have h0:Lv cx (Aic (Ps) k rf):=lv H (Am (cR H h1 Tryz.func181 rfl (n:=2) ((A2 (A2 Ai hlpproduct_0) hlpproduct_1))) Ae) Aa Ab;exact⟨h0,Ai⟩) λ(_,_,_,_)=>by kernel_rfl
def Kc(rf:Bc->Option Ba):Aoy->Option Ps:=λx=>Lr ((x.1.length+3)) rf x
theorem Aih(rf:Bc->Option Ba)(hrf:FM 116 Cv Cu rf):FM 352 Hz Ie (Kc rf):=FnLn.fin (ι:=Nat) (sg:=Hz) (so:=Ie) 0 (F:=λk=>Lr k rf) (λk=>Avz k rf hrf) λx _ _ hx=>⟨(x.1.length+3),hx⟩
def Z8:Sig:=⟨1,[],[(0,.ptr 0 0)],[(0,.cells [.sl .tok false,.int .i64,.bool,.int .i64])],1,1,0,[],[]⟩
def Aa8:Sig:=⟨1,[(0,.sv .expr)],[],[(0,.cells [.sl .tok false,.int .i64,.bool,.int .i64])],1,1,0,[],[]⟩
abbrev Bki:=List Tok×Int×Bool×Int
abbrev Ayc:=Xpr×List Tok×Int×Bool×Int
def As4:Sig:=⟨38,[(2,.sl .pair true),(17,.sl .pair false),(18,.int .i64),(19,.int .i64)],[(0,.ptr 0 0),(1,.bm 352 [.ptr 0 0]),(6,.ptr 80 0),(7,.ptr 81 0)],[(0,.cells [.sl .tok false,.int .i64,.bool,.int .i64]),(1,.one (.sv .expr)),(80,.one (.sv .expr)),(81,.one (.sv .expr))],82,80,400,[],[]⟩
abbrev Ao4:=List PairS×List PairS×Int×Int×List Tok×Int×Bool×Int×Xpr×Xpr×Xpr
def A4y{R:Type}(rf:Bc->Option Ba)(rec:Ao4->Option R)(kx:Ex->Ao4->Option R)(v:Ao4):Option R:=match v with
 |(v1,v2,v3,v4,w7,w8,w9,d,a,b,c) =>
 cond (decide (v4<v3)) (
  chk (inb v4 v2.length) (
  (A8 ((at' .pair v2 v4).sign,w7,w8,w9,d)).bind λ(x5,x6,x7,x8,x9) =>
   cond (x5) (
   (Kc rf (x6,x7,x8,x9)).bind λ(e,f,g,h,i) =>kx (.exit 1) (v1,v2,v3,v4,f,g,h,i,a,b,(Xpr.mk ((at' .pair v2 v4).kind) ⟨0,0,[]⟩ [] [c,e]))) (
   rec (v1,v2,v3,(wr .i64 (v4+1)),x6,x7,x8,x9,a,b,c)))) (
  kx (.exit 2) (v1,v2,v3,v4,w7,w8,w9,d,a,b,c))
def As0:Sig:=⟨38,[(2,.sl .pair true)],[(0,.ptr 0 0),(1,.bm 352 [.ptr 0 0]),(6,.ptr 80 0),(7,.ptr 81 0)],[(0,.cells [.sl .tok false,.int .i64,.bool,.int .i64]),(1,.one (.sv .expr)),(80,.one (.sv .expr)),(81,.one (.sv .expr))],82,80,400,[],[]⟩
abbrev Aj5:=List PairS×List Tok×Int×Bool×Int×Xpr×Xpr×Xpr
def A42{R:Type}(k:Nat)(rf:Bc->Option Ba)(rec:Aj5->Option R)(kx:Ex->Aj5->Option R)(v:Aj5):Option R:=match v with
 |(v,w,w1,w2,w3,w4,w5,w6) =>
 cond (!w2) (
  Aj (λrc=>A4y rf rc (λe vz=>match vz with|(v5,_,_,_,v9,a,b,c,d,f,g)=>match e with
  |.exit 1 =>rec (v5,v9,a,b,c,d,f,g)
  |.exit 2 =>kx (.exit 0) (v5,v9,a,b,c,d,f,g)
  |_=>none)) k (v,v,(v.length:Int),0,w,w1,w2,w3,w4,w5,w6)) (
  kx (.exit 0) (v,w,w1,w2,w3,w4,w5,w6))
def Aq8(R:Type)(k:Nat)(rf:Bc->Option Ba):Px R:=pxO [(352,Ak Hz Ie (Kc rf)),(72,Ak Di Dh A8)] [] [(4,Al k As4 (A4y rf)),(2,Al k As0 (A42 k rf))] [(352,Cy Hz Ie (Kc rf))]
noncomputable def A82(R:Type)(k:Nat)(rf:Bc->Option Ba):Px R:=pxO [(181,Aw 80 400 (Aq8 R k rf) Tryz.f181)] [] [] []
def Adn(k:Nat)(rf:Bc->Option Ba)(x:Bki):Option (Ayc):=match x with
 |(l,n,b,p) =>
 (Kc rf (l,n,b,p)).bind λ(x,x1,x2,x3,x4) =>
  Aj (λrec=>A42 k rf rec (λe vz=>match vz with|(_,a,c,d,f,_,_,g)=>match e with
  |.exit 0 =>some (g,a,c,d,f)
  |_=>none)) k ([(PairS.mk [43] 12),(PairS.mk [45] 13)],x1,x2,x3,x4,(Xpr.mk 0 ⟨0,0,[]⟩ [] []),(Xpr.mk 0 ⟨0,0,[]⟩ [] []),x)
theorem Bph(k:Nat)(rf:Bc->Option Ba)(hrf:FM 116 Cv Cu rf):FM 321 Z8 Aa8 (Adn k rf):=fRL (px:=A82 _ k rf) (n:=0) Tryz.func321 rfl (λcx H=>by have h1:Lv cx (Aq8 (Ayc) k rf):=lv H (l1 H (Aih rf hrf) (l1 H Dy Ae)) Aa (w1 H (Aih rf hrf) Ab);have hlpsum_1:=lO H h1 (b:=lpC (lp Tryz.f181 0) 0) (k:=k) (n:=0) (s:=As4) (step:=A4y rf) (λ_ _ _ (_,_,_,_,_,_,_,_,_,_,_)=>by kernel_rfl) Ai;have hlpsum_0:=lO H h1 (b:=lp Tryz.f181 0) (k:=k) (n:=1) (s:=As0) (step:=A42 k rf) (λ_ _ _ (_,_,_,_,_,_,_,_)=>by kernel_rfl) (A2 Ai hlpsum_1);have h0:Lv cx (A82 (Ayc) k rf):=lv H (Am (cR H h1 Tryz.func181 rfl (n:=2) ((A2 (A2 Ai hlpsum_0) hlpsum_1))) Ae) Aa Ab;exact⟨h0,Ai⟩) λ(_,_,_,_)=>by kernel_rfl
def An5(rf:Bc->Option Ba):Bki->Option Ayc:=λx=>Adn ((x.1.length+3)) rf x
theorem A94(rf:Bc->Option Ba)(hrf:FM 116 Cv Cu rf):FM 321 Z8 Aa8 (An5 rf):=FnLn.fin (ι:=Nat) (sg:=Z8) (so:=Aa8) 0 (F:=λk=>Adn k rf) (λk=>Bph k rf hrf) λx _ _ hx=>⟨(x.1.length+3),hx⟩
def Ajj:Sig:=⟨1,[],[(0,.ptr 0 0)],[(0,.cells [.sl .tok false,.int .i64,.bool,.int .i64])],1,1,0,[],[]⟩
def Ai8:Sig:=⟨1,[(0,.sv .expr)],[],[(0,.cells [.sl .tok false,.int .i64,.bool,.int .i64])],1,1,0,[],[]⟩
abbrev Bqr:=List Tok×Int×Bool×Int
abbrev A4o:=Xpr×List Tok×Int×Bool×Int
def Ar1:Sig:=⟨61,[(20,.sl .pair true),(21,.int .i64),(22,.int .i64)],[(0,.ptr 0 0),(2,.ptr 1 0),(3,.ptr 2 0)],[(0,.cells [.sl .tok false,.int .i64,.bool,.int .i64]),(1,.one (.sv .expr)),(2,.one (.sv .expr))],3,1,0,[],[]⟩
abbrev Aj4:=List PairS×Int×Int×List Tok×Int×Bool×Int×Xpr×Xpr
def A48{R:Type}(rf:Bc->Option Ba)(rec:Aj4->Option R)(kx:Ex->Aj4->Option R)(v:Aj4):Option R:=match v with
 |(v,v1,v2,w,w1,w2,w3,w4,w5) =>
 cond (decide (v2<v1)) (
  chk (inb v2 v.length) (
  (A8 ((at' .pair v v2).sign,w,w1,w2,w3)).bind λ(x5,x6,x7,x8,x9) =>
   cond (x5) (
   (An5 rf (x6,x7,x8,x9)).bind λ(a,b,c,d,e) =>kx .ret (v,v1,v2,b,c,d,e,(Xpr.mk ((at' .pair v v2).kind) ⟨0,0,[]⟩ [] [w5,a]),w5)) (
   rec (v,v1,(wr .i64 (v2+1)),x6,x7,x8,x9,w4,w5)))) (
  kx (.exit 0) (v,v1,v2,w,w1,w2,w3,w4,w5))
def Bah(R:Type)(k:Nat)(rf:Bc->Option Ba):Px R:=pxO [(321,Ak Z8 Aa8 (An5 rf)),(72,Ak Di Dh A8),(74,Ak Dq Dm A9)] [] [(5,Al k Ar1 (A48 rf))] [(321,Cy Z8 Aa8 (An5 rf))]
def Aex(k:Nat)(rf:Bc->Option Ba)(x:Bqr):Option (A4o):=match x with
 |(l,n,b,p) =>
 (An5 rf (l,n,b,p)).bind λ(x,x1,x2,x3,x4) =>
  cond (x3) (
  some (x,x1,x2,x3,x4)) (
  Aj (λrec=>A48 rf rec (λe vz=>match vz with|(_,_,_,v6,v7,v8,v9,o,a)=>match e with
   |.ret =>
   some (o,v6,v7,v8,v9)
   |.exit 0 =>
   (A8 ([73,83],v6,v7,v8,v9)).bind λ(q,c,d,f,g) =>
    cond (!q) (
    some (a,c,d,f,g)) (
    (A8 ([78,79,84],c,d,f,g)).bind λ(r,s,t,u,v) =>
     (A9 ([[78,85,76,76]],s,t,u,v)).bind λ(h,i,j,m) =>
     cond (r) (
      some ((Xpr.mk 3 ⟨0,0,[]⟩ [] [(Xpr.mk 16 ⟨0,0,[]⟩ [] [a])]),h,i,j,m)) (
      some ((Xpr.mk 16 ⟨0,0,[]⟩ [] [a]),h,i,j,m)))
   |_=>none)) k ([(PairS.mk [61] 6),(PairS.mk [60,62] 7),(PairS.mk [60] 8),(PairS.mk [60,61] 9),(PairS.mk [62] 10),(PairS.mk [62,61] 11)],6,0,x1,x2,x3,x4,(Xpr.mk 0 ⟨0,0,[]⟩ [] []),x))
theorem Bp4(k:Nat)(rf:Bc->Option Ba)(hrf:FM 116 Cv Cu rf):FM 278 Ajj Ai8 (Aex k rf):=fRL (px:=Bah _ k rf) (n:=1) Tryz.func278 rfl (λcx H=>by have h0:Lv cx (Bah (A4o) k rf):=lv H (l1 H (A94 rf hrf) (l1 H Dy (l1 H Ev Ae))) Aa (w1 H (A94 rf hrf) Ab);have hlpcmp_0:=lO H h0 (b:=lp Tryz.f278 0) (k:=k) (n:=0) (s:=Ar1) (step:=A48 rf) (λ_ _ _ (_,_,_,_,_,_,_,_,_)=>by kernel_rfl) Ai;exact⟨h0,(A2 Ai hlpcmp_0)⟩) λ(_,_,_,_)=>by kernel_rfl
def A7i(rf:Bc->Option Ba):Bqr->Option A4o:=λx=>Aex (10) rf x
theorem Bwb(rf:Bc->Option Ba)(hrf:FM 116 Cv Cu rf):FM 278 Ajj Ai8 (A7i rf):=FnLn.fin (ι:=Nat) (sg:=Ajj) (so:=Ai8) 0 (F:=λk=>Aex k rf) (λk=>Bp4 k rf hrf) λ_ _ _ hx=>⟨10,hx⟩
def Acz:Sig:=⟨1,[],[(0,.ptr 0 0)],[(0,.cells [.sl .tok false,.int .i64,.bool,.int .i64])],1,1,0,[],[]⟩
def Z7:Sig:=⟨1,[(0,.sv .expr)],[],[(0,.cells [.sl .tok false,.int .i64,.bool,.int .i64])],1,1,0,[],[]⟩
abbrev Bsh:=List Tok×Int×Bool×Int
abbrev Awu:=Xpr×List Tok×Int×Bool×Int
def Aqm:Sig:=⟨36,[(2,.int .i64),(27,.int .i64),(28,.int .i64)],[(8,.ptr 80 0),(10,.ptr 81 0)],[(0,.cells [.sl .tok false,.int .i64,.bool,.int .i64]),(1,.one (.sv .expr)),(80,.one (.sv .expr)),(81,.one (.sv .expr))],82,80,400,[],[]⟩
abbrev Al9:=Int×Int×Int×List Tok×Int×Bool×Int×Xpr×Xpr×Xpr
def A5b{R:Type}(rec:Al9->Option R)(kx:Ex->Al9->Option R)(v:Al9):Option R:=match v with
 |(a,b,c,w6,w7,w8,w9,d,e,f) =>
 cond (decide (c<b)) (
  rec (a,b,(wr .i64 (c+1)),w6,w7,w8,w9,d,e,(Xpr.mk a ⟨0,0,[]⟩ [] [f]))) (
  kx (.exit 2) (a,b,c,w6,w7,w8,w9,d,e,f))
def At3:Sig:=⟨36,[(1,.str),(2,.int .i64),(9,.int .i64)],[(0,.ptr 0 0),(3,.bm 278 [.ptr 0 0]),(8,.ptr 80 0)],[(0,.cells [.sl .tok false,.int .i64,.bool,.int .i64]),(1,.one (.sv .expr)),(80,.one (.sv .expr))],81,80,400,[],[]⟩
abbrev Amk:=Str×Int×Int×List Tok×Int×Bool×Int×Xpr×Xpr
def A4c{R:Type}(rec:Amk->Option R)(kx:Ex->Amk->Option R)(v:Amk):Option R:=match v with
 |(v,v1,v2,w,w1,w2,w3,w4,w5) =>
 cond (!w2) (
  (A8 (v,w,w1,w2,w3)).bind λ(x,x1,x2,x3,x4) =>
  cond (x) (
   rec (v,v1,(wr .i64 (v2+1)),x1,x2,x3,x4,w4,w5)) (
   kx (.exit 0) (v,v1,v2,x1,x2,x3,x4,w4,w5))) (
  kx (.exit 0) (v,v1,v2,w,w1,w2,w3,w4,w5))
def Aqx(R:Type)(k:Nat)(rf:Bc->Option Ba):Px R:=pxO [(72,Ak Di Dh A8),(278,Ak Ajj Ai8 (A7i rf))] [] [(2,Al k At3 (A4c)),(6,Al k Aqm (A5b))] []
noncomputable def Bb2(R:Type)(k:Nat)(rf:Bc->Option Ba):Px R:=pxO [(277,Aw 80 400 (Aqx R k rf) Tryz.f277)] [] [] []
def Afg(k:Nat)(rf:Bc->Option Ba)(x:Bsh):Option (Awu):=match x with
 |(l,n,b,p) =>
 Aj (λrec=>A4c rec (λe vz=>match vz with|(_,v4,v5,v6,v7,v8,v9,a,c)=>match e with
  |.exit 0 =>
  (A7i rf (v6,v7,v8,v9)).bind λ(x5,x6,x7,x8,x9) =>
   Aj (λrec=>A5b rec (λe vz=>match vz with|(_,_,_,d,f,g,h,_,_,i)=>match e with
   |.exit 2 =>some (i,d,f,g,h)
   |_=>none)) k (v4,v5,0,x6,x7,x8,x9,a,c,x5)
  |_=>none)) k ([78,79,84],3,0,l,n,b,p,(Xpr.mk 0 ⟨0,0,[]⟩ [] []),(Xpr.mk 0 ⟨0,0,[]⟩ [] []))
theorem Bkx(k:Nat)(rf:Bc->Option Ba)(hrf:FM 116 Cv Cu rf):FM 233 Acz Z7 (Afg k rf):=fRL (px:=Bb2 _ k rf) (n:=0) Tryz.func233 rfl (λcx H=>by have h1:Lv cx (Aqx (Awu) k rf):=lv H (l1 H Dy (l1 H (Bwb rf hrf) Ae)) Aa Ab;have hlpnot_0:=lO H h1 (b:=lp Tryz.f277 0) (k:=k) (n:=0) (s:=At3) (step:=A4c) (λ_ _ _ (_,_,_,_,_,_,_,_,_)=>by kernel_rfl) Ai;have hlpnot_1:=lO H h1 (b:=lp Tryz.f277 1) (k:=k) (n:=0) (s:=Aqm) (step:=A5b) (λ_ _ _ (_,_,_,_,_,_,_,_,_,_)=>by kernel_rfl) Ai;have h0:Lv cx (Bb2 (Awu) k rf):=lv H (Am (cR H h1 Tryz.func277 rfl (n:=2) ((A2 (A2 Ai hlpnot_0) hlpnot_1))) Ae) Aa Ab;exact⟨h0,Ai⟩) λ(_,_,_,_)=>by kernel_rfl
def An4(rf:Bc->Option Ba):Bsh->Option Awu:=λx=>Afg ((x.1.length+1)) rf x
theorem A8w(rf:Bc->Option Ba)(hrf:FM 116 Cv Cu rf):FM 233 Acz Z7 (An4 rf):=FnLn.fin (ι:=Nat) (sg:=Acz) (so:=Z7) 0 (F:=λk=>Afg k rf) (λk=>Bkx k rf hrf) λx _ _ hx=>⟨(x.1.length+1),hx⟩
def Ab3:Sig:=⟨1,[],[(0,.ptr 0 0)],[(0,.cells [.sl .tok false,.int .i64,.bool,.int .i64])],1,1,0,[],[]⟩
def Ac6:Sig:=⟨1,[(0,.sv .expr)],[],[(0,.cells [.sl .tok false,.int .i64,.bool,.int .i64])],1,1,0,[],[]⟩
abbrev Bkc:=List Tok×Int×Bool×Int
abbrev Avj:=Xpr×List Tok×Int×Bool×Int
def Ap6:Sig:=⟨38,[(2,.sl .pair true),(17,.sl .pair false),(18,.int .i64),(19,.int .i64)],[(0,.ptr 0 0),(1,.bm 233 [.ptr 0 0]),(6,.ptr 80 0),(7,.ptr 81 0)],[(0,.cells [.sl .tok false,.int .i64,.bool,.int .i64]),(1,.one (.sv .expr)),(80,.one (.sv .expr)),(81,.one (.sv .expr))],82,80,400,[],[]⟩
abbrev Ajz:=List PairS×List PairS×Int×Int×List Tok×Int×Bool×Int×Xpr×Xpr×Xpr
def A5n{R:Type}(rf:Bc->Option Ba)(rec:Ajz->Option R)(kx:Ex->Ajz->Option R)(v:Ajz):Option R:=match v with
 |(v1,v2,v3,v4,w7,w8,w9,d,a,b,c) =>
 cond (decide (v4<v3)) (
  chk (inb v4 v2.length) (
  (A8 ((at' .pair v2 v4).sign,w7,w8,w9,d)).bind λ(x5,x6,x7,x8,x9) =>
   cond (x5) (
   (An4 rf (x6,x7,x8,x9)).bind λ(e,f,g,h,i) =>kx (.exit 1) (v1,v2,v3,v4,f,g,h,i,a,b,(Xpr.mk ((at' .pair v2 v4).kind) ⟨0,0,[]⟩ [] [c,e]))) (
   rec (v1,v2,v3,(wr .i64 (v4+1)),x6,x7,x8,x9,a,b,c)))) (
  kx (.exit 2) (v1,v2,v3,v4,w7,w8,w9,d,a,b,c))
def Asl:Sig:=⟨38,[(2,.sl .pair true)],[(0,.ptr 0 0),(1,.bm 233 [.ptr 0 0]),(6,.ptr 80 0),(7,.ptr 81 0)],[(0,.cells [.sl .tok false,.int .i64,.bool,.int .i64]),(1,.one (.sv .expr)),(80,.one (.sv .expr)),(81,.one (.sv .expr))],82,80,400,[],[]⟩
abbrev Akx:=List PairS×List Tok×Int×Bool×Int×Xpr×Xpr×Xpr
def A8p{R:Type}(k:Nat)(rf:Bc->Option Ba)(rec:Akx->Option R)(kx:Ex->Akx->Option R)(v:Akx):Option R:=match v with
 |(v,w,w1,w2,w3,w4,w5,w6) =>
 cond (!w2) (
  Aj (λrc=>A5n rf rc (λe vz=>match vz with|(v5,_,_,_,v9,a,b,c,d,f,g)=>match e with
  |.exit 1 =>rec (v5,v9,a,b,c,d,f,g)
  |.exit 2 =>kx (.exit 0) (v5,v9,a,b,c,d,f,g)
  |_=>none)) k (v,v,(v.length:Int),0,w,w1,w2,w3,w4,w5,w6)) (
  kx (.exit 0) (v,w,w1,w2,w3,w4,w5,w6))
def Aso(R:Type)(k:Nat)(rf:Bc->Option Ba):Px R:=pxO [(233,Ak Acz Z7 (An4 rf)),(72,Ak Di Dh A8)] [] [(4,Al k Ap6 (A5n rf)),(2,Al k Asl (A8p k rf))] [(233,Cy Acz Z7 (An4 rf))]
noncomputable def Bbu(R:Type)(k:Nat)(rf:Bc->Option Ba):Px R:=pxO [(181,Aw 80 400 (Aso R k rf) Tryz.f181)] [] [] []
def Aeo(k:Nat)(rf:Bc->Option Ba)(x:Bkc):Option (Avj):=match x with
 |(l,n,b,p) =>
 (An4 rf (l,n,b,p)).bind λ(x,x1,x2,x3,x4) =>
  Aj (λrec=>A8p k rf rec (λe vz=>match vz with|(_,a,c,d,f,_,_,g)=>match e with
  |.exit 0 =>some (g,a,c,d,f)
  |_=>none)) k ([(PairS.mk [65,78,68] 4)],x1,x2,x3,x4,(Xpr.mk 0 ⟨0,0,[]⟩ [] []),(Xpr.mk 0 ⟨0,0,[]⟩ [] []),x)
theorem Boo(k:Nat)(rf:Bc->Option Ba)(hrf:FM 116 Cv Cu rf):FM 182 Ab3 Ac6 (Aeo k rf):=fRL (px:=Bbu _ k rf) (n:=0) Tryz.func182 rfl (λcx H=>by have h1:Lv cx (Aso (Avj) k rf):=lv H (l1 H (A8w rf hrf) (l1 H Dy Ae)) Aa (w1 H (A8w rf hrf) Ab);have hlpand_1:=lO H h1 (b:=lpC (lp Tryz.f181 0) 0) (k:=k) (n:=0) (s:=Ap6) (step:=A5n rf) (λ_ _ _ (_,_,_,_,_,_,_,_,_,_,_)=>by kernel_rfl) Ai;have hlpand_0:=lO H h1 (b:=lp Tryz.f181 0) (k:=k) (n:=1) (s:=Asl) (step:=A8p k rf) (λ_ _ _ (_,_,_,_,_,_,_,_)=>by kernel_rfl) (A2 Ai hlpand_1);have h0:Lv cx (Bbu (Avj) k rf):=lv H (Am (cR H h1 Tryz.func181 rfl (n:=2) ((A2 (A2 Ai hlpand_0) hlpand_1))) Ae) Aa Ab;exact⟨h0,Ai⟩) λ(_,_,_,_)=>by kernel_rfl
def Ald(rf:Bc->Option Ba):Bkc->Option Avj:=λx=>Aeo ((x.1.length+3)) rf x
theorem Bb4(rf:Bc->Option Ba)(hrf:FM 116 Cv Cu rf):FM 182 Ab3 Ac6 (Ald rf):=FnLn.fin (ι:=Nat) (sg:=Ab3) (so:=Ac6) 0 (F:=λk=>Aeo k rf) (λk=>Boo k rf hrf) λx _ _ hx=>⟨(x.1.length+3),hx⟩
def A2f:Sig:=⟨38,[(2,.sl .pair true),(17,.sl .pair false),(18,.int .i64),(19,.int .i64)],[(0,.ptr 0 0),(1,.bm 182 [.ptr 0 0]),(6,.ptr 80 0),(7,.ptr 81 0)],[(0,.cells [.sl .tok false,.int .i64,.bool,.int .i64]),(1,.one (.sv .expr)),(80,.one (.sv .expr)),(81,.one (.sv .expr))],82,80,400,[],[]⟩
abbrev Ax1:=List PairS×List PairS×Int×Int×List Tok×Int×Bool×Int×Xpr×Xpr×Xpr
def Bst{R:Type}(rf:Bc->Option Ba)(rec:Ax1->Option R)(kx:Ex->Ax1->Option R)(v:Ax1):Option R:=match v with
 |(v1,v2,v3,v4,w7,w8,w9,d,a,b,c) =>
 cond (decide (v4<v3)) (
  chk (inb v4 v2.length) (
  (A8 ((at' .pair v2 v4).sign,w7,w8,w9,d)).bind λ(x5,x6,x7,x8,x9) =>
   cond (x5) (
   (Ald rf (x6,x7,x8,x9)).bind λ(e,f,g,h,i) =>kx (.exit 1) (v1,v2,v3,v4,f,g,h,i,a,b,(Xpr.mk ((at' .pair v2 v4).kind) ⟨0,0,[]⟩ [] [c,e]))) (
   rec (v1,v2,v3,(wr .i64 (v4+1)),x6,x7,x8,x9,a,b,c)))) (
  kx (.exit 2) (v1,v2,v3,v4,w7,w8,w9,d,a,b,c))
def Azc:Sig:=⟨38,[(2,.sl .pair true)],[(0,.ptr 0 0),(1,.bm 182 [.ptr 0 0]),(6,.ptr 80 0),(7,.ptr 81 0)],[(0,.cells [.sl .tok false,.int .i64,.bool,.int .i64]),(1,.one (.sv .expr)),(80,.one (.sv .expr)),(81,.one (.sv .expr))],82,80,400,[],[]⟩
abbrev Avr:=List PairS×List Tok×Int×Bool×Int×Xpr×Xpr×Xpr
def Brw{R:Type}(k:Nat)(rf:Bc->Option Ba)(rec:Avr->Option R)(kx:Ex->Avr->Option R)(v:Avr):Option R:=match v with
 |(v,w,w1,w2,w3,w4,w5,w6) =>
 cond (!w2) (
  Aj (λrc=>Bst rf rc (λe vz=>match vz with|(v5,_,_,_,v9,a,b,c,d,f,g)=>match e with
  |.exit 1 =>rec (v5,v9,a,b,c,d,f,g)
  |.exit 2 =>kx (.exit 0) (v5,v9,a,b,c,d,f,g)
  |_=>none)) k (v,v,(v.length:Int),0,w,w1,w2,w3,w4,w5,w6)) (
  kx (.exit 0) (v,w,w1,w2,w3,w4,w5,w6))
def Ayh(R:Type)(k:Nat)(rf:Bc->Option Ba):Px R:=pxO [(182,Ak Ab3 Ac6 (Ald rf)),(72,Ak Di Dh A8)] [] [(4,Al k A2f (Bst rf)),(2,Al k Azc (Brw k rf))] [(182,Cy Ab3 Ac6 (Ald rf))]
noncomputable def Bj3(R:Type)(k:Nat)(rf:Bc->Option Ba):Px R:=pxO [(181,Aw 80 400 (Ayh R k rf) Tryz.f181)] [] [] []
def Aop(k:Nat)(rf:Bc->Option Ba)(x:Bc):Option (Ba):=match x with
 |(l,n,b,p) =>
 (Ald rf (l,n,b,p)).bind λ(x,x1,x2,x3,x4) =>
  Aj (λrec=>Brw k rf rec (λe vz=>match vz with|(_,a,c,d,f,_,_,g)=>match e with
  |.exit 0 =>some (g,a,c,d,f)
  |_=>none)) k ([(PairS.mk [79,82] 5)],x1,x2,x3,x4,(Xpr.mk 0 ⟨0,0,[]⟩ [] []),(Xpr.mk 0 ⟨0,0,[]⟩ [] []),x)
theorem Bvb(k:Nat)(rf:Bc->Option Ba)(hrf:FM 116 Cv Cu rf):FM 116 Cv Cu (Aop k rf):=fRL (px:=Bj3 _ k rf) (n:=0) Tryz.func116 rfl (λcx H=>by have h1:Lv cx (Ayh (Ba) k rf):=lv H (l1 H (Bb4 rf hrf) (l1 H Dy Ae)) Aa (w1 H (Bb4 rf hrf) Ab);have hlpor_1:=lO H h1 (b:=lpC (lp Tryz.f181 0) 0) (k:=k) (n:=0) (s:=A2f) (step:=Bst rf) (λ_ _ _ (_,_,_,_,_,_,_,_,_,_,_)=>by kernel_rfl) Ai;have hlpor_0:=lO H h1 (b:=lp Tryz.f181 0) (k:=k) (n:=1) (s:=Azc) (step:=Brw k rf) (λ_ _ _ (_,_,_,_,_,_,_,_)=>by kernel_rfl) (A2 Ai hlpor_1);have h0:Lv cx (Bj3 (Ba) k rf):=lv H (Am (cR H h1 Tryz.func181 rfl (n:=2) ((A2 (A2 Ai hlpor_0) hlpor_1))) Ae) Aa Ab;exact⟨h0,Ai⟩) λ(_,_,_,_)=>by kernel_rfl
def Blm(rf:Bc->Option Ba):Bc->Option Ba:=λx=>Aop (x.1.length+3) rf x
theorem Bs1(rf:Bc->Option Ba)(hrf:FnLn Tryz.prog elT glT 116 Cv Cu rf):FnLn Tryz.prog elT glT 116 Cv Cu (Blm rf) :=.fin (ι:=Nat) (sg:=Cv) (so:=Cu) 0 (F:=λk=>Aop k rf) (λk=>Bvb k rf hrf) λx _ _ hx=>⟨x.1.length+3,hx⟩
def Sb:Bc->Option Ba:=λx=>Aj (V:=Bc) (R:=Ba) Blm (x.1.length+2) x
theorem Avq:FnLn Tryz.prog elT glT 116 Cv Cu Sb :=.fin (ι:=Nat) (sg:=Cv) (so:=Cu) 0 (F:=λn=>Aj (V:=Bc) (R:=Ba) Blm n) (λn=>FnLn.rec' (Sx.enters_of Tryz.func116 rfl rfl) (λrf hrf=>Bs1 rf hrf) n) λx _ _ hx=>⟨x.1.length+2,hx⟩
end Go.Proofs.YtblaahgjaopdnaaGreatDoor
