/- Texts of the proof,one behind the other: Ph,Pj,Bw,Shj,Sj,Wr,Ws,Pi,Kx,Sf,Cn,Cm,Xa,Xb,Xc,Vg,Vd,Vu,Xu,Vc,Xd,Xe,Xf,Vh,Xg,Vj,Xh,Xi,Xj,Xk,Xl,Xm,Xn,Xo. -/
import Derived.Test.YtblaahgjaopdnaaGreatDoorYY6
import Derived.Lib.Strings
import Derived.Lib.Slices
import Derived.Lib.Builder
import Derived.Lib.UnsafeStr
import Derived.Lib.FrozenHead
import Derived.Shelf.RegionOpenPlain
import Derived.Shelf.Strings.OnBuilder
set_option linter.all false
namespace Go.Proofs.YtblaahgjaopdnaaGreatDoor
open Go.Ax
def Mv:Sig:=⟨1,[],[(0,.ptr 0 0)],[(0,.cells [.sl .tok false,.int .i64,.bool,.int .i64])],1,1,0,[],[]⟩
def Me:Sig:=⟨1,[(0,.sl .str true)],[],[(0,.cells [.sl .tok false,.int .i64,.bool,.int .i64])],1,1,0,[],[]⟩
abbrev Axo:=List Tok×Int×Bool×Int
abbrev O8:=List Str×List Tok×Int×Bool×Int
def Ad8:Sig:=⟨19,[],[(0,.ptr 0 0),(1,.fn 180 [.ptr 2 0,.ptr 1 0])],[(0,.cells [.sl .tok false,.int .i64,.bool,.int .i64]),(1,.fx [.ptr 0 0]),(2,.cells [.sl .str true])],80,80,400,[],[]⟩
abbrev Vp:=List Tok×Int×Bool×Int×List Str
def Ald{R:Type}(rec:Vp->Option R)(kx:Ex->Vp->Option R)(v:Vp):Option R:=match v with
 |(w,w1,w2,w3,w4) =>
 cond (!w2) (
  (A3 ([44],w,w1,w2,w3)).bind λ(x9,a,b,c,d) =>
  cond (x9) (
   (Bo (a,b,c,d)).bind λ(e,f,g,h,i) =>
   chk (decide (w4.length+1<=Ai)) (
    rec (f,g,h,i,(w4++[e])))) (
   kx (.exit 0) (a,b,c,d,w4))) (
  kx (.exit 0) (w,w1,w2,w3,w4))
def Un(R:Type)(_k:Nat):Px R:=pxO [] [] [] [(75,Cv Ed Ee Bo)]
noncomputable def Aez(R:Type)(k:Nat):Px R:=pxO [(72,Aj Df De A3),(180,Aq 120 600 (Un R k) Tryz.f180)] [] [(1,Am k Ad8 (Ald))] []
noncomputable def Anf(R:Type)(k:Nat):Px R:=pxO [(74,Aj Dm Dj A4),(76,Aq 80 400 (Aez R k) Tryz.f76)] [] [] []
def Q3(k:Nat)(x:Axo):Option (O8):=match x with
 |(l,n,b,p) =>
 (A4 ([[40]],l,n,b,p)).bind λ(x,x1,x2,x3) =>
  (Bo (x,x1,x2,x3)).bind λ(x4,x5,x6,x7,x8) =>
  Ak (λrec=>Ald rec (λe vz=>match vz with|(v,v1,v2,v3,v4)=>match e with
   |.exit 0 =>
   (A4 ([[41]],v,v1,v2,v3)).bind λ(a,c,d,f) =>some (v4,a,c,d,f)
   |_=>none)) k (x5,x6,x7,x8,[x4])
theorem A14(k:Nat):FM 114 Mv Me (Q3 k):=fRL (px:=Anf _ k) (n:=0) Tryz.func114 rfl (λcx H=>by have h2:Lv cx (Un (O8) k):=lv H Ae Aa (w1 H Gj Ab);have h1:Lv cx (Aez (O8) k):=lv H (l1 H Dr (Al (cR H h2 Tryz.func180 rfl (n:=0) (Ag)) Ae)) Aa Ab;have hlpnames_0:=lO H h1 (b:=lp Tryz.f76 0) (k:=k) (n:=0) (s:=Ad8) (step:=Ald) (λ_ _ _ (_,_,_,_,_)=>by kernel_rfl) Ag;have h0:Lv cx (Anf (O8) k):=lv H (l1 H Ei (Al (cR H h1 Tryz.func76 rfl (n:=1) ((A5 Ag hlpnames_0))) Ae)) Aa Ab;exact⟨h0,Ag⟩) λ(_,_,_,_)=>by kernel_rfl
def Ql:Axo->Option O8:=λx=>Q3 ((x.1.length+3)) x
theorem Aq9:FM 114 Mv Me (Ql):=FnLn.fin (ι:=Nat) (sg:=Mv) (so:=Me) 0 (F:=λk=>Q3 k) (λk=>A14 k) λx _ _ hx=>⟨(x.1.length+3),hx⟩
def Mm:Sig:=⟨1,[],[(0,.ptr 0 0)],[(0,.cells [.sl .tok false,.int .i64,.bool,.int .i64])],1,1,0,[],[]⟩
def Ll:Sig:=⟨1,[(0,.sl .expr true)],[],[(0,.cells [.sl .tok false,.int .i64,.bool,.int .i64])],1,1,0,[],[]⟩
abbrev Ax3:=List Tok×Int×Bool×Int
abbrev Pl:=List Xpr×List Tok×Int×Bool×Int
def Aek:Sig:=⟨19,[],[(0,.ptr 0 0),(1,.fn 115 [.ptr 2 0,.ptr 1 0])],[(0,.cells [.sl .tok false,.int .i64,.bool,.int .i64]),(1,.fx [.ptr 0 0]),(2,.cells [.sl .expr true])],80,80,400,[],[]⟩
abbrev Wl:=List Tok×Int×Bool×Int×List Xpr
def Ajk{R:Type}(rec:Wl->Option R)(kx:Ex->Wl->Option R)(v:Wl):Option R:=match v with
 |(w,w1,w2,w3,w4) =>
 cond (!w2) (
  (A3 ([44],w,w1,w2,w3)).bind λ(x5,x6,x7,x8,x9) =>
  cond (x5) (
   (Pm (x6,x7,x8,x9)).bind λ(a,b,c,d,e) =>
   chk (decide (w4.length+1<=Ai)&&decide ((w4.length:Int)=(w4.length:Int))) (
    rec (b,c,d,e,(w4++[a])))) (
   kx (.exit 0) (x6,x7,x8,x9,w4))) (
  kx (.exit 0) (w,w1,w2,w3,w4))
def Ue(R:Type)(_k:Nat):Px R:=pxO [] [] [] [(116,Cv Cr Cs Pm)]
noncomputable def Ae1(R:Type)(k:Nat):Px R:=pxO [(72,Aj Df De A3),(115,Aq 120 600 (Ue R k) Tryz.f115)] [] [(1,Am k Aek (Ajk))] []
noncomputable def Ao8(R:Type)(k:Nat):Px R:=pxO [(76,Aq 80 400 (Ae1 R k) Tryz.f76)] [] [] []
def Qn(k:Nat)(x:Ax3):Option (Pl):=match x with
 |(l,n,b,p) =>
 (Pm (l,n,b,p)).bind λ(x,x1,x2,x3,x4) =>
  chk (decide (0+1<=Ai)&&decide (0=(0:Int))) (
  Ak (λrec=>Ajk rec (λe vz=>match vz with|(v,v1,v2,v3,v4)=>match e with
   |.exit 0 =>
   some (v4,v,v1,v2,v3)
   |_=>none)) k (x1,x2,x3,x4,[x]))
theorem A0k(k:Nat):FM 78 Mm Ll (Qn k):=fRL (px:=Ao8 _ k) (n:=0) Tryz.func78 rfl (λcx H=>by have h2:Lv cx (Ue (Pl) k):=lv H Ae Aa (w1 H Ata Ab);have h1:Lv cx (Ae1 (Pl) k):=lv H (l1 H Dr (Al (cR H h2 Tryz.func115 rfl (n:=0) (Ag)) Ae)) Aa Ab;have hlpexprs_0:=lO H h1 (b:=lp Tryz.f76 0) (k:=k) (n:=0) (s:=Aek) (step:=Ajk) (λ_ _ _ (_,_,_,_,_)=>by kernel_rfl) Ag;have h0:Lv cx (Ao8 (Pl) k):=lv H (Al (cR H h1 Tryz.func76 rfl (n:=1) ((A5 Ag hlpexprs_0))) Ae) Aa Ab;exact⟨h0,Ag⟩) λ(_,_,_,_)=>by kernel_rfl
def Mb:Ax3->Option Pl:=λx=>Qn ((x.1.length+3)) x
theorem Apz:FM 78 Mm Ll (Mb):=FnLn.fin (ι:=Nat) (sg:=Mm) (so:=Ll) 0 (F:=λk=>Qn k) (λk=>A0k k) λx _ _ hx=>⟨(x.1.length+3),hx⟩
def Agf:Sig:=⟨1,[],[(0,.ptr 0 0)],[(0,.cells [.sl .tok false,.int .i64,.bool,.int .i64])],1,1,0,[],[]⟩
def Agg:Sig:=⟨1,[(0,.sv .col)],[],[(0,.cells [.sl .tok false,.int .i64,.bool,.int .i64])],1,1,0,[],[]⟩
abbrev Bfy:=List Tok×Int×Bool×Int
abbrev A33:=Col×List Tok×Int×Bool×Int
def Ao0:Sig:=⟨87,[(10,.int .i64)],[(0,.ptr 0 0),(2,.ptr 1 0),(3,.ptr 2 0),(9,.agg [.str [],.str [],.str [66,79,79,76],.str [73,78,84],.str [84,69,88,84],.str [66,89,84,69,83]])],[(0,.cells [.sl .tok false,.int .i64,.bool,.int .i64]),(1,.one (.sv .col)),(2,.one (.sv .col))],3,1,0,[],[]⟩
abbrev Agu:=Int×List Tok×Int×Bool×Int×Col×Col
def A2i{R:Type}(rec:Agu->Option R)(kx:Ex->Agu->Option R)(v:Agu):Option R:=match v with
 |(v,w,w1,w2,w3,w4,w5) =>
 cond (decide (v<6)) (
  chk (inb v 6) (
  let j1:=λ(p1:Bool) =>
   let j:=λ(p2:Bool) =>
   cond (p2) (
    (A3 ((at' .str [[],[],[66,79,79,76],[73,78,84],[84,69,88,84],[66,89,84,69,83]] v),w,w1,w2,w3)).bind λ(x5,x6,x7,x8,x9) =>
    cond (x5) (
     rec ((wr .i64 (v+1)),x6,x7,x8,x9,w4,(Col.mk w5.name v w5.notNull w5.unique w5.ref))) (
     rec ((wr .i64 (v+1)),x6,x7,x8,x9,w4,w5))) (
    rec ((wr .i64 (v+1)),w,w1,w2,w3,w4,w5))
   cond (p1) (
   j (decide (w5.kind=0))) (
   j false)
  cond (decide (2<=v)) (
   j1 (!w2)) (
   j1 false))) (
  kx (.exit 0) (v,w,w1,w2,w3,w4,w5))
def A6u(R:Type)(k:Nat):Px R:=pxO [(75,Aj Ed Ee Bo),(72,Aj Df De A3),(82,Aj F2 F6 Dv),(74,Aj Dm Dj A4)] [] [(3,Am k Ao0 (A2i))] []
def Ac4(k:Nat)(x:Bfy):Option (A33):=match x with
 |(l,n,b,p) =>
 (Bo (l,n,b,p)).bind λ(x,x1,x2,x3,x4) =>
  Ak (λrec=>A2i rec (λe vz=>match vz with|(_,v2,v3,v4,v5,_,v7)=>match e with
  |.exit 0 =>
   let j6:=λ(h:List Tok) (i:Int) (d:Bool) (j:Int) =>
   let j2:=λ(m:List Tok) (o:Int) (q:Bool) (r:Int) (a:Col) =>
    let j5:=λ(s:List Tok) (t:Int) (f:Bool) (u:Int) =>
    let j4:=λ(v:List Tok) (w:Int) (g:Bool) (y:Int) (c:Col) =>
     let j3:=λ(p8:Bool) (z:List Tok) (a0:Int) (a1:Bool) (a2:Int) =>
     cond (p8) (
      (Bo (z,a0,a1,a2)).bind λ(a3,a4,a5,a6,a7) =>
      some ((Col.mk c.name c.kind c.notNull c.unique a3),a4,a5,a6,a7)) (
      some (c,z,a0,a1,a2))
     cond (!g) (
     (A3 ([82,69,70,69,82,69,78,67,69,83],v,w,g,y)).bind λ(a8,a9,aa,ab,ac) =>j3 a8 a9 aa ab ac) (
     j3 false v w g y)
    cond (!f) (
     (A3 ([85,78,73,81,85,69],s,t,f,u)).bind λ(ad,ae,af,ag,ah) =>
     j4 ae af ag ah (Col.mk a.name a.kind a.notNull ad a.ref)) (
     j4 s t f u (Col.mk a.name a.kind a.notNull false a.ref))
    cond (a.notNull) (
    (A4 ([[78,85,76,76]],m,o,q,r)).bind λ(ai,aj,ak,al) =>j5 ai aj ak al) (
    j5 m o q r)
   cond (!d) (
    (A3 ([78,79,84],h,i,d,j)).bind λ(am,an,ao,ap,aq) =>
    j2 an ao ap aq (Col.mk v7.name v7.kind am v7.unique v7.ref)) (
    j2 h i d j (Col.mk v7.name v7.kind false v7.unique v7.ref))
   cond (decide (v7.kind=0)) (
   (Dv (v2,v3,v4,v5)).bind λ(ar,au,av,aw) =>j6 ar au av aw) (
   j6 v2 v3 v4 v5)
  |_=>none)) k (0,x1,x2,x3,x4,(Col.mk [] 0 false false []),(Col.mk x 0 false false []))
theorem Bhl(k:Nat):FM 179 Agf Agg (Ac4 k):=fRL (px:=A6u _ k) (n:=1) Tryz.func179 rfl (λcx H=>by have h0:Lv cx (A6u (A33) k):=lv H (l1 H Gj (l1 H Dr (l1 H Iu (l1 H Ei Ae)))) Aa Ab;have hlpcol_0:=lO H h0 (b:=lp Tryz.f179 0) (k:=k) (n:=0) (s:=Ao0) (step:=A2i) (λ_ _ _ (_,_,_,_,_,_,_)=>by kernel_rfl) Ag;exact⟨h0,(A5 Ag hlpcol_0)⟩) λ(_,_,_,_)=>by kernel_rfl
def Ar7:Bfy->Option A33:=λx=>Ac4 (10) x
theorem Bmx:FM 179 Agf Agg (Ar7):=FnLn.fin (ι:=Nat) (sg:=Agf) (so:=Agg) 0 (F:=λk=>Ac4 k) (λk=>Bhl k) λ_ _ _ hx=>⟨10,hx⟩
def Ri:Sig:=⟨2,[],[(0,.ptr 0 0),(1,.ptr 1 0)],[(0,.cells [.sl .tok false,.int .i64,.bool,.int .i64]),(1,.cells [.int .i64,.str,.str,.sl .col true,.sl .str false,.sl .expr true,.sl .exprs true,.sl .set true,.bool,.int .i64,.int .i64,.int .i64,.str,.str,.sl .expr false,.sl .str true,.sl .bool true,.int .i64])],2,2,0,[],[]⟩
def S3:Sig:=⟨0,[],[],[(0,.cells [.sl .tok false,.int .i64,.bool,.int .i64]),(1,.cells [.int .i64,.str,.str,.sl .col true,.sl .str false,.sl .expr true,.sl .exprs true,.sl .set true,.bool,.int .i64,.int .i64,.int .i64,.str,.str,.sl .expr false,.sl .str true,.sl .bool true,.int .i64])],2,2,0,[],[]⟩
abbrev Az8:=List Tok×Int×Bool×Int×Int×Str×Str×List Col×List Str×List Xpr×List (List Xpr)×List SetE×Bool×Int×Int×Int×Str×Str×List Xpr×List Str×List Bool×Int
abbrev Ak8:=List Tok×Int×Bool×Int×Int×Str×Str×List Col×List Str×List Xpr×List (List Xpr)×List SetE×Bool×Int×Int×Int×Str×Str×List Xpr×List Str×List Bool×Int
def Ae3:Sig:=⟨95,[],[(0,.ptr 0 0),(1,.ptr 1 0)],[(0,.cells [.sl .tok false,.int .i64,.bool,.int .i64]),(1,.cells [.int .i64,.str,.str,.sl .col true,.sl .str true,.sl .expr true,.sl .exprs true,.sl .set true,.bool,.int .i64,.int .i64,.int .i64,.str,.str,.sl .expr false,.sl .str true,.sl .bool true,.int .i64])],2,2,0,[],[]⟩
abbrev V8:=List Tok×Int×Bool×Int×Int×Str×Str×List Col×List Str×List Xpr×List (List Xpr)×List SetE×Bool×Int×Int×Int×Str×Str×List Xpr×List Str×List Bool×Int
def Aly{R:Type}(rec:V8->Option R)(kx:Ex->V8->Option R)(v:V8):Option R:=match v with
 |(t,u,b,w,c,d,e,f,g,a,h,i,j,k,l,m,n,o,p,q,r,s) =>
 cond (!b) (
  (A3 ([44],t,u,b,w)).bind λ(a1,x,y,z,a0) =>
  cond (a1) (
   (A4 ([[67,72,69,67,75],[40]],x,y,z,a0)).bind λ(a2,a3,a4,a5) =>
   (Pm (a2,a3,a4,a5)).bind λ(a6,a7,a8,a9,aa) =>
    chk (decide (a.length+1<=Ai)&&decide ((a.length:Int)=(a.length:Int))) (
    (A4 ([[41]],a7,a8,a9,aa)).bind λ(ab,ac,ad,ae) =>rec (ab,ac,ad,ae,c,d,e,f,g,(a++[a6]),h,i,j,k,l,m,n,o,p,q,r,s))) (
   kx (.exit 2) (x,y,z,a0,c,d,e,f,g,a,h,i,j,k,l,m,n,o,p,q,r,s))) (
  kx (.exit 2) (t,u,b,w,c,d,e,f,g,a,h,i,j,k,l,m,n,o,p,q,r,s))
def Afg:Sig:=⟨95,[],[(0,.ptr 0 0),(1,.ptr 1 0)],[(0,.cells [.sl .tok false,.int .i64,.bool,.int .i64]),(1,.cells [.int .i64,.str,.str,.sl .col true,.sl .str false,.sl .expr true,.sl .exprs true,.sl .set true,.bool,.int .i64,.int .i64,.int .i64,.str,.str,.sl .expr false,.sl .str true,.sl .bool true,.int .i64])],2,2,0,[],[]⟩
abbrev We:=List Tok×Int×Bool×Int×Int×Str×Str×List Col×List Str×List Xpr×List (List Xpr)×List SetE×Bool×Int×Int×Int×Str×Str×List Xpr×List Str×List Bool×Int
def Aiy{R:Type}(rec:We->Option R)(kx:Ex->We->Option R)(v:We):Option R:=match v with
 |(w,w1,w2,w3,w4,w5,w6,w7,w8,w9,a,b,c,d,e,f,g,h,i,j,k,l) =>
 cond (!w2) (
  (A3 ([80,82,73,77,65,82,89],w,w1,w2,w3)).bind λ(q,m,n,o,p) =>
  cond (!q) (
   (Ar7 (m,n,o,p)).bind λ(r,s,t,u,x) =>
   chk (decide (w7.length+1<=Ai)) (
    (A4 ([[44]],s,t,u,x)).bind λ(y,z,a0,a1) =>
    rec (y,z,a0,a1,w4,w5,w6,(w7++[r]),w8,w9,a,b,c,d,e,f,g,h,i,j,k,l))) (
   kx (.exit 0) (m,n,o,p,w4,w5,w6,w7,w8,w9,a,b,c,d,e,f,g,h,i,j,k,l))) (
  kx (.exit 0) (w,w1,w2,w3,w4,w5,w6,w7,w8,w9,a,b,c,d,e,f,g,h,i,j,k,l))
def Anu(R:Type)(k:Nat):Px R:=pxO [(75,Aj Ed Ee Bo),(74,Aj Dm Dj A4),(72,Aj Df De A3),(114,Aj Mv Me Ql)] [] [(4,Am k Afg (Aiy)),(9,Am k Ae3 (Aly))] [(179,Cv Agf Agg Ar7),(116,Cv Cr Cs Pm)]
def Qe(k:Nat)(x:Az8):Option (Ak8):=match x with
 |(l,n,b,p,_,_,so,sc,ss,sl,sr,st,sh,wk,vk,vn,vs,wn,wl,sd,se,sm) =>
 (Bo (l,n,b,p)).bind λ(x,x1,x2,x3,x4) =>
  (A4 ([[40]],x1,x2,x3,x4)).bind λ(x5,x6,x7,x8) =>
  (Ar7 (x5,x6,x7,x8)).bind λ(x9,a,c,d,f) =>
   chk (decide (sc.length+1<=Ai)) (
   (A4 ([[44]],a,c,d,f)).bind λ(g,h,i,j) =>
    Ak (λrec=>Aiy rec (λe vz=>match vz with|(v,v1,v2,v3,v4,v5,v6,v7,_,v9,m,o,q,r,s,t,u,w,y,z,a0,a1)=>match e with
    |.exit 0 =>
     (A4 ([[75,69,89]],v,v1,v2,v3)).bind λ(a2,a3,a4,a5) =>
     (Ql (a2,a3,a4,a5)).bind λ(a6,a7,a8,a9,aa) =>
      Ak (λrec=>Aly rec (λe vz=>match vz with|(ab,ac,ad,ae,af,ag,ah,ai,aj,ak,al,am,an,ao,ap,aq,ar,au,av,aw,ax,ay)=>match e with
      |.exit 2 =>
       (A4 ([[41]],ab,ac,ad,ae)).bind λ(az,b0,b1,b2) =>
       some (az,b0,b1,b2,af,ag,ah,ai,aj,ak,al,am,an,ao,ap,aq,ar,au,av,aw,ax,ay)
      |_=>none)) k (a7,a8,a9,aa,v4,v5,v6,v7,a6,v9,m,o,q,r,s,t,u,w,y,z,a0,a1)
    |_=>none)) k (g,h,i,j,1,x,so,(sc++[x9]),ss,sl,sr,st,sh,wk,vk,vn,vs,wn,wl,sd,se,sm))
theorem A2j(k:Nat):FM 113 Ri S3 (Qe k):=fRL (px:=Anu _ k) (n:=2) Tryz.func113 rfl (λcx H=>by have h0:Lv cx (Anu (Ak8) k):=lv H (l1 H Gj (l1 H Ei (l1 H Dr (l1 H Aq9 Ae)))) Aa (w1 H Bmx (w1 H Ata Ab));have hlptable_0:=lO H h0 (b:=lp Tryz.f113 0) (k:=k) (n:=0) (s:=Afg) (step:=Aiy) (λ_ _ _ (_,_,_,_,_,_,_,_,_,_,_,_,_,_,_,_,_,_,_,_,_,_)=>by kernel_rfl) Ag;have hlptable_1:=lO H h0 (b:=lp Tryz.f113 1) (k:=k) (n:=0) (s:=Ae3) (step:=Aly) (λ_ _ _ (_,_,_,_,_,_,_,_,_,_,_,_,_,_,_,_,_,_,_,_,_,_)=>by kernel_rfl) Ag;exact⟨h0,(A5 (A5 Ag hlptable_0) hlptable_1)⟩) λ(_,_,_,_,_,_,_,_,_,_,_,_,_,_,_,_,_,_,_,_,_,_)=>by kernel_rfl
def Ak2:Az8->Option Ak8:=λx=>Qe ((x.1.length+3)) x
theorem Bd1:FM 113 Ri S3 (Ak2):=FnLn.fin (ι:=Nat) (sg:=Ri) (so:=S3) 0 (F:=λk=>Qe k) (λk=>A2j k) λx _ _ hx=>⟨(x.1.length+3),hx⟩
def Ux:Sig:=⟨2,[],[(0,.ptr 0 0),(1,.ptr 1 0)],[(0,.cells [.sl .tok false,.int .i64,.bool,.int .i64]),(1,.cells [.int .i64,.str,.str,.sl .col true,.sl .str false,.sl .expr true,.sl .exprs true,.sl .set true,.bool,.int .i64,.int .i64,.int .i64,.str,.str,.sl .expr false,.sl .str true,.sl .bool true,.int .i64])],2,2,0,[],[]⟩
def U7:Sig:=⟨0,[],[],[(0,.cells [.sl .tok false,.int .i64,.bool,.int .i64]),(1,.cells [.int .i64,.str,.str,.sl .col true,.sl .str false,.sl .expr true,.sl .exprs true,.sl .set true,.bool,.int .i64,.int .i64,.int .i64,.str,.str,.sl .expr false,.sl .str true,.sl .bool true,.int .i64])],2,2,0,[],[]⟩
abbrev Ana:=List Tok×Int×Bool×Int×Int×Str×Str×List Col×List Str×List Xpr×List (List Xpr)×List SetE×Bool×Int×Int×Int×Str×Str×List Xpr×List Str×List Bool×Int
abbrev Ao4:=List Tok×Int×Bool×Int×Int×Str×Str×List Col×List Str×List Xpr×List (List Xpr)×List SetE×Bool×Int×Int×Int×Str×Str×List Xpr×List Str×List Bool×Int
def A3g(R:Type):Px R:=pxO [(72,Aj Df De A3),(113,Aj Ri S3 Ak2),(74,Aj Dm Dj A4),(75,Aj Ed Ee Bo),(114,Aj Mv Me Ql)] [] [] []
def Aar(x:Ana):Option (Ao4):=match x with
 |(l,n,b,p,sk,sn,so,sc,ss,sl,sr,st,sh,wk,vk,vn,vs,wn,wl,sd,se,sm) =>
 (A3 ([84,65,66,76,69],l,n,b,p)).bind λ(x,x1,x2,x3,x4) =>
  cond (x) (
  (Ak2 (x1,x2,x3,x4,sk,sn,so,sc,ss,sl,sr,st,sh,wk,vk,vn,vs,wn,wl,sd,se,sm)).bind λ(x5,x6,x7,x8,x9,a,c,d,e,f,g,h,i,j,k,m,o,q,r,s,t,u) =>some (x5,x6,x7,x8,x9,a,c,d,e,f,g,h,i,j,k,m,o,q,r,s,t,u)) (
  (A4 ([[73,78,68,69,88]],x1,x2,x3,x4)).bind λ(v,w,y,z) =>
   (Bo (v,w,y,z)).bind λ(a0,a1,a2,a3,a4) =>
   (A4 ([[79,78]],a1,a2,a3,a4)).bind λ(a5,a6,a7,a8) =>
    (Bo (a5,a6,a7,a8)).bind λ(a9,aa,ab,ac,ad) =>
    (Ql (aa,ab,ac,ad)).bind λ(ae,af,ag,ah,ai) =>some (af,ag,ah,ai,3,a0,a9,sc,ae,sl,sr,st,sh,wk,vk,vn,vs,wn,wl,sd,se,sm))
theorem Axt:FM 73 Ux U7 (Aar):=fRL (px:=A3g _) (n:=0) Tryz.func73 rfl (λ_ H=>⟨lv H (l1 H Dr (l1 H Bd1 (l1 H Ei (l1 H Gj (l1 H Aq9 Ae))))) Aa Ab,Ag⟩) λ(_,_,_,_,_,_,_,_,_,_,_,_,_,_,_,_,_,_,_,_,_,_)=>by kernel_rfl
def Ab1:Ana->Option Ao4:=λx=>Aar x
theorem A3l:FM 73 Ux U7 (Ab1):=Axt
def Mf:Sig:=⟨2,[],[(0,.ptr 0 0),(1,.ptr 1 0)],[(0,.cells [.sl .tok false,.int .i64,.bool,.int .i64]),(1,.cells [.int .i64,.str,.str,.sl .col true,.sl .str false,.sl .expr true,.sl .exprs true,.sl .set true,.bool,.int .i64,.int .i64,.int .i64,.str,.str,.sl .expr false,.sl .str true,.sl .bool true,.int .i64])],2,2,0,[],[]⟩
def Mw:Sig:=⟨0,[],[],[(0,.cells [.sl .tok false,.int .i64,.bool,.int .i64]),(1,.cells [.int .i64,.str,.str,.sl .col true,.sl .str false,.sl .expr true,.sl .exprs true,.sl .set true,.bool,.int .i64,.int .i64,.int .i64,.str,.str,.sl .expr false,.sl .str true,.sl .bool true,.int .i64])],2,2,0,[],[]⟩
abbrev Awu:=List Tok×Int×Bool×Int×Int×Str×Str×List Col×List Str×List Xpr×List (List Xpr)×List SetE×Bool×Int×Int×Int×Str×Str×List Xpr×List Str×List Bool×Int
abbrev Ay4:=List Tok×Int×Bool×Int×Int×Str×Str×List Col×List Str×List Xpr×List (List Xpr)×List SetE×Bool×Int×Int×Int×Str×Str×List Xpr×List Str×List Bool×Int
def Bcv(R:Type):Px R:=pxO [(72,Aj Df De A3),(116,Aj Cr Cs Pm)] [] [] []
def Ael(x:Awu):Option (Ay4):=match x with
 |(l,n,b,p,sk,sn,so,sc,ss,sl,sr,st,sh,wk,vk,vn,vs,wn,wl,sd,se,sm) =>
 let j:=λ(p2:Bool) (q4:List Tok) (q5:Int) (q6:Bool) (q7:Int) =>
  cond (p2) (
  (Pm (q4,q5,q6,q7)).bind λ(x5,x6,x7,x8,x9) =>some (x6,x7,x8,x9,sk,sn,so,sc,ss,sl,sr,st,true,x5.kind,x5.v.kind,x5.v.n,x5.v.s,x5.name,x5.l,sd,se,sm)) (
  some (q4,q5,q6,q7,sk,sn,so,sc,ss,sl,sr,st,sh,wk,vk,vn,vs,wn,wl,sd,se,sm))
 cond (!b) (
  (A3 ([87,72,69,82,69],l,n,b,p)).bind λ(x,x1,x2,x3,x4) =>
  j x x1 x2 x3 x4) (
  j false l n b p)
theorem A2v:FM 80 Mf Mw (Ael):=fRL (px:=Bcv _) (n:=0) Tryz.func80 rfl (λ_ H=>⟨lv H (l1 H Dr (l1 H Ata Ae)) Aa Ab,Ag⟩) λ(_,_,_,_,_,_,_,_,_,_,_,_,_,_,_,_,_,_,_,_,_,_)=>by kernel_rfl
def Jh:Awu->Option Ay4:=λx=>Ael x
theorem Abv:FM 80 Mf Mw (Jh):=A2v
def M8:Sig:=⟨2,[],[(0,.ptr 0 0),(1,.ptr 1 0)],[(0,.cells [.sl .tok false,.int .i64,.bool,.int .i64]),(1,.cells [.int .i64,.str,.str,.sl .col true,.sl .str false,.sl .expr true,.sl .exprs true,.sl .set true,.bool,.int .i64,.int .i64,.int .i64,.str,.str,.sl .expr false,.sl .str true,.sl .bool true,.int .i64])],2,2,0,[],[]⟩
def N0:Sig:=⟨0,[],[],[(0,.cells [.sl .tok false,.int .i64,.bool,.int .i64]),(1,.cells [.int .i64,.str,.str,.sl .col true,.sl .str false,.sl .expr true,.sl .exprs true,.sl .set true,.bool,.int .i64,.int .i64,.int .i64,.str,.str,.sl .expr false,.sl .str true,.sl .bool true,.int .i64])],2,2,0,[],[]⟩
abbrev Aow:=List Tok×Int×Bool×Int×Int×Str×Str×List Col×List Str×List Xpr×List (List Xpr)×List SetE×Bool×Int×Int×Int×Str×Str×List Xpr×List Str×List Bool×Int
abbrev Mo:=List Tok×Int×Bool×Int×Int×Str×Str×List Col×List Str×List Xpr×List (List Xpr)×List SetE×Bool×Int×Int×Int×Str×Str×List Xpr×List Str×List Bool×Int
def Z9:Sig:=⟨19,[],[(0,.ptr 0 0),(1,.fn 117 [.ptr 2 0,.ptr 3 0])],[(0,.cells [.sl .tok false,.int .i64,.bool,.int .i64]),(1,.cells [.int .i64,.str,.str,.sl .col true,.sl .str false,.sl .expr true,.sl .exprs true,.sl .set true,.bool,.int .i64,.int .i64,.int .i64,.str,.str,.sl .expr false,.sl .str true,.sl .bool true,.int .i64]),(2,.fx [.ptr 0 0]),(3,.fx [.ptr 1 0])],80,80,400,[],[]⟩
abbrev P8:=List Tok×Int×Bool×Int×Int×Str×Str×List Col×List Str×List Xpr×List (List Xpr)×List SetE×Bool×Int×Int×Int×Str×Str×List Xpr×List Str×List Bool×Int
def Abm{R:Type}(rec:P8->Option R)(kx:Ex->P8->Option R)(v:P8):Option R:=match v with
 |(w,w1,w2,w3,w4,w5,w6,w7,w8,w9,b,a,c,d,e,f,g,h,i,j,k,l) =>
 cond (!w2) (
  (A3 ([44],w,w1,w2,w3)).bind λ(q,m,n,o,p) =>
  cond (q) (
   (Bo (m,n,o,p)).bind λ(r,s,t,u,x) =>
   (A4 ([[61]],s,t,u,x)).bind λ(y,z,a0,a1) =>
    (Pm (y,z,a0,a1)).bind λ(a2,a3,a4,a5,a6) =>
    chk (decide (a.length+1<=Ai)) (
     rec (a3,a4,a5,a6,w4,w5,w6,w7,w8,w9,b,(a++[(SetE.mk r (O0 a2))]),c,d,e,f,g,h,i,j,k,l))) (
   kx (.exit 0) (m,n,o,p,w4,w5,w6,w7,w8,w9,b,a,c,d,e,f,g,h,i,j,k,l))) (
  kx (.exit 0) (w,w1,w2,w3,w4,w5,w6,w7,w8,w9,b,a,c,d,e,f,g,h,i,j,k,l))
def Qh(R:Type)(_k:Nat):Px R:=pxO [(75,Aj Ed Ee Bo),(74,Aj Dm Dj A4),(116,Aj Cr Cs Pm)] [] [] []
noncomputable def W8(R:Type)(k:Nat):Px R:=pxO [(72,Aj Df De A3),(117,Aq 120 600 (Qh R k) Tryz.f117)] [] [(1,Am k Z9 (Abm))] []
noncomputable def Ag6(R:Type)(k:Nat):Px R:=pxO [(74,Aj Dm Dj A4),(80,Aj Mf Mw Jh),(76,Aq 80 400 (W8 R k) Tryz.f76)] [] [] [(75,Cv Ed Ee Bo)]
def M9(k:Nat)(x:Aow):Option (Mo):=match x with
 |(l,n,b,p,_,_,so,sc,ss,sl,sr,st,sh,wk,vk,vn,vs,wn,wl,sd,se,sm) =>
 (Bo (l,n,b,p)).bind λ(x,x1,x2,x3,x4) =>
  (A4 ([[83,69,84]],x1,x2,x3,x4)).bind λ(x5,x6,x7,x8) =>
  (Bo (x5,x6,x7,x8)).bind λ(x9,a,c,d,f) =>
   (A4 ([[61]],a,c,d,f)).bind λ(g,h,i,j) =>
   (Pm (g,h,i,j)).bind λ(m,o,q,r,s) =>
    chk (decide (st.length+1<=Ai)) (
    Ak (λrec=>Abm rec (λe vz=>match vz with|(v,v1,v2,v3,v4,v5,v6,v7,v8,v9,t,u,w,y,z,a0,a1,a2,a3,a4,a5,a6)=>match e with
     |.exit 0 =>
     (Jh (v,v1,v2,v3,v4,v5,v6,v7,v8,v9,t,u,w,y,z,a0,a1,a2,a3,a4,a5,a6)).bind λ(a7,a8,a9,aa,ab,ac,ad,ae,af,ag,ah,ai,aj,ak,al,am,an,ao,ap,aq,ar,au) =>some (a7,a8,a9,aa,ab,ac,ad,ae,af,ag,ah,ai,aj,ak,al,am,an,ao,ap,aq,ar,au)
     |_=>none)) k (o,q,r,s,6,x,so,sc,ss,sl,sr,(st++[(SetE.mk x9 (O0 m))]),sh,wk,vk,vn,vs,wn,wl,sd,se,sm))
theorem Azy(k:Nat):FM 79 M8 N0 (M9 k):=fRL (px:=Ag6 _ k) (n:=0) Tryz.func79 rfl (λcx H=>by have h2:Lv cx (Qh (Mo) k):=lv H (l1 H Gj (l1 H Ei (l1 H Ata Ae))) Aa Ab;have h1:Lv cx (W8 (Mo) k):=lv H (l1 H Dr (Al (cR H h2 Tryz.func117 rfl (n:=0) (Ag)) Ae)) Aa Ab;have hlpupdate_0:=lO H h1 (b:=lp Tryz.f76 0) (k:=k) (n:=0) (s:=Z9) (step:=Abm) (λ_ _ _ (_,_,_,_,_,_,_,_,_,_,_,_,_,_,_,_,_,_,_,_,_,_)=>by kernel_rfl) Ag;have h0:Lv cx (Ag6 (Mo) k):=lv H (l1 H Ei (l1 H Abv (Al (cR H h1 Tryz.func76 rfl (n:=1) ((A5 Ag hlpupdate_0))) Ae))) Aa (w1 H Gj Ab);exact⟨h0,Ag⟩) λ(_,_,_,_,_,_,_,_,_,_,_,_,_,_,_,_,_,_,_,_,_,_)=>by kernel_rfl
def Abk:Aow->Option Mo:=λx=>M9 ((x.1.length+3)) x
theorem A3w:FM 79 M8 N0 (Abk):=FnLn.fin (ι:=Nat) (sg:=M8) (so:=N0) 0 (F:=λk=>M9 k) (λk=>Azy k) λx _ _ hx=>⟨(x.1.length+3),hx⟩
def Kg:Sig:=⟨2,[],[(0,.ptr 0 0),(1,.ptr 1 0)],[(0,.cells [.sl .tok false,.int .i64,.bool,.int .i64]),(1,.cells [.int .i64,.str,.str,.sl .col true,.sl .str false,.sl .expr true,.sl .exprs true,.sl .set true,.bool,.int .i64,.int .i64,.int .i64,.str,.str,.sl .expr false,.sl .str true,.sl .bool true,.int .i64])],2,2,0,[],[]⟩
def Kk:Sig:=⟨0,[],[],[(0,.cells [.sl .tok false,.int .i64,.bool,.int .i64]),(1,.cells [.int .i64,.str,.str,.sl .col true,.sl .str false,.sl .expr true,.sl .exprs true,.sl .set true,.bool,.int .i64,.int .i64,.int .i64,.str,.str,.sl .expr false,.sl .str true,.sl .bool true,.int .i64])],2,2,0,[],[]⟩
abbrev Al8:=List Tok×Int×Bool×Int×Int×Str×Str×List Col×List Str×List Xpr×List (List Xpr)×List SetE×Bool×Int×Int×Int×Str×Str×List Xpr×List Str×List Bool×Int
abbrev Jl:=List Tok×Int×Bool×Int×Int×Str×Str×List Col×List Str×List Xpr×List (List Xpr)×List SetE×Bool×Int×Int×Int×Str×Str×List Xpr×List Str×List Bool×Int
def T9:Sig:=⟨19,[],[(0,.ptr 0 0),(1,.fn 118 [.ptr 3 0,.ptr 2 0])],[(0,.cells [.sl .tok false,.int .i64,.bool,.int .i64]),(1,.cells [.int .i64,.str,.str,.sl .col true,.sl .str false,.sl .expr true,.sl .exprs true,.sl .set true,.bool,.int .i64,.int .i64,.int .i64,.str,.str,.sl .expr false,.sl .str true,.sl .bool true,.int .i64]),(2,.fx [.ptr 0 0]),(3,.fx [.ptr 1 0])],80,80,400,[],[]⟩
abbrev Ny:=List Tok×Int×Bool×Int×Int×Str×Str×List Col×List Str×List Xpr×List (List Xpr)×List SetE×Bool×Int×Int×Int×Str×Str×List Xpr×List Str×List Bool×Int
def Wi{R:Type}(rec:Ny->Option R)(kx:Ex->Ny->Option R)(v:Ny):Option R:=match v with
 |(w,w1,w2,w3,w4,w5,w6,w7,w8,w9,c,d,e,f,g,h,i,j,k,b,a,l) =>
 cond (!w2) (
  (A3 ([44],w,w1,w2,w3)).bind λ(a2,y,z,a0,a1) =>
  cond (a2) (
   (Bo (y,z,a0,a1)).bind λ(m,q,r,n,s) =>
   chk (decide (b.length+1<=Ai)) (
    cond (!n) (
    (A3 ([68,69,83,67],q,r,n,s)).bind λ(o,t,u,p,x) =>
     cond (!p) (
     cond (!o) (
      (A3 ([65,83,67],t,u,p,x)).bind λ(_,a3,a4,a5,a6) =>
      chk (decide (a.length+1<=Ai)) (
       rec (a3,a4,a5,a6,w4,w5,w6,w7,w8,w9,c,d,e,f,g,h,i,j,k,(b++[m]),(a++[o]),l))) (
      chk (decide (a.length+1<=Ai)) (
      rec (t,u,p,x,w4,w5,w6,w7,w8,w9,c,d,e,f,g,h,i,j,k,(b++[m]),(a++[o]),l)))) (
     chk (decide (a.length+1<=Ai)) (
      rec (t,u,p,x,w4,w5,w6,w7,w8,w9,c,d,e,f,g,h,i,j,k,(b++[m]),(a++[o]),l)))) (
    cond (!n) (
     (A3 ([65,83,67],q,r,n,s)).bind λ(_,a7,a8,a9,aa) =>
     chk (decide (a.length+1<=Ai)) (
      rec (a7,a8,a9,aa,w4,w5,w6,w7,w8,w9,c,d,e,f,g,h,i,j,k,(b++[m]),(a++[false]),l))) (
     chk (decide (a.length+1<=Ai)) (
     rec (q,r,n,s,w4,w5,w6,w7,w8,w9,c,d,e,f,g,h,i,j,k,(b++[m]),(a++[false]),l)))))) (
   kx (.exit 0) (y,z,a0,a1,w4,w5,w6,w7,w8,w9,c,d,e,f,g,h,i,j,k,b,a,l))) (
  kx (.exit 0) (w,w1,w2,w3,w4,w5,w6,w7,w8,w9,c,d,e,f,g,h,i,j,k,b,a,l))
def Oz(R:Type)(_k:Nat):Px R:=pxO [(72,Aj Df De A3)] [] [] [(75,Cv Ed Ee Bo)]
noncomputable def T7(R:Type)(k:Nat):Px R:=pxO [(72,Aj Df De A3),(118,Aq 120 600 (Oz R k) Tryz.f118)] [] [(1,Am k T9 (Wi))] []
noncomputable def Adp(R:Type)(k:Nat):Px R:=pxO [(72,Aj Df De A3),(74,Aj Dm Dj A4),(80,Aj Mf Mw Jh),(111,Aj Hk Hv Eo),(82,Aj F2 F6 Dv),(76,Aq 80 400 (T7 R k) Tryz.f76)] [] [] [(78,Cv Mm Ll Mb),(75,Cv Ed Ee Bo),(112,Cv Jm Jg Dc)]
def K5(k:Nat)(x:Al8):Option (Jl):=match x with
 |(l,n,b,p,_,_,so,sc,ss,sl,sr,st,sh,wk,vk,vn,vs,wn,wl,sd,se,_) =>
 let j3:=λ(q:List Tok) (q1:Int) (q2:Bool) (q3:Int) (q4:List Xpr) =>
  (A4 ([[70,82,79,77]],q,q1,q2,q3)).bind λ(bd,be,bf,bg) =>
  (Bo (bd,be,bf,bg)).bind λ(bh,bi,bj,bk,bl) =>
   (Jh (bi,bj,bk,bl,8,bh,so,sc,ss,q4,sr,st,sh,wk,vk,vn,vs,wn,wl,sd,se,(-1))).bind λ(au,av,a4,aw,a5,a6,a7,a8,a9,aa,ab,ac,ad,ae,af,ag,ah,ai,aj,d,a,ak) =>
   let j2:=λ(ax:List Tok) (ay:Int) (al:Bool) (az:Int) (f:Int) (g:Str) (h:Str) (i:List Col) (j:List Str) (m:List Xpr) (o:List (List Xpr)) (r:List SetE) (s:Bool) (t:Int) (u:Int) (v:Int) (w:Str) (y:Str) (z:List Xpr) (a0:List Str) (a1:List Bool) (b0:Int) =>
    cond (!al) (
    (A3 ([76,73,77,73,84],ax,ay,al,az)).bind λ(bm,b1,b2,b3,b4) =>
     cond (bm) (
     (Eo (b1,b2,b3,b4)).bind λ(bn,b5,b6,b7,b8) =>
      cond (!decide (bn.kind=3)) (
      (Dv (b5,b6,b7,b8)).bind λ(bo,bp,bq,br) =>
       (Dc (bo,bp,bq,br)).bind λ(bs,bt,bu,bv,bw) =>
       some (bt,bu,bv,bw,f,g,h,i,j,m,o,r,s,t,u,v,w,y,z,a0,a1,bs.n)) (
      (Dc (b5,b6,b7,b8)).bind λ(bx,bz,c0,c1,c2) =>some (bz,c0,c1,c2,f,g,h,i,j,m,o,r,s,t,u,v,w,y,z,a0,a1,bx.n))) (
     some (b1,b2,b3,b4,f,g,h,i,j,m,o,r,s,t,u,v,w,y,z,a0,a1,b0))) (
    some (ax,ay,al,az,f,g,h,i,j,m,o,r,s,t,u,v,w,y,z,a0,a1,b0))
   cond (!a4) (
    (A3 ([79,82,68,69,82],au,av,a4,aw)).bind λ(c3,b9,ba,bb,bc) =>
    cond (c3) (
     (A4 ([[66,89]],b9,ba,bb,bc)).bind λ(c4,c5,c6,c7) =>
     (Bo (c4,c5,c6,c7)).bind λ(c8,am,an,c,ao) =>
      let j1:=λ(c9:List Tok) (ca:Int) (cb:Bool) (cc:Int) (cd:List Bool) =>
      Ak (λrec=>Wi rec (λe vz=>match vz with|(ce,cf,cg,ch,ci,cj,ck,cl,cm,cn,co,cp,cq,cr,cs,ct,cu,cv,cw,cx,cy,cz)=>match e with
       |.exit 0 =>
       j2 ce cf cg ch ci cj ck cl cm cn co cp cq cr cs ct cu cv cw cx cy cz
       |_=>none)) k (c9,ca,cb,cc,a5,a6,a7,a8,a9,aa,ab,ac,ad,ae,af,ag,ah,ai,aj,(d++[c8]),cd,ak)
      chk (decide (d.length+1<=Ai)) (
      cond (!c) (
       (A3 ([68,69,83,67],am,an,c,ao)).bind λ(a2,ap,aq,a3,ar) =>
       cond (!a3) (
        cond (!a2) (
        (A3 ([65,83,67],ap,aq,a3,ar)).bind λ(_,d0,d1,d2,d3) =>
         chk (decide (a.length+1<=Ai)) (
         j1 d0 d1 d2 d3 (a++[a2]))) (
        chk (decide (a.length+1<=Ai)) (
         j1 ap aq a3 ar (a++[a2])))) (
        chk (decide (a.length+1<=Ai)) (
        j1 ap aq a3 ar (a++[a2])))) (
       cond (!c) (
       (A3 ([65,83,67],am,an,c,ao)).bind λ(_,d4,d5,d6,d7) =>
        chk (decide (a.length+1<=Ai)) (
        j1 d4 d5 d6 d7 (a++[false]))) (
       chk (decide (a.length+1<=Ai)) (
        j1 am an c ao (a++[false])))))) (
     j2 b9 ba bb bc a5 a6 a7 a8 a9 aa ab ac ad ae af ag ah ai aj d a ak)) (
    j2 au av a4 aw a5 a6 a7 a8 a9 aa ab ac ad ae af ag ah ai aj d a ak)
 (A3 ([42],l,n,b,p)).bind λ(x,x1,x2,x3,x4) =>
  cond (!x) (
  (Mb (x1,x2,x3,x4)).bind λ(x5,x6,x7,x8,x9) =>j3 x6 x7 x8 x9 x5) (
  j3 x1 x2 x3 x4 sl)
theorem Aup(k:Nat):FM 81 Kg Kk (K5 k):=fRL (px:=Adp _ k) (n:=0) Tryz.func81 rfl (λcx H=>by have h2:Lv cx (Oz (Jl) k):=lv H (l1 H Dr Ae) Aa (w1 H Gj Ab);have h1:Lv cx (T7 (Jl) k):=lv H (l1 H Dr (Al (cR H h2 Tryz.func118 rfl (n:=0) (Ag)) Ae)) Aa Ab;have hlpselects_0:=lO H h1 (b:=lp Tryz.f76 0) (k:=k) (n:=0) (s:=T9) (step:=Wi) (λ_ _ _ (_,_,_,_,_,_,_,_,_,_,_,_,_,_,_,_,_,_,_,_,_,_)=>by kernel_rfl) Ag;have h0:Lv cx (Adp (Jl) k):=lv H (l1 H Dr (l1 H Ei (l1 H Abv (l1 H L1 (l1 H Iu (Al (cR H h1 Tryz.func76 rfl (n:=1) ((A5 Ag hlpselects_0))) Ae)))))) Aa (w1 H Apz (w1 H Gj (w1 H Qo Ab)));exact⟨h0,Ag⟩) λ(_,_,_,_,_,_,_,_,_,_,_,_,_,_,_,_,_,_,_,_,_,_)=>by kernel_rfl
def Uu:Al8->Option Jl:=λx=>K5 ((x.1.length+3)) x
theorem Ayw:FM 81 Kg Kk (Uu):=FnLn.fin (ι:=Nat) (sg:=Kg) (so:=Kk) 0 (F:=λk=>K5 k) (λk=>Aup k) λx _ _ hx=>⟨(x.1.length+3),hx⟩
def Aau:Sig:=⟨1,[],[(0,.ptr 0 0)],[(0,.cells [.sl .tok false,.int .i64,.bool,.int .i64])],1,1,0,[],[]⟩
def Yr:Sig:=⟨1,[(0,.sv .stmt)],[],[(0,.cells [.sl .tok false,.int .i64,.bool,.int .i64])],1,1,0,[],[]⟩
abbrev A6v:=List Tok×Int×Bool×Int
abbrev Z2:=Stm×List Tok×Int×Bool×Int
def Aig:Sig:=⟨19,[],[(0,.ptr 0 0),(1,.fn 77 [.ptr 1 0,.ptr 3 0])],[(0,.cells [.sl .tok false,.int .i64,.bool,.int .i64]),(1,.fx [.ptr 0 0]),(2,.one (.sv .stmt)),(3,.cells [.int .i64,.str,.str,.sl .col true,.sl .str true,.sl .expr true,.sl .exprs true,.sl .set true,.bool,.int .i64,.int .i64,.int .i64,.str,.str,.sl .expr true,.sl .str true,.sl .bool true,.int .i64])],80,80,400,[],[]⟩
abbrev Abe:=List Tok×Int×Bool×Int×Stm×Int×Str×Str×List Col×List Str×List Xpr×List (List Xpr)×List SetE×Bool×Int×Int×Int×Str×Str×List Xpr×List Str×List Bool×Int
def Aux{R:Type}(rec:Abe->Option R)(kx:Ex->Abe->Option R)(v:Abe):Option R:=match v with
 |(w,w1,w2,w3,w4,w5,w6,w7,w8,w9,b,a,c,d,e,f,g,h,i,j,k,l,m) =>
 cond (!w2) (
  (A3 ([44],w,w1,w2,w3)).bind λ(r,n,o,p,q) =>
  cond (r) (
   (A4 ([[40]],n,o,p,q)).bind λ(s,t,u,x) =>
   (Mb (s,t,u,x)).bind λ(y,z,a0,a1,a2) =>
    chk (decide (a.length+1<=Ai)) (
    (A4 ([[41]],z,a0,a1,a2)).bind λ(a3,a4,a5,a6) =>rec (a3,a4,a5,a6,w4,w5,w6,w7,w8,w9,b,(a++[y]),c,d,e,f,g,h,i,j,k,l,m))) (
   kx (.exit 0) (n,o,p,q,w4,w5,w6,w7,w8,w9,b,a,c,d,e,f,g,h,i,j,k,l,m))) (
  kx (.exit 0) (w,w1,w2,w3,w4,w5,w6,w7,w8,w9,b,a,c,d,e,f,g,h,i,j,k,l,m))
def Zy(R:Type)(_k:Nat):Px R:=pxO [(74,Aj Dm Dj A4)] [] [] [(78,Cv Mm Ll Mb)]
noncomputable def Alw(R:Type)(k:Nat):Px R:=pxO [(72,Aj Df De A3),(77,Aq 120 600 (Zy R k) Tryz.f77)] [] [(1,Am k Aig (Aux))] []
noncomputable def Awv(R:Type)(k:Nat):Px R:=pxO [(72,Aj Df De A3),(73,Aj Ux U7 Ab1),(74,Aj Dm Dj A4),(75,Aj Ed Ee Bo),(79,Aj M8 N0 Abk),(80,Aj Mf Mw Jh),(81,Aj Kg Kk Uu),(82,Aj F2 F6 Dv),(76,Aq 80 400 (Alw R k) Tryz.f76)] [] [] []
def V2(k:Nat)(x:A6v):Option (Z2):=match x with
 |(l,n,b,p) =>
 (A3 ([67,82,69,65,84,69],l,n,b,p)).bind λ(x,x1,x2,x3,x4) =>
  cond (x) (
  (Ab1 (x1,x2,x3,x4,0,[],[],[],[],[],[],[],false,0,0,0,[],[],[],[],[],0)).bind λ(x5,x6,x7,x8,x9,i,j,m,o,q,r,s,t,u,w,y,z,a0,a1,a2,a3,a4) =>
   cond (!x7) (
   (A3 ([59],x5,x6,x7,x8)).bind λ(_,db,dc,dd,de) =>some ((Stm.mk x9 i j m o q r s t (Xpr.mk u ⟨w,y,z⟩ a0 a1) a2 a3 a4),db,dc,dd,de)) (
   some ((Stm.mk x9 i j m o q r s t (Xpr.mk u ⟨w,y,z⟩ a0 a1) a2 a3 a4),x5,x6,x7,x8))) (
  (A3 ([68,82,79,80],x1,x2,x3,x4)).bind λ(df,a5,a6,a7,a8) =>
   cond (df) (
   (A3 ([84,65,66,76,69],a5,a6,a7,a8)).bind λ(dg,a9,aa,ab,ac) =>
    cond (!dg) (
    (A4 ([[73,78,68,69,88]],a9,aa,ab,ac)).bind λ(dh,di,dj,dk) =>
     (Bo (dh,di,dj,dk)).bind λ(ad,ae,af,a,ag) =>
     cond (!a) (
      (A3 ([59],ae,af,a,ag)).bind λ(_,dl,dm,dn,dp) =>
      some ((Stm.mk 4 ad [] [] [] [] [] [] false (Xpr.mk 0 ⟨0,0,[]⟩ [] []) [] [] 0),dl,dm,dn,dp)) (
      some ((Stm.mk 4 ad [] [] [] [] [] [] false (Xpr.mk 0 ⟨0,0,[]⟩ [] []) [] [] 0),ae,af,a,ag))) (
    (Bo (a9,aa,ab,ac)).bind λ(ah,ai,aj,c,ak) =>
     cond (!c) (
     (A3 ([59],ai,aj,c,ak)).bind λ(_,dq,dr,ds,dt) =>some ((Stm.mk 2 ah [] [] [] [] [] [] false (Xpr.mk 0 ⟨0,0,[]⟩ [] []) [] [] 0),dq,dr,ds,dt)) (
     some ((Stm.mk 2 ah [] [] [] [] [] [] false (Xpr.mk 0 ⟨0,0,[]⟩ [] []) [] [] 0),ai,aj,c,ak)))) (
   (A3 ([73,78,83,69,82,84],a5,a6,a7,a8)).bind λ(du,al,am,an,ao) =>
    cond (du) (
    (A4 ([[73,78,84,79]],al,am,an,ao)).bind λ(dv,dw,dx,dy) =>
     (Bo (dv,dw,dx,dy)).bind λ(dz,e0,e1,e2,e3) =>
     (A4 ([[86,65,76,85,69,83]],e0,e1,e2,e3)).bind λ(e4,e5,e6,e7) =>
      (A4 ([[40]],e4,e5,e6,e7)).bind λ(e8,e9,ea,eb) =>
      (Mb (e8,e9,ea,eb)).bind λ(ec,ed,ee,ef,eg) =>
       (A4 ([[41]],ed,ee,ef,eg)).bind λ(eh,ei,ej,ek) =>
       Ak (λrec=>Aux rec (λe vz=>match vz with|(v,v1,v2,v3,_,v5,v6,v7,v8,v9,ap,aq,ar,au,av,aw,ax,ay,az,b0,b1,b2,b3)=>match e with
        |.exit 0 =>
        cond (!v2) (
         (A3 ([59],v,v1,v2,v3)).bind λ(_,el,em,en,eo) =>
         some ((Stm.mk v5 v6 v7 v8 v9 ap aq ar au (Xpr.mk av ⟨aw,ax,ay⟩ az b0) b1 b2 b3),el,em,en,eo)) (
         some ((Stm.mk v5 v6 v7 v8 v9 ap aq ar au (Xpr.mk av ⟨aw,ax,ay⟩ az b0) b1 b2 b3),v,v1,v2,v3))
        |_=>none)) k (eh,ei,ej,ek,(Stm.mk 0 [] [] [] [] [] [] [] false (Xpr.mk 0 ⟨0,0,[]⟩ [] []) [] [] 0),5,dz,[],[],[],[],[ec],[],false,0,0,0,[],[],[],[],[],0)) (
    (A3 ([85,80,68,65,84,69],al,am,an,ao)).bind λ(ep,b4,b5,b6,b7) =>
     cond (ep) (
     (Abk (b4,b5,b6,b7,0,[],[],[],[],[],[],[],false,0,0,0,[],[],[],[],[],0)).bind λ(b8,b9,d,ba,bb,bc,bd,be,bf,bg,bh,bi,bj,bk,bl,bm,bn,bo,bp,bq,br,bs) =>
      cond (!d) (
      (A3 ([59],b8,b9,d,ba)).bind λ(_,er,es,et,eu) =>some ((Stm.mk bb bc bd be bf bg bh bi bj (Xpr.mk bk ⟨bl,bm,bn⟩ bo bp) bq br bs),er,es,et,eu)) (
      some ((Stm.mk bb bc bd be bf bg bh bi bj (Xpr.mk bk ⟨bl,bm,bn⟩ bo bp) bq br bs),b8,b9,d,ba))) (
     (A3 ([68,69,76,69,84,69],b4,b5,b6,b7)).bind λ(ev,bt,bu,bv,bw) =>
      cond (ev) (
      (A4 ([[70,82,79,77]],bt,bu,bv,bw)).bind λ(ew,ex,ey,ez) =>
       (Bo (ew,ex,ey,ez)).bind λ(f0,f1,f2,f3,f4) =>
       (Jh (f1,f2,f3,f4,7,f0,[],[],[],[],[],[],false,0,0,0,[],[],[],[],[],0)).bind λ(bx,bz,f,c0,c1,c2,c3,c4,c5,c6,c7,c8,c9,ca,cb,cc,cd,ce,cf,cg,ch,ci) =>
        cond (!f) (
        (A3 ([59],bx,bz,f,c0)).bind λ(_,f5,f6,f7,f8) =>some ((Stm.mk c1 c2 c3 c4 c5 c6 c7 c8 c9 (Xpr.mk ca ⟨cb,cc,cd⟩ ce cf) cg ch ci),f5,f6,f7,f8)) (
        some ((Stm.mk c1 c2 c3 c4 c5 c6 c7 c8 c9 (Xpr.mk ca ⟨cb,cc,cd⟩ ce cf) cg ch ci),bx,bz,f,c0))) (
      (A3 ([83,69,76,69,67,84],bt,bu,bv,bw)).bind λ(f9,cj,ck,cl,cm) =>
       cond (f9) (
       (Uu (cj,ck,cl,cm,0,[],[],[],[],[],[],[],false,0,0,0,[],[],[],[],[],0)).bind λ(cn,co,g,cp,cq,cr,cs,ct,cu,cv,cw,cx,cy,cz,d0,d1,d2,d3,d4,d5,d6,d7) =>
        cond (!g) (
        (A3 ([59],cn,co,g,cp)).bind λ(_,fa,fb,fc,fd) =>some ((Stm.mk cq cr cs ct cu cv cw cx cy (Xpr.mk cz ⟨d0,d1,d2⟩ d3 d4) d5 d6 d7),fa,fb,fc,fd)) (
        some ((Stm.mk cq cr cs ct cu cv cw cx cy (Xpr.mk cz ⟨d0,d1,d2⟩ d3 d4) d5 d6 d7),cn,co,g,cp))) (
       (Dv (cj,ck,cl,cm)).bind λ(d8,d9,h,da) =>
        cond (!h) (
        (A3 ([59],d8,d9,h,da)).bind λ(_,fe,ff,fg,fh) =>some ((Stm.mk 0 [] [] [] [] [] [] [] false (Xpr.mk 0 ⟨0,0,[]⟩ [] []) [] [] 0),fe,ff,fg,fh)) (
        some ((Stm.mk 0 [] [] [] [] [] [] [] false (Xpr.mk 0 ⟨0,0,[]⟩ [] []) [] [] 0),d8,d9,h,da))))))))
theorem Bbs(k:Nat):FM 55 Aau Yr (V2 k):=fRL (px:=Awv _ k) (n:=0) Tryz.func55 rfl (λcx H=>by have h2:Lv cx (Zy (Z2) k):=lv H (l1 H Ei Ae) Aa (w1 H Apz Ab);have h1:Lv cx (Alw (Z2) k):=lv H (l1 H Dr (Al (cR H h2 Tryz.func77 rfl (n:=0) (Ag)) Ae)) Aa Ab;have hlpstmt_0:=lO H h1 (b:=lp Tryz.f76 0) (k:=k) (n:=0) (s:=Aig) (step:=Aux) (λ_ _ _ (_,_,_,_,_,_,_,_,_,_,_,_,_,_,_,_,_,_,_,_,_,_,_)=>by kernel_rfl) Ag;have h0:Lv cx (Awv (Z2) k):=lv H (l1 H Dr (l1 H A3l (l1 H Ei (l1 H Gj (l1 H A3w (l1 H Abv (l1 H Ayw (l1 H Iu (Al (cR H h1 Tryz.func76 rfl (n:=1) ((A5 Ag hlpstmt_0))) Ae))))))))) Aa Ab;exact⟨h0,Ag⟩) λ(_,_,_,_)=>by kernel_rfl
def Ase:A6v->Option Z2:=λx=>V2 ((x.1.length+3)) x
theorem Bj2:FM 55 Aau Yr (Ase):=FnLn.fin (ι:=Nat) (sg:=Aau) (so:=Yr) 0 (F:=λk=>V2 k) (λk=>Bbs k) λx _ _ hx=>⟨(x.1.length+3),hx⟩
def Alm:Sig:=⟨1,[],[(0,.ptr 0 0)],[(0,.cells [.sl .tok false,.int .i64,.bool,.int .i64])],1,1,0,[],[]⟩
def Aj4:Sig:=⟨1,[(0,.bool)],[],[(0,.cells [.sl .tok false,.int .i64,.bool,.int .i64])],1,1,0,[],[]⟩
abbrev A7c:=List Tok×Int×Bool×Int
abbrev A6i:=Bool×List Tok×Int×Bool×Int
def Bjd(R:Type):Px R:=pxO [(82,Aj F2 F6 Dv)] [] [] []
def Ai4(x:A7c):Option (A6i):=match x with
 |(l,n,b,p) =>
 cond (decide (0<(l.length:Int))) (
  (Dv (l,n,b,p)).bind λ(x,x1,x2,x3) =>
  some (!x2,x,x1,x2,x3)) (
  some (!b,l,n,b,p))
theorem Baj:FM 56 Alm Aj4 (Ai4):=fRL (px:=Bjd _) (n:=0) Tryz.func56 rfl (λ_ H=>⟨lv H (l1 H Iu Ae) Aa Ab,Ag⟩) λ(_,_,_,_)=>by kernel_rfl
def As5:A7c->Option A6i:=λx=>Ai4 x
theorem Bk8:FM 56 Alm Aj4 (As5):=Baj
open Go.RowKit
def Axb:List Nat:=[350,352]
abbrev Btj:TypeId:=350
theorem A8x:(Tryz.prog.info? Btj).map (·.size)=some 2:=by kernel_rfl
theorem Bm2(T:TypeId)(h:T∈Axb):liesAt Tryz.prog Tryz.prog.depth T (2 / Tryz.prog.cellsOf T) 0 Btj 1=true:=by simp[Axb] at h;rcases h with rfl|rfl<;>kernel_rfl
set_option maxRecDepth 100000 in
theorem Bnc(b:Nat)(w:World)(h0:w.cell? ⟨b,0,none⟩=some (.pointer (some ⟨b,0,none⟩))) :
  Calls Tryz.prog 356 #[.pointer (some ⟨b,0,none⟩)] w λe w'=>e = .returned (.tuple #[])/\w' = w:=by
 obtain⟨j,hj,_⟩:=Option.map_eq_some_iff.1 A8x;have mixed:=follows;have t1:=Tryz.underlying348;have u1:=run_underlying (P:=Tryz.prog) t1;have u2:=run_underlying (P:=Tryz.prog) Tryz.underlying12
 go_enter Tryz.func356,Tryz.ntmps356
 go_wp2
 rw[Lib.run_neq_ptr_same w _ t1 hj]
 go_wp2
 go_end0
 exact⟨rfl,rfl⟩
set_option maxRecDepth 100000 in
theorem Bi0(b:Nat)(T:TypeId)(hT:T∈Axb)(w:World)(h0:w.cell? ⟨b,0,none⟩=some (.pointer none))(hsh:w.shape? b=some (T,2))(hfz:w.frozen? ⟨b,0,none⟩=false) :
  Calls Tryz.prog 356 #[.pointer (some ⟨b,0,none⟩)] w λe w'=>e = .returned (.tuple #[])/\w' = w.setCell ⟨b,0,none⟩ (.pointer (some ⟨b,0,none⟩)):=by
 obtain⟨j,hj,hjs⟩:=Option.map_eq_some_iff.1 A8x;have mixed:=follows;have t1:=Tryz.underlying348;have t3:=Tryz.underlying433;have u1:=run_underlying (P:=Tryz.prog) t1;have u2:=run_underlying (P:=Tryz.prog) Tryz.underlying12;have u3:=run_underlying (P:=Tryz.prog) t3
 go_enter Tryz.func356,Tryz.ntmps356
 go_wp2
 rw[Lib.run_to_unsafe w ⟨b,0,none⟩ t1 t3 hj (by rw[hjs];decide) hsh (Nat.zero_lt_succ 1)];simp;rw[Oper.upon_value]
 go_wp2
 rw[run_callFunc_extern Tryz.func382 (by kernel_rfl) (by kernel_rfl) (by kernel_rfl) (e:=Extern.AbiNoEscape.same) (by kernel_rfl)];rw[Lib.run_noEscape];simp;rw[Oper.upon_value]
 go_wp2
 rw[Lib.run_from_unsafe w ⟨b,0,none⟩ t3 t1 hj hsh (Bm2 T hT)];simp;rw[Oper.upon_value]
 go_wp2
 go_end0
 exact⟨rfl,rfl⟩
theorem Bb9:Sx.Enters Tryz.prog 356:=Sx.enters_of Tryz.func356 rfl (by kernel_rfl)
theorem Btq:∀T,T∈Axb->∀(b:Nat) (w:World) (a v:Value),w.heap[b]? = some (.cells #[a,v] T (0,0))->(a = .pointer none\/a = .pointer (some ⟨b,0,none⟩))->Calls Tryz.prog 356 #[.pointer (some ⟨b,0,none⟩)] w λe w'=>e = .returned (.tuple #[])/\(w' = w\/w' = w.setCell ⟨b,0,none⟩ (.pointer (some ⟨b,0,none⟩))):=by
 intro T hT b w a v hh ha;have c0:w.cell? ⟨b,0,none⟩=some a:=by simp[World.cell?,hh]
 rcases ha with rfl|rfl
 ·refine(Bi0 b T hT w c0 (by simp[World.shape?,hh]) (by simp[World.frozen?,hh])).mono ?_;rintro e w' ⟨rfl,rfl⟩;exact⟨rfl,.inr rfl⟩
 ·refine(Bnc b w c0).mono ?_;rintro e w' ⟨rfl,rfl⟩;exact⟨rfl,.inl rfl⟩
theorem A4j(w:World)(g n k:Nat):Chg (λb i=>b=g/\k<=i) w (w.freeze ⟨g,0,none⟩ n):=by
 unfold World.freeze;split
 ·exact Chg.refl _ _
 ·have hne:∀(q:Nat),q≠g->∀F:Obj->Obj,(w.heap.modify g F)[q]? = w.heap[q]? :=λq hq F=>by rw[Array.getElem?_modify,if_neg (Ne.symm hq)]
  refine⟨rfl,rfl,rfl,by simp,λq _ hq2=>hne q (λe=>hq2 k ⟨e,Zn1 _⟩) _,λb i v hv _ =>?_,λb cs t f hb =>?_⟩
  ·by_cases hbg:b=g
   ·subst hbg;unfold World.cell? at hv ⊢;simp at hv ⊢;cases hh:w.heap[b]? with|none=>rw[hh] at hv;cases hv|some o=>grind
   ·rw[World.cell?_of_block (a:=⟨b,i,none⟩) (hne b hbg _)];exact hv
  ·grind
theorem cellsByte:Tryz.prog.cellsOf 5=1:=by kernel_rfl
set_option maxHeartbeats 2000000 in
set_option maxRecDepth 100000 in
theorem Ayo(b g cap n:Nat)(w:World)(s:ByteArray)(hcap:cap≠0)(hc:w.cell? ⟨b,1,none⟩=some (.slice (some ⟨g,0,none⟩) n cap))(hUS:(Builtin.unsafeString_ #[389,3] 9 #[.pointer (some ⟨g,0,none⟩),.int .i64 n]).run Tryz.prog w.drew = .ok (.string s) (w.drew.freeze ⟨g,0,none⟩ n)) :
  Calls Tryz.prog 297 #[.pointer (some ⟨b,0,none⟩)] w λe w'=>e = .returned (.string s)/\w' = w.drew.freeze ⟨g,0,none⟩ n:=by
 have c1:w.drew.cell? ⟨b,1,none⟩=some (.slice (some ⟨g,0,none⟩) n cap):=hc;have hSD:(Builtin.unsafeSliceData_ #[25] 389 #[.slice (some ⟨g,0,none⟩) n cap]).run Tryz.prog w.drew = .ok (.pointer (some ⟨g,0,none⟩)) w.drew:=Lib.run_unsafeSliceData_row _ _ _ _ _ _ hcap;clear hcap;have mixed:=follows;have t1:=Tryz.underlying348;have t3:=Tryz.underlying25;have t5:=Tryz.underlying3;have u1:=run_underlying (P:=Tryz.prog) t1;have u2:=run_underlying (P:=Tryz.prog) Tryz.underlying12;have u3:=run_underlying (P:=Tryz.prog) t3;have u4:=run_underlying (P:=Tryz.prog) Tryz.underlying203;have u5:=run_underlying (P:=Tryz.prog) t5;have u6:=run_underlying (P:=Tryz.prog) Tryz.underlying9
 go_enter Tryz.func297,Tryz.ntmps297
 go_wp2
 go_region_o
 all_goals (go_wp2;go_ret;exact⟨rfl,rfl⟩)
theorem As9(W:World)(q:Option Addr):(Builtin.unsafeString_ #[389,3] 9 #[.pointer q,.int .i64 0]).run Tryz.prog W = .ok (.string .empty) W:=Lib.run_unsafeString_none W _ _ _ q
set_option maxHeartbeats 2000000 in
set_option maxRecDepth 100000 in
theorem Bn8(b:Nat)(w:World)(hc:w.cell? ⟨b,1,none⟩=some (.slice none 0 0)) :
  Calls Tryz.prog 297 #[.pointer (some ⟨b,0,none⟩)] w λe w'=>e = .returned (.string ⟨#[]⟩)/\w' = w.drew:=by
 have hUS:=As9;have c1:w.drew.cell? ⟨b,1,none⟩=some (.slice none 0 0):=hc;have hSD:(Builtin.unsafeSliceData_ #[25] 389 #[.slice none 0 0]).run Tryz.prog w.drew = .ok (.pointer none) w.drew:=rfl;have mixed:=follows;have t2:=Tryz.underlying350;have t4:=Tryz.underlying389;have t6:=Tryz.underlying9;have u1:=run_underlying (P:=Tryz.prog) Tryz.underlying108;have u2:=run_underlying (P:=Tryz.prog) t2;have u3:=run_underlying (P:=Tryz.prog) Tryz.underlying28;have u4:=run_underlying (P:=Tryz.prog) t4;have u5:=run_underlying (P:=Tryz.prog) Tryz.underlying3;have u6:=run_underlying (P:=Tryz.prog) t6
 go_enter Tryz.func297,Tryz.ntmps297
 go_wp2
 go_region_o
 all_goals (go_wp2;go_ret;exact⟨rfl,rfl⟩)
set_option maxHeartbeats 2000000 in
set_option maxRecDepth 100000 in
theorem A20(b g:Nat)(w:World)(cur:Array Value)(hlt:b<w.heap.size)(hc:w.cell? ⟨b,1,none⟩=some (.slice (some ⟨g,0,none⟩) 0 0))(hg:w.heap[g]? = some (.cells cur 5 (0,0))) :
  Calls Tryz.prog 297 #[.pointer (some ⟨b,0,none⟩)] w λe w'=>e = .returned (.string ⟨#[]⟩)/\Chg Cf w w':=by
 have hUS:=As9;have c1:w.drew.cell? ⟨b,1,none⟩=some (.slice (some ⟨g,0,none⟩) 0 0):=hc;have t4:=Tryz.underlying389;have hSD:(Builtin.unsafeSliceData_ #[25] 389 #[.slice (some ⟨g,0,none⟩) 0 0]).run Tryz.prog w.drew = .ok (.pointer (some ⟨w.drew.heap.size,0,none⟩)) (w.drew.alloc (.view ⟨g,0,none⟩ 5)) :=Lib.run_unsafeSliceData_zero w.drew _ _ 5 t4 ⟨g,0,none⟩ 0 (5,cur.size) (by have hg':w.drew.heap[g]? = some (.cells cur 5 (0,0)):=hg;simp[World.shape?,hg'])
 have c2:(w.drew.alloc (.view ⟨g,0,none⟩ 5)).cell? ⟨b,1,none⟩=some (.slice (some ⟨g,0,none⟩) 0 0):=by rw[World.cell?_of_block (a:=⟨b,1,none⟩) (Below.heap_alloc w.drew _ _ hlt)];exact c1
 have c3:(w.alloc (.view ⟨g,0,none⟩ 5)).drew.cell? ⟨b,1,none⟩=some (.slice (some ⟨g,0,none⟩) 0 0):=c2;have c0:w.cell? ⟨b,1,none⟩=some (.slice (some ⟨g,0,none⟩) 0 0):=c1;have mixed:=follows;have t1:=Tryz.underlying348;have t3:=Tryz.underlying25;have t6:=Tryz.underlying9;have u1:=run_underlying (P:=Tryz.prog) t1;have u2:=run_underlying (P:=Tryz.prog) Tryz.underlying12;have u3:=run_underlying (P:=Tryz.prog) t3;have u4:=run_underlying (P:=Tryz.prog) t4;have u5:=run_underlying (P:=Tryz.prog) Tryz.underlying3;have u6:=run_underlying (P:=Tryz.prog) t6
 go_enter Tryz.func297,Tryz.ntmps297
 go_wp2
 go_region_o
 all_goals (go_wp2;go_ret;exact⟨rfl,(Chg.drew Cf w).trans (Chg.alloc Cf w.drew _)⟩)
theorem Bmh{cx:Cx}{m:Mp}{a:Act}{rs:List Act}{st:St}{w w':World}(hr:Rel cx m a rs (fs st) w)(hch:Chg (Db m (fs st)) w w'){d:D}{v:Value}(hd:Rep (vx cx m (fs { st with n:=1,env:=[(0,d)],bl:=[],tk:=[],df:=[] }) w') d v):Rel cx m ⟨#[v],[]⟩ rs (fs { st with n:=1,env:=[(0,d)],bl:=[],tk:=[],df:=[] }) w':=by
 have hnf:∀b i,¬Db m (fs { st with n:=1,env:=[(0,d)],bl:=[],tk:=[],df:=[] }) b i:=by
  rintro b i (⟨q,hq,_⟩|⟨t,o,h1,_,_⟩)
  ·exact hq rfl
  ·simp[fs] at h1
 have nx:Nx (vx cx m (fs st) w) (vx cx m (fs { st with n:=1,env:=[(0,d)],bl:=[],tk:=[],df:=[] }) w'):=by
  refine⟨hch.mono λb i hi =>.inr hi,?_,rfl,λ_ _=>rfl,Zn1 _,Zn1 _,λt _ ha =>?_⟩
  ·rintro b i (h|h)
   ·exact .inl (.inl h)
   ·exact absurd h (hnf b i)
  ·simp[vx,fs] at ha
 have h1:Rel cx m a rs { fs st with bl:=λ_=>none,al:=λ_=>False } w':=by
  refine hr.step (s':={ fs st with bl:=λ_=>none,al:=λ_=>False }) rfl rfl rfl rfl rfl hch ?_ (λb k hk=>by cases hk) (λt ht=>ht.elim) (λb b' h=>absurd rfl h) (λt t' g o o' h=>h.elim) (λb t g o h=>absurd rfl h) (λb i hi =>?_)
  ·refine⟨hch.mono λb i hi =>.inr hi,?_,rfl,λ_ _=>rfl,Zn1 _,Zn1 _,λt _ ha=>ha.elim⟩;rintro b i (h|⟨q,hq,_⟩|⟨t,o,h1,_,_⟩)
   ·exact .inl (.inl h)
   ·exact absurd rfl hq
   ·exact h1.elim
  ·rcases hi with ⟨q,hq,_⟩|⟨t,o,h1,_,_⟩
   ·exact absurd rfl hq
   ·exact h1.elim
 have hal:(fs { st with n:=1,env:=[(0,d)],bl:=[],tk:=[],df:=[] }).al=λ_=>False:=by funext t;simp[fs]
 have e:fs { st with n:=1,env:=[(0,d)],bl:=[],tk:=[],df:=[] }={ (fs { st with n:=1,env:=[(0,d)],bl:=[],tk:=[],df:=[] }) with al:=λ_=>False }:=by rw[<-hal]
 rw[e] at hd ⊢;refine⟨h1.chg,⟨(show Amt _ [] [] from rfl),rfl,λk d' hk =>?_⟩,h1.frs,h1.lb,h1.lt,h1.blks,h1.als,h1.inj,h1.injt,h1.injbt,h1.own,h1.away,h1.glb⟩;have hk:get [(0,d)] k=some d':=hk;rw[B8] at hk;by_cases h0:k=0
 ·grind
 ·rw[if_neg h0] at hk;cases hk
abbrev wT:TypeId:=352
def bstr_si:Sig:=⟨1,[],[(0,.ptr 0 0)],[(0,.bld wT)],1,1,0,[],[]⟩
def Asf:Sig:=⟨1,[(0,.str)],[],[],1,1,0,[],[]⟩
abbrev Brj:=List UInt8
abbrev Bsm:=Str
def H2:Brj->Option Bsm:=λx=>some x
theorem Bm0:FnLn Tryz.prog elT glT 297 bstr_si Asf H2:=by
 refine⟨Sx.enters_of Tryz.func297 rfl (by kernel_rfl),λ(l:List UInt8) r hx _ cx m vs af w h1 h2 h3 hr =>?_⟩;obtain rfl:l=r:=Option.some.inj hx;obtain⟨_,hb⟩:=hr.blks 0 (.bld wT (.sl .byte l (.id 0))) rfl;obtain⟨_,a,v,hh,ha,hrep⟩:=hb;obtain⟨u,hu,hup⟩:=hr.env.get 0 (.ptr 0 0) rfl;have hsz:vs.toArray.size=1:=hr.env.size;have hvs:vs=[u]:=by match vs,hsz,hu with|[y],_,hu=>simpa using hu
 subst hvs;simp[Rep] at hup hrep;obtain⟨_,rfl⟩:=hup;obtain⟨hrf,_,htk⟩:=hrep;have htk:=htk (show(fs (Dp bstr_si [E0 bstr_si] l)).al 0 by simp[fs,Dp,bstr_si,Sig.sgs,Bb,Bs.sgs]);have hh:w.heap[m.bl 0]? = some (.cells #[a,v] wT (0,0)):=hh;have hblt:m.bl 0<w.heap.size:=(Zh2.1 hh).1;have hlen:l.length<=maxLen:=hrf.here.len;have c1:w.cell? ⟨m.bl 0,1,none⟩=some v:=by simp[World.cell?,hh]
 have done:(Calls Tryz.prog 297 #[.pointer (some ⟨m.bl 0,0,none⟩)] w λe w'=>e = .returned (.string ⟨l.toArray⟩)/\Chg (Db m (fs (Dp bstr_si [E0 bstr_si] l))) w w')->Calls Tryz.prog 297 ([.pointer (some ⟨m.bl 0,0,none⟩)]:List Value).toArray w λen w'=>∃us st' m',en = .returned (Sx.resv us)/\(∀k,(bstr_si.bl.map (·.1)).contains k=true->m'.bl k=m.bl k)/\Hs Asf st' = some l/\Rel cx m' ⟨us.toArray,[]⟩ [af] (fs st') w':=λhc=>by refine hc.mono ?_;rintro e w' ⟨rfl,hch⟩;exact⟨[.string ⟨l.toArray⟩],{ Dp bstr_si [E0 bstr_si] l with n:=1,env:=[(0,.str l)],bl:=[],tk:=[],df:=[] },m,rfl,λ_ _=>rfl,rfl,Bmh hr hch (by simp only[Rep];exact⟨trivial,hlen⟩)⟩
 refine done ?_;rcases htk with ⟨rfl,_,rfl⟩|⟨g,cap,cur,rfl,ht,hg,hcs,hle,hcm⟩
 ·refine(Bn8 (m.bl 0) w c1).mono ?_;rintro e w' ⟨rfl,rfl⟩;exact⟨rfl,Chg.drew _ w⟩
 ·have ht:m.tk 0=some (g,l.length*1):=ht;have hel:(vx cx m (fs (Dp bstr_si [E0 bstr_si] l)) w).el .byte=5:=by show cx.el .byte=_;rw[h2];rfl
  rw[hel] at hg;have hg:w.heap[g]? = some (.cells cur 5 (0,0)):=hg;have hcs:cur.size=cap*1:=hcs;by_cases hl0:l=[]
  ·subst hl0;by_cases hc0:cap=0
   ·subst hc0;refine(A20 (m.bl 0) g w cur hblt c1 hg).mono ?_;rintro e w' ⟨rfl,hch⟩;exact⟨rfl,hch.mono λ_ _ h=>h.elim⟩
   ·refine(Ayo (m.bl 0) g cap 0 w .empty hc0 c1 (As9 _ _)).mono ?_;rintro e w' ⟨rfl,rfl⟩;exact⟨rfl,Chg.drew _ w⟩
  ·have hcells:∀(j:Nat) x,l[j]? = some x->w.cell? ⟨g,j,none⟩=some (.int .u8 x.toNat):=λj x hj=>by
    obtain⟨a',cap',e1,h|⟨b0,o0,e2,_,h4⟩⟩:=hrf.here.slice
    ·exact absurd h hl0
    ·simp at e1;rw[e2] at e1;simp at e1;obtain⟨⟨rfl,rfl,_⟩,_⟩:=e1;obtain⟨u,hu,hf⟩:=h4 j x hj 0 _ rfl;have e3 : 0+j*csz .byte+0=j:=by simp[csz]
     rw[e3] at hu;cases hf;exact hu
   have hn0:l.length≠0:=λe=>hl0 (List.eq_nil_of_length_eq_zero e);have hUS:=Lib.run_unsafeString_row w.drew 389 3 9 5 Tryz.underlying389 cellsByte g cur.size (by have hg':w.drew.heap[g]? = some (.cells cur 5 (0,0)):=hg;simp[World.shape?,hg']) l hl0 (by omega) (by unfold maxLen at hcm;omega) (λj x hj=>by
    have e:(⟨g,0,none⟩:Addr).add j=⟨g,j,none⟩:=by
     unfold Addr.add;by_cases hj0:j=0
     ·subst hj0;simp
     ·simp[hj0]
    rw[e];exact hcells j x hj)
   refine(Ayo (m.bl 0) g cap l.length w ⟨l.toArray⟩ (by omega) c1 hUS).mono ?_;rintro e w' ⟨rfl,rfl⟩;refine⟨rfl,(Chg.drew _ w).trans ((A4j w.drew g l.length (l.length*1)).mono λb i hi =>?_)⟩;obtain⟨rfl,hi⟩:=hi;exact .inr ⟨0,l.length*1,by simp[fs,Dp,bstr_si,Sig.sgs,Bb,Bs.sgs],ht,hi⟩
def Abo:Sig:=⟨2,[(1,.str)],[(0,.ptr 0 0)],[(0,.bld 352)],1,1,0,[],[]⟩
def Ab6:Sig:=⟨2,[],[],[(0,.bld 352)],1,1,0,[],[]⟩
abbrev Axv:=Str×List UInt8
abbrev Ayb:=List UInt8
def Ban(R:Type):Px R:=pxO [(356,A3h Axb)] [] [] []
def Aex(x:Axv):Option (Ayb):=match x with
 |(s,out) =>
 chk (decide (out.length+s.length<=Ai)) (
  some (out++s))
theorem A2t:FM 326 Abo Ab6 (Aex):=fRL (px:=Ban _) (n:=0) Tryz.func326 rfl (λ_ H=>⟨lv H (Al (Btn (by rw[H.p];exact Bb9) (by rw[H.p];exact Btq)) Ae) Aa Ab,Ag⟩) λ(_,_)=>by kernel_rfl
def Atb(s out:Str):Option Str:=if out.length+s.length<=Ai then some (out++s) else none
def P9:Axv->Option Ayb:=λx=>Atb x.1 x.2
theorem Bdm:FM 326 Abo Ab6 P9 :=.fin0 A2t λ(s,out) r hb hx=>by
 simp only[P9,Atb] at hx;split at hx
 ·rename_i h;simp only[Aex];rw[Ze1 h];exact hx
 ·cases hx
end Go.Proofs.YtblaahgjaopdnaaGreatDoor
namespace Go.Proofs
open Go.Shelf
def Tryz.laysRJ_ren:Go.Shelf.Ren:=⟨λ|156=>327|165=>357|166=>326|169=>297|240=>356|241=>383|276=>382|277=>394|n=>n,λ|0=>0|3=>3|4=>4|5=>5|9=>9|20=>20|31=>81|37=>25|70=>348|72=>350|75=>384|76=>385|80=>151|127=>389|164=>433|n=>n,λn=>n⟩
theorem Tryz.laysRJ:Go.Proofs.Lays.n156 Tryz.prog Tryz.laysRJ_ren:={
 mixed:=by kernel_rfl
 f156:=Tryz.func327.trans (congrArg some (by kernel_rfl))
 f165:=Tryz.func357.trans (congrArg some (by kernel_rfl))
 f166:=Tryz.func326.trans (congrArg some (by kernel_rfl))
 f169:=Tryz.func297.trans (congrArg some (by kernel_rfl))
 f240:=Tryz.func356.trans (congrArg some (by kernel_rfl))
 f241:=Tryz.func383.trans (congrArg some (by kernel_rfl))
 f276:=Tryz.func382.trans (congrArg some (by kernel_rfl))
 f277:=Tryz.func394.trans (congrArg some (by kernel_rfl))
 t0:=Tryz.underlying0
 a0:=Tryz.isAgg0
 z0:=Tryz.sizeOf0
 v0:=Tryz.zeroValue0
 t3:=Tryz.underlying3
 a3:=Tryz.isAgg3
 z3:=Tryz.sizeOf3
 v3:=Tryz.zeroValue3
 t4:=Tryz.underlying4
 a4:=Tryz.isAgg4
 z4:=Tryz.sizeOf4
 v4:=Tryz.zeroValue4
 t9:=Tryz.underlying9
 a9:=Tryz.isAgg9
 z9:=Tryz.sizeOf9
 v9:=Tryz.zeroValue9
 t20:=Tryz.underlying20
 a20:=Tryz.isAgg20
 z20:=Tryz.sizeOf20
 v20:=Tryz.zeroValue20
 t31:=Tryz.underlying81
 a31:=Tryz.isAgg81
 z31:=Tryz.sizeOf81
 v31:=Tryz.zeroValue81
 t37:=Tryz.underlying25
 a37:=Tryz.isAgg25
 z37:=Tryz.sizeOf25
 v37:=Tryz.zeroValue25
 t70:=Tryz.underlying348
 a70:=Tryz.isAgg348
 z70:=Tryz.sizeOf348
 v70:=Tryz.zeroValue348
 t72:=Tryz.underlying350
 a72:=Tryz.isAgg350
 z72:=Tryz.sizeOf350
 v72:=Tryz.zeroValue350
 t75:=Tryz.underlying384
 a75:=Tryz.isAgg384
 z75:=Tryz.sizeOf384
 v75:=Tryz.zeroValue384
 t76:=Tryz.underlying385
 a76:=Tryz.isAgg385
 z76:=Tryz.sizeOf385
 v76:=Tryz.zeroValue385
 t127:=Tryz.underlying389
 a127:=Tryz.isAgg389
 z127:=Tryz.sizeOf389
 v127:=Tryz.zeroValue389
 t164:=Tryz.underlying433
 a164:=Tryz.isAgg433
 z164:=Tryz.sizeOf433
 v164:=Tryz.zeroValue433 }
theorem Tryz.extraRJ:Builder.Extra Tryz.prog Tryz.laysRJ_ren:={
 sizeBuilder:=by kernel_rfl
 liesBuilder:=by kernel_rfl
 t5:=Tryz.underlying5
 a5:=Tryz.isAgg5
 z5:=Tryz.sizeOf5
 v5:=Tryz.zeroValue5
 infoByte:=by kernel_rfl
 cellsByte:=by kernel_rfl
 sizeByte:=by kernel_rfl
 neB5:=by decide }
end Go.Proofs
namespace Go.Proofs.YtblaahgjaopdnaaGreatDoor
open Go.Ax Go.RowKit
def A40(l:List Str)(sep:Str):Option Str:=if l.length<=1000000/\(Lib.join l sep).length<=1000000000 then some (Lib.join l sep) else none
def Ar2:FT [.sl .str false,.str] [.str]:=λx=>A40 x.1 x.2
theorem Bjn:FO 327 [.sl .str false,.str] [.str] Ar2:=by
 refine⟨Sx.enters_of Tryz.func327 rfl (by kernel_rfl),λx r hx w M vs hM hgl hr =>?_⟩;obtain⟨l,sep⟩:=x;simp only[Ar2,A40] at hx;split at hx
 case isFalse=>cases hx
 rename_i hc;obtain⟨h1,h2⟩:=hc;obtain rfl:=Option.some.inj hx;simp only[Br,Ce,Reps,Rep] at hr;obtain⟨u,us,rfl,⟨hrf,_⟩,u2,us2,rfl,⟨rfl,_⟩,rfl⟩:=hr;have key:Calls Tryz.prog 327 #[u,.string ⟨sep.toArray⟩] w λe w'=>e = .returned (.string ⟨(Lib.join l sep).toArray⟩)/\Below w.heap.size w w':=by
  obtain⟨a,cap,rfl,h⟩:=hrf.here.slice;rcases h with rfl|⟨b,o,rfl,⟨hle,hcm⟩,hat⟩
  ·have c:=Any.strings_Join_none Tryz.laysRJ Tryz.extraRJ a cap ⟨sep.toArray⟩ w;refine Calls.mono (show Calls Tryz.prog 327 _ w _ from c) ?_;rintro e w' ⟨rfl,rfl⟩;exact⟨rfl,Below.refl _ _⟩
  ·by_cases hl:l=[]
   ·subst hl;have c:=Any.strings_Join_none Tryz.laysRJ Tryz.extraRJ (some ⟨b,o,none⟩) cap ⟨sep.toArray⟩ w;refine Calls.mono (show Calls Tryz.prog 327 _ w _ from c) ?_;rintro e w' ⟨rfl,rfl⟩;exact⟨rfl,Below.refl _ _⟩
   ·have hcell:∀(j:Nat) x,l[j]? = some x->w.cell? ⟨b,o+j,none⟩=some (.string ⟨x.toArray⟩):=λj x hj=>by
     obtain⟨u,hu,hf⟩:=hat j x hj 0 _ rfl;have e3:o+j*csz .str+0=o+j:=by simp[csz]
     rw[e3] at hu;cases hf;exact hu
    have hb:b<w.heap.size:=by cases l with|nil=>exact absurd rfl hl|cons x l=>exact R9 (hcell 0 x rfl)
    have em:(l.map λs=>(⟨s.toArray⟩:ByteArray)).map (·.data.toList)=l:=by rw[List.map_map];simp[Function.comp_def]
    have es:(⟨sep.toArray⟩:ByteArray).data.toList=sep:=by simp
    have c:=Any.strings_Join Tryz.laysRJ Tryz.extraRJ b o cap (l.map λs=>⟨s.toArray⟩) ⟨sep.toArray⟩ w (λj x hj=>by rw[List.getElem?_map] at hj;obtain⟨y,hy,rfl⟩:=Option.map_eq_some_iff.1 hj;exact hcell j y hy) hb (by rw[List.length_map];omega) (by rw[List.length_map];exact hle) (by rw[em,es];omega)
    rw[em,es,List.length_map] at c;exact c
 refine key.mono ?_;rintro en w' ⟨rfl,hbel⟩;refine⟨_,⟨λ_=>0,λ_=>Option.none⟩,rfl,Chg.of_below hbel,λp g o hp=>(by simp[Bb] at hp),λp q g o o2 hp=>(by simp[Bb] at hp),?_⟩;simp only[Eh,Br,Ce,Rep];exact⟨trivial,by simp only[maxLen];omega⟩
end Go.Proofs.YtblaahgjaopdnaaGreatDoor
namespace Go.Proofs.YtblaahgjaopdnaaGreatDoor
open Go.Ax
def app(out t:Str):Option Str:=if out.length+t.length<=260000000000 then some (out++t) else none
theorem Gq(out a b:Str):((app out a).bind λx=>app x b)=app out (a++b):=by
 simp only[app,Zh1];by_cases h1:out.length+a.length<=260000000000
 ·rw[if_pos h1,Zc1];simp only[Zh1,Zj1,Nat.add_assoc]
 ·rw[if_neg h1,if_neg (by omega)];rfl
theorem Cq{R:Type}(out a b:Str)(c:Str->Option R):((app out a).bind λx=>(app x b).bind c)=(app out (a++b)).bind c:=by rw[<-Gq,Option.bind_assoc]
theorem Sm{o:Option Str}:(o.bind λx=>some x)=o:=by cases o<;>rfl
theorem Age{out:Str}(h:out.length<=260000000000):app out []=some out:=by simp only[app,Zi1,Nat.add_zero,List.append_nil];rw[if_pos h]
theorem At0{out t r:Str}(h:app out t=some r):r.length<=260000000000/\r=out++t:=by
 simp only[app] at h;split at h
 ·rename_i h1;obtain rfl:=Option.some.inj h;exact⟨by rw[Zh1];exact h1,rfl⟩
 ·cases h
theorem Bmv{out t r:Str}(h:app out t=some r):out.length+t.length<=260000000000:=by
 simp only[app] at h;split at h
 ·rename_i h1;exact h1
 ·cases h
def Afh{α:Type}(f : α->Str):List α->Str
 |[]=>[]
 |x::l=>[44,32]++f x++Afh f l
def Gy{α:Type}(f : α->Str):List α->Str
 |[]=>[]
 |x::l=>f x++Afh f l
theorem Ir{V R α:Type}{step:(V->Option R)->V->Option R}(l:List α)(f : α->Str)(st:Nat->Str->V)(c:Str->Option R)
  (hs:∀i (hi:i<l.length) (acc:Str) rec,step rec (st i acc)=(app acc ((if i=0 then [] else [44,32])++f l[i])).bind λx=>rec (st (i+1) x))
  (he:∀acc rec,step rec (st l.length acc)=c acc) (k:Nat) (hk:l.length<k) (out:Str) (ho:out.length<=260000000000):Ak step k (st 0 out)=(app out (Gy f l)).bind c:=by
 refine(I6 l.length st (λ_ acc=>acc.length<=260000000000) (λi acc=>(app acc (if i=0 then Gy f (l.drop i) else Afh f (l.drop i))).bind c) (λi hi acc ha rec hr =>?_) (λacc ha rec =>?_) k 0 out (Nat.zero_le _) (by omega) ho).trans (by rw[if_pos rfl,Zq1])
 ·rw[hs i hi acc rec];have hd:(if i=0 then Gy f (l.drop i) else Afh f (l.drop i))=((if i=0 then [] else [44,32])++f l[i])++Afh f (l.drop (i+1)):=by rw[Av hi];split<;>simp[Gy,Afh]
  rw[hd,<-Cq acc ((if i=0 then [] else [44,32])++f l[i]) (Afh f (l.drop (i+1))) c];cases hx:app acc ((if i=0 then [] else [44,32])++f l[i]) with|none=>rfl|some x =>rw[Zc1,Zc1,hr x (At0 hx).1,if_neg (by omega)]
 ·rw[he];have:(if l.length=0 then Gy f (l.drop l.length) else Afh f (l.drop l.length))=[]:=by rw[Zc2];split<;>rfl
  rw[this,Age ha];rfl
def B5:Sig:=⟨2,[(1,.sl .str false)],[(0,.ptr 0 0)],[(0,.bld 352)],1,1,0,[],[]⟩
def B6:Sig:=⟨0,[],[],[(0,.bld 352)],1,1,0,[],[]⟩
abbrev Awx:=List Str×List UInt8
abbrev Ahg:=List UInt8
def Aeo:Sig:=⟨18,[(6,.sl .str false),(7,.int .i64),(8,.int .i64)],[(0,.ptr 0 0)],[(0,.bld 352)],1,1,0,[],[]⟩
abbrev Oc:=List Str×Int×Int×List UInt8
def Mq{R:Type}(rec:Oc->Option R)(kx:Ex->Oc->Option R)(v:Oc):Option R:=match v with
 |(v,v1,v2,w) =>
 cond (decide (v2<v1)) (
  chk (inb v2 v.length) (
  (P9 ((at' .str v v2),w)).bind λx =>rec (v,v1,(wr .i64 (v2+1)),x))) (
  kx (.exit 0) (v,v1,v2,w))
def Ap0(R:Type)(k:Nat):Px R:=pxO [(326,Aj Abo Ab6 P9)] [] [(1,Am k Aeo (Mq))] []
def Avc(k:Nat)(x:Awx):Option (Ahg):=match x with
 |(l,out) =>
 Ak (λrec=>Mq rec (λe vz=>match vz with|(_,_,_,v6)=>match e with
  |.exit 0 =>
  some v6
  |_=>none)) k (l,(l.length:Int),0,out)
theorem A0j(k:Nat):FM 288 B5 B6 (Avc k):=fRL (px:=Ap0 _ k) (n:=1) Tryz.func288 rfl (λcx H=>by have h0:Lv cx (Ap0 (Ahg) k):=lv H (l1 H Bdm Ae) Aa Ab;have hlwwords_0:=lO H h0 (b:=lp Tryz.f288 0) (k:=k) (n:=0) (s:=Aeo) (step:=Mq) (λ_ _ _ (_,_,_,_)=>by kernel_rfl) Ag;exact⟨h0,(A5 Ag hlwwords_0)⟩) λ(_,_)=>by kernel_rfl
def Bq0(l:List Str)(out:Str):Option Str:=app out l.flatten
def An:Awx->Option Ahg:=λx=>Bq0 x.1 x.2
theorem Avx{R:Type}{kx:Ex->Oc->Option R}{l:List Str}{c:Str->Option R}(hn:ln l.length)(h2:∀i out,kx (.exit 0) (l,(l.length:Int),i,out)=c out)(k:Nat)(hk:l.length<k)(out:Str)(ho:out.length+l.flatten.length<=260000000000) :
  Ak (λrec=>Mq rec kx) k (l,(l.length:Int),0,out)=c (out++l.flatten):=by
 refine(I6 l.length (λi out=>(l,(l.length:Int),(i:Int),out)) (λi out=>List.length out+((l.drop i).flatten).length<=260000000000) (λi out=>c (out++(l.drop i).flatten)) (λi hi out ha rec hr =>?_) (λout _ rec =>?_) k 0 out (Nat.zero_le _) (by omega) (by rw[Zq1];exact ho)).trans (by rw[Zq1])
 ·rw[Av hi] at ha ⊢;simp only[Zz1,Zh1] at ha;have hw:Atb l[i] out=some (out++l[i]):=by simp only[Atb];rw[if_pos (by simp only[Ai];omega)]
  have hr:=hr (out++l[i]) (by rw[Zh1];omega);simp only[Mq,C6 hi,Ah,Ay hi,chk,Aw (c :=.str) hi,P9,hw,Zc1,As hi hn,hr,Zz1,Zj1]
 ·simp only[Mq,E6,Af,h2];rw[Zk1 (Zn1 _)];simp
theorem Ci:FM 288 B5 B6 An :=.fin 0 A0j λ(l,out) r hb hx=>⟨l.length+1,by have hx:app out l.flatten=some r:=hx;have hlen:=Bmv hx;rw[(At0 hx).2];exact Avx (l:=l) (c:=some) hb.1.1 (λ_ _=>rfl) (l.length+1) (by omega) out hlen⟩
theorem ww(l:List Str)(out:Str):An (l,out)=app out l.flatten:=rfl
def sgn(k:Int):Str:=Tt signsL k
mutual
def etx:Xpr->Str
 |.mk k v n l=>if k=1 then Kv v else if k=2 then n else etxs k l
def etxs:Int->List Xpr->Str
 |_,[]=>[]
 |k,x::l=>if k=3 then [40]++[78,79,84,32]++etx x++[41] else if k=15 then [40]++[45]++etx x++[41] else if k=16 then [40]++etx x++[32,73,83,32,78,85,76,76]++[41] else [40]++etx x++([32]++(sgn k++[32]))++etx1 l++[41]
def etx1:List Xpr->Str
 |[]=>[]
 |y::_=>etx y
end
mutual
def okx:Xpr->Bool
 |.mk k _ _ l=>if k=1\/k=2 then true else okxs k l
def okxs:Int->List Xpr->Bool
 |_,[]=>false
 |k,x::l=>okx x&&(if k=3\/k=15\/k=16 then true else okx1 l)
def okx1:List Xpr->Bool
 |[]=>false
 |y::_=>okx y
end
theorem Brl(e:Xpr):etx e=if e.kind=1 then Kv e.v else if e.kind=2 then e.name else etxs e.kind e.l:=by cases e;simp only[etx];rfl
theorem Brx(e:Xpr):okx e=if e.kind=1\/e.kind=2 then true else okxs e.kind e.l:=by cases e;simp only[okx];rfl
def Fi:Sig:=⟨2,[(1,.sv .expr)],[(0,.ptr 0 0)],[(0,.bld 352)],1,1,0,[],[]⟩
def Fb:Sig:=⟨0,[],[],[(0,.bld 352)],1,1,0,[],[]⟩
abbrev Kb:=Xpr×List UInt8
abbrev Kl:=List UInt8
def Blj(R:Type)(rf:Kb->Option Kl):Px R:=pxO [(328,cA Yx),(288,Aj B5 B6 An),(293,Aj Fi Fb rf)] [] [] []
def Jk(rf:Kb->Option Kl)(x:Kb):Option (Kl):=match x with
 |(e,out) =>
 cond (decide (e.kind=1)) (
  (An ([(Kv e.v)],out)).bind λx =>
  some x) (
  cond (decide (e.kind=2)) (
  (An ([e.name],out)).bind λx1 =>some x1) (
  (An ([[40]],out)).bind λx2 =>
   cond (decide (e.kind=3)) (
   (An ([[78,79,84,32]],x2)).bind λx3 =>
    chk (inb 0 e.l.length) (
    (rf ((at' .expr e.l 0),x3)).bind λx4 =>
     (An ([[41]],x4)).bind λa =>
     some a)) (
   cond (decide (e.kind=15)) (
    (An ([[45]],x2)).bind λx5 =>
    chk (inb 0 e.l.length) (
     (rf ((at' .expr e.l 0),x5)).bind λx6 =>
     (An ([[41]],x6)).bind λb =>some b)) (
    cond (decide (e.kind=16)) (
    chk (inb 0 e.l.length) (
     (rf ((at' .expr e.l 0),x2)).bind λx7 =>
     (An ([[32,73,83,32,78,85,76,76]],x7)).bind λx8 =>
      (An ([[41]],x8)).bind λc =>
      some c)) (
    chk (inb 0 e.l.length) (
     (rf ((at' .expr e.l 0),x2)).bind λx9 =>
     (An ([[32],(Tt signsL e.kind),[32]],x9)).bind λd =>
      chk (inb 1 e.l.length) (
      (rf ((at' .expr e.l 1),d)).bind λf =>
       (An ([[41]],f)).bind λg =>
       some g)))))))
theorem A9e(rf:Kb->Option Kl)(hrf:FM 293 Fi Fb rf):FM 293 Fi Fb (Jk rf):=fRL (px:=Blj _ rf) (n:=0) Tryz.func293 rfl (λ_ H=>⟨lv H (c1 H Ao2 (l1 H Ci (l1 H hrf Ae))) Aa Ab,Ag⟩) λ(_,_)=>by kernel_rfl
def Btr(e:Xpr)(out:Str):Option Str:=cond (okx e) (app out (etx e)) none
def Et:Kb->Option Kl:=λx=>Btr x.1 x.2
theorem Ans:∀(n:Nat) (e:Xpr) (out:Str),BdExpr e->C1 e<=n->okx e=true->Ak (V:=Kb) (R:=Kl) Jk n (e,out)=app out (etx e)
 |0,e,_,_,h,_=>by have:=Ln e;omega
 |n+1,e,out,hb,h,hok=>by
  obtain⟨hb4,hb5⟩:=Aoy hb;rw[Pk] at h;have hrf:∀x,x∈e.l->okx x=true->∀out:Str,Ak (V:=Kb) (R:=Kl) Jk n (x,out)=app out (etx x):=λx hx ho out=>Ans n x out (hb5 x hx) (by have:=D9 hx;omega) ho;rw[A8,Brl];rw[Brx] at hok;simp only[Jk,ww];by_cases h1:e.kind=1
  ·rw[Ze1 h1,if_pos h1,Ah,Sm];simp
  by_cases h2:e.kind=2
  ·rw[Zd1 h1,Ze1 h2,if_neg h1,if_pos h2,Af,Ah,Sm];simp
  rw[Zd1 h1,Zd1 h2,if_neg h1,if_neg h2,Af,Af];rw[if_neg (by omega)] at hok;cases hl:e.l with
  |nil=>rw[hl] at hok;cases hok
  |cons x l =>
   rw[hl] at hok hrf;simp only[okxs,Zb1] at hok;have hx:=hrf x Zr1 hok.1;have e0:at' .expr (x::l) 0=x:=rfl;have i0:inb 0 (x::l).length=true:=Ay (i:=0) (by simp);simp only[e0,i0,hx,chk,Ah,etxs];by_cases h3:e.kind=3
   ·rw[Ze1 h3,if_pos h3];simp only[Ah,Cq,Sm,Gq,Zz1,List.flatten_nil,List.append_nil,Zj1]
   by_cases h15:e.kind=15
   ·rw[Zd1 h3,Ze1 h15,if_neg h3,if_pos h15];simp only[Ah,Af,Cq,Sm,Gq,Zz1,List.flatten_nil,List.append_nil,Zj1]
   by_cases h16:e.kind=16
   ·rw[Zd1 h3,Zd1 h15,Ze1 h16,if_neg h3,if_neg h15,if_pos h16];simp only[Ah,Af,Cq,Sm,Gq,Zz1,List.flatten_nil,List.append_nil,Zj1]
   rw[Zd1 h3,Zd1 h15,Zd1 h16,if_neg h3,if_neg h15,if_neg h16];rw[if_neg (by omega)] at hok;cases l with|nil=>exact absurd hok.2 (by simp[okx1])|cons y l =>have hy:=hrf y (by simp) hok.2;have e1:at' .expr (x::y::l) 1=y:=rfl;have i1:inb 1 (x::y::l).length=true:=Ay (i:=1) (by simp);simp only[e1,i1,hy,Ah,Af,etx1];simp only[Sm,Gq,Zz1,List.flatten_nil,List.append_nil,Zj1,sgn]
theorem Pt:FM 293 Fi Fb Et:=by refine .fin (ι:=Nat) (sg:=Fi) (so:=Fb) 0 (F:=λn=>Ak (V:=Kb) (R:=Kl) Jk n) (λn=>FnLn.rec' (Sx.enters_of Tryz.func293 rfl rfl) (λrf hrf=>A9e rf hrf) n) λ(e,out) r hb hx=>⟨C1 e,?_⟩;have hx:cond (okx e) (app out (etx e)) none=some r:=hx;cases hok:okx e with|false=>rw[hok] at hx;cases hx|true =>rw[hok] at hx;exact(Ans (C1 e) e out hb.1 (Zn1 _) hok).trans hx
theorem we{e:Xpr}(h:okx e=true)(out:Str):Et (e,out)=app out (etx e):=by show cond (okx e) _ _=_;rw[h];rfl
theorem Cw{R:Type}{out t:Str}{f g:Str->Option R}(h:∀x:Str,x.length<=260000000000->f x=g x):(app out t).bind f=(app out t).bind g:=by cases hx:app out t with|none=>rfl|some x=>exact h x (At0 hx).1
theorem Lh{R:Type}(i:Nat)(acc t:Str)(c:Str->Option R):cond (decide ((0:Int)<(i:Int))) ((app acc [44,32]).bind λx=>(app x t).bind c) ((app acc t).bind c)=(app acc ((if i=0 then [] else [44,32])++t)).bind c:=by
 by_cases h:i=0
 ·grind
 ·rw[Ze1 (by omega),if_neg h,Ah,Cq]
theorem fl1(a:Str):([a]:List Str).flatten=a:=by simp
theorem fl2(a b:Str):([a,b]:List Str).flatten=a++b:=by simp
theorem fl3(a b c:Str):([a,b,c]:List Str).flatten=a++(b++c):=by simp
theorem fl5(a b c d e:Str):([a,b,c,d,e]:List Str).flatten=a++(b++(c++(d++e))):=by simp
theorem Bju{V R α:Type}{step:(V->Option R)->V->Option R}(l:List α)(f : α->Str)(st:Nat->Str->V)(c:Str->Option R)
  (hs:∀i (hi:i<l.length) (acc:Str) rec,step rec (st i acc)=(app acc (f l[i])).bind λx=>rec (st (i+1) x))
  (he:∀acc rec,step rec (st l.length acc)=c acc) (k:Nat) (hk:l.length<k) (out:Str) (ho:out.length<=260000000000):Ak step k (st 0 out)=(app out (l.map f).flatten).bind c:=by
 refine(I6 l.length st (λ_ acc=>acc.length<=260000000000) (λi acc=>(app acc ((l.drop i).map f).flatten).bind c) (λi hi acc ha rec hr =>?_) (λacc ha rec =>?_) k 0 out (Nat.zero_le _) (by omega) ho).trans (by rw[Zq1])
 ·rw[hs i hi acc rec,Av hi,Zw1,Zz1,<-Cq];exact Cw λx hx=>hr x hx
 ·rw[he,Zc2,List.map_nil,List.flatten_nil,Age ha];rfl
theorem Bta{out r:Str}(h:app out []=some r):some out=some r:=by have:=(At0 h).2;rw[List.append_nil] at this;rw[this]
def Asi(l:List Str):Bool:=decide (l.length<=1000000)&&decide ((Lib.join l [44,32]).length<=1000000000)
def nmT(l:List Str):Str:=[40]++(Lib.join l [44,32]++[41])
def Sq:Sig:=⟨2,[(1,.sl .str false)],[(0,.ptr 0 0)],[(0,.bld 352)],1,1,0,[],[]⟩
def S7:Sig:=⟨0,[],[],[(0,.bld 352)],1,1,0,[],[]⟩
abbrev Aw8:=List Str×List UInt8
abbrev Az2:=List UInt8
def Bca(R:Type):Px R:=pxO [(327,cA Ar2),(288,Aj B5 B6 An)] [] [] []
def Q2(x:Aw8):Option (Az2):=match x with
 |(l,out) =>
 (A40 l [44,32]).bind λx =>
  (An ([[40],x,[41]],out)).bind λx1 =>
  some x1
theorem A0m:FM 289 Sq S7 (Q2):=fRL (px:=Bca _) (n:=0) Tryz.func289 rfl (λ_ H=>⟨lv H (c1 H Bjn (l1 H Ci Ae)) Aa Ab,Ag⟩) λ(_,_)=>by kernel_rfl
def Bru(l:List Str)(out:Str):Option Str:=cond (Asi l) (app out (nmT l)) none
def Li:Aw8->Option Az2:=λx=>Bru x.1 x.2
theorem Bd7(l:List Str)(out:Str)(h:Asi l=true):Q2 (l,out)=app out (nmT l):=by simp[Asi] at h;have hj:A40 l [44,32]=some (Lib.join l [44,32]):=if_pos h;simp[Q2,hj];rfl
theorem Apr:FM 289 Sq S7 Li :=.fin0 A0m λ(l,out) r hb hx=>by have hx:cond (Asi l) (app out (nmT l)) none=some r:=hx;cases ho:Asi l with|false=>rw[ho] at hx;cases hx|true =>rw[ho] at hx;exact(Bd7 l out ho).trans hx
theorem wn{l:List Str}(h:Asi l=true)(out:Str):Li (l,out)=app out (nmT l):=by show cond (Asi l) _ _=_;rw[h];rfl
def Azg(c:Col):Str:=c.name++([32]++at' .str Asa c.kind)++cond c.notNull [32,78,79,84,32,78,85,76,76] []++cond c.unique [32,85,78,73,81,85,69] []++cond (decide (c.ref=[])) [] ([32,82,69,70,69,82,69,78,67,69,83,32]++c.ref)
def Aru:Sig:=⟨2,[(1,.sv .col)],[(0,.ptr 0 0)],[(0,.bld 352)],1,1,0,[],[]⟩
def As4:Sig:=⟨0,[],[],[(0,.bld 352)],1,1,0,[],[]⟩
abbrev Bi6:=Col×List UInt8
abbrev Bex:=List UInt8
def Bow(R:Type):Px R:=pxO [(288,Aj B5 B6 An)] [] [] []
def Ab4(x:Bi6):Option (Bex):=match x with
 |(c,out) =>
 chk (inb c.kind 6) (
  (An ([c.name,[32],(at' .str Asa c.kind)],out)).bind λx =>
  let j1:=λ(q:List UInt8) =>
   let j:=λ(q1:List UInt8) =>
   cond (!decide (c.ref=[])) (
    (An ([[32,82,69,70,69,82,69,78,67,69,83,32],c.ref],q1)).bind λx3 =>
    some x3) (
    some q1)
   cond (c.unique) (
   (An ([[32,85,78,73,81,85,69]],q)).bind λx2 =>j x2) (
   j q)
  cond (c.notNull) (
   (An ([[32,78,79,84,32,78,85,76,76]],x)).bind λx1 =>
   j1 x1) (
   j1 x))
theorem Bf9:FM 325 Aru As4 (Ab4):=fRL (px:=Bow _) (n:=0) Tryz.func325 rfl (λ_ H=>⟨lv H (l1 H Ci Ae) Aa Ab,Ag⟩) λ(_,_)=>by kernel_rfl
def Bt3(c:Col)(out:Str):Option Str:=cond (inb c.kind 6) (app out (Azg c)) none
def Auj:Bi6->Option Bex:=λx=>Bt3 x.1 x.2
theorem Br5(c:Col)(out:Str)(h:inb c.kind 6=true):Ab4 (c,out)=app out (Azg c):=by simp only[Ab4,h,chk,ww,Azg];cases c.notNull<;>cases c.unique<;>cases decide (c.ref=[])<;>simp[ Gq]
theorem Boa:FM 325 Aru As4 Auj :=.fin0 Bf9 λ(c,out) r hb hx=>by have hx:cond (inb c.kind 6) (app out (Azg c)) none=some r:=hx;cases ho:inb c.kind 6 with|false=>rw[ho] at hx;cases hx|true =>rw[ho] at hx;exact(Br5 c out ho).trans hx
theorem wc{c:Col}(h:inb c.kind 6=true)(out:Str):Auj (c,out)=app out (Azg c):=by show cond (inb c.kind 6) _ _=_;rw[h];rfl
def whT(s:Stm):Str:=cond s.has ([32,87,72,69,82,69,32]++etx s.whr) []
def okW(s:Stm):Bool := !s.has||okx s.whr
def S6:Sig:=⟨2,[(1,.sv .stmt)],[(0,.ptr 0 0)],[(0,.bld 352)],1,1,0,[],[]⟩
def Sv:Sig:=⟨0,[],[],[(0,.bld 352)],1,1,0,[],[]⟩
abbrev Azf:=Stm×List UInt8
abbrev Au4:=List UInt8
def Bdc(R:Type):Px R:=pxO [(288,Aj B5 B6 An),(293,Aj Fi Fb Et)] [] [] []
def Pr(x:Azf):Option (Au4):=match x with
 |(s,out) =>
 cond (s.has) (
  (An ([[32,87,72,69,82,69,32]],out)).bind λx =>
  (Et ((O0 s.whr),x)).bind λx1 =>some x1) (
  some out)
theorem A3p:FM 295 S6 Sv (Pr):=fRL (px:=Bdc _) (n:=0) Tryz.func295 rfl (λ_ H=>⟨lv H (l1 H Ci (l1 H Pt Ae)) Aa Ab,Ag⟩) λ(_,_)=>by kernel_rfl
def Brq(s:Stm)(out:Str):Option Str:=cond (okW s) (app out (whT s)) none
def Gk:Azf->Option Au4:=λx=>Brq x.1 x.2
theorem Bid(s:Stm)(out r:Str)(h:okW s=true)(hr:app out (whT s)=some r):Pr (s,out)=some r:=by simp only[okW] at h;simp[whT] at hr;simp[Pr,Td,ww];cases hs:s.has with|false =>rw[hs] at hr;exact Bta hr|true =>rw[hs] at h hr;simp[we (show okx s.whr=true from h),Gq];exact hr
theorem An2:FM 295 S6 Sv Gk :=.fin0 A3p λ(s,out) r hb hx=>by have hx:cond (okW s) (app out (whT s)) none=some r:=hx;cases ho:okW s with|false=>rw[ho] at hx;cases hx|true =>rw[ho] at hx;exact Bid s out r ho hx
theorem wh{s:Stm}(h:okW s=true)(out:Str):Gk (s,out)=app out (whT s):=by show cond (okW s) _ _=_;rw[h];rfl
def Bpw(e:Xpr):Str:=[44,32,67,72,69,67,75,32]++cond (decide (parts e.kind=0)) ([40]++(etx e++[41])) (etx e)
def Aco(s:Stm):Str:=[67,82,69,65,84,69,32,84,65,66,76,69,32]++(s.name++[32,40])++Gy Azg s.cols++[44,32,80,82,73,77,65,82,89,32,75,69,89,32]++nmT s.names++(s.l.map Bpw).flatten++[41]
def okT(s:Stm):Bool:=s.cols.all (λc=>inb c.kind 6)&&Asi s.names&&s.l.all okx
def J1(s:Stm):Nat:=s.cols.length+s.l.length+s.order.length+s.rows.length+s.sets.length+(s.rows.map List.length).sum+1
def Acg:Sig:=⟨2,[(1,.sv .stmt)],[(0,.ptr 0 0)],[(0,.bld 352)],1,1,0,[],[]⟩
def Abn:Sig:=⟨0,[],[],[(0,.bld 352)],1,1,0,[],[]⟩
abbrev Avj:=Stm×List UInt8
abbrev Qj:=List UInt8
def Afk:Sig:=⟨54,[(25,.sl .expr false),(26,.int .i64),(27,.int .i64)],[(2,.ptr 1 0)],[(0,.bld 352),(1,.fx [.ptr 0 0])],2,1,0,[],[]⟩
abbrev U9:=List Xpr×Int×Int×List UInt8
def Qt{R:Type}(rec:U9->Option R)(kx:Ex->U9->Option R)(v:U9):Option R:=match v with
 |(v6,v7,v8,w2) =>
 cond (decide (v8<v7)) (
  chk (inb v8 v6.length) (
  (An ([[44,32,67,72,69,67,75,32]],w2)).bind λx5 =>
   cond (decide ((parts ((at' .expr v6 v8).kind))=0)) (
   (An ([[40]],x5)).bind λx6 =>
    (Et ((at' .expr v6 v8),x6)).bind λx7 =>
    (An ([[41]],x7)).bind λx8 =>rec (v6,v7,(wr .i64 (v8+1)),x8)) (
   (Et ((at' .expr v6 v8),x5)).bind λx9 =>rec (v6,v7,(wr .i64 (v8+1)),x9)))) (
  kx (.exit 0) (v6,v7,v8,w2))
def Aeq:Sig:=⟨20,[(7,.int .i64),(8,.int .i64)],[(0,.ptr 0 0),(2,.fn 324 [.ptr 1 0,.ptr 2 0])],[(0,.bld 352),(1,.fx [.ptr 0 0]),(2,.one (.sv .stmt))],80,80,400,[],[]⟩
abbrev U1:=Int×Int×List UInt8×Stm
def P2{R:Type}(rec:U1->Option R)(kx:Ex->U1->Option R)(v:U1):Option R:=match v with
 |(v,v1,w,w1) =>
 cond (decide (v1<v)) (
  let j:=λ(q:List UInt8) =>
  chk (inb v1 w1.cols.length) (
   (Auj ((at' .col w1.cols v1),q)).bind λx2 =>
   rec (v,(wr .i64 (v1+1)),x2,w1))
  cond (decide (0<v1)) (
  (An ([[44,32]],w)).bind λx1 =>j x1) (
  j w)) (
  kx (.exit 0) (v,v1,w,w1))
def Um(R:Type)(_k:Nat):Px R:=pxO [(325,Aj Aru As4 Auj)] [] [] []
noncomputable def Afi(R:Type)(k:Nat):Px R:=pxO [(288,Aj B5 B6 An),(324,Aq 120 600 (Um R k) Tryz.f324)] [] [(1,Am k Aeq (P2))] []
noncomputable def Apu(R:Type)(k:Nat):Px R:=pxO [(288,Aj B5 B6 An),(289,Aj Sq S7 Li),(185,cA As6),(293,Aj Fi Fb Et),(290,Aq 80 400 (Afi R k) Tryz.f290)] [] [(6,Am k Afk (Qt))] []
def Qy(k:Nat)(x:Avj):Option (Qj):=match x with
 |(s,out) =>
 (An ([[67,82,69,65,84,69,32,84,65,66,76,69,32],s.name,[32,40]],out)).bind λx =>
  Ak (λrec=>P2 rec (λe vz=>match vz with|(_,_,v4,v5)=>match e with
  |.exit 0 =>
   (An ([[44,32,80,82,73,77,65,82,89,32,75,69,89,32]],v4)).bind λx3 =>
   (Li (v5.names,x3)).bind λx4 =>
    Ak (λrec=>Qt rec (λe vz=>match vz with|(_,_,_,a)=>match e with
    |.exit 0 =>
     (An ([[41]],a)).bind λb =>
     some b
    |_=>none)) k (v5.l,(v5.l.length:Int),0,x4)
  |_=>none)) k ((s.cols.length:Int),0,x,s)
theorem A3a(k:Nat):FM 287 Acg Abn (Qy k):=fRL (px:=Apu _ k) (n:=1) Tryz.func287 rfl (λcx H=>by have h2:Lv cx (Um (Qj) k):=lv H (l1 H Boa Ae) Aa Ab;have h1:Lv cx (Afi (Qj) k):=lv H (l1 H Ci (Al (cR H h2 Tryz.func324 rfl (n:=0) (Ag)) Ae)) Aa Ab;have hlwtable_0:=lO H h1 (b:=lp Tryz.f290 0) (k:=k) (n:=0) (s:=Aeq) (step:=P2) (λ_ _ _ (_,_,_,_)=>by kernel_rfl) Ag;have h0:Lv cx (Apu (Qj) k):=lv H (l1 H Ci (l1 H Apr (c1 H Aye (l1 H Pt (Al (cR H h1 Tryz.func290 rfl (n:=1) ((A5 Ag hlwtable_0))) Ae))))) Aa Ab;have hlwtable_1:=lO H h0 (b:=lp Tryz.f287 0) (k:=k) (n:=0) (s:=Afk) (step:=Qt) (λ_ _ _ (_,_,_,_)=>by kernel_rfl) Ag;exact⟨h0,(A5 Ag hlwtable_1)⟩) λ(_,_)=>by kernel_rfl
def Bre(s:Stm)(out:Str):Option Str:=cond (okT s) (app out (Aco s)) none
def Zq:Avj->Option Qj:=λx=>Bre x.1 x.2
theorem Bfr(k:Nat)(s:Stm)(out:Str)(hb:BdStm s)(h:okT s=true)(hk:J1 s<=k):Qy k (s,out)=app out (Aco s):=by
 simp only[okT,Zb1] at h;obtain⟨⟨h1,h2⟩,h3⟩:=h;simp[J1] at hk;have hl:=Zg2.1 h3;simp only[Qy,ww,fl3];refine(Cw λx hx=>(Ir s.cols Azg (λi acc=>((s.cols.length:Int),(i:Int),acc,s)) (λacc=>(app acc ([44,32,80,82,73,77,65,82,89,32,75,69,89,32]++nmT s.names)).bind λx=>(app x (s.l.map Bpw).flatten).bind λx=>app x [41]) (λi hi acc rec =>?_) (λacc rec =>?_) k (by omega) x hx)).trans ?_
 ·simp only[P2,C6 hi,Ay hi,Aw (c :=.col) hi,wc ((Zg2.1 h1) _ (List.getElem_mem hi)),As hi hb.cols.1,ww];exact Lh i acc (Azg s.cols[i]) _
 ·simp[P2,ww,fl1,wn h2];rw[Cq];refine Cw λx hx=>Bju s.l Bpw (λi acc=>(s.l,(s.l.length:Int),(i:Int),acc)) (λacc=>app acc [41]) (λi hi acc rec =>?_) (λacc rec =>?_) k (by omega) x hx
  ·simp only[Qt,C6 hi,Ay hi,chk,Aw (c :=.expr) hi,we (hl _ (List.getElem_mem hi)),As hi hb.l.1,ww,fl1,Bpw];cases decide (parts s.l[i].kind=0) with|true=>simp[ Cq]|false=>simp[ Cq]
  ·simp[Qt,ww,fl1]
 ·simp[Gq,Aco]
theorem A9x:FM 287 Acg Abn Zq :=.fin 0 A3a λ(s,out) r hb hx=>⟨J1 s,by
 have hx:cond (okT s) (app out (Aco s)) none=some r:=hx;cases ho:okT s with
 |false=>rw[ho] at hx;cases hx
 |true =>rw[ho] at hx;exact(Bfr (J1 s) s out hb.1 ho (Zn1 _)).trans hx⟩
theorem wt{s:Stm}(h:okT s=true)(out:Str):Zq (s,out)=app out (Aco s):=by show cond (okT s) _ _=_;rw[h];rfl
def A0d(p:Str×Bool):Str:=p.1++cond p.2 [32,68,69,83,67] []
def Bcj(s:Stm):Str:=cond (decide (0<=s.most)) ([32,76,73,77,73,84,32]++Kv ⟨3,s.most,[]⟩) []
def obT(s:Stm):Str:=cond (decide (0<(s.order.length:Int))) [32,79,82,68,69,82,32,66,89,32] []
def Bdx(s:Stm):Str:=[83,69,76,69,67,84,32]++cond (decide ((s.l.length:Int)=0)) [42] []++Gy etx s.l++([32,70,82,79,77,32]++s.name)++whT s++obT s++Gy A0d (s.order.zip s.desc)++Bcj s
def okS(s:Stm):Bool:=s.l.all okx&&okW s&&decide (s.desc.length=s.order.length)
def Wc:Sig:=⟨2,[(1,.sv .stmt)],[(0,.ptr 0 0)],[(0,.bld 352)],1,1,0,[],[]⟩
def Wo:Sig:=⟨0,[],[],[(0,.bld 352)],1,1,0,[],[]⟩
abbrev Ari:=Stm×List UInt8
abbrev Ez:=List UInt8
def Y0:Sig:=⟨20,[(7,.int .i64),(8,.int .i64)],[(0,.ptr 0 0),(2,.fn 330 [.ptr 1 0,.ptr 2 0])],[(0,.bld 352),(1,.fx [.ptr 0 0]),(2,.one (.sv .stmt))],80,80,600,[],[]⟩
abbrev Ka:=Int×Int×List UInt8×Stm
def F8{R:Type}(rec:Ka->Option R)(kx:Ex->Ka->Option R)(v:Ka):Option R:=match v with
 |(v6,v7,w2,w3) =>
 cond (decide (v7<v6)) (
  let j1:=λ(q3:List UInt8) =>
  chk (inb v7 w3.order.length) (
   (An ([(at' .str w3.order v7)],q3)).bind λx8 =>
   chk (inb v7 w3.desc.length) (
    cond ((at' .bool w3.desc v7)) (
    (An ([[32,68,69,83,67]],x8)).bind λx9 =>rec (v6,(wr .i64 (v7+1)),x9,w3)) (
    rec (v6,(wr .i64 (v7+1)),x8,w3))))
  cond (decide (0<v7)) (
  (An ([[44,32]],w2)).bind λx7 =>j1 x7) (
  j1 w2)) (
  kx (.exit 0) (v6,v7,w2,w3))
def Z6:Sig:=⟨20,[(7,.int .i64),(8,.int .i64)],[(0,.ptr 0 0),(2,.fn 329 [.ptr 1 0,.ptr 2 0])],[(0,.bld 352),(1,.fx [.ptr 0 0]),(2,.one (.sv .stmt))],80,80,400,[],[]⟩
abbrev J7:=Int×Int×List UInt8×Stm
def Iq{R:Type}(rec:J7->Option R)(kx:Ex->J7->Option R)(v:J7):Option R:=match v with
 |(v,v1,w,w1) =>
 cond (decide (v1<v)) (
  let j:=λ(q1:List UInt8) =>
  chk (inb v1 w1.l.length) (
   (Et ((at' .expr w1.l v1),q1)).bind λx3 =>
   rec (v,(wr .i64 (v1+1)),x3,w1))
  cond (decide (0<v1)) (
  (An ([[44,32]],w)).bind λx2 =>j x2) (
  j w)) (
  kx (.exit 0) (v,v1,w,w1))
def Py(R:Type)(_k:Nat):Px R:=pxO [(293,Aj Fi Fb Et)] [] [] []
noncomputable def Zh(R:Type)(k:Nat):Px R:=pxO [(288,Aj B5 B6 An),(329,Aq 120 600 (Py R k) Tryz.f329)] [] [(1,Am k Z6 (Iq))] []
def O7(R:Type)(_k:Nat):Px R:=pxO [(288,Aj B5 B6 An)] [] [] []
noncomputable def Yi(R:Type)(k:Nat):Px R:=pxO [(288,Aj B5 B6 An),(330,Aq 120 800 (O7 R k) Tryz.f330)] [] [(1,Am k Y0 (F8))] []
noncomputable def Ag4(R:Type)(k:Nat):Px R:=pxO [(288,Aj B5 B6 An),(295,Aj S6 Sv Gk),(290,Acr 80 400 (Zh R k) Tryz.f290 (Aq 80 600 (Yi R k) Tryz.f290))] [(328,qA Yx)] [] []
def Ol(k:Nat)(x:Ari):Option (Ez):=match x with
 |(s,out) =>
 (An ([[83,69,76,69,67,84,32]],out)).bind λx =>
  let j3:=λ(q:List UInt8) =>
  Ak (λrec=>Iq rec (λe vz=>match vz with|(_,_,v4,v5)=>match e with
   |.exit 0 =>
   (An ([[32,70,82,79,77,32],v5.name],v4)).bind λx4 =>
    (Gk (v5,x4)).bind λx5 =>
    let j2:=λ(q2:List UInt8) =>
     Ak (λrec=>F8 rec (λe vz=>match vz with|(_,_,a,b)=>match e with
     |.exit 0 =>
      cond (decide (0<=b.most)) (
      (An ([[32,76,73,77,73,84,32],(Kv (Val.mk 3 b.most []))],a)).bind λc =>some c) (
      some a)
     |_=>none)) k ((v5.order.length:Int),0,q2,v5)
    cond (decide (0<(v5.order.length:Int))) (
     (An ([[32,79,82,68,69,82,32,66,89,32]],x5)).bind λx6 =>
     j2 x6) (
     j2 x5)
   |_=>none)) k ((s.l.length:Int),0,q,s)
  cond (decide ((s.l.length:Int)=0)) (
  (An ([[42]],x)).bind λx1 =>j3 x1) (
  j3 x)
theorem Awq(k:Nat):FM 296 Wc Wo (Ol k):=fRL (px:=Ag4 _ k) (n:=0) Tryz.func296 rfl (λcx H=>by have h2:Lv cx (Py (Ez) k):=lv H (l1 H Pt Ae) Aa Ab;have h1:Lv cx (Zh (Ez) k):=lv H (l1 H Ci (Al (cR H h2 Tryz.func329 rfl (n:=0) (Ag)) Ae)) Aa Ab;have hlwchosen_0:=lO H h1 (b:=lp Tryz.f290 0) (k:=k) (n:=0) (s:=Z6) (step:=Iq) (λ_ _ _ (_,_,_,_)=>by kernel_rfl) Ag;have h4:Lv cx (O7 (Ez) k):=lv H (l1 H Ci Ae) Aa Ab;have h3:Lv cx (Yi (Ez) k):=lv H (l1 H Ci (Al (cR H h4 Tryz.func330 rfl (n:=0) (Ag)) Ae)) Aa Ab;have hlwchosen_1:=lO H h3 (b:=lp Tryz.f290 0) (k:=k) (n:=0) (s:=Y0) (step:=F8) (λ_ _ _ (_,_,_,_)=>by kernel_rfl) Ag;have h0:Lv cx (Ag4 (Ez) k):=lv H (l1 H Ci (l1 H An2 (Al (Bgb (cR H h1 Tryz.func290 rfl (n:=1) ((A5 Ag hlwchosen_0))) (cR H h3 Tryz.func290 rfl (n:=1) ((A5 Ag hlwchosen_1)))) Ae))) (q1 H Ao2 Aa) Ab;exact⟨h0,Ag⟩) λ(_,_)=>by kernel_rfl
def Bme(s:Stm)(out:Str):Option Str:=cond (okS s) (app out (Bdx s)) none
def Rq:Ari->Option Ez:=λx=>Bme x.1 x.2
theorem Ahl{R:Type}{b:Bool}{out t:Str}{c:Str->Option R}(ho:out.length<=260000000000):cond b ((app out t).bind c) (c out)=(app out (cond b t [])).bind c:=by cases b with|true=>rfl|false=>rw[Af,Af,Age ho];rfl
theorem Bb4(k:Nat)(s:Stm)(out:Str)(hb:BdStm s)(h:okS s=true)(hk:J1 s<=k):Ol k (s,out)=app out (Bdx s):=by
 simp only[okS,Zb1,Zg1] at h;obtain⟨⟨h1,h2⟩,h3⟩:=h;simp[J1] at hk;have hz:(s.order.zip s.desc).length=s.order.length:=by rw[List.length_zip];omega
 have hend:∀x:Str,x.length<=260000000000->cond (decide (0<=s.most)) (app x ([32,76,73,77,73,84,32]++Kv ⟨3,s.most,[]⟩)) (some x)=app x (Bcj s):=λx hx=>by simp[Bcj];cases decide (0<=s.most) with|true=>rfl|false=>rw[Af,Af,Age hx]
 have hord:∀(kx:Ex->Ka->Option Ez),(∀acc,kx (.exit 0) ((s.order.length:Int),(s.order.length:Int),acc,s)=cond (decide (0<=s.most)) (app acc ([32,76,73,77,73,84,32]++Kv ⟨3,s.most,[]⟩)) (some acc))->∀x:Str,x.length<=260000000000 ->
   Ak (λrec=>F8 rec kx) k ((s.order.length:Int),0,x,s)=(app x (Gy A0d (s.order.zip s.desc))).bind λx=>app x (Bcj s):=λkx hkx x hx=>by
  refine(Ir (s.order.zip s.desc) A0d (λi acc=>((s.order.length:Int),(i:Int),acc,s)) (λacc=>cond (decide (0<=s.most)) (app acc ([32,76,73,77,73,84,32]++Kv ⟨3,s.most,[]⟩)) (some acc)) (λi hi acc rec =>?_) (λacc rec =>?_) k (by omega) x hx).trans (Cw hend)
  ·have hi1:i<s.order.length:=by omega
   have hi2:i<s.desc.length:=by omega
   have hg:(s.order.zip s.desc)[i]=(s.order[i],s.desc[i]):=by simp
   simp only[F8,C6 hi1,Ah,Ay hi1,Ay hi2,chk,Aw (c :=.str) hi1,Aw (c :=.bool) hi2,As hi1 hb.order.1,ww,fl1,hg];have hitem:∀q:Str,((app q s.order[i]).bind λx8=>cond s.desc[i] ((app x8 [32,68,69,83,67]).bind λx9=>rec ((s.order.length:Int),((i+1:Nat):Int),x9,s)) (rec ((s.order.length:Int),((i+1:Nat):Int),x8,s)))=(app q (A0d (s.order[i],s.desc[i]))).bind λx=>rec ((s.order.length:Int),((i+1:Nat):Int),x,s):=λq=>by simp[A0d];rw[<-Cq];exact Cw λx hx=>Ahl hx
   simp only[hitem];exact Lh i acc _ _
  ·rw[hz];simp[F8,hkx]
 simp only[Ol,ww,fl2];have hsel:∀(kx:Ex->J7->Option Ez),(∀acc:Str,acc.length<=260000000000->kx (.exit 0) ((s.l.length:Int),(s.l.length:Int),acc,s)=app acc (([32,70,82,79,77,32]++s.name)++whT s++obT s++Gy A0d (s.order.zip s.desc)++Bcj s))->∀x:Str,x.length<=260000000000 ->
   Ak (λrec=>Iq rec kx) k ((s.l.length:Int),0,x,s)=app x (Gy etx s.l++(([32,70,82,79,77,32]++s.name)++whT s++obT s++Gy A0d (s.order.zip s.desc)++Bcj s)):=λkx hkx x hx=>by
  refine(Ir s.l etx (λi acc=>((s.l.length:Int),(i:Int),acc,s)) (λacc=>kx (.exit 0) ((s.l.length:Int),(s.l.length:Int),acc,s)) (λi hi acc rec =>?_) (λacc rec =>?_) k (by omega) x hx).trans ((Cw hkx).trans (Gq _ _ _))
  ·simp only[Iq,C6 hi,Ay hi,Aw (c :=.expr) hi,we ((Zg2.1 h1) _ (List.getElem_mem hi)),As hi hb.l.1];exact Lh i acc _ _
  ·simp[Iq]
 refine(Cw λx hx=>(Ahl hx).trans (Cw λq hq=>hsel _ (λacc ha =>?_) q hq)).trans ?_
 ·show((app acc ([32,70,82,79,77,32]++s.name)).bind λx4=>(Gk (s,x4)).bind λx5=>cond (decide (0<(s.order.length:Int))) ((app x5 [32,79,82,68,69,82,32,66,89,32]).bind λx6=>Ak (λrec=>F8 rec _) k ((s.order.length:Int),0,x6,s)) (Ak (λrec=>F8 rec _) k ((s.order.length:Int),0,x5,s)))=_;simp only[wh h2];rw[Cq];refine(Cw λx5 hx5=>(Ahl hx5).trans (Cw λy hy=>hord _ (λ_ =>?_) y hy)).trans ?_
  ·simp
  ·simp[Gq,obT]
 ·simp[Gq,Bdx]
theorem A3b:FM 296 Wc Wo Rq :=.fin 0 Awq λ(s,out) r hb hx=>⟨J1 s,by
 have hx:cond (okS s) (app out (Bdx s)) none=some r:=hx;cases ho:okS s with
 |false=>rw[ho] at hx;cases hx
 |true =>rw[ho] at hx;exact(Bb4 (J1 s) s out hb.1 ho (Zn1 _)).trans hx⟩
theorem ws{s:Stm}(h:okS s=true)(out:Str):Rq (s,out)=app out (Bdx s):=by show cond (okS s) _ _=_;rw[h];rfl
def Bii(r:List Xpr):Str:=[40]++(Gy etx r++[41])
def Bor(x:SetE):Str:=x.name++[32,61,32]++etx x.e
def A2p(s:Stm):Str :=
 if s.kind=1 then Aco s
 else if s.kind=2 then [68,82,79,80,32,84,65,66,76,69,32]++s.name
 else if s.kind=3 then [67,82,69,65,84,69,32,73,78,68,69,88,32]++(s.name++([32,79,78,32]++(s.on++[32])))++nmT s.names
 else if s.kind=4 then [68,82,79,80,32,73,78,68,69,88,32]++s.name
 else if s.kind=5 then [73,78,83,69,82,84,32,73,78,84,79,32]++(s.name++[32,86,65,76,85,69,83,32])++Gy Bii s.rows
 else if s.kind=6 then [85,80,68,65,84,69,32]++(s.name++[32,83,69,84,32])++Gy Bor s.sets++whT s
 else if s.kind=7 then [68,69,76,69,84,69,32,70,82,79,77,32]++s.name++whT s
 else Bdx s
def okP(s:Stm):Bool :=
 if s.kind=1 then okT s
 else if s.kind=2\/s.kind=4 then true
 else if s.kind=3 then Asi s.names
 else if s.kind=5 then s.rows.all λr=>r.all okx
 else if s.kind=6 then s.sets.all (λx=>okx x.e)&&okW s
 else if s.kind=7 then okW s
 else decide (s.kind=8)&&okS s
def Pn:Sig:=⟨20,[(7,.int .i64),(8,.int .i64)],[(0,.ptr 1 0),(2,.fn 294 [.ptr 1 0,.ptr 0 0])],[(0,.one (.sv .stmt)),(1,.bld 352)],40,40,200,[],[]⟩
abbrev Fx:=Int×Int×Stm×List UInt8
def Jf{R:Type}(rec:Fx->Option R)(kx:Ex->Fx->Option R)(v:Fx):Option R:=match v with
 |(b,a,w5,w6) =>
 cond (decide (a<b)) (
  let j2:=λ(q2:List UInt8) =>
  chk (inb a w5.sets.length) (
   (An ([((at' .set w5.sets a).name),[32,61,32]],q2)).bind λc =>
   chk (inb a w5.sets.length) (
    (Et ((O0 ((at' .set w5.sets a).e)),c)).bind λd =>
    rec (b,(wr .i64 (a+1)),w5,d)))
  cond (decide (0<a)) (
  (An ([[44,32]],w6)).bind λf =>j2 f) (
  j2 w6)) (
  kx (.exit 0) (b,a,w5,w6))
def Ads:Sig:=⟨20,[(7,.int .i64),(8,.int .i64)],[(0,.ptr 1 0),(2,.fn 292 [.ptr 1 0,.ptr 0 0,.ptr 80 0])],[(0,.one (.sv .stmt)),(1,.bld 352),(80,.cells [.int .i64])],120,120,600,[],[]⟩
abbrev Ni:=Int×Int×Stm×List UInt8×Int
def Jp{R:Type}(rec:Ni->Option R)(kx:Ex->Ni->Option R)(v:Ni):Option R:=match v with
 |(v2,v3,w2,w3,w4) =>
 cond (decide (v3<v2)) (
  let j:=λ(q1:List UInt8) =>
  chk (inb w4 w2.rows.length) (
   chk (inb v3 ((at' .exprs w2.rows w4).length)) (
   (Et ((at' .expr (at' .exprs w2.rows w4) v3),q1)).bind λa =>rec (v2,(wr .i64 (v3+1)),w2,a,w4)))
  cond (decide (0<v3)) (
  (An ([[44,32]],w3)).bind λx9 =>j x9) (
  j w3)) (
  kx (.exit 0) (v2,v3,w2,w3,w4))
def O5:Sig:=⟨20,[(7,.int .i64),(8,.int .i64)],[(0,.ptr 1 0),(2,.fn 291 [.ptr 1 0,.ptr 0 0])],[(0,.one (.sv .stmt)),(1,.bld 352)],40,40,200,[],[]⟩
abbrev Fu:=Int×Int×Stm×List UInt8
def Jq{R:Type}(k:Nat)(rec:Fu->Option R)(kx:Ex->Fu->Option R)(v:Fu):Option R:=match v with
 |(v,v1,w,w1) =>
 cond (decide (v1<v)) (
  let j1:=λ(q:List UInt8) =>
  (An ([[40]],q)).bind λx8 =>
   chk (inb v1 w.rows.length) (
   Ak (λrc=>Jp rc (λe vz=>match vz with|(_,_,v6,v7,_)=>match e with
    |.exit 0 =>
    (An ([[41]],v7)).bind λa =>rec (v,(wr .i64 (v1+1)),v6,a)
    |_=>none)) k (((at' .exprs w.rows v1).length:Int),0,w,x8,v1))
  cond (decide (0<v1)) (
  (An ([[44,32]],w1)).bind λx7 =>j1 x7) (
  j1 w1)) (
  kx (.exit 0) (v,v1,w,w1))
def Jt(R:Type)(_k:Nat):Px R:=pxO [(293,Aj Fi Fb Et)] [] [] []
noncomputable def Ov(R:Type)(k:Nat):Px R:=pxO [(288,Aj B5 B6 An),(292,Aq 160 800 (Jt R k) Tryz.f292)] [] [(1,Am k Ads (Jp))] []
noncomputable def Tv(R:Type)(k:Nat):Px R:=pxO [(288,Aj B5 B6 An),(290,Aq 120 600 (Ov R k) Tryz.f290)] [] [] []
def T1(R:Type)(_k:Nat):Px R:=pxO [(288,Aj B5 B6 An),(293,Aj Fi Fb Et)] [] [] []
noncomputable def Hj(R:Type)(k:Nat):Px R:=pxO [(288,Aj B5 B6 An),(291,Aq 80 400 (Tv R k) Tryz.f291),(294,Aq 80 400 (T1 R k) Tryz.f294)] [] [(1,Zg k O5 (Jq k) (Am k Pn (Jf)))] []
noncomputable def Ao5(R:Type)(k:Nat):Px R:=pxO [(57,cA I5),(287,Aj Acg Abn Zq),(288,Aj B5 B6 An),(289,Aj Sq S7 Li),(295,Aj S6 Sv Gk),(296,Aj Wc Wo Rq),(297,Aj bstr_si Asf H2),(290,Aq 40 200 (Hj R k) Tryz.f290)] [] [] []
theorem Ayx(R:Type)(k:Nat):∀(fr:List Fr) (rec:Fu->Option R) (kx:Ex->Fu->Option R) (v:Fu),Ot (Hj R k) O5 (lp Tryz.f290 0) fr rec kx v=Jq k rec kx v
 |fr,rec,kx,(v,v1,w,w1)=>by kernel_rfl
theorem Az6(R:Type)(k:Nat):∀(fr:List Fr) (rec:Fx->Option R) (kx:Ex->Fx->Option R) (v:Fx),Ot (Hj R k) Pn (lp Tryz.f290 0) fr rec kx v=Jf rec kx v
 |fr,rec,kx,(a,b,w5,w6)=>by kernel_rfl
def J8(k:Nat)(x:HV [.sv .stmt]):Option (HV [.str,.int .i64]):=match x with
 |s =>
 (I9 s).bind λx =>
  cond (!decide (x=0)) (
  some ([],x)) (
  cond (decide (s.kind=1)) (
   (Zq (s,[])).bind λx1 =>
   (H2 x1).bind λa =>some (a,0)) (
   cond (decide (s.kind=2)) (
   (An ([[68,82,79,80,32,84,65,66,76,69,32],s.name],[])).bind λx2 =>
    (H2 x2).bind λb =>
    some (b,0)) (
   cond (decide (s.kind=3)) (
    (An ([[67,82,69,65,84,69,32,73,78,68,69,88,32],s.name,[32,79,78,32],s.on,[32]],[])).bind λx3 =>
    (Li (s.names,x3)).bind λx4 =>
     (H2 x4).bind λc =>
     some (c,0)) (
    cond (decide (s.kind=4)) (
    (An ([[68,82,79,80,32,73,78,68,69,88,32],s.name],[])).bind λx5 =>
     (H2 x5).bind λd =>
     some (d,0)) (
    cond (decide (s.kind=5)) (
     (An ([[73,78,83,69,82,84,32,73,78,84,79,32],s.name,[32,86,65,76,85,69,83,32]],[])).bind λx6 =>
     Ak (λrec=>Jq k rec (λe vz=>match vz with|(_,_,_,f)=>match e with
      |.exit 0 =>
      (H2 f).bind λg =>some (g,0)
      |_=>none)) k ((s.rows.length:Int),0,s,x6)) (
     cond (decide (s.kind=6)) (
     (An ([[85,80,68,65,84,69,32],s.name,[32,83,69,84,32]],[])).bind λh =>
      Ak (λrec=>Jf rec (λe vz=>match vz with|(_,_,i,j)=>match e with
      |.exit 0 =>
       (Gk (i,j)).bind λl =>
       (H2 l).bind λm =>some (m,0)
      |_=>none)) k ((s.sets.length:Int),0,s,h)) (
     cond (decide (s.kind=7)) (
      (An ([[68,69,76,69,84,69,32,70,82,79,77,32],s.name],[])).bind λn =>
      (Gk (s,n)).bind λo =>
       (H2 o).bind λp =>
       some (p,0)) (
      cond (decide (s.kind=8)) (
      (Rq (s,[])).bind λq =>
       (H2 q).bind λr =>
       some (r,0)) (
      (H2 []).bind λt =>some (t,0))))))))))
theorem A4e(k:Nat):FO 245 [.sv .stmt] [.str,.int .i64] (J8 k):=fR (px:=Ao5 _ k) (n:=0) Tryz.func245 rfl (λcx H=>by have h4:Lv cx (Jt (HV [.str,.int .i64]) k):=lv H (l1 H Pt Ae) Aa Ab;have h3:Lv cx (Ov (HV [.str,.int .i64]) k):=lv H (l1 H Ci (Al (cR H h4 Tryz.func292 rfl (n:=0) (Ag)) Ae)) Aa Ab;have hlaprint_1:=lO H h3 (b:=lp Tryz.f290 0) (k:=k) (n:=0) (s:=Ads) (step:=Jp) (λ_ _ _ (_,_,_,_,_)=>by kernel_rfl) Ag;have h2:Lv cx (Tv (HV [.str,.int .i64]) k):=lv H (l1 H Ci (Al (cR H h3 Tryz.func290 rfl (n:=1) ((A5 Ag hlaprint_1))) Ae)) Aa Ab;have h5:Lv cx (T1 (HV [.str,.int .i64]) k):=lv H (l1 H Ci (l1 H Pt Ae)) Aa Ab;have h1:Lv cx (Hj (HV [.str,.int .i64]) k):=lv H (l1 H Ci (Al (cR H h2 Tryz.func291 rfl (n:=0) (Ag)) (Al (cR H h5 Tryz.func294 rfl (n:=0) (Ag)) Ae))) Aa Ab;have hlaprint_0:B3 cx (Hj (HV [.str,.int .i64]) k) (lp Tryz.f290 0):=A5p (λ_ _=>by kernel_rfl) (Ac6 (Q1 h1.p h1.c h1.q (by rw[H.p];exact follows) (k:=k) (s:=O5) (step:=Jq k) (by kernel_rfl) (Ayx _ k) (Hl (n:=0) (by kernel_rfl) Ag)) (Q1 h1.p h1.c h1.q (by rw[H.p];exact follows) (k:=k) (s:=Pn) (step:=Jf) (by kernel_rfl) (Az6 _ k) (Hl (n:=0) (by kernel_rfl) Ag)));have h0:Lv cx (Ao5 (HV [.str,.int .i64]) k):=lv H (c1 H Lb (l1 H A9x (l1 H Ci (l1 H Apr (l1 H An2 (l1 H A3b (l1 H Bm0 (Al (cR H h1 Tryz.func290 rfl (n:=1) ((A5 Ag hlaprint_0))) Ae)))))))) Aa Ab;exact⟨h0,Ag⟩) λ_=>by kernel_rfl
def Alq(s:Stm):Option (Str×Int):=(I9 s).bind λx=>cond (!decide (x=0)) (some ([],x)) (cond (okP s) ((app [] (A2p s)).bind λt=>some (t,0)) none)
def Au6:FT [.sv .stmt] [.str,.int .i64]:=λx=>Alq x
theorem Amz{R:Type}{kx:Ex->Ni->Option R}{s:Stm}{j:Nat}{c:Str->Option R}(hj:j<s.rows.length)(hn:ln s.rows[j].length)(hok:s.rows[j].all okx=true)(h2:∀acc,kx (.exit 0) ((s.rows[j].length:Int),(s.rows[j].length:Int),s,acc,(j:Int))=c acc)(k:Nat)(hk:s.rows[j].length<k)(out:Str)(ho:out.length<=260000000000) :
  Ak (λrec=>Jp rec kx) k ((s.rows[j].length:Int),0,s,out,(j:Int))=(app out (Gy etx s.rows[j])).bind c:=by
 refine Ir s.rows[j] etx (λi acc=>((s.rows[j].length:Int),(i:Int),s,acc,(j:Int))) c (λi hi acc rec =>?_) (λacc rec =>?_) k hk out ho
 ·simp only[Jp,C6 hi,Ay hi,Ay hj,Aw (c :=.exprs) hj,Aw (c :=.expr) hi,we ((Zg2.1 hok) _ (List.getElem_mem hi)),As hi hn];exact Lh i acc _ _
 ·simp[Jp,h2]
theorem Amp{R:Type}{kx:Ex->Fu->Option R}{s:Stm}{c:Str->Option R}(hb:BdStm s)(hok:(s.rows.all λr=>r.all okx)=true)(h2:∀acc,kx (.exit 0) ((s.rows.length:Int),(s.rows.length:Int),s,acc)=c acc)(k:Nat)(hk:J1 s<=k)(out:Str)(ho:out.length<=260000000000) :
  Ak (λrec=>Jq k rec kx) k ((s.rows.length:Int),0,s,out)=(app out (Gy Bii s.rows)).bind c:=by
 simp[J1] at hk;refine Ir s.rows Bii (λi acc=>((s.rows.length:Int),(i:Int),s,acc)) c (λi hi acc rec =>?_) (λacc rec =>?_) k (by omega) out ho
 ·have hm:=A7l (List.getElem_mem hi);have hrow:∀q:Str,((app q [40]).bind λx8=>Ak (λrc=>Jp rc (λe v=>match v with
    |(_,_,v6,v7,_)=>match e with
     |.exit 0=>(app v7 [41]).bind λa=>rec ((s.rows.length:Int),((i+1:Nat):Int),v6,a)
     |_=>none)) k ((s.rows[i].length:Int),0,s,x8,(i:Int)))=(app q (Bii s.rows[i])).bind λx=>rec ((s.rows.length:Int),((i+1:Nat):Int),s,x):=λq=>by
   refine(Cw λx hx=>Amz (c:=λacc=>(app acc [41]).bind λa=>rec ((s.rows.length:Int),((i+1:Nat):Int),s,a)) hi (hb.rows.2 _ (List.getElem_mem hi)).1 ((Zg2.1 hok) _ (List.getElem_mem hi)) (λ_=>rfl) k (by omega) x hx).trans ?_;simp[Cq,Bii]
  simp only[Jq,C6 hi,Ah,Ay hi,chk,Aw (c :=.exprs) hi,As hi hb.rows.1,ww,fl1];refine Eq.trans ?_ (Lh i acc _ _);have e:∀(b:Bool) (x y x' y':Option R),x=x'->y=y'->cond b x y=cond b x' y':=λ_ _ _ _ _ h1 h2=>by rw[h1,h2]
  exact e _ _ _ _ _ (Cw λx _=>hrow x) (hrow acc)
 ·simp[Jq,E6,Af,h2]
theorem Amu{R:Type}{kx:Ex->Fx->Option R}{s:Stm}{c:Str->Option R}(hb:BdStm s)(hok:(s.sets.all λx=>okx x.e)=true)(h2:∀acc,kx (.exit 0) ((s.sets.length:Int),(s.sets.length:Int),s,acc)=c acc)(k:Nat)(hk:s.sets.length<k)(out:Str)(ho:out.length<=260000000000) :
  Ak (λrec=>Jf rec kx) k ((s.sets.length:Int),0,s,out)=(app out (Gy Bor s.sets)).bind c:=by
 refine Ir s.sets Bor (λi acc=>((s.sets.length:Int),(i:Int),s,acc)) c (λi hi acc rec =>?_) (λacc rec =>?_) k hk out ho
 ·simp only[Jf,C6 hi,Ah,Ay hi,chk,Aw (c :=.set) hi,Td,we ((Zg2.1 hok) _ (List.getElem_mem hi)),As hi hb.sets.1,ww,fl1,fl2];have hitem:∀q:Str,((app q (s.sets[i].name++[32,61,32])).bind λa=>(app a (etx s.sets[i].e)).bind λb=>rec ((s.sets.length:Int),((i+1:Nat):Int),s,b))=(app q (Bor s.sets[i])).bind λx=>rec ((s.sets.length:Int),((i+1:Nat):Int),s,x):=λq=>by rw[Cq];rfl
  simp only[hitem];exact Lh i acc _ _
 ·simp[Jf,E6,Af,h2]
theorem bs(x:Str):((H2 x).bind λt=>some (t,(0:Int)))=some (x,0):=rfl
theorem Bf0(k:Nat)(s:Stm)(hb:BdStm s)(hk:J1 s<=k)(h:okP s=true)(hc:I9 s=some 0):J8 k s=((app [] (A2p s)).bind λt=>some (t,0)):=by
 have hk2:=hk;simp[J1] at hk2;simp only[J8,hc,Zc1,bs,ww,fl2,fl3,fl5];simp only[okP] at h;simp only[A2p];rw[decide_true,Zt1,Af];by_cases h1:s.kind=1
 ·rw[if_pos h1] at h;rw[Ze1 h1,if_pos h1,Ah,wt h]
 rw[if_neg h1] at h;rw[Zd1 h1,if_neg h1,Af];by_cases h2:s.kind=2
 ·rw[Ze1 h2,if_pos h2,Ah]
 rw[Zd1 h2,if_neg h2,Af];by_cases h3:s.kind=3
 ·rw[if_neg (by omega),if_pos h3] at h;rw[Ze1 h3,if_pos h3,Ah];simp[wn h,Cq]
 rw[Zd1 h3,if_neg h3,Af];by_cases h4:s.kind=4
 ·rw[Ze1 h4,if_pos h4,Ah]
 rw[if_neg (by omega),if_neg h3] at h;rw[Zd1 h4,if_neg h4,Af];by_cases h5:s.kind=5
 ·rw[if_pos h5] at h;rw[Ze1 h5,if_pos h5,Ah];refine(Cw λx hx=>Amp (c:=λt=>some (t,(0:Int))) hb h (λ_=>rfl) k hk x hx).trans ?_;rw[Cq]
 rw[if_neg h5] at h;rw[Zd1 h5,if_neg h5,Af];by_cases h6:s.kind=6
 ·rw[if_pos h6,Zb1] at h;rw[Ze1 h6,if_pos h6,Ah];refine(Cw λx hx=>Amu (c:=λt=>(app t (whT s)).bind λt=>some (t,(0:Int))) hb h.1 (λacc =>?_) k (by omega) x hx).trans ?_
  ·show((Gk (s,acc)).bind λa=>some (a,(0:Int)))=_;rw[wh h.2]
  ·simp[Cq]
 rw[if_neg h6] at h;rw[Zd1 h6,if_neg h6,Af];by_cases h7:s.kind=7
 ·rw[if_pos h7] at h;rw[Ze1 h7,if_pos h7,Ah];simp[wh h,Cq]
 rw[if_neg h7,Zb1,Zg1] at h;rw[Zd1 h7,if_neg h7,Af,Ze1 h.1,Ah,ws h.2]
theorem Bc2:FO 245 [.sv .stmt] [.str,.int .i64] Au6 :=.fin 0 A4e λs r hb hx=>⟨J1 s,by
 have hx:Alq s=some r:=hx;simp only[Alq] at hx;cases hc:I9 s with
 |none=>rw[hc] at hx;cases hx
 |some x =>
  rw[hc,Zc1] at hx;by_cases h0:x=0
  ·subst h0;cases ho:okP s with|false=>rw[ho] at hx;cases hx|true =>rw[ho] at hx;exact(Bf0 (J1 s) s hb (Zn1 _) ho hc).trans hx
  ·rw[Zd1 h0] at hx;rw[<-hx];simp only[J8,hc,Zc1];rw[Zd1 h0];rfl⟩
def Aio(R:Type):Px R:=pxO [(71,cA A0x)] [] [] []
noncomputable def Awy(R:Type):Px R:=pxO [(55,Aj Aau Yr Ase),(56,Aj Alm Aj4 As5),(57,cA I5),(54,Aq 40 200 (Aio R) Tryz.f54)] [] [] []
def Alr(x:HV [.str]):Option (HV [.sv .stmt,.int .i64,.int .i64]):=match x with
 |s =>
 cond (!decide ((A9r s).2.2=0)) (
  some ((Stm.mk 0 [] [] [] [] [] [] [] false (Xpr.mk 0 ⟨0,0,[]⟩ [] []) [] [] 0),(A9r s).2.1,(A9r s).2.2)) (
  (Ase ((A9r s).1,(s.length:Int),false,0)).bind λ(x,x1,x2,x3,x4) =>
  (As5 (x1,x2,x3,x4)).bind λ(x5,_,_,_,x9) =>
   cond (!x5) (
   some ((Stm.mk 0 [] [] [] [] [] [] [] false (Xpr.mk 0 ⟨0,0,[]⟩ [] []) [] [] 0),x9,11)) (
   (I9 x).bind λa =>
    cond (!decide (a=0)) (
    some ((Stm.mk 0 [] [] [] [] [] [] [] false (Xpr.mk 0 ⟨0,0,[]⟩ [] []) [] [] 0),0,a)) (
    some (x,0,0))))
theorem Bbw:FO 38 [.str] [.sv .stmt,.int .i64,.int .i64] (Alr):=fR (px:=Awy _) (n:=0) Tryz.func38 rfl (λcx H=>by have h1:Lv cx (Aio (HV [.sv .stmt,.int .i64,.int .i64])):=lv H (c1 H Bnw Ae) Aa Ab;have h0:Lv cx (Awy (HV [.sv .stmt,.int .i64,.int .i64])):=lv H (l1 H Bj2 (l1 H Bk8 (c1 H Lb (Al (cR H h1 Tryz.func54 rfl (n:=0) (Ag)) Ae)))) Aa Ab;exact⟨h0,Ag⟩) λ_=>by kernel_rfl
def Bqa(s:Str):Option (Stm×Int×Int):=Alr s
def Ar9:FT [.str] [.sv .stmt,.int .i64,.int .i64]:=λx=>Bqa x
theorem Azo:FO 38 [.str] [.sv .stmt,.int .i64,.int .i64] Ar9 :=.fin0 Bbw λ_ _ _ hx=>hx
def Ajm:Sig:=⟨133,[(1,.sl .col false),(2,.sl .val false),(7,.int .i64),(8,.sl .val true),(9,.bool),(15,.sl .expr false),(16,.int .i64),(17,.int .i64)],[(3,.ptr 0 0),(6,.ptr 1 0)],[(0,.one (.sv .expr)),(1,.one (.sv .val))],2,0,0,[],[]⟩
abbrev Acv:=List Col×List Val×Int×List Val×Bool×List Xpr×Int×Int×Xpr×Val
def Ash{R:Type}(rf:FT [.sv .expr,.sl .col false,.sl .val false] [.sv .val,.int .i64])(rec:Acv->Option R)(kx:Ex->Acv->Option R)(v:Acv):Option R:=match v with
 |(v,v1,v2,v3,v4,v5,v6,v7,w,w1) =>
 cond (decide (v7<v6)) (
  chk (inb v7 v5.length) (
  (rf ((at' .expr v5 v7),v,v1)).bind λ(x,x1) =>
   cond (!decide (x1=0)) (
   kx .ret (v,v1,x1,v3,v4,v5,v6,v7,w,(Val.mk 0 0 []))) (
   chk (decide (v3.length+1<=Ai)) (
    cond (v4) (
    rec (v,v1,v2,(v3++[x]),true,v5,v6,(wr .i64 (v7+1)),w,w1)) (
    rec (v,v1,v2,(v3++[x]),decide (x.kind=1),v5,v6,(wr .i64 (v7+1)),w,w1)))))) (
  kx (.exit 0) (v,v1,v2,v3,v4,v5,v6,v7,w,w1))
def Axz(R:Type)(k:Nat)(rf:FT [.sv .expr,.sl .col false,.sl .val false] [.sv .val,.int .i64]):Px R:=pxO [(260,cA rf),(281,cA A1i),(271,cA A5x),(310,cA Azz)] [(226,qA Ags)] [(4,Am k Ajm (Ash rf))] []
def Vr(k:Nat)(rf:FT [.sv .expr,.sl .col false,.sl .val false] [.sv .val,.int .i64])(x:HV [.sv .expr,.sl .col false,.sl .val false]):Option (HV [.sv .val,.int .i64]):=match x with
 |(e,cols,row) =>
 Ak (λrec=>Ash rf rec (λe vz=>match vz with|(v8,v9,d,b,c,_,_,_,a,f)=>match e with
  |.ret =>
  some (f,d)
  |.exit 0 =>
  cond (decide (a.kind=1)) (
   some (a.v,0)) (
   cond (decide (a.kind=2)) (
   chk (inb (Jr v8 a.name) v9.length) (
    some ((at' .val v9 (Jr v8 a.name)),0))) (
   cond (decide (a.kind=16)) (
    some ((An9 c),0)) (
    let j:=λ(p5:Bool) =>
    cond (p5) (
     none) (
     cond (c) (
     some ((Val.mk 1 0 []),0)) (
     cond (decide (a.kind=3)) (
      chk (inb 0 b.length) (
      some ((An9 (decide ((at' .val b 0).n=0))),0))) (
      cond (decide (a.kind=15)) (
      chk (inb 0 b.length) (
       none)) (
      cond (decide (12<=a.kind)) (
       chk (inb 0 b.length) (
       chk (inb 1 b.length) (
        none))) (
       chk (inb 0 b.length) (
       chk (inb 1 b.length) (
        some ((An9 (Ato a.kind (Bg1 (at' .val b 0) (at' .val b 1)))),0))))))))
    cond (decide (a.kind=4)) (
    j true) (
    j (decide (a.kind=5))))))
  |_=>none)) k (cols,row,0,[],false,e.l,(e.l.length:Int),0,e,(Val.mk 0 0 []))
theorem Bbg(k:Nat)(rf:FT [.sv .expr,.sl .col false,.sl .val false] [.sv .val,.int .i64])(hrf:FO 260 [.sv .expr,.sl .col false,.sl .val false] [.sv .val,.int .i64] rf):FO 260 [.sv .expr,.sl .col false,.sl .val false] [.sv .val,.int .i64] (Vr k rf):=fR (px:=Axz _ k rf) (n:=1) Tryz.func260 rfl (λcx H=>by have h0:Lv cx (Axz (HV [.sv .val,.int .i64]) k rf):=lv H (c1 H hrf (c1 H A8e (c1 H Bhy (c1 H A87 Ae)))) (q1 H Af2 Aa) Ab;have hlevalQ_0:=lO H h0 (b:=lp Tryz.f260 0) (k:=k) (n:=0) (s:=Ajm) (step:=Ash rf) (λ_ _ _ (_,_,_,_,_,_,_,_,_,_)=>by kernel_rfl) Ag;exact⟨h0,(A5 Ag hlevalQ_0)⟩) λ(_,_,_)=>by kernel_rfl
def Bqf(e:Xpr)(cols:List Col)(row:List Val):Option (Val×Int):=Ak (Vr 9) 9 (e,cols,row)
def A6p:FT [.sv .expr,.sl .col false,.sl .val false] [.sv .val,.int .i64]:=λx=>Bqf x.1 x.2.1 x.2.2
theorem Bhf:FO 260 [.sv .expr,.sl .col false,.sl .val false] [.sv .val,.int .i64] A6p :=.fin (ι:=Nat) 0 (F:=λn=>Ak (Vr n) n) (λn=>FnOk.rec' (Sx.enters_of Tryz.func260 rfl rfl) (λrf hrf=>Bbg n rf hrf) n) λ_ _ _ hx=>⟨9,hx⟩
def Zn:Sig:=⟨28,[(1,.sl .val false),(4,.bool),(12,.sl .col false),(13,.int .i64),(14,.int .i64)],[],[],0,0,0,[],[]⟩
abbrev Pb:=List Val×Bool×List Col×Int×Int
def Aa6{R:Type}(rec:Pb->Option R)(kx:Ex->Pb->Option R)(v:Pb):Option R:=match v with
 |(v,v1,v2,v3,v4) =>
 cond (decide (v4<v3)) (
  chk (inb v4 v2.length) (
  chk (inb v4 v.length) (
   cond (!(A8w (at' .val v v4) ((at' .col v2 v4).kind))) (
   kx .ret (v,false,v2,v3,v4)) (
   rec (v,v1,v2,v3,(wr .i64 (v4+1))))))) (
  kx (.exit 0) (v,v1,v2,v3,v4))
def Aja(R:Type)(k:Nat):Px R:=pxO [(307,cA A5a)] [] [(4,Am k Zn (Aa6))] []
def X9(k:Nat)(x:HV [.sl .col false,.sl .val false]):Option (HV [.bool]):=match x with
 |(cols,row) =>
 cond (!decide ((cols.length:Int)=(row.length:Int))) (
  some false) (
  Ak (λrec=>Aa6 rec (λe vz=>match vz with|(_,v6,_,_,_)=>match e with
  |.ret =>some v6
  |.exit 0 =>some true
  |_=>none)) k (row,false,cols,(cols.length:Int),0))
theorem Axj(k:Nat):FO 259 [.sl .col false,.sl .val false] [.bool] (X9 k):=fR (px:=Aja _ k) (n:=1) Tryz.func259 rfl (λcx H=>by have h0:Lv cx (Aja (HV [.bool]) k):=lv H (c1 H Bie Ae) Aa Ab;have hlrowfitQ_0:=lO H h0 (b:=lp Tryz.f259 0) (k:=k) (n:=0) (s:=Zn) (step:=Aa6) (λ_ _ _ (_,_,_,_,_)=>by kernel_rfl) Ag;exact⟨h0,(A5 Ag hlrowfitQ_0)⟩) λ(_,_)=>by kernel_rfl
def Atf(cols:List Col)(row:List Val):Option Bool:=X9 9 (cols,row)
def Abf:FT [.sl .col false,.sl .val false] [.bool]:=λx=>Atf x.1 x.2
theorem Ahz:FO 259 [.sl .col false,.sl .val false] [.bool] Abf :=.fin 0 Axj λ_ _ _ hx=>⟨9,hx⟩
def Aqr:Sig:=⟨19,[(0,.int .u64),(3,.sl .byte true)],[],[],0,0,0,[],[]⟩
abbrev Ze:=Int×List UInt8
def Wj{R:Type}(rec:Ze->Option R)(kx:Ex->Ze->Option R)(v:Ze):Option R:=match v with
 |(v,v1) =>
 cond (decide (128<=v)) (
  chk (decide (v1.length+1<=Ai)) (
  rec ((Dt .u64 v 7),(v1++[(UInt8.ofNat ((ior .u8 (wr .u8 v) 128):Int).toNat)])))) (
  kx (.exit 0) (v,v1))
def A66(R:Type)(k:Nat):Px R:=pxO [] [] [(2,Am k Aqr (Wj))] []
def Anw(k:Nat)(x:HV [.int .u64]):Option (HV [.sl .byte true]):=match x with
 |n =>
 Ak (λrec=>Wj rec (λe vz=>match vz with|(v2,v3)=>match e with
  |.exit 0 =>
  chk (decide (v3.length+1<=Ai)) (
   some (v3++[(UInt8.ofNat ((wr .u8 v2):Int).toNat)]))
  |_=>none)) k (n,[])
theorem Be7(k:Nat):FO 18 [.int .u64] [.sl .byte true] (Anw k):=fR (px:=A66 _ k) (n:=1) Tryz.func18 rfl (λcx H=>by have h0:Lv cx (A66 (HV [.sl .byte true]) k):=lv H Ae Aa Ab;have hlvput_0:=lO H h0 (b:=lp Tryz.f18 0) (k:=k) (n:=0) (s:=Aqr) (step:=Wj) (λ_ _ _ (_,_)=>by kernel_rfl) Ag;exact⟨h0,(A5 Ag hlvput_0)⟩) λ_=>by kernel_rfl
def Ah4(n:Int):Option Str:=Anw 100 n
def N7:FT [.int .u64] [.sl .byte true]:=λx=>Ah4 x
theorem J6:FO 18 [.int .u64] [.sl .byte true] N7 :=.fin 0 Be7 λ_ _ _ hx=>⟨100,hx⟩
def Bfs(R:Type):Px R:=pxO [(18,cA N7)] [] [] []
def Wy(x:HV [.sl .byte false]):Option (HV [.sl .byte true]):=match x with
 |s =>
 (Ah4 (wr .u64 (s.length:Int))).bind λx =>
  chk (decide (x.length+s.length<=Ai)) (
  some (x++s))
theorem Bai:FO 20 [.sl .byte false] [.sl .byte true] (Wy):=fR (px:=Bfs _) (n:=0) Tryz.func20 rfl (λ_ H=>⟨lv H (c1 H J6 Ae) Aa Ab,Ag⟩) λ_=>by kernel_rfl
def Api(s:Str):Option Str:=Wy s
def Re:FT [.sl .byte false] [.sl .byte true]:=λx=>Api x
theorem Qa:FO 20 [.sl .byte false] [.sl .byte true] Re :=.fin0 Bai λ_ _ _ hx=>hx
def Aij:Sig:=⟨22,[(3,.sl .byte true),(10,.sl .bytes false),(11,.int .i64),(12,.int .i64)],[],[],0,0,0,[],[]⟩
abbrev R6:=List UInt8×List (List UInt8)×Int×Int
def S0{R:Type}(rec:R6->Option R)(kx:Ex->R6->Option R)(v:R6):Option R:=match v with
 |(v,v1,v2,v3) =>
 cond (decide (v3<v2)) (
  chk (inb v3 v1.length) (
  (Api (at' .bytes v1 v3)).bind λx1 =>
   chk (decide (v.length+x1.length<=Ai)) (
   rec ((v++x1),v1,v2,(wr .i64 (v3+1)))))) (
  kx (.exit 0) (v,v1,v2,v3))
def Avh(R:Type)(k:Nat):Px R:=pxO [(18,cA N7),(20,cA Re)] [] [(3,Am k Aij (S0))] []
def U3(k:Nat)(x:HV [.sl .bytes false]):Option (HV [.sl .byte true]):=match x with
 |l =>
 (Ah4 (wr .u64 (l.length:Int))).bind λx =>
  Ak (λrec=>S0 rec (λe vz=>match vz with|(v4,_,_,_)=>match e with
  |.exit 0 =>some v4
  |_=>none)) k (x,l,(l.length:Int),0)
theorem Bc3(k:Nat):FO 41 [.sl .bytes false] [.sl .byte true] (U3 k):=fR (px:=Avh _ k) (n:=1) Tryz.func41 rfl (λcx H=>by have h0:Lv cx (Avh (HV [.sl .byte true]) k):=lv H (c1 H J6 (c1 H Qa Ae)) Aa Ab;have hlvjoin_0:=lO H h0 (b:=lp Tryz.f41 0) (k:=k) (n:=0) (s:=Aij) (step:=S0) (λ_ _ _ (_,_,_,_)=>by kernel_rfl) Ag;exact⟨h0,(A5 Ag hlvjoin_0)⟩) λ_=>by kernel_rfl
def Ame(l:List Str):Option Str:=U3 50000 l
def Ast:FT [.sl .bytes false] [.sl .byte true]:=λx=>Ame x
theorem Awb:FO 41 [.sl .bytes false] [.sl .byte true] Ast :=.fin 0 Bc3 λ_ _ _ hx=>⟨50000,hx⟩
def Arb:Sig:=⟨59,[(1,.int .i64),(4,.int .u64),(5,.int .i64),(6,.int .i64),(7,.int .u64),(8,.int .i64),(21,.sl .byte false),(22,.int .i64),(23,.int .i64)],[],[],0,0,0,[],[]⟩
abbrev Ls:=Int×Int×Int×Int×Int×Int×List UInt8×Int×Int
def Hd{R:Type}(rec:Ls->Option R)(kx:Ex->Ls->Option R)(v:Ls):Option R:=match v with
 |(v,v1,v2,v3,v4,v5,v6,v7,v8) =>
 cond (decide (v8<v7)) (
  chk (inb v8 v6.length) (
  let j1:=λ(_:Unit) =>
   chk (decide (0<=(wr .i64 (7*v8)))) (
   cond (decide (((at' .byte v6 v8).toNat:Int)<128)) (
    kx .ret (v,(ior .u64 v4 (Zw .u64 (wr .u64 (Ef .u8 ((at' .byte v6 v8).toNat:Int) 127)) (wr .i64 (7*v8)))),(wr .i64 ((wr .i64 (v+v8))+1)),0,(ior .u64 v4 (Zw .u64 (wr .u64 (Ef .u8 ((at' .byte v6 v8).toNat:Int) 127)) (wr .i64 (7*v8)))),v5,v6,v7,v8)) (
    rec (v,v1,v2,v3,(ior .u64 v4 (Zw .u64 (wr .u64 (Ef .u8 ((at' .byte v6 v8).toNat:Int) 127)) (wr .i64 (7*v8)))),v5,v6,v7,(wr .i64 (v8+1)))))
  let j:=λ(p4:Bool) =>
   cond (p4) (
   kx (.exit 0) (v,v1,v2,v3,v4,11,v6,v7,v8)) (
   cond (decide (((at' .byte v6 v8).toNat:Int)=0)) (
    cond (decide (0<v8)) (
    kx (.exit 0) (v,v1,v2,v3,v4,11,v6,v7,v8)) (
    j1 ())) (
    j1 ()))
  cond (decide (v8=9)) (
   j (decide (1<((at' .byte v6 v8).toNat:Int)))) (
   j false))) (
  kx (.exit 0) (v,v1,v2,v3,v4,v5,v6,v7,v8))
def A6g(R:Type)(k:Nat):Px R:=pxO [] [] [(6,Am k Arb (Hd))] []
def Ac0(k:Nat)(x:HV [.sl .byte false,.int .i64]):Option (HV [.int .u64,.int .i64,.int .i64]):=match x with
 |(b,p) =>
 cond (decide (p<0)) (
  some (0,0,2)) (
  cond (decide ((b.length:Int)<p)) (
  some (0,0,2)) (
  chk (upto p b.length b.length) (
   Ak (λrec=>Hd rec (λe vz=>match vz with|(_,a,c,d,_,f,_,_,_)=>match e with
   |.ret =>some (a,c,d)
   |.exit 0 =>some (0,0,f)
   |_=>none)) k (p,0,0,0,0,10,(b.drop (p:Int).toNat),((b.drop (p:Int).toNat).length:Int),0))))
theorem Bh5(k:Nat):FO 44 [.sl .byte false,.int .i64] [.int .u64,.int .i64,.int .i64] (Ac0 k):=fR (px:=A6g _ k) (n:=1) Tryz.func44 rfl (λcx H=>by have h0:Lv cx (A6g (HV [.int .u64,.int .i64,.int .i64]) k):=lv H Ae Aa Ab;have hlvget_0:=lO H h0 (b:=lp Tryz.f44 0) (k:=k) (n:=0) (s:=Arb) (step:=Hd) (λ_ _ _ (_,_,_,_,_,_,_,_,_)=>by kernel_rfl) Ag;exact⟨h0,(A5 Ag hlvget_0)⟩) λ(_,_)=>by kernel_rfl
def Tr(b:Str)(p:Int):Option (Int×Int×Int):=Ac0 100 (b,p)
def Ku:FT [.sl .byte false,.int .i64] [.int .u64,.int .i64,.int .i64]:=λx=>Tr x.1 x.2
theorem Ik:FO 44 [.sl .byte false,.int .i64] [.int .u64,.int .i64,.int .i64] Ku :=.fin 0 Bh5 λ_ _ _ hx=>⟨100,hx⟩
def Bky(R:Type):Px R:=pxO [(44,cA Ku)] [] [] []
def Oi(x:HV [.sl .byte false,.int .i64]):Option (HV [.sl .byte true,.int .i64,.int .i64]):=match x with
 |(b,p) =>
 (Tr b p).bind λ(x,x1,x2) =>
  cond (!decide (x2=0)) (
  some ([],0,x2)) (
  cond (decide (1048576<x)) (
   some ([],0,3)) (
   cond (decide ((wr .u64 (wr .i64 ((b.length:Int)-x1)))<x)) (
   some ([],0,10)) (
   chk (upto x1 (wr .i64 (x1+(wr .i64 x))) b.length) (
    chk (decide (0+(cut b x1 (wr .i64 (x1+(wr .i64 x)))).length<=Ai)) (
    some (([]++(cut b x1 (wr .i64 (x1+(wr .i64 x))))),(wr .i64 (x1+(wr .i64 x))),0))))))
theorem Bbt:FO 45 [.sl .byte false,.int .i64] [.sl .byte true,.int .i64,.int .i64] (Oi):=fR (px:=Bky _) (n:=0) Tryz.func45 rfl (λ_ H=>⟨lv H (c1 H Ik Ae) Aa Ab,Ag⟩) λ(_,_)=>by kernel_rfl
def Ae6(b:Str)(p:Int):Option (Str×Int×Int):=Oi (b,p)
def Sa:FT [.sl .byte false,.int .i64] [.sl .byte true,.int .i64,.int .i64]:=λx=>Ae6 x.1 x.2
theorem Qd:FO 45 [.sl .byte false,.int .i64] [.sl .byte true,.int .i64,.int .i64] Sa :=.fin0 Bbt λ_ _ _ hx=>hx
def Ae5:Sig:=⟨44,[(0,.sl .byte false),(2,.sl .bytes true),(3,.int .i64),(4,.int .u64),(5,.int .i64),(7,.sl .bytes true)],[],[],0,0,0,[],[]⟩
abbrev Ob:=List UInt8×List (List UInt8)×Int×Int×Int×List (List UInt8)
def Hz{R:Type}(rec:Ob->Option R)(kx:Ex->Ob->Option R)(v:Ob):Option R:=match v with
 |(v,v1,v2,v3,v4,v5) =>
 cond (decide (0<v3)) (
  (Ae6 v v4).bind λ(x3,x4,x5) =>
  cond (!decide (x5=0)) (
   kx .ret (v,[],x5,v3,v4,v5)) (
   chk (decide (v5.length+1<=Ai)) (
   rec (v,v1,v2,(wr .u64 (v3-1)),x4,(v5++[x3]))))) (
  kx (.exit 0) (v,v1,v2,v3,v4,v5))
def Aq5(R:Type)(k:Nat):Px R:=pxO [(44,cA Ku),(45,cA Sa)] [] [(5,Am k Ae5 (Hz))] []
def Kc(k:Nat)(x:HV [.sl .byte false]):Option (HV [.sl .bytes true,.int .i64]):=match x with
 |b =>
 (Tr b 0).bind λ(x,x1,x2) =>
  cond (!decide (x2=0)) (
  some ([],x2)) (
  Ak (λrec=>Hz rec (λe vz=>match vz with|(v6,v7,v8,_,a,c)=>match e with
   |.ret =>
   some (v7,v8)
   |.exit 0 =>
   cond (decide (a<(v6.length:Int))) (
    some ([],11)) (
    some (c,0))
   |_=>none)) k (b,[],0,x,x1,[]))
theorem A0h(k:Nat):FO 63 [.sl .byte false] [.sl .bytes true,.int .i64] (Kc k):=fR (px:=Aq5 _ k) (n:=1) Tryz.func63 rfl (λcx H=>by have h0:Lv cx (Aq5 (HV [.sl .bytes true,.int .i64]) k):=lv H (c1 H Ik (c1 H Qd Ae)) Aa Ab;have hlvsplit_0:=lO H h0 (b:=lp Tryz.f63 0) (k:=k) (n:=0) (s:=Ae5) (step:=Hz) (λ_ _ _ (_,_,_,_,_,_)=>by kernel_rfl) Ag;exact⟨h0,(A5 Ag hlvsplit_0)⟩) λ_=>by kernel_rfl
def Vn(b:Str):Option (List Str×Int):=Kc 50000 b
def Amh:FT [.sl .byte false] [.sl .bytes true,.int .i64]:=λx=>Vn x
theorem Aqz:FO 63 [.sl .byte false] [.sl .bytes true,.int .i64] Amh :=.fin 0 A0h λ_ _ _ hx=>⟨50000,hx⟩
def Be5(R:Type):Px R:=pxO [(237,cA Asb),(259,cA Abf),(238,cA Auv),(260,cA A6p)] [] [] []
def Al2(x:HV [.sv .expr,.sl .col false,.sl .val false]):Option (HV [.sv .val,.int .i64]):=match x with
 |(e,cols,row) =>
 cond (!decide ((Aei e)=0)) (
  some ((Val.mk 0 0 []),2)) (
  (Atf cols row).bind λx =>
  cond (!x) (
   some ((Val.mk 0 0 []),2)) (
   cond (!decide ((C8 e cols).2=0)) (
   some ((Val.mk 0 0 []),(C8 e cols).2)) (
   (Bqf e cols row).bind λ(x1,x2) =>some (x1,x2))))
theorem Bdp:FO 213 [.sv .expr,.sl .col false,.sl .val false] [.sv .val,.int .i64] (Al2):=fR (px:=Be5 _) (n:=0) Tryz.func213 rfl (λ_ H=>⟨lv H (c1 H Awp (c1 H Ahz (c1 H Ay0 (c1 H Bhf Ae)))) Aa Ab,Ag⟩) λ(_,_,_)=>by kernel_rfl
def Bqo(e:Xpr)(cols:List Col)(row:List Val):Option (Val×Int):=Al2 (e,cols,row)
def Agd:FT [.sv .expr,.sl .col false,.sl .val false] [.sv .val,.int .i64]:=λx=>Bqo x.1 x.2.1 x.2.2
theorem Aiv:FO 213 [.sv .expr,.sl .col false,.sl .val false] [.sv .val,.int .i64] Agd :=.fin0 Bdp λ_ _ _ hx=>hx
def Air:Sig:=⟨73,[(1,.sl .val false),(4,.int .i64),(49,.sl .expr false),(50,.int .i64),(51,.int .i64)],[(2,.ptr 0 0)],[(0,.one (.sv .tbl))],1,0,0,[],[]⟩
abbrev Ab2:=List Val×Int×List Xpr×Int×Int×Tbl
def Asy{R:Type}(rec:Ab2->Option R)(kx:Ex->Ab2->Option R)(v:Ab2):Option R:=match v with
 |(c,e,b,d,a,w2) =>
 cond (decide (a<d)) (
  chk (inb a b.length) (
  (Bqo (at' .expr b a) w2.cols c).bind λ(x2,x3) =>
   cond (!decide (x3=0)) (
   kx .ret (c,x3,b,d,a,w2)) (
   cond (decide ((Bg1 x2 (Val.mk 2 0 []))=0)) (
    kx .ret (c,162,b,d,a,w2)) (
    rec (c,e,b,d,(wr .i64 (a+1)),w2))))) (
  kx (.exit 2) (c,e,b,d,a,w2))
def Amb:Sig:=⟨19,[(0,.sl .str false),(1,.str),(4,.int .i64),(7,.int .i64),(8,.int .i64)],[],[(0,.one (.sv .tbl))],80,80,400,[],[]⟩
abbrev Acn:=List Str×Str×Int×Int×Int×Tbl
def Arq{R:Type}(rec:Acn->Option R)(kx:Ex->Acn->Option R)(v:Acn):Option R:=match v with
 |(v5,v6,v7,v8,v9,w1) =>
 cond (decide (v9<v8)) (
  chk (inb v9 v5.length) (
  cond (decide (v6=(at' .str v5 v9))) (
   kx .ret (v5,v6,v9,v8,v9,w1)) (
   rec (v5,v6,v7,v8,(wr .i64 (v9+1)),w1)))) (
  kx (.exit 0) (v5,v6,v7,v8,v9,w1))
def Aje:Sig:=⟨73,[(1,.sl .val false),(4,.int .i64),(23,.sl .col false),(24,.int .i64),(25,.int .i64)],[(2,.ptr 0 0)],[(0,.one (.sv .tbl))],1,0,0,[],[]⟩
abbrev Adb:=List Val×Int×List Col×Int×Int×Tbl
def Arl{R:Type}(k:Nat)(rec:Adb->Option R)(kx:Ex->Adb->Option R)(v:Adb):Option R:=match v with
 |(v,v1,v2,v3,v4,w) =>
 cond (decide (v4<v3)) (
  chk (inb v4 v2.length) (
  chk (inb v4 v.length) (
   cond (decide ((at' .val v v4).kind=1)) (
   cond ((at' .col v2 v4).notNull) (
    kx .ret (v,161,v2,v3,v4,w)) (
    Ak (λrc=>Arq rc (λe vz=>match vz with|(_,_,b,_,_,a)=>match e with
    |.ret =>
     cond (decide (0<=b)) (
     kx .ret (v,161,v2,v3,v4,a)) (
     rec (v,v1,v2,v3,(wr .i64 (v4+1)),a))
    |.exit 0 =>rec (v,v1,v2,v3,(wr .i64 (v4+1)),a)
    |_=>none)) k (w.key,(at' .col v2 v4).name,0,(w.key.length:Int),0,w))) (
   rec (v,v1,v2,v3,(wr .i64 (v4+1)),w))))) (
  kx (.exit 0) (v,v1,v2,v3,v4,w))
def X1(R:Type)(k:Nat):Px R:=pxO [] [] [(2,Am k Amb (Arq))] []
noncomputable def Agx(R:Type)(k:Nat):Px R:=pxO [(183,Aq 80 400 (X1 R k) Tryz.f183)] [] [] []
noncomputable def Avf(R:Type)(k:Nat):Px R:=pxO [(244,cA Qg),(259,cA Abf),(213,cA Agd),(226,cA Ags),(131,Aq 40 200 (Agx R k) Tryz.f131)] [] [(7,Am k Aje (Arl k)),(13,Am k Air (Asy))] []
def Ahu(k:Nat)(x:HV [.sv .tbl,.sl .val false]):Option (HV [.int .i64]):=match x with
 |(t,row) =>
 (Aue t).bind λx =>
  cond (!decide (x=0)) (
  some x) (
  (Atf t.cols row).bind λx1 =>
   cond (!x1) (
   some 151) (
   Ak (λrec=>Arl k rec (λe vz=>match vz with|(c,b,_,_,_,a)=>match e with
    |.ret =>
    some b
    |.exit 0 =>
    Ak (λrec=>Asy rec (λe vz=>match vz with|(_,d,_,_,_,_)=>match e with
     |.ret =>
     some d
     |.exit 2 =>
     some 0
     |_=>none)) k (c,b,a.checks,(a.checks.length:Int),0,a)
    |_=>none)) k (row,0,t.cols,(t.cols.length:Int),0,t)))
theorem Bdo(k:Nat):FO 300 [.sv .tbl,.sl .val false] [.int .i64] (Ahu k):=fR (px:=Avf _ k) (n:=2) Tryz.func300 rfl (λcx H=>by have h2:Lv cx (X1 (HV [.int .i64]) k):=lv H Ae Aa Ab;have hlsfits_1:=lO H h2 (b:=lp Tryz.f183 0) (k:=k) (n:=0) (s:=Amb) (step:=Arq) (λ_ _ _ (_,_,_,_,_,_)=>by kernel_rfl) Ag;have h1:Lv cx (Agx (HV [.int .i64]) k):=lv H (Al (cR H h2 Tryz.func183 rfl (n:=1) ((A5 Ag hlsfits_1))) Ae) Aa Ab;have h0:Lv cx (Avf (HV [.int .i64]) k):=lv H (c1 H Acm (c1 H Ahz (c1 H Aiv (c1 H Af2 (Al (cR H h1 Tryz.func131 rfl (n:=0) (Ag)) Ae))))) Aa Ab;have hlsfits_0:=lO H h0 (b:=lp Tryz.f300 0) (k:=k) (n:=0) (s:=Aje) (step:=Arl k) (λ_ _ _ (_,_,_,_,_,_)=>by kernel_rfl) Ag;have hlsfits_2:=lO H h0 (b:=lp Tryz.f300 1) (k:=k) (n:=0) (s:=Air) (step:=Asy) (λ_ _ _ (_,_,_,_,_,_)=>by kernel_rfl) Ag;exact⟨h0,(A5 (A5 Ag hlsfits_0) hlsfits_2)⟩) λ(_,_)=>by kernel_rfl
def Bs5(t:Tbl)(row:List Val):Option Int:=Ahu 5000 (t,row)
def A71:FT [.sv .tbl,.sl .val false] [.int .i64]:=λx=>Bs5 x.1 x.2
theorem Blg:FO 300 [.sv .tbl,.sl .val false] [.int .i64] A71 :=.fin 0 Bdo λ_ _ _ hx=>⟨5000,hx⟩
def Aqg:Sig:=⟨48,[(7,.sl .bytes true),(27,.sl .idx false),(28,.int .i64),(29,.int .i64)],[(1,.ptr 0 0)],[(0,.one (.sv .tbl))],1,0,0,[],[]⟩
abbrev Ahw:=List (List UInt8)×List Idx×Int×Int×Tbl
def A3x{R:Type}(rec:Ahw->Option R)(kx:Ex->Ahw->Option R)(v:Ahw):Option R:=match v with
 |(v,v1,v2,v3,w) =>
 cond (decide (v3<v2)) (
  chk (inb v3 v1.length) (
  (Alq (Ha w (at' .idx v1 v3))).bind λ(x3,_) =>
   chk (decide (x3.length<=Ai)) (
   chk (decide (v.length+1<=Ai)) (
    rec ((v++[x3]),v1,v2,(wr .i64 (v3+1)),w))))) (
  kx (.exit 0) (v,v1,v2,v3,w))
def A7k(R:Type)(k:Nat):Px R:=pxO [(244,cA Qg),(246,cA Aut),(245,cA Au6),(247,cA Alc),(41,cA Ast)] [] [(7,Am k Aqg (A3x))] []
def Aof(k:Nat)(x:HV [.sv .tbl]):Option (HV [.sl .byte true,.int .i64]):=match x with
 |t =>
 (Aue t).bind λx =>
  cond (!decide (x=0)) (
  some ([],x)) (
  (Alq (E8 t)).bind λ(x1,_) =>
   chk (decide (x1.length<=Ai)) (
   Ak (λrec=>A3x rec (λe vz=>match vz with|(v4,_,_,_,_)=>match e with
    |.exit 0 =>
    (Ame v4).bind λx5 =>some (x5,0)
    |_=>none)) k ([x1],t.idx,(t.idx.length:Int),0,t)))
theorem Bd9(k:Nat):FO 197 [.sv .tbl] [.sl .byte true,.int .i64] (Aof k):=fR (px:=A7k _ k) (n:=1) Tryz.func197 rfl (λcx H=>by have h0:Lv cx (A7k (HV [.sl .byte true,.int .i64]) k):=lv H (c1 H Acm (c1 H Avt (c1 H Bc2 (c1 H Ap9 (c1 H Awb Ae))))) Aa Ab;have hlsenc_0:=lO H h0 (b:=lp Tryz.f197 0) (k:=k) (n:=0) (s:=Aqg) (step:=A3x) (λ_ _ _ (_,_,_,_,_)=>by kernel_rfl) Ag;exact⟨h0,(A5 Ag hlsenc_0)⟩) λ_=>by kernel_rfl
def Bti(t:Tbl):Option (Str×Int):=Aof 5000 t
def A2e:FT [.sv .tbl] [.sl .byte true,.int .i64]:=λx=>Bti x
theorem A45:FO 197 [.sv .tbl] [.sl .byte true,.int .i64] A2e :=.fin 0 Bd9 λ_ _ _ hx=>⟨5000,hx⟩
def Anz:Sig:=⟨77,[(0,.sl .byte false),(3,.int .i64),(23,.sl .bytes true),(24,.int .i64),(25,.int .i64)],[(2,.ptr 0 0),(6,.ptr 1 0)],[(0,.one (.sv .tbl)),(1,.one (.sv .tbl))],2,0,0,[],[]⟩
abbrev Ak9:=List UInt8×Int×List (List UInt8)×Int×Int×Tbl×Tbl
def A3j{R:Type}(rec:Ak9->Option R)(kx:Ex->Ak9->Option R)(v:Ak9):Option R:=match v with
 |(v,v1,v2,v3,v4,w,w1) =>
 cond (decide (v4<v3)) (
  chk (inb v4 v2.length) (
  (Bqa (at' .bytes v2 v4)).bind λ(x2,_,x4) =>
   let j:=λ(p1:Bool) =>
   cond (p1) (
    (Aop x2).bind λ(x5,x6) =>
    cond (!decide (x6=0)) (
     kx .ret (v,11,v2,v3,v4,(Tbl.mk [] [] [] [] []),x5)) (
     rec (v,v1,v2,v3,(wr .i64 (v4+1)),w,x5))) (
    cond (decide (x4=0)) (
    (An6 w1 x2).bind λ(x7,x8) =>
     cond (!decide (x8=0)) (
     kx .ret (v,11,v2,v3,v4,(Tbl.mk [] [] [] [] []),x7)) (
     rec (v,v1,v2,v3,(wr .i64 (v4+1)),w,x7))) (
    cond (!decide (x4=0)) (
     kx .ret (v,11,v2,v3,v4,(Tbl.mk [] [] [] [] []),w1)) (
     rec (v,v1,v2,v3,(wr .i64 (v4+1)),w,w1))))
   cond (decide (v4=0)) (
   j (decide (x4=0))) (
   j false))) (
  kx (.exit 0) (v,v1,v2,v3,v4,w,w1))
def A8i(R:Type)(k:Nat):Px R:=pxO [(63,cA Amh),(38,cA Ar9),(138,cA Zo),(207,cA Agn),(197,cA A2e)] [] [(6,Am k Anz (A3j))] []
def Aot(k:Nat)(x:HV [.sl .byte false]):Option (HV [.sv .tbl,.int .i64]):=match x with
 |b =>
 (Vn b).bind λ(x,x1) =>
  cond (!decide (x1=0)) (
  some ((Tbl.mk [] [] [] [] []),11)) (
  Ak (λrec=>A3j rec (λe vz=>match vz with|(v5,v6,_,_,_,c,a)=>match e with
   |.ret =>
   some (c,v6)
   |.exit 0 =>
   (Bti a).bind λ(x9,d) =>
    cond (!decide (d=0)) (
    some ((Tbl.mk [] [] [] [] []),11)) (
    cond (!decide (x9=v5)) (
     some ((Tbl.mk [] [] [] [] []),11)) (
     some (a,0)))
   |_=>none)) k (b,0,x,(x.length:Int),0,(Tbl.mk [] [] [] [] []),(Tbl.mk [] [] [] [] [])))
theorem Bf6(k:Nat):FO 200 [.sl .byte false] [.sv .tbl,.int .i64] (Aot k):=fR (px:=A8i _ k) (n:=1) Tryz.func200 rfl (λcx H=>by have h0:Lv cx (A8i (HV [.sv .tbl,.int .i64]) k):=lv H (c1 H Aqz (c1 H Azo (c1 H Ah7 (c1 H Ay7 (c1 H A45 Ae))))) Aa Ab;have hlsdec_0:=lO H h0 (b:=lp Tryz.f200 0) (k:=k) (n:=0) (s:=Anz) (step:=A3j) (λ_ _ _ (_,_,_,_,_,_,_)=>by kernel_rfl) Ag;exact⟨h0,(A5 Ag hlsdec_0)⟩) λ_=>by kernel_rfl
def Bt6(b:Str):Option (Tbl×Int):=Aot 5000 b
def Bki:FT [.sl .byte false] [.sv .tbl,.int .i64]:=λx=>Bt6 x
theorem Bmi:FO 200 [.sl .byte false] [.sv .tbl,.int .i64] Bki :=.fin 0 Bf6 λ_ _ _ hx=>⟨5000,hx⟩
def tbL(R:Type):List (Nat×Gx R):=[
 (199,cA Arp),
 (52,cA Qc),
 (282,cA Ai1),
 (334,Vf .node),
 (158,Vf .val),
 (322,Anc .byte),
 (332,Anc .val),
 (312,Anc .kv),
 (286,cA Ain),
 (38,cA Ar9),
 (57,cA I5),
 (138,cA Zo),
 (197,cA A2e),
 (200,cA Bki),
 (244,cA Qg),
 (300,cA A71),
 (191,cA Ark),
 (213,cA Agd),
 (59,cA Ms),
 (226,cA Ags),
 (83,cA Jz),
 (18,cA N7),
 (20,cA Re),
 (44,cA Ku),
 (45,cA Sa)]
theorem Bq2{R:Type}{cx:Cx}(H:HX cx):∀g f,(g,f)∈tbL R->G2 cx g f:=(c1 H (Bhs) (c1 H (Rl) (c1 H (Aob) (Al (cCl H Awo Asn) (Al (cCl H Ay5 Ar4) (Al (Bjq H A2w) (Al (Bjq H A1s) (Al (Bjq H A80) (c1 H (Bat) (c1 H (Azo) (c1 H (Lb) (c1 H (Ah7) (c1 H (A45) (c1 H (Bmi) (c1 H (Acm) (c1 H (Blg) (c1 H (Ax9) (c1 H (Aiv) (c1 H (Mt) (c1 H (Af2) (c1 H (Mn) (c1 H (J6) (c1 H (Qa) (c1 H (Ik) (c1 H (Qd) Ae)))))))))))))))))))))))))
def tbT(R:Type)(g:Nat):Option (Gx R):=tbl (tbL R) g
def tqL(R:Type):List (Nat×Fw R):=[
 (52,qA Qc),
 (282,qA Ai1),
 (18,qA N7),
 (20,qA Re),
 (44,qA Ku),
 (45,qA Sa),
 (213,qA Agd),
 (226,qA Ags)]
theorem Brp{R:Type}{cx:Cx}(H:HX cx):∀g f,(g,f)∈tqL R->Q6 cx g f:=(q1 H (Rl) (q1 H (Aob) (q1 H (J6) (q1 H (Qa) (q1 H (Ik) (q1 H (Qd) (q1 H (Aiv) (q1 H (Af2) Aa))))))))
def tqT(R:Type)(g:Nat):Option (Fw R):=tbl (tqL R) g
def swL:List (Nat×(Sig×Sig)):=[
 (140,(⟨2,[(1,.sl .byte false)],[(0,.ptr 0 0)],[(0,.cells [.int .i64,.sl .byte false,.bool,.sl .byte false,.sl .node false,.sl .byte false,.sl .stt true,.sl .byte false])],1,1,0,[],[]⟩,⟨3,[(0,.sl .byte false),(1,.bool),(2,.int .i64)],[],[(0,.cells [.int .i64,.sl .byte false,.bool,.sl .byte false,.sl .node false,.sl .byte false,.sl .stt true,.sl .byte false])],1,1,0,[],[]⟩)),
 (204,(⟨2,[(1,.sv .tbl)],[(0,.ptr 0 0)],[(0,.cells [.int .i64,.sl .byte false,.bool,.sl .byte false,.sl .node false,.sl .byte false,.sl .stt true,.sl .byte false])],1,1,0,[],[]⟩,⟨2,[(0,.sl .vals false),(1,.int .i64)],[],[(0,.cells [.int .i64,.sl .byte false,.bool,.sl .byte false,.sl .node false,.sl .byte false,.sl .stt true,.sl .byte false])],1,1,0,[],[]⟩)),
 (215,(⟨3,[(1,.sv .tbl),(2,.sl .val false)],[(0,.ptr 0 0)],[(0,.cells [.int .i64,.sl .byte false,.bool,.sl .byte false,.sl .node false,.sl .byte false,.sl .stt true,.sl .byte false])],1,1,0,[],[]⟩,⟨1,[(0,.int .i64)],[],[(0,.cells [.int .i64,.sl .byte false,.bool,.sl .byte false,.sl .node false,.sl .byte false,.sl .stt true,.sl .byte false])],1,1,0,[],[]⟩)),
 (217,(⟨3,[(1,.sv .tbl),(2,.sl .val false)],[(0,.ptr 0 0)],[(0,.cells [.int .i64,.sl .byte false,.bool,.sl .byte false,.sl .node false,.sl .byte false,.sl .stt true,.sl .byte false])],1,1,0,[],[]⟩,⟨1,[(0,.int .i64)],[],[(0,.cells [.int .i64,.sl .byte false,.bool,.sl .byte false,.sl .node false,.sl .byte false,.sl .stt true,.sl .byte false])],1,1,0,[],[]⟩)),
 (311,(⟨3,[(1,.sl .byte false),(2,.sl .vals false)],[(0,.ptr 0 0)],[(0,.cells [.sl .kv true,.int .i64])],1,1,0,[],[]⟩,⟨0,[],[],[(0,.cells [.sl .kv true,.int .i64])],1,1,0,[],[]⟩))]
def swT(g:Nat):Option (Sig×Sig):=tbl swL g
def fnL:List Nat:=[6,13,14,15,16,30,31,32,33,34,35,36,37,39,40,51,53,58,60,64,67,68,69,70,93,94,95,96,97,98,99,100,103,107,108,132,139,140,141,142,143,144,145,146,147,148,149,150,151,152,153,154,155,156,157,159,160,161,162,164,165,166,167,168,184,189,190,193,194,195,196,198,201,202,203,204,205,206,207,208,209,210,211,212,214,215,216,217,218,219,220,221,222,223,224,225,227,234,235,236,238,240,241,242,243,246,247,248,249,250,251,252,253,254,255,256,257,258,261,262,263,264,265,266,267,268,269,270,271,272,273,274,279,280,281,283,284,285,298,299,301,302,303,305,306,311,313,314,315,316,317,318,319,320,331,333,335,336,337,338,340,341,342,343,344,345,346,347,348,349,350,361,362,363,364,365,366,367,368,369,370,371,372,373,385,386,387,388,389,398,399,400]
noncomputable def Bgk(g:Nat):Option Func:=match fnL.contains g with|true=>Tryz.prog.funcs.toList[g]?|false=>none
theorem Brc:(fnL.all λg=>match Tryz.prog.funcs.toList[g]? with
  |some fn => !(fn.name == "runtime.NumGoroutine")&&match fn.body with|some c=>D6 fn.ntmps c|none=>false
  |none=>true)=true:=by kernel_rfl
theorem Bl9:Ait Tryz.prog Bgk:=by
 intro g fn h;unfold Bgk at h;split at h
 ·rename_i hc;have h1:=Zg2.1 Brc g (by simpa using hc);rw[h] at h1;simp only[Zb1,Bool.not_eq_true'] at h1;refine⟨by simpa using h,h1.1,?_⟩;cases hb:fn.body with|none=>rw[hb] at h1;simp at h1|some c=>rw[hb] at h1;exact⟨c,rfl,h1.2⟩
 ·cases h
noncomputable def Bm4(R:Type):Px R:=co (Ams ttL) glT Bgk tbT tqT swT 3000 R
theorem Bp7{cx:Cx}(e1:cx.P=Tryz.prog)(e2:cx.el=elT)(e3:cx.gl=glT):HX cx:=⟨e1,e2,e3,Axk Aia,follows⟩
theorem Bqx:(swL.all λq=>lnB q.2.1 q.2.2)=true:=by kernel_rfl
theorem Bod(R:Type)(cx:Cx)(e1:cx.P=Tryz.prog)(e2:cx.el=elT)(e3:cx.gl=glT):Lv2 cx (Bm4 R) :=A8m follows (Axk Aia) Bl9 (λR cx e1 e2 e3 g f h=>Bq2 (Bp7 e1 e2 e3) g f (Ey h)) (λR cx e1 e2 e3 g f h=>Brp (Bp7 e1 e2 e3) g f (Ey h)) (λg q h=>Zg2.1 Bqx (g,q) (Ey h)) 3000 R cx e1 e2 e3
theorem Brn{f:FuncId}{fn:Func}{c:Code}{sr:List Sg}{r:HV sr}(hf:Tryz.prog.funcs[f]? = some fn)(hb:fn.body=some c)(hname:(fn.name == "runtime.NumGoroutine")=false)(hc:(D6 fn.ntmps c)=true)(hr:A19 (Bm4 (HV sr)) fn [] sr () some=some r):FO f [] sr (λ_=>some r):=by refine A5h hf hb hname follows (px:=Bm4 (HV sr)) (by rw[hc];simp[Bb,C2]) (λcx e1 e2 e3 _ =>?_) (λ_=>hr);have h:=(Bod (HV sr) cx e1 e2 e3).to1;exact⟨h.1,h.2.1,h.2.2.1,λb _=>h.2.2.2 b⟩
theorem Btf:A19 (Bm4 Bool) Tryz.f6 [] [.bool] () some=some true:=by kernel_rfl
def known20:Option Bool:=some true
def Aq4:FT [] [.bool]:=λ_=>known20
theorem A32:FO 6 [] [.bool] Aq4:=by exact Brn Tryz.func6 rfl (by kernel_rfl) (by kernel_rfl) Btf
def Bh2(R:Type):Px R:=pxO [(18,cA N7)] [] [] []
def Wt(x:HV [.int .i64]):Option (HV [.sl .byte true]):=match x with
 |n =>
 (Ah4 (Aft .u64 (Zw .u64 (wr .u64 n) 1) (wr .u64 (Dt .i64 n 63)))).bind λx =>some x
theorem Bb8:FO 60 [.int .i64] [.sl .byte true] (Wt):=fR (px:=Bh2 _) (n:=0) Tryz.func60 rfl (λ_ H=>⟨lv H (c1 H J6 Ae) Aa Ab,Ag⟩) λ_=>by kernel_rfl
def A6w(n:Int):Option Str:=Wt n
def A5g:FT [.int .i64] [.sl .byte true]:=λx=>A6w x
theorem Bku:FO 60 [.int .i64] [.sl .byte true] A5g :=.fin0 Bb8 λ_ _ _ hx=>hx
def Bh7(R:Type):Px R:=pxO [(44,cA Ku)] [] [] []
def Np(x:HV [.sl .byte false,.int .i64]):Option (HV [.int .i64,.int .i64,.int .i64]):=match x with
 |(b,p) =>
 (Tr b p).bind λ(x,x1,x2) =>some ((Aft .i64 (wr .i64 (Dt .u64 x 1)) (wr .i64 (0-(wr .i64 (Ef .u64 x 1))))),x1,x2)
theorem Bcs:FO 227 [.sl .byte false,.int .i64] [.int .i64,.int .i64,.int .i64] (Np):=fR (px:=Bh7 _) (n:=0) Tryz.func227 rfl (λ_ H=>⟨lv H (c1 H Ik Ae) Aa Ab,Ag⟩) λ(_,_)=>by kernel_rfl
def An1(b:Str)(p:Int):Option (Int×Int×Int):=Np (b,p)
def A7s:FT [.sl .byte false,.int .i64] [.int .i64,.int .i64,.int .i64]:=λx=>An1 x.1 x.2
theorem Bfe:FO 227 [.sl .byte false,.int .i64] [.int .i64,.int .i64,.int .i64] A7s :=.fin0 Bcs λ_ _ _ hx=>hx
def Anb:Sig:=⟨60,[(0,.sl .val false),(2,.sl .byte true),(3,.int .i64),(4,.sl .byte true),(12,.sl .val false),(13,.int .i64),(14,.int .i64)],[],[],0,0,0,[],[]⟩
abbrev Lr:=List Val×List UInt8×Int×List UInt8×List Val×Int×Int
def O9{R:Type}(rec:Lr->Option R)(kx:Ex->Lr->Option R)(v:Lr):Option R:=match v with
 |(v,v1,v2,v3,v4,v5,v6) =>
 cond (decide (v6<v5)) (
  chk (inb v6 v4.length) (
  cond (!decide ((Gr (at' .val v4 v6))=0)) (
   kx .ret (v,[],(Gr (at' .val v4 v6)),v3,v4,v5,v6)) (
   chk (decide (v3.length+1<=Ai)) (
   cond (decide ((at' .val v4 v6).kind=2)) (
    chk (decide ((v3++[(UInt8.ofNat ((wr .u8 ((at' .val v4 v6).kind)):Int).toNat)]).length+1<=Ai)) (
    rec (v,v1,v2,((v3++[(UInt8.ofNat ((wr .u8 ((at' .val v4 v6).kind)):Int).toNat)])++[(UInt8.ofNat ((wr .u8 ((at' .val v4 v6).n)):Int).toNat)]),v4,v5,(wr .i64 (v6+1))))) (
    cond (decide ((at' .val v4 v6).kind=3)) (
    (A6w ((at' .val v4 v6).n)).bind λx1 =>
     chk (decide ((v3++[(UInt8.ofNat ((wr .u8 ((at' .val v4 v6).kind)):Int).toNat)]).length+x1.length<=Ai)) (
     rec (v,v1,v2,((v3++[(UInt8.ofNat ((wr .u8 ((at' .val v4 v6).kind)):Int).toNat)])++x1),v4,v5,(wr .i64 (v6+1))))) (
    let j:=λ(p:Bool) =>
     cond (p) (
     chk (decide (((at' .val v4 v6).s).length<=Ai)) (
      (Api ((at' .val v4 v6).s)).bind λx2 =>
      chk (decide ((v3++[(UInt8.ofNat ((wr .u8 ((at' .val v4 v6).kind)):Int).toNat)]).length+x2.length<=Ai)) (
       rec (v,v1,v2,((v3++[(UInt8.ofNat ((wr .u8 ((at' .val v4 v6).kind)):Int).toNat)])++x2),v4,v5,(wr .i64 (v6+1)))))) (
     rec (v,v1,v2,(v3++[(UInt8.ofNat ((wr .u8 ((at' .val v4 v6).kind)):Int).toNat)]),v4,v5,(wr .i64 (v6+1))))
    cond (decide ((at' .val v4 v6).kind=4)) (
     j (decide ((at' .val v4 v6).kind=4))) (
     j (decide ((at' .val v4 v6).kind=5))))))))) (
  kx (.exit 0) (v,v1,v2,v3,v4,v5,v6))
def A62(R:Type)(k:Nat):Px R:=pxO [(18,cA N7),(59,cA Ms),(60,cA A5g),(20,cA Re)] [] [(3,Am k Anb (O9))] []
def Ab5(k:Nat)(x:HV [.sl .val false]):Option (HV [.sl .byte true,.int .i64]):=match x with
 |l =>
 (Ah4 (wr .u64 (l.length:Int))).bind λx =>
  Ak (λrec=>O9 rec (λe vz=>match vz with|(v7,v8,v9,a,_,_,_)=>match e with
  |.ret =>some (v8,v9)
  |.exit 0 =>
   cond (decide (100<(v7.length:Int))) (
   some ([],3)) (
   some (a,0))
  |_=>none)) k (l,[],0,x,l,(l.length:Int),0)
theorem Bl6(k:Nat):FO 40 [.sl .val false] [.sl .byte true,.int .i64] (Ab5 k):=fR (px:=A62 _ k) (n:=1) Tryz.func40 rfl (λcx H=>by have h0:Lv cx (A62 (HV [.sl .byte true,.int .i64]) k):=lv H (c1 H J6 (c1 H Mt (c1 H Bku (c1 H Qa Ae)))) Aa Ab;have hlwenc_0:=lO H h0 (b:=lp Tryz.f40 0) (k:=k) (n:=0) (s:=Anb) (step:=O9) (λ_ _ _ (_,_,_,_,_,_,_)=>by kernel_rfl) Ag;exact⟨h0,(A5 Ag hlwenc_0)⟩) λ_=>by kernel_rfl
def Bo9(l:List Val):Option (Str×Int):=Ab5 5000 l
def Bk7:FT [.sl .val false] [.sl .byte true,.int .i64]:=λx=>Bo9 x
theorem Bpm:FO 40 [.sl .val false] [.sl .byte true,.int .i64] Bk7 :=.fin 0 Bl6 λ_ _ _ hx=>⟨5000,hx⟩
def Akn:Sig:=⟨30,[(2,.sl .byte true),(3,.int .i64),(4,.sl .bytes true),(9,.sl .vals false),(10,.int .i64),(11,.int .i64)],[],[],0,0,0,[],[]⟩
abbrev R0:=List UInt8×Int×List (List UInt8)×List (List Val)×Int×Int
def Nt{R:Type}(rec:R0->Option R)(kx:Ex->R0->Option R)(v:R0):Option R:=match v with
 |(v,v1,v2,v3,v4,v5) =>
 cond (decide (v5<v4)) (
  chk (inb v5 v3.length) (
  (Bo9 (at' .vals v3 v5)).bind λ(x,x1) =>
   cond (!decide (x1=0)) (
   kx .ret ([],x1,v2,v3,v4,v5)) (
   chk (decide (v2.length+1<=Ai)) (
    rec (v,v1,(v2++[x]),v3,v4,(wr .i64 (v5+1))))))) (
  kx (.exit 0) (v,v1,v2,v3,v4,v5))
def Aw1(R:Type)(k:Nat):Px R:=pxO [(40,cA Bk7),(41,cA Ast)] [] [(3,Am k Akn (Nt))] []
def Uz(k:Nat)(x:HV [.sl .vals false]):Option (HV [.sl .byte true,.int .i64]):=match x with
 |l =>
 Ak (λrec=>Nt rec (λe vz=>match vz with|(v6,v7,v8,_,_,_)=>match e with
  |.ret =>
  some (v6,v7)
  |.exit 0 =>
  (Ame v8).bind λx2 =>some (x2,0)
  |_=>none)) k ([],0,[],l,(l.length:Int),0)
theorem A9l(k:Nat):FO 19 [.sl .vals false] [.sl .byte true,.int .i64] (Uz k):=fR (px:=Aw1 _ k) (n:=1) Tryz.func19 rfl (λcx H=>by have h0:Lv cx (Aw1 (HV [.sl .byte true,.int .i64]) k):=lv H (c1 H Bpm (c1 H Awb Ae)) Aa Ab;have hlwmany_0:=lO H h0 (b:=lp Tryz.f19 0) (k:=k) (n:=0) (s:=Akn) (step:=Nt) (λ_ _ _ (_,_,_,_,_,_)=>by kernel_rfl) Ag;exact⟨h0,(A5 Ag hlwmany_0)⟩) λ_=>by kernel_rfl
def A4r(l:List (List Val)):Option (Str×Int):=Uz 50000 l
def A5t:FT [.sl .vals false] [.sl .byte true,.int .i64]:=λx=>A4r x
theorem Bkp:FO 19 [.sl .vals false] [.sl .byte true,.int .i64] A5t :=.fin 0 A9l λ_ _ _ hx=>⟨50000,hx⟩
def As0:Sig:=⟨1,[],[(0,.ptr 0 0)],[(0,.cells [.sl .byte false,.int .i64,.int .i64])],1,1,0,[],[]⟩
def Ars:Sig:=⟨1,[(0,.int .u8)],[],[(0,.cells [.sl .byte false,.int .i64,.int .i64])],1,1,0,[],[]⟩
abbrev Bhq:=List UInt8×Int×Int
abbrev Bla:=Int×List UInt8×Int×Int
def Bnt(R:Type):Px R:=pxO [] [] [] []
def R3(x:Bhq):Option (Bla):=match x with
 |(b,p,e) =>
 cond (decide (p=(b.length:Int))) (
  some (0,b,p,10)) (
  chk (inb (wr .i64 ((wr .i64 (p+1))-1)) b.length) (
  some (((at' .byte b (wr .i64 ((wr .i64 (p+1))-1))).toNat:Int),b,(wr .i64 (p+1)),e)))
theorem Bel:FM 164 As0 Ars (R3):=fRL (px:=Bnt _) (n:=0) Tryz.func164 rfl (λ_ H=>⟨lv H Ae Aa Ab,Ag⟩) λ(_,_,_)=>by kernel_rfl
def Kz:Bhq->Option Bla:=λx=>R3 x
theorem Bol:FM 164 As0 Ars (Kz):=Bel
def U6:Sig:=⟨1,[],[(0,.ptr 0 0)],[(0,.cells [.sl .byte false,.int .i64,.int .i64])],1,1,0,[],[]⟩
def Wn:Sig:=⟨1,[(0,.int .i64)],[],[(0,.cells [.sl .byte false,.int .i64,.int .i64])],1,1,0,[],[]⟩
abbrev Aor:=List UInt8×Int×Int
abbrev Aq1:=Int×List UInt8×Int×Int
def A1d(R:Type):Px R:=pxO [] [(227,qA A7s)] [] []
def Ib(x:Aor):Option (Aq1):=match x with
 |(b,p,_) =>
 (An1 b p).bind λ(x,x1,x2) =>some (x,b,x1,x2)
theorem Ax8:FM 165 U6 Wn (Ib):=fRL (px:=A1d _) (n:=0) Tryz.func165 rfl (λ_ H=>⟨lv H Ae (q1 H Bfe Aa) Ab,Ag⟩) λ(_,_,_)=>by kernel_rfl
def Iy:Aor->Option Aq1:=λx=>Ib x
theorem A13:FM 165 U6 Wn (Iy):=Ax8
def Ah9:Sig:=⟨1,[],[(0,.ptr 0 0)],[(0,.cells [.sl .byte false,.int .i64,.int .i64])],1,1,0,[],[]⟩
def Ak4:Sig:=⟨1,[(0,.str)],[],[(0,.cells [.sl .byte false,.int .i64,.int .i64])],1,1,0,[],[]⟩
abbrev A48:=List UInt8×Int×Int
abbrev A53:=Str×List UInt8×Int×Int
def Bg5(R:Type):Px R:=pxO [] [(44,qA Ku),(45,qA Sa)] [] []
def N3(x:A48):Option (A53):=match x with
 |(b,p,_) =>
 (Tr b p).bind λ(x,_,x2) =>
  let j:=λ(p3:Int) =>
  cond (!decide (p3=0)) (
   some ([],b,p,p3)) (
   (Ae6 b p).bind λ(x3,x4,x5) =>
   cond (decide (x5=0)) (
    some (x3,b,x4,x5)) (
    some (x3,b,p,x5)))
  cond (decide (x2=0)) (
  cond (decide (1000<x)) (
   j 11) (
   j x2)) (
  j x2)
theorem A9g:FM 166 Ah9 Ak4 (N3):=fRL (px:=Bg5 _) (n:=0) Tryz.func166 rfl (λ_ H=>⟨lv H Ae (q1 H Ik (q1 H Qd Aa)) Ab,Ag⟩) λ(_,_,_)=>by kernel_rfl
def H8:A48->Option A53:=λx=>N3 x
theorem Bi3:FM 166 Ah9 Ak4 (H8):=A9g
def M2:Sig:=⟨2,[(1,.sv .val)],[(0,.ptr 0 0)],[(0,.cells [.sl .byte false,.int .i64,.int .i64])],1,1,0,[],[]⟩
def Ns:Sig:=⟨1,[(0,.bool)],[],[(0,.cells [.sl .byte false,.int .i64,.int .i64])],1,1,0,[],[]⟩
abbrev An3:=Val×List UInt8×Int×Int
abbrev Rp:=Bool×List UInt8×Int×Int
def W3:Sig:=⟨53,[(4,.bool),(40,.sl .byte false),(41,.int .i64),(42,.int .i64)],[],[(0,.cells [.sl .byte false,.int .i64,.int .i64])],1,1,0,[],[]⟩
abbrev Kj:=Bool×List UInt8×Int×Int×List UInt8×Int×Int
def It{R:Type}(rec:Kj->Option R)(kx:Ex->Kj->Option R)(v:Kj):Option R:=match v with
 |(v1,v2,v3,v4,w,w1,w2) =>
 cond (decide (v4<v3)) (
  chk (inb v4 v2.length) (
  cond (decide (((at' .byte v2 v4).toNat:Int)<32)) (
   kx .ret (false,v2,v3,v4,w,w1,w2)) (
   cond (decide (126<((at' .byte v2 v4).toNat:Int))) (
   kx .ret (false,v2,v3,v4,w,w1,w2)) (
   rec (v1,v2,v3,(wr .i64 (v4+1)),w,w1,w2))))) (
  kx (.exit 0) (v1,v2,v3,v4,w,w1,w2))
def Aln(R:Type)(k:Nat):Px R:=pxO [] [(44,qA Ku)] [(7,Am k W3 (It))] []
def D2(k:Nat)(x:An3):Option (Rp):=match x with
 |(v,b,p,e) =>
 cond (!decide (v.kind=4)) (
  some (true,b,p,e)) (
  cond (!decide (e=10)) (
  some (true,b,p,e)) (
  (Tr b p).bind λ(_,x1,x2) =>
   cond (!decide (x2=0)) (
   some (true,b,p,e)) (
   chk (upto x1 b.length b.length) (
    Ak (λrec=>It rec (λe vz=>match vz with|(v5,_,_,_,v9,a,c)=>match e with
    |.ret =>some (v5,v9,a,c)
    |.exit 0 =>some (true,v9,a,c)
    |_=>none)) k (false,(b.drop (x1:Int).toNat),((b.drop (x1:Int).toNat).length:Int),0,b,p,e)))))
theorem Axf(k:Nat):FM 167 M2 Ns (D2 k):=fRL (px:=Aln _ k) (n:=1) Tryz.func167 rfl (λcx H=>by have h0:Lv cx (Aln (Rp) k):=lv H Ae (q1 H Ik Aa) Ab;have hlwprefix_0:=lO H h0 (b:=lp Tryz.f167 0) (k:=k) (n:=0) (s:=W3) (step:=It) (λ_ _ _ (_,_,_,_,_,_,_)=>by kernel_rfl) Ag;exact⟨h0,(A5 Ag hlwprefix_0)⟩) λ(_,_,_,_)=>by kernel_rfl
def F9:An3->Option Rp:=λx=>D2 (50000) x
theorem A2l:FM 167 M2 Ns (F9):=FnLn.fin (ι:=Nat) (sg:=M2) (so:=Ns) 0 (F:=λk=>D2 k) (λk=>Axf k) λ_ _ _ hx=>⟨50000,hx⟩
def Adc:Sig:=⟨1,[],[(0,.ptr 0 0)],[(0,.cells [.sl .byte false,.int .i64,.int .i64])],1,1,0,[],[]⟩
def Abl:Sig:=⟨1,[(0,.sv .val)],[],[(0,.cells [.sl .byte false,.int .i64,.int .i64])],1,1,0,[],[]⟩
abbrev Axy:=List UInt8×Int×Int
abbrev X3:=Val×List UInt8×Int×Int
def A96(R:Type):Px R:=pxO [(164,Aj As0 Ars Kz),(165,Aj U6 Wn Iy),(166,Aj Ah9 Ak4 H8),(59,cA Ms),(167,Aj M2 Ns F9)] [] [] []
def Aea(x:Axy):Option (X3):=match x with
 |(b,p,e) =>
 (Kz (b,p,e)).bind λ(x,x1,x2,x3) =>
  cond (!decide (x3=0)) (
  some ((Val.mk (wr .i64 x) 0 []),x1,x2,x3)) (
  let j2:=λ(q:List UInt8) (q1:Int) (q2:Int) (q3:Val) =>
   let j1:=λ(p2:Bool) =>
   cond (p2) (
    some (q3,q,q1,11)) (
    (F9 (q3,q,q1,q2)).bind λ(d,a,c,f) =>
    cond (!d) (
     some (q3,a,c,11)) (
     some (q3,a,c,f)))
   cond (decide (q2=0)) (
   j1 (!decide ((Gr q3)=0))) (
   j1 false)
  cond (decide ((wr .i64 x)=1)) (
   j2 x1 x2 x3 (Val.mk (wr .i64 x) 0 [])) (
   cond (decide ((wr .i64 x)=2)) (
   (Kz (x1,x2,x3)).bind λ(x4,x5,x6,x7) =>j2 x5 x6 x7 (Val.mk (wr .i64 x) (wr .i64 x4) [])) (
   cond (decide ((wr .i64 x)=3)) (
    (Iy (x1,x2,x3)).bind λ(x8,x9,g,h) =>
    j2 x9 g h (Val.mk (wr .i64 x) x8 [])) (
    let j:=λ(p1:Bool) =>
    cond (p1) (
     (H8 (x1,x2,x3)).bind λ(i,k,l,m) =>
     j2 k l m (Val.mk (wr .i64 x) 0 i)) (
     j2 x1 x2 11 (Val.mk (wr .i64 x) 0 []))
    cond (decide ((wr .i64 x)=4)) (
    j (decide ((wr .i64 x)=4))) (
    j (decide ((wr .i64 x)=5)))))))
theorem A26:FM 103 Adc Abl (Aea):=fRL (px:=A96 _) (n:=0) Tryz.func103 rfl (λ_ H=>⟨lv H (l1 H Bol (l1 H A13 (l1 H Bi3 (c1 H Mt (l1 H A2l Ae))))) Aa Ab,Ag⟩) λ(_,_,_)=>by kernel_rfl
def Mu:Axy->Option X3:=λx=>Aea x
theorem Bbh:FM 103 Adc Abl (Mu):=A26
def Aog:Sig:=⟨67,[(0,.sl .byte false),(8,.sl .val true),(26,.int .u64),(27,.int .u64)],[(7,.ptr 0 0)],[(0,.cells [.sl .byte false,.int .i64,.int .i64])],1,0,0,[],[]⟩
abbrev Zt:=List UInt8×List Val×Int×Int×List UInt8×Int×Int
def On{R:Type}(rec:Zt->Option R)(kx:Ex->Zt->Option R)(v:Zt):Option R:=match v with
 |(v,v1,v2,v3,w,w1,w2) =>
 cond (decide (v3<v2)) (
  (Mu (w,w1,w2)).bind λ(x3,x4,x5,x6) =>
  chk (decide (v1.length+1<=Ai)) (
   cond (!decide (x6=0)) (
   kx (.exit 1) (v,(v1++[x3]),v2,v3,x4,x5,x6)) (
   rec (v,(v1++[x3]),v2,(wr .u64 (v3+1)),x4,x5,x6)))) (
  kx (.exit 1) (v,v1,v2,v3,w,w1,w2))
def A72(R:Type)(k:Nat):Px R:=pxO [(44,cA Ku),(103,Aj Adc Abl Mu)] [] [(9,Am k Aog (On))] []
def Rv(k:Nat)(x:HV [.sl .byte false]):Option (HV [.sl .val true,.int .i64]):=match x with
 |b =>
 (Tr b 0).bind λ(x,x1,x2) =>
  cond (!decide (x2=0)) (
  some ([],x2)) (
  cond (decide (100<x)) (
   some ([],11)) (
   Ak (λrec=>On rec (λe vz=>match vz with|(v4,v5,_,_,_,v9,a)=>match e with
   |.exit 1 =>
    cond (decide (a=0)) (
    cond (decide (v9<(v4.length:Int))) (
     some ([],11)) (
     cond (!decide (a=0)) (
     some ([],a)) (
     some (v5,0)))) (
    cond (!decide (a=0)) (
     some ([],a)) (
     some (v5,0)))
   |_=>none)) k (b,[],x,0,b,x1,0)))
theorem Bhg(k:Nat):FO 64 [.sl .byte false] [.sl .val true,.int .i64] (Rv k):=fR (px:=A72 _ k) (n:=1) Tryz.func64 rfl (λcx H=>by have h0:Lv cx (A72 (HV [.sl .val true,.int .i64]) k):=lv H (c1 H Ik (l1 H Bbh Ae)) Aa Ab;have hlwdec_0:=lO H h0 (b:=lp Tryz.f64 0) (k:=k) (n:=0) (s:=Aog) (step:=On) (λ_ _ _ (_,_,_,_,_,_,_)=>by kernel_rfl) Ag;exact⟨h0,(A5 Ag hlwdec_0)⟩) λ_=>by kernel_rfl
def A9j(b:Str):Option (List Val×Int):=Rv 5000 b
def Bfi:FT [.sl .byte false] [.sl .val true,.int .i64]:=λx=>A9j x
theorem Bph:FO 64 [.sl .byte false] [.sl .val true,.int .i64] Bfi :=.fin 0 Bhg λ_ _ _ hx=>⟨5000,hx⟩
def Apo:Sig:=⟨39,[(2,.sl .vals true),(3,.int .i64),(6,.sl .vals true),(19,.sl .bytes true),(20,.int .i64),(21,.int .i64)],[],[],0,0,0,[],[]⟩
abbrev Zd:=List (List Val)×Int×List (List Val)×List (List UInt8)×Int×Int
def Ng{R:Type}(rec:Zd->Option R)(kx:Ex->Zd->Option R)(v:Zd):Option R:=match v with
 |(v,v1,v2,v3,v4,v5) =>
 cond (decide (v5<v4)) (
  chk (inb v5 v3.length) (
  (A9j (at' .bytes v3 v5)).bind λ(x2,x3) =>
   cond (!decide (x3=0)) (
   kx .ret ([],x3,v2,v3,v4,v5)) (
   chk (decide (v2.length+1<=Ai)) (
    rec (v,v1,(v2++[x2]),v3,v4,(wr .i64 (v5+1))))))) (
  kx (.exit 0) (v,v1,v2,v3,v4,v5))
def A5r(R:Type)(k:Nat):Px R:=pxO [(63,cA Amh),(64,cA Bfi)] [] [(6,Am k Apo (Ng))] []
def Iv(k:Nat)(x:HV [.sl .byte false]):Option (HV [.sl .vals true,.int .i64]):=match x with
 |b =>
 (Vn b).bind λ(x,x1) =>
  cond (!decide (x1=0)) (
  some ([],x1)) (
  Ak (λrec=>Ng rec (λe vz=>match vz with|(v6,v7,v8,_,_,_)=>match e with
   |.ret =>
   some (v6,v7)
   |.exit 0 =>
   some (v8,0)
   |_=>none)) k ([],0,[],x,(x.length:Int),0))
theorem Bei(k:Nat):FO 46 [.sl .byte false] [.sl .vals true,.int .i64] (Iv k):=fR (px:=A5r _ k) (n:=1) Tryz.func46 rfl (λcx H=>by have h0:Lv cx (A5r (HV [.sl .vals true,.int .i64]) k):=lv H (c1 H Aqz (c1 H Bph Ae)) Aa Ab;have hlwfew_0:=lO H h0 (b:=lp Tryz.f46 0) (k:=k) (n:=0) (s:=Apo) (step:=Ng) (λ_ _ _ (_,_,_,_,_,_)=>by kernel_rfl) Ag;exact⟨h0,(A5 Ag hlwfew_0)⟩) λ_=>by kernel_rfl
def Bmg(b:Str):Option (List (List Val)×Int):=Iv 50000 b
def Bke:FT [.sl .byte false] [.sl .vals true,.int .i64]:=λx=>Bmg x
theorem Boe:FO 46 [.sl .byte false] [.sl .vals true,.int .i64] Bke :=.fin 0 Bei λ_ _ _ hx=>⟨50000,hx⟩
def Adw:Sig:=⟨51,[(2,.bool),(41,.sl .res false),(42,.int .i64),(43,.int .i64)],[],[],0,0,0,[],[]⟩
abbrev Nf:=Bool×List ResS×Int×Int
def Gm{R:Type}(rec:Nf->Option R)(kx:Ex->Nf->Option R)(v:Nf):Option R:=match v with
 |(v,v1,v2,v3) =>
 cond (decide (v3<v2)) (
  chk (inb v3 v1.length) (
  cond (decide ((at' .res v1 v3).n<0)) (
   kx .ret (false,v1,v2,v3)) (
   rec (v,v1,v2,(wr .i64 (v3+1)))))) (
  kx (.exit 0) (v,v1,v2,v3))
def Apg(R:Type)(k:Nat):Px R:=pxO [] [] [(4,Am k Adw (Gm))] []
def Ad6(k:Nat)(x:HV [.sv .outc]):Option (HV [.bool]):=match x with
 |o =>
 let j3:=λ(_:Unit) =>
  Ak (λrec=>Gm rec (λe vz=>match vz with|(v4,_,_,_)=>match e with
  |.ret =>some v4
  |.exit 0 =>some true
  |_=>none)) k (false,o.l,(o.l.length:Int),0)
 let j2:=λ(p:Bool) =>
  let j1:=λ(p1:Bool) =>
  let j:=λ(p2:Bool) =>
   cond (p2) (
   some false) (
   cond (!decide (o.e=0)) (
    cond (decide (0<(o.l.length:Int))) (
    some false) (
    cond (decide (50<(o.l.length:Int))) (
     some false) (
     j3 ()))) (
    cond (decide (50<(o.l.length:Int))) (
    some false) (
    j3 ())))
  cond (p1) (
   j true) (
   j (decide (50<o.pos)))
  cond (p) (
  j1 true) (
  j1 (decide (o.pos<0)))
 cond (decide (o.e<0)) (
  j2 true) (
  j2 (decide (999<o.e)))
theorem A4d(k:Nat):FO 17 [.sv .outc] [.bool] (Ad6 k):=fR (px:=Apg _ k) (n:=1) Tryz.func17 rfl (λcx H=>by have h0:Lv cx (Apg (HV [.bool]) k):=lv H Ae Aa Ab;have hltright_0:=lO H h0 (b:=lp Tryz.f17 0) (k:=k) (n:=0) (s:=Adw) (step:=Gm) (λ_ _ _ (_,_,_,_)=>by kernel_rfl) Ag;exact⟨h0,(A5 Ag hltright_0)⟩) λ_=>by kernel_rfl
def Arv(o:OutS):Option Bool:=Ad6 5000 o
def Ayz:FT [.sv .outc] [.bool]:=λx=>Arv x
theorem Baw:FO 17 [.sv .outc] [.bool] Ayz :=.fin 0 A4d λ_ _ _ hx=>⟨5000,hx⟩
def Am7:Sig:=⟨67,[(2,.sl .byte true),(3,.int .i64),(4,.sl .byte true),(5,.bool),(30,.sl .res false),(31,.int .i64),(32,.int .i64)],[],[],0,0,0,[],[]⟩
abbrev Zr:=List UInt8×Int×List UInt8×Bool×List ResS×Int×Int
def Wd{R:Type}(rec:Zr->Option R)(kx:Ex->Zr->Option R)(v:Zr):Option R:=match v with
 |(v,v1,v2,v3,v4,v5,v6) =>
 cond (decide (v6<v5)) (
  chk (inb v6 v4.length) (
  (A4r ((at' .res v4 v6).rows)).bind λ(x4,x5) =>
   cond (!decide (x5=0)) (
   kx .ret ([],2,v2,v3,v4,v5,v6)) (
   let j:=λ(p1:Bool) =>
    (Ah4 (wr .u64 ((at' .res v4 v6).n))).bind λx6 =>
    chk (decide (v2.length+x6.length<=Ai)) (
     (Api x4).bind λx7 =>
     chk (decide ((v2++x6).length+x7.length<=Ai)) (
      rec (v,v1,((v2++x6)++x7),p1,v4,v5,(wr .i64 (v6+1)))))
   cond (v3) (
    j true) (
    j (decide (1048576<(x4.length:Int))))))) (
  kx (.exit 0) (v,v1,v2,v3,v4,v5,v6))
def A5k(R:Type)(k:Nat):Px R:=pxO [(17,cA Ayz),(18,cA N7),(19,cA A5t),(20,cA Re)] [] [(7,Am k Am7 (Wd))] [(18,Afz [.int .u64] .byte N7)]
def Acy(k:Nat)(x:HV [.sv .outc]):Option (HV [.sl .byte true,.int .i64]):=match x with
 |o =>
 (Arv o).bind λx =>
  cond (!x) (
  some ([],2)) (
  (Ah4 (wr .u64 o.e)).bind λx1 =>
   (Ah4 (wr .u64 o.pos)).bind λx2 =>
   chk (decide (x1.length+x2.length<=Ai)) (
    (Ah4 (wr .u64 (o.l.length:Int))).bind λx3 =>
    chk (decide ((x1++x2).length+x3.length<=Ai)) (
     Ak (λrec=>Wd rec (λe vz=>match vz with|(v7,v8,v9,a,_,_,_)=>match e with
     |.ret =>some (v7,v8)
     |.exit 0 =>
      cond (a) (
      some ([],3)) (
      cond (decide (1048576<(v9.length:Int))) (
       some ([],3)) (
       some (v9,0)))
     |_=>none)) k ([],0,((x1++x2)++x3),false,o.l,(o.l.length:Int),0))))
theorem Bg7(k:Nat):FO 7 [.sv .outc] [.sl .byte true,.int .i64] (Acy k):=fR (px:=A5k _ k) (n:=1) Tryz.func7 rfl (λcx H=>by have h0:Lv cx (A5k (HV [.sl .byte true,.int .i64]) k):=lv H (c1 H Baw (c1 H J6 (c1 H Bkp (c1 H Qa Ae)))) Aa (wo1 H J6 Ab);have hltenc_0:=lO H h0 (b:=lp Tryz.f7 0) (k:=k) (n:=0) (s:=Am7) (step:=Wd) (λ_ _ _ (_,_,_,_,_,_,_)=>by kernel_rfl) Ag;exact⟨h0,(A5 Ag hltenc_0)⟩) λ_=>by kernel_rfl
def Amx(o:OutS):Option (Str×Int):=Acy 5000 o
def A2o:FT [.sv .outc] [.sl .byte true,.int .i64]:=λx=>Amx x
theorem A7u:FO 7 [.sv .outc] [.sl .byte true,.int .i64] A2o :=.fin 0 Bg7 λ_ _ _ hx=>⟨5000,hx⟩
def Agj:Sig:=⟨1,[],[(0,.ptr 0 0)],[(0,.cells [.sl .byte false,.int .i64,.bool])],1,1,0,[],[]⟩
def Agh:Sig:=⟨1,[(0,.int .i64)],[],[(0,.cells [.sl .byte false,.int .i64,.bool])],1,1,0,[],[]⟩
abbrev Beo:=List UInt8×Int×Bool
abbrev Beb:=Int×List UInt8×Int×Bool
def Bpv(R:Type):Px R:=pxO [] [(44,qA Ku)] [] []
def S9(x:Beo):Option (Beb):=match x with
 |(b,p,c) =>
 (Tr b p).bind λ(x,x1,x2) =>
  cond (!decide (x2=0)) (
  some (0,b,p,true)) (
  cond (decide (9223372036854775807<x)) (
   some (0,b,p,true)) (
   some ((wr .i64 x),b,x1,c)))
theorem Bed:FM 24 Agj Agh (S9):=fRL (px:=Bpv _) (n:=0) Tryz.func24 rfl (λ_ H=>⟨lv H Ae (q1 H Ik Aa) Ab,Ag⟩) λ(_,_,_)=>by kernel_rfl
def He:Beo->Option Beb:=λx=>S9 x
theorem A70:FM 24 Agj Agh (He):=Bed
def Aua:Sig:=⟨1,[],[(0,.ptr 0 0)],[(0,.cells [.sl .byte false,.int .i64,.bool])],1,1,0,[],[]⟩
def At5:Sig:=⟨1,[(0,.sv .res)],[],[(0,.cells [.sl .byte false,.int .i64,.bool])],1,1,0,[],[]⟩
abbrev Bg6:=List UInt8×Int×Bool
abbrev Bk0:=ResS×List UInt8×Int×Bool
def Bnz(R:Type):Px R:=pxO [(24,Aj Agj Agh He),(46,cA Bke)] [(45,qA Sa)] [] []
def Ta(x:Bg6):Option (Bk0):=match x with
 |(b,p,c) =>
 (He (b,p,c)).bind λ(x,x1,x2,x3) =>
  (Ae6 x1 x2).bind λ(x4,x5,x6) =>
  cond (!decide (x6=0)) (
   some ((ResS.mk [] 0),x1,x2,true)) (
   (Bmg x4).bind λ(x7,x8) =>
   cond (x3) (
    some ((ResS.mk x7 x),x1,x5,true)) (
    some ((ResS.mk x7 x),x1,x5, !decide (x8=0))))
theorem Bkz:FM 25 Aua At5 (Ta):=fRL (px:=Bnz _) (n:=0) Tryz.func25 rfl (λ_ H=>⟨lv H (l1 H A70 (c1 H Boe Ae)) (q1 H Qd Aa) Ab,Ag⟩) λ(_,_,_)=>by kernel_rfl
def V0:Bg6->Option Bk0:=λx=>Ta x
theorem Bn5:FM 25 Aua At5 (V0):=Bkz
def Aqx:Sig:=⟨65,[(0,.sl .byte false),(6,.int .i64),(7,.int .i64)],[(2,.ptr 0 0),(4,.ptr 1 0),(5,.ptr 2 0)],[(0,.cells [.int .i64,.int .i64,.sl .res true]),(1,.cells [.sl .byte false,.int .i64,.bool]),(2,.cells [.int .i64,.int .i64,.sl .res true])],3,0,0,[],[]⟩
abbrev Aal:=List UInt8×Int×Int×Int×Int×List ResS×List UInt8×Int×Bool×Int×Int×List ResS
def Rc{R:Type}(rec:Aal->Option R)(kx:Ex->Aal->Option R)(v:Aal):Option R:=match v with
 |(v,v1,v2,w,w1,w2,w3,w4,w5,w6,w7,w8) =>
 cond (decide (v2<v1)) (
  cond (decide (v2<=50)) (
  cond (!w5) (
   (V0 (w3,w4,w5)).bind λ(a,b,c,d) =>
   chk (decide (w8.length+1<=Ai)) (
    rec (v,v1,(wr .i64 (v2+1)),w,w1,w2,b,c,d,w6,w7,(w8++[a])))) (
   kx (.exit 0) (v,v1,v2,w,w1,w2,w3,w4,w5,w6,w7,w8))) (
  kx (.exit 0) (v,v1,v2,w,w1,w2,w3,w4,w5,w6,w7,w8))) (
  kx (.exit 0) (v,v1,v2,w,w1,w2,w3,w4,w5,w6,w7,w8))
def A7n(R:Type)(k:Nat):Px R:=pxO [(24,Aj Agj Agh He),(7,cA A2o)] [] [(5,Am k Aqx (Rc))] [(25,Cv Aua At5 V0)]
def Sz(k:Nat)(x:HV [.sl .byte false]):Option (HV [.sv .outc,.int .i64]):=match x with
 |b =>
 (He (b,0,false)).bind λ(x,x1,x2,x3) =>
  (He (x1,x2,x3)).bind λ(x4,x5,x6,x7) =>
  (He (x5,x6,x7)).bind λ(x8,x9,f,g) =>
   Ak (λrec=>Rc rec (λe vz=>match vz with|(v3,_,_,_,_,_,_,_,h,a,c,d)=>match e with
   |.exit 0 =>
    (Amx (OutS.mk a c d)).bind λ(i,j) =>
    cond (h) (
     some ((OutS.mk 0 0 []),11)) (
     cond (!decide (j=0)) (
     some ((OutS.mk 0 0 []),11)) (
     cond (!decide (i=v3)) (
      some ((OutS.mk 0 0 []),11)) (
      some ((OutS.mk a c d),0))))
   |_=>none)) k (b,x8,0,0,0,[],x9,f,g,x,x4,[])
theorem Bge(k:Nat):FO 9 [.sl .byte false] [.sv .outc,.int .i64] (Sz k):=fR (px:=A7n _ k) (n:=1) Tryz.func9 rfl (λcx H=>by have h0:Lv cx (A7n (HV [.sv .outc,.int .i64]) k):=lv H (l1 H A70 (c1 H A7u Ae)) Aa (w1 H Bn5 Ab);have hltdec_0:=lO H h0 (b:=lp Tryz.f9 0) (k:=k) (n:=0) (s:=Aqx) (step:=Rc) (λ_ _ _ (_,_,_,_,_,_,_,_,_,_,_,_)=>by kernel_rfl) Ag;exact⟨h0,(A5 Ag hltdec_0)⟩) λ_=>by kernel_rfl
def Alh(b:Str):Option (OutS×Int):=Sz 5000 b
def Bh0:FT [.sl .byte false] [.sv .outc,.int .i64]:=λx=>Alh x
theorem Bmu:FO 9 [.sl .byte false] [.sv .outc,.int .i64] Bh0 :=.fin 0 Bge λ_ _ _ hx=>⟨5000,hx⟩
def A7:Nat->Nat->Str
 |0,n=>[UInt8.ofNat n]
 |k+1,n=>if n<128 then [UInt8.ofNat n] else UInt8.ofNat (n % 128+128)::A7 k (n / 128)
theorem Ba:∀k n,1<=(A7 k n).length/\(A7 k n).length<=k+1
 |0,n=>by simp[A7]
 |k+1,n=>by
  have:=Ba k (n / 128);simp[A7]
  grind
theorem Boh:∀m:Nat,m<256->UInt8.ofNat (ior .u8 ((m:Nat):Int) 128).toNat=UInt8.ofNat (m % 128+128):=by decide +kernel
theorem Bl4(n:Nat):wr .u8 (n:Int)=((n % 256:Nat):Int):=by simp[wr,IntKind.wrap,IntKind.bits,IntKind.signed]
theorem Gn{n:Nat}(h:n<18446744073709551616):wr .u64 (n:Int)=(n:Int):=by simp[wr,IntKind.wrap,IntKind.bits,IntKind.signed];omega
theorem Bt0(n:Nat):Dt .u64 (n:Int) 7=((n / 128:Nat):Int):=by
 simp only[Dt];rw[show(2 ^ min (7:Int).toNat IntKind.u64.bits:Int)=128 from by decide]
 grind
theorem Abs{kx:Ex->Ze->Option Str}(hx:∀n acc,kx (.exit 0) (n,acc)=chk (decide (acc.length+1<=Ai)) (some (acc++[UInt8.ofNat (wr .u8 n).toNat]))):∀(k m n:Nat) (acc:Str),n<128 ^ (k+1)->k<m->acc.length+k<=1000->Ak (λrec=>Wj rec kx) m ((n:Int),acc)=some (acc++A7 k n)
 |k,0,_,_,_,h,_=>by omega
 |k,m+1,n,acc,hn,hm,ha=>by
  have c1:decide (acc.length+1<=Ai)=true:=Ze1 (by simp[Ai];omega);have low:n<128->Ak (λrec=>Wj rec kx) (m+1) ((n:Int),acc)=some (acc++[UInt8.ofNat n]):=λh=>by simp only[Ak,Wj,Zd1 (show ¬(128:Int)<=(n:Int) by omega),Af,hx,c1,chk,Ah,Bl4,Int.toNat_natCast];rw[Nat.mod_eq_of_lt (by omega)]
  cases k with
  |zero=>exact low (by simpa using hn)
  |succ k =>
   simp only[A7];split
   ·rename_i h;exact low h
   ·rename_i h;have ih:=Abs hx k m (n / 128) (acc++[UInt8.ofNat (n % 128+128)]) (Nat.div_lt_of_lt_mul (by rw[Nat.pow_succ] at hn;omega)) (by omega) (by simp[ Zi1];omega);have e:UInt8.ofNat (ior .u8 (wr .u8 (n:Int)) 128).toNat=UInt8.ofNat (n % 128+128):=by rw[Bl4,Boh _ (Nat.mod_lt _ (by omega))];congr 1;omega
    simp only[Ak,Wj,Ze1 (show(128:Int)<=(n:Int) by omega),c1,e,Bt0];rw[<-List.append_cons] at ih;exact ih
theorem A8d{n:Nat}(h:n<128 ^ 6):Ah4 (n:Int)=some (A7 5 n):=by
 have:=Abs (kx:=λe vz=>match vz with|(v2,v3)=>match e with
  |.exit 0=>chk (decide (v3.length+1<=Ai)) (some (v3++[UInt8.ofNat (wr .u8 v2).toNat]))
  |_=>none) (λ_ _=>rfl) 5 100 n [] h (by omega) (by simp)
 exact this
theorem Aas{s:Str}(h:s.length<=274877906900):Api s=some (A7 5 s.length++s):=by have e:wr .u64 (s.length:Int)=(s.length:Int):=Gn (by omega);have:=Ba 5 s.length;simp[Api,Wy,e,A8d (show s.length<128 ^ 6 by omega)];rw[Ze1 (by simp[Ai];omega)];rfl
def E9:List Str->Str
 |[]=>[]
 |s::l=>(A7 5 s.length++s)++E9 l
theorem A3c{l:List Str}{kx:Ex->R6->Option Str}(hn:ln l.length)(hx:∀acc,kx (.exit 0) (acc,l,(l.length:Int),(l.length:Int))=some acc)(k:Nat)(hk:l.length<k)(acc:Str)(ha:acc.length+(E9 l).length<=274877906900) :
  Ak (λrec=>S0 rec kx) k (acc,l,(l.length:Int),0)=some (acc++E9 l):=by
 refine(I6 l.length (λi acc=>(acc,l,(l.length:Int),(i:Int))) (λi a=>a.length+(E9 (l.drop i)).length<=274877906900) (λi a=>some (a++E9 (l.drop i))) (λi hi a hb rec hr =>?_) (λa _ rec =>?_) k 0 acc (Nat.zero_le _) (by omega) (by rw[Zq1];exact ha)).trans (by rw[Zq1])
 ·rw[Av hi] at hb ⊢;simp[E9] at hb ⊢;simp only[S0,C6 hi,Ay hi,chk,Aw (c :=.bytes) hi];rw[Aas (by omega),Zc1,Ze1 (by simp[Ai];omega),Ah,As hi hn,hr _ (by simp;omega)];simp
 ·simp only[S0,hx];simp[E9]
def Y2(l:List Str):Str:=A7 5 l.length++E9 l
theorem Bf1{l:List Str}(hl:l.length<50000)(hs:(E9 l).length<=274877906000):Ame l=some (Y2 l):=by have:=Ba 5 l.length;simp[Ame,U3];rw[Gn (by omega),A8d (by omega),Zc1];exact A3c (by simp[ln];omega) (λ_=>rfl) 50000 hl _ (by omega)
noncomputable section
end
theorem L5:∀k n,n<128 ^ (k+1)->A7 (k+1) n=A7 k n
 |0,n,h=>by simp[A7];omega
 |k+1,n,h=>by rw[A7,L5 k (n / 128) (Nat.div_lt_of_lt_mul (by rw[Nat.pow_succ] at h;omega))];rfl
theorem Vi{n:Nat}(h:n<128 ^ 6):A7 9 n=A7 5 n:=by rw[L5 8 n (by omega),L5 7 n (by omega),L5 6 n (by omega),L5 5 n h]
theorem Acl{n:Nat}(h:n<18446744073709551616):Ah4 (n:Int)=some (A7 9 n):=by
 have:=Abs (kx:=λe vz=>match vz with|(v2,v3)=>match e with
  |.exit 0=>chk (decide (v3.length+1<=Ai)) (some (v3++[UInt8.ofNat (wr .u8 v2).toNat]))
  |_=>none) (λ_ _=>rfl) 9 100 n [] (by omega) (by omega) (by simp)
 exact this
noncomputable section
end
noncomputable section
end
noncomputable section
def Bjv(R:Type):Px R:=pxO [] [] [] []
def Vs(x:HV [.sl .byte false,.sl .byte false]):Option (HV [.bool]):=match x with
 |(a,b) =>
 some (decide (a=b))
theorem Bam:FO 11 [.sl .byte false,.sl .byte false] [.bool] (Vs):=fR (px:=Bjv _) (n:=0) Tryz.func11 rfl (λ_ H=>⟨lv H Ae Aa Ab,Ag⟩) λ(_,_)=>by kernel_rfl
def A41(a b:Str):Option Bool:=Vs (a,b)
def A5v:FT [.sl .byte false,.sl .byte false] [.bool]:=λx=>A41 x.1 x.2
theorem Bfc:FO 11 [.sl .byte false,.sl .byte false] [.bool] A5v :=.fin0 Bam λ_ _ _ hx=>hx
def Bpt(R:Type):Px R:=pxO [] [] [] []
def Aa0(x:HV [.sv .val,.sv .val]):Option (HV [.int .i64]):=match x with
 |(a,b) =>
 let j:=λ(p1:Bool) =>
  cond (p1) (
  some (-1)) (
  cond (decide (a.kind=b.kind)) (
   cond (decide (a.n=b.n)) (
   cond (Op.bytesLess a.s b.s) (
    some (-1)) (
    cond (decide (a=b)) (
    some 0) (
    some 1))) (
   cond (decide (a=b)) (
    some 0) (
    some 1))) (
   cond (decide (a=b)) (
   some 0) (
   some 1)))
 cond (decide (a.kind<b.kind)) (
  j true) (
  cond (decide (a.kind=b.kind)) (
  j (decide (a.n<b.n))) (
  j false))
theorem Beu:FO 106 [.sv .val,.sv .val] [.int .i64] (Aa0):=fR (px:=Bpt _) (n:=0) Tryz.func106 rfl (λ_ H=>⟨lv H Ae Aa Ab,Ag⟩) λ(_,_)=>by kernel_rfl
def Bjt(a b:Val):Option Int:=Aa0 (a,b)
def Blw:FT [.sv .val,.sv .val] [.int .i64]:=λx=>Bjt x.1 x.2
theorem Bo3:FO 106 [.sv .val,.sv .val] [.int .i64] Blw :=.fin0 Beu λ_ _ _ hx=>hx
def Ag8:Sig:=⟨59,[(0,.sl .val false),(1,.sl .val false),(5,.int .i64)],[],[],0,0,0,[],[]⟩
abbrev Rj:=List Val×List Val×Int
def Ig{R:Type}(rec:Rj->Option R)(kx:Ex->Rj->Option R)(v:Rj):Option R:=match v with
 |(v,v1,v2) =>
 let j:=λ(p:Bool) =>
  cond (p) (
  chk (inb v2 v.length) (
   chk (inb v2 v1.length) (
   cond (decide ((at' .val v v2)=(at' .val v1 v2))) (
    rec (v,v1,(wr .i64 (v2+1)))) (
    kx (.exit 0) (v,v1,v2))))) (
  kx (.exit 0) (v,v1,v2))
 cond (decide (v2<(v.length:Int))) (
  j (decide (v2<(v1.length:Int)))) (
  j false)
def Azs(R:Type)(k:Nat):Px R:=pxO [(106,cA Blw)] [] [(2,Am k Ag8 (Ig))] []
def Uv(k:Nat)(x:HV [.sl .val false,.sl .val false]):Option (HV [.int .i64]):=match x with
 |(a,b) =>
 Ak (λrec=>Ig rec (λe vz=>match vz with|(v3,v4,v5)=>match e with
  |.exit 0 =>
  let j1:=λ(p4:Bool) =>
   cond (p4) (
   chk (inb v5 v3.length) (
    chk (inb v5 v4.length) (
    (Bjt (at' .val v3 v5) (at' .val v4 v5)).bind λx =>some x))) (
   cond (decide (v5<(v4.length:Int))) (
    some (-1)) (
    cond (decide (v5<(v3.length:Int))) (
    some 1) (
    some 0)))
  cond (decide (v5<(v3.length:Int))) (
   j1 (decide (v5<(v4.length:Int)))) (
   j1 false)
  |_=>none)) k (a,b,0)
theorem A93(k:Nat):FO 66 [.sl .val false,.sl .val false] [.int .i64] (Uv k):=fR (px:=Azs _ k) (n:=1) Tryz.func66 rfl (λcx H=>by have h0:Lv cx (Azs (HV [.int .i64]) k):=lv H (c1 H Bo3 Ae) Aa Ab;have hldrows_0:=lO H h0 (b:=lp Tryz.f66 0) (k:=k) (n:=0) (s:=Ag8) (step:=Ig) (λ_ _ _ (_,_,_)=>by kernel_rfl) Ag;exact⟨h0,(A5 Ag hldrows_0)⟩) λ(_,_)=>by kernel_rfl
def Bfz(a b:List Val):Option Int:=Uv 10000 (a,b)
def A6h:FT [.sl .val false,.sl .val false] [.int .i64]:=λx=>Bfz x.1 x.2
theorem Bkx:FO 66 [.sl .val false,.sl .val false] [.int .i64] A6h :=.fin 0 A93 λ_ _ _ hx=>⟨10000,hx⟩
def Afc:Sig:=⟨27,[(0,.sl .vals false),(1,.sl .vals false),(4,.bool),(5,.int .i64)],[],[],0,0,0,[],[]⟩
abbrev M0:=List (List Val)×List (List Val)×Bool×Int
def Mi{R:Type}(rec:M0->Option R)(kx:Ex->M0->Option R)(v:M0):Option R:=match v with
 |(v,v1,v2,v3) =>
 cond (decide (v3<(v.length:Int))) (
  chk (inb v3 v.length) (
  chk (inb v3 v1.length) (
   (Bfz (at' .vals v v3) (at' .vals v1 v3)).bind λx =>
   cond (!decide (x=0)) (
    kx .ret (v,v1,false,v3)) (
    rec (v,v1,v2,(wr .i64 (v3+1))))))) (
  kx (.exit 0) (v,v1,v2,v3))
def Ao9(R:Type)(k:Nat):Px R:=pxO [(66,cA A6h)] [] [(4,Am k Afc (Mi))] []
def Km(k:Nat)(x:HV [.sl .vals false,.sl .vals false]):Option (HV [.bool]):=match x with
 |(a,b) =>
 cond (!decide ((a.length:Int)=(b.length:Int))) (
  some false) (
  Ak (λrec=>Mi rec (λe vz=>match vz with|(_,_,v6,_)=>match e with
  |.ret =>some v6
  |.exit 0 =>some true
  |_=>none)) k (a,b,false,0))
theorem A27(k:Nat):FO 50 [.sl .vals false,.sl .vals false] [.bool] (Km k):=fR (px:=Ao9 _ k) (n:=1) Tryz.func50 rfl (λcx H=>by have h0:Lv cx (Ao9 (HV [.bool]) k):=lv H (c1 H Bkx Ae) Aa Ab;have hldsrows_0:=lO H h0 (b:=lp Tryz.f50 0) (k:=k) (n:=0) (s:=Afc) (step:=Mi) (λ_ _ _ (_,_,_,_)=>by kernel_rfl) Ag;exact⟨h0,(A5 Ag hldsrows_0)⟩) λ(_,_)=>by kernel_rfl
def A2b(a b:List (List Val)):Option Bool:=Km 10000 (a,b)
def Au3:FT [.sl .vals false,.sl .vals false] [.bool]:=λx=>A2b x.1 x.2
theorem Bbq:FO 50 [.sl .vals false,.sl .vals false] [.bool] Au3 :=.fin 0 A27 λ_ _ _ hx=>⟨10000,hx⟩
def Bgj(R:Type):Px R:=pxO [(50,cA Au3)] [] [] []
def Vv(x:HV [.sv .res,.sv .res]):Option (HV [.bool]):=match x with
 |(a,b) =>
 cond (decide (a.n=b.n)) (
  (A2b a.rows b.rows).bind λx =>
  some x) (
  some false)
theorem Bb7:FO 29 [.sv .res,.sv .res] [.bool] (Vv):=fR (px:=Bgj _) (n:=0) Tryz.func29 rfl (λ_ H=>⟨lv H (c1 H Bbq Ae) Aa Ab,Ag⟩) λ(_,_)=>by kernel_rfl
def A8k(a b:ResS):Option Bool:=Vv (a,b)
def A5f:FT [.sv .res,.sv .res] [.bool]:=λx=>A8k x.1 x.2
theorem Bfk:FO 29 [.sv .res,.sv .res] [.bool] A5f :=.fin0 Bb7 λ_ _ _ hx=>hx
def Ail:Sig:=⟨46,[(4,.bool),(5,.int .i64)],[(2,.ptr 0 0),(3,.ptr 1 0)],[(0,.one (.sv .outc)),(1,.one (.sv .outc))],2,0,0,[],[]⟩
abbrev Tb:=Bool×Int×OutS×OutS
def Nl{R:Type}(rec:Tb->Option R)(kx:Ex->Tb->Option R)(v:Tb):Option R:=match v with
 |(v,v1,w,w1) =>
 cond (decide (v1<(w.l.length:Int))) (
  chk (inb v1 w.l.length) (
  chk (inb v1 w1.l.length) (
   (A8k (at' .res w.l v1) (at' .res w1.l v1)).bind λx =>
   cond (!x) (
    kx .ret (false,v1,w,w1)) (
    rec (v,(wr .i64 (v1+1)),w,w1))))) (
  kx (.exit 0) (v,v1,w,w1))
def Azx(R:Type)(k:Nat):Px R:=pxO [(29,cA A5f)] [] [(4,Am k Ail (Nl))] []
def Nh(k:Nat)(x:HV [.sv .outc,.sv .outc]):Option (HV [.bool]):=match x with
 |(a,b) =>
 cond (!decide (a.e=b.e)) (
  some false) (
  cond (!decide (a.pos=b.pos)) (
  some false) (
  cond (!decide ((a.l.length:Int)=(b.l.length:Int))) (
   some false) (
   Ak (λrec=>Nl rec (λe vz=>match vz with|(v2,_,_,_)=>match e with
   |.ret =>some v2
   |.exit 0 =>some true
   |_=>none)) k (false,0,a,b))))
theorem Ba4(k:Nat):FO 12 [.sv .outc,.sv .outc] [.bool] (Nh k):=fR (px:=Azx _ k) (n:=1) Tryz.func12 rfl (λcx H=>by have h0:Lv cx (Azx (HV [.bool]) k):=lv H (c1 H Bfk Ae) Aa Ab;have hldsame_0:=lO H h0 (b:=lp Tryz.f12 0) (k:=k) (n:=0) (s:=Ail) (step:=Nl) (λ_ _ _ (_,_,_,_)=>by kernel_rfl) Ag;exact⟨h0,(A5 Ag hldsame_0)⟩) λ(_,_)=>by kernel_rfl
def A65(a b:OutS):Option Bool:=Nh 10000 (a,b)
def A59:FT [.sv .outc,.sv .outc] [.bool]:=λx=>A65 x.1 x.2
theorem Bfw:FO 12 [.sv .outc,.sv .outc] [.bool] A59 :=.fin 0 Ba4 λ_ _ _ hx=>⟨10000,hx⟩
end
noncomputable section
def Aq7:Sig:=⟨82,[(3,.int .i64),(4,.int .i64),(5,.int .i64),(6,.int .i64)],[(1,.ptr 0 0)],[(0,.one (.sv .outc))],1,0,0,[],[]⟩
abbrev Zs:=Int×Int×Int×Int×OutS
def Aki{R:Type}(rec:Zs->Option R)(kx:Ex->Zs->Option R)(v:Zs):Option R:=match v with
 |(v5,v6,v7,v8,w2) =>
 chk (inb v6 w2.l.length) (
  chk (inb v7 (((at' .res w2.l v6).rows).length)) (
  cond (decide (v8<((at' .vals ((at' .res w2.l v6).rows) v7).length:Int))) (
   chk (inb v6 w2.l.length) (
   chk (inb v7 (((at' .res w2.l v6).rows).length)) (
    chk (inb v8 ((at' .vals ((at' .res w2.l v6).rows) v7).length)) (
    rec ((wr .i64 (v5+(wr .i64 (Int.tdiv (((at' .val (at' .vals ((at' .res w2.l v6).rows) v7) v8).s).length:Int) 20)))),v6,v7,(wr .i64 (v8+1)),w2))))) (
   kx (.exit 4) (v5,v6,v7,v8,w2))))
def Aqk:Sig:=⟨82,[(3,.int .i64),(4,.int .i64),(5,.int .i64)],[(1,.ptr 0 0)],[(0,.one (.sv .outc))],1,0,0,[],[]⟩
abbrev W9:=Int×Int×Int×OutS
def Aho{R:Type}(k:Nat)(rec:W9->Option R)(kx:Ex->W9->Option R)(v:W9):Option R:=match v with
 |(v2,v3,v4,w1) =>
 chk (inb v3 w1.l.length) (
  cond (decide (v4<(((at' .res w1.l v3).rows).length:Int))) (
  cond (decide (v2<500)) (
   chk (inb v3 w1.l.length) (
   chk (inb v4 (((at' .res w1.l v3).rows).length)) (
    Ak (λrc=>Aki rc (λe vz=>match vz with|(v9,a,b,_,c)=>match e with
    |.exit 4 =>rec (v9,a,(wr .i64 (b+1)),c)
    |_=>none)) k ((wr .i64 ((wr .i64 (v2+1))+((at' .vals ((at' .res w1.l v3).rows) v4).length:Int))),v3,v4,0,w1)))) (
   kx (.exit 2) (v2,v3,v4,w1))) (
  kx (.exit 2) (v2,v3,v4,w1)))
def Aov:Sig:=⟨82,[(3,.int .i64),(4,.int .i64)],[(1,.ptr 0 0)],[(0,.one (.sv .outc))],1,0,0,[],[]⟩
abbrev Yd:=Int×Int×OutS
def Ac7{R:Type}(k:Nat)(rec:Yd->Option R)(kx:Ex->Yd->Option R)(v:Yd):Option R:=match v with
 |(v,v1,w) =>
 cond (decide (v1<(w.l.length:Int))) (
  cond (decide (v<500)) (
  Ak (λrc=>Aho k rc (λe vz=>match vz with|(a,b,_,c)=>match e with
   |.exit 2 =>
   rec (a,(wr .i64 (b+1)),c)
   |_=>none)) k (v,v1,0,w)) (
  kx (.exit 0) (v,v1,w))) (
  kx (.exit 0) (v,v1,w))
def A56(R:Type)(k:Nat):Px R:=pxO [] [] [(10,Am k Aq7 (Aki)),(6,Am k Aqk (Aho k)),(3,Am k Aov (Ac7 k))] []
def Abg(k:Nat)(x:HV [.sv .outc]):Option (HV [.bool]):=match x with
 |o =>
 Ak (λrec=>Ac7 k rec (λe vz=>match vz with|(a,_,_)=>match e with
  |.exit 0 =>
  some (decide (500<=a))
  |_=>none)) k ((o.l.length:Int),0,o)
theorem Bhw(k:Nat):FO 5 [.sv .outc] [.bool] (Abg k):=fR (px:=A56 _ k) (n:=3) Tryz.func5 rfl (λcx H=>by have h0:Lv cx (A56 (HV [.bool]) k):=lv H Ae Aa Ab;have hllbig_2:=lO H h0 (b:=lpC (lpC (lp Tryz.f5 0) 0) 0) (k:=k) (n:=0) (s:=Aq7) (step:=Aki) (λ_ _ _ (_,_,_,_,_)=>by kernel_rfl) Ag;have hllbig_1:=lO H h0 (b:=lpC (lp Tryz.f5 0) 0) (k:=k) (n:=1) (s:=Aqk) (step:=Aho k) (λ_ _ _ (_,_,_,_)=>by kernel_rfl) (A5 Ag hllbig_2);have hllbig_0:=lO H h0 (b:=lp Tryz.f5 0) (k:=k) (n:=2) (s:=Aov) (step:=Ac7 k) (λ_ _ _ (_,_,_)=>by kernel_rfl) (A5 (A5 Ag hllbig_1) hllbig_2);exact⟨h0,(A5 (A5 (A5 Ag hllbig_0) hllbig_1) hllbig_2)⟩) λ_=>by kernel_rfl
def Bn3(o:OutS):Option Bool:=Abg 2000000 o
def Blu:FT [.sv .outc] [.bool]:=λx=>Bn3 x
theorem Bns:FO 5 [.sv .outc] [.bool] Blu :=.fin 0 Bhw λ_ _ _ hx=>⟨2000000,hx⟩
def Bqy(R:Type):Px R:=pxO [(5,cA Blu),(6,cA Aq4),(7,cA A2o),(9,cA Bh0),(12,cA A59),(11,cA A5v)] [] [] []
def Aj0(x:HV [.sv .outc,.sl .byte false,.int .i64]):Option (HV [.bool]):=match x with
 |(o,b,i) =>
 let j:=λ(p1:Bool) =>
  cond (p1) (
  (known20).bind λx1 =>some x1) (
  (Amx o).bind λ(x2,x3) =>
   let j3:=λ(_:Unit) =>
   (Alh b).bind λ(x9,a) =>
    cond (!decide (a=0)) (
    let j1:=λ(p6:Bool) =>
     cond (p6) (
     (known20).bind λc =>some c) (
     some false)
    cond (decide (x9.e=0)) (
     j1 (decide ((x9.l.length:Int)=0))) (
     j1 false)) (
    (Amx x9).bind λ(d,f) =>
     let j2:=λ(p9:Bool) =>
     cond (p9) (
      (known20).bind λg =>
      some g) (
      some false)
     cond (decide (f=0)) (
     (A41 d b).bind λh =>j2 h) (
     j2 false))
   cond (decide (x3=0)) (
   cond (decide ((x2.length:Int)=0)) (
    some false) (
    (Alh x2).bind λ(x4,x5) =>
    chk (!decide ((wr .u64 (x2.length:Int))=0)) (
     chk (upto 0 (wr .i64 (Int.tmod (wr .u64 i) (wr .u64 (x2.length:Int)))) x2.length) (
     (Alh (x2.take ((wr .i64 (Int.tmod (wr .u64 i) (wr .u64 (x2.length:Int)))):Int).toNat)).bind λ(_,x7) =>
      cond (!decide (x5=0)) (
      some false) (
      (A65 x4 o).bind λx8 =>
       cond (!x8) (
       some false) (
       cond (!decide (x7=11)) (
        some false) (
        j3 ()))))))) (
   j3 ()))
 (Bn3 o).bind λx =>
  cond (x) (
  j true) (
  j (decide (5000<(b.length:Int))))
theorem Bms:FO 4 [.sv .outc,.sl .byte false,.int .i64] [.bool] (Aj0):=fR (px:=Bqy _) (n:=0) Tryz.func4 rfl (λ_ H=>⟨lv H (c1 H Bns (c1 H A32 (c1 H A7u (c1 H Bmu (c1 H Bfw (c1 H Bfc Ae)))))) Aa Ab,Ag⟩) λ(_,_,_)=>by kernel_rfl
end
abbrev vgR:=Int×Int×Int
def vgX:Ex->Ls->Option vgR:=λe vz=>match vz with|(_,a,b,c,_,d,_,_,_)=>match e with|.ret=>some (a,b,c)|.exit 0=>some (0,0,d)|_=>none
theorem Bfp:∀c:Nat,c<256->ior .u64 0 (Zw .u64 (wr .u64 (Ef .u8 (c:Int) 127)) (wr .i64 (7*((0:Nat):Int))))=((c % 128:Nat):Int):=by decide +kernel
theorem Bjr:∀c:Nat,c<256->Zw .u64 (wr .u64 (Ef .u8 (c:Int) 127)) (wr .i64 (7*((1:Nat):Int)))=((c % 128*128:Nat):Int):=by decide +kernel
theorem or7{n x:Nat}(hn:n<128)(hx:x<128):ior .u64 (n:Int) ((x*128:Nat):Int)=((n+128*x:Nat):Int):=by
 have e3:(BitVec.ofInt 64 ((x*128:Nat):Int)).toNat=x*128:=by simp;omega
 have e4:(BitVec.ofInt 64 (n:Int)).toNat=n:=by simp;omega
 have e5:n ||| x*128=n+128*x:=by have:=Nat.shiftLeft_add_eq_or_of_lt (i:=7) (b:=n) (by omega) x;rw[Nat.shiftLeft_eq] at this;rw[Nat.or_comm,<-this];omega
 show IntKind.wrap .u64 (((BitVec.ofInt 64 (n:Int) ||| BitVec.ofInt 64 ((x*128:Nat):Int)).toNat:Nat):Int)=_;rw[BitVec.toNat_or,e3,e4,e5];exact Gn (by omega)
theorem Btp(x y:Int) : 0<=ior .u64 x y:=by exact Int.emod_nonneg _ (by decide)
theorem Bmk{p n:Int}{l:Str}{i:Nat}(hi:i<l.length)(h9:i<=9)(hl:ln l.length):∃n':Int,0<=n'/\(i=0->n=0->n' = ((l[i].toNat % 128:Nat):Int))/\(i=1->0<=n->n<128->n' = n+128*((l[i].toNat % 128:Nat):Int)) /\
  ∀rec:Ls->Option vgR,Hd rec vgX (p,0,0,0,n,10,l,(l.length:Int),(i:Int))=if(i=9/\1<l[i].toNat)\/(l[i].toNat=0/\0<i) then some (0,0,11) else if l[i].toNat<128 then some (n',wr .i64 (wr .i64 (p+i)+1),0) else rec (p,0,0,0,n',10,l,(l.length:Int),((i+1:Nat):Int)):=by
 have hc:=l[i].toNat_lt;refine⟨ior .u64 n (Zw .u64 (wr .u64 (Ef .u8 (l[i].toNat:Int) 127)) (wr .i64 (7*(i:Int)))),Btp _ _,?_,?_,?_⟩
 ·rintro rfl rfl;exact Bfp _ hc
 ·rintro rfl h0 h1;rw[Bjr _ hc];obtain⟨m,rfl⟩:=Int.eq_ofNat_of_zero_le h0;rw[or7 (by omega) (Nat.mod_lt _ (by omega))];omega
 ·intro rec;have c1:decide (0<=wr .i64 (7*(i:Int)))=true:=by rw[B0 (by simp[inI];omega)];exact Ze1 (by omega)
  simp only[Hd,C6 hi,Ah,Ay hi,chk,Aw (c :=.byte) hi,As hi hl,vgX,c1]
  grind
theorem Bee{p:Int}{l:Str}(hl:ln l.length):∀(k i:Nat) (n:Int),i<=9->i<=l.length->9-i<k->∃m to e,Ak (λrec=>Hd rec vgX) k (p,0,0,0,n,10,l,(l.length:Int),(i:Int))=some (m,to,e)/\(e=0->0<=m/\∃j:Nat,j<l.length/\to=wr .i64 (wr .i64 (p+(j:Int))+1))
 |0,_,_,_,_,h=>by omega
 |k+1,i,n,h9,hi,hk=>by
  rw[Ak];by_cases h:i<l.length
  ·obtain⟨n',n0,_,_,hs⟩:=Bmk (p:=p) (n:=n) h h9 hl;rw[hs];split
   ·grind
   ·rename_i h1;split
    ·grind
    ·rename_i h2;exact Bee hl k (i+1) n' (by omega) h (by omega)
  ·have:i=l.length:=by omega
   subst this;simp only[Hd,E6,vgX]
   grind
theorem A7z{b:Str}{p:Nat}(hp:p<=b.length)(hb:b.length<=1000000):Tr b (p:Int)=Ak (λrec=>Hd rec vgX) 100 ((p:Int),0,0,0,0,10,b.drop p,((b.drop p).length:Int),0):=by simp only[Tr,Ac0];rw[Zd1 (show ¬(p:Int)<0 by omega),Af,Zd1 (show ¬(b.length:Int)<(p:Int) by omega),Af,show upto (p:Int) b.length b.length=true by simp[upto,Zb1];omega];rfl
theorem I2{b:Str}{p:Nat}(hp:p<=b.length)(hb:b.length<=1000000):∃m to e,Tr b (p:Int)=some (m,to,e)/\(e=0->0<=m/\∃j:Nat,to=(j:Int)/\p<j/\j<=b.length):=by
 rw[A7z hp hb];have hl:ln (b.drop p).length:=by simp[ln];omega
 obtain⟨m,to,e,h,ht⟩:=Bee (p:=(p:Int)) hl 100 0 0 (by omega) (by omega) (by omega);refine⟨m,to,e,h,λhe =>?_⟩;obtain⟨m0,j,hj,rfl⟩:=ht he;rw[Za2] at hj;refine⟨m0,p+j+1,?_,by omega,by omega⟩;rw[B0 (n:=(p:Int)+j) (by simp[inI];omega),B0 (by simp[inI];omega)];omega
theorem A36{n:Nat}(h:n<256):(UInt8.ofNat n).toNat=n:=by simp_all
theorem Aa4{b:Str}{p:Nat}(hp:p<=b.length)(hb:b.length<=1000000):∃s to e,Ae6 b (p:Int)=some (s,to,e)/\(e=0->s.length<=b.length/\∃j:Nat,to=(j:Int)/\p<j/\j<=b.length):=by
 obtain⟨m,to,e,h,ht⟩:=I2 hp hb;simp only[Ae6,Oi,h,Zc1];by_cases he:e=0
 ·obtain⟨m0,j,rfl,j1,j2⟩:=ht he;rw[Ze1 he,Zt1,Af,B0 (n:=(b.length:Int)-j) (by simp[inI];omega),show(b.length:Int)-(j:Int)=((b.length-j:Nat):Int) by omega,Gn (by omega)];by_cases h1 : 1048576<m
  ·grind
  rw[Zd1 h1,Af];by_cases h2:((b.length-j:Nat):Int)<m
  ·grind
  rw[Zd1 h2,Af,B0 (n:=m) (by simp[inI];omega),B0 (by simp[inI];omega)];have hu:upto (j:Int) ((j:Int)+m) b.length=true:=by simp[upto,Zb1];omega
  have hc:(cut b (j:Int) ((j:Int)+m)).length<=b.length:=by simp[cut,Za2];omega
  rw[hu,chk,Ah,Ze1 (show 0+(cut b (j:Int) ((j:Int)+m)).length<=Ai by simp[Ai];omega),chk,Ah];exact⟨_,_,_,rfl,λ_=>⟨hc,(j+m.toNat),by omega,by omega,by omega⟩⟩
 ·grind
def vsX:Ex->Ob->Option (List Str×Int):=λe vz=>match vz with|(v6,v7,v8,_,a,b)=>match e with|.ret=>some (v7,v8)|.exit 0=>cond (decide (a<(v6.length:Int))) (some ([],11)) (some (b,0))|_=>none
theorem Bgq{b:Str}(hb:b.length<=1000000):∀(k p:Nat) (n:Int) (acc:List Str),p<=b.length->b.length-p<k->acc.length+1<=p->0<=n->(∀x,x∈acc->x.length<=b.length)->∃l e,Ak (λrec=>Hz rec vsX) k (b,[],0,n,(p:Int),acc)=some (l,e)/\l.length+1<=b.length/\∀x,x∈l->x.length<=b.length
 |0,_,_,_,_,h,_,_,_=>by omega
 |k+1,p,n,acc,hp,hk,ha,hn,hl=>by
  simp only[Ak,Hz];by_cases h0 : 0<n
  ·obtain⟨s,to,e,h,ht⟩:=Aa4 hp hb;rw[Ze1 h0,Ah,h,Zc1];by_cases he:e=0
   ·obtain⟨hs,j,rfl,j1,j2⟩:=ht he;rw[Ze1 he,Zt1,Af,Ze1 (show acc.length+1<=Ai by simp[Ai];omega),chk,Ah];exact Bgq hb k j _ _ j2 (by omega) (by simp[ Zi1];omega) (by simp[wr,IntKind.wrap];exact Int.emod_nonneg _ (by decide)) λx hx=>by
     rcases List.mem_append.1 hx with hx|hx
     ·exact hl x hx
     ·rw[List.mem_singleton.1 hx];exact hs
   ·rw[Zd1 he,Zs1,Ah];exact⟨_,_,rfl,by simp;omega,λx hx=>by cases hx⟩
  ·rw[Zd1 h0,Af];simp only[vsX];cases decide ((p:Int)<(b.length:Int)) with|true=>exact⟨_,_,rfl,by simp;omega,λx hx=>by cases hx⟩|false=>exact⟨_,_,rfl,by omega,hl⟩
theorem Br4:∀c:Nat,c<256->wr .u64 (Ef .u8 (c:Int) 127)=((c % 128:Nat):Int):=by decide +kernel
theorem Bsw{x i:Nat}(hi:i<=9)(h:x*2 ^ (7*i)<18446744073709551616):Zw .u64 (x:Int) (wr .i64 (7*(i:Int)))=((x*2 ^ (7*i):Nat):Int):=by
 have e:(wr .i64 (7*(i:Int))).toNat=7*i:=by rw[B0 (by simp[inI];omega)];omega
 show wr .u64 ((x:Int)*2 ^ min (wr .i64 (7*(i:Int))).toNat IntKind.u64.bits)=_;rw[e,Nat.min_eq_left (by simp[IntKind.bits];omega),<-Gn h];simp
theorem Bt5{a x i:Nat}(ha:a<2 ^ (7*i))(h:a+x*2 ^ (7*i)<18446744073709551616):ior .u64 (a:Int) ((x*2 ^ (7*i):Nat):Int)=((a+x*2 ^ (7*i):Nat):Int):=by
 have e3:(BitVec.ofInt 64 ((x*2 ^ (7*i):Nat):Int)).toNat=x*2 ^ (7*i):=by simp only[BitVec.toNat_ofInt];omega
 have e4:(BitVec.ofInt 64 (a:Int)).toNat=a:=by simp only[BitVec.toNat_ofInt];omega
 have e5:a ||| x*2 ^ (7*i)=a+x*2 ^ (7*i):=by have:=Nat.shiftLeft_add_eq_or_of_lt (i:=7*i) (b:=a) ha x;rw[Nat.shiftLeft_eq] at this;rw[Nat.or_comm,<-this];omega
 show IntKind.wrap .u64 (((BitVec.ofInt 64 (a:Int) ||| BitVec.ofInt 64 ((x*2 ^ (7*i):Nat):Int)).toNat:Nat):Int)=_;rw[BitVec.toNat_or,e3,e4,e5];exact Gn h
theorem Ayq{p:Int}{a i:Nat}{l:Str}(hi:i<l.length)(h9:i<=9)(hl:ln l.length)(ha:a<2 ^ (7*i))(hx:a+(l[i].toNat % 128)*2 ^ (7*i)<18446744073709551616)(rec:Ls->Option vgR) :
  Hd rec vgX (p,0,0,0,(a:Int),10,l,(l.length:Int),(i:Int))=if(i=9/\1<l[i].toNat)\/(l[i].toNat=0/\0<i) then some (0,0,11) else if l[i].toNat<128 then some (((a+(l[i].toNat % 128)*2 ^ (7*i):Nat):Int),wr .i64 (wr .i64 (p+i)+1),0) else rec (p,0,0,0,((a+(l[i].toNat % 128)*2 ^ (7*i):Nat):Int),10,l,(l.length:Int),((i+1:Nat):Int)):=by
 have hc:=l[i].toNat_lt;have e:ior .u64 (a:Int) (Zw .u64 (wr .u64 (Ef .u8 (l[i].toNat:Int) 127)) (wr .i64 (7*(i:Int))))=((a+(l[i].toNat % 128)*2 ^ (7*i):Nat):Int):=by rw[Br4 _ hc,Bsw h9 (by omega),Bt5 ha hx]
 have c1:decide (0<=wr .i64 (7*(i:Int)))=true:=by rw[B0 (by simp[inI];omega)];exact Ze1 (by omega)
 simp only[Hd,C6 hi,Ah,Ay hi,chk,Aw (c :=.byte) hi,As hi hl,vgX,c1,e]
 grind
theorem A5o{p:Nat}{l r:Str}(hl:p+l.length<=1000000):∀(k i a m f:Nat),i+k=9->l.drop i=A7 k m++r->a<2 ^ (7*i)->a+m*2 ^ (7*i)<18446744073709551616->(0<i->0<m)->k<f ->
  Ak (λrec=>Hd rec vgX) f ((p:Int),0,0,0,(a:Int),10,l,(l.length:Int),(i:Int))=some (((a+m*2 ^ (7*i):Nat):Int),((p+i+(A7 k m).length:Nat):Int),0)
 |_,_,_,_,0,_,_,_,_,_,h=>by omega
 |k,i,a,m,f+1,hk,hd,ha,hm,h0,hf=>by
  have hlen:=congrArg List.length hd;have h1:=Ba k m;rw[Za2,Zh1] at hlen;have hi:i<l.length:=by omega
  have hln:ln l.length:=by simp[ln];omega
  have hgi:l[i]=(A7 k m++r)[0]'(by simp;omega):=by
   have:(l.drop i)[0]'(by rw[Za2];omega)=l[i]:=by simp
   rw[<-this];simp only[hd]
  have w1:wr .i64 (wr .i64 ((p:Int)+i)+1)=((p+i+1:Nat):Int):=by rw[B0 (n:=(p:Int)+i) (by simp[inI];omega),B0 (by simp[inI];omega)];omega
  rw[A8];have small:m<128->A7 k m=[UInt8.ofNat m]->Hd (Ak (λrec=>Hd rec vgX) f) vgX ((p:Int),0,0,0,(a:Int),10,l,(l.length:Int),(i:Int))=some (((a+m*2 ^ (7*i):Nat):Int),((p+i+(A7 k m).length:Nat):Int),0):=λhs e=>by
   have e0:l[i].toNat=m:=by rw[hgi];simp only[e];exact A36 (by omega)
   rw[Ayq hi (by omega) hln ha (by rw[e0,Nat.mod_eq_of_lt hs];exact hm),e0,Nat.mod_eq_of_lt hs,if_neg,if_pos hs,w1,e]
   ·rfl
   ·rintro(⟨h9,h2⟩|⟨h2,h3⟩)
    ·subst h9;have : 2*2 ^ (7*9)<=m*2 ^ (7*9):=Nat.mul_le_mul_right _ h2;omega
    ·have:=h0 h3;omega
  cases k with
  |zero =>
   have h9:i=9:=by omega
   subst h9;exact small (by omega) rfl
  |succ k =>
   by_cases hs:m<128
   ·exact small hs (by simp[A7,hs])
   ·have e:A7 (k+1) m=UInt8.ofNat (m % 128+128)::A7 k (m / 128):=by simp[A7,hs]
    have e0:l[i].toNat=m % 128+128:=by rw[hgi];simp only[e];exact A36 (by omega)
    have e1:(m % 128+128) % 128=m % 128:=by omega
    have hp : 2 ^ (7*(i+1))=128*2 ^ (7*i):=by rw[Nat.mul_add,Nat.pow_add];omega
    have hq:m % 128*2 ^ (7*i)+(m / 128)*2 ^ (7*(i+1))=m*2 ^ (7*i):=by rw[hp,<-Nat.mul_assoc,<-Nat.add_mul];congr 1;omega
    have hle:m % 128*2 ^ (7*i)<=127*2 ^ (7*i):=Nat.mul_le_mul_right _ (by omega);rw[Ayq hi (by omega) hln ha (by rw[e0,e1];omega),e0,e1,if_neg (by omega),if_neg (by omega)];have ih:=A5o (r:=r) hl k (i+1) (a+m % 128*2 ^ (7*i)) (m / 128) f (by omega) (by rw[<-List.drop_drop,hd,e];simp) (by rw[hp];omega) (by omega) (by omega) (by omega)
    rw[ih,e];simp only[Zf1,Za1,Zp1];refine⟨by congr 1;omega,by congr 1;omega,trivial⟩
theorem O3{b r:Str}{p n:Nat}(hd:b.drop p=A7 9 n++r)(hn:n<18446744073709551616)(hb:b.length<=1000000):Tr b (p:Int)=some ((n:Int),((p+(A7 9 n).length:Nat):Int),0)/\p+(A7 9 n).length+r.length=b.length:=by have hl:=congrArg List.length hd;have h1:=Ba 9 n;rw[Za2,Zh1] at hl;refine⟨?_,by omega⟩;rw[A7z (by omega) hb];have:=A5o (p:=p) (l:=b.drop p) (r:=r) (by rw[Za2];omega) 9 0 0 n 100 rfl (by simpa using hd) (by simp) (by simpa using hn) (by omega) (by omega);simpa using this
def zz(n:Int):Nat:=if n<0 then(-2*n-1).toNat else(2*n).toNat
theorem Bf3{n:Int}(h:inI n=true):zz n<18446744073709551616:=by simp[inI] at h;simp only[zz];split<;>omega
theorem wrU(n:Int):wr .u64 n=n % 18446744073709551616:=by simp[wr,IntKind.wrap,IntKind.bits,IntKind.signed]
theorem Btg(k:IntKind)(x:Int):Aft k x 0=k.wrap ((BitVec.ofInt k.bits x).toNat:Int):=by simp[Aft,Aj3]
theorem Bt8{x:Int}(h : 0<=x/\x<18446744073709551616):Aft .u64 x 18446744073709551615=18446744073709551615-x:=by show wr .u64 (((BitVec.ofInt 64 x ^^^ BitVec.ofInt 64 18446744073709551615).toNat:Nat):Int)=_;rw[show BitVec.ofInt 64 18446744073709551615=BitVec.allOnes 64 by decide,BitVec.xor_allOnes,BitVec.toNat_not,BitVec.toNat_ofInt,wrU];omega
theorem Bsi{n:Int}(h:inI n=true):Aft .u64 (Zw .u64 (wr .u64 n) 1) (wr .u64 (Dt .i64 n 63))=(zz n:Int):=by
 simp[inI] at h;have e1:Zw .u64 (wr .u64 n) 1=(wr .u64 n*2) % 18446744073709551616:=by rw[<-wrU];rfl
 have e2:Dt .i64 n 63=n.fdiv 9223372036854775808:=rfl;rw[e1,e2,wrU,wrU];by_cases hn:n<0
 ·have e3:n.fdiv 9223372036854775808 = -1:=by rw[Int.fdiv_eq_ediv_of_nonneg _ (by omega)];omega
  rw[e3,show(-1:Int) % 18446744073709551616=18446744073709551615 by decide,Bt8 (by omega)];simp only[zz,if_pos hn];omega
 ·have e3:n.fdiv 9223372036854775808=0:=by rw[Int.fdiv_eq_ediv_of_nonneg _ (by omega)];omega
  rw[e3,show(0:Int) % 18446744073709551616=0 by decide,Btg];show wr .u64 (((BitVec.ofInt 64 _).toNat:Nat):Int)=_;rw[BitVec.toNat_ofInt,wrU];simp only[zz,if_neg hn];omega
theorem Bka{n:Int}(h:inI n=true):A6w n=some (A7 9 (zz n)):=by simp only[A6w,Wt,Bsi h,Acl (Bf3 h)];rfl
theorem wrI(n:Int):wr .i64 n=(n+9223372036854775808) % 18446744073709551616-9223372036854775808:=by simp only[wr,IntKind.wrap_i64]
theorem Bte{n:Int}(h:inI n=true):Aft .i64 (wr .i64 (Dt .u64 (zz n:Int) 1)) (wr .i64 (0-(wr .i64 (Ef .u64 (zz n:Int) 1))))=n:=by
 have hz:=Bf3 h;simp[inI] at h;have e1:Dt .u64 (zz n:Int) 1=((zz n / 2:Nat):Int):=by show(zz n:Int).fdiv 2=_;rw[Int.fdiv_eq_ediv_of_nonneg _ (by omega)];omega
 have e2:Ef .u64 (zz n:Int) 1=((zz n % 2:Nat):Int):=by show wr .u64 (((BitVec.ofInt 64 (zz n:Int) &&& BitVec.ofInt 64 1).toNat:Nat):Int)=_;rw[BitVec.toNat_and,show(BitVec.ofInt 64 1).toNat=1 by decide,Nat.and_one_is_mod,BitVec.toNat_ofInt,wrU];omega
 rw[e1,e2,B0 (n:=((zz n / 2:Nat):Int)) (by simp[inI];omega),B0 (n:=((zz n % 2:Nat):Int)) (by simp[inI];omega)];by_cases hn:n<0
 ·have z:zz n % 2=1:=by simp only[zz,if_pos hn];omega
  have z2:((zz n / 2:Nat):Int) = -n-1:=by simp only[zz,if_pos hn];omega
  rw[z,z2,show wr .i64 (0-((1:Nat):Int)) = -1 by decide];show wr .i64 (((BitVec.ofInt 64 (-n-1) ^^^ BitVec.ofInt 64 (-1)).toNat:Nat):Int)=_;rw[show BitVec.ofInt 64 (-1)=BitVec.allOnes 64 by decide,BitVec.xor_allOnes,BitVec.toNat_not,BitVec.toNat_ofInt,wrI];omega
 ·have z:zz n % 2=0:=by simp only[zz,if_neg hn];omega
  have z2:((zz n / 2:Nat):Int)=n:=by simp only[zz,if_neg hn];omega
  rw[z,z2,show wr .i64 (0-((0:Nat):Int))=0 by decide,Btg];show wr .i64 (((BitVec.ofInt 64 n).toNat:Nat):Int)=_;rw[BitVec.toNat_ofInt,wrI];omega
theorem Bos{b r:Str}{p:Nat}{n:Int}(h:inI n=true)(hd:b.drop p=A7 9 (zz n)++r)(hb:b.length<=1000000):An1 b (p:Int)=some (n,((p+(A7 9 (zz n)).length:Nat):Int),0):=by simp only[An1,Np,(O3 hd (Bf3 h) hb).1,Zc1,Bte h]
theorem Iz{v:Val}(h:Be v=true)(hk:v.kind=4\/v.kind=5):v.s.length<=1000:=by rcases hk with hk|hk<;>simp[Be,hk] at h<;>grind
theorem Aet{v:Val}(h:Be v=true):v.kind=1\/v.kind=2\/v.kind=3\/v.kind=4\/v.kind=5:=by
 by_cases h1:v.kind=1; · exact .inl h1
 by_cases h2:v.kind=2; · exact .inr (.inl h2)
 by_cases h3:v.kind=3; · exact .inr (.inr (.inl h3))
 by_cases h4:v.kind=4; · exact .inr (.inr (.inr (.inl h4)))
 by_cases h5:v.kind=5; · exact .inr (.inr (.inr (.inr h5)))
 simp[Be,h1,h2,h3,h4,h5] at h
def b8(n:Int):UInt8:=UInt8.ofNat (wr .u8 n).toNat
def K6(v:Val):Str:=b8 v.kind::(if v.kind=2 then [b8 v.n] else if v.kind=3 then A7 9 (zz v.n) else if v.kind=4\/v.kind=5 then A7 5 v.s.length++v.s else [])
theorem Av3{v:Val}(h:Be v=true):(K6 v).length<=1020:=by
 have h1:=Ba 9 (zz v.n);have h2:=Ba 5 v.s.length;simp only[K6,Zf1];split
 ·simp
 ·split
  ·omega
  ·split
   ·have:=Iz h (by assumption);rw[Zh1];omega
   ·simp
def H6(l:List Val):Str:=(l.map K6).flatten
def Js(l:List Val):Str×Int:=cond (l.all λv=>Be v) (cond (decide (100<(l.length:Int))) ([],3) (A7 9 l.length++H6 l,0)) ([],2)
theorem vch(v:Val):Gr v=cond (!Be v) 2 0:=rfl
theorem A85{l:List Val}{i:Nat}{acc:Str}{a:Str}{b:Int}{kx:Ex->Lr->Option (Str×Int)}(rec:Lr->Option (Str×Int))(hi:i<l.length)(hl:ln l.length)(hn:inI l[i].n=true)(ha:acc.length<=200000000000) :
  O9 rec kx (l,a,b,acc,l,(l.length:Int),(i:Int))=cond (Be l[i]) (rec (l,a,b,acc++K6 l[i],l,(l.length:Int),((i+1:Nat):Int))) (kx .ret (l,[],2,acc,l,(l.length:Int),(i:Int))):=by
 simp only[O9,C6 hi,Ah,Ay hi,chk,Aw (c :=.val) hi,As hi hl,vch];cases hv:Be l[i] with
 |false=>rfl
 |true =>
  have d1:decide (acc.length+1<=Ai)=true:=Ze1 (by simp[Ai];omega);have d2:∀x:Str,x.length<=2000->decide ((acc++[b8 l[i].kind]).length+x.length<=Ai)=true:=λx hx=>Ze1 (by simp[Ai];omega);rcases Aet hv with hk|hk|hk|hk|hk
  ·simp[K6,hk,d1,b8]
  ·have d3:=d2 [b8 l[i].n] (by simp);simp[b8,hk] at d3;simp[K6,hk,d1,b8,d3]
  ·have d3:=d2 (A7 9 (zz l[i].n)) (by have:=Ba 9 (zz l[i].n);omega);simp[b8,hk] at d3;simp[K6,hk,d1,b8,Bka hn,d3]
  ·have hs:=Iz hv (.inl hk);have d3:=d2 (A7 5 l[i].s.length++l[i].s) (by have:=Ba 5 l[i].s.length;simp;omega);simp[b8,hk] at d3;simp[K6,hk,d1,b8,Aas (show l[i].s.length<=274877906900 by omega),d3,show l[i].s.length<=Ai by simp[Ai];omega]
  ·have hs:=Iz hv (.inr hk);have d3:=d2 (A7 5 l[i].s.length++l[i].s) (by have:=Ba 5 l[i].s.length;simp;omega);simp[b8,hk] at d3;simp[K6,hk,d1,b8,Aas (show l[i].s.length<=274877906900 by omega),d3,show l[i].s.length<=Ai by simp[Ai];omega]
theorem Om(v:Val)(l:List Val):H6 (v::l)=K6 v++H6 l:=by simp[H6]
theorem Ano:∀{l:List Val},(l.all λv=>Be v)=true->(H6 l).length<=1020*l.length
 |[],_=>by simp[H6]
 |v::l,h=>by simp only[Zv1,Zb1] at h;have h1:=Av3 h.1;have h2:=Ano h.2;rw[Om,Zh1,Zf1];omega
theorem An5{l:List Val}{kx:Ex->Lr->Option (Str×Int)}(hl:l.length<=4000)(hn:∀v,v∈l->inI v.n=true):∀(k i:Nat) (acc:Str),i<=l.length->l.length-i<k->acc.length+1020*(l.length-i)<=200000000000 ->
  ((l.drop i).all (λv=>Be v)=true->Ak (λrec=>O9 rec kx) k (l,[],0,acc,l,(l.length:Int),(i:Int))=kx (.exit 0) (l,[],0,acc++H6 (l.drop i),l,(l.length:Int),(l.length:Int))) /\
  ((l.drop i).all (λv=>Be v)=false->∃acc' j,Ak (λrec=>O9 rec kx) k (l,[],0,acc,l,(l.length:Int),(i:Int))=kx .ret (l,[],2,acc',l,(l.length:Int),j))
 |0,_,_,_,h,_=>by omega
 |k+1,i,acc,hi,hk,ha=>by
  have hln:ln l.length:=by simp[ln];omega
  rw[A8];by_cases h:i<l.length
  ·have hv:l[i]∈l:=List.getElem_mem h;rw[A85 _ h hln (hn _ hv) (by omega),List.drop_eq_getElem_cons h,Zv1];cases hr:Be l[i] with|false =>refine⟨λe=>by simp at e,λ_=>⟨_,_,rfl⟩⟩|true =>have hlen:=Av3 hr;rw[Ah,Bool.true_and,Om,<-Zj1];exact An5 hl hn k (i+1) (acc++K6 l[i]) h (by omega) (by rw[Zh1];omega)
  ·have:i=l.length:=by omega
   subst this;refine⟨λ_ =>?_,λe=>by simp at e⟩;simp only[O9,E6,Af];simp[H6]
theorem Bnm{l:List Val}(hl:l.length<=4000)(hn:∀v,v∈l->inI v.n=true):Bo9 l=some (Js l):=by
 have h9:=Ba 9 l.length;obtain⟨h1,h2⟩:=An5 (l:=l) (kx:=λe vz=>match vz with|(v7,v8,v9,a,_,_,_)=>match e with
  |.ret=>some (v8,v9)
  |.exit 0=>cond (decide (100<(v7.length:Int))) (some ([],3)) (some (a,0))
  |_=>none) hl hn 5000 0 (A7 9 l.length) (by omega) (by omega) (by omega)
 have e:wr .u64 (l.length:Int)=(l.length:Int):=Gn (by omega);simp only[Bo9,Ab5,e,Acl (show l.length<18446744073709551616 by omega),Zc1,Js];rw[Zq1] at h1 h2;cases h:l.all (λv=>Be v) with|true =>refine(h1 h).trans ?_;show cond (decide (100<(l.length:Int))) (some (([]:Str),(3:Int))) (some (A7 9 l.length++H6 l,0))=_;cases decide (100<(l.length:Int))<;>rfl|false =>obtain⟨_,_,h3⟩:=h2 h;exact h3
theorem Az9{l:List Val}(hl:l.length<=4000):(Js l).1.length<=110000:=by
 simp only[Js];cases h:l.all (λv=>Be v) with
 |false=>simp
 |true =>rw[Ah];cases hd:decide (100<(l.length:Int)) with|true=>simp|false =>have:=of_decide_eq_false hd;have h1:=Ano h;have h2:=Ba 9 l.length;simp only[Af,Zh1];omega
def okR(r:List Val):Bool:=decide ((Js r).2=0)
def Axh:List (List Val)->Int
 |[]=>0
 |r::l=>if(Js r).2=0 then Axh l else(Js r).2
theorem A47:∀{l:List (List Val)},l.all okR=false->Axh l≠0
 |[],h=>by simp at h
 |r::l,h=>by
  simp only[Axh];split
  ·rename_i e;refine A47 ?_;simpa[okR,e] using h
  ·assumption
def Cc(l:List (List Val)):List Str:=l.map λr=>(Js r).1
theorem Aev(r:List Val)(l:List (List Val)):Cc (r::l)=(Js r).1::Cc l:=rfl
def Eg(l:List (List Val)):Str×Int:=cond (l.all okR) (Y2 (Cc l),0) ([],Axh l)
def Adz(l:List (List Val)):Prop:=l.length<=20000/\∀r,r∈l->r.length<=4000/\∀v,v∈r->inI v.n=true
theorem Aq3:∀{l:List Str}{m:Nat},(∀s,s∈l->s.length<=m)->(E9 l).length<=(m+6)*l.length
 |[],_,_=>by simp[E9]
 |s::l,m,h=>by have h1:=Ba 5 s.length;have h2:=h s (by simp);have h3:=Aq3 (l:=l) (m:=m) λs hs=>h s (by simp[hs]);simp only[E9,Zh1,Zf1,Nat.mul_succ];omega
theorem Adx{l:List (List Val)}(h:Adz l):(E9 (Cc l)).length<=110006*l.length:=by
 have:=Aq3 (l:=Cc l) (m:=110000) λs hs=>by obtain⟨r,hr,rfl⟩:=List.mem_map.1 hs;exact Az9 (h.2 r hr).1
 simpa[Cc] using this
theorem Aik{l:List (List Val)}{kx:Ex->R0->Option (Str×Int)}(hb:Adz l):∀(k i:Nat) (acc:List Str),i<=l.length->l.length-i<k->acc.length<=i ->
  ((l.drop i).all okR=true->Ak (λrec=>Nt rec kx) k ([],0,acc,l,(l.length:Int),(i:Int))=kx (.exit 0) ([],0,acc++Cc (l.drop i),l,(l.length:Int),(l.length:Int))) /\
  ((l.drop i).all okR=false->∃acc' j,Ak (λrec=>Nt rec kx) k ([],0,acc,l,(l.length:Int),(i:Int))=kx .ret ([],Axh (l.drop i),acc',l,(l.length:Int),j))
 |0,_,_,_,h,_=>by omega
 |k+1,i,acc,hi,hk,ha=>by
  have hl:=hb.1;have hln:ln l.length:=by simp[ln];omega
  rw[A8];by_cases h:i<l.length
  ·have hm:=hb.2 l[i] (List.getElem_mem h);simp only[Nt,C6 h,Ah,Ay h,chk,Aw (c :=.vals) h,As h hln];rw[Bnm hm.1 hm.2,Zc1,List.drop_eq_getElem_cons h,Zv1];cases ho:okR l[i] with|false =>have e:¬(Js l[i]).2=0:=of_decide_eq_false ho;refine⟨λe=>by simp at e,λ_=>⟨acc,i,?_⟩⟩;simp[Axh,e]|true =>have e:(Js l[i]).2=0:=of_decide_eq_true ho;simp only[e,decide_true,Zt1,Af,Bool.true_and,Ze1 (show acc.length+1<=Ai by simp[Ai];omega),Ah,Axh,if_true];have ih:=Aik (kx:=kx) hb k (i+1) (acc++[(Js l[i]).1]) h (by omega) (by simp;omega);rw[Aev,List.append_cons acc _ (Cc _)];exact ih
  ·have:i=l.length:=by omega
   subst this;refine⟨λ_ =>?_,λe=>by simp at e⟩;simp only[Nt,E6,Af];simp[Cc]
theorem Bfj{l:List (List Val)}(hb:Adz l):A4r l=some (Eg l):=by
 have hl:=hb.1;obtain⟨h1,h2⟩:=Aik (l:=l) (kx:=λe vz=>match vz with|(v6,v7,v8,_,_,_)=>match e with
  |.ret=>some (v6,v7)
  |.exit 0=>(Ame v8).bind λx2=>some (x2,0)
  |_=>none) hb 50000 0 [] (by omega) (by omega) (by simp)
 have hj:=Adx hb;simp only[A4r,Uz,Eg];rw[Zq1] at h1 h2;cases h:l.all okR with|true =>refine(h1 h).trans ?_;show((Ame ([]++Cc l)).bind λx2=>some (x2,(0:Int)))=_;rw[Zf2,Bf1 (by simp[Cc];omega) (by omega)];rfl|false =>obtain⟨_,_,h3⟩:=h2 h;exact h3
def Tu(o:OutS):Bool := !(decide (o.e<0)||decide (999<o.e)||decide (o.pos<0)||decide (50<o.pos)||(!decide (o.e=0)&&decide (0<(o.l.length:Int)))||decide (50<(o.l.length:Int)))
def Blt{α:Type}(o:OutS)(no yes : α) : α :=
 let j2:=λ(p:Bool) =>
  let j1:=λ(p1:Bool) =>
  let j:=λ(p2:Bool)=>cond p2 no (cond (!decide (o.e=0)) (cond (decide (0<(o.l.length:Int))) no (cond (decide (50<(o.l.length:Int))) no yes)) (cond (decide (50<(o.l.length:Int))) no yes))
  cond p1 (j true) (j (decide (50<o.pos)))
  cond p (j1 true) (j1 (decide (o.pos<0)))
 cond (decide (o.e<0)) (j2 true) (j2 (decide (999<o.e)))
theorem Bks{α:Type}(o:OutS)(no yes : α):Blt o no yes=cond (Tu o) yes no:=by simp only[Blt,Tu];cases decide (o.e<0)<;>cases decide (999<o.e)<;>cases decide (o.pos<0)<;>cases decide (50<o.pos)<;>cases decide (o.e=0)<;>cases decide (0<(o.l.length:Int))<;>cases decide (50<(o.l.length:Int))<;>rfl
theorem Aef{l:List ResS}{kx:Ex->Nf->Option Bool}(hl:l.length<=4000):∀(k i:Nat),i<=l.length->l.length-i<k ->
  ((l.drop i).all (λr=>decide (0<=r.n))=true->Ak (λrec=>Gm rec kx) k (false,l,(l.length:Int),(i:Int))=kx (.exit 0) (false,l,(l.length:Int),(l.length:Int))) /\
  ((l.drop i).all (λr=>decide (0<=r.n))=false->∃j,Ak (λrec=>Gm rec kx) k (false,l,(l.length:Int),(i:Int))=kx .ret (false,l,(l.length:Int),j))
 |0,_,_,h=>by omega
 |k+1,i,hi,hk=>by
  have hln:ln l.length:=by simp[ln];omega
  rw[A8];by_cases h:i<l.length
  ·simp only[Gm,C6 h,Ah,Ay h,chk,Aw (c :=.res) h,As h hln];rw[List.drop_eq_getElem_cons h,Zv1];by_cases hn:l[i].n<0
   ·rw[Ze1 hn,Zd1 (show ¬ 0<=l[i].n by omega)];exact⟨λe=>by simp at e,λ_=>⟨_,rfl⟩⟩
   ·rw[Zd1 hn,Ze1 (show 0<=l[i].n by omega),Bool.true_and];exact Aef hl k (i+1) h (by omega)
  ·have:i=l.length:=by omega
   subst this;refine⟨λ_ =>?_,λe=>by simp at e⟩;simp only[Gm,E6,Af]
theorem Bcz{o:OutS}(hl:o.l.length<=4000):Arv o=some (Tu o&&o.l.all λr=>decide (0<=r.n)):=by
 have key:Ak (λrec=>Gm rec (λe vz=>match vz with|(v4,_,_,_)=>match e with
  |.ret=>some v4
  |.exit 0=>some true
  |_=>none)) 5000 (false,o.l,(o.l.length:Int),0)=some (o.l.all λr=>decide (0<=r.n)):=by
  obtain⟨h1,h2⟩:=Aef (l:=o.l) (kx:=λe vz=>match vz with|(v4,_,_,_)=>match e with
   |.ret=>some v4
   |.exit 0=>some true
   |_=>none) hl 5000 0 (by omega) (by omega)
  rw[Zq1] at h1 h2;cases h:o.l.all (λr=>decide (0<=r.n)) with|true=>exact h1 h|false =>obtain⟨_,h3⟩:=h2 h;exact h3
 refine(show Arv o=Blt o (some false) (Ak (λrec=>Gm rec (λe vz=>match vz with|(v4,_,_,_)=>match e with
  |.ret=>some v4
  |.exit 0=>some true
  |_=>none)) 5000 (false,o.l,(o.l.length:Int),0)) from rfl).trans ?_
 rw[key,Bks];cases Tu o<;>rfl
theorem Ai0{l:List (List Val)}(hb:Adz l):(Eg l).1.length<=2200200000:=by simp only[Eg];cases h:l.all okR with|false=>simp|true =>have h1:=Adx hb;have h2:=Ba 5 (Cc l).length;have h3:=hb.1;simp only[Ah,Y2,Zh1];omega
theorem Bmm(l:List (List Val)):decide ((Eg l).2=0)=l.all okR:=by
 by_cases h:l.all okR=true
 ·rw[Eg,h];rfl
 ·have h:=Bool.eq_false_iff.2 h;have e:(Eg l).2=Axh l:=by rw[Eg,h];rfl
  rw[e,h];exact Zd1 (A47 h)
def okM(r:ResS):Bool:=r.rows.all okR
def Ah2(r:ResS):Bool:=decide (1048576<((Eg r.rows).1.length:Int))
def Amf(r:ResS):Str:=A7 9 r.n.toNat++(A7 5 (Eg r.rows).1.length++(Eg r.rows).1)
def Gz(l:List ResS):Str:=(l.map Amf).flatten
theorem M7(r:ResS)(l:List ResS):Gz (r::l)=Amf r++Gz l:=by simp[Gz]
def Au2(r:ResS):Prop:=Adz r.rows/\inI r.n=true
theorem Zv{n:Int}(h:inI n=true)(h0 : 0<=n):wr .u64 n=((n.toNat:Nat):Int)/\n.toNat<18446744073709551616:=by simp[inI] at h;refine⟨?_,by omega⟩;obtain⟨m,rfl⟩:=Int.eq_ofNat_of_zero_le h0;rw[Gn (by omega),Int.toNat_natCast]
theorem Arf{l:List ResS}{kx:Ex->Zr->Option (Str×Int)}(hl:l.length<=50)(hb:∀r,r∈l->Au2 r)(h0:∀r,r∈l->0<=r.n):∀(k i:Nat) (acc:Str) (g:Bool),i<=l.length->l.length-i<k->acc.length+2200200100*(l.length-i)<=200000000000 ->
  ((l.drop i).all okM=true->Ak (λrec=>Wd rec kx) k ([],0,acc,g,l,(l.length:Int),(i:Int))=kx (.exit 0) ([],0,acc++Gz (l.drop i),g||(l.drop i).any Ah2,l,(l.length:Int),(l.length:Int))) /\
  ((l.drop i).all okM=false->∃acc' g' j,Ak (λrec=>Wd rec kx) k ([],0,acc,g,l,(l.length:Int),(i:Int))=kx .ret ([],2,acc',g',l,(l.length:Int),j))
 |0,_,_,_,_,h,_=>by omega
 |k+1,i,acc,g,hi,hk,ha=>by
  have hln:ln l.length:=by simp[ln];omega
  rw[A8];by_cases h:i<l.length
  ·have hm:=List.getElem_mem h;obtain⟨hr,hn⟩:=hb _ hm;obtain⟨u1,u2⟩:=Zv hn (h0 _ hm);have hlen:=Ai0 hr;have p9:=Ba 9 l[i].n.toNat;have p5:=Ba 5 (Eg l[i].rows).1.length;have c1:decide (acc.length+(A7 9 l[i].n.toNat).length<=Ai)=true:=Ze1 (by simp[Ai];omega);have c2:decide ((acc++A7 9 l[i].n.toNat).length+(A7 5 (Eg l[i].rows).1.length++(Eg l[i].rows).1).length<=Ai)=true:=Ze1 (by simp[Ai];omega);simp only[Wd,C6 h,Ah,Ay h,chk,Aw (c :=.res) h,As h hln,Bfj hr,Zc1];rw[Bmm,List.drop_eq_getElem_cons h,Zv1,List.any_cons];have ho:okM l[i]=l[i].rows.all okR:=rfl;have hg:Ah2 l[i]=decide (1048576<((Eg l[i].rows).1.length:Int)):=rfl;rw[<-ho,<-hg];cases hok:okM l[i] with
   |false=>exact⟨λe=>by simp at e,λ_=>⟨_,_,_,rfl⟩⟩
   |true =>
    simp only[Zt1,Af,u1,Acl u2,Zc1,c1,Ah,Aas (show(Eg l[i].rows).1.length<=274877906900 by omega),c2,Bool.true_and];have ih:=λg'=>Arf (kx:=kx) hl hb h0 k (i+1) (acc++A7 9 l[i].n.toNat++(A7 5 (Eg l[i].rows).1.length++(Eg l[i].rows).1)) g' h (by omega) (by simp only[Zh1];omega);have e:acc++Gz (l[i]::List.drop (i+1) l)=acc++A7 9 l[i].n.toNat++(A7 5 (Eg l[i].rows).1.length++(Eg l[i].rows).1)++Gz (List.drop (i+1) l):=by rw[M7];simp[Amf]
    rw[e];cases g with|true=>exact ih true|false =>have:=ih (Ah2 l[i]);simpa using this
  ·have:i=l.length:=by omega
   subst this;refine⟨λ_ =>?_,λe=>by simp at e⟩;simp only[Wd,E6,Af];simp[Gz]
def Bd(o:OutS):Str:=A7 9 o.e.toNat++A7 9 o.pos.toNat++A7 9 o.l.length++Gz o.l
def Nj(o:OutS):Str×Int:=cond (Tu o) (cond (o.l.all λr=>decide (0<=r.n)) (cond (o.l.all okM) (cond (o.l.any Ah2) ([],3) (cond (decide (1048576<((Bd o).length:Int))) ([],3) (Bd o,0))) ([],2)) ([],2)) ([],2)
def Azw(o:OutS):Prop:=o.l.length<=4000/\inI o.e=true/\inI o.pos=true/\∀r,r∈o.l->Au2 r
theorem Nu{o:OutS}(h:Tu o=true) : 0<=o.e/\o.e<=999/\0<=o.pos/\o.pos<=50/\o.l.length<=50:=by simp[Tu] at h;omega
theorem Af6{o:OutS}(hb:Azw o):Amx o=some (Nj o):=by
 obtain⟨hl,he,hp,hr⟩:=hb;simp only[Amx,Acy,Bcz hl,Zc1,Nj];cases hh:Tu o with
 |false=>rfl
 |true =>
  cases ha:o.l.all (λr=>decide (0<=r.n)) with
  |false=>rfl
  |true =>
   obtain⟨s1,s2,s3,s4,s5⟩:=Nu hh;obtain⟨e1,e2⟩:=Zv he s1;obtain⟨p1,p2⟩:=Zv hp s3;have l1:wr .u64 (o.l.length:Int)=(o.l.length:Int):=Gn (by omega);have q1:=Ba 9 o.e.toNat;have q2:=Ba 9 o.pos.toNat;have q3:=Ba 9 o.l.length;simp only[Bool.and_true,Zt1,Af,Ah,e1,p1,l1,Acl e2,Acl p2,Acl (show o.l.length<18446744073709551616 by omega),Zc1,chk,Ze1 (show(A7 9 o.e.toNat).length+(A7 9 o.pos.toNat).length<=Ai by simp[Ai];omega),Ze1 (show(A7 9 o.e.toNat++A7 9 o.pos.toNat).length+(A7 9 o.l.length).length<=Ai by simp[Ai];omega)];obtain⟨h1,h2⟩:=Arf (l:=o.l) (kx:=λe vz=>match vz with|(v7,v8,v9,a,_,_,_)=>match e with
     |.ret=>some (v7,v8)
     |.exit 0=>cond (a) (some ([],3)) (cond (decide (1048576<(v9.length:Int))) (some ([],3)) (some (v9,0)))
     |_=>none) s5 hr (λr hm=>by simpa using Zg2.1 ha r hm) 5000 0 (A7 9 o.e.toNat++A7 9 o.pos.toNat++A7 9 o.l.length) false (by omega) (by omega) (by simp only[Zh1];omega)
   rw[Zq1] at h1 h2;cases hk:o.l.all okM with|false =>obtain⟨_,_,_,h3⟩:=h2 hk;exact h3|true =>refine(h1 hk).trans ?_;show cond (false||o.l.any Ah2) (some (([]:Str),(3:Int))) (cond (decide (1048576<((Bd o).length:Int))) (some ([],3)) (some (Bd o,0)))=_;cases o.l.any Ah2<;>cases decide (1048576<((Bd o).length:Int))<;>rfl
end Go.Proofs.YtblaahgjaopdnaaGreatDoor
