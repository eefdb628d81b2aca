/- Texts of the proof,one behind the other: Ph,Pj,Bw,Shj,Sj,Wr,Ws,Pi,Kx,Sf,Cn,Cm,Xa,Xb,Xc,Vg,Vd,Vu,Xu,Vc,Xd. -/
import Derived.Test.YtblaahgjaopdnaaGreatDoorZZ6
import Derived.Lib.Strings
import Derived.Lib.Slices
import Derived.Lib.Builder
import Derived.Lib.UnsafeStr
import Derived.Lib.FrozenHead
import Derived.Shelf.RegionOpenPlain
import Derived.Shelf.Strings.OnBuilder
set_option linter.all false
namespace Go.Proofs.YtblaahgjaopdnaaGreatDoor
open Go.Ax
def Nk:Sig:=⟨1,[],[(0,.ptr 0 0)],[(0,.cells [.sl .tok false,.int .i64,.bool,.int .i64])],1,1,0,[],[]⟩
def Ns:Sig:=⟨1,[(0,.sl .str true)],[],[(0,.cells [.sl .tok false,.int .i64,.bool,.int .i64])],1,1,0,[],[]⟩
abbrev A2i:=List Tok×Int×Bool×Int
abbrev Rl:=List Str×List Tok×Int×Bool×Int
def Agn:Sig:=⟨19,[],[(0,.ptr 0 0),(1,.fn 180 [.ptr 2 0,.ptr 1 0])],[(0,.cells [.sl .tok false,.int .i64,.bool,.int .i64]),(1,.fx [.ptr 0 0]),(2,.cells [.sl .str true])],80,80,400,[],[]⟩
abbrev Zl:=List Tok×Int×Bool×Int×List Str
def Amy{R:Type}(rec:Zl->Option R)(kx:Ex->Zl->Option R)(v:Zl):Option R:=match v with
 |(w,w1,w2,w3,w4) =>
 cond (!w2) (
  (A8 ([44],w,w1,w2,w3)).bind λ(x9,a,b,c,d) =>
  cond (x9) (
   (Bt (a,b,c,d)).bind λ(e,f,g,h,i) =>
   chk (decide (w4.length+1<=Ag)) (
    rec (f,g,h,i,(w4++[e])))) (
   kx (.exit 0) (a,b,c,d,w4))) (
  kx (.exit 0) (w,w1,w2,w3,w4))
def V2(R:Type)(_k:Nat):Px R:=pxO [] [] [] [(75,Cy Ew Ej Bt)]
noncomputable def Ahy(R:Type)(k:Nat):Px R:=pxO [(72,Ak Di Dh A8),(180,Aw 120 600 (V2 R k) Tryz.f180)] [] [(1,Al k Agn (Amy))] []
noncomputable def At4(R:Type)(k:Nat):Px R:=pxO [(74,Ak Dq Dm A9),(76,Aw 80 400 (Ahy R k) Tryz.f76)] [] [] []
def Q7(k:Nat)(x:A2i):Option (Rl):=match x with
 |(l,n,b,p) =>
 (A9 ([[40]],l,n,b,p)).bind λ(x,x1,x2,x3) =>
  (Bt (x,x1,x2,x3)).bind λ(x4,x5,x6,x7,x8) =>
  Aj (λrec=>Amy rec (λe vz=>match vz with|(v,v1,v2,v3,v4)=>match e with
   |.exit 0 =>
   (A9 ([[41]],v,v1,v2,v3)).bind λ(a,c,d,f) =>some (v4,a,c,d,f)
   |_=>none)) k (x5,x6,x7,x8,[x4])
theorem A49(k:Nat):FM 114 Nk Ns (Q7 k):=fRL (px:=At4 _ k) (n:=0) Tryz.func114 rfl (λcx H=>by have h2:Lv cx (V2 (Rl) k):=lv H Ae Aa (w1 H G4 Ab);have h1:Lv cx (Ahy (Rl) k):=lv H (l1 H Dy (Am (cR H h2 Tryz.func180 rfl (n:=0) (Ai)) Ae)) Aa Ab;have hlpnames_0:=lO H h1 (b:=lp Tryz.f76 0) (k:=k) (n:=0) (s:=Agn) (step:=Amy) (λ_ _ _ (_,_,_,_,_)=>by kernel_rfl) Ai;have h0:Lv cx (At4 (Rl) k):=lv H (l1 H Ev (Am (cR H h1 Tryz.func76 rfl (n:=1) ((A2 Ai hlpnames_0))) Ae)) Aa Ab;exact⟨h0,Ai⟩) λ(_,_,_,_)=>by kernel_rfl
def Ra:A2i->Option Rl:=λx=>Q7 ((x.1.length+3)) x
theorem Aqk:FM 114 Nk Ns (Ra):=FnLn.fin (ι:=Nat) (sg:=Nk) (so:=Ns) 0 (F:=λk=>Q7 k) (λk=>A49 k) λx _ _ hx=>⟨(x.1.length+3),hx⟩
def Mk:Sig:=⟨1,[],[(0,.ptr 0 0)],[(0,.cells [.sl .tok false,.int .i64,.bool,.int .i64])],1,1,0,[],[]⟩
def Mz:Sig:=⟨1,[(0,.sl .expr true)],[],[(0,.cells [.sl .tok false,.int .i64,.bool,.int .i64])],1,1,0,[],[]⟩
abbrev Azu:=List Tok×Int×Bool×Int
abbrev Qw:=List Xpr×List Tok×Int×Bool×Int
def Ag8:Sig:=⟨19,[],[(0,.ptr 0 0),(1,.fn 115 [.ptr 2 0,.ptr 1 0])],[(0,.cells [.sl .tok false,.int .i64,.bool,.int .i64]),(1,.fx [.ptr 0 0]),(2,.cells [.sl .expr true])],80,80,400,[],[]⟩
abbrev Yb:=List Tok×Int×Bool×Int×List Xpr
def Ajp{R:Type}(rec:Yb->Option R)(kx:Ex->Yb->Option R)(v:Yb):Option R:=match v with
 |(w,w1,w2,w3,w4) =>
 cond (!w2) (
  (A8 ([44],w,w1,w2,w3)).bind λ(x5,x6,x7,x8,x9) =>
  cond (x5) (
   (Sb (x6,x7,x8,x9)).bind λ(a,b,c,d,e) =>
   chk (decide (w4.length+1<=Ag)&&decide ((w4.length:Int)=(w4.length:Int))) (
    rec (b,c,d,e,(w4++[a])))) (
   kx (.exit 0) (x6,x7,x8,x9,w4))) (
  kx (.exit 0) (w,w1,w2,w3,w4))
def Wp(R:Type)(_k:Nat):Px R:=pxO [] [] [] [(116,Cy Cv Cu Sb)]
noncomputable def Ah7(R:Type)(k:Nat):Px R:=pxO [(72,Ak Di Dh A8),(115,Aw 120 600 (Wp R k) Tryz.f115)] [] [(1,Al k Ag8 (Ajp))] []
noncomputable def Aqh(R:Type)(k:Nat):Px R:=pxO [(76,Aw 80 400 (Ah7 R k) Tryz.f76)] [] [] []
def Ss(k:Nat)(x:Azu):Option (Qw):=match x with
 |(l,n,b,p) =>
 (Sb (l,n,b,p)).bind λ(x,x1,x2,x3,x4) =>
  chk (decide (0+1<=Ag)&&decide (0=(0:Int))) (
  Aj (λrec=>Ajp rec (λe vz=>match vz with|(v,v1,v2,v3,v4)=>match e with
   |.exit 0 =>
   some (v4,v,v1,v2,v3)
   |_=>none)) k (x1,x2,x3,x4,[x]))
theorem A6o(k:Nat):FM 78 Mk Mz (Ss k):=fRL (px:=Aqh _ k) (n:=0) Tryz.func78 rfl (λcx H=>by have h2:Lv cx (Wp (Qw) k):=lv H Ae Aa (w1 H Avq Ab);have h1:Lv cx (Ah7 (Qw) k):=lv H (l1 H Dy (Am (cR H h2 Tryz.func115 rfl (n:=0) (Ai)) Ae)) Aa Ab;have hlpexprs_0:=lO H h1 (b:=lp Tryz.f76 0) (k:=k) (n:=0) (s:=Ag8) (step:=Ajp) (λ_ _ _ (_,_,_,_,_)=>by kernel_rfl) Ai;have h0:Lv cx (Aqh (Qw) k):=lv H (Am (cR H h1 Tryz.func76 rfl (n:=1) ((A2 Ai hlpexprs_0))) Ae) Aa Ab;exact⟨h0,Ai⟩) λ(_,_,_,_)=>by kernel_rfl
def Mw:Azu->Option Qw:=λx=>Ss ((x.1.length+3)) x
theorem Auq:FM 78 Mk Mz (Mw):=FnLn.fin (ι:=Nat) (sg:=Mk) (so:=Mz) 0 (F:=λk=>Ss k) (λk=>A6o k) λx _ _ hx=>⟨(x.1.length+3),hx⟩
def Ajc:Sig:=⟨1,[],[(0,.ptr 0 0)],[(0,.cells [.sl .tok false,.int .i64,.bool,.int .i64])],1,1,0,[],[]⟩
def Ajh:Sig:=⟨1,[(0,.sv .col)],[],[(0,.cells [.sl .tok false,.int .i64,.bool,.int .i64])],1,1,0,[],[]⟩
abbrev Bla:=List Tok×Int×Bool×Int
abbrev A8b:=Col×List Tok×Int×Bool×Int
def Ast:Sig:=⟨87,[(10,.int .i64)],[(0,.ptr 0 0),(2,.ptr 1 0),(3,.ptr 2 0),(9,.agg [.str [],.str [],.str [66,79,79,76],.str [73,78,84],.str [84,69,88,84],.str [66,89,84,69,83]])],[(0,.cells [.sl .tok false,.int .i64,.bool,.int .i64]),(1,.one (.sv .col)),(2,.one (.sv .col))],3,1,0,[],[]⟩
abbrev Amx:=Int×List Tok×Int×Bool×Int×Col×Col
def A7y{R:Type}(rec:Amx->Option R)(kx:Ex->Amx->Option R)(v:Amx):Option R:=match v with
 |(v,w,w1,w2,w3,w4,w5) =>
 cond (decide (v<6)) (
  chk (inb v 6) (
  let j1:=λ(p1:Bool) =>
   let j:=λ(p2:Bool) =>
   cond (p2) (
    (A8 ((at' .str [[],[],[66,79,79,76],[73,78,84],[84,69,88,84],[66,89,84,69,83]] v),w,w1,w2,w3)).bind λ(x5,x6,x7,x8,x9) =>
    cond (x5) (
     rec ((wr .i64 (v+1)),x6,x7,x8,x9,w4,(Col.mk w5.name v w5.notNull w5.unique w5.ref))) (
     rec ((wr .i64 (v+1)),x6,x7,x8,x9,w4,w5))) (
    rec ((wr .i64 (v+1)),w,w1,w2,w3,w4,w5))
   cond (p1) (
   j (decide (w5.kind=0))) (
   j false)
  cond (decide (2<=v)) (
   j1 (!w2)) (
   j1 false))) (
  kx (.exit 0) (v,w,w1,w2,w3,w4,w5))
def Bb7(R:Type)(k:Nat):Px R:=pxO [(75,Ak Ew Ej Bt),(72,Ak Di Dh A8),(82,Ak Gj F9 Dw),(74,Ak Dq Dm A9)] [] [(3,Al k Ast (A7y))] []
def Af7(k:Nat)(x:Bla):Option (A8b):=match x with
 |(l,n,b,p) =>
 (Bt (l,n,b,p)).bind λ(x,x1,x2,x3,x4) =>
  Aj (λrec=>A7y rec (λe vz=>match vz with|(_,v2,v3,v4,v5,_,v7)=>match e with
  |.exit 0 =>
   let j6:=λ(h:List Tok) (i:Int) (d:Bool) (j:Int) =>
   let j2:=λ(m:List Tok) (o:Int) (q:Bool) (r:Int) (a:Col) =>
    let j5:=λ(s:List Tok) (t:Int) (f:Bool) (u:Int) =>
    let j4:=λ(v:List Tok) (w:Int) (g:Bool) (y:Int) (c:Col) =>
     let j3:=λ(p8:Bool) (z:List Tok) (a0:Int) (a1:Bool) (a2:Int) =>
     cond (p8) (
      (Bt (z,a0,a1,a2)).bind λ(a3,a4,a5,a6,a7) =>
      some ((Col.mk c.name c.kind c.notNull c.unique a3),a4,a5,a6,a7)) (
      some (c,z,a0,a1,a2))
     cond (!g) (
     (A8 ([82,69,70,69,82,69,78,67,69,83],v,w,g,y)).bind λ(a8,a9,aa,ab,ac) =>j3 a8 a9 aa ab ac) (
     j3 false v w g y)
    cond (!f) (
     (A8 ([85,78,73,81,85,69],s,t,f,u)).bind λ(ad,ae,af,ag,ah) =>
     j4 ae af ag ah (Col.mk a.name a.kind a.notNull ad a.ref)) (
     j4 s t f u (Col.mk a.name a.kind a.notNull false a.ref))
    cond (a.notNull) (
    (A9 ([[78,85,76,76]],m,o,q,r)).bind λ(ai,aj,ak,al) =>j5 ai aj ak al) (
    j5 m o q r)
   cond (!d) (
    (A8 ([78,79,84],h,i,d,j)).bind λ(am,an,ao,ap,aq) =>
    j2 an ao ap aq (Col.mk v7.name v7.kind am v7.unique v7.ref)) (
    j2 h i d j (Col.mk v7.name v7.kind false v7.unique v7.ref))
   cond (decide (v7.kind=0)) (
   (Dw (v2,v3,v4,v5)).bind λ(ar,au,av,aw) =>j6 ar au av aw) (
   j6 v2 v3 v4 v5)
  |_=>none)) k (0,x1,x2,x3,x4,(Col.mk [] 0 false false []),(Col.mk x 0 false false []))
theorem Bo9(k:Nat):FM 179 Ajc Ajh (Af7 k):=fRL (px:=Bb7 _ k) (n:=1) Tryz.func179 rfl (λcx H=>by have h0:Lv cx (Bb7 (A8b) k):=lv H (l1 H G4 (l1 H Dy (l1 H I6 (l1 H Ev Ae)))) Aa Ab;have hlpcol_0:=lO H h0 (b:=lp Tryz.f179 0) (k:=k) (n:=0) (s:=Ast) (step:=A7y) (λ_ _ _ (_,_,_,_,_,_,_)=>by kernel_rfl) Ai;exact⟨h0,(A2 Ai hlpcol_0)⟩) λ(_,_,_,_)=>by kernel_rfl
def Axb:Bla->Option A8b:=λx=>Af7 (10) x
theorem Bwn:FM 179 Ajc Ajh (Axb):=FnLn.fin (ι:=Nat) (sg:=Ajc) (so:=Ajh) 0 (F:=λk=>Af7 k) (λk=>Bo9 k) λ_ _ _ hx=>⟨10,hx⟩
def Td:Sig:=⟨2,[],[(0,.ptr 0 0),(1,.ptr 1 0)],[(0,.cells [.sl .tok false,.int .i64,.bool,.int .i64]),(1,.cells [.int .i64,.str,.str,.sl .col true,.sl .str false,.sl .expr true,.sl .exprs true,.sl .set true,.bool,.int .i64,.int .i64,.int .i64,.str,.str,.sl .expr false,.sl .str true,.sl .bool true,.int .i64])],2,2,0,[],[]⟩
def U0:Sig:=⟨0,[],[],[(0,.cells [.sl .tok false,.int .i64,.bool,.int .i64]),(1,.cells [.int .i64,.str,.str,.sl .col true,.sl .str false,.sl .expr true,.sl .exprs true,.sl .set true,.bool,.int .i64,.int .i64,.int .i64,.str,.str,.sl .expr false,.sl .str true,.sl .bool true,.int .i64])],2,2,0,[],[]⟩
abbrev Azx:=List Tok×Int×Bool×Int×Int×Str×Str×List Col×List Str×List Xpr×List (List Xpr)×List SetE×Bool×Int×Int×Int×Str×Str×List Xpr×List Str×List Bool×Int
abbrev Aoi:=List Tok×Int×Bool×Int×Int×Str×Str×List Col×List Str×List Xpr×List (List Xpr)×List SetE×Bool×Int×Int×Int×Str×Str×List Xpr×List Str×List Bool×Int
def Aij:Sig:=⟨95,[],[(0,.ptr 0 0),(1,.ptr 1 0)],[(0,.cells [.sl .tok false,.int .i64,.bool,.int .i64]),(1,.cells [.int .i64,.str,.str,.sl .col true,.sl .str true,.sl .expr true,.sl .exprs true,.sl .set true,.bool,.int .i64,.int .i64,.int .i64,.str,.str,.sl .expr false,.sl .str true,.sl .bool true,.int .i64])],2,2,0,[],[]⟩
abbrev Yr:=List Tok×Int×Bool×Int×Int×Str×Str×List Col×List Str×List Xpr×List (List Xpr)×List SetE×Bool×Int×Int×Int×Str×Str×List Xpr×List Str×List Bool×Int
def Alq{R:Type}(rec:Yr->Option R)(kx:Ex->Yr->Option R)(v:Yr):Option R:=match v with
 |(t,u,b,w,c,d,e,f,g,a,h,i,j,k,l,m,n,o,p,q,r,s) =>
 cond (!b) (
  (A8 ([44],t,u,b,w)).bind λ(a1,x,y,z,a0) =>
  cond (a1) (
   (A9 ([[67,72,69,67,75],[40]],x,y,z,a0)).bind λ(a2,a3,a4,a5) =>
   (Sb (a2,a3,a4,a5)).bind λ(a6,a7,a8,a9,aa) =>
    chk (decide (a.length+1<=Ag)&&decide ((a.length:Int)=(a.length:Int))) (
    (A9 ([[41]],a7,a8,a9,aa)).bind λ(ab,ac,ad,ae) =>rec (ab,ac,ad,ae,c,d,e,f,g,(a++[a6]),h,i,j,k,l,m,n,o,p,q,r,s))) (
   kx (.exit 2) (x,y,z,a0,c,d,e,f,g,a,h,i,j,k,l,m,n,o,p,q,r,s))) (
  kx (.exit 2) (t,u,b,w,c,d,e,f,g,a,h,i,j,k,l,m,n,o,p,q,r,s))
def Agd:Sig:=⟨95,[],[(0,.ptr 0 0),(1,.ptr 1 0)],[(0,.cells [.sl .tok false,.int .i64,.bool,.int .i64]),(1,.cells [.int .i64,.str,.str,.sl .col true,.sl .str false,.sl .expr true,.sl .exprs true,.sl .set true,.bool,.int .i64,.int .i64,.int .i64,.str,.str,.sl .expr false,.sl .str true,.sl .bool true,.int .i64])],2,2,0,[],[]⟩
abbrev Yn:=List Tok×Int×Bool×Int×Int×Str×Str×List Col×List Str×List Xpr×List (List Xpr)×List SetE×Bool×Int×Int×Int×Str×Str×List Xpr×List Str×List Bool×Int
def Al1{R:Type}(rec:Yn->Option R)(kx:Ex->Yn->Option R)(v:Yn):Option R:=match v with
 |(w,w1,w2,w3,w4,w5,w6,w7,w8,w9,a,b,c,d,e,f,g,h,i,j,k,l) =>
 cond (!w2) (
  (A8 ([80,82,73,77,65,82,89],w,w1,w2,w3)).bind λ(q,m,n,o,p) =>
  cond (!q) (
   (Axb (m,n,o,p)).bind λ(r,s,t,u,x) =>
   chk (decide (w7.length+1<=Ag)) (
    (A9 ([[44]],s,t,u,x)).bind λ(y,z,a0,a1) =>
    rec (y,z,a0,a1,w4,w5,w6,(w7++[r]),w8,w9,a,b,c,d,e,f,g,h,i,j,k,l))) (
   kx (.exit 0) (m,n,o,p,w4,w5,w6,w7,w8,w9,a,b,c,d,e,f,g,h,i,j,k,l))) (
  kx (.exit 0) (w,w1,w2,w3,w4,w5,w6,w7,w8,w9,a,b,c,d,e,f,g,h,i,j,k,l))
def Aqv(R:Type)(k:Nat):Px R:=pxO [(75,Ak Ew Ej Bt),(74,Ak Dq Dm A9),(72,Ak Di Dh A8),(114,Ak Nk Ns Ra)] [] [(4,Al k Agd (Al1)),(9,Al k Aij (Alq))] [(179,Cy Ajc Ajh Axb),(116,Cy Cv Cu Sb)]
def Qo(k:Nat)(x:Azx):Option (Aoi):=match x with
 |(l,n,b,p,_,_,so,sc,ss,sl,sr,st,sh,wk,vk,vn,vs,wn,wl,sd,se,sm) =>
 (Bt (l,n,b,p)).bind λ(x,x1,x2,x3,x4) =>
  (A9 ([[40]],x1,x2,x3,x4)).bind λ(x5,x6,x7,x8) =>
  (Axb (x5,x6,x7,x8)).bind λ(x9,a,c,d,f) =>
   chk (decide (sc.length+1<=Ag)) (
   (A9 ([[44]],a,c,d,f)).bind λ(g,h,i,j) =>
    Aj (λrec=>Al1 rec (λe vz=>match vz with|(v,v1,v2,v3,v4,v5,v6,v7,_,v9,m,o,q,r,s,t,u,w,y,z,a0,a1)=>match e with
    |.exit 0 =>
     (A9 ([[75,69,89]],v,v1,v2,v3)).bind λ(a2,a3,a4,a5) =>
     (Ra (a2,a3,a4,a5)).bind λ(a6,a7,a8,a9,aa) =>
      Aj (λrec=>Alq rec (λe vz=>match vz with|(ab,ac,ad,ae,af,ag,ah,ai,aj,ak,al,am,an,ao,ap,aq,ar,au,av,aw,ax,ay)=>match e with
      |.exit 2 =>
       (A9 ([[41]],ab,ac,ad,ae)).bind λ(az,b0,b1,b2) =>
       some (az,b0,b1,b2,af,ag,ah,ai,aj,ak,al,am,an,ao,ap,aq,ar,au,av,aw,ax,ay)
      |_=>none)) k (a7,a8,a9,aa,v4,v5,v6,v7,a6,v9,m,o,q,r,s,t,u,w,y,z,a0,a1)
    |_=>none)) k (g,h,i,j,1,x,so,(sc++[x9]),ss,sl,sr,st,sh,wk,vk,vn,vs,wn,wl,sd,se,sm))
theorem A70(k:Nat):FM 113 Td U0 (Qo k):=fRL (px:=Aqv _ k) (n:=2) Tryz.func113 rfl (λcx H=>by have h0:Lv cx (Aqv (Aoi) k):=lv H (l1 H G4 (l1 H Ev (l1 H Dy (l1 H Aqk Ae)))) Aa (w1 H Bwn (w1 H Avq Ab));have hlptable_0:=lO H h0 (b:=lp Tryz.f113 0) (k:=k) (n:=0) (s:=Agd) (step:=Al1) (λ_ _ _ (_,_,_,_,_,_,_,_,_,_,_,_,_,_,_,_,_,_,_,_,_,_)=>by kernel_rfl) Ai;have hlptable_1:=lO H h0 (b:=lp Tryz.f113 1) (k:=k) (n:=0) (s:=Aij) (step:=Alq) (λ_ _ _ (_,_,_,_,_,_,_,_,_,_,_,_,_,_,_,_,_,_,_,_,_,_)=>by kernel_rfl) Ai;exact⟨h0,(A2 (A2 Ai hlptable_0) hlptable_1)⟩) λ(_,_,_,_,_,_,_,_,_,_,_,_,_,_,_,_,_,_,_,_,_,_)=>by kernel_rfl
def Aog:Azx->Option Aoi:=λx=>Qo ((x.1.length+3)) x
theorem Bgr:FM 113 Td U0 (Aog):=FnLn.fin (ι:=Nat) (sg:=Td) (so:=U0) 0 (F:=λk=>Qo k) (λk=>A70 k) λx _ _ hx=>⟨(x.1.length+3),hx⟩
def Y8:Sig:=⟨2,[],[(0,.ptr 0 0),(1,.ptr 1 0)],[(0,.cells [.sl .tok false,.int .i64,.bool,.int .i64]),(1,.cells [.int .i64,.str,.str,.sl .col true,.sl .str false,.sl .expr true,.sl .exprs true,.sl .set true,.bool,.int .i64,.int .i64,.int .i64,.str,.str,.sl .expr false,.sl .str true,.sl .bool true,.int .i64])],2,2,0,[],[]⟩
def W8:Sig:=⟨0,[],[],[(0,.cells [.sl .tok false,.int .i64,.bool,.int .i64]),(1,.cells [.int .i64,.str,.str,.sl .col true,.sl .str false,.sl .expr true,.sl .exprs true,.sl .set true,.bool,.int .i64,.int .i64,.int .i64,.str,.str,.sl .expr false,.sl .str true,.sl .bool true,.int .i64])],2,2,0,[],[]⟩
abbrev Ato:=List Tok×Int×Bool×Int×Int×Str×Str×List Col×List Str×List Xpr×List (List Xpr)×List SetE×Bool×Int×Int×Int×Str×Str×List Xpr×List Str×List Bool×Int
abbrev Auj:=List Tok×Int×Bool×Int×Int×Str×Str×List Col×List Str×List Xpr×List (List Xpr)×List SetE×Bool×Int×Int×Int×Str×Str×List Xpr×List Str×List Bool×Int
def A7l(R:Type):Px R:=pxO [(72,Ak Di Dh A8),(113,Ak Td U0 Aog),(74,Ak Dq Dm A9),(75,Ak Ew Ej Bt),(114,Ak Nk Ns Ra)] [] [] []
def Aak(x:Ato):Option (Auj):=match x with
 |(l,n,b,p,sk,sn,so,sc,ss,sl,sr,st,sh,wk,vk,vn,vs,wn,wl,sd,se,sm) =>
 (A8 ([84,65,66,76,69],l,n,b,p)).bind λ(x,x1,x2,x3,x4) =>
  cond (x) (
  (Aog (x1,x2,x3,x4,sk,sn,so,sc,ss,sl,sr,st,sh,wk,vk,vn,vs,wn,wl,sd,se,sm)).bind λ(x5,x6,x7,x8,x9,a,c,d,e,f,g,h,i,j,k,m,o,q,r,s,t,u) =>some (x5,x6,x7,x8,x9,a,c,d,e,f,g,h,i,j,k,m,o,q,r,s,t,u)) (
  (A9 ([[73,78,68,69,88]],x1,x2,x3,x4)).bind λ(v,w,y,z) =>
   (Bt (v,w,y,z)).bind λ(a0,a1,a2,a3,a4) =>
   (A9 ([[79,78]],a1,a2,a3,a4)).bind λ(a5,a6,a7,a8) =>
    (Bt (a5,a6,a7,a8)).bind λ(a9,aa,ab,ac,ad) =>
    (Ra (aa,ab,ac,ad)).bind λ(ae,af,ag,ah,ai) =>some (af,ag,ah,ai,3,a0,a9,sc,ae,sl,sr,st,sh,wk,vk,vn,vs,wn,wl,sd,se,sm))
theorem Ayk:FM 73 Y8 W8 (Aak):=fRL (px:=A7l _) (n:=0) Tryz.func73 rfl (λ_ H=>⟨lv H (l1 H Dy (l1 H Bgr (l1 H Ev (l1 H G4 (l1 H Aqk Ae))))) Aa Ab,Ai⟩) λ(_,_,_,_,_,_,_,_,_,_,_,_,_,_,_,_,_,_,_,_,_,_)=>by kernel_rfl
def Aei:Ato->Option Auj:=λx=>Aak x
theorem A8a:FM 73 Y8 W8 (Aei):=Ayk
def Ml:Sig:=⟨2,[],[(0,.ptr 0 0),(1,.ptr 1 0)],[(0,.cells [.sl .tok false,.int .i64,.bool,.int .i64]),(1,.cells [.int .i64,.str,.str,.sl .col true,.sl .str false,.sl .expr true,.sl .exprs true,.sl .set true,.bool,.int .i64,.int .i64,.int .i64,.str,.str,.sl .expr false,.sl .str true,.sl .bool true,.int .i64])],2,2,0,[],[]⟩
def Nq:Sig:=⟨0,[],[],[(0,.cells [.sl .tok false,.int .i64,.bool,.int .i64]),(1,.cells [.int .i64,.str,.str,.sl .col true,.sl .str false,.sl .expr true,.sl .exprs true,.sl .set true,.bool,.int .i64,.int .i64,.int .i64,.str,.str,.sl .expr false,.sl .str true,.sl .bool true,.int .i64])],2,2,0,[],[]⟩
abbrev A3o:=List Tok×Int×Bool×Int×Int×Str×Str×List Col×List Str×List Xpr×List (List Xpr)×List SetE×Bool×Int×Int×Int×Str×Str×List Xpr×List Str×List Bool×Int
abbrev A30:=List Tok×Int×Bool×Int×Int×Str×Str×List Col×List Str×List Xpr×List (List Xpr)×List SetE×Bool×Int×Int×Int×Str×Str×List Xpr×List Str×List Bool×Int
def Bhv(R:Type):Px R:=pxO [(72,Ak Di Dh A8),(116,Ak Cv Cu Sb)] [] [] []
def Ahk(x:A3o):Option (A30):=match x with
 |(l,n,b,p,sk,sn,so,sc,ss,sl,sr,st,sh,wk,vk,vn,vs,wn,wl,sd,se,sm) =>
 let j:=λ(p2:Bool) (q4:List Tok) (q5:Int) (q6:Bool) (q7:Int) =>
  cond (p2) (
  (Sb (q4,q5,q6,q7)).bind λ(x5,x6,x7,x8,x9) =>some (x6,x7,x8,x9,sk,sn,so,sc,ss,sl,sr,st,true,x5.kind,x5.v.kind,x5.v.n,x5.v.s,x5.name,x5.l,sd,se,sm)) (
  some (q4,q5,q6,q7,sk,sn,so,sc,ss,sl,sr,st,sh,wk,vk,vn,vs,wn,wl,sd,se,sm))
 cond (!b) (
  (A8 ([87,72,69,82,69],l,n,b,p)).bind λ(x,x1,x2,x3,x4) =>
  j x x1 x2 x3 x4) (
  j false l n b p)
theorem A71:FM 80 Ml Nq (Ahk):=fRL (px:=Bhv _) (n:=0) Tryz.func80 rfl (λ_ H=>⟨lv H (l1 H Dy (l1 H Avq Ae)) Aa Ab,Ai⟩) λ(_,_,_,_,_,_,_,_,_,_,_,_,_,_,_,_,_,_,_,_,_,_)=>by kernel_rfl
def Jn:A3o->Option A30:=λx=>Ahk x
theorem Aer:FM 80 Ml Nq (Jn):=A71
def Ol:Sig:=⟨2,[],[(0,.ptr 0 0),(1,.ptr 1 0)],[(0,.cells [.sl .tok false,.int .i64,.bool,.int .i64]),(1,.cells [.int .i64,.str,.str,.sl .col true,.sl .str false,.sl .expr true,.sl .exprs true,.sl .set true,.bool,.int .i64,.int .i64,.int .i64,.str,.str,.sl .expr false,.sl .str true,.sl .bool true,.int .i64])],2,2,0,[],[]⟩
def P1:Sig:=⟨0,[],[],[(0,.cells [.sl .tok false,.int .i64,.bool,.int .i64]),(1,.cells [.int .i64,.str,.str,.sl .col true,.sl .str false,.sl .expr true,.sl .exprs true,.sl .set true,.bool,.int .i64,.int .i64,.int .i64,.str,.str,.sl .expr false,.sl .str true,.sl .bool true,.int .i64])],2,2,0,[],[]⟩
abbrev Ash:=List Tok×Int×Bool×Int×Int×Str×Str×List Col×List Str×List Xpr×List (List Xpr)×List SetE×Bool×Int×Int×Int×Str×Str×List Xpr×List Str×List Bool×Int
abbrev Me:=List Tok×Int×Bool×Int×Int×Str×Str×List Col×List Str×List Xpr×List (List Xpr)×List SetE×Bool×Int×Int×Int×Str×Str×List Xpr×List Str×List Bool×Int
def Aci:Sig:=⟨19,[],[(0,.ptr 0 0),(1,.fn 117 [.ptr 2 0,.ptr 3 0])],[(0,.cells [.sl .tok false,.int .i64,.bool,.int .i64]),(1,.cells [.int .i64,.str,.str,.sl .col true,.sl .str false,.sl .expr true,.sl .exprs true,.sl .set true,.bool,.int .i64,.int .i64,.int .i64,.str,.str,.sl .expr false,.sl .str true,.sl .bool true,.int .i64]),(2,.fx [.ptr 0 0]),(3,.fx [.ptr 1 0])],80,80,400,[],[]⟩
abbrev Q4:=List Tok×Int×Bool×Int×Int×Str×Str×List Col×List Str×List Xpr×List (List Xpr)×List SetE×Bool×Int×Int×Int×Str×Str×List Xpr×List Str×List Bool×Int
def Aed{R:Type}(rec:Q4->Option R)(kx:Ex->Q4->Option R)(v:Q4):Option R:=match v with
 |(w,w1,w2,w3,w4,w5,w6,w7,w8,w9,b,a,c,d,e,f,g,h,i,j,k,l) =>
 cond (!w2) (
  (A8 ([44],w,w1,w2,w3)).bind λ(q,m,n,o,p) =>
  cond (q) (
   (Bt (m,n,o,p)).bind λ(r,s,t,u,x) =>
   (A9 ([[61]],s,t,u,x)).bind λ(y,z,a0,a1) =>
    (Sb (y,z,a0,a1)).bind λ(a2,a3,a4,a5,a6) =>
    chk (decide (a.length+1<=Ag)) (
     rec (a3,a4,a5,a6,w4,w5,w6,w7,w8,w9,b,(a++[(SetE.mk r (Qf a2))]),c,d,e,f,g,h,i,j,k,l))) (
   kx (.exit 0) (m,n,o,p,w4,w5,w6,w7,w8,w9,b,a,c,d,e,f,g,h,i,j,k,l))) (
  kx (.exit 0) (w,w1,w2,w3,w4,w5,w6,w7,w8,w9,b,a,c,d,e,f,g,h,i,j,k,l))
def Qk(R:Type)(_k:Nat):Px R:=pxO [(75,Ak Ew Ej Bt),(74,Ak Dq Dm A9),(116,Ak Cv Cu Sb)] [] [] []
noncomputable def Ab8(R:Type)(k:Nat):Px R:=pxO [(72,Ak Di Dh A8),(117,Aw 120 600 (Qk R k) Tryz.f117)] [] [(1,Al k Aci (Aed))] []
noncomputable def Aj7(R:Type)(k:Nat):Px R:=pxO [(74,Ak Dq Dm A9),(80,Ak Ml Nq Jn),(76,Aw 80 400 (Ab8 R k) Tryz.f76)] [] [] [(75,Cy Ew Ej Bt)]
def Pz(k:Nat)(x:Ash):Option (Me):=match x with
 |(l,n,b,p,_,_,so,sc,ss,sl,sr,st,sh,wk,vk,vn,vs,wn,wl,sd,se,sm) =>
 (Bt (l,n,b,p)).bind λ(x,x1,x2,x3,x4) =>
  (A9 ([[83,69,84]],x1,x2,x3,x4)).bind λ(x5,x6,x7,x8) =>
  (Bt (x5,x6,x7,x8)).bind λ(x9,a,c,d,f) =>
   (A9 ([[61]],a,c,d,f)).bind λ(g,h,i,j) =>
   (Sb (g,h,i,j)).bind λ(m,o,q,r,s) =>
    chk (decide (st.length+1<=Ag)) (
    Aj (λrec=>Aed rec (λe vz=>match vz with|(v,v1,v2,v3,v4,v5,v6,v7,v8,v9,t,u,w,y,z,a0,a1,a2,a3,a4,a5,a6)=>match e with
     |.exit 0 =>
     (Jn (v,v1,v2,v3,v4,v5,v6,v7,v8,v9,t,u,w,y,z,a0,a1,a2,a3,a4,a5,a6)).bind λ(a7,a8,a9,aa,ab,ac,ad,ae,af,ag,ah,ai,aj,ak,al,am,an,ao,ap,aq,ar,au) =>some (a7,a8,a9,aa,ab,ac,ad,ae,af,ag,ah,ai,aj,ak,al,am,an,ao,ap,aq,ar,au)
     |_=>none)) k (o,q,r,s,6,x,so,sc,ss,sl,sr,(st++[(SetE.mk x9 (Qf m))]),sh,wk,vk,vn,vs,wn,wl,sd,se,sm))
theorem A0w(k:Nat):FM 79 Ol P1 (Pz k):=fRL (px:=Aj7 _ k) (n:=0) Tryz.func79 rfl (λcx H=>by have h2:Lv cx (Qk (Me) k):=lv H (l1 H G4 (l1 H Ev (l1 H Avq Ae))) Aa Ab;have h1:Lv cx (Ab8 (Me) k):=lv H (l1 H Dy (Am (cR H h2 Tryz.func117 rfl (n:=0) (Ai)) Ae)) Aa Ab;have hlpupdate_0:=lO H h1 (b:=lp Tryz.f76 0) (k:=k) (n:=0) (s:=Aci) (step:=Aed) (λ_ _ _ (_,_,_,_,_,_,_,_,_,_,_,_,_,_,_,_,_,_,_,_,_,_)=>by kernel_rfl) Ai;have h0:Lv cx (Aj7 (Me) k):=lv H (l1 H Ev (l1 H Aer (Am (cR H h1 Tryz.func76 rfl (n:=1) ((A2 Ai hlpupdate_0))) Ae))) Aa (w1 H G4 Ab);exact⟨h0,Ai⟩) λ(_,_,_,_,_,_,_,_,_,_,_,_,_,_,_,_,_,_,_,_,_,_)=>by kernel_rfl
def Afr:Ash->Option Me:=λx=>Pz ((x.1.length+3)) x
theorem A7b:FM 79 Ol P1 (Afr):=FnLn.fin (ι:=Nat) (sg:=Ol) (so:=P1) 0 (F:=λk=>Pz k) (λk=>A0w k) λx _ _ hx=>⟨(x.1.length+3),hx⟩
def Lj:Sig:=⟨2,[],[(0,.ptr 0 0),(1,.ptr 1 0)],[(0,.cells [.sl .tok false,.int .i64,.bool,.int .i64]),(1,.cells [.int .i64,.str,.str,.sl .col true,.sl .str false,.sl .expr true,.sl .exprs true,.sl .set true,.bool,.int .i64,.int .i64,.int .i64,.str,.str,.sl .expr false,.sl .str true,.sl .bool true,.int .i64])],2,2,0,[],[]⟩
def Ky:Sig:=⟨0,[],[],[(0,.cells [.sl .tok false,.int .i64,.bool,.int .i64]),(1,.cells [.int .i64,.str,.str,.sl .col true,.sl .str false,.sl .expr true,.sl .exprs true,.sl .set true,.bool,.int .i64,.int .i64,.int .i64,.str,.str,.sl .expr false,.sl .str true,.sl .bool true,.int .i64])],2,2,0,[],[]⟩
abbrev Apb:=List Tok×Int×Bool×Int×Int×Str×Str×List Col×List Str×List Xpr×List (List Xpr)×List SetE×Bool×Int×Int×Int×Str×Str×List Xpr×List Str×List Bool×Int
abbrev Jt:=List Tok×Int×Bool×Int×Int×Str×Str×List Col×List Str×List Xpr×List (List Xpr)×List SetE×Bool×Int×Int×Int×Str×Str×List Xpr×List Str×List Bool×Int
def Wh:Sig:=⟨19,[],[(0,.ptr 0 0),(1,.fn 118 [.ptr 3 0,.ptr 2 0])],[(0,.cells [.sl .tok false,.int .i64,.bool,.int .i64]),(1,.cells [.int .i64,.str,.str,.sl .col true,.sl .str false,.sl .expr true,.sl .exprs true,.sl .set true,.bool,.int .i64,.int .i64,.int .i64,.str,.str,.sl .expr false,.sl .str true,.sl .bool true,.int .i64]),(2,.fx [.ptr 0 0]),(3,.fx [.ptr 1 0])],80,80,400,[],[]⟩
abbrev Ow:=List Tok×Int×Bool×Int×Int×Str×Str×List Col×List Str×List Xpr×List (List Xpr)×List SetE×Bool×Int×Int×Int×Str×Str×List Xpr×List Str×List Bool×Int
def X5{R:Type}(rec:Ow->Option R)(kx:Ex->Ow->Option R)(v:Ow):Option R:=match v with
 |(w,w1,w2,w3,w4,w5,w6,w7,w8,w9,c,d,e,f,g,h,i,j,k,b,a,l) =>
 cond (!w2) (
  (A8 ([44],w,w1,w2,w3)).bind λ(a2,y,z,a0,a1) =>
  cond (a2) (
   (Bt (y,z,a0,a1)).bind λ(m,q,r,n,s) =>
   chk (decide (b.length+1<=Ag)) (
    cond (!n) (
    (A8 ([68,69,83,67],q,r,n,s)).bind λ(o,t,u,p,x) =>
     cond (!p) (
     cond (!o) (
      (A8 ([65,83,67],t,u,p,x)).bind λ(_,a3,a4,a5,a6) =>
      chk (decide (a.length+1<=Ag)) (
       rec (a3,a4,a5,a6,w4,w5,w6,w7,w8,w9,c,d,e,f,g,h,i,j,k,(b++[m]),(a++[o]),l))) (
      chk (decide (a.length+1<=Ag)) (
      rec (t,u,p,x,w4,w5,w6,w7,w8,w9,c,d,e,f,g,h,i,j,k,(b++[m]),(a++[o]),l)))) (
     chk (decide (a.length+1<=Ag)) (
      rec (t,u,p,x,w4,w5,w6,w7,w8,w9,c,d,e,f,g,h,i,j,k,(b++[m]),(a++[o]),l)))) (
    cond (!n) (
     (A8 ([65,83,67],q,r,n,s)).bind λ(_,a7,a8,a9,aa) =>
     chk (decide (a.length+1<=Ag)) (
      rec (a7,a8,a9,aa,w4,w5,w6,w7,w8,w9,c,d,e,f,g,h,i,j,k,(b++[m]),(a++[false]),l))) (
     chk (decide (a.length+1<=Ag)) (
     rec (q,r,n,s,w4,w5,w6,w7,w8,w9,c,d,e,f,g,h,i,j,k,(b++[m]),(a++[false]),l)))))) (
   kx (.exit 0) (y,z,a0,a1,w4,w5,w6,w7,w8,w9,c,d,e,f,g,h,i,j,k,b,a,l))) (
  kx (.exit 0) (w,w1,w2,w3,w4,w5,w6,w7,w8,w9,c,d,e,f,g,h,i,j,k,b,a,l))
def P3(R:Type)(_k:Nat):Px R:=pxO [(72,Ak Di Dh A8)] [] [] [(75,Cy Ew Ej Bt)]
noncomputable def We(R:Type)(k:Nat):Px R:=pxO [(72,Ak Di Dh A8),(118,Aw 120 600 (P3 R k) Tryz.f118)] [] [(1,Al k Wh (X5))] []
noncomputable def Ahx(R:Type)(k:Nat):Px R:=pxO [(72,Ak Di Dh A8),(74,Ak Dq Dm A9),(80,Ak Ml Nq Jn),(111,Ak H3 H6 E4),(82,Ak Gj F9 Dw),(76,Aw 80 400 (We R k) Tryz.f76)] [] [] [(78,Cy Mk Mz Mw),(75,Cy Ew Ej Bt),(112,Cy J1 Ju Df)]
def Lu(k:Nat)(x:Apb):Option (Jt):=match x with
 |(l,n,b,p,_,_,so,sc,ss,sl,sr,st,sh,wk,vk,vn,vs,wn,wl,sd,se,_) =>
 let j3:=λ(q:List Tok) (q1:Int) (q2:Bool) (q3:Int) (q4:List Xpr) =>
  (A9 ([[70,82,79,77]],q,q1,q2,q3)).bind λ(bd,be,bf,bg) =>
  (Bt (bd,be,bf,bg)).bind λ(bh,bi,bj,bk,bl) =>
   (Jn (bi,bj,bk,bl,8,bh,so,sc,ss,q4,sr,st,sh,wk,vk,vn,vs,wn,wl,sd,se,(-1))).bind λ(au,av,a4,aw,a5,a6,a7,a8,a9,aa,ab,ac,ad,ae,af,ag,ah,ai,aj,d,a,ak) =>
   let j2:=λ(ax:List Tok) (ay:Int) (al:Bool) (az:Int) (f:Int) (g:Str) (h:Str) (i:List Col) (j:List Str) (m:List Xpr) (o:List (List Xpr)) (r:List SetE) (s:Bool) (t:Int) (u:Int) (v:Int) (w:Str) (y:Str) (z:List Xpr) (a0:List Str) (a1:List Bool) (b0:Int) =>
    cond (!al) (
    (A8 ([76,73,77,73,84],ax,ay,al,az)).bind λ(bm,b1,b2,b3,b4) =>
     cond (bm) (
     (E4 (b1,b2,b3,b4)).bind λ(bn,b5,b6,b7,b8) =>
      cond (!decide (bn.kind=3)) (
      (Dw (b5,b6,b7,b8)).bind λ(bo,bp,bq,br) =>
       (Df (bo,bp,bq,br)).bind λ(bs,bt,bu,bv,bw) =>
       some (bt,bu,bv,bw,f,g,h,i,j,m,o,r,s,t,u,v,w,y,z,a0,a1,bs.n)) (
      (Df (b5,b6,b7,b8)).bind λ(bx,bz,c0,c1,c2) =>some (bz,c0,c1,c2,f,g,h,i,j,m,o,r,s,t,u,v,w,y,z,a0,a1,bx.n))) (
     some (b1,b2,b3,b4,f,g,h,i,j,m,o,r,s,t,u,v,w,y,z,a0,a1,b0))) (
    some (ax,ay,al,az,f,g,h,i,j,m,o,r,s,t,u,v,w,y,z,a0,a1,b0))
   cond (!a4) (
    (A8 ([79,82,68,69,82],au,av,a4,aw)).bind λ(c3,b9,ba,bb,bc) =>
    cond (c3) (
     (A9 ([[66,89]],b9,ba,bb,bc)).bind λ(c4,c5,c6,c7) =>
     (Bt (c4,c5,c6,c7)).bind λ(c8,am,an,c,ao) =>
      let j1:=λ(c9:List Tok) (ca:Int) (cb:Bool) (cc:Int) (cd:List Bool) =>
      Aj (λrec=>X5 rec (λe vz=>match vz with|(ce,cf,cg,ch,ci,cj,ck,cl,cm,cn,co,cp,cq,cr,cs,ct,cu,cv,cw,cx,cy,cz)=>match e with
       |.exit 0 =>
       j2 ce cf cg ch ci cj ck cl cm cn co cp cq cr cs ct cu cv cw cx cy cz
       |_=>none)) k (c9,ca,cb,cc,a5,a6,a7,a8,a9,aa,ab,ac,ad,ae,af,ag,ah,ai,aj,(d++[c8]),cd,ak)
      chk (decide (d.length+1<=Ag)) (
      cond (!c) (
       (A8 ([68,69,83,67],am,an,c,ao)).bind λ(a2,ap,aq,a3,ar) =>
       cond (!a3) (
        cond (!a2) (
        (A8 ([65,83,67],ap,aq,a3,ar)).bind λ(_,d0,d1,d2,d3) =>
         chk (decide (a.length+1<=Ag)) (
         j1 d0 d1 d2 d3 (a++[a2]))) (
        chk (decide (a.length+1<=Ag)) (
         j1 ap aq a3 ar (a++[a2])))) (
        chk (decide (a.length+1<=Ag)) (
        j1 ap aq a3 ar (a++[a2])))) (
       cond (!c) (
       (A8 ([65,83,67],am,an,c,ao)).bind λ(_,d4,d5,d6,d7) =>
        chk (decide (a.length+1<=Ag)) (
        j1 d4 d5 d6 d7 (a++[false]))) (
       chk (decide (a.length+1<=Ag)) (
        j1 am an c ao (a++[false])))))) (
     j2 b9 ba bb bc a5 a6 a7 a8 a9 aa ab ac ad ae af ag ah ai aj d a ak)) (
    j2 au av a4 aw a5 a6 a7 a8 a9 aa ab ac ad ae af ag ah ai aj d a ak)
 (A8 ([42],l,n,b,p)).bind λ(x,x1,x2,x3,x4) =>
  cond (!x) (
  (Mw (x1,x2,x3,x4)).bind λ(x5,x6,x7,x8,x9) =>j3 x6 x7 x8 x9 x5) (
  j3 x1 x2 x3 x4 sl)
theorem Awl(k:Nat):FM 81 Lj Ky (Lu k):=fRL (px:=Ahx _ k) (n:=0) Tryz.func81 rfl (λcx H=>by have h2:Lv cx (P3 (Jt) k):=lv H (l1 H Dy Ae) Aa (w1 H G4 Ab);have h1:Lv cx (We (Jt) k):=lv H (l1 H Dy (Am (cR H h2 Tryz.func118 rfl (n:=0) (Ai)) Ae)) Aa Ab;have hlpselects_0:=lO H h1 (b:=lp Tryz.f76 0) (k:=k) (n:=0) (s:=Wh) (step:=X5) (λ_ _ _ (_,_,_,_,_,_,_,_,_,_,_,_,_,_,_,_,_,_,_,_,_,_)=>by kernel_rfl) Ai;have h0:Lv cx (Ahx (Jt) k):=lv H (l1 H Dy (l1 H Ev (l1 H Aer (l1 H Mv (l1 H I6 (Am (cR H h1 Tryz.func76 rfl (n:=1) ((A2 Ai hlpselects_0))) Ae)))))) Aa (w1 H Auq (w1 H G4 (w1 H Sy Ab)));exact⟨h0,Ai⟩) λ(_,_,_,_,_,_,_,_,_,_,_,_,_,_,_,_,_,_,_,_,_,_)=>by kernel_rfl
def W0:Apb->Option Jt:=λx=>Lu ((x.1.length+3)) x
theorem Azv:FM 81 Lj Ky (W0):=FnLn.fin (ι:=Nat) (sg:=Lj) (so:=Ky) 0 (F:=λk=>Lu k) (λk=>Awl k) λx _ _ hx=>⟨(x.1.length+3),hx⟩
def Aa7:Sig:=⟨1,[],[(0,.ptr 0 0)],[(0,.cells [.sl .tok false,.int .i64,.bool,.int .i64])],1,1,0,[],[]⟩
def Abk:Sig:=⟨1,[(0,.sv .stmt)],[],[(0,.cells [.sl .tok false,.int .i64,.bool,.int .i64])],1,1,0,[],[]⟩
abbrev Bbh:=List Tok×Int×Bool×Int
abbrev Aaz:=Stm×List Tok×Int×Bool×Int
def Akv:Sig:=⟨19,[],[(0,.ptr 0 0),(1,.fn 77 [.ptr 1 0,.ptr 3 0])],[(0,.cells [.sl .tok false,.int .i64,.bool,.int .i64]),(1,.fx [.ptr 0 0]),(2,.one (.sv .stmt)),(3,.cells [.int .i64,.str,.str,.sl .col true,.sl .str true,.sl .expr true,.sl .exprs true,.sl .set true,.bool,.int .i64,.int .i64,.int .i64,.str,.str,.sl .expr true,.sl .str true,.sl .bool true,.int .i64])],80,80,400,[],[]⟩
abbrev Afy:=List Tok×Int×Bool×Int×Stm×Int×Str×Str×List Col×List Str×List Xpr×List (List Xpr)×List SetE×Bool×Int×Int×Int×Str×Str×List Xpr×List Str×List Bool×Int
def Awy{R:Type}(rec:Afy->Option R)(kx:Ex->Afy->Option R)(v:Afy):Option R:=match v with
 |(w,w1,w2,w3,w4,w5,w6,w7,w8,w9,b,a,c,d,e,f,g,h,i,j,k,l,m) =>
 cond (!w2) (
  (A8 ([44],w,w1,w2,w3)).bind λ(r,n,o,p,q) =>
  cond (r) (
   (A9 ([[40]],n,o,p,q)).bind λ(s,t,u,x) =>
   (Mw (s,t,u,x)).bind λ(y,z,a0,a1,a2) =>
    chk (decide (a.length+1<=Ag)) (
    (A9 ([[41]],z,a0,a1,a2)).bind λ(a3,a4,a5,a6) =>rec (a3,a4,a5,a6,w4,w5,w6,w7,w8,w9,b,(a++[y]),c,d,e,f,g,h,i,j,k,l,m))) (
   kx (.exit 0) (n,o,p,q,w4,w5,w6,w7,w8,w9,b,a,c,d,e,f,g,h,i,j,k,l,m))) (
  kx (.exit 0) (w,w1,w2,w3,w4,w5,w6,w7,w8,w9,b,a,c,d,e,f,g,h,i,j,k,l,m))
def Aa6(R:Type)(_k:Nat):Px R:=pxO [(74,Ak Dq Dm A9)] [] [] [(78,Cy Mk Mz Mw)]
noncomputable def Ajt(R:Type)(k:Nat):Px R:=pxO [(72,Ak Di Dh A8),(77,Aw 120 600 (Aa6 R k) Tryz.f77)] [] [(1,Al k Akv (Awy))] []
noncomputable def A21(R:Type)(k:Nat):Px R:=pxO [(72,Ak Di Dh A8),(73,Ak Y8 W8 Aei),(74,Ak Dq Dm A9),(75,Ak Ew Ej Bt),(79,Ak Ol P1 Afr),(80,Ak Ml Nq Jn),(81,Ak Lj Ky W0),(82,Ak Gj F9 Dw),(76,Aw 80 400 (Ajt R k) Tryz.f76)] [] [] []
def Xz(k:Nat)(x:Bbh):Option (Aaz):=match x with
 |(l,n,b,p) =>
 (A8 ([67,82,69,65,84,69],l,n,b,p)).bind λ(x,x1,x2,x3,x4) =>
  cond (x) (
  (Aei (x1,x2,x3,x4,0,[],[],[],[],[],[],[],false,0,0,0,[],[],[],[],[],0)).bind λ(x5,x6,x7,x8,x9,i,j,m,o,q,r,s,t,u,w,y,z,a0,a1,a2,a3,a4) =>
   cond (!x7) (
   (A8 ([59],x5,x6,x7,x8)).bind λ(_,db,dc,dd,de) =>some ((Stm.mk x9 i j m o q r s t (Xpr.mk u ⟨w,y,z⟩ a0 a1) a2 a3 a4),db,dc,dd,de)) (
   some ((Stm.mk x9 i j m o q r s t (Xpr.mk u ⟨w,y,z⟩ a0 a1) a2 a3 a4),x5,x6,x7,x8))) (
  (A8 ([68,82,79,80],x1,x2,x3,x4)).bind λ(df,a5,a6,a7,a8) =>
   cond (df) (
   (A8 ([84,65,66,76,69],a5,a6,a7,a8)).bind λ(dg,a9,aa,ab,ac) =>
    cond (!dg) (
    (A9 ([[73,78,68,69,88]],a9,aa,ab,ac)).bind λ(dh,di,dj,dk) =>
     (Bt (dh,di,dj,dk)).bind λ(ad,ae,af,a,ag) =>
     cond (!a) (
      (A8 ([59],ae,af,a,ag)).bind λ(_,dl,dm,dn,dp) =>
      some ((Stm.mk 4 ad [] [] [] [] [] [] false (Xpr.mk 0 ⟨0,0,[]⟩ [] []) [] [] 0),dl,dm,dn,dp)) (
      some ((Stm.mk 4 ad [] [] [] [] [] [] false (Xpr.mk 0 ⟨0,0,[]⟩ [] []) [] [] 0),ae,af,a,ag))) (
    (Bt (a9,aa,ab,ac)).bind λ(ah,ai,aj,c,ak) =>
     cond (!c) (
     (A8 ([59],ai,aj,c,ak)).bind λ(_,dq,dr,ds,dt) =>some ((Stm.mk 2 ah [] [] [] [] [] [] false (Xpr.mk 0 ⟨0,0,[]⟩ [] []) [] [] 0),dq,dr,ds,dt)) (
     some ((Stm.mk 2 ah [] [] [] [] [] [] false (Xpr.mk 0 ⟨0,0,[]⟩ [] []) [] [] 0),ai,aj,c,ak)))) (
   (A8 ([73,78,83,69,82,84],a5,a6,a7,a8)).bind λ(du,al,am,an,ao) =>
    cond (du) (
    (A9 ([[73,78,84,79]],al,am,an,ao)).bind λ(dv,dw,dx,dy) =>
     (Bt (dv,dw,dx,dy)).bind λ(dz,e0,e1,e2,e3) =>
     (A9 ([[86,65,76,85,69,83]],e0,e1,e2,e3)).bind λ(e4,e5,e6,e7) =>
      (A9 ([[40]],e4,e5,e6,e7)).bind λ(e8,e9,ea,eb) =>
      (Mw (e8,e9,ea,eb)).bind λ(ec,ed,ee,ef,eg) =>
       (A9 ([[41]],ed,ee,ef,eg)).bind λ(eh,ei,ej,ek) =>
       Aj (λrec=>Awy rec (λe vz=>match vz with|(v,v1,v2,v3,_,v5,v6,v7,v8,v9,ap,aq,ar,au,av,aw,ax,ay,az,b0,b1,b2,b3)=>match e with
        |.exit 0 =>
        cond (!v2) (
         (A8 ([59],v,v1,v2,v3)).bind λ(_,el,em,en,eo) =>
         some ((Stm.mk v5 v6 v7 v8 v9 ap aq ar au (Xpr.mk av ⟨aw,ax,ay⟩ az b0) b1 b2 b3),el,em,en,eo)) (
         some ((Stm.mk v5 v6 v7 v8 v9 ap aq ar au (Xpr.mk av ⟨aw,ax,ay⟩ az b0) b1 b2 b3),v,v1,v2,v3))
        |_=>none)) k (eh,ei,ej,ek,(Stm.mk 0 [] [] [] [] [] [] [] false (Xpr.mk 0 ⟨0,0,[]⟩ [] []) [] [] 0),5,dz,[],[],[],[],[ec],[],false,0,0,0,[],[],[],[],[],0)) (
    (A8 ([85,80,68,65,84,69],al,am,an,ao)).bind λ(ep,b4,b5,b6,b7) =>
     cond (ep) (
     (Afr (b4,b5,b6,b7,0,[],[],[],[],[],[],[],false,0,0,0,[],[],[],[],[],0)).bind λ(b8,b9,d,ba,bb,bc,bd,be,bf,bg,bh,bi,bj,bk,bl,bm,bn,bo,bp,bq,br,bs) =>
      cond (!d) (
      (A8 ([59],b8,b9,d,ba)).bind λ(_,er,es,et,eu) =>some ((Stm.mk bb bc bd be bf bg bh bi bj (Xpr.mk bk ⟨bl,bm,bn⟩ bo bp) bq br bs),er,es,et,eu)) (
      some ((Stm.mk bb bc bd be bf bg bh bi bj (Xpr.mk bk ⟨bl,bm,bn⟩ bo bp) bq br bs),b8,b9,d,ba))) (
     (A8 ([68,69,76,69,84,69],b4,b5,b6,b7)).bind λ(ev,bt,bu,bv,bw) =>
      cond (ev) (
      (A9 ([[70,82,79,77]],bt,bu,bv,bw)).bind λ(ew,ex,ey,ez) =>
       (Bt (ew,ex,ey,ez)).bind λ(f0,f1,f2,f3,f4) =>
       (Jn (f1,f2,f3,f4,7,f0,[],[],[],[],[],[],false,0,0,0,[],[],[],[],[],0)).bind λ(bx,bz,f,c0,c1,c2,c3,c4,c5,c6,c7,c8,c9,ca,cb,cc,cd,ce,cf,cg,ch,ci) =>
        cond (!f) (
        (A8 ([59],bx,bz,f,c0)).bind λ(_,f5,f6,f7,f8) =>some ((Stm.mk c1 c2 c3 c4 c5 c6 c7 c8 c9 (Xpr.mk ca ⟨cb,cc,cd⟩ ce cf) cg ch ci),f5,f6,f7,f8)) (
        some ((Stm.mk c1 c2 c3 c4 c5 c6 c7 c8 c9 (Xpr.mk ca ⟨cb,cc,cd⟩ ce cf) cg ch ci),bx,bz,f,c0))) (
      (A8 ([83,69,76,69,67,84],bt,bu,bv,bw)).bind λ(f9,cj,ck,cl,cm) =>
       cond (f9) (
       (W0 (cj,ck,cl,cm,0,[],[],[],[],[],[],[],false,0,0,0,[],[],[],[],[],0)).bind λ(cn,co,g,cp,cq,cr,cs,ct,cu,cv,cw,cx,cy,cz,d0,d1,d2,d3,d4,d5,d6,d7) =>
        cond (!g) (
        (A8 ([59],cn,co,g,cp)).bind λ(_,fa,fb,fc,fd) =>some ((Stm.mk cq cr cs ct cu cv cw cx cy (Xpr.mk cz ⟨d0,d1,d2⟩ d3 d4) d5 d6 d7),fa,fb,fc,fd)) (
        some ((Stm.mk cq cr cs ct cu cv cw cx cy (Xpr.mk cz ⟨d0,d1,d2⟩ d3 d4) d5 d6 d7),cn,co,g,cp))) (
       (Dw (cj,ck,cl,cm)).bind λ(d8,d9,h,da) =>
        cond (!h) (
        (A8 ([59],d8,d9,h,da)).bind λ(_,fe,ff,fg,fh) =>some ((Stm.mk 0 [] [] [] [] [] [] [] false (Xpr.mk 0 ⟨0,0,[]⟩ [] []) [] [] 0),fe,ff,fg,fh)) (
        some ((Stm.mk 0 [] [] [] [] [] [] [] false (Xpr.mk 0 ⟨0,0,[]⟩ [] []) [] [] 0),d8,d9,h,da))))))))
theorem Bf2(k:Nat):FM 55 Aa7 Abk (Xz k):=fRL (px:=A21 _ k) (n:=0) Tryz.func55 rfl (λcx H=>by have h2:Lv cx (Aa6 (Aaz) k):=lv H (l1 H Ev Ae) Aa (w1 H Auq Ab);have h1:Lv cx (Ajt (Aaz) k):=lv H (l1 H Dy (Am (cR H h2 Tryz.func77 rfl (n:=0) (Ai)) Ae)) Aa Ab;have hlpstmt_0:=lO H h1 (b:=lp Tryz.f76 0) (k:=k) (n:=0) (s:=Akv) (step:=Awy) (λ_ _ _ (_,_,_,_,_,_,_,_,_,_,_,_,_,_,_,_,_,_,_,_,_,_,_)=>by kernel_rfl) Ai;have h0:Lv cx (A21 (Aaz) k):=lv H (l1 H Dy (l1 H A8a (l1 H Ev (l1 H G4 (l1 H A7b (l1 H Aer (l1 H Azv (l1 H I6 (Am (cR H h1 Tryz.func76 rfl (n:=1) ((A2 Ai hlpstmt_0))) Ae))))))))) Aa Ab;exact⟨h0,Ai⟩) λ(_,_,_,_)=>by kernel_rfl
def Awr:Bbh->Option Aaz:=λx=>Xz ((x.1.length+3)) x
theorem Bj7:FM 55 Aa7 Abk (Awr):=FnLn.fin (ι:=Nat) (sg:=Aa7) (so:=Abk) 0 (F:=λk=>Xz k) (λk=>Bf2 k) λx _ _ hx=>⟨(x.1.length+3),hx⟩
def Amr:Sig:=⟨1,[],[(0,.ptr 0 0)],[(0,.cells [.sl .tok false,.int .i64,.bool,.int .i64])],1,1,0,[],[]⟩
def An9:Sig:=⟨1,[(0,.bool)],[],[(0,.cells [.sl .tok false,.int .i64,.bool,.int .i64])],1,1,0,[],[]⟩
abbrev Bav:=List Tok×Int×Bool×Int
abbrev Bap:=Bool×List Tok×Int×Bool×Int
def Br1(R:Type):Px R:=pxO [(82,Ak Gj F9 Dw)] [] [] []
def Ao1(x:Bav):Option (Bap):=match x with
 |(l,n,b,p) =>
 cond (decide (0<(l.length:Int))) (
  (Dw (l,n,b,p)).bind λ(x,x1,x2,x3) =>
  some (!x2,x,x1,x2,x3)) (
  some (!b,l,n,b,p))
theorem Bd0:FM 56 Amr An9 (Ao1):=fRL (px:=Br1 _) (n:=0) Tryz.func56 rfl (λ_ H=>⟨lv H (l1 H I6 Ae) Aa Ab,Ai⟩) λ(_,_,_,_)=>by kernel_rfl
def Awx:Bav->Option Bap:=λx=>Ao1 x
theorem Bju:FM 56 Amr An9 (Awx):=Bd0
open Go.RowKit
def A3j:List Nat:=[350,352]
abbrev B0f:TypeId:=350
theorem Bc8:(Tryz.prog.info? B0f).map (·.size)=some 2:=by kernel_rfl
theorem Buo(T:TypeId)(h:T∈A3j):liesAt Tryz.prog Tryz.prog.depth T (2 / Tryz.prog.cellsOf T) 0 B0f 1=true:=by simp[A3j] at h;rcases h with rfl|rfl<;>kernel_rfl
set_option maxRecDepth 100000 in
theorem Buc(b:Nat)(w:World)(h0:w.cell? ⟨b,0,none⟩=some (.pointer (some ⟨b,0,none⟩))) :
  Calls Tryz.prog 356 #[.pointer (some ⟨b,0,none⟩)] w λe w'=>e = .returned (.tuple #[])/\w' = w:=by
 obtain⟨j,hj,_⟩:=Option.map_eq_some_iff.1 Bc8;have mixed:=follows;have t1:=Tryz.underlying348;have u1:=run_underlying (P:=Tryz.prog) t1;have u2:=run_underlying (P:=Tryz.prog) Tryz.underlying12
 go_enter Tryz.func356,Tryz.ntmps356
 go_wp2
 rw[Lib.run_neq_ptr_same w _ t1 hj]
 go_wp2
 go_end0
 exact⟨rfl,rfl⟩
set_option maxRecDepth 100000 in
theorem Bpf(b:Nat)(T:TypeId)(hT:T∈A3j)(w:World)(h0:w.cell? ⟨b,0,none⟩=some (.pointer none))(hsh:w.shape? b=some (T,2))(hfz:w.frozen? ⟨b,0,none⟩=false) :
  Calls Tryz.prog 356 #[.pointer (some ⟨b,0,none⟩)] w λe w'=>e = .returned (.tuple #[])/\w' = w.setCell ⟨b,0,none⟩ (.pointer (some ⟨b,0,none⟩)):=by
 obtain⟨j,hj,hjs⟩:=Option.map_eq_some_iff.1 Bc8;have mixed:=follows;have t1:=Tryz.underlying348;have t3:=Tryz.underlying433;have u1:=run_underlying (P:=Tryz.prog) t1;have u2:=run_underlying (P:=Tryz.prog) Tryz.underlying12;have u3:=run_underlying (P:=Tryz.prog) t3
 go_enter Tryz.func356,Tryz.ntmps356
 go_wp2
 rw[Lib.run_to_unsafe w ⟨b,0,none⟩ t1 t3 hj (by rw[hjs];decide) hsh (Nat.zero_lt_succ 1)];simp;rw[Oper.upon_value]
 go_wp2
 rw[run_callFunc_extern Tryz.func382 (by kernel_rfl) (by kernel_rfl) (by kernel_rfl) (e:=Extern.AbiNoEscape.same) (by kernel_rfl)];rw[Lib.run_noEscape];simp;rw[Oper.upon_value]
 go_wp2
 rw[Lib.run_from_unsafe w ⟨b,0,none⟩ t3 t1 hj hsh (Buo T hT)];simp;rw[Oper.upon_value]
 go_wp2
 go_end0
 exact⟨rfl,rfl⟩
theorem Bd9:Sx.Enters Tryz.prog 356:=Sx.enters_of Tryz.func356 rfl (by kernel_rfl)
theorem B0l:∀T,T∈A3j->∀(b:Nat) (w:World) (a v:Value),w.heap[b]? = some (.cells #[a,v] T (0,0))->(a = .pointer none\/a = .pointer (some ⟨b,0,none⟩))->Calls Tryz.prog 356 #[.pointer (some ⟨b,0,none⟩)] w λe w'=>e = .returned (.tuple #[])/\(w' = w\/w' = w.setCell ⟨b,0,none⟩ (.pointer (some ⟨b,0,none⟩))):=by
 intro T hT b w a v hh ha;have c0:w.cell? ⟨b,0,none⟩=some a:=by simp[World.cell?,hh]
 rcases ha with rfl|rfl
 ·refine(Bpf b T hT w c0 (by simp[World.shape?,hh]) (by simp[World.frozen?,hh])).mono ?_;rintro e w' ⟨rfl,rfl⟩;exact⟨rfl,.inr rfl⟩
 ·refine(Buc b w c0).mono ?_;rintro e w' ⟨rfl,rfl⟩;exact⟨rfl,.inl rfl⟩
theorem A39(w:World)(g n k:Nat):Chg (λb i=>b=g/\k<=i) w (w.freeze ⟨g,0,none⟩ n):=by
 unfold World.freeze;split
 ·exact Chg.refl _ _
 ·have hne:∀(q:Nat),q≠g->∀F:Obj->Obj,(w.heap.modify g F)[q]? = w.heap[q]? :=λq hq F=>by rw[Array.getElem?_modify,if_neg (Ne.symm hq)]
  refine⟨rfl,rfl,rfl,by simp,λq _ hq2=>hne q (λe=>hq2 k ⟨e,Zn1 _⟩) _,λb i v hv _ =>?_,λb cs t f hb =>?_⟩
  ·by_cases hbg:b=g
   ·subst hbg;unfold World.cell? at hv ⊢;simp at hv ⊢;cases hh:w.heap[b]? with|none=>rw[hh] at hv;cases hv|some o=>grind
   ·rw[World.cell?_of_block (a:=⟨b,i,none⟩) (hne b hbg _)];exact hv
  ·grind
theorem cellsByte:Tryz.prog.cellsOf 5=1:=by kernel_rfl
set_option maxHeartbeats 2000000 in
set_option maxRecDepth 100000 in
theorem A2x(b g cap n:Nat)(w:World)(s:ByteArray)(hcap:cap≠0)(hc:w.cell? ⟨b,1,none⟩=some (.slice (some ⟨g,0,none⟩) n cap))(hUS:(Builtin.unsafeString_ #[389,3] 9 #[.pointer (some ⟨g,0,none⟩),.int .i64 n]).run Tryz.prog w.drew = .ok (.string s) (w.drew.freeze ⟨g,0,none⟩ n)) :
  Calls Tryz.prog 297 #[.pointer (some ⟨b,0,none⟩)] w λe w'=>e = .returned (.string s)/\w' = w.drew.freeze ⟨g,0,none⟩ n:=by
 have c1:w.drew.cell? ⟨b,1,none⟩=some (.slice (some ⟨g,0,none⟩) n cap):=hc;have hSD:(Builtin.unsafeSliceData_ #[25] 389 #[.slice (some ⟨g,0,none⟩) n cap]).run Tryz.prog w.drew = .ok (.pointer (some ⟨g,0,none⟩)) w.drew:=Lib.run_unsafeSliceData_row _ _ _ _ _ _ hcap;clear hcap;have mixed:=follows;have t1:=Tryz.underlying348;have t3:=Tryz.underlying25;have t5:=Tryz.underlying3;have u1:=run_underlying (P:=Tryz.prog) t1;have u2:=run_underlying (P:=Tryz.prog) Tryz.underlying12;have u3:=run_underlying (P:=Tryz.prog) t3;have u4:=run_underlying (P:=Tryz.prog) Tryz.underlying203;have u5:=run_underlying (P:=Tryz.prog) t5;have u6:=run_underlying (P:=Tryz.prog) Tryz.underlying9
 go_enter Tryz.func297,Tryz.ntmps297
 go_wp2
 go_region_o
 all_goals (go_wp2;go_ret;exact⟨rfl,rfl⟩)
theorem Av3(W:World)(q:Option Addr):(Builtin.unsafeString_ #[389,3] 9 #[.pointer q,.int .i64 0]).run Tryz.prog W = .ok (.string .empty) W:=Lib.run_unsafeString_none W _ _ _ q
set_option maxHeartbeats 2000000 in
set_option maxRecDepth 100000 in
theorem Bwp(b:Nat)(w:World)(hc:w.cell? ⟨b,1,none⟩=some (.slice none 0 0)) :
  Calls Tryz.prog 297 #[.pointer (some ⟨b,0,none⟩)] w λe w'=>e = .returned (.string ⟨#[]⟩)/\w' = w.drew:=by
 have hUS:=Av3;have c1:w.drew.cell? ⟨b,1,none⟩=some (.slice none 0 0):=hc;have hSD:(Builtin.unsafeSliceData_ #[25] 389 #[.slice none 0 0]).run Tryz.prog w.drew = .ok (.pointer none) w.drew:=rfl;have mixed:=follows;have t2:=Tryz.underlying350;have t4:=Tryz.underlying389;have t6:=Tryz.underlying9;have u1:=run_underlying (P:=Tryz.prog) Tryz.underlying108;have u2:=run_underlying (P:=Tryz.prog) t2;have u3:=run_underlying (P:=Tryz.prog) Tryz.underlying28;have u4:=run_underlying (P:=Tryz.prog) t4;have u5:=run_underlying (P:=Tryz.prog) Tryz.underlying3;have u6:=run_underlying (P:=Tryz.prog) t6
 go_enter Tryz.func297,Tryz.ntmps297
 go_wp2
 go_region_o
 all_goals (go_wp2;go_ret;exact⟨rfl,rfl⟩)
set_option maxHeartbeats 2000000 in
set_option maxRecDepth 100000 in
theorem A47(b g:Nat)(w:World)(cur:Array Value)(hlt:b<w.heap.size)(hc:w.cell? ⟨b,1,none⟩=some (.slice (some ⟨g,0,none⟩) 0 0))(hg:w.heap[g]? = some (.cells cur 5 (0,0))) :
  Calls Tryz.prog 297 #[.pointer (some ⟨b,0,none⟩)] w λe w'=>e = .returned (.string ⟨#[]⟩)/\Chg Cf w w':=by
 have hUS:=Av3;have c1:w.drew.cell? ⟨b,1,none⟩=some (.slice (some ⟨g,0,none⟩) 0 0):=hc;have t4:=Tryz.underlying389;have hSD:(Builtin.unsafeSliceData_ #[25] 389 #[.slice (some ⟨g,0,none⟩) 0 0]).run Tryz.prog w.drew = .ok (.pointer (some ⟨w.drew.heap.size,0,none⟩)) (w.drew.alloc (.view ⟨g,0,none⟩ 5)) :=Lib.run_unsafeSliceData_zero w.drew _ _ 5 t4 ⟨g,0,none⟩ 0 (5,cur.size) (by have hg':w.drew.heap[g]? = some (.cells cur 5 (0,0)):=hg;simp[World.shape?,hg'])
 have c2:(w.drew.alloc (.view ⟨g,0,none⟩ 5)).cell? ⟨b,1,none⟩=some (.slice (some ⟨g,0,none⟩) 0 0):=by rw[World.cell?_of_block (a:=⟨b,1,none⟩) (Below.heap_alloc w.drew _ _ hlt)];exact c1
 have c3:(w.alloc (.view ⟨g,0,none⟩ 5)).drew.cell? ⟨b,1,none⟩=some (.slice (some ⟨g,0,none⟩) 0 0):=c2;have c0:w.cell? ⟨b,1,none⟩=some (.slice (some ⟨g,0,none⟩) 0 0):=c1;have mixed:=follows;have t1:=Tryz.underlying348;have t3:=Tryz.underlying25;have t6:=Tryz.underlying9;have u1:=run_underlying (P:=Tryz.prog) t1;have u2:=run_underlying (P:=Tryz.prog) Tryz.underlying12;have u3:=run_underlying (P:=Tryz.prog) t3;have u4:=run_underlying (P:=Tryz.prog) t4;have u5:=run_underlying (P:=Tryz.prog) Tryz.underlying3;have u6:=run_underlying (P:=Tryz.prog) t6
 go_enter Tryz.func297,Tryz.ntmps297
 go_wp2
 go_region_o
 all_goals (go_wp2;go_ret;exact⟨rfl,(Chg.drew Cf w).trans (Chg.alloc Cf w.drew _)⟩)
theorem Bs0{cx:Cx}{m:Mp}{a:Act}{rs:List Act}{st:St}{w w':World}(hr:Rel cx m a rs (fs st) w)(hch:Chg (Dc m (fs st)) w w'){d:D}{v:Value}(hd:Rep (vx cx m (fs { st with n:=1,env:=[(0,d)],bl:=[],tk:=[],df:=[] }) w') d v):Rel cx m ⟨#[v],[]⟩ rs (fs { st with n:=1,env:=[(0,d)],bl:=[],tk:=[],df:=[] }) w':=by
 have hnf:∀b i,¬Dc m (fs { st with n:=1,env:=[(0,d)],bl:=[],tk:=[],df:=[] }) b i:=by
  rintro b i (⟨q,hq,_⟩|⟨t,o,h1,_,_⟩)
  ·exact hq rfl
  ·simp[fs] at h1
 have nx:Nx (vx cx m (fs st) w) (vx cx m (fs { st with n:=1,env:=[(0,d)],bl:=[],tk:=[],df:=[] }) w'):=by
  refine⟨hch.mono λb i hi =>.inr hi,?_,rfl,λ_ _=>rfl,Zn1 _,Zn1 _,λt _ ha =>?_⟩
  ·rintro b i (h|h)
   ·exact .inl (.inl h)
   ·exact absurd h (hnf b i)
  ·simp[vx,fs] at ha
 have h1:Rel cx m a rs { fs st with bl:=λ_=>none,al:=λ_=>False } w':=by
  refine hr.step (s':={ fs st with bl:=λ_=>none,al:=λ_=>False }) rfl rfl rfl rfl rfl hch ?_ (λb k hk=>by cases hk) (λt ht=>ht.elim) (λb b' h=>absurd rfl h) (λt t' g o o' h=>h.elim) (λb t g o h=>absurd rfl h) (λb i hi =>?_)
  ·refine⟨hch.mono λb i hi =>.inr hi,?_,rfl,λ_ _=>rfl,Zn1 _,Zn1 _,λt _ ha=>ha.elim⟩;rintro b i (h|⟨q,hq,_⟩|⟨t,o,h1,_,_⟩)
   ·exact .inl (.inl h)
   ·exact absurd rfl hq
   ·exact h1.elim
  ·rcases hi with ⟨q,hq,_⟩|⟨t,o,h1,_,_⟩
   ·exact absurd rfl hq
   ·exact h1.elim
 have hal:(fs { st with n:=1,env:=[(0,d)],bl:=[],tk:=[],df:=[] }).al=λ_=>False:=by funext t;simp[fs]
 have e:fs { st with n:=1,env:=[(0,d)],bl:=[],tk:=[],df:=[] }={ (fs { st with n:=1,env:=[(0,d)],bl:=[],tk:=[],df:=[] }) with al:=λ_=>False }:=by rw[<-hal]
 rw[e] at hd ⊢;refine⟨h1.chg,⟨(show Apv _ [] [] from rfl),rfl,λk d' hk =>?_⟩,h1.frs,h1.lb,h1.lt,h1.blks,h1.als,h1.inj,h1.injt,h1.injbt,h1.own,h1.away,h1.glb⟩;have hk:get [(0,d)] k=some d':=hk;rw[B2] at hk;by_cases h0:k=0
 ·grind
 ·rw[if_neg h0] at hk;cases hk
abbrev wT:TypeId:=352
def bstr_si:Sig:=⟨1,[],[(0,.ptr 0 0)],[(0,.bld wT)],1,1,0,[],[]⟩
def Axc:Sig:=⟨1,[(0,.str)],[],[],1,1,0,[],[]⟩
abbrev Bx6:=List UInt8
abbrev Bya:=Str
def Ij:Bx6->Option Bya:=λx=>some x
theorem Bv2:FnLn Tryz.prog elT glT 297 bstr_si Axc Ij:=by
 refine⟨Sx.enters_of Tryz.func297 rfl (by kernel_rfl),λ(l:List UInt8) r hx _ cx m vs af w h1 h2 h3 hr =>?_⟩;obtain rfl:l=r:=Option.some.inj hx;obtain⟨_,hb⟩:=hr.blks 0 (.bld wT (.sl .byte l (.id 0))) rfl;obtain⟨_,a,v,hh,ha,hrep⟩:=hb;obtain⟨u,hu,hup⟩:=hr.env.get 0 (.ptr 0 0) rfl;have hsz:vs.toArray.size=1:=hr.env.size;have hvs:vs=[u]:=by match vs,hsz,hu with|[y],_,hu=>simpa using hu
 subst hvs;simp[Rep] at hup hrep;obtain⟨_,rfl⟩:=hup;obtain⟨hrf,_,htk⟩:=hrep;have htk:=htk (show(fs (Du bstr_si [E7 bstr_si] l)).al 0 by simp[fs,Du,bstr_si,Sig.sgs,Bd,Bs.sgs]);have hh:w.heap[m.bl 0]? = some (.cells #[a,v] wT (0,0)):=hh;have hblt:m.bl 0<w.heap.size:=(Zh2.1 hh).1;have hlen:l.length<=maxLen:=hrf.here.len;have c1:w.cell? ⟨m.bl 0,1,none⟩=some v:=by simp[World.cell?,hh]
 have done:(Calls Tryz.prog 297 #[.pointer (some ⟨m.bl 0,0,none⟩)] w λe w'=>e = .returned (.string ⟨l.toArray⟩)/\Chg (Dc m (fs (Du bstr_si [E7 bstr_si] l))) w w')->Calls Tryz.prog 297 ([.pointer (some ⟨m.bl 0,0,none⟩)]:List Value).toArray w λen w'=>∃us st' m',en = .returned (Sx.resv us)/\(∀k,(bstr_si.bl.map (·.1)).contains k=true->m'.bl k=m.bl k)/\H2 Axc st' = some l/\Rel cx m' ⟨us.toArray,[]⟩ [af] (fs st') w':=λhc=>by refine hc.mono ?_;rintro e w' ⟨rfl,hch⟩;exact⟨[.string ⟨l.toArray⟩],{ Du bstr_si [E7 bstr_si] l with n:=1,env:=[(0,.str l)],bl:=[],tk:=[],df:=[] },m,rfl,λ_ _=>rfl,rfl,Bs0 hr hch (by simp only[Rep];exact⟨trivial,hlen⟩)⟩
 refine done ?_;rcases htk with ⟨rfl,_,rfl⟩|⟨g,cap,cur,rfl,ht,hg,hcs,hle,hcm⟩
 ·refine(Bwp (m.bl 0) w c1).mono ?_;rintro e w' ⟨rfl,rfl⟩;exact⟨rfl,Chg.drew _ w⟩
 ·have ht:m.tk 0=some (g,l.length*1):=ht;have hel:(vx cx m (fs (Du bstr_si [E7 bstr_si] l)) w).el .byte=5:=by show cx.el .byte=_;rw[h2];rfl
  rw[hel] at hg;have hg:w.heap[g]? = some (.cells cur 5 (0,0)):=hg;have hcs:cur.size=cap*1:=hcs;by_cases hl0:l=[]
  ·subst hl0;by_cases hc0:cap=0
   ·subst hc0;refine(A47 (m.bl 0) g w cur hblt c1 hg).mono ?_;rintro e w' ⟨rfl,hch⟩;exact⟨rfl,hch.mono λ_ _ h=>h.elim⟩
   ·refine(A2x (m.bl 0) g cap 0 w .empty hc0 c1 (Av3 _ _)).mono ?_;rintro e w' ⟨rfl,rfl⟩;exact⟨rfl,Chg.drew _ w⟩
  ·have hcells:∀(j:Nat) x,l[j]? = some x->w.cell? ⟨g,j,none⟩=some (.int .u8 x.toNat):=λj x hj=>by
    obtain⟨a',cap',e1,h|⟨b0,o0,e2,_,h4⟩⟩:=hrf.here.slice
    ·exact absurd h hl0
    ·simp at e1;rw[e2] at e1;simp at e1;obtain⟨⟨rfl,rfl,_⟩,_⟩:=e1;obtain⟨u,hu,hf⟩:=h4 j x hj 0 _ rfl;have e3 : 0+j*csz .byte+0=j:=by simp[csz]
     rw[e3] at hu;cases hf;exact hu
   have hn0:l.length≠0:=λe=>hl0 (List.eq_nil_of_length_eq_zero e);have hUS:=Lib.run_unsafeString_row w.drew 389 3 9 5 Tryz.underlying389 cellsByte g cur.size (by have hg':w.drew.heap[g]? = some (.cells cur 5 (0,0)):=hg;simp[World.shape?,hg']) l hl0 (by omega) (by unfold maxLen at hcm;omega) (λj x hj=>by
    have e:(⟨g,0,none⟩:Addr).add j=⟨g,j,none⟩:=by
     unfold Addr.add;by_cases hj0:j=0
     ·subst hj0;simp
     ·simp[hj0]
    rw[e];exact hcells j x hj)
   refine(A2x (m.bl 0) g cap l.length w ⟨l.toArray⟩ (by omega) c1 hUS).mono ?_;rintro e w' ⟨rfl,rfl⟩;refine⟨rfl,(Chg.drew _ w).trans ((A39 w.drew g l.length (l.length*1)).mono λb i hi =>?_)⟩;obtain⟨rfl,hi⟩:=hi;exact .inr ⟨0,l.length*1,by simp[fs,Du,bstr_si,Sig.sgs,Bd,Bs.sgs],ht,hi⟩
def Ad8:Sig:=⟨2,[(1,.str)],[(0,.ptr 0 0)],[(0,.bld 352)],1,1,0,[],[]⟩
def Aec:Sig:=⟨2,[],[],[(0,.bld 352)],1,1,0,[],[]⟩
abbrev Az1:=Str×List UInt8
abbrev Aym:=List UInt8
def Bex(R:Type):Px R:=pxO [(356,A64 A3j)] [] [] []
def Ag3(x:Az1):Option (Aym):=match x with
 |(s,out) =>
 chk (decide (out.length+s.length<=Ag)) (
  some (out++s))
theorem A4m:FM 326 Ad8 Aec (Ag3):=fRL (px:=Bex _) (n:=0) Tryz.func326 rfl (λ_ H=>⟨lv H (Am (Bz6 (by rw[H.p];exact Bd9) (by rw[H.p];exact B0l)) Ae) Aa Ab,Ai⟩) λ(_,_)=>by kernel_rfl
def Axo(s out:Str):Option Str:=if out.length+s.length<=Ag then some (out++s) else none
def Qt:Az1->Option Aym:=λx=>Axo x.1 x.2
theorem Bdz:FM 326 Ad8 Aec Qt :=.fin0 A4m λ(s,out) r hb hx=>by
 simp only[Qt,Axo] at hx;split at hx
 ·rename_i h;simp only[Ag3];rw[Ze1 h];exact hx
 ·cases hx
end Go.Proofs.YtblaahgjaopdnaaGreatDoor
namespace Go.Proofs
open Go.Shelf
def Tryz.laysRJ_ren:Go.Shelf.Ren:=⟨λ|156=>327|165=>357|166=>326|169=>297|240=>356|241=>383|276=>382|277=>394|n=>n,λ|0=>0|3=>3|4=>4|5=>5|9=>9|20=>20|31=>81|37=>25|70=>348|72=>350|75=>384|76=>385|80=>151|127=>389|164=>433|n=>n,λn=>n⟩
theorem Tryz.laysRJ:Go.Proofs.Lays.n156 Tryz.prog Tryz.laysRJ_ren:={
 mixed:=by kernel_rfl
 f156:=Tryz.func327.trans (congrArg some (by kernel_rfl))
 f165:=Tryz.func357.trans (congrArg some (by kernel_rfl))
 f166:=Tryz.func326.trans (congrArg some (by kernel_rfl))
 f169:=Tryz.func297.trans (congrArg some (by kernel_rfl))
 f240:=Tryz.func356.trans (congrArg some (by kernel_rfl))
 f241:=Tryz.func383.trans (congrArg some (by kernel_rfl))
 f276:=Tryz.func382.trans (congrArg some (by kernel_rfl))
 f277:=Tryz.func394.trans (congrArg some (by kernel_rfl))
 t0:=Tryz.underlying0
 a0:=Tryz.isAgg0
 z0:=Tryz.sizeOf0
 v0:=Tryz.zeroValue0
 t3:=Tryz.underlying3
 a3:=Tryz.isAgg3
 z3:=Tryz.sizeOf3
 v3:=Tryz.zeroValue3
 t4:=Tryz.underlying4
 a4:=Tryz.isAgg4
 z4:=Tryz.sizeOf4
 v4:=Tryz.zeroValue4
 t9:=Tryz.underlying9
 a9:=Tryz.isAgg9
 z9:=Tryz.sizeOf9
 v9:=Tryz.zeroValue9
 t20:=Tryz.underlying20
 a20:=Tryz.isAgg20
 z20:=Tryz.sizeOf20
 v20:=Tryz.zeroValue20
 t31:=Tryz.underlying81
 a31:=Tryz.isAgg81
 z31:=Tryz.sizeOf81
 v31:=Tryz.zeroValue81
 t37:=Tryz.underlying25
 a37:=Tryz.isAgg25
 z37:=Tryz.sizeOf25
 v37:=Tryz.zeroValue25
 t70:=Tryz.underlying348
 a70:=Tryz.isAgg348
 z70:=Tryz.sizeOf348
 v70:=Tryz.zeroValue348
 t72:=Tryz.underlying350
 a72:=Tryz.isAgg350
 z72:=Tryz.sizeOf350
 v72:=Tryz.zeroValue350
 t75:=Tryz.underlying384
 a75:=Tryz.isAgg384
 z75:=Tryz.sizeOf384
 v75:=Tryz.zeroValue384
 t76:=Tryz.underlying385
 a76:=Tryz.isAgg385
 z76:=Tryz.sizeOf385
 v76:=Tryz.zeroValue385
 t127:=Tryz.underlying389
 a127:=Tryz.isAgg389
 z127:=Tryz.sizeOf389
 v127:=Tryz.zeroValue389
 t164:=Tryz.underlying433
 a164:=Tryz.isAgg433
 z164:=Tryz.sizeOf433
 v164:=Tryz.zeroValue433 }
theorem Tryz.extraRJ:Builder.Extra Tryz.prog Tryz.laysRJ_ren:={
 sizeBuilder:=by kernel_rfl
 liesBuilder:=by kernel_rfl
 t5:=Tryz.underlying5
 a5:=Tryz.isAgg5
 z5:=Tryz.sizeOf5
 v5:=Tryz.zeroValue5
 infoByte:=by kernel_rfl
 cellsByte:=by kernel_rfl
 sizeByte:=by kernel_rfl
 neB5:=by decide }
end Go.Proofs
namespace Go.Proofs.YtblaahgjaopdnaaGreatDoor
open Go.Ax Go.RowKit
def Bbs(l:List Str)(sep:Str):Option Str:=if l.length<=1000000/\(Lib.join l sep).length<=1000000000 then some (Lib.join l sep) else none
def Avh:FT [.sl .str false,.str] [.str]:=λx=>Bbs x.1 x.2
theorem Bqz:FO 327 [.sl .str false,.str] [.str] Avh:=by
 refine⟨Sx.enters_of Tryz.func327 rfl (by kernel_rfl),λx r hx w M vs hM hgl hr =>?_⟩;obtain⟨l,sep⟩:=x;simp only[Avh,Bbs] at hx;split at hx
 case isFalse=>cases hx
 rename_i hc;obtain⟨h1,h2⟩:=hc;obtain rfl:=Option.some.inj hx;simp only[B0,Cj,Reps,Rep] at hr;obtain⟨u,us,rfl,⟨hrf,_⟩,u2,us2,rfl,⟨rfl,_⟩,rfl⟩:=hr;have key:Calls Tryz.prog 327 #[u,.string ⟨sep.toArray⟩] w λe w'=>e = .returned (.string ⟨(Lib.join l sep).toArray⟩)/\Below w.heap.size w w':=by
  obtain⟨a,cap,rfl,h⟩:=hrf.here.slice;rcases h with rfl|⟨b,o,rfl,⟨hle,hcm⟩,hat⟩
  ·have c:=Any.strings_Join_none Tryz.laysRJ Tryz.extraRJ a cap ⟨sep.toArray⟩ w;refine Calls.mono (show Calls Tryz.prog 327 _ w _ from c) ?_;rintro e w' ⟨rfl,rfl⟩;exact⟨rfl,Below.refl _ _⟩
  ·by_cases hl:l=[]
   ·subst hl;have c:=Any.strings_Join_none Tryz.laysRJ Tryz.extraRJ (some ⟨b,o,none⟩) cap ⟨sep.toArray⟩ w;refine Calls.mono (show Calls Tryz.prog 327 _ w _ from c) ?_;rintro e w' ⟨rfl,rfl⟩;exact⟨rfl,Below.refl _ _⟩
   ·have hcell:∀(j:Nat) x,l[j]? = some x->w.cell? ⟨b,o+j,none⟩=some (.string ⟨x.toArray⟩):=λj x hj=>by
     obtain⟨u,hu,hf⟩:=hat j x hj 0 _ rfl;have e3:o+j*csz .str+0=o+j:=by simp[csz]
     rw[e3] at hu;cases hf;exact hu
    have hb:b<w.heap.size:=by cases l with|nil=>exact absurd rfl hl|cons x l=>exact Un (hcell 0 x rfl)
    have em:(l.map λs=>(⟨s.toArray⟩:ByteArray)).map (·.data.toList)=l:=by rw[List.map_map];simp[Function.comp_def]
    have es:(⟨sep.toArray⟩:ByteArray).data.toList=sep:=by simp
    have c:=Any.strings_Join Tryz.laysRJ Tryz.extraRJ b o cap (l.map λs=>⟨s.toArray⟩) ⟨sep.toArray⟩ w (λj x hj=>by rw[List.getElem?_map] at hj;obtain⟨y,hy,rfl⟩:=Option.map_eq_some_iff.1 hj;exact hcell j y hy) hb (by rw[List.length_map];omega) (by rw[List.length_map];exact hle) (by rw[em,es];omega)
    rw[em,es,List.length_map] at c;exact c
 refine key.mono ?_;rintro en w' ⟨rfl,hbel⟩;refine⟨_,⟨λ_=>0,λ_=>Option.none⟩,rfl,Chg.of_below hbel,λp g o hp=>(by simp[Bd] at hp),λp q g o o2 hp=>(by simp[Bd] at hp),?_⟩;simp only[Eo,B0,Cj,Rep];exact⟨trivial,by simp only[maxLen];omega⟩
end Go.Proofs.YtblaahgjaopdnaaGreatDoor
namespace Go.Proofs.YtblaahgjaopdnaaGreatDoor
open Go.Ax
def app(out t:Str):Option Str:=if out.length+t.length<=260000000000 then some (out++t) else none
theorem Gx(out a b:Str):((app out a).bind λx=>app x b)=app out (a++b):=by
 simp only[app,Zh1];by_cases h1:out.length+a.length<=260000000000
 ·rw[if_pos h1,Zc1];simp only[Zh1,Zj1,Nat.add_assoc]
 ·rw[if_neg h1,if_neg (by omega)];rfl
theorem Ct{R:Type}(out a b:Str)(c:Str->Option R):((app out a).bind λx=>(app x b).bind c)=(app out (a++b)).bind c:=by rw[<-Gx,Option.bind_assoc]
theorem Ur{o:Option Str}:(o.bind λx=>some x)=o:=by cases o<;>rfl
theorem Ai6{out:Str}(h:out.length<=260000000000):app out []=some out:=by simp only[app,Zi1,Nat.add_zero,List.append_nil];rw[if_pos h]
theorem Awb{out t r:Str}(h:app out t=some r):r.length<=260000000000/\r=out++t:=by
 simp only[app] at h;split at h
 ·rename_i h1;obtain rfl:=Option.some.inj h;exact⟨by rw[Zh1];exact h1,rfl⟩
 ·cases h
theorem Bt2{out t r:Str}(h:app out t=some r):out.length+t.length<=260000000000:=by
 simp only[app] at h;split at h
 ·rename_i h1;exact h1
 ·cases h
def Agk{α:Type}(f : α->Str):List α->Str
 |[]=>[]
 |x::l=>[44,32]++f x++Agk f l
def G9{α:Type}(f : α->Str):List α->Str
 |[]=>[]
 |x::l=>f x++Agk f l
theorem I8{V R α:Type}{step:(V->Option R)->V->Option R}(l:List α)(f : α->Str)(st:Nat->Str->V)(c:Str->Option R)
  (hs:∀i (hi:i<l.length) (acc:Str) rec,step rec (st i acc)=(app acc ((if i=0 then [] else [44,32])++f l[i])).bind λx=>rec (st (i+1) x))
  (he:∀acc rec,step rec (st l.length acc)=c acc) (k:Nat) (hk:l.length<k) (out:Str) (ho:out.length<=260000000000):Aj step k (st 0 out)=(app out (G9 f l)).bind c:=by
 refine(H0 l.length st (λ_ acc=>acc.length<=260000000000) (λi acc=>(app acc (if i=0 then G9 f (l.drop i) else Agk f (l.drop i))).bind c) (λi hi acc ha rec hr =>?_) (λacc ha rec =>?_) k 0 out (Nat.zero_le _) (by omega) ho).trans (by rw[if_pos rfl,Zq1])
 ·rw[hs i hi acc rec];have hd:(if i=0 then G9 f (l.drop i) else Agk f (l.drop i))=((if i=0 then [] else [44,32])++f l[i])++Agk f (l.drop (i+1)):=by rw[Ay hi];split<;>simp[G9,Agk]
  rw[hd,<-Ct acc ((if i=0 then [] else [44,32])++f l[i]) (Agk f (l.drop (i+1))) c];cases hx:app acc ((if i=0 then [] else [44,32])++f l[i]) with|none=>rfl|some x =>rw[Zc1,Zc1,hr x (Awb hx).1,if_neg (by omega)]
 ·rw[he];have:(if l.length=0 then G9 f (l.drop l.length) else Agk f (l.drop l.length))=[]:=by rw[Zc2];split<;>rfl
  rw[this,Ai6 ha];rfl
def B8:Sig:=⟨2,[(1,.sl .str false)],[(0,.ptr 0 0)],[(0,.bld 352)],1,1,0,[],[]⟩
def B9:Sig:=⟨0,[],[],[(0,.bld 352)],1,1,0,[],[]⟩
abbrev Ayn:=List Str×List UInt8
abbrev Ak6:=List UInt8
def Agy:Sig:=⟨18,[(6,.sl .str false),(7,.int .i64),(8,.int .i64)],[(0,.ptr 0 0)],[(0,.bld 352)],1,1,0,[],[]⟩
abbrev Oy:=List Str×Int×Int×List UInt8
def Ma{R:Type}(rec:Oy->Option R)(kx:Ex->Oy->Option R)(v:Oy):Option R:=match v with
 |(v,v1,v2,w) =>
 cond (decide (v2<v1)) (
  chk (inb v2 v.length) (
  (Qt ((at' .str v v2),w)).bind λx =>rec (v,v1,(wr .i64 (v2+1)),x))) (
  kx (.exit 0) (v,v1,v2,w))
def Aum(R:Type)(k:Nat):Px R:=pxO [(326,Ak Ad8 Aec Qt)] [] [(1,Al k Agy (Ma))] []
def A14(k:Nat)(x:Ayn):Option (Ak6):=match x with
 |(l,out) =>
 Aj (λrec=>Ma rec (λe vz=>match vz with|(_,_,_,v6)=>match e with
  |.exit 0 =>
  some v6
  |_=>none)) k (l,(l.length:Int),0,out)
theorem A8o(k:Nat):FM 288 B8 B9 (A14 k):=fRL (px:=Aum _ k) (n:=1) Tryz.func288 rfl (λcx H=>by have h0:Lv cx (Aum (Ak6) k):=lv H (l1 H Bdz Ae) Aa Ab;have hlwwords_0:=lO H h0 (b:=lp Tryz.f288 0) (k:=k) (n:=0) (s:=Agy) (step:=Ma) (λ_ _ _ (_,_,_,_)=>by kernel_rfl) Ai;exact⟨h0,(A2 Ai hlwwords_0)⟩) λ(_,_)=>by kernel_rfl
def Byy(l:List Str)(out:Str):Option Str:=app out l.flatten
def An:Ayn->Option Ak6:=λx=>Byy x.1 x.2
theorem A0c{R:Type}{kx:Ex->Oy->Option R}{l:List Str}{c:Str->Option R}(hn:ln l.length)(h2:∀i out,kx (.exit 0) (l,(l.length:Int),i,out)=c out)(k:Nat)(hk:l.length<k)(out:Str)(ho:out.length+l.flatten.length<=260000000000) :
  Aj (λrec=>Ma rec kx) k (l,(l.length:Int),0,out)=c (out++l.flatten):=by
 refine(H0 l.length (λi out=>(l,(l.length:Int),(i:Int),out)) (λi out=>List.length out+((l.drop i).flatten).length<=260000000000) (λi out=>c (out++(l.drop i).flatten)) (λi hi out ha rec hr =>?_) (λout _ rec =>?_) k 0 out (Nat.zero_le _) (by omega) (by rw[Zq1];exact ho)).trans (by rw[Zq1])
 ·rw[Ay hi] at ha ⊢;simp only[Zz1,Zh1] at ha;have hw:Axo l[i] out=some (out++l[i]):=by simp only[Axo];rw[if_pos (by simp only[Ag];omega)]
  have hr:=hr (out++l[i]) (by rw[Zh1];omega);simp only[Ma,Cb hi,Ah,Au hi,chk,Aq (c :=.str) hi,Qt,hw,Zc1,Ao hi hn,hr,Zz1,Zj1]
 ·simp only[Ma,Ds,Af,h2];rw[Zk1 (Zn1 _)];simp
theorem Cq:FM 288 B8 B9 An :=.fin 0 A8o λ(l,out) r hb hx=>⟨l.length+1,by have hx:app out l.flatten=some r:=hx;have hlen:=Bt2 hx;rw[(Awb hx).2];exact A0c (l:=l) (c:=some) hb.1.1 (λ_ _=>rfl) (l.length+1) (by omega) out hlen⟩
theorem ww(l:List Str)(out:Str):An (l,out)=app out l.flatten:=rfl
def sgn(k:Int):Str:=V1 signsL k
mutual
def etx:Xpr->Str
 |.mk k v n l=>if k=1 then L4 v else if k=2 then n else etxs k l
def etxs:Int->List Xpr->Str
 |_,[]=>[]
 |k,x::l=>if k=3 then [40]++[78,79,84,32]++etx x++[41] else if k=15 then [40]++[45]++etx x++[41] else if k=16 then [40]++etx x++[32,73,83,32,78,85,76,76]++[41] else [40]++etx x++([32]++(sgn k++[32]))++etx1 l++[41]
def etx1:List Xpr->Str
 |[]=>[]
 |y::_=>etx y
end
mutual
def okx:Xpr->Bool
 |.mk k _ _ l=>if k=1\/k=2 then true else okxs k l
def okxs:Int->List Xpr->Bool
 |_,[]=>false
 |k,x::l=>okx x&&(if k=3\/k=15\/k=16 then true else okx1 l)
def okx1:List Xpr->Bool
 |[]=>false
 |y::_=>okx y
end
theorem Bx5(e:Xpr):etx e=if e.kind=1 then L4 e.v else if e.kind=2 then e.name else etxs e.kind e.l:=by cases e;simp only[etx];rfl
theorem Bys(e:Xpr):okx e=if e.kind=1\/e.kind=2 then true else okxs e.kind e.l:=by cases e;simp only[okx];rfl
def Fo:Sig:=⟨2,[(1,.sv .expr)],[(0,.ptr 0 0)],[(0,.bld 352)],1,1,0,[],[]⟩
def Fj:Sig:=⟨0,[],[],[(0,.bld 352)],1,1,0,[],[]⟩
abbrev Lb:=Xpr×List UInt8
abbrev K6:=List UInt8
def Bqv(R:Type)(rf:Lb->Option K6):Px R:=pxO [(328,cA Aby),(288,Ak B8 B9 An),(293,Ak Fo Fj rf)] [] [] []
def Jq(rf:Lb->Option K6)(x:Lb):Option (K6):=match x with
 |(e,out) =>
 cond (decide (e.kind=1)) (
  (An ([(L4 e.v)],out)).bind λx =>
  some x) (
  cond (decide (e.kind=2)) (
  (An ([e.name],out)).bind λx1 =>some x1) (
  (An ([[40]],out)).bind λx2 =>
   cond (decide (e.kind=3)) (
   (An ([[78,79,84,32]],x2)).bind λx3 =>
    chk (inb 0 e.l.length) (
    (rf ((at' .expr e.l 0),x3)).bind λx4 =>
     (An ([[41]],x4)).bind λa =>
     some a)) (
   cond (decide (e.kind=15)) (
    (An ([[45]],x2)).bind λx5 =>
    chk (inb 0 e.l.length) (
     (rf ((at' .expr e.l 0),x5)).bind λx6 =>
     (An ([[41]],x6)).bind λb =>some b)) (
    cond (decide (e.kind=16)) (
    chk (inb 0 e.l.length) (
     (rf ((at' .expr e.l 0),x2)).bind λx7 =>
     (An ([[32,73,83,32,78,85,76,76]],x7)).bind λx8 =>
      (An ([[41]],x8)).bind λc =>
      some c)) (
    chk (inb 0 e.l.length) (
     (rf ((at' .expr e.l 0),x2)).bind λx9 =>
     (An ([[32],(V1 signsL e.kind),[32]],x9)).bind λd =>
      chk (inb 1 e.l.length) (
      (rf ((at' .expr e.l 1),d)).bind λf =>
       (An ([[41]],f)).bind λg =>
       some g)))))))
theorem Bem(rf:Lb->Option K6)(hrf:FM 293 Fo Fj rf):FM 293 Fo Fj (Jq rf):=fRL (px:=Bqv _ rf) (n:=0) Tryz.func293 rfl (λ_ H=>⟨lv H (c1 H Atl (l1 H Cq (l1 H hrf Ae))) Aa Ab,Ai⟩) λ(_,_)=>by kernel_rfl
def B0a(e:Xpr)(out:Str):Option Str:=cond (okx e) (app out (etx e)) none
def E6:Lb->Option K6:=λx=>B0a x.1 x.2
theorem Aqy:∀(n:Nat) (e:Xpr) (out:Str),BdExpr e->C5 e<=n->okx e=true->Aj (V:=Lb) (R:=K6) Jq n (e,out)=app out (etx e)
 |0,e,_,_,h,_=>by have:=Ng e;omega
 |n+1,e,out,hb,h,hok=>by
  obtain⟨hb4,hb5⟩:=Ari hb;rw[R6] at h;have hrf:∀x,x∈e.l->okx x=true->∀out:Str,Aj (V:=Lb) (R:=K6) Jq n (x,out)=app out (etx x):=λx hx ho out=>Aqy n x out (hb5 x hx) (by have:=Ef hx;omega) ho;rw[A0,Bx5];rw[Bys] at hok;simp only[Jq,ww];by_cases h1:e.kind=1
  ·rw[Ze1 h1,if_pos h1,Ah,Ur];simp
  by_cases h2:e.kind=2
  ·rw[Zd1 h1,Ze1 h2,if_neg h1,if_pos h2,Af,Ah,Ur];simp
  rw[Zd1 h1,Zd1 h2,if_neg h1,if_neg h2,Af,Af];rw[if_neg (by omega)] at hok;cases hl:e.l with
  |nil=>rw[hl] at hok;cases hok
  |cons x l =>
   rw[hl] at hok hrf;simp only[okxs,Zb1] at hok;have hx:=hrf x Zr1 hok.1;have e0:at' .expr (x::l) 0=x:=rfl;have i0:inb 0 (x::l).length=true:=Au (i:=0) (by simp);simp only[e0,i0,hx,chk,Ah,etxs];by_cases h3:e.kind=3
   ·rw[Ze1 h3,if_pos h3];simp only[Ah,Ct,Ur,Gx,Zz1,List.flatten_nil,List.append_nil,Zj1]
   by_cases h15:e.kind=15
   ·rw[Zd1 h3,Ze1 h15,if_neg h3,if_pos h15];simp only[Ah,Af,Ct,Ur,Gx,Zz1,List.flatten_nil,List.append_nil,Zj1]
   by_cases h16:e.kind=16
   ·rw[Zd1 h3,Zd1 h15,Ze1 h16,if_neg h3,if_neg h15,if_pos h16];simp only[Ah,Af,Ct,Ur,Gx,Zz1,List.flatten_nil,List.append_nil,Zj1]
   rw[Zd1 h3,Zd1 h15,Zd1 h16,if_neg h3,if_neg h15,if_neg h16];rw[if_neg (by omega)] at hok;cases l with|nil=>exact absurd hok.2 (by simp[okx1])|cons y l =>have hy:=hrf y (by simp) hok.2;have e1:at' .expr (x::y::l) 1=y:=rfl;have i1:inb 1 (x::y::l).length=true:=Au (i:=1) (by simp);simp only[e1,i1,hy,Ah,Af,etx1];simp only[Ur,Gx,Zz1,List.flatten_nil,List.append_nil,Zj1,sgn]
theorem Q5:FM 293 Fo Fj E6:=by refine .fin (ι:=Nat) (sg:=Fo) (so:=Fj) 0 (F:=λn=>Aj (V:=Lb) (R:=K6) Jq n) (λn=>FnLn.rec' (Sx.enters_of Tryz.func293 rfl rfl) (λrf hrf=>Bem rf hrf) n) λ(e,out) r hb hx=>⟨C5 e,?_⟩;have hx:cond (okx e) (app out (etx e)) none=some r:=hx;cases hok:okx e with|false=>rw[hok] at hx;cases hx|true =>rw[hok] at hx;exact(Aqy (C5 e) e out hb.1 (Zn1 _) hok).trans hx
theorem we{e:Xpr}(h:okx e=true)(out:Str):E6 (e,out)=app out (etx e):=by show cond (okx e) _ _=_;rw[h];rfl
theorem Cw{R:Type}{out t:Str}{f g:Str->Option R}(h:∀x:Str,x.length<=260000000000->f x=g x):(app out t).bind f=(app out t).bind g:=by cases hx:app out t with|none=>rfl|some x=>exact h x (Awb hx).1
theorem Nt{R:Type}(i:Nat)(acc t:Str)(c:Str->Option R):cond (decide ((0:Int)<(i:Int))) ((app acc [44,32]).bind λx=>(app x t).bind c) ((app acc t).bind c)=(app acc ((if i=0 then [] else [44,32])++t)).bind c:=by
 by_cases h:i=0
 ·grind
 ·rw[Ze1 (by omega),if_neg h,Ah,Ct]
theorem fl1(a:Str):([a]:List Str).flatten=a:=by simp
theorem fl2(a b:Str):([a,b]:List Str).flatten=a++b:=by simp
theorem fl3(a b c:Str):([a,b,c]:List Str).flatten=a++(b++c):=by simp
theorem fl5(a b c d e:Str):([a,b,c,d,e]:List Str).flatten=a++(b++(c++(d++e))):=by simp
theorem Bna{V R α:Type}{step:(V->Option R)->V->Option R}(l:List α)(f : α->Str)(st:Nat->Str->V)(c:Str->Option R)
  (hs:∀i (hi:i<l.length) (acc:Str) rec,step rec (st i acc)=(app acc (f l[i])).bind λx=>rec (st (i+1) x))
  (he:∀acc rec,step rec (st l.length acc)=c acc) (k:Nat) (hk:l.length<k) (out:Str) (ho:out.length<=260000000000):Aj step k (st 0 out)=(app out (l.map f).flatten).bind c:=by
 refine(H0 l.length st (λ_ acc=>acc.length<=260000000000) (λi acc=>(app acc ((l.drop i).map f).flatten).bind c) (λi hi acc ha rec hr =>?_) (λacc ha rec =>?_) k 0 out (Nat.zero_le _) (by omega) ho).trans (by rw[Zq1])
 ·rw[hs i hi acc rec,Ay hi,Zw1,Zz1,<-Ct];exact Cw λx hx=>hr x hx
 ·rw[he,Zc2,List.map_nil,List.flatten_nil,Ai6 ha];rfl
theorem B0u{out r:Str}(h:app out []=some r):some out=some r:=by have:=(Awb h).2;rw[List.append_nil] at this;rw[this]
def Avu(l:List Str):Bool:=decide (l.length<=1000000)&&decide ((Lib.join l [44,32]).length<=1000000000)
def nmT(l:List Str):Str:=[40]++(Lib.join l [44,32]++[41])
def Vr:Sig:=⟨2,[(1,.sl .str false)],[(0,.ptr 0 0)],[(0,.bld 352)],1,1,0,[],[]⟩
def Ug:Sig:=⟨0,[],[],[(0,.bld 352)],1,1,0,[],[]⟩
abbrev A32:=List Str×List UInt8
abbrev A02:=List UInt8
def Bh0(R:Type):Px R:=pxO [(327,cA Avh),(288,Ak B8 B9 An)] [] [] []
def Q1(x:A32):Option (A02):=match x with
 |(l,out) =>
 (Bbs l [44,32]).bind λx =>
  (An ([[40],x,[41]],out)).bind λx1 =>
  some x1
theorem A5p:FM 289 Vr Ug (Q1):=fRL (px:=Bh0 _) (n:=0) Tryz.func289 rfl (λ_ H=>⟨lv H (c1 H Bqz (l1 H Cq Ae)) Aa Ab,Ai⟩) λ(_,_)=>by kernel_rfl
def Bzr(l:List Str)(out:Str):Option Str:=cond (Avu l) (app out (nmT l)) none
def Mf:A32->Option A02:=λx=>Bzr x.1 x.2
theorem Bry(l:List Str)(out:Str)(h:Avu l=true):Q1 (l,out)=app out (nmT l):=by simp[Avu] at h;have hj:Bbs l [44,32]=some (Lib.join l [44,32]):=if_pos h;simp[Q1,hj];rfl
theorem Aqu:FM 289 Vr Ug Mf :=.fin0 A5p λ(l,out) r hb hx=>by have hx:cond (Avu l) (app out (nmT l)) none=some r:=hx;cases ho:Avu l with|false=>rw[ho] at hx;cases hx|true =>rw[ho] at hx;exact(Bry l out ho).trans hx
theorem wn{l:List Str}(h:Avu l=true)(out:Str):Mf (l,out)=app out (nmT l):=by show cond (Avu l) _ _=_;rw[h];rfl
def Ay2(c:Col):Str:=c.name++([32]++at' .str Avg c.kind)++cond c.notNull [32,78,79,84,32,78,85,76,76] []++cond c.unique [32,85,78,73,81,85,69] []++cond (decide (c.ref=[])) [] ([32,82,69,70,69,82,69,78,67,69,83,32]++c.ref)
def Aya:Sig:=⟨2,[(1,.sv .col)],[(0,.ptr 0 0)],[(0,.bld 352)],1,1,0,[],[]⟩
def Ax2:Sig:=⟨0,[],[],[(0,.bld 352)],1,1,0,[],[]⟩
abbrev Bnz:=Col×List UInt8
abbrev Bj6:=List UInt8
def Bwo(R:Type):Px R:=pxO [(288,Ak B8 B9 An)] [] [] []
def Afm(x:Bnz):Option (Bj6):=match x with
 |(c,out) =>
 chk (inb c.kind 6) (
  (An ([c.name,[32],(at' .str Avg c.kind)],out)).bind λx =>
  let j1:=λ(q:List UInt8) =>
   let j:=λ(q1:List UInt8) =>
   cond (!decide (c.ref=[])) (
    (An ([[32,82,69,70,69,82,69,78,67,69,83,32],c.ref],q1)).bind λx3 =>
    some x3) (
    some q1)
   cond (c.unique) (
   (An ([[32,85,78,73,81,85,69]],q)).bind λx2 =>j x2) (
   j q)
  cond (c.notNull) (
   (An ([[32,78,79,84,32,78,85,76,76]],x)).bind λx1 =>
   j1 x1) (
   j1 x))
theorem Brg:FM 325 Aya Ax2 (Afm):=fRL (px:=Bwo _) (n:=0) Tryz.func325 rfl (λ_ H=>⟨lv H (l1 H Cq Ae) Aa Ab,Ai⟩) λ(_,_)=>by kernel_rfl
def B00(c:Col)(out:Str):Option Str:=cond (inb c.kind 6) (app out (Ay2 c)) none
def Axw:Bnz->Option Bj6:=λx=>B00 x.1 x.2
theorem Bzb(c:Col)(out:Str)(h:inb c.kind 6=true):Afm (c,out)=app out (Ay2 c):=by simp only[Afm,h,chk,ww,Ay2];cases c.notNull<;>cases c.unique<;>cases decide (c.ref=[])<;>simp[ Gx]
theorem Buz:FM 325 Aya Ax2 Axw :=.fin0 Brg λ(c,out) r hb hx=>by have hx:cond (inb c.kind 6) (app out (Ay2 c)) none=some r:=hx;cases ho:inb c.kind 6 with|false=>rw[ho] at hx;cases hx|true =>rw[ho] at hx;exact(Bzb c out ho).trans hx
theorem wc{c:Col}(h:inb c.kind 6=true)(out:Str):Axw (c,out)=app out (Ay2 c):=by show cond (inb c.kind 6) _ _=_;rw[h];rfl
def whT(s:Stm):Str:=cond s.has ([32,87,72,69,82,69,32]++etx s.whr) []
def okW(s:Stm):Bool := !s.has||okx s.whr
def Tm:Sig:=⟨2,[(1,.sv .stmt)],[(0,.ptr 0 0)],[(0,.bld 352)],1,1,0,[],[]⟩
def Tf:Sig:=⟨0,[],[],[(0,.bld 352)],1,1,0,[],[]⟩
abbrev Ayy:=Stm×List UInt8
abbrev Az5:=List UInt8
def Bha(R:Type):Px R:=pxO [(288,Ak B8 B9 An),(293,Ak Fo Fj E6)] [] [] []
def S5(x:Ayy):Option (Az5):=match x with
 |(s,out) =>
 cond (s.has) (
  (An ([[32,87,72,69,82,69,32]],out)).bind λx =>
  (E6 ((Qf s.whr),x)).bind λx1 =>some x1) (
  some out)
theorem A8s:FM 295 Tm Tf (S5):=fRL (px:=Bha _) (n:=0) Tryz.func295 rfl (λ_ H=>⟨lv H (l1 H Cq (l1 H Q5 Ae)) Aa Ab,Ai⟩) λ(_,_)=>by kernel_rfl
def By2(s:Stm)(out:Str):Option Str:=cond (okW s) (app out (whT s)) none
def G5:Ayy->Option Az5:=λx=>By2 x.1 x.2
theorem Bk7(s:Stm)(out r:Str)(h:okW s=true)(hr:app out (whT s)=some r):S5 (s,out)=some r:=by simp only[okW] at h;simp[whT] at hr;simp[S5,T2,ww];cases hs:s.has with|false =>rw[hs] at hr;exact B0u hr|true =>rw[hs] at h hr;simp[we (show okx s.whr=true from h),Gx];exact hr
theorem Atm:FM 295 Tm Tf G5 :=.fin0 A8s λ(s,out) r hb hx=>by have hx:cond (okW s) (app out (whT s)) none=some r:=hx;cases ho:okW s with|false=>rw[ho] at hx;cases hx|true =>rw[ho] at hx;exact Bk7 s out r ho hx
theorem wh{s:Stm}(h:okW s=true)(out:Str):G5 (s,out)=app out (whT s):=by show cond (okW s) _ _=_;rw[h];rfl
def Bv4(e:Xpr):Str:=[44,32,67,72,69,67,75,32]++cond (decide (parts e.kind=0)) ([40]++(etx e++[41])) (etx e)
def Adm(s:Stm):Str:=[67,82,69,65,84,69,32,84,65,66,76,69,32]++(s.name++[32,40])++G9 Ay2 s.cols++[44,32,80,82,73,77,65,82,89,32,75,69,89,32]++nmT s.names++(s.l.map Bv4).flatten++[41]
def okT(s:Stm):Bool:=s.cols.all (λc=>inb c.kind 6)&&Avu s.names&&s.l.all okx
def Ki(s:Stm):Nat:=s.cols.length+s.l.length+s.order.length+s.rows.length+s.sets.length+(s.rows.map List.length).sum+1
def Ae1:Sig:=⟨2,[(1,.sv .stmt)],[(0,.ptr 0 0)],[(0,.bld 352)],1,1,0,[],[]⟩
def Adq:Sig:=⟨0,[],[],[(0,.bld 352)],1,1,0,[],[]⟩
abbrev A2y:=Stm×List UInt8
abbrev S1:=List UInt8
def Ah8:Sig:=⟨54,[(25,.sl .expr false),(26,.int .i64),(27,.int .i64)],[(2,.ptr 1 0)],[(0,.bld 352),(1,.fx [.ptr 0 0])],2,1,0,[],[]⟩
abbrev Zs:=List Xpr×Int×Int×List UInt8
def Sv{R:Type}(rec:Zs->Option R)(kx:Ex->Zs->Option R)(v:Zs):Option R:=match v with
 |(v6,v7,v8,w2) =>
 cond (decide (v8<v7)) (
  chk (inb v8 v6.length) (
  (An ([[44,32,67,72,69,67,75,32]],w2)).bind λx5 =>
   cond (decide ((parts ((at' .expr v6 v8).kind))=0)) (
   (An ([[40]],x5)).bind λx6 =>
    (E6 ((at' .expr v6 v8),x6)).bind λx7 =>
    (An ([[41]],x7)).bind λx8 =>rec (v6,v7,(wr .i64 (v8+1)),x8)) (
   (E6 ((at' .expr v6 v8),x5)).bind λx9 =>rec (v6,v7,(wr .i64 (v8+1)),x9)))) (
  kx (.exit 0) (v6,v7,v8,w2))
def Ahg:Sig:=⟨20,[(7,.int .i64),(8,.int .i64)],[(0,.ptr 0 0),(2,.fn 324 [.ptr 1 0,.ptr 2 0])],[(0,.bld 352),(1,.fx [.ptr 0 0]),(2,.one (.sv .stmt))],80,80,400,[],[]⟩
abbrev Yp:=Int×Int×List UInt8×Stm
def Sl{R:Type}(rec:Yp->Option R)(kx:Ex->Yp->Option R)(v:Yp):Option R:=match v with
 |(v,v1,w,w1) =>
 cond (decide (v1<v)) (
  let j:=λ(q:List UInt8) =>
  chk (inb v1 w1.cols.length) (
   (Axw ((at' .col w1.cols v1),q)).bind λx2 =>
   rec (v,(wr .i64 (v1+1)),x2,w1))
  cond (decide (0<v1)) (
  (An ([[44,32]],w)).bind λx1 =>j x1) (
  j w)) (
  kx (.exit 0) (v,v1,w,w1))
def Wi(R:Type)(_k:Nat):Px R:=pxO [(325,Ak Aya Ax2 Axw)] [] [] []
noncomputable def Ah0(R:Type)(k:Nat):Px R:=pxO [(288,Ak B8 B9 An),(324,Aw 120 600 (Wi R k) Tryz.f324)] [] [(1,Al k Ahg (Sl))] []
noncomputable def Atk(R:Type)(k:Nat):Px R:=pxO [(288,Ak B8 B9 An),(289,Ak Vr Ug Mf),(185,cA Axn),(293,Ak Fo Fj E6),(290,Aw 80 400 (Ah0 R k) Tryz.f290)] [] [(6,Al k Ah8 (Sv))] []
def Q6(k:Nat)(x:A2y):Option (S1):=match x with
 |(s,out) =>
 (An ([[67,82,69,65,84,69,32,84,65,66,76,69,32],s.name,[32,40]],out)).bind λx =>
  Aj (λrec=>Sl rec (λe vz=>match vz with|(_,_,v4,v5)=>match e with
  |.exit 0 =>
   (An ([[44,32,80,82,73,77,65,82,89,32,75,69,89,32]],v4)).bind λx3 =>
   (Mf (v5.names,x3)).bind λx4 =>
    Aj (λrec=>Sv rec (λe vz=>match vz with|(_,_,_,a)=>match e with
    |.exit 0 =>
     (An ([[41]],a)).bind λb =>
     some b
    |_=>none)) k (v5.l,(v5.l.length:Int),0,x4)
  |_=>none)) k ((s.cols.length:Int),0,x,s)
theorem A76(k:Nat):FM 287 Ae1 Adq (Q6 k):=fRL (px:=Atk _ k) (n:=1) Tryz.func287 rfl (λcx H=>by have h2:Lv cx (Wi (S1) k):=lv H (l1 H Buz Ae) Aa Ab;have h1:Lv cx (Ah0 (S1) k):=lv H (l1 H Cq (Am (cR H h2 Tryz.func324 rfl (n:=0) (Ai)) Ae)) Aa Ab;have hlwtable_0:=lO H h1 (b:=lp Tryz.f290 0) (k:=k) (n:=0) (s:=Ahg) (step:=Sl) (λ_ _ _ (_,_,_,_)=>by kernel_rfl) Ai;have h0:Lv cx (Atk (S1) k):=lv H (l1 H Cq (l1 H Aqu (c1 H Ayu (l1 H Q5 (Am (cR H h1 Tryz.func290 rfl (n:=1) ((A2 Ai hlwtable_0))) Ae))))) Aa Ab;have hlwtable_1:=lO H h0 (b:=lp Tryz.f287 0) (k:=k) (n:=0) (s:=Ah8) (step:=Sv) (λ_ _ _ (_,_,_,_)=>by kernel_rfl) Ai;exact⟨h0,(A2 Ai hlwtable_1)⟩) λ(_,_)=>by kernel_rfl
def Bxv(s:Stm)(out:Str):Option Str:=cond (okT s) (app out (Adm s)) none
def Aa9:A2y->Option S1:=λx=>Bxv x.1 x.2
theorem Bp9(k:Nat)(s:Stm)(out:Str)(hb:BdStm s)(h:okT s=true)(hk:Ki s<=k):Q6 k (s,out)=app out (Adm s):=by
 simp only[okT,Zb1] at h;obtain⟨⟨h1,h2⟩,h3⟩:=h;simp[Ki] at hk;have hl:=Zg2.1 h3;simp only[Q6,ww,fl3];refine(Cw λx hx=>(I8 s.cols Ay2 (λi acc=>((s.cols.length:Int),(i:Int),acc,s)) (λacc=>(app acc ([44,32,80,82,73,77,65,82,89,32,75,69,89,32]++nmT s.names)).bind λx=>(app x (s.l.map Bv4).flatten).bind λx=>app x [41]) (λi hi acc rec =>?_) (λacc rec =>?_) k (by omega) x hx)).trans ?_
 ·simp only[Sl,Cb hi,Au hi,Aq (c :=.col) hi,wc ((Zg2.1 h1) _ (List.getElem_mem hi)),Ao hi hb.cols.1,ww];exact Nt i acc (Ay2 s.cols[i]) _
 ·simp[Sl,ww,fl1,wn h2];rw[Ct];refine Cw λx hx=>Bna s.l Bv4 (λi acc=>(s.l,(s.l.length:Int),(i:Int),acc)) (λacc=>app acc [41]) (λi hi acc rec =>?_) (λacc rec =>?_) k (by omega) x hx
  ·simp only[Sv,Cb hi,Au hi,chk,Aq (c :=.expr) hi,we (hl _ (List.getElem_mem hi)),Ao hi hb.l.1,ww,fl1,Bv4];cases decide (parts s.l[i].kind=0) with|true=>simp[ Ct]|false=>simp[ Ct]
  ·simp[Sv,ww,fl1]
 ·simp[Gx,Adm]
theorem Bfe:FM 287 Ae1 Adq Aa9 :=.fin 0 A76 λ(s,out) r hb hx=>⟨Ki s,by
 have hx:cond (okT s) (app out (Adm s)) none=some r:=hx;cases ho:okT s with
 |false=>rw[ho] at hx;cases hx
 |true =>rw[ho] at hx;exact(Bp9 (Ki s) s out hb.1 ho (Zn1 _)).trans hx⟩
theorem wt{s:Stm}(h:okT s=true)(out:Str):Aa9 (s,out)=app out (Adm s):=by show cond (okT s) _ _=_;rw[h];rfl
def A7m(p:Str×Bool):Str:=p.1++cond p.2 [32,68,69,83,67] []
def Be8(s:Stm):Str:=cond (decide (0<=s.most)) ([32,76,73,77,73,84,32]++L4 ⟨3,s.most,[]⟩) []
def obT(s:Stm):Str:=cond (decide (0<(s.order.length:Int))) [32,79,82,68,69,82,32,66,89,32] []
def Biu(s:Stm):Str:=[83,69,76,69,67,84,32]++cond (decide ((s.l.length:Int)=0)) [42] []++G9 etx s.l++([32,70,82,79,77,32]++s.name)++whT s++obT s++G9 A7m (s.order.zip s.desc)++Be8 s
def okS(s:Stm):Bool:=s.l.all okx&&okW s&&decide (s.desc.length=s.order.length)
def Y2:Sig:=⟨2,[(1,.sv .stmt)],[(0,.ptr 0 0)],[(0,.bld 352)],1,1,0,[],[]⟩
def Yy:Sig:=⟨0,[],[],[(0,.bld 352)],1,1,0,[],[]⟩
abbrev Atc:=Stm×List UInt8
abbrev E5:=List UInt8
def Aam:Sig:=⟨20,[(7,.int .i64),(8,.int .i64)],[(0,.ptr 0 0),(2,.fn 330 [.ptr 1 0,.ptr 2 0])],[(0,.bld 352),(1,.fx [.ptr 0 0]),(2,.one (.sv .stmt))],80,80,600,[],[]⟩
abbrev Lh:=Int×Int×List UInt8×Stm
def Ga{R:Type}(rec:Lh->Option R)(kx:Ex->Lh->Option R)(v:Lh):Option R:=match v with
 |(v6,v7,w2,w3) =>
 cond (decide (v7<v6)) (
  let j1:=λ(q3:List UInt8) =>
  chk (inb v7 w3.order.length) (
   (An ([(at' .str w3.order v7)],q3)).bind λx8 =>
   chk (inb v7 w3.desc.length) (
    cond ((at' .bool w3.desc v7)) (
    (An ([[32,68,69,83,67]],x8)).bind λx9 =>rec (v6,(wr .i64 (v7+1)),x9,w3)) (
    rec (v6,(wr .i64 (v7+1)),x8,w3))))
  cond (decide (0<v7)) (
  (An ([[44,32]],w2)).bind λx7 =>j1 x7) (
  j1 w2)) (
  kx (.exit 0) (v6,v7,w2,w3))
def Abb:Sig:=⟨20,[(7,.int .i64),(8,.int .i64)],[(0,.ptr 0 0),(2,.fn 329 [.ptr 1 0,.ptr 2 0])],[(0,.bld 352),(1,.fx [.ptr 0 0]),(2,.one (.sv .stmt))],80,80,400,[],[]⟩
abbrev K9:=Int×Int×List UInt8×Stm
def Ja{R:Type}(rec:K9->Option R)(kx:Ex->K9->Option R)(v:K9):Option R:=match v with
 |(v,v1,w,w1) =>
 cond (decide (v1<v)) (
  let j:=λ(q1:List UInt8) =>
  chk (inb v1 w1.l.length) (
   (E6 ((at' .expr w1.l v1),q1)).bind λx3 =>
   rec (v,(wr .i64 (v1+1)),x3,w1))
  cond (decide (0<v1)) (
  (An ([[44,32]],w)).bind λx2 =>j x2) (
  j w)) (
  kx (.exit 0) (v,v1,w,w1))
def Qi(R:Type)(_k:Nat):Px R:=pxO [(293,Ak Fo Fj E6)] [] [] []
noncomputable def Acc(R:Type)(k:Nat):Px R:=pxO [(288,Ak B8 B9 An),(329,Aw 120 600 (Qi R k) Tryz.f329)] [] [(1,Al k Abb (Ja))] []
def S3(R:Type)(_k:Nat):Px R:=pxO [(288,Ak B8 B9 An)] [] [] []
noncomputable def Aah(R:Type)(k:Nat):Px R:=pxO [(288,Ak B8 B9 An),(330,Aw 120 800 (S3 R k) Tryz.f330)] [] [(1,Al k Aam (Ga))] []
noncomputable def Anu(R:Type)(k:Nat):Px R:=pxO [(288,Ak B8 B9 An),(295,Ak Tm Tf G5),(290,Adh 80 400 (Acc R k) Tryz.f290 (Aw 80 600 (Aah R k) Tryz.f290))] [(328,qA Aby)] [] []
def Ot(k:Nat)(x:Atc):Option (E5):=match x with
 |(s,out) =>
 (An ([[83,69,76,69,67,84,32]],out)).bind λx =>
  let j3:=λ(q:List UInt8) =>
  Aj (λrec=>Ja rec (λe vz=>match vz with|(_,_,v4,v5)=>match e with
   |.exit 0 =>
   (An ([[32,70,82,79,77,32],v5.name],v4)).bind λx4 =>
    (G5 (v5,x4)).bind λx5 =>
    let j2:=λ(q2:List UInt8) =>
     Aj (λrec=>Ga rec (λe vz=>match vz with|(_,_,a,b)=>match e with
     |.exit 0 =>
      cond (decide (0<=b.most)) (
      (An ([[32,76,73,77,73,84,32],(L4 (Val.mk 3 b.most []))],a)).bind λc =>some c) (
      some a)
     |_=>none)) k ((v5.order.length:Int),0,q2,v5)
    cond (decide (0<(v5.order.length:Int))) (
     (An ([[32,79,82,68,69,82,32,66,89,32]],x5)).bind λx6 =>
     j2 x6) (
     j2 x5)
   |_=>none)) k ((s.l.length:Int),0,q,s)
  cond (decide ((s.l.length:Int)=0)) (
  (An ([[42]],x)).bind λx1 =>j3 x1) (
  j3 x)
theorem A0i(k:Nat):FM 296 Y2 Yy (Ot k):=fRL (px:=Anu _ k) (n:=0) Tryz.func296 rfl (λcx H=>by have h2:Lv cx (Qi (E5) k):=lv H (l1 H Q5 Ae) Aa Ab;have h1:Lv cx (Acc (E5) k):=lv H (l1 H Cq (Am (cR H h2 Tryz.func329 rfl (n:=0) (Ai)) Ae)) Aa Ab;have hlwchosen_0:=lO H h1 (b:=lp Tryz.f290 0) (k:=k) (n:=0) (s:=Abb) (step:=Ja) (λ_ _ _ (_,_,_,_)=>by kernel_rfl) Ai;have h4:Lv cx (S3 (E5) k):=lv H (l1 H Cq Ae) Aa Ab;have h3:Lv cx (Aah (E5) k):=lv H (l1 H Cq (Am (cR H h4 Tryz.func330 rfl (n:=0) (Ai)) Ae)) Aa Ab;have hlwchosen_1:=lO H h3 (b:=lp Tryz.f290 0) (k:=k) (n:=0) (s:=Aam) (step:=Ga) (λ_ _ _ (_,_,_,_)=>by kernel_rfl) Ai;have h0:Lv cx (Anu (E5) k):=lv H (l1 H Cq (l1 H Atm (Am (Bms (cR H h1 Tryz.func290 rfl (n:=1) ((A2 Ai hlwchosen_0))) (cR H h3 Tryz.func290 rfl (n:=1) ((A2 Ai hlwchosen_1)))) Ae))) (q1 H Atl Aa) Ab;exact⟨h0,Ai⟩) λ(_,_)=>by kernel_rfl
def Btv(s:Stm)(out:Str):Option Str:=cond (okS s) (app out (Biu s)) none
def Tg:Atc->Option E5:=λx=>Btv x.1 x.2
theorem Akm{R:Type}{b:Bool}{out t:Str}{c:Str->Option R}(ho:out.length<=260000000000):cond b ((app out t).bind c) (c out)=(app out (cond b t [])).bind c:=by cases b with|true=>rfl|false=>rw[Af,Af,Ai6 ho];rfl
theorem Beo(k:Nat)(s:Stm)(out:Str)(hb:BdStm s)(h:okS s=true)(hk:Ki s<=k):Ot k (s,out)=app out (Biu s):=by
 simp only[okS,Zb1,Zg1] at h;obtain⟨⟨h1,h2⟩,h3⟩:=h;simp[Ki] at hk;have hz:(s.order.zip s.desc).length=s.order.length:=by rw[List.length_zip];omega
 have hend:∀x:Str,x.length<=260000000000->cond (decide (0<=s.most)) (app x ([32,76,73,77,73,84,32]++L4 ⟨3,s.most,[]⟩)) (some x)=app x (Be8 s):=λx hx=>by simp[Be8];cases decide (0<=s.most) with|true=>rfl|false=>rw[Af,Af,Ai6 hx]
 have hord:∀(kx:Ex->Lh->Option E5),(∀acc,kx (.exit 0) ((s.order.length:Int),(s.order.length:Int),acc,s)=cond (decide (0<=s.most)) (app acc ([32,76,73,77,73,84,32]++L4 ⟨3,s.most,[]⟩)) (some acc))->∀x:Str,x.length<=260000000000 ->
   Aj (λrec=>Ga rec kx) k ((s.order.length:Int),0,x,s)=(app x (G9 A7m (s.order.zip s.desc))).bind λx=>app x (Be8 s):=λkx hkx x hx=>by
  refine(I8 (s.order.zip s.desc) A7m (λi acc=>((s.order.length:Int),(i:Int),acc,s)) (λacc=>cond (decide (0<=s.most)) (app acc ([32,76,73,77,73,84,32]++L4 ⟨3,s.most,[]⟩)) (some acc)) (λi hi acc rec =>?_) (λacc rec =>?_) k (by omega) x hx).trans (Cw hend)
  ·have hi1:i<s.order.length:=by omega
   have hi2:i<s.desc.length:=by omega
   have hg:(s.order.zip s.desc)[i]=(s.order[i],s.desc[i]):=by simp
   simp only[Ga,Cb hi1,Ah,Au hi1,Au hi2,chk,Aq (c :=.str) hi1,Aq (c :=.bool) hi2,Ao hi1 hb.order.1,ww,fl1,hg];have hitem:∀q:Str,((app q s.order[i]).bind λx8=>cond s.desc[i] ((app x8 [32,68,69,83,67]).bind λx9=>rec ((s.order.length:Int),((i+1:Nat):Int),x9,s)) (rec ((s.order.length:Int),((i+1:Nat):Int),x8,s)))=(app q (A7m (s.order[i],s.desc[i]))).bind λx=>rec ((s.order.length:Int),((i+1:Nat):Int),x,s):=λq=>by simp[A7m];rw[<-Ct];exact Cw λx hx=>Akm hx
   simp only[hitem];exact Nt i acc _ _
  ·rw[hz];simp[Ga,hkx]
 simp only[Ot,ww,fl2];have hsel:∀(kx:Ex->K9->Option E5),(∀acc:Str,acc.length<=260000000000->kx (.exit 0) ((s.l.length:Int),(s.l.length:Int),acc,s)=app acc (([32,70,82,79,77,32]++s.name)++whT s++obT s++G9 A7m (s.order.zip s.desc)++Be8 s))->∀x:Str,x.length<=260000000000 ->
   Aj (λrec=>Ja rec kx) k ((s.l.length:Int),0,x,s)=app x (G9 etx s.l++(([32,70,82,79,77,32]++s.name)++whT s++obT s++G9 A7m (s.order.zip s.desc)++Be8 s)):=λkx hkx x hx=>by
  refine(I8 s.l etx (λi acc=>((s.l.length:Int),(i:Int),acc,s)) (λacc=>kx (.exit 0) ((s.l.length:Int),(s.l.length:Int),acc,s)) (λi hi acc rec =>?_) (λacc rec =>?_) k (by omega) x hx).trans ((Cw hkx).trans (Gx _ _ _))
  ·simp only[Ja,Cb hi,Au hi,Aq (c :=.expr) hi,we ((Zg2.1 h1) _ (List.getElem_mem hi)),Ao hi hb.l.1];exact Nt i acc _ _
  ·simp[Ja]
 refine(Cw λx hx=>(Akm hx).trans (Cw λq hq=>hsel _ (λacc ha =>?_) q hq)).trans ?_
 ·show((app acc ([32,70,82,79,77,32]++s.name)).bind λx4=>(G5 (s,x4)).bind λx5=>cond (decide (0<(s.order.length:Int))) ((app x5 [32,79,82,68,69,82,32,66,89,32]).bind λx6=>Aj (λrec=>Ga rec _) k ((s.order.length:Int),0,x6,s)) (Aj (λrec=>Ga rec _) k ((s.order.length:Int),0,x5,s)))=_;simp only[wh h2];rw[Ct];refine(Cw λx5 hx5=>(Akm hx5).trans (Cw λy hy=>hord _ (λ_ =>?_) y hy)).trans ?_
  ·simp
  ·simp[Gx,obT]
 ·simp[Gx,Biu]
theorem A8k:FM 296 Y2 Yy Tg :=.fin 0 A0i λ(s,out) r hb hx=>⟨Ki s,by
 have hx:cond (okS s) (app out (Biu s)) none=some r:=hx;cases ho:okS s with
 |false=>rw[ho] at hx;cases hx
 |true =>rw[ho] at hx;exact(Beo (Ki s) s out hb.1 ho (Zn1 _)).trans hx⟩
theorem ws{s:Stm}(h:okS s=true)(out:Str):Tg (s,out)=app out (Biu s):=by show cond (okS s) _ _=_;rw[h];rfl
def Bkd(r:List Xpr):Str:=[40]++(G9 etx r++[41])
def Bup(x:SetE):Str:=x.name++[32,61,32]++etx x.e
def A7h(s:Stm):Str :=
 if s.kind=1 then Adm s
 else if s.kind=2 then [68,82,79,80,32,84,65,66,76,69,32]++s.name
 else if s.kind=3 then [67,82,69,65,84,69,32,73,78,68,69,88,32]++(s.name++([32,79,78,32]++(s.on++[32])))++nmT s.names
 else if s.kind=4 then [68,82,79,80,32,73,78,68,69,88,32]++s.name
 else if s.kind=5 then [73,78,83,69,82,84,32,73,78,84,79,32]++(s.name++[32,86,65,76,85,69,83,32])++G9 Bkd s.rows
 else if s.kind=6 then [85,80,68,65,84,69,32]++(s.name++[32,83,69,84,32])++G9 Bup s.sets++whT s
 else if s.kind=7 then [68,69,76,69,84,69,32,70,82,79,77,32]++s.name++whT s
 else Biu s
def okP(s:Stm):Bool :=
 if s.kind=1 then okT s
 else if s.kind=2\/s.kind=4 then true
 else if s.kind=3 then Avu s.names
 else if s.kind=5 then s.rows.all λr=>r.all okx
 else if s.kind=6 then s.sets.all (λx=>okx x.e)&&okW s
 else if s.kind=7 then okW s
 else decide (s.kind=8)&&okS s
def Qq:Sig:=⟨20,[(7,.int .i64),(8,.int .i64)],[(0,.ptr 1 0),(2,.fn 294 [.ptr 1 0,.ptr 0 0])],[(0,.one (.sv .stmt)),(1,.bld 352)],40,40,200,[],[]⟩
abbrev F0:=Int×Int×Stm×List UInt8
def Ke{R:Type}(rec:F0->Option R)(kx:Ex->F0->Option R)(v:F0):Option R:=match v with
 |(b,a,w5,w6) =>
 cond (decide (a<b)) (
  let j2:=λ(q2:List UInt8) =>
  chk (inb a w5.sets.length) (
   (An ([((at' .set w5.sets a).name),[32,61,32]],q2)).bind λc =>
   chk (inb a w5.sets.length) (
    (E6 ((Qf ((at' .set w5.sets a).e)),c)).bind λd =>
    rec (b,(wr .i64 (a+1)),w5,d)))
  cond (decide (0<a)) (
  (An ([[44,32]],w6)).bind λf =>j2 f) (
  j2 w6)) (
  kx (.exit 0) (b,a,w5,w6))
def Ahl:Sig:=⟨20,[(7,.int .i64),(8,.int .i64)],[(0,.ptr 1 0),(2,.fn 292 [.ptr 1 0,.ptr 0 0,.ptr 80 0])],[(0,.one (.sv .stmt)),(1,.bld 352),(80,.cells [.int .i64])],120,120,600,[],[]⟩
abbrev N0:=Int×Int×Stm×List UInt8×Int
def Jj{R:Type}(rec:N0->Option R)(kx:Ex->N0->Option R)(v:N0):Option R:=match v with
 |(v2,v3,w2,w3,w4) =>
 cond (decide (v3<v2)) (
  let j:=λ(q1:List UInt8) =>
  chk (inb w4 w2.rows.length) (
   chk (inb v3 ((at' .exprs w2.rows w4).length)) (
   (E6 ((at' .expr (at' .exprs w2.rows w4) v3),q1)).bind λa =>rec (v2,(wr .i64 (v3+1)),w2,a,w4)))
  cond (decide (0<v3)) (
  (An ([[44,32]],w3)).bind λx9 =>j x9) (
  j w3)) (
  kx (.exit 0) (v2,v3,w2,w3,w4))
def Q2:Sig:=⟨20,[(7,.int .i64),(8,.int .i64)],[(0,.ptr 1 0),(2,.fn 291 [.ptr 1 0,.ptr 0 0])],[(0,.one (.sv .stmt)),(1,.bld 352)],40,40,200,[],[]⟩
abbrev F5:=Int×Int×Stm×List UInt8
def Jw{R:Type}(k:Nat)(rec:F5->Option R)(kx:Ex->F5->Option R)(v:F5):Option R:=match v with
 |(v,v1,w,w1) =>
 cond (decide (v1<v)) (
  let j1:=λ(q:List UInt8) =>
  (An ([[40]],q)).bind λx8 =>
   chk (inb v1 w.rows.length) (
   Aj (λrc=>Jj rc (λe vz=>match vz with|(_,_,v6,v7,_)=>match e with
    |.exit 0 =>
    (An ([[41]],v7)).bind λa =>rec (v,(wr .i64 (v1+1)),v6,a)
    |_=>none)) k (((at' .exprs w.rows v1).length:Int),0,w,x8,v1))
  cond (decide (0<v1)) (
  (An ([[44,32]],w1)).bind λx7 =>j1 x7) (
  j1 w1)) (
  kx (.exit 0) (v,v1,w,w1))
def Lg(R:Type)(_k:Nat):Px R:=pxO [(293,Ak Fo Fj E6)] [] [] []
noncomputable def Qb(R:Type)(k:Nat):Px R:=pxO [(288,Ak B8 B9 An),(292,Aw 160 800 (Lg R k) Tryz.f292)] [] [(1,Al k Ahl (Jj))] []
noncomputable def Wx(R:Type)(k:Nat):Px R:=pxO [(288,Ak B8 B9 An),(290,Aw 120 600 (Qb R k) Tryz.f290)] [] [] []
def Wo(R:Type)(_k:Nat):Px R:=pxO [(288,Ak B8 B9 An),(293,Ak Fo Fj E6)] [] [] []
noncomputable def H7(R:Type)(k:Nat):Px R:=pxO [(288,Ak B8 B9 An),(291,Aw 80 400 (Wx R k) Tryz.f291),(294,Aw 80 400 (Wo R k) Tryz.f294)] [] [(1,Aa2 k Q2 (Jw k) (Al k Qq (Ke)))] []
noncomputable def Arj(R:Type)(k:Nat):Px R:=pxO [(57,cA J7),(287,Ak Ae1 Adq Aa9),(288,Ak B8 B9 An),(289,Ak Vr Ug Mf),(295,Ak Tm Tf G5),(296,Ak Y2 Yy Tg),(297,Ak bstr_si Axc Ij),(290,Aw 40 200 (H7 R k) Tryz.f290)] [] [] []
theorem A1n(R:Type)(k:Nat):∀(fr:List Fr) (rec:F5->Option R) (kx:Ex->F5->Option R) (v:F5),P7 (H7 R k) Q2 (lp Tryz.f290 0) fr rec kx v=Jw k rec kx v
 |fr,rec,kx,(v,v1,w,w1)=>by kernel_rfl
theorem A1a(R:Type)(k:Nat):∀(fr:List Fr) (rec:F0->Option R) (kx:Ex->F0->Option R) (v:F0),P7 (H7 R k) Qq (lp Tryz.f290 0) fr rec kx v=Ke rec kx v
 |fr,rec,kx,(a,b,w5,w6)=>by kernel_rfl
def La(k:Nat)(x:HV [.sv .stmt]):Option (HV [.str,.int .i64]):=match x with
 |s =>
 (Jy s).bind λx =>
  cond (!decide (x=0)) (
  some ([],x)) (
  cond (decide (s.kind=1)) (
   (Aa9 (s,[])).bind λx1 =>
   (Ij x1).bind λa =>some (a,0)) (
   cond (decide (s.kind=2)) (
   (An ([[68,82,79,80,32,84,65,66,76,69,32],s.name],[])).bind λx2 =>
    (Ij x2).bind λb =>
    some (b,0)) (
   cond (decide (s.kind=3)) (
    (An ([[67,82,69,65,84,69,32,73,78,68,69,88,32],s.name,[32,79,78,32],s.on,[32]],[])).bind λx3 =>
    (Mf (s.names,x3)).bind λx4 =>
     (Ij x4).bind λc =>
     some (c,0)) (
    cond (decide (s.kind=4)) (
    (An ([[68,82,79,80,32,73,78,68,69,88,32],s.name],[])).bind λx5 =>
     (Ij x5).bind λd =>
     some (d,0)) (
    cond (decide (s.kind=5)) (
     (An ([[73,78,83,69,82,84,32,73,78,84,79,32],s.name,[32,86,65,76,85,69,83,32]],[])).bind λx6 =>
     Aj (λrec=>Jw k rec (λe vz=>match vz with|(_,_,_,f)=>match e with
      |.exit 0 =>
      (Ij f).bind λg =>some (g,0)
      |_=>none)) k ((s.rows.length:Int),0,s,x6)) (
     cond (decide (s.kind=6)) (
     (An ([[85,80,68,65,84,69,32],s.name,[32,83,69,84,32]],[])).bind λh =>
      Aj (λrec=>Ke rec (λe vz=>match vz with|(_,_,i,j)=>match e with
      |.exit 0 =>
       (G5 (i,j)).bind λl =>
       (Ij l).bind λm =>some (m,0)
      |_=>none)) k ((s.sets.length:Int),0,s,h)) (
     cond (decide (s.kind=7)) (
      (An ([[68,69,76,69,84,69,32,70,82,79,77,32],s.name],[])).bind λn =>
      (G5 (s,n)).bind λo =>
       (Ij o).bind λp =>
       some (p,0)) (
      cond (decide (s.kind=8)) (
      (Tg (s,[])).bind λq =>
       (Ij q).bind λr =>
       some (r,0)) (
      (Ij []).bind λt =>some (t,0))))))))))
theorem A56(k:Nat):FO 245 [.sv .stmt] [.str,.int .i64] (La k):=fR (px:=Arj _ k) (n:=0) Tryz.func245 rfl (λcx H=>by have h4:Lv cx (Lg (HV [.str,.int .i64]) k):=lv H (l1 H Q5 Ae) Aa Ab;have h3:Lv cx (Qb (HV [.str,.int .i64]) k):=lv H (l1 H Cq (Am (cR H h4 Tryz.func292 rfl (n:=0) (Ai)) Ae)) Aa Ab;have hlaprint_1:=lO H h3 (b:=lp Tryz.f290 0) (k:=k) (n:=0) (s:=Ahl) (step:=Jj) (λ_ _ _ (_,_,_,_,_)=>by kernel_rfl) Ai;have h2:Lv cx (Wx (HV [.str,.int .i64]) k):=lv H (l1 H Cq (Am (cR H h3 Tryz.func290 rfl (n:=1) ((A2 Ai hlaprint_1))) Ae)) Aa Ab;have h5:Lv cx (Wo (HV [.str,.int .i64]) k):=lv H (l1 H Cq (l1 H Q5 Ae)) Aa Ab;have h1:Lv cx (H7 (HV [.str,.int .i64]) k):=lv H (l1 H Cq (Am (cR H h2 Tryz.func291 rfl (n:=0) (Ai)) (Am (cR H h5 Tryz.func294 rfl (n:=0) (Ai)) Ae))) Aa Ab;have hlaprint_0:Bv cx (H7 (HV [.str,.int .i64]) k) (lp Tryz.f290 0):=Bcd (λ_ _=>by kernel_rfl) (Aet (Ry h1.p h1.c h1.q (by rw[H.p];exact follows) (k:=k) (s:=Q2) (step:=Jw k) (by kernel_rfl) (A1n _ k) (Ic (n:=0) (by kernel_rfl) Ai)) (Ry h1.p h1.c h1.q (by rw[H.p];exact follows) (k:=k) (s:=Qq) (step:=Ke) (by kernel_rfl) (A1a _ k) (Ic (n:=0) (by kernel_rfl) Ai)));have h0:Lv cx (Arj (HV [.str,.int .i64]) k):=lv H (c1 H Md (l1 H Bfe (l1 H Cq (l1 H Aqu (l1 H Atm (l1 H A8k (l1 H Bv2 (Am (cR H h1 Tryz.func290 rfl (n:=1) ((A2 Ai hlaprint_0))) Ae)))))))) Aa Ab;exact⟨h0,Ai⟩) λ_=>by kernel_rfl
def Akr(s:Stm):Option (Str×Int):=(Jy s).bind λx=>cond (!decide (x=0)) (some ([],x)) (cond (okP s) ((app [] (A7h s)).bind λt=>some (t,0)) none)
def A0x:FT [.sv .stmt] [.str,.int .i64]:=λx=>Akr x
theorem Apn{R:Type}{kx:Ex->N0->Option R}{s:Stm}{j:Nat}{c:Str->Option R}(hj:j<s.rows.length)(hn:ln s.rows[j].length)(hok:s.rows[j].all okx=true)(h2:∀acc,kx (.exit 0) ((s.rows[j].length:Int),(s.rows[j].length:Int),s,acc,(j:Int))=c acc)(k:Nat)(hk:s.rows[j].length<k)(out:Str)(ho:out.length<=260000000000) :
  Aj (λrec=>Jj rec kx) k ((s.rows[j].length:Int),0,s,out,(j:Int))=(app out (G9 etx s.rows[j])).bind c:=by
 refine I8 s.rows[j] etx (λi acc=>((s.rows[j].length:Int),(i:Int),s,acc,(j:Int))) c (λi hi acc rec =>?_) (λacc rec =>?_) k hk out ho
 ·simp only[Jj,Cb hi,Au hi,Au hj,Aq (c :=.exprs) hj,Aq (c :=.expr) hi,we ((Zg2.1 hok) _ (List.getElem_mem hi)),Ao hi hn];exact Nt i acc _ _
 ·simp[Jj,h2]
theorem Apy{R:Type}{kx:Ex->F5->Option R}{s:Stm}{c:Str->Option R}(hb:BdStm s)(hok:(s.rows.all λr=>r.all okx)=true)(h2:∀acc,kx (.exit 0) ((s.rows.length:Int),(s.rows.length:Int),s,acc)=c acc)(k:Nat)(hk:Ki s<=k)(out:Str)(ho:out.length<=260000000000) :
  Aj (λrec=>Jw k rec kx) k ((s.rows.length:Int),0,s,out)=(app out (G9 Bkd s.rows)).bind c:=by
 simp[Ki] at hk;refine I8 s.rows Bkd (λi acc=>((s.rows.length:Int),(i:Int),s,acc)) c (λi hi acc rec =>?_) (λacc rec =>?_) k (by omega) out ho
 ·have hm:=A9w (List.getElem_mem hi);have hrow:∀q:Str,((app q [40]).bind λx8=>Aj (λrc=>Jj rc (λe v=>match v with
    |(_,_,v6,v7,_)=>match e with
     |.exit 0=>(app v7 [41]).bind λa=>rec ((s.rows.length:Int),((i+1:Nat):Int),v6,a)
     |_=>none)) k ((s.rows[i].length:Int),0,s,x8,(i:Int)))=(app q (Bkd s.rows[i])).bind λx=>rec ((s.rows.length:Int),((i+1:Nat):Int),s,x):=λq=>by
   refine(Cw λx hx=>Apn (c:=λacc=>(app acc [41]).bind λa=>rec ((s.rows.length:Int),((i+1:Nat):Int),s,a)) hi (hb.rows.2 _ (List.getElem_mem hi)).1 ((Zg2.1 hok) _ (List.getElem_mem hi)) (λ_=>rfl) k (by omega) x hx).trans ?_;simp[Ct,Bkd]
  simp only[Jw,Cb hi,Ah,Au hi,chk,Aq (c :=.exprs) hi,Ao hi hb.rows.1,ww,fl1];refine Eq.trans ?_ (Nt i acc _ _);have e:∀(b:Bool) (x y x' y':Option R),x=x'->y=y'->cond b x y=cond b x' y':=λ_ _ _ _ _ h1 h2=>by rw[h1,h2]
  exact e _ _ _ _ _ (Cw λx _=>hrow x) (hrow acc)
 ·simp[Jw,Ds,Af,h2]
theorem Ap1{R:Type}{kx:Ex->F0->Option R}{s:Stm}{c:Str->Option R}(hb:BdStm s)(hok:(s.sets.all λx=>okx x.e)=true)(h2:∀acc,kx (.exit 0) ((s.sets.length:Int),(s.sets.length:Int),s,acc)=c acc)(k:Nat)(hk:s.sets.length<k)(out:Str)(ho:out.length<=260000000000) :
  Aj (λrec=>Ke rec kx) k ((s.sets.length:Int),0,s,out)=(app out (G9 Bup s.sets)).bind c:=by
 refine I8 s.sets Bup (λi acc=>((s.sets.length:Int),(i:Int),s,acc)) c (λi hi acc rec =>?_) (λacc rec =>?_) k hk out ho
 ·simp only[Ke,Cb hi,Ah,Au hi,chk,Aq (c :=.set) hi,T2,we ((Zg2.1 hok) _ (List.getElem_mem hi)),Ao hi hb.sets.1,ww,fl1,fl2];have hitem:∀q:Str,((app q (s.sets[i].name++[32,61,32])).bind λa=>(app a (etx s.sets[i].e)).bind λb=>rec ((s.sets.length:Int),((i+1:Nat):Int),s,b))=(app q (Bup s.sets[i])).bind λx=>rec ((s.sets.length:Int),((i+1:Nat):Int),s,x):=λq=>by rw[Ct];rfl
  simp only[hitem];exact Nt i acc _ _
 ·simp[Ke,Ds,Af,h2]
theorem bs(x:Str):((Ij x).bind λt=>some (t,(0:Int)))=some (x,0):=rfl
theorem Bls(k:Nat)(s:Stm)(hb:BdStm s)(hk:Ki s<=k)(h:okP s=true)(hc:Jy s=some 0):La k s=((app [] (A7h s)).bind λt=>some (t,0)):=by
 have hk2:=hk;simp[Ki] at hk2;simp only[La,hc,Zc1,bs,ww,fl2,fl3,fl5];simp only[okP] at h;simp only[A7h];rw[decide_true,Zt1,Af];by_cases h1:s.kind=1
 ·rw[if_pos h1] at h;rw[Ze1 h1,if_pos h1,Ah,wt h]
 rw[if_neg h1] at h;rw[Zd1 h1,if_neg h1,Af];by_cases h2:s.kind=2
 ·rw[Ze1 h2,if_pos h2,Ah]
 rw[Zd1 h2,if_neg h2,Af];by_cases h3:s.kind=3
 ·rw[if_neg (by omega),if_pos h3] at h;rw[Ze1 h3,if_pos h3,Ah];simp[wn h,Ct]
 rw[Zd1 h3,if_neg h3,Af];by_cases h4:s.kind=4
 ·rw[Ze1 h4,if_pos h4,Ah]
 rw[if_neg (by omega),if_neg h3] at h;rw[Zd1 h4,if_neg h4,Af];by_cases h5:s.kind=5
 ·rw[if_pos h5] at h;rw[Ze1 h5,if_pos h5,Ah];refine(Cw λx hx=>Apy (c:=λt=>some (t,(0:Int))) hb h (λ_=>rfl) k hk x hx).trans ?_;rw[Ct]
 rw[if_neg h5] at h;rw[Zd1 h5,if_neg h5,Af];by_cases h6:s.kind=6
 ·rw[if_pos h6,Zb1] at h;rw[Ze1 h6,if_pos h6,Ah];refine(Cw λx hx=>Ap1 (c:=λt=>(app t (whT s)).bind λt=>some (t,(0:Int))) hb h.1 (λacc =>?_) k (by omega) x hx).trans ?_
  ·show((G5 (s,acc)).bind λa=>some (a,(0:Int)))=_;rw[wh h.2]
  ·simp[Ct]
 rw[if_neg h6] at h;rw[Zd1 h6,if_neg h6,Af];by_cases h7:s.kind=7
 ·rw[if_pos h7] at h;rw[Ze1 h7,if_pos h7,Ah];simp[wh h,Ct]
 rw[if_neg h7,Zb1,Zg1] at h;rw[Zd1 h7,if_neg h7,Af,Ze1 h.1,Ah,ws h.2]
theorem Bf1:FO 245 [.sv .stmt] [.str,.int .i64] A0x :=.fin 0 A56 λs r hb hx=>⟨Ki s,by
 have hx:Akr s=some r:=hx;simp only[Akr] at hx;cases hc:Jy s with
 |none=>rw[hc] at hx;cases hx
 |some x =>
  rw[hc,Zc1] at hx;by_cases h0:x=0
  ·subst h0;cases ho:okP s with|false=>rw[ho] at hx;cases hx|true =>rw[ho] at hx;exact(Bls (Ki s) s hb (Zn1 _) ho hc).trans hx
  ·rw[Zd1 h0] at hx;rw[<-hx];simp only[La,hc,Zc1];rw[Zd1 h0];rfl⟩
def Anp(R:Type):Px R:=pxO [(71,cA A52)] [] [] []
noncomputable def Azz(R:Type):Px R:=pxO [(55,Ak Aa7 Abk Awr),(56,Ak Amr An9 Awx),(57,cA J7),(54,Aw 40 200 (Anp R) Tryz.f54)] [] [] []
def Am5(x:HV [.str]):Option (HV [.sv .stmt,.int .i64,.int .i64]):=match x with
 |s =>
 cond (!decide ((Bfs s).2.2=0)) (
  some ((Stm.mk 0 [] [] [] [] [] [] [] false (Xpr.mk 0 ⟨0,0,[]⟩ [] []) [] [] 0),(Bfs s).2.1,(Bfs s).2.2)) (
  (Awr ((Bfs s).1,(s.length:Int),false,0)).bind λ(x,x1,x2,x3,x4) =>
  (Awx (x1,x2,x3,x4)).bind λ(x5,_,_,_,x9) =>
   cond (!x5) (
   some ((Stm.mk 0 [] [] [] [] [] [] [] false (Xpr.mk 0 ⟨0,0,[]⟩ [] []) [] [] 0),x9,11)) (
   (Jy x).bind λa =>
    cond (!decide (a=0)) (
    some ((Stm.mk 0 [] [] [] [] [] [] [] false (Xpr.mk 0 ⟨0,0,[]⟩ [] []) [] [] 0),0,a)) (
    some (x,0,0))))
theorem Bfw:FO 38 [.str] [.sv .stmt,.int .i64,.int .i64] (Am5):=fR (px:=Azz _) (n:=0) Tryz.func38 rfl (λcx H=>by have h1:Lv cx (Anp (HV [.sv .stmt,.int .i64,.int .i64])):=lv H (c1 H But Ae) Aa Ab;have h0:Lv cx (Azz (HV [.sv .stmt,.int .i64,.int .i64])):=lv H (l1 H Bj7 (l1 H Bju (c1 H Md (Am (cR H h1 Tryz.func54 rfl (n:=0) (Ai)) Ae)))) Aa Ab;exact⟨h0,Ai⟩) λ_=>by kernel_rfl
def Bws(s:Str):Option (Stm×Int×Int):=Am5 s
def Avm:FT [.str] [.sv .stmt,.int .i64,.int .i64]:=λx=>Bws x
theorem A3g:FO 38 [.str] [.sv .stmt,.int .i64,.int .i64] Avm :=.fin0 Bfw λ_ _ _ hx=>hx
def Aj2:Sig:=⟨133,[(1,.sl .col false),(2,.sl .val false),(7,.int .i64),(8,.sl .val true),(9,.bool),(15,.sl .expr false),(16,.int .i64),(17,.int .i64)],[(3,.ptr 0 0),(6,.ptr 1 0)],[(0,.one (.sv .expr)),(1,.one (.sv .val))],2,0,0,[],[]⟩
abbrev Adt:=List Col×List Val×Int×List Val×Bool×List Xpr×Int×Int×Xpr×Val
def Aw5{R:Type}(rf:FT [.sv .expr,.sl .col false,.sl .val false] [.sv .val,.int .i64])(rec:Adt->Option R)(kx:Ex->Adt->Option R)(v:Adt):Option R:=match v with
 |(v,v1,v2,v3,v4,v5,v6,v7,w,w1) =>
 cond (decide (v7<v6)) (
  chk (inb v7 v5.length) (
  (rf ((at' .expr v5 v7),v,v1)).bind λ(x,x1) =>
   cond (!decide (x1=0)) (
   kx .ret (v,v1,x1,v3,v4,v5,v6,v7,w,(Val.mk 0 0 []))) (
   chk (decide (v3.length+1<=Ag)) (
    cond (v4) (
    rec (v,v1,v2,(v3++[x]),true,v5,v6,(wr .i64 (v7+1)),w,w1)) (
    rec (v,v1,v2,(v3++[x]),decide (x.kind=1),v5,v6,(wr .i64 (v7+1)),w,w1)))))) (
  kx (.exit 0) (v,v1,v2,v3,v4,v5,v6,v7,w,w1))
def A2c(R:Type)(k:Nat)(rf:FT [.sv .expr,.sl .col false,.sl .val false] [.sv .val,.int .i64]):Px R:=pxO [(260,cA rf),(281,cA A7z),(271,cA Bct),(310,cA Az9)] [(226,qA Amd)] [(4,Al k Aj2 (Aw5 rf))] []
def Zu(k:Nat)(rf:FT [.sv .expr,.sl .col false,.sl .val false] [.sv .val,.int .i64])(x:HV [.sv .expr,.sl .col false,.sl .val false]):Option (HV [.sv .val,.int .i64]):=match x with
 |(e,cols,row) =>
 Aj (λrec=>Aw5 rf rec (λe vz=>match vz with|(v8,v9,d,b,c,_,_,_,a,f)=>match e with
  |.ret =>
  some (f,d)
  |.exit 0 =>
  cond (decide (a.kind=1)) (
   some (a.v,0)) (
   cond (decide (a.kind=2)) (
   chk (inb (Kf v8 a.name) v9.length) (
    some ((at' .val v9 (Kf v8 a.name)),0))) (
   cond (decide (a.kind=16)) (
    some ((Auo c),0)) (
    let j:=λ(p5:Bool) =>
    cond (p5) (
     none) (
     cond (c) (
     some ((Val.mk 1 0 []),0)) (
     cond (decide (a.kind=3)) (
      chk (inb 0 b.length) (
      some ((Auo (decide ((at' .val b 0).n=0))),0))) (
      cond (decide (a.kind=15)) (
      chk (inb 0 b.length) (
       none)) (
      cond (decide (12<=a.kind)) (
       chk (inb 0 b.length) (
       chk (inb 1 b.length) (
        none))) (
       chk (inb 0 b.length) (
       chk (inb 1 b.length) (
        some ((Auo (Axv a.kind (Bo0 (at' .val b 0) (at' .val b 1)))),0))))))))
    cond (decide (a.kind=4)) (
    j true) (
    j (decide (a.kind=5))))))
  |_=>none)) k (cols,row,0,[],false,e.l,(e.l.length:Int),0,e,(Val.mk 0 0 []))
theorem Bia(k:Nat)(rf:FT [.sv .expr,.sl .col false,.sl .val false] [.sv .val,.int .i64])(hrf:FO 260 [.sv .expr,.sl .col false,.sl .val false] [.sv .val,.int .i64] rf):FO 260 [.sv .expr,.sl .col false,.sl .val false] [.sv .val,.int .i64] (Zu k rf):=fR (px:=A2c _ k rf) (n:=1) Tryz.func260 rfl (λcx H=>by have h0:Lv cx (A2c (HV [.sv .val,.int .i64]) k rf):=lv H (c1 H hrf (c1 H Bc3 (c1 H Brj (c1 H Bef Ae)))) (q1 H Aix Aa) Ab;have hlevalQ_0:=lO H h0 (b:=lp Tryz.f260 0) (k:=k) (n:=0) (s:=Aj2) (step:=Aw5 rf) (λ_ _ _ (_,_,_,_,_,_,_,_,_,_)=>by kernel_rfl) Ai;exact⟨h0,(A2 Ai hlevalQ_0)⟩) λ(_,_,_)=>by kernel_rfl
def Bwr(e:Xpr)(cols:List Col)(row:List Val):Option (Val×Int):=Aj (Zu 9) 9 (e,cols,row)
def A9r:FT [.sv .expr,.sl .col false,.sl .val false] [.sv .val,.int .i64]:=λx=>Bwr x.1 x.2.1 x.2.2
theorem Bjr:FO 260 [.sv .expr,.sl .col false,.sl .val false] [.sv .val,.int .i64] A9r :=.fin (ι:=Nat) 0 (F:=λn=>Aj (Zu n) n) (λn=>FnOk.rec' (Sx.enters_of Tryz.func260 rfl rfl) (λrf hrf=>Bia n rf hrf) n) λ_ _ _ hx=>⟨9,hx⟩
def Aai:Sig:=⟨28,[(1,.sl .val false),(4,.bool),(12,.sl .col false),(13,.int .i64),(14,.int .i64)],[],[],0,0,0,[],[]⟩
abbrev Qh:=List Val×Bool×List Col×Int×Int
def Ae4{R:Type}(rec:Qh->Option R)(kx:Ex->Qh->Option R)(v:Qh):Option R:=match v with
 |(v,v1,v2,v3,v4) =>
 cond (decide (v4<v3)) (
  chk (inb v4 v2.length) (
  chk (inb v4 v.length) (
   cond (!(Ba3 (at' .val v v4) ((at' .col v2 v4).kind))) (
   kx .ret (v,false,v2,v3,v4)) (
   rec (v,v1,v2,v3,(wr .i64 (v4+1))))))) (
  kx (.exit 0) (v,v1,v2,v3,v4))
def Aod(R:Type)(k:Nat):Px R:=pxO [(307,cA Bdd)] [] [(4,Al k Aai (Ae4))] []
def Abz(k:Nat)(x:HV [.sl .col false,.sl .val false]):Option (HV [.bool]):=match x with
 |(cols,row) =>
 cond (!decide ((cols.length:Int)=(row.length:Int))) (
  some false) (
  Aj (λrec=>Ae4 rec (λe vz=>match vz with|(_,v6,_,_,_)=>match e with
  |.ret =>some v6
  |.exit 0 =>some true
  |_=>none)) k (row,false,cols,(cols.length:Int),0))
theorem A13(k:Nat):FO 259 [.sl .col false,.sl .val false] [.bool] (Abz k):=fR (px:=Aod _ k) (n:=1) Tryz.func259 rfl (λcx H=>by have h0:Lv cx (Aod (HV [.bool]) k):=lv H (c1 H Bli Ae) Aa Ab;have hlrowfitQ_0:=lO H h0 (b:=lp Tryz.f259 0) (k:=k) (n:=0) (s:=Aai) (step:=Ae4) (λ_ _ _ (_,_,_,_,_)=>by kernel_rfl) Ai;exact⟨h0,(A2 Ai hlrowfitQ_0)⟩) λ(_,_)=>by kernel_rfl
def Axi(cols:List Col)(row:List Val):Option Bool:=Abz 9 (cols,row)
def Afn:FT [.sl .col false,.sl .val false] [.bool]:=λx=>Axi x.1 x.2
theorem Aju:FO 259 [.sl .col false,.sl .val false] [.bool] Afn :=.fin 0 A13 λ_ _ _ hx=>⟨9,hx⟩
def Aqi:Sig:=⟨19,[(0,.int .u64),(3,.sl .byte true)],[],[],0,0,0,[],[]⟩
abbrev Abm:=Int×List UInt8
def Y1{R:Type}(rec:Abm->Option R)(kx:Ex->Abm->Option R)(v:Abm):Option R:=match v with
 |(v,v1) =>
 cond (decide (128<=v)) (
  chk (decide (v1.length+1<=Ag)) (
  rec ((Dz .u64 v 7),(v1++[(UInt8.ofNat ((ior .u8 (wr .u8 v) 128):Int).toNat)])))) (
  kx (.exit 0) (v,v1))
def Bb9(R:Type)(k:Nat):Px R:=pxO [] [] [(2,Al k Aqi (Y1))] []
def Aui(k:Nat)(x:HV [.int .u64]):Option (HV [.sl .byte true]):=match x with
 |n =>
 Aj (λrec=>Y1 rec (λe vz=>match vz with|(v2,v3)=>match e with
  |.exit 0 =>
  chk (decide (v3.length+1<=Ag)) (
   some (v3++[(UInt8.ofNat ((wr .u8 v2):Int).toNat)]))
  |_=>none)) k (n,[])
theorem Bq1(k:Nat):FO 18 [.int .u64] [.sl .byte true] (Aui k):=fR (px:=Bb9 _ k) (n:=1) Tryz.func18 rfl (λcx H=>by have h0:Lv cx (Bb9 (HV [.sl .byte true]) k):=lv H Ae Aa Ab;have hlvput_0:=lO H h0 (b:=lp Tryz.f18 0) (k:=k) (n:=0) (s:=Aqi) (step:=Y1) (λ_ _ _ (_,_)=>by kernel_rfl) Ai;exact⟨h0,(A2 Ai hlvput_0)⟩) λ_=>by kernel_rfl
def Akl(n:Int):Option Str:=Aui 100 n
def N5:FT [.int .u64] [.sl .byte true]:=λx=>Akl x
theorem Kj:FO 18 [.int .u64] [.sl .byte true] N5 :=.fin 0 Bq1 λ_ _ _ hx=>⟨100,hx⟩
def Brn(R:Type):Px R:=pxO [(18,cA N5)] [] [] []
def Yd(x:HV [.sl .byte false]):Option (HV [.sl .byte true]):=match x with
 |s =>
 (Akl (wr .u64 (s.length:Int))).bind λx =>
  chk (decide (x.length+s.length<=Ag)) (
  some (x++s))
theorem Bgp:FO 20 [.sl .byte false] [.sl .byte true] (Yd):=fR (px:=Brn _) (n:=0) Tryz.func20 rfl (λ_ H=>⟨lv H (c1 H Kj Ae) Aa Ab,Ai⟩) λ_=>by kernel_rfl
def Aru(s:Str):Option Str:=Yd s
def U5:FT [.sl .byte false] [.sl .byte true]:=λx=>Aru x
theorem Qp:FO 20 [.sl .byte false] [.sl .byte true] U5 :=.fin0 Bgp λ_ _ _ hx=>hx
def Alp:Sig:=⟨22,[(3,.sl .byte true),(10,.sl .bytes false),(11,.int .i64),(12,.int .i64)],[],[],0,0,0,[],[]⟩
abbrev T6:=List UInt8×List (List UInt8)×Int×Int
def Us{R:Type}(rec:T6->Option R)(kx:Ex->T6->Option R)(v:T6):Option R:=match v with
 |(v,v1,v2,v3) =>
 cond (decide (v3<v2)) (
  chk (inb v3 v1.length) (
  (Aru (at' .bytes v1 v3)).bind λx1 =>
   chk (decide (v.length+x1.length<=Ag)) (
   rec ((v++x1),v1,v2,(wr .i64 (v3+1)))))) (
  kx (.exit 0) (v,v1,v2,v3))
def Azb(R:Type)(k:Nat):Px R:=pxO [(18,cA N5),(20,cA U5)] [] [(3,Al k Alp (Us))] []
def Ys(k:Nat)(x:HV [.sl .bytes false]):Option (HV [.sl .byte true]):=match x with
 |l =>
 (Akl (wr .u64 (l.length:Int))).bind λx =>
  Aj (λrec=>Us rec (λe vz=>match vz with|(v4,_,_,_)=>match e with
  |.exit 0 =>some v4
  |_=>none)) k (x,l,(l.length:Int),0)
theorem Bfj(k:Nat):FO 41 [.sl .bytes false] [.sl .byte true] (Ys k):=fR (px:=Azb _ k) (n:=1) Tryz.func41 rfl (λcx H=>by have h0:Lv cx (Azb (HV [.sl .byte true]) k):=lv H (c1 H Kj (c1 H Qp Ae)) Aa Ab;have hlvjoin_0:=lO H h0 (b:=lp Tryz.f41 0) (k:=k) (n:=0) (s:=Alp) (step:=Us) (λ_ _ _ (_,_,_,_)=>by kernel_rfl) Ai;exact⟨h0,(A2 Ai hlvjoin_0)⟩) λ_=>by kernel_rfl
def Ak1(l:List Str):Option Str:=Ys 50000 l
def Aw3:FT [.sl .bytes false] [.sl .byte true]:=λx=>Ak1 x
theorem Azk:FO 41 [.sl .bytes false] [.sl .byte true] Aw3 :=.fin 0 Bfj λ_ _ _ hx=>⟨50000,hx⟩
def At7:Sig:=⟨59,[(1,.int .i64),(4,.int .u64),(5,.int .i64),(6,.int .i64),(7,.int .u64),(8,.int .i64),(21,.sl .byte false),(22,.int .i64),(23,.int .i64)],[],[],0,0,0,[],[]⟩
abbrev Nj:=Int×Int×Int×Int×Int×Int×List UInt8×Int×Int
def Ho{R:Type}(rec:Nj->Option R)(kx:Ex->Nj->Option R)(v:Nj):Option R:=match v with
 |(v,v1,v2,v3,v4,v5,v6,v7,v8) =>
 cond (decide (v8<v7)) (
  chk (inb v8 v6.length) (
  let j1:=λ(_:Unit) =>
   chk (decide (0<=(wr .i64 (7*v8)))) (
   cond (decide (((at' .byte v6 v8).toNat:Int)<128)) (
    kx .ret (v,(ior .u64 v4 (Aax .u64 (wr .u64 (Ek .u8 ((at' .byte v6 v8).toNat:Int) 127)) (wr .i64 (7*v8)))),(wr .i64 ((wr .i64 (v+v8))+1)),0,(ior .u64 v4 (Aax .u64 (wr .u64 (Ek .u8 ((at' .byte v6 v8).toNat:Int) 127)) (wr .i64 (7*v8)))),v5,v6,v7,v8)) (
    rec (v,v1,v2,v3,(ior .u64 v4 (Aax .u64 (wr .u64 (Ek .u8 ((at' .byte v6 v8).toNat:Int) 127)) (wr .i64 (7*v8)))),v5,v6,v7,(wr .i64 (v8+1)))))
  let j:=λ(p4:Bool) =>
   cond (p4) (
   kx (.exit 0) (v,v1,v2,v3,v4,11,v6,v7,v8)) (
   cond (decide (((at' .byte v6 v8).toNat:Int)=0)) (
    cond (decide (0<v8)) (
    kx (.exit 0) (v,v1,v2,v3,v4,11,v6,v7,v8)) (
    j1 ())) (
    j1 ()))
  cond (decide (v8=9)) (
   j (decide (1<((at' .byte v6 v8).toNat:Int)))) (
   j false))) (
  kx (.exit 0) (v,v1,v2,v3,v4,v5,v6,v7,v8))
def Bcn(R:Type)(k:Nat):Px R:=pxO [] [] [(6,Al k At7 (Ho))] []
def Aey(k:Nat)(x:HV [.sl .byte false,.int .i64]):Option (HV [.int .u64,.int .i64,.int .i64]):=match x with
 |(b,p) =>
 cond (decide (p<0)) (
  some (0,0,2)) (
  cond (decide ((b.length:Int)<p)) (
  some (0,0,2)) (
  chk (upto p b.length b.length) (
   Aj (λrec=>Ho rec (λe vz=>match vz with|(_,a,c,d,_,f,_,_,_)=>match e with
   |.ret =>some (a,c,d)
   |.exit 0 =>some (0,0,f)
   |_=>none)) k (p,0,0,0,0,10,(b.drop (p:Int).toNat),((b.drop (p:Int).toNat).length:Int),0))))
theorem Br6(k:Nat):FO 44 [.sl .byte false,.int .i64] [.int .u64,.int .i64,.int .i64] (Aey k):=fR (px:=Bcn _ k) (n:=1) Tryz.func44 rfl (λcx H=>by have h0:Lv cx (Bcn (HV [.int .u64,.int .i64,.int .i64]) k):=lv H Ae Aa Ab;have hlvget_0:=lO H h0 (b:=lp Tryz.f44 0) (k:=k) (n:=0) (s:=At7) (step:=Ho) (λ_ _ _ (_,_,_,_,_,_,_,_,_)=>by kernel_rfl) Ai;exact⟨h0,(A2 Ai hlvget_0)⟩) λ(_,_)=>by kernel_rfl
def Vv(b:Str)(p:Int):Option (Int×Int×Int):=Aey 100 (b,p)
def Ls:FT [.sl .byte false,.int .i64] [.int .u64,.int .i64,.int .i64]:=λx=>Vv x.1 x.2
theorem I2:FO 44 [.sl .byte false,.int .i64] [.int .u64,.int .i64,.int .i64] Ls :=.fin 0 Br6 λ_ _ _ hx=>⟨100,hx⟩
def Bqw(R:Type):Px R:=pxO [(44,cA Ls)] [] [] []
def Oz(x:HV [.sl .byte false,.int .i64]):Option (HV [.sl .byte true,.int .i64,.int .i64]):=match x with
 |(b,p) =>
 (Vv b p).bind λ(x,x1,x2) =>
  cond (!decide (x2=0)) (
  some ([],0,x2)) (
  cond (decide (1048576<x)) (
   some ([],0,3)) (
   cond (decide ((wr .u64 (wr .i64 ((b.length:Int)-x1)))<x)) (
   some ([],0,10)) (
   chk (upto x1 (wr .i64 (x1+(wr .i64 x))) b.length) (
    chk (decide (0+(cut b x1 (wr .i64 (x1+(wr .i64 x)))).length<=Ag)) (
    some (([]++(cut b x1 (wr .i64 (x1+(wr .i64 x))))),(wr .i64 (x1+(wr .i64 x))),0))))))
theorem Bfp:FO 45 [.sl .byte false,.int .i64] [.sl .byte true,.int .i64,.int .i64] (Oz):=fR (px:=Bqw _) (n:=0) Tryz.func45 rfl (λ_ H=>⟨lv H (c1 H I2 Ae) Aa Ab,Ai⟩) λ(_,_)=>by kernel_rfl
def Ag7(b:Str)(p:Int):Option (Str×Int×Int):=Oz (b,p)
def U4:FT [.sl .byte false,.int .i64] [.sl .byte true,.int .i64,.int .i64]:=λx=>Ag7 x.1 x.2
theorem Qg:FO 45 [.sl .byte false,.int .i64] [.sl .byte true,.int .i64,.int .i64] U4 :=.fin0 Bfp λ_ _ _ hx=>hx
def Ahp:Sig:=⟨44,[(0,.sl .byte false),(2,.sl .bytes true),(3,.int .i64),(4,.int .u64),(5,.int .i64),(7,.sl .bytes true)],[],[],0,0,0,[],[]⟩
abbrev O0:=List UInt8×List (List UInt8)×Int×Int×Int×List (List UInt8)
def H1{R:Type}(rec:O0->Option R)(kx:Ex->O0->Option R)(v:O0):Option R:=match v with
 |(v,v1,v2,v3,v4,v5) =>
 cond (decide (0<v3)) (
  (Ag7 v v4).bind λ(x3,x4,x5) =>
  cond (!decide (x5=0)) (
   kx .ret (v,[],x5,v3,v4,v5)) (
   chk (decide (v5.length+1<=Ag)) (
   rec (v,v1,v2,(wr .u64 (v3-1)),x4,(v5++[x3]))))) (
  kx (.exit 0) (v,v1,v2,v3,v4,v5))
def At9(R:Type)(k:Nat):Px R:=pxO [(44,cA Ls),(45,cA U4)] [] [(5,Al k Ahp (H1))] []
def Kg(k:Nat)(x:HV [.sl .byte false]):Option (HV [.sl .bytes true,.int .i64]):=match x with
 |b =>
 (Vv b 0).bind λ(x,x1,x2) =>
  cond (!decide (x2=0)) (
  some ([],x2)) (
  Aj (λrec=>H1 rec (λe vz=>match vz with|(v6,v7,v8,_,a,c)=>match e with
   |.ret =>
   some (v7,v8)
   |.exit 0 =>
   cond (decide (a<(v6.length:Int))) (
    some ([],11)) (
    some (c,0))
   |_=>none)) k (b,[],0,x,x1,[]))
theorem A7c(k:Nat):FO 63 [.sl .byte false] [.sl .bytes true,.int .i64] (Kg k):=fR (px:=At9 _ k) (n:=1) Tryz.func63 rfl (λcx H=>by have h0:Lv cx (At9 (HV [.sl .bytes true,.int .i64]) k):=lv H (c1 H I2 (c1 H Qg Ae)) Aa Ab;have hlvsplit_0:=lO H h0 (b:=lp Tryz.f63 0) (k:=k) (n:=0) (s:=Ahp) (step:=H1) (λ_ _ _ (_,_,_,_,_,_)=>by kernel_rfl) Ai;exact⟨h0,(A2 Ai hlvsplit_0)⟩) λ_=>by kernel_rfl
def Yq(b:Str):Option (List Str×Int):=Kg 50000 b
def Amc:FT [.sl .byte false] [.sl .bytes true,.int .i64]:=λx=>Yq x
theorem Aqq:FO 63 [.sl .byte false] [.sl .bytes true,.int .i64] Amc :=.fin 0 A7c λ_ _ _ hx=>⟨50000,hx⟩
def Bjv(R:Type):Px R:=pxO [(237,cA Axr),(259,cA Afn),(238,cA Au6),(260,cA A9r)] [] [] []
def Akz(x:HV [.sv .expr,.sl .col false,.sl .val false]):Option (HV [.sv .val,.int .i64]):=match x with
 |(e,cols,row) =>
 cond (!decide ((Agi e)=0)) (
  some ((Val.mk 0 0 []),2)) (
  (Axi cols row).bind λx =>
  cond (!x) (
   some ((Val.mk 0 0 []),2)) (
   cond (!decide ((Db e cols).2=0)) (
   some ((Val.mk 0 0 []),(Db e cols).2)) (
   (Bwr e cols row).bind λ(x1,x2) =>some (x1,x2))))
theorem Bhc:FO 213 [.sv .expr,.sl .col false,.sl .val false] [.sv .val,.int .i64] (Akz):=fR (px:=Bjv _) (n:=0) Tryz.func213 rfl (λ_ H=>⟨lv H (c1 H A12 (c1 H Aju (c1 H Ayx (c1 H Bjr Ae)))) Aa Ab,Ai⟩) λ(_,_,_)=>by kernel_rfl
def Bw7(e:Xpr)(cols:List Col)(row:List Val):Option (Val×Int):=Akz (e,cols,row)
def Aiu:FT [.sv .expr,.sl .col false,.sl .val false] [.sv .val,.int .i64]:=λx=>Bw7 x.1 x.2.1 x.2.2
theorem Alu:FO 213 [.sv .expr,.sl .col false,.sl .val false] [.sv .val,.int .i64] Aiu :=.fin0 Bhc λ_ _ _ hx=>hx
def Anw:Sig:=⟨73,[(1,.sl .val false),(4,.int .i64),(49,.sl .expr false),(50,.int .i64),(51,.int .i64)],[(2,.ptr 0 0)],[(0,.one (.sv .tbl))],1,0,0,[],[]⟩
abbrev Aea:=List Val×Int×List Xpr×Int×Int×Tbl
def Axt{R:Type}(rec:Aea->Option R)(kx:Ex->Aea->Option R)(v:Aea):Option R:=match v with
 |(c,e,b,d,a,w2) =>
 cond (decide (a<d)) (
  chk (inb a b.length) (
  (Bw7 (at' .expr b a) w2.cols c).bind λ(x2,x3) =>
   cond (!decide (x3=0)) (
   kx .ret (c,x3,b,d,a,w2)) (
   cond (decide ((Bo0 x2 (Val.mk 2 0 []))=0)) (
    kx .ret (c,162,b,d,a,w2)) (
    rec (c,e,b,d,(wr .i64 (a+1)),w2))))) (
  kx (.exit 2) (c,e,b,d,a,w2))
def Ajo:Sig:=⟨19,[(0,.sl .str false),(1,.str),(4,.int .i64),(7,.int .i64),(8,.int .i64)],[],[(0,.one (.sv .tbl))],80,80,400,[],[]⟩
abbrev Adv:=List Str×Str×Int×Int×Int×Tbl
def Ax9{R:Type}(rec:Adv->Option R)(kx:Ex->Adv->Option R)(v:Adv):Option R:=match v with
 |(v5,v6,v7,v8,v9,w1) =>
 cond (decide (v9<v8)) (
  chk (inb v9 v5.length) (
  cond (decide (v6=(at' .str v5 v9))) (
   kx .ret (v5,v6,v9,v8,v9,w1)) (
   rec (v5,v6,v7,v8,(wr .i64 (v9+1)),w1)))) (
  kx (.exit 0) (v5,v6,v7,v8,v9,w1))
def Akd:Sig:=⟨73,[(1,.sl .val false),(4,.int .i64),(23,.sl .col false),(24,.int .i64),(25,.int .i64)],[(2,.ptr 0 0)],[(0,.one (.sv .tbl))],1,0,0,[],[]⟩
abbrev Ad1:=List Val×Int×List Col×Int×Int×Tbl
def Ayd{R:Type}(k:Nat)(rec:Ad1->Option R)(kx:Ex->Ad1->Option R)(v:Ad1):Option R:=match v with
 |(v,v1,v2,v3,v4,w) =>
 cond (decide (v4<v3)) (
  chk (inb v4 v2.length) (
  chk (inb v4 v.length) (
   cond (decide ((at' .val v v4).kind=1)) (
   cond ((at' .col v2 v4).notNull) (
    kx .ret (v,161,v2,v3,v4,w)) (
    Aj (λrc=>Ax9 rc (λe vz=>match vz with|(_,_,b,_,_,a)=>match e with
    |.ret =>
     cond (decide (0<=b)) (
     kx .ret (v,161,v2,v3,v4,a)) (
     rec (v,v1,v2,v3,(wr .i64 (v4+1)),a))
    |.exit 0 =>rec (v,v1,v2,v3,(wr .i64 (v4+1)),a)
    |_=>none)) k (w.key,(at' .col v2 v4).name,0,(w.key.length:Int),0,w))) (
   rec (v,v1,v2,v3,(wr .i64 (v4+1)),w))))) (
  kx (.exit 0) (v,v1,v2,v3,v4,w))
def Aao(R:Type)(k:Nat):Px R:=pxO [] [] [(2,Al k Ajo (Ax9))] []
noncomputable def Aof(R:Type)(k:Nat):Px R:=pxO [(183,Aw 80 400 (Aao R k) Tryz.f183)] [] [] []
noncomputable def A2k(R:Type)(k:Nat):Px R:=pxO [(244,cA S7),(259,cA Afn),(213,cA Aiu),(226,cA Amd),(131,Aw 40 200 (Aof R k) Tryz.f131)] [] [(7,Al k Akd (Ayd k)),(13,Al k Anw (Axt))] []
def Amh(k:Nat)(x:HV [.sv .tbl,.sl .val false]):Option (HV [.int .i64]):=match x with
 |(t,row) =>
 (Avf t).bind λx =>
  cond (!decide (x=0)) (
  some x) (
  (Axi t.cols row).bind λx1 =>
   cond (!x1) (
   some 151) (
   Aj (λrec=>Ayd k rec (λe vz=>match vz with|(c,b,_,_,_,a)=>match e with
    |.ret =>
    some b
    |.exit 0 =>
    Aj (λrec=>Axt rec (λe vz=>match vz with|(_,d,_,_,_,_)=>match e with
     |.ret =>
     some d
     |.exit 2 =>
     some 0
     |_=>none)) k (c,b,a.checks,(a.checks.length:Int),0,a)
    |_=>none)) k (row,0,t.cols,(t.cols.length:Int),0,t)))
theorem Be4(k:Nat):FO 300 [.sv .tbl,.sl .val false] [.int .i64] (Amh k):=fR (px:=A2k _ k) (n:=2) Tryz.func300 rfl (λcx H=>by have h2:Lv cx (Aao (HV [.int .i64]) k):=lv H Ae Aa Ab;have hlsfits_1:=lO H h2 (b:=lp Tryz.f183 0) (k:=k) (n:=0) (s:=Ajo) (step:=Ax9) (λ_ _ _ (_,_,_,_,_,_)=>by kernel_rfl) Ai;have h1:Lv cx (Aof (HV [.int .i64]) k):=lv H (Am (cR H h2 Tryz.func183 rfl (n:=1) ((A2 Ai hlsfits_1))) Ae) Aa Ab;have h0:Lv cx (A2k (HV [.int .i64]) k):=lv H (c1 H Afe (c1 H Aju (c1 H Alu (c1 H Aix (Am (cR H h1 Tryz.func131 rfl (n:=0) (Ai)) Ae))))) Aa Ab;have hlsfits_0:=lO H h0 (b:=lp Tryz.f300 0) (k:=k) (n:=0) (s:=Akd) (step:=Ayd k) (λ_ _ _ (_,_,_,_,_,_)=>by kernel_rfl) Ai;have hlsfits_2:=lO H h0 (b:=lp Tryz.f300 1) (k:=k) (n:=0) (s:=Anw) (step:=Axt) (λ_ _ _ (_,_,_,_,_,_)=>by kernel_rfl) Ai;exact⟨h0,(A2 (A2 Ai hlsfits_0) hlsfits_2)⟩) λ(_,_)=>by kernel_rfl
def B0n(t:Tbl)(row:List Val):Option Int:=Amh 5000 (t,row)
def A84:FT [.sv .tbl,.sl .val false] [.int .i64]:=λx=>B0n x.1 x.2
theorem Bk8:FO 300 [.sv .tbl,.sl .val false] [.int .i64] A84 :=.fin 0 Be4 λ_ _ _ hx=>⟨5000,hx⟩
def Atv:Sig:=⟨48,[(7,.sl .bytes true),(27,.sl .idx false),(28,.int .i64),(29,.int .i64)],[(1,.ptr 0 0)],[(0,.one (.sv .tbl))],1,0,0,[],[]⟩
abbrev Alo:=List (List UInt8)×List Idx×Int×Int×Tbl
def A7k{R:Type}(rec:Alo->Option R)(kx:Ex->Alo->Option R)(v:Alo):Option R:=match v with
 |(v,v1,v2,v3,w) =>
 cond (decide (v3<v2)) (
  chk (inb v3 v1.length) (
  (Akr (Hp w (at' .idx v1 v3))).bind λ(x3,_) =>
   chk (decide (x3.length<=Ag)) (
   chk (decide (v.length+1<=Ag)) (
    rec ((v++[x3]),v1,v2,(wr .i64 (v3+1)),w))))) (
  kx (.exit 0) (v,v1,v2,v3,w))
def Bdk(R:Type)(k:Nat):Px R:=pxO [(244,cA S7),(246,cA Axd),(245,cA A0x),(247,cA Am8),(41,cA Aw3)] [] [(7,Al k Atv (A7k))] []
def Aqa(k:Nat)(x:HV [.sv .tbl]):Option (HV [.sl .byte true,.int .i64]):=match x with
 |t =>
 (Avf t).bind λx =>
  cond (!decide (x=0)) (
  some ([],x)) (
  (Akr (Fs t)).bind λ(x1,_) =>
   chk (decide (x1.length<=Ag)) (
   Aj (λrec=>A7k rec (λe vz=>match vz with|(v4,_,_,_,_)=>match e with
    |.exit 0 =>
    (Ak1 v4).bind λx5 =>some (x5,0)
    |_=>none)) k ([x1],t.idx,(t.idx.length:Int),0,t)))
theorem Bob(k:Nat):FO 197 [.sv .tbl] [.sl .byte true,.int .i64] (Aqa k):=fR (px:=Bdk _ k) (n:=1) Tryz.func197 rfl (λcx H=>by have h0:Lv cx (Bdk (HV [.sl .byte true,.int .i64]) k):=lv H (c1 H Afe (c1 H A19 (c1 H Bf1 (c1 H Aqw (c1 H Azk Ae))))) Aa Ab;have hlsenc_0:=lO H h0 (b:=lp Tryz.f197 0) (k:=k) (n:=0) (s:=Atv) (step:=A7k) (λ_ _ _ (_,_,_,_,_)=>by kernel_rfl) Ai;exact⟨h0,(A2 Ai hlsenc_0)⟩) λ_=>by kernel_rfl
def B0b(t:Tbl):Option (Str×Int):=Aqa 5000 t
def A55:FT [.sv .tbl] [.sl .byte true,.int .i64]:=λx=>B0b x
theorem Bdb:FO 197 [.sv .tbl] [.sl .byte true,.int .i64] A55 :=.fin 0 Bob λ_ _ _ hx=>⟨5000,hx⟩
def As1:Sig:=⟨77,[(0,.sl .byte false),(3,.int .i64),(23,.sl .bytes true),(24,.int .i64),(25,.int .i64)],[(2,.ptr 0 0),(6,.ptr 1 0)],[(0,.one (.sv .tbl)),(1,.one (.sv .tbl))],2,0,0,[],[]⟩
abbrev Aj3:=List UInt8×Int×List (List UInt8)×Int×Int×Tbl×Tbl
def A59{R:Type}(rec:Aj3->Option R)(kx:Ex->Aj3->Option R)(v:Aj3):Option R:=match v with
 |(v,v1,v2,v3,v4,w,w1) =>
 cond (decide (v4<v3)) (
  chk (inb v4 v2.length) (
  (Bws (at' .bytes v2 v4)).bind λ(x2,_,x4) =>
   let j:=λ(p1:Bool) =>
   cond (p1) (
    (Atq x2).bind λ(x5,x6) =>
    cond (!decide (x6=0)) (
     kx .ret (v,11,v2,v3,v4,(Tbl.mk [] [] [] [] []),x5)) (
     rec (v,v1,v2,v3,(wr .i64 (v4+1)),w,x5))) (
    cond (decide (x4=0)) (
    (As2 w1 x2).bind λ(x7,x8) =>
     cond (!decide (x8=0)) (
     kx .ret (v,11,v2,v3,v4,(Tbl.mk [] [] [] [] []),x7)) (
     rec (v,v1,v2,v3,(wr .i64 (v4+1)),w,x7))) (
    cond (!decide (x4=0)) (
     kx .ret (v,11,v2,v3,v4,(Tbl.mk [] [] [] [] []),w1)) (
     rec (v,v1,v2,v3,(wr .i64 (v4+1)),w,w1))))
   cond (decide (v4=0)) (
   j (decide (x4=0))) (
   j false))) (
  kx (.exit 0) (v,v1,v2,v3,v4,w,w1))
def Bax(R:Type)(k:Nat):Px R:=pxO [(63,cA Amc),(38,cA Avm),(138,cA Abj),(207,cA Aiw),(197,cA A55)] [] [(6,Al k As1 (A59))] []
def Aq2(k:Nat)(x:HV [.sl .byte false]):Option (HV [.sv .tbl,.int .i64]):=match x with
 |b =>
 (Yq b).bind λ(x,x1) =>
  cond (!decide (x1=0)) (
  some ((Tbl.mk [] [] [] [] []),11)) (
  Aj (λrec=>A59 rec (λe vz=>match vz with|(v5,v6,_,_,_,c,a)=>match e with
   |.ret =>
   some (c,v6)
   |.exit 0 =>
   (B0b a).bind λ(x9,d) =>
    cond (!decide (d=0)) (
    some ((Tbl.mk [] [] [] [] []),11)) (
    cond (!decide (x9=v5)) (
     some ((Tbl.mk [] [] [] [] []),11)) (
     some (a,0)))
   |_=>none)) k (b,0,x,(x.length:Int),0,(Tbl.mk [] [] [] [] []),(Tbl.mk [] [] [] [] [])))
theorem Boc(k:Nat):FO 200 [.sl .byte false] [.sv .tbl,.int .i64] (Aq2 k):=fR (px:=Bax _ k) (n:=1) Tryz.func200 rfl (λcx H=>by have h0:Lv cx (Bax (HV [.sv .tbl,.int .i64]) k):=lv H (c1 H Aqq (c1 H A3g (c1 H Ak0 (c1 H Azd (c1 H Bdb Ae))))) Aa Ab;have hlsdec_0:=lO H h0 (b:=lp Tryz.f200 0) (k:=k) (n:=0) (s:=As1) (step:=A59) (λ_ _ _ (_,_,_,_,_,_,_)=>by kernel_rfl) Ai;exact⟨h0,(A2 Ai hlsdec_0)⟩) λ_=>by kernel_rfl
def B1d(b:Str):Option (Tbl×Int):=Aq2 5000 b
def Blq:FT [.sl .byte false] [.sv .tbl,.int .i64]:=λx=>B1d x
theorem Btl:FO 200 [.sl .byte false] [.sv .tbl,.int .i64] Blq :=.fin 0 Boc λ_ _ _ hx=>⟨5000,hx⟩
def tbL(R:Type):List (Nat×G7 R):=[
 (199,cA Awf),
 (52,cA Rh),
 (282,cA Ao2),
 (334,Yx .node),
 (158,Yx .val),
 (322,Aq6 .byte),
 (332,Aq6 .val),
 (312,Aq6 .kv),
 (286,cA Aka),
 (38,cA Avm),
 (57,cA J7),
 (138,cA Abj),
 (197,cA A55),
 (200,cA Blq),
 (244,cA S7),
 (300,cA A84),
 (191,cA Axs),
 (213,cA Aiu),
 (59,cA Nr),
 (226,cA Amd),
 (83,cA Km),
 (18,cA N5),
 (20,cA U5),
 (44,cA Ls),
 (45,cA U4)]
theorem Byb{R:Type}{cx:Cx}(H:HX cx):∀g f,(g,f)∈tbL R->He cx g f:=(c1 H (Brp) (c1 H (Tq) (c1 H (Ar2) (Am (cCl H A3f Aw2) (Am (cCl H A04 Avo) (Am (Bq4 H A8h) (Am (Bq4 H A6n) (Am (Bq4 H Bf4) (c1 H (Bfc) (c1 H (A3g) (c1 H (Md) (c1 H (Ak0) (c1 H (Bdb) (c1 H (Btl) (c1 H (Afe) (c1 H (Bk8) (c1 H (A0k) (c1 H (Alu) (c1 H (Mh) (c1 H (Aix) (c1 H (Mt) (c1 H (Kj) (c1 H (Qp) (c1 H (I2) (c1 H (Qg) Ae)))))))))))))))))))))))))
def tbT(R:Type)(g:Nat):Option (G7 R):=tbl (tbL R) g
def tqL(R:Type):List (Nat×Fx R):=[
 (52,qA Rh),
 (282,qA Ao2),
 (18,qA N5),
 (20,qA U5),
 (44,qA Ls),
 (45,qA U4),
 (213,qA Aiu),
 (226,qA Amd)]
theorem Byt{R:Type}{cx:Cx}(H:HX cx):∀g f,(g,f)∈tqL R->Rm cx g f:=(q1 H (Tq) (q1 H (Ar2) (q1 H (Kj) (q1 H (Qp) (q1 H (I2) (q1 H (Qg) (q1 H (Alu) (q1 H (Aix) Aa))))))))
def tqT(R:Type)(g:Nat):Option (Fx R):=tbl (tqL R) g
def swL:List (Nat×(Sig×Sig)):=[
 (140,(⟨2,[(1,.sl .byte false)],[(0,.ptr 0 0)],[(0,.cells [.int .i64,.sl .byte false,.bool,.sl .byte false,.sl .node false,.sl .byte false,.sl .stt true,.sl .byte false])],1,1,0,[],[]⟩,⟨3,[(0,.sl .byte false),(1,.bool),(2,.int .i64)],[],[(0,.cells [.int .i64,.sl .byte false,.bool,.sl .byte false,.sl .node false,.sl .byte false,.sl .stt true,.sl .byte false])],1,1,0,[],[]⟩)),
 (204,(⟨2,[(1,.sv .tbl)],[(0,.ptr 0 0)],[(0,.cells [.int .i64,.sl .byte false,.bool,.sl .byte false,.sl .node false,.sl .byte false,.sl .stt true,.sl .byte false])],1,1,0,[],[]⟩,⟨2,[(0,.sl .vals false),(1,.int .i64)],[],[(0,.cells [.int .i64,.sl .byte false,.bool,.sl .byte false,.sl .node false,.sl .byte false,.sl .stt true,.sl .byte false])],1,1,0,[],[]⟩)),
 (215,(⟨3,[(1,.sv .tbl),(2,.sl .val false)],[(0,.ptr 0 0)],[(0,.cells [.int .i64,.sl .byte false,.bool,.sl .byte false,.sl .node false,.sl .byte false,.sl .stt true,.sl .byte false])],1,1,0,[],[]⟩,⟨1,[(0,.int .i64)],[],[(0,.cells [.int .i64,.sl .byte false,.bool,.sl .byte false,.sl .node false,.sl .byte false,.sl .stt true,.sl .byte false])],1,1,0,[],[]⟩)),
 (217,(⟨3,[(1,.sv .tbl),(2,.sl .val false)],[(0,.ptr 0 0)],[(0,.cells [.int .i64,.sl .byte false,.bool,.sl .byte false,.sl .node false,.sl .byte false,.sl .stt true,.sl .byte false])],1,1,0,[],[]⟩,⟨1,[(0,.int .i64)],[],[(0,.cells [.int .i64,.sl .byte false,.bool,.sl .byte false,.sl .node false,.sl .byte false,.sl .stt true,.sl .byte false])],1,1,0,[],[]⟩)),
 (311,(⟨3,[(1,.sl .byte false),(2,.sl .vals false)],[(0,.ptr 0 0)],[(0,.cells [.sl .kv true,.int .i64])],1,1,0,[],[]⟩,⟨0,[],[],[(0,.cells [.sl .kv true,.int .i64])],1,1,0,[],[]⟩))]
def swT(g:Nat):Option (Sig×Sig):=tbl swL g
def fnL:List Nat:=[6,13,14,15,16,30,31,32,33,34,35,36,37,39,40,51,53,58,60,64,67,68,69,70,93,94,95,96,97,98,99,100,103,107,108,132,139,140,141,142,143,144,145,146,147,148,149,150,151,152,153,154,155,156,157,159,160,161,162,164,165,166,167,168,184,189,190,193,194,195,196,198,201,202,203,204,205,206,207,208,209,210,211,212,214,215,216,217,218,219,220,221,222,223,224,225,227,234,235,236,238,240,241,242,243,246,247,248,249,250,251,252,253,254,255,256,257,258,261,262,263,264,265,266,267,268,269,270,271,272,273,274,279,280,281,283,284,285,298,299,301,302,303,305,306,311,313,314,315,316,317,318,319,320,331,333,335,336,337,338,340,341,342,343,344,345,346,347,348,349,350,361,362,363,364,365,366,367,368,369,370,371,372,373,385,386,387,388,389,398,399,400]
noncomputable def Blv(g:Nat):Option Func:=match fnL.contains g with|true=>Tryz.prog.funcs.toList[g]?|false=>none
theorem Bx8:(fnL.all λg=>match Tryz.prog.funcs.toList[g]? with
  |some fn => !(fn.name == "runtime.NumGoroutine")&&match fn.body with|some c=>Ee fn.ntmps c|none=>false
  |none=>true)=true:=by kernel_rfl
theorem Blf:Aom Tryz.prog Blv:=by
 intro g fn h;unfold Blv at h;split at h
 ·rename_i hc;have h1:=Zg2.1 Bx8 g (by simpa using hc);rw[h] at h1;simp only[Zb1,Bool.not_eq_true'] at h1;refine⟨by simpa using h,h1.1,?_⟩;cases hb:fn.body with|none=>rw[hb] at h1;simp at h1|some c=>rw[hb] at h1;exact⟨c,rfl,h1.2⟩
 ·cases h
noncomputable def Btn(R:Type):Px R:=co (Aim ttL) glT Blv tbT tqT swT 3000 R
theorem Bwt{cx:Cx}(e1:cx.P=Tryz.prog)(e2:cx.el=elT)(e3:cx.gl=glT):HX cx:=⟨e1,e2,e3,Atj Ae0,follows⟩
theorem Bx1:(swL.all λq=>lnB q.2.1 q.2.2)=true:=by kernel_rfl
theorem Bvq(R:Type)(cx:Cx)(e1:cx.P=Tryz.prog)(e2:cx.el=elT)(e3:cx.gl=glT):Lv2 cx (Btn R) :=A9c follows (Atj Ae0) Blf (λR cx e1 e2 e3 g f h=>Byb (Bwt e1 e2 e3) g f (Ez h)) (λR cx e1 e2 e3 g f h=>Byt (Bwt e1 e2 e3) g f (Ez h)) (λg q h=>Zg2.1 Bx1 (g,q) (Ez h)) 3000 R cx e1 e2 e3
theorem Bzq{f:FuncId}{fn:Func}{c:Code}{sr:List Sg}{r:HV sr}(hf:Tryz.prog.funcs[f]? = some fn)(hb:fn.body=some c)(hname:(fn.name == "runtime.NumGoroutine")=false)(hc:(Ee fn.ntmps c)=true)(hr:A36 (Btn (HV sr)) fn [] sr () some=some r):FO f [] sr (λ_=>some r):=by refine Bc5 hf hb hname follows (px:=Btn (HV sr)) (by rw[hc];simp[Bd,C8]) (λcx e1 e2 e3 _ =>?_) (λ_=>hr);have h:=(Bvq (HV sr) cx e1 e2 e3).to1;exact⟨h.1,h.2.1,h.2.2.1,λb _=>h.2.2.2 b⟩
theorem Bzz:A36 (Btn Bool) Tryz.f6 [] [.bool] () some=some true:=by kernel_rfl
def Aw4:Option Bool:=some true
def Ata:FT [] [.bool]:=λ_=>Aw4
theorem A79:FO 6 [] [.bool] Ata:=by exact Bzq Tryz.func6 rfl (by kernel_rfl) (by kernel_rfl) Bzz
def Bpb(R:Type):Px R:=pxO [(18,cA N5)] [] [] []
def X6(x:HV [.int .i64]):Option (HV [.sl .byte true]):=match x with
 |n =>
 (Akl (Aip .u64 (Aax .u64 (wr .u64 n) 1) (wr .u64 (Dz .i64 n 63)))).bind λx =>some x
theorem Bjc:FO 60 [.int .i64] [.sl .byte true] (X6):=fR (px:=Bpb _) (n:=0) Tryz.func60 rfl (λ_ H=>⟨lv H (c1 H Kj Ae) Aa Ab,Ai⟩) λ_=>by kernel_rfl
def A9e(n:Int):Option Str:=X6 n
def Bbr:FT [.int .i64] [.sl .byte true]:=λx=>A9e x
theorem Bpd:FO 60 [.int .i64] [.sl .byte true] Bbr :=.fin0 Bjc λ_ _ _ hx=>hx
def Bq8(R:Type):Px R:=pxO [(44,cA Ls)] [] [] []
def O8(x:HV [.sl .byte false,.int .i64]):Option (HV [.int .i64,.int .i64,.int .i64]):=match x with
 |(b,p) =>
 (Vv b p).bind λ(x,x1,x2) =>some ((Aip .i64 (wr .i64 (Dz .u64 x 1)) (wr .i64 (0-(wr .i64 (Ek .u64 x 1))))),x1,x2)
theorem Bfg:FO 227 [.sl .byte false,.int .i64] [.int .i64,.int .i64,.int .i64] (O8):=fR (px:=Bq8 _) (n:=0) Tryz.func227 rfl (λ_ H=>⟨lv H (c1 H I2 Ae) Aa Ab,Ai⟩) λ(_,_)=>by kernel_rfl
def Arz(b:Str)(p:Int):Option (Int×Int×Int):=O8 (b,p)
def A92:FT [.sl .byte false,.int .i64] [.int .i64,.int .i64,.int .i64]:=λx=>Arz x.1 x.2
theorem Bpr:FO 227 [.sl .byte false,.int .i64] [.int .i64,.int .i64,.int .i64] A92 :=.fin0 Bfg λ_ _ _ hx=>hx
def Ar6:Sig:=⟨60,[(0,.sl .val false),(2,.sl .byte true),(3,.int .i64),(4,.sl .byte true),(12,.sl .val false),(13,.int .i64),(14,.int .i64)],[],[],0,0,0,[],[]⟩
abbrev Mi:=List Val×List UInt8×Int×List UInt8×List Val×Int×Int
def Qv{R:Type}(rec:Mi->Option R)(kx:Ex->Mi->Option R)(v:Mi):Option R:=match v with
 |(v,v1,v2,v3,v4,v5,v6) =>
 cond (decide (v6<v5)) (
  chk (inb v6 v4.length) (
  cond (!decide ((Fa (at' .val v4 v6))=0)) (
   kx .ret (v,[],(Fa (at' .val v4 v6)),v3,v4,v5,v6)) (
   chk (decide (v3.length+1<=Ag)) (
   cond (decide ((at' .val v4 v6).kind=2)) (
    chk (decide ((v3++[(UInt8.ofNat ((wr .u8 ((at' .val v4 v6).kind)):Int).toNat)]).length+1<=Ag)) (
    rec (v,v1,v2,((v3++[(UInt8.ofNat ((wr .u8 ((at' .val v4 v6).kind)):Int).toNat)])++[(UInt8.ofNat ((wr .u8 ((at' .val v4 v6).n)):Int).toNat)]),v4,v5,(wr .i64 (v6+1))))) (
    cond (decide ((at' .val v4 v6).kind=3)) (
    (A9e ((at' .val v4 v6).n)).bind λx1 =>
     chk (decide ((v3++[(UInt8.ofNat ((wr .u8 ((at' .val v4 v6).kind)):Int).toNat)]).length+x1.length<=Ag)) (
     rec (v,v1,v2,((v3++[(UInt8.ofNat ((wr .u8 ((at' .val v4 v6).kind)):Int).toNat)])++x1),v4,v5,(wr .i64 (v6+1))))) (
    let j:=λ(p:Bool) =>
     cond (p) (
     chk (decide (((at' .val v4 v6).s).length<=Ag)) (
      (Aru ((at' .val v4 v6).s)).bind λx2 =>
      chk (decide ((v3++[(UInt8.ofNat ((wr .u8 ((at' .val v4 v6).kind)):Int).toNat)]).length+x2.length<=Ag)) (
       rec (v,v1,v2,((v3++[(UInt8.ofNat ((wr .u8 ((at' .val v4 v6).kind)):Int).toNat)])++x2),v4,v5,(wr .i64 (v6+1)))))) (
     rec (v,v1,v2,(v3++[(UInt8.ofNat ((wr .u8 ((at' .val v4 v6).kind)):Int).toNat)]),v4,v5,(wr .i64 (v6+1))))
    cond (decide ((at' .val v4 v6).kind=4)) (
     j (decide ((at' .val v4 v6).kind=4))) (
     j (decide ((at' .val v4 v6).kind=5))))))))) (
  kx (.exit 0) (v,v1,v2,v3,v4,v5,v6))
def A95(R:Type)(k:Nat):Px R:=pxO [(18,cA N5),(59,cA Nr),(60,cA Bbr),(20,cA U5)] [] [(3,Al k Ar6 (Qv))] []
def Afb(k:Nat)(x:HV [.sl .val false]):Option (HV [.sl .byte true,.int .i64]):=match x with
 |l =>
 (Akl (wr .u64 (l.length:Int))).bind λx =>
  Aj (λrec=>Qv rec (λe vz=>match vz with|(v7,v8,v9,a,_,_,_)=>match e with
  |.ret =>some (v8,v9)
  |.exit 0 =>
   cond (decide (100<(v7.length:Int))) (
   some ([],3)) (
   some (a,0))
  |_=>none)) k (l,[],0,x,l,(l.length:Int),0)
theorem Brr(k:Nat):FO 40 [.sl .val false] [.sl .byte true,.int .i64] (Afb k):=fR (px:=A95 _ k) (n:=1) Tryz.func40 rfl (λcx H=>by have h0:Lv cx (A95 (HV [.sl .byte true,.int .i64]) k):=lv H (c1 H Kj (c1 H Mh (c1 H Bpd (c1 H Qp Ae)))) Aa Ab;have hlwenc_0:=lO H h0 (b:=lp Tryz.f40 0) (k:=k) (n:=0) (s:=Ar6) (step:=Qv) (λ_ _ _ (_,_,_,_,_,_,_)=>by kernel_rfl) Ai;exact⟨h0,(A2 Ai hlwenc_0)⟩) λ_=>by kernel_rfl
def Bux(l:List Val):Option (Str×Int):=Afb 5000 l
def Boy:FT [.sl .val false] [.sl .byte true,.int .i64]:=λx=>Bux x
theorem Bvt:FO 40 [.sl .val false] [.sl .byte true,.int .i64] Boy :=.fin 0 Brr λ_ _ _ hx=>⟨5000,hx⟩
def Alj:Sig:=⟨30,[(2,.sl .byte true),(3,.int .i64),(4,.sl .bytes true),(9,.sl .vals false),(10,.int .i64),(11,.int .i64)],[],[],0,0,0,[],[]⟩
abbrev Vb:=List UInt8×Int×List (List UInt8)×List (List Val)×Int×Int
def O6{R:Type}(rec:Vb->Option R)(kx:Ex->Vb->Option R)(v:Vb):Option R:=match v with
 |(v,v1,v2,v3,v4,v5) =>
 cond (decide (v5<v4)) (
  chk (inb v5 v3.length) (
  (Bux (at' .vals v3 v5)).bind λ(x,x1) =>
   cond (!decide (x1=0)) (
   kx .ret ([],x1,v2,v3,v4,v5)) (
   chk (decide (v2.length+1<=Ag)) (
    rec (v,v1,(v2++[x]),v3,v4,(wr .i64 (v5+1))))))) (
  kx (.exit 0) (v,v1,v2,v3,v4,v5))
def A1q(R:Type)(k:Nat):Px R:=pxO [(40,cA Boy),(41,cA Aw3)] [] [(3,Al k Alj (O6))] []
def Yk(k:Nat)(x:HV [.sl .vals false]):Option (HV [.sl .byte true,.int .i64]):=match x with
 |l =>
 Aj (λrec=>O6 rec (λe vz=>match vz with|(v6,v7,v8,_,_,_)=>match e with
  |.ret =>
  some (v6,v7)
  |.exit 0 =>
  (Ak1 v8).bind λx2 =>some (x2,0)
  |_=>none)) k ([],0,[],l,(l.length:Int),0)
theorem Bi3(k:Nat):FO 19 [.sl .vals false] [.sl .byte true,.int .i64] (Yk k):=fR (px:=A1q _ k) (n:=1) Tryz.func19 rfl (λcx H=>by have h0:Lv cx (A1q (HV [.sl .byte true,.int .i64]) k):=lv H (c1 H Bvt (c1 H Azk Ae)) Aa Ab;have hlwmany_0:=lO H h0 (b:=lp Tryz.f19 0) (k:=k) (n:=0) (s:=Alj) (step:=O6) (λ_ _ _ (_,_,_,_,_,_)=>by kernel_rfl) Ai;exact⟨h0,(A2 Ai hlwmany_0)⟩) λ_=>by kernel_rfl
def Bc6(l:List (List Val)):Option (Str×Int):=Yk 50000 l
def A83:FT [.sl .vals false] [.sl .byte true,.int .i64]:=λx=>Bc6 x
theorem Bnx:FO 19 [.sl .vals false] [.sl .byte true,.int .i64] A83 :=.fin 0 Bi3 λ_ _ _ hx=>⟨50000,hx⟩
def Au5:Sig:=⟨1,[],[(0,.ptr 0 0)],[(0,.cells [.sl .byte false,.int .i64,.int .i64])],1,1,0,[],[]⟩
def Avn:Sig:=⟨1,[(0,.int .u8)],[],[(0,.cells [.sl .byte false,.int .i64,.int .i64])],1,1,0,[],[]⟩
abbrev Bqo:=List UInt8×Int×Int
abbrev Bpl:=Int×List UInt8×Int×Int
def Btj(R:Type):Px R:=pxO [] [] [] []
def S9(x:Bqo):Option (Bpl):=match x with
 |(b,p,e) =>
 cond (decide (p=(b.length:Int))) (
  some (0,b,p,10)) (
  chk (inb (wr .i64 ((wr .i64 (p+1))-1)) b.length) (
  some (((at' .byte b (wr .i64 ((wr .i64 (p+1))-1))).toNat:Int),b,(wr .i64 (p+1)),e)))
theorem Bk1:FM 164 Au5 Avn (S9):=fRL (px:=Btj _) (n:=0) Tryz.func164 rfl (λ_ H=>⟨lv H Ae Aa Ab,Ai⟩) λ(_,_,_)=>by kernel_rfl
def Lq:Bqo->Option Bpl:=λx=>S9 x
theorem Bug:FM 164 Au5 Avn (Lq):=Bk1
def Ze:Sig:=⟨1,[],[(0,.ptr 0 0)],[(0,.cells [.sl .byte false,.int .i64,.int .i64])],1,1,0,[],[]⟩
def Zb:Sig:=⟨1,[(0,.int .i64)],[],[(0,.cells [.sl .byte false,.int .i64,.int .i64])],1,1,0,[],[]⟩
abbrev Aq0:=List UInt8×Int×Int
abbrev Aq3:=Int×List UInt8×Int×Int
def A5m(R:Type):Px R:=pxO [] [(227,qA A92)] [] []
def It(x:Aq0):Option (Aq3):=match x with
 |(b,p,_) =>
 (Arz b p).bind λ(x,x1,x2) =>some (x,b,x1,x2)
theorem Azi:FM 165 Ze Zb (It):=fRL (px:=A5m _) (n:=0) Tryz.func165 rfl (λ_ H=>⟨lv H Ae (q1 H Bpr Aa) Ab,Ai⟩) λ(_,_,_)=>by kernel_rfl
def Jf:Aq0->Option Aq3:=λx=>It x
theorem A6c:FM 165 Ze Zb (Jf):=Azi
def Ale:Sig:=⟨1,[],[(0,.ptr 0 0)],[(0,.cells [.sl .byte false,.int .i64,.int .i64])],1,1,0,[],[]⟩
def Am9:Sig:=⟨1,[(0,.str)],[],[(0,.cells [.sl .byte false,.int .i64,.int .i64])],1,1,0,[],[]⟩
abbrev Bb8:=List UInt8×Int×Int
abbrev A9h:=Str×List UInt8×Int×Int
def Bjq(R:Type):Px R:=pxO [] [(44,qA Ls),(45,qA U4)] [] []
def Om(x:Bb8):Option (A9h):=match x with
 |(b,p,_) =>
 (Vv b p).bind λ(x,_,x2) =>
  let j:=λ(p3:Int) =>
  cond (!decide (p3=0)) (
   some ([],b,p,p3)) (
   (Ag7 b p).bind λ(x3,x4,x5) =>
   cond (decide (x5=0)) (
    some (x3,b,x4,x5)) (
    some (x3,b,p,x5)))
  cond (decide (x2=0)) (
  cond (decide (1000<x)) (
   j 11) (
   j x2)) (
  j x2)
theorem Bd1:FM 166 Ale Am9 (Om):=fRL (px:=Bjq _) (n:=0) Tryz.func166 rfl (λ_ H=>⟨lv H Ae (q1 H I2 (q1 H Qg Aa)) Ab,Ai⟩) λ(_,_,_)=>by kernel_rfl
def Iu:Bb8->Option A9h:=λx=>Om x
theorem Bpt:FM 166 Ale Am9 (Iu):=Bd1
def Pm:Sig:=⟨2,[(1,.sv .val)],[(0,.ptr 0 0)],[(0,.cells [.sl .byte false,.int .i64,.int .i64])],1,1,0,[],[]⟩
def N9:Sig:=⟨1,[(0,.bool)],[],[(0,.cells [.sl .byte false,.int .i64,.int .i64])],1,1,0,[],[]⟩
abbrev Asa:=Val×List UInt8×Int×Int
abbrev Vk:=Bool×List UInt8×Int×Int
def Ab7:Sig:=⟨53,[(4,.bool),(40,.sl .byte false),(41,.int .i64),(42,.int .i64)],[],[(0,.cells [.sl .byte false,.int .i64,.int .i64])],1,1,0,[],[]⟩
abbrev Kh:=Bool×List UInt8×Int×Int×List UInt8×Int×Int
def I5{R:Type}(rec:Kh->Option R)(kx:Ex->Kh->Option R)(v:Kh):Option R:=match v with
 |(v1,v2,v3,v4,w,w1,w2) =>
 cond (decide (v4<v3)) (
  chk (inb v4 v2.length) (
  cond (decide (((at' .byte v2 v4).toNat:Int)<32)) (
   kx .ret (false,v2,v3,v4,w,w1,w2)) (
   cond (decide (126<((at' .byte v2 v4).toNat:Int))) (
   kx .ret (false,v2,v3,v4,w,w1,w2)) (
   rec (v1,v2,v3,(wr .i64 (v4+1)),w,w1,w2))))) (
  kx (.exit 0) (v1,v2,v3,v4,w,w1,w2))
def Amu(R:Type)(k:Nat):Px R:=pxO [] [(44,qA Ls)] [(7,Al k Ab7 (I5))] []
def D8(k:Nat)(x:Asa):Option (Vk):=match x with
 |(v,b,p,e) =>
 cond (!decide (v.kind=4)) (
  some (true,b,p,e)) (
  cond (!decide (e=10)) (
  some (true,b,p,e)) (
  (Vv b p).bind λ(_,x1,x2) =>
   cond (!decide (x2=0)) (
   some (true,b,p,e)) (
   chk (upto x1 b.length b.length) (
    Aj (λrec=>I5 rec (λe vz=>match vz with|(v5,_,_,_,v9,a,c)=>match e with
    |.ret =>some (v5,v9,a,c)
    |.exit 0 =>some (true,v9,a,c)
    |_=>none)) k (false,(b.drop (x1:Int).toNat),((b.drop (x1:Int).toNat).length:Int),0,b,p,e)))))
theorem A3d(k:Nat):FM 167 Pm N9 (D8 k):=fRL (px:=Amu _ k) (n:=1) Tryz.func167 rfl (λcx H=>by have h0:Lv cx (Amu (Vk) k):=lv H Ae (q1 H I2 Aa) Ab;have hlwprefix_0:=lO H h0 (b:=lp Tryz.f167 0) (k:=k) (n:=0) (s:=Ab7) (step:=I5) (λ_ _ _ (_,_,_,_,_,_,_)=>by kernel_rfl) Ai;exact⟨h0,(A2 Ai hlwprefix_0)⟩) λ(_,_,_,_)=>by kernel_rfl
def Gf:Asa->Option Vk:=λx=>D8 (50000) x
theorem A7d:FM 167 Pm N9 (Gf):=FnLn.fin (ι:=Nat) (sg:=Pm) (so:=N9) 0 (F:=λk=>D8 k) (λk=>A3d k) λ_ _ _ hx=>⟨50000,hx⟩
def Aek:Sig:=⟨1,[],[(0,.ptr 0 0)],[(0,.cells [.sl .byte false,.int .i64,.int .i64])],1,1,0,[],[]⟩
def Ae2:Sig:=⟨1,[(0,.sv .val)],[],[(0,.cells [.sl .byte false,.int .i64,.int .i64])],1,1,0,[],[]⟩
abbrev A18:=List UInt8×Int×Int
abbrev Aau:=Val×List UInt8×Int×Int
def Bej(R:Type):Px R:=pxO [(164,Ak Au5 Avn Lq),(165,Ak Ze Zb Jf),(166,Ak Ale Am9 Iu),(59,cA Nr),(167,Ak Pm N9 Gf)] [] [] []
def Ahh(x:A18):Option (Aau):=match x with
 |(b,p,e) =>
 (Lq (b,p,e)).bind λ(x,x1,x2,x3) =>
  cond (!decide (x3=0)) (
  some ((Val.mk (wr .i64 x) 0 []),x1,x2,x3)) (
  let j2:=λ(q:List UInt8) (q1:Int) (q2:Int) (q3:Val) =>
   let j1:=λ(p2:Bool) =>
   cond (p2) (
    some (q3,q,q1,11)) (
    (Gf (q3,q,q1,q2)).bind λ(d,a,c,f) =>
    cond (!d) (
     some (q3,a,c,11)) (
     some (q3,a,c,f)))
   cond (decide (q2=0)) (
   j1 (!decide ((Fa q3)=0))) (
   j1 false)
  cond (decide ((wr .i64 x)=1)) (
   j2 x1 x2 x3 (Val.mk (wr .i64 x) 0 [])) (
   cond (decide ((wr .i64 x)=2)) (
   (Lq (x1,x2,x3)).bind λ(x4,x5,x6,x7) =>j2 x5 x6 x7 (Val.mk (wr .i64 x) (wr .i64 x4) [])) (
   cond (decide ((wr .i64 x)=3)) (
    (Jf (x1,x2,x3)).bind λ(x8,x9,g,h) =>
    j2 x9 g h (Val.mk (wr .i64 x) x8 [])) (
    let j:=λ(p1:Bool) =>
    cond (p1) (
     (Iu (x1,x2,x3)).bind λ(i,k,l,m) =>
     j2 k l m (Val.mk (wr .i64 x) 0 i)) (
     j2 x1 x2 11 (Val.mk (wr .i64 x) 0 []))
    cond (decide ((wr .i64 x)=4)) (
    j (decide ((wr .i64 x)=4))) (
    j (decide ((wr .i64 x)=5)))))))
theorem A7e:FM 103 Aek Ae2 (Ahh):=fRL (px:=Bej _) (n:=0) Tryz.func103 rfl (λ_ H=>⟨lv H (l1 H Bug (l1 H A6c (l1 H Bpt (c1 H Mh (l1 H A7d Ae))))) Aa Ab,Ai⟩) λ(_,_,_)=>by kernel_rfl
def Np:A18->Option Aau:=λx=>Ahh x
theorem Bh3:FM 103 Aek Ae2 (Np):=A7e
def Asp:Sig:=⟨67,[(0,.sl .byte false),(8,.sl .val true),(26,.int .u64),(27,.int .u64)],[(7,.ptr 0 0)],[(0,.cells [.sl .byte false,.int .i64,.int .i64])],1,0,0,[],[]⟩
abbrev Aca:=List UInt8×List Val×Int×Int×List UInt8×Int×Int
def Ou{R:Type}(rec:Aca->Option R)(kx:Ex->Aca->Option R)(v:Aca):Option R:=match v with
 |(v,v1,v2,v3,w,w1,w2) =>
 cond (decide (v3<v2)) (
  (Np (w,w1,w2)).bind λ(x3,x4,x5,x6) =>
  chk (decide (v1.length+1<=Ag)) (
   cond (!decide (x6=0)) (
   kx (.exit 1) (v,(v1++[x3]),v2,v3,x4,x5,x6)) (
   rec (v,(v1++[x3]),v2,(wr .u64 (v3+1)),x4,x5,x6)))) (
  kx (.exit 1) (v,v1,v2,v3,w,w1,w2))
def Bcw(R:Type)(k:Nat):Px R:=pxO [(44,cA Ls),(103,Ak Aek Ae2 Np)] [] [(9,Al k Asp (Ou))] []
def Ut(k:Nat)(x:HV [.sl .byte false]):Option (HV [.sl .val true,.int .i64]):=match x with
 |b =>
 (Vv b 0).bind λ(x,x1,x2) =>
  cond (!decide (x2=0)) (
  some ([],x2)) (
  cond (decide (100<x)) (
   some ([],11)) (
   Aj (λrec=>Ou rec (λe vz=>match vz with|(v4,v5,_,_,_,v9,a)=>match e with
   |.exit 1 =>
    cond (decide (a=0)) (
    cond (decide (v9<(v4.length:Int))) (
     some ([],11)) (
     cond (!decide (a=0)) (
     some ([],a)) (
     some (v5,0)))) (
    cond (!decide (a=0)) (
     some ([],a)) (
     some (v5,0)))
   |_=>none)) k (b,[],x,0,b,x1,0)))
theorem Bkw(k:Nat):FO 64 [.sl .byte false] [.sl .val true,.int .i64] (Ut k):=fR (px:=Bcw _ k) (n:=1) Tryz.func64 rfl (λcx H=>by have h0:Lv cx (Bcw (HV [.sl .val true,.int .i64]) k):=lv H (c1 H I2 (l1 H Bh3 Ae)) Aa Ab;have hlwdec_0:=lO H h0 (b:=lp Tryz.f64 0) (k:=k) (n:=0) (s:=Asp) (step:=Ou) (λ_ _ _ (_,_,_,_,_,_,_)=>by kernel_rfl) Ai;exact⟨h0,(A2 Ai hlwdec_0)⟩) λ_=>by kernel_rfl
def Bd3(b:Str):Option (List Val×Int):=Ut 5000 b
def Bp3:FT [.sl .byte false] [.sl .val true,.int .i64]:=λx=>Bd3 x
theorem Bvr:FO 64 [.sl .byte false] [.sl .val true,.int .i64] Bp3 :=.fin 0 Bkw λ_ _ _ hx=>⟨5000,hx⟩
def Aqr:Sig:=⟨39,[(2,.sl .vals true),(3,.int .i64),(6,.sl .vals true),(19,.sl .bytes true),(20,.int .i64),(21,.int .i64)],[],[],0,0,0,[],[]⟩
abbrev Aag:=List (List Val)×Int×List (List Val)×List (List UInt8)×Int×Int
def Oo{R:Type}(rec:Aag->Option R)(kx:Ex->Aag->Option R)(v:Aag):Option R:=match v with
 |(v,v1,v2,v3,v4,v5) =>
 cond (decide (v5<v4)) (
  chk (inb v5 v3.length) (
  (Bd3 (at' .bytes v3 v5)).bind λ(x2,x3) =>
   cond (!decide (x3=0)) (
   kx .ret ([],x3,v2,v3,v4,v5)) (
   chk (decide (v2.length+1<=Ag)) (
    rec (v,v1,(v2++[x2]),v3,v4,(wr .i64 (v5+1))))))) (
  kx (.exit 0) (v,v1,v2,v3,v4,v5))
def A88(R:Type)(k:Nat):Px R:=pxO [(63,cA Amc),(64,cA Bp3)] [] [(6,Al k Aqr (Oo))] []
def Ji(k:Nat)(x:HV [.sl .byte false]):Option (HV [.sl .vals true,.int .i64]):=match x with
 |b =>
 (Yq b).bind λ(x,x1) =>
  cond (!decide (x1=0)) (
  some ([],x1)) (
  Aj (λrec=>Oo rec (λe vz=>match vz with|(v6,v7,v8,_,_,_)=>match e with
   |.ret =>
   some (v6,v7)
   |.exit 0 =>
   some (v8,0)
   |_=>none)) k ([],0,[],x,(x.length:Int),0))
theorem Bpp(k:Nat):FO 46 [.sl .byte false] [.sl .vals true,.int .i64] (Ji k):=fR (px:=A88 _ k) (n:=1) Tryz.func46 rfl (λcx H=>by have h0:Lv cx (A88 (HV [.sl .vals true,.int .i64]) k):=lv H (c1 H Aqq (c1 H Bvr Ae)) Aa Ab;have hlwfew_0:=lO H h0 (b:=lp Tryz.f46 0) (k:=k) (n:=0) (s:=Aqr) (step:=Oo) (λ_ _ _ (_,_,_,_,_,_)=>by kernel_rfl) Ai;exact⟨h0,(A2 Ai hlwfew_0)⟩) λ_=>by kernel_rfl
def Bub(b:Str):Option (List (List Val)×Int):=Ji 50000 b
def Bkb:FT [.sl .byte false] [.sl .vals true,.int .i64]:=λx=>Bub x
theorem Bvg:FO 46 [.sl .byte false] [.sl .vals true,.int .i64] Bkb :=.fin 0 Bpp λ_ _ _ hx=>⟨50000,hx⟩
def Agz:Sig:=⟨51,[(2,.bool),(41,.sl .res false),(42,.int .i64),(43,.int .i64)],[],[],0,0,0,[],[]⟩
abbrev N3:=Bool×List ResS×Int×Int
def Gt{R:Type}(rec:N3->Option R)(kx:Ex->N3->Option R)(v:N3):Option R:=match v with
 |(v,v1,v2,v3) =>
 cond (decide (v3<v2)) (
  chk (inb v3 v1.length) (
  cond (decide ((at' .res v1 v3).n<0)) (
   kx .ret (false,v1,v2,v3)) (
   rec (v,v1,v2,(wr .i64 (v3+1)))))) (
  kx (.exit 0) (v,v1,v2,v3))
def Aus(R:Type)(k:Nat):Px R:=pxO [] [] [(4,Al k Agz (Gt))] []
def Ahc(k:Nat)(x:HV [.sv .outc]):Option (HV [.bool]):=match x with
 |o =>
 let j3:=λ(_:Unit) =>
  Aj (λrec=>Gt rec (λe vz=>match vz with|(v4,_,_,_)=>match e with
  |.ret =>some v4
  |.exit 0 =>some true
  |_=>none)) k (false,o.l,(o.l.length:Int),0)
 let j2:=λ(p:Bool) =>
  let j1:=λ(p1:Bool) =>
  let j:=λ(p2:Bool) =>
   cond (p2) (
   some false) (
   cond (!decide (o.e=0)) (
    cond (decide (0<(o.l.length:Int))) (
    some false) (
    cond (decide (50<(o.l.length:Int))) (
     some false) (
     j3 ()))) (
    cond (decide (50<(o.l.length:Int))) (
    some false) (
    j3 ())))
  cond (p1) (
   j true) (
   j (decide (50<o.pos)))
  cond (p) (
  j1 true) (
  j1 (decide (o.pos<0)))
 cond (decide (o.e<0)) (
  j2 true) (
  j2 (decide (999<o.e)))
theorem A63(k:Nat):FO 17 [.sv .outc] [.bool] (Ahc k):=fR (px:=Aus _ k) (n:=1) Tryz.func17 rfl (λcx H=>by have h0:Lv cx (Aus (HV [.bool]) k):=lv H Ae Aa Ab;have hltright_0:=lO H h0 (b:=lp Tryz.f17 0) (k:=k) (n:=0) (s:=Agz) (step:=Gt) (λ_ _ _ (_,_,_,_)=>by kernel_rfl) Ai;exact⟨h0,(A2 Ai hltright_0)⟩) λ_=>by kernel_rfl
def Av8(o:OutS):Option Bool:=Ahc 5000 o
def A03:FT [.sv .outc] [.bool]:=λx=>Av8 x
theorem Biv:FO 17 [.sv .outc] [.bool] A03 :=.fin 0 A63 λ_ _ _ hx=>⟨5000,hx⟩
def Atb:Sig:=⟨67,[(2,.sl .byte true),(3,.int .i64),(4,.sl .byte true),(5,.bool),(30,.sl .res false),(31,.int .i64),(32,.int .i64)],[],[],0,0,0,[],[]⟩
abbrev Ac5:=List UInt8×Int×List UInt8×Bool×List ResS×Int×Int
def X9{R:Type}(rec:Ac5->Option R)(kx:Ex->Ac5->Option R)(v:Ac5):Option R:=match v with
 |(v,v1,v2,v3,v4,v5,v6) =>
 cond (decide (v6<v5)) (
  chk (inb v6 v4.length) (
  (Bc6 ((at' .res v4 v6).rows)).bind λ(x4,x5) =>
   cond (!decide (x5=0)) (
   kx .ret ([],2,v2,v3,v4,v5,v6)) (
   let j:=λ(p1:Bool) =>
    (Akl (wr .u64 ((at' .res v4 v6).n))).bind λx6 =>
    chk (decide (v2.length+x6.length<=Ag)) (
     (Aru x4).bind λx7 =>
     chk (decide ((v2++x6).length+x7.length<=Ag)) (
      rec (v,v1,((v2++x6)++x7),p1,v4,v5,(wr .i64 (v6+1)))))
   cond (v3) (
    j true) (
    j (decide (1048576<(x4.length:Int))))))) (
  kx (.exit 0) (v,v1,v2,v3,v4,v5,v6))
def A9z(R:Type)(k:Nat):Px R:=pxO [(17,cA A03),(18,cA N5),(19,cA A83),(20,cA U5)] [] [(7,Al k Atb (X9))] [(18,Aiv [.int .u64] .byte N5)]
def Aez(k:Nat)(x:HV [.sv .outc]):Option (HV [.sl .byte true,.int .i64]):=match x with
 |o =>
 (Av8 o).bind λx =>
  cond (!x) (
  some ([],2)) (
  (Akl (wr .u64 o.e)).bind λx1 =>
   (Akl (wr .u64 o.pos)).bind λx2 =>
   chk (decide (x1.length+x2.length<=Ag)) (
    (Akl (wr .u64 (o.l.length:Int))).bind λx3 =>
    chk (decide ((x1++x2).length+x3.length<=Ag)) (
     Aj (λrec=>X9 rec (λe vz=>match vz with|(v7,v8,v9,a,_,_,_)=>match e with
     |.ret =>some (v7,v8)
     |.exit 0 =>
      cond (a) (
      some ([],3)) (
      cond (decide (1048576<(v9.length:Int))) (
       some ([],3)) (
       some (v9,0)))
     |_=>none)) k ([],0,((x1++x2)++x3),false,o.l,(o.l.length:Int),0))))
theorem Bn7(k:Nat):FO 7 [.sv .outc] [.sl .byte true,.int .i64] (Aez k):=fR (px:=A9z _ k) (n:=1) Tryz.func7 rfl (λcx H=>by have h0:Lv cx (A9z (HV [.sl .byte true,.int .i64]) k):=lv H (c1 H Biv (c1 H Kj (c1 H Bnx (c1 H Qp Ae)))) Aa (wo1 H Kj Ab);have hltenc_0:=lO H h0 (b:=lp Tryz.f7 0) (k:=k) (n:=0) (s:=Atb) (step:=X9) (λ_ _ _ (_,_,_,_,_,_,_)=>by kernel_rfl) Ai;exact⟨h0,(A2 Ai hltenc_0)⟩) λ_=>by kernel_rfl
def A54(o:OutS):Option (Str×Int):=Aez 5000 o
def A6x:FT [.sv .outc] [.sl .byte true,.int .i64]:=λx=>A54 x
theorem Bbi:FO 7 [.sv .outc] [.sl .byte true,.int .i64] A6x :=.fin 0 Bn7 λ_ _ _ hx=>⟨5000,hx⟩
def Akw:Sig:=⟨26,[(0,.sl .val false),(1,.sl .val false),(4,.bool),(12,.int .i64),(13,.int .i64)],[],[],0,0,0,[],[]⟩
abbrev Tr:=List Val×List Val×Bool×Int×Int
def Tv{R:Type}(rec:Tr->Option R)(kx:Ex->Tr->Option R)(v:Tr):Option R:=match v with
 |(v,v1,v2,v3,v4) =>
 cond (decide (v4<v3)) (
  chk (inb v4 v.length) (
  chk (inb v4 v1.length) (
   cond (!decide ((at' .val v v4)=(at' .val v1 v4))) (
   kx .ret (v,v1,false,v3,v4)) (
   rec (v,v1,v2,v3,(wr .i64 (v4+1))))))) (
  kx (.exit 0) (v,v1,v2,v3,v4))
def A1z(R:Type)(k:Nat):Px R:=pxO [] [] [(4,Al k Akw (Tv))] []
def O2(k:Nat)(x:HV [.sl .val false,.sl .val false]):Option (HV [.bool]):=match x with
 |(a,b) =>
 cond (!decide ((a.length:Int)=(b.length:Int))) (
  some false) (
  Aj (λrec=>Tv rec (λe vz=>match vz with|(_,_,v7,_,_)=>match e with
  |.ret =>some v7
  |.exit 0 =>some true
  |_=>none)) k (a,b,false,(a.length:Int),0))
theorem Bgk(k:Nat):FO 30 [.sl .val false,.sl .val false] [.bool] (O2 k):=fR (px:=A1z _ k) (n:=1) Tryz.func30 rfl (λcx H=>by have h0:Lv cx (A1z (HV [.bool]) k):=lv H Ae Aa Ab;have hltsrow_0:=lO H h0 (b:=lp Tryz.f30 0) (k:=k) (n:=0) (s:=Akw) (step:=Tv) (λ_ _ _ (_,_,_,_,_)=>by kernel_rfl) Ai;exact⟨h0,(A2 Ai hltsrow_0)⟩) λ(_,_)=>by kernel_rfl
def Bou(a b:List Val):Option Bool:=O2 5000 (a,b)
def A9x:FT [.sl .val false,.sl .val false] [.bool]:=λx=>Bou x.1 x.2
theorem Bp2:FO 30 [.sl .val false,.sl .val false] [.bool] A9x :=.fin 0 Bgk λ_ _ _ hx=>⟨5000,hx⟩
def Anf:Sig:=⟨77,[(4,.bool),(31,.sl .res false),(32,.int .i64),(33,.int .i64),(59,.int .i64),(60,.int .i64)],[(3,.ptr 1 0),(6,.ptr 2 0),(7,.ptr 3 0)],[(1,.one (.sv .outc)),(2,.one (.sv .res)),(3,.one (.sv .res))],4,0,0,[],[]⟩
abbrev Uq:=Bool×List ResS×Int×Int×Int×Int×OutS×ResS×ResS
def Pr{R:Type}(rec:Uq->Option R)(kx:Ex->Uq->Option R)(v:Uq):Option R:=match v with
 |(v4,v5,v6,v7,v8,v9,w1,w2,w3) =>
 cond (decide (v9<v8)) (
  chk (inb v9 w2.rows.length) (
  chk (inb v9 w3.rows.length) (
   (Bou (at' .vals w2.rows v9) (at' .vals w3.rows v9)).bind λx =>
   cond (!x) (
    kx .ret (false,v5,v6,v7,v8,v9,w1,w2,w3)) (
    rec (v4,v5,v6,v7,v8,(wr .i64 (v9+1)),w1,w2,w3))))) (
  kx (.exit 2) (v4,v5,v6,v7,v8,v9,w1,w2,w3))
def Alc:Sig:=⟨77,[(4,.bool),(31,.sl .res false),(32,.int .i64),(33,.int .i64)],[(3,.ptr 1 0)],[(1,.one (.sv .outc))],2,0,0,[],[]⟩
abbrev Um:=Bool×List ResS×Int×Int×OutS
def I3{R:Type}(k:Nat)(rec:Um->Option R)(kx:Ex->Um->Option R)(v:Um):Option R:=match v with
 |(v,v1,v2,v3,w) =>
 cond (decide (v3<v2)) (
  chk (inb v3 v1.length) (
  chk (inb v3 w.l.length) (
   cond (!decide ((at' .res v1 v3).n=(at' .res w.l v3).n)) (
   kx .ret (false,v1,v2,v3,w)) (
   cond (!decide ((((at' .res v1 v3).rows).length:Int)=(((at' .res w.l v3).rows).length:Int))) (
    kx .ret (false,v1,v2,v3,w)) (
    Aj (λrc=>Pr rc (λe vz=>match vz with|(a,b,c,d,_,_,f,_,_)=>match e with
    |.ret =>kx .ret (a,b,c,d,f)
    |.exit 2 =>rec (a,b,c,(wr .i64 (d+1)),f)
    |_=>none)) k (v,v1,v2,v3,(((at' .res v1 v3).rows).length:Int),0,w,(at' .res v1 v3),(at' .res w.l v3))))))) (
  kx (.exit 0) (v,v1,v2,v3,w))
def A3a(R:Type)(k:Nat):Px R:=pxO [(30,cA A9x)] [] [(10,Al k Anf (Pr)),(4,Al k Alc (I3 k))] []
def Pq(k:Nat)(x:HV [.sv .outc,.sv .outc]):Option (HV [.bool]):=match x with
 |(a,b) =>
 cond (!decide (a.e=b.e)) (
  some false) (
  cond (!decide (a.pos=b.pos)) (
  some false) (
  cond (!decide ((a.l.length:Int)=(b.l.length:Int))) (
   some false) (
   Aj (λrec=>I3 k rec (λe vz=>match vz with|(c,_,_,_,_)=>match e with
   |.ret =>some c
   |.exit 0 =>some true
   |_=>none)) k (false,a.l,(a.l.length:Int),0,b))))
theorem Bif(k:Nat):FO 13 [.sv .outc,.sv .outc] [.bool] (Pq k):=fR (px:=A3a _ k) (n:=2) Tryz.func13 rfl (λcx H=>by have h0:Lv cx (A3a (HV [.bool]) k):=lv H (c1 H Bp2 Ae) Aa Ab;have hltsame_1:=lO H h0 (b:=lpC (lp Tryz.f13 0) 0) (k:=k) (n:=0) (s:=Anf) (step:=Pr) (λ_ _ _ (_,_,_,_,_,_,_,_,_)=>by kernel_rfl) Ai;have hltsame_0:=lO H h0 (b:=lp Tryz.f13 0) (k:=k) (n:=1) (s:=Alc) (step:=I3 k) (λ_ _ _ (_,_,_,_,_)=>by kernel_rfl) (A2 Ai hltsame_1);exact⟨h0,(A2 (A2 Ai hltsame_0) hltsame_1)⟩) λ(_,_)=>by kernel_rfl
def Bb1(a b:OutS):Option Bool:=Pq 5000 (a,b)
def Awc:FT [.sv .outc,.sv .outc] [.bool]:=λx=>Bb1 x.1 x.2
theorem A0p:FO 13 [.sv .outc,.sv .outc] [.bool] Awc :=.fin 0 Bif λ_ _ _ hx=>⟨5000,hx⟩
def Ajd:Sig:=⟨1,[],[(0,.ptr 0 0)],[(0,.cells [.sl .byte false,.int .i64,.bool])],1,1,0,[],[]⟩
def Aja:Sig:=⟨1,[(0,.int .i64)],[],[(0,.cells [.sl .byte false,.int .i64,.bool])],1,1,0,[],[]⟩
abbrev Bsl:=List UInt8×Int×Bool
abbrev Bsw:=Int×List UInt8×Int×Bool
def Bu6(R:Type):Px R:=pxO [] [(44,qA Ls)] [] []
def Uy(x:Bsl):Option (Bsw):=match x with
 |(b,p,c) =>
 (Vv b p).bind λ(x,x1,x2) =>
  cond (!decide (x2=0)) (
  some (0,b,p,true)) (
  cond (decide (9223372036854775807<x)) (
   some (0,b,p,true)) (
   some ((wr .i64 x),b,x1,c)))
theorem Bjx:FM 24 Ajd Aja (Uy):=fRL (px:=Bu6 _) (n:=0) Tryz.func24 rfl (λ_ H=>⟨lv H Ae (q1 H I2 Aa) Ab,Ai⟩) λ(_,_,_)=>by kernel_rfl
def Hb:Bsl->Option Bsw:=λx=>Uy x
theorem A9i:FM 24 Ajd Aja (Hb):=Bjx
def Awp:Sig:=⟨1,[],[(0,.ptr 0 0)],[(0,.cells [.sl .byte false,.int .i64,.bool])],1,1,0,[],[]⟩
def Avk:Sig:=⟨1,[(0,.sv .res)],[],[(0,.cells [.sl .byte false,.int .i64,.bool])],1,1,0,[],[]⟩
abbrev Blx:=List UInt8×Int×Bool
abbrev Bne:=ResS×List UInt8×Int×Bool
def Bu8(R:Type):Px R:=pxO [(24,Ak Ajd Aja Hb),(46,cA Bkb)] [(45,qA U4)] [] []
def Tz(x:Blx):Option (Bne):=match x with
 |(b,p,c) =>
 (Hb (b,p,c)).bind λ(x,x1,x2,x3) =>
  (Ag7 x1 x2).bind λ(x4,x5,x6) =>
  cond (!decide (x6=0)) (
   some ((ResS.mk [] 0),x1,x2,true)) (
   (Bub x4).bind λ(x7,x8) =>
   cond (x3) (
    some ((ResS.mk x7 x),x1,x5,true)) (
    some ((ResS.mk x7 x),x1,x5, !decide (x8=0))))
theorem Bqd:FM 25 Awp Avk (Tz):=fRL (px:=Bu8 _) (n:=0) Tryz.func25 rfl (λ_ H=>⟨lv H (l1 H A9i (c1 H Bvg Ae)) (q1 H Qg Aa) Ab,Ai⟩) λ(_,_,_)=>by kernel_rfl
def Zj:Blx->Option Bne:=λx=>Tz x
theorem Bvk:FM 25 Awp Avk (Zj):=Bqd
def Aqg:Sig:=⟨65,[(0,.sl .byte false),(6,.int .i64),(7,.int .i64)],[(2,.ptr 0 0),(4,.ptr 1 0),(5,.ptr 2 0)],[(0,.cells [.int .i64,.int .i64,.sl .res true]),(1,.cells [.sl .byte false,.int .i64,.bool]),(2,.cells [.int .i64,.int .i64,.sl .res true])],3,0,0,[],[]⟩
abbrev Acj:=List UInt8×Int×Int×Int×Int×List ResS×List UInt8×Int×Bool×Int×Int×List ResS
def S8{R:Type}(rec:Acj->Option R)(kx:Ex->Acj->Option R)(v:Acj):Option R:=match v with
 |(v,v1,v2,w,w1,w2,w3,w4,w5,w6,w7,w8) =>
 cond (decide (v2<v1)) (
  cond (decide (v2<=50)) (
  cond (!w5) (
   (Zj (w3,w4,w5)).bind λ(a,b,c,d) =>
   chk (decide (w8.length+1<=Ag)) (
    rec (v,v1,(wr .i64 (v2+1)),w,w1,w2,b,c,d,w6,w7,(w8++[a])))) (
   kx (.exit 0) (v,v1,v2,w,w1,w2,w3,w4,w5,w6,w7,w8))) (
  kx (.exit 0) (v,v1,v2,w,w1,w2,w3,w4,w5,w6,w7,w8))) (
  kx (.exit 0) (v,v1,v2,w,w1,w2,w3,w4,w5,w6,w7,w8))
def Bam(R:Type)(k:Nat):Px R:=pxO [(24,Ak Ajd Aja Hb),(7,cA A6x)] [] [(5,Al k Aqg (S8))] [(25,Cy Awp Avk Zj)]
def Vf(k:Nat)(x:HV [.sl .byte false]):Option (HV [.sv .outc,.int .i64]):=match x with
 |b =>
 (Hb (b,0,false)).bind λ(x,x1,x2,x3) =>
  (Hb (x1,x2,x3)).bind λ(x4,x5,x6,x7) =>
  (Hb (x5,x6,x7)).bind λ(x8,x9,f,g) =>
   Aj (λrec=>S8 rec (λe vz=>match vz with|(v3,_,_,_,_,_,_,_,h,a,c,d)=>match e with
   |.exit 0 =>
    (A54 (OutS.mk a c d)).bind λ(i,j) =>
    cond (h) (
     some ((OutS.mk 0 0 []),11)) (
     cond (!decide (j=0)) (
     some ((OutS.mk 0 0 []),11)) (
     cond (!decide (i=v3)) (
      some ((OutS.mk 0 0 []),11)) (
      some ((OutS.mk a c d),0))))
   |_=>none)) k (b,x8,0,0,0,[],x9,f,g,x,x4,[])
theorem Br5(k:Nat):FO 9 [.sl .byte false] [.sv .outc,.int .i64] (Vf k):=fR (px:=Bam _ k) (n:=1) Tryz.func9 rfl (λcx H=>by have h0:Lv cx (Bam (HV [.sv .outc,.int .i64]) k):=lv H (l1 H A9i (c1 H Bbi Ae)) Aa (w1 H Bvk Ab);have hltdec_0:=lO H h0 (b:=lp Tryz.f9 0) (k:=k) (n:=0) (s:=Aqg) (step:=S8) (λ_ _ _ (_,_,_,_,_,_,_,_,_,_,_,_)=>by kernel_rfl) Ai;exact⟨h0,(A2 Ai hltdec_0)⟩) λ_=>by kernel_rfl
def A77(b:Str):Option (OutS×Int):=Vf 5000 b
def Blh:FT [.sl .byte false] [.sv .outc,.int .i64]:=λx=>A77 x
theorem Bt8:FO 9 [.sl .byte false] [.sv .outc,.int .i64] Blh :=.fin 0 Br5 λ_ _ _ hx=>⟨5000,hx⟩
def Av:Nat->Nat->Str
 |0,n=>[UInt8.ofNat n]
 |k+1,n=>if n<128 then [UInt8.ofNat n] else UInt8.ofNat (n % 128+128)::Av k (n / 128)
theorem A3:∀k n,1<=(Av k n).length/\(Av k n).length<=k+1
 |0,n=>by simp[Av]
 |k+1,n=>by
  have:=A3 k (n / 128);simp[Av]
  grind
theorem Bwe:∀m:Nat,m<256->UInt8.ofNat (ior .u8 ((m:Nat):Int) 128).toNat=UInt8.ofNat (m % 128+128):=by decide +kernel
theorem Az3(n:Nat):wr .u8 (n:Int)=((n % 256:Nat):Int):=by simp[wr,IntKind.wrap,IntKind.bits,IntKind.signed]
theorem Br{n:Nat}(h:n<18446744073709551616):wr .u64 (n:Int)=(n:Int):=by simp[wr,IntKind.wrap,IntKind.bits,IntKind.signed];omega
theorem B05(n:Nat):Dz .u64 (n:Int) 7=((n / 128:Nat):Int):=by
 simp only[Dz];rw[show(2 ^ min (7:Int).toNat IntKind.u64.bits:Int)=128 from by decide]
 grind
theorem Aes{kx:Ex->Abm->Option Str}(hx:∀n acc,kx (.exit 0) (n,acc)=chk (decide (acc.length+1<=Ag)) (some (acc++[UInt8.ofNat (wr .u8 n).toNat]))):∀(k m n:Nat) (acc:Str),n<128 ^ (k+1)->k<m->acc.length+k<=1000->Aj (λrec=>Y1 rec kx) m ((n:Int),acc)=some (acc++Av k n)
 |k,0,_,_,_,h,_=>by omega
 |k,m+1,n,acc,hn,hm,ha=>by
  have c1:decide (acc.length+1<=Ag)=true:=Ze1 (by simp[Ag];omega);have low:n<128->Aj (λrec=>Y1 rec kx) (m+1) ((n:Int),acc)=some (acc++[UInt8.ofNat n]):=λh=>by simp only[Aj,Y1,Zd1 (show ¬(128:Int)<=(n:Int) by omega),Af,hx,c1,chk,Ah,Az3,Int.toNat_natCast];rw[Nat.mod_eq_of_lt (by omega)]
  cases k with
  |zero=>exact low (by simpa using hn)
  |succ k =>
   simp only[Av];split
   ·rename_i h;exact low h
   ·rename_i h;have ih:=Aes hx k m (n / 128) (acc++[UInt8.ofNat (n % 128+128)]) (Nat.div_lt_of_lt_mul (by rw[Nat.pow_succ] at hn;omega)) (by omega) (by simp[ Zi1];omega);have e:UInt8.ofNat (ior .u8 (wr .u8 (n:Int)) 128).toNat=UInt8.ofNat (n % 128+128):=by rw[Az3,Bwe _ (Nat.mod_lt _ (by omega))];congr 1;omega
    simp only[Aj,Y1,Ze1 (show(128:Int)<=(n:Int) by omega),c1,e,B05];rw[<-List.append_cons] at ih;exact ih
theorem A9u{n:Nat}(h:n<128 ^ 6):Akl (n:Int)=some (Av 5 n):=by
 have:=Aes (kx:=λe vz=>match vz with|(v2,v3)=>match e with
  |.exit 0=>chk (decide (v3.length+1<=Ag)) (some (v3++[UInt8.ofNat (wr .u8 v2).toNat]))
  |_=>none) (λ_ _=>rfl) 5 100 n [] h (by omega) (by simp)
 exact this
theorem Abh{s:Str}(h:s.length<=274877906900):Aru s=some (Av 5 s.length++s):=by have e:wr .u64 (s.length:Int)=(s.length:Int):=Br (by omega);have:=A3 5 s.length;simp[Aru,Yd,e,A9u (show s.length<128 ^ 6 by omega)];rw[Ze1 (by simp[Ag];omega)];rfl
def Ch:List Str->Str
 |[]=>[]
 |s::l=>(Av 5 s.length++s)++Ch l
theorem A5d{l:List Str}{kx:Ex->T6->Option Str}(hn:ln l.length)(hx:∀acc,kx (.exit 0) (acc,l,(l.length:Int),(l.length:Int))=some acc)(k:Nat)(hk:l.length<k)(acc:Str)(ha:acc.length+(Ch l).length<=274877906900) :
  Aj (λrec=>Us rec kx) k (acc,l,(l.length:Int),0)=some (acc++Ch l):=by
 refine(H0 l.length (λi acc=>(acc,l,(l.length:Int),(i:Int))) (λi a=>a.length+(Ch (l.drop i)).length<=274877906900) (λi a=>some (a++Ch (l.drop i))) (λi hi a hb rec hr =>?_) (λa _ rec =>?_) k 0 acc (Nat.zero_le _) (by omega) (by rw[Zq1];exact ha)).trans (by rw[Zq1])
 ·rw[Ay hi] at hb ⊢;simp[Ch] at hb ⊢;simp only[Us,Cb hi,Au hi,chk,Aq (c :=.bytes) hi];rw[Abh (by omega),Zc1,Ze1 (by simp[Ag];omega),Ah,Ao hi hn,hr _ (by simp;omega)];simp
 ·simp only[Us,hx];simp[Ch]
def Gi(l:List Str):Str:=Av 5 l.length++Ch l
theorem Bo3{l:List Str}(hl:l.length<50000)(hs:(Ch l).length<=274877906000):Ak1 l=some (Gi l):=by have:=A3 5 l.length;simp[Ak1,Ys];rw[Br (by omega),A9u (by omega),Zc1];exact A5d (by simp[ln];omega) (λ_=>rfl) 50000 hl _ (by omega)
def Aqp:Sig:=⟨77,[(0,.sl .byte false),(1,.int .i64),(4,.int .u64),(5,.int .i64),(6,.int .i64),(7,.int .u64),(8,.int .u64),(9,.int .i64)],[],[],0,0,0,[],[]⟩
abbrev S2:=List UInt8×Int×Int×Int×Int×Int×Int×Int
def Gm{R:Type}(rec:S2->Option R)(kx:Ex->S2->Option R)(v:S2):Option R:=match v with
 |(v,v1,v2,v3,v4,v5,v6,v7) =>
 cond (decide (v7<(v.length:Int))) (
  chk (inb v7 v.length) (
  let j2:=λ(_:Unit) =>
   chk (inb v7 v.length) (
   cond (decide (((at' .byte v v7).toNat:Int)<128)) (
    kx .ret (v,v1,(wr .u64 (v5+(wr .u64 ((wr .u64 (Int.tmod ((at' .byte v v7).toNat:Int) 128))*v6)))),(wr .i64 (v7+1)),0,(wr .u64 (v5+(wr .u64 ((wr .u64 (Int.tmod ((at' .byte v v7).toNat:Int) 128))*v6)))),(wr .u64 (v6*128)),v7)) (
    rec (v,v1,v2,v3,v4,(wr .u64 (v5+(wr .u64 ((wr .u64 (Int.tmod ((at' .byte v v7).toNat:Int) 128))*v6)))),(wr .u64 (v6*128)),(wr .i64 (v7+1)))))
  let j1:=λ(p3:Bool) =>
   let j:=λ(p4:Bool) =>
   cond (p4) (
    kx .ret (v,v1,0,0,11,v5,v6,v7)) (
    cond (decide (v1<v7)) (
    chk (inb v7 v.length) (
     cond (decide (((at' .byte v v7).toNat:Int)=0)) (
     kx .ret (v,v1,0,0,11,v5,v6,v7)) (
     j2 ()))) (
    j2 ()))
   cond (p3) (
   chk (inb v7 v.length) (
    j (!decide (((at' .byte v v7).toNat:Int)=1)))) (
   j false)
  cond (decide ((wr .i64 (v7-v1))=9)) (
   chk (inb v7 v.length) (
   j1 (!decide (((at' .byte v v7).toNat:Int)=0)))) (
   j1 false))) (
  kx (.exit 0) (v,v1,v2,v3,v4,v5,v6,v7))
def Bds(R:Type)(k:Nat):Px R:=pxO [] [] [(6,Al k Aqp (Gm))] []
def Afd(k:Nat)(x:HV [.sl .byte false,.int .i64]):Option (HV [.int .u64,.int .i64,.int .i64]):=match x with
 |(b,p) =>
 cond (decide (p<0)) (
  some (0,0,2)) (
  cond (decide ((b.length:Int)<p)) (
  some (0,0,2)) (
  Aj (λrec=>Gm rec (λe vz=>match vz with|(_,_,a,c,d,_,_,_)=>match e with
   |.ret =>
   some (a,c,d)
   |.exit 0 =>
   some (0,0,10)
   |_=>none)) k (b,p,0,0,0,0,1,p)))
theorem Bk0(k:Nat):FO 47 [.sl .byte false,.int .i64] [.int .u64,.int .i64,.int .i64] (Afd k):=fR (px:=Bds _ k) (n:=1) Tryz.func47 rfl (λcx H=>by have h0:Lv cx (Bds (HV [.int .u64,.int .i64,.int .i64]) k):=lv H Ae Aa Ab;have hlrget_0:=lO H h0 (b:=lp Tryz.f47 0) (k:=k) (n:=0) (s:=Aqp) (step:=Gm) (λ_ _ _ (_,_,_,_,_,_,_,_)=>by kernel_rfl) Ai;exact⟨h0,(A2 Ai hlrget_0)⟩) λ(_,_)=>by kernel_rfl
def Rb(b:Str)(p:Int):Option (Int×Int×Int):=Afd 10000 (b,p)
def Y0:FT [.sl .byte false,.int .i64] [.int .u64,.int .i64,.int .i64]:=λx=>Rb x.1 x.2
theorem Tb:FO 47 [.sl .byte false,.int .i64] [.int .u64,.int .i64,.int .i64] Y0 :=.fin 0 Bk0 λ_ _ _ hx=>⟨10000,hx⟩
def Bqy(R:Type):Px R:=pxO [(47,cA Y0)] [] [] []
def Jx(x:HV [.sl .byte false,.int .i64]):Option (HV [.sl .byte true,.int .i64,.int .i64]):=match x with
 |(b,p) =>
 (Rb b p).bind λ(x,x1,x2) =>
  cond (!decide (x2=0)) (
  some ([],0,x2)) (
  cond (decide (1048576<x)) (
   some ([],0,3)) (
   cond (decide ((b.length:Int)<(wr .i64 (x1+(wr .i64 x))))) (
   some ([],0,10)) (
   chk (upto x1 (wr .i64 (x1+(wr .i64 x))) b.length) (
    chk (decide (0+(cut b x1 (wr .i64 (x1+(wr .i64 x)))).length<=Ag)) (
    some (([]++(cut b x1 (wr .i64 (x1+(wr .i64 x))))),(wr .i64 (x1+(wr .i64 x))),0))))))
theorem Bgo:FO 27 [.sl .byte false,.int .i64] [.sl .byte true,.int .i64,.int .i64] (Jx):=fR (px:=Bqy _) (n:=0) Tryz.func27 rfl (λ_ H=>⟨lv H (c1 H Tb Ae) Aa Ab,Ai⟩) λ(_,_)=>by kernel_rfl
def Ms(b:Str)(p:Int):Option (Str×Int×Int):=Jx (b,p)
def Ai5:FT [.sl .byte false,.int .i64] [.sl .byte true,.int .i64,.int .i64]:=λx=>Ms x.1 x.2
theorem Ajq:FO 27 [.sl .byte false,.int .i64] [.sl .byte true,.int .i64,.int .i64] Ai5 :=.fin0 Bgo λ_ _ _ hx=>hx
def Ahb:Sig:=⟨45,[(0,.sl .byte false),(2,.sl .bytes true),(3,.int .i64),(4,.int .u64),(5,.int .i64),(7,.sl .bytes true)],[],[],0,0,0,[],[]⟩
abbrev Pt:=List UInt8×List (List UInt8)×Int×Int×Int×List (List UInt8)
def Ig{R:Type}(rec:Pt->Option R)(kx:Ex->Pt->Option R)(v:Pt):Option R:=match v with
 |(v,v1,v2,v3,v4,v5) =>
 cond (decide ((wr .u64 (v5.length:Int))<v3)) (
  (Ms v v4).bind λ(x3,x4,x5) =>
  cond (!decide (x5=0)) (
   kx .ret (v,[],x5,v3,v4,v5)) (
   chk (decide (v5.length+1<=Ag)) (
   rec (v,v1,v2,v3,x4,(v5++[x3]))))) (
  kx (.exit 0) (v,v1,v2,v3,v4,v5))
def Auf(R:Type)(k:Nat):Px R:=pxO [(47,cA Y0),(27,cA Ai5)] [] [(5,Al k Ahb (Ig))] []
def Kn(k:Nat)(x:HV [.sl .byte false]):Option (HV [.sl .bytes true,.int .i64]):=match x with
 |b =>
 (Rb b 0).bind λ(x,x1,x2) =>
  cond (!decide (x2=0)) (
  some ([],x2)) (
  Aj (λrec=>Ig rec (λe vz=>match vz with|(v6,v7,v8,_,a,c)=>match e with
   |.ret =>
   some (v7,v8)
   |.exit 0 =>
   cond (!decide (a=(v6.length:Int))) (
    some ([],11)) (
    some (c,0))
   |_=>none)) k (b,[],0,x,x1,[]))
theorem A5c(k:Nat):FO 48 [.sl .byte false] [.sl .bytes true,.int .i64] (Kn k):=fR (px:=Auf _ k) (n:=1) Tryz.func48 rfl (λcx H=>by have h0:Lv cx (Auf (HV [.sl .bytes true,.int .i64]) k):=lv H (c1 H Tb (c1 H Ajq Ae)) Aa Ab;have hlrsplit_0:=lO H h0 (b:=lp Tryz.f48 0) (k:=k) (n:=0) (s:=Ahb) (step:=Ig) (λ_ _ _ (_,_,_,_,_,_)=>by kernel_rfl) Ai;exact⟨h0,(A2 Ai hlrsplit_0)⟩) λ_=>by kernel_rfl
def Aen(b:Str):Option (List Str×Int):=Kn 10000 b
def A0y:FT [.sl .byte false] [.sl .bytes true,.int .i64]:=λx=>Aen x
theorem Bft:FO 48 [.sl .byte false] [.sl .bytes true,.int .i64] A0y :=.fin 0 A5c λ_ _ _ hx=>⟨10000,hx⟩
def Bpq:Sig:=⟨37,[(0,.int .u64),(3,.sl .byte true)],[],[],0,0,0,[],[]⟩
def A4n:Sig:=⟨37,[(4,.int .i64)],[],[(0,.one (.dn .byte))],1,0,0,[],[(3,0,.byte)]⟩
def Yc{R:Type}(rec:Int×Str->Option R)(kx:Ex->Int×Str->Option R)(v:Int×Str):Option R:=match v with|(n,l)=>cond (decide (0<n)) (chk (decide (l.length+1<=Ag)) (rec (wr .u64 (n.tdiv 128),l++[UInt8.ofNat (wr .u8 (n.tmod 128)).toNat]))) (kx (.exit 0) (n,l))
def Zm{R:Type}(rec:Int×Str×Int×Int->Option R)(kx:Ex->Int×Str×Int×Int->Option R)(v:Int×Str×Int×Int):Option R:=match v with|(i,l,s,m)=>cond (decide (wr .i64 (i+1)<m)) (chk (inO i m) (chk (inb (s+i) l.length) (chk (inO i m) (chk (inb (s+i) l.length) (rec (wr .i64 (i+1),l.set (s+i).toNat (UInt8.ofNat (wr .u8 (((at' .byte l (s+i)).toNat:Int)+128)).toNat),s,m)))))) (kx (.exit 2) (i,l,s,m))
def Avv(R:Type)(k:Nat)(th:Bool):Px R:=⟨Aim ttL,λ_=>none,A06 [],Amw [],Bxj [(3,Al k Bpq Yc),(7,λst K=>cond th (Bqn 3 st λst=>Al k A4n Zm st K) (Al k A4n Zm st K))],tbl []⟩
def Bmg:Ex->Int×Str×Int×Int->Option Str
 |.exit 2,(_,l,s,m)=>chk (decide (s=0)&&decide (0<m)&&decide (m<=(l.length:Int))) (some (l.take m.toNat))
 |_,_=>none
def Aft(k:Nat)(n:Int):Option Str:=Aj (λrec=>Yc rec λe v=>match e,v with
 |.exit 0,(_,l)=>chk (!l.isEmpty) (Aj (λrec=>Zm rec Bmg) k (0,l,0,(l.length:Int)))
 |_,_=>none) k (wr .u64 (n.tdiv 128),[UInt8.ofNat (wr .u8 (n.tmod 128)).toNat])
theorem A3u(k:Nat):FnOk Tryz.prog elT (λ_=>none) 21 [.int .u64] [.sl .byte true] (Aft k) :=Azf (px:=Avv _ k true) (n:=2) Tryz.func21 rfl (by kernel_rfl) follows (by kernel_rfl) (by kernel_rfl) (λcx h1 h2 h3 h4=>by have H:Hx Tryz.prog elT (λ_=>none) (Aim ttL) cx:=⟨h1,h2,h3,Atj Ae0,follows⟩;have h0:∀b,Lv cx (Avv Str k b):=λb=>lv H Ae Aa Ab;exact⟨(h0 _).p,(h0 _).c,(h0 _).q,A2 (A2 Ai (lO H (h0 true) (b:=lp Tryz.f21 0) (k:=k) (n:=0) (s:=Bpq) (step:=Yc) (λ_ _ _ (_,_)=>by kernel_rfl) Ai)) (Bge (px2:=Avv Str k false) (sl:=3) h4 (λg=>by rw[h3]) (lO H (h0 false) (b:=lp Tryz.f21 1) (k:=k) (n:=0) (s:=A4n) (step:=Zm) (λ_ _ _ (_,_,_,_)=>by kernel_rfl) Ai) λ_ _=>by kernel_rfl)⟩) λn=>by kernel_rfl
def up8(b:UInt8):UInt8:=UInt8.ofNat (wr .u8 ((b.toNat:Int)+128)).toNat
def hi8:UInt8->Str->Str
 |x,[]=>[x]
 |x,y::l=>up8 x::hi8 y l
def dg7:Nat->Nat->Str
 |0,_=>[]
 |k+1,n=>if n=0 then [] else UInt8.ofNat (n % 128)::dg7 k (n / 128)
theorem Bda:∀k n,(dg7 k n).length<=k
 |0,n=>Zn1 _
 |k+1,n=>by have:=Bda k (n / 128);simp[dg7];split<;>simp<;>omega
theorem Bsb:∀k n,n<128 ^ (k+1)->Av k n=hi8 (UInt8.ofNat (n % 128)) (dg7 k (n / 128))
 |0,n,h=>by simp[Av,dg7,hi8,Nat.mod_eq_of_lt h]
 |k+1,n,h=>by
  simp only[Av,dg7];by_cases hn:n<128
  ·rw[if_pos hn,if_pos (by omega),Nat.mod_eq_of_lt hn,hi8]
  ·rw[if_neg hn,if_neg (by omega),hi8,Bsb k (n / 128) (Nat.div_lt_of_lt_mul (by rw[Nat.pow_succ] at h;omega))];congr 1;have:(UInt8.ofNat (n % 128)).toNat=n % 128:=by simp;omega
   rw[up8,this,show((n % 128:Nat):Int)+128=((n % 128+128:Nat):Int) by omega,Az3];congr 1;omega
theorem Bxm{n:Nat}(h:n<18446744073709551616):wr .u64 ((n:Int).tdiv 128)=((n / 128:Nat):Int):=by rw[show(n:Int).tdiv 128=((n / 128:Nat):Int) from rfl,Br (by omega)]
theorem Bw8(n:Nat):(wr .u8 ((n:Int).tmod 128)).toNat=n % 128:=by rw[show(n:Int).tmod 128=((n % 128:Nat):Int) from rfl,Az3,Int.toNat_natCast];omega
theorem Bbe:∀x l,(hi8 x l).length=l.length+1
 |x,[]=>rfl
 |x,y::l=>by simp[hi8,Bbe y l]
theorem Bcb{R:Type}{kx:Ex->Int×Str->Option R}:∀(k m n:Nat) (l:Str),n<128 ^ k->n<18446744073709551616->k<m->l.length+k<=1000->Aj (λrec=>Yc rec kx) m ((n:Int),l)=kx (.exit 0) (0,l++dg7 k n)
 |k,0,_,_,_,_,h,_=>by omega
 |0,m+1,n,l,hn,_,_,_=>by
  obtain rfl:n=0:=by simpa using hn
  simp[Aj,Yc,dg7]
 |k+1,m+1,n,l,hn,hb,hm,hl=>by
  by_cases h:n=0
  ·subst h;simp[Aj,Yc,dg7]
  ·have ih:=Bcb (kx:=kx) k m (n / 128) (l++[UInt8.ofNat (n % 128)]) (Nat.div_lt_of_lt_mul (by rw[Nat.pow_succ] at hn;omega)) (by omega) (by omega) (by simp;omega);simp only[Aj,Yc,Ze1 (show(0:Int)<(n:Int) by omega),Ah,Ze1 (show l.length+1<=Ag by simp[Ag];omega),chk,Bxm hb,Bw8,ih,dg7,if_neg h,Zj1,Zb2,Zf2]
theorem Bau{R:Type}{kx:Ex->Int×Str×Int×Int->Option R}:∀(l:Str) (k:Nat) (p:Str) (x:UInt8) (n:Nat),l.length<k->p.length+l.length+1=n->n<=1000->∃i,Aj (λrec=>Zm rec kx) k ((p.length:Int),p++x::l,0,(n:Int))=kx (.exit 2) (i,p++hi8 x l,0,(n:Int))
 |_,0,_,_,_,h,_,_=>by omega
 |[],k+1,p,x,n,_,hn,h1=>by refine⟨p.length,?_⟩;simp[Aj,Zm,Be (show inI ((p.length:Int)+1) by simp[inI];omega),Zd1 (show ¬(p.length:Int)+1<(n:Int) by simp at hn;omega),hi8]
 |y::l,k+1,p,x,n,hk,hn,h1=>by
  simp at hk hn;obtain⟨i,ih⟩:=Bau (kx:=kx) l k (p++[up8 x]) y n (by omega) (by simp;omega) h1;refine⟨i,?_⟩;have a1:inO (p.length:Int) (n:Int)=true:=by simp[inO];omega
  have a2:inb (p.length:Int) (p++x::y::l).length=true:=Au (by simp);have a3:at' .byte (p++x::y::l) (p.length:Int)=x:=by simp[at']
  simp only[Aj,Zm,Be (show inI ((p.length:Int)+1) by simp[inI];omega),Ze1 (show(p.length:Int)+1<(n:Int) by omega),chk,Int.zero_add,a1,a2,a3,Int.toNat_natCast];have e:(p++x::y::l).set p.length (up8 x)=(p++[up8 x])++y::l:=by simp
  simp only[up8] at e ih ⊢;simpa[hi8,up8] using ih
noncomputable section
end
theorem Mr:∀k n,n<128 ^ (k+1)->Av (k+1) n=Av k n
 |0,n,h=>by simp[Av];omega
 |k+1,n,h=>by rw[Av,Mr k (n / 128) (Nat.div_lt_of_lt_mul (by rw[Nat.pow_succ] at h;omega))];rfl
theorem Zp{n:Nat}(h:n<128 ^ 6):Av 9 n=Av 5 n:=by rw[Mr 8 n (by omega),Mr 7 n (by omega),Mr 6 n (by omega),Mr 5 n h]
theorem Afa{n:Nat}(h:n<18446744073709551616):Akl (n:Int)=some (Av 9 n):=by
 have:=Aes (kx:=λe vz=>match vz with|(v2,v3)=>match e with
  |.exit 0=>chk (decide (v3.length+1<=Ag)) (some (v3++[UInt8.ofNat (wr .u8 v2).toNat]))
  |_=>none) (λ_ _=>rfl) 9 100 n [] (by omega) (by omega) (by simp)
 exact this
theorem Bve{n:Nat}(h:n<18446744073709551616):Aft 20 (n:Int)=some (Av 9 n):=by rw[Bsb 9 n (by omega),Aft,Bxm (by omega),Bw8,Bcb 9 20 (n / 128) [UInt8.ofNat (n % 128)] (by omega) (by omega) (by omega) (by simp)];have hl:=Bda 9 (n / 128);obtain⟨i,hi⟩:=Bau (kx:=Bmg) (dg7 9 (n / 128)) 20 [] (UInt8.ofNat (n % 128)) ((dg7 9 (n / 128)).length+1) (by omega) (by simp) (by omega);refine hi.trans ?_;have:=Bbe (UInt8.ofNat (n % 128)) (dg7 9 (n / 128));generalize hi8 (UInt8.ofNat (n % 128)) (dg7 9 (n / 128))=q at *;rw[<-this];show chk (decide ((0:Int)=0)&&decide (0<(q.length:Int))&&decide ((q.length:Int)<=(q.length:Int))) (some (q.take (q.length:Int).toNat))=_;rw[Ze1 rfl,Ze1 (by omega),Ze1 (Int.le_refl _),Int.toNat_natCast,List.take_length];rfl
noncomputable def G8(n:Int):Option Str :=@ite _ (0<=n/\n<18446744073709551616) (Classical.propDecidable _) (some (Av 9 n.toNat)) none
noncomputable section
def Pp:FT [.int .u64] [.sl .byte true]:=λx=>G8 x
theorem Rp:FO 21 [.int .u64] [.sl .byte true] Pp:=⟨(A3u 0).enters,λn r hx w M vs hM _ hr=>(A3u 20).run n r (by
 simp only[Pp,G8] at hx;split at hx
 ·rename_i h;obtain⟨m,rfl⟩:=Int.eq_ofNat_of_zero_le h.1;rw[<-hx];exact Bve (by omega)
 ·cases hx) w M vs hM ⟨λ_ _ _ h=>(by cases h),λ_ _ h=>(by cases h),λ_ _ h=>(by cases h)⟩ hr⟩
end
theorem Gw{n:Nat}(h:n<18446744073709551616):G8 (n:Int)=some (Av 9 n):=by rw[G8,if_pos (by omega),Int.toNat_natCast]
def Agw:Sig:=⟨88,[(2,.int .i64),(5,.int .i64)],[(1,.ptr 0 0)],[(0,.one (.sv .val))],1,0,0,[],[]⟩
abbrev J5:=Int×Int×Val
def G3{R:Type}(rec:J5->Option R)(kx:Ex->J5->Option R)(v:J5):Option R:=match v with
 |(v1,v2,w) =>
 cond (decide (v2<(w.s.length:Int))) (
  cond (decide (w.kind=4)) (
  chk (inb v2 w.s.length) (
   cond (decide ((bat w.s v2)<32)) (
   kx .ret (2,v2,w)) (
   chk (inb v2 w.s.length) (
    cond (decide (127<=(bat w.s v2))) (
    kx .ret (2,v2,w)) (
    rec (v1,(wr .i64 (v2+1)),w)))))) (
  kx (.exit 0) (v1,v2,w))) (
  kx (.exit 0) (v1,v2,w))
def Asr(R:Type)(k:Nat):Px R:=pxO [] [] [(6,Al k Agw (G3))] []
def Agu(k:Nat)(x:HV [.sv .val]):Option (HV [.int .i64]):=match x with
 |v =>
 let j4:=λ(p4:Bool) =>
  let j3:=λ(p6:Bool) =>
  let j2:=λ(_:Unit) =>
   Aj (λrec=>G3 rec (λe vz=>match vz with|(v3,_,_)=>match e with
   |.ret =>some v3
   |.exit 0 =>some 0
   |_=>none)) k (0,0,v)
  let j1:=λ(p7:Bool) =>
   let j:=λ(p9:Bool) =>
   cond (p9) (
    some 2) (
    cond (!p6) (
    cond (!decide (v.s=[])) (
     some 2) (
     cond (decide (1000<(v.s.length:Int))) (
     some 2) (
     j2 ()))) (
    cond (decide (1000<(v.s.length:Int))) (
     some 2) (
     j2 ())))
   cond (p7) (
   j true) (
   cond (!p4) (
    j (!decide (v.n=0))) (
    j false))
  cond (decide (v.kind<1)) (
   j1 true) (
   j1 (decide (5<v.kind)))
  cond (decide (v.kind=4)) (
  j3 true) (
  j3 (decide (v.kind=5)))
 cond (decide (v.kind=2)) (
  cond (decide (v.n=0)) (
  j4 true) (
  cond (decide (v.n=1)) (
   j4 true) (
   j4 (decide (v.kind=3))))) (
  j4 (decide (v.kind=3)))
theorem A5a(k:Nat):FO 61 [.sv .val] [.int .i64] (Agu k):=fR (px:=Asr _ k) (n:=1) Tryz.func61 rfl (λcx H=>by have h0:Lv cx (Asr (HV [.int .i64]) k):=lv H Ae Aa Ab;have hlrcheck_0:=lO H h0 (b:=lp Tryz.f61 0) (k:=k) (n:=0) (s:=Agw) (step:=G3) (λ_ _ _ (_,_,_)=>by kernel_rfl) Ai;exact⟨h0,(A2 Ai hlrcheck_0)⟩) λ_=>by kernel_rfl
abbrev Io(v:Val):Int:=Fa v
def Aaq:FT [.sv .val] [.int .i64]:=λx=>some (Io x)
theorem Ah6{R:Type}{kx:Ex->J5->Option R}{v:Val}{a b:Option R}(hn:ln v.s.length)(h4:v.kind=4)(h1:∀j,kx .ret (2,j,v)=a)(h2:∀q j,kx (.exit 0) (q,j,v)=b):∀(k i:Nat) q,i<=v.s.length->v.s.length-i<k->Aj (λrec=>G3 rec kx) k (q,(i:Int),v)=cond ((v.s.drop i).all vis) b a
 |0,i,q,_,h=>by omega
 |k+1,i,q,hi,h=>by
  rw[A0];by_cases hl:i<v.s.length
  ·simp only[G3,Ao hl hn,(Ah6 hn h4 h1 h2 k (i+1) q (by omega) (by omega)),h1,Ay hl,C1 hl,Au hl,Zv1,Bool.cond_decide];simp[*];simp only[vis];split
   ·rw[Zd1 (by omega)];rfl
   ·split
    ·rw[Ze1 (by omega),Zd1 (by omega)];rfl
    ·rw[Ze1 (by omega),Ze1 (by omega)];rfl
  ·simp[G3,h2,Bool.cond_decide]
   grind
theorem Bie{R:Type}{kx:Ex->J5->Option R}{v:Val}{b:Option R}(h4:¬v.kind=4)(h2:kx (.exit 0) (0,0,v)=b)(k:Nat):Aj (λrec=>G3 rec kx) (k+1) (0,0,v)=b:=by rw[A0];simp only[G3,h2,Bool.cond_decide];split<;>rfl
theorem Asf:FO 61 [.sv .val] [.int .i64] Aaq :=.fin 0 A5a λv r hb hx=>⟨v.s.length+1,by
 simp only[Aaq,Za1] at hx;subst hx;have e0:((0:Nat):Int)=0:=rfl;have hloop:Aj (λrec=>G3 rec (λe v=>match v with|(v2,_,_)=>match e with
   |.ret=>some v2
   |.exit 0=>some 0
   |_=>none)) (v.s.length+1) (0,0,v)=cond (decide (v.kind=4) && !Hs v.s) (some (2:Int)) (some 0):=by
  by_cases h4:v.kind=4
  ·have:=Ah6 (a:=some (2:Int)) (b:=some 0) hb.2.2 h4 (kx:=λe v=>match v with|(v2,_,_)=>match e with
    |.ret=>some v2
    |.exit 0=>some 0
    |_=>none) (λ_=>rfl) (λ_ _=>rfl) (v.s.length+1) 0 0 (Nat.zero_le _) (by omega)
   rw[e0] at this;rw[this,Ze1 h4,Zq1,Hs];cases v.s.all vis<;>rfl
  ·rw[Bie (b:=some 0) h4 rfl,Zd1 h4];rfl
 simp only[Agu] at hloop ⊢;rw[hloop];have hlen:v.s=[]->¬(1000<(v.s.length:Int)):=λh=>by rw[h];simp
 have hle:decide ((v.s.length:Int)<=1000) = !decide (1000<(v.s.length:Int)):=by
  by_cases h : 1000<(v.s.length:Int)
  ·rw[Ze1 h,Zd1 (by omega)];rfl
  ·rw[Zd1 h,Ze1 (by omega)];rfl
 have hs:decide (v.s=[])=true->decide (1000<(v.s.length:Int))=false:=λh=>Zd1 (hlen (of_decide_eq_true h));simp only[Fa,A7,hle];generalize decide (1000<(v.s.length:Int))=q at *;generalize decide (v.s=[])=s at *;generalize Hs v.s=w at *;by_cases hk:v.kind=1
 ·simp only[hk];cases decide (v.n=0)<;>cases s<;>simp_all
 by_cases hk2:v.kind=2
 ·simp only[hk2];cases decide (v.n=0)<;>cases decide (v.n=1)<;>cases s<;>simp_all
 by_cases hk3:v.kind=3
 ·simp only[hk3];cases decide (v.n=0)<;>cases decide (v.n=1)<;>cases s<;>simp_all
 by_cases hk4:v.kind=4
 ·simp only[hk4];cases decide (v.n=0)<;>cases w<;>cases q<;>simp_all
 by_cases hk5:v.kind=5
 ·simp only[hk5];cases decide (v.n=0)<;>cases q<;>simp_all
 rw[Zd1 hk,Zd1 hk2,Zd1 hk3,Zd1 hk4,Zd1 hk5];by_cases hl:v.kind<1
 ·rw[Ze1 hl];rfl
 ·rw[Zd1 hl,Ze1 (show 5<v.kind by omega)];rfl⟩
noncomputable section
def Bpc(R:Type):Px R:=pxO [(21,cA Pp)] [] [] []
def Y7(x:HV [.sl .byte false]):Option (HV [.sl .byte true]):=match x with
 |s =>
 (G8 (wr .u64 (s.length:Int))).bind λx =>
  chk (decide (x.length+s.length<=Ag)) (
  some (x++s))
theorem Bgx:FO 23 [.sl .byte false] [.sl .byte true] (Y7):=fR (px:=Bpc _) (n:=0) Tryz.func23 rfl (λ_ H=>⟨lv H (c1 H Rp Ae) Aa Ab,Ai⟩) λ_=>by kernel_rfl
def Arv(s:Str):Option Str:=Y7 s
def Ajb:FT [.sl .byte false] [.sl .byte true]:=λx=>Arv x
theorem Apd:FO 23 [.sl .byte false] [.sl .byte true] Ajb :=.fin0 Bgx λ_ _ _ hx=>hx
def Aky:Sig:=⟨23,[(0,.sl .bytes false),(3,.sl .byte true),(4,.int .i64)],[],[],0,0,0,[],[]⟩
abbrev T1:=List (List UInt8)×List UInt8×Int
def Ve{R:Type}(rec:T1->Option R)(kx:Ex->T1->Option R)(v:T1):Option R:=match v with
 |(v,v1,v2) =>
 cond (decide (v2<(v.length:Int))) (
  chk (inb v2 v.length) (
  (Arv (at' .bytes v v2)).bind λx1 =>
   chk (decide (v1.length+x1.length<=Ag)) (
   rec (v,(v1++x1),(wr .i64 (v2+1)))))) (
  kx (.exit 0) (v,v1,v2))
def A0q(R:Type)(k:Nat):Px R:=pxO [(21,cA Pp),(23,cA Ajb)] [] [(3,Al k Aky (Ve))] []
def Pv(k:Nat)(x:HV [.sl .bytes false]):Option (HV [.sl .byte true]):=match x with
 |l =>
 (G8 (wr .u64 (l.length:Int))).bind λx =>
  Aj (λrec=>Ve rec (λe vz=>match vz with|(_,v4,_)=>match e with
  |.exit 0 =>some v4
  |_=>none)) k (l,x,0)
theorem Bfu(k:Nat):FO 43 [.sl .bytes false] [.sl .byte true] (Pv k):=fR (px:=A0q _ k) (n:=1) Tryz.func43 rfl (λcx H=>by have h0:Lv cx (A0q (HV [.sl .byte true]) k):=lv H (c1 H Rp (c1 H Apd Ae)) Aa Ab;have hlrjoin_0:=lO H h0 (b:=lp Tryz.f43 0) (k:=k) (n:=0) (s:=Aky) (step:=Ve) (λ_ _ _ (_,_,_)=>by kernel_rfl) Ai;exact⟨h0,(A2 Ai hlrjoin_0)⟩) λ_=>by kernel_rfl
def A3v(l:List Str):Option Str:=Pv 50000 l
def Bdp:FT [.sl .bytes false] [.sl .byte true]:=λx=>A3v x
theorem Bmz:FO 43 [.sl .bytes false] [.sl .byte true] Bdp :=.fin 0 Bfu λ_ _ _ hx=>⟨50000,hx⟩
def Bon(R:Type):Px R:=pxO [(21,cA Pp)] [] [] []
def W4(x:HV [.int .i64]):Option (HV [.sl .byte true]):=match x with
 |n =>
 cond (decide (n<0)) (
  (G8 (wr .u64 ((wr .u64 (2*(wr .u64 (wr .i64 (0-(wr .i64 (n+1)))))))+1))).bind λx =>
  some x) (
  (G8 (wr .u64 (2*(wr .u64 n)))).bind λx1 =>
  some x1)
theorem Bf3:FO 102 [.int .i64] [.sl .byte true] (W4):=fR (px:=Bon _) (n:=0) Tryz.func102 rfl (λ_ H=>⟨lv H (c1 H Rp Ae) Aa Ab,Ai⟩) λ_=>by kernel_rfl
def Bdf(n:Int):Option Str:=W4 n
def A89:FT [.int .i64] [.sl .byte true]:=λx=>Bdf x
theorem Bsy:FO 102 [.int .i64] [.sl .byte true] A89 :=.fin0 Bf3 λ_ _ _ hx=>hx
def Bop(R:Type):Px R:=pxO [(47,cA Y0)] [] [] []
def O7(x:HV [.sl .byte false,.int .i64]):Option (HV [.int .i64,.int .i64,.int .i64]):=match x with
 |(b,p) =>
 (Rb b p).bind λ(x,x1,x2) =>
  cond (!decide (x2=0)) (
  some (0,0,x2)) (
  cond (decide ((Int.tmod x 2)=1)) (
   some ((wr .i64 ((wr .i64 (0-(wr .i64 (wr .u64 (Int.tdiv x 2)))))-1)),x1,0)) (
   some ((wr .i64 (wr .u64 (Int.tdiv x 2))),x1,0)))
theorem Bh6:FO 104 [.sl .byte false,.int .i64] [.int .i64,.int .i64,.int .i64] (O7):=fR (px:=Bop _) (n:=0) Tryz.func104 rfl (λ_ H=>⟨lv H (c1 H Tb Ae) Aa Ab,Ai⟩) λ(_,_)=>by kernel_rfl
def Acp(b:Str)(p:Int):Option (Int×Int×Int):=O7 (b,p)
def Bbx:FT [.sl .byte false,.int .i64] [.int .i64,.int .i64,.int .i64]:=λx=>Acp x.1 x.2
theorem Brv:FO 104 [.sl .byte false,.int .i64] [.int .i64,.int .i64,.int .i64] Bbx :=.fin0 Bh6 λ_ _ _ hx=>hx
def Bl5(R:Type):Px R:=pxO [(102,cA A89),(23,cA Ajb)] [] [] []
def Yh(x:HV [.sv .val]):Option (HV [.sl .byte true]):=match x with
 |v =>
 cond (decide (v.kind=2)) (
  some [(UInt8.ofNat ((wr .u8 v.kind):Int).toNat),(UInt8.ofNat ((wr .u8 v.n):Int).toNat)]) (
  cond (decide (v.kind=3)) (
  (Bdf v.n).bind λx =>
   chk (decide (1+x.length<=Ag)) (
   some ([(UInt8.ofNat ((wr .u8 v.kind):Int).toNat)]++x))) (
  let j:=λ(p:Bool) =>
   cond (p) (
   chk (decide (v.s.length<=Ag)) (
    (Arv v.s).bind λx1 =>
    chk (decide (1+x1.length<=Ag)) (
     some ([(UInt8.ofNat ((wr .u8 v.kind):Int).toNat)]++x1)))) (
   some [(UInt8.ofNat ((wr .u8 v.kind):Int).toNat)])
  cond (decide (v.kind=4)) (
   j (decide (v.kind=4))) (
   j (decide (v.kind=5)))))
theorem Bff:FO 62 [.sv .val] [.sl .byte true] (Yh):=fR (px:=Bl5 _) (n:=0) Tryz.func62 rfl (λ_ H=>⟨lv H (c1 H Bsy (c1 H Apd Ae)) Aa Ab,Ai⟩) λ_=>by kernel_rfl
def Bar(v:Val):Option Str:=Yh v
def Bao:FT [.sv .val] [.sl .byte true]:=λx=>Bar x
theorem Bjs:FO 62 [.sv .val] [.sl .byte true] Bao :=.fin0 Bff λ_ _ _ hx=>hx
def Auk:Sig:=⟨43,[(0,.sl .val false),(6,.sl .byte true),(7,.int .i64)],[],[],0,0,0,[],[]⟩
abbrev Z2:=List Val×List UInt8×Int
def Rx{R:Type}(rec:Z2->Option R)(kx:Ex->Z2->Option R)(v:Z2):Option R:=match v with
 |(v8,v9,a) =>
 cond (decide (a<(v8.length:Int))) (
  chk (inb a v8.length) (
  (Bar (at' .val v8 a)).bind λx1 =>
   chk (decide (v9.length+x1.length<=Ag)) (
   rec (v8,(v9++x1),(wr .i64 (a+1)))))) (
  kx (.exit 2) (v8,v9,a))
def Ar4:Sig:=⟨43,[(0,.sl .val false),(2,.sl .byte true),(3,.int .i64),(4,.int .i64)],[],[],0,0,0,[],[]⟩
abbrev Aas:=List Val×List UInt8×Int×Int
def Zt{R:Type}(rec:Aas->Option R)(kx:Ex->Aas->Option R)(v:Aas):Option R:=match v with
 |(v,v1,v2,v3) =>
 cond (decide (v3<(v.length:Int))) (
  chk (inb v3 v.length) (
  cond (!decide ((Io (at' .val v v3))=0)) (
   kx .ret (v,[],(Io (at' .val v v3)),v3)) (
   rec (v,v1,v2,(wr .i64 (v3+1)))))) (
  kx (.exit 0) (v,v1,v2,v3))
def Bb3(R:Type)(k:Nat):Px R:=pxO [(61,cA Aaq),(21,cA Pp),(62,cA Bao)] [] [(2,Al k Ar4 (Zt)),(11,Al k Auk (Rx))] []
def T8(k:Nat)(x:HV [.sl .val false]):Option (HV [.sl .byte true,.int .i64]):=match x with
 |l =>
 Aj (λrec=>Zt rec (λe vz=>match vz with|(v4,v5,v6,_)=>match e with
  |.ret =>
  some (v5,v6)
  |.exit 0 =>
  cond (decide (100<(v4.length:Int))) (
   some ([],3)) (
   (G8 (wr .u64 (v4.length:Int))).bind λx =>
   Aj (λrec=>Rx rec (λe vz=>match vz with|(_,a,_)=>match e with
    |.exit 2 =>
    some (a,0)
    |_=>none)) k (v4,x,0))
  |_=>none)) k (l,[],0,0)
theorem Bq9(k:Nat):FO 42 [.sl .val false] [.sl .byte true,.int .i64] (T8 k):=fR (px:=Bb3 _ k) (n:=2) Tryz.func42 rfl (λcx H=>by have h0:Lv cx (Bb3 (HV [.sl .byte true,.int .i64]) k):=lv H (c1 H Asf (c1 H Rp (c1 H Bjs Ae))) Aa Ab;have hldenc_0:=lO H h0 (b:=lp Tryz.f42 0) (k:=k) (n:=0) (s:=Ar4) (step:=Zt) (λ_ _ _ (_,_,_,_)=>by kernel_rfl) Ai;have hldenc_1:=lO H h0 (b:=lp Tryz.f42 1) (k:=k) (n:=0) (s:=Auk) (step:=Rx) (λ_ _ _ (_,_,_)=>by kernel_rfl) Ai;exact⟨h0,(A2 (A2 Ai hldenc_0) hldenc_1)⟩) λ_=>by kernel_rfl
def Bzc(l:List Val):Option (Str×Int):=T8 10000 l
def Bke:FT [.sl .val false] [.sl .byte true,.int .i64]:=λx=>Bzc x
theorem Bvc:FO 42 [.sl .val false] [.sl .byte true,.int .i64] Bke :=.fin 0 Bq9 λ_ _ _ hx=>⟨10000,hx⟩
def Arq:Sig:=⟨50,[(0,.sl .byte false),(1,.int .i64),(4,.bool),(8,.int .i64)],[],[],0,0,0,[],[]⟩
abbrev Abf:=List UInt8×Int×Bool×Int
def Ad2{R:Type}(rec:Abf->Option R)(kx:Ex->Abf->Option R)(v:Abf):Option R:=match v with
 |(v,v1,v2,v3) =>
 cond (decide (v3<(v.length:Int))) (
  cond (decide (v1=4)) (
  chk (inb v3 v.length) (
   cond (decide (((at' .byte v v3).toNat:Int)<32)) (
   kx .ret (v,v1,false,v3)) (
   chk (inb v3 v.length) (
    cond (decide (126<((at' .byte v v3).toNat:Int))) (
    kx .ret (v,v1,false,v3)) (
    rec (v,v1,v2,(wr .i64 (v3+1)))))))) (
  kx (.exit 0) (v,v1,v2,v3))) (
  kx (.exit 0) (v,v1,v2,v3))
def Bcc(R:Type)(k:Nat):Px R:=pxO [(47,cA Y0)] [] [(7,Al k Arq (Ad2))] []
def U8(k:Nat)(x:HV [.sl .byte false,.int .i64]):Option (HV [.bool]):=match x with
 |(b,q) =>
 (Rb b 0).bind λ(x,x1,x2) =>
  cond (!decide (x2=0)) (
  some (decide (x2=10))) (
  cond (decide (q=3)) (
   some (decide (q=3))) (
   cond (decide (1000<x)) (
   some (decide (q=3))) (
   Aj (λrec=>Ad2 rec (λe vz=>match vz with|(_,_,v6,_)=>match e with
    |.ret =>
    some v6
    |.exit 0 =>
    some true
    |_=>none)) k (b,q,false,x1))))
theorem Bln(k:Nat):FO 105 [.sl .byte false,.int .i64] [.bool] (U8 k):=fR (px:=Bcc _ k) (n:=1) Tryz.func105 rfl (λcx H=>by have h0:Lv cx (Bcc (HV [.bool]) k):=lv H (c1 H Tb Ae) Aa Ab;have hldbeg_0:=lO H h0 (b:=lp Tryz.f105 0) (k:=k) (n:=0) (s:=Arq) (step:=Ad2) (λ_ _ _ (_,_,_,_)=>by kernel_rfl) Ai;exact⟨h0,(A2 Ai hldbeg_0)⟩) λ(_,_)=>by kernel_rfl
def Bgf(b:Str)(k:Int):Option Bool:=U8 10000 (b,k)
def A4k:FT [.sl .byte false,.int .i64] [.bool]:=λx=>Bgf x.1 x.2
theorem Bck:FO 105 [.sl .byte false,.int .i64] [.bool] A4k :=.fin 0 Bln λ_ _ _ hx=>⟨10000,hx⟩
def Bs2(R:Type):Px R:=pxO [(104,cA Bbx),(105,cA A4k),(27,cA Ai5),(61,cA Aaq)] [(105,qA A4k)] [] []
def Adw(x:HV [.sl .byte false]):Option (HV [.sv .val,.int .i64,.bool]):=match x with
 |b =>
 cond (decide ((b.length:Int)=0)) (
  some ((Val.mk 0 0 []),0,true)) (
  chk (inb 0 b.length) (
  chk (inb 0 b.length) (
   cond (decide (((at' .byte b 0).toNat:Int)=1)) (
   cond (!decide ((Io (Val.mk (wr .i64 ((at' .byte b 0).toNat:Int)) 0 []))=0)) (
    some ((Val.mk 0 0 []),0,false)) (
    some ((Val.mk (wr .i64 ((at' .byte b 0).toNat:Int)) 0 []),1,false))) (
   cond (decide (((at' .byte b 0).toNat:Int)=2)) (
    cond (decide ((b.length:Int)=1)) (
    some ((Val.mk 0 0 []),0,true)) (
    chk (inb 1 b.length) (
     cond (!decide ((Io (Val.mk (wr .i64 ((at' .byte b 0).toNat:Int)) (wr .i64 ((at' .byte b 1).toNat:Int)) []))=0)) (
     some ((Val.mk 0 0 []),0,false)) (
     some ((Val.mk (wr .i64 ((at' .byte b 0).toNat:Int)) (wr .i64 ((at' .byte b 1).toNat:Int)) []),2,false))))) (
    cond (decide (((at' .byte b 0).toNat:Int)=3)) (
    (Acp b 1).bind λ(x,x1,x2) =>
     cond (!decide (x2=0)) (
     chk (upto 1 b.length b.length) (
      (Bgf (b.drop (1:Int).toNat) 3).bind λx3 =>
      some ((Val.mk 0 0 []),0,x3))) (
     cond (!decide ((Io (Val.mk (wr .i64 ((at' .byte b 0).toNat:Int)) x []))=0)) (
      some ((Val.mk 0 0 []),0,false)) (
      some ((Val.mk (wr .i64 ((at' .byte b 0).toNat:Int)) x []),x1,false)))) (
    let j:=λ(p:Bool) =>
     cond (p) (
     (Ms b 1).bind λ(x4,x5,x6) =>
      cond (!decide (x6=0)) (
      chk (upto 1 b.length b.length) (
       chk (inb 0 b.length) (
       (Bgf (b.drop (1:Int).toNat) (wr .i64 ((at' .byte b 0).toNat:Int))).bind λx7 =>some ((Val.mk 0 0 []),0,x7)))) (
      cond (!decide ((Io (Val.mk (wr .i64 ((at' .byte b 0).toNat:Int)) 0 x4))=0)) (
       some ((Val.mk 0 0 []),0,false)) (
       some ((Val.mk (wr .i64 ((at' .byte b 0).toNat:Int)) 0 x4),x5,false)))) (
     cond (!decide ((Io (Val.mk (wr .i64 ((at' .byte b 0).toNat:Int)) 0 []))=0)) (
      some ((Val.mk 0 0 []),0,false)) (
      some ((Val.mk (wr .i64 ((at' .byte b 0).toNat:Int)) 0 []),1,false)))
    cond (decide (((at' .byte b 0).toNat:Int)=4)) (
     j (decide (((at' .byte b 0).toNat:Int)=4))) (
     j (decide (((at' .byte b 0).toNat:Int)=5)))))))))
theorem Bom:FO 65 [.sl .byte false] [.sv .val,.int .i64,.bool] (Adw):=fR (px:=Bs2 _) (n:=0) Tryz.func65 rfl (λ_ H=>⟨lv H (c1 H Brv (c1 H Bck (c1 H Ajq (c1 H Asf Ae)))) (q1 H Bck Aa) Ab,Ai⟩) λ_=>by kernel_rfl
def Be0(b:Str):Option (Val×Int×Bool):=Adw b
def Bre:FT [.sl .byte false] [.sv .val,.int .i64,.bool]:=λx=>Be0 x
theorem Bua:FO 65 [.sl .byte false] [.sv .val,.int .i64,.bool] Bre :=.fin0 Bom λ_ _ _ hx=>hx
def Arn:Sig:=⟨54,[(0,.sl .byte false),(2,.sl .val true),(3,.int .i64),(4,.int .u64),(5,.int .i64),(7,.sl .val true)],[],[],0,0,0,[],[]⟩
abbrev Acf:=List UInt8×List Val×Int×Int×Int×List Val
def S0{R:Type}(rec:Acf->Option R)(kx:Ex->Acf->Option R)(v:Acf):Option R:=match v with
 |(v,v1,v2,v3,v4,v5) =>
 cond (decide ((wr .u64 (v5.length:Int))<v3)) (
  chk (upto v4 v.length v.length) (
  (Be0 (v.drop (v4:Int).toNat)).bind λ(x3,x4,x5) =>
   let j:=λ(_:Unit) =>
   cond (decide (x4=0)) (
    kx .ret (v,[],11,v3,v4,v5)) (
    chk (decide (v5.length+1<=Ag)) (
    rec (v,v1,v2,v3,(wr .i64 (v4+x4)),(v5++[x3]))))
   cond (decide (x4=0)) (
   cond (x5) (
    kx .ret (v,[],10,v3,v4,v5)) (
    j ())) (
   j ()))) (
  kx (.exit 0) (v,v1,v2,v3,v4,v5))
def Bbl(R:Type)(k:Nat):Px R:=pxO [(47,cA Y0),(65,cA Bre)] [] [(7,Al k Arn (S0))] []
def Jg(k:Nat)(x:HV [.sl .byte false]):Option (HV [.sl .val true,.int .i64]):=match x with
 |b =>
 (Rb b 0).bind λ(x,x1,x2) =>
  cond (!decide (x2=0)) (
  some ([],x2)) (
  cond (decide (100<x)) (
   some ([],11)) (
   Aj (λrec=>S0 rec (λe vz=>match vz with|(v6,v7,v8,_,a,c)=>match e with
   |.ret =>some (v7,v8)
   |.exit 0 =>
    cond (!decide (a=(v6.length:Int))) (
    some ([],11)) (
    some (c,0))
   |_=>none)) k (b,[],0,x,x1,[])))
theorem Bm1(k:Nat):FO 49 [.sl .byte false] [.sl .val true,.int .i64] (Jg k):=fR (px:=Bbl _ k) (n:=1) Tryz.func49 rfl (λcx H=>by have h0:Lv cx (Bbl (HV [.sl .val true,.int .i64]) k):=lv H (c1 H Tb (c1 H Bua Ae)) Aa Ab;have hlddec_0:=lO H h0 (b:=lp Tryz.f49 0) (k:=k) (n:=0) (s:=Arn) (step:=S0) (λ_ _ _ (_,_,_,_,_,_)=>by kernel_rfl) Ai;exact⟨h0,(A2 Ai hlddec_0)⟩) λ_=>by kernel_rfl
def Bv3(b:Str):Option (List Val×Int):=Jg 10000 b
def Bqg:FT [.sl .byte false] [.sl .val true,.int .i64]:=λx=>Bv3 x
theorem Bsz:FO 49 [.sl .byte false] [.sl .val true,.int .i64] Bqg :=.fin 0 Bm1 λ_ _ _ hx=>⟨10000,hx⟩
def Aj1:Sig:=⟨31,[(0,.sl .vals false),(2,.sl .byte true),(3,.int .i64),(4,.sl .bytes true),(5,.int .i64)],[],[],0,0,0,[],[]⟩
abbrev Vi:=List (List Val)×List UInt8×Int×List (List UInt8)×Int
def O9{R:Type}(rec:Vi->Option R)(kx:Ex->Vi->Option R)(v:Vi):Option R:=match v with
 |(v,v1,v2,v3,v4) =>
 cond (decide (v4<(v.length:Int))) (
  chk (inb v4 v.length) (
  (Bzc (at' .vals v v4)).bind λ(x,x1) =>
   cond (!decide (x1=0)) (
   kx .ret (v,[],x1,v3,v4)) (
   chk (decide (v3.length+1<=Ag)) (
    rec (v,v1,v2,(v3++[x]),(wr .i64 (v4+1))))))) (
  kx (.exit 0) (v,v1,v2,v3,v4))
def A3n(R:Type)(k:Nat):Px R:=pxO [(42,cA Bke),(43,cA Bdp)] [] [(3,Al k Aj1 (O9))] []
def Py(k:Nat)(x:HV [.sl .vals false]):Option (HV [.sl .byte true,.int .i64]):=match x with
 |l =>
 Aj (λrec=>O9 rec (λe vz=>match vz with|(_,v6,v7,v8,_)=>match e with
  |.ret =>
  some (v6,v7)
  |.exit 0 =>
  (A3v v8).bind λx2 =>some (x2,0)
  |_=>none)) k (l,[],0,[],0)
theorem Bg3(k:Nat):FO 22 [.sl .vals false] [.sl .byte true,.int .i64] (Py k):=fR (px:=A3n _ k) (n:=1) Tryz.func22 rfl (λcx H=>by have h0:Lv cx (A3n (HV [.sl .byte true,.int .i64]) k):=lv H (c1 H Bvc (c1 H Bmz Ae)) Aa Ab;have hldmany_0:=lO H h0 (b:=lp Tryz.f22 0) (k:=k) (n:=0) (s:=Aj1) (step:=O9) (λ_ _ _ (_,_,_,_,_)=>by kernel_rfl) Ai;exact⟨h0,(A2 Ai hldmany_0)⟩) λ_=>by kernel_rfl
def Boi(l:List (List Val)):Option (Str×Int):=Py 50000 l
def Bbc:FT [.sl .vals false] [.sl .byte true,.int .i64]:=λx=>Boi x
theorem Bo1:FO 22 [.sl .vals false] [.sl .byte true,.int .i64] Bbc :=.fin 0 Bg3 λ_ _ _ hx=>⟨50000,hx⟩
def Ap8:Sig:=⟨40,[(2,.sl .vals true),(3,.int .i64),(4,.sl .bytes true),(6,.sl .vals true),(7,.int .i64)],[],[],0,0,0,[],[]⟩
abbrev Ac0:=List (List Val)×Int×List (List UInt8)×List (List Val)×Int
def N6{R:Type}(rec:Ac0->Option R)(kx:Ex->Ac0->Option R)(v:Ac0):Option R:=match v with
 |(v,v1,v2,v3,v4) =>
 cond (decide (v4<(v2.length:Int))) (
  chk (inb v4 v2.length) (
  (Bv3 (at' .bytes v2 v4)).bind λ(x2,x3) =>
   cond (!decide (x3=0)) (
   kx .ret ([],x3,v2,v3,v4)) (
   chk (decide (v3.length+1<=Ag)) (
    rec (v,v1,v2,(v3++[x2]),(wr .i64 (v4+1))))))) (
  kx (.exit 0) (v,v1,v2,v3,v4))
def A9p(R:Type)(k:Nat):Px R:=pxO [(48,cA A0y),(49,cA Bqg)] [] [(6,Al k Ap8 (N6))] []
def Jb(k:Nat)(x:HV [.sl .byte false]):Option (HV [.sl .vals true,.int .i64]):=match x with
 |b =>
 (Aen b).bind λ(x,x1) =>
  cond (!decide (x1=0)) (
  some ([],x1)) (
  Aj (λrec=>N6 rec (λe vz=>match vz with|(v5,v6,_,v8,_)=>match e with
   |.ret =>
   some (v5,v6)
   |.exit 0 =>
   some (v8,0)
   |_=>none)) k ([],0,x,[],0))
theorem Bm9(k:Nat):FO 28 [.sl .byte false] [.sl .vals true,.int .i64] (Jb k):=fR (px:=A9p _ k) (n:=1) Tryz.func28 rfl (λcx H=>by have h0:Lv cx (A9p (HV [.sl .vals true,.int .i64]) k):=lv H (c1 H Bft (c1 H Bsz Ae)) Aa Ab;have hldfew_0:=lO H h0 (b:=lp Tryz.f28 0) (k:=k) (n:=0) (s:=Ap8) (step:=N6) (λ_ _ _ (_,_,_,_,_)=>by kernel_rfl) Ai;exact⟨h0,(A2 Ai hldfew_0)⟩) λ_=>by kernel_rfl
def Bu2(b:Str):Option (List (List Val)×Int):=Jb 10000 b
def Bqs:FT [.sl .byte false] [.sl .vals true,.int .i64]:=λx=>Bu2 x
theorem Bt4:FO 28 [.sl .byte false] [.sl .vals true,.int .i64] Bqs :=.fin 0 Bm9 λ_ _ _ hx=>⟨10000,hx⟩
end
end Go.Proofs.YtblaahgjaopdnaaGreatDoor
