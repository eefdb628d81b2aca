/- Texts of the proof,one behind the other: Pg,Ph,Pj,Pi,Rp,Ga,Gb,Gc,Gd,Ru,Qf,Qg. -/
import Derived.Test.YtdelkmpkjibigaaGreatDoorZ5
set_option linter.all false
open List renaming length->I
open Option renaming some->J,none->aj
open Bool renaming true->ab,false->ai,true_and->jo
open Decidable renaming decide->aa
open Nat renaming zero_le->cL,zero_add->h6
namespace Go
theorem qu{p:Prop}(h:p:=by simp[b1]):p:=h
theorem akh{p:Prop}(h:p:=by have:=h i bO ck;rw[aW]at this;exact this):p:=h
end Go
namespace Go.Proofs.YtdelkmpkjibigaaGreatDoor
open Go.ft
def u4:bn:=⟨1,[],[(0,.ptr 0 0)],[(0,.cells [cn,an,.bool,an])],1,1,0,[],[]⟩
def u9:bn:=⟨1,[(0,.bm .tok)],[],[(0,.cells [cn,an,.bool,an])],1,1,0,[],[]⟩
abbrev ahn:=U Tok×Int×Bool×Int
abbrev ahd:=Tok×U Tok×Int×Bool×Int
def aoW(R:Type):aR R:=bs [] [] [] []
def Oi(x:ahn):ae (ahd):=match x with|(l,n,b,p)=>cond (aa ((I l:Int)=0)) (J ((Tok.mk 0 n [] 0),l,n,b,p)) (ax (a_ 0 (I l)) (J ((at' .tok l 0),l,n,b,p)))
theorem awJ:dz 186 u4 u9 (Oi):=ig (px:=aoW _) (n:=0) Tryz.func186 rfl (λ_ H=>⟨br H bq bo bp,aK⟩) λ(_,_,_,_)=>by kernel_rfl
def my:ahn->ae ahd:=λx=>Oi x
theorem BJ:dz 186 u4 u9 (my):=awJ
def xE:bn:=⟨1,[],[(0,.ptr 0 0)],[(0,.cells [cn,an,.bool,an])],1,1,0,[],[]⟩
def xx:bn:=⟨1,[(0,.bm .tok)],[],[(0,.cells [cn,an,.bool,an])],1,1,0,[],[]⟩
abbrev agu:=U Tok×Int×Bool×Int
abbrev agY:=Tok×U Tok×Int×Bool×Int
def aql(R:Type):aR R:=bs [(186,cT u4 u9 my)] [] [] []
def OZ(x:agu):ae (agY):=match x with|(l,n,b,p)=>(my (l,n,b,p)).bind λ(x,a,c,d,e)=>cond (aa (0<(I a:Int))) (ax (dP 1 (I a) (I a)) (J (x,(a.drop (1:Int).toNat),c,d,e))) (J (x,a,c,d,e))
theorem auP:dz 187 xE xx (OZ):=ig (px:=aql _) (n:=0) Tryz.func187 rfl (λ_ H=>⟨br H (aQ H BJ bq) bo bp,aK⟩) λ(_,_,_,_)=>by kernel_rfl
def jN:agu->ae agY:=λx=>OZ x
theorem FA:dz 187 xE xx (jN):=auP
def j_:bn:=⟨2,[(1,.str)],[(0,.ptr 0 0)],[(0,.cells [cn,an,.bool,an])],1,1,0,[],[]⟩
def j9:bn:=⟨1,[(0,.bool)],[],[(0,.cells [cn,an,.bool,an])],1,1,0,[],[]⟩
abbrev ajl:=ak×U Tok×Int×Bool×Int
abbrev ajg:=Bool×U Tok×Int×Bool×Int
def aBe(R:Type):aR R:=bs [(186,cT u4 u9 my),(187,cT xE xx jN)] [] [] []
def HZ(x:ajl):ae (ajg):=match x with|(s,l,n,b,p)=>(my (l,n,b,p)).bind λ(x,j,k,m,o)=>cond (!decide (x.kind=1)) (cond (!decide (x.kind=6)) (J (ai,j,k,m,o)) (cond (!decide (x.s=s)) (J (ai,j,k,m,o)) ((jN (j,k,m,o)).bind λ(_,a,c,d,e)=>J (ab,a,c,d,e)))) (cond (!decide (x.s=s)) (J (ai,j,k,m,o)) ((jN (j,k,m,o)).bind λ(_,f,g,h,i)=>J (ab,f,g,h,i)))
theorem Cbv:dz 122 j_ j9 (HZ):=ig (px:=aBe _) (n:=0) Tryz.func122 rfl (λ_ H=>⟨br H (aQ H BJ (aQ H FA bq)) bo bp,aK⟩) λ(_,_,_,_,_)=>by kernel_rfl
def cz:ajl->ae ajg:=λx=>HZ x
theorem k7:dz 122 j_ j9 (cz):=Cbv
def u0:bn:=⟨1,[],[(0,.ptr 0 0)],[(0,.cells [cn,an,.bool,an])],1,1,0,[],[]⟩
def u3:bn:=⟨0,[],[],[(0,.cells [cn,an,.bool,an])],1,1,0,[],[]⟩
abbrev afb:=U Tok×Int×Bool×Int
abbrev ael:=U Tok×Int×Bool×Int
def axM(R:Type):aR R:=bs [(186,cT u4 u9 my)] [] [] []
def TI(x:afb):ae (ael):=match x with|(l,n,b,p)=>cond (!b) ((my (l,n,b,p)).bind λ(x,a,c,_,_)=>J (a,c,ab,x.pos)) (J (l,n,b,p))
theorem asi:dz 132 u0 u3 (TI):=ig (px:=axM _) (n:=0) Tryz.func132 rfl (λ_ H=>⟨br H (aQ H BJ bq) bo bp,aK⟩) λ(_,_,_,_)=>by kernel_rfl
def lD:afb->ae ael:=λx=>TI x
theorem Bc:dz 132 u0 u3 (lD):=asi
def oo:bn:=⟨2,[(1,.sl .str ai)],[(0,.ptr 0 0)],[(0,.cells [cn,an,.bool,an])],1,1,0,[],[]⟩
def oi:bn:=⟨0,[],[],[(0,.cells [cn,an,.bool,an])],1,1,0,[],[]⟩
abbrev aiE:=U ak×U Tok×Int×Bool×Int
abbrev MB:=U Tok×Int×Bool×Int
def abp:bn:=⟨27,[(6,.sl .str ai),(7,.int .i64),(8,.int .i64)],[(0,.ptr 0 0)],[(0,.cells [cn,an,.bool,an])],1,1,0,[],[]⟩
abbrev HI:=U ak×Int×Int×U Tok×Int×Bool×Int
def xV{R:Type}(rec:HI->ae R)(kx:aX->HI->ae R)(v:HI):ae R:=match v with
 |(v,v1,v2,w,w1,b4,cv)=>
 cond (aa (v2<v1)) (
  ax (a_ v2 (I v)) (
  let j:=λ(p2:Bool) (a:U Tok) (b:Int) (c:Bool) (d:Int)=>
   cond (p2) (
   (lD (a,b,c,d)).bind λ(e,f,g,h)=>kx .ret (v,v1,v2,e,f,g,h)) (
   rec (v,v1,(wr .i64 (v2+1)),a,b,c,d))
  cond (b4) (
   j ab w w1 b4 cv) (
   (cz ((at' .str v v2),w,w1,b4,cv)).bind λ(x,i,k,l,m)=>
   j (!x) i k l m))) (
  kx (.exit 0) (v,v1,v2,w,w1,b4,cv))
def adT(R:Type)(k:Nat):aR R:=bs [(122,cT j_ j9 cz),(132,cT u0 u3 lD)] [] [(1,b8 k abp (xV))] []
def EF(k:Nat)(x:aiE):ae (MB):=match x with
 |(ss,l,n,b,p)=>aI (λrec=>xV rec (λe a=>match a with|(_,_,_,v6,bb,bK,v9)=>match e with
  |.ret=>J (v6,bb,bK,v9)
  |.exit 0=>J (v6,bb,bK,v9)
  |_=>aj)) k (ss,(I ss:Int),0,l,n,b,p)
theorem axx(k:Nat):dz 124 oo oi (EF k):=ig (px:=adT _ k) (n:=1) Tryz.func124 rfl (λah H=>by have c:bP ah (adT (MB) k):=br H (aQ H k7 (aQ H Bc bq)) bo bp;have a:=cd H c (b:=b0 Tryz.f124 0) (k:=k) (n:=0) (s:=abp) (step:=xV) (λ_ _ _ (_,_,_,_,_,_,_)=>by kernel_rfl) aK;exact⟨c,(b9 aK a)⟩) λ(_,_,_,_,_)=>by kernel_rfl
def cI:aiE->ae MB:=λx=>EF (I x.1+1) x
theorem qJ:dz 124 oo oi (cI):=fX.fin (ι:=Nat) (aM:=oo) (bL:=oi) 0 (F:=λk=>EF k) (λk=>axx k) λx _ _ ag=>⟨(I x.1+1),ag⟩
def qH:bn:=⟨1,[],[(0,.ptr 0 0)],[(0,.cells [cn,an,.bool,an])],1,1,0,[],[]⟩
def qG:bn:=⟨1,[(0,.str)],[],[(0,.cells [cn,an,.bool,an])],1,1,0,[],[]⟩
abbrev aiR:=U Tok×Int×Bool×Int
abbrev agI:=ak×U Tok×Int×Bool×Int
def anf(R:Type):aR R:=bs [(186,cT u4 u9 my),(132,cT u0 u3 lD),(187,cT xE xx jN)] [] [] []
def EC(x:aiR):ae (agI):=match x with
 |(l,n,b,p)=>
 (my (l,n,b,p)).bind λ(x,g,h,f,i)=>
  let j:=λ(p2:Bool)=>
  cond (p2) (
   (lD (g,h,f,i)).bind λ(k,m,o,q)=>
   J ([],k,m,o,q)) (
   (jN (g,h,f,i)).bind λ(r,a,c,d,e)=>
   J (r.s,a,c,d,e))
  cond (f) (
  j ab) (
  j (!decide (x.kind=2)))
theorem awn:dz 125 qH qG (EC):=ig (px:=anf _) (n:=0) Tryz.func125 rfl (λ_ H=>⟨br H (aQ H BJ (aQ H Bc (aQ H FA bq))) bo bp,aK⟩) λ(_,_,_,_)=>by kernel_rfl
def eP:aiR->ae agI:=λx=>EC x
theorem tn:dz 125 qH qG (eP):=awn
def ji:bn:=⟨1,[],[(0,.ptr 0 0)],[(0,.cells [cn,an,.bool,an])],1,1,0,[],[]⟩
def jh:bn:=⟨1,[(0,.bm .expr)],[],[(0,.cells [cn,an,.bool,an])],1,1,0,[],[]⟩
abbrev c8:=U Tok×Int×Bool×Int
abbrev c3:=aq×U Tok×Int×Bool×Int
def PB:bn:=⟨1,[],[(0,.ptr 0 0)],[(0,.cells [cn,an,.bool,an])],1,1,0,[],[]⟩
def Pd:bn:=⟨1,[(0,.bm .expr)],[],[(0,.cells [cn,an,.bool,an])],1,1,0,[],[]⟩
abbrev aej:=U Tok×Int×Bool×Int
abbrev HS:=aq×U Tok×Int×Bool×Int
def ZR(R:Type)(akM:c8->ae c3):aR R:=bs [(187,cT xE xx jN)] [] [] []
noncomputable def V7(R:Type)(rf:c8->ae c3):aR R:=bs [(186,cT u4 u9 my),(187,cT xE xx jN),(124,cT oo oi cI),(191,cT ji jh rf),(262,ey 80 400 (ZR R rf) Tryz.f262)] [] [] []
def Lb(rf:c8->ae c3)(x:aej):ae (HS):=match x with
 |(l,n,b,p)=>
 (my (l,n,b,p)).bind λ(x,hD,gB,ik,gT)=>
  cond (ik) (
  J ((aq.mk 0 ⟨0,0,[]⟩ [] []),hD,gB,ik,gT)) (
  cond (aa (x.kind=2)) (
   (jN (hD,gB,ik,gT)).bind λ(_,nB,kZ,kl,jM)=>
   J ((aq.mk 2 ⟨0,0,[]⟩ x.s []),nB,kZ,kl,jM)) (
   cond (aa (x.kind=3)) (
   (jN (hD,gB,ik,gT)).bind λ(_,a,c,d,e)=>J ((aq.mk 1 ⟨3,x.n,[]⟩ [] []),a,c,d,e)) (
   cond (aa (x.kind=4)) (
    (jN (hD,gB,ik,gT)).bind λ(_,f,g,h,i)=>
    J ((aq.mk 1 ⟨4,0,x.s⟩ [] []),f,g,h,i)) (
    cond (aa (x.kind=5)) (
    (jN (hD,gB,ik,gT)).bind λ(_,k,m,o,q)=>J ((aq.mk 1 ⟨5,0,x.s⟩ [] []),k,m,o,q)) (
    let ih:=λ(p2:Bool)=>
     cond (p2) (
     (jN (hD,gB,ik,gT)).bind λ(_,r,t,u,v)=>J ((aq.mk 1 ⟨2,1,[]⟩ [] []),r,t,u,v)) (
     let jn:=λ(ki:Bool)=>
      cond (ki) (
      (jN (hD,gB,ik,gT)).bind λ(_,w,y,z,a0)=>J ((aq.mk 1 ⟨2,0,[]⟩ [] []),w,y,z,a0)) (
      let j:=λ(UY:Bool)=>
       cond (UY) (
       (jN (hD,gB,ik,gT)).bind λ(_,bI,a2,a3,a4)=>J ((aq.mk 1 ⟨1,0,[]⟩ [] []),bI,a2,a3,a4)) (
       (cI ([[40]],hD,gB,ik,gT)).bind λ(a5,bB,bE,bG)=>
        (rf (a5,bB,bE,bG)).bind λ(a9,bZ,b7,ac,ad)=>
        (cI ([[41]],bZ,b7,ac,ad)).bind λ(cq,ez,ct,cM)=>J (a9,cq,ez,ct,cM))
      cond (aa (x.kind=1)) (
       j (aa (x.s=[78,85,76,76]))) (
       j ai))
     cond (aa (x.kind=1)) (
      jn (aa (x.s=[70,65,76,83,69]))) (
      jn ai))
    cond (aa (x.kind=1)) (
     ih (aa (x.s=[84,82,85,69]))) (
     ih ai))))))
theorem asm(rf:c8->ae c3)(a:dz 191 ji jh rf):dz 261 PB Pd (Lb rf):=ig (px:=V7 _ rf) (n:=0) Tryz.func261 rfl (λah H=>by have b:bP ah (ZR (HS) rf):=br H (aQ H FA bq) bo bp;have c:bP ah (V7 (HS) rf):=br H (aQ H BJ (aQ H FA (aQ H qJ (aQ H a (et (eS H b Tryz.func262 rfl (n:=0) (aK)) bq))))) bo bp;exact⟨c,aK⟩) λ(_,_,_,_)=>by kernel_rfl
def qI(rf:c8->ae c3):aej->ae HS:=λx=>Lb rf x
theorem axq(rf:c8->ae c3)(a:dz 191 ji jh rf):dz 261 PB Pd (qI rf):=asm rf a
def C6:bn:=⟨1,[],[(0,.ptr 0 0)],[(0,.cells [cn,an,.bool,an])],1,1,0,[],[]⟩
def Da:bn:=⟨1,[(0,.bm .expr)],[],[(0,.cells [cn,an,.bool,an])],1,1,0,[],[]⟩
abbrev acP:=U Tok×Int×Bool×Int
abbrev GH:=aq×U Tok×Int×Bool×Int
def XC:bn:=⟨36,[(2,.int .i64),(27,.int .i64),(28,.int .i64)],[(8,.ptr 80 0),(10,.ptr 81 0)],[(0,.cells [cn,an,.bool,an]),(1,.one (.bm .expr)),(80,.one (.bm .expr)),(81,.one (.bm .expr))],82,80,400,[],[]⟩
abbrev HX:=Int×Int×Int×U Tok×Int×Bool×Int×aq×aq×aq
def wu{R:Type}(rec:HX->ae R)(kx:aX->HX->ae R)(v:HX):ae R:=match v with|(a,b,c,eb,eO,e2,fD,d,e,f)=>cond (aa (c<b)) (rec (a,b,(wr .i64 (c+1)),eb,eO,e2,fD,d,e,(aq.mk a ⟨0,0,[]⟩ [] [f]))) (kx (.exit 2) (a,b,c,eb,eO,e2,fD,d,e,f))
def W_:bn:=⟨36,[(1,.str),(2,.int .i64),(9,.int .i64)],[(0,.ptr 0 0),(3,.hB 261 [.ptr 0 0]),(8,.ptr 80 0)],[(0,.cells [cn,an,.bool,an]),(1,.one (.bm .expr)),(80,.one (.bm .expr))],81,80,400,[],[]⟩
abbrev IJ:=ak×Int×Int×U Tok×Int×Bool×Int×aq×aq
def Ae{R:Type}(rec:IJ->ae R)(kx:aX->IJ->ae R)(v:IJ):ae R:=match v with|(v,v1,v2,w,w1,b4,cv,cH,cK)=>cond (!b4) ((cz (v,w,w1,b4,cv)).bind λ(x,a,b,c,d)=>cond (x) (rec (v,v1,(wr .i64 (v2+1)),a,b,c,d,cH,cK)) (kx (.exit 0) (v,v1,v2,a,b,c,d,cH,cK))) (kx (.exit 0) (v,v1,v2,w,w1,b4,cv,cH,cK))
def VE(R:Type)(k:Nat)(rf:c8->ae c3):aR R:=bs [(122,cT j_ j9 cz),(261,cT PB Pd (qI rf))] [] [(2,b8 k W_ (Ae)),(6,b8 k XC (wu))] []
noncomputable def ag6(R:Type)(k:Nat)(rf:c8->ae c3):aR R:=bs [(252,ey 80 400 (VE R k rf) Tryz.f252)] [] [] []
def Be(k:Nat)(rf:c8->ae c3)(x:acP):ae (GH):=match x with
 |(l,n,b,p)=>aI (λrec=>Ae rec (λe j=>match j with|(_,v4,v5,v6,bb,bK,v9,a,c)=>match e with
  |.exit 0=>(qI rf (v6,bb,bK,v9)).bind λ(m,o,q,r,s)=>aI (λrec=>wu rec (λe j=>match j with|(_,_,_,d,f,g,h,_,_,i)=>match e with
   |.exit 2=>J (i,d,f,g,h)
   |_=>aj)) k (v4,v5,0,o,q,r,s,a,c,m)
  |_=>aj)) k ([45],15,0,l,n,b,p,(aq.mk 0 ⟨0,0,[]⟩ [] []),(aq.mk 0 ⟨0,0,[]⟩ [] []))
theorem apJ(k:Nat)(rf:c8->ae c3)(d:dz 191 ji jh rf):dz 260 C6 Da (Be k rf):=ig (px:=ag6 _ k rf) (n:=0) Tryz.func260 rfl (λah H=>by have e:bP ah (VE (GH) k rf):=br H (aQ H k7 (aQ H (axq rf d) bq)) bo bp;have a:=cd H e (b:=b0 Tryz.f252 0) (k:=k) (n:=0) (s:=W_) (step:=Ae) (λ_ _ _ (_,_,_,_,_,_,_,_,_)=>by kernel_rfl) aK;have c:=cd H e (b:=b0 Tryz.f252 1) (k:=k) (n:=0) (s:=XC) (step:=wu) (λ_ _ _ (_,_,_,_,_,_,_,_,_,_)=>by kernel_rfl) aK;have f:bP ah (ag6 (GH) k rf):=br H (et (eS H e Tryz.func252 rfl (n:=2) (b9 (b9 aK a) c)) bq) bo bp;exact⟨f,aK⟩) λ(_,_,_,_)=>by kernel_rfl
def ov(rf:c8->ae c3):acP->ae GH:=λx=>Be (I x.1+1) rf x
theorem agR(rf:c8->ae c3)(a:dz 191 ji jh rf):dz 260 C6 Da (ov rf):=fX.fin (ι:=Nat) (aM:=C6) (bL:=Da) 0 (F:=λk=>Be k rf) (λk=>apJ k rf a) λx _ _ ag=>⟨(I x.1+1),ag⟩
def Er:bn:=⟨1,[],[(0,.ptr 0 0)],[(0,.cells [cn,an,.bool,an])],1,1,0,[],[]⟩
def Es:bn:=⟨1,[(0,.bm .expr)],[],[(0,.cells [cn,an,.bool,an])],1,1,0,[],[]⟩
abbrev _5:=U Tok×Int×Bool×Int
abbrev LC:=aq×U Tok×Int×Bool×Int
def Yu:bn:=⟨38,[(2,.sl .pair ab),(17,.sl .pair ai),(18,.int .i64),(19,.int .i64)],[(0,.ptr 0 0),(1,.hB 260 [.ptr 0 0]),(6,.ptr 80 0),(7,.ptr 81 0)],[(0,.cells [cn,an,.bool,an]),(1,.one (.bm .expr)),(80,.one (.bm .expr)),(81,.one (.bm .expr))],82,80,400,[],[]⟩
abbrev KY:=U eR×U eR×Int×Int×U Tok×Int×Bool×Int×aq×aq×aq
def AS{R:Type}(rf:c8->ae c3)(rec:KY->ae R)(kx:aX->KY->ae R)(v:KY):ae R:=match v with|(v1,v2,v3,v4,eO,e2,fD,d,a,b,c)=>cond (aa (v4<v3)) (ax (a_ v4 (I v2)) ((cz ((at' .pair v2 v4).sign,eO,e2,fD,d)).bind λ(n,j,k,l,m)=>cond (n) ((ov rf (j,k,l,m)).bind λ(e,f,g,h,i)=>kx (.exit 1) (v1,v2,v3,v4,f,g,h,i,a,b,(aq.mk ((at' .pair v2 v4).kind) ⟨0,0,[]⟩ [] [c,e]))) (rec (v1,v2,v3,(wr .i64 (v4+1)),j,k,l,m,a,b,c)))) (kx (.exit 2) (v1,v2,v3,v4,eO,e2,fD,d,a,b,c))
def Ym:bn:=⟨38,[(2,.sl .pair ab)],[(0,.ptr 0 0),(1,.hB 260 [.ptr 0 0]),(6,.ptr 80 0),(7,.ptr 81 0)],[(0,.cells [cn,an,.bool,an]),(1,.one (.bm .expr)),(80,.one (.bm .expr)),(81,.one (.bm .expr))],82,80,400,[],[]⟩
abbrev AM:=U eR×U Tok×Int×Bool×Int×aq×aq×aq
def AX{R:Type}(k:Nat)(rf:c8->ae c3)(rec:AM->ae R)(kx:aX->AM->ae R)(v:AM):ae R:=match v with
 |(v,w,w1,b4,cv,cH,cK,eb)=>cond (!b4) (aI (λh=>AS rf h (λe i=>match i with|(v5,_,_,_,v9,a,b,c,d,f,g)=>match e with
  |.exit 1=>rec (v5,v9,a,b,c,d,f,g)
  |.exit 2=>kx (.exit 0) (v5,v9,a,b,c,d,f,g)
  |_=>aj)) k (v,v,(I v:Int),0,w,w1,b4,cv,cH,cK,eb)) (kx (.exit 0) (v,w,w1,b4,cv,cH,cK,eb))
def YA(R:Type)(k:Nat)(rf:c8->ae c3):aR R:=bs [(260,cT C6 Da (ov rf)),(122,cT j_ j9 cz)] [] [(4,b8 k Yu (AS rf)),(2,b8 k Ym (AX k rf))] [(260,l5 C6 Da (ov rf))]
noncomputable def _p(R:Type)(k:Nat)(rf:c8->ae c3):aR R:=bs [(232,ey 80 400 (YA R k rf) Tryz.f232)] [] [] []
def w7(k:Nat)(rf:c8->ae c3)(x:_5):ae (LC):=match x with
 |(l,n,b,p)=>(ov rf (l,n,b,p)).bind λ(x,h,i,j,m)=>aI (λrec=>AX k rf rec (λe o=>match o with|(_,a,c,d,f,_,_,g)=>match e with
  |.exit 0=>J (g,a,c,d,f)
  |_=>aj)) k ([(eR.mk [42] 14)],h,i,j,m,(aq.mk 0 ⟨0,0,[]⟩ [] []),(aq.mk 0 ⟨0,0,[]⟩ [] []),x)
theorem amb(k:Nat)(rf:c8->ae c3)(d:dz 191 ji jh rf):dz 259 Er Es (w7 k rf):=ig (px:=_p _ k rf) (n:=0) Tryz.func259 rfl (λah H=>by have e:bP ah (YA (LC) k rf):=br H (aQ H (agR rf d) (aQ H k7 bq)) bo (w1 H (agR rf d) bp);have a:=cd H e (b:=vN (b0 Tryz.f232 0) 0) (k:=k) (n:=0) (s:=Yu) (step:=AS rf) (λ_ _ _ (_,_,_,_,_,_,_,_,_,_,_)=>by kernel_rfl) aK;have c:=cd H e (b:=b0 Tryz.f232 0) (k:=k) (n:=1) (s:=Ym) (step:=AX k rf) (λ_ _ _ (_,_,_,_,_,_,_,_)=>by kernel_rfl) (b9 aK a);have f:bP ah (_p (LC) k rf):=br H (et (eS H e Tryz.func232 rfl (n:=2) (b9 (b9 aK c) a)) bq) bo bp;exact⟨f,aK⟩) λ(_,_,_,_)=>by kernel_rfl
def nI(rf:c8->ae c3):_5->ae LC:=λx=>w7 (I x.1+3) rf x
theorem ZA(rf:c8->ae c3)(a:dz 191 ji jh rf):dz 259 Er Es (nI rf):=fX.fin (ι:=Nat) (aM:=Er) (bL:=Es) 0 (F:=λk=>w7 k rf) (λk=>amb k rf a) λx _ _ ag=>⟨(I x.1+3),ag⟩
def Dg:bn:=⟨1,[],[(0,.ptr 0 0)],[(0,.cells [cn,an,.bool,an])],1,1,0,[],[]⟩
def CU:bn:=⟨1,[(0,.bm .expr)],[],[(0,.cells [cn,an,.bool,an])],1,1,0,[],[]⟩
abbrev ac1:=U Tok×Int×Bool×Int
abbrev Gs:=aq×U Tok×Int×Bool×Int
def VF:bn:=⟨38,[(2,.sl .pair ab),(17,.sl .pair ai),(18,.int .i64),(19,.int .i64)],[(0,.ptr 0 0),(1,.hB 259 [.ptr 0 0]),(6,.ptr 80 0),(7,.ptr 81 0)],[(0,.cells [cn,an,.bool,an]),(1,.one (.bm .expr)),(80,.one (.bm .expr)),(81,.one (.bm .expr))],82,80,400,[],[]⟩
abbrev H5:=U eR×U eR×Int×Int×U Tok×Int×Bool×Int×aq×aq×aq
def zZ{R:Type}(rf:c8->ae c3)(rec:H5->ae R)(kx:aX->H5->ae R)(v:H5):ae R:=match v with|(v1,v2,v3,v4,eO,e2,fD,d,a,b,c)=>cond (aa (v4<v3)) (ax (a_ v4 (I v2)) ((cz ((at' .pair v2 v4).sign,eO,e2,fD,d)).bind λ(n,j,k,l,m)=>cond (n) ((nI rf (j,k,l,m)).bind λ(e,f,g,h,i)=>kx (.exit 1) (v1,v2,v3,v4,f,g,h,i,a,b,(aq.mk ((at' .pair v2 v4).kind) ⟨0,0,[]⟩ [] [c,e]))) (rec (v1,v2,v3,(wr .i64 (v4+1)),j,k,l,m,a,b,c)))) (kx (.exit 2) (v1,v2,v3,v4,eO,e2,fD,d,a,b,c))
def VI:bn:=⟨38,[(2,.sl .pair ab)],[(0,.ptr 0 0),(1,.hB 259 [.ptr 0 0]),(6,.ptr 80 0),(7,.ptr 81 0)],[(0,.cells [cn,an,.bool,an]),(1,.one (.bm .expr)),(80,.one (.bm .expr)),(81,.one (.bm .expr))],82,80,400,[],[]⟩
abbrev BT:=U eR×U Tok×Int×Bool×Int×aq×aq×aq
def z7{R:Type}(k:Nat)(rf:c8->ae c3)(rec:BT->ae R)(kx:aX->BT->ae R)(v:BT):ae R:=match v with
 |(v,w,w1,b4,cv,cH,cK,eb)=>cond (!b4) (aI (λh=>zZ rf h (λe i=>match i with|(v5,_,_,_,v9,a,b,c,d,f,g)=>match e with
  |.exit 1=>rec (v5,v9,a,b,c,d,f,g)
  |.exit 2=>kx (.exit 0) (v5,v9,a,b,c,d,f,g)
  |_=>aj)) k (v,v,(I v:Int),0,w,w1,b4,cv,cH,cK,eb)) (kx (.exit 0) (v,w,w1,b4,cv,cH,cK,eb))
def aca(R:Type)(k:Nat)(rf:c8->ae c3):aR R:=bs [(259,cT Er Es (nI rf)),(122,cT j_ j9 cz)] [] [(4,b8 k VF (zZ rf)),(2,b8 k VI (z7 k rf))] [(259,l5 Er Es (nI rf))]
noncomputable def aiF(R:Type)(k:Nat)(rf:c8->ae c3):aR R:=bs [(232,ey 80 400 (aca R k rf) Tryz.f232)] [] [] []
def xn(k:Nat)(rf:c8->ae c3)(x:ac1):ae (Gs):=match x with
 |(l,n,b,p)=>(nI rf (l,n,b,p)).bind λ(x,h,i,j,m)=>aI (λrec=>z7 k rf rec (λe o=>match o with|(_,a,c,d,f,_,_,g)=>match e with
  |.exit 0=>J (g,a,c,d,f)
  |_=>aj)) k ([(eR.mk [43] 12),(eR.mk [45] 13)],h,i,j,m,(aq.mk 0 ⟨0,0,[]⟩ [] []),(aq.mk 0 ⟨0,0,[]⟩ [] []),x)
theorem ayd(k:Nat)(rf:c8->ae c3)(d:dz 191 ji jh rf):dz 257 Dg CU (xn k rf):=ig (px:=aiF _ k rf) (n:=0) Tryz.func257 rfl (λah H=>by have e:bP ah (aca (Gs) k rf):=br H (aQ H (ZA rf d) (aQ H k7 bq)) bo (w1 H (ZA rf d) bp);have a:=cd H e (b:=vN (b0 Tryz.f232 0) 0) (k:=k) (n:=0) (s:=VF) (step:=zZ rf) (λ_ _ _ (_,_,_,_,_,_,_,_,_,_,_)=>by kernel_rfl) aK;have c:=cd H e (b:=b0 Tryz.f232 0) (k:=k) (n:=1) (s:=VI) (step:=z7 k rf) (λ_ _ _ (_,_,_,_,_,_,_,_)=>by kernel_rfl) (b9 aK a);have f:bP ah (aiF (Gs) k rf):=br H (et (eS H e Tryz.func232 rfl (n:=2) (b9 (b9 aK c) a)) bq) bo bp;exact⟨f,aK⟩) λ(_,_,_,_)=>by kernel_rfl
def m6(rf:c8->ae c3):ac1->ae Gs:=λx=>xn (I x.1+3) rf x
theorem agi(rf:c8->ae c3)(a:dz 191 ji jh rf):dz 257 Dg CU (m6 rf):=fX.fin (ι:=Nat) (aM:=Dg) (bL:=CU) 0 (F:=λk=>xn k rf) (λk=>ayd k rf a) λx _ _ ag=>⟨(I x.1+3),ag⟩
def Jl:bn:=⟨1,[],[(0,.ptr 0 0)],[(0,.cells [cn,an,.bool,an])],1,1,0,[],[]⟩
def I3:bn:=⟨1,[(0,.bm .expr)],[],[(0,.cells [cn,an,.bool,an])],1,1,0,[],[]⟩
abbrev ac6:=U Tok×Int×Bool×Int
abbrev So:=aq×U Tok×Int×Bool×Int
def X5:bn:=⟨61,[(20,.sl .pair ab),(21,.int .i64),(22,.int .i64)],[(0,.ptr 0 0),(2,.ptr 1 0),(3,.ptr 2 0)],[(0,.cells [cn,an,.bool,an]),(1,.one (.bm .expr)),(2,.one (.bm .expr))],3,1,0,[],[]⟩
abbrev Ib:=U eR×Int×Int×U Tok×Int×Bool×Int×aq×aq
def zR{R:Type}(rf:c8->ae c3)(rec:Ib->ae R)(kx:aX->Ib->ae R)(v:Ib):ae R:=match v with|(v,v1,v2,w,w1,b4,cv,cH,cK)=>cond (aa (v2<v1)) (ax (a_ v2 (I v)) ((cz ((at' .pair v v2).sign,w,w1,b4,cv)).bind λ(j,f,g,h,i)=>cond (j) ((m6 rf (f,g,h,i)).bind λ(a,b,c,d,e)=>kx .ret (v,v1,v2,b,c,d,e,(aq.mk ((at' .pair v v2).kind) ⟨0,0,[]⟩ [] [cK,a]),cK)) (rec (v,v1,(wr .i64 (v2+1)),f,g,h,i,cH,cK)))) (kx (.exit 0) (v,v1,v2,w,w1,b4,cv,cH,cK))
def aga(R:Type)(k:Nat)(rf:c8->ae c3):aR R:=bs [(257,cT Dg CU (m6 rf)),(122,cT j_ j9 cz),(124,cT oo oi cI)] [] [(5,b8 k X5 (zR rf))] [(257,l5 Dg CU (m6 rf))]
def Nm(k:Nat)(rf:c8->ae c3)(x:ac6):ae (So):=match x with
 |(l,n,b,p)=>(m6 rf (l,n,b,p)).bind λ(x,y,z,w,gT)=>cond (w) (J (x,y,z,w,gT)) (aI (λrec=>zR rf rec (λe eA=>match eA with|(_,_,_,v6,bb,bK,v9,o,a)=>match e with
   |.ret=>J (o,v6,bb,bK,v9)
   |.exit 0=>(cz ([73,83],v6,bb,bK,v9)).bind λ(q,c,d,f,g)=>cond (!q) (J (a,c,d,f,g)) ((cz ([78,79,84],c,d,f,g)).bind λ(r,s,t,u,v)=>(cI ([[78,85,76,76]],s,t,u,v)).bind λ(h,i,j,m)=>cond (r) (J ((aq.mk 3 ⟨0,0,[]⟩ [] [(aq.mk 16 ⟨0,0,[]⟩ [] [a])]),h,i,j,m)) (J ((aq.mk 16 ⟨0,0,[]⟩ [] [a]),h,i,j,m)))
   |_=>aj)) k ([(eR.mk [61] 6),(eR.mk [60,62] 7),(eR.mk [60] 8),(eR.mk [60,61] 9),(eR.mk [62] 10),(eR.mk [62,61] 11)],6,0,y,z,w,gT,(aq.mk 0 ⟨0,0,[]⟩ [] []),x))
theorem ao0(k:Nat)(rf:c8->ae c3)(c:dz 191 ji jh rf):dz 253 Jl I3 (Nm k rf):=ig (px:=aga _ k rf) (n:=1) Tryz.func253 rfl (λah H=>by have d:bP ah (aga (So) k rf):=br H (aQ H (agi rf c) (aQ H k7 (aQ H qJ bq))) bo (w1 H (agi rf c) bp);have a:=cd H d (b:=b0 Tryz.f253 0) (k:=k) (n:=0) (s:=X5) (step:=zR rf) (λ_ _ _ (_,_,_,_,_,_,_,_,_)=>by kernel_rfl) aK;exact⟨d,(b9 aK a)⟩) λ(_,_,_,_)=>by kernel_rfl
def qN(rf:c8->ae c3):ac6->ae So:=λx=>Nm (10) rf x
theorem azP(rf:c8->ae c3)(a:dz 191 ji jh rf):dz 253 Jl I3 (qN rf):=fX.fin (ι:=Nat) (aM:=Jl) (bL:=I3) 0 (F:=λk=>Nm k rf) (λk=>ao0 k rf a) λ_ _ _ ag=>⟨10,ag⟩
def CY:bn:=⟨1,[],[(0,.ptr 0 0)],[(0,.cells [cn,an,.bool,an])],1,1,0,[],[]⟩
def Db:bn:=⟨1,[(0,.bm .expr)],[],[(0,.cells [cn,an,.bool,an])],1,1,0,[],[]⟩
abbrev aiY:=U Tok×Int×Bool×Int
abbrev GU:=aq×U Tok×Int×Bool×Int
def V9:bn:=⟨36,[(2,.int .i64),(27,.int .i64),(28,.int .i64)],[(8,.ptr 80 0),(10,.ptr 81 0)],[(0,.cells [cn,an,.bool,an]),(1,.one (.bm .expr)),(80,.one (.bm .expr)),(81,.one (.bm .expr))],82,80,400,[],[]⟩
abbrev Ia:=Int×Int×Int×U Tok×Int×Bool×Int×aq×aq×aq
def wx{R:Type}(rec:Ia->ae R)(kx:aX->Ia->ae R)(v:Ia):ae R:=match v with|(a,b,c,eb,eO,e2,fD,d,e,f)=>cond (aa (c<b)) (rec (a,b,(wr .i64 (c+1)),eb,eO,e2,fD,d,e,(aq.mk a ⟨0,0,[]⟩ [] [f]))) (kx (.exit 2) (a,b,c,eb,eO,e2,fD,d,e,f))
def VW:bn:=⟨36,[(1,.str),(2,.int .i64),(9,.int .i64)],[(0,.ptr 0 0),(3,.hB 253 [.ptr 0 0]),(8,.ptr 80 0)],[(0,.cells [cn,an,.bool,an]),(1,.one (.bm .expr)),(80,.one (.bm .expr))],81,80,400,[],[]⟩
abbrev Ic:=ak×Int×Int×U Tok×Int×Bool×Int×aq×aq
def Am{R:Type}(rec:Ic->ae R)(kx:aX->Ic->ae R)(v:Ic):ae R:=match v with|(v,v1,v2,w,w1,b4,cv,cH,cK)=>cond (!b4) ((cz (v,w,w1,b4,cv)).bind λ(x,a,b,c,d)=>cond (x) (rec (v,v1,(wr .i64 (v2+1)),a,b,c,d,cH,cK)) (kx (.exit 0) (v,v1,v2,a,b,c,d,cH,cK))) (kx (.exit 0) (v,v1,v2,w,w1,b4,cv,cH,cK))
def WU(R:Type)(k:Nat)(rf:c8->ae c3):aR R:=bs [(122,cT j_ j9 cz),(253,cT Jl I3 (qN rf))] [] [(2,b8 k VW (Am)),(6,b8 k V9 (wx))] []
noncomputable def aiI(R:Type)(k:Nat)(rf:c8->ae c3):aR R:=bs [(252,ey 80 400 (WU R k rf) Tryz.f252)] [] [] []
def Ba(k:Nat)(rf:c8->ae c3)(x:aiY):ae (GU):=match x with
 |(l,n,b,p)=>aI (λrec=>Am rec (λe j=>match j with|(_,v4,v5,v6,bb,bK,v9,a,c)=>match e with
  |.exit 0=>(qN rf (v6,bb,bK,v9)).bind λ(m,o,q,r,s)=>aI (λrec=>wx rec (λe j=>match j with|(_,_,_,d,f,g,h,_,_,i)=>match e with
   |.exit 2=>J (i,d,f,g,h)
   |_=>aj)) k (v4,v5,0,o,q,r,s,a,c,m)
  |_=>aj)) k ([78,79,84],3,0,l,n,b,p,(aq.mk 0 ⟨0,0,[]⟩ [] []),(aq.mk 0 ⟨0,0,[]⟩ [] []))
theorem an8(k:Nat)(rf:c8->ae c3)(d:dz 191 ji jh rf):dz 247 CY Db (Ba k rf):=ig (px:=aiI _ k rf) (n:=0) Tryz.func247 rfl (λah H=>by have e:bP ah (WU (GU) k rf):=br H (aQ H k7 (aQ H (azP rf d) bq)) bo bp;have a:=cd H e (b:=b0 Tryz.f252 0) (k:=k) (n:=0) (s:=VW) (step:=Am) (λ_ _ _ (_,_,_,_,_,_,_,_,_)=>by kernel_rfl) aK;have c:=cd H e (b:=b0 Tryz.f252 1) (k:=k) (n:=0) (s:=V9) (step:=wx) (λ_ _ _ (_,_,_,_,_,_,_,_,_,_)=>by kernel_rfl) aK;have f:bP ah (aiI (GU) k rf):=br H (et (eS H e Tryz.func252 rfl (n:=2) (b9 (b9 aK a) c)) bq) bo bp;exact⟨f,aK⟩) λ(_,_,_,_)=>by kernel_rfl
def ow(rf:c8->ae c3):aiY->ae GU:=λx=>Ba (I x.1+1) rf x
theorem aiN(rf:c8->ae c3)(a:dz 191 ji jh rf):dz 247 CY Db (ow rf):=fX.fin (ι:=Nat) (aM:=CY) (bL:=Db) 0 (F:=λk=>Ba k rf) (λk=>an8 k rf a) λx _ _ ag=>⟨(I x.1+1),ag⟩
def C_:bn:=⟨1,[],[(0,.ptr 0 0)],[(0,.cells [cn,an,.bool,an])],1,1,0,[],[]⟩
def C0:bn:=⟨1,[(0,.bm .expr)],[],[(0,.cells [cn,an,.bool,an])],1,1,0,[],[]⟩
abbrev acD:=U Tok×Int×Bool×Int
abbrev Gq:=aq×U Tok×Int×Bool×Int
def Wa:bn:=⟨38,[(2,.sl .pair ab),(17,.sl .pair ai),(18,.int .i64),(19,.int .i64)],[(0,.ptr 0 0),(1,.hB 247 [.ptr 0 0]),(6,.ptr 80 0),(7,.ptr 81 0)],[(0,.cells [cn,an,.bool,an]),(1,.one (.bm .expr)),(80,.one (.bm .expr)),(81,.one (.bm .expr))],82,80,400,[],[]⟩
abbrev II:=U eR×U eR×Int×Int×U Tok×Int×Bool×Int×aq×aq×aq
def zM{R:Type}(rf:c8->ae c3)(rec:II->ae R)(kx:aX->II->ae R)(v:II):ae R:=match v with|(v1,v2,v3,v4,eO,e2,fD,d,a,b,c)=>cond (aa (v4<v3)) (ax (a_ v4 (I v2)) ((cz ((at' .pair v2 v4).sign,eO,e2,fD,d)).bind λ(n,j,k,l,m)=>cond (n) ((ow rf (j,k,l,m)).bind λ(e,f,g,h,i)=>kx (.exit 1) (v1,v2,v3,v4,f,g,h,i,a,b,(aq.mk ((at' .pair v2 v4).kind) ⟨0,0,[]⟩ [] [c,e]))) (rec (v1,v2,v3,(wr .i64 (v4+1)),j,k,l,m,a,b,c)))) (kx (.exit 2) (v1,v2,v3,v4,eO,e2,fD,d,a,b,c))
def XS:bn:=⟨38,[(2,.sl .pair ab)],[(0,.ptr 0 0),(1,.hB 247 [.ptr 0 0]),(6,.ptr 80 0),(7,.ptr 81 0)],[(0,.cells [cn,an,.bool,an]),(1,.one (.bm .expr)),(80,.one (.bm .expr)),(81,.one (.bm .expr))],82,80,400,[],[]⟩
abbrev Bw:=U eR×U Tok×Int×Bool×Int×aq×aq×aq
def Aj{R:Type}(k:Nat)(rf:c8->ae c3)(rec:Bw->ae R)(kx:aX->Bw->ae R)(v:Bw):ae R:=match v with
 |(v,w,w1,b4,cv,cH,cK,eb)=>cond (!b4) (aI (λh=>zM rf h (λe i=>match i with|(v5,_,_,_,v9,a,b,c,d,f,g)=>match e with
  |.exit 1=>rec (v5,v9,a,b,c,d,f,g)
  |.exit 2=>kx (.exit 0) (v5,v9,a,b,c,d,f,g)
  |_=>aj)) k (v,v,(I v:Int),0,w,w1,b4,cv,cH,cK,eb)) (kx (.exit 0) (v,w,w1,b4,cv,cH,cK,eb))
def W6(R:Type)(k:Nat)(rf:c8->ae c3):aR R:=bs [(247,cT CY Db (ow rf)),(122,cT j_ j9 cz)] [] [(4,b8 k Wa (zM rf)),(2,b8 k XS (Aj k rf))] [(247,l5 CY Db (ow rf))]
noncomputable def aiW(R:Type)(k:Nat)(rf:c8->ae c3):aR R:=bs [(232,ey 80 400 (W6 R k rf) Tryz.f232)] [] [] []
def xm(k:Nat)(rf:c8->ae c3)(x:acD):ae (Gq):=match x with
 |(l,n,b,p)=>(ow rf (l,n,b,p)).bind λ(x,h,i,j,m)=>aI (λrec=>Aj k rf rec (λe o=>match o with|(_,a,c,d,f,_,_,g)=>match e with
  |.exit 0=>J (g,a,c,d,f)
  |_=>aj)) k ([(eR.mk [65,78,68] 4)],h,i,j,m,(aq.mk 0 ⟨0,0,[]⟩ [] []),(aq.mk 0 ⟨0,0,[]⟩ [] []),x)
theorem aos(k:Nat)(rf:c8->ae c3)(d:dz 191 ji jh rf):dz 233 C_ C0 (xm k rf):=ig (px:=aiW _ k rf) (n:=0) Tryz.func233 rfl (λah H=>by have e:bP ah (W6 (Gq) k rf):=br H (aQ H (aiN rf d) (aQ H k7 bq)) bo (w1 H (aiN rf d) bp);have a:=cd H e (b:=vN (b0 Tryz.f232 0) 0) (k:=k) (n:=0) (s:=Wa) (step:=zM rf) (λ_ _ _ (_,_,_,_,_,_,_,_,_,_,_)=>by kernel_rfl) aK;have c:=cd H e (b:=b0 Tryz.f232 0) (k:=k) (n:=1) (s:=XS) (step:=Aj k rf) (λ_ _ _ (_,_,_,_,_,_,_,_)=>by kernel_rfl) (b9 aK a);have f:bP ah (aiW (Gq) k rf):=br H (et (eS H e Tryz.func232 rfl (n:=2) (b9 (b9 aK c) a)) bq) bo bp;exact⟨f,aK⟩) λ(_,_,_,_)=>by kernel_rfl
def nS(rf:c8->ae c3):acD->ae Gq:=λx=>xm (I x.1+3) rf x
theorem aiv(rf:c8->ae c3)(a:dz 191 ji jh rf):dz 233 C_ C0 (nS rf):=fX.fin (ι:=Nat) (aM:=C_) (bL:=C0) 0 (F:=λk=>xm k rf) (λk=>aos k rf a) λx _ _ ag=>⟨(I x.1+3),ag⟩
def afd:bn:=⟨38,[(2,.sl .pair ab),(17,.sl .pair ai),(18,.int .i64),(19,.int .i64)],[(0,.ptr 0 0),(1,.hB 233 [.ptr 0 0]),(6,.ptr 80 0),(7,.ptr 81 0)],[(0,.cells [cn,an,.bool,an]),(1,.one (.bm .expr)),(80,.one (.bm .expr)),(81,.one (.bm .expr))],82,80,400,[],[]⟩
abbrev Ji:=U eR×U eR×Int×Int×U Tok×Int×Bool×Int×aq×aq×aq
def yO{R:Type}(rf:c8->ae c3)(rec:Ji->ae R)(kx:aX->Ji->ae R)(v:Ji):ae R:=match v with|(v1,v2,v3,v4,eO,e2,fD,d,a,b,c)=>cond (aa (v4<v3)) (ax (a_ v4 (I v2)) ((cz ((at' .pair v2 v4).sign,eO,e2,fD,d)).bind λ(n,j,k,l,m)=>cond (n) ((nS rf (j,k,l,m)).bind λ(e,f,g,h,i)=>kx (.exit 1) (v1,v2,v3,v4,f,g,h,i,a,b,(aq.mk ((at' .pair v2 v4).kind) ⟨0,0,[]⟩ [] [c,e]))) (rec (v1,v2,v3,(wr .i64 (v4+1)),j,k,l,m,a,b,c)))) (kx (.exit 2) (v1,v2,v3,v4,eO,e2,fD,d,a,b,c))
def afF:bn:=⟨38,[(2,.sl .pair ab)],[(0,.ptr 0 0),(1,.hB 233 [.ptr 0 0]),(6,.ptr 80 0),(7,.ptr 81 0)],[(0,.cells [cn,an,.bool,an]),(1,.one (.bm .expr)),(80,.one (.bm .expr)),(81,.one (.bm .expr))],82,80,400,[],[]⟩
abbrev zy:=U eR×U Tok×Int×Bool×Int×aq×aq×aq
def yK{R:Type}(k:Nat)(rf:c8->ae c3)(rec:zy->ae R)(kx:aX->zy->ae R)(v:zy):ae R:=match v with
 |(v,w,w1,b4,cv,cH,cK,eb)=>cond (!b4) (aI (λh=>yO rf h (λe i=>match i with|(v5,_,_,_,v9,a,b,c,d,f,g)=>match e with
  |.exit 1=>rec (v5,v9,a,b,c,d,f,g)
  |.exit 2=>kx (.exit 0) (v5,v9,a,b,c,d,f,g)
  |_=>aj)) k (v,v,(I v:Int),0,w,w1,b4,cv,cH,cK,eb)) (kx (.exit 0) (v,w,w1,b4,cv,cH,cK,eb))
def adK(R:Type)(k:Nat)(rf:c8->ae c3):aR R:=bs [(233,cT C_ C0 (nS rf)),(122,cT j_ j9 cz)] [] [(4,b8 k afd (yO rf)),(2,b8 k afF (yK k rf))] [(233,l5 C_ C0 (nS rf))]
noncomputable def acW(R:Type)(k:Nat)(rf:c8->ae c3):aR R:=bs [(232,ey 80 400 (adK R k rf) Tryz.f232)] [] [] []
def xC(k:Nat)(rf:c8->ae c3)(x:c8):ae (c3):=match x with
 |(l,n,b,p)=>(nS rf (l,n,b,p)).bind λ(x,h,i,j,m)=>aI (λrec=>yK k rf rec (λe o=>match o with|(_,a,c,d,f,_,_,g)=>match e with
  |.exit 0=>J (g,a,c,d,f)
  |_=>aj)) k ([(eR.mk [79,82] 5)],h,i,j,m,(aq.mk 0 ⟨0,0,[]⟩ [] []),(aq.mk 0 ⟨0,0,[]⟩ [] []),x)
theorem ay4(k:Nat)(rf:c8->ae c3)(d:dz 191 ji jh rf):dz 191 ji jh (xC k rf):=ig (px:=acW _ k rf) (n:=0) Tryz.func191 rfl (λah H=>by have e:bP ah (adK (c3) k rf):=br H (aQ H (aiv rf d) (aQ H k7 bq)) bo (w1 H (aiv rf d) bp);have a:=cd H e (b:=vN (b0 Tryz.f232 0) 0) (k:=k) (n:=0) (s:=afd) (step:=yO rf) (λ_ _ _ (_,_,_,_,_,_,_,_,_,_,_)=>by kernel_rfl) aK;have c:=cd H e (b:=b0 Tryz.f232 0) (k:=k) (n:=1) (s:=afF) (step:=yK k rf) (λ_ _ _ (_,_,_,_,_,_,_,_)=>by kernel_rfl) (b9 aK a);have f:bP ah (acW (c3) k rf):=br H (et (eS H e Tryz.func232 rfl (n:=2) (b9 (b9 aK c) a)) bq) bo bp;exact⟨f,aK⟩) λ(_,_,_,_)=>by kernel_rfl
def pT(rf:c8->ae c3):c8->ae c3:=λx=>xC (I x.1+3) rf x
theorem az3(rf:c8->ae c3)(a:fX Tryz.prog i_ ph 191 ji jh rf):fX Tryz.prog i_ ph 191 ji jh (pT rf):=.fin (ι:=Nat) (aM:=ji) (bL:=jh) 0 (F:=λk=>xC k rf) (λk=>ay4 k rf a) λx _ _ ag=>⟨I x.1+3,ag⟩
def jV:c8->ae c3:=λx=>aI (V:=c8) (R:=c3) pT (I x.1+2) x
theorem GA:fX Tryz.prog i_ ph 191 ji jh jV:=.fin (ι:=Nat) (aM:=ji) (bL:=jh) 0 (F:=λn=>aI (V:=c8) (R:=c3) pT n) (λn=>fX.lq (av.enters_of Tryz.func191 rfl rfl) (λrf a=>az3 rf a) n) λx _ _ ag=>⟨I x.1+2,ag⟩
def E0:bn:=⟨1,[],[(0,.ptr 0 0)],[(0,.cells [cn,an,.bool,an])],1,1,0,[],[]⟩
def EZ:bn:=⟨1,[(0,.sl .str ab)],[],[(0,.cells [cn,an,.bool,an])],1,1,0,[],[]⟩
abbrev afo:=U Tok×Int×Bool×Int
abbrev FH:=U ak×U Tok×Int×Bool×Int
def _F:bn:=⟨19,[],[(0,.ptr 0 0),(1,.fn 231 [.ptr 2 0,.ptr 1 0])],[(0,.cells [cn,an,.bool,an]),(1,.i' [.ptr 0 0]),(2,.cells [eD])],80,80,400,[],[]⟩
abbrev Eo:=U Tok×Int×Bool×Int×U ak
def rZ{R:Type}(rec:Eo->ae R)(kx:aX->Eo->ae R)(v:Eo):ae R:=match v with|(w,w1,b4,cv,cH)=>cond (!b4) ((cz ([44],w,w1,b4,cv)).bind λ(j,a,b,c,d)=>cond (j) ((eP (a,b,c,d)).bind λ(e,f,g,h,i)=>ax (aa (I cH+1<=bY)) (rec (f,g,h,i,(cH++[e])))) (kx (.exit 0) (a,b,c,d,cH))) (kx (.exit 0) (w,w1,b4,cv,cH))
def Yt(R:Type)(mh:Nat):aR R:=bs [] [] [] [(125,l5 qH qG eP)]
noncomputable def ZD(R:Type)(k:Nat):aR R:=bs [(122,cT j_ j9 cz),(231,ey 120 600 (Yt R k) Tryz.f231)] [] [(1,b8 k _F (rZ))] []
noncomputable def Xf(R:Type)(k:Nat):aR R:=bs [(124,cT oo oi cI),(126,ey 80 400 (ZD R k) Tryz.f126)] [] [] []
def K6(k:Nat)(x:afo):ae (FH):=match x with
 |(l,n,b,p)=>(cI ([[40]],l,n,b,p)).bind λ(x,g,h,i)=>(eP (x,g,h,i)).bind λ(j,m,o,q,r)=>aI (λrec=>rZ rec (λe s=>match s with|(v,v1,v2,v3,v4)=>match e with
   |.exit 0=>(cI ([[41]],v,v1,v2,v3)).bind λ(a,c,d,f)=>J (v4,a,c,d,f)
   |_=>aj)) k (m,o,q,r,[j])
theorem ar5(k:Nat):dz 189 E0 EZ (K6 k):=ig (px:=Xf _ k) (n:=0) Tryz.func189 rfl (λah H=>by have d:bP ah (Yt (FH) k):=br H bq bo (w1 H tn bp);have c:bP ah (ZD (FH) k):=br H (aQ H k7 (et (eS H d Tryz.func231 rfl (n:=0) (aK)) bq)) bo bp;have a:=cd H c (b:=b0 Tryz.f126 0) (k:=k) (n:=0) (s:=_F) (step:=rZ) (λ_ _ _ (_,_,_,_,_)=>by kernel_rfl) aK;have e:bP ah (Xf (FH) k):=br H (aQ H qJ (et (eS H c Tryz.func126 rfl (n:=1) (b9 aK a)) bq)) bo bp;exact⟨e,aK⟩) λ(_,_,_,_)=>by kernel_rfl
def nL:afo->ae FH:=λx=>K6 (I x.1+3) x
theorem Xi:dz 189 E0 EZ (nL):=fX.fin (ι:=Nat) (aM:=E0) (bL:=EZ) 0 (F:=λk=>K6 k) (λk=>ar5 k) λx _ _ ag=>⟨(I x.1+3),ag⟩
def EO:bn:=⟨1,[],[(0,.ptr 0 0)],[(0,.cells [cn,an,.bool,an])],1,1,0,[],[]⟩
def ET:bn:=⟨1,[(0,.sl .expr ab)],[],[(0,.cells [cn,an,.bool,an])],1,1,0,[],[]⟩
abbrev aeD:=U Tok×Int×Bool×Int
abbrev Ff:=U aq×U Tok×Int×Bool×Int
def _G:bn:=⟨19,[],[(0,.ptr 0 0),(1,.fn 190 [.ptr 2 0,.ptr 1 0])],[(0,.cells [cn,an,.bool,an]),(1,.i' [.ptr 0 0]),(2,.cells [fe])],80,80,400,[],[]⟩
abbrev xe:=U Tok×Int×Bool×Int×U aq
def rX{R:Type}(rec:xe->ae R)(kx:aX->xe->ae R)(v:xe):ae R:=match v with|(w,w1,b4,cv,cH)=>cond (!b4) ((cz ([44],w,w1,b4,cv)).bind λ(j,f,g,h,i)=>cond (j) ((jV (f,g,h,i)).bind λ(a,b,c,d,e)=>ax (aa (I cH+1<=bY)&&aa ((I cH:Int)=(I cH:Int))) (rec (b,c,d,e,(cH++[a])))) (kx (.exit 0) (f,g,h,i,cH))) (kx (.exit 0) (w,w1,b4,cv,cH))
def Yo(R:Type)(mh:Nat):aR R:=bs [] [] [] [(191,l5 ji jh jV)]
noncomputable def Zf(R:Type)(k:Nat):aR R:=bs [(122,cT j_ j9 cz),(190,ey 120 600 (Yo R k) Tryz.f190)] [] [(1,b8 k _G (rX))] []
noncomputable def WK(R:Type)(k:Nat):aR R:=bs [(126,ey 80 400 (Zf R k) Tryz.f126)] [] [] []
def Lg(k:Nat)(x:aeD):ae (Ff):=match x with
 |(l,n,b,p)=>(jV (l,n,b,p)).bind λ(x,a,c,d,f)=>ax (aa (0+1<=bY)&&aa (0=(0:Int))) (aI (λrec=>rX rec (λe g=>match g with|(v,v1,v2,v3,v4)=>match e with
   |.exit 0=>J (v4,v,v1,v2,v3)
   |_=>aj)) k (a,c,d,f,[x]))
theorem ass(k:Nat):dz 128 EO ET (Lg k):=ig (px:=WK _ k) (n:=0) Tryz.func128 rfl (λah H=>by have d:bP ah (Yo (Ff) k):=br H bq bo (w1 H GA bp);have c:bP ah (Zf (Ff) k):=br H (aQ H k7 (et (eS H d Tryz.func190 rfl (n:=0) (aK)) bq)) bo bp;have a:=cd H c (b:=b0 Tryz.f126 0) (k:=k) (n:=0) (s:=_G) (step:=rX) (λ_ _ _ (_,_,_,_,_)=>by kernel_rfl) aK;have e:bP ah (WK (Ff) k):=br H (et (eS H c Tryz.func126 rfl (n:=1) (b9 aK a)) bq) bo bp;exact⟨e,aK⟩) λ(_,_,_,_)=>by kernel_rfl
def mZ:aeD->ae Ff:=λx=>Lg (I x.1+3) x
theorem Xc:dz 128 EO ET (mZ):=fX.fin (ι:=Nat) (aM:=EO) (bL:=ET) 0 (F:=λk=>Lg k) (λk=>ass k) λx _ _ ag=>⟨(I x.1+3),ag⟩
def Jh:bn:=⟨1,[],[(0,.ptr 0 0)],[(0,.cells [cn,an,.bool,an])],1,1,0,[],[]⟩
def IX:bn:=⟨1,[(0,.bm .b2)],[],[(0,.cells [cn,an,.bool,an])],1,1,0,[],[]⟩
abbrev acm:=U Tok×Int×Bool×Int
abbrev Gu:=bk×U Tok×Int×Bool×Int
def V2:bn:=⟨87,[(10,.int .i64)],[(0,.ptr 0 0),(2,.ptr 1 0),(3,.ptr 2 0),(9,.agg [.str [],.str [],.str [66,79,79,76],.str [73,78,84],.str [84,69,88,84],.str [66,89,84,69,83]])],[(0,.cells [cn,an,.bool,an]),(1,.one (.bm .b2)),(2,.one (.bm .b2))],3,1,0,[],[]⟩
abbrev tq:=Int×U Tok×Int×Bool×Int×bk×bk
def m4{R:Type}(rec:tq->ae R)(kx:aX->tq->ae R)(v:tq):ae R:=match v with
 |(v,w,w1,b4,cv,cH,cK)=>
 cond (aa (v<6)) (
  ax (a_ v 6) (
  let a:=λ(p1:Bool)=>
   let j:=λ(p2:Bool)=>
   cond (p2) (
    (cz ((at' .str [[],[],[66,79,79,76],[73,78,84],[84,69,88,84],[66,89,84,69,83]] v),w,w1,b4,cv)).bind λ(f,b,c,d,e)=>
    cond (f) (
     rec ((wr .i64 (v+1)),b,c,d,e,cH,(bk.mk cK.name v cK.h2 cK.unique cK.ref))) (
     rec ((wr .i64 (v+1)),b,c,d,e,cH,cK))) (
    rec ((wr .i64 (v+1)),w,w1,b4,cv,cH,cK))
   cond (p1) (
   j (aa (cK.kind=0))) (
   j ai)
  cond (aa (2<=v)) (
   a (!b4)) (
   a ai))) (
  kx (.exit 0) (v,w,w1,b4,cv,cH,cK))
def ag0(R:Type)(k:Nat):aR R:=bs [(125,cT qH qG eP),(122,cT j_ j9 cz),(132,cT u0 u3 lD),(124,cT oo oi cI)] [] [(3,b8 k V2 (m4))] []
def Pw(k:Nat)(x:acm):ae (Gu):=match x with
 |(l,n,b,p)=>
 (eP (l,n,b,p)).bind λ(x,hD,gB,ik,gT)=>
  aI (λrec=>m4 rec (λe eA=>match eA with|(_,v2,v3,v4,v5,_,bb)=>match e with
  |.exit 0=>
   let vL:=λ(h:U Tok) (i:Int) (d:Bool) (j:Int)=>
   let ih:=λ(m:U Tok) (o:Int) (q:Bool) (r:Int) (a:bk)=>
    let q':=λ(s:U Tok) (t:Int) (f:Bool) (u:Int)=>
    let nq:=λ(v:U Tok) (w:Int) (g:Bool) (y:Int) (c:bk)=>
     let n7:=λ(U0:Bool) (z:U Tok) (a0:Int) (bI:Bool) (a2:Int)=>
     cond (U0) (
      (eP (z,a0,bI,a2)).bind λ(a3,a4,a5,bB,bE)=>
      J ((bk.mk c.name c.kind c.h2 c.unique a3),a4,a5,bB,bE)) (
      J (c,z,a0,bI,a2))
     cond (!g) (
     (cz ([82,69,70,69,82,69,78,67,69,83],v,w,g,y)).bind λ(bG,a9,bZ,b7,ac)=>n7 bG a9 bZ b7 ac) (
     n7 ai v w g y)
    cond (!f) (
     (cz ([85,78,73,81,85,69],s,t,f,u)).bind λ(ad,cq,ez,ct,cM)=>
     nq cq ez ct cM (bk.mk a.name a.kind a.h2 ad a.ref)) (
     nq s t f u (bk.mk a.name a.kind a.h2 ai a.ref))
    cond (a.h2) (
    (cI ([[78,85,76,76]],m,o,q,r)).bind λ(cV,cS,cZ,bJ)=>q' cV cS cZ bJ) (
    q' m o q r)
   cond (!d) (
    (cz ([78,79,84],h,i,d,j)).bind λ(am,db,dk,ap,hM)=>
    ih db dk ap hM (bk.mk bb.name bb.kind am bb.unique bb.ref)) (
    ih h i d j (bk.mk bb.name bb.kind ai bb.unique bb.ref))
   cond (aa (bb.kind=0)) (
   (lD (v2,v3,v4,v5)).bind λ(dv,dI,ek,ev)=>vL dv dI ek ev) (
   vL v2 v3 v4 v5)
  |_=>aj)) k (0,hD,gB,ik,gT,(bk.mk [] 0 ai ai []),(bk.mk x 0 ai ai []))
theorem aoS(k:Nat):dz 230 Jh IX (Pw k):=ig (px:=ag0 _ k) (n:=1) Tryz.func230 rfl (λah H=>by have c:bP ah (ag0 (Gu) k):=br H (aQ H tn (aQ H k7 (aQ H Bc (aQ H qJ bq)))) bo bp;have a:=cd H c (b:=b0 Tryz.f230 0) (k:=k) (n:=0) (s:=V2) (step:=m4) (λ_ _ _ (_,_,_,_,_,_,_)=>by kernel_rfl) aK;exact⟨c,(b9 aK a)⟩) λ(_,_,_,_)=>by kernel_rfl
def pO:acm->ae Gu:=λx=>Pw (10) x
theorem azr:dz 230 Jh IX (pO):=fX.fin (ι:=Nat) (aM:=Jh) (bL:=IX) 0 (F:=λk=>Pw k) (λk=>aoS k) λ_ _ _ ag=>⟨10,ag⟩
def G5:bn:=⟨2,[],[(0,.ptr 0 0),(1,.ptr 1 0)],[(0,.cells [cn,an,.bool,an]),(1,.cells [an,.str,.str,.sl .b2 ab,dX,fe,.sl .exprs ab,.sl .set ab,.bool,an,an,an,.str,.str,fU,eD,.sl .bool ab,an])],2,2,0,[],[]⟩
def HL:bn:=⟨0,[],[],[(0,.cells [cn,an,.bool,an]),(1,.cells [an,.str,.str,.sl .b2 ab,dX,fe,.sl .exprs ab,.sl .set ab,.bool,an,an,an,.str,.str,fU,eD,.sl .bool ab,an])],2,2,0,[],[]⟩
abbrev aei:=U Tok×Int×Bool×Int×Int×ak×ak×U bk×U ak×U aq×U (U aq)×U ds×Bool×Int×Int×Int×ak×ak×U aq×U ak×U Bool×Int
abbrev xv:=U Tok×Int×Bool×Int×Int×ak×ak×U bk×U ak×U aq×U (U aq)×U ds×Bool×Int×Int×Int×ak×ak×U aq×U ak×U Bool×Int
def _L:bn:=⟨95,[],[(0,.ptr 0 0),(1,.ptr 1 0)],[(0,.cells [cn,an,.bool,an]),(1,.cells [an,.str,.str,.sl .b2 ab,eD,fe,.sl .exprs ab,.sl .set ab,.bool,an,an,an,.str,.str,fU,eD,.sl .bool ab,an])],2,2,0,[],[]⟩
abbrev qw:=U Tok×Int×Bool×Int×Int×ak×ak×U bk×U ak×U aq×U (U aq)×U ds×Bool×Int×Int×Int×ak×ak×U aq×U ak×U Bool×Int
def mw{R:Type}(rec:qw->ae R)(kx:aX->qw->ae R)(v:qw):ae R:=match v with|(t,u,b,w,c,d,e,f,g,a,h,i,j,k,l,m,n,o,p,q,r,s)=>cond (!b) ((cz ([44],t,u,b,w)).bind λ(bI,x,y,z,a0)=>cond (bI) ((cI ([[67,72,69,67,75],[40]],x,y,z,a0)).bind λ(a2,a3,a4,a5)=>(jV (a2,a3,a4,a5)).bind λ(bB,bE,bG,a9,bZ)=>ax (aa (I a+1<=bY)&&aa ((I a:Int)=(I a:Int))) ((cI ([[41]],bE,bG,a9,bZ)).bind λ(b7,ac,ad,cq)=>rec (b7,ac,ad,cq,c,d,e,f,g,(a++[bB]),h,i,j,k,l,m,n,o,p,q,r,s))) (kx (.exit 2) (x,y,z,a0,c,d,e,f,g,a,h,i,j,k,l,m,n,o,p,q,r,s))) (kx (.exit 2) (t,u,b,w,c,d,e,f,g,a,h,i,j,k,l,m,n,o,p,q,r,s))
def _c:bn:=⟨95,[],[(0,.ptr 0 0),(1,.ptr 1 0)],[(0,.cells [cn,an,.bool,an]),(1,.cells [an,.str,.str,.sl .b2 ab,dX,fe,.sl .exprs ab,.sl .set ab,.bool,an,an,an,.str,.str,fU,eD,.sl .bool ab,an])],2,2,0,[],[]⟩
abbrev qy:=U Tok×Int×Bool×Int×Int×ak×ak×U bk×U ak×U aq×U (U aq)×U ds×Bool×Int×Int×Int×ak×ak×U aq×U ak×U Bool×Int
def om{R:Type}(rec:qy->ae R)(kx:aX->qy->ae R)(v:qy):ae R:=match v with|(w,w1,b4,cv,cH,cK,eb,eO,e2,fD,a,b,c,d,e,f,g,h,i,j,k,l)=>cond (!b4) ((cz ([80,82,73,77,65,82,89],w,w1,b4,cv)).bind λ(q,m,n,o,p)=>cond (!q) ((pO (m,n,o,p)).bind λ(r,s,t,u,x)=>ax (aa (I eO+1<=bY)) ((cI ([[44]],s,t,u,x)).bind λ(y,z,a0,bI)=>rec (y,z,a0,bI,cH,cK,eb,(eO++[r]),e2,fD,a,b,c,d,e,f,g,h,i,j,k,l))) (kx (.exit 0) (m,n,o,p,cH,cK,eb,eO,e2,fD,a,b,c,d,e,f,g,h,i,j,k,l))) (kx (.exit 0) (w,w1,b4,cv,cH,cK,eb,eO,e2,fD,a,b,c,d,e,f,g,h,i,j,k,l))
def abY(R:Type)(k:Nat):aR R:=bs [(125,cT qH qG eP),(124,cT oo oi cI),(122,cT j_ j9 cz),(189,cT E0 EZ nL)] [] [(4,b8 k _c (om)),(9,b8 k _L (mw))] [(230,l5 Jh IX pO),(191,l5 ji jh jV)]
def TA(k:Nat)(x:aei):ae (xv):=match x with
 |(l,n,b,p,_,_,bL,ht,ss,sl,b3,st,qe,qg,rl,sE,vs,wn,wl,j1,j2,j3)=>(eP (l,n,b,p)).bind λ(x,hD,gB,ik,gT)=>(cI ([[40]],hD,gB,ik,gT)).bind λ(lV,nB,kZ,kl)=>(pO (lV,nB,kZ,kl)).bind λ(jM,a,c,d,f)=>ax (aa (I ht+1<=bY)) ((cI ([[44]],a,c,d,f)).bind λ(g,h,i,j)=>aI (λrec=>om rec (λe eA=>match eA with|(v,v1,v2,v3,v4,v5,v6,bb,_,v9,m,o,q,r,s,t,u,w,y,z,a0,bI)=>match e with
    |.exit 0=>(cI ([[75,69,89]],v,v1,v2,v3)).bind λ(a2,a3,a4,a5)=>(nL (a2,a3,a4,a5)).bind λ(bB,bE,bG,a9,bZ)=>aI (λrec=>mw rec (λe eA=>match eA with|(b7,ac,ad,cq,ez,ct,cM,cV,cS,cZ,bJ,am,db,dk,ap,hM,dv,dI,ek,ev,e8,eX)=>match e with
      |.exit 2=>(cI ([[41]],b7,ac,ad,cq)).bind λ(eY,dp,dC,eM)=>J (eY,dp,dC,eM,ez,ct,cM,cV,cS,cZ,bJ,am,db,dk,ap,hM,dv,dI,ek,ev,e8,eX)
      |_=>aj)) k (bE,bG,a9,bZ,v4,v5,v6,bb,bB,v9,m,o,q,r,s,t,u,w,y,z,a0,bI)
    |_=>aj)) k (g,h,i,j,1,x,bL,(ht++[jM]),ss,sl,b3,st,qe,qg,rl,sE,vs,wn,wl,j1,j2,j3))
theorem atw(k:Nat):dz 188 G5 HL (TA k):=ig (px:=abY _ k) (n:=2) Tryz.func188 rfl (λah H=>by have d:bP ah (abY (xv) k):=br H (aQ H tn (aQ H qJ (aQ H k7 (aQ H Xi bq)))) bo (w1 H azr (w1 H GA bp));have a:=cd H d (b:=b0 Tryz.f188 0) (k:=k) (n:=0) (s:=_c) (step:=om) (λ_ _ _ (_,_,_,_,_,_,_,_,_,_,_,_,_,_,_,_,_,_,_,_,_,_)=>by kernel_rfl) aK;have c:=cd H d (b:=b0 Tryz.f188 1) (k:=k) (n:=0) (s:=_L) (step:=mw) (λ_ _ _ (_,_,_,_,_,_,_,_,_,_,_,_,_,_,_,_,_,_,_,_,_,_)=>by kernel_rfl) aK;exact⟨d,(b9 (b9 aK a) c)⟩) λ(_,_,_,_,_,_,_,_,_,_,_,_,_,_,_,_,_,_,_,_,_,_)=>by kernel_rfl
def u':aei->ae xv:=λx=>TA (I x.1+3) x
theorem ava:dz 188 G5 HL (u'):=fX.fin (ι:=Nat) (aM:=G5) (bL:=HL) 0 (F:=λk=>TA k) (λk=>atw k) λx _ _ ag=>⟨(I x.1+3),ag⟩
def OX:bn:=⟨2,[],[(0,.ptr 0 0),(1,.ptr 1 0)],[(0,.cells [cn,an,.bool,an]),(1,.cells [an,.str,.str,.sl .b2 ab,dX,fe,.sl .exprs ab,.sl .set ab,.bool,an,an,an,.str,.str,fU,eD,.sl .bool ab,an])],2,2,0,[],[]⟩
def Ok:bn:=⟨0,[],[],[(0,.cells [cn,an,.bool,an]),(1,.cells [an,.str,.str,.sl .b2 ab,dX,fe,.sl .exprs ab,.sl .set ab,.bool,an,an,an,.str,.str,fU,eD,.sl .bool ab,an])],2,2,0,[],[]⟩
abbrev Xs:=U Tok×Int×Bool×Int×Int×ak×ak×U bk×U ak×U aq×U (U aq)×U ds×Bool×Int×Int×Int×ak×ak×U aq×U ak×U Bool×Int
abbrev Xy:=U Tok×Int×Bool×Int×Int×ak×ak×U bk×U ak×U aq×U (U aq)×U ds×Bool×Int×Int×Int×ak×ak×U aq×U ak×U Bool×Int
def as5(R:Type):aR R:=bs [(122,cT j_ j9 cz),(188,cT G5 HL u'),(124,cT oo oi cI),(125,cT qH qG eP),(189,cT E0 EZ nL)] [] [] []
def Y'(x:Xs):ae (Xy):=match x with|(l,n,b,p,Mm,lU,bL,ht,ss,sl,b3,st,qe,qg,rl,sE,vs,wn,wl,j1,j2,j3)=>(cz ([84,65,66,76,69],l,n,b,p)).bind λ(x,hD,gB,ik,gT)=>cond (x) ((u' (hD,gB,ik,gT,Mm,lU,bL,ht,ss,sl,b3,st,qe,qg,rl,sE,vs,wn,wl,j1,j2,j3)).bind λ(lV,nB,kZ,kl,jM,a,c,d,e,f,g,h,i,j,k,m,o,q,r,s,t,u)=>J (lV,nB,kZ,kl,jM,a,c,d,e,f,g,h,i,j,k,m,o,q,r,s,t,u)) ((cI ([[73,78,68,69,88]],hD,gB,ik,gT)).bind λ(v,w,y,z)=>(eP (v,w,y,z)).bind λ(a0,bI,a2,a3,a4)=>(cI ([[79,78]],bI,a2,a3,a4)).bind λ(a5,bB,bE,bG)=>(eP (a5,bB,bE,bG)).bind λ(a9,bZ,b7,ac,ad)=>(nL (bZ,b7,ac,ad)).bind λ(cq,ez,ct,cM,cV)=>J (ez,ct,cM,cV,3,a0,a9,ht,cq,sl,b3,st,qe,qg,rl,sE,vs,wn,wl,j1,j2,j3))
theorem arC:dz 123 OX Ok (Y'):=ig (px:=as5 _) (n:=0) Tryz.func123 rfl (λ_ H=>⟨br H (aQ H k7 (aQ H ava (aQ H qJ (aQ H tn (aQ H Xi bq))))) bo bp,aK⟩) λ(_,_,_,_,_,_,_,_,_,_,_,_,_,_,_,_,_,_,_,_,_,_)=>by kernel_rfl
def EN:Xs->ae Xy:=λx=>Y' x
theorem atX:dz 123 OX Ok (EN):=arC
def E3:bn:=⟨2,[],[(0,.ptr 0 0),(1,.ptr 1 0)],[(0,.cells [cn,an,.bool,an]),(1,.cells [an,.str,.str,.sl .b2 ab,dX,fe,.sl .exprs ab,.sl .set ab,.bool,an,an,an,.str,.str,fU,eD,.sl .bool ab,an])],2,2,0,[],[]⟩
def E1:bn:=⟨0,[],[],[(0,.cells [cn,an,.bool,an]),(1,.cells [an,.str,.str,.sl .b2 ab,dX,fe,.sl .exprs ab,.sl .set ab,.bool,an,an,an,.str,.str,fU,eD,.sl .bool ab,an])],2,2,0,[],[]⟩
abbrev aer:=U Tok×Int×Bool×Int×Int×ak×ak×U bk×U ak×U aq×U (U aq)×U ds×Bool×Int×Int×Int×ak×ak×U aq×U ak×U Bool×Int
abbrev afh:=U Tok×Int×Bool×Int×Int×ak×ak×U bk×U ak×U aq×U (U aq)×U ds×Bool×Int×Int×Int×ak×ak×U aq×U ak×U Bool×Int
def avM(R:Type):aR R:=bs [(122,cT j_ j9 cz),(191,cT ji jh jV)] [] [] []
def K9(x:aer):ae (afh):=match x with
 |(l,n,b,p,Mm,lU,bL,ht,ss,sl,b3,st,qe,qg,rl,sE,vs,wn,wl,j1,j2,j3)=>
 let j:=λ(p2:Bool) (c:U Tok) (d:Int) (e:Bool) (f:Int)=>
  cond (p2) (
  (jV (c,d,e,f)).bind λ(a,g,h,i,k)=>J (g,h,i,k,Mm,lU,bL,ht,ss,sl,b3,st,ab,a.kind,a.v.kind,a.v.n,a.v.s,a.name,a.l,j1,j2,j3)) (
  J (c,d,e,f,Mm,lU,bL,ht,ss,sl,b3,st,qe,qg,rl,sE,vs,wn,wl,j1,j2,j3))
 cond (!b) (
  (cz ([87,72,69,82,69],l,n,b,p)).bind λ(x,m,o,q,r)=>
  j x m o q r) (
  j ai l n b p)
theorem asA:dz 130 E3 E1 (K9):=ig (px:=avM _) (n:=0) Tryz.func130 rfl (λ_ H=>⟨br H (aQ H k7 (aQ H GA bq)) bo bp,aK⟩) λ(_,_,_,_,_,_,_,_,_,_,_,_,_,_,_,_,_,_,_,_,_,_)=>by kernel_rfl
def lF:aer->ae afh:=λx=>K9 x
theorem Pb:dz 130 E3 E1 (lF):=asA
def Ln:bn:=⟨2,[],[(0,.ptr 0 0),(1,.ptr 1 0)],[(0,.cells [cn,an,.bool,an]),(1,.cells [an,.str,.str,.sl .b2 ab,dX,fe,.sl .exprs ab,.sl .set ab,.bool,an,an,an,.str,.str,fU,eD,.sl .bool ab,an])],2,2,0,[],[]⟩
def Lv:bn:=⟨0,[],[],[(0,.cells [cn,an,.bool,an]),(1,.cells [an,.str,.str,.sl .b2 ab,dX,fe,.sl .exprs ab,.sl .set ab,.bool,an,an,an,.str,.str,fU,eD,.sl .bool ab,an])],2,2,0,[],[]⟩
abbrev Wy:=U Tok×Int×Bool×Int×Int×ak×ak×U bk×U ak×U aq×U (U aq)×U ds×Bool×Int×Int×Int×ak×ak×U aq×U ak×U Bool×Int
abbrev xk:=U Tok×Int×Bool×Int×Int×ak×ak×U bk×U ak×U aq×U (U aq)×U ds×Bool×Int×Int×Int×ak×ak×U aq×U ak×U Bool×Int
def YP:bn:=⟨19,[],[(0,.ptr 0 0),(1,.fn 192 [.ptr 2 0,.ptr 3 0])],[(0,.cells [cn,an,.bool,an]),(1,.cells [an,.str,.str,.sl .b2 ab,dX,fe,.sl .exprs ab,.sl .set ab,.bool,an,an,an,.str,.str,fU,eD,.sl .bool ab,an]),(2,.i' [.ptr 0 0]),(3,.i' [.ptr 1 0])],80,80,400,[],[]⟩
abbrev rO:=U Tok×Int×Bool×Int×Int×ak×ak×U bk×U ak×U aq×U (U aq)×U ds×Bool×Int×Int×Int×ak×ak×U aq×U ak×U Bool×Int
def o0{R:Type}(rec:rO->ae R)(kx:aX->rO->ae R)(v:rO):ae R:=match v with|(w,w1,b4,cv,cH,cK,eb,eO,e2,fD,b,a,c,d,e,f,g,h,i,j,k,l)=>cond (!b4) ((cz ([44],w,w1,b4,cv)).bind λ(q,m,n,o,p)=>cond (q) ((eP (m,n,o,p)).bind λ(r,s,t,u,x)=>(cI ([[61]],s,t,u,x)).bind λ(y,z,a0,bI)=>(jV (y,z,a0,bI)).bind λ(a2,a3,a4,a5,bB)=>ax (aa (I a+1<=bY)) (rec (a3,a4,a5,bB,cH,cK,eb,eO,e2,fD,b,(a++[(ds.mk r (gv a2))]),c,d,e,f,g,h,i,j,k,l))) (kx (.exit 0) (m,n,o,p,cH,cK,eb,eO,e2,fD,b,a,c,d,e,f,g,h,i,j,k,l))) (kx (.exit 0) (w,w1,b4,cv,cH,cK,eb,eO,e2,fD,b,a,c,d,e,f,g,h,i,j,k,l))
def akL(R:Type)(mh:Nat):aR R:=bs [(125,cT qH qG eP),(124,cT oo oi cI),(191,cT ji jh jV)] [] [] []
noncomputable def Y4(R:Type)(k:Nat):aR R:=bs [(122,cT j_ j9 cz),(192,ey 120 600 (akL R k) Tryz.f192)] [] [(1,b8 k YP (o0))] []
noncomputable def abN(R:Type)(k:Nat):aR R:=bs [(124,cT oo oi cI),(130,cT E3 E1 lF),(126,ey 80 400 (Y4 R k) Tryz.f126)] [] [] [(125,l5 qH qG eP)]
def Ts(k:Nat)(x:Wy):ae (xk):=match x with
 |(l,n,b,p,_,_,bL,ht,ss,sl,b3,st,qe,qg,rl,sE,vs,wn,wl,j1,j2,j3)=>(eP (l,n,b,p)).bind λ(x,hD,gB,ik,gT)=>(cI ([[83,69,84]],hD,gB,ik,gT)).bind λ(lV,nB,kZ,kl)=>(eP (lV,nB,kZ,kl)).bind λ(jM,a,c,d,f)=>(cI ([[61]],a,c,d,f)).bind λ(g,h,i,j)=>(jV (g,h,i,j)).bind λ(m,o,q,r,s)=>ax (aa (I st+1<=bY)) (aI (λrec=>o0 rec (λe eA=>match eA with|(v,v1,v2,v3,v4,v5,v6,bb,bK,v9,t,u,w,y,z,a0,bI,a2,a3,a4,a5,bB)=>match e with
     |.exit 0=>(lF (v,v1,v2,v3,v4,v5,v6,bb,bK,v9,t,u,w,y,z,a0,bI,a2,a3,a4,a5,bB)).bind λ(bE,bG,a9,bZ,b7,ac,ad,cq,ez,ct,cM,cV,cS,cZ,bJ,am,db,dk,ap,hM,dv,dI)=>J (bE,bG,a9,bZ,b7,ac,ad,cq,ez,ct,cM,cV,cS,cZ,bJ,am,db,dk,ap,hM,dv,dI)
     |_=>aj)) k (o,q,r,s,6,x,bL,ht,ss,sl,b3,(st++[(ds.mk jM (gv m))]),qe,qg,rl,sE,vs,wn,wl,j1,j2,j3))
theorem arO(k:Nat):dz 129 Ln Lv (Ts k):=ig (px:=abN _ k) (n:=0) Tryz.func129 rfl (λah H=>by have d:bP ah (akL (xk) k):=br H (aQ H tn (aQ H qJ (aQ H GA bq))) bo bp;have c:bP ah (Y4 (xk) k):=br H (aQ H k7 (et (eS H d Tryz.func192 rfl (n:=0) (aK)) bq)) bo bp;have a:=cd H c (b:=b0 Tryz.f126 0) (k:=k) (n:=0) (s:=YP) (step:=o0) (λ_ _ _ (_,_,_,_,_,_,_,_,_,_,_,_,_,_,_,_,_,_,_,_,_,_)=>by kernel_rfl) aK;have e:bP ah (abN (xk) k):=br H (aQ H qJ (aQ H Pb (et (eS H c Tryz.func126 rfl (n:=1) (b9 aK a)) bq))) bo (w1 H tn bp);exact⟨e,aK⟩) λ(_,_,_,_,_,_,_,_,_,_,_,_,_,_,_,_,_,_,_,_,_,_)=>by kernel_rfl
def Fa:Wy->ae xk:=λx=>Ts (I x.1+3) x
theorem atr:dz 129 Ln Lv (Fa):=fX.fin (ι:=Nat) (aM:=Ln) (bL:=Lv) 0 (F:=λk=>Ts k) (λk=>arO k) λx _ _ ag=>⟨(I x.1+3),ag⟩
def La:bn:=⟨2,[],[(0,.ptr 0 0),(1,.ptr 1 0)],[(0,.cells [cn,an,.bool,an]),(1,.cells [an,.str,.str,.sl .b2 ab,dX,fe,.sl .exprs ab,.sl .set ab,.bool,an,an,an,.str,.str,fU,eD,.sl .bool ab,an])],2,2,0,[],[]⟩
def K8:bn:=⟨0,[],[],[(0,.cells [cn,an,.bool,an]),(1,.cells [an,.str,.str,.sl .b2 ab,dX,fe,.sl .exprs ab,.sl .set ab,.bool,an,an,an,.str,.str,fU,eD,.sl .bool ab,an])],2,2,0,[],[]⟩
abbrev abl:=U Tok×Int×Bool×Int×Int×ak×ak×U bk×U ak×U aq×U (U aq)×U ds×Bool×Int×Int×Int×ak×ak×U aq×U ak×U Bool×Int
abbrev rT:=U Tok×Int×Bool×Int×Int×ak×ak×U bk×U ak×U aq×U (U aq)×U ds×Bool×Int×Int×Int×ak×ak×U aq×U ak×U Bool×Int
def Yv:bn:=⟨19,[],[(0,.ptr 0 0),(1,.fn 193 [.ptr 3 0,.ptr 2 0])],[(0,.cells [cn,an,.bool,an]),(1,.cells [an,.str,.str,.sl .b2 ab,dX,fe,.sl .exprs ab,.sl .set ab,.bool,an,an,an,.str,.str,fU,eD,.sl .bool ab,an]),(2,.i' [.ptr 0 0]),(3,.i' [.ptr 1 0])],80,80,400,[],[]⟩
abbrev qt:=U Tok×Int×Bool×Int×Int×ak×ak×U bk×U ak×U aq×U (U aq)×U ds×Bool×Int×Int×Int×ak×ak×U aq×U ak×U Bool×Int
def mY{R:Type}(rec:qt->ae R)(kx:aX->qt->ae R)(v:qt):ae R:=match v with|(w,w1,b4,cv,cH,cK,eb,eO,e2,fD,c,d,e,f,g,h,i,j,k,b,a,l)=>cond (!b4) ((cz ([44],w,w1,b4,cv)).bind λ(a2,y,z,a0,bI)=>cond (a2) ((eP (y,z,a0,bI)).bind λ(m,q,r,n,s)=>ax (aa (I b+1<=bY)) (cond (!n) ((cz ([68,69,83,67],q,r,n,s)).bind λ(o,t,u,p,x)=>cond (!p) (cond (!o) ((cz ([65,83,67],t,u,p,x)).bind λ(_,a3,a4,a5,bB)=>ax (aa (I a+1<=bY)) (rec (a3,a4,a5,bB,cH,cK,eb,eO,e2,fD,c,d,e,f,g,h,i,j,k,(b++[m]),(a++[o]),l))) (ax (aa (I a+1<=bY)) (rec (t,u,p,x,cH,cK,eb,eO,e2,fD,c,d,e,f,g,h,i,j,k,(b++[m]),(a++[o]),l)))) (ax (aa (I a+1<=bY)) (rec (t,u,p,x,cH,cK,eb,eO,e2,fD,c,d,e,f,g,h,i,j,k,(b++[m]),(a++[o]),l)))) (cond (!n) ((cz ([65,83,67],q,r,n,s)).bind λ(_,bE,bG,a9,bZ)=>ax (aa (I a+1<=bY)) (rec (bE,bG,a9,bZ,cH,cK,eb,eO,e2,fD,c,d,e,f,g,h,i,j,k,(b++[m]),(a++[ai]),l))) (ax (aa (I a+1<=bY)) (rec (q,r,n,s,cH,cK,eb,eO,e2,fD,c,d,e,f,g,h,i,j,k,(b++[m]),(a++[ai]),l)))))) (kx (.exit 0) (y,z,a0,bI,cH,cK,eb,eO,e2,fD,c,d,e,f,g,h,i,j,k,b,a,l))) (kx (.exit 0) (w,w1,b4,cv,cH,cK,eb,eO,e2,fD,c,d,e,f,g,h,i,j,k,b,a,l))
def akC(R:Type)(mh:Nat):aR R:=bs [(122,cT j_ j9 cz)] [] [] [(125,l5 qH qG eP)]
noncomputable def Yq(R:Type)(k:Nat):aR R:=bs [(122,cT j_ j9 cz),(193,ey 120 600 (akC R k) Tryz.f193)] [] [(1,b8 k Yv (mY))] []
noncomputable def _g(R:Type)(k:Nat):aR R:=bs [(122,cT j_ j9 cz),(124,cT oo oi cI),(130,cT E3 E1 lF),(186,cT u4 u9 my),(132,cT u0 u3 lD),(126,ey 80 400 (Yq R k) Tryz.f126)] [] [] [(128,l5 EO ET mZ),(125,l5 qH qG eP),(187,l5 xE xx jN)]
def Tl(k:Nat)(x:abl):ae (rT):=match x with
 |(l,n,b,p,_,_,bL,ht,ss,sl,b3,st,qe,qg,rl,sE,vs,wn,wl,j1,j2,_)=>
 let n7:=λ(q:U Tok) (bc:Int) (ep:Bool) (fr:Int) (kj:U aq)=>
  (cI ([[70,82,79,77]],q,bc,ep,fr)).bind λ(fp,be,nY,nZ)=>
  (eP (fp,be,nY,nZ)).bind λ(n0,bi,pc,pY,au)=>
   (lF (bi,pc,pY,au,8,n0,bL,ht,ss,kj,b3,st,qe,qg,rl,sE,vs,wn,wl,j1,j2,(-1))).bind λ(dI,ek,a4,ev,a5,bB,bE,bG,a9,bZ,b7,ac,ad,cq,ez,ct,cM,cV,cS,d,a,cZ)=>
   let ih:=λ(e8:U Tok) (eX:Int) (bJ:Bool) (eY:Int) (f:Int) (g:ak) (h:ak) (i:U bk) (j:U ak) (m:U aq) (o:U (U aq)) (r:U ds) (s:Bool) (t:Int) (u:Int) (v:Int) (w:ak) (y:ak) (z:U aq) (a0:U ak) (bI:U Bool) (dp:Int)=>
    cond (!bJ) (
    (cz ([76,73,77,73,84],e8,eX,bJ,eY)).bind λ(hB,dC,eM,gF,iY)=>
     cond (hB) (
     (my (dC,eM,gF,iY)).bind λ(pZ,hq,iZ,iK,jF)=>
      cond (!decide (pZ.kind=3)) (
      (lD (hq,iZ,iK,jF)).bind λ(p0,p4,p5,n1)=>
       (jN (p0,p4,p5,n1)).bind λ(pd,vB,q7,bv,sg)=>
       J (vB,q7,bv,sg,f,g,h,i,j,m,o,r,s,t,u,v,w,y,z,a0,bI,pd.n)) (
      (jN (hq,iZ,iK,jF)).bind λ(B8,tJ,dD,c1,c2)=>J (tJ,dD,c1,c2,f,g,h,i,j,m,o,r,s,t,u,v,w,y,z,a0,bI,B8.n))) (
     J (dC,eM,gF,iY,f,g,h,i,j,m,o,r,s,t,u,v,w,y,z,a0,bI,dp))) (
    J (e8,eX,bJ,eY,f,g,h,i,j,m,o,r,s,t,u,v,w,y,z,a0,bI,dp))
   cond (!a4) (
    (cz ([79,82,68,69,82],dI,ek,a4,ev)).bind λ(fZ,ke,jY,mO,nj)=>
    cond (fZ) (
     (cI ([[66,89]],ke,jY,mO,nj)).bind λ(gQ,nk,n2,nm)=>
     (eP (gQ,nk,n2,nm)).bind λ(p6,am,db,c,dk)=>
      let jn:=λ(p7:U Tok) (B9:Int) (B_:Bool) (x1:Int) (B':U Bool)=>
      aI (λrec=>mY rec (λe eA=>match eA with|(ce,Ca,Cb,x2,ci,Cc,Cd,Ce,Cf,Cg,co,Ch,Ci,Cj,cs,Cl,Cm,Cn,Co,ah,Cp,x3)=>match e with
       |.exit 0=>
       ih ce Ca Cb x2 ci Cc Cd Ce Cf Cg co Ch Ci Cj cs Cl Cm Cn Co ah Cp x3
       |_=>aj)) k (p7,B9,B_,x1,a5,bB,bE,bG,a9,bZ,b7,ac,ad,cq,ez,ct,cM,cV,cS,(d++[p6]),B',cZ)
      ax (aa (I d+1<=bY)) (
      cond (!c) (
       (cz ([68,69,83,67],am,db,c,dk)).bind λ(a2,ap,hM,a3,dv)=>
       cond (!a3) (
        cond (!a2) (
        (cz ([65,83,67],ap,hM,a3,dv)).bind λ(_,d0,d1,d2,d3)=>
         ax (aa (I a+1<=bY)) (
         jn d0 d1 d2 d3 (a++[a2]))) (
        ax (aa (I a+1<=bY)) (
         jn ap hM a3 dv (a++[a2])))) (
        ax (aa (I a+1<=bY)) (
        jn ap hM a3 dv (a++[a2])))) (
       cond (!c) (
       (cz ([65,83,67],am,db,c,dk)).bind λ(_,d4,d5,d6,d7)=>
        ax (aa (I a+1<=bY)) (
        jn d4 d5 d6 d7 (a++[ai]))) (
       ax (aa (I a+1<=bY)) (
        jn am db c dk (a++[ai])))))) (
     ih ke jY mO nj a5 bB bE bG a9 bZ b7 ac ad cq ez ct cM cV cS d a cZ)) (
    ih dI ek a4 ev a5 bB bE bG a9 bZ b7 ac ad cq ez ct cM cV cS d a cZ)
 (cz ([42],l,n,b,p)).bind λ(x,hD,gB,ik,gT)=>
  cond (!x) (
  (mZ (hD,gB,ik,gT)).bind λ(lV,nB,kZ,kl,jM)=>n7 nB kZ kl jM lV) (
  n7 hD gB ik gT sl)
theorem amu(k:Nat):dz 131 La K8 (Tl k):=ig (px:=_g _ k) (n:=0) Tryz.func131 rfl (λah H=>by have d:bP ah (akC (rT) k):=br H (aQ H k7 bq) bo (w1 H tn bp);have c:bP ah (Yq (rT) k):=br H (aQ H k7 (et (eS H d Tryz.func193 rfl (n:=0) (aK)) bq)) bo bp;have a:=cd H c (b:=b0 Tryz.f126 0) (k:=k) (n:=0) (s:=Yv) (step:=mY) (λ_ _ _ (_,_,_,_,_,_,_,_,_,_,_,_,_,_,_,_,_,_,_,_,_,_)=>by kernel_rfl) aK;have e:bP ah (_g (rT) k):=br H (aQ H k7 (aQ H qJ (aQ H Pb (aQ H BJ (aQ H Bc (et (eS H c Tryz.func126 rfl (n:=1) (b9 aK a)) bq)))))) bo (w1 H Xc (w1 H tn (w1 H FA bp)));exact⟨e,aK⟩) λ(_,_,_,_,_,_,_,_,_,_,_,_,_,_,_,_,_,_,_,_,_,_)=>by kernel_rfl
def AW:abl->ae rT:=λx=>Tl (I x.1+3) x
theorem ary:dz 131 La K8 (AW):=fX.fin (ι:=Nat) (aM:=La) (bL:=K8) 0 (F:=λk=>Tl k) (λk=>amu k) λx _ _ ag=>⟨(I x.1+3),ag⟩
def Is:bn:=⟨1,[],[(0,.ptr 0 0)],[(0,.cells [cn,an,.bool,an])],1,1,0,[],[]⟩
def HQ:bn:=⟨1,[(0,.bm .stmt)],[],[(0,.cells [cn,an,.bool,an])],1,1,0,[],[]⟩
abbrev ag1:=U Tok×Int×Bool×Int
abbrev tv:=aP×U Tok×Int×Bool×Int
def aai:bn:=⟨19,[],[(0,.ptr 0 0),(1,.fn 127 [.ptr 1 0,.ptr 3 0])],[(0,.cells [cn,an,.bool,an]),(1,.i' [.ptr 0 0]),(2,.one (.bm .stmt)),(3,.cells [an,.str,.str,.sl .b2 ab,eD,fe,.sl .exprs ab,.sl .set ab,.bool,an,an,an,.str,.str,fe,eD,.sl .bool ab,an])],80,80,400,[],[]⟩
abbrev ti:=U Tok×Int×Bool×Int×aP×Int×ak×ak×U bk×U ak×U aq×U (U aq)×U ds×Bool×Int×Int×Int×ak×ak×U aq×U ak×U Bool×Int
def oq{R:Type}(rec:ti->ae R)(kx:aX->ti->ae R)(v:ti):ae R:=match v with|(w,w1,b4,cv,cH,cK,eb,eO,e2,fD,b,a,c,d,e,f,g,h,i,j,k,l,m)=>cond (!b4) ((cz ([44],w,w1,b4,cv)).bind λ(r,n,o,p,q)=>cond (r) ((cI ([[40]],n,o,p,q)).bind λ(s,t,u,x)=>(mZ (s,t,u,x)).bind λ(y,z,a0,bI,a2)=>ax (aa (I a+1<=bY)) ((cI ([[41]],z,a0,bI,a2)).bind λ(a3,a4,a5,bB)=>rec (a3,a4,a5,bB,cH,cK,eb,eO,e2,fD,b,(a++[y]),c,d,e,f,g,h,i,j,k,l,m))) (kx (.exit 0) (n,o,p,q,cH,cK,eb,eO,e2,fD,b,a,c,d,e,f,g,h,i,j,k,l,m))) (kx (.exit 0) (w,w1,b4,cv,cH,cK,eb,eO,e2,fD,b,a,c,d,e,f,g,h,i,j,k,l,m))
def Y0(R:Type)(mh:Nat):aR R:=bs [(124,cT oo oi cI)] [] [] [(128,l5 EO ET mZ)]
noncomputable def ab6(R:Type)(k:Nat):aR R:=bs [(122,cT j_ j9 cz),(127,ey 120 600 (Y0 R k) Tryz.f127)] [] [(1,b8 k aai (oq))] []
noncomputable def aez(R:Type)(k:Nat):aR R:=bs [(122,cT j_ j9 cz),(123,cT OX Ok EN),(124,cT oo oi cI),(125,cT qH qG eP),(129,cT Ln Lv Fa),(130,cT E3 E1 lF),(131,cT La K8 AW),(132,cT u0 u3 lD),(126,ey 80 400 (ab6 R k) Tryz.f126)] [] [] []
def OM(k:Nat)(x:ag1):ae (tv):=match x with
 |(l,n,b,p)=>(cz ([67,82,69,65,84,69],l,n,b,p)).bind λ(x,hD,gB,ik,gT)=>cond (x) ((EN (hD,gB,ik,gT,0,[],[],[],[],[],[],[],ai,0,0,0,[],[],[],[],[],0)).bind λ(lV,nB,kZ,kl,jM,i,j,m,o,q,r,s,t,u,w,y,z,a0,bI,a2,a3,a4)=>cond (!kZ) ((cz ([59],lV,nB,kZ,kl)).bind λ(_,T9,Cq,T_,T')=>J ((aP.mk jM i j m o q r s t (aq.mk u ⟨w,y,z⟩ a0 bI) a2 a3 a4),T9,Cq,T_,T')) (J ((aP.mk jM i j m o q r s t (aq.mk u ⟨w,y,z⟩ a0 bI) a2 a3 a4),lV,nB,kZ,kl))) ((cz ([68,82,79,80],hD,gB,ik,gT)).bind λ(kf,a5,bB,bE,bG)=>cond (kf) ((cz ([84,65,66,76,69],a5,bB,bE,bG)).bind λ(ix,a9,bZ,b7,ac)=>cond (!ix) ((cI ([[73,78,68,69,88]],a9,bZ,b7,ac)).bind λ(Ua,Ub,Uc,Ud)=>(eP (Ua,Ub,Uc,Ud)).bind λ(ad,cq,ez,a,ct)=>cond (!a) ((cz ([59],cq,ez,a,ct)).bind λ(_,dl,Ue,fx,oG)=>J ((aP.mk 4 ad [] [] [] [] [] [] ai (aq.mk 0 ⟨0,0,[]⟩ [] []) [] [] 0),dl,Ue,fx,oG)) (J ((aP.mk 4 ad [] [] [] [] [] [] ai (aq.mk 0 ⟨0,0,[]⟩ [] []) [] [] 0),cq,ez,a,ct))) ((eP (a9,bZ,b7,ac)).bind λ(cM,cV,cS,c,cZ)=>cond (!c) ((cz ([59],cV,cS,c,cZ)).bind λ(_,Uf,x4,az,Ug)=>J ((aP.mk 2 cM [] [] [] [] [] [] ai (aq.mk 0 ⟨0,0,[]⟩ [] []) [] [] 0),Uf,x4,az,Ug)) (J ((aP.mk 2 cM [] [] [] [] [] [] ai (aq.mk 0 ⟨0,0,[]⟩ [] []) [] [] 0),cV,cS,c,cZ)))) ((cz ([73,78,83,69,82,84],a5,bB,bE,bG)).bind λ(Uh,bJ,am,db,dk)=>cond (Uh) ((cI ([[73,78,84,79]],bJ,am,db,dk)).bind λ(Ui,Uj,Uk,Cs)=>(eP (Ui,Uj,Uk,Cs)).bind λ(Ul,jZ,de,eH,gy)=>(cI ([[86,65,76,85,69,83]],jZ,de,eH,gy)).bind λ(pg,jG,x5,vE)=>(cI ([[40]],pg,jG,x5,vE)).bind λ(vF,tM,FV,vG)=>(mZ (vF,tM,FV,vG)).bind λ(Um,FW,Un,Uo,Up)=>(cI ([[41]],FW,Un,Uo,Up)).bind λ(Uq,Ur,Us,Ut)=>aI (λrec=>oq rec (λe eA=>match eA with|(v,v1,v2,v3,_,v5,v6,bb,bK,v9,ap,hM,dv,dI,ek,ev,e8,eX,eY,dp,dC,eM,gF)=>match e with
        |.exit 0=>cond (!v2) ((cz ([59],v,v1,v2,v3)).bind λ(_,el,em,dJ,Uv)=>J ((aP.mk v5 v6 bb bK v9 ap hM dv dI (aq.mk ek ⟨ev,e8,eX⟩ eY dp) dC eM gF),el,em,dJ,Uv)) (J ((aP.mk v5 v6 bb bK v9 ap hM dv dI (aq.mk ek ⟨ev,e8,eX⟩ eY dp) dC eM gF),v,v1,v2,v3))
        |_=>aj)) k (Uq,Ur,Us,Ut,(aP.mk 0 [] [] [] [] [] [] [] ai (aq.mk 0 ⟨0,0,[]⟩ [] []) [] [] 0),5,Ul,[],[],[],[],[Um],[],ai,0,0,0,[],[],[],[],[],0)) ((cz ([85,80,68,65,84,69],bJ,am,db,dk)).bind λ(lo,iY,hq,iZ,iK)=>cond (lo) ((Fa (iY,hq,iZ,iK,0,[],[],[],[],[],[],[],ai,0,0,0,[],[],[],[],[],0)).bind λ(jF,ke,d,jY,mO,nj,fp,be,nY,nZ,n0,bi,pc,pY,au,hB,pZ,p0,p4,p5,n1,pd)=>cond (!d) ((cz ([59],jF,ke,d,jY)).bind λ(_,fR,es,FY,x8)=>J ((aP.mk mO nj fp be nY nZ n0 bi pc (aq.mk pY ⟨au,hB,pZ⟩ p0 p4) p5 n1 pd),fR,es,FY,x8)) (J ((aP.mk mO nj fp be nY nZ n0 bi pc (aq.mk pY ⟨au,hB,pZ⟩ p0 p4) p5 n1 pd),jF,ke,d,jY))) ((cz ([68,69,76,69,84,69],iY,hq,iZ,iK)).bind λ(aJ,vB,q7,bv,sg)=>cond (aJ) ((cI ([[70,82,79,77]],vB,q7,bv,sg)).bind λ(Uy,ex,UA,UB)=>(eP (Uy,ex,UA,UB)).bind λ(f0,f1,f2,f3,f4)=>(lF (f1,f2,f3,f4,7,f0,[],[],[],[],[],[],ai,0,0,0,[],[],[],[],[],0)).bind λ(B8,tJ,f,dD,c1,c2,fZ,gQ,nk,n2,nm,p6,p7,B9,B_,x1,B',ce,Ca,Cb,x2,ci)=>cond (!f) ((cz ([59],B8,tJ,f,dD)).bind λ(_,f5,f6,f7,f8)=>J ((aP.mk c1 c2 fZ gQ nk n2 nm p6 p7 (aq.mk B9 ⟨B_,x1,B'⟩ ce Ca) Cb x2 ci),f5,f6,f7,f8)) (J ((aP.mk c1 c2 fZ gQ nk n2 nm p6 p7 (aq.mk B9 ⟨B_,x1,B'⟩ ce Ca) Cb x2 ci),B8,tJ,f,dD))) ((cz ([83,69,76,69,67,84],vB,q7,bv,sg)).bind λ(f9,Cc,Cd,Ce,Cf)=>cond (f9) ((AW (Cc,Cd,Ce,Cf,0,[],[],[],[],[],[],[],ai,0,0,0,[],[],[],[],[],0)).bind λ(Cg,co,g,Ch,Ci,Cj,cs,Cl,Cm,Cn,Co,ah,Cp,x3,d0,d1,d2,d3,d4,d5,d6,d7)=>cond (!g) ((cz ([59],Cg,co,g,Ch)).bind λ(_,aDB,aDD,aDE,fd)=>J ((aP.mk Ci Cj cs Cl Cm Cn Co ah Cp (aq.mk x3 ⟨d0,d1,d2⟩ d3 d4) d5 d6 d7),aDB,aDD,aDE,fd)) (J ((aP.mk Ci Cj cs Cl Cm Cn Co ah Cp (aq.mk x3 ⟨d0,d1,d2⟩ d3 d4) d5 d6 d7),Cg,co,g,Ch))) ((lD (Cc,Cd,Ce,Cf)).bind λ(d8,d9,h,L0)=>cond (!h) ((cz ([59],d8,d9,h,L0)).bind λ(_,aDF,aDG,aDH,aDI)=>J ((aP.mk 0 [] [] [] [] [] [] [] ai (aq.mk 0 ⟨0,0,[]⟩ [] []) [] [] 0),aDF,aDG,aDH,aDI)) (J ((aP.mk 0 [] [] [] [] [] [] [] ai (aq.mk 0 ⟨0,0,[]⟩ [] []) [] [] 0),d8,d9,h,L0))))))))
theorem aws(k:Nat):dz 67 Is HQ (OM k):=ig (px:=aez _ k) (n:=0) Tryz.func67 rfl (λah H=>by have d:bP ah (Y0 (tv) k):=br H (aQ H qJ bq) bo (w1 H Xc bp);have c:bP ah (ab6 (tv) k):=br H (aQ H k7 (et (eS H d Tryz.func127 rfl (n:=0) (aK)) bq)) bo bp;have a:=cd H c (b:=b0 Tryz.f126 0) (k:=k) (n:=0) (s:=aai) (step:=oq) (λ_ _ _ (_,_,_,_,_,_,_,_,_,_,_,_,_,_,_,_,_,_,_,_,_,_,_)=>by kernel_rfl) aK;have e:bP ah (aez (tv) k):=br H (aQ H k7 (aQ H atX (aQ H qJ (aQ H tn (aQ H atr (aQ H Pb (aQ H ary (aQ H Bc (et (eS H c Tryz.func126 rfl (n:=1) (b9 aK a)) bq))))))))) bo bp;exact⟨e,aK⟩) λ(_,_,_,_)=>by kernel_rfl
def r6:ag1->ae tv:=λx=>OM (I x.1+3) x
theorem aoO:dz 67 Is HQ (r6):=fX.fin (ι:=Nat) (aM:=Is) (bL:=HQ) 0 (F:=λk=>OM k) (λk=>aws k) λx _ _ ag=>⟨(I x.1+3),ag⟩
def Rb:bn:=⟨1,[],[(0,.ptr 0 0)],[(0,.cells [cn,an,.bool,an])],1,1,0,[],[]⟩
def P':bn:=⟨1,[(0,.bool)],[],[(0,.cells [cn,an,.bool,an])],1,1,0,[],[]⟩
abbrev agc:=U Tok×Int×Bool×Int
abbrev af9:=Bool×U Tok×Int×Bool×Int
def apz(R:Type):aR R:=bs [(132,cT u0 u3 lD)] [] [] []
def LK(x:agc):ae (af9):=match x with|(l,n,b,p)=>cond (aa (0<(I l:Int))) ((lD (l,n,b,p)).bind λ(x,c,a,d)=>J (!a,x,c,a,d)) (J (!b,l,n,b,p))
theorem axD:dz 68 Rb P' (LK):=ig (px:=apz _) (n:=0) Tryz.func68 rfl (λ_ H=>⟨br H (aQ H Bc bq) bo bp,aK⟩) λ(_,_,_,_)=>by kernel_rfl
def xP:agc->ae af9:=λx=>LK x
theorem ap2:dz 68 Rb P' (xP):=axD
def aa5(R:Type):aR R:=bs [(121,ba Sn)] [] [] []
noncomputable def afY(R:Type):aR R:=bs [(67,cT Is HQ r6),(68,cT Rb P' xP),(39,ba Bu),(66,ey 40 200 (aa5 R) Tryz.f66)] [] [] []
def OI(x:aw [.str]):ae (aw [cG,an,an]):=match x with|s=>cond (!decide ((iS s).2.2=0)) (J ((aP.mk 0 [] [] [] [] [] [] [] ai (aq.mk 0 ⟨0,0,[]⟩ [] []) [] [] 0),(iS s).2.1,(iS s).2.2)) ((r6 ((iS s).1,(I s:Int),ai,0)).bind λ(x,b,c,d,e)=>(xP (b,c,d,e)).bind λ(f,_,_,_,g)=>cond (!f) (J ((aP.mk 0 [] [] [] [] [] [] [] ai (aq.mk 0 ⟨0,0,[]⟩ [] []) [] [] 0),g,11)) ((ou x).bind λa=>cond (!decide (a=0)) (J ((aP.mk 0 [] [] [] [] [] [] [] ai (aq.mk 0 ⟨0,0,[]⟩ [] []) [] [] 0),0,a)) (J (x,0,0))))
theorem awd:aU 26 [.str] [cG,an,an] (OI):=b6 (px:=afY _) (n:=0) Tryz.func26 rfl (λah H=>by have a:bP ah (aa5 (aw [cG,an,an])):=br H (c1 H azm bq) bo bp;have b:bP ah (afY (aw [cG,an,an])):=br H (aQ H aoO (aQ H ap2 (c1 H Hk (et (eS H a Tryz.func66 rfl (n:=0) (aK)) bq)))) bo bp;exact⟨b,aK⟩) λ_=>by kernel_rfl
def rr(s:ak):ae (aP×Int×Int):=OI s
def aiP:bt [.str] [cG,an,an]:=λx=>rr x
theorem anZ:aU 26 [.str] [cG,an,an] aiP:=.er awd λ_ _ _ ag=>ag
def ay7(R:Type):aR R:=bs [] [] [] []
def PC(x:aw [cn,cy]):ae (aw [jX]):=match x with|(l,g)=>cond (aa (g.pos<(I l:Int))) (ax (a_ g.pos (I l)) (J (at' .tok l g.pos))) (J (Tok.mk 0 0 [] 0))
theorem anK:aU 149 [cn,cy] [jX] (PC):=b6 (px:=ay7 _) (n:=0) Tryz.func149 rfl (λ_ H=>⟨br H bq bo bp,aK⟩) λ(_,_)=>by kernel_rfl
def oY(l:U Tok)(g:a'):ae Tok:=PC (l,g)
def zJ:bt [cn,cy] [jX]:=λx=>oY x.1 x.2
theorem CT:aU 149 [cn,cy] [jX] zJ:=.er anK λ_ _ _ ag=>ag
def aAG(R:Type):aR R:=bs [(149,ba zJ)] [] [] []
def H4(x:aw [cn,cy,.str]):ae (aw [.bool]):=match x with|(l,g,s)=>(oY l g).bind λx=>cond (!g.bad) (cond (aa (x.kind=1)) (J (aa (x.s=s))) (cond (aa (x.kind=6)) (J (aa (x.s=s))) (J ai))) (J ai)
theorem aqB:aU 82 [cn,cy,.str] [.bool] (H4):=b6 (px:=aAG _) (n:=0) Tryz.func82 rfl (λ_ H=>⟨br H (c1 H CT bq) bo bp,aK⟩) λ(_,_,_)=>by kernel_rfl
def dg(l:U Tok)(g:a')(s:ak):ae Bool:=H4 (l,g,s)
def nc:bt [cn,cy,.str] [.bool]:=λx=>dg x.1 x.2.1 x.2.2
theorem nP:aU 82 [cn,cy,.str] [.bool] nc:=.er aqB λ_ _ _ ag=>ag
def Z0:bn:=⟨43,[(0,.sl .tok ai),(2,.str),(7,.int .i64),(8,.int .i64)],[(4,.ptr 0 0),(6,.ptr 1 0)],[(0,.one (.bm .gz)),(1,.one (.bm .gz))],2,0,0,[],[]⟩
abbrev On:=U Tok×ak×Int×Int×a'×a'
def Rh{R:Type}(rec:On->ae R)(kx:aX->On->ae R)(v:On):ae R:=match v with
 |(v,v1,v2,v3,w,w1)=>
 cond (aa (v3<=(I v1:Int))) (
  let j:=λ(_:Unit)=>
  ax (dP v2 v3 (I v1)) (
   (dg v w (cut v1 v2 v3)).bind λx=>
   cond (!x) (
    kx .ret (v,v1,v2,v3,w,(a'.mk w.pos ab))) (
    rec (v,v1,(wr .i64 (v3+1)),(wr .i64 (v3+1)),(a'.mk (wr .i64 (w.pos+1)) w.bad),w1)))
  cond (aa (v3<(I v1:Int))) (
  ax (a_ v3 (I v1)) (
   cond (!decide ((b_ v1 v3)=32)) (
   rec (v,v1,v2,(wr .i64 (v3+1)),w,w1)) (
   j ()))) (
  j ())) (
  kx (.exit 0) (v,v1,v2,v3,w,w1))
def Ya(R:Type)(k:Nat):aR R:=bs [(82,ba nc)] [] [(3,b8 k Z0 (Rh))] []
def Zi(k:Nat)(x:aw [cn,cy,.str]):ae (aw [cy]):=match x with
 |(l,g,s)=>aI (λrec=>Rh rec (λe a=>match a with|(_,_,_,_,bK,v9)=>match e with
  |.ret=>J v9
  |.exit 0=>J bK
  |_=>aj)) k (l,s,0,0,g,(a'.mk 0 ai))
theorem atU(k:Nat):aU 143 [cn,cy,.str] [cy] (Zi k):=b6 (px:=Ya _ k) (n:=1) Tryz.func143 rfl (λah H=>by have c:bP ah (Ya (aw [cy]) k):=br H (c1 H nP bq) bo bp;have a:=cd H c (b:=b0 Tryz.f143 0) (k:=k) (n:=0) (s:=Z0) (step:=Rh) (λ_ _ _ (_,_,_,_,_,_)=>by kernel_rfl) aK;exact⟨c,(b9 aK a)⟩) λ(_,_,_)=>by kernel_rfl
def dV(l:U Tok)(g:a')(s:ak):ae a':=Zi (I s+2) (l,g,s)
def pI:bt [cn,cy,.str] [cy]:=λx=>dV x.1 x.2.1 x.2.2
theorem qA:aU 143 [cn,cy,.str] [cy] pI:=.fin 0 atU λ(_,_,s) _ _ ag=>⟨I s+2,ag⟩
def aqR(R:Type):aR R:=bs [(149,ba zJ)] [] [] []
def LI(x:aw [cn,cy]):ae (aw [.str,cy]):=match x with|(l,g)=>(oY l g).bind λx=>cond (g.bad) (J ([],(a'.mk g.pos ab))) (cond (!decide (x.kind=2)) (J ([],(a'.mk g.pos ab))) (J (x.s,(a'.mk (wr .i64 (g.pos+1)) ai))))
theorem auI:aU 142 [cn,cy] [.str,cy] (LI):=b6 (px:=aqR _) (n:=0) Tryz.func142 rfl (λ_ H=>⟨br H (c1 H CT bq) bo bp,aK⟩) λ(_,_)=>by kernel_rfl
def hI(l:U Tok)(g:a'):ae (ak×a'):=LI (l,g)
def vj:bt [cn,cy] [.str,cy]:=λx=>hI x.1 x.2
theorem xB:aU 142 [cn,cy] [.str,cy] vj:=.er auI λ_ _ _ ag=>ag
def ZZ:bn:=⟨35,[(0,.sl .tok ai),(4,.sl .str ai),(6,.sl .str ab)],[(3,.ptr 0 0),(5,.ptr 1 0)],[(0,.one (.bm .gz)),(1,.one (.bm .gz))],2,0,0,[],[]⟩
abbrev xc:=U Tok×U ak×U ak×a'×a'
def va{R:Type}(rec:xc->ae R)(kx:aX->xc->ae R)(v:xc):ae R:=match v with|(v,v1,v2,w,w1)=>(hI v w).bind λ(b,a)=>ax (aa (I v2+1<=bY)) ((dg v a [44]).bind λc=>cond (!c) ((dV v a [41]).bind λd=>kx .ret (v,(v2++[b]),(v2++[b]),a,d)) (rec (v,v1,(v2++[b]),(a'.mk (wr .i64 (a.pos+1)) a.bad),w1)))
def X9(R:Type)(k:Nat):aR R:=bs [(143,ba pI),(142,ba vj),(82,ba nc)] [] [(3,b8 k ZZ (va))] []
def Zh(k:Nat)(x:aw [cn,cy]):ae (aw [dX,cy]):=match x with
 |(l,g)=>(dV l g [40]).bind λx=>aI (λrec=>va rec (λe a=>match a with|(_,v4,_,_,bb)=>match e with
  |.ret=>J (v4,bb)
  |_=>aj)) k (l,[],[],x,(a'.mk 0 ai))
theorem asn(k:Nat):aU 144 [cn,cy] [dX,cy] (Zh k):=b6 (px:=X9 _ k) (n:=1) Tryz.func144 rfl (λah H=>by have c:bP ah (X9 (aw [dX,cy]) k):=br H (c1 H qA (c1 H xB (c1 H nP bq))) bo bp;have a:=cd H c (b:=b0 Tryz.f144 0) (k:=k) (n:=0) (s:=ZZ) (step:=va) (λ_ _ _ (_,_,_,_,_)=>by kernel_rfl) aK;exact⟨c,(b9 aK a)⟩) λ(_,_)=>by kernel_rfl
def vu(l:U Tok)(g:a'):ae (U ak×a'):=Zh (I l+2) (l,g)
def P9:bt [cn,cy] [dX,cy]:=λx=>vu x.1 x.2
theorem WD:aU 144 [cn,cy] [dX,cy] P9:=.fin 0 asn λ(l,_) _ _ ag=>⟨I l+2,ag⟩
def _B:bn:=⟨29,[(2,.int .i64),(3,.int .i64),(4,.sl .int ab),(5,.int .i64)],[(1,.ptr 0 0)],[(0,.one (.bm .tok))],1,0,0,[],[]⟩
abbrev OL:=Int×Int×U Int×Int×Tok
def QC{R:Type}(rec:OL->ae R)(kx:aX->OL->ae R)(v:OL):ae R:=match v with|(v,v1,v2,v3,w)=>cond (aa (v3<=14)) (cond (aa ((mH v3)=w.s)) (ax (a_ v3 (I v2)) (kx .ret ((at' .int v2 v3),v3,v2,v3,w))) (rec (v,v1,v2,(wr .i64 (v3+1)),w))) (kx (.exit 0) (v,v1,v2,v3,w))
def Xm(R:Type)(k:Nat):aR R:=bs [] [(119,jK CX)] [(5,b8 k _B (QC))] []
def Et(k:Nat)(x:aw [jX]):ae (aw [an,an]):=match x with
 |t=>
 let j:=λ(_:Unit)=>
  aI (λrec=>QC rec (λe a=>match a with|(v4,v5,_,_,_)=>match e with
  |.ret=>J (v4,v5)
  |.exit 0=>J (0,0)
  |_=>aj)) k (0,0,[0,0,0,0,2,1,4,4,4,4,4,4,5,5,6],4,t)
 cond (!decide (t.kind=1)) (
  cond (!decide (t.kind=6)) (
  J (0,0)) (
  j ())) (
  j ())
theorem atK(k:Nat):aU 238 [jX] [an,an] (Et k):=b6 (px:=Xm _ k) (n:=1) Tryz.func238 rfl (λah H=>by have c:bP ah (Xm (aw [an,an]) k):=br H bq (bc H Qq bo) bp;have a:=cd H c (b:=b0 Tryz.f238 0) (k:=k) (n:=0) (s:=_B) (step:=QC) (λ_ _ _ (_,_,_,_,_)=>by kernel_rfl) aK;exact⟨c,(b9 aK a)⟩) λ_=>by kernel_rfl
def Dy(t:Tok):ae (Int×Int):=Et 20 t
def aeI:bt [jX] [an,an]:=λx=>Dy x
theorem awN:aU 238 [jX] [an,an] aeI:=.fin 0 atK λ_ _ _ ag=>⟨20,ag⟩
def _P:bn:=⟨150,[(0,.sl .tok ai),(2,.int .i64),(9,.int .i64)],[(4,.ptr 0 0),(6,.ptr 1 0),(7,.ptr 2 0),(8,.ptr 3 0)],[(0,.one (.bm .gz)),(1,.one (.bm .expr)),(2,.one (.bm .gz)),(3,.one (.bm .expr))],4,0,0,[],[]⟩
abbrev Fc:=U Tok×Int×Int×a'×aq×a'×aq
def vc{R:Type}(rf:bt [cn,cy,an] [bC,cy])(rec:Fc->ae R)(kx:aX->Fc->ae R)(v:Fc):ae R:=match v with
 |(v,v1,v2,w,w1,b4,cv)=>
 cond (!w.bad) (
  (oY v w).bind λc=>
  (Dy c).bind λ(a,b)=>
   let o:=λ(d:Bool)=>
   cond (d) (
    (dg v (a'.mk (wr .i64 (w.pos+1)) w.bad) [78,79,84]).bind λe=>
    cond (e) (
     (dV v (a'.mk (wr .i64 ((wr .i64 (w.pos+1))+1)) w.bad) [78,85,76,76]).bind λf=>
     rec (v,v1,4,f,w1,b4,(aq.mk 3 ⟨0,0,[]⟩ [] [(aq.mk 16 ⟨0,0,[]⟩ [] [cv])]))) (
     (dV v (a'.mk (wr .i64 (w.pos+1)) w.bad) [78,85,76,76]).bind λg=>
     rec (v,v1,4,g,w1,b4,(aq.mk 16 ⟨0,0,[]⟩ [] [cv])))) (
    let p:=λ(h:Bool)=>
    let q:=λ(i:Bool)=>
     cond (i) (
     kx (.exit 1) (v,v1,v2,w,w1,b4,cv)) (
     cond (aa (a=4)) (
      cond (aa (v2=4)) (
      kx (.exit 1) (v,v1,v2,w,w1,b4,cv)) (
      (rf (v,(a'.mk (wr .i64 (w.pos+1)) ai),(wr .i64 (a+1)))).bind λ(j,k)=>rec (v,v1,a,k,w1,b4,(aq.mk b ⟨0,0,[]⟩ [] [cv,j])))) (
      (rf (v,(a'.mk (wr .i64 (w.pos+1)) ai),(wr .i64 (a+1)))).bind λ(l,m)=>
      rec (v,v1,a,m,w1,b4,(aq.mk b ⟨0,0,[]⟩ [] [cv,l]))))
    cond (h) (
     q ab) (
     q (aa (v2<a)))
    cond (aa (a=0)) (
    p ab) (
    p (aa (a<v1))))
   (dg v w [73,83]).bind λn=>
   cond (n) (
    cond (aa (v1<=4)) (
    o (aa (4<v2))) (
    o ai)) (
    o ai)) (
  kx (.exit 1) (v,v1,v2,w,w1,b4,cv))
def aaZ(R:Type)(mh:Nat)(akM:bt [cn,cy,an] [bC,cy]):aR R:=bs [] [] [] []
def aaV(R:Type)(mh:Nat)(rf:bt [cn,cy,an] [bC,cy]):aR R:=bs [(149,ba zJ),(143,ba pI),(204,ba rf)] [(143,jK pI)] [] []
def abG(R:Type)(mh:Nat)(akM:bt [cn,cy,an] [bC,cy]):aR R:=bs [] [] [] []
noncomputable def aeE(R:Type)(k:Nat)(rf:bt [cn,cy,an] [bC,cy]):aR R:=bs [(82,ba nc),(204,ba rf),(149,ba zJ),(238,ba aeI),(143,ba pI),(236,PS 40 200 (aaZ R k rf) Tryz.f236 (ey 80 400 (abG R k rf) Tryz.f236)),(237,ey 40 200 (aaV R k rf) Tryz.f237)] [] [(17,b8 k _P (vc rf))] []
def xf(k:Nat)(rf:bt [cn,cy,an] [bC,cy])(x:aw [cn,cy,an]):ae (aw [bC,cy]):=match x with
 |(l,g,m)=>
 let d:=λ(a:Int) (p:a') (q:aq)=>
  aI (λrec=>vc rf rec (λe r=>match r with|(_,_,_,v6,_,_,v9)=>match e with
  |.exit 1=>J (v9,v6)
  |_=>aj)) k (l,m,a,p,(aq.mk 0 ⟨0,0,[]⟩ [] []),(a'.mk 0 ai),q)
 cond (g.bad) (
  J ((aq.mk 0 ⟨0,0,[]⟩ [] []),g)) (
  let f:=λ(p1:Bool)=>
  cond (p1) (
   (rf (l,(a'.mk (wr .i64 (g.pos+1)) ai),3)).bind λ(t,u)=>
   d 3 u (aq.mk 3 ⟨0,0,[]⟩ [] [t])) (
   (dg l g [45]).bind λv=>
   cond (v) (
    (rf (l,(a'.mk (wr .i64 (g.pos+1)) ai),7)).bind λ(w,y)=>
    d 7 y (aq.mk 15 ⟨0,0,[]⟩ [] [w])) (
    (oY l g).bind λc=>
    cond (aa (c.kind=2)) (
     d 7 (a'.mk (wr .i64 (g.pos+1)) ai) (aq.mk 2 ⟨0,0,[]⟩ c.s [])) (
     cond (aa (c.kind=3)) (
     d 7 (a'.mk (wr .i64 (g.pos+1)) ai) (aq.mk 1 ⟨3,c.n,[]⟩ [] [])) (
     let h:=λ(p3:Bool)=>
      cond (p3) (
      d 7 (a'.mk (wr .i64 (g.pos+1)) ai) (aq.mk 1 ⟨c.kind,0,c.s⟩ [] [])) (
      let i:=λ(z:Bool)=>
       cond (z) (
       d 7 (a'.mk (wr .i64 (g.pos+1)) ai) (aq.mk 1 ⟨1,0,[]⟩ [] [])) (
       let o:=λ(UZ:Bool)=>
        cond (UZ) (
        d 7 (a'.mk (wr .i64 (g.pos+1)) ai) (aq.mk 1 ⟨2,0,[]⟩ [] [])) (
        let j:=λ(F':Bool)=>
         cond (F') (
         d 7 (a'.mk (wr .i64 (g.pos+1)) ai) (aq.mk 1 ⟨2,1,[]⟩ [] [])) (
         (dV l g [40]).bind λkZ=>
          (rf (l,kZ,1)).bind λ(kl,jM)=>
          (dV l jM [41]).bind λb=>d 7 b kl)
        cond (aa (c.kind=1)) (
         j (aa (c.s=[84,82,85,69]))) (
         j ai))
       cond (aa (c.kind=1)) (
        o (aa (c.s=[70,65,76,83,69]))) (
        o ai))
      cond (aa (c.kind=1)) (
       i (aa (c.s=[78,85,76,76]))) (
       i ai))
     cond (aa (c.kind=4)) (
      h ab) (
      h (aa (c.kind=5)))))))
  (dg l g [78,79,84]).bind λx=>
  cond (x) (
   f (aa (m<=3))) (
   f ai))
theorem avy(k:Nat)(rf:bt [cn,cy,an] [bC,cy])(c:aU 204 [cn,cy,an] [bC,cy] rf):aU 204 [cn,cy,an] [bC,cy] (xf k rf):=b6 (px:=aeE _ k rf) (n:=1) Tryz.func204 rfl (λah H=>by have e:bP ah (aaZ (aw [bC,cy]) k rf):=br H bq bo bp;have f:bP ah (aaV (aw [bC,cy]) k rf):=br H (c1 H CT (c1 H qA (c1 H c bq))) (bc H qA bo) bp;have g:bP ah (abG (aw [bC,cy]) k rf):=br H bq bo bp;have d:bP ah (aeE (aw [bC,cy]) k rf):=br H (c1 H nP (c1 H c (c1 H CT (c1 H awN (c1 H qA (et (aqy (eS H e Tryz.func236 rfl (n:=0) (aK)) (eS H g Tryz.func236 rfl (n:=0) (aK))) (et (eS H f Tryz.func237 rfl (n:=0) (aK)) bq))))))) bo bp;have a:=cd H d (b:=b0 Tryz.f204 0) (k:=k) (n:=0) (s:=_P) (step:=vc rf) (λ_ _ _ (_,_,_,_,_,_,_)=>by kernel_rfl) aK;exact⟨d,(b9 aK a)⟩) λ(_,_,_)=>by kernel_rfl
def C'(rf:bt [cn,cy,an] [bC,cy]):bt [cn,cy,an] [bC,cy]:=λx=>xf (I x.1+3) rf x
theorem awo(rf:bt [cn,cy,an] [bC,cy])(a:fH Tryz.prog i_ ph 204 [cn,cy,an] [bC,cy] rf):fH Tryz.prog i_ ph 204 [cn,cy,an] [bC,cy] (C' rf):=.fin (ι:=Nat) 0 (F:=λk=>xf k rf) (λk=>avy k rf a) λx _ _ ag=>⟨I x.1+3,ag⟩
def m'(l:U Tok)(g:a')(m:Int):ae (aq×a'):=aI (V:=aw [cn,cy,an]) (R:=aw [bC,cy]) C' (I l+3) (l,g,m)
def xS:bt [cn,cy,an] [bC,cy]:=λx=>m' x.1 x.2.1 x.2.2
theorem BL:aU 204 [cn,cy,an] [bC,cy] xS:=.fin (ι:=Nat) 0 (F:=λn=>aI (V:=aw [cn,cy,an]) (R:=aw [bC,cy]) C' n) (λn=>fH.lq (av.enters_of Tryz.func204 rfl rfl) (λrf a=>awo rf a) n) λ(l,_,_) _ _ ag=>⟨I l+3,ag⟩
def _N:bn:=⟨30,[(0,.sl .tok ai),(4,.sl .expr ai),(6,.sl .expr ab)],[(3,.ptr 0 0),(5,.ptr 1 0)],[(0,.one (.bm .gz)),(1,.one (.bm .gz))],2,0,0,[],[]⟩
abbrev xg:=U Tok×U aq×U aq×a'×a'
def xw{R:Type}(rec:xg->ae R)(kx:aX->xg->ae R)(v:xg):ae R:=match v with|(v,v1,v2,w,w1)=>(m' v w 1).bind λ(x,a)=>ax (aa (I v2+1<=bY)) ((dg v a [44]).bind λb=>cond (!b) (kx .ret (v,(v2++[x]),(v2++[x]),a,a)) (rec (v,v1,(v2++[x]),(a'.mk (wr .i64 (a.pos+1)) a.bad),w1)))
def XD(R:Type)(k:Nat):aR R:=bs [(204,ba xS),(82,ba nc)] [] [(2,b8 k _N (xw))] []
def Z'(k:Nat)(x:aw [cn,cy]):ae (aw [fU,cy]):=match x with
 |(l,g)=>aI (λrec=>xw rec (λe a=>match a with|(_,v4,_,_,bb)=>match e with
  |.ret=>J (v4,bb)
  |_=>aj)) k (l,[],[],g,(a'.mk 0 ai))
theorem as6(k:Nat):aU 205 [cn,cy] [fU,cy] (Z' k):=b6 (px:=XD _ k) (n:=1) Tryz.func205 rfl (λah H=>by have c:bP ah (XD (aw [fU,cy]) k):=br H (c1 H BL (c1 H nP bq)) bo bp;have a:=cd H c (b:=b0 Tryz.f205 0) (k:=k) (n:=0) (s:=_N) (step:=xw) (λ_ _ _ (_,_,_,_,_)=>by kernel_rfl) aK;exact⟨c,(b9 aK a)⟩) λ(_,_)=>by kernel_rfl
def vn(l:U Tok)(g:a'):ae (U aq×a'):=Z' (I l+2) (l,g)
def Ql:bt [cn,cy] [fU,cy]:=λx=>vn x.1 x.2
theorem VQ:aU 205 [cn,cy] [fU,cy] Ql:=.fin 0 as6 λ(l,_) _ _ ag=>⟨I l+2,ag⟩
def V1:bn:=⟨74,[(0,.sl .tok ai),(8,.sl .str ab),(9,.int .i64)],[(3,.ptr 0 0),(4,.ptr 1 0),(5,.ptr 2 0),(7,.ptr 3 0)],[(0,.one (.bm .gz)),(1,.one (.bm .b2)),(2,.one (.bm .gz)),(3,.one (.bm .b2))],4,0,0,[],[]⟩
abbrev BA:=U Tok×U ak×Int×a'×bk×a'×bk
def qQ{R:Type}(rec:BA->ae R)(kx:aX->BA->ae R)(v:BA):ae R:=match v with|(v,v1,v2,w,w1,b4,cv)=>cond (aa (v2<=5)) (ax (a_ v2 (I v1)) ((dg v w (at' .str v1 v2)).bind λa=>cond (a) (rec (v,v1,(wr .i64 (v2+1)),w,w1,b4,(bk.mk cv.name v2 cv.h2 cv.unique cv.ref))) (rec (v,v1,(wr .i64 (v2+1)),w,w1,b4,cv)))) (kx (.exit 0) (v,v1,v2,w,w1,b4,cv))
def agS(R:Type)(k:Nat):aR R:=bs [(142,ba vj),(82,ba nc),(143,ba pI)] [] [(5,b8 k V1 (qQ))] []
def PX(k:Nat)(x:aw [cn,cy]):ae (aw [.bm .b2,cy]):=match x with
 |(l,g)=>
 (hI l g).bind λ(x,f)=>
  aI (λrec=>qQ rec (λe h=>match h with|(v3,_,_,v6,_,_,v9)=>match e with
  |.exit 0=>
   cond (aa (v9.kind=0)) (
   J (v9,(a'.mk v6.pos ab))) (
   let d:=λ(bc:a') (a:bk)=>
    let j:=λ(c:a') (b:bk)=>
    (dg v3 c [82,69,70,69,82,69,78,67,69,83]).bind λi=>
     cond (i) (
     (hI v3 (a'.mk (wr .i64 (c.pos+1)) c.bad)).bind λ(m,n)=>J ((bk.mk b.name b.kind b.h2 b.unique m),n)) (
     J (b,c))
    (dg v3 bc [85,78,73,81,85,69]).bind λo=>
    cond (o) (
     j (a'.mk (wr .i64 (bc.pos+1)) bc.bad) (bk.mk a.name a.kind a.h2 ab a.ref)) (
     j bc a)
   (dg v3 (a'.mk (wr .i64 (v6.pos+1)) v6.bad) [78,79,84]).bind λp=>
    cond (p) (
    (dV v3 (a'.mk (wr .i64 (v6.pos+1)) v6.bad) [78,79,84,32,78,85,76,76]).bind λq=>d q (bk.mk v9.name v9.kind ab v9.unique v9.ref)) (
    d (a'.mk (wr .i64 (v6.pos+1)) v6.bad) v9))
  |_=>aj)) k (l,[[],[],[66,79,79,76],[73,78,84],[84,69,88,84],[66,89,84,69,83]],2,f,(bk.mk [] 0 ai ai []),(a'.mk 0 ai),(bk.mk x 0 ai ai []))
theorem aoX(k:Nat):aU 203 [cn,cy] [.bm .b2,cy] (PX k):=b6 (px:=agS _ k) (n:=1) Tryz.func203 rfl (λah H=>by have c:bP ah (agS (aw [.bm .b2,cy]) k):=br H (c1 H xB (c1 H nP (c1 H qA bq))) bo bp;have a:=cd H c (b:=b0 Tryz.f203 0) (k:=k) (n:=0) (s:=V1) (step:=qQ) (λ_ _ _ (_,_,_,_,_,_,_)=>by kernel_rfl) aK;exact⟨c,(b9 aK a)⟩) λ(_,_)=>by kernel_rfl
def wZ(l:U Tok)(g:a'):ae (bk×a'):=PX 10 (l,g)
def ac7:bt [cn,cy] [.bm .b2,cy]:=λx=>wZ x.1 x.2
theorem ayZ:aU 203 [cn,cy] [.bm .b2,cy] ac7:=.fin 0 aoX λ_ _ _ ag=>⟨10,ag⟩
def yc:aA->Tok|[]=>⟨0,0,[],0⟩|t::_=>t
theorem xM(L:aA)(i:Nat)(b:Bool):oY L ⟨(i:Int),b⟩=J (yc (L.drop i)):=by
 simp[oY,PC];by_cases h:i<I L
 .rw[aH af,bd,cg h,da h];simp only[ cR (c:=.tok) h];rfl
 .rw[aL af,bj,gn af];rfl
theorem aBT(t:Tok)(s:ak):(cond (aa (t.kind=1)) (J (aa (t.s=s))) (cond (aa (t.kind=6)) (J (aa (t.s=s))) (J ai)))=J ((aa (t.kind=1)||decide (t.kind=6))&&aa (t.s=s)):=im
theorem jS(L:aA)(i:Nat)(s:ak):dg L ⟨(i:Int),ai⟩ s=J (aV s (L.drop i)):=by simp[dg,H4,xM,bd];cases L.drop i with|nil=>rfl|cons t r=>exact aBT t s
theorem la(L:aA)(i:Nat)(s:ak):dg L ⟨(i:Int),ab⟩ s=J false:=by simp[dg,H4,xM,bj]
variable{i:Nat}
theorem kM(h:i<=2000000000):wr .i64 ((i:Int)+1)=((i+1:Nat):Int):=od
variable{s:ak}
theorem js{L:aA}(h:aV s (L.drop i)=ab):i+1<=I L/\(L.drop i).tail=L.drop (i+1):=by
 by_cases a:i<I L
 .rw[da a];exact⟨a,rfl⟩
 .rw[gn af]at h;cases h
def kR(L:aA):U ak->a'->ae a'|[],g=>J g|w::ws,g=>(dg L g w).bind λx=>cond (!x) (J ⟨g.pos,ab⟩) (kR L ws ⟨wr .i64 (g.pos+1),g.bad⟩)
theorem aqV(L:aA)(i:Nat):∀ws,kR L ws ⟨(i:Int),ab⟩=J ⟨(i:Int),ab⟩
 |[]=>rfl
 |w::ws=>by simp[kR,la,bd]
theorem af5{L:aA}(a:I L<=1000000000):∀(ws:U ak) (i:Nat),i<=I L->match cY ws (L.drop i)with|.ok (_,m)=>∃j,i<=j/\j<=I L/\m=L.drop j/\kR L ws ⟨(i:Int),ai⟩=J ⟨(j:Int),ai⟩|.error q=>∃j,j<=I L/\q=L.drop j/\kR L ws ⟨(i:Int),ai⟩=J ⟨(j:Int),ab⟩
 |[],i,bO=>⟨i,bU _,bO,rfl,rfl⟩
 |w::ws,i,bO=>by
  simp[cY,kR,jS];cases h:aV w (L.drop i)with
  |false=>grind
  |true=>
   obtain⟨b,c⟩:=js h;have d:=af5 a ws (i+1) b;simp[ kM (show i<=2000000000 by omega)]
   grind
theorem Gy(L:aA)(g:a'):dV L g [40]=kR L [[40]] g:=bW
theorem tA(L:aA)(g:a'):dV L g [41]=kR L [[41]] g:=bW
theorem acX(L:aA)(g:a'):dV L g [44]=kR L [[44]] g:=bW
theorem acq(L:aA)(g:a'):dV L g [61]=kR L [[61]] g:=bW
theorem ape(L:aA)(g:a'):dV L g [78,85,76,76]=kR L [hJ] g:=bW
structure iu {α:Type}(L:aA) (n:Nat) (F:a'->Option (α×a')) (p:aA->bR α):Prop where
 ok:∀(i:Nat) e m,i<=I L->I L-i<n->p (L.drop i) = .ok (e,m)->∃j:Nat,j<=I L/\m=L.drop j/\F ⟨(i:Int),ai⟩=J (e,⟨(j:Int),ai⟩)
 fR:∀(i:Nat) q,i<=I L->I L-i<n->p (L.drop i) = .error q->∃(j:Nat) (e : α),j<=I L/\q=L.drop j/\F ⟨(i:Int),ai⟩=J (e,⟨(j:Int),ab⟩)
 bad:∀i:Nat,∃e,F ⟨(i:Int),ab⟩=J (e,⟨(i:Int),ab⟩)
def cQ{eB:Type}(L:aA)(x:ae (eB×a'))(y:bR eB):Prop:=match y with|.ok (r,m)=>∃j:Nat,j<=I L/\m=L.drop j/\x=J (r,⟨(j:Int),ai⟩)|.error q=>∃(j:Nat) (e : eB),j<=I L/\q=L.drop j/\x=J (e,⟨(j:Int),ab⟩)
def cc{eB:Type}(x:ae (eB×a'))(i:Nat):Prop:=∃e,x=J (e,⟨(i:Int),ab⟩)
section
variable {α β eB:Type}{L:aA}{n:Nat}
variable{m:Nat}
theorem iu.mono{F:a'->ae (α×a')}{p:aA->bR α}(h:iu L n F p)(hm:m<=n):iu L m F p:=⟨λi e q a b=>h.ok i e q a af,λi q a b=>h.fR i q a af,h.bad⟩
theorem iu.out{F:a'->ae (α×a')}{p:aA->bR α}(h:iu L n F p)(a:i<=I L)(b:I L-i<n):cQ L (F ⟨(i:Int),ai⟩) (p (L.drop i)):=by cases c:p (L.drop i)with|error q=>exact h.fR i q a b c|ok x=>obtain⟨r,m⟩:=x;exact h.ok i r m a b c
theorem iu.of{F:a'->ae (α×a')}{p:aA->bR α}(h:∀i:Nat,i<=I L->I L-i<n->cQ L (F ⟨(i:Int),ai⟩) (p (L.drop i)))(al:∀i:Nat,cc (F ⟨(i:Int),ab⟩) i):iu L n F p where
 ok i e m bO ck aW:=akh
 fR i q bO ck aW:=akh
 bad:=al
theorem cQ.bind{F:a'->ae (α×a')}{p:aA->bR α}(h:iu L n F p){G : α×a'->ae (eB×a')}{f : α->aA->bR eB}(a:i<=I L)(b:I L-i<n)(s:∀r (j:Nat),j<=I L->p (L.drop i) = .ok (r,L.drop j)->cQ L (G (r,⟨(j:Int),ai⟩)) (f r (L.drop j)))(k:∀r (j:Nat),cc (G (r,⟨(j:Int),ab⟩)) j):cQ L ((F ⟨(i:Int),ai⟩).bind G) (aN p f (L.drop i)):=by
 unfold aN;cases c:p (L.drop i)with
 |error q=>obtain⟨j,e,bI,d,g⟩:=h.fR i q a b c;rw[g,bA];obtain⟨l,o⟩:=k e j;exact⟨j,l,bI,d,o⟩
 |ok x=>
  obtain⟨r,m⟩:=x;obtain⟨j,bI,d,g⟩:=h.ok i r m a b c
  grind
theorem cc.bind{F:a'->ae (α×a')}{p:aA->bR α}(h:iu L n F p){G : α×a'->ae (eB×a')}(a:∀r,cc (G (r,⟨(i:Int),ab⟩)) i):cc ((F ⟨(i:Int),ab⟩).bind G) i:=by obtain⟨e,b⟩:=h.bad i;rw[b];exact a e
variable{ws:U ak}
theorem cQ.dd(a:I L<=1000000000){G:a'->ae (eB×a')}{f:Unit->aA->bR eB}(b:i<=I L)(m:∀j:Nat,i<=j->j<=I L->cY ws (L.drop i) = .ok ((),L.drop j)->cQ L (G ⟨(j:Int),ai⟩) (f () (L.drop j)))(c:∀j:Nat,cc (G ⟨(j:Int),ab⟩) j):cQ L ((kR L ws ⟨(i:Int),ai⟩).bind G) (aN (cY ws) f (L.drop i)):=by have h:=af5 a ws i b;unfold aN;cases d:cY ws (L.drop i)with|error q=>rw[d]at h;obtain⟨j,bI,e,g⟩:=h;rw[g,bA];obtain⟨k,l⟩:=c j;exact⟨j,k,bI,e,l⟩|ok x=>grind
theorem cc.dd{G:a'->ae (eB×a')}(a:cc (G ⟨(i:Int),ab⟩) i):cc ((kR L ws ⟨(i:Int),ab⟩).bind G) i:=by rw[aqV];exact a
variable{j:Nat}
theorem cQ.ok{r : eB}(a:j<=I L):cQ L (J (r,⟨(j:Int),ai⟩)) (.ok (r,L.drop j)):=⟨j,a,rfl,rfl⟩
theorem cQ.fR{r : eB}(a:j<=I L):cQ L (J (r,⟨(j:Int),ab⟩)) (.error (L.drop j)):=⟨j,r,a,rfl,rfl⟩
theorem cc.fp{r : eB}:cc (J (r,⟨(j:Int),ab⟩)) j:=⟨r,rfl⟩
end
theorem mu{L:aA}(b:I L<=1000000000)(n:Nat):iu L n (hI L) fl:=.of (λi a _=>by
 simp only[hI,LI,xM,bj];by_cases h:i<I L
 .rw[da h];have e:∀t:Tok,cQ L (cond (!decide (t.kind=2)) (J ([],a'.mk i ab)) (J (t.s,a'.mk (wr .i64 ((i:Int)+1)) ai))) (match aa (t.kind=2)with
    |true=>.ok (t.s,L.drop (i+1))
    |false=>.error (L.drop i)):=λt=>by
   cases aa (t.kind=2)with|true=>rw[kM (show i<=2000000000 by omega)];exact⟨i+1,h,rfl,rfl⟩|false=>exact⟨i,[],a,rfl,rfl⟩
  have e:=e L[i];rw[da h]at e;exact e
 .rw[gn af];exact⟨i,[],a,(gn af).symm,rfl⟩) (λi=>by
 simp[hI,LI,xM,bd];exact⟨_,rfl⟩)
def LU(s:ak):U (ak×Nat×Int)->ae (Int×Int)|[]=>J (0,0)|p::l=>cond (aa (p.1=s)) (J ((p.2.1:Int),p.2.2)) (LU s l)
theorem acs(s:ak):∀l,LU s l=J (match l.find? (λp=>aa (s=p.1))with
  |some p=>((p.2.1:Int),p.2.2)
  |none=>(0,0))
 |[]=>rfl
 |p::l=>by
  simp only[LU,List.find?_cons];by_cases h:s=p.1
  .rw[aH h,aH h.symm];rfl
  .rw[aL h,aL (λe=>h e.symm),bj,acs s l]
theorem awg(l:aA):Dy (yc l)=J (((fo l).1:Int),(fo l).2):=by
 cases l with
 |nil=>rfl
 |cons t r=>
  have key:(aa (t.kind=1)||decide (t.kind=6))=ab->Et 20 t=LU t.s su:=λa=>by simp[Et];cases b:aa (t.kind=1)with|true=>rfl|false=>rw[b,Bool.false_or]at a;rw[a];rfl
  simp[yc,fo];cases a:aa (t.kind=1)||decide (t.kind=6)with
  |false=>have c:=(Bool.or_eq_false_iff.1 a).2;simp[Dy,Et,((Bool.or_eq_false_iff.1 a).1),c,bd]
  |true=>simp[Dy,key a,acs,ee];cases su.find? (λp=>aa (t.s=p.1))with|none=>rfl|some p=>rfl
def oZ(x:Except aA mI):bR aq:=match x with|.error q=>.error q|.ok s=>.ok (s.1,s.2.2)
theorem azl(rec:Nat->aA->bR aq)(k:Nat)(l:aA):L2 rec k l=oZ (oH rec k l):=by unfold L2 oZ;cases oH rec k l<;>rfl
section
variable {R:Type}(k':aq->R) (A:R) (t:Tok)
def ajf(p:Bool):R:=cond p (k' (.mk 1 ⟨2,1,[]⟩ [] [])) A
def RE(p:Bool):R:=cond p (k' (.mk 1 ⟨2,0,[]⟩ [] [])) (cond (aa (t.kind=1)) (ajf k' A (aa (t.s=[84,82,85,69]))) (ajf k' A ai))
def Rn(p:Bool):R:=cond p (k' (.mk 1 ⟨1,0,[]⟩ [] [])) (cond (aa (t.kind=1)) (RE k' A t (aa (t.s=[70,65,76,83,69]))) (RE k' A t ai))
def D7(p:Bool):R:=cond p (k' (.mk 1 ⟨t.kind,0,t.s⟩ [] [])) (cond (aa (t.kind=1)) (Rn k' A t (aa (t.s=[78,85,76,76]))) (Rn k' A t ai))
def S4:R:=cond (aa (t.kind=2)) (k' (.mk 2 ⟨0,0,[]⟩ t.s [])) (cond (aa (t.kind=3)) (k' (.mk 1 ⟨3,t.n,[]⟩ [] [])) (cond (aa (t.kind=4)) (D7 k' A t ab) (D7 k' A t (aa (t.kind=5)))))
theorem ayl:S4 k' A t=match pD t with
  |some v=>k' v
  |none=>A:=by
 simp[S4,pD];by_cases h:t.kind=2
 .grind
 rw[aL h,if_neg h];by_cases f:t.kind=3
 .rw[aH f,if_pos f];rfl
 rw[aL f,if_neg f];by_cases c:t.kind=4
 .rw[aH c,if_pos c];simp[ D7,c];rfl
 rw[aL c,if_neg c];by_cases d:t.kind=5
 .rw[aH d,if_pos d];simp[ D7,d];rfl
 rw[aL d,if_neg d];simp[ D7,Rn,RE];by_cases a:t.kind=1
 .rw[aH a];simp;by_cases b:t.s=ud
  .rw[if_pos ⟨a,b⟩,aL (show ¬t.s=[78,85,76,76] by rw[b];decide),aL (show ¬t.s=[70,65,76,83,69] by rw[b];decide),aH (show t.s=[84,82,85,69] from b)];rfl
  rw[if_neg (λq=>b q.2)];by_cases e:t.s=vp
  .rw[if_pos ⟨a,e⟩,aL (show ¬t.s=[78,85,76,76] by rw[e];decide),aH (show t.s=[70,65,76,83,69] from e)];rfl
  rw[if_neg (λq=>e q.2)];by_cases g:t.s=hJ
  .rw[if_pos ⟨a,g⟩,aH (show t.s=[78,85,76,76] from g)];rfl
  rw[if_neg (λq=>g q.2),aL (show ¬t.s=[78,85,76,76] from g),aL (show ¬t.s=[70,65,76,83,69] from e),aL (show ¬t.s=[84,82,85,69] from b)];rfl
 .rw[aL a,if_neg (λq=>a q.1),if_neg (λq=>a q.1),if_neg (λq=>a q.1)];rfl
end
section
variable {L:aA}{n:Nat}{rf:bt [cn,cy,an] [bC,cy]}
variable{k:Int}
theorem Jy{kx:aX->Fc->ae (aq×a')}(a:∀h w w1 b e,kx (.exit 1) (L,k,h,w,w1,b,e)=J (e,w))(c:Nat)(h:Int)(j:Nat)(w1:aq)(b:a')(e:aq):cc (aI (λrec=>vc rf rec kx) (c+1) (L,k,h,⟨(j:Int),ab⟩,w1,b,e)) j:=by simp[c6,vc,a];exact⟨_,rfl⟩
theorem aeh(gR:I L<=1000000000)(p:∀k:Nat,1<=k->k<=7->iu L n (λg=>rf (L,g,(k:Int))) (fP k)){k:Nat}{kx:aX->Fc->ae (aq×a')}(d:∀h w w1 f e,kx (.exit 1) (L,(k:Int),h,w,w1,f,e)=J (e,w)):∀(a c h j:Nat) (w1:aq) (f:a') (e:aq),j<=I L->I L-j<n+1->I L-j<a->I L-j<c->cQ L (aI (λrec=>vc rf rec kx) a (L,(k:Int),(h:Int),⟨(j:Int),ai⟩,w1,f,e)) (oZ (fN fP k c (e,h,L.drop j)))
 |0,_,_,_,_,_,_,_,_,h,_=>absurd h (dY _)
 |_,0,_,_,_,_,_,_,_,_,h=>absurd h (dY _)
 |a+1,c+1,h,j,w1,f,e,dh,ck,aY,aZ=>by
  have u:=aeh gR p d a c;have ij:wr .i64 ((j:Int)+1)=((j+1:Nat):Int):=kM af;have gh:wr .i64 (((j+1:Nat):Int)+1)=((j+2:Nat):Int):=kM af;simp -zeta only [c6,vc,kd,bd,xM,bA,awg,jS,ij,gh];extract_lets vL ale l;by_cases o:aV nu (L.drop j)=ab/\k<=4/\4<h
  .have v:aV [73,83] (L.drop j)=true:=o.1;obtain⟨i1,i2⟩:=js o.1;have i:ha fP k (e,h,L.drop j)=J (match n5 e (L.drop j)with
     |.error q=>.error q
     |.ok (x,aC)=>.ok (x,4,aC)):=if_pos o
   rw[v,aH (show(k:Int)<=4 by omega),aH (show 4<(h:Int) by omega)];simp only[ l,fN,i,n5,i2,ape,kR,jS];cases y:aV hi (L.drop (j+1))with
   |true=>obtain⟨tR,yk⟩:=js y;have m:aV [78,79,84] (L.drop (j+1))=true:=y;rw[m,yk];simp only[bd];cases UI:aV hJ (L.drop (j+2))with|true=>obtain⟨sD,ny⟩:=js UI;have aE1:wr .i64 (((j+2:Nat):Int)+1)=((j+3:Nat):Int):=kM af;simp only[ aE1,ny];exact u 4 (j+3) w1 f (fq 3 [fq 16 [e]]) sD af af af|false=>simp;obtain⟨a,rfl⟩:∃q,a=q+1:=⟨a-1,by omega⟩;obtain⟨z,dK⟩:=Jy (rf:=rf) d a 4 (j+2) w1 f (fq 3 [fq 16 [e]]);exact⟨j+2,z,tR,rfl,dK⟩
   |false=>have m:aV [78,79,84] (L.drop (j+1))=false:=y;rw[m];simp only[bj];cases UI:aV hJ (L.drop (j+1))with|true=>obtain⟨sD,ny⟩:=js UI;simp only[ gh,ny];exact u 4 (j+2) w1 f (fq 16 [e]) sD af af af|false=>simp;obtain⟨a,rfl⟩:∃q,a=q+1:=⟨a-1,by omega⟩;obtain⟨z,dK⟩:=Jy (rf:=rf) d a 4 (j+1) w1 f (fq 16 [e]);exact⟨j+1,z,i1,rfl,dK⟩
  .have s:cond (aV [73,83] (L.drop j)) (cond (aa ((k:Int)<=4)) (l (aa (4<(h:Int)))) (l ai)) (l ai)=l false:=by
    cases ao:aV [73,83] (L.drop j)with
    |false=>rfl
    |true=>
     by_cases c1:k<=4
     .rw[aH (show(k:Int)<=4 by omega),aL (show ¬ 4<(h:Int) fromλq=>o ⟨ao,c1,by omega⟩)];rfl
     .rw[aL (show ¬(k:Int)<=4 by omega)];rfl
   rw[s];simp only[l,ale,vL];clear s l ale vL;by_cases t:(fo (L.drop j)).1=0\/(fo (L.drop j)).1<k\/h<(fo (L.drop j)).1\/((fo (L.drop j)).1=4/\h=4)
   .have i:ha fP k (e,h,L.drop j)=none:=by simp[ha];rw[if_neg o,if_pos t]
    simp only[fN,i,d];generalize (fo (L.drop j)).1=b at t ⊢;have fin:cQ L (J (e,(⟨(j:Int),ai⟩:a'))) (.ok (e,L.drop j)):=.ok dh;by_cases dD:b=0
    .rw[aH (show(b:Int)=0 by omega)];exact fin
    .rw[aL (show ¬(b:Int)=0 by omega)];by_cases c1:b<k
     .rw[aH (show(b:Int)<(k:Int) by omega)];exact fin
     .rw[aL (show ¬(b:Int)<(k:Int) by omega)];by_cases c2:h<b
      .rw[aH (show(h:Int)<(b:Int) by omega)];exact fin
      .rw[aL (show ¬(h:Int)<(b:Int) by omega),aH (show(b:Int)=4 by omega),aH (show(h:Int)=4 by omega)];exact fin
   .have al:=Iy (L.drop j);have a2:j<I L:=by refine Nat.lt_of_not_le λq=>t (.inl ?_);rw[gn q];rfl
    have b':(L.drop j).tail=L.drop (j+1):=by rw[da a2];rfl
    have i:ha fP k (e,h,L.drop j)=J (match fP ((fo (L.drop j)).1+1) (L.drop (j+1))with
      |.error q=>.error q
      |.ok (x,aC)=>.ok (fq (fo (L.drop j)).2 [e,x],(fo (L.drop j)).1,aC)):=by
     simp only[ha];rw[if_neg o,if_neg t,b'];rfl
    have a3:oZ (fN fP k (c+1) (e,h,L.drop j))=aN (fP ((fo (L.drop j)).1+1)) (λx aC=>oZ (fN fP k c (fq (fo (L.drop j)).2 [e,x],(fo (L.drop j)).1,aC))) (L.drop (j+1)):=by simp[fN,i,aN];cases fP ((fo (L.drop j)).1+1) (L.drop (j+1))with|error q=>rfl|ok x=>rfl
    rw[a3];generalize (fo (L.drop j)).1=b at *;generalize (fo (L.drop j)).2=Cv at *;have aE3:wr .i64 ((b:Int)+1)=((b+1:Nat):Int):=kM af;obtain⟨a,rfl⟩:∃q,a=q+1:=⟨a-1,by omega⟩;have key:cQ L ((rf (L,⟨((j+1:Nat):Int),ai⟩,((b+1:Nat):Int))).bind λ(x,gB)=>aI (λrec=>vc rf rec kx) (a+1) (L,(k:Int),(b:Int),gB,w1,f,fq Cv [e,x])) (aN (fP (b+1)) (λx aC=>oZ (fN fP k c (fq Cv [e,x],b,aC))) (L.drop (j+1))):=cQ.bind (p (b+1) af af) af af (λr UL a4 aW=>by have he:=tz (b+1) _ _ _ aW;rw[ff,ff]at he;exact u b UL w1 f (fq Cv [e,r]) a4 af af af) (λr UL=>Jy d a b UL w1 f (fq Cv [e,r]))
    rw[aL (show ¬(b:Int)=0 by omega),aL (show ¬(b:Int)<(k:Int) by omega),aL (show ¬(h:Int)<(b:Int) by omega)];simp[ aE3];by_cases gQ:b=4
    .rw[aH (show(b:Int)=4 by omega),aL (show ¬(h:Int)=4 by omega)];exact key
    .rw[aL (show ¬(b:Int)=4 by omega)];exact key
theorem apk(gR:I L<=1000000000)(b:∀k:Nat,1<=k->k<=7->iu L n (λg=>rf (L,g,(k:Int))) (fP k)){k:Nat}(fJ : 1<=k)(yg:k<=7):iu L (n+1) (λg=>C' rf (L,g,(k:Int))) (fP k):=.of (λi bO ck=>by
 rw[<-aBU fJ yg,azl];have ij:wr .i64 ((i:Int)+1)=((i+1:Nat):Int):=kM af;show cQ L (xf (I L+3) rf (L,⟨(i:Int),ai⟩,(k:Int))) _;simp -zeta only [xf,bj,jS,xM,bA,ij];extract_lets l j jn ih n7 nq;have UH:∀(p q:Nat) (e:aq),q<=I L->I L-q<n+1->cQ L (l (p:Int) ⟨(q:Int),ai⟩ e) (oZ (fN fP k (I (L.drop q)+1) (e,p,L.drop q))):=λp q e o a2=>aeh gR b (λ_ _ _ _ _=>rfl) (I L+3) _ p q _ _ e o a2 af rM;have c:∀(p q:Nat) (e:aq),cc (l (p:Int) ⟨(q:Int),ab⟩ e) q:=λp q e=>Jy (λ_ _ _ _ _=>rfl) (I L+2) p q _ _ e;have un:∀(p m:Nat) (u:Int),1<=m->m<=7->i+1<=I L->cQ L ((rf (L,⟨((i+1:Nat):Int),ai⟩,(m:Int))).bind λ(x,gB)=>l (p:Int) gB (fq u [x])) (oZ (uj (match fP m (L.drop (i+1))with
   |.error q=>.error q
   |.ok (x,aC)=>.ok (fq u [x],p,aC)) λs=>fN fP k (I s.2.2+1) s)):=λp m u jc aD7 a3=>by
  have f:oZ (uj (match fP m (L.drop (i+1))with
   |.error q=>.error q
   |.ok (x,aC)=>.ok (fq u [x],p,aC)) λs=>fN fP k (I s.2.2+1) s)=aN (fP m) (λx aC=>oZ (fN fP k (I aC+1) (fq u [x],p,aC))) (L.drop (i+1)):=by
   simp[aN];cases fP m (L.drop (i+1))with|error q=>rfl|ok x=>rfl
  rw[f];exact cQ.bind (b m jc aD7) a3 af (λr q o d=>by have he:=tz m _ _ _ d;rw[ff,ff]at he;exact UH p q _ o af) (λr q=>c p q _)
 have w:cond (aV [78,79,84] (L.drop i)) (nq (aa ((k:Int)<=3))) (nq ai)=nq (aV hi (L.drop i)&&aa (k<=3)):=by have cw:aV [78,79,84] (L.drop i)=aV hi (L.drop i):=rfl;rw[cw];cases aV hi (L.drop i)with|false=>rfl|true=>rw[bd,jo];congr 1;exact hL.2 af
 rw[w];simp only[oH,me];cases ao:aV hi (L.drop i)&&aa (k<=3)with
 |true=>obtain⟨i1,i2⟩:=js (Bool.and_eq_true_iff.1 ao).1;rw[i2];exact un 3 3 3 af af i1
 |false=>
  simp only[nq,bj];cases hm:aV [45] (L.drop i)with
  |true=>obtain⟨i1,i2⟩:=js hm;rw[i2];exact un 7 7 15 af af i1
  |false=>
   simp[bj,GP];have n1:cQ L ((dV L ⟨(i:Int),ai⟩ [40]).bind λkZ=>(rf (L,kZ,1)).bind λ(kl,jM)=>(dV L jM [41]).bind λa=>l 7 a kl) (oZ (uj (match(aN (cY [[40]]) (λ_=>aN (fP 1) λe=>aN (cY [[41]]) λ_=>cJ e) (L.drop i))with
     |.error q=>.error q
     |.ok (x,aC)=>.ok (x,7,aC)) λs=>fN fP k (I s.2.2+1) s)):=by
    have f:oZ (uj (match(aN (cY [[40]]) (λ_=>aN (fP 1) λe=>aN (cY [[41]]) λ_=>cJ e) (L.drop i))with
     |.error q=>.error q
     |.ok (x,aC)=>.ok (x,7,aC)) λs=>fN fP k (I s.2.2+1) s)=aN (cY [[40]]) (λ_=>aN (fP 1) λe=>aN (cY [[41]]) λ_ aC=>oZ (fN fP k (I aC+1) (e,7,aC))) (L.drop i):=by
     simp[aN,cJ];cases cY [[40]] (L.drop i)with
     |error q=>rfl
     |ok x=>
      simp only;cases fP 1 x.2 with
      |error q=>rfl
      |ok y=>simp only;cases cY [[41]] y.2 with|error q=>rfl|ok z=>rfl
    rw[f,Gy];simp[tA];refine cQ.dd gR bO (λj dh a4 d=>?_) (λj=>?_)
    .have h:i<j:=by
      simp only[cY]at d;cases bS:aV [40] (L.drop i)with
      |false=>rw[bS]at d;cases d
      |true=>rw[bS,(js bS).2]at d;have bz:=(js bS).1;injection d with d;have:=congrArg (λx:Unit×aA=>I x.2) d;simp at this;omega
     refine cQ.bind (b 1 af af) a4 af (λr q o a5=>?_) (λr q=>?_)
     .have he:=tz 1 _ _ _ a5;rw[ff,ff]at he;exact cQ.dd gR o (λep aY aZ _=>UH 7 ep r aZ af) (λep=>c 7 ep r)
     .exact cc.dd (c 7 q r)
    .obtain⟨z,dK⟩:=(b 1 af af).bad j;have dK:rf (L,⟨(j:Int),ab⟩,1)=J (z,⟨(j:Int),ab⟩):=dK;rw[dK];exact cc.dd (c 7 j z)
   show cQ L (S4 (λv=>l 7 ⟨((i+1:Nat):Int),ai⟩ v) ((dV L ⟨(i:Int),ai⟩ [40]).bind λkZ=>(rf (L,kZ,1)).bind λ(kl,jM)=>(dV L jM [41]).bind λa=>l 7 a kl) (yc (L.drop i))) _;rw[ayl];by_cases h:i<I L
   .obtain⟨t,ar⟩:∃t,L.drop i=t::L.drop (i+1):=⟨L[i],da h⟩;have ch:yc (L.drop i)=t:=by rw[ar];rfl
    rw[ch];cases en:pD t with
    |some v=>
     have b':iD gq (L.drop i) = .ok (v,L.drop (i+1)):=by rw[ar,EY,en]
     rw[b'];exact UH 7 (i+1) v h af
    |none=>
     have b':iD gq (L.drop i)=aN (cY [[40]]) (λ_=>aN (fP 1) λe=>aN (cY [[41]]) λ_=>cJ e) (L.drop i):=by
      rw[ar,EY,en];simp[aN,cY,xZ,GP];cases aV [40] (t::L.drop (i+1))with
      |false=>rfl
      |true=>simp;cases gq (L.drop (i+1))with|error q=>rfl|ok y=>simp only;cases aV [41] y.2<;>rfl
     rw[b'];exact n1
   .have ar:L.drop i=[]:=gn af;have ch:pD (yc (L.drop i))=none:=by rw[ar];rfl
    have b':iD gq (L.drop i)=aN (cY [[40]]) (λ_=>aN (fP 1) λe=>aN (cY [[41]]) λ_=>cJ e) (L.drop i):=by rw[ar];rfl
    rw[ch,b'];exact n1) (λi=>by
 show cc (xf (I L+3) rf (L,⟨(i:Int),ab⟩,(k:Int))) i;simp[xf,bd];exact⟨_,rfl⟩)
end
theorem ahf{L:aA}(c:I L<=1000000000):∀(n k:Nat),1<=k->k<=7->iu L n (λg=>aI (V:=aw [cn,cy,an]) (R:=aw [bC,cy]) C' (n+1) (L,g,(k:Int))) (fP k)
 |0,k,_,_=>⟨λ_ _ _ _ h=>absurd h (dY _),λ_ _ _ h=>absurd h (dY _),λi=>by simp only[c6,bd];exact⟨_,rfl⟩⟩
 |n+1,k,a,b=>apk c (λk a b=>ahf c n k a b) a b
theorem awx{L:aA}(a:I L<=1000000000)(k:Nat)(b : 1<=k)(c:k<=7)(n:Nat)(d:n<=I L+2):iu L n (λg=>m' L g (k:Int)) (fP k):=(ahf a (I L+2) k b c).mono d
theorem r1{L:aA}(a:I L<=1000000000):iu L (I L+1) (λg=>m' L g 1) gq:=by have h:=awx a 1 af af (I L+1) af;rw[GP]at h;exact h
def xq{α:Type}(p:aA->bR α):Prop:=∀l e aC,p l = .ok (e,aC)->I aC<=I l
theorem PI{α:Type}{part:aA->bR α}(a:xq part):∀(m a6:Nat) (acc:U α) (l:aA),I l<m->I l<a6->e5 part m acc l=e5 part a6 acc l
 |0,_,_,_,h,_=>absurd h (dY _)
 |_,0,_,_,_,h=>absurd h (dY _)
 |m+1,a6+1,acc,l,h,tN=>by
  simp[e5];cases b:aV [44] l with
  |false=>rfl
  |true=>have d:=ju b;cases c:part l.tail with|error q=>rfl|ok x=>have e:=a _ _ _ c;exact PI a m a6 _ _ af af
variable{m:Nat}{α:Type}
theorem Fq{eB:Type}{part:aA->bR α}(a:xq part){f:U α->aA->bR eB}{l:aA}(hm:I l<m):aN (jQ part) f l=aN part (λx aC=>aN (e5 part m [x]) f aC) l:=by simp[aN,jQ];cases b:part l with|error q=>rfl|ok x=>have c:=a _ _ _ b;simp only;rw[PI a (I x.2+1) m [x.1] x.2 af af]
section
variable {L:aA}{V α eB:Type}{step:(V->ae (eB×a'))->V->ae (eB×a')}{st:U α->a'->V}{F:a'->ae (α×a')}{part:aA->bR α}{c:U α->a'->ae (eB×a')}{f:U α->aA->bR eB}
theorem E7(f:iu L (I L+1) F part)(a:∀rec acc g,I acc<=1000000000->step rec (st acc g)=(F g).bind λz=>(dg L z.2 [44]).bind λb=>cond (!b) (c (acc++[z.1]) z.2) (rec (st (acc++[z.1]) ⟨wr .i64 (z.2.pos+1),z.2.bad⟩)))(d:∀acc (j:Nat),cc (c acc ⟨(j:Int),ab⟩) j)(k:Nat)(acc:U α)(l:I acc<=1000000000)(i:Nat):cc (aI step (k+1) (st acc ⟨(i:Int),ab⟩)) i:=by obtain⟨e,h⟩:=f.bad i;rw[c6,a _ acc _ l,h];simp[ la,bd];exact d _ i
theorem yS(p:I L<=1000000000)(n:iu L (I L+1) F part)(o:xq part)(a:∀rec acc g,I acc<=1000000000->step rec (st acc g)=(F g).bind λz=>(dg L z.2 [44]).bind λb=>cond (!b) (c (acc++[z.1]) z.2) (rec (st (acc++[z.1]) ⟨wr .i64 (z.2.pos+1),z.2.bad⟩)))(ao:∀acc (j:Nat),j<=I L->cQ L (c acc ⟨(j:Int),ai⟩) (f acc (L.drop j)))(d:∀acc (j:Nat),cc (c acc ⟨(j:Int),ab⟩) j):∀(k m:Nat) (acc:U α) (i:Nat),i<=I L->I L-i<k->I L-i<m->I acc+(I L-i)<=1000000000->cQ L (aI step k (st acc ⟨(i:Int),ai⟩)) (aN part (λx aC=>aN (e5 part m (acc++[x])) f aC) (L.drop i))
 |0,_,_,_,_,h,_,_=>absurd h (dY _)
 |_,0,_,_,_,_,h,_=>absurd h (dY _)
 |k+1,m+1,acc,i,bO,aY,aZ,bg=>by
  rw[c6,a _ acc _ af];refine cQ.bind n bO af (λr j q s=>?_) (λr j=>?_)
  .have hle:=o _ _ _ s;rw[ff,ff]at hle;simp[jS];cases e:aV [44] (L.drop j)with
   |false=>
    have l:aN (e5 part (m+1) (acc++[r])) f (L.drop j)=f (acc++[r]) (L.drop j):=by simp[aN,e5,e]
    rw[l];exact ao _ j q
   |true=>
    obtain⟨t,u⟩:=js e;have l:aN (e5 part (m+1) (acc++[r])) f (L.drop j)=aN part (λx aC=>aN (e5 part m ((acc++[r])++[x])) f aC) (L.drop (j+1)):=by
     simp[aN,e5,e]
     grind
    rw[l];simp only[ kM (show j<=2000000000 by omega)];exact yS p n o a ao d k m (acc++[r]) (j+1) t af af hF
  .simp[la,bd];exact d _ j
end
theorem afW:xq fl:=λl e aC h=>by
 cases l with
 |nil=>cases h
 |cons t r=>
  simp[fl]at h
  grind
theorem acM:xq gq:=λl e aC h=>Nat.le_of_lt (qF l e aC h)
section
variable {L:aA}
theorem iu.all{F:a'->ae (α×a')}{p:aA->bR α}(h:iu L (I L+1) F p)(n:Nat):iu L n F p:=⟨λi e m a _=>h.ok i e m a af,λi q a _=>h.fR i q a af,h.bad⟩
def Jn:aX->xc->ae (U ak×a'):=λe a=>match a with|(_,v4,_,_,bb)=>match e with|.ret=>J (v4,bb)|_=>aj
theorem uU(a:I L<=1000000000):iu L (I L+1) (vu L) o5:=by
 have d:∀(rec:xc->ae (U ak×a')) (acc:U ak) (g:a'),I acc<=1000000000->va rec Jn (L,[],acc,g,⟨0,ai⟩)=(hI L g).bind λz=>(dg L z.2 [44]).bind λb=>cond (!b) ((dV L z.2 [41]).bind λx=>J (acc++[z.1],x)) (rec (L,[],acc++[z.1],⟨wr .i64 (z.2.pos+1),z.2.bad⟩,⟨0,ai⟩)):=λrec acc g r=>by have hm:aa (I acc+1<=bY)=true:=aH jf;simp[va,hm,ax];rfl
 have e:∀(acc:U ak) (j:Nat),cc ((dV L ⟨(j:Int),ab⟩ [41]).bind λx=>J (acc,x)) j:=λacc j=>by rw[tA];exact cc.dd cc.fp
 have bad:∀j:Nat,cc (aI (λrec=>va rec Jn) (I L+2) (L,[],[],⟨(j:Int),ab⟩,⟨0,ai⟩)) j:=λj=>E7 (V:=xc) (step:=λrec=>va rec Jn) (st:=λacc g=>(L,[],acc,g,a'.mk 0 ai)) (c:=λacc g=>(dV L g [41]).bind λx=>J (acc,x)) (mu a _) d e (I L+1) [] (by simp) j
 refine .of (λi h _=>?_) (λi=>?_)
 .simp[ o5];refine cQ.dd a h (λj k l _=>?_) (λj=>bad j);rw[Fq afW (m:=I L+1) rM];exact yS (V:=xc) (step:=λrec=>va rec Jn) (st:=λacc g=>(L,[],acc,g,a'.mk 0 ai)) (c:=λacc g=>(dV L g [41]).bind λx=>J (acc,x)) (f:=λacc=>aN (cY [[41]]) λ_=>cJ acc) a (mu a _) afW d (λacc q n=>by rw[tA];exact cQ.dd a n (λo _ p _=>.ok p) (λo=>cc.fp)) e (I L+2) (I L+1) [] j l af af d'
 .show cc ((dV L ⟨(i:Int),ab⟩ [40]).bind _) i;rw[Gy];exact cc.dd (bad i)
def M0:aX->xg->ae (U aq×a'):=λe a=>match a with|(_,v4,_,_,bb)=>match e with|.ret=>J (v4,bb)|_=>aj
theorem Lx(d:I L<=1000000000):iu L (I L+1) (vn L) qT:=by
 have a:∀(rec:xg->ae (U aq×a')) (acc:U aq) (g:a'),I acc<=1000000000->xw rec M0 (L,[],acc,g,⟨0,ai⟩)=(m' L g 1).bind λz=>(dg L z.2 [44]).bind λb=>cond (!b) (J (acc++[z.1],z.2)) (rec (L,[],acc++[z.1],⟨wr .i64 (z.2.pos+1),z.2.bad⟩,⟨0,ai⟩)):=λrec acc g k=>by have hm:aa (I acc+1<=bY)=true:=aH jf;simp[xw,hm,ax];rfl
 refine .of (λi e _=>?_) (λi=>?_)
 .simp[vn];have h:qT (L.drop i)=aN (jQ gq) cJ (L.drop i):=by simp[qT,aN];cases jQ gq (L.drop i)<;>rfl
  rw[h,Fq acM (m:=I L+1) rM];exact yS (V:=xg) (step:=λrec=>xw rec M0) (st:=λacc g=>(L,[],acc,g,a'.mk 0 ai)) (c:=λacc g=>J (acc,g)) (f:=cJ) d (r1 d) acM a (λacc q j=>.ok j) (λacc q=>cc.fp) (I L+2) (I L+1) [] i e af af d'
 .exact E7 (V:=xg) (step:=λrec=>xw rec M0) (st:=λacc g=>(L,[],acc,g,a'.mk 0 ai)) (c:=λacc g=>J (acc,g)) (r1 d) a (λacc q=>cc.fp) (I L+1) [] (by simp) i
end
theorem zV{a b:ak}{l:aA}(h:aV a l=ab)(c:¬b=a):aV b l=false:=by cases l with|nil=>cases h|cons t r=>simp[aV]at h;simp only[aV,Bool.and_eq_false_iff,decide_eq_false_iff_not];exact .inr λe=>c (e.symm.trans h.2)
def yL(L:aA)(q:a')(c:bk):ae (bk×a'):=(dg L q [82,69,70,69,82,69,78,67,69,83]).bind λa=>cond a ((hI L ⟨wr .i64 (q.pos+1),q.bad⟩).bind λ(b,d)=>J (⟨c.name,c.kind,c.h2,c.unique,b⟩,d)) (J (c,q))
def Ab(L:aA)(q:a')(c:bk):ae (bk×a'):=(dg L q [85,78,73,81,85,69]).bind λa=>cond a (yL L ⟨wr .i64 (q.pos+1),q.bad⟩ ⟨c.name,c.kind,c.h2,ab,c.ref⟩) (yL L q c)
def tc(L:aA)(g:a')(c:bk):ae (bk×a'):=cond (aa (c.kind=0)) (J (c,⟨g.pos,ab⟩)) ((dg L ⟨wr .i64 (g.pos+1),g.bad⟩ [78,79,84]).bind λa=>cond a ((dV L ⟨wr .i64 (g.pos+1),g.bad⟩ [78,79,84,32,78,85,76,76]).bind λb=>Ab L b ⟨c.name,c.kind,ab,c.unique,c.ref⟩) (Ab L ⟨wr .i64 (g.pos+1),g.bad⟩ c))
def R7(a b iY c:Bool):Int:=cond c 5 (cond iY 4 (cond b 3 (cond a 2 0)))
theorem MT{L:aA}{g a:a'}{x:ak}{j f iY d:Bool}(h:hI L g=J (x,a))(r:dg L a sY=J j)(s:dg L a sR=J f)(t:dg L a tb=J iY)(u:dg L a tB=J d):wZ L g=tc L a ⟨x,R7 j f iY d,ai,ai,[]⟩:=by
 simp[wZ,PX,h];generalize i:(λ(e:aX) (v:BA)=>(match v with|(v3,_,_,v6,_,_,v9)=>match e with
  |.exit 0=>_
  |_=>aj:ae (bk×a')))=kx
 have l:∀g c w1 b k,kx (.exit 0) (L,[[],[],[66,79,79,76],[73,78,84],[84,69,88,84],[66,89,84,69,83]],k,g,w1,b,c)=tc L g c:=λg c w1 b k=>by rw[<-i];rfl
 clear i;have step:∀(rec:BA->ae (bk×a')) (k:Nat) (c:bk) w1 b,k<=5->qQ rec kx (L,[[],[],[66,79,79,76],[73,78,84],[84,69,88,84],[66,89,84,69,83]],(k:Int),a,w1,b,c)=(dg L a (at' .str [[],[],[66,79,79,76],[73,78,84],[84,69,88,84],[66,89,84,69,83]] (k:Int))).bind λw=>cond w (rec (L,[[],[],[66,79,79,76],[73,78,84],[84,69,88,84],[66,89,84,69,83]],((k+1:Nat):Int),a,w1,b,⟨c.name,k,c.h2,c.unique,c.ref⟩)) (rec (L,[[],[],[66,79,79,76],[73,78,84],[84,69,88,84],[66,89,84,69,83]],((k+1:Nat):Int),a,w1,b,c)):=λrec k c w1 b l=>by have m:aa ((k:Int)<=5)=true:=aH af;have y:a_ (k:Int) (I ([[],[],[66,79,79,76],[73,78,84],[84,69,88,84],[66,89,84,69,83]]:U ak))=true:=cg d';simp only[qQ,m,y,ax,bd,kM (show k<=2000000000 by omega)]
 have last:∀(rec:BA->ae (bk×a')) (c:bk) w1 b,qQ rec kx (L,[[],[],[66,79,79,76],[73,78,84],[84,69,88,84],[66,89,84,69,83]],((6:Nat):Int),a,w1,b,c)=tc L a c:=λrec c w1 b=>by have m:aa (((6:Nat):Int)<=5)=false:=aL af;simp[qQ,l]
 have z:dg L a (at' .str [[],[],[66,79,79,76],[73,78,84],[84,69,88,84],[66,89,84,69,83]] ((2:Nat):Int))=J j:=r;have a3:dg L a (at' .str [[],[],[66,79,79,76],[73,78,84],[84,69,88,84],[66,89,84,69,83]] ((3:Nat):Int))=J f:=s;have a4:dg L a (at' .str [[],[],[66,79,79,76],[73,78,84],[84,69,88,84],[66,89,84,69,83]] ((4:Nat):Int))=J iY:=t;have a5:dg L a (at' .str [[],[],[66,79,79,76],[73,78,84],[84,69,88,84],[66,89,84,69,83]] ((5:Nat):Int))=J d:=u;have o:∀(n:Nat) (c:bk) w1 b,aI (λrec=>qQ rec kx) (n+2) (L,[[],[],[66,79,79,76],[73,78,84],[84,69,88,84],[66,89,84,69,83]],((5:Nat):Int),a,w1,b,c)=tc L a (cond d ⟨c.name,5,c.h2,c.unique,c.ref⟩ c):=λn c w1 b=>by rw[c6,step _ _ _ _ _ af,a5,bA,c6,c6,last,last];cases d<;>rfl
 have p:∀(n:Nat) (c:bk) w1 b,aI (λrec=>qQ rec kx) (n+3) (L,[[],[],[66,79,79,76],[73,78,84],[84,69,88,84],[66,89,84,69,83]],((4:Nat):Int),a,w1,b,c)=tc L a (cond d ⟨c.name,5,c.h2,c.unique,c.ref⟩ (cond iY ⟨c.name,4,c.h2,c.unique,c.ref⟩ c)):=λn c w1 b=>by rw[c6,step _ _ _ _ _ af,a4,bA,o,o];cases iY<;>rfl
 have q:∀(n:Nat) (c:bk) w1 b,aI (λrec=>qQ rec kx) (n+4) (L,[[],[],[66,79,79,76],[73,78,84],[84,69,88,84],[66,89,84,69,83]],((3:Nat):Int),a,w1,b,c)=tc L a (cond d ⟨c.name,5,c.h2,c.unique,c.ref⟩ (cond iY ⟨c.name,4,c.h2,c.unique,c.ref⟩ (cond f ⟨c.name,3,c.h2,c.unique,c.ref⟩ c))):=λn c w1 b=>by rw[c6,step _ _ _ _ _ af,a3,bA,p,p];cases f<;>cases iY<;>rfl
 show aI (λrec=>qQ rec kx) (5+5) (L,_,((2:Nat):Int),a,_,_,_)=_;rw[c6,step _ _ _ _ _ af,z,bA,q,q];cases j<;>cases f<;>cases iY<;>cases d<;>rfl
section
variable {L:aA}
variable{q:Nat}
theorem VM(c:I L<=1000000000)(n:ak)(k:Int)(a u:Bool)(d:q<=I L):cQ L (yL L ⟨(q:Int),ai⟩ ⟨n,k,a,u,[]⟩) (aN iR (λr=>cJ (bk.mk n k a u r)) (L.drop q)):=by
 simp[yL,jS];cases h:aV S1 (L.drop q)with
 |false=>
  have b:aV [82,69,70,69,82,69,78,67,69,83] (L.drop q)=false:=h;have e:aN iR (λr=>cJ (bk.mk n k a u r)) (L.drop q) = .ok (bk.mk n k a u [],L.drop q):=by simp[aN,iR,h];rfl
  rw[b,e];exact .ok d
 |true=>
  have b:aV [82,69,70,69,82,69,78,67,69,83] (L.drop q)=true:=h;obtain⟨bc,g⟩:=js h;have e:aN iR (λr=>cJ (bk.mk n k a u r)) (L.drop q)=aN fl (λr=>cJ (bk.mk n k a u r)) (L.drop (q+1)):=by simp[aN,iR,h]
  rw[b,e,bd,kM af];exact cQ.bind (mu c (I L+1)) bc af (λr j f _=>.ok f) (λr j=>cc.fp)
theorem awH(q:Nat)(c:bk):cc (yL L ⟨(q:Int),ab⟩ c) q:=by simp[yL,la];exact cc.fp
theorem ab3(c:I L<=1000000000)(n:ak)(k:Int)(a:Bool)(d:q<=I L):cQ L (Ab L ⟨(q:Int),ai⟩ ⟨n,k,a,ai,[]⟩) (aN (hc l4 []) (λu=>aN iR λr=>cJ (bk.mk n k a u r)) (L.drop q)):=by
 simp[Ab,jS];cases h:aV l4 (L.drop q)with
 |false=>
  have b:aV [85,78,73,81,85,69] (L.drop q)=false:=h;have e:aN (hc l4 []) (λu=>aN iR λr=>cJ (bk.mk n k a u r)) (L.drop q)=aN iR (λr=>cJ (bk.mk n k a ai r)) (L.drop q):=by simp[aN,hc,h]
  rw[b,e];exact VM c n k a ai d
 |true=>
  have b:aV [85,78,73,81,85,69] (L.drop q)=true:=h;obtain⟨bc,f⟩:=js h;have e:aN (hc l4 []) (λu=>aN iR λr=>cJ (bk.mk n k a u r)) (L.drop q)=aN iR (λr=>cJ (bk.mk n k a ab r)) (L.drop (q+1)):=by simp[aN,hc,h,cY]
  rw[b,e,bd,kM af];exact VM c n k a ab bc
theorem atx(q:Nat)(c:bk):cc (Ab L ⟨(q:Int),ab⟩ c) q:=by simp[Ab,la];exact awH q c
variable{k:Int}
theorem axH(b:I L<=1000000000)(n:ak)(f:¬k=0)(d:q+1<=I L):cQ L (tc L ⟨(q:Int),ai⟩ ⟨n,k,ai,ai,[]⟩) (aN (hc hi [hJ]) (λa=>aN (hc l4 []) λu=>aN iR λr=>cJ (bk.mk n k a u r)) (L.drop (q+1))):=by
 have ij:wr .i64 ((q:Int)+1)=((q+1:Nat):Int):=kM af;simp only[tc,ij,jS,bA];rw[aL f,bj];cases h:aV hi (L.drop (q+1))with
 |false=>
  have c:aV [78,79,84] (L.drop (q+1))=false:=h;have e:aN (hc hi [hJ]) (λa=>aN (hc l4 []) λu=>aN iR λr=>cJ (bk.mk n k a u r)) (L.drop (q+1))=aN (hc l4 []) (λu=>aN iR λr=>cJ (bk.mk n k ai u r)) (L.drop (q+1)):=by simp[aN,hc,h]
  rw[c,e];exact ab3 b n k ai d
 |true=>
  have c:aV [78,79,84] (L.drop (q+1))=true:=h;have e:aN (hc hi [hJ]) (λa=>aN (hc l4 []) λu=>aN iR λr=>cJ (bk.mk n k a u r)) (L.drop (q+1))=aN (cY [hi,hJ]) (λ_=>aN (hc l4 []) λu=>aN iR λr=>cJ (bk.mk n k ab u r)) (L.drop (q+1)):=by simp only[aN,hc,cY,h];cases aV hJ (L.drop (q+1)).tail<;>rfl
  rw[c,e,bd];exact cQ.dd b d (λj _ g _=>ab3 b n k ab g) (λj=>atx j _)
theorem Yi(l:I L<=1000000000):iu L (I L+1) (wZ L) wQ:=by
 have key:∀(i:Nat),i<=I L->cQ L (wZ L ⟨(i:Int),ai⟩) (wQ (L.drop i)):=λi n=>by
  unfold wQ;have g:=(mu l (I L+1)).out n af;unfold aN;cases t:fl (L.drop i)with
  |error q=>rw[t]at g;obtain⟨j,e,bI,o,p⟩:=g;have s:=MT p (la L j _) (la L j _) (la L j _) (la L j _);exact⟨j,_,bI,o,s.trans rfl⟩
  |ok y=>
   obtain⟨x,m⟩:=y;rw[t]at g;obtain⟨j,bI,o,p⟩:=g;subst o;have s:=MT p (jS L j _) (jS L j _) (jS L j _) (jS L j _);rw[s];have one:∀{w:ak}{k:Int},aV w (L.drop j)=ab->¬k=0->mD (L.drop j) = .ok (k,(L.drop j).tail)->R7 (aV sY (L.drop j)) (aV sR (L.drop j)) (aV tb (L.drop j)) (aV tB (L.drop j))=k->cQ L (tc L ⟨(j:Int),ai⟩ ⟨x,R7 (aV sY (L.drop j)) (aV sR (L.drop j)) (aV tb (L.drop j)) (aV tB (L.drop j)),ai,ai,[]⟩) (aN mD (λk=>aN (hc hi [hJ]) λc=>aN (hc l4 []) λu=>aN iR λr=>cJ (bk.mk x k c u r)) (L.drop j)):=λ{w k} v z aW he=>by
    obtain⟨jn,ih⟩:=js v;rw[he];have e:aN mD (λk=>aN (hc hi [hJ]) λc=>aN (hc l4 []) λu=>aN iR λr=>cJ (bk.mk x k c u r)) (L.drop j)=aN (hc hi [hJ]) (λc=>aN (hc l4 []) λu=>aN iR λr=>cJ (bk.mk x k c u r)) (L.drop (j+1)):=by rw[aN,aW,ih]
    rw[e];exact axH l x z jn
   cases a:aV sY (L.drop j)with
   |true=>have:=one a (k:=2) dM (by simp[mD,a]) (by rw[a,zV a (show ¬sR=sY by decide),zV a (show ¬tb=sY by decide),zV a (show ¬tB=sY by decide)];rfl);rw[a]at this;exact this
   |false=>
    cases b:aV sR (L.drop j)with
    |true=>have:=one b (k:=3) dM (by simp[mD,a,b]) (by rw[a,b,zV b (show ¬tb=sR by decide),zV b (show ¬tB=sR by decide)];rfl);rw[a,b]at this;exact this
    |false=>
     cases d:aV tb (L.drop j)with
     |true=>have:=one d (k:=4) dM (by simp[mD,a,b,d]) (by rw[a,b,d,zV d (show ¬tB=tb by decide)];rfl);rw[a,b,d]at this;exact this
     |false=>
      cases f:aV tB (L.drop j)with
      |true=>have:=one f (k:=5) dM (by simp[mD,a,b,d,f]) (by rw[a,b,d,f];rfl);rw[a,b,d,f]at this;exact this
      |false=>
       have e:aN mD (λk=>aN (hc hi [hJ]) λc=>aN (hc l4 []) λu=>aN iR λr=>cJ (bk.mk x k c u r)) (L.drop j) = .error (L.drop j):=by simp[aN,mD,a,b,d,f]
       show cQ L _ (aN mD (λk=>aN (hc hi [hJ]) λc=>aN (hc l4 []) λu=>aN iR λr=>cJ (bk.mk x k c u r)) (L.drop j));rw[e];exact⟨j,_,bI,rfl,rfl⟩
 refine .of (λi n _=>key i n) (λi=>?_);obtain⟨e,h⟩:=(mu l (I L+1)).bad i;exact⟨_,(MT h (la L i _) (la L i _) (la L i _) (la L i _)).trans rfl⟩
end
def OA:bn:=⟨116,[(0,.sl .tok ai)],[(4,.ptr 40 0),(5,.ptr 41 0),(6,.ptr 42 0),(7,.ptr 43 0)],[(1,.cells [an,.str,.str,.sl .b2 ab,eD,fe,.sl .exprs ab,.sl .set ab,.bool,an,an,an,.str,.str,fe,eD,.sl .bool ab,an]),(2,.one (.bm .gz)),(40,.one (.bm .gz)),(41,.cells [an,.str,.str,.sl .b2 ab,eD,fU,.sl .exprs ab,.sl .set ab,.bool,an,an,an,.str,.str,fe,eD,.sl .bool ab,an]),(42,.cells [an,.str,.str,.sl .b2 ab,eD,fe,.sl .exprs ab,.sl .set ab,.bool,an,an,an,.str,.str,fe,eD,.sl .bool ab,an]),(43,.one (.bm .gz))],44,40,200,[],[]⟩
abbrev A':=U Tok×Int×ak×ak×U bk×U ak×U aq×U (U aq)×U ds×Bool×Int×Int×Int×ak×ak×U aq×U ak×U Bool×Int×a'×a'×Int×ak×ak×U bk×U ak×U aq×U (U aq)×U ds×Bool×Int×Int×Int×ak×ak×U aq×U ak×U Bool×Int×Int×ak×ak×U bk×U ak×U aq×U (U aq)×U ds×Bool×Int×Int×Int×ak×ak×U aq×U ak×U Bool×Int×a'
def zr{R:Type}(rec:A'->ae R)(kx:aX->A'->ae R)(v:A'):ae R:=match v with
 |(b,f,g,h,i,j,k,l,m,n,o,p,q,r,s,t,u,w,x,y,eM,z,a0,bI,a2,a3,a4,a5,bB,bE,bG,a9,bZ,b7,ac,ad,d,e,cq,ez,ct,cM,cV,cS,cZ,bJ,am,db,dk,ap,hM,dv,dI,ek,ev,e8,eX,eY)=>
 (hI b eM).bind λ(dp,a)=>
  ax (aa (I d+1<=bY)) (
  (dg b a [68,69,83,67]).bind λdC=>
   ax (aa (I e+1<=bY)) (
   let ih:=λ(c:a')=>
    (dg b c [44]).bind λgF=>
    cond (!gF) (
     kx (.exit 0) (b,f,g,h,i,j,k,l,m,n,o,p,q,r,s,t,u,w,x,y,c,z,a0,bI,a2,a3,a4,a5,bB,bE,bG,a9,bZ,b7,ac,ad,(d++[dp]),(e++[dC]),cq,ez,ct,cM,cV,cS,cZ,bJ,am,db,dk,ap,hM,dv,dI,ek,ev,e8,eX,eY)) (
     rec (b,f,g,h,i,j,k,l,m,n,o,p,q,r,s,t,u,w,x,y,(a'.mk (wr .i64 (c.pos+1)) c.bad),z,a0,bI,a2,a3,a4,a5,bB,bE,bG,a9,bZ,b7,ac,ad,(d++[dp]),(e++[dC]),cq,ez,ct,cM,cV,cS,cZ,bJ,am,db,dk,ap,hM,dv,dI,ek,ev,e8,eX,eY))
   (dg b a [68,69,83,67]).bind λiY=>
    cond (iY) (
    ih (a'.mk (wr .i64 (a.pos+1)) a.bad)) (
    (dg b a [65,83,67]).bind λhq=>
     cond (hq) (
     ih (a'.mk (wr .i64 (a.pos+1)) a.bad)) (
     ih a))))
def N5:bn:=⟨116,[(0,.sl .tok ai)],[(4,.ptr 40 0),(5,.ptr 41 0),(6,.ptr 42 0),(7,.ptr 43 0)],[(1,.cells [an,.str,.str,.sl .b2 ab,eD,fe,.sl .exprs ab,.sl .set ab,.bool,an,an,an,.str,.str,fe,eD,.sl .bool ab,an]),(2,.one (.bm .gz)),(40,.one (.bm .gz)),(41,.cells [an,.str,.str,.sl .b2 ab,eD,fU,.sl .exprs ab,.sl .set ab,.bool,an,an,an,.str,.str,fU,eD,.sl .bool ab,an]),(42,.cells [an,.str,.str,.sl .b2 ab,eD,fe,.sl .exprs ab,.sl .set ab,.bool,an,an,an,.str,.str,fe,eD,.sl .bool ab,an]),(43,.one (.bm .gz))],44,40,200,[],[]⟩
abbrev qD:=U Tok×Int×ak×ak×U bk×U ak×U aq×U (U aq)×U ds×Bool×Int×Int×Int×ak×ak×U aq×U ak×U Bool×Int×a'×a'×Int×ak×ak×U bk×U ak×U aq×U (U aq)×U ds×Bool×Int×Int×Int×ak×ak×U aq×U ak×U Bool×Int×Int×ak×ak×U bk×U ak×U aq×U (U aq)×U ds×Bool×Int×Int×Int×ak×ak×U aq×U ak×U Bool×Int×a'
def B5{R:Type}(rec:qD->ae R)(kx:aX->qD->ae R)(v:qD):ae R:=match v with
 |(b,f,g,h,i,j,k,l,m,n,o,p,q,r,s,t,u,w,x,y,eM,z,a0,bI,a2,a3,a4,a5,bB,bE,bG,a9,bZ,b7,ac,ad,d,e,cq,ez,ct,cM,cV,cS,cZ,bJ,am,db,dk,ap,hM,dv,dI,ek,ev,e8,eX,eY)=>
 (hI b eM).bind λ(dp,a)=>
  ax (aa (I d+1<=bY)) (
  (dg b a [68,69,83,67]).bind λdC=>
   ax (aa (I e+1<=bY)) (
   let jn:=λ(c:a')=>
    (dg b c [44]).bind λgF=>
    cond (!gF) (
     kx (.exit 0) (b,f,g,h,i,j,k,l,m,n,o,p,q,r,s,t,u,w,x,y,c,z,a0,bI,a2,a3,a4,a5,bB,bE,bG,a9,bZ,b7,ac,ad,(d++[dp]),(e++[dC]),cq,ez,ct,cM,cV,cS,cZ,bJ,am,db,dk,ap,hM,dv,dI,ek,ev,e8,eX,eY)) (
     rec (b,f,g,h,i,j,k,l,m,n,o,p,q,r,s,t,u,w,x,y,(a'.mk (wr .i64 (c.pos+1)) c.bad),z,a0,bI,a2,a3,a4,a5,bB,bE,bG,a9,bZ,b7,ac,ad,(d++[dp]),(e++[dC]),cq,ez,ct,cM,cV,cS,cZ,bJ,am,db,dk,ap,hM,dv,dI,ek,ev,e8,eX,eY))
   (dg b a [68,69,83,67]).bind λiY=>
    cond (iY) (
    jn (a'.mk (wr .i64 (a.pos+1)) a.bad)) (
    (dg b a [65,83,67]).bind λhq=>
     cond (hq) (
     jn (a'.mk (wr .i64 (a.pos+1)) a.bad)) (
     jn a))))
def aa7:bn:=⟨60,[(0,.sl .tok ai)],[(4,.ptr 40 0),(5,.ptr 41 0),(6,.ptr 42 0),(7,.ptr 43 0)],[(1,.cells [an,.str,.str,.sl .b2 ab,eD,fe,.sl .exprs ab,.sl .set ab,.bool,an,an,an,.str,.str,fe,eD,.sl .bool ab,an]),(2,.one (.bm .gz)),(40,.one (.bm .gz)),(41,.cells [an,.str,.str,.sl .b2 ab,eD,fe,.sl .exprs ab,.sl .set ab,.bool,an,an,an,.str,.str,fe,eD,.sl .bool ab,an]),(42,.cells [an,.str,.str,dR,dX,fU,BY,BZ,.bool,an,an,an,.str,.str,fU,dX,sd,an]),(43,.one (.bm .gz))],44,40,200,[],[]⟩
abbrev HF:=U Tok×Int×ak×ak×U bk×U ak×U aq×U (U aq)×U ds×Bool×Int×Int×Int×ak×ak×U aq×U ak×U Bool×Int×a'×a'×Int×ak×ak×U bk×U ak×U aq×U (U aq)×U ds×Bool×Int×Int×Int×ak×ak×U aq×U ak×U Bool×Int×Int×ak×ak×U bk×U ak×U aq×U (U aq)×U ds×Bool×Int×Int×Int×ak×ak×U aq×U ak×U Bool×Int×a'
def C8{R:Type}(rec:HF->ae R)(kx:aX->HF->ae R)(v:HF):ae R:=match v with|(a,bI,a2,a3,a4,a5,bB,bE,bG,a9,bZ,b7,ac,ad,cq,ez,ct,cM,cV,cS,cZ,e,f,g,h,i,j,k,c,t,u,w,x,y,z,a0,m,o,p,bJ,am,db,dk,ap,hM,dv,dI,ek,ev,e8,eX,eY,dp,dC,eM,gF,iY,hq)=>(hI a cZ).bind λ(q,iZ)=>(dV a iZ [61]).bind λiK=>(m' a iK 1).bind λ(r,b)=>ax (aa (I c+1<=bY)) ((dg a b [44]).bind λjF=>cond (!jF) ((dg a b [87,72,69,82,69]).bind λke=>cond (ke) ((m' a (a'.mk (wr .i64 (b.pos+1)) ai) 1).bind λ(d,jY)=>kx .ret (a,bI,a2,a3,a4,a5,bB,bE,bG,a9,bZ,b7,ac,ad,cq,ez,ct,cM,cV,cS,b,e,f,g,h,i,j,k,(c++[(ds.mk q (gv r))]),t,u,w,x,y,z,a0,m,o,p,e,f,g,h,i,j,k,(c++[(ds.mk q (gv r))]),ab,d.kind,d.v.kind,d.v.n,d.v.s,d.name,d.l,m,o,p,jY)) (kx .ret (a,bI,a2,a3,a4,a5,bB,bE,bG,a9,bZ,b7,ac,ad,cq,ez,ct,cM,cV,cS,b,e,f,g,h,i,j,k,(c++[(ds.mk q (gv r))]),t,u,w,x,y,z,a0,m,o,p,e,f,g,h,i,j,k,(c++[(ds.mk q (gv r))]),t,u,w,x,y,z,a0,m,o,p,b))) (rec (a,bI,a2,a3,a4,a5,bB,bE,bG,a9,bZ,b7,ac,ad,cq,ez,ct,cM,cV,cS,(a'.mk (wr .i64 (b.pos+1)) b.bad),e,f,g,h,i,j,k,(c++[(ds.mk q (gv r))]),t,u,w,x,y,z,a0,m,o,p,bJ,am,db,dk,ap,hM,dv,dI,ek,ev,e8,eX,eY,dp,dC,eM,gF,iY,hq)))
def aaD:bn:=⟨50,[(0,.sl .tok ai)],[(4,.ptr 40 0),(5,.ptr 41 0),(6,.ptr 42 0),(7,.ptr 43 0)],[(1,.cells [an,.str,.str,.sl .b2 ab,eD,fe,.sl .exprs ab,.sl .set ab,.bool,an,an,an,.str,.str,fe,eD,.sl .bool ab,an]),(2,.one (.bm .gz)),(40,.one (.bm .gz)),(41,.cells [an,.str,.str,.sl .b2 ab,eD,fe,.sl .exprs ab,.sl .set ab,.bool,an,an,an,.str,.str,fe,eD,.sl .bool ab,an]),(42,.cells [an,.str,.str,dR,dX,fU,BY,BZ,.bool,an,an,an,.str,.str,fU,dX,sd,an]),(43,.one (.bm .gz))],44,40,200,[],[]⟩
abbrev Hp:=U Tok×Int×ak×ak×U bk×U ak×U aq×U (U aq)×U ds×Bool×Int×Int×Int×ak×ak×U aq×U ak×U Bool×Int×a'×a'×Int×ak×ak×U bk×U ak×U aq×U (U aq)×U ds×Bool×Int×Int×Int×ak×ak×U aq×U ak×U Bool×Int×Int×ak×ak×U bk×U ak×U aq×U (U aq)×U ds×Bool×Int×Int×Int×ak×ak×U aq×U ak×U Bool×Int×a'
def C4{R:Type}(rec:Hp->ae R)(kx:aX->Hp->ae R)(v:Hp):ae R:=match v with|(a,w,x,y,z,a0,bI,a2,a3,a4,a5,bB,bE,bG,a9,bZ,b7,ac,ad,cq,ez,d,e,f,g,h,i,c,j,k,l,m,n,o,p,q,r,s,t,ct,cM,cV,cS,cZ,bJ,am,db,dk,ap,hM,dv,dI,ek,ev,e8,eX,eY,dp)=>(dV a ez [40]).bind λdC=>(vn a dC).bind λ(u,eM)=>ax (aa (I c+1<=bY)) ((dV a eM [41]).bind λb=>(dg a b [44]).bind λgF=>cond (!gF) (kx .ret (a,w,x,y,z,a0,bI,a2,a3,a4,a5,bB,bE,bG,a9,bZ,b7,ac,ad,cq,b,d,e,f,g,h,i,(c++[u]),j,k,l,m,n,o,p,q,r,s,t,d,e,f,g,h,i,(c++[u]),j,k,l,m,n,o,p,q,r,s,t,b)) (rec (a,w,x,y,z,a0,bI,a2,a3,a4,a5,bB,bE,bG,a9,bZ,b7,ac,ad,cq,(a'.mk (wr .i64 (b.pos+1)) b.bad),d,e,f,g,h,i,(c++[u]),j,k,l,m,n,o,p,q,r,s,t,ct,cM,cV,cS,cZ,bJ,am,db,dk,ap,hM,dv,dI,ek,ev,e8,eX,eY,dp)))
def abc:bn:=⟨86,[(0,.sl .tok ai)],[(4,.ptr 40 0),(5,.ptr 41 0),(6,.ptr 42 0),(7,.ptr 43 0)],[(1,.cells [an,.str,.str,.sl .b2 ab,eD,fe,.sl .exprs ab,.sl .set ab,.bool,an,an,an,.str,.str,fe,eD,.sl .bool ab,an]),(2,.one (.bm .gz)),(40,.one (.bm .gz)),(41,.cells [an,.str,.str,.sl .b2 ab,dX,fe,.sl .exprs ab,.sl .set ab,.bool,an,an,an,.str,.str,fe,eD,.sl .bool ab,an]),(42,.cells [an,.str,.str,.sl .b2 ab,eD,fe,.sl .exprs ab,.sl .set ab,.bool,an,an,an,.str,.str,fe,eD,.sl .bool ab,an]),(43,.one (.bm .gz))],44,40,200,[],[]⟩
abbrev Fb:=U Tok×Int×ak×ak×U bk×U ak×U aq×U (U aq)×U ds×Bool×Int×Int×Int×ak×ak×U aq×U ak×U Bool×Int×a'×a'×Int×ak×ak×U bk×U ak×U aq×U (U aq)×U ds×Bool×Int×Int×Int×ak×ak×U aq×U ak×U Bool×Int×Int×ak×ak×U bk×U ak×U aq×U (U aq)×U ds×Bool×Int×Int×Int×ak×ak×U aq×U ak×U Bool×Int×a'
def qL{R:Type}(rec:Fb->ae R)(kx:aX->Fb->ae R)(v:Fb):ae R:=match v with|(a,d,e,f,g,h,i,j,k,l,m,n,o,p,q,r,s,t,u,w,b,x,y,z,a0,bI,c,a2,a3,a4,a5,bB,bE,bG,a9,bZ,b7,ac,ad,cq,ez,ct,cM,cV,cS,cZ,bJ,am,db,dk,ap,hM,dv,dI,ek,ev,e8,eX)=>(dg a b [44]).bind λeY=>cond (eY) ((dV a b [44,32,67,72,69,67,75,32,40]).bind λdp=>(m' a dp 1).bind λ(dC,eM)=>ax (aa (I c+1<=bY)) ((dV a eM [41]).bind λgF=>rec (a,d,e,f,g,h,i,j,k,l,m,n,o,p,q,r,s,t,u,w,gF,x,y,z,a0,bI,(c++[dC]),a2,a3,a4,a5,bB,bE,bG,a9,bZ,b7,ac,ad,cq,ez,ct,cM,cV,cS,cZ,bJ,am,db,dk,ap,hM,dv,dI,ek,ev,e8,eX))) (kx (.exit 2) (a,d,e,f,g,h,i,j,k,l,m,n,o,p,q,r,s,t,u,w,b,x,y,z,a0,bI,c,a2,a3,a4,a5,bB,bE,bG,a9,bZ,b7,ac,ad,cq,ez,ct,cM,cV,cS,cZ,bJ,am,db,dk,ap,hM,dv,dI,ek,ev,e8,eX))
def _6:bn:=⟨86,[(0,.sl .tok ai)],[(4,.ptr 40 0),(5,.ptr 41 0),(6,.ptr 42 0),(7,.ptr 43 0)],[(1,.cells [an,.str,.str,.sl .b2 ab,eD,fe,.sl .exprs ab,.sl .set ab,.bool,an,an,an,.str,.str,fe,eD,.sl .bool ab,an]),(2,.one (.bm .gz)),(40,.one (.bm .gz)),(41,.cells [an,.str,.str,.sl .b2 ab,eD,fe,.sl .exprs ab,.sl .set ab,.bool,an,an,an,.str,.str,fe,eD,.sl .bool ab,an]),(42,.cells [an,.str,.str,.sl .b2 ab,eD,fe,.sl .exprs ab,.sl .set ab,.bool,an,an,an,.str,.str,fe,eD,.sl .bool ab,an]),(43,.one (.bm .gz))],44,40,200,[],[]⟩
abbrev Bf:=U Tok×Int×ak×ak×U bk×U ak×U aq×U (U aq)×U ds×Bool×Int×Int×Int×ak×ak×U aq×U ak×U Bool×Int×a'×a'×Int×ak×ak×U bk×U ak×U aq×U (U aq)×U ds×Bool×Int×Int×Int×ak×ak×U aq×U ak×U Bool×Int×Int×ak×ak×U bk×U ak×U aq×U (U aq)×U ds×Bool×Int×Int×Int×ak×ak×U aq×U ak×U Bool×Int×a'
def r3{R:Type}(rec:Bf->ae R)(kx:aX->Bf->ae R)(v:Bf):ae R:=match v with
 |(v,w,w1,b4,cv,cH,cK,eb,eO,e2,fD,c,d,e,f,g,h,i,k,l,a,m,n,o,b,p,q,r,s,t,u,x,y,z,a0,bI,a2,a3,a4,a5,bB,bE,bG,a9,bZ,b7,ac,ad,cq,ez,ct,cM,cV,cS,cZ,bJ,am,db)=>
 let j:=λ(_:Unit)=>
  (wZ v a).bind λ(lV,nB)=>
  ax (aa (I b+1<=bY)) (
   (dV v nB [44]).bind λkZ=>
   rec (v,w,w1,b4,cv,cH,cK,eb,eO,e2,fD,c,d,e,f,g,h,i,k,l,kZ,m,n,o,(b++[lV]),p,q,r,s,t,u,x,y,z,a0,bI,a2,a3,a4,a5,bB,bE,bG,a9,bZ,b7,ac,ad,cq,ez,ct,cM,cV,cS,cZ,bJ,am,db))
 cond (!a.bad) (
  cond (aa ((I b:Int)=0)) (
  j ()) (
  (dg v a [80,82,73,77,65,82,89]).bind λgT=>
   cond (!gT) (
   j ()) (
   kx (.exit 0) (v,w,w1,b4,cv,cH,cK,eb,eO,e2,fD,c,d,e,f,g,h,i,k,l,a,m,n,o,b,p,q,r,s,t,u,x,y,z,a0,bI,a2,a3,a4,a5,bB,bE,bG,a9,bZ,b7,ac,ad,cq,ez,ct,cM,cV,cS,cZ,bJ,am,db)))) (
  kx (.exit 0) (v,w,w1,b4,cv,cH,cK,eb,eO,e2,fD,c,d,e,f,g,h,i,k,l,a,m,n,o,b,p,q,r,s,t,u,x,y,z,a0,bI,a2,a3,a4,a5,bB,bE,bG,a9,bZ,b7,ac,ad,cq,ez,ct,cM,cV,cS,cZ,bJ,am,db))
def aaE(R:Type)(k:Nat):aR R:=bs [(142,ba vj),(143,ba pI),(82,ba nc),(203,ba ac7),(144,ba P9),(204,ba xS)] [(143,jK pI)] [(4,b8 k _6 (r3)),(9,b8 k abc (qL))] []
def abf(R:Type)(k:Nat):aR R:=bs [(143,ba pI),(142,ba vj),(205,ba Ql),(82,ba nc)] [] [(4,b8 k aaD (C4))] []
def YW(R:Type)(mh:Nat):aR R:=bs [(82,ba nc),(204,ba xS)] [] [] []
noncomputable def aaS(R:Type)(k:Nat):aR R:=bs [(142,ba vj),(143,ba pI),(204,ba xS),(82,ba nc),(147,ey 80 400 (YW R k) Tryz.f147)] [] [(4,b8 k aa7 (C8))] []
def abj(R:Type)(mh:Nat):aR R:=bs [(82,ba nc),(204,ba xS)] [] [] []
def YR(R:Type)(mh:Nat):aR R:=bs [(82,ba nc),(204,ba xS)] [] [] []
noncomputable def EG(R:Type)(k:Nat):aR R:=bs [(82,ba nc),(205,ba Ql),(143,ba pI),(142,ba vj),(149,ba zJ),(147,ey 80 400 (YR R k) Tryz.f147)] [(82,jK nc)] [(10,C9 k N5 (B5) (b8 k OA (zr)))] []
noncomputable def adM(R:Type)(k:Nat):aR R:=bs [(82,ba nc),(143,ba pI),(142,ba vj),(144,ba P9),(141,ey 40 200 (aaE R k) Tryz.f141),(145,ey 40 200 (abf R k) Tryz.f145),(146,ey 40 200 (aaS R k) Tryz.f146),(147,ey 40 200 (abj R k) Tryz.f147),(148,ey 40 200 (EG R k) Tryz.f148)] [] [] []
theorem ata(R:Type)(k:Nat):∀(cx:U Fr) (rec:qD->ae R) (kx:aX->qD->ae R) (v:qD),q6 (EG R k) N5 (b0 Tryz.f148 0) cx rec kx v=B5 rec kx v
 |cx,rec,kx,(a,b,c,d,e,f,g,h,i,j,l,m,n,o,p,q,r,s,t,u,w,x,y,z,a0,bI,a2,a3,a4,a5,bB,bE,bG,a9,bZ,b7,ac,ad,cq,ez,ct,cM,cV,cS,cZ,bJ,am,db,dk,ap,hM,dv,dI,ek,ev,e8,eX,eY)=>by kernel_rfl
theorem at2(R:Type)(k:Nat):∀(cx:U Fr) (rec:A'->ae R) (kx:aX->A'->ae R) (v:A'),q6 (EG R k) OA (b0 Tryz.f148 0) cx rec kx v=zr rec kx v
 |cx,rec,kx,(a,b,c,d,e,f,g,h,i,j,l,m,n,o,p,q,r,s,t,u,w,x,y,z,a0,bI,a2,a3,a4,a5,bB,bE,bG,a9,bZ,b7,ac,ad,cq,ez,ct,cM,cV,cS,cZ,bJ,am,db,dk,ap,hM,dv,dI,ek,ev,e8,eX,eY)=>by kernel_rfl
def uT(k:Nat)(x:aw [cn,cy,.str]):ae (aw [cG,cy]):=match x with
 |(l,g,f)=>
 cond (aa (f=[67,82,69,65,84,69])) (
  (dg l g [84,65,66,76,69]).bind λx=>
  cond (x) (
   (hI l (a'.mk (wr .i64 (g.pos+1)) ai)).bind λ(hD,gB)=>
   (dV l gB [40]).bind λik=>
    aI (λrec=>r3 rec (λe eA=>match eA with|(v1,v2,v3,v4,v5,v6,bb,bK,v9,dp,dC,eM,gF,iY,hq,iZ,iK,jF,ke,jY,mO,nj,fp,be,nY,_,nZ,n0,bi,pc,pY,au,hB,pZ,p0,p4,p5,n1,pd,vB,q7,bv,sg,B8,tJ,dD,c1,c2,fZ,gQ,nk,n2,nm,p6,p7,B9,B_,x1)=>match e with
    |.exit 0=>
     (dV v1 mO [80,82,73,77,65,82,89,32,75,69,89]).bind λkl=>
     (vu v1 kl).bind λ(jM,B')=>
      aI (λrec=>qL rec (λe eA=>match eA with|(ce,_,_,_,_,_,_,_,_,_,_,_,_,_,_,_,_,_,_,_,Ca,Cb,x2,ci,Cc,Cd,Ce,Cf,Cg,co,Ch,Ci,Cj,cs,Cl,Cm,Cn,Co,ah,_,_,_,_,_,_,_,_,_,_,_,_,_,_,_,_,_,_,_)=>match e with
      |.exit 2=>
       (dV ce Ca [41]).bind λCp=>
       J ((aP.mk Cb x2 ci Cc Cd Ce Cf Cg co (aq.mk Ch ⟨Ci,Cj,cs⟩ Cl Cm) Cn Co ah),Cp)
      |_=>aj)) k (v1,v2,v3,v4,v5,v6,bb,bK,v9,dp,dC,eM,gF,iY,hq,iZ,iK,jF,ke,jY,B',nj,fp,be,nY,jM,nZ,n0,bi,pc,pY,au,hB,pZ,p0,p4,p5,n1,pd,vB,q7,bv,sg,B8,tJ,dD,c1,c2,fZ,gQ,nk,n2,nm,p6,p7,B9,B_,x1)
    |_=>aj)) k (l,0,[],[],[],[],[],[],[],ai,0,0,0,[],[],[],[],[],0,(a'.mk 0 ai),ik,1,hD,[],[],[],[],[],[],ai,0,0,0,[],[],[],[],[],0,0,[],[],[],[],[],[],[],ai,0,0,0,[],[],[],[],[],0,(a'.mk 0 ai))) (
   (dV l g [73,78,68,69,88]).bind λx3=>
   (hI l x3).bind λ(d0,d1)=>
    (dV l d1 [79,78]).bind λd2=>
    (hI l d2).bind λ(d3,d4)=>
     (vu l d4).bind λ(d5,d6)=>
     J ((aP.mk 3 d0 d3 [] d5 [] [] [] ai (aq.mk 0 ⟨0,0,[]⟩ [] []) [] [] 0),d6))) (
  cond (aa (f=[68,82,79,80])) (
  (dg l g [84,65,66,76,69]).bind λd7=>
   cond (!d7) (
   (dV l g [73,78,68,69,88]).bind λd8=>
    (hI l d8).bind λ(d9,L0)=>
    J ((aP.mk 4 d9 [] [] [] [] [] [] ai (aq.mk 0 ⟨0,0,[]⟩ [] []) [] [] 0),L0)) (
   (hI l (a'.mk (wr .i64 (g.pos+1)) g.bad)).bind λ(T9,Cq)=>J ((aP.mk 2 T9 [] [] [] [] [] [] ai (aq.mk 0 ⟨0,0,[]⟩ [] []) [] [] 0),Cq))) (
  cond (aa (f=[73,78,83,69,82,84])) (
   (dV l g [73,78,84,79]).bind λT_=>
   (hI l T_).bind λ(T',kf)=>
    (dV l kf [86,65,76,85,69,83]).bind λix=>
    aI (λrec=>C4 rec (λe eA=>match eA with|(_,_,_,_,_,_,_,_,_,_,_,_,_,_,_,_,_,_,_,_,_,_,_,_,_,_,_,_,_,_,_,_,_,_,_,_,_,_,_,Ua,Ub,Uc,Ud,dl,Ue,fx,oG,Uf,x4,az,Ug,Uh,Ui,Uj,Uk,Cs,Ul,jZ)=>match e with
     |.ret=>
     J ((aP.mk Ua Ub Uc Ud dl Ue fx oG Uf (aq.mk x4 ⟨az,Ug,Uh⟩ Ui Uj) Uk Cs Ul),jZ)
     |_=>aj)) k (l,0,[],[],[],[],[],[],[],ai,0,0,0,[],[],[],[],[],0,(a'.mk 0 ai),ix,5,T',[],[],[],[],[],[],ai,0,0,0,[],[],[],[],[],0,0,[],[],[],[],[],[],[],ai,0,0,0,[],[],[],[],[],0,(a'.mk 0 ai))) (
   cond (aa (f=[85,80,68,65,84,69])) (
   (hI l g).bind λ(de,eH)=>
    (dV l eH [83,69,84]).bind λgy=>
    aI (λrec=>C8 rec (λe eA=>match eA with|(_,_,_,_,_,_,_,_,_,_,_,_,_,_,_,_,_,_,_,_,_,_,_,_,_,_,_,_,_,_,_,_,_,_,_,_,_,_,_,pg,jG,x5,vE,vF,tM,FV,vG,Um,FW,Un,Uo,Up,Uq,Ur,Us,Ut,el,em)=>match e with
     |.ret=>
     J ((aP.mk pg jG x5 vE vF tM FV vG Um (aq.mk FW ⟨Un,Uo,Up⟩ Uq Ur) Us Ut el),em)
     |_=>aj)) k (l,0,[],[],[],[],[],[],[],ai,0,0,0,[],[],[],[],[],0,(a'.mk 0 ai),gy,6,de,[],[],[],[],[],[],ai,0,0,0,[],[],[],[],[],0,0,[],[],[],[],[],[],[],ai,0,0,0,[],[],[],[],[],0,(a'.mk 0 ai))) (
   cond (aa (f=[68,69,76,69,84,69])) (
    (dV l g [70,82,79,77]).bind λdJ=>
    (hI l dJ).bind λ(ap,m)=>
     (dg l m [87,72,69,82,69]).bind λUv=>
     cond (Uv) (
      (m' l (a'.mk (wr .i64 (m.pos+1)) ai) 1).bind λ(lo,fR)=>
      J ((aP.mk 7 ap [] [] [] [] [] [] ab (gv lo) [] [] 0),fR)) (
      J ((aP.mk 7 ap [] [] [] [] [] [] ai (aq.mk 0 ⟨0,0,[]⟩ [] []) [] [] 0),m))) (
    cond (aa (f=[83,69,76,69,67,84])) (
    let n7:=λ(es:a') (d:U aq)=>
     (dV l es [70,82,79,77]).bind λFY=>
     (hI l FY).bind λ(h,a)=>
      (dg l a [87,72,69,82,69]).bind λx8=>
      cond (x8) (
       (m' l (a'.mk (wr .i64 (a.pos+1)) ai) 1).bind λ(b,c)=>
       (dg l c [79,82,68,69,82]).bind λaJ=>
        cond (aJ) (
        (dV l c [79,82,68,69,82,32,66,89]).bind λUy=>
         aI (λrec=>B5 rec (λe eA=>match eA with|(hM,_,_,_,_,_,_,_,_,_,_,_,_,_,_,_,_,_,_,_,i,o,p,q,r,t,u,w,y,z,a0,bI,a2,a3,a4,a5,bB,bE,dv,_,_,_,_,_,_,_,_,_,_,_,_,_,_,_,_,_,_,_)=>match e with
         |.exit 0=>
          (dg hM i [76,73,77,73,84]).bind λex=>
          cond (ex) (
           (oY hM (a'.mk (wr .i64 (i.pos+1)) i.bad)).bind λdI=>
           cond (!decide (dI.kind=3)) (
            J ((aP.mk o p q r t u w y z (aq.mk a0 ⟨bI,a2,a3⟩ a4 a5) bB bE dv),(a'.mk (wr .i64 (i.pos+1)) ab))) (
            J ((aP.mk o p q r t u w y z (aq.mk a0 ⟨bI,a2,a3⟩ a4 a5) bB bE dI.n),(a'.mk (wr .i64 ((wr .i64 (i.pos+1))+1)) i.bad)))) (
           J ((aP.mk o p q r t u w y z (aq.mk a0 ⟨bI,a2,a3⟩ a4 a5) bB bE dv),i))
         |_=>aj)) k (l,0,[],[],[],[],[],[],[],ai,0,0,0,[],[],[],[],[],0,(a'.mk 0 ai),Uy,8,h,[],[],[],d,[],[],ab,b.kind,b.v.kind,b.v.n,b.v.s,b.name,b.l,[],[],(-1),0,[],[],[],[],[],[],[],ai,0,0,0,[],[],[],[],[],0,(a'.mk 0 ai))) (
        (dg l c [76,73,77,73,84]).bind λUA=>
         cond (UA) (
         (oY l (a'.mk (wr .i64 (c.pos+1)) c.bad)).bind λek=>
          cond (!decide (ek.kind=3)) (
          J ((aP.mk 8 h [] [] [] d [] [] ab (gv b) [] [] (-1)),(a'.mk (wr .i64 (c.pos+1)) ab))) (
          J ((aP.mk 8 h [] [] [] d [] [] ab (gv b) [] [] ek.n),(a'.mk (wr .i64 ((wr .i64 (c.pos+1))+1)) c.bad)))) (
         J ((aP.mk 8 h [] [] [] d [] [] ab (gv b) [] [] (-1)),c)))) (
       (dg l a [79,82,68,69,82]).bind λUB=>
       cond (UB) (
        (dV l a [79,82,68,69,82,32,66,89]).bind λf0=>
        aI (λrec=>zr rec (λe eA=>match eA with|(ev,_,_,_,_,_,_,_,_,_,_,_,_,_,_,_,_,_,_,_,j,bG,a9,bZ,b7,ac,ad,cq,ez,ct,cM,cV,cS,cZ,bJ,am,db,dk,e8,_,_,_,_,_,_,_,_,_,_,_,_,_,_,_,_,_,_,_)=>match e with
         |.exit 0=>
         (dg ev j [76,73,77,73,84]).bind λf1=>
          cond (f1) (
          (oY ev (a'.mk (wr .i64 (j.pos+1)) j.bad)).bind λeX=>
           cond (!decide (eX.kind=3)) (
           J ((aP.mk bG a9 bZ b7 ac ad cq ez ct (aq.mk cM ⟨cV,cS,cZ⟩ bJ am) db dk e8),(a'.mk (wr .i64 (j.pos+1)) ab))) (
           J ((aP.mk bG a9 bZ b7 ac ad cq ez ct (aq.mk cM ⟨cV,cS,cZ⟩ bJ am) db dk eX.n),(a'.mk (wr .i64 ((wr .i64 (j.pos+1))+1)) j.bad)))) (
          J ((aP.mk bG a9 bZ b7 ac ad cq ez ct (aq.mk cM ⟨cV,cS,cZ⟩ bJ am) db dk e8),j))
         |_=>aj)) k (l,0,[],[],[],[],[],[],[],ai,0,0,0,[],[],[],[],[],0,(a'.mk 0 ai),f0,8,h,[],[],[],d,[],[],ai,0,0,0,[],[],[],[],[],(-1),0,[],[],[],[],[],[],[],ai,0,0,0,[],[],[],[],[],0,(a'.mk 0 ai))) (
        (dg l a [76,73,77,73,84]).bind λf2=>
        cond (f2) (
         (oY l (a'.mk (wr .i64 (a.pos+1)) a.bad)).bind λeY=>
         cond (!decide (eY.kind=3)) (
          J ((aP.mk 8 h [] [] [] d [] [] ai (aq.mk 0 ⟨0,0,[]⟩ [] []) [] [] (-1)),(a'.mk (wr .i64 (a.pos+1)) ab))) (
          J ((aP.mk 8 h [] [] [] d [] [] ai (aq.mk 0 ⟨0,0,[]⟩ [] []) [] [] eY.n),(a'.mk (wr .i64 ((wr .i64 (a.pos+1))+1)) a.bad)))) (
         J ((aP.mk 8 h [] [] [] d [] [] ai (aq.mk 0 ⟨0,0,[]⟩ [] []) [] [] (-1)),a))))
    (dg l g [42]).bind λf3=>
     cond (f3) (
     n7 (a'.mk (wr .i64 (g.pos+1)) g.bad) []) (
     (vn l g).bind λ(f4,f5)=>n7 f5 f4)) (
    J ((aP.mk 0 [] [] [] [] [] [] [] ai (aq.mk 0 ⟨0,0,[]⟩ [] []) [] [] 0),(a'.mk 0 ab))))))))
theorem awp(k:Nat):aU 81 [cn,cy,.str] [cG,cy] (uT k):=b6 (px:=adM _ k) (n:=0) Tryz.func81 rfl (λah H=>by have i:bP ah (aaE (aw [cG,cy]) k):=br H (c1 H xB (c1 H qA (c1 H nP (c1 H ayZ (c1 H WD (c1 H BL bq)))))) (bc H qA bo) bp;have a:=cd H i (b:=b0 Tryz.f141 0) (k:=k) (n:=0) (s:=_6) (step:=r3) (λ_ _ _ (_,_,_,_,_,_,_,_,_,_,_,_,_,_,_,_,_,_,_,_,_,_,_,_,_,_,_,_,_,_,_,_,_,_,_,_,_,_,_,_,_,_,_,_,_,_,_,_,_,_,_,_,_,_,_,_,_,_)=>by kernel_rfl) aK;have d:=cd H i (b:=b0 Tryz.f141 1) (k:=k) (n:=0) (s:=abc) (step:=qL) (λ_ _ _ (_,_,_,_,_,_,_,_,_,_,_,_,_,_,_,_,_,_,_,_,_,_,_,_,_,_,_,_,_,_,_,_,_,_,_,_,_,_,_,_,_,_,_,_,_,_,_,_,_,_,_,_,_,_,_,_,_,_)=>by kernel_rfl) aK;have j:bP ah (abf (aw [cG,cy]) k):=br H (c1 H qA (c1 H xB (c1 H VQ (c1 H nP bq)))) bo bp;have e:=cd H j (b:=b0 Tryz.f145 0) (k:=k) (n:=0) (s:=aaD) (step:=C4) (λ_ _ _ (_,_,_,_,_,_,_,_,_,_,_,_,_,_,_,_,_,_,_,_,_,_,_,_,_,_,_,_,_,_,_,_,_,_,_,_,_,_,_,_,_,_,_,_,_,_,_,_,_,_,_,_,_,_,_,_,_,_)=>by kernel_rfl) aK;have m:bP ah (YW (aw [cG,cy]) k):=br H (c1 H nP (c1 H BL bq)) bo bp;have l:bP ah (aaS (aw [cG,cy]) k):=br H (c1 H xB (c1 H qA (c1 H BL (c1 H nP (et (eS H m Tryz.func147 rfl (n:=0) (aK)) bq))))) bo bp;have f:=cd H l (b:=b0 Tryz.f146 0) (k:=k) (n:=0) (s:=aa7) (step:=C8) (λ_ _ _ (_,_,_,_,_,_,_,_,_,_,_,_,_,_,_,_,_,_,_,_,_,_,_,_,_,_,_,_,_,_,_,_,_,_,_,_,_,_,_,_,_,_,_,_,_,_,_,_,_,_,_,_,_,_,_,_,_,_)=>by kernel_rfl) aK;have o:bP ah (abj (aw [cG,cy]) k):=br H (c1 H nP (c1 H BL bq)) bo bp;have r:bP ah (YR (aw [cG,cy]) k):=br H (c1 H nP (c1 H BL bq)) bo bp;have h:bP ah (EG (aw [cG,cy]) k):=br H (c1 H nP (c1 H VQ (c1 H qA (c1 H xB (c1 H CT (et (eS H r Tryz.func147 rfl (n:=0) (aK)) bq)))))) (bc H nP bo) bp;have g:hX ah (EG (aw [cG,cy]) k) (b0 Tryz.f148 0):=agy (λ_ _=>by kernel_rfl) (O5 (FB h.p h.c h.q AB (k:=k) (s:=N5) (step:=B5) bW (ata _ k) (xA (n:=0) bW aK)) (FB h.p h.c h.q AB (k:=k) (s:=OA) (step:=zr) bW (at2 _ k) (xA (n:=0) bW aK)));have t:bP ah (adM (aw [cG,cy]) k):=br H (c1 H nP (c1 H qA (c1 H xB (c1 H WD (et (eS H i Tryz.func141 rfl (n:=2) (b9 (b9 aK a) d)) (et (eS H j Tryz.func145 rfl (n:=1) (b9 aK e)) (et (eS H l Tryz.func146 rfl (n:=1) (b9 aK f)) (et (eS H o Tryz.func147 rfl (n:=0) (aK)) (et (eS H h Tryz.func148 rfl (n:=1) (b9 aK g)) bq))))))))) bo bp;exact⟨t,aK⟩) λ(_,_,_)=>by kernel_rfl
def k_(l:U Tok)(g:a')(f:ak):ae (aP×a'):=uT (I l+3) (l,g,f)
def aim:bt [cn,cy,.str] [cG,cy]:=λx=>k_ x.1 x.2.1 x.2.2
theorem apT:aU 81 [cn,cy,.str] [cG,cy] aim:=.fin 0 awp λ(l,_,_) _ _ ag=>⟨I l+3,ag⟩
abbrev fY:=U Tok×Int×Bool×Int
def F5(n:Int):aA->Tok|[]=>⟨0,n,[],0⟩|t::_=>t
theorem aAu(n:Int)(l:aA):(F5 n l).pos=hA n l:=by cases l<;>rfl
theorem xJ(l:aA)(n:Int)(b:Bool)(p:Int):my (l,n,b,p)=J (F5 n l,l,n,b,p):=by cases l with|nil=>rfl|cons t r=>have a:a_ 0 (I (t::r))=true:=cg (i:=0) (by simp);simp only[my,Oi,a];rfl
theorem agF(l:aA)(n:Int)(b:Bool)(p:Int):jN (l,n,b,p)=J (F5 n l,l.tail,n,b,p):=by
 simp[jN,OZ,xJ];cases l with
 |nil=>rfl
 |cons t r=>
  have h:dP 1 (I (t::r):Int) (I (t::r))=true:=by simp[dP,eo];omega
  simp only[ h];rfl
theorem Gt(t:Tok)(r:aA)(n:Int)(b:Bool)(p:Int):my (t::r,n,b,p)=J (t,t::r,n,b,p):=xJ _ _ _ _
theorem GC(t:Tok)(r:aA)(n:Int)(b:Bool)(p:Int):jN (t::r,n,b,p)=J (t,r,n,b,p):=agF _ _ _ _
theorem gk{l:aA}{n:Int}{b:Bool}{p:Int}(h:aV s l=ab):cz (s,l,n,b,p)=J (ab,l.tail,n,b,p):=by
 cases l with
 |nil=>cases h
 |cons t r=>
  simp only[aV,bN]at h;simp[cz,HZ,xJ,agF,F5,h.2,bj]
  grind
theorem fW{l:aA}{n:Int}{b:Bool}{p:Int}(h:aV s l=ai):cz (s,l,n,b,p)=J (ai,l,n,b,p):=by
 simp[cz,HZ,xJ];cases l with
 |nil=>rfl
 |cons t r=>
  simp[aV]at h;simp[F5]
  grind
theorem zo(l:aA)(n p:Int):lD (l,n,ai,p)=J (l,n,ab,hA n l):=by simp[lD,TI,xJ,aAu,bd]
theorem aiQ(l:aA)(n p:Int):lD (l,n,ab,p)=J (l,n,ab,p):=rfl
theorem VP{R:Type}{kx:aX->HI->ae R}{ss:U ak}{n:Int}{c:aA->Bool->Int->ae R}(e:b1 (I ss))(f:∀i l b p,kx .ret (ss,(I ss:Int),i,l,n,b,p)=c l b p)(g:∀i l b p,kx (.exit 0) (ss,(I ss:Int),i,l,n,b,p)=c l b p)(a:Int):∀(k i:Nat) (l:aA),i<=I ss->I ss-i<k ->
  aI (λrec=>xV rec kx) k (ss,(I ss:Int),(i:Int),l,n,ai,a)=match cY (ss.drop i) l with|.ok (_,aC)=>c aC ai a|.error q=>c q ab (hA n q)
 |0,_,_,_,h=>absurd h (dY _)
 |k+1,i,l,bO,h=>by
  rw[c6];by_cases d:i<I ss
  .have m:=VP e f g a k (i+1) l.tail af af;rw[da d];simp only[xV,ea d,bd,bj,cg d,ax,cR (c:=.str) d,c9 d e,cY];cases j:aV ss[i] l with|true=>simp only[gk j,bA,ef,bj,m]|false=>simp only[fW j,bA,kd,bd,zo,f]
  .obtain rfl:i=I ss:=af
   simp only[xV,eu,bj,g,tI,cY]
variable{ss:U ak}
theorem NI(d:I ss<=100)(l:aA)(n a:Int):cI (ss,l,n,ai,a)=match cY ss l with
  |.ok (_,aC)=>J (aC,n,ai,a)
  |.error q=>J (q,n,ab,hA n q):=by
 simp[cI,EF];exact VP (c:=λl b p=>J (l,n,b,p)) iC (λ_ _ _ _=>rfl) (λ_ _ _ _=>rfl) a (I ss+1) 0 l (cL _) af
variable{aC:aA}
theorem zD(b:I ss<=100){l:aA}{x:Unit}(h:cY ss l = .ok (x,aC))(n a:Int):cI (ss,l,n,ai,a)=J (aC,n,ai,a):=by rw[NI b,h]
theorem zB(b:I ss<=100){l q:aA}(h:cY ss l = .error q)(n a:Int):cI (ss,l,n,ai,a)=J (q,n,ab,hA n q):=by rw[NI b,h]
theorem tC(ss:U ak)(l:aA)(n a:Int):cI (ss,l,n,ab,a)=J (l,n,ab,a):=by cases ss with|nil=>rfl|cons s r=>have e:aa ((0:Int)<(I (s::r):Int))=true:=aH KI;have b:a_ 0 (I (s::r))=true:=cg (i:=0) (by simp);simp only[cI,EF,c6,xV,e,bd,b,ax,aiQ,bA]
theorem uf{l:aA}(h:aV s l=ab):cY [s] l = .ok ((),l.tail):=by simp[cY,h]
theorem wO{l:aA}(h:aV s l=ai):cY [s] l = .error l:=by simp[cY,h]
structure fT {α:Type}(F:fY->Option (α×fY)) (p:aA->bR α) (L:Nat):Prop where
 ok:∀l n a e aC,I l<L->p l = .ok (e,aC)->F (l,n,ai,a)=J (e,aC,n,ai,a)
 fR:∀l n a q,I l<L->p l = .error q->∃e aC,F (l,n,ai,a)=J (e,aC,n,ab,hA n q)
 bad:∀l n a,∃e,F (l,n,ab,a)=J (e,l,n,ab,a)
theorem l3(L:Nat):fT eP fl L where
 ok l n a e aC _ h:=by
  cases l with
  |nil=>cases h
  |cons t r=>
   simp[eP,EC,Gt,GC,bj];simp[fl]at h
   grind
 fR l n a q _ h:=by
  cases l with
  |nil=>cases h;exact⟨_,_,rfl⟩
  |cons t r=>simp[eP,EC,Gt,zo,bj];simp[fl]at h;cases b:aa (t.kind=2)with|true=>rw[b]at h;cases h|false=>simp_all
 bad l n a:=by simp only[eP,EC,xJ,aiQ,bd];exact⟨_,rfl⟩
theorem ags(rf:c8->ae c3)(t:Tok)(r:aA)(n a:Int):qI rf (t::r,n,ai,a)=match pD t with
  |some v=>J (v,r,n,ai,a)
  |none=>(cI ([[40]],t::r,n,ai,a)).bind λ(k,l,m,o)=>(rf (k,l,m,o)).bind λ(e,p,u,w,x)=>(cI ([[41]],p,u,w,x)).bind λ(dF,z2,y,z)=>J (e,dF,z2,y,z):=by
 simp[qI,Lb,Gt,GC,bj];unfold pD;by_cases c:t.kind=2
 .rw[aH c,if_pos c];rfl
 rw[aL c,if_neg c,bj];by_cases d:t.kind=3
 .rw[aH d,if_pos d];rfl
 rw[aL d,if_neg d,bj];by_cases f:t.kind=4
 .rw[aH f,if_pos f];rfl
 rw[aL f,if_neg f,bj];by_cases g:t.kind=5
 .rw[aH g,if_pos g];rfl
 rw[aL g,if_neg g,bj];by_cases b:t.kind=1
 .rw[aH b];simp[bd];by_cases h:t.s=ud
  .rw[aH (show t.s=[84,82,85,69] from h),if_pos ⟨b,h⟩];rfl
  rw[aL (show ¬t.s=[84,82,85,69] from h),if_neg (λq=>h q.2),bj];by_cases i:t.s=vp
  .rw[aH (show t.s=[70,65,76,83,69] from i),if_pos ⟨b,i⟩];rfl
  rw[aL (show ¬t.s=[70,65,76,83,69] from i),if_neg (λq=>i q.2),bj];by_cases j:t.s=hJ
  .rw[aH (show t.s=[78,85,76,76] from j),if_pos ⟨b,j⟩];rfl
  rw[aL (show ¬t.s=[78,85,76,76] from j),if_neg (λq=>j q.2),bj]
 .rw[aL b,if_neg (λq=>b q.1),if_neg (λq=>b q.1),if_neg (λq=>b q.1)];simp[bj]
def iI{α:Type}(F:fY->ae (α×fY)):Prop:=∀l n a,∃e,F (l,n,ab,a)=J (e,l,n,ab,a)
theorem Xj(rf:c8->ae c3):iI (qI rf):=λl n a=>by simp only[qI,Lb,xJ,bd];exact⟨_,rfl⟩
variable{L:Nat}
theorem axO{rf:c8->ae c3}{rec:aA->bR aq}(h:fT rf rec L):fT (qI rf) (iD rec) (L+1) where
 ok l n a e aC bz aW:=by
  cases l with
  |nil=>cases aW
  |cons t r=>
   simp[eo]at bz;rw[EY]at aW;rw[ags];cases g:pD t with
   |some v=>rw[g]at aW;cases aW;rfl
   |none=>
    rw[g]at aW;cases b:aV [40] (t::r)with
    |false=>rw[b]at aW;cases aW
    |true=>
     rw[b]at aW;simp[xZ,aN]at aW;simp[zD dM (uf b),bA,List.tail_cons];cases c:rec r with
     |error q=>rw[c]at aW;cases aW
     |ok x=>obtain⟨d,aQ⟩:=x;rw[c]at aW;simp only at aW;simp[h.ok r n a d aQ af c,bA];cases f:aV [41] aQ with|false=>rw[f]at aW;cases aW|true=>rw[f]at aW;cases aW;simp[zD dM (uf f),bA]
 fR l n a q bz aW:=by
  cases l with
  |nil=>cases aW;obtain⟨d,i⟩:=h.bad [] n n;refine⟨d,[],?_⟩;have e:qI rf ([],n,ai,a)=(cI ([[40]],[],n,ai,a)).bind λ(j,k,m,o)=>(rf (j,k,m,o)).bind λ(e,p,s,u,w)=>(cI ([[41]],p,s,u,w)).bind λ(dF,z2,y,z)=>J (e,dF,z2,y,z):=rfl;have hm:cY [[40]] ([]:aA) = .error []:=rfl;simp[e,zB dM hm,bA,hA,i,tC]
  |cons t r=>
   simp[eo]at bz;rw[EY]at aW;rw[ags];cases g:pD t with
   |some v=>rw[g]at aW;cases aW
   |none=>
    rw[g]at aW;cases b:aV [40] (t::r)with
    |false=>rw[b]at aW;cases aW;obtain⟨d,i⟩:=h.bad (t::r) n (hA n (t::r));simp only[zB dM (wO b),bA,i,tC];exact⟨_,_,rfl⟩
    |true=>
     rw[b]at aW;simp[xZ,aN]at aW;simp[zD dM (uf b),bA,List.tail_cons];cases c:rec r with
     |error alB=>rw[c]at aW;cases aW;obtain⟨d,aQ,i⟩:=h.fR r n a q af c;simp only[i,bA,tC];exact⟨_,_,rfl⟩
     |ok x=>obtain⟨d,aQ⟩:=x;rw[c]at aW;simp only at aW;simp[h.ok r n a d aQ af c,bA];cases f:aV [41] aQ with|true=>rw[f]at aW;cases aW|false=>rw[f]at aW;cases aW;simp only[zB dM (wO f),bA];exact⟨_,_,rfl⟩
 bad:=Xj rf
def jB(s:ak):aA->Nat×aA|[]=>(0,[])|t::r=>match aV s (t::r)with|true=>((jB s r).1+1,(jB s r).2)|false=>(0,t::r)
def pV(k:Int):Nat->aq->aq|0,e=>e|n+1,e=>pV k n (.mk k ⟨0,0,[]⟩ [] [e])
theorem Yj(k:Int):∀(n:Nat) (e:aq),pV k (n+1) e=fq k [pV k n e]
 |0,_=>rfl
 |n+1,_=>Yj k n _
theorem Jm{l:aA}(h:aV s l=ab):jB s l=((jB s l.tail).1+1,(jB s l.tail).2):=by cases l with|nil=>cases h|cons t r=>simp[jB,h]
theorem I1{l:aA}(h:aV s l=ai):jB s l=(0,l):=by cases l with|nil=>rfl|cons t r=>simp[jB,h]
theorem E4(s:ak):∀l:aA,(jB s l).1+I (jB s l).2=I l
 |[]=>rfl
 |t::r=>by have a:=E4 s r;cases h:aV s (t::r)with|true=>rw[Jm h];simp;omega|false=>rw[I1 h];simp
theorem Ew(s:ak)(k:Int)(part:aA->bR aq):∀l:aA,gd s k part l=match part (jB s l).2 with|.error q=>.error q|.ok (e,aC)=>.ok (pV k (jB s l).1 e,aC)
 |[]=>by simp[gd,jB];cases part []<;>rfl
 |t::r=>by
  cases h:aV s (t::r)with
  |true=>rw[Jm h];simp[gd,h,Ew s k part r];cases part (jB s r).2 with|error q=>rfl|ok x=>simp[Yj]
  |false=>rw[I1 h];simp[gd,h];cases part (t::r)<;>rfl
theorem MC{R:Type}{kx:aX->IJ->ae R}{s:ak}{d n a:Int}{dF z2:aq}{c:Int->aA->ae R}(h:∀i l,kx (.exit 0) (s,d,i,l,n,ai,a,dF,z2)=c i l):∀(k i:Nat) (l:aA),I l<k->i+I l<=1000000000 ->
  aI (λrec=>Ae rec kx) k (s,d,(i:Int),l,n,ai,a,dF,z2)=c ((i+(jB s l).1:Nat):Int) (jB s l).2
 |0,_,_,bf,_=>absurd bf (dY _)
 |k+1,i,l,bf,al=>by rw[c6];simp only[Ae,kd,bd];cases b:aV s l with|false=>simp only[fW b,bA,bj,h,I1 b,Nat.add_zero]|true=>have f:=ju b;have e:wr .i64 ((i:Int)+1)=((i+1:Nat):Int):=c9 (n:=i+1) af (by simp only[b1];omega);simp only[gk b,bA,bd,e,MC h k (i+1) l.tail af af,Jm b];rw[Nat.add_assoc,Nat.add_comm 1]
theorem MA{R:Type}{kx:aX->HX->ae R}{f:Int}{m:Nat}{l:aA}{n a:Int}{b:Bool}{dF z2:aq}{c:aq->ae R}(h:∀i e,kx (.exit 2) (f,(m:Int),i,l,n,b,a,dF,z2,e)=c e)(hm:m<=1000000000):∀(k i:Nat) (e:aq),i<=m->m-i<k ->
  aI (λrec=>wu rec kx) k (f,(m:Int),(i:Int),l,n,b,a,dF,z2,e)=c (pV f (m-i) e)
 |0,_,_,_,bf=>absurd bf (dY _)
 |k+1,i,e,bO,bf=>by
  rw[c6];by_cases d:i<m
  .have g:m-i=(m-(i+1))+1:=af
   simp only[wu,ea d,bd,c9 d (show b1 m by simp only[b1];omega),MA h hm k (i+1) _ af af,g,pV]
  .obtain rfl:i=m:=af
   simp only[wu,eu,bj,h,Nat.sub_self,pV]
theorem afM{rf:c8->ae c3}(h:iI (qI rf)):iI (ov rf):=λl n a=>by obtain⟨b,c⟩:=h l n a;refine⟨b,?_⟩;simp only[ov,Be,c6,Ae,ef,bj,c,bA,wu];rfl
theorem apv{rf:c8->ae c3}{part:aA->bR aq}(h:fT (qI rf) part L)(j:L<=1000000000):fT (ov rf) (gd [45] 15 part) L where
 ok l n a e aC bz aW:=by have f:=E4 [45] l;rw[Ew]at aW;simp only[ov,Be];refine(MC (s:=[45]) (i:=0) (λ_ _=>rfl) (I l+1) l af af).trans ?_;cases b:part (jB [45] l).2 with|error q=>rw[b]at aW;cases aW|ok x=>obtain⟨d,aQ⟩:=x;rw[b]at aW;cases aW;simp only[h.ok _ n a d aC af b,bA,h6];exact(MA (c:=λe=>J (e,aC,n,ai,a)) (λ_ _=>rfl) af (I l+1) 0 d (cL _) af).trans rfl
 fR l n a q bz aW:=by have f:=E4 [45] l;rw[Ew]at aW;cases b:part (jB [45] l).2 with|ok x=>rw[b]at aW;cases aW|error k=>rw[b]at aW;cases aW;obtain⟨d,aQ,g⟩:=h.fR _ n a q af b;refine⟨pV 15 (jB [45] l).1 d,aQ,?_⟩;simp only[ov,Be];refine(MC (s:=[45]) (i:=0) (λ_ _=>rfl) (I l+1) l af af).trans ?_;simp only[g,bA,h6];exact(MA (c:=λe=>J (e,aQ,n,ab,hA n q)) (λ_ _=>rfl) af (I l+1) 0 d (cL _) af).trans rfl
 bad:=afM h.bad
def re(S:U eR):U (ak×Int):=S.map λp=>(p.sign,p.kind)
theorem xD(l:aA):∀S:U eR,(re S).find? (λp=>aV p.1 l)=(S.find? λp=>aV p.sign l).map λp=>(p.sign,p.kind)
 |[]=>rfl
 |p::S=>by have a:=xD l S;simp only[re]at a;simp[re,List.find?_cons];cases aV p.sign l<;>rfl
theorem _K{R:Type}(rf:c8->ae c3){kx:aX->KY->ae R}{S:U eR}(f:b1 (I S)){l:aA}{n a:Int}{dF z2 e:aq}{c1:aq->aA->Int->Bool->Int->ae R}{c2:ae R}(g:∀i l n b a e,kx (.exit 1) (S,S,(I S:Int),i,l,n,b,a,dF,z2,e)=c1 e l n b a)(h:kx (.exit 2) (S,S,(I S:Int),(I S:Int),l,n,ai,a,dF,z2,e)=c2):∀(k i:Nat),i<=I S->I S-i<k ->
  aI (λm=>AS rf m kx) k (S,S,(I S:Int),(i:Int),l,n,ai,a,dF,z2,e)=match(S.drop i).find? (λp=>aV p.sign l)with|none=>c2|some p=>(ov rf (l.tail,n,ai,a)).bind λ(x,o,q,r,s)=>c1 (fq p.kind [e,x]) o q r s
 |0,_,_,bf=>absurd bf (dY _)
 |k+1,i,bO,bf=>by
  rw[c6];by_cases d:i<I S
  .rw[da d];simp only[AS,ea d,bd,cg d,ax,cR (c:=.pair) d,c9 d f,List.find?_cons];cases j:aV S[i].sign l with|true=>simp only[gk j,bA,bd,g];rfl|false=>simp only[fW j,bA,bj,_K rf f g h k (i+1) af af]
  .obtain rfl:i=I S:=af
   simp only[AS,eu,bj,h,tI,List.find?_nil]
theorem Tv{R:Type}{rf:c8->ae c3}{part:aA->bR aq}{L:Nat}(h:fT (ov rf) part L)(w:eL part){kx:aX->AM->ae R}{S:U eR}(y:b1 (I S)){n a:Int}{dF z2:aq}{c:aq->aA->Bool->Int->ae R}(ag:∀l b a e,kx (.exit 0) (S,l,n,b,a,dF,z2,e)=c e l b a)(K:Nat)(z:I S<K):∀(k m:Nat) (e:aq) (l:aA),I l<L->I l<k->I l<m ->
  match kB part (re S) m e l with|.ok (s,aC)=>aI (λrec=>AX K rf rec kx) k (S,l,n,ai,a,dF,z2,e)=c s aC ai a|.error q=>∃s aC,aI (λrec=>AX K rf rec kx) k (S,l,n,ai,a,dF,z2,e)=c s aC ab (hA n q)
 |0,_,_,_,_,bf,_=>absurd bf (dY _)
 |_,0,_,_,_,_,bf=>absurd bf (dY _)
 |k+1,m+1,e,l,bz,bf,hm=>by
  have t:=λ(rec:AM->ae R)=>_K (R:=R) rf (kx:=λe eA=>match eA with|(v5,_,_,_,v9,d,f,g,i,j,o)=>match e with
   |.exit 1=>rec (v5,v9,d,f,g,i,j,o)
   |.exit 2=>kx (.exit 0) (v5,v9,d,f,g,i,j,o)
   |_=>aj) y (l:=l) (n:=n) (a:=a) (dF:=dF) (z2:=z2) (e:=e) (c1:=λe l n b a=>rec (S,l,n,b,a,dF,z2,e)) (λ_ _ _ _ _ _=>rfl) rfl K 0 (cL _) af
  have hit:∀rec:AM->ae R,AX K rf rec kx (S,l,n,ai,a,dF,z2,e)=_:=t;have r:=xD l S;rw[c6];simp only[kB,hit,iW];cases u:S.find? (λp=>aV p.sign l)with
  |none=>rw[u]at r;simp only[Option.map_none]at r;rw[r];exact ag _ _ _ _
  |some p=>
   rw[u]at r;simp only[q5]at r;rw[r];have bO:aV p.sign l=true:=by simpa using List.find?_some u
   have a2:=ju bO;cases v:part l.tail with|error q=>obtain⟨de,aQ,aY⟩:=h.fR l.tail n a q af v;simp only[aY,bA];obtain⟨k,rfl⟩:∃fg,k=fg+1:=⟨k-1,by omega⟩;exact⟨fq p.kind [e,de],aQ,ag _ _ _ _⟩|ok x=>obtain⟨x,aQ⟩:=x;have bg:=w _ _ _ v;simp only[h.ok l.tail n a x aQ af v,bA];exact Tv h w y ag K z k m (fq p.kind [e,x]) aQ af af af
theorem YM{rf:c8->ae c3}(h:iI (ov rf)):iI (nI rf):=λl n a=>by obtain⟨b,c⟩:=h l n a;simp only[nI,w7,c,bA];exact⟨b,rfl⟩
theorem amv{rf:c8->ae c3}{part:aA->bR aq}(h:fT (ov rf) part L)(o:eL part):fT (nI rf) (hh part (re [eR.mk [42] 14])) L where
 ok l n a e aC bz bV:=by
  simp only[hh]at bV;cases k:part l with
  |error q=>rw[k]at bV;cases bV
  |ok x=>
   obtain⟨m,aQ⟩:=x;rw[k]at bV;have r:=o _ _ _ k;simp only at bV;have:=Tv h o (S:=[eR.mk [42] 14]) qu (n:=n) (a:=a) (dF:=aq.mk 0 ⟨0,0,[]⟩ [] []) (z2:=aq.mk 0 ⟨0,0,[]⟩ [] []) (c:=λe l b a=>J (e,l,n,b,a)) (kx:=λe p=>match p with|(_,d,f,g,i,_,_,j)=>match e with
    |.exit 0=>J (j,d,f,g,i)
    |_=>aj) (λ_ _ _ _=>rfl) (I l+3) (by simp) (I l+3) (I aQ+1) m aQ af af af
   rw[bV]at this;simp only[nI,w7,h.ok l n a m aQ bz k,bA];exact this
 fR l n a q bz bV:=by
  simp only[hh]at bV;cases k:part l with
  |error t=>rw[k]at bV;cases bV;obtain⟨m,aQ,s⟩:=h.fR l n a q bz k;simp only[nI,w7,s,bA];exact⟨m,aQ,rfl⟩
  |ok x=>
   obtain⟨m,aQ⟩:=x;rw[k]at bV;have r:=o _ _ _ k;simp only at bV;have:=Tv h o (S:=[eR.mk [42] 14]) qu (n:=n) (a:=a) (dF:=aq.mk 0 ⟨0,0,[]⟩ [] []) (z2:=aq.mk 0 ⟨0,0,[]⟩ [] []) (c:=λe l b a=>J (e,l,n,b,a)) (kx:=λe p=>match p with|(_,d,f,g,i,_,_,j)=>match e with
    |.exit 0=>J (j,d,f,g,i)
    |_=>aj) (λ_ _ _ _=>rfl) (I l+3) (by simp) (I l+3) (I aQ+1) m aQ af af af
   rw[bV]at this;simp only[nI,w7,h.ok l n a m aQ bz k,bA];exact this
 bad:=YM h.bad
theorem aiG{R:Type}(rf:c8->ae c3){kx:aX->H5->ae R}{S:U eR}(f:b1 (I S)){l:aA}{n a:Int}{dF z2 e:aq}{c1:aq->aA->Int->Bool->Int->ae R}{c2:ae R}(g:∀i l n b a e,kx (.exit 1) (S,S,(I S:Int),i,l,n,b,a,dF,z2,e)=c1 e l n b a)(h:kx (.exit 2) (S,S,(I S:Int),(I S:Int),l,n,ai,a,dF,z2,e)=c2):∀(k i:Nat),i<=I S->I S-i<k ->
  aI (λm=>zZ rf m kx) k (S,S,(I S:Int),(i:Int),l,n,ai,a,dF,z2,e)=match(S.drop i).find? (λp=>aV p.sign l)with|none=>c2|some p=>(nI rf (l.tail,n,ai,a)).bind λ(x,o,q,r,s)=>c1 (fq p.kind [e,x]) o q r s
 |0,_,_,bf=>absurd bf (dY _)
 |k+1,i,bO,bf=>by
  rw[c6];by_cases d:i<I S
  .rw[da d];simp only[zZ,ea d,bd,cg d,ax,cR (c:=.pair) d,c9 d f,List.find?_cons];cases j:aV S[i].sign l with|true=>simp only[gk j,bA,bd,g];rfl|false=>simp only[fW j,bA,bj,aiG rf f g h k (i+1) af af]
  .obtain rfl:i=I S:=af
   simp only[zZ,eu,bj,h,tI,List.find?_nil]
theorem Q8{R:Type}{rf:c8->ae c3}{part:aA->bR aq}{L:Nat}(h:fT (nI rf) part L)(w:eL part){kx:aX->BT->ae R}{S:U eR}(y:b1 (I S)){n a:Int}{dF z2:aq}{c:aq->aA->Bool->Int->ae R}(ag:∀l b a e,kx (.exit 0) (S,l,n,b,a,dF,z2,e)=c e l b a)(K:Nat)(z:I S<K):∀(k m:Nat) (e:aq) (l:aA),I l<L->I l<k->I l<m ->
  match kB part (re S) m e l with|.ok (s,aC)=>aI (λrec=>z7 K rf rec kx) k (S,l,n,ai,a,dF,z2,e)=c s aC ai a|.error q=>∃s aC,aI (λrec=>z7 K rf rec kx) k (S,l,n,ai,a,dF,z2,e)=c s aC ab (hA n q)
 |0,_,_,_,_,bf,_=>absurd bf (dY _)
 |_,0,_,_,_,_,bf=>absurd bf (dY _)
 |k+1,m+1,e,l,bz,bf,hm=>by
  have t:=λ(rec:BT->ae R)=>aiG (R:=R) rf (kx:=λe eA=>match eA with|(v5,_,_,_,v9,d,f,g,i,j,o)=>match e with
   |.exit 1=>rec (v5,v9,d,f,g,i,j,o)
   |.exit 2=>kx (.exit 0) (v5,v9,d,f,g,i,j,o)
   |_=>aj) y (l:=l) (n:=n) (a:=a) (dF:=dF) (z2:=z2) (e:=e) (c1:=λe l n b a=>rec (S,l,n,b,a,dF,z2,e)) (λ_ _ _ _ _ _=>rfl) rfl K 0 (cL _) af
  have hit:∀rec:BT->ae R,z7 K rf rec kx (S,l,n,ai,a,dF,z2,e)=_:=t;have r:=xD l S;rw[c6];simp only[kB,hit,iW];cases u:S.find? (λp=>aV p.sign l)with
  |none=>rw[u]at r;simp only[Option.map_none]at r;rw[r];exact ag _ _ _ _
  |some p=>
   rw[u]at r;simp only[q5]at r;rw[r];have bO:aV p.sign l=true:=by simpa using List.find?_some u
   have a2:=ju bO;cases v:part l.tail with|error q=>obtain⟨de,aQ,aY⟩:=h.fR l.tail n a q af v;simp only[aY,bA];obtain⟨k,rfl⟩:∃fg,k=fg+1:=⟨k-1,by omega⟩;exact⟨fq p.kind [e,de],aQ,ag _ _ _ _⟩|ok x=>obtain⟨x,aQ⟩:=x;have bg:=w _ _ _ v;simp only[h.ok l.tail n a x aQ af v,bA];exact Q8 h w y ag K z k m (fq p.kind [e,x]) aQ af af af
theorem aeQ{rf:c8->ae c3}(h:iI (nI rf)):iI (m6 rf):=λl n a=>by obtain⟨b,c⟩:=h l n a;simp only[m6,xn,c,bA];exact⟨b,rfl⟩
theorem apP{rf:c8->ae c3}{part:aA->bR aq}(h:fT (nI rf) part L)(o:eL part):fT (m6 rf) (hh part (re [eR.mk [43] 12,eR.mk [45] 13])) L where
 ok l n a e aC bz bV:=by
  simp only[hh]at bV;cases k:part l with
  |error q=>rw[k]at bV;cases bV
  |ok x=>
   obtain⟨m,aQ⟩:=x;rw[k]at bV;have r:=o _ _ _ k;simp only at bV;have:=Q8 h o (S:=[eR.mk [43] 12,eR.mk [45] 13]) qu (n:=n) (a:=a) (dF:=aq.mk 0 ⟨0,0,[]⟩ [] []) (z2:=aq.mk 0 ⟨0,0,[]⟩ [] []) (c:=λe l b a=>J (e,l,n,b,a)) (kx:=λe p=>match p with|(_,d,f,g,i,_,_,j)=>match e with
    |.exit 0=>J (j,d,f,g,i)
    |_=>aj) (λ_ _ _ _=>rfl) (I l+3) (by simp) (I l+3) (I aQ+1) m aQ af af af
   rw[bV]at this;simp only[m6,xn,h.ok l n a m aQ bz k,bA];exact this
 fR l n a q bz bV:=by
  simp only[hh]at bV;cases k:part l with
  |error t=>rw[k]at bV;cases bV;obtain⟨m,aQ,s⟩:=h.fR l n a q bz k;simp only[m6,xn,s,bA];exact⟨m,aQ,rfl⟩
  |ok x=>
   obtain⟨m,aQ⟩:=x;rw[k]at bV;have r:=o _ _ _ k;simp only at bV;have:=Q8 h o (S:=[eR.mk [43] 12,eR.mk [45] 13]) qu (n:=n) (a:=a) (dF:=aq.mk 0 ⟨0,0,[]⟩ [] []) (z2:=aq.mk 0 ⟨0,0,[]⟩ [] []) (c:=λe l b a=>J (e,l,n,b,a)) (kx:=λe p=>match p with|(_,d,f,g,i,_,_,j)=>match e with
    |.exit 0=>J (j,d,f,g,i)
    |_=>aj) (λ_ _ _ _=>rfl) (I l+3) (by simp) (I l+3) (I aQ+1) m aQ af af af
   rw[bV]at this;simp only[m6,xn,h.ok l n a m aQ bz k,bA];exact this
 bad:=aeQ h.bad
def tL:U eR:=[eR.mk [61] 6,eR.mk [60,62] 7,eR.mk [60] 8,eR.mk [60,61] 9,eR.mk [62] 10,eR.mk [62,61] 11]
theorem agk{R:Type}(rf:c8->ae c3){kx:aX->Ib->ae R}{S:U eR}(f:b1 (I S)){l:aA}{n a:Int}{z e:aq}{c1:aq->aA->Int->Bool->Int->ae R}{c2:ae R}(g:∀i l n b a x,kx .ret (S,(I S:Int),i,l,n,b,a,x,e)=c1 x l n b a)(h:kx (.exit 0) (S,(I S:Int),(I S:Int),l,n,ai,a,z,e)=c2):∀(k i:Nat),i<=I S->I S-i<k ->
  aI (λm=>zR rf m kx) k (S,(I S:Int),(i:Int),l,n,ai,a,z,e)=match(S.drop i).find? (λp=>aV p.sign l)with|none=>c2|some p=>(m6 rf (l.tail,n,ai,a)).bind λ(x,o,q,r,s)=>c1 (fq p.kind [e,x]) o q r s
 |0,_,_,bf=>absurd bf (dY _)
 |k+1,i,bO,bf=>by
  rw[c6];by_cases d:i<I S
  .rw[da d];simp only[zR,ea d,bd,cg d,ax,cR (c:=.pair) d,c9 d f,List.find?_cons];cases j:aV S[i].sign l with|true=>simp only[gk j,bA,bd,g];rfl|false=>simp only[fW j,bA,bj,agk rf f g h k (i+1) af af]
  .obtain rfl:i=I S:=af
   simp only[zR,eu,bj,h,tI,List.find?_nil]
def Cu(e:aq)(l:aA)(n a:Int):ae c3:=(cz ([73,83],l,n,ai,a)).bind λ(k,b,c,d,f)=>cond (!k) (J (e,b,c,d,f)) ((cz ([78,79,84],b,c,d,f)).bind λ(m,o,p,q,r)=>(cI ([[78,85,76,76]],o,p,q,r)).bind λ(g,h,i,j)=>cond (m) (J ((aq.mk 3 ⟨0,0,[]⟩ [] [(aq.mk 16 ⟨0,0,[]⟩ [] [e])]),g,h,i,j)) (J ((aq.mk 16 ⟨0,0,[]⟩ [] [e]),g,h,i,j)))
variable{e:aq}
theorem ahy(rf:c8->ae c3){l aQ:aA}{n a:Int}(h:m6 rf (l,n,ai,a)=J (e,aQ,n,ai,a)):qN rf (l,n,ai,a)=match tL.find? (λp=>aV p.sign aQ)with
  |none=>Cu e aQ n a
  |some p=>(m6 rf (aQ.tail,n,ai,a)).bind λ(x,c,d,f,g)=>J (fq p.kind [e,x],c,d,f,g):=by
 simp only[qN,Nm,h,bA,bj];exact agk rf (S:=tL) (by simp[b1,tL]) (z:=aq.mk 0 ⟨0,0,[]⟩ [] []) (c1:=λx l n b a=>J (x,l,n,b,a)) (c2:=Cu e aQ n a) (λ_ _ _ _ _ _=>rfl) rfl 10 0 (cL _) dM
theorem aB2{x:aq}{l:aA}(h:(match aV nu l with|true=>n5 e l|false=>.ok (e,l)) = .ok (x,aC))(n a:Int):Cu e l n a=J (x,aC,n,ai,a):=by
 simp only[Cu];cases c:aV nu l with
 |false=>rw[c]at h;cases h;simp[fW (s:=[73,83]) c,bA,kd,bd]
 |true=>
  rw[c]at h;simp[n5]at h;simp[gk (s:=[73,83]) c,bA,ef,bj];cases d:aV hi l.tail with
  |true=>rw[d]at h;simp[gk (s:=[78,79,84]) d,bA,bd];cases b:aV hJ l.tail.tail with|true=>simp only[b]at h;cases h;simp[zD dM (uf (s:=[78,85,76,76]) b),bA];rfl|false=>simp only[b]at h;cases h
  |false=>rw[d]at h;simp[fW (s:=[78,79,84]) d,bA,bj];cases b:aV hJ l.tail with|true=>simp only[b]at h;cases h;simp[zD dM (uf (s:=[78,85,76,76]) b),bA];rfl|false=>simp only[b]at h;cases h
theorem aCs{l q:aA}(h:(match aV nu l with|true=>n5 e l|false=>.ok (e,l)) = .error q)(n a:Int):∃x aC,Cu e l n a=J (x,aC,n,ab,hA n q):=by
 simp[Cu];cases d:aV nu l with
 |false=>rw[d]at h;cases h
 |true=>
  rw[d]at h;simp[n5]at h;simp[gk (s:=[73,83]) d,bA,ef,bj];cases c:aV hi l.tail with
  |true=>rw[c]at h;simp[gk (s:=[78,79,84]) c,bA,bd];cases b:aV hJ l.tail.tail with|true=>simp only[b]at h;cases h|false=>simp[b]at h;cases h;simp only[zB dM (wO (s:=[78,85,76,76]) b),bA];exact⟨_,_,rfl⟩
  |false=>rw[c]at h;simp[fW (s:=[78,79,84]) c,bA,bj];cases b:aV hJ l.tail with|true=>simp only[b]at h;cases h|false=>simp[b]at h;cases h;simp only[zB dM (wO (s:=[78,85,76,76]) b),bA];exact⟨_,_,rfl⟩
theorem aeX{rf:c8->ae c3}(h:iI (m6 rf)):iI (qN rf):=λl n a=>by obtain⟨b,c⟩:=h l n a;refine⟨b,?_⟩;simp[qN,Nm,c,bd]
theorem am5{rf:c8->ae c3}{part:aA->bR aq}(h:fT (m6 rf) part L)(i:eL part):fT (qN rf) (mW part) L where
 ok l n a e aC bz aW:=by
  simp[mW]at aW;cases b:part l with
  |error q=>rw[b]at aW;cases aW
  |ok x=>
   obtain⟨d,aQ⟩:=x;have j:=i _ _ _ b;have g:vC.find? (λp=>aV p.1 aQ)=(tL.find? λp=>aV p.sign aQ).map λp=>(p.sign,p.kind):=xD aQ tL;rw[b]at aW;simp[g]at aW;rw[ahy rf (h.ok l n a d aQ bz b)];cases f:tL.find? (λp=>aV p.sign aQ)with
   |none=>rw[f]at aW;exact aB2 aW n a
   |some p=>rw[f]at aW;simp[q5]at aW;have k:=h8 aQ;cases c:part aQ.tail with|error q=>rw[c]at aW;cases aW|ok y=>obtain⟨x,m⟩:=y;rw[c]at aW;cases aW;simp[h.ok aQ.tail n a x aC af c,bA]
 fR l n a q bz aW:=by
  simp[mW]at aW;cases b:part l with
  |error o=>rw[b]at aW;cases aW;obtain⟨d,aQ,r⟩:=h.fR l n a q bz b;refine⟨d,aQ,?_⟩;simp[qN,Nm,r,bA,bd]
  |ok x=>
   obtain⟨d,aQ⟩:=x;have j:=i _ _ _ b;have g:vC.find? (λp=>aV p.1 aQ)=(tL.find? λp=>aV p.sign aQ).map λp=>(p.sign,p.kind):=xD aQ tL;rw[b]at aW;simp[g]at aW;rw[ahy rf (h.ok l n a d aQ bz b)];cases f:tL.find? (λp=>aV p.sign aQ)with
   |none=>rw[f]at aW;exact aCs aW n a
   |some p=>rw[f]at aW;simp[q5]at aW;have k:=h8 aQ;cases c:part aQ.tail with|ok y=>rw[c]at aW;cases aW|error o=>rw[c]at aW;cases aW;obtain⟨t,m,s⟩:=h.fR aQ.tail n a q af c;simp only[s,bA];exact⟨_,_,rfl⟩
 bad:=aeX h.bad
theorem NP{R:Type}{kx:aX->Ic->ae R}{s:ak}{d n a:Int}{dF z2:aq}{c:Int->aA->ae R}(h:∀i l,kx (.exit 0) (s,d,i,l,n,ai,a,dF,z2)=c i l):∀(k i:Nat) (l:aA),I l<k->i+I l<=1000000000 ->
  aI (λrec=>Am rec kx) k (s,d,(i:Int),l,n,ai,a,dF,z2)=c ((i+(jB s l).1:Nat):Int) (jB s l).2
 |0,_,_,bf,_=>absurd bf (dY _)
 |k+1,i,l,bf,al=>by rw[c6];simp only[Am,kd,bd];cases b:aV s l with|false=>simp only[fW b,bA,bj,h,I1 b,Nat.add_zero]|true=>have f:=ju b;have e:wr .i64 ((i:Int)+1)=((i+1:Nat):Int):=c9 (n:=i+1) af (by simp only[b1];omega);simp only[gk b,bA,bd,e,NP h k (i+1) l.tail af af,Jm b];rw[Nat.add_assoc,Nat.add_comm 1]
theorem NH{R:Type}{kx:aX->Ia->ae R}{f:Int}{m:Nat}{l:aA}{n a:Int}{b:Bool}{dF z2:aq}{c:aq->ae R}(h:∀i e,kx (.exit 2) (f,(m:Int),i,l,n,b,a,dF,z2,e)=c e)(hm:m<=1000000000):∀(k i:Nat) (e:aq),i<=m->m-i<k ->
  aI (λrec=>wx rec kx) k (f,(m:Int),(i:Int),l,n,b,a,dF,z2,e)=c (pV f (m-i) e)
 |0,_,_,_,bf=>absurd bf (dY _)
 |k+1,i,e,bO,bf=>by
  rw[c6];by_cases d:i<m
  .have g:m-i=(m-(i+1))+1:=af
   simp only[wx,ea d,bd,c9 d (show b1 m by simp only[b1];omega),NH h hm k (i+1) _ af af,g,pV]
  .obtain rfl:i=m:=af
   simp only[wx,eu,bj,h,Nat.sub_self,pV]
theorem adG{rf:c8->ae c3}(h:iI (qN rf)):iI (ow rf):=λl n a=>by obtain⟨b,c⟩:=h l n a;refine⟨b,?_⟩;simp only[ow,Ba,c6,Am,ef,bj,c,bA,wx];rfl
theorem apI{rf:c8->ae c3}{part:aA->bR aq}(h:fT (qN rf) part L)(j:L<=1000000000):fT (ow rf) (gd [78,79,84] 3 part) L where
 ok l n a e aC bz aW:=by have f:=E4 [78,79,84] l;rw[Ew]at aW;simp only[ow,Ba];refine(NP (s:=[78,79,84]) (i:=0) (λ_ _=>rfl) (I l+1) l af af).trans ?_;cases b:part (jB [78,79,84] l).2 with|error q=>rw[b]at aW;cases aW|ok x=>obtain⟨d,aQ⟩:=x;rw[b]at aW;cases aW;simp only[h.ok _ n a d aC af b,bA,h6];exact(NH (c:=λe=>J (e,aC,n,ai,a)) (λ_ _=>rfl) af (I l+1) 0 d (cL _) af).trans rfl
 fR l n a q bz aW:=by have f:=E4 [78,79,84] l;rw[Ew]at aW;cases b:part (jB [78,79,84] l).2 with|ok x=>rw[b]at aW;cases aW|error k=>rw[b]at aW;cases aW;obtain⟨d,aQ,g⟩:=h.fR _ n a q af b;refine⟨pV 3 (jB [78,79,84] l).1 d,aQ,?_⟩;simp only[ow,Ba];refine(NP (s:=[78,79,84]) (i:=0) (λ_ _=>rfl) (I l+1) l af af).trans ?_;simp only[g,bA,h6];exact(NH (c:=λe=>J (e,aQ,n,ab,hA n q)) (λ_ _=>rfl) af (I l+1) 0 d (cL _) af).trans rfl
 bad:=adG h.bad
theorem aix{R:Type}(rf:c8->ae c3){kx:aX->II->ae R}{S:U eR}(f:b1 (I S)){l:aA}{n a:Int}{dF z2 e:aq}{c1:aq->aA->Int->Bool->Int->ae R}{c2:ae R}(g:∀i l n b a e,kx (.exit 1) (S,S,(I S:Int),i,l,n,b,a,dF,z2,e)=c1 e l n b a)(h:kx (.exit 2) (S,S,(I S:Int),(I S:Int),l,n,ai,a,dF,z2,e)=c2):∀(k i:Nat),i<=I S->I S-i<k ->
  aI (λm=>zM rf m kx) k (S,S,(I S:Int),(i:Int),l,n,ai,a,dF,z2,e)=match(S.drop i).find? (λp=>aV p.sign l)with|none=>c2|some p=>(ow rf (l.tail,n,ai,a)).bind λ(x,o,q,r,s)=>c1 (fq p.kind [e,x]) o q r s
 |0,_,_,bf=>absurd bf (dY _)
 |k+1,i,bO,bf=>by
  rw[c6];by_cases d:i<I S
  .rw[da d];simp only[zM,ea d,bd,cg d,ax,cR (c:=.pair) d,c9 d f,List.find?_cons];cases j:aV S[i].sign l with|true=>simp only[gk j,bA,bd,g];rfl|false=>simp only[fW j,bA,bj,aix rf f g h k (i+1) af af]
  .obtain rfl:i=I S:=af
   simp only[zM,eu,bj,h,tI,List.find?_nil]
theorem QX{R:Type}{rf:c8->ae c3}{part:aA->bR aq}{L:Nat}(h:fT (ow rf) part L)(w:eL part){kx:aX->Bw->ae R}{S:U eR}(y:b1 (I S)){n a:Int}{dF z2:aq}{c:aq->aA->Bool->Int->ae R}(ag:∀l b a e,kx (.exit 0) (S,l,n,b,a,dF,z2,e)=c e l b a)(K:Nat)(z:I S<K):∀(k m:Nat) (e:aq) (l:aA),I l<L->I l<k->I l<m ->
  match kB part (re S) m e l with|.ok (s,aC)=>aI (λrec=>Aj K rf rec kx) k (S,l,n,ai,a,dF,z2,e)=c s aC ai a|.error q=>∃s aC,aI (λrec=>Aj K rf rec kx) k (S,l,n,ai,a,dF,z2,e)=c s aC ab (hA n q)
 |0,_,_,_,_,bf,_=>absurd bf (dY _)
 |_,0,_,_,_,_,bf=>absurd bf (dY _)
 |k+1,m+1,e,l,bz,bf,hm=>by
  have t:=λ(rec:Bw->ae R)=>aix (R:=R) rf (kx:=λe eA=>match eA with|(v5,_,_,_,v9,d,f,g,i,j,o)=>match e with
   |.exit 1=>rec (v5,v9,d,f,g,i,j,o)
   |.exit 2=>kx (.exit 0) (v5,v9,d,f,g,i,j,o)
   |_=>aj) y (l:=l) (n:=n) (a:=a) (dF:=dF) (z2:=z2) (e:=e) (c1:=λe l n b a=>rec (S,l,n,b,a,dF,z2,e)) (λ_ _ _ _ _ _=>rfl) rfl K 0 (cL _) af
  have hit:∀rec:Bw->ae R,Aj K rf rec kx (S,l,n,ai,a,dF,z2,e)=_:=t;have r:=xD l S;rw[c6];simp only[kB,hit,iW];cases u:S.find? (λp=>aV p.sign l)with
  |none=>rw[u]at r;simp only[Option.map_none]at r;rw[r];exact ag _ _ _ _
  |some p=>
   rw[u]at r;simp only[q5]at r;rw[r];have bO:aV p.sign l=true:=by simpa using List.find?_some u
   have a2:=ju bO;cases v:part l.tail with|error q=>obtain⟨de,aQ,aY⟩:=h.fR l.tail n a q af v;simp only[aY,bA];obtain⟨k,rfl⟩:∃fg,k=fg+1:=⟨k-1,by omega⟩;exact⟨fq p.kind [e,de],aQ,ag _ _ _ _⟩|ok x=>obtain⟨x,aQ⟩:=x;have bg:=w _ _ _ v;simp only[h.ok l.tail n a x aQ af v,bA];exact QX h w y ag K z k m (fq p.kind [e,x]) aQ af af af
theorem afC{rf:c8->ae c3}(h:iI (ow rf)):iI (nS rf):=λl n a=>by obtain⟨b,c⟩:=h l n a;simp only[nS,xm,c,bA];exact⟨b,rfl⟩
theorem aoR{rf:c8->ae c3}{part:aA->bR aq}(h:fT (ow rf) part L)(o:eL part):fT (nS rf) (hh part (re [eR.mk [65,78,68] 4])) L where
 ok l n a e aC bz bV:=by
  simp only[hh]at bV;cases k:part l with
  |error q=>rw[k]at bV;cases bV
  |ok x=>
   obtain⟨m,aQ⟩:=x;rw[k]at bV;have r:=o _ _ _ k;simp only at bV;have:=QX h o (S:=[eR.mk [65,78,68] 4]) qu (n:=n) (a:=a) (dF:=aq.mk 0 ⟨0,0,[]⟩ [] []) (z2:=aq.mk 0 ⟨0,0,[]⟩ [] []) (c:=λe l b a=>J (e,l,n,b,a)) (kx:=λe p=>match p with|(_,d,f,g,i,_,_,j)=>match e with
    |.exit 0=>J (j,d,f,g,i)
    |_=>aj) (λ_ _ _ _=>rfl) (I l+3) (by simp) (I l+3) (I aQ+1) m aQ af af af
   rw[bV]at this;simp only[nS,xm,h.ok l n a m aQ bz k,bA];exact this
 fR l n a q bz bV:=by
  simp only[hh]at bV;cases k:part l with
  |error t=>rw[k]at bV;cases bV;obtain⟨m,aQ,s⟩:=h.fR l n a q bz k;simp only[nS,xm,s,bA];exact⟨m,aQ,rfl⟩
  |ok x=>
   obtain⟨m,aQ⟩:=x;rw[k]at bV;have r:=o _ _ _ k;simp only at bV;have:=QX h o (S:=[eR.mk [65,78,68] 4]) qu (n:=n) (a:=a) (dF:=aq.mk 0 ⟨0,0,[]⟩ [] []) (z2:=aq.mk 0 ⟨0,0,[]⟩ [] []) (c:=λe l b a=>J (e,l,n,b,a)) (kx:=λe p=>match p with|(_,d,f,g,i,_,_,j)=>match e with
    |.exit 0=>J (j,d,f,g,i)
    |_=>aj) (λ_ _ _ _=>rfl) (I l+3) (by simp) (I l+3) (I aQ+1) m aQ af af af
   rw[bV]at this;simp only[nS,xm,h.ok l n a m aQ bz k,bA];exact this
 bad:=afC h.bad
theorem adf{R:Type}(rf:c8->ae c3){kx:aX->Ji->ae R}{S:U eR}(f:b1 (I S)){l:aA}{n a:Int}{dF z2 e:aq}{c1:aq->aA->Int->Bool->Int->ae R}{c2:ae R}(g:∀i l n b a e,kx (.exit 1) (S,S,(I S:Int),i,l,n,b,a,dF,z2,e)=c1 e l n b a)(h:kx (.exit 2) (S,S,(I S:Int),(I S:Int),l,n,ai,a,dF,z2,e)=c2):∀(k i:Nat),i<=I S->I S-i<k ->
  aI (λm=>yO rf m kx) k (S,S,(I S:Int),(i:Int),l,n,ai,a,dF,z2,e)=match(S.drop i).find? (λp=>aV p.sign l)with|none=>c2|some p=>(nS rf (l.tail,n,ai,a)).bind λ(x,o,q,r,s)=>c1 (fq p.kind [e,x]) o q r s
 |0,_,_,bf=>absurd bf (dY _)
 |k+1,i,bO,bf=>by
  rw[c6];by_cases d:i<I S
  .rw[da d];simp only[yO,ea d,bd,cg d,ax,cR (c:=.pair) d,c9 d f,List.find?_cons];cases j:aV S[i].sign l with|true=>simp only[gk j,bA,bd,g];rfl|false=>simp only[fW j,bA,bj,adf rf f g h k (i+1) af af]
  .obtain rfl:i=I S:=af
   simp only[yO,eu,bj,h,tI,List.find?_nil]
theorem ND{R:Type}{rf:c8->ae c3}{part:aA->bR aq}{L:Nat}(h:fT (nS rf) part L)(w:eL part){kx:aX->zy->ae R}{S:U eR}(y:b1 (I S)){n a:Int}{dF z2:aq}{c:aq->aA->Bool->Int->ae R}(ag:∀l b a e,kx (.exit 0) (S,l,n,b,a,dF,z2,e)=c e l b a)(K:Nat)(z:I S<K):∀(k m:Nat) (e:aq) (l:aA),I l<L->I l<k->I l<m ->
  match kB part (re S) m e l with|.ok (s,aC)=>aI (λrec=>yK K rf rec kx) k (S,l,n,ai,a,dF,z2,e)=c s aC ai a|.error q=>∃s aC,aI (λrec=>yK K rf rec kx) k (S,l,n,ai,a,dF,z2,e)=c s aC ab (hA n q)
 |0,_,_,_,_,bf,_=>absurd bf (dY _)
 |_,0,_,_,_,_,bf=>absurd bf (dY _)
 |k+1,m+1,e,l,bz,bf,hm=>by
  have t:=λ(rec:zy->ae R)=>adf (R:=R) rf (kx:=λe eA=>match eA with|(v5,_,_,_,v9,d,f,g,i,j,o)=>match e with
   |.exit 1=>rec (v5,v9,d,f,g,i,j,o)
   |.exit 2=>kx (.exit 0) (v5,v9,d,f,g,i,j,o)
   |_=>aj) y (l:=l) (n:=n) (a:=a) (dF:=dF) (z2:=z2) (e:=e) (c1:=λe l n b a=>rec (S,l,n,b,a,dF,z2,e)) (λ_ _ _ _ _ _=>rfl) rfl K 0 (cL _) af
  have hit:∀rec:zy->ae R,yK K rf rec kx (S,l,n,ai,a,dF,z2,e)=_:=t;have r:=xD l S;rw[c6];simp only[kB,hit,iW];cases u:S.find? (λp=>aV p.sign l)with
  |none=>rw[u]at r;simp only[Option.map_none]at r;rw[r];exact ag _ _ _ _
  |some p=>
   rw[u]at r;simp only[q5]at r;rw[r];have bO:aV p.sign l=true:=by simpa using List.find?_some u
   have a2:=ju bO;cases v:part l.tail with|error q=>obtain⟨de,aQ,aY⟩:=h.fR l.tail n a q af v;simp only[aY,bA];obtain⟨k,rfl⟩:∃fg,k=fg+1:=⟨k-1,by omega⟩;exact⟨fq p.kind [e,de],aQ,ag _ _ _ _⟩|ok x=>obtain⟨x,aQ⟩:=x;have bg:=w _ _ _ v;simp only[h.ok l.tail n a x aQ af v,bA];exact ND h w y ag K z k m (fq p.kind [e,x]) aQ af af af
theorem agE{rf:c8->ae c3}(h:iI (nS rf)):iI (pT rf):=λl n a=>by obtain⟨b,c⟩:=h l n a;simp only[pT,xC,c,bA];exact⟨b,rfl⟩
theorem azW{rf:c8->ae c3}{part:aA->bR aq}(h:fT (nS rf) part L)(o:eL part):fT (pT rf) (hh part (re [eR.mk [79,82] 5])) L where
 ok l n a e aC bz bV:=by
  simp only[hh]at bV;cases k:part l with
  |error q=>rw[k]at bV;cases bV
  |ok x=>
   obtain⟨m,aQ⟩:=x;rw[k]at bV;have r:=o _ _ _ k;simp only at bV;have:=ND h o (S:=[eR.mk [79,82] 5]) qu (n:=n) (a:=a) (dF:=aq.mk 0 ⟨0,0,[]⟩ [] []) (z2:=aq.mk 0 ⟨0,0,[]⟩ [] []) (c:=λe l b a=>J (e,l,n,b,a)) (kx:=λe p=>match p with|(_,d,f,g,i,_,_,j)=>match e with
    |.exit 0=>J (j,d,f,g,i)
    |_=>aj) (λ_ _ _ _=>rfl) (I l+3) (by simp) (I l+3) (I aQ+1) m aQ af af af
   rw[bV]at this;simp only[pT,xC,h.ok l n a m aQ bz k,bA];exact this
 fR l n a q bz bV:=by
  simp only[hh]at bV;cases k:part l with
  |error t=>rw[k]at bV;cases bV;obtain⟨m,aQ,s⟩:=h.fR l n a q bz k;simp only[pT,xC,s,bA];exact⟨m,aQ,rfl⟩
  |ok x=>
   obtain⟨m,aQ⟩:=x;rw[k]at bV;have r:=o _ _ _ k;simp only at bV;have:=ND h o (S:=[eR.mk [79,82] 5]) qu (n:=n) (a:=a) (dF:=aq.mk 0 ⟨0,0,[]⟩ [] []) (z2:=aq.mk 0 ⟨0,0,[]⟩ [] []) (c:=λe l b a=>J (e,l,n,b,a)) (kx:=λe p=>match p with|(_,d,f,g,i,_,_,j)=>match e with
    |.exit 0=>J (j,d,f,g,i)
    |_=>aj) (λ_ _ _ _=>rfl) (I l+3) (by simp) (I l+3) (I aQ+1) m aQ af af af
   rw[bV]at this;simp only[pT,xC,h.ok l n a m aQ bz k,bA];exact this
 bad:=agE h.bad
theorem ajH(rf:c8->ae c3):iI (pT rf):=agE (afC (adG (aeX (aeQ (YM (afM (Xj rf)))))))
theorem aB8{rf:c8->ae c3}(h:fT rf gq L)(a:L+1<=1000000000):fT (pT rf) gq (L+1):=by have e:gq=yh gq 1:=funext ahW;have b:=xd (s:=[45]) (k:=15) (Og qF);have c:=rV (aM:=[([42],14)]) b;have d:=rV (aM:=[([43],12),([45],13)]) c;have f:eL (gd hi 3 _):=xd (P_ d);have g:=rV (aM:=[(uL,4)]) f;have:=azW (aoR (apI (am5 (apP (amv (apv (axO h) a) b) c) d) a) f) g;rw[e];exact this
theorem Nb:∀m:Nat,m<=1000000000->fT (aI (V:=c8) (R:=c3) pT (m+1)) gq m
 |0,_=>⟨λ_ _ _ _ _ h=>absurd h (dY _),λ_ _ _ _ h=>absurd h (dY _),ajH _⟩
 |m+1,h=>aB8 (Nb m af) h
theorem vt(b:L<=1000000000):fT jV gq L where
 ok l n a e aC bz aW:=(Nb (I l+1) af).ok l n a e aC af aW
 fR l n a q bz aW:=(Nb (I l+1) af).fR l n a q af aW
 bad l n a:=ajH _ l n a
end Go.Proofs.YtdelkmpkjibigaaGreatDoor
