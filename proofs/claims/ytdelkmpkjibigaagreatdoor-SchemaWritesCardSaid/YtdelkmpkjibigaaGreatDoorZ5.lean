/- Texts of the proof,one behind the other: Ix,En,Ep,Ac,Ad,Bw,Shj,Sj,Wr,Wt,Vc,Rv,Da,Db,Vt,Nf,Uq,Us,Ri,Ne,Lx,Ly,Lz. -/
import Derived.Test.YtdelkmpkjibigaaGreatDoorZ4
import Derived.Lib.Walk
import Derived.Lib.Strings
import Derived.Lib.Slices
import Derived.Lib.Builder
import Derived.Lib.UnsafeStr
import Derived.Lib.FrozenHead
import Derived.Laws.Externs
import Derived.Shelf.RegionOpenPlain
import Derived.Shelf.Strings.OnBuilder
set_option linter.all false
open List renaming length->I,range->hg,eq_nil_of_length_eq_zero->k0,append_nil->kq,getElem_mem->hf,mem_cons->hv,length_take->jL
open Option renaming some->J,none->aj
open Bool renaming true->ab,false->ai,true_and->jo,cond_decide->mq
open Decidable renaming decide->aa
open Nat renaming zero_le->cL
open Go.IntKind renaming signed->lu,bits->kp
open UInt8 renaming ofNat->eh
open Go.World renaming cell?->h7
open Ne renaming symm->hE
open Go renaming Value->aD,IntKind->df,Builtin->jq,Oper->bx,World->aT,TypeId->bD,maxLen->dr,run_underlying->dO
open Option.some renaming inj->ks
open Go.Lib renaming indexByte->lv
open Int renaming tmod->gZ,tdiv->f'
namespace Go
theorem hF{p:Prop}(h:p:=by simp[ dB];omega):p:=h
theorem od{p:Prop}(h:p:=by rw[d_ (by simp[dc];omega)];omega):p:=h
theorem jf{p:Prop}(h:p:=by simp[bY];omega):p:=h
theorem AA{p:Prop}(h:p:=by rw[l1,ag]at h;simp[fc]at h;omega):p:=h
theorem iP{p:Prop}(h:p:=by rw[iW]):p:=h
theorem KA{p:Prop}(h:p:=by rw[List.take_add_one,ic a,List.map_append];rfl):p:=h
theorem KB{p:Prop}(h:p:=by simp[List.length_map,jL,bY];omega):p:=h
theorem AB{p:Prop}(h:p:=by rw[H.p];exact follows):p:=h
theorem ake{p:Prop}(h:p:=by cases x with|nil=>exact absurd rfl h|cons b l=>rfl):p:=h
theorem Ee{p:Prop}(h:p:=by simp only[bY];omega):p:=h
theorem KI{p:Prop}(h:p:=by simp only[eo];omega):p:=h
theorem Ta{p:Prop}(h:p:=by simp[e7,eo,dB];omega):p:=h
theorem ako{p:Prop}(h:p:=by simp only[lK];cases e4 e 30<;>simp):p:=h
theorem AI{p:Prop}(h:p:=by rw[ag];rfl):p:=h
theorem KN{p:Prop}(h:p:=by simp[ c0];omega):p:=h
theorem Tg{p:Prop}(h:p:=by rw[jo]):p:=h
end Go
namespace Go
theorem nD{p:Prop}(h:p:=by rw[gn (bU _)];rfl):p:=h
theorem CM{p:Prop}(h:p:=by rw[aL af,gn af];rfl):p:=h
theorem adk{p:Prop}(h:p:=by obtain⟨k,a7,on,ay,names,l,rows,bT,has,cX,order,desc,bH⟩:=s;simp only at a;subst a;simp[hW,h1]at h;simp[h1,h]):p:=h
theorem adp{p:Prop}(h:p:=by simp only[bd,bj,tj,CO,BX,oC,List.flatten_nil,kq,hp]):p:=h
theorem adq{p:Prop}(h:p:=by rw[gn (bU _),List.take_length];cases g_ (I l:Int)<;>rfl):p:=h
theorem ai3{p:Prop}(h:p:=by cases aa (v.n=0)<;>cases aa (v.n=1)<;>cases s<;>simp_all):p:=h
end Go
namespace Go.Proofs.YtdelkmpkjibigaaGreatDoor
open Go.ft
def VL:bn:=⟨19,[(0,.sl .str ai),(1,.str),(4,.int .i64),(7,.int .i64),(8,.int .i64)],[],[],0,0,0,[],[]⟩
abbrev HP:=U ak×ak×Int×Int×Int
def z8{R:Type}(rec:HP->ae R)(kx:aX->HP->ae R)(v:HP):ae R:=match v with|(v,v1,v2,v3,v4)=>cond (aa (v4<v3)) (ax (a_ v4 (I v)) (cond (aa (v1=(at' .str v v4))) (kx .ret (v,v1,v4,v3,v4)) (rec (v,v1,v2,v3,(wr .i64 (v4+1)))))) (kx (.exit 0) (v,v1,v2,v3,v4))
def aia(R:Type)(k:Nat):aR R:=bs [] [] [(2,b8 k VL (z8))] []
def Yc(k:Nat)(x:aw [dX,.str]):ae (aw [an]):=match x with
 |(l,s)=>aI (λrec=>z8 rec (λe a=>match a with|(_,_,bb,_,_)=>match e with
  |.ret=>J bb
  |.exit 0=>J (-1)
  |_=>aj)) k (l,s,0,(I l:Int),0)
theorem anV(k:Nat):aU 90 [dX,.str] [an] (Yc k):=b6 (px:=aia _ k) (n:=1) Tryz.func90 rfl (λah H=>by have c:bP ah (aia (aw [an]) k):=br H bq bo bp;have a:=cd H c (b:=b0 Tryz.f90 0) (k:=k) (n:=0) (s:=VL) (step:=z8) (λ_ _ _ (_,_,_,_,_)=>by kernel_rfl) aK;exact⟨c,(b9 aK a)⟩) λ(_,_)=>by kernel_rfl
def SR(l:U ak)(s:ak):Int:=aO.idx s l 0
def R6:bt [dX,.str] [an]:=λx=>J (SR x.1 x.2)
theorem Wd{R:Type}{kx:aX->HP->ae R}{l:U ak}{s:ak}{c:Int->ae R}(b:b1 (I l))(f:∀(r:Int) (i:Int),kx .ret (l,s,r,(I l:Int),i)=c r)(d:∀q:Int,kx (.exit 0) (l,s,q,(I l:Int),(I l:Int))=c (-1)) :
  ∀(k i:Nat) (q:Int),i<=I l->I l-i<k->aI (λrec=>z8 rec kx) k (l,s,q,(I l:Int),(i:Int))=c (aO.idx s (l.drop i) i)
 |0,i,_,_,h=>absurd h (dY _)
 |k+1,i,q,e,h=>by
  rw[c6];by_cases a:i<I l
  .have g:aa ((i:Int)<(I l:Int))=true:=aH af;have dJ:((i+1:Nat):Int)=(i:Int)+1:=af
   simp only[z8,cg a,ax,cR (c:=.str) a,c9 a b,(Wd b f d k (i+1) q af af)];rw[da a,aO.idx,dJ];by_cases ag:s=l[i]
   .grind
   .grind
  .have e:i=I l:=af
   subst e;simp[z8,d,aO.idx]
theorem ayY:aU 90 [dX,.str] [an] R6:=.fin 0 anV λ(l,s) r al ag=>⟨I l+1,by simp only[R6,dN]at ag;rw[<-ag];simp only[Yc];exact Wd (c:=λq=>J q) al.1.1 (λ_ _=>rfl) (λ_=>rfl) (I l+1) 0 0 (cL _) af⟩
def aym(R:Type):aR R:=bs [(90,ba R6)] [] [] []
def PQ(x:aw [dX,.str]):ae (aw [.bool]):=match x with|(l,s)=>J (aa (0<=(SR l s)))
theorem anY:aU 35 [dX,.str] [.bool] (PQ):=b6 (px:=aym _) (n:=0) Tryz.func35 rfl (λ_ H=>⟨br H (c1 H ayY bq) bo bp,aK⟩) λ(_,_)=>by kernel_rfl
def uK(l:U ak)(s:ak):Bool:=(aa (0<=(SR l s)))
theorem amU(x:aw [dX,.str]):PQ x=J (uK x.1 x.2):=by
 first
  |exact rfl
  |simp only[PQ,uK,gb]
def RY:bt [dX,.str] [.bool]:=λx=>J (uK x.1 x.2)
theorem agN:aU 35 [dX,.str] [.bool] RY:=.er anY λx _ _ ag=>(amU x).trans ag
theorem ahM(l:U ak)(s:ak):uK l s=l.contains s:=by have e:uK l s=aa (0<=aO.idx s l 0):=rfl;rw[e,Bool.eq_iff_iff,fQ,aO.ald s l 0 (Int.le_refl 0)];simp
theorem EK(k:Int):(parts k=0/\(k=1\/k=2))\/(parts k=1/\(k=3\/k=15\/k=16))\/(parts k=2/\4<=k/\k<=14)\/parts k = -1:=by
 by_cases c:k=1
 .subst c;left;decide
 by_cases d:k=2
 .subst d;left;decide
 by_cases e:k=3
 .subst e;right;left;decide
 by_cases a:k=15
 .subst a;right;left;decide
 by_cases b:k=16
 .subst b;right;left;decide
 right;right;by_cases h : 4<=k/\k<=14
 .left;refine⟨?_,h⟩;have:k=4\/k=5\/k=6\/k=7\/k=8\/k=9\/k=10\/k=11\/k=12\/k=13\/k=14:=af
  rcases this with rfl|rfl|rfl|rfl|rfl|rfl|rfl|rfl|rfl|rfl|rfl<;>decide
 .right;have hm:lM oP k=[]:=by simp only[oP,lM];rw[aL af,aL af,aL af,aL af,aL af,aL af,aL af,aL af,aL af,aL af,aL af]
  simp[parts,hm,c,d,e,a,b]
variable{e:aq}
theorem AL{m:Int}(h:e4 e m=ab):(I e.l:Int)=parts e.kind/\n3 e.kind e.v e.name=ab/\mj e.l (wr .i64 (m-1))=true:=by rw[PV]at h;simp only[bN,fQ]at h;exact⟨h.1.1.2,h.1.2,h.2⟩
theorem O':lK e=0↔e4 e 30=true:=ako
def VJ:bn:=⟨26,[(0,.sl .b2 ai),(1,.sl .b2 ai),(4,.bool),(12,.int .i64),(13,.int .i64)],[],[],0,0,0,[],[]⟩
abbrev Ix:=U bk×U bk×Bool×Int×Int
def Ag{R:Type}(rec:Ix->ae R)(kx:aX->Ix->ae R)(v:Ix):ae R:=match v with|(v,v1,v2,v3,v4)=>cond (aa (v4<v3)) (ax (a_ v4 (I v)) (ax (a_ v4 (I v1)) (cond (!decide ((at' .b2 v v4)=(at' .b2 v1 v4))) (kx .ret (v,v1,ai,v3,v4)) (rec (v,v1,v2,v3,(wr .i64 (v4+1))))))) (kx (.exit 0) (v,v1,v2,v3,v4))
def ahi(R:Type)(k:Nat):aR R:=bs [] [] [(4,b8 k VJ (Ag))] []
def Xn(k:Nat)(x:aw [dR,dR]):ae (aw [.bool]):=match x with
 |(a,b)=>cond (!decide ((I a:Int)=(I b:Int))) (J ai) (aI (λrec=>Ag rec (λe c=>match c with|(_,_,bb,_,_)=>match e with
  |.ret=>J bb
  |.exit 0=>J ab
  |_=>aj)) k (a,b,ai,(I a:Int),0))
theorem apL(k:Nat):aU 165 [dR,dR] [.bool] (Xn k):=b6 (px:=ahi _ k) (n:=1) Tryz.func165 rfl (λah H=>by have c:bP ah (ahi (aw [.bool]) k):=br H bq bo bp;have a:=cd H c (b:=b0 Tryz.f165 0) (k:=k) (n:=0) (s:=VJ) (step:=Ag) (λ_ _ _ (_,_,_,_,_)=>by kernel_rfl) aK;exact⟨c,(b9 aK a)⟩) λ(_,_)=>by kernel_rfl
def Ky(a b:U bk):Bool:=aa (a=b)
def Sy:bt [dR,dR] [.bool]:=λx=>J (Ky x.1 x.2)
variable{R:Type}{c:Bool->ae R}
theorem awY{kx:aX->Ix->ae R}{a b:U bk}(f:b1 (I a))(l:I a=I b)(g:∀i,kx .ret (a,b,ai,(I a:Int),i)=c ai)(h:∀q i,kx (.exit 0) (a,b,q,(I a:Int),i)=c ab)(k:Nat)(m:I a<k) :
  aI (λrec=>Ag rec kx) k (a,b,ai,(I a:Int),0)=c (aa (a=b)):=by
 refine(hV (I a) (λi=>(a,b,ai,(I a:Int),(i:Int))) (λi=>c (aa (a.drop i=b.drop i))) (λi e rec j=>?_) (λrec=>?_) k 0 (cL _) af).trans qs
 .have d:i<I b:=af
  simp only[Ag,ea e,bd,cg e,cg d,ax,cR (c:=.b2) e,cR (c:=.b2) d,c9 e f,j,g,da e,da d,mL];by_cases ag:a[i]=b[i]
  .rw[aH ag];simp[ag]
  .rw[aL ag];simp[ag]
 .simp only[Ag,eu,bj,h];exact sU
theorem ay5:aU 165 [dR,dR] [.bool] Sy:=.fin 0 apL λ(a,b) r al ag=>⟨I a+1,by
 simp only[Sy,dN]at ag;rw[<-ag];simp only[Xn,Ky];by_cases d:I a=I b
 .rw[aH (show(I a:Int)=(I b:Int) by omega),ef,bj];exact awY (c:=J) al.1.1 d (λ_=>rfl) (λ_ _=>rfl) (I a+1) af
 .rw[aL (show ¬(I a:Int)=(I b:Int) by omega),aL (λh=>d (by rw[h]))];rfl⟩
def Xo:bn:=⟨26,[(0,.sl .str ai),(1,.sl .str ai),(4,.bool),(12,.int .i64),(13,.int .i64)],[],[],0,0,0,[],[]⟩
abbrev Il:=U ak×U ak×Bool×Int×Int
def Ad{R:Type}(rec:Il->ae R)(kx:aX->Il->ae R)(v:Il):ae R:=match v with|(v,v1,v2,v3,v4)=>cond (aa (v4<v3)) (ax (a_ v4 (I v)) (ax (a_ v4 (I v1)) (cond (!decide ((at' .str v v4)=(at' .str v1 v4))) (kx .ret (v,v1,ai,v3,v4)) (rec (v,v1,v2,v3,(wr .i64 (v4+1))))))) (kx (.exit 0) (v,v1,v2,v3,v4))
def agx(R:Type)(k:Nat):aR R:=bs [] [] [(4,b8 k Xo (Ad))] []
def Ww(k:Nat)(x:aw [dX,dX]):ae (aw [.bool]):=match x with
 |(a,b)=>cond (!decide ((I a:Int)=(I b:Int))) (J ai) (aI (λrec=>Ad rec (λe c=>match c with|(_,_,bb,_,_)=>match e with
  |.ret=>J bb
  |.exit 0=>J ab
  |_=>aj)) k (a,b,ai,(I a:Int),0))
theorem ao2(k:Nat):aU 166 [dX,dX] [.bool] (Ww k):=b6 (px:=agx _ k) (n:=1) Tryz.func166 rfl (λah H=>by have c:bP ah (agx (aw [.bool]) k):=br H bq bo bp;have a:=cd H c (b:=b0 Tryz.f166 0) (k:=k) (n:=0) (s:=Xo) (step:=Ad) (λ_ _ _ (_,_,_,_,_)=>by kernel_rfl) aK;exact⟨c,(b9 aK a)⟩) λ(_,_)=>by kernel_rfl
def DK(a b:U ak):Bool:=aa (a=b)
def Sf:bt [dX,dX] [.bool]:=λx=>J (DK x.1 x.2)
theorem axt{kx:aX->Il->ae R}{a b:U ak}(f:b1 (I a))(l:I a=I b)(g:∀i,kx .ret (a,b,ai,(I a:Int),i)=c ai)(h:∀q i,kx (.exit 0) (a,b,q,(I a:Int),i)=c ab)(k:Nat)(m:I a<k) :
  aI (λrec=>Ad rec kx) k (a,b,ai,(I a:Int),0)=c (aa (a=b)):=by
 refine(hV (I a) (λi=>(a,b,ai,(I a:Int),(i:Int))) (λi=>c (aa (a.drop i=b.drop i))) (λi e rec j=>?_) (λrec=>?_) k 0 (cL _) af).trans qs
 .have d:i<I b:=af
  simp only[Ad,ea e,bd,cg e,cg d,ax,cR (c:=.str) e,cR (c:=.str) d,c9 e f,j,g,da e,da d,mL];by_cases ag:a[i]=b[i]
  .rw[aH ag];simp[ag]
  .rw[aL ag];simp[ag]
 .simp only[Ad,eu,bj,h];exact sU
theorem azf:aU 166 [dX,dX] [.bool] Sf:=.fin 0 ao2 λ(a,b) r al ag=>⟨I a+1,by
 simp only[Sf,dN]at ag;rw[<-ag];simp only[Ww,DK];by_cases d:I a=I b
 .rw[aH (show(I a:Int)=(I b:Int) by omega),ef,bj];exact axt (c:=J) al.1.1 d (λ_=>rfl) (λ_ _=>rfl) (I a+1) af
 .rw[aL (show ¬(I a:Int)=(I b:Int) by omega),aL (λh=>d (by rw[h]))];rfl⟩
def Wm:bn:=⟨26,[(0,.sl .bool ai),(1,.sl .bool ai),(4,.bool),(12,.int .i64),(13,.int .i64)],[],[],0,0,0,[],[]⟩
abbrev IL:=U Bool×U Bool×Bool×Int×Int
def z1{R:Type}(rec:IL->ae R)(kx:aX->IL->ae R)(v:IL):ae R:=match v with|(v,v1,v2,v3,v4)=>cond (aa (v4<v3)) (ax (a_ v4 (I v)) (ax (a_ v4 (I v1)) (cond (!decide ((at' .bool v v4)=(at' .bool v1 v4))) (kx .ret (v,v1,ai,v3,v4)) (rec (v,v1,v2,v3,(wr .i64 (v4+1))))))) (kx (.exit 0) (v,v1,v2,v3,v4))
def aio(R:Type)(k:Nat):aR R:=bs [] [] [(4,b8 k Wm (z1))] []
def Ye(k:Nat)(x:aw [sd,sd]):ae (aw [.bool]):=match x with
 |(a,b)=>cond (!decide ((I a:Int)=(I b:Int))) (J ai) (aI (λrec=>z1 rec (λe c=>match c with|(_,_,bb,_,_)=>match e with
  |.ret=>J bb
  |.exit 0=>J ab
  |_=>aj)) k (a,b,ai,(I a:Int),0))
theorem anh(k:Nat):aU 167 [sd,sd] [.bool] (Ye k):=b6 (px:=aio _ k) (n:=1) Tryz.func167 rfl (λah H=>by have c:bP ah (aio (aw [.bool]) k):=br H bq bo bp;have a:=cd H c (b:=b0 Tryz.f167 0) (k:=k) (n:=0) (s:=Wm) (step:=z1) (λ_ _ _ (_,_,_,_,_)=>by kernel_rfl) aK;exact⟨c,(b9 aK a)⟩) λ(_,_)=>by kernel_rfl
def Kh(a b:U Bool):Bool:=aa (a=b)
def R1:bt [sd,sd] [.bool]:=λx=>J (Kh x.1 x.2)
theorem axI{kx:aX->IL->ae R}{a b:U Bool}(f:b1 (I a))(l:I a=I b)(g:∀i,kx .ret (a,b,ai,(I a:Int),i)=c ai)(h:∀q i,kx (.exit 0) (a,b,q,(I a:Int),i)=c ab)(k:Nat)(m:I a<k) :
  aI (λrec=>z1 rec kx) k (a,b,ai,(I a:Int),0)=c (aa (a=b)):=by
 refine(hV (I a) (λi=>(a,b,ai,(I a:Int),(i:Int))) (λi=>c (aa (a.drop i=b.drop i))) (λi e rec j=>?_) (λrec=>?_) k 0 (cL _) af).trans qs
 .have d:i<I b:=af
  simp only[z1,ea e,bd,cg e,cg d,ax,cR (c:=.bool) e,cR (c:=.bool) d,c9 e f,j,g,da e,da d,mL];by_cases ag:a[i]=b[i]
  .rw[aH ag];simp[ag]
  .rw[aL ag];simp[ag]
 .simp only[z1,eu,bj,h];exact sU
theorem ayo:aU 167 [sd,sd] [.bool] R1:=.fin 0 anh λ(a,b) r al ag=>⟨I a+1,by
 simp only[R1,dN]at ag;rw[<-ag];simp only[Ye,Kh];by_cases d:I a=I b
 .rw[aH (show(I a:Int)=(I b:Int) by omega),ef,bj];exact axI (c:=J) al.1.1 d (λ_=>rfl) (λ_ _=>rfl) (I a+1) af
 .rw[aL (show ¬(I a:Int)=(I b:Int) by omega),aL (λh=>d (by rw[h]))];rfl⟩
instance:DecidableEq ds:=λa b=>decidable_of_iff (a.name=b.name/\a.e=b.e) (by cases a;cases b;simp)
def M8(a b:ds):Bool:=aa (a.name=b.name)&&ld a.e b.e
theorem are(a b:ds):M8 a b=aa (a=b):=by cases a;cases b;simp[M8,xl]
def wG(a b:aP):Bool:=aa (a.kind=b.kind)&&aa (a.name=b.name)&&aa (a.on=b.on)&&aa (a.has=b.has)&&aa (a.bH=b.bH)&&aa (a.cX=b.cX)&&(aa (a.ay=b.ay)&&aa (a.names=b.names)&&aa (a.order=b.order)&&aa (a.desc=b.desc)&&aa (a.l=b.l))&&aa (a.rows=b.rows)&&aa (a.bT=b.bT)
theorem Xg(a b:aP):wG a b=ab↔a=b:=by
 cases a;cases b;simp[wG,aP.mk.injEq];constructor
 .grind
 .grind
def ZY:bn:=⟨32,[(1,.sl .set ai),(6,.bool),(15,.sl .set ai),(16,.int .i64),(17,.int .i64)],[(2,.fn 172 [])],[],40,40,600,[],[]⟩
abbrev LJ:=U ds×Bool×U ds×Int×Int
def Bv{R:Type}(rec:LJ->ae R)(kx:aX->LJ->ae R)(v:LJ):ae R:=match v with|(b,f,c,d,a)=>cond (aa (a<d)) (ax (a_ a (I c)) (ax (a_ a (I b)) (cond (aa (((at' .set c a).name)=((at' .set b a).name))) (cond (!(q0 (gv ((at' .set c a).e)) (gv ((at' .set b a).e)))) (kx .ret (b,ai,c,d,a)) (rec (b,f,c,d,(wr .i64 (a+1))))) (kx .ret (b,ai,c,d,a))))) (kx (.exit 0) (b,f,c,d,a))
def Ze:bn:=⟨32,[(1,.sl .expr ai),(6,.bool),(15,.sl .expr ai),(16,.int .i64),(17,.int .i64)],[(2,.fn 164 [])],[(0,.one (.bm .stmt)),(1,.one (.bm .stmt))],120,120,600,[],[]⟩
abbrev LA:=U aq×Bool×U aq×Int×Int×aP×aP
def Bj{R:Type}(rec:LA->ae R)(kx:aX->LA->ae R)(v:LA):ae R:=match v with|(b,e,c,d,a,cH,cK)=>cond (aa (a<d)) (ax (a_ a (I c)) (ax (a_ a (I b)) (cond (!(q0 (at' .expr c a) (at' .expr b a))) (kx .ret (b,ai,c,d,a,cH,cK)) (rec (b,e,c,d,(wr .i64 (a+1)),cH,cK))))) (kx (.exit 0) (b,e,c,d,a,cH,cK))
def _n:bn:=⟨32,[(1,.sl .exprs ai),(6,.bool),(15,.sl .exprs ai),(16,.int .i64),(17,.int .i64)],[(2,.fn 170 [])],[(0,.one (.bm .stmt)),(1,.one (.bm .stmt))],40,40,400,[],[]⟩
abbrev LN:=U (U aq)×Bool×U (U aq)×Int×Int×aP×aP
def BM{R:Type}(k:Nat)(rec:LN->ae R)(kx:aX->LN->ae R)(v:LN):ae R:=match v with
 |(c,f,b,d,a,b4,cv)=>cond (aa (a<d)) (ax (a_ a (I b)) (ax (a_ a (I c)) (cond (!decide ((I (at' .exprs b a):Int)=(I (at' .exprs c a):Int))) (kx .ret (c,ai,b,d,a,b4,cv)) (aI (λj=>Bj j (λe l=>match l with|(_,i,_,_,_,g,h)=>match e with
    |.ret=>cond (!i) (kx .ret (c,ai,b,d,a,g,h)) (rec (c,f,b,d,(wr .i64 (a+1)),g,h))
    |.exit 0=>rec (c,f,b,d,(wr .i64 (a+1)),g,h)
    |_=>aj)) k ((at' .exprs c a),ai,(at' .exprs b a),(I (at' .exprs b a):Int),0,b4,cv))))) (kx (.exit 0) (c,f,b,d,a,b4,cv))
def Zy:bn:=⟨32,[(1,.sl .expr ai),(6,.bool),(15,.sl .expr ai),(16,.int .i64),(17,.int .i64)],[(2,.fn 164 [])],[(0,.one (.bm .stmt)),(1,.one (.bm .stmt))],40,40,200,[],[]⟩
abbrev Lq:=U aq×Bool×U aq×Int×Int×aP×aP
def Bt{R:Type}(rec:Lq->ae R)(kx:aX->Lq->ae R)(v:Lq):ae R:=match v with|(v,v1,v2,v3,v4,w,w1)=>cond (aa (v4<v3)) (ax (a_ v4 (I v2)) (ax (a_ v4 (I v)) (cond (!(q0 (at' .expr v2 v4) (at' .expr v v4))) (kx .ret (v,ai,v2,v3,v4,w,w1)) (rec (v,v1,v2,v3,(wr .i64 (v4+1)),w,w1))))) (kx (.exit 0) (v,v1,v2,v3,v4,w,w1))
def ZX(R:Type)(k:Nat):aR R:=bs [(164,ba zf)] [] [(4,b8 k Zy (Bt))] []
def akD(R:Type)(k:Nat):aR R:=bs [(164,ba zf)] [] [(4,b8 k Ze (Bj))] []
noncomputable def YI(R:Type)(k:Nat):aR R:=bs [(168,ey 120 600 (akD R k) Tryz.f168)] [] [] []
noncomputable def Z1(R:Type)(k:Nat):aR R:=bs [(170,ey 80 600 (YI R k) Tryz.f170)] [] [(4,b8 k _n (BM k))] []
def YE(R:Type)(mh:Nat):aR R:=bs [(164,ba zf)] [] [] []
noncomputable def Zu(R:Type)(k:Nat):aR R:=bs [(172,ey 80 800 (YE R k) Tryz.f172)] [] [(4,b8 k ZY (Bv))] []
noncomputable def X3(R:Type)(k:Nat):aR R:=bs [(164,ba zf),(165,ba Sy),(166,ba Sf),(167,ba R1),(168,ey 40 200 (ZX R k) Tryz.f168),(169,ey 40 400 (Z1 R k) Tryz.f169),(171,ey 40 600 (Zu R k) Tryz.f171)] [] [] []
def TR(k:Nat)(x:aw [cG,cG]):ae (aw [.bool]):=match x with
 |(a,b)=>
 let y:=λ(UY:Bool)=>
  let v:=λ(m:Bool) (s:aP) (t:aP)=>
  let z:=λ(n:Bool)=>
   let w:=λ(o:Bool) (c:aP) (d:aP)=>
   cond (o) (
    cond (!decide ((I c.bT:Int)=(I d.bT:Int))) (
    J ai) (
    aI (λrec=>Bv rec (λe u=>match u with|(_,q,_,_,_)=>match e with
     |.ret=>
     J q
     |.exit 0=>
     J ab
     |_=>aj)) k (d.bT,ai,c.bT,(I c.bT:Int),0))) (
    J ai)
   cond (n) (
   cond (!decide ((I s.rows:Int)=(I t.rows:Int))) (
    w ai s t) (
    aI (λrec=>BM k rec (λe u=>match u with|(_,r,_,_,_,f,g)=>match e with
    |.ret=>w r f g
    |.exit 0=>w ab f g
    |_=>aj)) k (t.rows,ai,s.rows,(I s.rows:Int),0,s,t))) (
   w ai s t)
  cond (UY) (
   z m) (
   z ai)
  let q':=λ(UZ:Bool)=>
  let nq:=λ(U0:Bool)=>
   let n7:=λ(F':Bool)=>
   cond (F') (
    cond (!decide ((I a.l:Int)=(I b.l:Int))) (
    v ai a b) (
    aI (λrec=>Bt rec (λe u=>match u with|(_,v6,_,_,_,h,i)=>match e with
     |.ret=>
     v v6 h i
     |.exit 0=>
     v ab h i
     |_=>aj)) k (b.l,ai,a.l,(I a.l:Int),0,a,b))) (
    v ai a b)
   cond (U0) (
   n7 (Kh a.desc b.desc)) (
   n7 ai)
  cond (UZ) (
   nq (DK a.order b.order)) (
   nq ai)
  cond (Ky a.ay b.ay) (
  q' (DK a.names b.names)) (
  q' ai)
 let ih:=λ(p:Bool)=>
  let jn:=λ(p1:Bool)=>
  let j:=λ(p2:Bool)=>
   cond (p2) (
   cond (aa (a.bH=b.bH)) (
    y (q0 (gv a.cX) (gv b.cX))) (
    y ai)) (
   y ai)
  cond (p1) (
   j (aa (a.has=b.has))) (
   j ai)
  cond (p) (
  jn (aa (a.on=b.on))) (
  jn ai)
 cond (aa (a.kind=b.kind)) (
  ih (aa (a.name=b.name))) (
  ih ai)
theorem asB(k:Nat):aU 97 [cG,cG] [.bool] (TR k):=b6 (px:=X3 _ k) (n:=0) Tryz.func97 rfl (λah H=>by have f:bP ah (ZX (aw [.bool]) k):=br H (c1 H FG bq) bo bp;have a:=cd H f (b:=b0 Tryz.f168 0) (k:=k) (n:=0) (s:=Zy) (step:=Bt) (λ_ _ _ (_,_,_,_,_,_,_)=>by kernel_rfl) aK;have g:bP ah (akD (aw [.bool]) k):=br H (c1 H FG bq) bo bp;have c:=cd H g (b:=b0 Tryz.f168 0) (k:=k) (n:=0) (s:=Ze) (step:=Bj) (λ_ _ _ (_,_,_,_,_,_,_)=>by kernel_rfl) aK;have j:bP ah (YI (aw [.bool]) k):=br H (et (eS H g Tryz.func168 rfl (n:=1) (b9 aK c)) bq) bo bp;have h:bP ah (Z1 (aw [.bool]) k):=br H (et (eS H j Tryz.func170 rfl (n:=0) (aK)) bq) bo bp;have d:=cd H h (b:=b0 Tryz.f169 0) (k:=k) (n:=0) (s:=_n) (step:=BM k) (λ_ _ _ (_,_,_,_,_,_,_)=>by kernel_rfl) aK;have l:bP ah (YE (aw [.bool]) k):=br H (c1 H FG bq) bo bp;have i:bP ah (Zu (aw [.bool]) k):=br H (et (eS H l Tryz.func172 rfl (n:=0) (aK)) bq) bo bp;have e:=cd H i (b:=b0 Tryz.f171 0) (k:=k) (n:=0) (s:=ZY) (step:=Bv) (λ_ _ _ (_,_,_,_,_)=>by kernel_rfl) aK;have m:bP ah (X3 (aw [.bool]) k):=br H (c1 H FG (c1 H ay5 (c1 H azf (c1 H ayo (et (eS H f Tryz.func168 rfl (n:=1) (b9 aK a)) (et (eS H h Tryz.func169 rfl (n:=1) (b9 aK d)) (et (eS H i Tryz.func171 rfl (n:=1) (b9 aK e)) bq))))))) bo bp;exact⟨m,aK⟩) λ(_,_)=>by kernel_rfl
def SD(a b:aP):Bool:=wG a b
def afP:bt [cG,cG] [.bool]:=λx=>J (SD x.1 x.2)
variable{α:Type}
theorem HW[DecidableEq α](x y : α)(l m:U α):aa (x::l=y::m)=(aa (x=y)&&aa (l=m)):=by simp
variable{m:U aq}{s:aP}{t:aP}
theorem amK{kx:aX->Lq->ae R}{l:U aq}(d:b1 (I l))(hm:I l=I m)
  (e:∀i,kx .ret (m,ai,l,(I l:Int),i,s,t)=c ai) (f:∀q i,kx (.exit 0) (m,q,l,(I l:Int),i,s,t)=c ab) (k:Nat) (h:I l<k):aI (λrec=>Bt rec kx) k (m,ai,l,(I l:Int),0,s,t)=c (aa (l=m)):=by
 refine(hV (I l) (λi=>(m,ai,l,(I l:Int),(i:Int),s,t)) (λi=>c (aa (l.drop i=m.drop i))) (λi b rec g=>?_) (λrec=>?_) k 0 (cL _) af).trans qs
 .have a:i<I m:=af
  simp only[Bt,ea b,bd,cg b,cg a,ax,cR (c:=.expr) b,cR (c:=.expr) a,c9 b d,g,e,da b,da a,HW,q0,xl];cases aa (l[i]=m[i])<;>rfl
 .simp only[Bt,eu,bj,f];exact sU
theorem amL{kx:aX->LA->ae R}{l:U aq}(d:b1 (I l))(hm:I l=I m)
  (e:∀i,kx .ret (m,ai,l,(I l:Int),i,s,t)=c ai) (f:∀q i,kx (.exit 0) (m,q,l,(I l:Int),i,s,t)=c ab) (k:Nat) (h:I l<k):aI (λrec=>Bj rec kx) k (m,ai,l,(I l:Int),0,s,t)=c (aa (l=m)):=by
 refine(hV (I l) (λi=>(m,ai,l,(I l:Int),(i:Int),s,t)) (λi=>c (aa (l.drop i=m.drop i))) (λi b rec g=>?_) (λrec=>?_) k 0 (cL _) af).trans qs
 .have a:i<I m:=af
  simp only[Bj,ea b,bd,cg b,cg a,ax,cR (c:=.expr) b,cR (c:=.expr) a,c9 b d,g,e,da b,da a,HW,q0,xl];cases aa (l[i]=m[i])<;>rfl
 .simp only[Bj,eu,bj,f];exact sU
theorem amJ{kx:aX->LN->ae R}{l m:U (U aq)}(n:b1 (I l))(hm:I l=I m)(f:∀x,x∈l->b1 (I x))(k:Nat)(g:∀x,x∈l->List.length x<k)
  (j:∀i,kx .ret (m,ai,l,(I l:Int),i,s,t)=c ai) (o:∀q i,kx (.exit 0) (m,q,l,(I l:Int),i,s,t)=c ab) (r:I l<k):aI (λrec=>BM k rec kx) k (m,ai,l,(I l:Int),0,s,t)=c (aa (l=m)):=by
 refine(hV (I l) (λi=>(m,ai,l,(I l:Int),(i:Int),s,t)) (λi=>c (aa (l.drop i=m.drop i))) (λi d rec p=>?_) (λrec=>?_) k 0 (cL _) af).trans qs
 .have e:i<I m:=af
  simp only[BM,ea d,bd,cg d,cg e,ax,cR (c:=.exprs) d,cR (c:=.exprs) e,c9 d n,da d,da e,HW];by_cases a:I l[i]=I m[i]
  .rw[aH (show(I l[i]:Int)=(I m[i]:Int) by omega),ef,bj];rw[amL (c:=λb=>cond b (c (aa (l.drop (i+1)=m.drop (i+1)))) (c ai)) (f _ (hf d)) a (λ_=>j _) (λ_ _=>p) k (g _ (hf d))];cases aa (l[i]=m[i])<;>rfl
  .rw[aL (show ¬(I l[i]:Int)=(I m[i]:Int) by omega),aL (λh=>a (by rw[h])),j];rfl
 .simp only[BM,eu,bj,o];exact sU
theorem amM{kx:aX->LJ->ae R}{l m:U ds}(d:b1 (I l))(hm:I l=I m)
  (f:∀i,kx .ret (m,ai,l,(I l:Int),i)=c ai) (g:∀q i,kx (.exit 0) (m,q,l,(I l:Int),i)=c ab) (k:Nat) (j:I l<k):aI (λrec=>Bv rec kx) k (m,ai,l,(I l:Int),0)=c (aa (l=m)):=by
 refine(hV (I l) (λi=>(m,ai,l,(I l:Int),(i:Int))) (λi=>c (aa (l.drop i=m.drop i))) (λi b rec h=>?_) (λrec=>?_) k 0 (cL _) af).trans qs
 .have a:i<I m:=af
  simp only[Bv,ea b,bd,cg b,cg a,ax,cR (c:=.set) b,cR (c:=.set) a,c9 b d,h,f,da b,da a,HW,q0,<-are,M8,m1];cases aa (l[i].name=m[i].name)<;>cases ld l[i].e m[i].e<;>rfl
 .simp only[Bv,eu,bj,g];exact sU
theorem Nt[DecidableEq α]{l m:U α}(h:¬I l=I m):aa (l=m)=false:=aL λe=>h (by rw[e])
def Kk(s:aP):Nat:=I s.l+I s.rows+I s.bT+(s.rows.map List.length).sum
theorem aAf{l:U (U aq)}{x:U aq}(h:x∈l):I x<=(l.map List.length).sum:=by
 induction l with
 |nil=>cases h
 |cons y l a=>
  simp;rcases hv.1 h with rfl|h
  .omega
  .have:=a h;omega
theorem axX(k:Nat)(a b:aP)(al:qq a)(z:Kk a<k):TR k (a,b)=J (wG a b):=by
 have f:=z;simp[Kk]at f;simp -zeta only [TR,q0,xl,m1,Ky,DK,Kh];extract_lets g n j jn ih;have h:∀q,g q a b=J (q&&aa (a.bT=b.bT)):=λq=>by
  simp -zeta only [g];cases q with
  |false=>rfl
  |true=>
   rw[bd,jo];by_cases d:I a.bT=I b.bT
   .rw[aH (show(I a.bT:Int)=(I b.bT:Int) by omega),ef,bj];exact amM (c:=J) al.bT.1 d (λ_=>rfl) (λ_ _=>rfl) k af
   .rw[aL (show ¬(I a.bT:Int)=(I b.bT:Int) by omega),Nt d];rfl
 have e:∀p,n p=J (p&&(aa (a.ay=b.ay)&&aa (a.names=b.names)&&aa (a.order=b.order)&&aa (a.desc=b.desc)&&aa (a.l=b.l))&&aa (a.rows=b.rows)&&aa (a.bT=b.bT)):=λp=>by
  simp -zeta only [n];extract_lets i o r s;have m:∀q,i q a b=J (p&&q&&aa (a.rows=b.rows)&&aa (a.bT=b.bT)):=λq=>by
   simp -zeta only [i];extract_lets t;have u:∀q,t q=J (q&&aa (a.rows=b.rows)&&aa (a.bT=b.bT)):=λq=>by
    simp -zeta only [t];cases q with
    |false=>exact(h ai).trans rfl
    |true=>
     rw[bd,jo];by_cases d:I a.rows=I b.rows
     .rw[aH (show(I a.rows:Int)=(I b.rows:Int) by omega),ef,bj];refine(amJ (c:=λq=>g q a b) al.rows.1 d (λx ag=>(al.rows.2 x ag).1) k (λx ag=>by have:=aAf ag;omega) (λ_=>rfl) (λ_ _=>rfl) af).trans (h _)
     .rw[aL (show ¬(I a.rows:Int)=(I b.rows:Int) by omega),Nt d];exact(h ai).trans rfl
   cases p with|false=>exact(u ai).trans rfl|true=>exact(u q).trans Tg
  have v:∀q,o q=J (p&&(q&&aa (a.l=b.l))&&aa (a.rows=b.rows)&&aa (a.bT=b.bT)):=λq=>by
   simp -zeta only [o];cases q with
   |false=>exact m ai
   |true=>
    rw[bd,jo];by_cases d:I a.l=I b.l
    .rw[aH (show(I a.l:Int)=(I b.l:Int) by omega),ef,bj];exact(amK (c:=λq=>i q a b) al.l.1 d (λ_=>rfl) (λ_ _=>rfl) k af).trans (m _)
    .rw[aL (show ¬(I a.l:Int)=(I b.l:Int) by omega),Nt d];exact m ai
  have w:∀q,r q=J (p&&(q&&aa (a.desc=b.desc)&&aa (a.l=b.l))&&aa (a.rows=b.rows)&&aa (a.bT=b.bT)):=λq=>by simp -zeta only [r];cases q with|false=>exact v ai|true=>exact(v _).trans Tg
  have y:∀q,s q=J (p&&(q&&aa (a.order=b.order)&&aa (a.desc=b.desc)&&aa (a.l=b.l))&&aa (a.rows=b.rows)&&aa (a.bT=b.bT)):=λq=>by simp -zeta only [s];cases q with|false=>exact w ai|true=>exact(w _).trans Tg
  cases aa (a.ay=b.ay)with|false=>exact y ai|true=>exact(y _).trans (by simp)
 simp -zeta only [ih,jn,j,wG];cases aa (a.kind=b.kind)with
 |false=>exact(e ai).trans rfl
 |true=>
  cases aa (a.name=b.name)with
  |false=>exact(e ai).trans rfl
  |true=>
   cases aa (a.on=b.on)with
   |false=>exact(e ai).trans rfl
   |true=>
    cases aa (a.has=b.has)with
    |false=>exact(e ai).trans rfl
    |true=>cases aa (a.bH=b.bH)with|false=>exact(e ai).trans rfl|true=>exact(e _).trans (by simp)
theorem ax2:aU 97 [cG,cG] [.bool] afP:=.fin 0 asB λ(a,b) r al ag=>⟨Kk a+1,(axX (Kk a+1) a b al.1 af).trans ag⟩
instance:DecidableEq aP:=λa b=>decidable_of_iff (wG a b=ab) (Xg a b)
theorem avG(a b:aP):wG a b=aa (a=b):=by rw[Bool.eq_iff_iff,Xg,fQ]
def ayj(R:Type):aR R:=bs [] [] [] []
def Ov(x:aw [an]):ae (aw [.bool]):=match x with|n=>cond (aa (1<=n)) (J (aa (n<=100))) (J ai)
theorem avE:aU 100 [an] [.bool] (Ov):=b6 (px:=ayj _) (n:=0) Tryz.func100 rfl (λ_ H=>⟨br H bq bo bp,aK⟩) λ_=>by kernel_rfl
def g_(n:Int):Bool:=cond (aa (1<=n)) (aa (n<=100)) (ai)
theorem aun(x:aw [an]):Ov x=J (g_ x):=by
 first
  |exact rfl
  |simp only[Ov,g_,gb]
def CZ:bt [an] [.bool]:=λx=>J (g_ x)
theorem Iz:aU 100 [an] [.bool] CZ:=.er avE λx _ _ ag=>(aun x).trans ag
theorem Qk(n:Nat):g_ (n:Int)=(aa (1<=n)&&aa (n<=100)):=by simp only[g_];rw[show aa ((1:Int)<=(n:Int))=aa (1<=n) from hL.2 af,show aa ((n:Int)<=100)=aa (n<=100) from hL.2 af];cases aa (1<=n)<;>rfl
def aax:bn:=⟨26,[(0,.sl .str ai),(2,.bool),(5,.sl .str ai),(6,.int .i64),(7,.int .i64)],[],[],0,0,0,[],[]⟩
abbrev Ho:=U ak×Bool×U ak×Int×Int
def zh{R:Type}(rec:Ho->ae R)(kx:aX->Ho->ae R)(v:Ho):ae R:=match v with|(v,v1,v2,v3,a)=>cond (aa (a<v3)) (ax (a_ a (I v2)) (cond (!(eQ (at' .str v2 a))) (kx .ret (v,ai,v2,v3,a)) (ax (dP 0 a (I v)) (cond (uK (v.take (a:Int).toNat) (at' .str v2 a)) (kx .ret (v,ai,v2,v3,a)) (rec (v,v1,v2,v3,(wr .i64 (a+1)))))))) (kx (.exit 0) (v,v1,v2,v3,a))
def adR(R:Type)(k:Nat):aR R:=bs [(96,ba xK),(35,ba RY)] [] [(2,b8 k aax (zh))] []
def _S(k:Nat)(x:aw [dX]):ae (aw [.bool]):=match x with
 |l=>aI (λrec=>zh rec (λe a=>match a with|(v5,v6,_,_,_)=>match e with
  |.ret=>J v6
  |.exit 0=>J (aa ((I v5:Int)<=100))
  |_=>aj)) k (l,ai,l,(I l:Int),0)
theorem avL(k:Nat):aU 101 [dX] [.bool] (_S k):=b6 (px:=adR _ k) (n:=1) Tryz.func101 rfl (λah H=>by have c:bP ah (adR (aw [.bool]) k):=br H (c1 H FD (c1 H agN bq)) bo bp;have a:=cd H c (b:=b0 Tryz.f101 0) (k:=k) (n:=0) (s:=aax) (step:=zh) (λ_ _ _ (_,_,_,_,_)=>by kernel_rfl) aK;exact⟨c,(b9 aK a)⟩) λ_=>by kernel_rfl
def oA:U ak->U ak->Bool|_,[]=>ab|seen,s::r=>eQ s && !seen.contains s&&oA (seen++[s]) r
def hH(l:U ak):Bool:=oA [] l&&aa (I l<=100)
def De:bt [dX] [.bool]:=λx=>J (hH x)
theorem abt{l:U ak}{i:Nat}(a:i<I l):l.take (i+1)=l.take i++[l[i]]:=by simp_all
theorem ar7{kx:aX->Ho->ae R}{l:U ak}(b:b1 (I l))(d:∀i,kx .ret (l,ai,l,(I l:Int),i)=c ai)(e:∀q i,kx (.exit 0) (l,q,l,(I l:Int),i)=c ab)(k:Nat)(h:I l<k) :
  aI (λrec=>zh rec kx) k (l,ai,l,(I l:Int),0)=c (oA [] l):=by
 refine(hV (I l) (λi=>(l,ai,l,(I l:Int),(i:Int))) (λi=>c (oA (l.take i) (l.drop i))) (λi a rec f=>?_) (λrec=>?_) k 0 (cL _) af).trans (by rw[iW,List.take_zero])
 .have g:dP 0 (i:Int) (I l)=true:=by simp[dP];omega
  simp only[zh,ea a,cg a,cR (c:=.str) a,c9 a b,f,d,da a,oA,g,Int.toNat_natCast,ahM,abt a];cases eQ l[i]<;>cases (l.take i).contains l[i]<;>rfl
 .simp only[zh,eu,e];exact nD
theorem Qc:aU 101 [dX] [.bool] De:=.fin 0 avL λl r al ag=>⟨I l+1,by simp only[De,dN]at ag;rw[<-ag];simp only[_S];refine(ar7 (l:=l) (c:=λb=>cond b (J (aa ((I l:Int)<=100))) (J ai)) al.1 (λ_=>rfl) (λ_ _=>rfl) (I l+1) af).trans ?_;rw[show aa ((I l:Int)<=100)=aa (I l<=100) from hL.2 af,hH];cases oA [] l<;>rfl⟩
theorem VK:∀(l seen:U ak),oA seen l=ab↔(∀s,s∈l->eQ s=ab)/\l.Nodup/\∀s,s∈l->s∉seen
 |[],seen=>by simp[oA]
 |x::l,seen=>by
  simp only[oA,bN,Bool.not_eq_true',VK l (seen++[x]),not_or];rw[<-Bool.not_eq_true,List.contains_iff_mem];constructor
  .grind
  .grind
def _l:bn:=⟨19,[(0,.sl .expr ai),(4,.int .i64),(7,.int .i64),(8,.int .i64)],[(1,.fn 174 [])],[],80,80,400,[],[]⟩
abbrev LB:=U aq×Int×Int×Int
def BV{R:Type}(rec:LB->ae R)(kx:aX->LB->ae R)(v:LB):ae R:=match v with|(v,v1,v2,v3)=>cond (aa (v3<v2)) (ax (a_ v3 (I v)) (cond (!(e4 (at' .expr v v3) 30)) (kx .ret (v,v3,v2,v3)) (rec (v,v1,v2,(wr .i64 (v3+1)))))) (kx (.exit 0) (v,v1,v2,v3))
def akB(R:Type)(mh:Nat):aR R:=bs [(153,ba Fw)] [] [] []
noncomputable def Yz(R:Type)(k:Nat):aR R:=bs [(174,ey 120 600 (akB R k) Tryz.f174)] [] [(2,b8 k _l (BV))] []
noncomputable def Z9(R:Type)(k:Nat):aR R:=bs [(215,ey 80 400 (Yz R k) Tryz.f215)] [] [] []
noncomputable def abV(R:Type)(k:Nat):aR R:=bs [(173,ey 40 200 (Z9 R k) Tryz.f173)] [] [] []
def ZI(k:Nat)(x:aw [fU]):ae (aw [.bool]):=match x with
 |l=>cond (aa ((I l:Int)<=100)) (aI (λrec=>BV rec (λe a=>match a with|(_,v5,_,_)=>match e with
  |.ret=>J (!(aa (0<=v5)))
  |.exit 0=>J ab
  |_=>aj)) k (l,0,(I l:Int),0)) (J ai)
theorem as0(k:Nat):aU 102 [fU] [.bool] (ZI k):=b6 (px:=abV _ k) (n:=0) Tryz.func102 rfl (λah H=>by have d:bP ah (akB (aw [.bool]) k):=br H (c1 H Ha bq) bo bp;have c:bP ah (Yz (aw [.bool]) k):=br H (et (eS H d Tryz.func174 rfl (n:=0) (aK)) bq) bo bp;have a:=cd H c (b:=b0 Tryz.f215 0) (k:=k) (n:=0) (s:=_l) (step:=BV) (λ_ _ _ (_,_,_,_)=>by kernel_rfl) aK;have e:bP ah (Z9 (aw [.bool]) k):=br H (et (eS H c Tryz.func215 rfl (n:=1) (b9 aK a)) bq) bo bp;have f:bP ah (abV (aw [.bool]) k):=br H (et (eS H e Tryz.func173 rfl (n:=0) (aK)) bq) bo bp;exact⟨f,aK⟩) λ_=>by kernel_rfl
def k9(l:U aq):Bool:=aa (I l<=100)&&l.all λe=>e4 e 30
def IK:bt [fU] [.bool]:=λx=>J (k9 x)
theorem arP{kx:aX->LB->ae R}{l:U aq}(b:b1 (I l))(d:∀i:Nat,kx .ret (l,(i:Int),(I l:Int),(i:Int))=c ai)(f:∀q i,kx (.exit 0) (l,q,(I l:Int),i)=c ab)(k:Nat)(h:I l<k) :
  aI (λrec=>BV rec kx) k (l,0,(I l:Int),0)=c (l.all λe=>e4 e 30):=by
 refine(hV (I l) (λi=>(l,(0:Int),(I l:Int),(i:Int))) (λi=>c ((l.drop i).all λe=>e4 e 30)) (λi a rec g=>?_) (λrec=>?_) k 0 (cL _) af).trans iP
 .simp only[BV,ea a,cg a,cR (c:=.expr) a,c9 a b,g,d,da a,fk];cases e4 l[i] 30<;>rfl
 .simp only[BV,eu,f];exact nD
theorem Xr:aU 102 [fU] [.bool] IK:=.fin 0 as0 λl r al ag=>⟨I l+1,by
 simp only[IK,dN]at ag;rw[<-ag];simp only[ZI,k9];rw[show aa ((I l:Int)<=100)=aa (I l<=100) from hL.2 af];cases aa (I l<=100)with
 |false=>rfl
 |true=>rw[bd,jo];exact arP (l:=l) (c:=J) al.1 (λi=>by simp) (λ_ _=>rfl) (I l+1) af⟩
def aae:bn:=⟨19,[(0,.sl .exprs ai),(4,.int .i64),(7,.int .i64),(8,.int .i64)],[(1,.fn 176 [])],[],80,80,400,[],[]⟩
abbrev Hj:=U (U aq)×Int×Int×Int
def zE{R:Type}(rec:Hj->ae R)(kx:aX->Hj->ae R)(v:Hj):ae R:=match v with|(v,v1,v2,v3)=>cond (aa (v3<v2)) (ax (a_ v3 (I v)) (cond (aa ((I (at' .exprs v v3):Int)=0)) (kx .ret (v,v3,v2,v3)) (cond (!(k9 (at' .exprs v v3))) (kx .ret (v,v3,v2,v3)) (rec (v,v1,v2,(wr .i64 (v3+1))))))) (kx (.exit 0) (v,v1,v2,v3))
def akF(R:Type)(mh:Nat):aR R:=bs [(102,ba IK)] [] [] []
noncomputable def Za(R:Type)(k:Nat):aR R:=bs [(176,ey 120 600 (akF R k) Tryz.f176)] [] [(2,b8 k aae (zE))] []
noncomputable def aaj(R:Type)(k:Nat):aR R:=bs [(216,ey 80 400 (Za R k) Tryz.f216)] [] [] []
noncomputable def aeV(R:Type)(k:Nat):aR R:=bs [(100,ba CZ),(175,ey 40 200 (aaj R k) Tryz.f175)] [] [] []
def aaR(k:Nat)(x:aw [BY]):ae (aw [.bool]):=match x with
 |l=>cond (g_ (I l:Int)) (aI (λrec=>zE rec (λe a=>match a with|(_,v5,_,_)=>match e with
  |.ret=>J (!(aa (0<=v5)))
  |.exit 0=>J ab
  |_=>aj)) k (l,0,(I l:Int),0)) (J ai)
theorem aud(k:Nat):aU 103 [BY] [.bool] (aaR k):=b6 (px:=aeV _ k) (n:=0) Tryz.func103 rfl (λah H=>by have d:bP ah (akF (aw [.bool]) k):=br H (c1 H Xr bq) bo bp;have c:bP ah (Za (aw [.bool]) k):=br H (et (eS H d Tryz.func176 rfl (n:=0) (aK)) bq) bo bp;have a:=cd H c (b:=b0 Tryz.f216 0) (k:=k) (n:=0) (s:=aae) (step:=zE) (λ_ _ _ (_,_,_,_)=>by kernel_rfl) aK;have e:bP ah (aaj (aw [.bool]) k):=br H (et (eS H c Tryz.func216 rfl (n:=1) (b9 aK a)) bq) bo bp;have f:bP ah (aeV (aw [.bool]) k):=br H (c1 H Iz (et (eS H e Tryz.func175 rfl (n:=0) (aK)) bq)) bo bp;exact⟨f,aK⟩) λ_=>by kernel_rfl
def uk(r:U aq):Bool:= !decide (I r=0)&&k9 r
def wI(l:U (U aq)):Bool:=g_ (I l:Int)&&l.all uk
def Nf:bt [BY] [.bool]:=λx=>J (wI x)
theorem atE{kx:aX->Hj->ae R}{l:U (U aq)}(b:b1 (I l))(d:∀i:Nat,kx .ret (l,(i:Int),(I l:Int),(i:Int))=c ai)(e:∀q i,kx (.exit 0) (l,q,(I l:Int),i)=c ab)(k:Nat)(g:I l<k) :
  aI (λrec=>zE rec kx) k (l,0,(I l:Int),0)=c (l.all uk):=by
 refine(hV (I l) (λi=>(l,(0:Int),(I l:Int),(i:Int))) (λi=>c ((l.drop i).all uk)) (λi a rec f=>?_) (λrec=>?_) k 0 (cL _) af).trans iP
 .simp only[zE,ea a,cg a,ax,cR (c:=.exprs) a,c9 a b,f,d,da a,fk,uk];rw[show aa ((I l[i]:Int)=0)=aa (I l[i]=0) from hL.2 af];cases aa (I l[i]=0)<;>cases k9 l[i]<;>rfl
 .simp only[zE,eu,e];exact nD
theorem apM:aU 103 [BY] [.bool] Nf:=.fin 0 aud λl r al ag=>⟨I l+1,by
 simp only[Nf,dN]at ag;rw[<-ag];simp only[aaR,wI];cases g_ (I l:Int)with
 |false=>rfl
 |true=>rw[bd,jo];exact atE (l:=l) (c:=J) al.1 (λi=>by simp) (λ_ _=>rfl) (I l+1) af⟩
def anS(R:Type):aR R:=bs [(164,ba zf)] [] [] []
def N3(x:aw [bC]):ae (aw [.bool]):=match x with|e=>J (q0 e (aq.mk 0 ⟨0,0,[]⟩ [] []))
theorem awK:aU 177 [bC] [.bool] (N3):=b6 (px:=anS _) (n:=0) Tryz.func177 rfl (λ_ H=>⟨br H (c1 H FG bq) bo bp,aK⟩) λ_=>by kernel_rfl
def yJ(e:aq):Bool:=(q0 e (aq.mk 0 ⟨0,0,[]⟩ [] []))
theorem auT(x:aw [bC]):N3 x=J (yJ x):=by
 first
  |exact rfl
  |simp only[N3,yJ,gb]
def aik:bt [bC] [.bool]:=λx=>J (yJ x)
theorem anX:aU 177 [bC] [.bool] aik:=.er awK λx _ _ ag=>(auT x).trans ag
theorem axW(e:aq):yJ e=aa (e = .mk 0 ⟨0,0,[]⟩ [] []):=xl e _
def awA(R:Type):aR R:=bs [(177,ba aik),(153,ba Fw)] [] [] []
def TH(x:aw [cG]):ae (aw [.bool]):=match x with|s=>cond (!s.has) (J (yJ (gv s.cX))) (J (e4 (gv s.cX) 30))
theorem asZ:aU 105 [cG] [.bool] (TH):=b6 (px:=awA _) (n:=0) Tryz.func105 rfl (λ_ H=>⟨br H (c1 H anX (c1 H Ha bq)) bo bp,aK⟩) λ_=>by kernel_rfl
def mz(s:aP):Bool:=cond (!s.has) (yJ (gv s.cX)) (e4 (gv s.cX) 30)
theorem atW(x:aw [cG]):TH x=J (mz x):=by
 first
  |exact rfl
  |simp only[TH,mz,gb]
def aeZ:bt [cG] [.bool]:=λx=>J (mz x)
theorem au3:aU 105 [cG] [.bool] aeZ:=.er asZ λx _ _ ag=>(atW x).trans ag
theorem V8(s:aP):mz s=cond s.has (e4 s.cX 30) (aa (s.cX = .mk 0 ⟨0,0,[]⟩ [] [])):=by simp only[mz,m1,axW];cases s.has<;>rfl
def aab:bn:=⟨44,[(0,.sl .b2 ai),(2,.bool),(3,.sl .str ab),(6,.sl .b2 ai),(7,.int .i64),(8,.int .i64)],[],[],0,0,0,[],[]⟩
abbrev HA:=U bk×Bool×U ak×U bk×Int×Int
def zm{R:Type}(rec:HA->ae R)(kx:aX->HA->ae R)(v:HA):ae R:=match v with
 |(v,v1,v2,v3,v4,v5)=>
 cond (aa (v5<v4)) (
  ax (a_ v5 (I v3)) (
  let j:=λ(p:Bool)=>
   cond (p) (
   kx .ret (v,ai,v2,v3,v4,v5)) (
   cond (!decide (((at' .b2 v3 v5).ref)=[])) (
    cond (!(eQ ((at' .b2 v3 v5).ref))) (
    kx .ret (v,ai,v2,v3,v4,v5)) (
    ax (aa (I v2+1<=bY)) (
     rec (v,v1,(v2++[((at' .b2 v3 v5).name)]),v3,v4,(wr .i64 (v5+1)))))) (
    ax (aa (I v2+1<=bY)) (
    rec (v,v1,(v2++[((at' .b2 v3 v5).name)]),v3,v4,(wr .i64 (v5+1))))))
  cond (aa ((at' .b2 v3 v5).kind<2)) (
   j ab) (
   j (aa (5<(at' .b2 v3 v5).kind))))) (
  kx (.exit 0) (v,v1,v2,v3,v4,v5))
def afr(R:Type)(k:Nat):aR R:=bs [(96,ba xK),(100,ba CZ),(101,ba De)] [] [(3,b8 k aab (zm))] []
def abu(k:Nat)(x:aw [dR]):ae (aw [.bool]):=match x with
 |l=>aI (λrec=>zm rec (λe a=>match a with|(v6,bb,bK,_,_,_)=>match e with
  |.ret=>J bb
  |.exit 0=>cond (g_ (I v6:Int)) (J (hH bK)) (J ai)
  |_=>aj)) k (l,ai,[],l,(I l:Int),0)
theorem awv(k:Nat):aU 99 [dR] [.bool] (abu k):=b6 (px:=afr _ k) (n:=1) Tryz.func99 rfl (λah H=>by have c:bP ah (afr (aw [.bool]) k):=br H (c1 H FD (c1 H Iz (c1 H Qc bq))) bo bp;have a:=cd H c (b:=b0 Tryz.f99 0) (k:=k) (n:=0) (s:=aab) (step:=zm) (λ_ _ _ (_,_,_,_,_,_)=>by kernel_rfl) aK;exact⟨c,(b9 aK a)⟩) λ_=>by kernel_rfl
def jC(c:bk):Bool:=aa (2<=c.kind)&&aa (c.kind<=5)&&(aa (c.ref=[])||eQ c.ref)
def JI(l:U bk):ae Bool:=if I l<=1000000 then J (l.all jC&&g_ (I l:Int)&&hH (l.map (·.name)))else aj
def MX:bt [dR] [.bool]:=λx=>JI x
theorem asM{kx:aX->HA->ae R}{l:U bk}(j:I l<=1000000)(e:∀o i,kx .ret (l,ai,o,l,(I l:Int),i)=c ai)(f:∀q o i,kx (.exit 0) (l,q,o,l,(I l:Int),i)=cond (g_ (I l:Int)) (c (hH o)) (c ai))(k:Nat)(m:I l<k) :
  aI (λrec=>zm rec kx) k (l,ai,[],l,(I l:Int),0)=c (l.all jC&&g_ (I l:Int)&&hH (l.map (·.name))):=by
 have g:b1 (I l):=iC
 refine(hV (I l) (λi=>(l,ai,(l.take i).map (·.name),l,(I l:Int),(i:Int))) (λi=>c ((l.drop i).all jC&&g_ (I l:Int)&&hH (l.map (·.name)))) (λi a rec d=>?_) (λrec=>?_) k 0 (cL _) af).trans iP
 .have h:(l.take (i+1)).map (·.name)=(l.take i).map (·.name)++[l[i].name]:=KA
  have b:I ((l.take i).map (·.name))+1<=bY:=KB
  rw[h]at d;simp only[zm,ea a,bd,cg a,ax,cR (c:=.b2) a,c9 a g,d,e,da a,fk,jC,aH b];by_cases n:l[i].kind<2
  .grind
  .grind
 .simp only[zm,eu,bj,f];exact adq
theorem apR:aU 99 [dR] [.bool] MX:=.fin 0 awv λl r al ag=>⟨I l+1,by
 simp only[MX,JI]at ag;split at ag
 .rename_i h;rw[<-ag];simp only[abu];refine asM (l:=l) (c:=J) h (λ_ _=>rfl) (λ_ _ _=>?_) (I l+1) af;cases g_ (I l:Int)<;>rfl
 .cases ag⟩
def aap:bn:=⟨29,[(0,.sl .set ai),(2,.bool),(3,.sl .str ab),(6,.sl .set ai),(7,.int .i64),(8,.int .i64)],[],[],0,0,0,[],[]⟩
abbrev LR:=U ds×Bool×U ak×U ds×Int×Int
def zg{R:Type}(rec:LR->ae R)(kx:aX->LR->ae R)(v:LR):ae R:=match v with|(v,v1,v2,v3,v4,v5)=>cond (aa (v5<v4)) (ax (a_ v5 (I v3)) (cond (!(e4 (gv ((at' .set v3 v5).e)) 30)) (kx .ret (v,ai,v2,v3,v4,v5)) (ax (aa (I v2+1<=bY)) (rec (v,v1,(v2++[((at' .set v3 v5).name)]),v3,v4,(wr .i64 (v5+1))))))) (kx (.exit 0) (v,v1,v2,v3,v4,v5))
def afg(R:Type)(k:Nat):aR R:=bs [(153,ba Fw),(100,ba CZ),(101,ba De)] [] [(3,b8 k aap (zg))] []
def _Z(k:Nat)(x:aw [BZ]):ae (aw [.bool]):=match x with
 |l=>aI (λrec=>zg rec (λe a=>match a with|(v6,bb,bK,_,_,_)=>match e with
  |.ret=>J bb
  |.exit 0=>cond (g_ (I v6:Int)) (J (hH bK)) (J ai)
  |_=>aj)) k (l,ai,[],l,(I l:Int),0)
theorem auH(k:Nat):aU 104 [BZ] [.bool] (_Z k):=b6 (px:=afg _ k) (n:=1) Tryz.func104 rfl (λah H=>by have c:bP ah (afg (aw [.bool]) k):=br H (c1 H Ha (c1 H Iz (c1 H Qc bq))) bo bp;have a:=cd H c (b:=b0 Tryz.f104 0) (k:=k) (n:=0) (s:=aap) (step:=zg) (λ_ _ _ (_,_,_,_,_,_)=>by kernel_rfl) aK;exact⟨c,(b9 aK a)⟩) λ_=>by kernel_rfl
def Kd(l:U ds):ae Bool:=if I l<=1000000 then J (l.all (λx=>e4 x.e 30)&&g_ (I l:Int)&&hH (l.map (·.name)))else aj
def Nh:bt [BZ] [.bool]:=λx=>Kd x
theorem as9{kx:aX->LR->ae R}{l:U ds}(m:I l<=1000000)(f:∀o i,kx .ret (l,ai,o,l,(I l:Int),i)=c ai)(g:∀q o i,kx (.exit 0) (l,q,o,l,(I l:Int),i)=cond (g_ (I l:Int)) (c (hH o)) (c ai))(k:Nat)(n:I l<k) :
  aI (λrec=>zg rec kx) k (l,ai,[],l,(I l:Int),0)=c (l.all (λx=>e4 x.e 30)&&g_ (I l:Int)&&hH (l.map (·.name))):=by
 have h:b1 (I l):=iC
 refine(hV (I l) (λi=>(l,ai,(l.take i).map (·.name),l,(I l:Int),(i:Int))) (λi=>c ((l.drop i).all (λx=>e4 x.e 30)&&g_ (I l:Int)&&hH (l.map (·.name)))) (λi a rec d=>?_) (λrec=>?_) k 0 (cL _) af).trans iP
 .have j:(l.take (i+1)).map (·.name)=(l.take i).map (·.name)++[l[i].name]:=KA
  have b:I ((l.take i).map (·.name))+1<=bY:=KB
  rw[j]at d;simp only[zg,ea a,bd,cg a,ax,cR (c:=.set) a,c9 a h,d,f,da a,fk,aH b,m1];cases e4 l[i].e 30<;>rfl
 .simp only[zg,eu,bj,g];exact adq
theorem axU:aU 104 [BZ] [.bool] Nh:=.fin 0 auH λl r al ag=>⟨I l+1,by
 simp only[Nh,Kd]at ag;split at ag
 .rename_i h;rw[<-ag];simp only[_Z];refine as9 (l:=l) (c:=J) h (λ_ _=>rfl) (λ_ _ _=>?_) (I l+1) af;cases g_ (I l:Int)<;>rfl
 .cases ag⟩
def hP:aq:=.mk 0 ⟨0,0,[]⟩ [] []
def h1:aP:=⟨0,[],[],[],[],[],[],[],ai,hP,[],[],0⟩
def anD(R:Type):aR R:=bs [] [] [] []
def abI(x:aw [cG]):ae (aw [cG]):=match x with|s=>cond (aa (s.kind=1)) (J (aP.mk 0 [] s.on [] [] [] s.rows s.bT s.has (gv s.cX) s.order s.desc s.bH)) (cond (aa (s.kind=3)) (J (aP.mk 0 [] [] s.ay [] s.l s.rows s.bT s.has (gv s.cX) s.order s.desc s.bH)) (cond (aa (s.kind=5)) (J (aP.mk 0 [] s.on s.ay s.names s.l [] s.bT s.has (gv s.cX) s.order s.desc s.bH)) (cond (aa (s.kind=6)) (J (aP.mk 0 [] s.on s.ay s.names s.l s.rows [] ai (aq.mk 0 ⟨0,0,[]⟩ [] []) s.order s.desc s.bH)) (cond (aa (s.kind=7)) (J (aP.mk 0 [] s.on s.ay s.names s.l s.rows s.bT ai (aq.mk 0 ⟨0,0,[]⟩ [] []) s.order s.desc s.bH)) (cond (aa (s.kind=8)) (J (aP.mk 0 [] s.on s.ay s.names [] s.rows s.bT ai (aq.mk 0 ⟨0,0,[]⟩ [] []) [] [] 0)) (J (aP.mk 0 [] s.on s.ay s.names s.l s.rows s.bT s.has (gv s.cX) s.order s.desc s.bH)))))))
theorem aug:aU 98 [cG] [cG] (abI):=b6 (px:=anD _) (n:=0) Tryz.func98 rfl (λ_ H=>⟨br H bq bo bp,aK⟩) λ_=>by kernel_rfl
def hW(s:aP):aP:=if s.kind=1 then { s with kind:=0,name:=[],ay:=[],names:=[],l:=[] }else if s.kind=3 then { s with kind:=0,name:=[],on:=[],names:=[] }else if s.kind=5 then { s with kind:=0,name:=[],rows:=[] }else if s.kind=6 then { s with kind:=0,name:=[],bT:=[],has:=ai,cX:=hP }else if s.kind=7 then { s with kind:=0,name:=[],has:=ai,cX:=hP }else if s.kind=8 then { s with kind:=0,name:=[],l:=[],has:=ai,cX:=hP,order:=[],desc:=[],bH:=0 }else { s with kind:=0,name:=[] }
def MY:bt [cG] [cG]:=λx=>J (hW x)
theorem an3:aU 98 [cG] [cG] MY:=.er aug λs r al ag=>by
 simp only[MY,dN]at ag;rw[<-ag];simp only[abI,hW,m1,mq];split; · rfl
 split; · rfl
 split; · rfl
 split; · rfl
 split; · rfl
 split<;>rfl
def aub(R:Type):aR R:=bs [(96,ba xK),(98,ba MY),(97,ba afP),(99,ba MX),(100,ba CZ),(101,ba De),(102,ba IK),(103,ba Nf),(104,ba Nh),(105,ba aeZ)] [] [] []
def ZC(x:aw [cG]):ae (aw [an]):=match x with
 |s=>
 let e:=λ(p1:Bool)=>
  cond (aa (s.kind=1)) (
  let f:=λ(p2:Bool)=>
   let j:=λ(p3:Bool)=>
   cond (p3) (
    cond (hH s.names) (
    cond (!(k9 s.l)) (
     J 2) (
     J 0)) (
    J 2)) (
    J 2)
   cond (p2) (
   j (g_ (I s.names:Int))) (
   j ai)
  cond (p1) (
   (JI s.ay).bind λx=>
   f x) (
   f ai)) (
  cond (aa (s.kind=3)) (
   let g:=λ(n:Bool)=>
   cond (n) (
    cond (g_ (I s.names:Int)) (
    cond (!(hH s.names)) (
     J 2) (
     J 0)) (
    J 2)) (
    J 2)
   cond (p1) (
   g (eQ s.on)) (
   g ai)) (
   let h:=λ(a:Bool)=>
   cond (a) (
    cond (!p1) (
    J 2) (
    J 0)) (
    cond (aa (s.kind=5)) (
    cond (p1) (
     cond (!(wI s.rows)) (
     J 2) (
     J 0)) (
     J 2)) (
    cond (aa (s.kind=6)) (
     cond (p1) (
     (Kd s.bT).bind λo=>
      cond (o) (
      cond (!(mz s)) (
       J 2) (
       J 0)) (
      J 2)) (
     J 2)) (
     cond (aa (s.kind=7)) (
     cond (p1) (
      cond (!(mz s)) (
      J 2) (
      J 0)) (
      J 2)) (
     cond (aa (s.kind=8)) (
      let i:=λ(b:Bool)=>
      let k:=λ(c:Bool)=>
       let m:=λ(d:Bool)=>
       cond (d) (
        cond (aa ((I s.desc:Int)=(I s.order:Int))) (
        cond (!(aa ((-1)<=s.bH))) (
         J 2) (
         J 0)) (
        J 2)) (
        J 2)
       cond (c) (
       m (hH s.order)) (
       m ai)
      cond (b) (
       k (mz s)) (
       k ai)
      cond (p1) (
      i (k9 s.l)) (
      i ai)) (
      J 2)))))
   cond (aa (s.kind=2)) (
   h (aa (s.kind=2))) (
   h (aa (s.kind=4)))))
 cond (eQ s.name) (
  e (SD (hW s) (aP.mk 0 [] [] [] [] [] [] [] ai (aq.mk 0 ⟨0,0,[]⟩ [] []) [] [] 0))) (
  e ai)
theorem ar2:aU 39 [cG] [an] (ZC):=b6 (px:=aub _) (n:=0) Tryz.func39 rfl (λ_ H=>⟨br H (c1 H FD (c1 H an3 (c1 H ax2 (c1 H apR (c1 H Iz (c1 H Qc (c1 H Xr (c1 H apM (c1 H axU (c1 H au3 bq)))))))))) bo bp,aK⟩) λ_=>by kernel_rfl
def ei(s:aP):Bool:=eQ s.name&&aa (hW s=h1)&&(if s.kind=1 then s.ay.all jC&&g_ (I s.ay:Int)&&hH (s.ay.map (·.name))&&g_ (I s.names:Int)&&hH s.names&&k9 s.l else if s.kind=3 then eQ s.on&&g_ (I s.names:Int)&&hH s.names else if s.kind=2\/s.kind=4 then ab else if s.kind=5 then wI s.rows else if s.kind=6 then s.bT.all (λx=>e4 x.e 30)&&g_ (I s.bT:Int)&&hH (s.bT.map (·.name))&&mz s else if s.kind=7 then mz s else if s.kind=8 then k9 s.l&&mz s&&hH s.order&&aa (I s.desc=I s.order)&&aa (-1<=s.bH)else ai)
def ou(s:aP):ae Int:=if I s.ay<=1000000/\I s.bT<=1000000 then J (cond (ei s) 0 2)else aj
def Bu:bt [cG] [an]:=λx=>ou x
theorem Hk:aU 39 [cG] [an] Bu:=.er ar2 λs r al ag=>by
 simp only[Bu,ou]at ag;split at ag
 case isFalse=>cases ag
 rename_i h;rw[<-ag];have k:JI s.ay=J (s.ay.all jC&&g_ (I s.ay:Int)&&hH (s.ay.map (·.name))):=if_pos h.1;have m:Kd s.bT=J (s.bT.all (λx=>e4 x.e 30)&&g_ (I s.bT:Int)&&hH (s.bT.map (·.name))):=if_pos h.2;have n:SD (hW s) (aP.mk 0 [] [] [] [] [] [] [] ai (aq.mk 0 ⟨0,0,[]⟩ [] []) [] [] 0)=aa (hW s=h1):=avG _ _;have o:aa ((I s.desc:Int)=(I s.order:Int))=aa (I s.desc=I s.order):=hL.2 af;simp only[ZC,ei,k,m,n,o,bA];generalize eQ s.name=A;generalize aa (hW s=h1)=B;generalize (s.ay.all jC&&g_ (I s.ay:Int)&&hH (s.ay.map (·.name)))=C;generalize g_ (I s.names:Int)=D;generalize hH s.names=E;generalize k9 s.l=F;generalize eQ s.on=G;generalize wI s.rows=H;generalize (s.bT.all (λx=>e4 x.e 30)&&g_ (I s.bT:Int)&&hH (s.bT.map (·.name)))=gE;generalize mz s=k';generalize hH s.order=K;generalize aa (I s.desc=I s.order)=L;generalize aa (-1<=s.bH)=M;by_cases b:s.kind=1
 .rw[aH b,if_pos b];cases A<;>cases B<;>cases C<;>cases D<;>cases E<;>cases F<;>rfl
 rw[aL b,if_neg b];by_cases c:s.kind=3
 .rw[aH c,if_pos c];cases A<;>cases B<;>cases G<;>cases D<;>cases E<;>rfl
 rw[aL c,if_neg c];by_cases a:s.kind=2\/s.kind=4
 .rw[if_pos a];rcases a with j|j
  .rw[aH j];cases A<;>cases B<;>rfl
  .rw[aH j,aL (show ¬s.kind=2 by omega)];cases A<;>cases B<;>rfl
 rw[if_neg a,aL (show ¬s.kind=2 by omega),aL (show ¬s.kind=4 by omega)];by_cases d:s.kind=5
 .rw[aH d,if_pos d];cases A<;>cases B<;>cases H<;>rfl
 rw[aL d,if_neg d];by_cases f:s.kind=6
 .rw[aH f,if_pos f];cases A<;>cases B<;>cases gE<;>cases k'<;>rfl
 rw[aL f,if_neg f];by_cases g:s.kind=7
 .rw[aH g,if_pos g];cases A<;>cases B<;>cases k'<;>rfl
 rw[aL g,if_neg g];by_cases i:s.kind=8
 .rw[aH i,if_pos i];cases A<;>cases B<;>cases F<;>cases k'<;>cases K<;>cases L<;>cases M<;>rfl
 rw[aL i,if_neg i];cases A<;>cases B<;>rfl
open Go.RowKit
def CL:U Nat:=[97,99]
abbrev aj5:TypeId:=97
theorem ahc:(Tryz.prog.info? aj5).map (·.size)=J 2:=bW
theorem azN(T:bD)(h:T∈CL):liesAt Tryz.prog Tryz.prog.depth T (2 / Tryz.prog.cellsOf T) 0 aj5 1=true:=by simp[CL]at h;rcases h with rfl|rfl<;>kernel_rfl
set_option maxRecDepth 100000 in
theorem azD(b:Nat)(w:aT)(d:w.cell? ⟨b,0,aj⟩=J (.pointer (J ⟨b,0,aj⟩))) :
  Calls Tryz.prog 178 #[.pointer (J ⟨b,0,aj⟩)] w λe w'=>e = .returned (.tuple #[])/\w' = w:=by
 obtain⟨j,c,_⟩:=Option.map_eq_some_iff.1 ahc;have a:=follows;have t1:=Tryz.underlying95;have f:=dO (P:=Tryz.prog) t1;have g:=dO (P:=Tryz.prog) Tryz.underlying110
 go_enter Tryz.func178,Tryz.ntmps178
 go_wp2
 rw[Lib.run_neq_ptr_same w _ t1 c]
 go_wp2
 go_end0
 exact⟨rfl,rfl⟩
set_option maxRecDepth 100000 in
theorem ap9(b:Nat)(T:bD)(g:T∈CL)(w:aT)(i:w.cell? ⟨b,0,aj⟩=J (.pointer aj))(a:w.shape? b=J (T,2))(h:w.frozen? ⟨b,0,aj⟩=ai) :
  Calls Tryz.prog 178 #[.pointer (J ⟨b,0,aj⟩)] w λe w'=>e = .returned (.tuple #[])/\w' = w.setCell ⟨b,0,aj⟩ (.pointer (J ⟨b,0,aj⟩)):=by
 obtain⟨j,f,c⟩:=Option.map_eq_some_iff.1 ahc;have d:=follows;have t1:=Tryz.underlying95;have t3:=Tryz.underlying264;have k:=dO (P:=Tryz.prog) t1;have l:=dO (P:=Tryz.prog) Tryz.underlying110;have m:=dO (P:=Tryz.prog) t3
 go_enter Tryz.func178,Tryz.ntmps178
 go_wp2
 rw[Lib.run_to_unsafe w ⟨b,0,aj⟩ t1 t3 f (by rw[c];decide) a (Nat.zero_lt_succ 1)];simp;rw[bx.upon_value]
 go_wp2
 rw[run_callFunc_extern Tryz.func217 bW bW bW (e:=Extern.AbiNoEscape.same) bW];rw[Lib.run_noEscape];simp;rw[bx.upon_value]
 go_wp2
 rw[Lib.run_from_unsafe w ⟨b,0,aj⟩ t3 t1 f a (azN T g)];simp;rw[bx.upon_value]
 go_wp2
 go_end0
 exact⟨rfl,rfl⟩
theorem axB:av.Enters Tryz.prog 178:=av.enters_of Tryz.func178 rfl bW
theorem aCo:∀T,T∈CL->∀(b:Nat) (w:aT) (a v:aD),w.heap[b]? = J (.cells #[a,v] T (0,0))->(a = .pointer aj\/a = .pointer (J ⟨b,0,aj⟩))->Calls Tryz.prog 178 #[.pointer (J ⟨b,0,aj⟩)] w λe w'=>e = .returned (.tuple #[])/\(w' = w\/w' = w.setCell ⟨b,0,aj⟩ (.pointer (J ⟨b,0,aj⟩))):=by
 intro T d b w a v c f;have dD:w.cell? ⟨b,0,aj⟩=J a:=by simp[h7,c]
 rcases f with rfl|rfl
 .refine(ap9 b T d w dD (by simp[aT.shape?,c]) (by simp[aT.frozen?,c])).mono ?_;rintro e w' ⟨rfl,rfl⟩;exact⟨rfl,.inr rfl⟩
 .refine(azD b w dD).mono ?_;rintro e w' ⟨rfl,rfl⟩;exact⟨rfl,.inl rfl⟩
theorem atP(w:aT)(g n k:Nat):bM (λb i=>b=g/\k<=i) w (w.freeze ⟨g,0,aj⟩ n):=by
 unfold aT.freeze;split
 .exact bM.refl _ _
 .have c:∀(q:Nat),q≠g->∀F:Obj->Obj,(w.heap.modify g F)[q]? = w.heap[q]? :=λq l F=>by rw[Array.getElem?_modify,if_neg (hE l)]
  refine⟨rfl,rfl,rfl,by simp,λq _ j=>c q (λe=>j k ⟨e,bU _⟩) _,λb i v d _=>?_,λb cs t f al=>?_⟩
  .by_cases h:b=g
   .subst h;unfold h7 at d ⊢;simp at d ⊢;cases m:w.heap[b]? with|none=>rw[m]at d;cases d|some o=>grind
   .rw[aT.cell?_of_block (a:=⟨b,i,aj⟩) (c b h _)];exact d
  .grind
theorem cellsByte:Tryz.prog.cellsOf 5=1:=bW
set_option maxHeartbeats 2000000 in
set_option maxRecDepth 100000 in
theorem aeG(b g cap n:Nat)(w:aT)(s:ByteArray)(a:cap≠0)(ao:w.cell? ⟨b,1,aj⟩=J (.slice (J ⟨g,0,aj⟩) n cap))(d:(jq.unsafeString_ #[190,3] 9 #[.pointer (J ⟨g,0,aj⟩),.int .i64 n]).run Tryz.prog w.drew = .ok (.string s) (w.drew.freeze ⟨g,0,aj⟩ n)) :
  Calls Tryz.prog 50 #[.pointer (J ⟨b,0,aj⟩)] w λe w'=>e = .returned (.string s)/\w' = w.drew.freeze ⟨g,0,aj⟩ n:=by
 have c1:w.drew.cell? ⟨b,1,aj⟩=J (.slice (J ⟨g,0,aj⟩) n cap):=ao;have f:(jq.unsafeSliceData_ #[28] 190 #[.slice (J ⟨g,0,aj⟩) n cap]).run Tryz.prog w.drew = .ok (.pointer (J ⟨g,0,aj⟩)) w.drew:=Lib.run_unsafeSliceData_row _ _ _ _ _ _ a;clear a;have c:=follows;have t1:=Tryz.underlying95;have t3:=Tryz.underlying28;have h:=Tryz.underlying3;have i:=dO (P:=Tryz.prog) t1;have j:=dO (P:=Tryz.prog) Tryz.underlying110;have k:=dO (P:=Tryz.prog) t3;have l:=dO (P:=Tryz.prog) Tryz.underlying203;have m:=dO (P:=Tryz.prog) h;have o:=dO (P:=Tryz.prog) Tryz.underlying9
 go_enter Tryz.func50,Tryz.ntmps50
 go_wp2
 go_region_o
 all_goals (go_wp2;go_ret;exact⟨rfl,rfl⟩)
theorem NO(W:aT)(q:ae Addr):(jq.unsafeString_ #[190,3] 9 #[.pointer q,.int .i64 0]).run Tryz.prog W = .ok (.string .empty) W:=Lib.run_unsafeString_none W _ _ _ q
set_option maxHeartbeats 2000000 in
set_option maxRecDepth 100000 in
theorem azq(b:Nat)(w:aT)(ao:w.cell? ⟨b,1,aj⟩=J (.slice aj 0 0)) :
  Calls Tryz.prog 50 #[.pointer (J ⟨b,0,aj⟩)] w λe w'=>e = .returned (.string ⟨#[]⟩)/\w' = w.drew:=by
 have c:=NO;have c1:w.drew.cell? ⟨b,1,aj⟩=J (.slice aj 0 0):=ao;have d:(jq.unsafeSliceData_ #[28] 190 #[.slice aj 0 0]).run Tryz.prog w.drew = .ok (.pointer aj) w.drew:=rfl;have a:=follows;have t2:=Tryz.underlying97;have f:=Tryz.underlying190;have g:=Tryz.underlying9;have h:=dO (P:=Tryz.prog) Tryz.underlying108;have i:=dO (P:=Tryz.prog) t2;have j:=dO (P:=Tryz.prog) Tryz.underlying28;have k:=dO (P:=Tryz.prog) f;have l:=dO (P:=Tryz.prog) Tryz.underlying3;have m:=dO (P:=Tryz.prog) g
 go_enter Tryz.func50,Tryz.ntmps50
 go_wp2
 go_region_o
 all_goals (go_wp2;go_ret;exact⟨rfl,rfl⟩)
set_option maxHeartbeats 2000000 in
set_option maxRecDepth 100000 in
theorem atQ(b g:Nat)(w:aT)(cur:Array aD)(c:b<w.heap.size)(ao:w.cell? ⟨b,1,aj⟩=J (.slice (J ⟨g,0,aj⟩) 0 0))(i:w.heap[g]? = J (.cells cur 5 (0,0))) :
  Calls Tryz.prog 50 #[.pointer (J ⟨b,0,aj⟩)] w λe w'=>e = .returned (.string ⟨#[]⟩)/\bM fE w w':=by
 have j:=NO;have c1:w.drew.cell? ⟨b,1,aj⟩=J (.slice (J ⟨g,0,aj⟩) 0 0):=ao;have h:=Tryz.underlying190;have k:(jq.unsafeSliceData_ #[28] 190 #[.slice (J ⟨g,0,aj⟩) 0 0]).run Tryz.prog w.drew = .ok (.pointer (J ⟨w.drew.heap.size,0,aj⟩)) (w.drew.alloc (.view ⟨g,0,aj⟩ 5)):=Lib.run_unsafeSliceData_zero w.drew _ _ 5 h ⟨g,0,aj⟩ 0 (5,cur.size) (by have d:w.drew.heap[g]? = J (.cells cur 5 (0,0)):=i;simp[aT.shape?,d])
 have c2:(w.drew.alloc (.view ⟨g,0,aj⟩ 5)).cell? ⟨b,1,aj⟩=J (.slice (J ⟨g,0,aj⟩) 0 0):=by rw[aT.cell?_of_block (a:=⟨b,1,aj⟩) (Below.heap_alloc w.drew _ _ c)];exact c1
 have fZ:(w.alloc (.view ⟨g,0,aj⟩ 5)).drew.cell? ⟨b,1,aj⟩=J (.slice (J ⟨g,0,aj⟩) 0 0):=c2;have dD:w.cell? ⟨b,1,aj⟩=J (.slice (J ⟨g,0,aj⟩) 0 0):=c1;have f:=follows;have t1:=Tryz.underlying95;have t3:=Tryz.underlying28;have l:=Tryz.underlying9;have m:=dO (P:=Tryz.prog) t1;have n:=dO (P:=Tryz.prog) Tryz.underlying110;have o:=dO (P:=Tryz.prog) t3;have p:=dO (P:=Tryz.prog) h;have q:=dO (P:=Tryz.prog) Tryz.underlying3;have r:=dO (P:=Tryz.prog) l
 go_enter Tryz.func50,Tryz.ntmps50
 go_wp2
 go_region_o
 all_goals (go_wp2;go_ret;exact⟨rfl,(bM.drew fE w).trans (bM.alloc fE w.drew _)⟩)
theorem azs{ah:di}{m:ed}{a:Act}{rs:U Act}{st:bw}{w w':aT}(x:Rel ah m a rs (aB st) w)(f:bM (fF m (aB st)) w w'){d:D}{v:aD}(ar:aG (vx ah m (aB { st with n:=1,env:=[(0,d)],au:=[],bh:=[] }) w') d v):Rel ah m ⟨#[v],[]⟩ rs (aB { st with n:=1,env:=[(0,d)],au:=[],bh:=[] }) w':=by
 have r:∀b i,¬fF m (aB { st with n:=1,env:=[(0,d)],au:=[],bh:=[] }) b i:=by
  rintro b i (⟨q,l,_⟩|⟨t,o,c,_,_⟩)
  .exact l rfl
  .simp[aB]at c
 have eN:fI (vx ah m (aB st) w) (vx ah m (aB { st with n:=1,env:=[(0,d)],au:=[],bh:=[] }) w'):=by
  refine⟨f.mono λb i p=>.inr p,?_,rfl,λ_ _=>rfl,bU _,bU _,λt _ s=>?_⟩
  .rintro b i (h|h)
   .exact .inl (.inl h)
   .exact absurd h (r b i)
  .simp[vx,aB]at s
 have c:Rel ah m a rs { aB st with au:=λ_=>aj,bJ:=λ_=>False } w':=by
  refine x.step (s':={ aB st with au:=λ_=>aj,bJ:=λ_=>False }) rfl rfl rfl rfl rfl f ?_ (λb k j=>by cases j) (λt y=>y.elim) (λb cu h=>absurd rfl h) (λt t' g o dq h=>h.elim) (λb t g o h=>absurd rfl h) (λb i p=>?_)
  .refine⟨f.mono λb i p=>.inr p,?_,rfl,λ_ _=>rfl,bU _,bU _,λt _ s=>s.elim⟩;rintro b i (h|⟨q,l,_⟩|⟨t,o,c,_,_⟩)
   .exact .inl (.inl h)
   .exact absurd rfl l
   .exact c.elim
  .rcases p with ⟨q,l,_⟩|⟨t,o,c,_,_⟩
   .exact absurd rfl l
   .exact c.elim
 have u:(aB { st with n:=1,env:=[(0,d)],au:=[],bh:=[] }).bJ=λ_=>False:=by funext t;simp[aB]
 have e:aB { st with n:=1,env:=[(0,d)],au:=[],bh:=[] }={ (aB { st with n:=1,env:=[(0,d)],au:=[],bh:=[] })with bJ:=λ_=>False }:=by rw[<-u]
 rw[e]at ar ⊢;refine⟨c.fw,⟨rfl,rfl,λk z j=>?_⟩,c.jI,c.c7,c.lt,c.gp,c.mi,c.inj,c.jm,c.h0,c.own,c.hN,c.kT⟩;have j:get [(0,d)] k=J z:=j;rw[k3]at j;by_cases dm:k=0
 .grind
 .rw[if_neg dm]at j;cases j
abbrev Vp:TypeId:=99
def pe:bn:=⟨1,[],[(0,.ptr 0 0)],[(0,.fb Vp)],1,1,0,[],[]⟩
def NL:bn:=⟨1,[(0,.str)],[],[],1,1,0,[],[]⟩
abbrev aBd:=U UInt8
abbrev aBx:=ak
def wq:aBd->ae aBx:=λx=>J x
theorem az9:fX Tryz.prog i_ ph 50 pe NL wq:=by
 refine⟨av.enters_of Tryz.func50 rfl bW,λ(l:U UInt8) r ag _ ah m vs ez w aY aZ bg aF=>?_⟩;obtain rfl:l=r:=ks ag;obtain⟨_,al⟩:=aF.gp 0 (.fb Vp (.sl .byte l (.id 0))) rfl;obtain⟨_,a,v,ch,c5,f⟩:=al;obtain⟨u,q,s⟩:=aF.env.get 0 (.ptr 0 0) rfl;have bB:vs.toArray.size=1:=aF.env.size;have bE:vs=[u]:=by match vs,bB,q with|[y],_,q=>simpa using q
 subst bE;simp[aG]at s f;obtain⟨_,rfl⟩:=s;obtain⟨t,_,o⟩:=f;have o:=o (show(aB (iF pe [ka pe] l)).bJ 0 by simp[aB,iF,pe,bn.cF,dw,h9.cF]);have ch:w.heap[m.au 0]? = J (.cells #[a,v] Vp (0,0)):=ch;have z:m.au 0<w.heap.size:=(hZ.1 ch).1;have a2:I l<=maxLen:=t.here.len;have c1:w.cell? ⟨m.au 0,1,aj⟩=J v:=by simp[h7,ch]
 have done:(Calls Tryz.prog 50 #[.pointer (J ⟨m.au 0,0,aj⟩)] w λe w'=>e = .returned (.string ⟨l.toArray⟩)/\bM (fF m (aB (iF pe [ka pe] l))) w w')->Calls Tryz.prog 50 ([.pointer (J ⟨m.au 0,0,aj⟩)]:U aD).toArray w λdJ w'=>∃us aS a6,dJ = .returned (av.oN us)/\(∀k,(pe.au.map (·.1)).contains k=ab->a6.au k=m.au k)/\nW NL aS = J l/\Rel ah a6 ⟨us.toArray,[]⟩ [ez] (aB aS) w':=λao=>by refine ao.mono ?_;rintro e w' ⟨rfl,p⟩;exact⟨[.string ⟨l.toArray⟩],{ iF pe [ka pe] l with n:=1,env:=[(0,.str l)],au:=[],bh:=[] },m,rfl,λ_ _=>rfl,rfl,azs aF p (by simp only[aG];exact⟨trivial,a2⟩)⟩
 refine done ?_;rcases o with ⟨rfl,_,rfl⟩|⟨g,cap,cur,rfl,b',cr,a3,hle,bG⟩
 .refine(azq (m.au 0) w c1).mono ?_;rintro e w' ⟨rfl,rfl⟩;exact⟨rfl,bM.drew _ w⟩
 .have b':m.bh 0=J (g,I l*1):=b';have a9:(vx ah m (aB (iF pe [ka pe] l)) w).el .byte=5:=by show ah.el .byte=_;rw[aZ];rfl
  rw[a9]at cr;have cr:w.heap[g]? = J (.cells cur 5 (0,0)):=cr;have a3:cur.size=cap*1:=a3;by_cases c:l=[]
  .subst c;by_cases a4:cap=0
   .subst a4;refine(atQ (m.au 0) g w cur z c1 cr).mono ?_;rintro e w' ⟨rfl,p⟩;exact⟨rfl,p.mono λ_ _ h=>h.elim⟩
   .refine(aeG (m.au 0) g cap 0 w .empty a4 c1 (NO _ _)).mono ?_;rintro e w' ⟨rfl,rfl⟩;exact⟨rfl,bM.drew _ w⟩
  .have d:∀(j:Nat) x,l[j]? = J x->w.cell? ⟨g,j,aj⟩=J (.int .u8 x.toNat):=λj x dh=>by
    obtain⟨ca,hC,de,h|⟨dp,aEf,eH,_,cB⟩⟩:=t.here.slice
    .exact absurd h c
    .simp at de;rw[eH]at de;simp at de;obtain⟨⟨rfl,rfl,_⟩,_⟩:=de;obtain⟨u,q,cb⟩:=cB j x dh 0 _ rfl;have gy : 0+j*a8 .byte+0=j:=by simp[a8]
     rw[gy]at q;cases cb;exact q
   have ac:I l≠0:=λe=>c (k0 e);have bZ:=Lib.run_unsafeString_row w.drew 190 3 9 5 Tryz.underlying190 cellsByte g cur.size (by have b7:w.drew.heap[g]? = J (.cells cur 5 (0,0)):=cr;simp[aT.shape?,b7]) l c af (by unfold dr at bG;omega) (λj x dh=>by
    have e:(⟨g,0,aj⟩:Addr).add j=⟨g,j,aj⟩:=by
     unfold Addr.add;by_cases a5:j=0
     .subst a5;simp
     .simp[a5]
    rw[e];exact d j x dh)
   refine(aeG (m.au 0) g cap (I l) w ⟨l.toArray⟩ af c1 bZ).mono ?_;rintro e w' ⟨rfl,rfl⟩;refine⟨rfl,(bM.drew _ w).trans ((atP w.drew g (I l) (I l*1)).mono λb i bO=>?_)⟩;obtain⟨rfl,bO⟩:=bO;exact .inr ⟨0,I l*1,by simp[aB,iF,pe,bn.cF,dw,h9.cF],b',bO⟩
def Pk:bn:=⟨2,[(1,.str)],[(0,.ptr 0 0)],[(0,.fb 99)],1,1,0,[],[]⟩
def PO:bn:=⟨2,[],[],[(0,.fb 99)],1,1,0,[],[]⟩
abbrev aff:=ak×U UInt8
abbrev afU:=U UInt8
def awB(R:Type):aR R:=bs [(178,St CL)] [] [] []
def _v(x:aff):ae (afU):=match x with|(s,out)=>ax (aa (I out+I s<=bY)) (J (out++s))
theorem asK:dz 109 Pk PO (_v):=ig (px:=awB _) (n:=0) Tryz.func109 rfl (λ_ H=>⟨br H (et (aCp (by rw[H.p];exact axB) (by rw[H.p];exact aCo)) bq) bo bp,aK⟩) λ(_,_)=>by kernel_rfl
def GY(s out:ak):ae ak:=if I out+I s<=bY then J (out++s)else aj
def FE:aff->ae afU:=λx=>GY x.1 x.2
theorem avV:dz 109 Pk PO FE:=.er asK λ(s,out) r al ag=>by
 simp only[FE,GY]at ag;split at ag
 .rename_i h;simp only[_v];rw[aH h];exact ag
 .cases ag
end Go.Proofs.YtdelkmpkjibigaaGreatDoor
namespace Go.Proofs
open Go.Shelf
def Tryz.alj:Go.Shelf.Ren:=⟨λ|156=>110|165=>179|166=>109|169=>50|240=>178|241=>218|276=>217|277=>240|n=>n,λ|0=>0|3=>3|4=>4|5=>5|9=>9|20=>20|31=>23|37=>28|70=>95|72=>97|75=>184|76=>185|80=>106|127=>190|164=>264|n=>n,λn=>n⟩
theorem Tryz.UN:Go.Proofs.Lays.n156 Tryz.prog Tryz.alj:={
 mixed:=bW
 f156:=Tryz.func110.trans (congrArg J bW)
 f165:=Tryz.func179.trans (congrArg J bW)
 f166:=Tryz.func109.trans (congrArg J bW)
 f169:=Tryz.func50.trans (congrArg J bW)
 f240:=Tryz.func178.trans (congrArg J bW)
 f241:=Tryz.func218.trans (congrArg J bW)
 f276:=Tryz.func217.trans (congrArg J bW)
 f277:=Tryz.func240.trans (congrArg J bW)
 t0:=Tryz.underlying0
 a0:=Tryz.isAgg0
 z0:=Tryz.sizeOf0
 v0:=Tryz.zeroValue0
 t3:=Tryz.underlying3
 a3:=Tryz.isAgg3
 z3:=Tryz.sizeOf3
 v3:=Tryz.zeroValue3
 t4:=Tryz.underlying4
 a4:=Tryz.isAgg4
 z4:=Tryz.sizeOf4
 v4:=Tryz.zeroValue4
 t9:=Tryz.underlying9
 a9:=Tryz.isAgg9
 z9:=Tryz.sizeOf9
 v9:=Tryz.zeroValue9
 t20:=Tryz.underlying20
 a20:=Tryz.isAgg20
 z20:=Tryz.sizeOf20
 v20:=Tryz.zeroValue20
 t31:=Tryz.underlying23
 a31:=Tryz.isAgg23
 z31:=Tryz.sizeOf23
 v31:=Tryz.zeroValue23
 t37:=Tryz.underlying28
 a37:=Tryz.isAgg28
 z37:=Tryz.sizeOf28
 v37:=Tryz.zeroValue28
 t70:=Tryz.underlying95
 a70:=Tryz.isAgg95
 z70:=Tryz.sizeOf95
 v70:=Tryz.zeroValue95
 t72:=Tryz.underlying97
 a72:=Tryz.isAgg97
 z72:=Tryz.sizeOf97
 v72:=Tryz.zeroValue97
 t75:=Tryz.underlying184
 a75:=Tryz.isAgg184
 z75:=Tryz.sizeOf184
 v75:=Tryz.zeroValue184
 t76:=Tryz.underlying185
 a76:=Tryz.isAgg185
 z76:=Tryz.sizeOf185
 v76:=Tryz.zeroValue185
 t127:=Tryz.underlying190
 a127:=Tryz.isAgg190
 z127:=Tryz.sizeOf190
 v127:=Tryz.zeroValue190
 t164:=Tryz.underlying264
 a164:=Tryz.isAgg264
 z164:=Tryz.sizeOf264
 v164:=Tryz.zeroValue264 }
theorem Tryz.Uz:Builder.Extra Tryz.prog Tryz.alj:={
 sizeBuilder:=bW
 liesBuilder:=bW
 t5:=Tryz.underlying5
 a5:=Tryz.isAgg5
 z5:=Tryz.sizeOf5
 v5:=Tryz.zeroValue5
 infoByte:=bW
 cellsByte:=bW
 sizeByte:=bW
 neB5:=by decide }
end Go.Proofs
namespace Go.Proofs.YtdelkmpkjibigaaGreatDoor
open Go.ft Go.RowKit
def JN(l:U ak)(a:ak):ae ak:=if I l<=1000000/\I (Lib.join l a)<=1000000000 then J (Lib.join l a)else aj
def Nl:bt [dX,.str] [.str]:=λx=>JN x.1 x.2
theorem amZ:aU 110 [dX,.str] [.str] Nl:=by
 refine⟨av.enters_of Tryz.func110 rfl bW,λx r ag w M vs gL a2 v=>?_⟩;obtain⟨l,d⟩:=x;simp only[Nl,JN]at ag;split at ag
 case isFalse=>cases ag
 rename_i ao;obtain⟨aY,aZ⟩:=ao;obtain rfl:=ks ag;simp only[eK,fy,bl,aG]at v;obtain⟨u,us,rfl,⟨m,_⟩,ny,a3,rfl,⟨rfl,_⟩,rfl⟩:=v;have key:Calls Tryz.prog 110 #[u,.string ⟨d.toArray⟩] w λe w'=>e = .returned (.string ⟨(Lib.join l d).toArray⟩)/\Below w.heap.size w w':=by
  obtain⟨a,cap,rfl,h⟩:=m.here.slice;rcases h with rfl|⟨b,o,rfl,⟨hle,a4⟩,n⟩
  .have c:=Any.strings_Join_none Tryz.UN Tryz.Uz a cap ⟨d.toArray⟩ w;refine Calls.mono (show Calls Tryz.prog 110 _ w _ from c) ?_;rintro e w' ⟨rfl,rfl⟩;exact⟨rfl,Below.refl _ _⟩
  .by_cases z:l=[]
   .subst z;have c:=Any.strings_Join_none Tryz.UN Tryz.Uz (J ⟨b,o,aj⟩) cap ⟨d.toArray⟩ w;refine Calls.mono (show Calls Tryz.prog 110 _ w _ from c) ?_;rintro e w' ⟨rfl,rfl⟩;exact⟨rfl,Below.refl _ _⟩
   .have f:∀(j:Nat) x,l[j]? = J x->w.cell? ⟨b,o+j,aj⟩=J (.string ⟨x.toArray⟩):=λj x k=>by
     obtain⟨u,hu,cb⟩:=n j x k 0 _ rfl;have gy:o+j*a8 .str+0=o+j:=by simp[a8]
     rw[gy]at hu;cases cb;exact hu
    have al:b<w.heap.size:=by cases l with|nil=>exact absurd rfl z|cons x l=>exact zv (f 0 x rfl)
    have em:(l.map λs=>(⟨s.toArray⟩:ByteArray)).map (·.data.toList)=l:=by rw[List.map_map];simp[Function.comp_def]
    have es:(⟨d.toArray⟩:ByteArray).data.toList=d:=by simp
    have c:=Any.strings_Join Tryz.UN Tryz.Uz b o cap (l.map λs=>⟨s.toArray⟩) ⟨d.toArray⟩ w (λj x k=>by rw[List.getElem?_map]at k;obtain⟨y,aE,rfl⟩:=Option.map_eq_some_iff.1 k;exact f j y aE) al (by rw[List.length_map];omega) (by rw[List.length_map];exact hle) (by rw[em,es];omega)
    rw[em,es,List.length_map]at c;exact c
 refine key.mono ?_;rintro dJ w' ⟨rfl,i⟩;refine⟨_,⟨λ_=>0,λ_=>Option.none⟩,rfl,bM.UU i,λp g o t=>(by simp[dw]at t),λp q g o ew t=>(by simp[dw]at t),?_⟩;simp only[iU,eK,fy,aG];exact⟨trivial,by simp only[dr];omega⟩
end Go.Proofs.YtdelkmpkjibigaaGreatDoor
namespace Go.Proofs.YtdelkmpkjibigaaGreatDoor
open Go.ft
def app(out t:ak):ae ak:=if I out+I t<=260000000000 then J (out++t)else aj
theorem BX(out a b:ak):((app out a).bind λx=>app x b)=app out (a++b):=by
 simp only[app,e7];by_cases c:I out+I a<=260000000000
 .rw[if_pos c,bA];simp only[e7,hp,Nat.add_assoc]
 .rw[if_neg c,if_neg af];rfl
variable{R:Type}
theorem tj(out a b:ak)(c:ak->ae R):((app out a).bind λx=>(app x b).bind c)=(app out (a++b)).bind c:=by rw[<-BX,Option.bind_assoc]
theorem CO{o:ae ak}:(o.bind λx=>J x)=o:=by cases o<;>rfl
theorem ah0{out:ak}(h:I out<=260000000000):app out []=J out:=by simp only[app,dB,Nat.add_zero,kq];rw[if_pos h]
variable{r:ak}{t:ak}
theorem Ss{out:ak}(h:app out t=J r):I r<=260000000000/\r=out++t:=by
 simp only[app]at h;split at h
 .rename_i a;obtain rfl:=ks h;exact⟨by rw[e7];exact a,rfl⟩
 .cases h
theorem ayC{out:ak}(h:app out t=J r):I out+I t<=260000000000:=by
 simp only[app]at h;split at h
 .rename_i a;exact a
 .cases h
theorem apU{out:ak}(h:I out+I t<=260000000000):app out t=J (out++t):=if_pos h
def iG{α:Type}(f : α->ak):U α->ak|[]=>[]|x::l=>[44,32]++f x++iG f l
def gW{α:Type}(f : α->ak):U α->ak|[]=>[]|x::l=>f x++iG f l
variable{V:Type}{α:Type}
theorem axk{step:(V->ae R)->V->ae R}(l:U α)(f : α->ak)(st:Nat->ak->V)(c:ak->ae R)
  (d:∀i (a:i<I l) (acc:ak) rec,step rec (st i acc)=(app acc ((if i=0 then []else [44,32])++f l[i])).bind λx=>rec (st (i+1) x))
  (e:∀acc rec,step rec (st (I l) acc)=c acc) (k:Nat) (j:I l<k) (out:ak) (g:I out<=260000000000):aI step k (st 0 out)=(app out (gW f l)).bind c:=by
 refine(lB (I l) st (λ_ acc=>I acc<=260000000000) (λi acc=>(app acc (if i=0 then gW f (l.drop i)else iG f (l.drop i))).bind c) (λi a acc b rec h=>?_) (λacc b rec=>?_) k 0 out (cL _) af g).trans (by rw[if_pos rfl,iW])
 .rw[d i a acc rec];have ar:(if i=0 then gW f (l.drop i)else iG f (l.drop i))=((if i=0 then []else [44,32])++f l[i])++iG f (l.drop (i+1)):=by rw[da a];split<;>simp[gW,iG]
  rw[ar,<-tj acc ((if i=0 then []else [44,32])++f l[i]) (iG f (l.drop (i+1))) c];cases ag:app acc ((if i=0 then []else [44,32])++f l[i])with|none=>rfl|some x=>rw[bA,bA,h x (Ss ag).1,if_neg af]
 .rw[e];have:(if I l=0 then gW f (l.drop (I l))else iG f (l.drop (I l)))=[]:=by rw[tI];split<;>rfl
  rw[this,ah0 b];rfl
def u1:bn:=⟨2,[(1,.sl .str ai)],[(0,.ptr 0 0)],[(0,.fb 99)],1,1,0,[],[]⟩
def uX:bn:=⟨0,[],[],[(0,.fb 99)],1,1,0,[],[]⟩
abbrev adS:=U ak×U UInt8
abbrev QL:=U UInt8
def Zz:bn:=⟨18,[(6,.sl .str ai),(7,.int .i64),(8,.int .i64)],[(0,.ptr 0 0)],[(0,.fb 99)],1,1,0,[],[]⟩
abbrev Lt:=U ak×Int×Int×U UInt8
def Bl{R:Type}(rec:Lt->ae R)(kx:aX->Lt->ae R)(v:Lt):ae R:=match v with|(v,v1,v2,w)=>cond (aa (v2<v1)) (ax (a_ v2 (I v)) ((FE ((at' .str v v2),w)).bind λx=>rec (v,v1,(wr .i64 (v2+1)),x))) (kx (.exit 0) (v,v1,v2,w))
def XK(R:Type)(k:Nat):aR R:=bs [(109,cT Pk PO FE)] [] [(1,b8 k Zz (Bl))] []
def amo(k:Nat)(x:adS):ae (QL):=match x with
 |(l,out)=>aI (λrec=>Bl rec (λe a=>match a with|(_,_,_,v6)=>match e with
  |.exit 0=>J v6
  |_=>aj)) k (l,(I l:Int),0,out)
theorem atb(k:Nat):dz 41 u1 uX (amo k):=ig (px:=XK _ k) (n:=1) Tryz.func41 rfl (λah H=>by have c:bP ah (XK (QL) k):=br H (aQ H avV bq) bo bp;have a:=cd H c (b:=b0 Tryz.f41 0) (k:=k) (n:=0) (s:=Zz) (step:=Bl) (λ_ _ _ (_,_,_,_)=>by kernel_rfl) aK;exact⟨c,(b9 aK a)⟩) λ(_,_)=>by kernel_rfl
def aAT(l:U ak)(out:ak):ae ak:=app out l.flatten
def gV:adS->ae QL:=λx=>aAT x.1 x.2
theorem arL{kx:aX->Lt->ae R}{l:U ak}{c:ak->ae R}(e:b1 (I l))(f:∀i out,kx (.exit 0) (l,(I l:Int),i,out)=c out)(k:Nat)(j:I l<k)(out:ak)(g:I out+I l.flatten<=260000000000) :
  aI (λrec=>Bl rec kx) k (l,(I l:Int),0,out)=c (out++l.flatten):=by
 refine(lB (I l) (λi out=>(l,(I l:Int),(i:Int),out)) (λi out=>List.length out+I ((l.drop i).flatten)<=260000000000) (λi out=>c (out++(l.drop i).flatten)) (λi a out d rec b=>?_) (λout _ rec=>?_) k 0 out (cL _) af (by rw[iW];exact g)).trans iP
 .rw[da a]at d ⊢;simp only[oC,e7]at d;have h:GY l[i] out=J (out++l[i]):=by simp only[GY];rw[if_pos Ee]
  have b:=b (out++l[i]) (by rw[e7];omega);simp only[Bl,ea a,bd,cg a,ax,cR (c:=.str) a,FE,h,bA,c9 a e,b,oC,hp]
 .simp only[Bl,eu,bj,f];rw[gn (bU _)];simp
theorem A7:dz 41 u1 uX gV:=.fin 0 atb λ(l,out) r al ag=>⟨I l+1,by have ag:app out l.flatten=J r:=ag;have a:=ayC ag;rw[(Ss ag).2];exact arL (l:=l) (c:=J) al.1.1 (λ_ _=>rfl) (I l+1) af out a⟩
theorem ww(l:U ak)(out:ak):gV (l,out)=app out l.flatten:=rfl
def vW(k:Int):ak:=lM oP k
mutual
def gG:aq->ak|.mk k v n l=>if k=1 then sb v else if k=2 then n else x7 k l
def x7:Int->U aq->ak|_,[]=>[]|k,x::l=>if k=3 then [40]++[78,79,84,32]++gG x++[41]else if k=15 then [40]++[45]++gG x++[41]else if k=16 then [40]++gG x++[32,73,83,32,78,85,76,76]++[41]else [40]++gG x++([32]++(vW k++[32]))++Ux l++[41]
def Ux:U aq->ak|[]=>[]|y::_=>gG y
end
mutual
def ns:aq->Bool|.mk k _ _ l=>if k=1\/k=2 then ab else F_ k l
def F_:Int->U aq->Bool|_,[]=>ai|k,x::l=>ns x&&(if k=3\/k=15\/k=16 then ab else UX l)
def UX:U aq->Bool|[]=>ai|y::_=>ns y
end
theorem R5(e:aq):gG e=if e.kind=1 then sb e.v else if e.kind=2 then e.name else x7 e.kind e.l:=by cases e;simp only[gG];rfl
theorem acH(e:aq):ns e=if e.kind=1\/e.kind=2 then ab else F_ e.kind e.l:=by cases e;simp only[ns];rfl
def BN:bn:=⟨2,[(1,.bm .expr)],[(0,.ptr 0 0)],[(0,.fb 99)],1,1,0,[],[]⟩
def BP:bn:=⟨0,[],[],[(0,.fb 99)],1,1,0,[],[]⟩
abbrev ve:=aq×U UInt8
abbrev vg:=U UInt8
def aqx(R:Type)(rf:ve->ae vg):aR R:=bs [(111,ba Q3),(41,cT u1 uX gV),(46,cT BN BP rf)] [] [] []
def EH(rf:ve->ae vg)(x:ve):ae (vg):=match x with|(e,out)=>cond (aa (e.kind=1)) ((gV ([(sb e.v)],out)).bind λx=>J x) (cond (aa (e.kind=2)) ((gV ([e.name],out)).bind λi=>J i) ((gV ([[40]],out)).bind λh=>cond (aa (e.kind=3)) ((gV ([[78,79,84,32]],h)).bind λj=>ax (a_ 0 (I e.l)) ((rf ((at' .expr e.l 0),j)).bind λk=>(gV ([[41]],k)).bind λa=>J a)) (cond (aa (e.kind=15)) ((gV ([[45]],h)).bind λm=>ax (a_ 0 (I e.l)) ((rf ((at' .expr e.l 0),m)).bind λn=>(gV ([[41]],n)).bind λb=>J b)) (cond (aa (e.kind=16)) (ax (a_ 0 (I e.l)) ((rf ((at' .expr e.l 0),h)).bind λo=>(gV ([[32,73,83,32,78,85,76,76]],o)).bind λp=>(gV ([[41]],p)).bind λc=>J c)) (ax (a_ 0 (I e.l)) ((rf ((at' .expr e.l 0),h)).bind λq=>(gV ([[32],(lM oP e.kind),[32]],q)).bind λd=>ax (a_ 1 (I e.l)) ((rf ((at' .expr e.l 1),d)).bind λf=>(gV ([[41]],f)).bind λg=>J g)))))))
theorem auf(rf:ve->ae vg)(a:dz 46 BN BP rf):dz 46 BN BP (EH rf):=ig (px:=aqx _ rf) (n:=0) Tryz.func46 rfl (λ_ H=>⟨br H (c1 H avT (aQ H A7 (aQ H a bq))) bo bp,aK⟩) λ(_,_)=>by kernel_rfl
def aBX(e:aq)(out:ak):ae ak:=cond (ns e) (app out (gG e)) aj
def CR:ve->ae vg:=λx=>aBX x.1 x.2
theorem Xk:∀(n:Nat) (e:aq) (out:ak),fK e->cm e<=n->ns e=ab->aI (V:=ve) (R:=vg) EH n (e,out)=app out (gG e)
 |0,e,_,_,h,_=>by have:=l2 e;omega
 |n+1,e,out,al,h,hr=>by
  obtain⟨m,j⟩:=rn al;rw[l1]at h;have d:∀x,x∈e.l->ns x=ab->∀out:ak,aI (V:=ve) (R:=vg) EH n (x,out)=app out (gG x):=λx ag o out=>Xk n x out (j x ag) oe o;rw[c6,R5];rw[acH]at hr;simp only[EH,ww];by_cases f:e.kind=1
  .rw[aH f,if_pos f,bd,CO];simp
  by_cases g:e.kind=2
  .rw[aL f,aH g,if_neg f,if_pos g,bj,bd,CO];simp
  rw[aL f,aL g,if_neg f,if_neg g,bj,bj];rw[if_neg af]at hr;cases k:e.l with
  |nil=>rw[k]at hr;cases hr
  |cons x l=>
   rw[k]at hr d;simp only[F_,bN]at hr;have ag:=d x jy hr.1;have p:at' .expr (x::l) 0=x:=rfl;have i0:a_ 0 (I (x::l))=true:=cg (i:=0) (by simp);simp only[p,i0,ag,ax,bd,x7];by_cases c:e.kind=3
   .rw[aH c,if_pos c];simp only[bd,tj,CO,BX,oC,List.flatten_nil,kq,hp]
   by_cases a:e.kind=15
   .rw[aL c,aH a,if_neg c,if_pos a];exact adp
   by_cases b:e.kind=16
   .rw[aL c,aL a,aH b,if_neg c,if_neg a,if_pos b];exact adp
   rw[aL c,aL a,aL b,if_neg c,if_neg a,if_neg b];rw[if_neg af]at hr;cases l with|nil=>exact absurd hr.2 (by simp[UX])|cons y l=>have aE:=d y (by simp) hr.2;have q:at' .expr (x::y::l) 1=y:=rfl;have i1:a_ 1 (I (x::y::l))=true:=cg (i:=1) (by simp);simp only[q,i1,aE,bd,bj,Ux];simp only[CO,BX,oC,List.flatten_nil,kq,hp,vW]
theorem amY:dz 46 BN BP CR:=by refine .fin (ι:=Nat) (aM:=BN) (bL:=BP) 0 (F:=λn=>aI (V:=ve) (R:=vg) EH n) (λn=>fX.lq (av.enters_of Tryz.func46 rfl rfl) (λrf b=>auf rf b) n) λ(e,out) r al ag=>⟨cm e,?_⟩;have ag:cond (ns e) (app out (gG e)) aj=J r:=ag;cases a:ns e with|false=>rw[a]at ag;cases ag|true=>rw[a]at ag;exact(Xk (cm e) e out al.1 (bU _) a).trans ag
variable{e:aq}
theorem aE5(h:ns e=ab)(out:ak):CR (e,out)=app out (gG e):=by show cond (ns e) _ _=_;rw[h];rfl
theorem O1{out:ak}{f g:ak->ae R}(h:∀x:ak,I x<=260000000000->f x=g x):(app out t).bind f=(app out t).bind g:=by cases ag:app out t with|none=>rfl|some x=>exact h x (Ss ag).1
theorem anm(i:Nat)(acc t:ak)(c:ak->ae R):cond (aa ((0:Int)<(i:Int))) ((app acc [44,32]).bind λx=>(app x t).bind c) ((app acc t).bind c)=(app acc ((if i=0 then []else [44,32])++t)).bind c:=by
 by_cases h:i=0
 .grind
 .rw[aH af,if_neg h,bd,tj]
theorem UC(a:ak):([a]:U ak).flatten=a:=by simp
theorem aDJ(a b:ak):([a,b]:U ak).flatten=a++b:=by simp
theorem ak0(a b c:ak):([a,b,c]:U ak).flatten=a++(b++c):=by simp
theorem aDK(a b c d e:ak):([a,b,c,d,e]:U ak).flatten=a++(b++(c++(d++e))):=by simp
theorem am8{step:(V->ae R)->V->ae R}(l:U α)(f : α->ak)(st:Nat->ak->V)(c:ak->ae R)
  (d:∀i (a:i<I l) (acc:ak) rec,step rec (st i acc)=(app acc (f l[i])).bind λx=>rec (st (i+1) x))
  (e:∀acc rec,step rec (st (I l) acc)=c acc) (k:Nat) (j:I l<k) (out:ak) (g:I out<=260000000000):aI step k (st 0 out)=(app out (l.map f).flatten).bind c:=by
 refine(lB (I l) st (λ_ acc=>I acc<=260000000000) (λi acc=>(app acc ((l.drop i).map f).flatten).bind c) (λi a acc b rec h=>?_) (λacc b rec=>?_) k 0 out (cL _) af g).trans iP
 .rw[d i a acc rec,da a,hk,oC,<-tj];exact O1 λx ag=>h x ag
 .rw[e,tI,List.map_nil,List.flatten_nil,ah0 b];rfl
theorem TP:∀(l:U aq) (m:Int),mj l m=l.all λx=>e4 x m
 |[],_=>rfl
 |x::l,m=>by simp[mj,TP l m]
theorem WA:∀(n:Nat) (e:aq) (m:Int),cm e<=n->e4 e m=ab->ns e=ab
 |0,e,_,h,_=>by have:=l2 e;omega
 |n+1,e,m,h,aF=>by
  obtain⟨b,_,g⟩:=AL aF;rw[l1]at h;rw[TP]at g;have f:∀x,x∈e.l->ns x=true:=λx ag=>WA n x _ oe (dH.1 g x ag);rw[acH];rcases EK e.kind with ⟨a,c⟩|⟨a,c⟩|⟨a,c⟩|a
  .rw[if_pos c]
  .rw[if_neg af];rw[a]at b;match d:e.l,b with|[x],_=>rw[F_,if_pos c,f x td];rfl
  .rw[if_neg af];rw[a]at b;match d:e.l,b with|[x,y],_=>rw[F_,f x td,UX,f y td];split<;>rfl
  .rw[a]at b;omega
theorem aoL{m:Int}(h:e4 e m=ab):ns e=true:=WA _ e m (bU _) h
def qm(l:U ak):Bool:=aa (I l<=1000000)&&aa (I (Lib.join l [44,32])<=1000000000)
def lP(l:U ak):ak:=[40]++(Lib.join l [44,32]++[41])
def Hh:bn:=⟨2,[(1,.sl .str ai)],[(0,.ptr 0 0)],[(0,.fb 99)],1,1,0,[],[]⟩
def Hl:bn:=⟨0,[],[],[(0,.fb 99)],1,1,0,[],[]⟩
abbrev aeR:=U ak×U UInt8
abbrev aeA:=U UInt8
def aw7(R:Type):aR R:=bs [(110,ba Nl),(41,cT u1 uX gV)] [] [] []
def TD(x:aeR):ae (aeA):=match x with|(l,out)=>(JN l [44,32]).bind λx=>(gV ([[40],x,[41]],out)).bind λa=>J a
theorem asC:dz 42 Hh Hl (TD):=ig (px:=aw7 _) (n:=0) Tryz.func42 rfl (λ_ H=>⟨br H (c1 H amZ (aQ H A7 bq)) bo bp,aK⟩) λ(_,_)=>by kernel_rfl
def aBc(l:U ak)(out:ak):ae ak:=cond (qm l) (app out (lP l)) aj
def Bx:aeR->ae aeA:=λx=>aBc x.1 x.2
theorem am2(l:U ak)(out:ak)(h:qm l=ab):TD (l,out)=app out (lP l):=by simp[qm]at h;have a:JN l [44,32]=J (Lib.join l [44,32]):=if_pos h;simp[TD,a];rfl
theorem X2:dz 42 Hh Hl Bx:=.er asC λ(l,out) r al ag=>by have ag:cond (qm l) (app out (lP l)) aj=J r:=ag;cases a:qm l with|false=>rw[a]at ag;cases ag|true=>rw[a]at ag;exact(am2 l out a).trans ag
theorem wn{l:U ak}(h:qm l=ab)(out:ak):Bx (l,out)=app out (lP l):=by show cond (qm l) _ _=_;rw[h];rfl
def nF(c:bk):ak:=c.name++([32]++at' .str vM c.kind)++cond c.h2 [32,78,79,84,32,78,85,76,76] []++cond c.unique [32,85,78,73,81,85,69] []++cond (aa (c.ref=[])) [] ([32,82,69,70,69,82,69,78,67,69,83,32]++c.ref)
def NG:bn:=⟨2,[(1,.bm .b2)],[(0,.ptr 0 0)],[(0,.fb 99)],1,1,0,[],[]⟩
def Ns:bn:=⟨0,[],[],[(0,.fb 99)],1,1,0,[],[]⟩
abbrev ade:=bk×U UInt8
abbrev acF:=U UInt8
def aqF(R:Type):aR R:=bs [(41,cT u1 uX gV)] [] [] []
def Pn(x:ade):ae (acF):=match x with
 |(c,out)=>
 ax (a_ c.kind 6) (
  (gV ([c.name,[32],(at' .str vM c.kind)],out)).bind λx=>
  let a:=λ(q:U UInt8)=>
   let j:=λ(bc:U UInt8)=>
   cond (!decide (c.ref=[])) (
    (gV ([[32,82,69,70,69,82,69,78,67,69,83,32],c.ref],bc)).bind λb=>
    J b) (
    J bc)
   cond (c.unique) (
   (gV ([[32,85,78,73,81,85,69]],q)).bind λd=>j d) (
   j q)
  cond (c.h2) (
   (gV ([[32,78,79,84,32,78,85,76,76]],x)).bind λe=>
   a e) (
   a x))
theorem an5:dz 107 NG Ns (Pn):=ig (px:=aqF _) (n:=0) Tryz.func107 rfl (λ_ H=>⟨br H (aQ H A7 bq) bo bp,aK⟩) λ(_,_)=>by kernel_rfl
def aC5(c:bk)(out:ak):ae ak:=cond (a_ c.kind 6) (app out (nF c)) aj
def Gr:ade->ae acF:=λx=>aC5 x.1 x.2
theorem aAV(c:bk)(out:ak)(h:a_ c.kind 6=ab):Pn (c,out)=app out (nF c):=by simp only[Pn,h,ax,ww,nF];cases c.h2<;>cases c.unique<;>cases aa (c.ref=[])<;>simp[ BX]
theorem az2:dz 107 NG Ns Gr:=.er an5 λ(c,out) r al ag=>by have ag:cond (a_ c.kind 6) (app out (nF c)) aj=J r:=ag;cases a:a_ c.kind 6 with|false=>rw[a]at ag;cases ag|true=>rw[a]at ag;exact(aAV c out a).trans ag
theorem aE4{c:bk}(h:a_ c.kind 6=ab)(out:ak):Gr (c,out)=app out (nF c):=by show cond (a_ c.kind 6) _ _=_;rw[h];rfl
def Vq(s:aP):ak:=cond s.has ([32,87,72,69,82,69,32]++gG s.cX) []
def sJ(e:aq):ak:=[44,32,67,72,69,67,75,32]++cond (aa (parts e.kind=0)) ([40]++(gG e++[41])) (gG e)
def nR(s:aP):ak:=[67,82,69,65,84,69,32,84,65,66,76,69,32]++(s.name++[32,40])++gW nF s.ay++[44,32,80,82,73,77,65,82,89,32,75,69,89,32]++lP s.names++(s.l.map sJ).flatten++[41]
def tT(s:aP):Bool:=s.ay.all (λc=>a_ c.kind 6)&&qm s.names&&s.l.all ns
def pQ(s:aP):Nat:=I s.ay+I s.l+I s.order+I s.rows+I s.bT+(s.rows.map List.length).sum+1
def PY:bn:=⟨2,[(1,.bm .stmt)],[(0,.ptr 0 0)],[(0,.fb 99)],1,1,0,[],[]⟩
def P3:bn:=⟨0,[],[],[(0,.fb 99)],1,1,0,[],[]⟩
abbrev ae1:=aP×U UInt8
abbrev Fy:=U UInt8
def ZO:bn:=⟨54,[(25,.sl .expr ai),(26,.int .i64),(27,.int .i64)],[(2,.ptr 1 0)],[(0,.fb 99),(1,.i' [.ptr 0 0])],2,1,0,[],[]⟩
abbrev OO:=U aq×Int×Int×U UInt8
def Fx{R:Type}(rec:OO->ae R)(kx:aX->OO->ae R)(v:OO):ae R:=match v with|(v6,bb,bK,b4)=>cond (aa (bK<bb)) (ax (a_ bK (I v6)) ((gV ([[44,32,67,72,69,67,75,32]],b4)).bind λa=>cond (aa ((parts ((at' .expr v6 bK).kind))=0)) ((gV ([[40]],a)).bind λb=>(CR ((at' .expr v6 bK),b)).bind λc=>(gV ([[41]],c)).bind λd=>rec (v6,bb,(wr .i64 (bK+1)),d)) ((CR ((at' .expr v6 bK),a)).bind λe=>rec (v6,bb,(wr .i64 (bK+1)),e)))) (kx (.exit 0) (v6,bb,bK,b4))
def Zj:bn:=⟨20,[(7,.int .i64),(8,.int .i64)],[(0,.ptr 0 0),(2,.fn 106 [.ptr 1 0,.ptr 2 0])],[(0,.fb 99),(1,.i' [.ptr 0 0]),(2,.one (.bm .stmt))],80,80,400,[],[]⟩
abbrev OB:=Int×Int×U UInt8×aP
def Fu{R:Type}(rec:OB->ae R)(kx:aX->OB->ae R)(v:OB):ae R:=match v with
 |(v,v1,w,w1)=>
 cond (aa (v1<v)) (
  let j:=λ(q:U UInt8)=>
  ax (a_ v1 (I w1.ay)) (
   (Gr ((at' .b2 w1.ay v1),q)).bind λa=>
   rec (v,(wr .i64 (v1+1)),a,w1))
  cond (aa (0<v1)) (
  (gV ([[44,32]],w)).bind λb=>j b) (
  j w)) (
  kx (.exit 0) (v,v1,w,w1))
def Yr(R:Type)(mh:Nat):aR R:=bs [(107,cT NG Ns Gr)] [] [] []
noncomputable def ZM(R:Type)(k:Nat):aR R:=bs [(41,cT u1 uX gV),(106,ey 120 600 (Yr R k) Tryz.f106)] [] [(1,b8 k Zj (Fu))] []
noncomputable def Wk(R:Type)(k:Nat):aR R:=bs [(41,cT u1 uX gV),(42,cT Hh Hl Bx),(108,ba M4),(46,cT BN BP CR),(43,ey 80 400 (ZM R k) Tryz.f43)] [] [(6,b8 k ZO (Fx))] []
def TB(k:Nat)(x:ae1):ae (Fy):=match x with
 |(s,out)=>(gV ([[67,82,69,65,84,69,32,84,65,66,76,69,32],s.name,[32,40]],out)).bind λx=>aI (λrec=>Fu rec (λe c=>match c with|(_,_,v4,v5)=>match e with
  |.exit 0=>(gV ([[44,32,80,82,73,77,65,82,89,32,75,69,89,32]],v4)).bind λd=>(Bx (v5.names,d)).bind λf=>aI (λrec=>Fx rec (λe c=>match c with|(_,_,_,a)=>match e with
    |.exit 0=>(gV ([[41]],a)).bind λb=>J b
    |_=>aj)) k (v5.l,(I v5.l:Int),0,f)
  |_=>aj)) k ((I s.ay:Int),0,x,s)
theorem atZ(k:Nat):dz 40 PY P3 (TB k):=ig (px:=Wk _ k) (n:=1) Tryz.func40 rfl (λah H=>by have f:bP ah (Yr (Fy) k):=br H (aQ H az2 bq) bo bp;have d:bP ah (ZM (Fy) k):=br H (aQ H A7 (et (eS H f Tryz.func106 rfl (n:=0) (aK)) bq)) bo bp;have a:=cd H d (b:=b0 Tryz.f43 0) (k:=k) (n:=0) (s:=Zj) (step:=Fu) (λ_ _ _ (_,_,_,_)=>by kernel_rfl) aK;have e:bP ah (Wk (Fy) k):=br H (aQ H A7 (aQ H X2 (c1 H aeg (aQ H amY (et (eS H d Tryz.func43 rfl (n:=1) (b9 aK a)) bq))))) bo bp;have c:=cd H e (b:=b0 Tryz.f40 0) (k:=k) (n:=0) (s:=ZO) (step:=Fx) (λ_ _ _ (_,_,_,_)=>by kernel_rfl) aK;exact⟨e,(b9 aK c)⟩) λ(_,_)=>by kernel_rfl
def aBn(s:aP)(out:ak):ae ak:=cond (tT s) (app out (nR s)) aj
def IN:ae1->ae Fy:=λx=>aBn x.1 x.2
theorem anG(k:Nat)(s:aP)(out:ak)(al:qq s)(h:tT s=ab)(b:pQ s<=k):TB k (s,out)=app out (nR s):=by
 simp only[tT,bN]at h;obtain⟨⟨d,e⟩,f⟩:=h;simp[pQ]at b;have g:=dH.1 f;simp only[TB,ww,ak0];refine(O1 λx ag=>(axk s.ay nF (λi acc=>((I s.ay:Int),(i:Int),acc,s)) (λacc=>(app acc ([44,32,80,82,73,77,65,82,89,32,75,69,89,32]++lP s.names)).bind λx=>(app x (s.l.map sJ).flatten).bind λx=>app x [41]) (λi a acc rec=>?_) (λacc rec=>?_) k af x ag)).trans ?_
 .simp only[Fu,ea a,cg a,cR (c:=.b2) a,aE4 ((dH.1 d) _ (hf a)),c9 a al.ay.1,ww];exact anm i acc (nF s.ay[i]) _
 .simp[Fu,ww,UC,wn e];rw[tj];refine O1 λx ag=>am8 s.l sJ (λi acc=>(s.l,(I s.l:Int),(i:Int),acc)) (λacc=>app acc [41]) (λi a acc rec=>?_) (λacc rec=>?_) k af x ag
  .simp only[Fx,ea a,cg a,ax,cR (c:=.expr) a,aE5 (g _ (hf a)),c9 a al.l.1,ww,UC,sJ];cases aa (parts s.l[i].kind=0)with|true=>simp[ tj]|false=>simp[ tj]
  .simp[Fx,ww,UC]
 .simp[BX,nR]
theorem avH:dz 40 PY P3 IN:=.fin 0 atZ λ(s,out) r al ag=>⟨pQ s,by
 have ag:cond (tT s) (app out (nR s)) aj=J r:=ag;cases a:tT s with
 |false=>rw[a]at ag;cases ag
 |true=>rw[a]at ag;exact(anG (pQ s) s out al.1 a (bU _)).trans ag⟩
theorem wt{s:aP}(h:tT s=ab)(out:ak):IN (s,out)=app out (nR s):=by show cond (tT s) _ _=_;rw[h];rfl
def aC7(p:ak×Bool):ak:=p.1++cond p.2 [32,68,69,83,67] []
def aCJ(s:aP):ak:=cond (aa (0<=s.bH)) ([32,76,73,77,73,84,32]++sb ⟨3,s.bH,[]⟩) []
def aEj(s:aP):ak:=cond (aa (0<(I s.order:Int))) [32,79,82,68,69,82,32,66,89,32] []
def aCf(s:aP):ak:=[83,69,76,69,67,84,32]++cond (aa ((I s.l:Int)=0)) [42] []++gW gG s.l++([32,70,82,79,77,32]++s.name)++Vq s++aEj s++gW aC7 (s.order.zip s.desc)++aCJ s
def aCW(r:U aq):ak:=[40]++(gW gG r++[41])
def aCS(x:ds):ak:=x.name++[32,61,32]++gG x.e
def gU(s:aP):ak:=if s.kind=1 then nR s else if s.kind=2 then [68,82,79,80,32,84,65,66,76,69,32]++s.name else if s.kind=3 then [67,82,69,65,84,69,32,73,78,68,69,88,32]++(s.name++([32,79,78,32]++(s.on++[32])))++lP s.names else if s.kind=4 then [68,82,79,80,32,73,78,68,69,88,32]++s.name else if s.kind=5 then [73,78,83,69,82,84,32,73,78,84,79,32]++(s.name++[32,86,65,76,85,69,83,32])++gW aCW s.rows else if s.kind=6 then [85,80,68,65,84,69,32]++(s.name++[32,83,69,84,32])++gW aCS s.bT++Vq s else if s.kind=7 then [68,69,76,69,84,69,32,70,82,79,77,32]++s.name++Vq s else aCf s
def avo(R:Type):aR R:=bs [(39,ba Bu),(40,cT PY P3 IN),(41,cT u1 uX gV),(42,cT Hh Hl Bx),(50,cT pe NL wq)] [] [] []
def K'(x:aw [cG]):ae (aw [.str,an]):=match x with|s=>(ou s).bind λx=>cond (!decide (x=0)) (J ([],x)) (cond (aa (s.kind=1)) ((IN (s,[])).bind λf=>(wq f).bind λa=>J (a,0)) (cond (aa (s.kind=2)) ((gV ([[68,82,79,80,32,84,65,66,76,69,32],s.name],[])).bind λg=>(wq g).bind λb=>J (b,0)) (cond (aa (s.kind=3)) ((gV ([[67,82,69,65,84,69,32,73,78,68,69,88,32],s.name,[32,79,78,32],s.on,[32]],[])).bind λh=>(Bx (s.names,h)).bind λi=>(wq i).bind λc=>J (c,0)) (cond (aa (s.kind=4)) ((gV ([[68,82,79,80,32,73,78,68,69,88,32],s.name],[])).bind λj=>(wq j).bind λd=>J (d,0)) (cond (aa (s.kind=5)) ((gV ([[73,78,83,69,82,84,32,73,78,84,79,32],s.name,[32,86,65,76,85,69,83,32]],[])).bind λ_=>aj) (cond (aa (s.kind=6)) ((gV ([[85,80,68,65,84,69,32],s.name,[32,83,69,84,32]],[])).bind λ_=>aj) (cond (aa (s.kind=7)) ((gV ([[68,69,76,69,84,69,32,70,82,79,77,32],s.name],[])).bind λ_=>aj) (cond (aa (s.kind=8)) (aj) ((wq []).bind λe=>J (e,0))))))))))
theorem as7:aU 17 [cG] [.str,an] (K'):=b6 (px:=avo _) (n:=0) Tryz.func17 rfl (λ_ H=>⟨br H (c1 H Hk (aQ H avH (aQ H A7 (aQ H X2 (aQ H az9 bq))))) bo bp,aK⟩) λ_=>by kernel_rfl
def vQ(s:aP):Bool:=cond (aa (s.kind=1)) (tT s) (aa (s.kind=3)&&qm s.names)
def tD(s:aP):ae (ak×Int):=(ou s).bind λx=>cond (!decide (x=0)) (J ([],x)) (cond (vQ s) ((app [] (gU s)).bind λt=>J (t,0)) aj)
def afy:bt [cG] [.str,an]:=λx=>tD x
theorem anp(s:aP)(h:vQ s=ab)(ao:ou s=J 0):K' s=((app [] (gU s)).bind λt=>J (t,0)):=by
 simp only[K',ao,bA,ww,aDJ,ak0,aDK,gU];rw[decide_true,ef,bj];by_cases a:s.kind=1
 .simp only[vQ,a,decide_true,bd]at h;rw[aH a,if_pos a,bd,wt h];rfl
 .simp only[vQ,aL a,bj,bN,fQ]at h;simp[h.1,wn h.2,tj];rfl
theorem av8:aU 17 [cG] [.str,an] afy:=.er as7 λs r al ag=>by
 have ag:tD s=J r:=ag;simp only[tD]at ag;cases ao:ou s with
 |none=>rw[ao]at ag;cases ag
 |some x=>
  rw[ao,bA]at ag;by_cases a:x=0
  .subst a;cases b:vQ s with|false=>rw[b]at ag;cases ag|true=>rw[b]at ag;exact(anp s b ao).trans ag
  .rw[aL a]at ag;rw[<-ag];simp only[K',ao,bA];rw[aL a];rfl
theorem aav{v:dA}:j8 v=0↔iQ v=true:=by simp[j8];cases iQ v<;>simp
def ZW:bn:=⟨88,[(2,.int .i64),(5,.int .i64)],[(1,.ptr 0 0)],[(0,.one (.bm .val))],1,0,0,[],[]⟩
abbrev Ey:=Int×Int×dA
def ts{R:Type}(rec:Ey->ae R)(kx:aX->Ey->ae R)(v:Ey):ae R:=match v with|(v1,v2,w)=>cond (aa (v2<(I w.s:Int))) (cond (aa (w.kind=4)) (ax (a_ v2 (I w.s)) (cond (aa ((b_ w.s v2)<32)) (kx .ret (2,v2,w)) (ax (a_ v2 (I w.s)) (cond (aa (127<=(b_ w.s v2))) (kx .ret (2,v2,w)) (rec (v1,(wr .i64 (v2+1)),w)))))) (kx (.exit 0) (v1,v2,w))) (kx (.exit 0) (v1,v2,w))
def Wh(R:Type)(k:Nat):aR R:=bs [] [] [(6,b8 k ZW (ts))] []
def _h(k:Nat)(x:aw [e6]):ae (aw [an]):=match x with
 |v=>
 let a:=λ(ki:Bool)=>
  let b:=λ(f:Bool)=>
  let c:=λ(_:Unit)=>
   aI (λrec=>ts rec (λe g=>match g with|(v3,_,_)=>match e with
   |.ret=>J v3
   |.exit 0=>J 0
   |_=>aj)) k (0,0,v)
  let d:=λ(h:Bool)=>
   let j:=λ(i:Bool)=>
   cond (i) (
    J 2) (
    cond (!f) (
    cond (!decide (v.s=[])) (
     J 2) (
     cond (aa (1000<(I v.s:Int))) (
     J 2) (
     c ()))) (
    cond (aa (1000<(I v.s:Int))) (
     J 2) (
     c ())))
   cond (h) (
   j ab) (
   cond (!ki) (
    j (!decide (v.n=0))) (
    j ai))
  cond (aa (v.kind<1)) (
   d ab) (
   d (aa (5<v.kind)))
  cond (aa (v.kind=4)) (
  b ab) (
  b (aa (v.kind=5)))
 cond (aa (v.kind=2)) (
  cond (aa (v.n=0)) (
  a ab) (
  cond (aa (v.n=1)) (
   a ab) (
   a (aa (v.kind=3))))) (
  a (aa (v.kind=3)))
theorem at1(k:Nat):aU 183 [e6] [an] (_h k):=b6 (px:=Wh _ k) (n:=1) Tryz.func183 rfl (λah H=>by have c:bP ah (Wh (aw [an]) k):=br H bq bo bp;have a:=cd H c (b:=b0 Tryz.f183 0) (k:=k) (n:=0) (s:=ZW) (step:=ts) (λ_ _ _ (_,_,_)=>by kernel_rfl) aK;exact⟨c,(b9 aK a)⟩) λ_=>by kernel_rfl
abbrev wy(v:dA):Int:=j8 v
def Fi:bt [e6] [an]:=λx=>J (wy x)
theorem Zp{R:Type}{kx:aX->Ey->ae R}{v:dA}{a b:ae R}(d:b1 (I v.s))(g:v.kind=4)(e:∀j,kx .ret (2,j,v)=a)(f:∀q j,kx (.exit 0) (q,j,v)=b):∀(k i:Nat) q,i<=I v.s->I v.s-i<k->aI (λrec=>ts rec kx) k (q,(i:Int),v)=cond ((v.s.drop i).all mV) b a
 |0,i,q,_,h=>by omega
 |k+1,i,q,bO,h=>by
  rw[c6];by_cases c:i<I v.s
  .simp only[ts,c9 c d,(Zp d g e f k (i+1) q af af),e,da c,jr c,cg c,fk,mq];simp[*];simp only[mV];split
   .rw[aL af];rfl
   .split
    .rw[aH af,aL af];rfl
    .rw[aH af,aH af];rfl
  .simp[ts,f,mq]
   grind
theorem av5{kx:aX->Ey->ae R}{v:dA}{b:ae R}(c:¬v.kind=4)(a:kx (.exit 0) (0,0,v)=b)(k:Nat):aI (λrec=>ts rec kx) (k+1) (0,0,v)=b:=by rw[c6];simp only[ts,a,mq];split<;>rfl
theorem Ps:aU 183 [e6] [an] Fi:=.fin 0 at1 λv r al ag=>⟨I v.s+1,by
 simp only[Fi,dN]at ag;subst ag;have o:((0:Nat):Int)=0:=rfl;have c:aI (λrec=>ts rec (λe v=>match v with|(v2,_,_)=>match e with
   |.ret=>J v2
   |.exit 0=>J 0
   |_=>aj)) (I v.s+1) (0,0,v)=cond (aa (v.kind=4) && !o2 v.s) (J (2:Int)) (J 0):=by
  by_cases k:v.kind=4
  .have:=Zp (a:=J (2:Int)) (b:=J 0) al.2.2 k (kx:=λe v=>match v with|(v2,_,_)=>match e with
    |.ret=>J v2
    |.exit 0=>J 0
    |_=>aj) (λ_=>rfl) (λ_ _=>rfl) (I v.s+1) 0 0 (cL _) af
   rw[o]at this;rw[this,aH k,iW,o2];cases v.s.all mV<;>rfl
  .rw[av5 (b:=J 0) k rfl,aL k];rfl
 simp only[_h]at c ⊢;rw[c];have d:v.s=[]->¬(1000<(I v.s:Int)):=λh=>by rw[h];simp
 have hle:aa ((I v.s:Int)<=1000) = !decide (1000<(I v.s:Int)):=by
  by_cases h : 1000<(I v.s:Int)
  .rw[aH h,aL af];rfl
  .rw[aL h,aH af];rfl
 have p:aa (v.s=[])=ab->aa (1000<(I v.s:Int))=false:=λh=>aL (d (of_decide_eq_true h));simp only[j8,iQ,hle];generalize aa (1000<(I v.s:Int))=q at *;generalize aa (v.s=[])=s at *;generalize o2 v.s=w at *;by_cases l:v.kind=1
 .simp only[l];cases aa (v.n=0)<;>cases s<;>simp_all
 by_cases f:v.kind=2
 .simp only[f];exact ai3
 by_cases g:v.kind=3
 .simp only[g];exact ai3
 by_cases i:v.kind=4
 .simp only[i];cases aa (v.n=0)<;>cases w<;>cases q<;>simp_all
 by_cases j:v.kind=5
 .simp only[j];cases aa (v.n=0)<;>cases q<;>simp_all
 rw[aL l,aL f,aL g,aL i,aL j];by_cases m:v.kind<1
 .rw[aH m];rfl
 .rw[aL m,aH (show 5<v.kind by omega)];rfl⟩
def Z5:bn:=⟨58,[(0,.int .u8),(2,.int .i64),(3,.str),(4,.int .i64)],[],[],0,0,0,[],[]⟩
abbrev N4:=Int×Int×ak×Int
def QW{R:Type}(rec:N4->ae R)(kx:aX->N4->ae R)(v:N4):ae R:=match v with|(v,v1,v2,v3)=>cond (aa (v3<(I v2:Int))) (ax (a_ v3 (I v2)) (cond (aa ((b_ v2 v3)=v)) (kx .ret (v,7,v2,v3)) (rec (v,v1,v2,(wr .i64 (v3+1)))))) (kx (.exit 1) (v,v1,v2,v3))
def X_(R:Type)(k:Nat):aR R:=bs [] [] [(15,b8 k Z5 (QW))] []
def Z6(k:Nat)(x:aw [.int .u8]):ae (aw [an]):=match x with
 |c=>
 let a:Bool->ae (aw [an]):=λ(p1:Bool)=>
  cond (p1) (
  J 1) (
  let b:Bool->ae (aw [an]):=λ(p3:Bool)=>
   cond (p3) (
   J 2) (
   let d:Bool->ae (aw [an]):=λ(f:Bool)=>
    cond (f) (
    J 3) (
    cond (aa (c=95)) (
     J 4) (
     cond (aa (c=39)) (
     J 5) (
     let j:Bool->ae (aw [an]):=λ(g:Bool)=>
      cond (g) (
      J 6) (
      cond (aa (c=10)) (
       J 6) (
       cond (aa (c=13)) (
       J 6) (
       aI (λrec=>QW rec (λe h=>match h with|(_,v5,_,_)=>match e with
        |.ret=>
        J v5
        |.exit 1=>
        J 0
        |_=>aj)) k (c,0,[40,41,44,42,61,60,62,43,45,59],0))))
     cond (aa (c=32)) (
      j ab) (
      j (aa (c=9))))))
   cond (aa (48<=c)) (
    d (aa (c<=57))) (
    d ai))
  cond (aa (97<=c)) (
   b (aa (c<=122))) (
   b ai))
 cond (aa (65<=c)) (
  a (aa (c<=90))) (
  a ai)
theorem atH(k:Nat):aU 139 [.int .u8] [an] (Z6 k):=b6 (px:=X_ _ k) (n:=1) Tryz.func139 rfl (λah H=>by have c:bP ah (X_ (aw [an]) k):=br H bq bo bp;have a:=cd H c (b:=b0 Tryz.f139 0) (k:=k) (n:=0) (s:=Z5) (step:=QW) (λ_ _ _ (_,_,_,_)=>by kernel_rfl) aK;exact⟨c,(b9 aK a)⟩) λ_=>by kernel_rfl
def hG(c:Int):Int:=aO.cU c
def xF:bt [.int .u8] [an]:=λx=>J (hG x)
theorem ase:((hg 256).all λn=>aa (Z6 11 (n:Int)=J (aO.cU (n:Int))))=true:=bW
theorem ES:aU 139 [.int .u8] [an] xF:=.fin 0 atH λ(c:Int) r al ag=>⟨11,by
 simp only[xF,dN]at ag;have h : 0<=c/\c<=255:=by have a:ye .u8 c:=al;simp only[ye,df.min,df.max]at a;exact⟨a.1,a.2⟩
 obtain⟨n,rfl⟩:∃n:Nat,c=(n:Int):=⟨c.toNat,by omega⟩;have b:=dH.1 ase n (List.mem_range.2 af);exact(of_decide_eq_true b).trans (congrArg J ag)⟩
def aaT:bn:=⟨37,[(0,.str),(2,.bool),(3,.int .i64)],[],[],0,0,0,[],[]⟩
abbrev G9:=ak×Bool×Int
def y9{R:Type}(rec:G9->ae R)(kx:aX->G9->ae R)(v:G9):ae R:=match v with|(v,v1,v2)=>cond (aa (v2<(I v:Int))) (ax (a_ v2 (I v)) (cond (!decide ((hG (b_ v v2))=2)) (cond (aa (v2=0)) (kx .ret (v,ai,v2)) (cond (!decide ((hG (b_ v v2))=3)) (cond (!decide ((hG (b_ v v2))=4)) (kx .ret (v,ai,v2)) (rec (v,v1,(wr .i64 (v2+1))))) (rec (v,v1,(wr .i64 (v2+1)))))) (rec (v,v1,(wr .i64 (v2+1)))))) (kx (.exit 0) (v,v1,v2))
def afx(R:Type)(k:Nat):aR R:=bs [(139,ba xF)] [] [(2,b8 k aaT (y9))] []
def abr(k:Nat)(x:aw [.str]):ae (aw [.bool]):=match x with
 |s=>aI (λrec=>y9 rec (λe a=>match a with|(v3,v4,_)=>match e with
  |.ret=>J v4
  |.exit 0=>cond (aa (1<=(I v3:Int))) (J (aa ((I v3:Int)<=30))) (J ai)
  |_=>aj)) k (s,ai,0)
theorem awc(k:Nat):aU 114 [.str] [.bool] (abr k):=b6 (px:=afx _ k) (n:=1) Tryz.func114 rfl (λah H=>by have c:bP ah (afx (aw [.bool]) k):=br H (c1 H ES bq) bo bp;have a:=cd H c (b:=b0 Tryz.f114 0) (k:=k) (n:=0) (s:=aaT) (step:=y9) (λ_ _ _ (_,_,_)=>by kernel_rfl) aK;exact⟨c,(b9 aK a)⟩) λ_=>by kernel_rfl
def q4(s:ak):Bool:=aO.qb s
def zF:bt [.str] [.bool]:=λx=>J (q4 x)
theorem aaU{R:Type}{kx:aX->G9->ae R}{s:ak}{c:Bool->ae R}(b:b1 (I s))(d:∀j,kx .ret (s,ai,j)=c ai)(e:∀q j,kx (.exit 0) (s,q,j)=c ab):∀(k i:Nat) q,i<=I s->I s-i<k->aI (λrec=>y9 rec kx) k (s,q,(i:Int))=c (aO.sr (s.drop i) i)
 |0,i,q,_,h=>absurd h (dY _)
 |k+1,i,q,bO,h=>by
  rw[c6];by_cases a:i<I s
  .have dJ:((i+1:Nat):Int)=(i:Int)+1:=af
   simp only[y9,c9 a b,(aaU b d e k (i+1) q af af),d,da a,jr a,cg a,ax,hG,aO.sr,aO.L_]
   grind
  .simp[y9,e];exact CM
theorem IG:aU 114 [.str] [.bool] zF:=.fin 0 awc λs r al ag=>⟨I s+1,by simp only[zF,dN]at ag;subst ag;simp only[abr];refine(aaU (s:=s) (c:=λb=>cond b (cond (aa (1<=(I s:Int))) (J (aa ((I s:Int)<=30))) (J ai)) (J ai)) al (λ_=>rfl) (λ_ _=>rfl) (I s+1) 0 ai (cL _) af).trans ?_;rw[iW,q4,aO.qb];show cond (aO.sr s 0) _ _=_;cases aO.sr s 0<;>cases aa (1<=(I s:Int))<;>rfl⟩
theorem K7(s:ak):q4 s=eQ s:=(aO.UQ s).symm
def aqq(R:Type):aR R:=bs [] [] [] []
def aat(x:aw [an]):ae (aw [.str]):=match x with|kind=>cond (aa (kind<0)) (J []) (cond (aa (15<=kind)) (J []) (ax (a_ kind 15) (J (at' .str [[],[],[],[],[65,78,68],[79,82],[61],[60,62],[60],[60,61],[62],[62,61],[43],[45],[42]] kind))))
theorem axN:aU 119 [an] [.str] (aat):=b6 (px:=aqq _) (n:=0) Tryz.func119 rfl (λ_ H=>⟨br H bq bo bp,aK⟩) λ_=>by kernel_rfl
def aAL:U ak:=[[],[],[],[],[65,78,68],[79,82],[61],[60,62],[60],[60,61],[62],[62,61],[43],[45],[42]]
def mH(k:Int):ak:=if k<0\/15<=k then []else at' .str aAL k
def CX:bt [an] [.str]:=λx=>J (mH x)
theorem Qq:aU 119 [an] [.str] CX:=.er axN λ(k:Int) r _ ag=>by
 simp only[CX,dN]at ag;subst ag;simp only[aat,mH];by_cases a:k<0
 .rw[aH a,if_pos (.inl a)];rfl
 .by_cases b : 15<=k
  .rw[aL a,aH b,if_pos (.inr b)];rfl
  .rw[aL a,aL b,if_neg af];obtain⟨j,rfl⟩:∃j:Nat,k=(j:Int):=⟨k.toNat,by omega⟩;rw[cg (i:=j) (n:=15) af];rfl
theorem axF(k:Int):mH k=vW k:=by
 by_cases h : 4<=k/\k<=14
 .have:k=4\/k=5\/k=6\/k=7\/k=8\/k=9\/k=10\/k=11\/k=12\/k=13\/k=14:=af
  rcases this with rfl|rfl|rfl|rfl|rfl|rfl|rfl|rfl|rfl|rfl|rfl<;>rfl
 .have hm:vW k=[]:=by simp[vW,oP,lM];rw[aL af,aL af,aL af,aL af,aL af,aL af,aL af,aL af,aL af,aL af,aL af]
  rw[hm,mH];by_cases a:k<0\/15<=k
  .rw[if_pos a]
  .rw[if_neg a];have:k=0\/k=1\/k=2\/k=3:=af
   rcases this with rfl|rfl|rfl|rfl<;>rfl
def ayh(R:Type)(rf:bt [bC] [an]):aR R:=bs [(183,ba Fi),(114,ba zF),(119,ba CX),(117,ba rf)] [] [] []
def EJ(rf:bt [bC] [an])(x:aw [bC]):ae (aw [an]):=match x with
 |e=>
 let d:=λ(a:Int)=>
  cond (!decide ((I e.l:Int)=a)) (
  J 31) (
  cond (!decide (e.v=(dA.mk 0 0 []))) (
   J 31) (
   cond (!decide (e.name=[])) (
   J 31) (
   ax (a_ 0 (I e.l)) (
    (rf (at' .expr e.l 0)).bind λx=>
    cond (aa (a=2)) (
     ax (a_ 1 (I e.l)) (
     (rf (at' .expr e.l 1)).bind λf=>J (wr .i64 (1+(max2 x f))))) (
     J (wr .i64 (1+x)))))))
 cond (aa (e.kind=1)) (
  let j:=λ(p1:Bool)=>
  cond (p1) (
   J 31) (
   cond (!decide (e.name=[])) (
   J 31) (
   cond (aa (0<(I e.l:Int))) (
    J 31) (
    J 1)))
  cond (!decide ((wy e.v)=0)) (
  j ab) (
  cond (aa (e.v.kind=3)) (
   j (aa (e.v.n<0))) (
   j ai))) (
  cond (aa (e.kind=2)) (
  cond (!(q4 e.name)) (
   J 31) (
   cond (!decide (e.v=(dA.mk 0 0 []))) (
   J 31) (
   cond (aa (0<(I e.l:Int))) (
    J 31) (
    J 1)))) (
  let c:=λ(b:Bool)=>
   cond (b) (
   d 1) (
   cond (aa ((mH e.kind)=[])) (
    J 31) (
    d 2))
  cond (aa (e.kind=3)) (
   c (aa (e.kind=3))) (
   cond (aa (e.kind=15)) (
   c (aa (e.kind=15))) (
   c (aa (e.kind=16))))))
theorem axA(rf:bt [bC] [an])(a:aU 117 [bC] [an] rf):aU 117 [bC] [an] (EJ rf):=b6 (px:=ayh _ rf) (n:=0) Tryz.func117 rfl (λ_ H=>⟨br H (c1 H Ps (c1 H IG (c1 H Qq (c1 H a bq)))) bo bp,aK⟩) λ_=>by kernel_rfl
def ar(q:U Int)(i:Nat):Int:=q.getD i 0
def sP(e:aq)(q:U Int):Int:=if e.kind=1 then(if j8 e.v=0/\¬(e.v.kind=3/\e.v.n<0)/\e.name=[]/\¬ 0<(I e.l:Int)then 1 else 31)else if e.kind=2 then(if eQ e.name=ab/\e.v=⟨0,0,[]⟩/\¬ 0<(I e.l:Int)then 1 else 31)else if e.kind=3\/e.kind=15\/e.kind=16 then(if(I e.l:Int)=1/\e.v=⟨0,0,[]⟩/\e.name=[]then wr .i64 (1+ar q 0)else 31)else if mH e.kind=[]then 31 else if(I e.l:Int)=2/\e.v=⟨0,0,[]⟩/\e.name=[]then wr .i64 (1+max2 (ar q 0) (ar q 1))else 31
mutual
def eW:aq->Int|.mk k v a7 l=>sP (.mk k v a7 l) (mo l)
def mo:U aq->U Int|[]=>[]|x::l=>eW x::mo l
end
theorem QQ(e:aq):eW e=sP e (mo e.l):=by cases e;simp[eW,aq.l]
def Js:bt [bC] [an]:=λx=>J (eW x)
theorem QF{rf:bt [bC] [an]}(a:∀x,x∈e.l->rf x=J (eW x))(p:Int->ae Int):(cond (!decide ((I e.l:Int)=1)) (J 31) (cond (!decide (e.v=dA.mk 0 0 [])) (J 31) (cond (!decide (e.name=[])) (J 31) (ax (a_ 0 (I e.l)) ((rf (at' .expr e.l 0)).bind λx=>cond (aa ((1:Int)=2)) (p x) (J (wr .i64 (1+x))))))))=J (if(I e.l:Int)=1/\e.v=⟨0,0,[]⟩/\e.name=[]then wr .i64 (1+ar (mo e.l) 0)else 31):=by
 by_cases f:(I e.l:Int)=1
 .obtain⟨x,bz⟩:∃x,e.l=[x]:=List.length_eq_one_iff.1 af;have b:=a x (by rw[bz];simp);rw[bz];have a0:at' .expr [x] 0=x:=rfl;have i0:a_ 0 (I [x])=true:=rfl;by_cases c:e.v=⟨0,0,[]⟩
  .by_cases d:e.name=[]
   .rw[aH c,aH d,if_pos ⟨rfl,c,d⟩,a0,i0,b];rfl
   .grind
  .grind
 .grind
theorem I2{l:U aq}(h:I l=2):∃x y,l=[x,y]:=by match l,h with|[x,y],_=>exact⟨x,y,rfl⟩
theorem aoF{rf:bt [bC] [an]}(a:∀x,x∈e.l->rf x=J (eW x))(p:Int->ae Int):(cond (!decide ((I e.l:Int)=2)) (J 31) (cond (!decide (e.v=dA.mk 0 0 [])) (J 31) (cond (!decide (e.name=[])) (J 31) (ax (a_ 0 (I e.l)) ((rf (at' .expr e.l 0)).bind λx=>cond (aa ((2:Int)=2)) (ax (a_ 1 (I e.l)) ((rf (at' .expr e.l 1)).bind λg=>J (wr .i64 (1+(max2 x g))))) (p x))))))=J (if(I e.l:Int)=2/\e.v=⟨0,0,[]⟩/\e.name=[]then wr .i64 (1+max2 (ar (mo e.l) 0) (ar (mo e.l) 1))else 31):=by
 by_cases h:(I e.l:Int)=2
 .obtain⟨x,y,bz⟩:∃x y,e.l=[x,y]:=I2 af;have b:=a x (by rw[bz];simp);have c:=a y (by rw[bz];simp);rw[bz];have a0:at' .expr [x,y] 0=x:=rfl;have bI:at' .expr [x,y] 1=y:=rfl;have i0:a_ 0 (I [x,y])=true:=rfl;have i1:a_ 1 (I [x,y])=true:=rfl;by_cases d:e.v=⟨0,0,[]⟩
  .by_cases f:e.name=[]
   .rw[aH d,aH f,if_pos ⟨rfl,d,f⟩,a0,i0,bI,i1,b,c];rfl
   .grind
  .grind
 .grind
theorem ate{rf:bt [bC] [an]}(a:∀x,x∈e.l->rf x=J (eW x)):EJ rf e=J (eW e):=by
 have ro:∀v:dA,wy v=j8 v:=λ_=>rfl;have i:∀s:ak,q4 s=eQ s:=K7;have j : 0<I e.l↔¬e.l=[]:=List.length_pos_iff;rw[QQ];simp only[EJ,sP];by_cases f:e.kind=1
 .grind
 .by_cases g:e.kind=2
  .grind
  .rw[if_neg f,if_neg g,aL f,aL g];by_cases d:e.kind=3
   .rw[if_pos (.inl d),aH d];exact QF a _
   .by_cases b:e.kind=15
    .rw[if_pos (.inr (.inl b)),aL d,aH b];exact QF a _
    .by_cases c:e.kind=16
     .rw[if_pos (.inr (.inr c)),aL d,aL b,aH c];exact QF a _
     .rw[if_neg af,aL d,aL b,aL c];by_cases h:mH e.kind=[]
      .grind
      .rw[if_neg h,aL h];exact aoF a _
theorem W3:∀(n:Nat) (e:aq),cm e<=n->aI EJ n e=J (eW e)
 |0,e,h=>by have:=l2 e;omega
 |n+1,e,h=>by rw[c6];refine ate λx ag=>W3 n x ?_;have:=nH ag;rw[l1]at h;omega
theorem Q4:aU 117 [bC] [an] Js:=by refine .fin (ι:=Nat) 0 (F:=λn=>aI EJ n) (λn=>fH.lq (av.enters_of Tryz.func117 rfl rfl) (λrf a=>axA rf a) n) λe r al ag=>⟨cm e,?_⟩;exact(W3 (cm e) e (bU _)).trans ag
def ax9(R:Type):aR R:=bs [(117,ba Js)] [] [] []
def N6(x:aw [bC]):ae (aw [an]):=match x with|e=>cond (aa (30<(eW e))) (J 2) (J 0)
theorem au6:aU 150 [bC] [an] (N6):=b6 (px:=ax9 _) (n:=0) Tryz.func150 rfl (λ_ H=>⟨br H (c1 H Q4 bq) bo bp,aK⟩) λ_=>by kernel_rfl
def rD(e:aq):Int:=cond (aa (30<(eW e))) (2) (0)
theorem awh(x:aw [bC]):N6 x=J (rD x):=by
 first
  |exact rfl
  |simp only[N6,rD,gb]
def aiM:bt [bC] [an]:=λx=>J (rD x)
theorem aol:aU 150 [bC] [an] aiM:=.er au6 λx _ _ ag=>(awh x).trans ag
theorem xQ:∀(n:Nat) (e:aq),cm e<=n->n<1000000->1<=eW e/\eW e<=31+(n:Int)
 |0,e,h,_=>by have:=l2 e;omega
 |n+1,e,h,ck=>by
  have one:(I e.l:Int)=1->1<=wr .i64 (1+ar (mo e.l) 0)/\wr .i64 (1+ar (mo e.l) 0)<=31+((n+1:Nat):Int):=λb=>by
   obtain⟨x,ag⟩:∃x,e.l=[x]:=List.length_eq_one_iff.1 af;have al:=xQ n x AA af;have a:ar (mo e.l) 0=eW x:=AI
   rw[a,d_ ec];omega
  have two:(I e.l:Int)=2->1<=wr .i64 (1+max2 (ar (mo e.l) 0) (ar (mo e.l) 1))/\wr .i64 (1+max2 (ar (mo e.l) 0) (ar (mo e.l) 1))<=31+((n+1:Nat):Int):=λb=>by
   obtain⟨x,y,ag⟩:∃x y,e.l=[x,y]:=I2 af;have al:=xQ n x AA af;have ao:=xQ n y AA af;have a:ar (mo e.l) 0=eW x:=AI
   have c:ar (mo e.l) 1=eW y:=AI
   have hm:max2 (eW x) (eW y)=eW x\/max2 (eW x) (eW y)=eW y:=by simp only[max2];split<;>simp
   rw[a,c];rcases hm with hm|hm<;>rw[hm,d_ ec]<;>omega
  rw[QQ];simp[sP];split
  .split<;>omega
  .grind
variable{k:Int}
theorem awy(h : 4<=k/\k<=14):¬mH k=[]:=by rcases(by omega:k=4\/k=5\/k=6\/k=7\/k=8\/k=9\/k=10\/k=11\/k=12\/k=13\/k=14)with rfl|rfl|rfl|rfl|rfl|rfl|rfl|rfl|rfl|rfl|rfl<;>decide
theorem aoU(b:¬(4<=k/\k<=14)):mH k=[]:=by
 by_cases a:k<0\/15<=k
 .rw[mH,if_pos a]
 .rcases(by omega:k=0\/k=1\/k=2\/k=3)with rfl|rfl|rfl|rfl<;>decide
theorem apo(h:parts k = -1):¬(1<=k/\k<=16):=λa=>by rcases(by omega:k=1\/k=2\/k=3\/k=4\/k=5\/k=6\/k=7\/k=8\/k=9\/k=10\/k=11\/k=12\/k=13\/k=14\/k=15\/k=16)with rfl|rfl|rfl|rfl|rfl|rfl|rfl|rfl|rfl|rfl|rfl|rfl|rfl|rfl|rfl|rfl<;>exact absurd h dM
theorem w9:∀(n:Nat) (e:aq) (m:Nat),cm e<=n->n<1000000->m<=30->(e4 e (m:Int)=ab↔eW e<=(m:Int))
 |0,e,_,h,_,_=>by have:=l2 e;omega
 |n+1,e,m,h,ck,hm=>by
  have al:=xQ (n+1) e h ck;rw[PV];by_cases i:m=0
  .subst i;constructor
   .intro ag;rw[aH (show((0:Nat):Int)=0 from rfl)]at ag;cases ag
   .intro ag;omega
  .have hw:wr .i64 ((m:Int)-1)=((m-1:Nat):Int):=od
   have w:(1:Int)<=(m:Int):=af
   have a:¬(31:Int)<=(m:Int):=af
   rw[hw,aL (show ¬(m:Int)=0 by omega),QQ];rcases EK e.kind with ⟨p,g⟩|⟨p,g⟩|⟨p,g⟩|p
   .rw[p];have dK:aa ((I e.l:Int)=0)=aa (e.l=[]):=hL.2 ⟨λh=>k0 af,λh=>by rw[h];rfl⟩;have aE : 0<I e.l↔¬e.l=[]:=List.length_pos_iff;rw[dK];rcases g with c|d
    .simp only[sP,n3,c];by_cases b:e.l=[]<;>by_cases bI:j8 e.v=0<;>by_cases k:e.v.kind=3<;>by_cases a3:e.v.n<0<;>by_cases a4:e.name=[]<;>simp[b,bI,k,a3,a4,w,a,mj]
    .simp[sP,n3,d];by_cases b:e.l=[]<;>by_cases bI:eQ e.name=ab<;>by_cases k:e.v=⟨0,0,[]⟩<;>simp[b,bI,k,w,a,mj]
   .have c:¬e.kind=1:=af
    have d:¬e.kind=2:=af
    rw[p];simp only[sP,n3,if_neg c,if_neg d,if_pos g,aL c,aL d];by_cases b:(I e.l:Int)=1
    .obtain⟨x,ag⟩:∃x,e.l=[x]:=List.length_eq_one_iff.1 af;have j:cm x<=n:=AA
     have o:=xQ n x j af;have q:e4 x ((m-1:Nat):Int)=ab↔1+eW x<=(m:Int):=(w9 n x (m-1) j af af).trans af;have r:mj e.l ((m-1:Nat):Int)=e4 x ((m-1:Nat):Int):=by rw[ag];simp[mj]
     have i:ar (mo e.l) 0=eW x:=AI
     have f:wr .i64 (1+eW x)=1+eW x:=d_ ec;rw[r,i,f,aH b];by_cases s:e.v=⟨0,0,[]⟩<;>by_cases t:e.name=[]<;>simp[b,s,t,q,a]
    .rw[aL b];simp[b,a]
   .have c:¬e.kind=1:=af
    have d:¬e.kind=2:=af
    have kh:¬(e.kind=3\/e.kind=15\/e.kind=16):=af
    rw[p];simp only[sP,n3,if_neg c,if_neg d,if_neg kh,if_neg (awy g),aL c,aL d];by_cases b:(I e.l:Int)=2
    .obtain⟨x,y,ag⟩:∃x y,e.l=[x,y]:=I2 af;have j:cm x<=n:=AA
     have z:cm y<=n:=AA
     have o:=xQ n x j af;have a5:=xQ n y z af;have q:e4 x ((m-1:Nat):Int)=ab↔1+eW x<=(m:Int):=(w9 n x (m-1) j af af).trans af;have aD3:e4 y ((m-1:Nat):Int)=ab↔1+eW y<=(m:Int):=(w9 n y (m-1) z af af).trans af;have r:mj e.l ((m-1:Nat):Int)=(e4 x ((m-1:Nat):Int)&&e4 y ((m-1:Nat):Int)):=by rw[ag];simp[mj]
     have i:ar (mo e.l) 0=eW x:=AI
     have aY:ar (mo e.l) 1=eW y:=AI
     have f:wr .i64 (1+max2 (eW x) (eW y))=1+max2 (eW x) (eW y):=d_ (by simp[dc,max2];split<;>omega)
     have u : 1+max2 (eW x) (eW y)<=(m:Int)↔(1+eW x<=(m:Int)/\1+eW y<=(m:Int)):=by simp[max2];split<;>omega
     rw[r,i,aY,f,aH b];by_cases s:e.v=⟨0,0,[]⟩<;>by_cases t:e.name=[]<;>simp[b,s,t,q,aD3,u,a]
    .rw[aL b];simp[b,a]
   .have g:=apo p;rw[p,aL (show ¬(I e.l:Int) = -1 by omega)];simp only[sP,if_neg (show ¬e.kind=1 by omega),if_neg (show ¬e.kind=2 by omega),if_neg (show ¬(e.kind=3\/e.kind=15\/e.kind=16) by omega),if_pos (aoU (show ¬(4<=e.kind/\e.kind<=14) by omega))];simp[a]
open aO (jd dt eg hs kV fA fS pre cU qb nA sq sv mU ml n_ oO tK)
def oF(r:ak):Prop:=∀c t,r=c::t->eg (c.toNat:Int)=ai/\c≠39
theorem aq2:oF []:=λ_ _ h=>by cases h
variable{w:ak}
theorem ahz{p q:UInt8->Bool}(h:∀b,p b=ab->q b=ab)(a:w.all p=ab):w.all q=true:=dH.2 λb al=>h b (dH.1 a b al)
theorem air{p:Int->Bool}(d:w.all (λb=>p b.toNat)=ab)(e:∀c t,r=c::t->p (c.toNat:Int)=ai):dt p (w++r)=w:=by rw[aO.alT r e w];have f:=(aO.Mq (p:=p) w).2 d;have a:=aO.Vn p w;rw[f,List.take_length]at a;exact a.symm
theorem aAW{m:ak}(h:∀a t,m=a::39::t->False):pre m [120,39]=false:=by match m,h with|[],_=>rfl|[a],_=>simp[pre]|a::b::t,h=>have al:b≠39:=λe=>h a t (by rw[e]);simp[pre,al]
theorem aCb:eg 39=false:=pw
theorem afj(d:w≠[])(c:w.all (λb=>eg b.toNat)=ab)(g:oF r):pre (w++r) [120,39]=false:=by refine aAW λa t h=>?_;match w,d,c,h with|[x],_,_,h=>simp only[se,nX,mL]at h;exact(g 39 t h.2).2 rfl|x::y::w,_,c,h=>simp only[se,mL]at h;obtain⟨_,rfl,_⟩:=h;simp only[fk,bN]at c;have f:=c.2.1;have e:((39:UInt8).toNat:Int)=39:=rfl;rw[e,aCb]at f;cases f
theorem aAX{c:Int}(h:hs c=ab):cU c=1:=by simp[cU,h]
theorem atm:∀n:Fin 256,kV (n.val:Int)=ab->cU (n.val:Int)=2:=pw
theorem aAJ{b:UInt8}(h:kV b.toNat=ab):cU b.toNat=2:=aO.vP (p:=λc=>kV c=ab->cU c=2) atm b.toNat (aO.oS b) h
theorem aw8(h:nA w=ab)(f:oF r):jd (w++r)=J (1,w,0,I w):=by
 have d:=aO.alZ h;have a:w≠[]:=by rintro rfl;exact absurd h gN
 have g:w.all (λb=>eg b.toNat)=true:=ahz (λb al=>aO.alX b al) d;have i:=afj a g f;have j:=air g (λc t e=>(f c t e).1);cases w with|nil=>exact absurd rfl a|cons c t=>simp only[fk,bN]at d;have ao:cU (av.cf (c::t++r) 0)=1:=aAX d.1;unfold jd;rw[i,j,if_neg (by simp),if_pos ao,if_pos h]
theorem atl(h:qb w=ab):∃c t,w=c::t/\kV c.toNat=ab/\w.all (λb=>fS b.toNat)=true:=by cases w with|nil=>cases h|cons c t=>simp only[qb,aO.alu,bN]at h;exact⟨c,t,rfl,h.1.1,by simp only[fk,bN];exact⟨aO.alk h.1.1,h.1.2⟩⟩
theorem avN(h:qb w=ab)(a:oF r):jd (w++r)=J (2,w,0,I w):=by obtain⟨c,t,rfl,f,g⟩:=atl h;have d:(c::t).all (λb=>eg b.toNat)=true:=ahz (λb al=>aO.UK b al) g;have i:=afj (by simp) d a;have j:=air d (λc t e=>(a c t e).1);have ao:cU (av.cf (c::t++r) 0)=2:=aAJ f;unfold jd;rw[i,j,if_neg (by simp),if_neg (by rw[ao];decide),if_pos ao,if_pos h]
theorem awO(x:ak):o2 x=aO.CI x:=by
 have e:∀b:UInt8,mV b=aO.mV (b.toNat:Int):=λb=>by simp only[mV,aO.mV];rw[show aa (32<=b.toNat)=aa (32<=(b.toNat:Int)) from hL.2 af,show aa (b.toNat<=126)=aa ((b.toNat:Int)<=126) from hL.2 af]
 simp only[o2,aO.CI];congr 1;funext b;exact e b
theorem anW(x:ak):iQ (dA.mk 4 0 x)=aO.tV 4 0 x:=by show cond (aa ((I x:Int)<=1000)) (o2 x) ai=(aa ((I x:Int)<=1000)&&aO.CI x);rw[awO];cases aa ((I x:Int)<=1000)<;>rfl
end Go.Proofs.YtdelkmpkjibigaaGreatDoor
namespace Go.Proofs.YtdelkmpkjibigaaGreatDoor
open Go.ft
open aO (jd)
def KD(r:ak):Prop:=∀c t,r=c::t->c=32\/c=41\/c=44
theorem ajZ(t:ak):KD (32::t):=λ_ _ e=>by cases e;exact .inl rfl
theorem aC3(t:ak):KD (41::t):=λ_ _ e=>by cases e;exact .inr (.inl rfl)
theorem aCc(t:ak):KD (44::t):=λ_ _ e=>by cases e;exact .inr (.inr rfl)
theorem GO{r:ak}(h:KD r):oF r:=λc t e=>by rcases h c t e with rfl|rfl|rfl<;>exact⟨by decide +kernel,by decide⟩
variable{e:aq}
theorem azc(h:n3 e.kind e.v e.name=ab)(a:e.kind=1):iQ e.v=ab/\(e.v.kind=3->0<=e.v.n)/\e.name=[]:=by
 simp only[n3]at h;rw[aH a,aL (show ¬e.kind=2 by omega),bd,bj]at h;simp[ Bool.and_eq_false_iff]at h;obtain⟨⟨b,d⟩,c⟩:=h;refine⟨?_,λh=>?_,c⟩
 .simp[j8]at b
  grind
 .grind
theorem amV(h:n3 e.kind e.v e.name=ab)(a:e.kind=2):eQ e.name=ab/\e.v=⟨0,0,[]⟩:=by
 simp only[n3]at h
 grind
theorem aBr(h:n3 e.kind e.v e.name=ab)(a:¬e.kind=1)(b:¬e.kind=2):e.v=⟨0,0,[]⟩/\e.name=[]:=by
 simp only[n3]at h
 grind
theorem ayL{a b:aq}(c:a.kind=b.kind)(d:a.v=b.v)(e:a.name=b.name)(f:a.l=b.l):a=b:=by cases a;cases b;simp[aq.kind,aq.v,aq.name,aq.l]at c d e f;rw[c,d,e,f]
def w3(k:Int):Prop:=4<=k/\k<=14
inductive Shape:aq->Prop where
 |atom (e:aq) (h:e.kind=1\/e.kind=2):Shape e
 |not (x:aq):Shape (.mk 3 ⟨0,0,[]⟩ [] [x])
 |neg (x:aq):Shape (.mk 15 ⟨0,0,[]⟩ [] [x])
 |L7 (x:aq):Shape (.mk 16 ⟨0,0,[]⟩ [] [x])
 |op (k:Int) (x y:aq) (h:w3 k):Shape (.mk k ⟨0,0,[]⟩ [] [x,y])
variable{m:Int}
theorem Ast(h:e4 e m=ab):Shape e:=by
 obtain⟨g,c,_⟩:=AL h;by_cases b:e.kind=1\/e.kind=2
 .exact .atom e b
 .obtain⟨d,f⟩:=aBr c (λh=>b (.inl h)) (λh=>b (.inr h));have a:e = .mk e.kind ⟨0,0,[]⟩ [] e.l:=ayL rfl d f rfl;rcases EK e.kind with ⟨p,q⟩|⟨p,q⟩|⟨p,q⟩|p
  .exact absurd q b
  .obtain⟨x,ag⟩:∃x,e.l=[x]:=List.length_eq_one_iff.1 af;rw[ag]at a;rcases q with q|q|q<;>rw[q]at a<;>rw[a]
   .exact .not x
   .exact .neg x
   .exact .L7 x
  .obtain⟨x,y,ag⟩:∃x y,e.l=[x,y]:=by match i:e.l,(show I e.l=2 by omega)with|[x,y],_=>exact⟨x,y,rfl⟩
   rw[ag]at a;rw[a];exact .op _ x y q
  .omega
theorem af2(x:aq):gG (.mk 3 ⟨0,0,[]⟩ [] [x])=40::([78,79,84]++32::(gG x++[41])):=by simp[gG,x7]
theorem aij(x:aq):gG (.mk 15 ⟨0,0,[]⟩ [] [x])=40::45::(gG x++[41]):=by simp[gG,x7]
theorem aiT(x:aq):gG (.mk 16 ⟨0,0,[]⟩ [] [x])=40::(gG x++32::73::83::32::78::85::76::76::[41]):=by simp[gG,x7]
variable{k:Int}
theorem ac9(h:w3 k)(x y:aq):gG (.mk k ⟨0,0,[]⟩ [] [x,y])=40::(gG x++32::(vW k++32::(gG y++[41]))):=by
 simp[w3]at h;simp only[gG,x7,Ux]
 grind
theorem WO{x:aq}(h:e4 e m=ab)(ag:x∈e.l):∃a6,e4 x a6 = true:=by
 obtain⟨_,_,a⟩:=AL h;rw[TP]at a
 grind
section
variable {α:Type}(f : α->ak) (P : α->Prop) (D:ak->Prop)
end
theorem E6:∀l:U ak,Lib.join l [44,32]=gW (λx=>x) l
 |[]=>rfl
 |[x]=>by simp[Lib.join,gW,iG]
 |x::y::l=>by
  have a:=E6 (y::l);have e:Lib.join (x::y::l) [44,32]=x++([44,32]++Lib.join (y::l) [44,32]):=by simp[Lib.join,List.intercalate,List.intersperse]
  simp only[gW,iG]at a ⊢;rw[e,a];simp only[hp]
def EP(e:aq):Prop:=e4 e 30=ab/\fK e
def ajc(c:bk):Prop:=jC c=ab/\eQ c.name=ab
theorem acJ:parts k=0↔(k=1\/k=2):=by
 rcases EK k with ⟨p,h⟩|⟨p,h⟩|⟨p,h⟩|p
 .exact⟨λ_=>h,λ_=>p⟩
 .exact⟨λq=>by omega,λq=>by omega⟩
 .exact⟨λq=>by omega,λq=>by omega⟩
 .refine⟨λq=>by omega,λq=>?_⟩;rcases q with rfl|rfl<;>decide
theorem Sp{l:U aq}(h:k9 l=ab)(al:jR fK l):∀x,x∈l->EP x:=λx ag=>by simp only[k9,bN]at h;exact⟨dH.1 h.2 x ag,al.2 x ag⟩
theorem FM{l:U ak}(h:hH l=ab):∀x,x∈l->eQ x=true:=by simp only[hH,bN]at h;exact((VK l []).1 h.1).1
theorem C3{α:Type}{l:U α}(h:g_ (I l:Int)=ab):l≠[]:=λe=>by rw[Qk,e]at h;simp at h
variable{s:aP}
theorem aBZ(h:hW s=h1)(a:s.kind=1):s={ h1 with kind:=1,name:=s.name,ay:=s.ay,names:=s.names,l:=s.l }:=adk
theorem ajC(h:hW s=h1)(a:s.kind=3):s={ h1 with kind:=3,name:=s.name,on:=s.on,names:=s.names }:=adk
theorem rU(h:ei s=ab):(eQ s.name=ab/\hW s=h1)/\((s.kind=1/\(∀c,c∈s.ay->ajc c)/\s.ay≠[]/\s.names≠[]/\(∀x,x∈s.names->eQ x=ab)/\k9 s.l=ab)
  \/ (s.kind=2\/s.kind=4)\/(s.kind=3/\eQ s.on=ab/\s.names≠[]/\∀x,x∈s.names->eQ x=ab)\/(s.kind=5/\s.rows≠[]/\∀r,r∈s.rows->r≠[]/\k9 r=ab)
  \/ (s.kind=6/\s.bT≠[]/\(∀x,x∈s.bT->e4 x.e 30=ab/\eQ x.name=ab)/\mz s=ab)\/(s.kind=7/\mz s=ab)
  \/ (s.kind=8/\k9 s.l=ab/\mz s=ab/\(∀x,x∈s.order->eQ x=ab)/\I s.desc=I s.order /\ -1<=s.bH)):=by
 simp only[ei,bN,fQ]at h;refine⟨h.1,?_⟩;have h:=h.2;by_cases b:s.kind=1
 .rw[if_pos b]at h;simp only[bN]at h;obtain⟨⟨⟨⟨⟨bI,d⟩,f⟩,g⟩,i⟩,p⟩:=h;refine .inl ⟨b,λc ao=>⟨dH.1 bI c ao,FM f _ (List.mem_map.2 ⟨c,ao,rfl⟩)⟩,C3 d,C3 g,FM i,p⟩
 rw[if_neg b]at h;by_cases j:s.kind=3
 .rw[if_pos j]at h;simp only[bN]at h;exact .inr (.inr (.inl ⟨j,h.1.1,C3 h.1.2,FM h.2⟩))
 rw[if_neg j]at h;by_cases a:s.kind=2\/s.kind=4
 .exact .inr (.inl a)
 rw[if_neg a]at h;by_cases k:s.kind=5
 .rw[if_pos k]at h;simp only[wI,bN]at h;refine .inr (.inr (.inr (.inl ⟨k,C3 h.1,λr q=>?_⟩)));have:=dH.1 h.2 r q;simp only[uk,bN,Bool.not_eq_true',decide_eq_false_iff_not]at this;exact⟨λe=>this.1 (by rw[e];rfl),this.2⟩
 rw[if_neg k]at h;by_cases m:s.kind=6
 .rw[if_pos m]at h;simp only[bN]at h;exact .inr (.inr (.inr (.inr (.inl ⟨m,C3 h.1.1.2,λx ag=>⟨dH.1 h.1.1.1 x ag,FM h.1.2 _ (List.mem_map.2 ⟨x,ag,rfl⟩)⟩,h.2⟩))))
 rw[if_neg m]at h;by_cases n:s.kind=7
 .rw[if_pos n]at h;exact .inr (.inr (.inr (.inr (.inr (.inl ⟨n,h⟩)))))
 rw[if_neg n]at h;by_cases o:s.kind=8
 .rw[if_pos o]at h;simp only[bN,fQ]at h;obtain⟨⟨⟨⟨bI,d⟩,f⟩,g⟩,i⟩:=h;exact .inr (.inr (.inr (.inr (.inr (.inr ⟨o,bI,d,FM f,g,i⟩)))))
 rw[if_neg o]at h;cases h
end Go.Proofs.YtdelkmpkjibigaaGreatDoor
namespace Go.Proofs.YtdelkmpkjibigaaGreatDoor
open Go.ft
variable{i:Nat}
theorem aAt{l:U Int}(h:i<I l):at' .int l (i:Int)=si l i:=by rw[cR (c:=.int) h];simp[si,h]
def _8:bn:=⟨29,[(0,.bool),(1,.sl .int ai),(5,.int .i64)],[(4,.ptr 0 0)],[(0,.one (.bm .num))],1,0,0,[],[]⟩
abbrev G6:=Bool×U Int×Int×nf
def B3{R:Type}(rec:G6->ae R)(kx:aX->G6->ae R)(v:G6):ae R:=match v with|(v,v1,v2,w)=>cond (aa (0<v2)) (ax (a_ (wr .i64 (v2-1)) (I v1)) (cond (aa ((at' .int v1 (wr .i64 (v2-1)))=0)) (rec (v,v1,(wr .i64 (v2-1)),w)) (kx (.exit 0) (v,v1,v2,w)))) (kx (.exit 0) (v,v1,v2,w))
def afN(R:Type)(k:Nat):aR R:=bs [] [] [(2,b8 k _8 (B3))] []
def aa2(k:Nat)(x:aw [.bool,LP]):ae (aw [.bm .num]):=match x with
 |(m,d)=>aI (λrec=>B3 rec (λe b=>match b with|(v3,v4,a,_)=>match e with
  |.exit 0=>cond (v3) (ax (dP 0 a (I v4)) (J (nf.mk (aa (0<a)) (v4.take (a:Int).toNat)))) (ax (dP 0 a (I v4)) (J (nf.mk ai (v4.take (a:Int).toNat))))
  |_=>aj)) k (m,d,(I d:Int),(nf.mk ai []))
theorem axG(k:Nat):aU 120 [.bool,LP] [.bm .num] (aa2 k):=b6 (px:=afN _ k) (n:=1) Tryz.func120 rfl (λah H=>by have c:bP ah (afN (aw [.bm .num]) k):=br H bq bo bp;have a:=cd H c (b:=b0 Tryz.f120 0) (k:=k) (n:=0) (s:=_8) (step:=B3) (λ_ _ _ (_,_,_,_)=>by kernel_rfl) aK;exact⟨c,(b9 aK a)⟩) λ(_,_)=>by kernel_rfl
def y2(m:Bool)(d:U Int):nf:=⟨m&&aa (0<(I (m9 d):Int)),m9 d⟩
def MJ:bt [.bool,LP] [.bm .num]:=λx=>J (y2 x.1 x.2)
theorem aaA{R:Type}{kx:aX->G6->ae R}{m:Bool}{d:U Int}{w:nf}{b:ae R}(j:b1 (I d))(g:∀i:Nat,i<=I d->d.take i=m9 d->kx (.exit 0) (m,d,(i:Int),w)=b):∀(i k:Nat),i<=I d->i<k->m9 (d.take i)=m9 d->aI (λrec=>B3 rec kx) k (m,d,(i:Int),w)=b
 |i,0,_,h,_=>by omega
 |0,k+1,bO,_,b'=>by rw[c6];simp only[B3];exact g 0 bO b'
 |i+1,k+1,bO,h,b'=>by
  rw[c6];have e:i<I d:=af
  have l:wr .i64 (((i+1:Nat):Int)-1)=(i:Int):=by rw[d_ (by simp[dc,b1]at *;omega)];omega
  simp only[B3];rw[aH (show(0:Int)<((i+1:Nat):Int) by omega),l,cg e,cR (c:=.int) e];have a:=b';rw[List.take_add_one,ic e]at a;by_cases f:d[i]=0
  .rw[aH f];refine aaA j g i k af af ?_;rw[<-a,f];exact(_Y _).symm
  .rw[aL f];refine g (i+1) bO ?_;rw[<-a,List.take_add_one,ic e];exact(aao f _).symm
theorem aoC:aU 120 [.bool,LP] [.bm .num] MJ:=.fin 0 axG λ(m,d) r al ag=>⟨I d+1,by
 simp only[MJ,dN]at ag;subst ag;simp only[aa2];refine aaA al.2.1 (λi c b=>?_) (I d) (I d+1) (bU _) af (by rw[List.take_length]);have a:I (m9 d)=i:=by rw[<-b];simp;omega
 have e:dP 0 (i:Int) (I d)=true:=by rw[show(0:Int)=((0:Nat):Int) from rfl,adY];simp[c]
 rw[e];simp only[rz,Int.toNat_natCast,b,y2,a];cases m<;>rfl⟩
theorem azE{m:Bool}{d:U Int}(h:ix d=ab):y2 m d=DI m (val d):=by
 have b:=Sz h;simp[y2,DI,(_Q h)];by_cases a:val d=0
 .rw[a,show hK (Int.toNat 0)=[] from p8];rfl
 .rw[qK (n:=(val d).toNat) af,aH (show(0:Int)<val d by omega)]
  simp_all
def afk:bn:=⟨24,[(0,.int .i64),(3,.sl .int ab),(4,.int .i64)],[(2,.ptr 0 0)],[(0,.one (.bm .num))],1,0,0,[],[]⟩
abbrev Jg:=Int×U Int×Int×nf
def D8{R:Type}(rec:Jg->ae R)(kx:aX->Jg->ae R)(v:Jg):ae R:=match v with|(v,v1,v2,w)=>cond (!decide (v2=0)) (ax (aa (I v1+1<=bY)) (rec (v,(v1++[(max2 (gZ v2 10) (wr .i64 (0-(gZ v2 10))))]),(wr .i64 (f' v2 10)),w))) (kx (.exit 0) (v,v1,v2,w))
def acu(R:Type)(k:Nat):aR R:=bs [(120,ba MJ)] [] [(3,b8 k afk (D8))] []
def aeB(k:Nat)(x:aw [an]):ae (aw [.bm .num]):=match x with
 |n=>aI (λrec=>D8 rec (λe a=>match a with|(v3,v4,_,_)=>match e with
  |.exit 0=>J (y2 (aa (v3<0)) v4)
  |_=>aj)) k (n,[],n,(nf.mk ai []))
theorem azg(k:Nat):aU 60 [an] [.bm .num] (aeB k):=b6 (px:=acu _ k) (n:=1) Tryz.func60 rfl (λah H=>by have c:bP ah (acu (aw [.bm .num]) k):=br H (c1 H aoC bq) bo bp;have a:=cd H c (b:=b0 Tryz.f60 0) (k:=k) (n:=0) (s:=afk) (step:=D8) (λ_ _ _ (_,_,_,_)=>by kernel_rfl) aK;exact⟨c,(b9 aK a)⟩) λ_=>by kernel_rfl
abbrev Vf(n:Int):nf:=Aw n
def RI:bt [an] [.bm .num]:=λx=>J (Vf x)
variable{x:Int}
theorem avj(ag:dc x)(d:¬x=0):max2 (gZ x 10) (wr .i64 (0-gZ x 10))=((x.natAbs % 10:Nat):Int)/\dc (wr .i64 (f' x 10))/\(wr .i64 (f' x 10)).natAbs=x.natAbs / 10:=by
 simp[dc]at *;rcases Int.natAbs_eq x with h|h
 .generalize x.natAbs=a at h;subst h;have b:gZ (a:Int) 10=((a % 10:Nat):Int):=rfl;have c:f' (a:Int) 10=((a / 10:Nat):Int):=rfl;rw[b,c,d_ ec,d_ ec];simp only[max2];split<;>omega
 .generalize x.natAbs=a at h;subst h;have b:gZ (-(a:Int)) 10 = -((a % 10:Nat):Int):=by rw[Int.neg_tmod];rfl
  have c:f' (-(a:Int)) 10 = -((a / 10:Nat):Int):=by rw[Int.neg_tdiv];rfl
  rw[b,c,d_ ec,d_ ec];simp only[max2];split<;>omega
theorem aet{R:Type}{kx:aX->Jg->ae R}{n:Int}{w:nf}{b:U Int->ae R}(d:∀out x,kx (.exit 0) (n,out,x,w)=b out):∀(k:Nat) (x:Int) (out:U Int),dc x->I (hK x.natAbs)<k->I out+I (hK x.natAbs)<=1000->aI (λrec=>D8 rec kx) k (n,out,x,w)=b (out++hK x.natAbs)
 |0,x,out,_,h,_=>by omega
 |k+1,x,out,ag,h,bS=>by
  rw[c6];simp only[D8,d];by_cases a:x=0
  .subst a;rw[aH rfl];show b out=_;rw[show(0:Int).natAbs=0 from rfl,p8,kq]
  .have ar:=qK (n:=x.natAbs) af;obtain⟨e,f,c⟩:=avj ag a;rw[ar,eo]at h bS;have g:=aet d k (wr .i64 (f' x 10)) (out++[((x.natAbs % 10:Nat):Int)]) f (by rw[c];omega) (by rw[c];simp[ dB];omega);rw[aL a,e,g,c,aH (show I out+1<=bY by simp[bY];omega),ar];simp[ax]
theorem aev(h:dc x):I (hK x.natAbs)<=20:=HT 20 _ (by
 simp[dc]at h;have:yo 20=100000000000000000000:=bW
 omega)
theorem aBw:aU 60 [an] [.bm .num] RI:=.fin 0 azg λn r al ag=>⟨21,by have al:=j6 al;have a:=aev al;simp only[RI,dN]at ag;subst ag;simp only[aeB];refine(aet (b:=λout=>J (y2 (aa (n<0)) out)) (λ_ _=>rfl) 21 n [] al af (by simp only[dB];omega)).trans ?_;rw[nX,azE (agX _),apC];rfl⟩
def aas:bn:=⟨30,[(3,.str),(4,.int .i64)],[(1,.ptr 0 0)],[(0,.one (.bm .num))],1,0,0,[],[]⟩
abbrev Hv:=ak×Int×nf
def zH{R:Type}(rec:Hv->ae R)(kx:aX->Hv->ae R)(v:Hv):ae R:=match v with|(v,v1,w)=>cond (aa (v1<(I w.d:Int))) (ax (a_ v1 (I w.d)) (ax (aa (I [(eh ((wr .u8 (wr .i64 (48+(at' .int w.d v1)))):Int).toNat)]+I v<=c0)) (rec (([(eh ((wr .u8 (wr .i64 (48+(at' .int w.d v1)))):Int).toNat)]++v),(wr .i64 (v1+1)),w)))) (kx (.exit 0) (v,v1,w))
def aen(R:Type)(k:Nat):aR R:=bs [] [] [(3,b8 k aas (zH))] []
def abH(k:Nat)(x:aw [.bm .num]):ae (aw [.str]):=match x with
 |n=>aI (λrec=>zH rec (λe a=>match a with|(v2,_,v4)=>match e with
  |.exit 0=>cond (aa (v2=[])) (J [48]) (cond (v4.minus) (ax (aa (I [45]+I v2<=c0)) (J ([45]++v2))) (J v2))
  |_=>aj)) k ([],0,n)
theorem awT(k:Nat):aU 61 [.bm .num] [.str] (abH k):=b6 (px:=aen _ k) (n:=1) Tryz.func61 rfl (λah H=>by have c:bP ah (aen (aw [.str]) k):=br H bq bo bp;have a:=cd H c (b:=b0 Tryz.f61 0) (k:=k) (n:=0) (s:=aas) (step:=zH) (λ_ _ _ (_,_,_)=>by kernel_rfl) aK;exact⟨c,(b9 aK a)⟩) λ_=>by kernel_rfl
def D2(n:nf):ae ak:=cond (ix n.d&&aa (I n.d<=100)) (J (if iA n.d=[]then [48]else if n.minus=ab then 45::iA n.d else iA n.d)) aj
def Mz:bt [.bm .num] [.str]:=λx=>D2 x
theorem aCy{d:Int}(h : 0<=d/\d<=9):eh ((wr .u8 (wr .i64 (48+d))):Int).toNat=sh d:=by
 have e:wr .u8 (wr .i64 (48+d))=48+d:=by simp only[wr,df.wrap,kp];simp;omega
 rw[e];rfl
theorem apX{l:U Int}(h:i<I l):iA (l.take (i+1))=sh (si l i)::iA (l.take i):=by
 have e:l.take (i+1)=l.take i++[si l i]:=by simp[si,h]
 rw[e];simp[iA]
theorem abF{R:Type}{kx:aX->Hv->ae R}{n:nf}{b:ak->ae R}(ar:ix n.d=ab)(l:I n.d<=100)(f:∀s j,kx (.exit 0) (s,j,n)=b s):∀(k i:Nat),i<=I n.d->I n.d-i<k->aI (λrec=>zH rec kx) k (iA (n.d.take i),(i:Int),n)=b (iA n.d)
 |0,i,_,h=>absurd h (dY _)
 |k+1,i,bO,h=>by
  rw[c6];by_cases c:i<I n.d
  .have e:b1 (I n.d):=iC
   have g:=abF ar l f k (i+1) af af;rw[apX c]at g;have a:=Dh (n.d.take i);rw[jL]at a;simp only[zH,c9 c e,aAt c,cg c,aCy (aBs ar i)];rw[aH (show(i:Int)<(I n.d:Int) by omega)];refine(rz rfl).trans ((rz (aH ?_)).trans g);simp[ c0];omega
  .simp only[zH,f]
   grind
theorem aqc:aU 61 [.bm .num] [.str] Mz:=.fin 0 awT λn r al ag=>⟨101,by
 simp only[Mz,D2]at ag;cases ao:ix n.d&&aa (I n.d<=100)with
 |false=>rw[ao]at ag;cases ag
 |true=>
  rw[ao]at ag;simp only[bN,fQ]at ao;simp only[abH];refine(abF (b:=λs=>cond (aa (s=[])) (J [48]) (cond n.minus (ax (aa (I [45]+I s<=c0)) (J ([45]++s))) (J s))) ao.1 ao.2 (λ_ _=>rfl) 101 0 (cL _) af).trans ?_;rw[<-ag];have c:=Dh n.d;have hm:aa (I [45]+I (iA n.d)<=c0)=true:=aH (by simp only[eo,dB,c0];omega);simp only[hm,ax,bd];by_cases a:iA n.d=[]
  .rw[aH a,if_pos a];rfl
  .rw[aL a,if_neg a];cases n.minus<;>rfl⟩
theorem ayQ{n:Int}(h:dc n):D2 (Aw n)=J (wW n):=by
 have f:I (hK n.natAbs)<=20:=aev h;have ar:(Aw n).d=hK n.natAbs:=by simp[Aw,DI]
 have a:(Aw n).minus=aa (n<0):=by
  simp only[Aw,DI]
  grind
 simp only[D2,ar,a,agX,wW];by_cases b:n=0
 .subst b;rw[show(0:Int).natAbs=0 from rfl,p8];rfl
 .have c:¬iA (hK n.natAbs)=[]:=λe=>by have:=congrArg List.length e;rw[Dh,qK (n:=n.natAbs) af]at this;simp at this
  grind
def _b:bn:=⟨92,[(6,.str),(7,.str),(8,.int .i64)],[(1,.ptr 0 0)],[(0,.one (.bm .val))],1,0,0,[],[]⟩
abbrev Lr:=ak×ak×Int×dA
def BH{R:Type}(rec:Lr->ae R)(kx:aX->Lr->ae R)(v:Lr):ae R:=match v with|(v6,bb,bK,w1)=>cond (aa (bK<(I w1.s:Int))) (ax (a_ bK (I w1.s)) (ax (a_ bK (I w1.s)) (ax (dP (wr .u8 (f' (b_ w1.s bK) 16)) (wr .u8 ((wr .u8 (f' (b_ w1.s bK) 16))+1)) (I v6)) (ax (aa (I bb+I (cut v6 (wr .u8 (f' (b_ w1.s bK) 16)) (wr .u8 ((wr .u8 (f' (b_ w1.s bK) 16))+1)))<=c0)) (ax (a_ bK (I w1.s)) (ax (a_ bK (I w1.s)) (ax (dP (gZ (b_ w1.s bK) 16) (wr .u8 ((gZ (b_ w1.s bK) 16)+1)) (I v6)) (ax (aa (I (bb++(cut v6 (wr .u8 (f' (b_ w1.s bK) 16)) (wr .u8 ((wr .u8 (f' (b_ w1.s bK) 16))+1))))+I (cut v6 (gZ (b_ w1.s bK) 16) (wr .u8 ((gZ (b_ w1.s bK) 16)+1)))<=c0)) (rec (v6,((bb++(cut v6 (wr .u8 (f' (b_ w1.s bK) 16)) (wr .u8 ((wr .u8 (f' (b_ w1.s bK) 16))+1))))++(cut v6 (gZ (b_ w1.s bK) 16) (wr .u8 ((gZ (b_ w1.s bK) 16)+1)))),(wr .i64 (bK+1)),w1)))))))))) (kx (.exit 3) (v6,bb,bK,w1))
def Zo:bn:=⟨92,[(4,.str),(5,.int .i64)],[(1,.ptr 0 0)],[(0,.one (.bm .val))],1,0,0,[],[]⟩
abbrev LO:=ak×Int×dA
def BF{R:Type}(rec:LO->ae R)(kx:aX->LO->ae R)(v:LO):ae R:=match v with|(v1,v2,w)=>cond (aa (v2<(I w.s:Int))) (ax (dP v2 (wr .i64 (v2+1)) (I w.s)) (ax (aa (I v1+I (cut w.s v2 (wr .i64 (v2+1)))<=c0)) (ax (a_ v2 (I w.s)) (cond (aa ((b_ w.s v2)=39)) (ax (aa (I (v1++(cut w.s v2 (wr .i64 (v2+1))))+I [39]<=c0)) (rec (((v1++(cut w.s v2 (wr .i64 (v2+1))))++[39]),(wr .i64 (v2+1)),w))) (rec ((v1++(cut w.s v2 (wr .i64 (v2+1)))),(wr .i64 (v2+1)),w)))))) (kx (.exit 1) (v1,v2,w))
def XZ(R:Type)(k:Nat):aR R:=bs [(183,ba Fi),(60,ba RI),(61,ba Mz)] [] [(16,b8 k Zo (BF)),(25,b8 k _b (BH))] []
def _E(k:Nat)(x:aw [e6]):ae (aw [.str]):=match x with
 |v=>cond (!decide ((wy v)=0)) (J []) (cond (aa (v.kind=1)) (J [78,85,76,76]) (cond (aa (v.kind=2)) (cond (aa (v.n=0)) (J [70,65,76,83,69]) (J [84,82,85,69])) (cond (aa (v.kind=3)) ((D2 (Vf v.n)).bind λx=>J x) (cond (aa (v.kind=4)) (aI (λrec=>BF rec (λe b=>match b with|(v3,_,_)=>match e with
    |.exit 1=>ax (aa (I v3+I [39]<=c0)) (J (v3++[39]))
    |_=>aj)) k ([39],0,v)) (aI (λrec=>BH rec (λe b=>match b with|(_,a,_,_)=>match e with
    |.exit 3=>ax (aa (I a+I [39]<=c0)) (J (a++[39]))
    |_=>aj)) k ([48,49,50,51,52,53,54,55,56,57,97,98,99,100,101,102],[120,39],0,v))))))
theorem atI(k:Nat):aU 118 [e6] [.str] (_E k):=b6 (px:=XZ _ k) (n:=2) Tryz.func118 rfl (λah H=>by have d:bP ah (XZ (aw [.str]) k):=br H (c1 H Ps (c1 H aBw (c1 H aqc bq))) bo bp;have a:=cd H d (b:=b0 Tryz.f118 0) (k:=k) (n:=0) (s:=Zo) (step:=BF) (λ_ _ _ (_,_,_)=>by kernel_rfl) aK;have c:=cd H d (b:=b0 Tryz.f118 1) (k:=k) (n:=0) (s:=_b) (step:=BH) (λ_ _ _ (_,_,_,_)=>by kernel_rfl) aK;exact⟨d,(b9 (b9 aK a) c)⟩) λ_=>by kernel_rfl
abbrev ac0(v:dA):ak:=sb v
def Qt:bt [e6] [.str]:=λx=>J (ac0 x)
theorem LZ{l:ak}(h:i<I l):cut l (i:Int) ((i+1:Nat):Int)=[l[i]]:=by simp[cut,Int.toNat_natCast];rw[da h];rfl
theorem PD{R:Type}{kx:aX->LO->ae R}{v:dA}{b:ak->ae R}(l:I v.s<=1000)(d:∀s j,kx (.exit 1) (s,j,v)=b s):∀(k i:Nat) (acc:ak),i<=I v.s->I v.s-i<k->I acc<=2*i+1->aI (λrec=>BF rec kx) k (acc,(i:Int),v)=b (acc++quo (v.s.drop i))
 |0,i,_,_,h,_=>absurd h (dY _)
 |k+1,i,acc,bO,h,c5=>by
  rw[c6];by_cases c:i<I v.s
  .have f:b1 (I v.s):=iC
   have m:dP (i:Int) ((i+1:Nat):Int) (I v.s)=true:=by rw[adY,aH (Nat.le_succ i),aH (show i+1<=I v.s by omega)];rfl
   have bI:aa (I acc+I [v.s[i]]<=c0)=true:=aH KN;have n:aa (I (acc++[v.s[i]])+I [39]<=c0)=true:=aH KN;simp only[BF,c9 c f,m,LZ c,cg c,jr c,bI,n,ax];rw[aH (show(i:Int)<(I v.s:Int) by omega),da c];by_cases a:v.s[i]=39
   .have g:=PD l d k (i+1) (acc++[v.s[i]]++[39]) af af hF;have e:aa (((v.s[i]).toNat:Int)=39)=true:=aH (by rw[a];rfl);rw[e,g];simp[quo,a,hp]
   .have g:=PD l d k (i+1) (acc++[v.s[i]]) af af hF;have e:aa (((v.s[i]).toNat:Int)=39)=false:=aL λq=>a (UInt8.toNat_inj.1 (by have:(39:UInt8).toNat=39:=rfl;omega))
    rw[e,g];simp[quo,if_neg a,hp]
  .simp only[BF,d];rw[aL (show ¬(i:Int)<(I v.s:Int) by omega),gn af];simp[quo]
def ajW(n:Nat):Bool:=dP (wr .u8 (f' (n:Int) 16)) (wr .u8 ((wr .u8 (f' (n:Int) 16))+1)) 16&&dP (gZ (n:Int) 16) (wr .u8 ((gZ (n:Int) 16)+1)) 16&&aa (cut kg (wr .u8 (f' (n:Int) 16)) (wr .u8 ((wr .u8 (f' (n:Int) 16))+1))=[kg.getD (n / 16) 0])&&aa (cut kg (gZ (n:Int) 16) (wr .u8 ((gZ (n:Int) 16)+1))=[kg.getD (n % 16) 0])
theorem aA7:((hg 256).all ajW)=true:=bW
theorem aE(b:UInt8):dP (wr .u8 (f' (b.toNat:Int) 16)) (wr .u8 ((wr .u8 (f' (b.toNat:Int) 16))+1)) 16=ab/\dP (gZ (b.toNat:Int) 16) (wr .u8 ((gZ (b.toNat:Int) 16)+1)) 16=ab/\cut kg (wr .u8 (f' (b.toNat:Int) 16)) (wr .u8 ((wr .u8 (f' (b.toNat:Int) 16))+1))=[kg.getD (b.toNat / 16) 0]/\cut kg (gZ (b.toNat:Int) 16) (wr .u8 ((gZ (b.toNat:Int) 16)+1))=[kg.getD (b.toNat % 16) 0]:=by have h:=dH.1 aA7 b.toNat (List.mem_range.2 b.toNat_lt);simp[ajW,bN]at h;exact⟨h.1.1.1,h.1.1.2,h.1.2,h.2⟩
theorem WE{R:Type}{kx:aX->Lr->ae R}{v:dA}{b:ak->ae R}(f:I v.s<=1000)(e:∀s j,kx (.exit 3) (kg,s,j,v)=b s):∀(k i:Nat) (acc:ak),i<=I v.s->I v.s-i<k->I acc<=2*i+2->aI (λrec=>BH rec kx) k (kg,acc,(i:Int),v)=b (acc++ql (v.s.drop i))
 |0,i,_,_,h,_=>absurd h (dY _)
 |k+1,i,acc,bO,h,c5=>by
  rw[c6];by_cases a:i<I v.s
  .have c:b1 (I v.s):=iC
   obtain⟨g,l,m,n⟩:=aE (v.s[i]'a);have d:I kg=16:=rfl;have bI:aa (I acc+I [kg.getD ((v.s[i]'a).toNat / 16) 0]<=c0)=true:=aH KN;have o:aa (I (acc++[kg.getD ((v.s[i]'a).toNat / 16) 0])+I [kg.getD ((v.s[i]'a).toNat % 16) 0]<=c0)=true:=aH KN;have p:=WE f e k (i+1) (acc++[kg.getD ((v.s[i]'a).toNat / 16) 0]++[kg.getD ((v.s[i]'a).toNat % 16) 0]) af af hF;simp only[BH,c9 a c,cg a,jr a,d,g,l,m,n,bI,o,ax,p];rw[aH (show(i:Int)<(I v.s:Int) by omega),da a];simp only[ql,List.flatMap_cons,wP,hp,se,nX,bd]
  .simp only[BH,e];rw[aL (show ¬(i:Int)<(I v.s:Int) by omega),gn af];simp[ql]
theorem asH{v:dA}(h:iQ v=ab)(b:¬v.kind=1)(c:¬v.kind=2)(d:¬v.kind=3)(e:¬v.kind=4):v.kind=5:=by
 by_cases a:v.kind=5
 .exact a
 .simp[iQ,b,c,d,e,a]at h
theorem axn:aU 118 [e6] [.str] Qt:=.fin 0 atI λv r al ag=>⟨1001,by
 have f:dc v.n:=al.2.1;simp only[Qt,dN]at ag;subst ag;simp only[_E,sb,wy];cases a:iQ v with
 |false=>
  have:j8 v=2:=by simp[j8,a]
  rw[aL (show ¬j8 v=0 by omega)];rfl
 |true=>
  have:j8 v=0:=aav.2 a;rw[aH this];simp only[ef,bj,bd];by_cases g:v.kind=1
  .rw[aH g,if_neg af,if_neg af,if_neg af,if_neg af];rfl
  .rw[aL g];by_cases c:v.kind=2
   .rw[aH c,if_pos c];rcases aa6 a c with h|h<;>rw[h]<;>rfl
   .rw[aL c,if_neg c];by_cases e:v.kind=3
    .rw[aH e,if_pos e];simp only[bd,bj,Vf,ayQ f,bA]
    .rw[aL e,if_neg e];by_cases d:v.kind=4
     .have i:=A1 a (.inl d);have k:=IZ v.s;rw[aH d,if_pos d];refine(PD (b:=λs=>ax (aa (I s+I [39]<=c0)) (J (s++[39]))) i (λ_ _=>rfl) 1001 0 [39] (cL _) af (by simp)).trans ?_;refine(rz (aH ?_)).trans rfl;simp only[e7,eo,dB,iW,c0];omega
     .rw[aL d,if_neg d];have j:=asH a g c e d;have i:=A1 a (.inr j);have l:=Q2 v.s;rw[if_pos j];refine(WE (b:=λs=>ax (aa (I s+I [39]<=c0)) (J (s++[39]))) i (λ_ _=>rfl) 1001 0 [120,39] (cL _) af (by simp)).trans ?_;refine(rz (aH ?_)).trans rfl;simp only[e7,eo,dB,iW,c0];omega⟩
theorem anL{m n:Nat}(h:m<=n):dP 0 (m:Int) n=true:=by simp[dP];omega
def apG(R:Type):aR R:=bs [] [] [] []
def aaq(x:aw [.str,.str]):ae (aw [.bool]):=match x with|(l,m)=>cond (aa ((I m:Int)<=(I l:Int))) (ax (dP 0 (I m:Int) (I l)) (J (aa ((l.take ((I m:Int):Int).toNat)=m)))) (J ai)
theorem aw9:aU 245 [.str,.str] [.bool] (aaq):=b6 (px:=apG _) (n:=0) Tryz.func245 rfl (λ_ H=>⟨br H bq bo bp,aK⟩) λ(_,_)=>by kernel_rfl
def Kg(l m:ak):Bool:=aO.pre l m
def MV:bt [.str,.str] [.bool]:=λx=>J (Kg x.1 x.2)
theorem aya:aU 245 [.str,.str] [.bool] MV:=.er aw9 λ(l,m) r al ag=>by
 simp only[MV,dN]at ag;subst ag;simp only[aaq,Kg,aO.pre];have e:aa ((I m:Int)<=(I l:Int))=aa (I m<=I l):=hL.2 af;rw[e];by_cases h:I m<=I l
 .rw[aH h,bd,anL h,Int.toNat_natCast];rfl
 .rw[aL h];rfl
def aAl(R:Type):aR R:=bs [(245,ba MV)] [] [] []
def O3(x:aw [.str,.str]):ae (aw [.bool]):=match x with|(l,m)=>J (Kg l m)
theorem ap8:aU 222 [.str,.str] [.bool] (O3):=b6 (px:=aAl _) (n:=0) Tryz.func222 rfl (λ_ H=>⟨br H (c1 H aya bq) bo bp,aK⟩) λ(_,_)=>by kernel_rfl
def hO(l:ak)(m:ak):Bool:=(Kg l m)
theorem an6(x:aw [.str,.str]):O3 x=J (hO x.1 x.2):=by
 first
  |exact rfl
  |simp only[O3,hO,gb]
def Sg:bt [.str,.str] [.bool]:=λx=>J (hO x.1 x.2)
theorem agD:aU 222 [.str,.str] [.bool] Sg:=.er ap8 λx _ _ ag=>(an6 x).trans ag
set_option maxRecDepth 20000 in
open Go.av in
theorem akJ(l:ak)(c:Int):lE Tryz.prog 221 [S l,.int .u8 c] [] (λ_=>True) (En (.int .i64 (lv l c.toNat.toUInt8))):=by
 have run:∀w,(callFunc 244 #[S l,.int .u8 c]).run Tryz.prog w = .ok (.value (.int .i64 (lv l c.toNat.toUInt8))) w:=λw=>by rw[run_callFunc_extern Tryz.func244 bW rfl bW (e:=Extern.BytealgIndexByte.indexByte) bW];simp[Lib.run_indexByteString,go_sem]
 refine qC Tryz.func221 Tryz.ntmps221 rfl bW rfl λw M=>?_
 repeat' (first|refine nd ?_|refine oj ?_|refine jU ?_|refine jP ?_|refine aEb ?_|refine aDL ?_|refine sa ?_|refine aDM ?_|refine aE9 ?_|refine aFc ?_|refine aFa ?_|refine aE8 rfl ?_|refine aDQ ?_|refine aEc ?_|refine aFb ?_|refine aDN ?_|(apply gC rfl rfl;(first|exact jA rfl|exact kX rfl|exact U8 gi rfl|exact Cy gi rfl|exact U5 rfl rfl|exact Vc rfl rfl|exact Vb rfl rfl|exact Ga rfl rfl|exact U' rfl rfl|exact U_ rfl rfl|exact U9 rfl rfl|exact Md rfl rfl|exact U6 rfl rfl|exact Me rfl|exact U4 rfl rfl|exact Va rfl rfl|exact C7 rfl rfl af|exact Nj rfl rfl af|exact U7 gi rfl rfl af|exact U1 gi rfl rfl rfl af|exact U3 gi rfl rfl af|exact U2 gi rfl rfl af|exact rb (gJ:=0) gi rfl|exact rb (gJ:=1) gi rfl|exact rb (gJ:=2) gi rfl|exact rb (gJ:=3) gi rfl|exact aEw rfl))|refine aEh rfl rfl ?_|refine aEi rfl ?_|(apply gC rfl rfl (agZ rfl rfl run))|(refine aEg rfl rfl ?_ ?_<;>intro ao)|(refine i rfl rfl ?_ ?_<;>intro ao)|(refine j rfl rfl ?_ ?_<;>intro ao)|(refine h rfl rfl ?_ ?_<;>intro ao)|(refine k rfl rfl ?_ ?_<;>intro ao)|(refine m rfl rfl ?_ ?_<;>intro ao)|refine a rfl rfl ?_|refine UF rfl rfl ?_|refine a rfl (aH af) ?_|refine UF rfl (aL af) ?_|(refine IW rfl ?_ ?_<;>intro ao)|(refine d rfl ?_ ?_<;>intro ao)|(refine f rfl ?_ ?_<;>intro ao)|(refine b rfl ?_ ?_<;>intro ao)|(refine g rfl ?_ ?_<;>intro ao)|(refine r_ rfl ?_ ?_<;>intro ao)|refine mA rfl rfl ?_|refine aDO rfl rfl rfl ?_|refine aDP rfl rfl rfl rfl ?_|fail)
 exact Ru rfl
def yw(l:ak)(c:Int):Int:=lv l c.toNat.toUInt8
def Rp:bt [.str,.int .u8] [an]:=λx=>J (yw x.1 x.2)
theorem azR(l:ak)(c:Int) : -1<=yw l c/\yw l c<I l+1:=by have:=aO.L6 l c.toNat.toUInt8;simp only[yw];omega
theorem aA0:aU 221 [.str,.int .u8] [an] Rp:=by
 refine fH.als (akJ [] 0).enters rfl λx r ag=>?_;obtain⟨l,c⟩:=x;simp only[Rp,dN]at ag;subst ag;refine⟨[av.S l,.int .u8 c],_,λX vs h=>?_,akJ l c,λX al=>?_⟩
 .simp only[eK,fy,bl,aG]at h;obtain⟨u,us,rfl,⟨rfl,_⟩,b,a,rfl,⟨rfl,_⟩,rfl⟩:=h;rfl
 .simp only[iU,eK,fy];have h:=azR l c;have d:b1 (I l):=al.1;refine k4 (JK ?_);simp only[df.min,df.max,lu,kp,yw,b1]at *;simp only[if_true];omega
def apS(R:Type):aR R:=bs [(221,ba Rp)] [] [] []
def N9(x:aw [.str,.int .u8]):ae (aw [an]):=match x with|(l,c)=>J (yw l c)
theorem axP:aU 184 [.str,.int .u8] [an] (N9):=b6 (px:=apS _) (n:=0) Tryz.func184 rfl (λ_ H=>⟨br H (c1 H aA0 bq) bo bp,aK⟩) λ(_,_)=>by kernel_rfl
def oz(l:ak)(c:Int):Int:=(yw l c)
theorem axc(x:aw [.str,.int .u8]):N9 x=J (oz x.1 x.2):=by
 first
  |exact rfl
  |simp only[N9,oz,gb]
def I4:bt [.str,.int .u8] [an]:=λx=>J (oz x.1 x.2)
theorem Rg:aU 184 [.str,.int .u8] [an] I4:=.er axP λx _ _ ag=>(axc x).trans ag
def aqL(R:Type):aR R:=bs [] [] [] []
def Of(x:aw [.int .u8]):ae (aw [.bool]):=match x with|c=>cond (aa (65<=c)) (J (aa (c<=90))) (J ai)
theorem auc:aU 224 [.int .u8] [.bool] (Of):=b6 (px:=aqL _) (n:=0) Tryz.func224 rfl (λ_ H=>⟨br H bq bo bp,aK⟩) λ_=>by kernel_rfl
def uo(c:Int):Bool:=cond (aa (65<=c)) (aa (c<=90)) (ai)
theorem axz(x:aw [.int .u8]):Of x=J (uo x):=by
 first
  |exact rfl
  |simp only[Of,uo,gb]
def Jz:bt [.int .u8] [.bool]:=λx=>J (uo x)
theorem Qb:aU 224 [.int .u8] [.bool] Jz:=.er auc λx _ _ ag=>(axz x).trans ag
theorem Qy(c:Int):uo c=aO.hs c:=by simp only[uo,aO.hs];cases aa (65<=c)<;>rfl
def axQ(R:Type):aR R:=bs [(163,ba Je),(224,ba Jz)] [] [] []
def Oc(x:aw [.str,an]):ae (aw [.bool]):=match x with|(s,i)=>cond (aa (i=(I s:Int))) (J ab) (ax (a_ i (I s)) (cond (!(uu (b_ s i))) (ax (a_ i (I s)) (J (!(uo (b_ s i))))) (J ai)))
theorem awU:aU 226 [.str,an] [.bool] (Oc):=b6 (px:=axQ _) (n:=0) Tryz.func226 rfl (λ_ H=>⟨br H (c1 H QH (c1 H Qb bq)) bo bp,aK⟩) λ(_,_)=>by kernel_rfl
def sW(s:ak)(i:Int):ae Bool:=if 0<=i/\i<=I s then J (aO.oD s i)else aj
def NM:bt [.str,an] [.bool]:=λx=>sW x.1 x.2
theorem azt(a b:Int):(a == b)=aa (a=b):=rfl
theorem azv(s:ak)(i:Int)(h : 0<=i/\i<=I s):Oc (s,i)=J (aO.oD s i):=by
 simp only[Oc,aO.oD,Qr,Qy,azt];by_cases a:i=I s
 .grind
 .rw[aL a,qZ af];show cond (!aO.fS (b_ s i)) (J (!aO.hs (b_ s i))) (J ai)=J (!aO.fS (b_ s i) && !aO.hs (b_ s i));cases aO.fS (b_ s i)<;>rfl
theorem ao6:aU 226 [.str,an] [.bool] NM:=.er awU λ(s,i) r al ag=>by
 simp only[NM,sW]at ag;split at ag
 .rename_i h;exact(azv s i h).trans ag
 .cases ag
def ZP:bn:=⟨46,[(0,.str),(2,.int .i64),(3,.bool),(4,.int .i64),(11,.int .i64),(12,.int .i64)],[],[],0,0,0,[],[]⟩
abbrev Ls:=ak×Int×Bool×Int×Int×Int
def Bp{R:Type}(rec:Ls->ae R)(kx:aX->Ls->ae R)(v:Ls):ae R:=match v with|(v,v1,v2,v3,v4,v5)=>cond (aa (v5<v4)) (ax (a_ v5 (I v)) (cond (!decide ((uE v3 10).2=0)) (kx .ret (v,0,ai,v3,v4,v5)) (cond (!decide ((wY ((uE v3 10).1) (wr .i64 (wr .u8 ((b_ v v5)-48)))).2=0)) (kx .ret (v,0,ai,v3,v4,v5)) (rec (v,v1,v2,(wY ((uE v3 10).1) (wr .i64 (wr .u8 ((b_ v v5)-48)))).1,v4,(wr .i64 (v5+1))))))) (kx (.exit 0) (v,v1,v2,v3,v4,v5))
def WL(R:Type)(k:Nat):aR R:=bs [(212,ba acL),(210,ba ace)] [] [(3,b8 k ZP (Bp))] []
def _t(k:Nat)(x:aw [.str]):ae (aw [an,.bool]):=match x with
 |s=>aI (λrec=>Bp rec (λe a=>match a with|(v6,bb,bK,v9,_,_)=>match e with
  |.ret=>J (bb,bK)
  |.exit 0=>cond (aa (v6=[48])) (J (v9,ab)) (ax (a_ 0 (I v6)) (J (v9, !decide ((b_ v6 0)=48))))
  |_=>aj)) k (s,0,ai,0,(I s:Int),0)
theorem asX(k:Nat):aU 227 [.str] [an,.bool] (_t k):=b6 (px:=WL _ k) (n:=1) Tryz.func227 rfl (λah H=>by have c:bP ah (WL (aw [an,.bool]) k):=br H (c1 H ayq (c1 H aAj bq)) bo bp;have a:=cd H c (b:=b0 Tryz.f227 0) (k:=k) (n:=0) (s:=ZP) (step:=Bp) (λ_ _ _ (_,_,_,_,_,_)=>by kernel_rfl) aK;exact⟨c,(b9 aK a)⟩) λ_=>by kernel_rfl
def DM(s:ak):Int×Bool:=match aO.pk s 0 with|some n=>(n,aa (s=[48]) || !decide (b_ s 0=48))|none=>(0,ai)
def GX(s:ak):ae (Int×Bool):=match s with|[]=>aj|_=>J (DM s)
def P5:bt [.str] [an,.bool]:=λx=>GX x
theorem Zw{R:Type}{kx:aX->Ls->ae R}{s:ak}{c:ae Int->ae R}(p:b1 (I s))(g:∀n j,kx .ret (s,0,ai,n,(I s:Int),j)=c aj)(t:∀q r n j,kx (.exit 0) (s,q,r,n,(I s:Int),j)=c (J n)):∀(k i:Nat) (q:Int) (r:Bool) (n:Int),dc n->i<=I s->I s-i<k->aI (λrec=>Bp rec kx) k (s,q,r,n,(I s:Int),(i:Int))=c (aO.pk (s.drop i) n)
 |0,i,q,r,n,_,_,h=>absurd h (dY _)
 |k+1,i,q,r,n,ck,bO,h=>by
  rw[c6];by_cases f:i<I s
  .have ar:=aO.aD2 (s[i].toNat:Int);have l:dc (10:Int):=by simp[dc]
   simp only[Bp,cg f,jr f,(aBl ck l)];rw[aH (show(i:Int)<(I s:Int) by omega),da f];simp[ aO.pk];by_cases hm:dc (n*10)
   .have a:=hm;simp[dc]at a;have m:nG (n*10)=(n*10,0):=by rw[nG,if_pos a]
    simp[m,(aAQ hm (show dc (wr .i64 (wr .u8 ((s[i].toNat:Int)-48))) from ar))];by_cases e:dc (n*10+aO.ix (s[i].toNat:Int))
    .have b:=e;simp[dc]at b;have o:nG (n*10+wr .i64 (wr .u8 ((s[i].toNat:Int)-48)))=(n*10+aO.ix (s[i].toNat:Int),0):=by have d : -9223372036854775808<=n*10+wr .i64 (wr .u8 ((s[i].toNat:Int)-48))/\n*10+wr .i64 (wr .u8 ((s[i].toNat:Int)-48))<=9223372036854775807:=b;rw[nG,if_pos d];rfl
     rw[o,if_pos (show aO.dc _/\aO.dc _ from⟨hm,e⟩)];rw[c9 f p];exact(Zw p g t k (i+1) q r (n*10+aO.ix (s[i].toNat:Int)) e af af)
    .have b:=e;simp only[dc]at b;have o:nG (n*10+wr .i64 (wr .u8 ((s[i].toNat:Int)-48)))=(0,20):=by have d:¬(-9223372036854775808<=n*10+wr .i64 (wr .u8 ((s[i].toNat:Int)-48))/\n*10+wr .i64 (wr .u8 ((s[i].toNat:Int)-48))<=9223372036854775807):=b;rw[nG,if_neg d]
     rw[o,if_neg (λh=>e h.2)];exact g _ _
   .have a:=hm;simp only[dc]at a;have m:nG (n*10)=(0,20):=by rw[nG,if_neg a]
    rw[if_neg (λh=>hm h.1)];simp[m];exact g _ _
  .simp[Bp,t];exact CM
theorem aw4:aU 227 [.str] [an,.bool] P5:=.fin 0 asX λs r al ag=>⟨I s+1,by
 simp only[P5]at ag;cases s with
 |nil=>cases ag
 |cons b l=>
  have ag:J (DM (b::l))=J r:=ag;rw[<-ag];simp only[_t];refine(Zw (s:=b::l) (c:=λo=>match o with|some n=>J (n,aa (b::l=[48]) || !decide (b_ (b::l) 0=48))|none=>J (0,ai)) al (λ_ _=>rfl) (λ_ _ n _=>?_) (I (b::l)+1) 0 0 ai 0 (by simp[dc]) (cL _) af).trans ?_
  .show cond (aa (b::l=[48])) (J (n,ab)) (ax (a_ 0 (I (b::l))) (J (n, !decide (b_ (b::l) 0=48))))=_;rw[qZ KI];cases aa (b::l=[48])<;>rfl
  .simp only[iW,DM];cases aO.pk (b::l) 0<;>rfl⟩
def Zv:bn:=⟨40,[(0,.str),(4,.str),(5,.int .i64),(6,.sl .byte ab),(7,.int .i64)],[],[],0,0,0,[],[]⟩
abbrev Lp:=ak×ak×Int×U UInt8×Int
def BO{R:Type}(rec:Lp->ae R)(kx:aX->Lp->ae R)(v:Lp):ae R:=match v with|(v,v1,v2,v3,v4)=>cond (aa (v4<(I v:Int))) (ax (a_ v4 (I v)) (cond (aa ((b_ v v4)=39)) (cond (aa ((wr .i64 (v4+1))=(I v:Int))) (kx .ret (v,v3,(wr .i64 (v4+1)),v3,(wr .i64 (v4+1)))) (ax (a_ (wr .i64 (v4+1)) (I v)) (cond (!decide ((b_ v (wr .i64 (v4+1)))=39)) (kx .ret (v,v3,(wr .i64 (v4+1)),v3,(wr .i64 (v4+1)))) (ax (a_ (wr .i64 (v4+1)) (I v)) (ax (aa (I v3+1<=bY)) (rec (v,v1,v2,(v3++[(eh ((b_ v (wr .i64 (v4+1))):Int).toNat)]),(wr .i64 ((wr .i64 (v4+1))+1))))))))) (ax (a_ v4 (I v)) (ax (aa (I v3+1<=bY)) (rec (v,v1,v2,(v3++[(eh ((b_ v v4):Int).toNat)]),(wr .i64 (v4+1)))))))) (kx (.exit 0) (v,v1,v2,v3,v4))
def XH(R:Type)(k:Nat):aR R:=bs [] [] [(3,b8 k Zv (BO))] []
def Zk(k:Nat)(x:aw [.str,an]):ae (aw [.str,an]):=match x with
 |(s,i)=>aI (λrec=>BO rec (λe a=>match a with|(_,v6,bb,_,_)=>match e with
  |.ret=>J (v6,bb)
  |.exit 0=>J ([],(-1))
  |_=>aj)) k (s,[],0,[],i)
theorem atC(k:Nat):aU 228 [.str,an] [.str,an] (Zk k):=b6 (px:=XH _ k) (n:=1) Tryz.func228 rfl (λah H=>by have c:bP ah (XH (aw [.str,an]) k):=br H bq bo bp;have a:=cd H c (b:=b0 Tryz.f228 0) (k:=k) (n:=0) (s:=Zv) (step:=BO) (λ_ _ _ (_,_,_,_,_)=>by kernel_rfl) aK;exact⟨c,(b9 aK a)⟩) λ(_,_)=>by kernel_rfl
def GQ(s:ak)(i:Int):ae (ak×Int):=if 0<=i/\i<=I s/\I s<=1000000 then J (aO.hR (s.drop i.toNat) [] i)else aj
def Qg:bt [.str,an] [.str,an]:=λx=>GQ x.1 x.2
theorem Re(b:UInt8):eh (b.toNat:Int).toNat=b:=by simp
theorem TU{R:Type}{kx:aX->Lp->ae R}{s:ak}{c:ak×Int->ae R}(v:I s<=1000000)(n:∀a j,kx .ret (s,a,j,a,j)=c (a,j))(p:∀q r a j,kx (.exit 0) (s,q,r,a,j)=c ([], -1)):∀(k i:Nat) (q:ak) (r:Int) (a:ak),I a<=i->i<=I s->I s-i<k->aI (λrec=>BO rec kx) k (s,q,r,a,(i:Int))=c (aO.hR (s.drop (i:Int).toNat) a i)
 |0,i,q,r,a,_,_,h=>absurd h (dY _)
 |k+1,i,q,r,a,c5,bO,h=>by
  rw[c6];by_cases f:i<I s
  .have g:b1 (I s):=iC
   have w:aa (I a+1<=bY)=true:=aH jf;have o:av.cf s (i:Int)=(s[i].toNat:Int):=jr f;simp only[BO,cg f,c9 f g,jr f,w,Re];rw[aH (show(i:Int)<(I s:Int) by omega)];simp only[ ax];by_cases b:(s[i].toNat:Int)=39
   .rw[aH b,bd];by_cases y:i+1=I s
    .rw[aH (show((i+1:Nat):Int)=(I s:Int) by omega),bd,n,aO.alE af af (o.trans b)];rfl
    .have d:i+1<I s:=af
     have l:av.cf s ((i:Int)+1)=(s[i+1].toNat:Int):=jr d;rw[aL (show ¬((i+1:Nat):Int)=(I s:Int) by omega),cg d,bj];simp only[ jr d,Re];by_cases m:(s[i+1].toNat:Int)=39
     .have t:=TU v n p k (i+1+1) q r (a++[s[i+1]]) d' af af;have u:s[i+1]=39:=by rw[<-UInt8.toNat_inj];exact Int.ofNat.inj m
      rw[aH m,aO.alG af af (o.trans b) (l.trans m),c9 d g];simp only[ef];rw[t,u];rfl
     .rw[aL m,aO.alC af af (o.trans b) (λe=>m (l.symm.trans e))];simp[ n]
   .have t:=TU v n p k (i+1) q r (a++[s[i]]) d' af af;rw[aL b,bj,t,aO.alF af af (λe=>b (o.symm.trans e))];have x:s.getD (i:Int).toNat 0=s[i]:=by simp[ f]
    rw[x];rfl
  .simp only[BO,p];rw[aL af,aO.alD af];rfl
theorem awP:aU 228 [.str,an] [.str,an] Qg:=.fin 0 atC λ(s,i) r al ag=>⟨I s+1,by
 simp only[Qg,GQ]at ag;split at ag
 .rename_i h;rw[<-ag];obtain⟨n,rfl⟩:=Int.eq_ofNat_of_zero_le h.1;simp only[Zk];exact TU (c:=J) h.2.2 (λ_ _=>rfl) (λ_ _ _ _=>rfl) (I s+1) n [] 0 [] (cL _) af af
 .cases ag⟩
def aaM:bn:=⟨19,[(0,.str),(2,.int .i64),(5,.sl .str ab),(6,.int .i64),(7,.int .i64)],[],[],0,0,0,[],[]⟩
abbrev O8:=ak×Int×U ak×Int×Int
def Nu{R:Type}(rec:O8->ae R)(kx:aX->O8->ae R)(v:O8):ae R:=match v with|(v,v1,v2,v3,v4)=>cond (aa (v4<v3)) (ax (a_ v4 (I v2)) (cond (hO v (at' .str v2 v4)) (kx .ret (v,2,v2,v3,v4)) (rec (v,v1,v2,v3,(wr .i64 (v4+1)))))) (kx (.exit 0) (v,v1,v2,v3,v4))
def aef(R:Type)(k:Nat):aR R:=bs [(222,ba Sg),(184,ba I4)] [] [(2,b8 k aaM (Nu))] []
def abS(k:Nat)(x:aw [.str]):ae (aw [an]):=match x with
 |s=>aI (λrec=>Nu rec (λe a=>match a with|(v5,v6,_,_,_)=>match e with
  |.ret=>J v6
  |.exit 0=>ax (a_ 0 (I v5)) (cond (aa (0<=(oz [40,41,44,42,61,60,62,43,45,59] (b_ v5 0)))) (J 1) (J 0))
  |_=>aj)) k (s,0,[[60,62],[60,61],[62,61]],3,0)
theorem auv(k:Nat):aU 229 [.str] [an] (abS k):=b6 (px:=aef _ k) (n:=1) Tryz.func229 rfl (λah H=>by have c:bP ah (aef (aw [an]) k):=br H (c1 H agD (c1 H Rg bq)) bo bp;have a:=cd H c (b:=b0 Tryz.f229 0) (k:=k) (n:=0) (s:=aaM) (step:=Nu) (λ_ _ _ (_,_,_,_,_)=>by kernel_rfl) aK;exact⟨c,(b9 aK a)⟩) λ_=>by kernel_rfl
def Rm(s:ak):ae Int:=match s with|[]=>aj|_=>J (aO.nw s)
def NF:bt [.str] [an]:=λx=>Rm x
theorem aov:aU 229 [.str] [an] NF:=.fin 0 auv λs r al ag=>⟨4,by
 simp only[NF]at ag;cases s with
 |nil=>cases ag
 |cons b l=>
  have ag:J (aO.nw (b::l))=J r:=ag;rw[<-ag];have c:a_ 0 (I (b::l))=true:=qZ KI;have d:hO (b::l) [60,62]=aO.pre (b::l) [60,62]:=rfl;have e:hO (b::l) [60,61]=aO.pre (b::l) [60,61]:=rfl;have f:hO (b::l) [62,61]=aO.pre (b::l) [62,61]:=rfl;have g:oz [40,41,44,42,61,60,62,43,45,59] (b_ (b::l) 0)=lv aO.signs (av.cf (b::l) 0).toNat.toUInt8:=rfl;simp only[abS,aO.nw,<-g,<-d,<-e,<-f];show cond (hO (b::l) [60,62]) (J 2) (cond (hO (b::l) [60,61]) (J 2) (cond (hO (b::l) [62,61]) (J 2) (ax (a_ 0 (I (b::l))) (cond (aa (0<=oz [40,41,44,42,61,60,62,43,45,59] (b_ (b::l) 0))) (J 1) (J 0)))))=_;generalize oz [40,41,44,42,61,60,62,43,45,59] (b_ (b::l) 0)=z;rw[c];by_cases a : 0<=z
  .rw[aH a,if_pos a];cases hO (b::l) [60,62]<;>cases hO (b::l) [60,61]<;>cases hO (b::l) [62,61]<;>rfl
  .rw[aL a,if_neg a];cases hO (b::l) [60,62]<;>cases hO (b::l) [60,61]<;>cases hO (b::l) [62,61]<;>rfl⟩
def avW(R:Type):aR R:=bs [] [] [] []
def TS(x:aw [.int .u8]):ae (aw [.int .u8,.bool]):=match x with
 |c=>
 let j:=λ(p1:Bool)=>
  cond (p1) (
  J ((wr .u8 (c-48)),ab)) (
  cond (aa (97<=c)) (
   cond (aa (c<=102)) (
   J ((wr .u8 ((wr .u8 (c-97))+10)),ab)) (
   J (0,ai))) (
   J (0,ai)))
 cond (aa (48<=c)) (
  j (aa (c<=57))) (
  j ai)
theorem asG:aU 246 [.int .u8] [.int .u8,.bool] (TS):=b6 (px:=avW _) (n:=0) Tryz.func246 rfl (λ_ H=>⟨br H bq bo bp,aK⟩) λ_=>by kernel_rfl
def tG(c:Int):Int×Bool:=
 let j:=λ(p1:Bool)=>
  cond (p1) (
  ((wr .u8 (c-48)),ab)) (
  cond (aa (97<=c)) (
   cond (aa (c<=102)) (
   ((wr .u8 ((wr .u8 (c-97))+10)),ab)) (
   (0,ai))) (
   (0,ai)))
 cond (aa (48<=c)) (
  j (aa (c<=57))) (
  j ai)
theorem ar4(x:aw [.int .u8]):TS x=J (tG x):=by
 first
  |exact rfl
  |simp only[TS,tG,gb]
def ae2:bt [.int .u8] [.int .u8,.bool]:=λx=>J (tG x)
theorem axp:aU 246 [.int .u8] [.int .u8,.bool] ae2:=.er asG λx _ _ ag=>(ar4 x).trans ag
def SO(c:Int):Int×Bool:=match aO.ml c with|some n=>(n,ab)|none=>(0,ai)
theorem arS:((hg 256).all λn=>aa (tG (n:Int)=SO (n:Int)))=true:=bW
theorem auV(b:UInt8):tG (b.toNat:Int)=SO (b.toNat:Int):=by exact of_decide_eq_true (dH.1 arS b.toNat (List.mem_range.2 b.toNat_lt))
def abO:bn:=⟨49,[(0,.str),(2,.sl .byte ab),(3,.int .i64),(4,.sl .byte ab),(5,.int .i64)],[],[],0,0,0,[],[]⟩
abbrev G':=ak×U UInt8×Int×U UInt8×Int
def zz{R:Type}(rec:G'->ae R)(kx:aX->G'->ae R)(v:G'):ae R:=match v with|(v,v1,v2,v3,v4)=>cond (aa (v4<(I v:Int))) (ax (a_ v4 (I v)) (ax (a_ (wr .i64 (v4+1)) (I v)) (cond (!((tG (b_ v v4)).2)) (kx .ret (v,[],11,v3,v4)) (cond (!((tG (b_ v (wr .i64 (v4+1)))).2)) (kx .ret (v,[],11,v3,v4)) (ax (aa (I v3+1<=bY)) (rec (v,v1,v2,(v3++[(eh ((pj .u8 (sK .u8 ((tG (b_ v v4)).1) 4) ((tG (b_ v (wr .i64 (v4+1)))).1)):Int).toNat)]),(wr .i64 (v4+2))))))))) (kx (.exit 0) (v,v1,v2,v3,v4))
def adJ(R:Type)(k:Nat):aR R:=bs [(246,ba ae2)] [] [(5,b8 k abO (zz))] []
def aaH(k:Nat)(x:aw [.str]):ae (aw [.sl .byte ab,an]):=match x with
 |s=>cond (!decide ((gZ (I s:Int) 2)=0)) (J ([],11)) (aI (λrec=>zz rec (λe a=>match a with|(_,v6,bb,bK,_)=>match e with
  |.ret=>J (v6,bb)
  |.exit 0=>J (bK,0)
  |_=>aj)) k (s,[],0,[],0))
theorem auX(k:Nat):aU 223 [.str] [.sl .byte ab,an] (aaH k):=b6 (px:=adJ _ k) (n:=1) Tryz.func223 rfl (λah H=>by have c:bP ah (adJ (aw [.sl .byte ab,an]) k):=br H (c1 H axp bq) bo bp;have a:=cd H c (b:=b0 Tryz.f223 0) (k:=k) (n:=0) (s:=abO) (step:=zz) (λ_ _ _ (_,_,_,_,_)=>by kernel_rfl) aK;exact⟨c,(b9 aK a)⟩) λ_=>by kernel_rfl
def Ms(s:ak):ak×Int:=match(if I s % 2=0 then aO.mU s []else aj)with|some b=>(b,0)|none=>([],11)
def JX(s:ak):ae (ak×Int):=if I s<=1000000 then J (Ms s)else aj
def MF:bt [.str] [.sl .byte ab,an]:=λx=>JX x
theorem aaF{R:Type}{kx:aX->G'->ae R}{s:ak}{c:ae ak->ae R}(m:I s<=1000000)(e:∀a j,kx .ret (s,[],11,a,j)=c aj)(l:∀q r a j,kx (.exit 0) (s,q,r,a,j)=c (J a)):∀(k i:Nat) (q:ak) (r:Int) (a:ak),I a<=i->i<=I s->(I s-i) % 2=0->I s-i<k->aI (λrec=>zz rec kx) k (s,q,r,a,(i:Int))=c (aO.mU (s.drop (i:Int).toNat) a)
 |0,i,q,r,a,_,_,_,h=>absurd h (dY _)
 |k+1,i,q,r,a,c5,bO,aFk,h=>by
  rw[c6];by_cases d:i<I s
  .have b:i+1<I s:=af
   have f:b1 (I s):=iC
   have n:aa (I a+1<=bY)=true:=aH jf;have o:av.cf s (i:Int)=(s[i].toNat:Int):=jr d;have g:av.cf s ((i:Int)+1)=(s[i+1].toNat:Int):=jr b;have p:wr .i64 ((i:Int)+2)=((i+1+1:Nat):Int):=od
   simp only[zz,cg d,c9 d f,jr d,jr b,cg b,n,p,auV];rw[aH (show(i:Int)<(I s:Int) by omega),aO.alW af af,o,g];simp[bd,ax,SO];cases ag:aO.ml (s[i].toNat:Int)with
   |none=>exact e _ _
   |some x=>cases aE:aO.ml (s[i+1].toNat:Int)with|none=>exact e _ _|some y=>have t:=aaF m e l k (i+1+1) q r (a++[eh (x*16+y).toNat]) hF af af af;have u:pj .u8 (sK .u8 x 4) y=_:=aO.aD4 (aO.L5 ag) (aO.L5 aE);simp only[ef,bj,u,Re];exact t
  .simp[zz,l];exact CM
theorem anU:aU 223 [.str] [.sl .byte ab,an] MF:=.fin 0 auX λs r al ag=>⟨I s+1,by
 simp only[MF,JX]at ag;split at ag
 .rename_i h;rw[<-ag];have d:gZ (I s:Int) 2=((I s % 2:Nat):Int):=rfl;simp only[aaH,d,Ms];by_cases a:I s % 2=0
  .rw[aH (show((I s % 2:Nat):Int)=0 by omega),if_pos a,ef,bj];refine(aaF (c:=λo=>match o with|some b=>J (b,(0:Int))|none=>J ([],11)) h (λ_ _=>?_) (λ_ _ _ _=>?_) (I s+1) 0 [] 0 [] (cL _) (cL _) a af).trans ?_
   .rfl
   .rfl
   simp only[Int.toNat_natCast,iW];cases aO.mU s []<;>rfl
  .rw[aL (show ¬((I s % 2:Nat):Int)=0 by omega),if_neg a];rfl
 .cases ag⟩
def aqP(R:Type):aR R:=bs [(35,ba RY)] [] [] []
def Ob(x:aw [.str]):ae (aw [.bool]):=match x with|s=>J (uK qh s)
theorem aup:aU 225 [.str] [.bool] (Ob):=b6 (px:=aqP _) (n:=0) Tryz.func225 rfl (λ_ H=>⟨br H (c1 H agN bq) bo bp,aK⟩) λ_=>by kernel_rfl
def s7(s:ak):Bool:=(uK qh s)
theorem awk(x:aw [.str]):Ob x=J (s7 x):=by
 first
  |exact rfl
  |simp only[Ob,s7,gb]
def ahP:bt [.str] [.bool]:=λx=>J (s7 x)
theorem ans:aU 225 [.str] [.bool] ahP:=.er aup λx _ _ ag=>(awk x).trans ag
theorem Q'(s:ak):s7 s=aO.nA s:=ahM qh s
def TX:bn:=⟨21,[(0,.str),(1,.int .i64)],[(2,.fn 214 [])],[(0,.one (.bm .tok)),(1,.one (.bm .tok))],40,40,200,[],[]⟩
abbrev xh:=ak×Int×Tok×Tok
def xG{R:Type}(rec:xh->ae R)(kx:aX->xh->ae R)(v:xh):ae R:=match v with|(a,b,cH,cK)=>cond (aa (b<(I a:Int))) (ax (a_ b (I a)) (cond (s_ (b_ a b)) (rec (a,(wr .i64 (b+1)),cH,cK)) (kx (.exit 0) (a,b,cH,cK)))) (kx (.exit 0) (a,b,cH,cK))
def TL:bn:=⟨21,[(0,.str),(1,.int .i64)],[(2,.fn 163 [])],[(0,.one (.bm .tok)),(1,.one (.bm .tok))],40,40,200,[],[]⟩
abbrev xa:=ak×Int×Tok×Tok
def xt{R:Type}(rec:xa->ae R)(kx:aX->xa->ae R)(v:xa):ae R:=match v with|(v6,bb,b4,cv)=>cond (aa (bb<(I v6:Int))) (ax (a_ bb (I v6)) (cond (uu (b_ v6 bb)) (rec (v6,(wr .i64 (bb+1)),b4,cv)) (kx (.exit 0) (v6,bb,b4,cv)))) (kx (.exit 0) (v6,bb,b4,cv))
def TZ:bn:=⟨21,[(0,.str),(1,.int .i64)],[(2,.fn 224 [])],[(0,.one (.bm .tok)),(1,.one (.bm .tok))],40,40,200,[],[]⟩
abbrev w8:=ak×Int×Tok×Tok
def xz{R:Type}(rec:w8->ae R)(kx:aX->w8->ae R)(v:w8):ae R:=match v with|(v,v1,w,w1)=>cond (aa (v1<(I v:Int))) (ax (a_ v1 (I v)) (cond (uo (b_ v v1)) (rec (v,(wr .i64 (v1+1)),w,w1)) (kx (.exit 0) (v,v1,w,w1)))) (kx (.exit 0) (v,v1,w,w1))
def AQ(R:Type)(k:Nat):aR R:=bs [(224,ba Jz),(163,ba Je),(214,ba Ju)] [] [(1,C9 k TZ (xz) (C9 k TL (xt) (b8 k TX (xG))))] []
noncomputable def WT(R:Type)(k:Nat):aR R:=bs [(222,ba Sg),(184,ba I4),(223,ba MF),(224,ba Jz),(225,ba ahP),(226,ba NM),(161,ba IS),(96,ba xK),(214,ba Ju),(227,ba P5),(228,ba Qg),(208,ba Qe),(229,ba NF),(162,ey 40 200 (AQ R k) Tryz.f162)] [] [] []
theorem arK(R:Type)(k:Nat):∀(cx:U Fr) (rec:w8->ae R) (kx:aX->w8->ae R) (v:w8),q6 (AQ R k) TZ (b0 Tryz.f162 0) cx rec kx v=xz rec kx v
 |cx,rec,kx,(v,v1,w,w1)=>by kernel_rfl
theorem ari(R:Type)(k:Nat):∀(cx:U Fr) (rec:xa->ae R) (kx:aX->xa->ae R) (v:xa),q6 (AQ R k) TL (b0 Tryz.f162 0) cx rec kx v=xt rec kx v
 |cx,rec,kx,(v6,bb,b4,cv)=>by kernel_rfl
theorem arB(R:Type)(k:Nat):∀(cx:U Fr) (rec:xh->ae R) (kx:aX->xh->ae R) (v:xh),q6 (AQ R k) TX (b0 Tryz.f162 0) cx rec kx v=xG rec kx v
 |cx,rec,kx,(a,b,cH,cK)=>by kernel_rfl
def TN(k:Nat)(x:aw [.str,an]):ae (aw [jX,an]):=match x with
 |(s,i)=>ax (a_ i (I s)) (ax (dP i (I s) (I s)) (cond (hO (s.drop (i:Int).toNat) [120,39]) (ax (dP (wr .i64 (i+2)) (I s) (I s)) (cond (aa ((oz (s.drop ((wr .i64 (i+2)):Int).toNat) 39)<0)) (J ((Tok.mk 0 i [] 0),(-1))) (ax (dP (wr .i64 (i+2)) (wr .i64 ((wr .i64 (i+2))+(oz (s.drop ((wr .i64 (i+2)):Int).toNat) 39))) (I s)) ((JX (cut s (wr .i64 (i+2)) (wr .i64 ((wr .i64 (i+2))+(oz (s.drop ((wr .i64 (i+2)):Int).toNat) 39))))).bind λ(x,j)=>cond (!decide (j=0)) (J ((Tok.mk 5 i x 0),(-1))) (cond (aa (1000<(I x:Int))) (J ((Tok.mk 5 i x 0),(-1))) (J ((Tok.mk 5 i x 0),(wr .i64 ((wr .i64 (i+3))+(oz (s.drop ((wr .i64 (i+2)):Int).toNat) 39)))))))))) (cond (uo (b_ s i)) (aI (λrec=>xz rec (λe d=>match d with|(_,v3,_,v5)=>match e with
    |.exit 0=>ax (dP i v3 (I s)) (cond (!(s7 (cut s i v3))) (J ((Tok.mk 1 v5.pos (cut s i v3) v5.n),(-1))) ((sW s v3).bind λl=>cond (!l) (J ((Tok.mk 1 v5.pos (cut s i v3) v5.n),(-1))) (J ((Tok.mk 1 v5.pos (cut s i v3) v5.n),v3))))
    |_=>aj)) k (s,i,(Tok.mk 0 0 [] 0),(Tok.mk 0 i [] 0))) (cond (s3 (b_ s i)) (aI (λrec=>xt rec (λe d=>match d with|(_,v9,_,b)=>match e with
    |.exit 0=>ax (dP i v9 (I s)) (cond (!(eQ (cut s i v9))) (J ((Tok.mk 2 b.pos (cut s i v9) b.n),(-1))) ((sW s v9).bind λm=>cond (!m) (J ((Tok.mk 2 b.pos (cut s i v9) b.n),(-1))) (J ((Tok.mk 2 b.pos (cut s i v9) b.n),v9))))
    |_=>aj)) k (s,i,(Tok.mk 0 0 [] 0),(Tok.mk 0 i [] 0))) (cond (s_ (b_ s i)) (aI (λrec=>xG rec (λe d=>match d with|(_,a,_,c)=>match e with
     |.exit 0=>ax (dP i a (I s)) ((GX (cut s i a)).bind λ(g,o)=>ax (dP i a (I s)) (cond (!o) (J ((Tok.mk 3 c.pos (cut s i a) g),(-1))) ((sW s a).bind λp=>cond (!p) (J ((Tok.mk 3 c.pos (cut s i a) g),(-1))) (J ((Tok.mk 3 c.pos (cut s i a) g),a)))))
     |_=>aj)) k (s,i,(Tok.mk 0 0 [] 0),(Tok.mk 0 i [] 0))) (cond (aa ((b_ s i)=39)) ((GQ s (wr .i64 (i+1))).bind λ(h,q)=>cond (!decide ((j8 (dA.mk 4 0 h))=0)) (J ((Tok.mk 4 i h 0),(-1))) (J ((Tok.mk 4 i h 0),q))) (ax (dP i (I s) (I s)) ((Rm (s.drop (i:Int).toNat)).bind λf=>ax (dP i (wr .i64 (i+f)) (I s)) (cond (aa (f=0)) (J ((Tok.mk 6 i (cut s i (wr .i64 (i+f))) 0),(-1))) (J ((Tok.mk 6 i (cut s i (wr .i64 (i+f))) 0),(wr .i64 (i+f)))))))))))))
theorem asc(k:Nat):aU 185 [.str,an] [jX,an] (TN k):=b6 (px:=WT _ k) (n:=0) Tryz.func185 rfl (λah H=>by have b:bP ah (AQ (aw [jX,an]) k):=br H (c1 H Qb (c1 H QH (c1 H P4 bq))) bo bp;have a:hX ah (AQ (aw [jX,an]) k) (b0 Tryz.f162 0):=agy (λ_ _=>by kernel_rfl) (O5 (FB b.p b.c b.q AB (k:=k) (s:=TZ) (step:=xz) bW (arK _ k) (xA (n:=0) bW aK)) (O5 (FB b.p b.c b.q AB (k:=k) (s:=TL) (step:=xt) bW (ari _ k) (xA (n:=0) bW aK)) (FB b.p b.c b.q AB (k:=k) (s:=TX) (step:=xG) bW (arB _ k) (xA (n:=0) bW aK))));have d:bP ah (WT (aw [jX,an]) k):=br H (c1 H agD (c1 H Rg (c1 H anU (c1 H Qb (c1 H ans (c1 H ao6 (c1 H Rd (c1 H FD (c1 H P4 (c1 H aw4 (c1 H awP (c1 H ab9 (c1 H aov (et (eS H b Tryz.func162 rfl (n:=1) (b9 aK a)) bq)))))))))))))) bo bp;exact⟨d,aK⟩) λ(_,_)=>by kernel_rfl
def Ak(s:ak)(i:Int):ae (Tok×Int):=if I s<=20000 then TN 20001 (s,i)else aj
def Q6:bt [.str,an] [jX,an]:=λx=>Ak x.1 x.2
theorem aut:aU 185 [.str,an] [jX,an] Q6:=.fin 0 asc λ(s,i) r al ag=>⟨20001,by
 simp only[Q6,Ak]at ag;split at ag
 .exact ag
 .cases ag⟩
theorem YB{R:Type}{kx:aX->w8->ae R}{s:ak}(w w1:Tok){a:Int->ae R}(d:b1 (I s))(c:∀j,kx (.exit 0) (s,j,w,w1)=a j):∀(k i:Nat),i<=I s->I s-i<k->aI (λrec=>xz rec kx) k (s,(i:Int),w,w1)=a (aO.c4 aO.hs s i)
 |0,i,_,h=>absurd h (dY _)
 |k+1,i,bO,h=>by
  rw[c6];by_cases b:i<I s
  .have g:=YB w w1 d c k (i+1) af af;have e:av.cf s (i:Int)=(s[i].toNat:Int):=jr b;simp only[xz,c9 b d,g,c,jr b,cg b,Qy];rw[aH (show(i:Int)<(I s:Int) by omega)];cases f:aO.hs (s[i].toNat:Int)with|true=>have:=aO.yu (p:=aO.hs) (l:=s) (j:=i) af uP;rw[<-this];rfl|false=>have:=aO.yt (p:=aO.hs) (l:=s) (j:=i) af uP;rw[this];rfl
  .have:=aO.CA (p:=aO.hs) (l:=s) (j:=i) af;simp only[xz,c];exact G1
theorem YH{R:Type}{kx:aX->xa->ae R}{s:ak}(w w1:Tok){a:Int->ae R}(d:b1 (I s))(c:∀j,kx (.exit 0) (s,j,w,w1)=a j):∀(k i:Nat),i<=I s->I s-i<k->aI (λrec=>xt rec kx) k (s,(i:Int),w,w1)=a (aO.c4 aO.fS s i)
 |0,i,_,h=>absurd h (dY _)
 |k+1,i,bO,h=>by
  rw[c6];by_cases b:i<I s
  .have g:=YH w w1 d c k (i+1) af af;have e:av.cf s (i:Int)=(s[i].toNat:Int):=jr b;simp only[xt,c9 b d,g,c,jr b,cg b,Qr];rw[aH (show(i:Int)<(I s:Int) by omega)];cases f:aO.fS (s[i].toNat:Int)with|true=>have:=aO.yu (p:=aO.fS) (l:=s) (j:=i) af uP;rw[<-this];rfl|false=>have:=aO.yt (p:=aO.fS) (l:=s) (j:=i) af uP;rw[this];rfl
  .have:=aO.CA (p:=aO.fS) (l:=s) (j:=i) af;simp only[xt,c];exact G1
theorem YC{R:Type}{kx:aX->xh->ae R}{s:ak}(w w1:Tok){a:Int->ae R}(d:b1 (I s))(c:∀j,kx (.exit 0) (s,j,w,w1)=a j):∀(k i:Nat),i<=I s->I s-i<k->aI (λrec=>xG rec kx) k (s,(i:Int),w,w1)=a (aO.c4 aO.fA s i)
 |0,i,_,h=>absurd h (dY _)
 |k+1,i,bO,h=>by
  rw[c6];by_cases b:i<I s
  .have g:=YC w w1 d c k (i+1) af af;have e:av.cf s (i:Int)=(s[i].toNat:Int):=jr b;simp only[xG,c9 b d,g,c,jr b,cg b,QO];rw[aH (show(i:Int)<(I s:Int) by omega)];cases f:aO.fA (s[i].toNat:Int)with|true=>have:=aO.yu (p:=aO.fA) (l:=s) (j:=i) af uP;rw[<-this];rfl|false=>have:=aO.yt (p:=aO.fA) (l:=s) (j:=i) af uP;rw[this];rfl
  .have:=aO.CA (p:=aO.fA) (l:=s) (j:=i) af;simp only[xG,c];exact G1
theorem nQ{i j:Int}{n:Nat}(h : 0<=i/\i<=j/\j<=n):dP i j n=true:=by simp[dP,h]
theorem w2{n:Int}(h : 0<=n/\n<=1000000):wr .i64 n=n:=d_ ec
theorem axf{x:ak}(h:x≠[]):GX x=J (DM x):=ake
theorem aot{x:ak}(h:x≠[]):Rm x=J (aO.nw x):=ake
variable{s:ak}
theorem QA{i:Int}(h : 0<=i/\i<=I s):sW s i=J (aO.oD s i):=if_pos h
theorem asw(x:ak):o2 x=aO.CI x:=by
 have e:∀b:UInt8,mV b=aO.mV (b.toNat:Int):=λb=>by simp[mV,aO.mV];rw[show aa (32<=b.toNat)=aa (32<=(b.toNat:Int)) from hL.2 af,show aa (b.toNat<=126)=aa ((b.toNat:Int)<=126) from hL.2 af]
 simp[o2];congr 1;funext b;exact e b
theorem arR(x:ak):iQ (dA.mk 4 0 x)=aO.tV 4 0 x:=by show cond (aa ((I x:Int)<=1000)) (o2 x) ai=(aa ((I x:Int)<=1000)&&aO.CI x);rw[asw];cases aa ((I x:Int)<=1000)<;>rfl
theorem aq8(x:ak):aa (j8 (dA.mk 4 0 x)=0)=aO.tV 4 0 x:=by
 have key:∀b:Bool,aa (cond (!b) (2:Int) 0=0)=b:=dM
 rw[<-arR];exact key _
theorem asP{i:Int}(bz : 0<=i/\i<I s)(cw:I s<=20000):match aO.vX s i with
  |some (k,x,n,e)=>Ak s i=J (⟨k,i,x,n⟩,e)
  |none=>∃t,Ak s i=J (t, -1):=by
 have f:b1 (I s):=iC
 have ar:I (s.drop i.toNat)=I s-i.toNat:=ff;have a3:I (s.drop (i+2).toNat)=I s-(i+2).toNat:=ff;have l:s.drop i.toNat≠[]:=List.ne_nil_of_length_pos af;obtain⟨m,rfl⟩:=Int.eq_ofNat_of_zero_le bz.1;have hm:m<I s:=af
 have lo:∀p q,hO p q=aO.pre p q:=λ_ _=>rfl;have vG:b_ s (m:Int)=av.cf s (m:Int):=rfl;have o:oz (s.drop ((m:Int)+2).toNat) 39=lv (s.drop ((m:Int)+2).toNat) 39:=rfl;simp only[Ak,if_pos cw,TN,cg hm,nQ (show 0<=(m:Int)/\(m:Int)<=(I s:Int)/\(I s:Int)<=I s by omega),lo,vG,Qy,Qx,QO,ax,bd,aO.vX,w2 (show 0<=(m:Int)+2/\(m:Int)+2<=1000000 by omega),w2 (show 0<=(m:Int)+3/\(m:Int)+3<=1000000 by omega),w2 (show 0<=(m:Int)+1/\(m:Int)+1<=1000000 by omega)];cases ag:aO.pre (s.drop (m:Int).toNat) [120,39]with
 |true=>
  have aZ : 2<=I (s.drop (m:Int).toNat):=by simp[aO.pre,bN,fQ,eo,dB]at ag;omega
  have r:=aO.L6 (s.drop ((m:Int)+2).toNat) 39;simp[if_true,bd];rw[nQ (show 0<=(m:Int)+2/\(m:Int)+2<=(I s:Int)/\(I s:Int)<=I s by omega),o,bd];generalize lv (s.drop ((m:Int)+2).toNat) 39=z at r ⊢;by_cases c:z<0
  .rw[if_pos c,aH c];exact⟨_,rfl⟩
  .rw[if_neg c,aL c,w2 (show 0<=(m:Int)+2+z/\(m:Int)+2+z<=1000000 by omega),w2 (show 0<=(m:Int)+3+z/\(m:Int)+3+z<=1000000 by omega),nQ (show 0<=(m:Int)+2/\(m:Int)+2<=(m:Int)+2+z/\(m:Int)+2+z<=I s by omega),bj,bd];have g:=aO.T8 s ((m:Int)+2) ((m:Int)+2+z) af;have h:cut s ((m:Int)+2) ((m:Int)+2+z)=av.cut s ((m:Int)+2) ((m:Int)+2+z):=rfl;rw[h];generalize av.cut s ((m:Int)+2) ((m:Int)+2+z)=y at g ⊢;have x8:JX y=J (Ms y):=if_pos af;rw[x8,Ms];cases (if I y % 2=0 then aO.mU y []else aj)with
   |none=>exact⟨_,rfl⟩
   |some b=>
    by_cases al : 1000<(I b:Int)
    .simp[bA];rw[if_pos al,aH al];exact⟨_,rfl⟩
    .simp[bA];rw[if_neg al,aL al];rfl
 |false=>
  simp only[bj,pX,if_false];cases hu:aO.hs (av.cf s (m:Int))with
  |true=>
   have aF:=aO.pt aO.hs s m af;simp only[bd,if_true];rw[YB (s:=s) (w:=Tok.mk 0 0 [] 0) (w1:=Tok.mk 0 m [] 0) (a:=λv3=>cond (dP (m:Int) v3 (I s)) (cond (!(s7 (cut s m v3))) (J ((Tok.mk 1 m (cut s m v3) 0),(-1))) ((sW s v3).bind λu=>cond (!u) (J ((Tok.mk 1 m (cut s m v3) 0),(-1))) (J ((Tok.mk 1 m (cut s m v3) 0),v3)))) aj) f (λ_=>rfl) 20001 m af af];rw[nQ af,QA af,Q'];have h:cut s (m:Int) (aO.c4 aO.hs s m)=av.cut s (m:Int) (aO.c4 aO.hs s m):=rfl;rw[h];cases aO.nA (av.cut s (m:Int) (aO.c4 aO.hs s m))with
   |false=>exact⟨_,rfl⟩
   |true=>cases aO.oD s (aO.c4 aO.hs s m)with|false=>exact⟨_,rfl⟩|true=>rfl
  |false=>
   simp only[bj,pX,if_false];cases a4:aO.kV (av.cf s (m:Int))with
   |true=>
    have aF:=aO.pt aO.fS s m af;simp only[bd,if_true];rw[YH (s:=s) (w:=Tok.mk 0 0 [] 0) (w1:=Tok.mk 0 m [] 0) (a:=λv3=>cond (dP (m:Int) v3 (I s)) (cond (!(eQ (cut s m v3))) (J ((Tok.mk 2 m (cut s m v3) 0),(-1))) ((sW s v3).bind λu=>cond (!u) (J ((Tok.mk 2 m (cut s m v3) 0),(-1))) (J ((Tok.mk 2 m (cut s m v3) 0),v3)))) aj) f (λ_=>rfl) 20001 m af af];rw[nQ af,QA af];have h:cut s (m:Int) (aO.c4 aO.fS s m)=av.cut s (m:Int) (aO.c4 aO.fS s m):=rfl;rw[h];simp[eQ];cases aO.qa (av.cut s (m:Int) (aO.c4 aO.fS s m))with
    |false=>exact⟨_,rfl⟩
    |true=>cases aO.oD s (aO.c4 aO.fS s m)with|false=>exact⟨_,rfl⟩|true=>rfl
   |false=>
    simp only[bj,pX,if_false];cases v:aO.fA (av.cf s (m:Int))with
    |true=>
     have aF:=aO.pt aO.fA s m af;have cr:=aO.CB (p:=aO.fA) af v;have g:=aO.T8 s (m:Int) (aO.c4 aO.fA s m) af;simp only[bd,if_true];rw[YC (s:=s) (w:=Tok.mk 0 0 [] 0) (w1:=Tok.mk 0 m [] 0) (a:=λv3=>cond (dP (m:Int) v3 (I s)) ((GX (cut s m v3)).bind λ(gT,lV)=>cond (dP (m:Int) v3 (I s)) (cond (!lV) (J ((Tok.mk 3 m (cut s m v3) gT),(-1))) ((sW s v3).bind λnB=>cond (!nB) (J ((Tok.mk 3 m (cut s m v3) gT),(-1))) (J ((Tok.mk 3 m (cut s m v3) gT),v3)))) aj) aj) f (λ_=>rfl) 20001 m af af];have h:cut s (m:Int) (aO.c4 aO.fA s m)=av.cut s (m:Int) (aO.c4 aO.fA s m):=rfl;rw[nQ af,QA af,h];generalize av.cut s (m:Int) (aO.c4 aO.fA s m)=y at g ⊢;rw[axf (List.ne_nil_of_length_pos af),DM];cases aO.pk y 0 with
     |none=>exact⟨_,rfl⟩
     |some n=>
      simp only[bA,bd];have jZ:(aa (y=[48]) || !decide (b_ y 0=48))=(aa (y=[48])||av.cf y 0 != 48):=rfl;rw[jZ];cases (aa (y=[48])||av.cf y 0 != 48)with
      |false=>exact⟨_,rfl⟩
      |true=>cases aO.oD s (aO.c4 aO.fA s m)with|false=>exact⟨_,rfl⟩|true=>rfl
    |false=>
     simp only[bj,pX,if_false];by_cases d:av.cf s (m:Int)=39
     .have j:=aO.yp _ (s.drop ((m:Int)+1).toNat) [] ((m:Int)+1) (bU _) af;have eq:GQ s ((m:Int)+1)=J (aO.hR (s.drop ((m:Int)+1).toNat) [] ((m:Int)+1)):=if_pos af;rw[aH d,if_pos d,eq];simp only[bd,bA,aq8];generalize aO.hR (s.drop ((m:Int)+1).toNat) [] ((m:Int)+1)=q at j ⊢;obtain⟨y,z⟩:=q;cases aO.tV 4 0 y with
      |false=>exact⟨_,rfl⟩
      |true=>
       simp only[if_true,ef,bj];by_cases c:z<0
       .rw[if_pos c];obtain rfl:z = -1:=by simp only at j;omega
        exact⟨_,rfl⟩
       .rw[if_neg c]
     .have a2:=aO.alP (s.drop (m:Int).toNat) af;rw[aL d,if_neg d,aot l];simp only[bj,bA];generalize aO.nw (s.drop (m:Int).toNat)=z at a2 ⊢;rw[w2 (show 0<=(m:Int)+z/\(m:Int)+z<=1000000 by omega),nQ af];by_cases c:z=0
      .rw[aH c,if_pos c];exact⟨_,rfl⟩
      .exact CN
def XL:bn:=⟨38,[(0,.str),(2,.sl .tok ab),(3,.int .i64),(4,.int .i64),(5,.sl .tok ab),(6,.int .i64)],[],[],0,0,0,[],[]⟩
abbrev Ij:=ak×U Tok×Int×Int×U Tok×Int
def Aa{R:Type}(rec:Ij->ae R)(kx:aX->Ij->ae R)(v:Ij):ae R:=match v with|(v,v1,v2,v3,v4,v5)=>cond (aa (v5<(I v:Int))) (ax (a_ v5 (I v)) (cond (aa (0<=(oz [32,9,10,13] (b_ v v5)))) (rec (v,v1,v2,v3,v4,(wr .i64 (v5+1)))) ((Ak v v5).bind λ(x,a)=>cond (aa (a<0)) (kx .ret (v,[],v5,11,v4,v5)) (ax (aa (I v4+1<=bY)) (rec (v,v1,v2,v3,(v4++[x]),a)))))) (kx (.exit 0) (v,v1,v2,v3,v4,v5))
def ahU(R:Type)(k:Nat):aR R:=bs [(184,ba I4),(185,ba Q6)] [] [(5,b8 k XL (Aa))] []
def WV(k:Nat)(x:aw [.str]):ae (aw [.sl .tok ab,an,an]):=match x with
 |s=>cond (aa (20000<(I s:Int))) (J ([],0,3)) (aI (λrec=>Aa rec (λe b=>match b with|(_,bb,bK,v9,a,_)=>match e with
  |.ret=>J (bb,bK,v9)
  |.exit 0=>J (a,0,0)
  |_=>aj)) k (s,[],0,0,[],0))
theorem aoy(k:Nat):aU 121 [.str] [.sl .tok ab,an,an] (WV k):=b6 (px:=ahU _ k) (n:=1) Tryz.func121 rfl (λah H=>by have c:bP ah (ahU (aw [.sl .tok ab,an,an]) k):=br H (c1 H Rg (c1 H aut bq)) bo bp;have a:=cd H c (b:=b0 Tryz.f121 0) (k:=k) (n:=0) (s:=XL) (step:=Aa) (λ_ _ _ (_,_,_,_,_,_)=>by kernel_rfl) aK;exact⟨c,(b9 aK a)⟩) λ_=>by kernel_rfl
def wU(s:ak):U Tok×Int×Int:=if 20000<(I s:Int)then([],0,3)else match aO.B6 s with|.error i=>([],i,11)|.ok bQ=>(bQ,0,0)
abbrev iS(s:ak):U Tok×Int×Int:=wU s
def Sn:bt [.str] [.sl .tok ab,an,an]:=λx=>J (iS x)
theorem aoK(c:Int):aa (0<=oz [32,9,10,13] c)=aO.B7 c:=rfl
theorem Alt{R:Type}{kx:aX->Ij->ae R}{s:ak}{c:Except Int (U Tok)->ae R}(g:I s<=20000)(l:∀a i j,kx .ret (s,[],i,11,a,j)=c (.error i))(m:∀q r t a j,kx (.exit 0) (s,q,r,t,a,j)=c (.ok a)):∀(k:Nat) (i:Int) (f:Nat) (q:U Tok) (r t:Int) (a:U Tok),(I a:Int)<=i->0<=i->i<=I s->(I s:Int)-i<k->(I s:Int)-i<f->aI (λrec=>Aa rec kx) k (s,q,r,t,a,i)=c (aO.sf f s i a)
 |0,i,f,q,r,t,a,_,_,_,h,_=>by omega
 |k+1,i,0,q,r,t,a,_,_,_,_,h=>by omega
 |k+1,i,f+1,q,r,t,a,c5,dm,bO,h,cb=>by
  rw[c6];by_cases b:i<I s
  .have o:aa (I a+1<=bY)=true:=aH jf;have p:b_ s i=av.cf s i:=rfl;simp[Aa,qZ (show 0<=i/\i<(I s:Int) from⟨dm,b⟩),aoK,o,p,aO.sf];rw[aH b,if_neg (show ¬(I s:Int)<=i by omega)];simp[bd,ax];cases v:aO.B7 (av.cf s i)with
   |true=>rw[w2 af];simp[bd,if_true];exact Alt g l m k (i+1) f q r t a af af af af af
   |false=>have d:=asP (s:=s) (i:=i) ⟨dm,b⟩ g;simp[bj,pX,if_false];cases n:aO.vX s i with|none=>rw[n]at d;obtain⟨u,w⟩:=d;rw[w];exact l _ _ _|some y=>obtain⟨x,z,yG,e⟩:=y;rw[n]at d;have a2:=aO.aEX ⟨dm,b⟩ n;simp only at d;rw[d];simp[bA];rw[aL (show ¬e<0 by omega),bj];exact Alt g l m k e f q r t (a++[⟨x,i,z,yG⟩]) Ta af af af af
  .simp[Aa,m,aO.sf];rw[aL b,if_pos (show(I s:Int)<=i by omega)];rfl
theorem azm:aU 121 [.str] [.sl .tok ab,an,an] Sn:=.fin 0 aoy λs r al ag=>⟨20001,by
 simp only[Sn,dN]at ag;rw[<-ag];simp only[WV,iS,wU];by_cases a : 20000<(I s:Int)
 .rw[aH a,if_pos a];rfl
 .rw[aL a,if_neg a,bj];refine(Alt (s:=s) (c:=λo=>match o with|.error i=>J ([],i,(11:Int))|.ok bQ=>J (bQ,(0:Int),(0:Int))) af (λ_ _ _=>?_) (λ_ _ _ _ _=>?_) 20001 0 (I s+1) [] 0 0 [] (by simp) af af af af).trans ?_
  .rfl
  .rfl
  .show _=J (match aO.sf (I s+1) s 0 []with|.error i=>([],i,(11:Int))|.ok bQ=>(bQ,(0:Int),(0:Int)));cases aO.sf (I s+1) s 0 []<;>rfl⟩
end Go.Proofs.YtdelkmpkjibigaaGreatDoor
