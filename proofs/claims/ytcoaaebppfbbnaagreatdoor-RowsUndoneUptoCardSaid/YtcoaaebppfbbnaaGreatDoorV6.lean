/- Texts of the proof,one behind the other: Lm,Ar,Dg,Eb,Fc,Fk,Fd,Es,Ix,En,Ep,Ac,Ad,Sc,No,So,Sd,Se,Zf,Zv,Vu,Xu,Vc,Zr,Zi,Sn,Ck. -/
import Derived.Test.YtcoaaebppfbbnaaGreatDoorV5
set_option linter.all false
open List renaming length->I,mem_append->fM,getElem_mem->fo,mem_cons->ek
open Option renaming some->J,none->ah
open Bool renaming true->ae,false->ai
open Decidable renaming decide->aa
open UInt8 renaming ofNat->bj
open Nat renaming zero_le->cp
open BitVec renaming ofInt->fO
open Go renaming Value->aA,IntKind->b',maxLen->c5
namespace Go
theorem tx{p:Prop}(h:p:=by simp[wr,b'.wrap,b'.bits,b'.signed]):p:=h
theorem iy{p:Prop}(h:p:=by rw[gH]):p:=h
theorem Gc{p:Prop}(h:p:=by rw[List.take_add_one,ho hi,List.map_append];rfl):p:=h
theorem mK{p:Prop}(h:p:=by simp[b5];omega):p:=h
theorem Gd{p:Prop}(h:p:=by simp[List.length_map,List.length_take,bJ];omega):p:=h
theorem np{p:Prop}(h:p:=by rw[gH,gH]):p:=h
theorem aey{p:Prop}(h:p:=by rw[Int.fdiv_eq_ediv_of_nonneg _ (by omega)];omega):p:=h
theorem aeD{p:Prop}(h:p:=by have:=UInt8.lt_iff_toNat_lt.1 h2;omega):p:=h
theorem AX{p:Prop}(h:p:=by simp[bJ];omega):p:=h
theorem xh{p:Prop}(h:p:=by rw[gH];rfl):p:=h
theorem aeH{p:Prop}(h:p:=by simp only[iB];cases fh e 30<;>simp):p:=h
theorem Gr{p:Prop}(h:p:=by have:=ka d;omega):p:=h
theorem Gs{p:Prop}(h:p:=by simp[upto];omega):p:=h
theorem PO{p:Prop}(h:p:=by rw[Bool.true_and]):p:=h
end Go
namespace Go
theorem jz{p:Prop}(h:p:=by rw[g0 (b2 _)];rfl):p:=h
theorem pZ{p:Prop}(h:p:=by rw[g0 (b2 _),g0 ag];rfl):p:=h
theorem _z{p:Prop}(h:p:=by have e:=d2 (ee 5 (I l[i].s)++l[i].s) (by have:=mc 5 (I l[i].s);simp;omega);simp[kj,d]at e;simp[kD,d,g,kj,Br (show I l[i].s<=274877906900 by omega),e,show I l[i].s<=bJ by simp[bJ];omega]):p:=h
theorem _C{p:Prop}(h:p:=by cases aa (a.kind=b.kind)<;>cases aa (a.v=b.v)<;>cases aa (a.name=b.name)<;>rfl):p:=h
theorem _G{p:Prop}(h:p:=by cases aa (v.n=0)<;>cases aa (v.n=1)<;>cases s<;>simp_all):p:=h
theorem adR{p:Prop}(h:p:=by rw[g0 (b2 _),List.take_length];cases gu (I l:Int)<;>rfl):p:=h
theorem ad3{p:Prop}(h:p:=by cases aa (a.kind=b.kind)<;>cases aa (a.v=b.v)<;>cases aa (a.name=b.name)<;>cases j' a.l b.l<;>rfl):p:=h
end Go
namespace Go.Proofs.YtcoaaebppfbbnaaGreatDoor
open Go.dS
theorem avX{i:Int}{n:Nat}(h : 0<=i/\i<n):aU i n=true:=by simp[aU,h]
def ar4(R:Type):aM R:=bp [] [] [] []
def La(x:au [.int .u8]):af (au [.bool]):=match x with|c=>cond (aa (97<=c)) (J (aa (c<=122))) (J ai)
theorem aoP:aN 228 [.int .u8] [.bool] (La):=bX (px:=ar4 _) (n:=0) Tryz.func228 rfl (λ_ H=>⟨br H bm bo bq,aP⟩) λ_=>by kernel_rfl
def ry(c:Int):Bool:=cond (aa (97<=c)) (aa (c<=122)) (ai)
theorem api(x:au [.int .u8]):La x=J (ry x):=by
 first
  |exact rfl
  |simp only[La,ry,fA]
def Jq:bb [.int .u8] [.bool]:=λx=>J (ry x)
theorem _W:aN 228 [.int .u8] [.bool] Jq:=.de aoP λx _ _ a=>(api x).trans a
def asx(R:Type):aM R:=bp [] [] [] []
def KN(x:au [.int .u8]):af (au [.bool]):=match x with|c=>cond (aa (48<=c)) (J (aa (c<=57))) (J ai)
theorem aoq:aN 268 [.int .u8] [.bool] (KN):=bX (px:=asx _) (n:=0) Tryz.func268 rfl (λ_ H=>⟨br H bm bo bq,aP⟩) λ_=>by kernel_rfl
def tg(c:Int):Bool:=cond (aa (48<=c)) (aa (c<=57)) (ai)
theorem aqo(x:au [.int .u8]):KN x=J (tg x):=by
 first
  |exact rfl
  |simp only[KN,tg,fA]
def acL:bb [.int .u8] [.bool]:=λx=>J (tg x)
theorem ajo:aN 268 [.int .u8] [.bool] acL:=.de aoq λx _ _ a=>(aqo x).trans a
def atd(R:Type):aM R:=bp [(228,bg Jq),(268,bg acL)] [] [] []
def Lp(x:au [.int .u8]):af (au [.bool]):=match x with|c=>cond (ry c) (J ae) (cond (tg c) (J ae) (J (aa (c=95))))
theorem aoF:aN 230 [.int .u8] [.bool] (Lp):=bX (px:=atd _) (n:=0) Tryz.func230 rfl (λ_ H=>⟨br H (c1 H _W (c1 H ajo bm)) bo bq,aP⟩) λ_=>by kernel_rfl
def wE(c:Int):Bool:=cond (ry c) (ae) (cond (tg c) (ae) (aa (c=95)))
theorem ao7(x:au [.int .u8]):Lp x=J (wE x):=by
 first
  |exact rfl
  |simp only[Lp,wE,fA]
def ab7:bb [.int .u8] [.bool]:=λx=>J (wE x)
theorem aiK:aN 230 [.int .u8] [.bool] ab7:=.de aoF λx _ _ a=>(ao7 x).trans a
theorem RJ(c:Int):ry c=fk.oA c:=by simp only[ry,fk.oA];cases aa (97<=c)<;>rfl
theorem atj(c:Int):tg c=fk.Cq c:=by simp only[tg,fk.Cq];cases aa (48<=c)<;>rfl
theorem at1(c:Int):wE c=fk.kp c:=by simp[wE,fk.kp,RJ,atj];cases fk.oA c<;>cases fk.Cq c<;>rfl
def Vx:bt:=⟨21,[(0,.str),(1,.int .i64)],[(2,.fn 230 [])],[],40,40,200,[],[]⟩
abbrev HA:=ar×Int
def yA{R:Type}(a:HA->af R)(kx:bf->HA->af R)(v:HA):af R:=match v with|(v,v1)=>cond (aa (v1<(I v:Int))) (ax (aU v1 (I v)) (cond (wE (lI v v1)) (a (v,(wr .i64 (v1+1)))) (kx (.exit 0) (v,v1)))) (kx (.exit 0) (v,v1))
def Vj(R:Type)(k:Nat):aM R:=bp [(230,bg ab7)] [] [(1,cq k Vx (yA))] []
noncomputable def S4(R:Type)(k:Nat):aM R:=bp [(228,bg Jq),(229,eY 40 200 (Vj R k) Tryz.f229)] [] [] []
def WN(k:Nat)(x:au [.str]):af (au [.bool]):=match x with
 |s=>
 let b:=λ(p:Bool)=>
  let j:=λ(p1:Bool)=>
  cond (p1) (
   aT (λa=>yA a (λe c=>match c with|(_,aD)=>match e with
   |.exit 0=>J (aa (aD=(I s:Int)))
   |_=>ah)) k (s,0)) (
   J ai)
  cond (p) (
  ax (aU 0 (I s)) (
   j (ry (lI s 0)))) (
  j ai)
 cond (!decide (s=[])) (
  b (aa ((I s:Int)<=30))) (
  b ai)
theorem ap9(k:Nat):aN 187 [.str] [.bool] (WN k):=bX (px:=S4 _ k) (n:=0) Tryz.func187 rfl (λab H=>by have h1:bT ab (Vj (au [.bool]) k):=br H (c1 H aiK bm) bo bq;have a:=cC H h1 (b:=b_ Tryz.f229 0) (k:=k) (n:=0) (s:=Vx) (step:=yA) (λ_ _ _ (_,_)=>by kernel_rfl) aP;have h0:bT ab (S4 (au [.bool]) k):=br H (c1 H _W (dY (e8 H h1 Tryz.func229 rfl (n:=1) (cm aP a)) bm)) bo bq;exact⟨h0,aP⟩) λ_=>by kernel_rfl
abbrev fC(s:ar):Bool:=fk.y9 s
def yG:bb [.str] [.bool]:=λx=>J (fC x)
theorem TI{R:Type}{kx:bf->HA->af R}{s:ar}  {a:Int->af R}(d:b5 (I s)) (h1:∀j,kx (.exit 0) (s,j)=a j):∀(k i:Nat),i<=I s->I s-i<k->aT (λc=>yA c kx) k (s,(i:Int))=a (fk.m9 fk.kp s i)
 |0,i,_,h=>absurd h (pv _)
 |k+1,i,hi,h=>by
  rw[cQ];by_cases b:i<I s
  .have g:=TI  d h1 k (i+1) ag ag;have e:aw.pB s (i:Int)=(s[i].toNat:Int):=zL b;simp only[yA,cV b d,g,h1,zL b,bY b,at1];rw[aY (show(i:Int)<(I s:Int) by omega)];cases f:fk.kp (s[i].toNat:Int)with|true=>have:=fk.ayH (p:=fk.kp) (l:=s) (j:=i) ag (by rw[e];exact f);rw[<-this];rfl|false=>have:=fk.ayG (p:=fk.kp) (l:=s) (j:=i) ag (by rw[e];exact f);rw[this];rfl
  .have:=fk.ayF (p:=fk.kp) (l:=s) (j:=i) ag;simp only[yA,h1];rw[bl ag,this];rfl
theorem DK:aN 187 [.str] [.bool] yG:=.fin 0 ap9 λs r aj d=>⟨I s+1,by
 simp only[yG,c4]at d;rw[<-d];simp only[WN,fC,fk.y9];by_cases c:s=[]
 .rw[aY c];rfl
 .rw[bl c];simp only[jd,a8,Bool.true_and];by_cases b:(I s:Int)<=30
  .have f : 0<I s:=List.length_pos_iff.2 c;rw[aY b,avX ag,RJ];simp only[ax,a8,Bool.true_and];have e:lI s 0=aw.pB s 0:=rfl;rw[e];cases fk.oA (aw.pB s 0)with|false=>rfl|true=>simp only[a8,Bool.true_and];exact TI (s:=s) (a:=λj=>J (aa (j=(I s:Int)))) aj (λ_=>rfl) (I s+1) 0 (cp _) ag
  .rw[bl b];rfl⟩
def aiA(R:Type):aM R:=bp [] [] [] []
def KX(x:au [aq]):af (au [aq]):=match x with
 |kind=>
 let a:=λ(p1:Bool)=>
  cond (p1) (
  J 0) (
  let j:=λ(b:Bool)=>
   cond (b) (
   J 1) (
   cond (!decide ((lH oG kind)=[])) (
    J 2) (
    J (-1)))
  cond (aa (kind=3)) (
   j ae) (
   cond (aa (kind=15)) (
   j ae) (
   j (aa (kind=16)))))
 cond (aa (kind=1)) (
  a ae) (
  a (aa (kind=2)))
theorem aot:aN 186 [aq] [aq] (KX):=bX (px:=aiA _) (n:=0) Tryz.func186 rfl (λ_ H=>⟨br H bm bo bq,aP⟩) λ_=>by kernel_rfl
def parts(kind:Int):Int:=
 let a:=λ(p1:Bool)=>
  cond (p1) (
  0) (
  let j:=λ(b:Bool)=>
   cond (b) (
   1) (
   cond (!decide ((lH oG kind)=[])) (
    2) (
    (-1)))
  cond (aa (kind=3)) (
   j ae) (
   cond (aa (kind=15)) (
   j ae) (
   j (aa (kind=16)))))
 cond (aa (kind=1)) (
  a ae) (
  a (aa (kind=2)))
theorem apl(x:au [aq]):KX x=J (parts x):=by
 first
  |exact rfl
  |simp only[KX,parts,fA]
def aaQ:bb [aq] [aq]:=λx=>J (parts x)
theorem ai5:aN 186 [aq] [aq] aaQ:=.de aot λx _ _ a=>(apl x).trans a
mutual
def di:bh->Nat|.mk _ _ _ l=>1+je l
def je:U bh->Nat|[]=>0|x::l=>1+di x+je l
end
theorem ka:∀{l:U bh}{x:bh},x∈l->di x<je l
 |y::l,x,h=>by
  simp at h;simp[je];rcases h with rfl|h
  .omega
  .have:=ka h;omega
theorem tF:∀(l:U bh),I l<=je l
 |[]=>by simp
 |x::l=>by have:=tF l;simp[je];omega
theorem mJ(e:bh) : 0<di e:=by cases e;simp[di];omega
theorem nn(e:bh):di e=1+je e.l:=by cases e;simp[di,bh.l]
theorem ru{e:bh}(h:jS e):b5 (I e.l)/\∀x,x∈e.l->jS x:=by obtain⟨_,_,_,_,_,_,_,h4,h5⟩:=h;exact⟨h4,h5⟩
def Ub:bt:=⟨19,[(0,.sl .expr ai),(4,.int .i64),(7,.int .i64),(8,.int .i64)],[(1,.fn 189 [.ptr 1 0])],[(1,.cells [aq])],80,80,400,[],[]⟩
abbrev Hr:=U bh×Int×Int×Int×Int
def x9{R:Type}(rf:bb [bR,aq] [.bool])(a:Hr->af R)(kx:bf->Hr->af R)(v:Hr):af R:=match v with|(v,v1,v2,aD,w)=>cond (aa (aD<v2)) (ax (aU aD (I v)) ((rf ((at' .expr v aD),(wr .i64 (w-1)))).bind λx=>cond (!x) (kx .ret (v,aD,v2,aD,w)) (a (v,v1,v2,(wr .i64 (aD+1)),w)))) (kx (.exit 0) (v,v1,v2,aD,w))
def aeT(R:Type)(kK:Nat)(rf:bb [bR,aq] [.bool]):aM R:=bp [(133,bg rf)] [] [] []
noncomputable def ae6(R:Type)(k:Nat)(rf:bb [bR,aq] [.bool]):aM R:=bp [(189,eY 120 600 (aeT R k rf) Tryz.f189)] [] [(2,cq k Ub (x9 rf))] []
noncomputable def Uk(R:Type)(k:Nat)(rf:bb [bR,aq] [.bool]):aM R:=bp [(231,eY 80 400 (ae6 R k rf) Tryz.f231)] [] [] []
noncomputable def XQ(R:Type)(k:Nat)(rf:bb [bR,aq] [.bool]):aM R:=bp [(80,bg Pi),(187,bg yG),(188,eY 40 200 (Uk R k rf) Tryz.f188)] [(186,fa aaQ)] [] []
def xk(k:Nat)(rf:bb [bR,aq] [.bool])(x:au [bR,aq]):af (au [.bool]):=match x with
 |(e,ca)=>
 cond (aa (ca=0)) (
  J ai) (
  cond (!decide ((I e.l:Int)=(parts e.kind))) (
  J ai) (
  let a:=λ(_:Unit)=>
   let c:=λ(_:Unit)=>
   aT (λb=>x9 rf b (λe d=>match d with|(_,a',_,_,_)=>match e with
    |.ret=>
    J (!(aa (0<=a')))
    |.exit 0=>
    J ae
    |_=>ah)) k (e.l,0,(I e.l:Int),0,ca)
   let j:=λ(f:Bool)=>
   cond (f) (
    J ai) (
    cond (!decide (e.kind=2)) (
    cond (!decide (e.name=[])) (
     J ai) (
     c ())) (
    c ()))
   cond (aa (e.kind=2)) (
   j (!(fC e.name))) (
   j ai)
  cond (aa (e.kind=1)) (
   cond (!decide ((hP e.v)=0)) (
   J ai) (
   cond (aa (e.v.kind=3)) (
    cond (aa (e.v.n<0)) (
    J ai) (
    a ())) (
    a ()))) (
   cond (!decide (e.v=(aH.mk 0 0 []))) (
   J ai) (
   a ()))))
theorem anz(k:Nat)(rf:bb [bR,aq] [.bool])(c:aN 133 [bR,aq] [.bool] rf):aN 133 [bR,aq] [.bool] (xk k rf):=bX (px:=XQ _ k rf) (n:=0) Tryz.func133 rfl (λab H=>by have h3:bT ab (aeT (au [.bool]) k rf):=br H (c1 H c bm) bo bq;have h2:bT ab (ae6 (au [.bool]) k rf):=br H (dY (e8 H h3 Tryz.func189 rfl (n:=0) (aP)) bm) bo bq;have a:=cC H h2 (b:=b_ Tryz.f231 0) (k:=k) (n:=0) (s:=Ub) (step:=x9 rf) (λ_ _ _ (_,_,_,_,_)=>by kernel_rfl) aP;have h1:bT ab (Uk (au [.bool]) k rf):=br H (dY (e8 H h2 Tryz.func231 rfl (n:=1) (cm aP a)) bm) bo bq;have h0:bT ab (XQ (au [.bool]) k rf):=br H (c1 H BC (c1 H DK (dY (e8 H h1 Tryz.func188 rfl (n:=0) (aP)) bm))) (bd H ai5 bo) bq;exact⟨h0,aP⟩) λ(_,_)=>by kernel_rfl
def pE(k:Int)(v:aH)(c':ar):Bool:=cond (aa (k=1)) (aa (hP v=0) && !(aa (v.kind=3)&&aa (v.n<0))) (aa (v=⟨0,0,[]⟩))&&cond (aa (k=2)) (fC c') (aa (c'=[]))
mutual
def fh:bh->Int->Bool|.mk k v c' l,m=> !decide (m=0)&&aa ((I l:Int)=parts k)&&pE k v c'&&kN l (wr .i64 (m-1))
def kN:U bh->Int->Bool|[],_=>ae|x::l,m=>fh x m&&kN l m
end
def B1:bb [bR,aq] [.bool]:=λx=>J (fh x.1 x.2)
theorem T2{R:Type}{rf:bb [bR,aq] [.bool]}{kx:bf->Hr->af R}{l:U bh}{m:Int}{a b:af R}(g:b5 (I l))(d:∀x,x∈l->rf (x,wr .i64 (m-1))=J (fh x (wr .i64 (m-1))))(h1:∀(j:Nat),kx .ret (l,(j:Int),(I l:Int),(j:Int),m)=a)(h2:∀q j,kx (.exit 0) (l,q,(I l:Int),j,m)=b):∀(k i:Nat) q,i<=I l->I l-i<k->aT (λf=>x9 rf f kx) k (l,q,(I l:Int),(i:Int),m)=cond (kN (l.drop i) (wr .i64 (m-1))) b a
 |0,i,q,_,h=>by omega
 |k+1,i,q,hi,h=>by
  rw[cQ];by_cases e:i<I l
  .simp only[x9,cV e g,(T2 g d h1 h2 k (i+1) q ag ag),h1,dn e,cb (c:=.expr) e,bY e,Bool.cond_decide,kN,d _ (fo e)];rw[if_pos ag];cases fh l[i] (wr .i64 (m-1))<;>rfl
  .simp[x9,h2,Bool.cond_decide];exact Dn
theorem L_(e:bh)(m:Int):fh e m=(!decide (m=0)&&aa ((I e.l:Int)=parts e.kind)&&pE e.kind e.v e.name&&kN e.l (wr .i64 (m-1))):=by cases e;simp[fh];rfl
theorem U2(k:Nat):∀(n:Nat) (e:bh) (m:Int),jS e->di e<=n->di e<=k->aT (xk k) n (e,m)=J (fh e m)
 |0,e,m,_,h,_=>by have:=mJ e;omega
 |n+1,e,m,aj,h,aV=>by
  obtain⟨f,g⟩:=ru aj;rw[nn]at h aV;have q:=tF e.l;have i:∀x,x∈e.l->∀m,aT (xk k) n (x,m)=J (fh x m):=λx d m=>U2 k n x m (g x d) Gr Gr;have c:=T2 (R:=Bool) (rf:=aT (xk k) n) (l:=e.l) (m:=m) (a:=J ai) (b:=J ae) (kx:=λe v=>match v with
   |(_,a',_,_,_)=>match e with
    |.ret=>J (!(aa (0<=a')))
    |.exit 0=>J ae
    |_=>ah) f (λx d=>i x d _) (λj=>by simp) (λ_ _=>rfl) k 0 0 (cp _) ag
  have p:((0:Nat):Int)=0:=rfl;rw[p]at c;rw[cQ,L_];simp only[xk]at c ⊢;rw[c];simp only[gH,pE];by_cases hm:m=0
  .simp[hm]
  .rw[bl hm];simp only[a_,jd,Bool.true_and];by_cases o:(I e.l:Int)=parts e.kind
   .rw[aY o];by_cases h1:e.kind=1
    .have h2:¬e.kind=2:=ag
     rw[aY h1,bl h2];simp only[a8,a_,jd,dj,Bool.true_and];cases aa (hP e.v=0)<;>cases aa (e.v.kind=3)<;>cases aa (e.v.n<0)<;>cases aa (e.name=[])<;>cases kN e.l (wr .i64 (m-1))<;>rfl
    .rw[bl h1];simp only[a_,dj,Bool.true_and];cases aa (e.v=aH.mk 0 0 [])<;>cases aa (e.kind=2)<;>cases aa (e.name=[])<;>cases fC e.name<;>cases kN e.l (wr .i64 (m-1))<;>rfl
   .rw[bl o];rfl
theorem HX:aN 133 [bR,aq] [.bool] B1:=by refine .fin (ι:=Nat) 0 (F:=λn=>aT (xk n) n) (λn=>eH.jf (aw.ga Tryz.func133 rfl rfl) (λrf a=>anz n rf a) n) λ(e,m) r aj b=>⟨di e,?_⟩;exact(U2 (di e) (di e) e m aj.1 (b2 _) (b2 _)).trans b
def aiD(R:Type):aM R:=bp [(133,bg B1)] [] [] []
def KU(x:au [bR]):af (au [aq]):=match x with|e=>cond (!(fh e 30)) (J 2) (J 0)
theorem ao1:aN 89 [bR] [aq] (KU):=bX (px:=aiD _) (n:=0) Tryz.func89 rfl (λ_ H=>⟨br H (c1 H HX bm) bo bq,aP⟩) λ_=>by kernel_rfl
def iB(e:bh):Int:=cond (!(fh e 30)) (2) (0)
theorem ao3(x:au [bR]):KU x=J (iB x):=by
 first
  |exact rfl
  |simp only[KU,iB,fA]
def Jv:bb [bR] [aq]:=λx=>J (iB x)
theorem SA:aN 89 [bR] [aq] Jv:=.de ao1 λx _ _ a=>(ao3 x).trans a
def Wa:bt:=⟨41,[(1,.int .i64),(5,.int .i64),(6,.int .i64)],[(2,.ptr 0 0)],[(0,.one (.aI .expr))],1,0,0,[],[]⟩
abbrev H9:=Int×Int×Int×bh
def yq{R:Type}(rf:bb [bR,aq] [aq])(a:H9->af R)(kx:bf->H9->af R)(v:H9):af R:=match v with|(v,v1,v2,w)=>cond (aa (v2<(I w.l:Int))) (cond (aa (v1<v)) (ax (aU v2 (I w.l)) ((rf ((at' .expr w.l v2),(wr .i64 (v-v1)))).bind λx=>a (v,(wr .i64 (v1+x)),(wr .i64 (v2+1)),w))) (kx (.exit 0) (v,v1,v2,w))) (kx (.exit 0) (v,v1,v2,w))
def aaa(R:Type)(k:Nat)(rf:bb [bR,aq] [aq]):aM R:=bp [(85,bg rf)] [] [(3,cq k Wa (yq rf))] []
def A8(k:Nat)(rf:bb [bR,aq] [aq])(x:au [bR,aq]):af (au [aq]):=match x with
 |(e,ca)=>
 aT (λa=>yq rf a (λe b=>match b with|(_,v4,_,_)=>match e with
  |.exit 0=>
  J v4
  |_=>ah)) k (ca,(wr .i64 (1+(wr .i64 (Int.tdiv (wr .i64 ((I e.v.s:Int)+(I e.name:Int))) 30)))),0,e)
theorem aoM(k:Nat)(rf:bb [bR,aq] [aq])(c:aN 85 [bR,aq] [aq] rf):aN 85 [bR,aq] [aq] (A8 k rf):=bX (px:=aaa _ k rf) (n:=1) Tryz.func85 rfl (λab H=>by have h0:bT ab (aaa (au [aq]) k rf):=br H (c1 H c bm) bo bq;have a:=cC H h0 (b:=b_ Tryz.f85 0) (k:=k) (n:=0) (s:=Wa) (step:=yq rf) (λ_ _ _ (_,_,_,_)=>by kernel_rfl) aP;exact⟨h0,(cm aP a)⟩) λ(_,_)=>by kernel_rfl
mutual
def lz:bh->Int->Int|.mk _ v c' l,ca=>IS l ca (wr .i64 (1+wr .i64 (Int.tdiv (wr .i64 ((I v.s:Int)+(I c':Int))) 30)))
def IS:U bh->Int->Int->Int|[],_,n=>n|x::l,ca,n=>cond (aa (n<ca)) (IS l ca (wr .i64 (n+lz x (wr .i64 (ca-n))))) n
end
def J2:bb [bR,aq] [aq]:=λx=>J (lz x.1 x.2)
theorem Vg{R:Type}{rf:bb [bR,aq] [aq]}{kx:bf->H9->af R}{e:bh}{ca:Int}{g:Int->af R}(f:b5 (I e.l))(a:∀x,x∈e.l->∀m,rf (x,m)=J (lz x m))(h2:∀n j,kx (.exit 0) (ca,n,j,e)=g n):∀(k i:Nat) n,i<=I e.l->I e.l-i<k->aT (λd=>yq rf d kx) k (ca,n,(i:Int),e)=g (IS (e.l.drop i) ca n)
 |0,i,n,_,h=>by omega
 |k+1,i,n,hi,h=>by
  rw[cQ];by_cases b:i<I e.l
  .simp only[yq,cV b f,(λn=>Vg f a h2 k (i+1) n ag ag),h2,dn b,cb (c:=.expr) b,bY b,Bool.cond_decide,IS,a _ (fo b)];rw[if_pos ag];split<;>rfl
  .simp[yq,h2,Bool.cond_decide];exact Dn
theorem Yp(k:Nat):∀(n:Nat) (e:bh) (m:Int),jS e->di e<=n->di e<=k->aT (A8 k) n (e,m)=J (lz e m)
 |0,e,m,_,h,_=>by have:=mJ e;omega
 |n+1,.mk ax2 v c' l,m,aj,h,aV=>by
  obtain⟨_,_,_,_,f,i,j,a,b⟩:=aj;simp[di]at h aV;have o:=tF l;have c:∀x,x∈l->∀m,aT (A8 k) n (x,m)=J (lz x m):=λx d m=>Yp k n x m (b x d) Gr Gr;rw[cQ];simp[A8];refine(Vg (e:=.mk ax2 v c' l) (g:=J) a c ?_ k 0 _ (cp _) (by simp[bh.l];omega)).trans ?_
  .exactλ_ _=>rfl
  .simp[lz,bh.l,bh.v,bh.name]
theorem RO:aN 85 [bR,aq] [aq] J2:=by refine .fin (ι:=Nat) 0 (F:=λn=>aT (A8 n) n) (λn=>eH.jf (aw.ga Tryz.func85 rfl rfl) (λrf a=>aoM n rf a) n) λ(e,m) r aj b=>⟨di e,?_⟩;exact(Yp (di e) (di e) e m aj.1 (b2 _) (b2 _)).trans b
def aty(R:Type):aM R:=bp [] [] [] []
def K0(x:au [aq,aq]):af (au [.bool]):=match x with|(k,want)=>cond (aa (k=want)) (J ae) (J (aa (k=1)))
theorem aoH:aN 135 [aq,aq] [.bool] (K0):=bX (px:=aty _) (n:=0) Tryz.func135 rfl (λ_ H=>⟨br H bm bo bq,aP⟩) λ(_,_)=>by kernel_rfl
def k3(k:Int)(a:Int):Bool:=cond (aa (k=a)) (ae) (aa (k=1))
theorem ap7(x:au [aq,aq]):K0 x=J (k3 x.1 x.2):=by
 first
  |exact rfl
  |simp only[K0,k3,fA]
def aaI:bb [aq,aq] [.bool]:=λx=>J (k3 x.1 x.2)
theorem ain:aN 135 [aq,aq] [.bool] aaI:=.de aoH λx _ _ a=>(ap7 x).trans a
def auk(R:Type):aM R:=bp [] [] [] []
def Qz(x:au [.bool]):af (au [dt]):=match x with|b=>cond (b) (J (aH.mk 2 1 [])) (J (aH.mk 2 0 []))
theorem aqh:aN 136 [.bool] [dt] (Qz):=bX (px:=auk _) (n:=0) Tryz.func136 rfl (λ_ H=>⟨br H bm bo bq,aP⟩) λ_=>by kernel_rfl
def jo(b:Bool):aH:=cond (b) (aH.mk 2 1 []) (aH.mk 2 0 [])
theorem ao6(x:au [.bool]):Qz x=J (jo x):=by
 first
  |exact rfl
  |simp only[Qz,jo,fA]
def JU:bb [.bool] [dt]:=λx=>J (jo x)
theorem S5:aN 136 [.bool] [dt] JU:=.de aqh λx _ _ a=>(ao6 x).trans a
def arh(R:Type):aM R:=bp [] [] [] []
def Qk(x:au [aq,aq]):af (au [.bool]):=match x with|(kind,n)=>cond (aa (kind=6)) (J (aa (n=0))) (cond (aa (kind=7)) (J (!decide (n=0))) (cond (aa (kind=8)) (J (aa (n<0))) (cond (aa (kind=9)) (J (aa (n<=0))) (cond (aa (kind=10)) (J (aa (0<n))) (J (aa (0<=n)))))))
theorem anu:aN 139 [aq,aq] [.bool] (Qk):=bX (px:=arh _) (n:=0) Tryz.func139 rfl (λ_ H=>⟨br H bm bo bq,aP⟩) λ(_,_)=>by kernel_rfl
def As(kind:Int)(n:Int):Bool:=cond (aa (kind=6)) (aa (n=0)) (cond (aa (kind=7)) (!decide (n=0)) (cond (aa (kind=8)) (aa (n<0)) (cond (aa (kind=9)) (aa (n<=0)) (cond (aa (kind=10)) (aa (0<n)) (aa (0<=n))))))
theorem anM(x:au [aq,aq]):Qk x=J (As x.1 x.2):=by
 first
  |exact rfl
  |simp only[Qk,As,fA]
def Tk:bb [aq,aq] [.bool]:=λx=>J (As x.1 x.2)
theorem aoj:aN 139 [aq,aq] [.bool] Tk:=.de anu λx _ _ a=>(anM x).trans a
def alq(R:Type):aM R:=bp [(190,bg ac9),(191,bg adQ),(192,bg adn)] [] [] []
def Ms(x:au [aq,aq,aq]):af (au [dt,aq]):=match x with|(kind,a,b)=>cond (aa (kind=12)) (cond (!decide ((ni a b).2=0)) (J ((aH.mk 0 0 []),(ni a b).2)) (J ((aH.mk 3 ((ni a b).1) []),0))) (cond (aa (kind=13)) (cond (!decide ((kG a b).2=0)) (J ((aH.mk 0 0 []),(kG a b).2)) (J ((aH.mk 3 ((kG a b).1) []),0))) (cond (aa (kind=14)) (cond (!decide ((nd a b).2=0)) (J ((aH.mk 0 0 []),(nd a b).2)) (J ((aH.mk 3 ((nd a b).1) []),0))) (cond (!decide ((kG 0 a).2=0)) (J ((aH.mk 0 0 []),(kG 0 a).2)) (J ((aH.mk 3 ((kG 0 a).1) []),0)))))
theorem atS:aN 138 [aq,aq,aq] [dt,aq] (Ms):=bX (px:=alq _) (n:=0) Tryz.func138 rfl (λ_ H=>⟨br H (c1 H ak7 (c1 H ajT (c1 H alf bm))) bo bq,aP⟩) λ(_,_,_)=>by kernel_rfl
def lE(kind:Int)(a:Int)(b:Int):aH×Int:=cond (aa (kind=12)) (cond (!decide ((ni a b).2=0)) ((aH.mk 0 0 []),(ni a b).2) ((aH.mk 3 ((ni a b).1) []),0)) (cond (aa (kind=13)) (cond (!decide ((kG a b).2=0)) ((aH.mk 0 0 []),(kG a b).2) ((aH.mk 3 ((kG a b).1) []),0)) (cond (aa (kind=14)) (cond (!decide ((nd a b).2=0)) ((aH.mk 0 0 []),(nd a b).2) ((aH.mk 3 ((nd a b).1) []),0)) (cond (!decide ((kG 0 a).2=0)) ((aH.mk 0 0 []),(kG 0 a).2) ((aH.mk 3 ((kG 0 a).1) []),0))))
theorem asI(x:au [aq,aq,aq]):Ms x=J (lE x.1 x.2.1 x.2.2):=by
 first
  |exact rfl
  |simp only[Ms,lE,fA]
def ZB:bb [aq,aq,aq] [dt,aq]:=λx=>J (lE x.1 x.2.1 x.2.2)
theorem ajX:aN 138 [aq,aq,aq] [dt,aq] ZB:=.de atS λx _ _ a=>(asI x).trans a
def RC:bt:=⟨20,[(1,.str),(4,.int .i64),(7,.sl .cO ai),(8,.int .i64),(9,.int .i64)],[],[],0,0,0,[],[]⟩
abbrev D_:=ar×Int×U cW×Int×Int
def vV{R:Type}(a:D_->af R)(kx:bf->D_->af R)(v:D_):af R:=match v with|(v,v1,v2,aD,v4)=>cond (aa (v4<aD)) (ax (aU v4 (I v2)) (cond (aa (((at' .cO v2 v4).name)=v)) (kx .ret (v,v4,v2,aD,v4)) (a (v,v1,v2,aD,(wr .i64 (v4+1)))))) (kx (.exit 0) (v,v1,v2,aD,v4))
def abi(R:Type)(k:Nat):aM R:=bp [] [] [(2,cq k RC (vV))] []
def Yk(k:Nat)(x:au [dJ,.str]):af (au [aq]):=match x with
 |(al,name)=>
 aT (λa=>vV a (λe b=>match b with|(_,v6,_,_,_)=>match e with
  |.ret=>
  J v6
  |.exit 0=>
  J (-1)
  |_=>ah)) k (name,0,al,(I al:Int),0)
theorem asS(k:Nat):aN 134 [dJ,.str] [aq] (Yk k):=bX (px:=abi _ k) (n:=1) Tryz.func134 rfl (λab H=>by have h0:bT ab (abi (au [aq]) k):=br H bm bo bq;have a:=cC H h0 (b:=b_ Tryz.f134 0) (k:=k) (n:=0) (s:=RC) (step:=vV) (λ_ _ _ (_,_,_,_,_)=>by kernel_rfl) aP;exact⟨h0,(cm aP a)⟩) λ(_,_)=>by kernel_rfl
def jh:U cW->ar->Nat->Int|[],_,_=> -1|c::l,s,i=>if c.name=s then(i:Int)else jh l s (i+1)
def dR(al:U cW)(name:ar):Int:=jh al name 0
def Oj:bb [dJ,.str] [aq]:=λx=>J (dR x.1 x.2)
theorem Xx{R:Type}{kx:bf->D_->af R}{s:ar}{al:U cW}{g:Int->af R}(d:b5 (I al))(h1:∀j,kx .ret (s,j,al,(I al:Int),j)=g j)(h2:∀q j,kx (.exit 0) (s,q,al,(I al:Int),j)=g (-1)):∀(k i:Nat) q,i<=I al->I al-i<k->aT (λb=>vV b kx) k (s,q,al,(I al:Int),(i:Int))=g (jh (al.drop i) s i)
 |0,i,q,_,h=>by omega
 |k+1,i,q,hi,h=>by
  rw[cQ];by_cases a:i<I al
  .simp only[vV,cV a d,(Xx d h1 h2 k (i+1) q ag ag),h1,dn a,cb (c:=.cO) a,bY a,Bool.cond_decide,jh];rw[if_pos ag];split<;>rfl
  .simp[vV,h2,Bool.cond_decide];exact Dn
theorem acd:aN 134 [dJ,.str] [aq] Oj:=.fin 0 asS λ(al,s) r aj a=>⟨I al+1,by
 simp only[Yk];refine(Xx (g:=J) aj.1.1 ?_ ?_ (I al+1) 0 0 (cp _) ag).trans a
 .exactλ_=>rfl
 .exactλ_ _=>rfl⟩
def TD:bt:=⟨28,[(1,.sl .val ai),(4,.bool),(12,.sl .cO ai),(13,.int .i64),(14,.int .i64)],[],[],0,0,0,[],[]⟩
abbrev GR:=U aH×Bool×U cW×Int×Int
def xK{R:Type}(a:GR->af R)(kx:bf->GR->af R)(v:GR):af R:=match v with|(v,v1,v2,aD,v4)=>cond (aa (v4<aD)) (ax (aU v4 (I v2)) (ax (aU v4 (I v)) (cond (!(qa (at' .val v v4) ((at' .cO v2 v4).kind))) (kx .ret (v,ai,v2,aD,v4)) (a (v,v1,v2,aD,(wr .i64 (v4+1))))))) (kx (.exit 0) (v,v1,v2,aD,v4))
def Wz(R:Type)(k:Nat):aM R:=bp [(87,bg aaH)] [] [(4,cq k TD (xK))] []
def Tt(k:Nat)(x:au [dJ,dA]):af (au [.bool]):=match x with
 |(al,row)=>
 cond (!decide ((I al:Int)=(I row:Int))) (
  J ai) (
  aT (λa=>xK a (λe b=>match b with|(_,v6,_,_,_)=>match e with
  |.ret=>J v6
  |.exit 0=>J ae
  |_=>ah)) k (row,ai,al,(I al:Int),0))
theorem ag8(k:Nat):aN 53 [dJ,dA] [.bool] (Tt k):=bX (px:=Wz _ k) (n:=1) Tryz.func53 rfl (λab H=>by have h0:bT ab (Wz (au [.bool]) k):=br H (c1 H aiG bm) bo bq;have a:=cC H h0 (b:=b_ Tryz.f53 0) (k:=k) (n:=0) (s:=TD) (step:=xK) (λ_ _ _ (_,_,_,_,_)=>by kernel_rfl) aP;exact⟨h0,(cm aP a)⟩) λ(_,_)=>by kernel_rfl
def ml:U cW->U aH->Bool|[],[]=>ae|c::cs,v::vs=>qa v c.kind&&ml cs vs|_,_=>ai
def mM(al:U cW)(row:U aH):Bool:=ml al row
def Ic:bb [dJ,dA] [.bool]:=λx=>J (mM x.1 x.2)
theorem Bd:∀{al:U cW}{row:U aH},ml al row=ae->I al=I row
 |[],[],_=>rfl
 |_::cs,_::vs,h=>by simp[ml]at h;simp[Bd h.2]
 |[],_::_,h=>by simp[ml]at h
 |_::_,[],h=>by simp[ml]at h
theorem TM{R:Type}{kx:bf->GR->af R}{row:U aH}{al:U cW}{a b:af R}(g:b5 (I al))(l:I al=I row)(h1:∀j,kx .ret (row,ai,al,(I al:Int),j)=a)(h2:∀q j,kx (.exit 0) (row,q,al,(I al:Int),j)=b):∀(k i:Nat) q,i<=I al->I al-i<k->aT (λf=>xK f kx) k (row,q,al,(I al:Int),(i:Int))=cond (ml (al.drop i) (row.drop i)) b a
 |0,i,q,_,h=>by omega
 |k+1,i,q,hi,h=>by
  rw[cQ];by_cases e:i<I al
  .have d:i<I row:=ag
   simp only[xK,cV e g,(TM g l h1 h2 k (i+1) q ag ag),h1,dn e,dn d,cb (c:=.cO) e,cb (c:=.val) d,bY e,bY d,Bool.cond_decide,ml];rw[if_pos ag];cases qa row[i] al[i].kind<;>rfl
  .simp[xK,h2,Bool.cond_decide];rw[if_neg ag,g0 ag,g0 ag];rfl
theorem Wi:aN 53 [dJ,dA] [.bool] Ic:=.fin 0 ag8 λ(al,row) r aj c=>⟨I al+1,by
 simp only[Ic,c4,mM]at c;simp only[Tt];by_cases d:I al=I row
 .rw[aY ag];simp only[dj,a_];refine(TM (a:=J ai) (b:=J ae) aj.1.1 d ?_ ?_ (I al+1) 0 ai (cp _) ag).trans ?_
  .exactλ_=>rfl
  .exactλ_ _=>rfl
  .rw[<-c];simp only[gH];cases ml al row<;>rfl
 .rw[bl ag];have:ml al row=false:=by cases e:ml al row with|false=>rfl|true=>exact absurd (Bd e) d
  rw[<-c,this];rfl⟩
def V1:bt:=⟨34,[(0,.int .i64),(6,.bool),(12,.sl .val ai),(13,.int .i64),(14,.int .i64)],[(4,.ptr 0 0),(5,.ptr 1 0)],[(0,.one (.aI .val)),(1,.one (.aI .val))],2,0,0,[],[]⟩
abbrev HI:=Int×Bool×U aH×Int×Int×aH×aH
def yz{R:Type}(a:HI->af R)(kx:bf->HI->af R)(v:HI):af R:=match v with|(v,v1,v2,aD,v4,w,w1)=>cond (aa (v4<aD)) (ax (aU v4 (I v2)) (cond (aa ((at' .val v2 v4)=w1)) (kx .ret (v,v1,v2,aD,v4,w1,w1)) (cond (v1) (a (v,ae,v2,aD,(wr .i64 (v4+1)),w,w1)) (a (v,aa ((at' .val v2 v4).kind=1),v2,aD,(wr .i64 (v4+1)),w,w1))))) (kx (.exit 0) (v,v1,v2,aD,v4,w,w1))
def S'(R:Type)(k:Nat):aM R:=bp [(136,bg JU)] [] [(4,cq k V1 (yz))] []
def Wt(k:Nat)(x:au [aq,dA]):af (au [dt]):=match x with
 |(kind,l)=>
 aT (λb=>yz b (λe c=>match c with|(a',v6,_,_,_,a,_)=>match e with
  |.ret=>
  J a
  |.exit 0=>
  cond (v6) (
   J (aH.mk 1 0 [])) (
   J (jo (!decide (a'=5))))
  |_=>ah)) k (kind,ai,l,(I l:Int),0,(aH.mk 0 0 []),(jo (aa (kind=5))))
theorem aqE(k:Nat):aN 137 [aq,dA] [dt] (Wt k):=bX (px:=S' _ k) (n:=1) Tryz.func137 rfl (λab H=>by have h0:bT ab (S' (au [dt]) k):=br H (c1 H S5 bm) bo bq;have a:=cC H h0 (b:=b_ Tryz.f137 0) (k:=k) (n:=0) (s:=V1) (step:=yz) (λ_ _ _ (_,_,_,_,_,_,_)=>by kernel_rfl) aP;exact⟨h0,(cm aP a)⟩) λ(_,_)=>by kernel_rfl
def nx(v:aH):Bool:=aa (v.kind=1)
def rz(kind:Int)(l:U aH):aH:=cond (l.any λv=>aa (v=jo (aa (kind=5)))) (jo (aa (kind=5))) (cond (l.any nx) ⟨1,0,[]⟩ (jo (!decide (kind=5))))
def JL:bb [aq,dA] [dt]:=λx=>J (rz x.1 x.2)
theorem Wc{R:Type}{kx:bf->HI->af R}{f:Int}{l:U aH}{e:aH}{a:af R}{b:Bool->af R}(m:b5 (I l))(h1:∀q j,kx .ret (f,q,l,(I l:Int),j,e,e)=a)(h2:∀q j z,kx (.exit 0) (f,q,l,(I l:Int),j,z,e)=b q):∀(k i:Nat) (u:Bool) z,i<=I l->I l-i<k->aT (λg=>yz g kx) k (f,u,l,(I l:Int),(i:Int),z,e)=cond ((l.drop i).any λv=>aa (v=e)) a (b (u||(l.drop i).any nx))
 |0,i,u,z,_,h=>by omega
 |k+1,i,u,z,hi,h=>by
  rw[cQ];by_cases d:i<I l
  .simp only[yz,cV d m,(λu=>Wc m h1 h2 k (i+1) u z ag ag),dn d,cb (c:=.val) d,bY d,ax,Bool.cond_decide,List.any_cons];rw[if_pos ag];by_cases n:l[i]=e
   .grind
   .rw[if_neg n,bl n];cases u<;>simp[nx]
  .simp[yz,h2,Bool.cond_decide];rw[if_neg ag,g0 ag];simp
theorem asz:aN 137 [aq,dA] [dt] JL:=.fin 0 aqE λ(c,l) r aj d=>⟨I l+1,by
 simp only[JL,c4,rz]at d;simp only[Wt];refine(Wc (a:=J (jo (aa (c=5)))) (b:=λq=>cond q (J ⟨1,0,[]⟩) (J (jo (!decide (c=5))))) aj.2.1 ?_ ?_ (I l+1) 0 ai _ (cp _) ag).trans ?_
 .exactλ_ _=>rfl
 .exactλ_ _ _=>rfl
 rw[<-d];simp only[gH,Bool.false_or];cases (l.any λv=>aa (v=jo (aa (c=5))))<;>cases l.any nx<;>rfl⟩
theorem aeV:∀(l:U cW) (s:ar) (i:Nat),jh l s i = -1\/((i:Int)<=jh l s i/\jh l s i<(i+I l:Nat))
 |[],_,_=>.inl rfl
 |c::l,s,i=>by
  simp[jh];split
  .right;omega
  .have:=aeV l s (i+1);omega
theorem K4(l:U cW)(s:ar):dR l s = -1\/(0<=dR l s/\dR l s<(I l:Int)):=by have:=aeV l s 0;simpa[dR]using this
variable{s:ar}
theorem at6{l:U cW}(h:¬dR l s<0):aU (dR l s) (I l)=true:=by have:=K4 l s;simp[aU];omega
def Vd:bt:=⟨102,[(1,.sl .cO ai),(4,.int .i64),(5,.int .i64),(12,.sl .expr ai),(13,.int .i64),(14,.int .i64)],[(2,.ptr 0 0),(6,.ptr 1 0)],[(0,.one (.aI .expr)),(1,.one (.rw .int 2))],2,0,0,[],[]⟩
abbrev H2:=U cW×Int×Int×U bh×Int×Int×bh×U Int
def n9{R:Type}(rf:bb [bR,dJ] [aq,aq])(b:H2->af R)(kx:bf->H2->af R)(v:H2):af R:=match v with|(v,v1,v2,aD,v4,a,w,w1)=>cond (aa (a<v4)) (ax (aU a (I aD)) ((rf ((at' .expr aD a),v)).bind λ(x,c)=>ax (aU a 2) (cond (!decide (c=0)) (kx .ret (v,0,c,aD,v4,a,w,(w1.set (a:Int).toNat x))) (cond (aa (a=1)) (kx (.exit 0) (v,v1,v2,aD,v4,a,w,(w1.set (a:Int).toNat x))) (b (v,v1,v2,aD,v4,(wr .i64 (a+1)),w,(w1.set (a:Int).toNat x))))))) (kx (.exit 0) (v,v1,v2,aD,v4,a,w,w1))
def Sm(R:Type)(k:Nat)(rf:bb [bR,dJ] [aq,aq]):aM R:=bp [(90,bg rf),(134,bg Oj),(135,bg aaI)] [] [(3,cq k Vd (n9 rf))] []
def A_(k:Nat)(rf:bb [bR,dJ] [aq,aq])(x:au [bR,dJ]):af (au [aq,aq]):=match x with
 |(e,al)=>
 aT (λc=>n9 rf c (λe g=>match g with|(v6,bA,b6,_,_,_,a,b)=>match e with
  |.ret=>
  J (bA,b6)
  |.exit 0=>
  let f:=λ(q:U Int)=>
   cond (aa (a.kind=1)) (
   J (a.v.kind,0)) (
   cond (aa (a.kind=2)) (
    cond (aa ((dR v6 a.name)<0)) (
    J (0,150)) (
    ax (aU (dR v6 a.name) (I v6)) (
     J ((at' .cO v6 (dR v6 a.name)).kind,0)))) (
    cond (aa (a.kind=16)) (
    J (2,0)) (
    let d:=λ(p:Bool)=>
     cond (p) (
     cond (k3 (at' .int q 0) 2) (
      cond (k3 (at' .int q 1) 2) (
      J (2,0)) (
      J (0,151))) (
      J (0,151))) (
     let j:=λ(p3:Bool)=>
      cond (p3) (
      cond (k3 (at' .int q 0) 3) (
       cond (k3 (at' .int q 1) 3) (
       J (3,0)) (
       J (0,151))) (
       J (0,151))) (
      cond (aa ((at' .int q 0)=(at' .int q 1))) (
       J (2,0)) (
       cond (aa ((at' .int q 0)=1)) (
       J (2,0)) (
       cond (aa ((at' .int q 1)=1)) (
        J (2,0)) (
        J (0,151)))))
     cond (aa (a.kind=12)) (
      j (aa (a.kind=12))) (
      cond (aa (a.kind=13)) (
      j (aa (a.kind=13))) (
      cond (aa (a.kind=14)) (
       j (aa (a.kind=14))) (
       j (aa (a.kind=15))))))
    cond (aa (a.kind=3)) (
     d (aa (a.kind=3))) (
     cond (aa (a.kind=4)) (
     d (aa (a.kind=4))) (
     d (aa (a.kind=5)))))))
  cond (aa ((I a.l:Int)=1)) (
   f (b.set (1:Int).toNat (at' .int b 0))) (
   f b)
  |_=>ah)) k (al,0,0,e.l,(I e.l:Int),0,e,[0,0])
theorem aqM(k:Nat)(rf:bb [bR,dJ] [aq,aq])(c:aN 90 [bR,dJ] [aq,aq] rf):aN 90 [bR,dJ] [aq,aq] (A_ k rf):=bX (px:=Sm _ k rf) (n:=1) Tryz.func90 rfl (λab H=>by have h0:bT ab (Sm (au [aq,aq]) k rf):=br H (c1 H c (c1 H acd (c1 H ain bm))) bo bq;have a:=cC H h0 (b:=b_ Tryz.f90 0) (k:=k) (n:=0) (s:=Vd) (step:=n9 rf) (λ_ _ _ (_,_,_,_,_,_,_,_)=>by kernel_rfl) aP;exact⟨h0,(cm aP a)⟩) λ(_,_)=>by kernel_rfl
def iE(e:bh)(al:U cW)(a b:Int):Int×Int:=if e.kind=1 then(e.v.kind,0)else if e.kind=2 then(if dR al e.name<0 then(0,150)else((at' .cO al (dR al e.name)).kind,0))else if e.kind=16 then(2,0)else if e.kind=3\/e.kind=4\/e.kind=5 then(if k3 a 2&&k3 b 2 then(2,0)else(0,151))else if e.kind=12\/e.kind=13\/e.kind=14\/e.kind=15 then(if k3 a 3&&k3 b 3 then(3,0)else(0,151))else if a=b\/a=1\/b=1 then(2,0)else(0,151)
def l8(e:bh)(al:U cW):U (Int×Int)->Int×Int|[]=>iE e al 0 0|[(a,f)]=>if f=0 then iE e al a a else(0,f)|(a,f)::(b,g)::_=>if f=0 then(if g=0 then iE e al a b else(0,g))else(0,f)
mutual
def eC:bh->U cW->Int×Int|.mk k v c' l,al=>l8 (.mk k v c' l) al (lh l al)
def lh:U bh->U cW->U (Int×Int)|[],_=>[]|x::l,al=>eC x al::lh l al
end
theorem ua(e:bh)(al:U cW):eC e al=l8 e al (lh e.l al):=by cases e;simp[eC,bh.l]
def JG:bb [bR,dJ] [aq,aq]:=λx=>J (eC x.1 x.2)
def F2(a:bh)(b:U cW)(q:U Int):af (Int×Int):=
   cond (aa (a.kind=1)) (
   J (a.v.kind,0)) (
   cond (aa (a.kind=2)) (
    cond (aa ((dR b a.name)<0)) (
    J (0,150)) (
    ax (aU (dR b a.name) (I b)) (
     J ((at' .cO b (dR b a.name)).kind,0)))) (
    cond (aa (a.kind=16)) (
    J (2,0)) (
    let c:=λ(p:Bool)=>
     cond (p) (
     cond (k3 (at' .int q 0) 2) (
      cond (k3 (at' .int q 1) 2) (
      J (2,0)) (
      J (0,151))) (
      J (0,151))) (
     let j:=λ(p3:Bool)=>
      cond (p3) (
      cond (k3 (at' .int q 0) 3) (
       cond (k3 (at' .int q 1) 3) (
       J (3,0)) (
       J (0,151))) (
       J (0,151))) (
      cond (aa ((at' .int q 0)=(at' .int q 1))) (
       J (2,0)) (
       cond (aa ((at' .int q 0)=1)) (
       J (2,0)) (
       cond (aa ((at' .int q 1)=1)) (
        J (2,0)) (
        J (0,151)))))
     cond (aa (a.kind=12)) (
      j (aa (a.kind=12))) (
      cond (aa (a.kind=13)) (
      j (aa (a.kind=13))) (
      cond (aa (a.kind=14)) (
       j (aa (a.kind=14))) (
       j (aa (a.kind=15))))))
    cond (aa (a.kind=3)) (
     c (aa (a.kind=3))) (
     cond (aa (a.kind=4)) (
     c (aa (a.kind=4))) (
     c (aa (a.kind=5)))))))
theorem L6(e:bh)(al:U cW)(a b:Int):F2 e al [a,b]=J (iE e al a b):=by
 have j:at' .int [a,b] 0=a:=rfl;have aj:at' .int [a,b] 1=b:=rfl;simp[F2,iE,j,aj];generalize e.kind=k;by_cases h1:k=1
 .simp[h1]
 by_cases h2:k=2
 .simp[h2];by_cases d:dR al e.name<0
  .simp[d]
  .rw[at6 d];simp[d,ax]
 by_cases c:k=16
 .simp[c]
 rw[bl h1,bl h2,bl c,if_neg h1,if_neg h2,if_neg c];simp;by_cases h3:k=3
 .grind
 by_cases h4:k=4
 .grind
 by_cases h5:k=5
 .grind
 rw[bl h3,bl h4,bl h5,if_neg ag];simp;by_cases f:k=12
 .grind
 by_cases g:k=13
 .grind
 by_cases h:k=14
 .grind
 by_cases i:k=15
 .grind
 rw[bl f,bl g,bl h,bl i,if_neg ag];simp;by_cases c1:a=b
 .simp[c1]
 by_cases c2:a=1
 .simp[c2]
 by_cases iI:b=1
 .simp[iI]
 simp[c1,c2,iI]
def wu{R:Type}(nK:Int->af R)(ox:Int->Int->af R):U (Int×Int)->af R|[]=>ox 0 0|[(a,f)]=>if f=0 then ox a 0 else nK f|(a,f)::(b,g)::_=>if f=0 then(if g=0 then ox a b else nK g)else nK f
variable{R:Type}{al:U cW}
theorem aqk{rf:bb [bR,dJ] [aq,aq]}{kx:bf->H2->af R}{e:bh}{nK:Int->af R}{ox:Int->Int->af R}(s:b5 (I e.l))(d:∀x,x∈e.l->rf (x,al)=J (eC x al))(h1:∀f i n,kx .ret (al,0,f,e.l,(I e.l:Int),i,e,n)=nK f)(h2:∀i a b,kx (.exit 0) (al,0,0,e.l,(I e.l:Int),i,e,[a,b])=ox a b)(k:Nat):aT (λc=>n9 rf c kx) (k+3) (al,0,0,e.l,(I e.l:Int),0,e,[0,0])=wu nK ox (lh e.l al):=by
 rw[cQ];generalize e.l=l at *;match l with
 |[]=>simp;exact h2 0 0 0
 |[x]=>
  simp only[n9];have o:at' .expr [x] 0=x:=rfl;rw[o,d x (by simp)];simp only[ lh,wu];show cond (!decide ((eC x al).2=0)) (kx .ret (al,0,(eC x al).2,[x],1,0,e,[(eC x al).1,0])) (aT (λc=>n9 rf c kx) (k+2) (al,0,0,[x],1,1,e,[(eC x al).1,0]))=_;have h:=λf i n=>h1 f i n;have j:=λi a b=>h2 i a b;have q:(I ([x]:U bh):Int)=1:=rfl;rw[q]at h j;rw[h,cQ];have:n9 rf (aT (λc=>n9 rf c kx) (k+1)) kx (al,0,0,[x],1,1,e,[(eC x al).1,0])=kx (.exit 0) (al,0,0,[x],1,1,e,[(eC x al).1,0]):=rfl;rw[this,j];by_cases p:(eC x al).2=0
  .simp
  .simp
 |x::y::t=>
  simp only[n9];have m:(0:Int)<(I (x::y::t):Int):=dh
  have g:(1:Int)<(I (x::y::t):Int):=dh
  have o:at' .expr (x::y::t) 0=x:=rfl;have aS:at' .expr (x::y::t) 1=y:=rfl;rw[aY m,o,d x (by simp)];have i1:aU 0 (I (x::y::t))=true:=bY (i:=0) (by simp);have r:aU 1 (I (x::y::t))=true:=bY (i:=1) (by simp);rw[i1];simp only[ lh,wu];show cond (!decide ((eC x al).2=0)) (kx .ret (al,0,(eC x al).2,x::y::t,_,0,e,[(eC x al).1,0])) (aT (λc=>n9 rf c kx) (k+2) (al,0,0,x::y::t,(I (x::y::t):Int),1,e,[(eC x al).1,0]))=_;rw[h1,cQ];simp only[n9];rw[aY g,aS,d y (by simp),r];simp only[ ax];show cond (!decide ((eC x al).2=0)) (nK (eC x al).2) (cond (!decide ((eC y al).2=0)) (kx .ret (al,0,(eC y al).2,x::y::t,_,1,e,_)) (kx (.exit 0) (al,0,0,x::y::t,_,1,e,[(eC x al).1,(eC y al).1])))=_;rw[h1,h2];by_cases p:(eC x al).2=0
  .grind
  .simp[p]
theorem Ru(k:Nat):∀(n:Nat) (e:bh) (al:U cW),jS e->di e<=n->aT (A_ (k+3)) n (e,al)=J (eC e al)
 |0,e,al,_,h=>by have:=mJ e;omega
 |n+1,e,al,aj,h=>by
  obtain⟨c,d⟩:=ru aj;rw[nn]at h;have g:∀x,x∈e.l->aT (A_ (k+3)) n (x,al)=J (eC x al):=λx i=>Ru k n x al (d x i) (by have:=ka i;omega);rw[cQ,ua];simp[A_];refine(aqk (nK:=λf=>J (0,f)) (ox:=λa b=>cond (aa ((I e.l:Int)=1)) (F2 e al [a,a]) (F2 e al [a,b])) c g ?_ ?_ k).trans ?_
  .exactλ_ _ _=>rfl
  .exactλ_ _ _=>rfl
  .generalize e.l=l;match l with
   |[]=>simp[lh,wu,l8,L6]
   |[x]=>simp[lh,wu,l8,L6];split<;>simp
   |x::y::t=>
    simp only[lh,wu,l8,L6];have:¬((I (x::y::t):Int)=1):=dh
    rw[bl this];split
    .split<;>rfl
    .rfl
theorem S1:aN 90 [bR,dJ] [aq,aq] JG:=by refine .fin (ι:=Nat) 0 (F:=λn=>aT (A_ 3) n) (λn=>eH.jf (aw.ga Tryz.func90 rfl rfl) (λrf a=>aqM 3 rf a) n) λ(e,al) r aj b=>⟨di e,?_⟩;exact(Ru 0 (di e) e al aj.1 (b2 _)).trans b
def aiX(R:Type):aM R:=bp [(89,bg Jv),(90,bg JG)] [] [] []
def Lu(x:au [bR,dJ]):af (au [aq,aq]):=match x with|(e,al)=>cond (!decide ((iB e)=0)) (J (0,(iB e))) (J ((eC e al).1,(eC e al).2))
theorem aoY:aN 180 [bR,dJ] [aq,aq] (Lu):=bX (px:=aiX _) (n:=0) Tryz.func180 rfl (λ_ H=>⟨br H (c1 H SA (c1 H S1 bm)) bo bq,aP⟩) λ(_,_)=>by kernel_rfl
def h9(e:bh)(al:U cW):Int×Int:=cond (!decide ((iB e)=0)) (0,(iB e)) ((eC e al).1,(eC e al).2)
theorem aoS(x:au [bR,dJ]):Lu x=J (h9 x.1 x.2):=by
 first
  |exact rfl
  |simp only[Lu,h9,fA]
def aa3:bb [bR,dJ] [aq,aq]:=λx=>J (h9 x.1 x.2)
theorem auC:aN 180 [bR,dJ] [aq,aq] aa3:=.de aoY λx _ _ a=>(aoS x).trans a
def Wp:bt:=⟨133,[(1,.sl .cO ai),(2,.sl .val ai),(7,.int .i64),(8,.sl .val ae),(9,.bool),(15,.sl .expr ai),(16,.int .i64),(17,.int .i64)],[(3,.ptr 0 0),(6,.ptr 1 0)],[(0,.one (.aI .expr)),(1,.one (.aI .val))],2,0,0,[],[]⟩
abbrev H':=U cW×U aH×Int×U aH×Bool×U bh×Int×Int×bh×aH
def yw{R:Type}(rf:bb [bR,dJ,dA] [dt,aq])(a:H'->af R)(kx:bf->H'->af R)(v:H'):af R:=match v with|(v,v1,v2,aD,v4,a',v6,bA,w,w1)=>cond (aa (bA<v6)) (ax (aU bA (I a')) ((rf ((at' .expr a' bA),v,v1)).bind λ(x,b)=>cond (!decide (b=0)) (kx .ret (v,v1,b,aD,v4,a',v6,bA,w,(aH.mk 0 0 []))) (ax (aa (I aD+1<=bJ)) (cond (v4) (a (v,v1,v2,(aD++[x]),ae,a',v6,(wr .i64 (bA+1)),w,w1)) (a (v,v1,v2,(aD++[x]),aa (x.kind=1),a',v6,(wr .i64 (bA+1)),w,w1)))))) (kx (.exit 0) (v,v1,v2,aD,v4,a',v6,bA,w,w1))
def R_(R:Type)(k:Nat)(rf:bb [bR,dJ,dA] [dt,aq]):aM R:=bp [(91,bg rf),(134,bg Oj),(136,bg JU),(137,bg JL),(139,bg Tk)] [(138,fa ZB),(56,fa OU)] [(4,cq k Wp (yw rf))] []
def A7(k:Nat)(rf:bb [bR,dJ,dA] [dt,aq])(x:au [bR,dJ,dA]):af (au [dt,aq]):=match x with
 |(e,al,row)=>
 aT (λg=>yw rf g (λe h=>match h with|(b6,cw,d,b,c,_,_,_,a,f)=>match e with
  |.ret=>
  J (f,d)
  |.exit 0=>
  cond (aa (a.kind=1)) (
   J (a.v,0)) (
   cond (aa (a.kind=2)) (
   ax (aU (dR b6 a.name) (I cw)) (
    J ((at' .val cw (dR b6 a.name)),0))) (
   cond (aa (a.kind=16)) (
    J ((jo c),0)) (
    let j:=λ(i:Bool)=>
    cond (i) (
     J ((rz a.kind b),0)) (
     cond (c) (
     J ((aH.mk 1 0 []),0)) (
     cond (aa (a.kind=3)) (
      ax (aU 0 (I b)) (
      J ((jo (aa ((at' .val b 0).n=0))),0))) (
      cond (aa (a.kind=15)) (
      ax (aU 0 (I b)) (
       J ((lE a.kind ((at' .val b 0).n) 0).1,(lE a.kind ((at' .val b 0).n) 0).2))) (
      cond (aa (12<=a.kind)) (
       ax (aU 0 (I b)) (
       ax (aU 1 (I b)) (
        J ((lE a.kind ((at' .val b 0).n) ((at' .val b 1).n)).1,(lE a.kind ((at' .val b 0).n) ((at' .val b 1).n)).2)))) (
       ax (aU 0 (I b)) (
       ax (aU 1 (I b)) (
        J ((jo (As a.kind (g_ (at' .val b 0) (at' .val b 1)))),0))))))))
    cond (aa (a.kind=4)) (
    j ae) (
    j (aa (a.kind=5))))))
  |_=>ah)) k (al,row,0,[],ai,e.l,(I e.l:Int),0,e,(aH.mk 0 0 []))
theorem aqd(k:Nat)(rf:bb [bR,dJ,dA] [dt,aq])(c:aN 91 [bR,dJ,dA] [dt,aq] rf):aN 91 [bR,dJ,dA] [dt,aq] (A7 k rf):=bX (px:=R_ _ k rf) (n:=1) Tryz.func91 rfl (λab H=>by have h0:bT ab (R_ (au [dt,aq]) k rf):=br H (c1 H c (c1 H acd (c1 H S5 (c1 H asz (c1 H aoj bm))))) (bd H ajX (bd H abG bo)) bq;have a:=cC H h0 (b:=b_ Tryz.f91 0) (k:=k) (n:=0) (s:=Wp) (step:=yw rf) (λ_ _ _ (_,_,_,_,_,_,_,_,_,_)=>by kernel_rfl) aP;exact⟨h0,(cm aP a)⟩) λ(_,_,_)=>by kernel_rfl
def tp(a:bh)(d:U cW)(e:U aH)(b:U aH)(c:Bool):af (aH×Int):=
  cond (aa (a.kind=1)) (
   J (a.v,0)) (
   cond (aa (a.kind=2)) (
   ax (aU (dR d a.name) (I e)) (
    J ((at' .val e (dR d a.name)),0))) (
   cond (aa (a.kind=16)) (
    J ((jo c),0)) (
    let j:=λ(p3:Bool)=>
    cond (p3) (
     J ((rz a.kind b),0)) (
     cond (c) (
     J ((aH.mk 1 0 []),0)) (
     cond (aa (a.kind=3)) (
      ax (aU 0 (I b)) (
      J ((jo (aa ((at' .val b 0).n=0))),0))) (
      cond (aa (a.kind=15)) (
      ax (aU 0 (I b)) (
       J (((lE a.kind ((at' .val b 0).n) 0).1),(lE a.kind ((at' .val b 0).n) 0).2))) (
      cond (aa (12<=a.kind)) (
       ax (aU 0 (I b)) (
       ax (aU 1 (I b)) (
        J (((lE a.kind ((at' .val b 0).n) ((at' .val b 1).n)).1),(lE a.kind ((at' .val b 0).n) ((at' .val b 1).n)).2)))) (
       ax (aU 0 (I b)) (
       ax (aU 1 (I b)) (
        J ((jo (As a.kind (g_ (at' .val b 0) (at' .val b 1)))),0))))))))
    cond (aa (a.kind=4)) (
    j ae) (
    j (aa (a.kind=5))))))
mutual
def oi:bh->U cW->U aH->af (aH×Int)|.mk k v c' l,al,row=>match qP l al row with|some (f,vs)=>ax (aa (I l<=bJ)) (if f=0 then tp (.mk k v c' l) al row vs (vs.any nx)else J (⟨0,0,[]⟩,f))|none=>ah
def qP:U bh->U cW->U aH->af (Int×U aH)
 |[],_,_=>J (0,[])
 |x::l,al,row=>match oi x al row with
  |some (v,f)=>if f=0 then(match qP l al row with
   |some (g,vs)=>J (g,v::vs)
   |none=>ah)else J (f,[])
  |none=>ah
end
theorem R2(e:bh)(al:U cW)(row:U aH):oi e al row=match qP e.l al row with
  |some (f,vs)=>ax (aa (I e.l<=bJ)) (if f=0 then tp e al row vs (vs.any nx)else J (⟨0,0,[]⟩,f))
  |none=>none:=by
 cases e;simp[oi];rfl
def acC:bb [bR,dJ,dA] [dt,aq]:=λx=>oi x.1 x.2.1 x.2.2
theorem Xc{R:Type}{rf:bb [bR,dJ,dA] [dt,aq]}{kx:bf->H'->af R}{al:U cW}{row:U aH}{e:bh}{nK:Int->af R}{ox:U aH->Bool->af R}(p:b5 (I e.l))(hm:I e.l<=bJ)(b:∀x,x∈e.l->∀r,oi x al row=J r->rf (x,al,row)=J r)(h1:∀f vs u j,kx .ret (al,row,f,vs,u,e.l,(I e.l:Int),j,e,⟨0,0,[]⟩)=nK f)(h2:∀vs u j z,kx (.exit 0) (al,row,0,vs,u,e.l,(I e.l:Int),j,e,z)=ox vs u):∀(k i:Nat) (acc:U aH) (u:Bool) z f vs,I acc=i->i<=I e.l->I e.l-i<k->qP (e.l.drop i) al row=J (f,vs)->aT (λn=>yw rf n kx) k (al,row,0,acc,u,e.l,(I e.l:Int),(i:Int),e,z)=if f=0 then ox (acc++vs) (u||vs.any nx)else nK f
 |0,i,_,_,_,_,_,_,_,h,_=>by omega
 |k+1,i,acc,u,z,f,vs,cI,hi,h,mx=>by
  rw[cQ];by_cases d:i<I e.l
  .rw[dn d]at mx;simp[qP]at mx;split at mx
   .rename_i v fl q;simp only[yw,cb (c:=.expr) d,bY d,(b _ (fo d) _ q),bZ,ax,Bool.cond_decide];rw[if_pos ag];split at mx
    .rename_i m;subst m;split at mx
     .rename_i g o a;simp[ iH]at mx;obtain⟨rfl,rfl⟩:=mx;rw[if_pos (by simp at *;omega)];simp only[ cV d p,(λu=>Xc p hm b h1 h2 k (i+1) (acc++[v]) u z g o (by simp[cI]) ag ag a),List.any_cons];cases u<;>simp[nx]
     .cases mx
    .rename_i m;simp[ iH]at mx;obtain⟨rfl,rfl⟩:=mx;rw[bl m,if_neg m];simp[ h1]
   .cases mx
  .rw[g0 ag]at mx;simp[qP,iH]at mx;obtain⟨rfl,rfl⟩:=mx;simp only[yw,h2,Bool.cond_decide];rw[if_neg ag];simp
theorem W8(k:Nat):∀(n:Nat) (e:bh) (al:U cW) (row:U aH) r,jS e->di e<=n->di e<=k->oi e al row=J r->aT (A7 k) n (e,al,row)=J r
 |0,e,_,_,_,_,h,_,_=>by have:=mJ e;omega
 |n+1,e,al,row,r,aj,h,aV,a=>by
  obtain⟨b,c⟩:=ru aj;rw[nn]at h aV;have m:=tF e.l;have d:∀x,x∈e.l->∀r,oi x al row=J r->aT (A7 k) n (x,al,row)=J r:=λx g r j=>W8 k n x al row r (c x g) (by have:=ka g;omega) (by have:=ka g;omega) j;rw[cQ];simp[A7];rw[R2]at a;split at a
  .rename_i f vs i;obtain⟨an,a⟩:=fz a;simp at an;refine(Xc (nK:=λf=>J (⟨0,0,[]⟩,f)) (ox:=λvs u=>tp e al row vs u) b an d ?_ ?_ k 0 [] ai _ f vs rfl (cp _) ag Gz).trans ?_
   .exactλ_ _ _ _=>rfl
   .exactλ_ _ _ _=>rfl
   .simpa using a
  .cases a
theorem asQ:aN 91 [bR,dJ,dA] [dt,aq] acC:=by refine .fin (ι:=Nat) 0 (F:=λn=>aT (A7 n) n) (λn=>eH.jf (aw.ga Tryz.func91 rfl rfl) (λrf a=>aqd n rf a) n) λ(e,al,row) r aj b=>⟨di e,?_⟩;exact W8 (di e) (di e) e al row r aj.1 (b2 _) (b2 _) b
mutual
def j0:bh->bh->Bool|.mk k v n l,.mk eh sG hr kR=>aa (k=eh)&&aa (v=sG)&&aa (n=hr)&&j' l kR
def j':U bh->U bh->Bool|[],[]=>ae|x::l,y::m=>j0 x y&&j' l m|_,_=>ai
end
mutual
theorem LI:∀a b:bh,j0 a b=ae↔a=b
 |.mk k v n l,.mk eh sG hr kR=>by
  simp only[j0,bx,dM,Rh l kR,bh.mk.injEq];constructor
  .rintro⟨⟨⟨h1,h2⟩,h3⟩,h4⟩;exact⟨h1,h2,h3,h4⟩
  .rintro⟨h1,h2,h3,h4⟩;exact⟨⟨⟨h1,h2⟩,h3⟩,h4⟩
theorem Rh:∀a b:U bh,j' a b=ae↔a=b
 |[],[]=>by simp[j']
 |x::l,y::m=>by simp only[j',bx,LI x y,Rh l m,gZ]
 |[],_::_=>by simp[j']
 |_::_,[]=>by simp[j']
end
instance:DecidableEq bh:=λa b=>decidable_of_iff (j0 a b=ae) (LI a b)
theorem tV(a b:bh):j0 a b=aa (a=b):=by rw[Bool.eq_iff_iff,LI,dM]
theorem WS{a b:U bh}(h:j' a b=ae):I a=I b:=by rw[(Rh a b).1 h]
theorem SX(a b:bh):j0 a b=(aa (a.kind=b.kind)&&aa (a.v=b.v)&&aa (a.name=b.name)&&j' a.l b.l):=by cases a;cases b;simp[j0];rfl
def Vk:bt:=⟨32,[(1,.sl .expr ai),(6,.bool),(15,.sl .expr ai),(16,.int .i64),(17,.int .i64)],[(2,.fn 251 [])],[],40,40,200,[],[]⟩
abbrev HD:=U bh×Bool×U bh×Int×Int
def ye{R:Type}(rf:bb [bR,bR] [.bool])(a:HD->af R)(kx:bf->HD->af R)(v:HD):af R:=match v with|(v,v1,v2,aD,v4)=>cond (aa (v4<aD)) (ax (aU v4 (I v2)) (ax (aU v4 (I v)) ((rf ((at' .expr v2 v4),(at' .expr v v4))).bind λx=>cond (!x) (kx .ret (v,ai,v2,aD,v4)) (a (v,v1,v2,aD,(wr .i64 (v4+1))))))) (kx (.exit 0) (v,v1,v2,aD,v4))
def VR(R:Type)(k:Nat)(rf:bb [bR,bR] [.bool]):aM R:=bp [(251,bg rf)] [] [(4,cq k Vk (ye rf))] []
noncomputable def S9(R:Type)(k:Nat)(rf:bb [bR,bR] [.bool]):aM R:=bp [(255,eY 40 200 (VR R k rf) Tryz.f255)] [] [] []
def xt(k:Nat)(rf:bb [bR,bR] [.bool])(x:au [bR,bR]):af (au [.bool]):=match x with
 |(a,b)=>
 let d:=λ(p:Bool)=>
  let j:=λ(p1:Bool)=>
  cond (p1) (
   cond (!decide ((I a.l:Int)=(I b.l:Int))) (
   J ai) (
   aT (λc=>ye rf c (λe f=>match f with|(_,v6,_,_,_)=>match e with
    |.ret=>
    J v6
    |.exit 0=>
    J ae
    |_=>ah)) k (b.l,ai,a.l,(I a.l:Int),0))) (
   J ai)
  cond (p) (
  j (aa (a.name=b.name))) (
  j ai)
 cond (aa (a.kind=b.kind)) (
  d (aa (a.v=b.v))) (
  d ai)
theorem aoh(k:Nat)(rf:bb [bR,bR] [.bool])(c:aN 251 [bR,bR] [.bool] rf):aN 251 [bR,bR] [.bool] (xt k rf):=bX (px:=S9 _ k rf) (n:=0) Tryz.func251 rfl (λab H=>by have h1:bT ab (VR (au [.bool]) k rf):=br H (c1 H c bm) bo bq;have a:=cC H h1 (b:=b_ Tryz.f255 0) (k:=k) (n:=0) (s:=Vk) (step:=ye rf) (λ_ _ _ (_,_,_,_,_)=>by kernel_rfl) aP;have h0:bT ab (S9 (au [.bool]) k rf):=br H (dY (e8 H h1 Tryz.func255 rfl (n:=1) (cm aP a)) bm) bo bq;exact⟨h0,aP⟩) λ(_,_)=>by kernel_rfl
def og(a b:bh):Bool:=j0 a b
def yX:bb [bR,bR] [.bool]:=λx=>J (og x.1 x.2)
variable{c:Bool->af R}{m:U bh}
theorem amS{rf:bb [bR,bR] [.bool]}{kx:bf->HD->af R}{l:U bh}(e:b5 (I l))(hm:I l=I m)(d:∀x,x∈l->∀y,y∈m->rf (x,y)=J (j0 x y))
  (h1:∀i,kx .ret (m,ai,l,(I l:Int),i)=c ai) (h2:∀q i,kx (.exit 0) (m,q,l,(I l:Int),i)=c ae) (k:Nat) (g:I l<k):aT (λb=>ye rf b kx) k (m,ai,l,(I l:Int),0)=c (j' l m):=by
 refine(gS (I l) (λi=>(m,ai,l,(I l:Int),(i:Int))) (λi=>c (j' (l.drop i) (m.drop i))) (λi hi b f=>?_) (λb=>?_) k 0 (cp _) ag).trans np
 .have a:i<I m:=ag
  simp only[ye,ez hi,bY hi,bY a,cb (c:=.expr) hi,cb (c:=.expr) a,d _ (fo hi) _ (fo a),cV hi e,f,h1,dn hi,dn a,j'];cases j0 l[i] m[i]<;>rfl
 .simp only[ye,eG,h2];exact pZ
theorem W6(k:Nat):∀(n:Nat) (a b:bh),jS a->jS b->di a<=n->di a<=k->aT (xt k) n (a,b)=J (j0 a b)
 |0,a,b,_,_,h,_=>by have:=mJ a;omega
 |n+1,a,b,cI,aj,h,aV=>by
  obtain⟨g,i⟩:=ru cI;obtain⟨r,j⟩:=ru aj;rw[nn]at h aV;have u:=tF a.l;have o:∀x,x∈a.l->∀y,y∈b.l->aT (xt k) n (x,y)=J (j0 x y):=λx p y s=>W6 k n x y (i x p) (j y s) (by have:=ka p;omega) (by have:=ka p;omega);rw[cQ,SX];simp only[xt];by_cases d:I a.l=I b.l
  .have f:=amS (R:=Bool) (rf:=aT (xt k) n) (l:=a.l) (m:=b.l) (c:=J) (kx:=λe v=>match v with
    |(_,v6,_,_,_)=>match e with
     |.ret=>J v6
     |.exit 0=>J ae
     |_=>ah) g d o (λ_=>rfl) (λ_ _=>rfl) k ag
   rw[f,aY (show(I a.l:Int)=(I b.l:Int) by omega)];exact ad3
  .have q:j' a.l b.l=false:=by cases t:j' a.l b.l with|false=>rfl|true=>exact absurd (WS t) d
   rw[q,bl (show ¬(I a.l:Int)=(I b.l:Int) by omega)];exact _C
theorem BI:aN 251 [bR,bR] [.bool] yX:=by refine .fin (ι:=Nat) 0 (F:=λn=>aT (xt n) n) (λn=>eH.jf (aw.ga Tryz.func251 rfl rfl) (λrf c=>aoh n rf c) n) λ(a,b) r aj d=>⟨di a,?_⟩;exact(W6 (di a) (di a) a b aj.1 aj.2 (b2 _) (b2 _)).trans d
def VJ:bt:=⟨53,[(4,.bool),(5,.int .i64)],[(2,.ptr 0 0),(3,.ptr 1 0)],[(0,.one (.aI .expr)),(1,.one (.aI .expr))],2,0,0,[],[]⟩
abbrev HS:=Bool×Int×bh×bh
def yd{R:Type}(rf:bb [bR,bR] [.bool])(a:HS->af R)(kx:bf->HS->af R)(v:HS):af R:=match v with|(v,v1,w,w1)=>cond (aa (v1<(I w.l:Int))) (ax (aU v1 (I w.l)) (ax (aU v1 (I w1.l)) ((rf ((at' .expr w.l v1),(at' .expr w1.l v1))).bind λx=>cond (!x) (kx .ret (ai,v1,w,w1)) (a (v,(wr .i64 (v1+1)),w,w1))))) (kx (.exit 0) (v,v1,w,w1))
def aaz(R:Type)(k:Nat)(rf:bb [bR,bR] [.bool]):aM R:=bp [(165,bg rf)] [] [(4,cq k VJ (yd rf))] []
def xn(k:Nat)(rf:bb [bR,bR] [.bool])(x:au [bR,bR]):af (au [.bool]):=match x with
 |(a,b)=>
 let j:=λ(p:Bool)=>
  cond (p) (
  J ai) (
  cond (!decide (a.name=b.name)) (
   J ai) (
   cond (!decide ((I a.l:Int)=(I b.l:Int))) (
   J ai) (
   aT (λc=>yd rf c (λe d=>match d with|(v2,_,_,_)=>match e with
    |.ret=>
    J v2
    |.exit 0=>
    J ae
    |_=>ah)) k (ai,0,a,b))))
 cond (!decide (a.kind=b.kind)) (
  j ae) (
  j (!decide (a.v=b.v)))
theorem aqe(k:Nat)(rf:bb [bR,bR] [.bool])(c:aN 165 [bR,bR] [.bool] rf):aN 165 [bR,bR] [.bool] (xn k rf):=bX (px:=aaz _ k rf) (n:=1) Tryz.func165 rfl (λab H=>by have h0:bT ab (aaz (au [.bool]) k rf):=br H (c1 H c bm) bo bq;have a:=cC H h0 (b:=b_ Tryz.f165 0) (k:=k) (n:=0) (s:=VJ) (step:=yd rf) (λ_ _ _ (_,_,_,_)=>by kernel_rfl) aP;exact⟨h0,(cm aP a)⟩) λ(_,_)=>by kernel_rfl
def wo(a b:bh):Bool:=j0 a b
def Jn:bb [bR,bR] [.bool]:=λx=>J (wo x.1 x.2)
theorem anL{rf:bb [bR,bR] [.bool]}{kx:bf->HS->af R}{a b:bh}(g:b5 (I a.l))(hm:I a.l=I b.l)(f:∀x,x∈a.l->∀y,y∈b.l->rf (x,y)=J (j0 x y))
  (h1:∀i,kx .ret (ai,i,a,b)=c ai) (h2:∀q i,kx (.exit 0) (q,i,a,b)=c ae) (k:Nat) (j:I a.l<k):aT (λe=>yd rf e kx) k (ai,0,a,b)=c (j' a.l b.l):=by
 refine(gS (I a.l) (λi=>(ai,(i:Int),a,b)) (λi=>c (j' (a.l.drop i) (b.l.drop i))) (λi hi e h=>?_) (λe=>?_) k 0 (cp _) ag).trans np
 .have d:i<I b.l:=ag
  simp only[yd,ez hi,bY hi,bY d,cb (c:=.expr) hi,cb (c:=.expr) d,f _ (fo hi) _ (fo d),cV hi g,h,h1,dn hi,dn d,j'];cases j0 a.l[i] b.l[i]<;>rfl
 .simp only[yd,eG,h2];exact pZ
theorem XX(k:Nat):∀(n:Nat) (a b:bh),jS a->jS b->di a<=n->di a<=k->aT (xn k) n (a,b)=J (j0 a b)
 |0,a,b,_,_,h,_=>by have:=mJ a;omega
 |n+1,a,b,cI,aj,h,aV=>by
  obtain⟨g,i⟩:=ru cI;obtain⟨q,j⟩:=ru aj;rw[nn]at h aV;have t:=tF a.l;have m:∀x,x∈a.l->∀y,y∈b.l->aT (xn k) n (x,y)=J (j0 x y):=λx o y r=>XX k n x y (i x o) (j y r) (by have:=ka o;omega) (by have:=ka o;omega);rw[cQ,SX];simp only[xn];by_cases d:I a.l=I b.l
  .have f:=anL (R:=Bool) (rf:=aT (xn k) n) (a:=a) (b:=b) (c:=J) (kx:=λe v=>match v with
    |(v2,_,_,_)=>match e with
     |.ret=>J v2
     |.exit 0=>J ae
     |_=>ah) g d m (λ_=>rfl) (λ_ _=>rfl) k ag
   rw[f,aY (show(I a.l:Int)=(I b.l:Int) by omega)];exact ad3
  .have p:j' a.l b.l=false:=by cases s:j' a.l b.l with|false=>rfl|true=>exact absurd (WS s) d
   rw[p,bl (show ¬(I a.l:Int)=(I b.l:Int) by omega)];exact _C
theorem aaj:aN 165 [bR,bR] [.bool] Jn:=by refine .fin (ι:=Nat) 0 (F:=λn=>aT (xn n) n) (λn=>eH.jf (aw.ga Tryz.func165 rfl rfl) (λrf c=>aqe n rf c) n) λ(a,b) r aj d=>⟨di a,?_⟩;exact(XX (di a) (di a) a b aj.1 aj.2 (b2 _) (b2 _)).trans d
def Yb:bt:=⟨19,[(0,.sl .str ai),(1,.str),(4,.int .i64),(7,.int .i64),(8,.int .i64)],[],[],0,0,0,[],[]⟩
abbrev DH:=U ar×ar×Int×Int×Int
def vX{R:Type}(a:DH->af R)(kx:bf->DH->af R)(v:DH):af R:=match v with|(v,v1,v2,aD,v4)=>cond (aa (v4<aD)) (ax (aU v4 (I v)) (cond (aa (v1=(at' .str v v4))) (kx .ret (v,v1,v4,aD,v4)) (a (v,v1,v2,aD,(wr .i64 (v4+1)))))) (kx (.exit 0) (v,v1,v2,aD,v4))
def acQ(R:Type)(k:Nat):aM R:=bp [] [] [(2,cq k Yb (vX))] []
def Xi(k:Nat)(x:au [eU,.str]):af (au [aq]):=match x with
 |(l,s)=>
 aT (λa=>vX a (λe b=>match b with|(_,_,bA,_,_)=>match e with
  |.ret=>
  J bA
  |.exit 0=>
  J (-1)
  |_=>ah)) k (l,s,0,(I l:Int),0)
theorem aiy(k:Nat):aN 88 [eU,.str] [aq] (Xi k):=bX (px:=acQ _ k) (n:=1) Tryz.func88 rfl (λab H=>by have h0:bT ab (acQ (au [aq]) k):=br H bm bo bq;have a:=cC H h0 (b:=b_ Tryz.f88 0) (k:=k) (n:=0) (s:=Yb) (step:=vX) (λ_ _ _ (_,_,_,_,_)=>by kernel_rfl) aP;exact⟨h0,(cm aP a)⟩) λ(_,_)=>by kernel_rfl
def Pw(l:U ar)(s:ar):Int:=fk.idx s l 0
def N8:bb [eU,.str] [aq]:=λx=>J (Pw x.1 x.2)
theorem Rl{R:Type}{kx:bf->DH->af R}{l:U ar}{s:ar}{c:Int->af R}(d:b5 (I l))(h1:∀(r:Int) (i:Int),kx .ret (l,s,r,(I l:Int),i)=c r)(h2:∀q:Int,kx (.exit 0) (l,s,q,(I l:Int),(I l:Int))=c (-1)) :
  ∀(k i:Nat) (q:Int),i<=I l->I l-i<k->aT (λb=>vX b kx) k (l,s,q,(I l:Int),(i:Int))=c (fk.idx s (l.drop i) i)
 |0,i,_,_,h=>absurd h (pv _)
 |k+1,i,q,hi,h=>by
  rw[cQ];by_cases a:i<I l
  .have e:aa ((i:Int)<(I l:Int))=true:=aY ag;have dv:((i+1:Nat):Int)=(i:Int)+1:=ag
   simp only[vX,bY a,ax,cb (c:=.str) a,cV a d,(Rl d h1 h2 k (i+1) q ag ag)];rw[dn a,fk.idx,dv];by_cases f:s=l[i]
   .grind
   .grind
  .have hi:i=I l:=ag
   subst hi;simp[vX,h2,fk.idx]
theorem akD:aN 88 [eU,.str] [aq] N8:=.fin 0 aiy λ(l,s) r aj a=>⟨I l+1,by simp only[N8,c4]at a;rw[<-a];simp only[Xi];exact Rl (c:=λq=>J q) aj.1.1 (λ_ _=>rfl) (λ_=>rfl) (I l+1) 0 0 (cp _) ag⟩
def akT(R:Type):aM R:=bp [(88,bg N8)] [] [] []
def Lw(x:au [eU,.str]):af (au [.bool]):=match x with|(l,s)=>J (aa (0<=(Pw l s)))
theorem aij:aN 54 [eU,.str] [.bool] (Lw):=bX (px:=akT _) (n:=0) Tryz.func54 rfl (λ_ H=>⟨br H (c1 H akD bm) bo bq,aP⟩) λ(_,_)=>by kernel_rfl
def w5(l:U ar)(s:ar):Bool:=(aa (0<=(Pw l s)))
theorem aie(x:au [eU,.str]):Lw x=J (w5 x.1 x.2):=by
 first
  |exact rfl
  |simp only[Lw,w5,fA]
def ZE:bb [eU,.str] [.bool]:=λx=>J (w5 x.1 x.2)
theorem ale:aN 54 [eU,.str] [.bool] ZE:=.de aij λx _ _ a=>(aie x).trans a
theorem akN(l:U ar)(s:ar):w5 l s=l.contains s:=by have e:w5 l s=aa (0<=fk.idx s l 0):=rfl;rw[e,Bool.eq_iff_iff,dM,fk.afz s l 0 (Int.le_refl 0)];simp
theorem KQ(k:Int):(parts k=0/\(k=1\/k=2))\/(parts k=1/\(k=3\/k=15\/k=16))\/(parts k=2/\4<=k/\k<=14)\/parts k = -1:=by
 by_cases h1:k=1
 .subst h1;left;decide
 by_cases h2:k=2
 .subst h2;left;decide
 by_cases h3:k=3
 .subst h3;right;left;decide
 by_cases a:k=15
 .subst a;right;left;decide
 by_cases b:k=16
 .subst b;right;left;decide
 right;right;by_cases h : 4<=k/\k<=14
 .left;refine⟨?_,h⟩;have:k=4\/k=5\/k=6\/k=7\/k=8\/k=9\/k=10\/k=11\/k=12\/k=13\/k=14:=ag
  rcases this with rfl|rfl|rfl|rfl|rfl|rfl|rfl|rfl|rfl|rfl|rfl<;>decide
 .right;have hm:lH oG k=[]:=by simp only[oG,lH];rw[bl ag,bl ag,bl ag,bl ag,bl ag,bl ag,bl ag,bl ag,bl ag,bl ag,bl ag]
  simp[parts,hm,h1,h2,h3,a,b]
theorem P1{e:bh}{m:Int}(h:fh e m=ae):(I e.l:Int)=parts e.kind/\pE e.kind e.v e.name=ae/\kN e.l (wr .i64 (m-1))=true:=by rw[L_]at h;simp only[bx,dM]at h;exact⟨h.1.1.2,h.1.2,h.2⟩
theorem Iy{e:bh}:iB e=0↔fh e 30=true:=aeH
def YX:bt:=⟨26,[(0,.sl .cO ai),(1,.sl .cO ai),(4,.bool),(12,.int .i64),(13,.int .i64)],[],[],0,0,0,[],[]⟩
abbrev D8:=U cW×U cW×Bool×Int×Int
def we{R:Type}(a:D8->af R)(kx:bf->D8->af R)(v:D8):af R:=match v with|(v,v1,v2,aD,v4)=>cond (aa (v4<aD)) (ax (aU v4 (I v)) (ax (aU v4 (I v1)) (cond (!decide ((at' .cO v v4)=(at' .cO v1 v4))) (kx .ret (v,v1,ai,aD,v4)) (a (v,v1,v2,aD,(wr .i64 (v4+1))))))) (kx (.exit 0) (v,v1,v2,aD,v4))
def acS(R:Type)(k:Nat):aM R:=bp [] [] [(4,cq k YX (we))] []
def W4(k:Nat)(x:au [dJ,dJ]):af (au [.bool]):=match x with
 |(a,b)=>
 cond (!decide ((I a:Int)=(I b:Int))) (
  J ai) (
  aT (λc=>we c (λe d=>match d with|(_,_,bA,_,_)=>match e with
  |.ret=>J bA
  |.exit 0=>J ae
  |_=>ah)) k (a,b,ai,(I a:Int),0))
theorem aiU(k:Nat):aN 252 [dJ,dJ] [.bool] (W4 k):=bX (px:=acS _ k) (n:=1) Tryz.func252 rfl (λab H=>by have h0:bT ab (acS (au [.bool]) k):=br H bm bo bq;have a:=cC H h0 (b:=b_ Tryz.f252 0) (k:=k) (n:=0) (s:=YX) (step:=we) (λ_ _ _ (_,_,_,_,_)=>by kernel_rfl) aP;exact⟨h0,(cm aP a)⟩) λ(_,_)=>by kernel_rfl
def Fi(a b:U cW):Bool:=aa (a=b)
def N':bb [dJ,dJ] [.bool]:=λx=>J (Fi x.1 x.2)
theorem apO{kx:bf->D8->af R}{a b:U cW}(g:b5 (I a))(j:I a=I b)(h1:∀i,kx .ret (a,b,ai,(I a:Int),i)=c ai)(h2:∀q i,kx (.exit 0) (a,b,q,(I a:Int),i)=c ae)(k:Nat)(l:I a<k) :
  aT (λd=>we d kx) k (a,b,ai,(I a:Int),0)=c (aa (a=b)):=by
 refine(gS (I a) (λi=>(a,b,ai,(I a:Int),(i:Int))) (λi=>c (aa (a.drop i=b.drop i))) (λi hi d h=>?_) (λd=>?_) k 0 (cp _) ag).trans np
 .have e:i<I b:=ag
  simp only[we,ez hi,a8,bY hi,bY e,ax,cb (c:=.cO) hi,cb (c:=.cO) e,cV hi g,h,h1,dn hi,dn e,gZ];by_cases f:a[i]=b[i]
  .rw[aY f];simp[f]
  .rw[bl f];simp[f]
 .simp only[we,eG,a_,h2];exact pZ
theorem alN:aN 252 [dJ,dJ] [.bool] N':=.fin 0 aiU λ(a,b) r aj d=>⟨I a+1,by
 simp only[N',c4]at d;rw[<-d];simp only[W4,Fi];by_cases e:I a=I b
 .rw[aY (show(I a:Int)=(I b:Int) by omega),dj,a_];exact apO (c:=J) aj.1.1 e (λ_=>rfl) (λ_ _=>rfl) (I a+1) ag
 .rw[bl (show ¬(I a:Int)=(I b:Int) by omega),bl (λh=>e (by rw[h]))];rfl⟩
def YA:bt:=⟨26,[(0,.sl .str ai),(1,.sl .str ai),(4,.bool),(12,.int .i64),(13,.int .i64)],[],[],0,0,0,[],[]⟩
abbrev DF:=U ar×U ar×Bool×Int×Int
def vT{R:Type}(a:DF->af R)(kx:bf->DF->af R)(v:DF):af R:=match v with|(v,v1,v2,aD,v4)=>cond (aa (v4<aD)) (ax (aU v4 (I v)) (ax (aU v4 (I v1)) (cond (!decide ((at' .str v v4)=(at' .str v1 v4))) (kx .ret (v,v1,ai,aD,v4)) (a (v,v1,v2,aD,(wr .i64 (v4+1))))))) (kx (.exit 0) (v,v1,v2,aD,v4))
def abI(R:Type)(k:Nat):aM R:=bp [] [] [(4,cq k YA (vT))] []
def Yq(k:Nat)(x:au [eU,eU]):af (au [.bool]):=match x with
 |(a,b)=>
 cond (!decide ((I a:Int)=(I b:Int))) (
  J ai) (
  aT (λc=>vT c (λe d=>match d with|(_,_,bA,_,_)=>match e with
  |.ret=>J bA
  |.exit 0=>J ae
  |_=>ah)) k (a,b,ai,(I a:Int),0))
theorem aik(k:Nat):aN 253 [eU,eU] [.bool] (Yq k):=bX (px:=abI _ k) (n:=1) Tryz.func253 rfl (λab H=>by have h0:bT ab (abI (au [.bool]) k):=br H bm bo bq;have a:=cC H h0 (b:=b_ Tryz.f253 0) (k:=k) (n:=0) (s:=YA) (step:=vT) (λ_ _ _ (_,_,_,_,_)=>by kernel_rfl) aP;exact⟨h0,(cm aP a)⟩) λ(_,_)=>by kernel_rfl
def AO(a b:U ar):Bool:=aa (a=b)
def Oe:bb [eU,eU] [.bool]:=λx=>J (AO x.1 x.2)
theorem arz{kx:bf->DF->af R}{a b:U ar}(g:b5 (I a))(j:I a=I b)(h1:∀i,kx .ret (a,b,ai,(I a:Int),i)=c ai)(h2:∀q i,kx (.exit 0) (a,b,q,(I a:Int),i)=c ae)(k:Nat)(l:I a<k) :
  aT (λd=>vT d kx) k (a,b,ai,(I a:Int),0)=c (aa (a=b)):=by
 refine(gS (I a) (λi=>(a,b,ai,(I a:Int),(i:Int))) (λi=>c (aa (a.drop i=b.drop i))) (λi hi d h=>?_) (λd=>?_) k 0 (cp _) ag).trans np
 .have e:i<I b:=ag
  simp only[vT,ez hi,a8,bY hi,bY e,ax,cb (c:=.str) hi,cb (c:=.str) e,cV hi g,h,h1,dn hi,dn e,gZ];by_cases f:a[i]=b[i]
  .rw[aY f];simp[f]
  .rw[bl f];simp[f]
 .simp only[vT,eG,a_,h2];exact pZ
theorem ajH:aN 253 [eU,eU] [.bool] Oe:=.fin 0 aik λ(a,b) r aj d=>⟨I a+1,by
 simp only[Oe,c4]at d;rw[<-d];simp only[Yq,AO];by_cases e:I a=I b
 .rw[aY (show(I a:Int)=(I b:Int) by omega),dj,a_];exact arz (c:=J) aj.1.1 e (λ_=>rfl) (λ_ _=>rfl) (I a+1) ag
 .rw[bl (show ¬(I a:Int)=(I b:Int) by omega),bl (λh=>e (by rw[h]))];rfl⟩
def XI:bt:=⟨26,[(0,.sl .bool ai),(1,.sl .bool ai),(4,.bool),(12,.int .i64),(13,.int .i64)],[],[],0,0,0,[],[]⟩
abbrev En:=U Bool×U Bool×Bool×Int×Int
def vU{R:Type}(a:En->af R)(kx:bf->En->af R)(v:En):af R:=match v with|(v,v1,v2,aD,v4)=>cond (aa (v4<aD)) (ax (aU v4 (I v)) (ax (aU v4 (I v1)) (cond (!decide ((at' .bool v v4)=(at' .bool v1 v4))) (kx .ret (v,v1,ai,aD,v4)) (a (v,v1,v2,aD,(wr .i64 (v4+1))))))) (kx (.exit 0) (v,v1,v2,aD,v4))
def acq(R:Type)(k:Nat):aM R:=bp [] [] [(4,cq k XI (vU))] []
def Xr(k:Nat)(x:au [sg,sg]):af (au [.bool]):=match x with
 |(a,b)=>
 cond (!decide ((I a:Int)=(I b:Int))) (
  J ai) (
  aT (λc=>vU c (λe d=>match d with|(_,_,bA,_,_)=>match e with
  |.ret=>J bA
  |.exit 0=>J ae
  |_=>ah)) k (a,b,ai,(I a:Int),0))
theorem auF(k:Nat):aN 254 [sg,sg] [.bool] (Xr k):=bX (px:=acq _ k) (n:=1) Tryz.func254 rfl (λab H=>by have h0:bT ab (acq (au [.bool]) k):=br H bm bo bq;have a:=cC H h0 (b:=b_ Tryz.f254 0) (k:=k) (n:=0) (s:=XI) (step:=vU) (λ_ _ _ (_,_,_,_,_)=>by kernel_rfl) aP;exact⟨h0,(cm aP a)⟩) λ(_,_)=>by kernel_rfl
def Fe(a b:U Bool):Bool:=aa (a=b)
def OR:bb [sg,sg] [.bool]:=λx=>J (Fe x.1 x.2)
theorem ara{kx:bf->En->af R}{a b:U Bool}(g:b5 (I a))(j:I a=I b)(h1:∀i,kx .ret (a,b,ai,(I a:Int),i)=c ai)(h2:∀q i,kx (.exit 0) (a,b,q,(I a:Int),i)=c ae)(k:Nat)(l:I a<k) :
  aT (λd=>vU d kx) k (a,b,ai,(I a:Int),0)=c (aa (a=b)):=by
 refine(gS (I a) (λi=>(a,b,ai,(I a:Int),(i:Int))) (λi=>c (aa (a.drop i=b.drop i))) (λi hi d h=>?_) (λd=>?_) k 0 (cp _) ag).trans np
 .have e:i<I b:=ag
  simp only[vU,ez hi,a8,bY hi,bY e,ax,cb (c:=.bool) hi,cb (c:=.bool) e,cV hi g,h,h1,dn hi,dn e,gZ];by_cases f:a[i]=b[i]
  .rw[aY f];simp[f]
  .rw[bl f];simp[f]
 .simp only[vU,eG,a_,h2];exact pZ
theorem akh:aN 254 [sg,sg] [.bool] OR:=.fin 0 auF λ(a,b) r aj d=>⟨I a+1,by
 simp only[OR,c4]at d;rw[<-d];simp only[Xr,Fe];by_cases e:I a=I b
 .rw[aY (show(I a:Int)=(I b:Int) by omega),dj,a_];exact ara (c:=J) aj.1.1 e (λ_=>rfl) (λ_ _=>rfl) (I a+1) ag
 .rw[bl (show ¬(I a:Int)=(I b:Int) by omega),bl (λh=>e (by rw[h]))];rfl⟩
instance:DecidableEq kE:=λa b=>decidable_of_iff (a.name=b.name/\a.e=b.e) (by cases a;cases b;simp)
def Jx(a b:kE):Bool:=aa (a.name=b.name)&&j0 a.e b.e
theorem ag1(a b:kE):Jx a b=aa (a=b):=by cases a;cases b;simp[Jx,tV]
def tf(a b:b4):Bool:=aa (a.kind=b.kind)&&aa (a.name=b.name)&&aa (a.on=b.on)&&aa (a.has=b.has)&&aa (a.ca=b.ca)&&aa (a.ej=b.ej)&&(aa (a.al=b.al)&&aa (a.names=b.names)&&aa (a.order=b.order)&&aa (a.desc=b.desc)&&aa (a.l=b.l))&&aa (a.rows=b.rows)&&aa (a.b8=b.b8)
theorem W1(a b:b4):tf a b=ae↔a=b:=by
 cases a;cases b;simp[tf,b4.mk.injEq];constructor
 .grind
 .grind
def UF:bt:=⟨32,[(1,.sl .set ai),(6,.bool),(15,.sl .set ai),(16,.int .i64),(17,.int .i64)],[(2,.fn 259 [])],[],40,40,600,[],[]⟩
abbrev Hj:=U kE×Bool×U kE×Int×Int
def x7{R:Type}(g:Hj->af R)(kx:bf->Hj->af R)(v:Hj):af R:=match v with|(b,f,c,d,a)=>cond (aa (a<d)) (ax (aU a (I c)) (ax (aU a (I b)) (cond (aa (((at' .set c a).name)=((at' .set b a).name))) (cond (!(og (ia ((at' .set c a).e)) (ia ((at' .set b a).e)))) (kx .ret (b,ai,c,d,a)) (g (b,f,c,d,(wr .i64 (a+1))))) (kx .ret (b,ai,c,d,a))))) (kx (.exit 0) (b,f,c,d,a))
def TQ:bt:=⟨32,[(1,.sl .expr ai),(6,.bool),(15,.sl .expr ai),(16,.int .i64),(17,.int .i64)],[(2,.fn 251 [])],[(0,.one (.aI .stmt)),(1,.one (.aI .stmt))],120,120,600,[],[]⟩
abbrev Hd:=U bh×Bool×U bh×Int×Int×b4×b4
def x6{R:Type}(f:Hd->af R)(kx:bf->Hd->af R)(v:Hd):af R:=match v with|(b,e,c,d,a,c9,c7)=>cond (aa (a<d)) (ax (aU a (I c)) (ax (aU a (I b)) (cond (!(og (at' .expr c a) (at' .expr b a))) (kx .ret (b,ai,c,d,a,c9,c7)) (f (b,e,c,d,(wr .i64 (a+1)),c9,c7))))) (kx (.exit 0) (b,e,c,d,a,c9,c7))
def Uo:bt:=⟨32,[(1,.sl .exprs ai),(6,.bool),(15,.sl .exprs ai),(16,.int .i64),(17,.int .i64)],[(2,.fn 257 [])],[(0,.one (.aI .stmt)),(1,.one (.aI .stmt))],40,40,400,[],[]⟩
abbrev Hf:=U (U bh)×Bool×U (U bh)×Int×Int×b4×b4
def x1{R:Type}(k:Nat)(j:Hf->af R)(kx:bf->Hf->af R)(v:Hf):af R:=match v with
 |(c,f,b,d,a,w2,w3)=>
 cond (aa (a<d)) (
  ax (aU a (I b)) (
  ax (aU a (I c)) (
   cond (!decide ((I (at' .exprs b a):Int)=(I (at' .exprs c a):Int))) (
   kx .ret (c,ai,b,d,a,w2,w3)) (
   aT (λrc=>x6 rc (λe l=>match l with|(_,i,_,_,_,g,h)=>match e with
    |.ret=>
    cond (!i) (
     kx .ret (c,ai,b,d,a,g,h)) (
     j (c,f,b,d,(wr .i64 (a+1)),g,h))
    |.exit 0=>
    j (c,f,b,d,(wr .i64 (a+1)),g,h)
    |_=>ah)) k ((at' .exprs c a),ai,(at' .exprs b a),(I (at' .exprs b a):Int),0,w2,w3))))) (
  kx (.exit 0) (c,f,b,d,a,w2,w3))
def UC:bt:=⟨32,[(1,.sl .expr ai),(6,.bool),(15,.sl .expr ai),(16,.int .i64),(17,.int .i64)],[(2,.fn 251 [])],[(0,.one (.aI .stmt)),(1,.one (.aI .stmt))],40,40,200,[],[]⟩
abbrev G2:=U bh×Bool×U bh×Int×Int×b4×b4
def xZ{R:Type}(a:G2->af R)(kx:bf->G2->af R)(v:G2):af R:=match v with|(v,v1,v2,aD,v4,w,w1)=>cond (aa (v4<aD)) (ax (aU v4 (I v2)) (ax (aU v4 (I v)) (cond (!(og (at' .expr v2 v4) (at' .expr v v4))) (kx .ret (v,ai,v2,aD,v4,w,w1)) (a (v,v1,v2,aD,(wr .i64 (v4+1)),w,w1))))) (kx (.exit 0) (v,v1,v2,aD,v4,w,w1))
def T7(R:Type)(k:Nat):aM R:=bp [(251,bg yX)] [] [(4,cq k UC (xZ))] []
def aeR(R:Type)(k:Nat):aM R:=bp [(251,bg yX)] [] [(4,cq k TQ (x6))] []
noncomputable def ae7(R:Type)(k:Nat):aM R:=bp [(255,eY 120 600 (aeR R k) Tryz.f255)] [] [] []
noncomputable def UQ(R:Type)(k:Nat):aM R:=bp [(257,eY 80 600 (ae7 R k) Tryz.f257)] [] [(4,cq k Uo (x1 k))] []
def ae2(R:Type)(kK:Nat):aM R:=bp [(251,bg yX)] [] [] []
noncomputable def UB(R:Type)(k:Nat):aM R:=bp [(259,eY 80 800 (ae2 R k) Tryz.f259)] [] [(4,cq k UF (x7))] []
noncomputable def YC(R:Type)(k:Nat):aM R:=bp [(251,bg yX),(252,bg N'),(253,bg Oe),(254,bg OR),(255,eY 40 200 (T7 R k) Tryz.f255),(256,eY 40 400 (UQ R k) Tryz.f256),(258,eY 40 600 (UB R k) Tryz.f258)] [] [] []
def Qv(k:Nat)(x:au [dQ,dQ]):af (au [.bool]):=match x with
 |(a,b)=>
 let z:=λ(Q2:Bool)=>
  let w:=λ(m:Bool) (t:b4) (u:b4)=>
  let Cs:=λ(n:Bool)=>
   let y:=λ(o:Bool) (c:b4) (d:b4)=>
   cond (o) (
    cond (!decide ((I c.b8:Int)=(I d.b8:Int))) (
    J ai) (
    aT (λs=>x7 s (λe v=>match v with|(_,q,_,_,_)=>match e with
     |.ret=>
     J q
     |.exit 0=>
     J ae
     |_=>ah)) k (d.b8,ai,c.b8,(I c.b8:Int),0))) (
    J ai)
   cond (n) (
   cond (!decide ((I t.rows:Int)=(I u.rows:Int))) (
    y ai t u) (
    aT (λs=>x1 k s (λe v=>match v with|(_,r,_,_,_,f,g)=>match e with
    |.ret=>y r f g
    |.exit 0=>y ae f g
    |_=>ah)) k (u.rows,ai,t.rows,(I t.rows:Int),0,t,u))) (
   y ai t u)
  cond (Q2) (
   Cs m) (
   Cs ai)
  let lM:=λ(aye:Bool)=>
  let m5:=λ(Q3:Bool)=>
   let kQ:=λ(Cw:Bool)=>
   cond (Cw) (
    cond (!decide ((I a.l:Int)=(I b.l:Int))) (
    w ai a b) (
    aT (λs=>xZ s (λe v=>match v with|(_,v6,_,_,_,h,i)=>match e with
     |.ret=>
     w v6 h i
     |.exit 0=>
     w ae h i
     |_=>ah)) k (b.l,ai,a.l,(I a.l:Int),0,a,b))) (
    w ai a b)
   cond (Q3) (
   kQ (Fe a.desc b.desc)) (
   kQ ai)
  cond (aye) (
   m5 (AO a.order b.order)) (
   m5 ai)
  cond (Fi a.al b.al) (
  lM (AO a.names b.names)) (
  lM ai)
 let lg:=λ(p:Bool)=>
  let kP:=λ(p1:Bool)=>
  let j:=λ(p2:Bool)=>
   cond (p2) (
   cond (aa (a.ca=b.ca)) (
    z (og (ia a.ej) (ia b.ej))) (
    z ai)) (
   z ai)
  cond (p1) (
   j (aa (a.has=b.has))) (
   j ai)
  cond (p) (
  kP (aa (a.on=b.on))) (
  kP ai)
 cond (aa (a.kind=b.kind)) (
  lg (aa (a.name=b.name))) (
  lg ai)
theorem an2(k:Nat):aN 213 [dQ,dQ] [.bool] (Qv k):=bX (px:=YC _ k) (n:=0) Tryz.func213 rfl (λab H=>by have h1:bT ab (T7 (au [.bool]) k):=br H (c1 H BI bm) bo bq;have a:=cC H h1 (b:=b_ Tryz.f255 0) (k:=k) (n:=0) (s:=UC) (step:=xZ) (λ_ _ _ (_,_,_,_,_,_,_)=>by kernel_rfl) aP;have h4:bT ab (aeR (au [.bool]) k):=br H (c1 H BI bm) bo bq;have c:=cC H h4 (b:=b_ Tryz.f255 0) (k:=k) (n:=0) (s:=TQ) (step:=x6) (λ_ _ _ (_,_,_,_,_,_,_)=>by kernel_rfl) aP;have h3:bT ab (ae7 (au [.bool]) k):=br H (dY (e8 H h4 Tryz.func255 rfl (n:=1) (cm aP c)) bm) bo bq;have h2:bT ab (UQ (au [.bool]) k):=br H (dY (e8 H h3 Tryz.func257 rfl (n:=0) (aP)) bm) bo bq;have d:=cC H h2 (b:=b_ Tryz.f256 0) (k:=k) (n:=0) (s:=Uo) (step:=x1 k) (λ_ _ _ (_,_,_,_,_,_,_)=>by kernel_rfl) aP;have h6:bT ab (ae2 (au [.bool]) k):=br H (c1 H BI bm) bo bq;have h5:bT ab (UB (au [.bool]) k):=br H (dY (e8 H h6 Tryz.func259 rfl (n:=0) (aP)) bm) bo bq;have e:=cC H h5 (b:=b_ Tryz.f258 0) (k:=k) (n:=0) (s:=UF) (step:=x7) (λ_ _ _ (_,_,_,_,_)=>by kernel_rfl) aP;have h0:bT ab (YC (au [.bool]) k):=br H (c1 H BI (c1 H alN (c1 H ajH (c1 H akh (dY (e8 H h1 Tryz.func255 rfl (n:=1) (cm aP a)) (dY (e8 H h2 Tryz.func256 rfl (n:=1) (cm aP d)) (dY (e8 H h5 Tryz.func258 rfl (n:=1) (cm aP e)) bm))))))) bo bq;exact⟨h0,aP⟩) λ(_,_)=>by kernel_rfl
def O0(a b:b4):Bool:=tf a b
def Sk:bb [dQ,dQ] [.bool]:=λx=>J (O0 x.1 x.2)
variable{α:Type}
theorem DE[DecidableEq α](x y : α)(l m:U α):aa (x::l=y::m)=(aa (x=y)&&aa (l=m)):=by simp
theorem ahU{kx:bf->G2->af R}{l:U bh}{s t:b4}(d:b5 (I l))(hm:I l=I m)
  (h1:∀i,kx .ret (m,ai,l,(I l:Int),i,s,t)=c ai) (h2:∀q i,kx (.exit 0) (m,q,l,(I l:Int),i,s,t)=c ae) (k:Nat) (f:I l<k):aT (λa=>xZ a kx) k (m,ai,l,(I l:Int),0,s,t)=c (aa (l=m)):=by
 refine(gS (I l) (λi=>(m,ai,l,(I l:Int),(i:Int),s,t)) (λi=>c (aa (l.drop i=m.drop i))) (λi hi a e=>?_) (λa=>?_) k 0 (cp _) ag).trans np
 .have b:i<I m:=ag
  simp only[xZ,ez hi,a8,bY hi,bY b,ax,cb (c:=.expr) hi,cb (c:=.expr) b,cV hi d,e,h1,dn hi,dn b,DE,og,tV];cases aa (l[i]=m[i])<;>rfl
 .simp only[xZ,eG,a_,h2];exact pZ
theorem ah0{kx:bf->Hd->af R}{l:U bh}{s t:b4}(d:b5 (I l))(hm:I l=I m)
  (h1:∀i,kx .ret (m,ai,l,(I l:Int),i,s,t)=c ai) (h2:∀q i,kx (.exit 0) (m,q,l,(I l:Int),i,s,t)=c ae) (k:Nat) (f:I l<k):aT (λa=>x6 a kx) k (m,ai,l,(I l:Int),0,s,t)=c (aa (l=m)):=by
 refine(gS (I l) (λi=>(m,ai,l,(I l:Int),(i:Int),s,t)) (λi=>c (aa (l.drop i=m.drop i))) (λi hi a e=>?_) (λa=>?_) k 0 (cp _) ag).trans np
 .have b:i<I m:=ag
  simp only[x6,ez hi,a8,bY hi,bY b,ax,cb (c:=.expr) hi,cb (c:=.expr) b,cV hi d,e,h1,dn hi,dn b,DE,og,tV];cases aa (l[i]=m[i])<;>rfl
 .simp only[x6,eG,a_,h2];exact pZ
theorem ahV{kx:bf->Hf->af R}{l m:U (U bh)}{s t:b4}(j:b5 (I l))(hm:I l=I m)(f:∀x,x∈l->b5 (I x))(k:Nat)(g:∀x,x∈l->List.length x<k)
  (h1:∀i,kx .ret (m,ai,l,(I l:Int),i,s,t)=c ai) (h2:∀q i,kx (.exit 0) (m,q,l,(I l:Int),i,s,t)=c ae) (o:I l<k):aT (λd=>x1 k d kx) k (m,ai,l,(I l:Int),0,s,t)=c (aa (l=m)):=by
 refine(gS (I l) (λi=>(m,ai,l,(I l:Int),(i:Int),s,t)) (λi=>c (aa (l.drop i=m.drop i))) (λi hi d n=>?_) (λd=>?_) k 0 (cp _) ag).trans np
 .have e:i<I m:=ag
  simp only[x1,ez hi,a8,bY hi,bY e,ax,cb (c:=.exprs) hi,cb (c:=.exprs) e,cV hi j,dn hi,dn e,DE];by_cases a:I l[i]=I m[i]
  .rw[aY (show(I l[i]:Int)=(I m[i]:Int) by omega),dj,a_];rw[ah0 (c:=λb=>cond b (c (aa (l.drop (i+1)=m.drop (i+1)))) (c ai)) (f _ (fo hi)) a (λ_=>h1 _) (λ_ _=>n) k (g _ (fo hi))];cases aa (l[i]=m[i])<;>rfl
  .rw[bl (show ¬(I l[i]:Int)=(I m[i]:Int) by omega),bl (λh=>a (by rw[h])),h1];rfl
 .simp only[x1,eG,a_,h2];exact pZ
theorem ah1{kx:bf->Hj->af R}{l m:U kE}(d:b5 (I l))(hm:I l=I m)
  (h1:∀i,kx .ret (m,ai,l,(I l:Int),i)=c ai) (h2:∀q i,kx (.exit 0) (m,q,l,(I l:Int),i)=c ae) (k:Nat) (g:I l<k):aT (λa=>x7 a kx) k (m,ai,l,(I l:Int),0)=c (aa (l=m)):=by
 refine(gS (I l) (λi=>(m,ai,l,(I l:Int),(i:Int))) (λi=>c (aa (l.drop i=m.drop i))) (λi hi a f=>?_) (λa=>?_) k 0 (cp _) ag).trans np
 .have b:i<I m:=ag
  simp only[x7,ez hi,a8,bY hi,bY b,ax,cb (c:=.set) hi,cb (c:=.set) b,cV hi d,f,h1,dn hi,dn b,DE,og,<-ag1,Jx,n8];cases aa (l[i].name=m[i].name)<;>cases j0 l[i].e m[i].e<;>rfl
 .simp only[x7,eG,a_,h2];exact pZ
theorem JC[DecidableEq α]{l m:U α}(h:¬I l=I m):aa (l=m)=false:=bl λe=>h (by rw[e])
def Ff(s:b4):Nat:=I s.l+I s.rows+I s.b8+(s.rows.map List.length).sum
theorem ak1{l:U (U bh)}{x:U bh}(h:x∈l):I x<=(l.map List.length).sum:=by
 induction l with
 |nil=>cases h
 |cons y l a=>
  simp;rcases ek.1 h with rfl|h
  .omega
  .have:=a h;omega
theorem ah8(k:Nat)(a b:b4)(aj:Fy a)(u:Ff a<k):Qv k (a,b)=J (tf a b):=by
 have f:=u;simp[Ff]at f;simp -zeta only [Qv,og,tV,n8,Fi,AO,Fe];extract_lets g n j v w;have h6:∀q,g q a b=J (q&&aa (a.b8=b.b8)):=λq=>by
  simp -zeta only [g];cases q with
  |false=>rfl
  |true=>
   rw[a8,Bool.true_and];by_cases d:I a.b8=I b.b8
   .rw[aY (show(I a.b8:Int)=(I b.b8:Int) by omega),dj,a_];exact ah1 (c:=J) aj.b8.1 d (λ_=>rfl) (λ_ _=>rfl) k ag
   .rw[bl (show ¬(I a.b8:Int)=(I b.b8:Int) by omega),JC d];rfl
 have e:∀p,n p=J (p&&(aa (a.al=b.al)&&aa (a.names=b.names)&&aa (a.order=b.order)&&aa (a.desc=b.desc)&&aa (a.l=b.l))&&aa (a.rows=b.rows)&&aa (a.b8=b.b8)):=λp=>by
  simp -zeta only [n];extract_lets h o r s;have i:∀q,h q a b=J (p&&q&&aa (a.rows=b.rows)&&aa (a.b8=b.b8)):=λq=>by
   simp -zeta only [h];extract_lets t;have h7:∀q,t q=J (q&&aa (a.rows=b.rows)&&aa (a.b8=b.b8)):=λq=>by
    simp -zeta only [t];cases q with
    |false=>exact(h6 ai).trans rfl
    |true=>
     rw[a8,Bool.true_and];by_cases d:I a.rows=I b.rows
     .rw[aY (show(I a.rows:Int)=(I b.rows:Int) by omega),dj,a_];refine(ahV (c:=λq=>g q a b) aj.rows.1 d (λx m=>(aj.rows.2 x m).1) k (λx m=>by have:=ak1 m;omega) (λ_=>rfl) (λ_ _=>rfl) ag).trans (h6 _)
     .rw[bl (show ¬(I a.rows:Int)=(I b.rows:Int) by omega),JC d];exact(h6 ai).trans rfl
   cases p with|false=>exact(h7 ai).trans rfl|true=>exact(h7 q).trans PO
  have h3:∀q,o q=J (p&&(q&&aa (a.l=b.l))&&aa (a.rows=b.rows)&&aa (a.b8=b.b8)):=λq=>by
   simp -zeta only [o];cases q with
   |false=>exact i ai
   |true=>
    rw[a8,Bool.true_and];by_cases d:I a.l=I b.l
    .rw[aY (show(I a.l:Int)=(I b.l:Int) by omega),dj,a_];exact(ahU (c:=λq=>h q a b) aj.l.1 d (λ_=>rfl) (λ_ _=>rfl) k ag).trans (i _)
    .rw[bl (show ¬(I a.l:Int)=(I b.l:Int) by omega),JC d];exact i ai
  have h4:∀q,r q=J (p&&(q&&aa (a.desc=b.desc)&&aa (a.l=b.l))&&aa (a.rows=b.rows)&&aa (a.b8=b.b8)):=λq=>by simp -zeta only [r];cases q with|false=>exact h3 ai|true=>exact(h3 _).trans PO
  have h5:∀q,s q=J (p&&(q&&aa (a.order=b.order)&&aa (a.desc=b.desc)&&aa (a.l=b.l))&&aa (a.rows=b.rows)&&aa (a.b8=b.b8)):=λq=>by simp -zeta only [s];cases q with|false=>exact h4 ai|true=>exact(h4 _).trans PO
  cases aa (a.al=b.al)with|false=>exact h5 ai|true=>exact(h5 _).trans (by simp)
 simp -zeta only [w,v,j,tf];cases aa (a.kind=b.kind)with
 |false=>exact(e ai).trans rfl
 |true=>
  cases aa (a.name=b.name)with
  |false=>exact(e ai).trans rfl
  |true=>
   cases aa (a.on=b.on)with
   |false=>exact(e ai).trans rfl
   |true=>
    cases aa (a.has=b.has)with
    |false=>exact(e ai).trans rfl
    |true=>cases aa (a.ca=b.ca)with|false=>exact(e ai).trans rfl|true=>exact(e _).trans (by simp)
theorem aoU:aN 213 [dQ,dQ] [.bool] Sk:=.fin 0 an2 λ(a,b) r aj c=>⟨Ff a+1,(ah8 (Ff a+1) a b aj.1 ag).trans c⟩
instance:DecidableEq b4:=λa b=>decidable_of_iff (tf a b=ae) (W1 a b)
theorem apY(a b:b4):tf a b=aa (a=b):=by rw[Bool.eq_iff_iff,W1,dM]
def at4(R:Type):aM R:=bp [] [] [] []
def Qw(x:au [aq]):af (au [.bool]):=match x with|n=>cond (aa (1<=n)) (J (aa (n<=100))) (J ai)
theorem aqm:aN 216 [aq] [.bool] (Qw):=bX (px:=at4 _) (n:=0) Tryz.func216 rfl (λ_ H=>⟨br H bm bo bq,aP⟩) λ_=>by kernel_rfl
def gu(n:Int):Bool:=cond (aa (1<=n)) (aa (n<=100)) (ai)
theorem arH(x:au [aq]):Qw x=J (gu x):=by
 first
  |exact rfl
  |simp only[Qw,gu,fA]
def zK:bb [aq] [.bool]:=λx=>J (gu x)
theorem Ds:aN 216 [aq] [.bool] zK:=.de aqm λx _ _ a=>(arH x).trans a
theorem Sq(n:Nat):gu (n:Int)=(aa (1<=n)&&aa (n<=100)):=by simp only[gu];rw[show aa ((1:Int)<=(n:Int))=aa (1<=n) from hH.2 ag,show aa ((n:Int)<=100)=aa (n<=100) from hH.2 ag];cases aa (1<=n)<;>rfl
def Vi:bt:=⟨26,[(0,.sl .str ai),(2,.bool),(5,.sl .str ai),(6,.int .i64),(7,.int .i64)],[],[],0,0,0,[],[]⟩
abbrev HL:=U ar×Bool×U ar×Int×Int
def yD{R:Type}(b:HL->af R)(kx:bf->HL->af R)(v:HL):af R:=match v with|(v,v1,v2,aD,a)=>cond (aa (a<aD)) (ax (aU a (I v2)) (cond (!(fC (at' .str v2 a))) (kx .ret (v,ai,v2,aD,a)) (ax (upto 0 a (I v)) (cond (w5 (v.take (a:Int).toNat) (at' .str v2 a)) (kx .ret (v,ai,v2,aD,a)) (b (v,v1,v2,aD,(wr .i64 (a+1)))))))) (kx (.exit 0) (v,v1,v2,aD,a))
def Sp(R:Type)(k:Nat):aM R:=bp [(187,bg yG),(54,bg ZE)] [] [(2,cq k Vi (yD))] []
def U8(k:Nat)(x:au [eU]):af (au [.bool]):=match x with
 |l=>
 aT (λa=>yD a (λe b=>match b with|(a',v6,_,_,_)=>match e with
  |.ret=>
  J v6
  |.exit 0=>
  J (aa ((I a':Int)<=100))
  |_=>ah)) k (l,ai,l,(I l:Int),0)
theorem apw(k:Nat):aN 217 [eU] [.bool] (U8 k):=bX (px:=Sp _ k) (n:=1) Tryz.func217 rfl (λab H=>by have h0:bT ab (Sp (au [.bool]) k):=br H (c1 H DK (c1 H ale bm)) bo bq;have a:=cC H h0 (b:=b_ Tryz.f217 0) (k:=k) (n:=0) (s:=Vi) (step:=yD) (λ_ _ _ (_,_,_,_,_)=>by kernel_rfl) aP;exact⟨h0,(cm aP a)⟩) λ_=>by kernel_rfl
def mT:U ar->U ar->Bool|_,[]=>ae|seen,s::r=>fC s && !seen.contains s&&mT (seen++[s]) r
def gF(l:U ar):Bool:=mT [] l&&aa (I l<=100)
def zH:bb [eU] [.bool]:=λx=>J (gF x)
variable{i:Nat}
theorem WA{l:U ar}(hi:i<I l):l.take (i+1)=l.take i++[l[i]]:=by simp_all
theorem ans{kx:bf->HL->af R}{l:U ar}(b:b5 (I l))(h1:∀i,kx .ret (l,ai,l,(I l:Int),i)=c ai)(h2:∀q i,kx (.exit 0) (l,q,l,(I l:Int),i)=c ae)(k:Nat)(f:I l<k) :
  aT (λa=>yD a kx) k (l,ai,l,(I l:Int),0)=c (mT [] l):=by
 refine(gS (I l) (λi=>(l,ai,l,(I l:Int),(i:Int))) (λi=>c (mT (l.take i) (l.drop i))) (λi hi a d=>?_) (λa=>?_) k 0 (cp _) ag).trans (by rw[gH,List.take_zero])
 .have e:upto 0 (i:Int) (I l)=true:=Gs
  simp only[yD,ez hi,bY hi,cb (c:=.str) hi,cV hi b,d,h1,dn hi,mT,e,Int.toNat_natCast,akN,WA hi];cases fC l[i]<;>cases (l.take i).contains l[i]<;>rfl
 .simp only[yD,eG,h2];exact jz
theorem NF:aN 217 [eU] [.bool] zH:=.fin 0 apw λl r aj a=>⟨I l+1,by simp only[zH,c4]at a;rw[<-a];simp only[U8];refine(ans (l:=l) (c:=λb=>cond b (J (aa ((I l:Int)<=100))) (J ai)) aj.1 (λ_=>rfl) (λ_ _=>rfl) (I l+1) ag).trans ?_;rw[show aa ((I l:Int)<=100)=aa (I l<=100) from hH.2 ag,gF];cases mT [] l<;>rfl⟩
def Us:bt:=⟨19,[(0,.sl .expr ai),(4,.int .i64),(7,.int .i64),(8,.int .i64)],[(1,.fn 260 [])],[],80,80,400,[],[]⟩
abbrev Hn:=U bh×Int×Int×Int
def xY{R:Type}(a:Hn->af R)(kx:bf->Hn->af R)(v:Hn):af R:=match v with|(v,v1,v2,aD)=>cond (aa (aD<v2)) (ax (aU aD (I v)) (cond (!(fh (at' .expr v aD) 30)) (kx .ret (v,aD,v2,aD)) (a (v,v1,v2,(wr .i64 (aD+1)))))) (kx (.exit 0) (v,v1,v2,aD))
def aeS(R:Type)(kK:Nat):aM R:=bp [(133,bg B1)] [] [] []
noncomputable def ae0(R:Type)(k:Nat):aM R:=bp [(260,eY 120 600 (aeS R k) Tryz.f260)] [] [(2,cq k Us (xY))] []
noncomputable def TT(R:Type)(k:Nat):aM R:=bp [(231,eY 80 400 (ae0 R k) Tryz.f231)] [] [] []
noncomputable def Xs(R:Type)(k:Nat):aM R:=bp [(188,eY 40 200 (TT R k) Tryz.f188)] [] [] []
def Alt(k:Nat)(x:au [kJ]):af (au [.bool]):=match x with
 |l=>
 cond (aa ((I l:Int)<=100)) (
  aT (λa=>xY a (λe b=>match b with|(_,a',_,_)=>match e with
  |.ret=>J (!(aa (0<=a')))
  |.exit 0=>J ae
  |_=>ah)) k (l,0,(I l:Int),0)) (
  J ai)
theorem amR(k:Nat):aN 218 [kJ] [.bool] (Alt k):=bX (px:=Xs _ k) (n:=0) Tryz.func218 rfl (λab H=>by have h3:bT ab (aeS (au [.bool]) k):=br H (c1 H HX bm) bo bq;have h2:bT ab (ae0 (au [.bool]) k):=br H (dY (e8 H h3 Tryz.func260 rfl (n:=0) (aP)) bm) bo bq;have a:=cC H h2 (b:=b_ Tryz.f231 0) (k:=k) (n:=0) (s:=Us) (step:=xY) (λ_ _ _ (_,_,_,_)=>by kernel_rfl) aP;have h1:bT ab (TT (au [.bool]) k):=br H (dY (e8 H h2 Tryz.func231 rfl (n:=1) (cm aP a)) bm) bo bq;have h0:bT ab (Xs (au [.bool]) k):=br H (dY (e8 H h1 Tryz.func188 rfl (n:=0) (aP)) bm) bo bq;exact⟨h0,aP⟩) λ_=>by kernel_rfl
def l0(l:U bh):Bool:=aa (I l<=100)&&l.all λe=>fh e 30
def Dy:bb [kJ] [.bool]:=λx=>J (l0 x)
theorem ahk{kx:bf->Hn->af R}{l:U bh}(b:b5 (I l))(h1:∀i:Nat,kx .ret (l,(i:Int),(I l:Int),(i:Int))=c ai)(h2:∀q i,kx (.exit 0) (l,q,(I l:Int),i)=c ae)(k:Nat)(f:I l<k) :
  aT (λa=>xY a kx) k (l,0,(I l:Int),0)=c (l.all λe=>fh e 30):=by
 refine(gS (I l) (λi=>(l,(0:Int),(I l:Int),(i:Int))) (λi=>c ((l.drop i).all λe=>fh e 30)) (λi hi a d=>?_) (λa=>?_) k 0 (cp _) ag).trans iy
 .simp only[xY,ez hi,bY hi,cb (c:=.expr) hi,cV hi b,d,h1,dn hi,et];cases fh l[i] 30<;>rfl
 .simp only[xY,eG,h2];exact jz
theorem X3:aN 218 [kJ] [.bool] Dy:=.fin 0 amR λl r aj a=>⟨I l+1,by
 simp only[Dy,c4]at a;rw[<-a];simp only[Alt,l0];rw[show aa ((I l:Int)<=100)=aa (I l<=100) from hH.2 ag];cases aa (I l<=100)with
 |false=>rfl
 |true=>rw[a8,Bool.true_and];exact ahk (l:=l) (c:=J) aj.1 (λi=>by simp) (λ_ _=>rfl) (I l+1) ag⟩
def VF:bt:=⟨19,[(0,.sl .exprs ai),(4,.int .i64),(7,.int .i64),(8,.int .i64)],[(1,.fn 262 [])],[],80,80,400,[],[]⟩
abbrev HJ:=U (U bh)×Int×Int×Int
def yv{R:Type}(a:HJ->af R)(kx:bf->HJ->af R)(v:HJ):af R:=match v with|(v,v1,v2,aD)=>cond (aa (aD<v2)) (ax (aU aD (I v)) (cond (aa ((I (at' .exprs v aD):Int)=0)) (kx .ret (v,aD,v2,aD)) (cond (!(l0 (at' .exprs v aD))) (kx .ret (v,aD,v2,aD)) (a (v,v1,v2,(wr .i64 (aD+1))))))) (kx (.exit 0) (v,v1,v2,aD))
def aeW(R:Type)(kK:Nat):aM R:=bp [(218,bg Dy)] [] [] []
noncomputable def Tw(R:Type)(k:Nat):aM R:=bp [(262,eY 120 600 (aeW R k) Tryz.f262)] [] [(2,cq k VF (yv))] []
noncomputable def V_(R:Type)(k:Nat):aM R:=bp [(277,eY 80 400 (Tw R k) Tryz.f277)] [] [] []
noncomputable def RV(R:Type)(k:Nat):aM R:=bp [(216,bg zK),(261,eY 40 200 (V_ R k) Tryz.f261)] [] [] []
def U4(k:Nat)(x:au [IB]):af (au [.bool]):=match x with
 |l=>
 cond (gu (I l:Int)) (
  aT (λa=>yv a (λe b=>match b with|(_,a',_,_)=>match e with
  |.ret=>J (!(aa (0<=a')))
  |.exit 0=>J ae
  |_=>ah)) k (l,0,(I l:Int),0)) (
  J ai)
theorem apE(k:Nat):aN 219 [IB] [.bool] (U4 k):=bX (px:=RV _ k) (n:=0) Tryz.func219 rfl (λab H=>by have h3:bT ab (aeW (au [.bool]) k):=br H (c1 H X3 bm) bo bq;have h2:bT ab (Tw (au [.bool]) k):=br H (dY (e8 H h3 Tryz.func262 rfl (n:=0) (aP)) bm) bo bq;have a:=cC H h2 (b:=b_ Tryz.f277 0) (k:=k) (n:=0) (s:=VF) (step:=yv) (λ_ _ _ (_,_,_,_)=>by kernel_rfl) aP;have h1:bT ab (V_ (au [.bool]) k):=br H (dY (e8 H h2 Tryz.func277 rfl (n:=1) (cm aP a)) bm) bo bq;have h0:bT ab (RV (au [.bool]) k):=br H (c1 H Ds (dY (e8 H h1 Tryz.func261 rfl (n:=0) (aP)) bm)) bo bq;exact⟨h0,aP⟩) λ_=>by kernel_rfl
def tk(r:U bh):Bool:= !decide (I r=0)&&l0 r
def wy(l:U (U bh)):Bool:=gu (I l:Int)&&l.all tk
def Kb:bb [IB] [.bool]:=λx=>J (wy x)
theorem anR{kx:bf->HJ->af R}{l:U (U bh)}(b:b5 (I l))(h1:∀i:Nat,kx .ret (l,(i:Int),(I l:Int),(i:Int))=c ai)(h2:∀q i,kx (.exit 0) (l,q,(I l:Int),i)=c ae)(k:Nat)(e:I l<k) :
  aT (λa=>yv a kx) k (l,0,(I l:Int),0)=c (l.all tk):=by
 refine(gS (I l) (λi=>(l,(0:Int),(I l:Int),(i:Int))) (λi=>c ((l.drop i).all tk)) (λi hi a d=>?_) (λa=>?_) k 0 (cp _) ag).trans iy
 .simp only[yv,ez hi,bY hi,ax,cb (c:=.exprs) hi,cV hi b,d,h1,dn hi,et,tk];rw[show aa ((I l[i]:Int)=0)=aa (I l[i]=0) from hH.2 ag];cases aa (I l[i]=0)<;>cases l0 l[i]<;>rfl
 .simp only[yv,eG,h2];exact jz
theorem atU:aN 219 [IB] [.bool] Kb:=.fin 0 apE λl r aj a=>⟨I l+1,by
 simp only[Kb,c4]at a;rw[<-a];simp only[U4,wy];cases gu (I l:Int)with
 |false=>rfl
 |true=>rw[a8,Bool.true_and];exact anR (l:=l) (c:=J) aj.1 (λi=>by simp) (λ_ _=>rfl) (I l+1) ag⟩
def asa(R:Type):aM R:=bp [(251,bg yX)] [] [] []
def K6(x:au [bR]):af (au [.bool]):=match x with|e=>J (og e (bh.mk 0 ⟨0,0,[]⟩ [] []))
theorem arD:aN 263 [bR] [.bool] (K6):=bX (px:=asa _) (n:=0) Tryz.func263 rfl (λ_ H=>⟨br H (c1 H BI bm) bo bq,aP⟩) λ_=>by kernel_rfl
def vB(e:bh):Bool:=(og e (bh.mk 0 ⟨0,0,[]⟩ [] []))
theorem aq5(x:au [bR]):K6 x=J (vB x):=by
 first
  |exact rfl
  |simp only[K6,vB,fA]
def acv:bb [bR] [.bool]:=λx=>J (vB x)
theorem asd:aN 263 [bR] [.bool] acv:=.de arD λx _ _ a=>(aq5 x).trans a
theorem atp(e:bh):vB e=aa (e = .mk 0 ⟨0,0,[]⟩ [] []):=tV e _
def ap3(R:Type):aM R:=bp [(263,bg acv),(133,bg B1)] [] [] []
def Ql(x:au [dQ]):af (au [.bool]):=match x with|s=>cond (!s.has) (J (vB (ia s.ej))) (J (fh (ia s.ej) 30))
theorem amT:aN 221 [dQ] [.bool] (Ql):=bX (px:=ap3 _) (n:=0) Tryz.func221 rfl (λ_ H=>⟨br H (c1 H asd (c1 H HX bm)) bo bq,aP⟩) λ_=>by kernel_rfl
def mi(s:b4):Bool:=cond (!s.has) (vB (ia s.ej)) (fh (ia s.ej) 30)
theorem ann(x:au [dQ]):Ql x=J (mi x):=by
 first
  |exact rfl
  |simp only[Ql,mi,fA]
def Tj:bb [dQ] [.bool]:=λx=>J (mi x)
theorem ap4:aN 221 [dQ] [.bool] Tj:=.de amT λx _ _ a=>(ann x).trans a
theorem Zq(s:b4):mi s=cond s.has (fh s.ej 30) (aa (s.ej = .mk 0 ⟨0,0,[]⟩ [] [])):=by simp only[mi,n8,atp];cases s.has<;>rfl
def WB:bt:=⟨44,[(0,.sl .cO ai),(2,.bool),(3,.sl .str ae),(6,.sl .cO ai),(7,.int .i64),(8,.int .i64)],[],[],0,0,0,[],[]⟩
abbrev Ik:=U cW×Bool×U ar×U cW×Int×Int
def yP{R:Type}(a:Ik->af R)(kx:bf->Ik->af R)(v:Ik):af R:=match v with
 |(v,v1,v2,aD,v4,a')=>
 cond (aa (a'<v4)) (
  ax (aU a' (I aD)) (
  let j:=λ(p:Bool)=>
   cond (p) (
   kx .ret (v,ai,v2,aD,v4,a')) (
   cond (!decide (((at' .cO aD a').ref)=[])) (
    cond (!(fC ((at' .cO aD a').ref))) (
    kx .ret (v,ai,v2,aD,v4,a')) (
    ax (aa (I v2+1<=bJ)) (
     a (v,v1,(v2++[((at' .cO aD a').name)]),aD,v4,(wr .i64 (a'+1)))))) (
    ax (aa (I v2+1<=bJ)) (
    a (v,v1,(v2++[((at' .cO aD a').name)]),aD,v4,(wr .i64 (a'+1))))))
  cond (aa ((at' .cO aD a').kind<2)) (
   j ae) (
   j (aa (5<(at' .cO aD a').kind))))) (
  kx (.exit 0) (v,v1,v2,aD,v4,a'))
def _5(R:Type)(k:Nat):aM R:=bp [(187,bg yG),(216,bg zK),(217,bg zH)] [] [(3,cq k WB (yP))] []
def Wh(k:Nat)(x:au [dJ]):af (au [.bool]):=match x with
 |l=>
 aT (λa=>yP a (λe b=>match b with|(v6,bA,b6,_,_,_)=>match e with
  |.ret=>
  J bA
  |.exit 0=>
  cond (gu (I v6:Int)) (
   J (gF b6)) (
   J ai)
  |_=>ah)) k (l,ai,[],l,(I l:Int),0)
theorem apv(k:Nat):aN 215 [dJ] [.bool] (Wh k):=bX (px:=_5 _ k) (n:=1) Tryz.func215 rfl (λab H=>by have h0:bT ab (_5 (au [.bool]) k):=br H (c1 H DK (c1 H Ds (c1 H NF bm))) bo bq;have a:=cC H h0 (b:=b_ Tryz.f215 0) (k:=k) (n:=0) (s:=WB) (step:=yP) (λ_ _ _ (_,_,_,_,_,_)=>by kernel_rfl) aP;exact⟨h0,(cm aP a)⟩) λ_=>by kernel_rfl
def kz(c:cW):Bool:=aa (2<=c.kind)&&aa (c.kind<=5)&&(aa (c.ref=[])||fC c.ref)
def FN(l:U cW):af Bool:=if I l<=2000000 then J (l.all kz&&gu (I l:Int)&&gF (l.map (·.name)))else ah
def JA:bb [dJ] [.bool]:=λx=>FN x
theorem an1{kx:bf->Ik->af R}{l:U cW}(g:I l<=2000000)(h1:∀o i,kx .ret (l,ai,o,l,(I l:Int),i)=c ai)(h2:∀q o i,kx (.exit 0) (l,q,o,l,(I l:Int),i)=cond (gu (I l:Int)) (c (gF o)) (c ai))(k:Nat)(h:I l<k) :
  aT (λa=>yP a kx) k (l,ai,[],l,(I l:Int),0)=c (l.all kz&&gu (I l:Int)&&gF (l.map (·.name))):=by
 have e:b5 (I l):=mK
 refine(gS (I l) (λi=>(l,ai,(l.take i).map (·.name),l,(I l:Int),(i:Int))) (λi=>c ((l.drop i).all kz&&gu (I l:Int)&&gF (l.map (·.name)))) (λi hi a d=>?_) (λa=>?_) k 0 (cp _) ag).trans iy
 .have f:(l.take (i+1)).map (·.name)=(l.take i).map (·.name)++[l[i].name]:=Gc
  have b:I ((l.take i).map (·.name))+1<=bJ:=Gd
  rw[f]at d;simp only[yP,ez hi,a8,bY hi,ax,cb (c:=.cO) hi,cV hi e,d,h1,dn hi,et,kz,aY b];by_cases j:l[i].kind<2
  .grind
  .grind
 .simp only[yP,eG,a_,h2];exact adR
theorem aiN:aN 215 [dJ] [.bool] JA:=.fin 0 apv λl r aj a=>⟨I l+1,by
 simp only[JA,FN]at a;split at a
 .rename_i h;rw[<-a];simp only[Wh];refine an1 (l:=l) (c:=J) h (λ_ _=>rfl) (λ_ _ _=>?_) (I l+1) ag;cases gu (I l:Int)<;>rfl
 .cases a⟩
def Vc:bt:=⟨29,[(0,.sl .set ai),(2,.bool),(3,.sl .str ae),(6,.sl .set ai),(7,.int .i64),(8,.int .i64)],[],[],0,0,0,[],[]⟩
abbrev HC:=U kE×Bool×U ar×U kE×Int×Int
def yo{R:Type}(a:HC->af R)(kx:bf->HC->af R)(v:HC):af R:=match v with|(v,v1,v2,aD,v4,a')=>cond (aa (a'<v4)) (ax (aU a' (I aD)) (cond (!(fh (ia ((at' .set aD a').e)) 30)) (kx .ret (v,ai,v2,aD,v4,a')) (ax (aa (I v2+1<=bJ)) (a (v,v1,(v2++[((at' .set aD a').name)]),aD,v4,(wr .i64 (a'+1))))))) (kx (.exit 0) (v,v1,v2,aD,v4,a'))
def SC(R:Type)(k:Nat):aM R:=bp [(133,bg B1),(216,bg zK),(217,bg zH)] [] [(3,cq k Vc (yo))] []
def UX(k:Nat)(x:au [IC]):af (au [.bool]):=match x with
 |l=>
 aT (λa=>yo a (λe b=>match b with|(v6,bA,b6,_,_,_)=>match e with
  |.ret=>
  J bA
  |.exit 0=>
  cond (gu (I v6:Int)) (
   J (gF b6)) (
   J ai)
  |_=>ah)) k (l,ai,[],l,(I l:Int),0)
theorem aqX(k:Nat):aN 220 [IC] [.bool] (UX k):=bX (px:=SC _ k) (n:=1) Tryz.func220 rfl (λab H=>by have h0:bT ab (SC (au [.bool]) k):=br H (c1 H HX (c1 H Ds (c1 H NF bm))) bo bq;have a:=cC H h0 (b:=b_ Tryz.f220 0) (k:=k) (n:=0) (s:=Vc) (step:=yo) (λ_ _ _ (_,_,_,_,_,_)=>by kernel_rfl) aP;exact⟨h0,(cm aP a)⟩) λ_=>by kernel_rfl
def F6(l:U kE):af Bool:=if I l<=2000000 then J (l.all (λx=>fh x.e 30)&&gu (I l:Int)&&gF (l.map (·.name)))else ah
def J':bb [IC] [.bool]:=λx=>F6 x
theorem am4{kx:bf->HC->af R}{l:U kE}(h:I l<=2000000)(h1:∀o i,kx .ret (l,ai,o,l,(I l:Int),i)=c ai)(h2:∀q o i,kx (.exit 0) (l,q,o,l,(I l:Int),i)=cond (gu (I l:Int)) (c (gF o)) (c ai))(k:Nat)(j:I l<k) :
  aT (λa=>yo a kx) k (l,ai,[],l,(I l:Int),0)=c (l.all (λx=>fh x.e 30)&&gu (I l:Int)&&gF (l.map (·.name))):=by
 have f:b5 (I l):=mK
 refine(gS (I l) (λi=>(l,ai,(l.take i).map (·.name),l,(I l:Int),(i:Int))) (λi=>c ((l.drop i).all (λx=>fh x.e 30)&&gu (I l:Int)&&gF (l.map (·.name)))) (λi hi a d=>?_) (λa=>?_) k 0 (cp _) ag).trans iy
 .have g:(l.take (i+1)).map (·.name)=(l.take i).map (·.name)++[l[i].name]:=Gc
  have b:I ((l.take i).map (·.name))+1<=bJ:=Gd
  rw[g]at d;simp only[yo,ez hi,a8,bY hi,ax,cb (c:=.set) hi,cV hi f,d,h1,dn hi,et,aY b,n8];cases fh l[i].e 30<;>rfl
 .simp only[yo,eG,a_,h2];exact adR
theorem asT:aN 220 [IC] [.bool] J':=.fin 0 aqX λl r aj a=>⟨I l+1,by
 simp only[J',F6]at a;split at a
 .rename_i h;rw[<-a];simp only[UX];refine am4 (l:=l) (c:=J) h (λ_ _=>rfl) (λ_ _ _=>?_) (I l+1) ag;cases gu (I l:Int)<;>rfl
 .cases a⟩
def g2:bh:=.mk 0 ⟨0,0,[]⟩ [] []
def jO:b4:=⟨0,[],[],[],[],[],[],[],ai,g2,[],[],0⟩
def atG(R:Type):aM R:=bp [] [] [] []
def VW(x:au [dQ]):af (au [dQ]):=match x with|s=>cond (aa (s.kind=1)) (J (b4.mk 0 [] s.on [] [] [] s.rows s.b8 s.has (ia s.ej) s.order s.desc s.ca)) (cond (aa (s.kind=3)) (J (b4.mk 0 [] [] s.al [] s.l s.rows s.b8 s.has (ia s.ej) s.order s.desc s.ca)) (cond (aa (s.kind=5)) (J (b4.mk 0 [] s.on s.al s.names s.l [] s.b8 s.has (ia s.ej) s.order s.desc s.ca)) (cond (aa (s.kind=6)) (J (b4.mk 0 [] s.on s.al s.names s.l s.rows [] ai (bh.mk 0 ⟨0,0,[]⟩ [] []) s.order s.desc s.ca)) (cond (aa (s.kind=7)) (J (b4.mk 0 [] s.on s.al s.names s.l s.rows s.b8 ai (bh.mk 0 ⟨0,0,[]⟩ [] []) s.order s.desc s.ca)) (cond (aa (s.kind=8)) (J (b4.mk 0 [] s.on s.al s.names [] s.rows s.b8 ai (bh.mk 0 ⟨0,0,[]⟩ [] []) [] [] 0)) (J (b4.mk 0 [] s.on s.al s.names s.l s.rows s.b8 s.has (ia s.ej) s.order s.desc s.ca)))))))
theorem ao5:aN 214 [dQ] [dQ] (VW):=bX (px:=atG _) (n:=0) Tryz.func214 rfl (λ_ H=>⟨br H bm bo bq,aP⟩) λ_=>by kernel_rfl
def iz(s:b4):b4:=if s.kind=1 then { s with kind:=0,name:=[],al:=[],names:=[],l:=[] }else if s.kind=3 then { s with kind:=0,name:=[],on:=[],names:=[] }else if s.kind=5 then { s with kind:=0,name:=[],rows:=[] }else if s.kind=6 then { s with kind:=0,name:=[],b8:=[],has:=ai,ej:=g2 }else if s.kind=7 then { s with kind:=0,name:=[],has:=ai,ej:=g2 }else if s.kind=8 then { s with kind:=0,name:=[],l:=[],has:=ai,ej:=g2,order:=[],desc:=[],ca:=0 }else { s with kind:=0,name:=[] }
def Jr:bb [dQ] [dQ]:=λx=>J (iz x)
theorem atZ:aN 214 [dQ] [dQ] Jr:=.de ao5 λs r aj a=>by
 simp only[Jr,c4]at a;rw[<-a];simp only[VW,iz,n8,Bool.cond_decide];split; · rfl
 split; · rfl
 split; · rfl
 split; · rfl
 split; · rfl
 split<;>rfl
def aos(R:Type):aM R:=bp [(187,bg yG),(214,bg Jr),(213,bg Sk),(215,bg JA),(216,bg zK),(217,bg zH),(218,bg Dy),(219,bg Kb),(220,bg J'),(221,bg Tj)] [] [] []
def UO(x:au [dQ]):af (au [aq]):=match x with
 |s=>
 let e:=λ(p1:Bool)=>
  cond (aa (s.kind=1)) (
  let f:=λ(p2:Bool)=>
   let j:=λ(p3:Bool)=>
   cond (p3) (
    cond (gF s.names) (
    cond (!(l0 s.l)) (
     J 2) (
     J 0)) (
    J 2)) (
    J 2)
   cond (p2) (
   j (gu (I s.names:Int))) (
   j ai)
  cond (p1) (
   (FN s.al).bind λx=>
   f x) (
   f ai)) (
  cond (aa (s.kind=3)) (
   let g:=λ(n:Bool)=>
   cond (n) (
    cond (gu (I s.names:Int)) (
    cond (!(gF s.names)) (
     J 2) (
     J 0)) (
    J 2)) (
    J 2)
   cond (p1) (
   g (fC s.on)) (
   g ai)) (
   let h:=λ(a:Bool)=>
   cond (a) (
    cond (!p1) (
    J 2) (
    J 0)) (
    cond (aa (s.kind=5)) (
    cond (p1) (
     cond (!(wy s.rows)) (
     J 2) (
     J 0)) (
     J 2)) (
    cond (aa (s.kind=6)) (
     cond (p1) (
     (F6 s.b8).bind λo=>
      cond (o) (
      cond (!(mi s)) (
       J 2) (
       J 0)) (
      J 2)) (
     J 2)) (
     cond (aa (s.kind=7)) (
     cond (p1) (
      cond (!(mi s)) (
      J 2) (
      J 0)) (
      J 2)) (
     cond (aa (s.kind=8)) (
      let i:=λ(b:Bool)=>
      let k:=λ(c:Bool)=>
       let m:=λ(d:Bool)=>
       cond (d) (
        cond (aa ((I s.desc:Int)=(I s.order:Int))) (
        cond (!(aa ((-1)<=s.ca))) (
         J 2) (
         J 0)) (
        J 2)) (
        J 2)
       cond (c) (
       m (gF s.order)) (
       m ai)
      cond (b) (
       k (mi s)) (
       k ai)
      cond (p1) (
      i (l0 s.l)) (
      i ai)) (
      J 2)))))
   cond (aa (s.kind=2)) (
   h (aa (s.kind=2))) (
   h (aa (s.kind=4)))))
 cond (fC s.name) (
  e (O0 (iz s) (b4.mk 0 [] [] [] [] [] [] [] ai (bh.mk 0 ⟨0,0,[]⟩ [] []) [] [] 0))) (
  e ai)
theorem anl:aN 176 [dQ] [aq] (UO):=bX (px:=aos _) (n:=0) Tryz.func176 rfl (λ_ H=>⟨br H (c1 H DK (c1 H atZ (c1 H aoU (c1 H aiN (c1 H Ds (c1 H NF (c1 H X3 (c1 H atU (c1 H asT (c1 H ap4 bm)))))))))) bo bq,aP⟩) λ_=>by kernel_rfl
def fX(s:b4):Bool:=fC s.name&&aa (iz s=jO)&&(if s.kind=1 then s.al.all kz&&gu (I s.al:Int)&&gF (s.al.map (·.name))&&gu (I s.names:Int)&&gF s.names&&l0 s.l else if s.kind=3 then fC s.on&&gu (I s.names:Int)&&gF s.names else if s.kind=2\/s.kind=4 then ae else if s.kind=5 then wy s.rows else if s.kind=6 then s.b8.all (λx=>fh x.e 30)&&gu (I s.b8:Int)&&gF (s.b8.map (·.name))&&mi s else if s.kind=7 then mi s else if s.kind=8 then l0 s.l&&mi s&&gF s.order&&aa (I s.desc=I s.order)&&aa (-1<=s.ca)else ai)
def vJ(s:b4):af Int:=if I s.al<=2000000/\I s.b8<=2000000 then J (cond (fX s) 0 2)else ah
def DC:bb [dQ] [aq]:=λx=>vJ x
theorem X6:aN 176 [dQ] [aq] DC:=.de anl λs r aj b=>by
 simp only[DC,vJ]at b;split at b
 case isFalse=>cases b
 rename_i h;rw[<-b];have d:FN s.al=J (s.al.all kz&&gu (I s.al:Int)&&gF (s.al.map (·.name))):=if_pos h.1;have aS:F6 s.b8=J (s.b8.all (λx=>fh x.e 30)&&gu (I s.b8:Int)&&gF (s.b8.map (·.name))):=if_pos h.2;have f:O0 (iz s) (b4.mk 0 [] [] [] [] [] [] [] ai (bh.mk 0 ⟨0,0,[]⟩ [] []) [] [] 0)=aa (iz s=jO):=apY _ _;have g:aa ((I s.desc:Int)=(I s.order:Int))=aa (I s.desc=I s.order):=hH.2 ag;simp only[UO,fX,d,aS,f,g,bZ];generalize fC s.name=A;generalize aa (iz s=jO)=B;generalize (s.al.all kz&&gu (I s.al:Int)&&gF (s.al.map (·.name)))=C;generalize gu (I s.names:Int)=D;generalize gF s.names=E;generalize l0 s.l=F;generalize fC s.on=G;generalize wy s.rows=H;generalize (s.b8.all (λx=>fh x.e 30)&&gu (I s.b8:Int)&&gF (s.b8.map (·.name)))=g';generalize mi s=qy;generalize gF s.order=K;generalize aa (I s.desc=I s.order)=L;generalize aa (-1<=s.ca)=M;by_cases h1:s.kind=1
 .rw[aY h1,if_pos h1];cases A<;>cases B<;>cases C<;>cases D<;>cases E<;>cases F<;>rfl
 rw[bl h1,if_neg h1];by_cases h3:s.kind=3
 .rw[aY h3,if_pos h3];cases A<;>cases B<;>cases G<;>cases D<;>cases E<;>rfl
 rw[bl h3,if_neg h3];by_cases a:s.kind=2\/s.kind=4
 .rw[if_pos a];rcases a with h2|h2
  .rw[aY h2];cases A<;>cases B<;>rfl
  .rw[aY h2,bl (show ¬s.kind=2 by omega)];cases A<;>cases B<;>rfl
 rw[if_neg a,bl (show ¬s.kind=2 by omega),bl (show ¬s.kind=4 by omega)];by_cases h5:s.kind=5
 .rw[aY h5,if_pos h5];cases A<;>cases B<;>cases H<;>rfl
 rw[bl h5,if_neg h5];by_cases h6:s.kind=6
 .rw[aY h6,if_pos h6];cases A<;>cases B<;>cases g'<;>cases qy<;>rfl
 rw[bl h6,if_neg h6];by_cases h7:s.kind=7
 .rw[aY h7,if_pos h7];cases A<;>cases B<;>cases qy<;>rfl
 rw[bl h7,if_neg h7];by_cases c:s.kind=8
 .rw[aY c,if_pos c];cases A<;>cases B<;>cases F<;>cases qy<;>cases K<;>cases L<;>cases M<;>rfl
 rw[bl c,if_neg c];cases A<;>cases B<;>rfl
def Qe:bt:=⟨26,[(10,.int .i64),(11,.int .i64)],[(1,.ptr 0 0),(2,.ptr 1 0)],[(0,.g3 [aq,aq,aq,.str,.str] 2 .expr),(1,.one (.aI .expr)),(2,.one (.e3 .expr))],3,0,0,[],[]⟩
abbrev tN:=Int×Int×Int×Int×Int×ar×ar×Int×Int×bh×U bh
def um{R:Type}(rf:bb [bR] [bR])(a:tN->af R)(kx:bf->tN->af R)(v:tN):af R:=match v with|(v,v1,w,w1,w2,w3,c9,c7,dC,dO,dX)=>cond (aa (v1<v)) (ax (iJ v1 dC) (ax (aU (c7+v1) (I dX)) ((rf (at' .expr dX (c7+v1))).bind λx=>ax (iJ v1 dC) (ax (aU (c7+v1) (I dX)) (a (v,(wr .i64 (v1+1)),w,w1,w2,w3,c9,c7,dC,dO,(dX.set ((c7+v1):Int).toNat x))))))) (kx (.exit 0) (v,v1,w,w1,w2,w3,c9,c7,dC,dO,dX))
noncomputable def UW(R:Type)(kK:Nat)(rf:bb [bR] [bR]):aM R:=bp [(225,sc .expr)] [(181,fa rf)] [] []
noncomputable def Iu(R:Type)(k:Nat)(rf:bb [bR] [bR]):aM R:=bp [(225,sc .expr)] [(181,fa rf)] [(3,CV (UW R k rf) (b_ Tryz.f181 0) k Qe (um rf))] []
theorem agX(R:Type)(k:Nat)(rf:bb [bR] [bR]):∀(bI:U Fr) (a:tN->af R) (kx:bf->tN->af R) (v:tN),round (Iu R k rf) Qe (b_ Tryz.f181 0) bI a kx v=um rf a kx v
 |bI,a,kx,(v,v1,w,w1,w2,w3,c9,c7,dC,dO,dX)=>by kernel_rfl
def A0(k:Nat)(rf:bb [bR] [bR])(x:au [bR]):af (au [bR]):=match x with
 |e=>
 ax (aa (I e.l<=2000000)) (
  cond (List.isEmpty e.l) (
  J (bh.mk e.kind ⟨e.v.kind,e.v.n,e.v.s⟩ e.name [])) (
  aT (λc=>um rf c (λe d=>match d with|(_,_,v4,a',v6,bA,b6,cw,a,_,b)=>match e with
   |.exit 0=>
   ax (aa ((0:Int)<=cw)&&aa ((0:Int)<=a)&&aa ((cw+a)<=(I b:Int))) (
    J (bh.mk v4 ⟨a',v6,bA⟩ b6 (cut b cw (cw+a))))
   |_=>ah)) k ((I e.l:Int),0,e.kind,e.v.kind,e.v.n,e.v.s,e.name,0,(I e.l:Int),(bh.mk 0 ⟨0,0,[]⟩ [] []),e.l)))
theorem amD(k:Nat)(rf:bb [bR] [bR])(d:aN 181 [bR] [bR] rf):aN 181 [bR] [bR] (A0 k rf):=bX (px:=Iu _ k rf) (n:=1) Tryz.func181 rfl (λab H=>by have h0:bT ab (Iu (au [bR]) k rf):=br H (dY (B_ H Uq Tr) bm) (bd H d bo) bq;have b:bT ab (UW (au [bR]) k rf):=br H (dY (B_ H Uq Tr) bm) (bd H d bo) bq;have a:fR ab (Iu (au [bR]) k rf) (b_ Tryz.f181 0):=Wg h0.p h0.c h0.q tz b.p b.c b.q (λ_ _ _=>rfl) (k:=k) (s:=Qe) (step:=um rf) (λ_ _=>by kernel_rfl) b0 (agX _ k rf) (BH (n:=0) b0 aP);exact⟨h0,(cm aP a)⟩) λ_=>by kernel_rfl
def Aj(e:bh):af bh:=cond (aa (di e<=2000000)) (J e) ah
def MX:bb [bR] [bR]:=λx=>Aj x
theorem ajz{n:Nat}(h:i<n):iJ (i:Int) (n:Int)=true:=by simp[iJ];omega
variable{c':ar}
theorem amf{rf:bb [bR] [bR]}{kx:bf->tN->af R}{a b n:Int}{z:bh}{l:U bh}{c:af R}(f:b5 (I l))(e:∀x,x∈l->rf x=J x)(h2:kx (.exit 0) ((I l:Int),(I l:Int),a,b,n,s,c',0,(I l:Int),z,l)=c)(k:Nat)(h:I l<k) :
  aT (λd=>um rf d kx) k ((I l:Int),0,a,b,n,s,c',0,(I l:Int),z,l)=c:=by
 refine gS (I l) (λi=>((I l:Int),(i:Int),a,b,n,s,c',0,(I l:Int),z,l)) (λ_=>c) (λi hi d g=>?_) (λd=>?_) k 0 (cp _) ag
 .simp only[um,ez hi,a8,Int.zero_add,ajz hi,bY hi,ax,cb (c:=.expr) hi,e _ (fo hi),bZ,cV hi f,Int.toNat_natCast,List.set_getElem_self,g]
 .simp[um,h2]
theorem V0(k:Nat):∀(n:Nat) (e:bh),jS e->di e<=n->di e<=k->di e<=2000000->aT (A0 k) n e=J e
 |0,e,_,h,_,_=>by have:=mJ e;omega
 |n+1,e,aj,h,aV,bK=>by
  obtain⟨d,f⟩:=ru aj;rw[nn]at h aV bK;have i:=tF e.l;have g:∀x,x∈e.l->aT (A0 k) n x=J x:=λx a=>V0 k n x (f x a) (by have:=ka a;omega) (by have:=ka a;omega) (by have:=ka a;omega);rw[cQ];simp[A0];rw[aY (show I e.l<=2000000 by omega)];simp[ax];cases b:e.l with
  |nil=>simp;obtain⟨j,v,c',l⟩:=e;simp[bh.l]at b;subst b;rfl
  |cons x t=>
   rw[<-b];have:List.isEmpty e.l=false:=tJ
   rw[this];simp;refine(amf (c:=J e) d g ?_ k ag);have h1:(aa ((0:Int)<=0)&&aa ((0:Int)<=(I e.l:Int))&&aa ((0:Int)+(I e.l:Int)<=(I e.l:Int)))=true:=by simp
   simp only[h1,acV];cases e;rfl
theorem aq2:aN 181 [bR] [bR] MX:=by refine .fin (ι:=Nat) 0 (F:=λn=>aT (A0 n) n) (λn=>eH.jf (aw.ga Tryz.func181 rfl rfl) (λrf b=>amD n rf b) n) λe r aj a=>⟨di e,?_⟩;simp only[MX,Aj]at a;cases ao:aa (di e<=2000000)with|false=>rw[ao]at a;cases a|true=>rw[ao]at a;exact(V0 (di e) (di e) e aj (b2 _) (b2 _) (of_decide_eq_true ao)).trans a
def XN:bt:=⟨19,[(0,.sl .cO ai),(4,.int .i64),(7,.int .i64),(8,.int .i64)],[(1,.fn 266 [.ptr 1 0])],[(1,.cells [.str])],40,40,200,[],[]⟩
abbrev DA:=U cW×Int×Int×Int×ar
def vP{R:Type}(a:DA->af R)(kx:bf->DA->af R)(v:DA):af R:=match v with|(v,v1,v2,aD,w)=>cond (aa (aD<v2)) (ax (aU aD (I v)) (cond (aa (((at' .cO v aD).name)=w)) (kx .ret (v,aD,v2,aD,w)) (a (v,v1,v2,(wr .i64 (aD+1)),w)))) (kx (.exit 0) (v,v1,v2,aD,w))
def TX(R:Type)(kK:Nat):aM R:=bp [] [] [] []
noncomputable def Xh(R:Type)(k:Nat):aM R:=bp [(266,eY 80 400 (TX R k) Tryz.f266)] [] [(2,cq k XN (vP))] []
noncomputable def ace(R:Type)(k:Nat):aM R:=bp [(265,eY 40 200 (Xh R k) Tryz.f265)] [] [] []
def Y5(k:Nat)(x:au [cu,.str]):af (au [aq]):=match x with
 |(t,s)=>
 aT (λa=>vP a (λe b=>match b with|(_,a',_,_,_)=>match e with
  |.ret=>
  J a'
  |.exit 0=>
  J (-1)
  |_=>ah)) k (t.al,0,(I t.al:Int),0,s)
theorem aia(k:Nat):aN 224 [cu,.str] [aq] (Y5 k):=bX (px:=ace _ k) (n:=0) Tryz.func224 rfl (λab H=>by have h2:bT ab (TX (au [aq]) k):=br H bm bo bq;have h1:bT ab (Xh (au [aq]) k):=br H (dY (e8 H h2 Tryz.func266 rfl (n:=0) (aP)) bm) bo bq;have a:=cC H h1 (b:=b_ Tryz.f265 0) (k:=k) (n:=0) (s:=XN) (step:=vP) (λ_ _ _ (_,_,_,_,_)=>by kernel_rfl) aP;have h0:bT ab (ace (au [aq]) k):=br H (dY (e8 H h1 Tryz.func265 rfl (n:=1) (cm aP a)) bm) bo bq;exact⟨h0,aP⟩) λ(_,_)=>by kernel_rfl
def Fl(t:bU)(s:ar):Int:=dR t.al s
def OM:bb [cu,.str] [aq]:=λx=>J (Fl x.1 x.2)
variable{g:Int->af R}
theorem arB{kx:bf->DA->af R}(b:b5 (I al))(h1:∀i:Nat,kx .ret (al,(i:Int),(I al:Int),(i:Int),s)=g i)(h2:kx (.exit 0) (al,0,(I al:Int),(I al:Int),s)=g (-1))(k:Nat)(e:I al<k) :
  aT (λa=>vP a kx) k (al,0,(I al:Int),0,s)=g (dR al s):=by
 refine(gS (I al) (λi=>(al,0,(I al:Int),(i:Int),s)) (λi=>g (jh (al.drop i) s i)) (λi hi a d=>?_) (λa=>?_) k 0 (cp _) ag).trans xh
 .simp only[vP,ez hi,bY hi,cb (c:=.cO) hi,cV hi b,d,h1,dn hi,jh,Bool.cond_decide];split<;>rfl
 .simp only[vP,eG,h2];exact jz
theorem aku:aN 224 [cu,.str] [aq] OM:=.fin 0 aia λ(t,s) r aj a=>⟨I t.al+1,by simp only[OM,c4,Fl]at a;simp only[Y5];exact(arB (g:=J) aj.1.al.1 (λ_=>rfl) rfl _ ag).trans (congrArg J a)⟩
def Y_:bt:=⟨19,[(0,.sl .str ai),(4,.int .i64),(7,.int .i64),(8,.int .i64)],[(1,.fn 223 [.ptr 0 0])],[(0,.one (.aI .tbl))],80,80,400,[],[]⟩
abbrev DU:=U ar×Int×Int×Int×bU
def v7{R:Type}(a:DU->af R)(kx:bf->DU->af R)(v:DU):af R:=match v with|(v,v1,v2,aD,w)=>cond (aa (aD<v2)) (ax (aU aD (I v)) (cond (aa ((Fl w (at' .str v aD))<0)) (kx .ret (v,aD,v2,aD,w)) (a (v,v1,v2,(wr .i64 (aD+1)),w)))) (kx (.exit 0) (v,v1,v2,aD,w))
def ae5(R:Type)(kK:Nat):aM R:=bp [(224,bg OM)] [] [] []
noncomputable def Uf(R:Type)(k:Nat):aM R:=bp [(223,eY 120 600 (ae5 R k) Tryz.f223)] [] [(2,cq k Y_ (v7))] []
noncomputable def XP(R:Type)(k:Nat):aM R:=bp [(264,eY 80 400 (Uf R k) Tryz.f264)] [] [] []
noncomputable def aaW(R:Type)(k:Nat):aM R:=bp [(222,eY 40 200 (XP R k) Tryz.f222)] [] [] []
def Ya(k:Nat)(x:au [cu,eU]):af (au [.bool]):=match x with
 |(t,names)=>
 aT (λa=>v7 a (λe b=>match b with|(_,a',_,_,_)=>match e with
  |.ret=>
  J (!(aa (0<=a')))
  |.exit 0=>
  J ae
  |_=>ah)) k (names,0,(I names:Int),0,t)
theorem atM(k:Nat):aN 179 [cu,eU] [.bool] (Ya k):=bX (px:=aaW _ k) (n:=0) Tryz.func179 rfl (λab H=>by have h3:bT ab (ae5 (au [.bool]) k):=br H (c1 H aku bm) bo bq;have h2:bT ab (Uf (au [.bool]) k):=br H (dY (e8 H h3 Tryz.func223 rfl (n:=0) (aP)) bm) bo bq;have a:=cC H h2 (b:=b_ Tryz.f264 0) (k:=k) (n:=0) (s:=Y_) (step:=v7) (λ_ _ _ (_,_,_,_,_)=>by kernel_rfl) aP;have h1:bT ab (XP (au [.bool]) k):=br H (dY (e8 H h2 Tryz.func264 rfl (n:=1) (cm aP a)) bm) bo bq;have h0:bT ab (aaW (au [.bool]) k):=br H (dY (e8 H h1 Tryz.func222 rfl (n:=0) (aP)) bm) bo bq;exact⟨h0,aP⟩) λ(_,_)=>by kernel_rfl
def iN(t:bU)(names:U ar):Bool:=names.all λs=> !decide (dR t.al s<0)
def De:bb [cu,eU] [.bool]:=λx=>J (iN x.1 x.2)
variable{t:bU}
theorem aog{kx:bf->DU->af R}{l:U ar}{a b:af R}(e:b5 (I l))(h1:∀i:Nat,kx .ret (l,(i:Int),(I l:Int),(i:Int),t)=a)(h2:kx (.exit 0) (l,0,(I l:Int),(I l:Int),t)=b)(k:Nat)(g:I l<k) :
  aT (λd=>v7 d kx) k (l,0,(I l:Int),0,t)=cond (iN t l) b a:=by
 refine(gS (I l) (λi=>(l,0,(I l:Int),(i:Int),t)) (λi=>cond (iN t (l.drop i)) b a) (λi hi d f=>?_) (λd=>?_) k 0 (cp _) ag).trans iy
 .simp only[v7,ez hi,bY hi,cb (c:=.str) hi,cV hi e,f,h1,dn hi,iN,et,Fl];cases aa (dR t.al l[i]<0)<;>rfl
 .simp only[v7,eG,h2];exact jz
theorem abt:aN 179 [cu,eU] [.bool] De:=.fin 0 atM λ(t,l) r aj c=>⟨I l+1,by
 simp only[De,c4]at c;simp only[Ya];refine(aog (a:=J ai) (b:=J ae) aj.2.1 (λi=>?_) rfl _ ag).trans ?_
 .show J (!decide ((0:Int)<=(i:Int)))=J ai;rw[aY ag];rfl
 .rw[<-c];cases iN t l<;>rfl⟩
structure rZ {α:Type}(c : α->α->Int):Prop where
 vj:∀x y,c x y = -1\/c x y=0\/c x y=1
 eq:∀x y,c x y=0↔x=y
 si:∀x y,c y x = -(c x y)
 I5:∀x y z,c x y<=0->c y z<=0->c x z<=0
def jr(p q:Int):Int:=if p=0 then q else p
theorem Sf{p q:Int}(h:jr p q<=0):p<=0/\(p=0->q<=0):=by simp[jr]at h;split at h<;>omega
theorem Ng{β:Type}{c : α->α->Int}{d : β->β->Int}(an:rZ c){x y z : α}{u v w : β}(ao:d u v<=0->d v w<=0->d u w<=0)(h1:jr (c x y) (d u v)<=0)(h2:jr (c y z) (d v w)<=0):jr (c x z) (d u w)<=0:=by
 obtain⟨a1,a2⟩:=Sf h1;obtain⟨a,b⟩:=Sf h2;simp[jr];split
 .rename_i h0;have e:=(an.eq x z).1 h0;subst e;have f:=an.si x y
  grind
 .exact(an.I5 x y z a1 a)
def hW{α:Type}(c : α->α->Int):U α->U α->Int|[],[]=>0|[],_::_=> -1|_::_,[]=>1|x::a,y::b=>jr (c x y) (hW c a b)
theorem Sz{c : α->α->Int}(an:rZ c):rZ (hW c):=by
 refine⟨?_,?_,?_,?_⟩
 .intro x;induction x with
  |nil=>intro y;cases y<;>simp[hW]
  |cons x a d=>
   intro y;cases y with
   |nil=>simp[hW]
   |cons y b=>
    simp[hW,jr];split
    .exact d b
    .exact an.vj x y
 .intro x;induction x with
  |nil=>intro y;cases y<;>simp[hW]
  |cons x a d=>
   intro y;cases y with
   |nil=>simp[hW]
   |cons y b=>
    simp[hW,jr];split
    .rename_i h;rw[d b];exact⟨λe=>⟨(an.eq x y).1 h,e⟩,λe=>e.2⟩
    .rename_i h;exact⟨λe=>absurd e h,λe=>absurd ((an.eq x y).2 e.1) h⟩
 .intro x;induction x with
  |nil=>intro y;cases y<;>simp[hW]
  |cons x a d=>intro y;cases y with|nil=>simp[hW]|cons y b=>have h:=an.si x y;have aj:=d b;simp[hW,jr];split<;>split<;>omega
 .intro x;induction x with
  |nil=>intro y z _ _;cases z<;>simp[hW]
  |cons x a d=>
   intro y z h1 h2;cases y with
   |nil=>simp[hW]at h1
   |cons y b=>cases z with|nil=>simp[hW]at h2|cons z e=>exact Ng an (λp q=>d b e p q) h1 h2
theorem nQ:rZ gV:=by
 have e:∀x y,gV x y=if x<y then -1 else if y<x then 1 else 0:=λx y=>by simp[gV,Bool.cond_decide]
 refine⟨λx y=>?_,λx y=>?_,λx y=>?_,λx y z h1 h2=>?_⟩
 .grind
 .grind
 .grind
 .grind
def AE(a b:UInt8):Int:=gV (a.toNat:Int) (b.toNat:Int)
theorem atF:rZ AE:=by
 refine⟨λx y=>nQ.vj _ _,λx y=>?_,λx y=>nQ.si _ _,λx y z=>nQ.I5 _ _ _⟩;simp[AE];rw[nQ.eq];constructor
 .intro h;exact UInt8.toNat_inj.1 ag
 .intro h;rw[h]
theorem SO:∀a b:ar,eM a b=hW AE a b
 |[],[]=>rfl
 |[],_::_=>rfl
 |_::_,[]=>rfl
 |a::l,b::m=>by
  have c:=SO l m;simp[eM,Lib.compareBytes]at c ⊢;simp only[hW,jr,AE,gV,<-c];by_cases h1:a<b
  .have:(a.toNat:Int)<(b.toNat:Int):=by have:=UInt8.lt_iff_toNat_lt.1 h1;omega
   simp[h1,this]
  .by_cases h2:b<a
   .have h3:¬(a.toNat:Int)<(b.toNat:Int):=aeD
    have h4:(b.toNat:Int)<(a.toNat:Int):=aeD
    simp[h1,h2,h3,h4]
   .have h3:a=b:=UInt8.le_antisymm (UInt8.not_lt.1 h2) (UInt8.not_lt.1 h1);subst h3;simp
theorem mB:rZ eM:=by
 have e:(eM:ar->ar->Int)=hW AE:=by funext a b;exact SO a b
 rw[e];exact Sz atF
theorem Bk(a b:aH):g_ a b=jr (gV a.kind b.kind) (jr (gV a.n b.n) (eM a.s b.s)):=by
 simp only[g_,o2,jr];by_cases h1:gV a.kind b.kind=0
 .rw[aY h1,if_pos h1];by_cases h2:gV a.n b.n=0
  .rw[aY h2,if_pos h2];rfl
  .rw[bl h2,if_neg h2];rfl
 .rw[bl h1,if_neg h1];rfl
theorem CK:rZ g_:=by
 refine⟨λx y=>?_,λx y=>?_,λx y=>?_,λx y z h1 h2=>?_⟩
 .rw[Bk];simp only[jr];split
  .split
   .exact mB.vj _ _
   .exact nQ.vj _ _
  .exact nQ.vj _ _
 .rw[Bk];have a:=nQ.eq x.kind y.kind;have aS:=nQ.eq x.n y.n;have b:=mB.eq x.s y.s;obtain⟨k,n,s⟩:=x;obtain⟨c,e,s'⟩:=y;simp only[jr,aH.mk.injEq]at *;split
  .split
   .rename_i h1 h2;rw[b,a.1 h1,aS.1 h2];simp
   .rename_i h1 h2;exact⟨λh=>absurd h h2,λh=>absurd (aS.2 h.2.1) h2⟩
  .rename_i h1;exact⟨λh=>absurd h h1,λh=>absurd (a.2 h.1) h1⟩
 .rw[Bk,Bk];have a:=nQ.si x.kind y.kind;have aS:=nQ.si x.n y.n;have b:=mB.si x.s y.s;simp only[jr];split<;>split<;>(try split)<;>(try split)<;>omega
 .rw[Bk]at h1 h2 ⊢;refine Ng (d:=λ(p q:Int×ar)=>jr (gV p.1 q.1) (eM p.2 q.2)) (u:=(x.n,x.s)) (v:=(y.n,y.s)) (w:=(z.n,z.s)) nQ ?_ h1 h2;intro h3 h4;exact Ng (d:=eM) nQ (λp q=>mB.I5 _ _ _ p q) h3 h4
theorem I7:rZ (hW g_):=Sz CK
def gm(a b:ar):Bool:=aa (eM a b<0)
theorem abc(a:ar):gm a a=false:=by have:=(mB.eq a a).2 rfl;simp[gm,this]
variable{a:ar}
theorem OJ{b c:ar}(h1:gm a b=ae)(h2:gm b c=ae):gm a c=true:=by
 simp[gm]at *;rcases Int.lt_or_eq_of_le (mB.I5 a b c ag ag)with h|h
 .exact h
 .have e:=(mB.eq a c).1 h;subst e;have:=mB.si a b;omega
theorem alI(a b:ar):gm a b=ae\/a=b\/gm b a=true:=by
 simp[gm];rcases mB.vj a b with h|h|h
 .left;omega
 .exact .inr (.inl ((mB.eq a b).1 h))
 .right;have:=mB.si a b;omega
theorem Da{b:ar}(h:gm a b=ae):a≠b:=λe=>by rw[e,abc]at h;cases h
def fN:U c3->Bool|[]=>ae|x::l=>l.all (λy=>gm x.name y.name)&&fN l
def j1(l:U c3)(x:c3):U c3:=l.takeWhile (λy=>gm y.name x.name)++x::l.dropWhile (λy=>gm y.name x.name)
def kI(l:U c3)(s:ar):Bool:=l.any λy=>aa (y.name=s)
def gh(l:U c3)(s:ar):Nat:=I (l.takeWhile λy=>gm y.name s)
theorem acp(l:U c3)(s:ar):gh l s<=I l:=by
 induction l with
 |nil=>simp[gh]
 |cons x l a=>
  simp[gh,List.takeWhile_cons]at a ⊢;split
  .simp;omega
  .simp
theorem DM:∀{l:U c3}{s:ar},fN l=ae->∀(h:Nat) (a:h<I l),gm l[h].name s=aa (h<gh l s)
 |[],_,_,h,a=>by simp at a
 |x::l,s,cG,h,a=>by
  simp[fN,cX]at cG;have e:=DM (l:=l) (s:=s) cG.2;have c:gh (x::l) s=if gm x.name s then gh l s+1 else 0:=by simp[gh,List.takeWhile_cons];split<;>simp
  rw[c];cases b:gm x.name s with
  |true=>grind
  |false=>
   cases h with
   |zero=>simpa using b
   |succ h=>simp;cases d:gm (l[h]' n2).name s with|false=>rfl|true=>rw[OJ (cG.1 _ (fo _)) d]at b;cases b
theorem Hs:∀{l:U c3},fN l=ae->∀(i j:Nat) (hi:i<I l) (a:j<I l),i<j->gm l[i].name l[j].name=ae
 |[],_,i,j,hi,_,_=>by simp at hi
 |x::l,cG,i,j,hi,a,aze=>by
  simp[fN,cX]at cG;cases j with
  |zero=>omega
  |succ j=>cases i with|zero=>grind|succ i=>exact Hs cG.2 i j (by simpa using hi) n2 ag
theorem aaB{l:U c3}:kI l s=ae↔∃y,y∈l/\y.name=s:=by simp[kI]
theorem acR{l:U c3}(b:fN l=ae):kI l s=ae↔∃h:gh l s<I l,l[gh l s].name=s:=by
 rw[aaB];constructor
 .rintro⟨y,f,e⟩;obtain⟨k,d,rfl⟩:=List.getElem_of_mem f;have h1:=DM (s:=s) b k d;rw[e,abc]at h1;have c:¬k<gh l s:=λh=>by rw[aY h]at h1;cases h1
  have a:gh l s<I l:=ag
  refine⟨a,?_⟩;rcases Nat.lt_or_eq_of_le (Nat.le_of_not_lt c)with h|h
  .have h2:=Hs b _ k a d h;rw[e]at h2;have h3:=DM (s:=s) b _ a;rw[h2]at h3;simp at h3
  .subst h;exact e
 .grind
theorem arU(l:U c3)(s:ar):l.take (gh l s)=l.takeWhile (λy=>gm y.name s):=by have:=List.takeWhile_append_dropWhile (p:=λy:c3=>gm y.name s) (l:=l);have h2:(l.takeWhile (λy=>gm y.name s)++l.dropWhile (λy=>gm y.name s)).take (gh l s)=l.takeWhile (λy=>gm y.name s):=List.take_left' rfl;rwa[this]at h2
theorem asp(l:U c3)(s:ar):l.drop (gh l s)=l.dropWhile (λy=>gm y.name s):=by have:=List.takeWhile_append_dropWhile (p:=λy:c3=>gm y.name s) (l:=l);have h2:(l.takeWhile (λy=>gm y.name s)++l.dropWhile (λy=>gm y.name s)).drop (gh l s)=l.dropWhile (λy=>gm y.name s):=List.drop_left' rfl;rwa[this]at h2
theorem MH(l:U c3)(x:c3):j1 l x=l.take (gh l x.name)++x::l.drop (gh l x.name):=by rw[arU,asp,j1]
variable{x:c3}{y:c3}
theorem acj{l:U c3}:y∈j1 l x↔y=x\/y∈l:=by
 rw[MH];have:y∈l↔y∈l.take (gh l x.name)\/y∈l.drop (gh l x.name):=by rw[<-fM,List.take_append_drop]
 constructor
 .grind
 .grind
theorem aa0(l:U c3)(x:c3):I (j1 l x)=I l+1:=by rw[MH];simp[ iu];omega
theorem KK:∀{l:U c3}{x:c3},fN l=ae->kI l x.name=ai->fN (j1 l x)=ae
 |[],x,_,_=>by simp[j1,fN]
 |y::l,x,cG,cf=>by
  have a:=cG;simp[fN,cX]at a;simp only[kI,List.any_cons,Bool.or_eq_false_iff,decide_eq_false_iff_not]at cf;have f:=KK (l:=l) (x:=x) a.2 cf.2;cases c:gm y.name x.name with
  |true=>
   have e:j1 (y::l) x=y::j1 l x:=by simp[j1,c]
   rw[e];simp[fN,cX];refine⟨λz b=>?_,f⟩;rcases acj.1 b with rfl|b
   .exact c
   .exact a.1 z b
  |false=>
   have e:j1 (y::l) x=x::y::l:=by simp[j1,c]
   have d:gm x.name y.name=true:=by
    rcases alI x.name y.name with h|h|h
    .exact h
    .exact absurd h.symm cf.1
    .rw[h]at c;cases c
   rw[e];simp only[fN,bx,cX];refine⟨λz b=>?_,a⟩;rcases ek.1 b with rfl|b
   .exact d
   .exact OJ d (a.1 z b)
theorem aau:∀{l:U c3}{x:c3},(∀y,y∈l->gm y.name x.name=ae)->j1 l x=l++[x]
 |[],x,_=>rfl
 |y::l,x,h=>by
  have e:j1 (y::l) x=y::j1 l x:=by simp[j1,(h y (by simp))]
  rw[e,aau λz a=>h z rH];rfl
theorem ae3:∀{p q:U c3},fN (p++q)=ae->fN p=ae/\∀y z,y∈p->z∈q->gm y.name z.name=ae
 |[],_,_=>⟨rfl,λ_ _ h=>by cases h⟩
 |x::p,q,h=>by
  simp only[gY,fN,bx,cX,fM]at h;obtain⟨h1,h2⟩:=ae3 h.2;refine⟨?_,λy z a b=>?_⟩
  .simp[fN,cX];exact⟨λy a=>h.1 y (.inl a),h1⟩
  .rcases ek.1 a with rfl|a
   .exact h.1 z (.inr b)
   .exact h2 y z a b
def gM:bU:=⟨[],[],[],[],[]⟩
def AI(al:U cW)(e:bh):Int:=cond (aa ((h9 e al).2=0)) (cond (aa ((h9 e al).1=2)||decide ((h9 e al).1=1)) 0 151) (h9 e al).2
def kh(al:U cW):U bh->Int|[]=>0|e::l=>cond (aa (AI al e=0)) (kh al l) (AI al e)
def vH(s:b4):Bool:=aa (I s.al<=2000000)&&(aa (I s.b8<=2000000)&&(aa (I s.names<=2000000)&&(aa (I s.l<=2000000)&&s.l.all λe=>aa (di e<=2000000))))
def k6(s:b4):bU×Int:=cond (aa (s.kind=1)&&fX s) (cond (iN ⟨s.name,s.al,s.names,[],[]⟩ s.names) (cond (aa (kh s.al s.l=0)) (⟨s.name,s.al,s.names,s.l,[]⟩,0) (gM,kh s.al s.l)) (gM,150)) (gM,2)
def WY:bt:=⟨70,[(3,.int .i64),(34,.sl .expr ai),(35,.int .i64),(36,.int .i64)],[(2,.ptr 1 0),(4,.ptr 2 0)],[(1,.cells [.str,.sl .cO ae,.sl .str ae,.sl .expr ae,.sl .idx ae]),(2,.cells [.str,dJ,eU,.sl .expr ae,.sl .idx ae])],3,0,0,[],[]⟩
abbrev H6:=Int×U bh×Int×Int×ar×U cW×U ar×U bh×U c3×ar×U cW×U ar×U bh×U c3
def yO{R:Type}(a:H6->af R)(kx:bf->H6->af R)(v:H6):af R:=match v with
 |(v,v1,v2,aD,w,w1,w2,w3,c9,c7,dC,dO,dX,fy)=>
 cond (aa (aD<v2)) (
  ax (aU aD (I v1)) (
  let j:=λ(b:Int)=>
   cond (!decide (b=0)) (
   kx .ret (b,v1,v2,aD,[],[],[],[],[],c7,dC,dO,dX,fy)) (
   (Aj (at' .expr v1 aD)).bind λc=>
    ax (aa (I dX+1<=bJ)) (
    a (v,v1,v2,(wr .i64 (aD+1)),w,w1,w2,w3,c9,c7,dC,dO,(dX++[c]),fy)))
  cond (aa ((h9 (at' .expr v1 aD) dC).2=0)) (
   cond (!decide ((h9 (at' .expr v1 aD) dC).1=2)) (
   cond (!decide ((h9 (at' .expr v1 aD) dC).1=1)) (
    j 151) (
    j ((h9 (at' .expr v1 aD) dC).2))) (
   j ((h9 (at' .expr v1 aD) dC).2))) (
   j ((h9 (at' .expr v1 aD) dC).2)))) (
  kx (.exit 0) (v,v1,v2,aD,w,w1,w2,w3,c9,c7,dC,dO,dX,fy))
def Ss(R:Type)(k:Nat):aM R:=bp [(176,bg DC),(179,bg De),(180,bg aa3)] [(177,fa Vf),(178,fa KG),(181,fa MX)] [(7,cq k WY (yO))] []
def Ws(k:Nat)(x:au [dQ]):af (au [cu,aq]):=match x with
 |s=>
 cond (!decide (s.kind=1)) (
  J ((bU.mk [] [] [] [] []),2)) (
  (vJ s).bind λx=>
  cond (!decide (x=0)) (
   J ((bU.mk [] [] [] [] []),2)) (
   (M8 s.al).bind λn=>
   (xN s.names).bind λj=>
    cond (!(iN (bU.mk s.name n j [] []) j)) (
    J ((bU.mk [] [] [] [] []),150)) (
    aT (λm=>yO m (λe o=>match o with|(v4,_,_,_,b6,cw,a,b,c,d,f,g,h,i)=>match e with
     |.ret=>
     J ((bU.mk b6 cw a b c),v4)
     |.exit 0=>
     J ((bU.mk d f g h i),0)
     |_=>ah)) k (0,s.l,(I s.l:Int),0,[],[],[],[],[],s.name,n,j,[],[]))))
theorem aqG(k:Nat):aN 129 [dQ] [cu,aq] (Ws k):=bX (px:=Ss _ k) (n:=1) Tryz.func129 rfl (λab H=>by have h0:bT ab (Ss (au [cu,aq]) k):=br H (c1 H X6 (c1 H abt (c1 H auC bm))) (bd H ag3 (bd H Ui (bd H aq2 bo))) bq;have a:=cC H h0 (b:=b_ Tryz.f129 0) (k:=k) (n:=0) (s:=WY) (step:=yO) (λ_ _ _ (_,_,_,_,_,_,_,_,_,_,_,_,_,_)=>by kernel_rfl) aP;exact⟨h0,(cm aP a)⟩) λ_=>by kernel_rfl
def AG(s:b4):af (bU×Int):=cond (vH s) (J (k6 s)) ah
def Je:bb [dQ] [cu,aq]:=λx=>AG x
theorem amy{kx:bf->H6->af R}{names:U ar}{l:U bh}{b:af R}(o:I l<=2000000)(f:l.all (λe=>aa (di e<=2000000))=ae)(h1:∀(p:Int) (i:Nat) (acc:U bh),kx .ret (p,l,(I l:Int),(i:Int),[],[],[],[],[],c',al,names,acc,[])=g p)(h2:kx (.exit 0) (0,l,(I l:Int),(I l:Int),[],[],[],[],[],c',al,names,l,[])=b)(k:Nat)(q:I l<k) :
  aT (λa=>yO a kx) k (0,l,(I l:Int),0,[],[],[],[],[],c',al,names,[],[])=cond (aa (kh al l=0)) b (g (kh al l)):=by
 have h:b5 (I l):=mK
 refine(gS (I l) (λi=>(0,l,(I l:Int),(i:Int),[],[],[],[],[],c',al,names,l.take i,[])) (λi=>cond (aa (kh al (l.drop i)=0)) b (g (kh al (l.drop i)))) (λi hi a j=>?_) (λa=>?_) k 0 (cp _) ag).trans iy
 .have m:l.take (i+1)=l.take i++[l[i]]:=by rw[List.take_add_one,ho hi];rfl
  have d:aa (I (l.take i)+1<=bJ)=true:=aY (by simp[ bJ];omega);have an:Aj l[i]=J l[i]:=by have:=cX.1 f _ (fo hi);simp[Aj,this]
  rw[m]at j;simp only[yO,ez hi,bY hi,ax,cb (c:=.expr) hi,cV hi h,h1,dn hi,kh,AI];by_cases n:(h9 l[i] al).2=0
  .grind
  .simp[n]
 .simp only[yO,eG,h2,List.take_length];exact jz
theorem apq{s:b4}(h:vH s=ae):I s.al<=2000000/\I s.b8<=2000000/\I s.names<=2000000/\I s.l<=2000000/\s.l.all (λe=>aa (di e<=2000000))=true:=by simp only[vH,bx,dM]at h;exact h
theorem ase:aN 129 [dQ] [cu,aq] Je:=.fin 0 aqG λs r aj a=>⟨I s.l+1,by
 simp only[Je,AG]at a;cases c:vH s with
 |false=>rw[c]at a;cases a
 |true=>
  rw[c]at a;simp only[a8,c4]at a;rw[<-a];obtain⟨bd,d,e,f,h⟩:=apq c;have i:vJ s=J (cond (fX s) 0 2):=if_pos ⟨bd,d⟩;simp only[Ws,i,bZ,M8,xN,aY bd,aY e,a8,k6];cases aa (s.kind=1)with
  |false=>rfl
  |true=>
   cases fX s with
   |false=>rfl
   |true=>
    simp only[dj,a_,a8,Bool.and_self,decide_true];cases iN ⟨s.name,s.al,s.names,[],[]⟩ s.names with
    |false=>rfl
    |true=>simp only[dj,a_,a8];refine(amy (g:=λp=>J (gM,p)) (b:=J (⟨s.name,s.al,s.names,s.l,[]⟩,0)) f h (λ_ _ _=>rfl) rfl _ ag).trans ?_;cases aa (kh s.al s.l=0)<;>rfl⟩
def arY(R:Type):aM R:=bp [] [] [] []
def KT(x:au [cu]):af (au [dQ]):=match x with|t=>J (b4.mk 1 t.name [] t.al t.key t.e9 [] [] ai (bh.mk 0 ⟨0,0,[]⟩ [] []) [] [] 0)
theorem aoW:aN 130 [cu] [dQ] (KT):=bX (px:=arY _) (n:=0) Tryz.func130 rfl (λ_ H=>⟨br H bm bo bq,aP⟩) λ_=>by kernel_rfl
def iM(t:bU):b4:=(b4.mk 1 t.name [] t.al t.key t.e9 [] [] ai (bh.mk 0 ⟨0,0,[]⟩ [] []) [] [] 0)
theorem aqS(x:au [cu]):KT x=J (iM x):=by
 first
  |exact rfl
  |simp only[KT,iM,fA]
def abr:bb [cu] [dQ]:=λx=>J (iM x)
theorem asc:aN 130 [cu] [dQ] abr:=.de aoW λx _ _ a=>(aqS x).trans a
def aq0(R:Type):aM R:=bp [] [] [] []
def Qg(x:au [cu,.aI .idx]):af (au [dQ]):=match x with|(t,x)=>J (b4.mk 3 x.name t.name [] x.al [] [] [] ai (bh.mk 0 ⟨0,0,[]⟩ [] []) [] [] 0)
theorem ang:aN 132 [cu,.aI .idx] [dQ] (Qg):=bX (px:=aq0 _) (n:=0) Tryz.func132 rfl (λ_ H=>⟨br H bm bo bq,aP⟩) λ(_,_)=>by kernel_rfl
def gT(t:bU)(x:c3):b4:=(b4.mk 3 x.name t.name [] x.al [] [] [] ai (bh.mk 0 ⟨0,0,[]⟩ [] []) [] [] 0)
theorem anT(x:au [cu,.aI .idx]):Qg x=J (gT x.1 x.2):=by
 first
  |exact rfl
  |simp only[Qg,gT,fA]
def Td:bb [cu,.aI .idx] [dQ]:=λx=>J (gT x.1 x.2)
theorem aqT:aN 132 [cu,.aI .idx] [dQ] Td:=.de ang λx _ _ a=>(anT x).trans a
def amK(R:Type):aM R:=bp [(93,bg Ll)] [] [] []
def PZ(x:au [.aI .idx,.str]):af (au [aq]):=match x with|(x,name)=>J (o2 x.name name)
theorem amg:aN 183 [.aI .idx,.str] [aq] (PZ):=bX (px:=amK _) (n:=0) Tryz.func183 rfl (λ_ H=>⟨br H (c1 H T6 bm) bo bq,aP⟩) λ(_,_)=>by kernel_rfl
def r0(x:c3)(name:ar):Int:=(o2 x.name name)
theorem amo(x:au [.aI .idx,.str]):PZ x=J (r0 x.1 x.2):=by
 first
  |exact rfl
  |simp only[PZ,r0,fA]
def XC:bb [.aI .idx,.str] [aq]:=λx=>J (r0 x.1 x.2)
theorem amF:aN 183 [.aI .idx,.str] [aq] XC:=.de amg λx _ _ a=>(amo x).trans a
def WV:bt:=⟨49,[(0,.sl .idx ai),(1,.str),(8,.int .i64),(9,.int .i64),(10,.int .i64)],[(2,.fn 183 [])],[(0,.one (.aI .tbl)),(1,.one (.aI .stmt)),(2,.one (.aI .tbl))],40,40,200,[],[]⟩
abbrev Ib:=U c3×ar×Int×Int×Int×bU×b4×bU
def yY{R:Type}(a:Ib->af R)(kx:bf->Ib->af R)(v:Ib):af R:=match v with|(v,v1,v2,aD,v4,w,w1,w2)=>cond (aa (aD<v4)) (ax (aU (wr .i64 (cK .u64 (wr .u64 (wr .i64 (aD+v4))) 1)) (I v)) (cond (aa ((r0 (at' .idx v (wr .i64 (cK .u64 (wr .u64 (wr .i64 (aD+v4))) 1))) v1)<0)) (a (v,v1,v2,(wr .i64 ((wr .i64 (cK .u64 (wr .u64 (wr .i64 (aD+v4))) 1))+1)),v4,w,w1,w2)) (a (v,v1,v2,aD,(wr .i64 (cK .u64 (wr .u64 (wr .i64 (aD+v4))) 1)),w,w1,w2)))) (kx (.exit 0) (v,v1,v2,aD,v4,w,w1,w2))
def V4(R:Type)(k:Nat):aM R:=bp [(183,bg XC)] [] [(3,cq k WV (yY))] []
noncomputable def S2(R:Type)(k:Nat):aM R:=bp [(176,bg DC),(179,bg De),(184,E5),(182,eY 40 200 (V4 R k) Tryz.f182)] [(178,fa KG)] [] [(185,EN .idx)]
def VC(k:Nat)(x:au [cu,dQ]):af (au [cu,aq]):=match x with
 |(t,s)=>
 cond (!decide (s.kind=3)) (
  J ((bU.mk [] [] [] [] []),2)) (
  (vJ s).bind λx=>
  cond (!decide (x=0)) (
   J ((bU.mk [] [] [] [] []),2)) (
   cond (!decide (s.on=t.name)) (
   J ((bU.mk [] [] [] [] []),2)) (
   aT (λf=>yY f (λe g=>match g with|(a',v6,bA,d,_,a,b,_)=>match e with
    |.exit 0=>
    let j:=λ(c:Bool)=>
     cond (c) (
     J ((bU.mk [] [] [] [] []),160)) (
     cond (aa (100<=(I a.idx:Int))) (
      J ((bU.mk [] [] [] [] []),3)) (
      cond (!(iN a b.names)) (
      J ((bU.mk [] [] [] [] []),150)) (
      ax (aa (I a.idx<=2000000)) (
       cond (List.isEmpty a.idx) (
       (xN b.names).bind λh=>
        ax (aa (d=0)) (
        J ((bU.mk a.name a.al a.key a.e9 [(c3.mk b.name h)]),0))) (
       (xN b.names).bind λi=>
        ax (aa ((0:Int)=0)&&aa ((0:Int)<(I a.idx:Int))&&aa ((I a.idx:Int)=(I a.idx:Int))&&aa ((0:Int)<=d)&&aa (d<=(I a.idx:Int))&&aa ((I a.idx:Int)<=(2000000:Int))) (
        J ((bU.mk a.name a.al a.key a.e9 (List.take (d:Int).toNat a.idx++(c3.mk b.name i)::List.drop (d:Int).toNat a.idx)),0)))))))
    cond (aa (d<bA)) (
     ax (aU d (I a')) (
     j (aa ((r0 (at' .idx a' d) v6)=0)))) (
     j ai)
    |_=>ah)) k (t.idx,s.name,(I t.idx:Int),0,(I t.idx:Int),t,s,(bU.mk [] [] [] [] [])))))
theorem aps(k:Nat):aN 131 [cu,dQ] [cu,aq] (VC k):=bX (px:=S2 _ k) (n:=0) Tryz.func131 rfl (λab H=>by have h1:bT ab (V4 (au [cu,aq]) k):=br H (c1 H amF bm) bo bq;have a:=cC H h1 (b:=b_ Tryz.f182 0) (k:=k) (n:=0) (s:=WV) (step:=yY) (λ_ _ _ (_,_,_,_,_,_,_,_)=>by kernel_rfl) aP;have h0:bT ab (S2 (au [cu,aq]) k):=br H (c1 H X6 (c1 H abt (dY (awB H al0) (dY (e8 H h1 Tryz.func182 rfl (n:=1) (cm aP a)) bm)))) (bd H Ui bo) (Y' (awe H ag6 agN) bq);exact⟨h0,aP⟩) λ(_,_)=>by kernel_rfl
def zB(t:bU)(s:b4):bU×Int:=cond (aa (s.kind=3)&&(fX s&&aa (s.on=t.name))) (cond (kI t.idx s.name) (gM,160) (cond (aa (100<=I t.idx)) (gM,3) (cond (iN t s.names) ({ t with idx:=j1 t.idx ⟨s.name,s.names⟩ },0) (gM,150)))) (gM,2)
def Ax(t:bU)(s:b4):Bool:=aa (I s.al<=2000000)&&(aa (I s.b8<=2000000)&&(aa (I s.names<=2000000)&&(aa (I t.idx<=2000000)&&fN t.idx)))
def zu(t:bU)(s:b4):af (bU×Int):=cond (Ax t s) (J (zB t s)) ah
def Kd:bb [cu,dQ] [cu,aq]:=λx=>zu x.1 x.2
theorem awt{n:Nat}(h:n<=4000000):wr .u64 (n:Int)=(n:Int):=by
 have e:wr .u64 (n:Int)=(n:Int) % 18446744073709551616:=tx
 omega
theorem au6{a:Int}:cK .u64 a 1=a / 2:=by show a.fdiv (2 ^ min (1:Int).toNat b'.u64.bits)=_;rw[show(2:Int) ^ min (1:Int).toNat b'.u64.bits=2 from by decide];exact Int.fdiv_eq_ediv_of_nonneg _ ag
theorem aki{a b:Nat}(h:a+b<=4000000):wr .i64 (cK .u64 (wr .u64 (wr .i64 ((a:Int)+(b:Int)))) 1)=(((a+b) / 2:Nat):Int):=by rw[show(a:Int)+(b:Int)=((a+b:Nat):Int) by omega,adm mK,awt h,au6,show((a+b:Nat):Int) / 2=(((a+b) / 2:Nat):Int) by omega,adm mK]
theorem Lo{R:Type}{kx:bf->Ib->af R}{l:U c3}{c':ar}{t t2:bU}{s:b4}{c:af R}(a:fN l=ae)(d:I l<=2000000)(h2:kx (.exit 0) (l,c',(I l:Int),(gh l c':Int),(gh l c':Int),t,s,t2)=c):∀(k lo hi:Nat),lo<=gh l c'->gh l c'<=hi->hi<=I l->hi-lo<k ->
  aT (λb=>yY b kx) k (l,c',(I l:Int),(lo:Int),(hi:Int),t,s,t2)=c
 |0,lo,hi,_,_,_,h=>by omega
 |k+1,lo,hi,h3,h4,h5,h=>by
  rw[cQ];by_cases e:lo<hi
  .have hm:(lo+hi) / 2<I l:=ag
   have f:=DM (s:=c') a _ hm;have aj:aa (r0 l[(lo+hi) / 2] c'<0)=aa ((lo+hi) / 2<gh l c'):=f;have g:=Lo a d h2 k ((lo+hi) / 2+1) hi;have i:=Lo a d h2 k lo ((lo+hi) / 2);simp only[yY,aki (show lo+hi<=4000000 by omega),bY hm,ax,cb (c:=.idx) hm,cV hm (show b5 (I l) by simp[b5];omega)];by_cases m:(lo+hi) / 2<gh l c'
   .grind
   .grind
  .have j:lo=gh l c':=ag
   have aS:hi=gh l c':=ag
   simp only[yY,bl (show ¬(lo:Int)<(hi:Int) by omega)];rw[j,aS];exact h2
theorem auy{l:U c3}(b:fN l=ae){A B:af R}:(cond (aa ((gh l c':Int)<(I l:Int))) (ax (aU (gh l c':Int) (I l)) (cond (aa (r0 (at' .idx l (gh l c':Int)) c'=0)) A B)) B)=cond (kI l c') A B:=by
 by_cases a:gh l c'<I l
 .rw[aY (show(gh l c':Int)<(I l:Int) by omega)];simp[ bY a,ax,cb (c:=.idx) a];have e:aa (r0 l[gh l c'] c'=0)=kI l c':=by
   rw[Bool.eq_iff_iff,acR b,dM];constructor
   .intro h;exact⟨a,(mB.eq _ _).1 h⟩
   .rintro⟨_,h⟩;exact(mB.eq _ _).2 h
  rw[e]
 .rw[bl (show ¬(gh l c':Int)<(I l:Int) by omega)];have e:kI l c'=false:=by cases h:kI l c' with|false=>rfl|true=>exact absurd ((acR b).1 h).1 a
  rw[e];rfl
theorem ao8{s:b4}(h:Ax t s=ae):I s.al<=2000000/\I s.b8<=2000000/\I s.names<=2000000/\I t.idx<=2000000/\fN t.idx=true:=by simp[Ax]at h;exact h
theorem aiV:aN 131 [cu,dQ] [cu,aq] Kd:=.fin 0 aps λ(t,s) r aj b=>⟨I t.idx+1,by
 simp only[Kd,zu]at b;cases e:Ax t s with
 |false=>rw[e]at b;cases b
 |true=>
  rw[e]at b;simp only[a8,c4]at b;rw[<-b];obtain⟨bd,j,k,g,h⟩:=ao8 e;have m:vJ s=J (cond (fX s) 0 2):=if_pos ⟨bd,j⟩;simp only[VC,m,bZ,xN,zB];cases aa (s.kind=3)with
  |false=>rfl
  |true=>
   cases fX s with
   |false=>rfl
   |true=>
    cases aa (s.on=t.name)with
    |false=>rfl
    |true=>
     simp only[dj,a_,a8,Bool.and_self,decide_true];refine(Lo (c:=J (cond (kI t.idx s.name) (gM,160) (cond (aa (100<=I t.idx)) (gM,3) (cond (iN t s.names) ({ t with idx:=j1 t.idx ⟨s.name,s.names⟩ },0) (gM,150))))) h g ?_ _ 0 (I t.idx) (cp _) (acp _ _) (b2 _) ag).trans rfl;have hle:=acp t.idx s.name;simp only;rw[auy h];cases kI t.idx s.name with
     |true=>rfl
     |false=>
      have d:aa ((100:Int)<=(I t.idx:Int))=aa (100<=I t.idx):=hH.2 ag;simp only[a_,d];cases aa (100<=I t.idx)with
      |true=>rfl
      |false=>
       simp only[a_];cases iN t s.names with
       |false=>rfl
       |true=>
        simp only[dj,a_,a8,ax,aY g];simp only[aY k,a8,bZ];cases f:t.idx.isEmpty with
        |true=>have h0:t.idx=[]:=List.isEmpty_iff.1 f;simp only[a8,h0];rfl
        |false=>
         have i : 0<I t.idx:=by cases h0:t.idx with|nil=>rw[h0]at f;cases f|cons x l=>simp only[dm];omega
         simp only[a_,MH,Int.toNat_natCast];have a:aa ((0:Int)<(I t.idx:Int))=ae/\aa ((0:Int)<=(gh t.idx s.name:Int))=ae/\aa ((gh t.idx s.name:Int)<=(I t.idx:Int))=ae/\aa ((I t.idx:Int)<=2000000)=true:=by simp only[dM];omega
         simp only[a.1,a.2.1,a.2.2.1,a.2.2.2,Bool.and_self,a8]⟩
def ae4:bt:=⟨58,[(3,.bool),(39,.sl .idx ai),(40,.int .i64),(41,.int .i64)],[(1,.ptr 0 0),(2,.ptr 1 0),(4,.ptr 2 0)],[(0,.one (.aI .tbl)),(1,.one (.aI .tbl)),(2,.one (.aI .tbl))],3,0,0,[],[]⟩
abbrev GM:=Bool×U c3×Int×Int×bU×bU×bU
def xp{R:Type}(e:GM->af R)(kx:bf->GM->af R)(v:GM):af R:=match v with|(d,b,c,a,w3,c9,c7)=>cond (aa (a<c)) (ax (aU a (I b)) (ax (aU a (I w3.idx)) (cond (!decide (((at' .idx b a).name)=((at' .idx w3.idx a).name))) (kx .ret (ai,b,c,a,w3,(bU.mk [] [] [] [] []),c7)) (e (d,b,c,(wr .i64 (a+1)),w3,c9,c7))))) (kx (.exit 2) (d,b,c,a,w3,c9,c7))
def ae1:bt:=⟨58,[(3,.bool),(20,.sl .idx ai),(21,.int .i64),(22,.int .i64)],[(1,.ptr 0 0),(2,.ptr 1 0),(4,.ptr 2 0)],[(0,.one (.aI .tbl)),(1,.one (.aI .tbl)),(2,.one (.aI .tbl))],3,0,0,[],[]⟩
abbrev GI:=Bool×U c3×Int×Int×bU×bU×bU
def xl{R:Type}(a:GI->af R)(kx:bf->GI->af R)(v:GI):af R:=match v with|(v,v1,v2,aD,w,w1,w2)=>cond (aa (aD<v2)) (ax (aU aD (I v1)) ((zu w2 (gT w (at' .idx v1 aD))).bind λ(b,c)=>cond (!decide (c=0)) (kx .ret (ai,v1,v2,aD,w,(bU.mk [] [] [] [] []),b)) (a (v,v1,v2,(wr .i64 (aD+1)),w,w1,b)))) (kx (.exit 0) (v,v1,v2,aD,w,w1,w2))
def TW(R:Type)(k:Nat):aM R:=bp [(130,bg abr),(129,bg Je)] [(132,fa Td),(131,fa Kd)] [(5,cq k ae1 (xl)),(12,cq k ae4 (xp))] []
def ae8(k:Nat)(x:au [cu]):af (au [cu,.bool]):=match x with
 |t=>
 (AG (iM t)).bind λ(x,h)=>
  cond (!decide (h=0)) (
  J ((bU.mk [] [] [] [] []),ai)) (
  aT (λf=>xl f (λe g=>match g with|(v4,_,_,_,b6,cw,a)=>match e with
   |.ret=>
   J (cw,v4)
   |.exit 0=>
   aT (λf=>xp f (λe g=>match g with|(b,_,_,_,_,c,d)=>match e with
    |.ret=>
    J (c,b)
    |.exit 2=>
    J (d,ae)
    |_=>ah)) k (v4,a.idx,(I a.idx:Int),0,b6,cw,a)
   |_=>ah)) k (ai,t.idx,(I t.idx:Int),0,t,(bU.mk [] [] [] [] []),x))
theorem agK(k:Nat):aN 86 [cu] [cu,.bool] (ae8 k):=bX (px:=TW _ k) (n:=2) Tryz.func86 rfl (λab H=>by have h0:bT ab (TW (au [cu,.bool]) k):=br H (c1 H asc (c1 H ase bm)) (bd H aqT (bd H aiV bo)) bq;have a:=cC H h0 (b:=b_ Tryz.f86 0) (k:=k) (n:=0) (s:=ae1) (step:=xl) (λ_ _ _ (_,_,_,_,_,_,_)=>by kernel_rfl) aP;have c:=cC H h0 (b:=b_ Tryz.f86 1) (k:=k) (n:=0) (s:=ae4) (step:=xp) (λ_ _ _ (_,_,_,_,_,_,_)=>by kernel_rfl) aP;exact⟨h0,(cm (cm aP a) c)⟩) λ_=>by kernel_rfl
def k5(t:bU)(x:c3):Bool:=fX (gT t x)&&iN t x.al
def nM(t:bU):U c3->U c3->af (U c3)|acc,[]=>J acc|acc,x::l=>cond (k5 t x&&(!kI acc x.name&&aa (I acc<100))) (nM t (j1 acc x) l) ah
def hT(t:bU):Bool:=aa ((k6 (iM t)).2=0)&&(fN t.idx&&(aa (I t.idx<=100)&&t.idx.all (k5 t)))
def jY(t:bU):Bool:=vH (iM t)&&(aa (I t.idx<=2000000)&&t.idx.all λx=>aa (I x.al<=2000000))
def DD(t:bU):af (bU×Bool):=cond (jY t) (J (cond (hT t) (t,ae) (gM,ai))) ah
def Lt:bb [cu] [cu,.bool]:=λx=>DD x
theorem akW{acc:U c3}:zB { t with idx:=acc } (gT t x)=cond (fX (gT t x)) (cond (kI acc x.name) (gM,160) (cond (aa (100<=I acc)) (gM,3) (cond (iN t x.al) ({ t with idx:=j1 acc x },0) (gM,150)))) (gM,2):=by simp[zB,gT];rfl
theorem S6{t:bU}:∀{l acc a:U c3},fN acc=ae->nM t acc l=J a->fN a=ae/\(∀y,y∈a↔y∈acc\/y∈l)/\I a=I acc+I l/\l.all (k5 t)=ae/\(I acc<=100->I a<=100)
 |[],acc,a,cG,h=>by simp[nM]at h;subst h;exact⟨cG,by simp,by simp,rfl,id⟩
 |x::l,acc,a,cG,h=>by
  simp[nM]at h;cases an:k5 t x&&(!kI acc x.name&&aa (I acc<100))with
  |false=>rw[an]at h;cases h
  |true=>
   rw[an]at h;simp at h;simp at an;obtain⟨h1,h2,h3,h4,h5⟩:=S6 (KK cG an.2.1) h;rw[aa0]at h3 h5;refine⟨h1,λy=>?_,by simp;omega,by simp[h4,an.1],λ_=>h5 ag⟩;rw[h2,acj,ek];constructor
   .grind
   .grind
theorem J7{t:bU}:∀{q p:U c3},fN (p++q)=ae->I (p++q)<=100->q.all (k5 t)=ae->nM t p q=J (p++q)
 |[],p,_,_,_=>by simp[nM]
 |x::q,p,cG,cJ,aV=>by
  simp only[et,bx]at aV;have a:=(ae3 cG).2;have h1:kI p x.name=false:=by cases h:kI p x.name with|false=>rfl|true=>obtain⟨y,b,e⟩:=aaB.1 h;exact absurd e (Da (a y x b (by simp)))
  have h2:aa (I p<100)=true:=aY (by simp at cJ;omega);have h3:j1 p x=p++[x]:=aau λy b=>a y x b (by simp);simp[nM,aV.1,h1,h2,h3];rw[J7 (by simpa using cG) (by simpa using cJ) aV.2];simp
def nh:U c3->U c3->Bool|x::a,y::b=>aa (x.name=y.name)&&nh a b|_,_=>ae
theorem SY:∀{a b:U c3},nh a b=ae->∀(i:Nat) (hi:i<I a) (c:i<I b),a[i].name=b[i].name
 |[],_,_,i,hi,_=>by simp at hi
 |_::_,[],_,i,_,c=>by simp at c
 |x::a,y::b,h,i,hi,c=>by simp[nh]at h;cases i with|zero=>exact h.1|succ i=>exact SY h.2 i (by simpa using hi) (by simpa using c)
theorem Rm:∀a:U c3,nh a a=ae
 |[]=>rfl
 |x::a=>by simp[nh,Rm a]
theorem aoQ{l:U c3}(a:fN l=ae)(c:x∈l)(d:y∈l)(e:x.name=y.name):x=y:=by
 obtain⟨i,hi,rfl⟩:=List.getElem_of_mem c;obtain⟨j,b,rfl⟩:=List.getElem_of_mem d;rcases Nat.lt_trichotomy i j with h|h|h
 .exact absurd e (Da (Hs a i j hi b h))
 .subst h;rfl
 .exact absurd e.symm (Da (Hs a j i b hi h))
theorem aj6{a b:U c3}(d:fN a=ae)(hm:∀y,y∈a↔y∈b)(e:I a=I b)(h:nh a b=ae):a=b:=List.ext_getElem e λi hi c=>aoQ d (fo hi) ((hm _).2 (fo c)) (SY h i hi c)
theorem amd{g:U c3->R}{c:R}:(match nM t [] t.idx with|some a=>cond (nh a t.idx) (g a) c|none=>c)=cond (fN t.idx&&(aa (I t.idx<=100)&&t.idx.all (k5 t))) (g t.idx) c:=by
 cases b:nM t [] t.idx with
 |none=>cases an:fN t.idx&&(aa (I t.idx<=100)&&t.idx.all (k5 t))with|false=>rfl|true=>simp only[bx]at an;rw[J7 (p:=[]) (by simpa using an.1) (by simpa using an.2.1) an.2.2]at b;cases b
 |some a=>
  obtain⟨h1,h2,h3,h4,h5⟩:=S6 (by rfl) b;simp only;cases d:nh a t.idx with
  |true=>have e:=aj6 h1 (λy=>by rw[h2];simp) (by simpa using h3) d;rw[<-e,h1];rw[<-e]at h4;rw[h4,aY (h5 (by simp))];rfl
  |false=>cases an:fN t.idx&&(aa (I t.idx<=100)&&t.idx.all (k5 t))with|false=>rfl|true=>simp only[bx]at an;rw[J7 (p:=[]) (by simpa using an.1) (by simpa using an.2.1) an.2.2]at b;cases b;rw[ib,Rm]at d;cases d
theorem LU(h:jY t=ae):vH (iM t)=ae/\I t.idx<=2000000/\∀x,x∈t.idx->I x.al<=2000000:=by simp[jY]at h;exact h
theorem ag4{kx:bf->GI->af R}{g:U c3->af R}{c:af R}(h:jY t=ae)(h1:∀i p,kx .ret (ai,t.idx,(I t.idx:Int),i,t,gM,p)=c)(h2:∀a:U c3,I a=I t.idx->kx (.exit 0) (ai,t.idx,(I t.idx:Int),(I t.idx:Int),t,gM,{ t with idx:=a })=g a)(k:Nat)(o:I t.idx<k) :
  aT (λd=>xl d kx) k (ai,t.idx,(I t.idx:Int),0,t,gM,{ t with idx:=[] })=(match nM t [] t.idx with|some a=>g a|none=>c):=by
 obtain⟨_,q,f⟩:=LU h;have j:b5 (I t.idx):=mK
 refine(kd (I t.idx) (λi (acc:U c3)=>(ai,t.idx,(I t.idx:Int),(i:Int),t,gM,{ t with idx:=acc })) (λi acc=>fN acc=ae/\I acc=i) (λi acc=>(match nM t acc (t.idx.drop i)with|some a=>g a|none=>c)) (λi hi acc e d l=>?_) (λacc e d=>?_) k 0 [] (cp _) ag ⟨rfl,rfl⟩).trans iy
 .have m:zu { t with idx:=acc } (gT t t.idx[i])=J (zB { t with idx:=acc } (gT t t.idx[i])):=by
   have:Ax { t with idx:=acc } (gT t t.idx[i])=true:=by have h1:=f _ (fo hi);have h2:=e.2;show(aa ((0:Nat)<=2000000)&&(aa ((0:Nat)<=2000000)&&(aa (I t.idx[i].al<=2000000)&&(aa (I acc<=2000000)&&fN acc))))=ae;rw[aY h1,aY (show I acc<=2000000 by omega),e.1];rfl
   rw[zu,this];rfl
  simp only[xl,ez hi,bY hi,cb (c:=.idx) hi,m,akW,cV hi j,dn hi,nM,k5];cases fX (gT t t.idx[i])with
  |false=>exact h1 _ _
  |true=>
   simp;cases n:kI acc t.idx[i].name with
   |true=>simp;exact h1 _ _
   |false=>
    simp;by_cases b:I acc<100
    .rw[aY b,bl (show ¬ 100<=I acc by omega)];simp;cases iN t t.idx[i].al with|false=>exact h1 _ _|true=>simp;exact l _ ⟨KK e.1 n,by rw[aa0,e.2]⟩
    .rw[bl b,aY (show 100<=I acc by omega)];simp;exact h1 _ _
 .simp only[xl,eG,h2 acc e.2];exact jz
theorem ag2{kx:bf->GM->af R}{a:U c3}{b c:af R}(f:jY t=ae)(l:I a=I t.idx)(h1:∀i,kx .ret (ai,a,(I a:Int),i,t,gM,{ t with idx:=a })=c)(h2:kx (.exit 2) (ai,a,(I a:Int),(I a:Int),t,gM,{ t with idx:=a })=b)(k:Nat)(m:I t.idx<k) :
  aT (λd=>xp d kx) k (ai,a,(I a:Int),0,t,gM,{ t with idx:=a })=cond (nh a t.idx) b c:=by
 obtain⟨_,n,g⟩:=LU f;have h:b5 (I a):=mK
 refine(gS (I a) (λi=>(ai,a,(I a:Int),(i:Int),t,gM,{ t with idx:=a })) (λi=>cond (nh (a.drop i) (t.idx.drop i)) b c) (λi hi d j=>?_) (λd=>?_) k 0 (cp _) ag).trans np
 .have e:i<I t.idx:=ag
  simp only[xp,ez hi,bY hi,bY e,cb (c:=.idx) hi,cb (c:=.idx) e,cV hi h,dn hi,dn e,nh,j];cases aa (a[i].name=t.idx[i].name)with|false=>exact h1 _|true=>rfl
 .simp only[xp,eG,h2];exact jz
theorem aqx(h:(k6 (iM t)).2=0):k6 (iM t)=({ t with idx:=[] },0):=by
 simp[k6]at h ⊢;generalize (aa ((iM t).kind=1)&&fX (iM t))=du at h ⊢;generalize iN ⟨(iM t).name,(iM t).al,(iM t).names,[],[]⟩ (iM t).names=dF at h ⊢;cases du with
 |false=>simp at h
 |true=>
  cases dF with
  |false=>simp at h
  |true=>
   by_cases an:kh (iM t).al (iM t).l=0
   .simp only[an];rfl
   .simp[an]at h
theorem ahi:aN 86 [cu] [cu,.bool] Lt:=.fin 0 agK λt r aj b=>⟨I t.idx+1,by
 simp only[Lt,DD]at b;cases d:jY t with
 |false=>rw[d]at b;cases b
 |true=>
  rw[d]at b;simp only[a8,c4]at b;rw[<-b];obtain⟨bd,h,i⟩:=LU d;have e:AG (iM t)=J (k6 (iM t)):=by rw[AG,bd];rfl
  simp only[ae8,e,bZ,hT];by_cases h0:(k6 (iM t)).2=0
  .simp only[aqx h0,decide_true,dj,a_,Bool.true_and];refine(ag4 (c:=J (gM,ai)) (g:=λa=>cond (nh a t.idx) (J ({ t with idx:=a },ae)) (J (gM,ai))) d (λ_ _=>rfl) (λa f=>?_) _ ag).trans ?_
   .exact ag2 d f (λ_=>rfl) rfl _ ag
   .rw[amd (g:=λa=>J (({ t with idx:=a }:bU),ae)),fA]
  .simp only[bl h0,jd,a8,Bool.false_and,a_];rfl⟩
def apz(R:Type):aM R:=bp [(86,bg Lt)] [] [] []
def Uw(x:au [cu]):af (au [aq]):=match x with|t=>(DD t).bind λ(_,a)=>cond (!a) (J 2) (J 0)
theorem amZ:aN 52 [cu] [aq] (Uw):=bX (px:=apz _) (n:=0) Tryz.func52 rfl (λ_ H=>⟨br H (c1 H ahi bm) bo bq,aP⟩) λ_=>by kernel_rfl
def kX(t:bU):af Int:=cond (jY t) (J (cond (hT t) 0 2)) ah
def xO:bb [cu] [aq]:=λx=>kX x
theorem Hu:aN 52 [cu] [aq] xO:=.de amZ λt r aj a=>by simp only[xO,kX]at a;rw[<-a];simp only[Uw,DD];cases jY t with|false=>rfl|true=>cases hT t<;>rfl
def YK:bt:=⟨19,[(0,.int .u64),(3,.sl .byte ae)],[],[],0,0,0,[],[]⟩
abbrev Dt:=Int×U UInt8
def sM{R:Type}(a:Dt->af R)(kx:bf->Dt->af R)(v:Dt):af R:=match v with|(v,v1)=>cond (aa (128<=v)) (ax (aa (I v1+1<=bJ)) (a ((cK .u64 v 7),(v1++[(bj ((iW .u8 (wr .u8 v) 128):Int).toNat)])))) (kx (.exit 0) (v,v1))
def ach(R:Type)(k:Nat):aM R:=bp [] [] [(2,cq k YK (sM))] []
def Y2(k:Nat)(x:au [.int .u64]):af (au [.sl .byte ae]):=match x with
 |n=>
 aT (λa=>sM a (λe b=>match b with|(v2,aD)=>match e with
  |.exit 0=>
  ax (aa (I aD+1<=bJ)) (
   J (aD++[(bj ((wr .u8 v2):Int).toNat)]))
  |_=>ah)) k (n,[])
theorem aug(k:Nat):aN 94 [.int .u64] [.sl .byte ae] (Y2 k):=bX (px:=ach _ k) (n:=1) Tryz.func94 rfl (λab H=>by have h0:bT ab (ach (au [.sl .byte ae]) k):=br H bm bo bq;have a:=cC H h0 (b:=b_ Tryz.f94 0) (k:=k) (n:=0) (s:=YK) (step:=sM) (λ_ _ _ (_,_)=>by kernel_rfl) aP;exact⟨h0,(cm aP a)⟩) λ_=>by kernel_rfl
def wZ(n:Int):af ar:=Y2 100 n
def Dc:bb [.int .u64] [.sl .byte ae]:=λx=>wZ x
theorem Ju:aN 94 [.int .u64] [.sl .byte ae] Dc:=.fin 0 aug λ_ _ _ a=>⟨100,a⟩
def arj(R:Type):aM R:=bp [(94,bg Dc)] [] [] []
def K8(x:au [aC]):af (au [.sl .byte ae]):=match x with|s=>(wZ (wr .u64 (I s:Int))).bind λx=>ax (aa (I x+I s<=bJ)) (J (x++s))
theorem apF:aN 96 [aC] [.sl .byte ae] (K8):=bX (px:=arj _) (n:=0) Tryz.func96 rfl (λ_ H=>⟨br H (c1 H Ju bm) bo bq,aP⟩) λ_=>by kernel_rfl
def th(s:ar):af ar:=K8 s
def JM:bb [aC] [.sl .byte ae]:=λx=>th x
theorem _P:aN 96 [aC] [.sl .byte ae] JM:=.de apF λ_ _ _ a=>a
def auj(R:Type):aM R:=bp [(89,bg Jv),(53,bg Ic),(90,bg JG),(91,bg acC)] [] [] []
def K2(x:au [bR,dJ,dA]):af (au [dt,aq]):=match x with|(e,al,row)=>cond (!decide ((iB e)=0)) (J ((aH.mk 0 0 []),2)) (cond (!(mM al row)) (J ((aH.mk 0 0 []),2)) (cond (!decide ((eC e al).2=0)) (J ((aH.mk 0 0 []),(eC e al).2)) ((oi e al row).bind λ(x,a)=>J (x,a))))
theorem apN:aN 55 [bR,dJ,dA] [dt,aq] (K2):=bX (px:=auj _) (n:=0) Tryz.func55 rfl (λ_ H=>⟨br H (c1 H SA (c1 H Wi (c1 H S1 (c1 H asQ bm)))) bo bq,aP⟩) λ(_,_,_)=>by kernel_rfl
def FD(e:bh)(al:U cW)(row:U aH):af (aH×Int):=K2 (e,al,row)
def acT:bb [bR,dJ,dA] [dt,aq]:=λx=>FD x.1 x.2.1 x.2.2
theorem aip:aN 55 [bR,dJ,dA] [dt,aq] acT:=.de apN λ_ _ _ a=>a
def WC:bt:=⟨73,[(1,.sl .val ai),(4,.int .i64),(49,.sl .expr ai),(50,.int .i64),(51,.int .i64)],[(2,.ptr 0 0)],[(0,.one (.aI .tbl))],1,0,0,[],[]⟩
abbrev Io:=U aH×Int×U bh×Int×Int×bU
def yV{R:Type}(f:Io->af R)(kx:bf->Io->af R)(v:Io):af R:=match v with|(c,e,b,d,a,w2)=>cond (aa (a<d)) (ax (aU a (I b)) ((FD (at' .expr b a) w2.al c).bind λ(h,g)=>cond (!decide (g=0)) (kx .ret (c,g,b,d,a,w2)) (cond (aa ((g_ h (aH.mk 2 0 []))=0)) (kx .ret (c,162,b,d,a,w2)) (f (c,e,b,d,(wr .i64 (a+1)),w2))))) (kx (.exit 2) (c,e,b,d,a,w2))
def WD:bt:=⟨19,[(0,.sl .str ai),(1,.str),(4,.int .i64),(7,.int .i64),(8,.int .i64)],[],[(0,.one (.aI .tbl))],80,80,400,[],[]⟩
abbrev IA:=U ar×ar×Int×Int×Int×bU
def yJ{R:Type}(a:IA->af R)(kx:bf->IA->af R)(v:IA):af R:=match v with|(a',v6,bA,b6,cw,w1)=>cond (aa (cw<b6)) (ax (aU cw (I a')) (cond (aa (v6=(at' .str a' cw))) (kx .ret (a',v6,cw,b6,cw,w1)) (a (a',v6,bA,b6,(wr .i64 (cw+1)),w1)))) (kx (.exit 0) (a',v6,bA,b6,cw,w1))
def WX:bt:=⟨73,[(1,.sl .val ai),(4,.int .i64),(23,.sl .cO ai),(24,.int .i64),(25,.int .i64)],[(2,.ptr 0 0)],[(0,.one (.aI .tbl))],1,0,0,[],[]⟩
abbrev H5:=U aH×Int×U cW×Int×Int×bU
def yE{R:Type}(k:Nat)(c:H5->af R)(kx:bf->H5->af R)(v:H5):af R:=match v with
 |(v,v1,v2,aD,v4,w)=>
 cond (aa (v4<aD)) (
  ax (aU v4 (I v2)) (
  ax (aU v4 (I v)) (
   cond (aa ((at' .val v v4).kind=1)) (
   cond ((at' .cO v2 v4).IW) (
    kx .ret (v,161,v2,aD,v4,w)) (
    aT (λrc=>yJ rc (λe d=>match d with|(_,_,b,_,_,a)=>match e with
    |.ret=>
     cond (aa (0<=b)) (
     kx .ret (v,161,v2,aD,v4,a)) (
     c (v,v1,v2,aD,(wr .i64 (v4+1)),a))
    |.exit 0=>c (v,v1,v2,aD,(wr .i64 (v4+1)),a)
    |_=>ah)) k (w.key,(at' .cO v2 v4).name,0,(I w.key:Int),0,w))) (
   c (v,v1,v2,aD,(wr .i64 (v4+1)),w))))) (
  kx (.exit 0) (v,v1,v2,aD,v4,w))
def TE(R:Type)(k:Nat):aM R:=bp [] [] [(2,cq k WD (yJ))] []
noncomputable def VM(R:Type)(k:Nat):aM R:=bp [(88,eY 80 400 (TE R k) Tryz.f88)] [] [] []
noncomputable def So(R:Type)(k:Nat):aM R:=bp [(52,bg xO),(53,bg Ic),(55,bg acT),(56,bg OU),(54,eY 40 200 (VM R k) Tryz.f54)] [] [(7,cq k WX (yE k)),(13,cq k WC (yV))] []
def xu(k:Nat)(x:au [cu,dA]):af (au [aq]):=match x with
 |(t,row)=>
 (kX t).bind λx=>
  cond (!decide (x=0)) (
  J x) (
  cond (!(mM t.al row)) (
   J 151) (
   aT (λf=>yE k f (λe g=>match g with|(c,b,_,_,_,a)=>match e with
   |.ret=>J b
   |.exit 0=>
    aT (λf=>yV f (λe g=>match g with|(_,d,_,_,_,_)=>match e with
    |.ret=>J d
    |.exit 2=>J 0
    |_=>ah)) k (c,b,a.e9,(I a.e9:Int),0,a)
   |_=>ah)) k (row,0,t.al,(I t.al:Int),0,t)))
theorem apa(k:Nat):aN 25 [cu,dA] [aq] (xu k):=bX (px:=So _ k) (n:=2) Tryz.func25 rfl (λab H=>by have h2:bT ab (TE (au [aq]) k):=br H bm bo bq;have a:=cC H h2 (b:=b_ Tryz.f88 0) (k:=k) (n:=0) (s:=WD) (step:=yJ) (λ_ _ _ (_,_,_,_,_,_)=>by kernel_rfl) aP;have h1:bT ab (VM (au [aq]) k):=br H (dY (e8 H h2 Tryz.func88 rfl (n:=1) (cm aP a)) bm) bo bq;have h0:bT ab (So (au [aq]) k):=br H (c1 H Hu (c1 H Wi (c1 H aip (c1 H abG (dY (e8 H h1 Tryz.func54 rfl (n:=0) (aP)) bm))))) bo bq;have c:=cC H h0 (b:=b_ Tryz.f25 0) (k:=k) (n:=0) (s:=WX) (step:=yE k) (λ_ _ _ (_,_,_,_,_,_)=>by kernel_rfl) aP;have d:=cC H h0 (b:=b_ Tryz.f25 1) (k:=k) (n:=0) (s:=WC) (step:=yV) (λ_ _ _ (_,_,_,_,_,_)=>by kernel_rfl) aP;exact⟨h0,(cm (cm aP c) d)⟩) λ(_,_)=>by kernel_rfl
def nC(t:bU)(row:U aH):af Int:=xu 5000 (t,row)
def Jt:bb [cu,dA] [aq]:=λx=>nC x.1 x.2
theorem aam:aN 25 [cu,dA] [aq] Jt:=.fin 0 apa λ_ _ _ a=>⟨5000,a⟩
def ee:Nat->Nat->ar|0,n=>[bj n]|k+1,n=>if n<128 then [bj n]else bj (n % 128+128)::ee k (n / 128)
theorem mc:∀k n,1<=I (ee k n)/\I (ee k n)<=k+1
 |0,n=>by simp[ee]
 |k+1,n=>by
  have:=mc k (n / 128);simp[ee]
  grind
theorem akv:∀m:Nat,m<256->bj (iW .u8 ((m:Nat):Int) 128).toNat=bj (m % 128+128):=hA
theorem Pd(n:Nat):wr .u8 (n:Int)=((n % 256:Nat):Int):=tx
theorem v'{n:Nat}(h:n<18446744073709551616):wr .u64 (n:Int)=(n:Int):=by simp[wr,b'.wrap,b'.bits,b'.signed];omega
theorem awu(n:Nat):cK .u64 (n:Int) 7=((n / 128:Nat):Int):=by
 simp only[cK];rw[show(2 ^ min (7:Int).toNat b'.u64.bits:Int)=128 from by decide]
 grind
theorem Mf{kx:bf->Dt->af ar}(b:∀n acc,kx (.exit 0) (n,acc)=ax (aa (I acc+1<=bJ)) (J (acc++[bj (wr .u8 n).toNat]))):∀(k m n:Nat) (acc:ar),n<128 ^ (k+1)->k<m->I acc+k<=1000->aT (λa=>sM a kx) m ((n:Int),acc)=J (acc++ee k n)
 |k,0,_,_,_,h,_=>by omega
 |k,m+1,n,acc,cJ,hm,cI=>by
  have c1:aa (I acc+1<=bJ)=true:=aY AX;have low:n<128->aT (λa=>sM a kx) (m+1) ((n:Int),acc)=J (acc++[bj n]):=λh=>by simp only[aT,sM,bl (show ¬(128:Int)<=(n:Int) by omega),a_,b,c1,ax,a8,Pd,Int.toNat_natCast];rw[Nat.mod_eq_of_lt ag]
  cases k with
  |zero=>exact low (by simpa using cJ)
  |succ k=>
   simp only[ee];split
   .rename_i h;exact low h
   .rename_i h;have c:=Mf b k m (n / 128) (acc++[bj (n % 128+128)]) (Nat.div_lt_of_lt_mul (by rw[Nat.pow_succ]at cJ;omega)) ag (by simp[ hn];omega);have e:bj (iW .u8 (wr .u8 (n:Int)) 128).toNat=bj (n % 128+128):=by rw[Pd,akv _ (Nat.mod_lt _ ag)];congr 1;omega
    simp only[aT,sM,aY (show(128:Int)<=(n:Int) by omega),c1,e,awu];rw[<-List.append_cons]at c;exact c
theorem akZ{n:Nat}(h:n<128 ^ 6):wZ (n:Int)=J (ee 5 n):=by
 have:=Mf (kx:=λe a=>match a with|(v2,aD)=>match e with
  |.exit 0=>ax (aa (I aD+1<=bJ)) (J (aD++[bj (wr .u8 v2).toNat]))
  |_=>ah) (λ_ _=>rfl) 5 100 n [] h ag (by simp)
 exact this
theorem Br(h:I s<=274877906900):th s=J (ee 5 (I s)++s):=by have e:wr .u64 (I s:Int)=(I s:Int):=v' ag;have:=mc 5 (I s);simp[th,K8,e,akZ (show I s<128 ^ 6 by omega)];rw[aY AX];rfl
noncomputable section
end
theorem Bs:∀k n,n<128 ^ (k+1)->ee (k+1) n=ee k n
 |0,n,h=>by simp[ee];omega
 |k+1,n,h=>by rw[ee,Bs k (n / 128) (Nat.div_lt_of_lt_mul (by rw[Nat.pow_succ]at h;omega))];rfl
theorem Ou{n:Nat}(h:n<128 ^ 6):ee 9 n=ee 5 n:=by rw[Bs 8 n ag,Bs 7 n ag,Bs 6 n ag,Bs 5 n h]
theorem adx{n:Nat}(h:n<18446744073709551616):wZ (n:Int)=J (ee 9 n):=by
 have:=Mf (kx:=λe a=>match a with|(v2,aD)=>match e with
  |.exit 0=>ax (aa (I aD+1<=bJ)) (J (aD++[bj (wr .u8 v2).toNat]))
  |_=>ah) (λ_ _=>rfl) 9 100 n [] ag ag (by simp)
 exact this
noncomputable section
end
theorem A9{v:aH}:hP v=0↔cS v=true:=by simp[hP];cases cS v<;>simp
def UP:bt:=⟨88,[(2,.int .i64),(5,.int .i64)],[(1,.ptr 0 0)],[(0,.one (.aI .val))],1,0,0,[],[]⟩
abbrev Bc:=Int×Int×aH
def qv{R:Type}(a:Bc->af R)(kx:bf->Bc->af R)(v:Bc):af R:=match v with|(v1,v2,w)=>cond (aa (v2<(I w.s:Int))) (cond (aa (w.kind=4)) (ax (aU v2 (I w.s)) (cond (aa ((lI w.s v2)<32)) (kx .ret (2,v2,w)) (ax (aU v2 (I w.s)) (cond (aa (127<=(lI w.s v2))) (kx .ret (2,v2,w)) (a (v1,(wr .i64 (v2+1)),w)))))) (kx (.exit 0) (v1,v2,w))) (kx (.exit 0) (v1,v2,w))
def YF(R:Type)(k:Nat):aM R:=bp [] [] [(6,cq k UP (qv))] []
def Ul(k:Nat)(x:au [dt]):af (au [aq]):=match x with
 |v=>
 let a:=λ(hs:Bool)=>
  let c:=λ(g:Bool)=>
  let d:=λ(_:Unit)=>
   aT (λb=>qv b (λe h=>match h with|(aD,_,_)=>match e with
   |.ret=>J aD
   |.exit 0=>J 0
   |_=>ah)) k (0,0,v)
  let f:=λ(i:Bool)=>
   let j:=λ(l:Bool)=>
   cond (l) (
    J 2) (
    cond (!g) (
    cond (!decide (v.s=[])) (
     J 2) (
     cond (aa (1000<(I v.s:Int))) (
     J 2) (
     d ()))) (
    cond (aa (1000<(I v.s:Int))) (
     J 2) (
     d ())))
   cond (i) (
   j ae) (
   cond (!hs) (
    j (!decide (v.n=0))) (
    j ai))
  cond (aa (v.kind<1)) (
   f ae) (
   f (aa (5<v.kind)))
  cond (aa (v.kind=4)) (
  c ae) (
  c (aa (v.kind=5)))
 cond (aa (v.kind=2)) (
  cond (aa (v.n=0)) (
  a ae) (
  cond (aa (v.n=1)) (
   a ae) (
   a (aa (v.kind=3))))) (
  a (aa (v.kind=3)))
theorem am7(k:Nat):aN 101 [dt] [aq] (Ul k):=bX (px:=YF _ k) (n:=1) Tryz.func101 rfl (λab H=>by have h0:bT ab (YF (au [aq]) k):=br H bm bo bq;have a:=cC H h0 (b:=b_ Tryz.f101 0) (k:=k) (n:=0) (s:=UP) (step:=qv) (λ_ _ _ (_,_,_)=>by kernel_rfl) aP;exact⟨h0,(cm aP a)⟩) λ_=>by kernel_rfl
abbrev OB(v:aH):Int:=hP v
def MS:bb [dt] [aq]:=λx=>J (OB x)
theorem Uy{R:Type}{kx:bf->Bc->af R}{v:aH}{a b:af R}(e:b5 (I v.s))(h4:v.kind=4)(h1:∀j,kx .ret (2,j,v)=a)(h2:∀q j,kx (.exit 0) (q,j,v)=b):∀(k i:Nat) q,i<=I v.s->I v.s-i<k->aT (λd=>qv d kx) k (q,(i:Int),v)=cond ((v.s.drop i).all sH) b a
 |0,i,q,_,h=>by omega
 |k+1,i,q,hi,h=>by
  rw[cQ];by_cases c:i<I v.s
  .simp only[qv,cV c e,(Uy e h4 h1 h2 k (i+1) q ag ag),h1,dn c,zL c,bY c,et,Bool.cond_decide];simp[*];simp only[sH];split
   .rw[bl ag];rfl
   .split
    .rw[aY ag,bl ag];rfl
    .rw[aY ag,aY ag];rfl
  .simp[qv,h2,Bool.cond_decide]
   grind
theorem apr{kx:bf->Bc->af R}{v:aH}{b:af R}(h4:¬v.kind=4)(h2:kx (.exit 0) (0,0,v)=b)(k:Nat):aT (λa=>qv a kx) (k+1) (0,0,v)=b:=by rw[cQ];simp only[qv,h2,Bool.cond_decide];split<;>rfl
theorem ard:aN 101 [dt] [aq] MS:=.fin 0 am7 λv r aj l=>⟨I v.s+1,by
 simp only[MS,c4]at l;subst l;have p:((0:Nat):Int)=0:=rfl;have c:aT (λk=>qv k (λe v=>match v with|(v2,_,_)=>match e with
   |.ret=>J v2
   |.exit 0=>J 0
   |_=>ah)) (I v.s+1) (0,0,v)=cond (aa (v.kind=4) && !n7 v.s) (J (2:Int)) (J 0):=by
  by_cases h4:v.kind=4
  .have:=Uy (a:=J (2:Int)) (b:=J 0) aj.2.2 h4 (kx:=λe v=>match v with|(v2,_,_)=>match e with
    |.ret=>J v2
    |.exit 0=>J 0
    |_=>ah) (λ_=>rfl) (λ_ _=>rfl) (I v.s+1) 0 0 (cp _) ag
   rw[p]at this;rw[this,aY h4,gH,n7];cases v.s.all sH<;>rfl
  .rw[apr (b:=J 0) h4 rfl,bl h4];rfl
 simp only[Ul]at c ⊢;rw[c];have d:v.s=[]->¬(1000<(I v.s:Int)):=λh=>by rw[h];simp
 have hle:aa ((I v.s:Int)<=1000) = !decide (1000<(I v.s:Int)):=by
  by_cases h : 1000<(I v.s:Int)
  .rw[aY h,bl ag];rfl
  .rw[bl h,aY ag];rfl
 have t:aa (v.s=[])=ae->aa (1000<(I v.s:Int))=false:=λh=>bl (d (of_decide_eq_true h));simp only[hP,cS,hle];generalize aa (1000<(I v.s:Int))=q at *;generalize aa (v.s=[])=s at *;generalize n7 v.s=w at *;by_cases m:v.kind=1
 .simp only[m];cases aa (v.n=0)<;>cases s<;>simp_all
 by_cases f:v.kind=2
 .simp only[f];exact _G
 by_cases g:v.kind=3
 .simp only[g];exact _G
 by_cases i:v.kind=4
 .simp only[i];cases aa (v.n=0)<;>cases w<;>cases q<;>simp_all
 by_cases j:v.kind=5
 .simp only[j];cases aa (v.n=0)<;>cases q<;>simp_all
 rw[bl m,bl f,bl g,bl i,bl j];by_cases o:v.kind<1
 .rw[aY o];rfl
 .rw[bl o,aY (show 5<v.kind by omega)];rfl⟩
def atx(R:Type):aM R:=bp [(94,bg Dc)] [] [] []
def KS(x:au [aq]):af (au [.sl .byte ae]):=match x with|n=>(wZ (gx .u64 (js .u64 (wr .u64 n) 1) (wr .u64 (cK .i64 n 63)))).bind λx=>J x
theorem aoA:aN 95 [aq] [.sl .byte ae] (KS):=bX (px:=atx _) (n:=0) Tryz.func95 rfl (λ_ H=>⟨br H (c1 H Ju bm) bo bq,aP⟩) λ_=>by kernel_rfl
def FY(n:Int):af ar:=KS n
def aaR:bb [aq] [.sl .byte ae]:=λx=>FY x
theorem atP:aN 95 [aq] [.sl .byte ae] aaR:=.de aoA λ_ _ _ a=>a
def Zn:bt:=⟨60,[(0,.sl .val ai),(2,.sl .byte ae),(3,.int .i64),(4,.sl .byte ae),(12,.sl .val ai),(13,.int .i64),(14,.int .i64)],[],[],0,0,0,[],[]⟩
abbrev x8:=U aH×U UInt8×Int×U UInt8×U aH×Int×Int
def se{R:Type}(a:x8->af R)(kx:bf->x8->af R)(v:x8):af R:=match v with
 |(v,v1,v2,aD,v4,a',v6)=>
 cond (aa (v6<a')) (
  ax (aU v6 (I v4)) (
  cond (!decide ((hP (at' .val v4 v6))=0)) (
   kx .ret (v,[],(hP (at' .val v4 v6)),aD,v4,a',v6)) (
   ax (aa (I aD+1<=bJ)) (
   cond (aa ((at' .val v4 v6).kind=2)) (
    ax (aa (I (aD++[(bj ((wr .u8 ((at' .val v4 v6).kind)):Int).toNat)])+1<=bJ)) (
    a (v,v1,v2,((aD++[(bj ((wr .u8 ((at' .val v4 v6).kind)):Int).toNat)])++[(bj ((wr .u8 ((at' .val v4 v6).n)):Int).toNat)]),v4,a',(wr .i64 (v6+1))))) (
    cond (aa ((at' .val v4 v6).kind=3)) (
    (FY ((at' .val v4 v6).n)).bind λb=>
     ax (aa (I (aD++[(bj ((wr .u8 ((at' .val v4 v6).kind)):Int).toNat)])+I b<=bJ)) (
     a (v,v1,v2,((aD++[(bj ((wr .u8 ((at' .val v4 v6).kind)):Int).toNat)])++b),v4,a',(wr .i64 (v6+1))))) (
    let j:=λ(p:Bool)=>
     cond (p) (
     ax (aa (I ((at' .val v4 v6).s)<=bJ)) (
      (th ((at' .val v4 v6).s)).bind λc=>
      ax (aa (I (aD++[(bj ((wr .u8 ((at' .val v4 v6).kind)):Int).toNat)])+I c<=bJ)) (
       a (v,v1,v2,((aD++[(bj ((wr .u8 ((at' .val v4 v6).kind)):Int).toNat)])++c),v4,a',(wr .i64 (v6+1)))))) (
     a (v,v1,v2,(aD++[(bj ((wr .u8 ((at' .val v4 v6).kind)):Int).toNat)]),v4,a',(wr .i64 (v6+1))))
    cond (aa ((at' .val v4 v6).kind=4)) (
     j (aa ((at' .val v4 v6).kind=4))) (
     j (aa ((at' .val v4 v6).kind=5))))))))) (
  kx (.exit 0) (v,v1,v2,aD,v4,a',v6))
def ac0(R:Type)(k:Nat):aM R:=bp [(94,bg Dc),(80,bg Pi),(95,bg aaR),(96,bg JM)] [] [(3,cq k Zn (se))] []
def LM(k:Nat)(x:au [dA]):af (au [.sl .byte ae,aq]):=match x with
 |l=>
 (wZ (wr .u64 (I l:Int))).bind λx=>
  aT (λb=>se b (λe c=>match c with|(bA,b6,cw,a,_,_,_)=>match e with
  |.ret=>J (b6,cw)
  |.exit 0=>
   cond (aa (100<(I bA:Int))) (
   J ([],3)) (
   J (a,0))
  |_=>ah)) k (l,[],0,x,l,(I l:Int),0)
theorem ai7(k:Nat):aN 58 [dA] [.sl .byte ae,aq] (LM k):=bX (px:=ac0 _ k) (n:=1) Tryz.func58 rfl (λab H=>by have h0:bT ab (ac0 (au [.sl .byte ae,aq]) k):=br H (c1 H Ju (c1 H BC (c1 H atP (c1 H _P bm)))) bo bq;have a:=cC H h0 (b:=b_ Tryz.f58 0) (k:=k) (n:=0) (s:=Zn) (step:=se) (λ_ _ _ (_,_,_,_,_,_,_)=>by kernel_rfl) aP;exact⟨h0,(cm aP a)⟩) λ_=>by kernel_rfl
def ra(l:U aH):af (ar×Int):=LM 5000 l
def adb:bb [dA] [.sl .byte ae,aq]:=λx=>ra x
theorem alc:aN 58 [dA] [.sl .byte ae,aq] adb:=.fin 0 ai7 λ_ _ _ a=>⟨5000,a⟩
noncomputable section
end
def g5(n:Int):Nat:=if n<0 then(-2*n-1).toNat else(2*n).toNat
theorem Pm{n:Int}(h:da n=ae):g5 n<18446744073709551616:=by simp[da]at h;simp only[g5];split<;>omega
theorem zi(n:Int):wr .u64 n=n % 18446744073709551616:=tx
theorem aek(k:b')(x:Int):gx k x 0=k.wrap ((fO k.bits x).toNat:Int):=by simp[gx,s_]
theorem aws{x:Int}(h : 0<=x/\x<18446744073709551616):gx .u64 x 18446744073709551615=18446744073709551615-x:=by show wr .u64 (((fO 64 x ^^^ fO 64 18446744073709551615).toNat:Nat):Int)=_;rw[show fO 64 18446744073709551615=BitVec.allOnes 64 by decide,BitVec.xor_allOnes,BitVec.toNat_not,BitVec.toNat_ofInt,zi];omega
theorem al4{n:Int}(h:da n=ae):gx .u64 (js .u64 (wr .u64 n) 1) (wr .u64 (cK .i64 n 63))=(g5 n:Int):=by
 simp[da]at h;have c:js .u64 (wr .u64 n) 1=(wr .u64 n*2) % 18446744073709551616:=by rw[<-zi];rfl
 have aS:cK .i64 n 63=n.fdiv 9223372036854775808:=rfl;rw[c,aS,zi,zi];by_cases b:n<0
 .have a:n.fdiv 9223372036854775808 = -1:=aey
  rw[a,show(-1:Int) % 18446744073709551616=18446744073709551615 by decide,aws ag];simp only[g5,if_pos b];omega
 .have a:n.fdiv 9223372036854775808=0:=aey
  rw[a,show(0:Int) % 18446744073709551616=0 by decide,aek];show wr .u64 (((fO 64 _).toNat:Nat):Int)=_;rw[BitVec.toNat_ofInt,zi];simp only[g5,if_neg b];omega
theorem ajn{n:Int}(h:da n=ae):FY n=J (ee 9 (g5 n)):=by simp only[FY,KS,al4 h,adx (Pm h)];rfl
theorem A3{v:aH}(h:cS v=ae)(a:v.kind=4\/v.kind=5):I v.s<=1000:=by rcases a with a|a<;>simp[cS,a]at h<;>grind
theorem UL{v:aH}(h:cS v=ae):v.kind=1\/v.kind=2\/v.kind=3\/v.kind=4\/v.kind=5:=by
 by_cases h1:v.kind=1; · exact .inl h1
 by_cases h2:v.kind=2; · exact .inr (.inl h2)
 by_cases h3:v.kind=3; · exact .inr (.inr (.inl h3))
 by_cases h4:v.kind=4; · exact .inr (.inr (.inr (.inl h4)))
 by_cases h5:v.kind=5; · exact .inr (.inr (.inr (.inr h5)))
 simp[cS,h1,h2,h3,h4,h5]at h
def kj(n:Int):UInt8:=bj (wr .u8 n).toNat
def kD(v:aH):ar:=kj v.kind::(if v.kind=2 then [kj v.n]else if v.kind=3 then ee 9 (g5 v.n)else if v.kind=4\/v.kind=5 then ee 5 (I v.s)++v.s else [])
theorem aax{v:aH}(h:cS v=ae):I (kD v)<=1020:=by
 have h1:=mc 9 (g5 v.n);have h2:=mc 5 (I v.s);simp only[kD,dm];split
 .simp
 .split
  .omega
  .split
   .have:=A3 h (by assumption);rw[dc];omega
   .simp
def M2(l:U aH):ar:=(l.map kD).flatten
def hX(l:U aH):ar×Int:=cond (l.all λv=>cS v) (cond (aa (100<(I l:Int))) ([],3) (ee 9 (I l)++M2 l,0)) ([],2)
theorem agh(v:aH):hP v=cond (!cS v) 2 0:=rfl
theorem aqQ{l:U aH}{acc:ar}{b:Int}{kx:bf->x8->af (ar×Int)}(f:x8->af (ar×Int))(hi:i<I l)(h:b5 (I l))(j:da l[i].n=ae)(m:I acc<=200000000000) :
  se f kx (l,a,b,acc,l,(I l:Int),(i:Int))=cond (cS l[i]) (f (l,a,b,acc++kD l[i],l,(I l:Int),((i+1:Nat):Int))) (kx .ret (l,[],2,acc,l,(I l:Int),(i:Int))):=by
 simp only[se,ez hi,a8,bY hi,ax,cb (c:=.val) hi,cV hi h,agh];cases aE:cS l[i]with
 |false=>rfl
 |true=>
  have g:aa (I acc+1<=bJ)=true:=aY AX;have d2:∀x:ar,I x<=2000->aa (I (acc++[kj l[i].kind])+I x<=bJ)=true:=λx o=>aY AX;rcases UL aE with d|d|d|d|d
  .simp[kD,d,g,kj]
  .have e:=d2 [kj l[i].n] (by simp);simp[kj,d]at e;simp[kD,d,g,kj,e]
  .have e:=d2 (ee 9 (g5 l[i].n)) (by have:=mc 9 (g5 l[i].n);omega);simp[kj,d]at e;simp[kD,d,g,kj,ajn j,e]
  .have k:=A3 aE (.inl d);exact _z
  .have k:=A3 aE (.inr d);exact _z
theorem Lk(v:aH)(l:U aH):M2 (v::l)=kD v++M2 l:=by simp[M2]
theorem Rn:∀{l:U aH},(l.all λv=>cS v)=ae->I (M2 l)<=1020*I l
 |[],_=>by simp[M2]
 |v::l,h=>by simp only[et,bx]at h;have h1:=aax h.1;have h2:=Rn h.2;rw[Lk,dc,dm];omega
theorem Yf{l:U aH}{kx:bf->x8->af (ar×Int)}(g:I l<=4000)(d:∀v,v∈l->da v.n=ae):∀(k i:Nat) (acc:ar),i<=I l->I l-i<k->I acc+1020*(I l-i)<=200000000000 ->
  ((l.drop i).all (λv=>cS v)=ae->aT (λa=>se a kx) k (l,[],0,acc,l,(I l:Int),(i:Int))=kx (.exit 0) (l,[],0,acc++M2 (l.drop i),l,(I l:Int),(I l:Int))) /\
  ((l.drop i).all (λv=>cS v)=ai->∃b j,aT (λa=>se a kx) k (l,[],0,acc,l,(I l:Int),(i:Int))=kx .ret (l,[],2,b,l,(I l:Int),j))
 |0,_,_,_,h,_=>by omega
 |k+1,i,acc,hi,aV,cI=>by
  have c:b5 (I l):=mK
  rw[cQ];by_cases h:i<I l
  .have aE:l[i]∈l:=fo h;rw[aqQ _ h c (d _ aE) ag,List.drop_eq_getElem_cons h,et];cases m:cS l[i]with|false=>refine⟨λe=>by simp at e,λ_=>⟨_,_,rfl⟩⟩|true=>have f:=aax m;rw[a8,Bool.true_and,Lk,<-fI];exact Yf g d k (i+1) (acc++kD l[i]) h ag (by rw[dc];omega)
  .have:i=I l:=ag
   subst this;refine⟨λ_=>?_,λe=>by simp at e⟩;simp only[se,eG,a_];simp[M2]
theorem ab5{l:U aH}(b:I l<=4000)(c:∀v,v∈l->da v.n=ae):ra l=J (hX l):=by
 have f:=mc 9 (I l);obtain⟨h1,h2⟩:=Yf (l:=l) (kx:=λe d=>match d with|(bA,b6,cw,a,_,_,_)=>match e with
  |.ret=>J (b6,cw)
  |.exit 0=>cond (aa (100<(I bA:Int))) (J ([],3)) (J (a,0))
  |_=>ah) b c 5000 0 (ee 9 (I l)) ag ag ag
 have e:wr .u64 (I l:Int)=(I l:Int):=v' ag;simp only[ra,LM,e,adx (show I l<18446744073709551616 by omega),bZ,hX];rw[gH]at h1 h2;cases h:l.all (λv=>cS v)with|true=>refine(h1 h).trans ?_;show cond (aa (100<(I l:Int))) (J (([]:ar),(3:Int))) (J (ee 9 (I l)++M2 l,0))=_;cases aa (100<(I l:Int))<;>rfl|false=>obtain⟨_,_,h3⟩:=h2 h;exact h3
end Go.Proofs.YtcoaaebppfbbnaaGreatDoor
namespace Go.Proofs.YtcoaaebppfbbnaaGreatDoor
open Go.aw Go.RowKit
theorem ZW:iZ Tryz.prog 43 5 1 1:=ov b0
set_option maxRecDepth 20000 in
theorem agP(a:af Addr)(n c:Nat)(xs:U aA)(h1:xs.all one=ae)(d:n<=2000000):hg Tryz.prog 151 [.slice a n c] [] (mr (.slice a n c) 1 n xs) (mb 5 1 n xs):=by
 refine jT Tryz.func151 Tryz.ntmps151 rfl b0 rfl λw M=>?_
 repeat' (first|(refine fY ?_;(first|refine fT ?_|(apply dD rfl rfl;(first|exact gd rfl|exact gq rfl))|(apply dD rfl rfl;exact o9 1 dT rfl rfl)|(refine o6 rfl rfl ZW rfl rfl rfl rfl ?_;intro b)))|(refine fZ ?_;(first|refine hU ?_|refine ih ?_|refine kg ?_|(refine mQ rfl ?_ ?_<;>intro an<;>try contradiction)|refine hz rfl rfl ?_))|(refine f_ ?_;(first|refine fU ?_))|fail)
 .exact sJ
 .refine ur 1 ?_;refine uh 0 rfl rfl ZW rfl rfl rfl (ui (λw h=>h)) h1 ag ag ?_;intro e
  repeat' (first|(refine fY ?_;(first|refine fT ?_|(apply dD rfl rfl;(first|exact gq rfl))))|(refine fZ ?_;(first|refine hz rfl rfl ?_))|(refine f_ ?_;(first|refine fU ?_))|fail)
  refine kc ?_;simp[mb]
theorem Z2:iZ Tryz.prog 43 5 1 1:=ov b0
set_option maxRecDepth 20000 in
theorem agC(a:af Addr)(n c:Nat)(xs:U aA)(h1:xs.all one=ae)(d:n<=2000000):hg Tryz.prog 69 [.slice a n c] [] (mr (.slice a n c) 1 n xs) (mb 5 1 n xs):=by
 refine jT Tryz.func69 Tryz.ntmps69 rfl b0 rfl λw M=>?_
 repeat' (first|(refine fY ?_;(first|refine fT ?_|(apply dD rfl rfl;(first|exact gd rfl|exact gq rfl))|(apply dD rfl rfl;exact o9 1 dT rfl rfl)|(refine o6 rfl rfl Z2 rfl rfl rfl rfl ?_;intro b)))|(refine fZ ?_;(first|refine hU ?_|refine ih ?_|refine kg ?_|(refine mQ rfl ?_ ?_<;>intro an<;>try contradiction)|refine hz rfl rfl ?_))|(refine f_ ?_;(first|refine fU ?_))|fail)
 .exact sJ
 .refine ur 1 ?_;refine uh 0 rfl rfl Z2 rfl rfl rfl (ui (λw h=>h)) h1 ag ag ?_;intro e
  repeat' (first|(refine fY ?_;(first|refine fT ?_|(apply dD rfl rfl;(first|exact gq rfl))))|(refine fZ ?_;(first|refine hz rfl rfl ?_))|(refine f_ ?_;(first|refine fU ?_))|fail)
  refine kc ?_;simp[mb]
theorem FO:iZ Tryz.prog 44 46 6 112:=ov b0
set_option maxRecDepth 20000 in
theorem ags(a:af Addr)(n c:Nat)(xs:U aA)(h1:xs.all one=ae)(d:n<=2000000):hg Tryz.prog 157 [.slice a n c] [] (mr (.slice a n c) 6 n xs) (mb 46 6 n xs):=by
 refine jT Tryz.func157 Tryz.ntmps157 rfl b0 rfl λw M=>?_
 repeat' (first|(refine fY ?_;(first|refine fT ?_|(apply dD rfl rfl;(first|exact gd rfl|exact gq rfl))|(apply dD rfl rfl;exact o9 6 dT rfl rfl)|(refine o6 rfl rfl FO rfl rfl rfl rfl ?_;intro b)))|(refine fZ ?_;(first|refine hU ?_|refine ih ?_|refine kg ?_|(refine mQ rfl ?_ ?_<;>intro an<;>try contradiction)|refine hz rfl rfl ?_))|(refine f_ ?_;(first|refine fU ?_))|fail)
 .exact sJ
 .refine ur 6 ?_;refine uh 0 rfl rfl FO rfl rfl rfl (ui (λw h=>h)) h1 ag ag ?_;intro e
  repeat' (first|(refine fY ?_;(first|refine fT ?_|(apply dD rfl rfl;(first|exact gq rfl))))|(refine fZ ?_;(first|refine hz rfl rfl ?_))|(refine f_ ?_;(first|refine fU ?_))|fail)
  refine kc ?_;simp[mb]
set_option maxRecDepth 20000 in
theorem ah2(a:af Addr)(c:Nat):hg Tryz.prog 157 [.slice a 0 c] [] (λ_=>True) (λv _ _=>∃bC,v = .slice bC 0 0):=by
 refine jT Tryz.func157 Tryz.ntmps157 rfl b0 rfl λw M=>?_
 repeat' (first|(refine fY ?_;(first|refine fT ?_|(apply dD rfl rfl;(first|exact gd rfl|exact gq rfl))|(apply dD rfl rfl;exact o9 6 dT rfl rfl)|(refine o6 rfl rfl FO rfl rfl rfl rfl ?_;intro b)|(apply dD rfl rfl;exact LX FO rfl rfl)))|(refine fZ ?_;(first|refine hU ?_|refine ih ?_|refine kg ?_|(refine mQ rfl ?_ ?_<;>intro an<;>try contradiction)|refine hz rfl rfl ?_))|(refine f_ ?_;(first|refine fU ?_))|fail)
 .exact vC
 .exact vC
theorem al5:iZ Tryz.prog 43 5 1 1:=ov b0
set_option maxRecDepth 20000 in
theorem aht(n:Int)(h0 : 0<n)(d:n<=2000000):hg Tryz.prog 199 [.slice ah 0 0,.int .i64 n] [] (λ_=>True) (λv L _=>∃b q cs,v = .slice (J ⟨b,0,ah⟩) 0 q/\q<=c5/\List.length cs=q*1/\L=[.bu b cs 5]):=by
 refine jT Tryz.func199 Tryz.ntmps199 rfl b0 rfl λw M=>?_
 repeat' (first|(refine fY ?_;(first|refine fT ?_|(apply dD rfl rfl;(first|exact gd rfl|exact gq rfl|exact mA dT rfl|exact sw rfl rfl|exact qY rfl rfl|exact r3 rfl rfl ag))|(apply dD rfl rfl;exact s7 1 dT rfl)|(apply dD rfl rfl;exact pa 1 dT rfl rfl ag)))|(refine fZ ?_;(first|refine hU ?_|refine ih ?_|refine kg ?_|(refine qz rfl ?_ ?_<;>intro an<;>try (first|(exfalso;omega)))))|(refine f_ ?_;(first|refine fU ?_))|fail)
 refine JB (kn:=.i64) rfl rfl al5 dT rfl rfl ag xa ag ?_;intro bQ q cs e a c
 repeat' (first|(refine fY ?_;(first|refine fT ?_|(apply dD rfl rfl;(first|exact gd rfl|exact gq rfl|exact mA dT rfl))|(apply dD rfl rfl;exact pa 1 dT rfl rfl ag)))|(refine fZ ?_;(first|refine hU ?_|refine ih ?_|refine hz rfl rfl ?_))|(refine f_ ?_;(first|refine fU ?_))|fail)
 exact kc ⟨_,_,_,rfl,a,c,rfl⟩
set_option maxRecDepth 20000 in
theorem agA:hg Tryz.prog 199 [.slice ah 0 0,.int .i64 0] [] (λ_=>True) (λv _ _=>v = .slice ah 0 0):=by
 refine jT Tryz.func199 Tryz.ntmps199 rfl b0 rfl λw M=>?_
 repeat' (first|(refine fY ?_;(first|refine fT ?_|(apply dD rfl rfl;(first|exact gd rfl|exact gq rfl|exact mA dT rfl|exact sw rfl rfl|exact qY rfl rfl|exact r3 rfl rfl ag))|(apply dD rfl rfl;exact s7 1 dT rfl)|(apply dD rfl rfl;exact pa 1 dT rfl rfl ag)))|(refine fZ ?_;(first|refine hU ?_|refine ih ?_|refine kg ?_|refine hz rfl rfl ?_|(refine qz rfl ?_ ?_<;>intro an<;>try (first|(exfalso;omega)))))|(refine f_ ?_;(first|refine fU ?_))|fail)
 exact kc rfl
theorem Vz:Go.dS.AY Tryz.prog 199 (gP .byte) (Go.dS.aL .byte):=⟨aw.ga Tryz.func199 rfl b0,aht,agA⟩
theorem avd:iZ Tryz.prog 28 56 3 32:=ov b0
set_option maxRecDepth 20000 in
theorem ag5(n:Int)(h0 : 0<n)(d:n<=2000000):hg Tryz.prog 113 [.slice ah 0 0,.int .i64 n] [] (λ_=>True) (λv L _=>∃b q cs,v = .slice (J ⟨b,0,ah⟩) 0 q/\q<=c5/\List.length cs=q*3/\L=[.bu b cs 56]):=by
 refine jT Tryz.func113 Tryz.ntmps113 rfl b0 rfl λw M=>?_
 repeat' (first|(refine fY ?_;(first|refine fT ?_|(apply dD rfl rfl;(first|exact gd rfl|exact gq rfl|exact mA dT rfl|exact sw rfl rfl|exact qY rfl rfl|exact r3 rfl rfl ag))|(apply dD rfl rfl;exact s7 3 dT rfl)|(apply dD rfl rfl;exact pa 3 dT rfl rfl ag)))|(refine fZ ?_;(first|refine hU ?_|refine ih ?_|refine kg ?_|(refine qz rfl ?_ ?_<;>intro an<;>try (first|(exfalso;omega)))))|(refine f_ ?_;(first|refine fU ?_))|fail)
 refine JB (kn:=.i64) rfl rfl avd dT rfl rfl ag xa ag ?_;intro bQ q cs e a c
 repeat' (first|(refine fY ?_;(first|refine fT ?_|(apply dD rfl rfl;(first|exact gd rfl|exact gq rfl|exact mA dT rfl))|(apply dD rfl rfl;exact pa 3 dT rfl rfl ag)))|(refine fZ ?_;(first|refine hU ?_|refine ih ?_|refine hz rfl rfl ?_))|(refine f_ ?_;(first|refine fU ?_))|fail)
 exact kc ⟨_,_,_,rfl,a,c,rfl⟩
set_option maxRecDepth 20000 in
theorem agI:hg Tryz.prog 113 [.slice ah 0 0,.int .i64 0] [] (λ_=>True) (λv _ _=>v = .slice ah 0 0):=by
 refine jT Tryz.func113 Tryz.ntmps113 rfl b0 rfl λw M=>?_
 repeat' (first|(refine fY ?_;(first|refine fT ?_|(apply dD rfl rfl;(first|exact gd rfl|exact gq rfl|exact mA dT rfl|exact sw rfl rfl|exact qY rfl rfl|exact r3 rfl rfl ag))|(apply dD rfl rfl;exact s7 3 dT rfl)|(apply dD rfl rfl;exact pa 3 dT rfl rfl ag)))|(refine fZ ?_;(first|refine hU ?_|refine ih ?_|refine kg ?_|refine hz rfl rfl ?_|(refine qz rfl ?_ ?_<;>intro an<;>try (first|(exfalso;omega)))))|(refine f_ ?_;(first|refine fU ?_))|fail)
 exact kc rfl
theorem Vn:Go.dS.AY Tryz.prog 113 (gP .val) (Go.dS.aL .val):=⟨aw.ga Tryz.func113 rfl b0,ag5,agI⟩
theorem av2:iZ Tryz.prog 32 80 2 48:=ov b0
set_option maxRecDepth 20000 in
theorem anq(n:Int)(h0 : 0<n)(d:n<=2000000):hg Tryz.prog 70 [.slice ah 0 0,.int .i64 n] [] (λ_=>True) (λv L _=>∃b q cs,v = .slice (J ⟨b,0,ah⟩) 0 q/\q<=c5/\List.length cs=q*2/\L=[.bu b cs 80]):=by
 refine jT Tryz.func70 Tryz.ntmps70 rfl b0 rfl λw M=>?_
 repeat' (first|(refine fY ?_;(first|refine fT ?_|(apply dD rfl rfl;(first|exact gd rfl|exact gq rfl|exact mA dT rfl|exact sw rfl rfl|exact qY rfl rfl|exact r3 rfl rfl ag))|(apply dD rfl rfl;exact s7 2 dT rfl)|(apply dD rfl rfl;exact pa 2 dT rfl rfl ag)))|(refine fZ ?_;(first|refine hU ?_|refine ih ?_|refine kg ?_|(refine qz rfl ?_ ?_<;>intro an<;>try (first|(exfalso;omega)))))|(refine f_ ?_;(first|refine fU ?_))|fail)
 refine JB (kn:=.i64) rfl rfl av2 dT rfl rfl ag xa ag ?_;intro bQ q cs e a c
 repeat' (first|(refine fY ?_;(first|refine fT ?_|(apply dD rfl rfl;(first|exact gd rfl|exact gq rfl|exact mA dT rfl))|(apply dD rfl rfl;exact pa 2 dT rfl rfl ag)))|(refine fZ ?_;(first|refine hU ?_|refine ih ?_|refine hz rfl rfl ?_))|(refine f_ ?_;(first|refine fU ?_))|fail)
 exact kc ⟨_,_,_,rfl,a,c,rfl⟩
set_option maxRecDepth 20000 in
theorem agZ:hg Tryz.prog 70 [.slice ah 0 0,.int .i64 0] [] (λ_=>True) (λv _ _=>v = .slice ah 0 0):=by
 refine jT Tryz.func70 Tryz.ntmps70 rfl b0 rfl λw M=>?_
 repeat' (first|(refine fY ?_;(first|refine fT ?_|(apply dD rfl rfl;(first|exact gd rfl|exact gq rfl|exact mA dT rfl|exact sw rfl rfl|exact qY rfl rfl|exact r3 rfl rfl ag))|(apply dD rfl rfl;exact s7 2 dT rfl)|(apply dD rfl rfl;exact pa 2 dT rfl rfl ag)))|(refine fZ ?_;(first|refine hU ?_|refine ih ?_|refine kg ?_|refine hz rfl rfl ?_|(refine qz rfl ?_ ?_<;>intro an<;>try (first|(exfalso;omega)))))|(refine f_ ?_;(first|refine fU ?_))|fail)
 exact kc rfl
theorem Zj:Go.dS.AY Tryz.prog 70 (gP .kv) (Go.dS.aL .kv):=⟨aw.ga Tryz.func70 rfl b0,anq,agZ⟩
open Go.dS
theorem ahn:mI Tryz.prog 151 (gP .byte) (aL .byte):=⟨aw.ga Tryz.func151 rfl b0,agP⟩
theorem agY:mI Tryz.prog 69 (gP .byte) (aL .byte):=⟨aw.ga Tryz.func69 rfl b0,agC⟩
theorem Qf:mI Tryz.prog 157 (gP .node) (aL .node):=⟨aw.ga Tryz.func157 rfl b0,ags⟩
theorem PU:s9 Tryz.prog 157:=ah2
theorem ahb:aN 151 [aC] [.sl .byte ae] (Oc .byte):=D' ahn
theorem ahc:aN 69 [aC] [.sl .byte ae] (Oc .byte):=D' agY
end Go.Proofs.YtcoaaebppfbbnaaGreatDoor
