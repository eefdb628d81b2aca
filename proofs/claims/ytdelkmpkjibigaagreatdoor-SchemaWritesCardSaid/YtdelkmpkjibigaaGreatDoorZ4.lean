/- Texts of the proof,one behind the other: AxRn,Pf,Lo,Qa,Qb,Qc,Qd,Qe,AxIn,SxL,SxM,AxTh,Tw,Pa,Lc,Na,Lm,Ar,Shp,Sr,Dg,Nc,Eb,Fc,Es. -/
import Derived.Test.YtdelkmpkjibigaaGreatDoorZ3
import Derived.KernelRfl
import Derived.Laws.Cover3
import Derived.Laws.CopyRow
import Derived.Lib.Overlaps
import Derived.Lib.AppendZerosOnto
import Derived.Test.YtdelkmpkjibigaaGreatDoorProg
import Derived.Lib.Bytealg
import Derived.Shelf.Strings.Replace
set_option linter.all false
open List renaming length->I,replicate->lX,range->hg,mem_of_getElem?->lW,getElem_mem->hf,getElem?_take->h5,getElem?_drop->kr,length_take->jL
open Option renaming some->J,none->aj
open Bool renaming true->ab,false->ai,true_and->jo,cond_decide->mq
open Decidable renaming decide->aa
open Nat renaming mul_le_mul_right->ly,beq->cp,ble->eF,blt->eU,le_trans->fV,zero_le->cL,zero_add->h6
open Go.Instr renaming sliceBounds->ko
open Go.IntKind renaming signed->lu,bits->kp,u8->n'
open UInt8 renaming ofNat->eh
open BitVec renaming ofInt->km
open Go.Sem renaming run_bind->e3,run_pure->ga
open Go.Result renaming andThen_ok->gr
open Go.World renaming cell?->h7
open Go.Builtin renaming append_->oT,zeroCells->iM
open Ne renaming symm->hE
open Go renaming Value->aD,IntKind->df,Operand->cO,Builtin->jq,Oper->bx,World->aT,TypeId->bD,maxLen->dr,Program->cP,execOp->cE,run_underlying->dO,grownCap->hU
open Option.some renaming inj->ks
open Go.Lib renaming indexByte->lv
open Int renaming tmod->gZ,tdiv->f'
namespace Go
theorem bW{p:Prop}(h:p:=by kernel_rfl):p:=h
theorem ec{p:Prop}(h:p:=by simp[dc];omega):p:=h
theorem gi{p:Prop}(h:p:=by dsimp only;decide +kernel):p:=h
theorem gN{p:Prop}(h:p:=by decide +kernel):p:=h
theorem dM{p:Prop}(h:p:=by decide):p:=h
theorem iC{p:Prop}(h:p:=by simp[b1];omega):p:=h
theorem oe{p:Prop}(h:p:=by have:=nH ag;omega):p:=h
theorem rM{p:Prop}(h:p:=by rw[ff];omega):p:=h
theorem qs{p:Prop}(h:p:=by rw[iW,iW]):p:=h
theorem aj9{p:Prop}(h:p:=by rw[s];show fh _ _ _ (cs'.take ((I xs+1)*2));rw[a9];exact ct):p:=h
theorem uP{p:Prop}(h:p:=by rw[e];exact f):p:=h
theorem S6{p:Prop}(h:p:=by rw[List.drop_drop];congr 1;omega):p:=h
theorem KE{p:Prop}(h:p:=by rw[H.p,H.e,H.g];exact h):p:=h
theorem akf{p:Prop}(h:p:=by simp[df.wrap,kp,lu]):p:=h
theorem S_{p:Prop}(h:p:=by simpa[av.e9]using cw.fw):p:=h
theorem S'{p:Prop}(h:p:=by simpa using T3 l i h.1 0):p:=h
theorem Tc{p:Prop}(h:p:=by simp[av.e9,av.fB.dZ]):p:=h
theorem Te{p:Prop}(h:p:=by rw[H.p,H.e];exact h):p:=h
theorem Tf{p:Prop}(h:p:=by rw[cr]at h;cases h):p:=h
end Go
namespace Go
theorem lA{p:Prop}(h:p:=by cases h;omega):p:=h
theorem pw{p:Prop}(h:p:=by decide +kernel):p:=h
theorem sU{p:Prop}(h:p:=by rw[gn (bU _),gn af];rfl):p:=h
theorem CN{p:Prop}(h:p:=by rw[aL c,if_neg c];rfl):p:=h
theorem G0{p:Prop}(h:p:=by rw[if_neg af,gn af];rfl):p:=h
theorem G1{p:Prop}(h:p:=by rw[aL af,this];rfl):p:=h
theorem RL{p:Prop}(h:p:=by simp[wr,df.wrap,kp,lu]):p:=h
theorem adu{p:Prop}(h:p:=by cases aa (a.kind=b.kind)<;>cases aa (a.v=b.v)<;>cases aa (a.name=b.name)<;>cases lz a.l b.l<;>rfl):p:=h
theorem adz{p:Prop}(h:p:=by cases aa (a.kind=b.kind)<;>cases aa (a.v=b.v)<;>cases aa (a.name=b.name)<;>rfl):p:=h
theorem ai4{p:Prop}(h:p:=by rw[s]at f_;exact⟨_,rfl,_,_,a6,gK,⟨rfl,rfl,rfl,rfl,rfl⟩,fJ,f_⟩):p:=h
end Go
namespace Go.ft
structure m7 (P:cP) (el:cl->bD) (cD:Nat->Option lI) (a1:Nat->ej) (ah:di):Prop where
 p:ah.P=P
 e:ah.el=el
 g:ah.cD=cD
 t:∀t,fO P el a1 t=ab
 m:P.follows .mixedOrders=ab
structure bP {R:Type}(ah:di) (px:aR R):Prop where
 p:gx ah px
 c:lG ah px
 q:mv ah px
section
variable {R:Type}{P:cP}{el:cl->bD}{cD:Nat->ae lI}{a1:Nat->ej}{ah:di}
theorem br{px:aR R}{l:U (Nat×ox R)}{a:U (Nat×qS R)}{b:U (Nat×wz R)}(H:m7 P el cD a1 ah)(h:∀g f,(g,f)∈l->kb ah g f)(c:∀g f,(g,f)∈a->s0 ah g f)(d:∀g f,(g,f)∈b->pP ah g f)(i:px.a1=a1:=by rfl)(j:px.cD=cD:=by rfl)(k:px.call=D1 l:=by rfl)(m:px.LX=Dx a:=by rfl)(n:px.LY=eT b:=by rfl):bP ah px:=⟨⟨λt=>by rw[i,H.p,H.e];exact H.t t,by rw[j,H.g]⟩,aor k h,axb m n c d⟩
variable{cj:U cA}{b3:U cA}{F:aw cj->ae (aw b3)}{g:Nat}
theorem aDt(H:m7 P el cD a1 ah)(h:fH P el cD g cj b3 F)(a:l8 (dw 0 cj) []=true:=by kernel_rfl):kb (R:=R) ah g (zT cj b3 F):=aB6 KE a
variable{aM:bn}{bL:bn}
theorem aDs(H:m7 P el cD a1 ah){F:pG aM bL}(h:fX P el cD g aM bL F)(a:yi aM bL=true:=by kernel_rfl):kb (R:=R) ah g (cT aM bL F):=aBK KE a
variable{c:Code}{fn:Func}
theorem eS(H:m7 P el cD a1 ah){nb bu:Nat}{d:aR R}{n:Nat}(h:bP ah d)(e:P.funcs[g]? = J fn)(al:fn.body=J c)(f:∀i,i<n->hX ah d (b0 fn i))(a:(fn.name == "runtime.NumGoroutine")=false:=by kernel_rfl)(b:qY fn=true:=by kernel_rfl)(j:r' fn=n:=by kernel_rfl):kb ah g (ey nb bu d fn):=aA4 h.p h.c h.q (by rw[H.p];exact H.m) (by rw[H.p];exact e) al a b j f
theorem c1(H:m7 P el cD a1 ah){l:U (Nat×ox R)}(h:fH P el cD g cj b3 F)(b:∀g f,(g,f)∈l->kb ah g f)(a:l8 (dw 0 cj) []=true:=by kernel_rfl):∀g' gI,(g',gI)∈(g,zT cj b3 F)::l->kb ah g' gI:=et (aDt H h a) b
theorem aQ(H:m7 P el cD a1 ah){F:pG aM bL}{l:U (Nat×ox R)}(h:fX P el cD g aM bL F)(b:∀g f,(g,f)∈l->kb ah g f)(a:yi aM bL=true:=by kernel_rfl):∀g' gI,(g',gI)∈(g,cT aM bL F)::l->kb ah g' gI:=et (aDs H h a) b
theorem bc(H:m7 P el cD a1 ah){l:U (Nat×qS R)}(h:fH P el cD g cj b3 F)(b:∀g f,(g,f)∈l->s0 ah g f)(a:l8 (dw 0 cj) []=true:=by kernel_rfl):∀g' gI,(g',gI)∈(g,Dc cj b3 F)::l->s0 ah g' gI:=avw (aA9 KE a) b
theorem w1(H:m7 P el cD a1 ah){F:aw aM.cF->ae (aw bL.cF)}{l:U (Nat×wz R)}(h:fX P el cD g aM bL F)(b:∀g f,(g,f)∈l->pP ah g f)(a:yi aM bL=true:=by kernel_rfl):∀g' gI,(g',gI)∈(g,l5 aM bL F)::l->pP ah g' gI:=VX (aBN KE a) b
variable{k:Nat}
theorem cd{px:aR R}(H:m7 P el cD a1 ah)(h:bP ah px){b:Code}{n:Nat}{s:bn}{step:rF (aw s.cF) R}(a:∀cx rec kx v,q6 px s b cx rec kx v=step rec kx v)(d:∀i,i<n->hX ah px (vN b i))(e:∀st K,px.loop b st K=b8 k s step st K:=by exactλ_ _=>by kernel_rfl)(f:nE s=true:=by kernel_rfl)(g:I (jg b)=n:=by kernel_rfl):hX ah px b:=azO h.p h.c h.q (by rw[H.p];exact H.m) e f a (xA g d)
variable{f:FuncId}
theorem aDA{px:aR (aw b3)}{F:bt cj b3}{n:Nat}(j:∀t,fO P el a1 t=ab)(hm:P.follows .mixedOrders=ab)(k:P.funcs[f]? = J fn)(al:fn.body=J c)(d:(fn.name == "runtime.NumGoroutine")=ai)(e:(qY fn&&eF (I cj) fn.ntmps&&l8 (dw 0 cj) [])=ab)(l:r' fn=n)
  (h:∀ah,m7 P el cD a1 ah->bP ah px/\∀i,i<n->hX ah px (b0 fn i)) (m:∀x,DT px fn cj b3 x J=F x):fH P el cD f cj b3 F:=
 afR k al d hm e l (λah a b c _=>by obtain⟨g,o⟩:=h ah ⟨a,b,c,j,hm⟩;exact⟨g.p,g.c,g.q,o⟩) m
theorem aDz{px:aR (aw bL.cF)}{F:pG aM bL}{n:Nat}(j:∀t,fO P el a1 t=ab)(hm:P.follows .mixedOrders=ab)(k:P.funcs[f]? = J fn)(al:fn.body=J c)(d:(fn.name == "runtime.NumGoroutine")=ai)(e:(qY fn&&eF aM.n fn.ntmps)=ab)(l:r' fn=n)
  (h:∀ah,m7 P el cD a1 ah->bP ah px/\∀i,i<n->hX ah px (b0 fn i)) (m:∀x,D0 px fn aM bL x J=F x):fX P el cD f aM bL F:=
 aop k al d hm e l (λah a b c=>by obtain⟨g,o⟩:=h ah ⟨a,b,c,j,hm⟩;exact⟨g.p,g.c,g.q,o⟩) m
end
variable{i:Nat}
theorem jr{s:ak}(h:i<I s):b_ s (i:Int)=((s[i]'h).toNat:Int):=by simp[b_,List.getD_eq_getElem?_getD,h]
theorem cR{c:cl}{xs:U (dy c)}(h:i<I xs):at' c xs (i:Int)=xs[i]'h:=by simp[at',List.getD_eq_getElem?_getD,h]
theorem ac8{n:Nat}(h:b1 n):wr .i64 (n:Int)=(n:Int):=d_ (by simp only[b1,dc]at *;omega)
theorem c9{n:Nat}(h:i<n)(a:b1 n):wr .i64 ((i:Int)+1)=((i+1:Nat):Int):=by rw[d_ (by simp only[b1,dc]at *;omega)];rfl
variable{α:Type}
theorem da{l:U α}(h:i<I l):l.drop i=l[i]'h::l.drop (i+1):=List.drop_eq_getElem_cons h
theorem cg{n:Nat}(h:i<n):a_ (i:Int) n=true:=by simp[ay2,h]
variable{R:Type}{V:Type}{k:Nat}
theorem c6{step:(V->ae R)->V->ae R}{v:V}:aI step (k+1) v=step (aI step k) v:=rfl
variable{a:α}
theorem bd{b:α}:cond ab a b=a:=rfl
theorem bj{b:α}:cond ai a b=b:=rfl
theorem gb{c:Bool}{b:α}:cond c (J a) (J b)=J (cond c a b):=by cases c<;>rfl
theorem auN{px:aR R}{ah:di}{b:Code}(h:∀st K,px.loop b st K=aj):hX ah px b:=λst K r a=>by rw[h]at a;cases a
theorem lB{V R β:Type}{step:(V->ae R)->V->ae R}(n:Nat)(st:Nat->β->V)(Inv:Nat->β->Prop)(F:Nat->β->ae R)
  (c:∀i,i<n->∀a,Inv i a->∀rec,(∀ca,Inv (i+1) ca->rec (st (i+1) ca)=F (i+1) ca)->step rec (st i a)=F i a)
  (d:∀a,Inv n a->∀rec,step rec (st n a)=F n a):∀(k i:Nat) (a : β),i<=n->n-i<k->Inv i a->aI step k (st i a)=F i a
 |0,_,_,_,h,_=>absurd h (dY _)
 |k+1,i,a,bO,h,c5=>by
  rw[c6];by_cases e:i<n
  .exact c i e a c5 _ λca b=>lB n st Inv F c d k (i+1) ca af af b
  .obtain rfl:i=n:=af
   exact d a c5 _
theorem hV{step:(V->ae R)->V->ae R}(n:Nat)(st:Nat->V)(F:Nat->ae R)
  (b:∀i,i<n->∀rec,rec (st (i+1))=F (i+1)->step rec (st i)=F i) (c:∀rec,step rec (st n)=F n):∀(k i:Nat),i<=n->n-i<k->aI step k (st i)=F i:=λk i a d=>
 lB n (λi (_:Unit)=>st i) (λ_ _=>True) (λi _=>F i) (λi a _ _ rec h=>b i a rec (h () trivial)) (λ_ _ rec=>c rec) k i () a d trivial
theorem ea{n:Nat}(h:i<n):aa ((i:Int)<(n:Int))=true:=aH af
theorem eu(n:Nat):aa ((n:Int)<(n:Int))=false:=aL af
def gv(e:aq):aq:=aq.mk e.kind ⟨e.v.kind,e.v.n,e.v.s⟩ e.name e.l
theorem m1(e:aq):gv e=e:=by cases e;rfl
end Go.ft
namespace Go.Proofs.YtdelkmpkjibigaaGreatDoor
open Go.ft
abbrev aA:=U Tok
abbrev bR(α:Type):=Except aA (α×aA)
def aV(s:ak):aA->Bool|t::_=>(aa (t.kind=1)||decide (t.kind=6))&&aa (t.s=s)|[]=>ai
def fq(k:Int)(l:U aq):aq:=.mk k ⟨0,0,[]⟩ [] l
def ma(k n:Int)(s:ak):aq:=.mk 1 ⟨k,n,s⟩ [] []
def hi:ak:=[78,79,84]
def nu:ak:=[73,83]
def hJ:ak:=[78,85,76,76]
def ud:ak:=[84,82,85,69]
def vp:ak:=[70,65,76,83,69]
def uL:ak:=[65,78,68]
def Ge:ak:=[79,82]
def eL{α:Type}(p:aA->bR α):Prop:=∀l e aC,p l = .ok (e,aC)->I aC<I l
def iD(rec:aA->bR aq)(l:aA):bR aq:=match l with
 |[]=>.error []
 |t::r=>if t.kind=2 then .ok (.mk 2 ⟨0,0,[]⟩ t.s [],r)else if t.kind=3 then .ok (ma 3 t.n [],r)else if t.kind=4 then .ok (ma 4 0 t.s,r)else if t.kind=5 then .ok (ma 5 0 t.s,r)else if t.kind=1/\t.s=ud then .ok (ma 2 1 [],r)else if t.kind=1/\t.s=vp then .ok (ma 2 0 [],r)else if t.kind=1/\t.s=hJ then .ok (ma 1 0 [],r)else if aV [40] (t::r)then match rec r with|.error q=>.error q|.ok (e,aC)=>if aV [41] aC then .ok (e,aC.tail)else .error aC else .error (t::r)
def kB(part:aA->bR aq)(aM:U (ak×Int)):Nat->aq->aA->bR aq
 |0,_,l=>.error l
 |n+1,e,l=>match aM.find? (λp=>aV p.1 l)with
  |none=>.ok (e,l)
  |some p=>match part l.tail with|.error q=>.error q|.ok (x,aC)=>kB part aM n (fq p.2 [e,x]) aC
def hh(part:aA->bR aq)(aM:U (ak×Int))(l:aA):bR aq:=match part l with|.error q=>.error q|.ok (e,aC)=>kB part aM (I aC+1) e aC
def gd(s:ak)(k:Int)(part:aA->bR aq):aA->bR aq
 |[]=>part []
 |t::r=>match aV s (t::r)with
  |true=>match gd s k part r with|.error q=>.error q|.ok (e,aC)=>.ok (fq k [e],aC)
  |false=>part (t::r)
def vC:U (ak×Int):=[([61],6),([60,62],7),([60],8),([60,61],9),([62],10),([62,61],11)]
def n5(e:aq)(l:aA):bR aq:=match aV hi l.tail with
 |true=>match aV hJ l.tail.tail with|true=>.ok (fq 3 [fq 16 [e]],l.tail.tail.tail)|false=>.error l.tail.tail
 |false=>match aV hJ l.tail with|true=>.ok (fq 16 [e],l.tail.tail)|false=>.error l.tail
def mW(sum:aA->bR aq)(l:aA):bR aq:=match sum l with
 |.error q=>.error q
 |.ok (e,aC)=>match vC.find? (λp=>aV p.1 aC)with
  |some p=>match sum aC.tail with|.error q=>.error q|.ok (x,Cw)=>.ok (fq p.2 [e,x],Cw)
  |none=>match aV nu aC with|true=>n5 e aC|false=>.ok (e,aC)
def yh(rec:aA->bR aq):Nat->aA->bR aq|1=>hh (hh (gd hi 3 (mW (hh (hh (gd [45] 15 (iD rec)) [([42],14)]) [([43],12),([45],13)]))) [(uL,4)]) [(Ge,5)]|2=>hh (gd hi 3 (mW (hh (hh (gd [45] 15 (iD rec)) [([42],14)]) [([43],12),([45],13)]))) [(uL,4)]|3=>gd hi 3 (mW (hh (hh (gd [45] 15 (iD rec)) [([42],14)]) [([43],12),([45],13)]))|4=>mW (hh (hh (gd [45] 15 (iD rec)) [([42],14)]) [([43],12),([45],13)])|5=>hh (hh (gd [45] 15 (iD rec)) [([42],14)]) [([43],12),([45],13)]|6=>hh (gd [45] 15 (iD rec)) [([42],14)]|_=>gd [45] 15 (iD rec)
def vS:Nat->aA->bR aq|0,l=>.error l|n+1,l=>yh (vS n) 1 l
def gq(l:aA):bR aq:=vS (I l+1) l
theorem ju{s:ak}{l:aA}(h:aV s l=ab):I l.tail+1=I l:=by cases l with|nil=>cases h|cons t r=>rfl
theorem h8(l:aA):I l.tail<=I l:=by cases l<;>simp
variable{rec:aA->bR aq}
theorem Og(b:eL rec):eL (iD rec):=λl e aC h=>by
 cases l with
 |nil=>cases h
 |cons t r=>
  simp[iD]at h;by_cases d:t.kind=2
  .grind
  simp[*]at h;by_cases f:t.kind=3
  .grind
  simp[*]at h;by_cases g:t.kind=4
  .grind
  simp[*]at h;by_cases i:t.kind=5
  .grind
  simp[*]at h;by_cases j:t.kind=1/\t.s=ud
  .grind
  simp[*]at h;by_cases k:t.kind=1/\t.s=vp
  .grind
  simp[*]at h;by_cases n:t.kind=1/\t.s=hJ
  .grind
  simp[*]at h;by_cases c:aV [40] (t::r)=ab
  .rw[if_pos c]at h;cases a:rec r with
   |error q=>rw[a]at h;cases h
   |ok x=>
    obtain⟨o,m⟩:=x;have p:=b _ _ _ a
    grind
  .grind
variable{aM:U (ak×Int)}
theorem ahE{l:aA}{p:ak×Int}(h:aM.find? (λp=>aV p.1 l)=J p):aV p.1 l=true:=im
theorem ag4{part:aA->bR aq}{aM:U (ak×Int)}(a:eL part):∀(n:Nat) (e:aq) (l:aA) (b:aq) (aC:aA),kB part aM n e l = .ok (b,aC)->I aC<=I l
 |0,_,_,_,_,h=>by cases h
 |n+1,e,l,b,aC,h=>by
  simp[kB]at h;cases d:aM.find? (λp=>aV p.1 l)with
  |none=>grind
  |some p=>rw[d]at h;cases c:part l.tail with|error q=>grind|ok x=>simp[c]at h;have f:=a _ _ _ c;have g:=ag4 a n _ _ _ _ h;have i:=h8 l;omega
theorem rV{part:aA->bR aq}(b:eL part):eL (hh part aM):=λl e aC h=>by simp[hh]at h;cases a:part l with|error q=>rw[a]at h;cases h|ok x=>rw[a]at h;have c:=b _ _ _ a;have d:=ag4 b _ _ _ _ _ h;omega
theorem xd{s:ak}{k:Int}{part:aA->bR aq}(a:eL part):∀(l:aA) (e:aq) (aC:aA),gd s k part l = .ok (e,aC)->I aC<I l
 |[],e,aC,h=>a _ _ _ h
 |t::r,e,aC,h=>by
  simp[gd]at h;cases b:aV s (t::r)with
  |true=>
   rw[b]at h;cases c:gd s k part r with
   |error q=>grind
   |ok x=>
    simp only[c]at h;have d:=xd a r _ _ c
    grind
  |false=>rw[b]at h;exact a _ _ _ h
variable{e:aq}
theorem apB{l:aA}{a:aq}{aC:aA}(h:n5 e l = .ok (a,aC)):I aC<=I l:=by
 simp[n5]at h
 grind
theorem P_{sum:aA->bR aq}(c:eL sum):eL (mW sum):=λl e aC h=>by
 simp[mW]at h;cases b:sum l with
 |error q=>rw[b]at h;cases h
 |ok x=>
  obtain⟨g,m⟩:=x;rw[b]at h;have i:=c _ _ _ b;have j:=h8 m;cases d:vC.find? (λp=>aV p.1 m)with
  |some p=>
   simp[d]at h;cases a:sum m.tail with
   |error q=>grind
   |ok y=>simp only[a]at h;have k:=c _ _ _ a;injection h with h;injection h with _ h;rw[<-h];omega
  |none=>simp[d]at h;cases f:aV nu m with|true=>simp[f]at h;have:=apB h;omega|false=>grind
theorem afT(g:eL rec)(k:Nat):eL (yh rec k):=by have a:eL (gd [45] 15 (iD rec)):=xd (Og g);have b:=rV (aM:=[([42],14)]) a;have c:=rV (aM:=[([43],12),([45],13)]) b;have d:=P_ c;have e:eL (gd hi 3 _):=xd d;have f:=rV (aM:=[(uL,4)]) e;have h:=rV (aM:=[(Ge,5)]) f;match k with|0=>exact a|1=>exact h|2=>exact f|3=>exact e|4=>exact d|5=>exact c|6=>exact b|k+7=>exact a
theorem Ie:∀n,eL (vS n)
 |0=>λ_ _ _ h=>by cases h
 |n+1=>afT (Ie n) 1
theorem qF:eL gq:=λl e aC h=>Ie _ l e aC h
def oa{α:Type}(L:Nat)(p q:aA->bR α):Prop:=∀m,I m<L->p m=q m
variable{L:Nat}{q:aA->bR aq}
theorem aqs{p:aA->bR aq}(h:oa L p q):oa (L+1) (iD p) (iD q):=λm hm=>by cases m with|nil=>rfl|cons t r=>simp at hm;simp[iD,h r af]
theorem ajp{L:Nat}{p q:aA->bR aq}{aM:U (ak×Int)}(h:oa L p q)(a:eL p):∀(n:Nat) (e:aq) (l:aA),I l<L->kB p aM n e l=kB q aM n e l
 |0,_,_,_=>rfl
 |n+1,e,l,bz=>by
  have c:=h8 l;simp[kB,<-h l.tail af];cases aM.find? (λp=>aV p.1 l)with
  |none=>rfl
  |some s=>cases b:p l.tail with|error q=>rfl|ok x=>obtain⟨d,m⟩:=x;have f:=a _ _ _ b;exact ajp h a n _ m af
theorem JB{p:aA->bR aq}(h:oa L p q)(a:eL p):oa L (hh p aM) (hh q aM):=λm hm=>by simp[hh,<-h m hm];cases b:p m with|error q=>rfl|ok x=>obtain⟨d,c⟩:=x;have e:=a _ _ _ b;exact ajp h a _ _ c af
theorem QI{L:Nat}{s:ak}{k:Int}{p q:aA->bR aq}(h:oa L p q):∀m:aA,I m<L->gd s k p m=gd s k q m
 |[],hm=>h [] hm
 |t::r,hm=>by simp at hm;simp[gd,QI h r af,h (t::r) (by simpa using hm)]
theorem aAH{p:aA->bR aq}(h:oa L p q)(b:eL p):oa L (mW p) (mW q):=λm hm=>by simp[mW,<-h m hm];cases c:p m with|error q=>rfl|ok x=>obtain⟨d,a⟩:=x;have e:=b _ _ _ c;have f:=h8 a;simp[<-h a.tail af]
theorem aco{p:aA->bR aq}(h:oa L p q)(m:eL p)(k:Nat):oa (L+1) (yh p k) (yh q k):=by have b:eL (gd [45] 15 (iD p)):=xd (Og m);have c:=rV (aM:=[([42],14)]) b;have d:=rV (aM:=[([43],12),([45],13)]) c;have n:=P_ d;have e:eL (gd hi 3 _):=xd n;have o:=rV (aM:=[(uL,4)]) e;have a:oa (L+1) (gd [45] 15 (iD p)) (gd [45] 15 (iD q)):=QI (aqs h);have f:=JB (aM:=[([42],14)]) a b;have g:=JB (aM:=[([43],12),([45],13)]) f c;have i:=aAH g d;have j:oa (L+1) (gd hi 3 _) (gd hi 3 _):=QI i;have l:=JB (aM:=[(uL,4)]) j e;have r:=JB (aM:=[(Ge,5)]) l o;match k with|0=>exact a|1=>exact r|2=>exact l|3=>exact j|4=>exact i|5=>exact g|6=>exact f|k+7=>exact a
theorem acr:∀(L n m:Nat),L<=n->L<=m->oa L (vS n) (vS m)
 |0,_,_,_,_=>λ_ h=>absurd h (dY _)
 |L+1,n+1,m+1,ck,hm=>aco (acr L n m af af) (Ie n) 1
 |L+1,0,_,h,_=>by omega
 |L+1,_,0,_,h=>by omega
theorem aBY{l:aA}{n:Nat}(h:I l<n):vS n l=gq l:=acr (I l+1) n (I l+1) af (bU _) l af
theorem aBy(n:Nat):oa n (vS n) gq:=λ_ h=>aBY h
theorem ahW(l:aA):gq l=yh gq 1 l:=aco (aBy (I l)) (Ie _) 1 l af
def su:U (ak×Nat×Int):=[(uL,2,4),(Ge,1,5),([61],4,6),([60,62],4,7),([60],4,8),([60,61],4,9),([62],4,10),([62,61],4,11),([43],5,12),([45],5,13),([42],6,14)]
def ee(s:ak):Nat×Int:=match su.find? (λp=>aa (s=p.1))with|some p=>p.2|none=>(0,0)
def fo:aA->Nat×Int|[]=>(0,0)|t::_=>match aa (t.kind=1)||decide (t.kind=6)with|true=>ee t.s|false=>(0,0)
def rh:Nat->U (ak×Int)|1=>[(Ge,5)]|2=>[(uL,4)]|4=>vC|5=>[([43],12),([45],13)]|6=>[([42],14)]|_=>[]
abbrev mI:=aq×Nat×aA
def me(rec:Nat->aA->bR aq)(k:Nat)(l:aA):Except aA mI:=match aV hi l&&aa (k<=3)with
 |true=>match rec 3 l.tail with|.error q=>.error q|.ok (x,aC)=>.ok (fq 3 [x],3,aC)
 |false=>match aV [45] l with
  |true=>match rec 7 l.tail with|.error q=>.error q|.ok (x,aC)=>.ok (fq 15 [x],7,aC)
  |false=>match iD (rec 1) l with|.error q=>.error q|.ok (x,aC)=>.ok (x,7,aC)
def ha(rec:Nat->aA->bR aq)(k:Nat)(s:mI):ae (Except aA mI):=if aV nu s.2.2=ab/\k<=4/\4<s.2.1 then J (match n5 s.1 s.2.2 with|.error q=>.error q|.ok (x,aC)=>.ok (x,4,aC))else if(fo s.2.2).1=0\/(fo s.2.2).1<k\/s.2.1<(fo s.2.2).1\/((fo s.2.2).1=4/\s.2.1=4)then aj else J (match rec ((fo s.2.2).1+1) s.2.2.tail with|.error q=>.error q|.ok (x,aC)=>.ok (fq (fo s.2.2).2 [s.1,x],(fo s.2.2).1,aC))
def fN(rec:Nat->aA->bR aq)(k:Nat):Nat->mI->Except aA mI|0,s=>.error s.2.2|n+1,s=>match ha rec k s with|none=>.ok s|some (.error q)=>.error q|some (.ok s')=>fN rec k n s'
def uj(x:Except aA mI)(f:mI->Except aA mI):Except aA mI:=match x with|.error q=>.error q|.ok s=>f s
def oH(rec:Nat->aA->bR aq)(k:Nat)(l:aA):Except aA mI:=uj (me rec k l) λs=>fN rec k (I s.2.2+1) s
def L2(rec:Nat->aA->bR aq)(k:Nat)(l:aA):bR aq:=match oH rec k l with|.error q=>.error q|.ok s=>.ok (s.1,s.2.2)
theorem aq3(s:ak):(ee s).1<=6/\(ee s).1≠3:=by
 simp[ee];cases h:su.find? (λp=>aa (s=p.1))with
 |none=>simp
 |some p=>
  have a:∀p,p∈su->p.2.1<=6/\p.2.1≠3:=dM
  exact a p (List.mem_of_find?_eq_some h)
theorem Iy(l:aA):(fo l).1<=6/\(fo l).1≠3:=by
 cases l with
 |nil=>simp[fo]
 |cons t r=>simp[fo];cases aa (t.kind=1)||decide (t.kind=6)with|true=>exact aq3 t.s|false=>simp
theorem Rx{l:aA}(h:aV nu l=ab):fo l=(0,0):=by cases l with|nil=>rfl|cons t r=>simp only[aV,bN,fQ]at h;simp[fo,h.1,h.2];decide
theorem axw(n:Nat)(s:ak)(b:n=1\/n=2\/n=4\/n=5\/n=6):((ee s).1=n->∃p,(rh n).find? (λp=>aa (s=p.1))=J p/\p.2=(ee s).2)/\((ee s).1≠n->(rh n).find? (λp=>aa (s=p.1))=aj):=by
 by_cases h:s∈su.map (·.1)
 .have d:∀s,s∈su.map (·.1)->∀n,n=1\/n=2\/n=4\/n=5\/n=6->(((ee s).1=n->((rh n).find? (λp=>aa (s=p.1))).map (·.2)=J (ee s).2)/\((ee s).1≠n->(rh n).find? (λp=>aa (s=p.1))=aj)):=by intro s c n b;simp[su]at c;rcases c with rfl|rfl|rfl|rfl|rfl|rfl|rfl|rfl|rfl|rfl|rfl<;>rcases b with rfl|rfl|rfl|rfl|rfl<;>decide
  obtain⟨f,g⟩:=d s h n b;refine⟨λe=>?_,g⟩;have:=f e;cases i:(rh n).find? (λp=>aa (s=p.1))with|none=>grind|some p=>grind
 .have j:ee s=(0,0):=by simp[ee];cases i:su.find? (λp=>aa (s=p.1))with|none=>rfl|some p=>grind
  rw[j];refine⟨λe=>?_,λ_=>?_⟩
  .simp only at e;omega
  .rw[List.find?_eq_none];intro p k;simp;intro e;have a:∀q,q∈rh n->q.1∈su.map (·.1):=by rcases b with rfl|rfl|rfl|rfl|rfl<;>decide
   exact h (by rw[e];exact a p k)
theorem HY(n:Nat)(l:aA)(a:n=1\/n=2\/n=4\/n=5\/n=6):((fo l).1=n->∃p,(rh n).find? (λp=>aV p.1 l)=J p/\p.2=(fo l).2)/\((fo l).1≠n->(rh n).find? (λp=>aV p.1 l)=aj):=by
 cases l with
 |nil=>
  refine⟨λe=>?_,λ_=>?_⟩
  .simp[fo]at e;omega
  .exact List.find?_eq_none.2 λp _=>by simp[aV]
 |cons t r=>simp only[fo,aV];cases b:(aa (t.kind=1)||decide (t.kind=6))with|true=>simpa using axw n t.s a|false=>grind
variable {V:Nat->aA->bR aq}
variable{k:Nat}{s:mI}
theorem P1(b:∀k,eL (V k)){s':mI}(h:ha V k s=J (.ok s')):I s'.2.2<I s.2.2:=by
 simp[ha]at h;split at h
 .rename_i ao;have e:=ju ao.1;cases a:n5 s.1 s.2.2 with
  |error q=>rw[a]at h;cases h
  |ok x=>obtain⟨c,m⟩:=x;rw[a]at h;injection h with h;injection h with h;rw[<-h];simp[n5]at a;have d:=h8 s.2.2.tail;have f:=h8 s.2.2.tail.tail;cases g:aV hi s.2.2.tail with|true=>grind|false=>grind
 .split at h
  .cases h
  .cases a:V ((fo s.2.2).1+1) s.2.2.tail with
   |error q=>rw[a]at h;cases h
   |ok x=>obtain⟨c,m⟩:=x;rw[a]at h;injection h with h;injection h with h;rw[<-h];have i:=b _ _ _ _ a;have d:=h8 s.2.2;show I m<_;omega
variable{a:Nat}
theorem aui{b:Nat}(h:a<=b){r:Except aA mI}(c:ha V b s=J r):ha V a s=J r:=by
 simp[ha]at c ⊢;by_cases ao:aV nu s.2.2=ab/\b<=4/\4<s.2.1
 .rw[if_pos ao]at c;rw[if_pos ⟨ao.1,by omega,ao.2.2⟩];exact c
 .rw[if_neg ao]at c;by_cases d:(fo s.2.2).1=0\/(fo s.2.2).1<b\/s.2.1<(fo s.2.2).1\/((fo s.2.2).1=4/\s.2.1=4)
  .rw[if_pos d]at c;cases c
  .rw[if_neg d]at c;have f:¬aV nu s.2.2=true:=λe=>by rw[Rx e]at d;exact d (.inl rfl)
   rw[if_neg (λe=>f e.1),if_neg af];exact c
theorem WX(a:∀k,eL (V k))(k:Nat):∀(n m:Nat) (s:mI),I s.2.2<n->I s.2.2<m->fN V k n s=fN V k m s
 |0,_,_,h,_=>by omega
 |_,0,_,_,h=>by omega
 |n+1,m+1,s,ck,hm=>by
  simp[fN];cases b:ha V k s with
  |none=>rfl
  |some r=>cases r with|error q=>rfl|ok s'=>have:=P1 a b;exact WX a k n m s' af af
theorem ahx(b:∀k,eL (V k))(k:Nat):∀(n:Nat) (s s':mI),fN V k n s = .ok s'->I s'.2.2<=I s.2.2/\ha V k s' = aj
 |0,_,_,h=>by cases h
 |n+1,s,s',h=>by
  simp[fN]at h;cases a:ha V k s with
  |none=>rw[a]at h;injection h with h;rw[<-h];exact⟨bU _,a⟩
  |some r=>rw[a]at h;cases r with|error q=>cases h|ok c=>have e:=P1 b a;have d:=ahx b k n c s' h;exact⟨by omega,d.2⟩
theorem WN(d:∀k,eL (V k)){a b:Nat}(h:a<=b):∀(n:Nat) (s:mI),I s.2.2<n->fN V a n s=uj (fN V b n s) λs'=>fN V a (I s'.2.2+1) s'
 |0,_,ck=>by omega
 |n+1,s,ck=>by
  cases c:ha V b s with
  |none=>
   have e:fN V b (n+1) s = .ok s:=by simp[fN,c]
   rw[e];exact WX d a _ _ s ck af
  |some r=>
   have g:=aui h c;cases r with
   |error q=>simp[fN,c,g];rfl
   |ok f=>
    have l:=P1 d c;have i:fN V a (n+1) s=fN V a n f:=by simp[fN,g]
    have j:fN V b (n+1) s=fN V b n f:=by simp[fN,c]
    rw[i,j];exact WN d h n f af
theorem agp(g:∀k,eL (V k)){k:Nat}(j:k=1\/k=2\/k=5\/k=6):∀(n:Nat) (e:aq) (h:Nat) (l:aA),I l<n->(h=k\/(k<h/\ha V (k+1) (e,h,l)=aj)) ->
  match kB (V (k+1)) (rh k) n e l with|.error q=>fN V k n (e,h,l) = .error q|.ok (aDw,aC)=>∃i,k<=i/\fN V k n (e,h,l) = .ok (aDw,i,aC)
 |0,_,_,_,ck,_=>by omega
 |n+1,e,h,l,ck,ao=>by
  by_cases al:(fo l).1=k
  .obtain⟨p,c,d⟩:=(HY k l af).1 al;have f:¬aV nu l=true:=λq=>by rw[Rx q]at al;simp only at al;omega
   have b:ha V k (e,h,l)=J (match V (k+1) l.tail with
     |.error q=>.error q
     |.ok (x,aC)=>.ok (fq p.2 [e,x],k,aC)):=by
    simp only[ha,al,d];rw[if_neg (λq=>f q.1),if_neg af]
   simp only[kB,c,fN,b];cases m:V (k+1) l.tail with|error q=>rfl|ok x=>obtain⟨x,aQ⟩:=x;have r:=g _ _ _ _ m;have s:=h8 l;exact agp g j n (fq p.2 [e,x]) k aQ af (.inl rfl)
  .have b:ha V k (e,h,l)=none:=by
    simp only[ha];rcases ao with rfl|⟨o,a⟩
    .rw[if_neg (λq=>by have:=q.2;omega),if_pos af]
    .simp only[ha]at a;split at a
     .cases a
     .rename_i f;split at a
      .rename_i t;rw[if_neg (λq=>f ⟨q.1,by have:=q.2.1;omega,q.2.2⟩),if_pos af]
      .cases a
   simp only[kB,(HY k l af).2 al,fN,b];exact⟨h,by omega,rfl⟩
variable{h:Nat}
theorem E_{l:aA}(a:¬(aV nu l=ab/\k<=4/\4<h))(b:(fo l).1=0\/(fo l).1<k\/h<(fo l).1\/((fo l).1=4/\h=4)):ha V k (e,h,l)=none:=by simp[ha];rw[if_neg a,if_pos b]
theorem Vw{l:aA}(a:ha V k (e,h,l)=aj):¬(aV nu l=ab/\k<=4/\4<h)/\((fo l).1=0\/(fo l).1<k\/h<(fo l).1\/((fo l).1=4/\h=4)):=by
 simp[ha]at a;split at a
 .cases a
 .rename_i b;split at a
  .rename_i c;exact⟨b,c⟩
  .cases a
theorem R_{l:aA}:ha V 7 (e,h,l)=none:=E_ (λq=>by have:=q.2;omega) (by have:=Iy l;omega)
theorem IT{l:aA}:ha V 4 (e,4,l)=none:=E_ (λq=>by have:=q.2;omega) af
theorem A2{n:Nat}(h:ha V k s=aj):fN V k (n+1) s = .ok s:=by simp[fN,h]
theorem MP{b:Nat}(c : 3<a)(al : 3<b)(l:aA):me V a l=me V b l:=by simp[me];rw[aL (show ¬a<=3 by omega),aL (show ¬b<=3 by omega)]
theorem aie{b:Nat}(c:a<=3)(al:b<=3)(l:aA):me V a l=me V b l:=by simp[me];rw[aH c,aH al]
theorem MM(c:∀k,eL (V k)){b:Nat}(h:a<=b){l:aA}(d:me V a l=me V b l):oH V a l=uj (oH V b l) λs=>fN V a (I s.2.2+1) s:=by unfold oH;rw[d];cases me V b l with|error q=>rfl|ok s=>exact WN c h _ s af
def kF(V:Nat->aA->bR aq)(k:Nat)(l:aA):Prop:=match V k l with|.error q=>oH V k l = .error q|.ok (e,aC)=>∃h,k<=h/\oH V k l = .ok (e,h,aC)/\ha V k (e,h,aC)=aj
theorem Jx(b:∀k,eL (V k))(c:k=1\/k=2\/k=5\/k=6)(j:V k=hh (V (k+1)) (rh k)){l:aA}(h:kF V (k+1) l):kF V k l:=by
 have m:me V k l=me V (k+1) l:=by
  rcases c with rfl|rfl|rfl|rfl
  .exact aie af af l
  .exact aie af af l
  .exact MP af af l
  .exact MP af af l
 have ao:=MM b (Nat.le_succ k) m;unfold kF at h ⊢;rw[j];unfold hh;cases d:V (k+1) l with
 |error q=>rw[d]at h;simp only at h ⊢;rw[ao,h];rfl
 |ok x=>obtain⟨e,aC⟩:=x;rw[d]at h;simp only at h ⊢;obtain⟨f,s,n,o⟩:=h;rw[n]at ao;have ao:oH V k l=fN V k (I aC+1) (e,f,aC):=ao;have a:=agp b c (I aC+1) e f aC af (.inr ⟨by omega,o⟩);rw[ao];cases g:kB (V (k+1)) (rh k) (I aC+1) e aC with|error q=>rw[g]at a;exact a|ok y=>obtain⟨t,u⟩:=y;rw[g]at a;simp only at a ⊢;obtain⟨p,r,i⟩:=a;exact⟨p,r,i,(ahx b k _ _ _ i).2⟩
theorem aBp(o:∀k,eL (V k))(s:V 4=mW (V 5)){l:aA}(h:kF V 5 l):kF V 4 l:=by
 have ao:=MM (V:=V) o (show 4<=5 by omega) (MP af af l);unfold kF at h ⊢;rw[s];unfold mW;cases j:V 5 l with
 |error q=>rw[j]at h;simp only at h ⊢;rw[ao,h];rfl
 |ok x=>
  obtain⟨e,aC⟩:=x;rw[j]at h;simp only at h ⊢;obtain⟨d,aZ,u,v⟩:=h;rw[u]at ao;have ao:oH V 4 l=fN V 4 (I aC+1) (e,d,aC):=ao;rw[ao];obtain⟨tR,yk⟩:=Vw v;by_cases al:(fo aC).1=4
  .obtain⟨p,b,g⟩:=(HY 4 aC af).1 al;have b:vC.find? (λp=>aV p.1 aC)=J p:=b;have f:¬aV nu aC = true:=λq=>by rw[Rx q]at al;simp only at al;omega
   have c:ha V 4 (e,d,aC)=J (match V 5 aC.tail with
     |.error q=>.error q
     |.ok (x,aC)=>.ok (fq p.2 [e,x],4,aC)):=by
    simp only[ha,al,g];rw[if_neg (λq=>f q.1),if_neg af]
   have a : 1<=I aC:=by cases aC with|nil=>simp only[fo]at al;omega|cons t r=>simp
   rw[b];simp only[fN,c];cases i:V 5 aC.tail with|error q=>rfl|ok y=>obtain⟨x,w⟩:=y;simp only;refine⟨4,by omega,?_,IT⟩;obtain⟨m,hm⟩:=Nat.exists_eq_add_of_le a;rw[hm,Nat.add_comm 1 m];exact A2 IT
  .have z:vC.find? (λp=>aV p.1 aC)=none:=(HY 4 aC af).2 al;rw[z];simp only;cases f:aV nu aC with
   |true=>
    have a:=ju f;have c:ha V 4 (e,d,aC)=J (match n5 e aC with
      |.error q=>.error q
      |.ok (x,aC)=>.ok (x,4,aC)):=by
     simp only[ha];rw[if_pos ⟨f,by omega,by omega⟩]
    simp only[fN,c];cases i:n5 e aC with|error q=>rfl|ok y=>obtain⟨x,w⟩:=y;simp only;refine⟨4,by omega,?_,IT⟩;rw[<-a];exact A2 IT
   |false=>have n:ha V 4 (e,d,aC)=none:=E_ (λq=>by rw[f]at q;cases q.1) af;exact⟨d,by omega,A2 n,n⟩
theorem aBv(i:∀k,eL (V k))(c:V 3=gd hi 3 (V 4)){l:aA}(h:kF V 4 l):kF V 3 l:=by
 have stop:∀{e:aq}{aC:aA},ha V 3 (e,3,aC)=none:=λ{e aC}=>E_ (λq=>by have:=q.2;omega) (by have:=Iy aC;omega);cases a:aV hi l with
 |true=>
  have j:oH V 3 l=uj (match V 3 l.tail with
    |.error q=>.error q
    |.ok (x,aC)=>.ok (fq 3 [x],3,aC)) λs=>fN V 3 (I s.2.2+1) s:=by
   unfold oH me;rw[a,aH (show 3<=3 by omega)];rfl
  cases l with
  |nil=>cases a
  |cons t r=>unfold kF;rw[j,c];simp[gd,a];cases gd hi 3 (V 4) r with|error q=>rfl|ok x=>obtain⟨e,aC⟩:=x;exact⟨3,bU _,A2 stop,stop⟩
 |false=>
  have b:me V 3 l=me V 4 l:=by simp[me,a]
  have ao:=MM (V:=V) i (show 3<=4 by omega) b;have m:V 3 l=V 4 l:=by rw[c];cases l with|nil=>rfl|cons t r=>simp[gd,a]
  unfold kF at h ⊢;rw[m];cases d:V 4 l with|error q=>rw[d]at h;simp only at h ⊢;rw[ao,h];rfl|ok x=>obtain⟨e,aC⟩:=x;rw[d]at h;simp only at h ⊢;obtain⟨f,u,n,o⟩:=h;obtain⟨p,v⟩:=Vw o;have g:ha V 3 (e,f,aC)=none:=E_ (λq=>p ⟨q.1,by omega,q.2.2⟩) (by have:=Iy aC;omega);refine⟨f,by omega,?_,g⟩;rw[ao,n];exact A2 g
theorem anv(a:V 7=gd [45] 15 (iD (V 1)))(l:aA):kF V 7 l:=by
 have ag:∀(e:aq) (n:Nat) (aC:aA),fN V 7 (n+1) (e,7,aC) = .ok (e,7,aC):=λ_ _ _=>A2 R_;have b:aa (7<=3)=false:=rfl;unfold kF oH me;rw[a,b,Bool.and_false];simp only;cases l with
 |nil=>rfl
 |cons t r=>
  cases hm:aV [45] (t::r)with
  |true=>simp[gd,hm];cases gd [45] 15 (iD (V 1)) r with|error q=>rfl|ok x=>exact⟨7,bU _,ag _ _ _,R_⟩
  |false=>simp[gd,hm];cases iD (V 1) (t::r)with|error q=>rfl|ok x=>exact⟨7,bU _,ag _ _ _,R_⟩
abbrev fP:Nat->aA->bR aq:=yh gq
theorem tz(k:Nat):eL (fP k):=afT qF k
theorem GP:fP 1=gq:=funext λl=>(ahW l).symm
theorem aCn(l:aA):∀k,1<=k->k<=7->kF fP k l:=by have c:kF fP 7 l:=anv (by rw[GP];rfl) l;have d:kF fP 6 l:=Jx tz (.inr (.inr (.inr rfl))) rfl c;have e:kF fP 5 l:=Jx tz (.inr (.inr (.inl rfl))) rfl d;have f:kF fP 4 l:=aBp tz rfl e;have g:kF fP 3 l:=aBv tz rfl f;have h:kF fP 2 l:=Jx tz (.inr (.inl rfl)) rfl g;have i:kF fP 1 l:=Jx tz (.inl rfl) rfl h;intro k a b;match k,a,b with|1,_,_=>exact i|2,_,_=>exact h|3,_,_=>exact g|4,_,_=>exact f|5,_,_=>exact e|6,_,_=>exact d|7,_,_=>exact c
theorem aBU(c : 1<=k)(d:k<=7)(l:aA):L2 fP k l=fP k l:=by have h:=aCn l k c d;unfold kF at h;unfold L2;cases b:fP k l with|error q=>rw[b]at h;simp only at h;rw[h]|ok x=>obtain⟨e,aC⟩:=x;rw[b]at h;simp only at h;obtain⟨a,_,f,_⟩:=h;rw[f]
end Go.Proofs.YtdelkmpkjibigaaGreatDoor
namespace Go.Proofs.YtdelkmpkjibigaaGreatDoor
open Go.ft
def aN{α β:Type}(p:aA->bR α)(f : α->aA->bR β)(l:aA):bR β:=match p l with|.error q=>.error q|.ok (x,aC)=>f x aC
def cJ{α:Type}(x : α)(l:aA):bR α:=.ok (x,l)
def cY:U ak->aA->bR Unit|[],l=>.ok ((),l)|s::ss,l=>match aV s l with|true=>cY ss l.tail|false=>.error l
def fl:aA->bR ak|[]=>.error []|t::r=>match aa (t.kind=2)with|true=>.ok (t.s,r)|false=>.error (t::r)
def e5{α:Type}(part:aA->bR α):Nat->U α->aA->bR (U α)
 |0,_,l=>.error l
 |n+1,acc,l=>match aV [44] l with
  |false=>.ok (acc,l)
  |true=>match part l.tail with|.error q=>.error q|.ok (x,aC)=>e5 part n (acc++[x]) aC
def jQ{α:Type}(part:aA->bR α)(l:aA):bR (U α):=match part l with|.error q=>.error q|.ok (x,aC)=>e5 part (I aC+1) [x] aC
def hc(s:ak)(ss:U ak)(l:aA):bR Bool:=match aV s l with
 |true=>match cY ss l.tail with|.error q=>.error q|.ok (_,aC)=>.ok (ab,aC)
 |false=>.ok (ai,l)
def vw:ak:=[84,65,66,76,69]
def o6:ak:=[73,78,68,69,88]
def sG:ak:=[79,78]
def og:ak:=[80,82,73,77,65,82,89]
def wX:ak:=[75,69,89]
def RS:ak:=[67,72,69,67,75]
def l4:ak:=[85,78,73,81,85,69]
def S1:ak:=[82,69,70,69,82,69,78,67,69,83]
def sY:ak:=[66,79,79,76]
def sR:ak:=[73,78,84]
def tb:ak:=[84,69,88,84]
def tB:ak:=[66,89,84,69,83]
def Dq:ak:=[87,72,69,82,69]
def ajQ:ak:=[83,69,84]
def ub:ak:=[70,82,79,77]
def GM:ak:=[79,82,68,69,82]
def CJ:ak:=[66,89]
def J5:ak:=[68,69,83,67]
def Kx:ak:=[65,83,67]
def R2:ak:=[76,73,77,73,84]
def aCa:ak:=[73,78,84,79]
def aiO:ak:=[86,65,76,85,69,83]
def nN:ak:=[67,82,69,65,84,69]
def rq:ak:=[68,82,79,80]
def r0:ak:=[73,78,83,69,82,84]
def tw:ak:=[85,80,68,65,84,69]
def tu:ak:=[68,69,76,69,84,69]
def r5:ak:=[83,69,76,69,67,84]
def lZ:aq:=.mk 0 ⟨0,0,[]⟩ [] []
def eJ:aP:=⟨0,[],[],[],[],[],[],[],ai,lZ,[],[],0⟩
def o5:aA->bR (U ak):=aN (cY [[40]]) λ_=>aN (jQ fl) λx=>aN (cY [[41]]) λ_=>cJ x
def qT:aA->bR (U aq):=jQ gq
def mD(l:aA):bR Int:=match aV sY l with
 |true=>.ok (2,l.tail)
 |false=>match aV sR l with
  |true=>.ok (3,l.tail)
  |false=>match aV tb l with
   |true=>.ok (4,l.tail)
   |false=>match aV tB l with|true=>.ok (5,l.tail)|false=>.error l
def iR(l:aA):bR ak:=match aV S1 l with|true=>fl l.tail|false=>.ok ([],l)
def wQ:aA->bR bk:=aN fl λn=>aN mD λk=>aN (hc hi [hJ]) λa=>aN (hc l4 []) λu=>aN iR λr=>cJ ⟨n,k,a,u,r⟩
def mb:aA->bR bk:=aN wQ λc=>aN (cY [[44]]) λ_=>cJ c
def k8:Nat->U bk->aA->bR (U bk)
 |0,_,l=>.error l
 |n+1,acc,l=>match aV og l with
  |true=>.ok (acc,l.tail)
  |false=>match mb l with|.error q=>.error q|.ok (c,aC)=>k8 n (acc++[c]) aC
def wN(l:aA):bR (U bk):=match mb l with|.error q=>.error q|.ok (c,aC)=>k8 (I aC+1) [c] aC
def kO:aA->bR aq:=aN (cY [RS,[40]]) λ_=>aN gq λe=>aN (cY [[41]]) λ_=>cJ e
def wD:aA->bR aP:=aN fl λn=>aN (cY [[40]]) λ_=>aN wN λcs=>aN (cY [wX]) λ_=>aN o5 λcW=>aN (λl=>e5 kO (I l+1) [] l) λes=>aN (cY [[41]]) λ_=>cJ { eJ with kind:=1,name:=n,ay:=cs,names:=cW,l:=es }
def vy:aA->bR aP:=aN (cY [o6]) λ_=>aN fl λn=>aN (cY [sG]) λ_=>aN fl λo=>aN o5 λcW=>cJ { eJ with kind:=3,name:=n,on:=o,names:=cW }
def nO(l:aA):bR aP:=match aV vw l with|true=>wD l.tail|false=>vy l
def ry(l:aA):bR aP:=match aV vw l with
 |true=>aN fl (λn=>cJ { eJ with kind:=2,name:=n }) l.tail
 |false=>aN (cY [o6]) (λ_=>aN fl λn=>cJ { eJ with kind:=4,name:=n }) l
def DJ:aA->bR (U aq):=aN (cY [[40]]) λ_=>aN qT λr=>aN (cY [[41]]) λ_=>cJ r
def zx:aA->bR aP:=aN (cY [aCa]) λ_=>aN fl λn=>aN (cY [aiO]) λ_=>aN (jQ DJ) λrs=>cJ { eJ with kind:=5,name:=n,rows:=rs }
def ky(l:aA):bR (Bool×aq):=match aV Dq l with
 |true=>match gq l.tail with|.error q=>.error q|.ok (e,aC)=>.ok ((ab,e),aC)
 |false=>.ok ((ai,lZ),l)
def DF:aA->bR ds:=aN fl λn=>aN (cY [[61]]) λ_=>aN gq λe=>cJ ⟨n,e⟩
def xI:aA->bR aP:=aN fl λn=>aN (cY [ajQ]) λ_=>aN (jQ DF) λss=>aN ky λw=>cJ { eJ with kind:=6,name:=n,bT:=ss,has:=w.1,cX:=w.2 }
def zb:aA->bR aP:=aN (cY [ub]) λ_=>aN fl λn=>aN ky λw=>cJ { eJ with kind:=7,name:=n,has:=w.1,cX:=w.2 }
def s8(l:aA):bR (U aq):=match aV [42] l with|true=>.ok ([],l.tail)|false=>qT l
def rp(l:aA):bR Bool:=match aV J5 l with
 |true=>.ok (ab,l.tail)
 |false=>match aV Kx l with|true=>.ok (ai,l.tail)|false=>.ok (ai,l)
def uD:aA->bR (ak×Bool):=aN fl λn=>aN rp λd=>cJ (n,d)
def kA(l:aA):bR (U (ak×Bool)):=match aV GM l with|true=>aN (cY [CJ]) (λ_=>jQ uD) l.tail|false=>.ok ([],l)
def ue:aA->bR Int|[]=>.error []|t::r=>match aa (t.kind=3)with|true=>.ok (t.n,r)|false=>.error (t::r)
def h'(l:aA):bR Int:=match aV R2 l with|true=>ue l.tail|false=>.ok (-1,l)
def pL:aA->bR aP:=aN s8 λes=>aN (cY [ub]) λ_=>aN fl λn=>aN ky λw=>aN kA λo=>aN h' λm=>cJ { eJ with kind:=8,name:=n,l:=es,has:=w.1,cX:=w.2,order:=o.map (·.1),desc:=o.map (·.2),bH:=m }
def jk(l:aA):bR aP:=match aV nN l with
 |true=>nO l.tail
 |false=>match aV rq l with
  |true=>ry l.tail
  |false=>match aV r0 l with
   |true=>zx l.tail
   |false=>match aV tw l with
    |true=>xI l.tail
    |false=>match aV tu l with
     |true=>zb l.tail
     |false=>match aV r5 l with|true=>pL l.tail|false=>.error l
def q3(l:aA):aA:=match aV [59] l with|true=>l.tail|false=>l
def o9(l:aA):Except aA aP:=match jk l with
 |.error q=>.error q
 |.ok (s,aC)=>match q3 aC with|[]=>.ok s|t::r=>.error (t::r)
def hA(n:Int):aA->Int|[]=>n|t::_=>t.pos
def y0(d:Bool):aA->Prop|[]=>True|t::_=>(t.s=[59]\/t.s=[41])\/¬t.kind=1/\¬t.kind=6\/(t.s=ud\/t.s=vp\/t.s=hJ)\/d=ab/\(t.s=J5\/t.s=Kx)
def aCO:aA->Prop|[]=>False|t::_=>t.kind=6/\t.s=[59]
structure aks {α:Type}(d:Bool) (n:Nat) (p:aA->bR α):Prop where
 le:∀l e aC,I l<n->p l = .ok (e,aC)->I aC<=I l
 aD5:∀l q,I l<n->p l = .error q->I q<=I l
 ok:∀l m e aC,I l<n->p l = .ok (e,aC)->(aC≠[]\/y0 d m)->p (l++m) = .ok (e,aC++m)
 fR:∀l m q,I l<n->p l = .error q->(q≠[]\/aCO m)->p (l++m) = .error (q++m)
variable {α β:Type}{n:Nat}{d:Bool}
theorem aks.pure(x : α):aks d n (cJ x) where
 le l e aC _ h:=by cases h;exact bU _
 aD5 l q _ h:=j5
 ok l m e aC _ h _:=by cases h;rfl
 fR l m q _ h _:=j5
end Go.Proofs.YtdelkmpkjibigaaGreatDoor
namespace Go.Proofs.YtdelkmpkjibigaaGreatDoor
open Go.ft
variable {α β:Type}{n:Nat}{d:Bool}
def xZ(rec:aA->bR aq):aA->bR aq:=aN rec λe l=>match aV [41] l with|true=>cJ e l.tail|false=>.error l
theorem aqf(rec:aA->bR aq)(t:Tok)(r:aA):iD rec (t::r) =
  if t.kind=2 then .ok (.mk 2 ⟨0,0,[]⟩ t.s [],r)
  else if t.kind=3 then .ok (ma 3 t.n [],r)
  else if t.kind=4 then .ok (ma 4 0 t.s,r)
  else if t.kind=5 then .ok (ma 5 0 t.s,r)
  else if t.kind=1/\t.s=ud then .ok (ma 2 1 [],r)
  else if t.kind=1/\t.s=vp then .ok (ma 2 0 [],r)
  else if t.kind=1/\t.s=hJ then .ok (ma 1 0 [],r)
  else match aV [40] (t::r)with
   |true=>xZ rec r
   |false=>.error (t::r):=by
 simp only[iD]
 repeat (split; · rfl)
 cases h:aV [40] (t::r)with
 |false=>rfl
 |true=>simp only[xZ,aN,if_true];cases rec r with|error q=>rfl|ok x=>obtain⟨e,aC⟩:=x;simp only;cases aV [41] aC<;>rfl
def pD(t:Tok):ae aq:=if t.kind=2 then J (.mk 2 ⟨0,0,[]⟩ t.s [])else if t.kind=3 then J (ma 3 t.n [])else if t.kind=4 then J (ma 4 0 t.s)else if t.kind=5 then J (ma 5 0 t.s)else if t.kind=1/\t.s=ud then J (ma 2 1 [])else if t.kind=1/\t.s=vp then J (ma 2 0 [])else if t.kind=1/\t.s=hJ then J (ma 1 0 [])else aj
theorem EY(rec:aA->bR aq)(t:Tok)(r:aA):iD rec (t::r)=match pD t with
  |some v=>.ok (v,r)
  |none=>match aV [40] (t::r)with
   |true=>xZ rec r
   |false=>.error (t::r):=by
 rw[aqf];unfold pD;by_cases a:t.kind=2
 .rw[if_pos a,if_pos a]
 rw[if_neg a,if_neg a];by_cases b:t.kind=3
 .rw[if_pos b,if_pos b]
 rw[if_neg b,if_neg b];by_cases c:t.kind=4
 .rw[if_pos c,if_pos c]
 rw[if_neg c,if_neg c];by_cases d:t.kind=5
 .rw[if_pos d,if_pos d]
 rw[if_neg d,if_neg d];by_cases e:t.kind=1/\t.s=ud
 .rw[if_pos e,if_pos e]
 rw[if_neg e,if_neg e];by_cases f:t.kind=1/\t.s=vp
 .rw[if_pos f,if_pos f]
 rw[if_neg f,if_neg f];by_cases g:t.kind=1/\t.s=hJ
 .rw[if_pos g,if_pos g]
 rw[if_neg g,if_neg g]
end Go.Proofs.YtdelkmpkjibigaaGreatDoor
namespace Go.ft
open Go.RowKit
structure rL (P:cP) (f:FuncId) (t:bD) (bX:Nat):Prop where
 enters:av.Enters P f
 T7:∀(a:Option Addr) (n c:Nat) (xs:List aD),xs.all av.one=ab->n<=1000000->av.lE P f [.slice a n c] [] (av.qW (.slice a n c) bX n xs) (λv L _=>L=[.row v t bX n xs])
def y5(P:cP)(f:FuncId):Prop:=∀(a:ae Addr) (c:Nat),av.lE P f [.slice a 0 c] [] (λ_=>True) (λv _ _=>∃ca,v = .slice ca 0 0)
variable{c:cl}{x:dn}{ys:U (dy c)}
theorem aAO{v:aD}(h:gl x.S x.w (.sl c ys .no) v):∃a cap vs,v = .slice a (I ys) cap/\fh x c ys vs/\∀w':aT,(∀k,k<x.w.heap.size->w'.heap[k]? = x.w.heap[k]?)->av.qW v (a8 c) (I ys) vs w':=by
 obtain⟨a,cap,vs,rfl,d,f⟩:=EV h;refine⟨a,cap,vs,rfl,d,λw' al=>⟨d.1,a,cap,rfl,?_⟩⟩;obtain⟨ca,hC,g,i⟩:=tg h;simp only[aD.slice.injEq]at g;rcases i with rfl|⟨b,o,e,hle,_⟩
 .exact .inl rfl
 .by_cases l:ys=[]
  .grind
  .refine .inr ⟨b,o,g.1.trans e,by rw[g.2.2];exact hle.1,λj u m=>?_⟩;have ao:=f b o (g.1.trans e) l j u m;rw[aT.cell?_of_block (a:=⟨b,o+j,aj⟩) (al b (zv ao))];exact ao
variable{P:cP}{w:aT}
theorem Kc{Pre:aT->Prop}(h:∀w':aT,(∀k,k<w.heap.size->w'.heap[k]? = w.heap[k]?)->Pre w'):av.du ⟨P,0,w,av.e9 [],[]⟩ [] Pre w:=⟨av.bM.refl _ _,by simp,by simp[av.e9],by simp[av.e9],by simp,λw' ao=>h w' λk a=>ao.block k a (by simp[av.e9])⟩
variable{w':aT}
theorem Jj(h:av.bM [] w w'):bM fE w w':=.Cx h.os h.tape h.output h.size λk a=>h.block k a (by simp)
variable{f:FuncId}
theorem T1{v:aD}(h:rL P f (x.el c) (a8 c))(d:gl x.S x.w (.sl c ys .no) v)(o:I ys<=1000000) :
  ∃vs,fh x c ys vs/\Calls P f #[v] x.w λdJ w'=>∃u,dJ = .returned u/\bM fE x.w w'/\((u = .slice aj 0 0/\ys=[])\/∃g cap cur,u = .slice (J ⟨g,0,aj⟩) (I ys) cap/\(x.w.heap.size<=g/\g<w'.heap.size)/\w'.heap[g]? = J (.cells cur (x.el c) (0,0))/\cur.size=cap*a8 c/\I ys<=cap/\cap<=dr/\cur.toList.take (I ys*a8 c)=vs):=by
 obtain⟨a,cap,vs,rfl,b,e⟩:=aAO d;refine⟨vs,b,((h.T7 a (I ys) cap vs (dH.2 b.one) o).run x.w [] (Kc e)).mono ?_⟩;rintro dJ w' ⟨u,L',eG,rfl,rfl,i⟩;refine⟨u,rfl,Jj (by simpa[av.e9]using i.fw),?_⟩;have j:w'.ownsRow 0 (x.el c) (a8 c) u (I ys) vs:=i.ok (.row u (x.el c) (a8 c) (I ys) vs) (by simp);rcases j.2 with ⟨rfl,p⟩|⟨g,hC,cur,rfl,_,n,hle,hm,k,l⟩
 .grind
 .refine .inr ⟨g,hC,cur,rfl,⟨?_,(hZ.1 n).1⟩,n,k,hle,hm,l⟩;rcases i.own g Tc with m|m
  .cases m
  .exact m
def aBg(c:cl):bt [.sl c ai] [.sl c ab]:=λ(ys:U (dy c))=>cond (aa (I ys<=1000000)) (J ys) aj
theorem afH{el:cl->bD}{cD:Nat->ae lI}(h:rL P f (el c) (a8 c)):fH P el cD f [.sl c ai] [.sl c ab] (aBg c):=by
 refine⟨h.enters,λx r ag w M vs gL _ aF=>?_⟩;have ag:cond (aa (List.length (α:=dy c) x<=1000000)) (J x) aj=J r:=ag;cases ar:aa (List.length (α:=dy c) x<=1000000)with
 |false=>rw[ar]at ag;cases ag
 |true=>
  rw[ar]at ag;simp at ag;subst ag;simp at ar;simp[eK,fy]at aF;obtain⟨v,_,rfl,en,rfl⟩:=aF;obtain⟨us,k,ao⟩:=T1 (x:=v0 el M w) h en.1 ar;refine ao.mono ?_;rintro dJ w' ⟨u,rfl,l,hu⟩;rcases hu with ⟨rfl,dm⟩|⟨g,cap,cur,rfl,⟨a,a2⟩,ch,a3,hle,hm,a5⟩
  .refine⟨_,⟨λ_=>0,λ_=>aj⟩,rfl,l,λp g o _ cr=>by simp at cr,λp q g o dq _ _ cr=>by simp at cr,?_⟩;subst dm;exact⟨λ_ _=>.nil _ _ _ _,by simp[sF],λ_=>.inl ⟨rfl,rfl,rfl⟩⟩
  .let m:ed:=⟨λ_=>0,λp=>if p=0 then J (g,List.length (α:=dy c) x*a8 c)else aj⟩;have e:∀p b o,m.bh p=J (b,o)->p=0/\b=g/\o=List.length (α:=dy c) x*a8 c:=λp b o n=>by grind
   refine⟨_,m,rfl,l,λp b o _ n=>?_,λp q b o dq _ _ n bV=>by rw[(e p b o n).1,(e q b dq bV).1],?_⟩
   .obtain⟨_,rfl,_⟩:=e p b o n;exact⟨a,a2⟩
   .simp[iU,aG];have s:fh (sF el M m [.sl c ab] w') c x us:=⟨k.1,λi y j d aE ar=>by
     obtain⟨z,dK,cb⟩:=k.2 i y j d aE ar;refine⟨z,dK,gl.later cb (l.mono λ_ _ h=>h.elim) λb i t=>?_⟩;rcases t with t|⟨p,o,_,n,_⟩
     .exact .inl t
     .obtain⟨_,rfl,_⟩:=e p b o n;exact .inr a⟩
    refine⟨DB s ⟨hle,hm⟩ (λj z dh=>?_) (λi t=>?_),by simp[sF],λ_=>.inr ⟨g,cap,cur,rfl,by simp[sF,m],ch,a3,hle,hm⟩⟩
    .show w'.cell? _=_;simp[h7,ch]
     grind
    .rintro(a4|⟨p,o,_,n,bS⟩)
     .have:=gL g i a4;have a:w.heap.size<=g:=a;omega
     .grind
section
variable {R:Type}{ah:di}
def Dl(c:cl)(args:U D)(st:bw)(K:U D->bw->ae R):ae R:=match args with
 |[.sl dT xs _]=>match aa (dT = c)&&aa (I xs<=1000000)with|true=>cond (List.isEmpty xs) (K [.sl dT [] .z] st) (K [.h3 st.nb dT 0 ((I xs:Nat):Int)] (jl st (.dyn dT xs)))|false=>aj
 |_=>aj
variable{cur:Array aD}{g:Nat}{vs:U aD}
theorem Jq{cap:Nat}(a:fh x c ys vs)(k:x.w.heap[g]? = J (.cells cur (x.el c) (0,0)))(e:cur.size=cap*a8 c)(hle:I ys<=cap)(hm:cap<=dr)(f:cur.toList.take (I ys*a8 c)=vs):kK x g (.dyn c ys):=by
 refine⟨fV hle hm,cur.toList,x.el c,by rw[Array.toArray_toList];exact k,(by have h:=ly (a8 c) hle;rw[<-e]at h;simpa using h),λi y j d aE ar=>?_⟩;obtain⟨u,b,l⟩:=a.2 i y j d aE ar;refine⟨u,?_,l⟩;rw[<-f,h5]at b;split at b
 .exact b
 .cases b
variable{K:U D->bw->ae R}{args:U D}{r:R}{st:bw}
theorem axm(h:rL ah.P g (ah.el c) (a8 c))(dm:y5 ah.P g)(ao:Dl c args st K=J r):xR ah g args st K r:=by
 unfold Dl at ao;split at ao
 .rename_i dT xs bh;split at ao
  .rename_i f;simp at f;obtain⟨rfl,ck⟩:=f;refine⟨h.enters,λm a as_ w vs aF b=>?_⟩;simp only[bl]at b;obtain⟨v,_,rfl,⟨i,_⟩,rfl⟩:=b;by_cases o:xs=[]
   .subst o;obtain⟨ad,cap,rfl,_⟩:=i.here.slice;refine((dm ad cap).run w [] (Kc λ_ _=>trivial)).mono ?_;rintro dJ w' ⟨u,L',eG,rfl,⟨ca,rfl⟩,cw⟩;have d:bM fE w w':=Jj S_;refine⟨_,rfl,_,st,m,ao,⟨rfl,rfl,rfl,rfl,rfl⟩,aF.quiet d,?_⟩;simp[iU];exact⟨λ_ _=>.nil _ _ _ _,rfl,ca,rfl⟩
   .have p:List.isEmpty xs=false:=by cases xs with|nil=>exact absurd rfl o|cons _ _=>rfl
    rw[p]at ao;obtain⟨us,j,q⟩:=T1 (x:=vx ah m (aB st) w) h i ck;refine q.mono ?_;rintro dJ w' ⟨u,rfl,d,hu⟩;rcases hu with ⟨_,e⟩|⟨s,cap,cur,rfl,⟨t,y⟩,ch,l,hle,hm,z⟩
    .exact absurd e o
    .obtain⟨a6,aY,aZ⟩:=aF.newAt (k:=.dyn dT xs) (g:=s) d t y (λx' eN hw=>Jq (j.later eN) (by rw[hw,eN.el];exact ch) l hle hm z);rw[<-acj]at aY aZ;refine⟨_,rfl,_,_,a6,ao,⟨rfl,rfl,rfl,rfl,rfl⟩,aY,?_⟩;simp only[aG]at aZ;simp[iU];obtain⟨fJ,f_⟩:=aZ;simp at f_;have n:(vx ah a6 (aB (jl st (.dyn dT xs))) w').m.au st.nb=s:=f_.symm;refine⟨fJ,Int.le_refl _,Int.natCast_nonneg _,by have:=fV hle hm;omega,J ⟨s,0,aj⟩,cap,by simp,.inr (by rw[n];simp),by simpa using hle,hm,cur,(0,0),by rw[n];exact ch,by simpa using l⟩
  .cases ao
 .cases ao
def Ja(c:cl)(args:U D)(st:bw)(K:D->U Nat->bw->ae R):ae R:=match args with
 |[.sl dT xs _]=>match aa (dT = c)&&aa (I xs<=1000000)with
  |true=>cond (List.isEmpty xs) (K (.sl dT [] .z) [] st) (match bF st.au st.nb with
   |none=>K (.h3 st.nb dT 0 ((I xs:Nat):Int)) [] (jl st (.dyn dT xs))
   |some _=>aj)
  |false=>aj
 |_=>aj
theorem auL(k:dW)(h:bF st.au st.nb=aj):∀b,b∉([]:U Nat)->kE (aB st) (aB (jl st k)) b:=λb _=>by
 have e:∀q,(aB (jl st k)).au q=if q=st.nb then J k else(aB st).au q:=λq=>gu st.au st.nb q k
 refine⟨λq a=>?_,λq a c=>?_⟩
 .rw[e];by_cases al:b=st.nb
  .subst al;have a:bF st.au st.nb=J q:=a;rw[h]at a;cases a
  .rw[if_neg al];exact a
 .have c:b<st.nb:=c;rw[e,if_neg af]at a;exact a
theorem atM(h:rL ah.P g (ah.el c) (a8 c))(dm:y5 ah.P g):pP (R:=R) ah g (Ja c):=by
 intro args st K r ao;unfold Ja at ao;split at ao
 .rename_i t xs bh;split at ao
  .rename_i l;simp at l;obtain⟨rfl,ck⟩:=l;by_cases y:xs=[]
   .subst y;refine⟨_,[],st,ao,⟨rfl,rfl,rfl,rfl,rfl⟩,bU _,λb _=>kE.F8 rfl b,h.enters,λs m a as_ w vs q z d=>?_⟩;simp only[bl]at d;obtain⟨v,_,rfl,⟨f,_⟩,rfl⟩:=d;obtain⟨ad,cap,rfl,_⟩:=f.here.slice;refine((dm ad cap).run w [] (Kc λ_ _=>trivial)).mono ?_;rintro dJ w' ⟨u,L',eG,rfl,⟨ca,rfl⟩,cw⟩;have i:bM fE w w':=Jj S_;rw[Hc q];refine⟨_,rfl,m,z.quiet i,?_⟩;simp[aG];exact⟨λ_ _=>.nil _ _ _ _,rfl,ca,rfl⟩
   .have a2:List.isEmpty xs=false:=by cases xs with|nil=>exact absurd rfl y|cons _ _=>rfl
    rw[a2]at ao;cases j:bF st.au st.nb with
    |some k=>rw[j]at ao;cases ao
    |none=>
    rw[j]at ao;refine⟨_,[],jl st (.dyn t xs),ao,⟨rfl,rfl,rfl,rfl,rfl⟩,Nat.le_succ _,auL _ j,h.enters,λs m a as_ w vs q z d=>?_⟩;simp only[bl]at d;obtain⟨v,_,rfl,⟨f,_⟩,rfl⟩:=d;obtain⟨us,n,a3⟩:=T1 (x:=vx ah m s w) h f ck;refine a3.mono ?_;rintro dJ w' ⟨u,rfl,i,hu⟩;rcases hu with ⟨_,e⟩|⟨g2,cap,cur,rfl,⟨a4,a5⟩,ch,o,hle,hm,bB⟩
    .exact absurd e y
    .obtain⟨a6,aY,aZ⟩:=z.newAt (k:=.dyn t xs) (g:=g2) i a4 a5 (λx' eN hw=>Jq (n.later eN) (by rw[hw,eN.el];exact ch) o hle hm bB);rw[CW st _ s q];refine⟨_,rfl,a6,aY,?_⟩;simp only[aG]at aZ ⊢;obtain⟨fJ,f_⟩:=aZ;simp at f_;have bE:st.nb=s.nb:=q.2.1.symm;rw[bE];have p:(vx ah a6 { s with au:=λb=>if b=s.nb then J (.dyn t xs)else s.au b,nb:=s.nb+1 } w').m.au s.nb=g2:=f_.symm;refine⟨fJ,Int.le_refl _,Int.natCast_nonneg _,by have:=fV hle hm;omega,J ⟨g2,0,aj⟩,cap,by simp,.inr (by rw[p];simp),by simpa using hle,hm,cur,(0,0),by rw[p];exact ch,by simpa using o⟩
  .cases ao
 .cases ao
theorem aiU{α:Type}(l:U α):cut l 0 (0+((I l:Nat):Int))=l:=by simp[cut]
variable{a:Act}{as_:U Act}{m:ed}{xs:U (dy c)}
theorem aiw(h:Rel ah m a as_ (aB st) w){b cap:Nat}(al:bF st.au b=J (.dyn c xs))(j:w.heap[m.au b]? = J (.cells cur (ah.el c) (0,0)))(g:cur.size=cap*a8 c)(hle:I xs<=cap)(hm:cap<=dr) :
  Rel ah m a as_ (aB { st with au:=fM st.au b }) w/\aG (vx ah m (aB { st with au:=fM st.au b }) w) (.sl c xs .no) (.slice (J ⟨m.au b,0,aj⟩) (I xs) cap):=by
 have ar:aG (vx ah m (aB st) w) (.h3 b c 0 ((I xs:Nat):Int)) (.slice (J ⟨m.au b,0,aj⟩) (I xs) cap):=by simp only[aG];exact⟨(h.gp b _ al).1,Int.le_refl _,Int.natCast_nonneg _,by have:=fV hle hm;omega,J ⟨m.au b,0,aj⟩,cap,by simp,.inr (by simp[vx]),by simpa using hle,hm,cur,(0,0),j,by simpa using g⟩
 have k:As st.au (.h3 b c 0 ((I xs:Nat):Int)) (λd au=>J (d,au))=J (.sl c xs .no,fM st.au b):=by simp only[As,al];rw[aiU];refine(rz ?_);simp
 obtain⟨n,l,i,e,_,f,_⟩:=Nc h ar k;simp at i;obtain⟨rfl,rfl⟩:=i;exact⟨e,f⟩
variable{xs':U (dy c)}
theorem aou(s:Rel ah m a as_ (aB st) w){b cap:Nat}{e:U aD}(al:bF st.au b=J (.dyn c xs))(h:bM (λq _=>q=m.au b) w w')(l:w'.heap[m.au b]? = J (.cells e.toArray (ah.el c) (0,0)))(n:I e=cap*a8 c)(f:fh (vx ah m (aB st) w) c xs' (e.take (I xs'*a8 c)))(hle:I xs'<=cap)(hm:cap<=dr) :
  ∃a6,Rel ah a6 a as_ (aB { st with au:=fM st.au b,nb:=st.nb+1 }) w'/\aG (vx ah a6 (aB { st with au:=fM st.au b,nb:=st.nb+1 }) w') (.sl c xs' .no) (.slice (J ⟨m.au b,0,aj⟩) (I xs') cap):=by
 have d:=s.write (k:=.dyn c xs') (b:=b) al h (λx' o t=>Jq (f.later o) (by rw[t,o.el];exact l) AF hle hm (by simp));have u:aB { st with au:=lh st.au b (.dyn c xs') }={ aB st with au:=λq=>if q=b then J (.dyn c xs')else(aB st).au q }:=by
  refine FS.eq rfl rfl rfl rfl rfl ?_ rfl rfl rfl;funext q;show bF (lh st.au b _) q=_;rw[By];by_cases g:q=b
  .subst g;simp[al]
  .simp[g];rfl
 rw[<-u]at d;have i:bF (lh st.au b (.dyn c xs')) b=J (.dyn c xs'):=by rw[By,if_pos rfl,al];rfl
 obtain⟨j,p⟩:=aiw (st:={ st with au:=lh st.au b (.dyn c xs') }) d i l AF hle hm;have r:aB { st with au:=fM (lh st.au b (.dyn c xs')) b }=aB { st with au:=fM st.au b }:=by refine FS.eq rfl rfl rfl rfl rfl ?_ rfl rfl rfl;funext q;show bF (fM (lh st.au b _) b) q=bF (fM st.au b) q;rw[qB,qB,By];by_cases g:q=b<;>simp[g]
 have j:Rel ah m a as_ (aB { st with au:=fM st.au b }) w':=by rw[<-r];exact j
 have v:=Rel.raise (st:={ st with au:=fM st.au b }) (nb:=st.nb+1) (bu:=st.bu) (Nat.le_succ _) (bU _) j;refine⟨m,v,?_⟩;simp at p ⊢;refine⟨?_,trivial⟩;have x:(vx ah m (aB { st with au:=fM (lh st.au b (.dyn c xs')) b }) w').S=(vx ah m (aB { st with au:=fM st.au b,nb:=st.nb+1 }) w').S:=by show(vx ah m (aB { st with au:=fM (lh st.au b (.dyn c xs')) b }) w').S=(vx ah m (aB { st with au:=fM st.au b }) w').S;rw[r]
 rw[<-x];exact p.1
theorem am6(u:Rel ah m a as_ (aB st) w){b cap:Nat}{d:U aD}(n:bM fE w w')(o:w.heap.size<=g)(p:w'.heap[g]? = J (.cells d.toArray (ah.el c) (0,0)))(v:I d=cap*a8 c)(h:fh (vx ah m (aB st) w) c xs' (d.take (I xs'*a8 c)))(hle:I xs'<=cap)(hm:cap<=dr) :
  ∃a6,Rel ah a6 a as_ (aB { st with au:=fM st.au b,nb:=st.nb+1 }) w'/\aG (vx ah a6 (aB { st with au:=fM st.au b,nb:=st.nb+1 }) w') (.sl c xs' .no) (.slice (J ⟨g,0,aj⟩) (I xs') cap):=by
 obtain⟨a6,x,r⟩:=u.newAt (k:=.dyn c xs') (g:=g) n o (hZ.1 p).1 (λx' j hw=>Jq (h.later j) (by rw[hw,j.el];exact p) (by simpa using v) hle hm (by simp));rw[<-acj]at x r;simp only[aG]at r;have y:=r.2;simp at y;have i:a6.au st.nb=g:=y.symm;have s:bF (jl st (.dyn c xs')).au st.nb=J (.dyn c xs'):=by show bF ((st.nb,_)::st.au) st.nb=_;rw[gu,if_pos rfl]
 obtain⟨bg,z⟩:=aiw (st:=jl st (.dyn c xs')) x s (by rw[i];exact p) (by simpa using v) hle hm;rw[i]at z;obtain⟨dE,j⟩:=bg.drop b;have eI:=aG.later j _ _ z;have f:bF st.au st.nb=none:=by cases bf:bF st.au st.nb with|none=>rfl|some k=>exact absurd (u.gp st.nb k bf).1 (Nat.lt_irrefl _)
 have e:aB { { jl st (.dyn c xs')with au:=fM (jl st (.dyn c xs')).au st.nb }with au:=fM (fM (jl st (.dyn c xs')).au st.nb) b }=aB { st with au:=fM st.au b,nb:=st.nb+1 }:=by
  refine FS.eq rfl rfl rfl rfl rfl ?_ rfl rfl rfl;funext q;show bF (fM (fM ((st.nb,_)::st.au) st.nb) b) q=bF (fM st.au b) q;rw[qB,qB,qB,gu];by_cases t:q=b
  .simp[t]
  .rw[if_neg t,if_neg t];by_cases l:q=st.nb
   .rw[if_pos l,l,f]
   .rw[if_neg l,if_neg l]
 rw[e]at dE eI;exact⟨a6,dE,eI⟩
theorem ail(a:I xs*a8 c<=I vs)(h:∀i y j d,xs[i]? = J y->(enc c y)[j]? = J d->∃u,vs[i*a8 c+j]? = J u/\gl x.S x.w d u):fh x c xs (vs.take (I xs*a8 c)):=by
 refine⟨by rw[jL];exact Nat.min_eq_left a,λi y j d aE ar=>?_⟩;obtain⟨u,b,e⟩:=h i y j d aE ar;refine⟨u,?_,e⟩;have f:i<I xs:=(lN.1 aE).1;have k:j<a8 c:=S7
 have:i*a8 c+j<I xs*a8 c:=by have g:(i+1)*a8 c<=I xs*a8 c:=ly _ f;rw[Nat.add_mul]at g;omega
 rw[List.getElem?_take_of_lt this];exact b
theorem fh.take(h:fh x c xs vs)(k:Nat)(b:k<=I xs):fh x c (xs.take k) (vs.take (k*a8 c)):=by
 have a:I (xs.take k)=k:=by rw[jL];exact Nat.min_eq_left b
 have:=ail (x:=x) (c:=c) (xs:=xs.take k) (vs:=vs) (by rw[a,h.1];exact ly _ b) (λi y j d aE ar=>by
  rw[h5]at aE;split at aE
  .exact h.2 i y j d aE ar
  .cases aE)
 rwa[a]at this
theorem fh.drop(h:fh x c xs vs)(k:Nat):fh x c (xs.drop k) (vs.drop (k*a8 c)):=by refine⟨by rw[ff,ff,h.1,Nat.sub_mul],λi y j d aE ar=>?_⟩;rw[kr]at aE;obtain⟨u,a,b⟩:=h.2 (k+i) y j d aE ar;refine⟨u,?_,b⟩;rw[kr,<-a];congr 1;rw[Nat.add_mul,Nat.add_assoc]
theorem aqt{d:D}(h:jj w d (.tuple #[])):False:=j5
theorem aoP{y:dy c}{b o n cap:Nat}{cs:Array aD}{t:bD}(h:gl x.S x.w (.sl c (y::ys) .no) (.slice (J ⟨b,o,aj⟩) n cap))(s:∀i,x.S g i)(d:x.w.heap[g]? = J (.cells cs t (0,0))):b≠g:=by
 intro e;subst e;have f:bM x.S x.w (x.w.setRow b (lX cs.size (.tuple #[])).toArray):=by have j:av.bM [b] x.w (x.w.setRow b (lX cs.size (.tuple #[])).toArray):=⟨rfl,rfl,rfl,by simp,λk _ v=>setRow_other x.w b k _ (by simpa using v)⟩;refine(BB j (vs:=cs.toList) (us:=lX cs.size (.tuple #[])) (t:=t) (by rw[Array.toArray_toList];exact d) (setRow_heap _ b _ _ t (0,0) d) (by simp)).mono λq i r=>?_;subst r;exact s i
 obtain⟨ca,hC,e,z⟩:=(h _ f).slice;rcases z with jZ|⟨cu,dq,rfl,_,l⟩
 .cases jZ
 .simp at e;obtain⟨⟨rfl,rfl⟩,_⟩:=e;have m : 0<I (enc c y):=by rw[k5];exact I9 c
  obtain⟨u,a,p⟩:=l 0 y rfl 0 _ (ic m);simp only[h7,(setRow_heap x.w b _ (lX cs.size (aD.tuple #[])).toArray t (0,0) d)]at a;simp at a;have:u = .tuple #[]:=by obtain⟨r,a⟩:=hZ.1 a;simp at a;exact a.symm
  subst this;exact aqt p
structure Th (P:cP) (f:FuncId) (t:bD):Prop where
 enters:av.Enters P f
 T7:∀(g n i cap hl hT nz:Nat) (cs ys:List aD),0<n->i<=n->n<=cap->I cs=cap*2->(∀v,v∈cs.take (n*2)->av.one v=ab)->I ys=2->(∀v,v∈ys->av.one v=ab)->hl≠g->n<=1000000 ->
  av.lE P f [.slice (J ⟨g,0,aj⟩) n cap,.int .i64 i,.slice (J ⟨hl,hT,aj⟩) 1 nz] [.bF g cs t] (λw=>∀(j:Nat) v,ys[j]? = J v->w.cell? ⟨hl,hT+j,aj⟩=J v) (λv L _=>
   (∃cs',v = .slice (J ⟨g,0,aj⟩) (n+1) cap/\n+1<=cap/\L=[.bF g cs' t]/\I cs'=I cs/\cs'.take ((n+1)*2)=cs.take (i*2)++ys++(cs.drop (i*2)).take ((n-i)*2)) \/
   (∃b hC cs',v = .slice (J ⟨b,0,aj⟩) (n+1) hC/\n+1<=hC/\hC<=dr/\L=[.bF b cs' t,.bF g cs t]/\I cs'=hC*2/\cs'.take ((n+1)*2)=cs.take (i*2)++ys++(cs.drop (i*2)).take ((n-i)*2)))
 aDu:∀(a:Option Addr) (hl hT nz:Nat) (ys:List aD),I ys=2->(∀v,v∈ys->av.one v=ab) ->
  av.lE P f [.slice a 0 0,.int .i64 0,.slice (J ⟨hl,hT,aj⟩) 1 nz] [] (λw=>∀(j:Nat) v,ys[j]? = J v->w.cell? ⟨hl,hT+j,aj⟩=J v) (λv L _=>∃b hC cs',v = .slice (J ⟨b,0,aj⟩) 1 hC/\1<=hC/\hC<=dr/\L=[.bF b cs' t]/\I cs'=hC*2/\cs'.take 2=ys)
def JF(args:U D)(st:bw)(K:U D->bw->ae R):ae R:=match args with
 |[.h3 b .idx p n,.int .i64 i,.sl .idx [y] _]=>match bF st.au b with
  |some (.dyn .idx xs)=>ax (aa (p=0)&&aa (0<n)&&aa (n=(I xs:Int))&&aa (0<=i)&&aa (i<=n)&&aa (n<=1000000)) (K [.sl .idx (xs.take i.toNat++y::xs.drop i.toNat) .no] { st with au:=fM st.au b,nb:=st.nb+1 })
  |_=>aj
 |[.sl .idx [] .z,.int .i64 i,.sl .idx [y] _]=>ax (aa (i=0)) (K [.sl .idx [y] .no] st)
 |_=>aj
theorem WB{y:dy .idx}{v:aD}(h:gl x.S x.w (.sl .idx [y] .no) v):∃hl hT nz us,v = .slice (J ⟨hl,hT,aj⟩) 1 nz/\fh x .idx [y] us/\I us=2/\(∀z,z∈us->av.one z=ab)/\∀(j:Nat) u,us[j]? = J u->x.w.cell? ⟨hl,hT+j,aj⟩=J u:=by
 obtain⟨a,cap,us,rfl,c,d⟩:=EV h;obtain⟨ca,hC,e,f⟩:=tg h;simp at e;rcases f with g|⟨b,o,i,_⟩
 .cases g
 .have k:=e.1.trans i;subst k;exact⟨b,o,cap,us,rfl,c,by rw[c.1];rfl,c.one,d b o rfl (by simp)⟩
theorem asu(h:Th ah.P g (ah.el .idx))(ao:JF args st K=J r):xR ah g args st K r:=by
 unfold JF at ao;split at ao
 .rename_i b p n i y bh;split at ao
  .rename_i xs al;obtain⟨bf,gK⟩:=h_ ao;simp at bf;obtain⟨⟨⟨⟨⟨aW,ck⟩,s⟩,iK⟩,jF⟩,hq⟩:=bf;subst aW s;obtain⟨i,rfl⟩:∃k:Nat,i=k:=⟨i.toNat,by omega⟩;refine⟨h.enters,λm a as_ w vs aF d=>?_⟩;simp only[bl]at d;obtain⟨v1,_,rfl,⟨ke,_,_,_,ad,cap,rfl,dv,hle,dI,cur,f,a2,ek⟩,v2,_,rfl,⟨rfl,_⟩,v3,_,rfl,⟨ac,_⟩,rfl⟩:=d;obtain⟨_,iZ,vs,t,bE,ev,e8⟩:=aF.gp b _ al;have a2:w.heap[m.au b]? = J (.cells cur (ah.el .idx) f):=a2;have bE:w.heap[m.au b]? = J (.cells vs.toArray t (0,0)):=bE;rw[a2]at bE;simp at bE;obtain⟨rfl,rfl,rfl⟩:=bE;obtain rfl:=dv.resolve_left af;have cq:I vs=cap*2:=by simpa[a8]using ek
   simp at hle;have a3:=ail (x:=vx ah m (aB st) w) ev e8;obtain⟨hl,hT,nz,us,rfl,a4,cM,cV,l⟩:=WB ac;have eX:(aB st).au b≠none:=S5
   have am:hl≠m.au b:=aoP (x:=vx ah m (aB st) w) ac (λ_=>.inr (.inl ⟨b,eX,rfl⟩)) a2;have eY:∀v,v∈vs.take (I xs*2)->av.one v=true:=a3.one;have dp:av.du ⟨ah.P,0,w,av.e9 [.bF (m.au b) vs (ah.el .idx)],[]⟩ [.bF (m.au b) vs (ah.el .idx)] (λw=>∀(j:Nat) v,us[j]? = J v->w.cell? ⟨hl,hT+j,aj⟩=J v) w:=by
    refine⟨av.bM.refl _ _,λq bV=>?_,by simp[av.e9,av.fB.dZ],λq bV=>.inl bV,by simp,λw' dC j v dh=>?_⟩
    .simp at bV;subst bV;exact a2
    .refine dC.cell (l j v dh) ?_;simpa[av.e9,av.fB.dZ]using am
   have d:([.slice (J ⟨m.au b,(0:Int).toNat*a8 .idx,aj⟩) ((I xs:Nat):Int).toNat cap,.int .i64 (i:Int),.slice (J ⟨hl,hT,aj⟩) 1 nz]:U aD)=[.slice (J ⟨m.au b,0,aj⟩) (I xs) cap,.int .i64 i,.slice (J ⟨hl,hT,aj⟩) 1 nz]:=by simp
   show Calls ah.P g ([.slice (J ⟨m.au b,(0:Int).toNat*a8 .idx,aj⟩) ((I xs:Nat):Int).toNat cap,.int .i64 (i:Int),.slice (J ⟨hl,hT,aj⟩) 1 nz]:U aD).toArray w _;rw[d];refine((h.T7 (m.au b) (I xs) i cap hl hT nz vs us af af hle cq eY cM cV am af).run w [] dp).mono ?_;rintro dJ w' ⟨u,L',eG,rfl,cS,cw⟩;have a5:av.bM [m.au b] w w':=by simpa[av.e9,av.fB.dZ]using cw.fw
   have db:i<=I xs:=af
   have ct:fh (vx ah m (aB st) w) .idx (xs.take i++y::xs.drop i) (vs.take (i*2)++us++(vs.drop (i*2)).take ((I xs-i)*2)):=by
    have gy:=((a3.take i db).append a4).append (a3.drop i);rw[hp,List.singleton_append]at gy;have bc:(vs.take (I xs*a8 .idx)).take (i*a8 .idx)=vs.take (i*2):=by rw[List.take_take,Nat.min_eq_left (ly _ db)];rfl
    have ep:(vs.take (I xs*a8 .idx)).drop (i*a8 .idx)=(vs.drop (i*2)).take ((I xs-i)*2):=by rw[List.drop_take];show(vs.drop (i*2)).take (I xs*2-i*2)=_;rw[<-Nat.sub_mul]
    rw[bc,ep]at gy;exact gy
   have s:I (xs.take i++y::xs.drop i)=I xs+1:=d'
   simp at gK;rcases cS with ⟨cs',rfl,e,rfl,bG,a9⟩|⟨cu,hC,cs',rfl,e,bZ,rfl,bG,a9⟩
   .have bB:w'.heap[m.au b]? = J (.cells cs'.toArray (ah.el .idx) (0,0)):=cw.ok (.bF (m.au b) cs' (ah.el .idx)) (by simp);obtain⟨a6,fJ,f_⟩:=aou (c:=.idx) (xs':=xs.take i++y::xs.drop i) aF al (BB a5 a2 bB bG) bB (cap:=cap) (by rw[bG];exact cq) aj9 (by rw[s];exact e) dI;exact ai4
   .have bB:w'.heap[cu]? = J (.cells cs'.toArray (ah.el .idx) (0,0)):=cw.ok (.bF cu cs' (ah.el .idx)) (by simp);have eM:w'.heap[m.au b]? = J (.cells vs.toArray (ah.el .idx) (0,0)):=cw.ok (.bF (m.au b) vs (ah.el .idx)) (by simp);have gF:cu≠m.au b:=by have:=cw.nodup;simpa[av.e9,av.fB.dZ]using this
    have cZ:w.heap.size<=cu:=by
     rcases cw.own cu Tc with aY|aY
     .exact absurd (by simpa[av.e9,av.fB.dZ]using aY) gF
     .exact aY
    have b7:bM fE w w':=.Cx a5.os a5.tape a5.output a5.size λk bf=>by
     by_cases dk:k=m.au b
     .rw[dk,eM,a2]
     .exact a5.block k bf (by simpa using dk)
    obtain⟨a6,fJ,f_⟩:=am6 (b:=b) (c:=.idx) (xs':=xs.take i++y::xs.drop i) aF b7 cZ bB (cap:=hC) bG aj9 (by rw[s];exact e) bZ;exact ai4
  .cases ao
 .rename_i i y bh;obtain⟨bf,gK⟩:=h_ ao;simp at bf;subst bf;refine⟨h.enters,λm a as_ w vs aF d=>?_⟩;simp only[bl]at d;obtain⟨v1,_,rfl,⟨_,_,ad,rfl⟩,v2,_,rfl,⟨rfl,_⟩,v3,_,rfl,⟨ac,_⟩,rfl⟩:=d;obtain⟨hl,hT,nz,us,rfl,a4,cM,cV,l⟩:=WB ac;refine((h.aDu ad hl hT nz us cM cV).run w [] (Kc λw' al j v dh=>?_)).mono ?_
  .have ap:=l j v dh;rw[aT.cell?_of_block (a:=⟨hl,hT+j,aj⟩) (al hl (zv ap))];exact ap
  .rintro dJ w' ⟨u,L',eG,rfl,⟨cu,hC,cs',rfl,e,bZ,rfl,bG,a9⟩,cw⟩;have b7:bM fE w w':=Jj S_;have bB:w'.heap[cu]? = J (.cells cs'.toArray (ah.el .idx) (0,0)):=cw.ok (.bF cu cs' (ah.el .idx)) (by simp);have cZ:w.heap.size<=cu:=by
    rcases cw.own cu Tc with aY|aY
    .cases aY
    .exact aY
   have eN:fI (vx ah m (aB st) w) (vx ah m (aB st) w'):=⟨b7.mono (λ_ _ h=>h.elim),λb i bO=>.inl bO,rfl,λ_ _=>rfl,bU _,bU _,λt _ c5=>⟨c5,rfl,λg o cr=>b7.block g (aF.lS c5 cr) (λ_ h=>h)⟩⟩;refine⟨_,rfl,_,st,m,gK,⟨rfl,rfl,rfl,rfl,rfl⟩,aF.quiet b7,?_⟩;simp[iU];refine⟨DB (x:=vx ah m (aB st) w') (a4.later eN) ⟨e,bZ⟩ (λj z dh=>?_) (λi _=>XA aF cZ i),trivial⟩;show w'.cell? _=_;simp[h7,bB];rw[<-a9,h5]at dh;split at dh
   .simpa using dh
   .cases dh
 .cases ao
end
section
variable {R:Type}{P:cP}{el:cl->bD}{cD:Nat->ae lI}{a1:Nat->ej}{ah:di}
variable{g:Nat}
theorem akU(H:m7 P el cD a1 ah)(h:rL P g (el c) (a8 c))(a:y5 P g):kb (R:=R) ah g (Dl c):=λ_ _ _ _ ao=>axm Te (by rw[H.p];exact a) ao
theorem aCC(H:m7 P el cD a1 ah)(h:rL P g (el c) (a8 c))(a:y5 P g):pP (R:=R) ah g (Ja c):=atM Te (by rw[H.p];exact a)
theorem aCN(H:m7 P el cD a1 ah)(h:Th P g (el .idx)):kb (R:=R) ah g JF:=λ_ _ _ _ ao=>asu Te ao
end
end Go.ft
namespace Go.av
open Go.RowKit
section
variable {ah:di}{k:U mB}{e:Env}{L:Loc}{F:aT->Prop}{Q:Exit->Act->aT->Prop}{ops:Array bx}{l:U bx}{w:aT}
theorem du.swap{x y:fB}(h:du ah (x::L) F w)(b:y.dZ=x.dZ)(c:y.ok w):du ah (y::L) F w:=by
 have d:e9 (y::L)=e9 (x::L):=by simp[e9,b]
 refine⟨h.fw,?_,by rw[d];exact h.nodup,by rw[d];exact h.own,h.hN,by rw[d];exact h.qc⟩;intro z a;simp at a;rcases a with rfl|a
 .exact c
 .exact h.ok z (mg _ a)
variable{u:bD}
theorem du.aDr{b:Nat}(bX:Nat)(h:du ah (.bF b [] u::L) F w):du ah (.row (.slice (J ⟨b,0,aj⟩) 0 0) u bX 0 []::L) F w:=h.swap rfl ⟨by simp,.inr ⟨b,0, #[],rfl,cL _,h.ok _ jy,bU _,cL _,by simp,by simp⟩⟩
theorem HR{b:Nat}(bX:Nat)(h:O ah ops l k e (.row (.slice (J ⟨b,0,aj⟩) 0 0) u bX 0 []::L) F Q):O ah ops l k e (.bF b [] u::L) F Q:=.mk λa w c d=>h.run a w c (d.aDr bX)
variable{P:cP}{a:ae Addr}{c:Nat}{t:bD}{t':bD}{x:cO}{y:cO}
theorem y'{n:Nat}(bX:Nat)(b:(p9 P t == J bX)=ab)(ag:Env.aJ e x=J (.slice a n c))(aE:Env.aJ e y=J (.slice aj 0 0)):Pure P e (.binOp .eql t x y t') (.bool a.isNone):=by obtain⟨u,d,_⟩:=Fe (n:=bX) Ei;refine h4 ag aE (λw=>rfl) λw=>?_;have:=run_equal_slice_nil (P:=P) w t u a n c d;simp[binOp,this]
end
variable{P:cP}
theorem aml(w:aT)(k l ty elem:bD)(i0:TypeInfo)(g o c e:Nat)(a:Addr)(b d:Nat)(cur:Array aD)(t:bD)(cs:U aD)(m:P.underlying k=J (.slice elem))(n:P.info? elem=J i0)
  (p:w.heap[g]? = J (.cells cur t (0,0))) (q:I cs=Nat.min b c*i0.size) (f:∀j v,cs[j]? = J v->w.cell? (a.add j)=J v) (h:o+I cs<=cur.size) (r:∀v∈cs,v.oneCell' = ab) :
  (jq.copy_ #[k,l] ty #[.slice (J ⟨g,o,aj⟩) c e,.slice (J a) b d]).run P w =
   .ok (goInt (Nat.min b c)) (w.setRow g (cur.toList.take o++cs++cur.toList.drop (o+I cs)).toArray):=by
 have s:=run_firstCells_some (P:=P) w i0.size (Nat.min b c) a b d cs q f;have i:=run_storeCells_at P g o t cs 0 cur w p uO r;simp at i;simp[jq.copy_,dO m,jq.lenOf,sizeOf,typeInfo,n,s,i]
section
variable {ah:di}{k:U mB}{e:Env}{L:Loc}{F:aT->Prop}{Q:Exit->Act->aT->Prop}{ops:Array bx}{rest:U bx}
def CQ(ah:di)(L:Loc)(F:aT->Prop)(b off:Nat)(zs:U aD):Prop:=∀w,du ah L F w->∀(j:Nat) v,zs[j]? = J v->w.cell? ⟨b,off+j,aj⟩=J v
variable{cs:U aD}{t:bD}
theorem Wt{b off n:Nat}(i:Nat)(c:L[i]? = J (.bF b cs t)):CQ ah L F b off ((cs.drop off).take n):=λw d j v a=>by
 refine Qn (d.ok _ (lW c)) ?_;rw[h5]at a;split at a
 .grind
 .cases a
theorem aAd(w:aT)(g:Nat)(cs:Array aD):bM [g] w (w.setRow g cs):=⟨rfl,rfl,rfl,by simp,λk _ a=>setRow_other w g k cs w5⟩
variable{g:Nat}
theorem du.setRow{w:aT}{cs':U aD}(h:du ah L F w)(i:Nat)(a:L[i]? = J (.bF g cs t)):du ah (L.set i (.bF g cs' t)) F (w.setRow g cs'.toArray):=h.alY i a (aAd w g _) (setRow_heap w g _ _ t (0,0) (h.ok _ (lW a))) Ek (λb al=>.inl al)
variable{by_:Nat}{dst:Nat}{g':ae (Nat×Bool)}{m:Nat}{pos:String}{s:cO}{ht:Nat}{bX:Nat}{t':bD}{ty:bD}{u:bD}{zs:U aD}
theorem GW{d:cO}{l:bD}{c:Array Edge}{o Cq b off sl:Nat}(i:Nat)(cr:m2 ops e g' = J ab)(ar:eU dst ah.n=ab)(eZ:nK ah.P t u bX by_)
  (ag:Env.aJ e d=J (.slice (J ⟨g,o,aj⟩) m Cq)) (aE:Env.aJ e s=J (.slice (J ⟨b,off,aj⟩) sl ht)) (bO:L[i]? = J (.bF g cs l)) (p:CQ ah L F b off zs) (bz:I zs=Nat.min sl m*bX) (q:o+I zs<=I cs) (aY:∀v,v∈zs->one v=ab)
  (h:O ah ops rest k ((dst,goInt (Nat.min sl m))::e) (L.set i (.bF g (cs.take o++zs++cs.drop (o+I zs)) l)) F Q) :
  O ah ops (⟨J dst,.call ⟨.builtin .copy, #[d,s], #[t,t']⟩,ty,pos,c,g'⟩::rest) k e L F Q:=by
 refine sZ (λr L' eG=>r=goInt (Nat.min sl m)/\L' = L.set i (.bF g (cs.take o++zs++cs.drop (o+I zs)) l)/\eG = F) cr ar (λa w he f=>?_) (λr L' eG ⟨aF,gR,fC⟩=>by rw[aF,gR,fC];exact h);obtain⟨hu,i0,z,y,dK,a2,a5,bB,a4⟩:=eZ;have a3:w.heap[g]? = J (.cells cs.toArray l (0,0)):=f.ok _ (lW bO);have x:=aml (P:=ah.P) w t t' ty u i0 g o m Cq ⟨b,off,aj⟩ sl ht cs.toArray l zs hu y a3 (by rw[a2];exact bz) (λj v dh=>by rw[jE];exact p w f j v dh) (by simpa using q) (λv en=>yn (aY v en));refine⟨_,_,_,F,?_,f.setRow (cs':=cs.take o++zs++cs.drop (o+I zs)) i bO,rfl,rfl,rfl⟩;simp[cE,resolve,invoke,builtin,he.aJ ag,he.aJ aE,x]
variable{f:Array Edge}{kk:bD}
theorem auh{d:cO}{n cap b off:Nat}(i:Nat)(cr:m2 ops e g' = J ab)(ar:eU dst ah.n=ab)(eZ:nK ah.P t u bX by_)
  (ag:Env.aJ e d=J (.slice (J ⟨g,0,aj⟩) n cap)) (aE:Env.aJ e s=J (.slice (J ⟨b,off,aj⟩) m ht)) (bO:L[i]? = J (.bF g cs u)) (q:CQ ah L F b off zs) (bz:I zs=m*bX) (l:n+m<=cap) (x:n*bX+I zs<=I cs) (aY:∀v,v∈zs->one v=ab) (aFi:kk = u)
  (h:O ah ops rest k ((dst,.slice (J ⟨g,0,aj⟩) (n+m) cap)::e) (L.set i (.bF g (cs.take (n*bX)++zs++cs.drop (n*bX+I zs)) u)) F Q) :
  O ah ops (⟨J dst,.call ⟨.builtin .append, #[d,s], #[t,t]⟩,ty,pos,f,g'⟩::rest) k e L F Q:=by
 refine sZ (λr L' eG=>r = .slice (J ⟨g,0,aj⟩) (n+m) cap/\L' = L.set i (.bF g (cs.take (n*bX)++zs++cs.drop (n*bX+I zs)) u)/\eG = F) cr ar (λa w he o=>?_) (λr L' eG ⟨aF,gR,fC⟩=>by rw[aF,gR,fC];exact h);obtain⟨hu,i0,z,y,dK,p,a4,a5,a3⟩:=eZ;have a2:w.heap[g]? = J (.cells cs.toArray u (0,0)):=o.ok _ (lW bO);have c:=run_append_room (P:=ah.P) w t ty u i0 hu y g n cap cs.toArray a2 ⟨b,off,aj⟩ m ht zs (by rw[p];exact bz) (λj v dh=>by rw[jE];exact q w o j v dh) (λv en=>yn (aY v en)) l (by rw[p];simpa using x);rw[p]at c;refine⟨_,_,_,F,?_,o.setRow (cs':=cs.take (n*bX)++zs++cs.drop (n*bX+I zs)) i bO,rfl,rfl,rfl⟩;simp[cE,resolve,invoke,builtin,he.aJ ag,he.aJ aE,c]
theorem ax4{d:cO}{n cap b off:Nat}(i:Nat)(cr:m2 ops e g' = J ab)(ar:eU dst ah.n=ab)(eZ:nK ah.P t u bX by_)
  (ag:Env.aJ e d=J (.slice (J ⟨g,0,aj⟩) n cap)) (aE:Env.aJ e s=J (.slice (J ⟨b,off,aj⟩) m ht)) (bO:L[i]? = J (.bF g cs kk)) (x:CQ ah L F b off zs) (bz:I zs=m*bX) (ck:n*bX<=I cs) (c:cap<n+m) (y:n+m<=dr) (a4:(n+m)*by_<=140737488355328)
  (h:∀cu q l,n+m<=q->q<=dr->I l=(q-(n+m))*bX->O ah ops rest k ((dst,.slice (J ⟨cu,0,aj⟩) (n+m) q)::e) (.bF cu (cs.take (n*bX)++zs++l) u::L) F Q) :
  O ah ops (⟨J dst,.call ⟨.builtin .append, #[d,s], #[t,t]⟩,ty,pos,f,g'⟩::rest) k e L F Q:=by
 refine sZ (λr L' eG=>∃cu q l,n+m<=q/\q<=dr/\I l=(q-(n+m))*bX/\r = .slice (J ⟨cu,0,aj⟩) (n+m) q/\L' = .bF cu (cs.take (n*bX)++zs++l) u::L/\eG = F) cr ar (λa w he o=>?_) (λr L' eG ⟨cu,q,l,bI,a2,a3,aF,gR,fC⟩=>by rw[aF,gR,fC];exact h cu q l bI a2 a3);obtain⟨hu,i0,z,bE,dK,a5,bG,a9,b7⟩:=eZ;have bZ:(fB.bF g cs kk).ok w:=o.ok _ (lW bO);have bB:=run_append_grow (P:=ah.P) w t ty u i0 z hu bE dK ⟨g,0,aj⟩ n cap (cs.take (n*bX)) (by rw[a5,jL];exact Nat.min_eq_left ck) (λj v p=>by
  rw[jE,h6];refine Qn bZ ?_;rw[h5]at p;split at p
  .exact p
  .cases p) ⟨b,off,aj⟩ m ht zs (by rw[a5];exact bz) (λj v p=>by rw[jE];exact x w o j v p) c (by simp[dr]at y;omega) (by rw[bG];exact growslice_fits c a4)
 refine⟨_,_,_,F,?_,(o.quiet (bM.drew [] w)).alloc (cs.take (n*bX)++zs++(iM z.cells (hU w (n+m) cap u-(n+m))).toList) u,w.heap.size,hU w (n+m) cap u,_,(grownCap_ge w (n+m) cap u),grownCap_le_maxLen w _ _ _ y,?_,rfl,rfl,rfl⟩
 .simp[cE,resolve,invoke,builtin,he.aJ ag,he.aJ aE,bB];congr 3;apply Array.ext';simp
 .simp[iM,a9]
theorem asL{d:cO}{a0:ae Addr}{b off:Nat}(cr:m2 ops e g' = J ab)(ar:eU dst ah.n=ab)(eZ:nK ah.P t u bX by_)
  (ag:Env.aJ e d=J (.slice a0 0 0)) (aE:Env.aJ e s=J (.slice (J ⟨b,off,aj⟩) m ht)) (i:CQ ah L F b off zs) (bz:I zs=m*bX) (hm : 0<m) (l:m<=dr) (o:m*by_<=140737488355328) (aY:∀v,v∈zs->one v=ab)
  (h:∀cu q g,m<=q->q<=dr->I g=(q-m)*bX->O ah ops rest k ((dst,.slice (J ⟨cu,0,aj⟩) m q)::e) (.bF cu (zs++g) u::L) F Q) :
  O ah ops (⟨J dst,.call ⟨.builtin .append, #[d,s], #[t,t]⟩,ty,pos,f,g'⟩::rest) k e L F Q:=by
 refine sZ (λr L' eG=>∃cu q g,m<=q/\q<=dr/\I g=(q-m)*bX/\r = .slice (J ⟨cu,0,aj⟩) m q/\L' = .bF cu (zs++g) u::L/\eG = F) cr ar (λa w he x=>?_) (λr L' eG ⟨cu,q,g,bI,a2,a3,aF,gR,fC⟩=>by rw[aF,gR,fC];exact h cu q g bI a2 a3);obtain⟨hu,i0,z,y,dK,a4,a5,bB,bG⟩:=eZ;have bE:Src ah.P i0.size t (.slice (J ⟨b,off,aj⟩) m ht) m zs w:=Src.ofSlice w hu ⟨b,off,aj⟩ m ht zs (by rw[a4];exact bz) (λj v dh=>by rw[jE];exact i w x j v dh) (λv en=>yn (aY v en));have hold:(jq.firstCells i0.size 0 (.slice a0 0 0)).run ah.P w.drew = .ok ([]:U aD).toArray w.drew:=by cases a0 with|none=>exact run_firstCells_none w.drew i0.size 0 0 0|some p=>exact run_firstCells_some w.drew i0.size 0 p 0 0 [] (by simp) (by simp)
 have c:=run_append_grow_src (P:=ah.P) w t t ty u i0 z hu y dK a0 0 0 [] hold _ m zs bE af (by simp[dr]at l;omega) (by rw[a5];exact growslice_fits af (by simpa using o));rw[h6]at c;refine⟨_,_,_,F,?_,(x.quiet (bM.drew [] w)).alloc (zs++(iM z.cells (hU w m 0 u-m)).toList) u,w.heap.size,hU w m 0 u,_,(grownCap_ge w m 0 u),grownCap_le_maxLen w _ _ _ l,?_,rfl,rfl,rfl⟩
 .simp[cE,resolve,invoke,builtin,he.aJ ag,he.aJ aE,c];congr 3;apply Array.ext';simp
 .simp[iM,bB]
variable{c:Nat}{x:cO}{y:cO}
theorem XF{ad:ae Addr}(h:nK P t u bX by_)(ag:Env.aJ e x=J (.slice (J ⟨g,0,aj⟩) 0 0))(aE:Env.aJ e y=J (.slice ad 0 c)):Pure P e (.call ⟨.builtin .append, #[x,y], #[t,t]⟩) (.slice (J ⟨g,0,aj⟩) 0 0):=λn a w o d i=>by
 obtain⟨j,i0,z,b,q,k,l,m,f⟩:=h;have p:∀ty,(oT #[t,t] ty #[.slice (J ⟨g,0,aj⟩) 0 0,.slice ad 0 c]).run P w = .ok (.slice (J ⟨g,0,aj⟩) 0 0) w:=λty=>by cases ad<;>simp[ dO j,go_sem,sizeOf,typeInfo,b,loadCells]
 simp[cE,i,resolve,invoke,builtin,d.aJ ag,d.aJ aE,p]
theorem asf{d:cO}{Mp:bD}{kn alh:df}{n cap:Nat}{m:Int}(i:Nat)(cr:m2 ops e g' = J ab)(ar:eU dst ah.n=ab)(eZ:nK ah.P t u bX by_)(bZ:(match ah.P.underlying Mp with|some (.int fg)=>aa (fg = kn)|_=>ai)=ab)
  (ag:Env.aJ e d=J (.slice (J ⟨g,0,aj⟩) n cap)) (aE:Env.aJ e s=J (.int alh m)) (bO:L[i]? = J (.bF g cs kk)) (hm : 0<m) (ck:n*bX<=I cs) (b:cap<n+m.toNat) (l:n+m.toNat<=dr) (c:(n+m.toNat)*by_<=140737488355328)
  (h:∀cu q o,n+m.toNat<=q->q<=dr->I o=(q-n)*bX->O ah ops rest k ((dst,.slice (J ⟨cu,0,aj⟩) (n+m.toNat) q)::e) (.bF cu (cs.take (n*bX)++o) u::L) F Q) :
  O ah ops (⟨J dst,.call ⟨.builtin .append, #[d,s], #[t,Mp]⟩,ty,pos,f,g'⟩::rest) k e L F Q:=by
 obtain⟨j,rfl⟩:∃j:Nat,m=j:=⟨m.toNat,by omega⟩;simp at b l c h;refine sZ (λr L' eG=>∃cu q o,n+j<=q/\q<=dr/\I o=(q-n)*bX/\r = .slice (J ⟨cu,0,aj⟩) (n+j) q/\L' = .bF cu (cs.take (n*bX)++o) u::L/\eG = F) cr ar (λa w he p=>?_) (λr L' eG ⟨cu,q,o,bI,a2,a3,aF,gR,fC⟩=>by rw[aF,gR,fC];exact h cu q o bI a2 a3);obtain⟨hu,i0,z,a5,dK,bB,x,b7,a9⟩:=eZ;have y:ah.P.underlying Mp=J (.int kn):=im
 have bE:(fB.bF g cs kk).ok w:=p.ok _ (lW bO);have hold:(jq.firstCells i0.size n (.slice (J ⟨g,0,aj⟩) n cap)).run ah.P w.drew = .ok (cs.take (n*bX)).toArray w.drew:=run_firstCells_some (P:=ah.P) w.drew i0.size n ⟨g,0,aj⟩ n cap (cs.take (n*bX)) (by rw[bB,jL];exact Nat.min_eq_left ck) (λj v dh=>by
  rw[jE,h6];have ao:w.cell? ⟨g,j,aj⟩=J v:=by
   refine Qn bE ?_;rw[h5]at dh;split at dh
   .exact dh
   .cases dh
  simpa using ao)
 have a4:=Lib.run_append_grow_zeros (P:=ah.P) w t Mp ty u i0 z alh kn hu y a5 dK (J ⟨g,0,aj⟩) n cap (cs.take (n*bX)) hold j af af b (by simp[dr]at l;omega) (by rw[x];have:j*by_<=(n+j)*by_:=ly _ af;omega) (by rw[x];exact growslice_fits b c)
 have bG:=grownCap_ge w (n+j) cap u;refine⟨_,_,_,F,?_,(p.quiet (bM.drew [] w)).alloc (cs.take (n*bX)++((iM z.cells j).toList++(iM z.cells (hU w (n+j) cap u-(n+j))).toList)) u,w.heap.size,hU w (n+j) cap u,_,bG,grownCap_le_maxLen w _ _ _ l,?_,rfl,rfl,rfl⟩
 .simp[cE,resolve,invoke,builtin,he.aJ ag,he.aJ aE,a4];congr 3;apply Array.ext';simp
 .simp[ iM];rw[<-Nat.add_mul];congr 1;omega
variable{a:ae Addr}
theorem aCl{n:Nat}(bX:Nat)(b:(p9 P t == J bX)=ab)(ag:Env.aJ e x=J (.slice a n c)):Pure P e (.call ⟨.builtin .cap, #[x], #[t]⟩) (.int .i64 c):=λm ca w o d f=>by obtain⟨u,g,h⟩:=Fe (n:=bX) Ei;simp[cE,f,resolve,invoke,builtin,d.aJ ag,jq.cap_,dO g,goInt]
variable{j:Int}{z:cO}
theorem SI{n:Nat}{b:df}(bX:Nat)(f:(p9 P t == J bX)=ab)(ag:Env.aJ e x=J (.slice a n c))(g:Env.aJ e z=J (.int b j))(h : 0<=j/\j<=n) :
  Pure P e (.slice t x (J z) aj aj) (.slice (if c=j.toNat then a else a.map (λp=>p.add (j.toNat*bX))) (n-j.toNat) (c-j.toNat)):=λq ca w o d i=>by
 obtain⟨u,k,l⟩:=Fe (n:=bX) (by simpa using f);have m:(Instr.sliceAt t (.slice a n c) (J (.int b j)) aj aj).run P w = .ok (.slice (if c=j.toNat then a else a.map (λp=>p.add (j.toNat*bX))) (n-j.toNat) (c-j.toNat)) w:=by simp[Instr.sliceAt,Instr.slice,e3,dO k,gr,ko,Instr.sliceBound,asIntOf,ga,if_pos h,run_sizeOf l]
 simp[cE,i,e3,d.aJ ag,d.aJ g,q5,Option.map_none,m,gr,ga]
theorem xN{off n:Nat}{a:df}(bX:Nat)(b:(p9 P t == J bX)=ab)(ag:Env.aJ e x=J (.slice (J ⟨g,off,aj⟩) n c))(d:Env.aJ e z=J (.int a j))(h : 0<=j/\j<=n/\j<c) :
  Pure P e (.slice t x (J z) aj aj) (.slice (J ⟨g,off+j.toNat*bX,aj⟩) (n-j.toNat) (c-j.toNat)):=by
 have:=SI (P:=P) bX b ag d ⟨h.1,h.2.1⟩;rw[if_neg af,q5,jE]at this;exact this
end
end Go.av
namespace Go.ft
open Go.RowKit
def Vk:D->Bool|.int _ _|.bool _|.str _=>ab|_=>ai
def zP(st:bw)(sl:Nat)(c:cl)(xs:U (dy c)):bw:={ st with env:=(sl,.h3 st.nb c 0 (I xs:Int))::st.env,au:=[(st.nb,.dyn c xs)],nb:=st.nb+1,bh:=[] }
def Rv{R:Type}(sl:Nat)(st:bw)(K:bw->ae R):ae R:=match get st.env sl,st.au,st.cx,st.bh with
 |some (.sl c xs (.id t)),[],[],[t']=>match Kv c&&cp t' t&&st.env.all λp=>cp p.1 sl||Vk p.2 with|true=>ax (!xs.isEmpty) (K (zP st sl c xs))|false=>aj
 |_,_,_,_=>aj
theorem ahb:∀{e:Env}{k:Nat}{d:D},get e k=J d->(k,d)∈e
 |[],_,_,h=>by cases h
 |(j,v)::e,k,d,h=>by
  rw[k3]at h;split at h
  .grind
  .exact .tail _ (ahb h)
section
variable {R:Type}{px Vd:aR R}{ah:di}
theorem Rel.aEW(vJ:ah.gE=fE)(cr:∀g,ah.cD g=aj){m:ed}{a:Act}{as_:U Act}{st:bw}{w:aT}{sl t:Nat}{c:cl}{xs:U (dy c)}(cw:get st.env sl=J (.sl c xs (.id t)))(cb:st.cx=[])(b':st.bh=[t])(a5:Kv c=ab)(he:xs≠[])(bB:∀k d,k≠sl->get st.env k=J d->Vk d=ab)(f:Rel ah m a as_ (aB st) w):∃a6,Rel ah a6 a as_ (aB (zP st sl c xs)) w:=by
 obtain⟨v,en,n⟩:=f.env.get sl _ cw;simp[aG]at n;obtain⟨bE,_,s⟩:=n;have x:(aB st).bJ t:=by simp[aB,b']
 rcases s x with ⟨_,_,e⟩|⟨g,cap,cur,rfl,hm,z,a2,hle,a3⟩
 .exact absurd e he
 have z:w.heap[g]? = J (.cells cur (ah.el c) (0,0)):=z;obtain⟨ym,ew⟩:=f.own g _ (.inr ⟨t,_,x,hm,bU _⟩);rw[vJ]at ew;have ew:=ew.resolve_left id;have bG:I cur.toList=cap*a8 c:=by simpa using a2
 have a4:I xs<=maxLen:=fV hle a3;have no:∀t,¬(aB (zP st sl c xs)).bJ t:=λt h=>by cases h
 have own:∀b,(aB (zP st sl c xs)).au b≠aj->b=st.nb:=λb h=>by
  by_cases al:st.nb=b
  .exact al.symm
  .exact absurd (by simp[aB,zP,bF,m5 al]) h
 refine⟨⟨λ_=>g,λ_=>aj⟩,f.fw,⟨f.env.defers,f.env.size,λk d r=>?_⟩,?_,Nat.le_succ_of_le f.c7,f.lt,λb k r=>?_,λt h=>absurd h (no t),λb cu h tN _=>(own b h).trans (own cu tN).symm,λt _ _ _ _ h=>absurd h (no t),λ_ t _ _ _ h=>absurd h (no t),?_,f.hN,?_⟩
 .have aZ:get ((sl,.h3 st.nb c 0 (I xs:Int))::st.env) k=J d:=r;rw[k3]at aZ;split at aZ
  .rename_i e;subst e;obtain rfl:=ks aZ;refine⟨_,en,?_⟩;simp only[aG];exact⟨Nat.lt_succ_self _,Int.le_refl _,Int.natCast_nonneg _,by simpa using a4,J ⟨g,0,aj⟩,cap,by simp,.inr (by simp[vx]),by simpa using hle,a3,cur,(0,0),z,by simpa using a2⟩
  .rename_i e;obtain⟨u,p,ar⟩:=f.env.get k d aZ;refine⟨u,p,?_⟩;have aY:=bB k d e aZ;cases d<;>simp[Vk]at aY<;>simpa only[aG]using ar
 .have:=f.jI;simp[aB,cb]at this;simp[ zP,cb];exact this
 .have r:bF [(st.nb,dW.dyn c xs)] b=J k:=r;by_cases al:st.nb=b
  .subst al;simp[bF]at r;subst r;refine⟨Nat.lt_succ_self _,a4,cur.toList,ah.el c,by simp[vx];exact z,bG.symm▸ly _ hle,λi y j d aE ar=>?_⟩;obtain⟨ad,hC,l,q⟩:=bE.here.slice;simp at l;rcases q with e|⟨b,o,e,_,a9⟩
   .exact absurd e he
   .rw[e]at l;simp at l;obtain⟨⟨rfl,rfl⟩,_⟩:=l;obtain⟨u,p,cb⟩:=a9 i y aE j d ar;refine⟨u,?_,aAe a5 ar cb⟩;rw[h6]at p;have p:w.cell? ⟨g,i*a8 c+j,aj⟩=J u:=p;simp[h7,z]at p;simpa using p
  .grind
 .rintro b i (⟨k,_,al⟩|⟨t,_,h,_⟩)
  .grind
  .exact absurd h (no t)
 .exact⟨λg _ _ h=>Tf,λg _ h=>Tf,λg _ h=>Tf⟩
theorem awF{b:Code}{sl:Nat}(p:ah.gE=fE)(q:∀g,ah.cD g=aj)(h:hX ah Vd b)(l:∀st K,px.loop b st K=Rv sl st λaS=>Vd.loop b aS K):hX ah px b:=by
 intro st K r f Q m a as_ w ao s u;rw[l]at f;unfold Rv at f;split at f
 .rename_i c xs t t' v eH x y;split at f
  .rename_i i;simp only[bN,dH,mK]at i;obtain⟨⟨i,z⟩,vE⟩:=i;obtain rfl:=dS z;cases j:xs.isEmpty with
   |true=>rw[j]at f;cases f
   |false=>
    rw[j]at f;obtain⟨a6,n⟩:=s.aEW p q v x y i (λe=>by rw[e]at j;cases j) (λk d a2 ar=>by
     rcases vE _ (ahb ar)with o|o
     .simp_all
     .exact o)
    exact h _ K r f Q a6 a as_ w ao n u
  .cases f
 .cases f
end
end Go.ft
namespace Go.Proofs.YtdelkmpkjibigaaGreatDoor
open Go.ft
def oP:U (Int×ak):=[(4,[65,78,68]),(5,[79,82]),(6,[61]),(7,[60,62]),(8,[60]),(9,[60,61]),(10,[62]),(11,[62,61]),(12,[43]),(13,[45]),(14,[42])]
def qh:U ak:=[[65,68,68],[65,78,68],[65,83,67],[66,79,79,76],[66,89],[66,89,84,69,83],[67,72,69,67,75],[67,82,69,65,84,69],[68,69,76,69,84,69],[68,69,83,67],[68,82,79,80],[70,65,76,83,69],[70,82,79,77],[73,78,68,69,88],[73,78,83,69,82,84],[73,78,84],[73,78,84,79],[73,83],[75,69,89],[76,73,77,73,84],[78,79,84],[78,85,76,76],[79,78],[79,82],[79,82,68,69,82],[80,82,73,77,65,82,89],[82,69,70,69,82,69,78,67,69,83],[83,69,76,69,67,84],[83,69,84],[84,65,66,76,69],[84,69,88,84],[84,82,85,69],[85,78,73,81,85,69],[85,80,68,65,84,69],[86,65,76,85,69,83],[87,72,69,82,69]]
def vM:U ak:=[[],[],[66,79,79,76],[73,78,84],[84,69,88,84],[66,89,84,69,83]]
def tZ:U (Nat×ft.ej):=[(1,.fn),(3,.int .i64),(4,.bool),(5,.int .u8),(9,.str),(21,.int .i32),(22,.sl .b2),(23,.sl .str),(24,.sl .expr),(25,.sl .idx),(27,.st (J .eT) [(0,9),(1,22),(2,23),(3,24),(4,25)] [.str [],.sl .b2 [] .nil,.sl .str [] .nil,.sl .expr [] .nil,.sl .idx [] .nil]),(28,.sl .byte),(30,.sl .exprs),(31,.sl .set),(33,.st (J .val) [(0,3),(1,3),(2,9)] [.int .i64 0,.int .i64 0,.str []]),(35,.st (J .expr) [(0,3),(1,33),(4,9),(5,24)] [.int .i64 0,.int .i64 0,.int .i64 0,.str [],.str [],.sl .expr [] .nil]),(36,.sl .bool),(38,.st (J .stmt) [(0,3),(1,9),(2,9),(3,22),(4,23),(5,24),(6,30),(7,31),(8,4),(9,35),(15,23),(16,36),(17,3)] [.int .i64 0,.str [],.str [],.sl .b2 [] .nil,.sl .str [] .nil,.sl .expr [] .nil,.sl .exprs [] .nil,.sl .set [] .nil,.bool ai,.int .i64 0,.int .i64 0,.int .i64 0,.str [],.str [],.sl .expr [] .nil,.sl .str [] .nil,.sl .bool [] .nil,.int .i64 0]),(40,.int .i64),(56,.sl .val),(61,.sl .bytes),(63,.st (J .idx) [(0,9),(1,23)] [.str [],.sl .str [] .nil]),(83,.st (J .b2) [(0,9),(1,3),(2,4),(3,4),(4,9)] [.str [],.int .i64 0,.bool ai,.bool ai,.str []]),(86,.st (J .set) [(0,9),(1,35)] [.str [],.int .i64 0,.int .i64 0,.int .i64 0,.str [],.str [],.sl .expr [] .nil]),(95,.ptr),(97,.st aj [(0,95),(1,28)] [.n8,.sl .byte [] .nil]),(99,.st aj [(0,97)] [.n8,.sl .byte [] .nil]),(105,.fn),(108,.int .u64),(117,.sl .int),(119,.st (J .num) [(0,4),(1,117)] [.bool ai,.sl .int [] .nil]),(125,.ptr),(129,.sl .tok),(131,.st aj [(0,129),(1,3)] [.sl .tok [] .nil,.int .i64 0]),(133,.st aj [(0,131),(2,4),(3,3)] [.sl .tok [] .nil,.int .i64 0,.bool ai,.int .i64 0]),(142,.fn),(152,.st (J .tok) [(0,3),(1,3),(2,9),(3,3)] [.int .i64 0,.int .i64 0,.str [],.int .i64 0]),(154,.st (J .gz) [(0,3),(1,4)] [.int .i64 0,.bool ai]),(162,.fn),(164,.fn),(171,.fn),(176,.fn),(180,.ptr),(189,.map),(190,.ptr),(191,.int .u64),(200,.ptr),(220,.arr 2 .int),(225,.fn),(232,.fn),(234,.fn),(236,.arr 6 .str),(237,.arr 2 .str),(242,.ptr),(245,.fn),(248,.fn),(275,.st (J .pair) [(0,9),(1,3)] [.str [],.int .i64 0]),(287,.arr 36 .str),(288,.sl .pair),(290,.arr 256 .byte),(292,.st aj [(0,5),(1,5)] [.int .u8 0,.int .u8 0]),(294,.int .u32),(297,.fn)]
def i_:cl->bD|.byte=>5|.int=>3|.u64=>108|.str=>9|.bool=>4|.val=>33|.tok=>152|.b2=>83|.expr=>35|.num=>119|.set=>86|.stmt=>38|.gz=>154|.pair=>275|.idx=>63|.eT=>27|.v8=>56|.exprs=>24|.strs=>23|.bytes=>28
theorem Gz:(tZ.all λp=>fO Tryz.prog i_ (qo tZ) p.1)=true:=bW
def ph:Nat->ae lI:=eT [(0,.map oP),(1,.arr .str vM),(2,.num .i64),(3,.arr .str qh)]
theorem follows:Tryz.prog.follows .mixedOrders=true:=bW
abbrev aU:=fH Tryz.prog i_ ph
abbrev dz:=fX Tryz.prog i_ ph
abbrev akq:=m7 Tryz.prog i_ ph (qo tZ)
def bs{R:Type}(c:U (Nat×ox R))(q:U (Nat×qS R))(l:U (Nat×Rl R))(w:U (Nat×wz R)):aR R:=⟨qo tZ,ph,D1 c,Dx q,ajE l,eT w⟩
abbrev ba{R:Type}{cj b3:U cA}(F:bt cj b3):ox R:=zT cj b3 F
abbrev jK{R:Type}{cj b3:U cA}(F:bt cj b3):qS R:=Dc cj b3 F
variable{c:Code}{f:FuncId}{fn:Func}
theorem b6{cj b3:U cA}{px:aR (aw b3)}{F:bt cj b3}{n:Nat}(d:Tryz.prog.funcs[f]? = J fn)(al:fn.body=J c)(h:∀ah,akq ah->bP ah px/\∀i,i<n->hX ah px (b0 fn i))(e:∀x,DT px fn cj b3 x J=F x)(a:(fn.name == "runtime.NumGoroutine")=false:=by kernel_rfl)(b:(qY fn&&eF (I cj) fn.ntmps&&l8 (dw 0 cj) [])=true:=by kernel_rfl)(g:r' fn=n:=by kernel_rfl):aU f cj b3 F:=aDA (J8 Gz) follows d al a b g h e
theorem ig{aM bL:bn}{px:aR (aw bL.cF)}{F:pG aM bL}{n:Nat}(d:Tryz.prog.funcs[f]? = J fn)(al:fn.body=J c)(h:∀ah,akq ah->bP ah px/\∀i,i<n->hX ah px (b0 fn i))(e:∀x,D0 px fn aM bL x J=F x)(a:(fn.name == "runtime.NumGoroutine")=false:=by kernel_rfl)(b:(qY fn&&eF aM.n fn.ntmps)=true:=by kernel_rfl)(g:r' fn=n:=by kernel_rfl):dz f aM bL F:=aDz (J8 Gz) follows d al a b g h e
end Go.Proofs.YtdelkmpkjibigaaGreatDoor
namespace Go.Proofs.YtdelkmpkjibigaaGreatDoor.aO
open Go.av Go.RowKit
abbrev Tok:=Go.ft.Tok
def pre(l m:U UInt8):Bool:=aa (I m<=I l)&&aa (l.take (I m)=m)
def dc(n:Int):Prop:= -9223372036854775808<=n/\n<=9223372036854775807
instance (n:Int):Decidable (dc n):=by unfold dc;infer_instance
def mV(c:Int):Bool:=aa (32<=c)&&aa (c<=126)
def CI(l:U UInt8):Bool:=l.all λb=>mV b.toNat
def tV(k n:Int)(s:U UInt8):Bool:=if k=1 then n == 0&&aa (s=[])else if k=2 then(n == 0||n == 1)&&aa (s=[])else if k=3 then aa (s=[])else if k=4 then n == 0&&aa ((I s:Int)<=1000)&&CI s else if k=5 then n == 0&&aa ((I s:Int)<=1000)else ai
def tK(k n:Int)(s:U UInt8):Int:=if tV k n s then 0 else 2
def hs(c:Int):Bool:=aa (65<=c)&&aa (c<=90)
def kV(c:Int):Bool:=aa (97<=c)&&aa (c<=122)
def fA(c:Int):Bool:=aa (48<=c)&&aa (c<=57)
def fS(c:Int):Bool:=kV c||fA c||c == 95
def c4(p:Int->Bool)(l:U UInt8)(i:Int):Int:=i+I ((l.drop i.toNat).takeWhile λb=>p b.toNat)
theorem pK(l:U UInt8)(j:Int)(h : 0<=j/\j<I l):l.drop j.toNat=l.getD j.toNat 0::l.drop (j+1).toNat:=by
 have a:j.toNat<I l:=af
 have b:(j+1).toNat=j.toNat+1:=af
 rw[b,List.drop_eq_getElem_cons a];simp[ a]
variable{j:Int}
theorem yu{p:Int->Bool}{l:U UInt8}(h : 0<=j/\j<I l)(a:p (cf l j)=ab):c4 p l (j+1)=c4 p l j:=by unfold c4;rw[pK l j h];have:p ((l.getD j.toNat 0).toNat:Int)=true:=a;simp only[List.takeWhile_cons,this,if_true,eo];omega
theorem yt{p:Int->Bool}{l:U UInt8}(h : 0<=j/\j<I l)(a:p (cf l j)=ai):c4 p l j=j:=by unfold c4;rw[pK l j h];have:p ((l.getD j.toNat 0).toNat:Int)=false:=a;simp only[List.takeWhile_cons,this,pX,if_false,dB];omega
theorem CA{p:Int->Bool}{l:U UInt8}(h:(I l:Int)<=j):c4 p l j=j:=by unfold c4;rw[gn af];simp
def oD(l:U UInt8)(i:Int):Bool:=i == I l || !fS (cf l i) && !hs (cf l i)
def ix(c:Int):Int:=df.i64.wrap (n'.wrap (c-48))
theorem aCj(c:Int) : 0<=ix c/\ix c<=255:=by
 have a:n'.wrap (c-48)=(c-48) % 256:=akf
 unfold ix;rw[a,IntWalk.i64_in _ af];omega
theorem ajI(c:Int)(h : 48<=c/\c<=303):ix c=c-48:=by
 have a:n'.wrap (c-48)=(c-48) % 256:=akf
 unfold ix;rw[a,IntWalk.i64_in _ af];omega
def pk:U UInt8->Int->ae Int|[],n=>J n|c::r,n=>if dc (n*10)/\dc (n*10+ix c.toNat)then pk r (n*10+ix c.toNat)else aj
theorem aD2(c:Int):dc (ix c):=by have:=aCj c;unfold dc;omega
def hR:U UInt8->U UInt8->Int->U UInt8×Int|[],_,_=>([], -1)|[c],acc,i=>if c=39 then(acc,i+1)else([], -1)|c::d::r,acc,i=>if c=39 then(if d=39 then hR r (acc++[39]) (i+2)else(acc,i+1))else hR (d::r) (acc++[c]) (i+1)
variable{c:UInt8}
theorem x0{l:U UInt8}:cf l j=(c.toNat:Int)↔l.getD j.toNat 0=c:=by unfold cf;rw[<-UInt8.toNat_inj];omega
variable{acc:U UInt8}
theorem alD{l:U UInt8}(h:(I l:Int)<=j):hR (l.drop j.toNat) acc j=([], -1):=by rw[gn af];rfl
theorem alE{l:U UInt8}(h : 0<=j)(a:j+1=I l)(ao:cf l j=39):hR (l.drop j.toNat) acc j=(acc,j+1):=by rw[pK l j af,(x0 (c:=39)).1 ao,gn af];rfl
theorem alC{l:U UInt8}(h : 0<=j)(d:j+1<I l)(ao:cf l j=39)(ar:cf l (j+1)≠39):hR (l.drop j.toNat) acc j=(acc,j+1):=by have a:¬l.getD (j+1).toNat 0=39:=λb=>ar ((x0 (c:=39)).2 b);rw[pK l j af,(x0 (c:=39)).1 ao,pK l (j+1) af];simp only[hR,if_true,if_neg a]
theorem alG{l:U UInt8}(h : 0<=j)(a:j+1<I l)(ao:cf l j=39)(ar:cf l (j+1)=39):hR (l.drop j.toNat) acc j=hR (l.drop (j+1+1).toNat) (acc++[39]) (j+1+1):=by rw[pK l j af,(x0 (c:=39)).1 ao,pK l (j+1) af,(x0 (c:=39)).1 ar];simp[hR];rw[show j+2=j+1+1 by omega]
theorem alF{l:U UInt8}(h : 0<=j)(e:j<I l)(ao:¬cf l j=39):hR (l.drop j.toNat) acc j=hR (l.drop (j+1).toNat) (acc++[l.getD j.toNat 0]) (j+1):=by have a:¬l.getD j.toNat 0=39:=λb=>ao ((x0 (c:=39)).2 b);rw[pK l j af];cases ar:l.drop (j+1).toNat with|nil=>simp only[hR,if_neg a]|cons d r=>simp only[hR,if_neg a]
def ml(c:Int):ae Int:=if 48<=c/\c<=57 then J (c-48)else if 97<=c/\c<=102 then J (c-87)else aj
theorem L5{c n:Int}(h:ml c=J n) : 0<=n/\n<=15:=by
 unfold ml at h;split at h
 .exact lA
 .grind
def mU:U UInt8->U UInt8->ae (U UInt8)|[],acc=>J acc|[_],_=>aj|a::b::r,acc=>match ml a.toNat,ml b.toNat with|some x,J y=>mU r (acc++[eh (x*16+y).toNat])|_,_=>aj
theorem ayX:∀a b:Fin 16,n'.wrap (((km n'.bits (n'.wrap ((a.val:Int)*2 ^ min (4:Int).toNat n'.bits)) ||| km n'.bits (b.val:Int)).toNat:Nat):Int)=((a.val*16+b.val:Nat):Int):=pw
theorem aD4{x y:Int}(ag : 0<=x/\x<=15)(aE : 0<=y/\y<=15):n'.wrap (((km n'.bits (n'.wrap (x*2 ^ min (4:Int).toNat n'.bits)) ||| km n'.bits y).toNat:Nat):Int)=((eh (x*16+y).toNat).toNat:Int):=by obtain⟨a,rfl⟩:=Int.eq_ofNat_of_zero_le ag.1;obtain⟨b,rfl⟩:=Int.eq_ofNat_of_zero_le aE.1;have:=ayX ⟨a,by omega⟩ ⟨b,by omega⟩;simp only at this;rw[this];rw[show((a:Int)*16+(b:Int)).toNat=a*16+b by omega,UInt8.toNat_ofNat'];omega
theorem alW{l:U UInt8}(h : 0<=j)(a:j+1<I l):mU (l.drop j.toNat) acc=match ml (cf l j),ml (cf l (j+1))with
  |some x,J y=>mU (l.drop (j+2).toNat) (acc++[eh (x*16+y).toNat])
  |_,_=>none:=by
 rw[pK l j af,pK l (j+1) af,show j+1+1=j+2 by omega];rfl
def signs:U UInt8:=[40,41,44,42,61,60,62,43,45,59]
def nw(l:U UInt8):Int:=if pre l [60,62]||pre l [60,61]||pre l [62,61]then 2 else if 0<=lv signs (cf l 0).toNat.toUInt8 then 1 else 0
def idx(x:U UInt8):U (U UInt8)->Int->Int|[],_=> -1|l::r,i=>if x=l then i else idx x r (i+1)
theorem ald(x:U UInt8):∀(a:U (U UInt8)) (i:Int),0<=i->(0<=idx x a i↔x∈a)
 |[],i,_=>by simp[idx]
 |l::r,i,h=>by
  by_cases ag:x=l
  .simp[idx,ag,h]
  .simp[idx,ag,ald x r (i+1) af]
def nA(l:U UInt8):Bool:=qh.contains l
def qa(l:U UInt8):Bool:= !decide (l=[])&&aa ((I l:Int)<=30)&&kV (cf l 0)&&(c4 fS l 0 == I l)
def vX(l:U UInt8)(i:Int):ae (Int×U UInt8×Int×Int):=
 if pre (l.drop i.toNat) [120,39]then
  let n:=lv (l.drop (i+2).toNat) 39
  if n<0 then aj else
  let x:=cut l (i+2) (i+2+n);match(if I x % 2=0 then mU x []else aj)with|none=>aj|some b=>if 1000<(I b:Int)then aj else J (5,b,0,i+3+n)
 else if hs (cf l i)then
  if nA (cut l i (c4 hs l i))&&oD l (c4 hs l i)then J (1,cut l i (c4 hs l i),0,c4 hs l i)else aj
 else if kV (cf l i)then
  if qa (cut l i (c4 fS l i))&&oD l (c4 fS l i)then J (2,cut l i (c4 fS l i),0,c4 fS l i)else aj
 else if fA (cf l i)then
  match pk (cut l i (c4 fA l i)) 0 with|none=>aj|some n=>if(aa (cut l i (c4 fA l i)=[48])||cf (cut l i (c4 fA l i)) 0 != 48)&&oD l (c4 fA l i)then J (3,cut l i (c4 fA l i),n,c4 fA l i)else aj
 else if cf l i=39 then
  let q:=hR (l.drop (i+1).toNat) [] (i+1)
  if tV 4 0 q.1 then(if q.2<0 then aj else J (4,q.1,0,q.2))else aj
 else if nw (l.drop i.toNat)=0 then aj else J (6,cut l i (i+nw (l.drop i.toNat)),0,i+nw (l.drop i.toNat))
theorem pt(p:Int->Bool)(l:U UInt8)(i:Int)(h : 0<=i/\i<=I l):i<=c4 p l i/\c4 p l i<=I l:=by unfold c4;have a:=(List.takeWhile_prefix (λb:UInt8=>p b.toNat) (l:=l.drop i.toNat)).length_le;rw[ff]at a;omega
variable{i:Int}
theorem CB{p:Int->Bool}{l:U UInt8}(h : 0<=i/\i<I l)(a:p (cf l i)=ab):i+1<=c4 p l i:=by have b:=yu h a;have c:=pt p l (i+1) af;omega
theorem T8(l:U UInt8)(a b:Int)(h : 0<=a/\a<=b/\b<=I l):(I (cut l a b):Int)=b-a:=by unfold cut;rw[jL,ff];omega
theorem alP(l:U UInt8)(h : 0<I l):nw l=0\/nw l=1\/(nw l=2/\2<=I l):=by
 unfold nw;split
 .rename_i a;right;right;refine⟨rfl,?_⟩;simp[pre]at a;omega
 .grind
theorem yp:∀(n:Nat) (l acc:U UInt8) (i:Int),I l<=n->0<=i->(hR l acc i).2 = -1\/(i+1<=(hR l acc i).2/\(hR l acc i).2<=i+I l)
 |n,[],acc,i,_,h=>by left;rfl
 |n,[c],acc,i,_,h=>by
  simp[hR];split
  .right;simp
  .left;rfl
 |0,_::_::_,_,_,ck,_=>by simp at ck
 |n+1,c::d::r,acc,i,ck,h=>by
  simp at ck ⊢;simp[hR];split
  .split
   .rcases yp n r (acc++[39]) (i+2) af af with a|a
    .exact .inl a
    .right;omega
   .right;simp;omega
  .rcases yp n (d::r) (acc++[c]) (i+1) d' af with a|a
   .exact .inl a
   .right;simp at a;omega
theorem L6:∀(l:U UInt8) (c:UInt8),lv l c = -1\/(0<=lv l c/\lv l c<I l)
 |[],c=>.inl rfl
 |b::l,c=>by
  simp only[lv,eo];split
  .right;omega
  .rcases L6 l c with h|h
   .left;simp[h]
   .right;have:¬((lv l c == -1)=ab):=d'
    rw[if_neg this];omega
def B7(c:Int):Bool:=aa (0<=lv [32,9,10,13] c.toNat.toUInt8)
def sf:Nat->U UInt8->Int->U Tok->Except Int (U Tok)|0,_,_,acc=>.ok acc|f+1,l,i,acc=>if(I l:Int)<=i then .ok acc else if B7 (cf l i)then sf f l (i+1) acc else match vX l i with|none=>.error i|some (k,s,n,e)=>sf f l e (acc++[⟨k,i,s,n⟩])
def B6(l:U UInt8):Except Int (U Tok):=sf (I l+1) l 0 []
variable{e:Int}{k:Int}{s:U UInt8}
theorem aEX{l:U UInt8}(b : 0<=i/\i<I l){n:Int}(h:vX l i=J (k,s,n,e)):i<e/\e<=I l:=by
 unfold vX at h;split at h
 .rename_i ag;have a:I (l.drop i.toNat)=I l-i.toNat:=ff;have q : 2<=I (l.drop i.toNat):=by simp[pre]at ag;omega
  have d:I (l.drop (i+2).toNat)=I l-(i+2).toNat:=ff;have j:=L6 (l.drop (i+2).toNat) 39;simp only at h;split at h
  .cases h
  .split at h
   .cases h
   .split at h
    .cases h
    .exact lA
 .split at h
  .rename_i m;have f:=pt hs l i af;have g:=CB b m;split at h
   .exact lA
   .cases h
  .split at h
   .rename_i c;have f:=pt fS l i af;have g:=CB (p:=fS) b (by simp[fS,c]);split at h
    .exact lA
    .cases h
   .split at h
    .rename_i ar;have f:=pt fA l i af;have g:=CB b ar;split at h
     .cases h
     .split at h
      .exact lA
      .cases h
    .split at h
     .have o:=yp _ (l.drop (i+1).toNat) [] (i+1) (bU _) af;have a:I (l.drop (i+1).toNat)=I l-(i+1).toNat:=ff;simp only at h;split at h
      .split at h
       .cases h
       .exact lA
      .cases h
     .split at h
      .cases h
      .have a:I (l.drop i.toNat)=I l-i.toNat:=ff;have r:=alP (l.drop i.toNat) af;exact lA
def aES:U Int:=[40,41,44,42,61,60,62,43,45,59]
def cU(c:Int):Int:=if hs c then 1 else if kV c then 2 else if fA c then 3 else if c=95 then 4 else if c=39 then 5 else if c=32\/c=9\/c=10\/c=13 then 6 else if aES.contains c then 7 else 0
def eg(c:Int):Bool:=aa (1<=cU c)&&aa (cU c<=4)
def oO:U UInt8->Int->ae Int|[],n=>J n|c::r,n=>if cU c.toNat≠3\/922337203685477580<n\/(n=922337203685477580/\7<(c.toNat:Int)-48)then aj else oO r (10*n+((c.toNat:Int)-48))
def n_(l:U UInt8):Int:=match oO l 0 with|none=> -1|some n=>if 1<(I l:Int)/\cf l 0=48 then -1 else n
theorem T6{c:Int}(h:cU c=3) : 48<=c/\c<=57:=by
 unfold cU at h;split at h
 .omega
 .split at h
  .omega
  .split at h
   .rename_i ar;simpa[fA]using ar
   ·(repeat' split at h)<;>omega
theorem LZ(l:U UInt8)(j:Int)(h : 0<=j/\j<I l):cut l j (j+1)=[l.getD j.toNat 0]:=by unfold cut;rw[pK l j h,show(j+1).toNat-j.toNat=1 by omega];rfl
def L_(j c:Int):Bool:=aa (cU c=2)||(!decide (j=0)&&(aa (cU c=3)||decide (cU c=4)))
def sr:U UInt8->Int->Bool|[],_=>ab|c::r,j=>L_ j c.toNat&&sr r (j+1)
def qb(l:U UInt8):Bool:=sr l 0&&(aa (1<=(I l:Int))&&aa ((I l:Int)<=30))
def rW(l:U UInt8)(i:Int):Prop:=cut l i (c4 eg l i)=[120]/\c4 eg l i<I l/\cf l (c4 eg l i)=39
instance (l:U UInt8) (i:Int):Decidable (rW l i):=by unfold rW;infer_instance
def rj(l:U UInt8)(i:Int):Prop:=i+1<I l/\(cut l i (i+2)=[60,62]\/cut l i (i+2)=[60,61]\/cut l i (i+2)=[62,61])
instance (l:U UInt8) (i:Int):Decidable (rj l i):=by unfold rj;infer_instance
def pv(l:U UInt8)(i:Int):ae (Int×U UInt8×Int×Int):=
 if rW l i then
  let t:=c4 eg l i;let q:=c4 (λc=> !decide (c=39)) l (t+1)
  if q=I l then aj else
  match(if I (cut l (t+1) q) % 2=0 then mU (cut l (t+1) q) []else aj)with|none=>aj|some b=>if 1000<(I b:Int)then aj else J (5,b,0,q+1)
 else if cU (cf l i)=1 then(if nA (cut l i (c4 eg l i))then J (1,cut l i (c4 eg l i),0,c4 eg l i)else aj)
 else if cU (cf l i)=2 then(if qb (cut l i (c4 eg l i))then J (2,cut l i (c4 eg l i),0,c4 eg l i)else aj)
 else if cU (cf l i)=3 then(if 0<=n_ (cut l i (c4 eg l i))then J (3,cut l i (c4 eg l i),n_ (cut l i (c4 eg l i)),c4 eg l i)else aj)
 else if cU (cf l i)=5 then
  let q:=hR (l.drop (i+1).toNat) [] (i+1)
  if ¬q.2 = -1/\tK 4 0 q.1=0 then J (4,q.1,0,q.2)else aj
 else if cU (cf l i)=7 then(if rj l i then J (6,cut l i (i+2),0,i+2)else J (6,cut l i (i+1),0,i+1))
 else aj
theorem Vm{l:U UInt8}(f : 0<=i/\i<I l){n:Int}(h:pv l i=J (k,s,n,e)):i<e/\e<=I l:=by
 unfold pv at h;have o:=pt eg l i af;split at h
 .rename_i ag;have g:=ag.2.1;have p:=pt (λc=> !decide (c=39)) l (c4 eg l i+1) af;simp only at h;split at h
  .cases h
  .split at h
   .cases h
   .split at h
    .cases h
    .exact lA
 .have b:∀c:Int,1<=c/\c<=4->cU (cf l i)=c->i+1<=c4 eg l i:=λc ao q=>CB f (by simp[eg];omega);split at h
  .rename_i a;have:=b 1 af a;split at h
   .exact lA
   .cases h
  .split at h
   .rename_i a;have:=b 2 af a;split at h
    .exact lA
    .cases h
   .split at h
    .rename_i a;have:=b 3 af a;split at h
     .exact lA
     .cases h
    .split at h
     .have j:=yp _ (l.drop (i+1).toNat) [] (i+1) (bU _) af;have m:I (l.drop (i+1).toNat)=I l-(i+1).toNat:=ff;simp only at h;split at h
      .rename_i d;cases h;have:=d.1;omega
      .cases h
     .split at h
      .split at h
       .rename_i d;have:=d.1;exact lA
       .exact lA
      .cases h
def pq:Nat->U UInt8->Int->U Tok->Except Int (U Tok)|0,_,_,acc=>.ok acc|f+1,l,i,acc=>if(I l:Int)<=i then .ok acc else if cU (cf l i)=6 then pq f l (i+1) acc else match pv l i with|none=>.error i|some (k,s,n,e)=>pq f l e (acc++[⟨k,i,s,n⟩])
def Vg(l:U UInt8):Except Int (U Tok):=pq (I l+1) l 0 []
theorem vP{p:Int->Prop}(h:∀n:Fin 256,p (n.val:Int))(c:Int)(ao : 0<=c/\c<=255):p c:=by have:=h ⟨c.toNat,by omega⟩;simpa[Int.toNat_of_nonneg ao.1]using this
theorem aAK:∀n:Fin 256,eg (n.val:Int)=(hs (n.val:Int)||fS (n.val:Int)):=pw
theorem auD:∀n:Fin 256,B7 (n.val:Int)=aa (cU (n.val:Int)=6):=pw
theorem aoE:∀n:Fin 256,aa (0<=lv signs (n.val:Int).toNat.toUInt8)=aa (cU (n.val:Int)=7):=pw
theorem NC(c:Int)(ao : 0<=c/\c<=255):eg c=(hs c||fS c):=vP (p:=λc=>eg c=(hs c||fS c)) aAK c ao
theorem aqe(c:Int)(ao : 0<=c/\c<=255):B7 c=aa (cU c=6):=vP (p:=λc=>B7 c=aa (cU c=6)) auD c ao
theorem ay0(c:Int)(ao : 0<=c/\c<=255):aa (0<=lv signs c.toNat.toUInt8)=aa (cU c=7):=vP (p:=λc=>aa (0<=lv signs c.toNat.toUInt8)=aa (cU c=7)) aoE c ao
theorem oS(b:UInt8) : 0<=(b.toNat:Int)/\(b.toNat:Int)<=255:=by have:=b.toNat_lt;omega
def dt(p:Int->Bool)(m:U UInt8):U UInt8:=m.takeWhile λb=>p b.toNat
theorem pJ(p:Int->Bool)(l:U UInt8)(i:Int):c4 p l i=i+I (dt p (l.drop i.toNat)):=rfl
theorem Mr(p:Int->Bool):∀m:U UInt8,I (dt p m)<=I m
 |[]=>by simp[dt]
 |x::m=>by have:=Mr p m;unfold dt at *;simp[List.takeWhile_cons];split<;>simp<;>omega
theorem Vn(p:Int->Bool):∀m:U UInt8,m.take (I (dt p m))=dt p m
 |[]=>by simp[dt]
 |x::m=>by
  have:=Vn p m;unfold dt at *;simp[List.takeWhile_cons];split
  .simp[this]
  .simp
theorem xX(p:Int->Bool)(l:U UInt8)(i:Int)(h : 0<=i):cut l i (c4 p l i)=dt p (l.drop i.toNat):=by unfold cut;rw[pJ,show(i+(I (dt p (l.drop i.toNat)):Int)).toNat-i.toNat=I (dt p (l.drop i.toNat)) by omega];exact Vn p _
theorem aeb{p q:Int->Bool}(a:∀b:UInt8,p b.toNat=ab->q b.toNat=ab):∀m:U UInt8,dt q m=dt p m++dt q (m.drop (I (dt p m)))
 |[]=>by simp[dt]
 |x::m=>by unfold dt at *;cases c:p x.toNat with|true=>simp[c,a x c];exact(aeb a m)|false=>simp[c]
theorem ac2(p:Int->Bool):∀m:U UInt8,(dt p m).all (λb=>p b.toNat)=ab
 |[]=>by simp[dt]
 |x::m=>by unfold dt at *;cases a:p x.toNat with|true=>simp only[List.takeWhile_cons,a,if_true,fk];exact(ac2 p m)|false=>simp
theorem atz{q:Int->Bool}(m:U UInt8):dt q m=[]↔m=[]\/q (cf m 0)=false:=by cases m with|nil=>simp[dt]|cons x m=>have:cf (x::m) 0=(x.toNat:Int):=rfl;rw[this];cases a:q x.toNat<;>simp[dt,a]
theorem T3(l:U UInt8)(i:Int)(h : 0<=i)(j:Nat):cf (l.drop i.toNat) j=cf l (i+j):=by unfold cf;rw[List.getD_eq_getElem?_getD,List.getD_eq_getElem?_getD,kr,show i.toNat+(j:Int).toNat=(i+j).toNat by omega]
theorem XT{p:Int->Bool}(e:∀b:UInt8,p b.toNat=ab->eg b.toNat=ab)(l:U UInt8)(i:Int)(h : 0<=i/\i<=I l):oD l (c4 p l i)=ab↔dt p (l.drop i.toNat)=dt eg (l.drop i.toNat):=by
 have d:=aeb e (l.drop i.toNat);have k:=pt p l i h;have a:(l.drop i.toNat).drop (I (dt p (l.drop i.toNat)))=l.drop (c4 p l i).toNat:=by rw[List.drop_drop,pJ];congr 1;omega
 rw[a]at d;have f:dt p (l.drop i.toNat)=dt eg (l.drop i.toNat)↔dt eg (l.drop (c4 p l i).toNat)=[]:=td
 rw[f,atz];have g:l.drop (c4 p l i).toNat=[]↔c4 p l i=I l:=by rw[List.drop_eq_nil_iff];omega
 have j:cf (l.drop (c4 p l i).toNat) 0=cf l (c4 p l i):=by have:=T3 l (c4 p l i) af 0;simpa using this
 rw[g,j];have al:=HG l (c4 p l i);simp[oD,NC _ al];constructor
 .rintro(h|⟨h,c⟩)
  .exact .inl h
  .exact .inr ⟨c,h⟩
 .rintro(h|⟨h,c⟩)
  .exact .inl h
  .exact .inr ⟨c,h⟩
variable{α:Type}
theorem M7{p:Int->Bool}(e:∀b:UInt8,p b.toNat=ab->eg b.toNat=ab)(l:U UInt8)(i:Int)(h : 0<=i/\i<=I l)(f:U UInt8->Int->ae α)(o:∀x j,f x j≠aj->x.all (λb=>p b.toNat)=ab) :
  (if oD l (c4 p l i)then f (cut l i (c4 p l i)) (c4 p l i)else aj)=f (cut l i (c4 eg l i)) (c4 eg l i):=by
 by_cases c:oD l (c4 p l i)=ab
 .have g:c4 p l i=c4 eg l i:=by rw[pJ,pJ,((XT e l i h).1 c)]
  rw[if_pos c,g]
 .rw[if_neg c];by_cases n:f (cut l i (c4 eg l i)) (c4 eg l i)=aj
  .exact n.symm
  .exfalso;apply c;rw[XT e l i h];have a:=o _ _ n;rw[xX _ _ _ h.1]at a;have key:∀m:U UInt8,(dt eg m).all (λb=>p b.toNat)=ab->dt p m=dt eg m:=by
    intro m;induction m with
    |nil=>simp[dt]
    |cons x m q=>
     unfold dt at *;intro hm;cases d:eg x.toNat with
     |true=>simp only[List.takeWhile_cons,d,if_true,fk,bN]at hm ⊢;rw[if_pos hm.1,q hm.2]
     |false=>
      have:p x.toNat=false:=by cases k:p x.toNat with|false=>rfl|true=>rw[e x k]at d;cases d
      simp[d,this]
   exact key _ a
theorem an4:qh.all (λw=>w.all λb=>hs b.toNat)=true:=pw
variable{x:U UInt8}
theorem alZ(h:nA x=ab):x.all (λb=>hs b.toNat)=true:=by have:=dH.1 an4 x (by simpa[nA]using h);exact this
theorem azb(l:U UInt8):∀j:Int,0<j->sr l j=l.all λb=>fS b.toNat:=by
 induction l with
 |nil=>intro j _;rfl
 |cons c l a=>
  intro j e;have ao:=oS c;have key:∀n:Fin 256,(aa (cU (n.val:Int)=2)||(aa (cU (n.val:Int)=3)||decide (cU (n.val:Int)=4)))=fS (n.val:Int):=gN
  have d:=vP (p:=λc=>(aa (cU c=2)||(aa (cU c=3)||decide (cU c=4)))=fS c) key c.toNat ao;simp[sr,a (j+1) af,L_,show aa (j=0)=ai by simp;omega,d]
theorem alu(c:UInt8)(l:U UInt8):sr (c::l) 0=(kV c.toNat&&l.all λb=>fS b.toNat):=by
 have ao:=oS c;have key:∀n:Fin 256,aa (cU (n.val:Int)=2)=kV (n.val:Int):=gN
 have a:=vP (p:=λc=>aa (cU c=2)=kV c) key c.toNat ao;simp only[sr,L_,decide_true,ef,Bool.false_and,Bool.or_false,a];rw[azb l (0+1) af]
theorem Mq{p:Int->Bool}:∀m:U UInt8,I (dt p m)=I m↔m.all (λb=>p b.toNat)=ab
 |[]=>by simp[dt]
 |x::m=>by have c:=Mq (p:=p) m;unfold dt at *;cases a:p x.toNat with|true=>simp[ a,<-c]|false=>simp[a]
theorem alk{c:Int}(h:kV c=ab):fS c=true:=by simp[fS,h]
theorem UQ(x:U UInt8):qa x=qb x:=by
 cases x with
 |nil=>rfl
 |cons c x=>
  have a:(c4 fS (c::x) 0 == (I (c::x):Int))=(c::x).all λb=>fS b.toNat:=by rw[Bool.eq_iff_iff,<-Mq,beq_iff_eq,pJ];simp[Int.toNat_zero,iW];omega
  have al:cf (c::x) 0=(c.toNat:Int):=rfl;simp only[qa,qb,alu,a,al];rw[Bool.eq_iff_iff];simp only[bN,fQ,fk,eo];constructor
  .rintro⟨⟨⟨_,e⟩,d⟩,f⟩;exact⟨⟨d,f.2⟩,by omega,e⟩
  .rintro⟨⟨d,f⟩,_,e⟩;exact⟨⟨⟨by simp,e⟩,d⟩,alk d,f⟩
theorem ayn(h:qa x=ab):x.all (λb=>fS b.toNat)=true:=by simp[qa]at h;rw[<-Mq];have:=h.2;rw[pJ]at this;simp[Int.toNat_zero]at this;omega
theorem ajn(h:fA c.toNat=ab) : 48<=(c.toNat:Int)/\(c.toNat:Int)<=57:=by simpa[fA]using h
theorem aBB(h:fA c.toNat=ab):cU c.toNat=3:=by
 have key:∀n:Fin 256,fA (n.val:Int)=ab->cU (n.val:Int)=3:=gN
 exact vP (p:=λc=>fA c=ab->cU c=3) key c.toNat (oS c) h
theorem aBI(h:cU c.toNat=3):fA c.toNat=true:=by have:=T6 h;simp[fA];omega
theorem aon(h:fA c.toNat=ab){n:Int}(b : 0<=n):(dc (n*10)/\dc (n*10+ix c.toNat))↔¬(cU c.toNat≠3\/922337203685477580<n\/(n=922337203685477580/\7<(c.toNat:Int)-48)):=by
 have al:=ajn h;rw[ajI _ af,aBB h];unfold dc;constructor
 .rintro⟨d,e⟩ (a|a|a)
  .exact a rfl
  .omega
  .omega
 .intro a;have f:¬(922337203685477580<n):=λh=>a (.inr (.inl h));have g:¬(n=922337203685477580/\7<(c.toNat:Int)-48):=λh=>a (.inr (.inr h));omega
theorem acN:∀(x:U UInt8) (n:Int),0<=n->x.all (λb=>fA b.toNat)=ab->oO x n=pk x n/\∀m,pk x n=J m->0<=m
 |[],n,ck,_=>⟨rfl,λm h=>by simp[pk]at h;omega⟩
 |c::x,n,ck,ag=>by
  simp only[fk,bN]at ag;have al:=ajn ag.1;have a:=aon ag.1 ck;have ar:ix c.toNat=(c.toNat:Int)-48:=ajI _ af;simp only[oO,pk];by_cases ao:cU c.toNat≠3\/922337203685477580<n\/(n=922337203685477580/\7<(c.toNat:Int)-48)
  .rw[if_pos ao,if_neg (λh=>a.1 h ao)];exact⟨rfl,λm h=>by cases h⟩
  .rw[if_neg ao,if_pos (a.2 ao),ar,show 10*n+((c.toNat:Int)-48)=n*10+((c.toNat:Int)-48) by omega];exact acN x _ af ag.2
theorem ad1:∀(x:U UInt8) (n:Int),oO x n≠aj->x.all (λb=>fA b.toNat)=ab
 |[],_,_=>rfl
 |c::x,n,h=>by
  simp only[oO]at h;split at h
  .exact absurd rfl h
  .rename_i ao;have a:cU c.toNat=3:=by
    by_cases a:cU c.toNat=3
    .exact a
    .exact absurd (.inl a) ao
   simp only[fk,bN];exact⟨aBI a,ad1 x _ h⟩
def Du(x:U UInt8)(j:Int):ae (Int×U UInt8×Int×Int):=if 0<=n_ x then J (3,x,n_ x,j)else aj
theorem atc(h:Du x j≠aj):x.all (λb=>fA b.toNat)=true:=by
 unfold Du at h;split at h
 .rename_i a;unfold n_ at a;split at a
  .omega
  .rename_i n c;exact ad1 x 0 (by rw[c];simp)
 .exact absurd rfl h
theorem ajP(b:x≠[]):(aa (x=[48])||cf x 0 != 48)=ab↔¬(1<(I x:Int)/\cf x 0=48):=by
 cases x with
 |nil=>exact absurd rfl b
 |cons c x=>
  have al:cf (c::x) 0=(c.toNat:Int):=rfl;have ao:(c.toNat:Int)=48↔c=48:=by rw[<-UInt8.toNat_inj];simp;omega
  rw[al];simp only[mK,fQ,bne_iff_ne,ne_eq,mL,eo,ao];constructor
  .rintro(⟨_,h⟩|h) ⟨e,a⟩
   .subst h;simp at e
   .exact h a
  .intro h;by_cases a:c=48
   .left;refine⟨a,?_⟩;cases x with|nil=>rfl|cons d x=>exact absurd ⟨by simp;omega,a⟩ h
   .exact .inr a
theorem aAp(c:x≠[])(ag:x.all (λb=>fA b.toNat)=ab)(a:Bool)(j:Int) :
  (match pk x 0 with
  |none=>aj
  |some n=>if(aa (x=[48])||cf x 0 != 48)&&a then J ((3:Int),x,n,j)else aj)=if a then Du x j else none:=by
 obtain⟨f,g⟩:=acN x 0 af ag;unfold Du n_;rw[f];cases h:pk x 0 with
 |none=>cases a<;>simp
 |some n=>
  cases d:(aa (x=[48])||cf x 0 != 48)with
  |true=>have:=(ajP c).1 d;cases a<;>simp[this,(g n h)]
  |false=>
   have : 1<(I x:Int)/\cf x 0=48:=by
    by_cases e : 1<(I x:Int)/\cf x 0=48
    .exact e
    .rw[(ajP c).2 e]at d;cases d
   cases a<;>simp[this]
theorem I5(l:U UInt8)(i:Int)(h : 0<=i/\i<I l):rW l i↔pre (l.drop i.toNat) [120,39]=true:=by
 have e:I (l.drop i.toNat)=I l-i.toNat:=ff;have g:=T3 l i h.1 1;unfold rW;rw[xX _ _ _ h.1,pJ];generalize l.drop i.toNat=m at *;have c:eg ((120:UInt8).toNat:Int)=true:=gN
 have d:eg ((39:UInt8).toNat:Int)=false:=gN
 match m with
 |[]=>simp at e;omega
 |[a]=>
  simp at e;constructor
  .rintro⟨f,k,_⟩;rw[f]at k;simp at k;omega
  .intro h;simp[pre]at h
 |a::b::r=>
  have j:cf (a::b::r) ((1:Nat):Int)=(b.toNat:Int):=rfl;constructor
  .rintro⟨f,k,n⟩;rw[f]at n;have al:b=39:=by
    have:cf l (i+(I ([120]:U UInt8):Int))=(b.toNat:Int):=by rw[<-j,g];rfl
    rw[this]at n;rw[<-UInt8.toNat_inj];simp;omega
   have p:a=120:=by unfold dt at f;cases o:eg a.toNat with|true=>simp[o]at f;exact f.1|false=>simp[o]at f
   subst al;subst p;simp[pre]
  .intro h;simp only[pre,bN,fQ,eo,dB,List.take_zero,mL,and_true]at h;obtain⟨_,rfl,rfl⟩:=h;have q:dt eg (120::39::r)=[120]:=by unfold dt;rw[List.takeWhile_cons,if_pos c,List.takeWhile_cons,if_neg td]
   rw[q];refine⟨rfl,?_,?_⟩
   .simp only[eo]at e ⊢;simp;omega
   .have:cf l (i+(I ([120]:U UInt8):Int))=(((39:UInt8).toNat:Nat):Int):=by rw[<-j,g];rfl
    rw[this];rfl
theorem Yg:∀m:U UInt8,lv m 39=if I (dt (λc=> !decide (c=39)) m)=I m then -1 else(I (dt (λc=> !decide (c=39)) m):Int)
 |[]=>rfl
 |b::m=>by
  have g:=Mr (λc=> !decide (c=39)) m;by_cases al:b=39
  .subst al;rfl
  .have a:¬((b.toNat:Int)=39):=λh=>al (by rw[<-UInt8.toNat_inj];simp;omega);have e:dt (λc=> !decide (c=39)) (b::m)=b::dt (λc=> !decide (c=39)) m:=by unfold dt;rw[List.takeWhile_cons,if_pos (by simp[a])]
   have f:(b == 39)=false:=by simpa using al
   rw[lv,e,(Yg m),f];simp only[pX,if_false,eo];by_cases d:I (dt (λc=> !decide (c=39)) m)=I m
   .simp[d]
   .have:¬(((I (dt (λc=> !decide (c=39)) m):Int) == -1)=ab):=by simp
    rw[if_neg d,if_neg this,if_neg af];omega
theorem agd(l:U UInt8)(i:Int)(h : 0<=i/\i<I l)(a b:UInt8):pre (l.drop i.toNat) [a,b]=ab↔i+1<I l/\cut l i (i+2)=[a,b]:=by
 unfold pre cut;have c:I (l.drop i.toNat)=I l-i.toNat:=ff;rw[show(i+2).toNat-i.toNat=2 by omega];simp only[bN,fQ,eo,dB,c];constructor
 .rintro⟨e,d⟩;exact⟨by omega,d⟩
 .rintro⟨e,d⟩;exact⟨by omega,d⟩
variable{m:U UInt8}
theorem QT{a b:UInt8}(h:pre m [a,b]=ab):cf m 0=a.toNat:=by simp[pre,dB]at h;obtain⟨_,d⟩:=h;cases m with|nil=>cases d|cons c m=>simp at d;rw[<-d.1];rfl
theorem aqm(l:U UInt8)(i:Int)(h : 0<=i/\i<I l):(if nw (l.drop i.toNat)=0 then aj else J ((6:Int),cut l i (i+nw (l.drop i.toNat)),(0:Int),i+nw (l.drop i.toNat))) =
  if cU (cf l i)=7 then(if rj l i then J (6,cut l i (i+2),0,i+2)else J (6,cut l i (i+1),0,i+1))else none:=by
 have e:cf (l.drop i.toNat) 0=cf l i:=S'
 have al:=HG l i;have g:=ay0 (cf l i) al;have d:rj l i↔(pre (l.drop i.toNat) [60,62]||pre (l.drop i.toNat) [60,61]||pre (l.drop i.toNat) [62,61])=true:=by
  simp[ agd l i h,rj];constructor
  .rintro⟨b,a|a|a⟩
   .exact .inl (.inl ⟨b,a⟩)
   .exact .inl (.inr ⟨b,a⟩)
   .exact .inr ⟨b,a⟩
  .rintro((⟨b,a⟩|⟨b,a⟩)|⟨b,a⟩)
   .exact⟨b,.inl a⟩
   .exact⟨b,.inr (.inl a)⟩
   .exact⟨b,.inr (.inr a)⟩
 unfold nw;by_cases a:rj l i
 .have c:=d.1 a;have ao:cf l i=60\/cf l i=62:=by
   rw[<-e];simp at c;rcases c with (h|h)|h
   .left;rw[QT h];rfl
   .left;rw[QT h];rfl
   .right;rw[QT h];rfl
  have f:cU (cf l i)=7:=by rcases ao with h|h<;>rw[h]<;>decide +kernel
  rw[if_pos c,if_neg af,if_pos f,if_pos a]
 .grind
theorem alX(b:UInt8)(h:hs b.toNat=ab):eg b.toNat=true:=by rw[NC _ (oS b),h];rfl
theorem UK(b:UInt8)(h:fS b.toNat=ab):eg b.toNat=true:=by rw[NC _ (oS b),h,Bool.or_true]
theorem aB9(b:UInt8)(h:fA b.toNat=ab):fS b.toNat=true:=by simp[fS,h]
theorem ago(p q:Bool)(x : α):(if(p&&q)=ab then J x else aj)=if q=ab then(if p=ab then J x else aj)else none:=im
theorem aAM(l:U UInt8)(i:Int)(h : 0<=i/\i<I l):vX l i=pv l i:=by
 have al:=HG l i;unfold vX pv;by_cases ag:rW l i
 .have e:=(I5 l i h).1 ag;rw[if_pos ag,if_pos e];have r:c4 eg l i=i+1:=by rw[pJ,<-xX _ _ _ h.1,ag.1];rfl
  have y:i+1<I l:=by have:=ag.2.1;omega
  have z:I (l.drop (i+2).toNat)=I l-(i+2).toNat:=ff;have a2:=Mr (λc=> !decide (c=39)) (l.drop (i+2).toNat);rw[r];simp only;rw[show i+1+1=i+2 by omega,Yg,pJ];by_cases v:I (dt (λc=> !decide (c=39)) (l.drop (i+2).toNat))=I (l.drop (i+2).toNat)
  .rw[if_pos v,if_pos af,if_pos af]
  .rw[if_neg v,if_neg (show ¬(I (dt (λc=> !decide (c=39)) (l.drop (i+2).toNat)):Int)<0 by omega),if_neg (show ¬i+2+(I (dt (λc=> !decide (c=39)) (l.drop (i+2).toNat)):Int)=I l by omega)];rw[show i+3+(I (dt (λc=> !decide (c=39)) (l.drop (i+2).toNat)):Int)=i+2+(I (dt (λc=> !decide (c=39)) (l.drop (i+2).toNat)):Int)+1 by omega]
 .have e:¬pre (l.drop i.toNat) [120,39]=true:=λch=>ag ((I5 l i h).2 ch);rw[if_neg ag,if_neg e];have s:∀n:Fin 256,cU (n.val:Int)=if hs (n.val:Int)then 1 else if kV (n.val:Int)then 2 else if fA (n.val:Int)then 3 else if(n.val:Int)=39 then 5 else if cU (n.val:Int)=7 then 7 else if cU (n.val:Int)=6 then 6 else if cU (n.val:Int)=4 then 4 else 0:=gN
  have a:=vP (p:=λc=>cU c=if hs c then 1 else if kV c then 2 else if fA c then 3 else if c=39 then 5 else if cU c=7 then 7 else if cU c=6 then 6 else if cU c=4 then 4 else 0) s (cf l i) al;have o : 0<=i/\i<=I l:=af
  cases w:hs (cf l i)with
  |true=>
   rw[w]at a;have d:cU (cf l i)=1:=a;rw[if_pos rfl,if_pos d,ago];exact M7 alX l i o (λx j=>if nA x then J ((1:Int),x,(0:Int),j)else aj) (λx j f=>by
    by_cases g:nA x=ab
    .exact alZ g
    .simp[g]at f)
  |false=>
   rw[w]at a;rw[if_neg (by simp)];cases k:kV (cf l i)with
   |true=>
    rw[k]at a;have d:cU (cf l i)=2:=a;rw[if_pos rfl,if_neg (show ¬cU (cf l i)=1 by omega),if_pos d,ago];have:=M7 UK l i o (λx j=>if qa x then J ((2:Int),x,(0:Int),j)else aj) (λx j f=>by
     by_cases g:qa x=ab
     .exact ayn g
     .simp[g]at f)
    rw[this,UQ]
   |false=>
    rw[k]at a;rw[if_neg (by simp)];cases ar:fA (cf l i)with
    |true=>
     rw[ar]at a;have d:cU (cf l i)=3:=a;rw[if_pos rfl,if_neg (show ¬cU (cf l i)=1 by omega),if_neg (show ¬cU (cf l i)=2 by omega),if_pos d];have a3:=CB h ar;have t:cut l i (c4 fA l i)≠[]:=by have:=T8 l i (c4 fA l i) (by have:=pt fA l i o;omega);intro dm;rw[dm]at this;simp at this;omega
     have m:(cut l i (c4 fA l i)).all (λb=>fA b.toNat)=true:=by rw[xX _ _ _ h.1];exact ac2 _ _
     refine(aAp t m _ _).trans ?_;exact M7 (λb al=>UK b (aB9 b al)) l i o Du (λx j f=>atc f)
    |false=>
     rw[ar]at a;rw[if_neg (by simp)];by_cases u:cf l i=39
     .have d:cU (cf l i)=5:=by rw[u];decide +kernel
      rw[if_pos u,if_neg (show ¬cU (cf l i)=1 by omega),if_neg (show ¬cU (cf l i)=2 by omega),if_neg (show ¬cU (cf l i)=3 by omega),if_pos d];have a4:=yp _ (l.drop (i+1).toNat) [] (i+1) (bU _) af;simp only;generalize hR (l.drop (i+1).toNat) [] (i+1)=q at *;unfold tK;cases aF:tV 4 0 q.1 with
      |true=>
       by_cases f:q.2<0
       .have:q.2 = -1:=af
        simp[this]
       .have:¬q.2 = -1:=af
        simp[this,f]
      |false=>simp
     .have d:¬cU (cf l i)=1/\¬cU (cf l i)=2/\¬cU (cf l i)=3/\¬cU (cf l i)=5:=by
       simp[ if_false]at a;split at a
       .omega
       .split at a
        .omega
        .split at a<;>omega
      rw[if_neg u,if_neg d.1,if_neg d.2.1,if_neg d.2.2.1,if_neg d.2.2.2];exact aqm l i h
theorem P7(l:U UInt8):∀(f:Nat) (i:Int) (acc:U Tok),0<=i->sf f l i acc=pq f l i acc
 |0,_,_,_=>rfl
 |f+1,i,acc,bO=>by
  simp[sf,pq];by_cases a:(I l:Int)<=i
  .rw[if_pos a,if_pos a]
  .rw[if_neg a,if_neg a,aqe _ (HG l i)];by_cases al:cU (cf l i)=6
   .rw[if_pos (by simp[al]),if_pos al];exact P7 l f _ _ af
   .rw[if_neg (by simp[al]),if_neg al,aAM l i af];cases b:pv l i with|none=>rfl|some r=>obtain⟨k,s,n,e⟩:=r;have:=Vm af b;exact P7 l f _ _ af
theorem akN(l:U UInt8):B6 l=Vg l:=P7 l _ 0 [] af
def sv:U UInt8->U UInt8->ae (U UInt8×Nat)|[],_=>aj|[c],acc=>if c=39 then J (acc,1)else aj|c::d::r,acc=>if c=39 then(if d=39 then(sv r (acc++[39])).map λx=>(x.1,x.2+2)else J (acc,1))else(sv (d::r) (acc++[c])).map λx=>(x.1,x.2+1)
theorem Sc:∀(f:Nat) (l acc:U UInt8) (i:Int),I l<=f->hR l acc i=match sv l acc with|none=>([], -1)|some (s,n)=>(s,i+(n:Int))
 |_,[],_,_,_=>rfl
 |_,[c],acc,i,_=>by by_cases ao:c=39<;>simp[hR,sv,ao]
 |0,c::d::r,_,_,h=>by simp at h
 |f+1,c::d::r,acc,i,h=>by
  simp at h;rw[hR,sv];by_cases ao:c=39
  .rw[if_pos ao,if_pos ao];by_cases ar:d=39
   .rw[if_pos ar,if_pos ar,Sc f r (acc++[39]) (i+2) af];cases sv r (acc++[39])with|none=>rfl|some x=>simp;omega
   .rw[if_neg ar,if_neg ar];rfl
  .rw[if_neg ao,if_neg ao,Sc f (d::r) (acc++[c]) (i+1) d'];cases sv (d::r) (acc++[c])with|none=>rfl|some x=>simp;omega
theorem alT{p:Int->Bool}(t:U UInt8)(a:∀c b,t=c::b->p c.toNat=ai):∀m:U UInt8,dt p (m++t)=dt p m
 |[]=>by cases t with|nil=>rfl|cons c t=>simp[dt,a c t rfl]
 |x::m=>by unfold dt at *;cases d:p x.toNat with|true=>simp[d];exact(alT t a m)|false=>simp[d]
def sq(c:Int):Bool:= !decide (c=39)
def CH(m:U UInt8):Bool:=pre m [60,62]||pre m [60,61]||pre m [62,61]
def jd(m:U UInt8):ae (Int×U UInt8×Int×Nat):=if pre m [120,39]then (if I (dt sq (m.drop 2))=I (m.drop 2) then aj else match(if I (dt sq (m.drop 2)) % 2=0 then mU (dt sq (m.drop 2)) []else aj)with|none=>aj|some b=>if 1000<(I b:Int)then aj else J (5,b,0,I (dt sq (m.drop 2))+3))else if cU (cf m 0)=1 then(if nA (dt eg m)then J (1,dt eg m,0,I (dt eg m))else aj)else if cU (cf m 0)=2 then(if qb (dt eg m)then J (2,dt eg m,0,I (dt eg m))else aj)else if cU (cf m 0)=3 then(if 0<=n_ (dt eg m)then J (3,dt eg m,n_ (dt eg m),I (dt eg m))else aj)else if cU (cf m 0)=5 then match sv (m.drop 1) []with|none=>aj|some (s,n)=>if tK 4 0 s=0 then J (4,s,0,n+1)else aj else if cU (cf m 0)=7 then(if CH m then J (6,m.take 2,0,2)else J (6,m.take 1,0,1))else aj
theorem aiZ(l:U UInt8)(i:Int)(h : 0<=i/\i<I l):pv l i=(jd (l.drop i.toNat)).map λx=>(x.1,x.2.1,x.2.2.1,i+(x.2.2.2:Int)):=by
 have g:cf (l.drop i.toNat) 0=cf l i:=S'
 have w:I (l.drop i.toNat)=I l-i.toNat:=ff;have j:(l.drop i.toNat).drop 1=l.drop (i+1).toNat:=S6
 have m:(l.drop i.toNat).drop 2=l.drop (i+2).toNat:=S6
 unfold pv jd;by_cases ag:rW l i
 .rw[if_pos ag,if_pos ((I5 l i h).1 ag)];have o:c4 eg l i=i+1:=by rw[pJ,<-xX _ _ _ h.1,ag.1];rfl
  have y:i+1<I l:=by have:=ag.2.1;omega
  have t:I (l.drop (i+2).toNat)=I l-(i+2).toNat:=ff;rw[o];simp only;rw[show i+1+1=i+2 by omega,m,xX _ _ _ af,pJ];change (if i+2+(I (dt sq (l.drop (i+2).toNat)):Int)=I l then aj else match(if I (dt sq (l.drop (i+2).toNat)) % 2=0 then mU (dt sq (l.drop (i+2).toNat)) []else aj)with|none=>aj|some b=>if 1000<(I b:Int)then aj else J ((5:Int),b,(0:Int),i+2+(I (dt sq (l.drop (i+2).toNat)):Int)+1))=_;generalize dt sq (l.drop (i+2).toNat)=r at *;by_cases v:I r=I (l.drop (i+2).toNat)
  .rw[if_pos (show i+2+(I r:Int)=I l by omega),if_pos v];rfl
  .rw[if_neg (show ¬i+2+(I r:Int)=I l by omega),if_neg v];generalize (if I r % 2=0 then mU r []else aj)=u;cases u with
   |none=>rfl
   |some b=>
    by_cases d : 1000<(I b:Int)
    .simp[if_pos d]
    .simp[if_neg d,true_and];omega
 .rw[if_neg ag,if_neg (λp=>ag ((I5 l i h).2 p)),g,xX _ _ _ h.1,pJ];split
  .split<;>rfl
  .split
   .split<;>rfl
   .split
    .split<;>rfl
    .split
     .rw[j,Sc _ _ _ _ (bU _)];cases sv (l.drop (i+1).toNat) []with
      |none=>rfl
      |some x=>
       obtain⟨s,n⟩:=x;by_cases q:tK 4 0 s=0
       .simp only[if_pos q];rw[if_pos ⟨by omega,q⟩];simp;omega
       .simp[q]
     .split
      .have e:rj l i↔CH (l.drop i.toNat)=true:=by
        simp[CH,agd l i h,rj];constructor
        .rintro⟨c,a|a|a⟩
         .exact .inl (.inl ⟨c,a⟩)
         .exact .inl (.inr ⟨c,a⟩)
         .exact .inr ⟨c,a⟩
        .rintro((⟨c,a⟩|⟨c,a⟩)|⟨c,a⟩)
         .exact⟨c,.inl a⟩
         .exact⟨c,.inr (.inl a)⟩
         .exact⟨c,.inr (.inr a)⟩
       have ao:∀k:Nat,cut l i (i+k)=(l.drop i.toNat).take k:=λk=>by unfold cut;congr 1;omega
       have a:=ao 2;by_cases f:rj l i
       .rw[if_pos f,if_pos (e.1 f)];simp;rw[<-a];rfl
       .rw[if_neg f,if_neg (λp=>f (e.2 p))];simp;rw[<-(ao 1)];rfl
      .rfl
theorem alS{n:Int}{e:Nat}(h:jd m=J (k,s,n,e)) : 1<=e/\e<=I m:=by
 cases m with
 |nil=>exact absurd (h.symm.trans (show jd []=aj by decide +kernel)) (by simp)
 |cons c m=>
  have a:(0:Int)<=0/\(0:Int)<(I (c::m):Int):=by simp
  have b:=aiZ (c::m) 0 a;simp[ h]at b;have:=Vm a b;omega
inductive iV:List UInt8->Int->List Tok->Prop where
 |nil {p:Int}:iV [] p []
 |blank {c:UInt8}{r:List UInt8}{p:Int}{bQ:List Tok}:cU c.toNat=6->iV r (p+1) bQ->iV (c::r) p bQ
 |tok {m:List UInt8}{p:Int}{k:Int}{s:List UInt8}{n:Int}{e:Nat}{bQ:List Tok}:cU (cf m 0)≠6->jd m=J (k,s,n,e)->iV (m.drop e) (p+e) bQ->iV m p (⟨k,p,s,n⟩::bQ)
inductive rR:List UInt8->Int->Int->Prop where
 |blank {c:UInt8}{r:List UInt8}{p j:Int}:cU c.toNat=6->rR r (p+1) j->rR (c::r) p j
 |tok {m:List UInt8}{p:Int}{k:Int}{s:List UInt8}{n:Int}{e:Nat}{j:Int}:cU (cf m 0)≠6->jd m=J (k,s,n,e)->rR (m.drop e) (p+e) j->rR m p j
 |bad {m:List UInt8}{p:Int}:m≠[]->cU (cf m 0)≠6->jd m=aj->rR m p p
theorem Si(l:U UInt8):∀(f:Nat) (i:Int) (acc:U Tok),0<=i/\i<=I l->(I l:Int)-i<f->match pq f l i acc with|.ok bQ=>∃us,bQ=acc++us/\iV (l.drop i.toNat) i us|.error j=>rR (l.drop i.toNat) i j
 |0,i,acc,h,cb=>by omega
 |f+1,i,acc,h,cb=>by
  simp[pq];by_cases t:(I l:Int)<=i
  .rw[if_pos t];exact⟨[],by simp,by rw[gn af];exact .nil⟩
  .rw[if_neg t];have d:cf (l.drop i.toNat) 0=cf l i:=S'
   have a:=pK l i af;by_cases al:cU (cf l i)=6
   .rw[if_pos al];have c:=Si l f (i+1) acc af af;have g:cU ((l.getD i.toNat 0).toNat:Int)=6:=al;cases m:pq f l (i+1) acc with|ok bQ=>rw[m]at c;obtain⟨us,p,q⟩:=c;exact⟨us,p,by rw[a];exact .blank g q⟩|error j=>rw[m]at c;show rR _ _ _;rw[a];exact .blank g c
   .rw[if_neg al];have o:=aiZ l i af;cases b:jd (l.drop i.toNat)with
    |none=>rw[b]at o;rw[o];exact .bad (by rw[a];simp) (by rw[d];exact al) b
    |some x=>
     obtain⟨k,s,n,e⟩:=x;rw[b]at o;simp at o;have u:=alS b;have v:I (l.drop i.toNat)=I l-i.toNat:=ff;rw[o];simp only;have c:=Si l f (i+(e:Int)) (acc++[⟨k,i,s,n⟩]) af af;have r:l.drop (i+(e:Int)).toNat=(l.drop i.toNat).drop e:=S6
     rw[r]at c;cases m:pq f l (i+(e:Int)) (acc++[⟨k,i,s,n⟩])with|ok bQ=>rw[m]at c;obtain⟨us,p,q⟩:=c;exact⟨⟨k,i,s,n⟩::us,by rw[p];simp,.tok (by rw[d];exact al) b q⟩|error j=>rw[m]at c;exact .tok (by rw[d];exact al) b c
theorem QM:jd []=none:=pw
variable{bQ:U Tok}
theorem iV.aDv{p:Int}(h:iV m p bQ):∀{us:U Tok},iV m p us->bQ=us:=by
 induction h with
 |nil=>intro us h;cases h with|nil=>rfl|tok _ a _=>rw[QM]at a;cases a
 |blank ao _ b=>intro us h;cases h with|blank _ a=>exact b a|tok c _ _=>exact absurd ao c
 |tok c a _ b=>intro us h;cases h with|nil=>rw[QM]at a;cases a|blank ao _=>exact absurd ao c|tok _ d e=>rw[a]at d;cases d;rw[b e]
theorem iV.aEe{p:Int}(h:iV m p bQ):∀{j:Int},¬rR m p j:=by
 induction h with
 |nil=>intro j h;cases h with|tok _ a _=>rw[QM]at a;cases a|bad h _ _=>exact h rfl
 |blank ao _ d=>intro j h;cases h with|blank _ a=>exact d a|tok b _ _=>exact absurd ao b|bad _ b _=>exact absurd ao b
 |tok b a _ d=>intro j h;cases h with|blank ao _=>exact absurd ao b|tok _ c e=>rw[a]at c;cases c;exact d e|bad _ _ c=>rw[a]at c;cases c
theorem akO(l:U UInt8):match B6 l with
  |.ok bQ=>iV l 0 bQ
  |.error j=>rR l 0 j:=by
 rw[akN,Vg];have h:=Si l (I l+1) 0 [] af af;cases a:pq (I l+1) l 0 []with|ok bQ=>grind|error j=>grind
theorem aDo{l:U UInt8}(h:iV l 0 bQ):B6 l = .ok bQ:=by have a:=akO l;cases b:B6 l with|ok us=>rw[b]at a;rw[h.aDv a]|error j=>rw[b]at a;exact absurd a h.aEe
end Go.Proofs.YtdelkmpkjibigaaGreatDoor.aO
namespace Go.ft
theorem fH.als{P:cP}{el:cl->bD}{cD:Nat->ae lI}{f:FuncId}{cj b3:U cA}{F:bt cj b3}(d:av.Enters P f)(b:dw 0 b3=[])(h:∀x r,F x=J r->∃(us:U aD) (v:aD),(∀X vs,bl X (eK 0 cj x) vs->vs=us)/\av.lE P f us [] (λ_=>True) (av.En v)/\∀X,rK cj x->aG X (iU (eK 0 b3 r)) v):fH P el cD f cj b3 F:=by
 refine⟨d,λx r ag w M vs l e c=>?_⟩;obtain⟨us,v,i,j,k⟩:=h x r ag;obtain rfl:=i _ _ c;refine(j.calls w (λ_ _=>trivial)).mono ?_;rintro dJ w' ⟨u,L',eG,rfl,⟨rfl,_,_⟩,_,al⟩;refine⟨u,⟨λ_=>0,λ_=>Option.none⟩,rfl,bM.UU al,λp g o a=>?_,λp q g o dq a=>?_,k _ (C5 c)⟩
 .rw[b]at a;cases a
 .rw[b]at a;cases a
end Go.ft
namespace Go.Proofs.YtdelkmpkjibigaaGreatDoor
open Go.ft
open Go.av (lE S En qC Ru)
theorem arJ(a b:ak)(w:aT):(callFunc 213 #[S a,S b]).run Tryz.prog w = .ok (.value (.int .i64 (Lib.compareBytes a b))) w:=by rw[run_callFunc_extern Tryz.func213 bW rfl bW (e:=Extern.BytealgCompare.compare) bW];simp[Lib.run_compareString]
set_option maxRecDepth 20000 in
open Go.av in
theorem _r(a b:ak):lE Tryz.prog 160 [S a,S b] [] (λ_=>True) (En (.int .i64 (Lib.compareBytes a b))):=by
 refine qC Tryz.func160 Tryz.ntmps160 rfl bW rfl λw M=>?_
 repeat' (first|refine nd ?_|refine oj ?_|refine jU ?_|refine jP ?_|refine aEb ?_|refine aDL ?_|refine sa ?_|refine aDM ?_|refine aE9 ?_|refine aFc ?_|refine aFa ?_|refine aE8 rfl ?_|refine aDQ ?_|refine aEc ?_|refine aFb ?_|refine aDN ?_|(apply gC rfl rfl;(first|exact jA rfl|exact kX rfl|exact U8 gi rfl|exact Cy gi rfl|exact U5 rfl rfl|exact Vc rfl rfl|exact Vb rfl rfl|exact Ga rfl rfl|exact U' rfl rfl|exact U_ rfl rfl|exact U9 rfl rfl|exact Md rfl rfl|exact U6 rfl rfl|exact Me rfl|exact U4 rfl rfl|exact Va rfl rfl|exact C7 rfl rfl af|exact Nj rfl rfl af|exact U7 gi rfl rfl af|exact U1 gi rfl rfl rfl af|exact U3 gi rfl rfl af|exact U2 gi rfl rfl af|exact rb (gJ:=0) gi rfl|exact rb (gJ:=1) gi rfl|exact rb (gJ:=2) gi rfl|exact rb (gJ:=3) gi rfl|exact aEw rfl))|refine aEh rfl rfl ?_|refine aEi rfl ?_|(apply gC rfl rfl (agZ rfl rfl (arJ _ _)))|(refine aEg rfl rfl ?_ ?_<;>intro ao)|(refine i rfl rfl ?_ ?_<;>intro ao)|(refine j rfl rfl ?_ ?_<;>intro ao)|(refine h rfl rfl ?_ ?_<;>intro ao)|(refine k rfl rfl ?_ ?_<;>intro ao)|(refine l rfl rfl ?_ ?_<;>intro ao)|refine c rfl rfl ?_|refine UF rfl rfl ?_|refine c rfl (aH af) ?_|refine UF rfl (aL af) ?_|(refine IW rfl ?_ ?_<;>intro ao)|(refine e rfl ?_ ?_<;>intro ao)|(refine f rfl ?_ ?_<;>intro ao)|(refine d rfl ?_ ?_<;>intro ao)|(refine g rfl ?_ ?_<;>intro ao)|(refine r_ rfl ?_ ?_<;>intro ao)|refine mA rfl rfl ?_|refine aDO rfl rfl rfl ?_|refine aDP rfl rfl rfl rfl ?_|fail)
 exact Ru rfl
def mJ(a b:ak):Int:=Lib.compareBytes a b
def Sb:bt [.str,.str] [an]:=λx=>J (mJ x.1 x.2)
theorem aaf:∀(a b:ak),mJ a b = -1\/mJ a b=0\/mJ a b=1
 |[],[]=>by simp[mJ,Lib.compareBytes]
 |[],_::_=>by simp[mJ,Lib.compareBytes]
 |_::_,[]=>by simp[mJ,Lib.compareBytes]
 |a::l,b::m=>by
  have c:=aaf l m;simp only[mJ,Lib.compareBytes]at c ⊢;split
  .simp
  .grind
theorem azk:aU 160 [.str,.str] [an] Sb:=by
 refine fH.als (_r [] []).enters rfl λx r ag=>?_;obtain⟨a,b⟩:=x;simp only[Sb,dN]at ag;subst ag;refine⟨[S a,S b],_,λX vs h=>?_,_r a b,λX al=>?_⟩
 .simp only[eK,fy,bl,aG]at h;obtain⟨u,us,rfl,⟨rfl,_⟩,d,c,rfl,⟨rfl,_⟩,rfl⟩:=h;rfl
 .simp only[iU,eK,fy];have h:=aaf a b;refine k4 (JK ?_);simp only[df.min,df.max,lu,kp];simp only[if_true];omega
end Go.Proofs.YtdelkmpkjibigaaGreatDoor
namespace Go.Proofs.YtdelkmpkjibigaaGreatDoor
open Go.ft
def Y7:bn:=⟨20,[(0,.str),(2,.bool),(5,.int .i64),(6,.int .i64)],[],[],0,0,0,[],[]⟩
abbrev K5:=ak×Bool×Int×Int
def A3{R:Type}(rec:K5->ae R)(kx:aX->K5->ae R)(v:K5):ae R:=match v with|(v,v1,v2,v3)=>cond (aa (v3<v2)) (ax (a_ v3 (I v)) (cond (aa ((b_ v v3)<32)) (kx .ret (v,ai,v2,v3)) (ax (a_ v3 (I v)) (cond (aa (126<(b_ v v3))) (kx .ret (v,ai,v2,v3)) (rec (v,v1,v2,(wr .i64 (v3+1)))))))) (kx (.exit 0) (v,v1,v2,v3))
def aan(R:Type)(k:Nat):aR R:=bs [] [] [(2,b8 k Y7 (A3))] []
def ami(k:Nat)(x:aw [.str]):ae (aw [.bool]):=match x with
 |s=>aI (λrec=>A3 rec (λe a=>match a with|(_,v5,_,_)=>match e with
  |.ret=>J v5
  |.exit 0=>J ab
  |_=>aj)) k (s,ai,(I s:Int),0)
theorem ark(k:Nat):aU 207 [.str] [.bool] (ami k):=b6 (px:=aan _ k) (n:=1) Tryz.func207 rfl (λah H=>by have c:bP ah (aan (aw [.bool]) k):=br H bq bo bp;have a:=cd H c (b:=b0 Tryz.f207 0) (k:=k) (n:=0) (s:=Y7) (step:=A3) (λ_ _ _ (_,_,_,_)=>by kernel_rfl) aK;exact⟨c,(b9 aK a)⟩) λ_=>by kernel_rfl
def mV(b:UInt8):Bool:=aa (32<=b.toNat)&&aa (b.toNat<=126)
def o2(s:ak):Bool:=s.all mV
def O4:bt [.str] [.bool]:=λx=>J (o2 x)
theorem Y1{R:Type}{kx:aX->K5->ae R}{s:ak}{a b:ae R}(d:b1 (I s))(e:∀r j,kx .ret (s,ai,r,j)=a)(f:∀q r j,kx (.exit 0) (s,q,r,j)=b):∀(k i:Nat) q,i<=I s->I s-i<k->aI (λrec=>A3 rec kx) k (s,q,(I s:Int),(i:Int))=cond ((s.drop i).all mV) b a
 |0,i,q,_,h=>by omega
 |k+1,i,q,bO,h=>by
  rw[c6];by_cases c:i<I s
  .simp only[A3,c9 c d,(Y1 d e f k (i+1) q af af),e,da c,jr c,cg c,fk,mq];rw[if_pos af];simp only[mV];split
   .rw[aL af];rfl
   .split
    .rw[aH af,aL af];rfl
    .rw[aH af,aH af];rfl
  .simp[A3,f,mq];exact G0
theorem atq:aU 207 [.str] [.bool] O4:=.fin 0 ark λx r al ag=>⟨I x+1,by simp only[O4,dN]at ag;have:=Y1 (a:=J ai) (b:=J ab) al (kx:=λe v=>match v with|(_,v5,_,_)=>match e with|.ret=>J v5|.exit 0=>J ab|_=>aj) (λ_ _=>rfl) (λ_ _ _=>rfl) (I x+1) 0 ai (cL _) af;refine Eq.trans this ?_;rw[<-ag,iW,o2];cases x.all mV<;>rfl⟩
def axi(R:Type):aR R:=bs [(207,ba O4)] [] [] []
def TQ(x:aw [e6]):ae (aw [.bool]):=match x with|v=>cond (aa (v.kind=1)) (cond (aa (v.n=0)) (J (aa (v.s=[]))) (J ai)) (cond (aa (v.kind=2)) (cond (aa (v.n=0)) (J (aa (v.s=[]))) (cond (aa (v.n=1)) (J (aa (v.s=[]))) (J ai))) (cond (aa (v.kind=3)) (J (aa (v.s=[]))) (cond (aa (v.kind=4)) (cond (aa (v.n=0)) (cond (aa ((I v.s:Int)<=1000)) (J (o2 v.s)) (J ai)) (J ai)) (cond (aa (v.kind=5)) (cond (aa (v.n=0)) (J (aa ((I v.s:Int)<=1000))) (J ai)) (J ai)))))
theorem as2:aU 152 [e6] [.bool] (TQ):=b6 (px:=axi _) (n:=0) Tryz.func152 rfl (λ_ H=>⟨br H (c1 H atq bq) bo bp,aK⟩) λ_=>by kernel_rfl
def iQ(v:dA):Bool:=cond (aa (v.kind=1)) (cond (aa (v.n=0)) (aa (v.s=[])) (ai)) (cond (aa (v.kind=2)) (cond (aa (v.n=0)) (aa (v.s=[])) (cond (aa (v.n=1)) (aa (v.s=[])) (ai))) (cond (aa (v.kind=3)) (aa (v.s=[])) (cond (aa (v.kind=4)) (cond (aa (v.n=0)) (cond (aa ((I v.s:Int)<=1000)) (o2 v.s) (ai)) (ai)) (cond (aa (v.kind=5)) (cond (aa (v.n=0)) (aa ((I v.s:Int)<=1000)) (ai)) (ai)))))
theorem atg(x:aw [e6]):TQ x=J (iQ x):=by
 first
  |exact rfl
  |simp only[TQ,iQ,gb]
def IM:bt [e6] [.bool]:=λx=>J (iQ x)
theorem O6:aU 152 [e6] [.bool] IM:=.er as2 λx _ _ ag=>(atg x).trans ag
def awr(R:Type):aR R:=bs [(152,ba IM)] [] [] []
def TF(x:aw [e6]):ae (aw [an]):=match x with|v=>cond (!(iQ v)) (J 2) (J 0)
theorem atu:aU 208 [e6] [an] (TF):=b6 (px:=awr _) (n:=0) Tryz.func208 rfl (λ_ H=>⟨br H (c1 H O6 bq) bo bp,aK⟩) λ_=>by kernel_rfl
def j8(v:dA):Int:=cond (!(iQ v)) (2) (0)
theorem asY(x:aw [e6]):TF x=J (j8 x):=by
 first
  |exact rfl
  |simp only[TF,j8,gb]
def Qe:bt [e6] [an]:=λx=>J (j8 x)
theorem ab9:aU 208 [e6] [an] Qe:=.er atu λx _ _ ag=>(asY x).trans ag
def apF(R:Type):aR R:=bs [(152,ba IM)] [] [] []
def OE(x:aw [e6,an]):ae (aw [.bool]):=match x with|(v,kind)=>cond (iQ v) (cond (aa (v.kind=1)) (J ab) (J (aa (v.kind=kind)))) (J ai)
theorem avm:aU 89 [e6,an] [.bool] (OE):=b6 (px:=apF _) (n:=0) Tryz.func89 rfl (λ_ H=>⟨br H (c1 H O6 bq) bo bp,aK⟩) λ(_,_)=>by kernel_rfl
def JL(v:dA)(kind:Int):Bool:=cond (iQ v) (cond (aa (v.kind=1)) (ab) (aa (v.kind=kind))) (ai)
theorem axh(x:aw [e6,an]):OE x=J (JL x.1 x.2):=by
 first
  |exact rfl
  |simp only[OE,JL,gb]
def aht:bt [e6,an] [.bool]:=λx=>J (JL x.1 x.2)
theorem anu:aU 89 [e6,an] [.bool] aht:=.er avm λx _ _ ag=>(axh x).trans ag
def aqu(R:Type):aR R:=bs [] [] [] []
def Ow(x:aw [an,an]):ae (aw [an]):=match x with|(a,b)=>cond (aa (a<b)) (J (-1)) (cond (aa (b<a)) (J 1) (J 0))
theorem auG:aU 94 [an,an] [an] (Ow):=b6 (px:=aqu _) (n:=0) Tryz.func94 rfl (λ_ H=>⟨br H bq bo bp,aK⟩) λ(_,_)=>by kernel_rfl
def na(a:Int)(b:Int):Int:=cond (aa (a<b)) (-1) (cond (aa (b<a)) (1) (0))
theorem aw1(x:aw [an,an]):Ow x=J (na x.1 x.2):=by
 first
  |exact rfl
  |simp only[Ow,na,gb]
def aiB:bt [an,an] [an]:=λx=>J (na x.1 x.2)
theorem aof:aU 94 [an,an] [an] aiB:=.er auG λx _ _ ag=>(aw1 x).trans ag
def aAh(R:Type):aR R:=bs [] [] [] []
def Px(x:aw [an,an]):ae (aw [an,an]):=match x with|(a,b)=>cond (!decide ((aa (a<(wr .i64 (a+b))))=(aa (0<b)))) (J (0,20)) (J ((wr .i64 (a+b)),0))
theorem aog:aU 210 [an,an] [an,an] (Px):=b6 (px:=aAh _) (n:=0) Tryz.func210 rfl (λ_ H=>⟨br H bq bo bp,aK⟩) λ(_,_)=>by kernel_rfl
def wY(a:Int)(b:Int):Int×Int:=cond (!decide ((aa (a<(wr .i64 (a+b))))=(aa (0<b)))) (0,20) ((wr .i64 (a+b)),0)
theorem aqM(x:aw [an,an]):Px x=J (wY x.1 x.2):=by
 first
  |exact rfl
  |simp only[Px,wY,gb]
def ace:bt [an,an] [an,an]:=λx=>J (wY x.1 x.2)
theorem aAj:aU 210 [an,an] [an,an] ace:=.er aog λx _ _ ag=>(aqM x).trans ag
def aoA(R:Type):aR R:=bs [] [] [] []
def OR(x:aw [an]):ae (aw [.int .u64]):=match x with|n=>cond (aa (n<0)) (J (wr .u64 (0-(wr .u64 n)))) (J (wr .u64 n))
theorem axd:aU 219 [an] [.int .u64] (OR):=b6 (px:=aoA _) (n:=0) Tryz.func219 rfl (λ_ H=>⟨br H bq bo bp,aK⟩) λ_=>by kernel_rfl
def iE(n:Int):Int:=cond (aa (n<0)) (wr .u64 (0-(wr .u64 n))) (wr .u64 n)
theorem avF(x:aw [an]):OR x=J (iE x):=by
 first
  |exact rfl
  |simp only[OR,iE,gb]
def NB:bt [an] [.int .u64]:=λx=>J (iE x)
theorem aeW:aU 219 [an] [.int .u64] NB:=.er axd λx _ _ ag=>(avF x).trans ag
def ars(R:Type):aR R:=bs [(160,ba Sb)] [] [] []
def Tm(x:aw [.str,.str]):ae (aw [an]):=match x with|(a,b)=>J (mJ a b)
theorem amd:aU 95 [.str,.str] [an] (Tm):=b6 (px:=ars _) (n:=0) Tryz.func95 rfl (λ_ H=>⟨br H (c1 H azk bq) bo bp,aK⟩) λ(_,_)=>by kernel_rfl
def xy(a:ak)(b:ak):Int:=(mJ a b)
theorem al9(x:aw [.str,.str]):Tm x=J (xy x.1 x.2):=by
 first
  |exact rfl
  |simp only[Tm,xy,gb]
def N':bt [.str,.str] [an]:=λx=>J (xy x.1 x.2)
theorem _H:aU 95 [.str,.str] [an] N':=.er amd λx _ _ ag=>(al9 x).trans ag
def az4(R:Type):aR R:=bs [(94,ba aiB),(95,ba N')] [] [] []
def Pg(x:aw [e6,e6]):ae (aw [an]):=match x with|(a,b)=>cond (!decide ((na a.kind b.kind)=0)) (J (na a.kind b.kind)) (cond (!decide ((na a.n b.n)=0)) (J (na a.n b.n)) (J (xy a.s b.s)))
theorem anN:aU 37 [e6,e6] [an] (Pg):=b6 (px:=az4 _) (n:=0) Tryz.func37 rfl (λ_ H=>⟨br H (c1 H aof (c1 H _H bq)) bo bp,aK⟩) λ(_,_)=>by kernel_rfl
def DO(a:dA)(b:dA):Int:=cond (!decide ((na a.kind b.kind)=0)) (na a.kind b.kind) (cond (!decide ((na a.n b.n)=0)) (na a.n b.n) (xy a.s b.s))
theorem apN(x:aw [e6,e6]):Pg x=J (DO x.1 x.2):=by
 first
  |exact rfl
  |simp only[Pg,DO,gb]
def SE:bt [e6,e6] [an]:=λx=>J (DO x.1 x.2)
theorem ah8:aU 37 [e6,e6] [an] SE:=.er anN λx _ _ ag=>(apN x).trans ag
def ank(R:Type):aR R:=bs [] [] [] []
def Ou(x:aw [.int .u64,.int .u64]):ae (aw [.int .u64,.int .u64]):=match x with|(a,b)=>J ((wr .u64 ((wr .u64 ((wr .u64 ((hj .u64 a 32)*(hj .u64 b 32)))+(hj .u64 (wr .u64 ((wr .u64 ((hj .u64 a 32)*(ib .u64 b 4294967295)))+(hj .u64 (wr .u64 ((ib .u64 a 4294967295)*(ib .u64 b 4294967295))) 32))) 32)))+(hj .u64 (wr .u64 ((ib .u64 (wr .u64 ((wr .u64 ((hj .u64 a 32)*(ib .u64 b 4294967295)))+(hj .u64 (wr .u64 ((ib .u64 a 4294967295)*(ib .u64 b 4294967295))) 32))) 4294967295)+(wr .u64 ((ib .u64 a 4294967295)*(hj .u64 b 32))))) 32))),(wr .u64 (a*b)))
theorem aum:aU 239 [.int .u64,.int .u64] [.int .u64,.int .u64] (Ou):=b6 (px:=ank _) (n:=0) Tryz.func239 rfl (λ_ H=>⟨br H bq bo bp,aK⟩) λ(_,_)=>by kernel_rfl
def nU(a:Int)(b:Int):Int×Int:=((wr .u64 ((wr .u64 ((wr .u64 ((hj .u64 a 32)*(hj .u64 b 32)))+(hj .u64 (wr .u64 ((wr .u64 ((hj .u64 a 32)*(ib .u64 b 4294967295)))+(hj .u64 (wr .u64 ((ib .u64 a 4294967295)*(ib .u64 b 4294967295))) 32))) 32)))+(hj .u64 (wr .u64 ((ib .u64 (wr .u64 ((wr .u64 ((hj .u64 a 32)*(ib .u64 b 4294967295)))+(hj .u64 (wr .u64 ((ib .u64 a 4294967295)*(ib .u64 b 4294967295))) 32))) 4294967295)+(wr .u64 ((ib .u64 a 4294967295)*(hj .u64 b 32))))) 32))),(wr .u64 (a*b)))
theorem axZ(x:aw [.int .u64,.int .u64]):Ou x=J (nU x.1 x.2):=by
 first
  |exact rfl
  |simp only[Ou,nU,gb]
def aiJ:bt [.int .u64,.int .u64] [.int .u64,.int .u64]:=λx=>J (nU x.1 x.2)
theorem aoG:aU 239 [.int .u64,.int .u64] [.int .u64,.int .u64] aiJ:=.er aum λx _ _ ag=>(axZ x).trans ag
def ay1(R:Type):aR R:=bs [(219,ba NB),(239,ba aiJ)] [] [] []
def P2(x:aw [an,an]):ae (aw [an,an]):=match x with
 |(a,b)=>
 let c:=λ(p3:Bool)=>
  cond (p3) (
  J (0,20)) (
  cond (!decide ((aa (a<0))=(aa (b<0)))) (
   J ((wr .i64 (wr .u64 (0-(nU (iE a) (iE b)).2))),0)) (
   J ((wr .i64 ((nU (iE a) (iE b)).2)),0)))
 let j:=λ(p:Bool)=>
  cond (p) (
  c ab) (
  cond (aa ((nU (iE a) (iE b)).2=9223372036854775808)) (
   c (!(!decide ((aa (a<0))=(aa (b<0)))))) (
   c ai))
 cond (aa (0<(nU (iE a) (iE b)).1)) (
  j ab) (
  j (aa (9223372036854775808<(nU (iE a) (iE b)).2)))
theorem an9:aU 212 [an,an] [an,an] (P2):=b6 (px:=ay1 _) (n:=0) Tryz.func212 rfl (λ_ H=>⟨br H (c1 H aeW (c1 H aoG bq)) bo bp,aK⟩) λ(_,_)=>by kernel_rfl
def uE(a:Int)(b:Int):Int×Int:=
 let c:=λ(p3:Bool)=>
  cond (p3) (
  (0,20)) (
  cond (!decide ((aa (a<0))=(aa (b<0)))) (
   ((wr .i64 (wr .u64 (0-(nU (iE a) (iE b)).2))),0)) (
   ((wr .i64 ((nU (iE a) (iE b)).2)),0)))
 let j:=λ(p:Bool)=>
  cond (p) (
  c ab) (
  cond (aa ((nU (iE a) (iE b)).2=9223372036854775808)) (
   c (!(!decide ((aa (a<0))=(aa (b<0)))))) (
   c ai))
 cond (aa (0<(nU (iE a) (iE b)).1)) (
  j ab) (
  j (aa (9223372036854775808<(nU (iE a) (iE b)).2)))
theorem api(x:aw [an,an]):P2 x=J (uE x.1 x.2):=by
 first
  |exact rfl
  |simp only[P2,uE,gb]
def acL:bt [an,an] [an,an]:=λx=>J (uE x.1 x.2)
theorem ayq:aU 212 [an,an] [an,an] acL:=.er an9 λx _ _ ag=>(api x).trans ag
theorem qZ{i:Int}{n:Nat}(h : 0<=i/\i<n):a_ i n=true:=by simp[a_,h]
def aqU(R:Type):aR R:=bs [] [] [] []
def Om(x:aw [.int .u8]):ae (aw [.bool]):=match x with|c=>cond (aa (97<=c)) (J (aa (c<=122))) (J ai)
theorem awa:aU 161 [.int .u8] [.bool] (Om):=b6 (px:=aqU _) (n:=0) Tryz.func161 rfl (λ_ H=>⟨br H bq bo bp,aK⟩) λ_=>by kernel_rfl
def s3(c:Int):Bool:=cond (aa (97<=c)) (aa (c<=122)) (ai)
theorem auW(x:aw [.int .u8]):Om x=J (s3 x):=by
 first
  |exact rfl
  |simp only[Om,s3,gb]
def IS:bt [.int .u8] [.bool]:=λx=>J (s3 x)
theorem Rd:aU 161 [.int .u8] [.bool] IS:=.er awa λx _ _ ag=>(auW x).trans ag
def ap0(R:Type):aR R:=bs [] [] [] []
def OY(x:aw [.int .u8]):ae (aw [.bool]):=match x with|c=>cond (aa (48<=c)) (J (aa (c<=57))) (J ai)
theorem auw:aU 214 [.int .u8] [.bool] (OY):=b6 (px:=ap0 _) (n:=0) Tryz.func214 rfl (λ_ H=>⟨br H bq bo bp,aK⟩) λ_=>by kernel_rfl
def s_(c:Int):Bool:=cond (aa (48<=c)) (aa (c<=57)) (ai)
theorem aur(x:aw [.int .u8]):OY x=J (s_ x):=by
 first
  |exact rfl
  |simp only[OY,s_,gb]
def Ju:bt [.int .u8] [.bool]:=λx=>J (s_ x)
theorem P4:aU 214 [.int .u8] [.bool] Ju:=.er auw λx _ _ ag=>(aur x).trans ag
def ap6(R:Type):aR R:=bs [(161,ba IS),(214,ba Ju)] [] [] []
def Oh(x:aw [.int .u8]):ae (aw [.bool]):=match x with|c=>cond (s3 c) (J ab) (cond (s_ c) (J ab) (J (aa (c=95))))
theorem axl:aU 163 [.int .u8] [.bool] (Oh):=b6 (px:=ap6 _) (n:=0) Tryz.func163 rfl (λ_ H=>⟨br H (c1 H Rd (c1 H P4 bq)) bo bp,aK⟩) λ_=>by kernel_rfl
def uu(c:Int):Bool:=cond (s3 c) (ab) (cond (s_ c) (ab) (aa (c=95)))
theorem axy(x:aw [.int .u8]):Oh x=J (uu x):=by
 first
  |exact rfl
  |simp only[Oh,uu,gb]
def Je:bt [.int .u8] [.bool]:=λx=>J (uu x)
theorem QH:aU 163 [.int .u8] [.bool] Je:=.er axl λx _ _ ag=>(axy x).trans ag
theorem Qx(c:Int):s3 c=aO.kV c:=by simp only[s3,aO.kV];cases aa (97<=c)<;>rfl
theorem QO(c:Int):s_ c=aO.fA c:=by simp only[s_,aO.fA];cases aa (48<=c)<;>rfl
theorem Qr(c:Int):uu c=aO.fS c:=by simp[uu,aO.fS,Qx,QO];cases aO.kV c<;>cases aO.fA c<;>rfl
def aa3:bn:=⟨21,[(0,.str),(1,.int .i64)],[(2,.fn 163 [])],[],40,40,200,[],[]⟩
abbrev Hw:=ak×Int
def zw{R:Type}(rec:Hw->ae R)(kx:aX->Hw->ae R)(v:Hw):ae R:=match v with|(v,v1)=>cond (aa (v1<(I v:Int))) (ax (a_ v1 (I v)) (cond (uu (b_ v v1)) (rec (v,(wr .i64 (v1+1)))) (kx (.exit 0) (v,v1)))) (kx (.exit 0) (v,v1))
def aa0(R:Type)(k:Nat):aR R:=bs [(163,ba Je)] [] [(1,b8 k aa3 (zw))] []
noncomputable def afn(R:Type)(k:Nat):aR R:=bs [(161,ba IS),(162,ey 40 200 (aa0 R k) Tryz.f162)] [] [] []
def abg(k:Nat)(x:aw [.str]):ae (aw [.bool]):=match x with
 |s=>
 let a:=λ(p:Bool)=>
  let j:=λ(p1:Bool)=>
  cond (p1) (
   aI (λrec=>zw rec (λe b=>match b with|(_,v3)=>match e with
   |.exit 0=>J (aa (v3=(I s:Int)))
   |_=>aj)) k (s,0)) (
   J ai)
  cond (p) (
  ax (a_ 0 (I s)) (
   j (s3 (b_ s 0)))) (
  j ai)
 cond (!decide (s=[])) (
  a (aa ((I s:Int)<=30))) (
  a ai)
theorem axE(k:Nat):aU 96 [.str] [.bool] (abg k):=b6 (px:=afn _ k) (n:=0) Tryz.func96 rfl (λah H=>by have c:bP ah (aa0 (aw [.bool]) k):=br H (c1 H QH bq) bo bp;have a:=cd H c (b:=b0 Tryz.f162 0) (k:=k) (n:=0) (s:=aa3) (step:=zw) (λ_ _ _ (_,_)=>by kernel_rfl) aK;have d:bP ah (afn (aw [.bool]) k):=br H (c1 H Rd (et (eS H c Tryz.func162 rfl (n:=1) (b9 aK a)) bq)) bo bp;exact⟨d,aK⟩) λ_=>by kernel_rfl
abbrev eQ(s:ak):Bool:=aO.qa s
def xK:bt [.str] [.bool]:=λx=>J (eQ x)
theorem Y_{R:Type}{kx:aX->Hw->ae R}{s:ak}  {a:Int->ae R}(d:b1 (I s)) (c:∀j,kx (.exit 0) (s,j)=a j):∀(k i:Nat),i<=I s->I s-i<k->aI (λrec=>zw rec kx) k (s,(i:Int))=a (aO.c4 aO.fS s i)
 |0,i,_,h=>absurd h (dY _)
 |k+1,i,bO,h=>by
  rw[c6];by_cases b:i<I s
  .have g:=Y_  d c k (i+1) af af;have e:av.cf s (i:Int)=(s[i].toNat:Int):=jr b;simp only[zw,c9 b d,g,c,jr b,cg b,Qr];rw[aH (show(i:Int)<(I s:Int) by omega)];cases f:aO.fS (s[i].toNat:Int)with|true=>have:=aO.yu (p:=aO.fS) (l:=s) (j:=i) af uP;rw[<-this];rfl|false=>have:=aO.yt (p:=aO.fS) (l:=s) (j:=i) af uP;rw[this];rfl
  .have:=aO.CA (p:=aO.fS) (l:=s) (j:=i) af;simp only[zw,c];exact G1
theorem FD:aU 96 [.str] [.bool] xK:=.fin 0 axE λs r al ag=>⟨I s+1,by
 simp only[xK,dN]at ag;rw[<-ag];simp only[abg,eQ,aO.qa];by_cases c:s=[]
 .rw[aH c];rfl
 .rw[aL c];simp only[kd,bd,jo];by_cases b:(I s:Int)<=30
  .have e : 0<I s:=List.length_pos_iff.2 c;rw[aH b,qZ af,Qx];simp only[ax,bd,jo];have d:b_ s 0=av.cf s 0:=rfl;rw[d];cases aO.kV (av.cf s 0)with|false=>rfl|true=>simp only[bd,jo];exact Y_ (s:=s) (a:=λj=>J (aa (j=(I s:Int)))) al (λ_=>rfl) (I s+1) 0 (cL _) af
  .rw[aL b];rfl⟩
theorem Mx(n:Int):wr .u64 n=n % 18446744073709551616:=RL
theorem Vr(n:Int):wr .i64 n=if 9223372036854775808<=n % 18446744073709551616 then n % 18446744073709551616-18446744073709551616 else n % 18446744073709551616:=RL
theorem pN{n:Int}(h : 0<=n/\n<=18446744073709551615):wr .u64 n=n:=by rw[Mx];omega
theorem NK{a:Int}(h : 0<=a/\a<=18446744073709551615):ib .u64 a 4294967295=a % 4294967296:=by
 obtain⟨n,rfl⟩:=Int.eq_ofNat_of_zero_le h.1;have b:n<18446744073709551616:=af
 have c:(km df.u64.bits (n:Int) &&& km df.u64.bits 4294967295).toNat=n % 4294967296:=by show(km 64 (n:Int) &&& km 64 ((4294967295:Nat):Int)).toNat=n % 4294967296;rw[BitVec.toNat_and,BitVec.ofInt_natCast,BitVec.ofInt_natCast,BitVec.toNat_ofNat,BitVec.toNat_ofNat];rw[Nat.mod_eq_of_lt b,Nat.mod_eq_of_lt dM];exact Nat.and_two_pow_sub_one_eq_mod n 32
 show wr .u64 _=_;simp only[c];rw[pN af];omega
theorem ayD{a:Int}:hj .u64 a 32=a / 4294967296:=by
 show a.fdiv (2 ^ min (32:Int).toNat df.u64.bits)=_;rw[show(2:Int) ^ min (32:Int).toNat df.u64.bits=4294967296 from by decide]
 grind
theorem Dw(a b c d:Int)(h : 0<=a/\a<=c)(e : 0<=b/\b<=d) : 0<=a*b/\a*b<=c*d:=⟨Int.mul_nonneg h.1 e.1,Int.mul_le_mul h.2 e.2 e.1 af⟩
theorem arY(x y:Int):x*y=(x / 4294967296)*(y / 4294967296)*18446744073709551616+((x / 4294967296)*(y % 4294967296)+(x % 4294967296)*(y / 4294967296))*4294967296+(x % 4294967296)*(y % 4294967296):=im
theorem aqD(x y:Int)(ag : 0<=x/\x<=18446744073709551615)(aE : 0<=y/\y<=18446744073709551615):nU x y=(x*y / 18446744073709551616,x*y % 18446744073709551616):=by have e:=Dw (x % 4294967296) (y % 4294967296) 4294967295 4294967295 af af;have f:=Dw (x / 4294967296) (y % 4294967296) 4294967295 4294967295 af af;have g:=Dw (x % 4294967296) (y / 4294967296) 4294967295 4294967295 af af;have h:=Dw (x / 4294967296) (y / 4294967296) 4294967295 4294967295 af af;have sp:=arY x y;simp only[nU,ayD,NK ag,NK aE];generalize (x % 4294967296)*(y % 4294967296)=a at *;generalize (x / 4294967296)*(y % 4294967296)=b at *;generalize (x % 4294967296)*(y / 4294967296)=c at *;generalize (x / 4294967296)*(y / 4294967296)=d at *;rw[pN (n:=a) af,pN (n:=b) af,pN (n:=d) af,pN (n:=c) af];rw[pN (n:=b+a / 4294967296) af];rw[NK af];rw[pN (n:=(b+a / 4294967296) % 4294967296+c) af];rw[pN (n:=d+(b+a / 4294967296) / 4294967296) af];rw[pN (n:=d+(b+a / 4294967296) / 4294967296+((b+a / 4294967296) % 4294967296+c) / 4294967296) af,Mx];rw[ni];constructor<;>omega
def nG(n:Int):Int×Int:=if -9223372036854775808<=n/\n<=9223372036854775807 then(n,0)else(0,20)
def ln(n:Int):Int:=if n<0 then -n else n
theorem M9{n:Int}(h:dc n):iE n=ln n:=by simp[dc]at h;simp[iE,ln,Mx];split<;>omega
theorem GD{q r:Int}(h:dc q)(a:r=q):(r,(0:Int))=nG q:=by simp[dc]at h;rw[a,nG,if_pos h]
theorem Gx{q:Int}(h:¬dc q):((0:Int),(20:Int))=nG q:=by simp only[dc]at h;rw[nG,if_neg h]
theorem aAQ{a b:Int}(d:dc a)(al:dc b):wY a b=nG (a+b):=by
 simp[dc]at d al;simp[wY,Vr];by_cases c : 0<b
 .rw[aH c];by_cases f:a+b<=9223372036854775807
  .have e:(a+b) % 18446744073709551616<9223372036854775808\/9223372036854775808<=(a+b) % 18446744073709551616:=af
   rw[<-GD (q:=a+b) (r:=if 9223372036854775808<=(a+b) % 18446744073709551616 then(a+b) % 18446744073709551616-18446744073709551616 else(a+b) % 18446744073709551616) ec (by split<;>omega)]
   grind
  .rw[<-Gx (q:=a+b) ec]
   grind
 .rw[aL c];by_cases f : -9223372036854775808<=a+b
  .rw[<-GD (q:=a+b) (r:=if 9223372036854775808<=(a+b) % 18446744073709551616 then(a+b) % 18446744073709551616-18446744073709551616 else(a+b) % 18446744073709551616) ec (by split<;>omega)]
   grind
  .rw[<-Gx (q:=a+b) ec]
   grind
theorem aBl{a b:Int}(g:dc a)(al:dc b):uE a b=nG (a*b):=by
 have c:=g;have d:=al;simp[dc]at c d;have j : 0<=ln a/\ln a<=9223372036854775808:=by unfold ln;split<;>omega
 have k : 0<=ln b/\ln b<=9223372036854775808:=by unfold ln;split<;>omega
 have l:=Dw _ _ _ _ j k;have e:a*b=if aa (a<0)=aa (b<0)then ln a*ln b else -(ln a*ln b):=by unfold ln;by_cases h:a<0<;>by_cases i:b<0<;>simp[h,i,Int.neg_mul,Int.mul_neg]
 simp only[uE,M9 g,M9 al,aqD _ _ (show 0<=ln a/\ln a<=18446744073709551615 by omega) (show 0<=ln b/\ln b<=18446744073709551615 by omega)];clear g al c d j k;generalize ln a*ln b=p at *;generalize a*b=q at *;by_cases f:aa (a<0)=aa (b<0)
 .rw[if_pos f]at e;rw[aH f];by_cases h:p<9223372036854775808
  .rw[aL (show ¬ 0<p / 18446744073709551616 by omega),aL (show ¬ 9223372036854775808<p % 18446744073709551616 by omega),aL (show ¬p % 18446744073709551616=9223372036854775808 by omega)];refine(show _=(wr .i64 (p % 18446744073709551616),(0:Int)) from rfl).trans (GD ec ?_);rw[Vr];split<;>omega
  .rw[<-Gx (q:=q) ec];by_cases i : 0<p / 18446744073709551616
   .grind
   .grind
 .rw[if_neg f]at e;rw[aL f];by_cases h:p<=9223372036854775808
  .rw[aL (show ¬ 0<p / 18446744073709551616 by omega),aL (show ¬ 9223372036854775808<p % 18446744073709551616 by omega)];have:nG q=(wr .i64 (wr .u64 (0-p % 18446744073709551616)),(0:Int)):=by refine(GD ec ?_).symm;rw[Vr,Mx];split<;>omega
   rw[this];cases aa (p % 18446744073709551616=9223372036854775808)<;>rfl
  .rw[<-Gx (q:=q) ec];by_cases i : 0<p / 18446744073709551616
   .grind
   .grind
end Go.Proofs.YtdelkmpkjibigaaGreatDoor
namespace Go.Proofs
open Go.Shelf
def Tryz.ali:Go.Shelf.Ren:=⟨λ|155=>181|154=>220|138=>241|165=>179|143=>242|166=>109|197=>243|169=>50|195=>248|218=>249|240=>178|241=>218|219=>250|260=>251|276=>217|277=>240|217=>221|225=>254|224=>255|267=>256|266=>244|314=>258|n=>n,λ|9=>9|3=>3|4=>4|72=>97|0=>0|76=>185|105=>283|21=>21|5=>5|70=>95|20=>20|37=>28|75=>184|127=>190|164=>264|46=>191|119=>290|139=>293|138=>292|146=>295|51=>294|80=>106|n=>n,λ|1=>2|3=>4|4=>5|n=>n⟩
theorem Tryz.F7:Go.Proofs.Lays.n155 Tryz.prog Tryz.ali:={
 mixed:=bW
 f138:=Tryz.func241.trans (congrArg J bW)
 f143:=Tryz.func242.trans (congrArg J bW)
 f154:=Tryz.func220.trans (congrArg J bW)
 f155:=Tryz.func181.trans (congrArg J bW)
 f165:=Tryz.func179.trans (congrArg J bW)
 f166:=Tryz.func109.trans (congrArg J bW)
 f169:=Tryz.func50.trans (congrArg J bW)
 f195:=Tryz.func248.trans (congrArg J bW)
 f197:=Tryz.func243.trans (congrArg J bW)
 f217:=Tryz.func221.trans (congrArg J bW)
 f218:=Tryz.func249.trans (congrArg J bW)
 f219:=Tryz.func250.trans (congrArg J bW)
 f224:=Tryz.func255.trans (congrArg J bW)
 f225:=Tryz.func254.trans (congrArg J bW)
 f240:=Tryz.func178.trans (congrArg J bW)
 f241:=Tryz.func218.trans (congrArg J bW)
 f260:=Tryz.func251.trans (congrArg J bW)
 f266:=Tryz.func244.trans (congrArg J bW)
 f267:=Tryz.func256.trans (congrArg J bW)
 f276:=Tryz.func217.trans (congrArg J bW)
 f277:=Tryz.func240.trans (congrArg J bW)
 f314:=Tryz.func258.trans (congrArg J bW)
 t0:=Tryz.underlying0
 a0:=Tryz.isAgg0
 z0:=Tryz.sizeOf0
 v0:=Tryz.zeroValue0
 t3:=Tryz.underlying3
 a3:=Tryz.isAgg3
 z3:=Tryz.sizeOf3
 v3:=Tryz.zeroValue3
 t4:=Tryz.underlying4
 a4:=Tryz.isAgg4
 z4:=Tryz.sizeOf4
 v4:=Tryz.zeroValue4
 t5:=Tryz.underlying5
 a5:=Tryz.isAgg5
 z5:=Tryz.sizeOf5
 v5:=Tryz.zeroValue5
 t9:=Tryz.underlying9
 a9:=Tryz.isAgg9
 z9:=Tryz.sizeOf9
 v9:=Tryz.zeroValue9
 t20:=Tryz.underlying20
 a20:=Tryz.isAgg20
 z20:=Tryz.sizeOf20
 v20:=Tryz.zeroValue20
 t21:=Tryz.underlying21
 a21:=Tryz.isAgg21
 z21:=Tryz.sizeOf21
 v21:=Tryz.zeroValue21
 t37:=Tryz.underlying28
 a37:=Tryz.isAgg28
 z37:=Tryz.sizeOf28
 v37:=Tryz.zeroValue28
 t46:=Tryz.underlying191
 a46:=Tryz.isAgg191
 z46:=Tryz.sizeOf191
 v46:=Tryz.zeroValue191
 t51:=Tryz.underlying294
 a51:=Tryz.isAgg294
 z51:=Tryz.sizeOf294
 v51:=Tryz.zeroValue294
 t70:=Tryz.underlying95
 a70:=Tryz.isAgg95
 z70:=Tryz.sizeOf95
 v70:=Tryz.zeroValue95
 t72:=Tryz.underlying97
 a72:=Tryz.isAgg97
 z72:=Tryz.sizeOf97
 v72:=Tryz.zeroValue97
 t75:=Tryz.underlying184
 a75:=Tryz.isAgg184
 z75:=Tryz.sizeOf184
 v75:=Tryz.zeroValue184
 t76:=Tryz.underlying185
 a76:=Tryz.isAgg185
 z76:=Tryz.sizeOf185
 v76:=Tryz.zeroValue185
 t105:=Tryz.underlying283
 a105:=Tryz.isAgg283
 z105:=Tryz.sizeOf283
 v105:=Tryz.zeroValue283
 t119:=Tryz.underlying290
 a119:=Tryz.isAgg290
 z119:=Tryz.sizeOf290
 t127:=Tryz.underlying190
 a127:=Tryz.isAgg190
 z127:=Tryz.sizeOf190
 v127:=Tryz.zeroValue190
 t138:=Tryz.underlying292
 a138:=Tryz.isAgg292
 z138:=Tryz.sizeOf292
 v138:=Tryz.zeroValue292
 t139:=Tryz.underlying293
 a139:=Tryz.isAgg293
 z139:=Tryz.sizeOf293
 v139:=Tryz.zeroValue293
 t146:=Tryz.underlying295
 a146:=Tryz.isAgg295
 z146:=Tryz.sizeOf295
 v146:=Tryz.zeroValue295
 t164:=Tryz.underlying264
 a164:=Tryz.isAgg264
 z164:=Tryz.sizeOf264
 v164:=Tryz.zeroValue264
 g1:=bW
 g3:=bW
 g4:=by kernel_rfl }
theorem Tryz.aDx:Builder.Extra Tryz.prog Tryz.ali:={
 sizeBuilder:=bW
 liesBuilder:=bW
 t5:=Tryz.F7.t5
 a5:=Tryz.F7.a5
 z5:=Tryz.F7.z5
 v5:=Tryz.F7.v5
 infoByte:=bW
 cellsByte:=bW
 sizeByte:=bW
 neB5:=by decide }
end Go.Proofs
namespace Go.Proofs.YtdelkmpkjibigaaGreatDoor
open Go.ft
def Dj(s lQ new:ak):ae ak:=cond (aa (I s<4294967281)&&aa (1<=I lQ)&&aa (I s+Lib.count s lQ*I new<=140737488355328)&&aa (I (Lib.replaceAll s lQ new)<=dr)) (J (Lib.replaceAll s lQ new)) aj
def QG:bt [.str,.str,.str] [.str]:=λx=>Dj x.1 x.2.1 x.2.2
theorem av9:aU 181 [.str,.str,.str] [.str] QG:=by
 refine⟨av.enters_of Tryz.func181 rfl bW,λx r ag w M vs l a d=>?_⟩;obtain⟨s,lQ,new⟩:=x;simp only[QG,Dj]at ag;cases ao:aa (I s<4294967281)&&aa (1<=I lQ)&&aa (I s+Lib.count s lQ*I new<=140737488355328)&&aa (I (Lib.replaceAll s lQ new)<=dr)with
 |false=>rw[ao]at ag;cases ag
 |true=>rw[ao]at ag;have ag:J (Lib.replaceAll s lQ new)=J r:=ag;simp only[dN]at ag;subst ag;simp only[bN,fQ]at ao;obtain⟨⟨⟨e,f⟩,h⟩,i⟩:=ao;simp only[eK,fy,bl,aG]at d;obtain⟨u,us,rfl,⟨rfl,_⟩,n,j,rfl,⟨rfl,_⟩,t,k,rfl,⟨rfl,_⟩,rfl⟩:=d;obtain⟨m,hm⟩:=a.2.2 2 .i64 rfl;have c:=Any.strings_ReplaceAll Tryz.F7 Tryz.aDx ⟨s.toArray⟩ ⟨lQ.toArray⟩ ⟨new.toArray⟩ m w (by simpa[ByteArray.size]using e) (hm w (bM.refl _ _)) (by simpa[ByteArray.size]using f) (by simpa[ByteArray.size,Lib.countB]using h);refine Calls.mono (show Calls Tryz.prog 181 _ w _ from c) ?_;rintro dJ w' ⟨rfl,al⟩;refine⟨_,⟨λ_=>0,λ_=>Option.none⟩,rfl,bM.UU al,λp g o b=>(by simp[dw]at b),λp q g o ew b=>(by simp[dw]at b),?_⟩;simp only[iU,eK,fy,aG];exact⟨by simp,i⟩
def yo:Nat->Int|0=>1|n+1=>10*yo n
def val:U Int->Int|[]=>0|x::l=>x+10*val l
def ix(l:U Int):Bool:=l.all λx=>aa (0<=x)&&aa (x<=9)
theorem Jr{x:Int}{l:U Int}:ix (x::l)=ab↔(0<=x/\x<=9)/\ix l=true:=by simp[ix]
theorem Sz:∀{l:U Int},ix l=ab->0<=val l
 |[],_=>by simp[val]
 |x::l,h=>by have h:=Jr.1 h;have:=Sz h.2;simp[val];omega
def si(l:U Int)(i:Nat):Int:=l.getD i 0
theorem aBs{l:U Int}(h:ix l=ab)(i:Nat) : 0<=si l i/\si l i<=9:=by
 induction l generalizing i with
 |nil=>simp[si]
 |cons x l a=>have h:=Jr.1 h;cases i with|zero=>simpa[si]using h.1|succ i=>simpa[si]using a h.2 i
def hK(n:Nat):U Int:=if h:n=0 then []else((n % 10:Nat):Int)::hK (n / 10)
termination_by n
decreasing_by omega
theorem p8:hK 0=[]:=by rw[hK];simp
theorem qK{n:Nat}(h:¬n=0):hK n=((n % 10:Nat):Int)::hK (n / 10):=by rw[hK];simp[h]
theorem apC(n:Nat):val (hK n)=(n:Int):=by
 induction n using Nat.strongRecOn with
 |ind n a=>
  by_cases h:n=0
  .subst h;rw[p8];rfl
  .rw[qK h,val,a (n / 10) af];omega
theorem agX(n:Nat):ix (hK n)=true:=by
 induction n using Nat.strongRecOn with
 |ind n a=>
  by_cases h:n=0
  .subst h;rw[p8];rfl
  .rw[qK h];exact Jr.2 ⟨by omega,a (n / 10) af⟩
theorem HT:∀(k n:Nat),(n:Int)<yo k->I (hK n)<=k
 |0,n,h=>by
  have:n=0:=by simp[yo]at h;omega
  subst this;rw[p8];exact bU _
 |k+1,n,h=>by
  by_cases a:n=0
  .subst a;rw[p8];simp
  .have:=HT k (n / 10) (by simp[yo]at h;omega);rw[qK a];simp;omega
theorem azA{n:Nat}(h:¬n=0):¬hK n=[]:=by rw[qK h];simp
def m9:U Int->U Int|[]=>[]|x::l=>match m9 l with|[]=>if x=0 then []else [x]|y::t=>x::y::t
theorem _Q:∀{l:U Int},ix l=ab->m9 l=hK (val l).toNat
 |[],_=>by simp only[ val];exact p8.symm
 |x::l,h=>by
  have h:=Jr.1 h;have a:=_Q h.2;have d:=Sz h.2;simp[m9,a,val];by_cases b:val l=0
  .rw[b];have e:hK (0:Int).toNat=[]:=p8;rw[e];by_cases ag:x=0
   .grind
   .rw[if_neg ag,qK af,show(x+10*0).toNat / 10=0 by omega,p8,show(((x+10*0).toNat % 10:Nat):Int)=x by omega]
  .have c:=azA (n:=(val l).toNat) af;rw[qK (n:=(x+10*val l).toNat) af,show(x+10*val l).toNat / 10=(val l).toNat by omega,show(((x+10*val l).toNat % 10:Nat):Int)=x by omega]
   grind
theorem _Y:∀(l:U Int),m9 (l++[0])=m9 l
 |[]=>by simp[m9]
 |x::l=>by simp[ m9,_Y l]
theorem aao{y:Int}(aE:¬y=0):∀(l:U Int),m9 (l++[y])=l++[y]
 |[]=>by simp[m9,aE]
 |x::l=>by simp[ m9,aao aE l];cases l<;>simp
def DI(m:Bool)(v:Int):nf:=⟨m&&aa (0<v),hK v.toNat⟩
def Aw(z:Int):nf:=DI (aa (z<0)) (z.natAbs:Int)
abbrev kg:ak:=[48,49,50,51,52,53,54,55,56,57,97,98,99,100,101,102]
def wP(n:Nat):ak:=[kg.getD (n / 16) 0,kg.getD (n % 16) 0]
def ql(s:ak):ak:=s.flatMap λb=>wP b.toNat
def ajR(n:Nat):Bool:=a_ (hj .u8 (n:Int) 4) 16&&a_ (ib .u8 (n:Int) 15) 16&&aa ([(eh ((b_ kg (hj .u8 (n:Int) 4)):Int).toNat),(eh ((b_ kg (ib .u8 (n:Int) 15)):Int).toNat)]=wP n)
theorem aBq:((hg 256).all ajR)=true:=bW
theorem ag(b:UInt8):a_ (hj .u8 (b.toNat:Int) 4) 16=ab/\a_ (ib .u8 (b.toNat:Int) 15) 16=ab/\[(eh ((b_ kg (hj .u8 (b.toNat:Int) 4)):Int).toNat),(eh ((b_ kg (ib .u8 (b.toNat:Int) 15)):Int).toNat)]=wP b.toNat:=by have h:=dH.1 aBq b.toNat (List.mem_range.2 b.toNat_lt);simp[ajR]at h;exact⟨h.1.1,h.1.2,h.2⟩
theorem Q2(s:ak):I (ql s)=2*I s:=by induction s with|nil=>rfl|cons b l a=>simp[ql,wP]at a ⊢;omega
def Wq:bn:=⟨26,[(0,.str),(3,.sl .byte ab),(6,.int .i64),(7,.int .i64)],[],[],0,0,0,[],[]⟩
abbrev IC:=ak×U UInt8×Int×Int
def Ai{R:Type}(rec:IC->ae R)(kx:aX->IC->ae R)(v:IC):ae R:=match v with|(v,v1,v2,v3)=>cond (aa (v3<v2)) (ax (a_ v3 (I v)) (ax (a_ (hj .u8 (b_ v v3) 4) 16) (ax (a_ v3 (I v)) (ax (a_ (ib .u8 (b_ v v3) 15) 16) (ax (aa (I v1+2<=bY)) (rec (v,(v1++[(eh ((b_ [48,49,50,51,52,53,54,55,56,57,97,98,99,100,101,102] (hj .u8 (b_ v v3) 4)):Int).toNat),(eh ((b_ [48,49,50,51,52,53,54,55,56,57,97,98,99,100,101,102] (ib .u8 (b_ v v3) 15)):Int).toNat)]),v2,(wr .i64 (v3+1))))))))) (kx (.exit 0) (v,v1,v2,v3))
def ahX(R:Type)(k:Nat):aR R:=bs [] [] [(3,b8 k Wq (Ai))] []
def Wc(k:Nat)(x:aw [.str]):ae (aw [.str]):=match x with
 |s=>aI (λrec=>Ai rec (λe a=>match a with|(_,v5,_,_)=>match e with
  |.exit 0=>J v5
  |_=>aj)) k (s,[],(I s:Int),0)
theorem ap7(k:Nat):aU 182 [.str] [.str] (Wc k):=b6 (px:=ahX _ k) (n:=1) Tryz.func182 rfl (λah H=>by have c:bP ah (ahX (aw [.str]) k):=br H bq bo bp;have a:=cd H c (b:=b0 Tryz.f182 0) (k:=k) (n:=0) (s:=Wq) (step:=Ai) (λ_ _ _ (_,_,_,_)=>by kernel_rfl) aK;exact⟨c,(b9 aK a)⟩) λ_=>by kernel_rfl
def DN(s:ak):ae ak:=cond (aa (I s<=3000)) (J (ql s)) aj
def Sl:bt [.str] [.str]:=λx=>DN x
theorem Vz{R:Type}{kx:aX->IC->ae R}{s:ak}{b:ak->ae R}(d:I s<=3000)(c:∀out j,kx (.exit 0) (s,out,(I s:Int),j)=b out):∀(k i:Nat) (out:ak),i<=I s->I s-i<k->I out<=2*i->aI (λrec=>Ai rec kx) k (s,out,(I s:Int),(i:Int))=b (out++ql (s.drop i))
 |0,i,_,_,h,_=>absurd h (dY _)
 |k+1,i,out,bO,h,bS=>by
  rw[c6];by_cases a:i<I s
  .obtain⟨e,f,g⟩:=ag (s[i]'a);have l:b1 (I s):=iC
   have m:=Vz d c k (i+1) (out++wP (s[i]'a).toNat) af af (by simp[ wP];omega);simp only[Ai,c9 a l,jr a,cg a,e,f,g,m];rw[aH (show(i:Int)<(I s:Int) by omega),aH (show I out+2<=bY by simp[bY];omega),da a];simp only[ax,bd,ql,List.flatMap_cons,hp]
  .simp only[Ai,c];rw[aL (show ¬(i:Int)<(I s:Int) by omega),gn af];simp[ql]
theorem ayP:aU 182 [.str] [.str] Sl:=.fin 0 ap7 λs r al ag=>⟨3001,by
 simp only[Sl,DN]at ag;by_cases a:I s<=3000
 .rw[aH a]at ag;simp only[Wc];exact(Vz (b:=J) a (λ_ _=>rfl) 3001 0 [] (cL _) af (by simp)).trans ag
 .rw[aL a]at ag;cases ag⟩
def sh(d:Int):UInt8:=eh (48+d).toNat
def iA(l:U Int):ak:=(l.map sh).reverse
def wW(n:Int):ak:=let t:=if n=0 then [48]else iA (hK n.natAbs)
 if n<0 then 45::t else t
theorem Yh(d:Int)(l:U Int):iA (d::l)=iA l++[sh d]:=by simp[iA]
theorem aju{d:Int}(h : 0<=d/\d<=9):eh ((wr .u8 (wr .u64 (48+d))):Int).toNat=sh d:=by
 have e:wr .u8 (wr .u64 (48+d))=48+d:=by rw[pN af];simp only[wr,df.wrap,kp];simp;omega
 rw[e];rfl
theorem Dh(l:U Int):I (iA l)=I l:=by simp[iA]
theorem anb(n:Int):iA (hK (n.natAbs / 10))++[sh ((n.natAbs % 10:Nat):Int)]=if n=0 then [48]else iA (hK n.natAbs):=by
 by_cases a:n=0
 .subst a;rw[if_pos rfl,show(0:Int).natAbs / 10=0 from rfl,p8];rfl
 .rw[if_neg a,qK (n:=n.natAbs) af,Yh]
def YQ:bn:=⟨32,[(0,.int .i64),(3,.sl .byte ab),(4,.int .u64)],[],[],0,0,0,[],[]⟩
abbrev Lf:=Int×U UInt8×Int
def A4{R:Type}(rec:Lf->ae R)(kx:aX->Lf->ae R)(v:Lf):ae R:=match v with|(v,v1,v2)=>cond (aa (0<v2)) (ax (aa (1+I v1<=bY)) (rec (v,([(eh ((wr .u8 (wr .u64 (48+(gZ v2 10)))):Int).toNat)]++v1),(wr .u64 (f' v2 10))))) (kx (.exit 0) (v,v1,v2))
def abo(R:Type)(k:Nat):aR R:=bs [(219,ba NB)] [] [(3,b8 k YQ (A4))] []
def YU(k:Nat)(x:aw [an]):ae (aw [.str]):=match x with
 |n=>aI (λrec=>A4 rec (λe a=>match a with|(v3,v4,_)=>match e with
  |.exit 0=>cond (aa (v3<0)) (ax (aa (I [45]+I v4<=c0)) (J ([45]++v4))) (J v4)
  |_=>aj)) k (n,[(eh ((wr .u8 (wr .u64 (48+(gZ (iE n) 10)))):Int).toNat)],(wr .u64 (f' (iE n) 10)))
theorem aq7(k:Nat):aU 180 [an] [.str] (YU k):=b6 (px:=abo _ k) (n:=1) Tryz.func180 rfl (λah H=>by have c:bP ah (abo (aw [.str]) k):=br H (c1 H aeW bq) bo bp;have a:=cd H c (b:=b0 Tryz.f180 0) (k:=k) (n:=0) (s:=YQ) (step:=A4) (λ_ _ _ (_,_,_)=>by kernel_rfl) aK;exact⟨c,(b9 aK a)⟩) λ_=>by kernel_rfl
abbrev MZ(n:Int):ak:=wW n
def PW:bt [an] [.str]:=λx=>J (MZ x)
theorem aC6{n:Int}(h:dc n):iE n=(n.natAbs:Int):=by rw[M9 h];simp[ln];split<;>omega
theorem YL{R:Type}{kx:aX->Lf->ae R}{n:Int}{b:ak->ae R}(c:∀out x,kx (.exit 0) (n,out,x)=b out):∀(k a:Nat) (out:ak),(a:Int)<=18446744073709551615->I (hK a)<k->I out+I (hK a)<=1000->aI (λrec=>A4 rec kx) k (n,out,(a:Int))=b (iA (hK a)++out)
 |0,a,out,_,h,_=>absurd h (dY _)
 |k+1,a,out,c5,h,bS=>by
  rw[c6];by_cases d:a=0
  .subst d;simp only[A4,c];rw[aL af,p8];rfl
  .have ar:=qK d;rw[ar,eo]at h bS;have e:gZ (a:Int) 10=((a % 10:Nat):Int):=rfl;have f:wr .u64 (f' (a:Int) 10)=((a / 10:Nat):Int):=by have:f' (a:Int) 10=((a / 10:Nat):Int):=rfl;rw[this,pN af]
   have g:=YL c k (a / 10) ([sh ((a % 10:Nat):Int)]++out) af af d';simp only[A4,e,f,aju (show 0<=((a % 10:Nat):Int)/\((a % 10:Nat):Int)<=9 by omega),g];rw[aH (show(0:Int)<(a:Int) by omega),aH (show 1+I out<=bY by simp[bY];omega),ar,Yh];simp[ax]
theorem atG:aU 180 [an] [.str] PW:=.fin 0 aq7 λn r al ag=>⟨30,by
 have al:=j6 al;simp only[PW,dN]at ag;subst ag;have f:I (hK (n.natAbs / 10))<=20:=HT 20 _ (by
  simp only[dc]at al;have:yo 20=100000000000000000000:=bW
  omega)
 have c:gZ (n.natAbs:Int) 10=((n.natAbs % 10:Nat):Int):=rfl;have d:wr .u64 (f' (n.natAbs:Int) 10)=((n.natAbs / 10:Nat):Int):=by have:f' (n.natAbs:Int) 10=((n.natAbs / 10:Nat):Int):=rfl;simp only[dc]at al;rw[this,pN af]
 simp only[YU,aC6 al,c,d,aju (show 0<=((n.natAbs % 10:Nat):Int)/\((n.natAbs % 10:Nat):Int)<=9 by omega)];refine(YL (b:=λout=>cond (aa (n<0)) (ax (aa (I [45]+I out<=c0)) (J ([45]++out))) (J out)) (λ_ _=>rfl) 30 (n.natAbs / 10) [sh ((n.natAbs % 10:Nat):Int)] (by simp only[dc]at al;omega) af (by simp only[eo,dB];omega)).trans ?_;have e:=anb n;have a:I (iA (hK (n.natAbs / 10))++[sh ((n.natAbs % 10:Nat):Int)])<=21:=by rw[e7,Dh];simp only[eo,dB];omega
 have ao:aa (I [45]+I (iA (hK (n.natAbs / 10))++[sh ((n.natAbs % 10:Nat):Int)])<=c0)=true:=aH (by simp only[eo,dB,c0];omega);simp only[ao,ax,bd];rw[e];simp only[MZ,wW];by_cases h:n<0
 .rw[aH h,if_pos h];rfl
 .rw[aL h,if_neg h];rfl⟩
def quo:ak->ak|[]=>[]|b::l=>if b=39 then 39::39::quo l else b::quo l
theorem IZ(s:ak):I (quo s)<=2*I s:=by induction s with|nil=>simp[quo]|cons b l a=>simp[quo];split<;>simp<;>omega
theorem XY:∀s:ak,(Lib.index s [39] = -1/\quo s=s)\/∃i:Nat,Lib.index s [39]=(i:Int)/\i<I s/\quo s=s.take i++[39,39]++quo (s.drop (i+1))
 |[]=>.inl ⟨rfl,rfl⟩
 |b::l=>by
  by_cases h:b=39
  .subst h;refine .inr ⟨0,rfl,by simp,by simp[quo]⟩
  .have d:List.isPrefixOf [39] (b::l)=false:=by simp only[List.isPrefixOf,Bool.and_true];exact beq_eq_false_iff_ne.2 (hE h)
   rcases XY l with ⟨a,c⟩|⟨i,a,c,e⟩
   .left;refine⟨?_,by simp[quo,if_neg h,c]⟩;unfold Lib.index;rw[d,a];rfl
   .right;refine⟨i+1,?_,by simpa using c,?_⟩
    .unfold Lib.index;rw[d,a];have:((i:Int) == -1)=false:=beq_eq_false_iff_ne.2 af;simp
    .simp[quo,if_neg h,e]
theorem W1:∀(f:Nat) (s:ak),I s<f->Lib.replaceK [39] [39,39] (Lib.countFrom [39] f s) s=quo s
 |0,s,h=>absurd h (dY _)
 |f+1,s,h=>by
  rcases XY s with ⟨a,b⟩|⟨i,a,b,c⟩
  .simp[Lib.countFrom,a];exact b.symm
  .have g:((i:Int) == -1)=false:=beq_eq_false_iff_ne.2 af;have d:=W1 f (s.drop (i+1)) rM;have e:Lib.countFrom [39] (f+1) s=Lib.countFrom [39] f (s.drop (i+1))+1:=by simp[Lib.countFrom,a];simp[Nat.add_comm]
   rw[e,Lib.replaceK_hit _ _ _ _ i a];simp only[eo,dB];rw[d,c]
theorem aAi(s:ak):Lib.replaceAll s [39] [39,39]=quo s:=by
 have e:Lib.replaceNum s [39] (-1)=Lib.countFrom [39] (I s+1) s:=by unfold Lib.replaceNum;rw[if_pos (.inl dM)];rfl
 have ao:=W1 (I s+1) s af;rw[<-e]at ao;exact ao
theorem asF{s:ak}(h:I s<=3000):Dj s [39] [39,39]=J (quo s):=by have a:Lib.count s [39]*1<=I s:=(Lib.countB_mul_le ⟨#[39]⟩ dM (I s) ⟨s.toArray⟩ (bU _));have b:=IZ s;simp only[Dj,aAi];rw[aH (show I s<4294967281 by omega),aH (show 1<=I ([39]:ak) by decide),aH (show I s+Lib.count s [39]*I ([39,39]:ak)<=140737488355328 by simp;omega),aH (show I (quo s)<=dr by simp[dr];omega)];rfl
def avs(R:Type):aR R:=bs [(152,ba IM),(180,ba PW),(181,ba QG),(182,ba Sl)] [] [] []
def Z3(x:aw [e6]):ae (aw [.str]):=match x with|v=>cond (!(iQ v)) (J []) (cond (aa (v.kind=2)) (ax (a_ v.n 2) (J (at' .str [[70,65,76,83,69],[84,82,85,69]] v.n))) (cond (aa (v.kind=3)) (J (MZ v.n)) (cond (aa (v.kind=4)) ((Dj v.s [39] [39,39]).bind λx=>ax (aa (I [39]+I x<=c0)) (ax (aa (I ([39]++x)+I [39]<=c0)) (J (([39]++x)++[39])))) (cond (aa (v.kind=5)) ((DN v.s).bind λa=>ax (aa (I [120,39]+I a<=c0)) (ax (aa (I ([120,39]++a)+I [39]<=c0)) (J (([120,39]++a)++[39])))) (J [78,85,76,76])))))
theorem ato:aU 111 [e6] [.str] (Z3):=b6 (px:=avs _) (n:=0) Tryz.func111 rfl (λ_ H=>⟨br H (c1 H O6 (c1 H atG (c1 H av9 (c1 H ayP bq)))) bo bp,aK⟩) λ_=>by kernel_rfl
def sb(v:dA):ak:=cond (iQ v) (if v.kind=2 then(if v.n=0 then [70,65,76,83,69]else [84,82,85,69])else if v.kind=3 then wW v.n else if v.kind=4 then 39::(quo v.s++[39])else if v.kind=5 then 120::39::(ql v.s++[39])else [78,85,76,76]) []
def Q3:bt [e6] [.str]:=λx=>J (sb x)
theorem A1{v:dA}(h:iQ v=ab)(a:v.kind=4\/v.kind=5):I v.s<=1000:=by
 rcases a with b|c
 .simp[iQ,b]at h;omega
 .simp[iQ,c]at h;omega
theorem aa6{v:dA}(h:iQ v=ab)(c:v.kind=2):v.n=0\/v.n=1:=by
 by_cases a:v.n=0
 .exact .inl a
 .by_cases b:v.n=1
  .exact .inr b
  .simp[iQ,c,a,b]at h
theorem avT:aU 111 [e6] [.str] Q3:=.er ato λv r _ ag=>by
 simp only[Q3,dN]at ag;subst ag;simp only[Z3,sb];cases e:iQ v with
 |false=>rfl
 |true=>
  simp only[ef,bj,bd];by_cases a:v.kind=2
  .rw[aH a,if_pos a];rcases aa6 e a with h|h<;>rw[h]<;>rfl
  .rw[aL a,if_neg a];by_cases d:v.kind=3
   .rw[aH d,if_pos d];rfl
   .rw[aL d,if_neg d];by_cases b:v.kind=4
    .have f:=A1 e (.inl b);have i:=IZ v.s;rw[aH b,if_pos b];simp only[bd,bj,asF (show I v.s<=3000 by omega),bA];refine(rz (aH ?_)).trans ((rz (aH ?_)).trans rfl)
     .simp only[eo,dB,c0];omega
     .simp only[e7,eo,dB,c0];omega
    .rw[aL b,if_neg b];by_cases c:v.kind=5
     .have f:=A1 e (.inr c);have j:=Q2 v.s;have g:DN v.s=J (ql v.s):=by simp only[DN];rw[aH af];rfl
      rw[aH c,if_pos c];simp only[bd,bj,g,bA];refine(rz (aH ?_)).trans ((rz (aH ?_)).trans rfl)
      .simp only[eo,dB,c0];omega
      .simp only[e7,eo,dB,c0];omega
     .exact CN
def aob(R:Type):aR R:=bs [] [] [] []
def OG(x:aw [an]):ae (aw [an]):=match x with
 |kind=>
 let a:=λ(p1:Bool)=>
  cond (p1) (
  J 0) (
  let j:=λ(b:Bool)=>
   cond (b) (
   J 1) (
   cond (!decide ((lM oP kind)=[])) (
    J 2) (
    J (-1)))
  cond (aa (kind=3)) (
   j ab) (
   cond (aa (kind=15)) (
   j ab) (
   j (aa (kind=16)))))
 cond (aa (kind=1)) (
  a ab) (
  a (aa (kind=2)))
theorem ax6:aU 108 [an] [an] (OG):=b6 (px:=aob _) (n:=0) Tryz.func108 rfl (λ_ H=>⟨br H bq bo bp,aK⟩) λ_=>by kernel_rfl
def parts(kind:Int):Int:=
 let a:=λ(p1:Bool)=>
  cond (p1) (
  0) (
  let j:=λ(b:Bool)=>
   cond (b) (
   1) (
   cond (!decide ((lM oP kind)=[])) (
    2) (
    (-1)))
  cond (aa (kind=3)) (
   j ab) (
   cond (aa (kind=15)) (
   j ab) (
   j (aa (kind=16)))))
 cond (aa (kind=1)) (
  a ab) (
  a (aa (kind=2)))
theorem aue(x:aw [an]):OG x=J (parts x):=by
 first
  |exact rfl
  |simp only[OG,parts,gb]
def M4:bt [an] [an]:=λx=>J (parts x)
theorem aeg:aU 108 [an] [an] M4:=.er ax6 λx _ _ ag=>(aue x).trans ag
mutual
def cm:aq->Nat|.mk _ _ _ l=>1+fc l
def fc:U aq->Nat|[]=>0|x::l=>1+cm x+fc l
end
theorem nH:∀{l:U aq}{x:aq},x∈l->cm x<fc l
 |y::l,x,h=>by
  simp at h;simp[fc];rcases h with rfl|h
  .omega
  .have:=nH h;omega
theorem qz:∀(l:U aq),I l<=fc l
 |[]=>by simp
 |x::l=>by have:=qz l;simp[fc];omega
theorem l2(e:aq) : 0<cm e:=by cases e;simp[cm];omega
theorem l1(e:aq):cm e=1+fc e.l:=by cases e;simp[cm,aq.l]
variable{e:aq}
theorem rn(h:fK e):b1 (I e.l)/\∀x,x∈e.l->fK x:=by obtain⟨_,_,_,_,_,_,_,a,b⟩:=h;exact⟨a,b⟩
theorem aCZ(h:fK e):JS e.v/\dc e.kind/\b1 (I e.name):=by obtain⟨_,_,_,_,a,b,c,_,_⟩:=h;exact⟨b,a,c⟩
def Zd:bn:=⟨19,[(0,.sl .expr ai),(4,.int .i64),(7,.int .i64),(8,.int .i64)],[(1,.fn 209 [.ptr 1 0])],[(1,.cells [an])],80,80,400,[],[]⟩
abbrev LF:=U aq×Int×Int×Int×Int
def Bo{R:Type}(rf:bt [bC,an] [.bool])(rec:LF->ae R)(kx:aX->LF->ae R)(v:LF):ae R:=match v with|(v,v1,v2,v3,w)=>cond (aa (v3<v2)) (ax (a_ v3 (I v)) ((rf ((at' .expr v v3),(wr .i64 (w-1)))).bind λx=>cond (!x) (kx .ret (v,v3,v2,v3,w)) (rec (v,v1,v2,(wr .i64 (v3+1)),w)))) (kx (.exit 0) (v,v1,v2,v3,w))
def akA(R:Type)(mh:Nat)(rf:bt [bC,an] [.bool]):aR R:=bs [(153,ba rf)] [] [] []
noncomputable def Yy(R:Type)(k:Nat)(rf:bt [bC,an] [.bool]):aR R:=bs [(209,ey 120 600 (akA R k rf) Tryz.f209)] [] [(2,b8 k Zd (Bo rf))] []
noncomputable def Zm(R:Type)(k:Nat)(rf:bt [bC,an] [.bool]):aR R:=bs [(215,ey 80 400 (Yy R k rf) Tryz.f215)] [] [] []
noncomputable def abZ(R:Type)(k:Nat)(rf:bt [bC,an] [.bool]):aR R:=bs [(208,ba Qe),(96,ba xK),(173,ey 40 200 (Zm R k rf) Tryz.f173)] [(108,jK M4)] [] []
def AO(k:Nat)(rf:bt [bC,an] [.bool])(x:aw [bC,an]):ae (aw [.bool]):=match x with
 |(e,bH)=>
 cond (aa (bH=0)) (
  J ai) (
  cond (!decide ((I e.l:Int)=(parts e.kind))) (
  J ai) (
  let a:=λ(_:Unit)=>
   let b:=λ(_:Unit)=>
   aI (λrec=>Bo rf rec (λe c=>match c with|(_,v5,_,_,_)=>match e with
    |.ret=>
    J (!(aa (0<=v5)))
    |.exit 0=>
    J ab
    |_=>aj)) k (e.l,0,(I e.l:Int),0,bH)
   let j:=λ(d:Bool)=>
   cond (d) (
    J ai) (
    cond (!decide (e.kind=2)) (
    cond (!decide (e.name=[])) (
     J ai) (
     b ())) (
    b ()))
   cond (aa (e.kind=2)) (
   j (!(eQ e.name))) (
   j ai)
  cond (aa (e.kind=1)) (
   cond (!decide ((j8 e.v)=0)) (
   J ai) (
   cond (aa (e.v.kind=3)) (
    cond (aa (e.v.n<0)) (
    J ai) (
    a ())) (
    a ()))) (
   cond (!decide (e.v=(dA.mk 0 0 []))) (
   J ai) (
   a ()))))
theorem atD(k:Nat)(rf:bt [bC,an] [.bool])(c:aU 153 [bC,an] [.bool] rf):aU 153 [bC,an] [.bool] (AO k rf):=b6 (px:=abZ _ k rf) (n:=0) Tryz.func153 rfl (λah H=>by have e:bP ah (akA (aw [.bool]) k rf):=br H (c1 H c bq) bo bp;have d:bP ah (Yy (aw [.bool]) k rf):=br H (et (eS H e Tryz.func209 rfl (n:=0) (aK)) bq) bo bp;have a:=cd H d (b:=b0 Tryz.f215 0) (k:=k) (n:=0) (s:=Zd) (step:=Bo rf) (λ_ _ _ (_,_,_,_,_)=>by kernel_rfl) aK;have f:bP ah (Zm (aw [.bool]) k rf):=br H (et (eS H d Tryz.func215 rfl (n:=1) (b9 aK a)) bq) bo bp;have g:bP ah (abZ (aw [.bool]) k rf):=br H (c1 H ab9 (c1 H FD (et (eS H f Tryz.func173 rfl (n:=0) (aK)) bq))) (bc H aeg bo) bp;exact⟨g,aK⟩) λ(_,_)=>by kernel_rfl
def n3(k:Int)(v:dA)(a7:ak):Bool:=cond (aa (k=1)) (aa (j8 v=0) && !(aa (v.kind=3)&&aa (v.n<0))) (aa (v=⟨0,0,[]⟩))&&cond (aa (k=2)) (eQ a7) (aa (a7=[]))
mutual
def e4:aq->Int->Bool|.mk k v a7 l,m=> !decide (m=0)&&aa ((I l:Int)=parts k)&&n3 k v a7&&mj l (wr .i64 (m-1))
def mj:U aq->Int->Bool|[],_=>ab|x::l,m=>e4 x m&&mj l m
end
def Fw:bt [bC,an] [.bool]:=λx=>J (e4 x.1 x.2)
theorem _i{R:Type}{rf:bt [bC,an] [.bool]}{kx:aX->LF->ae R}{l:U aq}{m:Int}{a b:ae R}(f:b1 (I l))(d:∀x,x∈l->rf (x,wr .i64 (m-1))=J (e4 x (wr .i64 (m-1))))(g:∀(j:Nat),kx .ret (l,(j:Int),(I l:Int),(j:Int),m)=a)(n:∀q j,kx (.exit 0) (l,q,(I l:Int),j,m)=b):∀(k i:Nat) q,i<=I l->I l-i<k->aI (λrec=>Bo rf rec kx) k (l,q,(I l:Int),(i:Int),m)=cond (mj (l.drop i) (wr .i64 (m-1))) b a
 |0,i,q,_,h=>by omega
 |k+1,i,q,bO,h=>by
  rw[c6];by_cases e:i<I l
  .simp only[Bo,c9 e f,(_i f d g n k (i+1) q af af),g,da e,cR (c:=.expr) e,cg e,mq,mj,d _ (hf e)];rw[if_pos af];cases e4 l[i] (wr .i64 (m-1))<;>rfl
  .simp[Bo,n,mq];exact G0
theorem PV(e:aq)(m:Int):e4 e m=(!decide (m=0)&&aa ((I e.l:Int)=parts e.kind)&&n3 e.kind e.v e.name&&mj e.l (wr .i64 (m-1))):=by cases e;simp[e4];rfl
theorem aa8(k:Nat):∀(n:Nat) (e:aq) (m:Int),fK e->cm e<=n->cm e<=k->aI (AO k) n (e,m)=J (e4 e m)
 |0,e,m,_,h,_=>by have:=l2 e;omega
 |n+1,e,m,al,h,bf=>by
  obtain⟨d,f⟩:=rn al;rw[l1]at h bf;have r:=qz e.l;have g:∀x,x∈e.l->∀m,aI (AO k) n (x,m)=J (e4 x m):=λx ag m=>aa8 k n x m (f x ag) oe oe;have c:=_i (R:=Bool) (rf:=aI (AO k) n) (l:=e.l) (m:=m) (a:=J ai) (b:=J ab) (kx:=λe v=>match v with
   |(_,v5,_,_,_)=>match e with
    |.ret=>J (!(aa (0<=v5)))
    |.exit 0=>J ab
    |_=>aj) d (λx ag=>g x ag _) (λj=>by simp) (λ_ _=>rfl) k 0 0 (cL _) af
  have p:((0:Nat):Int)=0:=rfl;rw[p]at c;rw[c6,PV];simp only[AO]at c ⊢;rw[c];simp only[iW,n3];by_cases hm:m=0
  .simp[hm]
  .rw[aL hm];simp only[bj,kd,jo];by_cases i:(I e.l:Int)=parts e.kind
   .rw[aH i];by_cases o:e.kind=1
    .have q:¬e.kind=2:=af
     rw[aH o,aL q];simp only[bd,bj,kd,ef,jo];cases aa (j8 e.v=0)<;>cases aa (e.v.kind=3)<;>cases aa (e.v.n<0)<;>cases aa (e.name=[])<;>cases mj e.l (wr .i64 (m-1))<;>rfl
    .rw[aL o];simp only[bj,ef,jo];cases aa (e.v=dA.mk 0 0 [])<;>cases aa (e.kind=2)<;>cases aa (e.name=[])<;>cases eQ e.name<;>cases mj e.l (wr .i64 (m-1))<;>rfl
   .rw[aL i];rfl
theorem Ha:aU 153 [bC,an] [.bool] Fw:=by refine .fin (ι:=Nat) 0 (F:=λn=>aI (AO n) n) (λn=>fH.lq (av.enters_of Tryz.func153 rfl rfl) (λrf a=>atD n rf a) n) λ(e,m) r al ag=>⟨cm e,?_⟩;exact(aa8 (cm e) (cm e) e m al.1 (bU _) (bU _)).trans ag
def aqh(R:Type):aR R:=bs [(153,ba Fw)] [] [] []
def Oy(x:aw [bC]):ae (aw [an]):=match x with|e=>cond (!(e4 e 30)) (J 2) (J 0)
theorem auA:aU 91 [bC] [an] (Oy):=b6 (px:=aqh _) (n:=0) Tryz.func91 rfl (λ_ H=>⟨br H (c1 H Ha bq) bo bp,aK⟩) λ_=>by kernel_rfl
def lK(e:aq):Int:=cond (!(e4 e 30)) (2) (0)
theorem aww(x:aw [bC]):Oy x=J (lK x):=by
 first
  |exact rfl
  |simp only[Oy,lK,gb]
def NS:bt [bC] [an]:=λx=>J (lK x)
theorem aeF:aU 91 [bC] [an] NS:=.er auA λx _ _ ag=>(aww x).trans ag
def aaa:bn:=⟨41,[(1,.int .i64),(5,.int .i64),(6,.int .i64)],[(2,.ptr 0 0)],[(0,.one (.bm .expr))],1,0,0,[],[]⟩
abbrev HH:=Int×Int×Int×aq
def zd{R:Type}(rf:bt [bC,an] [an])(rec:HH->ae R)(kx:aX->HH->ae R)(v:HH):ae R:=match v with|(v,v1,v2,w)=>cond (aa (v2<(I w.l:Int))) (cond (aa (v1<v)) (ax (a_ v2 (I w.l)) ((rf ((at' .expr w.l v2),(wr .i64 (v-v1)))).bind λx=>rec (v,(wr .i64 (v1+x)),(wr .i64 (v2+1)),w))) (kx (.exit 0) (v,v1,v2,w))) (kx (.exit 0) (v,v1,v2,w))
def aem(R:Type)(k:Nat)(rf:bt [bC,an] [an]):aR R:=bs [(33,ba rf)] [] [(3,b8 k aaa (zd rf))] []
def EB(k:Nat)(rf:bt [bC,an] [an])(x:aw [bC,an]):ae (aw [an]):=match x with
 |(e,bH)=>aI (λrec=>zd rf rec (λe a=>match a with|(_,v4,_,_)=>match e with
  |.exit 0=>J v4
  |_=>aj)) k (bH,(wr .i64 (1+(wr .i64 (f' (wr .i64 ((I e.v.s:Int)+(I e.name:Int))) 30)))),0,e)
theorem avv(k:Nat)(rf:bt [bC,an] [an])(c:aU 33 [bC,an] [an] rf):aU 33 [bC,an] [an] (EB k rf):=b6 (px:=aem _ k rf) (n:=1) Tryz.func33 rfl (λah H=>by have d:bP ah (aem (aw [an]) k rf):=br H (c1 H c bq) bo bp;have a:=cd H d (b:=b0 Tryz.f33 0) (k:=k) (n:=0) (s:=aaa) (step:=zd rf) (λ_ _ _ (_,_,_,_)=>by kernel_rfl) aK;exact⟨d,(b9 aK a)⟩) λ(_,_)=>by kernel_rfl
mutual
def gO:aq->Int->Int|.mk _ v a7 l,bH=>so l bH (wr .i64 (1+wr .i64 (f' (wr .i64 ((I v.s:Int)+(I a7:Int))) 30)))
def so:U aq->Int->Int->Int|[],_,n=>n|x::l,bH,n=>cond (aa (n<bH)) (so l bH (wr .i64 (n+gO x (wr .i64 (bH-n))))) n
end
def MK:bt [bC,an] [an]:=λx=>J (gO x.1 x.2)
theorem abM{R:Type}{rf:bt [bC,an] [an]}{kx:aX->HH->ae R}{e:aq}{bH:Int}{g:Int->ae R}(f:b1 (I e.l))(a:∀x,x∈e.l->∀m,rf (x,m)=J (gO x m))(d:∀n j,kx (.exit 0) (bH,n,j,e)=g n):∀(k i:Nat) n,i<=I e.l->I e.l-i<k->aI (λrec=>zd rf rec kx) k (bH,n,(i:Int),e)=g (so (e.l.drop i) bH n)
 |0,i,n,_,h=>by omega
 |k+1,i,n,bO,h=>by
  rw[c6];by_cases b:i<I e.l
  .simp only[zd,c9 b f,(λn=>abM f a d k (i+1) n af af),d,da b,cR (c:=.expr) b,cg b,mq,so,a _ (hf b)];rw[if_pos af];split<;>rfl
  .simp[zd,d,mq];exact G0
theorem X1(k:Nat):∀(n:Nat) (e:aq) (m:Int),fK e->cm e<=n->cm e<=k->aI (EB k) n (e,m)=J (gO e m)
 |0,e,m,_,h,_=>by have:=l2 e;omega
 |n+1,.mk Cv v a7 l,m,al,h,bf=>by
  obtain⟨_,_,_,_,d,f,i,a,b⟩:=al;simp[cm]at h bf;have j:=qz l;have c:∀x,x∈l->∀m,aI (EB k) n (x,m)=J (gO x m):=λx ag m=>X1 k n x m (b x ag) oe oe;rw[c6];simp[EB];refine(abM (e:=.mk Cv v a7 l) (g:=J) a c ?_ k 0 _ (cL _) (by simp[aq.l];omega)).trans ?_
  .exactλ_ _=>rfl
  .simp[gO,aq.l,aq.v,aq.name]
theorem Yk:aU 33 [bC,an] [an] MK:=by refine .fin (ι:=Nat) 0 (F:=λn=>aI (EB n) n) (λn=>fH.lq (av.enters_of Tryz.func33 rfl rfl) (λrf a=>avv n rf a) n) λ(e,m) r al ag=>⟨cm e,?_⟩;exact(X1 (cm e) (cm e) e m al.1 (bU _) (bU _)).trans ag
mutual
def ld:aq->aq->Bool|.mk k v n l,.mk fg Mt mS aC=>aa (k=fg)&&aa (v=Mt)&&aa (n=mS)&&lz l aC
def lz:U aq->U aq->Bool|[],[]=>ab|x::l,y::m=>ld x y&&lz l m|_,_=>ai
end
mutual
theorem PU:∀a b:aq,ld a b=ab↔a=b
 |.mk k v n l,.mk fg Mt mS aC=>by
  simp only[ld,bN,fQ,Vt l aC,aq.mk.injEq];constructor
  .rintro⟨⟨⟨c,d⟩,e⟩,f⟩;exact⟨c,d,e,f⟩
  .rintro⟨c,d,e,f⟩;exact⟨⟨⟨c,d⟩,e⟩,f⟩
theorem Vt:∀a b:U aq,lz a b=ab↔a=b
 |[],[]=>by simp[lz]
 |x::l,y::m=>by simp only[lz,bN,PU x y,Vt l m,mL]
 |[],_::_=>by simp[lz]
 |_::_,[]=>by simp[lz]
end
instance:DecidableEq aq:=λa b=>decidable_of_iff (ld a b=ab) (PU a b)
theorem xl(a b:aq):ld a b=aa (a=b):=by rw[Bool.eq_iff_iff,PU,fQ]
theorem aaY{a b:U aq}(h:lz a b=ab):I a=I b:=by rw[(Vt a b).1 h]
theorem ad6(a b:aq):ld a b=(aa (a.kind=b.kind)&&aa (a.v=b.v)&&aa (a.name=b.name)&&lz a.l b.l):=by cases a;cases b;simp[ld];rfl
def abE:bn:=⟨32,[(1,.sl .expr ai),(6,.bool),(15,.sl .expr ai),(16,.int .i64),(17,.int .i64)],[(2,.fn 164 [])],[],40,40,200,[],[]⟩
abbrev G8:=U aq×Bool×U aq×Int×Int
def B0{R:Type}(rf:bt [bC,bC] [.bool])(rec:G8->ae R)(kx:aX->G8->ae R)(v:G8):ae R:=match v with|(v,v1,v2,v3,v4)=>cond (aa (v4<v3)) (ax (a_ v4 (I v2)) (ax (a_ v4 (I v)) ((rf ((at' .expr v2 v4),(at' .expr v v4))).bind λx=>cond (!x) (kx .ret (v,ai,v2,v3,v4)) (rec (v,v1,v2,v3,(wr .i64 (v4+1))))))) (kx (.exit 0) (v,v1,v2,v3,v4))
def abD(R:Type)(k:Nat)(rf:bt [bC,bC] [.bool]):aR R:=bs [(164,ba rf)] [] [(4,b8 k abE (B0 rf))] []
noncomputable def aed(R:Type)(k:Nat)(rf:bt [bC,bC] [.bool]):aR R:=bs [(168,ey 40 200 (abD R k rf) Tryz.f168)] [] [] []
def AV(k:Nat)(rf:bt [bC,bC] [.bool])(x:aw [bC,bC]):ae (aw [.bool]):=match x with
 |(a,b)=>
 let c:=λ(p:Bool)=>
  let j:=λ(p1:Bool)=>
  cond (p1) (
   cond (!decide ((I a.l:Int)=(I b.l:Int))) (
   J ai) (
   aI (λrec=>B0 rf rec (λe d=>match d with|(_,v6,_,_,_)=>match e with
    |.ret=>
    J v6
    |.exit 0=>
    J ab
    |_=>aj)) k (b.l,ai,a.l,(I a.l:Int),0))) (
   J ai)
  cond (p) (
  j (aa (a.name=b.name))) (
  j ai)
 cond (aa (a.kind=b.kind)) (
  c (aa (a.v=b.v))) (
  c ai)
theorem axr(k:Nat)(rf:bt [bC,bC] [.bool])(c:aU 164 [bC,bC] [.bool] rf):aU 164 [bC,bC] [.bool] (AV k rf):=b6 (px:=aed _ k rf) (n:=0) Tryz.func164 rfl (λah H=>by have d:bP ah (abD (aw [.bool]) k rf):=br H (c1 H c bq) bo bp;have a:=cd H d (b:=b0 Tryz.f168 0) (k:=k) (n:=0) (s:=abE) (step:=B0 rf) (λ_ _ _ (_,_,_,_,_)=>by kernel_rfl) aK;have e:bP ah (aed (aw [.bool]) k rf):=br H (et (eS H d Tryz.func168 rfl (n:=1) (b9 aK a)) bq) bo bp;exact⟨e,aK⟩) λ(_,_)=>by kernel_rfl
def q0(a b:aq):Bool:=ld a b
def zf:bt [bC,bC] [.bool]:=λx=>J (q0 x.1 x.2)
variable{R:Type}{c:Bool->ae R}
theorem ar3{rf:bt [bC,bC] [.bool]}{kx:aX->G8->ae R}{l m:U aq}(e:b1 (I l))(hm:I l=I m)(d:∀x,x∈l->∀y,y∈m->rf (x,y)=J (ld x y))
  (f:∀i,kx .ret (m,ai,l,(I l:Int),i)=c ai) (g:∀q i,kx (.exit 0) (m,q,l,(I l:Int),i)=c ab) (k:Nat) (j:I l<k):aI (λrec=>B0 rf rec kx) k (m,ai,l,(I l:Int),0)=c (lz l m):=by
 refine(hV (I l) (λi=>(m,ai,l,(I l:Int),(i:Int))) (λi=>c (lz (l.drop i) (m.drop i))) (λi b rec h=>?_) (λrec=>?_) k 0 (cL _) af).trans qs
 .have a:i<I m:=af
  simp only[B0,ea b,cg b,cg a,cR (c:=.expr) b,cR (c:=.expr) a,d _ (hf b) _ (hf a),c9 b e,h,f,da b,da a,lz];cases ld l[i] m[i]<;>rfl
 .simp only[B0,eu,g];exact sU
theorem ab1(k:Nat):∀(n:Nat) (a b:aq),fK a->fK b->cm a<=n->cm a<=k->aI (AV k) n (a,b)=J (ld a b)
 |0,a,b,_,_,h,_=>by have:=l2 a;omega
 |n+1,a,b,c5,al,h,bf=>by
  obtain⟨g,i⟩:=rn c5;obtain⟨q,j⟩:=rn al;rw[l1]at h bf;have s:=qz a.l;have o:∀x,x∈a.l->∀y,y∈b.l->aI (AV k) n (x,y)=J (ld x y):=λx ag y aE=>ab1 k n x y (i x ag) (j y aE) oe oe;rw[c6,ad6];simp only[AV];by_cases d:I a.l=I b.l
  .have f:=ar3 (R:=Bool) (rf:=aI (AV k) n) (l:=a.l) (m:=b.l) (c:=J) (kx:=λe v=>match v with
    |(_,v6,_,_,_)=>match e with
     |.ret=>J v6
     |.exit 0=>J ab
     |_=>aj) g d o (λ_=>rfl) (λ_ _=>rfl) k af
   rw[f,aH (show(I a.l:Int)=(I b.l:Int) by omega)];exact adu
  .have p:lz a.l b.l=false:=by cases r:lz a.l b.l with|false=>rfl|true=>exact absurd (aaY r) d
   rw[p,aL (show ¬(I a.l:Int)=(I b.l:Int) by omega)];exact adz
theorem FG:aU 164 [bC,bC] [.bool] zf:=by refine .fin (ι:=Nat) 0 (F:=λn=>aI (AV n) n) (λn=>fH.lq (av.enters_of Tryz.func164 rfl rfl) (λrf c=>axr n rf c) n) λ(a,b) r al ag=>⟨cm a,?_⟩;exact(ab1 (cm a) (cm a) a b al.1 al.2 (bU _) (bU _)).trans ag
def aaN:bn:=⟨53,[(4,.bool),(5,.int .i64)],[(2,.ptr 0 0),(3,.ptr 1 0)],[(0,.one (.bm .expr)),(1,.one (.bm .expr))],2,0,0,[],[]⟩
abbrev G_:=Bool×Int×aq×aq
def zt{R:Type}(rf:bt [bC,bC] [.bool])(rec:G_->ae R)(kx:aX->G_->ae R)(v:G_):ae R:=match v with|(v,v1,w,w1)=>cond (aa (v1<(I w.l:Int))) (ax (a_ v1 (I w.l)) (ax (a_ v1 (I w1.l)) ((rf ((at' .expr w.l v1),(at' .expr w1.l v1))).bind λx=>cond (!x) (kx .ret (ai,v1,w,w1)) (rec (v,(wr .i64 (v1+1)),w,w1))))) (kx (.exit 0) (v,v1,w,w1))
def aeq(R:Type)(k:Nat)(rf:bt [bC,bC] [.bool]):aR R:=bs [(86,ba rf)] [] [(4,b8 k aaN (zt rf))] []
def AR(k:Nat)(rf:bt [bC,bC] [.bool])(x:aw [bC,bC]):ae (aw [.bool]):=match x with
 |(a,b)=>
 let j:=λ(p:Bool)=>
  cond (p) (
  J ai) (
  cond (!decide (a.name=b.name)) (
   J ai) (
   cond (!decide ((I a.l:Int)=(I b.l:Int))) (
   J ai) (
   aI (λrec=>zt rf rec (λe c=>match c with|(v2,_,_,_)=>match e with
    |.ret=>
    J v2
    |.exit 0=>
    J ab
    |_=>aj)) k (ai,0,a,b))))
 cond (!decide (a.kind=b.kind)) (
  j ab) (
  j (!decide (a.v=b.v)))
theorem avX(k:Nat)(rf:bt [bC,bC] [.bool])(c:aU 86 [bC,bC] [.bool] rf):aU 86 [bC,bC] [.bool] (AR k rf):=b6 (px:=aeq _ k rf) (n:=1) Tryz.func86 rfl (λah H=>by have d:bP ah (aeq (aw [.bool]) k rf):=br H (c1 H c bq) bo bp;have a:=cd H d (b:=b0 Tryz.f86 0) (k:=k) (n:=0) (s:=aaN) (step:=zt rf) (λ_ _ _ (_,_,_,_)=>by kernel_rfl) aK;exact⟨d,(b9 aK a)⟩) λ(_,_)=>by kernel_rfl
def yU(a b:aq):Bool:=ld a b
def No:bt [bC,bC] [.bool]:=λx=>J (yU x.1 x.2)
theorem atv{rf:bt [bC,bC] [.bool]}{kx:aX->G_->ae R}{a b:aq}(g:b1 (I a.l))(hm:I a.l=I b.l)(f:∀x,x∈a.l->∀y,y∈b.l->rf (x,y)=J (ld x y))
  (h:∀i,kx .ret (ai,i,a,b)=c ai) (j:∀q i,kx (.exit 0) (q,i,a,b)=c ab) (k:Nat) (n:I a.l<k):aI (λrec=>zt rf rec kx) k (ai,0,a,b)=c (lz a.l b.l):=by
 refine(hV (I a.l) (λi=>(ai,(i:Int),a,b)) (λi=>c (lz (a.l.drop i) (b.l.drop i))) (λi e rec m=>?_) (λrec=>?_) k 0 (cL _) af).trans qs
 .have d:i<I b.l:=af
  simp only[zt,ea e,cg e,cg d,cR (c:=.expr) e,cR (c:=.expr) d,f _ (hf e) _ (hf d),c9 e g,m,h,da e,da d,lz];cases ld a.l[i] b.l[i]<;>rfl
 .simp only[zt,eu,j];exact sU
theorem X6(k:Nat):∀(n:Nat) (a b:aq),fK a->fK b->cm a<=n->cm a<=k->aI (AR k) n (a,b)=J (ld a b)
 |0,a,b,_,_,h,_=>by have:=l2 a;omega
 |n+1,a,b,c5,al,h,bf=>by
  obtain⟨g,i⟩:=rn c5;obtain⟨p,j⟩:=rn al;rw[l1]at h bf;have r:=qz a.l;have m:∀x,x∈a.l->∀y,y∈b.l->aI (AR k) n (x,y)=J (ld x y):=λx ag y aE=>X6 k n x y (i x ag) (j y aE) oe oe;rw[c6,ad6];simp only[AR];by_cases d:I a.l=I b.l
  .have f:=atv (R:=Bool) (rf:=aI (AR k) n) (a:=a) (b:=b) (c:=J) (kx:=λe v=>match v with
    |(v2,_,_,_)=>match e with
     |.ret=>J v2
     |.exit 0=>J ab
     |_=>aj) g d m (λ_=>rfl) (λ_ _=>rfl) k af
   rw[f,aH (show(I a.l:Int)=(I b.l:Int) by omega)];exact adu
  .have o:lz a.l b.l=false:=by cases q:lz a.l b.l with|false=>rfl|true=>exact absurd (aaY q) d
   rw[o,aL (show ¬(I a.l:Int)=(I b.l:Int) by omega)];exact adz
theorem aeJ:aU 86 [bC,bC] [.bool] No:=by refine .fin (ι:=Nat) 0 (F:=λn=>aI (AR n) n) (λn=>fH.lq (av.enters_of Tryz.func86 rfl rfl) (λrf c=>avX n rf c) n) λ(a,b) r al ag=>⟨cm a,?_⟩;exact(X6 (cm a) (cm a) a b al.1 al.2 (bU _) (bU _)).trans ag
end Go.Proofs.YtdelkmpkjibigaaGreatDoor
