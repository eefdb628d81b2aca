/- Texts of the proof,one behind the other: AxRn,Pf,Lo,Qa,Qb,Qc,Qd,Qe,Qy,Yf,Qz,Qx,Tw,Pa,Lc,Na,Lm,Ar,Shp,Sr,Dg. -/
import Derived.Test.YthndhaolemgbdaaGreatDoorW3
import Derived.KernelRfl
import Derived.Test.YthndhaolemgbdaaGreatDoorProg
import Derived.Lib.Bytealg
import Derived.Shelf.Strings.Replace
set_option linter.all false
namespace Go.Ax
structure Hx (P:Program) (el:Ck->TypeId) (gl:Nat->Option Gv) (tt:Nat->Ty) (cx:Cx):Prop where
 p:cx.P=P
 e:cx.el=el
 g:cx.gl=gl
 t:∀t,Ds P el tt t=true
 m:P.follows .mixedOrders=true
structure Lv {R:Type}(cx:Cx) (px:Px R):Prop where
 p:PxOk cx px
 c:Gb cx px
 q:CallQOk cx px
section
variable {R:Type}{P:Program}{el:Ck->TypeId}{gl:Nat->Option Gv}{tt:Nat->Ty}{cx:Cx}
theorem lv{px:Px R}{l:List (Nat×Mh R)}{lq:List (Nat×Lt R)}{lw:List (Nat×X9 R)}(H:Hx P el gl tt cx)(h:∀g f,(g,f)∈l->Oh cx g f)(hq:∀g f,(g,f)∈lq->Aaw cx g f)(hw:∀g f,(g,f)∈lw->Nt cx g f)(h1:px.tt=tt:=by rfl)(h2:px.gl=gl:=by rfl)(h3:px.call=A5z l:=by rfl)(h4:px.callQ=Art lq:=by rfl)(h5:px.callW=tbl lw:=by rfl):Lv cx px :=⟨⟨λt=>by rw[h1,H.p,H.e];exact H.t t,by rw[h2,H.g]⟩,Bcn h3 h,A95 h4 h5 hq hw⟩
theorem cO(H:Hx P el gl tt cx){g:Nat}{sa sr:List Sg}{F:HV sa->Option (HV sr)}(h:FnOk P el gl g sa sr F)(hsa:F5 (Bl 0 sa) []=true:=by kernel_rfl):Oh (R:=R) cx g (Acn sa sr F):=Bpr (by rw[H.p,H.e,H.g];exact h) hsa
theorem cL(H:Hx P el gl tt cx){g:Nat}{sg so:Sig}{F:FL sg so}(h:FnLn P el gl g sg so F)(hok:lnB sg so=true:=by kernel_rfl):Oh (R:=R) cx g (Aj sg so F):=Bqx (by rw[H.p,H.e,H.g];exact h) hok
theorem cR(H:Hx P el gl tt cx){nb nt:Nat}{pc:Px R}{g:Nat}{fn:Func}{c:Code}{n:Nat}(h:Lv cx pc)(hf:P.funcs[g]? = some fn)(hb:fn.body=some c)(hl:∀i,i<n->Dh cx pc (lp fn i))(hname:(fn.name == "runtime.NumGoroutine")=false:=by kernel_rfl)(hcode:Tc fn=true:=by kernel_rfl)(hn:Nm fn=n:=by kernel_rfl):Oh cx g (Az nb nt pc fn):=Bni h.p h.c h.q (by rw[H.p];exact H.m) (by rw[H.p];exact hf) hb hname hcode hn hl
theorem c1(H:Hx P el gl tt cx){g:Nat}{sa sr:List Sg}{F:HV sa->Option (HV sr)}{l:List (Nat×Mh R)}(h:FnOk P el gl g sa sr F)(hl:∀g f,(g,f)∈l->Oh cx g f)(hsa:F5 (Bl 0 sa) []=true:=by kernel_rfl):∀g' f',(g',f')∈(g,Acn sa sr F)::l->Oh cx g' f':=Au (cO H h hsa) hl
theorem l1(H:Hx P el gl tt cx){g:Nat}{sg so:Sig}{F:FL sg so}{l:List (Nat×Mh R)}(h:FnLn P el gl g sg so F)(hl:∀g f,(g,f)∈l->Oh cx g f)(hok:lnB sg so=true:=by kernel_rfl):∀g' f',(g',f')∈(g,Aj sg so F)::l->Oh cx g' f':=Au (cL H h hok) hl
theorem q1(H:Hx P el gl tt cx){g:Nat}{sa sr:List Sg}{F:HV sa->Option (HV sr)}{l:List (Nat×Lt R)}(h:FnOk P el gl g sa sr F)(hl:∀g f,(g,f)∈l->Aaw cx g f)(hsa:F5 (Bl 0 sa) []=true:=by kernel_rfl):∀g' f',(g',f')∈(g,Abx sa sr F)::l->Aaw cx g' f':=Ba0 (Bo3 (by rw[H.p,H.e,H.g];exact h) hsa) hl
theorem w1(H:Hx P el gl tt cx){g:Nat}{sg so:Sig}{F:HV sg.sgs->Option (HV so.sgs)}{l:List (Nat×X9 R)}(h:FnLn P el gl g sg so F)(hl:∀g f,(g,f)∈l->Nt cx g f)(hok:lnB sg so=true:=by kernel_rfl):∀g' f',(g',f')∈(g,Ee sg so F)::l->Nt cx g' f':=A6u (Bpj (by rw[H.p,H.e,H.g];exact h) hok) hl
theorem lO{px:Px R}(H:Hx P el gl tt cx)(h:Lv cx px){b:Code}{k n:Nat}{s:Sig}{step:Au5 (HV s.sgs) R}(hround:∀fr rec kx v,Abd px s b fr rec kx v=step rec kx v)(hin:∀i,i<n->Dh cx px (lpC b i))(hpx:∀st K,px.loop b st K=Aq k s step st K:=by exactλ_ _=>by kernel_rfl)(hs:Abg s=true:=by kernel_rfl)(hn:(Bu b).length=n:=by kernel_rfl):Dh cx px b:=Biy h.p h.c h.q (by rw[H.p];exact H.m) hpx hs hround (Ob hn hin)
theorem fO{f:FuncId}{fn:Func}{c:Code}{sa sr:List Sg}{px:Px (HV sr)}{F:FT sa sr}{n:Nat}(ht:∀t,Ds P el tt t=true)(hm:P.follows .mixedOrders=true)(hf:P.funcs[f]? = some fn)(hb:fn.body=some c)(hname:(fn.name == "runtime.NumGoroutine")=false)(hchk:(Tc fn&&Nat.ble sa.length fn.ntmps&&F5 (Bl 0 sa) [])=true)(hn:Nm fn=n)
  (h:∀cx,Hx P el gl tt cx->Lv cx px/\∀i,i<n->Dh cx px (lp fn i)) (hF:∀x,Bds px fn sa sr x some=F x):FnOk P el gl f sa sr F :=
 Bdl hf hb hname hm hchk hn (λcx a b c=>by obtain⟨h1,h2⟩:=h cx ⟨a,b,c,ht,hm⟩;exact⟨h1.p,h1.c,h1.q,h2⟩) hF
theorem fL{f:FuncId}{fn:Func}{c:Code}{sg so:Sig}{px:Px (HV so.sgs)}{F:FL sg so}{n:Nat}(ht:∀t,Ds P el tt t=true)(hm:P.follows .mixedOrders=true)(hf:P.funcs[f]? = some fn)(hb:fn.body=some c)(hname:(fn.name == "runtime.NumGoroutine")=false)(hchk:(Tc fn&&Nat.ble sg.n fn.ntmps)=true)(hn:Nm fn=n)
  (h:∀cx,Hx P el gl tt cx->Lv cx px/\∀i,i<n->Dh cx px (lp fn i)) (hF:∀x,Att px fn sg so x some=F x):FnLn P el gl f sg so F :=
 Be6 hf hb hname hm hchk hn (λcx a b c=>by obtain⟨h1,h2⟩:=h cx ⟨a,b,c,ht,hm⟩;exact⟨h1.p,h1.c,h1.q,h2⟩) hF
end
theorem Cg{s:Str}{i:Nat}(h:i<s.length):bat s (i:Int)=((s[i]'h).toNat:Int):=by simp[bat,List.getD_eq_getElem?_getD,h]
theorem Bb{c:Ck}{xs:List (El c)}{i:Nat}(h:i<xs.length):at' c xs (i:Int)=xs[i]'h:=by simp[at',List.getD_eq_getElem?_getD,h]
theorem A0{i n:Nat}(h:i<n)(hn:ln n):wr .i64 ((i:Int)+1)=((i+1:Nat):Int):=by rw[Bi (by simp only[ln,inI] at *;omega)];rfl
theorem As{α:Type}{l:List α}{i:Nat}(h:i<l.length):l.drop i=l[i]'h::l.drop (i+1):=List.drop_eq_getElem_cons h
theorem A7{i n:Nat}(h:i<n):inb (i:Int) n=true:=by simp[Bjv,h]
theorem A3{V R:Type}{step:(V->Option R)->V->Option R}{k:Nat}{v:V}:Al step (k+1) v=step (Al step k) v:=rfl
theorem Ae{α:Type}{a b : α}:cond true a b=a:=rfl
theorem Ah{α:Type}{a b : α}:cond false a b=b:=rfl
theorem Bm{α:Type}{c:Bool}{a b : α}:cond c (some a) (some b)=some (cond c a b):=by cases c<;>rfl
theorem J5{V R β:Type}{step:(V->Option R)->V->Option R}(n:Nat)(st:Nat->β->V)(Inv:Nat->β->Prop)(F:Nat->β->Option R)
  (hs:∀i,i<n->∀a,Inv i a->∀rec,(∀a',Inv (i+1) a'->rec (st (i+1) a')=F (i+1) a')->step rec (st i a)=F i a)
  (he:∀a,Inv n a->∀rec,step rec (st n a)=F n a):∀(k i:Nat) (a : β),i<=n->n-i<k->Inv i a->Al step k (st i a)=F i a
 |0,_,_,_,h,_=>absurd h (Zm1 _)
 |k+1,i,a,hi,h,ha=>by
  rw[A3];by_cases hl:i<n
  ·exact hs i hl a ha _ λa' ha'=>J5 n st Inv F hs he k (i+1) a' (by omega) (by omega) ha'
  ·obtain rfl:i=n:=by omega
   exact he a ha _
theorem Dz{V R:Type}{step:(V->Option R)->V->Option R}(n:Nat)(st:Nat->V)(F:Nat->Option R)
  (hs:∀i,i<n->∀rec,rec (st (i+1))=F (i+1)->step rec (st i)=F i) (he:∀rec,step rec (st n)=F n):∀(k i:Nat),i<=n->n-i<k->Al step k (st i)=F i:=λk i hi hk =>
 J5 n (λi (_:Unit)=>st i) (λ_ _=>True) (λi _=>F i) (λi hi _ _ rec h=>hs i hi rec (h () trivial)) (λ_ _ rec=>he rec) k i () hi hk trivial
theorem He{i n:Nat}(h:i<n):decide ((i:Int)<(n:Int))=true:=Ze1 (by omega)
theorem G7(n:Nat):decide ((n:Int)<(n:Int))=false:=Zd1 (by omega)
def Mf(e:Xpr):Xpr:=Xpr.mk e.kind ⟨e.v.kind,e.v.n,e.v.s⟩ e.name e.l
theorem Jo(e:Xpr):Mf e=e:=by cases e;rfl
end Go.Ax
namespace Go.Proofs.YthndhaolemgbdaaGreatDoor
open Go.Ax
abbrev TL:=List Tok
abbrev PR(α:Type):=Except TL (α×TL)
def isT(s:Str):TL->Bool
 |t::_=>(decide (t.kind=1)||decide (t.kind=6))&&decide (t.s=s)
 |[]=>false
def mkX(k:Int)(l:List Xpr):Xpr :=.mk k ⟨0,0,[]⟩ [] l
def R1(k n:Int)(s:Str):Xpr :=.mk 1 ⟨k,n,s⟩ [] []
def Eg:Str:=[78,79,84]
def sIS:Str:=[73,83]
def B5:Str:=[78,85,76,76]
def R7:Str:=[84,82,85,69]
def Kc:Str:=[70,65,76,83,69]
def Al8:Str:=[65,78,68]
def sOR:Str:=[79,82]
def Co{α:Type}(p:TL->PR α):Prop:=∀l e l',p l = .ok (e,l')->l'.length<l.length
def Bg(rec:TL->PR Xpr)(l:TL):PR Xpr:=match l with
 |[] =>.error []
 |t::r =>
  if t.kind=2 then .ok (.mk 2 ⟨0,0,[]⟩ t.s [],r)
  else if t.kind=3 then .ok (R1 3 t.n [],r)
  else if t.kind=4 then .ok (R1 4 0 t.s,r)
  else if t.kind=5 then .ok (R1 5 0 t.s,r)
  else if t.kind=1/\t.s=R7 then .ok (R1 2 1 [],r)
  else if t.kind=1/\t.s=Kc then .ok (R1 2 0 [],r)
  else if t.kind=1/\t.s=B5 then .ok (R1 1 0 [],r)
  else if isT [40] (t::r) then match rec r with|.error q =>.error q|.ok (e,l')=>if isT [41] l' then .ok (e,l'.tail) else .error l'
  else .error (t::r)
def Bv(part:TL->PR Xpr)(sg:List (Str×Int)):Nat->Xpr->TL->PR Xpr
 |0,_,l =>.error l
 |n+1,e,l=>match sg.find? (λp=>isT p.1 l) with
  |none =>.ok (e,l)
  |some p=>match part l.tail with|.error q =>.error q|.ok (x,l')=>Bv part sg n (mkX p.2 [e,x]) l'
def Cp(part:TL->PR Xpr)(sg:List (Str×Int))(l:TL):PR Xpr:=match part l with|.error q =>.error q|.ok (e,l')=>Bv part sg (l'.length+1) e l'
def A8(s:Str)(k:Int)(part:TL->PR Xpr):TL->PR Xpr
 |[]=>part []
 |t::r=>match isT s (t::r) with
  |true=>match A8 s k part r with|.error q =>.error q|.ok (e,l') =>.ok (mkX k [e],l')
  |false=>part (t::r)
def cmpS:List (Str×Int):=[([61],6),([60,62],7),([60],8),([60,61],9),([62],10),([62,61],11)]
def isP(e:Xpr)(l:TL):PR Xpr:=match isT Eg l.tail with
 |true=>match isT B5 l.tail.tail with|true =>.ok (mkX 3 [mkX 16 [e]],l.tail.tail.tail)|false =>.error l.tail.tail
 |false=>match isT B5 l.tail with|true =>.ok (mkX 16 [e],l.tail.tail)|false =>.error l.tail
def Rs(sum:TL->PR Xpr)(l:TL):PR Xpr:=match sum l with
 |.error q =>.error q
 |.ok (e,l')=>match cmpS.find? (λp=>isT p.1 l') with
  |some p=>match sum l'.tail with|.error q =>.error q|.ok (x,l2) =>.ok (mkX p.2 [e,x],l2)
  |none=>match isT sIS l' with|true=>isP e l'|false =>.ok (e,l')
def lev(rec:TL->PR Xpr):Nat->TL->PR Xpr
 |1=>Cp (Cp (A8 Eg 3 (Rs (Cp (Cp (A8 [45] 15 (Bg rec)) [([42],14)]) [([43],12),([45],13)]))) [(Al8,4)]) [(sOR,5)]
 |2=>Cp (A8 Eg 3 (Rs (Cp (Cp (A8 [45] 15 (Bg rec)) [([42],14)]) [([43],12),([45],13)]))) [(Al8,4)]
 |3=>A8 Eg 3 (Rs (Cp (Cp (A8 [45] 15 (Bg rec)) [([42],14)]) [([43],12),([45],13)]))
 |4=>Rs (Cp (Cp (A8 [45] 15 (Bg rec)) [([42],14)]) [([43],12),([45],13)])
 |5=>Cp (Cp (A8 [45] 15 (Bg rec)) [([42],14)]) [([43],12),([45],13)]
 |6=>Cp (A8 [45] 15 (Bg rec)) [([42],14)]
 |_=>A8 [45] 15 (Bg rec)
def orN:Nat->TL->PR Xpr
 |0,l =>.error l
 |n+1,l=>lev (orN n) 1 l
def orW(l:TL):PR Xpr:=orN (l.length+1) l
theorem Fq{s:Str}{l:TL}(h:isT s l=true):l.tail.length+1=l.length:=by cases l with|nil=>cases h|cons t r=>rfl
theorem A2(l:TL):l.tail.length<=l.length:=by cases l<;>simp
theorem X7{rec:TL->PR Xpr}(hr:Co rec):Co (Bg rec):=λl e l' h=>by
 cases l with
 |nil=>cases h
 |cons t r =>
  simp only[Bg] at h;simp only[Zf1];by_cases k2:t.kind=2
  ·rw[if_pos k2] at h;injection h with h;injection h with _ h;rw[<-h];omega
  rw[if_neg k2] at h;by_cases k3:t.kind=3
  ·rw[if_pos k3] at h;injection h with h;injection h with _ h;rw[<-h];omega
  rw[if_neg k3] at h;by_cases k4:t.kind=4
  ·rw[if_pos k4] at h;injection h with h;injection h with _ h;rw[<-h];omega
  rw[if_neg k4] at h;by_cases k5:t.kind=5
  ·rw[if_pos k5] at h;injection h with h;injection h with _ h;rw[<-h];omega
  rw[if_neg k5] at h;by_cases k6:t.kind=1/\t.s=R7
  ·rw[if_pos k6] at h;injection h with h;injection h with _ h;rw[<-h];omega
  rw[if_neg k6] at h;by_cases k7:t.kind=1/\t.s=Kc
  ·rw[if_pos k7] at h;injection h with h;injection h with _ h;rw[<-h];omega
  rw[if_neg k7] at h;by_cases k8:t.kind=1/\t.s=B5
  ·rw[if_pos k8] at h;injection h with h;injection h with _ h;rw[<-h];omega
  rw[if_neg k8] at h;by_cases k9:isT [40] (t::r)=true
  ·rw[if_pos k9] at h;cases hq:rec r with
   |error q=>rw[hq] at h;cases h
   |ok x =>
    obtain⟨e1,m⟩:=x;rw[hq] at h;have h1:=hr _ _ _ hq;have h2:=A2 m;by_cases k10:isT [41] m=true
    ·simp only[if_pos k10] at h;injection h with h;injection h with _ h;rw[<-h];omega
    ·simp only[if_neg k10] at h;cases h
  ·rw[if_neg k9] at h;cases h
theorem Vd{sg:List (Str×Int)}{l:TL}{p:Str×Int}(h:sg.find? (λp=>isT p.1 l)=some p):isT p.1 l=true:=by simpa using List.find?_some h
theorem A48{part:TL->PR Xpr}{sg:List (Str×Int)}(hp:Co part):∀(n:Nat) (e:Xpr) (l:TL) (e':Xpr) (l':TL),Bv part sg n e l = .ok (e',l')->l'.length<=l.length
 |0,_,_,_,_,h=>by cases h
 |n+1,e,l,e',l',h=>by
  simp only[Bv] at h;cases hf:sg.find? (λp=>isT p.1 l) with
  |none =>rw[hf] at h;injection h with h;injection h with _ h;rw[<-h];exact Zn1 _
  |some p =>rw[hf] at h;cases hq:part l.tail with|error q=>simp only[hq] at h;cases h|ok x =>obtain⟨e1,m⟩:=x;simp only[hq] at h;have h1:=hp _ _ _ hq;have h2:=A48 hp n _ _ _ _ h;have h3:=A2 l;omega
theorem F3{part:TL->PR Xpr}{sg:List (Str×Int)}(hp:Co part):Co (Cp part sg):=λl e l' h=>by simp only[Cp] at h;cases hq:part l with|error q=>rw[hq] at h;cases h|ok x =>obtain⟨e1,m⟩:=x;rw[hq] at h;have h1:=hp _ _ _ hq;have h2:=A48 hp _ _ _ _ _ h;omega
theorem Hq{s:Str}{k:Int}{part:TL->PR Xpr}(hp:Co part):∀(l:TL) (e:Xpr) (l':TL),A8 s k part l = .ok (e,l')->l'.length<l.length
 |[],e,l',h=>hp _ _ _ h
 |t::r,e,l',h=>by
  simp only[A8] at h;cases ht:isT s (t::r) with
  |true =>
   rw[ht] at h;cases hq:A8 s k part r with
   |error q=>simp only[hq] at h;cases h
   |ok x =>
    obtain⟨e1,m⟩:=x;simp only[hq] at h;have h1:=Hq hp r _ _ hq;injection h with h;injection h with _ h;rw[<-h]
    simp only[Zf1];omega
  |false =>rw[ht] at h;exact hp _ _ _ h
theorem Bc6{e:Xpr}{l:TL}{e':Xpr}{l':TL}(h:isP e l = .ok (e',l')):l'.length<=l.length:=by
 have h1:=A2 l;have h2:=A2 l.tail;have h3:=A2 l.tail.tail;simp only[isP] at h;cases hn:isT Eg l.tail with
 |true =>
  rw[hn] at h;cases hu:isT B5 l.tail.tail with
  |true =>simp only[hu] at h;injection h with h;injection h with _ h;rw[<-h];omega
  |false=>simp only[hu] at h;cases h
 |false =>
  rw[hn] at h;cases hu:isT B5 l.tail with
  |true =>simp only[hu] at h;injection h with h;injection h with _ h;rw[<-h];omega
  |false=>simp only[hu] at h;cases h
theorem Akj{sum:TL->PR Xpr}(hp:Co sum):Co (Rs sum):=λl e l' h=>by
 simp only[Rs] at h;cases hq:sum l with
 |error q=>rw[hq] at h;cases h
 |ok x =>
  obtain⟨e1,m⟩:=x;rw[hq] at h;have h1:=hp _ _ _ hq;have h2:=A2 m;cases hf:cmpS.find? (λp=>isT p.1 m) with
  |some p =>
   simp only[hf] at h;cases hq2:sum m.tail with
   |error q=>simp only[hq2] at h;cases h
   |ok y =>obtain⟨e2,m2⟩:=y;simp only[hq2] at h;have h3:=hp _ _ _ hq2;injection h with h;injection h with _ h;rw[<-h];omega
  |none =>
   simp only[hf] at h;cases hi:isT sIS m with
   |true =>simp only[hi] at h;have:=Bc6 h;omega
   |false =>simp only[hi] at h;injection h with h;injection h with _ h;rw[<-h];exact h1
theorem Auo{rec:TL->PR Xpr}(hr:Co rec)(k:Nat):Co (lev rec k):=by have h7:Co (A8 [45] 15 (Bg rec)):=Hq (X7 hr);have h6:=F3 (sg:=[([42],14)]) h7;have h5:=F3 (sg:=[([43],12),([45],13)]) h6;have h4:=Akj h5;have h3:Co (A8 Eg 3 _):=Hq h4;have h2:=F3 (sg:=[(Al8,4)]) h3;have h1:=F3 (sg:=[(sOR,5)]) h2;match k with|0=>exact h7|1=>exact h1|2=>exact h2|3=>exact h3|4=>exact h4|5=>exact h5|6=>exact h6|k+7=>exact h7
theorem Aah:∀n,Co (orN n)
 |0=>λ_ _ _ h=>by cases h
 |n+1=>Auo (Aah n) 1
theorem Hb:Co orW:=λl e l' h=>Aah _ l e l' h
def Ag{α:Type}(L:Nat)(p q:TL->PR α):Prop:=∀m,m.length<L->p m=q m
theorem Bbo{L:Nat}{p q:TL->PR Xpr}(h:Ag L p q):Ag (L+1) (Bg p) (Bg q):=λm hm=>by cases m with|nil=>rfl|cons t r =>simp only[Zf1] at hm;simp only[Bg,h r (by omega)]
theorem Bl7{L:Nat}{p q:TL->PR Xpr}{sg:List (Str×Int)}(h:Ag L p q)(hp:Co p):∀(n:Nat) (e:Xpr) (l:TL),l.length<L->Bv p sg n e l=Bv q sg n e l
 |0,_,_,_=>rfl
 |n+1,e,l,hl=>by
  have h1:=A2 l;simp only[Bv,<-h l.tail (by omega)];cases sg.find? (λp=>isT p.1 l) with
  |none=>rfl
  |some s =>cases hq:p l.tail with|error q=>rfl|ok x =>obtain⟨e1,m⟩:=x;have h2:=hp _ _ _ hq;exact Bl7 h hp n _ m (by omega)
theorem Ahf{L:Nat}{p q:TL->PR Xpr}{sg:List (Str×Int)}(h:Ag L p q)(hp:Co p):Ag L (Cp p sg) (Cp q sg):=λm hm=>by simp only[Cp,<-h m hm];cases hq:p m with|error q=>rfl|ok x =>obtain⟨e1,m1⟩:=x;have h2:=hp _ _ _ hq;exact Bl7 h hp _ _ m1 (by omega)
theorem Ajz{L:Nat}{s:Str}{k:Int}{p q:TL->PR Xpr}(h:Ag L p q):∀m:TL,m.length<L->A8 s k p m=A8 s k q m
 |[],hm=>h [] hm
 |t::r,hm=>by simp only[Zf1] at hm;simp only[A8,Ajz h r (by omega),h (t::r) (by simpa using hm)]
theorem Bn1{L:Nat}{p q:TL->PR Xpr}(h:Ag L p q)(hp:Co p):Ag L (Rs p) (Rs q):=λm hm=>by simp only[Rs,<-h m hm];cases hq:p m with|error q=>rfl|ok x =>obtain⟨e1,m1⟩:=x;have h2:=hp _ _ _ hq;have h3:=A2 m1;simp only[<-h m1.tail (by omega)]
theorem Bez{L:Nat}{p q:TL->PR Xpr}(h:Ag L p q)(hp:Co p)(k:Nat):Ag (L+1) (lev p k) (lev q k):=by have e7:Co (A8 [45] 15 (Bg p)):=Hq (X7 hp);have e6:=F3 (sg:=[([42],14)]) e7;have e5:=F3 (sg:=[([43],12),([45],13)]) e6;have e4:=Akj e5;have e3:Co (A8 Eg 3 _):=Hq e4;have e2:=F3 (sg:=[(Al8,4)]) e3;have h7:Ag (L+1) (A8 [45] 15 (Bg p)) (A8 [45] 15 (Bg q)):=Ajz (Bbo h);have h6:=Ahf (sg:=[([42],14)]) h7 e7;have h5:=Ahf (sg:=[([43],12),([45],13)]) h6 e6;have h4:=Bn1 h5 e5;have h3:Ag (L+1) (A8 Eg 3 _) (A8 Eg 3 _):=Ajz h4;have h2:=Ahf (sg:=[(Al8,4)]) h3 e3;have h1:=Ahf (sg:=[(sOR,5)]) h2 e2;match k with|0=>exact h7|1=>exact h1|2=>exact h2|3=>exact h3|4=>exact h4|5=>exact h5|6=>exact h6|k+7=>exact h7
theorem Bdy:∀(L n m:Nat),L<=n->L<=m->Ag L (orN n) (orN m)
 |0,_,_,_,_=>λ_ h=>absurd h (Zm1 _)
 |L+1,n+1,m+1,hn,hm=>Bez (Bdy L n m (by omega) (by omega)) (Aah n) 1
 |L+1,0,_,h,_=>by omega
 |L+1,_,0,_,h=>by omega
theorem Bq1{l:TL}{n:Nat}(h:l.length<n):orN n l=orW l:=Bdy (l.length+1) n (l.length+1) (by omega) (Zn1 _) l (by omega)
theorem Bmn(n:Nat):Ag n (orN n) orW:=λ_ h=>Bq1 h
theorem Aqk(l:TL):orW l=lev orW 1 l:=Bez (Bmn l.length) (Aah _) 1 l (by omega)
def opTab:List (Str×Nat×Int):=[(Al8,2,4),(sOR,1,5),([61],4,6),([60,62],4,7),([60],4,8),([60,61],4,9),([62],4,10),([62,61],4,11),([43],5,12),([45],5,13),([42],6,14)]
def bindS(s:Str):Nat×Int:=match opTab.find? (λp=>decide (s=p.1)) with|some p=>p.2|none=>(0,0)
def Bh:TL->Nat×Int
 |[]=>(0,0)
 |t::_=>match decide (t.kind=1)||decide (t.kind=6) with|true=>bindS t.s|false=>(0,0)
def sgL:Nat->List (Str×Int)
 |1=>[(sOR,5)]
 |2=>[(Al8,4)]
 |4=>cmpS
 |5=>[([43],12),([45],13)]
 |6=>[([42],14)]
 |_=>[]
abbrev SR:=Xpr×Nat×TL
def I6(rec:Nat->TL->PR Xpr)(k:Nat)(l:TL):Except TL SR :=
 match isT Eg l&&decide (k<=3) with
 |true=>match rec 3 l.tail with|.error q =>.error q|.ok (x,l') =>.ok (mkX 3 [x],3,l')
 |false=>match isT [45] l with
  |true=>match rec 7 l.tail with|.error q =>.error q|.ok (x,l') =>.ok (mkX 15 [x],7,l')
  |false=>match Bg (rec 1) l with|.error q =>.error q|.ok (x,l') =>.ok (x,7,l')
def C6(rec:Nat->TL->PR Xpr)(k:Nat)(s:SR):Option (Except TL SR) :=
 if isT sIS s.2.2=true/\k<=4/\4<s.2.1 then some (match isP s.1 s.2.2 with
  |.error q =>.error q
  |.ok (x,l') =>.ok (x,4,l'))
 else if(Bh s.2.2).1=0\/(Bh s.2.2).1<k\/s.2.1<(Bh s.2.2).1\/((Bh s.2.2).1=4/\s.2.1=4) then none
 else some (match rec ((Bh s.2.2).1+1) s.2.2.tail with
  |.error q =>.error q
  |.ok (x,l') =>.ok (mkX (Bh s.2.2).2 [s.1,x],(Bh s.2.2).1,l'))
def Cj(rec:Nat->TL->PR Xpr)(k:Nat):Nat->SR->Except TL SR
 |0,s =>.error s.2.2
 |n+1,s=>match C6 rec k s with|none =>.ok s|some (.error q) =>.error q|some (.ok s')=>Cj rec k n s'
def Z5(x:Except TL SR)(f:SR->Except TL SR):Except TL SR:=match x with|.error q =>.error q|.ok s=>f s
def exT(rec:Nat->TL->PR Xpr)(k:Nat)(l:TL):Except TL SR:=Z5 (I6 rec k l) λs=>Cj rec k (s.2.2.length+1) s
def exB(rec:Nat->TL->PR Xpr)(k:Nat)(l:TL):PR Xpr:=match exT rec k l with|.error q =>.error q|.ok s =>.ok (s.1,s.2.2)
theorem A5j(s:Str):(bindS s).1<=6/\(bindS s).1≠3:=by
 simp only[bindS];cases h:opTab.find? (λp=>decide (s=p.1)) with
 |none=>simp
 |some p =>
  have hm:=List.mem_of_find?_eq_some h;have ha:∀p,p∈opTab->p.2.1<=6/\p.2.1≠3:=by decide
  exact ha p hm
theorem Ahw(l:TL):(Bh l).1<=6/\(Bh l).1≠3:=by
 cases l with
 |nil=>simp[Bh]
 |cons t r =>simp only[Bh];cases decide (t.kind=1)||decide (t.kind=6) with|true=>exact A5j t.s|false=>simp
theorem Bg2{l:TL}(h:isT sIS l=true):Bh l=(0,0):=by cases l with|nil=>rfl|cons t r =>simp only[isT,Zb1,Zg1] at h;simp only[Bh,h.1,h.2];decide
theorem Bad(n:Nat)(s:Str)(hn:n=1\/n=2\/n=4\/n=5\/n=6):((bindS s).1=n->∃p,(sgL n).find? (λp=>decide (s=p.1))=some p/\p.2=(bindS s).2)/\((bindS s).1≠n->(sgL n).find? (λp=>decide (s=p.1))=none):=by
 by_cases h:s∈opTab.map (·.1)
 ·have ha:∀s,s∈opTab.map (·.1)->∀n,n=1\/n=2\/n=4\/n=5\/n=6->(((bindS s).1=n->((sgL n).find? (λp=>decide (s=p.1))).map (·.2)=some (bindS s).2)/\((bindS s).1≠n->(sgL n).find? (λp=>decide (s=p.1))=none)):=by intro s hs n hn;simp only[opTab,Zw1,List.map_nil,List.mem_cons,List.not_mem_nil,or_false] at hs;rcases hs with rfl|rfl|rfl|rfl|rfl|rfl|rfl|rfl|rfl|rfl|rfl<;>rcases hn with rfl|rfl|rfl|rfl|rfl<;>decide
  obtain⟨h1,h2⟩:=ha s h n hn;refine⟨λe =>?_,h2⟩;have:=h1 e;cases hf:(sgL n).find? (λp=>decide (s=p.1)) with|none=>rw[hf] at this;cases this|some p =>rw[hf] at this;exact⟨p,rfl,by simpa using this⟩
 ·have h0:bindS s=(0,0):=by simp only[bindS];cases hf:opTab.find? (λp=>decide (s=p.1)) with|none=>rfl|some p =>have h1:=List.mem_of_find?_eq_some hf;have h2:=List.find?_some hf;simp only[Zg1] at h2;exact absurd (List.mem_map.2 ⟨p,h1,h2.symm⟩) h
  rw[h0];refine⟨λe =>?_,λ_ =>?_⟩
  ·simp only at e;omega
  ·rw[List.find?_eq_none];intro p hp;simp only[Zg1];intro e;have hsub:∀q,q∈sgL n->q.1∈opTab.map (·.1):=by rcases hn with rfl|rfl|rfl|rfl|rfl<;>decide
   exact h (by rw[e];exact hsub p hp)
theorem Aak(n:Nat)(l:TL)(hn:n=1\/n=2\/n=4\/n=5\/n=6):((Bh l).1=n->∃p,(sgL n).find? (λp=>isT p.1 l)=some p/\p.2=(Bh l).2)/\((Bh l).1≠n->(sgL n).find? (λp=>isT p.1 l)=none):=by
 cases l with
 |nil =>
  refine⟨λe =>?_,λ_ =>?_⟩
  ·simp only[Bh] at e;omega
  ·exact List.find?_eq_none.2 λp _=>by simp[isT]
 |cons t r =>
  simp only[Bh,isT];cases hk:(decide (t.kind=1)||decide (t.kind=6)) with
  |true=>simpa using Bad n t.s hn
  |false =>
   refine⟨λe =>?_,λ_ =>?_⟩
   ·simp only at e;omega
   ·exact List.find?_eq_none.2 λp _=>by simp
variable {V:Nat->TL->PR Xpr}
theorem Ace(hv:∀k,Co (V k)){k:Nat}{s s':SR}(h:C6 V k s=some (.ok s')):s'.2.2.length<s.2.2.length:=by
 simp only[C6] at h;split at h
 ·rename_i hc;have hi:=Fq hc.1;cases hq:isP s.1 s.2.2 with
  |error q=>rw[hq] at h;cases h
  |ok x =>
   obtain⟨e1,m⟩:=x;rw[hq] at h;injection h with h;injection h with h;rw[<-h];simp only[isP] at hq;have h2:=A2 s.2.2.tail;have h3:=A2 s.2.2.tail.tail;cases hn:isT Eg s.2.2.tail with
   |true =>
    rw[hn] at hq;cases hu:isT B5 s.2.2.tail.tail with
    |true =>simp only[hu] at hq;injection hq with hq;injection hq with _ hq;rw[<-hq];show s.2.2.tail.tail.tail.length<s.2.2.length;omega
    |false=>simp only[hu] at hq;cases hq
   |false =>
    rw[hn] at hq;cases hu:isT B5 s.2.2.tail with
    |true =>simp only[hu] at hq;injection hq with hq;injection hq with _ hq;rw[<-hq];show s.2.2.tail.tail.length<s.2.2.length;omega
    |false=>simp only[hu] at hq;cases hq
 ·split at h
  ·cases h
  ·cases hq:V ((Bh s.2.2).1+1) s.2.2.tail with
   |error q=>rw[hq] at h;cases h
   |ok x =>obtain⟨e1,m⟩:=x;rw[hq] at h;injection h with h;injection h with h;rw[<-h];have h1:=hv _ _ _ _ hq;have h2:=A2 s.2.2;show m.length<_;omega
theorem A9q{a b:Nat}(h:a<=b){s:SR}{r:Except TL SR}(hs:C6 V b s=some r):C6 V a s=some r:=by
 simp only[C6] at hs ⊢;by_cases hc:isT sIS s.2.2=true/\b<=4/\4<s.2.1
 ·rw[if_pos hc] at hs;rw[if_pos ⟨hc.1,by omega,hc.2.2⟩];exact hs
 ·rw[if_neg hc] at hs;by_cases hn:(Bh s.2.2).1=0\/(Bh s.2.2).1<b\/s.2.1<(Bh s.2.2).1\/((Bh s.2.2).1=4/\s.2.1=4)
  ·rw[if_pos hn] at hs;cases hs
  ·rw[if_neg hn] at hs;have hi:¬isT sIS s.2.2=true:=λe=>by rw[Bg2 e] at hn;exact hn (.inl rfl)
   rw[if_neg (λe=>hi e.1),if_neg (by omega)];exact hs
theorem Ano(hv:∀k,Co (V k))(k:Nat):∀(n m:Nat) (s:SR),s.2.2.length<n->s.2.2.length<m->Cj V k n s=Cj V k m s
 |0,_,_,h,_=>by omega
 |_,0,_,_,h=>by omega
 |n+1,m+1,s,hn,hm=>by
  simp only[Cj];cases hs:C6 V k s with
  |none=>rfl
  |some r =>cases r with|error q=>rfl|ok s' =>have:=Ace hv hs;exact Ano hv k n m s' (by omega) (by omega)
theorem A52(hv:∀k,Co (V k))(k:Nat):∀(n:Nat) (s s':SR),Cj V k n s = .ok s'->s'.2.2.length<=s.2.2.length/\C6 V k s' = none
 |0,_,_,h=>by cases h
 |n+1,s,s',h=>by
  simp only[Cj] at h;cases hs:C6 V k s with
  |none =>rw[hs] at h;injection h with h;rw[<-h];exact⟨Zn1 _,hs⟩
  |some r =>rw[hs] at h;cases r with|error q=>cases h|ok s1 =>have h1:=Ace hv hs;have h2:=A52 hv k n s1 s' h;exact⟨by omega,h2.2⟩
theorem An5(hv:∀k,Co (V k)){a b:Nat}(h:a<=b):∀(n:Nat) (s:SR),s.2.2.length<n->Cj V a n s=Z5 (Cj V b n s) λs'=>Cj V a (s'.2.2.length+1) s'
 |0,_,hn=>by omega
 |n+1,s,hn=>by
  cases hs:C6 V b s with
  |none =>
   have e:Cj V b (n+1) s = .ok s:=by simp only[Cj,hs]
   rw[e];exact Ano hv a _ _ s hn (by omega)
  |some r =>
   have ha:=A9q h hs;cases r with
   |error q =>simp only[Cj,hs,ha];rfl
   |ok s1 =>
    have h1:=Ace hv hs;have e1:Cj V a (n+1) s=Cj V a n s1:=by simp only[Cj,ha]
    have e2:Cj V b (n+1) s=Cj V b n s1:=by simp only[Cj,hs]
    rw[e1,e2];exact An5 hv h n s1 (by omega)
theorem A6f(hv:∀k,Co (V k)){k:Nat}(hk:k=1\/k=2\/k=5\/k=6):∀(n:Nat) (e:Xpr) (h:Nat) (l:TL),l.length<n->(h=k\/(k<h/\C6 V (k+1) (e,h,l)=none)) ->
  match Bv (V (k+1)) (sgL k) n e l with|.error q=>Cj V k n (e,h,l) = .error q|.ok (e',l')=>∃h',k<=h'/\Cj V k n (e,h,l) = .ok (e',h',l')
 |0,_,_,_,hn,_=>by omega
 |n+1,e,h,l,hn,hc=>by
  by_cases hb:(Bh l).1=k
  ·obtain⟨p,hp1,hp2⟩:=(Aak k l (by omega)).1 hb;have hi:¬isT sIS l=true:=λq=>by rw[Bg2 q] at hb;simp only at hb;omega
   have hst:C6 V k (e,h,l)=some (match V (k+1) l.tail with
     |.error q =>.error q
     |.ok (x,l') =>.ok (mkX p.2 [e,x],k,l')):=by
    simp only[C6,hb,hp2];rw[if_neg (λq=>hi q.1),if_neg (by omega)]
   simp only[Bv,hp1,Cj,hst];cases hq:V (k+1) l.tail with|error q=>rfl|ok x =>obtain⟨x,l1⟩:=x;have h1:=hv _ _ _ _ hq;have h2:=A2 l;exact A6f hv hk n (mkX p.2 [e,x]) k l1 (by omega) (.inl rfl)
  ·have hst:C6 V k (e,h,l)=none:=by
    simp only[C6];rcases hc with rfl|⟨hlt,hn1⟩
    ·rw[if_neg (λq=>by have:=q.2;omega),if_pos (by omega)]
    ·simp only[C6] at hn1;split at hn1
     ·cases hn1
     ·rename_i hi;split at hn1
      ·rename_i ho;rw[if_neg (λq=>hi ⟨q.1,by have:=q.2.1;omega,q.2.2⟩),if_pos (by omega)]
      ·cases hn1
   simp only[Bv,(Aak k l (by omega)).2 hb,Cj,hst];exact⟨h,by omega,rfl⟩
theorem K6{k:Nat}{e:Xpr}{h:Nat}{l:TL}(hi:¬(isT sIS l=true/\k<=4/\4<h))(hn:(Bh l).1=0\/(Bh l).1<k\/h<(Bh l).1\/((Bh l).1=4/\h=4)):C6 V k (e,h,l)=none:=by simp only[C6];rw[if_neg hi,if_pos hn]
theorem Anz{k:Nat}{e:Xpr}{h:Nat}{l:TL}(hs:C6 V k (e,h,l)=none):¬(isT sIS l=true/\k<=4/\4<h)/\((Bh l).1=0\/(Bh l).1<k\/h<(Bh l).1\/((Bh l).1=4/\h=4)):=by
 simp only[C6] at hs;split at hs
 ·cases hs
 ·rename_i hi;split at hs
  ·rename_i hn;exact⟨hi,hn⟩
  ·cases hs
theorem Azi{e:Xpr}{h:Nat}{l:TL}:C6 V 7 (e,h,l)=none :=K6 (λq=>by have:=q.2;omega) (by have:=Ahw l;omega)
theorem Agw{e:Xpr}{l:TL}:C6 V 4 (e,4,l)=none :=K6 (λq=>by have:=q.2;omega) (by omega)
theorem Ft{k n:Nat}{s:SR}(h:C6 V k s=none):Cj V k (n+1) s = .ok s:=by simp only[Cj,h]
theorem Aq9{a b:Nat}(ha : 3<a)(hb : 3<b)(l:TL):I6 V a l=I6 V b l:=by simp only[I6];rw[Zd1 (show ¬a<=3 by omega),Zd1 (show ¬b<=3 by omega)]
theorem A47{a b:Nat}(ha:a<=3)(hb:b<=3)(l:TL):I6 V a l=I6 V b l:=by simp only[I6];rw[Ze1 ha,Ze1 hb]
theorem As4(hv:∀k,Co (V k)){a b:Nat}(h:a<=b){l:TL}(hp:I6 V a l=I6 V b l):exT V a l=Z5 (exT V b l) λs=>Cj V a (s.2.2.length+1) s:=by unfold exT;rw[hp];cases I6 V b l with|error q=>rfl|ok s=>exact An5 hv h _ s (by omega)
def LvQ(V:Nat->TL->PR Xpr)(k:Nat)(l:TL):Prop:=match V k l with|.error q=>exT V k l = .error q|.ok (e,l')=>∃h,k<=h/\exT V k l = .ok (e,h,l')/\C6 V k (e,h,l')=none
theorem Ahb(hv:∀k,Co (V k)){k:Nat}(hk:k=1\/k=2\/k=5\/k=6)(hV:V k=Cp (V (k+1)) (sgL k)){l:TL}(h:LvQ V (k+1) l):LvQ V k l:=by
 have hp:I6 V k l=I6 V (k+1) l:=by
  rcases hk with rfl|rfl|rfl|rfl
  ·exact A47 (by omega) (by omega) l
  ·exact A47 (by omega) (by omega) l
  ·exact Aq9 (by omega) (by omega) l
  ·exact Aq9 (by omega) (by omega) l
 have hc:=As4 hv (Nat.le_succ k) hp;unfold LvQ at h ⊢;rw[hV];unfold Cp;cases hq:V (k+1) l with
 |error q =>rw[hq] at h;simp only at h ⊢;rw[hc,h];rfl
 |ok x =>obtain⟨e,l'⟩:=x;rw[hq] at h;simp only at h ⊢;obtain⟨h1,h2,h3,h4⟩:=h;rw[h3] at hc;have hc:exT V k l=Cj V k (l'.length+1) (e,h1,l'):=hc;have hl:=A6f hv hk (l'.length+1) e h1 l' (by omega) (.inr ⟨by omega,h4⟩);rw[hc];cases hg:Bv (V (k+1)) (sgL k) (l'.length+1) e l' with|error q =>rw[hg] at hl;exact hl|ok y =>obtain⟨e2,l2⟩:=y;rw[hg] at hl;simp only at hl ⊢;obtain⟨h',h5,h6⟩:=hl;exact⟨h',h5,h6,(A52 hv k _ _ _ h6).2⟩
theorem Bon(hv:∀k,Co (V k))(hV:V 4=Rs (V 5)){l:TL}(h:LvQ V 5 l):LvQ V 4 l:=by
 have hc:=As4 (V:=V) hv (show 4<=5 by omega) (Aq9 (by omega) (by omega) l);unfold LvQ at h ⊢;rw[hV];unfold Rs;cases hq:V 5 l with
 |error q =>rw[hq] at h;simp only at h ⊢;rw[hc,h];rfl
 |ok x =>
  obtain⟨e,l'⟩:=x;rw[hq] at h;simp only at h ⊢;obtain⟨h1,h2,h3,h4⟩:=h;rw[h3] at hc;have hc:exT V 4 l=Cj V 4 (l'.length+1) (e,h1,l'):=hc;rw[hc];obtain⟨n1,n2⟩:=Anz h4;by_cases hb:(Bh l').1=4
  ·obtain⟨p,hp1,hp2⟩:=(Aak 4 l' (by omega)).1 hb;have hp1:cmpS.find? (λp=>isT p.1 l')=some p:=hp1;have hi:¬isT sIS l' = true:=λq=>by rw[Bg2 q] at hb;simp only at hb;omega
   have hst:C6 V 4 (e,h1,l')=some (match V 5 l'.tail with
     |.error q =>.error q
     |.ok (x,l') =>.ok (mkX p.2 [e,x],4,l')):=by
    simp only[C6,hb,hp2];rw[if_neg (λq=>hi q.1),if_neg (by omega)]
   have hlen : 1<=l'.length:=by cases l' with|nil=>simp only[Bh] at hb;omega|cons t r=>simp
   rw[hp1];simp only[Cj,hst];cases hq2:V 5 l'.tail with|error q=>rfl|ok y =>obtain⟨x,l2⟩:=y;simp only;refine⟨4,by omega,?_,Agw⟩;obtain⟨m,hm⟩:=Nat.exists_eq_add_of_le hlen;rw[hm,Nat.add_comm 1 m];exact Ft Agw
  ·have hf:cmpS.find? (λp=>isT p.1 l')=none:=(Aak 4 l' (by omega)).2 hb;rw[hf];simp only;cases hi:isT sIS l' with
   |true =>
    have hlen:=Fq hi;have hst:C6 V 4 (e,h1,l')=some (match isP e l' with
      |.error q =>.error q
      |.ok (x,l') =>.ok (x,4,l')):=by
     simp only[C6];rw[if_pos ⟨hi,by omega,by omega⟩]
    simp only[Cj,hst];cases hq2:isP e l' with|error q=>rfl|ok y =>obtain⟨x,l2⟩:=y;simp only;refine⟨4,by omega,?_,Agw⟩;rw[<-hlen];exact Ft Agw
   |false =>have hn:C6 V 4 (e,h1,l')=none:=K6 (λq=>by rw[hi] at q;cases q.1) (by omega);exact⟨h1,by omega,Ft hn,hn⟩
theorem Bm9(hv:∀k,Co (V k))(hV:V 3=A8 Eg 3 (V 4)){l:TL}(h:LvQ V 4 l):LvQ V 3 l:=by
 have stop:∀{e:Xpr}{l':TL},C6 V 3 (e,3,l')=none:=λ{e l'}=>K6 (λq=>by have:=q.2;omega) (by have:=Ahw l';omega);cases hn:isT Eg l with
 |true =>
  have hp:exT V 3 l=Z5 (match V 3 l.tail with
    |.error q =>.error q
    |.ok (x,l') =>.ok (mkX 3 [x],3,l')) λs=>Cj V 3 (s.2.2.length+1) s:=by
   unfold exT I6;rw[hn,Ze1 (show 3<=3 by omega)];rfl
  cases l with
  |nil=>cases hn
  |cons t r =>unfold LvQ;rw[hp,hV];simp only[A8,hn,List.tail_cons];cases A8 Eg 3 (V 4) r with|error q=>rfl|ok x =>obtain⟨e,l'⟩:=x;exact⟨3,Zn1 _,Ft stop,stop⟩
 |false =>
  have hpr:I6 V 3 l=I6 V 4 l:=by simp only[I6,hn,Bool.false_and]
  have hc:=As4 (V:=V) hv (show 3<=4 by omega) hpr;have ha:V 3 l=V 4 l:=by rw[hV];cases l with|nil=>rfl|cons t r=>simp only[A8,hn]
  unfold LvQ at h ⊢;rw[ha];cases hq:V 4 l with|error q =>rw[hq] at h;simp only at h ⊢;rw[hc,h];rfl|ok x =>obtain⟨e,l'⟩:=x;rw[hq] at h;simp only at h ⊢;obtain⟨h1,h2,h3,h4⟩:=h;obtain⟨n1,n2⟩:=Anz h4;have hs:C6 V 3 (e,h1,l')=none:=K6 (λq=>n1 ⟨q.1,by omega,q.2.2⟩) (by have:=Ahw l';omega);refine⟨h1,by omega,?_,hs⟩;rw[hc,h3];exact Ft hs
theorem Bdr(hV:V 7=A8 [45] 15 (Bg (V 1)))(l:TL):LvQ V 7 l:=by
 have hx:∀(e:Xpr) (n:Nat) (l':TL),Cj V 7 (n+1) (e,7,l') = .ok (e,7,l'):=λ_ _ _=>Ft Azi;have h3:decide (7<=3)=false:=rfl;unfold LvQ exT I6;rw[hV,h3,Bool.and_false];simp only;cases l with
 |nil=>rfl
 |cons t r =>
  cases hm:isT [45] (t::r) with
  |true =>simp only[A8,hm,List.tail_cons];cases A8 [45] 15 (Bg (V 1)) r with|error q=>rfl|ok x=>exact⟨7,Zn1 _,hx _ _ _,Azi⟩
  |false =>simp only[A8,hm];cases Bg (V 1) (t::r) with|error q=>rfl|ok x=>exact⟨7,Zn1 _,hx _ _ _,Azi⟩
abbrev VV:Nat->TL->PR Xpr:=lev orW
theorem Wc(k:Nat):Co (VV k):=Auo Hb k
theorem Nq:VV 1=orW:=funext λl=>(Aqk l).symm
theorem Bra(l:TL):∀k,1<=k->k<=7->LvQ VV k l:=by have h7:LvQ VV 7 l:=Bdr (by rw[Nq];rfl) l;have h6:LvQ VV 6 l:=Ahb Wc (.inr (.inr (.inr rfl))) rfl h7;have h5:LvQ VV 5 l:=Ahb Wc (.inr (.inr (.inl rfl))) rfl h6;have h4:LvQ VV 4 l:=Bon Wc rfl h5;have h3:LvQ VV 3 l:=Bm9 Wc rfl h4;have h2:LvQ VV 2 l:=Ahb Wc (.inr (.inl rfl)) rfl h3;have h1:LvQ VV 1 l:=Ahb Wc (.inl rfl) rfl h2;intro k a b;match k,a,b with|1,_,_=>exact h1|2,_,_=>exact h2|3,_,_=>exact h3|4,_,_=>exact h4|5,_,_=>exact h5|6,_,_=>exact h6|7,_,_=>exact h7
theorem Axb{k:Nat}(h1 : 1<=k)(h7:k<=7)(l:TL):exB VV k l=VV k l:=by have h:=Bra l k h1 h7;unfold LvQ at h;unfold exB;cases hq:VV k l with|error q =>rw[hq] at h;simp only at h;rw[h]|ok x =>obtain⟨e,l'⟩:=x;rw[hq] at h;simp only at h;obtain⟨a,_,h2,_⟩:=h;rw[h2]
end Go.Proofs.YthndhaolemgbdaaGreatDoor
namespace Go.Proofs.YthndhaolemgbdaaGreatDoor
open Go.Ax
def bP{α β:Type}(p:TL->PR α)(f : α->TL->PR β)(l:TL):PR β:=match p l with|.error q =>.error q|.ok (x,l')=>f x l'
def Bd{α:Type}(x : α)(l:TL):PR α :=.ok (x,l)
def A4:List Str->TL->PR Unit
 |[],l =>.ok ((),l)
 |s::ss,l=>match isT s l with|true=>A4 ss l.tail|false =>.error l
def Bj:TL->PR Str
 |[] =>.error []
 |t::r=>match decide (t.kind=2) with|true =>.ok (t.s,r)|false =>.error (t::r)
def A5{α:Type}(part:TL->PR α):Nat->List α->TL->PR (List α)
 |0,_,l =>.error l
 |n+1,acc,l=>match isT [44] l with
  |false =>.ok (acc,l)
  |true=>match part l.tail with|.error q =>.error q|.ok (x,l')=>A5 part n (acc++[x]) l'
def F8{α:Type}(part:TL->PR α)(l:TL):PR (List α):=match part l with|.error q =>.error q|.ok (x,l')=>A5 part (l'.length+1) [x] l'
def Mb(s:Str)(ss:List Str)(l:TL):PR Bool:=match isT s l with
 |true=>match A4 ss l.tail with|.error q =>.error q|.ok (_,l') =>.ok (true,l')
 |false =>.ok (false,l)
def Ir:Str:=[84,65,66,76,69]
def Fw:Str:=[73,78,68,69,88]
def wON:Str:=[79,78]
def Dq:Str:=[80,82,73,77,65,82,89]
def Asu:Str:=[75,69,89]
def Ahs:Str:=[67,72,69,67,75]
def F6:Str:=[85,78,73,81,85,69]
def A1b:Str:=[82,69,70,69,82,69,78,67,69,83]
def Ao8:Str:=[66,79,79,76]
def Baw:Str:=[73,78,84]
def Apz:Str:=[84,69,88,84]
def Acg:Str:=[66,89,84,69,83]
def Hu:Str:=[87,72,69,82,69]
def Axg:Str:=[83,69,84]
def H4:Str:=[70,82,79,77]
def J9:Str:=[79,82,68,69,82]
def wBY:Str:=[66,89]
def Dn:Str:=[68,69,83,67]
def Hl:Str:=[65,83,67]
def Y1:Str:=[76,73,77,73,84]
def Wy:Str:=[73,78,84,79]
def Kj:Str:=[86,65,76,85,69,83]
def Fi:Str:=[67,82,69,65,84,69]
def R4:Str:=[68,82,79,80]
def Ij:Str:=[73,78,83,69,82,84]
def Kn:Str:=[85,80,68,65,84,69]
def Mw:Str:=[68,69,76,69,84,69]
def P4:Str:=[83,69,76,69,67,84]
def zX:Xpr :=.mk 0 ⟨0,0,[]⟩ [] []
def zS:Stm:=⟨0,[],[],[],[],[],[],[],false,zX,[],[],0⟩
def Ns:TL->PR (List Str):=bP (A4 [[40]]) λ_=>bP (F8 Bj) λx=>bP (A4 [[41]]) λ_=>Bd x
def P5:TL->PR (List Xpr):=F8 orW
def Kh(l:TL):PR Int :=
 match isT Ao8 l with
 |true =>.ok (2,l.tail)
 |false=>match isT Baw l with
  |true =>.ok (3,l.tail)
  |false=>match isT Apz l with
   |true =>.ok (4,l.tail)
   |false=>match isT Acg l with|true =>.ok (5,l.tail)|false =>.error l
def Agl(l:TL):PR Str:=match isT A1b l with|true=>Bj l.tail|false =>.ok ([],l)
def A85:TL->PR Col:=bP Bj λn=>bP Kh λk=>bP (Mb Eg [B5]) λnn=>bP (Mb F6 []) λu=>bP Agl λr=>Bd ⟨n,k,nn,u,r⟩
def Om:TL->PR Col:=bP A85 λc=>bP (A4 [[44]]) λ_=>Bd c
def Cr:Nat->List Col->TL->PR (List Col)
 |0,_,l =>.error l
 |n+1,acc,l=>match isT Dq l with
  |true =>.ok (acc,l.tail)
  |false=>match Om l with|.error q =>.error q|.ok (c,l')=>Cr n (acc++[c]) l'
def Xb(l:TL):PR (List Col):=match Om l with|.error q =>.error q|.ok (c,l')=>Cr (l'.length+1) [c] l'
def Aki:TL->PR Xpr:=bP (A4 [Ahs,[40]]) λ_=>bP orW λe=>bP (A4 [[41]]) λ_=>Bd e
def P9:TL->PR Stm:=bP Bj λn=>bP (A4 [[40]]) λ_=>bP Xb λcs=>bP (A4 [Asu]) λ_=>bP Ns λns=>bP (λl=>A5 Aki (l.length+1) [] l) λes=>bP (A4 [[41]]) λ_=>Bd { zS with kind:=1,name:=n,cols:=cs,names:=ns,l:=es }
def Rh:TL->PR Stm:=bP (A4 [Fw]) λ_=>bP Bj λn=>bP (A4 [wON]) λ_=>bP Bj λo=>bP Ns λns=>Bd { zS with kind:=3,name:=n,on:=o,names:=ns }
def E0(l:TL):PR Stm:=match isT Ir l with|true=>P9 l.tail|false=>Rh l
def Sa(l:TL):PR Stm:=match isT Ir l with
 |true=>bP Bj (λn=>Bd { zS with kind:=2,name:=n }) l.tail
 |false=>bP (A4 [Fw]) (λ_=>bP Bj λn=>Bd { zS with kind:=4,name:=n }) l
def Az0:TL->PR (List Xpr):=bP (A4 [[40]]) λ_=>bP P5 λr=>bP (A4 [[41]]) λ_=>Bd r
def Gr:TL->PR Stm:=bP (A4 [Wy]) λ_=>bP Bj λn=>bP (A4 [Kj]) λ_=>bP (F8 Az0) λrs=>Bd { zS with kind:=5,name:=n,rows:=rs }
def Fo(l:TL):PR (Bool×Xpr):=match isT Hu l with
 |true=>match orW l.tail with|.error q =>.error q|.ok (e,l') =>.ok ((true,e),l')
 |false =>.ok ((false,zX),l)
def A1j:TL->PR SetE:=bP Bj λn=>bP (A4 [[61]]) λ_=>bP orW λe=>Bd ⟨n,e⟩
def Gx:TL->PR Stm:=bP Bj λn=>bP (A4 [Axg]) λ_=>bP (F8 A1j) λss=>bP Fo λw=>Bd { zS with kind:=6,name:=n,sets:=ss,has:=w.1,whr:=w.2 }
def Jp:TL->PR Stm:=bP (A4 [H4]) λ_=>bP Bj λn=>bP Fo λw=>Bd { zS with kind:=7,name:=n,has:=w.1,whr:=w.2 }
def Wx(l:TL):PR (List Xpr):=match isT [42] l with|true =>.ok ([],l.tail)|false=>P5 l
def N3(l:TL):PR Bool:=match isT Dn l with
 |true =>.ok (true,l.tail)
 |false=>match isT Hl l with|true =>.ok (false,l.tail)|false =>.ok (false,l)
def Lb:TL->PR (Str×Bool):=bP Bj λn=>bP N3 λd=>Bd (n,d)
def Dw(l:TL):PR (List (Str×Bool)):=match isT J9 l with|true=>bP (A4 [wBY]) (λ_=>F8 Lb) l.tail|false =>.ok ([],l)
def Aap:TL->PR Int
 |[] =>.error []
 |t::r=>match decide (t.kind=3) with|true =>.ok (t.n,r)|false =>.error (t::r)
def Ei(l:TL):PR Int:=match isT Y1 l with|true=>Aap l.tail|false =>.ok (-1,l)
def Fh:TL->PR Stm:=bP Wx λes=>bP (A4 [H4]) λ_=>bP Bj λn=>bP Fo λw=>bP Dw λo=>bP Ei λm=>Bd { zS with kind:=8,name:=n,l:=es,has:=w.1,whr:=w.2,order:=o.map (·.1),desc:=o.map (·.2),most:=m }
def G0(l:TL):PR Stm :=
 match isT Fi l with
 |true=>E0 l.tail
 |false=>match isT R4 l with
  |true=>Sa l.tail
  |false=>match isT Ij l with
   |true=>Gr l.tail
   |false=>match isT Kn l with
    |true=>Gx l.tail
    |false=>match isT Mw l with
     |true=>Jp l.tail
     |false=>match isT P4 l with|true=>Fh l.tail|false =>.error l
def Al1(l:TL):TL:=match isT [59] l with|true=>l.tail|false=>l
def Kf(l:TL):Except TL Stm:=match G0 l with
 |.error q =>.error q
 |.ok (s,l')=>match Al1 l' with|[] =>.ok s|t::r =>.error (t::r)
def Hd(n:Int):TL->Int
 |[]=>n
 |t::_=>t.pos
abbrev nqW(s:Str):Prop:=s≠[41]/\s≠R7/\s≠Kc/\s≠B5/\s≠Dn/\s≠Hl
def G1(d:Bool):TL->Prop
 |[]=>True
 |t::_=>(t.s=[59]\/t.s=[41])\/¬t.kind=1/\¬t.kind=6\/(t.s=R7\/t.s=Kc\/t.s=B5)\/d=true/\(t.s=Dn\/t.s=Hl)
def Zn:TL->Prop
 |[]=>False
 |t::_=>t.kind=6/\t.s=[59]
theorem Zn.quiet{d:Bool}{m:TL}(h:Zn m):G1 d m:=by cases m with|nil=>trivial|cons t r=>exact .inl (.inl h.2)
theorem Abr{d:Bool}{m:TL}(h:G1 d m){s:Str}(h1:s≠[59])(h2:nqW s):isT s m=false:=by
 cases m with
 |nil=>rfl
 |cons t r =>
  have fin:¬t.s=s->isT s (t::r)=false:=λh=>by simp only[isT,Zd1 h,Bool.and_false]
  rcases h with (q|q)|⟨q1,q2⟩|(q|q|q)|⟨_,q|q⟩
  ·exact fin λe=>h1 (e.symm.trans q)
  ·exact fin λe=>h2.1 (e.symm.trans q)
  ·simp only[isT,Zd1 q1,Zd1 q2,Bool.or_false,Bool.false_and]
  ·exact fin λe=>h2.2.1 (e.symm.trans q)
  ·exact fin λe=>h2.2.2.1 (e.symm.trans q)
  ·exact fin λe=>h2.2.2.2.1 (e.symm.trans q)
  ·exact fin λe=>h2.2.2.2.2.1 (e.symm.trans q)
  ·exact fin λe=>h2.2.2.2.2.2 (e.symm.trans q)
theorem Agz{m:TL}(h:Zn m){s:Str}(h1:s≠[59]):isT s m=false:=by cases m with|nil=>rfl|cons t r =>have:¬t.s=s:=λe=>h1 (e.symm.trans h.2);simp only[isT,Zd1 this,Bool.and_false]
theorem Bz{l:TL}(h:l≠[])(s:Str)(m:TL):isT s (l++m)=isT s l:=by cases l with|nil=>exact absurd rfl h|cons t r=>rfl
theorem Ct{l:TL}(h:l≠[])(m:TL):(l++m).tail=l.tail++m:=by cases l with|nil=>exact absurd rfl h|cons t r=>rfl
theorem I8{s:Str}{l:TL}(h:isT s l=true):l≠[]:=by rintro rfl;cases h
structure LookN {α:Type}(d:Bool) (n:Nat) (p:TL->PR α):Prop where
 le:∀l e l',l.length<n->p l = .ok (e,l')->l'.length<=l.length
 ler:∀l q,l.length<n->p l = .error q->q.length<=l.length
 ok:∀l m e l',l.length<n->p l = .ok (e,l')->(l'≠[]\/G1 d m)->p (l++m) = .ok (e,l'++m)
 er:∀l m q,l.length<n->p l = .error q->(q≠[]\/Zn m)->p (l++m) = .error (q++m)
theorem Bq6{a b:TL}(h:a.length<=b.length)(ha:a≠[]):b≠[]:=by rintro rfl;exact ha (List.length_eq_zero_iff.1 (Nat.le_zero.1 h))
theorem Afm{a b:TL}{P:Prop}(h:a.length<=b.length)(ha:a≠[]\/P):b≠[]\/P:=ha.imp_left (Bq6 h)
theorem Bje{d:Bool}{a:TL}{m:TL}(h:a≠[]\/Zn m):a≠[]\/G1 d m:=h.imp_right Zn.quiet
variable {α β:Type}{n:Nat}{d:Bool}
theorem LookN.bind{p:TL->PR α}{f : α->TL->PR β}(hp:LookN d n p)(hf:∀x,LookN d n (f x)):LookN d n (bP p f) where
 le l e l' hl h:=by simp only[bP] at h;cases hq:p l with|error q=>rw[hq] at h;cases h|ok x =>obtain⟨x,l1⟩:=x;rw[hq] at h;have h1:=hp.le l x l1 hl hq;have h2:=(hf x).le l1 e l' (by omega) h;omega
 ler l q hl h:=by simp only[bP] at h;cases hq:p l with|error q'=>rw[hq] at h;cases h;exact hp.ler l q hl hq|ok x =>obtain⟨x,l1⟩:=x;rw[hq] at h;have h1:=hp.le l x l1 hl hq;have h2:=(hf x).ler l1 q (by omega) h;omega
 ok l m e l' hl h hc:=by simp only[bP] at h ⊢;cases hq:p l with|error q=>rw[hq] at h;cases h|ok x =>obtain⟨x,l1⟩:=x;rw[hq] at h;have h1:=hp.le l x l1 hl hq;have h2:=(hf x).le l1 e l' (by omega) h;rw[hp.ok l m x l1 hl hq (Afm h2 hc)];exact(hf x).ok l1 m e l' (by omega) h hc
 er l m q hl h hc:=by simp only[bP] at h ⊢;cases hq:p l with|error q' =>rw[hq] at h;cases h;rw[hp.er l m q hl hq hc]|ok x =>obtain⟨x,l1⟩:=x;rw[hq] at h;have h1:=hp.le l x l1 hl hq;have h2:=(hf x).ler l1 q (by omega) h;rw[hp.ok l m x l1 hl hq (Bje (Afm h2 hc))];exact(hf x).er l1 m q (by omega) h hc
theorem LookN.pure(x : α):LookN d n (Bd x) where
 le l e l' _ h:=by cases h;exact Zn1 _
 ler l q _ h:=by cases h
 ok l m e l' _ h _:=by cases h;rfl
 er l m q _ h _:=by cases h
theorem LookN.opt'{s:Str}{p:TL->PR α}{f:TL->PR α}(h1:s≠[59])(h2:∀m,G1 d m->isT s m=false)(hp:LookN d n p)(hf:LookN d n f):LookN d n (λl=>match isT s l with|true=>p l.tail|false=>f l) where
 le l e l' hl h:=by have ht:=A2 l;cases hi:isT s l with|true=>simp only[hi] at h;have:=hp.le _ e l' (by omega) h;omega|false=>simp only[hi] at h;exact hf.le l e l' hl h
 ler l q hl h:=by have ht:=A2 l;cases hi:isT s l with|true=>simp only[hi] at h;have:=hp.ler _ q (by omega) h;omega|false=>simp only[hi] at h;exact hf.ler l q hl h
 ok l m e l' hl h hc:=by
  have ht:=A2 l;cases hi:isT s l with
  |true =>simp only[hi] at h;have hn:=I8 hi;simp only[Bz hn,hi,Ct hn];exact hp.ok _ m e l' (by omega) h hc
  |false =>
   simp only[hi] at h;have hh:=hf.ok l m e l' hl h hc;by_cases hn:l=[]
   ·subst hn;have hle:=hf.le [] e l' hl h;have hl':l' = []:=List.length_eq_zero_iff.1 (Nat.le_zero.1 hle);have hq:G1 d m:=hc.resolve_left (λq=>q hl');simp only[Zf2,h2 _ hq];exact hh
   ·simp only[Bz hn,hi];exact hh
 er l m q hl h hc:=by
  have ht:=A2 l;cases hi:isT s l with
  |true =>simp only[hi] at h;have hn:=I8 hi;simp only[Bz hn,hi,Ct hn];exact hp.er _ m q (by omega) h hc
  |false =>
   simp only[hi] at h;have hh:=hf.er l m q hl h hc;by_cases hn:l=[]
   ·subst hn;have hle:=hf.ler [] q hl h;have hl':q=[]:=List.length_eq_zero_iff.1 (Nat.le_zero.1 hle);have hq:Zn m:=hc.resolve_left (λq=>q hl');simp only[Zf2,Agz hq h1];exact hh
   ·simp only[Bz hn,hi];exact hh
theorem LookN.opt{s:Str}{p:TL->PR α}{f:TL->PR α}(h1:s≠[59])(h2:nqW s)(hp:LookN d n p)(hf:LookN d n f):LookN d n (λl=>match isT s l with|true=>p l.tail|false=>f l):=LookN.opt' h1 (λ_ h=>Abr h h1 h2) hp hf
theorem A55{m:TL}(h:G1 false m){s:Str}(h0:s=Dn\/s=Hl):isT s m=false:=by
 cases m with
 |nil=>rfl
 |cons t r =>
  have fin:¬t.s=s->isT s (t::r)=false:=λh=>by simp only[isT,Zd1 h,Bool.and_false]
  have ne:∀w,t.s=w->(w=[59]\/w=[41]\/w=R7\/w=Kc\/w=B5)->¬t.s=s:=λw h1 h2 h3=>by rw[h1] at h3;subst h3;rcases h0 with h|h<;>rcases h2 with h2|h2|h2|h2|h2<;>rw[h] at h2<;>exact absurd h2 (by decide)
  rcases h with (q|q)|⟨q1,q2⟩|(q|q|q)|⟨h,_⟩
  ·exact fin (ne _ q (.inl rfl))
  ·exact fin (ne _ q (.inr (.inl rfl)))
  ·simp only[isT,Zd1 q1,Zd1 q2,Bool.or_false,Bool.false_and]
  ·exact fin (ne _ q (.inr (.inr (.inl rfl))))
  ·exact fin (ne _ q (.inr (.inr (.inr (.inl rfl)))))
  ·exact fin (ne _ q (.inr (.inr (.inr (.inr rfl)))))
  ·cases h
theorem LookN.req{s:Str}{p:TL->PR α}(h1:s≠[59])(hp:LookN d n p):LookN d n (λl=>match isT s l with|true=>p l.tail|false =>.error l) where
 le l e l' hl h:=by have ht:=A2 l;cases hi:isT s l with|true=>simp only[hi] at h;have:=hp.le _ e l' (by omega) h;omega|false=>simp only[hi] at h;cases h
 ler l q hl h:=by have ht:=A2 l;cases hi:isT s l with|true=>simp only[hi] at h;have:=hp.ler _ q (by omega) h;omega|false=>simp only[hi] at h;cases h;exact Zn1 _
 ok l m e l' hl h hc:=by have ht:=A2 l;cases hi:isT s l with|true =>simp only[hi] at h;have hn:=I8 hi;simp only[Bz hn,hi,Ct hn];exact hp.ok _ m e l' (by omega) h hc|false=>simp only[hi] at h;cases h
 er l m q hl h hc:=by
  have ht:=A2 l;cases hi:isT s l with
  |true =>simp only[hi] at h;have hn:=I8 hi;simp only[Bz hn,hi,Ct hn];exact hp.er _ m q (by omega) h hc
  |false =>
   simp only[hi] at h;cases h;by_cases hn:l=[]
   ·subst hn;have hq:Zn m:=hc.resolve_left (λq=>q rfl);simp only[Zf2,Agz hq h1]
   ·simp only[Bz hn,hi]
theorem LookN.must:∀(ss:List Str),(∀s,s∈ss->s≠[59])->LookN d n (A4 ss)
 |[],_=>LookN.pure ()
 |s::ss,h=>LookN.req (h s Zr1) (LookN.must ss λx hx=>h x (Zu1 _ hx))
theorem LookN.one{k:Int}{f:Tok->α}(hk:k≠6){p:TL->PR α}(h0:p [] = .error [])(h1:∀t r,p (t::r)=match decide (t.kind=k) with|true =>.ok (f t,r)|false =>.error (t::r)):LookN d n p where
 le l e l' _ h:=by
  cases l with
  |nil=>rw[h0] at h;cases h
  |cons t r =>rw[h1] at h;cases hd:decide (t.kind=k) with|true=>rw[hd] at h;cases h;simp|false=>rw[hd] at h;cases h
 ler l q _ h:=by
  cases l with
  |nil=>rw[h0] at h;cases h;simp
  |cons t r =>rw[h1] at h;cases hd:decide (t.kind=k) with|true=>rw[hd] at h;cases h|false=>rw[hd] at h;cases h;simp
 ok l m e l' _ h _:=by
  cases l with
  |nil=>rw[h0] at h;cases h
  |cons t r =>rw[h1] at h;rw[Zb2,h1];cases hd:decide (t.kind=k) with|true=>rw[hd] at h;cases h;rfl|false=>rw[hd] at h;cases h
 er l m q _ h hc:=by
  cases l with
  |nil =>rw[h0] at h;cases h;have hq:Zn m:=hc.resolve_left (λq=>q rfl);cases m with|nil=>exact hq.elim|cons t r =>rw[Zf2,h1,Zd1 (λe=>hk (by rw[<-e,hq.1]))]
  |cons t r =>rw[h1] at h;rw[Zb2,h1];cases hd:decide (t.kind=k) with|true=>rw[hd] at h;cases h|false=>rw[hd] at h;cases h;rfl
theorem Cn:LookN d n Bj:=LookN.one (k:=2) (f:=λt=>t.s) (by decide) rfl (λ_ _=>rfl)
theorem Bee:LookN d n Aap:=LookN.one (k:=3) (f:=λt=>t.n) (by decide) rfl (λ_ _=>rfl)
theorem Z6{part:TL->PR α}(hp:LookN d n part):∀(k:Nat) (acc:List α) (l:TL),l.length<n->l.length<k ->
  match A5 part k acc l with|.ok (e,l')=>l'.length<=l.length/\∀k' m,(l'≠[]\/G1 d m)->(l++m).length<k'->A5 part k' acc (l++m) = .ok (e,l'++m)|.error q=>q.length<=l.length/\∀k' m,(q≠[]\/Zn m)->(l++m).length<k'->A5 part k' acc (l++m) = .error (q++m)
 |0,_,_,_,h=>absurd h (Zm1 _)
 |k+1,acc,l,hn,hk=>by
  have ht:=A2 l;simp only[A5];cases hi:isT [44] l with
  |false =>
   refine⟨Zn1 _,λk' m hc hk' =>?_⟩;cases k' with
   |zero=>exact absurd hk' (Zm1 _)
   |succ k' =>
    have:isT [44] (l++m)=false:=by
     by_cases h0:l=[]
     ·subst h0;exact Abr (hc.resolve_left (λq=>q rfl)) (by decide) (by decide)
     ·rw[Bz h0,hi]
    simp only[A5,this]
  |true =>
   have h0:=I8 hi;have hlt:=Fq hi;cases hq:part l.tail with
   |error q =>simp only;have h1:=hp.ler l.tail q (by omega) hq;refine⟨by omega,λk' m hc hk' =>?_⟩;cases k' with|zero=>exact absurd hk' (Zm1 _)|succ k'=>simp only[A5,Bz h0,hi,Ct h0,hp.er l.tail m q (by omega) hq hc]
   |ok x =>
    obtain⟨x,l1⟩:=x;have h1:=hp.le l.tail x l1 (by omega) hq;have ih:=Z6 hp k (acc++[x]) l1 (by omega) (by omega);simp only;cases hr:A5 part k (acc++[x]) l1 with
    |error q =>rw[hr] at ih;simp only at ih ⊢;refine⟨by omega,λk' m hc hk' =>?_⟩;cases k' with|zero=>exact absurd hk' (Zm1 _)|succ k' =>simp only[A5,Bz h0,hi,Ct h0,hp.ok l.tail m x l1 (by omega) hq (Bje (Afm ih.1 hc))];refine ih.2 k' m hc ?_;simp only[Zh1] at hk' ⊢;omega
    |ok y =>obtain⟨e,l'⟩:=y;rw[hr] at ih;simp only at ih ⊢;refine⟨by omega,λk' m hc hk' =>?_⟩;cases k' with|zero=>exact absurd hk' (Zm1 _)|succ k' =>simp only[A5,Bz h0,hi,Ct h0,hp.ok l.tail m x l1 (by omega) hq (Afm ih.1 hc)];refine ih.2 k' m hc ?_;simp only[Zh1] at hk' ⊢;omega
theorem LookN.go{part:TL->PR α}(hp:LookN d n part)(acc:List α):LookN d n (λl=>A5 part (l.length+1) acc l) where
 le l e l' hl h:=by have:=Z6 hp (l.length+1) acc l hl (by omega);have h:A5 part (l.length+1) acc l=_:=h;rw[h] at this;exact this.1
 ler l q hl h:=by have:=Z6 hp (l.length+1) acc l hl (by omega);have h:A5 part (l.length+1) acc l=_:=h;rw[h] at this;exact this.1
 ok l m e l' hl h hc:=by have:=Z6 hp (l.length+1) acc l hl (by omega);have h:A5 part (l.length+1) acc l=_:=h;rw[h] at this;exact this.2 _ m hc (by omega)
 er l m q hl h hc:=by have:=Z6 hp (l.length+1) acc l hl (by omega);have h:A5 part (l.length+1) acc l=_:=h;rw[h] at this;exact this.2 _ m hc (by omega)
theorem LookN.list{part:TL->PR α}(hp:LookN d n part):LookN d n (F8 part):=by have e:F8 part=bP part λx l=>A5 part (l.length+1) [x] l:=rfl;rw[e];exact LookN.bind hp λx=>LookN.go hp [x]
end Go.Proofs.YthndhaolemgbdaaGreatDoor
namespace Go.Proofs.YthndhaolemgbdaaGreatDoor
open Go.Ax
variable {α β:Type}{n:Nat}{d:Bool}
theorem Jw{l:TL}(h:l≠[])(sg:List (Str×Int))(m:TL):sg.find? (λp=>isT p.1 (l++m))=sg.find? (λp=>isT p.1 l):=by simp only[Bz h]
theorem Xo{m:TL}(h:G1 d m){sg:List (Str×Int)}(hs:∀p,p∈sg->p.1≠[59]/\nqW p.1):sg.find? (λp=>isT p.1 m)=none :=List.find?_eq_none.2 λp hp=>by simp[Abr h (hs p hp).1 (hs p hp).2]
theorem LookN.find{sg:List (Str×Int)}(hs:∀p,p∈sg->p.1≠[59]/\nqW p.1){P:Str×Int->TL->PR α}{f:TL->PR α}(hp:∀p,LookN d n (P p))(hf:LookN d n f):LookN d n (λl=>match sg.find? (λp=>isT p.1 l) with|some p=>P p l.tail|none=>f l) where
 le l e l' hl h:=by have ht:=A2 l;cases hi:sg.find? (λp=>isT p.1 l) with|some p=>simp only[hi] at h;have:=(hp p).le _ e l' (by omega) h;omega|none=>simp only[hi] at h;exact hf.le l e l' hl h
 ler l q hl h:=by have ht:=A2 l;cases hi:sg.find? (λp=>isT p.1 l) with|some p=>simp only[hi] at h;have:=(hp p).ler _ q (by omega) h;omega|none=>simp only[hi] at h;exact hf.ler l q hl h
 ok l m e l' hl h hc:=by
  have ht:=A2 l;cases hi:sg.find? (λp=>isT p.1 l) with
  |some p =>simp only[hi] at h;have hn:=I8 (Vd hi);simp only[Jw hn,hi,Ct hn];exact(hp p).ok _ m e l' (by omega) h hc
  |none =>
   simp only[hi] at h;have hh:=hf.ok l m e l' hl h hc;by_cases hn:l=[]
   ·subst hn;have hle:=hf.le [] e l' hl h;have hl':l' = []:=List.length_eq_zero_iff.1 (Nat.le_zero.1 hle);have hq:G1 d m:=hc.resolve_left (λq=>q hl');simp only[Zf2,Xo hq hs];exact hh
   ·simp only[Jw hn,hi];exact hh
 er l m q hl h hc:=by
  have ht:=A2 l;cases hi:sg.find? (λp=>isT p.1 l) with
  |some p =>simp only[hi] at h;have hn:=I8 (Vd hi);simp only[Jw hn,hi,Ct hn];exact(hp p).er _ m q (by omega) h hc
  |none =>
   simp only[hi] at h;have hh:=hf.er l m q hl h hc;by_cases hn:l=[]
   ·subst hn;have hle:=hf.ler [] q hl h;have hl':q=[]:=List.length_eq_zero_iff.1 (Nat.le_zero.1 hle);have hq:G1 d m:=(hc.resolve_left (λq=>q hl')).quiet;simp only[Zf2,Xo hq hs];exact hh
   ·simp only[Jw hn,hi];exact hh
theorem Abt{part:TL->PR Xpr}(hp:LookN d n part){sg:List (Str×Int)}(hs:∀p,p∈sg->p.1≠[59]/\nqW p.1):∀(k:Nat) (e:Xpr) (l:TL),l.length<n->l.length<k ->
  match Bv part sg k e l with|.ok (e',l')=>l'.length<=l.length/\∀k' m,(l'≠[]\/G1 d m)->(l++m).length<k'->Bv part sg k' e (l++m) = .ok (e',l'++m)|.error q=>q.length<=l.length/\∀k' m,(q≠[]\/Zn m)->(l++m).length<k'->Bv part sg k' e (l++m) = .error (q++m)
 |0,_,_,_,h=>absurd h (Zm1 _)
 |k+1,e,l,hn,hk=>by
  have ht:=A2 l;simp only[Bv];cases hi:sg.find? (λp=>isT p.1 l) with
  |none =>
   refine⟨Zn1 _,λk' m hc hk' =>?_⟩;cases k' with
   |zero=>exact absurd hk' (Zm1 _)
   |succ k' =>
    have:sg.find? (λp=>isT p.1 (l++m))=none:=by
     by_cases h0:l=[]
     ·subst h0;exact Xo (hc.resolve_left (λq=>q rfl)) hs
     ·rw[Jw h0,hi]
    simp only[Bv,this]
  |some p =>
   have h0:=I8 (Vd hi);have hlt:=Fq (Vd hi);cases hq:part l.tail with
   |error q =>simp only;have h1:=hp.ler l.tail q (by omega) hq;refine⟨by omega,λk' m hc hk' =>?_⟩;cases k' with|zero=>exact absurd hk' (Zm1 _)|succ k'=>simp only[Bv,Jw h0,hi,Ct h0,hp.er l.tail m q (by omega) hq hc]
   |ok x =>
    obtain⟨x,l1⟩:=x;have h1:=hp.le l.tail x l1 (by omega) hq;have ih:=Abt hp hs k (mkX p.2 [e,x]) l1 (by omega) (by omega);simp only;cases hr:Bv part sg k (mkX p.2 [e,x]) l1 with
    |error q =>rw[hr] at ih;simp only at ih ⊢;refine⟨by omega,λk' m hc hk' =>?_⟩;cases k' with|zero=>exact absurd hk' (Zm1 _)|succ k' =>simp only[Bv,Jw h0,hi,Ct h0,hp.ok l.tail m x l1 (by omega) hq (Bje (Afm ih.1 hc))];refine ih.2 k' m hc ?_;simp only[Zh1] at hk' ⊢;omega
    |ok y =>obtain⟨e,l'⟩:=y;rw[hr] at ih;simp only at ih ⊢;refine⟨by omega,λk' m hc hk' =>?_⟩;cases k' with|zero=>exact absurd hk' (Zm1 _)|succ k' =>simp only[Bv,Jw h0,hi,Ct h0,hp.ok l.tail m x l1 (by omega) hq (Afm ih.1 hc)];refine ih.2 k' m hc ?_;simp only[Zh1] at hk' ⊢;omega
theorem LookN.left{part:TL->PR Xpr}(hp:LookN d n part){sg:List (Str×Int)}(hs:∀p,p∈sg->p.1≠[59]/\nqW p.1):LookN d n (Cp part sg):=by
 have e:Cp part sg=bP part λx l=>Bv part sg (l.length+1) x l:=by funext l;simp only[Cp,bP];cases part l<;>rfl
 rw[e];refine LookN.bind hp λx=>⟨λl e l' hl h =>?_,λl q hl h =>?_,λl m e l' hl h hc =>?_,λl m q hl h hc =>?_⟩
 ·have:=Abt hp hs (l.length+1) x l hl (by omega);have h:Bv part sg (l.length+1) x l=_:=h;rw[h] at this;exact this.1
 ·have:=Abt hp hs (l.length+1) x l hl (by omega);have h:Bv part sg (l.length+1) x l=_:=h;rw[h] at this;exact this.1
 ·have:=Abt hp hs (l.length+1) x l hl (by omega);have h:Bv part sg (l.length+1) x l=_:=h;rw[h] at this;exact this.2 _ m hc (by omega)
 ·have:=Abt hp hs (l.length+1) x l hl (by omega);have h:Bv part sg (l.length+1) x l=_:=h;rw[h] at this;exact this.2 _ m hc (by omega)
theorem Abe(s:Str)(k:Int)(part:TL->PR Xpr)(l:TL):A8 s k part l=match isT s l with
  |true=>bP (A8 s k part) (λe=>Bd (mkX k [e])) l.tail
  |false=>part l:=by
 cases l with
 |nil=>rfl
 |cons t r =>simp only[A8];cases isT s (t::r) with|false=>rfl|true =>simp only[bP,List.tail_cons];cases A8 s k part r<;>rfl
theorem LookN.mono{m:Nat}(h:m<=n){p:TL->PR α}(hp:LookN d n p):LookN d m p :=⟨λl e l' hl=>hp.le l e l' (by omega),λl q hl=>hp.ler l q (by omega),λl m e l' hl=>hp.ok l m e l' (by omega),λl m q hl=>hp.er l m q (by omega)⟩
theorem Yt{s:Str}{k:Int}(h1:s≠[59])(h2:nqW s){part:TL->PR Xpr}:∀n,LookN d n part->LookN d n (A8 s k part)
 |0,_=>⟨λ_ _ _ h=>absurd h (Zm1 _),λ_ _ h=>absurd h (Zm1 _),λ_ _ _ _ h=>absurd h (Zm1 _),λ_ _ _ h=>absurd h (Zm1 _)⟩
 |n+1,hp=>by
  have ih:=LookN.bind (Yt (k:=k) h1 h2 n (hp.mono (Nat.le_succ n))) (λe=>LookN.pure (n:=n) (mkX k [e]));refine⟨λl e l' hl h =>?_,λl q hl h =>?_,λl m e l' hl h hc =>?_,λl m q hl h hc =>?_⟩
  ·rw[Abe] at h;cases hi:isT s l with|true=>rw[hi] at h;have hlt:=Fq hi;have:=ih.le _ e l' (by omega) h;omega|false=>rw[hi] at h;exact hp.le l e l' hl h
  ·rw[Abe] at h;cases hi:isT s l with|true=>rw[hi] at h;have hlt:=Fq hi;have:=ih.ler _ q (by omega) h;omega|false=>rw[hi] at h;exact hp.ler l q hl h
  ·rw[Abe] at h ⊢;cases hi:isT s l with
   |true =>rw[hi] at h;have hn:=I8 hi;have hlt:=Fq hi;rw[Bz hn,hi,Ct hn];exact ih.ok _ m e l' (by omega) h hc
   |false =>
    rw[hi] at h;have hh:=hp.ok l m e l' hl h hc;by_cases hn:l=[]
    ·subst hn;have hle:=hp.le [] e l' hl h;have hl':l' = []:=List.length_eq_zero_iff.1 (Nat.le_zero.1 hle);have hq:G1 d m:=hc.resolve_left (λq=>q hl');rw[Zf2,Abr hq h1 h2];exact hh
    ·rw[Bz hn,hi];exact hh
  ·rw[Abe] at h ⊢;cases hi:isT s l with
   |true =>rw[hi] at h;have hn:=I8 hi;have hlt:=Fq hi;rw[Bz hn,hi,Ct hn];exact ih.er _ m q (by omega) h hc
   |false =>
    rw[hi] at h;have hh:=hp.er l m q hl h hc;by_cases hn:l=[]
    ·subst hn;have hle:=hp.ler [] q hl h;have hl':q=[]:=List.length_eq_zero_iff.1 (Nat.le_zero.1 hle);have hq:Zn m:=hc.resolve_left (λq=>q hl');rw[Zf2,Agz hq h1];exact hh
    ·rw[Bz hn,hi];exact hh
def isQ(e:Xpr):TL->PR Xpr:=λl=>match isT Eg l with
 |true=>(λl=>match isT B5 l with|true=>Bd (mkX 3 [mkX 16 [e]]) l.tail|false =>.error l) l.tail
 |false=>(λl=>match isT B5 l with|true=>Bd (mkX 16 [e]) l.tail|false =>.error l) l
theorem Bi7(e:Xpr):LookN d n (isQ e):=LookN.opt (by decide) (by decide) (LookN.req (by decide) (LookN.pure _)) (LookN.req (by decide) (LookN.pure _))
theorem Bmy(sum:TL->PR Xpr):Rs sum=bP sum λe l=>match cmpS.find? (λp=>isT p.1 l) with
  |some p=>bP sum (λx=>Bd (mkX p.2 [e,x])) l.tail
  |none=>(λl=>match isT sIS l with|true=>isQ e l.tail|false=>Bd e l) l:=by
 funext l;simp only[Rs,bP];cases sum l with
 |error q=>rfl
 |ok x =>obtain⟨e,l'⟩:=x;simp only;cases cmpS.find? (λp=>isT p.1 l') with|none=>rfl|some p =>simp only;cases sum l'.tail<;>rfl
theorem Bgr{sum:TL->PR Xpr}(hp:LookN d n sum):LookN d n (Rs sum):=by rw[Bmy];exact LookN.bind hp λe=>LookN.find (by decide) (λp=>LookN.bind hp λx=>LookN.pure _) (LookN.opt (by decide) (by decide) (Bi7 e) (LookN.pure e))
def brP(rec:TL->PR Xpr):TL->PR Xpr:=bP rec λe l=>match isT [41] l with|true=>Bd e l.tail|false =>.error l
theorem Ben(rec:TL->PR Xpr)(t:Tok)(r:TL):Bg rec (t::r) =
  if t.kind=2 then .ok (.mk 2 ⟨0,0,[]⟩ t.s [],r)
  else if t.kind=3 then .ok (R1 3 t.n [],r)
  else if t.kind=4 then .ok (R1 4 0 t.s,r)
  else if t.kind=5 then .ok (R1 5 0 t.s,r)
  else if t.kind=1/\t.s=R7 then .ok (R1 2 1 [],r)
  else if t.kind=1/\t.s=Kc then .ok (R1 2 0 [],r)
  else if t.kind=1/\t.s=B5 then .ok (R1 1 0 [],r)
  else match isT [40] (t::r) with
   |true=>brP rec r
   |false =>.error (t::r):=by
 simp only[Bg]
 repeat (split; · rfl)
 cases h:isT [40] (t::r) with
 |false=>rfl
 |true =>simp only[brP,bP,if_true];cases rec r with|error q=>rfl|ok x =>obtain⟨e,l'⟩:=x;simp only;cases isT [41] l'<;>rfl
def Wt(t:Tok):Option Xpr :=
 if t.kind=2 then some (.mk 2 ⟨0,0,[]⟩ t.s [])
 else if t.kind=3 then some (R1 3 t.n [])
 else if t.kind=4 then some (R1 4 0 t.s)
 else if t.kind=5 then some (R1 5 0 t.s)
 else if t.kind=1/\t.s=R7 then some (R1 2 1 [])
 else if t.kind=1/\t.s=Kc then some (R1 2 0 [])
 else if t.kind=1/\t.s=B5 then some (R1 1 0 [])
 else none
theorem F1(rec:TL->PR Xpr)(t:Tok)(r:TL):Bg rec (t::r)=match Wt t with
  |some v =>.ok (v,r)
  |none=>match isT [40] (t::r) with
   |true=>brP rec r
   |false =>.error (t::r):=by
 rw[Ben];unfold Wt;by_cases h2:t.kind=2
 ·rw[if_pos h2,if_pos h2]
 rw[if_neg h2,if_neg h2];by_cases h3:t.kind=3
 ·rw[if_pos h3,if_pos h3]
 rw[if_neg h3,if_neg h3];by_cases h4:t.kind=4
 ·rw[if_pos h4,if_pos h4]
 rw[if_neg h4,if_neg h4];by_cases h5:t.kind=5
 ·rw[if_pos h5,if_pos h5]
 rw[if_neg h5,if_neg h5];by_cases h6:t.kind=1/\t.s=R7
 ·rw[if_pos h6,if_pos h6]
 rw[if_neg h6,if_neg h6];by_cases h7:t.kind=1/\t.s=Kc
 ·rw[if_pos h7,if_pos h7]
 rw[if_neg h7,if_neg h7];by_cases h8:t.kind=1/\t.s=B5
 ·rw[if_pos h8,if_pos h8]
 rw[if_neg h8,if_neg h8]
theorem Bpv{t:Tok}(h:t.kind=6):Wt t=none:=by unfold Wt;rw[h];rfl
theorem Az9{rec:TL->PR Xpr}(hr:LookN d n rec):LookN d (n+1) (Bg rec):=by
 have hb:LookN d n (brP rec):=LookN.bind hr λe=>LookN.req (by decide) (LookN.pure e);refine⟨λl e l' hl h =>?_,λl q hl h =>?_,λl m e l' hl h hc =>?_,λl m q hl h hc =>?_⟩
 ·cases l with
  |nil=>cases h
  |cons t r =>
   simp only[Zf1] at hl ⊢;rw[F1] at h;cases hv:Wt t with
   |some v=>rw[hv] at h;cases h;omega
   |none =>rw[hv] at h;cases hi:isT [40] (t::r) with|true=>rw[hi] at h;have:=hb.le r e l' (by omega) h;omega|false=>rw[hi] at h;cases h
 ·cases l with
  |nil=>cases h;exact Zn1 _
  |cons t r =>
   simp only[Zf1] at hl ⊢;rw[F1] at h;cases hv:Wt t with
   |some v=>rw[hv] at h;cases h
   |none =>rw[hv] at h;cases hi:isT [40] (t::r) with|true=>rw[hi] at h;have:=hb.ler r q (by omega) h;omega|false=>rw[hi] at h;cases h;simp
 ·cases l with
  |nil=>cases h
  |cons t r =>
   simp only[Zf1] at hl;have e1:isT [40] (t::(r++m))=isT [40] (t::r):=rfl;rw[F1] at h;rw[Zb2,F1,e1];cases hv:Wt t with
   |some v=>rw[hv] at h;cases h;rfl
   |none =>rw[hv] at h;cases hi:isT [40] (t::r) with|true=>rw[hi] at h;exact hb.ok r m e l' (by omega) h hc|false=>rw[hi] at h;cases h
 ·cases l with
  |nil =>
   cases h;have hq:Zn m:=hc.resolve_left (λq=>q rfl);cases m with
   |nil=>exact hq.elim
   |cons t r =>
    obtain⟨k6,ks⟩:=hq;have e1:isT [40] (t::r)=false:=by simp[isT,ks]
    rw[Zf2,F1,e1,Bpv k6]
  |cons t r =>
   simp only[Zf1] at hl;have e1:isT [40] (t::(r++m))=isT [40] (t::r):=rfl;rw[F1] at h;rw[Zb2,F1,e1];cases hv:Wt t with
   |some v=>rw[hv] at h;cases h
   |none =>rw[hv] at h;cases hi:isT [40] (t::r) with|true=>rw[hi] at h;exact hb.er r m q (by omega) h hc|false=>rw[hi] at h;cases h;rfl
theorem Bhi{rec:TL->PR Xpr}(hr:LookN d n rec)(k:Nat):LookN d (n+1) (lev rec k):=by have h7:LookN d (n+1) (A8 [45] 15 (Bg rec)):=Yt (by decide) (by decide) _ (Az9 hr);have h6:=LookN.left (sg:=[([42],14)]) h7 (by decide);have h5:=LookN.left (sg:=[([43],12),([45],13)]) h6 (by decide);have h4:=Bgr h5;have h3:LookN d (n+1) (A8 Eg 3 _):=Yt (by decide) (by decide) _ h4;have h2:=LookN.left (sg:=[(Al8,4)]) h3 (by decide);have h1:=LookN.left (sg:=[(sOR,5)]) h2 (by decide);match k with|0=>exact h7|1=>exact h1|2=>exact h2|3=>exact h3|4=>exact h4|5=>exact h5|6=>exact h6|k+7=>exact h7
theorem Aa9:∀n,LookN d n orW
 |0=>⟨λ_ _ _ h=>absurd h (Zm1 _),λ_ _ h=>absurd h (Zm1 _),λ_ _ _ _ h=>absurd h (Zm1 _),λ_ _ _ h=>absurd h (Zm1 _)⟩
 |n+1=>by have e:orW=lev orW 1:=funext Aqk;have h:=Bhi (Aa9 n) 1;rw[<-e] at h;exact h
theorem Zd{s:Str}{ss:List Str}(h1:s≠[59])(h2:nqW s)(h3:∀x,x∈ss->x≠[59]):LookN d n (Mb s ss):=by
 have e:Mb s ss=λl=>match isT s l with|true=>bP (A4 ss) (λ_=>Bd true) l.tail|false=>Bd false l:=by funext l;simp only[Mb,bP];cases isT s l with|false=>rfl|true =>simp only;cases A4 ss l.tail<;>rfl
 rw[e];exact LookN.opt h1 h2 (LookN.bind (LookN.must ss h3) λ_=>LookN.pure true) (LookN.pure false)
theorem Aix:LookN d n Ns:=LookN.bind (LookN.must _ (by decide)) λ_=>LookN.bind (LookN.list Cn) λx=>LookN.bind (LookN.must _ (by decide)) λ_=>LookN.pure x
theorem Aid:LookN d n P5:=LookN.list (Aa9 n)
theorem Aos:LookN d n Kh:=LookN.opt (p:=Bd 2) (by decide) (by decide) (LookN.pure _) (LookN.opt (p:=Bd 3) (by decide) (by decide) (LookN.pure _) (LookN.opt (p:=Bd 4) (by decide) (by decide) (LookN.pure _) (LookN.req (p:=Bd 5) (by decide) (LookN.pure _))))
theorem Av6:LookN d n Agl:=LookN.opt (p:=Bj) (f:=Bd []) (by decide) (by decide) Cn (LookN.pure _)
theorem Bcj:LookN d n A85:=LookN.bind Cn λ_=>LookN.bind Aos λ_=>LookN.bind (Zd (by decide) (by decide) (by decide)) λ_=>LookN.bind (Zd (by decide) (by decide) (by decide)) λ_=>LookN.bind Av6 λ_=>LookN.pure _
theorem Apg:LookN d n Om:=LookN.bind Bcj λ_=>LookN.bind (LookN.must _ (by decide)) λ_=>LookN.pure _
end Go.Proofs.YthndhaolemgbdaaGreatDoor
namespace Go.Proofs.YthndhaolemgbdaaGreatDoor
open Go.Ax
variable {α β:Type}{n:Nat}{d:Bool}
theorem Bdu{γ:Type}{p:TL->PR α}{f : α->TL->PR β}{g : β->TL->PR γ}:bP (bP p f) g=bP p λx=>bP (f x) g:=by funext l;simp only[bP];cases p l<;>rfl
theorem Bks{l l1:TL}{x:Col}(h:Om l = .ok (x,l1)):l1.length<l.length:=by
 have hr:∀(k:Nat) (nm:Str),LookN false k (bP (bP Kh λkd=>bP (Mb Eg [B5]) λnn=>bP (Mb F6 []) λu=>bP Agl λr=>Bd (Col.mk nm kd nn u r)) λc=>bP (A4 [[44]]) λ_=>Bd c):=λk nm=>LookN.bind (LookN.bind Aos λ_=>LookN.bind (Zd (by decide) (by decide) (by decide)) λ_=>LookN.bind (Zd (by decide) (by decide) (by decide)) λ_=>LookN.bind Av6 λ_=>LookN.pure _) λ_=>LookN.bind (LookN.must _ (by decide)) λ_=>LookN.pure _;have e:Om=bP Bj λnm=>bP (bP Kh λkd=>bP (Mb Eg [B5]) λnn=>bP (Mb F6 []) λu=>bP Agl λr=>Bd (Col.mk nm kd nn u r)) λc=>bP (A4 [[44]]) λ_=>Bd c:=Bdu;rw[e] at h;cases l with
 |nil=>cases h
 |cons t r =>simp only[bP,Bj] at h;cases hk:decide (t.kind=2) with|false=>rw[hk] at h;cases h|true =>rw[hk] at h;have:=(hr (r.length+1) t.s).le r x l1 (by omega) h;simp only[Zf1];omega
theorem Ou{d:Bool}:∀(k:Nat) (acc:List Col) (l:TL),l.length<n->l.length<k ->
  match Cr k acc l with|.ok (e,l')=>l'.length<=l.length/\∀k' m,(l'≠[]\/G1 d m)->(l++m).length<k'->Cr k' acc (l++m) = .ok (e,l'++m)|.error q=>q.length<=l.length/\∀k' m,(q≠[]\/Zn m)->(l++m).length<k'->Cr k' acc (l++m) = .error (q++m)
 |0,_,_,_,h=>absurd h (Zm1 _)
 |k+1,acc,l,hn,hk=>by
  have ht:=A2 l;have hp:LookN d n Om:=Apg;simp only[Cr];cases hi:isT Dq l with
  |true =>have h0:=I8 hi;refine⟨by omega,λk' m hc hk' =>?_⟩;cases k' with|zero=>exact absurd hk' (Zm1 _)|succ k'=>simp only[Cr,Bz h0,hi,Ct h0]
  |false =>
   cases hq:Om l with
   |error q =>
    simp only;have h1:=hp.ler l q hn hq;refine⟨h1,λk' m hc hk' =>?_⟩;cases k' with
    |zero=>exact absurd hk' (Zm1 _)
    |succ k' =>
     have hi2:isT Dq (l++m)=false:=by
      by_cases h0:l=[]
      ·subst h0;have hq0:q=[]:=List.length_eq_zero_iff.1 (Nat.le_zero.1 h1);exact Agz (hc.resolve_left (λh=>h hq0)) (by decide)
      ·rw[Bz h0,hi]
     simp only[Cr,hi2,hp.er l m q hn hq hc]
   |ok x =>
    obtain⟨x,l1⟩:=x;have h1:=hp.le l x l1 hn hq;have h2:l1.length<l.length:=Bks hq;have h0:l≠[]:=by rintro rfl;exact absurd h2 (Zm1 _)
    have ih:=Ou (d:=d) k (acc++[x]) l1 (by omega) (by omega);simp only;cases hr:Cr k (acc++[x]) l1 with
    |error q =>rw[hr] at ih;simp only at ih ⊢;refine⟨by omega,λk' m hc hk' =>?_⟩;cases k' with|zero=>exact absurd hk' (Zm1 _)|succ k' =>simp only[Cr,Bz h0,hi,hp.ok l m x l1 hn hq (Bje (Afm ih.1 hc))];refine ih.2 k' m hc ?_;simp only[Zh1] at hk' ⊢;omega
    |ok y =>obtain⟨e,l'⟩:=y;rw[hr] at ih;simp only at ih ⊢;refine⟨by omega,λk' m hc hk' =>?_⟩;cases k' with|zero=>exact absurd hk' (Zm1 _)|succ k' =>simp only[Cr,Bz h0,hi,hp.ok l m x l1 hn hq (Afm ih.1 hc)];refine ih.2 k' m hc ?_;simp only[Zh1] at hk' ⊢;omega
theorem Avr(acc:List Col):LookN d n (λl=>Cr (l.length+1) acc l) where
 le l e l' hl h:=by have:=Ou (d:=d) (l.length+1) acc l hl (by omega);have h:Cr (l.length+1) acc l=_:=h;rw[h] at this;exact this.1
 ler l q hl h:=by have:=Ou (d:=d) (l.length+1) acc l hl (by omega);have h:Cr (l.length+1) acc l=_:=h;rw[h] at this;exact this.1
 ok l m e l' hl h hc:=by have:=Ou (d:=d) (l.length+1) acc l hl (by omega);have h:Cr (l.length+1) acc l=_:=h;rw[h] at this;exact this.2 _ m hc (by omega)
 er l m q hl h hc:=by have:=Ou (d:=d) (l.length+1) acc l hl (by omega);have h:Cr (l.length+1) acc l=_:=h;rw[h] at this;exact this.2 _ m hc (by omega)
theorem A8a:LookN d n Xb:=by
 have e:Xb=bP Om λx l=>Cr (l.length+1) [x] l:=by funext l;simp only[Xb,bP];cases Om l<;>rfl
 rw[e];exact LookN.bind Apg λx=>Avr [x]
theorem Bbc:LookN d n Aki:=LookN.bind (LookN.must _ (by decide)) λ_=>LookN.bind (Aa9 n) λ_=>LookN.bind (LookN.must _ (by decide)) λ_=>LookN.pure _
theorem Ay3:LookN d n P9:=LookN.bind Cn λ_=>LookN.bind (LookN.must _ (by decide)) λ_=>LookN.bind A8a λ_=>LookN.bind (LookN.must _ (by decide)) λ_=>LookN.bind Aix λ_=>LookN.bind (LookN.go Bbc []) λ_=>LookN.bind (LookN.must _ (by decide)) λ_=>LookN.pure _
theorem Azp:LookN d n Rh:=LookN.bind (LookN.must _ (by decide)) λ_=>LookN.bind Cn λ_=>LookN.bind (LookN.must _ (by decide)) λ_=>LookN.bind Cn λ_=>LookN.bind Aix λ_=>LookN.pure _
theorem Age:LookN d n E0:=LookN.opt (by decide) (by decide) Ay3 Azp
theorem Anu:LookN d n Sa:=LookN.opt (by decide) (by decide) (LookN.bind Cn λ_=>LookN.pure _) (LookN.bind (LookN.must _ (by decide)) λ_=>LookN.bind Cn λ_=>LookN.pure _)
theorem Bdc:LookN d n Az0:=LookN.bind (LookN.must _ (by decide)) λ_=>LookN.bind Aid λ_=>LookN.bind (LookN.must _ (by decide)) λ_=>LookN.pure _
theorem Aev:LookN d n Gr:=LookN.bind (LookN.must _ (by decide)) λ_=>LookN.bind Cn λ_=>LookN.bind (LookN.must _ (by decide)) λ_=>LookN.bind (LookN.list Bdc) λ_=>LookN.pure _
theorem Ru:LookN d n Fo:=by
 have e:Fo=λl=>match isT Hu l with|true=>bP orW (λe=>Bd (true,e)) l.tail|false=>Bd (false,zX) l:=by funext l;simp only[Fo,bP];cases isT Hu l with|false=>rfl|true =>simp only;cases orW l.tail<;>rfl
 rw[e];exact LookN.opt (by decide) (by decide) (LookN.bind (Aa9 n) λ_=>LookN.pure _) (LookN.pure _)
theorem Bdj:LookN d n A1j:=LookN.bind Cn λ_=>LookN.bind (LookN.must _ (by decide)) λ_=>LookN.bind (Aa9 n) λ_=>LookN.pure _
theorem Afj:LookN d n Gx:=LookN.bind Cn λ_=>LookN.bind (LookN.must _ (by decide)) λ_=>LookN.bind (LookN.list Bdj) λ_=>LookN.bind Ru λ_=>LookN.pure _
theorem Ae0:LookN d n Jp:=LookN.bind (LookN.must _ (by decide)) λ_=>LookN.bind Cn λ_=>LookN.bind Ru λ_=>LookN.pure _
theorem Anl:LookN d n Wx:=LookN.opt (p:=Bd []) (by decide) (by decide) (LookN.pure _) Aid
theorem Ban:LookN false n N3:=LookN.opt' (p:=Bd true) (by decide) (λ_ h=>A55 h (.inl rfl)) (LookN.pure _) (LookN.opt' (p:=Bd false) (f:=Bd false) (by decide) (λ_ h=>A55 h (.inr rfl)) (LookN.pure _) (LookN.pure _))
theorem Abo:LookN false n Lb:=LookN.bind Cn λ_=>LookN.bind Ban λ_=>LookN.pure _
theorem Ajl:LookN false n Dw:=LookN.opt (f:=Bd []) (by decide) (by decide) (LookN.bind (LookN.must _ (by decide)) λ_=>LookN.list Abo) (LookN.pure _)
theorem Aks:LookN d n Ei:=LookN.opt (p:=Aap) (f:=Bd (-1)) (by decide) (by decide) Bee (LookN.pure _)
theorem Auq:LookN false n Fh:=LookN.bind Anl λ_=>LookN.bind (LookN.must _ (by decide)) λ_=>LookN.bind Cn λ_=>LookN.bind Ru λ_=>LookN.bind Ajl λ_=>LookN.bind Aks λ_=>LookN.pure _
theorem Kz:LookN false n G0:=LookN.opt (by decide) (by decide) Age (LookN.opt (by decide) (by decide) Anu (LookN.opt (by decide) (by decide) Aev (LookN.opt (by decide) (by decide) Afj (LookN.opt (by decide) (by decide) Ae0 (LookN.req (by decide) Auq)))))
end Go.Proofs.YthndhaolemgbdaaGreatDoor
namespace Go.Proofs.YthndhaolemgbdaaGreatDoor
open Go.Ax
inductive Der:TL->Xpr->Prop
 |lit {t:Tok}{v:Xpr}:Wt t=some v->Der [t] v
 |br {o c:Tok}{ts:TL}{e:Xpr}:isT [40] [o]=true->isT [41] [c]=true->Der ts e->Der (o::(ts++[c])) e
 |un {s:Str}{k:Int}{t:Tok}{ts:TL}{e:Xpr}:(s=Eg/\k=3\/s=[45]/\k=15)->isT s [t]=true->Der ts e->Der (t::ts) (mkX k [e])
 |op {s:Str}{p:Nat}{k:Int}{o:Tok}{ts us:TL}{a b:Xpr}:(s,p,k)∈opTab->isT s [o]=true->Der ts a->Der us b->Der (ts++o::us) (mkX k [a,b])
 |isn {o n:Tok}{ts:TL}{e:Xpr}:isT sIS [o]=true->isT B5 [n]=true->Der ts e->Der (ts++[o,n]) (mkX 16 [e])
 |nis {o m n:Tok}{ts:TL}{e:Xpr}:isT sIS [o]=true->isT Eg [m]=true->isT B5 [n]=true->Der ts e->Der (ts++[o,m,n]) (mkX 3 [mkX 16 [e]])
def Cns{α:Type}(p:TL->PR α)(Q:TL->α->Prop):Prop:=∀l e l',p l = .ok (e,l')->∃c,l=c++l'/\Q c e
theorem G4{s:Str}{l:TL}(h:isT s l=true):∃t,l=t::l.tail/\isT s [t]=true:=by cases l with|nil=>cases h|cons t r=>exact⟨t,rfl,h⟩
theorem A8e{rec:TL->PR Xpr}(h:Cns rec Der):Cns (Bg rec) Der:=λl e l' hp=>by
 cases l with
 |nil=>cases hp
 |cons t r =>
  rw[F1] at hp;cases hv:Wt t with
  |some v =>rw[hv] at hp;cases hp;exact⟨[t],rfl,.lit hv⟩
  |none =>
   rw[hv] at hp;cases hi:isT [40] (t::r) with
   |false=>rw[hi] at hp;cases hp
   |true =>
    rw[hi] at hp;simp only[brP,bP] at hp;cases hq:rec r with
    |error q=>rw[hq] at hp;cases hp
    |ok x =>obtain⟨e1,l1⟩:=x;rw[hq] at hp;simp only at hp;cases hj:isT [41] l1 with|false=>rw[hj] at hp;cases hp|true =>rw[hj] at hp;cases hp;obtain⟨c,hc,hd⟩:=h r e l1 hq;obtain⟨z,hz,hz1⟩:=G4 hj;exact⟨t::(c++[z]),by rw[hc,hz];simp,.br hi hz1 hd⟩
theorem Bfj{part:TL->PR Xpr}{sg:List (Str×Int)}(h:Cns part Der)(hs:∀q,q∈sg->∃p,(q.1,p,q.2)∈opTab):∀(n:Nat) (c0:TL) (e:Xpr) (l:TL) (e':Xpr) (l':TL),Der c0 e->Bv part sg n e l = .ok (e',l')->∃c,l=c++l'/\Der (c0++c) e'
 |0,_,_,_,_,_,_,hp=>by cases hp
 |n+1,c0,e,l,e',l',h0,hp=>by
  simp only[Bv] at hp;cases hf:sg.find? (λp=>isT p.1 l) with
  |none =>rw[hf] at hp;cases hp;exact⟨[],rfl,by rw[List.append_nil];exact h0⟩
  |some p =>
   rw[hf] at hp;have hi:=Vd hf;obtain⟨q,hq⟩:=hs p (List.mem_of_find?_eq_some hf);obtain⟨t,ht,ht1⟩:=G4 hi;cases hx:part l.tail with
   |error q=>simp only[hx] at hp;cases hp
   |ok x =>
    obtain⟨x,l1⟩:=x;simp only[hx] at hp;obtain⟨c1,hc1,hd1⟩:=h _ _ _ hx;obtain⟨c2,hc2,hd2⟩:=Bfj h hs n (c0++t::c1) _ l1 e' l' (.op hq ht1 h0 hd1) hp;refine⟨t::(c1++c2),?_,?_⟩
    ·rw[ht,hc1,hc2];simp
    ·have e:c0++t::(c1++c2)=(c0++t::c1)++c2:=by simp
     rw[e];exact hd2
theorem Aa4{part:TL->PR Xpr}{sg:List (Str×Int)}(h:Cns part Der)(hs:∀q,q∈sg->∃p,(q.1,p,q.2)∈opTab):Cns (Cp part sg) Der:=λl e l' hp=>by simp only[Cp] at hp;cases hx:part l with|error q=>rw[hx] at hp;cases hp|ok x =>obtain⟨x,l1⟩:=x;rw[hx] at hp;obtain⟨c1,hc1,hd1⟩:=h _ _ _ hx;obtain⟨c2,hc2,hd2⟩:=Bfj h hs _ c1 x l1 e l' hd1 hp;exact⟨c1++c2,by rw[hc1,hc2,Zj1],hd2⟩
theorem Aca{s:Str}{k:Int}{part:TL->PR Xpr}(h:Cns part Der)(hk:s=Eg/\k=3\/s=[45]/\k=15):∀(l:TL) (e:Xpr) (l':TL),A8 s k part l = .ok (e,l')->∃c,l=c++l'/\Der c e
 |[],e,l',hp=>h _ _ _ hp
 |t::r,e,l',hp=>by
  simp only[A8] at hp;cases hi:isT s (t::r) with
  |true =>rw[hi] at hp;cases hx:A8 s k part r with|error q=>simp only[hx] at hp;cases hp|ok x =>obtain⟨x,l1⟩:=x;simp only[hx] at hp;cases hp;obtain⟨c,hc,hd⟩:=Aca h hk r x l' hx;exact⟨t::c,by rw[hc];rfl,.un hk hi hd⟩
  |false =>rw[hi] at hp;exact h _ _ _ hp
theorem Bjh:∀q,q∈cmpS->∃p,(q.1,p,q.2)∈opTab:=by intro q hq;exact⟨4,by revert q;decide⟩
theorem Bj1{sum:TL->PR Xpr}(h:Cns sum Der):Cns (Rs sum) Der:=λl e l' hp=>by
 simp only[Rs] at hp;cases hx:sum l with
 |error q=>rw[hx] at hp;cases hp
 |ok x =>
  obtain⟨x,l1⟩:=x;rw[hx] at hp;obtain⟨c1,hc1,hd1⟩:=h _ _ _ hx;subst hc1;cases hf:cmpS.find? (λp=>isT p.1 l1) with
  |some p =>simp only[hf] at hp;obtain⟨t,ht,ht1⟩:=G4 (Vd hf);obtain⟨q,hq⟩:=Bjh p (List.mem_of_find?_eq_some hf);cases hy:sum l1.tail with|error q=>simp only[hy] at hp;cases hp|ok y =>obtain⟨y,l2⟩:=y;simp only[hy] at hp;cases hp;obtain⟨c2,hc2,hd2⟩:=h _ _ _ hy;refine⟨c1++t::c2,?_,.op hq ht1 hd1 hd2⟩;rw[ht,hc2];simp
  |none =>
   simp only[hf] at hp;cases hi:isT sIS l1 with
   |false =>simp only[hi] at hp;cases hp;exact⟨c1,rfl,hd1⟩
   |true =>
    simp only[hi] at hp;obtain⟨t,ht,ht1⟩:=G4 hi;simp only[isP] at hp;cases hn:isT Eg l1.tail with
    |true =>
     rw[hn] at hp;obtain⟨m,hm,hm1⟩:=G4 hn;cases hu:isT B5 l1.tail.tail with
     |false=>simp only[hu] at hp;cases hp
     |true =>
      simp only[hu] at hp;cases hp;obtain⟨n,hn2,hn1⟩:=G4 hu;refine⟨c1++[t,m,n],?_,.nis ht1 hm1 hn1 hd1⟩;have e:l1=t::m::n::l1.tail.tail.tail:=by rw[<-hn2,<-hm,<-ht]
      rw[Zj1];exact congrArg (c1++·) e
    |false =>
     rw[hn] at hp;cases hu:isT B5 l1.tail with
     |false=>simp only[hu] at hp;cases hp
     |true =>
      simp only[hu] at hp;cases hp;obtain⟨n,hn2,hn1⟩:=G4 hu;refine⟨c1++[t,n],?_,.isn ht1 hn1 hd1⟩;have e:l1=t::n::l1.tail.tail:=by rw[<-hn2,<-ht]
      rw[Zj1];exact congrArg (c1++·) e
theorem Bi8{rec:TL->PR Xpr}(h:Cns rec Der):Cns (lev rec 1) Der:=by have h7:Cns (A8 [45] 15 (Bg rec)) Der:=Aca (A8e h) (.inr ⟨rfl,rfl⟩);have h6:=Aa4 (sg:=[([42],14)]) h7 (λq hq=>⟨6,by revert q;decide⟩);have h5:=Aa4 (sg:=[([43],12),([45],13)]) h6 (λq hq=>⟨5,by revert q;decide⟩);have h4:=Bj1 h5;have h3:Cns (A8 Eg 3 _) Der:=Aca h4 (.inl ⟨rfl,rfl⟩);have h2:=Aa4 (sg:=[(Al8,4)]) h3 (λq hq=>⟨2,by revert q;decide⟩);exact Aa4 (sg:=[(sOR,5)]) h2 (λq hq=>⟨1,by revert q;decide⟩)
theorem A28:∀n,Cns (orN n) Der
 |0=>λ_ _ _ h=>by cases h
 |n+1=>Bi8 (A28 n)
theorem Bne:Cns orW Der:=λl e l' h=>A28 _ l e l' h
def Lq(t:Ax.Tok):Prop:=G1 true [t]
def Suf{α:Type}(p:TL->PR α):Prop:=∀l e l',p l = .ok (e,l')->∃c,l=c++l'
def Las{α:Type}(p:TL->PR α):Prop:=∀l e l',p l = .ok (e,l')->∃c t,l=c++t::l'/\Lq t
def Lao{α:Type}(p:TL->PR α):Prop:=∀l e l',p l = .ok (e,l')->l=l'\/∃c t,l=c++t::l'/\Lq t
section
variable {α β:Type}
theorem Las.o{p:TL->PR α}(h:Las p):Lao p:=λl e l' hp =>.inr (h l e l' hp)
theorem Lao.s{p:TL->PR α}(h:Lao p):Suf p:=λl e l' hp=>by
 rcases h l e l' hp with h|⟨c,t,h,_⟩
 ·exact⟨[],h⟩
 ·exact⟨c++[t],by rw[h];simp⟩
theorem Las.s{p:TL->PR α}(h:Las p):Suf p:=h.o.s
theorem Wv{p:TL->PR α}{f : α->TL->PR β}{l:TL}{e : β}{l':TL}(h:bP p f l = .ok (e,l')):∃x l1,p l = .ok (x,l1)/\f x l1 = .ok (e,l'):=by unfold bP at h;cases hq:p l with|error q=>rw[hq] at h;cases h|ok x =>obtain⟨x,l1⟩:=x;rw[hq] at h;exact⟨x,l1,rfl,h⟩
theorem Suf.bind{p:TL->PR α}{f : α->TL->PR β}(h1:Suf p)(h2:∀x,Suf (f x)):Suf (bP p f):=λl e l' hp=>by obtain⟨x,l1,h3,h4⟩:=Wv hp;obtain⟨c,e1⟩:=h1 _ _ _ h3;obtain⟨d,e2⟩:=h2 x _ _ _ h4;exact⟨c++d,by rw[e1,e2,Zj1]⟩
theorem Las.bind{p:TL->PR α}{f : α->TL->PR β}(h1:Suf p)(h2:∀x,Las (f x)):Las (bP p f):=λl e l' hp=>by obtain⟨x,l1,h3,h4⟩:=Wv hp;obtain⟨c,e1⟩:=h1 _ _ _ h3;obtain⟨d,t,e2,ht⟩:=h2 x _ _ _ h4;exact⟨c++d,t,by rw[e1,e2,Zj1],ht⟩
theorem Las.bindo{p:TL->PR α}{f : α->TL->PR β}(h1:Las p)(h2:∀x,Lao (f x)):Las (bP p f):=λl e l' hp=>by
 obtain⟨x,l1,h3,h4⟩:=Wv hp;obtain⟨c,t,e1,ht⟩:=h1 _ _ _ h3;rcases h2 x _ _ _ h4 with h|⟨d,u,e2,hu⟩
 ·exact⟨c,t,by rw[e1,h],ht⟩
 ·exact⟨c++t::d,u,by rw[e1,e2,Zj1];rfl,hu⟩
theorem Lao.bind{p:TL->PR α}{f : α->TL->PR β}(h1:Lao p)(h2:∀x,Lao (f x)):Lao (bP p f):=λl e l' hp=>by
 obtain⟨x,l1,h3,h4⟩:=Wv hp;rcases h1 _ _ _ h3 with h|⟨c,t,e1,ht⟩
 ·rw[h];exact h2 x _ _ _ h4
 ·rcases h2 x _ _ _ h4 with h|⟨d,u,e2,hu⟩
  ·exact .inr ⟨c,t,by rw[e1,h],ht⟩
  ·exact .inr ⟨c++t::d,u,by rw[e1,e2,Zj1];rfl,hu⟩
theorem Cw(x : α):Lao (Bd x):=λl e l' h=>by cases h;exact .inl rfl
theorem D6(x : α):Suf (Bd x):=(Cw x).s
theorem Cb:∀ss,Suf (A4 ss)
 |[]=>λl e l' h=>by cases h;exact⟨[],rfl⟩
 |s::ss=>λl e l' h=>by simp only[A4] at h;cases hi:isT s l with|false=>rw[hi] at h;cases h|true =>rw[hi] at h;obtain⟨t,h1,_⟩:=G4 hi;obtain⟨c,h2⟩:=Cb ss _ _ _ h;exact⟨t::c,by rw[h1,h2];rfl⟩
theorem Awg{s:Str}{t:Ax.Tok}{r:TL}(h:isT s (t::r)=true):t.s=s:=by simp only[isT,Zb1,Zg1] at h;exact h.2
theorem Aaf{s:Str}(hs:s=[41]\/s=B5\/s=Dn\/s=Hl):Las (A4 [s]):=λl e l' h=>by
 simp only[A4] at h;cases hi:isT s l with
 |false=>rw[hi] at h;cases h
 |true =>
  rw[hi] at h;cases h;obtain⟨t,h1,h2⟩:=G4 hi;have:=Awg h2;refine⟨[],t,h1,?_⟩;rcases hs with hs|hs|hs|hs<;>rw[hs] at this
  ·exact .inl (.inr this)
  ·exact .inr (.inr (.inl (.inr (.inr this))))
  ·exact .inr (.inr (.inr ⟨rfl,.inl this⟩))
  ·exact .inr (.inr (.inr ⟨rfl,.inr this⟩))
theorem las_name:Las Bj:=λl e l' h=>by
 cases l with
 |nil=>cases h
 |cons t r =>simp only[Bj] at h;cases hk:decide (t.kind=2) with|false=>rw[hk] at h;cases h|true =>rw[hk] at h;cases h;have hk:=of_decide_eq_true hk;exact⟨[],t,rfl,.inr (.inl ⟨by omega,by omega⟩)⟩
theorem Bi5:Las Aap:=λl e l' h=>by
 cases l with
 |nil=>cases h
 |cons t r =>simp only[Aap] at h;cases hk:decide (t.kind=3) with|false=>rw[hk] at h;cases h|true =>rw[hk] at h;cases h;have hk:=of_decide_eq_true hk;exact⟨[],t,rfl,.inr (.inl ⟨by omega,by omega⟩)⟩
theorem Bqf{t:Ax.Tok}{v:Xpr}(h:Wt t=some v):Lq t:=by
 unfold Wt at h;split at h
 ·exact .inr (.inl ⟨by omega,by omega⟩)
 split at h
 ·exact .inr (.inl ⟨by omega,by omega⟩)
 split at h
 ·exact .inr (.inl ⟨by omega,by omega⟩)
 split at h
 ·exact .inr (.inl ⟨by omega,by omega⟩)
 split at h
 ·rename_i h5;exact .inr (.inr (.inl (.inl h5.2)))
 split at h
 ·rename_i h5;exact .inr (.inr (.inl (.inr (.inl h5.2))))
 split at h
 ·rename_i h5;exact .inr (.inr (.inl (.inr (.inr h5.2))))
 ·cases h
theorem Bqr{c:TL}{e:Xpr}(h:Der c e):∃d t,c=d++[t]/\Lq t:=by induction h with| @lit t v h=>exact⟨[],t,rfl,Bqf h⟩| @br o c ts e _ h2 _ _=>exact⟨o::ts,c,rfl,.inl (.inr (Awg h2))⟩| @un s k t ts e _ _ _ ih =>obtain⟨d,u,h,hu⟩:=ih;exact⟨t::d,u,by rw[h];rfl,hu⟩| @op s p k o ts us a b _ _ _ _ _ ih =>obtain⟨d,u,h,hu⟩:=ih;exact⟨ts++o::d,u,by rw[h];simp,hu⟩| @isn o n ts e _ h2 _ _=>exact⟨ts++[o],n,by simp,.inr (.inr (.inl (.inr (.inr (Awg h2)))))⟩| @nis o m n ts e _ _ h2 _ _=>exact⟨ts++[o,m],n,by simp,.inr (.inr (.inl (.inr (.inr (Awg h2)))))⟩
theorem las_or:Las orW:=λl e l' h=>by obtain⟨c,h1,h2⟩:=Bne l e l' h;obtain⟨d,t,h3,ht⟩:=Bqr h2;exact⟨d,t,by rw[h1,h3];simp,ht⟩
theorem X3{part:TL->PR α}(h:Las part):∀(n:Nat) (acc:List α),Lao (A5 part n acc)
 |0,_=>λ_ _ _ hp=>by cases hp
 |n+1,acc=>λl e l' hp=>by
  simp only[A5] at hp;cases hi:isT [44] l with
  |false=>rw[hi] at hp;cases hp;exact .inl rfl
  |true =>
   rw[hi] at hp;obtain⟨t,ht,_⟩:=G4 hi;cases hq:part l.tail with
   |error q=>simp only[hq] at hp;cases hp
   |ok x =>
    obtain⟨x,l1⟩:=x;simp only[hq] at hp;obtain⟨c,u,e1,hu⟩:=h _ _ _ hq;rcases X3 h n _ _ _ _ hp with e2|⟨d,w,e2,hw⟩
    ·exact .inr ⟨t::c,u,by rw[ht,e1,e2];rfl,hu⟩
    ·exact .inr ⟨t::(c++u::d),w,by rw[ht,e1,e2];simp,hw⟩
theorem J4{part:TL->PR α}(h:Las part):Las (F8 part):=by have e:F8 part=bP part λx l=>A5 part (l.length+1) [x] l:=rfl;rw[e];exact Las.bindo h λx=>λl e l' hp=>X3 h _ _ _ _ _ hp
theorem Mk{s:Str}{p f:TL->PR α}(hp:Las p)(hf:Las f):Las (λl=>match isT s l with|true=>p l.tail|false=>f l):=λl e l' h=>by cases hi:isT s l with|true =>simp only[hi] at h;obtain⟨t,ht,_⟩:=G4 hi;obtain⟨c,u,e1,hu⟩:=hp _ _ _ h;exact⟨t::c,u,by rw[ht,e1];rfl,hu⟩|false=>simp only[hi] at h;exact hf _ _ _ h
theorem Aqm{s:Str}{p f:TL->PR α}(hp:Las p)(hf:Lao f):Lao (λl=>match isT s l with|true=>p l.tail|false=>f l):=λl e l' h=>by cases hi:isT s l with|true =>simp only[hi] at h;obtain⟨t,ht,_⟩:=G4 hi;obtain⟨c,u,e1,hu⟩:=hp _ _ _ h;exact .inr ⟨t::c,u,by rw[ht,e1];rfl,hu⟩|false=>simp only[hi] at h;exact hf _ _ _ h
theorem Wm{s:Str}{p f:TL->PR α}(hp:Suf p)(hf:Suf f):Suf (λl=>match isT s l with|true=>p l.tail|false=>f l):=λl e l' h=>by cases hi:isT s l with|true =>simp only[hi] at h;obtain⟨t,ht,_⟩:=G4 hi;obtain⟨c,e1⟩:=hp _ _ _ h;exact⟨t::c,by rw[ht,e1];rfl⟩|false=>simp only[hi] at h;exact hf _ _ _ h
end
theorem las_names:Las Ns:=Las.bind (Cb _) λ_=>Las.bind (J4 las_name).s λ_=>Las.bindo (Aaf (.inl rfl)) λ_=>Cw _
theorem A7v:Las Rh:=Las.bind (Cb _) λ_=>Las.bind las_name.s λ_=>Las.bind (Cb _) λ_=>Las.bind las_name.s λ_=>Las.bindo las_names λ_=>Cw _
theorem Bct:Las Sa:=Mk (Las.bindo las_name λ_=>Cw _) (Las.bind (Cb _) λ_=>Las.bindo las_name λ_=>Cw _)
theorem A4d:Las Az0:=Las.bind (Cb _) λ_=>Las.bind (J4 las_or).s λ_=>Las.bindo (Aaf (.inl rfl)) λ_=>Cw _
theorem Ayr:Las Gr:=Las.bind (Cb _) λ_=>Las.bind las_name.s λ_=>Las.bind (Cb _) λ_=>Las.bindo (J4 A4d) λ_=>Cw _
theorem Bbw:Fo=λl=>match isT Hu l with|true=>bP orW (λe=>Bd (true,e)) l.tail|false=>Bd (false,zX) l:=by funext l;simp only[Fo,bP];cases isT Hu l with|false=>rfl|true =>simp only;cases orW l.tail<;>rfl
theorem lao_where:Lao Fo:=by rw[Bbw];exact Aqm (Las.bindo las_or λ_=>Cw _) (Cw _)
theorem A4h:Las A1j:=Las.bind las_name.s λ_=>Las.bind (Cb _) λ_=>Las.bindo las_or λ_=>Cw _
theorem Az6:Las Gx:=Las.bind las_name.s λ_=>Las.bind (Cb _) λ_=>Las.bindo (J4 A4h) λ_=>Lao.bind lao_where λ_=>Cw _
theorem Ayl:Las Jp:=Las.bind (Cb _) λ_=>Las.bindo las_name λ_=>Lao.bind lao_where λ_=>Cw _
theorem suf_star:Suf Wx:=Wm (p:=Bd []) (D6 _) (J4 las_or).s
theorem Bd0:Lao N3:=λl e l' h=>by
 have one:∀{s:Str},s=Dn\/s=Hl->isT s l=true->l' = l.tail->l=l'\/∃c t,l=c++t::l'/\Lq t:=λ{s} hs hi hl=>by obtain⟨t,ht,h2⟩:=G4 hi;refine .inr ⟨[],t,by rw[hl];exact ht,.inr (.inr (.inr ⟨rfl,?_⟩))⟩;rw[Awg h2];exact hs
 simp only[N3] at h;cases h1:isT Dn l with
 |true=>rw[h1] at h;cases h;exact one (.inl rfl) h1 rfl
 |false =>rw[h1] at h;cases h2:isT Hl l with|true=>rw[h2] at h;cases h;exact one (.inr rfl) h2 rfl|false=>rw[h2] at h;cases h;exact .inl rfl
theorem Bkk:Las Lb:=Las.bindo las_name λ_=>Lao.bind Bd0 λ_=>Cw _
theorem lao_order:Lao Dw:=Aqm (f:=Bd []) (Las.bind (Cb _) λ_=>J4 Bkk) (Cw _)
theorem lao_limit:Lao Ei:=Aqm (p:=Aap) (f:=Bd (-1)) Bi5 (Cw _)
theorem A0y:Las Fh:=Las.bind suf_star λ_=>Las.bind (Cb _) λ_=>Las.bindo las_name λ_=>Lao.bind lao_where λ_=>Lao.bind lao_order λ_=>Lao.bind lao_limit λ_=>Cw _
theorem Bec:Suf Kh:=Wm (p:=Bd 2) (D6 _) (Wm (p:=Bd 3) (D6 _) (Wm (p:=Bd 4) (D6 _) (Wm (p:=Bd 5) (f:=λl =>.error l) (D6 _) λ_ _ _ h=>by cases h)))
theorem Avo(s:Str)(ss:List Str):Suf (Mb s ss):=λl e l' h=>by
 simp only[Mb] at h;cases hi:isT s l with
 |false=>rw[hi] at h;cases h;exact⟨[],rfl⟩
 |true =>rw[hi] at h;obtain⟨t,ht,_⟩:=G4 hi;cases hq:A4 ss l.tail with|error q=>simp only[hq] at h;cases h|ok x =>obtain⟨x,l1⟩:=x;simp only[hq] at h;cases h;obtain⟨c,e1⟩:=Cb ss _ _ _ hq;exact⟨t::c,by rw[ht,e1];rfl⟩
theorem Awl:Suf Om:=Suf.bind (Suf.bind las_name.s λ_=>Suf.bind Bec λ_=>Suf.bind (Avo _ _) λ_=>Suf.bind (Avo _ _) λ_=>Suf.bind (Wm (p:=Bj) (f:=Bd []) las_name.s (D6 _)) λ_=>D6 _) λ_=>Suf.bind (Cb _) λ_=>D6 _
theorem Alh:∀(n:Nat) (acc:List Col),Suf (Cr n acc)
 |0,_=>λ_ _ _ h=>by cases h
 |n+1,acc=>λl e l' h=>by
  simp only[Cr] at h;cases hi:isT Dq l with
  |true =>rw[hi] at h;obtain⟨t,ht,_⟩:=G4 hi;cases h;exact⟨[t],ht⟩
  |false =>rw[hi] at h;cases hq:Om l with|error q=>simp only[hq] at h;cases h|ok x =>obtain⟨x,l1⟩:=x;simp only[hq] at h;obtain⟨c,e1⟩:=Awl _ _ _ hq;obtain⟨d,e2⟩:=Alh n _ _ _ _ h;exact⟨c++d,by rw[e1,e2,Zj1]⟩
theorem Bb7:Suf Xb:=λl e l' h=>by simp only[Xb] at h;cases hq:Om l with|error q=>simp only[hq] at h;cases h|ok x =>obtain⟨x,l1⟩:=x;simp only[hq] at h;obtain⟨c,e1⟩:=Awl _ _ _ hq;obtain⟨d,e2⟩:=Alh _ _ _ _ _ h;exact⟨c++d,by rw[e1,e2,Zj1]⟩
theorem Bk8:Las Aki:=Las.bind (Cb _) λ_=>Las.bind las_or.s λ_=>Las.bindo (Aaf (.inl rfl)) λ_=>Cw _
theorem las_table:Las P9:=Las.bind las_name.s λ_=>Las.bind (Cb _) λ_=>Las.bind Bb7 λ_=>Las.bind (Cb _) λ_=>Las.bind las_names.s λ_=>Las.bind (λl e l' h=>(X3 Bk8 _ _).s l e l' h) λ_=>Las.bindo (Aaf (.inl rfl)) λ_=>Cw _
theorem Bc4:Las G0:=Mk (Mk las_table A7v) (Mk Bct (Mk Ayr (Mk Az6 (Mk Ayl (Mk (f:=λl =>.error l) A0y λ_ _ _ h=>by cases h)))))
section
variable {t:Ax.Tok}
theorem Bbu(ht:t.s=Dn\/t.s=Hl):G1 true [t] :=.inr (.inr (.inr ⟨rfl,ht⟩))
theorem Bbq(ht:t.s=Dn\/t.s=Hl){s:Str}(h1:s≠Dn)(h2:s≠Hl):isT s [t]=false:=by
 have:¬t.s=s:=λe=>by
  rcases ht with h|h<;>rw[h] at e
  ·exact h1 e.symm
  ·exact h2 e.symm
 simp only[isT,Zd1 this,Bool.and_false]
theorem Bmc(ht:t.s=Dn\/t.s=Hl){l:TL}{x:Str×Bool}(h:Lb l = .ok (x,[])):Lb (l++[t]) = .ok (x,[t])\/∃b,Lb (l++[t]) = .ok ((x.1,b),[]):=by
 obtain⟨n,l1,h1,h2⟩:=Wv h;obtain⟨d,l2,h3,h4⟩:=Wv h2;cases h4;have hn:=(Cn (d:=true) (n:=l.length+1)).ok l [t] n l1 (by omega) h1 (.inr (Bbu ht));have e:Lb (l++[t])=bP N3 (λd=>Bd (n,d)) (l1++[t]):=by simp only[Lb,bP,hn]
 rw[e];cases l1 with
 |nil =>
  cases h3;simp only[bP,N3,Zf2];cases isT Dn [t] with
  |true=>exact .inr ⟨true,rfl⟩
  |false =>cases isT Hl [t] with|true=>exact .inr ⟨false,rfl⟩|false=>exact .inl rfl
 |cons u r =>
  simp only[N3] at h3;have e1:∀w,isT w (u::r++[t])=isT w (u::r):=λw=>rfl;simp only[bP,N3,e1];cases hd:isT Dn (u::r) with
  |true =>rw[hd] at h3;cases r with|nil=>cases h3;exact .inl rfl|cons _ _=>cases h3
  |false =>
   rw[hd] at h3;cases ha:isT Hl (u::r) with
   |true =>rw[ha] at h3;cases r with|nil=>cases h3;exact .inl rfl|cons _ _=>cases h3
   |false=>rw[ha] at h3;cases h3
theorem Bml(ht:t.s=Dn\/t.s=Hl):∀(m:Nat) (acc:List (Str×Bool)) (l:TL) (os:List (Str×Bool)),A5 Lb m acc l = .ok (os,[])->∀m',l.length+1<m'->A5 Lb m' acc (l++[t]) = .ok (os,[t])\/∃os',A5 Lb m' acc (l++[t]) = .ok (os',[])/\os'.map (·.1)=os.map (·.1)
 |0,_,_,_,h,_,_=>by cases h
 |m+1,acc,l,os,h,0,hm=>absurd hm (Zm1 _)
 |m+1,acc,l,os,h,m'+1,hm=>by
  have hc:isT [44] [t]=false:=Bbq ht (by decide) (by decide);simp only[A5] at h;cases hi:isT [44] l with
  |false =>rw[hi] at h;cases h;simp only[Zf2,A5,hc];exact .inl trivial
  |true =>
   rw[hi] at h;have h0:=I8 hi;have hlt:=Fq hi;cases hq:Lb l.tail with
   |error q=>simp only[hq] at h;cases h
   |ok x =>
    obtain⟨x,l1⟩:=x;simp only[hq] at h;have hle:=(Abo (n:=l.tail.length+1)).le _ _ _ (by omega) hq;simp only[A5,Bz h0,hi,Ct h0];cases l1 with
    |cons u r =>have h1:=(Abo (n:=l.tail.length+1)).ok l.tail [t] x (u::r) (by omega) hq (.inl (by simp));simp only[h1];exact Bml ht m _ _ _ h m' (by omega)
    |nil =>
     cases m with
     |zero=>cases h
     |succ m =>
      cases h;cases m' with
      |zero=>omega
      |succ m' =>
       rcases Bmc ht hq with h1|⟨b,h1⟩
       ·simp only[h1,A5,hc];exact .inl trivial
       ·simp only[h1];exact .inr ⟨acc++[(x.1,b)],rfl,by simp⟩
theorem Bof(ht:t.s=Dn\/t.s=Hl){l:TL}{os:List (Str×Bool)}(h:F8 Lb l = .ok (os,[])):F8 Lb (l++[t]) = .ok (os,[t])\/∃os',F8 Lb (l++[t]) = .ok (os',[])/\os'.map (·.1)=os.map (·.1):=by
 simp only[F8] at h ⊢;have hc:isT [44] [t]=false:=Bbq ht (by decide) (by decide);cases hq:Lb l with
 |error q=>rw[hq] at h;cases h
 |ok x =>
  obtain⟨x,l1⟩:=x;rw[hq] at h;cases l1 with
  |cons u r =>have h1:=(Abo (n:=l.length+1)).ok l [t] x (u::r) (by omega) hq (.inl (by simp));simp only[h1];exact Bml ht _ _ _ _ h _ (by simp)
  |nil =>
   cases h;rcases Bmc ht hq with h1|⟨b,h1⟩
   ·simp only[h1,A5,hc];exact .inl trivial
   ·simp only[h1];exact .inr ⟨[(x.1,b)],rfl,by simp⟩
theorem Bjb(ht:t.s=Dn\/t.s=Hl){l:TL}{o:List (Str×Bool)}(h:Dw l = .ok (o,[])):Dw (l++[t]) = .ok (o,[t])\/∃o',Dw (l++[t]) = .ok (o',[])/\o'.map (·.1)=o.map (·.1):=by
 simp only[Dw] at h;cases hi:isT J9 l with
 |false =>rw[hi] at h;cases h;have hc:isT J9 [t]=false:=Bbq ht (by decide) (by decide);simp only[Zf2,Dw,hc];exact .inl trivial
 |true =>
  rw[hi] at h;have h0:=I8 hi;obtain⟨y,l1,h1,h2⟩:=Wv h;have h3:=(LookN.must (n:=l.tail.length+1) (d:=true) [wBY] (by decide)).ok l.tail [t] y l1 (by omega) h1 (.inr (Bbu ht));have e:Dw (l++[t])=F8 Lb (l1++[t]):=by simp only[Dw,Bz h0,hi,Ct h0,bP,h3]
  rw[e];exact Bof ht h2
theorem A6k(ht:t.s=Dn\/t.s=Hl){l:TL}{m:Int}(h:Ei l = .ok (m,[])):Ei (l++[t]) = .ok (m,[t]) :=(Aks (n:=l.length+1) (d:=true)).ok l [t] m [] (by omega) h (.inr (Bbu ht))
theorem Bke(ht:t.s=Dn\/t.s=Hl){l:TL}{s e:Stm}(h1:Fh (l++[t]) = .ok (s,[]))(h2:Fh l = .ok (e,[])):s.kind=8/\∃d:List Bool,e={ s with desc:=d }/\d.length=s.desc.length:=by
 obtain⟨es,l1,a1,h2⟩:=Wv h2;obtain⟨u,l2,a2,h2⟩:=Wv h2;obtain⟨n,l3,a3,h2⟩:=Wv h2;obtain⟨w,l4,a4,h2⟩:=Wv h2;obtain⟨o,l5,a5,h2⟩:=Wv h2;obtain⟨m,l6,a6,h2⟩:=Wv h2;cases h2;have q:=Bbu ht;have b1:=(Anl (d:=true) (n:=l.length+1)).ok l [t] es l1 (by omega) a1 (.inr q);have b2:=(LookN.must (d:=true) (n:=l1.length+1) [H4] (by decide)).ok l1 [t] u l2 (by omega) a2 (.inr q);have b3:=(Cn (d:=true) (n:=l2.length+1)).ok l2 [t] n l3 (by omega) a3 (.inr q);have b4:=(Ru (d:=true) (n:=l3.length+1)).ok l3 [t] w l4 (by omega) a4 (.inr q);have hf:Fh (l++[t])=bP Dw (λo=>bP Ei λm=>Bd { zS with kind:=8,name:=n,l:=es,has:=w.1,whr:=w.2,order:=o.map (·.1),desc:=o.map (·.2),most:=m }) (l4++[t]):=by simp only[Fh,bP,b1,b2,b3,b4]
 rw[hf] at h1;obtain⟨o',k5,c5,h1⟩:=Wv h1;obtain⟨m',k6,c6,h1⟩:=Wv h1;cases h1;cases l5 with
 |cons v r =>have b5:=(Ajl (n:=l4.length+1)).ok l4 [t] o (v::r) (by omega) a5 (.inl (by simp));rw[b5] at c5;cases c5;have b6:=A6k ht a6;rw[b6] at c6;cases c6
 |nil =>
  cases a6;rcases Bjb ht a5 with b5|⟨o2,b5,hm⟩
  ·rw[b5] at c5;cases c5;have b6:=A6k ht (l:=[]) (m := -1) rfl;rw[Zf2] at b6;rw[b6] at c6;cases c6
  ·rw[b5] at c5;cases c5;cases c6;have hl:o.length=o'.length:=by have:=congrArg List.length hm;simpa using this.symm
   exact⟨rfl,o.map (·.2),by rw[hm],by simp[hl]⟩
theorem Bem{l:TL}{s e:Stm}(h1:G0 (l++[t]) = .ok (s,[]))(h2:G0 l = .ok (e,[])):s.kind=8/\∃d:List Bool,e={ s with desc:=d }/\d.length=s.desc.length:=by
 have hq:¬G1 false [t]:=λq=>by have:=(Kz (n:=l.length+1)).ok l [t] e [] (by omega) h2 (.inr q);rw[h1] at this;cases this
 obtain⟨c,u,hu,hl⟩:=Bc4 _ _ _ h1;have hut:u=t:=by have:=congrArg List.getLast? hu;simpa using this.symm
 subst hut;have ht:u.s=Dn\/u.s=Hl:=by
  rcases hl with h|h|h|h
  ·exact absurd (.inl h) hq
  ·exact absurd (.inr (.inl h)) hq
  ·exact absurd (.inr (.inr (.inl h))) hq
  ·exact h.2
 have h0:l≠[]:=by rintro rfl;cases h2
 have no:∀{p:TL->PR Stm},(∀k,LookN true k p)->p l.tail = .ok (e,[])->p (l.tail++[u]) = .ok (s,[])->False:=λhp a b=>by have:=(hp (l.tail.length+1)).ok l.tail [u] e [] (by omega) a (.inr (Bbu ht));rw[b] at this;cases this
 simp only[G0] at h1 h2;simp only[Bz h0,Ct h0] at h1;cases w1:isT Fi l with
 |true=>rw[w1] at h1 h2;exact(no (λ_=>Age) h2 h1).elim
 |false =>
 rw[w1] at h1 h2;cases w2:isT R4 l with
 |true=>simp only[w2] at h1 h2;exact(no (λ_=>Anu) h2 h1).elim
 |false =>
 simp only[w2] at h1 h2;cases w3:isT Ij l with
 |true=>simp only[w3] at h1 h2;exact(no (λ_=>Aev) h2 h1).elim
 |false =>
 simp only[w3] at h1 h2;cases w4:isT Kn l with
 |true=>simp only[w4] at h1 h2;exact(no (λ_=>Afj) h2 h1).elim
 |false =>
 simp only[w4] at h1 h2;cases w5:isT Mw l with
 |true=>simp only[w5] at h1 h2;exact(no (λ_=>Ae0) h2 h1).elim
 |false =>
 simp only[w5] at h1 h2;cases w6:isT P4 l with|true=>simp only[w6] at h1 h2;exact Bke ht h1 h2|false=>simp only[w6] at h2;cases h2
end
def Ek{α:Type}(k:Nat)(p:TL->PR α):Prop:=∀l e l',p l = .ok (e,l')->l'.length+k<=l.length
section
variable {α β:Type}
theorem Suf.ek{p:TL->PR α}(h:Suf p):Ek 0 p:=λl e l' hp=>by obtain⟨c,h⟩:=h _ _ _ hp;rw[h,Zh1];omega
theorem Ek.bind{a b:Nat}{p:TL->PR α}{f : α->TL->PR β}(h1:Ek a p)(h2:∀x,Ek b (f x)):Ek (a+b) (bP p f):=λl e l' hp=>by obtain⟨x,l1,h3,h4⟩:=Wv hp;have:=h1 _ _ _ h3;have:=h2 x _ _ _ h4;omega
theorem Las.ek{p:TL->PR α}(h:Las p):Ek 1 p:=λl e l' hp=>by obtain⟨c,t,h,_⟩:=h _ _ _ hp;rw[h,Zh1,Zf1];omega
theorem A30(s:Str):Ek 1 (A4 [s]):=λl e l' h=>by simp only[A4] at h;cases hi:isT s l with|false=>rw[hi] at h;cases h|true =>rw[hi] at h;cases h;have:=Fq hi;omega
theorem Ti{s:Str}{a:Nat}{p f:TL->PR α}(hp:Ek a p)(hf:Ek (a+1) f):Ek (a+1) (λl=>match isT s l with|true=>p l.tail|false=>f l):=λl e l' h=>by cases hi:isT s l with|true =>simp only[hi] at h;have h1:=hp _ _ _ h;have h2:=Fq hi;omega|false=>simp only[hi] at h;exact hf _ _ _ h
end
theorem A4b:Ek 3 G0:=by have kn:∀{β:Type}{w:Str}{f:Str->TL->PR β},(∀x,Suf (f x))->Ek 2 (bP (A4 [w]) λ_=>bP Bj f):=λh=>Ek.bind (A30 _) λ_=>Ek.bind las_name.ek λx=>(h x).ek;have hx:Ek 2 Rh:=kn λ_=>Suf.bind (Cb _) λ_=>Suf.bind las_name.s λ_=>Suf.bind las_names.s λ_=>D6 _;have ht:Ek 1 P9:=λl e l' h=>las_table.ek l e l' h;have h1:Ek 2 E0:=Ti ht hx;have h2:Ek 2 Sa:=Ti (a:=1) (Ek.bind las_name.ek λ_=>(D6 _).ek) (kn λ_=>D6 _);have h3:Ek 2 Gr:=kn λ_=>Suf.bind (Cb _) λ_=>Suf.bind (J4 A4d).s λ_=>D6 _;have h4:Ek 2 Gx:=Ek.bind las_name.ek λ_=>Ek.bind (A30 _) λ_=>(Suf.bind (J4 A4h).s λ_=>Suf.bind lao_where.s λ_=>D6 _).ek;have h5:Ek 2 Jp:=kn λ_=>Suf.bind lao_where.s λ_=>D6 _;have h6:Ek (0+2) Fh:=Ek.bind suf_star.ek λ_=>kn λ_=>Suf.bind lao_where.s λ_=>Suf.bind lao_order.s λ_=>Suf.bind lao_limit.s λ_=>D6 _;exact Ti h1 (Ti h2 (Ti h3 (Ti h4 (Ti h5 (Ti (a:=2) (f:=λl =>.error l) h6 λ_ _ _ h=>by cases h)))))
def signsL:List (Int×Str):=[(4,[65,78,68]),(5,[79,82]),(6,[61]),(7,[60,62]),(8,[60]),(9,[60,61]),(10,[62]),(11,[62,61]),(12,[43]),(13,[45]),(14,[42])]
def wordsL:List Str:=[[65,68,68],[65,78,68],[65,83,67],[66,79,79,76],[66,89],[66,89,84,69,83],[67,72,69,67,75],[67,82,69,65,84,69],[68,69,76,69,84,69],[68,69,83,67],[68,82,79,80],[70,65,76,83,69],[70,82,79,77],[73,78,68,69,88],[73,78,83,69,82,84],[73,78,84],[73,78,84,79],[73,83],[75,69,89],[76,73,77,73,84],[78,79,84],[78,85,76,76],[79,78],[79,82],[79,82,68,69,82],[80,82,73,77,65,82,89],[82,69,70,69,82,69,78,67,69,83],[83,69,76,69,67,84],[83,69,84],[84,65,66,76,69],[84,69,88,84],[84,82,85,69],[85,78,73,81,85,69],[85,80,68,65,84,69],[86,65,76,85,69,83],[87,72,69,82,69]]
def kindsL:List Str:=[[],[],[66,79,79,76],[73,78,84],[84,69,88,84],[66,89,84,69,83]]
def ttL:List (Nat×Ax.Ty):=[
 (1,.fn),
 (3,.int .i64),
 (4,.bool),
 (5,.int .u8),
 (9,.str),
 (21,.int .i32),
 (23,.st (some .val) [(0,3),(1,3),(2,9)] [.int .i64 0,.int .i64 0,.str []]),
 (24,.sl .expr),
 (26,.st (some .expr) [(0,3),(1,23),(4,9),(5,24)] [.int .i64 0,.int .i64 0,.int .i64 0,.str [],.str [],.sl .expr [] .nil]),
 (29,.int .i64),
 (34,.sl .str),
 (38,.fn),
 (39,.sl .col),
 (40,.sl .exprs),
 (41,.sl .set),
 (42,.sl .bool),
 (44,.st (some .stmt) [(0,3),(1,9),(2,9),(3,39),(4,34),(5,24),(6,40),(7,41),(8,4),(9,26),(15,34),(16,42),(17,3)] [.int .i64 0,.str [],.str [],.sl .col [] .nil,.sl .str [] .nil,.sl .expr [] .nil,.sl .exprs [] .nil,.sl .set [] .nil,.bool false,.int .i64 0,.int .i64 0,.int .i64 0,.str [],.str [],.sl .expr [] .nil,.sl .str [] .nil,.sl .bool [] .nil,.int .i64 0]),
 (63,.sl .tok),
 (67,.st (some .tok) [(0,3),(1,3),(2,9),(3,3)] [.int .i64 0,.int .i64 0,.str [],.int .i64 0]),
 (68,.int .u64),
 (71,.sl .int),
 (77,.ptr),
 (78,.sl .byte),
 (80,.st none [(0,77),(1,78)] [.nilp,.sl .byte [] .nil]),
 (82,.st none [(0,80)] [.nilp,.sl .byte [] .nil]),
 (83,.fn),
 (89,.st (some .set) [(0,9),(1,26)] [.str [],.int .i64 0,.int .i64 0,.int .i64 0,.str [],.str [],.sl .expr [] .nil]),
 (94,.fn),
 (100,.st (some .num) [(0,4),(1,71)] [.bool false,.sl .int [] .nil]),
 (106,.fn),
 (111,.st (some .col) [(0,9),(1,3),(2,4),(3,4),(4,9)] [.str [],.int .i64 0,.bool false,.bool false,.str []]),
 (118,.fn),
 (120,.fn),
 (121,.ptr),
 (126,.st none [(0,63),(1,3)] [.sl .tok [] .nil,.int .i64 0]),
 (128,.st none [(0,126),(2,4),(3,3)] [.sl .tok [] .nil,.int .i64 0,.bool false,.int .i64 0]),
 (130,.st (some .got) [(0,3),(1,4)] [.int .i64 0,.bool false]),
 (135,.fn),
 (144,.fn),
 (145,.ptr),
 (147,.map),
 (148,.ptr),
 (158,.fn),
 (164,.ptr),
 (176,.st (some .pair) [(0,9),(1,3)] [.str [],.int .i64 0]),
 (188,.arr 2 .str),
 (191,.arr 6 .str),
 (194,.ptr),
 (201,.sl .pair),
 (202,.int .u64),
 (221,.arr 36 .str),
 (226,.arr 256 .byte),
 (228,.st none [(0,5),(1,5)] [.int .u8 0,.int .u8 0]),
 (230,.int .u32),
 (233,.fn)]
def elT:Ck->TypeId
 |.byte=>5
 |.int=>3
 |.u64=>202
 |.str=>9
 |.bool=>4
 |.val=>23
 |.tok=>67
 |.col=>111
 |.expr=>26
 |.num=>100
 |.set=>89
 |.stmt=>44
 |.got=>130
 |.pair=>176
 |.exprs=>24
 |.strs=>34
 |.bytes=>78
 |_=>0
theorem Azr:(ttL.all λp=>Ds Tryz.prog elT (Asr ttL) p.1)=true:=by kernel_rfl
def glT:Nat->Option Gv:=tbl [(0,.map signsL),(1,.arr .str kindsL),(2,.arr .str wordsL),(3,.num .i64)]
theorem follows:Tryz.prog.follows .mixedOrders=true:=by kernel_rfl
abbrev FO:=FnOk Tryz.prog elT glT
abbrev FM:=FnLn Tryz.prog elT glT
abbrev HX:=Hx Tryz.prog elT glT (Asr ttL)
def pxO{R:Type}(c:List (Nat×Mh R))(q:List (Nat×Lt R))(l:List (Nat×Bbe R))(w:List (Nat×X9 R)):Px R:=⟨Asr ttL,glT,A5z c,Art q,Bpy l,tbl w⟩
abbrev cA{R:Type}{sa sr:List Sg}(F:FT sa sr):Mh R:=Acn sa sr F
abbrev qA{R:Type}{sa sr:List Sg}(F:FT sa sr):Lt R:=Abx sa sr F
theorem fR{f:FuncId}{fn:Func}{c:Code}{sa sr:List Sg}{px:Px (HV sr)}{F:FT sa sr}{n:Nat}(hf:Tryz.prog.funcs[f]? = some fn)(hb:fn.body=some c)(h:∀cx,HX cx->Lv cx px/\∀i,i<n->Dh cx px (lp fn i))(hF:∀x,Bds px fn sa sr x some=F x)(hname:(fn.name == "runtime.NumGoroutine")=false:=by kernel_rfl)(hchk:(Tc fn&&Nat.ble sa.length fn.ntmps&&F5 (Bl 0 sa) [])=true:=by kernel_rfl)(hn:Nm fn=n:=by kernel_rfl):FO f sa sr F:=fO (Bgu Azr) follows hf hb hname hchk hn h hF
theorem fRL{f:FuncId}{fn:Func}{c:Code}{sg so:Sig}{px:Px (HV so.sgs)}{F:FL sg so}{n:Nat}(hf:Tryz.prog.funcs[f]? = some fn)(hb:fn.body=some c)(h:∀cx,HX cx->Lv cx px/\∀i,i<n->Dh cx px (lp fn i))(hF:∀x,Att px fn sg so x some=F x)(hname:(fn.name == "runtime.NumGoroutine")=false:=by kernel_rfl)(hchk:(Tc fn&&Nat.ble sg.n fn.ntmps)=true:=by kernel_rfl)(hn:Nm fn=n:=by kernel_rfl):FM f sg so F:=fL (Bgu Azr) follows hf hb hname hchk hn h hF
end Go.Proofs.YthndhaolemgbdaaGreatDoor
namespace Go.Proofs.YthndhaolemgbdaaGreatDoor.Lp
open Go.Sx Go.RowKit
abbrev Tok:=Go.Ax.Tok
def pre(l m:List UInt8):Bool:=decide (m.length<=l.length)&&decide (l.take m.length=m)
theorem Adu(a b c d:Int)(h : 0<=a/\a<=c)(h' : 0<=b/\b<=d) : 0<=a*b/\a*b<=c*d :=⟨Int.mul_nonneg h.1 h'.1,Int.mul_le_mul h.2 h'.2 h'.1 (by omega)⟩
theorem Aee(x y:Int):x*y=(x / 4294967296)*(y / 4294967296)*18446744073709551616+((x / 4294967296)*(y % 4294967296)+(x % 4294967296)*(y / 4294967296))*4294967296+(x % 4294967296)*(y % 4294967296):=by
 have hx:=Int.mul_ediv_add_emod x 4294967296;have hy:=Int.mul_ediv_add_emod y 4294967296;generalize x / 4294967296=p at *;generalize x % 4294967296=q at *;generalize y / 4294967296=r at *;generalize y % 4294967296=s at *;rw[<-hx,<-hy];simp only[Int.add_mul,Int.mul_add];have e1 : 4294967296*p*(4294967296*r)=p*r*18446744073709551616:=by rw[Int.mul_assoc,Int.mul_left_comm p,<-Int.mul_assoc];omega
 have e2 : 4294967296*p*s=p*s*4294967296:=by rw[Int.mul_assoc];omega
 have e3:q*(4294967296*r)=q*r*4294967296:=by rw[Int.mul_left_comm];omega
 omega
def inI(n:Int):Prop := -9223372036854775808<=n/\n<=9223372036854775807
instance (n:Int):Decidable (inI n):=by unfold inI;infer_instance
def Np(n:Int):Int:=if n<0 then -n else n
def vis(c:Int):Bool:=decide (32<=c)&&decide (c<=126)
def visF(l:List UInt8):Bool:=l.all λb=>vis b.toNat
theorem A6x(l:List UInt8)(j:Int)(h : 0<=j/\j<l.length):l.drop j.toNat=l.getD j.toNat 0::l.drop (j+1).toNat:=by
 have h1:j.toNat<l.length:=by omega
 have h2:(j+1).toNat=j.toNat+1:=by omega
 rw[h2,List.drop_eq_getElem_cons h1];simp[List.getD_eq_getElem?_getD,h1]
theorem Akz(p:Int->Bool)(l:List UInt8)(j:Int)(h : 0<=j/\j<l.length):((l.drop j.toNat).all λb=>p b.toNat)=(p (byt l j)&&(l.drop (j+1).toNat).all λb=>p b.toNat):=by rw[A6x l j h];rfl
def rightF(k n:Int)(s:List UInt8):Bool :=
 if k=1 then n == 0&&decide (s=[]) else if k=2 then(n == 0||n == 1)&&decide (s=[]) else if k=3 then decide (s=[])
 else if k=4 then n == 0&&decide ((s.length:Int)<=1000)&&visF s else if k=5 then n == 0&&decide ((s.length:Int)<=1000) else false
def checkF(k n:Int)(s:List UInt8):Int:=if rightF k n s then 0 else 2
def isUp(c:Int):Bool:=decide (65<=c)&&decide (c<=90)
def isLo(c:Int):Bool:=decide (97<=c)&&decide (c<=122)
def isDi(c:Int):Bool:=decide (48<=c)&&decide (c<=57)
def isIn(c:Int):Bool:=isLo c||isDi c||c == 95
def runTo(p:Int->Bool)(l:List UInt8)(i:Int):Int:=i+((l.drop i.toNat).takeWhile λb=>p b.toNat).length
theorem Hh(l:List UInt8)(j:Int)(h : 0<=j/\j<l.length):l.drop j.toNat=l.getD j.toNat 0::l.drop (j+1).toNat:=by
 have h1:j.toNat<l.length:=by omega
 have h2:(j+1).toNat=j.toNat+1:=by omega
 rw[h2,List.drop_eq_getElem_cons h1];simp[List.getD_eq_getElem?_getD,h1]
theorem runTo_yes{p:Int->Bool}{l:List UInt8}{j:Int}(h : 0<=j/\j<l.length)(hp:p (byt l j)=true):runTo p l (j+1)=runTo p l j:=by unfold runTo;rw[Hh l j h];have:p ((l.getD j.toNat 0).toNat:Int)=true:=hp;simp only[List.takeWhile_cons,this,if_true,Zf1];omega
theorem runTo_no{p:Int->Bool}{l:List UInt8}{j:Int}(h : 0<=j/\j<l.length)(hp:p (byt l j)=false):runTo p l j=j:=by unfold runTo;rw[Hh l j h];have:p ((l.getD j.toNat 0).toNat:Int)=false:=hp;simp only[List.takeWhile_cons,this,Zj2,if_false,Zi1];omega
theorem runTo_end{p:Int->Bool}{l:List UInt8}{j:Int}(h:(l.length:Int)<=j):runTo p l j=j:=by unfold runTo;rw[Zk1 (by omega)];simp
def aloneF(l:List UInt8)(i:Int):Bool:=i == l.length || !isIn (byt l i) && !isUp (byt l i)
def dg(c:Int):Int:=IntKind.i64.wrap (IntKind.u8.wrap (c-48))
theorem Bps(c:Int) : 0<=dg c/\dg c<=255:=by
 have e1:IntKind.u8.wrap (c-48)=(c-48) % 256:=by simp[IntKind.wrap,IntKind.bits,IntKind.signed]
 unfold dg;rw[e1,IntWalk.i64_in _ (by omega)];omega
theorem Bl3(c:Int)(h : 48<=c/\c<=303):dg c=c-48:=by
 have e1:IntKind.u8.wrap (c-48)=(c-48) % 256:=by simp[IntKind.wrap,IntKind.bits,IntKind.signed]
 unfold dg;rw[e1,IntWalk.i64_in _ (by omega)];omega
def numGo:List UInt8->Int->Option Int
 |[],n=>some n
 |c::r,n=>if inI (n*10)/\inI (n*10+dg c.toNat) then numGo r (n*10+dg c.toNat) else none
theorem inI_dg(c:Int):inI (dg c):=by have:=Bps c;unfold inI;omega
def qGo:List UInt8->List UInt8->Int->List UInt8×Int
 |[],_,_=>([], -1)
 |[c],acc,i=>if c=39 then(acc,i+1) else([], -1)
 |c::d::r,acc,i=>if c=39 then(if d=39 then qGo r (acc++[39]) (i+2) else(acc,i+1)) else qGo (d::r) (acc++[c]) (i+1)
theorem byt_lit{l:List UInt8}{j:Int}{c:UInt8}:byt l j=(c.toNat:Int)↔l.getD j.toNat 0=c:=by unfold byt;rw[<-UInt8.toNat_inj];omega
theorem q_end{l acc:List UInt8}{j:Int}(h:(l.length:Int)<=j):qGo (l.drop j.toNat) acc j=([], -1):=by rw[Zk1 (by omega)];rfl
theorem q_last{l acc:List UInt8}{j:Int}(h : 0<=j)(hl:j+1=l.length)(hc:byt l j=39):qGo (l.drop j.toNat) acc j=(acc,j+1):=by rw[Hh l j (by omega),(byt_lit (c:=39)).1 hc,Zk1 (by omega)];rfl
theorem q_close{l acc:List UInt8}{j:Int}(h : 0<=j)(hl:j+1<l.length)(hc:byt l j=39)(hd:byt l (j+1)≠39):qGo (l.drop j.toNat) acc j=(acc,j+1):=by have hd':¬l.getD (j+1).toNat 0=39:=λhh=>hd ((byt_lit (c:=39)).2 hh);rw[Hh l j (by omega),(byt_lit (c:=39)).1 hc,Hh l (j+1) (by omega)];simp only[qGo,if_true,if_neg hd']
theorem q_two{l acc:List UInt8}{j:Int}(h : 0<=j)(hl:j+1<l.length)(hc:byt l j=39)(hd:byt l (j+1)=39):qGo (l.drop j.toNat) acc j=qGo (l.drop (j+1+1).toNat) (acc++[39]) (j+1+1):=by rw[Hh l j (by omega),(byt_lit (c:=39)).1 hc,Hh l (j+1) (by omega),(byt_lit (c:=39)).1 hd];simp only[qGo,if_true];rw[show j+2=j+1+1 by omega]
theorem q_other{l acc:List UInt8}{j:Int}(h : 0<=j)(hl:j<l.length)(hc:¬byt l j=39):qGo (l.drop j.toNat) acc j=qGo (l.drop (j+1).toNat) (acc++[l.getD j.toNat 0]) (j+1):=by have hc':¬l.getD j.toNat 0=39:=λhh=>hc ((byt_lit (c:=39)).2 hh);rw[Hh l j (by omega)];cases hd:l.drop (j+1).toNat with|nil=>simp only[qGo,if_neg hc']|cons d r=>simp only[qGo,if_neg hc']
def hexD(c:Int):Option Int:=if 48<=c/\c<=57 then some (c-48) else if 97<=c/\c<=102 then some (c-87) else none
theorem hexD_lt{c n:Int}(h:hexD c=some n) : 0<=n/\n<=15:=by
 unfold hexD at h;split at h
 ·cases h;omega
 ·split at h
  ·cases h;omega
  ·cases h
def unGo:List UInt8->List UInt8->Option (List UInt8)
 |[],acc=>some acc
 |[_],_=>none
 |a::b::r,acc=>match hexD a.toNat,hexD b.toNat with|some x,some y=>unGo r (acc++[UInt8.ofNat (x*16+y).toNat])|_,_=>none
theorem Bix:∀a b:Fin 16,IntKind.u8.wrap (((BitVec.ofInt IntKind.u8.bits (IntKind.u8.wrap ((a.val:Int)*2 ^ min (4:Int).toNat IntKind.u8.bits)) ||| BitVec.ofInt IntKind.u8.bits (b.val:Int)).toNat:Nat):Int)=((a.val*16+b.val:Nat):Int):=by decide +kernel
theorem joinhex'{x y:Int}(hx : 0<=x/\x<=15)(hy : 0<=y/\y<=15):IntKind.u8.wrap (((BitVec.ofInt IntKind.u8.bits (IntKind.u8.wrap (x*2 ^ min (4:Int).toNat IntKind.u8.bits)) ||| BitVec.ofInt IntKind.u8.bits y).toNat:Nat):Int)=((UInt8.ofNat (x*16+y).toNat).toNat:Int):=by obtain⟨a,rfl⟩:=Int.eq_ofNat_of_zero_le hx.1;obtain⟨b,rfl⟩:=Int.eq_ofNat_of_zero_le hy.1;have:=Bix ⟨a,by omega⟩ ⟨b,by omega⟩;simp only at this;rw[this];rw[show((a:Int)*16+(b:Int)).toNat=a*16+b by omega,UInt8.toNat_ofNat'];omega
theorem un_step{l acc:List UInt8}{j:Int}(h : 0<=j)(hl:j+1<l.length):unGo (l.drop j.toNat) acc=match hexD (byt l j),hexD (byt l (j+1)) with
  |some x,some y=>unGo (l.drop (j+2).toNat) (acc++[UInt8.ofNat (x*16+y).toNat])
  |_,_=>none:=by
 rw[Hh l j (by omega),Hh l (j+1) (by omega),show j+1+1=j+2 by omega];rfl
def signs:List UInt8:=[40,41,44,42,61,60,62,43,45,59]
def signF(l:List UInt8):Int:=if pre l [60,62]||pre l [60,61]||pre l [62,61] then 2 else if 0<=Lib.indexByte signs (byt l 0).toNat.toUInt8 then 1 else 0
def idx(x:List UInt8):List (List UInt8)->Int->Int
 |[],_ => -1
 |l::r,i=>if x=l then i else idx x r (i+1)
theorem idx_ge(x:List UInt8):∀(ls:List (List UInt8)) (i:Int),0<=i->(0<=idx x ls i↔x∈ls)
 |[],i,_=>by simp[idx]
 |l::r,i,h=>by
  by_cases hx:x=l
  ·simp[idx,hx,h]
  ·simp[idx,hx,idx_ge x r (i+1) (by omega)]
def wordF(l:List UInt8):Bool:=wordsL.contains l
def nameF(l:List UInt8):Bool := !decide (l=[])&&decide ((l.length:Int)<=30)&&isLo (byt l 0)&&(runTo isIn l 0 == l.length)
def tokF(l:List UInt8)(i:Int):Option (Int×List UInt8×Int×Int) :=
 if pre (l.drop i.toNat) [120,39] then
  let n:=Lib.indexByte (l.drop (i+2).toNat) 39
  if n<0 then none else
  let x:=cut l (i+2) (i+2+n);match(if x.length % 2=0 then unGo x [] else none) with|none=>none|some b=>if 1000<(b.length:Int) then none else some (5,b,0,i+3+n)
 else if isUp (byt l i) then
  if wordF (cut l i (runTo isUp l i))&&aloneF l (runTo isUp l i) then some (1,cut l i (runTo isUp l i),0,runTo isUp l i) else none
 else if isLo (byt l i) then
  if nameF (cut l i (runTo isIn l i))&&aloneF l (runTo isIn l i) then some (2,cut l i (runTo isIn l i),0,runTo isIn l i) else none
 else if isDi (byt l i) then
  match numGo (cut l i (runTo isDi l i)) 0 with|none=>none|some n=>if(decide (cut l i (runTo isDi l i)=[48])||byt (cut l i (runTo isDi l i)) 0 != 48)&&aloneF l (runTo isDi l i) then some (3,cut l i (runTo isDi l i),n,runTo isDi l i) else none
 else if byt l i=39 then
  let q:=qGo (l.drop (i+1).toNat) [] (i+1)
  if rightF 4 0 q.1 then(if q.2<0 then none else some (4,q.1,0,q.2)) else none
 else if signF (l.drop i.toNat)=0 then none else some (6,cut l i (i+signF (l.drop i.toNat)),0,i+signF (l.drop i.toNat))
theorem runTo_range(p:Int->Bool)(l:List UInt8)(i:Int)(h : 0<=i/\i<=l.length):i<=runTo p l i/\runTo p l i<=l.length:=by unfold runTo;have h1:=(List.takeWhile_prefix (λb:UInt8=>p b.toNat) (l:=l.drop i.toNat)).length_le;rw[Za2] at h1;omega
theorem runTo_gt{p:Int->Bool}{l:List UInt8}{i:Int}(h : 0<=i/\i<l.length)(hp:p (byt l i)=true):i+1<=runTo p l i:=by have h1:=runTo_yes h hp;have h2:=runTo_range p l (i+1) (by omega);omega
theorem cut_length(l:List UInt8)(a b:Int)(h : 0<=a/\a<=b/\b<=l.length):((cut l a b).length:Int)=b-a:=by unfold cut;rw[List.length_take,Za2];omega
theorem signF_in(l:List UInt8)(h : 0<l.length):signF l=0\/signF l=1\/(signF l=2/\2<=l.length):=by
 unfold signF;split
 ·rename_i hp;right;right;refine⟨rfl,?_⟩;simp only[pre,Zd2,Zb1,Zg1,Zf1,Zi1] at hp;omega
 ·split
  ·exact .inr (.inl rfl)
  ·exact .inl rfl
theorem qGo_in:∀(n:Nat) (l acc:List UInt8) (i:Int),l.length<=n->0<=i->(qGo l acc i).2 = -1\/(i+1<=(qGo l acc i).2/\(qGo l acc i).2<=i+l.length)
 |n,[],acc,i,_,h=>by left;rfl
 |n,[c],acc,i,_,h=>by
  simp only[qGo];split
  ·right;simp
  ·left;rfl
 |0,_::_::_,_,_,hn,_=>by simp at hn
 |n+1,c::d::r,acc,i,hn,h=>by
  simp only[Zf1] at hn ⊢;simp only[qGo];split
  ·split
   ·rcases qGo_in n r (acc++[39]) (i+2) (by omega) (by omega) with h1|h1
    ·exact .inl h1
    ·right;omega
   ·right;simp;omega
  ·rcases qGo_in n (d::r) (acc++[c]) (i+1) (by simp;omega) (by omega) with h1|h1
   ·exact .inl h1
   ·right;simp at h1;omega
theorem indexByte_in:∀(l:List UInt8) (c:UInt8),Lib.indexByte l c = -1\/(0<=Lib.indexByte l c/\Lib.indexByte l c<l.length)
 |[],c =>.inl rfl
 |b::l,c=>by
  simp only[Lib.indexByte,Zf1];split
  ·right;omega
  ·rcases indexByte_in l c with h|h
   ·left;simp[h]
   ·right;have:¬((Lib.indexByte l c == -1)=true):=by simp;omega
    rw[if_neg this];omega
def blankF(c:Int):Bool:=decide (0<=Lib.indexByte [32,9,10,13] c.toNat.toUInt8)
def allGo:Nat->List UInt8->Int->List Tok->Except Int (List Tok)
 |0,_,_,acc =>.ok acc
 |f+1,l,i,acc =>
  if(l.length:Int)<=i then .ok acc
  else if blankF (byt l i) then allGo f l (i+1) acc
  else match tokF l i with|none =>.error i|some (k,s,n,e)=>allGo f l e (acc++[⟨k,i,s,n⟩])
def allF(l:List UInt8):Except Int (List Tok):=allGo (l.length+1) l 0 []
theorem tok_end{l:List UInt8}{i:Int}(h0 : 0<=i/\i<l.length){k:Int}{s:List UInt8}{n e:Int}(h:tokF l i=some (k,s,n,e)):i<e/\e<=l.length:=by
 unfold tokF at h;split at h
 ·rename_i hx;have hdl:(l.drop i.toNat).length=l.length-i.toNat:=Za2;have h2 : 2<=(l.drop i.toNat).length:=by simp only[pre,Zb1,Zg1,Zf1,Zi1] at hx;omega
  have hdl2:(l.drop (i+2).toNat).length=l.length-(i+2).toNat:=Za2;have hib:=indexByte_in (l.drop (i+2).toNat) 39;simp only at h;split at h
  ·cases h
  ·split at h
   ·cases h
   ·split at h
    ·cases h
    ·cases h;omega
 ·split at h
  ·rename_i hu;have hr:=runTo_range isUp l i (by omega);have hg:=runTo_gt h0 hu;split at h
   ·cases h;omega
   ·cases h
  ·split at h
   ·rename_i hlo;have hr:=runTo_range isIn l i (by omega);have hg:=runTo_gt (p:=isIn) h0 (by simp[isIn,hlo]);split at h
    ·cases h;omega
    ·cases h
   ·split at h
    ·rename_i hd;have hr:=runTo_range isDi l i (by omega);have hg:=runTo_gt h0 hd;split at h
     ·cases h
     ·split at h
      ·cases h;omega
      ·cases h
    ·split at h
     ·have hqi:=qGo_in _ (l.drop (i+1).toNat) [] (i+1) (Zn1 _) (by omega);have hdl:(l.drop (i+1).toNat).length=l.length-(i+1).toNat:=Za2;simp only at h;split at h
      ·split at h
       ·cases h
       ·cases h;omega
      ·cases h
     ·split at h
      ·cases h
      ·have hdl:(l.drop i.toNat).length=l.length-i.toNat:=Za2;have hs:=signF_in (l.drop i.toNat) (by omega);cases h;omega
def signsI:List Int:=[40,41,44,42,61,60,62,43,45,59]
def clsF(c:Int):Int :=
 if isUp c then 1 else if isLo c then 2 else if isDi c then 3 else if c=95 then 4 else if c=39 then 5
 else if c=32\/c=9\/c=10\/c=13 then 6 else if signsI.contains c then 7 else 0
def isWd(c:Int):Bool:=decide (1<=clsF c)&&decide (clsF c<=4)
def rnumGo:List UInt8->Int->Option Int
 |[],n=>some n
 |c::r,n=>if clsF c.toNat≠3\/922337203685477580<n\/(n=922337203685477580/\7<(c.toNat:Int)-48) then none else rnumGo r (10*n+((c.toNat:Int)-48))
def rnumF(l:List UInt8):Int:=match rnumGo l 0 with|none => -1|some n=>if 1<(l.length:Int)/\byt l 0=48 then -1 else n
theorem cls3{c:Int}(h:clsF c=3) : 48<=c/\c<=57:=by
 unfold clsF at h;split at h
 ·omega
 ·split at h
  ·omega
  ·split at h
   ·rename_i hd;simpa[isDi] using hd
   ·(repeat' split at h)<;>omega
theorem cut_one(l:List UInt8)(j:Int)(h : 0<=j/\j<l.length):cut l j (j+1)=[l.getD j.toNat 0]:=by unfold cut;rw[Hh l j h,show(j+1).toNat-j.toNat=1 by omega];rfl
def nmOk(j c:Int):Bool:=decide (clsF c=2)||(!decide (j=0)&&(decide (clsF c=3)||decide (clsF c=4)))
def okGo:List UInt8->Int->Bool
 |[],_=>true
 |c::r,j=>nmOk j c.toNat&&okGo r (j+1)
def rnameF(l:List UInt8):Bool:=okGo l 0&&(decide (1<=(l.length:Int))&&decide ((l.length:Int)<=30))
def HexAt(l:List UInt8)(i:Int):Prop:=cut l i (runTo isWd l i)=[120]/\runTo isWd l i<l.length/\byt l (runTo isWd l i)=39
instance (l:List UInt8) (i:Int):Decidable (HexAt l i):=by unfold HexAt;infer_instance
def twoR(l:List UInt8)(i:Int):Prop:=i+1<l.length/\(cut l i (i+2)=[60,62]\/cut l i (i+2)=[60,61]\/cut l i (i+2)=[62,61])
instance (l:List UInt8) (i:Int):Decidable (twoR l i):=by unfold twoR;infer_instance
def tokR(l:List UInt8)(i:Int):Option (Int×List UInt8×Int×Int) :=
 if HexAt l i then
  let t:=runTo isWd l i;let q:=runTo (λc => !decide (c=39)) l (t+1)
  if q=l.length then none else
  match(if(cut l (t+1) q).length % 2=0 then unGo (cut l (t+1) q) [] else none) with|none=>none|some b=>if 1000<(b.length:Int) then none else some (5,b,0,q+1)
 else if clsF (byt l i)=1 then(if wordF (cut l i (runTo isWd l i)) then some (1,cut l i (runTo isWd l i),0,runTo isWd l i) else none)
 else if clsF (byt l i)=2 then(if rnameF (cut l i (runTo isWd l i)) then some (2,cut l i (runTo isWd l i),0,runTo isWd l i) else none)
 else if clsF (byt l i)=3 then(if 0<=rnumF (cut l i (runTo isWd l i)) then some (3,cut l i (runTo isWd l i),rnumF (cut l i (runTo isWd l i)),runTo isWd l i) else none)
 else if clsF (byt l i)=5 then
  let q:=qGo (l.drop (i+1).toNat) [] (i+1)
  if ¬q.2 = -1/\checkF 4 0 q.1=0 then some (4,q.1,0,q.2) else none
 else if clsF (byt l i)=7 then(if twoR l i then some (6,cut l i (i+2),0,i+2) else some (6,cut l i (i+1),0,i+1))
 else none
theorem tokR_end{l:List UInt8}{i:Int}(h0 : 0<=i/\i<l.length){k:Int}{s:List UInt8}{n e:Int}(h:tokR l i=some (k,s,n,e)):i<e/\e<=l.length:=by
 unfold tokR at h;have hr:=runTo_range isWd l i (by omega);split at h
 ·rename_i hx;have hx1:=hx.2.1;have hq:=runTo_range (λc => !decide (c=39)) l (runTo isWd l i+1) (by omega);simp only at h;split at h
  ·cases h
  ·split at h
   ·cases h
   ·split at h
    ·cases h
    ·cases h;omega
 ·have hg:∀c:Int,1<=c/\c<=4->clsF (byt l i)=c->i+1<=runTo isWd l i:=λc hc he=>runTo_gt h0 (by simp[isWd];omega);split at h
  ·rename_i h1;have:=hg 1 (by omega) h1;split at h
   ·cases h;omega
   ·cases h
  ·split at h
   ·rename_i h1;have:=hg 2 (by omega) h1;split at h
    ·cases h;omega
    ·cases h
   ·split at h
    ·rename_i h1;have:=hg 3 (by omega) h1;split at h
     ·cases h;omega
     ·cases h
    ·split at h
     ·have hqi:=qGo_in _ (l.drop (i+1).toNat) [] (i+1) (Zn1 _) (by omega);have hdl:(l.drop (i+1).toNat).length=l.length-(i+1).toNat:=Za2;simp only at h;split at h
      ·rename_i h2;cases h;have:=h2.1;omega
      ·cases h
     ·split at h
      ·split at h
       ·rename_i h2;have:=h2.1;cases h;omega
       ·cases h;omega
      ·cases h
def rallGo:Nat->List UInt8->Int->List Tok->Except Int (List Tok)
 |0,_,_,acc =>.ok acc
 |f+1,l,i,acc =>
  if(l.length:Int)<=i then .ok acc
  else if clsF (byt l i)=6 then rallGo f l (i+1) acc
  else match tokR l i with|none =>.error i|some (k,s,n,e)=>rallGo f l e (acc++[⟨k,i,s,n⟩])
def rallF(l:List UInt8):Except Int (List Tok):=rallGo (l.length+1) l 0 []
theorem of256{p:Int->Prop}(h:∀n:Fin 256,p (n.val:Int))(c:Int)(hc : 0<=c/\c<=255):p c:=by have:=h ⟨c.toNat,by omega⟩;simpa[Int.toNat_of_nonneg hc.1] using this
theorem Bmp:∀n:Fin 256,isWd (n.val:Int)=(isUp (n.val:Int)||isIn (n.val:Int)):=by decide +kernel
theorem Ba7:∀n:Fin 256,blankF (n.val:Int)=decide (clsF (n.val:Int)=6):=by decide +kernel
theorem Ba8:∀n:Fin 256,decide (0<=Lib.indexByte signs (n.val:Int).toNat.toUInt8)=decide (clsF (n.val:Int)=7):=by decide +kernel
theorem Arx(c:Int)(hc : 0<=c/\c<=255):isWd c=(isUp c||isIn c):=of256 (p:=λc=>isWd c=(isUp c||isIn c)) Bmp c hc
theorem Bgi(c:Int)(hc : 0<=c/\c<=255):blankF c=decide (clsF c=6):=of256 (p:=λc=>blankF c=decide (clsF c=6)) Ba7 c hc
theorem Bj7(c:Int)(hc : 0<=c/\c<=255):decide (0<=Lib.indexByte signs c.toNat.toUInt8)=decide (clsF c=7):=of256 (p:=λc=>decide (0<=Lib.indexByte signs c.toNat.toUInt8)=decide (clsF c=7)) Ba8 c hc
theorem u8_range(b:UInt8) : 0<=(b.toNat:Int)/\(b.toNat:Int)<=255:=by have:=b.toNat_lt;omega
def tw(p:Int->Bool)(m:List UInt8):List UInt8:=m.takeWhile λb=>p b.toNat
theorem F0(p:Int->Bool)(l:List UInt8)(i:Int):runTo p l i=i+(tw p (l.drop i.toNat)).length:=rfl
theorem Aku(p:Int->Bool):∀m:List UInt8,(tw p m).length<=m.length
 |[]=>by simp[tw]
 |x::m=>by have:=Aku p m;unfold tw at *;simp only[List.takeWhile_cons];split<;>simp<;>omega
theorem tw_take(p:Int->Bool):∀m:List UInt8,m.take (tw p m).length=tw p m
 |[]=>by simp[tw]
 |x::m=>by
  have:=tw_take p m;unfold tw at *;simp only[List.takeWhile_cons];split
  ·simp[this]
  ·simp
theorem Pu(p:Int->Bool)(l:List UInt8)(i:Int)(h : 0<=i):cut l i (runTo p l i)=tw p (l.drop i.toNat):=by unfold cut;rw[F0,show(i+((tw p (l.drop i.toNat)).length:Int)).toNat-i.toNat=(tw p (l.drop i.toNat)).length by omega];exact tw_take p _
theorem Atz{p q:Int->Bool}(hpq:∀b:UInt8,p b.toNat=true->q b.toNat=true):∀m:List UInt8,tw q m=tw p m++tw q (m.drop (tw p m).length)
 |[]=>by simp[tw]
 |x::m=>by have ih:=Atz hpq m;unfold tw at *;cases hp:p x.toNat with|true=>simp[hp,hpq x hp];exact ih|false=>simp[hp]
theorem Bhb(p:Int->Bool):∀m:List UInt8,(tw p m).all (λb=>p b.toNat)=true
 |[]=>by simp[tw]
 |x::m=>by have ih:=Bhb p m;unfold tw at *;cases hp:p x.toNat with|true=>simp only[List.takeWhile_cons,hp,if_true,Zv1,Bool.true_and];exact ih|false=>simp[hp]
theorem Azj{q:Int->Bool}(m:List UInt8):tw q m=[]↔m=[]\/q (byt m 0)=false:=by cases m with|nil=>simp[tw]|cons x m =>have:byt (x::m) 0=(x.toNat:Int):=rfl;rw[this];cases hq:q x.toNat<;>simp[tw,hq]
theorem Ug(l:List UInt8)(i:Int)(h : 0<=i)(j:Nat):byt (l.drop i.toNat) j=byt l (i+j):=by unfold byt;rw[List.getD_eq_getElem?_getD,List.getD_eq_getElem?_getD,List.getElem?_drop,show i.toNat+(j:Int).toNat=(i+j).toNat by omega]
theorem Aot{p:Int->Bool}(hp:∀b:UInt8,p b.toNat=true->isWd b.toNat=true)(l:List UInt8)(i:Int)(h : 0<=i/\i<=l.length):aloneF l (runTo p l i)=true↔tw p (l.drop i.toNat)=tw isWd (l.drop i.toNat):=by
 have hs:=Atz hp (l.drop i.toNat);have hr:=runTo_range p l i h;have hdd:(l.drop i.toNat).drop (tw p (l.drop i.toNat)).length=l.drop (runTo p l i).toNat:=by rw[List.drop_drop,F0];congr 1;omega
 rw[hdd] at hs;have h1:tw p (l.drop i.toNat)=tw isWd (l.drop i.toNat)↔tw isWd (l.drop (runTo p l i).toNat)=[]:=by rw[hs];simp
 rw[h1,Azj];have h2:l.drop (runTo p l i).toNat=[]↔runTo p l i=l.length:=by rw[List.drop_eq_nil_iff];omega
 have h3:byt (l.drop (runTo p l i).toNat) 0=byt l (runTo p l i):=by have:=Ug l (runTo p l i) (by omega) 0;simpa using this
 rw[h2,h3];have hb:=Vb l (runTo p l i);simp only[aloneF,Zd2,beq_iff_eq,Zb1,Bool.not_eq_true',Arx _ hb,Bool.or_eq_false_iff];constructor
 ·rintro(h|⟨h,h'⟩)
  ·exact .inl h
  ·exact .inr ⟨h',h⟩
 ·rintro(h|⟨h,h'⟩)
  ·exact .inl h
  ·exact .inr ⟨h',h⟩
theorem Agu{p:Int->Bool}(hp:∀b:UInt8,p b.toNat=true->isWd b.toNat=true)(l:List UInt8)(i:Int)(h : 0<=i/\i<=l.length){α:Type}(f:List UInt8->Int->Option α)(hf:∀x j,f x j≠none->x.all (λb=>p b.toNat)=true) :
  (if aloneF l (runTo p l i) then f (cut l i (runTo p l i)) (runTo p l i) else none)=f (cut l i (runTo isWd l i)) (runTo isWd l i):=by
 by_cases ha:aloneF l (runTo p l i)=true
 ·have he:=(Aot hp l i h).1 ha;have hre:runTo p l i=runTo isWd l i:=by rw[F0,F0,he]
  rw[if_pos ha,hre]
 ·rw[if_neg ha];by_cases hn:f (cut l i (runTo isWd l i)) (runTo isWd l i)=none
  ·exact hn.symm
  ·exfalso;apply ha;rw[Aot hp l i h];have hall:=hf _ _ hn;rw[Pu _ _ _ h.1] at hall;have key:∀m:List UInt8,(tw isWd m).all (λb=>p b.toNat)=true->tw p m=tw isWd m:=by
    intro m;induction m with
    |nil=>simp[tw]
    |cons x m ih =>
     unfold tw at *;intro hm;cases hq:isWd x.toNat with
     |true =>simp only[List.takeWhile_cons,hq,if_true,Zv1,Zb1] at hm ⊢;rw[if_pos hm.1,ih hm.2]
     |false =>
      have:p x.toNat=false:=by cases hpx:p x.toNat with|false=>rfl|true=>rw[hp x hpx] at hq;cases hq
      simp[hq,this]
   exact key _ hall
theorem Bb2:wordsL.all (λw=>w.all λb=>isUp b.toNat)=true:=by decide +kernel
theorem word_up{x:List UInt8}(h:wordF x=true):x.all (λb=>isUp b.toNat)=true:=by have:=Zg2.1 Bb2 x (by simpa[wordF] using h);exact this
theorem Biv(l:List UInt8):∀j:Int,0<j->okGo l j=l.all λb=>isIn b.toNat:=by
 induction l with
 |nil=>intro j _;rfl
 |cons c l ih =>
  intro j hj;have hc:=u8_range c;have key:∀n:Fin 256,(decide (clsF (n.val:Int)=2)||(decide (clsF (n.val:Int)=3)||decide (clsF (n.val:Int)=4)))=isIn (n.val:Int):=by decide +kernel
  have hk:=of256 (p:=λc=>(decide (clsF c=2)||(decide (clsF c=3)||decide (clsF c=4)))=isIn c) key c.toNat hc;simp only[okGo,Zv1,ih (j+1) (by omega),nmOk,show decide (j=0)=false by simp;omega,Zs1,Bool.true_and,hk]
theorem okGo_zero(c:UInt8)(l:List UInt8):okGo (c::l) 0=(isLo c.toNat&&l.all λb=>isIn b.toNat):=by
 have hc:=u8_range c;have key:∀n:Fin 256,decide (clsF (n.val:Int)=2)=isLo (n.val:Int):=by decide +kernel
 have hk:=of256 (p:=λc=>decide (clsF c=2)=isLo c) key c.toNat hc;simp only[okGo,nmOk,decide_true,Zt1,Bool.false_and,Bool.or_false,hk];rw[Biv l (0+1) (by omega)]
theorem tw_full{p:Int->Bool}:∀m:List UInt8,(tw p m).length=m.length↔m.all (λb=>p b.toNat)=true
 |[]=>by simp[tw]
 |x::m=>by have ih:=tw_full (p:=p) m;unfold tw at *;cases hp:p x.toNat with|true=>simp only[List.takeWhile_cons,hp,if_true,Zf1,Zv1,Bool.true_and,<-ih];omega|false=>simp[hp]
theorem lo_in{c:Int}(h:isLo c=true):isIn c=true:=by simp[isIn,h]
theorem name_eq(x:List UInt8):nameF x=rnameF x:=by
 cases x with
 |nil=>rfl
 |cons c x =>
  have hrun:(runTo isIn (c::x) 0 == ((c::x).length:Int))=(c::x).all λb=>isIn b.toNat:=by rw[Bool.eq_iff_iff,<-tw_full,beq_iff_eq,F0];simp only[Int.toNat_zero,Zq1];omega
  have hb:byt (c::x) 0=(c.toNat:Int):=rfl;simp only[nameF,rnameF,okGo_zero,hrun,hb];rw[Bool.eq_iff_iff];simp only[Zb1,Bool.not_eq_true',Zg1,decide_eq_false_iff_not,Zv1,Zf1];constructor
  ·rintro⟨⟨⟨_,h1⟩,h2⟩,h3⟩;exact⟨⟨h2,h3.2⟩,by omega,h1⟩
  ·rintro⟨⟨h2,h3⟩,_,h1⟩;exact⟨⟨⟨by simp,h1⟩,h2⟩,lo_in h2,h3⟩
theorem Blt{x:List UInt8}(h:nameF x=true):x.all (λb=>isIn b.toNat)=true:=by simp only[nameF,Zb1,beq_iff_eq] at h;rw[<-tw_full];have:=h.2;rw[F0] at this;simp only[Int.toNat_zero,Zq1] at this;omega
theorem Bl4{c:UInt8}(h:isDi c.toNat=true) : 48<=(c.toNat:Int)/\(c.toNat:Int)<=57:=by simpa[isDi] using h
theorem cls_di{c:UInt8}(h:isDi c.toNat=true):clsF c.toNat=3:=by
 have key:∀n:Fin 256,isDi (n.val:Int)=true->clsF (n.val:Int)=3:=by decide +kernel
 exact of256 (p:=λc=>isDi c=true->clsF c=3) key c.toNat (u8_range c) h
theorem Bnh{c:UInt8}(h:clsF c.toNat=3):isDi c.toNat=true:=by have:=cls3 h;simp[isDi];omega
theorem Bg0{c:UInt8}(h:isDi c.toNat=true){n:Int}(hn : 0<=n):(inI (n*10)/\inI (n*10+dg c.toNat))↔¬(clsF c.toNat≠3\/922337203685477580<n\/(n=922337203685477580/\7<(c.toNat:Int)-48)):=by
 have hb:=Bl4 h;rw[Bl3 _ (by omega),cls_di h];unfold inI;constructor
 ·rintro⟨h1,h2⟩ (h3|h3|h3)
  ·exact h3 rfl
  ·omega
  ·omega
 ·intro h3;have h4:¬(922337203685477580<n):=λh=>h3 (.inr (.inl h));have h5:¬(n=922337203685477580/\7<(c.toNat:Int)-48):=λh=>h3 (.inr (.inr h));omega
theorem Bcx:∀(x:List UInt8) (n:Int),0<=n->x.all (λb=>isDi b.toNat)=true->rnumGo x n=numGo x n/\∀m,numGo x n=some m->0<=m
 |[],n,hn,_=>⟨rfl,λm h=>by simp only[numGo,Za1] at h;omega⟩
 |c::x,n,hn,hx=>by
  simp only[Zv1,Zb1] at hx;have hb:=Bl4 hx.1;have hs:=Bg0 hx.1 hn;have hd:dg c.toNat=(c.toNat:Int)-48:=Bl3 _ (by omega);simp only[rnumGo,numGo];by_cases hc:clsF c.toNat≠3\/922337203685477580<n\/(n=922337203685477580/\7<(c.toNat:Int)-48)
  ·rw[if_pos hc,if_neg (λh=>hs.1 h hc)];exact⟨rfl,λm h=>by cases h⟩
  ·rw[if_neg hc,if_pos (hs.2 hc),hd,show 10*n+((c.toNat:Int)-48)=n*10+((c.toNat:Int)-48) by omega];exact Bcx x _ (by omega) hx.2
theorem Aw3:∀(x:List UInt8) (n:Int),rnumGo x n≠none->x.all (λb=>isDi b.toNat)=true
 |[],_,_=>rfl
 |c::x,n,h=>by
  simp only[rnumGo] at h;split at h
  ·exact absurd rfl h
  ·rename_i hc;have h3:clsF c.toNat=3:=by
    by_cases h3:clsF c.toNat=3
    ·exact h3
    ·exact absurd (.inl h3) hc
   simp only[Zv1,Zb1];exact⟨Bnh h3,Aw3 x _ h⟩
def Aln(x:List UInt8)(j:Int):Option (Int×List UInt8×Int×Int):=if 0<=rnumF x then some (3,x,rnumF x,j) else none
theorem Azo{x:List UInt8}{j:Int}(h:Aln x j≠none):x.all (λb=>isDi b.toNat)=true:=by
 unfold Aln at h;split at h
 ·rename_i h0;unfold rnumF at h0;split at h0
  ·omega
  ·rename_i n hn;exact Aw3 x 0 (by rw[hn];simp)
 ·exact absurd rfl h
theorem Bqe{x:List UInt8}(hne:x≠[]):(decide (x=[48])||byt x 0 != 48)=true↔¬(1<(x.length:Int)/\byt x 0=48):=by
 cases x with
 |nil=>exact absurd rfl hne
 |cons c x =>
  have hb:byt (c::x) 0=(c.toNat:Int):=rfl;have hc:(c.toNat:Int)=48↔c=48:=by rw[<-UInt8.toNat_inj];simp;omega
  rw[hb];simp only[Zd2,Zg1,bne_iff_ne,ne_eq,Ze2,Zf1,hc];constructor
  ·rintro(⟨_,h⟩|h) ⟨h1,h2⟩
   ·subst h;simp at h1
   ·exact h h2
  ·intro h;by_cases h2:c=48
   ·left;refine⟨h2,?_⟩;cases x with|nil=>rfl|cons d x=>exact absurd ⟨by simp;omega,h2⟩ h
   ·exact .inr h2
theorem Bmm{x:List UInt8}(hne:x≠[])(hx:x.all (λb=>isDi b.toNat)=true)(a:Bool)(j:Int) :
  (match numGo x 0 with
  |none=>none
  |some n=>if(decide (x=[48])||byt x 0 != 48)&&a then some ((3:Int),x,n,j) else none)=if a then Aln x j else none:=by
 obtain⟨h1,h2⟩:=Bcx x 0 (by omega) hx;unfold Aln rnumF;rw[h1];cases hn:numGo x 0 with
 |none=>cases a<;>simp
 |some n =>
  have hp:=h2 n hn;cases hl:(decide (x=[48])||byt x 0 != 48) with
  |true =>have:=(Bqe hne).1 hl;cases a<;>simp[this,hp]
  |false =>
   have : 1<(x.length:Int)/\byt x 0=48:=by
    by_cases hh : 1<(x.length:Int)/\byt x 0=48
    ·exact hh
    ·rw[(Bqe hne).2 hh] at hl;cases hl
   cases a<;>simp[this]
theorem Agx(l:List UInt8)(i:Int)(h : 0<=i/\i<l.length):HexAt l i↔pre (l.drop i.toNat) [120,39]=true:=by
 have hdl:(l.drop i.toNat).length=l.length-i.toNat:=Za2;have hb1:=Ug l i h.1 1;unfold HexAt;rw[Pu _ _ _ h.1,F0];generalize l.drop i.toNat=m at *;have c:isWd ((120:UInt8).toNat:Int)=true:=by decide +kernel
 have d:isWd ((39:UInt8).toNat:Int)=false:=by decide +kernel
 match m with
 |[]=>simp at hdl;omega
 |[a] =>
  simp only[List.length_singleton] at hdl;constructor
  ·rintro⟨h1,h2,_⟩;rw[h1] at h2;simp at h2;omega
  ·intro h;simp[pre] at h
 |a::b::r =>
  have hbb:byt (a::b::r) ((1:Nat):Int)=(b.toNat:Int):=rfl;constructor
  ·rintro⟨h1,h2,h3⟩;rw[h1] at h3;have hb:b=39:=by
    have:byt l (i+(([120]:List UInt8).length:Int))=(b.toNat:Int):=by rw[<-hbb,hb1];rfl
    rw[this] at h3;rw[<-UInt8.toNat_inj];simp;omega
   have ha:a=120:=by unfold tw at h1;cases hw:isWd a.toNat with|true=>simp[hw] at h1;exact h1.1|false=>simp[hw] at h1
   subst hb;subst ha;simp[pre]
  ·intro h;simp only[pre,Zb1,Zg1,Zf1,Zi1,List.take_succ_cons,List.take_zero,Ze2,and_true] at h;obtain⟨_,rfl,rfl⟩:=h;have e1:tw isWd (120::39::r)=[120]:=by unfold tw;rw[List.takeWhile_cons,if_pos c,List.takeWhile_cons,if_neg (by rw[d];simp)]
   rw[e1];refine⟨rfl,?_,?_⟩
   ·simp only[Zf1] at hdl ⊢;simp;omega
   ·have:byt l (i+(([120]:List UInt8).length:Int))=(((39:UInt8).toNat:Nat):Int):=by rw[<-hbb,hb1];rfl
    rw[this];rfl
theorem Axn:∀m:List UInt8,Lib.indexByte m 39=if(tw (λc => !decide (c=39)) m).length=m.length then -1 else((tw (λc => !decide (c=39)) m).length:Int)
 |[]=>rfl
 |b::m=>by
  have ih:=Axn m;have hl:=Aku (λc => !decide (c=39)) m;by_cases hb:b=39
  ·subst hb;rfl
  ·have hne:¬((b.toNat:Int)=39):=λh=>hb (by rw[<-UInt8.toNat_inj];simp;omega);have e1:tw (λc => !decide (c=39)) (b::m)=b::tw (λc => !decide (c=39)) m:=by unfold tw;rw[List.takeWhile_cons,if_pos (by simp[hne])]
   have e2:(b == 39)=false:=by simpa using hb
   rw[Lib.indexByte,e1,ih,e2];simp only[Zj2,if_false,Zf1];by_cases hf:(tw (λc => !decide (c=39)) m).length=m.length
   ·simp[hf]
   ·have:¬((((tw (λc => !decide (c=39)) m).length:Int) == -1)=true):=by simp
    rw[if_neg hf,if_neg this,if_neg (by omega)];omega
theorem A53(l:List UInt8)(i:Int)(h : 0<=i/\i<l.length)(a b:UInt8):pre (l.drop i.toNat) [a,b]=true↔i+1<l.length/\cut l i (i+2)=[a,b]:=by
 unfold pre cut;have hdl:(l.drop i.toNat).length=l.length-i.toNat:=Za2;rw[show(i+2).toNat-i.toNat=2 by omega];simp only[Zb1,Zg1,Zf1,Zi1,hdl];constructor
 ·rintro⟨h1,h2⟩;exact⟨by omega,h2⟩
 ·rintro⟨h1,h2⟩;exact⟨by omega,h2⟩
theorem Ajk{m:List UInt8}{a b:UInt8}(h:pre m [a,b]=true):byt m 0=a.toNat:=by simp only[pre,Zb1,Zg1,Zf1,Zi1] at h;obtain⟨_,h2⟩:=h;cases m with|nil=>cases h2|cons c m=>simp at h2;rw[<-h2.1];rfl
theorem Bhy(l:List UInt8)(i:Int)(h : 0<=i/\i<l.length):(if signF (l.drop i.toNat)=0 then none else some ((6:Int),cut l i (i+signF (l.drop i.toNat)),(0:Int),i+signF (l.drop i.toNat))) =
  if clsF (byt l i)=7 then(if twoR l i then some (6,cut l i (i+2),0,i+2) else some (6,cut l i (i+1),0,i+1)) else none:=by
 have hb0:byt (l.drop i.toNat) 0=byt l i:=by simpa using Ug l i h.1 0
 have hb:=Vb l i;have hs:=Bj7 (byt l i) hb;have htwo:twoR l i↔(pre (l.drop i.toNat) [60,62]||pre (l.drop i.toNat) [60,61]||pre (l.drop i.toNat) [62,61])=true:=by
  simp only[Zd2,A53 l i h,twoR];constructor
  ·rintro⟨h1,h2|h2|h2⟩
   ·exact .inl (.inl ⟨h1,h2⟩)
   ·exact .inl (.inr ⟨h1,h2⟩)
   ·exact .inr ⟨h1,h2⟩
  ·rintro((⟨h1,h2⟩|⟨h1,h2⟩)|⟨h1,h2⟩)
   ·exact⟨h1,.inl h2⟩
   ·exact⟨h1,.inr (.inl h2)⟩
   ·exact⟨h1,.inr (.inr h2)⟩
 unfold signF;by_cases h2:twoR l i
 ·have h2':=htwo.1 h2;have hc:byt l i=60\/byt l i=62:=by
   rw[<-hb0];simp only[Zd2] at h2';rcases h2' with (h|h)|h
   ·left;rw[Ajk h];rfl
   ·left;rw[Ajk h];rfl
   ·right;rw[Ajk h];rfl
  have hc7:clsF (byt l i)=7:=by rcases hc with h|h<;>rw[h]<;>decide +kernel
  rw[if_pos h2',if_neg (by omega),if_pos hc7,if_pos h2]
 ·have h2':¬_:=λh=>h2 (htwo.2 h);rw[if_neg h2',if_neg h2,hb0];by_cases hc7:clsF (byt l i)=7
  ·have h0 : 0<=Lib.indexByte signs (byt l i).toNat.toUInt8:=by rw[Ze1 hc7] at hs;exact of_decide_eq_true hs
   rw[if_pos h0,if_neg (by omega),if_pos hc7]
  ·have h0:¬ 0<=Lib.indexByte signs (byt l i).toNat.toUInt8:=by rw[Zd1 hc7] at hs;exact of_decide_eq_false hs
   rw[if_neg h0,if_pos rfl,if_neg hc7]
theorem up_wd(b:UInt8)(h:isUp b.toNat=true):isWd b.toNat=true:=by rw[Arx _ (u8_range b),h];rfl
theorem in_wd(b:UInt8)(h:isIn b.toNat=true):isWd b.toNat=true:=by rw[Arx _ (u8_range b),h,Bool.or_true]
theorem di_in(b:UInt8)(h:isDi b.toNat=true):isIn b.toNat=true:=by simp[isIn,h]
theorem A2v{α:Type}(p q:Bool)(x : α):(if(p&&q)=true then some x else none)=if q=true then(if p=true then some x else none) else none:=by cases p<;>cases q<;>rfl
theorem Bog(l:List UInt8)(i:Int)(h : 0<=i/\i<l.length):tokF l i=tokR l i:=by
 have hb:=Vb l i;unfold tokF tokR;by_cases hx:HexAt l i
 ·have hx':=(Agx l i h).1 hx;rw[if_pos hx,if_pos hx'];have hr1:runTo isWd l i=i+1:=by rw[F0,<-Pu _ _ _ h.1,hx.1];rfl
  have hlt:i+1<l.length:=by have:=hx.2.1;omega
  have hdl:(l.drop (i+2).toNat).length=l.length-(i+2).toNat:=Za2;have htl:=Aku (λc => !decide (c=39)) (l.drop (i+2).toNat);rw[hr1];simp only;rw[show i+1+1=i+2 by omega,Axn,F0];by_cases hf:(tw (λc => !decide (c=39)) (l.drop (i+2).toNat)).length=(l.drop (i+2).toNat).length
  ·rw[if_pos hf,if_pos (by omega),if_pos (by omega)]
  ·rw[if_neg hf,if_neg (show ¬((tw (λc => !decide (c=39)) (l.drop (i+2).toNat)).length:Int)<0 by omega),if_neg (show ¬i+2+((tw (λc => !decide (c=39)) (l.drop (i+2).toNat)).length:Int)=l.length by omega)];rw[show i+3+((tw (λc => !decide (c=39)) (l.drop (i+2).toNat)).length:Int)=i+2+((tw (λc => !decide (c=39)) (l.drop (i+2).toNat)).length:Int)+1 by omega]
 ·have hx':¬pre (l.drop i.toNat) [120,39]=true:=λhh=>hx ((Agx l i h).2 hh);rw[if_neg hx,if_neg hx'];have cls:∀n:Fin 256,clsF (n.val:Int)=if isUp (n.val:Int) then 1 else if isLo (n.val:Int) then 2 else if isDi (n.val:Int) then 3 else if(n.val:Int)=39 then 5 else if clsF (n.val:Int)=7 then 7 else if clsF (n.val:Int)=6 then 6 else if clsF (n.val:Int)=4 then 4 else 0:=by decide +kernel
  have hcls:=of256 (p:=λc=>clsF c=if isUp c then 1 else if isLo c then 2 else if isDi c then 3 else if c=39 then 5 else if clsF c=7 then 7 else if clsF c=6 then 6 else if clsF c=4 then 4 else 0) cls (byt l i) hb;have h' : 0<=i/\i<=l.length:=by omega
  cases hu:isUp (byt l i) with
  |true =>
   rw[hu] at hcls;have h1:clsF (byt l i)=1:=hcls;rw[if_pos rfl,if_pos h1,A2v];exact Agu up_wd l i h' (λx j=>if wordF x then some ((1:Int),x,(0:Int),j) else none) (λx j hn=>by
    by_cases hw:wordF x=true
    ·exact word_up hw
    ·simp[hw] at hn)
  |false =>
   rw[hu] at hcls;rw[if_neg (by simp)];cases hlo:isLo (byt l i) with
   |true =>
    rw[hlo] at hcls;have h1:clsF (byt l i)=2:=hcls;rw[if_pos rfl,if_neg (show ¬clsF (byt l i)=1 by omega),if_pos h1,A2v];have:=Agu in_wd l i h' (λx j=>if nameF x then some ((2:Int),x,(0:Int),j) else none) (λx j hn=>by
     by_cases hw:nameF x=true
     ·exact Blt hw
     ·simp[hw] at hn)
    rw[this,name_eq]
   |false =>
    rw[hlo] at hcls;rw[if_neg (by simp)];cases hd:isDi (byt l i) with
    |true =>
     rw[hd] at hcls;have h1:clsF (byt l i)=3:=hcls;rw[if_pos rfl,if_neg (show ¬clsF (byt l i)=1 by omega),if_neg (show ¬clsF (byt l i)=2 by omega),if_pos h1];have hrg:=runTo_gt h hd;have hne:cut l i (runTo isDi l i)≠[]:=by have:=cut_length l i (runTo isDi l i) (by have:=runTo_range isDi l i h';omega);intro h0;rw[h0] at this;simp at this;omega
     have hall:(cut l i (runTo isDi l i)).all (λb=>isDi b.toNat)=true:=by rw[Pu _ _ _ h.1];exact Bhb _ _
     refine(Bmm hne hall _ _).trans ?_;exact Agu (λb hb=>in_wd b (di_in b hb)) l i h' Aln (λx j hn=>Azo hn)
    |false =>
     rw[hd] at hcls;rw[if_neg (by simp)];by_cases hq:byt l i=39
     ·have h1:clsF (byt l i)=5:=by rw[hq];decide +kernel
      rw[if_pos hq,if_neg (show ¬clsF (byt l i)=1 by omega),if_neg (show ¬clsF (byt l i)=2 by omega),if_neg (show ¬clsF (byt l i)=3 by omega),if_pos h1];have hqi:=qGo_in _ (l.drop (i+1).toNat) [] (i+1) (Zn1 _) (by omega);simp only;generalize qGo (l.drop (i+1).toNat) [] (i+1)=q at *;unfold checkF;cases hr:rightF 4 0 q.1 with
      |true =>
       by_cases hn:q.2<0
       ·have:q.2 = -1:=by omega
        simp[this]
       ·have:¬q.2 = -1:=by omega
        simp[this,hn]
      |false=>simp
     ·have h1:¬clsF (byt l i)=1/\¬clsF (byt l i)=2/\¬clsF (byt l i)=3/\¬clsF (byt l i)=5:=by
       simp only[Zj2,if_false,if_neg hq] at hcls;split at hcls
       ·omega
       ·split at hcls
        ·omega
        ·split at hcls<;>omega
      rw[if_neg hq,if_neg h1.1,if_neg h1.2.1,if_neg h1.2.2.1,if_neg h1.2.2.2];exact Bhy l i h
theorem Ajr(l:List UInt8):∀(f:Nat) (i:Int) (acc:List Tok),0<=i->allGo f l i acc=rallGo f l i acc
 |0,_,_,_=>rfl
 |f+1,i,acc,hi=>by
  simp only[allGo,rallGo];by_cases he:(l.length:Int)<=i
  ·rw[if_pos he,if_pos he]
  ·rw[if_neg he,if_neg he,Bgi _ (Vb l i)];by_cases hb:clsF (byt l i)=6
   ·rw[if_pos (by simp[hb]),if_pos hb];exact Ajr l f _ _ (by omega)
   ·rw[if_neg (by simp[hb]),if_neg hb,Bog l i (by omega)];cases ht:tokR l i with|none=>rfl|some r =>obtain⟨k,s,n,e⟩:=r;have:=tokR_end (by omega) ht;exact Ajr l f _ _ (by omega)
theorem allF_eq(l:List UInt8):allF l=rallF l:=Ajr l _ 0 [] (by omega)
def qS:List UInt8->List UInt8->Option (List UInt8×Nat)
 |[],_=>none
 |[c],acc=>if c=39 then some (acc,1) else none
 |c::d::r,acc=>if c=39 then(if d=39 then(qS r (acc++[39])).map λx=>(x.1,x.2+2) else some (acc,1)) else(qS (d::r) (acc++[c])).map λx=>(x.1,x.2+1)
theorem A2g:∀(f:Nat) (l acc:List UInt8) (i:Int),l.length<=f->qGo l acc i=match qS l acc with|none=>([], -1)|some (s,n)=>(s,i+(n:Int))
 |_,[],_,_,_=>rfl
 |_,[c],acc,i,_=>by by_cases hc:c=39<;>simp[qGo,qS,hc]
 |0,c::d::r,_,_,h=>by simp at h
 |f+1,c::d::r,acc,i,h=>by
  simp only[Zf1] at h;rw[qGo,qS];by_cases hc:c=39
  ·rw[if_pos hc,if_pos hc];by_cases hd:d=39
   ·rw[if_pos hd,if_pos hd,A2g f r (acc++[39]) (i+2) (by omega)];cases qS r (acc++[39]) with|none=>rfl|some x=>simp;omega
   ·rw[if_neg hd,if_neg hd];rfl
  ·rw[if_neg hc,if_neg hc,A2g f (d::r) (acc++[c]) (i+1) (by simp;omega)];cases qS (d::r) (acc++[c]) with|none=>rfl|some x=>simp;omega
theorem Alg:∀(f:Nat) (l acc s:List UInt8) (n:Nat),l.length<=f->qS l acc=some (s,n)->1<=n/\n<=l.length
 |_,[],_,_,_,_,h=>by cases h
 |_,[c],acc,s,n,_,h=>by
  by_cases hc:c=39<;>simp[qS,hc] at h
  simp[<-h.2]
 |0,c::d::r,_,_,_,h,_=>by simp at h
 |f+1,c::d::r,acc,s,n,hl,h=>by
  simp only[Zf1] at hl ⊢;rw[qS] at h;by_cases hc:c=39
  ·rw[if_pos hc] at h;by_cases hd:d=39
   ·rw[if_pos hd] at h;obtain⟨⟨s',n'⟩,hq,he⟩:=Option.map_eq_some_iff.1 h;have:=Alg f r (acc++[39]) s' n' (by omega) hq;simp at he;omega
   ·rw[if_neg hd] at h;simp at h;omega
  ·rw[if_neg hc] at h;obtain⟨⟨s',n'⟩,hq,he⟩:=Option.map_eq_some_iff.1 h;have:=Alg f (d::r) (acc++[c]) s' n' (by simp;omega) hq;simp at he this;omega
theorem A2e:∀(f:Nat) (l acc s:List UInt8) (n:Nat) (t:List UInt8),l.length<=f->(∀c b,t=c::b->c≠39)->qS l acc=some (s,n)->qS (l++t) acc=some (s,n)
 |_,[],_,_,_,_,_,_,h=>by cases h
 |_,[c],acc,s,n,t,_,ht,h=>by
  by_cases hc:c=39<;>simp[qS,hc] at h
  cases t with|nil=>simp[qS,hc,h]|cons d t=>simp[qS,hc,ht d t rfl,h]
 |0,c::d::r,_,_,_,_,h,_,_=>by simp at h
 |f+1,c::d::r,acc,s,n,t,hl,ht,h=>by
  simp only[Zf1] at hl;simp only[Zb2];rw[qS] at h ⊢;by_cases hc:c=39
  ·rw[if_pos hc] at h ⊢;by_cases hd:d=39
   ·rw[if_pos hd] at h ⊢;obtain⟨⟨s',n'⟩,hq,he⟩:=Option.map_eq_some_iff.1 h;rw[A2e f r (acc++[39]) s' n' t (by omega) ht hq];exact congrArg some he
   ·rw[if_neg hd] at h ⊢;exact h
  ·rw[if_neg hc] at h ⊢;obtain⟨⟨s',n'⟩,hq,he⟩:=Option.map_eq_some_iff.1 h;have:=A2e f (d::r) (acc++[c]) s' n' t (by simp;omega) ht hq;simp only[Zb2] at this;rw[this];exact congrArg some he
theorem Aro:∀(f:Nat) (l acc s:List UInt8) (n j:Nat),l.length<=f->n<=j->qS l acc=some (s,n)->qS (l.take j) acc=some (s,n)
 |_,[],_,_,_,_,_,_,h=>by cases h
 |_,[c],acc,s,n,j,_,hj,h=>by have hl:=Alg 1 [c] acc s n (by simp) h;obtain⟨j,rfl⟩:∃i,j=i+1:=⟨j-1,by omega⟩;simpa using h
 |0,c::d::r,_,_,_,_,h,_,_=>by simp at h
 |f+1,c::d::r,acc,s,n,j,hl,hj,h=>by
  have hn:=Alg (f+1) (c::d::r) acc s n hl h;simp only[Zf1] at hl;obtain⟨j,rfl⟩:∃i,j=i+1:=⟨j-1,by omega⟩;rw[qS] at h;by_cases hc:c=39
  ·rw[if_pos hc] at h;by_cases hd:d=39
   ·rw[if_pos hd] at h;obtain⟨⟨s',n'⟩,hq,he⟩:=Option.map_eq_some_iff.1 h;simp only[Zp1] at he;obtain⟨j,rfl⟩:∃i,j=i+1:=⟨j-1,by omega⟩;simp only[List.take_succ_cons];rw[qS,if_pos hc,if_pos hd,Aro f r (acc++[39]) s' n' j (by omega) (by omega) hq];simp[he]
   ·rw[if_neg hd] at h;cases j with|zero=>simp[qS,hc];simpa using h|succ j=>simp only[List.take_succ_cons];rw[qS,if_pos hc,if_neg hd];exact h
  ·rw[if_neg hc] at h;obtain⟨⟨s',n'⟩,hq,he⟩:=Option.map_eq_some_iff.1 h;simp only[Zp1] at he;have hn':=Alg f (d::r) (acc++[c]) s' n' (by simp;omega) hq;obtain⟨j,rfl⟩:∃i,j=i+1:=⟨j-1,by omega⟩;have:=Aro f (d::r) (acc++[c]) s' n' (j+1) (by simp;omega) (by omega) hq;simp only[List.take_succ_cons] at this ⊢;rw[qS,if_neg hc,this];simp[he]
theorem tw_app{p:Int->Bool}(t:List UInt8)(ht:∀c b,t=c::b->p c.toNat=false):∀m:List UInt8,tw p (m++t)=tw p m
 |[]=>by cases t with|nil=>rfl|cons c t=>simp[tw,ht c t rfl]
 |x::m=>by have ih:=tw_app t ht m;unfold tw at *;cases hp:p x.toNat with|true=>simp[hp];exact ih|false=>simp[hp]
theorem Ahu{p:Int->Bool}:∀(m:List UInt8) (j:Nat),tw p (m.take j)=(tw p m).take j
 |[],j=>by simp[tw]
 |x::m,0=>by simp[tw]
 |x::m,j+1=>by have ih:=Ahu (p:=p) m j;unfold tw at *;cases hp:p x.toNat with|true=>simp[hp];exact ih|false=>simp[hp]
def nq(c:Int):Bool := !decide (c=39)
def twoS(m:List UInt8):Bool:=pre m [60,62]||pre m [60,61]||pre m [62,61]
def Ef(m:List UInt8):Option (Int×List UInt8×Int×Nat) :=
 if pre m [120,39] then
  (if(tw nq (m.drop 2)).length=(m.drop 2).length then none else
  match(if(tw nq (m.drop 2)).length % 2=0 then unGo (tw nq (m.drop 2)) [] else none) with
  |none=>none
  |some b=>if 1000<(b.length:Int) then none else some (5,b,0,(tw nq (m.drop 2)).length+3))
 else if clsF (byt m 0)=1 then(if wordF (tw isWd m) then some (1,tw isWd m,0,(tw isWd m).length) else none)
 else if clsF (byt m 0)=2 then(if rnameF (tw isWd m) then some (2,tw isWd m,0,(tw isWd m).length) else none)
 else if clsF (byt m 0)=3 then(if 0<=rnumF (tw isWd m) then some (3,tw isWd m,rnumF (tw isWd m),(tw isWd m).length) else none)
 else if clsF (byt m 0)=5 then
  match qS (m.drop 1) [] with|none=>none|some (s,n)=>if checkF 4 0 s=0 then some (4,s,0,n+1) else none
 else if clsF (byt m 0)=7 then(if twoS m then some (6,m.take 2,0,2) else some (6,m.take 1,0,1))
 else none
theorem Ber(l:List UInt8)(i:Int)(h : 0<=i/\i<l.length):tokR l i=(Ef (l.drop i.toNat)).map λx=>(x.1,x.2.1,x.2.2.1,i+(x.2.2.2:Int)):=by
 have hb0:byt (l.drop i.toNat) 0=byt l i:=by simpa using Ug l i h.1 0
 have hdl:(l.drop i.toNat).length=l.length-i.toNat:=Za2;have hd1:(l.drop i.toNat).drop 1=l.drop (i+1).toNat:=by rw[List.drop_drop];congr 1;omega
 have hd2:(l.drop i.toNat).drop 2=l.drop (i+2).toNat:=by rw[List.drop_drop];congr 1;omega
 unfold tokR Ef;by_cases hx:HexAt l i
 ·rw[if_pos hx,if_pos ((Agx l i h).1 hx)];have hr1:runTo isWd l i=i+1:=by rw[F0,<-Pu _ _ _ h.1,hx.1];rfl
  have hlt:i+1<l.length:=by have:=hx.2.1;omega
  have hdl2:(l.drop (i+2).toNat).length=l.length-(i+2).toNat:=Za2;rw[hr1];simp only;rw[show i+1+1=i+2 by omega,hd2,Pu _ _ _ (by omega),F0];change (if i+2+((tw nq (l.drop (i+2).toNat)).length:Int)=l.length then none else match(if(tw nq (l.drop (i+2).toNat)).length % 2=0 then unGo (tw nq (l.drop (i+2).toNat)) [] else none) with|none=>none|some b=>if 1000<(b.length:Int) then none else some ((5:Int),b,(0:Int),i+2+((tw nq (l.drop (i+2).toNat)).length:Int)+1))=_;generalize tw nq (l.drop (i+2).toNat)=r at *;by_cases hf:r.length=(l.drop (i+2).toNat).length
  ·rw[if_pos (show i+2+(r.length:Int)=l.length by omega),if_pos hf];rfl
  ·rw[if_neg (show ¬i+2+(r.length:Int)=l.length by omega),if_neg hf];generalize (if r.length % 2=0 then unGo r [] else none)=u;cases u with
   |none=>rfl
   |some b =>
    by_cases hbig : 1000<(b.length:Int)
    ·simp only[if_pos hbig];rfl
    ·simp only[if_neg hbig,Zl2,Za1,Zp1,true_and];omega
 ·rw[if_neg hx,if_neg (λhh=>hx ((Agx l i h).2 hh)),hb0,Pu _ _ _ h.1,F0];split
  ·split<;>rfl
  ·split
   ·split<;>rfl
   ·split
    ·split<;>rfl
    ·split
     ·rw[hd1,A2g _ _ _ _ (Zn1 _)];cases qS (l.drop (i+1).toNat) [] with
      |none=>rfl
      |some x =>
       obtain⟨s,n⟩:=x;by_cases hk:checkF 4 0 s=0
       ·simp only[if_pos hk];rw[if_pos ⟨by omega,hk⟩];simp;omega
       ·simp[hk]
     ·split
      ·have htwo:twoR l i↔twoS (l.drop i.toNat)=true:=by
        simp only[twoS,Zd2,A53 l i h,twoR];constructor
        ·rintro⟨h1,h2|h2|h2⟩
         ·exact .inl (.inl ⟨h1,h2⟩)
         ·exact .inl (.inr ⟨h1,h2⟩)
         ·exact .inr ⟨h1,h2⟩
        ·rintro((⟨h1,h2⟩|⟨h1,h2⟩)|⟨h1,h2⟩)
         ·exact⟨h1,.inl h2⟩
         ·exact⟨h1,.inr (.inl h2)⟩
         ·exact⟨h1,.inr (.inr h2)⟩
       have hc:∀k:Nat,cut l i (i+k)=(l.drop i.toNat).take k:=λk=>by unfold cut;congr 1;omega
       have h1:=hc 1;have h2:=hc 2;by_cases ht:twoR l i
       ·rw[if_pos ht,if_pos (htwo.1 ht)];simp only[Zl2];rw[<-h2];rfl
       ·rw[if_neg ht,if_neg (λhh=>ht (htwo.2 hh))];simp only[Zl2];rw[<-h1];rfl
      ·rfl
theorem Aax{m x:List UInt8}{j:Nat}(h:pre (m.take j) x=true):pre m x=true:=by simp only[pre,Zb1,Zg1,List.length_take,List.take_take] at h ⊢;have h2:=h.2;rw[show min x.length j=x.length by omega] at h2;exact⟨by omega,h2⟩
theorem V8{m x:List UInt8}{j:Nat}(h:pre m x=true)(hj:x.length<=j):pre (m.take j) x=true:=by simp only[pre,Zb1,Zg1,List.length_take,List.take_take] at h ⊢;refine⟨by omega,?_⟩;rw[show min x.length j=x.length by omega];exact h.2
theorem Awr{m:List UInt8}{j:Nat}(h : 1<=j):byt (m.take j) 0=byt m 0:=by unfold byt;simp[List.getD_eq_getElem?_getD,show 0<j by omega]
theorem A7o{m:List UInt8}{j:Nat}(h:twoS (m.take j)=true):twoS m=true:=by simp only[twoS,Zd2] at h ⊢;exact h.imp (Or.imp Aax Aax) Aax
theorem A0m{m:List UInt8}{j:Nat}(h:twoS m=true)(hj : 2<=j):twoS (m.take j)=true:=by simp only[twoS,Zd2] at h ⊢;exact h.imp (Or.imp (λh=>V8 h hj) (λh=>V8 h hj)) (λh=>V8 h hj)
theorem tokS_len{m:List UInt8}{k:Int}{s:List UInt8}{n:Int}{e:Nat}(h:Ef m=some (k,s,n,e)) : 1<=e/\e<=m.length:=by
 cases m with
 |nil=>exact absurd (h.symm.trans (show Ef []=none by decide +kernel)) (by simp)
 |cons c m =>
  have h0:(0:Int)<=0/\(0:Int)<((c::m).length:Int):=by simp
  have hr:=Ber (c::m) 0 h0;simp only[Int.toNat_zero,Zq1,h,Zl2] at hr;have:=tokR_end h0 hr;omega
theorem A9p{m:List UInt8}{k:Int}{s:List UInt8}{n:Int}{e j:Nat}(h:Ef m=some (k,s,n,e))(hj:e<=j):Ef (m.take j)=some (k,s,n,e):=by
 have hlen:=tokS_len h;have hb:=Awr (m:=m) (j:=j) (by omega);have htw:∀p:Int->Bool,(tw p m).length<=j->tw p (m.take j)=tw p m:=λp hp=>by rw[Ahu,List.take_of_length_le hp]
 unfold Ef at h ⊢;by_cases hx:pre m [120,39]=true
 ·rw[if_pos hx] at h;have e3:∀r:List UInt8,(if r.length=(m.drop 2).length then none else match(if r.length % 2=0 then unGo r [] else none) with|none=>none|some b=>if 1000<(b.length:Int) then none else some ((5:Int),b,(0:Int),r.length+3))=some (k,s,n,e)->e=r.length+3/\r.length≠(m.drop 2).length:=by
   intro r hr;split at hr
   ·cases hr
   ·rename_i hne;split at hr
    ·cases hr
    ·split at hr
     ·cases hr
     ·simp only[Za1,Zp1] at hr;exact⟨hr.2.2.2.symm,hne⟩
  obtain⟨he,hne⟩:=e3 _ h;have hdt:(m.take j).drop 2=(m.drop 2).take (j-2):=by rw[List.drop_take]
  have hq:tw nq ((m.take j).drop 2)=tw nq (m.drop 2):=by rw[hdt,Ahu,List.take_of_length_le (by omega)]
  have hl:=Aku nq (m.drop 2);rw[if_pos (V8 hx (by simp;omega)),hq];have hne':¬(tw nq (m.drop 2)).length=((m.take j).drop 2).length:=by rw[hdt,List.length_take];omega
  rw[if_neg hne'];rw[if_neg hne] at h;exact h
 ·rw[if_neg hx] at h;rw[if_neg (λhh=>hx (Aax hh)),hb];have key:∀(b:Bool) (kk vv:Int),(if b=true then some (kk,tw isWd m,vv,(tw isWd m).length) else none)=some (k,s,n,e)->tw isWd (m.take j)=tw isWd m:=by
   intro b kk vv hh;cases b
   ·cases hh
   ·simp only[if_true,Za1,Zp1] at hh;exact htw isWd (by omega)
  split
  ·rename_i h1;rw[if_pos h1] at h;rw[key _ _ _ h];exact h
  ·rename_i h1;rw[if_neg h1] at h;split
   ·rename_i h2;rw[if_pos h2] at h;rw[key _ _ _ h];exact h
   ·rename_i h2;rw[if_neg h2] at h;split
    ·rename_i h3;rw[if_pos h3] at h;have:tw isWd (m.take j)=tw isWd m:=by
      split at h
      ·simp only[Za1,Zp1] at h;exact htw isWd (by omega)
      ·cases h
     rw[this];exact h
    ·rename_i h3;rw[if_neg h3] at h;split
     ·rename_i h5;rw[if_pos h5] at h;rw[List.drop_take];cases hq:qS (m.drop 1) [] with
      |none=>rw[hq] at h;cases h
      |some x =>
       obtain⟨s',n'⟩:=x;rw[hq] at h;have hle:n'<=j-1:=by
        simp only at h;split at h
        ·simp only[Za1,Zp1] at h;omega
        ·cases h
       rw[Aro _ _ _ s' n' (j-1) (Zn1 _) hle hq];exact h
     ·rename_i h5;rw[if_neg h5] at h;split
      ·rename_i h7;rw[if_pos h7] at h;by_cases h2':twoS m=true
       ·rw[if_pos h2'] at h;have : 2<=j:=by simp only[Za1,Zp1] at h;omega
        rw[if_pos (A0m h2' this),List.take_take,show min 2 j=2 by omega];exact h
       ·rw[if_neg h2'] at h;rw[if_neg (λhh=>h2' (A7o hh)),List.take_take,show min 1 j=1 by omega];exact h
      ·rename_i h7;rw[if_neg h7] at h;exact h
theorem Avm:∀n:Fin 256,clsF (n.val:Int)=6->isWd (n.val:Int)=false/\(n.val:Int)≠39/\(n.val:Int)≠61/\(n.val:Int)≠62:=by decide +kernel
theorem A3d{c:UInt8}(h:clsF c.toNat=6):isWd c.toNat=false/\c≠39/\c≠61/\c≠62:=by
 have:=of256 (p:=λc=>clsF c=6->isWd c=false/\c≠39/\c≠61/\c≠62) Avm c.toNat (u8_range c) h;refine⟨this.1,?_,?_,?_⟩
 ·rintro rfl;exact this.2.1 rfl
 ·rintro rfl;exact this.2.2.1 rfl
 ·rintro rfl;exact this.2.2.2 rfl
theorem Atg{m:List UInt8}(hm:m≠[])(c:UInt8)(b:List UInt8){x y:UInt8}(h:c≠y):pre (m++c::b) [x,y]=pre m [x,y]:=by
 match m with
 |[]=>exact absurd rfl hm
 |[a] =>
  have:pre [a] [x,y]=false:=by simp[pre]
  rw[this];simp[pre,h]
 |a::a'::r=>simp[pre]
theorem Bek{m:List UInt8}(hm:m≠[]){c:UInt8}(b:List UInt8)(hc:clsF c.toNat=6):twoS (m++c::b)=twoS m:=by have h:=A3d hc;simp only[twoS,Atg hm c b h.2.2.1,Atg hm c b h.2.2.2]
theorem byt_app{m:List UInt8}(hm:m≠[])(t:List UInt8):byt (m++t) 0=byt m 0:=by cases m with|nil=>exact absurd rfl hm|cons a m=>rfl
def Bfe(m:List UInt8):Prop:=byt m 0=39\/pre m [120,39]=true
theorem Bpe{c:Int}(h:clsF c=5):c=39:=by
 unfold clsF at h;split at h; · omega
 split at h; · omega
 split at h; · omega
 split at h; · omega
 split at h; · assumption
 split at h; · omega
 split at h<;>omega
theorem Ahv{m:List UInt8}(hm:m≠[]){c:UInt8}(b:List UInt8)(hc:clsF c.toNat=6):(Ef m≠none\/¬Bfe m)->Ef (m++c::b)=Ef m:=by
 intro hor;have hbl:=A3d hc;have htw:tw isWd (m++c::b)=tw isWd m:=tw_app _ (λd t hd=>by cases hd;exact hbl.1) m;unfold Ef at hor ⊢;rw[Atg hm c b hbl.2.1,htw,byt_app hm,Bek hm b hc];by_cases hx:pre m [120,39]=true
 ·rw[if_pos hx] at hor;rw[if_pos hx,if_pos hx];have h2 : 2<=m.length:=by simp only[pre,Zb1,Zg1,Zf1,Zi1] at hx;omega
  have hd:(m++c::b).drop 2=m.drop 2++c::b:=by rw[List.drop_append_of_le_length h2]
  rcases hor with hor|hor
  ·have hne:¬(tw nq (m.drop 2)).length=(m.drop 2).length:=λhh=>by rw[if_pos hh] at hor;exact hor rfl
   have hfull:∃r1 d r2,m.drop 2=r1++d::r2/\nq d.toNat=false:=by
    have hsp:∀x:List UInt8,(tw nq x).length≠x.length->∃r1 d r2,x=r1++d::r2/\nq d.toNat=false:=by
     intro x;induction x with
     |nil=>intro h;simp[tw] at h
     |cons y x ih =>
      intro hne;cases hy:nq y.toNat with
      |false=>exact⟨[],y,x,rfl,hy⟩
      |true =>
       have:(tw nq x).length≠x.length:=by unfold tw at hne ⊢;simp[hy] at hne;exact hne
       obtain⟨r1,d,r2,h1,h2⟩:=ih this;exact⟨y::r1,d,r2,by rw[h1];rfl,h2⟩
    exact hsp _ hne
   have htq:tw nq ((m++c::b).drop 2)=tw nq (m.drop 2):=by obtain⟨r1,d,r2,h1,h2'⟩:=hfull;rw[hd,h1,Zj1,Zb2];rw[tw_app (p:=nq) (d::(r2++c::b)) (λx t hx=>by cases hx;exact h2') r1,tw_app (p:=nq) (d::r2) (λx t hx=>by cases hx;exact h2') r1]
   have hl:=Aku nq (m.drop 2);have hne':¬(tw nq (m.drop 2)).length=((m++c::b).drop 2).length:=by rw[hd,Zh1];omega
   rw[htq,if_neg hne',if_neg hne]
  ·exact absurd (.inr hx) hor
 ·rw[if_neg hx] at hor;rw[if_neg hx,if_neg hx];have ht1:(m++c::b).take 1=m.take 1:=by cases m with|nil=>exact absurd rfl hm|cons a m=>rfl
  have ht2:twoS m=true->(m++c::b).take 2=m.take 2:=λh2=>by
   have : 2<=m.length:=by simp only[twoS,Zd2,pre,Zb1,Zg1,Zf1,Zi1] at h2;omega
   rw[List.take_append_of_le_length this]
  by_cases h1:clsF (byt m 0)=1
  ·rw[if_pos h1,if_pos h1]
  ·by_cases h2:clsF (byt m 0)=2
   ·rw[if_neg h1,if_neg h1,if_pos h2,if_pos h2]
   ·by_cases h3:clsF (byt m 0)=3
    ·rw[if_neg h1,if_neg h1,if_neg h2,if_neg h2,if_pos h3,if_pos h3]
    ·rw[if_neg h1,if_neg h1,if_neg h2,if_neg h2,if_neg h3,if_neg h3];rw[if_neg h1,if_neg h2,if_neg h3] at hor;by_cases h5:clsF (byt m 0)=5
     ·rw[if_pos h5] at hor;rw[if_pos h5,if_pos h5];rcases hor with hor|hor
      ·have hd:(m++c::b).drop 1=m.drop 1++c::b:=by cases m with|nil=>exact absurd rfl hm|cons a m=>rfl
       cases hq:qS (m.drop 1) [] with|none=>rw[hq] at hor;exact absurd rfl hor|some x =>rw[hd,A2e _ _ _ x.1 x.2 (c::b) (Zn1 _) (λd t hd=>by cases hd;exact hbl.2.1) hq]
      ·exact absurd (.inl (Bpe h5)) hor
     ·rw[if_neg h5,if_neg h5];by_cases h7:clsF (byt m 0)=7
      ·rw[if_pos h7,if_pos h7];by_cases h2':twoS m=true
       ·rw[if_pos h2',if_pos h2',ht2 h2']
       ·rw[if_neg h2',if_neg h2',ht1]
      ·rw[if_neg h7,if_neg h7]
inductive Sc:List UInt8->Int->List Tok->Prop where
 |nil {p:Int}:Sc [] p []
 |blank {c:UInt8}{r:List UInt8}{p:Int}{ts:List Tok}:clsF c.toNat=6->Sc r (p+1) ts->Sc (c::r) p ts
 |tok {m:List UInt8}{p:Int}{k:Int}{s:List UInt8}{n:Int}{e:Nat}{ts:List Tok}:clsF (byt m 0)≠6->Ef m=some (k,s,n,e)->Sc (m.drop e) (p+e) ts->Sc m p (⟨k,p,s,n⟩::ts)
inductive Er:List UInt8->Int->Int->Prop where
 |blank {c:UInt8}{r:List UInt8}{p j:Int}:clsF c.toNat=6->Er r (p+1) j->Er (c::r) p j
 |tok {m:List UInt8}{p:Int}{k:Int}{s:List UInt8}{n:Int}{e:Nat}{j:Int}:clsF (byt m 0)≠6->Ef m=some (k,s,n,e)->Er (m.drop e) (p+e) j->Er m p j
 |bad {m:List UInt8}{p:Int}:m≠[]->clsF (byt m 0)≠6->Ef m=none->Er m p p
theorem A05(l:List UInt8):∀(f:Nat) (i:Int) (acc:List Tok),0<=i/\i<=l.length->(l.length:Int)-i<f->match rallGo f l i acc with|.ok ts=>∃us,ts=acc++us/\Sc (l.drop i.toNat) i us|.error j=>Er (l.drop i.toNat) i j
 |0,i,acc,h,hf=>by omega
 |f+1,i,acc,h,hf=>by
  simp only[rallGo];by_cases he:(l.length:Int)<=i
  ·rw[if_pos he];exact⟨[],by simp,by rw[Zk1 (by omega)];exact .nil⟩
  ·rw[if_neg he];have hb0:byt (l.drop i.toNat) 0=byt l i:=by simpa using Ug l i h.1 0
   have hcons:=Hh l i (by omega);by_cases hb:clsF (byt l i)=6
   ·rw[if_pos hb];have ih:=A05 l f (i+1) acc (by omega) (by omega);have hb':clsF ((l.getD i.toNat 0).toNat:Int)=6:=hb;cases hr:rallGo f l (i+1) acc with|ok ts =>rw[hr] at ih;obtain⟨us,h1,h2⟩:=ih;exact⟨us,h1,by rw[hcons];exact .blank hb' h2⟩|error j =>rw[hr] at ih;show Er _ _ _;rw[hcons];exact .blank hb' ih
   ·rw[if_neg hb];have hS:=Ber l i (by omega);cases hS':Ef (l.drop i.toNat) with
    |none =>rw[hS'] at hS;rw[hS];exact .bad (by rw[hcons];simp) (by rw[hb0];exact hb) hS'
    |some x =>
     obtain⟨k,s,n,e⟩:=x;rw[hS'] at hS;simp only[Zl2] at hS;have hlen:=tokS_len hS';have hdl:(l.drop i.toNat).length=l.length-i.toNat:=Za2;rw[hS];simp only;have ih:=A05 l f (i+(e:Int)) (acc++[⟨k,i,s,n⟩]) (by omega) (by omega);have hdd:l.drop (i+(e:Int)).toNat=(l.drop i.toNat).drop e:=by rw[List.drop_drop];congr 1;omega
     rw[hdd] at ih;cases hr:rallGo f l (i+(e:Int)) (acc++[⟨k,i,s,n⟩]) with|ok ts =>rw[hr] at ih;obtain⟨us,h1,h2⟩:=ih;exact⟨⟨k,i,s,n⟩::us,by rw[h1];simp,.tok (by rw[hb0];exact hb) hS' h2⟩|error j =>rw[hr] at ih;exact .tok (by rw[hb0];exact hb) hS' ih
theorem Zk:Ef []=none:=by decide +kernel
theorem Sc.det{m:List UInt8}{p:Int}{ts:List Tok}(h:Sc m p ts):∀{us:List Tok},Sc m p us->ts=us:=by
 induction h with
 |nil =>intro us h;cases h with|nil=>rfl|tok _ h2 _=>rw[Zk] at h2;cases h2
 |blank hc _ ih =>intro us h;cases h with|blank _ h2=>exact ih h2|tok h1 _ _=>exact absurd hc h1
 |tok h1 h2 _ ih =>intro us h;cases h with|nil=>rw[Zk] at h2;cases h2|blank hc _=>exact absurd hc h1|tok _ h3 h4 =>rw[h2] at h3;cases h3;rw[ih h4]
theorem Sc.not_er{m:List UInt8}{p:Int}{ts:List Tok}(h:Sc m p ts):∀{j:Int},¬Er m p j:=by
 induction h with
 |nil =>intro j h;cases h with|tok _ h2 _=>rw[Zk] at h2;cases h2|bad h _ _=>exact h rfl
 |blank hc _ ih =>intro j h;cases h with|blank _ h2=>exact ih h2|tok h1 _ _=>exact absurd hc h1|bad _ h1 _=>exact absurd hc h1
 |tok h1 h2 _ ih =>intro j h;cases h with|blank hc _=>exact absurd hc h1|tok _ h3 h4 =>rw[h2] at h3;cases h3;exact ih h4|bad _ _ h3=>rw[h2] at h3;cases h3
theorem Er.det{m:List UInt8}{p j:Int}(h:Er m p j):∀{i:Int},Er m p i->j=i:=by
 induction h with
 |blank hc _ ih =>intro i h;cases h with|blank _ h2=>exact ih h2|tok h1 _ _=>exact absurd hc h1|bad _ h1 _=>exact absurd hc h1
 |tok h1 h2 _ ih =>intro i h;cases h with|blank hc _=>exact absurd hc h1|tok _ h3 h4 =>rw[h2] at h3;cases h3;exact ih h4|bad _ _ h3=>rw[h2] at h3;cases h3
 |bad h0 h1 h2 =>intro i h;cases h with|blank hc _=>exact absurd hc h1|tok _ h3 _=>rw[h2] at h3;cases h3|bad _ _ _=>rfl
theorem allF_sc(l:List UInt8):match allF l with
  |.ok ts=>Sc l 0 ts
  |.error j=>Er l 0 j:=by
 rw[allF_eq,rallF];have h:=A05 l (l.length+1) 0 [] (by omega) (by omega);cases hr:rallGo (l.length+1) l 0 [] with|ok ts =>rw[hr] at h;obtain⟨us,h1,h2⟩:=h;simp only[Zf2] at h1;subst h1;simpa using h2|error j=>rw[hr] at h;simpa using h
theorem allF_of_sc{l:List UInt8}{ts:List Tok}(h:Sc l 0 ts):allF l = .ok ts:=by have h2:=allF_sc l;cases hr:allF l with|ok us=>rw[hr] at h2;rw[h.det h2]|error j=>rw[hr] at h2;exact absurd h2 h.not_er
def Bnc(d:Int)(t:Tok):Tok:=⟨t.kind,t.pos+d,t.s,t.n⟩
theorem Sc.off{m:List UInt8}{p:Int}{ts:List Tok}(h:Sc m p ts)(d:Int):Sc m (p+d) (ts.map (Bnc d)):=by induction h with|nil=>exact .nil|blank hc _ ih=>exact .blank hc (by rw[show ∀x:Int,x+d+1=x+1+d fromλx=>by omega];exact ih)|tok h1 h2 _ ih=>exact .tok h1 h2 (by rw[show ∀x y:Int,x+d+y=x+y+d fromλx y=>by omega];exact ih)
theorem Er.off{m:List UInt8}{p j:Int}(h:Er m p j)(d:Int):Er m (p+d) (j+d):=by induction h with|blank hc _ ih=>exact .blank hc (by rw[show ∀x:Int,x+d+1=x+1+d fromλx=>by omega];exact ih)|tok h1 h2 _ ih=>exact .tok h1 h2 (by rw[show ∀x y:Int,x+d+y=x+y+d fromλx y=>by omega];exact ih)|bad h0 h1 h2=>exact .bad h0 h1 h2
theorem Ao1{m:List UInt8}{x:Int×List UInt8×Int×Nat}(h:Ef m=some x):m≠[]:=by rintro rfl;rw[Zk] at h;cases h
theorem Sc.app{a:List UInt8}{p:Int}{ts:List Tok}(h:Sc a p ts){c:UInt8}(hc:clsF c.toNat=6)(b:List UInt8):∀{us:List Tok},Sc b (p+a.length+1) us->Sc (a++c::b) p (ts++us):=by induction h with|nil=>intro us hb;exact .blank hc (by simpa using hb)|blank hx _ ih =>intro us hb;refine .blank hx (ih ?_);rename_i r p _ _;rw[show p+1+(r.length:Int)+1=p+((r.length+1:Nat):Int)+1 by omega];exact hb|tok h1 h2 _ ih =>intro us hb;have hm:=Ao1 h2;have hl:=tokS_len h2;refine .tok (by rw[byt_app hm];exact h1) ((Ahv hm b hc (.inl (by rw[h2];simp))).trans h2) ?_;rw[List.drop_append_of_le_length hl.2];refine ih ?_;rename_i m p _ _ _ e _ _;rw[Za2,show p+(e:Int)+((m.length-e:Nat):Int)+1=p+(m.length:Int)+1 by omega];exact hb
theorem Er.app{a:List UInt8}{p j:Int}(h:Er a p j){c:UInt8}(hc:clsF c.toNat=6)(b:List UInt8):∃i:Nat,j=p+i/\i<a.length/\(Bfe (a.drop i)\/Er (a++c::b) p j):=by
 induction h with
 |blank hx _ ih =>obtain⟨i,h1,h2,h3⟩:=ih;refine⟨i+1,by omega,by simp;omega,?_⟩;exact h3.imp (λh=>h) (λh =>.blank hx h)
 |tok h1 h2 _ ih =>obtain⟨i,h3,h4,h5⟩:=ih;have hm:=Ao1 h2;have hl:=tokS_len h2;rename_i m p _ _ _ e _ _;rw[Za2] at h4;refine⟨e+i,by omega,by omega,?_⟩;rw[List.drop_drop] at h5;refine h5.imp (λh=>h) (λh =>?_);refine .tok (by rw[byt_app hm];exact h1) ((Ahv hm b hc (.inl (by rw[h2];simp))).trans h2) ?_;rw[List.drop_append_of_le_length hl.2];exact h
 |bad h0 h1 h2 =>
  rename_i m p;refine⟨0,by omega,List.length_pos_iff.2 h0,?_⟩;by_cases ho:Bfe m
  ·exact .inl ho
  ·right;exact .bad (by simp) (by rw[byt_app h0];exact h1) ((Ahv h0 b hc (.inr ho)).trans h2)
theorem Sc.le{m:List UInt8}{p:Int}{ts:List Tok}(h:Sc m p ts):∀t,t∈ts->p<=t.pos:=by
 induction h with
 |nil=>intro t h;cases h
 |blank _ _ ih=>intro t h;have:=ih t h;omega
 |tok _ _ _ ih =>
  intro t h;simp only[List.mem_cons] at h;rcases h with rfl|h
  ·exact Int.le_refl _
  ·have:=ih t h;omega
theorem Sc.part{m:List UInt8}{p:Int}{ts:List Tok}(h:Sc m p ts):∀(k:Nat) (t:Tok),ts[k]? = some t->∃A:Nat,t.pos=p+A/\A<m.length/\Sc (m.take A) p (ts.take k)/\Sc (m.drop A) t.pos (ts.drop k):=by
 induction h with
 |nil=>intro k t h;simp at h
 |blank hc _ ih =>intro k t h;obtain⟨A,h1,h2,h3,h4⟩:=ih k t h;exact⟨A+1,by omega,by simp;omega,by rw[List.take_succ_cons];exact .blank hc h3,h4⟩
 |tok h1 h2 h3 ih =>intro k t h;have hl:=tokS_len h2;rename_i m p _ _ _ e _;cases k with|zero =>simp only[List.getElem?_cons_zero,Za1] at h;subst h;exact⟨0,by simp,by omega,by simp;exact .nil,by simp;exact .tok h1 h2 h3⟩|succ k =>obtain⟨A,h4,h5,h6,h7⟩:=ih k t (by simpa using h);rw[Za2] at h5;refine⟨e+A,by omega,by omega,?_,by rw[<-List.drop_drop];exact h7⟩;rw[List.take_succ_cons];refine .tok (by rw[Awr (by omega)];exact h1) (A9p h2 (by omega)) ?_;rw[List.drop_take,show e+A-e=A by omega];exact h6
theorem Sc.next{m:List UInt8}{p:Int}{t:Tok}{ts:List Tok}(h:Sc m p (t::ts))(ht:t.pos=p):∀u,u∈ts->p<u.pos:=by cases h with|blank hc h2=>have:=h2.le t (by simp);omega|tok _ h2 h3 =>intro u hu;have:=h3.le u hu;have:=tokS_len h2;omega
end Go.Proofs.YthndhaolemgbdaaGreatDoor.Lp
namespace Go.Ax
theorem FnOk.ofIs{P:Program}{el:Ck->TypeId}{gl:Nat->Option Gv}{f:FuncId}{sa sr:List Sg}{F:FT sa sr}(he:Sx.Enters P f)(ho:Bl 0 sr=[])(h:∀x r,F x=some r->∃(us:List Value) (v:Value),(∀X vs,Reps X (Cs 0 sa x) vs->vs=us)/\Sx.Con P f us [] (λ_=>True) (Sx.Is v)/\∀X,BdL sa x->Rep X (Me (Cs 0 sr r)) v):FnOk P el gl f sa sr F:=by
 refine⟨he,λx r hx w M vs hM hgl hr =>?_⟩;obtain⟨us,v,h1,h2,h3⟩:=h x r hx;obtain rfl:=h1 _ _ hr;refine(h2.calls w (λ_ _=>trivial)).mono ?_;rintro en w' ⟨u,L',F',rfl,⟨rfl,_,_⟩,_,hb⟩;refine⟨u,⟨λ_=>0,λ_=>Option.none⟩,rfl,Chg.of_below hb,λp g o hp =>?_,λp q g o o' hp =>?_,h3 _ (Abi hr)⟩
 ·rw[ho] at hp;cases hp
 ·rw[ho] at hp;cases hp
end Go.Ax
namespace Go.Proofs.YthndhaolemgbdaaGreatDoor
open Go.Ax
open Go.Sx (Con S Is Amw Bmg)
end Go.Proofs.YthndhaolemgbdaaGreatDoor
namespace Go.Proofs.YthndhaolemgbdaaGreatDoor
open Go.Ax
def Aac:Sig:=⟨20,[(0,.str),(2,.bool),(5,.int .i64),(6,.int .i64)],[],[],0,0,0,[],[]⟩
abbrev My:=Str×Bool×Int×Int
def K3{R:Type}(rec:My->Option R)(kx:Ex->My->Option R)(v:My):Option R:=match v with
 |(v,v1,v2,v3) =>
 cond (decide (v3<v2)) (
  chk (inb v3 v.length) (
  cond (decide ((bat v v3)<32)) (
   kx .ret (v,false,v2,v3)) (
   chk (inb v3 v.length) (
   cond (decide (126<(bat v v3))) (
    kx .ret (v,false,v2,v3)) (
    rec (v,v1,v2,(wr .i64 (v3+1)))))))) (
  kx (.exit 0) (v,v1,v2,v3))
def Aim(R:Type)(k:Nat):Px R:=pxO [] [] [(2,Aq k Aac (K3))] []
def Ar2(k:Nat)(x:HV [.str]):Option (HV [.bool]):=match x with
 |s =>
 Al (λrec=>K3 rec (λe vz=>match vz with|(_,v5,_,_)=>match e with
  |.ret =>
  some v5
  |.exit 0 =>
  some true
  |_=>none)) k (s,false,(s.length:Int),0)
theorem Ax7(k:Nat):FO 169 [.str] [.bool] (Ar2 k):=fR (px:=Aim _ k) (n:=1) Tryz.func169 rfl (λcx H=>by have h0:Lv cx (Aim (HV [.bool]) k):=lv H Af Ab Aa;have hlvisible_0:=lO H h0 (b:=lp Tryz.f169 0) (k:=k) (n:=0) (s:=Aac) (step:=K3) (λ_ _ _ (_,_,_,_)=>by kernel_rfl) Ak;exact⟨h0,(Bq Ak hlvisible_0)⟩) λ_=>by kernel_rfl
def vis(b:UInt8):Bool:=decide (32<=b.toNat)&&decide (b.toNat<=126)
def Gt(s:Str):Bool:=s.all vis
def Adx:FT [.str] [.bool]:=λx=>some (Gt x)
theorem Aav{R:Type}{kx:Ex->My->Option R}{s:Str}{a b:Option R}(hs:ln s.length)(h1:∀r j,kx .ret (s,false,r,j)=a)(h2:∀q r j,kx (.exit 0) (s,q,r,j)=b):∀(k i:Nat) q,i<=s.length->s.length-i<k->Al (λrec=>K3 rec kx) k (s,q,(s.length:Int),(i:Int))=cond ((s.drop i).all vis) b a
 |0,i,q,_,h=>by omega
 |k+1,i,q,hi,h=>by
  rw[A3];by_cases hl:i<s.length
  ·have ih:=Aav hs h1 h2 k (i+1) q (by omega) (by omega);simp only[K3,A0 hl hs,ih,h1,As hl,Cg hl,A7 hl,Zv1,chk,Ae,Bool.cond_decide];rw[if_pos (by omega)];simp only[vis];split
   ·rw[Zd1 (by omega)];rfl
   ·split
    ·rw[Ze1 (by omega),Zd1 (by omega)];rfl
    ·rw[Ze1 (by omega),Ze1 (by omega)];rfl
  ·simp only[K3,h2,Bool.cond_decide];rw[if_neg (by omega),Zk1 (by omega)];rfl
theorem Az7:FO 169 [.str] [.bool] Adx :=.fin 0 Ax7 λx r hb hx=>⟨x.length+1,by simp only[Adx,Za1] at hx;have:=Aav (a:=some false) (b:=some true) hb (kx:=λe v=>match v with|(_,v5,_,_)=>match e with|.ret=>some v5|.exit 0=>some true|_=>none) (λ_ _=>rfl) (λ_ _ _=>rfl) (x.length+1) 0 false (Nat.zero_le _) (by omega);refine Eq.trans this ?_;rw[<-hx,Zq1,Gt];cases x.all vis<;>rfl⟩
def Bar(R:Type):Px R:=pxO [(169,cA Adx)] [] [] []
def Ss(x:HV [.sv .val]):Option (HV [.bool]):=match x with
 |v =>
 cond (decide (v.kind=1)) (
  cond (decide (v.n=0)) (
  some (decide (v.s=[]))) (
  some false)) (
  cond (decide (v.kind=2)) (
  cond (decide (v.n=0)) (
   some (decide (v.s=[]))) (
   cond (decide (v.n=1)) (
   some (decide (v.s=[]))) (
   some false))) (
  cond (decide (v.kind=3)) (
   some (decide (v.s=[]))) (
   cond (decide (v.kind=4)) (
   cond (decide (v.n=0)) (
    cond (decide ((v.s.length:Int)<=1000)) (
    some (Gt v.s)) (
    some false)) (
    some false)) (
   cond (decide (v.kind=5)) (
    cond (decide (v.n=0)) (
    some (decide ((v.s.length:Int)<=1000))) (
    some false)) (
    some false)))))
theorem A1d:FO 147 [.sv .val] [.bool] (Ss):=fR (px:=Bar _) (n:=0) Tryz.func147 rfl (λ_ H=>⟨lv H (c1 H Az7 Af) Ab Aa,Ak⟩) λ_=>by kernel_rfl
def B7(v:Val):Bool :=
 cond (decide (v.kind=1)) (
  cond (decide (v.n=0)) (
  (decide (v.s=[]))) (
  false)) (
  cond (decide (v.kind=2)) (
  cond (decide (v.n=0)) (
   (decide (v.s=[]))) (
   cond (decide (v.n=1)) (
   (decide (v.s=[]))) (
   false))) (
  cond (decide (v.kind=3)) (
   (decide (v.s=[]))) (
   cond (decide (v.kind=4)) (
   cond (decide (v.n=0)) (
    cond (decide ((v.s.length:Int)<=1000)) (
    (Gt v.s)) (
    false)) (
    false)) (
   cond (decide (v.kind=5)) (
    cond (decide (v.n=0)) (
    (decide ((v.s.length:Int)<=1000))) (
    false)) (
    false)))))
theorem A1h(x:HV [.sv .val]):Ss x=some (B7 x):=by
 first
  |exact rfl
  |simp only[Ss,B7,Bm]
def Aio:FT [.sv .val] [.bool]:=λx=>some (B7 x)
theorem Aoq:FO 147 [.sv .val] [.bool] Aio :=.fin0 A1d λx _ _ hx=>(A1h x).trans hx
def A7z(R:Type):Px R:=pxO [(147,cA Aio)] [] [] []
def T8(x:HV [.sv .val]):Option (HV [.int .i64]):=match x with
 |v =>
 cond (!(B7 v)) (
  some 2) (
  some 0)
theorem A10:FO 95 [.sv .val] [.int .i64] (T8):=fR (px:=A7z _) (n:=0) Tryz.func95 rfl (λ_ H=>⟨lv H (c1 H Aoq Af) Ab Aa,Ak⟩) λ_=>by kernel_rfl
def Jf(v:Val):Int :=
 cond (!(B7 v)) (
  2) (
  0)
theorem A13(x:HV [.sv .val]):T8 x=some (Jf x):=by
 first
  |exact rfl
  |simp only[T8,Jf,Bm]
def Ajv:FT [.sv .val] [.int .i64]:=λx=>some (Jf x)
theorem Apa:FO 95 [.sv .val] [.int .i64] Ajv :=.fin0 A10 λx _ _ hx=>(A13 x).trans hx
def Bji(R:Type):Px R:=pxO [] [] [] []
def Ab3(x:HV [.int .i64,.int .i64]):Option (HV [.int .i64,.int .i64]):=match x with
 |(a,b) =>
 cond (!decide ((decide (a<(wr .i64 (a+b))))=(decide (0<b)))) (
  some (0,20)) (
  some ((wr .i64 (a+b)),0))
theorem Be4:FO 195 [.int .i64,.int .i64] [.int .i64,.int .i64] (Ab3):=fR (px:=Bji _) (n:=0) Tryz.func195 rfl (λ_ H=>⟨lv H Af Ab Aa,Ak⟩) λ(_,_)=>by kernel_rfl
def A1s(a:Int)(b:Int):Int×Int :=
 cond (!decide ((decide (a<(wr .i64 (a+b))))=(decide (0<b)))) (
  (0,20)) (
  ((wr .i64 (a+b)),0))
theorem Be8(x:HV [.int .i64,.int .i64]):Ab3 x=some (A1s x.1 x.2):=by
 first
  |exact rfl
  |simp only[Ab3,A1s,Bm]
def Bfc:FT [.int .i64,.int .i64] [.int .i64,.int .i64]:=λx=>some (A1s x.1 x.2)
theorem Bk1:FO 195 [.int .i64,.int .i64] [.int .i64,.int .i64] Bfc :=.fin0 Be4 λx _ _ hx=>(Be8 x).trans hx
def Bcy(R:Type):Px R:=pxO [] [] [] []
def Xp(x:HV [.int .i64]):Option (HV [.int .u64]):=match x with
 |n =>
 cond (decide (n<0)) (
  some (wr .u64 (0-(wr .u64 n)))) (
  some (wr .u64 n))
theorem A8s:FO 170 [.int .i64] [.int .u64] (Xp):=fR (px:=Bcy _) (n:=0) Tryz.func170 rfl (λ_ H=>⟨lv H Af Ab Aa,Ak⟩) λ_=>by kernel_rfl
def Fe(n:Int):Int :=
 cond (decide (n<0)) (
  (wr .u64 (0-(wr .u64 n)))) (
  (wr .u64 n))
theorem A7u(x:HV [.int .i64]):Xp x=some (Fe x):=by
 first
  |exact rfl
  |simp only[Xp,Fe,Bm]
def Ark:FT [.int .i64] [.int .u64]:=λx=>some (Fe x)
theorem Awa:FO 170 [.int .i64] [.int .u64] Ark :=.fin0 A8s λx _ _ hx=>(A7u x).trans hx
def Bdh(R:Type):Px R:=pxO [] [] [] []
def Yg(x:HV [.int .u64,.int .u64]):Option (HV [.int .u64,.int .u64]):=match x with
 |(a,b) =>
 some ((wr .u64 ((wr .u64 ((wr .u64 ((J7 .u64 a 32)*(J7 .u64 b 32)))+(J7 .u64 (wr .u64 ((wr .u64 ((J7 .u64 a 32)*(Kk .u64 b 4294967295)))+(J7 .u64 (wr .u64 ((Kk .u64 a 4294967295)*(Kk .u64 b 4294967295))) 32))) 32)))+(J7 .u64 (wr .u64 ((Kk .u64 (wr .u64 ((wr .u64 ((J7 .u64 a 32)*(Kk .u64 b 4294967295)))+(J7 .u64 (wr .u64 ((Kk .u64 a 4294967295)*(Kk .u64 b 4294967295))) 32))) 4294967295)+(wr .u64 ((Kk .u64 a 4294967295)*(J7 .u64 b 32))))) 32))),(wr .u64 (a*b)))
theorem Bav:FO 201 [.int .u64,.int .u64] [.int .u64,.int .u64] (Yg):=fR (px:=Bdh _) (n:=0) Tryz.func201 rfl (λ_ H=>⟨lv H Af Ab Aa,Ak⟩) λ(_,_)=>by kernel_rfl
def Lw(a:Int)(b:Int):Int×Int :=((wr .u64 ((wr .u64 ((wr .u64 ((J7 .u64 a 32)*(J7 .u64 b 32)))+(J7 .u64 (wr .u64 ((wr .u64 ((J7 .u64 a 32)*(Kk .u64 b 4294967295)))+(J7 .u64 (wr .u64 ((Kk .u64 a 4294967295)*(Kk .u64 b 4294967295))) 32))) 32)))+(J7 .u64 (wr .u64 ((Kk .u64 (wr .u64 ((wr .u64 ((J7 .u64 a 32)*(Kk .u64 b 4294967295)))+(J7 .u64 (wr .u64 ((Kk .u64 a 4294967295)*(Kk .u64 b 4294967295))) 32))) 4294967295)+(wr .u64 ((Kk .u64 a 4294967295)*(J7 .u64 b 32))))) 32))),(wr .u64 (a*b)))
theorem Bak(x:HV [.int .u64,.int .u64]):Yg x=some (Lw x.1 x.2):=by
 first
  |exact rfl
  |simp only[Yg,Lw,Bm]
def A3h:FT [.int .u64,.int .u64] [.int .u64,.int .u64]:=λx=>some (Lw x.1 x.2)
theorem Bcc:FO 201 [.int .u64,.int .u64] [.int .u64,.int .u64] A3h :=.fin0 Bav λx _ _ hx=>(Bak x).trans hx
def Bi6(R:Type):Px R:=pxO [(170,cA Ark),(201,cA A3h)] [] [] []
def Ada(x:HV [.int .i64,.int .i64]):Option (HV [.int .i64,.int .i64]):=match x with
 |(a,b) =>
 let j1:=λ(p3:Bool) =>
  cond (p3) (
  some (0,20)) (
  cond (!decide ((decide (a<0))=(decide (b<0)))) (
   some ((wr .i64 (wr .u64 (0-(Lw (Fe a) (Fe b)).2))),0)) (
   some ((wr .i64 ((Lw (Fe a) (Fe b)).2)),0)))
 let j:=λ(p:Bool) =>
  cond (p) (
  j1 true) (
  cond (decide ((Lw (Fe a) (Fe b)).2=9223372036854775808)) (
   j1 (!(!decide ((decide (a<0))=(decide (b<0)))))) (
   j1 false))
 cond (decide (0<(Lw (Fe a) (Fe b)).1)) (
  j true) (
  j (decide (9223372036854775808<(Lw (Fe a) (Fe b)).2)))
theorem Bfk:FO 194 [.int .i64,.int .i64] [.int .i64,.int .i64] (Ada):=fR (px:=Bi6 _) (n:=0) Tryz.func194 rfl (λ_ H=>⟨lv H (c1 H Awa (c1 H Bcc Af)) Ab Aa,Ak⟩) λ(_,_)=>by kernel_rfl
def Ax6(a:Int)(b:Int):Int×Int :=
 let j1:=λ(p3:Bool) =>
  cond (p3) (
  (0,20)) (
  cond (!decide ((decide (a<0))=(decide (b<0)))) (
   ((wr .i64 (wr .u64 (0-(Lw (Fe a) (Fe b)).2))),0)) (
   ((wr .i64 ((Lw (Fe a) (Fe b)).2)),0)))
 let j:=λ(p:Bool) =>
  cond (p) (
  j1 true) (
  cond (decide ((Lw (Fe a) (Fe b)).2=9223372036854775808)) (
   j1 (!(!decide ((decide (a<0))=(decide (b<0)))))) (
   j1 false))
 cond (decide (0<(Lw (Fe a) (Fe b)).1)) (
  j true) (
  j (decide (9223372036854775808<(Lw (Fe a) (Fe b)).2)))
theorem Bge(x:HV [.int .i64,.int .i64]):Ada x=some (Ax6 x.1 x.2):=by
 first
  |exact rfl
  |simp only[Ada,Ax6,Bm]
def Bc8:FT [.int .i64,.int .i64] [.int .i64,.int .i64]:=λx=>some (Ax6 x.1 x.2)
theorem Bla:FO 194 [.int .i64,.int .i64] [.int .i64,.int .i64] Bc8 :=.fin0 Bfk λx _ _ hx=>(Bge x).trans hx
theorem Tr{i:Int}{n:Nat}(h : 0<=i/\i<n):inb i n=true:=by simp[inb,h]
def Bgs(R:Type):Px R:=pxO [] [] [] []
def Xx(x:HV [.int .u8]):Option (HV [.bool]):=match x with
 |c =>
 cond (decide (97<=c)) (
  some (decide (c<=122))) (
  some false)
theorem A69:FO 109 [.int .u8] [.bool] (Xx):=fR (px:=Bgs _) (n:=0) Tryz.func109 rfl (λ_ H=>⟨lv H Af Ab Aa,Ak⟩) λ_=>by kernel_rfl
def Y9(c:Int):Bool :=
 cond (decide (97<=c)) (
  (decide (c<=122))) (
  false)
theorem A6s(x:HV [.int .u8]):Xx x=some (Y9 x):=by
 first
  |exact rfl
  |simp only[Xx,Y9,Bm]
def Ahc:FT [.int .u8] [.bool]:=λx=>some (Y9 x)
theorem Aht:FO 109 [.int .u8] [.bool] Ahc :=.fin0 A69 λx _ _ hx=>(A6s x).trans hx
def Bf9(R:Type):Px R:=pxO [] [] [] []
def Xy(x:HV [.int .u8]):Option (HV [.bool]):=match x with
 |c =>
 cond (decide (48<=c)) (
  some (decide (c<=57))) (
  some false)
theorem A6q:FO 154 [.int .u8] [.bool] (Xy):=fR (px:=Bf9 _) (n:=0) Tryz.func154 rfl (λ_ H=>⟨lv H Af Ab Aa,Ak⟩) λ_=>by kernel_rfl
def Aaz(c:Int):Bool :=
 cond (decide (48<=c)) (
  (decide (c<=57))) (
  false)
theorem A9x(x:HV [.int .u8]):Xy x=some (Aaz x):=by
 first
  |exact rfl
  |simp only[Xy,Aaz,Bm]
def Agv:FT [.int .u8] [.bool]:=λx=>some (Aaz x)
theorem Akk:FO 154 [.int .u8] [.bool] Agv :=.fin0 A6q λx _ _ hx=>(A9x x).trans hx
def Bc7(R:Type):Px R:=pxO [(109,cA Ahc),(154,cA Agv)] [] [] []
def Ys(x:HV [.int .u8]):Option (HV [.bool]):=match x with
 |c =>
 cond ((Y9 c)) (
  some true) (
  cond ((Aaz c)) (
  some true) (
  some (decide (c=95))))
theorem A8c:FO 111 [.int .u8] [.bool] (Ys):=fR (px:=Bc7 _) (n:=0) Tryz.func111 rfl (λ_ H=>⟨lv H (c1 H Aht (c1 H Akk Af)) Ab Aa,Ak⟩) λ_=>by kernel_rfl
def Ad6(c:Int):Bool :=
 cond ((Y9 c)) (
  true) (
  cond ((Aaz c)) (
  true) (
  (decide (c=95))))
theorem A7k(x:HV [.int .u8]):Ys x=some (Ad6 x):=by
 first
  |exact rfl
  |simp only[Ys,Ad6,Bm]
def Ag2:FT [.int .u8] [.bool]:=λx=>some (Ad6 x)
theorem Akd:FO 111 [.int .u8] [.bool] Ag2 :=.fin0 A8c λx _ _ hx=>(A7k x).trans hx
theorem Akx(c:Int):Y9 c=Lp.isLo c:=by simp only[Y9,Lp.isLo];cases decide (97<=c)<;>rfl
theorem Aii(c:Int):Aaz c=Lp.isDi c:=by simp only[Aaz,Lp.isDi];cases decide (48<=c)<;>rfl
theorem Ak2(c:Int):Ad6 c=Lp.isIn c:=by simp only[Ad6,Lp.isIn,Akx,Aii];cases Lp.isLo c<;>cases Lp.isDi c<;>rfl
def Aie:Sig:=⟨21,[(0,.str),(1,.int .i64)],[(2,.fn 111 [])],[],40,40,200,[],[]⟩
abbrev Wo:=Str×Int
def Ut{R:Type}(rec:Wo->Option R)(kx:Ex->Wo->Option R)(v:Wo):Option R:=match v with
 |(v,v1) =>
 cond (decide (v1<(v.length:Int))) (
  chk (inb v1 v.length) (
  cond ((Ad6 (bat v v1))) (
   rec (v,(wr .i64 (v1+1)))) (
   kx (.exit 0) (v,v1)))) (
  kx (.exit 0) (v,v1))
def Aig(R:Type)(k:Nat):Px R:=pxO [(111,cA Ag2)] [] [(1,Aq k Aie (Ut))] []
noncomputable def Ax5(R:Type)(k:Nat):Px R:=pxO [(109,cA Ahc),(110,Az 40 200 (Aig R k) Tryz.f110)] [] [] []
def Aih(k:Nat)(x:HV [.str]):Option (HV [.bool]):=match x with
 |s =>
 let j1:=λ(p:Bool) =>
  let j:=λ(p1:Bool) =>
  cond (p1) (
   Al (λrec=>Ut rec (λe vz=>match vz with|(_,v3)=>match e with
   |.exit 0 =>some (decide (v3=(s.length:Int)))
   |_=>none)) k (s,0)) (
   some false)
  cond (p) (
  chk (inb 0 s.length) (
   j (Y9 (bat s 0)))) (
  j false)
 cond (!decide (s=[])) (
  j1 (decide ((s.length:Int)<=30))) (
  j1 false)
theorem A92(k:Nat):FO 63 [.str] [.bool] (Aih k):=fR (px:=Ax5 _ k) (n:=0) Tryz.func63 rfl (λcx H=>by have h1:Lv cx (Aig (HV [.bool]) k):=lv H (c1 H Akd Af) Ab Aa;have hllname_0:=lO H h1 (b:=lp Tryz.f110 0) (k:=k) (n:=0) (s:=Aie) (step:=Ut) (λ_ _ _ (_,_)=>by kernel_rfl) Ak;have h0:Lv cx (Ax5 (HV [.bool]) k):=lv H (c1 H Aht (Au (cR H h1 Tryz.func110 rfl (n:=1) ((Bq Ak hllname_0))) Af)) Ab Aa;exact⟨h0,Ak⟩) λ_=>by kernel_rfl
abbrev Be(s:Str):Bool:=Lp.nameF s
def Ri:FT [.str] [.bool]:=λx=>some (Be x)
theorem Abc{R:Type}{kx:Ex->Wo->Option R}{s:Str}  {a:Int->Option R}(hs:ln s.length) (h1:∀j,kx (.exit 0) (s,j)=a j):∀(k i:Nat),i<=s.length->s.length-i<k->Al (λrec=>Ut rec kx) k (s,(i:Int))=a (Lp.runTo Lp.isIn s i)
 |0,i,_,h=>absurd h (Zm1 _)
 |k+1,i,hi,h=>by
  rw[A3];by_cases hl:i<s.length
  ·have ih:=Abc  hs h1 k (i+1) (by omega) (by omega);have eb:Sx.byt s (i:Int)=(s[i].toNat:Int):=Cg hl;simp only[Ut,A0 hl hs,ih,h1,Cg hl,A7 hl,Ak2];rw[Ze1 (show(i:Int)<(s.length:Int) by omega)];cases hp:Lp.isIn (s[i].toNat:Int) with|true =>have:=Lp.runTo_yes (p:=Lp.isIn) (l:=s) (j:=i) (by omega) (by rw[eb];exact hp);rw[<-this];rfl|false =>have:=Lp.runTo_no (p:=Lp.isIn) (l:=s) (j:=i) (by omega) (by rw[eb];exact hp);rw[this];rfl
  ·have:=Lp.runTo_end (p:=Lp.isIn) (l:=s) (j:=i) (by omega);simp only[Ut,h1];rw[Zd1 (by omega),this];rfl
theorem Sp:FO 63 [.str] [.bool] Ri :=.fin 0 A92 λs r hb hx=>⟨s.length+1,by
 simp only[Ri,Za1] at hx;rw[<-hx];simp only[Aih,Be,Lp.nameF];by_cases he:s=[]
 ·rw[Ze1 he];rfl
 ·rw[Zd1 he];simp only[Zs1,Ae,Bool.true_and];by_cases h30:(s.length:Int)<=30
  ·have hp : 0<s.length:=List.length_pos_iff.2 he;rw[Ze1 h30,Tr (by omega),Akx];simp only[chk,Ae,Bool.true_and];have eb:bat s 0=Sx.byt s 0:=rfl;rw[eb];cases Lp.isLo (Sx.byt s 0) with|false=>rfl|true =>simp only[Ae,Bool.true_and];exact Abc (s:=s) (a:=λj=>some (decide (j=(s.length:Int)))) hb (λ_=>rfl) (s.length+1) 0 (Nat.zero_le _) (by omega)
  ·rw[Zd1 h30];rfl⟩
theorem wru(n:Int):wr .u64 n=n % 18446744073709551616:=by simp[wr,IntKind.wrap,IntKind.bits,IntKind.signed]
theorem wri(n:Int):wr .i64 n=if 9223372036854775808<=n % 18446744073709551616 then n % 18446744073709551616-18446744073709551616 else n % 18446744073709551616:=by simp[wr,IntKind.wrap,IntKind.bits,IntKind.signed]
theorem Ka{n:Int}(h : 0<=n/\n<=18446744073709551615):wr .u64 n=n:=by rw[wru];omega
theorem Asp{a:Int}(h : 0<=a/\a<=18446744073709551615):Kk .u64 a 4294967295=a % 4294967296:=by
 obtain⟨n,rfl⟩:=Int.eq_ofNat_of_zero_le h.1;have hn:n<18446744073709551616:=by omega
 have e2:(BitVec.ofInt IntKind.u64.bits (n:Int) &&& BitVec.ofInt IntKind.u64.bits 4294967295).toNat=n % 4294967296:=by show(BitVec.ofInt 64 (n:Int) &&& BitVec.ofInt 64 ((4294967295:Nat):Int)).toNat=n % 4294967296;rw[BitVec.toNat_and,BitVec.ofInt_natCast,BitVec.ofInt_natCast,BitVec.toNat_ofNat,BitVec.toNat_ofNat];rw[Nat.mod_eq_of_lt hn,Nat.mod_eq_of_lt (by decide)];exact Nat.and_two_pow_sub_one_eq_mod n 32
 show wr .u64 _=_;simp only[e2];rw[Ka (by omega)];omega
theorem Blw{a:Int}:J7 .u64 a 32=a / 4294967296:=by show a.fdiv (2 ^ min (32:Int).toNat IntKind.u64.bits)=_;rw[show(2:Int) ^ min (32:Int).toNat IntKind.u64.bits=4294967296 from by decide];exact Int.fdiv_eq_ediv_of_nonneg _ (by omega)
theorem Adu(a b c d:Int)(h : 0<=a/\a<=c)(h' : 0<=b/\b<=d) : 0<=a*b/\a*b<=c*d :=⟨Int.mul_nonneg h.1 h'.1,Int.mul_le_mul h.2 h'.2 h'.1 (by omega)⟩
theorem Aee(x y:Int):x*y=(x / 4294967296)*(y / 4294967296)*18446744073709551616+((x / 4294967296)*(y % 4294967296)+(x % 4294967296)*(y / 4294967296))*4294967296+(x % 4294967296)*(y % 4294967296):=by
 have hx:=Int.mul_ediv_add_emod x 4294967296;have hy:=Int.mul_ediv_add_emod y 4294967296;generalize x / 4294967296=p at *;generalize x % 4294967296=q at *;generalize y / 4294967296=r at *;generalize y % 4294967296=s at *;rw[<-hx,<-hy];simp only[Int.add_mul,Int.mul_add];have e1 : 4294967296*p*(4294967296*r)=p*r*18446744073709551616:=by rw[Int.mul_assoc,Int.mul_left_comm p,<-Int.mul_assoc];omega
 have e2 : 4294967296*p*s=p*s*4294967296:=by rw[Int.mul_assoc];omega
 have e3:q*(4294967296*r)=q*r*4294967296:=by rw[Int.mul_left_comm];omega
 omega
theorem Bjs(x y:Int)(hx : 0<=x/\x<=18446744073709551615)(hy : 0<=y/\y<=18446744073709551615):Lw x y=(x*y / 18446744073709551616,x*y % 18446744073709551616):=by have b00:=Adu (x % 4294967296) (y % 4294967296) 4294967295 4294967295 (by omega) (by omega);have b10:=Adu (x / 4294967296) (y % 4294967296) 4294967295 4294967295 (by omega) (by omega);have b01:=Adu (x % 4294967296) (y / 4294967296) 4294967295 4294967295 (by omega) (by omega);have b11:=Adu (x / 4294967296) (y / 4294967296) 4294967295 4294967295 (by omega) (by omega);have sp:=Aee x y;simp only[Lw,Blw,Asp hx,Asp hy];generalize (x % 4294967296)*(y % 4294967296)=a at *;generalize (x / 4294967296)*(y % 4294967296)=b at *;generalize (x % 4294967296)*(y / 4294967296)=c at *;generalize (x / 4294967296)*(y / 4294967296)=d at *;rw[Ka (n:=a) (by omega),Ka (n:=b) (by omega),Ka (n:=d) (by omega),Ka (n:=c) (by omega)];rw[Ka (n:=b+a / 4294967296) (by omega)];rw[Asp (by omega)];rw[Ka (n:=(b+a / 4294967296) % 4294967296+c) (by omega)];rw[Ka (n:=d+(b+a / 4294967296) / 4294967296) (by omega)];rw[Ka (n:=d+(b+a / 4294967296) / 4294967296+((b+a / 4294967296) % 4294967296+c) / 4294967296) (by omega),wru];rw[Zp1];constructor<;>omega
def Yl(n:Int):Int×Int:=if -9223372036854775808<=n/\n<=9223372036854775807 then(n,0) else(0,20)
def Np(n:Int):Int:=if n<0 then -n else n
theorem Ase{n:Int}(h:inI n):Fe n=Np n:=by simp only[inI] at h;simp only[Fe,Np,Bool.cond_decide,wru];split<;>omega
theorem Ath{q r:Int}(h:inI q)(hr:r=q):(r,(0:Int))=Yl q:=by simp only[inI] at h;rw[hr,Yl,if_pos h]
theorem Aql{q:Int}(h:¬inI q):((0:Int),(20:Int))=Yl q:=by simp only[inI] at h;rw[Yl,if_neg h]
theorem Bmu{a b:Int}(ha:inI a)(hb:inI b):A1s a b=Yl (a+b):=by
 simp only[inI] at ha hb;simp only[A1s,wri];by_cases h1 : 0<b
 ·rw[Ze1 h1];by_cases h2:a+b<=9223372036854775807
  ·have e:(a+b) % 18446744073709551616<9223372036854775808\/9223372036854775808<=(a+b) % 18446744073709551616:=by omega
   rw[<-Ath (q:=a+b) (r:=if 9223372036854775808<=(a+b) % 18446744073709551616 then(a+b) % 18446744073709551616-18446744073709551616 else(a+b) % 18446744073709551616) (by simp only[inI];omega) (by split<;>omega)];rw[Ze1 (p:=a<_) (by split<;>omega)];rfl
  ·rw[<-Aql (q:=a+b) (by simp only[inI];omega)];rw[Zd1 (p:=a<_) (by split<;>omega)];rfl
 ·rw[Zd1 h1];by_cases h2 : -9223372036854775808<=a+b
  ·rw[<-Ath (q:=a+b) (r:=if 9223372036854775808<=(a+b) % 18446744073709551616 then(a+b) % 18446744073709551616-18446744073709551616 else(a+b) % 18446744073709551616) (by simp only[inI];omega) (by split<;>omega)];rw[Zd1 (p:=a<_) (by split<;>omega)];rfl
  ·rw[<-Aql (q:=a+b) (by simp only[inI];omega)];rw[Ze1 (p:=a<_) (by split<;>omega)];rfl
theorem Bnx{a b:Int}(ha:inI a)(hb:inI b):Ax6 a b=Yl (a*b):=by
 have ha':=ha;have hb':=hb;simp only[inI] at ha' hb';have hA : 0<=Np a/\Np a<=9223372036854775808:=by unfold Np;split<;>omega
 have hB : 0<=Np b/\Np b<=9223372036854775808:=by unfold Np;split<;>omega
 have hbd:=Adu _ _ _ _ hA hB;have hsg:a*b=if decide (a<0)=decide (b<0) then Np a*Np b else -(Np a*Np b):=by unfold Np;by_cases h1:a<0<;>by_cases h2:b<0<;>simp[h1,h2,Int.neg_mul,Int.mul_neg]
 simp only[Ax6,Ase ha,Ase hb,Bjs _ _ (show 0<=Np a/\Np a<=18446744073709551615 by omega) (show 0<=Np b/\Np b<=18446744073709551615 by omega)];clear ha hb ha' hb' hA hB;generalize Np a*Np b=p at *;generalize a*b=q at *;by_cases hs:decide (a<0)=decide (b<0)
 ·rw[if_pos hs] at hsg;rw[Ze1 hs];by_cases h1:p<9223372036854775808
  ·rw[Zd1 (show ¬ 0<p / 18446744073709551616 by omega),Zd1 (show ¬ 9223372036854775808<p % 18446744073709551616 by omega),Zd1 (show ¬p % 18446744073709551616=9223372036854775808 by omega)];refine(show _=(wr .i64 (p % 18446744073709551616),(0:Int)) from rfl).trans (Ath (by simp only[inI];omega) ?_);rw[wri];split<;>omega
  ·rw[<-Aql (q:=q) (by simp only[inI];omega)];by_cases h2 : 0<p / 18446744073709551616
   ·rw[Ze1 h2];rfl
   ·rw[Zd1 h2];by_cases h3 : 9223372036854775808<p % 18446744073709551616
    ·rw[Ze1 h3];rfl
    ·rw[Zd1 h3,Ze1 (show p % 18446744073709551616=9223372036854775808 by omega)];rfl
 ·rw[if_neg hs] at hsg;rw[Zd1 hs];by_cases h1:p<=9223372036854775808
  ·rw[Zd1 (show ¬ 0<p / 18446744073709551616 by omega),Zd1 (show ¬ 9223372036854775808<p % 18446744073709551616 by omega)];have:Yl q=(wr .i64 (wr .u64 (0-p % 18446744073709551616)),(0:Int)):=by refine(Ath (by simp only[inI];omega) ?_).symm;rw[wri,wru];split<;>omega
   rw[this];cases decide (p % 18446744073709551616=9223372036854775808)<;>rfl
  ·rw[<-Aql (q:=q) (by simp only[inI];omega)];by_cases h2 : 0<p / 18446744073709551616
   ·rw[Ze1 h2];rfl
   ·rw[Zd1 h2,Ze1 (show 9223372036854775808<p % 18446744073709551616 by omega)];rfl
end Go.Proofs.YthndhaolemgbdaaGreatDoor
namespace Go.Proofs
open Go.Shelf
def Tryz.laysRA_ren:Go.Shelf.Ren:=⟨λ|155=>150|154=>171|138=>187|165=>153|143=>188|166=>104|197=>189|169=>41|195=>197|218=>198|240=>152|241=>173|219=>199|260=>200|276=>172|277=>190|217=>174|225=>203|224=>204|267=>205|266=>191|314=>207|n=>n,λ|9=>9|3=>3|4=>4|72=>80|0=>0|76=>154|105=>216|21=>21|5=>5|70=>77|20=>20|37=>78|75=>153|127=>148|164=>205|46=>68|119=>226|139=>229|138=>228|146=>231|51=>230|80=>84|n=>n,λ|1=>3|3=>4|4=>5|n=>n⟩
theorem Tryz.laysRA:Go.Proofs.Lays.n155 Tryz.prog Tryz.laysRA_ren:={
 mixed:=by kernel_rfl
 f138:=Tryz.func187.trans (congrArg some (by kernel_rfl))
 f143:=Tryz.func188.trans (congrArg some (by kernel_rfl))
 f154:=Tryz.func171.trans (congrArg some (by kernel_rfl))
 f155:=Tryz.func150.trans (congrArg some (by kernel_rfl))
 f165:=Tryz.func153.trans (congrArg some (by kernel_rfl))
 f166:=Tryz.func104.trans (congrArg some (by kernel_rfl))
 f169:=Tryz.func41.trans (congrArg some (by kernel_rfl))
 f195:=Tryz.func197.trans (congrArg some (by kernel_rfl))
 f197:=Tryz.func189.trans (congrArg some (by kernel_rfl))
 f217:=Tryz.func174.trans (congrArg some (by kernel_rfl))
 f218:=Tryz.func198.trans (congrArg some (by kernel_rfl))
 f219:=Tryz.func199.trans (congrArg some (by kernel_rfl))
 f224:=Tryz.func204.trans (congrArg some (by kernel_rfl))
 f225:=Tryz.func203.trans (congrArg some (by kernel_rfl))
 f240:=Tryz.func152.trans (congrArg some (by kernel_rfl))
 f241:=Tryz.func173.trans (congrArg some (by kernel_rfl))
 f260:=Tryz.func200.trans (congrArg some (by kernel_rfl))
 f266:=Tryz.func191.trans (congrArg some (by kernel_rfl))
 f267:=Tryz.func205.trans (congrArg some (by kernel_rfl))
 f276:=Tryz.func172.trans (congrArg some (by kernel_rfl))
 f277:=Tryz.func190.trans (congrArg some (by kernel_rfl))
 f314:=Tryz.func207.trans (congrArg some (by kernel_rfl))
 t0:=Tryz.underlying0
 a0:=Tryz.isAgg0
 z0:=Tryz.sizeOf0
 v0:=Tryz.zeroValue0
 t3:=Tryz.underlying3
 a3:=Tryz.isAgg3
 z3:=Tryz.sizeOf3
 v3:=Tryz.zeroValue3
 t4:=Tryz.underlying4
 a4:=Tryz.isAgg4
 z4:=Tryz.sizeOf4
 v4:=Tryz.zeroValue4
 t5:=Tryz.underlying5
 a5:=Tryz.isAgg5
 z5:=Tryz.sizeOf5
 v5:=Tryz.zeroValue5
 t9:=Tryz.underlying9
 a9:=Tryz.isAgg9
 z9:=Tryz.sizeOf9
 v9:=Tryz.zeroValue9
 t20:=Tryz.underlying20
 a20:=Tryz.isAgg20
 z20:=Tryz.sizeOf20
 v20:=Tryz.zeroValue20
 t21:=Tryz.underlying21
 a21:=Tryz.isAgg21
 z21:=Tryz.sizeOf21
 v21:=Tryz.zeroValue21
 t37:=Tryz.underlying78
 a37:=Tryz.isAgg78
 z37:=Tryz.sizeOf78
 v37:=Tryz.zeroValue78
 t46:=Tryz.underlying68
 a46:=Tryz.isAgg68
 z46:=Tryz.sizeOf68
 v46:=Tryz.zeroValue68
 t51:=Tryz.underlying230
 a51:=Tryz.isAgg230
 z51:=Tryz.sizeOf230
 v51:=Tryz.zeroValue230
 t70:=Tryz.underlying77
 a70:=Tryz.isAgg77
 z70:=Tryz.sizeOf77
 v70:=Tryz.zeroValue77
 t72:=Tryz.underlying80
 a72:=Tryz.isAgg80
 z72:=Tryz.sizeOf80
 v72:=Tryz.zeroValue80
 t75:=Tryz.underlying153
 a75:=Tryz.isAgg153
 z75:=Tryz.sizeOf153
 v75:=Tryz.zeroValue153
 t76:=Tryz.underlying154
 a76:=Tryz.isAgg154
 z76:=Tryz.sizeOf154
 v76:=Tryz.zeroValue154
 t105:=Tryz.underlying216
 a105:=Tryz.isAgg216
 z105:=Tryz.sizeOf216
 v105:=Tryz.zeroValue216
 t119:=Tryz.underlying226
 a119:=Tryz.isAgg226
 z119:=Tryz.sizeOf226
 t127:=Tryz.underlying148
 a127:=Tryz.isAgg148
 z127:=Tryz.sizeOf148
 v127:=Tryz.zeroValue148
 t138:=Tryz.underlying228
 a138:=Tryz.isAgg228
 z138:=Tryz.sizeOf228
 v138:=Tryz.zeroValue228
 t139:=Tryz.underlying229
 a139:=Tryz.isAgg229
 z139:=Tryz.sizeOf229
 v139:=Tryz.zeroValue229
 t146:=Tryz.underlying231
 a146:=Tryz.isAgg231
 z146:=Tryz.sizeOf231
 v146:=Tryz.zeroValue231
 t164:=Tryz.underlying205
 a164:=Tryz.isAgg205
 z164:=Tryz.sizeOf205
 v164:=Tryz.zeroValue205
 g1:=by kernel_rfl
 g3:=by kernel_rfl
 g4:=by kernel_rfl }
theorem Tryz.extraRA:Builder.Extra Tryz.prog Tryz.laysRA_ren:={
 sizeBuilder:=by kernel_rfl
 liesBuilder:=by kernel_rfl
 t5:=Tryz.laysRA.t5
 a5:=Tryz.laysRA.a5
 z5:=Tryz.laysRA.z5
 v5:=Tryz.laysRA.v5
 infoByte:=by kernel_rfl
 cellsByte:=by kernel_rfl
 sizeByte:=by kernel_rfl
 neB5:=by decide }
end Go.Proofs
namespace Go.Proofs.YthndhaolemgbdaaGreatDoor
open Go.Ax
def Ah0(s old new:Str):Option Str:=cond (decide (s.length<4294967281)&&decide (1<=old.length)&&decide (s.length+Lib.count s old*new.length<=140737488355328)&&decide ((Lib.replaceAll s old new).length<=maxLen)) (some (Lib.replaceAll s old new)) none
def Ajp:FT [.str,.str,.str] [.str]:=λx=>Ah0 x.1 x.2.1 x.2.2
theorem Bae:FO 150 [.str,.str,.str] [.str] Ajp:=by
 refine⟨Sx.enters_of Tryz.func150 rfl (by kernel_rfl),λx r hx w M vs hM hgl hr =>?_⟩;obtain⟨s,old,new⟩:=x;simp only[Ajp,Ah0] at hx;cases hc:decide (s.length<4294967281)&&decide (1<=old.length)&&decide (s.length+Lib.count s old*new.length<=140737488355328)&&decide ((Lib.replaceAll s old new).length<=maxLen) with
 |false=>rw[hc] at hx;cases hx
 |true =>rw[hc] at hx;have hx:some (Lib.replaceAll s old new)=some r:=hx;simp only[Za1] at hx;subst hx;simp only[Zb1,Zg1] at hc;obtain⟨⟨⟨h1,h2⟩,h3⟩,h4⟩:=hc;simp only[Cs,Dr,Reps,Rep] at hr;obtain⟨u,us,rfl,⟨rfl,_⟩,u2,us2,rfl,⟨rfl,_⟩,u3,us3,rfl,⟨rfl,_⟩,rfl⟩:=hr;obtain⟨m,hm⟩:=hgl.2.2 3 .i64 rfl;have c:=Any.strings_ReplaceAll Tryz.laysRA Tryz.extraRA ⟨s.toArray⟩ ⟨old.toArray⟩ ⟨new.toArray⟩ m w (by simpa[ByteArray.size] using h1) (hm w (Chg.refl _ _)) (by simpa[ByteArray.size] using h2) (by simpa[ByteArray.size,Lib.countB] using h3);refine Calls.mono (show Calls Tryz.prog 150 _ w _ from c) ?_;rintro en w' ⟨rfl,hb⟩;refine⟨_,⟨λ_=>0,λ_=>Option.none⟩,rfl,Chg.of_below hb,λp g o hp=>(by simp[Bl] at hp),λp q g o o2 hp=>(by simp[Bl] at hp),?_⟩;simp only[Me,Cs,Dr,Rep];exact⟨by simp,h4⟩
def pw:Nat->Int
 |0=>1
 |n+1=>10*pw n
def val:List Int->Int
 |[]=>0
 |x::l=>x+10*val l
def dg(l:List Int):Bool:=l.all λx=>decide (0<=x)&&decide (x<=9)
theorem Ahe{x:Int}{l:List Int}:dg (x::l)=true↔(0<=x/\x<=9)/\dg l=true:=by simp[dg]
theorem Bci:∀{l:List Int},dg l=true->0<=val l
 |[],_=>by simp[val]
 |x::l,h=>by have h:=Ahe.1 h;have:=Bci h.2;simp only[val];omega
def Kr(n:Nat):List Int:=if h:n=0 then [] else((n % 10:Nat):Int)::Kr (n / 10)
termination_by n
decreasing_by omega
theorem Ja:Kr 0=[]:=by rw[Kr];simp
theorem Oy{n:Nat}(h:¬n=0):Kr n=((n % 10:Nat):Int)::Kr (n / 10):=by rw[Kr];simp[h]
theorem Bf4(n:Nat):val (Kr n)=(n:Int):=by
 induction n using Nat.strongRecOn with
 |ind n ih =>
  by_cases h:n=0
  ·subst h;rw[Ja];rfl
  ·rw[Oy h,val,ih (n / 10) (by omega)];omega
theorem A27(n:Nat):dg (Kr n)=true:=by
 induction n using Nat.strongRecOn with
 |ind n ih =>
  by_cases h:n=0
  ·subst h;rw[Ja];rfl
  ·rw[Oy h];exact Ahe.2 ⟨by omega,ih (n / 10) (by omega)⟩
theorem Akc:∀(k n:Nat),(n:Int)<pw k->(Kr n).length<=k
 |0,n,h=>by
  have:n=0:=by simp only[pw] at h;omega
  subst this;rw[Ja];exact Zn1 _
 |k+1,n,h=>by
  by_cases h0:n=0
  ·subst h0;rw[Ja];simp
  ·have:=Akc k (n / 10) (by simp only[pw] at h;omega);rw[Oy h0];simp only[Zf1];omega
end Go.Proofs.YthndhaolemgbdaaGreatDoor
