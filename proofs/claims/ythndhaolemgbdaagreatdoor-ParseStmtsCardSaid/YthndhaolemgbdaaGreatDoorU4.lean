/- Texts of the proof,one behind the other: AxRn,Pf,Lo,Qa,Qb,Qc,Qd,Qe,Yf,Tw,Pa,Lc,Na,Lm,Ar,Lx,Ix,Ly,Lz,Shp,Sr,Dg. -/
import Derived.Test.YthndhaolemgbdaaGreatDoorU3
import Derived.KernelRfl
import Derived.Test.YthndhaolemgbdaaGreatDoorProg
import Derived.Lib.Bytealg
import Derived.Shelf.Strings.Replace
set_option linter.all false
namespace Go.Ax
structure Hx (P:Program) (el:Ck->TypeId) (gl:Nat->Option Gv) (tt:Nat->Ty) (cx:Cx):Prop where
 p:cx.P=P
 e:cx.el=el
 g:cx.gl=gl
 t:∀t,Dd P el tt t=true
 m:P.follows .mixedOrders=true
structure Lv {R:Type}(cx:Cx) (px:Px R):Prop where
 p:PxOk cx px
 c:Gl cx px
 q:CallQOk cx px
section
variable {R:Type}{P:Program}{el:Ck->TypeId}{gl:Nat->Option Gv}{tt:Nat->Ty}{cx:Cx}
theorem lv{px:Px R}{l:List (Nat×Nt R)}{lq:List (Nat×Mk R)}{lw:List (Nat×Y8 R)}(H:Hx P el gl tt cx)(h:∀g f,(g,f)∈l->O9 cx g f)(hq:∀g f,(g,f)∈lq->Acb cx g f)(hw:∀g f,(g,f)∈lw->N3 cx g f)(h1:px.tt=tt:=by rfl)(h2:px.gl=gl:=by rfl)(h3:px.call=A57 l:=by rfl)(h4:px.callQ=Awp lq:=by rfl)(h5:px.callW=tbl lw:=by rfl):Lv cx px :=⟨⟨λt=>by rw[h1,H.p,H.e];exact H.t t,by rw[h2,H.g]⟩,Blc h3 h,Bcj h4 h5 hq hw⟩
theorem cO(H:Hx P el gl tt cx){g:Nat}{sa sr:List Sg}{F:HV sa->Option (HV sr)}(h:FnOk P el gl g sa sr F)(hsa:Fx (Bo 0 sa) []=true:=by kernel_rfl):O9 (R:=R) cx g (Aeb sa sr F):=Bt4 (by rw[H.p,H.e,H.g];exact h) hsa
theorem cL(H:Hx P el gl tt cx){g:Nat}{sg so:Sig}{F:FL sg so}(h:FnLn P el gl g sg so F)(hok:lnB sg so=true:=by kernel_rfl):O9 (R:=R) cx g (Am sg so F):=Btp (by rw[H.p,H.e,H.g];exact h) hok
theorem cR(H:Hx P el gl tt cx){nb nt:Nat}{pc:Px R}{g:Nat}{fn:Func}{c:Code}{n:Nat}(h:Lv cx pc)(hf:P.funcs[g]? = some fn)(hb:fn.body=some c)(hl:∀i,i<n->C5 cx pc (lp fn i))(hname:(fn.name == "runtime.NumGoroutine")=false:=by kernel_rfl)(hcode:Vf fn=true:=by kernel_rfl)(hn:N0 fn=n:=by kernel_rfl):O9 cx g (Av nb nt pc fn):=Bq3 h.p h.c h.q (by rw[H.p];exact H.m) (by rw[H.p];exact hf) hb hname hcode hn hl
theorem c1(H:Hx P el gl tt cx){g:Nat}{sa sr:List Sg}{F:HV sa->Option (HV sr)}{l:List (Nat×Nt R)}(h:FnOk P el gl g sa sr F)(hl:∀g f,(g,f)∈l->O9 cx g f)(hsa:Fx (Bo 0 sa) []=true:=by kernel_rfl):∀g' f',(g',f')∈(g,Aeb sa sr F)::l->O9 cx g' f':=As (cO H h hsa) hl
theorem l1(H:Hx P el gl tt cx){g:Nat}{sg so:Sig}{F:FL sg so}{l:List (Nat×Nt R)}(h:FnLn P el gl g sg so F)(hl:∀g f,(g,f)∈l->O9 cx g f)(hok:lnB sg so=true:=by kernel_rfl):∀g' f',(g',f')∈(g,Am sg so F)::l->O9 cx g' f':=As (cL H h hok) hl
theorem q1(H:Hx P el gl tt cx){g:Nat}{sa sr:List Sg}{F:HV sa->Option (HV sr)}{l:List (Nat×Mk R)}(h:FnOk P el gl g sa sr F)(hl:∀g f,(g,f)∈l->Acb cx g f)(hsa:Fx (Bo 0 sa) []=true:=by kernel_rfl):∀g' f',(g',f')∈(g,Adl sa sr F)::l->Acb cx g' f':=Bbm (Bsp (by rw[H.p,H.e,H.g];exact h) hsa) hl
theorem w1(H:Hx P el gl tt cx){g:Nat}{sg so:Sig}{F:HV sg.sgs->Option (HV so.sgs)}{l:List (Nat×Y8 R)}(h:FnLn P el gl g sg so F)(hl:∀g f,(g,f)∈l->N3 cx g f)(hok:lnB sg so=true:=by kernel_rfl):∀g' f',(g',f')∈(g,Dw sg so F)::l->N3 cx g' f':=Beo (Bu3 (by rw[H.p,H.e,H.g];exact h) hok) hl
theorem lO{px:Px R}(H:Hx P el gl tt cx)(h:Lv cx px){b:Code}{k n:Nat}{s:Sig}{step:Ayn (HV s.sgs) R}(hround:∀fr rec kx v,Ud px s b fr rec kx v=step rec kx v)(hin:∀i,i<n->C5 cx px (lpC b i))(hpx:∀st K,px.loop b st K=Ao k s step st K:=by exactλ_ _=>by kernel_rfl)(hs:Aa8 s=true:=by kernel_rfl)(hn:(Bu b).length=n:=by kernel_rfl):C5 cx px b:=Bm0 h.p h.c h.q (by rw[H.p];exact H.m) hpx hs hround (J0 hn hin)
theorem fO{f:FuncId}{fn:Func}{c:Code}{sa sr:List Sg}{px:Px (HV sr)}{F:FT sa sr}{n:Nat}(ht:∀t,Dd P el tt t=true)(hm:P.follows .mixedOrders=true)(hf:P.funcs[f]? = some fn)(hb:fn.body=some c)(hname:(fn.name == "runtime.NumGoroutine")=false)(hchk:(Vf fn&&Nat.ble sa.length fn.ntmps&&Fx (Bo 0 sa) [])=true)(hn:N0 fn=n)
  (h:∀cx,Hx P el gl tt cx->Lv cx px/\∀i,i<n->C5 cx px (lp fn i)) (hF:∀x,Bfs px fn sa sr x some=F x):FnOk P el gl f sa sr F :=
 Bfk hf hb hname hm hchk hn (λcx a b c=>by obtain⟨h1,h2⟩:=h cx ⟨a,b,c,ht,hm⟩;exact⟨h1.p,h1.c,h1.q,h2⟩) hF
theorem fL{f:FuncId}{fn:Func}{c:Code}{sg so:Sig}{px:Px (HV so.sgs)}{F:FL sg so}{n:Nat}(ht:∀t,Dd P el tt t=true)(hm:P.follows .mixedOrders=true)(hf:P.funcs[f]? = some fn)(hb:fn.body=some c)(hname:(fn.name == "runtime.NumGoroutine")=false)(hchk:(Vf fn&&Nat.ble sg.n fn.ntmps)=true)(hn:N0 fn=n)
  (h:∀cx,Hx P el gl tt cx->Lv cx px/\∀i,i<n->C5 cx px (lp fn i)) (hF:∀x,Aym px fn sg so x some=F x):FnLn P el gl f sg so F :=
 Bkw hf hb hname hm hchk hn (λcx a b c=>by obtain⟨h1,h2⟩:=h cx ⟨a,b,c,ht,hm⟩;exact⟨h1.p,h1.c,h1.q,h2⟩) hF
end
theorem Cg{s:Str}{i:Nat}(h:i<s.length):bat s (i:Int)=((s[i]'h).toNat:Int):=by simp[bat,List.getD_eq_getElem?_getD,h]
theorem A8{c:Ck}{xs:List (El c)}{i:Nat}(h:i<xs.length):at' c xs (i:Int)=xs[i]'h:=by simp[at',List.getD_eq_getElem?_getD,h]
theorem A1{i n:Nat}(h:i<n)(hn:ln n):wr .i64 ((i:Int)+1)=((i+1:Nat):Int):=by rw[C3 (by simp only[ln,inI] at *;omega)];rfl
theorem An{α:Type}{l:List α}{i:Nat}(h:i<l.length):l.drop i=l[i]'h::l.drop (i+1):=List.drop_eq_getElem_cons h
theorem A5{i n:Nat}(h:i<n):inb (i:Int) n=true:=by simp[Bnt,h]
theorem Aw{V R:Type}{step:(V->Option R)->V->Option R}{k:Nat}{v:V}:Ak step (k+1) v=step (Ak step k) v:=rfl
theorem Aa{α:Type}{a b : α}:cond true a b=a:=rfl
theorem Af{α:Type}{a b : α}:cond false a b=b:=rfl
theorem Bn{α:Type}{c:Bool}{a b : α}:cond c (some a) (some b)=some (cond c a b):=by cases c<;>rfl
theorem J2{V R β:Type}{step:(V->Option R)->V->Option R}(n:Nat)(st:Nat->β->V)(Inv:Nat->β->Prop)(F:Nat->β->Option R)
  (hs:∀i,i<n->∀a,Inv i a->∀rec,(∀a',Inv (i+1) a'->rec (st (i+1) a')=F (i+1) a')->step rec (st i a)=F i a)
  (he:∀a,Inv n a->∀rec,step rec (st n a)=F n a):∀(k i:Nat) (a : β),i<=n->n-i<k->Inv i a->Ak step k (st i a)=F i a
 |0,_,_,_,h,_=>absurd h (Zm1 _)
 |k+1,i,a,hi,h,ha=>by
  rw[Aw];by_cases hl:i<n
  ·exact hs i hl a ha _ λa' ha'=>J2 n st Inv F hs he k (i+1) a' (by omega) (by omega) ha'
  ·obtain rfl:i=n:=by omega
   exact he a ha _
theorem B1{V R:Type}{step:(V->Option R)->V->Option R}(n:Nat)(st:Nat->V)(F:Nat->Option R)
  (hs:∀i,i<n->∀rec,rec (st (i+1))=F (i+1)->step rec (st i)=F i) (he:∀rec,step rec (st n)=F n):∀(k i:Nat),i<=n->n-i<k->Ak step k (st i)=F i:=λk i hi hk =>
 J2 n (λi (_:Unit)=>st i) (λ_ _=>True) (λi _=>F i) (λi hi _ _ rec h=>hs i hi rec (h () trivial)) (λ_ _ rec=>he rec) k i () hi hk trivial
theorem E7{i n:Nat}(h:i<n):decide ((i:Int)<(n:Int))=true:=Ze1 (by omega)
theorem E8(n:Nat):decide ((n:Int)<(n:Int))=false:=Zd1 (by omega)
def Fb(e:Xpr):Xpr:=Xpr.mk e.kind ⟨e.v.kind,e.v.n,e.v.s⟩ e.name e.l
theorem Ez(e:Xpr):Fb e=e:=by cases e;rfl
end Go.Ax
namespace Go.Proofs.YthndhaolemgbdaaGreatDoor
open Go.Ax
abbrev TL:=List Tok
abbrev PR(α:Type):=Except TL (α×TL)
def isT(s:Str):TL->Bool
 |t::_=>(decide (t.kind=1)||decide (t.kind=6))&&decide (t.s=s)
 |[]=>false
def mkX(k:Int)(l:List Xpr):Xpr :=.mk k ⟨0,0,[]⟩ [] l
def Mv(k n:Int)(s:Str):Xpr :=.mk 1 ⟨k,n,s⟩ [] []
def sNOT:Str:=[78,79,84]
def sIS:Str:=[73,83]
def sNULL:Str:=[78,85,76,76]
def Aae:Str:=[84,82,85,69]
def Rs:Str:=[70,65,76,83,69]
def Avp:Str:=[65,78,68]
def sOR:Str:=[79,82]
def Cm{α:Type}(p:TL->PR α):Prop:=∀l e l',p l = .ok (e,l')->l'.length<l.length
def Cf(rec:TL->PR Xpr)(l:TL):PR Xpr:=match l with
 |[] =>.error []
 |t::r =>
  if t.kind=2 then .ok (.mk 2 ⟨0,0,[]⟩ t.s [],r)
  else if t.kind=3 then .ok (Mv 3 t.n [],r)
  else if t.kind=4 then .ok (Mv 4 0 t.s,r)
  else if t.kind=5 then .ok (Mv 5 0 t.s,r)
  else if t.kind=1/\t.s=Aae then .ok (Mv 2 1 [],r)
  else if t.kind=1/\t.s=Rs then .ok (Mv 2 0 [],r)
  else if t.kind=1/\t.s=sNULL then .ok (Mv 1 0 [],r)
  else if isT [40] (t::r) then match rec r with|.error q =>.error q|.ok (e,l')=>if isT [41] l' then .ok (e,l'.tail) else .error l'
  else .error (t::r)
def Em(part:TL->PR Xpr)(sg:List (Str×Int)):Nat->Xpr->TL->PR Xpr
 |0,_,l =>.error l
 |n+1,e,l=>match sg.find? (λp=>isT p.1 l) with
  |none =>.ok (e,l)
  |some p=>match part l.tail with|.error q =>.error q|.ok (x,l')=>Em part sg n (mkX p.2 [e,x]) l'
def C2(part:TL->PR Xpr)(sg:List (Str×Int))(l:TL):PR Xpr:=match part l with|.error q =>.error q|.ok (e,l')=>Em part sg (l'.length+1) e l'
def Bi(s:Str)(k:Int)(part:TL->PR Xpr):TL->PR Xpr
 |[]=>part []
 |t::r=>match isT s (t::r) with
  |true=>match Bi s k part r with|.error q =>.error q|.ok (e,l') =>.ok (mkX k [e],l')
  |false=>part (t::r)
def cmpS:List (Str×Int):=[([61],6),([60,62],7),([60],8),([60,61],9),([62],10),([62,61],11)]
def isP(e:Xpr)(l:TL):PR Xpr:=match isT sNOT l.tail with
 |true=>match isT sNULL l.tail.tail with|true =>.ok (mkX 3 [mkX 16 [e]],l.tail.tail.tail)|false =>.error l.tail.tail
 |false=>match isT sNULL l.tail with|true =>.ok (mkX 16 [e],l.tail.tail)|false =>.error l.tail
def Xn(sum:TL->PR Xpr)(l:TL):PR Xpr:=match sum l with
 |.error q =>.error q
 |.ok (e,l')=>match cmpS.find? (λp=>isT p.1 l') with
  |some p=>match sum l'.tail with|.error q =>.error q|.ok (x,l2) =>.ok (mkX p.2 [e,x],l2)
  |none=>match isT sIS l' with|true=>isP e l'|false =>.ok (e,l')
def lev(rec:TL->PR Xpr):Nat->TL->PR Xpr
 |1=>C2 (C2 (Bi sNOT 3 (Xn (C2 (C2 (Bi [45] 15 (Cf rec)) [([42],14)]) [([43],12),([45],13)]))) [(Avp,4)]) [(sOR,5)]
 |2=>C2 (Bi sNOT 3 (Xn (C2 (C2 (Bi [45] 15 (Cf rec)) [([42],14)]) [([43],12),([45],13)]))) [(Avp,4)]
 |3=>Bi sNOT 3 (Xn (C2 (C2 (Bi [45] 15 (Cf rec)) [([42],14)]) [([43],12),([45],13)]))
 |4=>Xn (C2 (C2 (Bi [45] 15 (Cf rec)) [([42],14)]) [([43],12),([45],13)])
 |5=>C2 (C2 (Bi [45] 15 (Cf rec)) [([42],14)]) [([43],12),([45],13)]
 |6=>C2 (Bi [45] 15 (Cf rec)) [([42],14)]
 |_=>Bi [45] 15 (Cf rec)
def orN:Nat->TL->PR Xpr
 |0,l =>.error l
 |n+1,l=>lev (orN n) 1 l
def orW(l:TL):PR Xpr:=orN (l.length+1) l
theorem Kn{s:Str}{l:TL}(h:isT s l=true):l.tail.length+1=l.length:=by cases l with|nil=>cases h|cons t r=>rfl
theorem Bj(l:TL):l.tail.length<=l.length:=by cases l<;>simp
theorem Zv{rec:TL->PR Xpr}(hr:Cm rec):Cm (Cf rec):=λl e l' h=>by
 cases l with
 |nil=>cases h
 |cons t r =>
  simp only[Cf] at h;simp only[Zf1];by_cases k2:t.kind=2
  ·rw[if_pos k2] at h;injection h with h;injection h with _ h;rw[<-h];omega
  rw[if_neg k2] at h;by_cases k3:t.kind=3
  ·rw[if_pos k3] at h;injection h with h;injection h with _ h;rw[<-h];omega
  rw[if_neg k3] at h;by_cases k4:t.kind=4
  ·rw[if_pos k4] at h;injection h with h;injection h with _ h;rw[<-h];omega
  rw[if_neg k4] at h;by_cases k5:t.kind=5
  ·rw[if_pos k5] at h;injection h with h;injection h with _ h;rw[<-h];omega
  rw[if_neg k5] at h;by_cases k6:t.kind=1/\t.s=Aae
  ·rw[if_pos k6] at h;injection h with h;injection h with _ h;rw[<-h];omega
  rw[if_neg k6] at h;by_cases k7:t.kind=1/\t.s=Rs
  ·rw[if_pos k7] at h;injection h with h;injection h with _ h;rw[<-h];omega
  rw[if_neg k7] at h;by_cases k8:t.kind=1/\t.s=sNULL
  ·rw[if_pos k8] at h;injection h with h;injection h with _ h;rw[<-h];omega
  rw[if_neg k8] at h;by_cases k9:isT [40] (t::r)=true
  ·rw[if_pos k9] at h;cases hq:rec r with
   |error q=>rw[hq] at h;cases h
   |ok x =>
    obtain⟨e1,m⟩:=x;rw[hq] at h;have h1:=hr _ _ _ hq;have h2:=Bj m;by_cases k10:isT [41] m=true
    ·simp only[if_pos k10] at h;injection h with h;injection h with _ h;rw[<-h];omega
    ·simp only[if_neg k10] at h;cases h
  ·rw[if_neg k9] at h;cases h
theorem A7o{sg:List (Str×Int)}{l:TL}{p:Str×Int}(h:sg.find? (λp=>isT p.1 l)=some p):isT p.1 l=true:=by simpa using List.find?_some h
theorem A8f{part:TL->PR Xpr}{sg:List (Str×Int)}(hp:Cm part):∀(n:Nat) (e:Xpr) (l:TL) (e':Xpr) (l':TL),Em part sg n e l = .ok (e',l')->l'.length<=l.length
 |0,_,_,_,_,h=>by cases h
 |n+1,e,l,e',l',h=>by
  simp only[Em] at h;cases hf:sg.find? (λp=>isT p.1 l) with
  |none =>rw[hf] at h;injection h with h;injection h with _ h;rw[<-h];exact Zn1 _
  |some p =>rw[hf] at h;cases hq:part l.tail with|error q=>simp only[hq] at h;cases h|ok x =>obtain⟨e1,m⟩:=x;simp only[hq] at h;have h1:=hp _ _ _ hq;have h2:=A8f hp n _ _ _ _ h;have h3:=Bj l;omega
theorem Fu{part:TL->PR Xpr}{sg:List (Str×Int)}(hp:Cm part):Cm (C2 part sg):=λl e l' h=>by simp only[C2] at h;cases hq:part l with|error q=>rw[hq] at h;cases h|ok x =>obtain⟨e1,m⟩:=x;rw[hq] at h;have h1:=hp _ _ _ hq;have h2:=A8f hp _ _ _ _ _ h;omega
theorem Hu{s:Str}{k:Int}{part:TL->PR Xpr}(hp:Cm part):∀(l:TL) (e:Xpr) (l':TL),Bi s k part l = .ok (e,l')->l'.length<l.length
 |[],e,l',h=>hp _ _ _ h
 |t::r,e,l',h=>by
  simp only[Bi] at h;cases ht:isT s (t::r) with
  |true =>
   rw[ht] at h;cases hq:Bi s k part r with
   |error q=>simp only[hq] at h;cases h
   |ok x =>
    obtain⟨e1,m⟩:=x;simp only[hq] at h;have h1:=Hu hp r _ _ hq;injection h with h;injection h with _ h;rw[<-h]
    simp only[Zf1];omega
  |false =>rw[ht] at h;exact hp _ _ _ h
theorem Bfc{e:Xpr}{l:TL}{e':Xpr}{l':TL}(h:isP e l = .ok (e',l')):l'.length<=l.length:=by
 have h1:=Bj l;have h2:=Bj l.tail;have h3:=Bj l.tail.tail;simp only[isP] at h;cases hn:isT sNOT l.tail with
 |true =>
  rw[hn] at h;cases hu:isT sNULL l.tail.tail with
  |true =>simp only[hu] at h;injection h with h;injection h with _ h;rw[<-h];omega
  |false=>simp only[hu] at h;cases h
 |false =>
  rw[hn] at h;cases hu:isT sNULL l.tail with
  |true =>simp only[hu] at h;injection h with h;injection h with _ h;rw[<-h];omega
  |false=>simp only[hu] at h;cases h
theorem Amq{sum:TL->PR Xpr}(hp:Cm sum):Cm (Xn sum):=λl e l' h=>by
 simp only[Xn] at h;cases hq:sum l with
 |error q=>rw[hq] at h;cases h
 |ok x =>
  obtain⟨e1,m⟩:=x;rw[hq] at h;have h1:=hp _ _ _ hq;have h2:=Bj m;cases hf:cmpS.find? (λp=>isT p.1 m) with
  |some p =>
   simp only[hf] at h;cases hq2:sum m.tail with
   |error q=>simp only[hq2] at h;cases h
   |ok y =>obtain⟨e2,m2⟩:=y;simp only[hq2] at h;have h3:=hp _ _ _ hq2;injection h with h;injection h with _ h;rw[<-h];omega
  |none =>
   simp only[hf] at h;cases hi:isT sIS m with
   |true =>simp only[hi] at h;have:=Bfc h;omega
   |false =>simp only[hi] at h;injection h with h;injection h with _ h;rw[<-h];exact h1
theorem Aza{rec:TL->PR Xpr}(hr:Cm rec)(k:Nat):Cm (lev rec k):=by have h7:Cm (Bi [45] 15 (Cf rec)):=Hu (Zv hr);have h6:=Fu (sg:=[([42],14)]) h7;have h5:=Fu (sg:=[([43],12),([45],13)]) h6;have h4:=Amq h5;have h3:Cm (Bi sNOT 3 _):=Hu h4;have h2:=Fu (sg:=[(Avp,4)]) h3;have h1:=Fu (sg:=[(sOR,5)]) h2;match k with|0=>exact h7|1=>exact h1|2=>exact h2|3=>exact h3|4=>exact h4|5=>exact h5|6=>exact h6|k+7=>exact h7
theorem Ac3:∀n,Cm (orN n)
 |0=>λ_ _ _ h=>by cases h
 |n+1=>Aza (Ac3 n) 1
theorem Gj:Cm orW:=λl e l' h=>Ac3 _ l e l' h
def Ag{α:Type}(L:Nat)(p q:TL->PR α):Prop:=∀m,m.length<L->p m=q m
theorem Bls{L:Nat}{p q:TL->PR Xpr}(h:Ag L p q):Ag (L+1) (Cf p) (Cf q):=λm hm=>by cases m with|nil=>rfl|cons t r =>simp only[Zf1] at hm;simp only[Cf,h r (by omega)]
theorem Bp6{L:Nat}{p q:TL->PR Xpr}{sg:List (Str×Int)}(h:Ag L p q)(hp:Cm p):∀(n:Nat) (e:Xpr) (l:TL),l.length<L->Em p sg n e l=Em q sg n e l
 |0,_,_,_=>rfl
 |n+1,e,l,hl=>by
  have h1:=Bj l;simp only[Em,<-h l.tail (by omega)];cases sg.find? (λp=>isT p.1 l) with
  |none=>rfl
  |some s =>cases hq:p l.tail with|error q=>rfl|ok x =>obtain⟨e1,m⟩:=x;have h2:=hp _ _ _ hq;exact Bp6 h hp n _ m (by omega)
theorem Ajd{L:Nat}{p q:TL->PR Xpr}{sg:List (Str×Int)}(h:Ag L p q)(hp:Cm p):Ag L (C2 p sg) (C2 q sg):=λm hm=>by simp only[C2,<-h m hm];cases hq:p m with|error q=>rfl|ok x =>obtain⟨e1,m1⟩:=x;have h2:=hp _ _ _ hq;exact Bp6 h hp _ _ m1 (by omega)
theorem Alv{L:Nat}{s:Str}{k:Int}{p q:TL->PR Xpr}(h:Ag L p q):∀m:TL,m.length<L->Bi s k p m=Bi s k q m
 |[],hm=>h [] hm
 |t::r,hm=>by simp only[Zf1] at hm;simp only[Bi,Alv h r (by omega),h (t::r) (by simpa using hm)]
theorem Bss{L:Nat}{p q:TL->PR Xpr}(h:Ag L p q)(hp:Cm p):Ag L (Xn p) (Xn q):=λm hm=>by simp only[Xn,<-h m hm];cases hq:p m with|error q=>rfl|ok x =>obtain⟨e1,m1⟩:=x;have h2:=hp _ _ _ hq;have h3:=Bj m1;simp only[<-h m1.tail (by omega)]
theorem Bhw{L:Nat}{p q:TL->PR Xpr}(h:Ag L p q)(hp:Cm p)(k:Nat):Ag (L+1) (lev p k) (lev q k):=by have e7:Cm (Bi [45] 15 (Cf p)):=Hu (Zv hp);have e6:=Fu (sg:=[([42],14)]) e7;have e5:=Fu (sg:=[([43],12),([45],13)]) e6;have e4:=Amq e5;have e3:Cm (Bi sNOT 3 _):=Hu e4;have e2:=Fu (sg:=[(Avp,4)]) e3;have h7:Ag (L+1) (Bi [45] 15 (Cf p)) (Bi [45] 15 (Cf q)):=Alv (Bls h);have h6:=Ajd (sg:=[([42],14)]) h7 e7;have h5:=Ajd (sg:=[([43],12),([45],13)]) h6 e6;have h4:=Bss h5 e5;have h3:Ag (L+1) (Bi sNOT 3 _) (Bi sNOT 3 _):=Alv h4;have h2:=Ajd (sg:=[(Avp,4)]) h3 e3;have h1:=Ajd (sg:=[(sOR,5)]) h2 e2;match k with|0=>exact h7|1=>exact h1|2=>exact h2|3=>exact h3|4=>exact h4|5=>exact h5|6=>exact h6|k+7=>exact h7
theorem Bj2:∀(L n m:Nat),L<=n->L<=m->Ag L (orN n) (orN m)
 |0,_,_,_,_=>λ_ h=>absurd h (Zm1 _)
 |L+1,n+1,m+1,hn,hm=>Bhw (Bj2 L n m (by omega) (by omega)) (Ac3 n) 1
 |L+1,0,_,h,_=>by omega
 |L+1,_,0,_,h=>by omega
theorem Bui{l:TL}{n:Nat}(h:l.length<n):orN n l=orW l:=Bj2 (l.length+1) n (l.length+1) (by omega) (Zn1 _) l (by omega)
theorem Bsb(n:Nat):Ag n (orN n) orW:=λ_ h=>Bui h
theorem A9i(l:TL):orW l=lev orW 1 l:=Bhw (Bsb l.length) (Ac3 _) 1 l (by omega)
def opTab:List (Str×Nat×Int):=[(Avp,2,4),(sOR,1,5),([61],4,6),([60,62],4,7),([60],4,8),([60,61],4,9),([62],4,10),([62,61],4,11),([43],5,12),([45],5,13),([42],6,14)]
def bindS(s:Str):Nat×Int:=match opTab.find? (λp=>decide (s=p.1)) with|some p=>p.2|none=>(0,0)
def Bb:TL->Nat×Int
 |[]=>(0,0)
 |t::_=>match decide (t.kind=1)||decide (t.kind=6) with|true=>bindS t.s|false=>(0,0)
def sgL:Nat->List (Str×Int)
 |1=>[(sOR,5)]
 |2=>[(Avp,4)]
 |4=>cmpS
 |5=>[([43],12),([45],13)]
 |6=>[([42],14)]
 |_=>[]
abbrev SR:=Xpr×Nat×TL
def S3(rec:Nat->TL->PR Xpr)(k:Nat)(l:TL):Except TL SR :=
 match isT sNOT l&&decide (k<=3) with
 |true=>match rec 3 l.tail with|.error q =>.error q|.ok (x,l') =>.ok (mkX 3 [x],3,l')
 |false=>match isT [45] l with
  |true=>match rec 7 l.tail with|.error q =>.error q|.ok (x,l') =>.ok (mkX 15 [x],7,l')
  |false=>match Cf (rec 1) l with|.error q =>.error q|.ok (x,l') =>.ok (x,7,l')
def Cw(rec:Nat->TL->PR Xpr)(k:Nat)(s:SR):Option (Except TL SR) :=
 if isT sIS s.2.2=true/\k<=4/\4<s.2.1 then some (match isP s.1 s.2.2 with
  |.error q =>.error q
  |.ok (x,l') =>.ok (x,4,l'))
 else if(Bb s.2.2).1=0\/(Bb s.2.2).1<k\/s.2.1<(Bb s.2.2).1\/((Bb s.2.2).1=4/\s.2.1=4) then none
 else some (match rec ((Bb s.2.2).1+1) s.2.2.tail with
  |.error q =>.error q
  |.ok (x,l') =>.ok (mkX (Bb s.2.2).2 [s.1,x],(Bb s.2.2).1,l'))
def Bz(rec:Nat->TL->PR Xpr)(k:Nat):Nat->SR->Except TL SR
 |0,s =>.error s.2.2
 |n+1,s=>match Cw rec k s with|none =>.ok s|some (.error q) =>.error q|some (.ok s')=>Bz rec k n s'
def Ahp(x:Except TL SR)(f:SR->Except TL SR):Except TL SR:=match x with|.error q =>.error q|.ok s=>f s
def exT(rec:Nat->TL->PR Xpr)(k:Nat)(l:TL):Except TL SR:=Ahp (S3 rec k l) λs=>Bz rec k (s.2.2.length+1) s
def exB(rec:Nat->TL->PR Xpr)(k:Nat)(l:TL):PR Xpr:=match exT rec k l with|.error q =>.error q|.ok s =>.ok (s.1,s.2.2)
theorem Bnf(s:Str):(bindS s).1<=6/\(bindS s).1≠3:=by
 simp only[bindS];cases h:opTab.find? (λp=>decide (s=p.1)) with
 |none=>simp
 |some p =>
  have hm:=List.mem_of_find?_eq_some h;have ha:∀p,p∈opTab->p.2.1<=6/\p.2.1≠3:=by decide
  exact ha p hm
theorem Abq(l:TL):(Bb l).1<=6/\(Bb l).1≠3:=by
 cases l with
 |nil=>simp[Bb]
 |cons t r =>simp only[Bb];cases decide (t.kind=1)||decide (t.kind=6) with|true=>exact Bnf t.s|false=>simp
theorem Bla{l:TL}(h:isT sIS l=true):Bb l=(0,0):=by cases l with|nil=>rfl|cons t r =>simp only[isT,Zb1,Zg1] at h;simp only[Bb,h.1,h.2];decide
theorem A95(n:Nat)(s:Str)(hn:n=1\/n=2\/n=4\/n=5\/n=6):((bindS s).1=n->∃p,(sgL n).find? (λp=>decide (s=p.1))=some p/\p.2=(bindS s).2)/\((bindS s).1≠n->(sgL n).find? (λp=>decide (s=p.1))=none):=by
 by_cases h:s∈opTab.map (·.1)
 ·have ha:∀s,s∈opTab.map (·.1)->∀n,n=1\/n=2\/n=4\/n=5\/n=6->(((bindS s).1=n->((sgL n).find? (λp=>decide (s=p.1))).map (·.2)=some (bindS s).2)/\((bindS s).1≠n->(sgL n).find? (λp=>decide (s=p.1))=none)):=by intro s hs n hn;simp only[opTab,Zw1,List.map_nil,List.mem_cons,List.not_mem_nil,or_false] at hs;rcases hs with rfl|rfl|rfl|rfl|rfl|rfl|rfl|rfl|rfl|rfl|rfl<;>rcases hn with rfl|rfl|rfl|rfl|rfl<;>decide
  obtain⟨h1,h2⟩:=ha s h n hn;refine⟨λe =>?_,h2⟩;have:=h1 e;cases hf:(sgL n).find? (λp=>decide (s=p.1)) with|none=>rw[hf] at this;cases this|some p =>rw[hf] at this;exact⟨p,rfl,by simpa using this⟩
 ·have h0:bindS s=(0,0):=by simp only[bindS];cases hf:opTab.find? (λp=>decide (s=p.1)) with|none=>rfl|some p =>have h1:=List.mem_of_find?_eq_some hf;have h2:=List.find?_some hf;simp only[Zg1] at h2;exact absurd (List.mem_map.2 ⟨p,h1,h2.symm⟩) h
  rw[h0];refine⟨λe =>?_,λ_ =>?_⟩
  ·simp only at e;omega
  ·rw[List.find?_eq_none];intro p hp;simp only[Zg1];intro e;have hsub:∀q,q∈sgL n->q.1∈opTab.map (·.1):=by rcases hn with rfl|rfl|rfl|rfl|rfl<;>decide
   exact h (by rw[e];exact hsub p hp)
theorem Aap(n:Nat)(l:TL)(hn:n=1\/n=2\/n=4\/n=5\/n=6):((Bb l).1=n->∃p,(sgL n).find? (λp=>isT p.1 l)=some p/\p.2=(Bb l).2)/\((Bb l).1≠n->(sgL n).find? (λp=>isT p.1 l)=none):=by
 cases l with
 |nil =>
  refine⟨λe =>?_,λ_ =>?_⟩
  ·simp only[Bb] at e;omega
  ·exact List.find?_eq_none.2 λp _=>by simp[isT]
 |cons t r =>
  simp only[Bb,isT];cases hk:(decide (t.kind=1)||decide (t.kind=6)) with
  |true=>simpa using A95 n t.s hn
  |false =>
   refine⟨λe =>?_,λ_ =>?_⟩
   ·simp only at e;omega
   ·exact List.find?_eq_none.2 λp _=>by simp
variable {V:Nat->TL->PR Xpr}
theorem Aeh(hv:∀k,Cm (V k)){k:Nat}{s s':SR}(h:Cw V k s=some (.ok s')):s'.2.2.length<s.2.2.length:=by
 simp only[Cw] at h;split at h
 ·rename_i hc;have hi:=Kn hc.1;cases hq:isP s.1 s.2.2 with
  |error q=>rw[hq] at h;cases h
  |ok x =>
   obtain⟨e1,m⟩:=x;rw[hq] at h;injection h with h;injection h with h;rw[<-h];simp only[isP] at hq;have h2:=Bj s.2.2.tail;have h3:=Bj s.2.2.tail.tail;cases hn:isT sNOT s.2.2.tail with
   |true =>
    rw[hn] at hq;cases hu:isT sNULL s.2.2.tail.tail with
    |true =>simp only[hu] at hq;injection hq with hq;injection hq with _ hq;rw[<-hq];show s.2.2.tail.tail.tail.length<s.2.2.length;omega
    |false=>simp only[hu] at hq;cases hq
   |false =>
    rw[hn] at hq;cases hu:isT sNULL s.2.2.tail with
    |true =>simp only[hu] at hq;injection hq with hq;injection hq with _ hq;rw[<-hq];show s.2.2.tail.tail.length<s.2.2.length;omega
    |false=>simp only[hu] at hq;cases hq
 ·split at h
  ·cases h
  ·cases hq:V ((Bb s.2.2).1+1) s.2.2.tail with
   |error q=>rw[hq] at h;cases h
   |ok x =>obtain⟨e1,m⟩:=x;rw[hq] at h;injection h with h;injection h with h;rw[<-h];have h1:=hv _ _ _ _ hq;have h2:=Bj s.2.2;show m.length<_;omega
theorem Bbh{a b:Nat}(h:a<=b){s:SR}{r:Except TL SR}(hs:Cw V b s=some r):Cw V a s=some r:=by
 simp only[Cw] at hs ⊢;by_cases hc:isT sIS s.2.2=true/\b<=4/\4<s.2.1
 ·rw[if_pos hc] at hs;rw[if_pos ⟨hc.1,by omega,hc.2.2⟩];exact hs
 ·rw[if_neg hc] at hs;by_cases hn:(Bb s.2.2).1=0\/(Bb s.2.2).1<b\/s.2.1<(Bb s.2.2).1\/((Bb s.2.2).1=4/\s.2.1=4)
  ·rw[if_pos hn] at hs;cases hs
  ·rw[if_neg hn] at hs;have hi:¬isT sIS s.2.2=true:=λe=>by rw[Bla e] at hn;exact hn (.inl rfl)
   rw[if_neg (λe=>hi e.1),if_neg (by omega)];exact hs
theorem Asn(hv:∀k,Cm (V k))(k:Nat):∀(n m:Nat) (s:SR),s.2.2.length<n->s.2.2.length<m->Bz V k n s=Bz V k m s
 |0,_,_,h,_=>by omega
 |_,0,_,_,h=>by omega
 |n+1,m+1,s,hn,hm=>by
  simp only[Bz];cases hs:Cw V k s with
  |none=>rfl
  |some r =>cases r with|error q=>rfl|ok s' =>have:=Aeh hv hs;exact Asn hv k n m s' (by omega) (by omega)
theorem A9t(hv:∀k,Cm (V k))(k:Nat):∀(n:Nat) (s s':SR),Bz V k n s = .ok s'->s'.2.2.length<=s.2.2.length/\Cw V k s' = none
 |0,_,_,h=>by cases h
 |n+1,s,s',h=>by
  simp only[Bz] at h;cases hs:Cw V k s with
  |none =>rw[hs] at h;injection h with h;rw[<-h];exact⟨Zn1 _,hs⟩
  |some r =>rw[hs] at h;cases r with|error q=>cases h|ok s1 =>have h1:=Aeh hv hs;have h2:=A9t hv k n s1 s' h;exact⟨by omega,h2.2⟩
theorem Asa(hv:∀k,Cm (V k)){a b:Nat}(h:a<=b):∀(n:Nat) (s:SR),s.2.2.length<n->Bz V a n s=Ahp (Bz V b n s) λs'=>Bz V a (s'.2.2.length+1) s'
 |0,_,hn=>by omega
 |n+1,s,hn=>by
  cases hs:Cw V b s with
  |none =>
   have e:Bz V b (n+1) s = .ok s:=by simp only[Bz,hs]
   rw[e];exact Asn hv a _ _ s hn (by omega)
  |some r =>
   have ha:=Bbh h hs;cases r with
   |error q =>simp only[Bz,hs,ha];rfl
   |ok s1 =>
    have h1:=Aeh hv hs;have e1:Bz V a (n+1) s=Bz V a n s1:=by simp only[Bz,ha]
    have e2:Bz V b (n+1) s=Bz V b n s1:=by simp only[Bz,hs]
    rw[e1,e2];exact Asa hv h n s1 (by omega)
theorem A8s(hv:∀k,Cm (V k)){k:Nat}(hk:k=1\/k=2\/k=5\/k=6):∀(n:Nat) (e:Xpr) (h:Nat) (l:TL),l.length<n->(h=k\/(k<h/\Cw V (k+1) (e,h,l)=none)) ->
  match Em (V (k+1)) (sgL k) n e l with|.error q=>Bz V k n (e,h,l) = .error q|.ok (e',l')=>∃h',k<=h'/\Bz V k n (e,h,l) = .ok (e',h',l')
 |0,_,_,_,hn,_=>by omega
 |n+1,e,h,l,hn,hc=>by
  by_cases hb:(Bb l).1=k
  ·obtain⟨p,hp1,hp2⟩:=(Aap k l (by omega)).1 hb;have hi:¬isT sIS l=true:=λq=>by rw[Bla q] at hb;simp only at hb;omega
   have hst:Cw V k (e,h,l)=some (match V (k+1) l.tail with
     |.error q =>.error q
     |.ok (x,l') =>.ok (mkX p.2 [e,x],k,l')):=by
    simp only[Cw,hb,hp2];rw[if_neg (λq=>hi q.1),if_neg (by omega)]
   simp only[Em,hp1,Bz,hst];cases hq:V (k+1) l.tail with|error q=>rfl|ok x =>obtain⟨x,l1⟩:=x;have h1:=hv _ _ _ _ hq;have h2:=Bj l;exact A8s hv hk n (mkX p.2 [e,x]) k l1 (by omega) (.inl rfl)
  ·have hst:Cw V k (e,h,l)=none:=by
    simp only[Cw];rcases hc with rfl|⟨hlt,hn1⟩
    ·rw[if_neg (λq=>by have:=q.2;omega),if_pos (by omega)]
    ·simp only[Cw] at hn1;split at hn1
     ·cases hn1
     ·rename_i hi;split at hn1
      ·rename_i ho;rw[if_neg (λq=>hi ⟨q.1,by have:=q.2.1;omega,q.2.2⟩),if_pos (by omega)]
      ·cases hn1
   simp only[Em,(Aap k l (by omega)).2 hb,Bz,hst];exact⟨h,by omega,rfl⟩
theorem Oy{k:Nat}{e:Xpr}{h:Nat}{l:TL}(hi:¬(isT sIS l=true/\k<=4/\4<h))(hn:(Bb l).1=0\/(Bb l).1<k\/h<(Bb l).1\/((Bb l).1=4/\h=4)):Cw V k (e,h,l)=none:=by simp only[Cw];rw[if_neg hi,if_pos hn]
theorem Apl{k:Nat}{e:Xpr}{h:Nat}{l:TL}(hs:Cw V k (e,h,l)=none):¬(isT sIS l=true/\k<=4/\4<h)/\((Bb l).1=0\/(Bb l).1<k\/h<(Bb l).1\/((Bb l).1=4/\h=4)):=by
 simp only[Cw] at hs;split at hs
 ·cases hs
 ·rename_i hi;split at hs
  ·rename_i hn;exact⟨hi,hn⟩
  ·cases hs
theorem A1n{e:Xpr}{h:Nat}{l:TL}:Cw V 7 (e,h,l)=none :=Oy (λq=>by have:=q.2;omega) (by have:=Abq l;omega)
theorem Aiu{e:Xpr}{l:TL}:Cw V 4 (e,4,l)=none :=Oy (λq=>by have:=q.2;omega) (by omega)
theorem Lh{k n:Nat}{s:SR}(h:Cw V k s=none):Bz V k (n+1) s = .ok s:=by simp only[Bz,h]
theorem Auz{a b:Nat}(ha : 3<a)(hb : 3<b)(l:TL):S3 V a l=S3 V b l:=by simp only[S3];rw[Zd1 (show ¬a<=3 by omega),Zd1 (show ¬b<=3 by omega)]
theorem A7q{a b:Nat}(ha:a<=3)(hb:b<=3)(l:TL):S3 V a l=S3 V b l:=by simp only[S3];rw[Ze1 ha,Ze1 hb]
theorem Atx(hv:∀k,Cm (V k)){a b:Nat}(h:a<=b){l:TL}(hp:S3 V a l=S3 V b l):exT V a l=Ahp (exT V b l) λs=>Bz V a (s.2.2.length+1) s:=by unfold exT;rw[hp];cases S3 V b l with|error q=>rfl|ok s=>exact Asa hv h _ s (by omega)
def LvQ(V:Nat->TL->PR Xpr)(k:Nat)(l:TL):Prop:=match V k l with|.error q=>exT V k l = .error q|.ok (e,l')=>∃h,k<=h/\exT V k l = .ok (e,h,l')/\Cw V k (e,h,l')=none
theorem Ajh(hv:∀k,Cm (V k)){k:Nat}(hk:k=1\/k=2\/k=5\/k=6)(hV:V k=C2 (V (k+1)) (sgL k)){l:TL}(h:LvQ V (k+1) l):LvQ V k l:=by
 have hp:S3 V k l=S3 V (k+1) l:=by
  rcases hk with rfl|rfl|rfl|rfl
  ·exact A7q (by omega) (by omega) l
  ·exact A7q (by omega) (by omega) l
  ·exact Auz (by omega) (by omega) l
  ·exact Auz (by omega) (by omega) l
 have hc:=Atx hv (Nat.le_succ k) hp;unfold LvQ at h ⊢;rw[hV];unfold C2;cases hq:V (k+1) l with
 |error q =>rw[hq] at h;simp only at h ⊢;rw[hc,h];rfl
 |ok x =>obtain⟨e,l'⟩:=x;rw[hq] at h;simp only at h ⊢;obtain⟨h1,h2,h3,h4⟩:=h;rw[h3] at hc;have hc:exT V k l=Bz V k (l'.length+1) (e,h1,l'):=hc;have hl:=A8s hv hk (l'.length+1) e h1 l' (by omega) (.inr ⟨by omega,h4⟩);rw[hc];cases hg:Em (V (k+1)) (sgL k) (l'.length+1) e l' with|error q =>rw[hg] at hl;exact hl|ok y =>obtain⟨e2,l2⟩:=y;rw[hg] at hl;simp only at hl ⊢;obtain⟨h',h5,h6⟩:=hl;exact⟨h',h5,h6,(A9t hv k _ _ _ h6).2⟩
theorem Br4(hv:∀k,Cm (V k))(hV:V 4=Xn (V 5)){l:TL}(h:LvQ V 5 l):LvQ V 4 l:=by
 have hc:=Atx (V:=V) hv (show 4<=5 by omega) (Auz (by omega) (by omega) l);unfold LvQ at h ⊢;rw[hV];unfold Xn;cases hq:V 5 l with
 |error q =>rw[hq] at h;simp only at h ⊢;rw[hc,h];rfl
 |ok x =>
  obtain⟨e,l'⟩:=x;rw[hq] at h;simp only at h ⊢;obtain⟨h1,h2,h3,h4⟩:=h;rw[h3] at hc;have hc:exT V 4 l=Bz V 4 (l'.length+1) (e,h1,l'):=hc;rw[hc];obtain⟨n1,n2⟩:=Apl h4;by_cases hb:(Bb l').1=4
  ·obtain⟨p,hp1,hp2⟩:=(Aap 4 l' (by omega)).1 hb;have hp1:cmpS.find? (λp=>isT p.1 l')=some p:=hp1;have hi:¬isT sIS l' = true:=λq=>by rw[Bla q] at hb;simp only at hb;omega
   have hst:Cw V 4 (e,h1,l')=some (match V 5 l'.tail with
     |.error q =>.error q
     |.ok (x,l') =>.ok (mkX p.2 [e,x],4,l')):=by
    simp only[Cw,hb,hp2];rw[if_neg (λq=>hi q.1),if_neg (by omega)]
   have hlen : 1<=l'.length:=by cases l' with|nil=>simp only[Bb] at hb;omega|cons t r=>simp
   rw[hp1];simp only[Bz,hst];cases hq2:V 5 l'.tail with|error q=>rfl|ok y =>obtain⟨x,l2⟩:=y;simp only;refine⟨4,by omega,?_,Aiu⟩;obtain⟨m,hm⟩:=Nat.exists_eq_add_of_le hlen;rw[hm,Nat.add_comm 1 m];exact Lh Aiu
  ·have hf:cmpS.find? (λp=>isT p.1 l')=none:=(Aap 4 l' (by omega)).2 hb;rw[hf];simp only;cases hi:isT sIS l' with
   |true =>
    have hlen:=Kn hi;have hst:Cw V 4 (e,h1,l')=some (match isP e l' with
      |.error q =>.error q
      |.ok (x,l') =>.ok (x,4,l')):=by
     simp only[Cw];rw[if_pos ⟨hi,by omega,by omega⟩]
    simp only[Bz,hst];cases hq2:isP e l' with|error q=>rfl|ok y =>obtain⟨x,l2⟩:=y;simp only;refine⟨4,by omega,?_,Aiu⟩;rw[<-hlen];exact Lh Aiu
   |false =>have hn:Cw V 4 (e,h1,l')=none:=Oy (λq=>by rw[hi] at q;cases q.1) (by omega);exact⟨h1,by omega,Lh hn,hn⟩
theorem Bsj(hv:∀k,Cm (V k))(hV:V 3=Bi sNOT 3 (V 4)){l:TL}(h:LvQ V 4 l):LvQ V 3 l:=by
 have stop:∀{e:Xpr}{l':TL},Cw V 3 (e,3,l')=none:=λ{e l'}=>Oy (λq=>by have:=q.2;omega) (by have:=Abq l';omega);cases hn:isT sNOT l with
 |true =>
  have hp:exT V 3 l=Ahp (match V 3 l.tail with
    |.error q =>.error q
    |.ok (x,l') =>.ok (mkX 3 [x],3,l')) λs=>Bz V 3 (s.2.2.length+1) s:=by
   unfold exT S3;rw[hn,Ze1 (show 3<=3 by omega)];rfl
  cases l with
  |nil=>cases hn
  |cons t r =>unfold LvQ;rw[hp,hV];simp only[Bi,hn,List.tail_cons];cases Bi sNOT 3 (V 4) r with|error q=>rfl|ok x =>obtain⟨e,l'⟩:=x;exact⟨3,Zn1 _,Lh stop,stop⟩
 |false =>
  have hpr:S3 V 3 l=S3 V 4 l:=by simp only[S3,hn,Bool.false_and]
  have hc:=Atx (V:=V) hv (show 3<=4 by omega) hpr;have ha:V 3 l=V 4 l:=by rw[hV];cases l with|nil=>rfl|cons t r=>simp only[Bi,hn]
  unfold LvQ at h ⊢;rw[ha];cases hq:V 4 l with|error q =>rw[hq] at h;simp only at h ⊢;rw[hc,h];rfl|ok x =>obtain⟨e,l'⟩:=x;rw[hq] at h;simp only at h ⊢;obtain⟨h1,h2,h3,h4⟩:=h;obtain⟨n1,n2⟩:=Apl h4;have hs:Cw V 3 (e,h1,l')=none:=Oy (λq=>n1 ⟨q.1,by omega,q.2.2⟩) (by have:=Abq l';omega);refine⟨h1,by omega,?_,hs⟩;rw[hc,h3];exact Lh hs
theorem Bf4(hV:V 7=Bi [45] 15 (Cf (V 1)))(l:TL):LvQ V 7 l:=by
 have hx:∀(e:Xpr) (n:Nat) (l':TL),Bz V 7 (n+1) (e,7,l') = .ok (e,7,l'):=λ_ _ _=>Lh A1n;have h3:decide (7<=3)=false:=rfl;unfold LvQ exT S3;rw[hV,h3,Bool.and_false];simp only;cases l with
 |nil=>rfl
 |cons t r =>
  cases hm:isT [45] (t::r) with
  |true =>simp only[Bi,hm,List.tail_cons];cases Bi [45] 15 (Cf (V 1)) r with|error q=>rfl|ok x=>exact⟨7,Zn1 _,hx _ _ _,A1n⟩
  |false =>simp only[Bi,hm];cases Cf (V 1) (t::r) with|error q=>rfl|ok x=>exact⟨7,Zn1 _,hx _ _ _,A1n⟩
abbrev VV:Nat->TL->PR Xpr:=lev orW
theorem Kt(k:Nat):Cm (VV k):=Aza Gj k
theorem Au6:VV 1=orW:=funext λl=>(A9i l).symm
theorem Bs9(l:TL):∀k,1<=k->k<=7->LvQ VV k l:=by have h7:LvQ VV 7 l:=Bf4 (by rw[Au6];rfl) l;have h6:LvQ VV 6 l:=Ajh Kt (.inr (.inr (.inr rfl))) rfl h7;have h5:LvQ VV 5 l:=Ajh Kt (.inr (.inr (.inl rfl))) rfl h6;have h4:LvQ VV 4 l:=Br4 Kt rfl h5;have h3:LvQ VV 3 l:=Bsj Kt rfl h4;have h2:LvQ VV 2 l:=Ajh Kt (.inr (.inl rfl)) rfl h3;have h1:LvQ VV 1 l:=Ajh Kt (.inl rfl) rfl h2;intro k a b;match k,a,b with|1,_,_=>exact h1|2,_,_=>exact h2|3,_,_=>exact h3|4,_,_=>exact h4|5,_,_=>exact h5|6,_,_=>exact h6|7,_,_=>exact h7
theorem Btt{k:Nat}(h1 : 1<=k)(h7:k<=7)(l:TL):exB VV k l=VV k l:=by have h:=Bs9 l k h1 h7;unfold LvQ at h;unfold exB;cases hq:VV k l with|error q =>rw[hq] at h;simp only at h;rw[h]|ok x =>obtain⟨e,l'⟩:=x;rw[hq] at h;simp only at h;obtain⟨a,_,h2,_⟩:=h;rw[h2]
end Go.Proofs.YthndhaolemgbdaaGreatDoor
namespace Go.Proofs.YthndhaolemgbdaaGreatDoor
open Go.Ax
def bP{α β:Type}(p:TL->PR α)(f : α->TL->PR β)(l:TL):PR β:=match p l with|.error q =>.error q|.ok (x,l')=>f x l'
def Bg{α:Type}(x : α)(l:TL):PR α :=.ok (x,l)
def Ay:List Str->TL->PR Unit
 |[],l =>.ok ((),l)
 |s::ss,l=>match isT s l with|true=>Ay ss l.tail|false =>.error l
def Bt:TL->PR Str
 |[] =>.error []
 |t::r=>match decide (t.kind=2) with|true =>.ok (t.s,r)|false =>.error (t::r)
def Ba{α:Type}(part:TL->PR α):Nat->List α->TL->PR (List α)
 |0,_,l =>.error l
 |n+1,acc,l=>match isT [44] l with
  |false =>.ok (acc,l)
  |true=>match part l.tail with|.error q =>.error q|.ok (x,l')=>Ba part n (acc++[x]) l'
def Im{α:Type}(part:TL->PR α)(l:TL):PR (List α):=match part l with|.error q =>.error q|.ok (x,l')=>Ba part (l'.length+1) [x] l'
def F3(s:Str)(ss:List Str)(l:TL):PR Bool:=match isT s l with
 |true=>match Ay ss l.tail with|.error q =>.error q|.ok (_,l') =>.ok (true,l')
 |false =>.ok (false,l)
def Uo:Str:=[84,65,66,76,69]
def wINDEX:Str:=[73,78,68,69,88]
def wON:Str:=[79,78]
def wPRIMARY:Str:=[80,82,73,77,65,82,89]
def wKEY:Str:=[75,69,89]
def wCHECK:Str:=[67,72,69,67,75]
def wUNIQUE:Str:=[85,78,73,81,85,69]
def wREF:Str:=[82,69,70,69,82,69,78,67,69,83]
def X6:Str:=[66,79,79,76]
def Aov:Str:=[73,78,84]
def Xv:Str:=[84,69,88,84]
def Nz:Str:=[66,89,84,69,83]
def wWHERE:Str:=[87,72,69,82,69]
def wSET:Str:=[83,69,84]
def wFROM:Str:=[70,82,79,77]
def wORDER:Str:=[79,82,68,69,82]
def wBY:Str:=[66,89]
def wDESC:Str:=[68,69,83,67]
def Bce:Str:=[65,83,67]
def wLIMIT:Str:=[76,73,77,73,84]
def wINTO:Str:=[73,78,84,79]
def wVALUES:Str:=[86,65,76,85,69,83]
def G0:Str:=[67,82,69,65,84,69]
def Ov:Str:=[68,82,79,80]
def F1:Str:=[73,78,83,69,82,84]
def F0:Str:=[85,80,68,65,84,69]
def Fe:Str:=[68,69,76,69,84,69]
def Ec:Str:=[83,69,76,69,67,84]
def zX:Xpr :=.mk 0 ⟨0,0,[]⟩ [] []
def zS:Stm:=⟨0,[],[],[],[],[],[],[],false,zX,[],[],0⟩
def Mg:TL->PR (List Str):=bP (Ay [[40]]) λ_=>bP (Im Bt) λx=>bP (Ay [[41]]) λ_=>Bg x
def L5:TL->PR (List Xpr):=Im orW
def I9(l:TL):PR Int :=
 match isT X6 l with
 |true =>.ok (2,l.tail)
 |false=>match isT Aov l with
  |true =>.ok (3,l.tail)
  |false=>match isT Xv l with
   |true =>.ok (4,l.tail)
   |false=>match isT Nz l with|true =>.ok (5,l.tail)|false =>.error l
def I7(l:TL):PR Str:=match isT wREF l with|true=>Bt l.tail|false =>.ok ([],l)
def A0v:TL->PR Col:=bP Bt λn=>bP I9 λk=>bP (F3 sNOT [sNULL]) λnn=>bP (F3 wUNIQUE []) λu=>bP I7 λr=>Bg ⟨n,k,nn,u,r⟩
def N4:TL->PR Col:=bP A0v λc=>bP (Ay [[44]]) λ_=>Bg c
def D4:Nat->List Col->TL->PR (List Col)
 |0,_,l =>.error l
 |n+1,acc,l=>match isT wPRIMARY l with
  |true =>.ok (acc,l.tail)
  |false=>match N4 l with|.error q =>.error q|.ok (c,l')=>D4 n (acc++[c]) l'
def Akv(l:TL):PR (List Col):=match N4 l with|.error q =>.error q|.ok (c,l')=>D4 (l'.length+1) [c] l'
def Mx:TL->PR Xpr:=bP (Ay [wCHECK,[40]]) λ_=>bP orW λe=>bP (Ay [[41]]) λ_=>Bg e
def Aey:TL->PR Stm:=bP Bt λn=>bP (Ay [[40]]) λ_=>bP Akv λcs=>bP (Ay [wKEY]) λ_=>bP Mg λns=>bP (λl=>Ba Mx (l.length+1) [] l) λes=>bP (Ay [[41]]) λ_=>Bg { zS with kind:=1,name:=n,cols:=cs,names:=ns,l:=es }
def Zu:TL->PR Stm:=bP (Ay [wINDEX]) λ_=>bP Bt λn=>bP (Ay [wON]) λ_=>bP Bt λo=>bP Mg λns=>Bg { zS with kind:=3,name:=n,on:=o,names:=ns }
def G1(l:TL):PR Stm:=match isT Uo l with|true=>Aey l.tail|false=>Zu l
def Xy(l:TL):PR Stm:=match isT Uo l with
 |true=>bP Bt (λn=>Bg { zS with kind:=2,name:=n }) l.tail
 |false=>bP (Ay [wINDEX]) (λ_=>bP Bt λn=>Bg { zS with kind:=4,name:=n }) l
def A30:TL->PR (List Xpr):=bP (Ay [[40]]) λ_=>bP L5 λr=>bP (Ay [[41]]) λ_=>Bg r
def No:TL->PR Stm:=bP (Ay [wINTO]) λ_=>bP Bt λn=>bP (Ay [wVALUES]) λ_=>bP (Im A30) λrs=>Bg { zS with kind:=5,name:=n,rows:=rs }
def Ek(l:TL):PR (Bool×Xpr):=match isT wWHERE l with
 |true=>match orW l.tail with|.error q =>.error q|.ok (e,l') =>.ok ((true,e),l')
 |false =>.ok ((false,zX),l)
def A2a:TL->PR SetE:=bP Bt λn=>bP (Ay [[61]]) λ_=>bP orW λe=>Bg ⟨n,e⟩
def Jx:TL->PR Stm:=bP Bt λn=>bP (Ay [wSET]) λ_=>bP (Im A2a) λss=>bP Ek λw=>Bg { zS with kind:=6,name:=n,sets:=ss,has:=w.1,whr:=w.2 }
def M0:TL->PR Stm:=bP (Ay [wFROM]) λ_=>bP Bt λn=>bP Ek λw=>Bg { zS with kind:=7,name:=n,has:=w.1,whr:=w.2 }
def Aa1(l:TL):PR (List Xpr):=match isT [42] l with|true =>.ok ([],l.tail)|false=>L5 l
def Xx(l:TL):PR Bool:=match isT wDESC l with
 |true =>.ok (true,l.tail)
 |false=>match isT Bce l with|true =>.ok (false,l.tail)|false =>.ok (false,l)
def Au3:TL->PR (Str×Bool):=bP Bt λn=>bP Xx λd=>Bg (n,d)
def Et(l:TL):PR (List (Str×Bool)):=match isT wORDER l with|true=>bP (Ay [wBY]) (λ_=>Im Au3) l.tail|false =>.ok ([],l)
def Amn:TL->PR Int
 |[] =>.error []
 |t::r=>match decide (t.kind=3) with|true =>.ok (t.n,r)|false =>.error (t::r)
def Cd(l:TL):PR Int:=match isT wLIMIT l with|true=>Amn l.tail|false =>.ok (-1,l)
def G2:TL->PR Stm:=bP Aa1 λes=>bP (Ay [wFROM]) λ_=>bP Bt λn=>bP Ek λw=>bP Et λo=>bP Cd λm=>Bg { zS with kind:=8,name:=n,l:=es,has:=w.1,whr:=w.2,order:=o.map (·.1),desc:=o.map (·.2),most:=m }
def Fo(l:TL):PR Stm :=
 match isT G0 l with
 |true=>G1 l.tail
 |false=>match isT Ov l with
  |true=>Xy l.tail
  |false=>match isT F1 l with
   |true=>No l.tail
   |false=>match isT F0 l with
    |true=>Jx l.tail
    |false=>match isT Fe l with
     |true=>M0 l.tail
     |false=>match isT Ec l with|true=>G2 l.tail|false =>.error l
def Sy(l:TL):TL:=match isT [59] l with|true=>l.tail|false=>l
def L4(l:TL):Except TL Stm:=match Fo l with
 |.error q =>.error q
 |.ok (s,l')=>match Sy l' with|[] =>.ok s|t::r =>.error (t::r)
def G6(n:Int):TL->Int
 |[]=>n
 |t::_=>t.pos
abbrev nq(s:Str):Prop:=s≠[41]/\s≠Aae/\s≠Rs/\s≠sNULL/\s≠wDESC/\s≠Bce
def As1(d:Bool):TL->Prop
 |[]=>True
 |t::_=>t.kind=6/\(t.s=[59]\/t.s=[41])\/¬t.kind=1/\¬t.kind=6\/t.kind=1/\(t.s=Aae\/t.s=Rs\/t.s=sNULL)\/d=true/\(t.s=wDESC\/t.s=Bce)
def Bt3:TL->Prop
 |[]=>False
 |t::_=>t.kind=6/\t.s=[59]
theorem Bt3.quiet{d:Bool}{m:TL}(h:Bt3 m):As1 d m:=by cases m with|nil=>trivial|cons t r=>exact .inl ⟨h.1,.inl h.2⟩
variable {α β:Type}{n:Nat}{d:Bool}
end Go.Proofs.YthndhaolemgbdaaGreatDoor
namespace Go.Proofs.YthndhaolemgbdaaGreatDoor
open Go.Ax
variable {α β:Type}{n:Nat}{d:Bool}
def brP(rec:TL->PR Xpr):TL->PR Xpr:=bP rec λe l=>match isT [41] l with|true=>Bg e l.tail|false =>.error l
theorem Bkk(rec:TL->PR Xpr)(t:Tok)(r:TL):Cf rec (t::r) =
  if t.kind=2 then .ok (.mk 2 ⟨0,0,[]⟩ t.s [],r)
  else if t.kind=3 then .ok (Mv 3 t.n [],r)
  else if t.kind=4 then .ok (Mv 4 0 t.s,r)
  else if t.kind=5 then .ok (Mv 5 0 t.s,r)
  else if t.kind=1/\t.s=Aae then .ok (Mv 2 1 [],r)
  else if t.kind=1/\t.s=Rs then .ok (Mv 2 0 [],r)
  else if t.kind=1/\t.s=sNULL then .ok (Mv 1 0 [],r)
  else match isT [40] (t::r) with
   |true=>brP rec r
   |false =>.error (t::r):=by
 simp only[Cf]
 repeat (split; · rfl)
 cases h:isT [40] (t::r) with
 |false=>rfl
 |true =>simp only[brP,bP,if_true];cases rec r with|error q=>rfl|ok x =>obtain⟨e,l'⟩:=x;simp only;cases isT [41] l'<;>rfl
def Ab9(t:Tok):Option Xpr :=
 if t.kind=2 then some (.mk 2 ⟨0,0,[]⟩ t.s [])
 else if t.kind=3 then some (Mv 3 t.n [])
 else if t.kind=4 then some (Mv 4 0 t.s)
 else if t.kind=5 then some (Mv 5 0 t.s)
 else if t.kind=1/\t.s=Aae then some (Mv 2 1 [])
 else if t.kind=1/\t.s=Rs then some (Mv 2 0 [])
 else if t.kind=1/\t.s=sNULL then some (Mv 1 0 [])
 else none
theorem Pm(rec:TL->PR Xpr)(t:Tok)(r:TL):Cf rec (t::r)=match Ab9 t with
  |some v =>.ok (v,r)
  |none=>match isT [40] (t::r) with
   |true=>brP rec r
   |false =>.error (t::r):=by
 rw[Bkk];unfold Ab9;by_cases h2:t.kind=2
 ·rw[if_pos h2,if_pos h2]
 rw[if_neg h2,if_neg h2];by_cases h3:t.kind=3
 ·rw[if_pos h3,if_pos h3]
 rw[if_neg h3,if_neg h3];by_cases h4:t.kind=4
 ·rw[if_pos h4,if_pos h4]
 rw[if_neg h4,if_neg h4];by_cases h5:t.kind=5
 ·rw[if_pos h5,if_pos h5]
 rw[if_neg h5,if_neg h5];by_cases h6:t.kind=1/\t.s=Aae
 ·rw[if_pos h6,if_pos h6]
 rw[if_neg h6,if_neg h6];by_cases h7:t.kind=1/\t.s=Rs
 ·rw[if_pos h7,if_pos h7]
 rw[if_neg h7,if_neg h7];by_cases h8:t.kind=1/\t.s=sNULL
 ·rw[if_pos h8,if_pos h8]
 rw[if_neg h8,if_neg h8]
end Go.Proofs.YthndhaolemgbdaaGreatDoor
namespace Go.Proofs.YthndhaolemgbdaaGreatDoor
open Go.Ax
inductive Der:TL->Xpr->Prop
 |lit {t:Tok}{v:Xpr}:Ab9 t=some v->Der [t] v
 |br {o c:Tok}{ts:TL}{e:Xpr}:isT [40] [o]=true->isT [41] [c]=true->Der ts e->Der (o::(ts++[c])) e
 |un {s:Str}{k:Int}{t:Tok}{ts:TL}{e:Xpr}:(s=sNOT/\k=3\/s=[45]/\k=15)->isT s [t]=true->Der ts e->Der (t::ts) (mkX k [e])
 |op {s:Str}{p:Nat}{k:Int}{o:Tok}{ts us:TL}{a b:Xpr}:(s,p,k)∈opTab->isT s [o]=true->Der ts a->Der us b->Der (ts++o::us) (mkX k [a,b])
 |isn {o n:Tok}{ts:TL}{e:Xpr}:isT sIS [o]=true->isT sNULL [n]=true->Der ts e->Der (ts++[o,n]) (mkX 16 [e])
 |nis {o m n:Tok}{ts:TL}{e:Xpr}:isT sIS [o]=true->isT sNOT [m]=true->isT sNULL [n]=true->Der ts e->Der (ts++[o,m,n]) (mkX 3 [mkX 16 [e]])
def Cns{α:Type}(p:TL->PR α)(Q:TL->α->Prop):Prop:=∀l e l',p l = .ok (e,l')->∃c,l=c++l'/\Q c e
theorem Hy{s:Str}{l:TL}(h:isT s l=true):∃t,l=t::l.tail/\isT s [t]=true:=by cases l with|nil=>cases h|cons t r=>exact⟨t,rfl,h⟩
theorem Bbs{rec:TL->PR Xpr}(h:Cns rec Der):Cns (Cf rec) Der:=λl e l' hp=>by
 cases l with
 |nil=>cases hp
 |cons t r =>
  rw[Pm] at hp;cases hv:Ab9 t with
  |some v =>rw[hv] at hp;cases hp;exact⟨[t],rfl,.lit hv⟩
  |none =>
   rw[hv] at hp;cases hi:isT [40] (t::r) with
   |false=>rw[hi] at hp;cases hp
   |true =>
    rw[hi] at hp;simp only[brP,bP] at hp;cases hq:rec r with
    |error q=>rw[hq] at hp;cases hp
    |ok x =>obtain⟨e1,l1⟩:=x;rw[hq] at hp;simp only at hp;cases hj:isT [41] l1 with|false=>rw[hj] at hp;cases hp|true =>rw[hj] at hp;cases hp;obtain⟨c,hc,hd⟩:=h r e l1 hq;obtain⟨z,hz,hz1⟩:=Hy hj;exact⟨t::(c++[z]),by rw[hc,hz];simp,.br hi hz1 hd⟩
theorem Bf1{part:TL->PR Xpr}{sg:List (Str×Int)}(h:Cns part Der)(hs:∀q,q∈sg->∃p,(q.1,p,q.2)∈opTab):∀(n:Nat) (c0:TL) (e:Xpr) (l:TL) (e':Xpr) (l':TL),Der c0 e->Em part sg n e l = .ok (e',l')->∃c,l=c++l'/\Der (c0++c) e'
 |0,_,_,_,_,_,_,hp=>by cases hp
 |n+1,c0,e,l,e',l',h0,hp=>by
  simp only[Em] at hp;cases hf:sg.find? (λp=>isT p.1 l) with
  |none =>rw[hf] at hp;cases hp;exact⟨[],rfl,by rw[List.append_nil];exact h0⟩
  |some p =>
   rw[hf] at hp;have hi:=A7o hf;obtain⟨q,hq⟩:=hs p (List.mem_of_find?_eq_some hf);obtain⟨t,ht,ht1⟩:=Hy hi;cases hx:part l.tail with
   |error q=>simp only[hx] at hp;cases hp
   |ok x =>
    obtain⟨x,l1⟩:=x;simp only[hx] at hp;obtain⟨c1,hc1,hd1⟩:=h _ _ _ hx;obtain⟨c2,hc2,hd2⟩:=Bf1 h hs n (c0++t::c1) _ l1 e' l' (.op hq ht1 h0 hd1) hp;refine⟨t::(c1++c2),?_,?_⟩
    ·rw[ht,hc1,hc2];simp
    ·have e:c0++t::(c1++c2)=(c0++t::c1)++c2:=by simp
     rw[e];exact hd2
theorem Aa9{part:TL->PR Xpr}{sg:List (Str×Int)}(h:Cns part Der)(hs:∀q,q∈sg->∃p,(q.1,p,q.2)∈opTab):Cns (C2 part sg) Der:=λl e l' hp=>by simp only[C2] at hp;cases hx:part l with|error q=>rw[hx] at hp;cases hp|ok x =>obtain⟨x,l1⟩:=x;rw[hx] at hp;obtain⟨c1,hc1,hd1⟩:=h _ _ _ hx;obtain⟨c2,hc2,hd2⟩:=Bf1 h hs _ c1 x l1 e l' hd1 hp;exact⟨c1++c2,by rw[hc1,hc2,Zj1],hd2⟩
theorem Ae9{s:Str}{k:Int}{part:TL->PR Xpr}(h:Cns part Der)(hk:s=sNOT/\k=3\/s=[45]/\k=15):∀(l:TL) (e:Xpr) (l':TL),Bi s k part l = .ok (e,l')->∃c,l=c++l'/\Der c e
 |[],e,l',hp=>h _ _ _ hp
 |t::r,e,l',hp=>by
  simp only[Bi] at hp;cases hi:isT s (t::r) with
  |true =>rw[hi] at hp;cases hx:Bi s k part r with|error q=>simp only[hx] at hp;cases hp|ok x =>obtain⟨x,l1⟩:=x;simp only[hx] at hp;cases hp;obtain⟨c,hc,hd⟩:=Ae9 h hk r x l' hx;exact⟨t::c,by rw[hc];rfl,.un hk hi hd⟩
  |false =>rw[hi] at hp;exact h _ _ _ hp
theorem Bpa:∀q,q∈cmpS->∃p,(q.1,p,q.2)∈opTab:=by intro q hq;exact⟨4,by revert q;decide⟩
theorem Bn2{sum:TL->PR Xpr}(h:Cns sum Der):Cns (Xn sum) Der:=λl e l' hp=>by
 simp only[Xn] at hp;cases hx:sum l with
 |error q=>rw[hx] at hp;cases hp
 |ok x =>
  obtain⟨x,l1⟩:=x;rw[hx] at hp;obtain⟨c1,hc1,hd1⟩:=h _ _ _ hx;subst hc1;cases hf:cmpS.find? (λp=>isT p.1 l1) with
  |some p =>simp only[hf] at hp;obtain⟨t,ht,ht1⟩:=Hy (A7o hf);obtain⟨q,hq⟩:=Bpa p (List.mem_of_find?_eq_some hf);cases hy:sum l1.tail with|error q=>simp only[hy] at hp;cases hp|ok y =>obtain⟨y,l2⟩:=y;simp only[hy] at hp;cases hp;obtain⟨c2,hc2,hd2⟩:=h _ _ _ hy;refine⟨c1++t::c2,?_,.op hq ht1 hd1 hd2⟩;rw[ht,hc2];simp
  |none =>
   simp only[hf] at hp;cases hi:isT sIS l1 with
   |false =>simp only[hi] at hp;cases hp;exact⟨c1,rfl,hd1⟩
   |true =>
    simp only[hi] at hp;obtain⟨t,ht,ht1⟩:=Hy hi;simp only[isP] at hp;cases hn:isT sNOT l1.tail with
    |true =>
     rw[hn] at hp;obtain⟨m,hm,hm1⟩:=Hy hn;cases hu:isT sNULL l1.tail.tail with
     |false=>simp only[hu] at hp;cases hp
     |true =>
      simp only[hu] at hp;cases hp;obtain⟨n,hn2,hn1⟩:=Hy hu;refine⟨c1++[t,m,n],?_,.nis ht1 hm1 hn1 hd1⟩;have e:l1=t::m::n::l1.tail.tail.tail:=by rw[<-hn2,<-hm,<-ht]
      rw[Zj1];exact congrArg (c1++·) e
    |false =>
     rw[hn] at hp;cases hu:isT sNULL l1.tail with
     |false=>simp only[hu] at hp;cases hp
     |true =>
      simp only[hu] at hp;cases hp;obtain⟨n,hn2,hn1⟩:=Hy hu;refine⟨c1++[t,n],?_,.isn ht1 hn1 hd1⟩;have e:l1=t::n::l1.tail.tail:=by rw[<-hn2,<-ht]
      rw[Zj1];exact congrArg (c1++·) e
theorem Bo0{rec:TL->PR Xpr}(h:Cns rec Der):Cns (lev rec 1) Der:=by have h7:Cns (Bi [45] 15 (Cf rec)) Der:=Ae9 (Bbs h) (.inr ⟨rfl,rfl⟩);have h6:=Aa9 (sg:=[([42],14)]) h7 (λq hq=>⟨6,by revert q;decide⟩);have h5:=Aa9 (sg:=[([43],12),([45],13)]) h6 (λq hq=>⟨5,by revert q;decide⟩);have h4:=Bn2 h5;have h3:Cns (Bi sNOT 3 _) Der:=Ae9 h4 (.inl ⟨rfl,rfl⟩);have h2:=Aa9 (sg:=[(Avp,4)]) h3 (λq hq=>⟨2,by revert q;decide⟩);exact Aa9 (sg:=[(sOR,5)]) h2 (λq hq=>⟨1,by revert q;decide⟩)
theorem A67:∀n,Cns (orN n) Der
 |0=>λ_ _ _ h=>by cases h
 |n+1=>Bo0 (A67 n)
theorem Bqz:Cns orW Der:=λl e l' h=>A67 _ l e l' h
def signsL:List (Int×Str):=[(4,[65,78,68]),(5,[79,82]),(6,[61]),(7,[60,62]),(8,[60]),(9,[60,61]),(10,[62]),(11,[62,61]),(12,[43]),(13,[45]),(14,[42])]
def wordsL:List Str:=[[65,68,68],[65,78,68],[65,83,67],[66,79,79,76],[66,89],[66,89,84,69,83],[67,72,69,67,75],[67,82,69,65,84,69],[68,69,76,69,84,69],[68,69,83,67],[68,82,79,80],[70,65,76,83,69],[70,82,79,77],[73,78,68,69,88],[73,78,83,69,82,84],[73,78,84],[73,78,84,79],[73,83],[75,69,89],[76,73,77,73,84],[78,79,84],[78,85,76,76],[79,78],[79,82],[79,82,68,69,82],[80,82,73,77,65,82,89],[82,69,70,69,82,69,78,67,69,83],[83,69,76,69,67,84],[83,69,84],[84,65,66,76,69],[84,69,88,84],[84,82,85,69],[85,78,73,81,85,69],[85,80,68,65,84,69],[86,65,76,85,69,83],[87,72,69,82,69]]
def Zm:List Str:=[[],[],[66,79,79,76],[73,78,84],[84,69,88,84],[66,89,84,69,83]]
def ttL:List (Nat×Ax.Ty):=[
 (1,.fn),
 (3,.int .i64),
 (4,.bool),
 (5,.int .u8),
 (9,.str),
 (21,.int .i32),
 (23,.st (some .val) [(0,3),(1,3),(2,9)] [.int .i64 0,.int .i64 0,.str []]),
 (24,.sl .expr),
 (26,.st (some .expr) [(0,3),(1,23),(4,9),(5,24)] [.int .i64 0,.int .i64 0,.int .i64 0,.str [],.str [],.sl .expr [] .nil]),
 (29,.int .i64),
 (34,.sl .str),
 (38,.fn),
 (39,.sl .col),
 (40,.sl .exprs),
 (41,.sl .set),
 (42,.sl .bool),
 (44,.st (some .stmt) [(0,3),(1,9),(2,9),(3,39),(4,34),(5,24),(6,40),(7,41),(8,4),(9,26),(15,34),(16,42),(17,3)] [.int .i64 0,.str [],.str [],.sl .col [] .nil,.sl .str [] .nil,.sl .expr [] .nil,.sl .exprs [] .nil,.sl .set [] .nil,.bool false,.int .i64 0,.int .i64 0,.int .i64 0,.str [],.str [],.sl .expr [] .nil,.sl .str [] .nil,.sl .bool [] .nil,.int .i64 0]),
 (63,.sl .tok),
 (67,.st (some .tok) [(0,3),(1,3),(2,9),(3,3)] [.int .i64 0,.int .i64 0,.str [],.int .i64 0]),
 (68,.int .u64),
 (71,.sl .int),
 (77,.ptr),
 (78,.sl .byte),
 (80,.st none [(0,77),(1,78)] [.nilp,.sl .byte [] .nil]),
 (82,.st none [(0,80)] [.nilp,.sl .byte [] .nil]),
 (83,.fn),
 (89,.st (some .set) [(0,9),(1,26)] [.str [],.int .i64 0,.int .i64 0,.int .i64 0,.str [],.str [],.sl .expr [] .nil]),
 (94,.fn),
 (100,.st (some .num) [(0,4),(1,71)] [.bool false,.sl .int [] .nil]),
 (106,.fn),
 (111,.st (some .col) [(0,9),(1,3),(2,4),(3,4),(4,9)] [.str [],.int .i64 0,.bool false,.bool false,.str []]),
 (118,.fn),
 (120,.fn),
 (121,.ptr),
 (126,.st none [(0,63),(1,3)] [.sl .tok [] .nil,.int .i64 0]),
 (128,.st none [(0,126),(2,4),(3,3)] [.sl .tok [] .nil,.int .i64 0,.bool false,.int .i64 0]),
 (130,.st (some .got) [(0,3),(1,4)] [.int .i64 0,.bool false]),
 (135,.fn),
 (144,.fn),
 (145,.ptr),
 (147,.map),
 (148,.ptr),
 (158,.fn),
 (164,.ptr),
 (176,.st (some .pair) [(0,9),(1,3)] [.str [],.int .i64 0]),
 (188,.arr 2 .str),
 (191,.arr 6 .str),
 (194,.ptr),
 (201,.sl .pair),
 (202,.int .u64),
 (221,.arr 36 .str),
 (226,.arr 256 .byte),
 (228,.st none [(0,5),(1,5)] [.int .u8 0,.int .u8 0]),
 (230,.int .u32),
 (233,.fn)]
def elT:Ck->TypeId
 |.byte=>5
 |.int=>3
 |.u64=>202
 |.str=>9
 |.bool=>4
 |.val=>23
 |.tok=>67
 |.col=>111
 |.expr=>26
 |.num=>100
 |.set=>89
 |.stmt=>44
 |.got=>130
 |.pair=>176
 |.exprs=>24
 |.strs=>34
 |.bytes=>78
 |_=>0
theorem A5w:(ttL.all λp=>Dd Tryz.prog elT (Atv ttL) p.1)=true:=by kernel_rfl
def glT:Nat->Option Gv:=tbl [(0,.map signsL),(1,.arr .str Zm),(2,.arr .str wordsL),(3,.num .i64)]
theorem follows:Tryz.prog.follows .mixedOrders=true:=by kernel_rfl
abbrev FO:=FnOk Tryz.prog elT glT
abbrev FM:=FnLn Tryz.prog elT glT
abbrev HX:=Hx Tryz.prog elT glT (Atv ttL)
def pxO{R:Type}(c:List (Nat×Nt R))(q:List (Nat×Mk R))(l:List (Nat×Bhm R))(w:List (Nat×Y8 R)):Px R:=⟨Atv ttL,glT,A57 c,Awp q,Bup l,tbl w⟩
abbrev cA{R:Type}{sa sr:List Sg}(F:FT sa sr):Nt R:=Aeb sa sr F
abbrev qA{R:Type}{sa sr:List Sg}(F:FT sa sr):Mk R:=Adl sa sr F
theorem fR{f:FuncId}{fn:Func}{c:Code}{sa sr:List Sg}{px:Px (HV sr)}{F:FT sa sr}{n:Nat}(hf:Tryz.prog.funcs[f]? = some fn)(hb:fn.body=some c)(h:∀cx,HX cx->Lv cx px/\∀i,i<n->C5 cx px (lp fn i))(hF:∀x,Bfs px fn sa sr x some=F x)(hname:(fn.name == "runtime.NumGoroutine")=false:=by kernel_rfl)(hchk:(Vf fn&&Nat.ble sa.length fn.ntmps&&Fx (Bo 0 sa) [])=true:=by kernel_rfl)(hn:N0 fn=n:=by kernel_rfl):FO f sa sr F:=fO (Bku A5w) follows hf hb hname hchk hn h hF
theorem fRL{f:FuncId}{fn:Func}{c:Code}{sg so:Sig}{px:Px (HV so.sgs)}{F:FL sg so}{n:Nat}(hf:Tryz.prog.funcs[f]? = some fn)(hb:fn.body=some c)(h:∀cx,HX cx->Lv cx px/\∀i,i<n->C5 cx px (lp fn i))(hF:∀x,Aym px fn sg so x some=F x)(hname:(fn.name == "runtime.NumGoroutine")=false:=by kernel_rfl)(hchk:(Vf fn&&Nat.ble sg.n fn.ntmps)=true:=by kernel_rfl)(hn:N0 fn=n:=by kernel_rfl):FM f sg so F:=fL (Bku A5w) follows hf hb hname hchk hn h hF
end Go.Proofs.YthndhaolemgbdaaGreatDoor
namespace Go.Proofs.YthndhaolemgbdaaGreatDoor.Lp
open Go.Sx Go.RowKit
abbrev Tok:=Go.Ax.Tok
def pre(l m:List UInt8):Bool:=decide (m.length<=l.length)&&decide (l.take m.length=m)
theorem Aem(a b c d:Int)(h : 0<=a/\a<=c)(h' : 0<=b/\b<=d) : 0<=a*b/\a*b<=c*d :=⟨Int.mul_nonneg h.1 h'.1,Int.mul_le_mul h.2 h'.2 h'.1 (by omega)⟩
theorem Aib(x y:Int):x*y=(x / 4294967296)*(y / 4294967296)*18446744073709551616+((x / 4294967296)*(y % 4294967296)+(x % 4294967296)*(y / 4294967296))*4294967296+(x % 4294967296)*(y % 4294967296):=by
 have hx:=Int.mul_ediv_add_emod x 4294967296;have hy:=Int.mul_ediv_add_emod y 4294967296;generalize x / 4294967296=p at *;generalize x % 4294967296=q at *;generalize y / 4294967296=r at *;generalize y % 4294967296=s at *;rw[<-hx,<-hy];simp only[Int.add_mul,Int.mul_add];have e1 : 4294967296*p*(4294967296*r)=p*r*18446744073709551616:=by rw[Int.mul_assoc,Int.mul_left_comm p,<-Int.mul_assoc];omega
 have e2 : 4294967296*p*s=p*s*4294967296:=by rw[Int.mul_assoc];omega
 have e3:q*(4294967296*r)=q*r*4294967296:=by rw[Int.mul_left_comm];omega
 omega
def inI(n:Int):Prop := -9223372036854775808<=n/\n<=9223372036854775807
instance (n:Int):Decidable (inI n):=by unfold inI;infer_instance
def N5(n:Int):Int:=if n<0 then -n else n
def vis(c:Int):Bool:=decide (32<=c)&&decide (c<=126)
def visF(l:List UInt8):Bool:=l.all λb=>vis b.toNat
theorem Bds(l:List UInt8)(j:Int)(h : 0<=j/\j<l.length):l.drop j.toNat=l.getD j.toNat 0::l.drop (j+1).toNat:=by
 have h1:j.toNat<l.length:=by omega
 have h2:(j+1).toNat=j.toNat+1:=by omega
 rw[h2,List.drop_eq_getElem_cons h1];simp[List.getD_eq_getElem?_getD,h1]
theorem Amx(p:Int->Bool)(l:List UInt8)(j:Int)(h : 0<=j/\j<l.length):((l.drop j.toNat).all λb=>p b.toNat)=(p (byt l j)&&(l.drop (j+1).toNat).all λb=>p b.toNat):=by rw[Bds l j h];rfl
def rightF(k n:Int)(s:List UInt8):Bool :=
 if k=1 then n == 0&&decide (s=[]) else if k=2 then(n == 0||n == 1)&&decide (s=[]) else if k=3 then decide (s=[])
 else if k=4 then n == 0&&decide ((s.length:Int)<=1000)&&visF s else if k=5 then n == 0&&decide ((s.length:Int)<=1000) else false
def checkF(k n:Int)(s:List UInt8):Int:=if rightF k n s then 0 else 2
def isUp(c:Int):Bool:=decide (65<=c)&&decide (c<=90)
def isLo(c:Int):Bool:=decide (97<=c)&&decide (c<=122)
def isDi(c:Int):Bool:=decide (48<=c)&&decide (c<=57)
def isIn(c:Int):Bool:=isLo c||isDi c||c == 95
def runTo(p:Int->Bool)(l:List UInt8)(i:Int):Int:=i+((l.drop i.toNat).takeWhile λb=>p b.toNat).length
theorem Hg(l:List UInt8)(j:Int)(h : 0<=j/\j<l.length):l.drop j.toNat=l.getD j.toNat 0::l.drop (j+1).toNat:=by
 have h1:j.toNat<l.length:=by omega
 have h2:(j+1).toNat=j.toNat+1:=by omega
 rw[h2,List.drop_eq_getElem_cons h1];simp[List.getD_eq_getElem?_getD,h1]
theorem runTo_yes{p:Int->Bool}{l:List UInt8}{j:Int}(h : 0<=j/\j<l.length)(hp:p (byt l j)=true):runTo p l (j+1)=runTo p l j:=by unfold runTo;rw[Hg l j h];have:p ((l.getD j.toNat 0).toNat:Int)=true:=hp;simp only[List.takeWhile_cons,this,if_true,Zf1];omega
theorem runTo_no{p:Int->Bool}{l:List UInt8}{j:Int}(h : 0<=j/\j<l.length)(hp:p (byt l j)=false):runTo p l j=j:=by unfold runTo;rw[Hg l j h];have:p ((l.getD j.toNat 0).toNat:Int)=false:=hp;simp only[List.takeWhile_cons,this,Zj2,if_false,Zi1];omega
theorem runTo_end{p:Int->Bool}{l:List UInt8}{j:Int}(h:(l.length:Int)<=j):runTo p l j=j:=by unfold runTo;rw[Zk1 (by omega)];simp
def aloneF(l:List UInt8)(i:Int):Bool:=i == l.length || !isIn (byt l i) && !isUp (byt l i)
def dg(c:Int):Int:=IntKind.i64.wrap (IntKind.u8.wrap (c-48))
theorem Bug(c:Int) : 0<=dg c/\dg c<=255:=by
 have e1:IntKind.u8.wrap (c-48)=(c-48) % 256:=by simp[IntKind.wrap,IntKind.bits,IntKind.signed]
 unfold dg;rw[e1,IntWalk.i64_in _ (by omega)];omega
theorem Bqq(c:Int)(h : 48<=c/\c<=303):dg c=c-48:=by
 have e1:IntKind.u8.wrap (c-48)=(c-48) % 256:=by simp[IntKind.wrap,IntKind.bits,IntKind.signed]
 unfold dg;rw[e1,IntWalk.i64_in _ (by omega)];omega
def numGo:List UInt8->Int->Option Int
 |[],n=>some n
 |c::r,n=>if inI (n*10)/\inI (n*10+dg c.toNat) then numGo r (n*10+dg c.toNat) else none
theorem inI_dg(c:Int):inI (dg c):=by have:=Bug c;unfold inI;omega
def qGo:List UInt8->List UInt8->Int->List UInt8×Int
 |[],_,_=>([], -1)
 |[c],acc,i=>if c=39 then(acc,i+1) else([], -1)
 |c::d::r,acc,i=>if c=39 then(if d=39 then qGo r (acc++[39]) (i+2) else(acc,i+1)) else qGo (d::r) (acc++[c]) (i+1)
theorem byt_lit{l:List UInt8}{j:Int}{c:UInt8}:byt l j=(c.toNat:Int)↔l.getD j.toNat 0=c:=by unfold byt;rw[<-UInt8.toNat_inj];omega
theorem q_end{l acc:List UInt8}{j:Int}(h:(l.length:Int)<=j):qGo (l.drop j.toNat) acc j=([], -1):=by rw[Zk1 (by omega)];rfl
theorem q_last{l acc:List UInt8}{j:Int}(h : 0<=j)(hl:j+1=l.length)(hc:byt l j=39):qGo (l.drop j.toNat) acc j=(acc,j+1):=by rw[Hg l j (by omega),(byt_lit (c:=39)).1 hc,Zk1 (by omega)];rfl
theorem q_close{l acc:List UInt8}{j:Int}(h : 0<=j)(hl:j+1<l.length)(hc:byt l j=39)(hd:byt l (j+1)≠39):qGo (l.drop j.toNat) acc j=(acc,j+1):=by have hd':¬l.getD (j+1).toNat 0=39:=λhh=>hd ((byt_lit (c:=39)).2 hh);rw[Hg l j (by omega),(byt_lit (c:=39)).1 hc,Hg l (j+1) (by omega)];simp only[qGo,if_true,if_neg hd']
theorem q_two{l acc:List UInt8}{j:Int}(h : 0<=j)(hl:j+1<l.length)(hc:byt l j=39)(hd:byt l (j+1)=39):qGo (l.drop j.toNat) acc j=qGo (l.drop (j+1+1).toNat) (acc++[39]) (j+1+1):=by rw[Hg l j (by omega),(byt_lit (c:=39)).1 hc,Hg l (j+1) (by omega),(byt_lit (c:=39)).1 hd];simp only[qGo,if_true];rw[show j+2=j+1+1 by omega]
theorem q_other{l acc:List UInt8}{j:Int}(h : 0<=j)(hl:j<l.length)(hc:¬byt l j=39):qGo (l.drop j.toNat) acc j=qGo (l.drop (j+1).toNat) (acc++[l.getD j.toNat 0]) (j+1):=by have hc':¬l.getD j.toNat 0=39:=λhh=>hc ((byt_lit (c:=39)).2 hh);rw[Hg l j (by omega)];cases hd:l.drop (j+1).toNat with|nil=>simp only[qGo,if_neg hc']|cons d r=>simp only[qGo,if_neg hc']
def hexD(c:Int):Option Int:=if 48<=c/\c<=57 then some (c-48) else if 97<=c/\c<=102 then some (c-87) else none
theorem hexD_lt{c n:Int}(h:hexD c=some n) : 0<=n/\n<=15:=by
 unfold hexD at h;split at h
 ·cases h;omega
 ·split at h
  ·cases h;omega
  ·cases h
def unGo:List UInt8->List UInt8->Option (List UInt8)
 |[],acc=>some acc
 |[_],_=>none
 |a::b::r,acc=>match hexD a.toNat,hexD b.toNat with|some x,some y=>unGo r (acc++[UInt8.ofNat (x*16+y).toNat])|_,_=>none
theorem Bo4:∀a b:Fin 16,IntKind.u8.wrap (((BitVec.ofInt IntKind.u8.bits (IntKind.u8.wrap ((a.val:Int)*2 ^ min (4:Int).toNat IntKind.u8.bits)) ||| BitVec.ofInt IntKind.u8.bits (b.val:Int)).toNat:Nat):Int)=((a.val*16+b.val:Nat):Int):=by decide +kernel
theorem joinhex'{x y:Int}(hx : 0<=x/\x<=15)(hy : 0<=y/\y<=15):IntKind.u8.wrap (((BitVec.ofInt IntKind.u8.bits (IntKind.u8.wrap (x*2 ^ min (4:Int).toNat IntKind.u8.bits)) ||| BitVec.ofInt IntKind.u8.bits y).toNat:Nat):Int)=((UInt8.ofNat (x*16+y).toNat).toNat:Int):=by obtain⟨a,rfl⟩:=Int.eq_ofNat_of_zero_le hx.1;obtain⟨b,rfl⟩:=Int.eq_ofNat_of_zero_le hy.1;have:=Bo4 ⟨a,by omega⟩ ⟨b,by omega⟩;simp only at this;rw[this];rw[show((a:Int)*16+(b:Int)).toNat=a*16+b by omega,UInt8.toNat_ofNat'];omega
theorem un_step{l acc:List UInt8}{j:Int}(h : 0<=j)(hl:j+1<l.length):unGo (l.drop j.toNat) acc=match hexD (byt l j),hexD (byt l (j+1)) with
  |some x,some y=>unGo (l.drop (j+2).toNat) (acc++[UInt8.ofNat (x*16+y).toNat])
  |_,_=>none:=by
 rw[Hg l j (by omega),Hg l (j+1) (by omega),show j+1+1=j+2 by omega];rfl
def signs:List UInt8:=[40,41,44,42,61,60,62,43,45,59]
def signF(l:List UInt8):Int:=if pre l [60,62]||pre l [60,61]||pre l [62,61] then 2 else if 0<=Lib.indexByte signs (byt l 0).toNat.toUInt8 then 1 else 0
def idx(x:List UInt8):List (List UInt8)->Int->Int
 |[],_ => -1
 |l::r,i=>if x=l then i else idx x r (i+1)
theorem idx_ge(x:List UInt8):∀(ls:List (List UInt8)) (i:Int),0<=i->(0<=idx x ls i↔x∈ls)
 |[],i,_=>by simp[idx]
 |l::r,i,h=>by
  by_cases hx:x=l
  ·simp[idx,hx,h]
  ·simp[idx,hx,idx_ge x r (i+1) (by omega)]
def wordF(l:List UInt8):Bool:=wordsL.contains l
def nameF(l:List UInt8):Bool := !decide (l=[])&&decide ((l.length:Int)<=30)&&isLo (byt l 0)&&(runTo isIn l 0 == l.length)
def tokF(l:List UInt8)(i:Int):Option (Int×List UInt8×Int×Int) :=
 if pre (l.drop i.toNat) [120,39] then
  let n:=Lib.indexByte (l.drop (i+2).toNat) 39
  if n<0 then none else
  let x:=cut l (i+2) (i+2+n);match(if x.length % 2=0 then unGo x [] else none) with|none=>none|some b=>if 1000<(b.length:Int) then none else some (5,b,0,i+3+n)
 else if isUp (byt l i) then
  if wordF (cut l i (runTo isUp l i))&&aloneF l (runTo isUp l i) then some (1,cut l i (runTo isUp l i),0,runTo isUp l i) else none
 else if isLo (byt l i) then
  if nameF (cut l i (runTo isIn l i))&&aloneF l (runTo isIn l i) then some (2,cut l i (runTo isIn l i),0,runTo isIn l i) else none
 else if isDi (byt l i) then
  match numGo (cut l i (runTo isDi l i)) 0 with|none=>none|some n=>if(decide (cut l i (runTo isDi l i)=[48])||byt (cut l i (runTo isDi l i)) 0 != 48)&&aloneF l (runTo isDi l i) then some (3,cut l i (runTo isDi l i),n,runTo isDi l i) else none
 else if byt l i=39 then
  let q:=qGo (l.drop (i+1).toNat) [] (i+1)
  if rightF 4 0 q.1 then(if q.2<0 then none else some (4,q.1,0,q.2)) else none
 else if signF (l.drop i.toNat)=0 then none else some (6,cut l i (i+signF (l.drop i.toNat)),0,i+signF (l.drop i.toNat))
theorem runTo_range(p:Int->Bool)(l:List UInt8)(i:Int)(h : 0<=i/\i<=l.length):i<=runTo p l i/\runTo p l i<=l.length:=by unfold runTo;have h1:=(List.takeWhile_prefix (λb:UInt8=>p b.toNat) (l:=l.drop i.toNat)).length_le;rw[Za2] at h1;omega
theorem runTo_gt{p:Int->Bool}{l:List UInt8}{i:Int}(h : 0<=i/\i<l.length)(hp:p (byt l i)=true):i+1<=runTo p l i:=by have h1:=runTo_yes h hp;have h2:=runTo_range p l (i+1) (by omega);omega
theorem cut_length(l:List UInt8)(a b:Int)(h : 0<=a/\a<=b/\b<=l.length):((cut l a b).length:Int)=b-a:=by unfold cut;rw[List.length_take,Za2];omega
theorem signF_in(l:List UInt8)(h : 0<l.length):signF l=0\/signF l=1\/(signF l=2/\2<=l.length):=by
 unfold signF;split
 ·rename_i hp;right;right;refine⟨rfl,?_⟩;simp only[pre,Zd2,Zb1,Zg1,Zf1,Zi1] at hp;omega
 ·split
  ·exact .inr (.inl rfl)
  ·exact .inl rfl
theorem qGo_in:∀(n:Nat) (l acc:List UInt8) (i:Int),l.length<=n->0<=i->(qGo l acc i).2 = -1\/(i+1<=(qGo l acc i).2/\(qGo l acc i).2<=i+l.length)
 |n,[],acc,i,_,h=>by left;rfl
 |n,[c],acc,i,_,h=>by
  simp only[qGo];split
  ·right;simp
  ·left;rfl
 |0,_::_::_,_,_,hn,_=>by simp at hn
 |n+1,c::d::r,acc,i,hn,h=>by
  simp only[Zf1] at hn ⊢;simp only[qGo];split
  ·split
   ·rcases qGo_in n r (acc++[39]) (i+2) (by omega) (by omega) with h1|h1
    ·exact .inl h1
    ·right;omega
   ·right;simp;omega
  ·rcases qGo_in n (d::r) (acc++[c]) (i+1) (by simp;omega) (by omega) with h1|h1
   ·exact .inl h1
   ·right;simp at h1;omega
theorem indexByte_in:∀(l:List UInt8) (c:UInt8),Lib.indexByte l c = -1\/(0<=Lib.indexByte l c/\Lib.indexByte l c<l.length)
 |[],c =>.inl rfl
 |b::l,c=>by
  simp only[Lib.indexByte,Zf1];split
  ·right;omega
  ·rcases indexByte_in l c with h|h
   ·left;simp[h]
   ·right;have:¬((Lib.indexByte l c == -1)=true):=by simp;omega
    rw[if_neg this];omega
def blankF(c:Int):Bool:=decide (0<=Lib.indexByte [32,9,10,13] c.toNat.toUInt8)
def allGo:Nat->List UInt8->Int->List Tok->Except Int (List Tok)
 |0,_,_,acc =>.ok acc
 |f+1,l,i,acc =>
  if(l.length:Int)<=i then .ok acc
  else if blankF (byt l i) then allGo f l (i+1) acc
  else match tokF l i with|none =>.error i|some (k,s,n,e)=>allGo f l e (acc++[⟨k,i,s,n⟩])
def allF(l:List UInt8):Except Int (List Tok):=allGo (l.length+1) l 0 []
theorem tok_end{l:List UInt8}{i:Int}(h0 : 0<=i/\i<l.length){k:Int}{s:List UInt8}{n e:Int}(h:tokF l i=some (k,s,n,e)):i<e/\e<=l.length:=by
 unfold tokF at h;split at h
 ·rename_i hx;have hdl:(l.drop i.toNat).length=l.length-i.toNat:=Za2;have h2 : 2<=(l.drop i.toNat).length:=by simp only[pre,Zb1,Zg1,Zf1,Zi1] at hx;omega
  have hdl2:(l.drop (i+2).toNat).length=l.length-(i+2).toNat:=Za2;have hib:=indexByte_in (l.drop (i+2).toNat) 39;simp only at h;split at h
  ·cases h
  ·split at h
   ·cases h
   ·split at h
    ·cases h
    ·cases h;omega
 ·split at h
  ·rename_i hu;have hr:=runTo_range isUp l i (by omega);have hg:=runTo_gt h0 hu;split at h
   ·cases h;omega
   ·cases h
  ·split at h
   ·rename_i hlo;have hr:=runTo_range isIn l i (by omega);have hg:=runTo_gt (p:=isIn) h0 (by simp[isIn,hlo]);split at h
    ·cases h;omega
    ·cases h
   ·split at h
    ·rename_i hd;have hr:=runTo_range isDi l i (by omega);have hg:=runTo_gt h0 hd;split at h
     ·cases h
     ·split at h
      ·cases h;omega
      ·cases h
    ·split at h
     ·have hqi:=qGo_in _ (l.drop (i+1).toNat) [] (i+1) (Zn1 _) (by omega);have hdl:(l.drop (i+1).toNat).length=l.length-(i+1).toNat:=Za2;simp only at h;split at h
      ·split at h
       ·cases h
       ·cases h;omega
      ·cases h
     ·split at h
      ·cases h
      ·have hdl:(l.drop i.toNat).length=l.length-i.toNat:=Za2;have hs:=signF_in (l.drop i.toNat) (by omega);cases h;omega
def signsI:List Int:=[40,41,44,42,61,60,62,43,45,59]
def clsF(c:Int):Int :=
 if isUp c then 1 else if isLo c then 2 else if isDi c then 3 else if c=95 then 4 else if c=39 then 5
 else if c=32\/c=9\/c=10\/c=13 then 6 else if signsI.contains c then 7 else 0
def isWd(c:Int):Bool:=decide (1<=clsF c)&&decide (clsF c<=4)
def rnumGo:List UInt8->Int->Option Int
 |[],n=>some n
 |c::r,n=>if clsF c.toNat≠3\/922337203685477580<n\/(n=922337203685477580/\7<(c.toNat:Int)-48) then none else rnumGo r (10*n+((c.toNat:Int)-48))
def rnumF(l:List UInt8):Int:=match rnumGo l 0 with|none => -1|some n=>if 1<(l.length:Int)/\byt l 0=48 then -1 else n
theorem cls3{c:Int}(h:clsF c=3) : 48<=c/\c<=57:=by
 unfold clsF at h;split at h
 ·omega
 ·split at h
  ·omega
  ·split at h
   ·rename_i hd;simpa[isDi] using hd
   ·(repeat' split at h)<;>omega
theorem cut_one(l:List UInt8)(j:Int)(h : 0<=j/\j<l.length):cut l j (j+1)=[l.getD j.toNat 0]:=by unfold cut;rw[Hg l j h,show(j+1).toNat-j.toNat=1 by omega];rfl
def nmOk(j c:Int):Bool:=decide (clsF c=2)||(!decide (j=0)&&(decide (clsF c=3)||decide (clsF c=4)))
def okGo:List UInt8->Int->Bool
 |[],_=>true
 |c::r,j=>nmOk j c.toNat&&okGo r (j+1)
def rnameF(l:List UInt8):Bool:=okGo l 0&&(decide (1<=(l.length:Int))&&decide ((l.length:Int)<=30))
def HexAt(l:List UInt8)(i:Int):Prop:=cut l i (runTo isWd l i)=[120]/\runTo isWd l i<l.length/\byt l (runTo isWd l i)=39
instance (l:List UInt8) (i:Int):Decidable (HexAt l i):=by unfold HexAt;infer_instance
def twoR(l:List UInt8)(i:Int):Prop:=i+1<l.length/\(cut l i (i+2)=[60,62]\/cut l i (i+2)=[60,61]\/cut l i (i+2)=[62,61])
instance (l:List UInt8) (i:Int):Decidable (twoR l i):=by unfold twoR;infer_instance
def tokR(l:List UInt8)(i:Int):Option (Int×List UInt8×Int×Int) :=
 if HexAt l i then
  let t:=runTo isWd l i;let q:=runTo (λc => !decide (c=39)) l (t+1)
  if q=l.length then none else
  match(if(cut l (t+1) q).length % 2=0 then unGo (cut l (t+1) q) [] else none) with|none=>none|some b=>if 1000<(b.length:Int) then none else some (5,b,0,q+1)
 else if clsF (byt l i)=1 then(if wordF (cut l i (runTo isWd l i)) then some (1,cut l i (runTo isWd l i),0,runTo isWd l i) else none)
 else if clsF (byt l i)=2 then(if rnameF (cut l i (runTo isWd l i)) then some (2,cut l i (runTo isWd l i),0,runTo isWd l i) else none)
 else if clsF (byt l i)=3 then(if 0<=rnumF (cut l i (runTo isWd l i)) then some (3,cut l i (runTo isWd l i),rnumF (cut l i (runTo isWd l i)),runTo isWd l i) else none)
 else if clsF (byt l i)=5 then
  let q:=qGo (l.drop (i+1).toNat) [] (i+1)
  if ¬q.2 = -1/\checkF 4 0 q.1=0 then some (4,q.1,0,q.2) else none
 else if clsF (byt l i)=7 then(if twoR l i then some (6,cut l i (i+2),0,i+2) else some (6,cut l i (i+1),0,i+1))
 else none
theorem tokR_end{l:List UInt8}{i:Int}(h0 : 0<=i/\i<l.length){k:Int}{s:List UInt8}{n e:Int}(h:tokR l i=some (k,s,n,e)):i<e/\e<=l.length:=by
 unfold tokR at h;have hr:=runTo_range isWd l i (by omega);split at h
 ·rename_i hx;have hx1:=hx.2.1;have hq:=runTo_range (λc => !decide (c=39)) l (runTo isWd l i+1) (by omega);simp only at h;split at h
  ·cases h
  ·split at h
   ·cases h
   ·split at h
    ·cases h
    ·cases h;omega
 ·have hg:∀c:Int,1<=c/\c<=4->clsF (byt l i)=c->i+1<=runTo isWd l i:=λc hc he=>runTo_gt h0 (by simp[isWd];omega);split at h
  ·rename_i h1;have:=hg 1 (by omega) h1;split at h
   ·cases h;omega
   ·cases h
  ·split at h
   ·rename_i h1;have:=hg 2 (by omega) h1;split at h
    ·cases h;omega
    ·cases h
   ·split at h
    ·rename_i h1;have:=hg 3 (by omega) h1;split at h
     ·cases h;omega
     ·cases h
    ·split at h
     ·have hqi:=qGo_in _ (l.drop (i+1).toNat) [] (i+1) (Zn1 _) (by omega);have hdl:(l.drop (i+1).toNat).length=l.length-(i+1).toNat:=Za2;simp only at h;split at h
      ·rename_i h2;cases h;have:=h2.1;omega
      ·cases h
     ·split at h
      ·split at h
       ·rename_i h2;have:=h2.1;cases h;omega
       ·cases h;omega
      ·cases h
def rallGo:Nat->List UInt8->Int->List Tok->Except Int (List Tok)
 |0,_,_,acc =>.ok acc
 |f+1,l,i,acc =>
  if(l.length:Int)<=i then .ok acc
  else if clsF (byt l i)=6 then rallGo f l (i+1) acc
  else match tokR l i with|none =>.error i|some (k,s,n,e)=>rallGo f l e (acc++[⟨k,i,s,n⟩])
def rallF(l:List UInt8):Except Int (List Tok):=rallGo (l.length+1) l 0 []
theorem Ahh{p:Int->Prop}(h:∀n:Fin 256,p (n.val:Int))(c:Int)(hc : 0<=c/\c<=255):p c:=by have:=h ⟨c.toNat,by omega⟩;simpa[Int.toNat_of_nonneg hc.1] using this
theorem Bsa:∀n:Fin 256,isWd (n.val:Int)=(isUp (n.val:Int)||isIn (n.val:Int)):=by decide +kernel
theorem Ba7:∀n:Fin 256,blankF (n.val:Int)=decide (clsF (n.val:Int)=6):=by decide +kernel
theorem Bg8:∀n:Fin 256,decide (0<=Lib.indexByte signs (n.val:Int).toNat.toUInt8)=decide (clsF (n.val:Int)=7):=by decide +kernel
theorem Avm(c:Int)(hc : 0<=c/\c<=255):isWd c=(isUp c||isIn c):=Ahh (p:=λc=>isWd c=(isUp c||isIn c)) Bsa c hc
theorem Bj7(c:Int)(hc : 0<=c/\c<=255):blankF c=decide (clsF c=6):=Ahh (p:=λc=>blankF c=decide (clsF c=6)) Ba7 c hc
theorem Bmd(c:Int)(hc : 0<=c/\c<=255):decide (0<=Lib.indexByte signs c.toNat.toUInt8)=decide (clsF c=7):=Ahh (p:=λc=>decide (0<=Lib.indexByte signs c.toNat.toUInt8)=decide (clsF c=7)) Bg8 c hc
theorem u8_range(b:UInt8) : 0<=(b.toNat:Int)/\(b.toNat:Int)<=255:=by have:=b.toNat_lt;omega
def tw(p:Int->Bool)(m:List UInt8):List UInt8:=m.takeWhile λb=>p b.toNat
theorem Fs(p:Int->Bool)(l:List UInt8)(i:Int):runTo p l i=i+(tw p (l.drop i.toNat)).length:=rfl
theorem tw_len(p:Int->Bool):∀m:List UInt8,(tw p m).length<=m.length
 |[]=>by simp[tw]
 |x::m=>by have:=tw_len p m;unfold tw at *;simp only[List.takeWhile_cons];split<;>simp<;>omega
theorem tw_take(p:Int->Bool):∀m:List UInt8,m.take (tw p m).length=tw p m
 |[]=>by simp[tw]
 |x::m=>by
  have:=tw_take p m;unfold tw at *;simp only[List.takeWhile_cons];split
  ·simp[this]
  ·simp
theorem Qy(p:Int->Bool)(l:List UInt8)(i:Int)(h : 0<=i):cut l i (runTo p l i)=tw p (l.drop i.toNat):=by unfold cut;rw[Fs,show(i+((tw p (l.drop i.toNat)).length:Int)).toNat-i.toNat=(tw p (l.drop i.toNat)).length by omega];exact tw_take p _
theorem Azf{p q:Int->Bool}(hpq:∀b:UInt8,p b.toNat=true->q b.toNat=true):∀m:List UInt8,tw q m=tw p m++tw q (m.drop (tw p m).length)
 |[]=>by simp[tw]
 |x::m=>by have ih:=Azf hpq m;unfold tw at *;cases hp:p x.toNat with|true=>simp[hp,hpq x hp];exact ih|false=>simp[hp]
theorem Bgi(p:Int->Bool):∀m:List UInt8,(tw p m).all (λb=>p b.toNat)=true
 |[]=>by simp[tw]
 |x::m=>by have ih:=Bgi p m;unfold tw at *;cases hp:p x.toNat with|true=>simp only[List.takeWhile_cons,hp,if_true,Zv1,Bool.true_and];exact ih|false=>simp[hp]
theorem A19{q:Int->Bool}(m:List UInt8):tw q m=[]↔m=[]\/q (byt m 0)=false:=by cases m with|nil=>simp[tw]|cons x m =>have:byt (x::m) 0=(x.toNat:Int):=rfl;rw[this];cases hq:q x.toNat<;>simp[tw,hq]
theorem Ua(l:List UInt8)(i:Int)(h : 0<=i)(j:Nat):byt (l.drop i.toNat) j=byt l (i+j):=by unfold byt;rw[List.getD_eq_getElem?_getD,List.getD_eq_getElem?_getD,List.getElem?_drop,show i.toNat+(j:Int).toNat=(i+j).toNat by omega]
theorem Asq{p:Int->Bool}(hp:∀b:UInt8,p b.toNat=true->isWd b.toNat=true)(l:List UInt8)(i:Int)(h : 0<=i/\i<=l.length):aloneF l (runTo p l i)=true↔tw p (l.drop i.toNat)=tw isWd (l.drop i.toNat):=by
 have hs:=Azf hp (l.drop i.toNat);have hr:=runTo_range p l i h;have hdd:(l.drop i.toNat).drop (tw p (l.drop i.toNat)).length=l.drop (runTo p l i).toNat:=by rw[List.drop_drop,Fs];congr 1;omega
 rw[hdd] at hs;have h1:tw p (l.drop i.toNat)=tw isWd (l.drop i.toNat)↔tw isWd (l.drop (runTo p l i).toNat)=[]:=by rw[hs];simp
 rw[h1,A19];have h2:l.drop (runTo p l i).toNat=[]↔runTo p l i=l.length:=by rw[List.drop_eq_nil_iff];omega
 have h3:byt (l.drop (runTo p l i).toNat) 0=byt l (runTo p l i):=by have:=Ua l (runTo p l i) (by omega) 0;simpa using this
 rw[h2,h3];have hb:=Wq l (runTo p l i);simp only[aloneF,Zd2,beq_iff_eq,Zb1,Bool.not_eq_true',Avm _ hb,Bool.or_eq_false_iff];constructor
 ·rintro(h|⟨h,h'⟩)
  ·exact .inl h
  ·exact .inr ⟨h',h⟩
 ·rintro(h|⟨h,h'⟩)
  ·exact .inl h
  ·exact .inr ⟨h',h⟩
theorem Ajn{p:Int->Bool}(hp:∀b:UInt8,p b.toNat=true->isWd b.toNat=true)(l:List UInt8)(i:Int)(h : 0<=i/\i<=l.length){α:Type}(f:List UInt8->Int->Option α)(hf:∀x j,f x j≠none->x.all (λb=>p b.toNat)=true) :
  (if aloneF l (runTo p l i) then f (cut l i (runTo p l i)) (runTo p l i) else none)=f (cut l i (runTo isWd l i)) (runTo isWd l i):=by
 by_cases ha:aloneF l (runTo p l i)=true
 ·have he:=(Asq hp l i h).1 ha;have hre:runTo p l i=runTo isWd l i:=by rw[Fs,Fs,he]
  rw[if_pos ha,hre]
 ·rw[if_neg ha];by_cases hn:f (cut l i (runTo isWd l i)) (runTo isWd l i)=none
  ·exact hn.symm
  ·exfalso;apply ha;rw[Asq hp l i h];have hall:=hf _ _ hn;rw[Qy _ _ _ h.1] at hall;have key:∀m:List UInt8,(tw isWd m).all (λb=>p b.toNat)=true->tw p m=tw isWd m:=by
    intro m;induction m with
    |nil=>simp[tw]
    |cons x m ih =>
     unfold tw at *;intro hm;cases hq:isWd x.toNat with
     |true =>simp only[List.takeWhile_cons,hq,if_true,Zv1,Zb1] at hm ⊢;rw[if_pos hm.1,ih hm.2]
     |false =>
      have:p x.toNat=false:=by cases hpx:p x.toNat with|false=>rfl|true=>rw[hp x hpx] at hq;cases hq
      simp[hq,this]
   exact key _ hall
theorem Bh2:wordsL.all (λw=>w.all λb=>isUp b.toNat)=true:=by decide +kernel
theorem word_up{x:List UInt8}(h:wordF x=true):x.all (λb=>isUp b.toNat)=true:=by have:=Zg2.1 Bh2 x (by simpa[wordF] using h);exact this
theorem Bmy(l:List UInt8):∀j:Int,0<j->okGo l j=l.all λb=>isIn b.toNat:=by
 induction l with
 |nil=>intro j _;rfl
 |cons c l ih =>
  intro j hj;have hc:=u8_range c;have key:∀n:Fin 256,(decide (clsF (n.val:Int)=2)||(decide (clsF (n.val:Int)=3)||decide (clsF (n.val:Int)=4)))=isIn (n.val:Int):=by decide +kernel
  have hk:=Ahh (p:=λc=>(decide (clsF c=2)||(decide (clsF c=3)||decide (clsF c=4)))=isIn c) key c.toNat hc;simp only[okGo,Zv1,ih (j+1) (by omega),nmOk,show decide (j=0)=false by simp;omega,Zs1,Bool.true_and,hk]
theorem Bey(c:UInt8)(l:List UInt8):okGo (c::l) 0=(isLo c.toNat&&l.all λb=>isIn b.toNat):=by
 have hc:=u8_range c;have key:∀n:Fin 256,decide (clsF (n.val:Int)=2)=isLo (n.val:Int):=by decide +kernel
 have hk:=Ahh (p:=λc=>decide (clsF c=2)=isLo c) key c.toNat hc;simp only[okGo,nmOk,decide_true,Zt1,Bool.false_and,Bool.or_false,hk];rw[Bmy l (0+1) (by omega)]
theorem tw_full{p:Int->Bool}:∀m:List UInt8,(tw p m).length=m.length↔m.all (λb=>p b.toNat)=true
 |[]=>by simp[tw]
 |x::m=>by have ih:=tw_full (p:=p) m;unfold tw at *;cases hp:p x.toNat with|true=>simp only[List.takeWhile_cons,hp,if_true,Zf1,Zv1,Bool.true_and,<-ih];omega|false=>simp[hp]
theorem Buq{c:Int}(h:isLo c=true):isIn c=true:=by simp[isIn,h]
theorem name_eq(x:List UInt8):nameF x=rnameF x:=by
 cases x with
 |nil=>rfl
 |cons c x =>
  have hrun:(runTo isIn (c::x) 0 == ((c::x).length:Int))=(c::x).all λb=>isIn b.toNat:=by rw[Bool.eq_iff_iff,<-tw_full,beq_iff_eq,Fs];simp only[Int.toNat_zero,Zq1];omega
  have hb:byt (c::x) 0=(c.toNat:Int):=rfl;simp only[nameF,rnameF,Bey,hrun,hb];rw[Bool.eq_iff_iff];simp only[Zb1,Bool.not_eq_true',Zg1,decide_eq_false_iff_not,Zv1,Zf1];constructor
  ·rintro⟨⟨⟨_,h1⟩,h2⟩,h3⟩;exact⟨⟨h2,h3.2⟩,by omega,h1⟩
  ·rintro⟨⟨h2,h3⟩,_,h1⟩;exact⟨⟨⟨by simp,h1⟩,h2⟩,Buq h2,h3⟩
theorem Bpl{x:List UInt8}(h:nameF x=true):x.all (λb=>isIn b.toNat)=true:=by simp only[nameF,Zb1,beq_iff_eq] at h;rw[<-tw_full];have:=h.2;rw[Fs] at this;simp only[Int.toNat_zero,Zq1] at this;omega
theorem Bqa{c:UInt8}(h:isDi c.toNat=true) : 48<=(c.toNat:Int)/\(c.toNat:Int)<=57:=by simpa[isDi] using h
theorem Bs5{c:UInt8}(h:isDi c.toNat=true):clsF c.toNat=3:=by
 have key:∀n:Fin 256,isDi (n.val:Int)=true->clsF (n.val:Int)=3:=by decide +kernel
 exact Ahh (p:=λc=>isDi c=true->clsF c=3) key c.toNat (u8_range c) h
theorem Bsl{c:UInt8}(h:clsF c.toNat=3):isDi c.toNat=true:=by have:=cls3 h;simp[isDi];omega
theorem Blt{c:UInt8}(h:isDi c.toNat=true){n:Int}(hn : 0<=n):(inI (n*10)/\inI (n*10+dg c.toNat))↔¬(clsF c.toNat≠3\/922337203685477580<n\/(n=922337203685477580/\7<(c.toNat:Int)-48)):=by
 have hb:=Bqa h;rw[Bqq _ (by omega),Bs5 h];unfold inI;constructor
 ·rintro⟨h1,h2⟩ (h3|h3|h3)
  ·exact h3 rfl
  ·omega
  ·omega
 ·intro h3;have h4:¬(922337203685477580<n):=λh=>h3 (.inr (.inl h));have h5:¬(n=922337203685477580/\7<(c.toNat:Int)-48):=λh=>h3 (.inr (.inr h));omega
theorem Bgw:∀(x:List UInt8) (n:Int),0<=n->x.all (λb=>isDi b.toNat)=true->rnumGo x n=numGo x n/\∀m,numGo x n=some m->0<=m
 |[],n,hn,_=>⟨rfl,λm h=>by simp only[numGo,Za1] at h;omega⟩
 |c::x,n,hn,hx=>by
  simp only[Zv1,Zb1] at hx;have hb:=Bqa hx.1;have hs:=Blt hx.1 hn;have hd:dg c.toNat=(c.toNat:Int)-48:=Bqq _ (by omega);simp only[rnumGo,numGo];by_cases hc:clsF c.toNat≠3\/922337203685477580<n\/(n=922337203685477580/\7<(c.toNat:Int)-48)
  ·rw[if_pos hc,if_neg (λh=>hs.1 h hc)];exact⟨rfl,λm h=>by cases h⟩
  ·rw[if_neg hc,if_pos (hs.2 hc),hd,show 10*n+((c.toNat:Int)-48)=n*10+((c.toNat:Int)-48) by omega];exact Bgw x _ (by omega) hx.2
theorem Ax8:∀(x:List UInt8) (n:Int),rnumGo x n≠none->x.all (λb=>isDi b.toNat)=true
 |[],_,_=>rfl
 |c::x,n,h=>by
  simp only[rnumGo] at h;split at h
  ·exact absurd rfl h
  ·rename_i hc;have h3:clsF c.toNat=3:=by
    by_cases h3:clsF c.toNat=3
    ·exact h3
    ·exact absurd (.inl h3) hc
   simp only[Zv1,Zb1];exact⟨Bsl h3,Ax8 x _ h⟩
def Ak4(x:List UInt8)(j:Int):Option (Int×List UInt8×Int×Int):=if 0<=rnumF x then some (3,x,rnumF x,j) else none
theorem A36{x:List UInt8}{j:Int}(h:Ak4 x j≠none):x.all (λb=>isDi b.toNat)=true:=by
 unfold Ak4 at h;split at h
 ·rename_i h0;unfold rnumF at h0;split at h0
  ·omega
  ·rename_i n hn;exact Ax8 x 0 (by rw[hn];simp)
 ·exact absurd rfl h
theorem Buc{x:List UInt8}(hne:x≠[]):(decide (x=[48])||byt x 0 != 48)=true↔¬(1<(x.length:Int)/\byt x 0=48):=by
 cases x with
 |nil=>exact absurd rfl hne
 |cons c x =>
  have hb:byt (c::x) 0=(c.toNat:Int):=rfl;have hc:(c.toNat:Int)=48↔c=48:=by rw[<-UInt8.toNat_inj];simp;omega
  rw[hb];simp only[Zd2,Zg1,bne_iff_ne,ne_eq,Ze2,Zf1,hc];constructor
  ·rintro(⟨_,h⟩|h) ⟨h1,h2⟩
   ·subst h;simp at h1
   ·exact h h2
  ·intro h;by_cases h2:c=48
   ·left;refine⟨h2,?_⟩;cases x with|nil=>rfl|cons d x=>exact absurd ⟨by simp;omega,h2⟩ h
   ·exact .inr h2
theorem Bsm{x:List UInt8}(hne:x≠[])(hx:x.all (λb=>isDi b.toNat)=true)(a:Bool)(j:Int) :
  (match numGo x 0 with
  |none=>none
  |some n=>if(decide (x=[48])||byt x 0 != 48)&&a then some ((3:Int),x,n,j) else none)=if a then Ak4 x j else none:=by
 obtain⟨h1,h2⟩:=Bgw x 0 (by omega) hx;unfold Ak4 rnumF;rw[h1];cases hn:numGo x 0 with
 |none=>cases a<;>simp
 |some n =>
  have hp:=h2 n hn;cases hl:(decide (x=[48])||byt x 0 != 48) with
  |true =>have:=(Buc hne).1 hl;cases a<;>simp[this,hp]
  |false =>
   have : 1<(x.length:Int)/\byt x 0=48:=by
    by_cases hh : 1<(x.length:Int)/\byt x 0=48
    ·exact hh
    ·rw[(Buc hne).2 hh] at hl;cases hl
   cases a<;>simp[this]
theorem Aiw(l:List UInt8)(i:Int)(h : 0<=i/\i<l.length):HexAt l i↔pre (l.drop i.toNat) [120,39]=true:=by
 have hdl:(l.drop i.toNat).length=l.length-i.toNat:=Za2;have hb1:=Ua l i h.1 1;unfold HexAt;rw[Qy _ _ _ h.1,Fs];generalize l.drop i.toNat=m at *;have c:isWd ((120:UInt8).toNat:Int)=true:=by decide +kernel
 have d:isWd ((39:UInt8).toNat:Int)=false:=by decide +kernel
 match m with
 |[]=>simp at hdl;omega
 |[a] =>
  simp only[List.length_singleton] at hdl;constructor
  ·rintro⟨h1,h2,_⟩;rw[h1] at h2;simp at h2;omega
  ·intro h;simp[pre] at h
 |a::b::r =>
  have hbb:byt (a::b::r) ((1:Nat):Int)=(b.toNat:Int):=rfl;constructor
  ·rintro⟨h1,h2,h3⟩;rw[h1] at h3;have hb:b=39:=by
    have:byt l (i+(([120]:List UInt8).length:Int))=(b.toNat:Int):=by rw[<-hbb,hb1];rfl
    rw[this] at h3;rw[<-UInt8.toNat_inj];simp;omega
   have ha:a=120:=by unfold tw at h1;cases hw:isWd a.toNat with|true=>simp[hw] at h1;exact h1.1|false=>simp[hw] at h1
   subst hb;subst ha;simp[pre]
  ·intro h;simp only[pre,Zb1,Zg1,Zf1,Zi1,List.take_succ_cons,List.take_zero,Ze2,and_true] at h;obtain⟨_,rfl,rfl⟩:=h;have e1:tw isWd (120::39::r)=[120]:=by unfold tw;rw[List.takeWhile_cons,if_pos c,List.takeWhile_cons,if_neg (by rw[d];simp)]
   rw[e1];refine⟨rfl,?_,?_⟩
   ·simp only[Zf1] at hdl ⊢;simp;omega
   ·have:byt l (i+(([120]:List UInt8).length:Int))=(((39:UInt8).toNat:Nat):Int):=by rw[<-hbb,hb1];rfl
    rw[this];rfl
theorem Ay6:∀m:List UInt8,Lib.indexByte m 39=if(tw (λc => !decide (c=39)) m).length=m.length then -1 else((tw (λc => !decide (c=39)) m).length:Int)
 |[]=>rfl
 |b::m=>by
  have ih:=Ay6 m;have hl:=tw_len (λc => !decide (c=39)) m;by_cases hb:b=39
  ·subst hb;rfl
  ·have hne:¬((b.toNat:Int)=39):=λh=>hb (by rw[<-UInt8.toNat_inj];simp;omega);have e1:tw (λc => !decide (c=39)) (b::m)=b::tw (λc => !decide (c=39)) m:=by unfold tw;rw[List.takeWhile_cons,if_pos (by simp[hne])]
   have e2:(b == 39)=false:=by simpa using hb
   rw[Lib.indexByte,e1,ih,e2];simp only[Zj2,if_false,Zf1];by_cases hf:(tw (λc => !decide (c=39)) m).length=m.length
   ·simp[hf]
   ·have:¬((((tw (λc => !decide (c=39)) m).length:Int) == -1)=true):=by simp
    rw[if_neg hf,if_neg this,if_neg (by omega)];omega
theorem A7i(l:List UInt8)(i:Int)(h : 0<=i/\i<l.length)(a b:UInt8):pre (l.drop i.toNat) [a,b]=true↔i+1<l.length/\cut l i (i+2)=[a,b]:=by
 unfold pre cut;have hdl:(l.drop i.toNat).length=l.length-i.toNat:=Za2;rw[show(i+2).toNat-i.toNat=2 by omega];simp only[Zb1,Zg1,Zf1,Zi1,hdl];constructor
 ·rintro⟨h1,h2⟩;exact⟨by omega,h2⟩
 ·rintro⟨h1,h2⟩;exact⟨by omega,h2⟩
theorem Anx{m:List UInt8}{a b:UInt8}(h:pre m [a,b]=true):byt m 0=a.toNat:=by simp only[pre,Zb1,Zg1,Zf1,Zi1] at h;obtain⟨_,h2⟩:=h;cases m with|nil=>cases h2|cons c m=>simp at h2;rw[<-h2.1];rfl
theorem Bgv(l:List UInt8)(i:Int)(h : 0<=i/\i<l.length):(if signF (l.drop i.toNat)=0 then none else some ((6:Int),cut l i (i+signF (l.drop i.toNat)),(0:Int),i+signF (l.drop i.toNat))) =
  if clsF (byt l i)=7 then(if twoR l i then some (6,cut l i (i+2),0,i+2) else some (6,cut l i (i+1),0,i+1)) else none:=by
 have hb0:byt (l.drop i.toNat) 0=byt l i:=by simpa using Ua l i h.1 0
 have hb:=Wq l i;have hs:=Bmd (byt l i) hb;have htwo:twoR l i↔(pre (l.drop i.toNat) [60,62]||pre (l.drop i.toNat) [60,61]||pre (l.drop i.toNat) [62,61])=true:=by
  simp only[Zd2,A7i l i h,twoR];constructor
  ·rintro⟨h1,h2|h2|h2⟩
   ·exact .inl (.inl ⟨h1,h2⟩)
   ·exact .inl (.inr ⟨h1,h2⟩)
   ·exact .inr ⟨h1,h2⟩
  ·rintro((⟨h1,h2⟩|⟨h1,h2⟩)|⟨h1,h2⟩)
   ·exact⟨h1,.inl h2⟩
   ·exact⟨h1,.inr (.inl h2)⟩
   ·exact⟨h1,.inr (.inr h2)⟩
 unfold signF;by_cases h2:twoR l i
 ·have h2':=htwo.1 h2;have hc:byt l i=60\/byt l i=62:=by
   rw[<-hb0];simp only[Zd2] at h2';rcases h2' with (h|h)|h
   ·left;rw[Anx h];rfl
   ·left;rw[Anx h];rfl
   ·right;rw[Anx h];rfl
  have hc7:clsF (byt l i)=7:=by rcases hc with h|h<;>rw[h]<;>decide +kernel
  rw[if_pos h2',if_neg (by omega),if_pos hc7,if_pos h2]
 ·have h2':¬_:=λh=>h2 (htwo.2 h);rw[if_neg h2',if_neg h2,hb0];by_cases hc7:clsF (byt l i)=7
  ·have h0 : 0<=Lib.indexByte signs (byt l i).toNat.toUInt8:=by rw[Ze1 hc7] at hs;exact of_decide_eq_true hs
   rw[if_pos h0,if_neg (by omega),if_pos hc7]
  ·have h0:¬ 0<=Lib.indexByte signs (byt l i).toNat.toUInt8:=by rw[Zd1 hc7] at hs;exact of_decide_eq_false hs
   rw[if_neg h0,if_pos rfl,if_neg hc7]
theorem up_wd(b:UInt8)(h:isUp b.toNat=true):isWd b.toNat=true:=by rw[Avm _ (u8_range b),h];rfl
theorem Bqs(b:UInt8)(h:isIn b.toNat=true):isWd b.toNat=true:=by rw[Avm _ (u8_range b),h,Bool.or_true]
theorem Btg(b:UInt8)(h:isDi b.toNat=true):isIn b.toNat=true:=by simp[isIn,h]
theorem A85{α:Type}(p q:Bool)(x : α):(if(p&&q)=true then some x else none)=if q=true then(if p=true then some x else none) else none:=by cases p<;>cases q<;>rfl
theorem Brx(l:List UInt8)(i:Int)(h : 0<=i/\i<l.length):tokF l i=tokR l i:=by
 have hb:=Wq l i;unfold tokF tokR;by_cases hx:HexAt l i
 ·have hx':=(Aiw l i h).1 hx;rw[if_pos hx,if_pos hx'];have hr1:runTo isWd l i=i+1:=by rw[Fs,<-Qy _ _ _ h.1,hx.1];rfl
  have hlt:i+1<l.length:=by have:=hx.2.1;omega
  have hdl:(l.drop (i+2).toNat).length=l.length-(i+2).toNat:=Za2;have htl:=tw_len (λc => !decide (c=39)) (l.drop (i+2).toNat);rw[hr1];simp only;rw[show i+1+1=i+2 by omega,Ay6,Fs];by_cases hf:(tw (λc => !decide (c=39)) (l.drop (i+2).toNat)).length=(l.drop (i+2).toNat).length
  ·rw[if_pos hf,if_pos (by omega),if_pos (by omega)]
  ·rw[if_neg hf,if_neg (show ¬((tw (λc => !decide (c=39)) (l.drop (i+2).toNat)).length:Int)<0 by omega),if_neg (show ¬i+2+((tw (λc => !decide (c=39)) (l.drop (i+2).toNat)).length:Int)=l.length by omega)];rw[show i+3+((tw (λc => !decide (c=39)) (l.drop (i+2).toNat)).length:Int)=i+2+((tw (λc => !decide (c=39)) (l.drop (i+2).toNat)).length:Int)+1 by omega]
 ·have hx':¬pre (l.drop i.toNat) [120,39]=true:=λhh=>hx ((Aiw l i h).2 hh);rw[if_neg hx,if_neg hx'];have cls:∀n:Fin 256,clsF (n.val:Int)=if isUp (n.val:Int) then 1 else if isLo (n.val:Int) then 2 else if isDi (n.val:Int) then 3 else if(n.val:Int)=39 then 5 else if clsF (n.val:Int)=7 then 7 else if clsF (n.val:Int)=6 then 6 else if clsF (n.val:Int)=4 then 4 else 0:=by decide +kernel
  have hcls:=Ahh (p:=λc=>clsF c=if isUp c then 1 else if isLo c then 2 else if isDi c then 3 else if c=39 then 5 else if clsF c=7 then 7 else if clsF c=6 then 6 else if clsF c=4 then 4 else 0) cls (byt l i) hb;have h' : 0<=i/\i<=l.length:=by omega
  cases hu:isUp (byt l i) with
  |true =>
   rw[hu] at hcls;have h1:clsF (byt l i)=1:=hcls;rw[if_pos rfl,if_pos h1,A85];exact Ajn up_wd l i h' (λx j=>if wordF x then some ((1:Int),x,(0:Int),j) else none) (λx j hn=>by
    by_cases hw:wordF x=true
    ·exact word_up hw
    ·simp[hw] at hn)
  |false =>
   rw[hu] at hcls;rw[if_neg (by simp)];cases hlo:isLo (byt l i) with
   |true =>
    rw[hlo] at hcls;have h1:clsF (byt l i)=2:=hcls;rw[if_pos rfl,if_neg (show ¬clsF (byt l i)=1 by omega),if_pos h1,A85];have:=Ajn Bqs l i h' (λx j=>if nameF x then some ((2:Int),x,(0:Int),j) else none) (λx j hn=>by
     by_cases hw:nameF x=true
     ·exact Bpl hw
     ·simp[hw] at hn)
    rw[this,name_eq]
   |false =>
    rw[hlo] at hcls;rw[if_neg (by simp)];cases hd:isDi (byt l i) with
    |true =>
     rw[hd] at hcls;have h1:clsF (byt l i)=3:=hcls;rw[if_pos rfl,if_neg (show ¬clsF (byt l i)=1 by omega),if_neg (show ¬clsF (byt l i)=2 by omega),if_pos h1];have hrg:=runTo_gt h hd;have hne:cut l i (runTo isDi l i)≠[]:=by have:=cut_length l i (runTo isDi l i) (by have:=runTo_range isDi l i h';omega);intro h0;rw[h0] at this;simp at this;omega
     have hall:(cut l i (runTo isDi l i)).all (λb=>isDi b.toNat)=true:=by rw[Qy _ _ _ h.1];exact Bgi _ _
     refine(Bsm hne hall _ _).trans ?_;exact Ajn (λb hb=>Bqs b (Btg b hb)) l i h' Ak4 (λx j hn=>A36 hn)
    |false =>
     rw[hd] at hcls;rw[if_neg (by simp)];by_cases hq:byt l i=39
     ·have h1:clsF (byt l i)=5:=by rw[hq];decide +kernel
      rw[if_pos hq,if_neg (show ¬clsF (byt l i)=1 by omega),if_neg (show ¬clsF (byt l i)=2 by omega),if_neg (show ¬clsF (byt l i)=3 by omega),if_pos h1];have hqi:=qGo_in _ (l.drop (i+1).toNat) [] (i+1) (Zn1 _) (by omega);simp only;generalize qGo (l.drop (i+1).toNat) [] (i+1)=q at *;unfold checkF;cases hr:rightF 4 0 q.1 with
      |true =>
       by_cases hn:q.2<0
       ·have:q.2 = -1:=by omega
        simp[this]
       ·have:¬q.2 = -1:=by omega
        simp[this,hn]
      |false=>simp
     ·have h1:¬clsF (byt l i)=1/\¬clsF (byt l i)=2/\¬clsF (byt l i)=3/\¬clsF (byt l i)=5:=by
       simp only[Zj2,if_false,if_neg hq] at hcls;split at hcls
       ·omega
       ·split at hcls
        ·omega
        ·split at hcls<;>omega
      rw[if_neg hq,if_neg h1.1,if_neg h1.2.1,if_neg h1.2.2.1,if_neg h1.2.2.2];exact Bgv l i h
theorem Aof(l:List UInt8):∀(f:Nat) (i:Int) (acc:List Tok),0<=i->allGo f l i acc=rallGo f l i acc
 |0,_,_,_=>rfl
 |f+1,i,acc,hi=>by
  simp only[allGo,rallGo];by_cases he:(l.length:Int)<=i
  ·rw[if_pos he,if_pos he]
  ·rw[if_neg he,if_neg he,Bj7 _ (Wq l i)];by_cases hb:clsF (byt l i)=6
   ·rw[if_pos (by simp[hb]),if_pos hb];exact Aof l f _ _ (by omega)
   ·rw[if_neg (by simp[hb]),if_neg hb,Brx l i (by omega)];cases ht:tokR l i with|none=>rfl|some r =>obtain⟨k,s,n,e⟩:=r;have:=tokR_end (by omega) ht;exact Aof l f _ _ (by omega)
theorem allF_eq(l:List UInt8):allF l=rallF l:=Aof l _ 0 [] (by omega)
def qS:List UInt8->List UInt8->Option (List UInt8×Nat)
 |[],_=>none
 |[c],acc=>if c=39 then some (acc,1) else none
 |c::d::r,acc=>if c=39 then(if d=39 then(qS r (acc++[39])).map λx=>(x.1,x.2+2) else some (acc,1)) else(qS (d::r) (acc++[c])).map λx=>(x.1,x.2+1)
theorem A5q:∀(f:Nat) (l acc:List UInt8) (i:Int),l.length<=f->qGo l acc i=match qS l acc with|none=>([], -1)|some (s,n)=>(s,i+(n:Int))
 |_,[],_,_,_=>rfl
 |_,[c],acc,i,_=>by by_cases hc:c=39<;>simp[qGo,qS,hc]
 |0,c::d::r,_,_,h=>by simp at h
 |f+1,c::d::r,acc,i,h=>by
  simp only[Zf1] at h;rw[qGo,qS];by_cases hc:c=39
  ·rw[if_pos hc,if_pos hc];by_cases hd:d=39
   ·rw[if_pos hd,if_pos hd,A5q f r (acc++[39]) (i+2) (by omega)];cases qS r (acc++[39]) with|none=>rfl|some x=>simp;omega
   ·rw[if_neg hd,if_neg hd];rfl
  ·rw[if_neg hc,if_neg hc,A5q f (d::r) (acc++[c]) (i+1) (by simp;omega)];cases qS (d::r) (acc++[c]) with|none=>rfl|some x=>simp;omega
theorem Q0:∀(f:Nat) (l acc s:List UInt8) (n:Nat),l.length<=f->qS l acc=some (s,n)->1<=n/\n<=l.length
 |_,[],_,_,_,_,h=>by cases h
 |_,[c],acc,s,n,_,h=>by
  by_cases hc:c=39<;>simp[qS,hc] at h
  simp[<-h.2]
 |0,c::d::r,_,_,_,h,_=>by simp at h
 |f+1,c::d::r,acc,s,n,hl,h=>by
  simp only[Zf1] at hl ⊢;rw[qS] at h;by_cases hc:c=39
  ·rw[if_pos hc] at h;by_cases hd:d=39
   ·rw[if_pos hd] at h;obtain⟨⟨s',n'⟩,hq,he⟩:=Option.map_eq_some_iff.1 h;have:=Q0 f r (acc++[39]) s' n' (by omega) hq;simp at he;omega
   ·rw[if_neg hd] at h;simp at h;omega
  ·rw[if_neg hc] at h;obtain⟨⟨s',n'⟩,hq,he⟩:=Option.map_eq_some_iff.1 h;have:=Q0 f (d::r) (acc++[c]) s' n' (by simp;omega) hq;simp at he this;omega
theorem A44:∀(f:Nat) (l acc s:List UInt8) (n:Nat) (t:List UInt8),l.length<=f->(∀c b,t=c::b->c≠39)->qS l acc=some (s,n)->qS (l++t) acc=some (s,n)
 |_,[],_,_,_,_,_,_,h=>by cases h
 |_,[c],acc,s,n,t,_,ht,h=>by
  by_cases hc:c=39<;>simp[qS,hc] at h
  cases t with|nil=>simp[qS,hc,h]|cons d t=>simp[qS,hc,ht d t rfl,h]
 |0,c::d::r,_,_,_,_,h,_,_=>by simp at h
 |f+1,c::d::r,acc,s,n,t,hl,ht,h=>by
  simp only[Zf1] at hl;simp only[Zb2];rw[qS] at h ⊢;by_cases hc:c=39
  ·rw[if_pos hc] at h ⊢;by_cases hd:d=39
   ·rw[if_pos hd] at h ⊢;obtain⟨⟨s',n'⟩,hq,he⟩:=Option.map_eq_some_iff.1 h;rw[A44 f r (acc++[39]) s' n' t (by omega) ht hq];exact congrArg some he
   ·rw[if_neg hd] at h ⊢;exact h
  ·rw[if_neg hc] at h ⊢;obtain⟨⟨s',n'⟩,hq,he⟩:=Option.map_eq_some_iff.1 h;have:=A44 f (d::r) (acc++[c]) s' n' t (by simp;omega) ht hq;simp only[Zb2] at this;rw[this];exact congrArg some he
theorem Aub:∀(f:Nat) (l acc s:List UInt8) (n j:Nat),l.length<=f->n<=j->qS l acc=some (s,n)->qS (l.take j) acc=some (s,n)
 |_,[],_,_,_,_,_,_,h=>by cases h
 |_,[c],acc,s,n,j,_,hj,h=>by have hl:=Q0 1 [c] acc s n (by simp) h;obtain⟨j,rfl⟩:∃i,j=i+1:=⟨j-1,by omega⟩;simpa using h
 |0,c::d::r,_,_,_,_,h,_,_=>by simp at h
 |f+1,c::d::r,acc,s,n,j,hl,hj,h=>by
  have hn:=Q0 (f+1) (c::d::r) acc s n hl h;simp only[Zf1] at hl;obtain⟨j,rfl⟩:∃i,j=i+1:=⟨j-1,by omega⟩;rw[qS] at h;by_cases hc:c=39
  ·rw[if_pos hc] at h;by_cases hd:d=39
   ·rw[if_pos hd] at h;obtain⟨⟨s',n'⟩,hq,he⟩:=Option.map_eq_some_iff.1 h;simp only[Zp1] at he;obtain⟨j,rfl⟩:∃i,j=i+1:=⟨j-1,by omega⟩;simp only[List.take_succ_cons];rw[qS,if_pos hc,if_pos hd,Aub f r (acc++[39]) s' n' j (by omega) (by omega) hq];simp[he]
   ·rw[if_neg hd] at h;cases j with|zero=>simp[qS,hc];simpa using h|succ j=>simp only[List.take_succ_cons];rw[qS,if_pos hc,if_neg hd];exact h
  ·rw[if_neg hc] at h;obtain⟨⟨s',n'⟩,hq,he⟩:=Option.map_eq_some_iff.1 h;simp only[Zp1] at he;have hn':=Q0 f (d::r) (acc++[c]) s' n' (by simp;omega) hq;obtain⟨j,rfl⟩:∃i,j=i+1:=⟨j-1,by omega⟩;have:=Aub f (d::r) (acc++[c]) s' n' (j+1) (by simp;omega) (by omega) hq;simp only[List.take_succ_cons] at this ⊢;rw[qS,if_neg hc,this];simp[he]
theorem tw_app{p:Int->Bool}(t:List UInt8)(ht:∀c b,t=c::b->p c.toNat=false):∀m:List UInt8,tw p (m++t)=tw p m
 |[]=>by cases t with|nil=>rfl|cons c t=>simp[tw,ht c t rfl]
 |x::m=>by have ih:=tw_app t ht m;unfold tw at *;cases hp:p x.toNat with|true=>simp[hp];exact ih|false=>simp[hp]
theorem Amg{p:Int->Bool}:∀(m:List UInt8) (j:Nat),tw p (m.take j)=(tw p m).take j
 |[],j=>by simp[tw]
 |x::m,0=>by simp[tw]
 |x::m,j+1=>by have ih:=Amg (p:=p) m j;unfold tw at *;cases hp:p x.toNat with|true=>simp[hp];exact ih|false=>simp[hp]
def nq(c:Int):Bool := !decide (c=39)
def twoS(m:List UInt8):Bool:=pre m [60,62]||pre m [60,61]||pre m [62,61]
def tokS(m:List UInt8):Option (Int×List UInt8×Int×Nat) :=
 if pre m [120,39] then
  (if(tw nq (m.drop 2)).length=(m.drop 2).length then none else
  match(if(tw nq (m.drop 2)).length % 2=0 then unGo (tw nq (m.drop 2)) [] else none) with
  |none=>none
  |some b=>if 1000<(b.length:Int) then none else some (5,b,0,(tw nq (m.drop 2)).length+3))
 else if clsF (byt m 0)=1 then(if wordF (tw isWd m) then some (1,tw isWd m,0,(tw isWd m).length) else none)
 else if clsF (byt m 0)=2 then(if rnameF (tw isWd m) then some (2,tw isWd m,0,(tw isWd m).length) else none)
 else if clsF (byt m 0)=3 then(if 0<=rnumF (tw isWd m) then some (3,tw isWd m,rnumF (tw isWd m),(tw isWd m).length) else none)
 else if clsF (byt m 0)=5 then
  match qS (m.drop 1) [] with|none=>none|some (s,n)=>if checkF 4 0 s=0 then some (4,s,0,n+1) else none
 else if clsF (byt m 0)=7 then(if twoS m then some (6,m.take 2,0,2) else some (6,m.take 1,0,1))
 else none
theorem Bi4(l:List UInt8)(i:Int)(h : 0<=i/\i<l.length):tokR l i=(tokS (l.drop i.toNat)).map λx=>(x.1,x.2.1,x.2.2.1,i+(x.2.2.2:Int)):=by
 have hb0:byt (l.drop i.toNat) 0=byt l i:=by simpa using Ua l i h.1 0
 have hdl:(l.drop i.toNat).length=l.length-i.toNat:=Za2;have hd1:(l.drop i.toNat).drop 1=l.drop (i+1).toNat:=by rw[List.drop_drop];congr 1;omega
 have hd2:(l.drop i.toNat).drop 2=l.drop (i+2).toNat:=by rw[List.drop_drop];congr 1;omega
 unfold tokR tokS;by_cases hx:HexAt l i
 ·rw[if_pos hx,if_pos ((Aiw l i h).1 hx)];have hr1:runTo isWd l i=i+1:=by rw[Fs,<-Qy _ _ _ h.1,hx.1];rfl
  have hlt:i+1<l.length:=by have:=hx.2.1;omega
  have hdl2:(l.drop (i+2).toNat).length=l.length-(i+2).toNat:=Za2;rw[hr1];simp only;rw[show i+1+1=i+2 by omega,hd2,Qy _ _ _ (by omega),Fs];change (if i+2+((tw nq (l.drop (i+2).toNat)).length:Int)=l.length then none else match(if(tw nq (l.drop (i+2).toNat)).length % 2=0 then unGo (tw nq (l.drop (i+2).toNat)) [] else none) with|none=>none|some b=>if 1000<(b.length:Int) then none else some ((5:Int),b,(0:Int),i+2+((tw nq (l.drop (i+2).toNat)).length:Int)+1))=_;generalize tw nq (l.drop (i+2).toNat)=r at *;by_cases hf:r.length=(l.drop (i+2).toNat).length
  ·rw[if_pos (show i+2+(r.length:Int)=l.length by omega),if_pos hf];rfl
  ·rw[if_neg (show ¬i+2+(r.length:Int)=l.length by omega),if_neg hf];generalize (if r.length % 2=0 then unGo r [] else none)=u;cases u with
   |none=>rfl
   |some b =>
    by_cases hbig : 1000<(b.length:Int)
    ·simp only[if_pos hbig];rfl
    ·simp only[if_neg hbig,Zl2,Za1,Zp1,true_and];omega
 ·rw[if_neg hx,if_neg (λhh=>hx ((Aiw l i h).2 hh)),hb0,Qy _ _ _ h.1,Fs];split
  ·split<;>rfl
  ·split
   ·split<;>rfl
   ·split
    ·split<;>rfl
    ·split
     ·rw[hd1,A5q _ _ _ _ (Zn1 _)];cases qS (l.drop (i+1).toNat) [] with
      |none=>rfl
      |some x =>
       obtain⟨s,n⟩:=x;by_cases hk:checkF 4 0 s=0
       ·simp only[if_pos hk];rw[if_pos ⟨by omega,hk⟩];simp;omega
       ·simp[hk]
     ·split
      ·have htwo:twoR l i↔twoS (l.drop i.toNat)=true:=by
        simp only[twoS,Zd2,A7i l i h,twoR];constructor
        ·rintro⟨h1,h2|h2|h2⟩
         ·exact .inl (.inl ⟨h1,h2⟩)
         ·exact .inl (.inr ⟨h1,h2⟩)
         ·exact .inr ⟨h1,h2⟩
        ·rintro((⟨h1,h2⟩|⟨h1,h2⟩)|⟨h1,h2⟩)
         ·exact⟨h1,.inl h2⟩
         ·exact⟨h1,.inr (.inl h2)⟩
         ·exact⟨h1,.inr (.inr h2)⟩
       have hc:∀k:Nat,cut l i (i+k)=(l.drop i.toNat).take k:=λk=>by unfold cut;congr 1;omega
       have h1:=hc 1;have h2:=hc 2;by_cases ht:twoR l i
       ·rw[if_pos ht,if_pos (htwo.1 ht)];simp only[Zl2];rw[<-h2];rfl
       ·rw[if_neg ht,if_neg (λhh=>ht (htwo.2 hh))];simp only[Zl2];rw[<-h1];rfl
      ·rfl
theorem Acl{m x:List UInt8}{j:Nat}(h:pre (m.take j) x=true):pre m x=true:=by simp only[pre,Zb1,Zg1,List.length_take,List.take_take] at h ⊢;have h2:=h.2;rw[show min x.length j=x.length by omega] at h2;exact⟨by omega,h2⟩
theorem W8{m x:List UInt8}{j:Nat}(h:pre m x=true)(hj:x.length<=j):pre (m.take j) x=true:=by simp only[pre,Zb1,Zg1,List.length_take,List.take_take] at h ⊢;refine⟨by omega,?_⟩;rw[show min x.length j=x.length by omega];exact h.2
theorem Azw{m:List UInt8}{j:Nat}(h : 1<=j):byt (m.take j) 0=byt m 0:=by unfold byt;simp[List.getD_eq_getElem?_getD,show 0<j by omega]
theorem Bca{m:List UInt8}{j:Nat}(h:twoS (m.take j)=true):twoS m=true:=by simp only[twoS,Zd2] at h ⊢;exact h.imp (Or.imp Acl Acl) Acl
theorem A2j{m:List UInt8}{j:Nat}(h:twoS m=true)(hj : 2<=j):twoS (m.take j)=true:=by simp only[twoS,Zd2] at h ⊢;exact h.imp (Or.imp (λh=>W8 h hj) (λh=>W8 h hj)) (λh=>W8 h hj)
theorem tokS_len{m:List UInt8}{k:Int}{s:List UInt8}{n:Int}{e:Nat}(h:tokS m=some (k,s,n,e)) : 1<=e/\e<=m.length:=by
 cases m with
 |nil=>exact absurd (h.symm.trans (show tokS []=none by decide +kernel)) (by simp)
 |cons c m =>
  have h0:(0:Int)<=0/\(0:Int)<((c::m).length:Int):=by simp
  have hr:=Bi4 (c::m) 0 h0;simp only[Int.toNat_zero,Zq1,h,Zl2] at hr;have:=tokR_end h0 hr;omega
theorem Bdn{m:List UInt8}{k:Int}{s:List UInt8}{n:Int}{e j:Nat}(h:tokS m=some (k,s,n,e))(hj:e<=j):tokS (m.take j)=some (k,s,n,e):=by
 have hlen:=tokS_len h;have hb:=Azw (m:=m) (j:=j) (by omega);have htw:∀p:Int->Bool,(tw p m).length<=j->tw p (m.take j)=tw p m:=λp hp=>by rw[Amg,List.take_of_length_le hp]
 unfold tokS at h ⊢;by_cases hx:pre m [120,39]=true
 ·rw[if_pos hx] at h;have e3:∀r:List UInt8,(if r.length=(m.drop 2).length then none else match(if r.length % 2=0 then unGo r [] else none) with|none=>none|some b=>if 1000<(b.length:Int) then none else some ((5:Int),b,(0:Int),r.length+3))=some (k,s,n,e)->e=r.length+3/\r.length≠(m.drop 2).length:=by
   intro r hr;split at hr
   ·cases hr
   ·rename_i hne;split at hr
    ·cases hr
    ·split at hr
     ·cases hr
     ·simp only[Za1,Zp1] at hr;exact⟨hr.2.2.2.symm,hne⟩
  obtain⟨he,hne⟩:=e3 _ h;have hdt:(m.take j).drop 2=(m.drop 2).take (j-2):=by rw[List.drop_take]
  have hq:tw nq ((m.take j).drop 2)=tw nq (m.drop 2):=by rw[hdt,Amg,List.take_of_length_le (by omega)]
  have hl:=tw_len nq (m.drop 2);rw[if_pos (W8 hx (by simp;omega)),hq];have hne':¬(tw nq (m.drop 2)).length=((m.take j).drop 2).length:=by rw[hdt,List.length_take];omega
  rw[if_neg hne'];rw[if_neg hne] at h;exact h
 ·rw[if_neg hx] at h;rw[if_neg (λhh=>hx (Acl hh)),hb];have key:∀(b:Bool) (kk vv:Int),(if b=true then some (kk,tw isWd m,vv,(tw isWd m).length) else none)=some (k,s,n,e)->tw isWd (m.take j)=tw isWd m:=by
   intro b kk vv hh;cases b
   ·cases hh
   ·simp only[if_true,Za1,Zp1] at hh;exact htw isWd (by omega)
  split
  ·rename_i h1;rw[if_pos h1] at h;rw[key _ _ _ h];exact h
  ·rename_i h1;rw[if_neg h1] at h;split
   ·rename_i h2;rw[if_pos h2] at h;rw[key _ _ _ h];exact h
   ·rename_i h2;rw[if_neg h2] at h;split
    ·rename_i h3;rw[if_pos h3] at h;have:tw isWd (m.take j)=tw isWd m:=by
      split at h
      ·simp only[Za1,Zp1] at h;exact htw isWd (by omega)
      ·cases h
     rw[this];exact h
    ·rename_i h3;rw[if_neg h3] at h;split
     ·rename_i h5;rw[if_pos h5] at h;rw[List.drop_take];cases hq:qS (m.drop 1) [] with
      |none=>rw[hq] at h;cases h
      |some x =>
       obtain⟨s',n'⟩:=x;rw[hq] at h;have hle:n'<=j-1:=by
        simp only at h;split at h
        ·simp only[Za1,Zp1] at h;omega
        ·cases h
       rw[Aub _ _ _ s' n' (j-1) (Zn1 _) hle hq];exact h
     ·rename_i h5;rw[if_neg h5] at h;split
      ·rename_i h7;rw[if_pos h7] at h;by_cases h2':twoS m=true
       ·rw[if_pos h2'] at h;have : 2<=j:=by simp only[Za1,Zp1] at h;omega
        rw[if_pos (A2j h2' this),List.take_take,show min 2 j=2 by omega];exact h
       ·rw[if_neg h2'] at h;rw[if_neg (λhh=>h2' (Bca hh)),List.take_take,show min 1 j=1 by omega];exact h
      ·rename_i h7;rw[if_neg h7] at h;exact h
theorem Azz:∀n:Fin 256,clsF (n.val:Int)=6->isWd (n.val:Int)=false/\(n.val:Int)≠39/\(n.val:Int)≠61/\(n.val:Int)≠62:=by decide +kernel
theorem A64{c:UInt8}(h:clsF c.toNat=6):isWd c.toNat=false/\c≠39/\c≠61/\c≠62:=by
 have:=Ahh (p:=λc=>clsF c=6->isWd c=false/\c≠39/\c≠61/\c≠62) Azz c.toNat (u8_range c) h;refine⟨this.1,?_,?_,?_⟩
 ·rintro rfl;exact this.2.1 rfl
 ·rintro rfl;exact this.2.2.1 rfl
 ·rintro rfl;exact this.2.2.2 rfl
theorem Au4{m:List UInt8}(hm:m≠[])(c:UInt8)(b:List UInt8){x y:UInt8}(h:c≠y):pre (m++c::b) [x,y]=pre m [x,y]:=by
 match m with
 |[]=>exact absurd rfl hm
 |[a] =>
  have:pre [a] [x,y]=false:=by simp[pre]
  rw[this];simp[pre,h]
 |a::a'::r=>simp[pre]
theorem Bfj{m:List UInt8}(hm:m≠[]){c:UInt8}(b:List UInt8)(hc:clsF c.toNat=6):twoS (m++c::b)=twoS m:=by have h:=A64 hc;simp only[twoS,Au4 hm c b h.2.2.1,Au4 hm c b h.2.2.2]
theorem Ai2{m:List UInt8}(hm:m≠[])(t:List UInt8):byt (m++t) 0=byt m 0:=by cases m with|nil=>exact absurd rfl hm|cons a m=>rfl
def Bgm(m:List UInt8):Prop:=byt m 0=39\/pre m [120,39]=true
theorem Bt5{c:Int}(h:clsF c=5):c=39:=by
 unfold clsF at h;split at h; · omega
 split at h; · omega
 split at h; · omega
 split at h; · omega
 split at h; · assumption
 split at h; · omega
 split at h<;>omega
theorem Anu{m:List UInt8}(hm:m≠[]){c:UInt8}(b:List UInt8)(hc:clsF c.toNat=6):(tokS m≠none\/¬Bgm m)->tokS (m++c::b)=tokS m:=by
 intro hor;have hbl:=A64 hc;have htw:tw isWd (m++c::b)=tw isWd m:=tw_app _ (λd t hd=>by cases hd;exact hbl.1) m;unfold tokS at hor ⊢;rw[Au4 hm c b hbl.2.1,htw,Ai2 hm,Bfj hm b hc];by_cases hx:pre m [120,39]=true
 ·rw[if_pos hx] at hor;rw[if_pos hx,if_pos hx];have h2 : 2<=m.length:=by simp only[pre,Zb1,Zg1,Zf1,Zi1] at hx;omega
  have hd:(m++c::b).drop 2=m.drop 2++c::b:=by rw[List.drop_append_of_le_length h2]
  rcases hor with hor|hor
  ·have hne:¬(tw nq (m.drop 2)).length=(m.drop 2).length:=λhh=>by rw[if_pos hh] at hor;exact hor rfl
   have hfull:∃r1 d r2,m.drop 2=r1++d::r2/\nq d.toNat=false:=by
    have hsp:∀x:List UInt8,(tw nq x).length≠x.length->∃r1 d r2,x=r1++d::r2/\nq d.toNat=false:=by
     intro x;induction x with
     |nil=>intro h;simp[tw] at h
     |cons y x ih =>
      intro hne;cases hy:nq y.toNat with
      |false=>exact⟨[],y,x,rfl,hy⟩
      |true =>
       have:(tw nq x).length≠x.length:=by unfold tw at hne ⊢;simp[hy] at hne;exact hne
       obtain⟨r1,d,r2,h1,h2⟩:=ih this;exact⟨y::r1,d,r2,by rw[h1];rfl,h2⟩
    exact hsp _ hne
   have htq:tw nq ((m++c::b).drop 2)=tw nq (m.drop 2):=by obtain⟨r1,d,r2,h1,h2'⟩:=hfull;rw[hd,h1,Zj1,Zb2];rw[tw_app (p:=nq) (d::(r2++c::b)) (λx t hx=>by cases hx;exact h2') r1,tw_app (p:=nq) (d::r2) (λx t hx=>by cases hx;exact h2') r1]
   have hl:=tw_len nq (m.drop 2);have hne':¬(tw nq (m.drop 2)).length=((m++c::b).drop 2).length:=by rw[hd,Zh1];omega
   rw[htq,if_neg hne',if_neg hne]
  ·exact absurd (.inr hx) hor
 ·rw[if_neg hx] at hor;rw[if_neg hx,if_neg hx];have ht1:(m++c::b).take 1=m.take 1:=by cases m with|nil=>exact absurd rfl hm|cons a m=>rfl
  have ht2:twoS m=true->(m++c::b).take 2=m.take 2:=λh2=>by
   have : 2<=m.length:=by simp only[twoS,Zd2,pre,Zb1,Zg1,Zf1,Zi1] at h2;omega
   rw[List.take_append_of_le_length this]
  by_cases h1:clsF (byt m 0)=1
  ·rw[if_pos h1,if_pos h1]
  ·by_cases h2:clsF (byt m 0)=2
   ·rw[if_neg h1,if_neg h1,if_pos h2,if_pos h2]
   ·by_cases h3:clsF (byt m 0)=3
    ·rw[if_neg h1,if_neg h1,if_neg h2,if_neg h2,if_pos h3,if_pos h3]
    ·rw[if_neg h1,if_neg h1,if_neg h2,if_neg h2,if_neg h3,if_neg h3];rw[if_neg h1,if_neg h2,if_neg h3] at hor;by_cases h5:clsF (byt m 0)=5
     ·rw[if_pos h5] at hor;rw[if_pos h5,if_pos h5];rcases hor with hor|hor
      ·have hd:(m++c::b).drop 1=m.drop 1++c::b:=by cases m with|nil=>exact absurd rfl hm|cons a m=>rfl
       cases hq:qS (m.drop 1) [] with|none=>rw[hq] at hor;exact absurd rfl hor|some x =>rw[hd,A44 _ _ _ x.1 x.2 (c::b) (Zn1 _) (λd t hd=>by cases hd;exact hbl.2.1) hq]
      ·exact absurd (.inl (Bt5 h5)) hor
     ·rw[if_neg h5,if_neg h5];by_cases h7:clsF (byt m 0)=7
      ·rw[if_pos h7,if_pos h7];by_cases h2':twoS m=true
       ·rw[if_pos h2',if_pos h2',ht2 h2']
       ·rw[if_neg h2',if_neg h2',ht1]
      ·rw[if_neg h7,if_neg h7]
inductive Sc:List UInt8->Int->List Tok->Prop where
 |nil {p:Int}:Sc [] p []
 |blank {c:UInt8}{r:List UInt8}{p:Int}{ts:List Tok}:clsF c.toNat=6->Sc r (p+1) ts->Sc (c::r) p ts
 |tok {m:List UInt8}{p:Int}{k:Int}{s:List UInt8}{n:Int}{e:Nat}{ts:List Tok}:clsF (byt m 0)≠6->tokS m=some (k,s,n,e)->Sc (m.drop e) (p+e) ts->Sc m p (⟨k,p,s,n⟩::ts)
inductive Er:List UInt8->Int->Int->Prop where
 |blank {c:UInt8}{r:List UInt8}{p j:Int}:clsF c.toNat=6->Er r (p+1) j->Er (c::r) p j
 |tok {m:List UInt8}{p:Int}{k:Int}{s:List UInt8}{n:Int}{e:Nat}{j:Int}:clsF (byt m 0)≠6->tokS m=some (k,s,n,e)->Er (m.drop e) (p+e) j->Er m p j
 |bad {m:List UInt8}{p:Int}:m≠[]->clsF (byt m 0)≠6->tokS m=none->Er m p p
theorem A2i(l:List UInt8):∀(f:Nat) (i:Int) (acc:List Tok),0<=i/\i<=l.length->(l.length:Int)-i<f->match rallGo f l i acc with|.ok ts=>∃us,ts=acc++us/\Sc (l.drop i.toNat) i us|.error j=>Er (l.drop i.toNat) i j
 |0,i,acc,h,hf=>by omega
 |f+1,i,acc,h,hf=>by
  simp only[rallGo];by_cases he:(l.length:Int)<=i
  ·rw[if_pos he];exact⟨[],by simp,by rw[Zk1 (by omega)];exact .nil⟩
  ·rw[if_neg he];have hb0:byt (l.drop i.toNat) 0=byt l i:=by simpa using Ua l i h.1 0
   have hcons:=Hg l i (by omega);by_cases hb:clsF (byt l i)=6
   ·rw[if_pos hb];have ih:=A2i l f (i+1) acc (by omega) (by omega);have hb':clsF ((l.getD i.toNat 0).toNat:Int)=6:=hb;cases hr:rallGo f l (i+1) acc with|ok ts =>rw[hr] at ih;obtain⟨us,h1,h2⟩:=ih;exact⟨us,h1,by rw[hcons];exact .blank hb' h2⟩|error j =>rw[hr] at ih;show Er _ _ _;rw[hcons];exact .blank hb' ih
   ·rw[if_neg hb];have hS:=Bi4 l i (by omega);cases hS':tokS (l.drop i.toNat) with
    |none =>rw[hS'] at hS;rw[hS];exact .bad (by rw[hcons];simp) (by rw[hb0];exact hb) hS'
    |some x =>
     obtain⟨k,s,n,e⟩:=x;rw[hS'] at hS;simp only[Zl2] at hS;have hlen:=tokS_len hS';have hdl:(l.drop i.toNat).length=l.length-i.toNat:=Za2;rw[hS];simp only;have ih:=A2i l f (i+(e:Int)) (acc++[⟨k,i,s,n⟩]) (by omega) (by omega);have hdd:l.drop (i+(e:Int)).toNat=(l.drop i.toNat).drop e:=by rw[List.drop_drop];congr 1;omega
     rw[hdd] at ih;cases hr:rallGo f l (i+(e:Int)) (acc++[⟨k,i,s,n⟩]) with|ok ts =>rw[hr] at ih;obtain⟨us,h1,h2⟩:=ih;exact⟨⟨k,i,s,n⟩::us,by rw[h1];simp,.tok (by rw[hb0];exact hb) hS' h2⟩|error j =>rw[hr] at ih;exact .tok (by rw[hb0];exact hb) hS' ih
theorem Aaf:tokS []=none:=by decide +kernel
theorem Sc.det{m:List UInt8}{p:Int}{ts:List Tok}(h:Sc m p ts):∀{us:List Tok},Sc m p us->ts=us:=by
 induction h with
 |nil =>intro us h;cases h with|nil=>rfl|tok _ h2 _=>rw[Aaf] at h2;cases h2
 |blank hc _ ih =>intro us h;cases h with|blank _ h2=>exact ih h2|tok h1 _ _=>exact absurd hc h1
 |tok h1 h2 _ ih =>intro us h;cases h with|nil=>rw[Aaf] at h2;cases h2|blank hc _=>exact absurd hc h1|tok _ h3 h4 =>rw[h2] at h3;cases h3;rw[ih h4]
theorem Sc.not_er{m:List UInt8}{p:Int}{ts:List Tok}(h:Sc m p ts):∀{j:Int},¬Er m p j:=by
 induction h with
 |nil =>intro j h;cases h with|tok _ h2 _=>rw[Aaf] at h2;cases h2|bad h _ _=>exact h rfl
 |blank hc _ ih =>intro j h;cases h with|blank _ h2=>exact ih h2|tok h1 _ _=>exact absurd hc h1|bad _ h1 _=>exact absurd hc h1
 |tok h1 h2 _ ih =>intro j h;cases h with|blank hc _=>exact absurd hc h1|tok _ h3 h4 =>rw[h2] at h3;cases h3;exact ih h4|bad _ _ h3=>rw[h2] at h3;cases h3
theorem Er.det{m:List UInt8}{p j:Int}(h:Er m p j):∀{i:Int},Er m p i->j=i:=by
 induction h with
 |blank hc _ ih =>intro i h;cases h with|blank _ h2=>exact ih h2|tok h1 _ _=>exact absurd hc h1|bad _ h1 _=>exact absurd hc h1
 |tok h1 h2 _ ih =>intro i h;cases h with|blank hc _=>exact absurd hc h1|tok _ h3 h4 =>rw[h2] at h3;cases h3;exact ih h4|bad _ _ h3=>rw[h2] at h3;cases h3
 |bad h0 h1 h2 =>intro i h;cases h with|blank hc _=>exact absurd hc h1|tok _ h3 _=>rw[h2] at h3;cases h3|bad _ _ _=>rfl
theorem allF_sc(l:List UInt8):match allF l with
  |.ok ts=>Sc l 0 ts
  |.error j=>Er l 0 j:=by
 rw[allF_eq,rallF];have h:=A2i l (l.length+1) 0 [] (by omega) (by omega);cases hr:rallGo (l.length+1) l 0 [] with|ok ts =>rw[hr] at h;obtain⟨us,h1,h2⟩:=h;simp only[Zf2] at h1;subst h1;simpa using h2|error j=>rw[hr] at h;simpa using h
theorem allF_of_sc{l:List UInt8}{ts:List Tok}(h:Sc l 0 ts):allF l = .ok ts:=by have h2:=allF_sc l;cases hr:allF l with|ok us=>rw[hr] at h2;rw[h.det h2]|error j=>rw[hr] at h2;exact absurd h2 h.not_er
def Brh(d:Int)(t:Tok):Tok:=⟨t.kind,t.pos+d,t.s,t.n⟩
theorem Sc.off{m:List UInt8}{p:Int}{ts:List Tok}(h:Sc m p ts)(d:Int):Sc m (p+d) (ts.map (Brh d)):=by induction h with|nil=>exact .nil|blank hc _ ih=>exact .blank hc (by rw[show ∀x:Int,x+d+1=x+1+d fromλx=>by omega];exact ih)|tok h1 h2 _ ih=>exact .tok h1 h2 (by rw[show ∀x y:Int,x+d+y=x+y+d fromλx y=>by omega];exact ih)
theorem Er.off{m:List UInt8}{p j:Int}(h:Er m p j)(d:Int):Er m (p+d) (j+d):=by induction h with|blank hc _ ih=>exact .blank hc (by rw[show ∀x:Int,x+d+1=x+1+d fromλx=>by omega];exact ih)|tok h1 h2 _ ih=>exact .tok h1 h2 (by rw[show ∀x y:Int,x+d+y=x+y+d fromλx y=>by omega];exact ih)|bad h0 h1 h2=>exact .bad h0 h1 h2
theorem Aqw{m:List UInt8}{x:Int×List UInt8×Int×Nat}(h:tokS m=some x):m≠[]:=by rintro rfl;rw[Aaf] at h;cases h
theorem Sc.app{a:List UInt8}{p:Int}{ts:List Tok}(h:Sc a p ts){c:UInt8}(hc:clsF c.toNat=6)(b:List UInt8):∀{us:List Tok},Sc b (p+a.length+1) us->Sc (a++c::b) p (ts++us):=by induction h with|nil=>intro us hb;exact .blank hc (by simpa using hb)|blank hx _ ih =>intro us hb;refine .blank hx (ih ?_);rename_i r p _ _;rw[show p+1+(r.length:Int)+1=p+((r.length+1:Nat):Int)+1 by omega];exact hb|tok h1 h2 _ ih =>intro us hb;have hm:=Aqw h2;have hl:=tokS_len h2;refine .tok (by rw[Ai2 hm];exact h1) ((Anu hm b hc (.inl (by rw[h2];simp))).trans h2) ?_;rw[List.drop_append_of_le_length hl.2];refine ih ?_;rename_i m p _ _ _ e _ _;rw[Za2,show p+(e:Int)+((m.length-e:Nat):Int)+1=p+(m.length:Int)+1 by omega];exact hb
theorem Er.app{a:List UInt8}{p j:Int}(h:Er a p j){c:UInt8}(hc:clsF c.toNat=6)(b:List UInt8):∃i:Nat,j=p+i/\i<a.length/\(Bgm (a.drop i)\/Er (a++c::b) p j):=by
 induction h with
 |blank hx _ ih =>obtain⟨i,h1,h2,h3⟩:=ih;refine⟨i+1,by omega,by simp;omega,?_⟩;exact h3.imp (λh=>h) (λh =>.blank hx h)
 |tok h1 h2 _ ih =>obtain⟨i,h3,h4,h5⟩:=ih;have hm:=Aqw h2;have hl:=tokS_len h2;rename_i m p _ _ _ e _ _;rw[Za2] at h4;refine⟨e+i,by omega,by omega,?_⟩;rw[List.drop_drop] at h5;refine h5.imp (λh=>h) (λh =>?_);refine .tok (by rw[Ai2 hm];exact h1) ((Anu hm b hc (.inl (by rw[h2];simp))).trans h2) ?_;rw[List.drop_append_of_le_length hl.2];exact h
 |bad h0 h1 h2 =>
  rename_i m p;refine⟨0,by omega,List.length_pos_iff.2 h0,?_⟩;by_cases ho:Bgm m
  ·exact .inl ho
  ·right;exact .bad (by simp) (by rw[Ai2 h0];exact h1) ((Anu h0 b hc (.inr ho)).trans h2)
theorem Sc.le{m:List UInt8}{p:Int}{ts:List Tok}(h:Sc m p ts):∀t,t∈ts->p<=t.pos:=by
 induction h with
 |nil=>intro t h;cases h
 |blank _ _ ih=>intro t h;have:=ih t h;omega
 |tok _ _ _ ih =>
  intro t h;simp only[List.mem_cons] at h;rcases h with rfl|h
  ·exact Int.le_refl _
  ·have:=ih t h;omega
theorem Sc.part{m:List UInt8}{p:Int}{ts:List Tok}(h:Sc m p ts):∀(k:Nat) (t:Tok),ts[k]? = some t->∃A:Nat,t.pos=p+A/\A<m.length/\Sc (m.take A) p (ts.take k)/\Sc (m.drop A) t.pos (ts.drop k):=by
 induction h with
 |nil=>intro k t h;simp at h
 |blank hc _ ih =>intro k t h;obtain⟨A,h1,h2,h3,h4⟩:=ih k t h;exact⟨A+1,by omega,by simp;omega,by rw[List.take_succ_cons];exact .blank hc h3,h4⟩
 |tok h1 h2 h3 ih =>intro k t h;have hl:=tokS_len h2;rename_i m p _ _ _ e _;cases k with|zero =>simp only[List.getElem?_cons_zero,Za1] at h;subst h;exact⟨0,by simp,by omega,by simp;exact .nil,by simp;exact .tok h1 h2 h3⟩|succ k =>obtain⟨A,h4,h5,h6,h7⟩:=ih k t (by simpa using h);rw[Za2] at h5;refine⟨e+A,by omega,by omega,?_,by rw[<-List.drop_drop];exact h7⟩;rw[List.take_succ_cons];refine .tok (by rw[Azw (by omega)];exact h1) (Bdn h2 (by omega)) ?_;rw[List.drop_take,show e+A-e=A by omega];exact h6
theorem Sc.next{m:List UInt8}{p:Int}{t:Tok}{ts:List Tok}(h:Sc m p (t::ts))(ht:t.pos=p):∀u,u∈ts->p<u.pos:=by cases h with|blank hc h2=>have:=h2.le t (by simp);omega|tok _ h2 h3 =>intro u hu;have:=h3.le u hu;have:=tokS_len h2;omega
end Go.Proofs.YthndhaolemgbdaaGreatDoor.Lp
namespace Go.Ax
theorem FnOk.ofIs{P:Program}{el:Ck->TypeId}{gl:Nat->Option Gv}{f:FuncId}{sa sr:List Sg}{F:FT sa sr}(he:Sx.Enters P f)(ho:Bo 0 sr=[])(h:∀x r,F x=some r->∃(us:List Value) (v:Value),(∀X vs,Reps X (Cp 0 sa x) vs->vs=us)/\Sx.Con P f us [] (λ_=>True) (Sx.Is v)/\∀X,BdL sa x->Rep X (My (Cp 0 sr r)) v):FnOk P el gl f sa sr F:=by
 refine⟨he,λx r hx w M vs hM hgl hr =>?_⟩;obtain⟨us,v,h1,h2,h3⟩:=h x r hx;obtain rfl:=h1 _ _ hr;refine(h2.calls w (λ_ _=>trivial)).mono ?_;rintro en w' ⟨u,L',F',rfl,⟨rfl,_,_⟩,_,hb⟩;refine⟨u,⟨λ_=>0,λ_=>Option.none⟩,rfl,Chg.of_below hb,λp g o hp =>?_,λp q g o o' hp =>?_,h3 _ (Abp hr)⟩
 ·rw[ho] at hp;cases hp
 ·rw[ho] at hp;cases hp
end Go.Ax
namespace Go.Proofs.YthndhaolemgbdaaGreatDoor
open Go.Ax
open Go.Sx (Con S Is Asm Bp9)
end Go.Proofs.YthndhaolemgbdaaGreatDoor
namespace Go.Proofs.YthndhaolemgbdaaGreatDoor
open Go.Ax
def Adq:Sig:=⟨20,[(0,.str),(2,.bool),(5,.int .i64),(6,.int .i64)],[],[],0,0,0,[],[]⟩
abbrev Nw:=Str×Bool×Int×Int
def Ll{R:Type}(rec:Nw->Option R)(kx:Ex->Nw->Option R)(v:Nw):Option R:=match v with
 |(v,v1,v2,v3) =>
 cond (decide (v3<v2)) (
  chk (inb v3 v.length) (
  cond (decide ((bat v v3)<32)) (
   kx .ret (v,false,v2,v3)) (
   chk (inb v3 v.length) (
   cond (decide (126<(bat v v3))) (
    kx .ret (v,false,v2,v3)) (
    rec (v,v1,v2,(wr .i64 (v3+1)))))))) (
  kx (.exit 0) (v,v1,v2,v3))
def Amt(R:Type)(k:Nat):Px R:=pxO [] [] [(2,Ao k Adq (Ll))] []
def Avu(k:Nat)(x:HV [.str]):Option (HV [.bool]):=match x with
 |s =>
 Ak (λrec=>Ll rec (λe vz=>match vz with|(_,v5,_,_)=>match e with
  |.ret =>
  some v5
  |.exit 0 =>
  some true
  |_=>none)) k (s,false,(s.length:Int),0)
theorem Axb(k:Nat):FO 169 [.str] [.bool] (Avu k):=fR (px:=Amt _ k) (n:=1) Tryz.func169 rfl (λcx H=>by have h0:Lv cx (Amt (HV [.bool]) k):=lv H Ah Ae Ab;have hlvisible_0:=lO H h0 (b:=lp Tryz.f169 0) (k:=k) (n:=0) (s:=Adq) (step:=Ll) (λ_ _ _ (_,_,_,_)=>by kernel_rfl) Aj;exact⟨h0,(Bh Aj hlvisible_0)⟩) λ_=>by kernel_rfl
def vis(b:UInt8):Bool:=decide (32<=b.toNat)&&decide (b.toNat<=126)
def Gz(s:Str):Bool:=s.all vis
def Afe:FT [.str] [.bool]:=λx=>some (Gz x)
theorem Acn{R:Type}{kx:Ex->Nw->Option R}{s:Str}{a b:Option R}(hs:ln s.length)(h1:∀r j,kx .ret (s,false,r,j)=a)(h2:∀q r j,kx (.exit 0) (s,q,r,j)=b):∀(k i:Nat) q,i<=s.length->s.length-i<k->Ak (λrec=>Ll rec kx) k (s,q,(s.length:Int),(i:Int))=cond ((s.drop i).all vis) b a
 |0,i,q,_,h=>by omega
 |k+1,i,q,hi,h=>by
  rw[Aw];by_cases hl:i<s.length
  ·have ih:=Acn hs h1 h2 k (i+1) q (by omega) (by omega);simp only[Ll,A1 hl hs,ih,h1,An hl,Cg hl,A5 hl,Zv1,chk,Aa,Bool.cond_decide];rw[if_pos (by omega)];simp only[vis];split
   ·rw[Zd1 (by omega)];rfl
   ·split
    ·rw[Ze1 (by omega),Zd1 (by omega)];rfl
    ·rw[Ze1 (by omega),Ze1 (by omega)];rfl
  ·simp only[Ll,h2,Bool.cond_decide];rw[if_neg (by omega),Zk1 (by omega)];rfl
theorem A4p:FO 169 [.str] [.bool] Afe :=.fin 0 Axb λx r hb hx=>⟨x.length+1,by simp only[Afe,Za1] at hx;have:=Acn (a:=some false) (b:=some true) hb (kx:=λe v=>match v with|(_,v5,_,_)=>match e with|.ret=>some v5|.exit 0=>some true|_=>none) (λ_ _=>rfl) (λ_ _ _=>rfl) (x.length+1) 0 false (Nat.zero_le _) (by omega);refine Eq.trans this ?_;rw[<-hx,Zq1,Gz];cases x.all vis<;>rfl⟩
def Bci(R:Type):Px R:=pxO [(169,cA Afe)] [] [] []
def S9(x:HV [.sv .val]):Option (HV [.bool]):=match x with
 |v =>
 cond (decide (v.kind=1)) (
  cond (decide (v.n=0)) (
  some (decide (v.s=[]))) (
  some false)) (
  cond (decide (v.kind=2)) (
  cond (decide (v.n=0)) (
   some (decide (v.s=[]))) (
   cond (decide (v.n=1)) (
   some (decide (v.s=[]))) (
   some false))) (
  cond (decide (v.kind=3)) (
   some (decide (v.s=[]))) (
   cond (decide (v.kind=4)) (
   cond (decide (v.n=0)) (
    cond (decide ((v.s.length:Int)<=1000)) (
    some (Gz v.s)) (
    some false)) (
    some false)) (
   cond (decide (v.kind=5)) (
    cond (decide (v.n=0)) (
    some (decide ((v.s.length:Int)<=1000))) (
    some false)) (
    some false)))))
theorem A2o:FO 147 [.sv .val] [.bool] (S9):=fR (px:=Bci _) (n:=0) Tryz.func147 rfl (λ_ H=>⟨lv H (c1 H A4p Ah) Ae Ab,Aj⟩) λ_=>by kernel_rfl
def Fy(v:Val):Bool :=
 cond (decide (v.kind=1)) (
  cond (decide (v.n=0)) (
  (decide (v.s=[]))) (
  false)) (
  cond (decide (v.kind=2)) (
  cond (decide (v.n=0)) (
   (decide (v.s=[]))) (
   cond (decide (v.n=1)) (
   (decide (v.s=[]))) (
   false))) (
  cond (decide (v.kind=3)) (
   (decide (v.s=[]))) (
   cond (decide (v.kind=4)) (
   cond (decide (v.n=0)) (
    cond (decide ((v.s.length:Int)<=1000)) (
    (Gz v.s)) (
    false)) (
    false)) (
   cond (decide (v.kind=5)) (
    cond (decide (v.n=0)) (
    (decide ((v.s.length:Int)<=1000))) (
    false)) (
    false)))))
theorem A4v(x:HV [.sv .val]):S9 x=some (Fy x):=by
 first
  |exact rfl
  |simp only[S9,Fy,Bn]
def Am3:FT [.sv .val] [.bool]:=λx=>some (Fy x)
theorem Atl:FO 147 [.sv .val] [.bool] Am3 :=.fin0 A2o λx _ _ hx=>(A4v x).trans hx
def Bai(R:Type):Px R:=pxO [(147,cA Am3)] [] [] []
def U9(x:HV [.sv .val]):Option (HV [.int .i64]):=match x with
 |v =>
 cond (!(Fy v)) (
  some 2) (
  some 0)
theorem A5n:FO 95 [.sv .val] [.int .i64] (U9):=fR (px:=Bai _) (n:=0) Tryz.func95 rfl (λ_ H=>⟨lv H (c1 H Atl Ah) Ae Ab,Aj⟩) λ_=>by kernel_rfl
def G4(v:Val):Int :=
 cond (!(Fy v)) (
  2) (
  0)
theorem A5v(x:HV [.sv .val]):U9 x=some (G4 x):=by
 first
  |exact rfl
  |simp only[U9,G4,Bn]
def Aku:FT [.sv .val] [.int .i64]:=λx=>some (G4 x)
theorem Ast:FO 95 [.sv .val] [.int .i64] Aku :=.fin0 A5n λx _ _ hx=>(A5v x).trans hx
def Bpg(R:Type):Px R:=pxO [] [] [] []
def Ae7(x:HV [.int .i64,.int .i64]):Option (HV [.int .i64,.int .i64]):=match x with
 |(a,b) =>
 cond (!decide ((decide (a<(wr .i64 (a+b))))=(decide (0<b)))) (
  some (0,20)) (
  some ((wr .i64 (a+b)),0))
theorem Bh4:FO 195 [.int .i64,.int .i64] [.int .i64,.int .i64] (Ae7):=fR (px:=Bpg _) (n:=0) Tryz.func195 rfl (λ_ H=>⟨lv H Ah Ae Ab,Aj⟩) λ(_,_)=>by kernel_rfl
def A1t(a:Int)(b:Int):Int×Int :=
 cond (!decide ((decide (a<(wr .i64 (a+b))))=(decide (0<b)))) (
  (0,20)) (
  ((wr .i64 (a+b)),0))
theorem Be2(x:HV [.int .i64,.int .i64]):Ae7 x=some (A1t x.1 x.2):=by
 first
  |exact rfl
  |simp only[Ae7,A1t,Bn]
def Be9:FT [.int .i64,.int .i64] [.int .i64,.int .i64]:=λx=>some (A1t x.1 x.2)
theorem Bos:FO 195 [.int .i64,.int .i64] [.int .i64,.int .i64] Be9 :=.fin0 Bh4 λx _ _ hx=>(Be2 x).trans hx
def Biy(R:Type):Px R:=pxO [] [] [] []
def Zh(x:HV [.int .i64]):Option (HV [.int .u64]):=match x with
 |n =>
 cond (decide (n<0)) (
  some (wr .u64 (0-(wr .u64 n)))) (
  some (wr .u64 n))
theorem Bad:FO 170 [.int .i64] [.int .u64] (Zh):=fR (px:=Biy _) (n:=0) Tryz.func170 rfl (λ_ H=>⟨lv H Ah Ae Ab,Aj⟩) λ_=>by kernel_rfl
def Ev(n:Int):Int :=
 cond (decide (n<0)) (
  (wr .u64 (0-(wr .u64 n)))) (
  (wr .u64 n))
theorem Ber(x:HV [.int .i64]):Zh x=some (Ev x):=by
 first
  |exact rfl
  |simp only[Zh,Ev,Bn]
def Av7:FT [.int .i64] [.int .u64]:=λx=>some (Ev x)
theorem Azt:FO 170 [.int .i64] [.int .u64] Av7 :=.fin0 Bad λx _ _ hx=>(Ber x).trans hx
def Bh1(R:Type):Px R:=pxO [] [] [] []
def Y4(x:HV [.int .u64,.int .u64]):Option (HV [.int .u64,.int .u64]):=match x with
 |(a,b) =>
 some ((wr .u64 ((wr .u64 ((wr .u64 ((J1 .u64 a 32)*(J1 .u64 b 32)))+(J1 .u64 (wr .u64 ((wr .u64 ((J1 .u64 a 32)*(Kv .u64 b 4294967295)))+(J1 .u64 (wr .u64 ((Kv .u64 a 4294967295)*(Kv .u64 b 4294967295))) 32))) 32)))+(J1 .u64 (wr .u64 ((Kv .u64 (wr .u64 ((wr .u64 ((J1 .u64 a 32)*(Kv .u64 b 4294967295)))+(J1 .u64 (wr .u64 ((Kv .u64 a 4294967295)*(Kv .u64 b 4294967295))) 32))) 4294967295)+(wr .u64 ((Kv .u64 a 4294967295)*(J1 .u64 b 32))))) 32))),(wr .u64 (a*b)))
theorem Bep:FO 201 [.int .u64,.int .u64] [.int .u64,.int .u64] (Y4):=fR (px:=Bh1 _) (n:=0) Tryz.func201 rfl (λ_ H=>⟨lv H Ah Ae Ab,Aj⟩) λ(_,_)=>by kernel_rfl
def Mn(a:Int)(b:Int):Int×Int :=((wr .u64 ((wr .u64 ((wr .u64 ((J1 .u64 a 32)*(J1 .u64 b 32)))+(J1 .u64 (wr .u64 ((wr .u64 ((J1 .u64 a 32)*(Kv .u64 b 4294967295)))+(J1 .u64 (wr .u64 ((Kv .u64 a 4294967295)*(Kv .u64 b 4294967295))) 32))) 32)))+(J1 .u64 (wr .u64 ((Kv .u64 (wr .u64 ((wr .u64 ((J1 .u64 a 32)*(Kv .u64 b 4294967295)))+(J1 .u64 (wr .u64 ((Kv .u64 a 4294967295)*(Kv .u64 b 4294967295))) 32))) 4294967295)+(wr .u64 ((Kv .u64 a 4294967295)*(J1 .u64 b 32))))) 32))),(wr .u64 (a*b)))
theorem Bb9(x:HV [.int .u64,.int .u64]):Y4 x=some (Mn x.1 x.2):=by
 first
  |exact rfl
  |simp only[Y4,Mn,Bn]
def A63:FT [.int .u64,.int .u64] [.int .u64,.int .u64]:=λx=>some (Mn x.1 x.2)
theorem Bge:FO 201 [.int .u64,.int .u64] [.int .u64,.int .u64] A63 :=.fin0 Bep λx _ _ hx=>(Bb9 x).trans hx
def Bnb(R:Type):Px R:=pxO [(170,cA Av7),(201,cA A63)] [] [] []
def Ad9(x:HV [.int .i64,.int .i64]):Option (HV [.int .i64,.int .i64]):=match x with
 |(a,b) =>
 let j1:=λ(p3:Bool) =>
  cond (p3) (
  some (0,20)) (
  cond (!decide ((decide (a<0))=(decide (b<0)))) (
   some ((wr .i64 (wr .u64 (0-(Mn (Ev a) (Ev b)).2))),0)) (
   some ((wr .i64 ((Mn (Ev a) (Ev b)).2)),0)))
 let j:=λ(p:Bool) =>
  cond (p) (
  j1 true) (
  cond (decide ((Mn (Ev a) (Ev b)).2=9223372036854775808)) (
   j1 (!(!decide ((decide (a<0))=(decide (b<0)))))) (
   j1 false))
 cond (decide (0<(Mn (Ev a) (Ev b)).1)) (
  j true) (
  j (decide (9223372036854775808<(Mn (Ev a) (Ev b)).2)))
theorem Bhz:FO 194 [.int .i64,.int .i64] [.int .i64,.int .i64] (Ad9):=fR (px:=Bnb _) (n:=0) Tryz.func194 rfl (λ_ H=>⟨lv H (c1 H Azt (c1 H Bge Ah)) Ae Ab,Aj⟩) λ(_,_)=>by kernel_rfl
def Ayr(a:Int)(b:Int):Int×Int :=
 let j1:=λ(p3:Bool) =>
  cond (p3) (
  (0,20)) (
  cond (!decide ((decide (a<0))=(decide (b<0)))) (
   ((wr .i64 (wr .u64 (0-(Mn (Ev a) (Ev b)).2))),0)) (
   ((wr .i64 ((Mn (Ev a) (Ev b)).2)),0)))
 let j:=λ(p:Bool) =>
  cond (p) (
  j1 true) (
  cond (decide ((Mn (Ev a) (Ev b)).2=9223372036854775808)) (
   j1 (!(!decide ((decide (a<0))=(decide (b<0)))))) (
   j1 false))
 cond (decide (0<(Mn (Ev a) (Ev b)).1)) (
  j true) (
  j (decide (9223372036854775808<(Mn (Ev a) (Ev b)).2)))
theorem Bgq(x:HV [.int .i64,.int .i64]):Ad9 x=some (Ayr x.1 x.2):=by
 first
  |exact rfl
  |simp only[Ad9,Ayr,Bn]
def Bk7:FT [.int .i64,.int .i64] [.int .i64,.int .i64]:=λx=>some (Ayr x.1 x.2)
theorem Bnw:FO 194 [.int .i64,.int .i64] [.int .i64,.int .i64] Bk7 :=.fin0 Bhz λx _ _ hx=>(Bgq x).trans hx
theorem Vd{i:Int}{n:Nat}(h : 0<=i/\i<n):inb i n=true:=by simp[inb,h]
def Bgt(R:Type):Px R:=pxO [] [] [] []
def Zr(x:HV [.int .u8]):Option (HV [.bool]):=match x with
 |c =>
 cond (decide (97<=c)) (
  some (decide (c<=122))) (
  some false)
theorem Beg:FO 109 [.int .u8] [.bool] (Zr):=fR (px:=Bgt _) (n:=0) Tryz.func109 rfl (λ_ H=>⟨lv H Ah Ae Ab,Aj⟩) λ_=>by kernel_rfl
def Acy(c:Int):Bool :=
 cond (decide (97<=c)) (
  (decide (c<=122))) (
  false)
theorem Bcr(x:HV [.int .u8]):Zr x=some (Acy x):=by
 first
  |exact rfl
  |simp only[Zr,Acy,Bn]
def Aje:FT [.int .u8] [.bool]:=λx=>some (Acy x)
theorem Alp:FO 109 [.int .u8] [.bool] Aje :=.fin0 Beg λx _ _ hx=>(Bcr x).trans hx
def Bgn(R:Type):Px R:=pxO [] [] [] []
def Aac(x:HV [.int .u8]):Option (HV [.bool]):=match x with
 |c =>
 cond (decide (48<=c)) (
  some (decide (c<=57))) (
  some false)
theorem Bco:FO 154 [.int .u8] [.bool] (Aac):=fR (px:=Bgn _) (n:=0) Tryz.func154 rfl (λ_ H=>⟨lv H Ah Ae Ab,Aj⟩) λ_=>by kernel_rfl
def Adh(c:Int):Bool :=
 cond (decide (48<=c)) (
  (decide (c<=57))) (
  false)
theorem Bd6(x:HV [.int .u8]):Aac x=some (Adh x):=by
 first
  |exact rfl
  |simp only[Aac,Adh,Bn]
def Ajl:FT [.int .u8] [.bool]:=λx=>some (Adh x)
theorem Alo:FO 154 [.int .u8] [.bool] Ajl :=.fin0 Bco λx _ _ hx=>(Bd6 x).trans hx
def Bg4(R:Type):Px R:=pxO [(109,cA Aje),(154,cA Ajl)] [] [] []
def Zx(x:HV [.int .u8]):Option (HV [.bool]):=match x with
 |c =>
 cond ((Acy c)) (
  some true) (
  cond ((Adh c)) (
  some true) (
  some (decide (c=95))))
theorem Bch:FO 111 [.int .u8] [.bool] (Zx):=fR (px:=Bg4 _) (n:=0) Tryz.func111 rfl (λ_ H=>⟨lv H (c1 H Alp (c1 H Alo Ah)) Ae Ab,Aj⟩) λ_=>by kernel_rfl
def Ah4(c:Int):Bool :=
 cond ((Acy c)) (
  true) (
  cond ((Adh c)) (
  true) (
  (decide (c=95))))
theorem Bbi(x:HV [.int .u8]):Zx x=some (Ah4 x):=by
 first
  |exact rfl
  |simp only[Zx,Ah4,Bn]
def Ai5:FT [.int .u8] [.bool]:=λx=>some (Ah4 x)
theorem Aoe:FO 111 [.int .u8] [.bool] Ai5 :=.fin0 Bch λx _ _ hx=>(Bbi x).trans hx
theorem Aj9(c:Int):Acy c=Lp.isLo c:=by simp only[Acy,Lp.isLo];cases decide (97<=c)<;>rfl
theorem Aob(c:Int):Adh c=Lp.isDi c:=by simp only[Adh,Lp.isDi];cases decide (48<=c)<;>rfl
theorem Anh(c:Int):Ah4 c=Lp.isIn c:=by simp only[Ah4,Lp.isIn,Aj9,Aob];cases Lp.isLo c<;>cases Lp.isDi c<;>rfl
def Ang:Sig:=⟨21,[(0,.str),(1,.int .i64)],[(2,.fn 111 [])],[],40,40,200,[],[]⟩
abbrev Wp:=Str×Int
def Wu{R:Type}(rec:Wp->Option R)(kx:Ex->Wp->Option R)(v:Wp):Option R:=match v with
 |(v,v1) =>
 cond (decide (v1<(v.length:Int))) (
  chk (inb v1 v.length) (
  cond ((Ah4 (bat v v1))) (
   rec (v,(wr .i64 (v1+1)))) (
   kx (.exit 0) (v,v1)))) (
  kx (.exit 0) (v,v1))
def Anl(R:Type)(k:Nat):Px R:=pxO [(111,cA Ai5)] [] [(1,Ao k Ang (Wu))] []
noncomputable def Ayo(R:Type)(k:Nat):Px R:=pxO [(109,cA Aje),(110,Av 40 200 (Anl R k) Tryz.f110)] [] [] []
def Amc(k:Nat)(x:HV [.str]):Option (HV [.bool]):=match x with
 |s =>
 let j1:=λ(p:Bool) =>
  let j:=λ(p1:Bool) =>
  cond (p1) (
   Ak (λrec=>Wu rec (λe vz=>match vz with|(_,v3)=>match e with
   |.exit 0 =>some (decide (v3=(s.length:Int)))
   |_=>none)) k (s,0)) (
   some false)
  cond (p) (
  chk (inb 0 s.length) (
   j (Acy (bat s 0)))) (
  j false)
 cond (!decide (s=[])) (
  j1 (decide ((s.length:Int)<=30))) (
  j1 false)
theorem A91(k:Nat):FO 63 [.str] [.bool] (Amc k):=fR (px:=Ayo _ k) (n:=0) Tryz.func63 rfl (λcx H=>by have h1:Lv cx (Anl (HV [.bool]) k):=lv H (c1 H Aoe Ah) Ae Ab;have hllname_0:=lO H h1 (b:=lp Tryz.f110 0) (k:=k) (n:=0) (s:=Ang) (step:=Wu) (λ_ _ _ (_,_)=>by kernel_rfl) Aj;have h0:Lv cx (Ayo (HV [.bool]) k):=lv H (c1 H Alp (As (cR H h1 Tryz.func110 rfl (n:=1) ((Bh Aj hllname_0))) Ah)) Ae Ab;exact⟨h0,Aj⟩) λ_=>by kernel_rfl
abbrev Dr(s:Str):Bool:=Lp.nameF s
def R5:FT [.str] [.bool]:=λx=>some (Dr x)
theorem Adj{R:Type}{kx:Ex->Wp->Option R}{s:Str}  {a:Int->Option R}(hs:ln s.length) (h1:∀j,kx (.exit 0) (s,j)=a j):∀(k i:Nat),i<=s.length->s.length-i<k->Ak (λrec=>Wu rec kx) k (s,(i:Int))=a (Lp.runTo Lp.isIn s i)
 |0,i,_,h=>absurd h (Zm1 _)
 |k+1,i,hi,h=>by
  rw[Aw];by_cases hl:i<s.length
  ·have ih:=Adj  hs h1 k (i+1) (by omega) (by omega);have eb:Sx.byt s (i:Int)=(s[i].toNat:Int):=Cg hl;simp only[Wu,A1 hl hs,ih,h1,Cg hl,A5 hl,Anh];rw[Ze1 (show(i:Int)<(s.length:Int) by omega)];cases hp:Lp.isIn (s[i].toNat:Int) with|true =>have:=Lp.runTo_yes (p:=Lp.isIn) (l:=s) (j:=i) (by omega) (by rw[eb];exact hp);rw[<-this];rfl|false =>have:=Lp.runTo_no (p:=Lp.isIn) (l:=s) (j:=i) (by omega) (by rw[eb];exact hp);rw[this];rfl
  ·have:=Lp.runTo_end (p:=Lp.isIn) (l:=s) (j:=i) (by omega);simp only[Wu,h1];rw[Zd1 (by omega),this];rfl
theorem Ug:FO 63 [.str] [.bool] R5 :=.fin 0 A91 λs r hb hx=>⟨s.length+1,by
 simp only[R5,Za1] at hx;rw[<-hx];simp only[Amc,Dr,Lp.nameF];by_cases he:s=[]
 ·rw[Ze1 he];rfl
 ·rw[Zd1 he];simp only[Zs1,Aa,Bool.true_and];by_cases h30:(s.length:Int)<=30
  ·have hp : 0<s.length:=List.length_pos_iff.2 he;rw[Ze1 h30,Vd (by omega),Aj9];simp only[chk,Aa,Bool.true_and];have eb:bat s 0=Sx.byt s 0:=rfl;rw[eb];cases Lp.isLo (Sx.byt s 0) with|false=>rfl|true =>simp only[Aa,Bool.true_and];exact Adj (s:=s) (a:=λj=>some (decide (j=(s.length:Int)))) hb (λ_=>rfl) (s.length+1) 0 (Nat.zero_le _) (by omega)
  ·rw[Zd1 h30];rfl⟩
theorem wru(n:Int):wr .u64 n=n % 18446744073709551616:=by simp[wr,IntKind.wrap,IntKind.bits,IntKind.signed]
theorem wri(n:Int):wr .i64 n=if 9223372036854775808<=n % 18446744073709551616 then n % 18446744073709551616-18446744073709551616 else n % 18446744073709551616:=by simp[wr,IntKind.wrap,IntKind.bits,IntKind.signed]
theorem Ko{n:Int}(h : 0<=n/\n<=18446744073709551615):wr .u64 n=n:=by rw[wru];omega
theorem Au9{a:Int}(h : 0<=a/\a<=18446744073709551615):Kv .u64 a 4294967295=a % 4294967296:=by
 obtain⟨n,rfl⟩:=Int.eq_ofNat_of_zero_le h.1;have hn:n<18446744073709551616:=by omega
 have e2:(BitVec.ofInt IntKind.u64.bits (n:Int) &&& BitVec.ofInt IntKind.u64.bits 4294967295).toNat=n % 4294967296:=by show(BitVec.ofInt 64 (n:Int) &&& BitVec.ofInt 64 ((4294967295:Nat):Int)).toNat=n % 4294967296;rw[BitVec.toNat_and,BitVec.ofInt_natCast,BitVec.ofInt_natCast,BitVec.toNat_ofNat,BitVec.toNat_ofNat];rw[Nat.mod_eq_of_lt hn,Nat.mod_eq_of_lt (by decide)];exact Nat.and_two_pow_sub_one_eq_mod n 32
 show wr .u64 _=_;simp only[e2];rw[Ko (by omega)];omega
theorem Bpu{a:Int}:J1 .u64 a 32=a / 4294967296:=by show a.fdiv (2 ^ min (32:Int).toNat IntKind.u64.bits)=_;rw[show(2:Int) ^ min (32:Int).toNat IntKind.u64.bits=4294967296 from by decide];exact Int.fdiv_eq_ediv_of_nonneg _ (by omega)
theorem Aem(a b c d:Int)(h : 0<=a/\a<=c)(h' : 0<=b/\b<=d) : 0<=a*b/\a*b<=c*d :=⟨Int.mul_nonneg h.1 h'.1,Int.mul_le_mul h.2 h'.2 h'.1 (by omega)⟩
theorem Aib(x y:Int):x*y=(x / 4294967296)*(y / 4294967296)*18446744073709551616+((x / 4294967296)*(y % 4294967296)+(x % 4294967296)*(y / 4294967296))*4294967296+(x % 4294967296)*(y % 4294967296):=by
 have hx:=Int.mul_ediv_add_emod x 4294967296;have hy:=Int.mul_ediv_add_emod y 4294967296;generalize x / 4294967296=p at *;generalize x % 4294967296=q at *;generalize y / 4294967296=r at *;generalize y % 4294967296=s at *;rw[<-hx,<-hy];simp only[Int.add_mul,Int.mul_add];have e1 : 4294967296*p*(4294967296*r)=p*r*18446744073709551616:=by rw[Int.mul_assoc,Int.mul_left_comm p,<-Int.mul_assoc];omega
 have e2 : 4294967296*p*s=p*s*4294967296:=by rw[Int.mul_assoc];omega
 have e3:q*(4294967296*r)=q*r*4294967296:=by rw[Int.mul_left_comm];omega
 omega
theorem Bpq(x y:Int)(hx : 0<=x/\x<=18446744073709551615)(hy : 0<=y/\y<=18446744073709551615):Mn x y=(x*y / 18446744073709551616,x*y % 18446744073709551616):=by have b00:=Aem (x % 4294967296) (y % 4294967296) 4294967295 4294967295 (by omega) (by omega);have b10:=Aem (x / 4294967296) (y % 4294967296) 4294967295 4294967295 (by omega) (by omega);have b01:=Aem (x % 4294967296) (y / 4294967296) 4294967295 4294967295 (by omega) (by omega);have b11:=Aem (x / 4294967296) (y / 4294967296) 4294967295 4294967295 (by omega) (by omega);have sp:=Aib x y;simp only[Mn,Bpu,Au9 hx,Au9 hy];generalize (x % 4294967296)*(y % 4294967296)=a at *;generalize (x / 4294967296)*(y % 4294967296)=b at *;generalize (x % 4294967296)*(y / 4294967296)=c at *;generalize (x / 4294967296)*(y / 4294967296)=d at *;rw[Ko (n:=a) (by omega),Ko (n:=b) (by omega),Ko (n:=d) (by omega),Ko (n:=c) (by omega)];rw[Ko (n:=b+a / 4294967296) (by omega)];rw[Au9 (by omega)];rw[Ko (n:=(b+a / 4294967296) % 4294967296+c) (by omega)];rw[Ko (n:=d+(b+a / 4294967296) / 4294967296) (by omega)];rw[Ko (n:=d+(b+a / 4294967296) / 4294967296+((b+a / 4294967296) % 4294967296+c) / 4294967296) (by omega),wru];rw[Zp1];constructor<;>omega
def Zz(n:Int):Int×Int:=if -9223372036854775808<=n/\n<=9223372036854775807 then(n,0) else(0,20)
def N5(n:Int):Int:=if n<0 then -n else n
theorem Avj{n:Int}(h:inI n):Ev n=N5 n:=by simp only[inI] at h;simp only[Ev,N5,Bool.cond_decide,wru];split<;>omega
theorem Avf{q r:Int}(h:inI q)(hr:r=q):(r,(0:Int))=Zz q:=by simp only[inI] at h;rw[hr,Zz,if_pos h]
theorem Awf{q:Int}(h:¬inI q):((0:Int),(20:Int))=Zz q:=by simp only[inI] at h;rw[Zz,if_neg h]
theorem Brc{a b:Int}(ha:inI a)(hb:inI b):A1t a b=Zz (a+b):=by
 simp only[inI] at ha hb;simp only[A1t,wri];by_cases h1 : 0<b
 ·rw[Ze1 h1];by_cases h2:a+b<=9223372036854775807
  ·have e:(a+b) % 18446744073709551616<9223372036854775808\/9223372036854775808<=(a+b) % 18446744073709551616:=by omega
   rw[<-Avf (q:=a+b) (r:=if 9223372036854775808<=(a+b) % 18446744073709551616 then(a+b) % 18446744073709551616-18446744073709551616 else(a+b) % 18446744073709551616) (by simp only[inI];omega) (by split<;>omega)];rw[Ze1 (p:=a<_) (by split<;>omega)];rfl
  ·rw[<-Awf (q:=a+b) (by simp only[inI];omega)];rw[Zd1 (p:=a<_) (by split<;>omega)];rfl
 ·rw[Zd1 h1];by_cases h2 : -9223372036854775808<=a+b
  ·rw[<-Avf (q:=a+b) (r:=if 9223372036854775808<=(a+b) % 18446744073709551616 then(a+b) % 18446744073709551616-18446744073709551616 else(a+b) % 18446744073709551616) (by simp only[inI];omega) (by split<;>omega)];rw[Zd1 (p:=a<_) (by split<;>omega)];rfl
  ·rw[<-Awf (q:=a+b) (by simp only[inI];omega)];rw[Ze1 (p:=a<_) (by split<;>omega)];rfl
theorem Bq9{a b:Int}(ha:inI a)(hb:inI b):Ayr a b=Zz (a*b):=by
 have ha':=ha;have hb':=hb;simp only[inI] at ha' hb';have hA : 0<=N5 a/\N5 a<=9223372036854775808:=by unfold N5;split<;>omega
 have hB : 0<=N5 b/\N5 b<=9223372036854775808:=by unfold N5;split<;>omega
 have hbd:=Aem _ _ _ _ hA hB;have hsg:a*b=if decide (a<0)=decide (b<0) then N5 a*N5 b else -(N5 a*N5 b):=by unfold N5;by_cases h1:a<0<;>by_cases h2:b<0<;>simp[h1,h2,Int.neg_mul,Int.mul_neg]
 simp only[Ayr,Avj ha,Avj hb,Bpq _ _ (show 0<=N5 a/\N5 a<=18446744073709551615 by omega) (show 0<=N5 b/\N5 b<=18446744073709551615 by omega)];clear ha hb ha' hb' hA hB;generalize N5 a*N5 b=p at *;generalize a*b=q at *;by_cases hs:decide (a<0)=decide (b<0)
 ·rw[if_pos hs] at hsg;rw[Ze1 hs];by_cases h1:p<9223372036854775808
  ·rw[Zd1 (show ¬ 0<p / 18446744073709551616 by omega),Zd1 (show ¬ 9223372036854775808<p % 18446744073709551616 by omega),Zd1 (show ¬p % 18446744073709551616=9223372036854775808 by omega)];refine(show _=(wr .i64 (p % 18446744073709551616),(0:Int)) from rfl).trans (Avf (by simp only[inI];omega) ?_);rw[wri];split<;>omega
  ·rw[<-Awf (q:=q) (by simp only[inI];omega)];by_cases h2 : 0<p / 18446744073709551616
   ·rw[Ze1 h2];rfl
   ·rw[Zd1 h2];by_cases h3 : 9223372036854775808<p % 18446744073709551616
    ·rw[Ze1 h3];rfl
    ·rw[Zd1 h3,Ze1 (show p % 18446744073709551616=9223372036854775808 by omega)];rfl
 ·rw[if_neg hs] at hsg;rw[Zd1 hs];by_cases h1:p<=9223372036854775808
  ·rw[Zd1 (show ¬ 0<p / 18446744073709551616 by omega),Zd1 (show ¬ 9223372036854775808<p % 18446744073709551616 by omega)];have:Zz q=(wr .i64 (wr .u64 (0-p % 18446744073709551616)),(0:Int)):=by refine(Avf (by simp only[inI];omega) ?_).symm;rw[wri,wru];split<;>omega
   rw[this];cases decide (p % 18446744073709551616=9223372036854775808)<;>rfl
  ·rw[<-Awf (q:=q) (by simp only[inI];omega)];by_cases h2 : 0<p / 18446744073709551616
   ·rw[Ze1 h2];rfl
   ·rw[Zd1 h2,Ze1 (show 9223372036854775808<p % 18446744073709551616 by omega)];rfl
theorem Bfm{m n:Nat}(h:m<=n):Dp 0 (m:Int) n=true:=by simp[Dp];omega
def Bjb(R:Type):Px R:=pxO [] [] [] []
def Ali(x:HV [.str,.str]):Option (HV [.bool]):=match x with
 |(l,m) =>
 cond (decide ((m.length:Int)<=(l.length:Int))) (
  chk (Dp 0 (m.length:Int) l.length) (
  some (decide ((l.take ((m.length:Int):Int).toNat)=m)))) (
  some false)
theorem Bd9:FO 192 [.str,.str] [.bool] (Ali):=fR (px:=Bjb _) (n:=0) Tryz.func192 rfl (λ_ H=>⟨lv H Ah Ae Ab,Aj⟩) λ(_,_)=>by kernel_rfl
def A89(l m:Str):Bool:=Lp.pre l m
def Awn:FT [.str,.str] [.bool]:=λx=>some (A89 x.1 x.2)
theorem Bf9:FO 192 [.str,.str] [.bool] Awn :=.fin0 Bd9 λ(l,m) r hb hx=>by
 simp only[Awn,Za1] at hx;subst hx;simp only[Ali,A89,Lp.pre];have e:decide ((m.length:Int)<=(l.length:Int))=decide (m.length<=l.length):=Zy1.2 (by omega);rw[e];by_cases h:m.length<=l.length
 ·rw[Ze1 h,Aa,Bfm h,Int.toNat_natCast];rfl
 ·rw[Zd1 h];rfl
def Bo2(R:Type):Px R:=pxO [(192,cA Awn)] [] [] []
def Aej(x:HV [.str,.str]):Option (HV [.bool]):=match x with
 |(l,m) =>
 some (A89 l m)
theorem Be6:FO 175 [.str,.str] [.bool] (Aej):=fR (px:=Bo2 _) (n:=0) Tryz.func175 rfl (λ_ H=>⟨lv H (c1 H Bf9 Ah) Ae Ab,Aj⟩) λ(_,_)=>by kernel_rfl
def hpre(l:Str)(m:Str):Bool :=(A89 l m)
theorem Bf0(x:HV [.str,.str]):Aej x=some (hpre x.1 x.2):=by
 first
  |exact rfl
  |simp only[Aej,hpre,Bn]
def A5s:FT [.str,.str] [.bool]:=λx=>some (hpre x.1 x.2)
theorem A7l:FO 175 [.str,.str] [.bool] A5s :=.fin0 Be6 λx _ _ hx=>(Bf0 x).trans hx
set_option maxRecDepth 20000 in
open Go.Sx in
theorem Uf(l:Str)(c:Int):Con Tryz.prog 174 [S l,.int .u8 c] [] (λ_=>True) (Is (.int .i64 (Lib.indexByte l c.toNat.toUInt8))):=by
 have run:∀w,(callFunc 191 #[S l,.int .u8 c]).run Tryz.prog w = .ok (.value (.int .i64 (Lib.indexByte l c.toNat.toUInt8))) w:=λw=>by rw[run_callFunc_extern Tryz.func191 (by kernel_rfl) rfl (by kernel_rfl) (e:=Extern.BytealgIndexByte.indexByte) (by kernel_rfl)];simp[Lib.run_indexByteString,go_sem]
 refine Asm Tryz.func174 Tryz.ntmps174 rfl (by kernel_rfl) rfl λw M =>?_
 repeat' (first|refine Btx ?_|refine Bkz ?_|refine Bti ?_|refine Bth ?_|refine Bue ?_|refine Bpj ?_|refine Bqv ?_|refine Bq1 ?_|refine Bsw ?_|refine Bu9 ?_|refine Brn ?_|refine Btv rfl ?_|refine Bmc ?_|refine Bmn ?_|refine Bns ?_|refine Bpr ?_|(apply Bl0 rfl rfl;(first|exact p_move rfl|exact p_assign rfl|exact p_lens (by dsimp only;decide +kernel) rfl|exact p_lensl (by dsimp only;decide +kernel) rfl|exact p_extract rfl rfl|exact p_pick_t rfl rfl|exact p_pick_f rfl rfl|exact p_eql rfl rfl|exact p_neq rfl rfl|exact p_lss rfl rfl|exact p_leq rfl rfl|exact p_gtr rfl rfl|exact p_geq rfl rfl|exact p_not rfl|exact p_eqls rfl rfl|exact p_neqs rfl rfl|exact Bpo rfl rfl (by omega)|exact Bn3 rfl rfl (by omega)|exact p_index (by dsimp only;decide +kernel) rfl rfl (by omega)|exact p_cut (by dsimp only;decide +kernel) rfl rfl rfl (by omega)|exact p_cutlo (by dsimp only;decide +kernel) rfl rfl (by omega)|exact p_cuthi (by dsimp only;decide +kernel) rfl rfl (by omega)|exact p_fa (fo:=0) (by dsimp only;decide +kernel) rfl|exact p_fa (fo:=1) (by dsimp only;decide +kernel) rfl|exact p_fa (fo:=2) (by dsimp only;decide +kernel) rfl|exact p_fa (fo:=3) (by dsimp only;decide +kernel) rfl|exact Bul rfl))|refine Buh rfl rfl ?_|refine A4z rfl ?_|(apply Bl0 rfl rfl (Bof rfl rfl run))|(refine Bu5 rfl rfl ?_ ?_<;>intro hc)|(refine Bt8 rfl rfl ?_ ?_<;>intro hc)|(refine Btm rfl rfl ?_ ?_<;>intro hc)|(refine Bsx rfl rfl ?_ ?_<;>intro hc)|(refine Btb rfl rfl ?_ ?_<;>intro hc)|(refine Bvi rfl rfl ?_ ?_<;>intro hc)|refine Ax5 rfl rfl ?_|refine Ayu rfl rfl ?_|refine Ax5 rfl (Ze1 (by omega)) ?_|refine Ayu rfl (Zd1 (by omega)) ?_|(refine Bnk rfl ?_ ?_<;>intro hc)|(refine Boi rfl ?_ ?_<;>intro hc)|(refine Bpx rfl ?_ ?_<;>intro hc)|(refine Bhl rfl ?_ ?_<;>intro hc)|(refine Bor rfl ?_ ?_<;>intro hc)|(refine S8 rfl ?_ ?_<;>intro hc)|refine Brp rfl rfl ?_|refine Bs3 rfl rfl rfl ?_|refine Bsi rfl rfl rfl rfl ?_)
 exact Bp9 rfl
def sib(l:Str)(c:Int):Int:=Lib.indexByte l c.toNat.toUInt8
def Bib:FT [.str,.int .u8] [.int .i64]:=λx=>some (sib x.1 x.2)
theorem Bm3(l:Str)(c:Int) : -1<=sib l c/\sib l c<l.length+1:=by have:=Lp.indexByte_in l c.toNat.toUInt8;simp only[sib];omega
theorem Br2:FO 174 [.str,.int .u8] [.int .i64] Bib:=by
 refine FnOk.ofIs (Uf [] 0).enters rfl λx r hx =>?_;obtain⟨l,c⟩:=x;simp only[Bib,Za1] at hx;subst hx;refine⟨[Sx.S l,.int .u8 c],_,λX vs h =>?_,Uf l c,λX hb =>?_⟩
 ·simp only[Cp,Df,Reps,Rep] at h;obtain⟨u,us,rfl,⟨rfl,_⟩,u2,us2,rfl,⟨rfl,_⟩,rfl⟩:=h;rfl
 ·simp only[My,Cp,Df];have h:=Bm3 l c;have hl:ln l.length:=hb.1;refine Ef (A79 ?_);simp only[IntKind.min,IntKind.max,IntKind.signed,IntKind.bits,sib,ln] at *;simp only[if_true];omega
def Bhj(R:Type):Px R:=pxO [(174,cA Bib)] [] [] []
def Zs(x:HV [.str,.int .u8]):Option (HV [.int .i64]):=match x with
 |(l,c) =>
 some (sib l c)
theorem Bac:FO 156 [.str,.int .u8] [.int .i64] (Zs):=fR (px:=Bhj _) (n:=0) Tryz.func156 rfl (λ_ H=>⟨lv H (c1 H Br2 Ah) Ae Ab,Aj⟩) λ(_,_)=>by kernel_rfl
def Nb(l:Str)(c:Int):Int :=(sib l c)
theorem Bbu(x:HV [.str,.int .u8]):Zs x=some (Nb x.1 x.2):=by
 first
  |exact rfl
  |simp only[Zs,Nb,Bn]
def Ajo:FT [.str,.int .u8] [.int .i64]:=λx=>some (Nb x.1 x.2)
theorem Ajr:FO 156 [.str,.int .u8] [.int .i64] Ajo :=.fin0 Bac λx _ _ hx=>(Bbu x).trans hx
def Bjz(R:Type):Px R:=pxO [] [] [] []
def Y2(x:HV [.int .u8]):Option (HV [.bool]):=match x with
 |c =>
 cond (decide (65<=c)) (
  some (decide (c<=90))) (
  some false)
theorem Bec:FO 177 [.int .u8] [.bool] (Y2):=fR (px:=Bjz _) (n:=0) Tryz.func177 rfl (λ_ H=>⟨lv H Ah Ae Ab,Aj⟩) λ_=>by kernel_rfl
def Aie(c:Int):Bool :=
 cond (decide (65<=c)) (
  (decide (c<=90))) (
  false)
theorem Bb0(x:HV [.int .u8]):Y2 x=some (Aie x):=by
 first
  |exact rfl
  |simp only[Y2,Aie,Bn]
def Ai8:FT [.int .u8] [.bool]:=λx=>some (Aie x)
theorem Al5:FO 177 [.int .u8] [.bool] Ai8 :=.fin0 Bec λx _ _ hx=>(Bb0 x).trans hx
theorem Alm(c:Int):Aie c=Lp.isUp c:=by simp only[Aie,Lp.isUp];cases decide (65<=c)<;>rfl
def Blv(R:Type):Px R:=pxO [(111,cA Ai5),(177,cA Ai8)] [] [] []
def Y1(x:HV [.str,.int .i64]):Option (HV [.bool]):=match x with
 |(s,i) =>
 cond (decide (i=(s.length:Int))) (
  some true) (
  chk (inb i s.length) (
  cond (!(Ah4 (bat s i))) (
   chk (inb i s.length) (
   some (!(Aie (bat s i))))) (
   some false)))
theorem Bc8:FO 179 [.str,.int .i64] [.bool] (Y1):=fR (px:=Blv _) (n:=0) Tryz.func179 rfl (λ_ H=>⟨lv H (c1 H Aoe (c1 H Al5 Ah)) Ae Ab,Aj⟩) λ(_,_)=>by kernel_rfl
def Ym(s:Str)(i:Int):Option Bool:=if 0<=i/\i<=s.length then some (Lp.aloneF s i) else none
def At7:FT [.str,.int .i64] [.bool]:=λx=>Ym x.1 x.2
theorem Bn0(a b:Int):(a == b)=decide (a=b):=rfl
theorem Bna(s:Str)(i:Int)(h : 0<=i/\i<=s.length):Y1 (s,i)=some (Lp.aloneF s i):=by
 simp only[Y1,Lp.aloneF,Anh,Alm,Bn0];by_cases he:i=s.length
 ·rw[Ze1 he];rfl
 ·rw[Zd1 he,Vd (by omega)];show cond (!Lp.isIn (bat s i)) (some (!Lp.isUp (bat s i))) (some false)=some (!Lp.isIn (bat s i) && !Lp.isUp (bat s i));cases Lp.isIn (bat s i)<;>rfl
theorem Bgz:FO 179 [.str,.int .i64] [.bool] At7 :=.fin0 Bc8 λ(s,i) r hb hx=>by
 simp only[At7,Ym] at hx;split at hx
 ·rename_i h;exact(Bna s i h).trans hx
 ·cases hx
def Agl:Sig:=⟨46,[(0,.str),(2,.int .i64),(3,.bool),(4,.int .i64),(11,.int .i64),(12,.int .i64)],[],[],0,0,0,[],[]⟩
abbrev Q4:=Str×Int×Bool×Int×Int×Int
def Oj{R:Type}(rec:Q4->Option R)(kx:Ex->Q4->Option R)(v:Q4):Option R:=match v with
 |(v,v1,v2,v3,v4,v5) =>
 cond (decide (v5<v4)) (
  chk (inb v5 v.length) (
  cond (!decide ((Ayr v3 10).2=0)) (
   kx .ret (v,0,false,v3,v4,v5)) (
   cond (!decide ((A1t ((Ayr v3 10).1) (wr .i64 (wr .u8 ((bat v v5)-48)))).2=0)) (
   kx .ret (v,0,false,v3,v4,v5)) (
   rec (v,v1,v2,(A1t ((Ayr v3 10).1) (wr .i64 (wr .u8 ((bat v v5)-48)))).1,v4,(wr .i64 (v5+1))))))) (
  kx (.exit 0) (v,v1,v2,v3,v4,v5))
def Aqm(R:Type)(k:Nat):Px R:=pxO [(194,cA Bk7),(195,cA Be9)] [] [(3,Ao k Agl (Oj))] []
def Ahs(k:Nat)(x:HV [.str]):Option (HV [.int .i64,.bool]):=match x with
 |s =>
 Ak (λrec=>Oj rec (λe vz=>match vz with|(v6,v7,v8,v9,_,_)=>match e with
  |.ret =>
  some (v7,v8)
  |.exit 0 =>
  cond (decide (v6=[48])) (
   some (v9,true)) (
   chk (inb 0 v6.length) (
   some (v9, !decide ((bat v6 0)=48))))
  |_=>none)) k (s,0,false,0,(s.length:Int),0)
theorem A28(k:Nat):FO 180 [.str] [.int .i64,.bool] (Ahs k):=fR (px:=Aqm _ k) (n:=1) Tryz.func180 rfl (λcx H=>by have h0:Lv cx (Aqm (HV [.int .i64,.bool]) k):=lv H (c1 H Bnw (c1 H Bos Ah)) Ae Ab;have hlnumber_0:=lO H h0 (b:=lp Tryz.f180 0) (k:=k) (n:=0) (s:=Agl) (step:=Oj) (λ_ _ _ (_,_,_,_,_,_)=>by kernel_rfl) Aj;exact⟨h0,(Bh Aj hlnumber_0)⟩) λ_=>by kernel_rfl
def Bll(s:Str):Int×Bool:=match Lp.numGo s 0 with|some n=>(n,decide (s=[48]) || !decide (bat s 0=48))|none=>(0,false)
def Awv(s:Str):Option (Int×Bool):=match s with|[]=>none|_=>some (Bll s)
def Anb:FT [.str] [.int .i64,.bool]:=λx=>Awv x
theorem Af4{R:Type}{kx:Ex->Q4->Option R}{s:Str}{c:Option Int->Option R}(hs:ln s.length)(h1:∀n j,kx .ret (s,0,false,n,(s.length:Int),j)=c none)(h2:∀q r n j,kx (.exit 0) (s,q,r,n,(s.length:Int),j)=c (some n)):∀(k i:Nat) (q:Int) (r:Bool) (n:Int),inI n->i<=s.length->s.length-i<k->Ak (λrec=>Oj rec kx) k (s,q,r,n,(s.length:Int),(i:Int))=c (Lp.numGo (s.drop i) n)
 |0,i,q,r,n,_,_,h=>absurd h (Zm1 _)
 |k+1,i,q,r,n,hn,hi,h=>by
  rw[Aw];by_cases hl:i<s.length
  ·have hd:=Lp.inI_dg (s[i].toNat:Int);have e10:inI (10:Int):=by simp only[inI];omega
   have em:=Bq9 hn e10;simp only[Oj,A5 hl,Cg hl,em];rw[Ze1 (show(i:Int)<(s.length:Int) by omega),An hl];simp only[Aa,chk,Lp.numGo];by_cases hm:inI (n*10)
   ·have hm':=hm;simp only[inI] at hm';have ef:Zz (n*10)=(n*10,0):=by rw[Zz,if_pos hm']
    have ea:=Brc hm (show inI (wr .i64 (wr .u8 ((s[i].toNat:Int)-48))) from hd);simp only[ef,ea];by_cases hf:inI (n*10+Lp.dg (s[i].toNat:Int))
    ·have hf':=hf;simp only[inI] at hf';have eg:Zz (n*10+wr .i64 (wr .u8 ((s[i].toNat:Int)-48)))=(n*10+Lp.dg (s[i].toNat:Int),0):=by have hf2 : -9223372036854775808<=n*10+wr .i64 (wr .u8 ((s[i].toNat:Int)-48))/\n*10+wr .i64 (wr .u8 ((s[i].toNat:Int)-48))<=9223372036854775807:=hf';rw[Zz,if_pos hf2];rfl
     rw[eg,if_pos (show Lp.inI _/\Lp.inI _ from⟨hm,hf⟩)];have ih:=Af4 hs h1 h2 k (i+1) q r (n*10+Lp.dg (s[i].toNat:Int)) hf (by omega) (by omega);rw[A1 hl hs];exact ih
    ·have hf':=hf;simp only[inI] at hf';have eg:Zz (n*10+wr .i64 (wr .u8 ((s[i].toNat:Int)-48)))=(0,20):=by have hf2:¬(-9223372036854775808<=n*10+wr .i64 (wr .u8 ((s[i].toNat:Int)-48))/\n*10+wr .i64 (wr .u8 ((s[i].toNat:Int)-48))<=9223372036854775807):=hf';rw[Zz,if_neg hf2]
     rw[eg,if_neg (λh=>hf h.2)];exact h1 _ _
   ·have hm':=hm;simp only[inI] at hm';have ef:Zz (n*10)=(0,20):=by rw[Zz,if_neg hm']
    rw[if_neg (λh=>hm h.1)];simp only[ef];exact h1 _ _
  ·simp only[Oj,h2];rw[Zd1 (by omega),Zk1 (by omega)];rfl
theorem Ben:FO 180 [.str] [.int .i64,.bool] Anb :=.fin 0 A28 λs r hb hx=>⟨s.length+1,by
 simp only[Anb] at hx;cases s with
 |nil=>cases hx
 |cons b l =>
  have hx:some (Bll (b::l))=some r:=hx;rw[<-hx];simp only[Ahs];refine(Af4 (s:=b::l) (c:=λo=>match o with|some n=>some (n,decide (b::l=[48]) || !decide (bat (b::l) 0=48))|none=>some (0,false)) hb (λ_ _=>rfl) (λ_ _ n _ =>?_) ((b::l).length+1) 0 0 false 0 (by simp[inI]) (Nat.zero_le _) (by omega)).trans ?_
  ·show cond (decide (b::l=[48])) (some (n,true)) (chk (inb 0 (b::l).length) (some (n, !decide (bat (b::l) 0=48))))=_;rw[Vd (by simp only[Zf1];omega)];cases decide (b::l=[48])<;>rfl
  ·simp only[Zq1,Bll];cases Lp.numGo (b::l) 0<;>rfl⟩
def Age:Sig:=⟨40,[(0,.str),(4,.str),(5,.int .i64),(6,.sl .byte true),(7,.int .i64)],[],[],0,0,0,[],[]⟩
abbrev P8:=Str×Str×Int×List UInt8×Int
def P3{R:Type}(rec:P8->Option R)(kx:Ex->P8->Option R)(v:P8):Option R:=match v with
 |(v,v1,v2,v3,v4) =>
 cond (decide (v4<(v.length:Int))) (
  chk (inb v4 v.length) (
  cond (decide ((bat v v4)=39)) (
   cond (decide ((wr .i64 (v4+1))=(v.length:Int))) (
   kx .ret (v,v3,(wr .i64 (v4+1)),v3,(wr .i64 (v4+1)))) (
   chk (inb (wr .i64 (v4+1)) v.length) (
    cond (!decide ((bat v (wr .i64 (v4+1)))=39)) (
    kx .ret (v,v3,(wr .i64 (v4+1)),v3,(wr .i64 (v4+1)))) (
    chk (inb (wr .i64 (v4+1)) v.length) (
     chk (decide (v3.length+1<=Al)) (
     rec (v,v1,v2,(v3++[(UInt8.ofNat ((bat v (wr .i64 (v4+1))):Int).toNat)]),(wr .i64 ((wr .i64 (v4+1))+1))))))))) (
   chk (inb v4 v.length) (
   chk (decide (v3.length+1<=Al)) (
    rec (v,v1,v2,(v3++[(UInt8.ofNat ((bat v v4):Int).toNat)]),(wr .i64 (v4+1)))))))) (
  kx (.exit 0) (v,v1,v2,v3,v4))
def Ary(R:Type)(k:Nat):Px R:=pxO [] [] [(3,Ao k Age (P3))] []
def Ag2(k:Nat)(x:HV [.str,.int .i64]):Option (HV [.str,.int .i64]):=match x with
 |(s,i) =>
 Ak (λrec=>P3 rec (λe vz=>match vz with|(_,v6,v7,_,_)=>match e with
  |.ret =>
  some (v6,v7)
  |.exit 0 =>
  some ([],(-1))
  |_=>none)) k (s,[],0,[],i)
theorem A15(k:Nat):FO 181 [.str,.int .i64] [.str,.int .i64] (Ag2 k):=fR (px:=Ary _ k) (n:=1) Tryz.func181 rfl (λcx H=>by have h0:Lv cx (Ary (HV [.str,.int .i64]) k):=lv H Ah Ae Ab;have hlquoted_0:=lO H h0 (b:=lp Tryz.f181 0) (k:=k) (n:=0) (s:=Age) (step:=P3) (λ_ _ _ (_,_,_,_,_)=>by kernel_rfl) Aj;exact⟨h0,(Bh Aj hlquoted_0)⟩) λ(_,_)=>by kernel_rfl
def Aus(s:Str)(i:Int):Option (Str×Int):=if 0<=i/\i<=s.length/\s.length<=1000000 then some (Lp.qGo (s.drop i.toNat) [] i) else none
def Aln:FT [.str,.int .i64] [.str,.int .i64]:=λx=>Aus x.1 x.2
theorem Aly(b:UInt8):UInt8.ofNat ((b.toNat:Int)).toNat=b:=by simp
theorem To{R:Type}{kx:Ex->P8->Option R}{s:Str}{c:Str×Int->Option R}(hs:s.length<=1000000)(h1:∀a j,kx .ret (s,a,j,a,j)=c (a,j))(h2:∀q r a j,kx (.exit 0) (s,q,r,a,j)=c ([], -1)):∀(k i:Nat) (q:Str) (r:Int) (a:Str),a.length<=i->i<=s.length->s.length-i<k->Ak (λrec=>P3 rec kx) k (s,q,r,a,(i:Int))=c (Lp.qGo (s.drop (i:Int).toNat) a i)
 |0,i,q,r,a,_,_,h=>absurd h (Zm1 _)
 |k+1,i,q,r,a,ha,hi,h=>by
  rw[Aw];by_cases hl:i<s.length
  ·have hln:ln s.length:=by simp only[ln];omega
   have ea:decide (a.length+1<=Al)=true:=Ze1 (by simp only[Al];omega);have eb:Sx.byt s (i:Int)=(s[i].toNat:Int):=Cg hl;simp only[P3,A5 hl,A1 hl hln,Cg hl,ea,Aly];rw[Ze1 (show(i:Int)<(s.length:Int) by omega)];simp only[Aa,chk];by_cases h39:(s[i].toNat:Int)=39
   ·rw[Ze1 h39,Aa];by_cases he:i+1=s.length
    ·rw[Ze1 (show((i+1:Nat):Int)=(s.length:Int) by omega),Aa,h1,Lp.q_last (by omega) (by omega) (eb.trans h39)];rfl
    ·have hl2:i+1<s.length:=by omega
     have eb2:Sx.byt s ((i:Int)+1)=(s[i+1].toNat:Int):=Cg hl2;rw[Zd1 (show ¬((i+1:Nat):Int)=(s.length:Int) by omega),A5 hl2,Af];simp only[Aa,Cg hl2,Aly];by_cases h3:(s[i+1].toNat:Int)=39
     ·have ih:=To hs h1 h2 k (i+1+1) q r (a++[s[i+1]]) (by simp only[Zh1,Zf1,Zi1];omega) (by omega) (by omega);have e39:s[i+1]=39:=by rw[<-UInt8.toNat_inj];exact Int.ofNat.inj h3
      rw[Ze1 h3,Lp.q_two (by omega) (by omega) (eb.trans h39) (eb2.trans h3),A1 hl2 hln];simp only[Zt1,Af];rw[ih,e39];rfl
     ·rw[Zd1 h3,Lp.q_close (by omega) (by omega) (eb.trans h39) (λe=>h3 (eb2.symm.trans e))];simp only[Zs1,Aa,h1];rfl
   ·have ih:=To hs h1 h2 k (i+1) q r (a++[s[i]]) (by simp only[Zh1,Zf1,Zi1];omega) (by omega) (by omega);rw[Zd1 h39,Af,ih,Lp.q_other (by omega) (by omega) (λe=>h39 (eb.symm.trans e))];have eg:s.getD (i:Int).toNat 0=s[i]:=by simp[List.getD_eq_getElem?_getD,hl]
    rw[eg];rfl
  ·simp only[P3,h2];rw[Zd1 (by omega),Lp.q_end (by omega)];rfl
theorem Bam:FO 181 [.str,.int .i64] [.str,.int .i64] Aln :=.fin 0 A15 λ(s,i) r hb hx=>⟨s.length+1,by
 simp only[Aln,Aus] at hx;split at hx
 ·rename_i h;rw[<-hx];obtain⟨n,rfl⟩:=Int.eq_ofNat_of_zero_le h.1;simp only[Ag2];exact To (c:=some) h.2.2 (λ_ _=>rfl) (λ_ _ _ _=>rfl) (s.length+1) n [] 0 [] (Nat.zero_le _) (by omega) (by omega)
 ·cases hx⟩
def Aju:Sig:=⟨19,[(0,.str),(2,.int .i64),(5,.sl .str true),(6,.int .i64),(7,.int .i64)],[],[],0,0,0,[],[]⟩
abbrev Ad3:=Str×Int×List Str×Int×Int
def Avx{R:Type}(rec:Ad3->Option R)(kx:Ex->Ad3->Option R)(v:Ad3):Option R:=match v with
 |(v,v1,v2,v3,v4) =>
 cond (decide (v4<v3)) (
  chk (inb v4 v2.length) (
  cond ((hpre v (at' .str v2 v4))) (
   kx .ret (v,2,v2,v3,v4)) (
   rec (v,v1,v2,v3,(wr .i64 (v4+1)))))) (
  kx (.exit 0) (v,v1,v2,v3,v4))
def A0s(R:Type)(k:Nat):Px R:=pxO [(175,cA A5s),(156,cA Ajo)] [] [(2,Ao k Aju (Avx))] []
def Aj0(k:Nat)(x:HV [.str]):Option (HV [.int .i64]):=match x with
 |s =>
 Ak (λrec=>Avx rec (λe vz=>match vz with|(v5,v6,_,_,_)=>match e with
  |.ret =>
  some v6
  |.exit 0 =>
  chk (inb 0 v5.length) (
   cond (decide (0<=(Nb [40,41,44,42,61,60,62,43,45,59] (bat v5 0)))) (
   some 1) (
   some 0))
  |_=>none)) k (s,0,[[60,62],[60,61],[62,61]],3,0)
theorem Beu(k:Nat):FO 182 [.str] [.int .i64] (Aj0 k):=fR (px:=A0s _ k) (n:=1) Tryz.func182 rfl (λcx H=>by have h0:Lv cx (A0s (HV [.int .i64]) k):=lv H (c1 H A7l (c1 H Ajr Ah)) Ae Ab;have hllsign_0:=lO H h0 (b:=lp Tryz.f182 0) (k:=k) (n:=0) (s:=Aju) (step:=Avx) (λ_ _ _ (_,_,_,_,_)=>by kernel_rfl) Aj;exact⟨h0,(Bh Aj hllsign_0)⟩) λ_=>by kernel_rfl
def Blw(s:Str):Option Int:=match s with|[]=>none|_=>some (Lp.signF s)
def Avi:FT [.str] [.int .i64]:=λx=>Blw x
theorem Bjw:FO 182 [.str] [.int .i64] Avi :=.fin 0 Beu λs r hb hx=>⟨4,by
 simp only[Avi] at hx;cases s with
 |nil=>cases hx
 |cons b l =>
  have hx:some (Lp.signF (b::l))=some r:=hx;rw[<-hx];have e0:inb 0 (b::l).length=true:=Vd (by simp only[Zf1];omega);have e1:hpre (b::l) [60,62]=Lp.pre (b::l) [60,62]:=rfl;have e2:hpre (b::l) [60,61]=Lp.pre (b::l) [60,61]:=rfl;have e3:hpre (b::l) [62,61]=Lp.pre (b::l) [62,61]:=rfl;have ei:Nb [40,41,44,42,61,60,62,43,45,59] (bat (b::l) 0)=Lib.indexByte Lp.signs (Sx.byt (b::l) 0).toNat.toUInt8:=rfl;simp only[Aj0,Lp.signF,<-ei,<-e1,<-e2,<-e3];show cond (hpre (b::l) [60,62]) (some 2) (cond (hpre (b::l) [60,61]) (some 2) (cond (hpre (b::l) [62,61]) (some 2) (chk (inb 0 (b::l).length) (cond (decide (0<=Nb [40,41,44,42,61,60,62,43,45,59] (bat (b::l) 0))) (some 1) (some 0)))))=_;generalize Nb [40,41,44,42,61,60,62,43,45,59] (bat (b::l) 0)=z;rw[e0];by_cases hz : 0<=z
  ·rw[Ze1 hz,if_pos hz];cases hpre (b::l) [60,62]<;>cases hpre (b::l) [60,61]<;>cases hpre (b::l) [62,61]<;>rfl
  ·rw[Zd1 hz,if_neg hz];cases hpre (b::l) [60,62]<;>cases hpre (b::l) [60,61]<;>cases hpre (b::l) [62,61]<;>rfl⟩
def Bbx(R:Type):Px R:=pxO [] [] [] []
def Tc(x:HV [.int .u8]):Option (HV [.int .u8,.bool]):=match x with
 |c =>
 let j:=λ(p1:Bool) =>
  cond (p1) (
  some ((wr .u8 (c-48)),true)) (
  cond (decide (97<=c)) (
   cond (decide (c<=102)) (
   some ((wr .u8 ((wr .u8 (c-97))+10)),true)) (
   some (0,false))) (
   some (0,false)))
 cond (decide (48<=c)) (
  j (decide (c<=57))) (
  j false)
theorem A4j:FO 193 [.int .u8] [.int .u8,.bool] (Tc):=fR (px:=Bbx _) (n:=0) Tryz.func193 rfl (λ_ H=>⟨lv H Ah Ae Ab,Aj⟩) λ_=>by kernel_rfl
def Q9(c:Int):Int×Bool :=
 let j:=λ(p1:Bool) =>
  cond (p1) (
  ((wr .u8 (c-48)),true)) (
  cond (decide (97<=c)) (
   cond (decide (c<=102)) (
   ((wr .u8 ((wr .u8 (c-97))+10)),true)) (
   (0,false))) (
   (0,false)))
 cond (decide (48<=c)) (
  j (decide (c<=57))) (
  j false)
theorem A3h(x:HV [.int .u8]):Tc x=some (Q9 x):=by
 first
  |exact rfl
  |simp only[Tc,Q9,Bn]
def Ayy:FT [.int .u8] [.int .u8,.bool]:=λx=>some (Q9 x)
theorem Bdc:FO 193 [.int .u8] [.int .u8,.bool] Ayy :=.fin0 A4j λx _ _ hx=>(A3h x).trans hx
def Brt(c:Int):Int×Bool:=match Lp.hexD c with|some n=>(n,true)|none=>(0,false)
theorem A1m:((List.range 256).all λn=>decide (Q9 (n:Int)=Brt (n:Int)))=true:=by kernel_rfl
theorem Bbl(b:UInt8):Q9 (b.toNat:Int)=Brt (b.toNat:Int):=by have h:=Zg2.1 A1m b.toNat (List.mem_range.2 b.toNat_lt);exact of_decide_eq_true h
def Aon:Sig:=⟨49,[(0,.str),(2,.sl .byte true),(3,.int .i64),(4,.sl .byte true),(5,.int .i64)],[],[],0,0,0,[],[]⟩
abbrev Xg:=Str×List UInt8×Int×List UInt8×Int
def Wb{R:Type}(rec:Xg->Option R)(kx:Ex->Xg->Option R)(v:Xg):Option R:=match v with
 |(v,v1,v2,v3,v4) =>
 cond (decide (v4<(v.length:Int))) (
  chk (inb v4 v.length) (
  chk (inb (wr .i64 (v4+1)) v.length) (
   cond (!((Q9 (bat v v4)).2)) (
   kx .ret (v,[],11,v3,v4)) (
   cond (!((Q9 (bat v (wr .i64 (v4+1)))).2)) (
    kx .ret (v,[],11,v3,v4)) (
    chk (decide (v3.length+1<=Al)) (
    rec (v,v1,v2,(v3++[(UInt8.ofNat ((ior .u8 (Bs4 .u8 ((Q9 (bat v v4)).1) 4) ((Q9 (bat v (wr .i64 (v4+1)))).1)):Int).toNat)]),(wr .i64 (v4+2))))))))) (
  kx (.exit 0) (v,v1,v2,v3,v4))
def Axl(R:Type)(k:Nat):Px R:=pxO [(193,cA Ayy)] [] [(5,Ao k Aon (Wb))] []
def An9(k:Nat)(x:HV [.str]):Option (HV [.sl .byte true,.int .i64]):=match x with
 |s =>
 cond (!decide ((Int.tmod (s.length:Int) 2)=0)) (
  some ([],11)) (
  Ak (λrec=>Wb rec (λe vz=>match vz with|(_,v6,v7,v8,_)=>match e with
  |.ret =>some (v6,v7)
  |.exit 0 =>some (v8,0)
  |_=>none)) k (s,[],0,[],0))
theorem Bdr(k:Nat):FO 176 [.str] [.sl .byte true,.int .i64] (An9 k):=fR (px:=Axl _ k) (n:=1) Tryz.func176 rfl (λcx H=>by have h0:Lv cx (Axl (HV [.sl .byte true,.int .i64]) k):=lv H (c1 H Bdc Ah) Ae Ab;have hlunhex_0:=lO H h0 (b:=lp Tryz.f176 0) (k:=k) (n:=0) (s:=Aon) (step:=Wb) (λ_ _ _ (_,_,_,_,_)=>by kernel_rfl) Aj;exact⟨h0,(Bh Aj hlunhex_0)⟩) λ_=>by kernel_rfl
def unP(s:Str):Str×Int:=match(if s.length % 2=0 then Lp.unGo s [] else none) with|some b=>(b,0)|none=>([],11)
def A7k(s:Str):Option (Str×Int):=if s.length<=1000000 then some (unP s) else none
def Avc:FT [.str] [.sl .byte true,.int .i64]:=λx=>A7k x
theorem Ald{R:Type}{kx:Ex->Xg->Option R}{s:Str}{c:Option Str->Option R}(hs:s.length<=1000000)(h1:∀a j,kx .ret (s,[],11,a,j)=c none)(h2:∀q r a j,kx (.exit 0) (s,q,r,a,j)=c (some a)):∀(k i:Nat) (q:Str) (r:Int) (a:Str),a.length<=i->i<=s.length->(s.length-i) % 2=0->s.length-i<k->Ak (λrec=>Wb rec kx) k (s,q,r,a,(i:Int))=c (Lp.unGo (s.drop (i:Int).toNat) a)
 |0,i,q,r,a,_,_,_,h=>absurd h (Zm1 _)
 |k+1,i,q,r,a,ha,hi,hev,h=>by
  rw[Aw];by_cases hl:i<s.length
  ·have hl2:i+1<s.length:=by omega
   have hln:ln s.length:=by simp only[ln];omega
   have ea:decide (a.length+1<=Al)=true:=Ze1 (by simp only[Al];omega);have eb:Sx.byt s (i:Int)=(s[i].toNat:Int):=Cg hl;have eb2:Sx.byt s ((i:Int)+1)=(s[i+1].toNat:Int):=Cg hl2;have ew:wr .i64 ((i:Int)+2)=((i+1+1:Nat):Int):=by rw[C3 (by simp only[inI];omega)];omega
   simp only[Wb,A5 hl,A1 hl hln,Cg hl,Cg hl2,A5 hl2,ea,ew,Bbl];rw[Ze1 (show(i:Int)<(s.length:Int) by omega),Lp.un_step (by omega) (by omega),eb,eb2];simp only[Aa,chk,Brt];cases hx:Lp.hexD (s[i].toNat:Int) with
   |none=>exact h1 _ _
   |some x =>cases hy:Lp.hexD (s[i+1].toNat:Int) with|none=>exact h1 _ _|some y =>have ih:=Ald hs h1 h2 k (i+1+1) q r (a++[UInt8.ofNat (x*16+y).toNat]) (by simp only[Zh1,Zf1,Zi1];omega) (by omega) (by omega) (by omega);have ej:ior .u8 (Bs4 .u8 x 4) y=_:=Lp.joinhex' (Lp.hexD_lt hx) (Lp.hexD_lt hy);simp only[Zt1,Af,ej,Aly];exact ih
  ·simp only[Wb,h2];rw[Zd1 (by omega),Zk1 (by omega)];rfl
theorem Bj5:FO 176 [.str] [.sl .byte true,.int .i64] Avc :=.fin 0 Bdr λs r hb hx=>⟨s.length+1,by
 simp only[Avc,A7k] at hx;split at hx
 ·rename_i h;rw[<-hx];have et:Int.tmod (s.length:Int) 2=((s.length % 2:Nat):Int):=rfl;simp only[An9,et,unP];by_cases h2:s.length % 2=0
  ·rw[Ze1 (show((s.length % 2:Nat):Int)=0 by omega),if_pos h2,Zt1,Af];refine(Ald (c:=λo=>match o with|some b=>some (b,(0:Int))|none=>some ([],11)) h (λ_ _ =>?_) (λ_ _ _ _ =>?_) (s.length+1) 0 [] 0 [] (Nat.zero_le _) (Nat.zero_le _) h2 (by omega)).trans ?_
   ·rfl
   ·rfl
   simp only[Int.toNat_natCast,Zq1];cases Lp.unGo s []<;>rfl
  ·rw[Zd1 (show ¬((s.length % 2:Nat):Int)=0 by omega),if_neg h2];rfl
 ·cases hx⟩
def Att:Sig:=⟨19,[(0,.sl .str false),(1,.str),(4,.int .i64),(7,.int .i64),(8,.int .i64)],[],[],0,0,0,[],[]⟩
abbrev Abj:=List Str×Str×Int×Int×Int
def Afo{R:Type}(rec:Abj->Option R)(kx:Ex->Abj->Option R)(v:Abj):Option R:=match v with
 |(v,v1,v2,v3,v4) =>
 cond (decide (v4<v3)) (
  chk (inb v4 v.length) (
  cond (decide (v1=(at' .str v v4))) (
   kx .ret (v,v1,v4,v3,v4)) (
   rec (v,v1,v2,v3,(wr .i64 (v4+1)))))) (
  kx (.exit 0) (v,v1,v2,v3,v4))
def A7v(R:Type)(k:Nat):Px R:=pxO [] [] [(2,Ao k Att (Afo))] []
def Ap3(k:Nat)(x:HV [.sl .str false,.str]):Option (HV [.int .i64]):=match x with
 |(l,s) =>
 Ak (λrec=>Afo rec (λe vz=>match vz with|(_,_,v7,_,_)=>match e with
  |.ret =>
  some v7
  |.exit 0 =>
  some (-1)
  |_=>none)) k (l,s,0,(l.length:Int),0)
theorem Bhf(k:Nat):FO 100 [.sl .str false,.str] [.int .i64] (Ap3 k):=fR (px:=A7v _ k) (n:=1) Tryz.func100 rfl (λcx H=>by have h0:Lv cx (A7v (HV [.int .i64]) k):=lv H Ah Ae Ab;have hlsidx_0:=lO H h0 (b:=lp Tryz.f100 0) (k:=k) (n:=0) (s:=Att) (step:=Afo) (λ_ _ _ (_,_,_,_,_)=>by kernel_rfl) Aj;exact⟨h0,(Bh Aj hlsidx_0)⟩) λ(_,_)=>by kernel_rfl
def Bq7(l:List Str)(s:Str):Int:=Lp.idx s l 0
def A4c:FT [.sl .str false,.str] [.int .i64]:=λx=>some (Bq7 x.1 x.2)
theorem Ark{R:Type}{kx:Ex->Abj->Option R}{l:List Str}{s:Str}{c:Int->Option R}(hl:ln l.length)(h1:∀(r:Int) (i:Int),kx .ret (l,s,r,(l.length:Int),i)=c r)(h2:∀q:Int,kx (.exit 0) (l,s,q,(l.length:Int),(l.length:Int))=c (-1)) :
  ∀(k i:Nat) (q:Int),i<=l.length->l.length-i<k->Ak (λrec=>Afo rec kx) k (l,s,q,(l.length:Int),(i:Int))=c (Lp.idx s (l.drop i) i)
 |0,i,_,_,h=>absurd h (Zm1 _)
 |k+1,i,q,hi,h=>by
  rw[Aw];by_cases hlt:i<l.length
  ·have ih:=Ark hl h1 h2 k (i+1) q (by omega) (by omega);have e1:decide ((i:Int)<(l.length:Int))=true:=Ze1 (by omega);have en:((i+1:Nat):Int)=(i:Int)+1:=by omega
   simp only[Afo,e1,Aa,A5 hlt,chk,A8 (c :=.str) hlt,A1 hlt hl,ih,h1];rw[An hlt,Lp.idx,en];by_cases hx:s=l[i]
   ·rw[Ze1 hx,if_pos hx,Aa]
   ·rw[Zd1 hx,if_neg hx,Af]
  ·have hi:i=l.length:=by omega
   subst hi;simp only[Afo,Zd1 (show ¬((l.length:Nat):Int)<(l.length:Int) by omega),Af,h2,Zc2,Lp.idx]
theorem Boq:FO 100 [.sl .str false,.str] [.int .i64] A4c :=.fin 0 Bhf λ(l,s) r hb hx=>⟨l.length+1,by simp only[A4c,Za1] at hx;rw[<-hx];simp only[Ap3];exact Ark (c:=λq=>some q) hb.1.1 (λ_ _=>rfl) (λ_=>rfl) (l.length+1) 0 0 (Nat.zero_le _) (by omega)⟩
def Bo9(R:Type):Px R:=pxO [(100,cA A4c)] [] [] []
def Ad5(x:HV [.sl .str false,.str]):Option (HV [.bool]):=match x with
 |(l,s) =>
 some (decide (0<=(Bq7 l s)))
theorem Bjf:FO 44 [.sl .str false,.str] [.bool] (Ad5):=fR (px:=Bo9 _) (n:=0) Tryz.func44 rfl (λ_ H=>⟨lv H (c1 H Boq Ah) Ae Ab,Aj⟩) λ(_,_)=>by kernel_rfl
def Axn(l:List Str)(s:Str):Bool :=(decide (0<=(Bq7 l s)))
theorem Bi6(x:HV [.sl .str false,.str]):Ad5 x=some (Axn x.1 x.2):=by
 first
  |exact rfl
  |simp only[Ad5,Axn,Bn]
def A3a:FT [.sl .str false,.str] [.bool]:=λx=>some (Axn x.1 x.2)
theorem A51:FO 44 [.sl .str false,.str] [.bool] A3a :=.fin0 Bjf λx _ _ hx=>(Bi6 x).trans hx
theorem A87(l:List Str)(s:Str):Axn l s=l.contains s:=by have e:Axn l s=decide (0<=Lp.idx s l 0):=rfl;rw[e,Bool.eq_iff_iff,Zg1,Lp.idx_ge s l 0 (Int.le_refl 0)];simp
def Bfy(R:Type):Px R:=pxO [(44,cA A3a)] [] [] []
def Zn(x:HV [.str]):Option (HV [.bool]):=match x with
 |s =>
 some (Axn wordsL s)
theorem Bdy:FO 178 [.str] [.bool] (Zn):=fR (px:=Bfy _) (n:=0) Tryz.func178 rfl (λ_ H=>⟨lv H (c1 H A51 Ah) Ae Ab,Aj⟩) λ_=>by kernel_rfl
def Adk(s:Str):Bool :=(Axn wordsL s)
theorem Bbz(x:HV [.str]):Zn x=some (Adk x):=by
 first
  |exact rfl
  |simp only[Zn,Adk,Bn]
def A6v:FT [.str] [.bool]:=λx=>some (Adk x)
theorem Bi8:FO 178 [.str] [.bool] A6v :=.fin0 Bdy λx _ _ hx=>(Bbz x).trans hx
theorem Ana(s:Str):Adk s=Lp.wordF s:=A87 wordsL s
def T8:Sig:=⟨21,[(0,.str),(1,.int .i64)],[(2,.fn 154 [])],[(0,.one (.sv .tok)),(1,.one (.sv .tok))],40,40,200,[],[]⟩
abbrev H2:=Str×Int×Tok×Tok
def Mr{R:Type}(rec:H2->Option R)(kx:Ex->H2->Option R)(v:H2):Option R:=match v with
 |(a,b,w4,w5) =>
 cond (decide (b<(a.length:Int))) (
  chk (inb b a.length) (
  cond ((Adh (bat a b))) (
   rec (a,(wr .i64 (b+1)),w4,w5)) (
   kx (.exit 0) (a,b,w4,w5)))) (
  kx (.exit 0) (a,b,w4,w5))
def Vh:Sig:=⟨21,[(0,.str),(1,.int .i64)],[(2,.fn 111 [])],[(0,.one (.sv .tok)),(1,.one (.sv .tok))],40,40,200,[],[]⟩
abbrev Hi:=Str×Int×Tok×Tok
def L2{R:Type}(rec:Hi->Option R)(kx:Ex->Hi->Option R)(v:Hi):Option R:=match v with
 |(v6,v7,w2,w3) =>
 cond (decide (v7<(v6.length:Int))) (
  chk (inb v7 v6.length) (
  cond ((Ah4 (bat v6 v7))) (
   rec (v6,(wr .i64 (v7+1)),w2,w3)) (
   kx (.exit 0) (v6,v7,w2,w3)))) (
  kx (.exit 0) (v6,v7,w2,w3))
def Ul:Sig:=⟨21,[(0,.str),(1,.int .i64)],[(2,.fn 177 [])],[(0,.one (.sv .tok)),(1,.one (.sv .tok))],40,40,200,[],[]⟩
abbrev H1:=Str×Int×Tok×Tok
def L0{R:Type}(rec:H1->Option R)(kx:Ex->H1->Option R)(v:H1):Option R:=match v with
 |(v,v1,w,w1) =>
 cond (decide (v1<(v.length:Int))) (
  chk (inb v1 v.length) (
  cond ((Aie (bat v v1))) (
   rec (v,(wr .i64 (v1+1)),w,w1)) (
   kx (.exit 0) (v,v1,w,w1)))) (
  kx (.exit 0) (v,v1,w,w1))
def Ic(R:Type)(k:Nat):Px R:=pxO [(177,cA Ai8),(111,cA Ai5),(154,cA Ajl)] [] [(1,Vp k Ul (L0) (Vp k Vh (L2) (Ao k T8 (Mr))))] []
noncomputable def Apx(R:Type)(k:Nat):Px R:=pxO [(175,cA A5s),(156,cA Ajo),(176,cA Avc),(177,cA Ai8),(178,cA A6v),(179,cA At7),(109,cA Aje),(63,cA R5),(154,cA Ajl),(180,cA Anb),(181,cA Aln),(95,cA Aku),(182,cA Avi),(110,Av 40 200 (Ic R k) Tryz.f110)] [] [] []
theorem Axa(R:Type)(k:Nat):∀(fr:List Fr) (rec:H1->Option R) (kx:Ex->H1->Option R) (v:H1),Ud (Ic R k) Ul (lp Tryz.f110 0) fr rec kx v=L0 rec kx v
 |fr,rec,kx,(v,v1,w,w1)=>by kernel_rfl
theorem Azh(R:Type)(k:Nat):∀(fr:List Fr) (rec:Hi->Option R) (kx:Ex->Hi->Option R) (v:Hi),Ud (Ic R k) Vh (lp Tryz.f110 0) fr rec kx v=L2 rec kx v
 |fr,rec,kx,(v6,v7,w2,w3)=>by kernel_rfl
theorem Ayb(R:Type)(k:Nat):∀(fr:List Fr) (rec:H2->Option R) (kx:Ex->H2->Option R) (v:H2),Ud (Ic R k) T8 (lp Tryz.f110 0) fr rec kx v=Mr rec kx v
 |fr,rec,kx,(a,b,w4,w5)=>by kernel_rfl
def T3(k:Nat)(x:HV [.str,.int .i64]):Option (HV [.sv .tok,.int .i64]):=match x with
 |(s,i) =>
 chk (inb i s.length) (
  chk (Dp i s.length s.length) (
  cond ((hpre (s.drop (i:Int).toNat) [120,39])) (
   chk (Dp (wr .i64 (i+2)) s.length s.length) (
   cond (decide ((Nb (s.drop ((wr .i64 (i+2)):Int).toNat) 39)<0)) (
    some ((Tok.mk 0 i [] 0),(-1))) (
    chk (Dp (wr .i64 (i+2)) (wr .i64 ((wr .i64 (i+2))+(Nb (s.drop ((wr .i64 (i+2)):Int).toNat) 39))) s.length) (
    (A7k (cut s (wr .i64 (i+2)) (wr .i64 ((wr .i64 (i+2))+(Nb (s.drop ((wr .i64 (i+2)):Int).toNat) 39))))).bind λ(x,x1) =>
     cond (!decide (x1=0)) (
     some ((Tok.mk 5 i x 0),(-1))) (
     cond (decide (1000<(x.length:Int))) (
      some ((Tok.mk 5 i x 0),(-1))) (
      some ((Tok.mk 5 i x 0),(wr .i64 ((wr .i64 (i+3))+(Nb (s.drop ((wr .i64 (i+2)):Int).toNat) 39)))))))))) (
   cond ((Aie (bat s i))) (
   Ak (λrec=>L0 rec (λe vz=>match vz with|(_,v3,_,v5)=>match e with
    |.exit 0 =>
    chk (Dp i v3 s.length) (
     cond (!(Adk (cut s i v3))) (
     some ((Tok.mk 1 v5.pos (cut s i v3) v5.n),(-1))) (
     (Ym s v3).bind λx2 =>
      cond (!x2) (
      some ((Tok.mk 1 v5.pos (cut s i v3) v5.n),(-1))) (
      some ((Tok.mk 1 v5.pos (cut s i v3) v5.n),v3))))
    |_=>none)) k (s,i,(Tok.mk 0 0 [] 0),(Tok.mk 0 i [] 0))) (
   cond ((Acy (bat s i))) (
    Ak (λrec=>L2 rec (λe vz=>match vz with|(_,v9,_,b)=>match e with
    |.exit 0 =>
     chk (Dp i v9 s.length) (
     cond (!(Dr (cut s i v9))) (
      some ((Tok.mk 2 b.pos (cut s i v9) b.n),(-1))) (
      (Ym s v9).bind λx3 =>
      cond (!x3) (
       some ((Tok.mk 2 b.pos (cut s i v9) b.n),(-1))) (
       some ((Tok.mk 2 b.pos (cut s i v9) b.n),v9))))
    |_=>none)) k (s,i,(Tok.mk 0 0 [] 0),(Tok.mk 0 i [] 0))) (
    cond ((Adh (bat s i))) (
    Ak (λrec=>Mr rec (λe vz=>match vz with|(_,a,_,c)=>match e with
     |.exit 0 =>
     chk (Dp i a s.length) (
      (Awv (cut s i a)).bind λ(x4,x5) =>
      chk (Dp i a s.length) (
       cond (!x5) (
       some ((Tok.mk 3 c.pos (cut s i a) x4),(-1))) (
       (Ym s a).bind λx6 =>
        cond (!x6) (
        some ((Tok.mk 3 c.pos (cut s i a) x4),(-1))) (
        some ((Tok.mk 3 c.pos (cut s i a) x4),a)))))
     |_=>none)) k (s,i,(Tok.mk 0 0 [] 0),(Tok.mk 0 i [] 0))) (
    cond (decide ((bat s i)=39)) (
     (Aus s (wr .i64 (i+1))).bind λ(x7,x8) =>
     cond (!decide ((G4 (Val.mk 4 0 x7))=0)) (
      some ((Tok.mk 4 i x7 0),(-1))) (
      some ((Tok.mk 4 i x7 0),x8))) (
     chk (Dp i s.length s.length) (
     (Blw (s.drop (i:Int).toNat)).bind λx9 =>
      chk (Dp i (wr .i64 (i+x9)) s.length) (
      cond (decide (x9=0)) (
       some ((Tok.mk 6 i (cut s i (wr .i64 (i+x9))) 0),(-1))) (
       some ((Tok.mk 6 i (cut s i (wr .i64 (i+x9))) 0),(wr .i64 (i+x9)))))))))))))
theorem A29(k:Nat):FO 157 [.str,.int .i64] [.sv .tok,.int .i64] (T3 k):=fR (px:=Apx _ k) (n:=0) Tryz.func157 rfl (λcx H=>by have h1:Lv cx (Ic (HV [.sv .tok,.int .i64]) k):=lv H (c1 H Al5 (c1 H Aoe (c1 H Alo Ah))) Ae Ab;have hlltoken_0:C5 cx (Ic (HV [.sv .tok,.int .i64]) k) (lp Tryz.f110 0):=Av2 (λ_ _=>by kernel_rfl) (W6 (Ls h1.p h1.c h1.q (by rw[H.p];exact follows) (k:=k) (s:=Ul) (step:=L0) (by kernel_rfl) (Axa _ k) (J0 (n:=0) (by kernel_rfl) Aj)) (W6 (Ls h1.p h1.c h1.q (by rw[H.p];exact follows) (k:=k) (s:=Vh) (step:=L2) (by kernel_rfl) (Azh _ k) (J0 (n:=0) (by kernel_rfl) Aj)) (Ls h1.p h1.c h1.q (by rw[H.p];exact follows) (k:=k) (s:=T8) (step:=Mr) (by kernel_rfl) (Ayb _ k) (J0 (n:=0) (by kernel_rfl) Aj))));have h0:Lv cx (Apx (HV [.sv .tok,.int .i64]) k):=lv H (c1 H A7l (c1 H Ajr (c1 H Bj5 (c1 H Al5 (c1 H Bi8 (c1 H Bgz (c1 H Alp (c1 H Ug (c1 H Alo (c1 H Ben (c1 H Bam (c1 H Ast (c1 H Bjw (As (cR H h1 Tryz.func110 rfl (n:=1) ((Bh Aj hlltoken_0))) Ah)))))))))))))) Ae Ab;exact⟨h0,Aj⟩) λ(_,_)=>by kernel_rfl
def Afm(s:Str)(i:Int):Option (Tok×Int):=if s.length<=20000 then T3 20001 (s,i) else none
def Ak1:FT [.str,.int .i64] [.sv .tok,.int .i64]:=λx=>Afm x.1 x.2
theorem Bck:FO 157 [.str,.int .i64] [.sv .tok,.int .i64] Ak1 :=.fin 0 A29 λ(s,i) r hb hx=>⟨20001,by
 simp only[Ak1,Afm] at hx;split at hx
 ·exact hx
 ·cases hx⟩
theorem Xz{R:Type}{kx:Ex->H1->Option R}{s:Str}(w w1:Tok){a:Int->Option R}(hs:ln s.length)(h1:∀j,kx (.exit 0) (s,j,w,w1)=a j):∀(k i:Nat),i<=s.length->s.length-i<k->Ak (λrec=>L0 rec kx) k (s,(i:Int),w,w1)=a (Lp.runTo Lp.isUp s i)
 |0,i,_,h=>absurd h (Zm1 _)
 |k+1,i,hi,h=>by
  rw[Aw];by_cases hl:i<s.length
  ·have ih:=Xz w w1 hs h1 k (i+1) (by omega) (by omega);have eb:Sx.byt s (i:Int)=(s[i].toNat:Int):=Cg hl;simp only[L0,A1 hl hs,ih,h1,Cg hl,A5 hl,Alm];rw[Ze1 (show(i:Int)<(s.length:Int) by omega)];cases hp:Lp.isUp (s[i].toNat:Int) with|true =>have:=Lp.runTo_yes (p:=Lp.isUp) (l:=s) (j:=i) (by omega) (by rw[eb];exact hp);rw[<-this];rfl|false =>have:=Lp.runTo_no (p:=Lp.isUp) (l:=s) (j:=i) (by omega) (by rw[eb];exact hp);rw[this];rfl
  ·have:=Lp.runTo_end (p:=Lp.isUp) (l:=s) (j:=i) (by omega);simp only[L0,h1];rw[Zd1 (by omega),this];rfl
theorem Yw{R:Type}{kx:Ex->Hi->Option R}{s:Str}(w w1:Tok){a:Int->Option R}(hs:ln s.length)(h1:∀j,kx (.exit 0) (s,j,w,w1)=a j):∀(k i:Nat),i<=s.length->s.length-i<k->Ak (λrec=>L2 rec kx) k (s,(i:Int),w,w1)=a (Lp.runTo Lp.isIn s i)
 |0,i,_,h=>absurd h (Zm1 _)
 |k+1,i,hi,h=>by
  rw[Aw];by_cases hl:i<s.length
  ·have ih:=Yw w w1 hs h1 k (i+1) (by omega) (by omega);have eb:Sx.byt s (i:Int)=(s[i].toNat:Int):=Cg hl;simp only[L2,A1 hl hs,ih,h1,Cg hl,A5 hl,Anh];rw[Ze1 (show(i:Int)<(s.length:Int) by omega)];cases hp:Lp.isIn (s[i].toNat:Int) with|true =>have:=Lp.runTo_yes (p:=Lp.isIn) (l:=s) (j:=i) (by omega) (by rw[eb];exact hp);rw[<-this];rfl|false =>have:=Lp.runTo_no (p:=Lp.isIn) (l:=s) (j:=i) (by omega) (by rw[eb];exact hp);rw[this];rfl
  ·have:=Lp.runTo_end (p:=Lp.isIn) (l:=s) (j:=i) (by omega);simp only[L2,h1];rw[Zd1 (by omega),this];rfl
theorem Yl{R:Type}{kx:Ex->H2->Option R}{s:Str}(w w1:Tok){a:Int->Option R}(hs:ln s.length)(h1:∀j,kx (.exit 0) (s,j,w,w1)=a j):∀(k i:Nat),i<=s.length->s.length-i<k->Ak (λrec=>Mr rec kx) k (s,(i:Int),w,w1)=a (Lp.runTo Lp.isDi s i)
 |0,i,_,h=>absurd h (Zm1 _)
 |k+1,i,hi,h=>by
  rw[Aw];by_cases hl:i<s.length
  ·have ih:=Yl w w1 hs h1 k (i+1) (by omega) (by omega);have eb:Sx.byt s (i:Int)=(s[i].toNat:Int):=Cg hl;simp only[Mr,A1 hl hs,ih,h1,Cg hl,A5 hl,Aob];rw[Ze1 (show(i:Int)<(s.length:Int) by omega)];cases hp:Lp.isDi (s[i].toNat:Int) with|true =>have:=Lp.runTo_yes (p:=Lp.isDi) (l:=s) (j:=i) (by omega) (by rw[eb];exact hp);rw[<-this];rfl|false =>have:=Lp.runTo_no (p:=Lp.isDi) (l:=s) (j:=i) (by omega) (by rw[eb];exact hp);rw[this];rfl
  ·have:=Lp.runTo_end (p:=Lp.isDi) (l:=s) (j:=i) (by omega);simp only[Mr,h1];rw[Zd1 (by omega),this];rfl
theorem Hz{i j:Int}{n:Nat}(h : 0<=i/\i<=j/\j<=n):Dp i j n=true:=by simp[Dp,h]
theorem A2x{n:Int}(h : 0<=n/\n<=1000000):wr .i64 n=n:=C3 (by simp only[inI];omega)
theorem Bb8{x:Str}(h:x≠[]):Awv x=some (Bll x):=by cases x with|nil=>exact absurd rfl h|cons b l=>rfl
theorem Bix{x:Str}(h:x≠[]):Blw x=some (Lp.signF x):=by cases x with|nil=>exact absurd rfl h|cons b l=>rfl
theorem Ak7{s:Str}{i:Int}(h : 0<=i/\i<=s.length):Ym s i=some (Lp.aloneF s i):=if_pos h
theorem A35(x:Str):Gz x=Lp.visF x:=by
 have e:∀b:UInt8,vis b=Lp.vis (b.toNat:Int):=λb=>by simp only[vis,Lp.vis];rw[show decide (32<=b.toNat)=decide (32<=(b.toNat:Int)) from Zy1.2 (by omega),show decide (b.toNat<=126)=decide ((b.toNat:Int)<=126) from Zy1.2 (by omega)]
 simp only[Gz,Lp.visF];congr 1;funext b;exact e b
theorem A1i(x:Str):Fy (Val.mk 4 0 x)=Lp.rightF 4 0 x:=by show cond (decide ((x.length:Int)<=1000)) (Gz x) false=(decide ((x.length:Int)<=1000)&&Lp.visF x);rw[A35];cases decide ((x.length:Int)<=1000)<;>rfl
theorem Ax2(x:Str):decide (G4 (Val.mk 4 0 x)=0)=Lp.rightF 4 0 x:=by
 have key:∀b:Bool,decide (cond (!b) (2:Int) 0=0)=b:=by decide
 rw[<-A1i];exact key _
theorem A1o{s:Str}{i:Int}(hl : 0<=i/\i<s.length)(hs:s.length<=20000):match Lp.tokF s i with
  |some (k,x,n,e)=>Afm s i=some (⟨k,i,x,n⟩,e)
  |none=>∃t,Afm s i=some (t, -1):=by
 have hln:ln s.length:=by simp only[ln];omega
 have hd:(s.drop i.toNat).length=s.length-i.toNat:=Za2;have hd2:(s.drop (i+2).toNat).length=s.length-(i+2).toNat:=Za2;have hne:s.drop i.toNat≠[]:=List.ne_nil_of_length_pos (by omega);obtain⟨m,rfl⟩:=Int.eq_ofNat_of_zero_le hl.1;have hm:m<s.length:=by omega
 have ep:∀p q,hpre p q=Lp.pre p q:=λ_ _=>rfl;have eb:bat s (m:Int)=Sx.byt s (m:Int):=rfl;have e39:Nb (s.drop ((m:Int)+2).toNat) 39=Lib.indexByte (s.drop ((m:Int)+2).toNat) 39:=rfl;simp only[Afm,if_pos hs,T3,A5 hm,Hz (show 0<=(m:Int)/\(m:Int)<=(s.length:Int)/\(s.length:Int)<=s.length by omega),ep,eb,Alm,Aj9,Aob,chk,Aa,Lp.tokF,A2x (show 0<=(m:Int)+2/\(m:Int)+2<=1000000 by omega),A2x (show 0<=(m:Int)+3/\(m:Int)+3<=1000000 by omega),A2x (show 0<=(m:Int)+1/\(m:Int)+1<=1000000 by omega)];cases hx:Lp.pre (s.drop (m:Int).toNat) [120,39] with
 |true =>
  have h2 : 2<=(s.drop (m:Int).toNat).length:=by simp only[Lp.pre,Zb1,Zg1,Zf1,Zi1] at hx;omega
  have hib:=Lp.indexByte_in (s.drop ((m:Int)+2).toNat) 39;simp only[if_true,Aa];rw[Hz (show 0<=(m:Int)+2/\(m:Int)+2<=(s.length:Int)/\(s.length:Int)<=s.length by omega),e39,Aa];generalize Lib.indexByte (s.drop ((m:Int)+2).toNat) 39=z at hib ⊢;by_cases hz:z<0
  ·rw[if_pos hz,Ze1 hz];exact⟨_,rfl⟩
  ·rw[if_neg hz,Zd1 hz,A2x (show 0<=(m:Int)+2+z/\(m:Int)+2+z<=1000000 by omega),A2x (show 0<=(m:Int)+3+z/\(m:Int)+3+z<=1000000 by omega),Hz (show 0<=(m:Int)+2/\(m:Int)+2<=(m:Int)+2+z/\(m:Int)+2+z<=s.length by omega),Af,Aa];have hcl:=Lp.cut_length s ((m:Int)+2) ((m:Int)+2+z) (by omega);have ec:cut s ((m:Int)+2) ((m:Int)+2+z)=Sx.cut s ((m:Int)+2) ((m:Int)+2+z):=rfl;rw[ec];generalize Sx.cut s ((m:Int)+2) ((m:Int)+2+z)=y at hcl ⊢;have eu:A7k y=some (unP y):=if_pos (by omega);rw[eu,unP];cases (if y.length % 2=0 then Lp.unGo y [] else none) with
   |none=>exact⟨_,rfl⟩
   |some b =>
    by_cases hb : 1000<(b.length:Int)
    ·simp only[Zc1];rw[if_pos hb,Ze1 hb];exact⟨_,rfl⟩
    ·simp only[Zc1];rw[if_neg hb,Zd1 hb];rfl
 |false =>
  simp only[Af,Zj2,if_false];cases hu:Lp.isUp (Sx.byt s (m:Int)) with
  |true =>
   have hr:=Lp.runTo_range Lp.isUp s m (by omega);simp only[Aa,if_true];rw[Xz (s:=s) (w:=Tok.mk 0 0 [] 0) (w1:=Tok.mk 0 m [] 0) (a:=λv3=>cond (Dp (m:Int) v3 s.length) (cond (!(Adk (cut s m v3))) (some ((Tok.mk 1 m (cut s m v3) 0),(-1))) ((Ym s v3).bind λx2=>cond (!x2) (some ((Tok.mk 1 m (cut s m v3) 0),(-1))) (some ((Tok.mk 1 m (cut s m v3) 0),v3)))) none) hln (λ_=>rfl) 20001 m (by omega) (by omega)];rw[Hz (by omega),Ak7 (by omega),Ana];have ec:cut s (m:Int) (Lp.runTo Lp.isUp s m)=Sx.cut s (m:Int) (Lp.runTo Lp.isUp s m):=rfl;rw[ec];cases Lp.wordF (Sx.cut s (m:Int) (Lp.runTo Lp.isUp s m)) with
   |false=>exact⟨_,rfl⟩
   |true =>cases Lp.aloneF s (Lp.runTo Lp.isUp s m) with|false=>exact⟨_,rfl⟩|true=>rfl
  |false =>
   simp only[Af,Zj2,if_false];cases hu2:Lp.isLo (Sx.byt s (m:Int)) with
   |true =>
    have hr:=Lp.runTo_range Lp.isIn s m (by omega);simp only[Aa,if_true];rw[Yw (s:=s) (w:=Tok.mk 0 0 [] 0) (w1:=Tok.mk 0 m [] 0) (a:=λv3=>cond (Dp (m:Int) v3 s.length) (cond (!(Dr (cut s m v3))) (some ((Tok.mk 2 m (cut s m v3) 0),(-1))) ((Ym s v3).bind λx2=>cond (!x2) (some ((Tok.mk 2 m (cut s m v3) 0),(-1))) (some ((Tok.mk 2 m (cut s m v3) 0),v3)))) none) hln (λ_=>rfl) 20001 m (by omega) (by omega)];rw[Hz (by omega),Ak7 (by omega)];have ec:cut s (m:Int) (Lp.runTo Lp.isIn s m)=Sx.cut s (m:Int) (Lp.runTo Lp.isIn s m):=rfl;rw[ec];simp only[Dr];cases Lp.nameF (Sx.cut s (m:Int) (Lp.runTo Lp.isIn s m)) with
    |false=>exact⟨_,rfl⟩
    |true =>cases Lp.aloneF s (Lp.runTo Lp.isIn s m) with|false=>exact⟨_,rfl⟩|true=>rfl
   |false =>
    simp only[Af,Zj2,if_false];cases hu3:Lp.isDi (Sx.byt s (m:Int)) with
    |true =>
     have hr:=Lp.runTo_range Lp.isDi s m (by omega);have hg:=Lp.runTo_gt (p:=Lp.isDi) (by omega) hu3;have hcl:=Lp.cut_length s (m:Int) (Lp.runTo Lp.isDi s m) (by omega);simp only[Aa,if_true];rw[Yl (s:=s) (w:=Tok.mk 0 0 [] 0) (w1:=Tok.mk 0 m [] 0) (a:=λv3=>cond (Dp (m:Int) v3 s.length) ((Awv (cut s m v3)).bind λ(x4,x5)=>cond (Dp (m:Int) v3 s.length) (cond (!x5) (some ((Tok.mk 3 m (cut s m v3) x4),(-1))) ((Ym s v3).bind λx6=>cond (!x6) (some ((Tok.mk 3 m (cut s m v3) x4),(-1))) (some ((Tok.mk 3 m (cut s m v3) x4),v3)))) none) none) hln (λ_=>rfl) 20001 m (by omega) (by omega)];have ec:cut s (m:Int) (Lp.runTo Lp.isDi s m)=Sx.cut s (m:Int) (Lp.runTo Lp.isDi s m):=rfl;rw[Hz (by omega),Ak7 (by omega),ec];generalize Sx.cut s (m:Int) (Lp.runTo Lp.isDi s m)=y at hcl ⊢;rw[Bb8 (List.ne_nil_of_length_pos (by omega)),Bll];cases Lp.numGo y 0 with
     |none=>exact⟨_,rfl⟩
     |some n =>
      simp only[Zc1,Aa];have e0:(decide (y=[48]) || !decide (bat y 0=48))=(decide (y=[48])||Sx.byt y 0 != 48):=rfl;rw[e0];cases (decide (y=[48])||Sx.byt y 0 != 48) with
      |false=>exact⟨_,rfl⟩
      |true =>cases Lp.aloneF s (Lp.runTo Lp.isDi s m) with|false=>exact⟨_,rfl⟩|true=>rfl
    |false =>
     simp only[Af,Zj2,if_false];by_cases h39:Sx.byt s (m:Int)=39
     ·have hqi:=Lp.qGo_in _ (s.drop ((m:Int)+1).toNat) [] ((m:Int)+1) (Zn1 _) (by omega);have eq:Aus s ((m:Int)+1)=some (Lp.qGo (s.drop ((m:Int)+1).toNat) [] ((m:Int)+1)):=if_pos (by omega);rw[Ze1 h39,if_pos h39,eq];simp only[Aa,Zc1,Ax2];generalize Lp.qGo (s.drop ((m:Int)+1).toNat) [] ((m:Int)+1)=q at hqi ⊢;obtain⟨y,z⟩:=q;cases Lp.rightF 4 0 y with
      |false=>exact⟨_,rfl⟩
      |true =>
       simp only[if_true,Zt1,Af];by_cases hz:z<0
       ·rw[if_pos hz];obtain rfl:z = -1:=by simp only at hqi;omega
        exact⟨_,rfl⟩
       ·rw[if_neg hz]
     ·have hsi:=Lp.signF_in (s.drop (m:Int).toNat) (by omega);rw[Zd1 h39,if_neg h39,Bix hne];simp only[Af,Zc1];generalize Lp.signF (s.drop (m:Int).toNat)=z at hsi ⊢;rw[A2x (show 0<=(m:Int)+z/\(m:Int)+z<=1000000 by omega),Hz (by omega)];by_cases hz:z=0
      ·rw[Ze1 hz,if_pos hz];exact⟨_,rfl⟩
      ·rw[Zd1 hz,if_neg hz];rfl
def Asw:Sig:=⟨38,[(0,.str),(2,.sl .tok true),(3,.int .i64),(4,.int .i64),(5,.sl .tok true),(6,.int .i64)],[],[],0,0,0,[],[]⟩
abbrev Aag:=Str×List Tok×Int×Int×List Tok×Int
def Aew{R:Type}(rec:Aag->Option R)(kx:Ex->Aag->Option R)(v:Aag):Option R:=match v with
 |(v,v1,v2,v3,v4,v5) =>
 cond (decide (v5<(v.length:Int))) (
  chk (inb v5 v.length) (
  cond (decide (0<=(Nb [32,9,10,13] (bat v v5)))) (
   rec (v,v1,v2,v3,v4,(wr .i64 (v5+1)))) (
   (Afm v v5).bind λ(x,x1) =>
   cond (decide (x1<0)) (
    kx .ret (v,[],v5,11,v4,v5)) (
    chk (decide (v4.length+1<=Al)) (
    rec (v,v1,v2,v3,(v4++[x]),x1)))))) (
  kx (.exit 0) (v,v1,v2,v3,v4,v5))
def A7b(R:Type)(k:Nat):Px R:=pxO [(156,cA Ajo),(157,cA Ak1)] [] [(5,Ao k Asw (Aew))] []
def Asv(k:Nat)(x:HV [.str]):Option (HV [.sl .tok true,.int .i64,.int .i64]):=match x with
 |s =>
 cond (decide (20000<(s.length:Int))) (
  some ([],0,3)) (
  Ak (λrec=>Aew rec (λe vz=>match vz with|(_,v7,v8,v9,a,_)=>match e with
  |.ret =>some (v7,v8,v9)
  |.exit 0 =>some (a,0,0)
  |_=>none)) k (s,[],0,0,[],0))
theorem Biw(k:Nat):FO 116 [.str] [.sl .tok true,.int .i64,.int .i64] (Asv k):=fR (px:=A7b _ k) (n:=1) Tryz.func116 rfl (λcx H=>by have h0:Lv cx (A7b (HV [.sl .tok true,.int .i64,.int .i64]) k):=lv H (c1 H Ajr (c1 H Bck Ah)) Ae Ab;have hllall_0:=lO H h0 (b:=lp Tryz.f116 0) (k:=k) (n:=0) (s:=Asw) (step:=Aew) (λ_ _ _ (_,_,_,_,_,_)=>by kernel_rfl) Aj;exact⟨h0,(Bh Aj hllall_0)⟩) λ_=>by kernel_rfl
def A1p(s:Str):List Tok×Int×Int:=if 20000<(s.length:Int) then([],0,3) else match Lp.allF s with|.error i=>([],i,11)|.ok ts=>(ts,0,0)
abbrev Hl(s:Str):List Tok×Int×Int:=A1p s
def Awo:FT [.str] [.sl .tok true,.int .i64,.int .i64]:=λx=>some (Hl x)
theorem Bkr(c:Int):decide (0<=Nb [32,9,10,13] c)=Lp.blankF c:=rfl
theorem Aek{R:Type}{kx:Ex->Aag->Option R}{s:Str}{c:Except Int (List Tok)->Option R}(hs:s.length<=20000)(h1:∀a i j,kx .ret (s,[],i,11,a,j)=c (.error i))(h2:∀q r t a j,kx (.exit 0) (s,q,r,t,a,j)=c (.ok a)):∀(k:Nat) (i:Int) (f:Nat) (q:List Tok) (r t:Int) (a:List Tok),(a.length:Int)<=i->0<=i->i<=s.length->(s.length:Int)-i<k->(s.length:Int)-i<f->Ak (λrec=>Aew rec kx) k (s,q,r,t,a,i)=c (Lp.allGo f s i a)
 |0,i,f,q,r,t,a,_,_,_,h,_=>by omega
 |k+1,i,0,q,r,t,a,_,_,_,_,h=>by omega
 |k+1,i,f+1,q,r,t,a,ha,h0,hi,h,hf=>by
  rw[Aw];by_cases hl:i<s.length
  ·have ea:decide (a.length+1<=Al)=true:=Ze1 (by simp only[Al];omega);have eb:bat s i=Sx.byt s i:=rfl;simp only[Aew,Vd (show 0<=i/\i<(s.length:Int) from⟨h0,hl⟩),Bkr,ea,eb,Lp.allGo];rw[Ze1 hl,if_neg (show ¬(s.length:Int)<=i by omega)];simp only[Aa,chk];cases hbl:Lp.blankF (Sx.byt s i) with
   |true =>rw[A2x (by omega)];simp only[Aa,if_true];exact Aek hs h1 h2 k (i+1) f q r t a (by omega) (by omega) (by omega) (by omega) (by omega)
   |false =>have ht:=A1o (s:=s) (i:=i) ⟨h0,hl⟩ hs;simp only[Af,Zj2,if_false];cases hk:Lp.tokF s i with|none =>rw[hk] at ht;obtain⟨u,hu⟩:=ht;rw[hu];exact h1 _ _ _|some y =>obtain⟨y1,y2,y3,e⟩:=y;rw[hk] at ht;have hte:=Lp.tok_end ⟨h0,hl⟩ hk;simp only at ht;rw[ht];simp only[Zc1];rw[Zd1 (show ¬e<0 by omega),Af];exact Aek hs h1 h2 k e f q r t (a++[⟨y1,i,y2,y3⟩]) (by simp only[Zh1,Zf1,Zi1];omega) (by omega) (by omega) (by omega) (by omega)
  ·simp only[Aew,h2,Lp.allGo];rw[Zd1 hl,if_pos (show(s.length:Int)<=i by omega)];rfl
theorem A60:FO 116 [.str] [.sl .tok true,.int .i64,.int .i64] Awo :=.fin 0 Biw λs r hb hx=>⟨20001,by
 simp only[Awo,Za1] at hx;rw[<-hx];simp only[Asv,Hl,A1p];by_cases hbig : 20000<(s.length:Int)
 ·rw[Ze1 hbig,if_pos hbig];rfl
 ·rw[Zd1 hbig,if_neg hbig,Af];refine(Aek (s:=s) (c:=λo=>match o with|.error i=>some ([],i,(11:Int))|.ok ts=>some (ts,(0:Int),(0:Int))) (by omega) (λ_ _ _ =>?_) (λ_ _ _ _ _ =>?_) 20001 0 (s.length+1) [] 0 0 [] (by simp) (by omega) (by omega) (by omega) (by omega)).trans ?_
  ·rfl
  ·rfl
  ·show _=some (match Lp.allGo (s.length+1) s 0 [] with|.error i=>([],i,(11:Int))|.ok ts=>(ts,(0:Int),(0:Int)));cases Lp.allGo (s.length+1) s 0 []<;>rfl⟩
end Go.Proofs.YthndhaolemgbdaaGreatDoor
namespace Go.Proofs
open Go.Shelf
def Tryz.laysRA_ren:Go.Shelf.Ren:=⟨λ|155=>150|154=>171|138=>187|165=>153|143=>188|166=>104|197=>189|169=>41|195=>197|218=>198|240=>152|241=>173|219=>199|260=>200|276=>172|277=>190|217=>174|225=>203|224=>204|267=>205|266=>191|314=>207|n=>n,λ|9=>9|3=>3|4=>4|72=>80|0=>0|76=>154|105=>216|21=>21|5=>5|70=>77|20=>20|37=>78|75=>153|127=>148|164=>205|46=>68|119=>226|139=>229|138=>228|146=>231|51=>230|80=>84|n=>n,λ|1=>3|3=>4|4=>5|n=>n⟩
theorem Tryz.laysRA:Go.Proofs.Lays.n155 Tryz.prog Tryz.laysRA_ren:={
 mixed:=by kernel_rfl
 f138:=Tryz.func187.trans (congrArg some (by kernel_rfl))
 f143:=Tryz.func188.trans (congrArg some (by kernel_rfl))
 f154:=Tryz.func171.trans (congrArg some (by kernel_rfl))
 f155:=Tryz.func150.trans (congrArg some (by kernel_rfl))
 f165:=Tryz.func153.trans (congrArg some (by kernel_rfl))
 f166:=Tryz.func104.trans (congrArg some (by kernel_rfl))
 f169:=Tryz.func41.trans (congrArg some (by kernel_rfl))
 f195:=Tryz.func197.trans (congrArg some (by kernel_rfl))
 f197:=Tryz.func189.trans (congrArg some (by kernel_rfl))
 f217:=Tryz.func174.trans (congrArg some (by kernel_rfl))
 f218:=Tryz.func198.trans (congrArg some (by kernel_rfl))
 f219:=Tryz.func199.trans (congrArg some (by kernel_rfl))
 f224:=Tryz.func204.trans (congrArg some (by kernel_rfl))
 f225:=Tryz.func203.trans (congrArg some (by kernel_rfl))
 f240:=Tryz.func152.trans (congrArg some (by kernel_rfl))
 f241:=Tryz.func173.trans (congrArg some (by kernel_rfl))
 f260:=Tryz.func200.trans (congrArg some (by kernel_rfl))
 f266:=Tryz.func191.trans (congrArg some (by kernel_rfl))
 f267:=Tryz.func205.trans (congrArg some (by kernel_rfl))
 f276:=Tryz.func172.trans (congrArg some (by kernel_rfl))
 f277:=Tryz.func190.trans (congrArg some (by kernel_rfl))
 f314:=Tryz.func207.trans (congrArg some (by kernel_rfl))
 t0:=Tryz.underlying0
 a0:=Tryz.isAgg0
 z0:=Tryz.sizeOf0
 v0:=Tryz.zeroValue0
 t3:=Tryz.underlying3
 a3:=Tryz.isAgg3
 z3:=Tryz.sizeOf3
 v3:=Tryz.zeroValue3
 t4:=Tryz.underlying4
 a4:=Tryz.isAgg4
 z4:=Tryz.sizeOf4
 v4:=Tryz.zeroValue4
 t5:=Tryz.underlying5
 a5:=Tryz.isAgg5
 z5:=Tryz.sizeOf5
 v5:=Tryz.zeroValue5
 t9:=Tryz.underlying9
 a9:=Tryz.isAgg9
 z9:=Tryz.sizeOf9
 v9:=Tryz.zeroValue9
 t20:=Tryz.underlying20
 a20:=Tryz.isAgg20
 z20:=Tryz.sizeOf20
 v20:=Tryz.zeroValue20
 t21:=Tryz.underlying21
 a21:=Tryz.isAgg21
 z21:=Tryz.sizeOf21
 v21:=Tryz.zeroValue21
 t37:=Tryz.underlying78
 a37:=Tryz.isAgg78
 z37:=Tryz.sizeOf78
 v37:=Tryz.zeroValue78
 t46:=Tryz.underlying68
 a46:=Tryz.isAgg68
 z46:=Tryz.sizeOf68
 v46:=Tryz.zeroValue68
 t51:=Tryz.underlying230
 a51:=Tryz.isAgg230
 z51:=Tryz.sizeOf230
 v51:=Tryz.zeroValue230
 t70:=Tryz.underlying77
 a70:=Tryz.isAgg77
 z70:=Tryz.sizeOf77
 v70:=Tryz.zeroValue77
 t72:=Tryz.underlying80
 a72:=Tryz.isAgg80
 z72:=Tryz.sizeOf80
 v72:=Tryz.zeroValue80
 t75:=Tryz.underlying153
 a75:=Tryz.isAgg153
 z75:=Tryz.sizeOf153
 v75:=Tryz.zeroValue153
 t76:=Tryz.underlying154
 a76:=Tryz.isAgg154
 z76:=Tryz.sizeOf154
 v76:=Tryz.zeroValue154
 t105:=Tryz.underlying216
 a105:=Tryz.isAgg216
 z105:=Tryz.sizeOf216
 v105:=Tryz.zeroValue216
 t119:=Tryz.underlying226
 a119:=Tryz.isAgg226
 z119:=Tryz.sizeOf226
 t127:=Tryz.underlying148
 a127:=Tryz.isAgg148
 z127:=Tryz.sizeOf148
 v127:=Tryz.zeroValue148
 t138:=Tryz.underlying228
 a138:=Tryz.isAgg228
 z138:=Tryz.sizeOf228
 v138:=Tryz.zeroValue228
 t139:=Tryz.underlying229
 a139:=Tryz.isAgg229
 z139:=Tryz.sizeOf229
 v139:=Tryz.zeroValue229
 t146:=Tryz.underlying231
 a146:=Tryz.isAgg231
 z146:=Tryz.sizeOf231
 v146:=Tryz.zeroValue231
 t164:=Tryz.underlying205
 a164:=Tryz.isAgg205
 z164:=Tryz.sizeOf205
 v164:=Tryz.zeroValue205
 g1:=by kernel_rfl
 g3:=by kernel_rfl
 g4:=by kernel_rfl }
theorem Tryz.extraRA:Builder.Extra Tryz.prog Tryz.laysRA_ren:={
 sizeBuilder:=by kernel_rfl
 liesBuilder:=by kernel_rfl
 t5:=Tryz.laysRA.t5
 a5:=Tryz.laysRA.a5
 z5:=Tryz.laysRA.z5
 v5:=Tryz.laysRA.v5
 infoByte:=by kernel_rfl
 cellsByte:=by kernel_rfl
 sizeByte:=by kernel_rfl
 neB5:=by decide }
end Go.Proofs
namespace Go.Proofs.YthndhaolemgbdaaGreatDoor
open Go.Ax
def Akn(s old new:Str):Option Str:=cond (decide (s.length<4294967281)&&decide (1<=old.length)&&decide (s.length+Lib.count s old*new.length<=140737488355328)&&decide ((Lib.replaceAll s old new).length<=maxLen)) (some (Lib.replaceAll s old new)) none
def Akr:FT [.str,.str,.str] [.str]:=λx=>Akn x.1 x.2.1 x.2.2
theorem Bah:FO 150 [.str,.str,.str] [.str] Akr:=by
 refine⟨Sx.enters_of Tryz.func150 rfl (by kernel_rfl),λx r hx w M vs hM hgl hr =>?_⟩;obtain⟨s,old,new⟩:=x;simp only[Akr,Akn] at hx;cases hc:decide (s.length<4294967281)&&decide (1<=old.length)&&decide (s.length+Lib.count s old*new.length<=140737488355328)&&decide ((Lib.replaceAll s old new).length<=maxLen) with
 |false=>rw[hc] at hx;cases hx
 |true =>rw[hc] at hx;have hx:some (Lib.replaceAll s old new)=some r:=hx;simp only[Za1] at hx;subst hx;simp only[Zb1,Zg1] at hc;obtain⟨⟨⟨h1,h2⟩,h3⟩,h4⟩:=hc;simp only[Cp,Df,Reps,Rep] at hr;obtain⟨u,us,rfl,⟨rfl,_⟩,u2,us2,rfl,⟨rfl,_⟩,u3,us3,rfl,⟨rfl,_⟩,rfl⟩:=hr;obtain⟨m,hm⟩:=hgl.2.2 3 .i64 rfl;have c:=Any.strings_ReplaceAll Tryz.laysRA Tryz.extraRA ⟨s.toArray⟩ ⟨old.toArray⟩ ⟨new.toArray⟩ m w (by simpa[ByteArray.size] using h1) (hm w (Chg.refl _ _)) (by simpa[ByteArray.size] using h2) (by simpa[ByteArray.size,Lib.countB] using h3);refine Calls.mono (show Calls Tryz.prog 150 _ w _ from c) ?_;rintro en w' ⟨rfl,hb⟩;refine⟨_,⟨λ_=>0,λ_=>Option.none⟩,rfl,Chg.of_below hb,λp g o hp=>(by simp[Bo] at hp),λp q g o o2 hp=>(by simp[Bo] at hp),?_⟩;simp only[My,Cp,Df,Rep];exact⟨by simp,h4⟩
def pw:Nat->Int
 |0=>1
 |n+1=>10*pw n
def val:List Int->Int
 |[]=>0
 |x::l=>x+10*val l
def dg(l:List Int):Bool:=l.all λx=>decide (0<=x)&&decide (x<=9)
def S0(n:Nat):List Int:=if h:n=0 then [] else((n % 10:Nat):Int)::S0 (n / 10)
termination_by n
decreasing_by omega
theorem Lj:S0 0=[]:=by rw[S0];simp
theorem Aby{n:Nat}(h:¬n=0):S0 n=((n % 10:Nat):Int)::S0 (n / 10):=by rw[S0];simp[h]
theorem Aw4:∀(k n:Nat),(n:Int)<pw k->(S0 n).length<=k
 |0,n,h=>by
  have:n=0:=by simp only[pw] at h;omega
  subst this;rw[Lj];exact Zn1 _
 |k+1,n,h=>by
  by_cases h0:n=0
  ·subst h0;rw[Lj];simp
  ·have:=Aw4 k (n / 10) (by simp only[pw] at h;omega);rw[Aby h0];simp only[Zf1];omega
end Go.Proofs.YthndhaolemgbdaaGreatDoor
