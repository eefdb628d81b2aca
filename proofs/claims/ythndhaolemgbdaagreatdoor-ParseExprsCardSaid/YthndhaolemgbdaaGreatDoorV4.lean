/- Texts of the proof,one behind the other: AxRn,Pf,Lo,Qa,Qb,Qc,Qd,Qe,Yf,Tw,Pa,Lc,Na,Lm,Ar,Lx,Ix,Ly,Lz,Shp. -/
import Derived.Test.YthndhaolemgbdaaGreatDoorV3
import Derived.KernelRfl
import Derived.Test.YthndhaolemgbdaaGreatDoorProg
import Derived.Lib.Bytealg
import Derived.Shelf.Strings.Replace
set_option linter.all false
namespace Go.Ax
structure Hx (P:Program) (el:Ck→TypeId) (gl:Nat→Option Gv) (tt:Nat→Ty) (cx:Cx):Prop where
 p:cx.P=P
 e:cx.el=el
 g:cx.gl=gl
 t:∀t,Cj P el tt t=true
 m:P.follows .mixedOrders=true
structure Lv {R:Type}(cx:Cx) (px:Px R):Prop where
 p:PxOk cx px
 c:Ed cx px
 q:CallQOk cx px
section
variable {R:Type}{P:Program}{el:Ck→TypeId}{gl:Nat→Option Gv}{tt:Nat→Ty}{cx:Cx}
theorem lv{px:Px R}{l:List (Nat×Jt R)}{lq:List (Nat×Iu R)}{lw:List (Nat×Uh R)}(H:Hx P el gl tt cx) (h:∀g f,(g,f)∈l→K9 cx g f) (hq:∀g f,(g,f)∈lq→X0 cx g f) (hw:∀g f,(g,f)∈lw→J5 cx g f) (h1:px.tt=tt:=by rfl) (h2:px.gl=gl:=by rfl) (h3:px.call=Awf l:=by rfl) (h4:px.callQ=Alu lq:=by rfl) (h5:px.callW=tbl lw:=by rfl):Lv cx px :=
 ⟨⟨fun t=>by rw [h1,H.p,H.e];exact H.t t,by rw [h2,H.g]⟩,A4p h3 h,A3f h4 h5 hq hw⟩
theorem cO(H:Hx P el gl tt cx) {g:Nat}{sa sr:List Sg}{F:HV sa→Option (HV sr)}(h:FnOk P el gl g sa sr F) (hsa:Dw (Bd 0 sa) []=true:=by kernel_rfl):K9 (R:=R) cx g (Y8 sa sr F):=Bix (by rw [H.p,H.e,H.g];exact h) hsa
theorem cL(H:Hx P el gl tt cx) {g:Nat}{sg so:Sig}{F:FL sg so}(h:FnLn P el gl g sg so F) (hok:lnB sg so=true:=by kernel_rfl):K9 (R:=R) cx g (Ai sg so F):=Bid (by rw [H.p,H.e,H.g];exact h) hok
theorem cR(H:Hx P el gl tt cx) {nb nt:Nat}{pc:Px R}{g:Nat}{fn:Func}{c:Code}{n:Nat}(h:Lv cx pc) (hf:P.funcs[g]? = some fn) (hb:fn.body=some c) (hl:∀i,i<n→Ch cx pc (lp fn i)) (hname:(fn.name == "runtime.NumGoroutine")=false:=by kernel_rfl) (hcode:Of fn=true:=by kernel_rfl) (hn:J9 fn=n:=by kernel_rfl):K9 cx g (As nb nt pc fn):=Bgt h.p h.c h.q (by rw [H.p];exact H.m) (by rw [H.p];exact hf) hb hname hcode hn hl
theorem c1(H:Hx P el gl tt cx) {g:Nat}{sa sr:List Sg}{F:HV sa→Option (HV sr)}{l:List (Nat×Jt R)}(h:FnOk P el gl g sa sr F) (hl:∀g f,(g,f)∈l→K9 cx g f) (hsa:Dw (Bd 0 sa) []=true:=by kernel_rfl):∀g' f',(g',f')∈(g,Y8 sa sr F)::l→K9 cx g' f':=An (cO H h hsa) hl
theorem l1(H:Hx P el gl tt cx) {g:Nat}{sg so:Sig}{F:FL sg so}{l:List (Nat×Jt R)}(h:FnLn P el gl g sg so F) (hl:∀g f,(g,f)∈l→K9 cx g f) (hok:lnB sg so=true:=by kernel_rfl):∀g' f',(g',f')∈(g,Ai sg so F)::l→K9 cx g' f':=An (cL H h hok) hl
theorem q1(H:Hx P el gl tt cx) {g:Nat}{sa sr:List Sg}{F:HV sa→Option (HV sr)}{l:List (Nat×Iu R)}(h:FnOk P el gl g sa sr F) (hl:∀g f,(g,f)∈l→X0 cx g f) (hsa:Dw (Bd 0 sa) []=true:=by kernel_rfl):∀g' f',(g',f')∈(g,W5 sa sr F)::l→X0 cx g' f':=A0i (Bft (by rw [H.p,H.e,H.g];exact h) hsa) hl
theorem w1(H:Hx P el gl tt cx) {g:Nat}{sg so:Sig}{F:HV sg.sgs→Option (HV so.sgs)}{l:List (Nat×Uh R)}(h:FnLn P el gl g sg so F) (hl:∀g f,(g,f)∈l→J5 cx g f) (hok:lnB sg so=true:=by kernel_rfl):∀g' f',(g',f')∈(g,Cw sg so F)::l→J5 cx g' f':=A1h (Bg6 (by rw [H.p,H.e,H.g];exact h) hok) hl
theorem lO{px:Px R}(H:Hx P el gl tt cx) (h:Lv cx px) {b:Code}{k n:Nat}{s:Sig}{step:Are (HV s.sgs) R}(hround:∀fr rec kx v,W1 px s b fr rec kx v=step rec kx v) (hin:∀i,i<n→Ch cx px (lpC b i)) (hpx:∀st K,px.loop b st K=Ao k s step st K:=by exact fun _ _=>by kernel_rfl) (hs:Xi s=true:=by kernel_rfl) (hn:(Bg b).length=n:=by kernel_rfl):Ch cx px b:=Bci h.p h.c h.q (by rw [H.p];exact H.m) hpx hs hround (Ls hn hin)
theorem fO{f:FuncId}{fn:Func}{c:Code}{sa sr:List Sg}{px:Px (HV sr)}{F:FT sa sr}{n:Nat}(ht:∀t,Cj P el tt t=true) (hm:P.follows .mixedOrders=true) (hf:P.funcs[f]? = some fn) (hb:fn.body=some c) (hname:(fn.name == "runtime.NumGoroutine")=false) (hchk:(Of fn&&Nat.ble sa.length fn.ntmps&&Dw (Bd 0 sa) [])=true) (hn:J9 fn=n)
  (h:∀cx,Hx P el gl tt cx→Lv cx px∧∀i,i<n→Ch cx px (lp fn i)) (hF:∀x,A5m px fn sa sr x some=F x):FnOk P el gl f sa sr F :=
 A78 hf hb hname hm hchk hn (fun cx a b c=>by
  obtain⟨h1,h2⟩:=h cx ⟨a,b,c,ht,hm⟩
  exact⟨h1.p,h1.c,h1.q,h2⟩) hF
theorem fL{f:FuncId}{fn:Func}{c:Code}{sg so:Sig}{px:Px (HV so.sgs)}{F:FL sg so}{n:Nat}(ht:∀t,Cj P el tt t=true) (hm:P.follows .mixedOrders=true) (hf:P.funcs[f]? = some fn) (hb:fn.body=some c) (hname:(fn.name == "runtime.NumGoroutine")=false) (hchk:(Of fn&&Nat.ble sg.n fn.ntmps)=true) (hn:J9 fn=n)
  (h:∀cx,Hx P el gl tt cx→Lv cx px∧∀i,i<n→Ch cx px (lp fn i)) (hF:∀x,Aqr px fn sg so x some=F x):FnLn P el gl f sg so F :=
 A46 hf hb hname hm hchk hn (fun cx a b c=>by
  obtain⟨h1,h2⟩:=h cx ⟨a,b,c,ht,hm⟩
  exact⟨h1.p,h1.c,h1.q,h2⟩) hF
end
end Go.Ax
namespace Go.Ax
theorem Bz{s:Str}{i:Nat}(h:i<s.length):bat s (i:Int)=((s[i]'h).toNat:Int):=by
 simp [bat,List.getD_eq_getElem?_getD,h]
theorem A9{c:Ck}{xs:List (El c)}{i:Nat}(h:i<xs.length):at' c xs (i:Int)=xs[i]'h:=by
 simp [at',List.getD_eq_getElem?_getD,h]
theorem Az{i n:Nat}(h:i<n) (hn:ln n):wr .i64 ((i:Int)+1)=((i+1:Nat):Int):=by
 rw [Cc (by simp only [ln,inI] at *;omega)];rfl
theorem Am{α:Type}{l:List α}{i:Nat}(h:i<l.length):l.drop i=l[i]'h::l.drop (i+1):=List.drop_eq_getElem_cons h
theorem A4{i n:Nat}(h:i<n):inb (i:Int) n=true:=by simp [Bbm,h]
theorem A3{V R:Type}{step:(V→Option R)→V→Option R}{k:Nat}{v:V}:Al step (k+1) v=step (Al step k) v:=rfl
theorem Af{α:Type}{a b : α}:cond true a b=a:=rfl
theorem Ah{α:Type}{a b : α}:cond false a b=b:=rfl
theorem Bb{α:Type}{c:Bool}{a b : α}:cond c (some a) (some b)=some (cond c a b):=by cases c<;>rfl
end Go.Ax
namespace Go.Ax
theorem O7{V R β:Type}{step:(V→Option R)→V→Option R}(n:Nat) (st:Nat→β→V) (Inv:Nat→β→Prop) (F:Nat→β→Option R)
  (hs:∀i,i<n→∀a,Inv i a→∀rec,(∀a',Inv (i+1) a'→rec (st (i+1) a')=F (i+1) a')→step rec (st i a)=F i a)
  (he:∀a,Inv n a→∀rec,step rec (st n a)=F n a):∀(k i:Nat) (a : β),i≤n→n-i<k→Inv i a→Al step k (st i a)=F i a
 |0,_,_,_,h,_=>absurd h (Zm1 _)
 |k+1,i,a,hi,h,ha=>by
  rw [A3]
  by_cases hl:i<n
  ·exact hs i hl a ha _ fun a' ha'=>O7 n st Inv F hs he k (i+1) a' (by omega) (by omega) ha'
  ·obtain rfl:i=n:=by omega
   exact he a ha _
theorem Ce{V R:Type}{step:(V→Option R)→V→Option R}(n:Nat) (st:Nat→V) (F:Nat→Option R)
  (hs:∀i,i<n→∀rec,rec (st (i+1))=F (i+1)→step rec (st i)=F i) (he:∀rec,step rec (st n)=F n):∀(k i:Nat),i≤n→n-i<k→Al step k (st i)=F i:=fun k i hi hk =>
 O7 n (fun i (_:Unit)=>st i) (fun _ _=>True) (fun i _=>F i) (fun i hi _ _ rec h=>hs i hi rec (h () trivial)) (fun _ _ rec=>he rec) k i () hi hk trivial
theorem Fw{i n:Nat}(h:i<n):decide ((i:Int)<(n:Int))=true:=Ze1 (by omega)
theorem Fx(n:Nat):decide ((n:Int)<(n:Int))=false:=Zd1 (by omega)
def Nr(e:Xpr):Xpr:=Xpr.mk e.kind ⟨e.v.kind,e.v.n,e.v.s⟩ e.name e.l
theorem R9(e:Xpr):Nr e=e:=by cases e;rfl
end Go.Ax
namespace Go.Proofs.YthndhaolemgbdaaGreatDoor
open Go.Ax
abbrev TL:=List Tok
abbrev PR (α:Type):=Except TL (α×TL)
def isT(s:Str):TL→Bool
 |t::_=>(decide (t.kind=1)||decide (t.kind=6))&&decide (t.s=s)
 |[]=>false
def mkX(k:Int) (l:List Xpr):Xpr :=.mk k ⟨0,0,[]⟩ [] l
def I5(k n:Int) (s:Str):Xpr :=.mk 1 ⟨k,n,s⟩ [] []
def sNOT:Str:=[78,79,84]
def sIS:Str:=[73,83]
def sNULL:Str:=[78,85,76,76]
def X6:Str:=[84,82,85,69]
def Mg:Str:=[70,65,76,83,69]
def Am4:Str:=[65,78,68]
def sOR:Str:=[79,82]
def Dj{α:Type}(p:TL→PR α):Prop:=∀l e l',p l = .ok (e,l')→l'.length<l.length
def Bv(rec:TL→PR Xpr) (l:TL):PR Xpr:=match l with
 |[] =>.error []
 |t::r =>
  if t.kind=2 then .ok (.mk 2 ⟨0,0,[]⟩ t.s [],r)
  else if t.kind=3 then .ok (I5 3 t.n [],r)
  else if t.kind=4 then .ok (I5 4 0 t.s,r)
  else if t.kind=5 then .ok (I5 5 0 t.s,r)
  else if t.kind=1∧t.s=X6 then .ok (I5 2 1 [],r)
  else if t.kind=1∧t.s=Mg then .ok (I5 2 0 [],r)
  else if t.kind=1∧t.s=sNULL then .ok (I5 1 0 [],r)
  else if isT [40] (t::r) then match rec r with
   |.error q =>.error q
   |.ok (e,l')=>if isT [41] l' then .ok (e,l'.tail) else .error l'
  else .error (t::r)
def Bh(part:TL→PR Xpr) (sg:List (Str×Int)):Nat→Xpr→TL→PR Xpr
 |0,_,l =>.error l
 |n+1,e,l=>match sg.find? (fun p=>isT p.1 l) with
  |none =>.ok (e,l)
  |some p=>match part l.tail with
   |.error q =>.error q
   |.ok (x,l')=>Bh part sg n (mkX p.2 [e,x]) l'
def B0(part:TL→PR Xpr) (sg:List (Str×Int)) (l:TL):PR Xpr:=match part l with
 |.error q =>.error q
 |.ok (e,l')=>Bh part sg (l'.length+1) e l'
def A7(s:Str) (k:Int) (part:TL→PR Xpr):TL→PR Xpr
 |[]=>part []
 |t::r=>match isT s (t::r) with
  |true=>match A7 s k part r with
   |.error q =>.error q
   |.ok (e,l') =>.ok (mkX k [e],l')
  |false=>part (t::r)
def cmpS:List (Str×Int):=[([61],6),([60,62],7),([60],8),([60,61],9),([62],10),([62,61],11)]
def isP(e:Xpr) (l:TL):PR Xpr:=match isT sNOT l.tail with
 |true=>match isT sNULL l.tail.tail with
  |true =>.ok (mkX 3 [mkX 16 [e]],l.tail.tail.tail)
  |false =>.error l.tail.tail
 |false=>match isT sNULL l.tail with
  |true =>.ok (mkX 16 [e],l.tail.tail)
  |false =>.error l.tail
def Si(sum:TL→PR Xpr) (l:TL):PR Xpr:=match sum l with
 |.error q =>.error q
 |.ok (e,l')=>match cmpS.find? (fun p=>isT p.1 l') with
  |some p=>match sum l'.tail with
   |.error q =>.error q
   |.ok (x,l2) =>.ok (mkX p.2 [e,x],l2)
  |none=>match isT sIS l' with
   |true=>isP e l'
   |false =>.ok (e,l')
def lev(rec:TL→PR Xpr):Nat→TL→PR Xpr
 |1=>B0 (B0 (A7 sNOT 3 (Si (B0 (B0 (A7 [45] 15 (Bv rec)) [([42],14)]) [([43],12),([45],13)]))) [(Am4,4)]) [(sOR,5)]
 |2=>B0 (A7 sNOT 3 (Si (B0 (B0 (A7 [45] 15 (Bv rec)) [([42],14)]) [([43],12),([45],13)]))) [(Am4,4)]
 |3=>A7 sNOT 3 (Si (B0 (B0 (A7 [45] 15 (Bv rec)) [([42],14)]) [([43],12),([45],13)]))
 |4=>Si (B0 (B0 (A7 [45] 15 (Bv rec)) [([42],14)]) [([43],12),([45],13)])
 |5=>B0 (B0 (A7 [45] 15 (Bv rec)) [([42],14)]) [([43],12),([45],13)]
 |6=>B0 (A7 [45] 15 (Bv rec)) [([42],14)]
 |_=>A7 [45] 15 (Bv rec)
def orN:Nat→TL→PR Xpr
 |0,l =>.error l
 |n+1,l=>lev (orN n) 1 l
def orW(l:TL):PR Xpr:=orN (l.length+1) l
theorem J3{s:Str}{l:TL}(h:isT s l=true):l.tail.length+1=l.length:=by
 cases l with
 |nil=>cases h
 |cons t r=>rfl
theorem Bt(l:TL):l.tail.length≤l.length:=by cases l<;>simp
theorem Uc{rec:TL→PR Xpr}(hr:Dj rec):Dj (Bv rec):=fun l e l' h=>by
 cases l with
 |nil=>cases h
 |cons t r =>
  simp only [Bv] at h
  simp only [Zf1]
  by_cases k2:t.kind=2
  ·rw [if_pos k2] at h
   injection h with h;injection h with _ h;rw [←h];omega
  rw [if_neg k2] at h
  by_cases k3:t.kind=3
  ·rw [if_pos k3] at h
   injection h with h;injection h with _ h;rw [←h];omega
  rw [if_neg k3] at h
  by_cases k4:t.kind=4
  ·rw [if_pos k4] at h
   injection h with h;injection h with _ h;rw [←h];omega
  rw [if_neg k4] at h
  by_cases k5:t.kind=5
  ·rw [if_pos k5] at h
   injection h with h;injection h with _ h;rw [←h];omega
  rw [if_neg k5] at h
  by_cases k6:t.kind=1∧t.s=X6
  ·rw [if_pos k6] at h
   injection h with h;injection h with _ h;rw [←h];omega
  rw [if_neg k6] at h
  by_cases k7:t.kind=1∧t.s=Mg
  ·rw [if_pos k7] at h
   injection h with h;injection h with _ h;rw [←h];omega
  rw [if_neg k7] at h
  by_cases k8:t.kind=1∧t.s=sNULL
  ·rw [if_pos k8] at h
   injection h with h;injection h with _ h;rw [←h];omega
  rw [if_neg k8] at h
  by_cases k9:isT [40] (t::r)=true
  ·rw [if_pos k9] at h
   cases hq:rec r with
   |error q=>rw [hq] at h;cases h
   |ok x =>
    obtain⟨e1,m⟩:=x
    rw [hq] at h
    have h1:=hr _ _ _ hq
    have h2:=Bt m
    by_cases k10:isT [41] m=true
    ·simp only [if_pos k10] at h
     injection h with h;injection h with _ h;rw [←h];omega
    ·simp only [if_neg k10] at h
     cases h
  ·rw [if_neg k9] at h
   cases h
theorem Adn{sg:List (Str×Int)}{l:TL}{p:Str×Int}(h:sg.find? (fun p=>isT p.1 l)=some p):isT p.1 l=true:=by
 simpa using List.find?_some h
theorem Aw6{part:TL→PR Xpr}{sg:List (Str×Int)}(hp:Dj part):∀(n:Nat) (e:Xpr) (l:TL) (e':Xpr) (l':TL),Bh part sg n e l = .ok (e',l')→l'.length≤l.length
 |0,_,_,_,_,h=>by cases h
 |n+1,e,l,e',l',h=>by
  simp only [Bh] at h
  cases hf:sg.find? (fun p=>isT p.1 l) with
  |none =>
   rw [hf] at h
   injection h with h;injection h with _ h;rw [←h];exact Zn1 _
  |some p =>
   rw [hf] at h
   cases hq:part l.tail with
   |error q=>simp only [hq] at h;cases h
   |ok x =>
    obtain⟨e1,m⟩:=x
    simp only [hq] at h
    have h1:=hp _ _ _ hq
    have h2:=Aw6 hp n _ _ _ _ h
    have h3:=Bt l
    omega
theorem Du{part:TL→PR Xpr}{sg:List (Str×Int)}(hp:Dj part):Dj (B0 part sg):=fun l e l' h=>by
 simp only [B0] at h
 cases hq:part l with
 |error q=>rw [hq] at h;cases h
 |ok x =>
  obtain⟨e1,m⟩:=x
  rw [hq] at h
  have h1:=hp _ _ _ hq
  have h2:=Aw6 hp _ _ _ _ _ h
  omega
theorem Fb{s:Str}{k:Int}{part:TL→PR Xpr}(hp:Dj part):∀(l:TL) (e:Xpr) (l':TL),A7 s k part l = .ok (e,l')→l'.length<l.length
 |[],e,l',h=>hp _ _ _ h
 |t::r,e,l',h=>by
  simp only [A7] at h
  cases ht:isT s (t::r) with
  |true =>
   rw [ht] at h
   cases hq:A7 s k part r with
   |error q=>simp only [hq] at h;cases h
   |ok x =>
    obtain⟨e1,m⟩:=x
    simp only [hq] at h
    have h1:=Fb hp r _ _ hq
    injection h with h;injection h with _ h;rw [←h]
    simp only [Zf1];omega
  |false =>
   rw [ht] at h
   exact hp _ _ _ h
theorem A9y{e:Xpr}{l:TL}{e':Xpr}{l':TL}(h:isP e l = .ok (e',l')):l'.length≤l.length:=by
 have h1:=Bt l
 have h2:=Bt l.tail
 have h3:=Bt l.tail.tail
 simp only [isP] at h
 cases hn:isT sNOT l.tail with
 |true =>
  rw [hn] at h
  cases hu:isT sNULL l.tail.tail with
  |true =>
   simp only [hu] at h
   injection h with h;injection h with _ h;rw [←h];omega
  |false=>simp only [hu] at h;cases h
 |false =>
  rw [hn] at h
  cases hu:isT sNULL l.tail with
  |true =>
   simp only [hu] at h
   injection h with h;injection h with _ h;rw [←h];omega
  |false=>simp only [hu] at h;cases h
theorem Ag6{sum:TL→PR Xpr}(hp:Dj sum):Dj (Si sum):=fun l e l' h=>by
 simp only [Si] at h
 cases hq:sum l with
 |error q=>rw [hq] at h;cases h
 |ok x =>
  obtain⟨e1,m⟩:=x
  rw [hq] at h
  have h1:=hp _ _ _ hq
  have h2:=Bt m
  cases hf:cmpS.find? (fun p=>isT p.1 m) with
  |some p =>
   simp only [hf] at h
   cases hq2:sum m.tail with
   |error q=>simp only [hq2] at h;cases h
   |ok y =>
    obtain⟨e2,m2⟩:=y
    simp only [hq2] at h
    have h3:=hp _ _ _ hq2
    injection h with h;injection h with _ h;rw [←h];omega
  |none =>
   simp only [hf] at h
   cases hi:isT sIS m with
   |true =>
    simp only [hi] at h
    have:=A9y h
    omega
   |false =>
    simp only [hi] at h
    injection h with h;injection h with _ h;rw [←h];exact h1
theorem Aoj{rec:TL→PR Xpr}(hr:Dj rec) (k:Nat):Dj (lev rec k):=by
 have h7:Dj (A7 [45] 15 (Bv rec)):=Fb (Uc hr)
 have h6:=Du (sg:=[([42],14)]) h7
 have h5:=Du (sg:=[([43],12),([45],13)]) h6
 have h4:=Ag6 h5
 have h3:Dj (A7 sNOT 3 _):=Fb h4
 have h2:=Du (sg:=[(Am4,4)]) h3
 have h1:=Du (sg:=[(sOR,5)]) h2
 match k with
 |0=>exact h7
 |1=>exact h1
 |2=>exact h2
 |3=>exact h3
 |4=>exact h4
 |5=>exact h5
 |6=>exact h6
 |k+7=>exact h7
theorem Vy:∀n,Dj (orN n)
 |0=>fun _ _ _ h=>by cases h
 |n+1=>Aoj (Vy n) 1
theorem Aqy:Dj orW:=fun l e l' h=>Vy _ l e l' h
def Ag{α:Type}(L:Nat) (p q:TL→PR α):Prop:=∀m,m.length<L→p m=q m
theorem A6r{L:Nat}{p q:TL→PR Xpr}(h:Ag L p q):Ag (L+1) (Bv p) (Bv q):=fun m hm=>by
 cases m with
 |nil=>rfl
 |cons t r =>
  simp only [Zf1] at hm
  simp only [Bv,h r (by omega)]
theorem Bdy{L:Nat}{p q:TL→PR Xpr}{sg:List (Str×Int)}(h:Ag L p q) (hp:Dj p):∀(n:Nat) (e:Xpr) (l:TL),l.length<L→Bh p sg n e l=Bh q sg n e l
 |0,_,_,_=>rfl
 |n+1,e,l,hl=>by
  have h1:=Bt l
  simp only [Bh,←h l.tail (by omega)]
  cases sg.find? (fun p=>isT p.1 l) with
  |none=>rfl
  |some s =>
   cases hq:p l.tail with
   |error q=>rfl
   |ok x =>
    obtain⟨e1,m⟩:=x
    have h2:=hp _ _ _ hq
    exact Bdy h hp n _ m (by omega)
theorem Ac7{L:Nat}{p q:TL→PR Xpr}{sg:List (Str×Int)}(h:Ag L p q) (hp:Dj p):Ag L (B0 p sg) (B0 q sg):=fun m hm=>by
 simp only [B0,←h m hm]
 cases hq:p m with
 |error q=>rfl
 |ok x =>
  obtain⟨e1,m1⟩:=x
  have h2:=hp _ _ _ hq
  exact Bdy h hp _ _ m1 (by omega)
theorem Agn{L:Nat}{s:Str}{k:Int}{p q:TL→PR Xpr}(h:Ag L p q):∀m:TL,m.length<L→A7 s k p m=A7 s k q m
 |[],hm=>h [] hm
 |t::r,hm=>by
  simp only [Zf1] at hm
  simp only [A7,Agn h r (by omega),h (t::r) (by simpa using hm)]
theorem Beo{L:Nat}{p q:TL→PR Xpr}(h:Ag L p q) (hp:Dj p):Ag L (Si p) (Si q):=fun m hm=>by
 simp only [Si,←h m hm]
 cases hq:p m with
 |error q=>rfl
 |ok x =>
  obtain⟨e1,m1⟩:=x
  have h2:=hp _ _ _ hq
  have h3:=Bt m1
  simp only [←h m1.tail (by omega)]
theorem A96{L:Nat}{p q:TL→PR Xpr}(h:Ag L p q) (hp:Dj p) (k:Nat):Ag (L+1) (lev p k) (lev q k):=by
 have e7:Dj (A7 [45] 15 (Bv p)):=Fb (Uc hp)
 have e6:=Du (sg:=[([42],14)]) e7
 have e5:=Du (sg:=[([43],12),([45],13)]) e6
 have e4:=Ag6 e5
 have e3:Dj (A7 sNOT 3 _):=Fb e4
 have e2:=Du (sg:=[(Am4,4)]) e3
 have h7:Ag (L+1) (A7 [45] 15 (Bv p)) (A7 [45] 15 (Bv q)):=Agn (A6r h)
 have h6:=Ac7 (sg:=[([42],14)]) h7 e7
 have h5:=Ac7 (sg:=[([43],12),([45],13)]) h6 e6
 have h4:=Beo h5 e5
 have h3:Ag (L+1) (A7 sNOT 3 _) (A7 sNOT 3 _):=Agn h4
 have h2:=Ac7 (sg:=[(Am4,4)]) h3 e3
 have h1:=Ac7 (sg:=[(sOR,5)]) h2 e2
 match k with
 |0=>exact h7
 |1=>exact h1
 |2=>exact h2
 |3=>exact h3
 |4=>exact h4
 |5=>exact h5
 |6=>exact h6
 |k+7=>exact h7
theorem A4n:∀(L n m:Nat),L≤n→L≤m→Ag L (orN n) (orN m)
 |0,_,_,_,_=>fun _ h=>absurd h (Zm1 _)
 |L+1,n+1,m+1,hn,hm=>A96 (A4n L n m (by omega) (by omega)) (Vy n) 1
 |L+1,0,_,h,_=>by omega
 |L+1,_,0,_,h=>by omega
theorem Bhh{l:TL}{n:Nat}(h:l.length<n):orN n l=orW l:=A4n (l.length+1) n (l.length+1) (by omega) (Zn1 _) l (by omega)
theorem Bf8(n:Nat):Ag n (orN n) orW:=fun _ h=>Bhh h
theorem Axm(l:TL):orW l=lev orW 1 l:=A96 (Bf8 l.length) (Vy _) 1 l (by omega)
end Go.Proofs.YthndhaolemgbdaaGreatDoor
namespace Go.Proofs.YthndhaolemgbdaaGreatDoor
open Go.Ax
def opTab:List (Str×Nat×Int):=[(Am4,2,4),(sOR,1,5),([61],4,6),([60,62],4,7),([60],4,8),([60,61],4,9),([62],4,10),([62,61],4,11),([43],5,12),([45],5,13),([42],6,14)]
def bindS(s:Str):Nat×Int:=match opTab.find? (fun p=>decide (s=p.1)) with
 |some p=>p.2
 |none=>(0,0)
def A2:TL→Nat×Int
 |[]=>(0,0)
 |t::_=>match decide (t.kind=1)||decide (t.kind=6) with
  |true=>bindS t.s
  |false=>(0,0)
def sgL:Nat→List (Str×Int)
 |1=>[(sOR,5)]
 |2=>[(Am4,4)]
 |4=>cmpS
 |5=>[([43],12),([45],13)]
 |6=>[([42],14)]
 |_=>[]
abbrev SR:=Xpr×Nat×TL
def Nt(rec:Nat→TL→PR Xpr) (k:Nat) (l:TL):Except TL SR :=
 match isT sNOT l&&decide (k≤3) with
 |true=>match rec 3 l.tail with
  |.error q =>.error q
  |.ok (x,l') =>.ok (mkX 3 [x],3,l')
 |false=>match isT [45] l with
  |true=>match rec 7 l.tail with
   |.error q =>.error q
   |.ok (x,l') =>.ok (mkX 15 [x],7,l')
  |false=>match Bv (rec 1) l with
   |.error q =>.error q
   |.ok (x,l') =>.ok (x,7,l')
def B7(rec:Nat→TL→PR Xpr) (k:Nat) (s:SR):Option (Except TL SR) :=
 if isT sIS s.2.2=true∧k≤4∧4<s.2.1 then some (match isP s.1 s.2.2 with
  |.error q =>.error q
  |.ok (x,l') =>.ok (x,4,l'))
 else if(A2 s.2.2).1=0∨(A2 s.2.2).1<k∨s.2.1<(A2 s.2.2).1∨((A2 s.2.2).1=4∧s.2.1=4) then none
 else some (match rec ((A2 s.2.2).1+1) s.2.2.tail with
  |.error q =>.error q
  |.ok (x,l') =>.ok (mkX (A2 s.2.2).2 [s.1,x],(A2 s.2.2).1,l'))
def Bi(rec:Nat→TL→PR Xpr) (k:Nat):Nat→SR→Except TL SR
 |0,s =>.error s.2.2
 |n+1,s=>match B7 rec k s with
  |none =>.ok s
  |some (.error q) =>.error q
  |some (.ok s')=>Bi rec k n s'
def Abv(x:Except TL SR) (f:SR→Except TL SR):Except TL SR:=match x with
 |.error q =>.error q
 |.ok s=>f s
def exT(rec:Nat→TL→PR Xpr) (k:Nat) (l:TL):Except TL SR:=Abv (Nt rec k l) fun s=>Bi rec k (s.2.2.length+1) s
def exB(rec:Nat→TL→PR Xpr) (k:Nat) (l:TL):PR Xpr:=match exT rec k l with
 |.error q =>.error q
 |.ok s =>.ok (s.1,s.2.2)
theorem Bdj(s:Str):(bindS s).1≤6∧(bindS s).1≠3:=by
 simp only [bindS]
 cases h:opTab.find? (fun p=>decide (s=p.1)) with
 |none=>simp
 |some p =>
  have hm:=List.mem_of_find?_eq_some h
  have ha:∀p,p∈opTab→p.2.1≤6∧p.2.1≠3:=by decide
  exact ha p hm
theorem Wb(l:TL):(A2 l).1≤6∧(A2 l).1≠3:=by
 cases l with
 |nil=>simp [A2]
 |cons t r =>
  simp only [A2]
  cases decide (t.kind=1)||decide (t.kind=6) with
  |true=>exact Bdj t.s
  |false=>simp
theorem A4c{l:TL}(h:isT sIS l=true):A2 l=(0,0):=by
 cases l with
 |nil=>rfl
 |cons t r =>
  simp only [isT,Zb1,Zg1] at h
  simp only [A2,h.1,h.2]
  decide
theorem Az7(n:Nat) (s:Str) (hn:n=1∨n=2∨n=4∨n=5∨n=6):((bindS s).1=n→∃p,(sgL n).find? (fun p=>decide (s=p.1))=some p∧p.2=(bindS s).2)∧((bindS s).1≠n→(sgL n).find? (fun p=>decide (s=p.1))=none):=by
 by_cases h:s∈opTab.map (·.1)
 ·have ha:∀s,s∈opTab.map (·.1)→∀n,n=1∨n=2∨n=4∨n=5∨n=6→(((bindS s).1=n→((sgL n).find? (fun p=>decide (s=p.1))).map (·.2)=some (bindS s).2)∧((bindS s).1≠n→(sgL n).find? (fun p=>decide (s=p.1))=none)):=by
   intro s hs n hn
   simp only [opTab,Zw1,List.map_nil,List.mem_cons,List.not_mem_nil,or_false] at hs
   rcases hs with rfl|rfl|rfl|rfl|rfl|rfl|rfl|rfl|rfl|rfl|rfl<;>rcases hn with rfl|rfl|rfl|rfl|rfl<;>decide
  obtain⟨h1,h2⟩:=ha s h n hn
  refine⟨fun e =>?_,h2⟩
  have:=h1 e
  cases hf:(sgL n).find? (fun p=>decide (s=p.1)) with
  |none=>rw [hf] at this;cases this
  |some p =>
   rw [hf] at this
   exact⟨p,rfl,by simpa using this⟩
 ·have h0:bindS s=(0,0):=by
   simp only [bindS]
   cases hf:opTab.find? (fun p=>decide (s=p.1)) with
   |none=>rfl
   |some p =>
    have h1:=List.mem_of_find?_eq_some hf
    have h2:=List.find?_some hf
    simp only [Zg1] at h2
    exact absurd (List.mem_map.2 ⟨p,h1,h2.symm⟩) h
  rw [h0]
  refine⟨fun e =>?_,fun _ =>?_⟩
  ·simp only at e
   omega
  ·rw [List.find?_eq_none]
   intro p hp
   simp only [Zg1]
   intro e
   have hsub:∀q,q∈sgL n→q.1∈opTab.map (·.1):=by
    rcases hn with rfl|rfl|rfl|rfl|rfl<;>decide
   exact h (by rw [e];exact hsub p hp)
theorem Wm(n:Nat) (l:TL) (hn:n=1∨n=2∨n=4∨n=5∨n=6):((A2 l).1=n→∃p,(sgL n).find? (fun p=>isT p.1 l)=some p∧p.2=(A2 l).2)∧((A2 l).1≠n→(sgL n).find? (fun p=>isT p.1 l)=none):=by
 cases l with
 |nil =>
  refine⟨fun e =>?_,fun _ =>?_⟩
  ·simp only [A2] at e;omega
  ·exact List.find?_eq_none.2 fun p _=>by simp [isT]
 |cons t r =>
  simp only [A2,isT]
  cases hk:(decide (t.kind=1)||decide (t.kind=6)) with
  |true=>simpa using Az7 n t.s hn
  |false =>
   refine⟨fun e =>?_,fun _ =>?_⟩
   ·simp only at e;omega
   ·exact List.find?_eq_none.2 fun p _=>by simp
variable {V:Nat→TL→PR Xpr}
theorem Zs(hv:∀k,Dj (V k)) {k:Nat}{s s':SR}(h:B7 V k s=some (.ok s')):s'.2.2.length<s.2.2.length:=by
 simp only [B7] at h
 split at h
 ·rename_i hc
  have hi:=J3 hc.1
  cases hq:isP s.1 s.2.2 with
  |error q=>rw [hq] at h;cases h
  |ok x =>
   obtain⟨e1,m⟩:=x
   rw [hq] at h
   injection h with h;injection h with h
   rw [←h]
   simp only [isP] at hq
   have h2:=Bt s.2.2.tail
   have h3:=Bt s.2.2.tail.tail
   cases hn:isT sNOT s.2.2.tail with
   |true =>
    rw [hn] at hq
    cases hu:isT sNULL s.2.2.tail.tail with
    |true =>
     simp only [hu] at hq
     injection hq with hq;injection hq with _ hq;rw [←hq];show s.2.2.tail.tail.tail.length<s.2.2.length;omega
    |false=>simp only [hu] at hq;cases hq
   |false =>
    rw [hn] at hq
    cases hu:isT sNULL s.2.2.tail with
    |true =>
     simp only [hu] at hq
     injection hq with hq;injection hq with _ hq;rw [←hq];show s.2.2.tail.tail.length<s.2.2.length;omega
    |false=>simp only [hu] at hq;cases hq
 ·split at h
  ·cases h
  ·cases hq:V ((A2 s.2.2).1+1) s.2.2.tail with
   |error q=>rw [hq] at h;cases h
   |ok x =>
    obtain⟨e1,m⟩:=x
    rw [hq] at h
    injection h with h;injection h with h
    rw [←h]
    have h1:=hv _ _ _ _ hq
    have h2:=Bt s.2.2
    show m.length<_
    omega
theorem A2e{a b:Nat}(h:a≤b) {s:SR}{r:Except TL SR}(hs:B7 V b s=some r):B7 V a s=some r:=by
 simp only [B7] at hs ⊢
 by_cases hc:isT sIS s.2.2=true∧b≤4∧4<s.2.1
 ·rw [if_pos hc] at hs
  rw [if_pos ⟨hc.1,by omega,hc.2.2⟩]
  exact hs
 ·rw [if_neg hc] at hs
  by_cases hn:(A2 s.2.2).1=0∨(A2 s.2.2).1<b∨s.2.1<(A2 s.2.2).1∨((A2 s.2.2).1=4∧s.2.1=4)
  ·rw [if_pos hn] at hs;cases hs
  ·rw [if_neg hn] at hs
   have hi:¬isT sIS s.2.2=true:=fun e=>by
    rw [A4c e] at hn
    exact hn (.inl rfl)
   rw [if_neg (fun e=>hi e.1),if_neg (by omega)]
   exact hs
theorem Akr(hv:∀k,Dj (V k)) (k:Nat):∀(n m:Nat) (s:SR),s.2.2.length<n→s.2.2.length<m→Bi V k n s=Bi V k m s
 |0,_,_,h,_=>by omega
 |_,0,_,_,h=>by omega
 |n+1,m+1,s,hn,hm=>by
  simp only [Bi]
  cases hs:B7 V k s with
  |none=>rfl
  |some r =>
   cases r with
   |error q=>rfl
   |ok s' =>
    have:=Zs hv hs
    exact Akr hv k n m s' (by omega) (by omega)
theorem Aw1(hv:∀k,Dj (V k)) (k:Nat):∀(n:Nat) (s s':SR),Bi V k n s = .ok s'→s'.2.2.length≤s.2.2.length∧B7 V k s' = none
 |0,_,_,h=>by cases h
 |n+1,s,s',h=>by
  simp only [Bi] at h
  cases hs:B7 V k s with
  |none =>
   rw [hs] at h
   injection h with h
   rw [←h]
   exact⟨Zn1 _,hs⟩
  |some r =>
   rw [hs] at h
   cases r with
   |error q=>cases h
   |ok s1 =>
    have h1:=Zs hv hs
    have h2:=Aw1 hv k n s1 s' h
    exact⟨by omega,h2.2⟩
theorem Akz(hv:∀k,Dj (V k)) {a b:Nat}(h:a≤b):∀(n:Nat) (s:SR),s.2.2.length<n→Bi V a n s=Abv (Bi V b n s) fun s'=>Bi V a (s'.2.2.length+1) s'
 |0,_,hn=>by omega
 |n+1,s,hn=>by
  cases hs:B7 V b s with
  |none =>
   have e:Bi V b (n+1) s = .ok s:=by simp only [Bi,hs]
   rw [e]
   exact Akr hv a _ _ s hn (by omega)
  |some r =>
   have ha:=A2e h hs
   cases r with
   |error q =>
    simp only [Bi,hs,ha]
    rfl
   |ok s1 =>
    have h1:=Zs hv hs
    have e1:Bi V a (n+1) s=Bi V a n s1:=by simp only [Bi,ha]
    have e2:Bi V b (n+1) s=Bi V b n s1:=by simp only [Bi,hs]
    rw [e1,e2]
    exact Akz hv h n s1 (by omega)
theorem Ay7(hv:∀k,Dj (V k)) {k:Nat}(hk:k=1∨k=2∨k=5∨k=6):∀(n:Nat) (e:Xpr) (h:Nat) (l:TL),l.length<n→(h=k∨(k<h∧B7 V (k+1) (e,h,l)=none)) →
  match Bh (V (k+1)) (sgL k) n e l with
  |.error q=>Bi V k n (e,h,l) = .error q
  |.ok (e',l')=>∃h',k≤h'∧Bi V k n (e,h,l) = .ok (e',h',l')
 |0,_,_,_,hn,_=>by omega
 |n+1,e,h,l,hn,hc=>by
  by_cases hb:(A2 l).1=k
  ·obtain⟨p,hp1,hp2⟩:=(Wm k l (by omega)).1 hb
   have hi:¬isT sIS l=true:=fun q=>by
    rw [A4c q] at hb
    simp only at hb
    omega
   have hst:B7 V k (e,h,l)=some (match V (k+1) l.tail with
     |.error q =>.error q
     |.ok (x,l') =>.ok (mkX p.2 [e,x],k,l')):=by
    simp only [B7,hb,hp2]
    rw [if_neg (fun q=>hi q.1),if_neg (by omega)]
   simp only [Bh,hp1,Bi,hst]
   cases hq:V (k+1) l.tail with
   |error q=>rfl
   |ok x =>
    obtain⟨x,l1⟩:=x
    have h1:=hv _ _ _ _ hq
    have h2:=Bt l
    exact Ay7 hv hk n (mkX p.2 [e,x]) k l1 (by omega) (.inl rfl)
  ·have hst:B7 V k (e,h,l)=none:=by
    simp only [B7]
    rcases hc with rfl|⟨hlt,hn1⟩
    ·rw [if_neg (fun q=>by have:=q.2;omega),if_pos (by omega)]
    ·simp only [B7] at hn1
     split at hn1
     ·cases hn1
     ·rename_i hi
      split at hn1
      ·rename_i ho
       rw [if_neg (fun q=>hi ⟨q.1,by have:=q.2.1;omega,q.2.2⟩),if_pos (by omega)]
      ·cases hn1
   simp only [Bh,(Wm k l (by omega)).2 hb,Bi,hst]
   exact⟨h,by omega,rfl⟩
theorem Kh{k:Nat}{e:Xpr}{h:Nat}{l:TL}(hi:¬(isT sIS l=true∧k≤4∧4<h)) (hn:(A2 l).1=0∨(A2 l).1<k∨h<(A2 l).1∨((A2 l).1=4∧h=4)):B7 V k (e,h,l)=none:=by
 simp only [B7]
 rw [if_neg hi,if_pos hn]
theorem Aku{k:Nat}{e:Xpr}{h:Nat}{l:TL}(hs:B7 V k (e,h,l)=none):¬(isT sIS l=true∧k≤4∧4<h)∧((A2 l).1=0∨(A2 l).1<k∨h<(A2 l).1∨((A2 l).1=4∧h=4)):=by
 simp only [B7] at hs
 split at hs
 ·cases hs
 ·rename_i hi
  split at hs
  ·rename_i hn;exact⟨hi,hn⟩
  ·cases hs
theorem Aue{e:Xpr}{h:Nat}{l:TL}:B7 V 7 (e,h,l)=none :=
 Kh (fun q=>by have:=q.2;omega) (by have:=Wb l;omega)
theorem Ac9{e:Xpr}{l:TL}:B7 V 4 (e,4,l)=none :=
 Kh (fun q=>by have:=q.2;omega) (by omega)
theorem H3{k n:Nat}{s:SR}(h:B7 V k s=none):Bi V k (n+1) s = .ok s:=by simp only [Bi,h]
theorem Ant{a b:Nat}(ha : 3<a) (hb : 3<b) (l:TL):Nt V a l=Nt V b l:=by
 simp only [Nt]
 rw [Zd1 (show ¬a≤3 by omega),Zd1 (show ¬b≤3 by omega)]
theorem Axt{a b:Nat}(ha:a≤3) (hb:b≤3) (l:TL):Nt V a l=Nt V b l:=by
 simp only [Nt]
 rw [Ze1 ha,Ze1 hb]
theorem Al3(hv:∀k,Dj (V k)) {a b:Nat}(h:a≤b) {l:TL}(hp:Nt V a l=Nt V b l):exT V a l=Abv (exT V b l) fun s=>Bi V a (s.2.2.length+1) s:=by
 unfold exT
 rw [hp]
 cases Nt V b l with
 |error q=>rfl
 |ok s=>exact Akz hv h _ s (by omega)
def LvQ(V:Nat→TL→PR Xpr) (k:Nat) (l:TL):Prop:=match V k l with
 |.error q=>exT V k l = .error q
 |.ok (e,l')=>∃h,k≤h∧exT V k l = .ok (e,h,l')∧B7 V k (e,h,l')=none
theorem Ac3(hv:∀k,Dj (V k)) {k:Nat}(hk:k=1∨k=2∨k=5∨k=6) (hV:V k=B0 (V (k+1)) (sgL k)) {l:TL}(h:LvQ V (k+1) l):LvQ V k l:=by
 have hp:Nt V k l=Nt V (k+1) l:=by
  rcases hk with rfl|rfl|rfl|rfl
  ·exact Axt (by omega) (by omega) l
  ·exact Axt (by omega) (by omega) l
  ·exact Ant (by omega) (by omega) l
  ·exact Ant (by omega) (by omega) l
 have hc:=Al3 hv (Nat.le_succ k) hp
 unfold LvQ at h ⊢
 rw [hV]
 unfold B0
 cases hq:V (k+1) l with
 |error q =>
  rw [hq] at h
  simp only at h ⊢
  rw [hc,h]
  rfl
 |ok x =>
  obtain⟨e,l'⟩:=x
  rw [hq] at h
  simp only at h ⊢
  obtain⟨h1,h2,h3,h4⟩:=h
  rw [h3] at hc
  have hc:exT V k l=Bi V k (l'.length+1) (e,h1,l'):=hc
  have hl:=Ay7 hv hk (l'.length+1) e h1 l' (by omega) (.inr ⟨by omega,h4⟩)
  rw [hc]
  cases hg:Bh (V (k+1)) (sgL k) (l'.length+1) e l' with
  |error q =>
   rw [hg] at hl
   exact hl
  |ok y =>
   obtain⟨e2,l2⟩:=y
   rw [hg] at hl
   simp only at hl ⊢
   obtain⟨h',h5,h6⟩:=hl
   exact⟨h',h5,h6,(Aw1 hv k _ _ _ h6).2⟩
theorem Bek(hv:∀k,Dj (V k)) (hV:V 4=Si (V 5)) {l:TL}(h:LvQ V 5 l):LvQ V 4 l:=by
 have hc:=Al3 (V:=V) hv (show 4≤5 by omega) (Ant (by omega) (by omega) l)
 unfold LvQ at h ⊢
 rw [hV]
 unfold Si
 cases hq:V 5 l with
 |error q =>
  rw [hq] at h
  simp only at h ⊢
  rw [hc,h]
  rfl
 |ok x =>
  obtain⟨e,l'⟩:=x
  rw [hq] at h
  simp only at h ⊢
  obtain⟨h1,h2,h3,h4⟩:=h
  rw [h3] at hc
  have hc:exT V 4 l=Bi V 4 (l'.length+1) (e,h1,l'):=hc
  rw [hc]
  obtain⟨n1,n2⟩:=Aku h4
  by_cases hb:(A2 l').1=4
  ·obtain⟨p,hp1,hp2⟩:=(Wm 4 l' (by omega)).1 hb
   have hp1:cmpS.find? (fun p=>isT p.1 l')=some p:=hp1
   have hi:¬isT sIS l' = true:=fun q=>by
    rw [A4c q] at hb
    simp only at hb
    omega
   have hst:B7 V 4 (e,h1,l')=some (match V 5 l'.tail with
     |.error q =>.error q
     |.ok (x,l') =>.ok (mkX p.2 [e,x],4,l')):=by
    simp only [B7,hb,hp2]
    rw [if_neg (fun q=>hi q.1),if_neg (by omega)]
   have hlen : 1≤l'.length:=by
    cases l' with
    |nil=>simp only [A2] at hb;omega
    |cons t r=>simp
   rw [hp1]
   simp only [Bi,hst]
   cases hq2:V 5 l'.tail with
   |error q=>rfl
   |ok y =>
    obtain⟨x,l2⟩:=y
    simp only
    refine⟨4,by omega,?_,Ac9⟩
    obtain⟨m,hm⟩:=Nat.exists_eq_add_of_le hlen
    rw [hm,Nat.add_comm 1 m]
    exact H3 Ac9
  ·have hf:cmpS.find? (fun p=>isT p.1 l')=none:=(Wm 4 l' (by omega)).2 hb
   rw [hf]
   simp only
   cases hi:isT sIS l' with
   |true =>
    have hlen:=J3 hi
    have hst:B7 V 4 (e,h1,l')=some (match isP e l' with
      |.error q =>.error q
      |.ok (x,l') =>.ok (x,4,l')):=by
     simp only [B7]
     rw [if_pos ⟨hi,by omega,by omega⟩]
    simp only [Bi,hst]
    cases hq2:isP e l' with
    |error q=>rfl
    |ok y =>
     obtain⟨x,l2⟩:=y
     simp only
     refine⟨4,by omega,?_,Ac9⟩
     rw [←hlen]
     exact H3 Ac9
   |false =>
    have hn:B7 V 4 (e,h1,l')=none:=Kh (fun q=>by rw [hi] at q;cases q.1) (by omega)
    exact⟨h1,by omega,H3 hn,hn⟩
theorem Bfa(hv:∀k,Dj (V k)) (hV:V 3=A7 sNOT 3 (V 4)) {l:TL}(h:LvQ V 4 l):LvQ V 3 l:=by
 have stop:∀{e:Xpr}{l':TL},B7 V 3 (e,3,l')=none:=fun {e l'}=>Kh (fun q=>by have:=q.2;omega) (by have:=Wb l';omega)
 cases hn:isT sNOT l with
 |true =>
  have hp:exT V 3 l=Abv (match V 3 l.tail with
    |.error q =>.error q
    |.ok (x,l') =>.ok (mkX 3 [x],3,l')) fun s=>Bi V 3 (s.2.2.length+1) s:=by
   unfold exT Nt
   rw [hn,Ze1 (show 3≤3 by omega)]
   rfl
  cases l with
  |nil=>cases hn
  |cons t r =>
   unfold LvQ
   rw [hp,hV]
   simp only [A7,hn,List.tail_cons]
   cases A7 sNOT 3 (V 4) r with
   |error q=>rfl
   |ok x =>
    obtain⟨e,l'⟩:=x
    exact⟨3,Zn1 _,H3 stop,stop⟩
 |false =>
  have hpr:Nt V 3 l=Nt V 4 l:=by
   simp only [Nt,hn,Bool.false_and]
  have hc:=Al3 (V:=V) hv (show 3≤4 by omega) hpr
  have ha:V 3 l=V 4 l:=by
   rw [hV]
   cases l with
   |nil=>rfl
   |cons t r=>simp only [A7,hn]
  unfold LvQ at h ⊢
  rw [ha]
  cases hq:V 4 l with
  |error q =>
   rw [hq] at h
   simp only at h ⊢
   rw [hc,h]
   rfl
  |ok x =>
   obtain⟨e,l'⟩:=x
   rw [hq] at h
   simp only at h ⊢
   obtain⟨h1,h2,h3,h4⟩:=h
   obtain⟨n1,n2⟩:=Aku h4
   have hs:B7 V 3 (e,h1,l')=none:=Kh (fun q=>n1 ⟨q.1,by omega,q.2.2⟩) (by have:=Wb l';omega)
   refine⟨h1,by omega,?_,hs⟩
   rw [hc,h3]
   exact H3 hs
theorem A7q(hV:V 7=A7 [45] 15 (Bv (V 1))) (l:TL):LvQ V 7 l:=by
 have hx:∀(e:Xpr) (n:Nat) (l':TL),Bi V 7 (n+1) (e,7,l') = .ok (e,7,l'):=fun _ _ _=>H3 Aue
 have h3:decide (7≤3)=false:=rfl
 unfold LvQ exT Nt
 rw [hV,h3,Bool.and_false]
 simp only
 cases l with
 |nil=>rfl
 |cons t r =>
  cases hm:isT [45] (t::r) with
  |true =>
   simp only [A7,hm,List.tail_cons]
   cases A7 [45] 15 (Bv (V 1)) r with
   |error q=>rfl
   |ok x=>exact⟨7,Zn1 _,hx _ _ _,Aue⟩
  |false =>
   simp only [A7,hm]
   cases Bv (V 1) (t::r) with
   |error q=>rfl
   |ok x=>exact⟨7,Zn1 _,hx _ _ _,Aue⟩
abbrev VV:Nat→TL→PR Xpr:=lev orW
theorem Hs(k:Nat):Dj (VV k):=Aoj Aqy k
theorem Amk:VV 1=orW:=funext fun l=>(Axm l).symm
theorem Bip(l:TL):∀k,1≤k→k≤7→LvQ VV k l:=by
 have h7:LvQ VV 7 l:=A7q (by rw [Amk];rfl) l
 have h6:LvQ VV 6 l:=Ac3 Hs (.inr (.inr (.inr rfl))) rfl h7
 have h5:LvQ VV 5 l:=Ac3 Hs (.inr (.inr (.inl rfl))) rfl h6
 have h4:LvQ VV 4 l:=Bek Hs rfl h5
 have h3:LvQ VV 3 l:=Bfa Hs rfl h4
 have h2:LvQ VV 2 l:=Ac3 Hs (.inr (.inl rfl)) rfl h3
 have h1:LvQ VV 1 l:=Ac3 Hs (.inl rfl) rfl h2
 intro k a b
 match k,a,b with
 |1,_,_=>exact h1
 |2,_,_=>exact h2
 |3,_,_=>exact h3
 |4,_,_=>exact h4
 |5,_,_=>exact h5
 |6,_,_=>exact h6
 |7,_,_=>exact h7
theorem Bhz{k:Nat}(h1 : 1≤k) (h7:k≤7) (l:TL):exB VV k l=VV k l:=by
 have h:=Bip l k h1 h7
 unfold LvQ at h
 unfold exB
 cases hq:VV k l with
 |error q =>
  rw [hq] at h
  simp only at h
  rw [h]
 |ok x =>
  obtain⟨e,l'⟩:=x
  rw [hq] at h
  simp only at h
  obtain⟨a,_,h2,_⟩:=h
  rw [h2]
end Go.Proofs.YthndhaolemgbdaaGreatDoor
namespace Go.Proofs.YthndhaolemgbdaaGreatDoor
open Go.Ax
def bP{α β:Type}(p:TL→PR α) (f : α→TL→PR β) (l:TL):PR β:=match p l with
 |.error q =>.error q
 |.ok (x,l')=>f x l'
def Hq{α:Type}(x : α) (l:TL):PR α :=.ok (x,l)
def Ba:List Str→TL→PR Unit
 |[],l =>.ok ((),l)
 |s::ss,l=>match isT s l with
  |true=>Ba ss l.tail
  |false =>.error l
def Jv:TL→PR Str
 |[] =>.error []
 |t::r=>match decide (t.kind=2) with
  |true =>.ok (t.s,r)
  |false =>.error (t::r)
def Cv{α:Type}(part:TL→PR α):Nat→List α→TL→PR (List α)
 |0,_,l =>.error l
 |n+1,acc,l=>match isT [44] l with
  |false =>.ok (acc,l)
  |true=>match part l.tail with
   |.error q =>.error q
   |.ok (x,l')=>Cv part n (acc++[x]) l'
def Afg{α:Type}(part:TL→PR α) (l:TL):PR (List α):=match part l with
 |.error q =>.error q
 |.ok (x,l')=>Cv part (l'.length+1) [x] l'
def Bii(s:Str) (ss:List Str) (l:TL):PR Bool:=match isT s l with
 |true=>match Ba ss l.tail with
  |.error q =>.error q
  |.ok (_,l') =>.ok (true,l')
 |false =>.ok (false,l)
def A6i:Str:=[84,65,66,76,69]
def A9m:Str:=[73,78,68,69,88]
def wON:Str:=[79,78]
def A33:Str:=[80,82,73,77,65,82,89]
def Bjh:Str:=[75,69,89]
def Bgy:Str:=[67,72,69,67,75]
def Bbo:Str:=[85,78,73,81,85,69]
def Bjd:Str:=[82,69,70,69,82,69,78,67,69,83]
def Bie:Str:=[66,79,79,76]
def Bi7:Str:=[73,78,84]
def Bh4:Str:=[84,69,88,84]
def Bfk:Str:=[66,89,84,69,83]
def Bgg:Str:=[87,72,69,82,69]
def Bjb:Str:=[83,69,84]
def Bea:Str:=[70,82,79,77]
def Beq:Str:=[79,82,68,69,82]
def wBY:Str:=[66,89]
def A4b:Str:=[68,69,83,67]
def Bgp:Str:=[65,83,67]
def Bfi:Str:=[76,73,77,73,84]
def Bhg:Str:=[73,78,84,79]
def Ba9:Str:=[86,65,76,85,69,83]
def Bc4:Str:=[67,82,69,65,84,69]
def Bh9:Str:=[68,82,79,80]
def Bbc:Str:=[73,78,83,69,82,84]
def Bdl:Str:=[85,80,68,65,84,69]
def Bdr:Str:=[68,69,76,69,84,69]
def Bc6:Str:=[83,69,76,69,67,84]
def zX:Xpr :=.mk 0 ⟨0,0,[]⟩ [] []
def zS:Stm:=⟨0,[],[],[],[],[],[],[],false,zX,[],[],0⟩
def A76:TL→PR (List Str):=bP (Ba [[40]]) fun _=>bP (Afg Jv) fun x=>bP (Ba [[41]]) fun _=>Hq x
def A9f:TL→PR (List Xpr):=Afg orW
def Bih(l:TL):PR Int :=
 match isT Bie l with
 |true =>.ok (2,l.tail)
 |false=>match isT Bi7 l with
  |true =>.ok (3,l.tail)
  |false=>match isT Bh4 l with
   |true =>.ok (4,l.tail)
   |false=>match isT Bfk l with
    |true =>.ok (5,l.tail)
    |false =>.error l
def Bjg(l:TL):PR Str:=match isT Bjd l with
 |true=>Jv l.tail
 |false =>.ok ([],l)
def Bji:TL→PR Col:=bP Jv fun n=>bP Bih fun k=>bP (Bii sNOT [sNULL]) fun nn=>bP (Bii Bbo []) fun u=>bP Bjg fun r=>Hq ⟨n,k,nn,u,r⟩
def Bh6:TL→PR Col:=bP Bji fun c=>bP (Ba [[44]]) fun _=>Hq c
def A74:Nat→List Col→TL→PR (List Col)
 |0,_,l =>.error l
 |n+1,acc,l=>match isT A33 l with
  |true =>.ok (acc,l.tail)
  |false=>match Bh6 l with
   |.error q =>.error q
   |.ok (c,l')=>A74 n (acc++[c]) l'
def Bhs(l:TL):PR (List Col):=match Bh6 l with
 |.error q =>.error q
 |.ok (c,l')=>A74 (l'.length+1) [c] l'
def Bja:TL→PR Xpr:=bP (Ba [Bgy,[40]]) fun _=>bP orW fun e=>bP (Ba [[41]]) fun _=>Hq e
def Bfz:TL→PR Stm:=bP Jv fun n=>bP (Ba [[40]]) fun _=>bP Bhs fun cs=>bP (Ba [Bjh]) fun _=>bP A76 fun ns=>bP (fun l=>Cv Bja (l.length+1) [] l) fun es=>bP (Ba [[41]]) fun _=>Hq { zS with kind:=1,name:=n,cols:=cs,names:=ns,l:=es }
def Bgv:TL→PR Stm:=bP (Ba [A9m]) fun _=>bP Jv fun n=>bP (Ba [wON]) fun _=>bP Jv fun o=>bP A76 fun ns=>Hq { zS with kind:=3,name:=n,on:=o,names:=ns }
def Bam(l:TL):PR Stm:=match isT A6i l with
 |true=>Bfz l.tail
 |false=>Bgv l
def Bho(l:TL):PR Stm:=match isT A6i l with
 |true=>bP Jv (fun n=>Hq { zS with kind:=2,name:=n }) l.tail
 |false=>bP (Ba [A9m]) (fun _=>bP Jv fun n=>Hq { zS with kind:=4,name:=n }) l
def Bjn:TL→PR (List Xpr):=bP (Ba [[40]]) fun _=>bP A9f fun r=>bP (Ba [[41]]) fun _=>Hq r
def Bcc:TL→PR Stm:=bP (Ba [Bhg]) fun _=>bP Jv fun n=>bP (Ba [Ba9]) fun _=>bP (Afg Bjn) fun rs=>Hq { zS with kind:=5,name:=n,rows:=rs }
def Atl(l:TL):PR (Bool×Xpr):=match isT Bgg l with
 |true=>match orW l.tail with
  |.error q =>.error q
  |.ok (e,l') =>.ok ((true,e),l')
 |false =>.ok ((false,zX),l)
def Bjc:TL→PR SetE:=bP Jv fun n=>bP (Ba [[61]]) fun _=>bP orW fun e=>Hq ⟨n,e⟩
def Bbz:TL→PR Stm:=bP Jv fun n=>bP (Ba [Bjb]) fun _=>bP (Afg Bjc) fun ss=>bP Atl fun w=>Hq { zS with kind:=6,name:=n,sets:=ss,has:=w.1,whr:=w.2 }
def Bcz:TL→PR Stm:=bP (Ba [Bea]) fun _=>bP Jv fun n=>bP Atl fun w=>Hq { zS with kind:=7,name:=n,has:=w.1,whr:=w.2 }
def Bhc(l:TL):PR (List Xpr):=match isT [42] l with
 |true =>.ok ([],l.tail)
 |false=>A9f l
def Bhm(l:TL):PR Bool:=match isT A4b l with
 |true =>.ok (true,l.tail)
 |false=>match isT Bgp l with
  |true =>.ok (false,l.tail)
  |false =>.ok (false,l)
def Bjl:TL→PR (Str×Bool):=bP Jv fun n=>bP Bhm fun d=>Hq (n,d)
def Be7(l:TL):PR (List (Str×Bool)):=match isT Beq l with
 |true=>bP (Ba [wBY]) (fun _=>Afg Bjl) l.tail
 |false =>.ok ([],l)
def Bhw:TL→PR Int
 |[] =>.error []
 |t::r=>match decide (t.kind=3) with
  |true =>.ok (t.n,r)
  |false =>.error (t::r)
def Beh(l:TL):PR Int:=match isT Bfi l with
 |true=>Bhw l.tail
 |false =>.ok (-1,l)
def Bdi:TL→PR Stm:=bP Bhc fun es=>bP (Ba [Bea]) fun _=>bP Jv fun n=>bP Atl fun w=>bP Be7 fun o=>bP Beh fun m=>Hq { zS with kind:=8,name:=n,l:=es,has:=w.1,whr:=w.2,order:=o.map (·.1),desc:=o.map (·.2),most:=m }
def Bia(l:TL):PR Stm :=
 match isT Bc4 l with
 |true=>Bam l.tail
 |false=>match isT Bh9 l with
  |true=>Bho l.tail
  |false=>match isT Bbc l with
   |true=>Bcc l.tail
   |false=>match isT Bdl l with
    |true=>Bbz l.tail
    |false=>match isT Bdr l with
     |true=>Bcz l.tail
     |false=>match isT Bc6 l with
      |true=>Bdi l.tail
      |false =>.error l
def Bd6(l:TL):TL:=match isT [59] l with
 |true=>l.tail
 |false=>l
def Bfq(l:TL):Except TL Stm:=match Bia l with
 |.error q =>.error q
 |.ok (s,l')=>match Bd6 l' with
  |[] =>.ok s
  |t::r =>.error (t::r)
def Mf(l:TL):Except TL Xpr:=match orW l with
 |.error q =>.error q
 |.ok (e,[]) =>.ok e
 |.ok (_,t::r) =>.error (t::r)
def Hh(n:Int):TL→Int
 |[]=>n
 |t::_=>t.pos
end Go.Proofs.YthndhaolemgbdaaGreatDoor
namespace Go.Proofs.YthndhaolemgbdaaGreatDoor
open Go.Ax
abbrev nq (s:Str):Prop:=s≠[41]∧s≠X6∧s≠Mg∧s≠sNULL∧s≠A4b∧s≠Bgp
def Jr(d:Bool):TL→Prop
 |[]=>True
 |t::_=>t.kind=6∧(t.s=[59]∨t.s=[41])∨¬t.kind=1∧¬t.kind=6∨t.kind=1∧(t.s=X6∨t.s=Mg∨t.s=sNULL)∨d=true∧(t.s=A4b∨t.s=Bgp)
def Afb:TL→Prop
 |[]=>False
 |t::_=>t.kind=6∧t.s=[59]
theorem Afb.quiet{d:Bool}{m:TL}(h:Afb m):Jr d m:=by
 cases m with
 |nil=>trivial
 |cons t r=>exact .inl ⟨h.1,.inl h.2⟩
theorem Agf{d:Bool}{m:TL}(h:Jr d m) {s:Str}(h1:s≠[59]) (h2:nq s):isT s m=false:=by
 cases m with
 |nil=>rfl
 |cons t r =>
  have fin:¬t.s=s→isT s (t::r)=false:=fun h=>by simp only [isT,Zd1 h,Bool.and_false]
  rcases h with ⟨_,q|q⟩|⟨q1,q2⟩|⟨_,q|q|q⟩|⟨_,q|q⟩
  ·exact fin fun e=>h1 (e.symm.trans q)
  ·exact fin fun e=>h2.1 (e.symm.trans q)
  ·simp only [isT,Zd1 q1,Zd1 q2,Bool.or_false,Bool.false_and]
  ·exact fin fun e=>h2.2.1 (e.symm.trans q)
  ·exact fin fun e=>h2.2.2.1 (e.symm.trans q)
  ·exact fin fun e=>h2.2.2.2.1 (e.symm.trans q)
  ·exact fin fun e=>h2.2.2.2.2.1 (e.symm.trans q)
  ·exact fin fun e=>h2.2.2.2.2.2 (e.symm.trans q)
theorem Axc{m:TL}(h:Afb m) {s:Str}(h1:s≠[59]):isT s m=false:=by
 cases m with
 |nil=>rfl
 |cons t r =>
  have:¬t.s=s:=fun e=>h1 (e.symm.trans h.2)
  simp only [isT,Zd1 this,Bool.and_false]
theorem Ez{l:TL}(h:l≠[]) (s:Str) (m:TL):isT s (l++m)=isT s l:=by
 cases l with
 |nil=>exact absurd rfl h
 |cons t r=>rfl
theorem Ev{l:TL}(h:l≠[]) (m:TL):(l++m).tail=l.tail++m:=by
 cases l with
 |nil=>exact absurd rfl h
 |cons t r=>rfl
theorem Zu{s:Str}{l:TL}(h:isT s l=true):l≠[]:=by rintro rfl;cases h
structure LookN {α:Type}(d:Bool) (n:Nat) (p:TL→PR α):Prop where
 le:∀l e l',l.length<n→p l = .ok (e,l')→l'.length≤l.length
 ler:∀l q,l.length<n→p l = .error q→q.length≤l.length
 ok:∀l m e l',l.length<n→p l = .ok (e,l')→(l'≠[]∨Jr d m)→p (l++m) = .ok (e,l'++m)
 er:∀l m q,l.length<n→p l = .error q→(q≠[]∨Afb m)→p (l++m) = .error (q++m)
theorem Bi0{a b:TL}(h:a.length≤b.length) (ha:a≠[]):b≠[]:=by
 rintro rfl
 exact ha (List.length_eq_zero_iff.1 (Nat.le_zero.1 h))
theorem Aiz{a b:TL}{P:Prop}(h:a.length≤b.length) (ha:a≠[]∨P):b≠[]∨P:=ha.imp_left (Bi0 h)
theorem Bfe{d:Bool}{a:TL}{m:TL}(h:a≠[]∨Afb m):a≠[]∨Jr d m:=h.imp_right Afb.quiet
variable {α β:Type}{n:Nat}{d:Bool}
theorem LookN.bind{p:TL→PR α}{f : α→TL→PR β}(hp:LookN d n p) (hf:∀x,LookN d n (f x)):LookN d n (bP p f) where
 le l e l' hl h:=by
  simp only [bP] at h
  cases hq:p l with
  |error q=>rw [hq] at h;cases h
  |ok x =>
   obtain⟨x,l1⟩:=x
   rw [hq] at h
   have h1:=hp.le l x l1 hl hq
   have h2:=(hf x).le l1 e l' (by omega) h
   omega
 ler l q hl h:=by
  simp only [bP] at h
  cases hq:p l with
  |error q'=>rw [hq] at h;cases h;exact hp.ler l q hl hq
  |ok x =>
   obtain⟨x,l1⟩:=x
   rw [hq] at h
   have h1:=hp.le l x l1 hl hq
   have h2:=(hf x).ler l1 q (by omega) h
   omega
 ok l m e l' hl h hc:=by
  simp only [bP] at h ⊢
  cases hq:p l with
  |error q=>rw [hq] at h;cases h
  |ok x =>
   obtain⟨x,l1⟩:=x
   rw [hq] at h
   have h1:=hp.le l x l1 hl hq
   have h2:=(hf x).le l1 e l' (by omega) h
   rw [hp.ok l m x l1 hl hq (Aiz h2 hc)]
   exact(hf x).ok l1 m e l' (by omega) h hc
 er l m q hl h hc:=by
  simp only [bP] at h ⊢
  cases hq:p l with
  |error q' =>
   rw [hq] at h
   cases h
   rw [hp.er l m q hl hq hc]
  |ok x =>
   obtain⟨x,l1⟩:=x
   rw [hq] at h
   have h1:=hp.le l x l1 hl hq
   have h2:=(hf x).ler l1 q (by omega) h
   rw [hp.ok l m x l1 hl hq (Bfe (Aiz h2 hc))]
   exact(hf x).er l1 m q (by omega) h hc
theorem LookN.pure(x : α):LookN d n (Hq x) where
 le l e l' _ h:=by cases h;exact Zn1 _
 ler l q _ h:=by cases h
 ok l m e l' _ h _:=by cases h;rfl
 er l m q _ h _:=by cases h
theorem LookN.opt'{s:Str}{p:TL→PR α}{f:TL→PR α}(h1:s≠[59]) (h2:∀m,Jr d m→isT s m=false) (hp:LookN d n p) (hf:LookN d n f):LookN d n (fun l=>match isT s l with|true=>p l.tail|false=>f l) where
 le l e l' hl h:=by
  have ht:=Bt l
  cases hi:isT s l with
  |true=>simp only [hi] at h;have:=hp.le _ e l' (by omega) h;omega
  |false=>simp only [hi] at h;exact hf.le l e l' hl h
 ler l q hl h:=by
  have ht:=Bt l
  cases hi:isT s l with
  |true=>simp only [hi] at h;have:=hp.ler _ q (by omega) h;omega
  |false=>simp only [hi] at h;exact hf.ler l q hl h
 ok l m e l' hl h hc:=by
  have ht:=Bt l
  cases hi:isT s l with
  |true =>
   simp only [hi] at h
   have hn:=Zu hi
   simp only [Ez hn,hi,Ev hn]
   exact hp.ok _ m e l' (by omega) h hc
  |false =>
   simp only [hi] at h
   have hh:=hf.ok l m e l' hl h hc
   by_cases hn:l=[]
   ·subst hn
    have hle:=hf.le [] e l' hl h
    have hl':l' = []:=List.length_eq_zero_iff.1 (Nat.le_zero.1 hle)
    have hq:Jr d m:=hc.resolve_left (fun q=>q hl')
    simp only [Zf2,h2 _ hq]
    exact hh
   ·simp only [Ez hn,hi]
    exact hh
 er l m q hl h hc:=by
  have ht:=Bt l
  cases hi:isT s l with
  |true =>
   simp only [hi] at h
   have hn:=Zu hi
   simp only [Ez hn,hi,Ev hn]
   exact hp.er _ m q (by omega) h hc
  |false =>
   simp only [hi] at h
   have hh:=hf.er l m q hl h hc
   by_cases hn:l=[]
   ·subst hn
    have hle:=hf.ler [] q hl h
    have hl':q=[]:=List.length_eq_zero_iff.1 (Nat.le_zero.1 hle)
    have hq:Afb m:=hc.resolve_left (fun q=>q hl')
    simp only [Zf2,Axc hq h1]
    exact hh
   ·simp only [Ez hn,hi]
    exact hh
theorem LookN.opt{s:Str}{p:TL→PR α}{f:TL→PR α}(h1:s≠[59]) (h2:nq s) (hp:LookN d n p) (hf:LookN d n f):LookN d n (fun l=>match isT s l with|true=>p l.tail|false=>f l):=LookN.opt' h1 (fun _ h=>Agf h h1 h2) hp hf
theorem LookN.req{s:Str}{p:TL→PR α}(h1:s≠[59]) (hp:LookN d n p):LookN d n (fun l=>match isT s l with|true=>p l.tail|false =>.error l) where
 le l e l' hl h:=by
  have ht:=Bt l
  cases hi:isT s l with
  |true=>simp only [hi] at h;have:=hp.le _ e l' (by omega) h;omega
  |false=>simp only [hi] at h;cases h
 ler l q hl h:=by
  have ht:=Bt l
  cases hi:isT s l with
  |true=>simp only [hi] at h;have:=hp.ler _ q (by omega) h;omega
  |false=>simp only [hi] at h;cases h;exact Zn1 _
 ok l m e l' hl h hc:=by
  have ht:=Bt l
  cases hi:isT s l with
  |true =>
   simp only [hi] at h
   have hn:=Zu hi
   simp only [Ez hn,hi,Ev hn]
   exact hp.ok _ m e l' (by omega) h hc
  |false=>simp only [hi] at h;cases h
 er l m q hl h hc:=by
  have ht:=Bt l
  cases hi:isT s l with
  |true =>
   simp only [hi] at h
   have hn:=Zu hi
   simp only [Ez hn,hi,Ev hn]
   exact hp.er _ m q (by omega) h hc
  |false =>
   simp only [hi] at h
   cases h
   by_cases hn:l=[]
   ·subst hn
    have hq:Afb m:=hc.resolve_left (fun q=>q rfl)
    simp only [Zf2,Axc hq h1]
   ·simp only [Ez hn,hi]
theorem LookN.must:∀(ss:List Str),(∀s,s∈ss→s≠[59])→LookN d n (Ba ss)
 |[],_=>LookN.pure ()
 |s::ss,h=>LookN.req (h s Zr1) (LookN.must ss fun x hx=>h x (Zu1 _ hx))
theorem LookN.one{k:Int}{f:Tok→α}(hk:k≠6) {p:TL→PR α}(h0:p [] = .error []) (h1:∀t r,p (t::r)=match decide (t.kind=k) with|true =>.ok (f t,r)|false =>.error (t::r)):LookN d n p where
 le l e l' _ h:=by
  cases l with
  |nil=>rw [h0] at h;cases h
  |cons t r =>
   rw [h1] at h
   cases hd:decide (t.kind=k) with
   |true=>rw [hd] at h;cases h;simp
   |false=>rw [hd] at h;cases h
 ler l q _ h:=by
  cases l with
  |nil=>rw [h0] at h;cases h;simp
  |cons t r =>
   rw [h1] at h
   cases hd:decide (t.kind=k) with
   |true=>rw [hd] at h;cases h
   |false=>rw [hd] at h;cases h;simp
 ok l m e l' _ h _:=by
  cases l with
  |nil=>rw [h0] at h;cases h
  |cons t r =>
   rw [h1] at h
   rw [Zb2,h1]
   cases hd:decide (t.kind=k) with
   |true=>rw [hd] at h;cases h;rfl
   |false=>rw [hd] at h;cases h
 er l m q _ h hc:=by
  cases l with
  |nil =>
   rw [h0] at h
   cases h
   have hq:Afb m:=hc.resolve_left (fun q=>q rfl)
   cases m with
   |nil=>exact hq.elim
   |cons t r =>
    rw [Zf2,h1,Zd1 (fun e=>hk (by rw [←e,hq.1]))]
  |cons t r =>
   rw [h1] at h
   rw [Zb2,h1]
   cases hd:decide (t.kind=k) with
   |true=>rw [hd] at h;cases h
   |false=>rw [hd] at h;cases h;rfl
theorem V9{part:TL→PR α}(hp:LookN d n part):∀(k:Nat) (acc:List α) (l:TL),l.length<n→l.length<k →
  match Cv part k acc l with
  |.ok (e,l')=>l'.length≤l.length∧∀k' m,(l'≠[]∨Jr d m)→(l++m).length<k'→Cv part k' acc (l++m) = .ok (e,l'++m)
  |.error q=>q.length≤l.length∧∀k' m,(q≠[]∨Afb m)→(l++m).length<k'→Cv part k' acc (l++m) = .error (q++m)
 |0,_,_,_,h=>absurd h (Zm1 _)
 |k+1,acc,l,hn,hk=>by
  have ht:=Bt l
  simp only [Cv]
  cases hi:isT [44] l with
  |false =>
   refine⟨Zn1 _,fun k' m hc hk' =>?_⟩
   cases k' with
   |zero=>exact absurd hk' (Zm1 _)
   |succ k' =>
    have:isT [44] (l++m)=false:=by
     by_cases h0:l=[]
     ·subst h0
      exact Agf (hc.resolve_left (fun q=>q rfl)) (by decide) (by decide)
     ·rw [Ez h0,hi]
    simp only [Cv,this]
  |true =>
   have h0:=Zu hi
   have hlt:=J3 hi
   cases hq:part l.tail with
   |error q =>
    simp only
    have h1:=hp.ler l.tail q (by omega) hq
    refine⟨by omega,fun k' m hc hk' =>?_⟩
    cases k' with
    |zero=>exact absurd hk' (Zm1 _)
    |succ k'=>simp only [Cv,Ez h0,hi,Ev h0,hp.er l.tail m q (by omega) hq hc]
   |ok x =>
    obtain⟨x,l1⟩:=x
    have h1:=hp.le l.tail x l1 (by omega) hq
    have ih:=V9 hp k (acc++[x]) l1 (by omega) (by omega)
    simp only
    cases hr:Cv part k (acc++[x]) l1 with
    |error q =>
     rw [hr] at ih
     simp only at ih ⊢
     refine⟨by omega,fun k' m hc hk' =>?_⟩
     cases k' with
     |zero=>exact absurd hk' (Zm1 _)
     |succ k' =>
      simp only [Cv,Ez h0,hi,Ev h0,hp.ok l.tail m x l1 (by omega) hq (Bfe (Aiz ih.1 hc))]
      refine ih.2 k' m hc ?_
      simp only [Zh1] at hk' ⊢
      omega
    |ok y =>
     obtain⟨e,l'⟩:=y
     rw [hr] at ih
     simp only at ih ⊢
     refine⟨by omega,fun k' m hc hk' =>?_⟩
     cases k' with
     |zero=>exact absurd hk' (Zm1 _)
     |succ k' =>
      simp only [Cv,Ez h0,hi,Ev h0,hp.ok l.tail m x l1 (by omega) hq (Aiz ih.1 hc)]
      refine ih.2 k' m hc ?_
      simp only [Zh1] at hk' ⊢
      omega
theorem LookN.go{part:TL→PR α}(hp:LookN d n part) (acc:List α):LookN d n (fun l=>Cv part (l.length+1) acc l) where
 le l e l' hl h:=by
  have:=V9 hp (l.length+1) acc l hl (by omega)
  have h:Cv part (l.length+1) acc l=_:=h
  rw [h] at this
  exact this.1
 ler l q hl h:=by
  have:=V9 hp (l.length+1) acc l hl (by omega)
  have h:Cv part (l.length+1) acc l=_:=h
  rw [h] at this
  exact this.1
 ok l m e l' hl h hc:=by
  have:=V9 hp (l.length+1) acc l hl (by omega)
  have h:Cv part (l.length+1) acc l=_:=h
  rw [h] at this
  exact this.2 _ m hc (by omega)
 er l m q hl h hc:=by
  have:=V9 hp (l.length+1) acc l hl (by omega)
  have h:Cv part (l.length+1) acc l=_:=h
  rw [h] at this
  exact this.2 _ m hc (by omega)
theorem LookN.list{part:TL→PR α}(hp:LookN d n part):LookN d n (Afg part):=by
 have e:Afg part=bP part fun x l=>Cv part (l.length+1) [x] l:=rfl
 rw [e]
 exact LookN.bind hp fun x=>LookN.go hp [x]
end Go.Proofs.YthndhaolemgbdaaGreatDoor
namespace Go.Proofs.YthndhaolemgbdaaGreatDoor
open Go.Ax
variable {α β:Type}{n:Nat}{d:Bool}
theorem Xb{l:TL}(h:l≠[]) (sg:List (Str×Int)) (m:TL):sg.find? (fun p=>isT p.1 (l++m))=sg.find? (fun p=>isT p.1 l):=by
 simp only [Ez h]
theorem Avm{m:TL}(h:Jr d m) {sg:List (Str×Int)}(hs:∀p,p∈sg→p.1≠[59]∧nq p.1):sg.find? (fun p=>isT p.1 m)=none :=
 List.find?_eq_none.2 fun p hp=>by simp [Agf h (hs p hp).1 (hs p hp).2]
theorem V2{part:TL→PR Xpr}(hp:LookN d n part) {sg:List (Str×Int)}(hs:∀p,p∈sg→p.1≠[59]∧nq p.1):∀(k:Nat) (e:Xpr) (l:TL),l.length<n→l.length<k →
  match Bh part sg k e l with
  |.ok (e',l')=>l'.length≤l.length∧∀k' m,(l'≠[]∨Jr d m)→(l++m).length<k'→Bh part sg k' e (l++m) = .ok (e',l'++m)
  |.error q=>q.length≤l.length∧∀k' m,(q≠[]∨Afb m)→(l++m).length<k'→Bh part sg k' e (l++m) = .error (q++m)
 |0,_,_,_,h=>absurd h (Zm1 _)
 |k+1,e,l,hn,hk=>by
  have ht:=Bt l
  simp only [Bh]
  cases hi:sg.find? (fun p=>isT p.1 l) with
  |none =>
   refine⟨Zn1 _,fun k' m hc hk' =>?_⟩
   cases k' with
   |zero=>exact absurd hk' (Zm1 _)
   |succ k' =>
    have:sg.find? (fun p=>isT p.1 (l++m))=none:=by
     by_cases h0:l=[]
     ·subst h0
      exact Avm (hc.resolve_left (fun q=>q rfl)) hs
     ·rw [Xb h0,hi]
    simp only [Bh,this]
  |some p =>
   have h0:=Zu (Adn hi)
   have hlt:=J3 (Adn hi)
   cases hq:part l.tail with
   |error q =>
    simp only
    have h1:=hp.ler l.tail q (by omega) hq
    refine⟨by omega,fun k' m hc hk' =>?_⟩
    cases k' with
    |zero=>exact absurd hk' (Zm1 _)
    |succ k'=>simp only [Bh,Xb h0,hi,Ev h0,hp.er l.tail m q (by omega) hq hc]
   |ok x =>
    obtain⟨x,l1⟩:=x
    have h1:=hp.le l.tail x l1 (by omega) hq
    have ih:=V2 hp hs k (mkX p.2 [e,x]) l1 (by omega) (by omega)
    simp only
    cases hr:Bh part sg k (mkX p.2 [e,x]) l1 with
    |error q =>
     rw [hr] at ih
     simp only at ih ⊢
     refine⟨by omega,fun k' m hc hk' =>?_⟩
     cases k' with
     |zero=>exact absurd hk' (Zm1 _)
     |succ k' =>
      simp only [Bh,Xb h0,hi,Ev h0,hp.ok l.tail m x l1 (by omega) hq (Bfe (Aiz ih.1 hc))]
      refine ih.2 k' m hc ?_
      simp only [Zh1] at hk' ⊢
      omega
    |ok y =>
     obtain⟨e,l'⟩:=y
     rw [hr] at ih
     simp only at ih ⊢
     refine⟨by omega,fun k' m hc hk' =>?_⟩
     cases k' with
     |zero=>exact absurd hk' (Zm1 _)
     |succ k' =>
      simp only [Bh,Xb h0,hi,Ev h0,hp.ok l.tail m x l1 (by omega) hq (Aiz ih.1 hc)]
      refine ih.2 k' m hc ?_
      simp only [Zh1] at hk' ⊢
      omega
theorem LookN.left{part:TL→PR Xpr}(hp:LookN d n part) {sg:List (Str×Int)}(hs:∀p,p∈sg→p.1≠[59]∧nq p.1):LookN d n (B0 part sg):=by
 have e:B0 part sg=bP part fun x l=>Bh part sg (l.length+1) x l:=by
  funext l
  simp only [B0,bP]
  cases part l<;>rfl
 rw [e]
 refine LookN.bind hp fun x=>⟨fun l e l' hl h =>?_,fun l q hl h =>?_,fun l m e l' hl h hc =>?_,fun l m q hl h hc =>?_⟩
 ·have:=V2 hp hs (l.length+1) x l hl (by omega)
  have h:Bh part sg (l.length+1) x l=_:=h
  rw [h] at this
  exact this.1
 ·have:=V2 hp hs (l.length+1) x l hl (by omega)
  have h:Bh part sg (l.length+1) x l=_:=h
  rw [h] at this
  exact this.1
 ·have:=V2 hp hs (l.length+1) x l hl (by omega)
  have h:Bh part sg (l.length+1) x l=_:=h
  rw [h] at this
  exact this.2 _ m hc (by omega)
 ·have:=V2 hp hs (l.length+1) x l hl (by omega)
  have h:Bh part sg (l.length+1) x l=_:=h
  rw [h] at this
  exact this.2 _ m hc (by omega)
theorem LookN.mono{m:Nat}(h:m≤n) {p:TL→PR α}(hp:LookN d n p):LookN d m p :=
 ⟨fun l e l' hl=>hp.le l e l' (by omega),fun l q hl=>hp.ler l q (by omega),fun l m e l' hl=>hp.ok l m e l' (by omega),fun l m q hl=>hp.er l m q (by omega)⟩
def brP(rec:TL→PR Xpr):TL→PR Xpr:=bP rec fun e l=>match isT [41] l with|true=>Hq e l.tail|false =>.error l
theorem A4d(rec:TL→PR Xpr) (t:Tok) (r:TL):Bv rec (t::r) =
  if t.kind=2 then .ok (.mk 2 ⟨0,0,[]⟩ t.s [],r)
  else if t.kind=3 then .ok (I5 3 t.n [],r)
  else if t.kind=4 then .ok (I5 4 0 t.s,r)
  else if t.kind=5 then .ok (I5 5 0 t.s,r)
  else if t.kind=1∧t.s=X6 then .ok (I5 2 1 [],r)
  else if t.kind=1∧t.s=Mg then .ok (I5 2 0 [],r)
  else if t.kind=1∧t.s=sNULL then .ok (I5 1 0 [],r)
  else match isT [40] (t::r) with
   |true=>brP rec r
   |false =>.error (t::r):=by
 simp only [Bv]
 repeat (split; · rfl)
 cases h:isT [40] (t::r) with
 |false=>rfl
 |true =>
  simp only [brP,bP,if_true]
  cases rec r with
  |error q=>rfl
  |ok x =>
   obtain⟨e,l'⟩:=x
   simp only
   cases isT [41] l'<;>rfl
def Wh(t:Tok):Option Xpr :=
 if t.kind=2 then some (.mk 2 ⟨0,0,[]⟩ t.s [])
 else if t.kind=3 then some (I5 3 t.n [])
 else if t.kind=4 then some (I5 4 0 t.s)
 else if t.kind=5 then some (I5 5 0 t.s)
 else if t.kind=1∧t.s=X6 then some (I5 2 1 [])
 else if t.kind=1∧t.s=Mg then some (I5 2 0 [])
 else if t.kind=1∧t.s=sNULL then some (I5 1 0 [])
 else none
theorem Kx(rec:TL→PR Xpr) (t:Tok) (r:TL):Bv rec (t::r)=match Wh t with
  |some v =>.ok (v,r)
  |none=>match isT [40] (t::r) with
   |true=>brP rec r
   |false =>.error (t::r):=by
 rw [A4d]
 unfold Wh
 by_cases h2:t.kind=2
 ·rw [if_pos h2,if_pos h2]
 rw [if_neg h2,if_neg h2]
 by_cases h3:t.kind=3
 ·rw [if_pos h3,if_pos h3]
 rw [if_neg h3,if_neg h3]
 by_cases h4:t.kind=4
 ·rw [if_pos h4,if_pos h4]
 rw [if_neg h4,if_neg h4]
 by_cases h5:t.kind=5
 ·rw [if_pos h5,if_pos h5]
 rw [if_neg h5,if_neg h5]
 by_cases h6:t.kind=1∧t.s=X6
 ·rw [if_pos h6,if_pos h6]
 rw [if_neg h6,if_neg h6]
 by_cases h7:t.kind=1∧t.s=Mg
 ·rw [if_pos h7,if_pos h7]
 rw [if_neg h7,if_neg h7]
 by_cases h8:t.kind=1∧t.s=sNULL
 ·rw [if_pos h8,if_pos h8]
 rw [if_neg h8,if_neg h8]
end Go.Proofs.YthndhaolemgbdaaGreatDoor
namespace Go.Proofs.YthndhaolemgbdaaGreatDoor
open Go.Ax
inductive Der:TL→Xpr→Prop
 |lit {t:Tok}{v:Xpr}:Wh t=some v→Der [t] v
 |br {o c:Tok}{ts:TL}{e:Xpr}:isT [40] [o]=true→isT [41] [c]=true→Der ts e→Der (o::(ts++[c])) e
 |un {s:Str}{k:Int}{t:Tok}{ts:TL}{e:Xpr}:(s=sNOT∧k=3∨s=[45]∧k=15)→isT s [t]=true→Der ts e→Der (t::ts) (mkX k [e])
 |op {s:Str}{p:Nat}{k:Int}{o:Tok}{ts us:TL}{a b:Xpr}:(s,p,k)∈opTab→isT s [o]=true→Der ts a→Der us b→Der (ts++o::us) (mkX k [a,b])
 |isn {o n:Tok}{ts:TL}{e:Xpr}:isT sIS [o]=true→isT sNULL [n]=true→Der ts e→Der (ts++[o,n]) (mkX 16 [e])
 |nis {o m n:Tok}{ts:TL}{e:Xpr}:isT sIS [o]=true→isT sNOT [m]=true→isT sNULL [n]=true→Der ts e→Der (ts++[o,m,n]) (mkX 3 [mkX 16 [e]])
def Cns{α:Type}(p:TL→PR α) (Q:TL→α→Prop):Prop:=∀l e l',p l = .ok (e,l')→∃c,l=c++l'∧Q c e
theorem Uy{s:Str}{l:TL}(h:isT s l=true):∃t,l=t::l.tail∧isT s [t]=true:=by
 cases l with
 |nil=>cases h
 |cons t r=>exact⟨t,rfl,h⟩
theorem A1u{rec:TL→PR Xpr}(h:Cns rec Der):Cns (Bv rec) Der:=fun l e l' hp=>by
 cases l with
 |nil=>cases hp
 |cons t r =>
  rw [Kx] at hp
  cases hv:Wh t with
  |some v =>
   rw [hv] at hp
   cases hp
   exact⟨[t],rfl,.lit hv⟩
  |none =>
   rw [hv] at hp
   cases hi:isT [40] (t::r) with
   |false=>rw [hi] at hp;cases hp
   |true =>
    rw [hi] at hp
    simp only [brP,bP] at hp
    cases hq:rec r with
    |error q=>rw [hq] at hp;cases hp
    |ok x =>
     obtain⟨e1,l1⟩:=x
     rw [hq] at hp
     simp only at hp
     cases hj:isT [41] l1 with
     |false=>rw [hj] at hp;cases hp
     |true =>
      rw [hj] at hp
      cases hp
      obtain⟨c,hc,hd⟩:=h r e l1 hq
      obtain⟨z,hz,hz1⟩:=Uy hj
      exact⟨t::(c++[z]),by rw [hc,hz];simp,.br hi hz1 hd⟩
theorem A7w{part:TL→PR Xpr}{sg:List (Str×Int)}(h:Cns part Der) (hs:∀q,q∈sg→∃p,(q.1,p,q.2)∈opTab):∀(n:Nat) (c0:TL) (e:Xpr) (l:TL) (e':Xpr) (l':TL),Der c0 e→Bh part sg n e l = .ok (e',l')→∃c,l=c++l'∧Der (c0++c) e'
 |0,_,_,_,_,_,_,hp=>by cases hp
 |n+1,c0,e,l,e',l',h0,hp=>by
  simp only [Bh] at hp
  cases hf:sg.find? (fun p=>isT p.1 l) with
  |none =>
   rw [hf] at hp
   cases hp
   exact⟨[],rfl,by rw [List.append_nil];exact h0⟩
  |some p =>
   rw [hf] at hp
   have hi:=Adn hf
   obtain⟨q,hq⟩:=hs p (List.mem_of_find?_eq_some hf)
   obtain⟨t,ht,ht1⟩:=Uy hi
   cases hx:part l.tail with
   |error q=>simp only [hx] at hp;cases hp
   |ok x =>
    obtain⟨x,l1⟩:=x
    simp only [hx] at hp
    obtain⟨c1,hc1,hd1⟩:=h _ _ _ hx
    obtain⟨c2,hc2,hd2⟩:=A7w h hs n (c0++t::c1) _ l1 e' l' (.op hq ht1 h0 hd1) hp
    refine⟨t::(c1++c2),?_,?_⟩
    ·rw [ht,hc1,hc2];simp
    ·have e:c0++t::(c1++c2)=(c0++t::c1)++c2:=by simp
     rw [e]
     exact hd2
theorem X4{part:TL→PR Xpr}{sg:List (Str×Int)}(h:Cns part Der) (hs:∀q,q∈sg→∃p,(q.1,p,q.2)∈opTab):Cns (B0 part sg) Der:=fun l e l' hp=>by
 simp only [B0] at hp
 cases hx:part l with
 |error q=>rw [hx] at hp;cases hp
 |ok x =>
  obtain⟨x,l1⟩:=x
  rw [hx] at hp
  obtain⟨c1,hc1,hd1⟩:=h _ _ _ hx
  obtain⟨c2,hc2,hd2⟩:=A7w h hs _ c1 x l1 e l' hd1 hp
  exact⟨c1++c2,by rw [hc1,hc2,Zj1],hd2⟩
theorem Zz{s:Str}{k:Int}{part:TL→PR Xpr}(h:Cns part Der) (hk:s=sNOT∧k=3∨s=[45]∧k=15):∀(l:TL) (e:Xpr) (l':TL),A7 s k part l = .ok (e,l')→∃c,l=c++l'∧Der c e
 |[],e,l',hp=>h _ _ _ hp
 |t::r,e,l',hp=>by
  simp only [A7] at hp
  cases hi:isT s (t::r) with
  |true =>
   rw [hi] at hp
   cases hx:A7 s k part r with
   |error q=>simp only [hx] at hp;cases hp
   |ok x =>
    obtain⟨x,l1⟩:=x
    simp only [hx] at hp
    cases hp
    obtain⟨c,hc,hd⟩:=Zz h hk r x l' hx
    exact⟨t::c,by rw [hc];rfl,.un hk hi hd⟩
  |false =>
   rw [hi] at hp
   exact h _ _ _ hp
theorem Bda:∀q,q∈cmpS→∃p,(q.1,p,q.2)∈opTab:=by
 intro q hq
 exact⟨4,by revert q;decide⟩
theorem Bah{sum:TL→PR Xpr}(h:Cns sum Der):Cns (Si sum) Der:=fun l e l' hp=>by
 simp only [Si] at hp
 cases hx:sum l with
 |error q=>rw [hx] at hp;cases hp
 |ok x =>
  obtain⟨x,l1⟩:=x
  rw [hx] at hp
  obtain⟨c1,hc1,hd1⟩:=h _ _ _ hx
  subst hc1
  cases hf:cmpS.find? (fun p=>isT p.1 l1) with
  |some p =>
   simp only [hf] at hp
   obtain⟨t,ht,ht1⟩:=Uy (Adn hf)
   obtain⟨q,hq⟩:=Bda p (List.mem_of_find?_eq_some hf)
   cases hy:sum l1.tail with
   |error q=>simp only [hy] at hp;cases hp
   |ok y =>
    obtain⟨y,l2⟩:=y
    simp only [hy] at hp
    cases hp
    obtain⟨c2,hc2,hd2⟩:=h _ _ _ hy
    refine⟨c1++t::c2,?_,.op hq ht1 hd1 hd2⟩
    rw [ht,hc2]
    simp
  |none =>
   simp only [hf] at hp
   cases hi:isT sIS l1 with
   |false =>
    simp only [hi] at hp
    cases hp
    exact⟨c1,rfl,hd1⟩
   |true =>
    simp only [hi] at hp
    obtain⟨t,ht,ht1⟩:=Uy hi
    simp only [isP] at hp
    cases hn:isT sNOT l1.tail with
    |true =>
     rw [hn] at hp
     obtain⟨m,hm,hm1⟩:=Uy hn
     cases hu:isT sNULL l1.tail.tail with
     |false=>simp only [hu] at hp;cases hp
     |true =>
      simp only [hu] at hp
      cases hp
      obtain⟨n,hn2,hn1⟩:=Uy hu
      refine⟨c1++[t,m,n],?_,.nis ht1 hm1 hn1 hd1⟩
      have e:l1=t::m::n::l1.tail.tail.tail:=by rw [←hn2,←hm,←ht]
      rw [Zj1]
      exact congrArg (c1++·) e
    |false =>
     rw [hn] at hp
     cases hu:isT sNULL l1.tail with
     |false=>simp only [hu] at hp;cases hp
     |true =>
      simp only [hu] at hp
      cases hp
      obtain⟨n,hn2,hn1⟩:=Uy hu
      refine⟨c1++[t,n],?_,.isn ht1 hn1 hd1⟩
      have e:l1=t::n::l1.tail.tail:=by rw [←hn2,←ht]
      rw [Zj1]
      exact congrArg (c1++·) e
theorem Bcu{rec:TL→PR Xpr}(h:Cns rec Der):Cns (lev rec 1) Der:=by
 have h7:Cns (A7 [45] 15 (Bv rec)) Der:=Zz (A1u h) (.inr ⟨rfl,rfl⟩)
 have h6:=X4 (sg:=[([42],14)]) h7 (fun q hq=>⟨6,by revert q;decide⟩)
 have h5:=X4 (sg:=[([43],12),([45],13)]) h6 (fun q hq=>⟨5,by revert q;decide⟩)
 have h4:=Bah h5
 have h3:Cns (A7 sNOT 3 _) Der:=Zz h4 (.inl ⟨rfl,rfl⟩)
 have h2:=X4 (sg:=[(Am4,4)]) h3 (fun q hq=>⟨2,by revert q;decide⟩)
 exact X4 (sg:=[(sOR,5)]) h2 (fun q hq=>⟨1,by revert q;decide⟩)
theorem Ayb:∀n,Cns (orN n) Der
 |0=>fun _ _ _ h=>by cases h
 |n+1=>Bcu (Ayb n)
theorem Bfp:Cns orW Der:=fun l e l' h=>Ayb _ l e l' h
end Go.Proofs.YthndhaolemgbdaaGreatDoor
namespace Go.Proofs.YthndhaolemgbdaaGreatDoor
open Go.Ax
def signsL:List (Int×Str):=[(4,[65,78,68]),(5,[79,82]),(6,[61]),(7,[60,62]),(8,[60]),(9,[60,61]),(10,[62]),(11,[62,61]),(12,[43]),(13,[45]),(14,[42])]
def wordsL:List Str:=[[65,68,68],[65,78,68],[65,83,67],[66,79,79,76],[66,89],[66,89,84,69,83],[67,72,69,67,75],[67,82,69,65,84,69],[68,69,76,69,84,69],[68,69,83,67],[68,82,79,80],[70,65,76,83,69],[70,82,79,77],[73,78,68,69,88],[73,78,83,69,82,84],[73,78,84],[73,78,84,79],[73,83],[75,69,89],[76,73,77,73,84],[78,79,84],[78,85,76,76],[79,78],[79,82],[79,82,68,69,82],[80,82,73,77,65,82,89],[82,69,70,69,82,69,78,67,69,83],[83,69,76,69,67,84],[83,69,84],[84,65,66,76,69],[84,69,88,84],[84,82,85,69],[85,78,73,81,85,69],[85,80,68,65,84,69],[86,65,76,85,69,83],[87,72,69,82,69]]
def Amm:List Str:=[[],[],[66,79,79,76],[73,78,84],[84,69,88,84],[66,89,84,69,83]]
def ttL:List (Nat×Ax.Ty):=[
 (1,.fn),
 (3,.int .i64),
 (4,.bool),
 (5,.int .u8),
 (9,.str),
 (21,.int .i32),
 (23,.st (some .val) [(0,3),(1,3),(2,9)] [.int .i64 0,.int .i64 0,.str []]),
 (24,.sl .expr),
 (26,.st (some .expr) [(0,3),(1,23),(4,9),(5,24)] [.int .i64 0,.int .i64 0,.int .i64 0,.str [],.str [],.sl .expr [] .nil]),
 (29,.int .i64),
 (34,.sl .str),
 (38,.fn),
 (39,.sl .col),
 (40,.sl .exprs),
 (41,.sl .set),
 (42,.sl .bool),
 (44,.st (some .stmt) [(0,3),(1,9),(2,9),(3,39),(4,34),(5,24),(6,40),(7,41),(8,4),(9,26),(15,34),(16,42),(17,3)] [.int .i64 0,.str [],.str [],.sl .col [] .nil,.sl .str [] .nil,.sl .expr [] .nil,.sl .exprs [] .nil,.sl .set [] .nil,.bool false,.int .i64 0,.int .i64 0,.int .i64 0,.str [],.str [],.sl .expr [] .nil,.sl .str [] .nil,.sl .bool [] .nil,.int .i64 0]),
 (63,.sl .tok),
 (67,.st (some .tok) [(0,3),(1,3),(2,9),(3,3)] [.int .i64 0,.int .i64 0,.str [],.int .i64 0]),
 (68,.int .u64),
 (71,.sl .int),
 (77,.ptr),
 (78,.sl .byte),
 (80,.st none [(0,77),(1,78)] [.nilp,.sl .byte [] .nil]),
 (82,.st none [(0,80)] [.nilp,.sl .byte [] .nil]),
 (83,.fn),
 (89,.st (some .set) [(0,9),(1,26)] [.str [],.int .i64 0,.int .i64 0,.int .i64 0,.str [],.str [],.sl .expr [] .nil]),
 (94,.fn),
 (100,.st (some .num) [(0,4),(1,71)] [.bool false,.sl .int [] .nil]),
 (106,.fn),
 (111,.st (some .col) [(0,9),(1,3),(2,4),(3,4),(4,9)] [.str [],.int .i64 0,.bool false,.bool false,.str []]),
 (118,.fn),
 (120,.fn),
 (121,.ptr),
 (126,.st none [(0,63),(1,3)] [.sl .tok [] .nil,.int .i64 0]),
 (128,.st none [(0,126),(2,4),(3,3)] [.sl .tok [] .nil,.int .i64 0,.bool false,.int .i64 0]),
 (130,.st (some .got) [(0,3),(1,4)] [.int .i64 0,.bool false]),
 (135,.fn),
 (144,.fn),
 (145,.ptr),
 (147,.map),
 (148,.ptr),
 (158,.fn),
 (164,.ptr),
 (176,.st (some .pair) [(0,9),(1,3)] [.str [],.int .i64 0]),
 (188,.arr 2 .str),
 (191,.arr 6 .str),
 (194,.ptr),
 (201,.sl .pair),
 (202,.int .u64),
 (221,.arr 36 .str),
 (226,.arr 256 .byte),
 (228,.st none [(0,5),(1,5)] [.int .u8 0,.int .u8 0]),
 (230,.int .u32),
 (233,.fn)]
def elT:Ck→TypeId
 |.byte=>5
 |.int=>3
 |.u64=>202
 |.str=>9
 |.bool=>4
 |.val=>23
 |.tok=>67
 |.col=>111
 |.expr=>26
 |.num=>100
 |.set=>89
 |.stmt=>44
 |.got=>130
 |.pair=>176
 |.exprs=>24
 |.strs=>34
 |.bytes=>78
 |_=>0
theorem Asw:(ttL.all fun p=>Cj Tryz.prog elT (Amw ttL) p.1)=true:=by kernel_rfl
def glT:Nat→Option Gv:=tbl [(0,.map signsL),(1,.arr .str Amm),(2,.arr .str wordsL),(3,.num .i64)]
theorem follows:Tryz.prog.follows .mixedOrders=true:=by kernel_rfl
abbrev FO:=FnOk Tryz.prog elT glT
abbrev FM:=FnLn Tryz.prog elT glT
abbrev HX:=Hx Tryz.prog elT glT (Amw ttL)
def pxO{R:Type}(c:List (Nat×Jt R)) (q:List (Nat×Iu R)) (l:List (Nat×A91 R)) (w:List (Nat×Uh R)):Px R:=⟨Amw ttL,glT,Awf c,Alu q,Bh0 l,tbl w⟩
abbrev cA {R:Type}{sa sr:List Sg}(F:FT sa sr):Jt R:=Y8 sa sr F
abbrev qA {R:Type}{sa sr:List Sg}(F:FT sa sr):Iu R:=W5 sa sr F
theorem fR{f:FuncId}{fn:Func}{c:Code}{sa sr:List Sg}{px:Px (HV sr)}{F:FT sa sr}{n:Nat}(hf:Tryz.prog.funcs[f]? = some fn) (hb:fn.body=some c) (h:∀cx,HX cx→Lv cx px∧∀i,i<n→Ch cx px (lp fn i)) (hF:∀x,A5m px fn sa sr x some=F x) (hname:(fn.name == "runtime.NumGoroutine")=false:=by kernel_rfl) (hchk:(Of fn&&Nat.ble sa.length fn.ntmps&&Dw (Bd 0 sa) [])=true:=by kernel_rfl) (hn:J9 fn=n:=by kernel_rfl):FO f sa sr F:=fO (A5h Asw) follows hf hb hname hchk hn h hF
theorem fRL{f:FuncId}{fn:Func}{c:Code}{sg so:Sig}{px:Px (HV so.sgs)}{F:FL sg so}{n:Nat}(hf:Tryz.prog.funcs[f]? = some fn) (hb:fn.body=some c) (h:∀cx,HX cx→Lv cx px∧∀i,i<n→Ch cx px (lp fn i)) (hF:∀x,Aqr px fn sg so x some=F x) (hname:(fn.name == "runtime.NumGoroutine")=false:=by kernel_rfl) (hchk:(Of fn&&Nat.ble sg.n fn.ntmps)=true:=by kernel_rfl) (hn:J9 fn=n:=by kernel_rfl):FM f sg so F:=fL (A5h Asw) follows hf hb hname hchk hn h hF
end Go.Proofs.YthndhaolemgbdaaGreatDoor
namespace Go.Proofs.YthndhaolemgbdaaGreatDoor.Lp
open Go.Sx Go.RowKit
abbrev Tok:=Go.Ax.Tok
def pre(l m:List UInt8):Bool:=decide (m.length≤l.length)&&decide (l.take m.length=m)
theorem Z2(a b c d:Int) (h : 0≤a∧a≤c) (h' : 0≤b∧b≤d) : 0≤a*b∧a*b≤c*d :=
 ⟨Int.mul_nonneg h.1 h'.1,Int.mul_le_mul h.2 h'.2 h'.1 (by omega)⟩
theorem Abl(x y:Int):x*y=(x / 4294967296)*(y / 4294967296)*18446744073709551616+((x / 4294967296)*(y % 4294967296)+(x % 4294967296)*(y / 4294967296))*4294967296+(x % 4294967296)*(y % 4294967296):=by
 have hx:=Int.mul_ediv_add_emod x 4294967296
 have hy:=Int.mul_ediv_add_emod y 4294967296
 generalize x / 4294967296=p at *
 generalize x % 4294967296=q at *
 generalize y / 4294967296=r at *
 generalize y % 4294967296=s at *
 rw [←hx,←hy]
 simp only [Int.add_mul,Int.mul_add]
 have e1 : 4294967296*p*(4294967296*r)=p*r*18446744073709551616:=by
  rw [Int.mul_assoc,Int.mul_left_comm p,←Int.mul_assoc]
  omega
 have e2 : 4294967296*p*s=p*s*4294967296:=by rw [Int.mul_assoc];omega
 have e3:q*(4294967296*r)=q*r*4294967296:=by rw [Int.mul_left_comm];omega
 omega
def inI(n:Int):Prop := -9223372036854775808≤n∧n≤9223372036854775807
instance (n:Int):Decidable (inI n):=by unfold inI;infer_instance
def J4(n:Int):Int:=if n<0 then -n else n
def vis(c:Int):Bool:=decide (32≤c)&&decide (c≤126)
def visF(l:List UInt8):Bool:=l.all fun b=>vis b.toNat
theorem A05(l:List UInt8) (j:Int) (h : 0≤j∧j<l.length):l.drop j.toNat=l.getD j.toNat 0::l.drop (j+1).toNat:=by
 have h1:j.toNat<l.length:=by omega
 have h2:(j+1).toNat=j.toNat+1:=by omega
 rw [h2,List.drop_eq_getElem_cons h1]
 simp [List.getD_eq_getElem?_getD,h1]
theorem Ahu(p:Int→Bool) (l:List UInt8) (j:Int) (h : 0≤j∧j<l.length):((l.drop j.toNat).all fun b=>p b.toNat)=(p (byt l j)&&(l.drop (j+1).toNat).all fun b=>p b.toNat):=by
 rw [A05 l j h]
 rfl
def rightF(k n:Int) (s:List UInt8):Bool :=
 if k=1 then n == 0&&decide (s=[]) else if k=2 then(n == 0||n == 1)&&decide (s=[]) else if k=3 then decide (s=[])
 else if k=4 then n == 0&&decide ((s.length:Int)≤1000)&&visF s else if k=5 then n == 0&&decide ((s.length:Int)≤1000) else false
def checkF(k n:Int) (s:List UInt8):Int:=if rightF k n s then 0 else 2
def isUp(c:Int):Bool:=decide (65≤c)&&decide (c≤90)
def isLo(c:Int):Bool:=decide (97≤c)&&decide (c≤122)
def isDi(c:Int):Bool:=decide (48≤c)&&decide (c≤57)
def isIn(c:Int):Bool:=isLo c||isDi c||c == 95
def runTo(p:Int→Bool) (l:List UInt8) (i:Int):Int:=i+((l.drop i.toNat).takeWhile fun b=>p b.toNat).length
theorem Ey(l:List UInt8) (j:Int) (h : 0≤j∧j<l.length):l.drop j.toNat=l.getD j.toNat 0::l.drop (j+1).toNat:=by
 have h1:j.toNat<l.length:=by omega
 have h2:(j+1).toNat=j.toNat+1:=by omega
 rw [h2,List.drop_eq_getElem_cons h1]
 simp [List.getD_eq_getElem?_getD,h1]
theorem runTo_yes{p:Int→Bool}{l:List UInt8}{j:Int}(h : 0≤j∧j<l.length) (hp:p (byt l j)=true):runTo p l (j+1)=runTo p l j:=by
 unfold runTo
 rw [Ey l j h]
 have:p ((l.getD j.toNat 0).toNat:Int)=true:=hp
 simp only [List.takeWhile_cons,this,if_true,Zf1]
 omega
theorem runTo_no{p:Int→Bool}{l:List UInt8}{j:Int}(h : 0≤j∧j<l.length) (hp:p (byt l j)=false):runTo p l j=j:=by
 unfold runTo
 rw [Ey l j h]
 have:p ((l.getD j.toNat 0).toNat:Int)=false:=hp
 simp only [List.takeWhile_cons,this,Zj2,if_false,Zi1]
 omega
theorem runTo_end{p:Int→Bool}{l:List UInt8}{j:Int}(h:(l.length:Int)≤j):runTo p l j=j:=by
 unfold runTo
 rw [Zk1 (by omega)]
 simp
def aloneF(l:List UInt8) (i:Int):Bool:=i == l.length || !isIn (byt l i) && !isUp (byt l i)
def dg(c:Int):Int:=IntKind.i64.wrap (IntKind.u8.wrap (c-48))
theorem Bh3(c:Int) : 0≤dg c∧dg c≤255:=by
 have e1:IntKind.u8.wrap (c-48)=(c-48) % 256:=by simp [IntKind.wrap,IntKind.bits,IntKind.signed]
 unfold dg
 rw [e1,IntWalk.i64_in _ (by omega)]
 omega
theorem Bd1(c:Int) (h : 48≤c∧c≤303):dg c=c-48:=by
 have e1:IntKind.u8.wrap (c-48)=(c-48) % 256:=by simp [IntKind.wrap,IntKind.bits,IntKind.signed]
 unfold dg
 rw [e1,IntWalk.i64_in _ (by omega)]
 omega
def numGo:List UInt8→Int→Option Int
 |[],n=>some n
 |c::r,n=>if inI (n*10)∧inI (n*10+dg c.toNat) then numGo r (n*10+dg c.toNat) else none
theorem inI_dg(c:Int):inI (dg c):=by have:=Bh3 c;unfold inI;omega
def qGo:List UInt8→List UInt8→Int→List UInt8×Int
 |[],_,_=>([], -1)
 |[c],acc,i=>if c=39 then(acc,i+1) else([], -1)
 |c::d::r,acc,i=>if c=39 then(if d=39 then qGo r (acc++[39]) (i+2) else(acc,i+1)) else qGo (d::r) (acc++[c]) (i+1)
theorem byt_lit{l:List UInt8}{j:Int}{c:UInt8}:byt l j=(c.toNat:Int)↔l.getD j.toNat 0=c:=by
 unfold byt
 rw [←UInt8.toNat_inj]
 omega
theorem q_end{l acc:List UInt8}{j:Int}(h:(l.length:Int)≤j):qGo (l.drop j.toNat) acc j=([], -1):=by
 rw [Zk1 (by omega)]
 rfl
theorem q_last{l acc:List UInt8}{j:Int}(h : 0≤j) (hl:j+1=l.length) (hc:byt l j=39):qGo (l.drop j.toNat) acc j=(acc,j+1):=by
 rw [Ey l j (by omega),(byt_lit (c:=39)).1 hc,Zk1 (by omega)]
 rfl
theorem q_close{l acc:List UInt8}{j:Int}(h : 0≤j) (hl:j+1<l.length) (hc:byt l j=39) (hd:byt l (j+1)≠39):qGo (l.drop j.toNat) acc j=(acc,j+1):=by
 have hd':¬l.getD (j+1).toNat 0=39:=fun hh=>hd ((byt_lit (c:=39)).2 hh)
 rw [Ey l j (by omega),(byt_lit (c:=39)).1 hc,Ey l (j+1) (by omega)]
 simp only [qGo,if_true,if_neg hd']
theorem q_two{l acc:List UInt8}{j:Int}(h : 0≤j) (hl:j+1<l.length) (hc:byt l j=39) (hd:byt l (j+1)=39):qGo (l.drop j.toNat) acc j=qGo (l.drop (j+1+1).toNat) (acc++[39]) (j+1+1):=by
 rw [Ey l j (by omega),(byt_lit (c:=39)).1 hc,Ey l (j+1) (by omega),(byt_lit (c:=39)).1 hd]
 simp only [qGo,if_true]
 rw [show j+2=j+1+1 by omega]
theorem q_other{l acc:List UInt8}{j:Int}(h : 0≤j) (hl:j<l.length) (hc:¬byt l j=39):qGo (l.drop j.toNat) acc j=qGo (l.drop (j+1).toNat) (acc++[l.getD j.toNat 0]) (j+1):=by
 have hc':¬l.getD j.toNat 0=39:=fun hh=>hc ((byt_lit (c:=39)).2 hh)
 rw [Ey l j (by omega)]
 cases hd:l.drop (j+1).toNat with
 |nil=>simp only [qGo,if_neg hc']
 |cons d r=>simp only [qGo,if_neg hc']
def hexD(c:Int):Option Int:=if 48≤c∧c≤57 then some (c-48) else if 97≤c∧c≤102 then some (c-87) else none
theorem hexD_lt{c n:Int}(h:hexD c=some n) : 0≤n∧n≤15:=by
 unfold hexD at h
 split at h
 ·cases h;omega
 ·split at h
  ·cases h;omega
  ·cases h
def unGo:List UInt8→List UInt8→Option (List UInt8)
 |[],acc=>some acc
 |[_],_=>none
 |a::b::r,acc=>match hexD a.toNat,hexD b.toNat with
  |some x,some y=>unGo r (acc++[UInt8.ofNat (x*16+y).toNat])
  |_,_=>none
theorem Bb0:∀a b:Fin 16,IntKind.u8.wrap (((BitVec.ofInt IntKind.u8.bits (IntKind.u8.wrap ((a.val:Int)*2 ^ min (4:Int).toNat IntKind.u8.bits)) ||| BitVec.ofInt IntKind.u8.bits (b.val:Int)).toNat:Nat):Int)=((a.val*16+b.val:Nat):Int):=by decide +kernel
theorem joinhex'{x y:Int}(hx : 0≤x∧x≤15) (hy : 0≤y∧y≤15):IntKind.u8.wrap (((BitVec.ofInt IntKind.u8.bits (IntKind.u8.wrap (x*2 ^ min (4:Int).toNat IntKind.u8.bits)) ||| BitVec.ofInt IntKind.u8.bits y).toNat:Nat):Int)=((UInt8.ofNat (x*16+y).toNat).toNat:Int):=by
 obtain⟨a,rfl⟩:=Int.eq_ofNat_of_zero_le hx.1
 obtain⟨b,rfl⟩:=Int.eq_ofNat_of_zero_le hy.1
 have:=Bb0 ⟨a,by omega⟩ ⟨b,by omega⟩
 simp only at this
 rw [this]
 rw [show((a:Int)*16+(b:Int)).toNat=a*16+b by omega,UInt8.toNat_ofNat']
 omega
theorem un_step{l acc:List UInt8}{j:Int}(h : 0≤j) (hl:j+1<l.length):unGo (l.drop j.toNat) acc=match hexD (byt l j),hexD (byt l (j+1)) with
  |some x,some y=>unGo (l.drop (j+2).toNat) (acc++[UInt8.ofNat (x*16+y).toNat])
  |_,_=>none:=by
 rw [Ey l j (by omega),Ey l (j+1) (by omega),show j+1+1=j+2 by omega]
 rfl
def signs:List UInt8:=[40,41,44,42,61,60,62,43,45,59]
def signF(l:List UInt8):Int:=if pre l [60,62]||pre l [60,61]||pre l [62,61] then 2 else if 0≤Lib.indexByte signs (byt l 0).toNat.toUInt8 then 1 else 0
def idx(x:List UInt8):List (List UInt8)→Int→Int
 |[],_ => -1
 |l::r,i=>if x=l then i else idx x r (i+1)
theorem idx_ge(x:List UInt8):∀(ls:List (List UInt8)) (i:Int),0≤i→(0≤idx x ls i↔x∈ls)
 |[],i,_=>by simp [idx]
 |l::r,i,h=>by
  by_cases hx:x=l
  ·simp [idx,hx,h]
  ·simp [idx,hx,idx_ge x r (i+1) (by omega)]
def wordF(l:List UInt8):Bool:=wordsL.contains l
def nameF(l:List UInt8):Bool := !decide (l=[])&&decide ((l.length:Int)≤30)&&isLo (byt l 0)&&(runTo isIn l 0 == l.length)
def tokF(l:List UInt8) (i:Int):Option (Int×List UInt8×Int×Int) :=
 if pre (l.drop i.toNat) [120,39] then
  let n:=Lib.indexByte (l.drop (i+2).toNat) 39
  if n<0 then none else
  let x:=cut l (i+2) (i+2+n)
  match(if x.length % 2=0 then unGo x [] else none) with
  |none=>none
  |some b=>if 1000<(b.length:Int) then none else some (5,b,0,i+3+n)
 else if isUp (byt l i) then
  if wordF (cut l i (runTo isUp l i))&&aloneF l (runTo isUp l i) then some (1,cut l i (runTo isUp l i),0,runTo isUp l i) else none
 else if isLo (byt l i) then
  if nameF (cut l i (runTo isIn l i))&&aloneF l (runTo isIn l i) then some (2,cut l i (runTo isIn l i),0,runTo isIn l i) else none
 else if isDi (byt l i) then
  match numGo (cut l i (runTo isDi l i)) 0 with
  |none=>none
  |some n=>if(decide (cut l i (runTo isDi l i)=[48])||byt (cut l i (runTo isDi l i)) 0 != 48)&&aloneF l (runTo isDi l i) then some (3,cut l i (runTo isDi l i),n,runTo isDi l i) else none
 else if byt l i=39 then
  let q:=qGo (l.drop (i+1).toNat) [] (i+1)
  if rightF 4 0 q.1 then(if q.2<0 then none else some (4,q.1,0,q.2)) else none
 else if signF (l.drop i.toNat)=0 then none else some (6,cut l i (i+signF (l.drop i.toNat)),0,i+signF (l.drop i.toNat))
theorem runTo_range(p:Int→Bool) (l:List UInt8) (i:Int) (h : 0≤i∧i≤l.length):i≤runTo p l i∧runTo p l i≤l.length:=by
 unfold runTo
 have h1:=(List.takeWhile_prefix (fun b:UInt8=>p b.toNat) (l:=l.drop i.toNat)).length_le
 rw [Za2] at h1
 omega
theorem runTo_gt{p:Int→Bool}{l:List UInt8}{i:Int}(h : 0≤i∧i<l.length) (hp:p (byt l i)=true):i+1≤runTo p l i:=by
 have h1:=runTo_yes h hp
 have h2:=runTo_range p l (i+1) (by omega)
 omega
theorem cut_length(l:List UInt8) (a b:Int) (h : 0≤a∧a≤b∧b≤l.length):((cut l a b).length:Int)=b-a:=by
 unfold cut
 rw [List.length_take,Za2]
 omega
theorem signF_in(l:List UInt8) (h : 0<l.length):signF l=0∨signF l=1∨(signF l=2∧2≤l.length):=by
 unfold signF
 split
 ·rename_i hp
  right;right
  refine⟨rfl,?_⟩
  simp only [pre,Zd2,Zb1,Zg1,Zf1,Zi1] at hp
  omega
 ·split
  ·exact .inr (.inl rfl)
  ·exact .inl rfl
theorem qGo_in:∀(n:Nat) (l acc:List UInt8) (i:Int),l.length≤n→0≤i→(qGo l acc i).2 = -1∨(i+1≤(qGo l acc i).2∧(qGo l acc i).2≤i+l.length)
 |n,[],acc,i,_,h=>by left;rfl
 |n,[c],acc,i,_,h=>by
  simp only [qGo]
  split
  ·right;simp
  ·left;rfl
 |0,_::_::_,_,_,hn,_=>by simp at hn
 |n+1,c::d::r,acc,i,hn,h=>by
  simp only [Zf1] at hn ⊢
  simp only [qGo]
  split
  ·split
   ·rcases qGo_in n r (acc++[39]) (i+2) (by omega) (by omega) with h1|h1
    ·exact .inl h1
    ·right;omega
   ·right;simp;omega
  ·rcases qGo_in n (d::r) (acc++[c]) (i+1) (by simp;omega) (by omega) with h1|h1
   ·exact .inl h1
   ·right;simp at h1;omega
theorem indexByte_in:∀(l:List UInt8) (c:UInt8),Lib.indexByte l c = -1∨(0≤Lib.indexByte l c∧Lib.indexByte l c<l.length)
 |[],c =>.inl rfl
 |b::l,c=>by
  simp only [Lib.indexByte,Zf1]
  split
  ·right;omega
  ·rcases indexByte_in l c with h|h
   ·left;simp [h]
   ·right
    have:¬((Lib.indexByte l c == -1)=true):=by simp;omega
    rw [if_neg this]
    omega
def blankF(c:Int):Bool:=decide (0≤Lib.indexByte [32,9,10,13] c.toNat.toUInt8)
def allGo:Nat→List UInt8→Int→List Tok→Except Int (List Tok)
 |0,_,_,acc =>.ok acc
 |f+1,l,i,acc =>
  if(l.length:Int)≤i then .ok acc
  else if blankF (byt l i) then allGo f l (i+1) acc
  else match tokF l i with
   |none =>.error i
   |some (k,s,n,e)=>allGo f l e (acc++[⟨k,i,s,n⟩])
def allF(l:List UInt8):Except Int (List Tok):=allGo (l.length+1) l 0 []
theorem tok_end{l:List UInt8}{i:Int}(h0 : 0≤i∧i<l.length) {k:Int}{s:List UInt8}{n e:Int}(h:tokF l i=some (k,s,n,e)):i<e∧e≤l.length:=by
 unfold tokF at h
 split at h
 ·rename_i hx
  have hdl:(l.drop i.toNat).length=l.length-i.toNat:=Za2
  have h2 : 2≤(l.drop i.toNat).length:=by
   simp only [pre,Zb1,Zg1,Zf1,Zi1] at hx
   omega
  have hdl2:(l.drop (i+2).toNat).length=l.length-(i+2).toNat:=Za2
  have hib:=indexByte_in (l.drop (i+2).toNat) 39
  simp only at h
  split at h
  ·cases h
  ·split at h
   ·cases h
   ·split at h
    ·cases h
    ·cases h;omega
 ·split at h
  ·rename_i hu
   have hr:=runTo_range isUp l i (by omega)
   have hg:=runTo_gt h0 hu
   split at h
   ·cases h;omega
   ·cases h
  ·split at h
   ·rename_i hlo
    have hr:=runTo_range isIn l i (by omega)
    have hg:=runTo_gt (p:=isIn) h0 (by simp [isIn,hlo])
    split at h
    ·cases h;omega
    ·cases h
   ·split at h
    ·rename_i hd
     have hr:=runTo_range isDi l i (by omega)
     have hg:=runTo_gt h0 hd
     split at h
     ·cases h
     ·split at h
      ·cases h;omega
      ·cases h
    ·split at h
     ·have hqi:=qGo_in _ (l.drop (i+1).toNat) [] (i+1) (Zn1 _) (by omega)
      have hdl:(l.drop (i+1).toNat).length=l.length-(i+1).toNat:=Za2
      simp only at h
      split at h
      ·split at h
       ·cases h
       ·cases h;omega
      ·cases h
     ·split at h
      ·cases h
      ·have hdl:(l.drop i.toNat).length=l.length-i.toNat:=Za2
       have hs:=signF_in (l.drop i.toNat) (by omega)
       cases h
       omega
def signsI:List Int:=[40,41,44,42,61,60,62,43,45,59]
def clsF(c:Int):Int :=
 if isUp c then 1 else if isLo c then 2 else if isDi c then 3 else if c=95 then 4 else if c=39 then 5
 else if c=32∨c=9∨c=10∨c=13 then 6 else if signsI.contains c then 7 else 0
def isWd(c:Int):Bool:=decide (1≤clsF c)&&decide (clsF c≤4)
def rnumGo:List UInt8→Int→Option Int
 |[],n=>some n
 |c::r,n=>if clsF c.toNat≠3∨922337203685477580<n∨(n=922337203685477580∧7<(c.toNat:Int)-48) then none else rnumGo r (10*n+((c.toNat:Int)-48))
def rnumF(l:List UInt8):Int:=match rnumGo l 0 with
 |none => -1
 |some n=>if 1<(l.length:Int)∧byt l 0=48 then -1 else n
theorem cls3{c:Int}(h:clsF c=3) : 48≤c∧c≤57:=by
 unfold clsF at h
 split at h
 ·omega
 ·split at h
  ·omega
  ·split at h
   ·rename_i hd;simpa [isDi] using hd
   ·(repeat' split at h)<;>omega
theorem cut_one(l:List UInt8) (j:Int) (h : 0≤j∧j<l.length):cut l j (j+1)=[l.getD j.toNat 0]:=by
 unfold cut
 rw [Ey l j h,show(j+1).toNat-j.toNat=1 by omega]
 rfl
def nmOk(j c:Int):Bool:=decide (clsF c=2)||(!decide (j=0)&&(decide (clsF c=3)||decide (clsF c=4)))
def okGo:List UInt8→Int→Bool
 |[],_=>true
 |c::r,j=>nmOk j c.toNat&&okGo r (j+1)
def rnameF(l:List UInt8):Bool:=okGo l 0&&(decide (1≤(l.length:Int))&&decide ((l.length:Int)≤30))
def HexAt(l:List UInt8) (i:Int):Prop:=cut l i (runTo isWd l i)=[120]∧runTo isWd l i<l.length∧byt l (runTo isWd l i)=39
instance (l:List UInt8) (i:Int):Decidable (HexAt l i):=by unfold HexAt;infer_instance
def twoR(l:List UInt8) (i:Int):Prop:=i+1<l.length∧(cut l i (i+2)=[60,62]∨cut l i (i+2)=[60,61]∨cut l i (i+2)=[62,61])
instance (l:List UInt8) (i:Int):Decidable (twoR l i):=by unfold twoR;infer_instance
def tokR(l:List UInt8) (i:Int):Option (Int×List UInt8×Int×Int) :=
 if HexAt l i then
  let t:=runTo isWd l i
  let q:=runTo (fun c => !decide (c=39)) l (t+1)
  if q=l.length then none else
  match(if(cut l (t+1) q).length % 2=0 then unGo (cut l (t+1) q) [] else none) with
  |none=>none
  |some b=>if 1000<(b.length:Int) then none else some (5,b,0,q+1)
 else if clsF (byt l i)=1 then(if wordF (cut l i (runTo isWd l i)) then some (1,cut l i (runTo isWd l i),0,runTo isWd l i) else none)
 else if clsF (byt l i)=2 then(if rnameF (cut l i (runTo isWd l i)) then some (2,cut l i (runTo isWd l i),0,runTo isWd l i) else none)
 else if clsF (byt l i)=3 then(if 0≤rnumF (cut l i (runTo isWd l i)) then some (3,cut l i (runTo isWd l i),rnumF (cut l i (runTo isWd l i)),runTo isWd l i) else none)
 else if clsF (byt l i)=5 then
  let q:=qGo (l.drop (i+1).toNat) [] (i+1)
  if ¬q.2 = -1∧checkF 4 0 q.1=0 then some (4,q.1,0,q.2) else none
 else if clsF (byt l i)=7 then(if twoR l i then some (6,cut l i (i+2),0,i+2) else some (6,cut l i (i+1),0,i+1))
 else none
theorem tokR_end{l:List UInt8}{i:Int}(h0 : 0≤i∧i<l.length) {k:Int}{s:List UInt8}{n e:Int}(h:tokR l i=some (k,s,n,e)):i<e∧e≤l.length:=by
 unfold tokR at h
 have hr:=runTo_range isWd l i (by omega)
 split at h
 ·rename_i hx
  have hx1:=hx.2.1
  have hq:=runTo_range (fun c => !decide (c=39)) l (runTo isWd l i+1) (by omega)
  simp only at h
  split at h
  ·cases h
  ·split at h
   ·cases h
   ·split at h
    ·cases h
    ·cases h;omega
 ·have hg:∀c:Int,1≤c∧c≤4→clsF (byt l i)=c→i+1≤runTo isWd l i:=fun c hc he=>runTo_gt h0 (by simp [isWd];omega)
  split at h
  ·rename_i h1
   have:=hg 1 (by omega) h1
   split at h
   ·cases h;omega
   ·cases h
  ·split at h
   ·rename_i h1
    have:=hg 2 (by omega) h1
    split at h
    ·cases h;omega
    ·cases h
   ·split at h
    ·rename_i h1
     have:=hg 3 (by omega) h1
     split at h
     ·cases h;omega
     ·cases h
    ·split at h
     ·have hqi:=qGo_in _ (l.drop (i+1).toNat) [] (i+1) (Zn1 _) (by omega)
      have hdl:(l.drop (i+1).toNat).length=l.length-(i+1).toNat:=Za2
      simp only at h
      split at h
      ·rename_i h2
       cases h
       have:=h2.1
       omega
      ·cases h
     ·split at h
      ·split at h
       ·rename_i h2
        have:=h2.1
        cases h;omega
       ·cases h;omega
      ·cases h
def rallGo:Nat→List UInt8→Int→List Tok→Except Int (List Tok)
 |0,_,_,acc =>.ok acc
 |f+1,l,i,acc =>
  if(l.length:Int)≤i then .ok acc
  else if clsF (byt l i)=6 then rallGo f l (i+1) acc
  else match tokR l i with
   |none =>.error i
   |some (k,s,n,e)=>rallGo f l e (acc++[⟨k,i,s,n⟩])
def rallF(l:List UInt8):Except Int (List Tok):=rallGo (l.length+1) l 0 []
theorem Acb{p:Int→Prop}(h:∀n:Fin 256,p (n.val:Int)) (c:Int) (hc : 0≤c∧c≤255):p c:=by
 have:=h ⟨c.toNat,by omega⟩
 simpa [Int.toNat_of_nonneg hc.1] using this
theorem Bgx:∀n:Fin 256,isWd (n.val:Int)=(isUp (n.val:Int)||isIn (n.val:Int)):=by decide +kernel
theorem A1y:∀n:Fin 256,blankF (n.val:Int)=decide (clsF (n.val:Int)=6):=by decide +kernel
theorem A6y:∀n:Fin 256,decide (0≤Lib.indexByte signs (n.val:Int).toNat.toUInt8)=decide (clsF (n.val:Int)=7):=by decide +kernel
theorem Anc(c:Int) (hc : 0≤c∧c≤255):isWd c=(isUp c||isIn c):=Acb (p:=fun c=>isWd c=(isUp c||isIn c)) Bgx c hc
theorem A72(c:Int) (hc : 0≤c∧c≤255):blankF c=decide (clsF c=6):=Acb (p:=fun c=>blankF c=decide (clsF c=6)) A1y c hc
theorem Bc9(c:Int) (hc : 0≤c∧c≤255):decide (0≤Lib.indexByte signs c.toNat.toUInt8)=decide (clsF c=7):=Acb (p:=fun c=>decide (0≤Lib.indexByte signs c.toNat.toUInt8)=decide (clsF c=7)) A6y c hc
theorem u8_range(b:UInt8) : 0≤(b.toNat:Int)∧(b.toNat:Int)≤255:=by
 have:=b.toNat_lt
 omega
def tw(p:Int→Bool) (m:List UInt8):List UInt8:=m.takeWhile fun b=>p b.toNat
theorem Ds(p:Int→Bool) (l:List UInt8) (i:Int):runTo p l i=i+(tw p (l.drop i.toNat)).length:=rfl
theorem tw_len(p:Int→Bool):∀m:List UInt8,(tw p m).length≤m.length
 |[]=>by simp [tw]
 |x::m=>by
  have:=tw_len p m
  unfold tw at *
  simp only [List.takeWhile_cons]
  split<;>simp<;>omega
theorem tw_take(p:Int→Bool):∀m:List UInt8,m.take (tw p m).length=tw p m
 |[]=>by simp [tw]
 |x::m=>by
  have:=tw_take p m
  unfold tw at *
  simp only [List.takeWhile_cons]
  split
  ·simp [this]
  ·simp
theorem Nb(p:Int→Bool) (l:List UInt8) (i:Int) (h : 0≤i):cut l i (runTo p l i)=tw p (l.drop i.toNat):=by
 unfold cut
 rw [Ds,show(i+((tw p (l.drop i.toNat)).length:Int)).toNat-i.toNat=(tw p (l.drop i.toNat)).length by omega]
 exact tw_take p _
theorem Aqx{p q:Int→Bool}(hpq:∀b:UInt8,p b.toNat=true→q b.toNat=true):∀m:List UInt8,tw q m=tw p m++tw q (m.drop (tw p m).length)
 |[]=>by simp [tw]
 |x::m=>by
  have ih:=Aqx hpq m
  unfold tw at *
  cases hp:p x.toNat with
  |true=>simp [hp,hpq x hp];exact ih
  |false=>simp [hp]
theorem A71(p:Int→Bool):∀m:List UInt8,(tw p m).all (fun b=>p b.toNat)=true
 |[]=>by simp [tw]
 |x::m=>by
  have ih:=A71 p m
  unfold tw at *
  cases hp:p x.toNat with
  |true=>simp only [List.takeWhile_cons,hp,if_true,Zv1,Bool.true_and];exact ih
  |false=>simp [hp]
theorem Aus{q:Int→Bool}(m:List UInt8):tw q m=[]↔m=[]∨q (byt m 0)=false:=by
 cases m with
 |nil=>simp [tw]
 |cons x m =>
  have:byt (x::m) 0=(x.toNat:Int):=rfl
  rw [this]
  cases hq:q x.toNat<;>simp [tw,hq]
theorem O6(l:List UInt8) (i:Int) (h : 0≤i) (j:Nat):byt (l.drop i.toNat) j=byt l (i+j):=by
 unfold byt
 rw [List.getD_eq_getElem?_getD,List.getD_eq_getElem?_getD,List.getElem?_drop,show i.toNat+(j:Int).toNat=(i+j).toNat by omega]
theorem Ajj{p:Int→Bool}(hp:∀b:UInt8,p b.toNat=true→isWd b.toNat=true) (l:List UInt8) (i:Int) (h : 0≤i∧i≤l.length):aloneF l (runTo p l i)=true↔tw p (l.drop i.toNat)=tw isWd (l.drop i.toNat):=by
 have hs:=Aqx hp (l.drop i.toNat)
 have hr:=runTo_range p l i h
 have hdd:(l.drop i.toNat).drop (tw p (l.drop i.toNat)).length=l.drop (runTo p l i).toNat:=by
  rw [List.drop_drop,Ds]
  congr 1
  omega
 rw [hdd] at hs
 have h1:tw p (l.drop i.toNat)=tw isWd (l.drop i.toNat)↔tw isWd (l.drop (runTo p l i).toNat)=[]:=by
  rw [hs]
  simp
 rw [h1,Aus]
 have h2:l.drop (runTo p l i).toNat=[]↔runTo p l i=l.length:=by
  rw [List.drop_eq_nil_iff];omega
 have h3:byt (l.drop (runTo p l i).toNat) 0=byt l (runTo p l i):=by
  have:=O6 l (runTo p l i) (by omega) 0
  simpa using this
 rw [h2,h3]
 have hb:=Q3 l (runTo p l i)
 simp only [aloneF,Zd2,beq_iff_eq,Zb1,Bool.not_eq_true',Anc _ hb,Bool.or_eq_false_iff]
 constructor
 ·rintro(h|⟨h,h'⟩)
  ·exact .inl h
  ·exact .inr ⟨h',h⟩
 ·rintro(h|⟨h,h'⟩)
  ·exact .inl h
  ·exact .inr ⟨h',h⟩
theorem Ado{p:Int→Bool}(hp:∀b:UInt8,p b.toNat=true→isWd b.toNat=true) (l:List UInt8) (i:Int) (h : 0≤i∧i≤l.length) {α:Type}(f:List UInt8→Int→Option α) (hf:∀x j,f x j≠none→x.all (fun b=>p b.toNat)=true) :
  (if aloneF l (runTo p l i) then f (cut l i (runTo p l i)) (runTo p l i) else none)=f (cut l i (runTo isWd l i)) (runTo isWd l i):=by
 by_cases ha:aloneF l (runTo p l i)=true
 ·have he:=(Ajj hp l i h).1 ha
  have hre:runTo p l i=runTo isWd l i:=by rw [Ds,Ds,he]
  rw [if_pos ha,hre]
 ·rw [if_neg ha]
  by_cases hn:f (cut l i (runTo isWd l i)) (runTo isWd l i)=none
  ·exact hn.symm
  ·exfalso
   apply ha
   rw [Ajj hp l i h]
   have hall:=hf _ _ hn
   rw [Nb _ _ _ h.1] at hall
   have key:∀m:List UInt8,(tw isWd m).all (fun b=>p b.toNat)=true→tw p m=tw isWd m:=by
    intro m
    induction m with
    |nil=>simp [tw]
    |cons x m ih =>
     unfold tw at *
     intro hm
     cases hq:isWd x.toNat with
     |true =>
      simp only [List.takeWhile_cons,hq,if_true,Zv1,Zb1] at hm ⊢
      rw [if_pos hm.1,ih hm.2]
     |false =>
      have:p x.toNat=false:=by
       cases hpx:p x.toNat with
       |false=>rfl
       |true=>rw [hp x hpx] at hq;cases hq
      simp [hq,this]
   exact key _ hall
theorem A6m:wordsL.all (fun w=>w.all fun b=>isUp b.toNat)=true:=by decide +kernel
theorem word_up{x:List UInt8}(h:wordF x=true):x.all (fun b=>isUp b.toNat)=true:=by
 have:=Zg2.1 A6m x (by simpa [wordF] using h)
 exact this
theorem Bai(l:List UInt8):∀j:Int,0<j→okGo l j=l.all fun b=>isIn b.toNat:=by
 induction l with
 |nil=>intro j _;rfl
 |cons c l ih =>
  intro j hj
  have hc:=u8_range c
  have key:∀n:Fin 256,(decide (clsF (n.val:Int)=2)||(decide (clsF (n.val:Int)=3)||decide (clsF (n.val:Int)=4)))=isIn (n.val:Int):=by decide +kernel
  have hk:=Acb (p:=fun c=>(decide (clsF c=2)||(decide (clsF c=3)||decide (clsF c=4)))=isIn c) key c.toNat hc
  simp only [okGo,Zv1,ih (j+1) (by omega),nmOk,show decide (j=0)=false by simp;omega,Zs1,Bool.true_and,hk]
theorem A2r(c:UInt8) (l:List UInt8):okGo (c::l) 0=(isLo c.toNat&&l.all fun b=>isIn b.toNat):=by
 have hc:=u8_range c
 have key:∀n:Fin 256,decide (clsF (n.val:Int)=2)=isLo (n.val:Int):=by decide +kernel
 have hk:=Acb (p:=fun c=>decide (clsF c=2)=isLo c) key c.toNat hc
 simp only [okGo,nmOk,decide_true,Zt1,Bool.false_and,Bool.or_false,hk]
 rw [Bai l (0+1) (by omega)]
theorem tw_full{p:Int→Bool}:∀m:List UInt8,(tw p m).length=m.length↔m.all (fun b=>p b.toNat)=true
 |[]=>by simp [tw]
 |x::m=>by
  have ih:=tw_full (p:=p) m
  unfold tw at *
  cases hp:p x.toNat with
  |true=>simp only [List.takeWhile_cons,hp,if_true,Zf1,Zv1,Bool.true_and,←ih];omega
  |false=>simp [hp]
theorem Bh5{c:Int}(h:isLo c=true):isIn c=true:=by simp [isIn,h]
theorem name_eq(x:List UInt8):nameF x=rnameF x:=by
 cases x with
 |nil=>rfl
 |cons c x =>
  have hrun:(runTo isIn (c::x) 0 == ((c::x).length:Int))=(c::x).all fun b=>isIn b.toNat:=by
   rw [Bool.eq_iff_iff,←tw_full,beq_iff_eq,Ds]
   simp only [Int.toNat_zero,Zq1]
   omega
  have hb:byt (c::x) 0=(c.toNat:Int):=rfl
  simp only [nameF,rnameF,A2r,hrun,hb]
  rw [Bool.eq_iff_iff]
  simp only [Zb1,Bool.not_eq_true',Zg1,decide_eq_false_iff_not,Zv1,Zf1]
  constructor
  ·rintro⟨⟨⟨_,h1⟩,h2⟩,h3⟩
   exact⟨⟨h2,h3.2⟩,by omega,h1⟩
  ·rintro⟨⟨h2,h3⟩,_,h1⟩
   exact⟨⟨⟨by simp,h1⟩,h2⟩,Bh5 h2,h3⟩
theorem Baj{x:List UInt8}(h:nameF x=true):x.all (fun b=>isIn b.toNat)=true:=by
 simp only [nameF,Zb1,beq_iff_eq] at h
 rw [←tw_full]
 have:=h.2
 rw [Ds] at this
 simp only [Int.toNat_zero,Zq1] at this
 omega
theorem Bdu{c:UInt8}(h:isDi c.toNat=true) : 48≤(c.toNat:Int)∧(c.toNat:Int)≤57:=by
 simpa [isDi] using h
theorem Bf5{c:UInt8}(h:isDi c.toNat=true):clsF c.toNat=3:=by
 have key:∀n:Fin 256,isDi (n.val:Int)=true→clsF (n.val:Int)=3:=by decide +kernel
 exact Acb (p:=fun c=>isDi c=true→clsF c=3) key c.toNat (u8_range c) h
theorem Bfj{c:UInt8}(h:clsF c.toNat=3):isDi c.toNat=true:=by
 have:=cls3 h
 simp [isDi];omega
theorem A49{c:UInt8}(h:isDi c.toNat=true) {n:Int}(hn : 0≤n):(inI (n*10)∧inI (n*10+dg c.toNat))↔¬(clsF c.toNat≠3∨922337203685477580<n∨(n=922337203685477580∧7<(c.toNat:Int)-48)):=by
 have hb:=Bdu h
 rw [Bd1 _ (by omega),Bf5 h]
 unfold inI
 constructor
 ·rintro⟨h1,h2⟩ (h3|h3|h3)
  ·exact h3 rfl
  ·omega
  ·omega
 ·intro h3
  have h4:¬(922337203685477580<n):=fun h=>h3 (.inr (.inl h))
  have h5:¬(n=922337203685477580∧7<(c.toNat:Int)-48):=fun h=>h3 (.inr (.inr h))
  omega
theorem A4y:∀(x:List UInt8) (n:Int),0≤n→x.all (fun b=>isDi b.toNat)=true→rnumGo x n=numGo x n∧∀m,numGo x n=some m→0≤m
 |[],n,hn,_=>⟨rfl,fun m h=>by simp only [numGo,Za1] at h;omega⟩
 |c::x,n,hn,hx=>by
  simp only [Zv1,Zb1] at hx
  have hb:=Bdu hx.1
  have hs:=A49 hx.1 hn
  have hd:dg c.toNat=(c.toNat:Int)-48:=Bd1 _ (by omega)
  simp only [rnumGo,numGo]
  by_cases hc:clsF c.toNat≠3∨922337203685477580<n∨(n=922337203685477580∧7<(c.toNat:Int)-48)
  ·rw [if_pos hc,if_neg (fun h=>hs.1 h hc)]
   exact⟨rfl,fun m h=>by cases h⟩
  ·rw [if_neg hc,if_pos (hs.2 hc),hd,show 10*n+((c.toNat:Int)-48)=n*10+((c.toNat:Int)-48) by omega]
   exact A4y x _ (by omega) hx.2
theorem Aqd:∀(x:List UInt8) (n:Int),rnumGo x n≠none→x.all (fun b=>isDi b.toNat)=true
 |[],_,_=>rfl
 |c::x,n,h=>by
  simp only [rnumGo] at h
  split at h
  ·exact absurd rfl h
  ·rename_i hc
   have h3:clsF c.toNat=3:=by
    by_cases h3:clsF c.toNat=3
    ·exact h3
    ·exact absurd (.inl h3) hc
   simp only [Zv1,Zb1]
   exact⟨Bfj h3,Aqd x _ h⟩
def Aee(x:List UInt8) (j:Int):Option (Int×List UInt8×Int×Int):=if 0≤rnumF x then some (3,x,rnumF x,j) else none
theorem Aui{x:List UInt8}{j:Int}(h:Aee x j≠none):x.all (fun b=>isDi b.toNat)=true:=by
 unfold Aee at h
 split at h
 ·rename_i h0
  unfold rnumF at h0
  split at h0
  ·omega
  ·rename_i n hn
   exact Aqd x 0 (by rw [hn];simp)
 ·exact absurd rfl h
theorem Bh1{x:List UInt8}(hne:x≠[]):(decide (x=[48])||byt x 0 != 48)=true↔¬(1<(x.length:Int)∧byt x 0=48):=by
 cases x with
 |nil=>exact absurd rfl hne
 |cons c x =>
  have hb:byt (c::x) 0=(c.toNat:Int):=rfl
  have hc:(c.toNat:Int)=48↔c=48:=by rw [←UInt8.toNat_inj];simp;omega
  rw [hb]
  simp only [Zd2,Zg1,bne_iff_ne,ne_eq,Ze2,Zf1,hc]
  constructor
  ·rintro(⟨_,h⟩|h) ⟨h1,h2⟩
   ·subst h;simp at h1
   ·exact h h2
  ·intro h
   by_cases h2:c=48
   ·left
    refine⟨h2,?_⟩
    cases x with
    |nil=>rfl
    |cons d x=>exact absurd ⟨by simp;omega,h2⟩ h
   ·exact .inr h2
theorem Bgw{x:List UInt8}(hne:x≠[]) (hx:x.all (fun b=>isDi b.toNat)=true) (a:Bool) (j:Int) :
  (match numGo x 0 with
  |none=>none
  |some n=>if(decide (x=[48])||byt x 0 != 48)&&a then some ((3:Int),x,n,j) else none)=if a then Aee x j else none:=by
 obtain⟨h1,h2⟩:=A4y x 0 (by omega) hx
 unfold Aee rnumF
 rw [h1]
 cases hn:numGo x 0 with
 |none=>cases a<;>simp
 |some n =>
  have hp:=h2 n hn
  cases hl:(decide (x=[48])||byt x 0 != 48) with
  |true =>
   have:=(Bh1 hne).1 hl
   cases a<;>simp [this,hp]
  |false =>
   have : 1<(x.length:Int)∧byt x 0=48:=by
    by_cases hh : 1<(x.length:Int)∧byt x 0=48
    ·exact hh
    ·rw [(Bh1 hne).2 hh] at hl;cases hl
   cases a<;>simp [this]
theorem Ac4(l:List UInt8) (i:Int) (h : 0≤i∧i<l.length):HexAt l i↔pre (l.drop i.toNat) [120,39]=true:=by
 have hdl:(l.drop i.toNat).length=l.length-i.toNat:=Za2
 have hb1:=O6 l i h.1 1
 unfold HexAt
 rw [Nb _ _ _ h.1,Ds]
 generalize l.drop i.toNat=m at *
 have w120:isWd ((120:UInt8).toNat:Int)=true:=by decide +kernel
 have w39:isWd ((39:UInt8).toNat:Int)=false:=by decide +kernel
 match m with
 |[]=>simp at hdl;omega
 |[a] =>
  simp only [List.length_singleton] at hdl
  constructor
  ·rintro⟨h1,h2,_⟩
   rw [h1] at h2
   simp at h2
   omega
  ·intro h;simp [pre] at h
 |a::b::r =>
  have hbb:byt (a::b::r) ((1:Nat):Int)=(b.toNat:Int):=rfl
  constructor
  ·rintro⟨h1,h2,h3⟩
   rw [h1] at h3
   have hb:b=39:=by
    have:byt l (i+(([120]:List UInt8).length:Int))=(b.toNat:Int):=by rw [←hbb,hb1];rfl
    rw [this] at h3
    rw [←UInt8.toNat_inj];simp;omega
   have ha:a=120:=by
    unfold tw at h1
    cases hw:isWd a.toNat with
    |true=>simp [hw] at h1;exact h1.1
    |false=>simp [hw] at h1
   subst hb;subst ha
   simp [pre]
  ·intro h
   simp only [pre,Zb1,Zg1,Zf1,Zi1,List.take_succ_cons,List.take_zero,Ze2,and_true] at h
   obtain⟨_,rfl,rfl⟩:=h
   have e1:tw isWd (120::39::r)=[120]:=by
    unfold tw
    rw [List.takeWhile_cons,if_pos w120,List.takeWhile_cons,if_neg (by rw [w39];simp)]
   rw [e1]
   refine⟨rfl,?_,?_⟩
   ·simp only [Zf1] at hdl ⊢
    simp
    omega
   ·have:byt l (i+(([120]:List UInt8).length:Int))=(((39:UInt8).toNat:Nat):Int):=by
     rw [←hbb,hb1];rfl
    rw [this];rfl
theorem Aru:∀m:List UInt8,Lib.indexByte m 39=if(tw (fun c => !decide (c=39)) m).length=m.length then -1 else((tw (fun c => !decide (c=39)) m).length:Int)
 |[]=>rfl
 |b::m=>by
  have ih:=Aru m
  have hl:=tw_len (fun c => !decide (c=39)) m
  by_cases hb:b=39
  ·subst hb
   rfl
  ·have hne:¬((b.toNat:Int)=39):=fun h=>hb (by rw [←UInt8.toNat_inj];simp;omega)
   have e1:tw (fun c => !decide (c=39)) (b::m)=b::tw (fun c => !decide (c=39)) m:=by
    unfold tw
    rw [List.takeWhile_cons,if_pos (by simp [hne])]
   have e2:(b == 39)=false:=by simpa using hb
   rw [Lib.indexByte,e1,ih,e2]
   simp only [Zj2,if_false,Zf1]
   by_cases hf:(tw (fun c => !decide (c=39)) m).length=m.length
   ·simp [hf]
   ·have:¬((((tw (fun c => !decide (c=39)) m).length:Int) == -1)=true):=by simp
    rw [if_neg hf,if_neg this,if_neg (by omega)]
    omega
theorem Azg(l:List UInt8) (i:Int) (h : 0≤i∧i<l.length) (a b:UInt8):pre (l.drop i.toNat) [a,b]=true↔i+1<l.length∧cut l i (i+2)=[a,b]:=by
 unfold pre cut
 have hdl:(l.drop i.toNat).length=l.length-i.toNat:=Za2
 rw [show(i+2).toNat-i.toNat=2 by omega]
 simp only [Zb1,Zg1,Zf1,Zi1,hdl]
 constructor
 ·rintro⟨h1,h2⟩;exact⟨by omega,h2⟩
 ·rintro⟨h1,h2⟩;exact⟨by omega,h2⟩
theorem Afq{m:List UInt8}{a b:UInt8}(h:pre m [a,b]=true):byt m 0=a.toNat:=by
 simp only [pre,Zb1,Zg1,Zf1,Zi1] at h
 obtain⟨_,h2⟩:=h
 cases m with
 |nil=>cases h2
 |cons c m=>simp at h2;rw [←h2.1];rfl
theorem A8u(l:List UInt8) (i:Int) (h : 0≤i∧i<l.length):(if signF (l.drop i.toNat)=0 then none else some ((6:Int),cut l i (i+signF (l.drop i.toNat)),(0:Int),i+signF (l.drop i.toNat))) =
  if clsF (byt l i)=7 then(if twoR l i then some (6,cut l i (i+2),0,i+2) else some (6,cut l i (i+1),0,i+1)) else none:=by
 have hb0:byt (l.drop i.toNat) 0=byt l i:=by simpa using O6 l i h.1 0
 have hb:=Q3 l i
 have hs:=Bc9 (byt l i) hb
 have htwo:twoR l i↔(pre (l.drop i.toNat) [60,62]||pre (l.drop i.toNat) [60,61]||pre (l.drop i.toNat) [62,61])=true:=by
  simp only [Zd2,Azg l i h,twoR]
  constructor
  ·rintro⟨h1,h2|h2|h2⟩
   ·exact .inl (.inl ⟨h1,h2⟩)
   ·exact .inl (.inr ⟨h1,h2⟩)
   ·exact .inr ⟨h1,h2⟩
  ·rintro((⟨h1,h2⟩|⟨h1,h2⟩)|⟨h1,h2⟩)
   ·exact⟨h1,.inl h2⟩
   ·exact⟨h1,.inr (.inl h2)⟩
   ·exact⟨h1,.inr (.inr h2)⟩
 unfold signF
 by_cases h2:twoR l i
 ·have h2':=htwo.1 h2
  have hc:byt l i=60∨byt l i=62:=by
   rw [←hb0]
   simp only [Zd2] at h2'
   rcases h2' with (h|h)|h
   ·left;rw [Afq h];rfl
   ·left;rw [Afq h];rfl
   ·right;rw [Afq h];rfl
  have hc7:clsF (byt l i)=7:=by
   rcases hc with h|h<;>rw [h]<;>decide +kernel
  rw [if_pos h2',if_neg (by omega),if_pos hc7,if_pos h2]
 ·have h2':¬_:=fun h=>h2 (htwo.2 h)
  rw [if_neg h2',if_neg h2,hb0]
  by_cases hc7:clsF (byt l i)=7
  ·have h0 : 0≤Lib.indexByte signs (byt l i).toNat.toUInt8:=by
    rw [Ze1 hc7] at hs;exact of_decide_eq_true hs
   rw [if_pos h0,if_neg (by omega),if_pos hc7]
  ·have h0:¬ 0≤Lib.indexByte signs (byt l i).toNat.toUInt8:=by
    rw [Zd1 hc7] at hs;exact of_decide_eq_false hs
   rw [if_neg h0,if_pos rfl,if_neg hc7]
theorem up_wd(b:UInt8) (h:isUp b.toNat=true):isWd b.toNat=true:=by rw [Anc _ (u8_range b),h];rfl
theorem Bdz(b:UInt8) (h:isIn b.toNat=true):isWd b.toNat=true:=by rw [Anc _ (u8_range b),h,Bool.or_true]
theorem Bhi(b:UInt8) (h:isDi b.toNat=true):isIn b.toNat=true:=by simp [isIn,h]
theorem Ays{α:Type}(p q:Bool) (x : α):(if(p&&q)=true then some x else none)=if q=true then(if p=true then some x else none) else none:=by
 cases p<;>cases q<;>rfl
theorem Bfn(l:List UInt8) (i:Int) (h : 0≤i∧i<l.length):tokF l i=tokR l i:=by
 have hb:=Q3 l i
 unfold tokF tokR
 by_cases hx:HexAt l i
 ·have hx':=(Ac4 l i h).1 hx
  rw [if_pos hx,if_pos hx']
  have hr1:runTo isWd l i=i+1:=by
   rw [Ds,←Nb _ _ _ h.1,hx.1];rfl
  have hlt:i+1<l.length:=by have:=hx.2.1;omega
  have hdl:(l.drop (i+2).toNat).length=l.length-(i+2).toNat:=Za2
  have htl:=tw_len (fun c => !decide (c=39)) (l.drop (i+2).toNat)
  rw [hr1]
  simp only
  rw [show i+1+1=i+2 by omega,Aru,Ds]
  by_cases hf:(tw (fun c => !decide (c=39)) (l.drop (i+2).toNat)).length=(l.drop (i+2).toNat).length
  ·rw [if_pos hf,if_pos (by omega),if_pos (by omega)]
  ·rw [if_neg hf,if_neg (show ¬((tw (fun c => !decide (c=39)) (l.drop (i+2).toNat)).length:Int)<0 by omega),if_neg (show ¬i+2+((tw (fun c => !decide (c=39)) (l.drop (i+2).toNat)).length:Int)=l.length by omega)]
   rw [show i+3+((tw (fun c => !decide (c=39)) (l.drop (i+2).toNat)).length:Int)=i+2+((tw (fun c => !decide (c=39)) (l.drop (i+2).toNat)).length:Int)+1 by omega]
 ·have hx':¬pre (l.drop i.toNat) [120,39]=true:=fun hh=>hx ((Ac4 l i h).2 hh)
  rw [if_neg hx,if_neg hx']
  have cls:∀n:Fin 256,clsF (n.val:Int)=if isUp (n.val:Int) then 1 else if isLo (n.val:Int) then 2 else if isDi (n.val:Int) then 3 else if(n.val:Int)=39 then 5 else if clsF (n.val:Int)=7 then 7 else if clsF (n.val:Int)=6 then 6 else if clsF (n.val:Int)=4 then 4 else 0:=by decide +kernel
  have hcls:=Acb (p:=fun c=>clsF c=if isUp c then 1 else if isLo c then 2 else if isDi c then 3 else if c=39 then 5 else if clsF c=7 then 7 else if clsF c=6 then 6 else if clsF c=4 then 4 else 0) cls (byt l i) hb
  have h' : 0≤i∧i≤l.length:=by omega
  cases hu:isUp (byt l i) with
  |true =>
   rw [hu] at hcls
   have h1:clsF (byt l i)=1:=hcls
   rw [if_pos rfl,if_pos h1,Ays]
   exact Ado up_wd l i h' (fun x j=>if wordF x then some ((1:Int),x,(0:Int),j) else none) (fun x j hn=>by
    by_cases hw:wordF x=true
    ·exact word_up hw
    ·simp [hw] at hn)
  |false =>
   rw [hu] at hcls
   rw [if_neg (by simp)]
   cases hlo:isLo (byt l i) with
   |true =>
    rw [hlo] at hcls
    have h1:clsF (byt l i)=2:=hcls
    rw [if_pos rfl,if_neg (show ¬clsF (byt l i)=1 by omega),if_pos h1,Ays]
    have:=Ado Bdz l i h' (fun x j=>if nameF x then some ((2:Int),x,(0:Int),j) else none) (fun x j hn=>by
     by_cases hw:nameF x=true
     ·exact Baj hw
     ·simp [hw] at hn)
    rw [this,name_eq]
   |false =>
    rw [hlo] at hcls
    rw [if_neg (by simp)]
    cases hd:isDi (byt l i) with
    |true =>
     rw [hd] at hcls
     have h1:clsF (byt l i)=3:=hcls
     rw [if_pos rfl,if_neg (show ¬clsF (byt l i)=1 by omega),if_neg (show ¬clsF (byt l i)=2 by omega),if_pos h1]
     have hrg:=runTo_gt h hd
     have hne:cut l i (runTo isDi l i)≠[]:=by
      have:=cut_length l i (runTo isDi l i) (by have:=runTo_range isDi l i h';omega)
      intro h0
      rw [h0] at this
      simp at this
      omega
     have hall:(cut l i (runTo isDi l i)).all (fun b=>isDi b.toNat)=true:=by rw [Nb _ _ _ h.1];exact A71 _ _
     refine(Bgw hne hall _ _).trans ?_
     exact Ado (fun b hb=>Bdz b (Bhi b hb)) l i h' Aee (fun x j hn=>Aui hn)
    |false =>
     rw [hd] at hcls
     rw [if_neg (by simp)]
     by_cases hq:byt l i=39
     ·have h1:clsF (byt l i)=5:=by rw [hq];decide +kernel
      rw [if_pos hq,if_neg (show ¬clsF (byt l i)=1 by omega),if_neg (show ¬clsF (byt l i)=2 by omega),if_neg (show ¬clsF (byt l i)=3 by omega),if_pos h1]
      have hqi:=qGo_in _ (l.drop (i+1).toNat) [] (i+1) (Zn1 _) (by omega)
      simp only
      generalize qGo (l.drop (i+1).toNat) [] (i+1)=q at *
      unfold checkF
      cases hr:rightF 4 0 q.1 with
      |true =>
       by_cases hn:q.2<0
       ·have:q.2 = -1:=by omega
        simp [this]
       ·have:¬q.2 = -1:=by omega
        simp [this,hn]
      |false=>simp
     ·have h1:¬clsF (byt l i)=1∧¬clsF (byt l i)=2∧¬clsF (byt l i)=3∧¬clsF (byt l i)=5:=by
       simp only [Zj2,if_false,if_neg hq] at hcls
       split at hcls
       ·omega
       ·split at hcls
        ·omega
        ·split at hcls<;>omega
      rw [if_neg hq,if_neg h1.1,if_neg h1.2.1,if_neg h1.2.2.1,if_neg h1.2.2.2]
      exact A8u l i h
theorem Ad6(l:List UInt8):∀(f:Nat) (i:Int) (acc:List Tok),0≤i→allGo f l i acc=rallGo f l i acc
 |0,_,_,_=>rfl
 |f+1,i,acc,hi=>by
  simp only [allGo,rallGo]
  by_cases he:(l.length:Int)≤i
  ·rw [if_pos he,if_pos he]
  ·rw [if_neg he,if_neg he,A72 _ (Q3 l i)]
   by_cases hb:clsF (byt l i)=6
   ·rw [if_pos (by simp [hb]),if_pos hb]
    exact Ad6 l f _ _ (by omega)
   ·rw [if_neg (by simp [hb]),if_neg hb,Bfn l i (by omega)]
    cases ht:tokR l i with
    |none=>rfl
    |some r =>
     obtain⟨k,s,n,e⟩:=r
     have:=tokR_end (by omega) ht
     exact Ad6 l f _ _ (by omega)
theorem allF_eq(l:List UInt8):allF l=rallF l:=Ad6 l _ 0 [] (by omega)
def qS:List UInt8→List UInt8→Option (List UInt8×Nat)
 |[],_=>none
 |[c],acc=>if c=39 then some (acc,1) else none
 |c::d::r,acc=>if c=39 then(if d=39 then(qS r (acc++[39])).map fun x=>(x.1,x.2+2) else some (acc,1)) else(qS (d::r) (acc++[c])).map fun x=>(x.1,x.2+1)
theorem At9:∀(f:Nat) (l acc:List UInt8) (i:Int),l.length≤f→qGo l acc i=match qS l acc with
  |none=>([], -1)
  |some (s,n)=>(s,i+(n:Int))
 |_,[],_,_,_=>rfl
 |_,[c],acc,i,_=>by
  by_cases hc:c=39<;>simp [qGo,qS,hc]
 |0,c::d::r,_,_,h=>by simp at h
 |f+1,c::d::r,acc,i,h=>by
  simp only [Zf1] at h
  rw [qGo,qS]
  by_cases hc:c=39
  ·rw [if_pos hc,if_pos hc]
   by_cases hd:d=39
   ·rw [if_pos hd,if_pos hd,At9 f r (acc++[39]) (i+2) (by omega)]
    cases qS r (acc++[39]) with
    |none=>rfl
    |some x=>simp;omega
   ·rw [if_neg hd,if_neg hd];rfl
  ·rw [if_neg hc,if_neg hc,At9 f (d::r) (acc++[c]) (i+1) (by simp;omega)]
   cases qS (d::r) (acc++[c]) with
   |none=>rfl
   |some x=>simp;omega
theorem Ms:∀(f:Nat) (l acc s:List UInt8) (n:Nat),l.length≤f→qS l acc=some (s,n)→1≤n∧n≤l.length
 |_,[],_,_,_,_,h=>by cases h
 |_,[c],acc,s,n,_,h=>by
  by_cases hc:c=39<;>simp [qS,hc] at h
  simp [←h.2]
 |0,c::d::r,_,_,_,h,_=>by simp at h
 |f+1,c::d::r,acc,s,n,hl,h=>by
  simp only [Zf1] at hl ⊢
  rw [qS] at h
  by_cases hc:c=39
  ·rw [if_pos hc] at h
   by_cases hd:d=39
   ·rw [if_pos hd] at h
    obtain⟨⟨s',n'⟩,hq,he⟩:=Option.map_eq_some_iff.1 h
    have:=Ms f r (acc++[39]) s' n' (by omega) hq
    simp at he;omega
   ·rw [if_neg hd] at h
    simp at h;omega
  ·rw [if_neg hc] at h
   obtain⟨⟨s',n'⟩,hq,he⟩:=Option.map_eq_some_iff.1 h
   have:=Ms f (d::r) (acc++[c]) s' n' (by simp;omega) hq
   simp at he this;omega
theorem Avt:∀(f:Nat) (l acc s:List UInt8) (n:Nat) (t:List UInt8),l.length≤f→(∀c b,t=c::b→c≠39)→qS l acc=some (s,n)→qS (l++t) acc=some (s,n)
 |_,[],_,_,_,_,_,_,h=>by cases h
 |_,[c],acc,s,n,t,_,ht,h=>by
  by_cases hc:c=39<;>simp [qS,hc] at h
  cases t with
  |nil=>simp [qS,hc,h]
  |cons d t=>simp [qS,hc,ht d t rfl,h]
 |0,c::d::r,_,_,_,_,h,_,_=>by simp at h
 |f+1,c::d::r,acc,s,n,t,hl,ht,h=>by
  simp only [Zf1] at hl
  simp only [Zb2]
  rw [qS] at h ⊢
  by_cases hc:c=39
  ·rw [if_pos hc] at h ⊢
   by_cases hd:d=39
   ·rw [if_pos hd] at h ⊢
    obtain⟨⟨s',n'⟩,hq,he⟩:=Option.map_eq_some_iff.1 h
    rw [Avt f r (acc++[39]) s' n' t (by omega) ht hq]
    exact congrArg some he
   ·rw [if_neg hd] at h ⊢
    exact h
  ·rw [if_neg hc] at h ⊢
   obtain⟨⟨s',n'⟩,hq,he⟩:=Option.map_eq_some_iff.1 h
   have:=Avt f (d::r) (acc++[c]) s' n' t (by simp;omega) ht hq
   simp only [Zb2] at this
   rw [this]
   exact congrArg some he
theorem Amj:∀(f:Nat) (l acc s:List UInt8) (n j:Nat),l.length≤f→n≤j→qS l acc=some (s,n)→qS (l.take j) acc=some (s,n)
 |_,[],_,_,_,_,_,_,h=>by cases h
 |_,[c],acc,s,n,j,_,hj,h=>by
  have hl:=Ms 1 [c] acc s n (by simp) h
  obtain⟨j,rfl⟩:∃i,j=i+1:=⟨j-1,by omega⟩
  simpa using h
 |0,c::d::r,_,_,_,_,h,_,_=>by simp at h
 |f+1,c::d::r,acc,s,n,j,hl,hj,h=>by
  have hn:=Ms (f+1) (c::d::r) acc s n hl h
  simp only [Zf1] at hl
  obtain⟨j,rfl⟩:∃i,j=i+1:=⟨j-1,by omega⟩
  rw [qS] at h
  by_cases hc:c=39
  ·rw [if_pos hc] at h
   by_cases hd:d=39
   ·rw [if_pos hd] at h
    obtain⟨⟨s',n'⟩,hq,he⟩:=Option.map_eq_some_iff.1 h
    simp only [Zp1] at he
    obtain⟨j,rfl⟩:∃i,j=i+1:=⟨j-1,by omega⟩
    simp only [List.take_succ_cons]
    rw [qS,if_pos hc,if_pos hd,Amj f r (acc++[39]) s' n' j (by omega) (by omega) hq]
    simp [he]
   ·rw [if_neg hd] at h
    cases j with
    |zero=>simp [qS,hc];simpa using h
    |succ j=>simp only [List.take_succ_cons];rw [qS,if_pos hc,if_neg hd];exact h
  ·rw [if_neg hc] at h
   obtain⟨⟨s',n'⟩,hq,he⟩:=Option.map_eq_some_iff.1 h
   simp only [Zp1] at he
   have hn':=Ms f (d::r) (acc++[c]) s' n' (by simp;omega) hq
   obtain⟨j,rfl⟩:∃i,j=i+1:=⟨j-1,by omega⟩
   have:=Amj f (d::r) (acc++[c]) s' n' (j+1) (by simp;omega) (by omega) hq
   simp only [List.take_succ_cons] at this ⊢
   rw [qS,if_neg hc,this]
   simp [he]
theorem tw_app{p:Int→Bool}(t:List UInt8) (ht:∀c b,t=c::b→p c.toNat=false):∀m:List UInt8,tw p (m++t)=tw p m
 |[]=>by
  cases t with
  |nil=>rfl
  |cons c t=>simp [tw,ht c t rfl]
 |x::m=>by
  have ih:=tw_app t ht m
  unfold tw at *
  cases hp:p x.toNat with
  |true=>simp [hp];exact ih
  |false=>simp [hp]
theorem Agm{p:Int→Bool}:∀(m:List UInt8) (j:Nat),tw p (m.take j)=(tw p m).take j
 |[],j=>by simp [tw]
 |x::m,0=>by simp [tw]
 |x::m,j+1=>by
  have ih:=Agm (p:=p) m j
  unfold tw at *
  cases hp:p x.toNat with
  |true=>simp [hp];exact ih
  |false=>simp [hp]
def nq(c:Int):Bool := !decide (c=39)
def twoS(m:List UInt8):Bool:=pre m [60,62]||pre m [60,61]||pre m [62,61]
def tokS(m:List UInt8):Option (Int×List UInt8×Int×Nat) :=
 if pre m [120,39] then
  (if(tw nq (m.drop 2)).length=(m.drop 2).length then none else
  match(if(tw nq (m.drop 2)).length % 2=0 then unGo (tw nq (m.drop 2)) [] else none) with
  |none=>none
  |some b=>if 1000<(b.length:Int) then none else some (5,b,0,(tw nq (m.drop 2)).length+3))
 else if clsF (byt m 0)=1 then(if wordF (tw isWd m) then some (1,tw isWd m,0,(tw isWd m).length) else none)
 else if clsF (byt m 0)=2 then(if rnameF (tw isWd m) then some (2,tw isWd m,0,(tw isWd m).length) else none)
 else if clsF (byt m 0)=3 then(if 0≤rnumF (tw isWd m) then some (3,tw isWd m,rnumF (tw isWd m),(tw isWd m).length) else none)
 else if clsF (byt m 0)=5 then
  match qS (m.drop 1) [] with
  |none=>none
  |some (s,n)=>if checkF 4 0 s=0 then some (4,s,0,n+1) else none
 else if clsF (byt m 0)=7 then(if twoS m then some (6,m.take 2,0,2) else some (6,m.take 1,0,1))
 else none
theorem A6n(l:List UInt8) (i:Int) (h : 0≤i∧i<l.length):tokR l i=(tokS (l.drop i.toNat)).map fun x=>(x.1,x.2.1,x.2.2.1,i+(x.2.2.2:Int)):=by
 have hb0:byt (l.drop i.toNat) 0=byt l i:=by simpa using O6 l i h.1 0
 have hdl:(l.drop i.toNat).length=l.length-i.toNat:=Za2
 have hd1:(l.drop i.toNat).drop 1=l.drop (i+1).toNat:=by rw [List.drop_drop];congr 1;omega
 have hd2:(l.drop i.toNat).drop 2=l.drop (i+2).toNat:=by rw [List.drop_drop];congr 1;omega
 unfold tokR tokS
 by_cases hx:HexAt l i
 ·rw [if_pos hx,if_pos ((Ac4 l i h).1 hx)]
  have hr1:runTo isWd l i=i+1:=by
   rw [Ds,←Nb _ _ _ h.1,hx.1];rfl
  have hlt:i+1<l.length:=by have:=hx.2.1;omega
  have hdl2:(l.drop (i+2).toNat).length=l.length-(i+2).toNat:=Za2
  rw [hr1]
  simp only
  rw [show i+1+1=i+2 by omega,hd2,Nb _ _ _ (by omega),Ds]
  change (if i+2+((tw nq (l.drop (i+2).toNat)).length:Int)=l.length then none else match(if(tw nq (l.drop (i+2).toNat)).length % 2=0 then unGo (tw nq (l.drop (i+2).toNat)) [] else none) with|none=>none|some b=>if 1000<(b.length:Int) then none else some ((5:Int),b,(0:Int),i+2+((tw nq (l.drop (i+2).toNat)).length:Int)+1))=_
  generalize tw nq (l.drop (i+2).toNat)=r at *
  by_cases hf:r.length=(l.drop (i+2).toNat).length
  ·rw [if_pos (show i+2+(r.length:Int)=l.length by omega),if_pos hf];rfl
  ·rw [if_neg (show ¬i+2+(r.length:Int)=l.length by omega),if_neg hf]
   generalize (if r.length % 2=0 then unGo r [] else none)=u
   cases u with
   |none=>rfl
   |some b =>
    by_cases hbig : 1000<(b.length:Int)
    ·simp only [if_pos hbig];rfl
    ·simp only [if_neg hbig,Zl2,Za1,Zp1,true_and]
     omega
 ·rw [if_neg hx,if_neg (fun hh=>hx ((Ac4 l i h).2 hh)),hb0,Nb _ _ _ h.1,Ds]
  split
  ·split<;>rfl
  ·split
   ·split<;>rfl
   ·split
    ·split<;>rfl
    ·split
     ·rw [hd1,At9 _ _ _ _ (Zn1 _)]
      cases qS (l.drop (i+1).toNat) [] with
      |none=>rfl
      |some x =>
       obtain⟨s,n⟩:=x
       by_cases hk:checkF 4 0 s=0
       ·simp only [if_pos hk]
        rw [if_pos ⟨by omega,hk⟩]
        simp;omega
       ·simp [hk]
     ·split
      ·have htwo:twoR l i↔twoS (l.drop i.toNat)=true:=by
        simp only [twoS,Zd2,Azg l i h,twoR]
        constructor
        ·rintro⟨h1,h2|h2|h2⟩
         ·exact .inl (.inl ⟨h1,h2⟩)
         ·exact .inl (.inr ⟨h1,h2⟩)
         ·exact .inr ⟨h1,h2⟩
        ·rintro((⟨h1,h2⟩|⟨h1,h2⟩)|⟨h1,h2⟩)
         ·exact⟨h1,.inl h2⟩
         ·exact⟨h1,.inr (.inl h2)⟩
         ·exact⟨h1,.inr (.inr h2)⟩
       have hc:∀k:Nat,cut l i (i+k)=(l.drop i.toNat).take k:=fun k=>by
        unfold cut;congr 1;omega
       have h1:=hc 1
       have h2:=hc 2
       by_cases ht:twoR l i
       ·rw [if_pos ht,if_pos (htwo.1 ht)]
        simp only [Zl2]
        rw [←h2];rfl
       ·rw [if_neg ht,if_neg (fun hh=>ht (htwo.2 hh))]
        simp only [Zl2]
        rw [←h1];rfl
      ·rfl
theorem U4{m x:List UInt8}{j:Nat}(h:pre (m.take j) x=true):pre m x=true:=by
 simp only [pre,Zb1,Zg1,List.length_take,List.take_take] at h ⊢
 have h2:=h.2
 rw [show min x.length j=x.length by omega] at h2
 exact⟨by omega,h2⟩
theorem R2{m x:List UInt8}{j:Nat}(h:pre m x=true) (hj:x.length≤j):pre (m.take j) x=true:=by
 simp only [pre,Zb1,Zg1,List.length_take,List.take_take] at h ⊢
 refine⟨by omega,?_⟩
 rw [show min x.length j=x.length by omega]
 exact h.2
theorem Aq1{m:List UInt8}{j:Nat}(h : 1≤j):byt (m.take j) 0=byt m 0:=by
 unfold byt
 simp [List.getD_eq_getElem?_getD,show 0<j by omega]
theorem A12{m:List UInt8}{j:Nat}(h:twoS (m.take j)=true):twoS m=true:=by
 simp only [twoS,Zd2] at h ⊢
 exact h.imp (Or.imp U4 U4) U4
theorem Ati{m:List UInt8}{j:Nat}(h:twoS m=true) (hj : 2≤j):twoS (m.take j)=true:=by
 simp only [twoS,Zd2] at h ⊢
 exact h.imp (Or.imp (fun h=>R2 h hj) (fun h=>R2 h hj)) (fun h=>R2 h hj)
theorem tokS_len{m:List UInt8}{k:Int}{s:List UInt8}{n:Int}{e:Nat}(h:tokS m=some (k,s,n,e)) : 1≤e∧e≤m.length:=by
 cases m with
 |nil=>exact absurd (h.symm.trans (show tokS []=none by decide +kernel)) (by simp)
 |cons c m =>
  have h0:(0:Int)≤0∧(0:Int)<((c::m).length:Int):=by simp
  have hr:=A6n (c::m) 0 h0
  simp only [Int.toNat_zero,Zq1,h,Zl2] at hr
  have:=tokR_end h0 hr
  omega
theorem A0y{m:List UInt8}{k:Int}{s:List UInt8}{n:Int}{e j:Nat}(h:tokS m=some (k,s,n,e)) (hj:e≤j):tokS (m.take j)=some (k,s,n,e):=by
 have hlen:=tokS_len h
 have hb:=Aq1 (m:=m) (j:=j) (by omega)
 have htw:∀p:Int→Bool,(tw p m).length≤j→tw p (m.take j)=tw p m:=fun p hp=>by
  rw [Agm,List.take_of_length_le hp]
 unfold tokS at h ⊢
 by_cases hx:pre m [120,39]=true
 ·rw [if_pos hx] at h
  have e3:∀r:List UInt8,(if r.length=(m.drop 2).length then none else match(if r.length % 2=0 then unGo r [] else none) with|none=>none|some b=>if 1000<(b.length:Int) then none else some ((5:Int),b,(0:Int),r.length+3))=some (k,s,n,e)→e=r.length+3∧r.length≠(m.drop 2).length:=by
   intro r hr
   split at hr
   ·cases hr
   ·rename_i hne
    split at hr
    ·cases hr
    ·split at hr
     ·cases hr
     ·simp only [Za1,Zp1] at hr
      exact⟨hr.2.2.2.symm,hne⟩
  obtain⟨he,hne⟩:=e3 _ h
  have hdt:(m.take j).drop 2=(m.drop 2).take (j-2):=by rw [List.drop_take]
  have hq:tw nq ((m.take j).drop 2)=tw nq (m.drop 2):=by
   rw [hdt,Agm,List.take_of_length_le (by omega)]
  have hl:=tw_len nq (m.drop 2)
  rw [if_pos (R2 hx (by simp;omega)),hq]
  have hne':¬(tw nq (m.drop 2)).length=((m.take j).drop 2).length:=by
   rw [hdt,List.length_take];omega
  rw [if_neg hne']
  rw [if_neg hne] at h
  exact h
 ·rw [if_neg hx] at h
  rw [if_neg (fun hh=>hx (U4 hh)),hb]
  have key:∀(b:Bool) (kk vv:Int),(if b=true then some (kk,tw isWd m,vv,(tw isWd m).length) else none)=some (k,s,n,e)→tw isWd (m.take j)=tw isWd m:=by
   intro b kk vv hh
   cases b
   ·cases hh
   ·simp only [if_true,Za1,Zp1] at hh
    exact htw isWd (by omega)
  split
  ·rename_i h1;rw [if_pos h1] at h;rw [key _ _ _ h];exact h
  ·rename_i h1;rw [if_neg h1] at h
   split
   ·rename_i h2;rw [if_pos h2] at h;rw [key _ _ _ h];exact h
   ·rename_i h2;rw [if_neg h2] at h
    split
    ·rename_i h3;rw [if_pos h3] at h
     have:tw isWd (m.take j)=tw isWd m:=by
      split at h
      ·simp only [Za1,Zp1] at h
       exact htw isWd (by omega)
      ·cases h
     rw [this];exact h
    ·rename_i h3;rw [if_neg h3] at h
     split
     ·rename_i h5;rw [if_pos h5] at h
      rw [List.drop_take]
      cases hq:qS (m.drop 1) [] with
      |none=>rw [hq] at h;cases h
      |some x =>
       obtain⟨s',n'⟩:=x
       rw [hq] at h
       have hle:n'≤j-1:=by
        simp only at h
        split at h
        ·simp only [Za1,Zp1] at h;omega
        ·cases h
       rw [Amj _ _ _ s' n' (j-1) (Zn1 _) hle hq]
       exact h
     ·rename_i h5;rw [if_neg h5] at h
      split
      ·rename_i h7;rw [if_pos h7] at h
       by_cases h2':twoS m=true
       ·rw [if_pos h2'] at h
        have : 2≤j:=by simp only [Za1,Zp1] at h;omega
        rw [if_pos (Ati h2' this),List.take_take,show min 2 j=2 by omega]
        exact h
       ·rw [if_neg h2'] at h
        rw [if_neg (fun hh=>h2' (A12 hh)),List.take_take,show min 1 j=1 by omega]
        exact h
      ·rename_i h7;rw [if_neg h7] at h;exact h
theorem Apz:∀n:Fin 256,clsF (n.val:Int)=6→isWd (n.val:Int)=false∧(n.val:Int)≠39∧(n.val:Int)≠61∧(n.val:Int)≠62:=by decide +kernel
theorem Aym{c:UInt8}(h:clsF c.toNat=6):isWd c.toNat=false∧c≠39∧c≠61∧c≠62:=by
 have:=Acb (p:=fun c=>clsF c=6→isWd c=false∧c≠39∧c≠61∧c≠62) Apz c.toNat (u8_range c) h
 refine⟨this.1,?_,?_,?_⟩
 ·rintro rfl;exact this.2.1 rfl
 ·rintro rfl;exact this.2.2.1 rfl
 ·rintro rfl;exact this.2.2.2 rfl
theorem An3{m:List UInt8}(hm:m≠[]) (c:UInt8) (b:List UInt8) {x y:UInt8}(h:c≠y):pre (m++c::b) [x,y]=pre m [x,y]:=by
 match m with
 |[]=>exact absurd rfl hm
 |[a] =>
  have:pre [a] [x,y]=false:=by simp [pre]
  rw [this]
  simp [pre,h]
 |a::a'::r=>simp [pre]
theorem A62{m:List UInt8}(hm:m≠[]) {c:UInt8}(b:List UInt8) (hc:clsF c.toNat=6):twoS (m++c::b)=twoS m:=by
 have h:=Aym hc
 simp only [twoS,An3 hm c b h.2.2.1,An3 hm c b h.2.2.2]
theorem Acw{m:List UInt8}(hm:m≠[]) (t:List UInt8):byt (m++t) 0=byt m 0:=by
 cases m with
 |nil=>exact absurd rfl hm
 |cons a m=>rfl
def A9e(m:List UInt8):Prop:=byt m 0=39∨pre m [120,39]=true
theorem Bhq{c:Int}(h:clsF c=5):c=39:=by
 unfold clsF at h
 split at h; · omega
 split at h; · omega
 split at h; · omega
 split at h; · omega
 split at h; · assumption
 split at h; · omega
 split at h<;>omega
theorem Afd{m:List UInt8}(hm:m≠[]) {c:UInt8}(b:List UInt8) (hc:clsF c.toNat=6):(tokS m≠none∨¬A9e m)→tokS (m++c::b)=tokS m:=by
 intro hor
 have hbl:=Aym hc
 have htw:tw isWd (m++c::b)=tw isWd m:=tw_app _ (fun d t hd=>by cases hd;exact hbl.1) m
 unfold tokS at hor ⊢
 rw [An3 hm c b hbl.2.1,htw,Acw hm,A62 hm b hc]
 by_cases hx:pre m [120,39]=true
 ·rw [if_pos hx] at hor
  rw [if_pos hx,if_pos hx]
  have h2 : 2≤m.length:=by
   simp only [pre,Zb1,Zg1,Zf1,Zi1] at hx;omega
  have hd:(m++c::b).drop 2=m.drop 2++c::b:=by rw [List.drop_append_of_le_length h2]
  rcases hor with hor|hor
  ·have hne:¬(tw nq (m.drop 2)).length=(m.drop 2).length:=fun hh=>by rw [if_pos hh] at hor;exact hor rfl
   have hfull:∃r1 d r2,m.drop 2=r1++d::r2∧nq d.toNat=false:=by
    have hsp:∀x:List UInt8,(tw nq x).length≠x.length→∃r1 d r2,x=r1++d::r2∧nq d.toNat=false:=by
     intro x
     induction x with
     |nil=>intro h;simp [tw] at h
     |cons y x ih =>
      intro hne
      cases hy:nq y.toNat with
      |false=>exact⟨[],y,x,rfl,hy⟩
      |true =>
       have:(tw nq x).length≠x.length:=by
        unfold tw at hne ⊢
        simp [hy] at hne
        exact hne
       obtain⟨r1,d,r2,h1,h2⟩:=ih this
       exact⟨y::r1,d,r2,by rw [h1];rfl,h2⟩
    exact hsp _ hne
   have htq:tw nq ((m++c::b).drop 2)=tw nq (m.drop 2):=by
    obtain⟨r1,d,r2,h1,h2'⟩:=hfull
    rw [hd,h1,Zj1,Zb2]
    rw [tw_app (p:=nq) (d::(r2++c::b)) (fun x t hx=>by cases hx;exact h2') r1,tw_app (p:=nq) (d::r2) (fun x t hx=>by cases hx;exact h2') r1]
   have hl:=tw_len nq (m.drop 2)
   have hne':¬(tw nq (m.drop 2)).length=((m++c::b).drop 2).length:=by
    rw [hd,Zh1];omega
   rw [htq,if_neg hne',if_neg hne]
  ·exact absurd (.inr hx) hor
 ·rw [if_neg hx] at hor
  rw [if_neg hx,if_neg hx]
  have ht1:(m++c::b).take 1=m.take 1:=by
   cases m with
   |nil=>exact absurd rfl hm
   |cons a m=>rfl
  have ht2:twoS m=true→(m++c::b).take 2=m.take 2:=fun h2=>by
   have : 2≤m.length:=by
    simp only [twoS,Zd2,pre,Zb1,Zg1,Zf1,Zi1] at h2
    omega
   rw [List.take_append_of_le_length this]
  by_cases h1:clsF (byt m 0)=1
  ·rw [if_pos h1,if_pos h1]
  ·by_cases h2:clsF (byt m 0)=2
   ·rw [if_neg h1,if_neg h1,if_pos h2,if_pos h2]
   ·by_cases h3:clsF (byt m 0)=3
    ·rw [if_neg h1,if_neg h1,if_neg h2,if_neg h2,if_pos h3,if_pos h3]
    ·rw [if_neg h1,if_neg h1,if_neg h2,if_neg h2,if_neg h3,if_neg h3]
     rw [if_neg h1,if_neg h2,if_neg h3] at hor
     by_cases h5:clsF (byt m 0)=5
     ·rw [if_pos h5] at hor
      rw [if_pos h5,if_pos h5]
      rcases hor with hor|hor
      ·have hd:(m++c::b).drop 1=m.drop 1++c::b:=by
        cases m with
        |nil=>exact absurd rfl hm
        |cons a m=>rfl
       cases hq:qS (m.drop 1) [] with
       |none=>rw [hq] at hor;exact absurd rfl hor
       |some x =>
        rw [hd,Avt _ _ _ x.1 x.2 (c::b) (Zn1 _) (fun d t hd=>by cases hd;exact hbl.2.1) hq]
      ·exact absurd (.inl (Bhq h5)) hor
     ·rw [if_neg h5,if_neg h5]
      by_cases h7:clsF (byt m 0)=7
      ·rw [if_pos h7,if_pos h7]
       by_cases h2':twoS m=true
       ·rw [if_pos h2',if_pos h2',ht2 h2']
       ·rw [if_neg h2',if_neg h2',ht1]
      ·rw [if_neg h7,if_neg h7]
inductive Sc:List UInt8→Int→List Tok→Prop where
 |nil {p:Int}:Sc [] p []
 |blank {c:UInt8}{r:List UInt8}{p:Int}{ts:List Tok}:clsF c.toNat=6→Sc r (p+1) ts→Sc (c::r) p ts
 |tok {m:List UInt8}{p:Int}{k:Int}{s:List UInt8}{n:Int}{e:Nat}{ts:List Tok}:clsF (byt m 0)≠6→tokS m=some (k,s,n,e)→Sc (m.drop e) (p+e) ts→Sc m p (⟨k,p,s,n⟩::ts)
inductive Er:List UInt8→Int→Int→Prop where
 |blank {c:UInt8}{r:List UInt8}{p j:Int}:clsF c.toNat=6→Er r (p+1) j→Er (c::r) p j
 |tok {m:List UInt8}{p:Int}{k:Int}{s:List UInt8}{n:Int}{e:Nat}{j:Int}:clsF (byt m 0)≠6→tokS m=some (k,s,n,e)→Er (m.drop e) (p+e) j→Er m p j
 |bad {m:List UInt8}{p:Int}:m≠[]→clsF (byt m 0)≠6→tokS m=none→Er m p p
theorem Auz(l:List UInt8):∀(f:Nat) (i:Int) (acc:List Tok),0≤i∧i≤l.length→(l.length:Int)-i<f→match rallGo f l i acc with
  |.ok ts=>∃us,ts=acc++us∧Sc (l.drop i.toNat) i us
  |.error j=>Er (l.drop i.toNat) i j
 |0,i,acc,h,hf=>by omega
 |f+1,i,acc,h,hf=>by
  simp only [rallGo]
  by_cases he:(l.length:Int)≤i
  ·rw [if_pos he]
   exact⟨[],by simp,by rw [Zk1 (by omega)];exact .nil⟩
  ·rw [if_neg he]
   have hb0:byt (l.drop i.toNat) 0=byt l i:=by simpa using O6 l i h.1 0
   have hcons:=Ey l i (by omega)
   by_cases hb:clsF (byt l i)=6
   ·rw [if_pos hb]
    have ih:=Auz l f (i+1) acc (by omega) (by omega)
    have hb':clsF ((l.getD i.toNat 0).toNat:Int)=6:=hb
    cases hr:rallGo f l (i+1) acc with
    |ok ts =>
     rw [hr] at ih
     obtain⟨us,h1,h2⟩:=ih
     exact⟨us,h1,by rw [hcons];exact .blank hb' h2⟩
    |error j =>
     rw [hr] at ih
     show Er _ _ _
     rw [hcons]
     exact .blank hb' ih
   ·rw [if_neg hb]
    have hS:=A6n l i (by omega)
    cases hS':tokS (l.drop i.toNat) with
    |none =>
     rw [hS'] at hS
     rw [hS]
     exact .bad (by rw [hcons];simp) (by rw [hb0];exact hb) hS'
    |some x =>
     obtain⟨k,s,n,e⟩:=x
     rw [hS'] at hS
     simp only [Zl2] at hS
     have hlen:=tokS_len hS'
     have hdl:(l.drop i.toNat).length=l.length-i.toNat:=Za2
     rw [hS]
     simp only
     have ih:=Auz l f (i+(e:Int)) (acc++[⟨k,i,s,n⟩]) (by omega) (by omega)
     have hdd:l.drop (i+(e:Int)).toNat=(l.drop i.toNat).drop e:=by rw [List.drop_drop];congr 1;omega
     rw [hdd] at ih
     cases hr:rallGo f l (i+(e:Int)) (acc++[⟨k,i,s,n⟩]) with
     |ok ts =>
      rw [hr] at ih
      obtain⟨us,h1,h2⟩:=ih
      exact⟨⟨k,i,s,n⟩::us,by rw [h1];simp,.tok (by rw [hb0];exact hb) hS' h2⟩
     |error j =>
      rw [hr] at ih
      exact .tok (by rw [hb0];exact hb) hS' ih
theorem Xx:tokS []=none:=by decide +kernel
theorem Sc.det{m:List UInt8}{p:Int}{ts:List Tok}(h:Sc m p ts):∀{us:List Tok},Sc m p us→ts=us:=by
 induction h with
 |nil =>
  intro us h
  cases h with
  |nil=>rfl
  |tok _ h2 _=>rw [Xx] at h2;cases h2
 |blank hc _ ih =>
  intro us h
  cases h with
  |blank _ h2=>exact ih h2
  |tok h1 _ _=>exact absurd hc h1
 |tok h1 h2 _ ih =>
  intro us h
  cases h with
  |nil=>rw [Xx] at h2;cases h2
  |blank hc _=>exact absurd hc h1
  |tok _ h3 h4 =>
   rw [h2] at h3
   cases h3
   rw [ih h4]
theorem Sc.not_er{m:List UInt8}{p:Int}{ts:List Tok}(h:Sc m p ts):∀{j:Int},¬Er m p j:=by
 induction h with
 |nil =>
  intro j h
  cases h with
  |tok _ h2 _=>rw [Xx] at h2;cases h2
  |bad h _ _=>exact h rfl
 |blank hc _ ih =>
  intro j h
  cases h with
  |blank _ h2=>exact ih h2
  |tok h1 _ _=>exact absurd hc h1
  |bad _ h1 _=>exact absurd hc h1
 |tok h1 h2 _ ih =>
  intro j h
  cases h with
  |blank hc _=>exact absurd hc h1
  |tok _ h3 h4 =>
   rw [h2] at h3
   cases h3
   exact ih h4
  |bad _ _ h3=>rw [h2] at h3;cases h3
theorem Er.det{m:List UInt8}{p j:Int}(h:Er m p j):∀{i:Int},Er m p i→j=i:=by
 induction h with
 |blank hc _ ih =>
  intro i h
  cases h with
  |blank _ h2=>exact ih h2
  |tok h1 _ _=>exact absurd hc h1
  |bad _ h1 _=>exact absurd hc h1
 |tok h1 h2 _ ih =>
  intro i h
  cases h with
  |blank hc _=>exact absurd hc h1
  |tok _ h3 h4 =>
   rw [h2] at h3
   cases h3
   exact ih h4
  |bad _ _ h3=>rw [h2] at h3;cases h3
 |bad h0 h1 h2 =>
  intro i h
  cases h with
  |blank hc _=>exact absurd hc h1
  |tok _ h3 _=>rw [h2] at h3;cases h3
  |bad _ _ _=>rfl
theorem allF_sc(l:List UInt8):match allF l with
  |.ok ts=>Sc l 0 ts
  |.error j=>Er l 0 j:=by
 rw [allF_eq,rallF]
 have h:=Auz l (l.length+1) 0 [] (by omega) (by omega)
 cases hr:rallGo (l.length+1) l 0 [] with
 |ok ts =>
  rw [hr] at h
  obtain⟨us,h1,h2⟩:=h
  simp only [Zf2] at h1
  subst h1
  simpa using h2
 |error j=>rw [hr] at h;simpa using h
theorem allF_of_sc{l:List UInt8}{ts:List Tok}(h:Sc l 0 ts):allF l = .ok ts:=by
 have h2:=allF_sc l
 cases hr:allF l with
 |ok us=>rw [hr] at h2;rw [h.det h2]
 |error j=>rw [hr] at h2;exact absurd h2 h.not_er
def Bgi(d:Int) (t:Tok):Tok:=⟨t.kind,t.pos+d,t.s,t.n⟩
theorem Sc.off{m:List UInt8}{p:Int}{ts:List Tok}(h:Sc m p ts) (d:Int):Sc m (p+d) (ts.map (Bgi d)):=by
 induction h with
 |nil=>exact .nil
 |blank hc _ ih=>exact .blank hc (by rw [show ∀x:Int,x+d+1=x+1+d from fun x=>by omega];exact ih)
 |tok h1 h2 _ ih=>exact .tok h1 h2 (by rw [show ∀x y:Int,x+d+y=x+y+d from fun x y=>by omega];exact ih)
theorem Er.off{m:List UInt8}{p j:Int}(h:Er m p j) (d:Int):Er m (p+d) (j+d):=by
 induction h with
 |blank hc _ ih=>exact .blank hc (by rw [show ∀x:Int,x+d+1=x+1+d from fun x=>by omega];exact ih)
 |tok h1 h2 _ ih=>exact .tok h1 h2 (by rw [show ∀x y:Int,x+d+y=x+y+d from fun x y=>by omega];exact ih)
 |bad h0 h1 h2=>exact .bad h0 h1 h2
theorem Alg{m:List UInt8}{x:Int×List UInt8×Int×Nat}(h:tokS m=some x):m≠[]:=by
 rintro rfl;rw [Xx] at h;cases h
theorem Sc.app{a:List UInt8}{p:Int}{ts:List Tok}(h:Sc a p ts) {c:UInt8}(hc:clsF c.toNat=6) (b:List UInt8):∀{us:List Tok},Sc b (p+a.length+1) us→Sc (a++c::b) p (ts++us):=by
 induction h with
 |nil=>intro us hb;exact .blank hc (by simpa using hb)
 |blank hx _ ih =>
  intro us hb
  refine .blank hx (ih ?_)
  rename_i r p _ _
  rw [show p+1+(r.length:Int)+1=p+((r.length+1:Nat):Int)+1 by omega]
  exact hb
 |tok h1 h2 _ ih =>
  intro us hb
  have hm:=Alg h2
  have hl:=tokS_len h2
  refine .tok (by rw [Acw hm];exact h1) ((Afd hm b hc (.inl (by rw [h2];simp))).trans h2) ?_
  rw [List.drop_append_of_le_length hl.2]
  refine ih ?_
  rename_i m p _ _ _ e _ _
  rw [Za2,show p+(e:Int)+((m.length-e:Nat):Int)+1=p+(m.length:Int)+1 by omega]
  exact hb
theorem Er.app{a:List UInt8}{p j:Int}(h:Er a p j) {c:UInt8}(hc:clsF c.toNat=6) (b:List UInt8):∃i:Nat,j=p+i∧i<a.length∧(A9e (a.drop i)∨Er (a++c::b) p j):=by
 induction h with
 |blank hx _ ih =>
  obtain⟨i,h1,h2,h3⟩:=ih
  refine⟨i+1,by omega,by simp;omega,?_⟩
  exact h3.imp (fun h=>h) (fun h =>.blank hx h)
 |tok h1 h2 _ ih =>
  obtain⟨i,h3,h4,h5⟩:=ih
  have hm:=Alg h2
  have hl:=tokS_len h2
  rename_i m p _ _ _ e _ _
  rw [Za2] at h4
  refine⟨e+i,by omega,by omega,?_⟩
  rw [List.drop_drop] at h5
  refine h5.imp (fun h=>h) (fun h =>?_)
  refine .tok (by rw [Acw hm];exact h1) ((Afd hm b hc (.inl (by rw [h2];simp))).trans h2) ?_
  rw [List.drop_append_of_le_length hl.2]
  exact h
 |bad h0 h1 h2 =>
  rename_i m p
  refine⟨0,by omega,List.length_pos_iff.2 h0,?_⟩
  by_cases ho:A9e m
  ·exact .inl ho
  ·right
   exact .bad (by simp) (by rw [Acw h0];exact h1) ((Afd h0 b hc (.inr ho)).trans h2)
theorem Sc.le{m:List UInt8}{p:Int}{ts:List Tok}(h:Sc m p ts):∀t,t∈ts→p≤t.pos:=by
 induction h with
 |nil=>intro t h;cases h
 |blank _ _ ih=>intro t h;have:=ih t h;omega
 |tok _ _ _ ih =>
  intro t h
  simp only [List.mem_cons] at h
  rcases h with rfl|h
  ·exact Int.le_refl _
  ·have:=ih t h;omega
theorem Sc.part{m:List UInt8}{p:Int}{ts:List Tok}(h:Sc m p ts):∀(k:Nat) (t:Tok),ts[k]? = some t→∃A:Nat,t.pos=p+A∧A<m.length∧Sc (m.take A) p (ts.take k)∧Sc (m.drop A) t.pos (ts.drop k):=by
 induction h with
 |nil=>intro k t h;simp at h
 |blank hc _ ih =>
  intro k t h
  obtain⟨A,h1,h2,h3,h4⟩:=ih k t h
  exact⟨A+1,by omega,by simp;omega,by rw [List.take_succ_cons];exact .blank hc h3,h4⟩
 |tok h1 h2 h3 ih =>
  intro k t h
  have hl:=tokS_len h2
  rename_i m p _ _ _ e _
  cases k with
  |zero =>
   simp only [List.getElem?_cons_zero,Za1] at h
   subst h
   exact⟨0,by simp,by omega,by simp;exact .nil,by simp;exact .tok h1 h2 h3⟩
  |succ k =>
   obtain⟨A,h4,h5,h6,h7⟩:=ih k t (by simpa using h)
   rw [Za2] at h5
   refine⟨e+A,by omega,by omega,?_,by rw [←List.drop_drop];exact h7⟩
   rw [List.take_succ_cons]
   refine .tok (by rw [Aq1 (by omega)];exact h1) (A0y h2 (by omega)) ?_
   rw [List.drop_take,show e+A-e=A by omega]
   exact h6
theorem Sc.next{m:List UInt8}{p:Int}{t:Tok}{ts:List Tok}(h:Sc m p (t::ts)) (ht:t.pos=p):∀u,u∈ts→p<u.pos:=by
 cases h with
 |blank hc h2=>have:=h2.le t (by simp);omega
 |tok _ h2 h3 =>
  intro u hu
  have:=h3.le u hu
  have:=tokS_len h2
  omega
end Go.Proofs.YthndhaolemgbdaaGreatDoor.Lp
namespace Go.Ax
theorem FnOk.ofIs{P:Program}{el:Ck→TypeId}{gl:Nat→Option Gv}{f:FuncId}{sa sr:List Sg}{F:FT sa sr}(he:Sx.Enters P f) (ho:Bd 0 sr=[]) (h:∀x r,F x=some r→∃(us:List Value) (v:Value),(∀X vs,Reps X (B2 0 sa x) vs→vs=us)∧Sx.Con P f us [] (fun _=>True) (Sx.Is v)∧∀X,BdL sa x→Rep X (I9 (B2 0 sr r)) v):FnOk P el gl f sa sr F:=by
 refine⟨he,fun x r hx w M vs hM hgl hr =>?_⟩
 obtain⟨us,v,h1,h2,h3⟩:=h x r hx
 obtain rfl:=h1 _ _ hr
 refine(h2.calls w (fun _ _=>trivial)).mono ?_
 rintro en w' ⟨u,L',F',rfl,⟨rfl,_,_⟩,_,hb⟩
 refine⟨u,⟨fun _=>0,fun _=>Option.none⟩,rfl,Chg.of_below hb,fun p g o hp =>?_,fun p q g o o' hp =>?_,h3 _ (Wl hr)⟩
 ·rw [ho] at hp;cases hp
 ·rw [ho] at hp;cases hp
end Go.Ax
namespace Go.Proofs.YthndhaolemgbdaaGreatDoor
open Go.Ax
open Go.Sx (Con S Is Ait Bee)
end Go.Proofs.YthndhaolemgbdaaGreatDoor
namespace Go.Proofs.YthndhaolemgbdaaGreatDoor
open Go.Ax
def Wq:Sig:=⟨20,[(0,.str),(2,.bool),(5,.int .i64),(6,.int .i64)],[],[],0,0,0,[],[]⟩
abbrev Je:=Str×Bool×Int×Int
def Ia{R:Type}(rec:Je→Option R) (kx:Ex→Je→Option R) (v:Je):Option R:=match v with
 |(v,v1,v2,v3) =>
 cond (decide (v3<v2)) (
  chk (inb v3 v.length) (
  cond (decide ((bat v v3)<32)) (
   kx .ret (v,false,v2,v3)) (
   chk (inb v3 v.length) (
   cond (decide (126<(bat v v3))) (
    kx .ret (v,false,v2,v3)) (
    rec (v,v1,v2,(wr .i64 (v3+1)))))))) (
  kx (.exit 0) (v,v1,v2,v3))
def Af9(R:Type) (k:Nat):Px R:=pxO [] [] [(2,Ao k Wq (Ia))] []
def Anr(k:Nat) (x:HV [.str]):Option (HV [.bool]):=match x with
 |s =>
 Al (fun rec=>Ia rec (fun e vz=>match vz with|(_,v5,_,_)=>match e with
  |.ret =>
  some v5
  |.exit 0 =>
  some true
  |_=>none)) k (s,false,(s.length:Int),0)
theorem Aor(k:Nat):FO 169 [.str] [.bool] (Anr k):=fR (px:=Af9 _ k) (n:=1) Tryz.func169 rfl (fun cx H=>by
 have h0:Lv cx (Af9 (HV [.bool]) k):=lv H Ae Aa Ab
 have hlvisible_0:=lO H h0 (b:=lp Tryz.f169 0) (k:=k) (n:=0) (s:=Wq) (step:=Ia) (fun _ _ _ (_,_,_,_)=>by kernel_rfl) Aj
 exact⟨h0,(Bf Aj hlvisible_0)⟩) fun _=>by kernel_rfl
def vis(b:UInt8):Bool:=decide (32≤b.toNat)&&decide (b.toNat≤126)
def Eg(s:Str):Bool:=s.all vis
def Zo:FT [.str] [.bool]:=fun x=>some (Eg x)
theorem W8{R:Type}{kx:Ex→Je→Option R}{s:Str}{a b:Option R}(hs:ln s.length) (h1:∀r j,kx .ret (s,false,r,j)=a) (h2:∀q r j,kx (.exit 0) (s,q,r,j)=b):∀(k i:Nat) q,i≤s.length→s.length-i<k→Al (fun rec=>Ia rec kx) k (s,q,(s.length:Int),(i:Int))=cond ((s.drop i).all vis) b a
 |0,i,q,_,h=>by omega
 |k+1,i,q,hi,h=>by
  rw [A3]
  by_cases hl:i<s.length
  ·have ih:=W8 hs h1 h2 k (i+1) q (by omega) (by omega)
   simp only [Ia,Az hl hs,ih,h1,Am hl,Bz hl,A4 hl,Zv1,chk,Af,Bool.cond_decide]
   rw [if_pos (by omega)]
   simp only [vis]
   split
   ·rw [Zd1 (by omega)];rfl
   ·split
    ·rw [Ze1 (by omega),Zd1 (by omega)];rfl
    ·rw [Ze1 (by omega),Ze1 (by omega)];rfl
  ·simp only [Ia,h2,Bool.cond_decide]
   rw [if_neg (by omega),Zk1 (by omega)]
   rfl
theorem Ata:FO 169 [.str] [.bool] Zo :=.fin 0 Aor fun x r hb hx=>⟨x.length+1,by
 simp only [Zo,Za1] at hx
 have:=W8 (a:=some false) (b:=some true) hb (kx:=fun e v=>match v with|(_,v5,_,_)=>match e with|.ret=>some v5|.exit 0=>some true|_=>none) (fun _ _=>rfl) (fun _ _ _=>rfl) (x.length+1) 0 false (Nat.zero_le _) (by omega)
 refine Eq.trans this ?_
 rw [←hx,Zq1,Eg]
 cases x.all vis<;>rfl⟩
def A0w(R:Type):Px R:=pxO [(169,cA Zo)] [] [] []
def Oy(x:HV [.sv .val]):Option (HV [.bool]):=match x with
 |v =>
 cond (decide (v.kind=1)) (
  cond (decide (v.n=0)) (
  some (decide (v.s=[]))) (
  some false)) (
  cond (decide (v.kind=2)) (
  cond (decide (v.n=0)) (
   some (decide (v.s=[]))) (
   cond (decide (v.n=1)) (
   some (decide (v.s=[]))) (
   some false))) (
  cond (decide (v.kind=3)) (
   some (decide (v.s=[]))) (
   cond (decide (v.kind=4)) (
   cond (decide (v.n=0)) (
    cond (decide ((v.s.length:Int)≤1000)) (
    some (Eg v.s)) (
    some false)) (
    some false)) (
   cond (decide (v.kind=5)) (
    cond (decide (v.n=0)) (
    some (decide ((v.s.length:Int)≤1000))) (
    some false)) (
    some false)))))
theorem Auh:FO 147 [.sv .val] [.bool] (Oy):=fR (px:=A0w _) (n:=0) Tryz.func147 rfl (fun _ H=>⟨lv H (c1 H Ata Ae) Aa Ab,Aj⟩) fun _=>by kernel_rfl
def Dv(v:Val):Bool :=
 cond (decide (v.kind=1)) (
  cond (decide (v.n=0)) (
  (decide (v.s=[]))) (
  false)) (
  cond (decide (v.kind=2)) (
  cond (decide (v.n=0)) (
   (decide (v.s=[]))) (
   cond (decide (v.n=1)) (
   (decide (v.s=[]))) (
   false))) (
  cond (decide (v.kind=3)) (
   (decide (v.s=[]))) (
   cond (decide (v.kind=4)) (
   cond (decide (v.n=0)) (
    cond (decide ((v.s.length:Int)≤1000)) (
    (Eg v.s)) (
    false)) (
    false)) (
   cond (decide (v.kind=5)) (
    cond (decide (v.n=0)) (
    (decide ((v.s.length:Int)≤1000))) (
    false)) (
    false)))))
theorem Avy(x:HV [.sv .val]):Oy x=some (Dv x):=by
 first
  |exact rfl
  |simp only [Oy,Dv,Bb]
def Aez:FT [.sv .val] [.bool]:=fun x=>some (Dv x)
theorem Ai3:FO 147 [.sv .val] [.bool] Aez :=.fin0 Auh fun x _ _ hx=>(Avy x).trans hx
def A3t(R:Type):Px R:=pxO [(147,cA Aez)] [] [] []
def O9(x:HV [.sv .val]):Option (HV [.int .i64]):=match x with
 |v =>
 cond (!(Dv v)) (
  some 2) (
  some 0)
theorem Atg:FO 95 [.sv .val] [.int .i64] (O9):=fR (px:=A3t _) (n:=0) Tryz.func95 rfl (fun _ H=>⟨lv H (c1 H Ai3 Ae) Aa Ab,Aj⟩) fun _=>by kernel_rfl
def Em(v:Val):Int :=
 cond (!(Dv v)) (
  2) (
  0)
theorem Au5(x:HV [.sv .val]):O9 x=some (Em x):=by
 first
  |exact rfl
  |simp only [O9,Em,Bb]
def Aec:FT [.sv .val] [.int .i64]:=fun x=>some (Em x)
theorem Akw:FO 95 [.sv .val] [.int .i64] Aec :=.fin0 Atg fun x _ _ hx=>(Au5 x).trans hx
def Bb3(R:Type):Px R:=pxO [] [] [] []
def Yy(x:HV [.int .i64,.int .i64]):Option (HV [.int .i64,.int .i64]):=match x with
 |(a,b) =>
 cond (!decide ((decide (a<(wr .i64 (a+b))))=(decide (0<b)))) (
  some (0,20)) (
  some ((wr .i64 (a+b)),0))
theorem A5e:FO 195 [.int .i64,.int .i64] [.int .i64,.int .i64] (Yy):=fR (px:=Bb3 _) (n:=0) Tryz.func195 rfl (fun _ H=>⟨lv H Ae Aa Ab,Aj⟩) fun(_,_)=>by kernel_rfl
def Au2(a:Int) (b:Int):Int×Int :=
 cond (!decide ((decide (a<(wr .i64 (a+b))))=(decide (0<b)))) (
  (0,20)) (
  ((wr .i64 (a+b)),0))
theorem A8o(x:HV [.int .i64,.int .i64]):Yy x=some (Au2 x.1 x.2):=by
 first
  |exact rfl
  |simp only [Yy,Au2,Bb]
def A98:FT [.int .i64,.int .i64] [.int .i64,.int .i64]:=fun x=>some (Au2 x.1 x.2)
theorem Bax:FO 195 [.int .i64,.int .i64] [.int .i64,.int .i64] A98 :=.fin0 A5e fun x _ _ hx=>(A8o x).trans hx
def A9c(R:Type):Px R:=pxO [] [] [] []
def Tq(x:HV [.int .i64]):Option (HV [.int .u64]):=match x with
 |n =>
 cond (decide (n<0)) (
  some (wr .u64 (0-(wr .u64 n)))) (
  some (wr .u64 n))
theorem Azr:FO 170 [.int .i64] [.int .u64] (Tq):=fR (px:=A9c _) (n:=0) Tryz.func170 rfl (fun _ H=>⟨lv H Ae Aa Ab,Aj⟩) fun _=>by kernel_rfl
def De(n:Int):Int :=
 cond (decide (n<0)) (
  (wr .u64 (0-(wr .u64 n)))) (
  (wr .u64 n))
theorem Azo(x:HV [.int .i64]):Tq x=some (De x):=by
 first
  |exact rfl
  |simp only [Tq,De,Bb]
def Anp:FT [.int .i64] [.int .u64]:=fun x=>some (De x)
theorem Arh:FO 170 [.int .i64] [.int .u64] Anp :=.fin0 Azr fun x _ _ hx=>(Azo x).trans hx
def A7c(R:Type):Px R:=pxO [] [] [] []
def Ur(x:HV [.int .u64,.int .u64]):Option (HV [.int .u64,.int .u64]):=match x with
 |(a,b) =>
 some ((wr .u64 ((wr .u64 ((wr .u64 ((Ha .u64 a 32)*(Ha .u64 b 32)))+(Ha .u64 (wr .u64 ((wr .u64 ((Ha .u64 a 32)*(Ht .u64 b 4294967295)))+(Ha .u64 (wr .u64 ((Ht .u64 a 4294967295)*(Ht .u64 b 4294967295))) 32))) 32)))+(Ha .u64 (wr .u64 ((Ht .u64 (wr .u64 ((wr .u64 ((Ha .u64 a 32)*(Ht .u64 b 4294967295)))+(Ha .u64 (wr .u64 ((Ht .u64 a 4294967295)*(Ht .u64 b 4294967295))) 32))) 4294967295)+(wr .u64 ((Ht .u64 a 4294967295)*(Ha .u64 b 32))))) 32))),(wr .u64 (a*b)))
theorem A1o:FO 201 [.int .u64,.int .u64] [.int .u64,.int .u64] (Ur):=fR (px:=A7c _) (n:=0) Tryz.func201 rfl (fun _ H=>⟨lv H Ae Aa Ab,Aj⟩) fun(_,_)=>by kernel_rfl
def Iw(a:Int) (b:Int):Int×Int :=
 ((wr .u64 ((wr .u64 ((wr .u64 ((Ha .u64 a 32)*(Ha .u64 b 32)))+(Ha .u64 (wr .u64 ((wr .u64 ((Ha .u64 a 32)*(Ht .u64 b 4294967295)))+(Ha .u64 (wr .u64 ((Ht .u64 a 4294967295)*(Ht .u64 b 4294967295))) 32))) 32)))+(Ha .u64 (wr .u64 ((Ht .u64 (wr .u64 ((wr .u64 ((Ha .u64 a 32)*(Ht .u64 b 4294967295)))+(Ha .u64 (wr .u64 ((Ht .u64 a 4294967295)*(Ht .u64 b 4294967295))) 32))) 4294967295)+(wr .u64 ((Ht .u64 a 4294967295)*(Ha .u64 b 32))))) 32))),(wr .u64 (a*b)))
theorem A0r(x:HV [.int .u64,.int .u64]):Ur x=some (Iw x.1 x.2):=by
 first
  |exact rfl
  |simp only [Ur,Iw,Bb]
def Axx:FT [.int .u64,.int .u64] [.int .u64,.int .u64]:=fun x=>some (Iw x.1 x.2)
theorem A9b:FO 201 [.int .u64,.int .u64] [.int .u64,.int .u64] Axx :=.fin0 A1o fun x _ _ hx=>(A0r x).trans hx
def Bae(R:Type):Px R:=pxO [(170,cA Anp),(201,cA Axx)] [] [] []
def Zd(x:HV [.int .i64,.int .i64]):Option (HV [.int .i64,.int .i64]):=match x with
 |(a,b) =>
 let j1:=fun(p3:Bool) =>
  cond (p3) (
  some (0,20)) (
  cond (!decide ((decide (a<0))=(decide (b<0)))) (
   some ((wr .i64 (wr .u64 (0-(Iw (De a) (De b)).2))),0)) (
   some ((wr .i64 ((Iw (De a) (De b)).2)),0)))
 let j:=fun(p:Bool) =>
  cond (p) (
  j1 true) (
  cond (decide ((Iw (De a) (De b)).2=9223372036854775808)) (
   j1 (!(!decide ((decide (a<0))=(decide (b<0)))))) (
   j1 false))
 cond (decide (0<(Iw (De a) (De b)).1)) (
  j true) (
  j (decide (9223372036854775808<(Iw (De a) (De b)).2)))
theorem A80:FO 194 [.int .i64,.int .i64] [.int .i64,.int .i64] (Zd):=fR (px:=Bae _) (n:=0) Tryz.func194 rfl (fun _ H=>⟨lv H (c1 H Arh (c1 H A9b Ae)) Aa Ab,Aj⟩) fun(_,_)=>by kernel_rfl
def Aqi(a:Int) (b:Int):Int×Int :=
 let j1:=fun(p3:Bool) =>
  cond (p3) (
  (0,20)) (
  cond (!decide ((decide (a<0))=(decide (b<0)))) (
   ((wr .i64 (wr .u64 (0-(Iw (De a) (De b)).2))),0)) (
   ((wr .i64 ((Iw (De a) (De b)).2)),0)))
 let j:=fun(p:Bool) =>
  cond (p) (
  j1 true) (
  cond (decide ((Iw (De a) (De b)).2=9223372036854775808)) (
   j1 (!(!decide ((decide (a<0))=(decide (b<0)))))) (
   j1 false))
 cond (decide (0<(Iw (De a) (De b)).1)) (
  j true) (
  j (decide (9223372036854775808<(Iw (De a) (De b)).2)))
theorem A68(x:HV [.int .i64,.int .i64]):Zd x=some (Aqi x.1 x.2):=by
 first
  |exact rfl
  |simp only [Zd,Aqi,Bb]
def A8z:FT [.int .i64,.int .i64] [.int .i64,.int .i64]:=fun x=>some (Aqi x.1 x.2)
theorem Bdo:FO 194 [.int .i64,.int .i64] [.int .i64,.int .i64] A8z :=.fin0 A80 fun x _ _ hx=>(A68 x).trans hx
end Go.Proofs.YthndhaolemgbdaaGreatDoor
namespace Go.Proofs.YthndhaolemgbdaaGreatDoor
open Go.Ax
theorem On{i:Int}{n:Nat}(h : 0≤i∧i<n):inb i n=true:=by simp [inb,h]
def A6t(R:Type):Px R:=pxO [] [] [] []
def Uo(x:HV [.int .u8]):Option (HV [.bool]):=match x with
 |c =>
 cond (decide (97≤c)) (
  some (decide (c≤122))) (
  some false)
theorem A2p:FO 109 [.int .u8] [.bool] (Uo):=fR (px:=A6t _) (n:=0) Tryz.func109 rfl (fun _ H=>⟨lv H Ae Aa Ab,Aj⟩) fun _=>by kernel_rfl
def W0(c:Int):Bool :=
 cond (decide (97≤c)) (
  (decide (c≤122))) (
  false)
theorem A1j(x:HV [.int .u8]):Uo x=some (W0 x):=by
 first
  |exact rfl
  |simp only [Uo,W0,Bb]
def Adq:FT [.int .u8] [.bool]:=fun x=>some (W0 x)
theorem Agh:FO 109 [.int .u8] [.bool] Adq :=.fin0 A2p fun x _ _ hx=>(A1j x).trans hx
def A69(R:Type):Px R:=pxO [] [] [] []
def Ue(x:HV [.int .u8]):Option (HV [.bool]):=match x with
 |c =>
 cond (decide (48≤c)) (
  some (decide (c≤57))) (
  some false)
theorem A2x:FO 154 [.int .u8] [.bool] (Ue):=fR (px:=A69 _) (n:=0) Tryz.func154 rfl (fun _ H=>⟨lv H Ae Aa Ab,Aj⟩) fun _=>by kernel_rfl
def Xr(c:Int):Bool :=
 cond (decide (48≤c)) (
  (decide (c≤57))) (
  false)
theorem A1p(x:HV [.int .u8]):Ue x=some (Xr x):=by
 first
  |exact rfl
  |simp only [Ue,Xr,Bb]
def Acx:FT [.int .u8] [.bool]:=fun x=>some (Xr x)
theorem Agl:FO 154 [.int .u8] [.bool] Acx :=.fin0 A2x fun x _ _ hx=>(A1p x).trans hx
def A7v(R:Type):Px R:=pxO [(109,cA Adq),(154,cA Acx)] [] [] []
def U1(x:HV [.int .u8]):Option (HV [.bool]):=match x with
 |c =>
 cond ((W0 c)) (
  some true) (
  cond ((Xr c)) (
  some true) (
  some (decide (c=95))))
theorem A2h:FO 111 [.int .u8] [.bool] (U1):=fR (px:=A7v _) (n:=0) Tryz.func111 rfl (fun _ H=>⟨lv H (c1 H Agh (c1 H Agl Ae)) Aa Ab,Aj⟩) fun _=>by kernel_rfl
def Acf(c:Int):Bool :=
 cond ((W0 c)) (
  true) (
  cond ((Xr c)) (
  true) (
  (decide (c=95))))
theorem A2t(x:HV [.int .u8]):U1 x=some (Acf x):=by
 first
  |exact rfl
  |simp only [U1,Acf,Bb]
def Adc:FT [.int .u8] [.bool]:=fun x=>some (Acf x)
theorem Aew:FO 111 [.int .u8] [.bool] Adc :=.fin0 A2h fun x _ _ hx=>(A2t x).trans hx
theorem Afl(c:Int):W0 c=Lp.isLo c:=by simp only [W0,Lp.isLo];cases decide (97≤c)<;>rfl
theorem Aen(c:Int):Xr c=Lp.isDi c:=by simp only [Xr,Lp.isDi];cases decide (48≤c)<;>rfl
theorem Ahn(c:Int):Acf c=Lp.isIn c:=by
 simp only [Acf,Lp.isIn,Afl,Aen]
 cases Lp.isLo c<;>cases Lp.isDi c<;>rfl
def Ae4:Sig:=⟨21,[(0,.str),(1,.int .i64)],[(2,.fn 111 [])],[],40,40,200,[],[]⟩
abbrev Sb:=Str×Int
def Pw{R:Type}(rec:Sb→Option R) (kx:Ex→Sb→Option R) (v:Sb):Option R:=match v with
 |(v,v1) =>
 cond (decide (v1<(v.length:Int))) (
  chk (inb v1 v.length) (
  cond ((Acf (bat v v1))) (
   rec (v,(wr .i64 (v1+1)))) (
   kx (.exit 0) (v,v1)))) (
  kx (.exit 0) (v,v1))
def Aft(R:Type) (k:Nat):Px R:=pxO [(111,cA Adc)] [] [(1,Ao k Ae4 (Pw))] []
noncomputable def Arb (R:Type) (k:Nat):Px R:=pxO [(109,cA Adq),(110,As 40 200 (Aft R k) Tryz.f110)] [] [] []
def Agz(k:Nat) (x:HV [.str]):Option (HV [.bool]):=match x with
 |s =>
 let j1:=fun(p:Bool) =>
  let j:=fun(p1:Bool) =>
  cond (p1) (
   Al (fun rec=>Pw rec (fun e vz=>match vz with|(_,v3)=>match e with
   |.exit 0 =>
    some (decide (v3=(s.length:Int)))
   |_=>none)) k (s,0)) (
   some false)
  cond (p) (
  chk (inb 0 s.length) (
   j (W0 (bat s 0)))) (
  j false)
 cond (!decide (s=[])) (
  j1 (decide ((s.length:Int)≤30))) (
  j1 false)
theorem A0p(k:Nat):FO 63 [.str] [.bool] (Agz k):=fR (px:=Arb _ k) (n:=0) Tryz.func63 rfl (fun cx H=>by
 have h1:Lv cx (Aft (HV [.bool]) k):=lv H (c1 H Aew Ae) Aa Ab
 have hllname_0:=lO H h1 (b:=lp Tryz.f110 0) (k:=k) (n:=0) (s:=Ae4) (step:=Pw) (fun _ _ _ (_,_)=>by kernel_rfl) Aj
 have h0:Lv cx (Arb (HV [.bool]) k):=lv H (c1 H Agh (An (cR H h1 Tryz.func110 rfl (n:=1) ((Bf Aj hllname_0))) Ae)) Aa Ab
 exact⟨h0,Aj⟩) fun _=>by kernel_rfl
abbrev Dq (s:Str):Bool:=Lp.nameF s
def Mx:FT [.str] [.bool]:=fun x=>some (Dq x)
theorem Yl{R:Type}{kx:Ex→Sb→Option R}{s:Str}  {a:Int→Option R}(hs:ln s.length) (h1:∀j,kx (.exit 0) (s,j)=a j):∀(k i:Nat),i≤s.length→s.length-i<k→Al (fun rec=>Pw rec kx) k (s,(i:Int))=a (Lp.runTo Lp.isIn s i)
 |0,i,_,h=>absurd h (Zm1 _)
 |k+1,i,hi,h=>by
  rw [A3]
  by_cases hl:i<s.length
  ·have ih:=Yl  hs h1 k (i+1) (by omega) (by omega)
   have eb:Sx.byt s (i:Int)=(s[i].toNat:Int):=Bz hl
   simp only [Pw,Az hl hs,ih,h1,Bz hl,A4 hl,Ahn]
   rw [Ze1 (show(i:Int)<(s.length:Int) by omega)]
   cases hp:Lp.isIn (s[i].toNat:Int) with
   |true =>
    have:=Lp.runTo_yes (p:=Lp.isIn) (l:=s) (j:=i) (by omega) (by rw [eb];exact hp)
    rw [←this]
    rfl
   |false =>
    have:=Lp.runTo_no (p:=Lp.isIn) (l:=s) (j:=i) (by omega) (by rw [eb];exact hp)
    rw [this]
    rfl
  ·have:=Lp.runTo_end (p:=Lp.isIn) (l:=s) (j:=i) (by omega)
   simp only [Pw,h1]
   rw [Zd1 (by omega),this]
   rfl
theorem Oz:FO 63 [.str] [.bool] Mx :=.fin 0 A0p fun s r hb hx=>⟨s.length+1,by
 simp only [Mx,Za1] at hx
 rw [←hx]
 simp only [Agz,Dq,Lp.nameF]
 by_cases he:s=[]
 ·rw [Ze1 he];rfl
 ·rw [Zd1 he]
  simp only [Zs1,Af,Bool.true_and]
  by_cases h30:(s.length:Int)≤30
  ·have hp : 0<s.length:=List.length_pos_iff.2 he
   rw [Ze1 h30,On (by omega),Afl]
   simp only [chk,Af,Bool.true_and]
   have eb:bat s 0=Sx.byt s 0:=rfl
   rw [eb]
   cases Lp.isLo (Sx.byt s 0) with
   |false=>rfl
   |true =>
    simp only [Af,Bool.true_and]
    exact Yl (s:=s) (a:=fun j=>some (decide (j=(s.length:Int)))) hb (fun _=>rfl) (s.length+1) 0 (Nat.zero_le _) (by omega)
  ·rw [Zd1 h30]
   rfl⟩
end Go.Proofs.YthndhaolemgbdaaGreatDoor
namespace Go.Proofs.YthndhaolemgbdaaGreatDoor
open Go.Ax
theorem wru(n:Int):wr .u64 n=n % 18446744073709551616:=by simp [wr,IntKind.wrap,IntKind.bits,IntKind.signed]
theorem wri(n:Int):wr .i64 n=if 9223372036854775808≤n % 18446744073709551616 then n % 18446744073709551616-18446744073709551616 else n % 18446744073709551616:=by
 simp [wr,IntKind.wrap,IntKind.bits,IntKind.signed]
theorem Hm{n:Int}(h : 0≤n∧n≤18446744073709551615):wr .u64 n=n:=by rw [wru];omega
theorem Am5{a:Int}(h : 0≤a∧a≤18446744073709551615):Ht .u64 a 4294967295=a % 4294967296:=by
 obtain⟨n,rfl⟩:=Int.eq_ofNat_of_zero_le h.1
 have hn:n<18446744073709551616:=by omega
 have e2:(BitVec.ofInt IntKind.u64.bits (n:Int) &&& BitVec.ofInt IntKind.u64.bits 4294967295).toNat=n % 4294967296:=by
  show(BitVec.ofInt 64 (n:Int) &&& BitVec.ofInt 64 ((4294967295:Nat):Int)).toNat=n % 4294967296
  rw [BitVec.toNat_and,BitVec.ofInt_natCast,BitVec.ofInt_natCast,BitVec.toNat_ofNat,BitVec.toNat_ofNat]
  rw [Nat.mod_eq_of_lt hn,Nat.mod_eq_of_lt (by decide)]
  exact Nat.and_two_pow_sub_one_eq_mod n 32
 show wr .u64 _=_
 simp only [e2]
 rw [Hm (by omega)]
 omega
theorem Bco{a:Int}:Ha .u64 a 32=a / 4294967296:=by
 show a.fdiv (2 ^ min (32:Int).toNat IntKind.u64.bits)=_
 rw [show(2:Int) ^ min (32:Int).toNat IntKind.u64.bits=4294967296 from by decide]
 exact Int.fdiv_eq_ediv_of_nonneg _ (by omega)
theorem Z2(a b c d:Int) (h : 0≤a∧a≤c) (h' : 0≤b∧b≤d) : 0≤a*b∧a*b≤c*d :=
 ⟨Int.mul_nonneg h.1 h'.1,Int.mul_le_mul h.2 h'.2 h'.1 (by omega)⟩
theorem Abl(x y:Int):x*y=(x / 4294967296)*(y / 4294967296)*18446744073709551616+((x / 4294967296)*(y % 4294967296)+(x % 4294967296)*(y / 4294967296))*4294967296+(x % 4294967296)*(y % 4294967296):=by
 have hx:=Int.mul_ediv_add_emod x 4294967296
 have hy:=Int.mul_ediv_add_emod y 4294967296
 generalize x / 4294967296=p at *
 generalize x % 4294967296=q at *
 generalize y / 4294967296=r at *
 generalize y % 4294967296=s at *
 rw [←hx,←hy]
 simp only [Int.add_mul,Int.mul_add]
 have e1 : 4294967296*p*(4294967296*r)=p*r*18446744073709551616:=by
  rw [Int.mul_assoc,Int.mul_left_comm p,←Int.mul_assoc]
  omega
 have e2 : 4294967296*p*s=p*s*4294967296:=by rw [Int.mul_assoc];omega
 have e3:q*(4294967296*r)=q*r*4294967296:=by rw [Int.mul_left_comm];omega
 omega
theorem Bbb(x y:Int) (hx : 0≤x∧x≤18446744073709551615) (hy : 0≤y∧y≤18446744073709551615):Iw x y=(x*y / 18446744073709551616,x*y % 18446744073709551616):=by
 have b00:=Z2 (x % 4294967296) (y % 4294967296) 4294967295 4294967295 (by omega) (by omega)
 have b10:=Z2 (x / 4294967296) (y % 4294967296) 4294967295 4294967295 (by omega) (by omega)
 have b01:=Z2 (x % 4294967296) (y / 4294967296) 4294967295 4294967295 (by omega) (by omega)
 have b11:=Z2 (x / 4294967296) (y / 4294967296) 4294967295 4294967295 (by omega) (by omega)
 have sp:=Abl x y
 simp only [Iw,Bco,Am5 hx,Am5 hy]
 generalize (x % 4294967296)*(y % 4294967296)=p00 at *
 generalize (x / 4294967296)*(y % 4294967296)=p10 at *
 generalize (x % 4294967296)*(y / 4294967296)=p01 at *
 generalize (x / 4294967296)*(y / 4294967296)=p11 at *
 rw [Hm (n:=p00) (by omega),Hm (n:=p10) (by omega),Hm (n:=p11) (by omega),Hm (n:=p01) (by omega)]
 rw [Hm (n:=p10+p00 / 4294967296) (by omega)]
 rw [Am5 (by omega)]
 rw [Hm (n:=(p10+p00 / 4294967296) % 4294967296+p01) (by omega)]
 rw [Hm (n:=p11+(p10+p00 / 4294967296) / 4294967296) (by omega)]
 rw [Hm (n:=p11+(p10+p00 / 4294967296) / 4294967296+((p10+p00 / 4294967296) % 4294967296+p01) / 4294967296) (by omega),wru]
 rw [Zp1]
 constructor<;>omega
def U0(n:Int):Int×Int:=if -9223372036854775808≤n∧n≤9223372036854775807 then(n,0) else(0,20)
def J4(n:Int):Int:=if n<0 then -n else n
theorem Al7{n:Int}(h:inI n):De n=J4 n:=by
 simp only [inI] at h
 simp only [De,J4,Bool.cond_decide,wru]
 split<;>omega
theorem Amu{q r:Int}(h:inI q) (hr:r=q):(r,(0:Int))=U0 q:=by
 simp only [inI] at h
 rw [hr,U0,if_pos h]
theorem Alz{q:Int}(h:¬inI q):((0:Int),(20:Int))=U0 q:=by
 simp only [inI] at h
 rw [U0,if_neg h]
theorem Beg{a b:Int}(ha:inI a) (hb:inI b):Au2 a b=U0 (a+b):=by
 simp only [inI] at ha hb
 simp only [Au2,wri]
 by_cases h1 : 0<b
 ·rw [Ze1 h1]
  by_cases h2:a+b≤9223372036854775807
  ·have e:(a+b) % 18446744073709551616<9223372036854775808∨9223372036854775808≤(a+b) % 18446744073709551616:=by omega
   rw [←Amu (q:=a+b) (r:=if 9223372036854775808≤(a+b) % 18446744073709551616 then(a+b) % 18446744073709551616-18446744073709551616 else(a+b) % 18446744073709551616) (by simp only [inI];omega) (by split<;>omega)]
   rw [Ze1 (p:=a<_) (by split<;>omega)]
   rfl
  ·rw [←Alz (q:=a+b) (by simp only [inI];omega)]
   rw [Zd1 (p:=a<_) (by split<;>omega)]
   rfl
 ·rw [Zd1 h1]
  by_cases h2 : -9223372036854775808≤a+b
  ·rw [←Amu (q:=a+b) (r:=if 9223372036854775808≤(a+b) % 18446744073709551616 then(a+b) % 18446744073709551616-18446744073709551616 else(a+b) % 18446744073709551616) (by simp only [inI];omega) (by split<;>omega)]
   rw [Zd1 (p:=a<_) (by split<;>omega)]
   rfl
  ·rw [←Alz (q:=a+b) (by simp only [inI];omega)]
   rw [Ze1 (p:=a<_) (by split<;>omega)]
   rfl
theorem Bex{a b:Int}(ha:inI a) (hb:inI b):Aqi a b=U0 (a*b):=by
 have ha':=ha;have hb':=hb
 simp only [inI] at ha' hb'
 have hA : 0≤J4 a∧J4 a≤9223372036854775808:=by unfold J4;split<;>omega
 have hB : 0≤J4 b∧J4 b≤9223372036854775808:=by unfold J4;split<;>omega
 have hbd:=Z2 _ _ _ _ hA hB
 have hsg:a*b=if decide (a<0)=decide (b<0) then J4 a*J4 b else -(J4 a*J4 b):=by
  unfold J4
  by_cases h1:a<0<;>by_cases h2:b<0<;>simp [h1,h2,Int.neg_mul,Int.mul_neg]
 simp only [Aqi,Al7 ha,Al7 hb,Bbb _ _ (show 0≤J4 a∧J4 a≤18446744073709551615 by omega) (show 0≤J4 b∧J4 b≤18446744073709551615 by omega)]
 clear ha hb ha' hb' hA hB
 generalize J4 a*J4 b=p at *
 generalize a*b=q at *
 by_cases hs:decide (a<0)=decide (b<0)
 ·rw [if_pos hs] at hsg
  rw [Ze1 hs]
  by_cases h1:p<9223372036854775808
  ·rw [Zd1 (show ¬ 0<p / 18446744073709551616 by omega),Zd1 (show ¬ 9223372036854775808<p % 18446744073709551616 by omega),Zd1 (show ¬p % 18446744073709551616=9223372036854775808 by omega)]
   refine(show _=(wr .i64 (p % 18446744073709551616),(0:Int)) from rfl).trans (Amu (by simp only [inI];omega) ?_)
   rw [wri];split<;>omega
  ·rw [←Alz (q:=q) (by simp only [inI];omega)]
   by_cases h2 : 0<p / 18446744073709551616
   ·rw [Ze1 h2];rfl
   ·rw [Zd1 h2]
    by_cases h3 : 9223372036854775808<p % 18446744073709551616
    ·rw [Ze1 h3];rfl
    ·rw [Zd1 h3,Ze1 (show p % 18446744073709551616=9223372036854775808 by omega)];rfl
 ·rw [if_neg hs] at hsg
  rw [Zd1 hs]
  by_cases h1:p≤9223372036854775808
  ·rw [Zd1 (show ¬ 0<p / 18446744073709551616 by omega),Zd1 (show ¬ 9223372036854775808<p % 18446744073709551616 by omega)]
   have:U0 q=(wr .i64 (wr .u64 (0-p % 18446744073709551616)),(0:Int)):=by
    refine(Amu (by simp only [inI];omega) ?_).symm
    rw [wri,wru];split<;>omega
   rw [this]
   cases decide (p % 18446744073709551616=9223372036854775808)<;>rfl
  ·rw [←Alz (q:=q) (by simp only [inI];omega)]
   by_cases h2 : 0<p / 18446744073709551616
   ·rw [Ze1 h2];rfl
   ·rw [Zd1 h2,Ze1 (show 9223372036854775808<p % 18446744073709551616 by omega)];rfl
end Go.Proofs.YthndhaolemgbdaaGreatDoor
namespace Go.Proofs.YthndhaolemgbdaaGreatDoor
open Go.Ax
theorem A7e{m n:Nat}(h:m≤n):Cs 0 (m:Int) n=true:=by simp [Cs];omega
def A52(R:Type):Px R:=pxO [] [] [] []
def Aeb(x:HV [.str,.str]):Option (HV [.bool]):=match x with
 |(l,m) =>
 cond (decide ((m.length:Int)≤(l.length:Int))) (
  chk (Cs 0 (m.length:Int) l.length) (
  some (decide ((l.take ((m.length:Int):Int).toNat)=m)))) (
  some false)
theorem A0n:FO 192 [.str,.str] [.bool] (Aeb):=fR (px:=A52 _) (n:=0) Tryz.func192 rfl (fun _ H=>⟨lv H Ae Aa Ab,Aj⟩) fun(_,_)=>by kernel_rfl
def Ayj(l m:Str):Bool:=Lp.pre l m
def Al9:FT [.str,.str] [.bool]:=fun x=>some (Ayj x.1 x.2)
theorem A7n:FO 192 [.str,.str] [.bool] Al9 :=.fin0 A0n fun(l,m) r hb hx=>by
 simp only [Al9,Za1] at hx
 subst hx
 simp only [Aeb,Ayj,Lp.pre]
 have e:decide ((m.length:Int)≤(l.length:Int))=decide (m.length≤l.length):=Zy1.2 (by omega)
 rw [e]
 by_cases h:m.length≤l.length
 ·rw [Ze1 h,Af,A7e h,Int.toNat_natCast]
  rfl
 ·rw [Zd1 h]
  rfl
def Bbx(R:Type):Px R:=pxO [(192,cA Al9)] [] [] []
def Ze(x:HV [.str,.str]):Option (HV [.bool]):=match x with
 |(l,m) =>
 some (Ayj l m)
theorem A9w:FO 175 [.str,.str] [.bool] (Ze):=fR (px:=Bbx _) (n:=0) Tryz.func175 rfl (fun _ H=>⟨lv H (c1 H A7n Ae) Aa Ab,Aj⟩) fun(_,_)=>by kernel_rfl
def hpre(l:Str) (m:Str):Bool :=
 (Ayj l m)
theorem A35(x:HV [.str,.str]):Ze x=some (hpre x.1 x.2):=by
 first
  |exact rfl
  |simp only [Ze,hpre,Bb]
def Asz:FT [.str,.str] [.bool]:=fun x=>some (hpre x.1 x.2)
theorem Ayy:FO 175 [.str,.str] [.bool] Asz :=.fin0 A9w fun x _ _ hx=>(A35 x).trans hx
set_option maxRecDepth 20000 in
open Go.Sx in
theorem Pq(l:Str) (c:Int):Con Tryz.prog 174 [S l,.int .u8 c] [] (fun _=>True) (Is (.int .i64 (Lib.indexByte l c.toNat.toUInt8))):=by
 have run:∀w,(callFunc 191 #[S l,.int .u8 c]).run Tryz.prog w = .ok (.value (.int .i64 (Lib.indexByte l c.toNat.toUInt8))) w:=fun w=>by
  rw [run_callFunc_extern Tryz.func191 (by kernel_rfl) rfl (by kernel_rfl) (e:=Extern.BytealgIndexByte.indexByte) (by kernel_rfl)]
  simp [Lib.run_indexByteString,go_sem]
 refine Ait Tryz.func174 Tryz.ntmps174 rfl (by kernel_rfl) rfl fun w M =>?_
 repeat' (first|refine Bio ?_|refine Bab ?_|refine Bg4 ?_|refine Bhk ?_|refine Bi3 ?_|refine Bcj ?_|refine Bgm ?_|refine Be1 ?_|refine Bf0 ?_|refine Biy ?_|refine Bfv ?_|refine Bi4 rfl ?_|refine Bct ?_|refine Baq ?_|refine Bcp ?_|refine Ba7 ?_|(apply A7g rfl rfl;(first|exact p_move rfl|exact p_assign rfl|exact p_lens (by dsimp only;decide +kernel) rfl|exact p_lensl (by dsimp only;decide +kernel) rfl|exact p_extract rfl rfl|exact p_pick_t rfl rfl|exact p_pick_f rfl rfl|exact p_eql rfl rfl|exact p_neq rfl rfl|exact p_lss rfl rfl|exact p_leq rfl rfl|exact p_gtr rfl rfl|exact p_geq rfl rfl|exact p_not rfl|exact p_eqls rfl rfl|exact p_neqs rfl rfl|exact Bc3 rfl rfl (by omega)|exact Bcn rfl rfl (by omega)|exact p_index (by dsimp only;decide +kernel) rfl rfl (by omega)|exact p_cut (by dsimp only;decide +kernel) rfl rfl rfl (by omega)|exact p_cutlo (by dsimp only;decide +kernel) rfl rfl (by omega)|exact p_cuthi (by dsimp only;decide +kernel) rfl rfl (by omega)|exact p_fa (fo:=0) (by dsimp only;decide +kernel) rfl|exact p_fa (fo:=1) (by dsimp only;decide +kernel) rfl|exact p_fa (fo:=2) (by dsimp only;decide +kernel) rfl|exact p_fa (fo:=3) (by dsimp only;decide +kernel) rfl|exact Bhd rfl))|refine Bhr rfl rfl ?_|refine Au1 rfl ?_|(apply A7g rfl rfl (Bcb rfl rfl run))|(refine Bhj rfl rfl ?_ ?_<;>intro hc)|(refine Biw rfl rfl ?_ ?_<;>intro hc)|(refine Bhn rfl rfl ?_ ?_<;>intro hc)|(refine Bfx rfl rfl ?_ ?_<;>intro hc)|(refine Bhv rfl rfl ?_ ?_<;>intro hc)|(refine Bi9 rfl rfl ?_ ?_<;>intro hc)|refine Aqn rfl rfl ?_|refine Asf rfl rfl ?_|refine Aqn rfl (Ze1 (by omega)) ?_|refine Asf rfl (Zd1 (by omega)) ?_|(refine Bcq rfl ?_ ?_<;>intro hc)|(refine Bb7 rfl ?_ ?_<;>intro hc)|(refine Baf rfl ?_ ?_<;>intro hc)|(refine A7j rfl ?_ ?_<;>intro hc)|(refine Bcx rfl ?_ ?_<;>intro hc)|(refine Ov rfl ?_ ?_<;>intro hc)|refine Bgk rfl rfl ?_|refine Bes rfl rfl rfl ?_|refine Bfg rfl rfl rfl rfl ?_)
 exact Bee rfl
def sib(l:Str) (c:Int):Int:=Lib.indexByte l c.toNat.toUInt8
def A5b:FT [.str,.int .u8] [.int .i64]:=fun x=>some (sib x.1 x.2)
theorem Bb2(l:Str) (c:Int) : -1≤sib l c∧sib l c<l.length+1:=by
 have:=Lp.indexByte_in l c.toNat.toUInt8
 simp only [sib]
 omega
theorem Bev:FO 174 [.str,.int .u8] [.int .i64] A5b:=by
 refine FnOk.ofIs (Pq [] 0).enters rfl fun x r hx =>?_
 obtain⟨l,c⟩:=x
 simp only [A5b,Za1] at hx
 subst hx
 refine⟨[Sx.S l,.int .u8 c],_,fun X vs h =>?_,Pq l c,fun X hb =>?_⟩
 ·simp only [B2,Cm,Reps,Rep] at h
  obtain⟨u,us,rfl,⟨rfl,_⟩,u2,us2,rfl,⟨rfl,_⟩,rfl⟩:=h
  rfl
 ·simp only [I9,B2,Cm]
  have h:=Bb2 l c
  have hl:ln l.length:=hb.1
  refine C3 (Ayf ?_)
  simp only [IntKind.min,IntKind.max,IntKind.signed,IntKind.bits,sib,ln] at *
  simp only [if_true]
  omega
def A32(R:Type):Px R:=pxO [(174,cA A5b)] [] [] []
def Tj(x:HV [.str,.int .u8]):Option (HV [.int .i64]):=match x with
 |(l,c) =>
 some (sib l c)
theorem A15:FO 156 [.str,.int .u8] [.int .i64] (Tj):=fR (px:=A32 _) (n:=0) Tryz.func156 rfl (fun _ H=>⟨lv H (c1 H Bev Ae) Aa Ab,Aj⟩) fun(_,_)=>by kernel_rfl
def Jg(l:Str) (c:Int):Int :=
 (sib l c)
theorem A28(x:HV [.str,.int .u8]):Tj x=some (Jg x.1 x.2):=by
 first
  |exact rfl
  |simp only [Tj,Jg,Bb]
def Ac8:FT [.str,.int .u8] [.int .i64]:=fun x=>some (Jg x.1 x.2)
theorem Afm:FO 156 [.str,.int .u8] [.int .i64] Ac8 :=.fin0 A15 fun x _ _ hx=>(A28 x).trans hx
def A7u(R:Type):Px R:=pxO [] [] [] []
def Tu(x:HV [.int .u8]):Option (HV [.bool]):=match x with
 |c =>
 cond (decide (65≤c)) (
  some (decide (c≤90))) (
  some false)
theorem A22:FO 177 [.int .u8] [.bool] (Tu):=fR (px:=A7u _) (n:=0) Tryz.func177 rfl (fun _ H=>⟨lv H Ae Aa Ab,Aj⟩) fun _=>by kernel_rfl
def Acr(c:Int):Bool :=
 cond (decide (65≤c)) (
  (decide (c≤90))) (
  false)
theorem A0c(x:HV [.int .u8]):Tu x=some (Acr x):=by
 first
  |exact rfl
  |simp only [Tu,Acr,Bb]
def Ac1:FT [.int .u8] [.bool]:=fun x=>some (Acr x)
theorem Ad8:FO 177 [.int .u8] [.bool] Ac1 :=.fin0 A22 fun x _ _ hx=>(A0c x).trans hx
theorem Ahb(c:Int):Acr c=Lp.isUp c:=by simp only [Acr,Lp.isUp];cases decide (65≤c)<;>rfl
def A7o(R:Type):Px R:=pxO [(111,cA Adc),(177,cA Ac1)] [] [] []
def Uj(x:HV [.str,.int .i64]):Option (HV [.bool]):=match x with
 |(s,i) =>
 cond (decide (i=(s.length:Int))) (
  some true) (
  chk (inb i s.length) (
  cond (!(Acf (bat s i))) (
   chk (inb i s.length) (
   some (!(Acr (bat s i))))) (
   some false)))
theorem A26:FO 179 [.str,.int .i64] [.bool] (Uj):=fR (px:=A7o _) (n:=0) Tryz.func179 rfl (fun _ H=>⟨lv H (c1 H Aew (c1 H Ad8 Ae)) Aa Ab,Aj⟩) fun(_,_)=>by kernel_rfl
def Sn(s:Str) (i:Int):Option Bool:=if 0≤i∧i≤s.length then some (Lp.aloneF s i) else none
def Amd:FT [.str,.int .i64] [.bool]:=fun x=>Sn x.1 x.2
theorem Bbs(a b:Int):(a == b)=decide (a=b):=rfl
theorem Bbj(s:Str) (i:Int) (h : 0≤i∧i≤s.length):Uj (s,i)=some (Lp.aloneF s i):=by
 simp only [Uj,Lp.aloneF,Ahn,Ahb,Bbs]
 by_cases he:i=s.length
 ·rw [Ze1 he];rfl
 ·rw [Zd1 he,On (by omega)]
  show cond (!Lp.isIn (bat s i)) (some (!Lp.isUp (bat s i))) (some false)=some (!Lp.isIn (bat s i) && !Lp.isUp (bat s i))
  cases Lp.isIn (bat s i)<;>rfl
theorem A45:FO 179 [.str,.int .i64] [.bool] Amd :=.fin0 A26 fun(s,i) r hb hx=>by
 simp only [Amd,Sn] at hx
 split at hx
 ·rename_i h
  exact(Bbj s i h).trans hx
 ·cases hx
def Acl:Sig:=⟨46,[(0,.str),(2,.int .i64),(3,.bool),(4,.int .i64),(11,.int .i64),(12,.int .i64)],[],[],0,0,0,[],[]⟩
abbrev Mt:=Str×Int×Bool×Int×Int×Int
def Kv{R:Type}(rec:Mt→Option R) (kx:Ex→Mt→Option R) (v:Mt):Option R:=match v with
 |(v,v1,v2,v3,v4,v5) =>
 cond (decide (v5<v4)) (
  chk (inb v5 v.length) (
  cond (!decide ((Aqi v3 10).2=0)) (
   kx .ret (v,0,false,v3,v4,v5)) (
   cond (!decide ((Au2 ((Aqi v3 10).1) (wr .i64 (wr .u8 ((bat v v5)-48)))).2=0)) (
   kx .ret (v,0,false,v3,v4,v5)) (
   rec (v,v1,v2,(Au2 ((Aqi v3 10).1) (wr .i64 (wr .u8 ((bat v v5)-48)))).1,v4,(wr .i64 (v5+1))))))) (
  kx (.exit 0) (v,v1,v2,v3,v4,v5))
def Ak6(R:Type) (k:Nat):Px R:=pxO [(194,cA A8z),(195,cA A98)] [] [(3,Ao k Acl (Kv))] []
def Aao(k:Nat) (x:HV [.str]):Option (HV [.int .i64,.bool]):=match x with
 |s =>
 Al (fun rec=>Kv rec (fun e vz=>match vz with|(v6,v7,v8,v9,_,_)=>match e with
  |.ret =>
  some (v7,v8)
  |.exit 0 =>
  cond (decide (v6=[48])) (
   some (v9,true)) (
   chk (inb 0 v6.length) (
   some (v9, !decide ((bat v6 0)=48))))
  |_=>none)) k (s,0,false,0,(s.length:Int),0)
theorem Atu(k:Nat):FO 180 [.str] [.int .i64,.bool] (Aao k):=fR (px:=Ak6 _ k) (n:=1) Tryz.func180 rfl (fun cx H=>by
 have h0:Lv cx (Ak6 (HV [.int .i64,.bool]) k):=lv H (c1 H Bdo (c1 H Bax Ae)) Aa Ab
 have hlnumber_0:=lO H h0 (b:=lp Tryz.f180 0) (k:=k) (n:=0) (s:=Acl) (step:=Kv) (fun _ _ _ (_,_,_,_,_,_)=>by kernel_rfl) Aj
 exact⟨h0,(Bf Aj hlnumber_0)⟩) fun _=>by kernel_rfl
def A6o(s:Str):Int×Bool:=match Lp.numGo s 0 with
 |some n=>(n,decide (s=[48]) || !decide (bat s 0=48))
 |none=>(0,false)
def An1(s:Str):Option (Int×Bool):=match s with
 |[]=>none
 |_=>some (A6o s)
def Agb:FT [.str] [.int .i64,.bool]:=fun x=>An1 x
theorem Ab8{R:Type}{kx:Ex→Mt→Option R}{s:Str}{c:Option Int→Option R}(hs:ln s.length) (h1:∀n j,kx .ret (s,0,false,n,(s.length:Int),j)=c none) (h2:∀q r n j,kx (.exit 0) (s,q,r,n,(s.length:Int),j)=c (some n)):∀(k i:Nat) (q:Int) (r:Bool) (n:Int),inI n→i≤s.length→s.length-i<k→Al (fun rec=>Kv rec kx) k (s,q,r,n,(s.length:Int),(i:Int))=c (Lp.numGo (s.drop i) n)
 |0,i,q,r,n,_,_,h=>absurd h (Zm1 _)
 |k+1,i,q,r,n,hn,hi,h=>by
  rw [A3]
  by_cases hl:i<s.length
  ·have hd:=Lp.inI_dg (s[i].toNat:Int)
   have e10:inI (10:Int):=by simp only [inI];omega
   have em:=Bex hn e10
   simp only [Kv,A4 hl,Bz hl,em]
   rw [Ze1 (show(i:Int)<(s.length:Int) by omega),Am hl]
   simp only [Af,chk,Lp.numGo]
   by_cases hm:inI (n*10)
   ·have hm':=hm
    simp only [inI] at hm'
    have ef:U0 (n*10)=(n*10,0):=by rw [U0,if_pos hm']
    have ea:=Beg hm (show inI (wr .i64 (wr .u8 ((s[i].toNat:Int)-48))) from hd)
    simp only [ef,ea]
    by_cases hf:inI (n*10+Lp.dg (s[i].toNat:Int))
    ·have hf':=hf
     simp only [inI] at hf'
     have eg:U0 (n*10+wr .i64 (wr .u8 ((s[i].toNat:Int)-48)))=(n*10+Lp.dg (s[i].toNat:Int),0):=by
      have hf2 : -9223372036854775808≤n*10+wr .i64 (wr .u8 ((s[i].toNat:Int)-48))∧n*10+wr .i64 (wr .u8 ((s[i].toNat:Int)-48))≤9223372036854775807:=hf'
      rw [U0,if_pos hf2];rfl
     rw [eg,if_pos (show Lp.inI _∧Lp.inI _ from⟨hm,hf⟩)]
     have ih:=Ab8 hs h1 h2 k (i+1) q r (n*10+Lp.dg (s[i].toNat:Int)) hf (by omega) (by omega)
     rw [Az hl hs]
     exact ih
    ·have hf':=hf
     simp only [inI] at hf'
     have eg:U0 (n*10+wr .i64 (wr .u8 ((s[i].toNat:Int)-48)))=(0,20):=by
      have hf2:¬(-9223372036854775808≤n*10+wr .i64 (wr .u8 ((s[i].toNat:Int)-48))∧n*10+wr .i64 (wr .u8 ((s[i].toNat:Int)-48))≤9223372036854775807):=hf'
      rw [U0,if_neg hf2]
     rw [eg,if_neg (fun h=>hf h.2)]
     exact h1 _ _
   ·have hm':=hm
    simp only [inI] at hm'
    have ef:U0 (n*10)=(0,20):=by rw [U0,if_neg hm']
    rw [if_neg (fun h=>hm h.1)]
    simp only [ef]
    exact h1 _ _
  ·simp only [Kv,h2]
   rw [Zd1 (by omega),Zk1 (by omega)]
   rfl
theorem A16:FO 180 [.str] [.int .i64,.bool] Agb :=.fin 0 Atu fun s r hb hx=>⟨s.length+1,by
 simp only [Agb] at hx
 cases s with
 |nil=>cases hx
 |cons b l =>
  have hx:some (A6o (b::l))=some r:=hx
  rw [←hx]
  simp only [Aao]
  refine(Ab8 (s:=b::l) (c:=fun o=>match o with|some n=>some (n,decide (b::l=[48]) || !decide (bat (b::l) 0=48))|none=>some (0,false)) hb (fun _ _=>rfl) (fun _ _ n _ =>?_) ((b::l).length+1) 0 0 false 0 (by simp [inI]) (Nat.zero_le _) (by omega)).trans ?_
  ·show cond (decide (b::l=[48])) (some (n,true)) (chk (inb 0 (b::l).length) (some (n, !decide (bat (b::l) 0=48))))=_
   rw [On (by simp only [Zf1];omega)]
   cases decide (b::l=[48])<;>rfl
  ·simp only [Zq1,A6o]
   cases Lp.numGo (b::l) 0<;>rfl⟩
def Ab5:Sig:=⟨40,[(0,.str),(4,.str),(5,.int .i64),(6,.sl .byte true),(7,.int .i64)],[],[],0,0,0,[],[]⟩
abbrev M2:=Str×Str×Int×List UInt8×Int
def K5{R:Type}(rec:M2→Option R) (kx:Ex→M2→Option R) (v:M2):Option R:=match v with
 |(v,v1,v2,v3,v4) =>
 cond (decide (v4<(v.length:Int))) (
  chk (inb v4 v.length) (
  cond (decide ((bat v v4)=39)) (
   cond (decide ((wr .i64 (v4+1))=(v.length:Int))) (
   kx .ret (v,v3,(wr .i64 (v4+1)),v3,(wr .i64 (v4+1)))) (
   chk (inb (wr .i64 (v4+1)) v.length) (
    cond (!decide ((bat v (wr .i64 (v4+1)))=39)) (
    kx .ret (v,v3,(wr .i64 (v4+1)),v3,(wr .i64 (v4+1)))) (
    chk (inb (wr .i64 (v4+1)) v.length) (
     chk (decide (v3.length+1≤Av)) (
     rec (v,v1,v2,(v3++[(UInt8.ofNat ((bat v (wr .i64 (v4+1))):Int).toNat)]),(wr .i64 ((wr .i64 (v4+1))+1))))))))) (
   chk (inb v4 v.length) (
   chk (decide (v3.length+1≤Av)) (
    rec (v,v1,v2,(v3++[(UInt8.ofNat ((bat v v4):Int).toNat)]),(wr .i64 (v4+1)))))))) (
  kx (.exit 0) (v,v1,v2,v3,v4))
def Ajw(R:Type) (k:Nat):Px R:=pxO [] [] [(3,Ao k Ab5 (K5))] []
def Aam(k:Nat) (x:HV [.str,.int .i64]):Option (HV [.str,.int .i64]):=match x with
 |(s,i) =>
 Al (fun rec=>K5 rec (fun e vz=>match vz with|(_,v6,v7,_,_)=>match e with
  |.ret =>
  some (v6,v7)
  |.exit 0 =>
  some ([],(-1))
  |_=>none)) k (s,[],0,[],i)
theorem At7(k:Nat):FO 181 [.str,.int .i64] [.str,.int .i64] (Aam k):=fR (px:=Ajw _ k) (n:=1) Tryz.func181 rfl (fun cx H=>by
 have h0:Lv cx (Ajw (HV [.str,.int .i64]) k):=lv H Ae Aa Ab
 have hlquoted_0:=lO H h0 (b:=lp Tryz.f181 0) (k:=k) (n:=0) (s:=Ab5) (step:=K5) (fun _ _ _ (_,_,_,_,_)=>by kernel_rfl) Aj
 exact⟨h0,(Bf Aj hlquoted_0)⟩) fun(_,_)=>by kernel_rfl
def Anh(s:Str) (i:Int):Option (Str×Int):=if 0≤i∧i≤s.length∧s.length≤1000000 then some (Lp.qGo (s.drop i.toNat) [] i) else none
def Aff:FT [.str,.int .i64] [.str,.int .i64]:=fun x=>Anh x.1 x.2
theorem Af3(b:UInt8):UInt8.ofNat ((b.toNat:Int)).toNat=b:=by simp
theorem Nv{R:Type}{kx:Ex→M2→Option R}{s:Str}{c:Str×Int→Option R}(hs:s.length≤1000000) (h1:∀a j,kx .ret (s,a,j,a,j)=c (a,j)) (h2:∀q r a j,kx (.exit 0) (s,q,r,a,j)=c ([], -1)):∀(k i:Nat) (q:Str) (r:Int) (a:Str),a.length≤i→i≤s.length→s.length-i<k→Al (fun rec=>K5 rec kx) k (s,q,r,a,(i:Int))=c (Lp.qGo (s.drop (i:Int).toNat) a i)
 |0,i,q,r,a,_,_,h=>absurd h (Zm1 _)
 |k+1,i,q,r,a,ha,hi,h=>by
  rw [A3]
  by_cases hl:i<s.length
  ·have hln:ln s.length:=by simp only [ln];omega
   have ea:decide (a.length+1≤Av)=true:=Ze1 (by simp only [Av];omega)
   have eb:Sx.byt s (i:Int)=(s[i].toNat:Int):=Bz hl
   simp only [K5,A4 hl,Az hl hln,Bz hl,ea,Af3]
   rw [Ze1 (show(i:Int)<(s.length:Int) by omega)]
   simp only [Af,chk]
   by_cases h39:(s[i].toNat:Int)=39
   ·rw [Ze1 h39,Af]
    by_cases he:i+1=s.length
    ·rw [Ze1 (show((i+1:Nat):Int)=(s.length:Int) by omega),Af,h1,Lp.q_last (by omega) (by omega) (eb.trans h39)]
     rfl
    ·have hl2:i+1<s.length:=by omega
     have eb2:Sx.byt s ((i:Int)+1)=(s[i+1].toNat:Int):=Bz hl2
     rw [Zd1 (show ¬((i+1:Nat):Int)=(s.length:Int) by omega),A4 hl2,Ah]
     simp only [Af,Bz hl2,Af3]
     by_cases h3:(s[i+1].toNat:Int)=39
     ·have ih:=Nv hs h1 h2 k (i+1+1) q r (a++[s[i+1]]) (by simp only [Zh1,Zf1,Zi1];omega) (by omega) (by omega)
      have e39:s[i+1]=39:=by rw [←UInt8.toNat_inj];exact Int.ofNat.inj h3
      rw [Ze1 h3,Lp.q_two (by omega) (by omega) (eb.trans h39) (eb2.trans h3),Az hl2 hln]
      simp only [Zt1,Ah]
      rw [ih,e39]
      rfl
     ·rw [Zd1 h3,Lp.q_close (by omega) (by omega) (eb.trans h39) (fun e=>h3 (eb2.symm.trans e))]
      simp only [Zs1,Af,h1]
      rfl
   ·have ih:=Nv hs h1 h2 k (i+1) q r (a++[s[i]]) (by simp only [Zh1,Zf1,Zi1];omega) (by omega) (by omega)
    rw [Zd1 h39,Ah,ih,Lp.q_other (by omega) (by omega) (fun e=>h39 (eb.symm.trans e))]
    have eg:s.getD (i:Int).toNat 0=s[i]:=by simp [List.getD_eq_getElem?_getD,hl]
    rw [eg]
    rfl
  ·simp only [K5,h2]
   rw [Zd1 (by omega),Lp.q_end (by omega)]
   rfl
theorem A1e:FO 181 [.str,.int .i64] [.str,.int .i64] Aff :=.fin 0 At7 fun(s,i) r hb hx=>⟨s.length+1,by
 simp only [Aff,Anh] at hx
 split at hx
 ·rename_i h
  rw [←hx]
  obtain⟨n,rfl⟩:=Int.eq_ofNat_of_zero_le h.1
  simp only [Aam]
  exact Nv (c:=some) h.2.2 (fun _ _=>rfl) (fun _ _ _ _=>rfl) (s.length+1) n [] 0 [] (Nat.zero_le _) (by omega) (by omega)
 ·cases hx⟩
def Afv:Sig:=⟨19,[(0,.str),(2,.int .i64),(5,.sl .str true),(6,.int .i64),(7,.int .i64)],[],[],0,0,0,[],[]⟩
abbrev Y2:=Str×Int×List Str×Int×Int
def Aly{R:Type}(rec:Y2→Option R) (kx:Ex→Y2→Option R) (v:Y2):Option R:=match v with
 |(v,v1,v2,v3,v4) =>
 cond (decide (v4<v3)) (
  chk (inb v4 v2.length) (
  cond ((hpre v (at' .str v2 v4))) (
   kx .ret (v,2,v2,v3,v4)) (
   rec (v,v1,v2,v3,(wr .i64 (v4+1)))))) (
  kx (.exit 0) (v,v1,v2,v3,v4))
def Aq2(R:Type) (k:Nat):Px R:=pxO [(175,cA Asz),(156,cA Ac8)] [] [(2,Ao k Afv (Aly))] []
def Ag7(k:Nat) (x:HV [.str]):Option (HV [.int .i64]):=match x with
 |s =>
 Al (fun rec=>Aly rec (fun e vz=>match vz with|(v5,v6,_,_,_)=>match e with
  |.ret =>
  some v6
  |.exit 0 =>
  chk (inb 0 v5.length) (
   cond (decide (0≤(Jg [40,41,44,42,61,60,62,43,45,59] (bat v5 0)))) (
   some 1) (
   some 0))
  |_=>none)) k (s,0,[[60,62],[60,61],[62,61]],3,0)
theorem A1k(k:Nat):FO 182 [.str] [.int .i64] (Ag7 k):=fR (px:=Aq2 _ k) (n:=1) Tryz.func182 rfl (fun cx H=>by
 have h0:Lv cx (Aq2 (HV [.int .i64]) k):=lv H (c1 H Ayy (c1 H Afm Ae)) Aa Ab
 have hllsign_0:=lO H h0 (b:=lp Tryz.f182 0) (k:=k) (n:=0) (s:=Afv) (step:=Aly) (fun _ _ _ (_,_,_,_,_)=>by kernel_rfl) Aj
 exact⟨h0,(Bf Aj hllsign_0)⟩) fun _=>by kernel_rfl
def A5s(s:Str):Option Int:=match s with
 |[]=>none
 |_=>some (Lp.signF s)
def Al5:FT [.str] [.int .i64]:=fun x=>A5s x
theorem A4q:FO 182 [.str] [.int .i64] Al5 :=.fin 0 A1k fun s r hb hx=>⟨4,by
 simp only [Al5] at hx
 cases s with
 |nil=>cases hx
 |cons b l =>
  have hx:some (Lp.signF (b::l))=some r:=hx
  rw [←hx]
  have e0:inb 0 (b::l).length=true:=On (by simp only [Zf1];omega)
  have e1:hpre (b::l) [60,62]=Lp.pre (b::l) [60,62]:=rfl
  have e2:hpre (b::l) [60,61]=Lp.pre (b::l) [60,61]:=rfl
  have e3:hpre (b::l) [62,61]=Lp.pre (b::l) [62,61]:=rfl
  have ei:Jg [40,41,44,42,61,60,62,43,45,59] (bat (b::l) 0)=Lib.indexByte Lp.signs (Sx.byt (b::l) 0).toNat.toUInt8:=rfl
  simp only [Ag7,Lp.signF,←ei,←e1,←e2,←e3]
  show cond (hpre (b::l) [60,62]) (some 2) (cond (hpre (b::l) [60,61]) (some 2) (cond (hpre (b::l) [62,61]) (some 2) (chk (inb 0 (b::l).length) (cond (decide (0≤Jg [40,41,44,42,61,60,62,43,45,59] (bat (b::l) 0))) (some 1) (some 0)))))=_
  generalize Jg [40,41,44,42,61,60,62,43,45,59] (bat (b::l) 0)=z
  rw [e0]
  by_cases hz : 0≤z
  ·rw [Ze1 hz,if_pos hz]
   cases hpre (b::l) [60,62]<;>cases hpre (b::l) [60,61]<;>cases hpre (b::l) [62,61]<;>rfl
  ·rw [Zd1 hz,if_neg hz]
   cases hpre (b::l) [60,62]<;>cases hpre (b::l) [60,61]<;>cases hpre (b::l) [62,61]<;>rfl⟩
def A2f(R:Type):Px R:=pxO [] [] [] []
def Ou(x:HV [.int .u8]):Option (HV [.int .u8,.bool]):=match x with
 |c =>
 let j:=fun(p1:Bool) =>
  cond (p1) (
  some ((wr .u8 (c-48)),true)) (
  cond (decide (97≤c)) (
   cond (decide (c≤102)) (
   some ((wr .u8 ((wr .u8 (c-97))+10)),true)) (
   some (0,false))) (
   some (0,false)))
 cond (decide (48≤c)) (
  j (decide (c≤57))) (
  j false)
theorem Au6:FO 193 [.int .u8] [.int .u8,.bool] (Ou):=fR (px:=A2f _) (n:=0) Tryz.func193 rfl (fun _ H=>⟨lv H Ae Aa Ab,Aj⟩) fun _=>by kernel_rfl
def Nh(c:Int):Int×Bool :=
 let j:=fun(p1:Bool) =>
  cond (p1) (
  ((wr .u8 (c-48)),true)) (
  cond (decide (97≤c)) (
   cond (decide (c≤102)) (
   ((wr .u8 ((wr .u8 (c-97))+10)),true)) (
   (0,false))) (
   (0,false)))
 cond (decide (48≤c)) (
  j (decide (c≤57))) (
  j false)
theorem Avo(x:HV [.int .u8]):Ou x=some (Nh x):=by
 first
  |exact rfl
  |simp only [Ou,Nh,Bb]
def Arn:FT [.int .u8] [.int .u8,.bool]:=fun x=>some (Nh x)
theorem A0a:FO 193 [.int .u8] [.int .u8,.bool] Arn :=.fin0 Au6 fun x _ _ hx=>(Avo x).trans hx
def Bez(c:Int):Int×Bool:=match Lp.hexD c with
 |some n=>(n,true)
 |none=>(0,false)
theorem Atm:((List.range 256).all fun n=>decide (Nh (n:Int)=Bez (n:Int)))=true:=by kernel_rfl
theorem A3c(b:UInt8):Nh (b.toNat:Int)=Bez (b.toNat:Int):=by
 have h:=Zg2.1 Atm b.toNat (List.mem_range.2 b.toNat_lt)
 exact of_decide_eq_true h
def Af0:Sig:=⟨49,[(0,.str),(2,.sl .byte true),(3,.int .i64),(4,.sl .byte true),(5,.int .i64)],[],[],0,0,0,[],[]⟩
abbrev Q0:=Str×List UInt8×Int×List UInt8×Int
def Rc{R:Type}(rec:Q0→Option R) (kx:Ex→Q0→Option R) (v:Q0):Option R:=match v with
 |(v,v1,v2,v3,v4) =>
 cond (decide (v4<(v.length:Int))) (
  chk (inb v4 v.length) (
  chk (inb (wr .i64 (v4+1)) v.length) (
   cond (!((Nh (bat v v4)).2)) (
   kx .ret (v,[],11,v3,v4)) (
   cond (!((Nh (bat v (wr .i64 (v4+1)))).2)) (
    kx .ret (v,[],11,v3,v4)) (
    chk (decide (v3.length+1≤Av)) (
    rec (v,v1,v2,(v3++[(UInt8.ofNat ((ior .u8 (Be0 .u8 ((Nh (bat v v4)).1) 4) ((Nh (bat v (wr .i64 (v4+1)))).1)):Int).toNat)]),(wr .i64 (v4+2))))))))) (
  kx (.exit 0) (v,v1,v2,v3,v4))
def Ar4(R:Type) (k:Nat):Px R:=pxO [(193,cA Arn)] [] [(5,Ao k Af0 (Rc))] []
def Ae5(k:Nat) (x:HV [.str]):Option (HV [.sl .byte true,.int .i64]):=match x with
 |s =>
 cond (!decide ((Int.tmod (s.length:Int) 2)=0)) (
  some ([],11)) (
  Al (fun rec=>Rc rec (fun e vz=>match vz with|(_,v6,v7,v8,_)=>match e with
  |.ret =>
   some (v6,v7)
  |.exit 0 =>
   some (v8,0)
  |_=>none)) k (s,[],0,[],0))
theorem Azl(k:Nat):FO 176 [.str] [.sl .byte true,.int .i64] (Ae5 k):=fR (px:=Ar4 _ k) (n:=1) Tryz.func176 rfl (fun cx H=>by
 have h0:Lv cx (Ar4 (HV [.sl .byte true,.int .i64]) k):=lv H (c1 H A0a Ae) Aa Ab
 have hlunhex_0:=lO H h0 (b:=lp Tryz.f176 0) (k:=k) (n:=0) (s:=Af0) (step:=Rc) (fun _ _ _ (_,_,_,_,_)=>by kernel_rfl) Aj
 exact⟨h0,(Bf Aj hlunhex_0)⟩) fun _=>by kernel_rfl
def unP(s:Str):Str×Int:=match(if s.length % 2=0 then Lp.unGo s [] else none) with
 |some b=>(b,0)
 |none=>([],11)
def Ayd(s:Str):Option (Str×Int):=if s.length≤1000000 then some (unP s) else none
def Amh:FT [.str] [.sl .byte true,.int .i64]:=fun x=>Ayd x
theorem Ahi{R:Type}{kx:Ex→Q0→Option R}{s:Str}{c:Option Str→Option R}(hs:s.length≤1000000) (h1:∀a j,kx .ret (s,[],11,a,j)=c none) (h2:∀q r a j,kx (.exit 0) (s,q,r,a,j)=c (some a)):∀(k i:Nat) (q:Str) (r:Int) (a:Str),a.length≤i→i≤s.length→(s.length-i) % 2=0→s.length-i<k→Al (fun rec=>Rc rec kx) k (s,q,r,a,(i:Int))=c (Lp.unGo (s.drop (i:Int).toNat) a)
 |0,i,q,r,a,_,_,_,h=>absurd h (Zm1 _)
 |k+1,i,q,r,a,ha,hi,hev,h=>by
  rw [A3]
  by_cases hl:i<s.length
  ·have hl2:i+1<s.length:=by omega
   have hln:ln s.length:=by simp only [ln];omega
   have ea:decide (a.length+1≤Av)=true:=Ze1 (by simp only [Av];omega)
   have eb:Sx.byt s (i:Int)=(s[i].toNat:Int):=Bz hl
   have eb2:Sx.byt s ((i:Int)+1)=(s[i+1].toNat:Int):=Bz hl2
   have ew:wr .i64 ((i:Int)+2)=((i+1+1:Nat):Int):=by rw [Cc (by simp only [inI];omega)];omega
   simp only [Rc,A4 hl,Az hl hln,Bz hl,Bz hl2,A4 hl2,ea,ew,A3c]
   rw [Ze1 (show(i:Int)<(s.length:Int) by omega),Lp.un_step (by omega) (by omega),eb,eb2]
   simp only [Af,chk,Bez]
   cases hx:Lp.hexD (s[i].toNat:Int) with
   |none=>exact h1 _ _
   |some x =>
    cases hy:Lp.hexD (s[i+1].toNat:Int) with
    |none=>exact h1 _ _
    |some y =>
     have ih:=Ahi hs h1 h2 k (i+1+1) q r (a++[UInt8.ofNat (x*16+y).toNat]) (by simp only [Zh1,Zf1,Zi1];omega) (by omega) (by omega) (by omega)
     have ej:ior .u8 (Be0 .u8 x 4) y=_:=Lp.joinhex' (Lp.hexD_lt hx) (Lp.hexD_lt hy)
     simp only [Zt1,Ah,ej,Af3]
     exact ih
  ·simp only [Rc,h2]
   rw [Zd1 (by omega),Zk1 (by omega)]
   rfl
theorem A9h:FO 176 [.str] [.sl .byte true,.int .i64] Amh :=.fin 0 Azl fun s r hb hx=>⟨s.length+1,by
 simp only [Amh,Ayd] at hx
 split at hx
 ·rename_i h
  rw [←hx]
  have et:Int.tmod (s.length:Int) 2=((s.length % 2:Nat):Int):=rfl
  simp only [Ae5,et,unP]
  by_cases h2:s.length % 2=0
  ·rw [Ze1 (show((s.length % 2:Nat):Int)=0 by omega),if_pos h2,Zt1,Ah]
   refine(Ahi (c:=fun o=>match o with|some b=>some (b,(0:Int))|none=>some ([],11)) h (fun _ _ =>?_) (fun _ _ _ _ =>?_) (s.length+1) 0 [] 0 [] (Nat.zero_le _) (Nat.zero_le _) h2 (by omega)).trans ?_
   ·rfl
   ·rfl
   simp only [Int.toNat_natCast,Zq1]
   cases Lp.unGo s []<;>rfl
  ·rw [Zd1 (show ¬((s.length % 2:Nat):Int)=0 by omega),if_neg h2]
   rfl
 ·cases hx⟩
end Go.Proofs.YthndhaolemgbdaaGreatDoor
namespace Go.Proofs.YthndhaolemgbdaaGreatDoor
open Go.Ax
def Ak3:Sig:=⟨19,[(0,.sl .str false),(1,.str),(4,.int .i64),(7,.int .i64),(8,.int .i64)],[],[],0,0,0,[],[]⟩
abbrev Vn:=List Str×Str×Int×Int×Int
def Zr{R:Type}(rec:Vn→Option R) (kx:Ex→Vn→Option R) (v:Vn):Option R:=match v with
 |(v,v1,v2,v3,v4) =>
 cond (decide (v4<v3)) (
  chk (inb v4 v.length) (
  cond (decide (v1=(at' .str v v4))) (
   kx .ret (v,v1,v4,v3,v4)) (
   rec (v,v1,v2,v3,(wr .i64 (v4+1)))))) (
  kx (.exit 0) (v,v1,v2,v3,v4))
def Ayc(R:Type) (k:Nat):Px R:=pxO [] [] [(2,Ao k Ak3 (Zr))] []
def Aju(k:Nat) (x:HV [.sl .str false,.str]):Option (HV [.int .i64]):=match x with
 |(l,s) =>
 Al (fun rec=>Zr rec (fun e vz=>match vz with|(_,_,v7,_,_)=>match e with
  |.ret =>
  some v7
  |.exit 0 =>
  some (-1)
  |_=>none)) k (l,s,0,(l.length:Int),0)
theorem A75(k:Nat):FO 100 [.sl .str false,.str] [.int .i64] (Aju k):=fR (px:=Ayc _ k) (n:=1) Tryz.func100 rfl (fun cx H=>by
 have h0:Lv cx (Ayc (HV [.int .i64]) k):=lv H Ae Aa Ab
 have hlsidx_0:=lO H h0 (b:=lp Tryz.f100 0) (k:=k) (n:=0) (s:=Ak3) (step:=Zr) (fun _ _ _ (_,_,_,_,_)=>by kernel_rfl) Aj
 exact⟨h0,(Bf Aj hlsidx_0)⟩) fun(_,_)=>by kernel_rfl
def Bei(l:List Str) (s:Str):Int:=Lp.idx s l 0
def Atn:FT [.sl .str false,.str] [.int .i64]:=fun x=>some (Bei x.1 x.2)
theorem Akh{R:Type}{kx:Ex→Vn→Option R}{l:List Str}{s:Str}{c:Int→Option R}(hl:ln l.length) (h1:∀(r:Int) (i:Int),kx .ret (l,s,r,(l.length:Int),i)=c r) (h2:∀q:Int,kx (.exit 0) (l,s,q,(l.length:Int),(l.length:Int))=c (-1)) :
  ∀(k i:Nat) (q:Int),i≤l.length→l.length-i<k→Al (fun rec=>Zr rec kx) k (l,s,q,(l.length:Int),(i:Int))=c (Lp.idx s (l.drop i) i)
 |0,i,_,_,h=>absurd h (Zm1 _)
 |k+1,i,q,hi,h=>by
  rw [A3]
  by_cases hlt:i<l.length
  ·have ih:=Akh hl h1 h2 k (i+1) q (by omega) (by omega)
   have e1:decide ((i:Int)<(l.length:Int))=true:=Ze1 (by omega)
   have en:((i+1:Nat):Int)=(i:Int)+1:=by omega
   simp only [Zr,e1,Af,A4 hlt,chk,A9 (c :=.str) hlt,Az hlt hl,ih,h1]
   rw [Am hlt,Lp.idx,en]
   by_cases hx:s=l[i]
   ·rw [Ze1 hx,if_pos hx,Af]
   ·rw [Zd1 hx,if_neg hx,Ah]
  ·have hi:i=l.length:=by omega
   subst hi
   simp only [Zr,Zd1 (show ¬((l.length:Nat):Int)<(l.length:Int) by omega),Ah,h2,Zc2,Lp.idx]
theorem Ba4:FO 100 [.sl .str false,.str] [.int .i64] Atn :=.fin 0 A75 fun(l,s) r hb hx=>⟨l.length+1,by
 simp only [Atn,Za1] at hx
 rw [←hx]
 simp only [Aju]
 exact Akh (c:=fun q=>some q) hb.1.1 (fun _ _=>rfl) (fun _=>rfl) (l.length+1) 0 0 (Nat.zero_le _) (by omega)⟩
def Bbh(R:Type):Px R:=pxO [(100,cA Atn)] [] [] []
def Aad(x:HV [.sl .str false,.str]):Option (HV [.bool]):=match x with
 |(l,s) =>
 some (decide (0≤(Bei l s)))
theorem A70:FO 44 [.sl .str false,.str] [.bool] (Aad):=fR (px:=Bbh _) (n:=0) Tryz.func44 rfl (fun _ H=>⟨lv H (c1 H Ba4 Ae) Aa Ab,Aj⟩) fun(_,_)=>by kernel_rfl
def Aq9(l:List Str) (s:Str):Bool :=
 (decide (0≤(Bei l s)))
theorem A8s(x:HV [.sl .str false,.str]):Aad x=some (Aq9 x.1 x.2):=by
 first
  |exact rfl
  |simp only [Aad,Aq9,Bb]
def Auw:FT [.sl .str false,.str] [.bool]:=fun x=>some (Aq9 x.1 x.2)
theorem Awg:FO 44 [.sl .str false,.str] [.bool] Auw :=.fin0 A70 fun x _ _ hx=>(A8s x).trans hx
theorem Ay0(l:List Str) (s:Str):Aq9 l s=l.contains s:=by
 have e:Aq9 l s=decide (0≤Lp.idx s l 0):=rfl
 rw [e,Bool.eq_iff_iff,Zg1,Lp.idx_ge s l 0 (Int.le_refl 0)]
 simp
end Go.Proofs.YthndhaolemgbdaaGreatDoor
namespace Go.Proofs.YthndhaolemgbdaaGreatDoor
open Go.Ax
def A86(R:Type):Px R:=pxO [(44,cA Auw)] [] [] []
def T6(x:HV [.str]):Option (HV [.bool]):=match x with
 |s =>
 some (Aq9 wordsL s)
theorem A03:FO 178 [.str] [.bool] (T6):=fR (px:=A86 _) (n:=0) Tryz.func178 rfl (fun _ H=>⟨lv H (c1 H Awg Ae) Aa Ab,Aj⟩) fun _=>by kernel_rfl
def Wp(s:Str):Bool :=
 (Aq9 wordsL s)
theorem A3u(x:HV [.str]):T6 x=some (Wp x):=by
 first
  |exact rfl
  |simp only [T6,Wp,Bb]
def Ayt:FT [.str] [.bool]:=fun x=>some (Wp x)
theorem A4u:FO 178 [.str] [.bool] Ayt :=.fin0 A03 fun x _ _ hx=>(A3u x).trans hx
theorem Aho(s:Str):Wp s=Lp.wordF s:=Ay0 wordsL s
end Go.Proofs.YthndhaolemgbdaaGreatDoor
namespace Go.Proofs.YthndhaolemgbdaaGreatDoor
open Go.Ax
def Ps:Sig:=⟨21,[(0,.str),(1,.int .i64)],[(2,.fn 154 [])],[(0,.one (.sv .tok)),(1,.one (.sv .tok))],40,40,200,[],[]⟩
abbrev Fa:=Str×Int×Tok×Tok
def I8{R:Type}(rec:Fa→Option R) (kx:Ex→Fa→Option R) (v:Fa):Option R:=match v with
 |(v12,v13,w4,w5) =>
 cond (decide (v13<(v12.length:Int))) (
  chk (inb v13 v12.length) (
  cond ((Xr (bat v12 v13))) (
   rec (v12,(wr .i64 (v13+1)),w4,w5)) (
   kx (.exit 0) (v12,v13,w4,w5)))) (
  kx (.exit 0) (v12,v13,w4,w5))
def Ob:Sig:=⟨21,[(0,.str),(1,.int .i64)],[(2,.fn 111 [])],[(0,.one (.sv .tok)),(1,.one (.sv .tok))],40,40,200,[],[]⟩
abbrev E4:=Str×Int×Tok×Tok
def I0{R:Type}(rec:E4→Option R) (kx:Ex→E4→Option R) (v:E4):Option R:=match v with
 |(v6,v7,w2,w3) =>
 cond (decide (v7<(v6.length:Int))) (
  chk (inb v7 v6.length) (
  cond ((Acf (bat v6 v7))) (
   rec (v6,(wr .i64 (v7+1)),w2,w3)) (
   kx (.exit 0) (v6,v7,w2,w3)))) (
  kx (.exit 0) (v6,v7,w2,w3))
def Pp:Sig:=⟨21,[(0,.str),(1,.int .i64)],[(2,.fn 177 [])],[(0,.one (.sv .tok)),(1,.one (.sv .tok))],40,40,200,[],[]⟩
abbrev E5:=Str×Int×Tok×Tok
def Ij{R:Type}(rec:E5→Option R) (kx:Ex→E5→Option R) (v:E5):Option R:=match v with
 |(v,v1,w,w1) =>
 cond (decide (v1<(v.length:Int))) (
  chk (inb v1 v.length) (
  cond ((Acr (bat v v1))) (
   rec (v,(wr .i64 (v1+1)),w,w1)) (
   kx (.exit 0) (v,v1,w,w1)))) (
  kx (.exit 0) (v,v1,w,w1))
def Fs(R:Type) (k:Nat):Px R:=pxO [(177,cA Ac1),(111,cA Adc),(154,cA Acx)] [] [(1,Xd k Pp (Ij) (Xd k Ob (I0) (Ao k Ps (I8))))] []
noncomputable def Aiy (R:Type) (k:Nat):Px R:=pxO [(175,cA Asz),(156,cA Ac8),(176,cA Amh),(177,cA Ac1),(178,cA Ayt),(179,cA Amd),(109,cA Adq),(63,cA Mx),(154,cA Acx),(180,cA Agb),(181,cA Aff),(95,cA Aec),(182,cA Al5),(110,As 40 200 (Fs R k) Tryz.f110)] [] [] []
theorem Aos(R:Type) (k:Nat):∀(fr:List Fr) (rec:E5→Option R) (kx:Ex→E5→Option R) (v:E5),W1 (Fs R k) Pp (lp Tryz.f110 0) fr rec kx v=Ij rec kx v
 |fr,rec,kx,(v,v1,w,w1)=>by kernel_rfl
theorem Aot(R:Type) (k:Nat):∀(fr:List Fr) (rec:E4→Option R) (kx:Ex→E4→Option R) (v:E4),W1 (Fs R k) Ob (lp Tryz.f110 0) fr rec kx v=I0 rec kx v
 |fr,rec,kx,(v6,v7,w2,w3)=>by kernel_rfl
theorem Aro(R:Type) (k:Nat):∀(fr:List Fr) (rec:Fa→Option R) (kx:Ex→Fa→Option R) (v:Fa),W1 (Fs R k) Ps (lp Tryz.f110 0) fr rec kx v=I8 rec kx v
 |fr,rec,kx,(v12,v13,w4,w5)=>by kernel_rfl
def Nz(k:Nat) (x:HV [.str,.int .i64]):Option (HV [.sv .tok,.int .i64]):=match x with
 |(s,i) =>
 chk (inb i s.length) (
  chk (Cs i s.length s.length) (
  cond ((hpre (s.drop (i:Int).toNat) [120,39])) (
   chk (Cs (wr .i64 (i+2)) s.length s.length) (
   cond (decide ((Jg (s.drop ((wr .i64 (i+2)):Int).toNat) 39)<0)) (
    some ((Tok.mk 0 i [] 0),(-1))) (
    chk (Cs (wr .i64 (i+2)) (wr .i64 ((wr .i64 (i+2))+(Jg (s.drop ((wr .i64 (i+2)):Int).toNat) 39))) s.length) (
    (Ayd (cut s (wr .i64 (i+2)) (wr .i64 ((wr .i64 (i+2))+(Jg (s.drop ((wr .i64 (i+2)):Int).toNat) 39))))).bind fun(x,x1) =>
     cond (!decide (x1=0)) (
     some ((Tok.mk 5 i x 0),(-1))) (
     cond (decide (1000<(x.length:Int))) (
      some ((Tok.mk 5 i x 0),(-1))) (
      some ((Tok.mk 5 i x 0),(wr .i64 ((wr .i64 (i+3))+(Jg (s.drop ((wr .i64 (i+2)):Int).toNat) 39)))))))))) (
   cond ((Acr (bat s i))) (
   Al (fun rec=>Ij rec (fun e vz=>match vz with|(_,v3,_,v5)=>match e with
    |.exit 0 =>
    chk (Cs i v3 s.length) (
     cond (!(Wp (cut s i v3))) (
     some ((Tok.mk 1 v5.pos (cut s i v3) v5.n),(-1))) (
     (Sn s v3).bind fun x2 =>
      cond (!x2) (
      some ((Tok.mk 1 v5.pos (cut s i v3) v5.n),(-1))) (
      some ((Tok.mk 1 v5.pos (cut s i v3) v5.n),v3))))
    |_=>none)) k (s,i,(Tok.mk 0 0 [] 0),(Tok.mk 0 i [] 0))) (
   cond ((W0 (bat s i))) (
    Al (fun rec=>I0 rec (fun e vz=>match vz with|(_,v9,_,v11)=>match e with
    |.exit 0 =>
     chk (Cs i v9 s.length) (
     cond (!(Dq (cut s i v9))) (
      some ((Tok.mk 2 v11.pos (cut s i v9) v11.n),(-1))) (
      (Sn s v9).bind fun x3 =>
      cond (!x3) (
       some ((Tok.mk 2 v11.pos (cut s i v9) v11.n),(-1))) (
       some ((Tok.mk 2 v11.pos (cut s i v9) v11.n),v9))))
    |_=>none)) k (s,i,(Tok.mk 0 0 [] 0),(Tok.mk 0 i [] 0))) (
    cond ((Xr (bat s i))) (
    Al (fun rec=>I8 rec (fun e vz=>match vz with|(_,v15,_,v17)=>match e with
     |.exit 0 =>
     chk (Cs i v15 s.length) (
      (An1 (cut s i v15)).bind fun(x4,x5) =>
      chk (Cs i v15 s.length) (
       cond (!x5) (
       some ((Tok.mk 3 v17.pos (cut s i v15) x4),(-1))) (
       (Sn s v15).bind fun x6 =>
        cond (!x6) (
        some ((Tok.mk 3 v17.pos (cut s i v15) x4),(-1))) (
        some ((Tok.mk 3 v17.pos (cut s i v15) x4),v15)))))
     |_=>none)) k (s,i,(Tok.mk 0 0 [] 0),(Tok.mk 0 i [] 0))) (
    cond (decide ((bat s i)=39)) (
     (Anh s (wr .i64 (i+1))).bind fun(x7,x8) =>
     cond (!decide ((Em (Val.mk 4 0 x7))=0)) (
      some ((Tok.mk 4 i x7 0),(-1))) (
      some ((Tok.mk 4 i x7 0),x8))) (
     chk (Cs i s.length s.length) (
     (A5s (s.drop (i:Int).toNat)).bind fun x9 =>
      chk (Cs i (wr .i64 (i+x9)) s.length) (
      cond (decide (x9=0)) (
       some ((Tok.mk 6 i (cut s i (wr .i64 (i+x9))) 0),(-1))) (
       some ((Tok.mk 6 i (cut s i (wr .i64 (i+x9))) 0),(wr .i64 (i+x9)))))))))))))
theorem Aud(k:Nat):FO 157 [.str,.int .i64] [.sv .tok,.int .i64] (Nz k):=fR (px:=Aiy _ k) (n:=0) Tryz.func157 rfl (fun cx H=>by
 have h1:Lv cx (Fs (HV [.sv .tok,.int .i64]) k):=lv H (c1 H Ad8 (c1 H Aew (c1 H Agl Ae))) Aa Ab
 have hlltoken_0:Ch cx (Fs (HV [.sv .tok,.int .i64]) k) (lp Tryz.f110 0):=Axi (fun _ _=>by kernel_rfl) (Zl (Oe h1.p h1.c h1.q (by rw [H.p];exact follows) (k:=k) (s:=Pp) (step:=Ij) (by kernel_rfl) (Aos _ k) (Ls (n:=0) (by kernel_rfl) Aj)) (Zl (Oe h1.p h1.c h1.q (by rw [H.p];exact follows) (k:=k) (s:=Ob) (step:=I0) (by kernel_rfl) (Aot _ k) (Ls (n:=0) (by kernel_rfl) Aj)) (Oe h1.p h1.c h1.q (by rw [H.p];exact follows) (k:=k) (s:=Ps) (step:=I8) (by kernel_rfl) (Aro _ k) (Ls (n:=0) (by kernel_rfl) Aj))))
 have h0:Lv cx (Aiy (HV [.sv .tok,.int .i64]) k):=lv H (c1 H Ayy (c1 H Afm (c1 H A9h (c1 H Ad8 (c1 H A4u (c1 H A45 (c1 H Agh (c1 H Oz (c1 H Agl (c1 H A16 (c1 H A1e (c1 H Akw (c1 H A4q (An (cR H h1 Tryz.func110 rfl (n:=1) ((Bf Aj hlltoken_0))) Ae)))))))))))))) Aa Ab
 exact⟨h0,Aj⟩) fun(_,_)=>by kernel_rfl
def Za(s:Str) (i:Int):Option (Tok×Int):=if s.length≤20000 then Nz 20001 (s,i) else none
def Ag3:FT [.str,.int .i64] [.sv .tok,.int .i64]:=fun x=>Za x.1 x.2
theorem A0u:FO 157 [.str,.int .i64] [.sv .tok,.int .i64] Ag3 :=.fin 0 Aud fun(s,i) r hb hx=>⟨20001,by
 simp only [Ag3,Za] at hx
 split at hx
 ·exact hx
 ·cases hx⟩
theorem Sy{R:Type}{kx:Ex→E5→Option R}{s:Str}(w w1:Tok) {a:Int→Option R}(hs:ln s.length) (h1:∀j,kx (.exit 0) (s,j,w,w1)=a j):∀(k i:Nat),i≤s.length→s.length-i<k→Al (fun rec=>Ij rec kx) k (s,(i:Int),w,w1)=a (Lp.runTo Lp.isUp s i)
 |0,i,_,h=>absurd h (Zm1 _)
 |k+1,i,hi,h=>by
  rw [A3]
  by_cases hl:i<s.length
  ·have ih:=Sy w w1 hs h1 k (i+1) (by omega) (by omega)
   have eb:Sx.byt s (i:Int)=(s[i].toNat:Int):=Bz hl
   simp only [Ij,Az hl hs,ih,h1,Bz hl,A4 hl,Ahb]
   rw [Ze1 (show(i:Int)<(s.length:Int) by omega)]
   cases hp:Lp.isUp (s[i].toNat:Int) with
   |true =>
    have:=Lp.runTo_yes (p:=Lp.isUp) (l:=s) (j:=i) (by omega) (by rw [eb];exact hp)
    rw [←this]
    rfl
   |false =>
    have:=Lp.runTo_no (p:=Lp.isUp) (l:=s) (j:=i) (by omega) (by rw [eb];exact hp)
    rw [this]
    rfl
  ·have:=Lp.runTo_end (p:=Lp.isUp) (l:=s) (j:=i) (by omega)
   simp only [Ij,h1]
   rw [Zd1 (by omega),this]
   rfl
theorem Sv{R:Type}{kx:Ex→E4→Option R}{s:Str}(w w1:Tok) {a:Int→Option R}(hs:ln s.length) (h1:∀j,kx (.exit 0) (s,j,w,w1)=a j):∀(k i:Nat),i≤s.length→s.length-i<k→Al (fun rec=>I0 rec kx) k (s,(i:Int),w,w1)=a (Lp.runTo Lp.isIn s i)
 |0,i,_,h=>absurd h (Zm1 _)
 |k+1,i,hi,h=>by
  rw [A3]
  by_cases hl:i<s.length
  ·have ih:=Sv w w1 hs h1 k (i+1) (by omega) (by omega)
   have eb:Sx.byt s (i:Int)=(s[i].toNat:Int):=Bz hl
   simp only [I0,Az hl hs,ih,h1,Bz hl,A4 hl,Ahn]
   rw [Ze1 (show(i:Int)<(s.length:Int) by omega)]
   cases hp:Lp.isIn (s[i].toNat:Int) with
   |true =>
    have:=Lp.runTo_yes (p:=Lp.isIn) (l:=s) (j:=i) (by omega) (by rw [eb];exact hp)
    rw [←this]
    rfl
   |false =>
    have:=Lp.runTo_no (p:=Lp.isIn) (l:=s) (j:=i) (by omega) (by rw [eb];exact hp)
    rw [this]
    rfl
  ·have:=Lp.runTo_end (p:=Lp.isIn) (l:=s) (j:=i) (by omega)
   simp only [I0,h1]
   rw [Zd1 (by omega),this]
   rfl
theorem Td{R:Type}{kx:Ex→Fa→Option R}{s:Str}(w w1:Tok) {a:Int→Option R}(hs:ln s.length) (h1:∀j,kx (.exit 0) (s,j,w,w1)=a j):∀(k i:Nat),i≤s.length→s.length-i<k→Al (fun rec=>I8 rec kx) k (s,(i:Int),w,w1)=a (Lp.runTo Lp.isDi s i)
 |0,i,_,h=>absurd h (Zm1 _)
 |k+1,i,hi,h=>by
  rw [A3]
  by_cases hl:i<s.length
  ·have ih:=Td w w1 hs h1 k (i+1) (by omega) (by omega)
   have eb:Sx.byt s (i:Int)=(s[i].toNat:Int):=Bz hl
   simp only [I8,Az hl hs,ih,h1,Bz hl,A4 hl,Aen]
   rw [Ze1 (show(i:Int)<(s.length:Int) by omega)]
   cases hp:Lp.isDi (s[i].toNat:Int) with
   |true =>
    have:=Lp.runTo_yes (p:=Lp.isDi) (l:=s) (j:=i) (by omega) (by rw [eb];exact hp)
    rw [←this]
    rfl
   |false =>
    have:=Lp.runTo_no (p:=Lp.isDi) (l:=s) (j:=i) (by omega) (by rw [eb];exact hp)
    rw [this]
    rfl
  ·have:=Lp.runTo_end (p:=Lp.isDi) (l:=s) (j:=i) (by omega)
   simp only [I8,h1]
   rw [Zd1 (by omega),this]
   rfl
theorem Fe{i j:Int}{n:Nat}(h : 0≤i∧i≤j∧j≤n):Cs i j n=true:=by simp [Cs,h]
theorem Asn{n:Int}(h : 0≤n∧n≤1000000):wr .i64 n=n:=Cc (by simp only [inI];omega)
theorem A11{x:Str}(h:x≠[]):An1 x=some (A6o x):=by
 cases x with
 |nil=>exact absurd rfl h
 |cons b l=>rfl
theorem A31{x:Str}(h:x≠[]):A5s x=some (Lp.signF x):=by
 cases x with
 |nil=>exact absurd rfl h
 |cons b l=>rfl
theorem Aes{s:Str}{i:Int}(h : 0≤i∧i≤s.length):Sn s i=some (Lp.aloneF s i):=if_pos h
theorem Avh(x:Str):Eg x=Lp.visF x:=by
 have e:∀b:UInt8,vis b=Lp.vis (b.toNat:Int):=fun b=>by
  simp only [vis,Lp.vis]
  rw [show decide (32≤b.toNat)=decide (32≤(b.toNat:Int)) from Zy1.2 (by omega),show decide (b.toNat≤126)=decide ((b.toNat:Int)≤126) from Zy1.2 (by omega)]
 simp only [Eg,Lp.visF]
 congr 1
 funext b
 exact e b
theorem Aqj(x:Str):Dv (Val.mk 4 0 x)=Lp.rightF 4 0 x:=by
 show cond (decide ((x.length:Int)≤1000)) (Eg x) false=(decide ((x.length:Int)≤1000)&&Lp.visF x)
 rw [Avh]
 cases decide ((x.length:Int)≤1000)<;>rfl
theorem Aov(x:Str):decide (Em (Val.mk 4 0 x)=0)=Lp.rightF 4 0 x:=by
 have key:∀b:Bool,decide (cond (!b) (2:Int) 0=0)=b:=by decide
 rw [←Aqj]
 exact key _
theorem Avq{s:Str}{i:Int}(hl : 0≤i∧i<s.length) (hs:s.length≤20000):match Lp.tokF s i with
  |some (k,x,n,e)=>Za s i=some (⟨k,i,x,n⟩,e)
  |none=>∃t,Za s i=some (t, -1):=by
 have hln:ln s.length:=by simp only [ln];omega
 have hd:(s.drop i.toNat).length=s.length-i.toNat:=Za2
 have hd2:(s.drop (i+2).toNat).length=s.length-(i+2).toNat:=Za2
 have hne:s.drop i.toNat≠[]:=List.ne_nil_of_length_pos (by omega)
 obtain⟨m,rfl⟩:=Int.eq_ofNat_of_zero_le hl.1
 have hm:m<s.length:=by omega
 have ep:∀p q,hpre p q=Lp.pre p q:=fun _ _=>rfl
 have eb:bat s (m:Int)=Sx.byt s (m:Int):=rfl
 have e39:Jg (s.drop ((m:Int)+2).toNat) 39=Lib.indexByte (s.drop ((m:Int)+2).toNat) 39:=rfl
 simp only [Za,if_pos hs,Nz,A4 hm,Fe (show 0≤(m:Int)∧(m:Int)≤(s.length:Int)∧(s.length:Int)≤s.length by omega),ep,eb,Ahb,Afl,Aen,chk,Af,Lp.tokF,Asn (show 0≤(m:Int)+2∧(m:Int)+2≤1000000 by omega),Asn (show 0≤(m:Int)+3∧(m:Int)+3≤1000000 by omega),Asn (show 0≤(m:Int)+1∧(m:Int)+1≤1000000 by omega)]
 cases hx:Lp.pre (s.drop (m:Int).toNat) [120,39] with
 |true =>
  have h2 : 2≤(s.drop (m:Int).toNat).length:=by
   simp only [Lp.pre,Zb1,Zg1,Zf1,Zi1] at hx
   omega
  have hib:=Lp.indexByte_in (s.drop ((m:Int)+2).toNat) 39
  simp only [if_true,Af]
  rw [Fe (show 0≤(m:Int)+2∧(m:Int)+2≤(s.length:Int)∧(s.length:Int)≤s.length by omega),e39,Af]
  generalize Lib.indexByte (s.drop ((m:Int)+2).toNat) 39=z at hib ⊢
  by_cases hz:z<0
  ·rw [if_pos hz,Ze1 hz]
   exact⟨_,rfl⟩
  ·rw [if_neg hz,Zd1 hz,Asn (show 0≤(m:Int)+2+z∧(m:Int)+2+z≤1000000 by omega),Asn (show 0≤(m:Int)+3+z∧(m:Int)+3+z≤1000000 by omega),Fe (show 0≤(m:Int)+2∧(m:Int)+2≤(m:Int)+2+z∧(m:Int)+2+z≤s.length by omega),Ah,Af]
   have hcl:=Lp.cut_length s ((m:Int)+2) ((m:Int)+2+z) (by omega)
   have ec:cut s ((m:Int)+2) ((m:Int)+2+z)=Sx.cut s ((m:Int)+2) ((m:Int)+2+z):=rfl
   rw [ec]
   generalize Sx.cut s ((m:Int)+2) ((m:Int)+2+z)=y at hcl ⊢
   have eu:Ayd y=some (unP y):=if_pos (by omega)
   rw [eu,unP]
   cases (if y.length % 2=0 then Lp.unGo y [] else none) with
   |none=>exact⟨_,rfl⟩
   |some b =>
    by_cases hb : 1000<(b.length:Int)
    ·simp only [Zc1]
     rw [if_pos hb,Ze1 hb]
     exact⟨_,rfl⟩
    ·simp only [Zc1]
     rw [if_neg hb,Zd1 hb]
     rfl
 |false =>
  simp only [Ah,Zj2,if_false]
  cases hu:Lp.isUp (Sx.byt s (m:Int)) with
  |true =>
   have hr:=Lp.runTo_range Lp.isUp s m (by omega)
   simp only [Af,if_true]
   rw [Sy (s:=s) (w:=Tok.mk 0 0 [] 0) (w1:=Tok.mk 0 m [] 0) (a:=fun v3=>cond (Cs (m:Int) v3 s.length) (cond (!(Wp (cut s m v3))) (some ((Tok.mk 1 m (cut s m v3) 0),(-1))) ((Sn s v3).bind fun x2=>cond (!x2) (some ((Tok.mk 1 m (cut s m v3) 0),(-1))) (some ((Tok.mk 1 m (cut s m v3) 0),v3)))) none) hln (fun _=>rfl) 20001 m (by omega) (by omega)]
   rw [Fe (by omega),Aes (by omega),Aho]
   have ec:cut s (m:Int) (Lp.runTo Lp.isUp s m)=Sx.cut s (m:Int) (Lp.runTo Lp.isUp s m):=rfl
   rw [ec]
   cases Lp.wordF (Sx.cut s (m:Int) (Lp.runTo Lp.isUp s m)) with
   |false=>exact⟨_,rfl⟩
   |true =>
    cases Lp.aloneF s (Lp.runTo Lp.isUp s m) with
    |false=>exact⟨_,rfl⟩
    |true=>rfl
  |false =>
   simp only [Ah,Zj2,if_false]
   cases hu2:Lp.isLo (Sx.byt s (m:Int)) with
   |true =>
    have hr:=Lp.runTo_range Lp.isIn s m (by omega)
    simp only [Af,if_true]
    rw [Sv (s:=s) (w:=Tok.mk 0 0 [] 0) (w1:=Tok.mk 0 m [] 0) (a:=fun v3=>cond (Cs (m:Int) v3 s.length) (cond (!(Dq (cut s m v3))) (some ((Tok.mk 2 m (cut s m v3) 0),(-1))) ((Sn s v3).bind fun x2=>cond (!x2) (some ((Tok.mk 2 m (cut s m v3) 0),(-1))) (some ((Tok.mk 2 m (cut s m v3) 0),v3)))) none) hln (fun _=>rfl) 20001 m (by omega) (by omega)]
    rw [Fe (by omega),Aes (by omega)]
    have ec:cut s (m:Int) (Lp.runTo Lp.isIn s m)=Sx.cut s (m:Int) (Lp.runTo Lp.isIn s m):=rfl
    rw [ec]
    simp only [Dq]
    cases Lp.nameF (Sx.cut s (m:Int) (Lp.runTo Lp.isIn s m)) with
    |false=>exact⟨_,rfl⟩
    |true =>
     cases Lp.aloneF s (Lp.runTo Lp.isIn s m) with
     |false=>exact⟨_,rfl⟩
     |true=>rfl
   |false =>
    simp only [Ah,Zj2,if_false]
    cases hu3:Lp.isDi (Sx.byt s (m:Int)) with
    |true =>
     have hr:=Lp.runTo_range Lp.isDi s m (by omega)
     have hg:=Lp.runTo_gt (p:=Lp.isDi) (by omega) hu3
     have hcl:=Lp.cut_length s (m:Int) (Lp.runTo Lp.isDi s m) (by omega)
     simp only [Af,if_true]
     rw [Td (s:=s) (w:=Tok.mk 0 0 [] 0) (w1:=Tok.mk 0 m [] 0) (a:=fun v3=>cond (Cs (m:Int) v3 s.length) ((An1 (cut s m v3)).bind fun(x4,x5)=>cond (Cs (m:Int) v3 s.length) (cond (!x5) (some ((Tok.mk 3 m (cut s m v3) x4),(-1))) ((Sn s v3).bind fun x6=>cond (!x6) (some ((Tok.mk 3 m (cut s m v3) x4),(-1))) (some ((Tok.mk 3 m (cut s m v3) x4),v3)))) none) none) hln (fun _=>rfl) 20001 m (by omega) (by omega)]
     have ec:cut s (m:Int) (Lp.runTo Lp.isDi s m)=Sx.cut s (m:Int) (Lp.runTo Lp.isDi s m):=rfl
     rw [Fe (by omega),Aes (by omega),ec]
     generalize Sx.cut s (m:Int) (Lp.runTo Lp.isDi s m)=y at hcl ⊢
     rw [A11 (List.ne_nil_of_length_pos (by omega)),A6o]
     cases Lp.numGo y 0 with
     |none=>exact⟨_,rfl⟩
     |some n =>
      simp only [Zc1,Af]
      have e0:(decide (y=[48]) || !decide (bat y 0=48))=(decide (y=[48])||Sx.byt y 0 != 48):=rfl
      rw [e0]
      cases (decide (y=[48])||Sx.byt y 0 != 48) with
      |false=>exact⟨_,rfl⟩
      |true =>
       cases Lp.aloneF s (Lp.runTo Lp.isDi s m) with
       |false=>exact⟨_,rfl⟩
       |true=>rfl
    |false =>
     simp only [Ah,Zj2,if_false]
     by_cases h39:Sx.byt s (m:Int)=39
     ·have hqi:=Lp.qGo_in _ (s.drop ((m:Int)+1).toNat) [] ((m:Int)+1) (Zn1 _) (by omega)
      have eq:Anh s ((m:Int)+1)=some (Lp.qGo (s.drop ((m:Int)+1).toNat) [] ((m:Int)+1)):=if_pos (by omega)
      rw [Ze1 h39,if_pos h39,eq]
      simp only [Af,Zc1,Aov]
      generalize Lp.qGo (s.drop ((m:Int)+1).toNat) [] ((m:Int)+1)=q at hqi ⊢
      obtain⟨y,z⟩:=q
      cases Lp.rightF 4 0 y with
      |false=>exact⟨_,rfl⟩
      |true =>
       simp only [if_true,Zt1,Ah]
       by_cases hz:z<0
       ·rw [if_pos hz]
        obtain rfl:z = -1:=by simp only at hqi;omega
        exact⟨_,rfl⟩
       ·rw [if_neg hz]
     ·have hsi:=Lp.signF_in (s.drop (m:Int).toNat) (by omega)
      rw [Zd1 h39,if_neg h39,A31 hne]
      simp only [Ah,Zc1]
      generalize Lp.signF (s.drop (m:Int).toNat)=z at hsi ⊢
      rw [Asn (show 0≤(m:Int)+z∧(m:Int)+z≤1000000 by omega),Fe (by omega)]
      by_cases hz:z=0
      ·rw [Ze1 hz,if_pos hz]
       exact⟨_,rfl⟩
      ·rw [Zd1 hz,if_neg hz]
       rfl
def Alt:Sig:=⟨38,[(0,.str),(2,.sl .tok true),(3,.int .i64),(4,.int .i64),(5,.sl .tok true),(6,.int .i64)],[],[],0,0,0,[],[]⟩
abbrev Xf:=Str×List Tok×Int×Int×List Tok×Int
def Aae{R:Type}(rec:Xf→Option R) (kx:Ex→Xf→Option R) (v:Xf):Option R:=match v with
 |(v,v1,v2,v3,v4,v5) =>
 cond (decide (v5<(v.length:Int))) (
  chk (inb v5 v.length) (
  cond (decide (0≤(Jg [32,9,10,13] (bat v v5)))) (
   rec (v,v1,v2,v3,v4,(wr .i64 (v5+1)))) (
   (Za v v5).bind fun(x,x1) =>
   cond (decide (x1<0)) (
    kx .ret (v,[],v5,11,v4,v5)) (
    chk (decide (v4.length+1≤Av)) (
    rec (v,v1,v2,v3,(v4++[x]),x1)))))) (
  kx (.exit 0) (v,v1,v2,v3,v4,v5))
def Ax3(R:Type) (k:Nat):Px R:=pxO [(156,cA Ac8),(157,cA Ag3)] [] [(5,Ao k Alt (Aae))] []
def Aj0(k:Nat) (x:HV [.str]):Option (HV [.sl .tok true,.int .i64,.int .i64]):=match x with
 |s =>
 cond (decide (20000<(s.length:Int))) (
  some ([],0,3)) (
  Al (fun rec=>Aae rec (fun e vz=>match vz with|(_,v7,v8,v9,v10,_)=>match e with
  |.ret =>
   some (v7,v8,v9)
  |.exit 0 =>
   some (v10,0,0)
  |_=>none)) k (s,[],0,0,[],0))
theorem A8l(k:Nat):FO 116 [.str] [.sl .tok true,.int .i64,.int .i64] (Aj0 k):=fR (px:=Ax3 _ k) (n:=1) Tryz.func116 rfl (fun cx H=>by
 have h0:Lv cx (Ax3 (HV [.sl .tok true,.int .i64,.int .i64]) k):=lv H (c1 H Afm (c1 H A0u Ae)) Aa Ab
 have hllall_0:=lO H h0 (b:=lp Tryz.f116 0) (k:=k) (n:=0) (s:=Alt) (step:=Aae) (fun _ _ _ (_,_,_,_,_,_)=>by kernel_rfl) Aj
 exact⟨h0,(Bf Aj hllall_0)⟩) fun _=>by kernel_rfl
def Auv(s:Str):List Tok×Int×Int:=if 20000<(s.length:Int) then([],0,3) else match Lp.allF s with
 |.error i=>([],i,11)
 |.ok ts=>(ts,0,0)
abbrev Dy (s:Str):List Tok×Int×Int:=Auv s
def Anw:FT [.str] [.sl .tok true,.int .i64,.int .i64]:=fun x=>some (Dy x)
theorem A9o(c:Int):decide (0≤Jg [32,9,10,13] c)=Lp.blankF c:=rfl
theorem Yx{R:Type}{kx:Ex→Xf→Option R}{s:Str}{c:Except Int (List Tok)→Option R}(hs:s.length≤20000) (h1:∀a i j,kx .ret (s,[],i,11,a,j)=c (.error i)) (h2:∀q r t a j,kx (.exit 0) (s,q,r,t,a,j)=c (.ok a)):∀(k:Nat) (i:Int) (f:Nat) (q:List Tok) (r t:Int) (a:List Tok),(a.length:Int)≤i→0≤i→i≤s.length→(s.length:Int)-i<k→(s.length:Int)-i<f→Al (fun rec=>Aae rec kx) k (s,q,r,t,a,i)=c (Lp.allGo f s i a)
 |0,i,f,q,r,t,a,_,_,_,h,_=>by omega
 |k+1,i,0,q,r,t,a,_,_,_,_,h=>by omega
 |k+1,i,f+1,q,r,t,a,ha,h0,hi,h,hf=>by
  rw [A3]
  by_cases hl:i<s.length
  ·have ea:decide (a.length+1≤Av)=true:=Ze1 (by simp only [Av];omega)
   have eb:bat s i=Sx.byt s i:=rfl
   simp only [Aae,On (show 0≤i∧i<(s.length:Int) from⟨h0,hl⟩),A9o,ea,eb,Lp.allGo]
   rw [Ze1 hl,if_neg (show ¬(s.length:Int)≤i by omega)]
   simp only [Af,chk]
   cases hbl:Lp.blankF (Sx.byt s i) with
   |true =>
    rw [Asn (by omega)]
    simp only [Af,if_true]
    exact Yx hs h1 h2 k (i+1) f q r t a (by omega) (by omega) (by omega) (by omega) (by omega)
   |false =>
    have ht:=Avq (s:=s) (i:=i) ⟨h0,hl⟩ hs
    simp only [Ah,Zj2,if_false]
    cases hk:Lp.tokF s i with
    |none =>
     rw [hk] at ht
     obtain⟨u,hu⟩:=ht
     rw [hu]
     exact h1 _ _ _
    |some y =>
     obtain⟨y1,y2,y3,e⟩:=y
     rw [hk] at ht
     have hte:=Lp.tok_end ⟨h0,hl⟩ hk
     simp only at ht
     rw [ht]
     simp only [Zc1]
     rw [Zd1 (show ¬e<0 by omega),Ah]
     exact Yx hs h1 h2 k e f q r t (a++[⟨y1,i,y2,y3⟩]) (by simp only [Zh1,Zf1,Zi1];omega) (by omega) (by omega) (by omega) (by omega)
  ·simp only [Aae,h2,Lp.allGo]
   rw [Zd1 hl,if_pos (show(s.length:Int)≤i by omega)]
   rfl
theorem Awc:FO 116 [.str] [.sl .tok true,.int .i64,.int .i64] Anw :=.fin 0 A8l fun s r hb hx=>⟨20001,by
 simp only [Anw,Za1] at hx
 rw [←hx]
 simp only [Aj0,Dy,Auv]
 by_cases hbig : 20000<(s.length:Int)
 ·rw [Ze1 hbig,if_pos hbig]
  rfl
 ·rw [Zd1 hbig,if_neg hbig,Ah]
  refine(Yx (s:=s) (c:=fun o=>match o with|.error i=>some ([],i,(11:Int))|.ok ts=>some (ts,(0:Int),(0:Int))) (by omega) (fun _ _ _ =>?_) (fun _ _ _ _ _ =>?_) 20001 0 (s.length+1) [] 0 0 [] (by simp) (by omega) (by omega) (by omega) (by omega)).trans ?_
  ·rfl
  ·rfl
  ·show _=some (match Lp.allGo (s.length+1) s 0 [] with|.error i=>([],i,(11:Int))|.ok ts=>(ts,(0:Int),(0:Int)))
   cases Lp.allGo (s.length+1) s 0 []<;>rfl⟩
end Go.Proofs.YthndhaolemgbdaaGreatDoor
namespace Go.Proofs
open Go.Shelf
def Tryz.laysRA_ren:Go.Shelf.Ren:=⟨fun|155=>150|154=>171|138=>187|165=>153|143=>188|166=>104|197=>189|169=>41|195=>197|218=>198|240=>152|241=>173|219=>199|260=>200|276=>172|277=>190|217=>174|225=>203|224=>204|267=>205|266=>191|314=>207|n=>n,fun|9=>9|3=>3|4=>4|72=>80|0=>0|76=>154|105=>216|21=>21|5=>5|70=>77|20=>20|37=>78|75=>153|127=>148|164=>205|46=>68|119=>226|139=>229|138=>228|146=>231|51=>230|80=>84|n=>n,fun|1=>3|3=>4|4=>5|n=>n⟩
theorem Tryz.laysRA:Go.Proofs.Lays.n155 Tryz.prog Tryz.laysRA_ren:={
 mixed:=by kernel_rfl
 f138:=Tryz.func187.trans (congrArg some (by kernel_rfl))
 f143:=Tryz.func188.trans (congrArg some (by kernel_rfl))
 f154:=Tryz.func171.trans (congrArg some (by kernel_rfl))
 f155:=Tryz.func150.trans (congrArg some (by kernel_rfl))
 f165:=Tryz.func153.trans (congrArg some (by kernel_rfl))
 f166:=Tryz.func104.trans (congrArg some (by kernel_rfl))
 f169:=Tryz.func41.trans (congrArg some (by kernel_rfl))
 f195:=Tryz.func197.trans (congrArg some (by kernel_rfl))
 f197:=Tryz.func189.trans (congrArg some (by kernel_rfl))
 f217:=Tryz.func174.trans (congrArg some (by kernel_rfl))
 f218:=Tryz.func198.trans (congrArg some (by kernel_rfl))
 f219:=Tryz.func199.trans (congrArg some (by kernel_rfl))
 f224:=Tryz.func204.trans (congrArg some (by kernel_rfl))
 f225:=Tryz.func203.trans (congrArg some (by kernel_rfl))
 f240:=Tryz.func152.trans (congrArg some (by kernel_rfl))
 f241:=Tryz.func173.trans (congrArg some (by kernel_rfl))
 f260:=Tryz.func200.trans (congrArg some (by kernel_rfl))
 f266:=Tryz.func191.trans (congrArg some (by kernel_rfl))
 f267:=Tryz.func205.trans (congrArg some (by kernel_rfl))
 f276:=Tryz.func172.trans (congrArg some (by kernel_rfl))
 f277:=Tryz.func190.trans (congrArg some (by kernel_rfl))
 f314:=Tryz.func207.trans (congrArg some (by kernel_rfl))
 t0:=Tryz.underlying0
 a0:=Tryz.isAgg0
 z0:=Tryz.sizeOf0
 v0:=Tryz.zeroValue0
 t3:=Tryz.underlying3
 a3:=Tryz.isAgg3
 z3:=Tryz.sizeOf3
 v3:=Tryz.zeroValue3
 t4:=Tryz.underlying4
 a4:=Tryz.isAgg4
 z4:=Tryz.sizeOf4
 v4:=Tryz.zeroValue4
 t5:=Tryz.underlying5
 a5:=Tryz.isAgg5
 z5:=Tryz.sizeOf5
 v5:=Tryz.zeroValue5
 t9:=Tryz.underlying9
 a9:=Tryz.isAgg9
 z9:=Tryz.sizeOf9
 v9:=Tryz.zeroValue9
 t20:=Tryz.underlying20
 a20:=Tryz.isAgg20
 z20:=Tryz.sizeOf20
 v20:=Tryz.zeroValue20
 t21:=Tryz.underlying21
 a21:=Tryz.isAgg21
 z21:=Tryz.sizeOf21
 v21:=Tryz.zeroValue21
 t37:=Tryz.underlying78
 a37:=Tryz.isAgg78
 z37:=Tryz.sizeOf78
 v37:=Tryz.zeroValue78
 t46:=Tryz.underlying68
 a46:=Tryz.isAgg68
 z46:=Tryz.sizeOf68
 v46:=Tryz.zeroValue68
 t51:=Tryz.underlying230
 a51:=Tryz.isAgg230
 z51:=Tryz.sizeOf230
 v51:=Tryz.zeroValue230
 t70:=Tryz.underlying77
 a70:=Tryz.isAgg77
 z70:=Tryz.sizeOf77
 v70:=Tryz.zeroValue77
 t72:=Tryz.underlying80
 a72:=Tryz.isAgg80
 z72:=Tryz.sizeOf80
 v72:=Tryz.zeroValue80
 t75:=Tryz.underlying153
 a75:=Tryz.isAgg153
 z75:=Tryz.sizeOf153
 v75:=Tryz.zeroValue153
 t76:=Tryz.underlying154
 a76:=Tryz.isAgg154
 z76:=Tryz.sizeOf154
 v76:=Tryz.zeroValue154
 t105:=Tryz.underlying216
 a105:=Tryz.isAgg216
 z105:=Tryz.sizeOf216
 v105:=Tryz.zeroValue216
 t119:=Tryz.underlying226
 a119:=Tryz.isAgg226
 z119:=Tryz.sizeOf226
 t127:=Tryz.underlying148
 a127:=Tryz.isAgg148
 z127:=Tryz.sizeOf148
 v127:=Tryz.zeroValue148
 t138:=Tryz.underlying228
 a138:=Tryz.isAgg228
 z138:=Tryz.sizeOf228
 v138:=Tryz.zeroValue228
 t139:=Tryz.underlying229
 a139:=Tryz.isAgg229
 z139:=Tryz.sizeOf229
 v139:=Tryz.zeroValue229
 t146:=Tryz.underlying231
 a146:=Tryz.isAgg231
 z146:=Tryz.sizeOf231
 v146:=Tryz.zeroValue231
 t164:=Tryz.underlying205
 a164:=Tryz.isAgg205
 z164:=Tryz.sizeOf205
 v164:=Tryz.zeroValue205
 g1:=by kernel_rfl
 g3:=by kernel_rfl
 g4:=by kernel_rfl }
theorem Tryz.extraRA:Builder.Extra Tryz.prog Tryz.laysRA_ren:={
 sizeBuilder:=by kernel_rfl
 liesBuilder:=by kernel_rfl
 t5:=Tryz.laysRA.t5
 a5:=Tryz.laysRA.a5
 z5:=Tryz.laysRA.z5
 v5:=Tryz.laysRA.v5
 infoByte:=by kernel_rfl
 cellsByte:=by kernel_rfl
 sizeByte:=by kernel_rfl
 neB5:=by decide }
end Go.Proofs
