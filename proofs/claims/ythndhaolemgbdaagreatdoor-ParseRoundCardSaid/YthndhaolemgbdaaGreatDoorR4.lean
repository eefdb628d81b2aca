/- Texts of the proof,one behind the other: AxRn,Pf,Lo,Qa,Qb,Qc,Qd,Qe,Yf,Tw,Pa,Lc,Na,Lm,Ar,Shp,Sr,Dg,Nc,Eb,Fc,Es,Ix,En,Ep. -/
import Derived.Test.YthndhaolemgbdaaGreatDoorR3
import Derived.KernelRfl
import Derived.Test.YthndhaolemgbdaaGreatDoorProg
import Derived.Lib.Bytealg
import Derived.Shelf.Strings.Replace
set_option linter.all false
namespace Go.Ax
structure Hx (P:Program) (el:Ck→TypeId) (gl:Nat→Option Gv) (tt:Nat→Ty) (cx:Cx):Prop where
 p:cx.P=P
 e:cx.el=el
 g:cx.gl=gl
 t:∀t,Df P el tt t=true
 m:P.follows .mixedOrders=true
structure Lv {R:Type}(cx:Cx) (px:Px R):Prop where
 p:PxOk cx px
 c:F8 cx px
 q:CallQOk cx px
section
variable {R:Type}{P:Program}{el:Ck→TypeId}{gl:Nat→Option Gv}{tt:Nat→Ty}{cx:Cx}
theorem lv{px:Px R}{l:List (Nat×M0 R)}{lq:List (Nat×Lg R)}{lw:List (Nat×Xi R)}(H:Hx P el gl tt cx) (h:∀g f,(g,f)∈l→Oq cx g f) (hq:∀g f,(g,f)∈lq→Abd cx g f) (hw:∀g f,(g,f)∈lw→M3 cx g f) (h1:px.tt=tt:=by rfl) (h2:px.gl=gl:=by rfl) (h3:px.call=A2f l:=by rfl) (h4:px.callQ=Apm lq:=by rfl) (h5:px.callW=tbl lw:=by rfl):Lv cx px :=
 ⟨⟨fun t=>by rw [h1,H.p,H.e];exact H.t t,by rw [h2,H.g]⟩,Bbt h3 h,A5y h4 h5 hq hw⟩
theorem cO(H:Hx P el gl tt cx) {g:Nat}{sa sr:List Sg}{F:HV sa→Option (HV sr)}(h:FnOk P el gl g sa sr F) (hsa:Fl (Br 0 sa) []=true:=by kernel_rfl):Oq (R:=R) cx g (Aca sa sr F):=Bnz (by rw [H.p,H.e,H.g];exact h) hsa
theorem cL(H:Hx P el gl tt cx) {g:Nat}{sg so:Sig}{F:FL sg so}(h:FnLn P el gl g sg so F) (hok:lnB sg so=true:=by kernel_rfl):Oq (R:=R) cx g (Aj sg so F):=Bne (by rw [H.p,H.e,H.g];exact h) hok
theorem cR(H:Hx P el gl tt cx) {nb nt:Nat}{pc:Px R}{g:Nat}{fn:Func}{c:Code}{n:Nat}(h:Lv cx pc) (hf:P.funcs[g]? = some fn) (hb:fn.body=some c) (hl:∀i,i<n→De cx pc (lp fn i)) (hname:(fn.name == "runtime.NumGoroutine")=false:=by kernel_rfl) (hcode:T8 fn=true:=by kernel_rfl) (hn:Nk fn=n:=by kernel_rfl):Oq cx g (Az nb nt pc fn):=Blh h.p h.c h.q (by rw [H.p];exact H.m) (by rw [H.p];exact hf) hb hname hcode hn hl
theorem c1(H:Hx P el gl tt cx) {g:Nat}{sa sr:List Sg}{F:HV sa→Option (HV sr)}{l:List (Nat×M0 R)}(h:FnOk P el gl g sa sr F) (hl:∀g f,(g,f)∈l→Oq cx g f) (hsa:Fl (Br 0 sa) []=true:=by kernel_rfl):∀g' f',(g',f')∈(g,Aca sa sr F)::l→Oq cx g' f':=Aq (cO H h hsa) hl
theorem l1(H:Hx P el gl tt cx) {g:Nat}{sg so:Sig}{F:FL sg so}{l:List (Nat×M0 R)}(h:FnLn P el gl g sg so F) (hl:∀g f,(g,f)∈l→Oq cx g f) (hok:lnB sg so=true:=by kernel_rfl):∀g' f',(g',f')∈(g,Aj sg so F)::l→Oq cx g' f':=Aq (cL H h hok) hl
theorem q1(H:Hx P el gl tt cx) {g:Nat}{sa sr:List Sg}{F:HV sa→Option (HV sr)}{l:List (Nat×Lg R)}(h:FnOk P el gl g sa sr F) (hl:∀g f,(g,f)∈l→Abd cx g f) (hsa:Fl (Br 0 sa) []=true:=by kernel_rfl):∀g' f',(g',f')∈(g,Zl sa sr F)::l→Abd cx g' f':=A5i (Blv (by rw [H.p,H.e,H.g];exact h) hsa) hl
theorem w1(H:Hx P el gl tt cx) {g:Nat}{sg so:Sig}{F:HV sg.sgs→Option (HV so.sgs)}{l:List (Nat×Xi R)}(h:FnLn P el gl g sg so F) (hl:∀g f,(g,f)∈l→M3 cx g f) (hok:lnB sg so=true:=by kernel_rfl):∀g' f',(g',f')∈(g,D4 sg so F)::l→M3 cx g' f':=A7m (Bo1 (by rw [H.p,H.e,H.g];exact h) hok) hl
theorem lO{px:Px R}(H:Hx P el gl tt cx) (h:Lv cx px) {b:Code}{k n:Nat}{s:Sig}{step:Asv (HV s.sgs) R}(hround:∀fr rec kx v,Aae px s b fr rec kx v=step rec kx v) (hin:∀i,i<n→De cx px (lpC b i)) (hpx:∀st K,px.loop b st K=Ay k s step st K:=by exact fun _ _=>by kernel_rfl) (hs:Yp s=true:=by kernel_rfl) (hn:(B1 b).length=n:=by kernel_rfl):De cx px b:=Biw h.p h.c h.q (by rw [H.p];exact H.m) hpx hs hround (Nq hn hin)
theorem fO{f:FuncId}{fn:Func}{c:Code}{sa sr:List Sg}{px:Px (HV sr)}{F:FT sa sr}{n:Nat}(ht:∀t,Df P el tt t=true) (hm:P.follows .mixedOrders=true) (hf:P.funcs[f]? = some fn) (hb:fn.body=some c) (hname:(fn.name == "runtime.NumGoroutine")=false) (hchk:(T8 fn&&Nat.ble sa.length fn.ntmps&&Fl (Br 0 sa) [])=true) (hn:Nk fn=n)
  (h:∀cx,Hx P el gl tt cx→Lv cx px∧∀i,i<n→De cx px (lp fn i)) (hF:∀x,Bef px fn sa sr x some=F x):FnOk P el gl f sa sr F :=
 A91 hf hb hname hm hchk hn (fun cx a b c=>by
  obtain⟨h1,h2⟩:=h cx ⟨a,b,c,ht,hm⟩
  exact⟨h1.p,h1.c,h1.q,h2⟩) hF
theorem fL{f:FuncId}{fn:Func}{c:Code}{sg so:Sig}{px:Px (HV so.sgs)}{F:FL sg so}{n:Nat}(ht:∀t,Df P el tt t=true) (hm:P.follows .mixedOrders=true) (hf:P.funcs[f]? = some fn) (hb:fn.body=some c) (hname:(fn.name == "runtime.NumGoroutine")=false) (hchk:(T8 fn&&Nat.ble sg.n fn.ntmps)=true) (hn:Nk fn=n)
  (h:∀cx,Hx P el gl tt cx→Lv cx px∧∀i,i<n→De cx px (lp fn i)) (hF:∀x,At5 px fn sg so x some=F x):FnLn P el gl f sg so F :=
 Bb7 hf hb hname hm hchk hn (fun cx a b c=>by
  obtain⟨h1,h2⟩:=h cx ⟨a,b,c,ht,hm⟩
  exact⟨h1.p,h1.c,h1.q,h2⟩) hF
end
end Go.Ax
namespace Go.Ax
theorem Dn{s:Str}{i:Nat}(h:i<s.length):bat s (i:Int)=((s[i]'h).toNat:Int):=by
 simp [bat,List.getD_eq_getElem?_getD,h]
theorem Bc{c:Ck}{xs:List (El c)}{i:Nat}(h:i<xs.length):at' c xs (i:Int)=xs[i]'h:=by
 simp [at',List.getD_eq_getElem?_getD,h]
theorem A3{i n:Nat}(h:i<n) (hn:ln n):wr .i64 ((i:Int)+1)=((i+1:Nat):Int):=by
 rw [Bav (by simp only [ln,inI] at *;omega)];rfl
theorem Av{α:Type}{l:List α}{i:Nat}(h:i<l.length):l.drop i=l[i]'h::l.drop (i+1):=List.drop_eq_getElem_cons h
theorem Be{i n:Nat}(h:i<n):inb (i:Int) n=true:=by simp [Bf7,h]
theorem Bh{V R:Type}{step:(V→Option R)→V→Option R}{k:Nat}{v:V}:Al step (k+1) v=step (Al step k) v:=rfl
theorem Ae{α:Type}{a b : α}:cond true a b=a:=rfl
theorem Ah{α:Type}{a b : α}:cond false a b=b:=rfl
theorem Bq{α:Type}{c:Bool}{a b : α}:cond c (some a) (some b)=some (cond c a b):=by cases c<;>rfl
end Go.Ax
namespace Go.Ax
theorem Ro{V R β:Type}{step:(V→Option R)→V→Option R}(n:Nat) (st:Nat→β→V) (Inv:Nat→β→Prop) (F:Nat→β→Option R)
  (hs:∀i,i<n→∀a,Inv i a→∀rec,(∀a',Inv (i+1) a'→rec (st (i+1) a')=F (i+1) a')→step rec (st i a)=F i a)
  (he:∀a,Inv n a→∀rec,step rec (st n a)=F n a):∀(k i:Nat) (a : β),i≤n→n-i<k→Inv i a→Al step k (st i a)=F i a
 |0,_,_,_,h,_=>absurd h (Zm1 _)
 |k+1,i,a,hi,h,ha=>by
  rw [Bh]
  by_cases hl:i<n
  ·exact hs i hl a ha _ fun a' ha'=>Ro n st Inv F hs he k (i+1) a' (by omega) (by omega) ha'
  ·obtain rfl:i=n:=by omega
   exact he a ha _
theorem Cy{V R:Type}{step:(V→Option R)→V→Option R}(n:Nat) (st:Nat→V) (F:Nat→Option R)
  (hs:∀i,i<n→∀rec,rec (st (i+1))=F (i+1)→step rec (st i)=F i) (he:∀rec,step rec (st n)=F n):∀(k i:Nat),i≤n→n-i<k→Al step k (st i)=F i:=fun k i hi hk =>
 Ro n (fun i (_:Unit)=>st i) (fun _ _=>True) (fun i _=>F i) (fun i hi _ _ rec h=>hs i hi rec (h () trivial)) (fun _ _ rec=>he rec) k i () hi hk trivial
theorem Gb{i n:Nat}(h:i<n):decide ((i:Int)<(n:Int))=true:=Ze1 (by omega)
theorem Fz(n:Nat):decide ((n:Int)<(n:Int))=false:=Zd1 (by omega)
def Kj(e:Xpr):Xpr:=Xpr.mk e.kind ⟨e.v.kind,e.v.n,e.v.s⟩ e.name e.l
theorem Jn(e:Xpr):Kj e=e:=by cases e;rfl
end Go.Ax
namespace Go.Proofs.YthndhaolemgbdaaGreatDoor
open Go.Ax
abbrev TL:=List Tok
abbrev PR (α:Type):=Except TL (α×TL)
def isT(s:Str):TL→Bool
 |t::_=>(decide (t.kind=1)||decide (t.kind=6))&&decide (t.s=s)
 |[]=>false
def mkX(k:Int) (l:List Xpr):Xpr :=.mk k ⟨0,0,[]⟩ [] l
def Kg(k n:Int) (s:Str):Xpr :=.mk 1 ⟨k,n,s⟩ [] []
def sNOT:Str:=[78,79,84]
def sIS:Str:=[73,83]
def sNULL:Str:=[78,85,76,76]
def Yw:Str:=[84,82,85,69]
def P4:Str:=[70,65,76,83,69]
def Aj3:Str:=[65,78,68]
def sOR:Str:=[79,82]
def Cm{α:Type}(p:TL→PR α):Prop:=∀l e l',p l = .ok (e,l')→l'.length<l.length
def Bo(rec:TL→PR Xpr) (l:TL):PR Xpr:=match l with
 |[] =>.error []
 |t::r =>
  if t.kind=2 then .ok (.mk 2 ⟨0,0,[]⟩ t.s [],r)
  else if t.kind=3 then .ok (Kg 3 t.n [],r)
  else if t.kind=4 then .ok (Kg 4 0 t.s,r)
  else if t.kind=5 then .ok (Kg 5 0 t.s,r)
  else if t.kind=1∧t.s=Yw then .ok (Kg 2 1 [],r)
  else if t.kind=1∧t.s=P4 then .ok (Kg 2 0 [],r)
  else if t.kind=1∧t.s=sNULL then .ok (Kg 1 0 [],r)
  else if isT [40] (t::r) then match rec r with
   |.error q =>.error q
   |.ok (e,l')=>if isT [41] l' then .ok (e,l'.tail) else .error l'
  else .error (t::r)
def Bv(part:TL→PR Xpr) (sg:List (Str×Int)):Nat→Xpr→TL→PR Xpr
 |0,_,l =>.error l
 |n+1,e,l=>match sg.find? (fun p=>isT p.1 l) with
  |none =>.ok (e,l)
  |some p=>match part l.tail with
   |.error q =>.error q
   |.ok (x,l')=>Bv part sg n (mkX p.2 [e,x]) l'
def Ce(part:TL→PR Xpr) (sg:List (Str×Int)) (l:TL):PR Xpr:=match part l with
 |.error q =>.error q
 |.ok (e,l')=>Bv part sg (l'.length+1) e l'
def A9(s:Str) (k:Int) (part:TL→PR Xpr):TL→PR Xpr
 |[]=>part []
 |t::r=>match isT s (t::r) with
  |true=>match A9 s k part r with
   |.error q =>.error q
   |.ok (e,l') =>.ok (mkX k [e],l')
  |false=>part (t::r)
def cmpS:List (Str×Int):=[([61],6),([60,62],7),([60],8),([60,61],9),([62],10),([62,61],11)]
def isP(e:Xpr) (l:TL):PR Xpr:=match isT sNOT l.tail with
 |true=>match isT sNULL l.tail.tail with
  |true =>.ok (mkX 3 [mkX 16 [e]],l.tail.tail.tail)
  |false =>.error l.tail.tail
 |false=>match isT sNULL l.tail with
  |true =>.ok (mkX 16 [e],l.tail.tail)
  |false =>.error l.tail
def Rk(sum:TL→PR Xpr) (l:TL):PR Xpr:=match sum l with
 |.error q =>.error q
 |.ok (e,l')=>match cmpS.find? (fun p=>isT p.1 l') with
  |some p=>match sum l'.tail with
   |.error q =>.error q
   |.ok (x,l2) =>.ok (mkX p.2 [e,x],l2)
  |none=>match isT sIS l' with
   |true=>isP e l'
   |false =>.ok (e,l')
def lev(rec:TL→PR Xpr):Nat→TL→PR Xpr
 |1=>Ce (Ce (A9 sNOT 3 (Rk (Ce (Ce (A9 [45] 15 (Bo rec)) [([42],14)]) [([43],12),([45],13)]))) [(Aj3,4)]) [(sOR,5)]
 |2=>Ce (A9 sNOT 3 (Rk (Ce (Ce (A9 [45] 15 (Bo rec)) [([42],14)]) [([43],12),([45],13)]))) [(Aj3,4)]
 |3=>A9 sNOT 3 (Rk (Ce (Ce (A9 [45] 15 (Bo rec)) [([42],14)]) [([43],12),([45],13)]))
 |4=>Rk (Ce (Ce (A9 [45] 15 (Bo rec)) [([42],14)]) [([43],12),([45],13)])
 |5=>Ce (Ce (A9 [45] 15 (Bo rec)) [([42],14)]) [([43],12),([45],13)]
 |6=>Ce (A9 [45] 15 (Bo rec)) [([42],14)]
 |_=>A9 [45] 15 (Bo rec)
def orN:Nat→TL→PR Xpr
 |0,l =>.error l
 |n+1,l=>lev (orN n) 1 l
def orW(l:TL):PR Xpr:=orN (l.length+1) l
theorem Iv{s:Str}{l:TL}(h:isT s l=true):l.tail.length+1=l.length:=by
 cases l with
 |nil=>cases h
 |cons t r=>rfl
theorem A6(l:TL):l.tail.length≤l.length:=by cases l<;>simp
theorem Xz{rec:TL→PR Xpr}(hr:Cm rec):Cm (Bo rec):=fun l e l' h=>by
 cases l with
 |nil=>cases h
 |cons t r =>
  simp only [Bo] at h
  simp only [Zf1]
  by_cases k2:t.kind=2
  ·rw [if_pos k2] at h
   injection h with h;injection h with _ h;rw [←h];omega
  rw [if_neg k2] at h
  by_cases k3:t.kind=3
  ·rw [if_pos k3] at h
   injection h with h;injection h with _ h;rw [←h];omega
  rw [if_neg k3] at h
  by_cases k4:t.kind=4
  ·rw [if_pos k4] at h
   injection h with h;injection h with _ h;rw [←h];omega
  rw [if_neg k4] at h
  by_cases k5:t.kind=5
  ·rw [if_pos k5] at h
   injection h with h;injection h with _ h;rw [←h];omega
  rw [if_neg k5] at h
  by_cases k6:t.kind=1∧t.s=Yw
  ·rw [if_pos k6] at h
   injection h with h;injection h with _ h;rw [←h];omega
  rw [if_neg k6] at h
  by_cases k7:t.kind=1∧t.s=P4
  ·rw [if_pos k7] at h
   injection h with h;injection h with _ h;rw [←h];omega
  rw [if_neg k7] at h
  by_cases k8:t.kind=1∧t.s=sNULL
  ·rw [if_pos k8] at h
   injection h with h;injection h with _ h;rw [←h];omega
  rw [if_neg k8] at h
  by_cases k9:isT [40] (t::r)=true
  ·rw [if_pos k9] at h
   cases hq:rec r with
   |error q=>rw [hq] at h;cases h
   |ok x =>
    obtain⟨e1,m⟩:=x
    rw [hq] at h
    have h1:=hr _ _ _ hq
    have h2:=A6 m
    by_cases k10:isT [41] m=true
    ·simp only [if_pos k10] at h
     injection h with h;injection h with _ h;rw [←h];omega
    ·simp only [if_neg k10] at h
     cases h
  ·rw [if_neg k9] at h
   cases h
theorem Agb{sg:List (Str×Int)}{l:TL}{p:Str×Int}(h:sg.find? (fun p=>isT p.1 l)=some p):isT p.1 l=true:=by
 simpa using List.find?_some h
theorem A33{part:TL→PR Xpr}{sg:List (Str×Int)}(hp:Cm part):∀(n:Nat) (e:Xpr) (l:TL) (e':Xpr) (l':TL),Bv part sg n e l = .ok (e',l')→l'.length≤l.length
 |0,_,_,_,_,h=>by cases h
 |n+1,e,l,e',l',h=>by
  simp only [Bv] at h
  cases hf:sg.find? (fun p=>isT p.1 l) with
  |none =>
   rw [hf] at h
   injection h with h;injection h with _ h;rw [←h];exact Zn1 _
  |some p =>
   rw [hf] at h
   cases hq:part l.tail with
   |error q=>simp only [hq] at h;cases h
   |ok x =>
    obtain⟨e1,m⟩:=x
    simp only [hq] at h
    have h1:=hp _ _ _ hq
    have h2:=A33 hp n _ _ _ _ h
    have h3:=A6 l
    omega
theorem Fj{part:TL→PR Xpr}{sg:List (Str×Int)}(hp:Cm part):Cm (Ce part sg):=fun l e l' h=>by
 simp only [Ce] at h
 cases hq:part l with
 |error q=>rw [hq] at h;cases h
 |ok x =>
  obtain⟨e1,m⟩:=x
  rw [hq] at h
  have h1:=hp _ _ _ hq
  have h2:=A33 hp _ _ _ _ _ h
  omega
theorem Ho{s:Str}{k:Int}{part:TL→PR Xpr}(hp:Cm part):∀(l:TL) (e:Xpr) (l':TL),A9 s k part l = .ok (e,l')→l'.length<l.length
 |[],e,l',h=>hp _ _ _ h
 |t::r,e,l',h=>by
  simp only [A9] at h
  cases ht:isT s (t::r) with
  |true =>
   rw [ht] at h
   cases hq:A9 s k part r with
   |error q=>simp only [hq] at h;cases h
   |ok x =>
    obtain⟨e1,m⟩:=x
    simp only [hq] at h
    have h1:=Ho hp r _ _ hq
    injection h with h;injection h with _ h;rw [←h]
    simp only [Zf1];omega
  |false =>
   rw [ht] at h
   exact hp _ _ _ h
theorem Bd7{e:Xpr}{l:TL}{e':Xpr}{l':TL}(h:isP e l = .ok (e',l')):l'.length≤l.length:=by
 have h1:=A6 l
 have h2:=A6 l.tail
 have h3:=A6 l.tail.tail
 simp only [isP] at h
 cases hn:isT sNOT l.tail with
 |true =>
  rw [hn] at h
  cases hu:isT sNULL l.tail.tail with
  |true =>
   simp only [hu] at h
   injection h with h;injection h with _ h;rw [←h];omega
  |false=>simp only [hu] at h;cases h
 |false =>
  rw [hn] at h
  cases hu:isT sNULL l.tail with
  |true =>
   simp only [hu] at h
   injection h with h;injection h with _ h;rw [←h];omega
  |false=>simp only [hu] at h;cases h
theorem Ajc{sum:TL→PR Xpr}(hp:Cm sum):Cm (Rk sum):=fun l e l' h=>by
 simp only [Rk] at h
 cases hq:sum l with
 |error q=>rw [hq] at h;cases h
 |ok x =>
  obtain⟨e1,m⟩:=x
  rw [hq] at h
  have h1:=hp _ _ _ hq
  have h2:=A6 m
  cases hf:cmpS.find? (fun p=>isT p.1 m) with
  |some p =>
   simp only [hf] at h
   cases hq2:sum m.tail with
   |error q=>simp only [hq2] at h;cases h
   |ok y =>
    obtain⟨e2,m2⟩:=y
    simp only [hq2] at h
    have h3:=hp _ _ _ hq2
    injection h with h;injection h with _ h;rw [←h];omega
  |none =>
   simp only [hf] at h
   cases hi:isT sIS m with
   |true =>
    simp only [hi] at h
    have:=Bd7 h
    omega
   |false =>
    simp only [hi] at h
    injection h with h;injection h with _ h;rw [←h];exact h1
theorem Avg{rec:TL→PR Xpr}(hr:Cm rec) (k:Nat):Cm (lev rec k):=by
 have h7:Cm (A9 [45] 15 (Bo rec)):=Ho (Xz hr)
 have h6:=Fj (sg:=[([42],14)]) h7
 have h5:=Fj (sg:=[([43],12),([45],13)]) h6
 have h4:=Ajc h5
 have h3:Cm (A9 sNOT 3 _):=Ho h4
 have h2:=Fj (sg:=[(Aj3,4)]) h3
 have h1:=Fj (sg:=[(sOR,5)]) h2
 match k with
 |0=>exact h7
 |1=>exact h1
 |2=>exact h2
 |3=>exact h3
 |4=>exact h4
 |5=>exact h5
 |6=>exact h6
 |k+7=>exact h7
theorem Aan:∀n,Cm (orN n)
 |0=>fun _ _ _ h=>by cases h
 |n+1=>Avg (Aan n) 1
theorem G0:Cm orW:=fun l e l' h=>Aan _ l e l' h
def Ag{α:Type}(L:Nat) (p q:TL→PR α):Prop:=∀m,m.length<L→p m=q m
theorem Bci{L:Nat}{p q:TL→PR Xpr}(h:Ag L p q):Ag (L+1) (Bo p) (Bo q):=fun m hm=>by
 cases m with
 |nil=>rfl
 |cons t r =>
  simp only [Zf1] at hm
  simp only [Bo,h r (by omega)]
theorem Bi7{L:Nat}{p q:TL→PR Xpr}{sg:List (Str×Int)}(h:Ag L p q) (hp:Cm p):∀(n:Nat) (e:Xpr) (l:TL),l.length<L→Bv p sg n e l=Bv q sg n e l
 |0,_,_,_=>rfl
 |n+1,e,l,hl=>by
  have h1:=A6 l
  simp only [Bv,←h l.tail (by omega)]
  cases sg.find? (fun p=>isT p.1 l) with
  |none=>rfl
  |some s =>
   cases hq:p l.tail with
   |error q=>rfl
   |ok x =>
    obtain⟨e1,m⟩:=x
    have h2:=hp _ _ _ hq
    exact Bi7 h hp n _ m (by omega)
theorem Agq{L:Nat}{p q:TL→PR Xpr}{sg:List (Str×Int)}(h:Ag L p q) (hp:Cm p):Ag L (Ce p sg) (Ce q sg):=fun m hm=>by
 simp only [Ce,←h m hm]
 cases hq:p m with
 |error q=>rfl
 |ok x =>
  obtain⟨e1,m1⟩:=x
  have h2:=hp _ _ _ hq
  exact Bi7 h hp _ _ m1 (by omega)
theorem Ai7{L:Nat}{s:Str}{k:Int}{p q:TL→PR Xpr}(h:Ag L p q):∀m:TL,m.length<L→A9 s k p m=A9 s k q m
 |[],hm=>h [] hm
 |t::r,hm=>by
  simp only [Zf1] at hm
  simp only [A9,Ai7 h r (by omega),h (t::r) (by simpa using hm)]
theorem Bkp{L:Nat}{p q:TL→PR Xpr}(h:Ag L p q) (hp:Cm p):Ag L (Rk p) (Rk q):=fun m hm=>by
 simp only [Rk,←h m hm]
 cases hq:p m with
 |error q=>rfl
 |ok x =>
  obtain⟨e1,m1⟩:=x
  have h2:=hp _ _ _ hq
  have h3:=A6 m1
  simp only [←h m1.tail (by omega)]
theorem Bew{L:Nat}{p q:TL→PR Xpr}(h:Ag L p q) (hp:Cm p) (k:Nat):Ag (L+1) (lev p k) (lev q k):=by
 have e7:Cm (A9 [45] 15 (Bo p)):=Ho (Xz hp)
 have e6:=Fj (sg:=[([42],14)]) e7
 have e5:=Fj (sg:=[([43],12),([45],13)]) e6
 have e4:=Ajc e5
 have e3:Cm (A9 sNOT 3 _):=Ho e4
 have e2:=Fj (sg:=[(Aj3,4)]) e3
 have h7:Ag (L+1) (A9 [45] 15 (Bo p)) (A9 [45] 15 (Bo q)):=Ai7 (Bci h)
 have h6:=Agq (sg:=[([42],14)]) h7 e7
 have h5:=Agq (sg:=[([43],12),([45],13)]) h6 e6
 have h4:=Bkp h5 e5
 have h3:Ag (L+1) (A9 sNOT 3 _) (A9 sNOT 3 _):=Ai7 h4
 have h2:=Agq (sg:=[(Aj3,4)]) h3 e3
 have h1:=Agq (sg:=[(sOR,5)]) h2 e2
 match k with
 |0=>exact h7
 |1=>exact h1
 |2=>exact h2
 |3=>exact h3
 |4=>exact h4
 |5=>exact h5
 |6=>exact h6
 |k+7=>exact h7
theorem Bay:∀(L n m:Nat),L≤n→L≤m→Ag L (orN n) (orN m)
 |0,_,_,_,_=>fun _ h=>absurd h (Zm1 _)
 |L+1,n+1,m+1,hn,hm=>Bew (Bay L n m (by omega) (by omega)) (Aan n) 1
 |L+1,0,_,h,_=>by omega
 |L+1,_,0,_,h=>by omega
theorem Bn3{l:TL}{n:Nat}(h:l.length<n):orN n l=orW l:=Bay (l.length+1) n (l.length+1) (by omega) (Zn1 _) l (by omega)
theorem Bl1(n:Nat):Ag n (orN n) orW:=fun _ h=>Bn3 h
theorem A3j(l:TL):orW l=lev orW 1 l:=Bew (Bl1 l.length) (Aan _) 1 l (by omega)
end Go.Proofs.YthndhaolemgbdaaGreatDoor
namespace Go.Proofs.YthndhaolemgbdaaGreatDoor
open Go.Ax
def opTab:List (Str×Nat×Int):=[(Aj3,2,4),(sOR,1,5),([61],4,6),([60,62],4,7),([60],4,8),([60,61],4,9),([62],4,10),([62,61],4,11),([43],5,12),([45],5,13),([42],6,14)]
def bindS(s:Str):Nat×Int:=match opTab.find? (fun p=>decide (s=p.1)) with
 |some p=>p.2
 |none=>(0,0)
def Bp:TL→Nat×Int
 |[]=>(0,0)
 |t::_=>match decide (t.kind=1)||decide (t.kind=6) with
  |true=>bindS t.s
  |false=>(0,0)
def sgL:Nat→List (Str×Int)
 |1=>[(sOR,5)]
 |2=>[(Aj3,4)]
 |4=>cmpS
 |5=>[([43],12),([45],13)]
 |6=>[([42],14)]
 |_=>[]
abbrev SR:=Xpr×Nat×TL
def I1(rec:Nat→TL→PR Xpr) (k:Nat) (l:TL):Except TL SR :=
 match isT sNOT l&&decide (k≤3) with
 |true=>match rec 3 l.tail with
  |.error q =>.error q
  |.ok (x,l') =>.ok (mkX 3 [x],3,l')
 |false=>match isT [45] l with
  |true=>match rec 7 l.tail with
   |.error q =>.error q
   |.ok (x,l') =>.ok (mkX 15 [x],7,l')
  |false=>match Bo (rec 1) l with
   |.error q =>.error q
   |.ok (x,l') =>.ok (x,7,l')
def C0(rec:Nat→TL→PR Xpr) (k:Nat) (s:SR):Option (Except TL SR) :=
 if isT sIS s.2.2=true∧k≤4∧4<s.2.1 then some (match isP s.1 s.2.2 with
  |.error q =>.error q
  |.ok (x,l') =>.ok (x,4,l'))
 else if(Bp s.2.2).1=0∨(Bp s.2.2).1<k∨s.2.1<(Bp s.2.2).1∨((Bp s.2.2).1=4∧s.2.1=4) then none
 else some (match rec ((Bp s.2.2).1+1) s.2.2.tail with
  |.error q =>.error q
  |.ok (x,l') =>.ok (mkX (Bp s.2.2).2 [s.1,x],(Bp s.2.2).1,l'))
def Ch(rec:Nat→TL→PR Xpr) (k:Nat):Nat→SR→Except TL SR
 |0,s =>.error s.2.2
 |n+1,s=>match C0 rec k s with
  |none =>.ok s
  |some (.error q) =>.error q
  |some (.ok s')=>Ch rec k n s'
def Zr(x:Except TL SR) (f:SR→Except TL SR):Except TL SR:=match x with
 |.error q =>.error q
 |.ok s=>f s
def exT(rec:Nat→TL→PR Xpr) (k:Nat) (l:TL):Except TL SR:=Zr (I1 rec k l) fun s=>Ch rec k (s.2.2.length+1) s
def exB(rec:Nat→TL→PR Xpr) (k:Nat) (l:TL):PR Xpr:=match exT rec k l with
 |.error q =>.error q
 |.ok s =>.ok (s.1,s.2.2)
theorem A0w(s:Str):(bindS s).1≤6∧(bindS s).1≠3:=by
 simp only [bindS]
 cases h:opTab.find? (fun p=>decide (s=p.1)) with
 |none=>simp
 |some p =>
  have hm:=List.mem_of_find?_eq_some h
  have ha:∀p,p∈opTab→p.2.1≤6∧p.2.1≠3:=by decide
  exact ha p hm
theorem Akb(l:TL):(Bp l).1≤6∧(Bp l).1≠3:=by
 cases l with
 |nil=>simp [Bp]
 |cons t r =>
  simp only [Bp]
  cases decide (t.kind=1)||decide (t.kind=6) with
  |true=>exact A0w t.s
  |false=>simp
theorem Bd8{l:TL}(h:isT sIS l=true):Bp l=(0,0):=by
 cases l with
 |nil=>rfl
 |cons t r =>
  simp only [isT,Zb1,Zg1] at h
  simp only [Bp,h.1,h.2]
  decide
theorem A4s(n:Nat) (s:Str) (hn:n=1∨n=2∨n=4∨n=5∨n=6):((bindS s).1=n→∃p,(sgL n).find? (fun p=>decide (s=p.1))=some p∧p.2=(bindS s).2)∧((bindS s).1≠n→(sgL n).find? (fun p=>decide (s=p.1))=none):=by
 by_cases h:s∈opTab.map (·.1)
 ·have ha:∀s,s∈opTab.map (·.1)→∀n,n=1∨n=2∨n=4∨n=5∨n=6→(((bindS s).1=n→((sgL n).find? (fun p=>decide (s=p.1))).map (·.2)=some (bindS s).2)∧((bindS s).1≠n→(sgL n).find? (fun p=>decide (s=p.1))=none)):=by
   intro s hs n hn
   simp only [opTab,Zw1,List.map_nil,List.mem_cons,List.not_mem_nil,or_false] at hs
   rcases hs with rfl|rfl|rfl|rfl|rfl|rfl|rfl|rfl|rfl|rfl|rfl<;>rcases hn with rfl|rfl|rfl|rfl|rfl<;>decide
  obtain⟨h1,h2⟩:=ha s h n hn
  refine⟨fun e =>?_,h2⟩
  have:=h1 e
  cases hf:(sgL n).find? (fun p=>decide (s=p.1)) with
  |none=>rw [hf] at this;cases this
  |some p =>
   rw [hf] at this
   exact⟨p,rfl,by simpa using this⟩
 ·have h0:bindS s=(0,0):=by
   simp only [bindS]
   cases hf:opTab.find? (fun p=>decide (s=p.1)) with
   |none=>rfl
   |some p =>
    have h1:=List.mem_of_find?_eq_some hf
    have h2:=List.find?_some hf
    simp only [Zg1] at h2
    exact absurd (List.mem_map.2 ⟨p,h1,h2.symm⟩) h
  rw [h0]
  refine⟨fun e =>?_,fun _ =>?_⟩
  ·simp only at e
   omega
  ·rw [List.find?_eq_none]
   intro p hp
   simp only [Zg1]
   intro e
   have hsub:∀q,q∈sgL n→q.1∈opTab.map (·.1):=by
    rcases hn with rfl|rfl|rfl|rfl|rfl<;>decide
   exact h (by rw [e];exact hsub p hp)
theorem Zk(n:Nat) (l:TL) (hn:n=1∨n=2∨n=4∨n=5∨n=6):((Bp l).1=n→∃p,(sgL n).find? (fun p=>isT p.1 l)=some p∧p.2=(Bp l).2)∧((Bp l).1≠n→(sgL n).find? (fun p=>isT p.1 l)=none):=by
 cases l with
 |nil =>
  refine⟨fun e =>?_,fun _ =>?_⟩
  ·simp only [Bp] at e;omega
  ·exact List.find?_eq_none.2 fun p _=>by simp [isT]
 |cons t r =>
  simp only [Bp,isT]
  cases hk:(decide (t.kind=1)||decide (t.kind=6)) with
  |true=>simpa using A4s n t.s hn
  |false =>
   refine⟨fun e =>?_,fun _ =>?_⟩
   ·simp only at e;omega
   ·exact List.find?_eq_none.2 fun p _=>by simp
variable {V:Nat→TL→PR Xpr}
theorem Adb(hv:∀k,Cm (V k)) {k:Nat}{s s':SR}(h:C0 V k s=some (.ok s')):s'.2.2.length<s.2.2.length:=by
 simp only [C0] at h
 split at h
 ·rename_i hc
  have hi:=Iv hc.1
  cases hq:isP s.1 s.2.2 with
  |error q=>rw [hq] at h;cases h
  |ok x =>
   obtain⟨e1,m⟩:=x
   rw [hq] at h
   injection h with h;injection h with h
   rw [←h]
   simp only [isP] at hq
   have h2:=A6 s.2.2.tail
   have h3:=A6 s.2.2.tail.tail
   cases hn:isT sNOT s.2.2.tail with
   |true =>
    rw [hn] at hq
    cases hu:isT sNULL s.2.2.tail.tail with
    |true =>
     simp only [hu] at hq
     injection hq with hq;injection hq with _ hq;rw [←hq];show s.2.2.tail.tail.tail.length<s.2.2.length;omega
    |false=>simp only [hu] at hq;cases hq
   |false =>
    rw [hn] at hq
    cases hu:isT sNULL s.2.2.tail with
    |true =>
     simp only [hu] at hq
     injection hq with hq;injection hq with _ hq;rw [←hq];show s.2.2.tail.tail.length<s.2.2.length;omega
    |false=>simp only [hu] at hq;cases hq
 ·split at h
  ·cases h
  ·cases hq:V ((Bp s.2.2).1+1) s.2.2.tail with
   |error q=>rw [hq] at h;cases h
   |ok x =>
    obtain⟨e1,m⟩:=x
    rw [hq] at h
    injection h with h;injection h with h
    rw [←h]
    have h1:=hv _ _ _ _ hq
    have h2:=A6 s.2.2
    show m.length<_
    omega
theorem A64{a b:Nat}(h:a≤b) {s:SR}{r:Except TL SR}(hs:C0 V b s=some r):C0 V a s=some r:=by
 simp only [C0] at hs ⊢
 by_cases hc:isT sIS s.2.2=true∧b≤4∧4<s.2.1
 ·rw [if_pos hc] at hs
  rw [if_pos ⟨hc.1,by omega,hc.2.2⟩]
  exact hs
 ·rw [if_neg hc] at hs
  by_cases hn:(Bp s.2.2).1=0∨(Bp s.2.2).1<b∨s.2.1<(Bp s.2.2).1∨((Bp s.2.2).1=4∧s.2.1=4)
  ·rw [if_pos hn] at hs;cases hs
  ·rw [if_neg hn] at hs
   have hi:¬isT sIS s.2.2=true:=fun e=>by
    rw [Bd8 e] at hn
    exact hn (.inl rfl)
   rw [if_neg (fun e=>hi e.1),if_neg (by omega)]
   exact hs
theorem Aow(hv:∀k,Cm (V k)) (k:Nat):∀(n m:Nat) (s:SR),s.2.2.length<n→s.2.2.length<m→Ch V k n s=Ch V k m s
 |0,_,_,h,_=>by omega
 |_,0,_,_,h=>by omega
 |n+1,m+1,s,hn,hm=>by
  simp only [Ch]
  cases hs:C0 V k s with
  |none=>rfl
  |some r =>
   cases r with
   |error q=>rfl
   |ok s' =>
    have:=Adb hv hs
    exact Aow hv k n m s' (by omega) (by omega)
theorem A1n(hv:∀k,Cm (V k)) (k:Nat):∀(n:Nat) (s s':SR),Ch V k n s = .ok s'→s'.2.2.length≤s.2.2.length∧C0 V k s' = none
 |0,_,_,h=>by cases h
 |n+1,s,s',h=>by
  simp only [Ch] at h
  cases hs:C0 V k s with
  |none =>
   rw [hs] at h
   injection h with h
   rw [←h]
   exact⟨Zn1 _,hs⟩
  |some r =>
   rw [hs] at h
   cases r with
   |error q=>cases h
   |ok s1 =>
    have h1:=Adb hv hs
    have h2:=A1n hv k n s1 s' h
    exact⟨by omega,h2.2⟩
theorem Al1(hv:∀k,Cm (V k)) {a b:Nat}(h:a≤b):∀(n:Nat) (s:SR),s.2.2.length<n→Ch V a n s=Zr (Ch V b n s) fun s'=>Ch V a (s'.2.2.length+1) s'
 |0,_,hn=>by omega
 |n+1,s,hn=>by
  cases hs:C0 V b s with
  |none =>
   have e:Ch V b (n+1) s = .ok s:=by simp only [Ch,hs]
   rw [e]
   exact Aow hv a _ _ s hn (by omega)
  |some r =>
   have ha:=A64 h hs
   cases r with
   |error q =>
    simp only [Ch,hs,ha]
    rfl
   |ok s1 =>
    have h1:=Adb hv hs
    have e1:Ch V a (n+1) s=Ch V a n s1:=by simp only [Ch,ha]
    have e2:Ch V b (n+1) s=Ch V b n s1:=by simp only [Ch,hs]
    rw [e1,e2]
    exact Al1 hv h n s1 (by omega)
theorem A14(hv:∀k,Cm (V k)) {k:Nat}(hk:k=1∨k=2∨k=5∨k=6):∀(n:Nat) (e:Xpr) (h:Nat) (l:TL),l.length<n→(h=k∨(k<h∧C0 V (k+1) (e,h,l)=none)) →
  match Bv (V (k+1)) (sgL k) n e l with
  |.error q=>Ch V k n (e,h,l) = .error q
  |.ok (e',l')=>∃h',k≤h'∧Ch V k n (e,h,l) = .ok (e',h',l')
 |0,_,_,_,hn,_=>by omega
 |n+1,e,h,l,hn,hc=>by
  by_cases hb:(Bp l).1=k
  ·obtain⟨p,hp1,hp2⟩:=(Zk k l (by omega)).1 hb
   have hi:¬isT sIS l=true:=fun q=>by
    rw [Bd8 q] at hb
    simp only at hb
    omega
   have hst:C0 V k (e,h,l)=some (match V (k+1) l.tail with
     |.error q =>.error q
     |.ok (x,l') =>.ok (mkX p.2 [e,x],k,l')):=by
    simp only [C0,hb,hp2]
    rw [if_neg (fun q=>hi q.1),if_neg (by omega)]
   simp only [Bv,hp1,Ch,hst]
   cases hq:V (k+1) l.tail with
   |error q=>rfl
   |ok x =>
    obtain⟨x,l1⟩:=x
    have h1:=hv _ _ _ _ hq
    have h2:=A6 l
    exact A14 hv hk n (mkX p.2 [e,x]) k l1 (by omega) (.inl rfl)
  ·have hst:C0 V k (e,h,l)=none:=by
    simp only [C0]
    rcases hc with rfl|⟨hlt,hn1⟩
    ·rw [if_neg (fun q=>by have:=q.2;omega),if_pos (by omega)]
    ·simp only [C0] at hn1
     split at hn1
     ·cases hn1
     ·rename_i hi
      split at hn1
      ·rename_i ho
       rw [if_neg (fun q=>hi ⟨q.1,by have:=q.2.1;omega,q.2.2⟩),if_pos (by omega)]
      ·cases hn1
   simp only [Bv,(Zk k l (by omega)).2 hb,Ch,hst]
   exact⟨h,by omega,rfl⟩
theorem Ku{k:Nat}{e:Xpr}{h:Nat}{l:TL}(hi:¬(isT sIS l=true∧k≤4∧4<h)) (hn:(Bp l).1=0∨(Bp l).1<k∨h<(Bp l).1∨((Bp l).1=4∧h=4)):C0 V k (e,h,l)=none:=by
 simp only [C0]
 rw [if_neg hi,if_pos hn]
theorem Amb{k:Nat}{e:Xpr}{h:Nat}{l:TL}(hs:C0 V k (e,h,l)=none):¬(isT sIS l=true∧k≤4∧4<h)∧((Bp l).1=0∨(Bp l).1<k∨h<(Bp l).1∨((Bp l).1=4∧h=4)):=by
 simp only [C0] at hs
 split at hs
 ·cases hs
 ·rename_i hi
  split at hs
  ·rename_i hn;exact⟨hi,hn⟩
  ·cases hs
theorem Ay2{e:Xpr}{h:Nat}{l:TL}:C0 V 7 (e,h,l)=none :=
 Ku (fun q=>by have:=q.2;omega) (by have:=Akb l;omega)
theorem Afx{e:Xpr}{l:TL}:C0 V 4 (e,4,l)=none :=
 Ku (fun q=>by have:=q.2;omega) (by omega)
theorem E5{k n:Nat}{s:SR}(h:C0 V k s=none):Ch V k (n+1) s = .ok s:=by simp only [Ch,h]
theorem Are{a b:Nat}(ha : 3<a) (hb : 3<b) (l:TL):I1 V a l=I1 V b l:=by
 simp only [I1]
 rw [Zd1 (show ¬a≤3 by omega),Zd1 (show ¬b≤3 by omega)]
theorem A1l{a b:Nat}(ha:a≤3) (hb:b≤3) (l:TL):I1 V a l=I1 V b l:=by
 simp only [I1]
 rw [Ze1 ha,Ze1 hb]
theorem Ar6(hv:∀k,Cm (V k)) {a b:Nat}(h:a≤b) {l:TL}(hp:I1 V a l=I1 V b l):exT V a l=Zr (exT V b l) fun s=>Ch V a (s.2.2.length+1) s:=by
 unfold exT
 rw [hp]
 cases I1 V b l with
 |error q=>rfl
 |ok s=>exact Al1 hv h _ s (by omega)
def LvQ(V:Nat→TL→PR Xpr) (k:Nat) (l:TL):Prop:=match V k l with
 |.error q=>exT V k l = .error q
 |.ok (e,l')=>∃h,k≤h∧exT V k l = .ok (e,h,l')∧C0 V k (e,h,l')=none
theorem Ago(hv:∀k,Cm (V k)) {k:Nat}(hk:k=1∨k=2∨k=5∨k=6) (hV:V k=Ce (V (k+1)) (sgL k)) {l:TL}(h:LvQ V (k+1) l):LvQ V k l:=by
 have hp:I1 V k l=I1 V (k+1) l:=by
  rcases hk with rfl|rfl|rfl|rfl
  ·exact A1l (by omega) (by omega) l
  ·exact A1l (by omega) (by omega) l
  ·exact Are (by omega) (by omega) l
  ·exact Are (by omega) (by omega) l
 have hc:=Ar6 hv (Nat.le_succ k) hp
 unfold LvQ at h ⊢
 rw [hV]
 unfold Ce
 cases hq:V (k+1) l with
 |error q =>
  rw [hq] at h
  simp only at h ⊢
  rw [hc,h]
  rfl
 |ok x =>
  obtain⟨e,l'⟩:=x
  rw [hq] at h
  simp only at h ⊢
  obtain⟨h1,h2,h3,h4⟩:=h
  rw [h3] at hc
  have hc:exT V k l=Ch V k (l'.length+1) (e,h1,l'):=hc
  have hl:=A14 hv hk (l'.length+1) e h1 l' (by omega) (.inr ⟨by omega,h4⟩)
  rw [hc]
  cases hg:Bv (V (k+1)) (sgL k) (l'.length+1) e l' with
  |error q =>
   rw [hg] at hl
   exact hl
  |ok y =>
   obtain⟨e2,l2⟩:=y
   rw [hg] at hl
   simp only at hl ⊢
   obtain⟨h',h5,h6⟩:=hl
   exact⟨h',h5,h6,(A1n hv k _ _ _ h6).2⟩
theorem Bkm(hv:∀k,Cm (V k)) (hV:V 4=Rk (V 5)) {l:TL}(h:LvQ V 5 l):LvQ V 4 l:=by
 have hc:=Ar6 (V:=V) hv (show 4≤5 by omega) (Are (by omega) (by omega) l)
 unfold LvQ at h ⊢
 rw [hV]
 unfold Rk
 cases hq:V 5 l with
 |error q =>
  rw [hq] at h
  simp only at h ⊢
  rw [hc,h]
  rfl
 |ok x =>
  obtain⟨e,l'⟩:=x
  rw [hq] at h
  simp only at h ⊢
  obtain⟨h1,h2,h3,h4⟩:=h
  rw [h3] at hc
  have hc:exT V 4 l=Ch V 4 (l'.length+1) (e,h1,l'):=hc
  rw [hc]
  obtain⟨n1,n2⟩:=Amb h4
  by_cases hb:(Bp l').1=4
  ·obtain⟨p,hp1,hp2⟩:=(Zk 4 l' (by omega)).1 hb
   have hp1:cmpS.find? (fun p=>isT p.1 l')=some p:=hp1
   have hi:¬isT sIS l' = true:=fun q=>by
    rw [Bd8 q] at hb
    simp only at hb
    omega
   have hst:C0 V 4 (e,h1,l')=some (match V 5 l'.tail with
     |.error q =>.error q
     |.ok (x,l') =>.ok (mkX p.2 [e,x],4,l')):=by
    simp only [C0,hb,hp2]
    rw [if_neg (fun q=>hi q.1),if_neg (by omega)]
   have hlen : 1≤l'.length:=by
    cases l' with
    |nil=>simp only [Bp] at hb;omega
    |cons t r=>simp
   rw [hp1]
   simp only [Ch,hst]
   cases hq2:V 5 l'.tail with
   |error q=>rfl
   |ok y =>
    obtain⟨x,l2⟩:=y
    simp only
    refine⟨4,by omega,?_,Afx⟩
    obtain⟨m,hm⟩:=Nat.exists_eq_add_of_le hlen
    rw [hm,Nat.add_comm 1 m]
    exact E5 Afx
  ·have hf:cmpS.find? (fun p=>isT p.1 l')=none:=(Zk 4 l' (by omega)).2 hb
   rw [hf]
   simp only
   cases hi:isT sIS l' with
   |true =>
    have hlen:=Iv hi
    have hst:C0 V 4 (e,h1,l')=some (match isP e l' with
      |.error q =>.error q
      |.ok (x,l') =>.ok (x,4,l')):=by
     simp only [C0]
     rw [if_pos ⟨hi,by omega,by omega⟩]
    simp only [Ch,hst]
    cases hq2:isP e l' with
    |error q=>rfl
    |ok y =>
     obtain⟨x,l2⟩:=y
     simp only
     refine⟨4,by omega,?_,Afx⟩
     rw [←hlen]
     exact E5 Afx
   |false =>
    have hn:C0 V 4 (e,h1,l')=none:=Ku (fun q=>by rw [hi] at q;cases q.1) (by omega)
    exact⟨h1,by omega,E5 hn,hn⟩
theorem Bmi(hv:∀k,Cm (V k)) (hV:V 3=A9 sNOT 3 (V 4)) {l:TL}(h:LvQ V 4 l):LvQ V 3 l:=by
 have stop:∀{e:Xpr}{l':TL},C0 V 3 (e,3,l')=none:=fun {e l'}=>Ku (fun q=>by have:=q.2;omega) (by have:=Akb l';omega)
 cases hn:isT sNOT l with
 |true =>
  have hp:exT V 3 l=Zr (match V 3 l.tail with
    |.error q =>.error q
    |.ok (x,l') =>.ok (mkX 3 [x],3,l')) fun s=>Ch V 3 (s.2.2.length+1) s:=by
   unfold exT I1
   rw [hn,Ze1 (show 3≤3 by omega)]
   rfl
  cases l with
  |nil=>cases hn
  |cons t r =>
   unfold LvQ
   rw [hp,hV]
   simp only [A9,hn,List.tail_cons]
   cases A9 sNOT 3 (V 4) r with
   |error q=>rfl
   |ok x =>
    obtain⟨e,l'⟩:=x
    exact⟨3,Zn1 _,E5 stop,stop⟩
 |false =>
  have hpr:I1 V 3 l=I1 V 4 l:=by
   simp only [I1,hn,Bool.false_and]
  have hc:=Ar6 (V:=V) hv (show 3≤4 by omega) hpr
  have ha:V 3 l=V 4 l:=by
   rw [hV]
   cases l with
   |nil=>rfl
   |cons t r=>simp only [A9,hn]
  unfold LvQ at h ⊢
  rw [ha]
  cases hq:V 4 l with
  |error q =>
   rw [hq] at h
   simp only at h ⊢
   rw [hc,h]
   rfl
  |ok x =>
   obtain⟨e,l'⟩:=x
   rw [hq] at h
   simp only at h ⊢
   obtain⟨h1,h2,h3,h4⟩:=h
   obtain⟨n1,n2⟩:=Amb h4
   have hs:C0 V 3 (e,h1,l')=none:=Ku (fun q=>n1 ⟨q.1,by omega,q.2.2⟩) (by have:=Akb l';omega)
   refine⟨h1,by omega,?_,hs⟩
   rw [hc,h3]
   exact E5 hs
theorem Bah(hV:V 7=A9 [45] 15 (Bo (V 1))) (l:TL):LvQ V 7 l:=by
 have hx:∀(e:Xpr) (n:Nat) (l':TL),Ch V 7 (n+1) (e,7,l') = .ok (e,7,l'):=fun _ _ _=>E5 Ay2
 have h3:decide (7≤3)=false:=rfl
 unfold LvQ exT I1
 rw [hV,h3,Bool.and_false]
 simp only
 cases l with
 |nil=>rfl
 |cons t r =>
  cases hm:isT [45] (t::r) with
  |true =>
   simp only [A9,hm,List.tail_cons]
   cases A9 [45] 15 (Bo (V 1)) r with
   |error q=>rfl
   |ok x=>exact⟨7,Zn1 _,hx _ _ _,Ay2⟩
  |false =>
   simp only [A9,hm]
   cases Bo (V 1) (t::r) with
   |error q=>rfl
   |ok x=>exact⟨7,Zn1 _,hx _ _ _,Ay2⟩
abbrev VV:Nat→TL→PR Xpr:=lev orW
theorem Vu(k:Nat):Cm (VV k):=Avg G0 k
theorem Nj:VV 1=orW:=funext fun l=>(A3j l).symm
theorem Bnl(l:TL):∀k,1≤k→k≤7→LvQ VV k l:=by
 have h7:LvQ VV 7 l:=Bah (by rw [Nj];rfl) l
 have h6:LvQ VV 6 l:=Ago Vu (.inr (.inr (.inr rfl))) rfl h7
 have h5:LvQ VV 5 l:=Ago Vu (.inr (.inr (.inl rfl))) rfl h6
 have h4:LvQ VV 4 l:=Bkm Vu rfl h5
 have h3:LvQ VV 3 l:=Bmi Vu rfl h4
 have h2:LvQ VV 2 l:=Ago Vu (.inr (.inl rfl)) rfl h3
 have h1:LvQ VV 1 l:=Ago Vu (.inl rfl) rfl h2
 intro k a b
 match k,a,b with
 |1,_,_=>exact h1
 |2,_,_=>exact h2
 |3,_,_=>exact h3
 |4,_,_=>exact h4
 |5,_,_=>exact h5
 |6,_,_=>exact h6
 |7,_,_=>exact h7
theorem Aun{k:Nat}(h1 : 1≤k) (h7:k≤7) (l:TL):exB VV k l=VV k l:=by
 have h:=Bnl l k h1 h7
 unfold LvQ at h
 unfold exB
 cases hq:VV k l with
 |error q =>
  rw [hq] at h
  simp only at h
  rw [h]
 |ok x =>
  obtain⟨e,l'⟩:=x
  rw [hq] at h
  simp only at h
  obtain⟨a,_,h2,_⟩:=h
  rw [h2]
end Go.Proofs.YthndhaolemgbdaaGreatDoor
namespace Go.Proofs.YthndhaolemgbdaaGreatDoor
open Go.Ax
def bP{α β:Type}(p:TL→PR α) (f : α→TL→PR β) (l:TL):PR β:=match p l with
 |.error q =>.error q
 |.ok (x,l')=>f x l'
def Cn{α:Type}(x : α) (l:TL):PR α :=.ok (x,l)
def A5:List Str→TL→PR Unit
 |[],l =>.ok ((),l)
 |s::ss,l=>match isT s l with
  |true=>A5 ss l.tail
  |false =>.error l
def B0:TL→PR Str
 |[] =>.error []
 |t::r=>match decide (t.kind=2) with
  |true =>.ok (t.s,r)
  |false =>.error (t::r)
def Bb{α:Type}(part:TL→PR α):Nat→List α→TL→PR (List α)
 |0,_,l =>.error l
 |n+1,acc,l=>match isT [44] l with
  |false =>.ok (acc,l)
  |true=>match part l.tail with
   |.error q =>.error q
   |.ok (x,l')=>Bb part n (acc++[x]) l'
def G1{α:Type}(part:TL→PR α) (l:TL):PR (List α):=match part l with
 |.error q =>.error q
 |.ok (x,l')=>Bb part (l'.length+1) [x] l'
def Rj(s:Str) (ss:List Str) (l:TL):PR Bool:=match isT s l with
 |true=>match A5 ss l.tail with
  |.error q =>.error q
  |.ok (_,l') =>.ok (true,l')
 |false =>.ok (false,l)
def Fq:Str:=[84,65,66,76,69]
def wINDEX:Str:=[73,78,68,69,88]
def wON:Str:=[79,78]
def wPRIMARY:Str:=[80,82,73,77,65,82,89]
def wKEY:Str:=[75,69,89]
def wCHECK:Str:=[67,72,69,67,75]
def wUNIQUE:Str:=[85,78,73,81,85,69]
def wREF:Str:=[82,69,70,69,82,69,78,67,69,83]
def Afh:Str:=[66,79,79,76]
def As8:Str:=[73,78,84]
def Aei:Str:=[84,69,88,84]
def T4:Str:=[66,89,84,69,83]
def wWHERE:Str:=[87,72,69,82,69]
def wSET:Str:=[83,69,84]
def wFROM:Str:=[70,82,79,77]
def wORDER:Str:=[79,82,68,69,82]
def wBY:Str:=[66,89]
def wDESC:Str:=[68,69,83,67]
def Vy:Str:=[65,83,67]
def wLIMIT:Str:=[76,73,77,73,84]
def wINTO:Str:=[73,78,84,79]
def wVALUES:Str:=[86,65,76,85,69,83]
def Ec:Str:=[67,82,69,65,84,69]
def N4:Str:=[68,82,79,80]
def G6:Str:=[73,78,83,69,82,84]
def Jl:Str:=[85,80,68,65,84,69]
def Kh:Str:=[68,69,76,69,84,69]
def M1:Str:=[83,69,76,69,67,84]
def zX:Xpr :=.mk 0 ⟨0,0,[]⟩ [] []
def zS:Stm:=⟨0,[],[],[],[],[],[],[],false,zX,[],[],0⟩
def Nb:TL→PR (List Str):=bP (A5 [[40]]) fun _=>bP (G1 B0) fun x=>bP (A5 [[41]]) fun _=>Cn x
def M7:TL→PR (List Xpr):=G1 orW
def L2(l:TL):PR Int :=
 match isT Afh l with
 |true =>.ok (2,l.tail)
 |false=>match isT As8 l with
  |true =>.ok (3,l.tail)
  |false=>match isT Aei l with
   |true =>.ok (4,l.tail)
   |false=>match isT T4 l with
    |true =>.ok (5,l.tail)
    |false =>.error l
def Afo(l:TL):PR Str:=match isT wREF l with
 |true=>B0 l.tail
 |false =>.ok ([],l)
def A0b:TL→PR Col:=bP B0 fun n=>bP L2 fun k=>bP (Rj sNOT [sNULL]) fun nn=>bP (Rj wUNIQUE []) fun u=>bP Afo fun r=>Cn ⟨n,k,nn,u,r⟩
def Si:TL→PR Col:=bP A0b fun c=>bP (A5 [[44]]) fun _=>Cn c
def Ga:Nat→List Col→TL→PR (List Col)
 |0,_,l =>.error l
 |n+1,acc,l=>match isT wPRIMARY l with
  |true =>.ok (acc,l.tail)
  |false=>match Si l with
   |.error q =>.error q
   |.ok (c,l')=>Ga n (acc++[c]) l'
def Y8(l:TL):PR (List Col):=match Si l with
 |.error q =>.error q
 |.ok (c,l')=>Ga (l'.length+1) [c] l'
def Afn:TL→PR Xpr:=bP (A5 [wCHECK,[40]]) fun _=>bP orW fun e=>bP (A5 [[41]]) fun _=>Cn e
def Sl:TL→PR Stm:=bP B0 fun n=>bP (A5 [[40]]) fun _=>bP Y8 fun cs=>bP (A5 [wKEY]) fun _=>bP Nb fun ns=>bP (fun l=>Bb Afn (l.length+1) [] l) fun es=>bP (A5 [[41]]) fun _=>Cn { zS with kind:=1,name:=n,cols:=cs,names:=ns,l:=es }
def Rm:TL→PR Stm:=bP (A5 [wINDEX]) fun _=>bP B0 fun n=>bP (A5 [wON]) fun _=>bP B0 fun o=>bP Nb fun ns=>Cn { zS with kind:=3,name:=n,on:=o,names:=ns }
def E4(l:TL):PR Stm:=match isT Fq l with
 |true=>Sl l.tail
 |false=>Rm l
def S8(l:TL):PR Stm:=match isT Fq l with
 |true=>bP B0 (fun n=>Cn { zS with kind:=2,name:=n }) l.tail
 |false=>bP (A5 [wINDEX]) (fun _=>bP B0 fun n=>Cn { zS with kind:=4,name:=n }) l
def A0k:TL→PR (List Xpr):=bP (A5 [[40]]) fun _=>bP M7 fun r=>bP (A5 [[41]]) fun _=>Cn r
def G5:TL→PR Stm:=bP (A5 [wINTO]) fun _=>bP B0 fun n=>bP (A5 [wVALUES]) fun _=>bP (G1 A0k) fun rs=>Cn { zS with kind:=5,name:=n,rows:=rs }
def Fo(l:TL):PR (Bool×Xpr):=match isT wWHERE l with
 |true=>match orW l.tail with
  |.error q =>.error q
  |.ok (e,l') =>.ok ((true,e),l')
 |false =>.ok ((false,zX),l)
def Aw7:TL→PR SetE:=bP B0 fun n=>bP (A5 [[61]]) fun _=>bP orW fun e=>Cn ⟨n,e⟩
def G7:TL→PR Stm:=bP B0 fun n=>bP (A5 [wSET]) fun _=>bP (G1 Aw7) fun ss=>bP Fo fun w=>Cn { zS with kind:=6,name:=n,sets:=ss,has:=w.1,whr:=w.2 }
def Kf:TL→PR Stm:=bP (A5 [wFROM]) fun _=>bP B0 fun n=>bP Fo fun w=>Cn { zS with kind:=7,name:=n,has:=w.1,whr:=w.2 }
def Wa(l:TL):PR (List Xpr):=match isT [42] l with
 |true =>.ok ([],l.tail)
 |false=>M7 l
def Zi(l:TL):PR Bool:=match isT wDESC l with
 |true =>.ok (true,l.tail)
 |false=>match isT Vy l with
  |true =>.ok (false,l.tail)
  |false =>.ok (false,l)
def Arq:TL→PR (Str×Bool):=bP B0 fun n=>bP Zi fun d=>Cn (n,d)
def Gs(l:TL):PR (List (Str×Bool)):=match isT wORDER l with
 |true=>bP (A5 [wBY]) (fun _=>G1 Arq) l.tail
 |false =>.ok ([],l)
def Ad3:TL→PR Int
 |[] =>.error []
 |t::r=>match decide (t.kind=3) with
  |true =>.ok (t.n,r)
  |false =>.error (t::r)
def Fa(l:TL):PR Int:=match isT wLIMIT l with
 |true=>Ad3 l.tail
 |false =>.ok (-1,l)
def Ig:TL→PR Stm:=bP Wa fun es=>bP (A5 [wFROM]) fun _=>bP B0 fun n=>bP Fo fun w=>bP Gs fun o=>bP Fa fun m=>Cn { zS with kind:=8,name:=n,l:=es,has:=w.1,whr:=w.2,order:=o.map (·.1),desc:=o.map (·.2),most:=m }
def V5(l:TL):PR Stm :=
 match isT Ec l with
 |true=>E4 l.tail
 |false=>match isT N4 l with
  |true=>S8 l.tail
  |false=>match isT G6 l with
   |true=>G5 l.tail
   |false=>match isT Jl l with
    |true=>G7 l.tail
    |false=>match isT Kh l with
     |true=>Kf l.tail
     |false=>match isT M1 l with
      |true=>Ig l.tail
      |false =>.error l
def R2(l:TL):TL:=match isT [59] l with
 |true=>l.tail
 |false=>l
def La(l:TL):Except TL Stm:=match V5 l with
 |.error q =>.error q
 |.ok (s,l')=>match R2 l' with
  |[] =>.ok s
  |t::r =>.error (t::r)
def Ge(n:Int):TL→Int
 |[]=>n
 |t::_=>t.pos
end Go.Proofs.YthndhaolemgbdaaGreatDoor
namespace Go.Proofs.YthndhaolemgbdaaGreatDoor
open Go.Ax
def Ow:TL→Prop
 |[]=>True
 |t::_=>t.kind=6∧(t.s=[59]∨t.s=[41])
def Ahy:TL→Prop
 |[]=>False
 |t::_=>t.kind=6∧t.s=[59]
theorem Ahy.quiet{m:TL}(h:Ahy m):Ow m:=by
 cases m with
 |nil=>trivial
 |cons t r=>exact⟨h.1,.inl h.2⟩
theorem Ahp{m:TL}(h:Ow m) {s:Str}(h1:s≠[59]) (h2:s≠[41]):isT s m=false:=by
 cases m with
 |nil=>rfl
 |cons t r =>
  have:¬t.s=s:=fun e=>by
   rcases h.2 with q|q
   ·exact h1 (e.symm.trans q)
   ·exact h2 (e.symm.trans q)
  simp only [isT,Zd1 this,Bool.and_false]
theorem A34{m:TL}(h:Ahy m) {s:Str}(h1:s≠[59]):isT s m=false:=by
 cases m with
 |nil=>rfl
 |cons t r =>
  have:¬t.s=s:=fun e=>h1 (e.symm.trans h.2)
  simp only [isT,Zd1 this,Bool.and_false]
theorem E3{l:TL}(h:l≠[]) (s:Str) (m:TL):isT s (l++m)=isT s l:=by
 cases l with
 |nil=>exact absurd rfl h
 |cons t r=>rfl
theorem Gu{l:TL}(h:l≠[]) (m:TL):(l++m).tail=l.tail++m:=by
 cases l with
 |nil=>exact absurd rfl h
 |cons t r=>rfl
theorem Ab6{s:Str}{l:TL}(h:isT s l=true):l≠[]:=by rintro rfl;cases h
structure LookN {α:Type}(n:Nat) (p:TL→PR α):Prop where
 le:∀l e l',l.length<n→p l = .ok (e,l')→l'.length≤l.length
 ler:∀l q,l.length<n→p l = .error q→q.length≤l.length
 ok:∀l m e l',l.length<n→p l = .ok (e,l')→(l'≠[]∨Ow m)→p (l++m) = .ok (e,l'++m)
 er:∀l m q,l.length<n→p l = .error q→(q≠[]∨Ahy m)→p (l++m) = .error (q++m)
theorem Boq{a b:TL}(h:a.length≤b.length) (ha:a≠[]):b≠[]:=by
 rintro rfl
 exact ha (List.length_eq_zero_iff.1 (Nat.le_zero.1 h))
theorem Ana{a b:TL}{P:Prop}(h:a.length≤b.length) (ha:a≠[]∨P):b≠[]∨P:=ha.imp_left (Boq h)
theorem Blx{a:TL}{m:TL}(h:a≠[]∨Ahy m):a≠[]∨Ow m:=h.imp_right Ahy.quiet
variable {α β:Type}{n:Nat}
theorem LookN.bind{p:TL→PR α}{f : α→TL→PR β}(hp:LookN n p) (hf:∀x,LookN n (f x)):LookN n (bP p f) where
 le l e l' hl h:=by
  simp only [bP] at h
  cases hq:p l with
  |error q=>rw [hq] at h;cases h
  |ok x =>
   obtain⟨x,l1⟩:=x
   rw [hq] at h
   have h1:=hp.le l x l1 hl hq
   have h2:=(hf x).le l1 e l' (by omega) h
   omega
 ler l q hl h:=by
  simp only [bP] at h
  cases hq:p l with
  |error q'=>rw [hq] at h;cases h;exact hp.ler l q hl hq
  |ok x =>
   obtain⟨x,l1⟩:=x
   rw [hq] at h
   have h1:=hp.le l x l1 hl hq
   have h2:=(hf x).ler l1 q (by omega) h
   omega
 ok l m e l' hl h hc:=by
  simp only [bP] at h ⊢
  cases hq:p l with
  |error q=>rw [hq] at h;cases h
  |ok x =>
   obtain⟨x,l1⟩:=x
   rw [hq] at h
   have h1:=hp.le l x l1 hl hq
   have h2:=(hf x).le l1 e l' (by omega) h
   rw [hp.ok l m x l1 hl hq (Ana h2 hc)]
   exact(hf x).ok l1 m e l' (by omega) h hc
 er l m q hl h hc:=by
  simp only [bP] at h ⊢
  cases hq:p l with
  |error q' =>
   rw [hq] at h
   cases h
   rw [hp.er l m q hl hq hc]
  |ok x =>
   obtain⟨x,l1⟩:=x
   rw [hq] at h
   have h1:=hp.le l x l1 hl hq
   have h2:=(hf x).ler l1 q (by omega) h
   rw [hp.ok l m x l1 hl hq (Blx (Ana h2 hc))]
   exact(hf x).er l1 m q (by omega) h hc
theorem LookN.pure(x : α):LookN n (Cn x) where
 le l e l' _ h:=by cases h;exact Zn1 _
 ler l q _ h:=by cases h
 ok l m e l' _ h _:=by cases h;rfl
 er l m q _ h _:=by cases h
theorem LookN.opt{s:Str}{p:TL→PR α}{f:TL→PR α}(h1:s≠[59]) (h2:s≠[41]) (hp:LookN n p) (hf:LookN n f):LookN n (fun l=>match isT s l with|true=>p l.tail|false=>f l) where
 le l e l' hl h:=by
  have ht:=A6 l
  cases hi:isT s l with
  |true=>simp only [hi] at h;have:=hp.le _ e l' (by omega) h;omega
  |false=>simp only [hi] at h;exact hf.le l e l' hl h
 ler l q hl h:=by
  have ht:=A6 l
  cases hi:isT s l with
  |true=>simp only [hi] at h;have:=hp.ler _ q (by omega) h;omega
  |false=>simp only [hi] at h;exact hf.ler l q hl h
 ok l m e l' hl h hc:=by
  have ht:=A6 l
  cases hi:isT s l with
  |true =>
   simp only [hi] at h
   have hn:=Ab6 hi
   simp only [E3 hn,hi,Gu hn]
   exact hp.ok _ m e l' (by omega) h hc
  |false =>
   simp only [hi] at h
   have hh:=hf.ok l m e l' hl h hc
   by_cases hn:l=[]
   ·subst hn
    have hle:=hf.le [] e l' hl h
    have hl':l' = []:=List.length_eq_zero_iff.1 (Nat.le_zero.1 hle)
    have hq:Ow m:=hc.resolve_left (fun q=>q hl')
    simp only [Zf2,Ahp hq h1 h2]
    exact hh
   ·simp only [E3 hn,hi]
    exact hh
 er l m q hl h hc:=by
  have ht:=A6 l
  cases hi:isT s l with
  |true =>
   simp only [hi] at h
   have hn:=Ab6 hi
   simp only [E3 hn,hi,Gu hn]
   exact hp.er _ m q (by omega) h hc
  |false =>
   simp only [hi] at h
   have hh:=hf.er l m q hl h hc
   by_cases hn:l=[]
   ·subst hn
    have hle:=hf.ler [] q hl h
    have hl':q=[]:=List.length_eq_zero_iff.1 (Nat.le_zero.1 hle)
    have hq:Ahy m:=hc.resolve_left (fun q=>q hl')
    simp only [Zf2,A34 hq h1]
    exact hh
   ·simp only [E3 hn,hi]
    exact hh
theorem LookN.req{s:Str}{p:TL→PR α}(h1:s≠[59]) (hp:LookN n p):LookN n (fun l=>match isT s l with|true=>p l.tail|false =>.error l) where
 le l e l' hl h:=by
  have ht:=A6 l
  cases hi:isT s l with
  |true=>simp only [hi] at h;have:=hp.le _ e l' (by omega) h;omega
  |false=>simp only [hi] at h;cases h
 ler l q hl h:=by
  have ht:=A6 l
  cases hi:isT s l with
  |true=>simp only [hi] at h;have:=hp.ler _ q (by omega) h;omega
  |false=>simp only [hi] at h;cases h;exact Zn1 _
 ok l m e l' hl h hc:=by
  have ht:=A6 l
  cases hi:isT s l with
  |true =>
   simp only [hi] at h
   have hn:=Ab6 hi
   simp only [E3 hn,hi,Gu hn]
   exact hp.ok _ m e l' (by omega) h hc
  |false=>simp only [hi] at h;cases h
 er l m q hl h hc:=by
  have ht:=A6 l
  cases hi:isT s l with
  |true =>
   simp only [hi] at h
   have hn:=Ab6 hi
   simp only [E3 hn,hi,Gu hn]
   exact hp.er _ m q (by omega) h hc
  |false =>
   simp only [hi] at h
   cases h
   by_cases hn:l=[]
   ·subst hn
    have hq:Ahy m:=hc.resolve_left (fun q=>q rfl)
    simp only [Zf2,A34 hq h1]
   ·simp only [E3 hn,hi]
theorem LookN.must:∀(ss:List Str),(∀s,s∈ss→s≠[59])→LookN n (A5 ss)
 |[],_=>LookN.pure ()
 |s::ss,h=>LookN.req (h s Zr1) (LookN.must ss fun x hx=>h x (Zu1 _ hx))
theorem LookN.one{k:Int}{f:Tok→α}(hk:k≠6) {p:TL→PR α}(h0:p [] = .error []) (h1:∀t r,p (t::r)=match decide (t.kind=k) with|true =>.ok (f t,r)|false =>.error (t::r)):LookN n p where
 le l e l' _ h:=by
  cases l with
  |nil=>rw [h0] at h;cases h
  |cons t r =>
   rw [h1] at h
   cases hd:decide (t.kind=k) with
   |true=>rw [hd] at h;cases h;simp
   |false=>rw [hd] at h;cases h
 ler l q _ h:=by
  cases l with
  |nil=>rw [h0] at h;cases h;simp
  |cons t r =>
   rw [h1] at h
   cases hd:decide (t.kind=k) with
   |true=>rw [hd] at h;cases h
   |false=>rw [hd] at h;cases h;simp
 ok l m e l' _ h _:=by
  cases l with
  |nil=>rw [h0] at h;cases h
  |cons t r =>
   rw [h1] at h
   rw [Zb2,h1]
   cases hd:decide (t.kind=k) with
   |true=>rw [hd] at h;cases h;rfl
   |false=>rw [hd] at h;cases h
 er l m q _ h hc:=by
  cases l with
  |nil =>
   rw [h0] at h
   cases h
   have hq:Ahy m:=hc.resolve_left (fun q=>q rfl)
   cases m with
   |nil=>exact hq.elim
   |cons t r =>
    rw [Zf2,h1,Zd1 (fun e=>hk (by rw [←e,hq.1]))]
  |cons t r =>
   rw [h1] at h
   rw [Zb2,h1]
   cases hd:decide (t.kind=k) with
   |true=>rw [hd] at h;cases h
   |false=>rw [hd] at h;cases h;rfl
theorem Z0{part:TL→PR α}(hp:LookN n part):∀(k:Nat) (acc:List α) (l:TL),l.length<n→l.length<k →
  match Bb part k acc l with
  |.ok (e,l')=>l'.length≤l.length∧∀k' m,(l'≠[]∨Ow m)→(l++m).length<k'→Bb part k' acc (l++m) = .ok (e,l'++m)
  |.error q=>q.length≤l.length∧∀k' m,(q≠[]∨Ahy m)→(l++m).length<k'→Bb part k' acc (l++m) = .error (q++m)
 |0,_,_,_,h=>absurd h (Zm1 _)
 |k+1,acc,l,hn,hk=>by
  have ht:=A6 l
  simp only [Bb]
  cases hi:isT [44] l with
  |false =>
   refine⟨Zn1 _,fun k' m hc hk' =>?_⟩
   cases k' with
   |zero=>exact absurd hk' (Zm1 _)
   |succ k' =>
    have:isT [44] (l++m)=false:=by
     by_cases h0:l=[]
     ·subst h0
      exact Ahp (hc.resolve_left (fun q=>q rfl)) (by decide) (by decide)
     ·rw [E3 h0,hi]
    simp only [Bb,this]
  |true =>
   have h0:=Ab6 hi
   have hlt:=Iv hi
   cases hq:part l.tail with
   |error q =>
    simp only
    have h1:=hp.ler l.tail q (by omega) hq
    refine⟨by omega,fun k' m hc hk' =>?_⟩
    cases k' with
    |zero=>exact absurd hk' (Zm1 _)
    |succ k'=>simp only [Bb,E3 h0,hi,Gu h0,hp.er l.tail m q (by omega) hq hc]
   |ok x =>
    obtain⟨x,l1⟩:=x
    have h1:=hp.le l.tail x l1 (by omega) hq
    have ih:=Z0 hp k (acc++[x]) l1 (by omega) (by omega)
    simp only
    cases hr:Bb part k (acc++[x]) l1 with
    |error q =>
     rw [hr] at ih
     simp only at ih ⊢
     refine⟨by omega,fun k' m hc hk' =>?_⟩
     cases k' with
     |zero=>exact absurd hk' (Zm1 _)
     |succ k' =>
      simp only [Bb,E3 h0,hi,Gu h0,hp.ok l.tail m x l1 (by omega) hq (Blx (Ana ih.1 hc))]
      refine ih.2 k' m hc ?_
      simp only [Zh1] at hk' ⊢
      omega
    |ok y =>
     obtain⟨e,l'⟩:=y
     rw [hr] at ih
     simp only at ih ⊢
     refine⟨by omega,fun k' m hc hk' =>?_⟩
     cases k' with
     |zero=>exact absurd hk' (Zm1 _)
     |succ k' =>
      simp only [Bb,E3 h0,hi,Gu h0,hp.ok l.tail m x l1 (by omega) hq (Ana ih.1 hc)]
      refine ih.2 k' m hc ?_
      simp only [Zh1] at hk' ⊢
      omega
theorem LookN.go{part:TL→PR α}(hp:LookN n part) (acc:List α):LookN n (fun l=>Bb part (l.length+1) acc l) where
 le l e l' hl h:=by
  have:=Z0 hp (l.length+1) acc l hl (by omega)
  have h:Bb part (l.length+1) acc l=_:=h
  rw [h] at this
  exact this.1
 ler l q hl h:=by
  have:=Z0 hp (l.length+1) acc l hl (by omega)
  have h:Bb part (l.length+1) acc l=_:=h
  rw [h] at this
  exact this.1
 ok l m e l' hl h hc:=by
  have:=Z0 hp (l.length+1) acc l hl (by omega)
  have h:Bb part (l.length+1) acc l=_:=h
  rw [h] at this
  exact this.2 _ m hc (by omega)
 er l m q hl h hc:=by
  have:=Z0 hp (l.length+1) acc l hl (by omega)
  have h:Bb part (l.length+1) acc l=_:=h
  rw [h] at this
  exact this.2 _ m hc (by omega)
theorem LookN.list{part:TL→PR α}(hp:LookN n part):LookN n (G1 part):=by
 have e:G1 part=bP part fun x l=>Bb part (l.length+1) [x] l:=rfl
 rw [e]
 exact LookN.bind hp fun x=>LookN.go hp [x]
end Go.Proofs.YthndhaolemgbdaaGreatDoor
namespace Go.Proofs.YthndhaolemgbdaaGreatDoor
open Go.Ax
variable {α β:Type}{n:Nat}
theorem Z9{l:TL}(h:l≠[]) (sg:List (Str×Int)) (m:TL):sg.find? (fun p=>isT p.1 (l++m))=sg.find? (fun p=>isT p.1 l):=by
 simp only [E3 h]
theorem Az3{m:TL}(h:Ow m) {sg:List (Str×Int)}(hs:∀p,p∈sg→p.1≠[59]∧p.1≠[41]):sg.find? (fun p=>isT p.1 m)=none :=
 List.find?_eq_none.2 fun p hp=>by simp [Ahp h (hs p hp).1 (hs p hp).2]
theorem Abf{part:TL→PR Xpr}(hp:LookN n part) {sg:List (Str×Int)}(hs:∀p,p∈sg→p.1≠[59]∧p.1≠[41]):∀(k:Nat) (e:Xpr) (l:TL),l.length<n→l.length<k →
  match Bv part sg k e l with
  |.ok (e',l')=>l'.length≤l.length∧∀k' m,(l'≠[]∨Ow m)→(l++m).length<k'→Bv part sg k' e (l++m) = .ok (e',l'++m)
  |.error q=>q.length≤l.length∧∀k' m,(q≠[]∨Ahy m)→(l++m).length<k'→Bv part sg k' e (l++m) = .error (q++m)
 |0,_,_,_,h=>absurd h (Zm1 _)
 |k+1,e,l,hn,hk=>by
  have ht:=A6 l
  simp only [Bv]
  cases hi:sg.find? (fun p=>isT p.1 l) with
  |none =>
   refine⟨Zn1 _,fun k' m hc hk' =>?_⟩
   cases k' with
   |zero=>exact absurd hk' (Zm1 _)
   |succ k' =>
    have:sg.find? (fun p=>isT p.1 (l++m))=none:=by
     by_cases h0:l=[]
     ·subst h0
      exact Az3 (hc.resolve_left (fun q=>q rfl)) hs
     ·rw [Z9 h0,hi]
    simp only [Bv,this]
  |some p =>
   have h0:=Ab6 (Agb hi)
   have hlt:=Iv (Agb hi)
   cases hq:part l.tail with
   |error q =>
    simp only
    have h1:=hp.ler l.tail q (by omega) hq
    refine⟨by omega,fun k' m hc hk' =>?_⟩
    cases k' with
    |zero=>exact absurd hk' (Zm1 _)
    |succ k'=>simp only [Bv,Z9 h0,hi,Gu h0,hp.er l.tail m q (by omega) hq hc]
   |ok x =>
    obtain⟨x,l1⟩:=x
    have h1:=hp.le l.tail x l1 (by omega) hq
    have ih:=Abf hp hs k (mkX p.2 [e,x]) l1 (by omega) (by omega)
    simp only
    cases hr:Bv part sg k (mkX p.2 [e,x]) l1 with
    |error q =>
     rw [hr] at ih
     simp only at ih ⊢
     refine⟨by omega,fun k' m hc hk' =>?_⟩
     cases k' with
     |zero=>exact absurd hk' (Zm1 _)
     |succ k' =>
      simp only [Bv,Z9 h0,hi,Gu h0,hp.ok l.tail m x l1 (by omega) hq (Blx (Ana ih.1 hc))]
      refine ih.2 k' m hc ?_
      simp only [Zh1] at hk' ⊢
      omega
    |ok y =>
     obtain⟨e,l'⟩:=y
     rw [hr] at ih
     simp only at ih ⊢
     refine⟨by omega,fun k' m hc hk' =>?_⟩
     cases k' with
     |zero=>exact absurd hk' (Zm1 _)
     |succ k' =>
      simp only [Bv,Z9 h0,hi,Gu h0,hp.ok l.tail m x l1 (by omega) hq (Ana ih.1 hc)]
      refine ih.2 k' m hc ?_
      simp only [Zh1] at hk' ⊢
      omega
theorem LookN.left{part:TL→PR Xpr}(hp:LookN n part) {sg:List (Str×Int)}(hs:∀p,p∈sg→p.1≠[59]∧p.1≠[41]):LookN n (Ce part sg):=by
 have e:Ce part sg=bP part fun x l=>Bv part sg (l.length+1) x l:=by
  funext l
  simp only [Ce,bP]
  cases part l<;>rfl
 rw [e]
 refine LookN.bind hp fun x=>⟨fun l e l' hl h =>?_,fun l q hl h =>?_,fun l m e l' hl h hc =>?_,fun l m q hl h hc =>?_⟩
 ·have:=Abf hp hs (l.length+1) x l hl (by omega)
  have h:Bv part sg (l.length+1) x l=_:=h
  rw [h] at this
  exact this.1
 ·have:=Abf hp hs (l.length+1) x l hl (by omega)
  have h:Bv part sg (l.length+1) x l=_:=h
  rw [h] at this
  exact this.1
 ·have:=Abf hp hs (l.length+1) x l hl (by omega)
  have h:Bv part sg (l.length+1) x l=_:=h
  rw [h] at this
  exact this.2 _ m hc (by omega)
 ·have:=Abf hp hs (l.length+1) x l hl (by omega)
  have h:Bv part sg (l.length+1) x l=_:=h
  rw [h] at this
  exact this.2 _ m hc (by omega)
theorem LookN.mono{m:Nat}(h:m≤n) {p:TL→PR α}(hp:LookN n p):LookN m p :=
 ⟨fun l e l' hl=>hp.le l e l' (by omega),fun l q hl=>hp.ler l q (by omega),fun l m e l' hl=>hp.ok l m e l' (by omega),fun l m q hl=>hp.er l m q (by omega)⟩
def brP(rec:TL→PR Xpr):TL→PR Xpr:=bP rec fun e l=>match isT [41] l with|true=>Cn e l.tail|false =>.error l
theorem Bdv(rec:TL→PR Xpr) (t:Tok) (r:TL):Bo rec (t::r) =
  if t.kind=2 then .ok (.mk 2 ⟨0,0,[]⟩ t.s [],r)
  else if t.kind=3 then .ok (Kg 3 t.n [],r)
  else if t.kind=4 then .ok (Kg 4 0 t.s,r)
  else if t.kind=5 then .ok (Kg 5 0 t.s,r)
  else if t.kind=1∧t.s=Yw then .ok (Kg 2 1 [],r)
  else if t.kind=1∧t.s=P4 then .ok (Kg 2 0 [],r)
  else if t.kind=1∧t.s=sNULL then .ok (Kg 1 0 [],r)
  else match isT [40] (t::r) with
   |true=>brP rec r
   |false =>.error (t::r):=by
 simp only [Bo]
 repeat (split; · rfl)
 cases h:isT [40] (t::r) with
 |false=>rfl
 |true =>
  simp only [brP,bP,if_true]
  cases rec r with
  |error q=>rfl
  |ok x =>
   obtain⟨e,l'⟩:=x
   simp only
   cases isT [41] l'<;>rfl
def Akt(t:Tok):Option Xpr :=
 if t.kind=2 then some (.mk 2 ⟨0,0,[]⟩ t.s [])
 else if t.kind=3 then some (Kg 3 t.n [])
 else if t.kind=4 then some (Kg 4 0 t.s)
 else if t.kind=5 then some (Kg 5 0 t.s)
 else if t.kind=1∧t.s=Yw then some (Kg 2 1 [])
 else if t.kind=1∧t.s=P4 then some (Kg 2 0 [])
 else if t.kind=1∧t.s=sNULL then some (Kg 1 0 [])
 else none
theorem Vv(rec:TL→PR Xpr) (t:Tok) (r:TL):Bo rec (t::r)=match Akt t with
  |some v =>.ok (v,r)
  |none=>match isT [40] (t::r) with
   |true=>brP rec r
   |false =>.error (t::r):=by
 rw [Bdv]
 unfold Akt
 by_cases h2:t.kind=2
 ·rw [if_pos h2,if_pos h2]
 rw [if_neg h2,if_neg h2]
 by_cases h3:t.kind=3
 ·rw [if_pos h3,if_pos h3]
 rw [if_neg h3,if_neg h3]
 by_cases h4:t.kind=4
 ·rw [if_pos h4,if_pos h4]
 rw [if_neg h4,if_neg h4]
 by_cases h5:t.kind=5
 ·rw [if_pos h5,if_pos h5]
 rw [if_neg h5,if_neg h5]
 by_cases h6:t.kind=1∧t.s=Yw
 ·rw [if_pos h6,if_pos h6]
 rw [if_neg h6,if_neg h6]
 by_cases h7:t.kind=1∧t.s=P4
 ·rw [if_pos h7,if_pos h7]
 rw [if_neg h7,if_neg h7]
 by_cases h8:t.kind=1∧t.s=sNULL
 ·rw [if_pos h8,if_pos h8]
 rw [if_neg h8,if_neg h8]
end Go.Proofs.YthndhaolemgbdaaGreatDoor
namespace Go.Proofs.YthndhaolemgbdaaGreatDoor
open Go.Ax
inductive Der:TL→Xpr→Prop
 |lit {t:Tok}{v:Xpr}:Akt t=some v→Der [t] v
 |br {o c:Tok}{ts:TL}{e:Xpr}:isT [40] [o]=true→isT [41] [c]=true→Der ts e→Der (o::(ts++[c])) e
 |un {s:Str}{k:Int}{t:Tok}{ts:TL}{e:Xpr}:(s=sNOT∧k=3∨s=[45]∧k=15)→isT s [t]=true→Der ts e→Der (t::ts) (mkX k [e])
 |op {s:Str}{p:Nat}{k:Int}{o:Tok}{ts us:TL}{a b:Xpr}:(s,p,k)∈opTab→isT s [o]=true→Der ts a→Der us b→Der (ts++o::us) (mkX k [a,b])
 |isn {o n:Tok}{ts:TL}{e:Xpr}:isT sIS [o]=true→isT sNULL [n]=true→Der ts e→Der (ts++[o,n]) (mkX 16 [e])
 |nis {o m n:Tok}{ts:TL}{e:Xpr}:isT sIS [o]=true→isT sNOT [m]=true→isT sNULL [n]=true→Der ts e→Der (ts++[o,m,n]) (mkX 3 [mkX 16 [e]])
def Cns{α:Type}(p:TL→PR α) (Q:TL→α→Prop):Prop:=∀l e l',p l = .ok (e,l')→∃c,l=c++l'∧Q c e
theorem F7{s:Str}{l:TL}(h:isT s l=true):∃t,l=t::l.tail∧isT s [t]=true:=by
 cases l with
 |nil=>cases h
 |cons t r=>exact⟨t,rfl,h⟩
theorem Aod{rec:TL→PR Xpr}(h:Cns rec Der):Cns (Bo rec) Der:=fun l e l' hp=>by
 cases l with
 |nil=>cases hp
 |cons t r =>
  rw [Vv] at hp
  cases hv:Akt t with
  |some v =>
   rw [hv] at hp
   cases hp
   exact⟨[t],rfl,.lit hv⟩
  |none =>
   rw [hv] at hp
   cases hi:isT [40] (t::r) with
   |false=>rw [hi] at hp;cases hp
   |true =>
    rw [hi] at hp
    simp only [brP,bP] at hp
    cases hq:rec r with
    |error q=>rw [hq] at hp;cases hp
    |ok x =>
     obtain⟨e1,l1⟩:=x
     rw [hq] at hp
     simp only at hp
     cases hj:isT [41] l1 with
     |false=>rw [hj] at hp;cases hp
     |true =>
      rw [hj] at hp
      cases hp
      obtain⟨c,hc,hd⟩:=h r e l1 hq
      obtain⟨z,hz,hz1⟩:=F7 hj
      exact⟨t::(c++[z]),by rw [hc,hz];simp,.br hi hz1 hd⟩
theorem Bd3{part:TL→PR Xpr}{sg:List (Str×Int)}(h:Cns part Der) (hs:∀q,q∈sg→∃p,(q.1,p,q.2)∈opTab):∀(n:Nat) (c0:TL) (e:Xpr) (l:TL) (e':Xpr) (l':TL),Der c0 e→Bv part sg n e l = .ok (e',l')→∃c,l=c++l'∧Der (c0++c) e'
 |0,_,_,_,_,_,_,hp=>by cases hp
 |n+1,c0,e,l,e',l',h0,hp=>by
  simp only [Bv] at hp
  cases hf:sg.find? (fun p=>isT p.1 l) with
  |none =>
   rw [hf] at hp
   cases hp
   exact⟨[],rfl,by rw [List.append_nil];exact h0⟩
  |some p =>
   rw [hf] at hp
   have hi:=Agb hf
   obtain⟨q,hq⟩:=hs p (List.mem_of_find?_eq_some hf)
   obtain⟨t,ht,ht1⟩:=F7 hi
   cases hx:part l.tail with
   |error q=>simp only [hx] at hp;cases hp
   |ok x =>
    obtain⟨x,l1⟩:=x
    simp only [hx] at hp
    obtain⟨c1,hc1,hd1⟩:=h _ _ _ hx
    obtain⟨c2,hc2,hd2⟩:=Bd3 h hs n (c0++t::c1) _ l1 e' l' (.op hq ht1 h0 hd1) hp
    refine⟨t::(c1++c2),?_,?_⟩
    ·rw [ht,hc1,hc2];simp
    ·have e:c0++t::(c1++c2)=(c0++t::c1)++c2:=by simp
     rw [e]
     exact hd2
theorem L4{part:TL→PR Xpr}{sg:List (Str×Int)}(h:Cns part Der) (hs:∀q,q∈sg→∃p,(q.1,p,q.2)∈opTab):Cns (Ce part sg) Der:=fun l e l' hp=>by
 simp only [Ce] at hp
 cases hx:part l with
 |error q=>rw [hx] at hp;cases hp
 |ok x =>
  obtain⟨x,l1⟩:=x
  rw [hx] at hp
  obtain⟨c1,hc1,hd1⟩:=h _ _ _ hx
  obtain⟨c2,hc2,hd2⟩:=Bd3 h hs _ c1 x l1 e l' hd1 hp
  exact⟨c1++c2,by rw [hc1,hc2,Zj1],hd2⟩
theorem N0{s:Str}{k:Int}{part:TL→PR Xpr}(h:Cns part Der) (hk:s=sNOT∧k=3∨s=[45]∧k=15):∀(l:TL) (e:Xpr) (l':TL),A9 s k part l = .ok (e,l')→∃c,l=c++l'∧Der c e
 |[],e,l',hp=>h _ _ _ hp
 |t::r,e,l',hp=>by
  simp only [A9] at hp
  cases hi:isT s (t::r) with
  |true =>
   rw [hi] at hp
   cases hx:A9 s k part r with
   |error q=>simp only [hx] at hp;cases hp
   |ok x =>
    obtain⟨x,l1⟩:=x
    simp only [hx] at hp
    cases hp
    obtain⟨c,hc,hd⟩:=N0 h hk r x l' hx
    exact⟨t::c,by rw [hc];rfl,.un hk hi hd⟩
  |false =>
   rw [hi] at hp
   exact h _ _ _ hp
theorem Bho:∀q,q∈cmpS→∃p,(q.1,p,q.2)∈opTab:=by
 intro q hq
 exact⟨4,by revert q;decide⟩
theorem A27{sum:TL→PR Xpr}(h:Cns sum Der):Cns (Rk sum) Der:=fun l e l' hp=>by
 simp only [Rk] at hp
 cases hx:sum l with
 |error q=>rw [hx] at hp;cases hp
 |ok x =>
  obtain⟨x,l1⟩:=x
  rw [hx] at hp
  obtain⟨c1,hc1,hd1⟩:=h _ _ _ hx
  subst hc1
  cases hf:cmpS.find? (fun p=>isT p.1 l1) with
  |some p =>
   simp only [hf] at hp
   obtain⟨t,ht,ht1⟩:=F7 (Agb hf)
   obtain⟨q,hq⟩:=Bho p (List.mem_of_find?_eq_some hf)
   cases hy:sum l1.tail with
   |error q=>simp only [hy] at hp;cases hp
   |ok y =>
    obtain⟨y,l2⟩:=y
    simp only [hy] at hp
    cases hp
    obtain⟨c2,hc2,hd2⟩:=h _ _ _ hy
    refine⟨c1++t::c2,?_,.op hq ht1 hd1 hd2⟩
    rw [ht,hc2]
    simp
  |none =>
   simp only [hf] at hp
   cases hi:isT sIS l1 with
   |false =>
    simp only [hi] at hp
    cases hp
    exact⟨c1,rfl,hd1⟩
   |true =>
    simp only [hi] at hp
    obtain⟨t,ht,ht1⟩:=F7 hi
    simp only [isP] at hp
    cases hn:isT sNOT l1.tail with
    |true =>
     rw [hn] at hp
     obtain⟨m,hm,hm1⟩:=F7 hn
     cases hu:isT sNULL l1.tail.tail with
     |false=>simp only [hu] at hp;cases hp
     |true =>
      simp only [hu] at hp
      cases hp
      obtain⟨n,hn2,hn1⟩:=F7 hu
      refine⟨c1++[t,m,n],?_,.nis ht1 hm1 hn1 hd1⟩
      have e:l1=t::m::n::l1.tail.tail.tail:=by rw [←hn2,←hm,←ht]
      rw [Zj1]
      exact congrArg (c1++·) e
    |false =>
     rw [hn] at hp
     cases hu:isT sNULL l1.tail with
     |false=>simp only [hu] at hp;cases hp
     |true =>
      simp only [hu] at hp
      cases hp
      obtain⟨n,hn2,hn1⟩:=F7 hu
      refine⟨c1++[t,n],?_,.isn ht1 hn1 hd1⟩
      have e:l1=t::n::l1.tail.tail:=by rw [←hn2,←ht]
      rw [Zj1]
      exact congrArg (c1++·) e
theorem Bfu{rec:TL→PR Xpr}(h:Cns rec Der):Cns (lev rec 1) Der:=by
 have h7:Cns (A9 [45] 15 (Bo rec)) Der:=N0 (Aod h) (.inr ⟨rfl,rfl⟩)
 have h6:=L4 (sg:=[([42],14)]) h7 (fun q hq=>⟨6,by revert q;decide⟩)
 have h5:=L4 (sg:=[([43],12),([45],13)]) h6 (fun q hq=>⟨5,by revert q;decide⟩)
 have h4:=A27 h5
 have h3:Cns (A9 sNOT 3 _) Der:=N0 h4 (.inl ⟨rfl,rfl⟩)
 have h2:=L4 (sg:=[(Aj3,4)]) h3 (fun q hq=>⟨2,by revert q;decide⟩)
 exact L4 (sg:=[(sOR,5)]) h2 (fun q hq=>⟨1,by revert q;decide⟩)
theorem Aft:∀n,Cns (orN n) Der
 |0=>fun _ _ _ h=>by cases h
 |n+1=>Bfu (Aft n)
theorem Bkx:Cns orW Der:=fun l e l' h=>Aft _ l e l' h
end Go.Proofs.YthndhaolemgbdaaGreatDoor
namespace Go.Proofs.YthndhaolemgbdaaGreatDoor
open Go.Ax
def signsL:List (Int×Str):=[(4,[65,78,68]),(5,[79,82]),(6,[61]),(7,[60,62]),(8,[60]),(9,[60,61]),(10,[62]),(11,[62,61]),(12,[43]),(13,[45]),(14,[42])]
def wordsL:List Str:=[[65,68,68],[65,78,68],[65,83,67],[66,79,79,76],[66,89],[66,89,84,69,83],[67,72,69,67,75],[67,82,69,65,84,69],[68,69,76,69,84,69],[68,69,83,67],[68,82,79,80],[70,65,76,83,69],[70,82,79,77],[73,78,68,69,88],[73,78,83,69,82,84],[73,78,84],[73,78,84,79],[73,83],[75,69,89],[76,73,77,73,84],[78,79,84],[78,85,76,76],[79,78],[79,82],[79,82,68,69,82],[80,82,73,77,65,82,89],[82,69,70,69,82,69,78,67,69,83],[83,69,76,69,67,84],[83,69,84],[84,65,66,76,69],[84,69,88,84],[84,82,85,69],[85,78,73,81,85,69],[85,80,68,65,84,69],[86,65,76,85,69,83],[87,72,69,82,69]]
def kindsL:List Str:=[[],[],[66,79,79,76],[73,78,84],[84,69,88,84],[66,89,84,69,83]]
def ttL:List (Nat×Ax.Ty):=[
 (1,.fn),
 (3,.int .i64),
 (4,.bool),
 (5,.int .u8),
 (9,.str),
 (21,.int .i32),
 (23,.st (some .val) [(0,3),(1,3),(2,9)] [.int .i64 0,.int .i64 0,.str []]),
 (24,.sl .expr),
 (26,.st (some .expr) [(0,3),(1,23),(4,9),(5,24)] [.int .i64 0,.int .i64 0,.int .i64 0,.str [],.str [],.sl .expr [] .nil]),
 (29,.int .i64),
 (34,.sl .str),
 (38,.fn),
 (39,.sl .col),
 (40,.sl .exprs),
 (41,.sl .set),
 (42,.sl .bool),
 (44,.st (some .stmt) [(0,3),(1,9),(2,9),(3,39),(4,34),(5,24),(6,40),(7,41),(8,4),(9,26),(15,34),(16,42),(17,3)] [.int .i64 0,.str [],.str [],.sl .col [] .nil,.sl .str [] .nil,.sl .expr [] .nil,.sl .exprs [] .nil,.sl .set [] .nil,.bool false,.int .i64 0,.int .i64 0,.int .i64 0,.str [],.str [],.sl .expr [] .nil,.sl .str [] .nil,.sl .bool [] .nil,.int .i64 0]),
 (63,.sl .tok),
 (67,.st (some .tok) [(0,3),(1,3),(2,9),(3,3)] [.int .i64 0,.int .i64 0,.str [],.int .i64 0]),
 (68,.int .u64),
 (71,.sl .int),
 (77,.ptr),
 (78,.sl .byte),
 (80,.st none [(0,77),(1,78)] [.nilp,.sl .byte [] .nil]),
 (82,.st none [(0,80)] [.nilp,.sl .byte [] .nil]),
 (83,.fn),
 (89,.st (some .set) [(0,9),(1,26)] [.str [],.int .i64 0,.int .i64 0,.int .i64 0,.str [],.str [],.sl .expr [] .nil]),
 (94,.fn),
 (100,.st (some .num) [(0,4),(1,71)] [.bool false,.sl .int [] .nil]),
 (106,.fn),
 (111,.st (some .col) [(0,9),(1,3),(2,4),(3,4),(4,9)] [.str [],.int .i64 0,.bool false,.bool false,.str []]),
 (118,.fn),
 (120,.fn),
 (121,.ptr),
 (126,.st none [(0,63),(1,3)] [.sl .tok [] .nil,.int .i64 0]),
 (128,.st none [(0,126),(2,4),(3,3)] [.sl .tok [] .nil,.int .i64 0,.bool false,.int .i64 0]),
 (130,.st (some .got) [(0,3),(1,4)] [.int .i64 0,.bool false]),
 (135,.fn),
 (144,.fn),
 (145,.ptr),
 (147,.map),
 (148,.ptr),
 (158,.fn),
 (164,.ptr),
 (176,.st (some .pair) [(0,9),(1,3)] [.str [],.int .i64 0]),
 (188,.arr 2 .str),
 (191,.arr 6 .str),
 (194,.ptr),
 (201,.sl .pair),
 (202,.int .u64),
 (221,.arr 36 .str),
 (226,.arr 256 .byte),
 (228,.st none [(0,5),(1,5)] [.int .u8 0,.int .u8 0]),
 (230,.int .u32),
 (233,.fn)]
def elT:Ck→TypeId
 |.byte=>5
 |.int=>3
 |.u64=>202
 |.str=>9
 |.bool=>4
 |.val=>23
 |.tok=>67
 |.col=>111
 |.expr=>26
 |.num=>100
 |.set=>89
 |.stmt=>44
 |.got=>130
 |.pair=>176
 |.exprs=>24
 |.strs=>34
 |.bytes=>78
 |_=>0
theorem Ax0:(ttL.all fun p=>Df Tryz.prog elT (Aph ttL) p.1)=true:=by kernel_rfl
def glT:Nat→Option Gv:=tbl [(0,.map signsL),(1,.arr .str kindsL),(2,.arr .str wordsL),(3,.num .i64)]
theorem follows:Tryz.prog.follows .mixedOrders=true:=by kernel_rfl
abbrev FO:=FnOk Tryz.prog elT glT
abbrev FM:=FnLn Tryz.prog elT glT
abbrev HX:=Hx Tryz.prog elT glT (Aph ttL)
def pxO{R:Type}(c:List (Nat×M0 R)) (q:List (Nat×Lg R)) (l:List (Nat×A9s R)) (w:List (Nat×Xi R)):Px R:=⟨Aph ttL,glT,A2f c,Apm q,Bnc l,tbl w⟩
abbrev cA {R:Type}{sa sr:List Sg}(F:FT sa sr):M0 R:=Aca sa sr F
abbrev qA {R:Type}{sa sr:List Sg}(F:FT sa sr):Lg R:=Zl sa sr F
theorem fR{f:FuncId}{fn:Func}{c:Code}{sa sr:List Sg}{px:Px (HV sr)}{F:FT sa sr}{n:Nat}(hf:Tryz.prog.funcs[f]? = some fn) (hb:fn.body=some c) (h:∀cx,HX cx→Lv cx px∧∀i,i<n→De cx px (lp fn i)) (hF:∀x,Bef px fn sa sr x some=F x) (hname:(fn.name == "runtime.NumGoroutine")=false:=by kernel_rfl) (hchk:(T8 fn&&Nat.ble sa.length fn.ntmps&&Fl (Br 0 sa) [])=true:=by kernel_rfl) (hn:Nk fn=n:=by kernel_rfl):FO f sa sr F:=fO (Bcd Ax0) follows hf hb hname hchk hn h hF
theorem fRL{f:FuncId}{fn:Func}{c:Code}{sg so:Sig}{px:Px (HV so.sgs)}{F:FL sg so}{n:Nat}(hf:Tryz.prog.funcs[f]? = some fn) (hb:fn.body=some c) (h:∀cx,HX cx→Lv cx px∧∀i,i<n→De cx px (lp fn i)) (hF:∀x,At5 px fn sg so x some=F x) (hname:(fn.name == "runtime.NumGoroutine")=false:=by kernel_rfl) (hchk:(T8 fn&&Nat.ble sg.n fn.ntmps)=true:=by kernel_rfl) (hn:Nk fn=n:=by kernel_rfl):FM f sg so F:=fL (Bcd Ax0) follows hf hb hname hchk hn h hF
end Go.Proofs.YthndhaolemgbdaaGreatDoor
namespace Go.Proofs.YthndhaolemgbdaaGreatDoor.Lp
open Go.Sx Go.RowKit
abbrev Tok:=Go.Ax.Tok
def pre(l m:List UInt8):Bool:=decide (m.length≤l.length)&&decide (l.take m.length=m)
theorem Abm(a b c d:Int) (h : 0≤a∧a≤c) (h' : 0≤b∧b≤d) : 0≤a*b∧a*b≤c*d :=
 ⟨Int.mul_nonneg h.1 h'.1,Int.mul_le_mul h.2 h'.2 h'.1 (by omega)⟩
theorem Afg(x y:Int):x*y=(x / 4294967296)*(y / 4294967296)*18446744073709551616+((x / 4294967296)*(y % 4294967296)+(x % 4294967296)*(y / 4294967296))*4294967296+(x % 4294967296)*(y % 4294967296):=by
 have hx:=Int.mul_ediv_add_emod x 4294967296
 have hy:=Int.mul_ediv_add_emod y 4294967296
 generalize x / 4294967296=p at *
 generalize x % 4294967296=q at *
 generalize y / 4294967296=r at *
 generalize y % 4294967296=s at *
 rw [←hx,←hy]
 simp only [Int.add_mul,Int.mul_add]
 have e1 : 4294967296*p*(4294967296*r)=p*r*18446744073709551616:=by
  rw [Int.mul_assoc,Int.mul_left_comm p,←Int.mul_assoc]
  omega
 have e2 : 4294967296*p*s=p*s*4294967296:=by rw [Int.mul_assoc];omega
 have e3:q*(4294967296*r)=q*r*4294967296:=by rw [Int.mul_left_comm];omega
 omega
def inI(n:Int):Prop := -9223372036854775808≤n∧n≤9223372036854775807
instance (n:Int):Decidable (inI n):=by unfold inI;infer_instance
def M8(n:Int):Int:=if n<0 then -n else n
def vis(c:Int):Bool:=decide (32≤c)&&decide (c≤126)
def visF(l:List UInt8):Bool:=l.all fun b=>vis b.toNat
theorem A5v(l:List UInt8) (j:Int) (h : 0≤j∧j<l.length):l.drop j.toNat=l.getD j.toNat 0::l.drop (j+1).toNat:=by
 have h1:j.toNat<l.length:=by omega
 have h2:(j+1).toNat=j.toNat+1:=by omega
 rw [h2,List.drop_eq_getElem_cons h1]
 simp [List.getD_eq_getElem?_getD,h1]
theorem Aji(p:Int→Bool) (l:List UInt8) (j:Int) (h : 0≤j∧j<l.length):((l.drop j.toNat).all fun b=>p b.toNat)=(p (byt l j)&&(l.drop (j+1).toNat).all fun b=>p b.toNat):=by
 rw [A5v l j h]
 rfl
def rightF(k n:Int) (s:List UInt8):Bool :=
 if k=1 then n == 0&&decide (s=[]) else if k=2 then(n == 0||n == 1)&&decide (s=[]) else if k=3 then decide (s=[])
 else if k=4 then n == 0&&decide ((s.length:Int)≤1000)&&visF s else if k=5 then n == 0&&decide ((s.length:Int)≤1000) else false
def T3(k n:Int) (s:List UInt8):Int:=if rightF k n s then 0 else 2
def isUp(c:Int):Bool:=decide (65≤c)&&decide (c≤90)
def isLo(c:Int):Bool:=decide (97≤c)&&decide (c≤122)
def isDi(c:Int):Bool:=decide (48≤c)&&decide (c≤57)
def isIn(c:Int):Bool:=isLo c||isDi c||c == 95
def runTo(p:Int→Bool) (l:List UInt8) (i:Int):Int:=i+((l.drop i.toNat).takeWhile fun b=>p b.toNat).length
theorem H9(l:List UInt8) (j:Int) (h : 0≤j∧j<l.length):l.drop j.toNat=l.getD j.toNat 0::l.drop (j+1).toNat:=by
 have h1:j.toNat<l.length:=by omega
 have h2:(j+1).toNat=j.toNat+1:=by omega
 rw [h2,List.drop_eq_getElem_cons h1]
 simp [List.getD_eq_getElem?_getD,h1]
theorem runTo_yes{p:Int→Bool}{l:List UInt8}{j:Int}(h : 0≤j∧j<l.length) (hp:p (byt l j)=true):runTo p l (j+1)=runTo p l j:=by
 unfold runTo
 rw [H9 l j h]
 have:p ((l.getD j.toNat 0).toNat:Int)=true:=hp
 simp only [List.takeWhile_cons,this,if_true,Zf1]
 omega
theorem runTo_no{p:Int→Bool}{l:List UInt8}{j:Int}(h : 0≤j∧j<l.length) (hp:p (byt l j)=false):runTo p l j=j:=by
 unfold runTo
 rw [H9 l j h]
 have:p ((l.getD j.toNat 0).toNat:Int)=false:=hp
 simp only [List.takeWhile_cons,this,Zj2,if_false,Zi1]
 omega
theorem runTo_end{p:Int→Bool}{l:List UInt8}{j:Int}(h:(l.length:Int)≤j):runTo p l j=j:=by
 unfold runTo
 rw [Zk1 (by omega)]
 simp
def aloneF(l:List UInt8) (i:Int):Bool:=i == l.length || !isIn (byt l i) && !isUp (byt l i)
def dg(c:Int):Int:=IntKind.i64.wrap (IntKind.u8.wrap (c-48))
theorem Boh(c:Int) : 0≤dg c∧dg c≤255:=by
 have e1:IntKind.u8.wrap (c-48)=(c-48) % 256:=by simp [IntKind.wrap,IntKind.bits,IntKind.signed]
 unfold dg
 rw [e1,IntWalk.i64_in _ (by omega)]
 omega
theorem Bje(c:Int) (h : 48≤c∧c≤303):dg c=c-48:=by
 have e1:IntKind.u8.wrap (c-48)=(c-48) % 256:=by simp [IntKind.wrap,IntKind.bits,IntKind.signed]
 unfold dg
 rw [e1,IntWalk.i64_in _ (by omega)]
 omega
def numGo:List UInt8→Int→Option Int
 |[],n=>some n
 |c::r,n=>if inI (n*10)∧inI (n*10+dg c.toNat) then numGo r (n*10+dg c.toNat) else none
theorem inI_dg(c:Int):inI (dg c):=by have:=Boh c;unfold inI;omega
def qGo:List UInt8→List UInt8→Int→List UInt8×Int
 |[],_,_=>([], -1)
 |[c],acc,i=>if c=39 then(acc,i+1) else([], -1)
 |c::d::r,acc,i=>if c=39 then(if d=39 then qGo r (acc++[39]) (i+2) else(acc,i+1)) else qGo (d::r) (acc++[c]) (i+1)
theorem Ut{l:List UInt8}{j:Int}{c:UInt8}:byt l j=(c.toNat:Int)↔l.getD j.toNat 0=c:=by
 unfold byt
 rw [←UInt8.toNat_inj]
 omega
theorem q_end{l acc:List UInt8}{j:Int}(h:(l.length:Int)≤j):qGo (l.drop j.toNat) acc j=([], -1):=by
 rw [Zk1 (by omega)]
 rfl
theorem q_last{l acc:List UInt8}{j:Int}(h : 0≤j) (hl:j+1=l.length) (hc:byt l j=39):qGo (l.drop j.toNat) acc j=(acc,j+1):=by
 rw [H9 l j (by omega),(Ut (c:=39)).1 hc,Zk1 (by omega)]
 rfl
theorem q_close{l acc:List UInt8}{j:Int}(h : 0≤j) (hl:j+1<l.length) (hc:byt l j=39) (hd:byt l (j+1)≠39):qGo (l.drop j.toNat) acc j=(acc,j+1):=by
 have hd':¬l.getD (j+1).toNat 0=39:=fun hh=>hd ((Ut (c:=39)).2 hh)
 rw [H9 l j (by omega),(Ut (c:=39)).1 hc,H9 l (j+1) (by omega)]
 simp only [qGo,if_true,if_neg hd']
theorem q_two{l acc:List UInt8}{j:Int}(h : 0≤j) (hl:j+1<l.length) (hc:byt l j=39) (hd:byt l (j+1)=39):qGo (l.drop j.toNat) acc j=qGo (l.drop (j+1+1).toNat) (acc++[39]) (j+1+1):=by
 rw [H9 l j (by omega),(Ut (c:=39)).1 hc,H9 l (j+1) (by omega),(Ut (c:=39)).1 hd]
 simp only [qGo,if_true]
 rw [show j+2=j+1+1 by omega]
theorem q_other{l acc:List UInt8}{j:Int}(h : 0≤j) (hl:j<l.length) (hc:¬byt l j=39):qGo (l.drop j.toNat) acc j=qGo (l.drop (j+1).toNat) (acc++[l.getD j.toNat 0]) (j+1):=by
 have hc':¬l.getD j.toNat 0=39:=fun hh=>hc ((Ut (c:=39)).2 hh)
 rw [H9 l j (by omega)]
 cases hd:l.drop (j+1).toNat with
 |nil=>simp only [qGo,if_neg hc']
 |cons d r=>simp only [qGo,if_neg hc']
def hexD(c:Int):Option Int:=if 48≤c∧c≤57 then some (c-48) else if 97≤c∧c≤102 then some (c-87) else none
theorem hexD_lt{c n:Int}(h:hexD c=some n) : 0≤n∧n≤15:=by
 unfold hexD at h
 split at h
 ·cases h;omega
 ·split at h
  ·cases h;omega
  ·cases h
def unGo:List UInt8→List UInt8→Option (List UInt8)
 |[],acc=>some acc
 |[_],_=>none
 |a::b::r,acc=>match hexD a.toNat,hexD b.toNat with
  |some x,some y=>unGo r (acc++[UInt8.ofNat (x*16+y).toNat])
  |_,_=>none
theorem Bf3:∀a b:Fin 16,IntKind.u8.wrap (((BitVec.ofInt IntKind.u8.bits (IntKind.u8.wrap ((a.val:Int)*2 ^ min (4:Int).toNat IntKind.u8.bits)) ||| BitVec.ofInt IntKind.u8.bits (b.val:Int)).toNat:Nat):Int)=((a.val*16+b.val:Nat):Int):=by decide +kernel
theorem joinhex'{x y:Int}(hx : 0≤x∧x≤15) (hy : 0≤y∧y≤15):IntKind.u8.wrap (((BitVec.ofInt IntKind.u8.bits (IntKind.u8.wrap (x*2 ^ min (4:Int).toNat IntKind.u8.bits)) ||| BitVec.ofInt IntKind.u8.bits y).toNat:Nat):Int)=((UInt8.ofNat (x*16+y).toNat).toNat:Int):=by
 obtain⟨a,rfl⟩:=Int.eq_ofNat_of_zero_le hx.1
 obtain⟨b,rfl⟩:=Int.eq_ofNat_of_zero_le hy.1
 have:=Bf3 ⟨a,by omega⟩ ⟨b,by omega⟩
 simp only at this
 rw [this]
 rw [show((a:Int)*16+(b:Int)).toNat=a*16+b by omega,UInt8.toNat_ofNat']
 omega
theorem un_step{l acc:List UInt8}{j:Int}(h : 0≤j) (hl:j+1<l.length):unGo (l.drop j.toNat) acc=match hexD (byt l j),hexD (byt l (j+1)) with
  |some x,some y=>unGo (l.drop (j+2).toNat) (acc++[UInt8.ofNat (x*16+y).toNat])
  |_,_=>none:=by
 rw [H9 l j (by omega),H9 l (j+1) (by omega),show j+1+1=j+2 by omega]
 rfl
def signs:List UInt8:=[40,41,44,42,61,60,62,43,45,59]
def signF(l:List UInt8):Int:=if pre l [60,62]||pre l [60,61]||pre l [62,61] then 2 else if 0≤Lib.indexByte signs (byt l 0).toNat.toUInt8 then 1 else 0
def idx(x:List UInt8):List (List UInt8)→Int→Int
 |[],_ => -1
 |l::r,i=>if x=l then i else idx x r (i+1)
theorem idx_ge(x:List UInt8):∀(ls:List (List UInt8)) (i:Int),0≤i→(0≤idx x ls i↔x∈ls)
 |[],i,_=>by simp [idx]
 |l::r,i,h=>by
  by_cases hx:x=l
  ·simp [idx,hx,h]
  ·simp [idx,hx,idx_ge x r (i+1) (by omega)]
def wordF(l:List UInt8):Bool:=wordsL.contains l
def nameF(l:List UInt8):Bool := !decide (l=[])&&decide ((l.length:Int)≤30)&&isLo (byt l 0)&&(runTo isIn l 0 == l.length)
def tokF(l:List UInt8) (i:Int):Option (Int×List UInt8×Int×Int) :=
 if pre (l.drop i.toNat) [120,39] then
  let n:=Lib.indexByte (l.drop (i+2).toNat) 39
  if n<0 then none else
  let x:=cut l (i+2) (i+2+n)
  match(if x.length % 2=0 then unGo x [] else none) with
  |none=>none
  |some b=>if 1000<(b.length:Int) then none else some (5,b,0,i+3+n)
 else if isUp (byt l i) then
  if wordF (cut l i (runTo isUp l i))&&aloneF l (runTo isUp l i) then some (1,cut l i (runTo isUp l i),0,runTo isUp l i) else none
 else if isLo (byt l i) then
  if nameF (cut l i (runTo isIn l i))&&aloneF l (runTo isIn l i) then some (2,cut l i (runTo isIn l i),0,runTo isIn l i) else none
 else if isDi (byt l i) then
  match numGo (cut l i (runTo isDi l i)) 0 with
  |none=>none
  |some n=>if(decide (cut l i (runTo isDi l i)=[48])||byt (cut l i (runTo isDi l i)) 0 != 48)&&aloneF l (runTo isDi l i) then some (3,cut l i (runTo isDi l i),n,runTo isDi l i) else none
 else if byt l i=39 then
  let q:=qGo (l.drop (i+1).toNat) [] (i+1)
  if rightF 4 0 q.1 then(if q.2<0 then none else some (4,q.1,0,q.2)) else none
 else if signF (l.drop i.toNat)=0 then none else some (6,cut l i (i+signF (l.drop i.toNat)),0,i+signF (l.drop i.toNat))
theorem runTo_range(p:Int→Bool) (l:List UInt8) (i:Int) (h : 0≤i∧i≤l.length):i≤runTo p l i∧runTo p l i≤l.length:=by
 unfold runTo
 have h1:=(List.takeWhile_prefix (fun b:UInt8=>p b.toNat) (l:=l.drop i.toNat)).length_le
 rw [Za2] at h1
 omega
theorem runTo_gt{p:Int→Bool}{l:List UInt8}{i:Int}(h : 0≤i∧i<l.length) (hp:p (byt l i)=true):i+1≤runTo p l i:=by
 have h1:=runTo_yes h hp
 have h2:=runTo_range p l (i+1) (by omega)
 omega
theorem cut_length(l:List UInt8) (a b:Int) (h : 0≤a∧a≤b∧b≤l.length):((cut l a b).length:Int)=b-a:=by
 unfold cut
 rw [List.length_take,Za2]
 omega
theorem signF_in(l:List UInt8) (h : 0<l.length):signF l=0∨signF l=1∨(signF l=2∧2≤l.length):=by
 unfold signF
 split
 ·rename_i hp
  right;right
  refine⟨rfl,?_⟩
  simp only [pre,Zd2,Zb1,Zg1,Zf1,Zi1] at hp
  omega
 ·split
  ·exact .inr (.inl rfl)
  ·exact .inl rfl
theorem qGo_in:∀(n:Nat) (l acc:List UInt8) (i:Int),l.length≤n→0≤i→(qGo l acc i).2 = -1∨(i+1≤(qGo l acc i).2∧(qGo l acc i).2≤i+l.length)
 |n,[],acc,i,_,h=>by left;rfl
 |n,[c],acc,i,_,h=>by
  simp only [qGo]
  split
  ·right;simp
  ·left;rfl
 |0,_::_::_,_,_,hn,_=>by simp at hn
 |n+1,c::d::r,acc,i,hn,h=>by
  simp only [Zf1] at hn ⊢
  simp only [qGo]
  split
  ·split
   ·rcases qGo_in n r (acc++[39]) (i+2) (by omega) (by omega) with h1|h1
    ·exact .inl h1
    ·right;omega
   ·right;simp;omega
  ·rcases qGo_in n (d::r) (acc++[c]) (i+1) (by simp;omega) (by omega) with h1|h1
   ·exact .inl h1
   ·right;simp at h1;omega
theorem indexByte_in:∀(l:List UInt8) (c:UInt8),Lib.indexByte l c = -1∨(0≤Lib.indexByte l c∧Lib.indexByte l c<l.length)
 |[],c =>.inl rfl
 |b::l,c=>by
  simp only [Lib.indexByte,Zf1]
  split
  ·right;omega
  ·rcases indexByte_in l c with h|h
   ·left;simp [h]
   ·right
    have:¬((Lib.indexByte l c == -1)=true):=by simp;omega
    rw [if_neg this]
    omega
def blankF(c:Int):Bool:=decide (0≤Lib.indexByte [32,9,10,13] c.toNat.toUInt8)
def allGo:Nat→List UInt8→Int→List Tok→Except Int (List Tok)
 |0,_,_,acc =>.ok acc
 |f+1,l,i,acc =>
  if(l.length:Int)≤i then .ok acc
  else if blankF (byt l i) then allGo f l (i+1) acc
  else match tokF l i with
   |none =>.error i
   |some (k,s,n,e)=>allGo f l e (acc++[⟨k,i,s,n⟩])
def allF(l:List UInt8):Except Int (List Tok):=allGo (l.length+1) l 0 []
theorem tok_end{l:List UInt8}{i:Int}(h0 : 0≤i∧i<l.length) {k:Int}{s:List UInt8}{n e:Int}(h:tokF l i=some (k,s,n,e)):i<e∧e≤l.length:=by
 unfold tokF at h
 split at h
 ·rename_i hx
  have hdl:(l.drop i.toNat).length=l.length-i.toNat:=Za2
  have h2 : 2≤(l.drop i.toNat).length:=by
   simp only [pre,Zb1,Zg1,Zf1,Zi1] at hx
   omega
  have hdl2:(l.drop (i+2).toNat).length=l.length-(i+2).toNat:=Za2
  have hib:=indexByte_in (l.drop (i+2).toNat) 39
  simp only at h
  split at h
  ·cases h
  ·split at h
   ·cases h
   ·split at h
    ·cases h
    ·cases h;omega
 ·split at h
  ·rename_i hu
   have hr:=runTo_range isUp l i (by omega)
   have hg:=runTo_gt h0 hu
   split at h
   ·cases h;omega
   ·cases h
  ·split at h
   ·rename_i hlo
    have hr:=runTo_range isIn l i (by omega)
    have hg:=runTo_gt (p:=isIn) h0 (by simp [isIn,hlo])
    split at h
    ·cases h;omega
    ·cases h
   ·split at h
    ·rename_i hd
     have hr:=runTo_range isDi l i (by omega)
     have hg:=runTo_gt h0 hd
     split at h
     ·cases h
     ·split at h
      ·cases h;omega
      ·cases h
    ·split at h
     ·have hqi:=qGo_in _ (l.drop (i+1).toNat) [] (i+1) (Zn1 _) (by omega)
      have hdl:(l.drop (i+1).toNat).length=l.length-(i+1).toNat:=Za2
      simp only at h
      split at h
      ·split at h
       ·cases h
       ·cases h;omega
      ·cases h
     ·split at h
      ·cases h
      ·have hdl:(l.drop i.toNat).length=l.length-i.toNat:=Za2
       have hs:=signF_in (l.drop i.toNat) (by omega)
       cases h
       omega
def signsI:List Int:=[40,41,44,42,61,60,62,43,45,59]
def A4(c:Int):Int :=
 if isUp c then 1 else if isLo c then 2 else if isDi c then 3 else if c=95 then 4 else if c=39 then 5
 else if c=32∨c=9∨c=10∨c=13 then 6 else if signsI.contains c then 7 else 0
def isWd(c:Int):Bool:=decide (1≤A4 c)&&decide (A4 c≤4)
def D7:List UInt8→Int→Option Int
 |[],n=>some n
 |c::r,n=>if A4 c.toNat≠3∨922337203685477580<n∨(n=922337203685477580∧7<(c.toNat:Int)-48) then none else D7 r (10*n+((c.toNat:Int)-48))
def rnumF(l:List UInt8):Int:=match D7 l 0 with
 |none => -1
 |some n=>if 1<(l.length:Int)∧byt l 0=48 then -1 else n
theorem cls3{c:Int}(h:A4 c=3) : 48≤c∧c≤57:=by
 unfold A4 at h
 split at h
 ·omega
 ·split at h
  ·omega
  ·split at h
   ·rename_i hd;simpa [isDi] using hd
   ·(repeat' split at h)<;>omega
def Bmv(j c:Int):Bool:=decide (A4 c=2)||(!decide (j=0)&&(decide (A4 c=3)||decide (A4 c=4)))
def A7i:List UInt8→Int→Bool
 |[],_=>true
 |c::r,j=>Bmv j c.toNat&&A7i r (j+1)
def rnameF(l:List UInt8):Bool:=A7i l 0&&(decide (1≤(l.length:Int))&&decide ((l.length:Int)≤30))
def Ah4(l:List UInt8) (i:Int):Prop:=cut l i (runTo isWd l i)=[120]∧runTo isWd l i<l.length∧byt l (runTo isWd l i)=39
instance (l:List UInt8) (i:Int):Decidable (Ah4 l i):=by unfold Ah4;infer_instance
def Ak9(l:List UInt8) (i:Int):Prop:=i+1<l.length∧(cut l i (i+2)=[60,62]∨cut l i (i+2)=[60,61]∨cut l i (i+2)=[62,61])
instance (l:List UInt8) (i:Int):Decidable (Ak9 l i):=by unfold Ak9;infer_instance
def Atg(l:List UInt8) (i:Int):Option (Int×List UInt8×Int×Int) :=
 if Ah4 l i then
  let t:=runTo isWd l i
  let q:=runTo (fun c => !decide (c=39)) l (t+1)
  if q=l.length then none else
  match(if(cut l (t+1) q).length % 2=0 then unGo (cut l (t+1) q) [] else none) with
  |none=>none
  |some b=>if 1000<(b.length:Int) then none else some (5,b,0,q+1)
 else if A4 (byt l i)=1 then(if wordF (cut l i (runTo isWd l i)) then some (1,cut l i (runTo isWd l i),0,runTo isWd l i) else none)
 else if A4 (byt l i)=2 then(if rnameF (cut l i (runTo isWd l i)) then some (2,cut l i (runTo isWd l i),0,runTo isWd l i) else none)
 else if A4 (byt l i)=3 then(if 0≤rnumF (cut l i (runTo isWd l i)) then some (3,cut l i (runTo isWd l i),rnumF (cut l i (runTo isWd l i)),runTo isWd l i) else none)
 else if A4 (byt l i)=5 then
  let q:=qGo (l.drop (i+1).toNat) [] (i+1)
  if ¬q.2 = -1∧T3 4 0 q.1=0 then some (4,q.1,0,q.2) else none
 else if A4 (byt l i)=7 then(if Ak9 l i then some (6,cut l i (i+2),0,i+2) else some (6,cut l i (i+1),0,i+1))
 else none
theorem Au0{l:List UInt8}{i:Int}(h0 : 0≤i∧i<l.length) {k:Int}{s:List UInt8}{n e:Int}(h:Atg l i=some (k,s,n,e)):i<e∧e≤l.length:=by
 unfold Atg at h
 have hr:=runTo_range isWd l i (by omega)
 split at h
 ·rename_i hx
  have hx1:=hx.2.1
  have hq:=runTo_range (fun c => !decide (c=39)) l (runTo isWd l i+1) (by omega)
  simp only at h
  split at h
  ·cases h
  ·split at h
   ·cases h
   ·split at h
    ·cases h
    ·cases h;omega
 ·have hg:∀c:Int,1≤c∧c≤4→A4 (byt l i)=c→i+1≤runTo isWd l i:=fun c hc he=>runTo_gt h0 (by simp [isWd];omega)
  split at h
  ·rename_i h1
   have:=hg 1 (by omega) h1
   split at h
   ·cases h;omega
   ·cases h
  ·split at h
   ·rename_i h1
    have:=hg 2 (by omega) h1
    split at h
    ·cases h;omega
    ·cases h
   ·split at h
    ·rename_i h1
     have:=hg 3 (by omega) h1
     split at h
     ·cases h;omega
     ·cases h
    ·split at h
     ·have hqi:=qGo_in _ (l.drop (i+1).toNat) [] (i+1) (Zn1 _) (by omega)
      have hdl:(l.drop (i+1).toNat).length=l.length-(i+1).toNat:=Za2
      simp only at h
      split at h
      ·rename_i h2
       cases h
       have:=h2.1
       omega
      ·cases h
     ·split at h
      ·split at h
       ·rename_i h2
        have:=h2.1
        cases h;omega
       ·cases h;omega
      ·cases h
def Ni:Nat→List UInt8→Int→List Tok→Except Int (List Tok)
 |0,_,_,acc =>.ok acc
 |f+1,l,i,acc =>
  if(l.length:Int)≤i then .ok acc
  else if A4 (byt l i)=6 then Ni f l (i+1) acc
  else match Atg l i with
   |none =>.error i
   |some (k,s,n,e)=>Ni f l e (acc++[⟨k,i,s,n⟩])
def Bi9(l:List UInt8):Except Int (List Tok):=Ni (l.length+1) l 0 []
theorem of256{p:Int→Prop}(h:∀n:Fin 256,p (n.val:Int)) (c:Int) (hc : 0≤c∧c≤255):p c:=by
 have:=h ⟨c.toNat,by omega⟩
 simpa [Int.toNat_of_nonneg hc.1] using this
theorem Ble:∀n:Fin 256,isWd (n.val:Int)=(isUp (n.val:Int)||isIn (n.val:Int)):=by decide +kernel
theorem A6l:∀n:Fin 256,blankF (n.val:Int)=decide (A4 (n.val:Int)=6):=by decide +kernel
theorem A99:∀n:Fin 256,decide (0≤Lib.indexByte signs (n.val:Int).toNat.toUInt8)=decide (A4 (n.val:Int)=7):=by decide +kernel
theorem Aqz(c:Int) (hc : 0≤c∧c≤255):isWd c=(isUp c||isIn c):=of256 (p:=fun c=>isWd c=(isUp c||isIn c)) Ble c hc
theorem A9y(c:Int) (hc : 0≤c∧c≤255):blankF c=decide (A4 c=6):=of256 (p:=fun c=>blankF c=decide (A4 c=6)) A6l c hc
theorem Bfr(c:Int) (hc : 0≤c∧c≤255):decide (0≤Lib.indexByte signs c.toNat.toUInt8)=decide (A4 c=7):=of256 (p:=fun c=>decide (0≤Lib.indexByte signs c.toNat.toUInt8)=decide (A4 c=7)) A99 c hc
theorem u8_range(b:UInt8) : 0≤(b.toNat:Int)∧(b.toNat:Int)≤255:=by
 have:=b.toNat_lt
 omega
def tw(p:Int→Bool) (m:List UInt8):List UInt8:=m.takeWhile fun b=>p b.toNat
theorem Fh(p:Int→Bool) (l:List UInt8) (i:Int):runTo p l i=i+(tw p (l.drop i.toNat)).length:=rfl
theorem tw_len(p:Int→Bool):∀m:List UInt8,(tw p m).length≤m.length
 |[]=>by simp [tw]
 |x::m=>by
  have:=tw_len p m
  unfold tw at *
  simp only [List.takeWhile_cons]
  split<;>simp<;>omega
theorem tw_take(p:Int→Bool):∀m:List UInt8,m.take (tw p m).length=tw p m
 |[]=>by simp [tw]
 |x::m=>by
  have:=tw_take p m
  unfold tw at *
  simp only [List.takeWhile_cons]
  split
  ·simp [this]
  ·simp
theorem Pp(p:Int→Bool) (l:List UInt8) (i:Int) (h : 0≤i):cut l i (runTo p l i)=tw p (l.drop i.toNat):=by
 unfold cut
 rw [Fh,show(i+((tw p (l.drop i.toNat)).length:Int)).toNat-i.toNat=(tw p (l.drop i.toNat)).length by omega]
 exact tw_take p _
theorem Atk{p q:Int→Bool}(hpq:∀b:UInt8,p b.toNat=true→q b.toNat=true):∀m:List UInt8,tw q m=tw p m++tw q (m.drop (tw p m).length)
 |[]=>by simp [tw]
 |x::m=>by
  have ih:=Atk hpq m
  unfold tw at *
  cases hp:p x.toNat with
  |true=>simp [hp,hpq x hp];exact ih
  |false=>simp [hp]
theorem Bet(p:Int→Bool):∀m:List UInt8,(tw p m).all (fun b=>p b.toNat)=true
 |[]=>by simp [tw]
 |x::m=>by
  have ih:=Bet p m
  unfold tw at *
  cases hp:p x.toNat with
  |true=>simp only [List.takeWhile_cons,hp,if_true,Zv1,Bool.true_and];exact ih
  |false=>simp [hp]
theorem Ayw{q:Int→Bool}(m:List UInt8):tw q m=[]↔m=[]∨q (byt m 0)=false:=by
 cases m with
 |nil=>simp [tw]
 |cons x m =>
  have:byt (x::m) 0=(x.toNat:Int):=rfl
  rw [this]
  cases hq:q x.toNat<;>simp [tw,hq]
theorem Sd(l:List UInt8) (i:Int) (h : 0≤i) (j:Nat):byt (l.drop i.toNat) j=byt l (i+j):=by
 unfold byt
 rw [List.getD_eq_getElem?_getD,List.getD_eq_getElem?_getD,List.getElem?_drop,show i.toNat+(j:Int).toNat=(i+j).toNat by omega]
theorem Alc{p:Int→Bool}(hp:∀b:UInt8,p b.toNat=true→isWd b.toNat=true) (l:List UInt8) (i:Int) (h : 0≤i∧i≤l.length):aloneF l (runTo p l i)=true↔tw p (l.drop i.toNat)=tw isWd (l.drop i.toNat):=by
 have hs:=Atk hp (l.drop i.toNat)
 have hr:=runTo_range p l i h
 have hdd:(l.drop i.toNat).drop (tw p (l.drop i.toNat)).length=l.drop (runTo p l i).toNat:=by
  rw [List.drop_drop,Fh]
  congr 1
  omega
 rw [hdd] at hs
 have h1:tw p (l.drop i.toNat)=tw isWd (l.drop i.toNat)↔tw isWd (l.drop (runTo p l i).toNat)=[]:=by
  rw [hs]
  simp
 rw [h1,Ayw]
 have h2:l.drop (runTo p l i).toNat=[]↔runTo p l i=l.length:=by
  rw [List.drop_eq_nil_iff];omega
 have h3:byt (l.drop (runTo p l i).toNat) 0=byt l (runTo p l i):=by
  have:=Sd l (runTo p l i) (by omega) 0
  simpa using this
 rw [h2,h3]
 have hb:=U1 l (runTo p l i)
 simp only [aloneF,Zd2,beq_iff_eq,Zb1,Bool.not_eq_true',Aqz _ hb,Bool.or_eq_false_iff]
 constructor
 ·rintro(h|⟨h,h'⟩)
  ·exact .inl h
  ·exact .inr ⟨h',h⟩
 ·rintro(h|⟨h,h'⟩)
  ·exact .inl h
  ·exact .inr ⟨h',h⟩
theorem Aga{p:Int→Bool}(hp:∀b:UInt8,p b.toNat=true→isWd b.toNat=true) (l:List UInt8) (i:Int) (h : 0≤i∧i≤l.length) {α:Type}(f:List UInt8→Int→Option α) (hf:∀x j,f x j≠none→x.all (fun b=>p b.toNat)=true) :
  (if aloneF l (runTo p l i) then f (cut l i (runTo p l i)) (runTo p l i) else none)=f (cut l i (runTo isWd l i)) (runTo isWd l i):=by
 by_cases ha:aloneF l (runTo p l i)=true
 ·have he:=(Alc hp l i h).1 ha
  have hre:runTo p l i=runTo isWd l i:=by rw [Fh,Fh,he]
  rw [if_pos ha,hre]
 ·rw [if_neg ha]
  by_cases hn:f (cut l i (runTo isWd l i)) (runTo isWd l i)=none
  ·exact hn.symm
  ·exfalso
   apply ha
   rw [Alc hp l i h]
   have hall:=hf _ _ hn
   rw [Pp _ _ _ h.1] at hall
   have key:∀m:List UInt8,(tw isWd m).all (fun b=>p b.toNat)=true→tw p m=tw isWd m:=by
    intro m
    induction m with
    |nil=>simp [tw]
    |cons x m ih =>
     unfold tw at *
     intro hm
     cases hq:isWd x.toNat with
     |true =>
      simp only [List.takeWhile_cons,hq,if_true,Zv1,Zb1] at hm ⊢
      rw [if_pos hm.1,ih hm.2]
     |false =>
      have:p x.toNat=false:=by
       cases hpx:p x.toNat with
       |false=>rfl
       |true=>rw [hp x hpx] at hq;cases hq
      simp [hq,this]
   exact key _ hall
theorem Baf:wordsL.all (fun w=>w.all fun b=>isUp b.toNat)=true:=by decide +kernel
theorem word_up{x:List UInt8}(h:wordF x=true):x.all (fun b=>isUp b.toNat)=true:=by
 have:=Zg2.1 Baf x (by simpa [wordF] using h)
 exact this
theorem Bfl(l:List UInt8):∀j:Int,0<j→A7i l j=l.all fun b=>isIn b.toNat:=by
 induction l with
 |nil=>intro j _;rfl
 |cons c l ih =>
  intro j hj
  have hc:=u8_range c
  have key:∀n:Fin 256,(decide (A4 (n.val:Int)=2)||(decide (A4 (n.val:Int)=3)||decide (A4 (n.val:Int)=4)))=isIn (n.val:Int):=by decide +kernel
  have hk:=of256 (p:=fun c=>(decide (A4 c=2)||(decide (A4 c=3)||decide (A4 c=4)))=isIn c) key c.toNat hc
  simp only [A7i,Zv1,ih (j+1) (by omega),Bmv,show decide (j=0)=false by simp;omega,Zs1,Bool.true_and,hk]
theorem okGo_zero(c:UInt8) (l:List UInt8):A7i (c::l) 0=(isLo c.toNat&&l.all fun b=>isIn b.toNat):=by
 have hc:=u8_range c
 have key:∀n:Fin 256,decide (A4 (n.val:Int)=2)=isLo (n.val:Int):=by decide +kernel
 have hk:=of256 (p:=fun c=>decide (A4 c=2)=isLo c) key c.toNat hc
 simp only [A7i,Bmv,decide_true,Zt1,Bool.false_and,Bool.or_false,hk]
 rw [Bfl l (0+1) (by omega)]
theorem tw_full{p:Int→Bool}:∀m:List UInt8,(tw p m).length=m.length↔m.all (fun b=>p b.toNat)=true
 |[]=>by simp [tw]
 |x::m=>by
  have ih:=tw_full (p:=p) m
  unfold tw at *
  cases hp:p x.toNat with
  |true=>simp only [List.takeWhile_cons,hp,if_true,Zf1,Zv1,Bool.true_and,←ih];omega
  |false=>simp [hp]
theorem lo_in{c:Int}(h:isLo c=true):isIn c=true:=by simp [isIn,h]
theorem name_eq(x:List UInt8):nameF x=rnameF x:=by
 cases x with
 |nil=>rfl
 |cons c x =>
  have hrun:(runTo isIn (c::x) 0 == ((c::x).length:Int))=(c::x).all fun b=>isIn b.toNat:=by
   rw [Bool.eq_iff_iff,←tw_full,beq_iff_eq,Fh]
   simp only [Int.toNat_zero,Zq1]
   omega
  have hb:byt (c::x) 0=(c.toNat:Int):=rfl
  simp only [nameF,rnameF,okGo_zero,hrun,hb]
  rw [Bool.eq_iff_iff]
  simp only [Zb1,Bool.not_eq_true',Zg1,decide_eq_false_iff_not,Zv1,Zf1]
  constructor
  ·rintro⟨⟨⟨_,h1⟩,h2⟩,h3⟩
   exact⟨⟨h2,h3.2⟩,by omega,h1⟩
  ·rintro⟨⟨h2,h3⟩,_,h1⟩
   exact⟨⟨⟨by simp,h1⟩,h2⟩,lo_in h2,h3⟩
theorem Bg9{x:List UInt8}(h:nameF x=true):x.all (fun b=>isIn b.toNat)=true:=by
 simp only [nameF,Zb1,beq_iff_eq] at h
 rw [←tw_full]
 have:=h.2
 rw [Fh] at this
 simp only [Int.toNat_zero,Zq1] at this
 omega
theorem Bjn{c:UInt8}(h:isDi c.toNat=true) : 48≤(c.toNat:Int)∧(c.toNat:Int)≤57:=by
 simpa [isDi] using h
theorem cls_di{c:UInt8}(h:isDi c.toNat=true):A4 c.toNat=3:=by
 have key:∀n:Fin 256,isDi (n.val:Int)=true→A4 (n.val:Int)=3:=by decide +kernel
 exact of256 (p:=fun c=>isDi c=true→A4 c=3) key c.toNat (u8_range c) h
theorem Bk3{c:UInt8}(h:A4 c.toNat=3):isDi c.toNat=true:=by
 have:=cls3 h
 simp [isDi];omega
theorem A8x{c:UInt8}(h:isDi c.toNat=true) {n:Int}(hn : 0≤n):(inI (n*10)∧inI (n*10+dg c.toNat))↔¬(A4 c.toNat≠3∨922337203685477580<n∨(n=922337203685477580∧7<(c.toNat:Int)-48)):=by
 have hb:=Bjn h
 rw [Bje _ (by omega),cls_di h]
 unfold inI
 constructor
 ·rintro⟨h1,h2⟩ (h3|h3|h3)
  ·exact h3 rfl
  ·omega
  ·omega
 ·intro h3
  have h4:¬(922337203685477580<n):=fun h=>h3 (.inr (.inl h))
  have h5:¬(n=922337203685477580∧7<(c.toNat:Int)-48):=fun h=>h3 (.inr (.inr h))
  omega
theorem Bch:∀(x:List UInt8) (n:Int),0≤n→x.all (fun b=>isDi b.toNat)=true→D7 x n=numGo x n∧∀m,numGo x n=some m→0≤m
 |[],n,hn,_=>⟨rfl,fun m h=>by simp only [numGo,Za1] at h;omega⟩
 |c::x,n,hn,hx=>by
  simp only [Zv1,Zb1] at hx
  have hb:=Bjn hx.1
  have hs:=A8x hx.1 hn
  have hd:dg c.toNat=(c.toNat:Int)-48:=Bje _ (by omega)
  simp only [D7,numGo]
  by_cases hc:A4 c.toNat≠3∨922337203685477580<n∨(n=922337203685477580∧7<(c.toNat:Int)-48)
  ·rw [if_pos hc,if_neg (fun h=>hs.1 h hc)]
   exact⟨rfl,fun m h=>by cases h⟩
  ·rw [if_neg hc,if_pos (hs.2 hc),hd,show 10*n+((c.toNat:Int)-48)=n*10+((c.toNat:Int)-48) by omega]
   exact Bch x _ (by omega) hx.2
theorem Ash:∀(x:List UInt8) (n:Int),D7 x n≠none→x.all (fun b=>isDi b.toNat)=true
 |[],_,_=>rfl
 |c::x,n,h=>by
  simp only [D7] at h
  split at h
  ·exact absurd rfl h
  ·rename_i hc
   have h3:A4 c.toNat=3:=by
    by_cases h3:A4 c.toNat=3
    ·exact h3
    ·exact absurd (.inl h3) hc
   simp only [Zv1,Zb1]
   exact⟨Bk3 h3,Ash x _ h⟩
def Ajv(x:List UInt8) (j:Int):Option (Int×List UInt8×Int×Int):=if 0≤rnumF x then some (3,x,rnumF x,j) else none
theorem Ax8{x:List UInt8}{j:Int}(h:Ajv x j≠none):x.all (fun b=>isDi b.toNat)=true:=by
 unfold Ajv at h
 split at h
 ·rename_i h0
  unfold rnumF at h0
  split at h0
  ·omega
  ·rename_i n hn
   exact Ash x 0 (by rw [hn];simp)
 ·exact absurd rfl h
theorem Bor{x:List UInt8}(hne:x≠[]):(decide (x=[48])||byt x 0 != 48)=true↔¬(1<(x.length:Int)∧byt x 0=48):=by
 cases x with
 |nil=>exact absurd rfl hne
 |cons c x =>
  have hb:byt (c::x) 0=(c.toNat:Int):=rfl
  have hc:(c.toNat:Int)=48↔c=48:=by rw [←UInt8.toNat_inj];simp;omega
  rw [hb]
  simp only [Zd2,Zg1,bne_iff_ne,ne_eq,Ze2,Zf1,hc]
  constructor
  ·rintro(⟨_,h⟩|h) ⟨h1,h2⟩
   ·subst h;simp at h1
   ·exact h h2
  ·intro h
   by_cases h2:c=48
   ·left
    refine⟨h2,?_⟩
    cases x with
    |nil=>rfl
    |cons d x=>exact absurd ⟨by simp;omega,h2⟩ h
   ·exact .inr h2
theorem Bl4{x:List UInt8}(hne:x≠[]) (hx:x.all (fun b=>isDi b.toNat)=true) (a:Bool) (j:Int) :
  (match numGo x 0 with
  |none=>none
  |some n=>if(decide (x=[48])||byt x 0 != 48)&&a then some ((3:Int),x,n,j) else none)=if a then Ajv x j else none:=by
 obtain⟨h1,h2⟩:=Bch x 0 (by omega) hx
 unfold Ajv rnumF
 rw [h1]
 cases hn:numGo x 0 with
 |none=>cases a<;>simp
 |some n =>
  have hp:=h2 n hn
  cases hl:(decide (x=[48])||byt x 0 != 48) with
  |true =>
   have:=(Bor hne).1 hl
   cases a<;>simp [this,hp]
  |false =>
   have : 1<(x.length:Int)∧byt x 0=48:=by
    by_cases hh : 1<(x.length:Int)∧byt x 0=48
    ·exact hh
    ·rw [(Bor hne).2 hh] at hl;cases hl
   cases a<;>simp [this]
theorem Agg(l:List UInt8) (i:Int) (h : 0≤i∧i<l.length):Ah4 l i↔pre (l.drop i.toNat) [120,39]=true:=by
 have hdl:(l.drop i.toNat).length=l.length-i.toNat:=Za2
 have hb1:=Sd l i h.1 1
 unfold Ah4
 rw [Pp _ _ _ h.1,Fh]
 generalize l.drop i.toNat=m at *
 have w120:isWd ((120:UInt8).toNat:Int)=true:=by decide +kernel
 have w39:isWd ((39:UInt8).toNat:Int)=false:=by decide +kernel
 match m with
 |[]=>simp at hdl;omega
 |[a] =>
  simp only [List.length_singleton] at hdl
  constructor
  ·rintro⟨h1,h2,_⟩
   rw [h1] at h2
   simp at h2
   omega
  ·intro h;simp [pre] at h
 |a::b::r =>
  have hbb:byt (a::b::r) ((1:Nat):Int)=(b.toNat:Int):=rfl
  constructor
  ·rintro⟨h1,h2,h3⟩
   rw [h1] at h3
   have hb:b=39:=by
    have:byt l (i+(([120]:List UInt8).length:Int))=(b.toNat:Int):=by rw [←hbb,hb1];rfl
    rw [this] at h3
    rw [←UInt8.toNat_inj];simp;omega
   have ha:a=120:=by
    unfold tw at h1
    cases hw:isWd a.toNat with
    |true=>simp [hw] at h1;exact h1.1
    |false=>simp [hw] at h1
   subst hb;subst ha
   simp [pre]
  ·intro h
   simp only [pre,Zb1,Zg1,Zf1,Zi1,List.take_succ_cons,List.take_zero,Ze2,and_true] at h
   obtain⟨_,rfl,rfl⟩:=h
   have e1:tw isWd (120::39::r)=[120]:=by
    unfold tw
    rw [List.takeWhile_cons,if_pos w120,List.takeWhile_cons,if_neg (by rw [w39];simp)]
   rw [e1]
   refine⟨rfl,?_,?_⟩
   ·simp only [Zf1] at hdl ⊢
    simp
    omega
   ·have:byt l (i+(([120]:List UInt8).length:Int))=(((39:UInt8).toNat:Nat):Int):=by
     rw [←hbb,hb1];rfl
    rw [this];rfl
theorem Awg:∀m:List UInt8,Lib.indexByte m 39=if(tw (fun c => !decide (c=39)) m).length=m.length then -1 else((tw (fun c => !decide (c=39)) m).length:Int)
 |[]=>rfl
 |b::m=>by
  have ih:=Awg m
  have hl:=tw_len (fun c => !decide (c=39)) m
  by_cases hb:b=39
  ·subst hb
   rfl
  ·have hne:¬((b.toNat:Int)=39):=fun h=>hb (by rw [←UInt8.toNat_inj];simp;omega)
   have e1:tw (fun c => !decide (c=39)) (b::m)=b::tw (fun c => !decide (c=39)) m:=by
    unfold tw
    rw [List.takeWhile_cons,if_pos (by simp [hne])]
   have e2:(b == 39)=false:=by simpa using hb
   rw [Lib.indexByte,e1,ih,e2]
   simp only [Zj2,if_false,Zf1]
   by_cases hf:(tw (fun c => !decide (c=39)) m).length=m.length
   ·simp [hf]
   ·have:¬((((tw (fun c => !decide (c=39)) m).length:Int) == -1)=true):=by simp
    rw [if_neg hf,if_neg this,if_neg (by omega)]
    omega
theorem A1k(l:List UInt8) (i:Int) (h : 0≤i∧i<l.length) (a b:UInt8):pre (l.drop i.toNat) [a,b]=true↔i+1<l.length∧cut l i (i+2)=[a,b]:=by
 unfold pre cut
 have hdl:(l.drop i.toNat).length=l.length-i.toNat:=Za2
 rw [show(i+2).toNat-i.toNat=2 by omega]
 simp only [Zb1,Zg1,Zf1,Zi1,hdl]
 constructor
 ·rintro⟨h1,h2⟩;exact⟨by omega,h2⟩
 ·rintro⟨h1,h2⟩;exact⟨by omega,h2⟩
theorem Aj5{m:List UInt8}{a b:UInt8}(h:pre m [a,b]=true):byt m 0=a.toNat:=by
 simp only [pre,Zb1,Zg1,Zf1,Zi1] at h
 obtain⟨_,h2⟩:=h
 cases m with
 |nil=>cases h2
 |cons c m=>simp at h2;rw [←h2.1];rfl
theorem Bdj(l:List UInt8) (i:Int) (h : 0≤i∧i<l.length):(if signF (l.drop i.toNat)=0 then none else some ((6:Int),cut l i (i+signF (l.drop i.toNat)),(0:Int),i+signF (l.drop i.toNat))) =
  if A4 (byt l i)=7 then(if Ak9 l i then some (6,cut l i (i+2),0,i+2) else some (6,cut l i (i+1),0,i+1)) else none:=by
 have hb0:byt (l.drop i.toNat) 0=byt l i:=by simpa using Sd l i h.1 0
 have hb:=U1 l i
 have hs:=Bfr (byt l i) hb
 have htwo:Ak9 l i↔(pre (l.drop i.toNat) [60,62]||pre (l.drop i.toNat) [60,61]||pre (l.drop i.toNat) [62,61])=true:=by
  simp only [Zd2,A1k l i h,Ak9]
  constructor
  ·rintro⟨h1,h2|h2|h2⟩
   ·exact .inl (.inl ⟨h1,h2⟩)
   ·exact .inl (.inr ⟨h1,h2⟩)
   ·exact .inr ⟨h1,h2⟩
  ·rintro((⟨h1,h2⟩|⟨h1,h2⟩)|⟨h1,h2⟩)
   ·exact⟨h1,.inl h2⟩
   ·exact⟨h1,.inr (.inl h2)⟩
   ·exact⟨h1,.inr (.inr h2)⟩
 unfold signF
 by_cases h2:Ak9 l i
 ·have h2':=htwo.1 h2
  have hc:byt l i=60∨byt l i=62:=by
   rw [←hb0]
   simp only [Zd2] at h2'
   rcases h2' with (h|h)|h
   ·left;rw [Aj5 h];rfl
   ·left;rw [Aj5 h];rfl
   ·right;rw [Aj5 h];rfl
  have hc7:A4 (byt l i)=7:=by
   rcases hc with h|h<;>rw [h]<;>decide +kernel
  rw [if_pos h2',if_neg (by omega),if_pos hc7,if_pos h2]
 ·have h2':¬_:=fun h=>h2 (htwo.2 h)
  rw [if_neg h2',if_neg h2,hb0]
  by_cases hc7:A4 (byt l i)=7
  ·have h0 : 0≤Lib.indexByte signs (byt l i).toNat.toUInt8:=by
    rw [Ze1 hc7] at hs;exact of_decide_eq_true hs
   rw [if_pos h0,if_neg (by omega),if_pos hc7]
  ·have h0:¬ 0≤Lib.indexByte signs (byt l i).toNat.toUInt8:=by
    rw [Zd1 hc7] at hs;exact of_decide_eq_false hs
   rw [if_neg h0,if_pos rfl,if_neg hc7]
theorem up_wd(b:UInt8) (h:isUp b.toNat=true):isWd b.toNat=true:=by rw [Aqz _ (u8_range b),h];rfl
theorem in_wd(b:UInt8) (h:isIn b.toNat=true):isWd b.toNat=true:=by rw [Aqz _ (u8_range b),h,Bool.or_true]
theorem di_in(b:UInt8) (h:isDi b.toNat=true):isIn b.toNat=true:=by simp [isIn,h]
theorem A2m{α:Type}(p q:Bool) (x : α):(if(p&&q)=true then some x else none)=if q=true then(if p=true then some x else none) else none:=by
 cases p<;>cases q<;>rfl
theorem Bmc(l:List UInt8) (i:Int) (h : 0≤i∧i<l.length):tokF l i=Atg l i:=by
 have hb:=U1 l i
 unfold tokF Atg
 by_cases hx:Ah4 l i
 ·have hx':=(Agg l i h).1 hx
  rw [if_pos hx,if_pos hx']
  have hr1:runTo isWd l i=i+1:=by
   rw [Fh,←Pp _ _ _ h.1,hx.1];rfl
  have hlt:i+1<l.length:=by have:=hx.2.1;omega
  have hdl:(l.drop (i+2).toNat).length=l.length-(i+2).toNat:=Za2
  have htl:=tw_len (fun c => !decide (c=39)) (l.drop (i+2).toNat)
  rw [hr1]
  simp only
  rw [show i+1+1=i+2 by omega,Awg,Fh]
  by_cases hf:(tw (fun c => !decide (c=39)) (l.drop (i+2).toNat)).length=(l.drop (i+2).toNat).length
  ·rw [if_pos hf,if_pos (by omega),if_pos (by omega)]
  ·rw [if_neg hf,if_neg (show ¬((tw (fun c => !decide (c=39)) (l.drop (i+2).toNat)).length:Int)<0 by omega),if_neg (show ¬i+2+((tw (fun c => !decide (c=39)) (l.drop (i+2).toNat)).length:Int)=l.length by omega)]
   rw [show i+3+((tw (fun c => !decide (c=39)) (l.drop (i+2).toNat)).length:Int)=i+2+((tw (fun c => !decide (c=39)) (l.drop (i+2).toNat)).length:Int)+1 by omega]
 ·have hx':¬pre (l.drop i.toNat) [120,39]=true:=fun hh=>hx ((Agg l i h).2 hh)
  rw [if_neg hx,if_neg hx']
  have cls:∀n:Fin 256,A4 (n.val:Int)=if isUp (n.val:Int) then 1 else if isLo (n.val:Int) then 2 else if isDi (n.val:Int) then 3 else if(n.val:Int)=39 then 5 else if A4 (n.val:Int)=7 then 7 else if A4 (n.val:Int)=6 then 6 else if A4 (n.val:Int)=4 then 4 else 0:=by decide +kernel
  have hcls:=of256 (p:=fun c=>A4 c=if isUp c then 1 else if isLo c then 2 else if isDi c then 3 else if c=39 then 5 else if A4 c=7 then 7 else if A4 c=6 then 6 else if A4 c=4 then 4 else 0) cls (byt l i) hb
  have h' : 0≤i∧i≤l.length:=by omega
  cases hu:isUp (byt l i) with
  |true =>
   rw [hu] at hcls
   have h1:A4 (byt l i)=1:=hcls
   rw [if_pos rfl,if_pos h1,A2m]
   exact Aga up_wd l i h' (fun x j=>if wordF x then some ((1:Int),x,(0:Int),j) else none) (fun x j hn=>by
    by_cases hw:wordF x=true
    ·exact word_up hw
    ·simp [hw] at hn)
  |false =>
   rw [hu] at hcls
   rw [if_neg (by simp)]
   cases hlo:isLo (byt l i) with
   |true =>
    rw [hlo] at hcls
    have h1:A4 (byt l i)=2:=hcls
    rw [if_pos rfl,if_neg (show ¬A4 (byt l i)=1 by omega),if_pos h1,A2m]
    have:=Aga in_wd l i h' (fun x j=>if nameF x then some ((2:Int),x,(0:Int),j) else none) (fun x j hn=>by
     by_cases hw:nameF x=true
     ·exact Bg9 hw
     ·simp [hw] at hn)
    rw [this,name_eq]
   |false =>
    rw [hlo] at hcls
    rw [if_neg (by simp)]
    cases hd:isDi (byt l i) with
    |true =>
     rw [hd] at hcls
     have h1:A4 (byt l i)=3:=hcls
     rw [if_pos rfl,if_neg (show ¬A4 (byt l i)=1 by omega),if_neg (show ¬A4 (byt l i)=2 by omega),if_pos h1]
     have hrg:=runTo_gt h hd
     have hne:cut l i (runTo isDi l i)≠[]:=by
      have:=cut_length l i (runTo isDi l i) (by have:=runTo_range isDi l i h';omega)
      intro h0
      rw [h0] at this
      simp at this
      omega
     have hall:(cut l i (runTo isDi l i)).all (fun b=>isDi b.toNat)=true:=by rw [Pp _ _ _ h.1];exact Bet _ _
     refine(Bl4 hne hall _ _).trans ?_
     exact Aga (fun b hb=>in_wd b (di_in b hb)) l i h' Ajv (fun x j hn=>Ax8 hn)
    |false =>
     rw [hd] at hcls
     rw [if_neg (by simp)]
     by_cases hq:byt l i=39
     ·have h1:A4 (byt l i)=5:=by rw [hq];decide +kernel
      rw [if_pos hq,if_neg (show ¬A4 (byt l i)=1 by omega),if_neg (show ¬A4 (byt l i)=2 by omega),if_neg (show ¬A4 (byt l i)=3 by omega),if_pos h1]
      have hqi:=qGo_in _ (l.drop (i+1).toNat) [] (i+1) (Zn1 _) (by omega)
      simp only
      generalize qGo (l.drop (i+1).toNat) [] (i+1)=q at *
      unfold T3
      cases hr:rightF 4 0 q.1 with
      |true =>
       by_cases hn:q.2<0
       ·have:q.2 = -1:=by omega
        simp [this]
       ·have:¬q.2 = -1:=by omega
        simp [this,hn]
      |false=>simp
     ·have h1:¬A4 (byt l i)=1∧¬A4 (byt l i)=2∧¬A4 (byt l i)=3∧¬A4 (byt l i)=5:=by
       simp only [Zj2,if_false,if_neg hq] at hcls
       split at hcls
       ·omega
       ·split at hcls
        ·omega
        ·split at hcls<;>omega
      rw [if_neg hq,if_neg h1.1,if_neg h1.2.1,if_neg h1.2.2.1,if_neg h1.2.2.2]
      exact Bdj l i h
theorem Akr(l:List UInt8):∀(f:Nat) (i:Int) (acc:List Tok),0≤i→allGo f l i acc=Ni f l i acc
 |0,_,_,_=>rfl
 |f+1,i,acc,hi=>by
  simp only [allGo,Ni]
  by_cases he:(l.length:Int)≤i
  ·rw [if_pos he,if_pos he]
  ·rw [if_neg he,if_neg he,A9y _ (U1 l i)]
   by_cases hb:A4 (byt l i)=6
   ·rw [if_pos (by simp [hb]),if_pos hb]
    exact Akr l f _ _ (by omega)
   ·rw [if_neg (by simp [hb]),if_neg hb,Bmc l i (by omega)]
    cases ht:Atg l i with
    |none=>rfl
    |some r =>
     obtain⟨k,s,n,e⟩:=r
     have:=Au0 (by omega) ht
     exact Akr l f _ _ (by omega)
theorem Bfy(l:List UInt8):allF l=Bi9 l:=Akr l _ 0 [] (by omega)
def qS:List UInt8→List UInt8→Option (List UInt8×Nat)
 |[],_=>none
 |[c],acc=>if c=39 then some (acc,1) else none
 |c::d::r,acc=>if c=39 then(if d=39 then(qS r (acc++[39])).map fun x=>(x.1,x.2+2) else some (acc,1)) else(qS (d::r) (acc++[c])).map fun x=>(x.1,x.2+1)
theorem Ayu:∀(f:Nat) (l acc:List UInt8) (i:Int),l.length≤f→qGo l acc i=match qS l acc with
  |none=>([], -1)
  |some (s,n)=>(s,i+(n:Int))
 |_,[],_,_,_=>rfl
 |_,[c],acc,i,_=>by
  by_cases hc:c=39<;>simp [qGo,qS,hc]
 |0,c::d::r,_,_,h=>by simp at h
 |f+1,c::d::r,acc,i,h=>by
  simp only [Zf1] at h
  rw [qGo,qS]
  by_cases hc:c=39
  ·rw [if_pos hc,if_pos hc]
   by_cases hd:d=39
   ·rw [if_pos hd,if_pos hd,Ayu f r (acc++[39]) (i+2) (by omega)]
    cases qS r (acc++[39]) with
    |none=>rfl
    |some x=>simp;omega
   ·rw [if_neg hd,if_neg hd];rfl
  ·rw [if_neg hc,if_neg hc,Ayu f (d::r) (acc++[c]) (i+1) (by simp;omega)]
   cases qS (d::r) (acc++[c]) with
   |none=>rfl
   |some x=>simp;omega
theorem Q0:∀(f:Nat) (l acc s:List UInt8) (n:Nat),l.length≤f→qS l acc=some (s,n)→1≤n∧n≤l.length
 |_,[],_,_,_,_,h=>by cases h
 |_,[c],acc,s,n,_,h=>by
  by_cases hc:c=39<;>simp [qS,hc] at h
  simp [←h.2]
 |0,c::d::r,_,_,_,h,_=>by simp at h
 |f+1,c::d::r,acc,s,n,hl,h=>by
  simp only [Zf1] at hl ⊢
  rw [qS] at h
  by_cases hc:c=39
  ·rw [if_pos hc] at h
   by_cases hd:d=39
   ·rw [if_pos hd] at h
    obtain⟨⟨s',n'⟩,hq,he⟩:=Option.map_eq_some_iff.1 h
    have:=Q0 f r (acc++[39]) s' n' (by omega) hq
    simp at he;omega
   ·rw [if_neg hd] at h
    simp at h;omega
  ·rw [if_neg hc] at h
   obtain⟨⟨s',n'⟩,hq,he⟩:=Option.map_eq_some_iff.1 h
   have:=Q0 f (d::r) (acc++[c]) s' n' (by simp;omega) hq
   simp at he this;omega
theorem Azy:∀(f:Nat) (l acc s:List UInt8) (n:Nat) (t:List UInt8),l.length≤f→(∀c b,t=c::b→c≠39)→qS l acc=some (s,n)→qS (l++t) acc=some (s,n)
 |_,[],_,_,_,_,_,_,h=>by cases h
 |_,[c],acc,s,n,t,_,ht,h=>by
  by_cases hc:c=39<;>simp [qS,hc] at h
  cases t with
  |nil=>simp [qS,hc,h]
  |cons d t=>simp [qS,hc,ht d t rfl,h]
 |0,c::d::r,_,_,_,_,h,_,_=>by simp at h
 |f+1,c::d::r,acc,s,n,t,hl,ht,h=>by
  simp only [Zf1] at hl
  simp only [Zb2]
  rw [qS] at h ⊢
  by_cases hc:c=39
  ·rw [if_pos hc] at h ⊢
   by_cases hd:d=39
   ·rw [if_pos hd] at h ⊢
    obtain⟨⟨s',n'⟩,hq,he⟩:=Option.map_eq_some_iff.1 h
    rw [Azy f r (acc++[39]) s' n' t (by omega) ht hq]
    exact congrArg some he
   ·rw [if_neg hd] at h ⊢
    exact h
  ·rw [if_neg hc] at h ⊢
   obtain⟨⟨s',n'⟩,hq,he⟩:=Option.map_eq_some_iff.1 h
   have:=Azy f (d::r) (acc++[c]) s' n' t (by simp;omega) ht hq
   simp only [Zb2] at this
   rw [this]
   exact congrArg some he
theorem Aqf:∀(f:Nat) (l acc s:List UInt8) (n j:Nat),l.length≤f→n≤j→qS l acc=some (s,n)→qS (l.take j) acc=some (s,n)
 |_,[],_,_,_,_,_,_,h=>by cases h
 |_,[c],acc,s,n,j,_,hj,h=>by
  have hl:=Q0 1 [c] acc s n (by simp) h
  obtain⟨j,rfl⟩:∃i,j=i+1:=⟨j-1,by omega⟩
  simpa using h
 |0,c::d::r,_,_,_,_,h,_,_=>by simp at h
 |f+1,c::d::r,acc,s,n,j,hl,hj,h=>by
  have hn:=Q0 (f+1) (c::d::r) acc s n hl h
  simp only [Zf1] at hl
  obtain⟨j,rfl⟩:∃i,j=i+1:=⟨j-1,by omega⟩
  rw [qS] at h
  by_cases hc:c=39
  ·rw [if_pos hc] at h
   by_cases hd:d=39
   ·rw [if_pos hd] at h
    obtain⟨⟨s',n'⟩,hq,he⟩:=Option.map_eq_some_iff.1 h
    simp only [Zp1] at he
    obtain⟨j,rfl⟩:∃i,j=i+1:=⟨j-1,by omega⟩
    simp only [List.take_succ_cons]
    rw [qS,if_pos hc,if_pos hd,Aqf f r (acc++[39]) s' n' j (by omega) (by omega) hq]
    simp [he]
   ·rw [if_neg hd] at h
    cases j with
    |zero=>simp [qS,hc];simpa using h
    |succ j=>simp only [List.take_succ_cons];rw [qS,if_pos hc,if_neg hd];exact h
  ·rw [if_neg hc] at h
   obtain⟨⟨s',n'⟩,hq,he⟩:=Option.map_eq_some_iff.1 h
   simp only [Zp1] at he
   have hn':=Q0 f (d::r) (acc++[c]) s' n' (by simp;omega) hq
   obtain⟨j,rfl⟩:∃i,j=i+1:=⟨j-1,by omega⟩
   have:=Aqf f (d::r) (acc++[c]) s' n' (j+1) (by simp;omega) (by omega) hq
   simp only [List.take_succ_cons] at this ⊢
   rw [qS,if_neg hc,this]
   simp [he]
theorem tw_app{p:Int→Bool}(t:List UInt8) (ht:∀c b,t=c::b→p c.toNat=false):∀m:List UInt8,tw p (m++t)=tw p m
 |[]=>by
  cases t with
  |nil=>rfl
  |cons c t=>simp [tw,ht c t rfl]
 |x::m=>by
  have ih:=tw_app t ht m
  unfold tw at *
  cases hp:p x.toNat with
  |true=>simp [hp];exact ih
  |false=>simp [hp]
theorem Ahl{p:Int→Bool}:∀(m:List UInt8) (j:Nat),tw p (m.take j)=(tw p m).take j
 |[],j=>by simp [tw]
 |x::m,0=>by simp [tw]
 |x::m,j+1=>by
  have ih:=Ahl (p:=p) m j
  unfold tw at *
  cases hp:p x.toNat with
  |true=>simp [hp];exact ih
  |false=>simp [hp]
def nq(c:Int):Bool := !decide (c=39)
def twoS(m:List UInt8):Bool:=pre m [60,62]||pre m [60,61]||pre m [62,61]
def tokS(m:List UInt8):Option (Int×List UInt8×Int×Nat) :=
 if pre m [120,39] then
  (if(tw nq (m.drop 2)).length=(m.drop 2).length then none else
  match(if(tw nq (m.drop 2)).length % 2=0 then unGo (tw nq (m.drop 2)) [] else none) with
  |none=>none
  |some b=>if 1000<(b.length:Int) then none else some (5,b,0,(tw nq (m.drop 2)).length+3))
 else if A4 (byt m 0)=1 then(if wordF (tw isWd m) then some (1,tw isWd m,0,(tw isWd m).length) else none)
 else if A4 (byt m 0)=2 then(if rnameF (tw isWd m) then some (2,tw isWd m,0,(tw isWd m).length) else none)
 else if A4 (byt m 0)=3 then(if 0≤rnumF (tw isWd m) then some (3,tw isWd m,rnumF (tw isWd m),(tw isWd m).length) else none)
 else if A4 (byt m 0)=5 then
  match qS (m.drop 1) [] with
  |none=>none
  |some (s,n)=>if T3 4 0 s=0 then some (4,s,0,n+1) else none
 else if A4 (byt m 0)=7 then(if twoS m then some (6,m.take 2,0,2) else some (6,m.take 1,0,1))
 else none
theorem Bbf(l:List UInt8) (i:Int) (h : 0≤i∧i<l.length):Atg l i=(tokS (l.drop i.toNat)).map fun x=>(x.1,x.2.1,x.2.2.1,i+(x.2.2.2:Int)):=by
 have hb0:byt (l.drop i.toNat) 0=byt l i:=by simpa using Sd l i h.1 0
 have hdl:(l.drop i.toNat).length=l.length-i.toNat:=Za2
 have hd1:(l.drop i.toNat).drop 1=l.drop (i+1).toNat:=by rw [List.drop_drop];congr 1;omega
 have hd2:(l.drop i.toNat).drop 2=l.drop (i+2).toNat:=by rw [List.drop_drop];congr 1;omega
 unfold Atg tokS
 by_cases hx:Ah4 l i
 ·rw [if_pos hx,if_pos ((Agg l i h).1 hx)]
  have hr1:runTo isWd l i=i+1:=by
   rw [Fh,←Pp _ _ _ h.1,hx.1];rfl
  have hlt:i+1<l.length:=by have:=hx.2.1;omega
  have hdl2:(l.drop (i+2).toNat).length=l.length-(i+2).toNat:=Za2
  rw [hr1]
  simp only
  rw [show i+1+1=i+2 by omega,hd2,Pp _ _ _ (by omega),Fh]
  change (if i+2+((tw nq (l.drop (i+2).toNat)).length:Int)=l.length then none else match(if(tw nq (l.drop (i+2).toNat)).length % 2=0 then unGo (tw nq (l.drop (i+2).toNat)) [] else none) with|none=>none|some b=>if 1000<(b.length:Int) then none else some ((5:Int),b,(0:Int),i+2+((tw nq (l.drop (i+2).toNat)).length:Int)+1))=_
  generalize tw nq (l.drop (i+2).toNat)=r at *
  by_cases hf:r.length=(l.drop (i+2).toNat).length
  ·rw [if_pos (show i+2+(r.length:Int)=l.length by omega),if_pos hf];rfl
  ·rw [if_neg (show ¬i+2+(r.length:Int)=l.length by omega),if_neg hf]
   generalize (if r.length % 2=0 then unGo r [] else none)=u
   cases u with
   |none=>rfl
   |some b =>
    by_cases hbig : 1000<(b.length:Int)
    ·simp only [if_pos hbig];rfl
    ·simp only [if_neg hbig,Zl2,Za1,Zp1,true_and]
     omega
 ·rw [if_neg hx,if_neg (fun hh=>hx ((Agg l i h).2 hh)),hb0,Pp _ _ _ h.1,Fh]
  split
  ·split<;>rfl
  ·split
   ·split<;>rfl
   ·split
    ·split<;>rfl
    ·split
     ·rw [hd1,Ayu _ _ _ _ (Zn1 _)]
      cases qS (l.drop (i+1).toNat) [] with
      |none=>rfl
      |some x =>
       obtain⟨s,n⟩:=x
       by_cases hk:T3 4 0 s=0
       ·simp only [if_pos hk]
        rw [if_pos ⟨by omega,hk⟩]
        simp;omega
       ·simp [hk]
     ·split
      ·have htwo:Ak9 l i↔twoS (l.drop i.toNat)=true:=by
        simp only [twoS,Zd2,A1k l i h,Ak9]
        constructor
        ·rintro⟨h1,h2|h2|h2⟩
         ·exact .inl (.inl ⟨h1,h2⟩)
         ·exact .inl (.inr ⟨h1,h2⟩)
         ·exact .inr ⟨h1,h2⟩
        ·rintro((⟨h1,h2⟩|⟨h1,h2⟩)|⟨h1,h2⟩)
         ·exact⟨h1,.inl h2⟩
         ·exact⟨h1,.inr (.inl h2)⟩
         ·exact⟨h1,.inr (.inr h2)⟩
       have hc:∀k:Nat,cut l i (i+k)=(l.drop i.toNat).take k:=fun k=>by
        unfold cut;congr 1;omega
       have h1:=hc 1
       have h2:=hc 2
       by_cases ht:Ak9 l i
       ·rw [if_pos ht,if_pos (htwo.1 ht)]
        simp only [Zl2]
        rw [←h2];rfl
       ·rw [if_neg ht,if_neg (fun hh=>ht (htwo.2 hh))]
        simp only [Zl2]
        rw [←h1];rfl
      ·rfl
theorem Abg{m x:List UInt8}{j:Nat}(h:pre (m.take j) x=true):pre m x=true:=by
 simp only [pre,Zb1,Zg1,List.length_take,List.take_take] at h ⊢
 have h2:=h.2
 rw [show min x.length j=x.length by omega] at h2
 exact⟨by omega,h2⟩
theorem U3{m x:List UInt8}{j:Nat}(h:pre m x=true) (hj:x.length≤j):pre (m.take j) x=true:=by
 simp only [pre,Zb1,Zg1,List.length_take,List.take_take] at h ⊢
 refine⟨by omega,?_⟩
 rw [show min x.length j=x.length by omega]
 exact h.2
theorem Aux{m:List UInt8}{j:Nat}(h : 1≤j):byt (m.take j) 0=byt m 0:=by
 unfold byt
 simp [List.getD_eq_getElem?_getD,show 0<j by omega]
theorem A5b{m:List UInt8}{j:Nat}(h:twoS (m.take j)=true):twoS m=true:=by
 simp only [twoS,Zd2] at h ⊢
 exact h.imp (Or.imp Abg Abg) Abg
theorem Aww{m:List UInt8}{j:Nat}(h:twoS m=true) (hj : 2≤j):twoS (m.take j)=true:=by
 simp only [twoS,Zd2] at h ⊢
 exact h.imp (Or.imp (fun h=>U3 h hj) (fun h=>U3 h hj)) (fun h=>U3 h hj)
theorem tokS_len{m:List UInt8}{k:Int}{s:List UInt8}{n:Int}{e:Nat}(h:tokS m=some (k,s,n,e)) : 1≤e∧e≤m.length:=by
 cases m with
 |nil=>exact absurd (h.symm.trans (show tokS []=none by decide +kernel)) (by simp)
 |cons c m =>
  have h0:(0:Int)≤0∧(0:Int)<((c::m).length:Int):=by simp
  have hr:=Bbf (c::m) 0 h0
  simp only [Int.toNat_zero,Zq1,h,Zl2] at hr
  have:=Au0 h0 hr
  omega
theorem A5c{m:List UInt8}{k:Int}{s:List UInt8}{n:Int}{e j:Nat}(h:tokS m=some (k,s,n,e)) (hj:e≤j):tokS (m.take j)=some (k,s,n,e):=by
 have hlen:=tokS_len h
 have hb:=Aux (m:=m) (j:=j) (by omega)
 have htw:∀p:Int→Bool,(tw p m).length≤j→tw p (m.take j)=tw p m:=fun p hp=>by
  rw [Ahl,List.take_of_length_le hp]
 unfold tokS at h ⊢
 by_cases hx:pre m [120,39]=true
 ·rw [if_pos hx] at h
  have e3:∀r:List UInt8,(if r.length=(m.drop 2).length then none else match(if r.length % 2=0 then unGo r [] else none) with|none=>none|some b=>if 1000<(b.length:Int) then none else some ((5:Int),b,(0:Int),r.length+3))=some (k,s,n,e)→e=r.length+3∧r.length≠(m.drop 2).length:=by
   intro r hr
   split at hr
   ·cases hr
   ·rename_i hne
    split at hr
    ·cases hr
    ·split at hr
     ·cases hr
     ·simp only [Za1,Zp1] at hr
      exact⟨hr.2.2.2.symm,hne⟩
  obtain⟨he,hne⟩:=e3 _ h
  have hdt:(m.take j).drop 2=(m.drop 2).take (j-2):=by rw [List.drop_take]
  have hq:tw nq ((m.take j).drop 2)=tw nq (m.drop 2):=by
   rw [hdt,Ahl,List.take_of_length_le (by omega)]
  have hl:=tw_len nq (m.drop 2)
  rw [if_pos (U3 hx (by simp;omega)),hq]
  have hne':¬(tw nq (m.drop 2)).length=((m.take j).drop 2).length:=by
   rw [hdt,List.length_take];omega
  rw [if_neg hne']
  rw [if_neg hne] at h
  exact h
 ·rw [if_neg hx] at h
  rw [if_neg (fun hh=>hx (Abg hh)),hb]
  have key:∀(b:Bool) (kk vv:Int),(if b=true then some (kk,tw isWd m,vv,(tw isWd m).length) else none)=some (k,s,n,e)→tw isWd (m.take j)=tw isWd m:=by
   intro b kk vv hh
   cases b
   ·cases hh
   ·simp only [if_true,Za1,Zp1] at hh
    exact htw isWd (by omega)
  split
  ·rename_i h1;rw [if_pos h1] at h;rw [key _ _ _ h];exact h
  ·rename_i h1;rw [if_neg h1] at h
   split
   ·rename_i h2;rw [if_pos h2] at h;rw [key _ _ _ h];exact h
   ·rename_i h2;rw [if_neg h2] at h
    split
    ·rename_i h3;rw [if_pos h3] at h
     have:tw isWd (m.take j)=tw isWd m:=by
      split at h
      ·simp only [Za1,Zp1] at h
       exact htw isWd (by omega)
      ·cases h
     rw [this];exact h
    ·rename_i h3;rw [if_neg h3] at h
     split
     ·rename_i h5;rw [if_pos h5] at h
      rw [List.drop_take]
      cases hq:qS (m.drop 1) [] with
      |none=>rw [hq] at h;cases h
      |some x =>
       obtain⟨s',n'⟩:=x
       rw [hq] at h
       have hle:n'≤j-1:=by
        simp only at h
        split at h
        ·simp only [Za1,Zp1] at h;omega
        ·cases h
       rw [Aqf _ _ _ s' n' (j-1) (Zn1 _) hle hq]
       exact h
     ·rename_i h5;rw [if_neg h5] at h
      split
      ·rename_i h7;rw [if_pos h7] at h
       by_cases h2':twoS m=true
       ·rw [if_pos h2'] at h
        have : 2≤j:=by simp only [Za1,Zp1] at h;omega
        rw [if_pos (Aww h2' this),List.take_take,show min 2 j=2 by omega]
        exact h
       ·rw [if_neg h2'] at h
        rw [if_neg (fun hh=>h2' (A5b hh)),List.take_take,show min 1 j=1 by omega]
        exact h
      ·rename_i h7;rw [if_neg h7] at h;exact h
theorem Aul:∀n:Fin 256,A4 (n.val:Int)=6→isWd (n.val:Int)=false∧(n.val:Int)≠39∧(n.val:Int)≠61∧(n.val:Int)≠62:=by decide +kernel
theorem A4g{c:UInt8}(h:A4 c.toNat=6):isWd c.toNat=false∧c≠39∧c≠61∧c≠62:=by
 have:=of256 (p:=fun c=>A4 c=6→isWd c=false∧c≠39∧c≠61∧c≠62) Aul c.toNat (u8_range c) h
 refine⟨this.1,?_,?_,?_⟩
 ·rintro rfl;exact this.2.1 rfl
 ·rintro rfl;exact this.2.2.1 rfl
 ·rintro rfl;exact this.2.2.2 rfl
theorem Arf{m:List UInt8}(hm:m≠[]) (c:UInt8) (b:List UInt8) {x y:UInt8}(h:c≠y):pre (m++c::b) [x,y]=pre m [x,y]:=by
 match m with
 |[]=>exact absurd rfl hm
 |[a] =>
  have:pre [a] [x,y]=false:=by simp [pre]
  rw [this]
  simp [pre,h]
 |a::a'::r=>simp [pre]
theorem Bc0{m:List UInt8}(hm:m≠[]) {c:UInt8}(b:List UInt8) (hc:A4 c.toNat=6):twoS (m++c::b)=twoS m:=by
 have h:=A4g hc
 simp only [twoS,Arf hm c b h.2.2.1,Arf hm c b h.2.2.2]
theorem byt_app{m:List UInt8}(hm:m≠[]) (t:List UInt8):byt (m++t) 0=byt m 0:=by
 cases m with
 |nil=>exact absurd rfl hm
 |cons a m=>rfl
def Bep(m:List UInt8):Prop:=byt m 0=39∨pre m [120,39]=true
theorem Bm6{c:Int}(h:A4 c=5):c=39:=by
 unfold A4 at h
 split at h; · omega
 split at h; · omega
 split at h; · omega
 split at h; · omega
 split at h; · assumption
 split at h; · omega
 split at h<;>omega
theorem Ajo{m:List UInt8}(hm:m≠[]) {c:UInt8}(b:List UInt8) (hc:A4 c.toNat=6):(tokS m≠none∨¬Bep m)→tokS (m++c::b)=tokS m:=by
 intro hor
 have hbl:=A4g hc
 have htw:tw isWd (m++c::b)=tw isWd m:=tw_app _ (fun d t hd=>by cases hd;exact hbl.1) m
 unfold tokS at hor ⊢
 rw [Arf hm c b hbl.2.1,htw,byt_app hm,Bc0 hm b hc]
 by_cases hx:pre m [120,39]=true
 ·rw [if_pos hx] at hor
  rw [if_pos hx,if_pos hx]
  have h2 : 2≤m.length:=by
   simp only [pre,Zb1,Zg1,Zf1,Zi1] at hx;omega
  have hd:(m++c::b).drop 2=m.drop 2++c::b:=by rw [List.drop_append_of_le_length h2]
  rcases hor with hor|hor
  ·have hne:¬(tw nq (m.drop 2)).length=(m.drop 2).length:=fun hh=>by rw [if_pos hh] at hor;exact hor rfl
   have hfull:∃r1 d r2,m.drop 2=r1++d::r2∧nq d.toNat=false:=by
    have hsp:∀x:List UInt8,(tw nq x).length≠x.length→∃r1 d r2,x=r1++d::r2∧nq d.toNat=false:=by
     intro x
     induction x with
     |nil=>intro h;simp [tw] at h
     |cons y x ih =>
      intro hne
      cases hy:nq y.toNat with
      |false=>exact⟨[],y,x,rfl,hy⟩
      |true =>
       have:(tw nq x).length≠x.length:=by
        unfold tw at hne ⊢
        simp [hy] at hne
        exact hne
       obtain⟨r1,d,r2,h1,h2⟩:=ih this
       exact⟨y::r1,d,r2,by rw [h1];rfl,h2⟩
    exact hsp _ hne
   have htq:tw nq ((m++c::b).drop 2)=tw nq (m.drop 2):=by
    obtain⟨r1,d,r2,h1,h2'⟩:=hfull
    rw [hd,h1,Zj1,Zb2]
    rw [tw_app (p:=nq) (d::(r2++c::b)) (fun x t hx=>by cases hx;exact h2') r1,tw_app (p:=nq) (d::r2) (fun x t hx=>by cases hx;exact h2') r1]
   have hl:=tw_len nq (m.drop 2)
   have hne':¬(tw nq (m.drop 2)).length=((m++c::b).drop 2).length:=by
    rw [hd,Zh1];omega
   rw [htq,if_neg hne',if_neg hne]
  ·exact absurd (.inr hx) hor
 ·rw [if_neg hx] at hor
  rw [if_neg hx,if_neg hx]
  have ht1:(m++c::b).take 1=m.take 1:=by
   cases m with
   |nil=>exact absurd rfl hm
   |cons a m=>rfl
  have ht2:twoS m=true→(m++c::b).take 2=m.take 2:=fun h2=>by
   have : 2≤m.length:=by
    simp only [twoS,Zd2,pre,Zb1,Zg1,Zf1,Zi1] at h2
    omega
   rw [List.take_append_of_le_length this]
  by_cases h1:A4 (byt m 0)=1
  ·rw [if_pos h1,if_pos h1]
  ·by_cases h2:A4 (byt m 0)=2
   ·rw [if_neg h1,if_neg h1,if_pos h2,if_pos h2]
   ·by_cases h3:A4 (byt m 0)=3
    ·rw [if_neg h1,if_neg h1,if_neg h2,if_neg h2,if_pos h3,if_pos h3]
    ·rw [if_neg h1,if_neg h1,if_neg h2,if_neg h2,if_neg h3,if_neg h3]
     rw [if_neg h1,if_neg h2,if_neg h3] at hor
     by_cases h5:A4 (byt m 0)=5
     ·rw [if_pos h5] at hor
      rw [if_pos h5,if_pos h5]
      rcases hor with hor|hor
      ·have hd:(m++c::b).drop 1=m.drop 1++c::b:=by
        cases m with
        |nil=>exact absurd rfl hm
        |cons a m=>rfl
       cases hq:qS (m.drop 1) [] with
       |none=>rw [hq] at hor;exact absurd rfl hor
       |some x =>
        rw [hd,Azy _ _ _ x.1 x.2 (c::b) (Zn1 _) (fun d t hd=>by cases hd;exact hbl.2.1) hq]
      ·exact absurd (.inl (Bm6 h5)) hor
     ·rw [if_neg h5,if_neg h5]
      by_cases h7:A4 (byt m 0)=7
      ·rw [if_pos h7,if_pos h7]
       by_cases h2':twoS m=true
       ·rw [if_pos h2',if_pos h2',ht2 h2']
       ·rw [if_neg h2',if_neg h2',ht1]
      ·rw [if_neg h7,if_neg h7]
inductive Sc:List UInt8→Int→List Tok→Prop where
 |nil {p:Int}:Sc [] p []
 |blank {c:UInt8}{r:List UInt8}{p:Int}{ts:List Tok}:A4 c.toNat=6→Sc r (p+1) ts→Sc (c::r) p ts
 |tok {m:List UInt8}{p:Int}{k:Int}{s:List UInt8}{n:Int}{e:Nat}{ts:List Tok}:A4 (byt m 0)≠6→tokS m=some (k,s,n,e)→Sc (m.drop e) (p+e) ts→Sc m p (⟨k,p,s,n⟩::ts)
inductive Er:List UInt8→Int→Int→Prop where
 |blank {c:UInt8}{r:List UInt8}{p j:Int}:A4 c.toNat=6→Er r (p+1) j→Er (c::r) p j
 |tok {m:List UInt8}{p:Int}{k:Int}{s:List UInt8}{n:Int}{e:Nat}{j:Int}:A4 (byt m 0)≠6→tokS m=some (k,s,n,e)→Er (m.drop e) (p+e) j→Er m p j
 |bad {m:List UInt8}{p:Int}:m≠[]→A4 (byt m 0)≠6→tokS m=none→Er m p p
theorem Azj(l:List UInt8):∀(f:Nat) (i:Int) (acc:List Tok),0≤i∧i≤l.length→(l.length:Int)-i<f→match Ni f l i acc with
  |.ok ts=>∃us,ts=acc++us∧Sc (l.drop i.toNat) i us
  |.error j=>Er (l.drop i.toNat) i j
 |0,i,acc,h,hf=>by omega
 |f+1,i,acc,h,hf=>by
  simp only [Ni]
  by_cases he:(l.length:Int)≤i
  ·rw [if_pos he]
   exact⟨[],by simp,by rw [Zk1 (by omega)];exact .nil⟩
  ·rw [if_neg he]
   have hb0:byt (l.drop i.toNat) 0=byt l i:=by simpa using Sd l i h.1 0
   have hcons:=H9 l i (by omega)
   by_cases hb:A4 (byt l i)=6
   ·rw [if_pos hb]
    have ih:=Azj l f (i+1) acc (by omega) (by omega)
    have hb':A4 ((l.getD i.toNat 0).toNat:Int)=6:=hb
    cases hr:Ni f l (i+1) acc with
    |ok ts =>
     rw [hr] at ih
     obtain⟨us,h1,h2⟩:=ih
     exact⟨us,h1,by rw [hcons];exact .blank hb' h2⟩
    |error j =>
     rw [hr] at ih
     show Er _ _ _
     rw [hcons]
     exact .blank hb' ih
   ·rw [if_neg hb]
    have hS:=Bbf l i (by omega)
    cases hS':tokS (l.drop i.toNat) with
    |none =>
     rw [hS'] at hS
     rw [hS]
     exact .bad (by rw [hcons];simp) (by rw [hb0];exact hb) hS'
    |some x =>
     obtain⟨k,s,n,e⟩:=x
     rw [hS'] at hS
     simp only [Zl2] at hS
     have hlen:=tokS_len hS'
     have hdl:(l.drop i.toNat).length=l.length-i.toNat:=Za2
     rw [hS]
     simp only
     have ih:=Azj l f (i+(e:Int)) (acc++[⟨k,i,s,n⟩]) (by omega) (by omega)
     have hdd:l.drop (i+(e:Int)).toNat=(l.drop i.toNat).drop e:=by rw [List.drop_drop];congr 1;omega
     rw [hdd] at ih
     cases hr:Ni f l (i+(e:Int)) (acc++[⟨k,i,s,n⟩]) with
     |ok ts =>
      rw [hr] at ih
      obtain⟨us,h1,h2⟩:=ih
      exact⟨⟨k,i,s,n⟩::us,by rw [h1];simp,.tok (by rw [hb0];exact hb) hS' h2⟩
     |error j =>
      rw [hr] at ih
      exact .tok (by rw [hb0];exact hb) hS' ih
theorem Zw:tokS []=none:=by decide +kernel
theorem Sc.det{m:List UInt8}{p:Int}{ts:List Tok}(h:Sc m p ts):∀{us:List Tok},Sc m p us→ts=us:=by
 induction h with
 |nil =>
  intro us h
  cases h with
  |nil=>rfl
  |tok _ h2 _=>rw [Zw] at h2;cases h2
 |blank hc _ ih =>
  intro us h
  cases h with
  |blank _ h2=>exact ih h2
  |tok h1 _ _=>exact absurd hc h1
 |tok h1 h2 _ ih =>
  intro us h
  cases h with
  |nil=>rw [Zw] at h2;cases h2
  |blank hc _=>exact absurd hc h1
  |tok _ h3 h4 =>
   rw [h2] at h3
   cases h3
   rw [ih h4]
theorem Sc.not_er{m:List UInt8}{p:Int}{ts:List Tok}(h:Sc m p ts):∀{j:Int},¬Er m p j:=by
 induction h with
 |nil =>
  intro j h
  cases h with
  |tok _ h2 _=>rw [Zw] at h2;cases h2
  |bad h _ _=>exact h rfl
 |blank hc _ ih =>
  intro j h
  cases h with
  |blank _ h2=>exact ih h2
  |tok h1 _ _=>exact absurd hc h1
  |bad _ h1 _=>exact absurd hc h1
 |tok h1 h2 _ ih =>
  intro j h
  cases h with
  |blank hc _=>exact absurd hc h1
  |tok _ h3 h4 =>
   rw [h2] at h3
   cases h3
   exact ih h4
  |bad _ _ h3=>rw [h2] at h3;cases h3
theorem Er.det{m:List UInt8}{p j:Int}(h:Er m p j):∀{i:Int},Er m p i→j=i:=by
 induction h with
 |blank hc _ ih =>
  intro i h
  cases h with
  |blank _ h2=>exact ih h2
  |tok h1 _ _=>exact absurd hc h1
  |bad _ h1 _=>exact absurd hc h1
 |tok h1 h2 _ ih =>
  intro i h
  cases h with
  |blank hc _=>exact absurd hc h1
  |tok _ h3 h4 =>
   rw [h2] at h3
   cases h3
   exact ih h4
  |bad _ _ h3=>rw [h2] at h3;cases h3
 |bad h0 h1 h2 =>
  intro i h
  cases h with
  |blank hc _=>exact absurd hc h1
  |tok _ h3 _=>rw [h2] at h3;cases h3
  |bad _ _ _=>rfl
theorem allF_sc(l:List UInt8):match allF l with
  |.ok ts=>Sc l 0 ts
  |.error j=>Er l 0 j:=by
 rw [Bfy,Bi9]
 have h:=Azj l (l.length+1) 0 [] (by omega) (by omega)
 cases hr:Ni (l.length+1) l 0 [] with
 |ok ts =>
  rw [hr] at h
  obtain⟨us,h1,h2⟩:=h
  simp only [Zf2] at h1
  subst h1
  simpa using h2
 |error j=>rw [hr] at h;simpa using h
theorem allF_of_sc{l:List UInt8}{ts:List Tok}(h:Sc l 0 ts):allF l = .ok ts:=by
 have h2:=allF_sc l
 cases hr:allF l with
 |ok us=>rw [hr] at h2;rw [h.det h2]
 |error j=>rw [hr] at h2;exact absurd h2 h.not_er
def Bjw(d:Int) (t:Tok):Tok:=⟨t.kind,t.pos+d,t.s,t.n⟩
theorem Sc.off{m:List UInt8}{p:Int}{ts:List Tok}(h:Sc m p ts) (d:Int):Sc m (p+d) (ts.map (Bjw d)):=by
 induction h with
 |nil=>exact .nil
 |blank hc _ ih=>exact .blank hc (by rw [show ∀x:Int,x+d+1=x+1+d from fun x=>by omega];exact ih)
 |tok h1 h2 _ ih=>exact .tok h1 h2 (by rw [show ∀x y:Int,x+d+y=x+y+d from fun x y=>by omega];exact ih)
theorem Er.off{m:List UInt8}{p j:Int}(h:Er m p j) (d:Int):Er m (p+d) (j+d):=by
 induction h with
 |blank hc _ ih=>exact .blank hc (by rw [show ∀x:Int,x+d+1=x+1+d from fun x=>by omega];exact ih)
 |tok h1 h2 _ ih=>exact .tok h1 h2 (by rw [show ∀x y:Int,x+d+y=x+y+d from fun x y=>by omega];exact ih)
 |bad h0 h1 h2=>exact .bad h0 h1 h2
theorem Alj{m:List UInt8}{x:Int×List UInt8×Int×Nat}(h:tokS m=some x):m≠[]:=by
 rintro rfl;rw [Zw] at h;cases h
theorem Sc.app{a:List UInt8}{p:Int}{ts:List Tok}(h:Sc a p ts) {c:UInt8}(hc:A4 c.toNat=6) (b:List UInt8):∀{us:List Tok},Sc b (p+a.length+1) us→Sc (a++c::b) p (ts++us):=by
 induction h with
 |nil=>intro us hb;exact .blank hc (by simpa using hb)
 |blank hx _ ih =>
  intro us hb
  refine .blank hx (ih ?_)
  rename_i r p _ _
  rw [show p+1+(r.length:Int)+1=p+((r.length+1:Nat):Int)+1 by omega]
  exact hb
 |tok h1 h2 _ ih =>
  intro us hb
  have hm:=Alj h2
  have hl:=tokS_len h2
  refine .tok (by rw [byt_app hm];exact h1) ((Ajo hm b hc (.inl (by rw [h2];simp))).trans h2) ?_
  rw [List.drop_append_of_le_length hl.2]
  refine ih ?_
  rename_i m p _ _ _ e _ _
  rw [Za2,show p+(e:Int)+((m.length-e:Nat):Int)+1=p+(m.length:Int)+1 by omega]
  exact hb
theorem Er.app{a:List UInt8}{p j:Int}(h:Er a p j) {c:UInt8}(hc:A4 c.toNat=6) (b:List UInt8):∃i:Nat,j=p+i∧i<a.length∧(Bep (a.drop i)∨Er (a++c::b) p j):=by
 induction h with
 |blank hx _ ih =>
  obtain⟨i,h1,h2,h3⟩:=ih
  refine⟨i+1,by omega,by simp;omega,?_⟩
  exact h3.imp (fun h=>h) (fun h =>.blank hx h)
 |tok h1 h2 _ ih =>
  obtain⟨i,h3,h4,h5⟩:=ih
  have hm:=Alj h2
  have hl:=tokS_len h2
  rename_i m p _ _ _ e _ _
  rw [Za2] at h4
  refine⟨e+i,by omega,by omega,?_⟩
  rw [List.drop_drop] at h5
  refine h5.imp (fun h=>h) (fun h =>?_)
  refine .tok (by rw [byt_app hm];exact h1) ((Ajo hm b hc (.inl (by rw [h2];simp))).trans h2) ?_
  rw [List.drop_append_of_le_length hl.2]
  exact h
 |bad h0 h1 h2 =>
  rename_i m p
  refine⟨0,by omega,List.length_pos_iff.2 h0,?_⟩
  by_cases ho:Bep m
  ·exact .inl ho
  ·right
   exact .bad (by simp) (by rw [byt_app h0];exact h1) ((Ajo h0 b hc (.inr ho)).trans h2)
theorem Sc.le{m:List UInt8}{p:Int}{ts:List Tok}(h:Sc m p ts):∀t,t∈ts→p≤t.pos:=by
 induction h with
 |nil=>intro t h;cases h
 |blank _ _ ih=>intro t h;have:=ih t h;omega
 |tok _ _ _ ih =>
  intro t h
  simp only [List.mem_cons] at h
  rcases h with rfl|h
  ·exact Int.le_refl _
  ·have:=ih t h;omega
theorem Sc.part{m:List UInt8}{p:Int}{ts:List Tok}(h:Sc m p ts):∀(k:Nat) (t:Tok),ts[k]? = some t→∃A:Nat,t.pos=p+A∧A<m.length∧Sc (m.take A) p (ts.take k)∧Sc (m.drop A) t.pos (ts.drop k):=by
 induction h with
 |nil=>intro k t h;simp at h
 |blank hc _ ih =>
  intro k t h
  obtain⟨A,h1,h2,h3,h4⟩:=ih k t h
  exact⟨A+1,by omega,by simp;omega,by rw [List.take_succ_cons];exact .blank hc h3,h4⟩
 |tok h1 h2 h3 ih =>
  intro k t h
  have hl:=tokS_len h2
  rename_i m p _ _ _ e _
  cases k with
  |zero =>
   simp only [List.getElem?_cons_zero,Za1] at h
   subst h
   exact⟨0,by simp,by omega,by simp;exact .nil,by simp;exact .tok h1 h2 h3⟩
  |succ k =>
   obtain⟨A,h4,h5,h6,h7⟩:=ih k t (by simpa using h)
   rw [Za2] at h5
   refine⟨e+A,by omega,by omega,?_,by rw [←List.drop_drop];exact h7⟩
   rw [List.take_succ_cons]
   refine .tok (by rw [Aux (by omega)];exact h1) (A5c h2 (by omega)) ?_
   rw [List.drop_take,show e+A-e=A by omega]
   exact h6
theorem Sc.next{m:List UInt8}{p:Int}{t:Tok}{ts:List Tok}(h:Sc m p (t::ts)) (ht:t.pos=p):∀u,u∈ts→p<u.pos:=by
 cases h with
 |blank hc h2=>have:=h2.le t (by simp);omega
 |tok _ h2 h3 =>
  intro u hu
  have:=h3.le u hu
  have:=tokS_len h2
  omega
end Go.Proofs.YthndhaolemgbdaaGreatDoor.Lp
namespace Go.Ax
theorem FnOk.ofIs{P:Program}{el:Ck→TypeId}{gl:Nat→Option Gv}{f:FuncId}{sa sr:List Sg}{F:FT sa sr}(he:Sx.Enters P f) (ho:Br 0 sr=[]) (h:∀x r,F x=some r→∃(us:List Value) (v:Value),(∀X vs,Reps X (Cp 0 sa x) vs→vs=us)∧Sx.Con P f us [] (fun _=>True) (Sx.Is v)∧∀X,BdL sa x→Rep X (L8 (Cp 0 sr r)) v):FnOk P el gl f sa sr F:=by
 refine⟨he,fun x r hx w M vs hM hgl hr =>?_⟩
 obtain⟨us,v,h1,h2,h3⟩:=h x r hx
 obtain rfl:=h1 _ _ hr
 refine(h2.calls w (fun _ _=>trivial)).mono ?_
 rintro en w' ⟨u,L',F',rfl,⟨rfl,_,_⟩,_,hb⟩
 refine⟨u,⟨fun _=>0,fun _=>Option.none⟩,rfl,Chg.of_below hb,fun p g o hp =>?_,fun p q g o o' hp =>?_,h3 _ (Z4 hr)⟩
 ·rw [ho] at hp;cases hp
 ·rw [ho] at hp;cases hp
end Go.Ax
namespace Go.Proofs.YthndhaolemgbdaaGreatDoor
open Go.Ax
open Go.Sx (Con S Is Amz Bjb)
end Go.Proofs.YthndhaolemgbdaaGreatDoor
namespace Go.Proofs.YthndhaolemgbdaaGreatDoor
open Go.Ax
def Aav:Sig:=⟨20,[(0,.str),(2,.bool),(5,.int .i64),(6,.int .i64)],[],[],0,0,0,[],[]⟩
abbrev Mm:=Str×Bool×Int×Int
def Ky{R:Type}(rec:Mm→Option R) (kx:Ex→Mm→Option R) (v:Mm):Option R:=match v with
 |(v,v1,v2,v3) =>
 cond (decide (v3<v2)) (
  chk (inb v3 v.length) (
  cond (decide ((bat v v3)<32)) (
   kx .ret (v,false,v2,v3)) (
   chk (inb v3 v.length) (
   cond (decide (126<(bat v v3))) (
    kx .ret (v,false,v2,v3)) (
    rec (v,v1,v2,(wr .i64 (v3+1)))))))) (
  kx (.exit 0) (v,v1,v2,v3))
def Aip(R:Type) (k:Nat):Px R:=pxO [] [] [(2,Ay k Aav (Ky))] []
def Aqm(k:Nat) (x:HV [.str]):Option (HV [.bool]):=match x with
 |s =>
 Al (fun rec=>Ky rec (fun e vz=>match vz with|(_,v5,_,_)=>match e with
  |.ret =>
  some v5
  |.exit 0 =>
  some true
  |_=>none)) k (s,false,(s.length:Int),0)
theorem Avl(k:Nat):FO 169 [.str] [.bool] (Aqm k):=fR (px:=Aip _ k) (n:=1) Tryz.func169 rfl (fun cx H=>by
 have h0:Lv cx (Aip (HV [.bool]) k):=lv H Af Ab Aa
 have hlvisible_0:=lO H h0 (b:=lp Tryz.f169 0) (k:=k) (n:=0) (s:=Aav) (step:=Ky) (fun _ _ _ (_,_,_,_)=>by kernel_rfl) Ak
 exact⟨h0,(B7 Ak hlvisible_0)⟩) fun _=>by kernel_rfl
def vis(b:UInt8):Bool:=decide (32≤b.toNat)&&decide (b.toNat≤126)
def Jm(s:Str):Bool:=s.all vis
def Ab4:FT [.str] [.bool]:=fun x=>some (Jm x)
theorem Aa4{R:Type}{kx:Ex→Mm→Option R}{s:Str}{a b:Option R}(hs:ln s.length) (h1:∀r j,kx .ret (s,false,r,j)=a) (h2:∀q r j,kx (.exit 0) (s,q,r,j)=b):∀(k i:Nat) q,i≤s.length→s.length-i<k→Al (fun rec=>Ky rec kx) k (s,q,(s.length:Int),(i:Int))=cond ((s.drop i).all vis) b a
 |0,i,q,_,h=>by omega
 |k+1,i,q,hi,h=>by
  rw [Bh]
  by_cases hl:i<s.length
  ·have ih:=Aa4 hs h1 h2 k (i+1) q (by omega) (by omega)
   simp only [Ky,A3 hl hs,ih,h1,Av hl,Dn hl,Be hl,Zv1,chk,Ae,Bool.cond_decide]
   rw [if_pos (by omega)]
   simp only [vis]
   split
   ·rw [Zd1 (by omega)];rfl
   ·split
    ·rw [Ze1 (by omega),Zd1 (by omega)];rfl
    ·rw [Ze1 (by omega),Ze1 (by omega)];rfl
  ·simp only [Ky,h2,Bool.cond_decide]
   rw [if_neg (by omega),Zk1 (by omega)]
   rfl
theorem Awn:FO 169 [.str] [.bool] Ab4 :=.fin 0 Avl fun x r hb hx=>⟨x.length+1,by
 simp only [Ab4,Za1] at hx
 have:=Aa4 (a:=some false) (b:=some true) hb (kx:=fun e v=>match v with|(_,v5,_,_)=>match e with|.ret=>some v5|.exit 0=>some true|_=>none) (fun _ _=>rfl) (fun _ _ _=>rfl) (x.length+1) 0 false (Nat.zero_le _) (by omega)
 refine Eq.trans this ?_
 rw [←hx,Zq1,Jm]
 cases x.all vis<;>rfl⟩
def A8n(R:Type):Px R:=pxO [(169,cA Ab4)] [] [] []
def Rw(x:HV [.sv .val]):Option (HV [.bool]):=match x with
 |v =>
 cond (decide (v.kind=1)) (
  cond (decide (v.n=0)) (
  some (decide (v.s=[]))) (
  some false)) (
  cond (decide (v.kind=2)) (
  cond (decide (v.n=0)) (
   some (decide (v.s=[]))) (
   cond (decide (v.n=1)) (
   some (decide (v.s=[]))) (
   some false))) (
  cond (decide (v.kind=3)) (
   some (decide (v.s=[]))) (
   cond (decide (v.kind=4)) (
   cond (decide (v.n=0)) (
    cond (decide ((v.s.length:Int)≤1000)) (
    some (Jm v.s)) (
    some false)) (
    some false)) (
   cond (decide (v.kind=5)) (
    cond (decide (v.n=0)) (
    some (decide ((v.s.length:Int)≤1000))) (
    some false)) (
    some false)))))
theorem Aw1:FO 147 [.sv .val] [.bool] (Rw):=fR (px:=A8n _) (n:=0) Tryz.func147 rfl (fun _ H=>⟨lv H (c1 H Awn Af) Ab Aa,Ak⟩) fun _=>by kernel_rfl
def B4(v:Val):Bool :=
 cond (decide (v.kind=1)) (
  cond (decide (v.n=0)) (
  (decide (v.s=[]))) (
  false)) (
  cond (decide (v.kind=2)) (
  cond (decide (v.n=0)) (
   (decide (v.s=[]))) (
   cond (decide (v.n=1)) (
   (decide (v.s=[]))) (
   false))) (
  cond (decide (v.kind=3)) (
   (decide (v.s=[]))) (
   cond (decide (v.kind=4)) (
   cond (decide (v.n=0)) (
    cond (decide ((v.s.length:Int)≤1000)) (
    (Jm v.s)) (
    false)) (
    false)) (
   cond (decide (v.kind=5)) (
    cond (decide (v.n=0)) (
    (decide ((v.s.length:Int)≤1000))) (
    false)) (
    false)))))
theorem Awl(x:HV [.sv .val]):Rw x=some (B4 x):=by
 first
  |exact rfl
  |simp only [Rw,B4,Bq]
def Aks:FT [.sv .val] [.bool]:=fun x=>some (B4 x)
theorem Ans:FO 147 [.sv .val] [.bool] Aks :=.fin0 Aw1 fun x _ _ hx=>(Awl x).trans hx
def A5o(R:Type):Px R:=pxO [(147,cA Aks)] [] [] []
def S7(x:HV [.sv .val]):Option (HV [.int .i64]):=match x with
 |v =>
 cond (!(B4 v)) (
  some 2) (
  some 0)
theorem Axn:FO 95 [.sv .val] [.int .i64] (S7):=fR (px:=A5o _) (n:=0) Tryz.func95 rfl (fun _ H=>⟨lv H (c1 H Ans Af) Ab Aa,Ak⟩) fun _=>by kernel_rfl
def P2(v:Val):Int :=
 cond (!(B4 v)) (
  2) (
  0)
theorem Ayg(x:HV [.sv .val]):S7 x=some (P2 x):=by
 first
  |exact rfl
  |simp only [S7,P2,Bq]
def Aho:FT [.sv .val] [.int .i64]:=fun x=>some (P2 x)
theorem Amk:FO 95 [.sv .val] [.int .i64] Aho :=.fin0 Axn fun x _ _ hx=>(Ayg x).trans hx
def Bf9(R:Type):Px R:=pxO [] [] [] []
def Acf(x:HV [.int .i64,.int .i64]):Option (HV [.int .i64,.int .i64]):=match x with
 |(a,b) =>
 cond (!decide ((decide (a<(wr .i64 (a+b))))=(decide (0<b)))) (
  some (0,20)) (
  some ((wr .i64 (a+b)),0))
theorem Bdw:FO 195 [.int .i64,.int .i64] [.int .i64,.int .i64] (Acf):=fR (px:=Bf9 _) (n:=0) Tryz.func195 rfl (fun _ H=>⟨lv H Af Ab Aa,Ak⟩) fun(_,_)=>by kernel_rfl
def Aza(a:Int) (b:Int):Int×Int :=
 cond (!decide ((decide (a<(wr .i64 (a+b))))=(decide (0<b)))) (
  (0,20)) (
  ((wr .i64 (a+b)),0))
theorem A9t(x:HV [.int .i64,.int .i64]):Acf x=some (Aza x.1 x.2):=by
 first
  |exact rfl
  |simp only [Acf,Aza,Bq]
def Ban:FT [.int .i64,.int .i64] [.int .i64,.int .i64]:=fun x=>some (Aza x.1 x.2)
theorem Bg7:FO 195 [.int .i64,.int .i64] [.int .i64,.int .i64] Ban :=.fin0 Bdw fun x _ _ hx=>(A9t x).trans hx
def Bde(R:Type):Px R:=pxO [] [] [] []
def Xc(x:HV [.int .i64]):Option (HV [.int .u64]):=match x with
 |n =>
 cond (decide (n<0)) (
  some (wr .u64 (0-(wr .u64 n)))) (
  some (wr .u64 n))
theorem A50:FO 170 [.int .i64] [.int .u64] (Xc):=fR (px:=Bde _) (n:=0) Tryz.func170 rfl (fun _ H=>⟨lv H Af Ab Aa,Ak⟩) fun _=>by kernel_rfl
def Ey(n:Int):Int :=
 cond (decide (n<0)) (
  (wr .u64 (0-(wr .u64 n)))) (
  (wr .u64 n))
theorem A6r(x:HV [.int .i64]):Xc x=some (Ey x):=by
 first
  |exact rfl
  |simp only [Xc,Ey,Bq]
def Aro:FT [.int .i64] [.int .u64]:=fun x=>some (Ey x)
theorem Ath:FO 170 [.int .i64] [.int .u64] Aro :=.fin0 A50 fun x _ _ hx=>(A6r x).trans hx
def Beg(R:Type):Px R:=pxO [] [] [] []
def X2(x:HV [.int .u64,.int .u64]):Option (HV [.int .u64,.int .u64]):=match x with
 |(a,b) =>
 some ((wr .u64 ((wr .u64 ((wr .u64 ((Jy .u64 a 32)*(Jy .u64 b 32)))+(Jy .u64 (wr .u64 ((wr .u64 ((Jy .u64 a 32)*(Kk .u64 b 4294967295)))+(Jy .u64 (wr .u64 ((Kk .u64 a 4294967295)*(Kk .u64 b 4294967295))) 32))) 32)))+(Jy .u64 (wr .u64 ((Kk .u64 (wr .u64 ((wr .u64 ((Jy .u64 a 32)*(Kk .u64 b 4294967295)))+(Jy .u64 (wr .u64 ((Kk .u64 a 4294967295)*(Kk .u64 b 4294967295))) 32))) 4294967295)+(wr .u64 ((Kk .u64 a 4294967295)*(Jy .u64 b 32))))) 32))),(wr .u64 (a*b)))
theorem A5f:FO 201 [.int .u64,.int .u64] [.int .u64,.int .u64] (X2):=fR (px:=Beg _) (n:=0) Tryz.func201 rfl (fun _ H=>⟨lv H Af Ab Aa,Ak⟩) fun(_,_)=>by kernel_rfl
def L3(a:Int) (b:Int):Int×Int :=
 ((wr .u64 ((wr .u64 ((wr .u64 ((Jy .u64 a 32)*(Jy .u64 b 32)))+(Jy .u64 (wr .u64 ((wr .u64 ((Jy .u64 a 32)*(Kk .u64 b 4294967295)))+(Jy .u64 (wr .u64 ((Kk .u64 a 4294967295)*(Kk .u64 b 4294967295))) 32))) 32)))+(Jy .u64 (wr .u64 ((Kk .u64 (wr .u64 ((wr .u64 ((Jy .u64 a 32)*(Kk .u64 b 4294967295)))+(Jy .u64 (wr .u64 ((Kk .u64 a 4294967295)*(Kk .u64 b 4294967295))) 32))) 4294967295)+(wr .u64 ((Kk .u64 a 4294967295)*(Jy .u64 b 32))))) 32))),(wr .u64 (a*b)))
theorem A7b(x:HV [.int .u64,.int .u64]):X2 x=some (L3 x.1 x.2):=by
 first
  |exact rfl
  |simp only [X2,L3,Bq]
def A2b:FT [.int .u64,.int .u64] [.int .u64,.int .u64]:=fun x=>some (L3 x.1 x.2)
theorem Be0:FO 201 [.int .u64,.int .u64] [.int .u64,.int .u64] A2b :=.fin0 A5f fun x _ _ hx=>(A7b x).trans hx
def Bg5(R:Type):Px R:=pxO [(170,cA Aro),(201,cA A2b)] [] [] []
def Acl(x:HV [.int .i64,.int .i64]):Option (HV [.int .i64,.int .i64]):=match x with
 |(a,b) =>
 let j1:=fun(p3:Bool) =>
  cond (p3) (
  some (0,20)) (
  cond (!decide ((decide (a<0))=(decide (b<0)))) (
   some ((wr .i64 (wr .u64 (0-(L3 (Ey a) (Ey b)).2))),0)) (
   some ((wr .i64 ((L3 (Ey a) (Ey b)).2)),0)))
 let j:=fun(p:Bool) =>
  cond (p) (
  j1 true) (
  cond (decide ((L3 (Ey a) (Ey b)).2=9223372036854775808)) (
   j1 (!(!decide ((decide (a<0))=(decide (b<0)))))) (
   j1 false))
 cond (decide (0<(L3 (Ey a) (Ey b)).1)) (
  j true) (
  j (decide (9223372036854775808<(L3 (Ey a) (Ey b)).2)))
theorem Bek:FO 194 [.int .i64,.int .i64] [.int .i64,.int .i64] (Acl):=fR (px:=Bg5 _) (n:=0) Tryz.func194 rfl (fun _ H=>⟨lv H (c1 H Ath (c1 H Be0 Af)) Ab Aa,Ak⟩) fun(_,_)=>by kernel_rfl
def Av9(a:Int) (b:Int):Int×Int :=
 let j1:=fun(p3:Bool) =>
  cond (p3) (
  (0,20)) (
  cond (!decide ((decide (a<0))=(decide (b<0)))) (
   ((wr .i64 (wr .u64 (0-(L3 (Ey a) (Ey b)).2))),0)) (
   ((wr .i64 ((L3 (Ey a) (Ey b)).2)),0)))
 let j:=fun(p:Bool) =>
  cond (p) (
  j1 true) (
  cond (decide ((L3 (Ey a) (Ey b)).2=9223372036854775808)) (
   j1 (!(!decide ((decide (a<0))=(decide (b<0)))))) (
   j1 false))
 cond (decide (0<(L3 (Ey a) (Ey b)).1)) (
  j true) (
  j (decide (9223372036854775808<(L3 (Ey a) (Ey b)).2)))
theorem A9k(x:HV [.int .i64,.int .i64]):Acl x=some (Av9 x.1 x.2):=by
 first
  |exact rfl
  |simp only [Acl,Av9,Bq]
def Bab:FT [.int .i64,.int .i64] [.int .i64,.int .i64]:=fun x=>some (Av9 x.1 x.2)
theorem Bhz:FO 194 [.int .i64,.int .i64] [.int .i64,.int .i64] Bab :=.fin0 Bek fun x _ _ hx=>(A9k x).trans hx
end Go.Proofs.YthndhaolemgbdaaGreatDoor
namespace Go.Proofs.YthndhaolemgbdaaGreatDoor
open Go.Ax
theorem Au1{i:Int}{n:Nat}(h : 0≤i∧i<n):inb i n=true:=by simp [inb,h]
def Bac(R:Type):Px R:=pxO [] [] [] []
def W2(x:HV [.int .u8]):Option (HV [.bool]):=match x with
 |c =>
 cond (decide (97≤c)) (
  some (decide (c≤122))) (
  some false)
theorem A7h:FO 109 [.int .u8] [.bool] (W2):=fR (px:=Bac _) (n:=0) Tryz.func109 rfl (fun _ H=>⟨lv H Af Ab Aa,Ak⟩) fun _=>by kernel_rfl
def Abe(c:Int):Bool :=
 cond (decide (97≤c)) (
  (decide (c≤122))) (
  false)
theorem A8b(x:HV [.int .u8]):W2 x=some (Abe x):=by
 first
  |exact rfl
  |simp only [W2,Abe,Bq]
def Agk:FT [.int .u8] [.bool]:=fun x=>some (Abe x)
theorem Aj1:FO 109 [.int .u8] [.bool] Agk :=.fin0 A7h fun x _ _ hx=>(A8b x).trans hx
def Bbq(R:Type):Px R:=pxO [] [] [] []
def Xj(x:HV [.int .u8]):Option (HV [.bool]):=match x with
 |c =>
 cond (decide (48≤c)) (
  some (decide (c≤57))) (
  some false)
theorem A7z:FO 154 [.int .u8] [.bool] (Xj):=fR (px:=Bbq _) (n:=0) Tryz.func154 rfl (fun _ H=>⟨lv H Af Ab Aa,Ak⟩) fun _=>by kernel_rfl
def Zv(c:Int):Bool :=
 cond (decide (48≤c)) (
  (decide (c≤57))) (
  false)
theorem A60(x:HV [.int .u8]):Xj x=some (Zv x):=by
 first
  |exact rfl
  |simp only [Xj,Zv,Bq]
def Afv:FT [.int .u8] [.bool]:=fun x=>some (Zv x)
theorem Akd:FO 154 [.int .u8] [.bool] Afv :=.fin0 A7z fun x _ _ hx=>(A60 x).trans hx
def Bfg(R:Type):Px R:=pxO [(109,cA Agk),(154,cA Afv)] [] [] []
def W5(x:HV [.int .u8]):Option (HV [.bool]):=match x with
 |c =>
 cond ((Abe c)) (
  some true) (
  cond ((Zv c)) (
  some true) (
  some (decide (c=95))))
theorem A8h:FO 111 [.int .u8] [.bool] (W5):=fR (px:=Bfg _) (n:=0) Tryz.func111 rfl (fun _ H=>⟨lv H (c1 H Aj1 (c1 H Akd Af)) Ab Aa,Ak⟩) fun _=>by kernel_rfl
def Afa(c:Int):Bool :=
 cond ((Abe c)) (
  true) (
  cond ((Zv c)) (
  true) (
  (decide (c=95))))
theorem A5g(x:HV [.int .u8]):W5 x=some (Afa x):=by
 first
  |exact rfl
  |simp only [W5,Afa,Bq]
def Af3:FT [.int .u8] [.bool]:=fun x=>some (Afa x)
theorem Aiz:FO 111 [.int .u8] [.bool] Af3 :=.fin0 A8h fun x _ _ hx=>(A5g x).trans hx
theorem Ai6(c:Int):Abe c=Lp.isLo c:=by simp only [Abe,Lp.isLo];cases decide (97≤c)<;>rfl
theorem Ahk(c:Int):Zv c=Lp.isDi c:=by simp only [Zv,Lp.isDi];cases decide (48≤c)<;>rfl
theorem Aka(c:Int):Afa c=Lp.isIn c:=by
 simp only [Afa,Lp.isIn,Ai6,Ahk]
 cases Lp.isLo c<;>cases Lp.isDi c<;>rfl
def Aki:Sig:=⟨21,[(0,.str),(1,.int .i64)],[(2,.fn 111 [])],[],40,40,200,[],[]⟩
abbrev Vh:=Str×Int
def T9{R:Type}(rec:Vh→Option R) (kx:Ex→Vh→Option R) (v:Vh):Option R:=match v with
 |(v,v1) =>
 cond (decide (v1<(v.length:Int))) (
  chk (inb v1 v.length) (
  cond ((Afa (bat v v1))) (
   rec (v,(wr .i64 (v1+1)))) (
   kx (.exit 0) (v,v1)))) (
  kx (.exit 0) (v,v1))
def Ai9(R:Type) (k:Nat):Px R:=pxO [(111,cA Af3)] [] [(1,Ay k Aki (T9))] []
noncomputable def Aud (R:Type) (k:Nat):Px R:=pxO [(109,cA Agk),(110,Az 40 200 (Ai9 R k) Tryz.f110)] [] [] []
def Ah0(k:Nat) (x:HV [.str]):Option (HV [.bool]):=match x with
 |s =>
 let j1:=fun(p:Bool) =>
  let j:=fun(p1:Bool) =>
  cond (p1) (
   Al (fun rec=>T9 rec (fun e vz=>match vz with|(_,v3)=>match e with
   |.exit 0 =>
    some (decide (v3=(s.length:Int)))
   |_=>none)) k (s,0)) (
   some false)
  cond (p) (
  chk (inb 0 s.length) (
   j (Abe (bat s 0)))) (
  j false)
 cond (!decide (s=[])) (
  j1 (decide ((s.length:Int)≤30))) (
  j1 false)
theorem A7c(k:Nat):FO 63 [.str] [.bool] (Ah0 k):=fR (px:=Aud _ k) (n:=0) Tryz.func63 rfl (fun cx H=>by
 have h1:Lv cx (Ai9 (HV [.bool]) k):=lv H (c1 H Aiz Af) Ab Aa
 have hllname_0:=lO H h1 (b:=lp Tryz.f110 0) (k:=k) (n:=0) (s:=Aki) (step:=T9) (fun _ _ _ (_,_)=>by kernel_rfl) Ak
 have h0:Lv cx (Aud (HV [.bool]) k):=lv H (c1 H Aj1 (Aq (cR H h1 Tryz.func110 rfl (n:=1) ((B7 Ak hllname_0))) Af)) Ab Aa
 exact⟨h0,Ak⟩) fun _=>by kernel_rfl
abbrev Bm (s:Str):Bool:=Lp.nameF s
def Pq:FT [.str] [.bool]:=fun x=>some (Bm x)
theorem Aar{R:Type}{kx:Ex→Vh→Option R}{s:Str}  {a:Int→Option R}(hs:ln s.length) (h1:∀j,kx (.exit 0) (s,j)=a j):∀(k i:Nat),i≤s.length→s.length-i<k→Al (fun rec=>T9 rec kx) k (s,(i:Int))=a (Lp.runTo Lp.isIn s i)
 |0,i,_,h=>absurd h (Zm1 _)
 |k+1,i,hi,h=>by
  rw [Bh]
  by_cases hl:i<s.length
  ·have ih:=Aar  hs h1 k (i+1) (by omega) (by omega)
   have eb:Sx.byt s (i:Int)=(s[i].toNat:Int):=Dn hl
   simp only [T9,A3 hl hs,ih,h1,Dn hl,Be hl,Aka]
   rw [Ze1 (show(i:Int)<(s.length:Int) by omega)]
   cases hp:Lp.isIn (s[i].toNat:Int) with
   |true =>
    have:=Lp.runTo_yes (p:=Lp.isIn) (l:=s) (j:=i) (by omega) (by rw [eb];exact hp)
    rw [←this]
    rfl
   |false =>
    have:=Lp.runTo_no (p:=Lp.isIn) (l:=s) (j:=i) (by omega) (by rw [eb];exact hp)
    rw [this]
    rfl
  ·have:=Lp.runTo_end (p:=Lp.isIn) (l:=s) (j:=i) (by omega)
   simp only [T9,h1]
   rw [Zd1 (by omega),this]
   rfl
theorem R0:FO 63 [.str] [.bool] Pq :=.fin 0 A7c fun s r hb hx=>⟨s.length+1,by
 simp only [Pq,Za1] at hx
 rw [←hx]
 simp only [Ah0,Bm,Lp.nameF]
 by_cases he:s=[]
 ·rw [Ze1 he];rfl
 ·rw [Zd1 he]
  simp only [Zs1,Ae,Bool.true_and]
  by_cases h30:(s.length:Int)≤30
  ·have hp : 0<s.length:=List.length_pos_iff.2 he
   rw [Ze1 h30,Au1 (by omega),Ai6]
   simp only [chk,Ae,Bool.true_and]
   have eb:bat s 0=Sx.byt s 0:=rfl
   rw [eb]
   cases Lp.isLo (Sx.byt s 0) with
   |false=>rfl
   |true =>
    simp only [Ae,Bool.true_and]
    exact Aar (s:=s) (a:=fun j=>some (decide (j=(s.length:Int)))) hb (fun _=>rfl) (s.length+1) 0 (Nat.zero_le _) (by omega)
  ·rw [Zd1 h30]
   rfl⟩
end Go.Proofs.YthndhaolemgbdaaGreatDoor
namespace Go.Proofs.YthndhaolemgbdaaGreatDoor
open Go.Ax
theorem wru(n:Int):wr .u64 n=n % 18446744073709551616:=by simp [wr,IntKind.wrap,IntKind.bits,IntKind.signed]
theorem wri(n:Int):wr .i64 n=if 9223372036854775808≤n % 18446744073709551616 then n % 18446744073709551616-18446744073709551616 else n % 18446744073709551616:=by
 simp [wr,IntKind.wrap,IntKind.bits,IntKind.signed]
theorem J5{n:Int}(h : 0≤n∧n≤18446744073709551615):wr .u64 n=n:=by rw [wru];omega
theorem Ap0{a:Int}(h : 0≤a∧a≤18446744073709551615):Kk .u64 a 4294967295=a % 4294967296:=by
 obtain⟨n,rfl⟩:=Int.eq_ofNat_of_zero_le h.1
 have hn:n<18446744073709551616:=by omega
 have e2:(BitVec.ofInt IntKind.u64.bits (n:Int) &&& BitVec.ofInt IntKind.u64.bits 4294967295).toNat=n % 4294967296:=by
  show(BitVec.ofInt 64 (n:Int) &&& BitVec.ofInt 64 ((4294967295:Nat):Int)).toNat=n % 4294967296
  rw [BitVec.toNat_and,BitVec.ofInt_natCast,BitVec.ofInt_natCast,BitVec.toNat_ofNat,BitVec.toNat_ofNat]
  rw [Nat.mod_eq_of_lt hn,Nat.mod_eq_of_lt (by decide)]
  exact Nat.and_two_pow_sub_one_eq_mod n 32
 show wr .u64 _=_
 simp only [e2]
 rw [J5 (by omega)]
 omega
theorem Bh2{a:Int}:Jy .u64 a 32=a / 4294967296:=by
 show a.fdiv (2 ^ min (32:Int).toNat IntKind.u64.bits)=_
 rw [show(2:Int) ^ min (32:Int).toNat IntKind.u64.bits=4294967296 from by decide]
 exact Int.fdiv_eq_ediv_of_nonneg _ (by omega)
theorem Abm(a b c d:Int) (h : 0≤a∧a≤c) (h' : 0≤b∧b≤d) : 0≤a*b∧a*b≤c*d :=
 ⟨Int.mul_nonneg h.1 h'.1,Int.mul_le_mul h.2 h'.2 h'.1 (by omega)⟩
theorem Afg(x y:Int):x*y=(x / 4294967296)*(y / 4294967296)*18446744073709551616+((x / 4294967296)*(y % 4294967296)+(x % 4294967296)*(y / 4294967296))*4294967296+(x % 4294967296)*(y % 4294967296):=by
 have hx:=Int.mul_ediv_add_emod x 4294967296
 have hy:=Int.mul_ediv_add_emod y 4294967296
 generalize x / 4294967296=p at *
 generalize x % 4294967296=q at *
 generalize y / 4294967296=r at *
 generalize y % 4294967296=s at *
 rw [←hx,←hy]
 simp only [Int.add_mul,Int.mul_add]
 have e1 : 4294967296*p*(4294967296*r)=p*r*18446744073709551616:=by
  rw [Int.mul_assoc,Int.mul_left_comm p,←Int.mul_assoc]
  omega
 have e2 : 4294967296*p*s=p*s*4294967296:=by rw [Int.mul_assoc];omega
 have e3:q*(4294967296*r)=q*r*4294967296:=by rw [Int.mul_left_comm];omega
 omega
theorem Bfn(x y:Int) (hx : 0≤x∧x≤18446744073709551615) (hy : 0≤y∧y≤18446744073709551615):L3 x y=(x*y / 18446744073709551616,x*y % 18446744073709551616):=by
 have b00:=Abm (x % 4294967296) (y % 4294967296) 4294967295 4294967295 (by omega) (by omega)
 have b10:=Abm (x / 4294967296) (y % 4294967296) 4294967295 4294967295 (by omega) (by omega)
 have b01:=Abm (x % 4294967296) (y / 4294967296) 4294967295 4294967295 (by omega) (by omega)
 have b11:=Abm (x / 4294967296) (y / 4294967296) 4294967295 4294967295 (by omega) (by omega)
 have sp:=Afg x y
 simp only [L3,Bh2,Ap0 hx,Ap0 hy]
 generalize (x % 4294967296)*(y % 4294967296)=p00 at *
 generalize (x / 4294967296)*(y % 4294967296)=p10 at *
 generalize (x % 4294967296)*(y / 4294967296)=p01 at *
 generalize (x / 4294967296)*(y / 4294967296)=p11 at *
 rw [J5 (n:=p00) (by omega),J5 (n:=p10) (by omega),J5 (n:=p11) (by omega),J5 (n:=p01) (by omega)]
 rw [J5 (n:=p10+p00 / 4294967296) (by omega)]
 rw [Ap0 (by omega)]
 rw [J5 (n:=(p10+p00 / 4294967296) % 4294967296+p01) (by omega)]
 rw [J5 (n:=p11+(p10+p00 / 4294967296) / 4294967296) (by omega)]
 rw [J5 (n:=p11+(p10+p00 / 4294967296) / 4294967296+((p10+p00 / 4294967296) % 4294967296+p01) / 4294967296) (by omega),wru]
 rw [Zp1]
 constructor<;>omega
def Xb(n:Int):Int×Int:=if -9223372036854775808≤n∧n≤9223372036854775807 then(n,0) else(0,20)
def M8(n:Int):Int:=if n<0 then -n else n
theorem Ar1{n:Int}(h:inI n):Ey n=M8 n:=by
 simp only [inI] at h
 simp only [Ey,M8,Bool.cond_decide,wru]
 split<;>omega
theorem Arp{q r:Int}(h:inI q) (hr:r=q):(r,(0:Int))=Xb q:=by
 simp only [inI] at h
 rw [hr,Xb,if_pos h]
theorem Aru{q:Int}(h:¬inI q):((0:Int),(20:Int))=Xb q:=by
 simp only [inI] at h
 rw [Xb,if_neg h]
theorem Bk7{a b:Int}(ha:inI a) (hb:inI b):Aza a b=Xb (a+b):=by
 simp only [inI] at ha hb
 simp only [Aza,wri]
 by_cases h1 : 0<b
 ·rw [Ze1 h1]
  by_cases h2:a+b≤9223372036854775807
  ·have e:(a+b) % 18446744073709551616<9223372036854775808∨9223372036854775808≤(a+b) % 18446744073709551616:=by omega
   rw [←Arp (q:=a+b) (r:=if 9223372036854775808≤(a+b) % 18446744073709551616 then(a+b) % 18446744073709551616-18446744073709551616 else(a+b) % 18446744073709551616) (by simp only [inI];omega) (by split<;>omega)]
   rw [Ze1 (p:=a<_) (by split<;>omega)]
   rfl
  ·rw [←Aru (q:=a+b) (by simp only [inI];omega)]
   rw [Zd1 (p:=a<_) (by split<;>omega)]
   rfl
 ·rw [Zd1 h1]
  by_cases h2 : -9223372036854775808≤a+b
  ·rw [←Arp (q:=a+b) (r:=if 9223372036854775808≤(a+b) % 18446744073709551616 then(a+b) % 18446744073709551616-18446744073709551616 else(a+b) % 18446744073709551616) (by simp only [inI];omega) (by split<;>omega)]
   rw [Zd1 (p:=a<_) (by split<;>omega)]
   rfl
  ·rw [←Aru (q:=a+b) (by simp only [inI];omega)]
   rw [Ze1 (p:=a<_) (by split<;>omega)]
   rfl
theorem Bkb{a b:Int}(ha:inI a) (hb:inI b):Av9 a b=Xb (a*b):=by
 have ha':=ha;have hb':=hb
 simp only [inI] at ha' hb'
 have hA : 0≤M8 a∧M8 a≤9223372036854775808:=by unfold M8;split<;>omega
 have hB : 0≤M8 b∧M8 b≤9223372036854775808:=by unfold M8;split<;>omega
 have hbd:=Abm _ _ _ _ hA hB
 have hsg:a*b=if decide (a<0)=decide (b<0) then M8 a*M8 b else -(M8 a*M8 b):=by
  unfold M8
  by_cases h1:a<0<;>by_cases h2:b<0<;>simp [h1,h2,Int.neg_mul,Int.mul_neg]
 simp only [Av9,Ar1 ha,Ar1 hb,Bfn _ _ (show 0≤M8 a∧M8 a≤18446744073709551615 by omega) (show 0≤M8 b∧M8 b≤18446744073709551615 by omega)]
 clear ha hb ha' hb' hA hB
 generalize M8 a*M8 b=p at *
 generalize a*b=q at *
 by_cases hs:decide (a<0)=decide (b<0)
 ·rw [if_pos hs] at hsg
  rw [Ze1 hs]
  by_cases h1:p<9223372036854775808
  ·rw [Zd1 (show ¬ 0<p / 18446744073709551616 by omega),Zd1 (show ¬ 9223372036854775808<p % 18446744073709551616 by omega),Zd1 (show ¬p % 18446744073709551616=9223372036854775808 by omega)]
   refine(show _=(wr .i64 (p % 18446744073709551616),(0:Int)) from rfl).trans (Arp (by simp only [inI];omega) ?_)
   rw [wri];split<;>omega
  ·rw [←Aru (q:=q) (by simp only [inI];omega)]
   by_cases h2 : 0<p / 18446744073709551616
   ·rw [Ze1 h2];rfl
   ·rw [Zd1 h2]
    by_cases h3 : 9223372036854775808<p % 18446744073709551616
    ·rw [Ze1 h3];rfl
    ·rw [Zd1 h3,Ze1 (show p % 18446744073709551616=9223372036854775808 by omega)];rfl
 ·rw [if_neg hs] at hsg
  rw [Zd1 hs]
  by_cases h1:p≤9223372036854775808
  ·rw [Zd1 (show ¬ 0<p / 18446744073709551616 by omega),Zd1 (show ¬ 9223372036854775808<p % 18446744073709551616 by omega)]
   have:Xb q=(wr .i64 (wr .u64 (0-p % 18446744073709551616)),(0:Int)):=by
    refine(Arp (by simp only [inI];omega) ?_).symm
    rw [wri,wru];split<;>omega
   rw [this]
   cases decide (p % 18446744073709551616=9223372036854775808)<;>rfl
  ·rw [←Aru (q:=q) (by simp only [inI];omega)]
   by_cases h2 : 0<p / 18446744073709551616
   ·rw [Ze1 h2];rfl
   ·rw [Zd1 h2,Ze1 (show 9223372036854775808<p % 18446744073709551616 by omega)];rfl
end Go.Proofs.YthndhaolemgbdaaGreatDoor
namespace Go.Proofs
open Go.Shelf
def Tryz.laysRA_ren:Go.Shelf.Ren:=⟨fun|155=>150|154=>171|138=>187|165=>153|143=>188|166=>104|197=>189|169=>41|195=>197|218=>198|240=>152|241=>173|219=>199|260=>200|276=>172|277=>190|217=>174|225=>203|224=>204|267=>205|266=>191|314=>207|n=>n,fun|9=>9|3=>3|4=>4|72=>80|0=>0|76=>154|105=>216|21=>21|5=>5|70=>77|20=>20|37=>78|75=>153|127=>148|164=>205|46=>68|119=>226|139=>229|138=>228|146=>231|51=>230|80=>84|n=>n,fun|1=>3|3=>4|4=>5|n=>n⟩
theorem Tryz.laysRA:Go.Proofs.Lays.n155 Tryz.prog Tryz.laysRA_ren:={
 mixed:=by kernel_rfl
 f138:=Tryz.func187.trans (congrArg some (by kernel_rfl))
 f143:=Tryz.func188.trans (congrArg some (by kernel_rfl))
 f154:=Tryz.func171.trans (congrArg some (by kernel_rfl))
 f155:=Tryz.func150.trans (congrArg some (by kernel_rfl))
 f165:=Tryz.func153.trans (congrArg some (by kernel_rfl))
 f166:=Tryz.func104.trans (congrArg some (by kernel_rfl))
 f169:=Tryz.func41.trans (congrArg some (by kernel_rfl))
 f195:=Tryz.func197.trans (congrArg some (by kernel_rfl))
 f197:=Tryz.func189.trans (congrArg some (by kernel_rfl))
 f217:=Tryz.func174.trans (congrArg some (by kernel_rfl))
 f218:=Tryz.func198.trans (congrArg some (by kernel_rfl))
 f219:=Tryz.func199.trans (congrArg some (by kernel_rfl))
 f224:=Tryz.func204.trans (congrArg some (by kernel_rfl))
 f225:=Tryz.func203.trans (congrArg some (by kernel_rfl))
 f240:=Tryz.func152.trans (congrArg some (by kernel_rfl))
 f241:=Tryz.func173.trans (congrArg some (by kernel_rfl))
 f260:=Tryz.func200.trans (congrArg some (by kernel_rfl))
 f266:=Tryz.func191.trans (congrArg some (by kernel_rfl))
 f267:=Tryz.func205.trans (congrArg some (by kernel_rfl))
 f276:=Tryz.func172.trans (congrArg some (by kernel_rfl))
 f277:=Tryz.func190.trans (congrArg some (by kernel_rfl))
 f314:=Tryz.func207.trans (congrArg some (by kernel_rfl))
 t0:=Tryz.underlying0
 a0:=Tryz.isAgg0
 z0:=Tryz.sizeOf0
 v0:=Tryz.zeroValue0
 t3:=Tryz.underlying3
 a3:=Tryz.isAgg3
 z3:=Tryz.sizeOf3
 v3:=Tryz.zeroValue3
 t4:=Tryz.underlying4
 a4:=Tryz.isAgg4
 z4:=Tryz.sizeOf4
 v4:=Tryz.zeroValue4
 t5:=Tryz.underlying5
 a5:=Tryz.isAgg5
 z5:=Tryz.sizeOf5
 v5:=Tryz.zeroValue5
 t9:=Tryz.underlying9
 a9:=Tryz.isAgg9
 z9:=Tryz.sizeOf9
 v9:=Tryz.zeroValue9
 t20:=Tryz.underlying20
 a20:=Tryz.isAgg20
 z20:=Tryz.sizeOf20
 v20:=Tryz.zeroValue20
 t21:=Tryz.underlying21
 a21:=Tryz.isAgg21
 z21:=Tryz.sizeOf21
 v21:=Tryz.zeroValue21
 t37:=Tryz.underlying78
 a37:=Tryz.isAgg78
 z37:=Tryz.sizeOf78
 v37:=Tryz.zeroValue78
 t46:=Tryz.underlying68
 a46:=Tryz.isAgg68
 z46:=Tryz.sizeOf68
 v46:=Tryz.zeroValue68
 t51:=Tryz.underlying230
 a51:=Tryz.isAgg230
 z51:=Tryz.sizeOf230
 v51:=Tryz.zeroValue230
 t70:=Tryz.underlying77
 a70:=Tryz.isAgg77
 z70:=Tryz.sizeOf77
 v70:=Tryz.zeroValue77
 t72:=Tryz.underlying80
 a72:=Tryz.isAgg80
 z72:=Tryz.sizeOf80
 v72:=Tryz.zeroValue80
 t75:=Tryz.underlying153
 a75:=Tryz.isAgg153
 z75:=Tryz.sizeOf153
 v75:=Tryz.zeroValue153
 t76:=Tryz.underlying154
 a76:=Tryz.isAgg154
 z76:=Tryz.sizeOf154
 v76:=Tryz.zeroValue154
 t105:=Tryz.underlying216
 a105:=Tryz.isAgg216
 z105:=Tryz.sizeOf216
 v105:=Tryz.zeroValue216
 t119:=Tryz.underlying226
 a119:=Tryz.isAgg226
 z119:=Tryz.sizeOf226
 t127:=Tryz.underlying148
 a127:=Tryz.isAgg148
 z127:=Tryz.sizeOf148
 v127:=Tryz.zeroValue148
 t138:=Tryz.underlying228
 a138:=Tryz.isAgg228
 z138:=Tryz.sizeOf228
 v138:=Tryz.zeroValue228
 t139:=Tryz.underlying229
 a139:=Tryz.isAgg229
 z139:=Tryz.sizeOf229
 v139:=Tryz.zeroValue229
 t146:=Tryz.underlying231
 a146:=Tryz.isAgg231
 z146:=Tryz.sizeOf231
 v146:=Tryz.zeroValue231
 t164:=Tryz.underlying205
 a164:=Tryz.isAgg205
 z164:=Tryz.sizeOf205
 v164:=Tryz.zeroValue205
 g1:=by kernel_rfl
 g3:=by kernel_rfl
 g4:=by kernel_rfl }
theorem Tryz.extraRA:Builder.Extra Tryz.prog Tryz.laysRA_ren:={
 sizeBuilder:=by kernel_rfl
 liesBuilder:=by kernel_rfl
 t5:=Tryz.laysRA.t5
 a5:=Tryz.laysRA.a5
 z5:=Tryz.laysRA.z5
 v5:=Tryz.laysRA.v5
 infoByte:=by kernel_rfl
 cellsByte:=by kernel_rfl
 sizeByte:=by kernel_rfl
 neB5:=by decide }
end Go.Proofs
namespace Go.Proofs.YthndhaolemgbdaaGreatDoor
open Go.Ax
def Ajy(s old new:Str):Option Str:=cond (decide (s.length<4294967281)&&decide (1≤old.length)&&decide (s.length+Lib.count s old*new.length≤140737488355328)&&decide ((Lib.replaceAll s old new).length≤maxLen)) (some (Lib.replaceAll s old new)) none
def Akj:FT [.str,.str,.str] [.str]:=fun x=>Ajy x.1 x.2.1 x.2.2
theorem A6h:FO 150 [.str,.str,.str] [.str] Akj:=by
 refine⟨Sx.enters_of Tryz.func150 rfl (by kernel_rfl),fun x r hx w M vs hM hgl hr =>?_⟩
 obtain⟨s,old,new⟩:=x
 simp only [Akj,Ajy] at hx
 cases hc:decide (s.length<4294967281)&&decide (1≤old.length)&&decide (s.length+Lib.count s old*new.length≤140737488355328)&&decide ((Lib.replaceAll s old new).length≤maxLen) with
 |false=>rw [hc] at hx;cases hx
 |true =>
  rw [hc] at hx
  have hx:some (Lib.replaceAll s old new)=some r:=hx
  simp only [Za1] at hx
  subst hx
  simp only [Zb1,Zg1] at hc
  obtain⟨⟨⟨h1,h2⟩,h3⟩,h4⟩:=hc
  simp only [Cp,Dk,Reps,Rep] at hr
  obtain⟨u,us,rfl,⟨rfl,_⟩,u2,us2,rfl,⟨rfl,_⟩,u3,us3,rfl,⟨rfl,_⟩,rfl⟩:=hr
  obtain⟨m,hm⟩:=hgl.2.2 3 .i64 rfl
  have c:=Any.strings_ReplaceAll Tryz.laysRA Tryz.extraRA ⟨s.toArray⟩ ⟨old.toArray⟩ ⟨new.toArray⟩ m w (by simpa [ByteArray.size] using h1) (hm w (Chg.refl _ _)) (by simpa [ByteArray.size] using h2) (by simpa [ByteArray.size,Lib.countB] using h3)
  refine Calls.mono (show Calls Tryz.prog 150 _ w _ from c) ?_
  rintro en w' ⟨rfl,hb⟩
  refine⟨_,⟨fun _=>0,fun _=>Option.none⟩,rfl,Chg.of_below hb,fun p g o hp=>(by simp [Br] at hp),fun p q g o o2 hp=>(by simp [Br] at hp),?_⟩
  simp only [L8,Cp,Dk,Rep]
  exact⟨by simp,h4⟩
end Go.Proofs.YthndhaolemgbdaaGreatDoor
namespace Go.Proofs.YthndhaolemgbdaaGreatDoor
open Go.Ax
def pw:Nat→Int
 |0=>1
 |n+1=>10*pw n
def val:List Int→Int
 |[]=>0
 |x::l=>x+10*val l
def dg(l:List Int):Bool:=l.all fun x=>decide (0≤x)&&decide (x≤9)
theorem Agf{x:Int}{l:List Int}:dg (x::l)=true↔(0≤x∧x≤9)∧dg l=true:=by
 simp [dg]
theorem Bc9:∀{l:List Int},dg l=true→0≤val l
 |[],_=>by simp [val]
 |x::l,h=>by have h:=Agf.1 h;have:=Bc9 h.2;simp only [val];omega
def J4(n:Nat):List Int:=if h:n=0 then [] else((n % 10:Nat):Int)::J4 (n / 10)
termination_by n
decreasing_by omega
theorem Gk:J4 0=[]:=by rw [J4];simp
theorem Ls{n:Nat}(h:¬n=0):J4 n=((n % 10:Nat):Int)::J4 (n / 10):=by rw [J4];simp [h]
theorem Bdp(n:Nat):val (J4 n)=(n:Int):=by
 induction n using Nat.strongRecOn with
 |ind n ih =>
  by_cases h:n=0
  ·subst h;rw [Gk];rfl
  ·rw [Ls h,val,ih (n / 10) (by omega)];omega
theorem A1e(n:Nat):dg (J4 n)=true:=by
 induction n using Nat.strongRecOn with
 |ind n ih =>
  by_cases h:n=0
  ·subst h;rw [Gk];rfl
  ·rw [Ls h];exact Agf.2 ⟨by omega,ih (n / 10) (by omega)⟩
theorem Aja:∀(k n:Nat),(n:Int)<pw k→(J4 n).length≤k
 |0,n,h=>by
  have:n=0:=by simp only [pw] at h;omega
  subst this;rw [Gk];exact Zn1 _
 |k+1,n,h=>by
  by_cases h0:n=0
  ·subst h0;rw [Gk];simp
  ·have:=Aja k (n / 10) (by simp only [pw] at h;omega)
   rw [Ls h0]
   simp only [Zf1]
   omega
end Go.Proofs.YthndhaolemgbdaaGreatDoor
namespace Go.Proofs.YthndhaolemgbdaaGreatDoor
open Go.Ax
abbrev hexL:Str:=[48,49,50,51,52,53,54,55,56,57,97,98,99,100,101,102]
def A7l(n:Nat):Str:=[hexL.getD (n / 16) 0,hexL.getD (n % 16) 0]
def L9(s:Str):Str:=s.flatMap fun b=>A7l b.toNat
def Bm5(n:Nat):Bool:=inb (Jy .u8 (n:Int) 4) 16&&inb (Kk .u8 (n:Int) 15) 16&&decide ([(UInt8.ofNat ((bat hexL (Jy .u8 (n:Int) 4)):Int).toNat),(UInt8.ofNat ((bat hexL (Kk .u8 (n:Int) 15)):Int).toNat)]=A7l n)
theorem Bmq:((List.range 256).all Bm5)=true:=by kernel_rfl
theorem hx(b:UInt8):inb (Jy .u8 (b.toNat:Int) 4) 16=true∧inb (Kk .u8 (b.toNat:Int) 15) 16=true∧[(UInt8.ofNat ((bat hexL (Jy .u8 (b.toNat:Int) 4)):Int).toNat),(UInt8.ofNat ((bat hexL (Kk .u8 (b.toNat:Int) 15)):Int).toNat)]=A7l b.toNat:=by
 have h:=Zg2.1 Bmq b.toNat (List.mem_range.2 b.toNat_lt)
 simp only [Bm5,Zb1,Zg1] at h
 exact⟨h.1.1,h.1.2,h.2⟩
theorem Zo(s:Str):(L9 s).length=2*s.length:=by
 induction s with
 |nil=>rfl
 |cons b l ih=>simp only [L9,List.flatMap_cons,A7l,Zh1,Zf1,Zi1] at ih ⊢;omega
def Anl:Sig:=⟨26,[(0,.str),(3,.sl .byte true),(6,.int .i64),(7,.int .i64)],[],[],0,0,0,[],[]⟩
abbrev Ym:=Str×List UInt8×Int×Int
def Abo{R:Type}(rec:Ym→Option R) (kx:Ex→Ym→Option R) (v:Ym):Option R:=match v with
 |(v,v1,v2,v3) =>
 cond (decide (v3<v2)) (
  chk (inb v3 v.length) (
  chk (inb (Jy .u8 (bat v v3) 4) 16) (
   chk (inb v3 v.length) (
   chk (inb (Kk .u8 (bat v v3) 15) 16) (
    chk (decide (v1.length+2≤Am)) (
    rec (v,(v1++[(UInt8.ofNat ((bat [48,49,50,51,52,53,54,55,56,57,97,98,99,100,101,102] (Jy .u8 (bat v v3) 4)):Int).toNat),(UInt8.ofNat ((bat [48,49,50,51,52,53,54,55,56,57,97,98,99,100,101,102] (Kk .u8 (bat v v3) 15)):Int).toNat)]),v2,(wr .i64 (v3+1))))))))) (
  kx (.exit 0) (v,v1,v2,v3))
def A1g(R:Type) (k:Nat):Px R:=pxO [] [] [(3,Ay k Anl (Abo))] []
def Aot(k:Nat) (x:HV [.str]):Option (HV [.str]):=match x with
 |s =>
 Al (fun rec=>Abo rec (fun e vz=>match vz with|(_,v5,_,_)=>match e with
  |.exit 0 =>
  some v5
  |_=>none)) k (s,[],(s.length:Int),0)
theorem Bea(k:Nat):FO 151 [.str] [.str] (Aot k):=fR (px:=A1g _ k) (n:=1) Tryz.func151 rfl (fun cx H=>by
 have h0:Lv cx (A1g (HV [.str]) k):=lv H Af Ab Aa
 have hlvhex_0:=lO H h0 (b:=lp Tryz.f151 0) (k:=k) (n:=0) (s:=Anl) (step:=Abo) (fun _ _ _ (_,_,_,_)=>by kernel_rfl) Ak
 exact⟨h0,(B7 Ak hlvhex_0)⟩) fun _=>by kernel_rfl
def Bby(s:Str):Option Str:=cond (decide (s.length≤3000)) (some (L9 s)) none
def Aym:FT [.str] [.str]:=fun x=>Bby x
theorem Ang{R:Type}{kx:Ex→Ym→Option R}{s:Str}{b:Str→Option R}(hs:s.length≤3000) (h2:∀out j,kx (.exit 0) (s,out,(s.length:Int),j)=b out):∀(k i:Nat) (out:Str),i≤s.length→s.length-i<k→out.length≤2*i→Al (fun rec=>Abo rec kx) k (s,out,(s.length:Int),(i:Int))=b (out++L9 (s.drop i))
 |0,i,_,_,h,_=>absurd h (Zm1 _)
 |k+1,i,out,hi,h,ho=>by
  rw [Bh]
  by_cases hl:i<s.length
  ·obtain⟨h3,h4,h5⟩:=hx (s[i]'hl)
   have hn:ln s.length:=by simp only [ln];omega
   have ih:=Ang hs h2 k (i+1) (out++A7l (s[i]'hl).toNat) (by omega) (by omega) (by simp only [Zh1,A7l,Zf1,Zi1];omega)
   simp only [Abo,A3 hl hn,Dn hl,Be hl,h3,h4,h5,ih,h2]
   rw [Ze1 (show(i:Int)<(s.length:Int) by omega),Ze1 (show out.length+2≤Am by simp only [Am];omega),Av hl]
   simp only [chk,Ae,L9,List.flatMap_cons,Zj1]
  ·simp only [Abo,h2]
   rw [Zd1 (show ¬(i:Int)<(s.length:Int) by omega),Zk1 (by omega)]
   simp [L9]
theorem Bip:FO 151 [.str] [.str] Aym :=.fin 0 Bea fun s r hb hx=>⟨3001,by
 simp only [Aym,Bby] at hx
 by_cases hs:s.length≤3000
 ·rw [Ze1 hs] at hx
  simp only [Aot]
  exact(Ang (b:=some) hs (fun _ _=>rfl) 3001 0 [] (Nat.zero_le _) (by omega) (by simp)).trans hx
 ·rw [Zd1 hs] at hx
  cases hx⟩
def dch(d:Int):UInt8:=UInt8.ofNat (48+d).toNat
def txt(l:List Int):Str:=(l.map dch).reverse
def Awj(n:Int):Str:=let t:=if n=0 then [48] else txt (J4 n.natAbs)
 if n<0 then 45::t else t
theorem Ta(d:Int) (l:List Int):txt (d::l)=txt l++[dch d]:=by simp [txt]
theorem Bju{d:Int}(h : 0≤d∧d≤9):UInt8.ofNat ((wr .u8 (wr .u64 (48+d))):Int).toNat=dch d:=by
 have e:wr .u8 (wr .u64 (48+d))=48+d:=by
  rw [J5 (by omega)]
  simp only [wr,IntKind.wrap,IntKind.bits,IntKind.signed]
  simp
  omega
 rw [e];rfl
theorem A19(l:List Int):(txt l).length=l.length:=by simp [txt]
theorem Bdh(n:Int):txt (J4 (n.natAbs / 10))++[dch ((n.natAbs % 10:Nat):Int)]=if n=0 then [48] else txt (J4 n.natAbs):=by
 by_cases h0:n=0
 ·subst h0
  rw [if_pos rfl,show(0:Int).natAbs / 10=0 from rfl,Gk]
  rfl
 ·rw [if_neg h0,Ls (n:=n.natAbs) (by omega),Ta]
def Za:Sig:=⟨32,[(0,.int .i64),(3,.sl .byte true),(4,.int .u64)],[],[],0,0,0,[],[]⟩
abbrev Mf:=Int×List UInt8×Int
def K5{R:Type}(rec:Mf→Option R) (kx:Ex→Mf→Option R) (v:Mf):Option R:=match v with
 |(v,v1,v2) =>
 cond (decide (0<v2)) (
  chk (decide (1+v1.length≤Am)) (
  rec (v,([(UInt8.ofNat ((wr .u8 (wr .u64 (48+(Int.tmod v2 10)))):Int).toNat)]++v1),(wr .u64 (Int.tdiv v2 10))))) (
  kx (.exit 0) (v,v1,v2))
def Ahw(R:Type) (k:Nat):Px R:=pxO [(170,cA Aro)] [] [(3,Ay k Za (K5))] []
def Aag(k:Nat) (x:HV [.int .i64]):Option (HV [.str]):=match x with
 |n =>
 Al (fun rec=>K5 rec (fun e vz=>match vz with|(v3,v4,_)=>match e with
  |.exit 0 =>
  cond (decide (v3<0)) (
   chk (decide ([45].length+v4.length≤Hf)) (
   some ([45]++v4))) (
   some v4)
  |_=>none)) k (n,[(UInt8.ofNat ((wr .u8 (wr .u64 (48+(Int.tmod (Ey n) 10)))):Int).toNat)],(wr .u64 (Int.tdiv (Ey n) 10)))
theorem Awe(k:Nat):FO 149 [.int .i64] [.str] (Aag k):=fR (px:=Ahw _ k) (n:=1) Tryz.func149 rfl (fun cx H=>by
 have h0:Lv cx (Ahw (HV [.str]) k):=lv H (c1 H Ath Af) Ab Aa
 have hlvdigits_0:=lO H h0 (b:=lp Tryz.f149 0) (k:=k) (n:=0) (s:=Za) (step:=K5) (fun _ _ _ (_,_,_)=>by kernel_rfl) Ak
 exact⟨h0,(B7 Ak hlvdigits_0)⟩) fun _=>by kernel_rfl
abbrev Apz (n:Int):Str:=Awj n
def Abn:FT [.int .i64] [.str]:=fun x=>some (Apz x)
theorem Bo3{n:Int}(h:inI n):Ey n=(n.natAbs:Int):=by
 rw [Ar1 h]
 simp only [M8]
 split<;>omega
theorem X6{R:Type}{kx:Ex→Mf→Option R}{n:Int}{b:Str→Option R}(h2:∀out x,kx (.exit 0) (n,out,x)=b out):∀(k a:Nat) (out:Str),(a:Int)≤18446744073709551615→(J4 a).length<k→out.length+(J4 a).length≤1000→Al (fun rec=>K5 rec kx) k (n,out,(a:Int))=b (txt (J4 a)++out)
 |0,a,out,_,h,_=>absurd h (Zm1 _)
 |k+1,a,out,ha,h,ho=>by
  rw [Bh]
  by_cases h0:a=0
  ·subst h0
   simp only [K5,h2]
   rw [Zd1 (by omega),Gk]
   rfl
  ·have hd:=Ls h0
   rw [hd,Zf1] at h ho
   have e1:Int.tmod (a:Int) 10=((a % 10:Nat):Int):=rfl
   have e2:wr .u64 (Int.tdiv (a:Int) 10)=((a / 10:Nat):Int):=by
    have:Int.tdiv (a:Int) 10=((a / 10:Nat):Int):=rfl
    rw [this,J5 (by omega)]
   have ih:=X6 h2 k (a / 10) ([dch ((a % 10:Nat):Int)]++out) (by omega) (by omega) (by simp only [Zh1,Zf1,Zi1];omega)
   simp only [K5,e1,e2,Bju (show 0≤((a % 10:Nat):Int)∧((a % 10:Nat):Int)≤9 by omega),ih]
   rw [Ze1 (show(0:Int)<(a:Int) by omega),Ze1 (show 1+out.length≤Am by simp only [Am];omega),hd,Ta]
   simp [chk]
theorem Aw5:FO 149 [.int .i64] [.str] Abn :=.fin 0 Awe fun n r hb hx=>⟨30,by
 have hb:=C2 hb
 simp only [Abn,Za1] at hx
 subst hx
 have hl:(J4 (n.natAbs / 10)).length≤20:=Aja 20 _ (by
  simp only [inI] at hb
  have:pw 20=100000000000000000000:=by kernel_rfl
  omega)
 have e1:Int.tmod (n.natAbs:Int) 10=((n.natAbs % 10:Nat):Int):=rfl
 have e2:wr .u64 (Int.tdiv (n.natAbs:Int) 10)=((n.natAbs / 10:Nat):Int):=by
  have:Int.tdiv (n.natAbs:Int) 10=((n.natAbs / 10:Nat):Int):=rfl
  simp only [inI] at hb
  rw [this,J5 (by omega)]
 simp only [Aag,Bo3 hb,e1,e2,Bju (show 0≤((n.natAbs % 10:Nat):Int)∧((n.natAbs % 10:Nat):Int)≤9 by omega)]
 refine(X6 (b:=fun out=>cond (decide (n<0)) (chk (decide ([45].length+out.length≤Hf)) (some ([45]++out))) (some out)) (fun _ _=>rfl) 30 (n.natAbs / 10) [dch ((n.natAbs % 10:Nat):Int)] (by simp only [inI] at hb;omega) (by omega) (by simp only [Zf1,Zi1];omega)).trans ?_
 have et:=Bdh n
 have hlen:(txt (J4 (n.natAbs / 10))++[dch ((n.natAbs % 10:Nat):Int)]).length≤21:=by
  rw [Zh1,A19];simp only [Zf1,Zi1];omega
 have hc:decide ([45].length+(txt (J4 (n.natAbs / 10))++[dch ((n.natAbs % 10:Nat):Int)]).length≤Hf)=true:=Ze1 (by simp only [Zf1,Zi1,Hf];omega)
 simp only [hc,chk,Ae]
 rw [et]
 simp only [Apz,Awj]
 by_cases h:n<0
 ·rw [Ze1 h,if_pos h];rfl
 ·rw [Zd1 h,if_neg h];rfl⟩
def quo:Str→Str
 |[]=>[]
 |b::l=>if b=39 then 39::39::quo l else b::quo l
theorem Apw(s:Str):(quo s).length≤2*s.length:=by
 induction s with
 |nil=>simp [quo]
 |cons b l ih =>
  simp only [quo]
  split<;>simp only [Zf1]<;>omega
theorem Am9:∀s:Str,(Lib.index s [39] = -1∧quo s=s)∨∃i:Nat,Lib.index s [39]=(i:Int)∧i<s.length∧quo s=s.take i++[39,39]++quo (s.drop (i+1))
 |[] =>.inl ⟨rfl,rfl⟩
 |b::l=>by
  by_cases h:b=39
  ·subst h
   refine .inr ⟨0,rfl,by simp,by simp [quo]⟩
  ·have hp:List.isPrefixOf [39] (b::l)=false:=by
    simp only [List.isPrefixOf,Bool.and_true]
    exact beq_eq_false_iff_ne.2 (Ne.symm h)
   rcases Am9 l with ⟨h1,h2⟩|⟨i,h1,h2,h3⟩
   ·left
    refine⟨?_,by simp only [quo,if_neg h,h2]⟩
    unfold Lib.index
    rw [hp,h1]
    rfl
   ·right
    refine⟨i+1,?_,by simpa using h2,?_⟩
    ·unfold Lib.index
     rw [hp,h1]
     have:((i:Int) == -1)=false:=beq_eq_false_iff_ne.2 (by omega)
     simp [this]
    ·simp only [quo,if_neg h,h3,List.take_succ_cons,List.drop_succ_cons,Zb2]
theorem Anp:∀(f:Nat) (s:Str),s.length<f→Lib.replaceK [39] [39,39] (Lib.countFrom [39] f s) s=quo s
 |0,s,h=>absurd h (Zm1 _)
 |f+1,s,h=>by
  rcases Am9 s with ⟨h1,h2⟩|⟨i,h1,h2,h3⟩
  ·simp only [Lib.countFrom,h1]
   exact h2.symm
  ·have hn:((i:Int) == -1)=false:=beq_eq_false_iff_ne.2 (by omega)
   have ih:=Anp f (s.drop (i+1)) (by rw [Za2];omega)
   have e:Lib.countFrom [39] (f+1) s=Lib.countFrom [39] f (s.drop (i+1))+1:=by
    simp only [Lib.countFrom,h1,hn,Int.toNat_natCast,Zf1,Zi1]
    simp [Nat.add_comm]
   rw [e,Lib.replaceK_hit _ _ _ _ i h1]
   simp only [Zf1,Zi1,Nat.zero_add]
   rw [ih,h3]
theorem Bie(s:Str):Lib.replaceAll s [39] [39,39]=quo s:=by
 have e:Lib.replaceNum s [39] (-1)=Lib.countFrom [39] (s.length+1) s:=by
  unfold Lib.replaceNum
  rw [if_pos (.inl (by decide))]
  rfl
 have hc:=Anp (s.length+1) s (by omega)
 rw [←e] at hc
 exact hc
theorem A0l{s:Str}(h:s.length≤3000):Ajy s [39] [39,39]=some (quo s):=by
 have h1:=Lib.countB_mul_le ⟨#[39]⟩ (by decide) s.length ⟨s.toArray⟩ (Zn1 _)
 have h2:Lib.count s [39]*1≤s.length:=h1
 have h3:=Apw s
 simp only [Ajy,Bie]
 rw [Ze1 (show s.length<4294967281 by omega),Ze1 (show 1≤([39]:Str).length by decide),Ze1 (show s.length+Lib.count s [39]*([39,39]:Str).length≤140737488355328 by simp only [Zf1,Zi1];omega),Ze1 (show(quo s).length≤maxLen by simp only [maxLen];omega)]
 rfl
def A52(R:Type):Px R:=pxO [(147,cA Aks),(149,cA Abn),(150,cA Akj),(151,cA Aym)] [] [] []
def Ae2(x:HV [.sv .val]):Option (HV [.str]):=match x with
 |v =>
 cond (!(B4 v)) (
  some []) (
  cond (decide (v.kind=2)) (
  chk (inb v.n 2) (
   some (at' .str [[70,65,76,83,69],[84,82,85,69]] v.n))) (
  cond (decide (v.kind=3)) (
   some (Apz v.n)) (
   cond (decide (v.kind=4)) (
   (Ajy v.s [39] [39,39]).bind fun x =>
    chk (decide ([39].length+x.length≤Hf)) (
    chk (decide (([39]++x).length+[39].length≤Hf)) (
     some (([39]++x)++[39])))) (
   cond (decide (v.kind=5)) (
    (Bby v.s).bind fun x1 =>
    chk (decide ([120,39].length+x1.length≤Hf)) (
     chk (decide (([120,39]++x1).length+[39].length≤Hf)) (
     some (([120,39]++x1)++[39])))) (
    some [78,85,76,76])))))
theorem Aya:FO 98 [.sv .val] [.str] (Ae2):=fR (px:=A52 _) (n:=0) Tryz.func98 rfl (fun _ H=>⟨lv H (c1 H Ans (c1 H Aw5 (c1 H A6h (c1 H Bip Af)))) Ab Aa,Ak⟩) fun _=>by kernel_rfl
def Bf(v:Val):Str:=cond (B4 v) (if v.kind=2 then(if v.n=0 then [70,65,76,83,69] else [84,82,85,69]) else if v.kind=3 then Awj v.n else if v.kind=4 then 39::(quo v.s++[39]) else if v.kind=5 then 120::39::(L9 v.s++[39]) else [78,85,76,76]) []
def Aa6:FT [.sv .val] [.str]:=fun x=>some (Bf x)
theorem N5{v:Val}(h:B4 v=true) (hk:v.kind=4∨v.kind=5):v.s.length≤1000:=by
 rcases hk with h4|h5
 ·simp [B4,h4] at h
  omega
 ·simp [B4,h5] at h
  omega
theorem A0p{v:Val}(h:B4 v=true) (hk:v.kind=2):v.n=0∨v.n=1:=by
 by_cases h0:v.n=0
 ·exact .inl h0
 ·by_cases h1:v.n=1
  ·exact .inr h1
  ·simp [B4,hk,h0,h1] at h
theorem Am2:FO 98 [.sv .val] [.str] Aa6 :=.fin0 Aya fun v r _ hx=>by
 simp only [Aa6,Za1] at hx
 subst hx
 simp only [Ae2,Bf]
 cases hr:B4 v with
 |false=>rfl
 |true =>
  simp only [Zt1,Ah,Ae]
  by_cases k2:v.kind=2
  ·rw [Ze1 k2,if_pos k2]
   rcases A0p hr k2 with h|h<;>rw [h]<;>rfl
  ·rw [Zd1 k2,if_neg k2]
   by_cases k3:v.kind=3
   ·rw [Ze1 k3,if_pos k3];rfl
   ·rw [Zd1 k3,if_neg k3]
    by_cases k4:v.kind=4
    ·have hl:=N5 hr (.inl k4)
     have hq:=Apw v.s
     rw [Ze1 k4,if_pos k4]
     simp only [Ae,Ah,A0l (show v.s.length≤3000 by omega),Zc1]
     refine(A24 (Ze1 ?_)).trans ((A24 (Ze1 ?_)).trans rfl)
     ·simp only [Zf1,Zi1,Hf];omega
     ·simp only [Zh1,Zf1,Zi1,Hf];omega
    ·rw [Zd1 k4,if_neg k4]
     by_cases k5:v.kind=5
     ·have hl:=N5 hr (.inr k5)
      have hh:=Zo v.s
      have hv:Bby v.s=some (L9 v.s):=by simp only [Bby];rw [Ze1 (by omega)];rfl
      rw [Ze1 k5,if_pos k5]
      simp only [Ae,Ah,hv,Zc1]
      refine(A24 (Ze1 ?_)).trans ((A24 (Ze1 ?_)).trans rfl)
      ·simp only [Zf1,Zi1,Hf];omega
      ·simp only [Zh1,Zf1,Zi1,Hf];omega
     ·rw [Zd1 k5,if_neg k5];rfl
end Go.Proofs.YthndhaolemgbdaaGreatDoor
namespace Go.Proofs.YthndhaolemgbdaaGreatDoor
open Go.Ax
def Bfi(R:Type):Px R:=pxO [] [] [] []
def Xp(x:HV [.int .i64]):Option (HV [.int .i64]):=match x with
 |kind =>
 let j1:=fun(p1:Bool) =>
  cond (p1) (
  some 0) (
  let j:=fun(p5:Bool) =>
   cond (p5) (
   some 1) (
   cond (!decide ((P8 signsL kind)=[])) (
    some 2) (
    some (-1)))
  cond (decide (kind=3)) (
   j true) (
   cond (decide (kind=15)) (
   j true) (
   j (decide (kind=16)))))
 cond (decide (kind=1)) (
  j1 true) (
  j1 (decide (kind=2)))
theorem A6i:FO 94 [.int .i64] [.int .i64] (Xp):=fR (px:=Bfi _) (n:=0) Tryz.func94 rfl (fun _ H=>⟨lv H Af Ab Aa,Ak⟩) fun _=>by kernel_rfl
def Gy(kind:Int):Int :=
 let j1:=fun(p1:Bool) =>
  cond (p1) (
  0) (
  let j:=fun(p5:Bool) =>
   cond (p5) (
   1) (
   cond (!decide ((P8 signsL kind)=[])) (
    2) (
    (-1)))
  cond (decide (kind=3)) (
   j true) (
   cond (decide (kind=15)) (
   j true) (
   j (decide (kind=16)))))
 cond (decide (kind=1)) (
  j1 true) (
  j1 (decide (kind=2)))
theorem A8q(x:HV [.int .i64]):Xp x=some (Gy x):=by
 first
  |exact rfl
  |simp only [Xp,Gy,Bq]
def Aq9:FT [.int .i64] [.int .i64]:=fun x=>some (Gy x)
theorem As5:FO 94 [.int .i64] [.int .i64] Aq9 :=.fin0 A6i fun x _ _ hx=>(A8q x).trans hx
end Go.Proofs.YthndhaolemgbdaaGreatDoor
namespace Go.Proofs.YthndhaolemgbdaaGreatDoor
open Go.Ax
mutual
def Bi:Xpr→Nat
 |.mk _ _ _ l=>1+esizes l
def esizes:List Xpr→Nat
 |[]=>0
 |x::l=>1+Bi x+esizes l
end
theorem E7:∀{l:List Xpr}{x:Xpr},x∈l→Bi x<esizes l
 |y::l,x,h=>by
  simp only [List.mem_cons] at h
  simp only [esizes]
  rcases h with rfl|h
  ·omega
  ·have:=E7 h;omega
theorem Qy:∀(l:List Xpr),l.length≤esizes l
 |[]=>by simp
 |x::l=>by have:=Qy l;simp only [esizes,Zf1];omega
theorem Hw(e:Xpr) : 0<Bi e:=by cases e;simp only [Bi];omega
theorem Ln(e:Xpr):Bi e=1+esizes e.l:=by cases e;simp only [Bi,Xpr.l]
theorem Ae9{e:Xpr}(h:BdExpr e):ln e.l.length∧∀x,x∈e.l→BdExpr x:=by
 obtain⟨_,_,_,_,_,_,_,h4,h5⟩:=h
 exact⟨h4,h5⟩
theorem Bns{e:Xpr}(h:BdExpr e):A3k e.v∧inI e.kind∧ln e.name.length:=by
 obtain⟨_,_,_,_,h1,h2,h3,_,_⟩:=h
 exact⟨h2,h1,h3⟩
def Ae5:Sig:=⟨19,[(0,.sl .expr false),(4,.int .i64),(7,.int .i64),(8,.int .i64)],[(1,.fn 97 [.ptr 1 0])],[(1,.cells [.int .i64])],80,80,400,[],[]⟩
abbrev P5:=List Xpr×Int×Int×Int×Int
def N2{R:Type}(rf:FT [.sv .expr,.int .i64] [.bool]) (rec:P5→Option R) (kx:Ex→P5→Option R) (v:P5):Option R:=match v with
 |(v,v1,v2,v3,w) =>
 cond (decide (v3<v2)) (
  chk (inb v3 v.length) (
  (rf ((at' .expr v v3),(wr .i64 (w-1)))).bind fun x =>
   cond (!x) (
   kx .ret (v,v3,v2,v3,w)) (
   rec (v,v1,v2,(wr .i64 (v3+1)),w)))) (
  kx (.exit 0) (v,v1,v2,v3,w))
def Rb(R:Type) (_k:Nat) (rf:FT [.sv .expr,.int .i64] [.bool]):Px R:=pxO [(39,cA rf)] [] [] []
noncomputable def Wt (R:Type) (k:Nat) (rf:FT [.sv .expr,.int .i64] [.bool]):Px R:=pxO [(97,Az 120 600 (Rb R k rf) Tryz.f97)] [] [(2,Ay k Ae5 (N2 rf))] []
noncomputable def Aee (R:Type) (k:Nat) (rf:FT [.sv .expr,.int .i64] [.bool]):Px R:=pxO [(148,Az 80 400 (Wt R k rf) Tryz.f148)] [] [] []
noncomputable def Ant (R:Type) (k:Nat) (rf:FT [.sv .expr,.int .i64] [.bool]):Px R:=pxO [(95,cA Aho),(63,cA Pq),(96,Az 40 200 (Aee R k rf) Tryz.f96)] [(94,qA Aq9)] [] []
def Hv(k:Nat) (rf:FT [.sv .expr,.int .i64] [.bool]) (x:HV [.sv .expr,.int .i64]):Option (HV [.bool]):=match x with
 |(e,most) =>
 cond (decide (most=0)) (
  some false) (
  cond (!decide ((e.l.length:Int)=(Gy e.kind))) (
  some false) (
  let j2:=fun(_:Unit) =>
   let j1:=fun(_:Unit) =>
   Al (fun rec=>N2 rf rec (fun e vz=>match vz with|(_,v5,_,_,_)=>match e with
    |.ret =>
    some (!(decide (0≤v5)))
    |.exit 0 =>
    some true
    |_=>none)) k (e.l,0,(e.l.length:Int),0,most)
   let j:=fun(p5:Bool) =>
   cond (p5) (
    some false) (
    cond (!decide (e.kind=2)) (
    cond (!decide (e.name=[])) (
     some false) (
     j1 ())) (
    j1 ()))
   cond (decide (e.kind=2)) (
   j (!(Bm e.name))) (
   j false)
  cond (decide (e.kind=1)) (
   cond (!decide ((P2 e.v)=0)) (
   some false) (
   cond (decide (e.v.kind=3)) (
    cond (decide (e.v.n<0)) (
    some false) (
    j2 ())) (
    j2 ()))) (
   cond (!decide (e.v=(Val.mk 0 0 []))) (
   some false) (
   j2 ()))))
theorem Ayj(k:Nat) (rf:FT [.sv .expr,.int .i64] [.bool]) (hrf:FO 39 [.sv .expr,.int .i64] [.bool] rf):FO 39 [.sv .expr,.int .i64] [.bool] (Hv k rf):=fR (px:=Ant _ k rf) (n:=0) Tryz.func39 rfl (fun cx H=>by
 have h3:Lv cx (Rb (HV [.bool]) k rf):=lv H (c1 H hrf Af) Ab Aa
 have h2:Lv cx (Wt (HV [.bool]) k rf):=lv H (Aq (cR H h3 Tryz.func97 rfl (n:=0) (Ak)) Af) Ab Aa
 have hleright_0:=lO H h2 (b:=lp Tryz.f148 0) (k:=k) (n:=0) (s:=Ae5) (step:=N2 rf) (fun _ _ _ (_,_,_,_,_)=>by kernel_rfl) Ak
 have h1:Lv cx (Aee (HV [.bool]) k rf):=lv H (Aq (cR H h2 Tryz.func148 rfl (n:=1) ((B7 Ak hleright_0))) Af) Ab Aa
 have h0:Lv cx (Ant (HV [.bool]) k rf):=lv H (c1 H Amk (c1 H R0 (Aq (cR H h1 Tryz.func96 rfl (n:=0) (Ak)) Af))) (q1 H As5 Ab) Aa
 exact⟨h0,Ak⟩) fun(_,_)=>by kernel_rfl
def eok(k:Int) (v:Val) (nm:Str):Bool:=cond (decide (k=1)) (decide (P2 v=0) && !(decide (v.kind=3)&&decide (v.n<0))) (decide (v=⟨0,0,[]⟩))&&cond (decide (k=2)) (Bm nm) (decide (nm=[]))
mutual
def Bl:Xpr→Int→Bool
 |.mk k v nm l,m => !decide (m=0)&&decide ((l.length:Int)=Gy k)&&eok k v nm&&erights l (wr .i64 (m-1))
def erights:List Xpr→Int→Bool
 |[],_=>true
 |x::l,m=>Bl x m&&erights l m
end
def N3:FT [.sv .expr,.int .i64] [.bool]:=fun x=>some (Bl x.1 x.2)
theorem Adm{R:Type}{rf:FT [.sv .expr,.int .i64] [.bool]}{kx:Ex→P5→Option R}{l:List Xpr}{m:Int}{a b:Option R}(hn:ln l.length) (hrf:∀x,x∈l→rf (x,wr .i64 (m-1))=some (Bl x (wr .i64 (m-1)))) (h1:∀(j:Nat),kx .ret (l,(j:Int),(l.length:Int),(j:Int),m)=a) (h2:∀q j,kx (.exit 0) (l,q,(l.length:Int),j,m)=b):∀(k i:Nat) q,i≤l.length→l.length-i<k→Al (fun rec=>N2 rf rec kx) k (l,q,(l.length:Int),(i:Int),m)=cond (erights (l.drop i) (wr .i64 (m-1))) b a
 |0,i,q,_,h=>by omega
 |k+1,i,q,hi,h=>by
  rw [Bh]
  by_cases hl:i<l.length
  ·have ih:=Adm hn hrf h1 h2 k (i+1) q (by omega) (by omega)
   simp only [N2,A3 hl hn,ih,h1,Av hl,Bc (c :=.expr) hl,Be hl,chk,Ae,Bool.cond_decide,erights,hrf _ (List.getElem_mem hl),Zc1]
   rw [if_pos (by omega)]
   cases Bl l[i] (wr .i64 (m-1))<;>rfl
  ·simp only [N2,h2,Bool.cond_decide]
   rw [if_neg (by omega),Zk1 (by omega)]
   rfl
theorem Anz(e:Xpr) (m:Int):Bl e m=(!decide (m=0)&&decide ((e.l.length:Int)=Gy e.kind)&&eok e.kind e.v e.name&&erights e.l (wr .i64 (m-1))):=by
 cases e
 simp only [Bl]
 rfl
theorem Agy(k:Nat):∀(n:Nat) (e:Xpr) (m:Int),BdExpr e→Bi e≤n→Bi e≤k→Al (Hv k) n (e,m)=some (Bl e m)
 |0,e,m,_,h,_=>by have:=Hw e;omega
 |n+1,e,m,hb,h,hk=>by
  obtain⟨hb4,hb5⟩:=Ae9 hb
  rw [Ln] at h hk
  have hl:=Qy e.l
  have hrf:∀x,x∈e.l→∀m,Al (Hv k) n (x,m)=some (Bl x m):=fun x hx m=>Agy k n x m (hb5 x hx) (by have:=E7 hx;omega) (by have:=E7 hx;omega)
  have hloop:=Adm (R:=Bool) (rf:=Al (Hv k) n) (l:=e.l) (m:=m) (a:=some false) (b:=some true) (kx:=fun e v=>match v with
   |(_,v5,_,_,_)=>match e with
    |.ret=>some (!(decide (0≤v5)))
    |.exit 0=>some true
    |_=>none) hb4 (fun x hx=>hrf x hx _) (fun j=>by simp) (fun _ _=>rfl) k 0 0 (Nat.zero_le _) (by omega)
  have e0:((0:Nat):Int)=0:=rfl
  rw [e0] at hloop
  rw [Bh,Anz]
  simp only [Hv] at hloop ⊢
  rw [hloop]
  simp only [Zq1,eok]
  by_cases hm:m=0
  ·simp [hm]
  ·rw [Zd1 hm]
   simp only [Ah,Zs1,Bool.true_and]
   by_cases hp:(e.l.length:Int)=Gy e.kind
   ·rw [Ze1 hp]
    by_cases h1:e.kind=1
    ·have h2:¬e.kind=2:=by omega
     rw [Ze1 h1,Zd1 h2]
     simp only [Ae,Ah,Zs1,Zt1,Bool.true_and]
     cases decide (P2 e.v=0)<;>cases decide (e.v.kind=3)<;>cases decide (e.v.n<0)<;>cases decide (e.name=[])<;>cases erights e.l (wr .i64 (m-1))<;>rfl
    ·rw [Zd1 h1]
     simp only [Ah,Zt1,Bool.true_and]
     cases decide (e.v=Val.mk 0 0 [])<;>cases decide (e.kind=2)<;>cases decide (e.name=[])<;>cases Bm e.name<;>cases erights e.l (wr .i64 (m-1))<;>rfl
   ·rw [Zd1 hp];rfl
theorem Of:FO 39 [.sv .expr,.int .i64] [.bool] N3:=by
 refine .fin (ι:=Nat) 0 (F:=fun n=>Al (Hv n) n) (fun n=>FnOk.rec' (Sx.enters_of Tryz.func39 rfl rfl) (fun rf hrf=>Ayj n rf hrf) n) fun(e,m) r hb hx=>⟨Bi e,?_⟩
 exact(Agy (Bi e) (Bi e) e m hb.1 (Zn1 _) (Zn1 _)).trans hx
def Beu(R:Type):Px R:=pxO [(39,cA N3)] [] [] []
def Xv(x:HV [.sv .expr]):Option (HV [.int .i64]):=match x with
 |e =>
 cond (!(Bl e 30)) (
  some 2) (
  some 0)
theorem A8i:FO 18 [.sv .expr] [.int .i64] (Xv):=fR (px:=Beu _) (n:=0) Tryz.func18 rfl (fun _ H=>⟨lv H (c1 H Of Af) Ab Aa,Ak⟩) fun _=>by kernel_rfl
def Ata(e:Xpr):Int :=
 cond (!(Bl e 30)) (
  2) (
  0)
theorem A7k(x:HV [.sv .expr]):Xv x=some (Ata x):=by
 first
  |exact rfl
  |simp only [Xv,Ata,Bq]
def A3w:FT [.sv .expr] [.int .i64]:=fun x=>some (Ata x)
theorem A82:FO 18 [.sv .expr] [.int .i64] A3w :=.fin0 A8i fun x _ _ hx=>(A7k x).trans hx
mutual
def Bc6:Xpr→Int→Int
 |.mk _ v nm l,most=>muchL l most (wr .i64 (1+wr .i64 (Int.tdiv (wr .i64 ((v.s.length:Int)+(nm.length:Int))) 30)))
def muchL:List Xpr→Int→Int→Int
 |[],_,n=>n
 |x::l,most,n=>cond (decide (n<most)) (muchL l most (wr .i64 (n+Bc6 x (wr .i64 (most-n))))) n
end
end Go.Proofs.YthndhaolemgbdaaGreatDoor
namespace Go.Proofs.YthndhaolemgbdaaGreatDoor
open Go.Ax
mutual
def Hp:Xpr→Xpr→Bool
 |.mk k v n l,.mk k' v' n' l'=>decide (k=k')&&decide (v=v')&&decide (n=n')&&xsames l l'
def xsames:List Xpr→List Xpr→Bool
 |[],[]=>true
 |x::l,y::m=>Hp x y&&xsames l m
 |_,_=>false
end
mutual
theorem Ac2:∀a b:Xpr,Hp a b=true↔a=b
 |.mk k v n l,.mk k' v' n' l'=>by
  simp only [Hp,Zb1,Zg1,xsames_iff l l',Xpr.mk.injEq]
  constructor
  ·rintro⟨⟨⟨h1,h2⟩,h3⟩,h4⟩;exact⟨h1,h2,h3,h4⟩
  ·rintro⟨h1,h2,h3,h4⟩;exact⟨⟨⟨h1,h2⟩,h3⟩,h4⟩
theorem xsames_iff:∀a b:List Xpr,xsames a b=true↔a=b
 |[],[]=>by simp [xsames]
 |x::l,y::m=>by simp only [xsames,Zb1,Ac2 x y,xsames_iff l m,Ze2]
 |[],_::_=>by simp [xsames]
 |_::_,[]=>by simp [xsames]
end
instance:DecidableEq Xpr:=fun a b=>decidable_of_iff (Hp a b=true) (Ac2 a b)
theorem I8(a b:Xpr):Hp a b=decide (a=b):=by
 rw [Bool.eq_iff_iff,Ac2,Zg1]
theorem Ahi{a b:List Xpr}(h:xsames a b=true):a.length=b.length:=by rw [(xsames_iff a b).1 h]
theorem Asg(a b:Xpr):Hp a b=(decide (a.kind=b.kind)&&decide (a.v=b.v)&&decide (a.name=b.name)&&xsames a.l b.l):=by
 cases a;cases b
 simp only [Hp]
 rfl
def Ake:Sig:=⟨32,[(1,.sl .expr false),(6,.bool),(15,.sl .expr false),(16,.int .i64),(17,.int .i64)],[(2,.fn 20 [])],[],40,40,200,[],[]⟩
abbrev Vl:=List Xpr×Bool×List Xpr×Int×Int
def Uz{R:Type}(rf:FT [.sv .expr,.sv .expr] [.bool]) (rec:Vl→Option R) (kx:Ex→Vl→Option R) (v:Vl):Option R:=match v with
 |(v,v1,v2,v3,v4) =>
 cond (decide (v4<v3)) (
  chk (inb v4 v2.length) (
  chk (inb v4 v.length) (
   (rf ((at' .expr v2 v4),(at' .expr v v4))).bind fun x =>
   cond (!x) (
    kx .ret (v,false,v2,v3,v4)) (
    rec (v,v1,v2,v3,(wr .i64 (v4+1))))))) (
  kx (.exit 0) (v,v1,v2,v3,v4))
def Ahb(R:Type) (k:Nat) (rf:FT [.sv .expr,.sv .expr] [.bool]):Px R:=pxO [(20,cA rf)] [] [(4,Ay k Ake (Uz rf))] []
noncomputable def Auq (R:Type) (k:Nat) (rf:FT [.sv .expr,.sv .expr] [.bool]):Px R:=pxO [(47,Az 40 200 (Ahb R k rf) Tryz.f47)] [] [] []
def I7(k:Nat) (rf:FT [.sv .expr,.sv .expr] [.bool]) (x:HV [.sv .expr,.sv .expr]):Option (HV [.bool]):=match x with
 |(a,b) =>
 let j1:=fun(p:Bool) =>
  let j:=fun(p1:Bool) =>
  cond (p1) (
   cond (!decide ((a.l.length:Int)=(b.l.length:Int))) (
   some false) (
   Al (fun rec=>Uz rf rec (fun e vz=>match vz with|(_,v6,_,_,_)=>match e with
    |.ret =>
    some v6
    |.exit 0 =>
    some true
    |_=>none)) k (b.l,false,a.l,(a.l.length:Int),0))) (
   some false)
  cond (p) (
  j (decide (a.name=b.name))) (
  j false)
 cond (decide (a.kind=b.kind)) (
  j1 (decide (a.v=b.v))) (
  j1 false)
theorem A6b(k:Nat) (rf:FT [.sv .expr,.sv .expr] [.bool]) (hrf:FO 20 [.sv .expr,.sv .expr] [.bool] rf):FO 20 [.sv .expr,.sv .expr] [.bool] (I7 k rf):=fR (px:=Auq _ k rf) (n:=0) Tryz.func20 rfl (fun cx H=>by
 have h1:Lv cx (Ahb (HV [.bool]) k rf):=lv H (c1 H hrf Af) Ab Aa
 have hlasame_0:=lO H h1 (b:=lp Tryz.f47 0) (k:=k) (n:=0) (s:=Ake) (step:=Uz rf) (fun _ _ _ (_,_,_,_,_)=>by kernel_rfl) Ak
 have h0:Lv cx (Auq (HV [.bool]) k rf):=lv H (Aq (cR H h1 Tryz.func47 rfl (n:=1) ((B7 Ak hlasame_0))) Af) Ab Aa
 exact⟨h0,Ak⟩) fun(_,_)=>by kernel_rfl
def Tq(a b:Xpr):Bool:=Hp a b
def Uf:FT [.sv .expr,.sv .expr] [.bool]:=fun x=>some (Tq x.1 x.2)
theorem Aws{R:Type}{rf:FT [.sv .expr,.sv .expr] [.bool]}{kx:Ex→Vl→Option R}{l m:List Xpr}{c:Bool→Option R}(hn:ln l.length) (hm:l.length=m.length) (hrf:∀x,x∈l→∀y,y∈m→rf (x,y)=some (Hp x y))
  (h1:∀i,kx .ret (m,false,l,(l.length:Int),i)=c false) (h2:∀q i,kx (.exit 0) (m,q,l,(l.length:Int),i)=c true) (k:Nat) (hk:l.length<k):Al (fun rec=>Uz rf rec kx) k (m,false,l,(l.length:Int),0)=c (xsames l m):=by
 refine(Cy l.length (fun i=>(m,false,l,(l.length:Int),(i:Int))) (fun i=>c (xsames (l.drop i) (m.drop i))) (fun i hi rec hr =>?_) (fun rec =>?_) k 0 (Nat.zero_le _) (by omega)).trans (by rw [Zq1,Zq1])
 ·have hi2:i<m.length:=by omega
  simp only [Uz,Gb hi,Ae,Be hi,Be hi2,chk,Bc (c :=.expr) hi,Bc (c :=.expr) hi2,hrf _ (List.getElem_mem hi) _ (List.getElem_mem hi2),Zc1,A3 hi hn,hr,h1,Av hi,Av hi2,xsames]
  cases Hp l[i] m[i]<;>rfl
 ·simp only [Uz,Fz,Ah,h2]
  rw [Zk1 (Zn1 _),Zk1 (by omega)]
  rfl
theorem Aov(k:Nat):∀(n:Nat) (a b:Xpr),BdExpr a→BdExpr b→Bi a≤n→Bi a≤k→Al (I7 k) n (a,b)=some (Hp a b)
 |0,a,b,_,_,h,_=>by have:=Hw a;omega
 |n+1,a,b,ha,hb,h,hk=>by
  obtain⟨hb4,hb5⟩:=Ae9 ha
  obtain⟨hc4,hc5⟩:=Ae9 hb
  rw [Ln] at h hk
  have hl:=Qy a.l
  have hrf:∀x,x∈a.l→∀y,y∈b.l→Al (I7 k) n (x,y)=some (Hp x y):=fun x hx y hy=>Aov k n x y (hb5 x hx) (hc5 y hy) (by have:=E7 hx;omega) (by have:=E7 hx;omega)
  rw [Bh,Asg]
  simp only [I7]
  by_cases hlen:a.l.length=b.l.length
  ·have hloop:=Aws (R:=Bool) (rf:=Al (I7 k) n) (l:=a.l) (m:=b.l) (c:=some) (kx:=fun e v=>match v with
    |(_,v6,_,_,_)=>match e with
     |.ret=>some v6
     |.exit 0=>some true
     |_=>none) hb4 hlen hrf (fun _=>rfl) (fun _ _=>rfl) k (by omega)
   rw [hloop,Ze1 (show(a.l.length:Int)=(b.l.length:Int) by omega)]
   cases decide (a.kind=b.kind)<;>cases decide (a.v=b.v)<;>cases decide (a.name=b.name)<;>cases xsames a.l b.l<;>rfl
  ·have hno:xsames a.l b.l=false:=by
    cases hs:xsames a.l b.l with
    |false=>rfl
    |true=>exact absurd (Ahi hs) hlen
   rw [hno,Zd1 (show ¬(a.l.length:Int)=(b.l.length:Int) by omega)]
   cases decide (a.kind=b.kind)<;>cases decide (a.v=b.v)<;>cases decide (a.name=b.name)<;>rfl
theorem Sz:FO 20 [.sv .expr,.sv .expr] [.bool] Uf:=by
 refine .fin (ι:=Nat) 0 (F:=fun n=>Al (I7 n) n) (fun n=>FnOk.rec' (Sx.enters_of Tryz.func20 rfl rfl) (fun rf hrf=>A6b n rf hrf) n) fun(a,b) r hb hx=>⟨Bi a,?_⟩
 exact(Aov (Bi a) (Bi a) a b hb.1 hb.2 (Zn1 _) (Zn1 _)).trans hx
def Ajq:Sig:=⟨53,[(4,.bool),(5,.int .i64)],[(2,.ptr 0 0),(3,.ptr 1 0)],[(0,.one (.sv .expr)),(1,.one (.sv .expr))],2,0,0,[],[]⟩
abbrev Vp:=Bool×Int×Xpr×Xpr
def Vj{R:Type}(rf:FT [.sv .expr,.sv .expr] [.bool]) (rec:Vp→Option R) (kx:Ex→Vp→Option R) (v:Vp):Option R:=match v with
 |(v,v1,w,w1) =>
 cond (decide (v1<(w.l.length:Int))) (
  chk (inb v1 w.l.length) (
  chk (inb v1 w1.l.length) (
   (rf ((at' .expr w.l v1),(at' .expr w1.l v1))).bind fun x =>
   cond (!x) (
    kx .ret (false,v1,w,w1)) (
    rec (v,(wr .i64 (v1+1)),w,w1))))) (
  kx (.exit 0) (v,v1,w,w1))
def Ate(R:Type) (k:Nat) (rf:FT [.sv .expr,.sv .expr] [.bool]):Px R:=pxO [(21,cA rf)] [] [(4,Ay k Ajq (Vj rf))] []
def I9(k:Nat) (rf:FT [.sv .expr,.sv .expr] [.bool]) (x:HV [.sv .expr,.sv .expr]):Option (HV [.bool]):=match x with
 |(a,b) =>
 let j:=fun(p:Bool) =>
  cond (p) (
  some false) (
  cond (!decide (a.name=b.name)) (
   some false) (
   cond (!decide ((a.l.length:Int)=(b.l.length:Int))) (
   some false) (
   Al (fun rec=>Vj rf rec (fun e vz=>match vz with|(v2,_,_,_)=>match e with
    |.ret =>
    some v2
    |.exit 0 =>
    some true
    |_=>none)) k (false,0,a,b))))
 cond (!decide (a.kind=b.kind)) (
  j true) (
  j (!decide (a.v=b.v)))
theorem A7u(k:Nat) (rf:FT [.sv .expr,.sv .expr] [.bool]) (hrf:FO 21 [.sv .expr,.sv .expr] [.bool] rf):FO 21 [.sv .expr,.sv .expr] [.bool] (I9 k rf):=fR (px:=Ate _ k rf) (n:=1) Tryz.func21 rfl (fun cx H=>by
 have h0:Lv cx (Ate (HV [.bool]) k rf):=lv H (c1 H hrf Af) Ab Aa
 have hlrsame_0:=lO H h0 (b:=lp Tryz.f21 0) (k:=k) (n:=0) (s:=Ajq) (step:=Vj rf) (fun _ _ _ (_,_,_,_)=>by kernel_rfl) Ak
 exact⟨h0,(B7 Ak hlrsame_0)⟩) fun(_,_)=>by kernel_rfl
def Amu(a b:Xpr):Bool:=Hp a b
def Aqq:FT [.sv .expr,.sv .expr] [.bool]:=fun x=>some (Amu x.1 x.2)
theorem Axe{R:Type}{rf:FT [.sv .expr,.sv .expr] [.bool]}{kx:Ex→Vp→Option R}{a b:Xpr}{c:Bool→Option R}(hn:ln a.l.length) (hm:a.l.length=b.l.length) (hrf:∀x,x∈a.l→∀y,y∈b.l→rf (x,y)=some (Hp x y))
  (h1:∀i,kx .ret (false,i,a,b)=c false) (h2:∀q i,kx (.exit 0) (q,i,a,b)=c true) (k:Nat) (hk:a.l.length<k):Al (fun rec=>Vj rf rec kx) k (false,0,a,b)=c (xsames a.l b.l):=by
 refine(Cy a.l.length (fun i=>(false,(i:Int),a,b)) (fun i=>c (xsames (a.l.drop i) (b.l.drop i))) (fun i hi rec hr =>?_) (fun rec =>?_) k 0 (Nat.zero_le _) (by omega)).trans (by rw [Zq1,Zq1])
 ·have hi2:i<b.l.length:=by omega
  simp only [Vj,Gb hi,Ae,Be hi,Be hi2,chk,Bc (c :=.expr) hi,Bc (c :=.expr) hi2,hrf _ (List.getElem_mem hi) _ (List.getElem_mem hi2),Zc1,A3 hi hn,hr,h1,Av hi,Av hi2,xsames]
  cases Hp a.l[i] b.l[i]<;>rfl
 ·simp only [Vj,Fz,Ah,h2]
  rw [Zk1 (Zn1 _),Zk1 (by omega)]
  rfl
theorem Alk(k:Nat):∀(n:Nat) (a b:Xpr),BdExpr a→BdExpr b→Bi a≤n→Bi a≤k→Al (I9 k) n (a,b)=some (Hp a b)
 |0,a,b,_,_,h,_=>by have:=Hw a;omega
 |n+1,a,b,ha,hb,h,hk=>by
  obtain⟨hb4,hb5⟩:=Ae9 ha
  obtain⟨hc4,hc5⟩:=Ae9 hb
  rw [Ln] at h hk
  have hl:=Qy a.l
  have hrf:∀x,x∈a.l→∀y,y∈b.l→Al (I9 k) n (x,y)=some (Hp x y):=fun x hx y hy=>Alk k n x y (hb5 x hx) (hc5 y hy) (by have:=E7 hx;omega) (by have:=E7 hx;omega)
  rw [Bh,Asg]
  simp only [I9]
  by_cases hlen:a.l.length=b.l.length
  ·have hloop:=Axe (R:=Bool) (rf:=Al (I9 k) n) (a:=a) (b:=b) (c:=some) (kx:=fun e v=>match v with
    |(v2,_,_,_)=>match e with
     |.ret=>some v2
     |.exit 0=>some true
     |_=>none) hb4 hlen hrf (fun _=>rfl) (fun _ _=>rfl) k (by omega)
   rw [hloop,Ze1 (show(a.l.length:Int)=(b.l.length:Int) by omega)]
   cases decide (a.kind=b.kind)<;>cases decide (a.v=b.v)<;>cases decide (a.name=b.name)<;>cases xsames a.l b.l<;>rfl
  ·have hno:xsames a.l b.l=false:=by
    cases hs:xsames a.l b.l with
    |false=>rfl
    |true=>exact absurd (Ahi hs) hlen
   rw [hno,Zd1 (show ¬(a.l.length:Int)=(b.l.length:Int) by omega)]
   cases decide (a.kind=b.kind)<;>cases decide (a.v=b.v)<;>cases decide (a.name=b.name)<;>rfl
theorem Au6:FO 21 [.sv .expr,.sv .expr] [.bool] Aqq:=by
 refine .fin (ι:=Nat) 0 (F:=fun n=>Al (I9 n) n) (fun n=>FnOk.rec' (Sx.enters_of Tryz.func21 rfl rfl) (fun rf hrf=>A7u n rf hrf) n) fun(a,b) r hb hx=>⟨Bi a,?_⟩
 exact(Alk (Bi a) (Bi a) a b hb.1 hb.2 (Zn1 _) (Zn1 _)).trans hx
end Go.Proofs.YthndhaolemgbdaaGreatDoor
namespace Go.Proofs.YthndhaolemgbdaaGreatDoor
open Go.Ax
def Amd:Sig:=⟨19,[(0,.sl .str false),(1,.str),(4,.int .i64),(7,.int .i64),(8,.int .i64)],[],[],0,0,0,[],[]⟩
abbrev Aah:=List Str×Str×Int×Int×Int
def Ab9{R:Type}(rec:Aah→Option R) (kx:Ex→Aah→Option R) (v:Aah):Option R:=match v with
 |(v,v1,v2,v3,v4) =>
 cond (decide (v4<v3)) (
  chk (inb v4 v.length) (
  cond (decide (v1=(at' .str v v4))) (
   kx .ret (v,v1,v4,v3,v4)) (
   rec (v,v1,v2,v3,(wr .i64 (v4+1)))))) (
  kx (.exit 0) (v,v1,v2,v3,v4))
def A36(R:Type) (k:Nat):Px R:=pxO [] [] [(2,Ay k Amd (Ab9))] []
def Aok(k:Nat) (x:HV [.sl .str false,.str]):Option (HV [.int .i64]):=match x with
 |(l,s) =>
 Al (fun rec=>Ab9 rec (fun e vz=>match vz with|(_,_,v7,_,_)=>match e with
  |.ret =>
  some v7
  |.exit 0 =>
  some (-1)
  |_=>none)) k (l,s,0,(l.length:Int),0)
theorem Bdu(k:Nat):FO 100 [.sl .str false,.str] [.int .i64] (Aok k):=fR (px:=A36 _ k) (n:=1) Tryz.func100 rfl (fun cx H=>by
 have h0:Lv cx (A36 (HV [.int .i64]) k):=lv H Af Ab Aa
 have hlsidx_0:=lO H h0 (b:=lp Tryz.f100 0) (k:=k) (n:=0) (s:=Amd) (step:=Ab9) (fun _ _ _ (_,_,_,_,_)=>by kernel_rfl) Ak
 exact⟨h0,(B7 Ak hlsidx_0)⟩) fun(_,_)=>by kernel_rfl
def Bjy(l:List Str) (s:Str):Int:=Lp.idx s l 0
def Ay8:FT [.sl .str false,.str] [.int .i64]:=fun x=>some (Bjy x.1 x.2)
theorem An8{R:Type}{kx:Ex→Aah→Option R}{l:List Str}{s:Str}{c:Int→Option R}(hl:ln l.length) (h1:∀(r:Int) (i:Int),kx .ret (l,s,r,(l.length:Int),i)=c r) (h2:∀q:Int,kx (.exit 0) (l,s,q,(l.length:Int),(l.length:Int))=c (-1)) :
  ∀(k i:Nat) (q:Int),i≤l.length→l.length-i<k→Al (fun rec=>Ab9 rec kx) k (l,s,q,(l.length:Int),(i:Int))=c (Lp.idx s (l.drop i) i)
 |0,i,_,_,h=>absurd h (Zm1 _)
 |k+1,i,q,hi,h=>by
  rw [Bh]
  by_cases hlt:i<l.length
  ·have ih:=An8 hl h1 h2 k (i+1) q (by omega) (by omega)
   have e1:decide ((i:Int)<(l.length:Int))=true:=Ze1 (by omega)
   have en:((i+1:Nat):Int)=(i:Int)+1:=by omega
   simp only [Ab9,e1,Ae,Be hlt,chk,Bc (c :=.str) hlt,A3 hlt hl,ih,h1]
   rw [Av hlt,Lp.idx,en]
   by_cases hx:s=l[i]
   ·rw [Ze1 hx,if_pos hx,Ae]
   ·rw [Zd1 hx,if_neg hx,Ah]
  ·have hi:i=l.length:=by omega
   subst hi
   simp only [Ab9,Zd1 (show ¬((l.length:Nat):Int)<(l.length:Int) by omega),Ah,h2,Zc2,Lp.idx]
theorem Bhv:FO 100 [.sl .str false,.str] [.int .i64] Ay8 :=.fin 0 Bdu fun(l,s) r hb hx=>⟨l.length+1,by
 simp only [Ay8,Za1] at hx
 rw [←hx]
 simp only [Aok]
 exact An8 (c:=fun q=>some q) hb.1.1 (fun _ _=>rfl) (fun _=>rfl) (l.length+1) 0 0 (Nat.zero_le _) (by omega)⟩
def Biu(R:Type):Px R:=pxO [(100,cA Ay8)] [] [] []
def Acc(x:HV [.sl .str false,.str]):Option (HV [.bool]):=match x with
 |(l,s) =>
 some (decide (0≤(Bjy l s)))
theorem Bev:FO 44 [.sl .str false,.str] [.bool] (Acc):=fR (px:=Biu _) (n:=0) Tryz.func44 rfl (fun _ H=>⟨lv H (c1 H Bhv Af) Ab Aa,Ak⟩) fun(_,_)=>by kernel_rfl
def Asj(l:List Str) (s:Str):Bool :=
 (decide (0≤(Bjy l s)))
theorem Ba8(x:HV [.sl .str false,.str]):Acc x=some (Asj x.1 x.2):=by
 first
  |exact rfl
  |simp only [Acc,Asj,Bq]
def Axs:FT [.sl .str false,.str] [.bool]:=fun x=>some (Asj x.1 x.2)
theorem A1s:FO 44 [.sl .str false,.str] [.bool] Axs :=.fin0 Bev fun x _ _ hx=>(Ba8 x).trans hx
theorem A17(l:List Str) (s:Str):Asj l s=l.contains s:=by
 have e:Asj l s=decide (0≤Lp.idx s l 0):=rfl
 rw [e,Bool.eq_iff_iff,Zg1,Lp.idx_ge s l 0 (Int.le_refl 0)]
 simp
end Go.Proofs.YthndhaolemgbdaaGreatDoor
namespace Go.Proofs.YthndhaolemgbdaaGreatDoor
open Go.Ax
end Go.Proofs.YthndhaolemgbdaaGreatDoor
namespace Go.Proofs.YthndhaolemgbdaaGreatDoor
open Go.Ax
theorem W0(k:Int):(Gy k=0∧(k=1∨k=2))∨(Gy k=1∧(k=3∨k=15∨k=16))∨(Gy k=2∧4≤k∧k≤14)∨Gy k = -1:=by
 by_cases h1:k=1
 ·subst h1;left;decide
 by_cases h2:k=2
 ·subst h2;left;decide
 by_cases h3:k=3
 ·subst h3;right;left;decide
 by_cases h15:k=15
 ·subst h15;right;left;decide
 by_cases h16:k=16
 ·subst h16;right;left;decide
 right;right
 by_cases h : 4≤k∧k≤14
 ·left
  refine⟨?_,h⟩
  have:k=4∨k=5∨k=6∨k=7∨k=8∨k=9∨k=10∨k=11∨k=12∨k=13∨k=14:=by omega
  rcases this with rfl|rfl|rfl|rfl|rfl|rfl|rfl|rfl|rfl|rfl|rfl<;>decide
 ·right
  have hm:P8 signsL k=[]:=by
   simp only [signsL,P8]
   rw [Zd1 (by omega),Zd1 (by omega),Zd1 (by omega),Zd1 (by omega),Zd1 (by omega),Zd1 (by omega),Zd1 (by omega),Zd1 (by omega),Zd1 (by omega),Zd1 (by omega),Zd1 (by omega)]
  simp [Gy,hm,h1,h2,h3,h15,h16]
theorem Gf{e:Xpr}{m:Int}(h:Bl e m=true):(e.l.length:Int)=Gy e.kind∧eok e.kind e.v e.name=true∧erights e.l (wr .i64 (m-1))=true:=by
 rw [Anz] at h
 simp only [Zb1,Zg1] at h
 exact⟨h.1.1.2,h.1.2,h.2⟩
end Go.Proofs.YthndhaolemgbdaaGreatDoor
