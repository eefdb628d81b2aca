/- Texts of the proof,one behind the other: Qb,Qc,Qd,Qe. -/
import Derived.Test.YthndhaolemgbdaaGreatDoorQ3
set_option linter.all false
namespace Go.Proofs.YthndhaolemgbdaaGreatDoor
open Go.Ax
def opTab:List (Str×Nat×Int):=[(Ax9,2,4),(sOR,1,5),([61],4,6),([60,62],4,7),([60],4,8),([60,61],4,9),([62],4,10),([62,61],4,11),([43],5,12),([45],5,13),([42],6,14)]
def bindS(s:Str):Nat×Int:=match opTab.find? (fun p=>decide (s=p.1)) with
 |some p=>p.2
 |none=>(0,0)
def B5:TL→Nat×Int
 |[]=>(0,0)
 |t::_=>match decide (t.kind=1)||decide (t.kind=6) with
  |true=>bindS t.s
  |false=>(0,0)
def sgL:Nat→List (Str×Int)
 |1=>[(sOR,5)]
 |2=>[(Ax9,4)]
 |4=>cmpS
 |5=>[([43],12),([45],13)]
 |6=>[([42],14)]
 |_=>[]
abbrev SR:=Xpr×Nat×TL
def K3(rec:Nat→TL→PR Xpr) (k:Nat) (l:TL):Except TL SR :=
 match isT Gx l&&decide (k≤3) with
 |true=>match rec 3 l.tail with
  |.error q =>.error q
  |.ok (x,l') =>.ok (mkX 3 [x],3,l')
 |false=>match isT [45] l with
  |true=>match rec 7 l.tail with
   |.error q =>.error q
   |.ok (x,l') =>.ok (mkX 15 [x],7,l')
  |false=>match Cd (rec 1) l with
   |.error q =>.error q
   |.ok (x,l') =>.ok (x,7,l')
def Dn(rec:Nat→TL→PR Xpr) (k:Nat) (s:SR):Option (Except TL SR) :=
 if isT sIS s.2.2=true∧k≤4∧4<s.2.1 then some (match isP s.1 s.2.2 with
  |.error q =>.error q
  |.ok (x,l') =>.ok (x,4,l'))
 else if(B5 s.2.2).1=0∨(B5 s.2.2).1<k∨s.2.1<(B5 s.2.2).1∨((B5 s.2.2).1=4∧s.2.1=4) then none
 else some (match rec ((B5 s.2.2).1+1) s.2.2.tail with
  |.error q =>.error q
  |.ok (x,l') =>.ok (mkX (B5 s.2.2).2 [s.1,x],(B5 s.2.2).1,l'))
def C1(rec:Nat→TL→PR Xpr) (k:Nat):Nat→SR→Except TL SR
 |0,s =>.error s.2.2
 |n+1,s=>match Dn rec k s with
  |none =>.ok s
  |some (.error q) =>.error q
  |some (.ok s')=>C1 rec k n s'
def Agh(x:Except TL SR) (f:SR→Except TL SR):Except TL SR:=match x with
 |.error q =>.error q
 |.ok s=>f s
def exT(rec:Nat→TL→PR Xpr) (k:Nat) (l:TL):Except TL SR:=Agh (K3 rec k l) fun s=>C1 rec k (s.2.2.length+1) s
def exB(rec:Nat→TL→PR Xpr) (k:Nat) (l:TL):PR Xpr:=match exT rec k l with
 |.error q =>.error q
 |.ok s =>.ok (s.1,s.2.2)
theorem A3x(s:Str):(bindS s).1≤6∧(bindS s).1≠3:=by
 simp only [bindS]
 cases h:opTab.find? (fun p=>decide (s=p.1)) with
 |none=>simp
 |some p =>
  have hm:=List.mem_of_find?_eq_some h
  have ha:∀p,p∈opTab→p.2.1≤6∧p.2.1≠3:=by decide
  exact ha p hm
theorem Ama(l:TL):(B5 l).1≤6∧(B5 l).1≠3:=by
 cases l with
 |nil=>simp [B5]
 |cons t r =>
  simp only [B5]
  cases decide (t.kind=1)||decide (t.kind=6) with
  |true=>exact A3x t.s
  |false=>simp
theorem Bgb{l:TL}(h:isT sIS l=true):B5 l=(0,0):=by
 cases l with
 |nil=>rfl
 |cons t r =>
  simp only [isT,Zb1,Zg1] at h
  simp only [B5,h.1,h.2]
  decide
theorem Bal(n:Nat) (s:Str) (hn:n=1∨n=2∨n=4∨n=5∨n=6):((bindS s).1=n→∃p,(sgL n).find? (fun p=>decide (s=p.1))=some p∧p.2=(bindS s).2)∧((bindS s).1≠n→(sgL n).find? (fun p=>decide (s=p.1))=none):=by
 by_cases h:s∈opTab.map (·.1)
 ·have ha:∀s,s∈opTab.map (·.1)→∀n,n=1∨n=2∨n=4∨n=5∨n=6→(((bindS s).1=n→((sgL n).find? (fun p=>decide (s=p.1))).map (·.2)=some (bindS s).2)∧((bindS s).1≠n→(sgL n).find? (fun p=>decide (s=p.1))=none)):=by
   intro s hs n hn
   simp only [opTab,Zw1,List.map_nil,List.mem_cons,List.not_mem_nil,or_false] at hs
   rcases hs with rfl|rfl|rfl|rfl|rfl|rfl|rfl|rfl|rfl|rfl|rfl<;>rcases hn with rfl|rfl|rfl|rfl|rfl<;>decide
  obtain⟨h1,h2⟩:=ha s h n hn
  refine⟨fun e =>?_,h2⟩
  have:=h1 e
  cases hf:(sgL n).find? (fun p=>decide (s=p.1)) with
  |none=>rw [hf] at this;cases this
  |some p =>
   rw [hf] at this
   exact⟨p,rfl,by simpa using this⟩
 ·have h0:bindS s=(0,0):=by
   simp only [bindS]
   cases hf:opTab.find? (fun p=>decide (s=p.1)) with
   |none=>rfl
   |some p =>
    have h1:=List.mem_of_find?_eq_some hf
    have h2:=List.find?_some hf
    simp only [Zg1] at h2
    exact absurd (List.mem_map.2 ⟨p,h1,h2.symm⟩) h
  rw [h0]
  refine⟨fun e =>?_,fun _ =>?_⟩
  ·simp only at e
   omega
  ·rw [List.find?_eq_none]
   intro p hp
   simp only [Zg1]
   intro e
   have hsub:∀q,q∈sgL n→q.1∈opTab.map (·.1):=by
    rcases hn with rfl|rfl|rfl|rfl|rfl<;>decide
   exact h (by rw [e];exact hsub p hp)
theorem Af9(n:Nat) (l:TL) (hn:n=1∨n=2∨n=4∨n=5∨n=6):((B5 l).1=n→∃p,(sgL n).find? (fun p=>isT p.1 l)=some p∧p.2=(B5 l).2)∧((B5 l).1≠n→(sgL n).find? (fun p=>isT p.1 l)=none):=by
 cases l with
 |nil =>
  refine⟨fun e =>?_,fun _ =>?_⟩
  ·simp only [B5] at e;omega
  ·exact List.find?_eq_none.2 fun p _=>by simp [isT]
 |cons t r =>
  simp only [B5,isT]
  cases hk:(decide (t.kind=1)||decide (t.kind=6)) with
  |true=>simpa using Bal n t.s hn
  |false =>
   refine⟨fun e =>?_,fun _ =>?_⟩
   ·simp only at e;omega
   ·exact List.find?_eq_none.2 fun p _=>by simp
variable {V:Nat→TL→PR Xpr}
theorem Aid(hv:∀k,C7 (V k)) {k:Nat}{s s':SR}(h:Dn V k s=some (.ok s')):s'.2.2.length<s.2.2.length:=by
 simp only [Dn] at h
 split at h
 ·rename_i hc
  have hi:=Lj hc.1
  cases hq:isP s.1 s.2.2 with
  |error q=>rw [hq] at h;cases h
  |ok x =>
   obtain⟨e1,m⟩:=x
   rw [hq] at h
   injection h with h;injection h with h
   rw [←h]
   simp only [isP] at hq
   have h2:=Bj s.2.2.tail
   have h3:=Bj s.2.2.tail.tail
   cases hn:isT Gx s.2.2.tail with
   |true =>
    rw [hn] at hq
    cases hu:isT Ej s.2.2.tail.tail with
    |true =>
     simp only [hu] at hq
     injection hq with hq;injection hq with _ hq;rw [←hq];show s.2.2.tail.tail.tail.length<s.2.2.length;omega
    |false=>simp only [hu] at hq;cases hq
   |false =>
    rw [hn] at hq
    cases hu:isT Ej s.2.2.tail with
    |true =>
     simp only [hu] at hq
     injection hq with hq;injection hq with _ hq;rw [←hq];show s.2.2.tail.tail.length<s.2.2.length;omega
    |false=>simp only [hu] at hq;cases hq
 ·split at h
  ·cases h
  ·cases hq:V ((B5 s.2.2).1+1) s.2.2.tail with
   |error q=>rw [hq] at h;cases h
   |ok x =>
    obtain⟨e1,m⟩:=x
    rw [hq] at h
    injection h with h;injection h with h
    rw [←h]
    have h1:=hv _ _ _ _ hq
    have h2:=Bj s.2.2
    show m.length<_
    omega
theorem A77{a b:Nat}(h:a≤b) {s:SR}{r:Except TL SR}(hs:Dn V b s=some r):Dn V a s=some r:=by
 simp only [Dn] at hs ⊢
 by_cases hc:isT sIS s.2.2=true∧b≤4∧4<s.2.1
 ·rw [if_pos hc] at hs
  rw [if_pos ⟨hc.1,by omega,hc.2.2⟩]
  exact hs
 ·rw [if_neg hc] at hs
  by_cases hn:(B5 s.2.2).1=0∨(B5 s.2.2).1<b∨s.2.1<(B5 s.2.2).1∨((B5 s.2.2).1=4∧s.2.1=4)
  ·rw [if_pos hn] at hs;cases hs
  ·rw [if_neg hn] at hs
   have hi:¬isT sIS s.2.2=true:=fun e=>by
    rw [Bgb e] at hn
    exact hn (.inl rfl)
   rw [if_neg (fun e=>hi e.1),if_neg (by omega)]
   exact hs
theorem Aqf(hv:∀k,C7 (V k)) (k:Nat):∀(n m:Nat) (s:SR),s.2.2.length<n→s.2.2.length<m→C1 V k n s=C1 V k m s
 |0,_,_,h,_=>by omega
 |_,0,_,_,h=>by omega
 |n+1,m+1,s,hn,hm=>by
  simp only [C1]
  cases hs:Dn V k s with
  |none=>rfl
  |some r =>
   cases r with
   |error q=>rfl
   |ok s' =>
    have:=Aid hv hs
    exact Aqf hv k n m s' (by omega) (by omega)
theorem A5c(hv:∀k,C7 (V k)) (k:Nat):∀(n:Nat) (s s':SR),C1 V k n s = .ok s'→s'.2.2.length≤s.2.2.length∧Dn V k s' = none
 |0,_,_,h=>by cases h
 |n+1,s,s',h=>by
  simp only [C1] at h
  cases hs:Dn V k s with
  |none =>
   rw [hs] at h
   injection h with h
   rw [←h]
   exact⟨Zn1 _,hs⟩
  |some r =>
   rw [hs] at h
   cases r with
   |error q=>cases h
   |ok s1 =>
    have h1:=Aid hv hs
    have h2:=A5c hv k n s1 s' h
    exact⟨by omega,h2.2⟩
theorem Ao8(hv:∀k,C7 (V k)) {a b:Nat}(h:a≤b):∀(n:Nat) (s:SR),s.2.2.length<n→C1 V a n s=Agh (C1 V b n s) fun s'=>C1 V a (s'.2.2.length+1) s'
 |0,_,hn=>by omega
 |n+1,s,hn=>by
  cases hs:Dn V b s with
  |none =>
   have e:C1 V b (n+1) s = .ok s:=by simp only [C1,hs]
   rw [e]
   exact Aqf hv a _ _ s hn (by omega)
  |some r =>
   have ha:=A77 h hs
   cases r with
   |error q =>
    simp only [C1,hs,ha]
    rfl
   |ok s1 =>
    have h1:=Aid hv hs
    have e1:C1 V a (n+1) s=C1 V a n s1:=by simp only [C1,ha]
    have e2:C1 V b (n+1) s=C1 V b n s1:=by simp only [C1,hs]
    rw [e1,e2]
    exact Ao8 hv h n s1 (by omega)
theorem A5s(hv:∀k,C7 (V k)) {k:Nat}(hk:k=1∨k=2∨k=5∨k=6):∀(n:Nat) (e:Xpr) (h:Nat) (l:TL),l.length<n→(h=k∨(k<h∧Dn V (k+1) (e,h,l)=none)) →
  match Cm (V (k+1)) (sgL k) n e l with
  |.error q=>C1 V k n (e,h,l) = .error q
  |.ok (e',l')=>∃h',k≤h'∧C1 V k n (e,h,l) = .ok (e',h',l')
 |0,_,_,_,hn,_=>by omega
 |n+1,e,h,l,hn,hc=>by
  by_cases hb:(B5 l).1=k
  ·obtain⟨p,hp1,hp2⟩:=(Af9 k l (by omega)).1 hb
   have hi:¬isT sIS l=true:=fun q=>by
    rw [Bgb q] at hb
    simp only at hb
    omega
   have hst:Dn V k (e,h,l)=some (match V (k+1) l.tail with
     |.error q =>.error q
     |.ok (x,l') =>.ok (mkX p.2 [e,x],k,l')):=by
    simp only [Dn,hb,hp2]
    rw [if_neg (fun q=>hi q.1),if_neg (by omega)]
   simp only [Cm,hp1,C1,hst]
   cases hq:V (k+1) l.tail with
   |error q=>rfl
   |ok x =>
    obtain⟨x,l1⟩:=x
    have h1:=hv _ _ _ _ hq
    have h2:=Bj l
    exact A5s hv hk n (mkX p.2 [e,x]) k l1 (by omega) (.inl rfl)
  ·have hst:Dn V k (e,h,l)=none:=by
    simp only [Dn]
    rcases hc with rfl|⟨hlt,hn1⟩
    ·rw [if_neg (fun q=>by have:=q.2;omega),if_pos (by omega)]
    ·simp only [Dn] at hn1
     split at hn1
     ·cases hn1
     ·rename_i hi
      split at hn1
      ·rename_i ho
       rw [if_neg (fun q=>hi ⟨q.1,by have:=q.2.1;omega,q.2.2⟩),if_pos (by omega)]
      ·cases hn1
   simp only [Cm,(Af9 k l (by omega)).2 hb,C1,hst]
   exact⟨h,by omega,rfl⟩
theorem Oi{k:Nat}{e:Xpr}{h:Nat}{l:TL}(hi:¬(isT sIS l=true∧k≤4∧4<h)) (hn:(B5 l).1=0∨(B5 l).1<k∨h<(B5 l).1∨((B5 l).1=4∧h=4)):Dn V k (e,h,l)=none:=by
 simp only [Dn]
 rw [if_neg hi,if_pos hn]
theorem Aq0{k:Nat}{e:Xpr}{h:Nat}{l:TL}(hs:Dn V k (e,h,l)=none):¬(isT sIS l=true∧k≤4∧4<h)∧((B5 l).1=0∨(B5 l).1<k∨h<(B5 l).1∨((B5 l).1=4∧h=4)):=by
 simp only [Dn] at hs
 split at hs
 ·cases hs
 ·rename_i hi
  split at hs
  ·rename_i hn;exact⟨hi,hn⟩
  ·cases hs
theorem Ayu{e:Xpr}{h:Nat}{l:TL}:Dn V 7 (e,h,l)=none :=
 Oi (fun q=>by have:=q.2;omega) (by have:=Ama l;omega)
theorem Aj4{e:Xpr}{l:TL}:Dn V 4 (e,4,l)=none :=
 Oi (fun q=>by have:=q.2;omega) (by omega)
theorem Fz{k n:Nat}{s:SR}(h:Dn V k s=none):C1 V k (n+1) s = .ok s:=by simp only [C1,h]
theorem At9{a b:Nat}(ha : 3<a) (hb : 3<b) (l:TL):K3 V a l=K3 V b l:=by
 simp only [K3]
 rw [Zd1 (show ¬a≤3 by omega),Zd1 (show ¬b≤3 by omega)]
theorem A4s{a b:Nat}(ha:a≤3) (hb:b≤3) (l:TL):K3 V a l=K3 V b l:=by
 simp only [K3]
 rw [Ze1 ha,Ze1 hb]
theorem Atn(hv:∀k,C7 (V k)) {a b:Nat}(h:a≤b) {l:TL}(hp:K3 V a l=K3 V b l):exT V a l=Agh (exT V b l) fun s=>C1 V a (s.2.2.length+1) s:=by
 unfold exT
 rw [hp]
 cases K3 V b l with
 |error q=>rfl
 |ok s=>exact Ao8 hv h _ s (by omega)
def Lv(V:Nat→TL→PR Xpr) (k:Nat) (l:TL):Prop:=match V k l with
 |.error q=>exT V k l = .error q
 |.ok (e,l')=>∃h,k≤h∧exT V k l = .ok (e,h,l')∧Dn V k (e,h,l')=none
theorem Akq(hv:∀k,C7 (V k)) {k:Nat}(hk:k=1∨k=2∨k=5∨k=6) (hV:V k=Dm (V (k+1)) (sgL k)) {l:TL}(h:Lv V (k+1) l):Lv V k l:=by
 have hp:K3 V k l=K3 V (k+1) l:=by
  rcases hk with rfl|rfl|rfl|rfl
  ·exact A4s (by omega) (by omega) l
  ·exact A4s (by omega) (by omega) l
  ·exact At9 (by omega) (by omega) l
  ·exact At9 (by omega) (by omega) l
 have hc:=Atn hv (Nat.le_succ k) hp
 unfold Lv at h ⊢
 rw [hV]
 unfold Dm
 cases hq:V (k+1) l with
 |error q =>
  rw [hq] at h
  simp only at h ⊢
  rw [hc,h]
  rfl
 |ok x =>
  obtain⟨e,l'⟩:=x
  rw [hq] at h
  simp only at h ⊢
  obtain⟨h1,h2,h3,h4⟩:=h
  rw [h3] at hc
  have hc:exT V k l=C1 V k (l'.length+1) (e,h1,l'):=hc
  have hl:=A5s hv hk (l'.length+1) e h1 l' (by omega) (.inr ⟨by omega,h4⟩)
  rw [hc]
  cases hg:Cm (V (k+1)) (sgL k) (l'.length+1) e l' with
  |error q =>
   rw [hg] at hl
   exact hl
  |ok y =>
   obtain⟨e2,l2⟩:=y
   rw [hg] at hl
   simp only at hl ⊢
   obtain⟨h',h5,h6⟩:=hl
   exact⟨h',h5,h6,(A5c hv k _ _ _ h6).2⟩
theorem Bmn(hv:∀k,C7 (V k)) (hV:V 4=Agg (V 5)) {l:TL}(h:Lv V 5 l):Lv V 4 l:=by
 have hc:=Atn (V:=V) hv (show 4≤5 by omega) (At9 (by omega) (by omega) l)
 unfold Lv at h ⊢
 rw [hV]
 unfold Agg
 cases hq:V 5 l with
 |error q =>
  rw [hq] at h
  simp only at h ⊢
  rw [hc,h]
  rfl
 |ok x =>
  obtain⟨e,l'⟩:=x
  rw [hq] at h
  simp only at h ⊢
  obtain⟨h1,h2,h3,h4⟩:=h
  rw [h3] at hc
  have hc:exT V 4 l=C1 V 4 (l'.length+1) (e,h1,l'):=hc
  rw [hc]
  obtain⟨n1,n2⟩:=Aq0 h4
  by_cases hb:(B5 l').1=4
  ·obtain⟨p,hp1,hp2⟩:=(Af9 4 l' (by omega)).1 hb
   have hp1:cmpS.find? (fun p=>isT p.1 l')=some p:=hp1
   have hi:¬isT sIS l' = true:=fun q=>by
    rw [Bgb q] at hb
    simp only at hb
    omega
   have hst:Dn V 4 (e,h1,l')=some (match V 5 l'.tail with
     |.error q =>.error q
     |.ok (x,l') =>.ok (mkX p.2 [e,x],4,l')):=by
    simp only [Dn,hb,hp2]
    rw [if_neg (fun q=>hi q.1),if_neg (by omega)]
   have hlen : 1≤l'.length:=by
    cases l' with
    |nil=>simp only [B5] at hb;omega
    |cons t r=>simp
   rw [hp1]
   simp only [C1,hst]
   cases hq2:V 5 l'.tail with
   |error q=>rfl
   |ok y =>
    obtain⟨x,l2⟩:=y
    simp only
    refine⟨4,by omega,?_,Aj4⟩
    obtain⟨m,hm⟩:=Nat.exists_eq_add_of_le hlen
    rw [hm,Nat.add_comm 1 m]
    exact Fz Aj4
  ·have hf:cmpS.find? (fun p=>isT p.1 l')=none:=(Af9 4 l' (by omega)).2 hb
   rw [hf]
   simp only
   cases hi:isT sIS l' with
   |true =>
    have hlen:=Lj hi
    have hst:Dn V 4 (e,h1,l')=some (match isP e l' with
      |.error q =>.error q
      |.ok (x,l') =>.ok (x,4,l')):=by
     simp only [Dn]
     rw [if_pos ⟨hi,by omega,by omega⟩]
    simp only [C1,hst]
    cases hq2:isP e l' with
    |error q=>rfl
    |ok y =>
     obtain⟨x,l2⟩:=y
     simp only
     refine⟨4,by omega,?_,Aj4⟩
     rw [←hlen]
     exact Fz Aj4
   |false =>
    have hn:Dn V 4 (e,h1,l')=none:=Oi (fun q=>by rw [hi] at q;cases q.1) (by omega)
    exact⟨h1,by omega,Fz hn,hn⟩
theorem Bn4(hv:∀k,C7 (V k)) (hV:V 3=B3 Gx 3 (V 4)) {l:TL}(h:Lv V 4 l):Lv V 3 l:=by
 have stop:∀{e:Xpr}{l':TL},Dn V 3 (e,3,l')=none:=fun {e l'}=>Oi (fun q=>by have:=q.2;omega) (by have:=Ama l';omega)
 cases hn:isT Gx l with
 |true =>
  have hp:exT V 3 l=Agh (match V 3 l.tail with
    |.error q =>.error q
    |.ok (x,l') =>.ok (mkX 3 [x],3,l')) fun s=>C1 V 3 (s.2.2.length+1) s:=by
   unfold exT K3
   rw [hn,Ze1 (show 3≤3 by omega)]
   rfl
  cases l with
  |nil=>cases hn
  |cons t r =>
   unfold Lv
   rw [hp,hV]
   simp only [B3,hn,List.tail_cons]
   cases B3 Gx 3 (V 4) r with
   |error q=>rfl
   |ok x =>
    obtain⟨e,l'⟩:=x
    exact⟨3,Zn1 _,Fz stop,stop⟩
 |false =>
  have hpr:K3 V 3 l=K3 V 4 l:=by
   simp only [K3,hn,Bool.false_and]
  have hc:=Atn (V:=V) hv (show 3≤4 by omega) hpr
  have ha:V 3 l=V 4 l:=by
   rw [hV]
   cases l with
   |nil=>rfl
   |cons t r=>simp only [B3,hn]
  unfold Lv at h ⊢
  rw [ha]
  cases hq:V 4 l with
  |error q =>
   rw [hq] at h
   simp only at h ⊢
   rw [hc,h]
   rfl
  |ok x =>
   obtain⟨e,l'⟩:=x
   rw [hq] at h
   simp only at h ⊢
   obtain⟨h1,h2,h3,h4⟩:=h
   obtain⟨n1,n2⟩:=Aq0 h4
   have hs:Dn V 3 (e,h1,l')=none:=Oi (fun q=>n1 ⟨q.1,by omega,q.2.2⟩) (by have:=Ama l';omega)
   refine⟨h1,by omega,?_,hs⟩
   rw [hc,h3]
   exact Fz hs
theorem Bbm(hV:V 7=B3 [45] 15 (Cd (V 1))) (l:TL):Lv V 7 l:=by
 have hx:∀(e:Xpr) (n:Nat) (l':TL),C1 V 7 (n+1) (e,7,l') = .ok (e,7,l'):=fun _ _ _=>Fz Ayu
 have h3:decide (7≤3)=false:=rfl
 unfold Lv exT K3
 rw [hV,h3,Bool.and_false]
 simp only
 cases l with
 |nil=>rfl
 |cons t r =>
  cases hm:isT [45] (t::r) with
  |true =>
   simp only [B3,hm,List.tail_cons]
   cases B3 [45] 15 (Cd (V 1)) r with
   |error q=>rfl
   |ok x=>exact⟨7,Zn1 _,hx _ _ _,Ayu⟩
  |false =>
   simp only [B3,hm]
   cases Cd (V 1) (t::r) with
   |error q=>rfl
   |ok x=>exact⟨7,Zn1 _,hx _ _ _,Ayu⟩
abbrev VV:Nat→TL→PR Xpr:=lev orW
theorem Abn(k:Nat):C7 (VV k):=Axy H0 k
theorem S0:VV 1=orW:=funext fun l=>(A53 l).symm
theorem Bpy(l:TL):∀k,1≤k→k≤7→Lv VV k l:=by
 have h7:Lv VV 7 l:=Bbm (by rw [S0];rfl) l
 have h6:Lv VV 6 l:=Akq Abn (.inr (.inr (.inr rfl))) rfl h7
 have h5:Lv VV 5 l:=Akq Abn (.inr (.inr (.inl rfl))) rfl h6
 have h4:Lv VV 4 l:=Bmn Abn rfl h5
 have h3:Lv VV 3 l:=Bn4 Abn rfl h4
 have h2:Lv VV 2 l:=Akq Abn (.inr (.inl rfl)) rfl h3
 have h1:Lv VV 1 l:=Akq Abn (.inl rfl) rfl h2
 intro k a b
 match k,a,b with
 |1,_,_=>exact h1
 |2,_,_=>exact h2
 |3,_,_=>exact h3
 |4,_,_=>exact h4
 |5,_,_=>exact h5
 |6,_,_=>exact h6
 |7,_,_=>exact h7
theorem Aux{k:Nat}(h1 : 1≤k) (h7:k≤7) (l:TL):exB VV k l=VV k l:=by
 have h:=Bpy l k h1 h7
 unfold Lv at h
 unfold exB
 cases hq:VV k l with
 |error q =>
  rw [hq] at h
  simp only at h
  rw [h]
 |ok x =>
  obtain⟨e,l'⟩:=x
  rw [hq] at h
  simp only at h
  obtain⟨a,_,h2,_⟩:=h
  rw [h2]
end Go.Proofs.YthndhaolemgbdaaGreatDoor
namespace Go.Proofs.YthndhaolemgbdaaGreatDoor
open Go.Ax
def bP{α β:Type}(p:TL→PR α) (f : α→TL→PR β) (l:TL):PR β:=match p l with
 |.error q =>.error q
 |.ok (x,l')=>f x l'
def Ey{α:Type}(x : α) (l:TL):PR α :=.ok (x,l)
def Bo:List Str→TL→PR Unit
 |[],l =>.ok ((),l)
 |s::ss,l=>match isT s l with
  |true=>Bo ss l.tail
  |false =>.error l
def Cq:TL→PR Str
 |[] =>.error []
 |t::r=>match decide (t.kind=2) with
  |true =>.ok (t.s,r)
  |false =>.error (t::r)
def Bz{α:Type}(part:TL→PR α):Nat→List α→TL→PR (List α)
 |0,_,l =>.error l
 |n+1,acc,l=>match isT [44] l with
  |false =>.ok (acc,l)
  |true=>match part l.tail with
   |.error q =>.error q
   |.ok (x,l')=>Bz part n (acc++[x]) l'
def Ni{α:Type}(part:TL→PR α) (l:TL):PR (List α):=match part l with
 |.error q =>.error q
 |.ok (x,l')=>Bz part (l'.length+1) [x] l'
def Afp(s:Str) (ss:List Str) (l:TL):PR Bool:=match isT s l with
 |true=>match Bo ss l.tail with
  |.error q =>.error q
  |.ok (_,l') =>.ok (true,l')
 |false =>.ok (false,l)
def J4:Str:=[84,65,66,76,69]
def Ga:Str:=[73,78,68,69,88]
def wON:Str:=[79,78]
def F3:Str:=[80,82,73,77,65,82,89]
def Atm:Str:=[75,69,89]
def Aky:Str:=[67,72,69,67,75]
def H8:Str:=[85,78,73,81,85,69]
def Aza:Str:=[82,69,70,69,82,69,78,67,69,83]
def Apx:Str:=[66,79,79,76]
def A64:Str:=[73,78,84]
def Aqv:Str:=[84,69,88,84]
def Agy:Str:=[66,89,84,69,83]
def Q0:Str:=[87,72,69,82,69]
def Avy:Str:=[83,69,84]
def Kr:Str:=[70,82,79,77]
def Sk:Str:=[79,82,68,69,82]
def wBY:Str:=[66,89]
def Q6:Str:=[68,69,83,67]
def Aim:Str:=[65,83,67]
def Adl:Str:=[76,73,77,73,84]
def Acn:Str:=[73,78,84,79]
def N7:Str:=[86,65,76,85,69,83]
def F5:Str:=[67,82,69,65,84,69]
def Yt:Str:=[68,82,79,80]
def M5:Str:=[73,78,83,69,82,84]
def Rl:Str:=[85,80,68,65,84,69]
def Xg:Str:=[68,69,76,69,84,69]
def Aa1:Str:=[83,69,76,69,67,84]
def zX:Xpr :=.mk 0 ⟨0,0,[]⟩ [] []
def zS:Stm:=⟨0,[],[],[],[],[],[],[],false,zX,[],[],0⟩
def X0:TL→PR (List Str):=bP (Bo [[40]]) fun _=>bP (Ni Cq) fun x=>bP (Bo [[41]]) fun _=>Ey x
def Aak:TL→PR (List Xpr):=Ni orW
def Xo(l:TL):PR Int :=
 match isT Apx l with
 |true =>.ok (2,l.tail)
 |false=>match isT A64 l with
  |true =>.ok (3,l.tail)
  |false=>match isT Aqv l with
   |true =>.ok (4,l.tail)
   |false=>match isT Agy l with
    |true =>.ok (5,l.tail)
    |false =>.error l
def Aug(l:TL):PR Str:=match isT Aza l with
 |true=>Cq l.tail
 |false =>.ok ([],l)
def Bf5:TL→PR Col:=bP Cq fun n=>bP Xo fun k=>bP (Afp Gx [Ej]) fun nn=>bP (Afp H8 []) fun u=>bP Aug fun r=>Ey ⟨n,k,nn,u,r⟩
def Aou:TL→PR Col:=bP Bf5 fun c=>bP (Bo [[44]]) fun _=>Ey c
def Py:Nat→List Col→TL→PR (List Col)
 |0,_,l =>.error l
 |n+1,acc,l=>match isT F3 l with
  |true =>.ok (acc,l.tail)
  |false=>match Aou l with
   |.error q =>.error q
   |.ok (c,l')=>Py n (acc++[c]) l'
def Av1(l:TL):PR (List Col):=match Aou l with
 |.error q =>.error q
 |.ok (c,l')=>Py (l'.length+1) [c] l'
def At0:TL→PR Xpr:=bP (Bo [Aky,[40]]) fun _=>bP orW fun e=>bP (Bo [[41]]) fun _=>Ey e
def Ahg:TL→PR Stm:=bP Cq fun n=>bP (Bo [[40]]) fun _=>bP Av1 fun cs=>bP (Bo [Atm]) fun _=>bP X0 fun ns=>bP (fun l=>Bz At0 (l.length+1) [] l) fun es=>bP (Bo [[41]]) fun _=>Ey { zS with kind:=1,name:=n,cols:=cs,names:=ns,l:=es }
def Ahn:TL→PR Stm:=bP (Bo [Ga]) fun _=>bP Cq fun n=>bP (Bo [wON]) fun _=>bP Cq fun o=>bP X0 fun ns=>Ey { zS with kind:=3,name:=n,on:=o,names:=ns }
def F9(l:TL):PR Stm:=match isT J4 l with
 |true=>Ahg l.tail
 |false=>Ahn l
def Afg(l:TL):PR Stm:=match isT J4 l with
 |true=>bP Cq (fun n=>Ey { zS with kind:=2,name:=n }) l.tail
 |false=>bP (Bo [Ga]) (fun _=>bP Cq fun n=>Ey { zS with kind:=4,name:=n }) l
def Be8:TL→PR (List Xpr):=bP (Bo [[40]]) fun _=>bP Aak fun r=>bP (Bo [[41]]) fun _=>Ey r
def M0:TL→PR Stm:=bP (Bo [Acn]) fun _=>bP Cq fun n=>bP (Bo [N7]) fun _=>bP (Ni Be8) fun rs=>Ey { zS with kind:=5,name:=n,rows:=rs }
def Ki(l:TL):PR (Bool×Xpr):=match isT Q0 l with
 |true=>match orW l.tail with
  |.error q =>.error q
  |.ok (e,l') =>.ok ((true,e),l')
 |false =>.ok ((false,zX),l)
def Bhx:TL→PR SetE:=bP Cq fun n=>bP (Bo [[61]]) fun _=>bP orW fun e=>Ey ⟨n,e⟩
def M4:TL→PR Stm:=bP Cq fun n=>bP (Bo [Avy]) fun _=>bP (Ni Bhx) fun ss=>bP Ki fun w=>Ey { zS with kind:=6,name:=n,sets:=ss,has:=w.1,whr:=w.2 }
def Xn:TL→PR Stm:=bP (Bo [Kr]) fun _=>bP Cq fun n=>bP Ki fun w=>Ey { zS with kind:=7,name:=n,has:=w.1,whr:=w.2 }
def Aiz(l:TL):PR (List Xpr):=match isT [42] l with
 |true =>.ok ([],l.tail)
 |false=>Aak l
def Are(l:TL):PR Bool:=match isT Q6 l with
 |true =>.ok (true,l.tail)
 |false=>match isT Aim l with
  |true =>.ok (false,l.tail)
  |false =>.ok (false,l)
def A1w:TL→PR (Str×Bool):=bP Cq fun n=>bP Are fun d=>Ey (n,d)
def Kd(l:TL):PR (List (Str×Bool)):=match isT Sk l with
 |true=>bP (Bo [wBY]) (fun _=>Ni A1w) l.tail
 |false =>.ok ([],l)
def A5j:TL→PR Int
 |[] =>.error []
 |t::r=>match decide (t.kind=3) with
  |true =>.ok (t.n,r)
  |false =>.error (t::r)
def Hj(l:TL):PR Int:=match isT Adl l with
 |true=>A5j l.tail
 |false =>.ok (-1,l)
def N9:TL→PR Stm:=bP Aiz fun es=>bP (Bo [Kr]) fun _=>bP Cq fun n=>bP Ki fun w=>bP Kd fun o=>bP Hj fun m=>Ey { zS with kind:=8,name:=n,l:=es,has:=w.1,whr:=w.2,order:=o.map (·.1),desc:=o.map (·.2),most:=m }
def Aqe(l:TL):PR Stm :=
 match isT F5 l with
 |true=>F9 l.tail
 |false=>match isT Yt l with
  |true=>Afg l.tail
  |false=>match isT M5 l with
   |true=>M0 l.tail
   |false=>match isT Rl l with
    |true=>M4 l.tail
    |false=>match isT Xg l with
     |true=>Xn l.tail
     |false=>match isT Aa1 l with
      |true=>N9 l.tail
      |false =>.error l
def An1(l:TL):TL:=match isT [59] l with
 |true=>l.tail
 |false=>l
def Aec(l:TL):Except TL Stm:=match Aqe l with
 |.error q =>.error q
 |.ok (s,l')=>match An1 l' with
  |[] =>.ok s
  |t::r =>.error (t::r)
def Atu(l:TL):Except TL Xpr:=match orW l with
 |.error q =>.error q
 |.ok (e,[]) =>.ok e
 |.ok (_,t::r) =>.error (t::r)
def Jz(n:Int):TL→Int
 |[]=>n
 |t::_=>t.pos
end Go.Proofs.YthndhaolemgbdaaGreatDoor
namespace Go.Proofs.YthndhaolemgbdaaGreatDoor
open Go.Ax
def Th:TL→Prop
 |[]=>True
 |t::_=>t.kind=6∧(t.s=[59]∨t.s=[41])
def Anr:TL→Prop
 |[]=>False
 |t::_=>t.kind=6∧t.s=[59]
theorem Anr.quiet{m:TL}(h:Anr m):Th m:=by
 cases m with
 |nil=>trivial
 |cons t r=>exact⟨h.1,.inl h.2⟩
theorem Aog{m:TL}(h:Th m) {s:Str}(h1:s≠[59]) (h2:s≠[41]):isT s m=false:=by
 cases m with
 |nil=>rfl
 |cons t r =>
  have:¬t.s=s:=fun e=>by
   rcases h.2 with q|q
   ·exact h1 (e.symm.trans q)
   ·exact h2 (e.symm.trans q)
  simp only [isT,Zd1 this,Bool.and_false]
theorem A5w{m:TL}(h:Anr m) {s:Str}(h1:s≠[59]):isT s m=false:=by
 cases m with
 |nil=>rfl
 |cons t r =>
  have:¬t.s=s:=fun e=>h1 (e.symm.trans h.2)
  simp only [isT,Zd1 this,Bool.and_false]
theorem Fy{l:TL}(h:l≠[]) (s:Str) (m:TL):isT s (l++m)=isT s l:=by
 cases l with
 |nil=>exact absurd rfl h
 |cons t r=>rfl
theorem H3{l:TL}(h:l≠[]) (m:TL):(l++m).tail=l.tail++m:=by
 cases l with
 |nil=>exact absurd rfl h
 |cons t r=>rfl
theorem Ah1{s:Str}{l:TL}(h:isT s l=true):l≠[]:=by rintro rfl;cases h
structure LookN {α:Type}(n:Nat) (p:TL→PR α):Prop where
 le:∀l e l',l.length<n→p l = .ok (e,l')→l'.length≤l.length
 ler:∀l q,l.length<n→p l = .error q→q.length≤l.length
 ok:∀l m e l',l.length<n→p l = .ok (e,l')→(l'≠[]∨Th m)→p (l++m) = .ok (e,l'++m)
 er:∀l m q,l.length<n→p l = .error q→(q≠[]∨Anr m)→p (l++m) = .error (q++m)
theorem Boz{a b:TL}(h:a.length≤b.length) (ha:a≠[]):b≠[]:=by
 rintro rfl
 exact ha (List.length_eq_zero_iff.1 (Nat.le_zero.1 h))
theorem Arh{a b:TL}{P:Prop}(h:a.length≤b.length) (ha:a≠[]∨P):b≠[]∨P:=ha.imp_left (Boz h)
theorem Bm3{a:TL}{m:TL}(h:a≠[]∨Anr m):a≠[]∨Th m:=h.imp_right Anr.quiet
variable {α β:Type}{n:Nat}
theorem LookN.bind{p:TL→PR α}{f : α→TL→PR β}(hp:LookN n p) (hf:∀x,LookN n (f x)):LookN n (bP p f) where
 le l e l' hl h:=by
  simp only [bP] at h
  cases hq:p l with
  |error q=>rw [hq] at h;cases h
  |ok x =>
   obtain⟨x,l1⟩:=x
   rw [hq] at h
   have h1:=hp.le l x l1 hl hq
   have h2:=(hf x).le l1 e l' (by omega) h
   omega
 ler l q hl h:=by
  simp only [bP] at h
  cases hq:p l with
  |error q'=>rw [hq] at h;cases h;exact hp.ler l q hl hq
  |ok x =>
   obtain⟨x,l1⟩:=x
   rw [hq] at h
   have h1:=hp.le l x l1 hl hq
   have h2:=(hf x).ler l1 q (by omega) h
   omega
 ok l m e l' hl h hc:=by
  simp only [bP] at h ⊢
  cases hq:p l with
  |error q=>rw [hq] at h;cases h
  |ok x =>
   obtain⟨x,l1⟩:=x
   rw [hq] at h
   have h1:=hp.le l x l1 hl hq
   have h2:=(hf x).le l1 e l' (by omega) h
   rw [hp.ok l m x l1 hl hq (Arh h2 hc)]
   exact(hf x).ok l1 m e l' (by omega) h hc
 er l m q hl h hc:=by
  simp only [bP] at h ⊢
  cases hq:p l with
  |error q' =>
   rw [hq] at h
   cases h
   rw [hp.er l m q hl hq hc]
  |ok x =>
   obtain⟨x,l1⟩:=x
   rw [hq] at h
   have h1:=hp.le l x l1 hl hq
   have h2:=(hf x).ler l1 q (by omega) h
   rw [hp.ok l m x l1 hl hq (Bm3 (Arh h2 hc))]
   exact(hf x).er l1 m q (by omega) h hc
theorem LookN.pure(x : α):LookN n (Ey x) where
 le l e l' _ h:=by cases h;exact Zn1 _
 ler l q _ h:=by cases h
 ok l m e l' _ h _:=by cases h;rfl
 er l m q _ h _:=by cases h
theorem LookN.opt{s:Str}{p:TL→PR α}{f:TL→PR α}(h1:s≠[59]) (h2:s≠[41]) (hp:LookN n p) (hf:LookN n f):LookN n (fun l=>match isT s l with|true=>p l.tail|false=>f l) where
 le l e l' hl h:=by
  have ht:=Bj l
  cases hi:isT s l with
  |true=>simp only [hi] at h;have:=hp.le _ e l' (by omega) h;omega
  |false=>simp only [hi] at h;exact hf.le l e l' hl h
 ler l q hl h:=by
  have ht:=Bj l
  cases hi:isT s l with
  |true=>simp only [hi] at h;have:=hp.ler _ q (by omega) h;omega
  |false=>simp only [hi] at h;exact hf.ler l q hl h
 ok l m e l' hl h hc:=by
  have ht:=Bj l
  cases hi:isT s l with
  |true =>
   simp only [hi] at h
   have hn:=Ah1 hi
   simp only [Fy hn,hi,H3 hn]
   exact hp.ok _ m e l' (by omega) h hc
  |false =>
   simp only [hi] at h
   have hh:=hf.ok l m e l' hl h hc
   by_cases hn:l=[]
   ·subst hn
    have hle:=hf.le [] e l' hl h
    have hl':l' = []:=List.length_eq_zero_iff.1 (Nat.le_zero.1 hle)
    have hq:Th m:=hc.resolve_left (fun q=>q hl')
    simp only [Zf2,Aog hq h1 h2]
    exact hh
   ·simp only [Fy hn,hi]
    exact hh
 er l m q hl h hc:=by
  have ht:=Bj l
  cases hi:isT s l with
  |true =>
   simp only [hi] at h
   have hn:=Ah1 hi
   simp only [Fy hn,hi,H3 hn]
   exact hp.er _ m q (by omega) h hc
  |false =>
   simp only [hi] at h
   have hh:=hf.er l m q hl h hc
   by_cases hn:l=[]
   ·subst hn
    have hle:=hf.ler [] q hl h
    have hl':q=[]:=List.length_eq_zero_iff.1 (Nat.le_zero.1 hle)
    have hq:Anr m:=hc.resolve_left (fun q=>q hl')
    simp only [Zf2,A5w hq h1]
    exact hh
   ·simp only [Fy hn,hi]
    exact hh
theorem LookN.req{s:Str}{p:TL→PR α}(h1:s≠[59]) (hp:LookN n p):LookN n (fun l=>match isT s l with|true=>p l.tail|false =>.error l) where
 le l e l' hl h:=by
  have ht:=Bj l
  cases hi:isT s l with
  |true=>simp only [hi] at h;have:=hp.le _ e l' (by omega) h;omega
  |false=>simp only [hi] at h;cases h
 ler l q hl h:=by
  have ht:=Bj l
  cases hi:isT s l with
  |true=>simp only [hi] at h;have:=hp.ler _ q (by omega) h;omega
  |false=>simp only [hi] at h;cases h;exact Zn1 _
 ok l m e l' hl h hc:=by
  have ht:=Bj l
  cases hi:isT s l with
  |true =>
   simp only [hi] at h
   have hn:=Ah1 hi
   simp only [Fy hn,hi,H3 hn]
   exact hp.ok _ m e l' (by omega) h hc
  |false=>simp only [hi] at h;cases h
 er l m q hl h hc:=by
  have ht:=Bj l
  cases hi:isT s l with
  |true =>
   simp only [hi] at h
   have hn:=Ah1 hi
   simp only [Fy hn,hi,H3 hn]
   exact hp.er _ m q (by omega) h hc
  |false =>
   simp only [hi] at h
   cases h
   by_cases hn:l=[]
   ·subst hn
    have hq:Anr m:=hc.resolve_left (fun q=>q rfl)
    simp only [Zf2,A5w hq h1]
   ·simp only [Fy hn,hi]
theorem LookN.must:∀(ss:List Str),(∀s,s∈ss→s≠[59])→LookN n (Bo ss)
 |[],_=>LookN.pure ()
 |s::ss,h=>LookN.req (h s Zr1) (LookN.must ss fun x hx=>h x (Zu1 _ hx))
theorem LookN.one{k:Int}{f:Tok→α}(hk:k≠6) {p:TL→PR α}(h0:p [] = .error []) (h1:∀t r,p (t::r)=match decide (t.kind=k) with|true =>.ok (f t,r)|false =>.error (t::r)):LookN n p where
 le l e l' _ h:=by
  cases l with
  |nil=>rw [h0] at h;cases h
  |cons t r =>
   rw [h1] at h
   cases hd:decide (t.kind=k) with
   |true=>rw [hd] at h;cases h;simp
   |false=>rw [hd] at h;cases h
 ler l q _ h:=by
  cases l with
  |nil=>rw [h0] at h;cases h;simp
  |cons t r =>
   rw [h1] at h
   cases hd:decide (t.kind=k) with
   |true=>rw [hd] at h;cases h
   |false=>rw [hd] at h;cases h;simp
 ok l m e l' _ h _:=by
  cases l with
  |nil=>rw [h0] at h;cases h
  |cons t r =>
   rw [h1] at h
   rw [Zb2,h1]
   cases hd:decide (t.kind=k) with
   |true=>rw [hd] at h;cases h;rfl
   |false=>rw [hd] at h;cases h
 er l m q _ h hc:=by
  cases l with
  |nil =>
   rw [h0] at h
   cases h
   have hq:Anr m:=hc.resolve_left (fun q=>q rfl)
   cases m with
   |nil=>exact hq.elim
   |cons t r =>
    rw [Zf2,h1,Zd1 (fun e=>hk (by rw [←e,hq.1]))]
  |cons t r =>
   rw [h1] at h
   rw [Zb2,h1]
   cases hd:decide (t.kind=k) with
   |true=>rw [hd] at h;cases h
   |false=>rw [hd] at h;cases h;rfl
theorem Aet{part:TL→PR α}(hp:LookN n part):∀(k:Nat) (acc:List α) (l:TL),l.length<n→l.length<k →
  match Bz part k acc l with
  |.ok (e,l')=>l'.length≤l.length∧∀k' m,(l'≠[]∨Th m)→(l++m).length<k'→Bz part k' acc (l++m) = .ok (e,l'++m)
  |.error q=>q.length≤l.length∧∀k' m,(q≠[]∨Anr m)→(l++m).length<k'→Bz part k' acc (l++m) = .error (q++m)
 |0,_,_,_,h=>absurd h (Zm1 _)
 |k+1,acc,l,hn,hk=>by
  have ht:=Bj l
  simp only [Bz]
  cases hi:isT [44] l with
  |false =>
   refine⟨Zn1 _,fun k' m hc hk' =>?_⟩
   cases k' with
   |zero=>exact absurd hk' (Zm1 _)
   |succ k' =>
    have:isT [44] (l++m)=false:=by
     by_cases h0:l=[]
     ·subst h0
      exact Aog (hc.resolve_left (fun q=>q rfl)) (by decide) (by decide)
     ·rw [Fy h0,hi]
    simp only [Bz,this]
  |true =>
   have h0:=Ah1 hi
   have hlt:=Lj hi
   cases hq:part l.tail with
   |error q =>
    simp only
    have h1:=hp.ler l.tail q (by omega) hq
    refine⟨by omega,fun k' m hc hk' =>?_⟩
    cases k' with
    |zero=>exact absurd hk' (Zm1 _)
    |succ k'=>simp only [Bz,Fy h0,hi,H3 h0,hp.er l.tail m q (by omega) hq hc]
   |ok x =>
    obtain⟨x,l1⟩:=x
    have h1:=hp.le l.tail x l1 (by omega) hq
    have ih:=Aet hp k (acc++[x]) l1 (by omega) (by omega)
    simp only
    cases hr:Bz part k (acc++[x]) l1 with
    |error q =>
     rw [hr] at ih
     simp only at ih ⊢
     refine⟨by omega,fun k' m hc hk' =>?_⟩
     cases k' with
     |zero=>exact absurd hk' (Zm1 _)
     |succ k' =>
      simp only [Bz,Fy h0,hi,H3 h0,hp.ok l.tail m x l1 (by omega) hq (Bm3 (Arh ih.1 hc))]
      refine ih.2 k' m hc ?_
      simp only [Zh1] at hk' ⊢
      omega
    |ok y =>
     obtain⟨e,l'⟩:=y
     rw [hr] at ih
     simp only at ih ⊢
     refine⟨by omega,fun k' m hc hk' =>?_⟩
     cases k' with
     |zero=>exact absurd hk' (Zm1 _)
     |succ k' =>
      simp only [Bz,Fy h0,hi,H3 h0,hp.ok l.tail m x l1 (by omega) hq (Arh ih.1 hc)]
      refine ih.2 k' m hc ?_
      simp only [Zh1] at hk' ⊢
      omega
theorem LookN.go{part:TL→PR α}(hp:LookN n part) (acc:List α):LookN n (fun l=>Bz part (l.length+1) acc l) where
 le l e l' hl h:=by
  have:=Aet hp (l.length+1) acc l hl (by omega)
  have h:Bz part (l.length+1) acc l=_:=h
  rw [h] at this
  exact this.1
 ler l q hl h:=by
  have:=Aet hp (l.length+1) acc l hl (by omega)
  have h:Bz part (l.length+1) acc l=_:=h
  rw [h] at this
  exact this.1
 ok l m e l' hl h hc:=by
  have:=Aet hp (l.length+1) acc l hl (by omega)
  have h:Bz part (l.length+1) acc l=_:=h
  rw [h] at this
  exact this.2 _ m hc (by omega)
 er l m q hl h hc:=by
  have:=Aet hp (l.length+1) acc l hl (by omega)
  have h:Bz part (l.length+1) acc l=_:=h
  rw [h] at this
  exact this.2 _ m hc (by omega)
theorem LookN.list{part:TL→PR α}(hp:LookN n part):LookN n (Ni part):=by
 have e:Ni part=bP part fun x l=>Bz part (l.length+1) [x] l:=rfl
 rw [e]
 exact LookN.bind hp fun x=>LookN.go hp [x]
end Go.Proofs.YthndhaolemgbdaaGreatDoor
namespace Go.Proofs.YthndhaolemgbdaaGreatDoor
open Go.Ax
variable {α β:Type}{n:Nat}
theorem Ae1{l:TL}(h:l≠[]) (sg:List (Str×Int)) (m:TL):sg.find? (fun p=>isT p.1 (l++m))=sg.find? (fun p=>isT p.1 l):=by
 simp only [Fy h]
theorem A23{m:TL}(h:Th m) {sg:List (Str×Int)}(hs:∀p,p∈sg→p.1≠[59]∧p.1≠[41]):sg.find? (fun p=>isT p.1 m)=none :=
 List.find?_eq_none.2 fun p hp=>by simp [Aog h (hs p hp).1 (hs p hp).2]
theorem Ae5{part:TL→PR Xpr}(hp:LookN n part) {sg:List (Str×Int)}(hs:∀p,p∈sg→p.1≠[59]∧p.1≠[41]):∀(k:Nat) (e:Xpr) (l:TL),l.length<n→l.length<k →
  match Cm part sg k e l with
  |.ok (e',l')=>l'.length≤l.length∧∀k' m,(l'≠[]∨Th m)→(l++m).length<k'→Cm part sg k' e (l++m) = .ok (e',l'++m)
  |.error q=>q.length≤l.length∧∀k' m,(q≠[]∨Anr m)→(l++m).length<k'→Cm part sg k' e (l++m) = .error (q++m)
 |0,_,_,_,h=>absurd h (Zm1 _)
 |k+1,e,l,hn,hk=>by
  have ht:=Bj l
  simp only [Cm]
  cases hi:sg.find? (fun p=>isT p.1 l) with
  |none =>
   refine⟨Zn1 _,fun k' m hc hk' =>?_⟩
   cases k' with
   |zero=>exact absurd hk' (Zm1 _)
   |succ k' =>
    have:sg.find? (fun p=>isT p.1 (l++m))=none:=by
     by_cases h0:l=[]
     ·subst h0
      exact A23 (hc.resolve_left (fun q=>q rfl)) hs
     ·rw [Ae1 h0,hi]
    simp only [Cm,this]
  |some p =>
   have h0:=Ah1 (A3n hi)
   have hlt:=Lj (A3n hi)
   cases hq:part l.tail with
   |error q =>
    simp only
    have h1:=hp.ler l.tail q (by omega) hq
    refine⟨by omega,fun k' m hc hk' =>?_⟩
    cases k' with
    |zero=>exact absurd hk' (Zm1 _)
    |succ k'=>simp only [Cm,Ae1 h0,hi,H3 h0,hp.er l.tail m q (by omega) hq hc]
   |ok x =>
    obtain⟨x,l1⟩:=x
    have h1:=hp.le l.tail x l1 (by omega) hq
    have ih:=Ae5 hp hs k (mkX p.2 [e,x]) l1 (by omega) (by omega)
    simp only
    cases hr:Cm part sg k (mkX p.2 [e,x]) l1 with
    |error q =>
     rw [hr] at ih
     simp only at ih ⊢
     refine⟨by omega,fun k' m hc hk' =>?_⟩
     cases k' with
     |zero=>exact absurd hk' (Zm1 _)
     |succ k' =>
      simp only [Cm,Ae1 h0,hi,H3 h0,hp.ok l.tail m x l1 (by omega) hq (Bm3 (Arh ih.1 hc))]
      refine ih.2 k' m hc ?_
      simp only [Zh1] at hk' ⊢
      omega
    |ok y =>
     obtain⟨e,l'⟩:=y
     rw [hr] at ih
     simp only at ih ⊢
     refine⟨by omega,fun k' m hc hk' =>?_⟩
     cases k' with
     |zero=>exact absurd hk' (Zm1 _)
     |succ k' =>
      simp only [Cm,Ae1 h0,hi,H3 h0,hp.ok l.tail m x l1 (by omega) hq (Arh ih.1 hc)]
      refine ih.2 k' m hc ?_
      simp only [Zh1] at hk' ⊢
      omega
theorem LookN.left{part:TL→PR Xpr}(hp:LookN n part) {sg:List (Str×Int)}(hs:∀p,p∈sg→p.1≠[59]∧p.1≠[41]):LookN n (Dm part sg):=by
 have e:Dm part sg=bP part fun x l=>Cm part sg (l.length+1) x l:=by
  funext l
  simp only [Dm,bP]
  cases part l<;>rfl
 rw [e]
 refine LookN.bind hp fun x=>⟨fun l e l' hl h =>?_,fun l q hl h =>?_,fun l m e l' hl h hc =>?_,fun l m q hl h hc =>?_⟩
 ·have:=Ae5 hp hs (l.length+1) x l hl (by omega)
  have h:Cm part sg (l.length+1) x l=_:=h
  rw [h] at this
  exact this.1
 ·have:=Ae5 hp hs (l.length+1) x l hl (by omega)
  have h:Cm part sg (l.length+1) x l=_:=h
  rw [h] at this
  exact this.1
 ·have:=Ae5 hp hs (l.length+1) x l hl (by omega)
  have h:Cm part sg (l.length+1) x l=_:=h
  rw [h] at this
  exact this.2 _ m hc (by omega)
 ·have:=Ae5 hp hs (l.length+1) x l hl (by omega)
  have h:Cm part sg (l.length+1) x l=_:=h
  rw [h] at this
  exact this.2 _ m hc (by omega)
theorem LookN.mono{m:Nat}(h:m≤n) {p:TL→PR α}(hp:LookN n p):LookN m p :=
 ⟨fun l e l' hl=>hp.le l e l' (by omega),fun l q hl=>hp.ler l q (by omega),fun l m e l' hl=>hp.ok l m e l' (by omega),fun l m q hl=>hp.er l m q (by omega)⟩
def brP(rec:TL→PR Xpr):TL→PR Xpr:=bP rec fun e l=>match isT [41] l with|true=>Ey e l.tail|false =>.error l
theorem Bhq(rec:TL→PR Xpr) (t:Tok) (r:TL):Cd rec (t::r) =
  if t.kind=2 then .ok (.mk 2 ⟨0,0,[]⟩ t.s [],r)
  else if t.kind=3 then .ok (Vo 3 t.n [],r)
  else if t.kind=4 then .ok (Vo 4 0 t.s,r)
  else if t.kind=5 then .ok (Vo 5 0 t.s,r)
  else if t.kind=1∧t.s=Ae7 then .ok (Vo 2 1 [],r)
  else if t.kind=1∧t.s=Vj then .ok (Vo 2 0 [],r)
  else if t.kind=1∧t.s=Ej then .ok (Vo 1 0 [],r)
  else match isT [40] (t::r) with
   |true=>brP rec r
   |false =>.error (t::r):=by
 simp only [Cd]
 repeat (split; · rfl)
 cases h:isT [40] (t::r) with
 |false=>rfl
 |true =>
  simp only [brP,bP,if_true]
  cases rec r with
  |error q=>rfl
  |ok x =>
   obtain⟨e,l'⟩:=x
   simp only
   cases isT [41] l'<;>rfl
def Bbb(t:Tok):Option Xpr :=
 if t.kind=2 then some (.mk 2 ⟨0,0,[]⟩ t.s [])
 else if t.kind=3 then some (Vo 3 t.n [])
 else if t.kind=4 then some (Vo 4 0 t.s)
 else if t.kind=5 then some (Vo 5 0 t.s)
 else if t.kind=1∧t.s=Ae7 then some (Vo 2 1 [])
 else if t.kind=1∧t.s=Vj then some (Vo 2 0 [])
 else if t.kind=1∧t.s=Ej then some (Vo 1 0 [])
 else none
theorem Ara(rec:TL→PR Xpr) (t:Tok) (r:TL):Cd rec (t::r)=match Bbb t with
  |some v =>.ok (v,r)
  |none=>match isT [40] (t::r) with
   |true=>brP rec r
   |false =>.error (t::r):=by
 rw [Bhq]
 unfold Bbb
 by_cases h2:t.kind=2
 ·rw [if_pos h2,if_pos h2]
 rw [if_neg h2,if_neg h2]
 by_cases h3:t.kind=3
 ·rw [if_pos h3,if_pos h3]
 rw [if_neg h3,if_neg h3]
 by_cases h4:t.kind=4
 ·rw [if_pos h4,if_pos h4]
 rw [if_neg h4,if_neg h4]
 by_cases h5:t.kind=5
 ·rw [if_pos h5,if_pos h5]
 rw [if_neg h5,if_neg h5]
 by_cases h6:t.kind=1∧t.s=Ae7
 ·rw [if_pos h6,if_pos h6]
 rw [if_neg h6,if_neg h6]
 by_cases h7:t.kind=1∧t.s=Vj
 ·rw [if_pos h7,if_pos h7]
 rw [if_neg h7,if_neg h7]
 by_cases h8:t.kind=1∧t.s=Ej
 ·rw [if_pos h8,if_pos h8]
 rw [if_neg h8,if_neg h8]
end Go.Proofs.YthndhaolemgbdaaGreatDoor
