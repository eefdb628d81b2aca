/- Texts of the proof,one behind the other: Qb,Qc,Qd,Qe. -/
import Derived.Test.YthndhaolemgbdaaGreatDoorP3
set_option linter.all false
namespace Go.Proofs.YthndhaolemgbdaaGreatDoor
open Go.Ax
def opTab:List (Str×Nat×Int):=[(Aq5,2,4),(sOR,1,5),([61],4,6),([60,62],4,7),([60],4,8),([60,61],4,9),([62],4,10),([62,61],4,11),([43],5,12),([45],5,13),([42],6,14)]
def bindS(s:Str):Nat×Int:=match opTab.find? (fun p=>decide (s=p.1)) with
 |some p=>p.2
 |none=>(0,0)
def Bv:TL→Nat×Int
 |[]=>(0,0)
 |t::_=>match decide (t.kind=1)||decide (t.kind=6) with
  |true=>bindS t.s
  |false=>(0,0)
def sgL:Nat→List (Str×Int)
 |1=>[(sOR,5)]
 |2=>[(Aq5,4)]
 |4=>cmpS
 |5=>[([43],12),([45],13)]
 |6=>[([42],14)]
 |_=>[]
abbrev SR:=Xpr×Nat×TL
def Jh(rec:Nat→TL→PR Xpr) (k:Nat) (l:TL):Except TL SR :=
 match isT M0 l&&decide (k≤3) with
 |true=>match rec 3 l.tail with
  |.error q =>.error q
  |.ok (x,l') =>.ok (mkX 3 [x],3,l')
 |false=>match isT [45] l with
  |true=>match rec 7 l.tail with
   |.error q =>.error q
   |.ok (x,l') =>.ok (mkX 15 [x],7,l')
  |false=>match B1 (rec 1) l with
   |.error q =>.error q
   |.ok (x,l') =>.ok (x,7,l')
def Cv(rec:Nat→TL→PR Xpr) (k:Nat) (s:SR):Option (Except TL SR) :=
 if isT sIS s.2.2=true∧k≤4∧4<s.2.1 then some (match isP s.1 s.2.2 with
  |.error q =>.error q
  |.ok (x,l') =>.ok (x,4,l'))
 else if(Bv s.2.2).1=0∨(Bv s.2.2).1<k∨s.2.1<(Bv s.2.2).1∨((Bv s.2.2).1=4∧s.2.1=4) then none
 else some (match rec ((Bv s.2.2).1+1) s.2.2.tail with
  |.error q =>.error q
  |.ok (x,l') =>.ok (mkX (Bv s.2.2).2 [s.1,x],(Bv s.2.2).1,l'))
def Cj(rec:Nat→TL→PR Xpr) (k:Nat):Nat→SR→Except TL SR
 |0,s =>.error s.2.2
 |n+1,s=>match Cv rec k s with
  |none =>.ok s
  |some (.error q) =>.error q
  |some (.ok s')=>Cj rec k n s'
def Acr(x:Except TL SR) (f:SR→Except TL SR):Except TL SR:=match x with
 |.error q =>.error q
 |.ok s=>f s
def exT(rec:Nat→TL→PR Xpr) (k:Nat) (l:TL):Except TL SR:=Acr (Jh rec k l) fun s=>Cj rec k (s.2.2.length+1) s
def exB(rec:Nat→TL→PR Xpr) (k:Nat) (l:TL):PR Xpr:=match exT rec k l with
 |.error q =>.error q
 |.ok s =>.ok (s.1,s.2.2)
theorem Awy(s:Str):(bindS s).1≤6∧(bindS s).1≠3:=by
 simp only [bindS]
 cases h:opTab.find? (fun p=>decide (s=p.1)) with
 |none=>simp
 |some p =>
  have hm:=List.mem_of_find?_eq_some h
  have ha:∀p,p∈opTab→p.2.1≤6∧p.2.1≠3:=by decide
  exact ha p hm
theorem Aih(l:TL):(Bv l).1≤6∧(Bv l).1≠3:=by
 cases l with
 |nil=>simp [Bv]
 |cons t r =>
  simp only [Bv]
  cases decide (t.kind=1)||decide (t.kind=6) with
  |true=>exact Awy t.s
  |false=>simp
theorem A77{l:TL}(h:isT sIS l=true):Bv l=(0,0):=by
 cases l with
 |nil=>rfl
 |cons t r =>
  simp only [isT,Zb1,Zg1] at h
  simp only [Bv,h.1,h.2]
  decide
theorem A2e(n:Nat) (s:Str) (hn:n=1∨n=2∨n=4∨n=5∨n=6):((bindS s).1=n→∃p,(sgL n).find? (fun p=>decide (s=p.1))=some p∧p.2=(bindS s).2)∧((bindS s).1≠n→(sgL n).find? (fun p=>decide (s=p.1))=none):=by
 by_cases h:s∈opTab.map (·.1)
 ·have ha:∀s,s∈opTab.map (·.1)→∀n,n=1∨n=2∨n=4∨n=5∨n=6→(((bindS s).1=n→((sgL n).find? (fun p=>decide (s=p.1))).map (·.2)=some (bindS s).2)∧((bindS s).1≠n→(sgL n).find? (fun p=>decide (s=p.1))=none)):=by
   intro s hs n hn
   simp only [opTab,Zw1,List.map_nil,List.mem_cons,List.not_mem_nil,or_false] at hs
   rcases hs with rfl|rfl|rfl|rfl|rfl|rfl|rfl|rfl|rfl|rfl|rfl<;>rcases hn with rfl|rfl|rfl|rfl|rfl<;>decide
  obtain⟨h1,h2⟩:=ha s h n hn
  refine⟨fun e =>?_,h2⟩
  have:=h1 e
  cases hf:(sgL n).find? (fun p=>decide (s=p.1)) with
  |none=>rw [hf] at this;cases this
  |some p =>
   rw [hf] at this
   exact⟨p,rfl,by simpa using this⟩
 ·have h0:bindS s=(0,0):=by
   simp only [bindS]
   cases hf:opTab.find? (fun p=>decide (s=p.1)) with
   |none=>rfl
   |some p =>
    have h1:=List.mem_of_find?_eq_some hf
    have h2:=List.find?_some hf
    simp only [Zg1] at h2
    exact absurd (List.mem_map.2 ⟨p,h1,h2.symm⟩) h
  rw [h0]
  refine⟨fun e =>?_,fun _ =>?_⟩
  ·simp only at e
   omega
  ·rw [List.find?_eq_none]
   intro p hp
   simp only [Zg1]
   intro e
   have hsub:∀q,q∈sgL n→q.1∈opTab.map (·.1):=by
    rcases hn with rfl|rfl|rfl|rfl|rfl<;>decide
   exact h (by rw [e];exact hsub p hp)
theorem Ab5(n:Nat) (l:TL) (hn:n=1∨n=2∨n=4∨n=5∨n=6):((Bv l).1=n→∃p,(sgL n).find? (fun p=>isT p.1 l)=some p∧p.2=(Bv l).2)∧((Bv l).1≠n→(sgL n).find? (fun p=>isT p.1 l)=none):=by
 cases l with
 |nil =>
  refine⟨fun e =>?_,fun _ =>?_⟩
  ·simp only [Bv] at e;omega
  ·exact List.find?_eq_none.2 fun p _=>by simp [isT]
 |cons t r =>
  simp only [Bv,isT]
  cases hk:(decide (t.kind=1)||decide (t.kind=6)) with
  |true=>simpa using A2e n t.s hn
  |false =>
   refine⟨fun e =>?_,fun _ =>?_⟩
   ·simp only at e;omega
   ·exact List.find?_eq_none.2 fun p _=>by simp
variable {V:Nat→TL→PR Xpr}
theorem Adm(hv:∀k,Em (V k)) {k:Nat}{s s':SR}(h:Cv V k s=some (.ok s')):s'.2.2.length<s.2.2.length:=by
 simp only [Cv] at h
 split at h
 ·rename_i hc
  have hi:=O7 hc.1
  cases hq:isP s.1 s.2.2 with
  |error q=>rw [hq] at h;cases h
  |ok x =>
   obtain⟨e1,m⟩:=x
   rw [hq] at h
   injection h with h;injection h with h
   rw [←h]
   simp only [isP] at hq
   have h2:=Cf s.2.2.tail
   have h3:=Cf s.2.2.tail.tail
   cases hn:isT M0 s.2.2.tail with
   |true =>
    rw [hn] at hq
    cases hu:isT E3 s.2.2.tail.tail with
    |true =>
     simp only [hu] at hq
     injection hq with hq;injection hq with _ hq;rw [←hq];show s.2.2.tail.tail.tail.length<s.2.2.length;omega
    |false=>simp only [hu] at hq;cases hq
   |false =>
    rw [hn] at hq
    cases hu:isT E3 s.2.2.tail with
    |true =>
     simp only [hu] at hq
     injection hq with hq;injection hq with _ hq;rw [←hq];show s.2.2.tail.tail.length<s.2.2.length;omega
    |false=>simp only [hu] at hq;cases hq
 ·split at h
  ·cases h
  ·cases hq:V ((Bv s.2.2).1+1) s.2.2.tail with
   |error q=>rw [hq] at h;cases h
   |ok x =>
    obtain⟨e1,m⟩:=x
    rw [hq] at h
    injection h with h;injection h with h
    rw [←h]
    have h1:=hv _ _ _ _ hq
    have h2:=Cf s.2.2
    show m.length<_
    omega
theorem A0c{a b:Nat}(h:a≤b) {s:SR}{r:Except TL SR}(hs:Cv V b s=some r):Cv V a s=some r:=by
 simp only [Cv] at hs ⊢
 by_cases hc:isT sIS s.2.2=true∧b≤4∧4<s.2.1
 ·rw [if_pos hc] at hs
  rw [if_pos ⟨hc.1,by omega,hc.2.2⟩]
  exact hs
 ·rw [if_neg hc] at hs
  by_cases hn:(Bv s.2.2).1=0∨(Bv s.2.2).1<b∨s.2.1<(Bv s.2.2).1∨((Bv s.2.2).1=4∧s.2.1=4)
  ·rw [if_pos hn] at hs;cases hs
  ·rw [if_neg hn] at hs
   have hi:¬isT sIS s.2.2=true:=fun e=>by
    rw [A77 e] at hn
    exact hn (.inl rfl)
   rw [if_neg (fun e=>hi e.1),if_neg (by omega)]
   exact hs
theorem Al1(hv:∀k,Em (V k)) (k:Nat):∀(n m:Nat) (s:SR),s.2.2.length<n→s.2.2.length<m→Cj V k n s=Cj V k m s
 |0,_,_,h,_=>by omega
 |_,0,_,_,h=>by omega
 |n+1,m+1,s,hn,hm=>by
  simp only [Cj]
  cases hs:Cv V k s with
  |none=>rfl
  |some r =>
   cases r with
   |error q=>rfl
   |ok s' =>
    have:=Adm hv hs
    exact Al1 hv k n m s' (by omega) (by omega)
theorem Axq(hv:∀k,Em (V k)) (k:Nat):∀(n:Nat) (s s':SR),Cj V k n s = .ok s'→s'.2.2.length≤s.2.2.length∧Cv V k s' = none
 |0,_,_,h=>by cases h
 |n+1,s,s',h=>by
  simp only [Cj] at h
  cases hs:Cv V k s with
  |none =>
   rw [hs] at h
   injection h with h
   rw [←h]
   exact⟨Zn1 _,hs⟩
  |some r =>
   rw [hs] at h
   cases r with
   |error q=>cases h
   |ok s1 =>
    have h1:=Adm hv hs
    have h2:=Axq hv k n s1 s' h
    exact⟨by omega,h2.2⟩
theorem Akv(hv:∀k,Em (V k)) {a b:Nat}(h:a≤b):∀(n:Nat) (s:SR),s.2.2.length<n→Cj V a n s=Acr (Cj V b n s) fun s'=>Cj V a (s'.2.2.length+1) s'
 |0,_,hn=>by omega
 |n+1,s,hn=>by
  cases hs:Cv V b s with
  |none =>
   have e:Cj V b (n+1) s = .ok s:=by simp only [Cj,hs]
   rw [e]
   exact Al1 hv a _ _ s hn (by omega)
  |some r =>
   have ha:=A0c h hs
   cases r with
   |error q =>
    simp only [Cj,hs,ha]
    rfl
   |ok s1 =>
    have h1:=Adm hv hs
    have e1:Cj V a (n+1) s=Cj V a n s1:=by simp only [Cj,ha]
    have e2:Cj V b (n+1) s=Cj V b n s1:=by simp only [Cj,hs]
    rw [e1,e2]
    exact Akv hv h n s1 (by omega)
theorem Ax8(hv:∀k,Em (V k)) {k:Nat}(hk:k=1∨k=2∨k=5∨k=6):∀(n:Nat) (e:Xpr) (h:Nat) (l:TL),l.length<n→(h=k∨(k<h∧Cv V (k+1) (e,h,l)=none)) →
  match B8 (V (k+1)) (sgL k) n e l with
  |.error q=>Cj V k n (e,h,l) = .error q
  |.ok (e',l')=>∃h',k≤h'∧Cj V k n (e,h,l) = .ok (e',h',l')
 |0,_,_,_,hn,_=>by omega
 |n+1,e,h,l,hn,hc=>by
  by_cases hb:(Bv l).1=k
  ·obtain⟨p,hp1,hp2⟩:=(Ab5 k l (by omega)).1 hb
   have hi:¬isT sIS l=true:=fun q=>by
    rw [A77 q] at hb
    simp only at hb
    omega
   have hst:Cv V k (e,h,l)=some (match V (k+1) l.tail with
     |.error q =>.error q
     |.ok (x,l') =>.ok (mkX p.2 [e,x],k,l')):=by
    simp only [Cv,hb,hp2]
    rw [if_neg (fun q=>hi q.1),if_neg (by omega)]
   simp only [B8,hp1,Cj,hst]
   cases hq:V (k+1) l.tail with
   |error q=>rfl
   |ok x =>
    obtain⟨x,l1⟩:=x
    have h1:=hv _ _ _ _ hq
    have h2:=Cf l
    exact Ax8 hv hk n (mkX p.2 [e,x]) k l1 (by omega) (.inl rfl)
  ·have hst:Cv V k (e,h,l)=none:=by
    simp only [Cv]
    rcases hc with rfl|⟨hlt,hn1⟩
    ·rw [if_neg (fun q=>by have:=q.2;omega),if_pos (by omega)]
    ·simp only [Cv] at hn1
     split at hn1
     ·cases hn1
     ·rename_i hi
      split at hn1
      ·rename_i ho
       rw [if_neg (fun q=>hi ⟨q.1,by have:=q.2.1;omega,q.2.2⟩),if_pos (by omega)]
      ·cases hn1
   simp only [B8,(Ab5 k l (by omega)).2 hb,Cj,hst]
   exact⟨h,by omega,rfl⟩
theorem Lw{k:Nat}{e:Xpr}{h:Nat}{l:TL}(hi:¬(isT sIS l=true∧k≤4∧4<h)) (hn:(Bv l).1=0∨(Bv l).1<k∨h<(Bv l).1∨((Bv l).1=4∧h=4)):Cv V k (e,h,l)=none:=by
 simp only [Cv]
 rw [if_neg hi,if_pos hn]
theorem Alw{k:Nat}{e:Xpr}{h:Nat}{l:TL}(hs:Cv V k (e,h,l)=none):¬(isT sIS l=true∧k≤4∧4<h)∧((Bv l).1=0∨(Bv l).1<k∨h<(Bv l).1∨((Bv l).1=4∧h=4)):=by
 simp only [Cv] at hs
 split at hs
 ·cases hs
 ·rename_i hi
  split at hs
  ·rename_i hn;exact⟨hi,hn⟩
  ·cases hs
theorem As7{e:Xpr}{h:Nat}{l:TL}:Cv V 7 (e,h,l)=none :=
 Lw (fun q=>by have:=q.2;omega) (by have:=Aih l;omega)
theorem Af6{e:Xpr}{l:TL}:Cv V 4 (e,4,l)=none :=
 Lw (fun q=>by have:=q.2;omega) (by omega)
theorem Ek{k n:Nat}{s:SR}(h:Cv V k s=none):Cj V k (n+1) s = .ok s:=by simp only [Cj,h]
theorem Amq{a b:Nat}(ha : 3<a) (hb : 3<b) (l:TL):Jh V a l=Jh V b l:=by
 simp only [Jh]
 rw [Zd1 (show ¬a≤3 by omega),Zd1 (show ¬b≤3 by omega)]
theorem Awq{a b:Nat}(ha:a≤3) (hb:b≤3) (l:TL):Jh V a l=Jh V b l:=by
 simp only [Jh]
 rw [Ze1 ha,Ze1 hb]
theorem An2(hv:∀k,Em (V k)) {a b:Nat}(h:a≤b) {l:TL}(hp:Jh V a l=Jh V b l):exT V a l=Acr (exT V b l) fun s=>Cj V a (s.2.2.length+1) s:=by
 unfold exT
 rw [hp]
 cases Jh V b l with
 |error q=>rfl
 |ok s=>exact Akv hv h _ s (by omega)
def Lv(V:Nat→TL→PR Xpr) (k:Nat) (l:TL):Prop:=match V k l with
 |.error q=>exT V k l = .error q
 |.ok (e,l')=>∃h,k≤h∧exT V k l = .ok (e,h,l')∧Cv V k (e,h,l')=none
theorem Agk(hv:∀k,Em (V k)) {k:Nat}(hk:k=1∨k=2∨k=5∨k=6) (hV:V k=Cw (V (k+1)) (sgL k)) {l:TL}(h:Lv V (k+1) l):Lv V k l:=by
 have hp:Jh V k l=Jh V (k+1) l:=by
  rcases hk with rfl|rfl|rfl|rfl
  ·exact Awq (by omega) (by omega) l
  ·exact Awq (by omega) (by omega) l
  ·exact Amq (by omega) (by omega) l
  ·exact Amq (by omega) (by omega) l
 have hc:=An2 hv (Nat.le_succ k) hp
 unfold Lv at h ⊢
 rw [hV]
 unfold Cw
 cases hq:V (k+1) l with
 |error q =>
  rw [hq] at h
  simp only at h ⊢
  rw [hc,h]
  rfl
 |ok x =>
  obtain⟨e,l'⟩:=x
  rw [hq] at h
  simp only at h ⊢
  obtain⟨h1,h2,h3,h4⟩:=h
  rw [h3] at hc
  have hc:exT V k l=Cj V k (l'.length+1) (e,h1,l'):=hc
  have hl:=Ax8 hv hk (l'.length+1) e h1 l' (by omega) (.inr ⟨by omega,h4⟩)
  rw [hc]
  cases hg:B8 (V (k+1)) (sgL k) (l'.length+1) e l' with
  |error q =>
   rw [hg] at hl
   exact hl
  |ok y =>
   obtain⟨e2,l2⟩:=y
   rw [hg] at hl
   simp only at hl ⊢
   obtain⟨h',h5,h6⟩:=hl
   exact⟨h',h5,h6,(Axq hv k _ _ _ h6).2⟩
theorem Bdu(hv:∀k,Em (V k)) (hV:V 4=Ab2 (V 5)) {l:TL}(h:Lv V 5 l):Lv V 4 l:=by
 have hc:=An2 (V:=V) hv (show 4≤5 by omega) (Amq (by omega) (by omega) l)
 unfold Lv at h ⊢
 rw [hV]
 unfold Ab2
 cases hq:V 5 l with
 |error q =>
  rw [hq] at h
  simp only at h ⊢
  rw [hc,h]
  rfl
 |ok x =>
  obtain⟨e,l'⟩:=x
  rw [hq] at h
  simp only at h ⊢
  obtain⟨h1,h2,h3,h4⟩:=h
  rw [h3] at hc
  have hc:exT V 4 l=Cj V 4 (l'.length+1) (e,h1,l'):=hc
  rw [hc]
  obtain⟨n1,n2⟩:=Alw h4
  by_cases hb:(Bv l').1=4
  ·obtain⟨p,hp1,hp2⟩:=(Ab5 4 l' (by omega)).1 hb
   have hp1:cmpS.find? (fun p=>isT p.1 l')=some p:=hp1
   have hi:¬isT sIS l' = true:=fun q=>by
    rw [A77 q] at hb
    simp only at hb
    omega
   have hst:Cv V 4 (e,h1,l')=some (match V 5 l'.tail with
     |.error q =>.error q
     |.ok (x,l') =>.ok (mkX p.2 [e,x],4,l')):=by
    simp only [Cv,hb,hp2]
    rw [if_neg (fun q=>hi q.1),if_neg (by omega)]
   have hlen : 1≤l'.length:=by
    cases l' with
    |nil=>simp only [Bv] at hb;omega
    |cons t r=>simp
   rw [hp1]
   simp only [Cj,hst]
   cases hq2:V 5 l'.tail with
   |error q=>rfl
   |ok y =>
    obtain⟨x,l2⟩:=y
    simp only
    refine⟨4,by omega,?_,Af6⟩
    obtain⟨m,hm⟩:=Nat.exists_eq_add_of_le hlen
    rw [hm,Nat.add_comm 1 m]
    exact Ek Af6
  ·have hf:cmpS.find? (fun p=>isT p.1 l')=none:=(Ab5 4 l' (by omega)).2 hb
   rw [hf]
   simp only
   cases hi:isT sIS l' with
   |true =>
    have hlen:=O7 hi
    have hst:Cv V 4 (e,h1,l')=some (match isP e l' with
      |.error q =>.error q
      |.ok (x,l') =>.ok (x,4,l')):=by
     simp only [Cv]
     rw [if_pos ⟨hi,by omega,by omega⟩]
    simp only [Cj,hst]
    cases hq2:isP e l' with
    |error q=>rfl
    |ok y =>
     obtain⟨x,l2⟩:=y
     simp only
     refine⟨4,by omega,?_,Af6⟩
     rw [←hlen]
     exact Ek Af6
   |false =>
    have hn:Cv V 4 (e,h1,l')=none:=Lw (fun q=>by rw [hi] at q;cases q.1) (by omega)
    exact⟨h1,by omega,Ek hn,hn⟩
theorem Bfz(hv:∀k,Em (V k)) (hV:V 3=Br M0 3 (V 4)) {l:TL}(h:Lv V 4 l):Lv V 3 l:=by
 have stop:∀{e:Xpr}{l':TL},Cv V 3 (e,3,l')=none:=fun {e l'}=>Lw (fun q=>by have:=q.2;omega) (by have:=Aih l';omega)
 cases hn:isT M0 l with
 |true =>
  have hp:exT V 3 l=Acr (match V 3 l.tail with
    |.error q =>.error q
    |.ok (x,l') =>.ok (mkX 3 [x],3,l')) fun s=>Cj V 3 (s.2.2.length+1) s:=by
   unfold exT Jh
   rw [hn,Ze1 (show 3≤3 by omega)]
   rfl
  cases l with
  |nil=>cases hn
  |cons t r =>
   unfold Lv
   rw [hp,hV]
   simp only [Br,hn,List.tail_cons]
   cases Br M0 3 (V 4) r with
   |error q=>rfl
   |ok x =>
    obtain⟨e,l'⟩:=x
    exact⟨3,Zn1 _,Ek stop,stop⟩
 |false =>
  have hpr:Jh V 3 l=Jh V 4 l:=by
   simp only [Jh,hn,Bool.false_and]
  have hc:=An2 (V:=V) hv (show 3≤4 by omega) hpr
  have ha:V 3 l=V 4 l:=by
   rw [hV]
   cases l with
   |nil=>rfl
   |cons t r=>simp only [Br,hn]
  unfold Lv at h ⊢
  rw [ha]
  cases hq:V 4 l with
  |error q =>
   rw [hq] at h
   simp only at h ⊢
   rw [hc,h]
   rfl
  |ok x =>
   obtain⟨e,l'⟩:=x
   rw [hq] at h
   simp only at h ⊢
   obtain⟨h1,h2,h3,h4⟩:=h
   obtain⟨n1,n2⟩:=Alw h4
   have hs:Cv V 3 (e,h1,l')=none:=Lw (fun q=>n1 ⟨q.1,by omega,q.2.2⟩) (by have:=Aih l';omega)
   refine⟨h1,by omega,?_,hs⟩
   rw [hc,h3]
   exact Ek hs
theorem A44(hV:V 7=Br [45] 15 (B1 (V 1))) (l:TL):Lv V 7 l:=by
 have hx:∀(e:Xpr) (n:Nat) (l':TL),Cj V 7 (n+1) (e,7,l') = .ok (e,7,l'):=fun _ _ _=>Ek As7
 have h3:decide (7≤3)=false:=rfl
 unfold Lv exT Jh
 rw [hV,h3,Bool.and_false]
 simp only
 cases l with
 |nil=>rfl
 |cons t r =>
  cases hm:isT [45] (t::r) with
  |true =>
   simp only [Br,hm,List.tail_cons]
   cases Br [45] 15 (B1 (V 1)) r with
   |error q=>rfl
   |ok x=>exact⟨7,Zn1 _,hx _ _ _,As7⟩
  |false =>
   simp only [Br,hm]
   cases B1 (V 1) (t::r) with
   |error q=>rfl
   |ok x=>exact⟨7,Zn1 _,hx _ _ _,As7⟩
abbrev VV:Nat→TL→PR Xpr:=lev orW
theorem X3(k:Nat):Em (VV k):=Aqu Ao9 k
theorem Mr:VV 1=orW:=funext fun l=>(Aw9 l).symm
theorem Bgq(l:TL):∀k,1≤k→k≤7→Lv VV k l:=by
 have h7:Lv VV 7 l:=A44 (by rw [Mr];rfl) l
 have h6:Lv VV 6 l:=Agk X3 (.inr (.inr (.inr rfl))) rfl h7
 have h5:Lv VV 5 l:=Agk X3 (.inr (.inr (.inl rfl))) rfl h6
 have h4:Lv VV 4 l:=Bdu X3 rfl h5
 have h3:Lv VV 3 l:=Bfz X3 rfl h4
 have h2:Lv VV 2 l:=Agk X3 (.inr (.inl rfl)) rfl h3
 have h1:Lv VV 1 l:=Agk X3 (.inl rfl) rfl h2
 intro k a b
 match k,a,b with
 |1,_,_=>exact h1
 |2,_,_=>exact h2
 |3,_,_=>exact h3
 |4,_,_=>exact h4
 |5,_,_=>exact h5
 |6,_,_=>exact h6
 |7,_,_=>exact h7
theorem Apy{k:Nat}(h1 : 1≤k) (h7:k≤7) (l:TL):exB VV k l=VV k l:=by
 have h:=Bgq l k h1 h7
 unfold Lv at h
 unfold exB
 cases hq:VV k l with
 |error q =>
  rw [hq] at h
  simp only at h
  rw [h]
 |ok x =>
  obtain⟨e,l'⟩:=x
  rw [hq] at h
  simp only at h
  obtain⟨a,_,h2,_⟩:=h
  rw [h2]
end Go.Proofs.YthndhaolemgbdaaGreatDoor
namespace Go.Proofs.YthndhaolemgbdaaGreatDoor
open Go.Ax
def bP{α β:Type}(p:TL→PR α) (f : α→TL→PR β) (l:TL):PR β:=match p l with
 |.error q =>.error q
 |.ok (x,l')=>f x l'
def T8{α:Type}(x : α) (l:TL):PR α :=.ok (x,l)
def Co:List Str→TL→PR Unit
 |[],l =>.ok ((),l)
 |s::ss,l=>match isT s l with
  |true=>Co ss l.tail
  |false =>.error l
def N8:TL→PR Str
 |[] =>.error []
 |t::r=>match decide (t.kind=2) with
  |true =>.ok (t.s,r)
  |false =>.error (t::r)
def Dx{α:Type}(part:TL→PR α):Nat→List α→TL→PR (List α)
 |0,_,l =>.error l
 |n+1,acc,l=>match isT [44] l with
  |false =>.ok (acc,l)
  |true=>match part l.tail with
   |.error q =>.error q
   |.ok (x,l')=>Dx part n (acc++[x]) l'
def Ahy{α:Type}(part:TL→PR α) (l:TL):PR (List α):=match part l with
 |.error q =>.error q
 |.ok (x,l')=>Dx part (l'.length+1) [x] l'
def Bga(s:Str) (ss:List Str) (l:TL):PR Bool:=match isT s l with
 |true=>match Co ss l.tail with
  |.error q =>.error q
  |.ok (_,l') =>.ok (true,l')
 |false =>.ok (false,l)
def A5x:Str:=[84,65,66,76,69]
def A4e:Str:=[73,78,68,69,88]
def wON:Str:=[79,78]
def A36:Str:=[80,82,73,77,65,82,89]
def Bid:Str:=[75,69,89]
def Bdr:Str:=[67,72,69,67,75]
def A9n:Str:=[85,78,73,81,85,69]
def Bib:Str:=[82,69,70,69,82,69,78,67,69,83]
def Bgd:Str:=[66,79,79,76]
def Bh5:Str:=[73,78,84]
def Bg2:Str:=[84,69,88,84]
def Bds:Str:=[66,89,84,69,83]
def Bek:Str:=[87,72,69,82,69]
def Bia:Str:=[83,69,84]
def Bdd:Str:=[70,82,79,77]
def Bfo:Str:=[79,82,68,69,82]
def wBY:Str:=[66,89]
def Bgl:Str:=[68,69,83,67]
def Bh3:Str:=[65,83,67]
def Bd3:Str:=[76,73,77,73,84]
def Bgc:Str:=[73,78,84,79]
def A9l:Str:=[86,65,76,85,69,83]
def Bc0:Str:=[67,82,69,65,84,69]
def Bho:Str:=[68,82,79,80]
def Bad:Str:=[73,78,83,69,82,84]
def A9y:Str:=[85,80,68,65,84,69]
def Bbg:Str:=[68,69,76,69,84,69]
def Bav:Str:=[83,69,76,69,67,84]
def zX:Xpr :=.mk 0 ⟨0,0,[]⟩ [] []
def zS:Stm:=⟨0,[],[],[],[],[],[],[],false,zX,[],[],0⟩
def A7f:TL→PR (List Str):=bP (Co [[40]]) fun _=>bP (Ahy N8) fun x=>bP (Co [[41]]) fun _=>T8 x
def A5b:TL→PR (List Xpr):=Ahy orW
def Bgi(l:TL):PR Int :=
 match isT Bgd l with
 |true =>.ok (2,l.tail)
 |false=>match isT Bh5 l with
  |true =>.ok (3,l.tail)
  |false=>match isT Bg2 l with
   |true =>.ok (4,l.tail)
   |false=>match isT Bds l with
    |true =>.ok (5,l.tail)
    |false =>.error l
def Bii(l:TL):PR Str:=match isT Bib l with
 |true=>N8 l.tail
 |false =>.ok ([],l)
def Bij:TL→PR Col:=bP N8 fun n=>bP Bgi fun k=>bP (Bga M0 [E3]) fun nn=>bP (Bga A9n []) fun u=>bP Bii fun r=>T8 ⟨n,k,nn,u,r⟩
def Bf9:TL→PR Col:=bP Bij fun c=>bP (Co [[44]]) fun _=>T8 c
def A52:Nat→List Col→TL→PR (List Col)
 |0,_,l =>.error l
 |n+1,acc,l=>match isT A36 l with
  |true =>.ok (acc,l.tail)
  |false=>match Bf9 l with
   |.error q =>.error q
   |.ok (c,l')=>A52 n (acc++[c]) l'
def Bg1(l:TL):PR (List Col):=match Bf9 l with
 |.error q =>.error q
 |.ok (c,l')=>A52 (l'.length+1) [c] l'
def Bh6:TL→PR Xpr:=bP (Co [Bdr,[40]]) fun _=>bP orW fun e=>bP (Co [[41]]) fun _=>T8 e
def Bfa:TL→PR Stm:=bP N8 fun n=>bP (Co [[40]]) fun _=>bP Bg1 fun cs=>bP (Co [Bid]) fun _=>bP A7f fun ns=>bP (fun l=>Dx Bh6 (l.length+1) [] l) fun es=>bP (Co [[41]]) fun _=>T8 { zS with kind:=1,name:=n,cols:=cs,names:=ns,l:=es }
def Bdz:TL→PR Stm:=bP (Co [A4e]) fun _=>bP N8 fun n=>bP (Co [wON]) fun _=>bP N8 fun o=>bP A7f fun ns=>T8 { zS with kind:=3,name:=n,on:=o,names:=ns }
def Bao(l:TL):PR Stm:=match isT A5x l with
 |true=>Bfa l.tail
 |false=>Bdz l
def Bf7(l:TL):PR Stm:=match isT A5x l with
 |true=>bP N8 (fun n=>T8 { zS with kind:=2,name:=n }) l.tail
 |false=>bP (Co [A4e]) (fun _=>bP N8 fun n=>T8 { zS with kind:=4,name:=n }) l
def Bif:TL→PR (List Xpr):=bP (Co [[40]]) fun _=>bP A5b fun r=>bP (Co [[41]]) fun _=>T8 r
def Baw:TL→PR Stm:=bP (Co [Bgc]) fun _=>bP N8 fun n=>bP (Co [A9l]) fun _=>bP (Ahy Bif) fun rs=>T8 { zS with kind:=5,name:=n,rows:=rs }
def Atr(l:TL):PR (Bool×Xpr):=match isT Bek l with
 |true=>match orW l.tail with
  |.error q =>.error q
  |.ok (e,l') =>.ok ((true,e),l')
 |false =>.ok ((false,zX),l)
def Bh7:TL→PR SetE:=bP N8 fun n=>bP (Co [[61]]) fun _=>bP orW fun e=>T8 ⟨n,e⟩
def Bcv:TL→PR Stm:=bP N8 fun n=>bP (Co [Bia]) fun _=>bP (Ahy Bh7) fun ss=>bP Atr fun w=>T8 { zS with kind:=6,name:=n,sets:=ss,has:=w.1,whr:=w.2 }
def A9w:TL→PR Stm:=bP (Co [Bdd]) fun _=>bP N8 fun n=>bP Atr fun w=>T8 { zS with kind:=7,name:=n,has:=w.1,whr:=w.2 }
def Bhu(l:TL):PR (List Xpr):=match isT [42] l with
 |true =>.ok ([],l.tail)
 |false=>A5b l
def Bhe(l:TL):PR Bool:=match isT Bgl l with
 |true =>.ok (true,l.tail)
 |false=>match isT Bh3 l with
  |true =>.ok (false,l.tail)
  |false =>.ok (false,l)
def Bh9:TL→PR (Str×Bool):=bP N8 fun n=>bP Bhe fun d=>T8 (n,d)
def Bfm(l:TL):PR (List (Str×Bool)):=match isT Bfo l with
 |true=>bP (Co [wBY]) (fun _=>Ahy Bh9) l.tail
 |false =>.ok ([],l)
def Bhd:TL→PR Int
 |[] =>.error []
 |t::r=>match decide (t.kind=3) with
  |true =>.ok (t.n,r)
  |false =>.error (t::r)
def Bep(l:TL):PR Int:=match isT Bd3 l with
 |true=>Bhd l.tail
 |false =>.ok (-1,l)
def Bcl:TL→PR Stm:=bP Bhu fun es=>bP (Co [Bdd]) fun _=>bP N8 fun n=>bP Atr fun w=>bP Bfm fun o=>bP Bep fun m=>T8 { zS with kind:=8,name:=n,l:=es,has:=w.1,whr:=w.2,order:=o.map (·.1),desc:=o.map (·.2),most:=m }
def Bgr(l:TL):PR Stm :=
 match isT Bc0 l with
 |true=>Bao l.tail
 |false=>match isT Bho l with
  |true=>Bf7 l.tail
  |false=>match isT Bad l with
   |true=>Baw l.tail
   |false=>match isT A9y l with
    |true=>Bcv l.tail
    |false=>match isT Bbg l with
     |true=>A9w l.tail
     |false=>match isT Bav l with
      |true=>Bcl l.tail
      |false =>.error l
def Bc8(l:TL):TL:=match isT [59] l with
 |true=>l.tail
 |false=>l
def Bej(l:TL):Except TL Stm:=match Bgr l with
 |.error q =>.error q
 |.ok (s,l')=>match Bc8 l' with
  |[] =>.ok s
  |t::r =>.error (t::r)
def Aaf(l:TL):Except TL Xpr:=match orW l with
 |.error q =>.error q
 |.ok (e,[]) =>.ok e
 |.ok (_,t::r) =>.error (t::r)
def Lg(n:Int):TL→Int
 |[]=>n
 |t::_=>t.pos
end Go.Proofs.YthndhaolemgbdaaGreatDoor
namespace Go.Proofs.YthndhaolemgbdaaGreatDoor
open Go.Ax
def Q8:TL→Prop
 |[]=>True
 |t::_=>t.kind=6∧(t.s=[59]∨t.s=[41])
def Ai9:TL→Prop
 |[]=>False
 |t::_=>t.kind=6∧t.s=[59]
theorem Ai9.quiet{m:TL}(h:Ai9 m):Q8 m:=by
 cases m with
 |nil=>trivial
 |cons t r=>exact⟨h.1,.inl h.2⟩
theorem Ahl{m:TL}(h:Q8 m) {s:Str}(h1:s≠[59]) (h2:s≠[41]):isT s m=false:=by
 cases m with
 |nil=>rfl
 |cons t r =>
  have:¬t.s=s:=fun e=>by
   rcases h.2 with q|q
   ·exact h1 (e.symm.trans q)
   ·exact h2 (e.symm.trans q)
  simp only [isT,Zd1 this,Bool.and_false]
theorem Ayd{m:TL}(h:Ai9 m) {s:Str}(h1:s≠[59]):isT s m=false:=by
 cases m with
 |nil=>rfl
 |cons t r =>
  have:¬t.s=s:=fun e=>h1 (e.symm.trans h.2)
  simp only [isT,Zd1 this,Bool.and_false]
theorem Ev{l:TL}(h:l≠[]) (s:Str) (m:TL):isT s (l++m)=isT s l:=by
 cases l with
 |nil=>exact absurd rfl h
 |cons t r=>rfl
theorem Gf{l:TL}(h:l≠[]) (m:TL):(l++m).tail=l.tail++m:=by
 cases l with
 |nil=>exact absurd rfl h
 |cons t r=>rfl
theorem Adj{s:Str}{l:TL}(h:isT s l=true):l≠[]:=by rintro rfl;cases h
structure LookN {α:Type}(n:Nat) (p:TL→PR α):Prop where
 le:∀l e l',l.length<n→p l = .ok (e,l')→l'.length≤l.length
 ler:∀l q,l.length<n→p l = .error q→q.length≤l.length
 ok:∀l m e l',l.length<n→p l = .ok (e,l')→(l'≠[]∨Q8 m)→p (l++m) = .ok (e,l'++m)
 er:∀l m q,l.length<n→p l = .error q→(q≠[]∨Ai9 m)→p (l++m) = .error (q++m)
theorem Bf6{a b:TL}(h:a.length≤b.length) (ha:a≠[]):b≠[]:=by
 rintro rfl
 exact ha (List.length_eq_zero_iff.1 (Nat.le_zero.1 h))
theorem Al4{a b:TL}{P:Prop}(h:a.length≤b.length) (ha:a≠[]∨P):b≠[]∨P:=ha.imp_left (Bf6 h)
theorem Bft{a:TL}{m:TL}(h:a≠[]∨Ai9 m):a≠[]∨Q8 m:=h.imp_right Ai9.quiet
variable {α β:Type}{n:Nat}
theorem LookN.bind{p:TL→PR α}{f : α→TL→PR β}(hp:LookN n p) (hf:∀x,LookN n (f x)):LookN n (bP p f) where
 le l e l' hl h:=by
  simp only [bP] at h
  cases hq:p l with
  |error q=>rw [hq] at h;cases h
  |ok x =>
   obtain⟨x,l1⟩:=x
   rw [hq] at h
   have h1:=hp.le l x l1 hl hq
   have h2:=(hf x).le l1 e l' (by omega) h
   omega
 ler l q hl h:=by
  simp only [bP] at h
  cases hq:p l with
  |error q'=>rw [hq] at h;cases h;exact hp.ler l q hl hq
  |ok x =>
   obtain⟨x,l1⟩:=x
   rw [hq] at h
   have h1:=hp.le l x l1 hl hq
   have h2:=(hf x).ler l1 q (by omega) h
   omega
 ok l m e l' hl h hc:=by
  simp only [bP] at h ⊢
  cases hq:p l with
  |error q=>rw [hq] at h;cases h
  |ok x =>
   obtain⟨x,l1⟩:=x
   rw [hq] at h
   have h1:=hp.le l x l1 hl hq
   have h2:=(hf x).le l1 e l' (by omega) h
   rw [hp.ok l m x l1 hl hq (Al4 h2 hc)]
   exact(hf x).ok l1 m e l' (by omega) h hc
 er l m q hl h hc:=by
  simp only [bP] at h ⊢
  cases hq:p l with
  |error q' =>
   rw [hq] at h
   cases h
   rw [hp.er l m q hl hq hc]
  |ok x =>
   obtain⟨x,l1⟩:=x
   rw [hq] at h
   have h1:=hp.le l x l1 hl hq
   have h2:=(hf x).ler l1 q (by omega) h
   rw [hp.ok l m x l1 hl hq (Bft (Al4 h2 hc))]
   exact(hf x).er l1 m q (by omega) h hc
theorem LookN.pure(x : α):LookN n (T8 x) where
 le l e l' _ h:=by cases h;exact Zn1 _
 ler l q _ h:=by cases h
 ok l m e l' _ h _:=by cases h;rfl
 er l m q _ h _:=by cases h
theorem LookN.opt{s:Str}{p:TL→PR α}{f:TL→PR α}(h1:s≠[59]) (h2:s≠[41]) (hp:LookN n p) (hf:LookN n f):LookN n (fun l=>match isT s l with|true=>p l.tail|false=>f l) where
 le l e l' hl h:=by
  have ht:=Cf l
  cases hi:isT s l with
  |true=>simp only [hi] at h;have:=hp.le _ e l' (by omega) h;omega
  |false=>simp only [hi] at h;exact hf.le l e l' hl h
 ler l q hl h:=by
  have ht:=Cf l
  cases hi:isT s l with
  |true=>simp only [hi] at h;have:=hp.ler _ q (by omega) h;omega
  |false=>simp only [hi] at h;exact hf.ler l q hl h
 ok l m e l' hl h hc:=by
  have ht:=Cf l
  cases hi:isT s l with
  |true =>
   simp only [hi] at h
   have hn:=Adj hi
   simp only [Ev hn,hi,Gf hn]
   exact hp.ok _ m e l' (by omega) h hc
  |false =>
   simp only [hi] at h
   have hh:=hf.ok l m e l' hl h hc
   by_cases hn:l=[]
   ·subst hn
    have hle:=hf.le [] e l' hl h
    have hl':l' = []:=List.length_eq_zero_iff.1 (Nat.le_zero.1 hle)
    have hq:Q8 m:=hc.resolve_left (fun q=>q hl')
    simp only [Zf2,Ahl hq h1 h2]
    exact hh
   ·simp only [Ev hn,hi]
    exact hh
 er l m q hl h hc:=by
  have ht:=Cf l
  cases hi:isT s l with
  |true =>
   simp only [hi] at h
   have hn:=Adj hi
   simp only [Ev hn,hi,Gf hn]
   exact hp.er _ m q (by omega) h hc
  |false =>
   simp only [hi] at h
   have hh:=hf.er l m q hl h hc
   by_cases hn:l=[]
   ·subst hn
    have hle:=hf.ler [] q hl h
    have hl':q=[]:=List.length_eq_zero_iff.1 (Nat.le_zero.1 hle)
    have hq:Ai9 m:=hc.resolve_left (fun q=>q hl')
    simp only [Zf2,Ayd hq h1]
    exact hh
   ·simp only [Ev hn,hi]
    exact hh
theorem LookN.req{s:Str}{p:TL→PR α}(h1:s≠[59]) (hp:LookN n p):LookN n (fun l=>match isT s l with|true=>p l.tail|false =>.error l) where
 le l e l' hl h:=by
  have ht:=Cf l
  cases hi:isT s l with
  |true=>simp only [hi] at h;have:=hp.le _ e l' (by omega) h;omega
  |false=>simp only [hi] at h;cases h
 ler l q hl h:=by
  have ht:=Cf l
  cases hi:isT s l with
  |true=>simp only [hi] at h;have:=hp.ler _ q (by omega) h;omega
  |false=>simp only [hi] at h;cases h;exact Zn1 _
 ok l m e l' hl h hc:=by
  have ht:=Cf l
  cases hi:isT s l with
  |true =>
   simp only [hi] at h
   have hn:=Adj hi
   simp only [Ev hn,hi,Gf hn]
   exact hp.ok _ m e l' (by omega) h hc
  |false=>simp only [hi] at h;cases h
 er l m q hl h hc:=by
  have ht:=Cf l
  cases hi:isT s l with
  |true =>
   simp only [hi] at h
   have hn:=Adj hi
   simp only [Ev hn,hi,Gf hn]
   exact hp.er _ m q (by omega) h hc
  |false =>
   simp only [hi] at h
   cases h
   by_cases hn:l=[]
   ·subst hn
    have hq:Ai9 m:=hc.resolve_left (fun q=>q rfl)
    simp only [Zf2,Ayd hq h1]
   ·simp only [Ev hn,hi]
theorem LookN.must:∀(ss:List Str),(∀s,s∈ss→s≠[59])→LookN n (Co ss)
 |[],_=>LookN.pure ()
 |s::ss,h=>LookN.req (h s Zr1) (LookN.must ss fun x hx=>h x (Zu1 _ hx))
theorem LookN.one{k:Int}{f:Tok→α}(hk:k≠6) {p:TL→PR α}(h0:p [] = .error []) (h1:∀t r,p (t::r)=match decide (t.kind=k) with|true =>.ok (f t,r)|false =>.error (t::r)):LookN n p where
 le l e l' _ h:=by
  cases l with
  |nil=>rw [h0] at h;cases h
  |cons t r =>
   rw [h1] at h
   cases hd:decide (t.kind=k) with
   |true=>rw [hd] at h;cases h;simp
   |false=>rw [hd] at h;cases h
 ler l q _ h:=by
  cases l with
  |nil=>rw [h0] at h;cases h;simp
  |cons t r =>
   rw [h1] at h
   cases hd:decide (t.kind=k) with
   |true=>rw [hd] at h;cases h
   |false=>rw [hd] at h;cases h;simp
 ok l m e l' _ h _:=by
  cases l with
  |nil=>rw [h0] at h;cases h
  |cons t r =>
   rw [h1] at h
   rw [Zb2,h1]
   cases hd:decide (t.kind=k) with
   |true=>rw [hd] at h;cases h;rfl
   |false=>rw [hd] at h;cases h
 er l m q _ h hc:=by
  cases l with
  |nil =>
   rw [h0] at h
   cases h
   have hq:Ai9 m:=hc.resolve_left (fun q=>q rfl)
   cases m with
   |nil=>exact hq.elim
   |cons t r =>
    rw [Zf2,h1,Zd1 (fun e=>hk (by rw [←e,hq.1]))]
  |cons t r =>
   rw [h1] at h
   rw [Zb2,h1]
   cases hd:decide (t.kind=k) with
   |true=>rw [hd] at h;cases h
   |false=>rw [hd] at h;cases h;rfl
theorem Aa8{part:TL→PR α}(hp:LookN n part):∀(k:Nat) (acc:List α) (l:TL),l.length<n→l.length<k →
  match Dx part k acc l with
  |.ok (e,l')=>l'.length≤l.length∧∀k' m,(l'≠[]∨Q8 m)→(l++m).length<k'→Dx part k' acc (l++m) = .ok (e,l'++m)
  |.error q=>q.length≤l.length∧∀k' m,(q≠[]∨Ai9 m)→(l++m).length<k'→Dx part k' acc (l++m) = .error (q++m)
 |0,_,_,_,h=>absurd h (Zm1 _)
 |k+1,acc,l,hn,hk=>by
  have ht:=Cf l
  simp only [Dx]
  cases hi:isT [44] l with
  |false =>
   refine⟨Zn1 _,fun k' m hc hk' =>?_⟩
   cases k' with
   |zero=>exact absurd hk' (Zm1 _)
   |succ k' =>
    have:isT [44] (l++m)=false:=by
     by_cases h0:l=[]
     ·subst h0
      exact Ahl (hc.resolve_left (fun q=>q rfl)) (by decide) (by decide)
     ·rw [Ev h0,hi]
    simp only [Dx,this]
  |true =>
   have h0:=Adj hi
   have hlt:=O7 hi
   cases hq:part l.tail with
   |error q =>
    simp only
    have h1:=hp.ler l.tail q (by omega) hq
    refine⟨by omega,fun k' m hc hk' =>?_⟩
    cases k' with
    |zero=>exact absurd hk' (Zm1 _)
    |succ k'=>simp only [Dx,Ev h0,hi,Gf h0,hp.er l.tail m q (by omega) hq hc]
   |ok x =>
    obtain⟨x,l1⟩:=x
    have h1:=hp.le l.tail x l1 (by omega) hq
    have ih:=Aa8 hp k (acc++[x]) l1 (by omega) (by omega)
    simp only
    cases hr:Dx part k (acc++[x]) l1 with
    |error q =>
     rw [hr] at ih
     simp only at ih ⊢
     refine⟨by omega,fun k' m hc hk' =>?_⟩
     cases k' with
     |zero=>exact absurd hk' (Zm1 _)
     |succ k' =>
      simp only [Dx,Ev h0,hi,Gf h0,hp.ok l.tail m x l1 (by omega) hq (Bft (Al4 ih.1 hc))]
      refine ih.2 k' m hc ?_
      simp only [Zh1] at hk' ⊢
      omega
    |ok y =>
     obtain⟨e,l'⟩:=y
     rw [hr] at ih
     simp only at ih ⊢
     refine⟨by omega,fun k' m hc hk' =>?_⟩
     cases k' with
     |zero=>exact absurd hk' (Zm1 _)
     |succ k' =>
      simp only [Dx,Ev h0,hi,Gf h0,hp.ok l.tail m x l1 (by omega) hq (Al4 ih.1 hc)]
      refine ih.2 k' m hc ?_
      simp only [Zh1] at hk' ⊢
      omega
theorem LookN.go{part:TL→PR α}(hp:LookN n part) (acc:List α):LookN n (fun l=>Dx part (l.length+1) acc l) where
 le l e l' hl h:=by
  have:=Aa8 hp (l.length+1) acc l hl (by omega)
  have h:Dx part (l.length+1) acc l=_:=h
  rw [h] at this
  exact this.1
 ler l q hl h:=by
  have:=Aa8 hp (l.length+1) acc l hl (by omega)
  have h:Dx part (l.length+1) acc l=_:=h
  rw [h] at this
  exact this.1
 ok l m e l' hl h hc:=by
  have:=Aa8 hp (l.length+1) acc l hl (by omega)
  have h:Dx part (l.length+1) acc l=_:=h
  rw [h] at this
  exact this.2 _ m hc (by omega)
 er l m q hl h hc:=by
  have:=Aa8 hp (l.length+1) acc l hl (by omega)
  have h:Dx part (l.length+1) acc l=_:=h
  rw [h] at this
  exact this.2 _ m hc (by omega)
theorem LookN.list{part:TL→PR α}(hp:LookN n part):LookN n (Ahy part):=by
 have e:Ahy part=bP part fun x l=>Dx part (l.length+1) [x] l:=rfl
 rw [e]
 exact LookN.bind hp fun x=>LookN.go hp [x]
end Go.Proofs.YthndhaolemgbdaaGreatDoor
namespace Go.Proofs.YthndhaolemgbdaaGreatDoor
open Go.Ax
variable {α β:Type}{n:Nat}
theorem Abu{l:TL}(h:l≠[]) (sg:List (Str×Int)) (m:TL):sg.find? (fun p=>isT p.1 (l++m))=sg.find? (fun p=>isT p.1 l):=by
 simp only [Ev h]
theorem Au0{m:TL}(h:Q8 m) {sg:List (Str×Int)}(hs:∀p,p∈sg→p.1≠[59]∧p.1≠[41]):sg.find? (fun p=>isT p.1 m)=none :=
 List.find?_eq_none.2 fun p hp=>by simp [Ahl h (hs p hp).1 (hs p hp).2]
theorem Abr{part:TL→PR Xpr}(hp:LookN n part) {sg:List (Str×Int)}(hs:∀p,p∈sg→p.1≠[59]∧p.1≠[41]):∀(k:Nat) (e:Xpr) (l:TL),l.length<n→l.length<k →
  match B8 part sg k e l with
  |.ok (e',l')=>l'.length≤l.length∧∀k' m,(l'≠[]∨Q8 m)→(l++m).length<k'→B8 part sg k' e (l++m) = .ok (e',l'++m)
  |.error q=>q.length≤l.length∧∀k' m,(q≠[]∨Ai9 m)→(l++m).length<k'→B8 part sg k' e (l++m) = .error (q++m)
 |0,_,_,_,h=>absurd h (Zm1 _)
 |k+1,e,l,hn,hk=>by
  have ht:=Cf l
  simp only [B8]
  cases hi:sg.find? (fun p=>isT p.1 l) with
  |none =>
   refine⟨Zn1 _,fun k' m hc hk' =>?_⟩
   cases k' with
   |zero=>exact absurd hk' (Zm1 _)
   |succ k' =>
    have:sg.find? (fun p=>isT p.1 (l++m))=none:=by
     by_cases h0:l=[]
     ·subst h0
      exact Au0 (hc.resolve_left (fun q=>q rfl)) hs
     ·rw [Abu h0,hi]
    simp only [B8,this]
  |some p =>
   have h0:=Adj (Ayr hi)
   have hlt:=O7 (Ayr hi)
   cases hq:part l.tail with
   |error q =>
    simp only
    have h1:=hp.ler l.tail q (by omega) hq
    refine⟨by omega,fun k' m hc hk' =>?_⟩
    cases k' with
    |zero=>exact absurd hk' (Zm1 _)
    |succ k'=>simp only [B8,Abu h0,hi,Gf h0,hp.er l.tail m q (by omega) hq hc]
   |ok x =>
    obtain⟨x,l1⟩:=x
    have h1:=hp.le l.tail x l1 (by omega) hq
    have ih:=Abr hp hs k (mkX p.2 [e,x]) l1 (by omega) (by omega)
    simp only
    cases hr:B8 part sg k (mkX p.2 [e,x]) l1 with
    |error q =>
     rw [hr] at ih
     simp only at ih ⊢
     refine⟨by omega,fun k' m hc hk' =>?_⟩
     cases k' with
     |zero=>exact absurd hk' (Zm1 _)
     |succ k' =>
      simp only [B8,Abu h0,hi,Gf h0,hp.ok l.tail m x l1 (by omega) hq (Bft (Al4 ih.1 hc))]
      refine ih.2 k' m hc ?_
      simp only [Zh1] at hk' ⊢
      omega
    |ok y =>
     obtain⟨e,l'⟩:=y
     rw [hr] at ih
     simp only at ih ⊢
     refine⟨by omega,fun k' m hc hk' =>?_⟩
     cases k' with
     |zero=>exact absurd hk' (Zm1 _)
     |succ k' =>
      simp only [B8,Abu h0,hi,Gf h0,hp.ok l.tail m x l1 (by omega) hq (Al4 ih.1 hc)]
      refine ih.2 k' m hc ?_
      simp only [Zh1] at hk' ⊢
      omega
theorem LookN.left{part:TL→PR Xpr}(hp:LookN n part) {sg:List (Str×Int)}(hs:∀p,p∈sg→p.1≠[59]∧p.1≠[41]):LookN n (Cw part sg):=by
 have e:Cw part sg=bP part fun x l=>B8 part sg (l.length+1) x l:=by
  funext l
  simp only [Cw,bP]
  cases part l<;>rfl
 rw [e]
 refine LookN.bind hp fun x=>⟨fun l e l' hl h =>?_,fun l q hl h =>?_,fun l m e l' hl h hc =>?_,fun l m q hl h hc =>?_⟩
 ·have:=Abr hp hs (l.length+1) x l hl (by omega)
  have h:B8 part sg (l.length+1) x l=_:=h
  rw [h] at this
  exact this.1
 ·have:=Abr hp hs (l.length+1) x l hl (by omega)
  have h:B8 part sg (l.length+1) x l=_:=h
  rw [h] at this
  exact this.1
 ·have:=Abr hp hs (l.length+1) x l hl (by omega)
  have h:B8 part sg (l.length+1) x l=_:=h
  rw [h] at this
  exact this.2 _ m hc (by omega)
 ·have:=Abr hp hs (l.length+1) x l hl (by omega)
  have h:B8 part sg (l.length+1) x l=_:=h
  rw [h] at this
  exact this.2 _ m hc (by omega)
theorem LookN.mono{m:Nat}(h:m≤n) {p:TL→PR α}(hp:LookN n p):LookN m p :=
 ⟨fun l e l' hl=>hp.le l e l' (by omega),fun l q hl=>hp.ler l q (by omega),fun l m e l' hl=>hp.ok l m e l' (by omega),fun l m q hl=>hp.er l m q (by omega)⟩
def brP(rec:TL→PR Xpr):TL→PR Xpr:=bP rec fun e l=>match isT [41] l with|true=>T8 e l.tail|false =>.error l
theorem A56(rec:TL→PR Xpr) (t:Tok) (r:TL):B1 rec (t::r) =
  if t.kind=2 then .ok (.mk 2 ⟨0,0,[]⟩ t.s [],r)
  else if t.kind=3 then .ok (Tv 3 t.n [],r)
  else if t.kind=4 then .ok (Tv 4 0 t.s,r)
  else if t.kind=5 then .ok (Tv 5 0 t.s,r)
  else if t.kind=1∧t.s=Ab6 then .ok (Tv 2 1 [],r)
  else if t.kind=1∧t.s=Sq then .ok (Tv 2 0 [],r)
  else if t.kind=1∧t.s=E3 then .ok (Tv 1 0 [],r)
  else match isT [40] (t::r) with
   |true=>brP rec r
   |false =>.error (t::r):=by
 simp only [B1]
 repeat (split; · rfl)
 cases h:isT [40] (t::r) with
 |false=>rfl
 |true =>
  simp only [brP,bP,if_true]
  cases rec r with
  |error q=>rfl
  |ok x =>
   obtain⟨e,l'⟩:=x
   simp only
   cases isT [41] l'<;>rfl
def A18(t:Tok):Option Xpr :=
 if t.kind=2 then some (.mk 2 ⟨0,0,[]⟩ t.s [])
 else if t.kind=3 then some (Tv 3 t.n [])
 else if t.kind=4 then some (Tv 4 0 t.s)
 else if t.kind=5 then some (Tv 5 0 t.s)
 else if t.kind=1∧t.s=Ab6 then some (Tv 2 1 [])
 else if t.kind=1∧t.s=Sq then some (Tv 2 0 [])
 else if t.kind=1∧t.s=E3 then some (Tv 1 0 [])
 else none
theorem Alr(rec:TL→PR Xpr) (t:Tok) (r:TL):B1 rec (t::r)=match A18 t with
  |some v =>.ok (v,r)
  |none=>match isT [40] (t::r) with
   |true=>brP rec r
   |false =>.error (t::r):=by
 rw [A56]
 unfold A18
 by_cases h2:t.kind=2
 ·rw [if_pos h2,if_pos h2]
 rw [if_neg h2,if_neg h2]
 by_cases h3:t.kind=3
 ·rw [if_pos h3,if_pos h3]
 rw [if_neg h3,if_neg h3]
 by_cases h4:t.kind=4
 ·rw [if_pos h4,if_pos h4]
 rw [if_neg h4,if_neg h4]
 by_cases h5:t.kind=5
 ·rw [if_pos h5,if_pos h5]
 rw [if_neg h5,if_neg h5]
 by_cases h6:t.kind=1∧t.s=Ab6
 ·rw [if_pos h6,if_pos h6]
 rw [if_neg h6,if_neg h6]
 by_cases h7:t.kind=1∧t.s=Sq
 ·rw [if_pos h7,if_pos h7]
 rw [if_neg h7,if_neg h7]
 by_cases h8:t.kind=1∧t.s=E3
 ·rw [if_pos h8,if_pos h8]
 rw [if_neg h8,if_neg h8]
end Go.Proofs.YthndhaolemgbdaaGreatDoor
