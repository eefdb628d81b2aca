/- Texts of the proof,one behind the other: AxS,AxT,AxU,AxQf,AxQg,AxQh,AxV,AxW,AxX,AxY,AxZ,AxBd,AxLn,AxLo. -/
import Derived.Test.YtbkinkalnmbpjaaGreatDoorR2
set_option linter.all false
namespace Go.Ax
open Go.RowKit
def Yz:Sg->D->Option Nat
 |.sl _ true,.sl _ _ (.id t)=>some t
 |_,_=>none
def asg(i:Nat):List Sg->List D->Nat->Option Nat
 |s::l,d::ds=>λp=>if p=i then Yz s d else asg (i+1) l ds p
 |_,_=>λ_=>none
theorem Asy{a:Sg}{l:List Sg}{al:List Nat}{ds:List D}{x:HV (a::l)}(h:Qx (a::l) al ds=some x):∃d ds' y al',ds=d::ds'/\A9b al a d=some (y,al')/\((l=[]/\ds' = [])\/∃z,Qx l al' ds' = some z)/\∀i,Cc i (a::l) x=Co i a y::(match l with|[]=>[]|b::l'=>match Qx (b::l') al' ds' with|some z=>Cc (i+1) (b::l') z|none=>[]):=by
 cases l with
 |nil =>
  cases ds with
  |nil=>simp[Qx] at h
  |cons d ds =>
   cases ds with
   |nil =>
    simp only[Qx] at h;split at h
    ·rename_i y al' hy;simp only[Za1] at h;subst h;exact⟨d,[],y,al',rfl,hy,.inl ⟨rfl,rfl⟩,λi=>rfl⟩
    ·cases h
   |cons e ds=>simp[Qx] at h
 |cons b l =>
  cases ds with
  |nil=>simp[Qx] at h
  |cons d ds =>
   simp only[Qx] at h;split at h
   ·rename_i y al' hy;split at h
    ·rename_i z hz;simp only[Za1] at h;subst h;exact⟨d,ds,y,al',rfl,hy,.inr ⟨z,hz⟩,λi=>by simp only[Cc,hz]⟩
    ·cases h
   ·cases h
theorem A3m{al al':List Nat}{s:Sg}{d:D}{y:den s}(h:A9b al s d=some (y,al')):(∀t,t∈al'->t∈al)/\(∀t,Yz s d=some t->t∈al/\t∉al'):=by
 unfold A9b at h;split at h
 ·split at h
  ·simp only[Za1,Zp1] at h;obtain⟨_,rfl⟩:=h;refine⟨λ_ h=>h,λt ha=>by simp[Yz] at ha⟩
  ·cases h
 ·simp only[Za1,Zp1] at h;obtain⟨_,rfl⟩:=h;refine⟨λ_ h=>h,λt ha=>by simp[Yz] at ha⟩
 ·simp only[Za1,Zp1] at h;obtain⟨_,rfl⟩:=h;refine⟨λ_ h=>h,λt ha=>by simp[Yz] at ha⟩
 ·split at h
  ·split at h
   ·split at h
    ·rename_i al2 htk;simp only[Za1,Zp1] at h;obtain⟨_,rfl⟩:=h;unfold Ht at htk;split at htk
     ·cases htk
     ·simp only[Za1] at htk;subst htk;refine⟨λ_ h=>h,λt ha=>by simp[Yz] at ha⟩
     ·split at htk
      ·rename_i t0 hc;simp only[Za1] at htk;subst htk;refine⟨λt ht=>(List.mem_filter.1 ht).1,λt ha =>?_⟩;simp only[Yz,Za1] at ha;subst ha;refine⟨by simpa using hc,λhm =>?_⟩;simp at hm
      ·cases htk
     ·cases htk
    ·cases h
   ·simp only[Za1,Zp1] at h;obtain⟨_,rfl⟩:=h;refine⟨λ_ h=>h,λt ha=>by simp[Yz] at ha⟩
  ·cases h
 ·split at h
  ·simp only[Za1,Zp1] at h;obtain⟨_,rfl⟩:=h;refine⟨λ_ h=>h,λt ha=>by simp[Yz] at ha⟩
  ·cases h
 ·split at h
  ·split at h
   ·simp only[Za1,Zp1] at h;obtain⟨_,rfl⟩:=h;refine⟨λ_ h=>h,λt ha=>by simp[Yz] at ha⟩
   ·cases h
  ·cases h
 ·split at h
  ·simp only[Za1,Zp1] at h;obtain⟨_,rfl⟩:=h;refine⟨λ_ h=>h,λt ha=>by simp[Yz] at ha⟩
  ·cases h
 ·cases h
theorem Ns(s:Sg)(d:D)(l:List Sg)(ds:List D)(i p:Nat)(h:p≠i):asg i (s::l) (d::ds) p=asg (i+1) l ds p:=by simp[asg,h]
theorem Ach(s:Sg)(d:D)(l:List Sg)(ds:List D)(i:Nat):asg i (s::l) (d::ds) i=Yz s d:=by simp[asg]
theorem Aci:∀{l:List Sg}{al:List Nat}{ds:List D}{x:HV l}(i:Nat),Qx l al ds=some x->(∀p t,asg i l ds p=some t->t∈al/\i<=p)/\∀p q t,asg i l ds p=some t->asg i l ds q=some t->p=q
 |[],al,ds,x,i,_=>by simp[asg]
 |a::l,al,ds,x,i,h=>by
  obtain⟨d,ds',y,al',rfl,h1,h2,_⟩:=Asy h;obtain⟨s1,s2⟩:=A3m h1;have ih:(∀p t,asg (i+1) l ds' p=some t->t∈al'/\i+1<=p)/\∀p q t,asg (i+1) l ds' p=some t->asg (i+1) l ds' q=some t->p=q:=by
   rcases h2 with ⟨rfl,rfl⟩|⟨z,hz⟩
   ·simp[asg]
   ·exact Aci (i+1) hz
  refine⟨λp t hp =>?_,λp q t hp hq =>?_⟩
  ·by_cases hpi:p=i
   ·subst hpi;rw[Ach] at hp;exact⟨(s2 t hp).1,Zn1 _⟩
   ·rw[Ns _ _ _ _ _ _ hpi] at hp;have:=ih.1 p t hp;exact⟨s1 t this.1,by omega⟩
  ·by_cases hpi:p=i<;>by_cases hqi:q=i
   ·rw[hpi,hqi]
   ·exfalso;subst hpi;rw[Ns _ _ _ _ _ _ hqi] at hq;rw[Ach] at hp;exact(s2 t hp).2 (ih.1 q t hq).1
   ·exfalso;subst hqi;rw[Ns _ _ _ _ _ _ hpi] at hp;rw[Ach] at hq;exact(s2 t hq).2 (ih.1 p t hp).1
   ·rw[Ns _ _ _ _ _ _ hpi] at hp;rw[Ns _ _ _ _ _ _ hqi] at hq;exact ih.2 p q t hp hq
theorem Bl6{X X':Vx}(hS:∀b i,X'.S b i->X.S b i)(hw:X'.w=X.w)(hel:X'.el=X.el){al al':List Nat}{s:Sg}{d:D}{y:den s}{v:Value}(i:Nat)(h:A9b al s d=some (y,al'))(hal:∀t,t∈al->X.al t)(hr:Rep X d v)(hown:∀c,s = .sl c true->i<X'.nt/\X'.m.tk i=(Yz s d).bind X.m.tk):Rep X' (Co i s y) v:=by
 have hrf:∀{d:D}{v:Value},RF X.S X.w d v->RF X'.S X'.w d v:=λh=>by rw[hw];exact h.later (Chg.refl _ _) (λk j hk =>.inl (hS k j hk))
 unfold A9b at h;split at h
 ·split at h
  ·rename_i hk;simp only[Zg1] at hk;subst hk;simp only[Za1,Zp1] at h;obtain⟨rfl,_⟩:=h;simpa[Co,Rep] using hr
  ·cases h
 ·simp only[Za1,Zp1] at h;obtain⟨rfl,_⟩:=h;simpa[Co,Rep] using hr
 ·simp only[Za1,Zp1] at h;obtain⟨rfl,_⟩:=h;simpa[Co,Rep] using hr
 ·rename_i c own c' xs t;split at h
  ·rename_i hc;subst hc;simp only[Rep] at hr;split at h
   ·split at h
    ·rename_i al2 htk;simp only[Za1,Zp1] at h;obtain⟨rfl,_⟩:=h;obtain⟨h1,h2⟩:=hown c' rfl;simp only[Co,Rep];refine⟨hrf hr.1,h1,λ_ =>?_⟩;cases t with
     |no=>simp[Ht] at htk
     |z=>simp[Ht] at htk
     |nil =>refine .inl ⟨hr.2.1,?_,hr.2.2⟩;rw[h2];simp[Yz]
     |id t0 =>
      have hin:t0∈al:=by
       unfold Ht at htk;simp only at htk;split at htk
       ·rename_i hc;simpa using hc
       ·cases htk
      simp only[Yz,Zc1] at h2;rcases hr.2.2 (hal t0 hin) with ⟨a1,a2,a3⟩|⟨g,cap,cur,a1,a2,a3,a4⟩
      ·exact .inl ⟨a1,h2.trans a2,a3⟩
      ·exact .inr ⟨g,cap,cur,a1,h2.trans a2,by rw[hw,hel];exact a3,a4⟩
    ·cases h
   ·simp only[Za1,Zp1] at h;obtain⟨rfl,_⟩:=h;simp only[Co,Rep];exact⟨hrf hr.1,trivial⟩
  ·cases h
 ·rename_i c d;split at h
  ·rename_i y' ha hy';simp only[Za1,Zp1] at h;obtain⟨rfl,_⟩:=h;obtain⟨hel',hagg,_⟩:=Ps hy' hr;obtain⟨vs,rfl⟩:=hagg ha;simp only[Co,Rep];refine⟨ha,vs.toList,by simp,by simpa[Value.cells] using hel'.1,λj e he =>?_⟩;obtain⟨u,hu,hf⟩:=hel'.2 j e he;exact⟨u,by simpa[Value.cells] using hu,hrf hf⟩
  ·cases h
 ·split at h
  ·rename_i c n c' n' xs hc;subst hc;split at h
   ·rename_i hn;have hn:=Zl1 hn;subst hn;simp only[Za1,Zp1] at h;obtain⟨rfl,_⟩:=h;simp only[Co,Rep] at hr ⊢;obtain⟨h1,vs,h2,h3,h4⟩:=hr;exact⟨h1,vs,h2,h3,λq y j e hy he=>by obtain⟨u,hu,hf⟩:=h4 q y j e hy he;exact⟨u,hu,hrf hf⟩⟩
   ·cases h
  ·cases h
 ·split at h
  ·rename_i c c' xs hc;subst hc;simp only[Za1,Zp1] at h;obtain⟨rfl,_⟩:=h;simp only[Co,Rep] at hr ⊢;obtain⟨h1,vs,h2,h3,h4⟩:=hr;exact⟨h1,vs,h2,h3,λq y j e hy he=>by obtain⟨u,hu,hf⟩:=h4 q y j e hy he;exact⟨u,hu,hrf hf⟩⟩
  ·cases h
 ·cases h
theorem Il{X X':Vx}(hS:∀b i,X'.S b i->X.S b i)(hw:X'.w=X.w)(hel:X'.el=X.el):∀{l:List Sg}{al:List Nat}{ds:List D}{x:HV l}{vs:List Value}(i:Nat),Qx l al ds=some x->(∀t,t∈al->X.al t)->Reps X ds vs->(∀p,p∈Bq i l->p<X'.nt/\X'.m.tk p=(asg i l ds p).bind X.m.tk)->Reps X' (Cc i l x) vs
 |[],al,ds,x,vs,i,h,_,hr,_=>by cases ds with|nil=>simpa[Reps,Cc] using hr|cons d ds=>simp[Qx] at h
 |a::l,al,ds,x,vs,i,h,hal,hr,hown=>by
  obtain⟨d,ds',y,al',rfl,h1,h2,h3⟩:=Asy h;simp only[Reps] at hr;obtain⟨u,us,rfl,hr1,hr2⟩:=hr;rw[h3 i];have hsub:=(A3m h1).1;simp only[Reps];refine⟨u,us,rfl,Bl6 hS hw hel i h1 hal hr1 (λc hc =>?_),?_⟩
  ·subst hc;have:=hown i (by simp[Bq]);rwa[Ach] at this
  ·rcases h2 with ⟨rfl,rfl⟩|⟨z,hz⟩
   ·simpa[Reps] using hr2
   ·cases l with
    |nil =>cases ds' with|nil=>simpa[Reps] using hr2|cons e es=>simp[Qx] at hz
    |cons b l' =>
     simp only[hz];refine Il hS hw hel (i+1) hz (λt ht=>hal t (hsub t ht)) hr2 (λp hp =>?_);have hlow:∀(l:List Sg) (i p:Nat),p∈Bq i l->i<=p:=by
      intro l;induction l with
      |nil=>intro i p hp;simp[Bq] at hp
      |cons s l ih =>
       intro i p hp;cases s<;>first|(have:=ih (i+1) p (by simpa[Bq] using hp);omega)|skip
       rename_i c own;cases own with
       |true =>
        simp only[Bq,List.mem_cons] at hp;rcases hp with rfl|hp
        ·exact Zn1 _
        ·have:=ih (i+1) p hp;omega
       |false=>have:=ih (i+1) p (by simpa[Bq] using hp);omega
     have hpi:=hlow _ _ _ hp;have hmem:p∈Bq i (a::b::l'):=by
      cases a<;>first|exact hp|skip
      rename_i c own;cases own with|true=>exact Zu1 _ hp|false=>exact hp
     have:=hown p hmem;rwa[Ns _ _ _ _ _ _ (by omega)] at this
def L0:Sg->Bool
 |.sv _|.rw _ _|.dn _=>false
 |_=>true
def Ak0(nb:Nat):D->Bool
 |.ptr b _=>Nat.blt b nb
 |.fn _ cs=>cs.all λd=>match d with|.ptr b _=>Nat.blt b nb|_=>false
 |.bm _ cs=>cs.all λd=>match d with|.ptr b _=>Nat.blt b nb|_=>false
 |.gp _=>true
 |.nilp=>true
 |_=>false
def Bq9(nb:Nat):D->Bool
 |.agg _=>true
 |d=>Ak0 nb d
def bsB(nb:Nat):Bs->Bool
 |.cells l=>l.all L0
 |.one s => !L0 s
 |.bld _=>true
 |.fx ds=>ds.all (Ak0 nb)
 |.oc l b _=>l.all L0&&Nat.blt b nb
def Y8(s:Sig):Bool:=(s.fix.all λp=>Bq9 s.nb p.2)&&(s.bl.all λp=>Nat.blt p.1 s.nb&&bsB s.nb p.2)&&Nat.ble s.lb s.nb&&s.ow.all λp=>Nat.blt p.2.1 s.nb
def Sh1(s:Sg)(d:D):Prop:=(L0 s=true->lf d=true)/\(L0 s=false->(∃c y,d = .sv c y)\/(∃c n xs,d = .rw c n xs)\/∃c xs,d = .dn c xs)/\(s = .sl .byte true->∃l t,d = .sl .byte l t)
def ShL:List Sg->List D->Prop
 |[],ds=>ds=[]
 |s::l,ds=>∃d r,ds=d::r/\Sh1 s d/\ShL l r
theorem A9w(i:Nat):∀(s:Sg) (y:den s),Sh1 s (Co i s y)
 |.int _,_=>⟨λ_=>rfl,λh=>(by cases h),λh=>(by cases h)⟩
 |.bool,_=>⟨λ_=>rfl,λh=>(by cases h),λh=>(by cases h)⟩
 |.str,_=>⟨λ_=>rfl,λh=>(by cases h),λh=>(by cases h)⟩
 |.sl _ true,l=>⟨λ_=>rfl,λh=>(by cases h),λh=>(by cases h;exact⟨l,_,rfl⟩)⟩
 |.sl _ false,_=>⟨λ_=>rfl,λh=>(by cases h),λh=>(by cases h)⟩
 |.sv c,y=>⟨λh=>(by cases h),λ_ =>.inl ⟨c,y,rfl⟩,λh=>(by cases h)⟩
 |.rw c n,xs=>⟨λh=>(by cases h),λ_ =>.inr (.inl ⟨c,n,xs,rfl⟩),λh=>(by cases h)⟩
 |.dn c,xs=>⟨λh=>(by cases h),λ_ =>.inr (.inr ⟨c,xs,rfl⟩),λh=>(by cases h)⟩
theorem Ah8:∀(i:Nat) (l:List Sg) (x:HV l),ShL l (Cc i l x)
 |_,[],_=>rfl
 |i,[a],x=>⟨_,[],rfl,A9w i a x,rfl⟩
 |i,a::b::l,(x,y)=>⟨_,_,rfl,A9w i a x,Ah8 (i+1) (b::l) y⟩
theorem ShL.len:∀{l:List Sg}{ds:List D},ShL l ds->ds.length=l.length
 |[],ds,h=>by simp only[ShL] at h;subst h;rfl
 |s::l,ds,h=>by obtain⟨d,r,rfl,_,h2⟩:=h;simp[ShL.len h2]
theorem ShL.split:∀{l m:List Sg}{ds:List D},ShL (l++m) ds->ShL l (ds.take l.length)/\ShL m (ds.drop l.length)
 |[],m,ds,h=>by simpa[ShL] using h
 |s::l,m,ds,h=>by obtain⟨d,r,rfl,h1,h2⟩:=h;obtain⟨h3,h4⟩:=ShL.split h2;exact⟨⟨d,_,by simp,h1,h3⟩,by simpa using h4⟩
theorem ShL.lf:∀{l:List Sg}{ds:List D},ShL l ds->l.all L0=true->ds.all lf=true
 |[],ds,h,_=>by simp only[ShL] at h;subst h;rfl
 |s::l,ds,h,hl=>by obtain⟨d,r,rfl,h1,h2⟩:=h;simp only[Zv1,Zb1] at hl ⊢;exact⟨h1.1 hl.1,h2.lf hl.2⟩
theorem Reps.split{x:Vx}:∀{A B:List D}{vs:List Value},Reps x (A++B) vs->∃us ws,vs=us++ws/\Reps x A us/\Reps x B ws
 |[],B,vs,h=>⟨[],vs,rfl,by simp[Reps],h⟩
 |d::A,B,vs,h=>by simp only[Zb2,Reps] at h;obtain⟨u,us,rfl,h1,h2⟩:=h;obtain⟨p,q,rfl,h3,h4⟩:=Reps.split h2;exact⟨u::p,q,rfl,by simp only[Reps];exact⟨u,p,rfl,h1,h3⟩,h4⟩
theorem Reps.take{x:Vx}{ds:List D}{us ws:List Value}(h:Reps x ds (us++ws)):Reps x (ds.take us.length) us/\Reps x (ds.drop us.length) ws:=by
 have hl:=h.len;simp only[Zh1] at hl;rw[<-List.take_append_drop us.length ds] at h;obtain⟨p,q,he,h1,h2⟩:=Reps.split h;have hp:p.length=us.length:=by rw[h1.len];simp;omega
 obtain⟨rfl,rfl⟩:=List.append_inj he hp.symm;exact⟨h1,h2⟩
theorem Lb{x:Vx}{n:Nat}{env:Env}{a:Act}(he:EnvR x n (get env) a):∀{vars:List (Nat×Sg)}{A:List D},Ju env vars=some A->∃VA:List Value,Reps x A VA/\∀(i k:Nat) (s:Sg),vars[i]? = some (k,s)->∃v,VA[i]? = some v/\a.tmps[k]? = some v
 |[],A,h=>by simp only[Ju,Za1] at h;subst h;exact⟨[],by simp[Reps],by simp⟩
 |(k0,s0)::vars,A,h=>by
  simp only[Ju] at h;split at h
  ·rename_i d ds hd hds;simp only[Za1] at h;subst h;obtain⟨VA,h1,h2⟩:=Lb he hds;obtain⟨v,hv,hr⟩:=he.get k0 d hd;refine⟨v::VA,by simp only[Reps];exact⟨v,VA,rfl,hr,h1⟩,λi k s hi =>?_⟩;cases i with|zero=>simp at hi;obtain⟨rfl,rfl⟩:=hi;exact⟨v,by simp,hv⟩|succ i=>obtain⟨u,hu,ht⟩:=h2 i k s (by simpa using hi);exact⟨u,by simpa using hu,ht⟩
  ·cases h
theorem Arv:∀(vars:List (Nat×Sg)) (E:List D),vars.length<=E.length->(Aqe vars E).2=E.drop vars.length/\∀k d,get (Aqe vars E).1 k=some d->∃(i:Nat) (s:Sg),vars[i]? = some (k,s)/\E[i]? = some d
 |[],E,_=>by cases E<;>simp[Aqe,get]
 |(k0,s0)::vars,[],h=>by simp at h
 |(k0,s0)::vars,e::E,h=>by
  obtain⟨h1,h2⟩:=Arv vars E (by simpa using h);simp only[Aqe];refine⟨by simpa using h1,λk d hk =>?_⟩;rw[Cm] at hk;by_cases hkk:k=k0
  ·subst hkk;simp at hk;subst hk;exact⟨0,s0,by simp,by simp⟩
  ·rw[if_neg hkk] at hk;obtain⟨i,s,h3,h4⟩:=h2 k d hk;exact⟨i+1,s,by simpa using h3,by simpa using h4⟩
theorem Am1(e f:Env)(k:Nat)(d:D)(h:get (e++f) k=some d):get e k=some d\/get f k=some d:=by
 induction e with
 |nil=>exact .inr h
 |cons p e ih =>
  obtain⟨q,v⟩:=p;rw[Zb2,Cm] at h;rw[Cm];by_cases hk:k=q
  ·simp only[hk,if_true] at h ⊢;exact .inl h
  ·simp only[if_neg hk] at h ⊢;exact ih h
theorem A99{env:Env}{nb:Nat}:∀{fx:List (Nat×D)}{k:Nat}{d:D},A9y env fx=true->(fx.all λp=>Bq9 nb p.2)=true->get fx k=some d->Bq9 nb d=true/\∃d',get env k=some d'/\Acg d d' = true
 |[],k,d,_,_,h=>by simp[get] at h
 |(q,v)::fx,k,d,h1,h2,h=>by
  simp only[A9y] at h1;simp only[Zv1,Zb1] at h2;rw[Cm] at h;split at h1
  ·rename_i d' hd';simp only[Zb1] at h1;by_cases hk:k=q
   ·subst hk;simp at h;subst h;exact⟨h2.1,d',hd',h1.1⟩
   ·rw[if_neg hk] at h;exact A99 h1.2 h2.2 h
  ·cases h1
def Ag8:D->List Nat
 |.ptr b _=>[b]
 |_=>[]
def Ek:D->List Nat
 |.ptr b _=>[b]
 |.fn _ cs=>cs.flatMap Ag8
 |.bm _ cs=>cs.flatMap Ag8
 |_=>[]
theorem Aan{x x':Vx}:∀{cs cs':List D}{vs:List Value},(∀b,b∈cs.flatMap Ag8->x'.m.bl b=x.m.bl b/\b<x'.nb)->M6 cs cs' = true->Reps x cs' vs->Reps x' cs vs:=by
 intro cs;induction cs with
 |nil =>intro cs' vs _ h hr;cases cs' with|nil=>simpa[Reps] using hr|cons _ _=>simp[M6] at h
 |cons d cs ih =>
  intro cs' vs hb h hr;unfold M6 at h;split at h
  ·exact absurd (by assumption:d::cs=[]) (by simp)
  ·rename_i b o l b' o' m heq;simp only[Ze2] at heq;obtain⟨rfl,rfl⟩:=heq;simp only[Zb1] at h;obtain rfl:=Zl1 h.1.1;obtain rfl:=Zl1 h.1.2;simp only[Reps] at hr ⊢;obtain⟨u,us,rfl,h1,h2⟩:=hr;simp only[Rep] at h1;obtain⟨g1,g2⟩:=hb b (by simp[Ag8]);exact⟨u,us,rfl,by simp only[Rep];exact⟨g2,by rw[g1];exact h1.2⟩,ih (λc hc=>hb c (by rw[List.flatMap_cons,List.mem_append];exact .inr hc)) h.2 h2⟩
  ·cases h
theorem Arq{nb:Nat}{d:D}(h:Ak0 nb d=true):∀b,b∈Ek d->b<nb:=by
 intro b hb;cases d with
 |ptr k o =>simp only[Ek,List.mem_singleton] at hb;subst hb;simpa[Ak0,Nat.blt_eq] using h
 |fn f cs =>simp only[Ek,List.mem_flatMap] at hb;obtain⟨c,hc,hbc⟩:=hb;simp only[Ak0] at h;have h1:=Zg2.1 h c hc;cases c with|ptr k o =>simp only[Ag8,List.mem_singleton] at hbc;subst hbc;simpa[Nat.blt_eq] using h1|_=>simp[Ag8] at hbc
 |bm f cs =>simp only[Ek,List.mem_flatMap] at hb;obtain⟨c,hc,hbc⟩:=hb;simp only[Ak0] at h;have h1:=Zg2.1 h c hc;cases c with|ptr k o =>simp only[Ag8,List.mem_singleton] at hbc;subst hbc;simpa[Nat.blt_eq] using h1|_=>simp[Ag8] at hbc
 |_=>simp[Ek] at hb
theorem Bhz{nb:Nat}{d:D}(h:Bq9 nb d=true):∀b,b∈Ek d->b<nb:=by cases d with|agg l=>intro b hb;simp[Ek] at hb|_=>exact Arq h
theorem Af0{x x':Vx}:∀{ds ds':List D}{vs:List Value},Ue ds ds' = true->Reps x ds' vs->Reps x' ds vs/\ds.all lf=true
 |[],[],vs,_,hr=>⟨by simpa[Reps] using hr,rfl⟩
 |d::ds,d'::ds',vs,h,hr=>by
  unfold Ue at h;split at h
  ·rename_i h1 h2;cases h1
  ·rename_i a l b m h1 h2;cases h1;cases h2;simp only[Zb1,Zg1] at h;obtain⟨rfl,h⟩:=h;simp only[Reps] at hr ⊢;obtain⟨u,us,rfl,h3,h4⟩:=hr;obtain⟨h5,h6⟩:=Af0 (x':=x') h h4;exact⟨⟨u,us,rfl,by simpa only[Rep] using h3,h5⟩,by simpa[lf] using h6⟩
  ·cases h
 |[],_::_,_,h,_=>by simp[Ue] at h
 |_::_,[],_,h,_=>by simp[Ue] at h
theorem Bsn{nb:Nat}{d:D}(h:Ak0 nb d=true):lf d=true:=by cases d<;>first|rfl|(simp[Ak0] at h)
theorem Ags{x x':Vx}{d d':D}{v:Value}(hb:∀b,b∈Ek d->x'.m.bl b=x.m.bl b/\b<x'.nb)(h:Acg d d' = true)(hr:Rep x d' v):Rep x' d v:=by
 unfold Acg at h;split at h
 ·simp only[Zb1] at h;obtain rfl:=Zl1 h.1;obtain rfl:=Zl1 h.2;simp only[Rep] at hr ⊢;obtain⟨g1,g2⟩:=hb _ (List.mem_singleton.2 rfl);exact⟨g2,by rw[g1];exact hr.2⟩
 ·simp only[Zb1] at h;obtain rfl:=Zl1 h.1;simp only[Rep] at hr ⊢;obtain⟨vs,h1,h2⟩:=hr;exact⟨vs,h1,Aan hb h.2 h2⟩
 ·simp only[Zb1] at h;obtain rfl:=Zl1 h.1;simp only[Rep] at hr ⊢;obtain⟨vs,h1,h2⟩:=hr;exact⟨vs,h1,Aan hb h.2 h2⟩
 ·obtain rfl:=Zl1 h;simp only[Rep] at hr ⊢;exact hr
 ·simp only[Rep] at hr ⊢;exact hr
 ·simp only[Rep] at hr ⊢;obtain⟨_,vs,rfl,h2⟩:=hr;obtain⟨h3,h4⟩:=Af0 (x':=x') h h2;exact⟨h4,vs,rfl,h3⟩
 ·cases h
theorem Zo{x x':Vx}:∀{ds ds':List D}{vs:List Value},(∀d,d∈ds->∀b,b∈Ek d->x'.m.bl b=x.m.bl b/\b<x'.nb)->Nk ds ds' = true->Reps x ds' vs->Reps x' ds vs
 |[],[],vs,_,_,hr=>by simpa[Reps] using hr
 |[],_::_,_,_,h,_=>by simp[Nk] at h
 |_::_,[],_,_,h,_=>by simp[Nk] at h
 |d::ds,d'::ds',vs,hb,h,hr=>by simp only[Nk,Zb1] at h;simp only[Reps] at hr ⊢;obtain⟨u,us,rfl,h1,h2⟩:=hr;exact⟨u,us,rfl,Ags (hb d Zr1) h.1 h1,Zo (λe he=>hb e (Zu1 _ he)) h.2 h2⟩
def fxs:List (Nat×Bs)->List D
 |[]=>[]
 |(_,.fx ds)::l=>ds++fxs l
 |(_,.cells _)::l=>fxs l
 |(_,.one _)::l=>fxs l
 |(_,.bld _)::l=>fxs l
 |(_,.oc _ b _)::l =>.ptr b 0::fxs l
theorem Bjs{x:Vx}{β:Nat}{k:Blk}(h:Lu x β k)(hk:∀t d,k ≠ .bld t d):∃(vs:List Value) (t:TypeId),x.w.heap[β]? = some (.cells vs.toArray t (0,0))/\Rep x (Bdt k) (.agg vs.toArray):=by cases k with|bld t d=>exact absurd rfl (hk t d)|cells ds=>obtain⟨h1,vs,t,h2,h3⟩:=h;exact⟨vs,t,h2,by simp only[Bdt,Rep];exact⟨h1,vs,rfl,h3⟩⟩|box c y=>obtain⟨h1,vs,t,h2,h3,h4⟩:=h;exact⟨vs,t,h2,by simp only[Bdt,Rep];exact⟨h1,vs,rfl,h3,h4⟩⟩|row c n xs=>obtain⟨h1,vs,t,h2,h3,h4⟩:=h;exact⟨vs,t,h2,by simp only[Bdt,Rep];exact⟨h1,vs,rfl,h3,h4⟩⟩|dyn c xs=>obtain⟨h1,vs,t,h2,h3,h4⟩:=h;exact⟨vs,t,h2,by simp only[Bdt,Rep];exact⟨h1,vs,rfl,h3,h4⟩⟩
theorem Blo{x:Vx}{β:Nat}{d:D}{vs:List Value}{t:TypeId}(hd:(∃c y,d = .sv c y)\/(∃c n xs,d = .rw c n xs)\/∃c xs,d = .dn c xs)(hh:x.w.heap[β]? = some (.cells vs.toArray t (0,0)))(hr:Rep x d (.agg vs.toArray)):Lu x β (unD d):=by
 have inj:∀us:List Value,(Value.agg vs.toArray) = .agg us.toArray->vs=us:=λus h=>by simpa using h
 rcases hd with ⟨c,y,rfl⟩|⟨c,n,xs,rfl⟩|⟨c,xs,rfl⟩
 ·simp only[Rep] at hr;obtain⟨h0,us,h1,h2,h3⟩:=hr;obtain rfl:=inj us h1;exact⟨h0,vs,t,hh,h2,h3⟩
 ·simp only[Rep] at hr;obtain⟨h0,us,h1,h2,h3⟩:=hr;obtain rfl:=inj us h1;exact⟨h0,vs,t,hh,h2,h3⟩
 ·simp only[Rep] at hr;obtain⟨h0,us,h1,h2,h3⟩:=hr;obtain rfl:=inj us h1;exact⟨h0,vs,t,hh,h2,h3⟩
theorem Akb:∀{k b:Nat}{c:Ck}{ds ds':List D},Arp k b c ds=some ds'->∃ds0 s n,ds=ds0++[.osl b c s n]/\ds' = ds0++[.int .i64 s,.int .i64 n]/\ds0.length=k
 |0,b,c,ds,ds',h=>by
  unfold Arp at h;split at h
  ·split at h
   ·rename_i hc;simp only[Zb1,Zg1] at hc;obtain⟨hc1,rfl⟩:=hc;have hc1:=Zl1 hc1;subst hc1;simp only[Za1] at h;exact⟨[],_,_,rfl,h.symm,rfl⟩
   ·cases h
  ·rename_i e;cases e
  ·cases h
 |k+1,b,c,[],ds',h=>by simp[Arp] at h
 |k+1,b,c,d::ds,ds',h=>by
  simp only[Arp] at h;split at h
  ·rename_i es hes;simp only[Za1] at h;obtain⟨ds0,s,n,rfl,rfl,hl⟩:=Akb hes;exact⟨d::ds0,s,n,rfl,h.symm,by simp[hl]⟩
  ·cases h
theorem Pt:∀(k b:Nat) (c:Ck) (E:List D),Xa k b c (E.take (k+(0+1+1)))=Xa k b c E
 |0,b,c,[]=>rfl
 |0,b,c,[d]=>rfl
 |0,b,c,d::e::E=>by cases d<;>first|rfl|(cases e<;>rfl)
 |k+1,b,c,[]=>rfl
 |k+1,b,c,d::E=>by rw[show k+1+(0+1+1)=(k+(0+1+1))+1 by omega,List.take_succ_cons];simp only[Xa,Pt k b c E]
theorem Akq{x:Vx}{d:D}{z:Int}(hl:lf d=true)(h:Rep x d (.int .i64 z)):∃k,d = .int k z:=by cases d with|int k m=>simp only[Rep,Value.int.injEq] at h;exact⟨k,by rw[h.1.2]⟩|bool b=>simp[Rep] at h|str l=>simp[Rep] at h|sl c xs t=>simp only[Rep] at h;obtain⟨a,cap,e,_⟩:=h.1.here.slice;cases e|ep c y o=>simp only[Rep] at h;obtain⟨_,_,e,_⟩:=h;cases e|ptr b o=>simp only[Rep] at h;cases h.2|nilp=>simp[Rep] at h|gp g=>simp[Rep] at h|gm l=>simp only[Rep] at h;obtain⟨_,_,_,e,_⟩:=h;cases e|osl b c s n=>simp only[Rep] at h;obtain⟨_,_,_,_,_,_,e,_⟩:=h;cases e|dp b c i=>simp only[Rep] at h;cases h.2.1|rp b c n i=>simp only[Rep] at h;cases h.2.1|fn f caps=>simp only[Rep] at h;obtain⟨_,e,_⟩:=h;cases e|bm f caps=>simp only[Rep] at h;obtain⟨_,e,_⟩:=h;cases e|nilfn=>simp[Rep] at h|sv c y=>simp[lf] at hl|dn c xs=>simp[lf] at hl|rw c n xs=>simp[lf] at hl|agg ds=>simp[lf] at hl|tup ds=>simp[lf] at hl|undef=>simp[lf] at hl|junk=>simp[lf] at hl
theorem Al5{x:Vx}{b:Nat}{c:Ck}{s n:Int}:∀{l:List Sg}{E:List D}{vs:List Value},l.length=vs.length->ShL (l++[.int .i64,.int .i64]) E->Reps x E (vs++[.int .i64 s,.int .i64 n])->∃e0,Xa l.length b c E=e0++[.osl b c s n]/\Reps x e0 vs/\ShL l e0
 |[],E,vs,hl,hsh,hr=>by have hv:vs=[]:=List.eq_nil_of_length_eq_zero hl.symm;subst hv;simp only[Zf2] at hsh hr;obtain⟨e1,E1,rfl,hs1,hsh⟩:=hsh;obtain⟨e2,E2,rfl,hs2,hsh⟩:=hsh;simp only[Reps,Ze2] at hr;obtain⟨_,_,⟨rfl,rfl⟩,hr1,_,_,⟨rfl,rfl⟩,hr2,hr3⟩:=hr;obtain⟨k1,rfl⟩:=Akq (hs1.1 rfl) hr1;obtain⟨k2,rfl⟩:=Akq (hs2.1 rfl) hr2;exact⟨[],rfl,by simp[Reps],rfl⟩
 |s0::l,E,[],hl,hsh,hr=>by simp at hl
 |s0::l,E,v::vs,hl,hsh,hr=>by obtain⟨d,E',rfl,h1,h2⟩:=hsh;simp only[Zb2,Reps,Ze2] at hr;obtain⟨_,_,⟨rfl,rfl⟩,hr1,hr2⟩:=hr;obtain⟨e0,p1,p2,p3⟩:=Al5 (b:=b) (c:=c) (by simpa using hl) h2 hr2;exact⟨d::e0,by simp only[Zf1,Xa,p1,Zb2],by simp only[Reps];exact⟨v,vs,rfl,hr1,p2⟩,d,e0,rfl,h1,p3⟩
theorem Reps.snoc{x:Vx}:∀{ds:List D}{d:D}{vs:List Value},Reps x (ds++[d]) vs->∃us u,vs=us++[u]/\Reps x ds us/\Rep x d u
 |[],d,vs,h=>by simp only[Zf2,Reps] at h;obtain⟨u,us,rfl,h1,rfl⟩:=h;exact⟨[],u,rfl,by simp[Reps],h1⟩
 |e::ds,d,vs,h=>by simp only[Zb2,Reps] at h;obtain⟨u,us,rfl,h1,h2⟩:=h;obtain⟨ws,z,rfl,h3,h4⟩:=Reps.snoc h2;exact⟨u::ws,z,rfl,by simp only[Reps];exact⟨u,ws,rfl,h1,h3⟩,h4⟩
theorem Dw{x:Vx}{m:Nat->Nat}{stbl:List (Nat×Blk)}(hb:∀b k,blk stbl b=some k->Lu x (m b) k){nb:Nat}:∀{bl:List (Nat×Bs)}{B:List D},B7 stbl bl=some B->(bl.all λp=>Nat.blt p.1 nb&&bsB nb p.2)=true ->
  ∃VB:List Value,Reps x B VB/\∀(x':Vx) (E:List D),(x'.w=x.w/\x'.el=x.el)->(∀d,d∈fxs bl->∀b,b∈Ek d->x'.m.bl b=x.m.bl b/\b<x'.nb)->ShL ((bl.map (·.2.sgs)).flatten) E->Reps x' E VB->∀b k,blk (Dl bl E) b=some k->Lu x' (m b) k/\blk stbl b≠none/\b<nb
 |[],B,h,_=>by simp only[B7,Za1] at h;subst h;exact⟨[],by simp[Reps],λx' E _ _ _ _ b k hk=>by simp[Dl,blk] at hk⟩
 |(b0,.cells l)::bl,B,h,hok=>by
  simp only[B7] at h;simp only[Zv1,Zb1] at hok;split at h
  ·rename_i ds es hds hes;split at h
   ·rename_i hlen;have hlen:=Zl1 hlen;simp only[Za1] at h;subst h;obtain⟨VB,h1,h2⟩:=Dw hb hes hok.2;obtain⟨hlf,vs,t,hh,hreps⟩:=hb b0 _ hds;refine⟨vs++VB,hreps.append h1,λx' E hw hfx hsh hr b k hk =>?_⟩;simp only[Zw1,Zz1,Bs.sgs] at hsh;obtain⟨s1,s2⟩:=hsh.split;have hvl:vs.length=l.length:=by rw[hreps.len,hlen]
    obtain⟨r1,r2⟩:=hr.take;rw[hvl] at r1 r2;simp only[Dl] at hk;rw[A6] at hk;by_cases hbb:b=b0
    ·subst hbb;simp only[if_true,Za1] at hk;subst hk;exact⟨⟨s1.lf hok.1.2,vs,t,by rw[hw.1];exact hh,r1⟩,by rw[hds];simp,by simpa[Nat.blt_eq] using hok.1.1⟩
    ·rw[if_neg hbb] at hk;exact h2 x' _ hw hfx s2 r2 b k hk
   ·cases h
  ·cases h
 |(b0,.one s)::bl,B,h,hok=>by
  simp only[B7] at h;simp only[Zv1,Zb1] at hok;split at h
  ·cases h
  ·rename_i k0 es hnb hk0 hes;simp only[Za1] at h;subst h;obtain⟨VB,h1,h2⟩:=Dw hb hes hok.2;obtain⟨vs,t,hh,hrep⟩:=Bjs (hb b0 _ hk0) (λt d e=>hnb t d e);refine⟨.agg vs.toArray::VB,by simp only[Reps];exact⟨_,VB,rfl,hrep,h1⟩,λx' E hw hfx hsh hr b k hk =>?_⟩;simp only[Zw1,Zz1,Bs.sgs,List.singleton_append] at hsh;obtain⟨d,E',rfl,hs1,hs2⟩:=hsh;simp only[Reps] at hr;obtain⟨u,us,hu,hr1,hr2⟩:=hr;simp only[Ze2] at hu;obtain⟨rfl,rfl⟩:=hu;simp only[Dl] at hk;rw[A6] at hk;by_cases hbb:b=b0
   ·subst hbb;simp only[if_true,Za1] at hk;subst hk;exact⟨Blo (hs1.2.1 (by have h12:(!L0 s)=true:=hok.1.2;simpa using h12)) (by rw[hw.1];exact hh) hr1,by rw[hk0];simp,by simpa[Nat.blt_eq] using hok.1.1⟩
   ·rw[if_neg hbb] at hk;exact h2 x' _ hw hfx hs2 hr2 b k hk
  ·cases h
 |(b0,.bld t0)::bl,B,h,hok=>by
  simp only[B7] at h;simp only[Zv1,Zb1] at hok;split at h
  ·rename_i t1 d0 es hk0 hes;split at h
   case h_2=>cases h
   rename_i ht;obtain rfl:=Zl1 ht;simp only[Za1] at h;subst h;obtain⟨VB,h1,h2⟩:=Dw hb hes hok.2;obtain⟨_,a,v,hh,ha,hrep⟩:=hb b0 _ hk0;refine⟨v::VB,by simp only[Reps];exact⟨_,VB,rfl,hrep,h1⟩,λx' E hw hfx hsh hr b k hk =>?_⟩;simp only[Zw1,Zz1,Bs.sgs,List.singleton_append] at hsh;obtain⟨d,E',rfl,hs1,hs2⟩:=hsh;simp only[Reps] at hr;obtain⟨u,us,hu,hr1,hr2⟩:=hr;simp only[Ze2] at hu;obtain⟨rfl,rfl⟩:=hu;simp only[Dl] at hk;rw[A6] at hk;by_cases hbb:b=b0
   ·subst hbb;simp only[if_true,Za1] at hk;subst hk;exact⟨⟨hs1.2.2 rfl,a,v,by rw[hw.1];exact hh,ha,hr1⟩,by rw[hk0];simp,by simpa[Nat.blt_eq] using hok.1.1⟩
   ·rw[if_neg hbb] at hk;exact h2 x' _ hw hfx hs2 hr2 b k hk
  ·cases h
 |(b0,.fx l)::bl,B,h,hok=>by
  simp only[B7] at h;simp only[Zv1,Zb1] at hok;split at h
  ·rename_i ds es hds hes;split at h
   ·rename_i hsame;simp only[Za1] at h;subst h;obtain⟨VB,h1,h2⟩:=Dw hb hes hok.2;obtain⟨_,vs,t,hh,hreps⟩:=hb b0 _ hds;refine⟨VB,h1,λx' E hw hfx hsh hr b k hk =>?_⟩;simp only[Zw1,Zz1,Bs.sgs,Zf2] at hsh;simp only[Dl] at hk;rw[A6] at hk;have hl:l.all (Ak0 nb)=true:=hok.1.2;by_cases hbb:b=b0
    ·subst hbb;simp only[if_true,Za1] at hk;subst hk;exact⟨⟨Zg2.2 λd hd=>Bsn (Zg2.1 hl d hd),vs,t,by rw[hw.1];exact hh,Zo (λd hd=>hfx d (by simp only[fxs,List.mem_append];exact .inl hd)) hsame hreps⟩,by rw[hds];simp,by simpa[Nat.blt_eq] using hok.1.1⟩
    ·rw[if_neg hbb] at hk;exact h2 x' _ hw (λd hd=>hfx d (by simp only[fxs,List.mem_append];exact .inr hd)) hsh hr b k hk
   ·cases h
  ·cases h
 |(b0,.oc l b1 c)::bl,B,h,hok=>by
  simp only[B7] at h;simp only[Zv1,Zb1] at hok;split at h
  ·rename_i ds es hds hes;split at h
   ·rename_i ds' hoc;simp only[Za1] at h;subst h;obtain⟨ds0,s0,n0,rfl,rfl,hl0⟩:=Akb hoc;obtain⟨VB,h1,h2⟩:=Dw hb hes hok.2;obtain⟨hlf,vs,t,hh,hreps⟩:=hb b0 _ hds;obtain⟨vs0,vo,rfl,r0,ro⟩:=hreps.snoc;have hro:=ro;simp only[Rep] at ro;obtain⟨_,g2,g3,g4,_⟩:=ro;have u1:F0 .i64 s0=true:=by have:=Yn (show s0.toNat<=maxLen by omega);rwa[Int.toNat_of_nonneg g2] at this
    have u2:F0 .i64 n0=true:=by have:=Yn (show n0.toNat<=maxLen by omega);rwa[Int.toNat_of_nonneg g3] at this
    have hok12:l.all L0=true/\b1<nb:=by have h12:(l.all L0&&Nat.blt b1 nb)=true:=hok.1.2;simp only[Zb1] at h12;exact⟨h12.1,by simpa[Nat.blt_eq] using h12.2⟩
    refine⟨(vs0++[.int .i64 s0,.int .i64 n0])++VB,(r0.append (by simp only[Reps];exact⟨_,_,rfl,Cz u1,_,_,rfl,Cz u2,rfl⟩)).append h1,λx' E hw hfx hsh hr b k hk =>?_⟩;simp only[Zw1,Zz1,Bs.sgs] at hsh;obtain⟨s1,s2⟩:=hsh.split;have hvl:vs0.length=l.length:=by rw[r0.len,hl0]
    simp only[Zh1,Zf1,Zi1] at s1 s2;obtain⟨q1,q2⟩:=hr.take;simp only[Zh1,Zf1,Zi1,hvl] at q1 q2;simp only[Dl] at hk;rw[A6] at hk;by_cases hbb:b=b0
    ·subst hbb;simp only[if_true,Za1] at hk;subst hk;obtain⟨e0,hput,hrep0,hsh0⟩:=Al5 (b:=b1) (c:=c) hvl.symm s1 q1;have hput2:Xa l.length b1 c E=e0++[.osl b1 c s0 n0]:=(Pt l.length b1 c E).symm.trans hput;rw[hput2];obtain⟨hm,hbn⟩:=hfx (.ptr b1 0) (by simp[fxs]) b1 (by simp[Ek]);refine⟨⟨?_,vs0++[vo],t,by rw[hw.1];exact hh,hrep0.append ?_⟩,by rw[hds];simp,by simpa[Nat.blt_eq] using hok.1.1⟩
     ·simp only[List.all_append,hsh0.lf hok12.1,Bool.true_and];rfl
     ·simp only[Reps];refine⟨vo,[],rfl,?_,rfl⟩;simp only[Rep] at hro ⊢;rw[hm,hw.1,hw.2];exact⟨hbn,hro.2⟩
    ·rw[if_neg hbb] at hk;exact h2 x' _ hw (λd hd=>hfx d (by simp only[fxs,List.mem_cons];exact .inr hd)) s2 q2 b k hk
   ·cases h
  ·cases h
theorem I6{x:Vx}{n:Nat}{env:Env}{a:Act}(he:EnvR x n (get env) a):∀{ow:List (Nat×Nat×Ck)}{O:List D},Kw env ow=some O->∃VO:List Value,Reps x O VO/\∀(x':Vx) (E:List D),(x'.m.bl=x.m.bl/\x'.w=x.w/\x'.el=x.el)->(∀p,p∈ow->p.2.1<x'.nb)->ShL (Apz ow) E->Reps x' E VO->∀k d,get (Axe ow E) k=some d->∃v,a.tmps[k]? = some v/\Rep x' d v
 |[],O,h=>by simp only[Kw,Za1] at h;subst h;exact⟨[],by simp[Reps],λx' E _ _ _ _ k d hk=>by simp[Axe,get] at hk⟩
 |(k0,b,c)::ow,O,h=>by
  simp only[Kw] at h;split at h
  ·rename_i b' c' s0 n0 ds hd hds;split at h
   ·rename_i hc;simp only[Zb1,Zg1] at hc;obtain⟨hc1,rfl⟩:=hc;have hc1:=Zl1 hc1;subst hc1;simp only[Za1] at h;subst h;obtain⟨VO,h1,h2⟩:=I6 he hds;obtain⟨v,hv,hr⟩:=he.get k0 _ hd;simp only[Rep] at hr;obtain⟨g1,g2,g3,g4,g5⟩:=hr;have u1:F0 .i64 s0=true:=by have:=Yn (show s0.toNat<=maxLen by omega);rwa[Int.toNat_of_nonneg g2] at this
    have u2:F0 .i64 n0=true:=by have:=Yn (show n0.toNat<=maxLen by omega);rwa[Int.toNat_of_nonneg g3] at this
    refine⟨.int .i64 s0 :: .int .i64 n0::VO,by simp only[Reps];exact⟨_,_,rfl,Cz u1,_,_,rfl,Cz u2,h1⟩,λx' E hm hb hsh hr' k d hk =>?_⟩;simp only[Apz] at hsh;obtain⟨e1,E1,rfl,hs1,hsh⟩:=hsh;obtain⟨e2,E2,rfl,hs2,hsh⟩:=hsh;simp only[Reps,Ze2] at hr';obtain⟨_,_,⟨rfl,rfl⟩,hr1,_,_,⟨rfl,rfl⟩,hr2,hr3⟩:=hr';cases e1 with
    |int k1 m1 =>
     cases e2 with
     |int k2 m2 =>
      simp only[Rep,Value.int.injEq] at hr1 hr2;obtain⟨⟨_,rfl⟩,_⟩:=hr1;obtain⟨⟨_,rfl⟩,_⟩:=hr2;simp only[Axe] at hk;rw[Cm] at hk;by_cases hkk:k=k0
      ·subst hkk;simp at hk;subst hk;refine⟨v,hv,?_⟩;simp only[Rep];exact⟨hb _ Zr1,g2,g3,g4,by rw[hm.1,hm.2.1,hm.2.2];exact g5⟩
      ·rw[if_neg hkk] at hk;exact h2 x' _ hm (λp hp=>hb p (by simp[hp])) hsh hr3 k d hk
     |_=>simp[Axe,get] at hk
    |_=>simp[Axe,get] at hk
   ·cases h
  ·cases h
theorem Abz{x:Vx}:∀{frs:List Fr}{as_:List Act}{lb lt p q:Nat},Ahs x lb lt frs as_↔Ahs { x with nb:=p,nt:=q } lb lt frs as_
 |[],_,_,_,_,_=>Iff.rfl
 |f::frs,as_,lb,lt,p,q=>by
  simp only[Ahs];constructor
  ·rintro⟨a,r,h1,h2,h3,h4,h5⟩;exact⟨a,r,h1,h2,h3,h4,Abz.1 h5⟩
  ·rintro⟨a,r,h1,h2,h3,h4,h5⟩;exact⟨a,r,h1,h2,h3,h4,Abz.2 h5⟩
theorem Hd:∀(l:List Sg) (i p:Nat),p∈Bq i l->i<=p/\p<i+l.length
 |[],i,p,hp=>by simp[Bq] at hp
 |s::l,i,p,hp=>by
  have rec':p∈Bq (i+1) l->i<=p/\p<i+(s::l).length:=λh=>by have:=Hd l (i+1) p h;simp only[Zf1];omega
  cases s with
  |sl c own =>
   cases own with
   |true =>
    simp only[Bq,List.mem_cons] at hp;rcases hp with rfl|hp
    ·simp
    ·exact rec' hp
   |false=>exact rec' (by simpa[Bq] using hp)
  |_=>exact rec' (by simpa[Bq] using hp)
theorem Je:∀{l m:List Nat},Ew l m=true->l=m
 |[],[],_=>rfl
 |a::l,b::m,h=>by simp only[Ew,Zb1] at h;rw[Zl1 h.1,Je h.2]
 |[],_::_,h=>by simp[Ew] at h
 |_::_,[],h=>by simp[Ew] at h
theorem A0w(i:Nat)(l:List Sg)(x:HV l):(Cc i l x).length=l.length:=(Ah8 i l x).len
theorem Gy:∀(bl:List (Nat×Bs)) (E:List D),Dl bl (E.take ((bl.map (·.2.sgs)).flatten).length)=Dl bl E
 |[],E=>by simp[Dl]
 |(b,.cells l)::bl,E=>by have ih:=Gy bl (E.drop l.length);simp only[Dl,Zw1,Zz1,Bs.sgs,Zh1] at ih ⊢;rw[List.take_take,Nat.min_eq_left (Nat.le_add_right _ _),List.drop_take,Nat.add_sub_cancel_left,ih]
 |(b,.one s)::bl,[]=>by simp
 |(b,.one s)::bl,d::E=>by have ih:=Gy bl E;simp only[Zw1,Zz1,Bs.sgs,Zh1,Zf1,Zi1] at ih ⊢;rw[Nat.add_comm,List.take_succ_cons];simp only[Dl];rw[ih]
 |(b,.bld _)::bl,[]=>by simp
 |(b,.bld _)::bl,d::E=>by have ih:=Gy bl E;simp only[Zw1,Zz1,Bs.sgs,Zh1,Zf1,Zi1] at ih ⊢;rw[Nat.add_comm,List.take_succ_cons];simp only[Dl];rw[ih]
 |(b,.fx l)::bl,E=>by have ih:=Gy bl E;simp only[Dl,Zw1,Zz1,Bs.sgs,Zf2] at ih ⊢;rw[ih]
 |(b,.oc l b1 c)::bl,E=>by
  have ih:=Gy bl (E.drop (l.length+2));simp only[Dl,Zw1,Zz1,Bs.sgs,Zh1,Zf1,Zi1] at ih ⊢;have e1:∀q:Nat,Xa l.length b1 c (E.take (l.length+(0+1+1)+q))=Xa l.length b1 c E:=λq=>by rw[<-Pt l.length b1 c (E.take _),List.take_take,Nat.min_eq_left (Nat.le_add_right _ _),Pt]
  have e2:∀q:Nat,l.length+(0+1+1)+q-(l.length+2)=q:=λq=>by omega
  rw[e1,List.drop_take,e2,ih]
theorem Tx{nb:Nat}:∀{bl:List (Nat×Bs)},(bl.all λp=>Nat.blt p.1 nb&&bsB nb p.2)=true->∀d,d∈fxs bl->Ak0 nb d=true
 |[],_,d,hd=>by cases hd
 |(_,.cells _)::bl,h,d,hd=>by simp only[Zv1,Zb1] at h;exact Tx h.2 d hd
 |(_,.one _)::bl,h,d,hd=>by simp only[Zv1,Zb1] at h;exact Tx h.2 d hd
 |(_,.bld _)::bl,h,d,hd=>by simp only[Zv1,Zb1] at h;exact Tx h.2 d hd
 |(_,.fx l)::bl,h,d,hd=>by
  simp only[Zv1,Zb1] at h;simp only[fxs,List.mem_append] at hd;rcases hd with hd|hd
  ·have hl:l.all (Ak0 nb)=true:=h.1.2;exact Zg2.1 hl d hd
  ·exact Tx h.2 d hd
 |(_,.oc l b1 c)::bl,h,d,hd=>by
  simp only[Zv1,Zb1] at h;simp only[fxs,List.mem_cons] at hd;rcases hd with rfl|hd
  ·have h12:(l.all L0&&Nat.blt b1 nb)=true:=h.1.2;simp only[Zb1] at h12;exact h12.2
  ·exact Tx h.2 d hd
theorem Sn{env:Env}:∀{ow:List (Nat×Nat×Ck)}{O:List D},Kw env ow=some O->O.length=(Apz ow).length
 |[],O,h=>by simp only[Kw,Za1] at h;subst h;rfl
 |(k,b,c)::ow,O,h=>by
  simp only[Kw] at h;split at h
  ·rename_i hds;split at h
   ·simp only[Za1] at h;subst h;simp[Apz,Sn hds]
   ·cases h
  ·cases h
section
variable {cx:Cx}
theorem Rel.recode{m:Mp}{a:Act}{as_:List Act}{w:World}{sg:Sig}{st:St}{x:HV sg.sgs}(hok:Y8 sg=true)(hd:J0 sg st=some x)(hr:Rel cx m a as_ (fs st) w):∃m',Rel cx m' a as_ (fs (D7 sg st.fr x)) w:=by
 simp only[Y8,Zb1] at hok;obtain⟨⟨⟨hok1,hok2⟩,hok3⟩,hok4⟩:=hok;have hok3:sg.lb<=sg.nb:=by simpa using hok3
 unfold J0 at hd;split at hd
 ·rename_i A B O hA hB hO hc;simp only[Zb1] at hc;obtain⟨⟨⟨⟨hc1,hc2⟩,hc3⟩,hc4⟩,hc5⟩:=hc;have hc2:st.n=sg.n:=Zl1 hc2;have hc3:st.lb=sg.lb:=Zl1 hc3;have hc4:st.lt=sg.lt:=Zl1 hc4;obtain⟨VA,hVA,hVA2⟩:=Lb (env:=st.env) hr.env hA;obtain⟨VB,hVB,hVB2⟩:=Dw (x:=vx cx m (fs st) w) (m:=m.bl) (stbl:=st.bl) (λb k hk=>(hr.blks b k hk).2) hB hok2;obtain⟨VO,hVO,hVO2⟩:=I6 (env:=st.env) hr.env hO;have hAB:=hVA.append (hVB.append hVO);obtain⟨as1,as2⟩:=Aci sg.lt hd;have hals:∀t,t∈(st.tk.filter λt => !sg.tk.contains t)->t∈st.tk/\t∉sg.tk:=λt ht=>by
   simp only[List.mem_filter,Bool.not_eq_true'] at ht;refine⟨ht.1,λhm =>?_⟩;have:sg.tk.contains t=true:=by simpa using hm
   rw[this] at ht;cases ht.2
  have htk:∀t,t∈sg.tk->(t∈st.tk/\t<sg.lt):=λt ht=>by have:=Zg2.1 hc5 t ht;simp only[Zb1] at this;exact⟨by simpa using this.2,by simpa[Nat.blt_eq] using this.1⟩
  let E:=Cc sg.lt sg.sgs x;have hE:E.length=sg.sgs.length:=A0w _ _ _;have hvl:sg.vars.length<=E.length:=by rw[hE];simp[Sig.sgs]
  obtain⟨z1,z2⟩:=Arv sg.vars E hvl;let m':Mp:=⟨m.bl,λt=>if t<sg.lt then m.tk t else(asg sg.lt sg.sgs (A++(B++O)) t).bind m.tk⟩;have henc:D7 sg st.fr x=⟨sg.n,(Aqe sg.vars E).1++(sg.fix++Axe sg.ow ((E.drop sg.vars.length).drop ((sg.bl.map (·.2.sgs)).flatten).length)),sg.lb,sg.lt,st.fr,Dl sg.bl (E.drop sg.vars.length),sg.nb,Bq sg.lt sg.sgs++sg.tk,sg.lt+sg.sgs.length⟩:=by unfold D7;rw[<-z1]
  have hshE:ShL ((sg.bl.map (·.2.sgs)).flatten++Apz sg.ow) (E.drop sg.vars.length):=by have hsh:=(Ah8 sg.lt sg.sgs x);simp only[Sig.sgs] at hsh;have hs2:=hsh.split.2;simp only[List.length_map] at hs2;exact hs2
  have hbl:∀(X':Vx),(X'.w=w/\X'.el=cx.el)->(∀d,d∈fxs sg.bl->∀b,b∈Ek d->X'.m.bl b=m.bl b/\b<X'.nb)->Reps X' ((E.drop sg.vars.length).take ((sg.bl.map (·.2.sgs)).flatten).length) VB->∀b k,blk (Dl sg.bl (E.drop sg.vars.length)) b=some k->Lu X' (m.bl b) k/\blk st.bl b≠none/\b<sg.nb:=λX' hw hfx hrp b k hk=>by exact hVB2 X' _ hw hfx hshE.split.1 hrp b k (by rw[Gy];exact hk)
  have htoks:∀t,t∈Bq sg.lt sg.sgs++sg.tk->t<sg.lt+sg.sgs.length/\((t<sg.lt/\(t∈st.tk/\t∈sg.tk)/\m'.tk t=m.tk t)\/(sg.lt<=t/\t∈Bq sg.lt sg.sgs/\m'.tk t=(asg sg.lt sg.sgs (A++(B++O)) t).bind m.tk)):=λt ht=>by
   simp only[List.mem_append] at ht;rcases ht with ht|ht
   ·obtain⟨h1,h2⟩:=Hd _ _ _ ht;exact⟨h2,.inr ⟨h1,ht,by simp[m',Nat.not_lt.2 h1]⟩⟩
   ·obtain⟨h1,h2⟩:=htk t ht;exact⟨by omega,.inl ⟨h2,⟨h1,ht⟩,by simp[m',h2]⟩⟩
  have horig:∀t g o,t∈Bq sg.lt sg.sgs++sg.tk->m'.tk t=some (g,o)->∃t',t'∈st.tk/\m.tk t' = some (g,o)/\(((t<sg.lt/\t∈sg.tk)/\t' = t)\/(sg.lt<=t/\t'∉sg.tk/\asg sg.lt sg.sgs (A++(B++O)) t=some t')):=λt g o ht hg=>by
   rcases(htoks t ht).2 with ⟨h1,h2,h3⟩|⟨h1,_,h3⟩
   ·rw[h3] at hg;exact⟨t,h2.1,hg,.inl ⟨⟨h1,h2.2⟩,rfl⟩⟩
   ·rw[h3] at hg;cases hasg:asg sg.lt sg.sgs (A++(B++O)) t with|none=>rw[hasg] at hg;cases hg|some t' =>rw[hasg,Zc1] at hg;obtain⟨q1,q2⟩:=hals t' (as1 t t' hasg).1;exact⟨t',q1,hg,.inr ⟨h1,q2,rfl⟩⟩
  let s':FS:=fs (D7 sg st.fr x);have hs'al:∀t,s'.al t↔t∈Bq sg.lt sg.sgs++sg.tk:=λt=>by simp only[s',henc,fs]
  have hs'bl:s'.bl=blk (Dl sg.bl (E.drop sg.vars.length)):=by simp only[s',henc,fs]
  have hpre:∀b,s'.bl b≠none->blk st.bl b≠none:=λb hb=>by
   rw[hs'bl] at hb;cases hk:blk (Dl sg.bl (E.drop sg.vars.length)) b with
   |none=>exact absurd hk hb
   |some k =>
    have:∀(bl:List (Nat×Bs)) (B:List D) (E:List D) (b:Nat) (k:Blk),B7 st.bl bl=some B->blk (Dl bl E) b=some k->blk st.bl b≠none:=by
     intro bl;induction bl with
     |nil=>intro B E b k _ hk;simp[Dl,blk] at hk
     |cons p bl ih =>
      intro B E b k hg hk;obtain⟨b0,bs⟩:=p;cases bs with
      |cells l =>
       simp only[B7] at hg;split at hg
       ·rename_i ds es hds hes;simp only[Dl] at hk;rw[A6] at hk;by_cases hbb:b=b0
        ·rw[hbb,hds];simp
        ·rw[if_neg hbb] at hk;exact ih _ _ b k hes hk
       ·cases hg
      |bld t0 =>
       simp only[B7] at hg;split at hg
       ·rename_i t1 k0 es hk0 hes;cases E with
        |nil =>
         simp only[Dl] at hk;rw[A6] at hk;by_cases hbb:b=b0
         ·rw[hbb,hk0];simp
         ·rw[if_neg hbb] at hk;exact ih _ _ b k hes hk
        |cons e E =>
         simp only[Dl] at hk;rw[A6] at hk;by_cases hbb:b=b0
         ·rw[hbb,hk0];simp
         ·rw[if_neg hbb] at hk;exact ih _ _ b k hes hk
       ·cases hg
      |fx l =>
       simp only[B7] at hg;split at hg
       ·rename_i ds es hds hes;split at hg
        ·simp only[Dl] at hk;rw[A6] at hk;by_cases hbb:b=b0
         ·rw[hbb,hds];simp
         ·rw[if_neg hbb] at hk;exact ih _ _ b k hes hk
        ·cases hg
       ·cases hg
      |oc l b1 c =>
       simp only[B7] at hg;split at hg
       ·rename_i ds es hds hes;simp only[Dl] at hk;rw[A6] at hk;by_cases hbb:b=b0
        ·rw[hbb,hds];simp
        ·rw[if_neg hbb] at hk;exact ih _ _ b k hes hk
       ·cases hg
      |one s =>
       simp only[B7] at hg;split at hg
       ·cases hg
       ·rename_i k0 es hnb hk0 hes;cases E with
        |nil =>
         simp only[Dl] at hk;rw[A6] at hk;by_cases hbb:b=b0
         ·rw[hbb,hk0];simp
         ·rw[if_neg hbb] at hk;exact ih _ _ b k hes hk
        |cons e E =>
         simp only[Dl] at hk;rw[A6] at hk;by_cases hbb:b=b0
         ·rw[hbb,hk0];simp
         ·rw[if_neg hbb] at hk;exact ih _ _ b k hes hk
       ·cases hg
    exact this sg.bl B _ b k hB hk
  have hfp:∀b i,Dk m' s' b i->Dk m (fs st) b i:=by
   rintro b i (⟨q,hq,rfl⟩|⟨t,o,h1,h2,h3⟩)
   ·exact .inl ⟨q,hpre q hq,rfl⟩
   ·obtain⟨t',q1,q2,_⟩:=horig t b o ((hs'al t).1 h1) h2;exact .inr ⟨t',o,q1,q2,h3⟩
  have hS:∀b i,(vx cx m' s' w).S b i->(vx cx m (fs st) w).S b i:=by
   rintro b i (h|h)
   ·exact .inl h
   ·exact .inr (hfp b i h)
  have hnt:(vx cx m' s' w).nt=sg.lt+sg.sgs.length:=by simp only[vx,s',henc,fs]
  have hreps:Reps (vx cx m' s' w) E (VA++(VB++VO)):=Il (X:=vx cx m (fs st) w) (X':=vx cx m' s' w) hS rfl rfl sg.lt hd (λt ht=>(hals t ht).1) hAB (λp hp=>by obtain⟨q1,q2⟩:=Hd _ _ _ hp;refine⟨by rw[hnt];exact q2,?_⟩;simp[vx,m',Nat.not_lt.2 q1])
  have hVAl:VA.length=sg.vars.length:=by
   have h1:=hVA.len;have:A.length=sg.vars.length:=by
    have:∀(vars:List (Nat×Sg)) (A:List D),Ju st.env vars=some A->A.length=vars.length:=by
     intro vars;induction vars with
     |nil=>intro A h;simp only[Ju,Za1] at h;subst h;rfl
     |cons p vars ih =>
      intro A h;simp only[Ju] at h;split at h
      ·rename_i d ds _ hds;simp only[Za1] at h;subst h;simp[ih ds hds]
      ·cases h
    exact this _ _ hA
   omega
  obtain⟨r1,r2⟩:=hreps.take;rw[hVAl] at r1 r2;have hVBl:VB.length=((sg.bl.map (·.2.sgs)).flatten).length:=by have e1:=r2.len;have e2:=hshE.len;have e3:=hVO.len;have e4:=Sn hO;simp only[Zh1] at e1 e2;omega
  obtain⟨r3,r4⟩:=r2.take;rw[hVBl] at r3 r4;refine⟨m',?_⟩;show Rel cx m' a as_ s' w;have hlb':s'.lb=sg.lb:=by simp only[s',henc,fs]
  have hlt':s'.lt=sg.lt:=by simp only[s',henc,fs]
  have hfr':s'.fr=st.fr:=by simp only[s',henc,fs]
  have hnb':s'.nb=sg.nb:=by simp only[s',henc,fs]
  have hnt':s'.nt=sg.lt+sg.sgs.length:=hnt;refine⟨hr.chg,⟨hr.env.defers,?_,λk d hk =>?_⟩,?_,?_,?_,λb k hk =>?_,λt ht =>?_,λb b' h1 h2=>hr.inj b b' (hpre b h1) (hpre b' h2),?_,?_,λb i hi=>hr.own b i (hfp b i hi),hr.away,?_⟩
  ·have:s'.n=sg.n:=by simp only[s',henc,fs]
   rw[this,<-hc2];exact hr.env.size
  ·have hk':get ((Aqe sg.vars E).1++(sg.fix++Axe sg.ow ((E.drop sg.vars.length).drop ((sg.bl.map (·.2.sgs)).flatten).length))) k=some d:=by simpa only[s',henc,fs] using hk
   rcases Am1 _ _ _ _ hk' with h|h
   ·obtain⟨i,s,h1,h2⟩:=z2 k d h;obtain⟨v,h3,h4⟩:=hVA2 i k s h1;have hlt:i<VA.length:=(Zi2.1 h3).1;obtain⟨u,hu,hru⟩:=hreps.get h2;rw[List.getElem?_append_left hlt,h3] at hu;simp only[Za1] at hu;subst hu;exact⟨v,h4,hru⟩
   rcases Am1 _ _ _ _ h with h|h
   ·obtain⟨h1,d',h2,h3⟩:=A99 hc1 hok1 h;obtain⟨v,h4,h5⟩:=hr.env.get k d' h2;exact⟨v,h4,Ags (x:=vx cx m (fs st) w) (λb hb=>⟨rfl,by simp only[vx,hnb'];exact Bhz h1 b hb⟩) h3 h5⟩
   ·exact hVO2 (vx cx m' s' w) _ ⟨rfl,rfl,rfl⟩ (λp hp=>by have:=Zg2.1 hok4 p hp;simp only[vx,hnb'];simpa[Nat.blt_eq] using this) hshE.split.2 r4 k d h
  ·rw[hlb',hlt',hfr'];have h0:=hr.frs;have e1:(fs st).lb=sg.lb:=hc3;have e2:(fs st).lt=sg.lt:=hc4;rw[e1,e2] at h0;have h1:=(Abz (p:=sg.lb) (q:=sg.lt)).1 h0;refine(Abz (p:=sg.lb) (q:=sg.lt)).2 (Ahs.later (x:={ vx cx m (fs st) w with nb:=sg.lb,nt:=sg.lt }) ?_ (Zn1 _) (Zn1 _) h1);refine⟨Chg.refl _ _,λb i hi =>.inl (hS b i hi),rfl,λ_ _=>rfl,Zn1 _,Zn1 _,λt ht ha =>?_⟩;have ht:t<sg.lt:=ht;rcases(htoks t ((hs'al t).1 ha)).2 with ⟨_,q2,q3⟩|⟨q1,_,_⟩
   ·exact⟨q2.1,q3,λ_ _ _=>rfl⟩
   ·omega
  ·rw[hlb',hnb'];exact hok3
  ·rw[hlt',hnt'];omega
  ·rw[hs'bl] at hk;obtain⟨q1,_,q3⟩:=hbl (vx cx m' s' w) ⟨rfl,rfl⟩ (λd hd b hb=>⟨rfl,by simp only[vx,hnb'];exact Arq (Tx hok2 d hd) b hb⟩) r3 b k hk;exact⟨by rw[hnb'];exact q3,q1⟩
  ·rw[hnt'];exact(htoks t ((hs'al t).1 ht)).1
  ·intro t t' g o o' h1 h2 h3 h4;obtain⟨u,q1,q2,q3⟩:=horig t g o ((hs'al t).1 h1) h3;obtain⟨u',p1,p2,p3⟩:=horig t' g o' ((hs'al t').1 h2) h4;have huu:=hr.injt u u' g o o' q1 p1 q2 p2;subst huu;rcases q3 with ⟨a1,a2⟩|⟨a1,a2,a3⟩<;>rcases p3 with ⟨b1,b2⟩|⟨b1,b2,b3⟩
   ·rw[<-a2,<-b2]
   ·rw[a2] at b2;exact absurd a1.2 b2
   ·rw[b2] at a2;exact absurd b1.2 a2
   ·exact as2 t t' u a3 b3
  ·intro b t g o h1 h2 h3;obtain⟨u,q1,q2,_⟩:=horig t g o ((hs'al t).1 h2) h3;exact hr.injbt b u g o (hpre b h1) q1 q2
  ·exact⟨λg c xs hx i y hy w' hw=>hr.glb.1 g c xs hx i y hy w' (hw.mono hS),λg l hl=>by obtain⟨r,es,clk,q1,q2⟩:=hr.glb.2.1 g l hl;exact⟨r,es,clk,λw' hw=>q1 w' (hw.mono hS),q2⟩,λg k hk=>by obtain⟨n,q1⟩:=hr.glb.2.2 g k hk;exact⟨n,λw' hw=>q1 w' (hw.mono hS)⟩⟩
 ·cases hd
end
theorem Nr(n:Nat)(p:Nat->Bool):(Cp n p).size=n:=by simp[Cp]
theorem Apx{n i:Nat}{p:Nat->Bool}(h:i<n)(d:Bool):(Cp n p).getD i d=p i:=by
 have h':i<(Cp n p).size:=by rw[Nr];exact h
 rw[Array.getD_eq_getD_getElem?,Zk2 h'];simp[Cp]
theorem Bcx{n:Nat}{p:Nat->Bool}{listed:Array Bool}(hs:listed.size=n)(h:∀i,i<n->listed.getD i true=p i):listed=Cp n p:=by
 apply Array.ext_getElem?;intro i;by_cases hi:i<n
 ·have h1:=h i hi;have h2:(Cp n p).getD i true=p i:=Apx hi true;have e1:listed[i]? = some (listed[i]'(by omega)):=Zk2 (by omega);have hi2:i<(Cp n p).size:=by rw[Nr];exact hi
  have e2:(Cp n p)[i]? = some ((Cp n p)[i]'hi2):=Zk2 hi2;rw[Array.getD_eq_getD_getElem?,e1] at h1;rw[Array.getD_eq_getD_getElem?,e2] at h2;rw[e1,e2];simp only[Option.getD_some] at h1 h2;rw[h1,h2]
 ·rw[Array.getElem?_eq_none (by omega),Array.getElem?_eq_none (by rw[Nr];omega)]
theorem Ic{n j:Nat}{p:Nat->Bool}(hj:j<n){q:Nat->Bool}(h:∀i,i<n->q i=(p i||Nat.beq i j)):(Cp n p).setIfInBounds j true=Cp n q:=by
 refine Bcx (by rw[Array.size_setIfInBounds,Nr]) λi hi =>?_;rw[h i hi];by_cases hij:i=j
 ·subst hij;have h':i<(Cp n p).size:=by rw[Nr];exact hi
  simp[Array.getD_eq_getD_getElem?,h']
 ·rw[getD_set_ne true (Ne.symm hij),Apx hi,Gg hij,Bool.or_false]
theorem Bua{n j:Nat}{p:Nat->Bool}{ops:Array Oper}(hn:ops.size=n)(h:j∈Region.ready .any ops (Cp n p)):j<n/\p j=false:=by
 obtain⟨h0,o,ho,_⟩:=mem_ready.1 h;have hj:j<n:=by rw[<-hn];exact(Zh2.1 ho).1
 rw[Apx hj] at h0;exact⟨hj,h0⟩
theorem Bj6{P:Program}{o:Oper}{a:Act}{w:World}{K K':Act->World->Prop}{Q Q':Exit->Act->World->Prop}(hk:∀a w,K a w->K' a w)(h:∀e a w,Q e a w->Q' e a w)(hh:o.wp P a w K Q):o.wp P a w K' Q':=by
 unfold Oper.wp at *;generalize (execOp a.eval o).run P w=r at *;have hl:LetsOut Q->LetsOut Q':=λ⟨a,w,hq⟩=>⟨a,w,h _ _ _ hq⟩;cases r with
 |ok n w' =>
  cases n<;>simp only[Oper.upon] at hh ⊢ <;>
   first
    |exact hk _ _ hh
    |exact Calls.mono hh (λe w'' he=>by cases e<;>first|exact hk _ _ he|exact hl he|exact h _ _ _ he)
    |exact Rows.mono hh (λ_ _ he=>hk _ _ he)
    |exact hh
 |halt x w'=>cases x<;>simp only[Oper.upon] at hh ⊢ <;> first|exact hh|exact h _ _ _ hh
theorem A8o{P:Program}{ops:Array Oper}{i:Nat}{a:Act}{w:World}{K K':Act->World->Prop}{Q Q':Exit->Act->World->Prop}(hk:∀a w,K a w->K' a w)(h:∀e a w,Q e a w->Q' e a w)(hh:wpOp P ops Q i K a w):wpOp P ops Q' i K' a w:=by
 unfold wpOp at *;split
 ·exact hk _ _ (by simpa[*] using hh)
 ·rename_i o ho;simp only[ho] at hh;split
  ·rename_i hw;simp only[hw,if_true] at hh;exact hh.imp (Bj6 hk h) λ⟨h1,a,w,hq⟩=>⟨h1,a,w,h _ _ _ hq⟩
  ·rename_i hw;simp only[hw] at hh;exact hk _ _ hh
theorem Ae4{P:Program}{ops:Array Oper}{Q Q':Exit->Act->World->Prop}(h:∀e a w,Q e a w->Q' e a w):∀(fuel:Nat) (listed:Array Bool) (a:Act) (w:World),wpAny P .any ops Q fuel listed a w->wpAny P .any ops Q' fuel listed a w
 |0,_,_,_,hh=>⟨hh.1,h _ _ _ hh.2⟩
 |fuel+1,_,_,_,hh=>⟨λhr=>h _ _ _ (hh.1 hr),λi hi=>A8o (λa' w'=>Ae4 h fuel _ a' w') h (hh.2 i hi)⟩
def Nrm(Q:Exit->Act->World->Prop):Exit->Act->World->Prop:=λe a w=>e = .normal/\Q e a w
theorem Bb9{Q:Exit->Act->World->Prop}(h:LetsOut (Nrm Q)):False:=by obtain⟨_,_,h,_⟩:=h;cases h
theorem A74{P:Program}{ops:Array Oper}{Q:Exit->Act->World->Prop}{i:Nat}{o:Oper}{K:Act->World->Prop}{a:Act}{w w':World}{v:Value}(hi:ops[i]? = some o)(hg:o.guard=none)(hx:(execOp a.eval o).run P w = .ok (.value v) w')(hk:K (a.put o.dst v) w'):wpOp P ops Q i K a w:=by unfold wpOp;simp only[hi,Dd hg,if_true,Oper.wp,hx];exact .inl hk
theorem U5{P:Program}{ops:Array Oper}{Q:Exit->Act->World->Prop}{i:Nat}{o:Oper}{K:Act->World->Prop}{a:Act}{w w':World}(hi:ops[i]? = some o)(hg:o.guard=none)(hd:o.dst=none)(hx:(execOp a.eval o).run P w = .ok .skip w')(hk:K a w'):wpOp P ops Q i K a w:=by unfold wpOp;simp only[hi,Dd hg,if_true,Oper.wp,hx,Oper.upon,hd];exact .inl hk
theorem Ab4{P:Program}{ops:Array Oper}{Q:Exit->Act->World->Prop}{o:Oper}{l:List Oper}{a:Act}{w w':World}{v:Value}(hg:o.guard=none)(hx:(execOp a.eval o).run P w = .ok (.value v) w')(h:wpList P ops (Nrm Q) (o::l) a w):wpList P ops (Nrm Q) l (a.put o.dst v) w':=by
 simp only[wpList,Dd hg,if_true,Oper.wp,hx] at h;rcases h with h|⟨_,h⟩
 ·exact h
 ·exact(Bb9 h).elim
theorem A2g{P:Program}{ops:Array Oper}{Q:Exit->Act->World->Prop}{o:Oper}{l:List Oper}{a:Act}{w w':World}(hg:o.guard=none)(hd:o.dst=none)(hx:(execOp a.eval o).run P w = .ok .skip w')(h:wpList P ops (Nrm Q) (o::l) a w):wpList P ops (Nrm Q) l a w':=by
 simp only[wpList,Dd hg,if_true,Oper.wp,hx,Oper.upon,hd] at h;rcases h with h|⟨_,h⟩
 ·exact h
 ·exact(Bb9 h).elim
theorem As8{P:Program}{a:Act}{w:World}{o:Oper}{u:TypeId}{x y:Operand}{β off:Nat}{v:Value}{t:TypeId}{vs:List Value}(ho:o.op = .store u x y)(hx:a.eval x = .pointer (some ⟨β,off,none⟩))(hy:a.eval y=v)(h1:Sx.one v=true)(hz:Sx.tySz P u=some 1)(hh:w.heap[β]? = some (.cells vs.toArray t (0,0)))(hl:off<vs.length):(execOp a.eval o).run P w = .ok .skip (Sx.setCells w β off [v]):=by
 have hcl:v.cells.toList=[v]:=by rw[Sx.one_cells h1]
 have hsz:v.cells.size=1:=by rw[<-Array.length_toList,hcl];rfl
 obtain⟨r1,_,_⟩:=Sx.run_storeCells (P:=P) [v] w β off 0 vs t hh (by simp only[Zf1,Zi1];omega) (λq hq=>by simp only[List.mem_singleton] at hq;subst hq;exact h1);simp only[execOp,ho,Instr.storeAt,hx,hy,Instr.sureAddr,storeVar,Sem.run_bind,Sem.run_pure,Result.andThen_ok,Sx.run_sizeOf hz,hsz,ne_eq,not_true_eq_false,if_false,hcl];rw[r1];simp
theorem Ap7{w:World}{g β off off':Nat}{us vs cs ds:List Value}{t t':TypeId}{f f':Nat×Nat}(hg:w.heap[g]? = some (.cells cs.toArray t f))(hβ:w.heap[β]? = some (.cells ds.toArray t' f'))(hne : β≠g):Sx.setCells (Sx.setCells w g off us) β off' vs=Sx.setCells (Sx.setCells w β off' vs) g off us:=by
 rw[C9 us cs w g off hg,C9 vs ds w β off' hβ];have h1:(w.setRow g (Sx.writeAt cs off us).toArray).heap[β]? = some (.cells ds.toArray t' f'):=by rw[setRow_other w g β _ hne];exact hβ
 have h2:(w.setRow β (Sx.writeAt ds off' vs).toArray).heap[g]? = some (.cells cs.toArray t f):=by rw[setRow_other w β g _ (Ne.symm hne)];exact hg
 rw[C9 vs ds _ β off' h1,C9 us cs _ g off h2];exact Azc w (Ne.symm hne) _ _
theorem Rk{w:World}{g k off:Nat}{us cs:List Value}{t:TypeId}{f:Nat×Nat}(hg:w.heap[g]? = some (.cells cs.toArray t f))(hne:k≠g):(Sx.setCells w g off us).heap[k]? = w.heap[k]? := by rw[C9 us cs w g off hg,setRow_other w g k _ hne]
theorem Kf{a:Nat}{l:List Nat}(h:dNe a l=true):∀b,b∈l->a≠b:=λb hb e=>by have:=Zg2.1 h b hb;rw[e] at this;simp at this
section
variable {R:Type}{px:Px R}{cx:Cx}
theorem Bbx(hp:PxOk cx px){o:Oper}{u:TypeId}{x y:Operand}{st:St}{b off:Nat}{c:Ck}{xs:List (El c)}{t:Tk}{K:St->Option R}{r:R}(ho:o.op = .store u x y)(hx:ev px st 0 x=some (.ptr b off))(hy:ev px st u y=some (.sl c xs t))(hb:(∃ds,blk st.bl b=some (.cells ds))\/∃c y,blk st.bl b=some (.box c y))(h:Afq px o st K=some r) :
  Sx.tySz cx.P u=some 1/\∀(x:Vx) (β:Nat) k,blk st.bl b=some k->Lu x β k->∃(vs:List Value) (t:TypeId),x.w.heap[β]? = some (.cells vs.toArray t (0,0))/\off<vs.length:=by
 unfold Afq at h;simp only[ho,hx,hy] at h;rcases hb with ⟨ds,hb⟩|⟨c',y',hb⟩
 ·simp only[hb] at h;split at h
  ·rename_i hc;simp only[Zb1] at hc;obtain⟨⟨⟨hc1,hc2⟩,_⟩,hc4⟩:=hc;have hc1 : 1=(px.tt u).n:=Zl1 hc1;have hc2:off+1<=ds.length:=Nat.le_of_ble_eq_true hc2;refine⟨by rw[(Dv (hp.tt u) (Et hc4).1).2.2,<-hc1],λx β k hk hr =>?_⟩;rw[hb] at hk;simp only[Za1] at hk;subst hk;obtain⟨_,vs,t,h1,h2⟩:=hr;exact⟨vs,t,h1,by rw[h2.len];omega⟩
  ·cases h
 ·simp only[hb] at h;split at h
  ·rename_i hc;simp only[Zb1] at hc;obtain⟨⟨⟨hc1,hc2⟩,_⟩,hc4⟩:=hc;have hc1 : 1=(px.tt u).n:=Zl1 hc1;have hc2:off+1<=(enc c' y').length:=Nat.le_of_ble_eq_true hc2;rw[B4] at hc2;refine⟨by rw[(Dv (hp.tt u) (Et hc4).1).2.2,<-hc1],λx β k hk hr =>?_⟩;rw[hb] at hk;simp only[Za1] at hk;subst hk;obtain⟨_,vs,t,h1,h2,_⟩:=hr;exact⟨vs,t,h1,by omega⟩
  ·cases h
theorem Aav{a b:Nat}:Nat.ble a b=decide (a<=b):=by cases h:Nat.ble a b with|true=>exact(Ze1 (Nat.le_of_ble_eq_true h)).symm|false=>exact(Zd1 λe=>by rw[Nat.ble_eq_true_of_le e] at h;cases h).symm
theorem Qm{a b:Nat}:Nat.beq a b=decide (a=b):=by
 by_cases h:a=b
 ·subst h;simp
 ·rw[Gg h,Zd1 h]
theorem Bu4{a b:Nat}:Nat.blt a b=decide (a<b):=by cases h:Nat.blt a b with|true=>rw[Nat.blt_eq] at h;exact(Ze1 h).symm|false=>exact(Zd1 λe=>by rw[<-Nat.blt_eq] at e;rw[e] at h;cases h).symm
end
section
variable {R:Type}{px:Px R}{cx:Cx}
theorem Aen{Q:Exit->Act->World->Prop}{f:Act->Act}:∀c (a:Act) (w:World),Nrm Q (.panic c) (f a) w->Nrm Q (.panic c) a w:=λ_ _ _ h=>by cases h.1
structure Far (cx:Cx) (o:Oper) (u:TypeId) (g:Nat) (wA:World) (β off:Nat) (vs:List Value) (t:TypeId):Prop where
 sz:Sx.tySz cx.P u=some 1
 ne : β≠g
 row:wA.heap[β]? = some (.cells vs.toArray t (0,0))
 lt:off<vs.length
theorem Azb{ops:Array Oper}{Q:Exit->Act->World->Prop}{iC iS:Nat}{oc os:Oper}{u:TypeId}{x y:Operand}{a:Act}{wA:World}{g o1 β off:Nat}{us cs vs:List Value}{t0 t:TypeId}{v:Value}{p0 p1 p2 p3:Nat->Bool}(hC:ops[iC]? = some oc)(hS:ops[iS]? = some os)(hCS:iC≠iS)
  (gC:oc.guard=none) (dC:oc.dst=none) (gS:os.guard=none) (dS:os.dst=none) (hop:os.op = .store u x y) (hx:a.eval x = .pointer (some ⟨β,off,none⟩)) (hy:a.eval y=v) (hv:Sx.one v=true) (hF:Far cx os u g wA β off vs t)
  (hrow:wA.heap[g]? = some (.cells cs.toArray t0 (0,0))) (hc:∀(w':World) (cs':List Value),w'.heap[g]? = some (.cells cs'.toArray t0 (0,0))->cs'.length=cs.length->(execOp a.eval oc).run cx.P w' = .ok .skip (Sx.setCells w' g o1 us))
  (h0:∀i,i<ops.size->p0 i=decide (i≠iC/\i≠iS)) (h1:∀i,i<ops.size->p1 i=decide (i≠iS)) (h2:∀i,i<ops.size->p2 i=decide (i≠iC)) (h3:∀i,i<ops.size->p3 i=true)
  (r0:(Region.ready .any ops (Cp ops.size p0)).contains iC=true) (r1:Region.ready .any ops (Cp ops.size p1)=[iS]) (r2:Region.ready .any ops (Cp ops.size p2)=[iC]) (r3:Region.ready .any ops (Cp ops.size p3)=[])
  (hfin:wpList cx.P ops (Nrm Q) [os] a (Sx.setCells wA g o1 us)) (fuel:Nat):wpAny cx.P .any ops (Nrm Q) (fuel+2) (Cp ops.size p0) a wA:=by
 have hCn:iC<ops.size:=(Zh2.1 hC).1;have hSn:iS<ops.size:=(Zh2.1 hS).1;have s1:(Cp ops.size p0).setIfInBounds iC true=Cp ops.size p1:=Ic hCn λi hi=>by rw[h0 i hi,h1 i hi,Qm];rw[<-Bool.decide_or];exact Zy1.2 (by omega)
 have s2:(Cp ops.size p0).setIfInBounds iS true=Cp ops.size p2:=Ic hSn λi hi=>by rw[h0 i hi,h2 i hi,Qm];rw[<-Bool.decide_or];exact Zy1.2 (by omega)
 have s3:(Cp ops.size p1).setIfInBounds iS true=Cp ops.size p3:=Ic hSn λi hi=>by rw[h1 i hi,h3 i hi,Qm];rw[<-Bool.decide_or];exact(Ze1 (by omega)).symm
 have s4:(Cp ops.size p2).setIfInBounds iC true=Cp ops.size p3:=Ic hCn λi hi=>by rw[h2 i hi,h3 i hi,Qm];rw[<-Bool.decide_or];exact(Ze1 (by omega)).symm
 have row2:(Sx.setCells wA g o1 us).heap[β]? = some (.cells vs.toArray t (0,0)):=by rw[Rk hrow hF.ne];exact hF.row
 have rowS:(Sx.setCells wA β off [v]).heap[g]? = some (.cells cs.toArray t0 (0,0)):=by rw[Rk hF.row (Ne.symm hF.ne)];exact hrow
 have x2:=As8 (P:=cx.P) hop hx hy hv hF.sz row2 hF.lt;have xS:=As8 (P:=cx.P) hop hx hy hv hF.sz hF.row hF.lt;have hend:Nrm Q .normal a (Sx.setCells (Sx.setCells wA g o1 us) β off [v]):=by have:=A2g gS dS x2 hfin;simpa[wpList] using this
 refine⟨λh=>(by rw[h] at r0;cases r0),λj hj =>?_⟩;obtain⟨hjn,hjp⟩:=Bua rfl hj;rw[h0 j hjn,decide_eq_false_iff_not] at hjp;by_cases hjC:j=iC
 ·subst hjC;refine U5 hC gC dC (hc wA cs hrow rfl) ?_;rw[s1];refine wpAny_all r1 (by simp) λi hi =>?_;simp only[List.mem_singleton] at hi;subst hi;refine U5 hS gS dS x2 ?_;rw[s3];exact wpAny_done r3 hend fuel
 ·have hjS:j=iS:=Decidable.byContradiction λe=>hjp ⟨hjC,e⟩;subst hjS;refine U5 hS gS dS xS ?_;rw[s2];refine wpAny_all r2 (by simp) λi hi =>?_;simp only[List.mem_singleton] at hi;subst hi;refine U5 hC gC dC (hc _ cs rowS rfl) ?_;rw[s4,<-Ap7 hrow hF.row hF.ne];exact wpAny_done r3 hend fuel
theorem Atq{ops:Array Oper}{Q:Exit->Act->World->Prop}{e:Nat}{q3:Bool}{oa ob oc:Oper}{st st2:St}{m:Mp}{a:Act}{as_:List Act}{w:World}(hA:ops[e]? = some oa)(hB:ops[e+1]? = some ob)(hr:Rel cx m a as_ (fs st) w)(f:Fuse cx oa ob oc st st2 m a as_ w)(hE:M4 ops e q3=true)(fuel:Nat)
  (h:wpAny cx.P .any ops (Nrm Q) fuel (Cp ops.size λi=>Nat.ble i (e+1)) ((a.put (some f.d) f.v7).put (some f.d2) f.vp) f.wA):wpAny cx.P .any ops (Nrm Q) (fuel+2) (Cp ops.size λi=>Nat.blt i e) a w:=by
 simp only[M4,Zb1] at hE;obtain⟨⟨⟨⟨⟨⟨hs,_⟩,hr0⟩,hr1⟩,hf1⟩,_⟩,_⟩:=hE;have hr0:Region.ready .any ops (Cp ops.size λi=>Nat.blt i e)=[e]:=by simpa using hr0
 have hAn:e<ops.size:=(Zh2.1 hA).1;have hBn:e+1<ops.size:=(Zh2.1 hB).1;have s1:(Cp ops.size λi=>Nat.blt i e).setIfInBounds e true=Cp ops.size λi=>Nat.ble i e:=Ic hAn λi hi=>by rw[Aav,Bu4,Qm];rw[<-Bool.decide_or];exact Zy1.2 (by omega)
 have s2:(Cp ops.size λi=>Nat.ble i e).setIfInBounds (e+1) true=Cp ops.size λi=>Nat.ble i (e+1):=Ic hBn λi hi=>by rw[Aav,Aav,Qm];rw[<-Bool.decide_or];exact Zy1.2 (by omega)
 have hsz:a.tmps.size=st.n:=hr.env.size;have hd:f.d<a.tmps.size:=by rw[hsz];exact f.lt
 refine wpAny_all hr0 (by simp) λi hi =>?_;simp only[List.mem_singleton] at hi;subst hi;refine A74 hA f.gd f.run ?_;rw[f.dst,s1];refine wpAny_take (v:=f.vp) hB hs hf1 hr1 (Aen (f:=λa=>a.put ob.dst f.vp)) (.inl ⟨Dd f.gd2 _,λw'=>f.run2 _ w' (G0 hd) (C2 f.nei)⟩) ?_;rw[s2,f.dst2];exact h
theorem Bx7{ops:Array Oper}{Q:Exit->Act->World->Prop}{e:Nat}{oa ob oc os:Oper}{st st2:St}{m:Mp}{a:Act}{as_:List Act}{w:World}(hA:ops[e]? = some oa)(hB:ops[e+1]? = some ob)(hC:ops[e+2]? = some oc)(hS:ops[e+3]? = some os)(hr:Rel cx m a as_ (fs st) w)(f:Fuse cx oa ob oc st st2 m a as_ w)(hE:M4 ops e false=true)
  {u:TypeId}{k β off:Nat}{vs:List Value}{t:TypeId}(hop:os.op = .store u (.tmp k) (.tmp f.d)) (gS:os.guard=none) (dS:os.dst=none) (hk1:k≠f.d) (hk2:k≠f.d2) (hx:a.eval (.tmp k) = .pointer (some ⟨β,off,none⟩)) (hF:Far cx os u f.g f.wA β off vs t)
  (hfin:wpList cx.P ops (Nrm Q) [os] ((a.put (some f.d) f.v7).put (some f.d2) f.vp) (Sx.setCells f.wA f.g f.off f.us)) (fuel:Nat):wpAny cx.P .any ops (Nrm Q) (fuel+4) (Cp ops.size λi=>Nat.blt i e) a w:=by
 refine Atq hA hB hr f hE (fuel+2) ?_;have hE0:=hE;simp only[M4,Zb1] at hE;obtain⟨⟨⟨⟨⟨⟨hs,_⟩,_⟩,_⟩,_⟩,hall⟩,⟨⟨hn,hr2⟩,hr3⟩,hr4⟩:=hE;have hn:ops.size=e+4:=Zl1 hn;have hsz:a.tmps.size=st.n:=hr.env.size;have hd:f.d<a.tmps.size:=by rw[hsz];exact f.lt
 have hd2:f.d2<(a.put (some f.d) f.v7).tmps.size:=by simp only[Act.put,Array.size_setIfInBounds,hsz];exact f.lt2
 have hne:∀{x b:Nat},x≠b->Ni (.tmp x) b=true:=λh=>by simp[Ni,Gg h]
 refine Azb (iC:=e+2) (iS:=e+3) (p1:=λi=>Nat.ble i (e+2)) (p2:=λi=>Nat.ble i (e+1)||Nat.beq i (e+3)) (p3:=λ_=>true) (v:=f.v7) hC hS (by omega) f.gd3 f.dst3 gS dS hop ?_ ?_ f.one hF f.row (λw' cs' h1 h2=>f.run3 _ w' cs' (G0 hd2) ((C2 f.ney2).trans (C2 f.ney)) h1 h2)
  (λi hi =>?_) (λi hi =>?_) (λi hi =>?_) (λ_ _=>rfl) hr2 (by simpa using hr3) (by simpa using hr4) (by simpa using hall) hfin fuel
 ·rw[C2 (hne hk2),C2 (hne hk1)];exact hx
 ·rw[C2 (hne f.ne)];exact G0 hd
 ·rw[Aav];exact Zy1.2 (by omega)
 ·rw[Aav];exact Zy1.2 (by omega)
 ·rw[Aav,Qm,<-Bool.decide_or];exact Zy1.2 (by omega)
theorem Bx2(hp:PxOk cx px){ops:Array Oper}{Q:Exit->Act->World->Prop}{e:Nat}{oa ob oc on of os:Oper}{st st2:St}{m:Mp}{a:Act}{as_:List Act}{w:World}(hA:ops[e]? = some oa)(hB:ops[e+1]? = some ob)(hC:ops[e+2]? = some oc)(hN:ops[e+3]? = some on)(hO:ops[e+4]? = some of)(hS:ops[e+5]? = some os)(hr:Rel cx m a as_ (fs st) w)(f:Fuse cx oa ob oc st st2 m a as_ w)(hE:M4 ops e true=true)
  {u s0:TypeId}{k dn df fi fo β off:Nat}{fu:Ty}{vs:List Value}{t:TypeId}(hopN:on.op = .nilCheck (.tmp k)) (hopF:of.op = .fieldAddr s0 (.tmp dn) fi) (hop:os.op = .store u (.tmp df) (.tmp f.d)) (gN:on.guard=none) (gF:of.guard=none) (gS:os.guard=none) (dN:on.dst=some dn) (dF:of.dst=some df) (dS:os.dst=none)
  (hk:dNe k [f.d,f.d2,dn,df]=true) (hdn:dNe dn [f.d,f.d2,df]=true) (hdf:dNe df [f.d,f.d2]=true) (hy1:Ni f.y dn=true) (hy2:Ni f.y df=true) (hdnn:dn<st.n) (hdfn:df<st.n) (hfo:Ap0 px s0 fi=some (fo,fu)) (hx:a.eval (.tmp k) = .pointer (some ⟨β,off,none⟩)) (hF:Far cx os u f.g f.wA β (off+fo) vs t)
  (hfin:wpList cx.P ops (Nrm Q) [on,of,os] ((a.put (some f.d) f.v7).put (some f.d2) f.vp) (Sx.setCells f.wA f.g f.off f.us)) (fuel:Nat):wpAny cx.P .any ops (Nrm Q) (fuel+6) (Cp ops.size λi=>Nat.blt i e) a w:=by
 refine Atq hA hB hr f hE (fuel+4) ?_;have hE0:=hE;simp only[M4,Zb1] at hE;obtain⟨⟨⟨⟨⟨⟨hs,_⟩,_⟩,_⟩,_⟩,hall⟩,⟨⟨⟨⟨⟨⟨hn,hr2⟩,hf2⟩,hr3⟩,hf3⟩,hr4⟩,hr5⟩,hr6⟩:=hE;have hn:ops.size=e+6:=Zl1 hn;have hsz:a.tmps.size=st.n:=hr.env.size;have hd:f.d<a.tmps.size:=by rw[hsz];exact f.lt
 have hd2:f.d2<(a.put (some f.d) f.v7).tmps.size:=by simp only[Act.put,Array.size_setIfInBounds,hsz];exact f.lt2
 have hne:∀{x b:Nat},x≠b->Ni (.tmp x) b=true:=λh=>by simp[Ni,Gg h]
 have hk:=Kf hk;have hdn:=Kf hdn;have hdf:=Kf hdf;have k1:k≠f.d:=hk _ (by simp);have k2:k≠f.d2:=hk _ (by simp);have n1:dn≠f.d:=hdn _ (by simp);have n2:dn≠f.d2:=hdn _ (by simp);have n3:dn≠df:=hdn _ (by simp);have m1:df≠f.d:=hdf _ (by simp);have m2:df≠f.d2:=hdf _ (by simp);have hx3:((a.put (some f.d) f.v7).put (some f.d2) f.vp).eval (.tmp k) = .pointer (some ⟨β,off,none⟩):=by rw[C2 (hne k2),C2 (hne k1)];exact hx
 have xN:∀w',(execOp ((a.put (some f.d) f.v7).put (some f.d2) f.vp).eval on).run cx.P w' = .ok (.value (.pointer (some ⟨β,off,none⟩))) w':=λw'=>by simp only[execOp,hopN,hx3,Sem.run_pure]
 have hdnl:dn<((a.put (some f.d) f.v7).put (some f.d2) f.vp).tmps.size:=by simp only[Act.put,Array.size_setIfInBounds,hsz];exact hdnn
 have hdfl:df<(((a.put (some f.d) f.v7).put (some f.d2) f.vp).put (some dn) (.pointer (some ⟨β,off,none⟩))).tmps.size:=by simp only[Act.put,Array.size_setIfInBounds,hsz];exact hdfn
 have hdef:(((a.put (some f.d) f.v7).put (some f.d2) f.vp).put (some dn) (.pointer (some ⟨β,off,none⟩))).defers=[]:=by simpa[Act.put] using hr.env.defers
 obtain⟨_,_,_,_,_,_,_,_,_,_,hfa⟩:=Nt hp hfo;have xF:∀w',(execOp (((a.put (some f.d) f.v7).put (some f.d2) f.vp).put (some dn) (.pointer (some ⟨β,off,none⟩))).eval of).run cx.P w' = .ok (.value (.pointer (some ⟨β,off+fo,none⟩))) w':=λw'=>by have h1:Sx.Env.ev (Avs (((a.put (some f.d) f.v7).put (some f.d2) f.vp).put (some dn) (.pointer (some ⟨β,off,none⟩)))) (.tmp dn)=some (.pointer (some ⟨β,off,none⟩)):=A4t (by simp[Act.put,show dn<a.tmps.size by rw[hsz];exact hdnn]);have hpure:=Sx.p_fa (P:=cx.P) (s:=s0) (f:=fi) (by simpa using hfa) h1;rw[<-hopF] at hpure;exact hpure _ _ w' of (Avr hdef) rfl
 have hfin3:=Ab4 gF (xF _) (by have:=Ab4 gN (xN _) hfin;rw[dN] at this;exact this)
 rw[dF] at hfin3;have hNn:e+3<ops.size:=by omega
 have hOn:e+4<ops.size:=by omega
 have s1:(Cp ops.size λi=>Nat.ble i (e+1)).setIfInBounds (e+3) true=Cp ops.size λi=>Nat.ble i (e+1)||Nat.beq i (e+3):=Ic hNn λi _=>rfl;have s2:(Cp ops.size λi=>Nat.ble i (e+1)||Nat.beq i (e+3)).setIfInBounds (e+4) true=Cp ops.size λi=>Nat.ble i (e+1)||Nat.beq i (e+3)||Nat.beq i (e+4):=Ic hOn λi _=>rfl;refine wpAny_take (v :=.pointer (some ⟨β,off,none⟩)) hN hs hf2 hr2 (Aen (f:=λa=>a.put on.dst _)) (.inl ⟨Dd gN _,xN⟩) ?_;rw[s1,dN];refine wpAny_take (v :=.pointer (some ⟨β,off+fo,none⟩)) hO hs hf3 hr3 (Aen (f:=λa=>a.put of.dst _)) (.inl ⟨Dd gF _,xF⟩) ?_;rw[s2,dF];refine Azb (iC:=e+2) (iS:=e+5) (p1:=λi=>Nat.ble i (e+4)) (p2:=λi=>Nat.ble i (e+1)||Nat.beq i (e+3)||Nat.beq i (e+4)||Nat.beq i (e+5)) (p3:=λ_=>true) (v:=f.v7) hC hS (by omega) f.gd3 f.dst3 gS dS hop (G0 hdfl) ?_ f.one hF f.row (λw' cs' h1 h2=>f.run3 _ w' cs' ?_ ?_ h1 h2)
  (λi hi =>?_) (λi hi =>?_) (λi hi =>?_) (λ_ _=>rfl) hr4 (by simpa using hr5) (by simpa using hr6) (by simpa using hall) hfin3 fuel
 ·rw[C2 (hne (Ne.symm m1)),C2 (hne (Ne.symm n1)),C2 (hne f.ne)];exact G0 hd
 ·rw[C2 (hne (Ne.symm m2)),C2 (hne (Ne.symm n2))];exact G0 hd2
 ·rw[C2 hy2,C2 hy1];exact(C2 f.ney2).trans (C2 f.ney)
 ·rw[Aav,Qm,Qm,<-Bool.decide_or,<-Bool.decide_or];exact Zy1.2 (by omega)
 ·rw[Aav];exact Zy1.2 (by omega)
 ·rw[Aav,Qm,Qm,Qm,<-Bool.decide_or,<-Bool.decide_or,<-Bool.decide_or];exact Zy1.2 (by omega)
end
theorem Og{ops:Array Oper}{j:Nat}{o:Oper}(h:ops[j]? = some o):ops.toList.drop j=o::ops.toList.drop (j+1):=by
 have h1:j<ops.toList.length:=by simpa using (Zh2.1 h).1
 rw[List.drop_eq_getElem_cons h1];congr 1;have h2:ops[j]? = some ops.toList[j]:=by simp
 rw[h] at h2;exact(Option.some.inj h2).symm
theorem Ahk{ops:Array Oper}{e:Nat}{q3:Bool}(h:Apa ops=some (e,q3)):Bbh ops e q3=true/\M4 ops e q3=true:=by
 unfold Apa at h;split at h
 ·rename_i hc;simp only[Za1,Zp1] at h;obtain⟨rfl,rfl⟩:=h;simp only[Bcy,Zb1] at hc;exact hc.2
 ·split at h
  ·rename_i hc;simp only[Za1,Zp1] at h;obtain⟨rfl,rfl⟩:=h;simp only[Bcy,Zb1] at hc;exact hc.2
  ·cases h
theorem A7y{ops:Array Oper}{e:Nat}{q3:Bool}(h:M4 ops e q3=true){j:Nat}{oj:Oper}(hj:e<=j)(ho:ops[j]? = some oj){q:Nat}(hq:q<e):F6 ops 12 oj q=true:=by
 simp only[M4,Zb1] at h;obtain⟨⟨⟨⟨⟨⟨_,h1⟩,_⟩,_⟩,_⟩,_⟩,_⟩:=h;have h2:=Zg2.1 h1 j (List.mem_range.2 (Zh2.1 ho).1);rw[ho] at h2;simp only[Zd2] at h2;rcases h2 with h2|h2
 ·rw[Nat.blt_eq] at h2;omega
 ·exact Zg2.1 h2 q (List.mem_range.2 hq)
theorem Alh{ops:Array Oper}{e:Nat}{q3:Bool}(h:M4 ops e q3=true):ops.size=e+(match q3 with|true=>6|false=>4):=by cases q3 with|true =>simp only[M4,Zb1] at h;obtain⟨_,⟨⟨⟨⟨⟨⟨hn,_⟩,_⟩,_⟩,_⟩,_⟩,_⟩,_⟩:=h;exact Zl1 hn|false =>simp only[M4,Zb1] at h;obtain⟨_,⟨⟨hn,_⟩,_⟩,_⟩:=h;exact Zl1 hn
theorem Zd(ops:Array Oper):Gw ops<=ops.size/\∀j oj,Gw ops<=j->ops[j]? = some oj->∀q,q<Gw ops->F6 ops 12 oj q=true:=by
 unfold Gw;split
 ·exact⟨Nat.zero_le _,λ_ _ _ _ q hq=>absurd hq (Zm1 _)⟩
 ·split
  ·rename_i p hp;obtain⟨e,q3⟩:=p;obtain⟨_,hE⟩:=Ahk hp;refine⟨by have:=Alh hE;show e<=_;omega,λj oj hj ho q hq=>A7y hE hj ho hq⟩
  ·exact⟨Ag1 _ _,λj oj hj ho q hq=>H1 _ j oj hj (Zh2.1 ho).1 ho q (Zx1 hq hj)⟩
section
variable {R:Type}{px:Px R}{cx:Cx}
theorem A16{ops:Array Oper}{n:Nat}(h:(ops.toList.all λo=>opB o&&Ap6 n o)=true)(e:Nat):((ops.toList.drop e).all λo=>opB o&&Ap6 n o)=true:=Zg2.2 λo ho=>Zg2.1 h o (List.mem_of_mem_drop ho)
theorem Bon{n e k fuel:Nat}{listed:Array Bool}(hn:n=e+k)(hl:∀i,i<n->listed.getD i true=decide (i<e))(hf:((List.range n).filter λj => !listed.getD j true).length<=fuel):k<=fuel:=by
 subst hn;refine Nat.le_trans ?_ hf;rw[List.range_eq_range',show List.range' 0 (e+k)=List.range' 0 e++List.range' (0+1*e) k from(List.range'_append (s:=0) (m:=e) (n:=k) (step:=1)).symm,List.filter_append,Zh1];have:((List.range' (0+1*e) k).filter λj => !listed.getD j true)=List.range' (0+1*e) k:=List.filter_eq_self.2 λj hj=>by rw[List.mem_range'_1] at hj;rw[hl j (by omega),Zd1 (by omega)];rfl
 rw[this,List.length_range'];omega
theorem Bdr{o:Oper}{st:St}{K:St->Option R}{r:R}{all:Array Oper}(hg:o.guard=none)(hd:o.dst=none)(h:ops px all [o] st K=some r):Afq px o st K=some r:=by simp only[ops,opG,hg,one,hd] at h;exact h
theorem Bj5{o:Oper}{x:Operand}{st:St}{b off:Nat}{K:D->St->Option R}(ho:o.op = .nilCheck x)(hx:ev px st 0 x=some (.ptr b off)):step px o st K=K (.ptr b off) st:=by unfold step;rw[ho];show Qq px o st (λd=>K d st)=_;unfold Qq;rw[ho];simp only[hx]
theorem Br3{o:Oper}{s f:Nat}{x:Operand}{st:St}{b off:Nat}{K:D->St->Option R}(ho:o.op = .fieldAddr s x f)(hx:ev px st 0 x=some (.ptr b off)):step px o st K=match Ap0 px s f with
  |some (fo,_)=>K (.ptr b (off+fo)) st
  |none=>none:=by
 unfold step;rw[ho];show Qq px o st (λd=>K d st)=_;unfold Qq;rw[ho];simp only[hx];cases Ap0 px s f<;>rfl
theorem Bl2(hp:PxOk cx px)(hc:Em cx px){all:Array Oper}(he:∀j oj,all[j]? = some oj->∀e∈oj.after,Region.binds .any e=true->e.on<j){st:St}{K:St->Option R}{r:R}(hb:(all.toList.all λo=>opB o&&Ap6 st.n o)=true)(hok:Avl px all st=true)(h:ops px all (all.toList.drop (Gw all)) st K=some r)
  {Q:Exit->Act->World->Prop}{m:Mp}{a:Act}{as_:List Act}{w:World}(hr:Rel cx m a as_ (fs st) w) (hQ:∀st' m' a' w',K st' = some r->(st'.n=st.n/\st'.fr=st.fr)->Rel cx m' a' as_ (fs st') w'->Q .normal a' w') :
  ∀(fuel:Nat) (listed:Array Bool),listed.size=all.size->(∀i,i<all.size->listed.getD i true=decide (i<Gw all))->((List.range all.size).filter λj => !listed.getD j true).length<=fuel->wpAny cx.P .any all Q fuel listed a w:=by
 intro fuel listed hs hl hfuel;have hN:=(Zd all).1;have line:(∀j oj,Gw all<=j->all[j]? = some oj->∀q,q<j->F6 all 12 oj q=true)->wpAny cx.P .any all Q fuel listed a w:=λht =>A3x he fuel (Gw all) listed a w hN ht hs hl hfuel (Ur hp hc (A16 hb _) h hr hQ)
 cases h0:Nat.beq (Fz all all.size) 0 with
 |true =>refine line λj oj _ ho q hq=>H1 all.size j oj (by rw[Zl1 h0];exact Nat.zero_le _) (Zh2.1 ho).1 ho q hq
 |false =>
  cases hF:Apa all with
  |none =>
   have hd:Gw all=Fz all all.size:=by simp only[Gw,h0,hF]
   exact line λj oj hj ho q hq=>H1 all.size j oj (by rw[<-hd];exact hj) (Zh2.1 ho).1 ho q hq
  |some p =>
   obtain⟨e,q3⟩:=p;obtain⟨hS,hE⟩:=Ahk hF;have hsz:=Alh hE;have hd:Gw all=e:=by simp only[Gw,h0,hF]
   rw[hd] at h hl;simp only[Avl,h0,hF] at hok;split at hok
   ·rename_i k oa ob oc hk hA hB hC;simp only[Zb1] at hok;obtain⟨hfs,hptr⟩:=hok;rw[Og hA,Og hB,Og hC] at h;simp only[ops] at h;cases h3:Am3 px oa ob oc st with
    |none=>rw[h3] at hfs;cases hfs
    |some p3 =>
     obtain⟨c,st2⟩:=p3;rw[h3] at h;obtain⟨hcc,hk2⟩:=Ba h;simp only at hcc hk2;subst hcc;obtain⟨f⟩:=A0h hp h3 hr;have hlist:listed=Cp all.size λi=>Nat.blt i e:=Bcx hs λi hi=>by rw[hl i hi,Bu4]
     have hblk:∃b off,get st.env k=some (.ptr b off)/\((∃ds,blk st.bl b=some (.cells ds))\/∃c y,blk st.bl b=some (.box c y)):=by
      split at hptr
      ·rename_i b off hb';refine⟨b,off,hb',?_⟩;split at hptr
       ·rename_i ds hds;exact .inl ⟨ds,hds⟩
       ·rename_i c y hcy;exact .inr ⟨c,y,hcy⟩
       ·cases hptr
      ·cases hptr
     obtain⟨b,off,hkb,hbb⟩:=hblk;have hbn:blk st.bl b≠none:=by rcases hbb with ⟨_,h⟩|⟨_,_,h⟩<;>rw[h]<;>simp
     obtain⟨vk,hvk,hrk⟩:=hr.env.get k _ hkb;simp only[Rep] at hrk;obtain⟨_,rfl⟩:=hrk;have hxk:a.eval (.tmp k) = .pointer (some ⟨m.bl b,off,none⟩):=by simp only[Act.eval,Array.getD_eq_getD_getElem?,hvk];rfl
     have hseq:=Ur hp hc (all:=all) (Q:=Nrm Q) (by rw[f.n.1];exact A16 hb _) hk2 f.rel (λst' m' a' w' k1 k2 k3=>⟨rfl,hQ st' m' a' w' k1 ⟨k2.1.trans f.n.1,k2.2.trans f.n.2⟩ k3⟩);have hfar:∀{o:Oper}{u:TypeId}{off':Nat},(Sx.tySz cx.P u=some 1/\∀(x:Vx) (β:Nat) k,blk st.bl b=some k->Lu x β k->∃(vs:List Value) (t:TypeId),x.w.heap[β]? = some (.cells vs.toArray t (0,0))/\off'<vs.length)->∃vs t,Far cx o u f.g f.wA (m.bl b) off' vs t:=λ{o u off'} hh=>by cases hK:blk st.bl b with|none=>exact absurd hK hbn|some kb =>obtain⟨_,hkr⟩:=hr.blks b kb hK;obtain⟨vs,t,q1,q2⟩:=hh.2 _ _ kb hK hkr;have hne:=f.far b hbn;exact⟨vs,t,hh.1,hne,by rw[f.rest _ (hr.own_b hbn) hne];exact q1,q2⟩
     refine Ae4 (Q:=Nrm Q) (λ_ _ _ hq=>hq.2) fuel listed a w ?_;rw[hlist];cases q3 with
     |false =>
      simp only[Bbh,hA,hB,hC,f.op2,f.op3,f.dst,f.dst2,f.dst3,Zb1] at hS;have hS:=hS.2;simp only at hsz;have hfu:∃n,fuel=n+4:=⟨fuel-4,by have:=Bon (k:=4) hsz hl hfuel;omega⟩;obtain⟨fu,rfl⟩:=hfu;cases hos:all[e+3]? with
      |none=>simp only[hos] at hS;cases hS
      |some os =>
       simp only[hos] at hS;split at hS
       ·rename_i u k' q hop dS;simp only[Zb1,Option.isNone_iff_eq_none] at hS;obtain⟨⟨gS,hq⟩,hne⟩:=hS;obtain rfl:=Zl1 hq;have hkk:k' = k:=by simp only[Bph,hos,hop,Za1] at hk;exact hk
        subst hkk;have hne:=Kf hne;have h1:k'≠f.d:=hne _ (by simp);have h2:k'≠f.d2:=hne _ (by simp);have hnil:all.toList.drop (e+3+1)=[]:=Zk1 (by simp;omega);rw[Og hos,hnil] at hk2 hseq;obtain⟨c7,xs7,t7,h7⟩:=f.env7;obtain⟨vs,t,hF⟩:=hfar (o:=os) (Bbx (st:=st2) hp hop ((f.envk k' h1 h2).trans hkb) h7 (by rw[f.bl];exact hbb) (Bdr gS dS hk2) |> λhh=>⟨hh.1,by have:=hh.2;rw[f.bl] at this;exact this⟩);exact Bx7 hA hB hC hos hr f hE hop gS dS h1 h2 hxk hF hseq fu
       ·cases hS
     |true =>
      simp only[Bbh,hA,hB,hC,f.op2,f.op3,f.dst,f.dst2,f.dst3,Zb1] at hS;have hS:=hS.2;simp only at hsz;have hfu:∃n,fuel=n+6:=⟨fuel-6,by have:=Bon (k:=6) hsz hl hfuel;omega⟩;obtain⟨fu,rfl⟩:=hfu;split at hS
      ·rename_i on of os hN' hO' hS';split at hS
       ·rename_i k' s0 f1 fi u p q dn df hopN hopF hopS dN dF dS;simp only[Zb1,Option.isNone_iff_eq_none] at hS;obtain⟨⟨⟨⟨⟨⟨⟨⟨⟨⟨gN,gF⟩,gS⟩,q1⟩,q2⟩,q3'⟩,n1⟩,n2⟩,n3⟩,n4⟩,n5⟩:=hS;obtain rfl:=Zl1 q1;obtain rfl:=Zl1 q2;obtain rfl:=Zl1 q3';have hkk:k' = k:=by simp only[Bph,hN',hopN,Za1] at hk;exact hk
        subst hkk;have e1:=Kf n1;have h1:k'≠f.d:=e1 _ (by simp);have h2:k'≠f.d2:=e1 _ (by simp);have e2:=Kf n2;have m1:f1≠f.d:=e2 _ (by simp);have m3:f1≠p:=e2 _ (by simp);have e3:=Kf n3;have l1:p≠f.d:=e3 _ (by simp);have hnil:all.toList.drop (e+5+1)=[]:=Zk1 (by simp;omega);rw[Og hN',Og hO',Og hS',hnil] at hk2 hseq;have hkb2:get st2.env k' = some (.ptr b off):=(f.envk k' h1 h2).trans hkb;have hf3:Am3 px on of os st2=none:=by simp only[Am3,hopN]
        simp only[ops,hf3] at hk2;simp only[opG,gN,one,dN] at hk2;split at hk2
        ·rename_i hb1;rw[Bj5 hopN (show ev px st2 0 (.tmp k')=some (.ptr b off) from hkb2)] at hk2;simp only[gF,dF] at hk2;split at hk2
         ·rename_i hb2;have hg1:get ((St.put st2 f1 (.ptr b off)).env) f1=some (.ptr b off):=by simp only[St.put,Cm,if_true]
          rw[Br3 hopF (show ev px (st2.put f1 (.ptr b off)) 0 (.tmp f1)=some (.ptr b off) from hg1)] at hk2;cases hfo:Ap0 px s0 fi with
          |none=>rw[hfo] at hk2;cases hk2
          |some pf =>
           obtain⟨fo,fu'⟩:=pf;rw[hfo] at hk2;simp only[gS,dS] at hk2;obtain⟨c7,xs7,t7,h7⟩:=f.env7;have hxS:ev px (((st2.put f1 (.ptr b off))).put p (.ptr b (off+fo))) 0 (.tmp p)=some (.ptr b (off+fo)):=by simp only[ev,St.put,Cm,if_true]
           have hyS:ev px (((st2.put f1 (.ptr b off))).put p (.ptr b (off+fo))) u (.tmp f.d)=some (.sl c7 xs7 t7):=by simp only[ev,St.put,Cm,if_neg (Ne.symm l1),if_neg (Ne.symm m1)];exact h7
           have hst:=Bbx (st:=(st2.put f1 (.ptr b off)).put p (.ptr b (off+fo))) hp hopS hxS hyS (by show(∃ds,blk st2.bl b=some (.cells ds))\/∃c y,blk st2.bl b=some (.box c y);rw[f.bl];exact hbb) hk2;obtain⟨vs,t,hF⟩:=hfar (o:=os) ⟨hst.1,by have:=hst.2;have e9:((st2.put f1 (.ptr b off)).put p (.ptr b (off+fo))).bl=st.bl:=f.bl;rw[e9] at this;exact this⟩
           have hb1:f1<st2.n:=by simpa[Nat.blt_eq] using hb1
           have hb2:p<st2.n:=by simpa[Nat.blt_eq,St.put] using hb2
           rw[f.n.1] at hb1 hb2;exact Bx2 hp hA hB hC hN' hO' hS' hr f hE hopN hopF hopS gN gF gS dN dF dS n1 n2 n3 n4 n5 hb1 hb2 hfo hxk hF hseq fu
         ·cases hk2
        ·cases hk2
       ·cases hS
      ·cases hS
   ·cases hok
end
def Gq(n:Nat):Code->Bool
 |.region _ os dr=>(os.toList.all λo=>opB o&&Ap6 n o)&&(!dr||Bat os)
 |.seq a b=>Gq n a&&Gq n b
 |.cond _ a b=>Gq n a&&Gq n b
 |.block _ b=>Gq n b
 |.loop b=>Gq n b
 |.scope b=>Gq n b
 |_=>true
def Avi:Ex->Exit
 |.normal =>.normal
 |.exit id =>.exit id
 |.ret =>.ret
section
variable {R:Type}{px:Px R}{cx:Cx}
def Cl(cx:Cx)(px:Px R)(b:Code):Prop:=∀(st:St) (K:Ex->St->Option R) (r:R),px.loop b st K=some r->∀(Q:Exit->Act->World->Prop) (m:Mp) (a:Act) (as_:List Act) (w:World),Gq st.n b=true->Rel cx m a as_ (fs st) w->(∀e st' m' a' w',K e st' = some r->(st'.n=st.n/\st'.fr=st.fr)->Rel cx m' a' as_ (fs st') w'->Q (Avi e) a' w')->(Code.loop b).wp cx.P Q a w
theorem A2w{ops:Array Oper}{s:Nat->FS}(hc:Kk ops s):∀t,t<=ops.size->(s t).fr=(s 0).fr
 |0,_=>rfl
 |t+1,ht=>by obtain⟨o,ho⟩:∃o,ops[t]? = some o:=⟨_,Zk2 (by omega)⟩;have:=congrArg FS.fr (hc t o ho);rw[this];exact A2w hc t (by omega)
theorem Aw2{ops:Array Oper}{s:Nat->FS}:∀t,Fd ops s (λ_=>false) t=s 0
 |0=>rfl
 |t+1=>by
  simp only[Fd];split
  ·simp[Aw2 t]
  ·exact Aw2 t
theorem Dn(hp:PxOk cx px)(hc:Em cx px)(hcq:CallQOk cx px)(hm:cx.P.follows .mixedOrders=true):∀(c:Code) (st:St) (K:Ex->St->Option R) (r:R),Gq st.n c=true->(∀b,b∈Bt c->Cl cx px b)->N3 px c st K=some r ->
  ∀(Q:Exit->Act->World->Prop) (m:Mp) (a:Act) (as_:List Act) (w:World),Rel cx m a as_ (fs st) w->(∀e st' m' a' w',K e st' = some r->(st'.n=st.n/\st'.fr=st.fr)->Rel cx m' a' as_ (fs st') w'->Q (Avi e) a' w')->c.wp cx.P Q a w
 |.skip,st,K,r,_,_,h,Q,m,a,as_,w,hr,hQ=>wp_skip (hQ .normal st m a w h ⟨rfl,rfl⟩ hr)
 |.label l,st,K,r,_,_,h,Q,m,a,as_,w,hr,hQ=>wp_label (hQ .normal st m a w h ⟨rfl,rfl⟩ hr)
 |.exit id,st,K,r,_,_,h,Q,m,a,as_,w,hr,hQ=>wp_exit (hQ (.exit id) st m a w h ⟨rfl,rfl⟩ hr)
 |.ret,st,K,r,_,_,h,Q,m,a,as_,w,hr,hQ=>wp_ret (hQ .ret st m a w h ⟨rfl,rfl⟩ hr)
 |.region id ⟨l⟩ dr,st,K,r,hb,_,h,Q,m,a,as_,w,hr,hQ=>by
  simp only[Gq,Zb1] at hb;simp only[N3] at h;cases dr with
  |false=>exact wp_region_lit (Ur hp hc hb.1 h hr (λst' m' a' w' h1 h2 h3=>hQ .normal st' m' a' w' h1 h2 h3))
  |true =>
   simp only at h;generalize hNe:Gw (Array.mk l)=N at h;have hN:N<=l.length:=by rw[<-hNe];exact(Zd _).1
   have htl:(l.take N).length=N:=by rw[List.length_take];omega
   obtain⟨st',h1,h2,h3⟩:=Ady hp hcq (Zg2.2 λo ho=>Zg2.1 hb.1 o (List.mem_of_mem_take ho)) h;cases hok:Avl px (Array.mk l) st' with
   |false=>rw[hok] at h1;cases h1
   |true =>
   rw[hok] at h1;simp only at h1;obtain⟨s0,e0,e1,e2⟩:=Ao8 h3;rw[htl] at e1;let s:Nat->FS:=λi=>if i<=N then s0 i else s0 N
   have hget:∀{i:Nat}{o:Oper},i<N->(Array.mk l)[i]? = some o->(l.take N)[i]? = some o:=λ{i o} hi ho=>by rw[List.getElem?_take_of_lt hi];simpa using ho
   have hch:Kk (Array.mk l) s:=λi o ho=>by
    by_cases hi:i<N
    ·have:=(e2 i o (hget hi ho)).1;simp only[s,if_pos (show i<=N by omega),if_pos (show i+1<=N by omega)];exact this
    ·have h4:s (i+1)=s0 N:=by simp only[s];rw[if_neg (by omega)]
     have h5:s i=s0 N:=by
      simp only[s];split
      ·rw[show i=N by omega]
      ·rfl
     rw[h4,h5,A67]
   have hsz:(Array.mk l).size=l.length:=rfl;refine wp_region_any hm (Avu (N:=N) (s:=s) (as_:=as_) hN hNe.symm (by simpa using hb.2) (λj oj h4 h5 q hq=>(Zd _).2 j oj (by rw[hNe];exact h4) h5 q (by rw[hNe];exact hq)) hch (λi o hi ho =>?_) (λi o ho =>?_) (λi j oi oj hi hj hiN hjN _ _ _ hord b hrd =>?_) (λm' a' w' hrel fuel listed hls hll hlf =>?_) _ _ _ _ (by simp) ?_ ?_ (λq _ hq=>by have h8:q<l.length:=hq;simp[hsz,h8]) ⟨m,?_⟩)
   ·simp only[s,if_pos (show i<=N by omega),if_pos (show i+1<=N by omega)];exact(e2 i o (hget hi ho)).2.2.2
   ·by_cases hi:i<N
    ·simp only[s,if_pos (show i<=N by omega),if_pos (show i+1<=N by omega)];exact(e2 i o (hget hi ho)).2.1
    ·have h4:s (i+1)=s0 N:=by simp only[s];rw[if_neg (by omega)]
     have h5:s i=s0 N:=by
      simp only[s];split
      ·rw[show i=N by omega]
      ·rfl
     rw[h4,h5];exact Zn1 _
   ·refine Bs7 hch (T:=N) hN hj hjN hiN ?_ hord hrd;have:=(e2 i oi (hget hiN hi)).2.2.1;rw[Nat.zero_add] at this;simp only[s,if_pos (show i<=N by omega),if_pos (show i+1<=N by omega)];exact this
   ·have hsN:s N=fs st':=by simp only[s,if_pos (Zn1 N)];exact e1
    rw[hsN] at hrel;have hfr:st'.fr=st.fr:=by
     have:=A2w hch N hN;have h6:s 0=fs st:=by simp only[s,if_pos (Nat.zero_le N)];exact e0
     rw[hsN,h6] at this;exact this
    refine Bl2 hp hc (λj oj hoj=>(F8 (by simpa using hb.2) hoj).1) (by rw[h2];exact hb.1) hok (by rw[hNe];exact h1) hrel (λst'' m'' a'' w'' k1 k2 k3=>hQ .normal st'' m'' a'' w'' k1 ⟨k2.1.trans h2,k2.2.trans hfr⟩ k3) fuel listed hls (by rw[hNe];exact hll) hlf
   ·intro j o ho hl;have hlt:j<l.length:=by have:=(Zh2.1 ho).1;exact this
    simp[hlt] at hl
   ·have:=List.length_filter_le (λj => !(Array.replicate (Array.mk l).size false).getD j true) (List.range (Array.mk l).size);simpa using this
   ·rw[Abs (T:=λ_=>false) _ hN (λj hj=>by
     have h7:j<l.length:=by omega
     simp[h7]),Aw2]
    have h6:s 0=fs st:=by simp only[s,if_pos (Nat.zero_le N)];exact e0
    rw[h6];exact hr.quiet (Chg.drawn _ _ _)
 |.seq x y,st,K,r,hb,hl,h,Q,m,a,as_,w,hr,hQ=>by simp only[Gq,Zb1] at hb;simp only[N3] at h;refine wp_seq (Dn hp hc hcq hm x st _ r hb.1 (λb hb=>hl b (by simp[Bt,hb])) h _ m a as_ w hr ?_);intro e st' m' a' w' hk hs hrel;cases e with|normal =>show y.wp cx.P Q a' w';exact Dn hp hc hcq hm y st' K r (by rw[hs.1];exact hb.2) (λb hb=>hl b (by simp[Bt,hb])) hk Q m' a' as_ w' hrel (λe2 st2 m2 a2 w2 k1 k2 k3=>hQ e2 st2 m2 a2 w2 k1 ⟨k2.1.trans hs.1,k2.2.trans hs.2⟩ k3)|exit id=>exact hQ (.exit id) st' m' a' w' hk hs hrel|ret=>exact hQ .ret st' m' a' w' hk hs hrel
 |.cond c x y,st,K,r,hb,hl,h,Q,m,a,as_,w,hr,hQ=>by
  simp only[Gq,Zb1] at hb;simp only[N3] at h;split at h
  ·rename_i q hq;rw[A4] at hq;obtain⟨v,_,hv,hrep⟩:=hr.env.ev (env:=get st.env) hq;obtain rfl:=Rep.bool hrep;refine wp_cond_split hv (λhqt =>?_) (λhqf =>?_)
   ·subst hqt;exact Dn hp hc hcq hm x st K r hb.1 (λb hb=>hl b (by simp[Bt,hb])) h Q m a as_ w hr hQ
   ·subst hqf;exact Dn hp hc hcq hm y st K r hb.2 (λb hb=>hl b (by simp[Bt,hb])) h Q m a as_ w hr hQ
  ·cases h
 |.block id b,st,K,r,hb,hl,h,Q,m,a,as_,w,hr,hQ=>by
  simp only[Gq] at hb;simp only[N3] at h;refine wp_block (Dn hp hc hcq hm b st _ r hb (λb' hb'=>hl b' (by simpa[Bt] using hb')) h _ m a as_ w hr ?_);intro e st' m' a' w' hk hs hrel;cases e with
  |normal=>exact hQ .normal st' m' a' w' hk hs hrel
  |ret=>exact hQ .ret st' m' a' w' hk hs hrel
  |exit i =>
   show Exit.inBlock id Q (.exit i) a' w';simp only at hk;split at hk
   ·rename_i hi;obtain rfl:=Zl1 hi;simp only[Exit.inBlock,if_true];exact hQ .normal st' m' a' w' hk hs hrel
   ·rename_i hi;have hne:i≠id:=Nat.ne_of_beq_eq_false hi;simp only[Exit.inBlock,if_neg hne];exact hQ (.exit i) st' m' a' w' hk hs hrel
 |.loop b,st,K,r,hb,hl,h,Q,m,a,as_,w,hr,hQ=>hl b (by simp[Bt]) st K r h Q m a as_ w hb hr hQ
 |.scope b,st,K,r,hb,hl,h,Q,m,a,as_,w,hr,hQ=>by simp only[Gq] at hb;simp only[N3] at h;refine wp_scope_straight (Dn hp hc hcq hm b st K r hb (λb' hb'=>hl b' (by simpa[Bt] using hb')) h _ m a as_ w hr ?_);intro e st' m' a' w' hk hs hrel;have:=hQ e st' m' a' w' hk hs hrel;cases e with|normal=>show Exit.noGoto Q .normal a' w';exact this|exit i=>show Exit.noGoto Q (.exit i) a' w';exact this|ret=>show Exit.noGoto Q .ret a' w';rw[Exit.noGoto_ret];exact this
 |.rangeFunc _ _ _ _,st,K,r,_,_,h,_,_,_,_,_,_,_=>by simp[N3] at h
 |.goto _,st,K,r,_,_,h,_,_,_,_,_,_,_=>by simp[N3] at h
 |.refuse _,st,K,r,_,_,h,_,_,_,_,_,_,_=>by simp[N3] at h
theorem Awi(hp:PxOk cx px)(hc:Em cx px)(hcq:CallQOk cx px)(hm:cx.P.follows .mixedOrders=true){b:Code}{k:Nat}{s:Sig}{step:Ap1 (HV s.sgs) R}(hs:Y8 s=true)(hround:∀fr rec kx v,Tp px s b fr rec kx v=step rec kx v)(hin:∀b',b'∈Bt b->Cl cx px b'){st:St}{K:Ex->St->Option R}{r:R}(h:Am k s step st K=some r){Q:Exit->Act->World->Prop}{m:Mp}{a:Act}{as_:List Act}{w:World}(hb:Gq st.n b=true)(hr:Rel cx m a as_ (fs st) w)(hQ:∀e st' m' a' w',K e st' = some r->(st'.n=st.n/\st'.fr=st.fr)->Rel cx m' a' as_ (fs st') w'->Q (Avi e) a' w'):(Code.loop b).wp cx.P Q a w:=by
 unfold Am at h;split at h
 ·rename_i v hv;have hn:st.n=s.n:=by
   unfold J0 at hv;split at hv
   ·rename_i hcnd;simp only[Zb1] at hcnd;exact Zl1 hcnd.1.1.1.2
   ·cases hv
  have key:∀(n:Nat) (v:HV s.sgs),Al (λrec=>step rec (λe v'=>K e (D7 s st.fr v'))) n v=some r->∀m a w,Rel cx m a as_ (fs (D7 s st.fr v)) w->Sx.LW cx.P b Q a w:=by
   intro n;induction n with
   |zero=>intro v hv;simp[Al] at hv
   |succ n ih =>
    intro v hv m a w hrel;simp only[Al] at hv;rw[<-hround st.fr] at hv;have henn:∀v,(D7 s st.fr v).n=s.n/\(D7 s st.fr v).fr=st.fr:=λv=>by unfold D7;split;exact⟨rfl,rfl⟩
    refine Sx.LW_round (Dn hp hc hcq hm b _ _ r (by rw[(henn v).1,<-hn];exact hb) hin hv _ m a as_ w hrel ?_);intro e st' m' a' w' hk hsame hrel';split at hk
    ·rename_i v' hv';obtain⟨m2,hrel2⟩:=hrel'.recode hs hv';have hfr:st'.fr=st.fr:=hsame.2.trans (henn v).2;rw[hfr] at hrel2;cases e with|normal=>exact ih v' hk m2 a' w' hrel2|exit id=>exact hQ (.exit id) _ m2 a' w' hk ⟨(henn v').1.trans hn.symm,(henn v').2⟩ hrel2|ret=>exact hQ .ret _ m2 a' w' hk ⟨(henn v').1.trans hn.symm,(henn v').2⟩ hrel2
    ·cases hk
  obtain⟨m0,hrel0⟩:=hr.recode hs hv;exact Sx.wp_of_LW (key k v h m0 a w hrel0)
 ·cases h
theorem Bs2(hp:PxOk cx px)(hc:Em cx px)(hcq:CallQOk cx px)(hm:cx.P.follows .mixedOrders=true){b:Code}{k:Nat}{s:Sig}{step:Ap1 (HV s.sgs) R}(hpx:∀st K,px.loop b st K=Am k s step st K)(hs:Y8 s=true)(hround:∀fr rec kx v,Tp px s b fr rec kx v=step rec kx v)(hin:∀b',b'∈Bt b->Cl cx px b'):Cl cx px b:=by intro st K r h Q m a as_ w hb hr hQ;rw[hpx] at h;exact Awi hp hc hcq hm hs hround hin h hb hr hQ
theorem A5y(hp:PxOk cx px)(hc:Em cx px)(hcq:CallQOk cx px)(hm:cx.P.follows .mixedOrders=true){px0:Px R}(hp0:PxOk cx px0)(hc0:Em cx px0)(hcq0:CallQOk cx px0)(hl0:∀b st K,px0.loop b st K=none){b:Code}{k:Nat}{s:Sig}{step:Ap1 (HV s.sgs) R}(hpx:∀st K,px.loop b st K=A5c px0 b k s step st K)(hs:Y8 s=true)(hround:∀fr rec kx v,Tp px s b fr rec kx v=step rec kx v)(hin:∀b',b'∈Bt b->Cl cx px b'):Cl cx px b:=by
 intro st K r h Q m a as_ w hb hr hQ;rw[hpx] at h;unfold A5c at h;split at h
 ·exact Awi hp hc hcq hm hs hround hin h hb hr hQ
 ·unfold Bxg at h;refine Sx.wp_of_LW (Sx.LW_round (Dn hp0 hc0 hcq0 hm b st _ r hb (λb' _ st K r h=>by rw[hl0] at h;cases h) h _ m a as_ w hr ?_));intro e st' m' a' w' hk hs hrel;cases e with|normal=>cases hk|exit id=>exact hQ (.exit id) st' m' a' w' hk hs hrel|ret=>exact hQ .ret st' m' a' w' hk hs hrel
def A2d(cx:Cx)(b:Code)(f:St->(Ex->St->Option R)->Option R):Prop:=∀(st:St) (K:Ex->St->Option R) (r:R),f st K=some r->∀(Q:Exit->Act->World->Prop) (m:Mp) (a:Act) (as_:List Act) (w:World),Gq st.n b=true->Rel cx m a as_ (fs st) w->(∀e st' m' a' w',K e st' = some r->(st'.n=st.n/\st'.fr=st.fr)->Rel cx m' a' as_ (fs st') w'->Q (Avi e) a' w')->(Code.loop b).wp cx.P Q a w
theorem S5(hp:PxOk cx px)(hc:Em cx px)(hcq:CallQOk cx px)(hm:cx.P.follows .mixedOrders=true){b:Code}{k:Nat}{s:Sig}{step:Ap1 (HV s.sgs) R}(hs:Y8 s=true)(hround:∀fr rec kx v,Tp px s b fr rec kx v=step rec kx v)(hin:∀b',b'∈Bt b->Cl cx px b'):A2d cx b (Am k s step):=by intro st K r h Q m a as_ w hb hr hQ;exact Awi hp hc hcq hm hs hround hin h hb hr hQ
def Ack(k:Nat)(s:Sig)(step:Ap1 (HV s.sgs) R)(alt:St->(Ex->St->Option R)->Option R)(st:St)(K:Ex->St->Option R):Option R:=match J0 s st with|some _=>Am k s step st K|none=>alt st K
theorem Aer{b:Code}{k:Nat}{s:Sig}{step:Ap1 (HV s.sgs) R}{alt:St->(Ex->St->Option R)->Option R}(h1:A2d cx b (Am k s step))(h2:A2d cx b alt):A2d cx b (Ack k s step alt):=by
 intro st K r h;unfold Ack at h;split at h
 ·exact h1 st K r h
 ·exact h2 st K r h
theorem Ba2{b:Code}{f:St->(Ex->St->Option R)->Option R}(hpx:∀st K,px.loop b st K=f st K)(h:A2d cx b f):Cl cx px b:=by intro st K r hk;rw[hpx] at hk;exact h st K r hk
end
def v0(el:Ck->TypeId)(M:Fp)(w:World):Vx:=⟨⟨λ_=>0,λ_=>none⟩,λ_=>False,M,w,0,0,el⟩
def vr(el:Ck->TypeId)(M:Fp)(m:Mp)(sr:List Sg)(w:World):Vx:=⟨m,λt=>t∈Bq 0 sr,λb i=>M b i\/∃p o,p∈Bq 0 sr/\m.tk p=some (b,o)/\o<=i,w,0,sr.length,el⟩
structure FnOk (P:Program) (el:Ck->TypeId) (gl:Nat->Option Gv) (f:FuncId) (sa sr:List Sg) (F:HV sa->Option (HV sr)):Prop where
 enters:Sx.Enters P f
 run:∀x r,F x=some r->∀(w:World) (M:Fp) (vs:List Value),(∀b i,M b i->b<w.heap.size)->GlR (v0 el M w) gl->Reps (v0 el M w) (Cc 0 sa x) vs ->
  Calls P f vs.toArray w λen w'=>∃v m,en = .returned v/\Chg D4 w w'/\(∀p g o,p∈Bq 0 sr->m.tk p=some (g,o)->w.heap.size<=g/\g<w'.heap.size)/\(∀p q g o o',p∈Bq 0 sr->q∈Bq 0 sr->m.tk p=some (g,o)->m.tk q=some (g,o')->p=q)/\Rep (vr el M m sr w') (Hi (Cc 0 sr r)) v
section
variable {R:Type}{px:Px R}{cx:Cx}
theorem Ib(hp:PxOk cx px){m:Mp}{a:Act}{as_:List Act}{st:St}{w:World}(hr:Rel cx m a as_ (fs st) w):∀{rs:List ResultVar}{ds:List D},results px st rs=some ds->∃vs,Sem.run cx.P (rs.mapM (Sx.rdv a.tmps)) w=Result.ok vs w/\Reps (vx cx m (fs st) w) ds vs
 |[],ds,h=>by simp only[results,Za1] at h;subst h;exact⟨[],by simp[go_sem],by simp[Reps]⟩
 |.tmp t::rs,ds,h=>by
  simp only[results] at h;split at h
  ·rename_i d ds' hd hds;simp only[Za1] at h;subst h;obtain⟨vs,h1,h2⟩:=Ib hp hr hds;obtain⟨v,hv,hrep⟩:=hr.env.get t d hd;refine⟨v::vs,?_,by simp only[Reps];exact⟨v,vs,rfl,hrep,h2⟩⟩;simp only[List.mapM_cons,Sx.rdv,Sem.run_bind,Sem.run_pure,Result.andThen_ok,Array.getD_eq_getD_getElem?,hv,Option.getD_some,h1]
  ·cases h
 |.cell q t::rs,ds,h=>by
  simp only[results] at h;split at h
  ·rename_i p hpq;split at h
   ·rename_i d ds' hk hd hds;simp only[Za1] at h;subst h;obtain⟨vs,h1,h2⟩:=Ib hp hr hds;obtain⟨pv,hpv,hrep⟩:=hr.env.get q p hpq;rw[Bbt] at hd;obtain⟨u,h4,h5⟩:=Ati (s:=fs st) hp hr hk hd hrep;obtain⟨ad,rfl⟩:∃ad,pv = .pointer (some ad):=by cases p<;>simp only[Agc] at hd<;>first|(cases hd;done)|(simp only[Rep] at hrep;first|exact⟨_,hrep⟩|exact⟨_,hrep.2⟩|exact⟨_,hrep.2.1⟩|(obtain⟨b,o,e,_⟩:=hrep;exact⟨_,e⟩))
    refine⟨u::vs,?_,by simp only[Reps];exact⟨u,vs,rfl,h5,h2⟩⟩;simp only[Instr.loadAt,Instr.sureAddr,Sem.run_bind,Sem.run_pure,Result.andThen_ok] at h4;simp only[List.mapM_cons,Sx.rdv,Sem.run_bind,Sem.run_pure,Result.andThen_ok,Array.getD_eq_getD_getElem?,hpv,Option.getD_some,asAddr,h4,h1]
   ·cases h
  ·cases h
theorem Nu{x:Vx}{ds:List D}{vs:List Value}(h:Reps x ds vs):Rep x (Hi ds) (Sx.resv vs):=by
 match ds,vs,h with
 |[],vs,h=>simp only[Reps] at h;subst h;simp only[Hi,Sx.resv,Rep];exact⟨[],rfl,by simp[Reps]⟩
 |[d],vs,h =>simp only[Reps] at h;obtain⟨u,us,rfl,h1,rfl⟩:=h;exact h1
 |d::e::ds,vs,h =>have hl:=h.len;match vs,hl with|u::w::us,_ =>simp only[Hi,Sx.resv,Rep];exact⟨_,rfl,h⟩
theorem Aol{x:Vx}{ds:List D}{v:Value}(h:Rep x (Hi ds) v):∃vs,v=Sx.resv vs/\Reps x ds vs:=by
 match ds,h with
 |[],h =>simp only[Hi,Rep] at h;obtain⟨vs,rfl,hr⟩:=h;simp only[Reps] at hr;subst hr;exact⟨[],rfl,by simp[Reps]⟩
 |[d],h=>exact⟨[v],rfl,by simp only[Reps];exact⟨v,[],rfl,h,rfl⟩⟩
 |d::e::ds,h =>simp only[Hi,Rep] at h;obtain⟨vs,rfl,hr⟩:=h;have hl:=hr.len;match vs,hl with|u::w::us,_=>exact⟨_,rfl,hr⟩
theorem Ed{b:Nat}:∀(l:List (Nat×Blk)) (c:Nat),blk (B1 l b) c=if c=b then none else blk l c
 |[],c=>by simp[B1,blk]
 |(q,v)::l,c=>by
  simp only[B1];by_cases hq:q=b
  ·subst hq;simp only[Nat.beq_refl];rw[Ed l c,A6];by_cases hc:c=q
   ·simp[hc]
   ·simp[hc]
  ·simp only[Gg hq];rw[A6,Ed l c,A6];by_cases hc:c=q
   ·subst hc;simp[hq]
   ·by_cases hcb:c=b
    ·subst hcb;simp[Ne.symm hq]
    ·simp[hc,hcb]
theorem Rel.drop{m:Mp}{a:Act}{as_:List Act}{st:St}{w:World}(hr:Rel cx m a as_ (fs st) w)(b:Nat):Rel cx m a as_ (fs { st with bl:=B1 st.bl b }) w/\Nx (vx cx m (fs st) w) (vx cx m (fs { st with bl:=B1 st.bl b }) w):=by
 have sub:∀c k,blk (B1 st.bl b) c=some k->blk st.bl c=some k:=λc k h=>by
  rw[Ed] at h;split at h
  ·cases h
  ·exact h
 have sub':∀c,blk (B1 st.bl b) c≠none->blk st.bl c≠none:=λc h=>by cases hk:blk (B1 st.bl b) c with|none=>exact absurd hk h|some k=>rw[sub c k hk];simp
 have fp:∀c i,Dk m (fs { st with bl:=B1 st.bl b }) c i->Dk m (fs st) c i:=by
  rintro c i (⟨q,hq,rfl⟩|h)
  ·exact .inl ⟨q,sub' q hq,rfl⟩
  ·exact .inr h
 have nx:Nx (vx cx m (fs st) w) (vx cx m (fs { st with bl:=B1 st.bl b }) w):=by
  refine⟨Chg.refl _ _,?_,rfl,λ_ _=>rfl,Zn1 _,Zn1 _,λt _ ha=>⟨ha,rfl,λ_ _ _=>rfl⟩⟩;rintro c i (h|h)
  ·exact .inl (.inl h)
  ·exact .inl (.inr (fp c i h))
 refine⟨⟨hr.chg,hr.env.later nx,hr.frs.later nx hr.lb hr.lt,hr.lb,hr.lt,λc k hk =>?_,hr.als,λc c' h1 h2=>hr.inj c c' (sub' c h1) (sub' c' h2),hr.injt,λc t g o h1=>hr.injbt c t g o (sub' c h1),λc i h=>hr.own c i (fp c i h),hr.away,hr.glb.later nx⟩,nx⟩;obtain⟨h1,h2⟩:=hr.blks c k (sub c k hk);exact⟨h1,h2.later nx rfl⟩
theorem Nx.trans{x y z:Vx}(h:Nx x y)(k:Nx y z):Nx x z :=
 ⟨h.chg.later h.fp k.chg,λb i hi=>by
  rcases k.fp b i hi with h1|h1
  ·exact h.fp b i h1
  ·exact .inr (Nat.le_trans h.chg.size h1),k.el.trans h.el,λb hb=>(k.bl b (Zx1 hb h.nb)).trans (h.bl b hb),Nat.le_trans h.nb k.nb,Nat.le_trans h.nt k.nt,λt ht ha=>by
  obtain⟨a1,a2,a3⟩:=k.tk t (Zx1 ht h.nt) ha;obtain⟨b1,b2,b3⟩:=h.tk t ht a1;exact⟨b1,a2.trans b2,λg o hg=>(a3 g o (b2.trans hg)).trans (b3 g o hg)⟩⟩
theorem Ayb{m:Mp}{a:Act}{as_:List Act}{st:St}{w:World}(hr:Rel cx m a as_ (fs st) w){d:D}{v:Value}(hd:Rep (vx cx m (fs st) w) d v){K:D->List (Nat×Blk)->Option R}{r:R}(h:Bfr st.bl d K=some r):∃d' bl',K d' bl' = some r/\Rel cx m a as_ (fs { st with bl:=bl' }) w/\Nx (vx cx m (fs st) w) (vx cx m (fs { st with bl:=bl' }) w)/\Rep (vx cx m (fs { st with bl:=bl' }) w) d' v/\(lf d=true->lf d' = true):=by
 unfold Bfr at h;split at h
 ·rename_i b c s n;split at h
  ·rename_i c' xs hb;split at h
   ·rename_i hc;simp only[Zg1] at hc;subst hc;obtain⟨hc,hk⟩:=Ba h;simp only[Zb1,Zg1] at hc;obtain⟨⟨hs,hn⟩,hsn⟩:=hc;obtain⟨hrel,nx⟩:=hr.drop b;refine⟨_,_,hk,hrel,nx,?_⟩;simp only[Rep] at hd ⊢;obtain⟨g1,_,_,_,ad,cap,rfl,g5,g6,g7,_⟩:=hd;refine⟨⟨?_,trivial⟩,λ_=>rfl⟩;have hlen:n.toNat=(cut xs s (s+n)).length:=by simp only[cut,List.length_take,Za2];omega
    refine Mi hlen ?_;by_cases hn0:n=0
    ·left;exact List.eq_nil_of_length_eq_zero (by omega)
    ·right;obtain⟨_,hml,vs,ty,hh,hvl,hreps⟩:=hr.blks b _ hb;refine⟨m.bl b,s.toNat*csz c,g5.resolve_left hn0,by omega,λi y hy w' hw j d hd =>?_⟩;have hy':xs[s.toNat+i]? = some y:=by
      simp only[cut] at hy;rw[List.getElem?_take] at hy;split at hy
      ·rwa[List.getElem?_drop] at hy
      ·cases hy
     obtain⟨u,hu,hf⟩:=hreps _ y j d hy' hd;refine⟨u,?_,(nx.rf hf) w' hw⟩;have hcell:w.cell? ⟨m.bl b,s.toNat*csz c+i*csz c+j,none⟩=some u:=by have hh:w.heap[m.bl b]? = some (.cells vs.toArray ty (0,0)):=hh;simp only[World.cell?,hh];rw[<-Nat.add_mul];simpa using hu
     refine hw.cell _ _ _ hcell ?_;have hbn:(fs st).bl b≠none:=by rw[show(fs st).bl b=some _ from hb];simp
     rintro(hM|hf')
     ·exact hr.disj hM (.inl ⟨b,hbn,rfl⟩:Dk m (fs st) (m.bl b) 0)
     ·rcases hf' with ⟨q,hq,he⟩|⟨t,o,h1,h2,_⟩
      ·have hq:blk (B1 st.bl b) q≠none:=hq;rw[Ed] at hq;split at hq
       ·exact hq rfl
       ·rename_i hqb;exact hqb (hr.inj q b hq hbn he)
      ·exact hr.injbt b t _ o hbn h1 h2 rfl
   ·cases h
  ·cases h
 ·exact⟨d,st.bl,h,hr,⟨Chg.refl _ _,λ_ _ h =>.inl h,rfl,λ_ _=>rfl,Zn1 _,Zn1 _,λt _ ha=>⟨ha,rfl,λ_ _ _=>rfl⟩⟩,hd,id⟩
theorem Bbm{m:Mp}{a:Act}{as_:List Act}{w:World}{r:R}:∀{ds:List D}{st:St}{vs:List Value}{K:List D->List (Nat×Blk)->Option R},Rel cx m a as_ (fs st) w->Reps (vx cx m (fs st) w) ds vs->Bsq st.bl ds K=some r->∃ds' bl',K ds' bl' = some r/\Rel cx m a as_ (fs { st with bl:=bl' }) w/\Nx (vx cx m (fs st) w) (vx cx m (fs { st with bl:=bl' }) w)/\Reps (vx cx m (fs { st with bl:=bl' }) w) ds' vs/\(ds.all lf=true->ds'.all lf=true)
 |[],st,vs,K,hr,hd,h=>⟨[],st.bl,h,hr,⟨Chg.refl _ _,λ_ _ h =>.inl h,rfl,λ_ _=>rfl,Zn1 _,Zn1 _,λt _ ha=>⟨ha,rfl,λ_ _ _=>rfl⟩⟩,by simpa[Reps] using hd,id⟩
 |d::ds,st,vs,K,hr,hd,h=>by simp only[Reps] at hd;obtain⟨u,us,rfl,h1,h2⟩:=hd;simp only[Bsq] at h;obtain⟨d',bl1,hk,hr1,nx1,hd1,hl1⟩:=Ayb hr h1 h;obtain⟨ds',bl2,hk2,hr2,nx2,hds,hl2⟩:=Bbm (st:={ st with bl:=bl1 }) hr1 (Reps.later nx1 _ _ h2) hk;refine⟨d'::ds',bl2,hk2,hr2,nx1.trans nx2,by simp only[Reps];exact⟨u,us,rfl,Rep.later nx2 _ _ hd1,hds⟩,λh =>?_⟩;simp only[Zv1,Zb1] at h ⊢;exact⟨hl1 h.1,hl2 h.2⟩
theorem Bcg{m:Mp}{a:Act}{as_:List Act}{st:St}{w:World}(hr:Rel cx m a as_ (fs st) w){d:D}{v:Value}(hd:Rep (vx cx m (fs st) w) d v){K:D->List (Nat×Blk)->Option R}{r:R}(h:Bi4 st.bl d K=some r):∃d' bl',K d' bl' = some r/\Rel cx m a as_ (fs { st with bl:=bl' }) w/\Nx (vx cx m (fs st) w) (vx cx m (fs { st with bl:=bl' }) w)/\Rep (vx cx m (fs { st with bl:=bl' }) w) d' v:=by
 unfold Bi4 at h;split at h
 ·rename_i ds;simp only[Rep] at hd;obtain⟨hl,vs,rfl,hreps⟩:=hd;obtain⟨ds',bl',hk,hrel,nx,hds,hl'⟩:=Bbm hr hreps h;exact⟨_,bl',hk,hrel,nx,by simp only[Rep];exact⟨hl' hl,vs,rfl,hds⟩⟩
 ·obtain⟨d',bl',hk,hrel,nx,hds,_⟩:=Ayb hr hd h;exact⟨d',bl',hk,hrel,nx,hds⟩
theorem Bc6{m:Mp}{a:Act}{as_:List Act}{w:World}{r:R}:∀{ds:List D}{st:St}{vs:List Value}{K:List D->List (Nat×Blk)->Option R},Rel cx m a as_ (fs st) w->Reps (vx cx m (fs st) w) ds vs->Bq7 st.bl ds K=some r->∃ds' bl',K ds' bl' = some r/\Rel cx m a as_ (fs { st with bl:=bl' }) w/\Nx (vx cx m (fs st) w) (vx cx m (fs { st with bl:=bl' }) w)/\Reps (vx cx m (fs { st with bl:=bl' }) w) ds' vs
 |[],st,vs,K,hr,hd,h=>⟨[],st.bl,h,hr,⟨Chg.refl _ _,λ_ _ h =>.inl h,rfl,λ_ _=>rfl,Zn1 _,Zn1 _,λt _ ha=>⟨ha,rfl,λ_ _ _=>rfl⟩⟩,by simpa[Reps] using hd⟩
 |d::ds,st,vs,K,hr,hd,h=>by simp only[Reps] at hd;obtain⟨u,us,rfl,h1,h2⟩:=hd;simp only[Bq7] at h;obtain⟨d',bl1,hk,hr1,nx1,hd1⟩:=Bcg hr h1 h;obtain⟨ds',bl2,hk2,hr2,nx2,hds⟩:=Bc6 (st:={ st with bl:=bl1 }) hr1 (Reps.later nx1 _ _ h2) hk;exact⟨d'::ds',bl2,hk2,hr2,nx1.trans nx2,by simp only[Reps];exact⟨u,us,rfl,Rep.later nx2 _ _ hd1,hds⟩⟩
theorem Rel.give{m:Mp}{a:Act}{as_:List Act}{st:St}{w:World}(hr:Rel cx m a as_ (fs st) w){b:Nat}(hb:(fs st).bl b≠none)(o:Nat):∃m',Rel cx m' a as_ (fs (Gr { st with bl:=B1 st.bl b })) w/\Nx (vx cx m (fs st) w) (vx cx m' (fs (Gr { st with bl:=B1 st.bl b })) w)/\m'.bl=m.bl/\m'.tk st.nt=some (m.bl b,o)/\∀i,i<o->¬(vx cx m' (fs (Gr { st with bl:=B1 st.bl b })) w).S (m.bl b) i:=by
 let m':Mp:={ m with tk:=λt=>if t=st.nt then some (m.bl b,o) else m.tk t };let s':FS:=fs (Gr { st with bl:=B1 st.bl b });have hsub:∀c,s'.bl c≠none->(fs st).bl c≠none/\c≠b:=λc h=>by
  have h:blk (B1 st.bl b) c≠none:=h;rw[Ed] at h;by_cases hc:c=b
  ·rw[if_pos hc] at h;exact absurd rfl h
  ·rw[if_neg hc] at h;exact⟨h,hc⟩
 have hal:∀t,s'.al t->(t=st.nt/\m'.tk t=some (m.bl b,o))\/((fs st).al t/\t<st.nt/\m'.tk t=m.tk t):=λt ht=>by
  have ht:t∈st.nt::st.tk:=ht;rcases List.mem_cons.1 ht with rfl|ht
  ·exact .inl ⟨rfl,by simp[m']⟩
  ·have hlt:t<st.nt:=hr.als t ht;exact .inr ⟨ht,hlt,by simp[m',Nat.ne_of_lt hlt]⟩
 have fp:∀c i,Dk m' s' c i->Dk m (fs st) c i/\(c=m.bl b->o<=i):=by
  rintro c i (⟨q,hq,rfl⟩|⟨t,p,h1,h2,h3⟩)
  ·obtain⟨g1,g2⟩:=hsub q hq;exact⟨.inl ⟨q,g1,rfl⟩,λe=>absurd (hr.inj q b g1 hb e) g2⟩
  ·rcases hal t h1 with ⟨rfl,e⟩|⟨g1,_,e⟩
   ·rw[e] at h2;simp only[Za1,Zp1] at h2;obtain⟨rfl,rfl⟩:=h2;exact⟨.inl ⟨b,hb,rfl⟩,λ_=>h3⟩
   ·rw[e] at h2;refine⟨.inr ⟨t,p,g1,h2,h3⟩,λe2 =>?_⟩;subst e2;exact absurd rfl (hr.injbt b t _ p hb g1 h2)
 have nx:Nx (vx cx m (fs st) w) (vx cx m' s' w):=by
  refine⟨Chg.refl _ _,?_,rfl,λ_ _=>rfl,Zn1 _,Nat.le_succ _,λt ht ha =>?_⟩
  ·rintro c i (h|h)
   ·exact .inl (.inl h)
   ·exact .inl (.inr (fp c i h).1)
  ·have ht:t<st.nt:=ht;rcases hal t ha with ⟨e,_⟩|⟨g1,_,e⟩
   ·omega
   ·exact⟨g1,e,λ_ _ _=>rfl⟩
 refine⟨m',⟨hr.chg,hr.env.later nx,hr.frs.later nx hr.lb hr.lt,hr.lb,Nat.le_succ_of_le hr.lt,λc k hk =>?_,λt ht =>?_,λc c' h1 h2=>hr.inj c c' (hsub c h1).1 (hsub c' h2).1,λt t' g p p' h1 h2 h3 h4 =>?_,λc t g p h1 h2 h3 =>?_,λc i h=>hr.own c i (fp c i h).1,hr.away,hr.glb.later nx⟩,nx,rfl,by simp[m'],λi hi h =>?_⟩
 ·have hk2:(fs st).bl c=some k:=by
   have hk:blk (B1 st.bl b) c=some k:=hk;rw[Ed] at hk;split at hk
   ·cases hk
   ·exact hk
  obtain⟨h1,h2⟩:=hr.blks c k hk2;exact⟨h1,h2.later nx rfl⟩
 ·rcases hal t ht with ⟨rfl,_⟩|⟨_,h,_⟩
  ·exact Nat.lt_succ_self _
  ·exact Nat.lt_succ_of_lt h
 ·rcases hal t h1 with ⟨e1,k1⟩|⟨q1,_,k1⟩<;>rcases hal t' h2 with ⟨e2,k2⟩|⟨q2,_,k2⟩
  ·rw[e1,e2]
  ·rw[k1] at h3;rw[k2] at h4
   simp only[Za1,Zp1] at h3;exact absurd h3.1 (hr.injbt b t' g p' hb q2 h4)
  ·rw[k1] at h3;rw[k2] at h4
   simp only[Za1,Zp1] at h4;exact absurd h4.1 (hr.injbt b t g p hb q1 h3)
  ·rw[k1] at h3;rw[k2] at h4
   exact hr.injt t t' g p p' q1 q2 h3 h4
 ·obtain⟨g1,g2⟩:=hsub c h1;rcases hal t h2 with ⟨_,e⟩|⟨q1,_,e⟩
  ·rw[e] at h3;simp only[Za1,Zp1] at h3;exactλe2=>g2 (hr.inj c b g1 hb (e2.trans h3.1.symm))
  ·rw[e] at h3;exact hr.injbt c t g p g1 q1 h3
 ·rcases h with h|h
  ·exact hr.disj h (.inl ⟨b,hb,rfl⟩:Dk m (fs st) (m.bl b) 0)
  ·have:=(fp _ i h).2 rfl;omega
theorem Ahw{a:Act}{as_:List Act}{w:World}{r:R}:∀{sr:List Sg}{m:Mp}{ds:List D}{st:St}{vs:List Value}{K:List D->St->Option R},Rel cx m a as_ (fs st) w->Reps (vx cx m (fs st) w) ds vs->Aob sr st ds K=some r->∃ds' st' m',K ds' st' = some r/\Rel cx m' a as_ (fs st') w/\Nx (vx cx m (fs st) w) (vx cx m' (fs st') w)/\Reps (vx cx m' (fs st') w) ds' vs
 |[],m,[],st,vs,K,hr,hd,h=>⟨[],st,m,h,hr,⟨Chg.refl _ _,λ_ _ h =>.inl h,rfl,λ_ _=>rfl,Zn1 _,Zn1 _,λt _ ha=>⟨ha,rfl,λ_ _ _=>rfl⟩⟩,hd⟩
 |[],m,_::_,st,vs,K,hr,hd,h=>by simp[Aob] at h
 |_::_,m,[],st,vs,K,hr,hd,h=>by simp[Aob] at h
 |s0::sr,m,d::ds,st,vs,K,hr,hd,h=>by
  simp only[Reps] at hd;obtain⟨u,us,rfl,h1,h2⟩:=hd;have plain:(Bi4 st.bl d λd' bl'=>Aob sr { st with bl:=bl' } ds λds' st'=>K (d'::ds') st')=some r->∃ds' st' m',K ds' st' = some r/\Rel cx m' a as_ (fs st') w/\Nx (vx cx m (fs st) w) (vx cx m' (fs st') w)/\Reps (vx cx m' (fs st') w) ds' (u::us):=λh=>by obtain⟨d',bl1,hk,hr1,nx1,hd1⟩:=Bcg hr h1 h;obtain⟨ds',st2,m2,hk2,hr2,nx2,hds⟩:=Ahw (st:={ st with bl:=bl1 }) hr1 (Reps.later nx1 _ _ h2) hk;exact⟨d'::ds',st2,m2,hk2,hr2,nx1.trans nx2,by simp only[Reps];exact⟨u,us,rfl,Rep.later nx2 _ _ hd1,hds⟩⟩
  by_cases hcase:∃c0 b c s n,s0 = .sl c0 true/\d = .osl b c s n
  ·obtain⟨c0,b,c,s,n,rfl,rfl⟩:=hcase;simp only[Aob] at h;split at h
   ·rename_i c' xs hb;split at h
    ·rename_i hc;simp only[Zg1] at hc;subst hc;obtain⟨hc,hk⟩:=Ba h;simp only[Zb1,Zg1] at hc;obtain⟨⟨hs0,hn⟩,hnx⟩:=hc;subst hs0;have hbn:(fs st).bl b≠none:=by rw[show(fs st).bl b=some _ from hb];simp
     simp only[Rep] at h1;obtain⟨g1,_,_,_,ad,cap,rfl,g5,g6,g7,cur,fz,g8,g9⟩:=h1;obtain rfl:=g5.resolve_left (by omega);obtain⟨_,hml,vs,ty,hh,hvl,hreps⟩:=hr.blks b _ hb;have hh:w.heap[m.bl b]? = some (.cells vs.toArray ty (0,0)):=hh;have g8:w.heap[m.bl b]? = some (.cells cur (cx.el c) (0,0)):=by have g8:w.heap[m.bl b]? = some (.cells cur (cx.el c) fz):=g8;rw[hh] at g8;simp only[Za1,Obj.cells.injEq] at g8;rw[hh,g8.1,g8.2.1]
     obtain⟨m1,hr1,nx1,eb,et,hS⟩:=hr.give hbn (n.toNat*csz c);obtain⟨ds',st2,m2,hk2,hr2,nx2,hds⟩:=Ahw hr1 (Reps.later nx1 _ _ h2) hk;refine⟨_::ds',st2,m2,hk2,hr2,nx1.trans nx2,?_⟩;simp only[Reps];refine⟨_,us,rfl,Rep.later nx2 _ _ ?_,hds⟩;simp only[Rep];have hlen:n.toNat=(xs.take n.toNat).length:=by simp only[List.length_take];omega
     refine⟨Mi hlen (.inr ⟨m.bl b,0,by simp[vx],by omega,λi y hy w' hw j d hd =>?_⟩),Nat.lt_succ_self _,λ_ =>.inr ⟨m.bl b,cap,cur,by rw[<-hlen];simp[vx],by rw[<-hlen];exact et,g8,by rw[g9];simp,by omega,g7⟩⟩;have hin:i<n.toNat:=by have:=(Zi2.1 hy).1;omega
     have hj:j<csz c:=by rw[<-B4 c y];exact(Zi2.1 hd).1
     have hy':xs[i]? = some y:=by rw[List.getElem?_take,if_pos hin] at hy;exact hy
     obtain⟨u,hu,hf⟩:=hreps i y j d hy' hd;refine⟨u,?_,(nx1.rf hf) w' hw⟩;have hcell:w.cell? ⟨m.bl b,0+i*csz c+j,none⟩=some u:=by simp only[World.cell?,hh,Nat.zero_add];simpa using hu
     refine hw.cell _ _ _ hcell (hS _ ?_);have:(i+1)*csz c<=n.toNat*csz c:=Nat.mul_le_mul_right _ hin;rw[Nat.succ_mul] at this;omega
    ·cases h
   ·cases h
  ·have e:Aob (s0::sr) st (d::ds) K=(Bi4 st.bl d λd' bl'=>Aob sr { st with bl:=bl' } ds λds' st'=>K (d'::ds') st'):=by
    cases s0 with
    |sl c0 own=>cases own with
     |true=>cases d<;>first|rfl|exact absurd ⟨_,_,_,_,_,rfl,rfl⟩ hcase
     |false=>rfl
    |_=>rfl
   exact plain (e▸h)
theorem Bq1{P:Program}{el:Ck->TypeId}{gl:Nat->Option Gv}{sa:List Sg}(hsa:Bq 0 sa=[]){x:HV sa}{n:Nat}(hn:sa.length<=n){w:World}{M:Fp}{vs:List Value}(hM:∀b i,M b i->b<w.heap.size)(hgl:GlR (v0 el M w) gl)(hr:Reps (v0 el M w) (Cc 0 sa x) vs) :
  Rel ⟨P,w,D4,M,el,gl⟩ ⟨λ_=>0,λ_=>none⟩ { tmps:=vs.toArray++Array.replicate (n-vs.toArray.size) undef,defers:=[] } [] (fs (st0 n sa x)) w:=by
 have hfp:∀b i,Dk ⟨λ_=>0,λ_=>none⟩ (fs (st0 n sa x)) b i->False:=by
  rintro b i (⟨k,hk,_⟩|⟨t,o,_,h2,_⟩)
  ·exact hk rfl
  ·cases h2
 have hlen:vs.length=sa.length:=by rw[hr.len,A0w]
 have nx:Nx (v0 el M w) (vx ⟨P,w,D4,M,el,gl⟩ ⟨λ_=>0,λ_=>none⟩ (fs (st0 n sa x)) w):=⟨Chg.refl _ _,λb i hi=>hi.elim .inl (λh=>(hfp b i h).elim),rfl,λb hb=>(Zm1 _ hb).elim,Nat.zero_le _,Nat.zero_le _,λt ht=>(Zm1 _ ht).elim⟩;have hreps:=Reps.later nx _ _ hr;have hget:∀(ds:List D) (us:List Value) (i k:Nat) (d:D),Reps (vx ⟨P,w,D4,M,el,gl⟩ ⟨λ_=>0,λ_=>none⟩ (fs (st0 n sa x)) w) ds us->get (B6 i ds) k=some d->∃v,i<=k/\us[k-i]? = some v/\Rep (vx ⟨P,w,D4,M,el,gl⟩ ⟨λ_=>0,λ_=>none⟩ (fs (st0 n sa x)) w) d v:=by
  intro ds;induction ds with
  |nil=>intro us i k d _ h;simp[B6,get] at h
  |cons e ds ih =>
   intro us i k d hr h;simp only[Reps] at hr;obtain⟨u,us,rfl,h1,h2⟩:=hr;simp only[B6] at h;rw[Cm] at h;by_cases hk:k=i
   ·subst hk;simp at h;subst h;exact⟨u,Zn1 _,by simp,h1⟩
   ·rw[if_neg hk] at h;obtain⟨v,h3,h4,h5⟩:=ih us (i+1) k d h2 h;refine⟨v,by omega,?_,h5⟩;rw[show k-i=(k-(i+1))+1 by omega];simpa using h4
 refine⟨Chg.refl _ _,⟨rfl,?_,λk d hk =>?_⟩,rfl,Nat.zero_le _,Nat.zero_le _,λb k hk =>?_,λt ht =>?_,λb b' h=>(h rfl).elim,λt t' g o o' _ _ h=>(by cases h),λb t g o h=>(h rfl).elim,λb i hi=>(hfp b i hi).elim,λb i j hm=>⟨hM b i hm,id⟩,?_⟩
 ·show _=n;simp;omega
 ·obtain⟨v,_,h2,h3⟩:=hget _ _ 0 k d hreps hk;rw[Nat.sub_zero] at h2;refine⟨v,?_,h3⟩;have hlt:k<vs.length:=(Zi2.1 h2).1;simp only[Array.getElem?_append,List.size_toArray,hlt,if_true];simpa using h2
 ·cases hk
 ·have:t∈Bq 0 sa:=ht;rw[hsa] at this;cases this
 ·exact hgl.later nx
theorem Bul{P:Program}{el:Ck->TypeId}{gl:Nat->Option Gv}{f:FuncId}{fn:Func}{c:Code}{sa sr:List Sg}{px:Px (HV sr)}{F:HV sa->Option (HV sr)}(hf:P.funcs[f]? = some fn)(hb:fn.body=some c)(hname:(fn.name == "runtime.NumGoroutine")=false)(hm:P.follows .mixedOrders=true)(hchk:(Gq fn.ntmps c&&Nat.ble sa.length fn.ntmps&&Ew (Bq 0 sa) [])=true)
  (hpx:∀cx:Cx,cx.P=P->cx.el=el->cx.gl=gl->PxOk cx px/\Em cx px/\CallQOk cx px/\∀b,b∈Bt c->Cl cx px b) (hF:∀x,Bp3 px fn sa sr x some=F x):FnOk P el gl f sa sr F:=by
 refine⟨Sx.enters_of hf (by rw[hb];rfl) hname,λx r hx w M vs hM hgl hr =>?_⟩;simp only[Zb1] at hchk;have hsa:=Je hchk.2;have hn:sa.length<=fn.ntmps:=by simpa using hchk.1.2
 have hrel:=Bq1 (P:=P) hsa hn hM hgl hr;rw[<-hF] at hx;unfold Bp3 at hx;rw[hb] at hx;simp only at hx;obtain⟨h1,h2,h3,h4⟩:=hpx ⟨P,w,D4,M,el,gl⟩ rfl rfl rfl;refine calls_of_wp hf hb (Dn h1 h2 h3 hm c _ _ r hchk.1.1 h4 hx _ _ _ [] w hrel ?_);intro e st' m' a' w' hk _ hrel';cases e
 case exit=>cases hk
 all_goals
  simp only at hk;split at hk
  ·rename_i rs0 hrs;obtain⟨us,hrun,hreps0⟩:=Ib h1 hrel' hrs;have hdef:=hrel'.env.defers;obtain⟨rs,st2,m2,hk,hrel1,_,hreps⟩:=Ahw hrel' hreps0 hk;clear hreps0 hrel';split at hk
   ·rename_i r' hr';simp only[Za1] at hk;subst hk;obtain⟨as1,as2⟩:=Aci 0 hr';let mc:Mp:=⟨λ_=>0,λp=>(asg 0 sr rs p).bind m2.tk⟩;have horig:∀p g o,mc.tk p=some (g,o)->∃t,asg 0 sr rs p=some t/\t∈st2.tk/\m2.tk t=some (g,o):=λp g o hg=>by cases ha:asg 0 sr rs p with|none=>simp only[mc,ha] at hg;cases hg|some t=>simp only[mc,ha,Zc1] at hg;exact⟨t,rfl,(as1 p t ha).1,hg⟩
    have hS:∀b i,(vr el M mc sr w').S b i->(vx ⟨P,w,D4,M,el,gl⟩ m2 (fs st2) w').S b i:=by
     rintro b i (h|⟨p,o,_,h2,h3⟩)
     ·exact .inl h
     ·obtain⟨t,_,q2,q3⟩:=horig p b o h2;exact .inr (.inr ⟨t,o,q2,q3,h3⟩)
    have hfin:=Il (X:=vx ⟨P,w,D4,M,el,gl⟩ m2 (fs st2) w') (X':=vr el M mc sr w') hS rfl rfl 0 hr' (λt ht=>ht) hreps (λp hp=>by have:=(Hd _ _ _ hp).2;exact⟨by simpa[vr] using this,rfl⟩)
    refine⟨hdef,Sx.resv us,?_,Sx.resv us,mc,rfl,hrel1.chg,λp g o hp hg =>?_,λp q g o o' _ _ hg hg' =>?_,Nu hfin⟩
    ·obtain⟨rl⟩:∃rl,fn.results=List.toArray rl:=⟨fn.results.toList,by simp⟩;rename_i hrl;rw[Sx.results_eq,hrl];rw[hrl] at hrun;simp only[List.mapM_toArray,Sem.run_bind,map_eq_pure_bind,Sem.run_pure,hrun,Result.andThen_ok];congr 1;match us with|[]=>rfl|[v]=>rfl|_::_::_=>simp[Sx.resv]
    ·obtain⟨t,_,q2,q3⟩:=horig p g o hg;have:=hrel1.own g o (.inr ⟨t,o,q2,q3,Zn1 _⟩);exact⟨this.2.resolve_left id,this.1⟩
    ·obtain⟨t,q1,q2,q3⟩:=horig p g o hg;obtain⟨t',p1,p2,p3⟩:=horig q g o' hg';have:=hrel1.injt t t' g o o' q2 p2 q3 p3;subst this;exact as2 p q t q1 p1
   ·cases hk
  ·cases hk
end
section
variable {R:Type}{px:Px R}{cx:Cx}
theorem Aln{x x':Vx}{n i:Nat}(hS:∀b j,x'.S b j->x.S b j)(hw:x'.w=x.w)(hel:x'.el=x.el):∀{s:Sg}{y:den s}{v:Value},Rep x (Co i s y) v->(∀c,s = .sl c true->x.al i/\n+i<x'.nt/\x'.m.tk (n+i)=x.m.tk i)->Rep x' (Co (n+i) s y) v:=by
 have hrf:∀{d:D}{v:Value},RF x.S x.w d v->RF x'.S x'.w d v:=λh=>by rw[hw];exact h.later (Chg.refl _ _) (λk j hk =>.inl (hS k j hk))
 intro s y v h hown;cases s with
 |int k=>simpa[Co,Rep] using h
 |bool=>simpa[Co,Rep] using h
 |str=>simpa[Co,Rep] using h
 |sl c own =>
  cases own with
  |false=>simp only[Co,Rep] at h ⊢;exact⟨hrf h.1,trivial⟩
  |true =>
   obtain⟨h1,h2,h3⟩:=hown c rfl;simp only[Co,Rep] at h ⊢;refine⟨hrf h.1,h2,λ_ =>?_⟩;rcases h.2.2 h1 with ⟨a1,a2,a3⟩|⟨g,cap,cur,a1,a2,a3,a4⟩
   ·exact .inl ⟨a1,h3.trans a2,a3⟩
   ·exact .inr ⟨g,cap,cur,a1,h3.trans a2,by rw[hw,hel];exact a3,a4⟩
 |sv c =>simp only[Co,Rep] at h ⊢;obtain⟨h1,vs,h2,h3,h4⟩:=h;exact⟨h1,vs,h2,h3,λj d hd=>by obtain⟨u,hu,hf⟩:=h4 j d hd;exact⟨u,hu,hrf hf⟩⟩
 |rw c k =>simp only[Co,Rep] at h ⊢;obtain⟨h1,vs,h2,h3,h4⟩:=h;exact⟨h1,vs,h2,h3,λq z j d hz hd=>by obtain⟨u,hu,hf⟩:=h4 q z j d hz hd;exact⟨u,hu,hrf hf⟩⟩
 |dn c =>simp only[Co,Rep] at h ⊢;obtain⟨h1,vs,h2,h3,h4⟩:=h;exact⟨h1,vs,h2,h3,λq z j d hz hd=>by obtain⟨u,hu,hf⟩:=h4 q z j d hz hd;exact⟨u,hu,hrf hf⟩⟩
theorem Bez{i p:Nat}{a:Sg}{l:List Sg}(h:p∈Bq (i+1) l):p∈Bq i (a::l):=by
 cases a with
 |sl c own=>cases own with|true=>exact Zu1 _ h|false=>exact h
 |_=>exact h
theorem An4{x x':Vx}{n:Nat}(hS:∀b j,x'.S b j->x.S b j)(hw:x'.w=x.w)(hel:x'.el=x.el):∀{l:List Sg}{y:HV l}{vs:List Value}(i:Nat),Reps x (Cc i l y) vs->(∀p,p∈Bq i l->x.al p/\n+p<x'.nt/\x'.m.tk (n+p)=x.m.tk p)->Reps x' (Cc (n+i) l y) vs
 |[],y,vs,i,h,_=>by simpa[Cc,Reps] using h
 |[a],y,vs,i,h,hown=>by simp only[Cc,Reps] at h ⊢;obtain⟨u,us,h1,h2,h3⟩:=h;exact⟨u,us,h1,Aln hS hw hel h2 (λc hc=>by subst hc;exact hown i (by simp[Bq])),h3⟩
 |a::b::l,(y,z),vs,i,h,hown=>by simp only[Cc,Reps] at h ⊢;obtain⟨u,us,h1,h2,h3⟩:=h;refine⟨u,us,h1,Aln hS hw hel h2 (λc hc=>by subst hc;exact hown i (by simp[Bq])),?_⟩;have:=An4 hS hw hel (i+1) h3 (λp hp=>hown p (Bez hp));rwa[<-Nat.add_assoc] at this
theorem Aj2:∀(l:List Sg) (n i p:Nat),p∈Bq (n+i) l↔∃q,q∈Bq i l/\p=n+q
 |[],n,i,p=>by simp[Bq]
 |s::l,n,i,p=>by
  have ih:=Aj2 l n (i+1) p;have rest:(Bq (n+i) (s::l)=Bq (n+i+1) l/\Bq i (s::l)=Bq (i+1) l)\/(Bq (n+i) (s::l)=(n+i)::Bq (n+i+1) l/\Bq i (s::l)=i::Bq (i+1) l):=by
   cases s with
   |sl c own=>cases own with|true=>exact .inr ⟨rfl,rfl⟩|false=>exact .inl ⟨rfl,rfl⟩
   |_=>exact .inl ⟨rfl,rfl⟩
  rcases rest with ⟨e1,e2⟩|⟨e1,e2⟩
  ·rw[e1,e2];exact ih
  ·rw[e1,e2];simp only[List.mem_cons];constructor
   ·rintro(rfl|h)
    ·exact⟨i,.inl rfl,rfl⟩
    ·obtain⟨q,h1,h2⟩:=ih.1 h;exact⟨q,.inr h1,h2⟩
   ·rintro⟨q,h1|h1,h2⟩
    ·subst h1;exact .inl h2
    ·exact .inr (ih.2 ⟨q,h1,h2⟩)
theorem Ys{m:Mp}{a:Act}{as_:List Act}{s:FS}{w:World}(hr:Rel cx m a as_ s w):(∀b i,(vx cx m s w).S b i->b<w.heap.size)/\GlR (v0 cx.el (vx cx m s w).S w) cx.gl:=by
 refine⟨λb i hi =>?_,hr.glb⟩;rcases hi with h|h
 ·have:=(hr.away b i 0 h).1;have:=hr.chg.size;omega
 ·exact(hr.own b i h).1
theorem Rel.raise{m:Mp}{a:Act}{as_:List Act}{st:St}{w:World}{nb nt:Nat}(hb:st.nb<=nb)(ht:st.nt<=nt)(hr:Rel cx m a as_ (fs st) w):Rel cx m a as_ (fs { st with nb:=nb,nt:=nt }) w:=by have nx:Nx (vx cx m (fs st) w) (vx cx m (fs { st with nb:=nb,nt:=nt }) w):=⟨Chg.refl _ _,λ_ _ h =>.inl h,rfl,λ_ _=>rfl,hb,ht,λt _ ha=>⟨ha,rfl,λ_ _ _=>rfl⟩⟩;refine⟨hr.chg,hr.env.later nx,hr.frs.later nx hr.lb hr.lt,Nat.le_trans hr.lb hb,Nat.le_trans hr.lt ht,λb k hk =>?_,λt h=>Zx1 (hr.als t h) ht,hr.inj,hr.injt,hr.injbt,hr.own,hr.away,hr.glb.later nx⟩;obtain⟨h1,h2⟩:=hr.blks b k hk;exact⟨Zx1 h1 hb,h2.later nx rfl⟩
theorem At7:∀{l:List Sg}{i:Nat},l.all A5o=true->Bq i l=[]
 |[],_,_=>rfl
 |a::l,i,h=>by simp only[Zv1,Zb1] at h;have ih:=At7 (l:=l) (i:=i+1) h.2;cases a<;>simp only[A5o,Zj2,false_and] at h<;>simpa only[Bq] using ih
theorem Au8{x x':Vx}:∀{l:List Sg}{y:HV l}{vs:List Value}{i j:Nat},l.all A5o=true->Reps x (Cc i l y) vs->Reps x' (Cc j l y) vs
 |[],_,_,_,_,_,h=>by simpa[Cc,Reps] using h
 |[a],y,vs,i,j,hs,h=>by simp only[Zv1,List.all_nil,Bool.and_true] at hs;simp only[Cc,Reps] at h ⊢;obtain⟨u,us,h1,h2,h3⟩:=h;refine⟨u,us,h1,?_,h3⟩;cases a<;>simp only[A5o,Zj2] at hs<;>simpa only[Co,Rep] using h2
 |a::b::l,(y,z),vs,i,j,hs,h=>by simp only[Zv1,Zb1] at hs;simp only[Cc,Reps] at h ⊢;obtain⟨u,us,h1,h2,h3⟩:=h;refine⟨u,us,h1,?_,Au8 (l:=b::l) (by simp only[Zv1,Zb1];exact hs.2) h3⟩;cases a<;>simp only[A5o,Zj2,false_and] at hs<;>simpa only[Co,Rep] using h2
theorem Bd3{g:Nat}{sa sr:List Sg}{F:HV sa->Option (HV sr)}(h:FnOk cx.P cx.el cx.gl g sa sr F)(hsa:Ew (Bq 0 sa) []=true){args:List D}{st:St}{K:List D->St->Option R}{r:R}(hc:Adt sa sr F args st K=some r):Of cx g args st K r:=by
 unfold Adt at hc;refine⟨h.enters,λm a as_ w vs hr0 hargs0 =>?_⟩;obtain⟨args,bl',hc,hr,nx0,hargs⟩:=Bc6 hr0 hargs0 hc;cases hsc:sr.all A5o with
 |true =>
  rw[hsc] at hc;simp only at hc;split at hc
  ·rename_i x hx;cases hF:F x with
   |none=>rw[hF] at hc;cases hc
   |some r0 =>rw[hF,Zc1] at hc;have hsa:=Je hsa;obtain⟨hM,hgl⟩:=Ys hr;have hin:Reps (v0 cx.el (vx cx m (fs { st with bl:=bl' }) w).S w) (Cc 0 sa x) vs:=Il (X:=vx cx m (fs { st with bl:=bl' }) w) (X':=v0 cx.el (vx cx m (fs { st with bl:=bl' }) w).S w) (λ_ _ h=>h) rfl rfl 0 hx (λt ht=>ht) hargs (λp hp=>by rw[hsa] at hp;cases hp);refine(h.run x r0 hF w _ vs hM hgl hin).mono ?_;rintro en w' ⟨v,mc,rfl,hch,_,_,hrep⟩;obtain⟨us,rfl,hreps⟩:=Aol hrep;rw[At7 hsc,Zf2] at hc;exact⟨_,rfl,_,_,m,hc,⟨rfl,rfl,rfl,rfl,rfl⟩,(hr0.quiet hch).raise (Zn1 _) (Nat.le_add_right _ _),Nu (Au8 hsc hreps)⟩
  ·cases hc
 |false =>
 rw[hsc] at hc;simp only at hc;obtain⟨st1,h1⟩:∃s:St,s={ st with bl:=bl' }:=⟨_,rfl⟩;replace hc:(match Qx sa st1.tk args with|some x=>(F x).bind λr=>K (Cc st1.nt sr r) { st1 with tk:=Bq st1.nt sr++st1.tk,nt:=st1.nt+sr.length }|none=>none)=some r:=by rw[h1];exact hc
 have hsm:Axc st st1:=by rw[h1];exact⟨rfl,rfl,rfl,rfl,rfl⟩
 rw[<-h1] at hr hargs;clear nx0 hr0 hargs0 h1;obtain⟨sm1,sm2,sm3,sm4,sm5⟩:=hsm;split at hc
 ·rename_i x hx;cases hF:F x with
  |none=>rw[hF] at hc;cases hc
  |some r0 =>
   rw[hF,Zc1] at hc;have hsa:=Je hsa;obtain⟨hM,hgl⟩:=Ys hr;have hin:Reps (v0 cx.el (vx cx m (fs st1) w).S w) (Cc 0 sa x) vs:=Il (X:=vx cx m (fs st1) w) (X':=v0 cx.el (vx cx m (fs st1) w).S w) (λ_ _ h=>h) rfl rfl 0 hx (λt ht=>ht) hargs (λp hp=>by rw[hsa] at hp;cases hp);refine(h.run x r0 hF w _ vs hM hgl hin).mono ?_;rintro en w' ⟨v,mc,rfl,hch,hfresh,hinj,hrep⟩;refine⟨v,rfl,Cc st1.nt sr r0,{ st1 with tk:=Bq st1.nt sr++st1.tk,nt:=st1.nt+sr.length },?_⟩;have hb:∀k,k<w.heap.size->w'.heap[k]? = w.heap[k]? :=λk hk=>hch.block k hk (λ_ h=>h);let st':St:={ st1 with tk:=Bq st1.nt sr++st1.tk,nt:=st1.nt+sr.length };let m':Mp:=⟨m.bl,λt=>if t<st1.nt then m.tk t else mc.tk (t-st1.nt)⟩;have htok:∀t,(fs st').al t->((fs st1).al t/\t<st1.nt/\m'.tk t=m.tk t)\/∃q,q∈Bq 0 sr/\t=st1.nt+q/\m'.tk t=mc.tk q:=λt ht=>by
    have ht:t∈Bq st1.nt sr++st1.tk:=ht;simp only[List.mem_append] at ht;rcases ht with ht|ht
    ·have:=(Aj2 sr st1.nt 0 t).1 (by simpa using ht);obtain⟨q,h1,h2⟩:=this;refine .inr ⟨q,h1,h2,?_⟩;simp only[m',h2];rw[if_neg (by omega),show st1.nt+q-st1.nt=q by omega]
    ·have hlt:t<st1.nt:=hr.als t ht;exact .inl ⟨ht,hlt,by simp[m',hlt]⟩
   have fp:∀b i,Dk m' (fs st') b i->Dk m (fs st1) b i\/∃q o,q∈Bq 0 sr/\mc.tk q=some (b,o)/\o<=i:=by
    rintro b i (⟨q,hq,rfl⟩|⟨t,o,h1,h2,h3⟩)
    ·exact .inl (.inl ⟨q,hq,rfl⟩)
    ·rcases htok t h1 with ⟨q1,_,q3⟩|⟨q,q1,_,q3⟩
     ·rw[q3] at h2;exact .inl (.inr ⟨t,o,q1,h2,h3⟩)
     ·rw[q3] at h2;exact .inr ⟨q,o,q1,h2,h3⟩
   have nx:Nx (vx cx m (fs st1) w) (vx cx m' (fs st') w'):=by
    refine⟨hch.mono (λ_ _ h=>h.elim),?_,rfl,λ_ _=>rfl,Zn1 _,Nat.le_add_right _ _,λt ht ha =>?_⟩
    ·rintro b i (hM|hf)
     ·exact .inl (.inl hM)
     ·rcases fp b i hf with h|⟨q,o,h1,h2,_⟩
      ·exact .inl (.inr h)
      ·exact .inr (hfresh q b o h1 h2).1
    ·have ht:t<st1.nt:=ht;rcases htok t ha with ⟨q1,_,q3⟩|⟨q,_,q2,_⟩
     ·exact⟨q1,q3,λg o hg=>hb g (hr.own_t q1 hg)⟩
     ·omega
   refine⟨m',hc,⟨sm1,sm2,sm3,sm4,sm5⟩,hr.step (s':=fs st') rfl rfl rfl rfl rfl (hch.mono (λ_ _ h=>h.elim)) nx ?_ ?_ hr.inj ?_ ?_ ?_,?_⟩
   ·intro b k hk;obtain⟨h1,h2⟩:=hr.blks b k hk;exact⟨h1,h2.later nx (hb _ (hr.own_b (by rw[show(fs st1).bl b=some k from hk];simp)))⟩
   ·intro t ht;rcases htok t ht with ⟨_,q2,_⟩|⟨q,q1,q2,_⟩
    ·show t<st1.nt+sr.length;omega
    ·have:=(Hd _ _ _ q1).2;show t<st1.nt+sr.length;omega
   ·intro t t' g o o' h1 h2 h3 h4;rcases htok t h1 with ⟨q1,q2,q3⟩|⟨q,q1,q2,q3⟩<;>rcases htok t' h2 with ⟨p1,p2,p3⟩|⟨p,p1,p2,p3⟩
    ·rw[q3] at h3;rw[p3] at h4;exact hr.injt t t' g o o' q1 p1 h3 h4
    ·rw[q3] at h3;rw[p3] at h4
     have:=hr.own_t q1 h3;have:=(hfresh p g o' p1 h4).1;omega
    ·rw[q3] at h3;rw[p3] at h4
     have:=hr.own_t p1 h4;have:=(hfresh q g o q1 h3).1;omega
    ·rw[q3] at h3;rw[p3] at h4
     rw[q2,p2,hinj q p g o o' q1 p1 h3 h4]
   ·intro b t g o h1 h2 h3;rcases htok t h2 with ⟨q1,_,q3⟩|⟨q,q1,_,q3⟩
    ·rw[q3] at h3;exact hr.injbt b t g o h1 q1 h3
    ·rw[q3] at h3;have:=(hfresh q g o q1 h3).1;have:=hr.own_b h1;show m.bl b≠g;omega
   ·intro b i hf;rcases fp b i hf with h|⟨q,o,h1,h2,_⟩
    ·exact⟨Zx1 (hr.own b i h).1 hch.size,.inl h⟩
    ·exact⟨(hfresh q b o h1 h2).2,.inr (hfresh q b o h1 h2).1⟩
   ·obtain⟨us,rfl,hreps⟩:=Aol hrep;refine Nu ?_;have:=An4 (x:=vr cx.el (vx cx m (fs st1) w).S mc sr w') (x':=vx cx m' (fs st') w') (n:=st1.nt) (by
     rintro b i (h|h)
     ·exact .inl (.inl h)
     ·rcases fp b i h with h|⟨q,o,h1,h2,h3⟩
      ·exact .inl (.inr h)
      ·exact .inr ⟨q,o,h1,h2,h3⟩) rfl rfl 0 hreps (λp hp=>by
     have:=(Hd _ _ _ hp).2;refine⟨hp,?_,?_⟩
     ·show st1.nt+p<st1.nt+sr.length;omega
     ·show m'.tk (st1.nt+p)=mc.tk p;simp only[m'];rw[if_neg (by omega),show st1.nt+p-st1.nt=p by omega])
    rwa[Nat.add_zero] at this
 ·cases hc
theorem Biy{pc:Px R}(hp:PxOk cx pc)(hcl:Em cx pc)(hcq:CallQOk cx pc)(hm:cx.P.follows .mixedOrders=true){g:Nat}{fn:Func}{c:Code}(hf:cx.P.funcs[g]? = some fn)(hb:fn.body=some c)(hname:(fn.name == "runtime.NumGoroutine")=false)(hcode:Gq fn.ntmps c=true)(hl:∀b,b∈Bt c->Cl cx pc b){args:List D}(hargs:Nat.ble args.length fn.ntmps=true){st:St}{K:List D->St->Option R}{r:R}(hc:Awe pc fn args st K=some r):Of cx g args st K r:=by
 refine⟨Sx.enters_of hf (by rw[hb];rfl) hname,λm a as_ w vs hr hreps =>?_⟩;unfold Awe at hc;rw[hb] at hc;simp only at hc;have hlen:vs.length<=fn.ntmps:=by rw[hreps.len];simpa using hargs
 have hget:∀(ds:List D) (us:List Value) (i k:Nat) (d:D),Reps (vx cx m (fs st) w) ds us->get (B6 i ds) k=some d->∃v,i<=k/\us[k-i]? = some v/\Rep (vx cx m (fs st) w) d v:=by
  intro ds;induction ds with
  |nil=>intro us i k d _ h;simp[B6,get] at h
  |cons e ds ih =>
   intro us i k d hr h;simp only[Reps] at hr;obtain⟨u,us,rfl,h1,h2⟩:=hr;simp only[B6] at h;rw[Cm] at h;by_cases hk:k=i
   ·subst hk;simp at h;subst h;exact⟨u,Zn1 _,by simp,h1⟩
   ·rw[if_neg hk] at h;obtain⟨v,h3,h4,h5⟩:=ih us (i+1) k d h2 h;refine⟨v,by omega,?_,h5⟩;rw[show k-i=(k-(i+1))+1 by omega];simpa using h4
 have hrel:Rel cx m { tmps:=vs.toArray++Array.replicate (fn.ntmps-vs.toArray.size) undef,defers:=[] } (a::as_) (fs { st with n:=fn.ntmps,env:=B6 0 args,lb:=st.nb,lt:=st.nt,fr:=⟨st.n,st.env,st.lb,st.lt⟩::st.fr }) w:=by
  refine⟨hr.chg,⟨rfl,?_,λk d hk =>?_⟩,⟨a,as_,rfl,hr.lb,hr.lt,hr.env,hr.frs⟩,Zn1 _,Zn1 _,hr.blks,hr.als,hr.inj,hr.injt,hr.injbt,hr.own,hr.away,hr.glb⟩
  ·show _=fn.ntmps;simp;omega
  ·obtain⟨v,_,h2,h3⟩:=hget _ _ 0 k d hreps hk;rw[Nat.sub_zero] at h2;refine⟨v,?_,h3⟩;have hlt:k<vs.length:=(Zi2.1 h2).1;simp only[Array.getElem?_append,List.size_toArray,hlt,if_true];simpa using h2
 refine calls_of_wp hf hb (Dn hp hcl hcq hm c _ _ r hcode hl hc _ m _ (a::as_) w hrel ?_);intro e st' m' a' w' hk hsame hrel';cases e
 case exit=>cases hk
 all_goals
  simp only at hk;have hfr:st'.fr=⟨st.n,st.env,st.lb,st.lt⟩::st.fr:=hsame.2;split at hk
  ·rename_i rs f fr hrs hfr';rw[hfr] at hfr';simp only[Ze2] at hfr';obtain⟨rfl,rfl⟩:=hfr';obtain⟨us,hrun,hres⟩:=Ib hp hrel' hrs;have hfrs:=hrel'.frs;have e1:(fs st').fr=⟨st.n,st.env,st.lb,st.lt⟩::st.fr:=hfr;rw[e1] at hfrs;obtain⟨a0,r0,he0,h1,h2,h3,h4⟩:=hfrs;simp only[Ze2] at he0;obtain⟨rfl,rfl⟩:=he0;have hx:Nx { vx cx m' (fs st') w' with nb:=(fs st').lb,nt:=(fs st').lt } (vx cx m' (fs st') w'):=⟨Chg.refl _ _,λ_ _ h =>.inl h,rfl,λ_ _=>rfl,hrel'.lb,hrel'.lt,λt _ ha=>⟨ha,rfl,λ_ _ _=>rfl⟩⟩;refine⟨hrel'.env.defers,Sx.resv us,?_,Sx.resv us,rfl,rs,_,m',hk,⟨rfl,rfl,rfl,rfl,rfl⟩,⟨hrel'.chg,h3.later hx,h4,Nat.le_trans h1 hrel'.lb,Nat.le_trans h2 hrel'.lt,hrel'.blks,hrel'.als,hrel'.inj,hrel'.injt,hrel'.injbt,hrel'.own,hrel'.away,hrel'.glb⟩,Nu hres⟩;obtain⟨rl⟩:∃rl,fn.results=List.toArray rl:=⟨fn.results.toList,by simp⟩;rename_i hrl;rw[Sx.results_eq,hrl];rw[hrl] at hrun;simp only[List.mapM_toArray,Sem.run_bind,map_eq_pure_bind,Sem.run_pure,hrun,Result.andThen_ok];congr 1;match us with|[]=>rfl|[v]=>rfl|_::_::_=>simp[Sx.resv]
  ·cases hk
theorem A7h{x x':Vx}(hS:∀b j,x'.S b j->x.S b j)(hw:x'.w=x.w):∀{l:List Sg}{y:HV l}{vs:List Value}(i:Nat),Reps x (Cc i l y) vs->Reps x' ((Cc i l y).map I2) vs:=by
 have hrf:∀{d:D}{v:Value},RF x.S x.w d v->RF x'.S x'.w d v:=λh=>by rw[hw];exact h.later (Chg.refl _ _) (λk j hk =>.inl (hS k j hk))
 have one:∀{i:Nat}{s:Sg}{y:den s}{v:Value},Rep x (Co i s y) v->Rep x' (I2 (Co i s y)) v:=by intro i s y v h;cases s with|int k=>simpa[Co,I2,Rep] using h|bool=>simpa[Co,I2,Rep] using h|str=>simpa[Co,I2,Rep] using h|sl c own =>cases own<;>simp only[Co,I2,Rep] at h ⊢ <;> exact⟨hrf h.1,trivial⟩|sv c =>simp only[Co,I2,Rep] at h ⊢;obtain⟨h1,vs,h2,h3,h4⟩:=h;exact⟨h1,vs,h2,h3,λj d hd=>by obtain⟨u,hu,hf⟩:=h4 j d hd;exact⟨u,hu,hrf hf⟩⟩|rw c k =>simp only[Co,I2,Rep] at h ⊢;obtain⟨h1,vs,h2,h3,h4⟩:=h;exact⟨h1,vs,h2,h3,λq z j d hz hd=>by obtain⟨u,hu,hf⟩:=h4 q z j d hz hd;exact⟨u,hu,hrf hf⟩⟩|dn c =>simp only[Co,I2,Rep] at h ⊢;obtain⟨h1,vs,h2,h3,h4⟩:=h;exact⟨h1,vs,h2,h3,λq z j d hz hd=>by obtain⟨u,hu,hf⟩:=h4 q z j d hz hd;exact⟨u,hu,hrf hf⟩⟩
 intro l;induction l with
 |nil=>intro y vs i h;simpa[Cc,Reps] using h
 |cons a l ih =>intro y vs i h;cases l with|nil =>simp only[Cc,Zw1,List.map_nil,Reps] at h ⊢;obtain⟨u,us,h1,h2,h3⟩:=h;exact⟨u,us,h1,one h2,h3⟩|cons b l =>obtain⟨y,z⟩:=y;simp only[Cc,Zw1,Reps] at h ⊢;obtain⟨u,us,h1,h2,h3⟩:=h;exact⟨u,us,h1,one h2,ih (i+1) h3⟩
theorem A7t{g:Nat}{sa sr:List Sg}{F:HV sa->Option (HV sr)}(h:FnOk cx.P cx.el cx.gl g sa sr F)(hsa:Ew (Bq 0 sa) []=true){args:List D}{K:List D->Option R}{r:R}(hc:Aby sa sr F args K=some r):∃rs,K rs=some r/\Sx.Enters cx.P g/\∀(s:FS) (m:Mp) (a:Act) (as_:List Act) (w:World) (vs:List Value),Rel cx m a as_ s w->Reps (vx cx m s w) args vs->Calls cx.P g vs.toArray w λen w'=>∃v,en = .returned v/\Rel cx m a as_ s w'/\Rep (vx cx m s w') (Hi (rs.map I2)) v:=by
 unfold Aby at hc;split at hc
 ·rename_i x hx;cases hF:F x with
  |none=>rw[hF] at hc;cases hc
  |some r0 =>rw[hF,Zc1] at hc;have hsa:=Je hsa;refine⟨_,hc,h.enters,λs m a as_ w vs hr hargs =>?_⟩;obtain⟨hM,hgl⟩:=Ys hr;have hin:Reps (v0 cx.el (vx cx m s w).S w) (Cc 0 sa x) vs:=Il (X:=vx cx m s w) (X':=v0 cx.el (vx cx m s w).S w) (λ_ _ h=>h) rfl rfl 0 hx (λt ht=>by cases ht) hargs (λp hp=>by rw[hsa] at hp;cases hp);refine(h.run x r0 hF w _ vs hM hgl hin).mono ?_;rintro en w' ⟨v,mc,rfl,hch,_,_,hrep⟩;refine⟨v,rfl,hr.quiet hch,?_⟩;obtain⟨us,rfl,hreps⟩:=Aol hrep;exact Nu (A7h (x:=vr cx.el (vx cx m s w).S mc sr w') (x':=vx cx m s w') (λb i h =>.inl h) rfl 0 hreps)
 ·cases hc
theorem Bo5(st:St)(k:Blk):fs (Hg st k)={ fs st with bl:=λb=>if b=(fs st).nb then some k else(fs st).bl b,nb:=(fs st).nb+1 }:=by refine FS.eq rfl rfl rfl rfl rfl ?_ rfl rfl rfl;funext b;exact A6 st.bl st.nb b k
end
def tbl{α:Type _}:List (Nat×α)->Nat->Option α
 |[],_=>none
 |(k,v)::e,n=>match Nat.beq k n with|true=>some v|false=>tbl e n
theorem Hz{α:Type _}:∀{l:List (Nat×α)}{n:Nat}{v : α},tbl l n=some v->(n,v)∈l
 |[],n,v,h=>by simp[tbl] at h
 |(k,u)::l,n,v,h=>by
  simp only[tbl] at h;split at h
  ·rename_i hk;obtain rfl:=Zl1 hk;simp only[Za1] at h;subst h;simp
  ·exact Zu1 _ (Hz h)
def Awy(l:List (Nat×Ty))(t:Nat):Ty:=match tbl l t with|some ty=>ty|none =>.no
theorem Bjt{P:Program}{el:Ck->TypeId}{l:List (Nat×Ty)}(h:(l.all λp=>C6 P el (Awy l) p.1)=true)(t:Nat):C6 P el (Awy l) t=true:=by cases ht:tbl l t with|none=>unfold C6;simp only[Awy,ht]|some ty=>exact Zg2.1 h _ (Hz ht)
abbrev Kr(R:Type):=List D->St->(List D->St->Option R)->Option R
abbrev J4(R:Type):=List D->(List D->Option R)->Option R
abbrev Yh(R:Type):=List D->St->(D->List Nat->St->Option R)->Option R
def Bdd{R:Type}(l:List (Nat×Kr R))(g:Nat):Kr R:=match tbl l g with|some f=>f|none=>λ_ _ _=>none
def Axh{R:Type}(l:List (Nat×J4 R))(g:Nat):J4 R:=match tbl l g with|some f=>f|none=>λ_ _=>none
section
variable {R:Type}{cx:Cx}
def Kn(cx:Cx)(g:Nat)(f:Kr R):Prop:=∀args st K r,f args st K=some r->Of cx g args st K r
def Aa1(cx:Cx)(g:Nat)(f:J4 R):Prop:=∀(args:List D) (K:List D->Option R) (r:R),f args K=some r->∃rs,K rs=some r/\Sx.Enters cx.P g/\∀(s:FS) (m:Mp) (a:Act) (as_:List Act) (w:World) (vs:List Value),Rel cx m a as_ s w->Reps (vx cx m s w) args vs->Calls cx.P g vs.toArray w λen w'=>∃v,en = .returned v/\Rel cx m a as_ s w'/\Rep (vx cx m s w') (Hi (rs.map I2)) v
theorem Bn1{px:Px R}{l:List (Nat×Kr R)}(hpx:px.call=Bdd l)(h:∀g f,(g,f)∈l->Kn cx g f):Em cx px:=by intro g args st K r hk;rw[hpx] at hk;unfold Bdd at hk;cases hf:tbl l g with|none=>rw[hf] at hk;cases hk|some f=>rw[hf] at hk;exact h g f (Hz hf) args st K r hk
theorem Bew{px:Px R}{l:List (Nat×J4 R)}{lw:List (Nat×Yh R)}(hpx:px.callQ=Axh l)(hpw:px.callW=tbl lw)(h:∀g f,(g,f)∈l->Aa1 cx g f)(hw:∀g f,(g,f)∈lw->Iz cx g f):CallQOk cx px:=by
 refine⟨λg args K r hk =>?_,λg F hF =>?_⟩
 ·rw[hpx] at hk;unfold Axh at hk;cases hf:tbl l g with|none=>rw[hf] at hk;cases hk|some f=>rw[hf] at hk;exact h g f (Hz hf) args K r hk
 ·rw[hpw] at hF;exact hw g F (Hz hF)
theorem Aa:∀g f,(g,f)∈([]:List (Nat×Yh R))->Iz cx g f:=λ_ _ h=>by cases h
theorem Aq2{g:Nat}{f:Yh R}{l:List (Nat×Yh R)}(h:Iz cx g f)(hl:∀g f,(g,f)∈l->Iz cx g f):∀g' f',(g',f')∈(g,f)::l->Iz cx g' f':=by
 intro g' f' hm;simp only[List.mem_cons,Zp1] at hm;rcases hm with ⟨rfl,rfl⟩|hm
 ·exact h
 ·exact hl g' f' hm
theorem Bxu{g:Nat}{sa sr:List Sg}{F:HV sa->Option (HV sr)}(h:FnOk cx.P cx.el cx.gl g sa sr F)(hsa:Ew (Bq 0 sa) []=true):Kn (R:=R) cx g (Adt sa sr F):=λ_ _ _ _ hc=>Bd3 h hsa hc
theorem Bwr{g:Nat}{sa sr:List Sg}{F:HV sa->Option (HV sr)}(h:FnOk cx.P cx.el cx.gl g sa sr F)(hsa:Ew (Bq 0 sa) []=true):Aa1 (R:=R) cx g (Aby sa sr F):=λ_ _ _ hc=>A7t h hsa hc
theorem Ae:∀g f,(g,f)∈([]:List (Nat×Kr R))->Kn cx g f:=λ_ _ h=>by cases h
theorem Az{g:Nat}{f:Kr R}{l:List (Nat×Kr R)}(h:Kn cx g f)(hl:∀g f,(g,f)∈l->Kn cx g f):∀g' f',(g',f')∈(g,f)::l->Kn cx g' f':=by
 intro g' f' hm;simp only[List.mem_cons,Zp1] at hm;rcases hm with ⟨rfl,rfl⟩|hm
 ·exact h
 ·exact hl g' f' hm
theorem Ab:∀g f,(g,f)∈([]:List (Nat×J4 R))->Aa1 cx g f:=λ_ _ h=>by cases h
theorem Bgg{g:Nat}{f:J4 R}{l:List (Nat×J4 R)}(h:Aa1 cx g f)(hl:∀g f,(g,f)∈l->Aa1 cx g f):∀g' f',(g',f')∈(g,f)::l->Aa1 cx g' f':=by
 intro g' f' hm;simp only[List.mem_cons,Zp1] at hm;rcases hm with ⟨rfl,rfl⟩|hm
 ·exact h
 ·exact hl g' f' hm
end
theorem FnOk.calls{P:Program}{el:Ck->TypeId}{gl:Nat->Option Gv}{f:FuncId}{sa:List Sg}{F:HV sa->Option Bool}(h:FnOk P el gl f sa [.bool] F){x:HV sa}{r:Bool}(hF:F x=some r){w:World}{vs:List Value}(hgl:GlR (v0 el D4 w) gl)(hr:Reps (v0 el D4 w) (Cc 0 sa x) vs):Calls P f vs.toArray w λen w'=>en = .returned (.bool r)/\Below w.heap.size w w':=by
 refine(h.run x r hF w D4 vs (λ_ _ h=>h.elim) hgl hr).mono ?_;rintro en w' ⟨v,m,rfl,hch,_,_,hrep⟩;have:v = .bool r:=by simpa[Hi,Cc,Co,Rep] using hrep
 subst this;exact⟨rfl,hch.below⟩
abbrev FT(sa sr:List Sg):=HV sa->Option (HV sr)
abbrev Bm1(R:Type):=St->(Ex->St->Option R)->Option R
def Bxl{R:Type}(l:List (Nat×Bm1 R))(b:Code):Bm1 R:=match tbl l (Sb b) with|some f=>f|none=>λ_ _=>none
def lpC(b:Code)(i:Nat):Code:=(Bt b).getD i .skip
def L9(fn:Func):Nat:=match fn.body with|some c=>(Bt c).length|none=>0
def Sv(fn:Func):Bool:=match fn.body with|some c=>Gq fn.ntmps c|none=>false
theorem Ah{p:Nat->Prop}:∀i,i<0->p i:=λ_ h=>absurd h (Zm1 _)
theorem A5{p:Nat->Prop}{n:Nat}(h:∀i,i<n->p i)(hn:p n):∀i,i<n+1->p i:=λi hi=>by
 rcases Nat.lt_succ_iff_lt_or_eq.1 hi with h1|h1
 ·exact h i h1
 ·rw[h1];exact hn
theorem Azu{l:List Code}{b:Code}(h:b∈l):∃i,i<l.length/\l.getD i .skip=b:=by obtain⟨i,hi,rfl⟩:=List.getElem_of_mem h;exact⟨i,hi,by simp[List.getD_eq_getElem?_getD,hi]⟩
section
variable {R:Type}{px:Px R}{cx:Cx}
theorem Als{fn:Func}{c:Code}{n:Nat}(hb:fn.body=some c)(hn:L9 fn=n)(h:∀i,i<n->Cl cx px (lp fn i)):∀b,b∈Bt c->Cl cx px b:=by intro b hm;obtain⟨i,hi,rfl⟩:=Azu hm;have:=h i (by rw[<-hn];unfold L9;rw[hb];exact hi);unfold lp at this;rw[hb] at this;exact this
theorem Ke{b:Code}{n:Nat}(hn:(Bt b).length=n)(h:∀i,i<n->Cl cx px (lpC b i)):∀b',b'∈Bt b->Cl cx px b':=by intro b' hm;obtain⟨i,hi,rfl⟩:=Azu hm;exact h i (by rw[<-hn];exact hi)
def A2(nb nt:Nat)(pc:Px R)(fn:Func)(args:List D)(st:St)(K:List D->St->Option R):Option R:=match Nat.ble args.length fn.ntmps&&Nat.ble st.nb nb&&Nat.ble st.nt nt with
 |true=>Awe pc fn args { st with nb:=nb,nt:=nt } K
 |false=>none
theorem A7l{m:Mp}{st:St}{w:World}{nb nt:Nat}(hb:st.nb<=nb)(ht:st.nt<=nt){ds:List D}{vs:List Value}(h:Reps (vx cx m (fs st) w) ds vs):Reps (vx cx m (fs { st with nb:=nb,nt:=nt }) w) ds vs:=by have nx:Nx (vx cx m (fs st) w) (vx cx m (fs { st with nb:=nb,nt:=nt }) w):=⟨Chg.refl _ _,λ_ _ h =>.inl h,rfl,λ_ _=>rfl,hb,ht,λt _ ha=>⟨ha,rfl,λ_ _ _=>rfl⟩⟩;exact Reps.later nx _ _ h
theorem Bwa{nb nt:Nat}{pc:Px R}{g:Nat}{fn:Func}{c:Code}{n:Nat}(hp:PxOk cx pc)(hcl:Em cx pc)(hcq:CallQOk cx pc)(hm:cx.P.follows .mixedOrders=true)(hf:cx.P.funcs[g]? = some fn)(hb:fn.body=some c)(hname:(fn.name == "runtime.NumGoroutine")=false)(hcode:Sv fn=true)(hn:L9 fn=n)(hl:∀i,i<n->Cl cx pc (lp fn i)):Kn cx g (A2 nb nt pc fn):=by
 intro args st K r hc;unfold A2 at hc;split at hc
 ·rename_i hargs;simp only[Zb1] at hargs;have h1:st.nb<=nb:=Nat.le_of_ble_eq_true hargs.1.2;have h2:st.nt<=nt:=Nat.le_of_ble_eq_true hargs.2;obtain⟨q1,q2⟩:=Biy hp hcl hcq hm hf hb hname (by unfold Sv at hcode;rw[hb] at hcode;exact hcode) (Als hb hn hl) hargs.1.1 hc;refine⟨q1,λm a as_ w vs hr hreps =>?_⟩;exact(q2 m a as_ w vs (hr.raise h1 h2) (A7l h1 h2 hreps)).mono λen w' ⟨v,e1,rs,st',m',e2,e3,e4,e5⟩=>⟨v,e1,rs,st',m',e2,e3,e4,e5⟩
 ·cases hc
end
theorem Blp{P:Program}{el:Ck->TypeId}{gl:Nat->Option Gv}{f:FuncId}{fn:Func}{c:Code}{sa sr:List Sg}{px:Px (HV sr)}{F:FT sa sr}{n:Nat}(hf:P.funcs[f]? = some fn)(hb:fn.body=some c)(hname:(fn.name == "runtime.NumGoroutine")=false)(hm:P.follows .mixedOrders=true)(hchk:(Sv fn&&Nat.ble sa.length fn.ntmps&&Ew (Bq 0 sa) [])=true)(hn:L9 fn=n)
  (hpx:∀cx:Cx,cx.P=P->cx.el=el->cx.gl=gl->PxOk cx px/\Em cx px/\CallQOk cx px/\∀i,i<n->Cl cx px (lp fn i)) (hF:∀x,Bp3 px fn sa sr x some=F x):FnOk P el gl f sa sr F:=by
 refine Bul hf hb hname hm ?_ (λcx h1 h2 h3 =>?_) hF
 ·unfold Sv at hchk;rw[hb] at hchk;exact hchk
 ·obtain⟨q1,q2,q3,q4⟩:=hpx cx h1 h2 h3;exact⟨q1,q2,q3,Als hb hn q4⟩
section
variable {P:Program}{el:Ck->TypeId}{gl:Nat->Option Gv}{f:FuncId}{sa sr:List Sg}
theorem FnOk.none(he:Sx.Enters P f):FnOk P el gl f sa sr (λ_ =>.none):=⟨he,λ_ _ h=>by cases h⟩
theorem FnOk.rec'{body:FT sa sr->FT sa sr}(he:Sx.Enters P f)(h:∀rf,FnOk P el gl f sa sr rf->FnOk P el gl f sa sr (body rf)):∀n,FnOk P el gl f sa sr (Al body n)
 |0=>FnOk.none he
 |n+1=>h _ (FnOk.rec' he h n)
end
def inI(n:Int):Prop := -9223372036854775808<=n/\n<=9223372036854775807
def ln(n:Nat):Prop:=n<=9223372036854775807
def inK(k:IntKind)(n:Int):Prop:=k.min<=n/\n<=k.max
def Bqo(v:Val):Prop:=inI v.kind/\inI v.n/\ln v.s.length
inductive BdExpr:Xpr->Prop
 |mk (k:Int) (v:Val) (nm:Str) (l:List Xpr):inI k->Bqo v->ln nm.length->ln l.length->(∀e,e∈l->BdExpr e)->BdExpr (.mk k v nm l)
def Hl{α:Type}(p : α->Prop)(l:List α):Prop:=ln l.length/\∀x,x∈l->p x
def Bno(c:Col):Prop:=ln c.name.length/\inI c.kind/\ln c.ref.length
def Bus(s:SetE):Prop:=ln s.name.length/\BdExpr s.e
structure BdStm (s:Stm):Prop where
 kind:inI s.kind
 name:ln s.name.length
 on:ln s.on.length
 cols:Hl Bno s.cols
 names:Hl (λx=>ln x.length) s.names
 l:Hl BdExpr s.l
 rows:Hl (Hl BdExpr) s.rows
 sets:Hl Bus s.sets
 whr:BdExpr s.whr
 order:Hl (λx=>ln x.length) s.order
 desc:ln s.desc.length
 most:inI s.most
def Bu0(x:Idx):Prop:=ln x.name.length/\Hl (λs=>ln s.length) x.cols
structure BdTbl (t:Tbl):Prop where
 name:ln t.name.length
 cols:Hl Bno t.cols
 key:Hl (λs=>ln s.length) t.key
 checks:Hl BdExpr t.checks
 idx:Hl Bu0 t.idx
def BdK:(c:Ck)->El c->Prop
 |.byte,_=>True
 |.int,n=>inI n
 |.u64,n=>inK .u64 n
 |.str,s=>ln s.length
 |.bool,_=>True
 |.val,v=>Bqo v
 |.tok,t=>inI t.kind/\inI t.pos/\ln t.s.length/\inI t.n
 |.col,c=>Bno c
 |.expr,e=>BdExpr e
 |.num,n=>Hl inI n.d
 |.vals,l=>Hl Bqo l
 |.exprs,l=>Hl BdExpr l
 |.strs,l=>Hl (λs=>ln s.length) l
 |.bytes,l=>ln l.length
 |.set,s=>Bus s
 |.stmt,s=>BdStm s
 |.got,g=>inI g.pos
 |.pair,p=>ln p.sign.length/\inI p.kind
 |.idx,x=>Bu0 x
 |.tbl,t=>BdTbl t
def BdD:D->Prop
 |.int k n=>inK k n
 |.str l=>ln l.length
 |.sl c xs _=>Hl (BdK c) xs
 |_=>True
theorem Bu{n:Int}(h:inK .i64 n):inI n:=by simpa[inK,inI,IntKind.min,IntKind.max,IntKind.signed,IntKind.bits] using h
theorem Ax1{c:Ck}{x:El c}(h:∀(j:Nat) d,(enc c x)[j]? = some d->BdD d):BdK c x:=by cases c with|byte=>trivial|int=>exact Bu (h 0 _ rfl)|u64=>exact h 0 _ rfl|str=>exact h 0 _ rfl|bool=>trivial|val=>exact⟨Bu (h 0 _ rfl),Bu (h 1 _ rfl),h 2 _ rfl⟩|tok=>exact⟨Bu (h 0 _ rfl),Bu (h 1 _ rfl),h 2 _ rfl,Bu (h 3 _ rfl)⟩|col=>exact⟨h 0 _ rfl,Bu (h 1 _ rfl),h 4 _ rfl⟩|expr =>obtain⟨k,v,nm,l⟩:=x;have h5:=h 5 _ rfl;exact .mk k v nm l (Bu (h 0 _ rfl)) ⟨Bu (h 1 _ rfl),Bu (h 2 _ rfl),h 3 _ rfl⟩ (h 4 _ rfl) h5.1 h5.2|num=>exact h 1 _ rfl|vals=>exact h 0 _ rfl|exprs=>exact h 0 _ rfl|strs=>exact h 0 _ rfl|bytes=>exact(h 0 _ rfl).1|set =>obtain⟨sn,k,v,nm,l⟩:=x;have h6:=h 6 _ rfl;exact⟨h 0 _ rfl,.mk k v nm l (Bu (h 1 _ rfl)) ⟨Bu (h 2 _ rfl),Bu (h 3 _ rfl),h 4 _ rfl⟩ (h 5 _ rfl) h6.1 h6.2⟩|stmt =>obtain⟨_,_,_,_,_,_,_,_,_,⟨k,v,nm,l⟩,_,_,_⟩:=x;have h14:=h 14 _ rfl;exact⟨Bu (h 0 _ rfl),h 1 _ rfl,h 2 _ rfl,h 3 _ rfl,h 4 _ rfl,h 5 _ rfl,h 6 _ rfl,h 7 _ rfl,.mk k v nm l (Bu (h 9 _ rfl)) ⟨Bu (h 10 _ rfl),Bu (h 11 _ rfl),h 12 _ rfl⟩ (h 13 _ rfl) h14.1 h14.2,h 15 _ rfl,(h 16 _ rfl).1,Bu (h 17 _ rfl)⟩|got=>exact Bu (h 0 _ rfl)|pair=>exact⟨h 0 _ rfl,Bu (h 1 _ rfl)⟩|idx=>exact⟨h 0 _ rfl,h 1 _ rfl⟩|tbl=>exact⟨h 0 _ rfl,h 1 _ rfl,h 2 _ rfl,h 3 _ rfl,h 4 _ rfl⟩
theorem Bdb{w:World}{d:D}{v:Value}(h:FV w d v):BdD d:=by induction h with|int k n hu=>exact Ik hu|bool b=>trivial|str l hl=>simpa[BdD,ln,maxLen] using hl|nil c t a cap=>exact⟨by simp[ln],by simp⟩|sl c xs t b o cap u hle hm hc h ih =>refine⟨by simp only[ln,maxLen] at *;omega,λx hx=>Ax1 λj d hd =>?_⟩;obtain⟨i,hi,rfl⟩:=List.getElem_of_mem hx;exact ih i _ j d (Zo1 hi) hd
def BdS:(s:Sg)->den s->Prop
 |.int k,n=>inK k n
 |.bool,_=>True
 |.str,s=>ln s.length
 |.sl c _,xs=>Hl (BdK c) xs
 |.sv c,x=>BdK c x
 |.rw c n,xs=>xs.length=n/\∀x,x∈xs->BdK c x
 |.dn c,xs=>xs.length<=maxLen/\∀x,x∈xs->BdK c x
def BdL:(l:List Sg)->HV l->Prop
 |[],_=>True
 |[a],x=>BdS a x
 |a::b::l,(x,y)=>BdS a x/\BdL (b::l) y
theorem Bj8{x:Vx}{i:Nat}{s:Sg}{y:den s}{v:Value}(h:Rep x (Co i s y) v):BdS s y:=by cases s with|int k=>exact Ik h.u8|bool=>trivial|str=>simpa[BdS,ln,maxLen] using h.strLen|sl c own=>cases own<;>(simp only[Co,Rep] at h;exact Bdb h.1.here)|sv c =>simp only[Co,Rep] at h;obtain⟨_,vs,_,_,h⟩:=h;exact Ax1 λj d hd=>by obtain⟨u,_,hf⟩:=h j d hd;exact Bdb hf.here|rw c n =>simp only[Co,Rep] at h;obtain⟨h1,vs,_,_,h⟩:=h;refine⟨h1,λz hz=>Ax1 λj d hd =>?_⟩;obtain⟨i,hi,rfl⟩:=List.getElem_of_mem hz;obtain⟨u,_,hf⟩:=h i _ j d (Zo1 hi) hd;exact Bdb hf.here|dn c =>simp only[Co,Rep] at h;obtain⟨h1,vs,_,_,h⟩:=h;refine⟨h1,λz hz=>Ax1 λj d hd =>?_⟩;obtain⟨i,hi,rfl⟩:=List.getElem_of_mem hz;obtain⟨u,_,hf⟩:=h i _ j d (Zo1 hi) hd;exact Bdb hf.here
theorem Aab{x:Vx}:∀{l:List Sg}{i:Nat}{y:HV l}{vs:List Value},Reps x (Cc i l y) vs->BdL l y
 |[],_,_,_,_=>trivial
 |[a],i,y,vs,h=>by simp only[Cc,Reps] at h;obtain⟨u,us,_,h1,_⟩:=h;exact Bj8 h1
 |a::b::l,i,(y,z),vs,h=>by simp only[Cc,Reps] at h;obtain⟨u,us,_,h1,h2⟩:=h;exact⟨Bj8 h1,Aab h2⟩
section
variable {P:Program}{el:Ck->TypeId}{gl:Nat->Option Gv}{f:FuncId}{sa sr:List Sg}
theorem FnOk.fin{ι:Type}{F : ι->FT sa sr}{G:FT sa sr}(i0 : ι)(h:∀i,FnOk P el gl f sa sr (F i))(hG:∀x r,BdL sa x->G x=some r->∃i,F i x=some r):FnOk P el gl f sa sr G :=⟨(h i0).enters,λx r hx w M vs h1 h2 h3=>by obtain⟨i,hi⟩:=hG x r (Aab h3) hx;exact(h i).run x r hi w M vs h1 h2 h3⟩
theorem FnOk.fin0{F G:FT sa sr}(h:FnOk P el gl f sa sr F)(hG:∀x r,BdL sa x->G x=some r->F x=some r):FnOk P el gl f sa sr G :=.fin () (λ_=>h) λx r hb hx=>⟨(),hG x r hb hx⟩
end
theorem Amb{R:Type}{b:Bool}{x:Option R}(h:b=true):chk b x=x:=by subst h;rfl
theorem Bf{n:Int}(h:inI n):wr .i64 n=n:=by simp only[inI] at h;simp only[wr,IntKind.wrap,IntKind.signed,IntKind.bits,Bool.true_and];split<;>simp at * <;> omega
theorem Brt{i n:Nat}:inb (i:Int) n=decide (i<n):=by simp[inb]
theorem Bj2{i j n:Nat}:Ev (i:Int) (j:Int) n=(decide (i<=j)&&decide (j<=n)):=by simp[Ev]
abbrev Ren:=List (Nat×Nat)
def Hh:Ren->Nat->Option Nat
 |[],_=>none
 |(a,b)::l,n=>match Nat.beq a n with|true=>some b|false=>Hh l n
def At0(σ:Ren):Bool:=σ.all λp=>σ.all λq=>(Nat.beq p.1 q.1) == (Nat.beq p.2 q.2)
def Byp:D->D->Ren
 |.ptr k _,.ptr b _=>[(b,k)]
 |_,_=>[]
def Bv8:List D->List D->Ren
 |a::l,b::m=>Byp a b++Bv8 l m
 |_,_=>[]
def Byu:D->D->Ren
 |.ptr k _,.ptr b _=>[(b,k)]
 |.fn _ cs,.fn _ cs'=>Bv8 cs cs'
 |.bm _ cs,.bm _ cs'=>Bv8 cs cs'
 |_,_=>[]
def Ez(env:Env):List (Nat×D)->Ren
 |[]=>[]
 |(i,d)::l=>match get env i with|some d'=>Byu d d'++Ez env l|none=>Ez env l
def Bn3:D->Bool
 |.bool _|.int _ _|.str _|.sl _ _ _|.nilp|.nilfn|.gp _=>true
 |_=>false
def Bup(σ:Ren):D->Option D
 |.ptr b o=>match Hh σ b with|some k=>some (.ptr k o)|none=>none
 |d=>match Bn3 d with|true=>some d|false=>none
def Ape(σ:Ren):List D->Option (List D)
 |[]=>some []
 |d::l=>match Bup σ d,Ape σ l with|some d',some l'=>some (d'::l')|_,_=>none
def Bvq(σ:Ren):D->Option D
 |.fn f cs=>match Ape σ cs with|some cs'=>some (.fn f cs')|none=>none
 |.bm f cs=>match Ape σ cs with|some cs'=>some (.bm f cs')|none=>none
 |.agg ds=>match Ape σ ds with
  |some ds'=>match ds'.all lf with|true=>some (.agg ds')|false=>none
  |none=>none
 |.sv c x=>some (.sv c x)
 |.ep c x o=>some (.ep c x o)
 |d=>Bup σ d
def Bd7(σ:Ren):List D->Option (List D)
 |[]=>some []
 |d::l=>match Bvq σ d,Bd7 σ l with|some d',some l'=>some (d'::l')|_,_=>none
def Brh(σ:Ren):Blk->Option Blk
 |.cells ds=>match Bd7 σ ds with
  |some ds'=>match ds'.all lf with|true=>some (.cells ds')|false=>none
  |none=>none
 |k=>some k
def Bfx(σ:Ren)(nb:Nat):Bs->Bool
 |.fx ds=>ds.all λd=>(Ek d).all λb=>(match Hh σ b with
  |some k=>Nat.beq k b
  |none=>false)&&Nat.blt b nb
 |.oc _ b _=>(match Hh σ b with
  |some k=>Nat.beq k b
  |none=>false)&&Nat.blt b nb
 |_=>true
def Apr(bl:List (Nat×Blk))(σ0:Ren):Ren->Option (List (Nat×Blk))
 |[]=>some []
 |(b,k)::σ=>match blk bl b,Apr bl σ0 σ with
  |some K,some l=>match Brh σ0 K with|some K'=>some ((k,K')::l)|none=>none
  |_,_=>none
def Bxt:D->List Nat
 |.sl _ _ (.id t)=>[t]
 |_=>[]
def Bxy:Blk->List Nat
 |.cells ds=>ds.flatMap Bxt
 |.bld _ d=>Bxt d
 |_=>[]
def Bol(bl:List (Nat×Blk))(tk:List Nat):List Nat:=tk.filter λt=>(bl.flatMap λp=>Bxy p.2).contains t
def Fs(sg:Sig):Fr:=⟨sg.nb,sg.bl.map λp=>(p.1,.ptr p.1 0),0,0⟩
def Ac8(σ:Ren)(nw:List (Nat×Blk)):List (Nat×Blk)->List (Nat×Blk)
 |[]=>[]
 |(b,K)::l=>match Hh σ b with
  |none=>(b,K)::Ac8 σ nw l
  |some k=>match blk nw k with|some K'=>(b,K')::Ac8 σ nw l|none=>Ac8 σ nw l
section
variable {R:Type}
def L8(sg:Sig)(σ:Ren)(args:List D)(st:St):Option St:=match Bd7 σ args,Apr st.bl σ σ with|some as',some bl'=>some ⟨args.length,B6 0 as',sg.nb,0,[Fs sg],bl',sg.nb,Bol bl' st.tk,st.nt⟩|_,_=>none
def An(sg so:Sig)(F:HV sg.sgs->Option (HV so.sgs))(args:List D)(st:St)(K:List D->St->Option R):Option R :=
 match At0 (Ez (B6 0 args) sg.fix)&&(Ez (B6 0 args) sg.fix).all (λp=>Nat.blt p.2 sg.nb)&&so.bl.all (λp=>Bfx (Ez (B6 0 args) sg.fix) st.nb p.2),L8 sg (Ez (B6 0 args) sg.fix) args st with
 |true,some st0=>match J0 sg st0 with
  |some x=>(F x).bind λr=>K (match Nat.beq so.n so.vars.length with
     |true=>(Cc st.nt so.sgs r).take so.vars.length
     |false=>[.junk])
    { st with bl:=Ac8 (Ez (B6 0 args) sg.fix) (Dl so.bl ((Cc st.nt so.sgs r).drop so.vars.length)) st.bl,tk:=Bq st.nt so.sgs++st.tk.filter (λt => !(st0.tk).contains t),nt:=st.nt+so.sgs.length }
  |none=>none
 |_,_=>none
end
def lnB(sg so:Sig):Bool:=Y8 sg&&Y8 so&&Nat.beq sg.lt 0&&Nat.beq sg.lb sg.nb&&Nat.beq so.lt 0&&so.ow.isEmpty&&so.fix.isEmpty&&Nat.beq so.nb sg.nb&&Ew (so.vars.map (·.1)) (List.range so.vars.length)&&so.bl.all (λp=>(sg.bl.map (·.1)).contains p.1)&&((fxs so.bl).flatMap Ek).all (λb=>(sg.bl.map (·.1)).contains b)
structure FnLn (P:Program) (el:Ck->TypeId) (gl:Nat->Option Gv) (f:FuncId) (sg so:Sig) (F:HV sg.sgs->Option (HV so.sgs)):Prop where
 enters:Sx.Enters P f
 run:∀x r,F x=some r->BdL sg.sgs x->∀(cx:Cx) (m:Mp) (vs:List Value) (af:Act) (w:World),cx.P=P->cx.el=el->cx.gl=gl->Rel cx m ⟨vs.toArray,[]⟩ [af] (fs (D7 sg [Fs sg] x)) w ->
  Calls P f vs.toArray w λen w'=>∃us st' m',en = .returned (Sx.resv us)/\(∀k,(sg.bl.map (·.1)).contains k=true->m'.bl k=m.bl k)/\J0 so st' = some r/\Rel cx m' ⟨us.toArray,[]⟩ [af] (fs st') w'
theorem Aun(a b:Nat)(l:Ren)(n:Nat):Hh ((a,b)::l) n=if n=a then some b else Hh l n:=by
 simp only[Hh];by_cases h:n=a
 ·subst h;simp
 ·simp[Gg (Ne.symm h),h]
theorem Ro:∀{σ:Ren}{n k:Nat},Hh σ n=some k->(n,k)∈σ
 |[],_,_,h=>by simp[Hh] at h
 |(a,b)::l,n,k,h=>by
  rw[Aun] at h;by_cases hn:n=a
  ·rw[if_pos hn] at h;simp only[Za1] at h;subst hn h;exact Zr1
  ·rw[if_neg hn] at h;exact Zu1 _ (Ro h)
theorem Amr:∀{σ:Ren}{n k:Nat},(n,k)∈σ->∃k',Hh σ n=some k'
 |(a,b)::l,n,k,h=>by
  rw[Aun];by_cases hn:n=a
  ·exact⟨b,by rw[if_pos hn]⟩
  ·rw[if_neg hn];rcases List.mem_cons.1 h with h|h
   ·simp only[Zp1] at h;exact absurd h.1 hn
   ·exact Amr h
theorem Adi{σ:Ren}(h:At0 σ=true){p q:Nat×Nat}(hp:p∈σ)(hq:q∈σ):p.1=q.1↔p.2=q.2:=by
 have h1:=Zg2.1 (Zg2.1 h p hp) q hq;simp only[beq_iff_eq] at h1;constructor
 ·intro e;have:Nat.beq p.1 q.1=true:=by rw[e];exact Nat.beq_refl _
  rw[this] at h1;exact Zl1 h1.symm
 ·intro e;have:Nat.beq p.2 q.2=true:=by rw[e];exact Nat.beq_refl _
  rw[this] at h1;exact Zl1 h1
theorem Amw(σ:Ren)(nw:List (Nat×Blk)):∀(bl:List (Nat×Blk)) (b:Nat),blk (Ac8 σ nw bl) b=match Hh σ b with|none=>blk bl b|some k=>if(blk bl b).isSome then blk nw k else none
 |[],b=>by simp only[Ac8,blk];cases Hh σ b<;>simp
 |(q,K)::l,b=>by
  have ih:=Amw σ nw l b;simp only[Ac8];rw[A6];cases hq:Hh σ q with
  |none =>
   simp only;rw[A6,ih];by_cases hb:b=q
   ·subst hb;simp[hq]
   ·simp[hb]
  |some k =>
   simp only;by_cases hb:b=q
   ·subst hb;simp only[hq,if_true,Option.isSome_some];cases hk:blk nw k with|none=>simp only;rw[ih,hq];simp[hk]|some K'=>simp only;rw[A6,if_pos rfl]
   ·cases hk:blk nw k with|none=>simp only;rw[ih];simp[hb]|some K'=>simp only;rw[A6,if_neg hb,ih];simp[hb]
structure Lent (σ:Ren) (x x0:Vx):Prop where
 w:x0.w=x.w
 el:x0.el=x.el
 S:∀b i,x0.S b i->x.S b i
 bl:∀b k,Hh σ b=some k->k<x0.nb/\x0.m.bl k=x.m.bl b
 nt:x.nt<=x0.nt
 tk:∀t,x0.al t->x.al t/\x0.m.tk t=x.m.tk t
section
variable {σ:Ren}{x x0:Vx}
theorem Lent.rf(h:Lent σ x x0){d:D}{v:Value}(hr:RF x.S x.w d v):RF x0.S x0.w d v:=by rw[h.w];exact hr.later (Chg.refl _ _) λk i hi =>.inl (h.S k i hi)
theorem Lent.sl(h:Lent σ x x0){c:Ck}{xs:List (El c)}{t:Tk}{v:Value}(hr:Rep x (.sl c xs t) v):Rep x0 (.sl c xs t) v:=by
 simp only[Rep] at hr ⊢;refine⟨h.rf hr.1,?_⟩;cases t with
 |no=>trivial
 |nil=>exact hr.2
 |z=>exact hr.2
 |id t =>
  obtain⟨h1,h2⟩:=hr.2;refine⟨Zx1 h1 h.nt,λha =>?_⟩;obtain⟨a1,a2⟩:=h.tk t ha;rcases h2 a1 with ⟨p,q,r⟩|⟨g,cap,cur,p,q,r,s⟩
  ·exact .inl ⟨p,a2.trans q,r⟩
  ·exact .inr ⟨g,cap,cur,p,a2.trans q,by rw[h.w,h.el];exact r,s⟩
theorem Lent.p(h:Lent σ x x0){d d':D}{v:Value}(hd:Bup σ d=some d')(hr:Rep x d v):Rep x0 d' v:=by
 unfold Bup at hd;split at hd
 ·rename_i b o;split at hd
  ·rename_i k hk;simp only[Za1] at hd;subst hd;obtain⟨h1,h2⟩:=h.bl b k hk;simp only[Rep] at hr ⊢;exact⟨h1,by rw[h2];exact hr.2⟩
  ·cases hd
 ·split at hd
  ·rename_i hpl;simp only[Za1] at hd;subst hd;cases d<;>simp only[Bn3,Zj2] at hpl
   case sl c xs t=>exact h.sl hr
   all_goals simpa only[Rep] using hr
  ·cases hd
theorem Lent.ps(h:Lent σ x x0):∀{ds ds':List D}{vs:List Value},Ape σ ds=some ds'->Reps x ds vs->Reps x0 ds' vs
 |[],ds',vs,hd,hr=>by simp only[Ape,Za1] at hd;subst hd;simpa[Reps] using hr
 |d::ds,ds',vs,hd,hr=>by
  simp only[Ape] at hd;split at hd
  ·rename_i d1 l1 h1 h2;simp only[Za1] at hd;subst hd;simp only[Reps] at hr ⊢;obtain⟨u,us,rfl,q1,q2⟩:=hr;exact⟨u,us,rfl,h.p h1 q1,h.ps h2 q2⟩
  ·cases hd
theorem Lent.d(h:Lent σ x x0){d d':D}{v:Value}(hd:Bvq σ d=some d')(hr:Rep x d v):Rep x0 d' v:=by
 unfold Bvq at hd;split at hd
 ·split at hd
  ·rename_i cs' hcs;simp only[Za1] at hd;subst hd;simp only[Rep] at hr ⊢;obtain⟨vs,h1,h2⟩:=hr;exact⟨vs,h1,h.ps hcs h2⟩
  ·cases hd
 ·split at hd
  ·rename_i cs' hcs;simp only[Za1] at hd;subst hd;simp only[Rep] at hr ⊢;obtain⟨vs,h1,h2⟩:=hr;exact⟨vs,h1,h.ps hcs h2⟩
  ·cases hd
 ·split at hd
  ·rename_i ds' hds;split at hd
   ·rename_i hl;simp only[Za1] at hd;subst hd;simp only[Rep] at hr ⊢;obtain⟨_,vs,h1,h2⟩:=hr;exact⟨hl,vs,h1,h.ps hds h2⟩
   ·cases hd
  ·cases hd
 ·simp only[Za1] at hd;subst hd;simp only[Rep] at hr ⊢;obtain⟨h1,vs,h2,h3,h4⟩:=hr;exact⟨h1,vs,h2,h3,λj e he=>by obtain⟨u,hu,hf⟩:=h4 j e he;exact⟨u,hu,h.rf hf⟩⟩
 ·simp only[Za1] at hd;subst hd;simp only[Rep] at hr ⊢;obtain⟨b,o,h1,h2⟩:=hr;exact⟨b,o,h1,λw' hw=>h2 w' (by rw[h.w] at hw;exact hw.mono h.S)⟩
 ·exact h.p hd hr
theorem Lent.l(h:Lent σ x x0):∀{ds ds':List D}{vs:List Value},Bd7 σ ds=some ds'->Reps x ds vs->Reps x0 ds' vs
 |[],ds',vs,hd,hr=>by simp only[Bd7,Za1] at hd;subst hd;simpa[Reps] using hr
 |d::ds,ds',vs,hd,hr=>by
  simp only[Bd7] at hd;split at hd
  ·rename_i d1 l1 h1 h2;simp only[Za1] at hd;subst hd;simp only[Reps] at hr ⊢;obtain⟨u,us,rfl,q1,q2⟩:=hr;exact⟨u,us,rfl,h.d h1 q1,h.l h2 q2⟩
  ·cases hd
theorem Lent.b(h:Lent σ x x0){β:Nat}{K K':Blk}(hk:Brh σ K=some K')(hr:Lu x β K):Lu x0 β K':=by
 unfold Brh at hk;split at hk
 ·split at hk
  ·rename_i ds' hds;split at hk
   ·rename_i hl;simp only[Za1] at hk;subst hk;obtain⟨_,vs,t,h1,h2⟩:=hr;exact⟨hl,vs,t,by rw[h.w];exact h1,h.l hds h2⟩
   ·cases hk
  ·cases hk
 ·simp only[Za1] at hk;subst hk;cases K with|cells ds=>rename_i hne;exact absurd rfl (hne ds)|box c y =>obtain⟨h0,vs,t,h1,h2,h3⟩:=hr;exact⟨h0,vs,t,by rw[h.w];exact h1,h2,λj d hd=>by obtain⟨u,hu,hf⟩:=h3 j d hd;exact⟨u,hu,h.rf hf⟩⟩|row c n xs =>obtain⟨h0,vs,t,h1,h2,h3⟩:=hr;exact⟨h0,vs,t,by rw[h.w];exact h1,h2,λi y j d hy hd=>by obtain⟨u,hu,hf⟩:=h3 i y j d hy hd;exact⟨u,hu,h.rf hf⟩⟩|dyn c xs =>obtain⟨h0,vs,t,h1,h2,h3⟩:=hr;exact⟨h0,vs,t,by rw[h.w];exact h1,h2,λi y j d hy hd=>by obtain⟨u,hu,hf⟩:=h3 i y j d hy hd;exact⟨u,hu,h.rf hf⟩⟩|bld ty d =>obtain⟨⟨l,t,rfl⟩,a,v,h1,h2,h3⟩:=hr;exact⟨⟨l,t,rfl⟩,a,v,by rw[h.w];exact h1,h2,h.sl h3⟩
end
theorem Pn{bl:List (Nat×Blk)}{σ0:Ren}:∀{σ:Ren}{bl':List (Nat×Blk)},Apr bl σ0 σ=some bl'->∀k K',blk bl' k=some K'->∃b K,(b,k)∈σ/\blk bl b=some K/\Brh σ0 K=some K'
 |[],bl',h,k,K',hk=>by simp only[Apr,Za1] at h;subst h;simp[blk] at hk
 |(b,q)::σ,bl',h,k,K',hk=>by
  simp only[Apr] at h;split at h
  ·rename_i K l hb hl;split at h
   ·rename_i K1 hK;simp only[Za1] at h;subst h;rw[A6] at hk;by_cases hq:k=q
    ·subst hq;rw[if_pos rfl] at hk;simp only[Za1] at hk;subst hk;exact⟨b,K,Zr1,hb,hK⟩
    ·rw[if_neg hq] at hk;obtain⟨b',K2,h1,h2,h3⟩:=Pn hl k K' hk;exact⟨b',K2,Zu1 _ h1,h2,h3⟩
   ·cases h
  ·cases h
theorem Ame{bl:List (Nat×Blk)}{σ0:Ren}:∀{σ:Ren}{bl':List (Nat×Blk)},Apr bl σ0 σ=some bl'->∀b k,(b,k)∈σ->blk bl b≠none/\blk bl' k≠none
 |[],bl',h,b,k,hm=>by cases hm
 |(b0,q)::σ,bl',h,b,k,hm=>by
  simp only[Apr] at h;split at h
  ·rename_i K l hb hl;split at h
   ·rename_i K1 hK;simp only[Za1] at h;subst h;rw[A6];rcases List.mem_cons.1 hm with hm|hm
    ·simp only[Zp1] at hm;obtain⟨rfl,rfl⟩:=hm;exact⟨by rw[hb];simp,by simp⟩
    ·obtain⟨h1,h2⟩:=Ame hl b k hm;refine⟨h1,?_⟩;by_cases hq:k=q
     ·simp[hq]
     ·rw[if_neg hq];exact h2
   ·cases h
  ·cases h
theorem Hu{bl:List (Nat×Blk)}{tk:List Nat}{t:Nat}(h:t∈Bol bl tk):t∈tk:=(List.mem_filter.1 h).1
theorem Ji{x:Vx}:∀{ds:List D}{us:List Value}(i k:Nat) (d:D),Reps x ds us->get (B6 i ds) k=some d->∃v,i<=k/\us[k-i]? = some v/\Rep x d v
 |[],us,i,k,d,_,h=>by simp[B6,get] at h
 |e::ds,us,i,k,d,hr,h=>by
  simp only[Reps] at hr;obtain⟨u,us,rfl,h1,h2⟩:=hr;simp only[B6] at h;rw[Cm] at h;by_cases hk:k=i
  ·subst hk;simp at h;subst h;exact⟨u,Zn1 _,by simp,h1⟩
  ·rw[if_neg hk] at h;obtain⟨v,h3,h4,h5⟩:=Ji (i+1) k d h2 h;refine⟨v,by omega,?_,h5⟩;rw[show k-i=(k-(i+1))+1 by omega];simpa using h4
theorem Ay2:∀{bl:List (Nat×Bs)}{k:Nat}{d:D},get (bl.map λp=>(p.1,D.ptr p.1 0)) k=some d->d = .ptr k 0/\∃bs,(k,bs)∈bl
 |[],k,d,h=>by simp[get] at h
 |(q,bs)::bl,k,d,h=>by
  simp only[Zw1] at h;rw[Cm] at h;by_cases hk:k=q
  ·subst hk;simp at h;exact⟨h.symm,bs,Zr1⟩
  ·rw[if_neg hk] at h;obtain⟨h1,bs',h2⟩:=Ay2 h;exact⟨h1,bs',Zu1 _ h2⟩
theorem Aa2:∀{bl:List (Nat×Bs)}{k:Nat},(bl.map (·.1)).contains k=true->get (bl.map λp=>(p.1,D.ptr p.1 0)) k=some (.ptr k 0)
 |[],k,h=>by simp at h
 |(q,bs)::bl,k,h=>by
  simp only[Zw1];rw[Cm];by_cases hk:k=q
  ·subst hk;simp
  ·rw[if_neg hk];refine Aa2 (bl:=bl) ?_;simp only[Zw1,List.contains_cons,Zd2,beq_iff_eq] at h;exact h.resolve_left hk
section
variable {R:Type}{cx:Cx}
def Aq3(nb:Nat)(m0:Mp):Act:=⟨((List.range nb).map λk=>Value.pointer (some ⟨m0.bl k,0,none⟩)).toArray,[]⟩
theorem At2{nb:Nat}{m0:Mp}{k:Nat}(h:k<nb):(Aq3 nb m0).tmps[k]? = some (.pointer (some ⟨m0.bl k,0,none⟩)):=by simp[Aq3,h]
theorem Bpr{sg:Sig}(hok:Y8 sg=true){σ:Ren}(hσ:At0 σ=true)(hσn:∀p,p∈σ->p.2<sg.nb){args:List D}{st st0:St}(h0:L8 sg σ args st=some st0){m:Mp}{a:Act}{as_:List Act}{w:World}{vs:List Value}(hr:Rel cx m a as_ (fs st) w)(hargs:Reps (vx cx m (fs st) w) args vs) :
  ∃(m0:Mp) (cx0:Cx),cx0.P=cx.P/\cx0.el=cx.el/\cx0.gl=cx.gl/\cx0.w0=w/\(∀b k,Hh σ b=some k->m0.bl k=m.bl b)/\m0.tk=m.tk/\(∀b i,cx0.I b i->Dk m0 (fs st0) b i)/\(∀b i,cx0.M b i↔((vx cx m (fs st) w).S b i/\∀j,¬Dk m0 (fs st0) b j)) /\
   (∀b i,Dk m0 (fs st0) b i->Dk m (fs st) b i)/\Rel cx0 m0 ⟨vs.toArray,[]⟩ [Aq3 sg.nb m0] (fs st0) w:=by
 unfold L8 at h0;split at h0
 ·rename_i as' bl' ha hb;simp only[Za1] at h0;subst h0;let inv:Nat->Nat:=λk=>((σ.find? λp=>Nat.beq p.2 k).map (·.1)).getD 0;have hinv:∀b k,(b,k)∈σ->inv k=b:=λb k hm=>by
   have hs:(σ.find? λp=>Nat.beq p.2 k).isSome=true:=by rw[List.find?_isSome];exact⟨(b,k),hm,Nat.beq_refl k⟩
   obtain⟨p,hp⟩:=Option.isSome_iff_exists.1 hs;have h1:=List.mem_of_find?_eq_some hp;have h2:=List.find?_some hp;have h2:=Zl1 h2;simp only[inv,hp,Zl2,Option.getD_some];exact(Adi hσ h1 hm).2 h2
  let m0:Mp:=⟨λk=>m.bl (inv k),m.tk⟩;let s0:FS:=fs ⟨args.length,B6 0 as',sg.nb,0,[Fs sg],bl',sg.nb,Bol bl' st.tk,st.nt⟩;have hbl0:∀b k,Hh σ b=some k->m0.bl k=m.bl b:=λb k hk=>by simp only[m0,hinv b k (Ro hk)]
  have hs0:∀k,s0.bl k≠none->∃b,(b,k)∈σ/\(fs st).bl b≠none/\m0.bl k=m.bl b:=λk hk=>by cases hK:blk bl' k with|none=>exact absurd hK hk|some K' =>obtain⟨b,K,h1,h2,_⟩:=Pn hb k K' hK;exact⟨b,h1,by show blk st.bl b≠none;rw[h2];simp,by simp only[m0,hinv b k h1]⟩
  have hfp:∀b i,Dk m0 s0 b i->Dk m (fs st) b i:=by
   rintro b i (⟨k,hk,rfl⟩|⟨t,o,h1,h2,h3⟩)
   ·obtain⟨q,_,h2,h3⟩:=hs0 k hk;exact .inl ⟨q,h2,h3.symm⟩
   ·exact .inr ⟨t,o,Hu h1,h2,h3⟩
  let cx0:Cx:=⟨cx.P,w,Dk m0 s0,λb i=>(vx cx m (fs st) w).S b i/\∀j,¬Dk m0 s0 b j,cx.el,cx.gl⟩;have hS:∀b i,(vx cx0 m0 s0 w).S b i->(vx cx m (fs st) w).S b i:=by
   rintro b i (h|h)
   ·exact h.1
   ·exact .inr (hfp b i h)
  have hL:Lent σ (vx cx m (fs st) w) (vx cx0 m0 s0 w):=⟨rfl,rfl,hS,λb k hk=>⟨hσn _ (Ro hk),hbl0 b k hk⟩,Zn1 _,λt ht=>⟨Hu ht,rfl⟩⟩;have hreps:=hL.l ha hargs;have hlen:vs.length=args.length:=hargs.len;refine⟨m0,cx0,rfl,rfl,rfl,rfl,hbl0,rfl,λ_ _ h=>h,λ_ _=>Iff.rfl,hfp,?_⟩;show Rel cx0 m0 ⟨vs.toArray,[]⟩ [Aq3 sg.nb m0] s0 w;simp only[Y8,Zb1] at hok;obtain⟨⟨⟨_,hok2⟩,_⟩,_⟩:=hok;refine⟨Chg.refl _ _,⟨rfl,(by simpa using hlen:vs.toArray.size=args.length),λk d hk =>?_⟩,?_,Zn1 _,Nat.zero_le _,λk K' hk =>?_,λt ht =>?_,λb b' h1 h2 h3 =>?_,λt t' g o o' h1 h2=>hr.injt t t' g o o' (Hu h1) (Hu h2),λb t g o h1 h2 h3 =>?_,λb i hi=>⟨(hr.own b i (hfp b i hi)).1,.inl hi⟩,λb i j hm=>⟨?_,hm.2 j⟩,?_⟩
  ·obtain⟨v,_,h2,h3⟩:=Ji 0 k d hreps hk;exact⟨v,by simpa using h2,h3⟩
  ·refine⟨Aq3 sg.nb m0,[],rfl,Nat.zero_le _,Nat.zero_le _,⟨rfl,by simp[Aq3,Fs],λk d hk =>?_⟩,rfl⟩;obtain⟨rfl,bs,hm⟩:=Ay2 hk;have hlt:k<sg.nb:=by have:=Zg2.1 hok2 _ hm;simp only[Zb1] at this;simpa[Nat.blt_eq] using this.1
   exact⟨_,At2 hlt,by simp only[Rep];exact⟨hlt,rfl⟩⟩
  ·obtain⟨b,K,h1,h2,h3⟩:=Pn hb k K' hk;refine⟨hσn _ h1,?_⟩;have e:m0.bl k=m.bl b:=by simp only[m0,hinv b k h1]
   rw[e];exact hL.b h3 (hr.blks b K h2).2
  ·exact hr.als t (Hu ht)
  ·obtain⟨q,q1,q2,q3⟩:=hs0 b h1;obtain⟨q',p1,p2,p3⟩:=hs0 b' h2;rw[q3,p3] at h3;exact(Adi hσ q1 p1).1 (hr.inj q q' q2 p2 h3)
  ·obtain⟨q,_,q2,q3⟩:=hs0 b h1;rw[q3];exact hr.injbt q t g o q2 (Hu h2) h3
  ·rcases hm.1 with h|h
   ·have:=(hr.away b i 0 h).1;exact Zx1 this hr.chg.size
   ·exact(hr.own b i h).1
  ·exact⟨λg c xs hx i y hy w' hw=>hr.glb.1 g c xs hx i y hy w' (hw.mono hS),λg l hl=>by obtain⟨r,es,clk,q1,q2⟩:=hr.glb.2.1 g l hl;exact⟨r,es,clk,λw' hw=>q1 w' (hw.mono hS),q2⟩,λg k hk=>by obtain⟨n,q1⟩:=hr.glb.2.2 g k hk;exact⟨n,λw' hw=>q1 w' (hw.mono hS)⟩⟩
 ·cases h0
theorem Ii:∀{bl:List (Nat×Bs)}{E:List D}{k:Nat}{K:Blk},blk (Dl bl E) k=some K->(bl.map (·.1)).contains k=true
 |[],E,k,K,h=>by simp[Dl,blk] at h
 |(q,.cells l)::bl,E,k,K,h=>by
  simp only[Dl] at h;rw[A6] at h;simp only[Zw1,List.contains_cons,Zd2,beq_iff_eq];by_cases hk:k=q
  ·exact .inl hk
  ·rw[if_neg hk] at h;exact .inr (Ii h)
 |(q,.one s)::bl,[],k,K,h=>by
  simp only[Dl] at h;rw[A6] at h;simp only[Zw1,List.contains_cons,Zd2,beq_iff_eq];by_cases hk:k=q
  ·exact .inl hk
  ·rw[if_neg hk] at h;exact .inr (Ii h)
 |(q,.one s)::bl,d::E,k,K,h=>by
  simp only[Dl] at h;rw[A6] at h;simp only[Zw1,List.contains_cons,Zd2,beq_iff_eq];by_cases hk:k=q
  ·exact .inl hk
  ·rw[if_neg hk] at h;exact .inr (Ii h)
 |(q,.bld _)::bl,[],k,K,h=>by
  simp only[Dl] at h;rw[A6] at h;simp only[Zw1,List.contains_cons,Zd2,beq_iff_eq];by_cases hk:k=q
  ·exact .inl hk
  ·rw[if_neg hk] at h;exact .inr (Ii h)
 |(q,.bld _)::bl,d::E,k,K,h=>by
  simp only[Dl] at h;rw[A6] at h;simp only[Zw1,List.contains_cons,Zd2,beq_iff_eq];by_cases hk:k=q
  ·exact .inl hk
  ·rw[if_neg hk] at h;exact .inr (Ii h)
 |(q,.fx _)::bl,E,k,K,h=>by
  simp only[Dl] at h;rw[A6] at h;simp only[Zw1,List.contains_cons,Zd2,beq_iff_eq];by_cases hk:k=q
  ·exact .inl hk
  ·rw[if_neg hk] at h;exact .inr (Ii h)
 |(q,.oc _ _ _)::bl,E,k,K,h=>by
  simp only[Dl] at h;rw[A6] at h;simp only[Zw1,List.contains_cons,Zd2,beq_iff_eq];by_cases hk:k=q
  ·exact .inl hk
  ·rw[if_neg hk] at h;exact .inr (Ii h)
theorem Bk3{sg:Sig}(hok:Y8 sg=true){st:St}{x:HV sg.sgs}(hd:J0 sg st=some x){m:Mp}{a:Act}{as_:List Act}{w:World}(hr:Rel cx m a as_ (fs st) w):BdL sg.sgs x:=by
 simp only[Y8,Zb1] at hok;obtain⟨⟨⟨_,hok2⟩,_⟩,_⟩:=hok;unfold J0 at hd;split at hd
 ·rename_i A B O hA hB hO _;obtain⟨VA,hVA,_⟩:=Lb (env:=st.env) hr.env hA;obtain⟨VB,hVB,_⟩:=Dw (x:=vx cx m (fs st) w) (m:=m.bl) (stbl:=st.bl) (λb k hk=>(hr.blks b k hk).2) hB hok2;obtain⟨VO,hVO,_⟩:=I6 (env:=st.env) hr.env hO;have hAB:=hVA.append (hVB.append hVO);have:=Il (X:=vx cx m (fs st) w) (X':=⟨⟨m.bl,λp=>(asg 0 sg.sgs (A++(B++O)) p).bind m.tk⟩,λ_=>False,(vx cx m (fs st) w).S,w,0,sg.sgs.length,cx.el⟩) (λ_ _ h=>h) rfl rfl 0 hd (λt ht=>(List.mem_filter.1 ht).1) hAB (λp hp=>by have:=(Hd _ _ _ hp).2;exact⟨by simpa using this,rfl⟩)
  exact Aab this
 ·cases hd
theorem Bt9{vars:List (Nat×Sg)}(h:Ew (vars.map (·.1)) (List.range vars.length)=true){i k:Nat}{s:Sg}(hi:vars[i]? = some (k,s)):k=i:=by have h1:=Je h;have h2:=congrArg (·[i]?) h1;have hlt:=(Zi2.1 hi).1;simp only[List.getElem?_map,hi,Zl2] at h2;rw[List.getElem?_range hlt] at h2;simpa using h2
theorem Fo{stbl:List (Nat×Blk)}:∀{bl:List (Nat×Bs)}{B:List D},B7 stbl bl=some B->∀p,p∈bl->blk stbl p.1≠none
 |[],_,_,p,hp=>by cases hp
 |(b0,.cells l)::bl,B,hg,p,hp=>by
  simp only[B7] at hg;split at hg
  ·rename_i ds es hds hes;rcases List.mem_cons.1 hp with rfl|hp
   ·rw[hds];simp
   ·exact Fo hes p hp
  ·cases hg
 |(b0,.one s)::bl,B,hg,p,hp=>by
  simp only[B7] at hg;split at hg
  ·cases hg
  ·rename_i k es _ hk hes;rcases List.mem_cons.1 hp with rfl|hp
   ·rw[hk];simp
   ·exact Fo hes p hp
  ·cases hg
 |(b0,.bld t0)::bl,B,hg,p,hp=>by
  simp only[B7] at hg;split at hg
  ·rename_i t1 d es hk hes;rcases List.mem_cons.1 hp with rfl|hp
   ·rw[hk];simp
   ·exact Fo hes p hp
  ·cases hg
 |(b0,.fx l)::bl,B,hg,p,hp=>by
  simp only[B7] at hg;split at hg
  ·rename_i ds es hds hes;split at hg
   ·rcases List.mem_cons.1 hp with rfl|hp
    ·rw[hds];simp
    ·simp only[Za1] at hg;subst hg;exact Fo hes p hp
   ·cases hg
  ·cases hg
 |(b0,.oc l b1 c)::bl,B,hg,p,hp=>by
  simp only[B7] at hg;split at hg
  ·rename_i ds es hds hes;rcases List.mem_cons.1 hp with rfl|hp
   ·rw[hds];simp
   ·exact Fo hes p hp
  ·cases hg
theorem Aeo{σ:Ren}{nb:Nat}:∀{bl:List (Nat×Bs)},(bl.all λp=>Bfx σ nb p.2)=true->∀d,d∈fxs bl->∀b,b∈Ek d->Hh σ b=some b/\b<nb
 |[],_,d,hd=>by cases hd
 |(_,.cells _)::bl,h,d,hd=>by simp only[Zv1,Zb1] at h;exact Aeo h.2 d hd
 |(_,.one _)::bl,h,d,hd=>by simp only[Zv1,Zb1] at h;exact Aeo h.2 d hd
 |(_,.bld _)::bl,h,d,hd=>by simp only[Zv1,Zb1] at h;exact Aeo h.2 d hd
 |(_,.fx l)::bl,h,d,hd=>by
  simp only[Zv1,Zb1] at h;simp only[fxs,List.mem_append] at hd;rcases hd with hd|hd
  ·intro b hb;have h1:=Zg2.1 (Zg2.1 h.1 d hd) b hb;simp only[Zb1] at h1;refine⟨?_,by simpa[Nat.blt_eq] using h1.2⟩;cases hl:Hh σ b with|none=>rw[hl] at h1;cases h1.1|some k=>rw[hl] at h1;rw[Zl1 h1.1]
  ·exact Aeo h.2 d hd
 |(_,.oc l b1 c)::bl,h,d,hd=>by
  simp only[Zv1,Zb1] at h;simp only[fxs,List.mem_cons] at hd;rcases hd with rfl|hd
  ·intro b hb;simp only[Ek,List.mem_singleton] at hb;subst hb;have h1:=h.1;simp only[Bfx,Zb1] at h1;refine⟨?_,by simpa[Nat.blt_eq] using h1.2⟩;cases hl:Hh σ b with|none=>rw[hl] at h1;cases h1.1|some k=>rw[hl] at h1;rw[Zl1 h1.1]
  ·exact Aeo h.2 d hd
theorem Bpc{bl:List (Nat×Bs)}{d:D}{b:Nat}(hd:d∈fxs bl)(hb:b∈Ek d):b∈(fxs bl).flatMap Ek:=List.mem_flatMap.2 ⟨d,hd,hb⟩
theorem Ak8{env:Env}:∀{vars:List (Nat×Sg)}{A:List D},Ju env vars=some A->A.length=vars.length
 |[],A,h=>by simp only[Ju,Za1] at h;subst h;rfl
 |p::vars,A,h=>by
  simp only[Ju] at h;split at h
  ·rename_i d ds _ hds;simp only[Za1] at h;subst h;simp[Ak8 hds]
  ·cases h
theorem Asx{g:Nat}{sg so:Sig}{F:HV sg.sgs->Option (HV so.sgs)}(h:FnLn cx.P cx.el cx.gl g sg so F)(hok:lnB sg so=true){args:List D}{st:St}{K:List D->St->Option R}{r:R}(hc:An sg so F args st K=some r):Of cx g args st K r:=by
 simp only[lnB,Zb1] at hok;obtain⟨⟨⟨⟨⟨⟨⟨⟨⟨⟨k1,k2⟩,k3⟩,k4⟩,k5⟩,k6⟩,k7⟩,k8⟩,k10⟩,k11⟩,k12⟩:=hok;have k5:=Zl1 k5;refine⟨h.enters,λm a as_ w vs hr hargs =>?_⟩;unfold An at hc;generalize Ez (B6 0 args) sg.fix=σ at hc;split at hc
 ·rename_i st0 hσ h0;simp only[Zb1] at hσ;obtain⟨⟨hσ,hσn⟩,hσf⟩:=hσ;have hσn:∀p,p∈σ->p.2<sg.nb:=λp hp=>by simpa[Nat.blt_eq] using Zg2.1 hσn p hp
  split at hc
  ·rename_i x hx;cases hF:F x with
   |none=>rw[hF] at hc;cases hc
   |some r0 =>
    rw[hF,Zc1] at hc;obtain⟨m0,cx0,e1,e2,e3,e4,hbl0,htk0,hI,hM,hfp0,hrel0⟩:=Bpr k1 hσ hσn h0 hr hargs;have hbd:=Bk3 k1 hx hrel0;obtain⟨m0',hrel1⟩:=hrel0.recode k1 hx;have hst0:st0.fr=[Fs sg]/\(∀t,t∈st0.tk->t∈st.tk)/\∀b k,(b,k)∈σ->blk st0.bl k≠none:=by
     unfold L8 at h0;split at h0
     ·rename_i as' bl' ha hb;simp only[Za1] at h0;subst h0;exact⟨rfl,λt ht=>Hu ht,λb k hm=>(Ame hb b k hm).2⟩
     ·cases h0
    rw[hst0.1] at hrel1;refine(h.run x r0 hF hbd cx0 m0' vs _ w e1 e2 e3 hrel1).mono ?_;rintro en w' ⟨us,st1,m1,rfl,hbls,hdec,hrel2⟩;have hm1:∀k,(sg.bl.map (·.1)).contains k=true->m1.bl k=m0.bl k:=λk hk=>by
     rw[hbls k hk];have hf:=hrel1.frs;have e:(fs (D7 sg [Fs sg] x)).fr=[Fs sg]:=by unfold D7;split;rfl
     rw[e] at hf;obtain⟨a',r',he,_,_,henv,_⟩:=hf;simp only[Ze2] at he;obtain⟨rfl,_⟩:=he;obtain⟨v,hv,hrep⟩:=henv.get k _ (Aa2 hk);have hlt:k<sg.nb:=by simp only[List.contains_iff_mem,List.mem_map] at hk;obtain⟨p,hp,rfl⟩:=hk;simp only[Y8,Zb1] at k1;have:=Zg2.1 k1.1.1.2 p hp;simp only[Zb1] at this;simpa[Nat.blt_eq] using this.1
     rw[At2 hlt] at hv;simp only[Za1] at hv;subst hv;simp only[Rep,Value.pointer.injEq,Za1,Addr.mk.injEq] at hrep;exact hrep.2.1.symm
    simp only[Y8,Zb1] at k2;obtain⟨⟨⟨_,hok2⟩,_⟩,_⟩:=k2;unfold J0 at hdec;split at hdec
    ·rename_i A B O hA hB hO hcc;obtain⟨VA,hVA,hVA2⟩:=Lb (env:=st1.env) hrel2.env hA;obtain⟨VB,hVB,hVB2⟩:=Dw (x:=vx cx0 m1 (fs st1) w') (m:=m1.bl) (stbl:=st1.bl) (λb k hk=>(hrel2.blks b k hk).2) hB hok2;obtain⟨VO,hVO,_⟩:=I6 (env:=st1.env) hrel2.env hO;have hAB:=hVA.append (hVB.append hVO);obtain⟨as1,as2⟩:=Aci st.nt hdec;have hals:∀t,t∈(st1.tk.filter λt => !so.tk.contains t)->t∈st1.tk:=λt ht=>(List.mem_filter.1 ht).1;let E:=Cc st.nt so.sgs r0;let nw:=Dl so.bl (E.drop so.vars.length);let st':St:={ st with bl:=Ac8 σ nw st.bl,tk:=Bq st.nt so.sgs++st.tk.filter (λt => !(st0.tk).contains t),nt:=st.nt+so.sgs.length };let m':Mp:=⟨m.bl,λt=>if t<st.nt then m.tk t else(asg st.nt so.sgs (A++(B++O)) t).bind m1.tk⟩;have hchI:Chg cx0.I w w':=by have:=hrel2.chg;rw[e4] at this;exact this
     have hch:Chg (Dk m (fs st)) w w':=hchI.mono λb i hi=>hfp0 b i (hI b i hi);have htok:∀t,t∈Bq st.nt so.sgs++st.tk.filter (λt => !(st0.tk).contains t)->(t∈st.tk/\t∉st0.tk/\t<st.nt/\m'.tk t=m.tk t)\/(st.nt<=t/\t<st.nt+so.sgs.length/\m'.tk t=(asg st.nt so.sgs (A++(B++O)) t).bind m1.tk):=λt ht=>by
      simp only[List.mem_append,List.mem_filter] at ht;rcases ht with ht|⟨ht,hn⟩
      ·obtain⟨h1,h2⟩:=Hd _ _ _ ht;exact .inr ⟨h1,h2,by simp[m',Nat.not_lt.2 h1]⟩
      ·have hlt:t<st.nt:=hr.als t ht;refine .inl ⟨ht,λhm =>?_,hlt,by simp[m',hlt]⟩;simp[hm] at hn
     have hnewt:∀t g o,st.nt<=t->m'.tk t=some (g,o)->∃t1,asg st.nt so.sgs (A++(B++O)) t=some t1/\t1∈st1.tk/\m1.tk t1=some (g,o):=λt g o hge hg=>by simp only[m',if_neg (Nat.not_lt.2 hge)] at hg;cases ha:asg st.nt so.sgs (A++(B++O)) t with|none=>rw[ha] at hg;cases hg|some t1=>rw[ha,Zc1] at hg;exact⟨t1,rfl,hals _ (as1 t t1 ha).1,hg⟩
     have hfI0:∀b i,Dk m0 (fs st0) b i->(∃q k,(q,k)∈σ/\blk st.bl q≠none/\b=m.bl q)\/∃t o,t∈st0.tk/\m.tk t=some (b,o):=by
      rintro b i (⟨k,hk,rfl⟩|⟨t,o,h1,h2,h3⟩)
      ·unfold L8 at h0;split at h0
       ·rename_i as' bl' ha hb;simp only[Za1] at h0;subst h0;cases hK:blk bl' k with|none=>exact absurd hK hk|some K' =>obtain⟨q,K,q1,q2,_⟩:=Pn hb k K' hK;obtain⟨k',hk'⟩:=Amr q1;have hkk:k' = k:=(Adi hσ (Ro hk') q1).1 rfl;rw[hkk] at hk';exact .inl ⟨q,k,q1,by rw[q2];simp,hbl0 q k hk'⟩
       ·cases h0
      ·rw[htk0] at h2;exact .inr ⟨t,o,h1,h2⟩
     have apart_b:∀b,blk st.bl b≠none->Hh σ b=none->∀i,¬Dk m0 (fs st0) (m.bl b) i:=λb hb hl i hi=>by
      rcases hfI0 _ _ hi with ⟨q,k,q1,q2,q3⟩|⟨t,o,q1,q2⟩
      ·have:=hr.inj b q hb q2 q3;subst this;obtain⟨k',hk'⟩:=Amr q1;rw[hl] at hk';cases hk'
      ·exact hr.injbt b t _ _ hb (hst0.2.1 t q1) q2 rfl
     have apart_t:∀t g o,t∈st.tk->t∉st0.tk->m.tk t=some (g,o)->∀i,¬Dk m0 (fs st0) g i:=λt g o ht hn hg i hi=>by
      rcases hfI0 _ _ hi with ⟨q,k,q1,q2,q3⟩|⟨t',o',q1,q2⟩
      ·exact hr.injbt q t g o q2 ht hg q3.symm
      ·exact hn (hr.injt t t' g o o' ht (hst0.2.1 t' q1) hg q2▸q1)
     have hheap:∀b,b<w.heap.size->(∀i,¬Dk m0 (fs st0) b i)->w'.heap[b]? = w.heap[b]? :=λb hb hn=>hchI.block b hb λi hi=>hn i (hI b i hi);have hnwk:∀b k K,Hh σ b=some k->blk nw k=some K->(so.bl.map (·.1)).contains k=true/\m1.bl k=m.bl b:=λb k K hl hK=>by
      have h1:=Ii hK;refine⟨h1,?_⟩;have h2:(sg.bl.map (·.1)).contains k=true:=by simp only[List.contains_iff_mem,List.mem_map] at h1;obtain⟨p,hp,rfl⟩:=h1;exact Zg2.1 k11 p hp
      rw[hm1 k h2,hbl0 b k hl]
     have hbl':∀b K,blk (Ac8 σ nw st.bl) b=some K->(Hh σ b=none/\blk st.bl b=some K)\/∃k,Hh σ b=some k/\blk st.bl b≠none/\blk nw k=some K:=λb K hK=>by
      rw[Amw] at hK;cases hl:Hh σ b with
      |none=>rw[hl] at hK;exact .inl ⟨rfl,hK⟩
      |some k =>
       rw[hl] at hK;simp only at hK;split at hK
       ·rename_i hs;exact .inr ⟨k,rfl,by cases hq:blk st.bl b with|none=>rw[hq] at hs;cases hs|some _=>simp,hK⟩
       ·cases hK
     have hbl'n:∀b,(fs st').bl b≠none->blk st.bl b≠none:=λb hb=>by
      cases hK:blk (Ac8 σ nw st.bl) b with
      |none=>exact absurd hK hb
      |some K =>
       rcases hbl' b K hK with ⟨_,h2⟩|⟨_,_,h2,_⟩
       ·rw[h2];simp
       ·exact h2
     have hshE:ShL ((so.bl.map (·.2.sgs)).flatten++Apz so.ow) (E.drop so.vars.length):=by have hsh:=Ah8 st.nt so.sgs r0;simp only[Sig.sgs] at hsh;have hs2:=hsh.split.2;simp only[List.length_map] at hs2;exact hs2
     have hfp':∀b i,Dk m' (fs st') b i->Dk m (fs st) b i\/∃t1 o,t1∈st1.tk/\m1.tk t1=some (b,o)/\o<=i:=by
      rintro b i (⟨q,hq,rfl⟩|⟨t,o,h1,h2,h3⟩)
      ·exact .inl (.inl ⟨q,hbl'n q hq,rfl⟩)
      ·rcases htok t h1 with ⟨q1,_,_,q4⟩|⟨q1,_,_⟩
       ·rw[q4] at h2;exact .inl (.inr ⟨t,o,q1,h2,h3⟩)
       ·obtain⟨t1,_,p2,p3⟩:=hnewt t b o q1 h2;exact .inr ⟨t1,o,p2,p3,h3⟩
     have hfresh:∀t1 b o,t1∈st1.tk->m1.tk t1=some (b,o)->b<w'.heap.size/\(Dk m (fs st) b o\/w.heap.size<=b):=λt1 b o h1 h2=>by obtain⟨q1,q2⟩:=hrel2.own b o (.inr ⟨t1,o,h1,h2,Zn1 _⟩);rw[e4] at q2;exact⟨q1,q2.imp (λh=>hfp0 b o (hI b o h)) id⟩
     have hfresh':∀t1 b o,t1∈st1.tk->m1.tk t1=some (b,o)->cx0.I b o\/w.heap.size<=b:=λt1 b o h1 h2=>by obtain⟨_,q2⟩:=hrel2.own b o (.inr ⟨t1,o,h1,h2,Zn1 _⟩);rw[e4] at q2;exact q2
     have up:∀b o i,Dk m (fs st) b o->o<=i->Dk m (fs st) b i:=by
      rintro b o i (⟨q,hq,rfl⟩|⟨t,o',h1,h2,h3⟩) hoi
      ·exact .inl ⟨q,hq,rfl⟩
      ·exact .inr ⟨t,o',h1,h2,Nat.le_trans h3 hoi⟩
     have nx:Nx (vx cx m (fs st) w) (vx cx m' (fs st') w'):=by
      refine⟨hch.mono λb i hi =>.inr hi,?_,rfl,λ_ _=>rfl,Zn1 _,Nat.le_add_right _ _,λt ht ha =>?_⟩
      ·rintro b i (hm|hf)
       ·exact .inl (.inl hm)
       ·rcases hfp' b i hf with h|⟨t1,o,h1,h2,h3⟩
        ·exact .inl (.inr h)
        ·rcases(hfresh t1 b o h1 h2).2 with h|h
         ·exact .inl (.inr (up b o i h h3))
         ·exact .inr h
      ·have ht:t<st.nt:=ht;rcases htok t ha with ⟨q1,q2,_,q4⟩|⟨q1,_,_⟩
       ·exact⟨q1,q4,λg o hg=>hheap g (hr.own_t q1 hg) (apart_t t g o q1 q2 hg)⟩
       ·omega
     have hS:∀b i,(vx cx m' (fs st') w').S b i->(vx cx0 m1 (fs st1) w').S b i:=by
      rintro b i (hm|hf)
      ·exact .inl ((hM b i).2 ⟨.inl hm,λj hj=>hr.disj hm (hfp0 b j hj)⟩)
      ·rcases hf with ⟨q,hq,rfl⟩|⟨t,o,h1,h2,h3⟩
       ·cases hl:Hh σ q with
        |none=>exact .inl ((hM _ i).2 ⟨.inr (.inl ⟨q,hbl'n q hq,rfl⟩),apart_b q (hbl'n q hq) hl⟩)
        |some k =>
         cases hK:blk (Ac8 σ nw st.bl) q with
         |none=>exact absurd hK hq
         |some K =>
          rcases hbl' q K hK with ⟨h1,_⟩|⟨k',h1,_,h3⟩
          ·rw[hl] at h1;cases h1
          ·rw[hl] at h1;simp only[Za1] at h1;subst h1;obtain⟨q1,q2⟩:=hnwk q k K hl h3;refine .inr (.inl ⟨k,?_,q2⟩);simp only[List.contains_iff_mem,List.mem_map] at q1;obtain⟨p,hp,rfl⟩:=q1;exact Fo hB p hp
       ·rcases htok t h1 with ⟨q1,q2,_,q4⟩|⟨q1,_,_⟩
        ·rw[q4] at h2;exact .inl ((hM b i).2 ⟨.inr (.inr ⟨t,o,q1,h2,h3⟩),apart_t t b o q1 q2 h2⟩)
        ·obtain⟨t1,_,p2,p3⟩:=hnewt t b o q1 h2;exact .inr (.inr ⟨t1,o,p2,p3,h3⟩)
     have hreps:Reps (vx cx m' (fs st') w') E (VA++(VB++VO)):=Il (X:=vx cx0 m1 (fs st1) w') (X':=vx cx m' (fs st') w') hS rfl e2.symm st.nt hdec (λt ht=>hals t ht) hAB (λp hp=>by obtain⟨q1,q2⟩:=Hd _ _ _ hp;exact⟨q2,by simp[vx,m',Nat.not_lt.2 q1]⟩)
     have hfxs:∀d,d∈fxs so.bl->∀b,b∈Ek d->(vx cx m' (fs st') w').m.bl b=(vx cx0 m1 (fs st1) w').m.bl b/\b<(vx cx m' (fs st') w').nb:=λd hd b hb=>by obtain⟨q1,q2⟩:=Aeo hσf d hd b hb;refine⟨?_,q2⟩;show m.bl b=m1.bl b;rw[hm1 b (Zg2.1 k12 b (Bpc hd hb)),hbl0 b b q1]
     have hVAl:VA.length=so.vars.length:=by have h1:=hVA.len;have:=Ak8 hA;omega
     obtain⟨r1,r2⟩:=hreps.take;rw[hVAl] at r1 r2;have hVBl:VB.length=((so.bl.map (·.2.sgs)).flatten).length:=by have q1:=r2.len;have q2:=hshE.len;have q3:=hVO.len;have q4:=Sn hO;simp only[Zh1] at q1 q2;omega
     obtain⟨r3,r4⟩:=r2.take;rw[hVBl] at r3 r4;have husl:us.length=so.n:=by have:=hrel2.env.size;simp only[List.size_toArray] at this;simp only[Zb1] at hcc;have h2:st1.n=so.n:=Zl1 hcc.1.1.1.2;have h3:(fs st1).n=st1.n:=rfl;omega
     have hVAus:so.n=so.vars.length->VA=us:=by
      intro hn;apply List.ext_getElem?;intro i;by_cases hi:i<so.vars.length
      ·obtain⟨⟨k,s⟩,hks⟩:∃p,so.vars[i]? = some p:=⟨_,Zo1 hi⟩;obtain⟨v,h3,h4⟩:=hVA2 i k s hks;rw[Bt9 k10 hks] at h4;rw[h3];simpa using h4.symm
      ·rw[List.getElem?_eq_none (by omega),List.getElem?_eq_none (by omega)]
     refine⟨_,rfl,_,_,m',hc,⟨rfl,rfl,rfl,rfl,rfl⟩,hr.step (s':=fs st') rfl rfl rfl rfl rfl hch nx ?_ ?_ ?_ ?_ ?_ ?_,?_⟩
     ·intro b K' hK;rcases hbl' b K' hK with ⟨h1,h2⟩|⟨k,h1,h2,h3⟩
      ·obtain⟨q1,q2⟩:=hr.blks b K' h2;have hne:blk st.bl b≠none:=by rw[h2];simp
       exact⟨q1,q2.later nx (hheap _ (hr.own_b (b:=b) hne) (apart_b b hne h1))⟩
      ·obtain⟨q1,_,_⟩:=hVB2 (vx cx m' (fs st') w') _ ⟨rfl,e2.symm⟩ hfxs hshE.split.1 r3 k K' (by rw[Gy];exact h3);rw[(hnwk b k K' h1 h3).2] at q1;cases hq:blk st.bl b with|none=>exact absurd hq h2|some K0=>exact⟨(hr.blks b K0 hq).1,q1⟩
     ·intro t ht;rcases htok t ht with ⟨_,_,q,_⟩|⟨_,q,_⟩
      ·show t<st.nt+so.sgs.length;omega
      ·exact q
     ·exactλb b' h1 h2 h3=>hr.inj b b' (hbl'n b h1) (hbl'n b' h2) h3
     ·intro t t' g o o' h1 h2 h3 h4;rcases htok t h1 with ⟨q1,q2,q3,q4⟩|⟨q1,_,_⟩<;>rcases htok t' h2 with ⟨p1,p2,p3,p4⟩|⟨p1,_,_⟩
      ·rw[q4] at h3;rw[p4] at h4;exact hr.injt t t' g o o' q1 p1 h3 h4
      ·rw[q4] at h3;obtain⟨t1,_,s2,s3⟩:=hnewt t' g o' p1 h4;rcases hfresh' t1 g o' s2 s3 with h|h
       ·exact absurd (hI g o' h) (apart_t t g o q1 q2 h3 o')
       ·have:=hr.own_t q1 h3;omega
      ·rw[p4] at h4;obtain⟨t1,_,s2,s3⟩:=hnewt t g o q1 h3;rcases hfresh' t1 g o s2 s3 with h|h
       ·exact absurd (hI g o h) (apart_t t' g o' p1 p2 h4 o)
       ·have:=hr.own_t p1 h4;omega
      ·obtain⟨t1,s1,s2,s3⟩:=hnewt t g o q1 h3;obtain⟨t2,u1,u2,u3⟩:=hnewt t' g o' p1 h4;have:=hrel2.injt t1 t2 g o o' s2 u2 s3 u3;subst this;exact as2 t t' t1 s1 u1
     ·intro b t g o h1 h2 h3;have hb:=hbl'n b h1;show m.bl b≠g;rcases htok t h2 with ⟨q1,_,_,q4⟩|⟨q1,_,_⟩
      ·rw[q4] at h3;exact hr.injbt b t g o hb q1 h3
      ·obtain⟨t1,_,s2,s3⟩:=hnewt t g o q1 h3;intro e;cases hl:Hh σ b with
       |none =>
        rcases hfresh' t1 g o s2 s3 with h|h
        ·rw[<-e] at h;exact apart_b b hb hl o (hI _ o h)
        ·have:=hr.own_b (b:=b) hb;omega
       |some k =>
        cases hK:blk (Ac8 σ nw st.bl) b with
        |none=>exact absurd hK h1
        |some K =>
         rcases hbl' b K hK with ⟨h5,_⟩|⟨k',h5,_,h6⟩
         ·rw[hl] at h5;cases h5
         ·rw[hl] at h5;simp only[Za1] at h5;subst h5;obtain⟨_,u2⟩:=hnwk b k K hl h6;obtain⟨_,u4,_⟩:=hVB2 (vx cx m' (fs st') w') _ ⟨rfl,e2.symm⟩ hfxs hshE.split.1 r3 k K (by rw[Gy];exact h6);exact hrel2.injbt k t1 g o u4 s2 s3 (u2.trans e)
     ·intro b i hf;rcases hfp' b i hf with h|⟨t1,o,h1,h2,h3⟩
      ·exact⟨Zx1 (hr.own b i h).1 hch.size,.inl h⟩
      ·obtain⟨q1,q2⟩:=hfresh t1 b o h1 h2;exact⟨q1,q2.imp (λh=>up b o i h h3) id⟩
     ·cases hb:Nat.beq so.n so.vars.length with|true =>rw[<-hVAus (Zl1 hb)];exact Nu r1|false=>exact(show Rep _ .junk _ by simp[Rep])
    ·cases hdec
  ·cases hc
 ·cases hc
def Dr(sg so:Sig)(F:HV sg.sgs->Option (HV so.sgs))(args:List D)(st:St)(K:D->List Nat->St->Option R):Option R:=An sg so F args st λrs st'=>K (Hi rs) ((Ez (B6 0 args) sg.fix).map (·.1)) st'
def A51(st:St):St:=⟨0,[],0,0,[],st.bl,st.nb,st.tk,st.nt⟩
theorem Agv(sg so:Sig)(F:HV sg.sgs->Option (HV so.sgs))(args:List D)(st:St)(K:List D->St->Option R):An sg so F args st K=(An sg so F args (A51 st) λrs st'=>some (rs,st')).bind λx=>K x.1 { st with bl:=x.2.bl,tk:=x.2.tk,nt:=x.2.nt }:=by
 unfold An;have e:∀ σ,L8 sg σ args (A51 st)=L8 sg σ args st:=λ_=>rfl;rw[e];show(match(At0 (Ez (B6 0 args) sg.fix)&&(Ez (B6 0 args) sg.fix).all (λp=>Nat.blt p.2 sg.nb)&&so.bl.all (λp=>Bfx (Ez (B6 0 args) sg.fix) st.nb p.2)),L8 sg (Ez (B6 0 args) sg.fix) args st with|true,some st0=>_|_,_=>_)=(match(At0 (Ez (B6 0 args) sg.fix)&&(Ez (B6 0 args) sg.fix).all (λp=>Nat.blt p.2 sg.nb)&&so.bl.all (λp=>Bfx (Ez (B6 0 args) sg.fix) st.nb p.2)),L8 sg (Ez (B6 0 args) sg.fix) args st with|true,some st0=>_|_,_=>_:Option (List D×St)).bind _;cases (At0 (Ez (B6 0 args) sg.fix)&&(Ez (B6 0 args) sg.fix).all (λp=>Nat.blt p.2 sg.nb)&&so.bl.all (λp=>Bfx (Ez (B6 0 args) sg.fix) st.nb p.2)) with
 |false=>rfl
 |true =>
  cases L8 sg (Ez (B6 0 args) sg.fix) args st with
  |none=>rfl
  |some st0 =>
   simp only;cases J0 sg st0 with
   |none=>rfl
   |some x =>simp only;cases F x with|none=>rfl|some r=>rfl
theorem Bxr{s:FS}{st:St}(hW:C4 s (fs st)){m:Mp}{a:Act}{as_:List Act}{w:World}(hr:Rel cx m a as_ s w):∃st2:St,fs st2=s/\A51 st2=A51 st:=by
 have key:∀(n lo k:Nat),get ((List.range' lo n).filterMap λk=>(s.env k).map λd=>(k,d)) k=if lo<=k/\k<lo+n then s.env k else none:=by
  intro n;induction n with
  |zero=>intro lo k;simp only[List.range'_zero,List.filterMap_nil,get];rw[if_neg (by omega)]
  |succ n ih =>
   intro lo k;rw[List.range'_succ,List.filterMap_cons];cases hd:s.env lo with
   |none =>
    simp only[Option.map_none];rw[ih];by_cases hk:k=lo
    ·subst hk;rw[if_neg (by omega),if_pos (by omega),hd]
    ·by_cases h:lo<=k/\k<lo+(n+1)
     ·rw[if_pos h,if_pos (by omega)]
     ·rw[if_neg h,if_neg (by omega)]
   |some d =>
    simp only[Zl2,Cm];rw[ih];by_cases hk:k=lo
    ·subst hk;rw[if_pos rfl,if_pos (by omega),hd]
    ·rw[if_neg hk];by_cases h:lo<=k/\k<lo+(n+1)
     ·rw[if_pos h,if_pos (by omega)]
     ·rw[if_neg h,if_neg (by omega)]
 refine⟨⟨s.n,(List.range' 0 s.n).filterMap λk=>(s.env k).map λd=>(k,d),s.lb,s.lt,s.fr,st.bl,st.nb,st.tk,st.nt⟩,?_,rfl⟩;obtain⟨h1,h2,h3,h4⟩:=hW;refine FS.eq rfl ?_ rfl rfl rfl h1.symm h2.symm h3.symm h4.symm;funext k;show get _ k=s.env k;rw[key];by_cases hk : 0<=k/\k<0+s.n
 ·rw[if_pos hk]
 ·rw[if_neg hk];cases hd:s.env k with|none=>rfl|some d =>obtain⟨v,hv,_⟩:=hr.env.get k d hd;have h5:=(Zh2.1 hv).1;rw[hr.env.size] at h5;omega
theorem Bxd{g:Nat}{sg so:Sig}{F:HV sg.sgs->Option (HV so.sgs)}(h:FnLn cx.P cx.el cx.gl g sg so F)(hok:lnB sg so=true):Iz (R:=R) cx g (Dr sg so F):=by
 intro args st K r hc;have hc0:=hc;unfold Dr at hc;rw[Agv] at hc;cases hx:An sg so F args (A51 st) λrs st'=>some (rs,st') with
 |none=>rw[hx] at hc;cases hc
 |some x =>
  obtain⟨rs,sx⟩:=x;rw[hx] at hc;simp only[Zc1] at hc;have hkeep:∀b,b∉(Ez (B6 0 args) sg.fix).map (·.1)->blk sx.bl b=blk st.bl b:=by
   unfold An at hx;split at hx
   ·split at hx
    ·rename_i x0 hx0;cases hF:F x0 with
     |none=>rw[hF] at hx;cases hx
     |some r0 =>rw[hF,Zc1] at hx;simp only[Za1,Zp1] at hx;obtain⟨_,rfl⟩:=hx;intro b hb;show blk (Ac8 _ _ st.bl) b=_;rw[Amw];cases hl:Hh (Ez (B6 0 args) sg.fix) b with|none=>rfl|some k=>exact absurd (List.mem_map.2 ⟨(b,k),Ro hl,rfl⟩) hb
    ·cases hx
   ·cases hx
  refine⟨_,_,_,hc,⟨rfl,rfl,rfl,rfl,rfl⟩,Zn1 _,λb hb=>⟨λk hk=>(hkeep b hb).trans hk,λk hk _=>(hkeep b hb).symm.trans hk⟩,h.enters,λs m a as_ w vs hW hr hargs =>?_⟩;obtain⟨st2,e1,e2⟩:=Bxr hW hr;have h2:An sg so F args st2 (λrs st'=>some (rs,st'))=some (rs,{ st2 with bl:=sx.bl,tk:=sx.tk,nt:=sx.nt }):=by rw[Agv,e2,hx];rfl
  have h3:=(Asx h hok h2).2 m a as_ w vs (by rw[e1];exact hr) (by rw[e1];exact hargs);refine h3.mono ?_;rintro en w' ⟨v,k1,rs',st',m',k2,_,k4,k5⟩;simp only[Za1,Zp1] at k2;obtain⟨rfl,rfl⟩:=k2;have e3:fs { st2 with bl:=sx.bl,tk:=sx.tk,nt:=sx.nt }=Eo (fs { st with bl:=sx.bl,tk:=sx.tk,nt:=sx.nt }) s:=by
   have hnb:(A51 st2).nb=(A51 st).nb:=by rw[e2]
   refine FS.eq ?_ ?_ ?_ ?_ ?_ rfl hnb rfl rfl
   ·rw[<-e1];rfl
   ·rw[<-e1];rfl
   ·rw[<-e1];rfl
   ·rw[<-e1];rfl
   ·rw[<-e1];rfl
  rw[e3] at k4 k5;exact⟨v,k1,m',k4,k5⟩
end
abbrev FL(sg so:Sig):=HV sg.sgs->Option (HV so.sgs)
section
variable {R:Type}
def Bx3(gs:List Sg)(st:St)(rs:List D)(K:List D->St->Option R):Option R:=match gs with|[]=>K rs st|_::_=>Aob gs st rs K
theorem Btd{cx:Cx}{a:Act}{as_:List Act}{w:World}{r:R}{sr:List Sg}{m:Mp}{ds:List D}{st:St}{vs:List Value}{K:List D->St->Option R}(hr:Rel cx m a as_ (fs st) w)(hd:Reps (vx cx m (fs st) w) ds vs)(h:Bx3 sr st ds K=some r):∃ds' st' m',K ds' st' = some r/\Rel cx m' a as_ (fs st') w/\Nx (vx cx m (fs st) w) (vx cx m' (fs st') w)/\Reps (vx cx m' (fs st') w) ds' vs:=by cases sr with|nil=>exact⟨ds,st,m,h,hr,⟨Chg.refl _ _,λ_ _ h =>.inl h,rfl,λ_ _=>rfl,Zn1 _,Zn1 _,λt _ ha=>⟨ha,rfl,λ_ _ _=>rfl⟩⟩,hd⟩|cons s l=>exact Ahw hr hd h
def A4s(px:Px R)(fn:Func)(sg so:Sig)(x:HV sg.sgs)(fin:HV so.sgs->Option R):Option R:=match fn.body with
 |some c=>N3 px c { D7 sg [Fs sg] x with n:=fn.ntmps } λe st=>match e with
  |.exit _=>none
  |_=>match results px st fn.results.toList with
   |some rs=>Bx3 (so.vars.map (·.2)) st rs λrs' st'=>match J0 so { st' with n:=rs'.length,env:=B6 0 rs' } with|some r=>fin r|none=>none
   |none=>none
 |none=>none
theorem Brq(sg:Sig)(fr:List Fr)(x:HV sg.sgs):(D7 sg fr x).n=sg.n:=by unfold D7;split;rfl
theorem Azs(sg:Sig)(fr:List Fr)(x:HV sg.sgs):(D7 sg fr x).fr=fr:=by unfold D7;split;rfl
theorem Bkm{cx:Cx}{m m':Mp}{s s':FS}{w w':World}{sg:Sig}{af:Act}{lb lt lb' lt':Nat}(h:Ahs (vx cx m s w) lb lt [Fs sg] [af])(h':Ahs (vx cx m' s' w') lb' lt' [Fs sg] [af]){k:Nat}(hk:(sg.bl.map (·.1)).contains k=true):m'.bl k=m.bl k/\k<lb':=by obtain⟨a,r,e,_,_,h1,_⟩:=h;simp only[Ze2] at e;obtain⟨rfl,_⟩:=e;obtain⟨a',r',e',_,_,h2,_⟩:=h';simp only[Ze2] at e';obtain⟨rfl,_⟩:=e';obtain⟨v,hv,hr⟩:=h1.get k _ (Aa2 hk);obtain⟨v',hv',hr'⟩:=h2.get k _ (Aa2 hk);rw[hv] at hv';simp only[Za1] at hv';subst hv';simp only[Rep] at hr hr';obtain⟨_,rfl⟩:=hr;obtain⟨h3,h4⟩:=hr';simp only[Value.pointer.injEq,Za1,Addr.mk.injEq] at h4;exact⟨h4.1.symm,h3⟩
theorem Buj{P:Program}{el:Ck->TypeId}{gl:Nat->Option Gv}{f:FuncId}{fn:Func}{c:Code}{sg so:Sig}{px:Px (HV so.sgs)}{F:FL sg so}(hf:P.funcs[f]? = some fn)(hb:fn.body=some c)(hname:(fn.name == "runtime.NumGoroutine")=false)(hm:P.follows .mixedOrders=true)(hchk:(Gq fn.ntmps c&&Nat.ble sg.n fn.ntmps)=true)
  (hpx:∀cx:Cx,cx.P=P->cx.el=el->cx.gl=gl->PxOk cx px/\Em cx px/\CallQOk cx px/\∀b,b∈Bt c->Cl cx px b) (hF:∀x,A4s px fn sg so x some=F x):FnLn P el gl f sg so F:=by
 refine⟨Sx.enters_of hf (by rw[hb];rfl) hname,λx r hx _ cx m vs af w e1 e2 e3 hr =>?_⟩;subst e1 e2 e3;simp only[Zb1] at hchk;have hle:sg.n<=fn.ntmps:=Nat.le_of_ble_eq_true hchk.2;have hlen:vs.length=sg.n:=by have:=hr.env.size;have e:(fs (D7 sg [Fs sg] x)).n=sg.n:=Brq sg [Fs sg] x;rw[e] at this;simpa using this
 have hrel:Rel cx m { tmps:=vs.toArray++Array.replicate (fn.ntmps-vs.toArray.size) undef,defers:=[] } [af] (fs { D7 sg [Fs sg] x with n:=fn.ntmps }) w:=by
  refine⟨hr.chg,⟨rfl,?_,λk d hk =>?_⟩,hr.frs,hr.lb,hr.lt,hr.blks,hr.als,hr.inj,hr.injt,hr.injbt,hr.own,hr.away,hr.glb⟩
  ·show _=fn.ntmps;simp;omega
  ·obtain⟨v,h2,h3⟩:=hr.env.get k d hk;refine⟨v,?_,h3⟩;have hlt:k<vs.length:=by simpa using (Zh2.1 h2).1
   simp only[Array.getElem?_append,List.size_toArray,hlt,if_true];exact h2
 rw[<-hF] at hx;unfold A4s at hx;rw[hb] at hx;simp only at hx;obtain⟨h1,h2,h3,h4⟩:=hpx cx rfl rfl rfl;refine calls_of_wp hf hb (Dn h1 h2 h3 hm c _ _ r hchk.1 h4 hx _ m _ [af] w hrel ?_);intro e st' m' a' w' hk hsame hrel';have hfr:(fs st').fr=[Fs sg]:=hsame.2.trans (Azs sg [Fs sg] x);have hfr0:(fs (D7 sg [Fs sg] x)).fr=[Fs sg]:=Azs sg [Fs sg] x;cases e
 case exit=>cases hk
 all_goals
  simp only at hk;split at hk
  ·rename_i rs0 hrs;obtain⟨us,hrun,hreps0⟩:=Ib h1 hrel' hrs;have hdef:=hrel'.env.defers;obtain⟨rs,st2,m2,hk,hrel1,nx,hreps⟩:=Btd hrel' hreps0 hk;split at hk
   ·rename_i r' hr';simp only[Za1] at hk;subst hk;refine⟨hdef,Sx.resv us,?_,us,_,m2,rfl,λk hk =>?_,hr',?_⟩
    ·obtain⟨rl⟩:∃rl,fn.results=List.toArray rl:=⟨fn.results.toList,by simp⟩;rename_i hrl;rw[Sx.results_eq,hrl];rw[hrl] at hrun;simp only[List.mapM_toArray,Sem.run_bind,map_eq_pure_bind,Sem.run_pure,hrun,Result.andThen_ok];congr 1;match us with|[]=>rfl|[v]=>rfl|_::_::_=>simp[Sx.resv]
    ·have q1:=hr.frs;have q2:=hrel'.frs;rw[hfr0] at q1;rw[hfr] at q2;obtain⟨q3,q4⟩:=Bkm q1 q2 hk;exact(nx.bl k (Zx1 q4 hrel'.lb)).trans q3
    ·have hn:us.length=rs.length:=hreps.len;refine⟨hrel1.chg,⟨rfl,(by simpa using hn:us.toArray.size=rs.length),λk d hk =>?_⟩,hrel1.frs,hrel1.lb,hrel1.lt,hrel1.blks,hrel1.als,hrel1.inj,hrel1.injt,hrel1.injbt,hrel1.own,hrel1.away,hrel1.glb⟩;obtain⟨v,_,p2,p3⟩:=Ji 0 k d hreps hk;exact⟨v,by simpa using p2,p3⟩
   ·cases hk
  ·cases hk
theorem Bpy{P:Program}{el:Ck->TypeId}{gl:Nat->Option Gv}{f:FuncId}{fn:Func}{c:Code}{sg so:Sig}{px:Px (HV so.sgs)}{F:FL sg so}{n:Nat}(hf:P.funcs[f]? = some fn)(hb:fn.body=some c)(hname:(fn.name == "runtime.NumGoroutine")=false)(hm:P.follows .mixedOrders=true)(hchk:(Sv fn&&Nat.ble sg.n fn.ntmps)=true)(hn:L9 fn=n)
  (hpx:∀cx:Cx,cx.P=P->cx.el=el->cx.gl=gl->PxOk cx px/\Em cx px/\CallQOk cx px/\∀i,i<n->Cl cx px (lp fn i)) (hF:∀x,A4s px fn sg so x some=F x):FnLn P el gl f sg so F:=by
 refine Buj hf hb hname hm ?_ (λcx h1 h2 h3 =>?_) hF
 ·unfold Sv at hchk;rw[hb] at hchk;exact hchk
 ·obtain⟨q1,q2,q3,q4⟩:=hpx cx h1 h2 h3;exact⟨q1,q2,q3,Als hb hn q4⟩
end
section
variable {P:Program}{el:Ck->TypeId}{gl:Nat->Option Gv}{f:FuncId}{sg so:Sig}
theorem FnLn.fin{ι:Type}{F : ι->FL sg so}{G:FL sg so}(i0 : ι)(h:∀i,FnLn P el gl f sg so (F i))(hG:∀x r,BdL sg.sgs x->G x=some r->∃i,F i x=some r):FnLn P el gl f sg so G :=⟨(h i0).enters,λx r hx hb cx m vs af w h1 h2 h3 h4=>by obtain⟨i,hi⟩:=hG x r hb hx;exact(h i).run x r hi hb cx m vs af w h1 h2 h3 h4⟩
theorem FnLn.fin0{F G:FL sg so}(h:FnLn P el gl f sg so F)(hG:∀x r,BdL sg.sgs x->G x=some r->F x=some r):FnLn P el gl f sg so G :=.fin () (λ_=>h) λx r hb hx=>⟨(),hG x r hb hx⟩
theorem FnLn.none(he:Sx.Enters P f):FnLn P el gl f sg so (λ_ =>.none):=⟨he,λ_ _ h=>by cases h⟩
theorem FnLn.rec'{body:FL sg so->FL sg so}(he:Sx.Enters P f)(h:∀rf,FnLn P el gl f sg so rf->FnLn P el gl f sg so (body rf)):∀n,FnLn P el gl f sg so (Al body n)
 |0=>FnLn.none he
 |n+1=>h _ (FnLn.rec' he h n)
end
def Acz{R:Type}(nb nt:Nat)(pc:Px R)(fn:Func)(G:Kr R)(args:List D)(st:St)(K:List D->St->Option R):Option R:=match Nat.ble args.length fn.ntmps&&Nat.ble st.nb nb&&Nat.ble st.nt nt with
 |true=>Awe pc fn args { st with nb:=nb,nt:=nt } K
 |false=>G args st K
theorem Bni{R:Type}{cx:Cx}{g nb nt:Nat}{pc:Px R}{fn:Func}{G:Kr R}(h1:Kn cx g (A2 nb nt pc fn))(h2:Kn cx g G):Kn cx g (Acz nb nt pc fn G):=by
 intro args st K r hc;unfold Acz at hc;split at hc
 ·rename_i hn;exact h1 args st K r (by unfold A2;rw[hn];exact hc)
 ·exact h2 args st K r hc
def A86{R:Type}(Ts:List Nat)(args:List D)(st:St)(K:List D->St->Option R):Option R:=match args with
 |[.ptr b 0]=>match blk st.bl b with
  |some (.bld T _)=>match Ts.contains T with|true=>K [] st|false=>none
  |_=>none
 |_=>none
theorem Bxs{R:Type}{cx:Cx}{g:Nat}{Ts:List Nat}(he:Sx.Enters cx.P g)(hcc:∀T,T∈Ts->∀(b:Nat) (w:World) (a v:Value),w.heap[b]? = some (.cells #[a,v] T (0,0))->(a = .pointer none\/a = .pointer (some ⟨b,0,none⟩))->Calls cx.P g #[.pointer (some ⟨b,0,none⟩)] w λe w'=>e = .returned (.tuple #[])/\(w' = w\/w' = w.setCell ⟨b,0,none⟩ (.pointer (some ⟨b,0,none⟩)))):Kn (R:=R) cx g (A86 Ts):=by
 intro args st K r hc;refine⟨he,λm a as_ w vs hr hargs =>?_⟩;unfold A86 at hc;split at hc
 ·rename_i b;split at hc
  ·rename_i T d hb;split at hc
   ·rename_i hT;simp only[Reps,Rep] at hargs;obtain⟨u,us,rfl,⟨_,rfl⟩,rfl⟩:=hargs;obtain⟨hd,a0,v0,hh,ha,hrep⟩:=(hr.blks b _ hb).2;have hh:w.heap[m.bl b]? = some (.cells #[a0,v0] T (0,0)):=hh;refine(hcc T (by simpa using hT) (m.bl b) w a0 v0 hh ha).mono ?_;rintro en w' ⟨rfl,h|h⟩
    ·subst h;exact⟨_,rfl,[],st,m,hc,⟨rfl,rfl,rfl,rfl,rfl⟩,hr,by simp[Hi,Rep,Reps]⟩
    ·have h2:w'.heap[m.bl b]? = some (.cells #[.pointer (some ⟨m.bl b,0,none⟩),v0] T (0,0)):=by rw[h];simp only[World.setCell,Array.getElem?_modify,if_true];rw[hh];rfl
     have hch:Chg (λc _=>c=m.bl b) w w':=by subst h;refine⟨rfl,rfl,rfl,by simp[World.setCell],λk _ hn=>Below.heap_setCell _ _ _ _ (λe=>hn 0 e),λb' i v hv hn =>?_,Xd _ _ _⟩;rw[World.cell?_of_block (a:=⟨b',i,none⟩) (Below.heap_setCell _ _ _ _ (λe=>hn e))];exact hv
     have hrel:=hr.write (k :=.bld T d) (show(fs st).bl b=some (.bld T d) from hb) hch (λx' nx hw=>⟨hd,_,v0,by rw[hw];exact h2,.inr rfl,Rep.later nx _ _ hrep⟩);have hsame:({ fs st with bl:=λc=>if c=b then some (.bld T d) else(fs st).bl c }:FS)=fs st:=by
      refine FS.eq rfl rfl rfl rfl rfl ?_ rfl rfl rfl;funext c;by_cases hcb:c=b
      ·subst hcb;simp only[if_true];exact hb.symm
      ·simp only[if_neg hcb]
     rw[hsame] at hrel;exact⟨_,rfl,[],st,m,hc,⟨rfl,rfl,rfl,rfl,rfl⟩,hrel,by simp[Hi,Rep,Reps]⟩
   ·cases hc
  ·cases hc
 ·cases hc
theorem Bx8{R:Type}{cx:Cx}{g:Nat}{sg so:Sig}{F:FL sg so}(h:FnLn cx.P cx.el cx.gl g sg so F)(hok:lnB sg so=true):Kn (R:=R) cx g (An sg so F):=λ_ _ _ _ hc=>Asx h hok hc
end Go.Ax
