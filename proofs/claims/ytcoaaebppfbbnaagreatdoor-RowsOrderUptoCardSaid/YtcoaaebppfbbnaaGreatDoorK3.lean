/- Texts of the proof,one behind the other: AxQ,AxR,AxS,AxT,AxU,AxQf,AxQg,AxQh,AxVa,AxV,AxW,AxX,AxY,AxZ. -/
import Derived.Test.YtcoaaebppfbbnaaGreatDoorK2
set_option linter.all false
namespace Go.Ax
open Go.RowKit
section
variable {R:Type}{px:Px R}{cx:Cx}
theorem Le{st st':St}(h:Acm st st'):Ef (fs st') (fs st)=fs st':=by
 obtain⟨h1,h2,h3,h4,h5⟩:=h;simp only[Zp1] at h5;refine FS.eq ?_ ?_ ?_ ?_ ?_ rfl rfl rfl rfl h5.2.symm
 ·exact h1.symm
 ·simp[Ef,fs,h2]
 ·exact h3.symm
 ·exact h4.symm
 ·exact h5.1.symm
structure SEff (cx:Cx) (o:Oper) (st st':St) (d:D):Prop where
 same:Acm st st'
 run:∀(m:Mp) (a:Act) (as_:List Act) (w:World),Rel cx m a as_ (fs st) w->Yv cx.P a w o λv w'=>∃m',Rel cx m' a as_ (fs st') w'/\Rep (vx cx m' (fs st') w') d v
theorem Eff.seq{o:Oper}{st st':St}{d:D}(h:Eff cx px o st st' d):SEff cx o st st' d :=⟨h.same,λm a as_ w hr=>by have:=h.run (fs st) m a as_ w (λ_ _ _=>rfl) ⟨rfl,rfl,rfl,rfl⟩ hr;rwa[Le h.same] at this⟩
def H4(cx:Cx)(g:Nat)(args:List D)(st:St)(K:List D->St->Option R)(r:R):Prop:=Sx.Enters cx.P g/\∀(m:Mp) (a:Act) (as_:List Act) (w:World) (vs:List Value),Rel cx m a as_ (fs st) w->Reps (vx cx m (fs st) w) args vs->Calls cx.P g vs.toArray w λen w'=>∃v,en = .returned v/\∃rs st' m',K rs st' = some r/\Acm st st'/\Rel cx m' a as_ (fs st') w'/\Rep (vx cx m' (fs st') w') (Gw rs) v
def Ci(cx:Cx)(px:Px R):Prop:=∀(g:Nat) (args:List D) (st:St) (K:List D->St->Option R) (r:R),px.call g args st K=some r->H4 cx g args st K r
def Fb(cx:Cx)(g:Nat)(F:List D->St->(D->List Nat->St->Option R)->Option R):Prop:=∀(args:List D) (st:St) (K:D->List Nat->St->Option R) (r:R),F args st K=some r->∃d ws st',K d ws st' = some r/\Acm st st'/\st.nb<=st'.nb/\(∀b,b∉ws->Fh (fs st) (fs st') b)/\Sx.Enters cx.P g /\
 ∀(s:FS) (m:Mp) (a:Act) (as_:List Act) (w:World) (vs:List Value),Dc s (fs st)->Rel cx m a as_ s w->Reps (vx cx m s w) args vs->Calls cx.P g vs.toArray w λen w'=>∃v,en = .returned v/\∃m',Rel cx m' a as_ (Ef (fs st') s) w'/\Rep (vx cx m' (Ef (fs st') s) w') d v
structure CallQOk (cx:Cx) (px:Px R):Prop where
 q:∀(g:Nat) (args:List D) (K:List D->Option R) (r:R),px.callQ g args K=some r->∃rs,K rs=some r/\Sx.Enters cx.P g/\∀(s:FS) (m:Mp) (a:Act) (as_:List Act) (w:World) (vs:List Value),Rel cx m a as_ s w->Reps (vx cx m s w) args vs->Calls cx.P g vs.toArray w λen w'=>∃v,en = .returned v/\Rel cx m a as_ s w'/\Rep (vx cx m s w') (Gw (rs.map A3)) v
 w:∀g F,px.callW g=some F->Fb cx g F
def opB(o:Oper):Bool:=match o.op with|.call ⟨.builtin .len,_,⟨[_]⟩⟩=>true|.call ⟨.builtin .len,_,_⟩=>false|.select _ _=>false|_=>true
theorem Arq{o:Oper}(h:opB o=true):∀b xs ts,o.op = .call ⟨.builtin b,xs,ts⟩->b = .len->ts = #[ts.toList.headD 0]:=by intro b xs ts ho hb;subst hb;unfold opB at h;rw[ho] at h;obtain⟨l⟩:=ts;match l with|[]=>simp at h|[t]=>rfl|_::_::_=>simp at h
theorem Anl{P:Program}{a:Act}{w:World}{o:Oper}{f:Operand}{xs:Array Operand}{ts:Array TypeId}{g:Nat}{cvs vs:List Value}(ho:o.op = .call ⟨.value f,xs,ts⟩)(hf:a.eval f = .func (.func g) #[] cvs.toArray)(hx:xs.toList.map a.eval=vs)(he:Sx.Enters P g):(execOp a.eval o).run P w = .ok (.enter g (vs++cvs).toArray) w:=by
 have h2:xs.map a.eval=vs.toArray:=by apply Array.ext';simpa using hx
 simp[execOp,ho,resolve,hf,Deferred.ofValue,h2,invoke];simpa using (he (vs++cvs).toArray w)
theorem Awm{P:Program}{a:Act}{w:World}{o:Oper}{f:Operand}{xs:Array Operand}{ts:Array TypeId}{g:Nat}{fvs vs:List Value}(ho:o.op = .call ⟨.value f,xs,ts⟩)(hf:a.eval f = .func (.func g) fvs.toArray #[])(hx:xs.toList.map a.eval=vs)(he:Sx.Enters P g):(execOp a.eval o).run P w = .ok (.enter g (fvs++vs).toArray) w:=by
 have h2:xs.map a.eval=vs.toArray:=by apply Array.ext';simpa using hx
 simp[execOp,ho,resolve,hf,Deferred.ofValue,h2,invoke];simpa using (he (fvs++vs).toArray w)
theorem Bmh(hp:PxOk cx px)(hc:Ci cx px){o:Oper}(hb:opB o=true){st:St}{K:D->St->Option R}{r:R}(h:step px o st K=some r):∀(m:Mp) (a:Act) (as_:List Act) (w:World),Rel cx m a as_ (fs st) w->Yv cx.P a w o λv w'=>∃d st' m',K d st' = some r/\Acm st st'/\Rel cx m' a as_ (fs st') w'/\Rep (vx cx m' (fs st') w') d v:=by
 have fin:(∃d st',K d st' = some r/\SEff cx o st st' d)->∀(m:Mp) (a:Act) (as_:List Act) (w:World),Rel cx m a as_ (fs st) w->Yv cx.P a w o λv w'=>∃d st' m',K d st' = some r/\Acm st st'/\Rel cx m' a as_ (fs st') w'/\Rep (vx cx m' (fs st') w') d v:=by
  rintro⟨d,st',h1,h2⟩ m a as_ w hr;rcases h2.run m a as_ w hr with ⟨v,w',h3,m',h4,h5⟩|⟨f,args,w1,h3,h4⟩
  ·exact .inl ⟨v,w',h3,d,st',m',h1,h2.same,h4,h5⟩
  ·refine .inr ⟨f,args,w1,h3,h4.mono ?_⟩;rintro en w' ⟨v,e,m',h5,h6⟩;exact⟨v,e,d,st',m',h1,h2.same,h5,h6⟩
 have quiet:∀{K:D->St->Option R},(U3 px o st λd=>K d st)=some r->∃d st',K d st' = some r/\SEff cx o st st' d:=λh=>by obtain⟨d,hk,hq⟩:=Ac0 hp (Arq hb) h;exact⟨d,st,hk,(Bbn hq).seq⟩
 unfold step at h;split at h
 ·rename_i t ho;split at h
  ·rename_i n c hty;exact fin ⟨_,_,h,(S3 hp ho (.inl ⟨n,c,hty,rfl⟩)).seq⟩
  ·rename_i hna;split at h
   ·rename_i z hz;refine fin ⟨_,_,h,(S3 hp ho (.inr ⟨z,λe =>?_,hz,rfl⟩)).seq⟩;rw[e] at hz;cases hz
   ·cases h
 ·rename_i t x y ho;split at h
  ·rename_i c k n k' q hty hx hy;obtain⟨hc,hk⟩:=A0 h;simp at hc;have hu:=Q0 hc.1;exact fin ⟨_,_,hk,(Axd hp ho hty hx hy ⟨hu.2.1,hu.2.2⟩ hc.2).seq⟩
  ·cases h
 ·rename_i t x ho;split at h
  ·rename_i d hd;split at h
   ·rename_i hl;exact fin ⟨_,_,h,(A8h ho hd hl).seq⟩
   ·cases h
  ·cases h
 ·rename_i t len ps ho;split at h
  ·rename_i c hty;split at h
   ·rename_i xs hxs;exact fin ⟨_,_,h,(A2d hp ho hty hxs).seq⟩
   ·cases h
  ·cases h
 ·rename_i q t x ho;split at h
  ·rename_i l hx hty;split at h
   ·rename_i hs;obtain⟨_,hk⟩:=A0 h;exact fin ⟨_,_,hk,(Ato hp ho hx hty (Gc hs)).seq⟩
   ·cases h
  ·exact fin (quiet h)
 ·rename_i x y t t' ho;split at h
  ·rename_i c s d hty hx hy hbq;have hbq:=Zl1 hbq;subst hbq;unfold Auh at h;split at h
   ·rename_i c' xs;split at h
    ·rename_i hcc;subst hcc;split at h
     ·cases h
     ·rename_i ys hys;obtain⟨tk',rfl⟩:=Jw hys;by_cases hy0:ys=[]
      ·rw[show ys.isEmpty=true by rw[hy0];rfl,cond_true] at h;exact fin ⟨_,_,h,(Mb hp ho hty hx hy hy0).seq⟩
      ·rw[show ys.isEmpty=false by cases ys with|nil=>exact absurd rfl hy0|cons _ _=>rfl,cond_false] at h;obtain⟨hl,hk⟩:=A0 h;exact fin ⟨_,_,hk,(O4 hp ho hty hx hy hy0 (by simpa using hl)).seq⟩
    ·cases h
   ·rename_i _ hnf;unfold Rn at h;split at h
    ·split at h
     ·rename_i c' xs tk hcc;subst hcc;split at h
      ·cases h
      ·rename_i al hal;split at h
       ·cases h
       ·rename_i ys hys;obtain⟨hl,hk⟩:=A0 h;obtain⟨tk',rfl⟩:=Jw hys;exact fin ⟨_,_,hk,(Ahx hp ho hty hx hy hal (by simpa using hl)).seq⟩
     ·cases h
    ·cases h
  ·rename_i s l hty hx hy hbq;split at h
   ·rename_i hstr;unfold Rn at h;split at h
    ·split at h
     ·rename_i c' xs tk hcc;subst hcc;split at h
      ·cases h
      ·rename_i al hal;split at h
       ·cases h
       ·rename_i ys hys;obtain⟨hl,hk⟩:=A0 h;simp[toS] at hys;subst hys;exact fin ⟨_,_,hk,(Q7 hp ho hty (Gc hstr) hx hy hal (by simpa using hl)).seq⟩
     ·cases h
    ·cases h
   ·cases h
  ·cases h
 ·rename_i x y t t' ho;split at h
  ·rename_i c s d hty hx hy;unfold Bi1 at h;split at h
   ·rename_i b c1 p n;split at h
    ·rename_i c2 xs hbk;split at h
     ·rename_i ys hys hcc;simp only[Zb1,Zg1] at hcc;obtain⟨⟨e1,e2⟩,_⟩:=id hcc;subst e1;subst e2;obtain⟨hc,hk⟩:=A0 h;simp at hc;obtain⟨tk',rfl⟩:=Jw hys;exact fin ⟨_,_,hk,(A04 hp ho hty hx hy hbk (Zl1 hcc.2) hc.1.1 hc.1.2 hc.2).seq⟩
     ·cases h
    ·cases h
   ·cases h
  ·cases h
 ·rename_i f xs ts ho;split at h
  ·rename_i g caps hf;split at h
   ·rename_i ds hds;obtain⟨hent,hrun⟩:=hc g (ds++caps) st _ r h;intro m a as_ w hr;have hf':=hf;rw[Av] at hf';obtain⟨fv,_,h2,h3⟩:=hr.env.ev (env:=get st.env) hf';simp[Rep] at h3;obtain⟨cvs,rfl,hcaps⟩:=h3;obtain⟨vs,_,h5,h6⟩:=Ir hr.env (env:=get st.env) hds (λu q _=>by rw[Av]);refine .inr ⟨g,_,w,Anl ho h2 h5 hent,(hrun m a as_ w _ hr (h6.append hcaps)).mono ?_⟩;rintro en w' ⟨v,e,rs,st',m',k1,k2,k3,k4⟩;exact⟨v,e,_,st',m',k1,k2,k3,k4⟩
   ·cases h
  ·rename_i g fvs0 hf;split at h
   ·rename_i ds hds;obtain⟨hent,hrun⟩:=hc g (fvs0++ds) st _ r h;intro m a as_ w hr;have hf':=hf;rw[Av] at hf';obtain⟨fv,_,h2,h3⟩:=hr.env.ev (env:=get st.env) hf';simp[Rep] at h3;obtain⟨cvs,rfl,hcaps⟩:=h3;obtain⟨vs,_,h5,h6⟩:=Ir hr.env (env:=get st.env) hds (λu q _=>by rw[Av]);refine .inr ⟨g,_,w,Awm ho h2 h5 hent,(hrun m a as_ w _ hr (hcaps.append h6)).mono ?_⟩;rintro en w' ⟨v,e,rs,st',m',k1,k2,k3,k4⟩;exact⟨v,e,_,st',m',k1,k2,k3,k4⟩
   ·cases h
  ·cases h
 ·exact fin (quiet h)
theorem Iv{all:Array Oper}{o:Oper}{x:Vx}{n:Nat}{df:List D}{env:Nat->Option D}{a:Act}(he:EnvR x n df env a):(o.guard=none->Region.wanted o (yielded all a.tmps)=true)/\∀j b g,o.guard=some (j,b)->(all[j]?).bind (·.dst)=some g->(∀q,env g=some (.bool q)->Region.wanted o (yielded all a.tmps)=(q == b))/\(env g=some .undef->Region.wanted o (yielded all a.tmps)=false):=by
 refine⟨λh=>by simp[Region.wanted,h],λj b g hg hj=>⟨λq hq =>?_,λhq =>?_⟩⟩
 ·obtain⟨v,hv,hr⟩:=he.get g _ hq;obtain rfl:=Rep.bool hr;simp only[Region.wanted,hg,yielded,hj,Zc1,hv];cases q<;>cases b<;>rfl
 ·obtain⟨v,hv,hr⟩:=he.get g _ hq;simp[Rep] at hr;subst hr;simp only[Region.wanted,hg,yielded,hj,Zc1,hv];cases b<;>rfl
theorem Ig{st:St}{g:Nat}{d:D}(h:get st.env g=some d):fs (st.put g d)=fs st:=by
 rw[Jr];refine FS.eq rfl ?_ rfl rfl rfl rfl rfl rfl rfl;funext j;simp[FS.put,fs];by_cases hj:j=g
 ·subst hj;simp[h]
 ·simp[hj]
theorem Brs(hp:PxOk cx px)(hc:Ci cx px){o:Oper}(hb:opB o=true){st:St}{K:St->Option R}{r:R}(h:one px o st K=some r):∀(m:Mp) (a:Act) (as_:List Act) (w:World),Rel cx m a as_ (fs st) w->Akc cx.P a w o λa' w'=>∃m' st',K st' = some r/\(st'.n=st.n/\st'.fr=st.fr)/\Rel cx m' a' as_ (fs st') w':=by
 unfold one at h;split at h
 ·rename_i d hd;split at h
  ·rename_i hlt;have hlt:d<st.n:=by simpa using hlt
   intro m a as_ w hr;cases hy:Bll px o st with
   |some p =>
    obtain⟨b,ds⟩:=p;rw[hy] at h;unfold Bll at hy;split at hy
    ·rename_i f xs ts ho;split at hy
     ·rename_i b' hf;split at hy
      ·rename_i ds' hds;simp only[Za1,Zp1] at hy;obtain⟨rfl,rfl⟩:=hy;obtain⟨v,hv,hrep⟩:=hr.env.get f _ hf;simp only[Rep] at hrep;obtain⟨vs,_,h5,h6⟩:=Ir hr.env (env:=get st.env) hds (λu q _=>by rw[Av]);obtain⟨fn,tmps,asg,body,g1,g2⟩:=hp.yl _ _ _ _ _ h m a as_ w vs hr h6;refine .inr (.inr ⟨m.bl b',fn,tmps,asg,body,w,?_,g2.mono ?_⟩)
       ·have hv2:a.eval (.tmp f) = .func (.yield (m.bl b')) #[] #[]:=by rw[show a.eval (.tmp f)=v by simp[Act.eval,hv],hrep.2];rfl
        have h2:xs.map a.eval=vs.toArray:=by apply Array.ext';simpa using h5
        simp[execOp,ho,resolve,hv2,Deferred.ofValue,h2,invoke];exact g1
       ·rintro en w' ⟨u,rfl,dv,st',m',hk,hsame,h1,h2⟩;refine⟨u,rfl,m',_,hk,⟨hsame.1,congrArg Prod.fst hsame.2.2.2.2⟩,?_⟩;rw[Jr,hd];refine h1.put ?_ h2;show d<st'.n;rw[hsame.1];exact hlt
      ·cases hy
     ·cases hy
    ·cases hy
   |none =>
   rw[hy] at h;refine .inl ((Bmh hp hc hb h m a as_ w hr).runs λu w' ⟨v,st',m',hk,hsame,h1,h2⟩=>⟨m',_,hk,⟨hsame.1,congrArg Prod.fst hsame.2.2.2.2⟩,?_⟩);rw[Jr,hd];refine h1.put ?_ h2;show d<st'.n;rw[hsame.1];exact hlt
  ·cases h
 ·rename_i hd;unfold A9j at h;split at h
  ·rename_i f ts ho;split at h
   ·rename_i g caps he;intro m a as_ w hr;rw[Av] at he;obtain⟨v,_,hv,hrep⟩:=hr.env.ev (env:=get st.env) he;simp only[Rep] at hrep;obtain⟨cvs,rfl,hcaps⟩:=hrep;refine .inr (.inl ⟨{ target :=.fn (.func g) cvs.toArray,args := #[] },w,?_,m,_,h,⟨rfl,rfl⟩,?_⟩)
    ·simp[execOp,ho,resolve,hv,Deferred.ofValue]
    ·rw[hd];exact⟨hr.chg,⟨⟨_,_,rfl,⟨cvs,rfl,hcaps⟩,hr.env.defers⟩,hr.env.size,hr.env.get⟩,hr.frs,hr.lb,hr.lt,hr.blks,hr.als,hr.inj,hr.injt,hr.injbt,hr.own,hr.away,hr.glb⟩
   ·cases h
  obtain⟨st',hk,he⟩:=Aps (cx:=cx) hp h;intro m a as_ w hr;obtain⟨w',m',h1,h2⟩:=he.run (fs st) m a as_ w (λ_ _ _=>rfl) ⟨rfl,rfl,rfl,rfl⟩ hr;rw[Le he.same] at h2;refine .inl (.inr (.inl ⟨w',h1,m',st',hk,⟨he.same.1,congrArg Prod.fst he.same.2.2.2.2⟩,?_⟩));rw[hd];exact h2
theorem Bpf{o:Oper}{st:St}{m:Mp}{a:Act}{as_:List Act}{w:World}(hd:∀d,o.dst=some d->d<st.n)(hr:Rel cx m a as_ (fs st) w):Rel cx m (a.put o.dst undef) as_ (fs (off o st)) w:=by unfold off;cases hdst:o.dst with|none=>exact hr|some d =>rw[Jr];exact hr.put (hd d hdst) (by simp[Rep];rfl)
def Amg(n:Nat)(o:Oper):Bool:=match o.dst with|some d=>Nat.blt d n|none=>true
theorem A9w{x:Operand}{d:Nat}(h:Lz x d=true):x ≠ .tmp d:=by rintro rfl;simp[Lz] at h
theorem C3{a:Act}{x:Operand}{d:Nat}{v:Value}(h:Lz x d=true):(a.put (some d) v).eval x=a.eval x :=Act.eval_put λd' hd=>by simp at hd;subst hd;exact A9w h
theorem Gm{a:Act}{d:Nat}{v:Value}(h:d<a.tmps.size):(a.put (some d) v).eval (.tmp d)=v:=by simp[Act.put,Act.eval,h]
structure Fuse (cx:Cx) (o o2 o3:Oper) (st st2:St) (m:Mp) (a:Act) (as_:List Act) (w:World) where
 d:Nat
 d2:Nat
 t2:TypeId
 i:Operand
 u:TypeId
 y:Operand
 v7:Value
 vp:Value
 wA:World
 g:Nat
 off:Nat
 cs:List Value
 t0:TypeId
 us:List Value
 dst:o.dst=some d
 dst2:o2.dst=some d2
 dst3:o3.dst=none
 gd:o.guard=none
 gd2:o2.guard=none
 gd3:o3.guard=none
 op2:o2.op = .indexAddr t2 (.tmp d) i
 op3:o3.op = .store u (.tmp d2) y
 ne:d≠d2
 lt:d<st.n
 lt2:d2<st.n
 nei:Lz i d=true
 ney:Lz y d=true
 ney2:Lz y d2=true
 run:(execOp a.eval o).run cx.P w = .ok (.value v7) wA
 run2:∀(a':Act) (w':World),a'.eval (.tmp d)=v7->a'.eval i=a.eval i->(execOp a'.eval o2).run cx.P w' = .ok (.value vp) w'
 run3:∀(a':Act) (w':World) (cs':List Value),a'.eval (.tmp d2)=vp->a'.eval y=a.eval y->w'.heap[g]? = some (.cells cs'.toArray t0 (0,0))->cs'.length=cs.length->(execOp a'.eval o3).run cx.P w' = .ok .skip (Sx.setCells w' g off us)
 row:wA.heap[g]? = some (.cells cs.toArray t0 (0,0))
 far:∀b,blk st.bl b≠none->m.bl b≠g
 rest:∀k,k<w.heap.size->k≠g->wA.heap[k]? = w.heap[k]?
 one:Sx.one v7=true
 n:st2.n=st.n/\st2.fr=st.fr
 env7:∃c xs t,get st2.env d=some (.sl c xs t)
 envk:∀k,k≠d->k≠d2->get st2.env k=get st.env k
 bl:st2.bl=st.bl
 m':Mp
 rel:Rel cx m' ((a.put (some d) v7).put (some d2) vp) as_ (fs st2) (Sx.setCells wA g off us)
theorem Aw7(hp:PxOk cx px){o o2 o3:Oper}{st st2:St}(h:Aim px o o2 o3 st=some (true,st2)){m:Mp}{a:Act}{as_:List Act}{w:World}(hr:Rel cx m a as_ (fs st) w):Nonempty (Fuse cx o o2 o3 st st2 m a as_ w):=by
 unfold Aim at h;split at h
 ·rename_i x z t t' ho;split at h
  ·rename_i t2 aa i ho2;split at h
   ·rename_i u b y ho3;split at h
    ·rename_i d d2 hd hd2 hd3;split at h
     ·rename_i hc;simp only[Zb1,Option.isNone_iff_eq_none,Bool.not_eq_true',Nat.blt_eq] at hc;obtain⟨⟨⟨⟨⟨⟨⟨⟨⟨⟨⟨⟨g1,g2⟩,g3⟩,c1⟩,c2⟩,c3⟩,c4⟩,c5⟩,c6⟩,c7⟩,c8⟩,c9⟩,c10⟩:=hc;obtain rfl:=Zl1 c1;obtain rfl:=Zl1 c2;obtain rfl:=Zl1 c3;obtain rfl:=Zl1 c4;have hne:aa≠b:=Nat.ne_of_beq_eq_false c5;split at h
      ·rename_i c c' xs tk zs k n dy hty hx hz hi hy;split at h
       ·rename_i z0 e al hzs he hal hsz;split at h
        ·rename_i hcc;subst hcc;simp at h;obtain⟨⟨hlen,hn⟩,rfl⟩:=h;obtain⟨tkz,rfl⟩:=Jw hzs;rw[Av] at hx hz hi hy;obtain⟨v,_,hv,hrx⟩:=hr.env.ev (env:=get st.env) hx;obtain⟨vz,_,hvz,hrz⟩:=hr.env.ev (env:=get st.env) hz;obtain⟨vi,_,hvi,hri⟩:=hr.env.ev (env:=get st.env) hi;obtain⟨vy,_,hvy,hry⟩:=hr.env.ev (env:=get st.env) hy;obtain rfl:=Rep.int hri;obtain⟨hel,_,_⟩:=M3 he hry;obtain⟨v7,wA,g,cap,cs,t0,r1,r2,r3,r4,r5,r6,m',r7,r8⟩:=Bci (st:=st) hp hty hal hlen (s:=fs st) ⟨rfl,rfl,rfl,rfl⟩ hr hrx hrz hel o.type;have hexec:(execOp a.eval o).run cx.P w = .ok (.value v7) wA:=by simp[execOp,ho,resolve,invoke,builtin,hv,hvz,r1]
         obtain⟨by_,hT,_,_⟩:=Cj (hp.tt t2) hty;have hT0:=hT;obtain⟨hu,i0,zz,hi0,hz0,hsize,_,_,hpos⟩:=hT;simp only[Zb1] at hsz;have hus:Sx.tySz cx.P u=some vy.cells.size:=by rw[((Dp (hp.tt u) (Eu hsz.2).1).2.2),(Zl1 hsz.1),<-hel.1];simp
         have hes:Sx.tySz cx.P (cx.el c')=some (csz c'):=by unfold Sx.tySz;simp[hi0,hsize]
         refine⟨⟨aa,b,t2,i,u,y,v7,.pointer (some ⟨g,xs.length*csz c',none⟩),wA,g,xs.length*csz c',cs,t0,vy.cells.toList,hd,hd2,hd3,g1,g2,g3,ho2,ho3,hne,c6,c7,c8,c9,c10,hexec,λa' w' e1 e2 =>?_,λa' w' cs' e1 e2 e3 e4 =>?_,r3,r5,r6,by rw[r2];rfl,⟨rfl,rfl⟩,⟨c',xs++[e],.id st.nt,?_⟩,λk e1 e2 =>?_,rfl,m',?_⟩⟩
         ·have e5:a'.eval i = .int k n:=e2.trans hvi;subst hn;rw[r2] at e1;have hlt:(0:Int)<=(xs.length:Int)/\(xs.length:Int)<((xs.length+1:Nat):Int):=by omega
          simp[execOp,ho2,Instr.indexAt,e1,e5,asIntOf,run_underlying hu,if_pos hlt,Sx.run_sizeOf hes,Sx.add_mk]
         ·have e5:a'.eval y=vy:=e2.trans hvy;have hfit:xs.length*csz c'+0+vy.cells.toList.length<=cs'.length:=by rw[hel.1];omega
          obtain⟨q1,_,_⟩:=Sx.run_storeCells (P:=cx.P) vy.cells.toList w' g (xs.length*csz c') 0 cs' t0 e3 hfit hel.one;simp[execOp,ho3,Instr.storeAt,e1,e5,Instr.sureAddr,storeVar,Sx.run_sizeOf hus,ne_eq,if_false];rw[q1];simp
         ·simp[St.put,Bd,if_neg hne,if_true]
         ·simp[St.put,Bd,if_neg e1,if_neg e2];rfl
         ·have e9:Ef (fs (D4 { st with tk:=al })) (fs st)=fs (D4 { st with tk:=al }):=Le ⟨rfl,rfl,rfl,rfl,rfl⟩;rw[e9] at r7 r8;rw[Jr,Jr];refine(r7.put (k:=aa) c6 r8).put c7 ?_;simp[Rep]
        ·cases h
       ·cases h
      ·cases h
     ·cases h
    ·cases h
   ·cases h
  ·cases h
 ·cases h
theorem Atn{ro:Option Nat}(hp:PxOk cx px)(hc:Ci cx px){all:Array Oper}{o:Oper}{l:List Oper}{st:St}{K':St->Option R}{r:R}(hb:opB o=true)(hcm:Afq ro o=true)(hdst:Amg st.n o=true)(h:opG px all o st K' = some r){Q:Exit->Act->World->Prop}{m:Mp}{a:Act}{as_:List Act}{w:World}(hr:Rel cx m a as_ (fs st) w)
  (hgo:∀st' m' a' w',K' st' = some r->(st'.n=st.n/\st'.fr=st.fr)->Rel cx m' a' as_ (fs st') w'->wpListIn (FW ro) 0 cx.P all Q l a' w'):wpListIn (FW ro) 0 cx.P all Q (o::l) a w:=by
 have hdlt:∀d,o.dst=some d->d<st.n:=λd hd=>by simpa[Amg,hd] using hdst
 have run:∀{st1:St},fs st1=fs st->(st1.n=st.n/\st1.fr=st.fr)->Region.wanted o (yielded all a.tmps)=true->one px o st1 K' = some r->wpListIn (FW ro) 0 cx.P all Q (o::l) a w:=by intro st1 he hn hw h1;have hrr:=Brs hp hc hb h1 m a as_ w (by rw[he];exact hr);simp only[wpListIn,hw,if_true];refine Akc.wp hcm (hrr.mono λa' w' ⟨m',st',hk,hsn,h3⟩ =>?_);exact hgo st' m' a' w' hk ⟨hsn.1.trans hn.1,hsn.2.trans hn.2⟩ h3
 have skip:∀{st1:St},fs st1=fs st->(st1.n=st.n/\st1.fr=st.fr)->Region.wanted o (yielded all a.tmps)=false->K' (off o st1)=some r->wpListIn (FW ro) 0 cx.P all Q (o::l) a w:=by
  intro st1 he hn hw h1;have hn':(off o st1).n=st.n:=by rw[<-hn.1];unfold off;split<;>rfl
  have hf':(off o st1).fr=st.fr:=by rw[<-hn.2];unfold off;split<;>rfl
  have hrel:=Bpf (o:=o) (st:=st1) (λd hd=>by rw[hn.1];exact hdlt d hd) (by rw[he];exact hr);simp only[wpListIn,hw];exact⟨λ_ _=>trivial,hgo _ m _ w h1 ⟨hn',hf'⟩ hrel⟩
 obtain⟨g1,g2⟩:=Iv (all:=all) (o:=o) hr.env;simp[opG] at h;split at h
 ·rename_i hg;exact run rfl ⟨rfl,rfl⟩ (g1 hg) h
 ·rename_i j b hg;split at h
  ·cases h
  ·rename_i g hj;obtain⟨g3,g4⟩:=g2 j b g hg hj;split at h
   ·rename_i q hq;have hw:=g3 q hq;cases q with
    |true =>simp at h;cases b with|true=>exact run (Ig hq) ⟨rfl,rfl⟩ hw h|false=>exact skip (Ig hq) ⟨rfl,rfl⟩ hw h
    |false =>simp at h;cases b with|true=>exact skip (Ig hq) ⟨rfl,rfl⟩ hw h|false=>exact run (Ig hq) ⟨rfl,rfl⟩ hw h
   ·rename_i hq;exact skip rfl ⟨rfl,rfl⟩ (g4 hq) h
   ·cases h
theorem Di{all:Array Oper}{o:Oper}(h:o.guard=none)(a:Act):Region.wanted o (yielded all a.tmps)=true:=by simp[Region.wanted,h]
theorem Bk5{ro:Option Nat}{all:Array Oper}{o o2 o3:Oper}{l:List Oper}{st st2:St}{m:Mp}{a:Act}{as_:List Act}{w:World}{Q:Exit->Act->World->Prop}(hr:Rel cx m a as_ (fs st) w)(f:Fuse cx o o2 o3 st st2 m a as_ w)(hgo:wpListIn (FW ro) 0 cx.P all Q l ((a.put (some f.d) f.v7).put (some f.d2) f.vp) (Sx.setCells f.wA f.g f.off f.us)):wpListIn (FW ro) 0 cx.P all Q (o::o2::o3::l) a w:=by
 have hsz:a.tmps.size=st.n:=hr.env.size;have hd:f.d<a.tmps.size:=by rw[hsz];exact f.lt
 have hd2:f.d2<(a.put (some f.d) f.v7).tmps.size:=by simp[Act.put,hsz];exact f.lt2
 have e1:(a.put (some f.d) f.v7).eval (.tmp f.d)=f.v7:=Gm hd;have e2:(a.put (some f.d) f.v7).eval f.i=a.eval f.i:=C3 f.nei;have e3:((a.put (some f.d) f.v7).put (some f.d2) f.vp).eval (.tmp f.d2)=f.vp:=Gm hd2;have e4:((a.put (some f.d) f.v7).put (some f.d2) f.vp).eval f.y=a.eval f.y:=(C3 f.ney2).trans (C3 f.ney);simp only[wpListIn,Di f.gd,if_true];refine Y4.wp (.inl ⟨f.v7,f.wA,f.run,?_⟩);rw[f.dst];simp only[Di f.gd2,if_true];refine Y4.wp (.inl ⟨f.vp,f.wA,f.run2 _ _ e1 e2,?_⟩);rw[f.dst2];simp only[Di f.gd3,if_true];refine Y4.wp (.inr (.inl ⟨_,f.run3 _ _ _ e3 e4 f.row rfl,?_⟩));rw[f.dst3];exact hgo
theorem S2{ro:Option Nat}(hp:PxOk cx px)(hc:Ci cx px){all:Array Oper}:∀{l:List Oper}{st:St}{K:St->Option R}{r:R},(l.all λo=>opB o&&Amg st.n o)=true->(l.all λo=>Afq ro o)=true->ops px all l st K=some r ->
  ∀{Q:Exit->Act->World->Prop}{m:Mp}{a:Act}{as_:List Act}{w:World},Rel cx m a as_ (fs st) w->(∀st' m' a' w',K st' = some r->(st'.n=st.n/\st'.fr=st.fr)->Rel cx m' a' as_ (fs st') w'->Q .normal a' w')->wpListIn (FW ro) 0 cx.P all Q l a w
 |[],st,K,r,_,_,h,Q,m,a,as_,w,hr,hQ=>hQ st m a w h ⟨rfl,rfl⟩ hr
 |[o],st,K,r,hl,hcl,h,Q,m,a,as_,w,hr,hQ=>by simp only[Zv1,Zb1] at hl hcl;exact Atn hp hc hl.1.1 hcl.1 hl.1.2 h hr λst' m' a' w' k1 k2 k3=>hQ st' m' a' w' k1 k2 k3
 |[o,o2],st,K,r,hl,hcl,h,Q,m,a,as_,w,hr,hQ=>by simp only[Zv1,Zb1] at hl hcl;refine Atn hp hc hl.1.1 hcl.1 hl.1.2 (show opG px all o st (λst'=>ops px all [o2] st' K)=some r from h) hr λst' m' a' w' k1 k2 k3 =>?_;exact S2 hp hc (by rw[k2.1];simp only[Zv1,Zb1];exact hl.2) (by simp only[Zv1,Zb1];exact hcl.2) k1 k3 (λst2 m2 a2 w2 q1 q2 q3=>hQ st2 m2 a2 w2 q1 ⟨q2.1.trans k2.1,q2.2.trans k2.2⟩ q3)
 |o::o2::o3::l,st,K,r,hl,hcl,h,Q,m,a,as_,w,hr,hQ=>by
  rw[Zv1,Zb1] at hl hcl;obtain⟨hl1,hl2⟩:=hl;simp at hl1;simp[ops] at h;split at h
  ·rename_i p hp3;obtain⟨c,st2⟩:=p;obtain⟨hcc,hk⟩:=A0 h;simp only at hcc hk;subst hcc;obtain⟨f⟩:=Aw7 hp hp3 hr;refine Bk5 hr f ?_;simp only[Zv1,Zb1] at hl2;have hcl2:=hcl.2;simp only[Zv1,Zb1] at hcl2;exact S2 hp hc (by rw[f.n.1];exact hl2.2.2) hcl2.2.2 hk f.rel (λst3 m3 a3 w3 q1 q2 q3=>hQ st3 m3 a3 w3 q1 ⟨q2.1.trans f.n.1,q2.2.trans f.n.2⟩ q3)
  ·refine Atn hp hc hl1.1 hcl.1 hl1.2 h hr λst' m' a' w' k1 k2 k3 =>?_;exact S2 hp hc (by rw[k2.1];exact hl2) hcl.2 k1 k3 (λst2 m2 a2 w2 q1 q2 q3=>hQ st2 m2 a2 w2 q1 ⟨q2.1.trans k2.1,q2.2.trans k2.2⟩ q3)
end
theorem A0a{x:Vx}{c:Ck}{xs:List (El c)}{t:Tk}{v:Value}(h:Rep x (.sl c xs t) v):Rep x (A3 (.sl c xs t)) v:=by simp only[A3,Rep] at h ⊢;refine⟨h.1,?_⟩;cases t with|id t=>trivial|_=>exact h.2
section
variable {R:Type}{px:Px R}{cx:Cx}
def sW(o:Oper)(t s:FS):FS:=if isW o then Ef t s else s
structure EffD (cx:Cx) (px:Px R) (o:Oper) (st st':St) (d:D) (ws:List Nat):Prop where
 same:Acm st st'
 still:isW o=false->fs st' = fs st
 mono:st.nb<=st'.nb
 keep:∀b,b∉ws->Fh (fs st) (fs st') b
 run:∀(s:FS) (m:Mp) (a:Act) (as_:List Act) (w:World),(∀t x,x∈o.op.operands->evF px s.env t x=evF px (get st.env) t x)->OkW o (fs st) s->Rel cx m a as_ s w->Yv cx.P a w o λv w'=>∃m',Rel cx m' a as_ (sW o (fs st') s) w'/\Rep (vx cx m' (sW o (fs st') s) w') d v
theorem X0{o:Oper}{st st':St}{d:D}{ws:List Nat}(hw:isW o=true)(hm:st.nb<=st'.nb)(hk:∀b,b∉ws->Fh (fs st) (fs st') b)(h:Eff cx px o st st' d):EffD cx px o st st' d ws :=⟨h.same,λe=>by(rw[hw] at e;cases e),hm,hk,λs m a as_ w hag hW hr=>by have:=h.run s m a as_ w hag (hW.1 hw) hr;simpa[sW,hw] using this⟩
theorem Mr(st:St):∀b,b∉([]:List Nat)->Fh (fs st) (fs st) b:=λb _=>Fh.of_bl rfl b
theorem Bvq{o:Oper}{st:St}{d:D}(hw:isW o=false)(h:A7u cx px o (get st.env) (blk st.bl) d):EffD cx px o st st d [] :=⟨⟨rfl,rfl,rfl,rfl,rfl⟩,λ_=>rfl,Zn1 _,Mr st,λs m a as_ w hag hW hr=>by obtain⟨v,h1,h2⟩:=h s m a as_ w hag hW.2 hr;exact .inl ⟨v,w,h1,m,by simpa[sW,hw] using hr,by simpa[sW,hw] using h2⟩⟩
theorem A12{o:Oper}{st:St}{K:D->Option R}{r:R}(h:U3 px o st K=some r):isW o=false:=by
 unfold U3 at h;split at h<;>rename_i ho<;>first
  |(simp[isW,ho];done)
  |(cases h;done)
  |skip
 rename_i b xs ts;split at h
 ·rename_i ds hds;split at h
  ·rename_i d hd;simp[isW,ho];unfold Z1 at hd;split at hd<;>first|rfl|cases hd
  ·cases h
 ·cases h
theorem Ba2(hp:PxOk cx px)(hcq:CallQOk cx px){o:Oper}(hb:opB o=true){st:St}{K:D->List Nat->St->Option R}{r:R}(h:Bl1 px o st K=some r):∃d ws st',K d ws st' = some r/\EffD cx px o st st' d ws:=by
 have quiet:(U3 px o st λd=>K d [] st)=some r->∃d ws st',K d ws st' = some r/\EffD cx px o st st' d ws:=λh=>by have hw:=A12 h;obtain⟨d,hk,hq⟩:=Ac0 hp (Arq hb) h;exact⟨d,_,st,hk,Bvq hw hq⟩
 have newKeep:∀k,blk st.bl st.nb=none->∀b,b∉([]:List Nat)->Fh (fs st) (fs (G7 st k)) b:=λk hfr b _=>by
  have e:∀b,(fs (G7 st k)).bl b=if b=st.nb then some k else blk st.bl b:=λb=>Aw st.bl st.nb b k
  refine⟨λq hb =>?_,λq hb hlt =>?_⟩
  ·have hb:blk st.bl b=some q:=hb;rw[e,if_neg (λh=>by rw[h,hfr] at hb;cases hb)];exact hb
  ·have hlt:b<st.nb:=hlt;rw[e,if_neg (by omega)] at hb;exact hb
 unfold Bl1 at h;split at h
 ·rename_i t len ps ho;have hw:isW o=false:=by simp[isW,ho]
  simp[step,ho] at h;split at h
  ·rename_i c hty;split at h
   ·rename_i xs hxs;refine⟨_,_,_,h,⟨rfl,rfl,rfl,rfl,rfl⟩,λ_=>rfl,Zn1 _,Mr st,λs m a as_ w hag _ hr =>?_⟩;obtain⟨hxl,hlm,us,hrow,hrun⟩:=Ae3 hp ho hty hxs hag hr;simp[sW,hw,if_false];refine .inl ⟨_,_,hrun,m,hr.quiet (Ez w _).1,?_⟩;have:=Aww hr (Ez w (.cells us.toArray (cx.el c))).1 hrow ⟨Zn1 _,by rw[hxl];exact hlm⟩ (λj u hj=>by simp only[World.cell?,B2];simpa using hj)
    rw[hxl] at this;simp only[Bsb,Rep] at this ⊢;exact⟨this.1,_,by rw[hxl]⟩
   ·cases h
  ·cases h
 ·rename_i q t x ho;have hw:isW o=false:=by simp[isW,ho]
  simp[step,ho] at h;split at h
  ·rename_i l hx hty;split at h
   ·rename_i hs;obtain⟨_,hk⟩:=A0 h;refine⟨_,_,_,hk,⟨rfl,rfl,rfl,rfl,rfl⟩,λ_=>rfl,Zn1 _,Mr st,λs m a as_ w hag _ hr =>?_⟩;obtain⟨v,w',h1,h2,h3⟩:=U4 hp ho hx hty (Gc hs) hag hr;simp[sW,hw,if_false];exact .inl ⟨v,w',h1,m,h2,h3⟩
   ·cases h
  ·obtain⟨d,hk,hq⟩:=Ac0 hp (Arq hb) h;refine⟨_,_,_,hk,⟨rfl,rfl,rfl,rfl,rfl⟩,λ_=>rfl,Zn1 _,Mr st,λs m a as_ w hag hW hr =>?_⟩;obtain⟨v,h1,h2⟩:=hq s m a as_ w hag (λhm=>by rw[ho] at hm;cases hm) hr;simp[sW,hw,if_false];refine .inl ⟨v,w,h1,m,hr,?_⟩;cases d<;>first|exact h2|exact A0a h2
 ·rename_i t ho;have hw:isW o=true:=by simp[isW,ho]
  split at h
  ·rename_i hfr;simp[step,ho] at h;split at h
   ·rename_i n c hty;exact⟨_,_,_,h,X0 hw (Nat.le_succ _) (newKeep _ hfr) (S3 hp ho (.inl ⟨n,c,hty,rfl⟩))⟩
   ·split at h
    ·rename_i z hz;refine⟨_,_,_,h,X0 hw (Nat.le_succ _) (newKeep _ hfr) (S3 hp ho (.inr ⟨z,λe =>?_,hz,rfl⟩))⟩;rw[e] at hz;cases hz
    ·cases h
  ·cases h
 ·rename_i t x ho;have hw:isW o=true:=by simp[isW,ho]
  split at h
  ·rename_i hfr;simp[step,ho] at h;split at h
   ·rename_i d hd;split at h
    ·rename_i hl;exact⟨_,_,_,h,X0 hw (Nat.le_succ _) (newKeep _ hfr) (A8h ho hd hl)⟩
    ·cases h
   ·cases h
  ·cases h
 ·rename_i t x y ho;have hw:isW o=true:=by simp[isW,ho]
  split at h
  ·rename_i hfr;simp[step,ho] at h;split at h
   ·rename_i c k n k' q hty hx hy;obtain⟨hc,hk⟩:=A0 h;simp[Zb1] at hc;have hu:=Q0 hc.1;exact⟨_,_,_,hk,X0 hw (Nat.le_succ _) (newKeep _ hfr) (Axd hp ho hty hx hy ⟨hu.2.1,hu.2.2⟩ hc.2)⟩
   ·cases h
  ·cases h
 ·rename_i f xs ts ho;have hwf:∀{g:Nat}{caps:List D},ev px st 0 f=some (.fn g caps)->Agg g=false->isW o=true:=λ{g caps} hf hq=>by cases f with|func f' =>simp[ev,Za1,D.fn.injEq] at hf;obtain⟨rfl,_⟩:=hf;simp[isW,ho,hq]|_=>simp[isW,ho]
  have hwb:∀{g:Nat}{fs:List D},ev px st 0 f=some (.bm g fs)->isW o=true:=λ{g fs} hf=>by cases f with|func f'=>simp[ev] at hf|_=>simp[isW,ho]
  have call:∀{g:Nat}{args:List D},(Agg g=false->isW o=true)->A6z px g args st K=some r->(∀(s:FS) (m:Mp) (a:Act) (as_:List Act) (w:World),(∀t x,x∈o.op.operands->evF px s.env t x=evF px (get st.env) t x)->Rel cx m a as_ s w->∃vs,Reps (vx cx m s w) args vs/\(Sx.Enters cx.P g->(execOp a.eval o).run cx.P w = .ok (.enter g vs.toArray) w))->∃d ws st',K d ws st' = some r/\EffD cx px o st st' d ws:=by
   intro g args hwq h hargs;unfold A6z at h;split at h
   ·rename_i F hqf hF;have hw:=hwq hqf;obtain⟨d,ws,st',hk,hsame,hmono,hkeep,hent,hrun⟩:=hcq.w g F hF args st K r h;refine⟨d,ws,st',hk,hsame,λe=>(by rw[hw] at e;cases e),hmono,hkeep,λs m a as_ w hag hW hr =>?_⟩;obtain⟨vs,h1,h2⟩:=hargs s m a as_ w hag hr;have e1:sW o (fs st') s=Ef (fs st') s:=by simp[sW,hw]
    rw[e1];refine .inr ⟨g,_,w,h2 hent,(hrun s m a as_ w vs (hW.1 hw) hr h1).mono ?_⟩;rintro en w' ⟨v,k1,m',k2,k3⟩;exact⟨v,k1,m',k2,k3⟩
   ·obtain⟨rs,hk,hent,hrun⟩:=hcq.q g args _ r h;refine⟨_,_,_,hk,⟨rfl,rfl,rfl,rfl,rfl⟩,λ_=>rfl,Zn1 _,Mr st,λs m a as_ w hag hW hr =>?_⟩;obtain⟨vs,h1,h2⟩:=hargs s m a as_ w hag hr;have e1:sW o (fs st) s=s:=by cases hw:isW o with|true=>simp[sW,hw,if_true];exact I5 (hW.1 hw)|false=>simp[sW,hw]
    rw[e1];refine .inr ⟨g,_,w,h2 hent,(hrun s m a as_ w vs hr h1).mono ?_⟩;rintro en w' ⟨v,k1,k2,k3⟩;exact⟨v,k1,m,k2,k3⟩
  split at h
  ·rename_i g caps hf;split at h
   ·rename_i ds hds;refine call (hwf hf) h λs m a as_ w hag hr =>?_;rw[Av,<-hag _ f (by simp[ho,Op.operands,Call.operands])] at hf;obtain⟨fv,_,h2,h3⟩:=hr.env.ev hf;simp[Rep] at h3;obtain⟨cvs,rfl,hcaps⟩:=h3;obtain⟨vs,_,h5,h6⟩:=Ir hr.env hds (λu q hq=>by rw[Av];exact hag u q (by rw[ho];simp[Op.operands,Call.operands];right;simpa using hq));exact⟨_,h6.append hcaps,λhent=>Anl ho h2 h5 hent⟩
   ·cases h
  ·rename_i g fvs0 hf;split at h
   ·rename_i ds hds;refine call (λ_=>hwb hf) h λs m a as_ w hag hr =>?_;rw[Av,<-hag _ f (by simp[ho,Op.operands,Call.operands])] at hf;obtain⟨fv,_,h2,h3⟩:=hr.env.ev hf;simp[Rep] at h3;obtain⟨cvs,rfl,hcaps⟩:=h3;obtain⟨vs,_,h5,h6⟩:=Ir hr.env hds (λu q hq=>by rw[Av];exact hag u q (by rw[ho];simp[Op.operands,Call.operands];right;simpa using hq));exact⟨_,hcaps.append h6,λhent=>Awm ho h2 h5 hent⟩
   ·cases h
  ·cases h
 ·rename_i x y t t' ho;have hw:isW o=true:=by simp[isW,ho]
  split at h
  ·rename_i b0 c0 p0 n0 hx0;simp[step,ho] at h;split at h
   ·rename_i c s d hty hx hy;rw[hx0] at hx;simp at hx;subst hx;unfold Bi1 at h;simp only at h;split at h
    ·rename_i c2 xs hbk;split at h
     ·rename_i ys hys hcc;simp only[Zb1,Zg1] at hcc;obtain⟨⟨e1,e2⟩,_⟩:=id hcc;subst e1;subst e2;obtain⟨hc,hk⟩:=A0 h;simp[Zb1,Zg1] at hc;obtain⟨tk',rfl⟩:=Jw hys;refine⟨_,_,_,hk,X0 hw (Zn1 _) (λb hb =>?_) (A04 hp ho hty hx0 hy hbk (Zl1 hcc.2) hc.1.1 hc.1.2 hc.2)⟩;have hne:b≠b0:=λe=>hb (by simp[e]);have e:∀k,blk (Dd st.bl b0 k) b=blk st.bl b:=λk=>by rw[Eo,if_neg hne]
      exact⟨λk hk=>(e _).trans hk,λk hk _=>(e _).symm.trans hk⟩
     ·cases h
    ·cases h
   ·cases h
  ·cases h
 ·rename_i hn1 hn2 hn3 hn3c hn3b hn4 hn5;unfold step at h;split at h
  ·rename_i t ho;exact absurd ho (hn3 t)
  ·rename_i t x y ho;exact absurd ho (hn3b t x y)
  ·rename_i t x ho;exact absurd ho (hn3c t x)
  ·rename_i t len ps ho;exact absurd ho (hn1 t len ps)
  ·rename_i q t x ho;exact absurd ho (hn2 q t x)
  ·rename_i x y t t' ho;have hw:isW o=true:=by simp[isW,ho]
   split at h
   ·rename_i c s d hty hx hy hbq;have hbq:=Zl1 hbq;subst hbq;unfold Auh at h;split at h
    ·rename_i c' xs;split at h
     ·rename_i hcc;subst hcc;split at h
      ·cases h
      ·rename_i ys hys;obtain⟨tk',rfl⟩:=Jw hys;by_cases hy0:ys=[]
       ·rw[show ys.isEmpty=true by rw[hy0];rfl,cond_true] at h;exact⟨_,_,_,h,X0 hw (Zn1 _) (λb _=>Fh.of_bl rfl b) (Mb hp ho hty hx hy hy0)⟩
       ·rw[show ys.isEmpty=false by cases ys with|nil=>exact absurd rfl hy0|cons _ _=>rfl,cond_false] at h;obtain⟨hl,hk⟩:=A0 h;exact⟨_,_,_,hk,X0 hw (Zn1 _) (λb _=>Fh.of_bl rfl b) (O4 hp ho hty hx hy hy0 (by simpa using hl))⟩
     ·cases h
    ·rename_i _ hnf;unfold Rn at h;split at h
     ·split at h
      ·rename_i c' xs tk hcc;subst hcc;split at h
       ·cases h
       ·rename_i al hal;split at h
        ·cases h
        ·rename_i ys hys;obtain⟨hl,hk⟩:=A0 h;obtain⟨tk',rfl⟩:=Jw hys;exact⟨_,_,_,hk,X0 hw (Zn1 _) (λb _=>Fh.of_bl rfl b) (Ahx hp ho hty hx hy hal (by simpa using hl))⟩
      ·cases h
     ·cases h
   ·rename_i s l hty hx hy hbq;split at h
    ·rename_i hstr;unfold Rn at h;split at h
     ·split at h
      ·rename_i c' xs tk hcc;subst hcc;split at h
       ·cases h
       ·rename_i al hal;split at h
        ·cases h
        ·rename_i ys hys;obtain⟨hl,hk⟩:=A0 h;simp[toS,dite_true,Za1] at hys;subst hys;exact⟨_,_,_,hk,X0 hw (Zn1 _) (λb _=>Fh.of_bl rfl b) (Q7 hp ho hty (Gc hstr) hx hy hal (by simpa using hl))⟩
      ·cases h
     ·cases h
    ·cases h
   ·cases h
  ·rename_i x y t t' ho;exact absurd ho (hn5 x y t t')
  ·rename_i f xs ts ho;exact absurd ho (hn4 f xs ts)
  ·exact quiet h
def KF(all:Array Oper)(T i:Nat)(a c:FS):Prop:=(∀b,Fh a c b)\/∃(env:Env) (ws:List Nat),get env=a.env/\Bu7 all T i env ws=true/\∀b,b∉ws->Fh a c b
def Ajv(cx:Cx)(all:Array Oper)(T:Nat):Nat->List Oper->FS->FS->Prop
 |_,[],a,b=>a=b
 |i,o::l,a,b=>∃c,c=A2 o c a/\a.nb<=c.nb/\KF all T i a c/\Bmp cx all o a c/\Ajv cx all T (i+1) l c b
theorem Ai6{all:Array Oper}{T:Nat}:∀{l:List Oper}{i:Nat}{a b:FS},Ajv cx all T i l a b->∃s:Nat->FS,s 0=a/\s l.length=b/\∀j o,l[j]? = some o->s (j+1)=A2 o (s (j+1)) (s j)/\(s j).nb<=(s (j+1)).nb/\KF all T (i+j) (s j) (s (j+1))/\Bmp cx all o (s j) (s (j+1))
 |[],i,a,b,h=>⟨λ_=>a,rfl,h,by simp⟩
 |o::l,i,a,b,⟨c,h1,h2,h2b,h3,h4⟩=>by obtain⟨s,e1,e2,e3⟩:=Ai6 h4;refine⟨λj=>match j with|0=>a|j+1=>s j,rfl,e2,λj o' ho' =>?_⟩;cases j with|zero =>simp at ho';subst ho';simp[e1];exact⟨h1,h2,h2b,h3⟩|succ j =>have:=e3 j o' (by simpa using ho');rw[show i+(j+1)=i+1+j by omega];exact this
theorem Ayw{all:Array Oper}{o:Oper}{s s0:FS}(h:∀k,k∈o.looksAt all->s.env k=s0.env k):∀t x,x∈o.op.operands->evF px s.env t x=evF px s0.env t x:=by intro t x hx;cases x with|tmp k=>exact h k (List.mem_append_left _ (List.mem_filterMap.2 ⟨.tmp k,by simpa using hx,rfl⟩))|_=>rfl
theorem Anj{o:Oper}{st st':St}{d:D}{k:Nat}(hd:o.dst=some k)(hs:Acm st st')(hst:isW o=false->fs st' = fs st)(s:FS):A2 o (fs (st'.put k d)) s=(sW o (fs st') s).put k d:=by
 have _:=hs;have _:=hst;rw[Jr];cases hw:isW o
 ·have e1:sW o (fs st') s=s:=by simp[sW,hw]
  rw[e1];refine FS.eq rfl ?_ rfl rfl rfl (by simp[A2,hw,FS.put]) (by simp[A2,hw,FS.put]) (by simp[A2,hw,FS.put]) (by simp[A2,hw,FS.put]);funext j;simp[A2,FS.put,hd]
 ·have e1:sW o (fs st') s=Ef (fs st') s:=by simp[sW,hw]
  rw[e1];refine FS.eq rfl ?_ rfl rfl rfl (by simp[A2,hw,FS.put,Ef]) (by simp[A2,hw,FS.put,Ef]) (by simp[A2,hw,FS.put,Ef]) (by simp[A2,hw,FS.put,Ef]);funext j;simp[A2,FS.put,hd,Ef]
theorem Bee{o:Oper}{st:St}{s:FS}(hW:isW o=true->Dc s (fs st)):A2 o (fs (off o st)) s=match o.dst with
  |some k=>s.put k .undef
  |none=>s:=by
 have hoff:(fs (off o st)).bl=(fs st).bl/\(fs (off o st)).nb=(fs st).nb/\(fs (off o st)).al=(fs st).al/\(fs (off o st)).nt=(fs st).nt:=by unfold off;split<;>exact⟨rfl,rfl,rfl,rfl⟩
 have hbl:(A2 o (fs (off o st)) s).bl=s.bl/\(A2 o (fs (off o st)) s).nb=s.nb/\(A2 o (fs (off o st)) s).al=s.al/\(A2 o (fs (off o st)) s).nt=s.nt:=by
  cases hw:isW o
  ·simp[A2,hw]
  ·obtain⟨h1,h2,h3,h4⟩:=hW hw;simp[A2,hw,if_true,hoff.1,hoff.2.1,hoff.2.2.1,hoff.2.2.2];exact⟨h1.symm,h2.symm,h3.symm,h4.symm⟩
 cases hd:o.dst with
 |none =>refine FS.eq rfl (by simp[A2,hd]) rfl rfl rfl hbl.1 hbl.2.1 hbl.2.2.1 hbl.2.2.2
 |some k =>
  refine FS.eq rfl ?_ rfl rfl rfl hbl.1 hbl.2.1 hbl.2.2.1 hbl.2.2.2;funext j;have:(fs (off o st)).env k=some .undef:=by unfold off;rw[hd];simp only;rw[Jr];simp[FS.put]
  simp[A2,FS.put,hd,this]
theorem Blx(hp:PxOk cx px)(hcq:CallQOk cx px){all:Array Oper}{T i:Nat}{o:Oper}(hb:opB o=true){st:St}{K:St->Option R}{r:R}(h:Bbp px all T i o st K=some r):∃st',K st' = some r/\st'.n=st.n/\fs st' = A2 o (fs st') (fs st)/\st.nb<=st'.nb/\KF all T i (fs st) (fs st')/\∀(s:FS) (m:Mp) (a:Act) (as_:List Act) (w:World),(∀k,k∈o.looksAt all->s.env k=(fs st).env k)->OkW o (fs st) s->s.n=st.n->Rel cx m a as_ s w->Y4 cx.P a w o λa' w'=>∃m',Rel cx m' a' as_ (A2 o (fs st') s) w':=by
 unfold Bbp at h;split at h
 ·rename_i k hd;split at h
  ·rename_i hlt;have hlt:k<st.n:=by simpa using hlt
   obtain⟨d,ws,st',hk,he⟩:=Ba2 hp hcq hb h;split at hk
   ·rename_i hck;refine⟨_,hk,he.same.1,?_,he.mono,?_,λs m a as_ w hag hW hn hr =>?_⟩
    ·rw[Anj hd he.same he.still];rw[Jr];congr 1;unfold sW;split
     ·exact(Le he.same).symm
     ·rename_i hw;exact he.still (by simpa using hw)
    ·have hkeep:∀b,b∉ws->Fh (fs st) (fs (st'.put k d)) b:=λb hb=>by rw[Jr];exact he.keep b hb
     simp at hck;rcases hck with h1|h1
     ·have:ws=[]:=by simpa using h1
      subst this;exact .inl λb=>hkeep b (by simp)
     ·exact .inr ⟨st.env,ws,rfl,h1,hkeep⟩
    ·refine(he.run s m a as_ w (Ayw hag) hW hr).runs λv w' ⟨m',h1,h2⟩=>⟨m',?_⟩;rw[Anj hd he.same he.still,hd];refine h1.put ?_ h2;have:(sW o (fs st') s).n=s.n:=by unfold sW;split<;>rfl
     rw[this,hn];exact hlt
   ·cases hk
  ·cases h
 ·rename_i hd;split at h
  ·rename_i hck;obtain⟨st',hk,he⟩:=Aps (cx:=cx) hp h;have hst:∃t x y,o.op = .store t x y:=by
    unfold Yw at h;split at h
    ·rename_i t x y ho;exact⟨t,x,y,ho⟩
    ·cases h
   obtain⟨T0,x0,y0,ho⟩:=hst;have hw:isW o=true:=by simp[isW,ho]
   have hns:∀s,A2 o (fs st') s=Ef (fs st') s:=λs=>by refine FS.eq rfl (by simp[A2,hd,Ef]) rfl rfl rfl ?_ ?_ ?_ ?_<;>simp[A2,hw,Ef]
   have hkp:=he.keep;refine⟨st',hk,he.same.1,?_,hkp.1,.inr ⟨st.env,_,rfl,hck,hkp.2⟩,λs m a as_ w hag hW hn hr =>?_⟩
   ·rw[hns];exact(Le he.same).symm
   ·obtain⟨w',m',h1,h2⟩:=he.run s m a as_ w (Ayw hag) (hW.1 hw) hr;refine .inr (.inl ⟨w',h1,m',?_⟩);rw[hd,hns];exact h2
  ·cases h
theorem Abq(hp:PxOk cx px)(hcq:CallQOk cx px){all:Array Oper}{T:Nat}:∀{l:List Oper}{i:Nat}{st:St}{K:St->Option R}{r:R},(l.all λo=>opB o&&Amg st.n o)=true->A91 px all T i l st K=some r->∃st',K st' = some r/\st'.n=st.n/\Ajv cx all T i l (fs st) (fs st')
 |[],i,st,K,r,_,h=>⟨st,h,rfl,rfl⟩
 |o::l,i,st,K,r,hl,h=>by
  simp only[Zv1,Zb1] at hl;obtain⟨⟨hb,hdst⟩,hl'⟩:=hl;have hdlt:∀d,o.dst=some d->d<st.n:=λd hd=>by simpa[Amg,hd,Nat.blt_eq] using hdst
  have hl2:∀n,n=st.n->(l.all λo=>opB o&&Amg n o)=true:=λn e=>by subst e;exact hl'
  have hguard:∀(s:FS) (j:Nat) (b:Bool) (g:Nat),o.guard=some (j,b)->(all[j]?).bind (·.dst)=some g->(∀k,k∈o.looksAt all->s.env k=(fs st).env k)->s.env g=get st.env g:=λs j b g hg hj hag=>by refine hag g (List.mem_append_right _ ?_);rw[hg];simp[hj]
  have run:∀{st1:St},fs st1=fs st->st1.n=st.n->(∀(s:FS) (m:Mp) (a:Act) (as_:List Act) (w:World),(∀k,k∈o.looksAt all->s.env k=(fs st).env k)->Rel cx m a as_ s w->Region.wanted o (yielded all a.tmps)=true)->(Bbp px all T i o st1 λst'=>A91 px all T (i+1) l st' K)=some r->∃st',K st' = some r/\st'.n=st.n/\Ajv cx all T i (o::l) (fs st) (fs st'):=by intro st1 he hn hw h1;obtain⟨st2,hk,hsn,hnx,hmo,hkf,hrun⟩:=Blx (all:=all) hp hcq hb h1;obtain⟨st3,k1,k2,k3⟩:=Abq hp hcq (hl2 _ (hsn.trans hn)) hk;have hmo:(fs st1).nb<=(fs st2).nb:=hmo;refine⟨st3,k1,k2.trans (hsn.trans hn),fs st2,by rw[<-he];exact hnx,by rw[<-he];exact hmo,by rw[<-he];exact hkf,λs m a as_ w hag hW hsn' hr =>?_,k3⟩;exact .inl ⟨hw s m a as_ w hag hr,hrun s m a as_ w (by rw[he];exact hag) (by rw[he];exact hW) (hsn'.trans hn.symm) hr⟩
  have skip:∀{st1:St},fs st1=fs st->st1.n=st.n->(∀(s:FS) (m:Mp) (a:Act) (as_:List Act) (w:World),(∀k,k∈o.looksAt all->s.env k=(fs st).env k)->Rel cx m a as_ s w->Region.wanted o (yielded all a.tmps)=false)->A91 px all T (i+1) l (off o st1) K=some r->∃st',K st' = some r/\st'.n=st.n/\Ajv cx all T i (o::l) (fs st) (fs st'):=by
   intro st1 he hn hw h1;have hn':(off o st1).n=st.n:=by rw[<-hn];unfold off;split<;>rfl
   obtain⟨st3,k1,k2,k3⟩:=Abq hp hcq (hl2 _ hn') h1;have hnext:∀s:FS,(isW o=true->Dc s (fs st))->A2 o (fs (off o st1)) s=match o.dst with|some k=>s.put k .undef|none=>s:=λs hW=>Bee (by rw[he];exact hW)
   have e1:(fs (off o st1)).bl=(fs st).bl/\(fs (off o st1)).nb=(fs st).nb:=by rw[<-he];unfold off;split<;>exact⟨rfl,rfl⟩
   refine⟨st3,k1,k2.trans hn',fs (off o st1),?_,by rw[e1.2];exact Zn1 _,.inl λb=>Fh.of_bl e1.1 b,λs m a as_ w hag hW hsn hr =>.inr ⟨hw s m a as_ w hag hr,m,?_⟩,k3⟩
   ·rw[hnext (fs st) (λ_=>⟨rfl,rfl,rfl,rfl⟩)];unfold off;cases hd:o.dst with|none=>exact he|some k=>simp only;rw[Jr,he]
   ·rw[hnext s hW.1];cases hd:o.dst with|none=>exact hr|some k=>exact hr.put (by rw[hsn];exact hdlt k hd) (by simp[Rep];rfl)
  simp[A91,Bvi] at h;split at h
  ·rename_i hg;exact run rfl rfl (λs m a as_ w _ hr=>(Iv (all:=all) (o:=o) hr.env).1 hg) h
  ·rename_i j b hg;split at h
   ·cases h
   ·rename_i g hj;have g3:∀q,get st.env g=some (.bool q)->∀(s:FS) (m:Mp) (a:Act) (as_:List Act) (w:World),(∀k,k∈o.looksAt all->s.env k=(fs st).env k)->Rel cx m a as_ s w->Region.wanted o (yielded all a.tmps)=(q == b):=λq hq s m a as_ w hag hr=>((Iv (all:=all) (o:=o) hr.env).2 j b g hg hj).1 q (by rw[hguard s j b g hg hj hag];exact hq);split at h
    ·rename_i q hq;have hw:=g3 q hq;cases q with
     |true =>simp[cond_true] at h;cases b with|true=>exact run (Ig hq) rfl hw h|false=>exact skip (Ig hq) rfl hw h
     |false =>simp[cond_false] at h;cases b with|true=>exact skip (Ig hq) rfl hw h|false=>exact run (Ig hq) rfl hw h
    ·rename_i hq;exact skip rfl rfl (λs m a as_ w hag hr=>((Iv (all:=all) (o:=o) hr.env).2 j b g hg hj).2 (by rw[hguard s j b g hg hj hag];exact hq)) h
    ·cases h
theorem Bqx{ops:Array Oper}{s:Nat->FS}(hc:Jh ops s){T:Nat}(hT:T<=ops.size){i j:Nat}{oj:Oper}(hj:ops[j]? = some oj)(hjT:j<T)(hiT:i<T)(hkf:KF ops T i (s i) (s (i+1)))(ho:Be0 ops i j=false){b:Nat}(hb:rdO oj (s j).env b):Fh (s i) (s (i+1)) b:=by
 obtain⟨k,d,h1,h2,h3⟩:=hb;rcases hkf with h|⟨env,ws,e1,e2,e3⟩
 ·exact h b
 ·have h4:=Zg2.1 e2 j (List.mem_range.2 hjT);rw[hj] at h4;simp[h1,ho] at h4;obtain⟨h5,h6⟩:=h4;have h7:=Ad7 hc h5 (max i j-min i j) (by omega) (by omega);rw[show min i j+(max i j-min i j)=max i j by omega] at h7;have h8:(s i).env k=(s j).env k:=by
   rcases Nat.le_total i j with hij|hji
   ·rw[Nat.min_eq_left hij,Nat.max_eq_right hij] at h7;exact h7.symm
   ·rw[Nat.min_eq_right hji,Nat.max_eq_left hji] at h7;exact h7
  rw[e1,h8,h2] at h6;simp[h3] at h6;exact e3 b (by simpa using h6)
end
def Uy:Sg->D->Option Nat
 |.sl _ true,.sl _ _ (.id t)=>some t
 |_,_=>none
def asg(i:Nat):List Sg->List D->Nat->Option Nat
 |s::l,d::ds=>λp=>if p=i then Uy s d else asg (i+1) l ds p
 |_,_=>λ_=>none
theorem Aow{a:Sg}{l:List Sg}{al:List Nat}{ds:List D}{x:HV (a::l)}(h:L0 (a::l) al ds=some x):∃d ds' y al',ds=d::ds'/\A2i al a d=some (y,al')/\((l=[]/\ds' = [])\/∃z,L0 l al' ds' = some z)/\∀i,Bw i (a::l) x=Cl i a y::(match l with|[]=>[]|b::l'=>match L0 (b::l') al' ds' with|some z=>Bw (i+1) (b::l') z|none=>[]):=by
 cases l with
 |nil =>
  cases ds with
  |nil=>simp[L0] at h
  |cons d ds =>
   cases ds with
   |nil =>
    simp[L0] at h;split at h
    ·rename_i y al' hy;simp at h;subst h;exact⟨d,[],y,al',rfl,hy,.inl ⟨rfl,rfl⟩,λi=>rfl⟩
    ·cases h
   |cons e ds=>simp[L0] at h
 |cons b l =>
  cases ds with
  |nil=>simp[L0] at h
  |cons d ds =>
   simp[L0] at h;split at h
   ·rename_i y al' hy;split at h
    ·rename_i z hz;simp at h;subst h;exact⟨d,ds,y,al',rfl,hy,.inr ⟨z,hz⟩,λi=>by simp[Bw,hz]⟩
    ·cases h
   ·cases h
theorem Axt{al al':List Nat}{s:Sg}{d:D}{y:den s}(h:A2i al s d=some (y,al')):(∀t,t∈al'->t∈al)/\(∀t,Uy s d=some t->t∈al/\t∉al'):=by
 unfold A2i at h;split at h
 ·split at h
  ·simp[ Zp1] at h;obtain⟨_,rfl⟩:=h;refine⟨λ_ h=>h,λt ha=>by simp[Uy] at ha⟩
  ·cases h
 ·simp[ Zp1] at h;obtain⟨_,rfl⟩:=h;refine⟨λ_ h=>h,λt ha=>by simp[Uy] at ha⟩
 ·simp[ Zp1] at h;obtain⟨_,rfl⟩:=h;refine⟨λ_ h=>h,λt ha=>by simp[Uy] at ha⟩
 ·split at h
  ·split at h
   ·split at h
    ·rename_i al2 htk;obtain⟨_,rfl⟩:=h;unfold F1 at htk;split at htk
     ·cases htk
     ·simp at htk;subst htk;refine⟨λ_ h=>h,λt ha=>by simp[Uy] at ha⟩
     ·split at htk
      ·rename_i t0 hc;simp at htk;subst htk;refine⟨λt ht=>(List.mem_filter.1 ht).1,λt ha =>?_⟩;simp[Uy] at ha
       simp_all
      ·cases htk
     all_goals cases htk
    ·cases h
   ·simp[ Zp1] at h;obtain⟨_,rfl⟩:=h;refine⟨λ_ h=>h,λt ha=>by simp[Uy] at ha⟩
  ·cases h
 ·split at h
  ·simp[ Zp1] at h;obtain⟨_,rfl⟩:=h;refine⟨λ_ h=>h,λt ha=>by simp[Uy] at ha⟩
  ·cases h
 ·split at h
  ·split at h
   ·simp[ Zp1] at h;obtain⟨_,rfl⟩:=h;refine⟨λ_ h=>h,λt ha=>by simp[Uy] at ha⟩
   ·cases h
  ·cases h
 ·split at h
  ·simp[ Zp1] at h;obtain⟨_,rfl⟩:=h;refine⟨λ_ h=>h,λt ha=>by simp[Uy] at ha⟩
  ·cases h
 ·split at h
  ·split at h
   ·split at h
    ·simp[ Zp1] at h;obtain⟨_,rfl⟩:=h;refine⟨λ_ h=>h,λt ha=>by simp[Uy] at ha⟩
    ·cases h
   ·cases h
  ·cases h
 ·cases h
theorem Lw(s:Sg)(d:D)(l:List Sg)(ds:List D)(i p:Nat)(h:p≠i):asg i (s::l) (d::ds) p=asg (i+1) l ds p:=by simp[asg,h]
theorem Zb(s:Sg)(d:D)(l:List Sg)(ds:List D)(i:Nat):asg i (s::l) (d::ds) i=Uy s d:=by simp[asg]
theorem Q2:∀{l:List Sg}{al:List Nat}{ds:List D}{x:HV l}(i:Nat),L0 l al ds=some x->(∀p t,asg i l ds p=some t->t∈al/\i<=p)/\∀p q t,asg i l ds p=some t->asg i l ds q=some t->p=q
 |[],al,ds,x,i,_=>by simp[asg]
 |a::l,al,ds,x,i,h=>by
  obtain⟨d,ds',y,al',rfl,h1,h2,_⟩:=Aow h;obtain⟨s1,s2⟩:=Axt h1;have ih:(∀p t,asg (i+1) l ds' p=some t->t∈al'/\i+1<=p)/\∀p q t,asg (i+1) l ds' p=some t->asg (i+1) l ds' q=some t->p=q:=by
   rcases h2 with ⟨rfl,rfl⟩|⟨z,hz⟩
   ·simp[asg]
   ·exact Q2 (i+1) hz
  refine⟨λp t hp =>?_,λp q t hp hq =>?_⟩
  ·by_cases hpi:p=i
   ·subst hpi;rw[Zb] at hp;exact⟨(s2 t hp).1,Zn1 _⟩
   ·rw[Lw _ _ _ _ _ _ hpi] at hp;have:=ih.1 p t hp;exact⟨s1 t this.1,by omega⟩
  ·by_cases hpi:p=i<;>by_cases hqi:q=i
   ·rw[hpi,hqi]
   ·exfalso;subst hpi;rw[Lw _ _ _ _ _ _ hqi] at hq;rw[Zb] at hp;exact(s2 t hp).2 (ih.1 q t hq).1
   ·exfalso;subst hqi;rw[Lw _ _ _ _ _ _ hpi] at hp;rw[Zb] at hq;exact(s2 t hq).2 (ih.1 p t hp).1
   ·rw[Lw _ _ _ _ _ _ hpi] at hp;rw[Lw _ _ _ _ _ _ hqi] at hq;exact ih.2 p q t hp hq
theorem Bgh{X X':Vx}(hS:∀b i,X'.S b i->X.S b i)(hw:X'.w=X.w)(hel:X'.el=X.el){al al':List Nat}{s:Sg}{d:D}{y:den s}{v:Value}(i:Nat)(h:A2i al s d=some (y,al'))(hal:∀t,t∈al->X.al t)(hr:Rep X d v)(hown:∀c,s = .sl c true->i<X'.nt/\X'.m.tk i=(Uy s d).bind X.m.tk):Rep X' (Cl i s y) v:=by
 have hrf:∀{d:D}{v:Value},RF X.S X.w d v->RF X'.S X'.w d v:=λh=>by rw[hw];exact h.later (Chg.refl _ _) (λk j hk =>.inl (hS k j hk))
 unfold A2i at h;split at h
 ·split at h
  ·rename_i hk;simp at hk;subst hk;simp[ Zp1] at h;obtain⟨rfl,_⟩:=h;simpa[Cl,Rep] using hr
  ·cases h
 ·simp[ Zp1] at h;obtain⟨rfl,_⟩:=h;simpa[Cl,Rep] using hr
 ·simp[ Zp1] at h;obtain⟨rfl,_⟩:=h;simpa[Cl,Rep] using hr
 ·rename_i c own c' xs t;split at h
  ·rename_i hc;subst hc;simp[Rep] at hr;split at h
   ·split at h
    ·rename_i al2 htk;simp[ Zp1] at h;obtain⟨rfl,_⟩:=h;obtain⟨h1,h2⟩:=hown c' rfl;simp[Cl];refine⟨hrf hr.1,h1,λ_ =>?_⟩;cases t with
     |no=>simp[F1] at htk
     |z=>simp[F1] at htk
     |ne=>simp[F1] at htk
     |zn=>simp[F1] at htk
     |f=>simp[F1] at htk
     |nil =>refine .inl ⟨hr.2.1,?_,hr.2.2⟩;rw[h2];simp[Uy]
     |id t0 =>
      have hin:t0∈al:=by
       unfold F1 at htk;simp only at htk;split at htk
       ·rename_i hc;simpa using hc
       ·cases htk
      simp[Uy] at h2;rcases hr.2.2 (hal t0 hin) with ⟨a1,a2,a3⟩|⟨g,cap,cur,a1,a2,a3,a4⟩
      ·exact .inl ⟨a1,h2.trans a2,a3⟩
      ·exact .inr ⟨g,cap,cur,a1,h2.trans a2,by rw[hw,hel];exact a3,a4⟩
    ·cases h
   ·simp[ Zp1] at h;obtain⟨rfl,_⟩:=h;simp[Cl];exact⟨hrf hr.1,trivial⟩
  ·cases h
 ·rename_i c d;split at h
  ·rename_i y' ha hy';simp[ Zp1] at h;obtain⟨rfl,_⟩:=h;obtain⟨hel',hagg,_⟩:=M3 hy' hr;obtain⟨vs,rfl⟩:=hagg ha;simp[Cl];refine⟨ha,vs.toList,by simp,by simpa[Value.cells] using hel'.1,λj e he =>?_⟩;obtain⟨u,hu,hf⟩:=hel'.2 j e he;exact⟨u,by simpa[Value.cells] using hu,hrf hf⟩
  ·cases h
 ·split at h
  ·rename_i c n c' n' xs hc;subst hc;split at h
   ·rename_i hn;have hn:=Zl1 hn;subst hn;simp[ Zp1] at h;obtain⟨rfl,_⟩:=h;simp[ Rep] at hr ⊢;obtain⟨h1,vs,h2,h3,h4⟩:=hr;exact⟨h1,vs,h2,h3,λq y j e hy he=>by obtain⟨u,hu,hf⟩:=h4 q y j e hy he;exact⟨u,hu,hrf hf⟩⟩
   ·cases h
  ·cases h
 ·split at h
  ·rename_i c c' xs hc;subst hc;simp[ Zp1] at h;obtain⟨rfl,_⟩:=h;simp[ Rep] at hr ⊢;obtain⟨h1,vs,h2,h3,h4⟩:=hr;exact⟨h1,vs,h2,h3,λq y j e hy he=>by obtain⟨u,hu,hf⟩:=h4 q y j e hy he;exact⟨u,hu,hrf hf⟩⟩
  ·cases h
 ·rename_i c c' xs t;split at h
  ·split at h
   ·rename_i hc;have hc:=of_decide_eq_true hc;subst hc;split at h
    ·rename_i hx;cases xs with|cons _ _=>cases hx|nil =>simp[Rep] at hr;simp[Cl,Rep];exact⟨hrf hr.1,hr.2⟩
    ·cases h
   ·cases h
  ·cases h
 ·cases h
theorem F3{X X':Vx}(hS:∀b i,X'.S b i->X.S b i)(hw:X'.w=X.w)(hel:X'.el=X.el):∀{l:List Sg}{al:List Nat}{ds:List D}{x:HV l}{vs:List Value}(i:Nat),L0 l al ds=some x->(∀t,t∈al->X.al t)->Reps X ds vs->(∀p,p∈A7 i l->p<X'.nt/\X'.m.tk p=(asg i l ds p).bind X.m.tk)->Reps X' (Bw i l x) vs
 |[],al,ds,x,vs,i,h,_,hr,_=>by cases ds with|nil=>simpa[Reps,Bw] using hr|cons d ds=>simp[L0] at h
 |a::l,al,ds,x,vs,i,h,hal,hr,hown=>by
  obtain⟨d,ds',y,al',rfl,h1,h2,h3⟩:=Aow h;simp[Reps] at hr;obtain⟨u,us,rfl,hr1,hr2⟩:=hr;rw[h3 i];simp only[Reps];refine⟨u,us,rfl,Bgh hS hw hel i h1 hal hr1 (λc hc =>?_),?_⟩
  ·subst hc;have:=hown i (by simp[A7]);rwa[Zb] at this
  ·rcases h2 with ⟨rfl,rfl⟩|⟨z,hz⟩
   ·simpa[Reps] using hr2
   ·cases l with
    |nil =>cases ds' with|nil=>simpa[Reps] using hr2|cons e es=>simp[L0] at hz
    |cons b l' =>
     simp[hz];refine F3 hS hw hel (i+1) hz (λt ht=>hal t (((Axt h1).1) t ht)) hr2 (λp hp =>?_);have hlow:∀(l:List Sg) (i p:Nat),p∈A7 i l->i<=p:=by
      intro l;induction l with
      |nil=>intro i p hp;simp[A7] at hp
      |cons s l ih =>
       intro i p hp;cases s<;>first|(have:=ih (i+1) p (by simpa[A7] using hp);omega)|skip
       rename_i c own;cases own with
       |true =>
        simp[A7] at hp;rcases hp with rfl|hp
        ·exact Zn1 _
        ·have:=ih (i+1) p hp;omega
       |false=>have:=ih (i+1) p (by simpa[A7] using hp);omega
     have hpi:=hlow _ _ _ hp;have hmem:p∈A7 i (a::b::l'):=by
      cases a<;>first|exact hp|skip
      rename_i c own;cases own with|true=>exact Zu1 _ hp|false=>exact hp
     have:=hown p hmem;rwa[Lw _ _ _ _ _ _ (by omega)] at this
def Kx:Sg->Bool
 |.sv _|.rw _ _|.dn _=>false
 |_=>true
def Y7(nb:Nat):D->Bool
 |.ptr b _=>Nat.blt b nb
 |.fn _ cs=>cs.all λd=>match d with|.ptr b _=>Nat.blt b nb|_=>false
 |.bm _ cs=>cs.all λd=>match d with|.ptr b _=>Nat.blt b nb|_=>false
 |.gp _=>true
 |.yl b=>Nat.blt b nb
 |.nilp=>true
 |_=>false
def Bpv(nb:Nat):D->Bool
 |.agg _=>true
 |d=>Y7 nb d
def bsB(nb:Nat):Bs->Bool
 |.cells l=>l.all Kx
 |.one s => !Kx s
 |.bld _=>true
 |.fx ds=>ds.all (Y7 nb)
 |.oc l b _=>l.all Kx&&Nat.blt b nb
 |.rc _ _ _ _ env _=>env.all λp=>Y7 nb p.2
def V2(s:Sig):Bool:=(s.fix.all λp=>Bpv s.nb p.2)&&(s.bl.all λp=>Nat.blt p.1 s.nb&&bsB s.nb p.2)&&Nat.ble s.lb s.nb&&s.ow.all λp=>Nat.blt p.2.1 s.nb
def Sh1(s:Sg)(d:D):Prop:=(Kx s=true->lf d=true)/\(Kx s=false->(∃c y,d = .sv c y)\/(∃c n xs,d = .rw c n xs)\/∃c xs,d = .dn c xs)/\(s = .sl .byte true->∃l t,d = .sl .byte l t)
def ShL:List Sg->List D->Prop
 |[],ds=>ds=[]
 |s::l,ds=>∃d r,ds=d::r/\Sh1 s d/\ShL l r
theorem A8x(i:Nat):∀(s:Sg) (y:den s),Sh1 s (Cl i s y)
 |.int _,_=>⟨λ_=>rfl,λh=>(by cases h),λh=>(by cases h)⟩
 |.bool,_=>⟨λ_=>rfl,λh=>(by cases h),λh=>(by cases h)⟩
 |.str,_=>⟨λ_=>rfl,λh=>(by cases h),λh=>(by cases h)⟩
 |.sl _ true,l=>⟨λ_=>rfl,λh=>(by cases h),λh=>(by cases h;exact⟨l,_,rfl⟩)⟩
 |.sl _ false,_=>⟨λ_=>rfl,λh=>(by cases h),λh=>(by cases h)⟩
 |.sv c,y=>⟨λh=>(by cases h),λ_ =>.inl ⟨c,y,rfl⟩,λh=>(by cases h)⟩
 |.rw c n,xs=>⟨λh=>(by cases h),λ_ =>.inr (.inl ⟨c,n,xs,rfl⟩),λh=>(by cases h)⟩
 |.dn c,xs=>⟨λh=>(by cases h),λ_ =>.inr (.inr ⟨c,xs,rfl⟩),λh=>(by cases h)⟩
 |.nl _,_=>⟨λ_=>rfl,λh=>(by cases h),λh=>(by cases h)⟩
theorem Age:∀(i:Nat) (l:List Sg) (x:HV l),ShL l (Bw i l x)
 |_,[],_=>rfl
 |i,[a],x=>⟨_,[],rfl,A8x i a x,rfl⟩
 |i,a::b::l,(x,y)=>⟨_,_,rfl,A8x i a x,Age (i+1) (b::l) y⟩
theorem ShL.len:∀{l:List Sg}{ds:List D},ShL l ds->ds.length=l.length
 |[],ds,h=>by simp[ShL] at h;subst h;rfl
 |s::l,ds,h=>by obtain⟨d,r,rfl,_,h2⟩:=h;simp[ShL.len h2]
theorem ShL.split:∀{l m:List Sg}{ds:List D},ShL (l++m) ds->ShL l (ds.take l.length)/\ShL m (ds.drop l.length)
 |[],m,ds,h=>by simpa[ShL] using h
 |s::l,m,ds,h=>by obtain⟨d,r,rfl,h1,h2⟩:=h;obtain⟨h3,h4⟩:=ShL.split h2;exact⟨⟨d,_,by simp,h1,h3⟩,by simpa using h4⟩
theorem ShL.lf:∀{l:List Sg}{ds:List D},ShL l ds->l.all Kx=true->ds.all lf=true
 |[],ds,h,_=>by simp[ShL] at h;subst h;rfl
 |s::l,ds,h,hl=>by obtain⟨d,r,rfl,h1,h2⟩:=h;simp only[Zv1,Zb1] at hl ⊢;exact⟨h1.1 hl.1,h2.lf hl.2⟩
theorem Reps.split{x:Vx}:∀{A B:List D}{vs:List Value},Reps x (A++B) vs->∃us ws,vs=us++ws/\Reps x A us/\Reps x B ws
 |[],B,vs,h=>⟨[],vs,rfl,by simp[Reps],h⟩
 |d::A,B,vs,h=>by simp at h;obtain⟨u,us,rfl,h1,h2⟩:=h;obtain⟨p,q,rfl,h3,h4⟩:=Reps.split h2;exact⟨u::p,q,rfl,by simp only[Reps];exact⟨u,p,rfl,h1,h3⟩,h4⟩
theorem Reps.take{x:Vx}{ds:List D}{us ws:List Value}(h:Reps x ds (us++ws)):Reps x (ds.take us.length) us/\Reps x (ds.drop us.length) ws:=by
 have hl:=h.len;simp at hl;rw[<-List.take_append_drop us.length ds] at h;obtain⟨p,q,he,h1,h2⟩:=Reps.split h;have hp:p.length=us.length:=by rw[h1.len];simp;omega
 obtain⟨rfl,rfl⟩:=List.append_inj he hp.symm;exact⟨h1,h2⟩
theorem J6{x:Vx}{n:Nat}{df:List D}{env:Env}{a:Act}(he:EnvR x n df (get env) a):∀{vars:List (Nat×Sg)}{A:List D},Jk env vars=some A->∃VA:List Value,Reps x A VA/\∀(i k:Nat) (s:Sg),vars[i]? = some (k,s)->∃v,VA[i]? = some v/\a.tmps[k]? = some v
 |[],A,h=>by simp[Jk] at h;subst h;exact⟨[],by simp[Reps],by simp⟩
 |(k0,s0)::vars,A,h=>by
  simp[Jk] at h;split at h
  ·rename_i d ds hd hds;simp at h;subst h;obtain⟨VA,h1,h2⟩:=J6 he hds;obtain⟨v,hv,hr⟩:=he.get k0 d hd;refine⟨v::VA,by simp only[Reps];exact⟨v,VA,rfl,hr,h1⟩,λi k s hi =>?_⟩;cases i with|zero=>grind|succ i=>grind
  ·cases h
theorem Aod:∀(vars:List (Nat×Sg)) (E:List D),vars.length<=E.length->(Avj vars E).2=E.drop vars.length/\∀k d,get (Avj vars E).1 k=some d->∃(i:Nat) (s:Sg),vars[i]? = some (k,s)/\E[i]? = some d
 |[],E,_=>by cases E<;>simp[Avj,get]
 |(k0,s0)::vars,[],h=>by simp at h
 |(k0,s0)::vars,e::E,h=>by
  obtain⟨h1,h2⟩:=Aod vars E (by simpa using h);simp only[Avj];refine⟨by simpa using h1,λk d hk =>?_⟩;rw[Bd] at hk;by_cases hkk:k=k0
  ·subst hkk;simp at hk;subst hk;exact⟨0,s0,by simp,by simp⟩
  ·rw[if_neg hkk] at hk;obtain⟨i,s,h3,h4⟩:=h2 k d hk;exact⟨i+1,s,by simpa using h3,by simpa using h4⟩
theorem Ake(e f:Env)(k:Nat)(d:D)(h:get (e++f) k=some d):get e k=some d\/get f k=some d:=by
 induction e with
 |nil=>exact .inr h
 |cons p e ih =>
  obtain⟨q,v⟩:=p;rw[Zb2,Bd] at h;rw[Bd];by_cases hk:k=q
  ·grind
  ·grind
theorem A8n{env:Env}{nb:Nat}:∀{fx:List (Nat×D)}{k:Nat}{d:D},Yf env fx=true->(fx.all λp=>Bpv nb p.2)=true->get fx k=some d->Bpv nb d=true/\∃d',get env k=some d'/\Rs d d' = true
 |[],k,d,_,_,h=>by simp[get] at h
 |(q,v)::fx,k,d,h1,h2,h=>by
  simp[Yf] at h1;simp only[Zv1,Zb1] at h2;rw[Bd] at h;split at h1
  ·rename_i d' hd';simp at h1;by_cases hk:k=q
   ·subst hk;simp at h;subst h;exact⟨h2.1,d',hd',h1.1⟩
   ·rw[if_neg hk] at h;exact A8n h1.2 h2.2 h
  ·cases h1
def Ad2:D->List Nat
 |.ptr b _=>[b]
 |_=>[]
def C8:D->List Nat
 |.ptr b _=>[b]
 |.yl b=>[b]
 |.fn _ cs=>cs.flatMap Ad2
 |.bm _ cs=>cs.flatMap Ad2
 |_=>[]
theorem Aat{x x':Vx}:∀{cs cs':List D}{vs:List Value},(∀b,b∈cs.flatMap Ad2->x'.m.bl b=x.m.bl b/\b<x'.nb)->L6 cs cs' = true->Reps x cs' vs->Reps x' cs vs:=by
 intro cs;induction cs with
 |nil =>intro cs' vs _ h hr;cases cs' with|nil=>simpa[Reps] using hr|cons _ _=>simp[L6] at h
 |cons d cs ih =>
  intro cs' vs hb h hr;unfold L6 at h;split at h
  ·exact absurd (by assumption:d::cs=[]) (by simp)
  ·rename_i b o l b' o' m heq;simp at heq;obtain⟨rfl,rfl⟩:=heq;simp only[Zb1] at h;obtain rfl:=Zl1 h.1.1;obtain rfl:=Zl1 h.1.2;simp[Reps] at hr ⊢;obtain⟨u,us,rfl,h1,h2⟩:=hr;simp[Rep] at h1;obtain⟨g1,g2⟩:=hb b (by simp[Ad2]);exact⟨u,us,rfl,by simp[Rep];exact⟨g2,by rw[g1];exact h1.2⟩,ih (λc hc=>hb c (by rw[List.flatMap_cons,List.mem_append];exact .inr hc)) h.2 h2⟩
  ·cases h
theorem Aor{nb:Nat}{d:D}(h:Y7 nb d=true):∀b,b∈C8 d->b<nb:=by
 intro b hb;cases d with
 |ptr k o =>simp[C8] at hb;subst hb;simpa[Y7] using h
 |fn f cs =>simp[C8] at hb;obtain⟨c,hc,hbc⟩:=hb;simp only[Y7] at h;have h1:=Zg2.1 h c hc;cases c with|ptr k o =>simp[Ad2] at hbc;subst hbc;simpa using h1|_=>simp[Ad2] at hbc
 |bm f cs =>simp[C8] at hb;obtain⟨c,hc,hbc⟩:=hb;simp only[Y7] at h;have h1:=Zg2.1 h c hc;cases c with|ptr k o =>simp[Ad2] at hbc;subst hbc;simpa using h1|_=>simp[Ad2] at hbc
 |yl k =>simp[C8] at hb;subst hb;simpa[Y7] using h
 |_=>simp[C8] at hb
theorem Bd2{nb:Nat}{d:D}(h:Bpv nb d=true):∀b,b∈C8 d->b<nb:=by cases d with|agg l=>intro b hb;simp[C8] at hb|_=>exact Aor h
theorem Aer{x x':Vx}:∀{ds ds':List D}{vs:List Value},Us ds ds' = true->Reps x ds' vs->Reps x' ds vs/\ds.all lf=true
 |[],[],vs,_,hr=>⟨by simpa[Reps] using hr,rfl⟩
 |d::ds,d'::ds',vs,h,hr=>by
  unfold Us at h;split at h
  ·rename_i h1 h2;cases h1
  ·rename_i a l b m h1 h2;cases h1;cases h2;simp at h;obtain⟨rfl,h⟩:=h;simp at hr ⊢;obtain⟨u,us,rfl,h3,h4⟩:=hr;obtain⟨h5,h6⟩:=Aer (x':=x') h h4;exact⟨⟨u,us,rfl,by simpa only[Rep] using h3,h5⟩,by simpa[lf] using h6⟩
  ·cases h
 |[],_::_,_,h,_=>by simp[Us] at h
 |_::_,[],_,h,_=>by simp[Us] at h
theorem Bqm{nb:Nat}{d:D}(h:Y7 nb d=true):lf d=true:=by cases d<;>first|rfl|(simp[Y7] at h)
theorem Qj{x x':Vx}{d d':D}{v:Value}(hb:∀b,b∈C8 d->x'.m.bl b=x.m.bl b/\b<x'.nb)(h:Rs d d' = true)(hr:Rep x d' v):Rep x' d v:=by
 unfold Rs at h;split at h
 ·simp only[Zb1] at h;obtain rfl:=Zl1 h.1;obtain rfl:=Zl1 h.2;simp[Rep] at hr ⊢;obtain⟨g1,g2⟩:=hb _ (List.mem_singleton.2 rfl);exact⟨g2,by rw[g1];exact hr.2⟩
 ·simp only[Zb1] at h;obtain rfl:=Zl1 h.1;simp[Rep] at hr ⊢;obtain⟨vs,h1,h2⟩:=hr;exact⟨vs,h1,Aat hb h.2 h2⟩
 ·simp only[Zb1] at h;obtain rfl:=Zl1 h.1;simp[Rep] at hr ⊢;obtain⟨vs,h1,h2⟩:=hr;exact⟨vs,h1,Aat hb h.2 h2⟩
 ·obtain rfl:=Zl1 h;simp[Rep] at hr ⊢;exact hr
 ·obtain rfl:=Zl1 h;simp[Rep] at hr ⊢;obtain⟨g1,g2⟩:=hb _ (List.mem_singleton.2 rfl);exact⟨g2,by rw[g1];exact hr.2⟩
 ·simp[Rep] at hr ⊢;exact hr
 ·simp only[Rep] at hr ⊢;obtain⟨_,vs,rfl,h2⟩:=hr;obtain⟨h3,h4⟩:=Aer (x':=x') h h2;exact⟨h4,vs,rfl,h3⟩
 ·cases h
theorem Ya{x x':Vx}:∀{ds ds':List D}{vs:List Value},(∀d,d∈ds->∀b,b∈C8 d->x'.m.bl b=x.m.bl b/\b<x'.nb)->Mt ds ds' = true->Reps x ds' vs->Reps x' ds vs
 |[],[],vs,_,_,hr=>by simpa[Reps] using hr
 |[],_::_,_,_,h,_=>by simp[Mt] at h
 |_::_,[],_,_,h,_=>by simp[Mt] at h
 |d::ds,d'::ds',vs,hb,h,hr=>by simp[Mt] at h;simp[Reps] at hr ⊢;obtain⟨u,us,rfl,h1,h2⟩:=hr;exact⟨u,us,rfl,Qj (hb d Zr1) h.1 h1,Ya (λe he=>hb e (Zu1 _ he)) h.2 h2⟩
def fxs:List (Nat×Bs)->List D
 |[]=>[]
 |(_,.fx ds)::l=>ds++fxs l
 |(_,.cells _)::l=>fxs l
 |(_,.one _)::l=>fxs l
 |(_,.bld _)::l=>fxs l
 |(_,.oc _ b _)::l =>.ptr b 0::fxs l
 |(_,.rc _ _ _ _ env _)::l=>env.map (·.2)++fxs l
theorem Bhf{x:Vx}{β:Nat}{k:Blk}(h:F6 x β k)(hk:∀t d,k ≠ .bld t d)(hk2:∀q,k ≠ .ob q)(hk3:∀s n ps asg body env,k ≠ .lr s n ps asg body env)(hk4:∀e,k ≠ .lj e)(hk5:∀j n ps asg body env q,k ≠ .lx j n ps asg body env q):∃(vs:List Value) (t:TypeId),x.w.heap[β]? = some (.cells vs.toArray t (0,0))/\Rep x (Bb0 k) (.agg vs.toArray):=by cases k with|bld t d=>exact absurd rfl (hk t d)|ob q=>exact absurd rfl (hk2 q)|lr s n ps asg body env=>exact absurd rfl (hk3 s n ps asg body env)|lj e=>exact absurd rfl (hk4 e)|lx j n ps asg body env q=>exact absurd rfl (hk5 j n ps asg body env q)|cells ds=>obtain⟨h1,vs,t,h2,h3⟩:=h;exact⟨vs,t,h2,by simp only[Bb0,Rep];exact⟨h1,vs,rfl,h3⟩⟩|box c y=>obtain⟨h1,vs,t,h2,h3,h4⟩:=h;exact⟨vs,t,h2,by simp only[Bb0,Rep];exact⟨h1,vs,rfl,h3,h4⟩⟩|row c n xs=>obtain⟨h1,vs,t,h2,h3,h4⟩:=h;exact⟨vs,t,h2,by simp only[Bb0,Rep];exact⟨h1,vs,rfl,h3,h4⟩⟩|dyn c xs=>obtain⟨h1,vs,t,h2,h3,h4⟩:=h;exact⟨vs,t,h2,by simp only[Bb0,Rep];exact⟨h1,vs,rfl,h3,h4⟩⟩
theorem Bhv{x:Vx}{β:Nat}{d:D}{vs:List Value}{t:TypeId}(hd:(∃c y,d = .sv c y)\/(∃c n xs,d = .rw c n xs)\/∃c xs,d = .dn c xs)(hh:x.w.heap[β]? = some (.cells vs.toArray t (0,0)))(hr:Rep x d (.agg vs.toArray)):F6 x β (unD d):=by
 have inj:∀us:List Value,(Value.agg vs.toArray) = .agg us.toArray->vs=us:=λus h=>by simpa using h
 rcases hd with ⟨c,y,rfl⟩|⟨c,n,xs,rfl⟩|⟨c,xs,rfl⟩
 ·simp only[Rep] at hr;obtain⟨h0,us,h1,h2,h3⟩:=hr;obtain rfl:=inj us h1;exact⟨h0,vs,t,hh,h2,h3⟩
 ·simp only[Rep] at hr;obtain⟨h0,us,h1,h2,h3⟩:=hr;obtain rfl:=inj us h1;exact⟨h0,vs,t,hh,h2,h3⟩
 ·simp only[Rep] at hr;obtain⟨h0,us,h1,h2,h3⟩:=hr;obtain rfl:=inj us h1;exact⟨h0,vs,t,hh,h2,h3⟩
theorem Air:∀{k b:Nat}{c:Ck}{ds ds':List D},Aoj k b c ds=some ds'->∃ds0 s n,ds=ds0++[.osl b c s n]/\ds' = ds0++[.int .i64 s,.int .i64 n]/\ds0.length=k
 |0,b,c,ds,ds',h=>by
  unfold Aoj at h;split at h
  ·split at h
   ·rename_i hc;simp only[Zb1,Zg1] at hc;obtain⟨hc1,rfl⟩:=hc;have hc1:=Zl1 hc1;subst hc1;simp at h;exact⟨[],_,_,rfl,h.symm,rfl⟩
   ·cases h
  ·rename_i e;cases e
  ·cases h
 |k+1,b,c,[],ds',h=>by simp[Aoj] at h
 |k+1,b,c,d::ds,ds',h=>by
  simp[Aoj] at h;split at h
  ·rename_i es hes;simp at h;obtain⟨ds0,s,n,rfl,rfl,hl⟩:=Air hes;exact⟨d::ds0,s,n,rfl,h.symm,by simp[hl]⟩
  ·cases h
theorem M7:∀(k b:Nat) (c:Ck) (E:List D),U7 k b c (E.take (k+(0+1+1)))=U7 k b c E
 |0,b,c,[]=>rfl
 |0,b,c,[d]=>rfl
 |0,b,c,d::e::E=>by cases d<;>first|rfl|(cases e<;>rfl)
 |k+1,b,c,[]=>rfl
 |k+1,b,c,d::E=>by rw[show k+1+(0+1+1)=(k+(0+1+1))+1 by omega,List.take_succ_cons];simp[U7,M7 k b c E]
theorem Wz{x:Vx}{d:D}{z:Int}(hl:lf d=true)(h:Rep x d (.int .i64 z)):∃k,d = .int k z:=by cases d with|int k m=>simp[Rep] at h;exact⟨k,by rw[h.1.2]⟩|bool b=>simp[Rep] at h|str l=>simp[Rep] at h|sl c xs t=>simp[Rep] at h;obtain⟨a,cap,e,_⟩:=h.1.here.slice;cases e|ep c y o=>simp only[Rep] at h;obtain⟨_,_,e,_⟩:=h;cases e|ptr b o=>simp only[Rep] at h;cases h.2|nilp=>simp[Rep] at h|gp g=>simp[Rep] at h|gm l=>simp only[Rep] at h;obtain⟨_,_,_,e,_⟩:=h;cases e|osl b c s n=>simp only[Rep] at h;obtain⟨_,_,_,_,_,_,e,_⟩:=h;cases e|dp b c i=>simp only[Rep] at h;cases h.2.1|rp b c n i=>simp only[Rep] at h;cases h.2.1|fn f caps=>simp only[Rep] at h;obtain⟨_,e,_⟩:=h;cases e|bm f caps=>simp only[Rep] at h;obtain⟨_,e,_⟩:=h;cases e|nilfn=>simp[Rep] at h|yl b=>simp only[Rep] at h;cases h.2|sv c y=>simp[lf] at hl|dn c xs=>simp[lf] at hl|rw c n xs=>simp[lf] at hl|agg ds=>simp[lf] at hl|tup ds=>simp[lf] at hl|undef=>simp[lf] at hl|junk=>simp[lf] at hl
theorem Ag4{x:Vx}{b:Nat}{c:Ck}{s n:Int}:∀{l:List Sg}{E:List D}{vs:List Value},l.length=vs.length->ShL (l++[.int .i64,.int .i64]) E->Reps x E (vs++[.int .i64 s,.int .i64 n])->∃e0,U7 l.length b c E=e0++[.osl b c s n]/\Reps x e0 vs/\ShL l e0
 |[],E,vs,hl,hsh,hr=>by have hv:vs=[]:=List.eq_nil_of_length_eq_zero hl.symm;subst hv;simp at hsh hr;obtain⟨e1,E1,rfl,hs1,hsh⟩:=hsh;obtain⟨e2,E2,rfl,hs2,hsh⟩:=hsh;simp[Reps] at hr;obtain⟨_,_,⟨rfl,rfl⟩,hr1,_,_,⟨rfl,rfl⟩,hr2,hr3⟩:=hr;obtain⟨k1,rfl⟩:=Wz (hs1.1 rfl) hr1;obtain⟨k2,rfl⟩:=Wz (hs2.1 rfl) hr2;exact⟨[],rfl,by simp[Reps],rfl⟩
 |s0::l,E,[],hl,hsh,hr=>by simp at hl
 |s0::l,E,v::vs,hl,hsh,hr=>by obtain⟨d,E',rfl,h1,h2⟩:=hsh;simp[ Reps] at hr;obtain⟨_,_,⟨rfl,rfl⟩,hr1,hr2⟩:=hr;obtain⟨e0,p1,p2,p3⟩:=Ag4 (b:=b) (c:=c) (by simpa using hl) h2 hr2;exact⟨d::e0,by simp[ U7,p1],by simp only[Reps];exact⟨v,vs,rfl,hr1,p2⟩,d,e0,rfl,h1,p3⟩
theorem Reps.snoc{x:Vx}:∀{ds:List D}{d:D}{vs:List Value},Reps x (ds++[d]) vs->∃us u,vs=us++[u]/\Reps x ds us/\Rep x d u
 |[],d,vs,h=>by simp only[Zf2,Reps] at h;obtain⟨u,us,rfl,h1,rfl⟩:=h;exact⟨[],u,rfl,by simp[Reps],h1⟩
 |e::ds,d,vs,h=>by simp[ Reps] at h;obtain⟨u,us,rfl,h1,h2⟩:=h;obtain⟨ws,z,rfl,h3,h4⟩:=Reps.snoc h2;exact⟨u::ws,z,rfl,by simp only[Reps];exact⟨u,ws,rfl,h1,h3⟩,h4⟩
theorem Bh3{v w:Value}(h:Bm5 v w=true):v=w:=by
 unfold Bm5 at h;split at h
 ·simp only[Zb1,Zg1] at h;obtain⟨rfl,rfl⟩:=h;rfl
 ·rw[eq_of_beq h]
 ·rfl
 ·cases h
theorem Aaq{a b:Operand}(h:Qh a b=true):a=b:=by
 unfold Qh at h;split at h
 ·rw[Zl1 h]
 ·rw[Bh3 h]
 ·cases h
theorem Aq8:∀{l m:List Operand},Abo l m=true->l=m
 |[],[],_=>rfl
 |a::l,b::m,h=>by simp only[Abo,Zb1] at h;rw[Aaq h.1,Aq8 h.2]
 |[],_::_,h=>by simp[Abo] at h
 |_::_,[],h=>by simp[Abo] at h
theorem Ac4:∀{l m:List Nat},Xj l m=true->l=m
 |[],[],_=>rfl
 |a::l,b::m,h=>by simp only[Xj,Zb1] at h;rw[Zl1 h.1,Ac4 h.2]
 |[],_::_,h=>by simp[Xj] at h
 |_::_,[],h=>by simp[Xj] at h
theorem Aid:∀{l m:List (Nat×Operand)},Uj l m=true->l=m
 |[],[],_=>rfl
 |(i,a)::l,(j,b)::m,h=>by simp only[Uj,Zb1] at h;rw[Zl1 h.1.1,Aaq h.1.2,Aid h.2]
 |[],_::_,h=>by simp[Uj] at h
 |_::_,[],h=>by simp[Uj] at h
theorem Bra{a b:Op}(h:Bt0 a b=true):a=b:=by
 unfold Bt0 at h;split at h<;>first
  |(cases h;done)
  |(simp only[Zb1,Zg1] at h
    grind [Zl1,Aaq,Aid,Aq8,Ac4])
  |exact congrArg _ (Zl1 h)
theorem Ags:∀{l m:List Edge},To l m=true->l=m
 |[],[],_=>rfl
 |⟨a,g⟩::l,⟨b,k⟩::m,h=>by simp only[To,Zb1,Zg1] at h;rw[Zl1 h.1.1,h.1.2,Ags h.2]
 |[],_::_,h=>by simp[To] at h
 |_::_,[],h=>by simp[To] at h
theorem Ag1:∀{l m:List Oper},Ug l m=true->l=m
 |[],[],_=>rfl
 |⟨d,o,t,p,⟨a⟩,g⟩::l,⟨d',o',t',p',⟨a'⟩,g'⟩::m,h=>by simp only[Ug,Zb1,Zg1] at h;obtain⟨⟨⟨⟨⟨⟨h1,h2⟩,h3⟩,h4⟩,h5⟩,h6⟩,h7⟩:=h;rw[h1,Bra h2,Zl1 h3,h4,Ags h5,h6,Ag1 h7]
 |[],_::_,h=>by simp[Ug] at h
 |_::_,[],h=>by simp[Ug] at h
theorem H3:∀{a b:Code},C0 a b=true->a=b
 |.skip,.skip,_=>rfl
 |.ret,.ret,_=>rfl
 |.exit i,.exit j,h=>by simp only[C0] at h;rw[Zl1 h]
 |.region i ⟨l⟩ d,.region j ⟨m⟩ e,h=>by simp only[C0,Zb1] at h;rw[Zl1 h.1.1,Ag1 h.1.2,eq_of_beq h.2]
 |.seq a b,.seq a' b',h=>by simp only[C0,Zb1] at h;rw[H3 h.1,H3 h.2]
 |.cond c a b,.cond c' a' b',h=>by simp only[C0,Zb1] at h;rw[Aaq h.1.1,H3 h.1.2,H3 h.2]
 |.block i b,.block j b',h=>by simp only[C0,Zb1] at h;rw[Zl1 h.1,H3 h.2]
 |.loop _,b,h=>by simp[C0] at h
 |.scope _,b,h=>by simp[C0] at h
 |.rangeFunc _ _ _ _,b,h=>by simp[C0] at h
 |.label _,b,h=>by simp[C0] at h
 |.goto _,b,h=>by simp[C0] at h
 |.refuse _,b,h=>by simp[C0] at h
 |.skip,.ret,h|.skip,.exit _,h|.skip,.region _ _ _,h|.skip,.seq _ _,h|.skip,.cond _ _ _,h|.skip,.block _ _,h|.skip,.loop _,h|.skip,.scope _,h|.skip,.rangeFunc _ _ _ _,h|.skip,.label _,h|.skip,.goto _,h|.skip,.refuse _,h=>by simp[C0] at h
 |.ret,.skip,h|.ret,.exit _,h|.ret,.region _ _ _,h|.ret,.seq _ _,h|.ret,.cond _ _ _,h|.ret,.block _ _,h|.ret,.loop _,h|.ret,.scope _,h|.ret,.rangeFunc _ _ _ _,h|.ret,.label _,h|.ret,.goto _,h|.ret,.refuse _,h=>by simp[C0] at h
 |.exit _,.skip,h|.exit _,.ret,h|.exit _,.region _ _ _,h|.exit _,.seq _ _,h|.exit _,.cond _ _ _,h|.exit _,.block _ _,h|.exit _,.loop _,h|.exit _,.scope _,h|.exit _,.rangeFunc _ _ _ _,h|.exit _,.label _,h|.exit _,.goto _,h|.exit _,.refuse _,h=>by simp[C0] at h
 |.region _ _ _,.skip,h|.region _ _ _,.ret,h|.region _ _ _,.exit _,h|.region _ _ _,.seq _ _,h|.region _ _ _,.cond _ _ _,h|.region _ _ _,.block _ _,h|.region _ _ _,.loop _,h|.region _ _ _,.scope _,h|.region _ _ _,.rangeFunc _ _ _ _,h|.region _ _ _,.label _,h|.region _ _ _,.goto _,h|.region _ _ _,.refuse _,h=>by simp[C0] at h
 |.seq _ _,.skip,h|.seq _ _,.ret,h|.seq _ _,.exit _,h|.seq _ _,.region _ _ _,h|.seq _ _,.cond _ _ _,h|.seq _ _,.block _ _,h|.seq _ _,.loop _,h|.seq _ _,.scope _,h|.seq _ _,.rangeFunc _ _ _ _,h|.seq _ _,.label _,h|.seq _ _,.goto _,h|.seq _ _,.refuse _,h=>by simp[C0] at h
 |.cond _ _ _,.skip,h|.cond _ _ _,.ret,h|.cond _ _ _,.exit _,h|.cond _ _ _,.region _ _ _,h|.cond _ _ _,.seq _ _,h|.cond _ _ _,.block _ _,h|.cond _ _ _,.loop _,h|.cond _ _ _,.scope _,h|.cond _ _ _,.rangeFunc _ _ _ _,h|.cond _ _ _,.label _,h|.cond _ _ _,.goto _,h|.cond _ _ _,.refuse _,h=>by simp[C0] at h
 |.block _ _,.skip,h|.block _ _,.ret,h|.block _ _,.exit _,h|.block _ _,.region _ _ _,h|.block _ _,.seq _ _,h|.block _ _,.cond _ _ _,h|.block _ _,.loop _,h|.block _ _,.scope _,h|.block _ _,.rangeFunc _ _ _ _,h|.block _ _,.label _,h|.block _ _,.goto _,h|.block _ _,.refuse _,h=>by simp[C0] at h
theorem Apl{n n':Nat}{ps ps':List Nat}{asg body asg' body':Code}{env:List (Nat×D)}{env':Env}(h:Asz n ps asg body env n' ps' asg' body' env' = true):n=n'/\ps=ps'/\asg=asg'/\body=body'/\Yf env' env=true:=by simp only[Asz,Zb1] at h;exact⟨Zl1 h.1.1.1.1,Ac4 h.1.1.1.2,H3 h.1.1.2,H3 h.1.2,h.2⟩
theorem Avk{k:Nat}{d:D}:∀{env:Env},get env k=some d->(k,d)∈env
 |[],h=>by simp[get] at h
 |(q,e)::l,h=>by
  rw[Bd] at h;by_cases hk:k=q
  ·rw[if_pos hk] at h;cases h;rw[hk];exact Zr1
  ·rw[if_neg hk] at h;exact Zu1 _ (Avk h)
theorem Ayy{env:Env}:∀{fx:List (Nat×D)}{k:Nat}{d:D},Yf env fx=true->get fx k=some d->∃d',get env k=some d'/\Rs d d' = true
 |[],k,d,_,h=>by simp[get] at h
 |(q,v)::fx,k,d,h1,h=>by
  simp[Yf] at h1;rw[Bd] at h;split at h1
  ·rename_i d' hd';simp at h1;by_cases hk:k=q
   ·subst hk;simp at h;subst h;exact⟨d',hd',h1.1⟩
   ·rw[if_neg hk] at h;exact Ayy h1.2 h
  ·cases h1
theorem Azk{x x':Vx}{n:Nat}{env:List (Nat×D)}{env':Env}{a:Act}(hfx:∀p,p∈env->∀b,b∈C8 p.2->x'.m.bl b=x.m.bl b/\b<x'.nb)(hf:Yf env' env=true)(hr:EnvR x n [] (get env') a):EnvR x' n [] (get env) a :=⟨hr.defers,hr.size,λk d hd=>by obtain⟨d',h1,h2⟩:=Ayy hf hd;obtain⟨v,h3,h4⟩:=hr.get k d' h1;exact⟨v,h3,Qj (hfx _ (Avk hd)) h2 h4⟩⟩
theorem Bg8{x x':Vx}{β n q:Nat}{ps:List Nat}{asg body:Code}{env:List (Nat×D)}{k:Blk}{j:Int}(hw:x'.w=x.w)(hfx:∀p,p∈env->∀b,b∈C8 p.2->x'.m.bl b=x.m.bl b/\b<x'.nb)(h:Bnc n ps asg body env q k=some j)(hr:F6 x β k):F6 x' β (.lx j n ps asg body env q):=by
 unfold Bnc at h;split at h
 ·split at h
  ·rename_i hc;simp only[Zb1] at hc;obtain⟨hs,hc⟩:=hc;obtain⟨rfl,rfl,rfl,rfl,hf⟩:=Apl hc;cases h;obtain⟨rc,g1,g2,g3,g4,g5,g6⟩:=hr;exact⟨rfl,λ_=>⟨rc,by rw[hw];exact g1,g2,g3,g4,Azk hfx hf g5,g6 (Zl1 hs)⟩,λh=>absurd rfl h⟩
  ·cases h
 ·cases h;obtain⟨rc,g1,g2,g3⟩:=hr;exact⟨rfl,λh=>absurd h (by decide),λ_=>⟨rc,by rw[hw];exact g1,g2,g3⟩⟩
 ·split at h
  ·rename_i hc;cases h;obtain rfl:=Zl1 hc;obtain⟨rc,g1,g2,g3⟩:=hr;exact⟨rfl,λh=>absurd h (by decide),λ_=>⟨rc,by rw[hw];exact g1,g2,g3⟩⟩
  ·cases h
 ·split at h
  ·rename_i hc;simp only[Zb1] at hc;obtain⟨hs,hc⟩:=hc;obtain⟨rfl,rfl,rfl,rfl,hf⟩:=Apl hc;obtain rfl:=Zl1 hs;cases h;refine⟨hr.1,λhj =>?_,λhj =>?_⟩
   ·obtain⟨rc,g1,g2,g3,g4,g5,g6⟩:=hr.2.1 hj;exact⟨rc,by rw[hw];exact g1,g2,g3,g4,Azk hfx hf g5,g6⟩
   ·obtain⟨rc,g1,g2⟩:=hr.2.2 hj;exact⟨rc,by rw[hw];exact g1,g2⟩
  ·cases h
 ·cases h
theorem Bq1{x:Vx}{β n q:Nat}{ps:List Nat}{asg body:Code}{env:List (Nat×D)}{k:Blk}{j:Int}(h:Bnc n ps asg body env q k=some j)(hr:F6 x β k):E8 .i64 j=true:=by
 unfold Bnc at h;split at h
 ·split at h
  ·cases h;rfl
  ·cases h
 ·cases h;rfl
 ·split at h
  ·cases h;rfl
  ·cases h
 ·split at h
  ·cases h;exact hr.1
  ·cases h
 ·cases h
theorem De{x:Vx}{m:Nat->Nat}{stbl:List (Nat×Blk)}(hb:∀b k,blk stbl b=some k->F6 x (m b) k){nb:Nat}:∀{bl:List (Nat×Bs)}{B:List D},Be stbl bl=some B->(bl.all λp=>Nat.blt p.1 nb&&bsB nb p.2)=true ->
  ∃VB:List Value,Reps x B VB/\∀(x':Vx) (E:List D),(x'.w=x.w/\x'.el=x.el)->(∀d,d∈fxs bl->∀b,b∈C8 d->x'.m.bl b=x.m.bl b/\b<x'.nb)->ShL ((bl.map (·.2.sgs)).flatten) E->Reps x' E VB->∀b k,blk (Ct bl E) b=some k->F6 x' (m b) k/\blk stbl b≠none/\b<nb
 |[],B,h,_=>by simp[Be] at h;subst h;exact⟨[],by simp[Reps],λx' E _ _ _ _ b k hk=>by simp[Ct,blk] at hk⟩
 |(b0,.cells l)::bl,B,h,hok=>by
  simp[Be] at h;simp only[Zv1,Zb1] at hok;split at h
  ·rename_i ds es hds hes;split at h
   ·rename_i hlen;simp at h;subst h;obtain⟨VB,h1,h2⟩:=De hb hes hok.2;obtain⟨hlf,vs,t,hh,hreps⟩:=hb b0 _ hds;refine⟨vs++VB,hreps.append h1,λx' E hw hfx hsh hr b k hk =>?_⟩;simp[Zw1,Bs.sgs] at hsh;obtain⟨s1,s2⟩:=hsh.split;have hvl:vs.length=l.length:=by rw[hreps.len,(Zl1 hlen)]
    obtain⟨r1,r2⟩:=hr.take;rw[hvl] at r1 r2;simp[Ct] at hk;rw[Aw] at hk;by_cases hbb:b=b0
    ·subst hbb;simp[if_true] at hk;subst hk;exact⟨⟨s1.lf hok.1.2,vs,t,by rw[hw.1];exact hh,r1⟩,by rw[hds];simp,by simpa[Nat.blt_eq] using hok.1.1⟩
    ·rw[if_neg hbb] at hk;exact h2 x' _ hw hfx s2 r2 b k hk
   ·cases h
  ·cases h
 |(b0,.one s)::bl,B,h,hok=>by
  simp[Be] at h;simp only[Zv1,Zb1] at hok;split at h
  ·cases h
  ·cases h
  ·cases h
  ·cases h
  ·cases h
  ·rename_i k0 es hnb hnq hnr hnj hnx hk0 hes;simp at h;subst h;obtain⟨VB,h1,h2⟩:=De hb hes hok.2;obtain⟨vs,t,hh,hrep⟩:=Bhf (hb b0 _ hk0) (λt d e=>hnb t d e) (λq e=>hnq q e) (λs n ps asg body env e=>hnr s n ps asg body env e) (λj e=>hnj j e) (λj n ps asg body env q e=>hnx j n ps asg body env q e);refine⟨.agg vs.toArray::VB,by simp only[Reps];exact⟨_,VB,rfl,hrep,h1⟩,λx' E hw hfx hsh hr b k hk =>?_⟩;simp[Zw1,Bs.sgs] at hsh;obtain⟨d,E',rfl,hs1,hs2⟩:=hsh;simp only[Reps] at hr;obtain⟨u,us,hu,hr1,hr2⟩:=hr;simp[Ze2] at hu;obtain⟨rfl,rfl⟩:=hu;simp[Ct] at hk;rw[Aw] at hk;by_cases hbb:b=b0
   ·subst hbb;simp[if_true] at hk;subst hk;exact⟨Bhv (hs1.2.1 (by have h12:(!Kx s)=true:=hok.1.2;simpa using h12)) (by rw[hw.1];exact hh) hr1,by rw[hk0];simp,by simpa[Nat.blt_eq] using hok.1.1⟩
   ·rw[if_neg hbb] at hk;exact h2 x' _ hw hfx hs2 hr2 b k hk
  ·cases h
 |(b0,.bld t0)::bl,B,h,hok=>by
  simp[Be] at h;simp only[Zv1,Zb1] at hok;split at h
  ·rename_i t1 d0 es hk0 hes;split at h
   case h_2=>cases h
   rename_i ht;obtain rfl:=Zl1 ht;simp at h;subst h;obtain⟨VB,h1,h2⟩:=De hb hes hok.2;obtain⟨_,a,v,hh,ha,hrep⟩:=hb b0 _ hk0;refine⟨v::VB,by simp only[Reps];exact⟨_,VB,rfl,hrep,h1⟩,λx' E hw hfx hsh hr b k hk =>?_⟩;simp[Zw1,Bs.sgs] at hsh;obtain⟨d,E',rfl,hs1,hs2⟩:=hsh;simp only[Reps] at hr;obtain⟨u,us,hu,hr1,hr2⟩:=hr;simp[Ze2] at hu;obtain⟨rfl,rfl⟩:=hu;simp[Ct] at hk;rw[Aw] at hk;by_cases hbb:b=b0
   ·subst hbb;simp[if_true] at hk;subst hk;exact⟨⟨hs1.2.2 rfl,a,v,by rw[hw.1];exact hh,ha,hr1⟩,by rw[hk0];simp,by simpa[Nat.blt_eq] using hok.1.1⟩
   ·rw[if_neg hbb] at hk;exact h2 x' _ hw hfx hs2 hr2 b k hk
  ·cases h
 |(b0,.fx l)::bl,B,h,hok=>by
  simp[Be] at h;simp only[Zv1,Zb1] at hok;split at h
  ·rename_i ds es hds hes;split at h
   ·rename_i hsame;simp at h;subst h;obtain⟨VB,h1,h2⟩:=De hb hes hok.2;obtain⟨_,vs,t,hh,hreps⟩:=hb b0 _ hds;refine⟨VB,h1,λx' E hw hfx hsh hr b k hk =>?_⟩;simp[Zw1,Bs.sgs,Zf2] at hsh;simp[Ct] at hk;rw[Aw] at hk;have hl:l.all (Y7 nb)=true:=hok.1.2;by_cases hbb:b=b0
    ·subst hbb;simp[if_true] at hk;subst hk;exact⟨⟨Zg2.2 λd hd=>Bqm (Zg2.1 hl d hd),vs,t,by rw[hw.1];exact hh,Ya (λd hd=>hfx d (by simp[fxs,List.mem_append];exact .inl hd)) hsame hreps⟩,by rw[hds];simp,by simpa[Nat.blt_eq] using hok.1.1⟩
    ·rw[if_neg hbb] at hk;exact h2 x' _ hw (λd hd=>hfx d (by simp[fxs,List.mem_append];exact .inr hd)) hsh hr b k hk
   ·cases h
  ·cases h
 |(b0,.oc l b1 c)::bl,B,h,hok=>by
  simp[Be] at h;simp only[Zv1,Zb1] at hok;split at h
  ·rename_i ds es hds hes;split at h
   ·rename_i ds' hoc;simp at h;subst h;obtain⟨ds0,s0,n0,rfl,rfl,hl0⟩:=Air hoc;obtain⟨VB,h1,h2⟩:=De hb hes hok.2;obtain⟨hlf,vs,t,hh,hreps⟩:=hb b0 _ hds;obtain⟨vs0,vo,rfl,r0,ro⟩:=hreps.snoc;have hro:=ro;simp[Rep] at ro;obtain⟨_,g2,g3,g4,_⟩:=ro;have u1:E8 .i64 s0=true:=by have:=P3 (show s0.toNat<=maxLen by omega);rwa[Int.toNat_of_nonneg g2] at this
    have u2:E8 .i64 n0=true:=by have:=P3 (show n0.toNat<=maxLen by omega);rwa[Int.toNat_of_nonneg g3] at this
    have hok12:l.all Kx=true/\b1<nb:=by have h12:(l.all Kx&&Nat.blt b1 nb)=true:=hok.1.2;simp only[Zb1] at h12;exact⟨h12.1,by simpa[Nat.blt_eq] using h12.2⟩
    refine⟨(vs0++[.int .i64 s0,.int .i64 n0])++VB,(r0.append (by simp only[Reps];exact⟨_,_,rfl,C2 u1,_,_,rfl,C2 u2,rfl⟩)).append h1,λx' E hw hfx hsh hr b k hk =>?_⟩;simp only[Zw1,Bs.sgs] at hsh;obtain⟨s1,s2⟩:=hsh.split;have hvl:vs0.length=l.length:=by rw[r0.len,hl0]
    simp[ Zf1,Zi1] at s1 s2;obtain⟨q1,q2⟩:=hr.take;simp[Zh1,Zf1,Zi1,hvl] at q1 q2;simp[Ct] at hk;rw[Aw] at hk;by_cases hbb:b=b0
    ·subst hbb;simp[if_true,Za1] at hk;subst hk;obtain⟨e0,hput,hrep0,hsh0⟩:=Ag4 (b:=b1) (c:=c) hvl.symm s1 q1;have hput2:U7 l.length b1 c E=e0++[.osl b1 c s0 n0]:=(M7 l.length b1 c E).symm.trans hput;rw[hput2];obtain⟨hm,hbn⟩:=hfx (.ptr b1 0) (by simp[fxs]) b1 (by simp[C8]);refine⟨⟨?_,vs0++[vo],t,by rw[hw.1];exact hh,hrep0.append ?_⟩,by rw[hds];simp,by simpa[Nat.blt_eq] using hok.1.1⟩
     ·simp[List.all_append,hsh0.lf hok12.1,Bool.true_and];rfl
     ·simp only[Reps];refine⟨vo,[],rfl,?_,rfl⟩;simp[Rep] at hro ⊢;rw[hm,hw.1,hw.2];exact⟨hbn,hro.2⟩
    ·rw[if_neg hbb] at hk;exact h2 x' _ hw (λd hd=>hfx d (by simp[fxs,List.mem_cons];exact .inr hd)) s2 q2 b k hk
   ·cases h
  ·cases h
 |(b0,.rc n ps asg body env q)::bl,B,h,hok=>by
  simp[Be] at h;simp only[Zv1,Zb1] at hok;split at h
  ·rename_i k0 es hk0 hes;split at h
   ·rename_i j hj;simp at h;subst h;obtain⟨VB,h1,h2⟩:=De hb hes hok.2;have hB:=hb b0 _ hk0;have hu:E8 .i64 j=true:=Bq1 hj hB;refine⟨.int .i64 j::VB,by simp only[Reps];exact⟨_,VB,rfl,C2 hu,h1⟩,λx' E hw hfx hsh hr b k hk =>?_⟩;simp[Zw1,Bs.sgs] at hsh;obtain⟨d,E',rfl,hs1,hs2⟩:=hsh;simp only[Reps] at hr;obtain⟨u,us,hu',hr1,hr2⟩:=hr;simp[Ze2] at hu';obtain⟨rfl,rfl⟩:=hu';obtain⟨kk,rfl⟩:=Wz (hs1.1 rfl) hr1;simp only[Ct] at hk;rw[Aw] at hk;by_cases hbb:b=b0
    ·subst hbb;simp[if_true] at hk;subst hk;exact⟨Bg8 hw.1 (λp hp b hb=>hfx p.2 (by simp only[fxs];exact List.mem_append_left _ (List.mem_map.2 ⟨p,hp,rfl⟩)) b hb) hj hB,by rw[hk0];simp,by simpa[Nat.blt_eq] using hok.1.1⟩
    ·rw[if_neg hbb] at hk;exact h2 x' _ hw (λd hd=>hfx d (by simp only[fxs];exact List.mem_append_right _ hd)) hs2 hr2 b k hk
   ·cases h
  ·cases h
theorem It{x:Vx}{n:Nat}{df:List D}{env:Env}{a:Act}(he:EnvR x n df (get env) a):∀{ow:List (Nat×Nat×Ck)}{O:List D},Ko env ow=some O->∃VO:List Value,Reps x O VO/\∀(x':Vx) (E:List D),(x'.m.bl=x.m.bl/\x'.w=x.w/\x'.el=x.el)->(∀p,p∈ow->p.2.1<x'.nb)->ShL (Ayv ow) E->Reps x' E VO->∀k d,get (Auk ow E) k=some d->∃v,a.tmps[k]? = some v/\Rep x' d v
 |[],O,h=>by simp[Ko] at h;subst h;exact⟨[],by simp[Reps],λx' E _ _ _ _ k d hk=>by simp[Auk,get] at hk⟩
 |(k0,b,c)::ow,O,h=>by
  simp[Ko] at h;split at h
  ·rename_i b' c' s0 n0 ds hd hds;split at h
   ·rename_i hc;simp only[Zb1,Zg1] at hc;obtain⟨hc1,rfl⟩:=hc;have hc1:=Zl1 hc1;subst hc1;simp at h;subst h;obtain⟨VO,h1,h2⟩:=It he hds;obtain⟨v,hv,hr⟩:=he.get k0 _ hd;simp only[Rep] at hr;obtain⟨g1,g2,g3,g4,g5⟩:=hr;have u1:E8 .i64 s0=true:=by have:=P3 (show s0.toNat<=maxLen by omega);rwa[Int.toNat_of_nonneg g2] at this
    have u2:E8 .i64 n0=true:=by have:=P3 (show n0.toNat<=maxLen by omega);rwa[Int.toNat_of_nonneg g3] at this
    refine⟨.int .i64 s0 :: .int .i64 n0::VO,by simp only[Reps];exact⟨_,_,rfl,C2 u1,_,_,rfl,C2 u2,h1⟩,λx' E hm hb hsh hr' k d hk =>?_⟩;simp[Ayv] at hsh;obtain⟨e1,E1,rfl,hs1,hsh⟩:=hsh;obtain⟨e2,E2,rfl,hs2,hsh⟩:=hsh;simp[Reps,Ze2] at hr';obtain⟨_,_,⟨rfl,rfl⟩,hr1,_,_,⟨rfl,rfl⟩,hr2,hr3⟩:=hr';cases e1 with
    |int k1 m1 =>
     cases e2 with
     |int k2 m2 =>
      simp[Rep,Value.int.injEq] at hr1 hr2;obtain⟨⟨_,rfl⟩,_⟩:=hr1;obtain⟨⟨_,rfl⟩,_⟩:=hr2;simp[Auk] at hk;rw[Bd] at hk;by_cases hkk:k=k0
      ·subst hkk;simp at hk;subst hk;refine⟨v,hv,?_⟩;simp only[Rep];exact⟨hb _ Zr1,g2,g3,g4,by rw[hm.1,hm.2.1,hm.2.2];exact g5⟩
      ·rw[if_neg hkk] at hk;exact h2 x' _ hm (λp hp=>hb p (by simp[hp])) hsh hr3 k d hk
     |_=>simp[Auk,get] at hk
    |_=>simp[Auk,get] at hk
   ·cases h
  ·cases h
theorem Ze{x:Vx}:∀{frs:List Fr}{as_:List Act}{lb lt p q:Nat},Afu x lb lt frs as_↔Afu { x with nb:=p,nt:=q } lb lt frs as_
 |[],_,_,_,_,_=>Iff.rfl
 |f::frs,as_,lb,lt,p,q=>by
  simp[Afu];constructor
  ·rintro⟨a,r,h1,h2,h3,h4,h5⟩;exact⟨a,r,h1,h2,h3,h4,Ze.1 h5⟩
  ·rintro⟨a,r,h1,h2,h3,h4,h5⟩;exact⟨a,r,h1,h2,h3,h4,Ze.2 h5⟩
theorem F8:∀(l:List Sg) (i p:Nat),p∈A7 i l->i<=p/\p<i+l.length
 |[],i,p,hp=>by simp[A7] at hp
 |s::l,i,p,hp=>by
  have rec':p∈A7 (i+1) l->i<=p/\p<i+(s::l).length:=λh=>by have:=F8 l (i+1) p h;simp;omega
  cases s with
  |sl c own =>
   cases own with
   |true =>
    simp[A7] at hp;rcases hp with rfl|hp
    ·simp
    ·exact rec' hp
   |false=>exact rec' (by simpa[A7] using hp)
  |_=>exact rec' (by simpa[A7] using hp)
theorem Gl:∀{l m:List Nat},Cc l m=true->l=m
 |[],[],_=>rfl
 |a::l,b::m,h=>by simp only[Cc,Zb1] at h;rw[Zl1 h.1,Gl h.2]
 |[],_::_,h=>by simp[Cc] at h
 |_::_,[],h=>by simp[Cc] at h
theorem Azo(i:Nat)(l:List Sg)(x:HV l):(Bw i l x).length=l.length:=(Age i l x).len
theorem Ey:∀(bl:List (Nat×Bs)) (E:List D),Ct bl (E.take ((bl.map (·.2.sgs)).flatten).length)=Ct bl E
 |[],E=>by simp[Ct]
 |(b,.cells l)::bl,E=>by have ih:=Ey bl (E.drop l.length);simp only[Ct,Zw1,Zz1,Bs.sgs,Zh1] at ih ⊢;rw[List.take_take,Nat.min_eq_left (Nat.le_add_right _ _),List.drop_take,Nat.add_sub_cancel_left,ih]
 |(b,.one s)::bl,[]=>by simp
 |(b,.one s)::bl,d::E=>by have ih:=Ey bl E;simp only[Zw1,Zz1,Bs.sgs,Zh1,Zf1,Zi1] at ih ⊢;rw[Nat.add_comm,List.take_succ_cons];simp only[Ct];rw[ih]
 |(b,.bld _)::bl,[]=>by simp
 |(b,.bld _)::bl,d::E=>by have ih:=Ey bl E;simp only[Zw1,Zz1,Bs.sgs,Zh1,Zf1,Zi1] at ih ⊢;rw[Nat.add_comm,List.take_succ_cons];simp only[Ct];rw[ih]
 |(b,.fx l)::bl,E=>by have ih:=Ey bl E;simp[Ct,Bs.sgs] at ih ⊢;rw[ih]
 |(b,.oc l b1 c)::bl,E=>by
  have ih:=Ey bl (E.drop (l.length+2));simp only[Ct,Zw1,Zz1,Bs.sgs,Zh1,Zf1,Zi1] at ih ⊢;have e1:∀q:Nat,U7 l.length b1 c (E.take (l.length+(0+1+1)+q))=U7 l.length b1 c E:=λq=>by rw[<-M7 l.length b1 c (E.take _),List.take_take,Nat.min_eq_left (Nat.le_add_right _ _),M7]
  have e2:∀q:Nat,l.length+(0+1+1)+q-(l.length+2)=q:=λq=>by omega
  rw[e1,List.drop_take,e2,ih]
 |(b,.rc n ps asg body env q)::bl,[]=>by have ih:=Ey bl [];simp
 |(b,.rc n ps asg body env q)::bl,d::E=>by have ih:=Ey bl E;simp only[Zw1,Zz1,Bs.sgs,Zh1,Zf1,Zi1] at ih ⊢;rw[Nat.add_comm,List.take_succ_cons];cases d<;>simp only[Ct,List.drop_succ_cons,Zq1,ih]
theorem Nl{nb:Nat}:∀{bl:List (Nat×Bs)},(bl.all λp=>Nat.blt p.1 nb&&bsB nb p.2)=true->∀d,d∈fxs bl->Y7 nb d=true
 |[],_,d,hd=>by cases hd
 |(_,.cells _)::bl,h,d,hd=>by simp only[Zv1,Zb1] at h;exact Nl h.2 d hd
 |(_,.one _)::bl,h,d,hd=>by simp only[Zv1,Zb1] at h;exact Nl h.2 d hd
 |(_,.bld _)::bl,h,d,hd=>by simp only[Zv1,Zb1] at h;exact Nl h.2 d hd
 |(_,.fx l)::bl,h,d,hd=>by
  simp only[Zv1,Zb1] at h;simp[fxs] at hd;rcases hd with hd|hd
  ·have hl:l.all (Y7 nb)=true:=h.1.2;exact Zg2.1 hl d hd
  ·exact Nl h.2 d hd
 |(_,.oc l b1 c)::bl,h,d,hd=>by
  simp only[Zv1,Zb1] at h;simp[fxs] at hd;rcases hd with rfl|hd
  ·have h12:(l.all Kx&&Nat.blt b1 nb)=true:=h.1.2;simp only[Zb1] at h12;exact h12.2
  ·exact Nl h.2 d hd
 |(_,.rc n ps asg body env q)::bl,h,d,hd=>by
  simp only[Zv1,Zb1] at h;simp only[fxs] at hd;rcases List.mem_append.1 hd with hd|hd
  ·obtain⟨p,hp,rfl⟩:=List.mem_map.1 hd;have h12:(env.all λp=>Y7 nb p.2)=true:=h.1.2;exact Zg2.1 h12 p hp
  ·exact Nl h.2 d hd
theorem Py{env:Env}:∀{ow:List (Nat×Nat×Ck)}{O:List D},Ko env ow=some O->O.length=(Ayv ow).length
 |[],O,h=>by simp[Ko] at h;subst h;rfl
 |(k,b,c)::ow,O,h=>by
  simp[Ko] at h;split at h
  ·rename_i hds;split at h
   ·simp at h;subst h;simp[Ayv,Py hds]
   ·cases h
  ·cases h
section
variable {cx:Cx}
theorem Rel.recode{m:Mp}{a:Act}{as_:List Act}{w:World}{sg:Sig}{st:St}{x:HV sg.sgs}(hok:V2 sg=true)(hd:Im sg st=some x)(hr:Rel cx m a as_ (fs st) w):∃m',Rel cx m' a as_ (fs (Fw sg st.fr x)) w:=by
 simp only[V2,Zb1] at hok;obtain⟨⟨⟨hok1,hok2⟩,hok3⟩,hok4⟩:=hok;have hok3:sg.lb<=sg.nb:=by simpa using hok3
 unfold Im at hd;split at hd
 ·rename_i A B O hA hB hO hc;simp only[Zb1] at hc;obtain⟨⟨⟨⟨⟨hc1,hc2⟩,hc3⟩,hc4⟩,hcd⟩,hc5⟩:=hc;have hc2:st.n=sg.n:=Zl1 hc2;have hc3:st.lb=sg.lb:=Zl1 hc3;have hc4:st.lt=sg.lt:=Zl1 hc4;obtain⟨VA,hVA,hVA2⟩:=J6 (env:=st.env) hr.env hA;obtain⟨VB,hVB,hVB2⟩:=De (x:=vx cx m (fs st) w) (m:=m.bl) (stbl:=st.bl) (λb k hk=>(hr.blks b k hk).2) hB hok2;obtain⟨VO,hVO,hVO2⟩:=It (env:=st.env) hr.env hO;obtain⟨as1,as2⟩:=Q2 sg.lt hd;have hals:∀t,t∈(st.tk.filter λt => !sg.tk.contains t)->t∈st.tk/\t∉sg.tk:=λt ht=>by
   simp only[List.mem_filter] at ht;refine⟨ht.1,λhm =>?_⟩;have:sg.tk.contains t=true:=by simpa using hm
   rw[this] at ht;cases ht.2
  have htk:∀t,t∈sg.tk->(t∈st.tk/\t<sg.lt):=λt ht=>by have:=Zg2.1 hc5 t ht;simp at this;exact⟨by simpa using this.2,by simpa using this.1⟩
  let E:=Bw sg.lt sg.sgs x;have hE:E.length=sg.sgs.length:=Azo _ _ _;have hvl:sg.vars.length<=E.length:=by rw[hE];simp[Sig.sgs]
  obtain⟨z1,z2⟩:=Aod sg.vars E hvl;let m':Mp:=⟨m.bl,λt=>if t<sg.lt then m.tk t else(asg sg.lt sg.sgs (A++(B++O)) t).bind m.tk⟩;have henc:Fw sg st.fr x=⟨sg.n,(Avj sg.vars E).1++(sg.fix++Auk sg.ow ((E.drop sg.vars.length).drop ((sg.bl.map (·.2.sgs)).flatten).length)),sg.lb,sg.lt,st.fr,Ct sg.bl (E.drop sg.vars.length),sg.nb,A7 sg.lt sg.sgs++sg.tk,sg.lt+sg.sgs.length,[]⟩:=by unfold Fw;rw[<-z1]
  have hshE:ShL ((sg.bl.map (·.2.sgs)).flatten++Ayv sg.ow) (E.drop sg.vars.length):=by have hsh:=(Age sg.lt sg.sgs x);simp[Sig.sgs] at hsh;have hs2:=hsh.split.2;simp at hs2;exact hs2
  have hbl:∀(X':Vx),(X'.w=w/\X'.el=cx.el)->(∀d,d∈fxs sg.bl->∀b,b∈C8 d->X'.m.bl b=m.bl b/\b<X'.nb)->Reps X' ((E.drop sg.vars.length).take ((sg.bl.map (·.2.sgs)).flatten).length) VB->∀b k,blk (Ct sg.bl (E.drop sg.vars.length)) b=some k->F6 X' (m.bl b) k/\blk st.bl b≠none/\b<sg.nb:=λX' hw hfx hrp b k hk=>by exact hVB2 X' _ hw hfx hshE.split.1 hrp b k (by rw[Ey];exact hk)
  have htoks:∀t,t∈A7 sg.lt sg.sgs++sg.tk->t<sg.lt+sg.sgs.length/\((t<sg.lt/\(t∈st.tk/\t∈sg.tk)/\m'.tk t=m.tk t)\/(sg.lt<=t/\t∈A7 sg.lt sg.sgs/\m'.tk t=(asg sg.lt sg.sgs (A++(B++O)) t).bind m.tk)):=λt ht=>by
   simp at ht;rcases ht with ht|ht
   ·obtain⟨h1,h2⟩:=F8 _ _ _ ht;exact⟨h2,.inr ⟨h1,ht,by simp[m',Nat.not_lt.2 h1]⟩⟩
   ·obtain⟨h1,h2⟩:=htk t ht;exact⟨by omega,.inl ⟨h2,⟨h1,ht⟩,by simp[m',h2]⟩⟩
  have horig:∀t g o,t∈A7 sg.lt sg.sgs++sg.tk->m'.tk t=some (g,o)->∃t',t'∈st.tk/\m.tk t' = some (g,o)/\(((t<sg.lt/\t∈sg.tk)/\t' = t)\/(sg.lt<=t/\t'∉sg.tk/\asg sg.lt sg.sgs (A++(B++O)) t=some t')):=λt g o ht hg=>by
   rcases(htoks t ht).2 with ⟨h1,h2,h3⟩|⟨h1,_,h3⟩
   ·rw[h3] at hg;exact⟨t,h2.1,hg,.inl ⟨⟨h1,h2.2⟩,rfl⟩⟩
   ·rw[h3] at hg;cases hasg:asg sg.lt sg.sgs (A++(B++O)) t with|none=>rw[hasg] at hg;cases hg|some t' =>rw[hasg,Zc1] at hg;obtain⟨q1,q2⟩:=hals t' (as1 t t' hasg).1;exact⟨t',q1,hg,.inr ⟨h1,q2,rfl⟩⟩
  let s':FS:=fs (Fw sg st.fr x);have hs'al:∀t,s'.al t↔t∈A7 sg.lt sg.sgs++sg.tk:=λt=>by simp[s',henc,fs]
  have hs'bl:s'.bl=blk (Ct sg.bl (E.drop sg.vars.length)):=by simp[s',henc,fs]
  have hpre:∀b,s'.bl b≠none->blk st.bl b≠none:=λb hb=>by
   rw[hs'bl] at hb;cases hk:blk (Ct sg.bl (E.drop sg.vars.length)) b with
   |none=>exact absurd hk hb
   |some k =>
    have:∀(bl:List (Nat×Bs)) (B:List D) (E:List D) (b:Nat) (k:Blk),Be st.bl bl=some B->blk (Ct bl E) b=some k->blk st.bl b≠none:=by
     intro bl;induction bl with
     |nil=>intro B E b k _ hk;simp[Ct,blk] at hk
     |cons p bl ih =>
      intro B E b k hg hk;obtain⟨b0,bs⟩:=p;cases bs with
      |cells l =>
       simp[Be] at hg;split at hg
       ·rename_i ds es hds hes;simp[Ct] at hk;rw[Aw] at hk;by_cases hbb:b=b0
        ·rw[hbb,hds];simp
        ·rw[if_neg hbb] at hk;exact ih _ _ b k hes hk
       ·cases hg
      |bld t0 =>
       simp[Be] at hg;split at hg
       ·rename_i t1 k0 es hk0 hes;cases E with
        |nil =>
         simp[Ct] at hk;rw[Aw] at hk;by_cases hbb:b=b0
         ·rw[hbb,hk0];simp
         ·rw[if_neg hbb] at hk;exact ih _ _ b k hes hk
        |cons e E =>
         simp[Ct] at hk;rw[Aw] at hk;by_cases hbb:b=b0
         ·rw[hbb,hk0];simp
         ·rw[if_neg hbb] at hk;exact ih _ _ b k hes hk
       ·cases hg
      |fx l =>
       simp[Be] at hg;split at hg
       ·rename_i ds es hds hes;split at hg
        ·simp[Ct] at hk;rw[Aw] at hk;by_cases hbb:b=b0
         ·rw[hbb,hds];simp
         ·rw[if_neg hbb] at hk;exact ih _ _ b k hes hk
        ·cases hg
       ·cases hg
      |oc l b1 c =>
       simp[Be] at hg;split at hg
       ·rename_i ds es hds hes;simp[Ct] at hk;rw[Aw] at hk;by_cases hbb:b=b0
        ·rw[hbb,hds];simp
        ·rw[if_neg hbb] at hk;exact ih _ _ b k hes hk
       ·cases hg
      |rc n ps asg body env q =>
       simp[Be] at hg;split at hg
       ·rename_i k0 es hk0 hes;have h':∃K0 E',blk ((b0,K0)::Ct bl E') b=some k:=by cases E with|nil=>exact⟨_,_,hk⟩|cons d E=>cases d<;>exact⟨_,_,hk⟩
        obtain⟨K0,E',hk⟩:=h';rw[Aw] at hk;by_cases hbb:b=b0
        ·rw[hbb,hk0];simp
        ·rw[if_neg hbb] at hk;exact ih _ _ b k hes hk
       ·cases hg
      |one s =>
       simp[Be] at hg;split at hg
       ·cases hg
       ·cases hg
       ·cases hg
       ·cases hg
       ·cases hg
       ·rename_i k0 es hnb hnq hnr hnj hnx hk0 hes;cases E with
        |nil =>
         simp[Ct] at hk;rw[Aw] at hk;by_cases hbb:b=b0
         ·rw[hbb,hk0];simp
         ·rw[if_neg hbb] at hk;exact ih _ _ b k hes hk
        |cons e E =>
         simp[Ct] at hk;rw[Aw] at hk;by_cases hbb:b=b0
         ·rw[hbb,hk0];simp
         ·rw[if_neg hbb] at hk;exact ih _ _ b k hes hk
       ·cases hg
    exact this sg.bl B _ b k hB hk
  have hfp:∀b i,Dv m' s' b i->Dv m (fs st) b i:=by
   rintro b i (⟨q,hq,rfl⟩|⟨t,o,h1,h2,h3⟩)
   ·exact .inl ⟨q,hpre q hq,rfl⟩
   ·obtain⟨t',q1,q2,_⟩:=horig t b o ((hs'al t).1 h1) h2;exact .inr ⟨t',o,q1,q2,h3⟩
  have hS:∀b i,(vx cx m' s' w).S b i->(vx cx m (fs st) w).S b i:=by
   rintro b i (h|h)
   ·exact .inl h
   ·exact .inr (hfp b i h)
  have hnt:(vx cx m' s' w).nt=sg.lt+sg.sgs.length:=by simp[vx,s',henc,fs]
  have hreps:Reps (vx cx m' s' w) E (VA++(VB++VO)):=F3 (X:=vx cx m (fs st) w) (X':=vx cx m' s' w) hS rfl rfl sg.lt hd (λt ht=>(hals t ht).1) (hVA.append (hVB.append hVO)) (λp hp=>by obtain⟨q1,q2⟩:=F8 _ _ _ hp;refine⟨by rw[hnt];exact q2,?_⟩;simp[vx,m',Nat.not_lt.2 q1])
  have hVAl:VA.length=sg.vars.length:=by
   have h1:=hVA.len;have:A.length=sg.vars.length:=by
    have:∀(vars:List (Nat×Sg)) (A:List D),Jk st.env vars=some A->A.length=vars.length:=by
     intro vars;induction vars with
     |nil=>intro A h;simp[Jk] at h;subst h;rfl
     |cons p vars ih =>
      intro A h;simp[Jk] at h;split at h
      ·rename_i d ds _ hds;simp at h;subst h;simp[ih ds hds]
      ·cases h
    exact this _ _ hA
   omega
  obtain⟨r1,r2⟩:=hreps.take;rw[hVAl] at r1 r2;have hVBl:VB.length=((sg.bl.map (·.2.sgs)).flatten).length:=by have e1:=r2.len;have e2:=hshE.len;have e3:=hVO.len;have e4:=Py hO;simp only[Zh1] at e1 e2;omega
  obtain⟨r3,r4⟩:=r2.take;rw[hVBl] at r3 r4;refine⟨m',?_⟩;show Rel cx m' a as_ s' w;have hlb':s'.lb=sg.lb:=by simp[s',henc,fs]
  have hlt':s'.lt=sg.lt:=by simp[s',henc,fs]
  have hfr':s'.fr=st.fr:=by simp[s',henc,fs]
  have hnb':s'.nb=sg.nb:=by simp[s',henc,fs]
  have hnt':s'.nt=sg.lt+sg.sgs.length:=hnt;have hdf:a.defers=[]:=hr.noDf (List.isEmpty_iff.1 hcd);refine⟨hr.chg,⟨by rw[show s'.df=[] by simp[s',henc,fs],hdf];rfl,?_,λk d hk =>?_⟩,?_,?_,?_,λb k hk =>?_,λt ht =>?_,λb b' h1 h2=>hr.inj b b' (hpre b h1) (hpre b' h2),?_,?_,λb i hi=>hr.own b i (hfp b i hi),hr.away,?_⟩
  ·have:s'.n=sg.n:=by simp[s',henc,fs]
   rw[this,<-hc2];exact hr.env.size
  ·have hk':get ((Avj sg.vars E).1++(sg.fix++Auk sg.ow ((E.drop sg.vars.length).drop ((sg.bl.map (·.2.sgs)).flatten).length))) k=some d:=by simpa only[s',henc,fs] using hk
   rcases Ake _ _ _ _ hk' with h|h
   ·obtain⟨i,s,h1,h2⟩:=z2 k d h;obtain⟨v,h3,h4⟩:=hVA2 i k s h1;have hlt:i<VA.length:=(Zi2.1 h3).1;obtain⟨u,hu,hru⟩:=hreps.get h2;rw[List.getElem?_append_left hlt,h3] at hu;simp at hu;subst hu;exact⟨v,h4,hru⟩
   rcases Ake _ _ _ _ h with h|h
   ·obtain⟨h1,d',h2,h3⟩:=A8n hc1 hok1 h;obtain⟨v,h4,h5⟩:=hr.env.get k d' h2;exact⟨v,h4,Qj (x:=vx cx m (fs st) w) (λb hb=>⟨rfl,by simp[vx,hnb'];exact Bd2 h1 b hb⟩) h3 h5⟩
   ·exact hVO2 (vx cx m' s' w) _ ⟨rfl,rfl,rfl⟩ (λp hp=>by have:=Zg2.1 hok4 p hp;simp[vx,hnb'];simpa using this) hshE.split.2 r4 k d h
  ·rw[hlb',hlt',hfr'];have h0:=hr.frs;have e1:(fs st).lb=sg.lb:=hc3;have e2:(fs st).lt=sg.lt:=hc4;rw[e1,e2] at h0;have h1:=(Ze (p:=sg.lb) (q:=sg.lt)).1 h0;refine(Ze (p:=sg.lb) (q:=sg.lt)).2 (Afu.later (x:={ vx cx m (fs st) w with nb:=sg.lb,nt:=sg.lt }) ?_ (Zn1 _) (Zn1 _) h1);refine⟨Chg.refl _ _,λb i hi =>.inl (hS b i hi),rfl,λ_ _=>rfl,Zn1 _,Zn1 _,λt ht ha =>?_⟩;have ht:t<sg.lt:=ht;rcases(htoks t ((hs'al t).1 ha)).2 with ⟨_,q2,q3⟩|⟨q1,_,_⟩
   ·exact⟨q2.1,q3,λ_ _ _=>rfl⟩
   ·omega
  ·rw[hlb',hnb'];exact hok3
  ·rw[hlt',hnt'];omega
  ·rw[hs'bl] at hk;obtain⟨q1,_,q3⟩:=hbl (vx cx m' s' w) ⟨rfl,rfl⟩ (λd hd b hb=>⟨rfl,by simp[vx,hnb'];exact Aor (Nl hok2 d hd) b hb⟩) r3 b k hk;exact⟨by rw[hnb'];exact q3,q1⟩
  ·rw[hnt'];exact(htoks t ((hs'al t).1 ht)).1
  ·intro t t' g o o' h1 h2 h3 h4;obtain⟨u,q1,q2,q3⟩:=horig t g o ((hs'al t).1 h1) h3;obtain⟨u',p1,p2,p3⟩:=horig t' g o' ((hs'al t').1 h2) h4;have huu:=hr.injt u u' g o o' q1 p1 q2 p2;subst huu;rcases q3 with ⟨a1,a2⟩|⟨a1,a2,a3⟩<;>rcases p3 with ⟨b1,b2⟩|⟨b1,b2,b3⟩
   ·rw[<-a2,<-b2]
   ·rw[a2] at b2;exact absurd a1.2 b2
   ·rw[b2] at a2;exact absurd b1.2 a2
   ·exact as2 t t' u a3 b3
  ·intro b t g o h1 h2 h3;obtain⟨u,q1,q2,_⟩:=horig t g o ((hs'al t).1 h2) h3;exact hr.injbt b u g o (hpre b h1) q1 q2
  ·exact⟨λg c xs hx i y hy w' hw=>hr.glb.1 g c xs hx i y hy w' (hw.mono hS),λg l hl=>by obtain⟨r,es,clk,q1,q2⟩:=hr.glb.2.1 g l hl;exact⟨r,es,clk,λw' hw=>q1 w' (hw.mono hS),q2⟩,λg k hk=>by obtain⟨n,q1⟩:=hr.glb.2.2 g k hk;exact⟨n,λw' hw=>q1 w' (hw.mono hS)⟩⟩
 ·cases hd
end
theorem Rf(n:Nat)(p:Nat->Bool):(Cn n p).size=n:=by simp[Cn]
theorem Ag0{n i:Nat}{p:Nat->Bool}(h:i<n)(d:Bool):(Cn n p).getD i d=p i:=by
 have h':i<(Cn n p).size:=by rw[Rf];exact h
 rw[Array.getD_eq_getD_getElem?,Zk2 h'];simp[Cn]
theorem A59{n:Nat}{p:Nat->Bool}{listed:Array Bool}(hs:listed.size=n)(h:∀i,i<n->listed.getD i true=p i):listed=Cn n p:=by
 apply Array.ext_getElem?;intro i;by_cases hi:i<n
 ·have h1:=h i hi;have h2:(Cn n p).getD i true=p i:=Ag0 hi true;have e1:listed[i]? = some (listed[i]'(by omega)):=Zk2 (by omega);have hi2:i<(Cn n p).size:=by rw[Rf];exact hi
  have e2:(Cn n p)[i]? = some ((Cn n p)[i]'hi2):=Zk2 hi2;rw[Array.getD_eq_getD_getElem?,e1] at h1;rw[Array.getD_eq_getD_getElem?,e2] at h2;rw[e1,e2];simp at h1 h2;rw[h1,h2]
 ·rw[Array.getElem?_eq_none (by omega),Array.getElem?_eq_none (by rw[Rf];omega)]
theorem Ib{n j:Nat}{p:Nat->Bool}(hj:j<n){q:Nat->Bool}(h:∀i,i<n->q i=(p i||Nat.beq i j)):(Cn n p).setIfInBounds j true=Cn n q:=by
 refine A59 (by rw[Array.size_setIfInBounds,Rf]) λi hi =>?_;rw[h i hi];by_cases hij:i=j
 ·simp_all
 ·rw[getD_set_ne true (Ne.symm hij),Ag0 hi,Ga hij,Bool.or_false]
theorem Brd{n j:Nat}{p:Nat->Bool}{ops:Array Oper}(hn:ops.size=n)(h:j∈Region.ready .any ops (Cn n p)):j<n/\p j=false:=by
 obtain⟨h0,o,ho,_⟩:=mem_ready.1 h;have hj:j<n:=by rw[<-hn];exact(Zh2.1 ho).1
 rw[Ag0 hj] at h0;exact⟨hj,h0⟩
theorem Bj5{P:Program}{o:Oper}{a:Act}{w:World}{K K':Act->World->Prop}{Q Q':Exit->Act->World->Prop}(hk:∀a w,K a w->K' a w)(h:∀e a w,Q e a w->Q' e a w)(hh:o.wpIn Fence.wide 0 P a w K Q):o.wpIn Fence.wide 0 P a w K' Q':=by
 unfold Oper.wpIn at *;refine⟨hh.1,?_⟩;have hh:=hh.2;generalize (o.semAt Fence.wide.round a.eval).run P w=r at *;have hl:LetsOut Q->LetsOut Q':=λ⟨a,w,hq⟩=>⟨a,w,h _ _ _ hq⟩;cases r with
 |ok n w' =>
  cases n<;>simp only[Oper.uponIn] at hh ⊢ <;>
   first
    |exact hk _ _ hh
    |exact⟨hh.1,CallsIn.mono hh.2 (λe w'' he=>by cases e<;>first|exact hk _ _ he|exact hl he|exact h _ _ _ he)⟩
    |exact⟨hh.1,RowsIn.mono hh.2 (λ_ _ he=>hk _ _ he)⟩
    |exact⟨hh.1,RoundIn.mono hh.2 (λe w'' he=>by cases e<;>first|exact hk _ _ he|exact hl he|exact h _ _ _ he)⟩
    |exact hh
 |halt x w'=>cases x<;>simp only[Oper.uponIn] at hh ⊢ <;> first|exact hh|exact h _ _ _ hh
theorem A5c{P:Program}{ops:Array Oper}{i:Nat}{a:Act}{w:World}{K K':Act->World->Prop}{Q Q':Exit->Act->World->Prop}(hk:∀a w,K a w->K' a w)(h:∀e a w,Q e a w->Q' e a w)(hh:wpOpIn Fence.wide 0 P ops Q i K a w):wpOpIn Fence.wide 0 P ops Q' i K' a w:=by
 unfold wpOpIn at *;split
 ·grind
 ·rename_i o ho;simp only[ho] at hh;split
  ·rename_i hw;simp only[hw,if_true] at hh;exact Bj5 hk h hh
  ·rename_i hw;simp only[hw] at hh;exact⟨hh.1,hk _ _ hh.2⟩
theorem Aek{P:Program}{ops:Array Oper}{Q Q':Exit->Act->World->Prop}(h:∀e a w,Q e a w->Q' e a w):∀(fuel:Nat) (listed:Array Bool) (a:Act) (w:World),wpAnyIn Fence.wide 0 P .any ops Q fuel listed a w->wpAnyIn Fence.wide 0 P .any ops Q' fuel listed a w
 |0,_,_,_,hh=>⟨hh.1,h _ _ _ hh.2⟩
 |fuel+1,_,_,_,hh=>⟨λhr=>h _ _ _ (hh.1 hr),λi hi=>A5c (λa' w'=>Aek h fuel _ a' w') h (hh.2 i hi)⟩
def Nrm(Q:Exit->Act->World->Prop):Exit->Act->World->Prop:=λe a w=>e = .normal/\Q e a w
theorem A47{P:Program}{ops:Array Oper}{Q:Exit->Act->World->Prop}{i:Nat}{o:Oper}{K:Act->World->Prop}{a:Act}{w w':World}{v:Value}(hi:ops[i]? = some o)(hg:o.guard=none)(hx:(execOp a.eval o).run P w = .ok (.value v) w')(hk:K (a.put o.dst v) w'):wpOpIn Fence.wide 0 P ops Q i K a w:=by unfold wpOpIn;simp only[hi,Di hg,if_true];exact Y4.wp (ro:=none) (.inl ⟨v,w',hx,hk⟩)
theorem Ri{P:Program}{ops:Array Oper}{Q:Exit->Act->World->Prop}{i:Nat}{o:Oper}{K:Act->World->Prop}{a:Act}{w w':World}(hi:ops[i]? = some o)(hg:o.guard=none)(hd:o.dst=none)(hx:(execOp a.eval o).run P w = .ok .skip w')(hk:K a w'):wpOpIn Fence.wide 0 P ops Q i K a w:=by unfold wpOpIn;simp only[hi,Di hg,if_true];exact Y4.wp (ro:=none) (.inr (.inl ⟨w',hx,by rw[hd];exact hk⟩))
theorem Yi{P:Program}{ops:Array Oper}{Q:Exit->Act->World->Prop}{o:Oper}{l:List Oper}{a:Act}{w w':World}{v:Value}(hg:o.guard=none)(hx:(execOp a.eval o).run P w = .ok (.value v) w')(h:wpListIn Fence.wide 0 P ops (Nrm Q) (o::l) a w):wpListIn Fence.wide 0 P ops (Nrm Q) l (a.put o.dst v) w':=by simp only[wpListIn,Di hg,if_true] at h;have h:=h.2;rw[I8 hx (λ_=>nofun)] at h;exact h
theorem Ay7{P:Program}{ops:Array Oper}{Q:Exit->Act->World->Prop}{o:Oper}{l:List Oper}{a:Act}{w w':World}(hg:o.guard=none)(hd:o.dst=none)(hx:(execOp a.eval o).run P w = .ok .skip w')(h:wpListIn Fence.wide 0 P ops (Nrm Q) (o::l) a w):wpListIn Fence.wide 0 P ops (Nrm Q) l a w':=by simp only[wpListIn,Di hg,if_true] at h;have h:=h.2;rw[I8 hx (λ_=>nofun)] at h;have h:wpListIn Fence.wide 0 P ops (Nrm Q) l (a.put o.dst undef) w':=h;rw[hd] at h;exact h
theorem Apa{P:Program}{a:Act}{w:World}{o:Oper}{u:TypeId}{x y:Operand}{β off:Nat}{v:Value}{t:TypeId}{vs:List Value}(ho:o.op = .store u x y)(hx:a.eval x = .pointer (some ⟨β,off,none⟩))(hy:a.eval y=v)(h1:Sx.one v=true)(hz:Sx.tySz P u=some 1)(hh:w.heap[β]? = some (.cells vs.toArray t (0,0)))(hl:off<vs.length):(execOp a.eval o).run P w = .ok .skip (Sx.setCells w β off [v]):=by
 have hcl:v.cells.toList=[v]:=by rw[Sx.one_cells h1]
 have hsz:v.cells.size=1:=by rw[<-Array.length_toList,hcl];rfl
 obtain⟨r1,_,_⟩:=Sx.run_storeCells (P:=P) [v] w β off 0 vs t hh (by simp;omega) (λq hq=>by simp at hq;subst hq;exact h1);simp[execOp,ho,Instr.storeAt,hx,hy,Instr.sureAddr,storeVar,Sx.run_sizeOf hz,hsz,hcl];rw[r1];simp
theorem Amh{w:World}{g β off off':Nat}{us vs cs ds:List Value}{t t':TypeId}{f f':Nat×Nat}(hg:w.heap[g]? = some (.cells cs.toArray t f))(hβ:w.heap[β]? = some (.cells ds.toArray t' f'))(hne : β≠g):Sx.setCells (Sx.setCells w g off us) β off' vs=Sx.setCells (Sx.setCells w β off' vs) g off us:=by
 rw[Dh us cs w g off hg,Dh vs ds w β off' hβ];have h1:(w.setRow g (Sx.writeAt cs off us).toArray).heap[β]? = some (.cells ds.toArray t' f'):=by rw[setRow_other w g β _ hne];exact hβ
 have h2:(w.setRow β (Sx.writeAt ds off' vs).toArray).heap[g]? = some (.cells cs.toArray t f):=by rw[setRow_other w β g _ (Ne.symm hne)];exact hg
 rw[Dh vs ds _ β off' h1,Dh us cs _ g off h2];exact Avv w (Ne.symm hne) _ _
theorem Pq{w:World}{g k off:Nat}{us cs:List Value}{t:TypeId}{f:Nat×Nat}(hg:w.heap[g]? = some (.cells cs.toArray t f))(hne:k≠g):(Sx.setCells w g off us).heap[k]? = w.heap[k]? := by rw[Dh us cs w g off hg,setRow_other w g k _ hne]
theorem Jm{a:Nat}{l:List Nat}(h:dNe a l=true):∀b,b∈l->a≠b:=λb hb e=>by have:=Zg2.1 h b hb;rw[e] at this;simp at this
section
variable {R:Type}{px:Px R}{cx:Cx}
theorem A5m(hp:PxOk cx px){o:Oper}{u:TypeId}{x y:Operand}{st:St}{b off:Nat}{c:Ck}{xs:List (El c)}{t:Tk}{K:St->Option R}{r:R}(ho:o.op = .store u x y)(hx:ev px st 0 x=some (.ptr b off))(hy:ev px st u y=some (.sl c xs t))(hb:(∃ds,blk st.bl b=some (.cells ds))\/∃c y,blk st.bl b=some (.box c y))(h:Yw px o st K=some r) :
  Sx.tySz cx.P u=some 1/\∀(x:Vx) (β:Nat) k,blk st.bl b=some k->F6 x β k->∃(vs:List Value) (t:TypeId),x.w.heap[β]? = some (.cells vs.toArray t (0,0))/\off<vs.length:=by
 unfold Yw at h;simp[ho,hx,hy] at h;rcases hb with ⟨ds,hb⟩|⟨c',y',hb⟩
 ·simp[hb] at h;split at h
  ·rename_i hc;simp only[Zb1] at hc;obtain⟨⟨⟨hc1,hc2⟩,_⟩,hc4⟩:=hc;have hc1 : 1=(px.tt u).n:=Zl1 hc1;have hc2:off+1<=ds.length:=Nat.le_of_ble_eq_true hc2;refine⟨by rw[(Dp (hp.tt u) (Eu hc4).1).2.2,<-hc1],λx β k hk hr =>?_⟩;rw[hb] at hk;simp at hk;subst hk;obtain⟨_,vs,t,h1,h2⟩:=hr;exact⟨vs,t,h1,by rw[h2.len];omega⟩
  ·cases h
 ·simp[hb] at h;split at h
  ·rename_i hc;simp only[Zb1] at hc;obtain⟨⟨⟨hc1,hc2⟩,_⟩,hc4⟩:=hc;have hc1 : 1=(px.tt u).n:=Zl1 hc1;have hc2:off+1<=(enc c' y').length:=Nat.le_of_ble_eq_true hc2;rw[Bu] at hc2;refine⟨by rw[(Dp (hp.tt u) (Eu hc4).1).2.2,<-hc1],λx β k hk hr =>?_⟩;rw[hb] at hk;simp at hk;subst hk;obtain⟨_,vs,t,h1,h2,_⟩:=hr;exact⟨vs,t,h1,by omega⟩
  ·cases h
theorem Aau{a b:Nat}:Nat.ble a b=decide (a<=b):=by cases h:Nat.ble a b with|true=>exact(Ze1 (Nat.le_of_ble_eq_true h)).symm|false=>exact(Zd1 λe=>by rw[Nat.ble_eq_true_of_le e] at h;cases h).symm
theorem O6{a b:Nat}:Nat.beq a b=decide (a=b):=by
 by_cases h:a=b
 ·subst h;simp
 ·rw[Ga h,Zd1 h]
theorem Br4{a b:Nat}:Nat.blt a b=decide (a<b):=by cases h:Nat.blt a b with|true=>rw[Nat.blt_eq] at h;exact(Ze1 h).symm|false=>exact(Zd1 λe=>by rw[<-Nat.blt_eq] at e;rw[e] at h;cases h).symm
end
section
variable {R:Type}{px:Px R}{cx:Cx}
theorem Adl{Q:Exit->Act->World->Prop}{f:Act->Act}:∀c (a:Act) (w:World),Nrm Q (.panic c) (f a) w->Nrm Q (.panic c) a w:=λ_ _ _ h=>by cases h.1
structure Far (cx:Cx) (o:Oper) (u:TypeId) (g:Nat) (wA:World) (β off:Nat) (vs:List Value) (t:TypeId):Prop where
 sz:Sx.tySz cx.P u=some 1
 ne : β≠g
 row:wA.heap[β]? = some (.cells vs.toArray t (0,0))
 lt:off<vs.length
theorem A01{ops:Array Oper}{Q:Exit->Act->World->Prop}{iC iS:Nat}{oc os:Oper}{u:TypeId}{x y:Operand}{a:Act}{wA:World}{g o1 β off:Nat}{us cs vs:List Value}{t0 t:TypeId}{v:Value}{p0 p1 p2 p3:Nat->Bool}(hC:ops[iC]? = some oc)(hS:ops[iS]? = some os)(hCS:iC≠iS)
  (gC:oc.guard=none) (dC:oc.dst=none) (gS:os.guard=none) (dS:os.dst=none) (hop:os.op = .store u x y) (hx:a.eval x = .pointer (some ⟨β,off,none⟩)) (hy:a.eval y=v) (hv:Sx.one v=true) (hF:Far cx os u g wA β off vs t)
  (hrow:wA.heap[g]? = some (.cells cs.toArray t0 (0,0))) (hc:∀(w':World) (cs':List Value),w'.heap[g]? = some (.cells cs'.toArray t0 (0,0))->cs'.length=cs.length->(execOp a.eval oc).run cx.P w' = .ok .skip (Sx.setCells w' g o1 us))
  (h0:∀i,i<ops.size->p0 i=decide (i≠iC/\i≠iS)) (h1:∀i,i<ops.size->p1 i=decide (i≠iS)) (h2:∀i,i<ops.size->p2 i=decide (i≠iC)) (h3:∀i,i<ops.size->p3 i=true)
  (r0:(Region.ready .any ops (Cn ops.size p0)).contains iC=true) (r1:Region.ready .any ops (Cn ops.size p1)=[iS]) (r2:Region.ready .any ops (Cn ops.size p2)=[iC]) (r3:Region.ready .any ops (Cn ops.size p3)=[])
  (hfin:wpListIn Fence.wide 0 cx.P ops (Nrm Q) [os] a (Sx.setCells wA g o1 us)) (fuel:Nat):wpAnyIn Fence.wide 0 cx.P .any ops (Nrm Q) (fuel+2) (Cn ops.size p0) a wA:=by
 have hCn:iC<ops.size:=(Zh2.1 hC).1;have hSn:iS<ops.size:=(Zh2.1 hS).1;have s1:(Cn ops.size p0).setIfInBounds iC true=Cn ops.size p1:=Ib hCn λi hi=>by rw[h0 i hi,h1 i hi,O6];rw[<-Bool.decide_or];exact Zy1.2 (by omega)
 have s2:(Cn ops.size p0).setIfInBounds iS true=Cn ops.size p2:=Ib hSn λi hi=>by rw[h0 i hi,h2 i hi,O6];rw[<-Bool.decide_or];exact Zy1.2 (by omega)
 have s3:(Cn ops.size p1).setIfInBounds iS true=Cn ops.size p3:=Ib hSn λi hi=>by rw[h1 i hi,h3 i hi,O6];rw[<-Bool.decide_or];exact(Ze1 (by omega)).symm
 have s4:(Cn ops.size p2).setIfInBounds iC true=Cn ops.size p3:=Ib hCn λi hi=>by rw[h2 i hi,h3 i hi,O6];rw[<-Bool.decide_or];exact(Ze1 (by omega)).symm
 have row2:(Sx.setCells wA g o1 us).heap[β]? = some (.cells vs.toArray t (0,0)):=by rw[Pq hrow hF.ne];exact hF.row
 have rowS:(Sx.setCells wA β off [v]).heap[g]? = some (.cells cs.toArray t0 (0,0)):=by rw[Pq hF.row (Ne.symm hF.ne)];exact hrow
 have x2:=Apa (P:=cx.P) hop hx hy hv hF.sz row2 hF.lt;have xS:=Apa (P:=cx.P) hop hx hy hv hF.sz hF.row hF.lt;have hend:Nrm Q .normal a (Sx.setCells (Sx.setCells wA g o1 us) β off [v]):=by have:=Ay7 gS dS x2 hfin;exact this
 refine⟨λh=>(by rw[h] at r0;cases r0),λj hj =>?_⟩;obtain⟨hjn,hjp⟩:=Brd rfl hj;rw[h0 j hjn,decide_eq_false_iff_not] at hjp;by_cases hjC:j=iC
 ·subst hjC;refine Ri hC gC dC (hc wA cs hrow rfl) ?_;rw[s1];refine wpAnyIn_all r1 (by simp) λi hi =>?_;simp at hi;subst hi;refine Ri hS gS dS x2 ?_;rw[s3];exact wpAnyIn_done r3 hend fuel
 ·have hjS:j=iS:=Decidable.byContradiction λe=>hjp ⟨hjC,e⟩;subst hjS;refine Ri hS gS dS xS ?_;rw[s2];refine wpAnyIn_all r2 (by simp) λi hi =>?_;simp at hi;subst hi;refine Ri hC gC dC (hc _ cs rowS rfl) ?_;rw[s4,<-Amh hrow hF.row hF.ne];exact wpAnyIn_done r3 hend fuel
theorem Aoe{ops:Array Oper}{Q:Exit->Act->World->Prop}{e:Nat}{q3:Bool}{oa ob oc:Oper}{st st2:St}{m:Mp}{a:Act}{as_:List Act}{w:World}(hA:ops[e]? = some oa)(hB:ops[e+1]? = some ob)(hr:Rel cx m a as_ (fs st) w)(f:Fuse cx oa ob oc st st2 m a as_ w)(hE:Lh ops e q3=true)(fuel:Nat)
  (h:wpAnyIn Fence.wide 0 cx.P .any ops (Nrm Q) fuel (Cn ops.size λi=>Nat.ble i (e+1)) ((a.put (some f.d) f.v7).put (some f.d2) f.vp) f.wA):wpAnyIn Fence.wide 0 cx.P .any ops (Nrm Q) (fuel+2) (Cn ops.size λi=>Nat.blt i e) a w:=by
 simp only[Lh,Zb1] at hE;obtain⟨⟨⟨⟨⟨⟨hs,_⟩,hr0⟩,hr1⟩,hf1⟩,_⟩,_⟩:=hE;have hr0:Region.ready .any ops (Cn ops.size λi=>Nat.blt i e)=[e]:=by simpa using hr0
 have hAn:e<ops.size:=(Zh2.1 hA).1;have hBn:e+1<ops.size:=(Zh2.1 hB).1;have s1:(Cn ops.size λi=>Nat.blt i e).setIfInBounds e true=Cn ops.size λi=>Nat.ble i e:=Ib hAn λi hi=>by rw[Aau,Br4,O6];rw[<-Bool.decide_or];exact Zy1.2 (by omega)
 have s2:(Cn ops.size λi=>Nat.ble i e).setIfInBounds (e+1) true=Cn ops.size λi=>Nat.ble i (e+1):=Ib hBn λi hi=>by rw[Aau,Aau,O6];rw[<-Bool.decide_or];exact Zy1.2 (by omega)
 have hsz:a.tmps.size=st.n:=hr.env.size;have hd:f.d<a.tmps.size:=by rw[hsz];exact f.lt
 refine wpAnyIn_all hr0 (by simp) λi hi =>?_;simp at hi;subst hi;refine A47 hA f.gd f.run ?_;rw[f.dst,s1];refine wpAnyIn_take rfl (v:=f.vp) hB hs hf1 hr1 (Adl (f:=λa=>a.put ob.dst f.vp)) ⟨.inl ⟨Di f.gd2 _,λw'=>f.run2 _ w' (Gm hd) (C3 f.nei)⟩,λ_=>by simp[Oper.about,f.op2]⟩ ?_;rw[s2,f.dst2];exact h
theorem Bvn{ops:Array Oper}{Q:Exit->Act->World->Prop}{e:Nat}{oa ob oc os:Oper}{st st2:St}{m:Mp}{a:Act}{as_:List Act}{w:World}(hA:ops[e]? = some oa)(hB:ops[e+1]? = some ob)(hC:ops[e+2]? = some oc)(hS:ops[e+3]? = some os)(hr:Rel cx m a as_ (fs st) w)(f:Fuse cx oa ob oc st st2 m a as_ w)(hE:Lh ops e false=true)
  {u:TypeId}{k β off:Nat}{vs:List Value}{t:TypeId}(hop:os.op = .store u (.tmp k) (.tmp f.d)) (gS:os.guard=none) (dS:os.dst=none) (hk1:k≠f.d) (hk2:k≠f.d2) (hx:a.eval (.tmp k) = .pointer (some ⟨β,off,none⟩)) (hF:Far cx os u f.g f.wA β off vs t)
  (hfin:wpListIn Fence.wide 0 cx.P ops (Nrm Q) [os] ((a.put (some f.d) f.v7).put (some f.d2) f.vp) (Sx.setCells f.wA f.g f.off f.us)) (fuel:Nat):wpAnyIn Fence.wide 0 cx.P .any ops (Nrm Q) (fuel+4) (Cn ops.size λi=>Nat.blt i e) a w:=by
 refine Aoe hA hB hr f hE (fuel+2) ?_;have hE0:=hE;simp only[Lh,Zb1] at hE;obtain⟨⟨⟨⟨⟨⟨hs,_⟩,_⟩,_⟩,_⟩,hall⟩,⟨⟨hn,hr2⟩,hr3⟩,hr4⟩:=hE;have hn:ops.size=e+4:=Zl1 hn;have hsz:a.tmps.size=st.n:=hr.env.size;have hd:f.d<a.tmps.size:=by rw[hsz];exact f.lt
 have hd2:f.d2<(a.put (some f.d) f.v7).tmps.size:=by simp[Act.put,hsz];exact f.lt2
 have hne:∀{x b:Nat},x≠b->Lz (.tmp x) b=true:=λh=>by simp[Lz,Ga h]
 refine A01 (iC:=e+2) (iS:=e+3) (p1:=λi=>Nat.ble i (e+2)) (p2:=λi=>Nat.ble i (e+1)||Nat.beq i (e+3)) (p3:=λ_=>true) (v:=f.v7) hC hS (by omega) f.gd3 f.dst3 gS dS hop ?_ ?_ f.one hF f.row (λw' cs' h1 h2=>f.run3 _ w' cs' (Gm hd2) ((C3 f.ney2).trans (C3 f.ney)) h1 h2)
  (λi hi =>?_) (λi hi =>?_) (λi hi =>?_) (λ_ _=>rfl) hr2 (by simpa using hr3) (by simpa using hr4) (by simpa using hall) hfin fuel
 ·rw[C3 (hne hk2),C3 (hne hk1)];exact hx
 ·rw[C3 (hne f.ne)];exact Gm hd
 ·rw[Aau];exact Zy1.2 (by omega)
 ·rw[Aau];exact Zy1.2 (by omega)
 ·rw[Aau,O6,<-Bool.decide_or];exact Zy1.2 (by omega)
theorem Bvt(hp:PxOk cx px){ops:Array Oper}{Q:Exit->Act->World->Prop}{e:Nat}{oa ob oc on of os:Oper}{st st2:St}{m:Mp}{a:Act}{as_:List Act}{w:World}(hA:ops[e]? = some oa)(hB:ops[e+1]? = some ob)(hC:ops[e+2]? = some oc)(hN:ops[e+3]? = some on)(hO:ops[e+4]? = some of)(hS:ops[e+5]? = some os)(hr:Rel cx m a as_ (fs st) w)(f:Fuse cx oa ob oc st st2 m a as_ w)(hE:Lh ops e true=true)
  {u s0:TypeId}{k dn df fi fo β off:Nat}{fu:Ty}{vs:List Value}{t:TypeId}(hopN:on.op = .nilCheck (.tmp k)) (hopF:of.op = .fieldAddr s0 (.tmp dn) fi) (hop:os.op = .store u (.tmp df) (.tmp f.d)) (gN:on.guard=none) (gF:of.guard=none) (gS:os.guard=none) (dN:on.dst=some dn) (dF:of.dst=some df) (dS:os.dst=none)
  (hk:dNe k [f.d,f.d2,dn,df]=true) (hdn:dNe dn [f.d,f.d2,df]=true) (hdf:dNe df [f.d,f.d2]=true) (hy1:Lz f.y dn=true) (hy2:Lz f.y df=true) (hdnn:dn<st.n) (hdfn:df<st.n) (hfo:Ast px s0 fi=some (fo,fu)) (hx:a.eval (.tmp k) = .pointer (some ⟨β,off,none⟩)) (hF:Far cx os u f.g f.wA β (off+fo) vs t)
  (hfin:wpListIn Fence.wide 0 cx.P ops (Nrm Q) [on,of,os] ((a.put (some f.d) f.v7).put (some f.d2) f.vp) (Sx.setCells f.wA f.g f.off f.us)) (fuel:Nat):wpAnyIn Fence.wide 0 cx.P .any ops (Nrm Q) (fuel+6) (Cn ops.size λi=>Nat.blt i e) a w:=by
 refine Aoe hA hB hr f hE (fuel+4) ?_;have hE0:=hE;simp only[Lh,Zb1] at hE;obtain⟨⟨⟨⟨⟨⟨hs,_⟩,_⟩,_⟩,_⟩,hall⟩,⟨⟨⟨⟨⟨⟨hn,hr2⟩,hf2⟩,hr3⟩,hf3⟩,hr4⟩,hr5⟩,hr6⟩:=hE;have hn:ops.size=e+6:=Zl1 hn;have hsz:a.tmps.size=st.n:=hr.env.size;have hd:f.d<a.tmps.size:=by rw[hsz];exact f.lt
 have hd2:f.d2<(a.put (some f.d) f.v7).tmps.size:=by simp[Act.put,hsz];exact f.lt2
 have hne:∀{x b:Nat},x≠b->Lz (.tmp x) b=true:=λh=>by simp[Lz,Ga h]
 have hk:=Jm hk;have hdn:=Jm hdn;have hdf:=Jm hdf;have k1:k≠f.d:=hk _ (by simp);have k2:k≠f.d2:=hk _ (by simp);have n1:dn≠f.d:=hdn _ (by simp);have n2:dn≠f.d2:=hdn _ (by simp);have n3:dn≠df:=hdn _ (by simp);have m1:df≠f.d:=hdf _ (by simp);have m2:df≠f.d2:=hdf _ (by simp);have hx3:((a.put (some f.d) f.v7).put (some f.d2) f.vp).eval (.tmp k) = .pointer (some ⟨β,off,none⟩):=by rw[C3 (hne k2),C3 (hne k1)];exact hx
 have xN:∀w',(execOp ((a.put (some f.d) f.v7).put (some f.d2) f.vp).eval on).run cx.P w' = .ok (.value (.pointer (some ⟨β,off,none⟩))) w':=λw'=>by simp[execOp,hopN,hx3]
 have hdnl:dn<((a.put (some f.d) f.v7).put (some f.d2) f.vp).tmps.size:=by simp[Act.put,hsz];exact hdnn
 have hdfl:df<(((a.put (some f.d) f.v7).put (some f.d2) f.vp).put (some dn) (.pointer (some ⟨β,off,none⟩))).tmps.size:=by simp[Act.put,hsz];exact hdfn
 obtain⟨_,_,_,_,_,_,_,_,_,_,hfa⟩:=K6 hp hfo;have xF:∀w',(execOp (((a.put (some f.d) f.v7).put (some f.d2) f.vp).put (some dn) (.pointer (some ⟨β,off,none⟩))).eval of).run cx.P w' = .ok (.value (.pointer (some ⟨β,off+fo,none⟩))) w':=λw'=>by have h1:Sx.Env.ev (Atm (((a.put (some f.d) f.v7).put (some f.d2) f.vp).put (some dn) (.pointer (some ⟨β,off,none⟩)))) (.tmp dn)=some (.pointer (some ⟨β,off,none⟩)):=A0i (by simp[Act.put,show dn<a.tmps.size by rw[hsz];exact hdnn]);have hpure:=Sx.p_fa (P:=cx.P) (s:=s0) (f:=fi) (by simpa using hfa) h1;rw[<-hopF] at hpure;exact hpure _ ⟨(((a.put (some f.d) f.v7).put (some f.d2) f.vp).put (some dn) (.pointer (some ⟨β,off,none⟩))).tmps,[]⟩ w' of (Asb (a:=⟨(((a.put (some f.d) f.v7).put (some f.d2) f.vp).put (some dn) (.pointer (some ⟨β,off,none⟩))).tmps,[]⟩) rfl) rfl
 have hfin3:=Yi gF (xF _) (by have:=Yi gN (xN _) hfin;rw[dN] at this;exact this)
 rw[dF] at hfin3;have hNn:e+3<ops.size:=by omega
 have hOn:e+4<ops.size:=by omega
 have s1:(Cn ops.size λi=>Nat.ble i (e+1)).setIfInBounds (e+3) true=Cn ops.size λi=>Nat.ble i (e+1)||Nat.beq i (e+3):=Ib hNn λi _=>rfl;have s2:(Cn ops.size λi=>Nat.ble i (e+1)||Nat.beq i (e+3)).setIfInBounds (e+4) true=Cn ops.size λi=>Nat.ble i (e+1)||Nat.beq i (e+3)||Nat.beq i (e+4):=Ib hOn λi _=>rfl;refine wpAnyIn_take rfl (v :=.pointer (some ⟨β,off,none⟩)) hN hs hf2 hr2 (Adl (f:=λa=>a.put on.dst _)) ⟨.inl ⟨Di gN _,xN⟩,λ_=>by simp[Oper.about,hopN]⟩ ?_;rw[s1,dN];refine wpAnyIn_take rfl (v :=.pointer (some ⟨β,off+fo,none⟩)) hO hs hf3 hr3 (Adl (f:=λa=>a.put of.dst _)) ⟨.inl ⟨Di gF _,xF⟩,λ_=>by simp[Oper.about,hopF]⟩ ?_;rw[s2,dF];refine A01 (iC:=e+2) (iS:=e+5) (p1:=λi=>Nat.ble i (e+4)) (p2:=λi=>Nat.ble i (e+1)||Nat.beq i (e+3)||Nat.beq i (e+4)||Nat.beq i (e+5)) (p3:=λ_=>true) (v:=f.v7) hC hS (by omega) f.gd3 f.dst3 gS dS hop (Gm hdfl) ?_ f.one hF f.row (λw' cs' h1 h2=>f.run3 _ w' cs' ?_ ?_ h1 h2)
  (λi hi =>?_) (λi hi =>?_) (λi hi =>?_) (λ_ _=>rfl) hr4 (by simpa using hr5) (by simpa using hr6) (by simpa using hall) hfin3 fuel
 ·rw[C3 (hne (Ne.symm m1)),C3 (hne (Ne.symm n1)),C3 (hne f.ne)];exact Gm hd
 ·rw[C3 (hne (Ne.symm m2)),C3 (hne (Ne.symm n2))];exact Gm hd2
 ·rw[C3 hy2,C3 hy1];exact(C3 f.ney2).trans (C3 f.ney)
 ·rw[Aau,O6,O6,<-Bool.decide_or,<-Bool.decide_or];exact Zy1.2 (by omega)
 ·rw[Aau];exact Zy1.2 (by omega)
 ·rw[Aau,O6,O6,O6,<-Bool.decide_or,<-Bool.decide_or,<-Bool.decide_or];exact Zy1.2 (by omega)
end
theorem N1{ops:Array Oper}{j:Nat}{o:Oper}(h:ops[j]? = some o):ops.toList.drop j=o::ops.toList.drop (j+1):=by
 have h1:j<ops.toList.length:=by simpa using (Zh2.1 h).1
 rw[List.drop_eq_getElem_cons h1]
 grind
theorem Aee{ops:Array Oper}{e:Nat}{q3:Bool}(h:Q4 ops=some (e,q3)):A8u ops e q3=true/\Lh ops e q3=true:=by
 unfold Q4 at h;split at h
 ·rename_i hc;obtain⟨rfl,rfl⟩:=h;simp[A7h] at hc;exact hc.2
 ·split at h
  ·rename_i hc;obtain⟨rfl,rfl⟩:=h;simp[A7h] at hc;exact hc.2
  ·cases h
theorem A1l{ops:Array Oper}{e:Nat}{q3:Bool}(h:Lh ops e q3=true){j:Nat}{oj:Oper}(hj:e<=j)(ho:ops[j]? = some oj){q:Nat}(hq:q<e):F5 ops 12 oj q=true:=by
 simp only[Lh,Zb1] at h;obtain⟨⟨⟨⟨⟨⟨_,h1⟩,_⟩,_⟩,_⟩,_⟩,_⟩:=h;have h2:=Zg2.1 h1 j (List.mem_range.2 (Zh2.1 ho).1);simp only[Zd2] at h2;rcases h2 with h2|h2
 ·rw[Nat.blt_eq] at h2;omega
 ·grind
theorem Al7{ops:Array Oper}{e:Nat}{q3:Bool}(h:Lh ops e q3=true):ops.size=e+(match q3 with|true=>6|false=>4):=by
 cases q3 with
 |true =>
  simp only[Lh,Zb1] at h
  simp_all
 |false =>
  simp only[Lh,Zb1] at h
  simp_all
theorem Wl(ops:Array Oper):Gn ops<=ops.size/\∀j oj,Gn ops<=j->ops[j]? = some oj->∀q,q<Gn ops->F5 ops 12 oj q=true:=by
 unfold Gn;split
 ·grind
 ·split
  ·rename_i p hp;obtain⟨e,q3⟩:=p;obtain⟨_,hE⟩:=Aee hp;refine⟨by have:=Al7 hE;omega,λj oj hj ho q hq=>A1l hE hj ho hq⟩
  ·exact⟨Afc _ _,λj oj hj ho q hq=>H5 _ j oj hj (Zh2.1 ho).1 ho q (Zx1 hq hj)⟩
section
variable {R:Type}{px:Px R}{cx:Cx}
theorem Aos{ops:Array Oper}{p:Oper->Bool}(h:ops.toList.all p=true)(e:Nat):(ops.toList.drop e).all p=true:=Zg2.2 λo ho=>Zg2.1 h o (List.mem_of_mem_drop ho)
theorem Aia{ops:Array Oper}{n:Nat}(h:(ops.toList.all λo=>opB o&&Amg n o)=true)(e:Nat):((ops.toList.drop e).all λo=>opB o&&Amg n o)=true:=Zg2.2 λo ho=>Zg2.1 h o (List.mem_of_mem_drop ho)
theorem Be1{n e k fuel:Nat}{listed:Array Bool}(hn:n=e+k)(hl:∀i,i<n->listed.getD i true=decide (i<e))(hf:((List.range n).filter λj => !listed.getD j true).length<=fuel):k<=fuel:=by
 subst hn;refine Nat.le_trans ?_ hf;rw[List.range_eq_range',show List.range' 0 (e+k)=List.range' 0 e++List.range' (0+1*e) k from(List.range'_append (s:=0) (m:=e) (n:=k) (step:=1)).symm,List.filter_append,Zh1];have:((List.range' (0+1*e) k).filter λj => !listed.getD j true)=List.range' (0+1*e) k:=List.filter_eq_self.2 λj hj=>by grind
 grind
theorem Aff{o:Oper}{t:TypeId}{x y:Operand}{st:St}{K:St->Option R}(ho:o.op = .store t x y):A9j px o st K=Yw px o st K:=by unfold A9j;rw[ho]
theorem A9u{o:Oper}{t:TypeId}{x y:Operand}{st:St}{K:St->Option R}{r:R}{all:Array Oper}(ho:o.op = .store t x y)(hg:o.guard=none)(hd:o.dst=none)(h:ops px all [o] st K=some r):Yw px o st K=some r:=by simp[ops,opG,hg,one,hd,Aff ho] at h;exact h
theorem Bky{o:Oper}{x:Operand}{st:St}{b off:Nat}{K:D->St->Option R}(ho:o.op = .nilCheck x)(hx:ev px st 0 x=some (.ptr b off)):step px o st K=K (.ptr b off) st:=by unfold step;rw[ho];unfold U3;rw[ho];simp[hx]
theorem Bo3{o:Oper}{s f:Nat}{x:Operand}{st:St}{b off:Nat}{K:D->St->Option R}(ho:o.op = .fieldAddr s x f)(hx:ev px st 0 x=some (.ptr b off)):step px o st K=match Ast px s f with
  |some (fo,_)=>K (.ptr b (off+fo)) st
  |none=>none:=by
 unfold step;rw[ho];unfold U3
 grind
theorem Bh1{ro:Option Nat}(hp:PxOk cx px)(hc:Ci cx px){all:Array Oper}(he:∀j oj,all[j]? = some oj->∀e∈oj.after,Region.binds .any e=true->e.on<j){st:St}{K:St->Option R}{r:R}(hb:(all.toList.all λo=>opB o&&Amg st.n o)=true)(hcl:(all.toList.all λo=>Afq ro o)=true)(hfk:ro=none\/Q4 all=none)(hok:Ata px all st=true)(h:ops px all (all.toList.drop (Gn all)) st K=some r)
  {Q:Exit->Act->World->Prop}{m:Mp}{a:Act}{as_:List Act}{w:World}(hr:Rel cx m a as_ (fs st) w) (hQ:∀st' m' a' w',K st' = some r->(st'.n=st.n/\st'.fr=st.fr)->Rel cx m' a' as_ (fs st') w'->Q .normal a' w') :
  ∀(fuel:Nat) (listed:Array Bool),listed.size=all.size->(∀i,i<all.size->listed.getD i true=decide (i<Gn all))->((List.range all.size).filter λj => !listed.getD j true).length<=fuel->wpAnyIn (FW ro) 0 cx.P .any all Q fuel listed a w:=by
 intro fuel listed hs hl hfuel;have line:(∀j oj,Gn all<=j->all[j]? = some oj->∀q,q<j->F5 all 12 oj q=true)->wpAnyIn (FW ro) 0 cx.P .any all Q fuel listed a w:=λht =>Azx he fuel (Gn all) listed a w ((Wl all).1) ht hs hl hfuel (S2 hp hc (Aia hb _) (Aos hcl _) h hr hQ)
 cases h0:Nat.beq (F4 all all.size) 0 with
 |true =>refine line λj oj _ ho q hq=>H5 all.size j oj (by rw[Zl1 h0];exact Nat.zero_le _) (Zh2.1 ho).1 ho q hq
 |false =>
  cases hF:Q4 all with
  |none =>
   have hd:Gn all=F4 all all.size:=by simp[Gn,h0,hF]
   exact line λj oj hj ho q hq=>H5 all.size j oj (by rw[<-hd];exact hj) (Zh2.1 ho).1 ho q hq
  |some p =>
   obtain rfl:ro=none:=hfk.resolve_right (by rw[hF];simp);obtain⟨e,q3⟩:=p;obtain⟨hS,hE⟩:=Aee hF;have hsz:=Al7 hE;have hd:Gn all=e:=by simp[Gn,h0,hF]
   rw[hd] at h hl;simp[Ata,h0,hF] at hok;split at hok
   ·rename_i k oa ob oc hk hA hB hC;simp at hok;obtain⟨hfs,hptr⟩:=hok;rw[N1 hA,N1 hB,N1 hC] at h;simp[ops] at h;cases h3:Aim px oa ob oc st with
    |none=>rw[h3] at hfs;cases hfs
    |some p3 =>
     obtain⟨c,st2⟩:=p3;rw[h3] at h;obtain⟨hcc,hk2⟩:=A0 h;simp only at hcc hk2;subst hcc;obtain⟨f⟩:=Aw7 hp h3 hr;have hlist:listed=Cn all.size λi=>Nat.blt i e:=A59 hs λi hi=>by rw[hl i hi,Br4]
     have hblk:∃b off,get st.env k=some (.ptr b off)/\((∃ds,blk st.bl b=some (.cells ds))\/∃c y,blk st.bl b=some (.box c y)):=by
      split at hptr
      ·rename_i b off hb';refine⟨b,off,hb',?_⟩;split at hptr
       ·rename_i ds hds;exact .inl ⟨ds,hds⟩
       ·rename_i c y hcy;exact .inr ⟨c,y,hcy⟩
       ·cases hptr
      ·cases hptr
     obtain⟨b,off,hkb,hbb⟩:=hblk;have hbn:blk st.bl b≠none:=by rcases hbb with ⟨_,h⟩|⟨_,_,h⟩<;>rw[h]<;>simp
     obtain⟨vk,hvk,hrk⟩:=hr.env.get k _ hkb;simp[Rep] at hrk;obtain⟨_,rfl⟩:=hrk;have hxk:a.eval (.tmp k) = .pointer (some ⟨m.bl b,off,none⟩):=by simp[Act.eval,hvk];rfl
     have hseq:=S2 (ro:=none) hp hc (all:=all) (Q:=Nrm Q) (by rw[f.n.1];exact Aia hb _) (Aos hcl _) hk2 f.rel (λst' m' a' w' k1 k2 k3=>⟨rfl,hQ st' m' a' w' k1 ⟨k2.1.trans f.n.1,k2.2.trans f.n.2⟩ k3⟩);have hfar:∀{o:Oper}{u:TypeId}{off':Nat},(Sx.tySz cx.P u=some 1/\∀(x:Vx) (β:Nat) k,blk st.bl b=some k->F6 x β k->∃(vs:List Value) (t:TypeId),x.w.heap[β]? = some (.cells vs.toArray t (0,0))/\off'<vs.length)->∃vs t,Far cx o u f.g f.wA (m.bl b) off' vs t:=λ{o u off'} hh=>by cases hK:blk st.bl b with|none=>exact absurd hK hbn|some kb =>obtain⟨_,hkr⟩:=hr.blks b kb hK;obtain⟨vs,t,q1,q2⟩:=hh.2 _ _ kb hK hkr;have hne:=f.far b hbn;exact⟨vs,t,hh.1,hne,by rw[f.rest _ (hr.own_b hbn) hne];exact q1,q2⟩
     refine Aek (Q:=Nrm Q) (λ_ _ _ hq=>hq.2) fuel listed a w ?_;rw[hlist];cases q3 with
     |false =>
      simp[A8u,hA,hB,hC,f.op2,f.op3,f.dst,f.dst2,f.dst3] at hS;have hS:=hS.2;simp only at hsz;have hfu:∃n,fuel=n+4:=⟨fuel-4,by have:=Be1 (k:=4) hsz hl hfuel;omega⟩;obtain⟨fu,rfl⟩:=hfu;cases hos:all[e+3]? with
      |none=>simp only[hos] at hS;cases hS
      |some os =>
       simp[hos] at hS;split at hS
       ·rename_i u k' q hop dS;simp only[Zb1,Option.isNone_iff_eq_none] at hS;obtain⟨⟨gS,hq⟩,hne⟩:=hS;obtain rfl:=Zl1 hq;have hkk:k' = k:=by simp[Bfb,hos,hop] at hk;exact hk
        subst hkk;have hne:=Jm hne;have h1:k'≠f.d:=hne _ (by simp);have h2:k'≠f.d2:=hne _ (by simp);have hnil:all.toList.drop (e+3+1)=[]:=Zk1 (by simp;omega);rw[N1 hos,hnil] at hk2 hseq;obtain⟨c7,xs7,t7,h7⟩:=f.env7;obtain⟨vs,t,hF⟩:=hfar (o:=os) (A5m (st:=st2) hp hop ((f.envk k' h1 h2).trans hkb) h7 (by rw[f.bl];exact hbb) (A9u hop gS dS hk2) |> λhh=>⟨hh.1,by have:=hh.2;rw[f.bl] at this;exact this⟩);exact Bvn hA hB hC hos hr f hE hop gS dS h1 h2 hxk hF hseq fu
       ·cases hS
     |true =>
      simp[A8u,hA,hB,hC,f.op2,f.op3,f.dst,f.dst2,f.dst3] at hS;have hS:=hS.2;simp only at hsz;have hfu:∃n,fuel=n+6:=⟨fuel-6,by have:=Be1 (k:=6) hsz hl hfuel;omega⟩;obtain⟨fu,rfl⟩:=hfu;split at hS
      ·rename_i on of os hN' hO' hS';split at hS
       ·rename_i k' s0 f1 fi u p q dn df hopN hopF hopS dN dF dS;simp only[Zb1,Option.isNone_iff_eq_none] at hS;obtain⟨⟨⟨⟨⟨⟨⟨⟨⟨⟨gN,gF⟩,gS⟩,q1⟩,q2⟩,q3'⟩,n1⟩,n2⟩,n3⟩,n4⟩,n5⟩:=hS;obtain rfl:=Zl1 q1;obtain rfl:=Zl1 q2;obtain rfl:=Zl1 q3';have hkk:k' = k:=by simp[Bfb,hN',hopN] at hk;exact hk
        subst hkk;have e1:=Jm n1;have h1:k'≠f.d:=e1 _ (by simp);have h2:k'≠f.d2:=e1 _ (by simp);have e2:=Jm n2;have m1:f1≠f.d:=e2 _ (by simp);have m3:f1≠p:=e2 _ (by simp);have l1:p≠f.d:=(Jm n3) _ (by simp);have hnil:all.toList.drop (e+5+1)=[]:=Zk1 (by simp;omega);rw[N1 hN',N1 hO',N1 hS',hnil] at hk2 hseq;have hkb2:get st2.env k' = some (.ptr b off):=(f.envk k' h1 h2).trans hkb;have hf3:Aim px on of os st2=none:=by simp[Aim,hopN]
        simp[ops,hf3] at hk2;simp[opG,gN,one,dN,Bll,hopN] at hk2;split at hk2
        ·rename_i hb1;rw[Bky hopN (show ev px st2 0 (.tmp k')=some (.ptr b off) from hkb2)] at hk2;simp[gF,dF,Bll,hopF] at hk2;split at hk2
         ·rename_i hb2;have hg1:get ((St.put st2 f1 (.ptr b off)).env) f1=some (.ptr b off):=by simp[St.put,Bd]
          rw[Bo3 hopF (show ev px (st2.put f1 (.ptr b off)) 0 (.tmp f1)=some (.ptr b off) from hg1)] at hk2;cases hfo:Ast px s0 fi with
          |none=>rw[hfo] at hk2;cases hk2
          |some pf =>
           obtain⟨fo,fu'⟩:=pf;rw[hfo] at hk2;simp[gS,dS,Aff hopS] at hk2;obtain⟨c7,xs7,t7,h7⟩:=f.env7;have hxS:ev px (((st2.put f1 (.ptr b off))).put p (.ptr b (off+fo))) 0 (.tmp p)=some (.ptr b (off+fo)):=by simp[ev,St.put,Bd]
           have hyS:ev px (((st2.put f1 (.ptr b off))).put p (.ptr b (off+fo))) u (.tmp f.d)=some (.sl c7 xs7 t7):=by simp[ev,St.put,Bd,if_neg (Ne.symm l1),if_neg (Ne.symm m1)];exact h7
           have hst:=A5m (st:=(st2.put f1 (.ptr b off)).put p (.ptr b (off+fo))) hp hopS hxS hyS (by show(∃ds,blk st2.bl b=some (.cells ds))\/∃c y,blk st2.bl b=some (.box c y);rw[f.bl];exact hbb) hk2;obtain⟨vs,t,hF⟩:=hfar (o:=os) ⟨hst.1,by have:=hst.2;have e9:((st2.put f1 (.ptr b off)).put p (.ptr b (off+fo))).bl=st.bl:=f.bl;rw[e9] at this;exact this⟩
           have hb1:f1<st2.n:=by simpa using hb1
           have hb2:p<st2.n:=by simpa[ St.put] using hb2
           rw[f.n.1] at hb1 hb2;exact Bvt hp hA hB hC hN' hO' hS' hr f hE hopN hopF hopS gN gF gS dN dF dS n1 n2 n3 n4 n5 hb1 hb2 hfo hxk hF hseq fu
         ·cases hk2
        ·cases hk2
       ·cases hS
      ·cases hS
   ·cases hok
end
def Nm:Ex->Exit
 |.normal =>.normal
 |.exit id =>.exit id
 |.ret =>.ret
section
variable {R:Type}{px:Px R}{cx:Cx}
theorem Chg.putObj{S:Fp}{w:World}{l:Nat}{o o':Obj}(hS:∀i,S l i)(h:w.heap[l]? = some o)(ho:∀cs t f,o ≠ .cells cs t f):Chg S w (w.putObj l o'):=by
 have hne:∀(b:Nat) (cs:Array Value) (t:TypeId) (f:Nat×Nat),w.heap[b]? = some (.cells cs t f)->b≠l:=λb cs t f hb e=>by subst e;rw[h] at hb;simp at hb;exact ho cs t f hb
 refine⟨rfl,rfl,rfl,by simp,λk hk hn=>World.putObj_heap_other λe =>?_,λb i v hv hn =>?_,λb cs t f hb=>⟨cs,f,?_,rfl⟩⟩
 ·exact hn 0 (by rw[e];exact hS 0)
 ·have hb:b≠l:=λe=>hn (by rw[e];exact hS i);rw[World.cell?_of_block (a:=⟨b,i,none⟩) (World.putObj_heap_other hb)];exact hv
 ·rw[World.putObj_heap_other (hne b cs t f hb)];exact hb
theorem Rel.served{m:Mp}{a:Act}{as_:List Act}{st:St}{w:World}(h:Rel cx m a as_ (fs st) w){b:Nat}{k:Blk}{o o':Obj}(hb:blk st.bl b=some k)(ho:w.heap[m.bl b]? = some o)(hc:∀cs t f,o ≠ .cells cs t f):Rel cx m a as_ (fs { st with bl:=Dd st.bl b (.ob 2) }) (w.putObj (m.bl b) o'):=by
 have h1:=h.write (k :=.ob 2) (b:=b) hb (w':=w.putObj (m.bl b) o') (Chg.putObj (λ_=>rfl) ho hc) (λx' _ _=>(λe=>nomatch e));have e:fs { st with bl:=Dd st.bl b (.ob 2) }={ fs st with bl:=λc=>if c=b then some (.ob 2) else(fs st).bl c }:=by refine FS.eq rfl rfl rfl rfl rfl ?_ rfl rfl rfl;funext c;simp[fs,Eo,hb]
 rw[e];exact h1
theorem Rel.pushB{m:Mp}{a:Act}{as_:List Act}{st:St}{w:World}(h:Rel cx m a as_ (fs st) w){k:Blk}{o:Obj}(h0:∀x',Nx (vx cx m (fs st) w) x'->x'.w=w.alloc o->F6 x' w.heap.size k):∃m',Rel cx m' a as_ (fs { st with bl:=(st.nb,k)::st.bl,nb:=st.nb+1 }) (w.alloc o)/\m'.bl st.nb=w.heap.size/\Nx (vx cx m (fs st) w) (vx cx m' (fs { st with bl:=(st.nb,k)::st.bl,nb:=st.nb+1 }) (w.alloc o)):=by
 obtain⟨m',g1,g2,g3⟩:=h.newAtX (k:=k) (g:=w.heap.size) (w':=w.alloc o) (Chg.alloc _ _ _) (Zn1 _) (by simp) h0;have e:fs { st with bl:=(st.nb,k)::st.bl,nb:=st.nb+1 }={ fs st with bl:=λb=>if b=(fs st).nb then some k else(fs st).bl b,nb:=(fs st).nb+1 }:=by refine FS.eq rfl rfl rfl rfl rfl ?_ rfl rfl rfl;funext b;exact Aw st.bl st.nb b _
 rw[e];refine⟨m',g1,?_,g3⟩;simp only[Rep] at g2;have g3:=g2.2;simp at g3;exact g3.symm
theorem A0x(hc:Ci cx px){g:Operand}{ps:Array Tmp}{asg body:Code}{st:St}{K:Ex->St->Option R}{r:R}(h:Gx px (.rangeFunc g ps asg body) st K=some r){Q:Exit->Act->World->Prop}{m:Mp}{a:Act}{as_:List Act}{w:World}(hr:Rel cx m a as_ (fs st) w)(hQ:∀e st' m' a' w',K e st' = some r->(st'.n=st.n/\st'.fr=st.fr)->Rel cx m' a' as_ (fs st') w'->Q (Nm e) a' w'):(Code.rangeFunc g ps asg body).wp cx.P Q a w:=by
 simp only[Gx] at h;split at h
 ·rename_i f caps he;obtain⟨hent,hcall⟩:=hc f _ _ _ r h;rw[Av] at he;obtain⟨v,_,hv,hrep⟩:=hr.env.ev (env:=get st.env) he;simp only[Rep] at hrep;obtain⟨cvs,rfl,hcaps⟩:=hrep;refine wpIn_wide.1 (wpIn_rangeFunc (F:=Fence.wide) (n:=0) λfn _ =>?_);obtain⟨m1,hr1,e1,nx1⟩:=hr.pushB (k :=.ob 0) (o :=.deferred (some [])) (λx' _ hw _=>by rw[hw];exact World.alloc_heap_new w _);obtain⟨m2,hr2,e2,nx2⟩:=hr1.pushB (k :=.lr 0 st.n ps.toList asg body st.env) (o :=.loop { state :=.ready,pending:=none,fn,tmps:=a.tmps,params:=ps,assign:=asg,body,defers:=w.heap.size }) (λx' hx hw=>⟨_,by rw[hw];exact World.alloc_heap_new _ _,by simp,rfl,rfl,(EnvR.mk (x:=vx cx m1 (fs { st with bl:=(st.nb,.ob 0)::st.bl,nb:=st.nb+1 }) (w.alloc (.deferred (some [])))) (n:=st.n) (df:=[]) (env:=get st.env) (a:={ tmps:=a.tmps,defers:=[] }) rfl hr1.env.size hr1.env.get).later hx,λ_=>⟨rfl,rfl⟩⟩);obtain⟨W1,hW1⟩:∃W1,(w.alloc (.deferred (some []))).alloc (.loop { state :=.ready,pending:=none,fn,tmps:=a.tmps,params:=ps,assign:=asg,body,defers:=w.heap.size })=W1:=⟨_,rfl⟩;rw[hW1] at hr2 nx2;have e3:m2.bl st.nb=w.heap.size:=(nx2.bl st.nb (Nat.lt_succ_self _)).trans e1;have e4:m2.bl (st.nb+1)=w.heap.size+1:=e2.trans (by simp);have hr3:Rel cx m2 { a with defers:={ target :=.collected w.heap.size,args := #[] }::a.defers } as_ (fs { st with bl:=(st.nb+1,.lr 0 st.n ps.toList asg body st.env)::(st.nb,.ob 0)::st.bl,nb:=st.nb+2,df :=.ptr st.nb (st.nb+1)::st.df }) W1 :=⟨hr2.chg,⟨⟨_,_,rfl,⟨Nat.lt_succ_of_lt (Nat.lt_succ_self _),Nat.lt_succ_self _,e4.trans (congrArg (·+1) e3.symm),by rw[<-e3];rfl⟩,hr2.env.defers⟩,hr2.env.size,hr2.env.get⟩,hr2.frs,hr2.lb,hr2.lt,hr2.blks,hr2.als,hr2.inj,hr2.injt,hr2.injbt,hr2.own,hr2.away,hr2.glb⟩
  have hargs:Reps (vx cx m2 (fs { st with bl:=(st.nb+1,.lr 0 st.n ps.toList asg body st.env)::(st.nb,.ob 0)::st.bl,nb:=st.nb+2,df :=.ptr st.nb (st.nb+1)::st.df }) W1) (.yl (st.nb+1)::caps) (.func (.yield (w.heap.size+1)) #[] #[]::cvs) :=⟨_,_,rfl,by simp only[Rep];exact⟨Nat.lt_succ_self _,by rw[<-e4];rfl⟩,Reps.later nx2 _ _ (Reps.later nx1 _ _ hcaps)⟩
  refine⟨w.heap.size+1,[{ target :=.collected w.heap.size,args := #[] }],W1,{ target :=.fn (.func f) cvs.toArray,args := #[.func (.yield (w.heap.size+1)) #[] #[]] },W1,f,(.func (.yield (w.heap.size+1)) #[] #[]::cvs).toArray,W1,hW1▸run_enterLoop_outer _ _ _ _ _,?_,λ_ _=>trivial,?_,(λe=>nomatch e),callsIn_wide.2 ((hcall m2 _ as_ _ _ hr3 hargs).mono ?_)⟩
  ·simp only[resolve,hv];simp[go_sem]
  ·have h9:=hent (.func (.yield (w.heap.size+1)) #[] #[]::cvs).toArray W1;simp[invoke,go_sem];simpa using h9
  ·rintro en w3 ⟨v,rfl,rs,st',m',hk,hsame,hrel,_⟩;obtain⟨s1,s2,s3,s4,s5⟩:=hsame;simp only[Zp1] at s5;simp only at hk;have key:∀(kb:Blk) (rc:Loop),blk st'.bl (st.nb+1)=some kb->w3.heap[m'.bl (st.nb+1)]? = some (.loop rc)->rc.state ≠ .busy->(Instr.endLoop (w.heap.size+1)).run cx.P w3 = .ok rc.pending (w3.putObj (m'.bl (st.nb+1)) (.loop { rc with state :=.exhausted })):=λkb rc hb hrc hst=>by have hd:=hrel.env.defers;rw[show(fs st').df = .ptr st.nb (st.nb+1)::st.df from s5.2] at hd;obtain⟨dd,rr,q1,⟨_,_,q3,q4⟩,_⟩:=hd;simp only[Ze2] at q1;rw[<-q1.1] at q4;simp at q4;have q5:m'.bl (st.nb+1)=w.heap.size+1:=q3.trans (congrArg (·+1) q4.symm);rw[<-q5];exact run_endLoop hrc hst
   split at hk
   ·rename_i hb;obtain⟨rc,hrc,_,_,_,_,hst⟩:=(hrel.blks (st.nb+1) _ hb).2;obtain⟨hready,hpend⟩:=hst rfl;refine⟨none,_,by rw[<-hpend];exact key _ rc hb hrc (by rw[hready];simp),?_⟩;exact hQ .normal _ m' _ _ hk ⟨s1,s5.1⟩ (hrel.served hb hrc (by simp))
   ·rename_i id hb;obtain⟨rc,hrc,hdone,hpend⟩:=(hrel.blks (st.nb+1) _ hb).2;refine⟨some (.exit id),_,by rw[show some (Code.exit id)=rc.pending from hpend.symm];exact key _ rc hb hrc (by rw[hdone];simp),?_⟩;exact wpIn_exit (hQ (.exit id) _ m' _ _ hk ⟨s1,s5.1⟩ (hrel.served hb hrc (by simp)))
   ·rename_i hb;obtain⟨rc,hrc,hdone,hpend⟩:=(hrel.blks (st.nb+1) _ hb).2;refine⟨some .ret,_,by rw[show some Code.ret=rc.pending from hpend.symm];exact key _ rc hb hrc (by rw[hdone];simp),?_⟩;exact wpIn_ret (hQ .ret _ m' _ _ hk ⟨s1,s5.1⟩ (hrel.served hb hrc (by simp)))
   ·rename_i j n ps' asg' body' env q hb;have hB:=(hrel.blks (st.nb+1) _ hb).2.2;by_cases h0:j=0
    ·rw[Ze1 h0] at hk;obtain⟨rc,hrc,_,_,_,_,hready,hpend⟩:=hB.1 h0;refine⟨none,_,by rw[<-hpend];exact key _ rc hb hrc (by rw[hready];simp),?_⟩;exact hQ .normal _ m' _ _ hk ⟨s1,s5.1⟩ (hrel.served hb hrc (by simp))
    ·obtain⟨rc,hrc,hdone,hpend⟩:=hB.2 h0;rw[Zd1 h0] at hk;by_cases h1:j=1
     ·rw[Ze1 h1] at hk;refine⟨some .ret,_,by rw[show some Code.ret=rc.pending by rw[hpend,Bu4,if_pos h1];rfl];exact key _ rc hb hrc (by rw[hdone];simp),?_⟩;exact wpIn_ret (hQ .ret _ m' _ _ hk ⟨s1,s5.1⟩ (hrel.served hb hrc (by simp)))
     ·rw[Zd1 h1] at hk;refine⟨some (.exit q),_,by rw[show some (Code.exit q)=rc.pending by rw[hpend,Bu4,if_neg h1];rfl];exact key _ rc hb hrc (by rw[hdone];simp),?_⟩;exact wpIn_exit (hQ (.exit q) _ m' _ _ hk ⟨s1,s5.1⟩ (hrel.served hb hrc (by simp)))
   ·cases hk
 ·cases h
end
def Bm(n:Nat):Code->Bool
 |.region _ os dr=>(os.toList.all λo=>opB o&&Amg n o)&&(!dr||A6u os)
 |.seq a b=>Bm n a&&Bm n b
 |.cond _ a b=>Bm n a&&Bm n b
 |.block _ b=>Bm n b
 |.loop b=>Bm n b
 |.scope b=>Bm n b
 |_=>true
def Bp:Option Nat->Code->Bool
 |none,_=>true
 |some l,.region _ os _=>(os.toList.all λo=>Afq (some l) o)&&(Q4 os).isNone
 |some l,.seq a b=>Bp (some l) a&&Bp (some l) b
 |some l,.cond _ a b=>Bp (some l) a&&Bp (some l) b
 |some l,.block _ b=>Bp (some l) b
 |some _,.loop _=>false
 |some _,.scope _=>false
 |some _,.rangeFunc _ _ _ _=>false
 |some _,_=>true
theorem Bd1(o:Oper):Afq none o=true:=by unfold Afq;rfl
theorem Ge(c:Code):Bp none c=true:=by cases c<;>rfl
theorem Bev{ro:Option Nat}{id:Nat}{os:Array Oper}{dr:Bool}(h:Bp ro (.region id os dr)=true):(os.toList.all λo=>Afq ro o)=true/\(ro=none\/Q4 os=none):=by cases ro with|none=>exact⟨Zg2.2 λo _=>Bd1 o,.inl rfl⟩|some l =>simp only[Bp,Zb1,Option.isNone_iff_eq_none] at h;exact⟨h.1,.inr h.2⟩
theorem A9l{ro:Option Nat}{x y:Code}(h:Bp ro (.seq x y)=true):Bp ro x=true/\Bp ro y=true:=by cases ro with|none=>exact⟨Ge _,Ge _⟩|some l=>simpa only[Bp,Zb1] using h
theorem A1o{ro:Option Nat}{c:Operand}{x y:Code}(h:Bp ro (.cond c x y)=true):Bp ro x=true/\Bp ro y=true:=by cases ro with|none=>exact⟨Ge _,Ge _⟩|some l=>simpa only[Bp,Zb1] using h
theorem A0e{ro:Option Nat}{id:Nat}{b:Code}(h:Bp ro (.block id b)=true):Bp ro b=true:=by cases ro with|none=>exact Ge _|some l=>simpa only[Bp] using h
section
variable {R:Type}{px:Px R}{cx:Cx}
def Bg(cx:Cx)(px:Px R)(b:Code):Prop:=∀(st:St) (K:Ex->St->Option R) (r:R),px.loop b st K=some r->∀(Q:Exit->Act->World->Prop) (m:Mp) (a:Act) (as_:List Act) (w:World),Bm st.n b=true->Rel cx m a as_ (fs st) w->(∀e st' m' a' w',K e st' = some r->(st'.n=st.n/\st'.fr=st.fr)->Rel cx m' a' as_ (fs st') w'->Q (Nm e) a' w')->(Code.loop b).wp cx.P Q a w
theorem Azf{ops:Array Oper}{s:Nat->FS}(hc:Jh ops s):∀t,t<=ops.size->(s t).fr=(s 0).fr
 |0,_=>rfl
 |t+1,ht=>by obtain⟨o,ho⟩:∃o,ops[t]? = some o:=⟨_,Zk2 (by omega)⟩;have:=congrArg FS.fr (hc t o ho);rw[this];exact Azf hc t (by omega)
theorem Auz{ops:Array Oper}{s:Nat->FS}:∀t,Fd ops s (λ_=>false) t=s 0
 |0=>rfl
 |t+1=>by
  simp[Fd];split
  ·simp[Auz t]
  ·exact Auz t
theorem Dy{ro:Option Nat}(hp:PxOk cx px)(hc:Ci cx px)(hcq:CallQOk cx px)(hm:cx.P.follows .mixedOrders=true):∀(c:Code) (st:St) (K:Ex->St->Option R) (r:R),Bm st.n c=true->Bp ro c=true->(∀b,b∈A4 c->Bg cx px b)->Gx px c st K=some r ->
  ∀(Q:Exit->Act->World->Prop) (m:Mp) (a:Act) (as_:List Act) (w:World),Rel cx m a as_ (fs st) w->(∀e st' m' a' w',K e st' = some r->(st'.n=st.n/\st'.fr=st.fr)->Rel cx m' a' as_ (fs st') w'->Q (Nm e) a' w')->c.wpIn (FW ro) 0 cx.P Q a w
 |.skip,st,K,r,_,_,_,h,Q,m,a,as_,w,hr,hQ=>wpIn_skip (hQ .normal st m a w h ⟨rfl,rfl⟩ hr)
 |.label l,st,K,r,_,_,_,h,Q,m,a,as_,w,hr,hQ=>wpIn_label (hQ .normal st m a w h ⟨rfl,rfl⟩ hr)
 |.exit id,st,K,r,_,_,_,h,Q,m,a,as_,w,hr,hQ=>wpIn_exit (hQ (.exit id) st m a w h ⟨rfl,rfl⟩ hr)
 |.ret,st,K,r,_,_,_,h,Q,m,a,as_,w,hr,hQ=>wpIn_ret (hQ .ret st m a w h ⟨rfl,rfl⟩ hr)
 |.region id ⟨l⟩ dr,st,K,r,hb,hcd,_,h,Q,m,a,as_,w,hr,hQ=>by
  simp only[Bm,Zb1] at hb;obtain⟨hcl,hfk⟩:=Bev hcd;simp[Gx] at h;cases dr with
  |false=>exact wpIn_region_lit (S2 hp hc hb.1 hcl h hr (λst' m' a' w' h1 h2 h3=>hQ .normal st' m' a' w' h1 h2 h3))
  |true =>
   simp only at h;generalize hNe:Gn (Array.mk l)=N at h;have hN:N<=l.length:=by rw[<-hNe];exact(Wl _).1
   have htl:(l.take N).length=N:=by rw[List.length_take];omega
   obtain⟨st',h1,h2,h3⟩:=Abq hp hcq (Zg2.2 λo ho=>Zg2.1 hb.1 o (List.mem_of_mem_take ho)) h;cases hok:Ata px (Array.mk l) st' with
   |false=>rw[hok] at h1;cases h1
   |true =>
   rw[hok] at h1;simp only at h1;obtain⟨s0,e0,e1,e2⟩:=Ai6 h3;rw[htl] at e1;let s:Nat->FS:=λi=>if i<=N then s0 i else s0 N
   have hget:∀{i:Nat}{o:Oper},i<N->(Array.mk l)[i]? = some o->(l.take N)[i]? = some o:=λ{i o} hi ho=>by rw[List.getElem?_take_of_lt hi];simpa using ho
   have hch:Jh (Array.mk l) s:=λi o ho=>by
    by_cases hi:i<N
    ·have:=(e2 i o (hget hi ho)).1;simp[s,if_pos (show i<=N by omega),if_pos (show i+1<=N by omega)];exact this
    ·have h4:s (i+1)=s0 N:=by simp only[s];rw[if_neg (by omega)]
     have h5:s i=s0 N:=by
      simp only[s];split
      ·rw[show i=N by omega]
      ·rfl
     rw[h4,h5,A4z]
   have hsz:(Array.mk l).size=l.length:=rfl;refine wpIn_region_any hm (At9 (N:=N) (s:=s) (as_:=as_) hN hNe.symm (by simpa using hb.2) (λj oj h4 h5 q hq=>(Wl _).2 j oj (by rw[hNe];exact h4) h5 q (by rw[hNe];exact hq)) hch (λi o hi ho =>?_) (λi o ho =>?_) (λi j oi oj hi hj hiN hjN _ _ _ hord b hrd =>?_) (λm' a' w' hrel fuel listed hls hll hlf =>?_) _ _ _ _ (by simp) ?_ ?_ (λq _ hq=>by have h8:q<l.length:=hq;simp[ h8]) ⟨m,?_⟩)
   ·simp[s,if_pos (show i<=N by omega),if_pos (show i+1<=N by omega)];exact(e2 i o (hget hi ho)).2.2.2
   ·by_cases hi:i<N
    ·simp[s,if_pos (show i<=N by omega),if_pos (show i+1<=N by omega)];exact(e2 i o (hget hi ho)).2.1
    ·have h4:s (i+1)=s0 N:=by simp only[s];rw[if_neg (by omega)]
     have h5:s i=s0 N:=by
      simp only[s];split
      ·rw[show i=N by omega]
      ·rfl
     rw[h4,h5];exact Zn1 _
   ·refine Bqx hch (T:=N) hN hj hjN hiN ?_ hord hrd;have:=(e2 i oi (hget hiN hi)).2.2.1;rw[Nat.zero_add] at this;simp[s,if_pos (show i<=N by omega),if_pos (show i+1<=N by omega)];exact this
   ·have hsN:s N=fs st':=by simp[s];exact e1
    rw[hsN] at hrel;have hfr:st'.fr=st.fr:=by
     have:=Azf hch N hN;have h6:s 0=fs st:=by simp[s];exact e0
     rw[hsN,h6] at this;exact this
    refine Bh1 (ro:=ro) hp hc (λj oj hoj=>(Gh (by simpa using hb.2) hoj).1) (by rw[h2];exact hb.1) hcl hfk hok (by rw[hNe];exact h1) hrel (λst'' m'' a'' w'' k1 k2 k3=>hQ .normal st'' m'' a'' w'' k1 ⟨k2.1.trans h2,k2.2.trans hfr⟩ k3) fuel listed hls (by rw[hNe];exact hll) hlf
   ·intro j o ho hl;have hlt:j<l.length:=by have:=(Zh2.1 ho).1;exact this
    simp[hlt] at hl
   ·have:=List.length_filter_le (λj => !(Array.replicate (Array.mk l).size false).getD j true) (List.range (Array.mk l).size);simpa using this
   ·rw[Z0 (T:=λ_=>false) _ hN (λj hj=>by
     have h7:j<l.length:=by omega
     simp[h7]),Auz]
    have h6:s 0=fs st:=by simp[s];exact e0
    rw[h6];exact hr.quiet (Chg.drawn _ _ _)
 |.seq x y,st,K,r,hb,hcd,hl,h,Q,m,a,as_,w,hr,hQ=>by simp[Bm] at hb;simp[Gx] at h;have hcd:=A9l hcd;refine wpIn_seq (Dy hp hc hcq hm x st _ r hb.1 hcd.1 (λb hb=>hl b (by simp[A4,hb])) h _ m a as_ w hr ?_);intro e st' m' a' w' hk hs hrel;cases e with|normal =>show y.wpIn (FW ro) 0 cx.P Q a' w';exact Dy hp hc hcq hm y st' K r (by rw[hs.1];exact hb.2) hcd.2 (λb hb=>hl b (by simp[A4,hb])) hk Q m' a' as_ w' hrel (λe2 st2 m2 a2 w2 k1 k2 k3=>hQ e2 st2 m2 a2 w2 k1 ⟨k2.1.trans hs.1,k2.2.trans hs.2⟩ k3)|exit id=>exact hQ (.exit id) st' m' a' w' hk hs hrel|ret=>exact hQ .ret st' m' a' w' hk hs hrel
 |.cond c x y,st,K,r,hb,hcd,hl,h,Q,m,a,as_,w,hr,hQ=>by
  simp[Bm] at hb;simp[Gx] at h;split at h
  ·rename_i q hq;rw[Av] at hq;obtain⟨v,_,hv,hrep⟩:=hr.env.ev (env:=get st.env) hq;obtain rfl:=Rep.bool hrep;have hcd:=A1o hcd;refine wpIn_cond_split hv (λhqt =>?_) (λhqf =>?_)
   ·subst hqt;exact Dy hp hc hcq hm x st K r hb.1 hcd.1 (λb hb=>hl b (by simp[A4,hb])) h Q m a as_ w hr hQ
   ·subst hqf;exact Dy hp hc hcq hm y st K r hb.2 hcd.2 (λb hb=>hl b (by simp[A4,hb])) h Q m a as_ w hr hQ
  ·cases h
 |.block id b,st,K,r,hb,hcd,hl,h,Q,m,a,as_,w,hr,hQ=>by
  simp[Bm] at hb;simp[Gx] at h;refine wpIn_block (Dy hp hc hcq hm b st _ r hb (A0e hcd) (λb' hb'=>hl b' (by simpa[A4] using hb')) h _ m a as_ w hr ?_);intro e st' m' a' w' hk hs hrel;cases e with
  |normal=>exact hQ .normal st' m' a' w' hk hs hrel
  |ret=>exact hQ .ret st' m' a' w' hk hs hrel
  |exit i =>
   show Exit.inBlock id Q (.exit i) a' w';simp only at hk;split at hk
   ·rename_i hi;obtain rfl:=Zl1 hi;simp[Exit.inBlock];exact hQ .normal st' m' a' w' hk hs hrel
   ·rename_i hi;have hne:i≠id:=Nat.ne_of_beq_eq_false hi;simp[Exit.inBlock,if_neg hne];exact hQ (.exit i) st' m' a' w' hk hs hrel
 |.loop b,st,K,r,hb,hcd,hl,h,Q,m,a,as_,w,hr,hQ=>by cases ro with|some _=>cases hcd|none=>exact wpIn_wide.2 (hl b (by simp[A4]) st K r h Q m a as_ w hb hr hQ)
 |.scope b,st,K,r,hb,hcd,hl,h,Q,m,a,as_,w,hr,hQ=>by
  simp[Bm] at hb;simp[Gx] at h;cases ro with
  |some _=>cases hcd
  |none =>
  refine wpIn_wide.2 (wp_scope_straight (wpIn_wide.1 (Dy hp hc hcq hm b st K r hb (Ge b) (λb' hb'=>hl b' (by simpa[A4] using hb')) h _ m a as_ w hr ?_)));intro e st' m' a' w' hk hs hrel;have:=hQ e st' m' a' w' hk hs hrel;cases e with|normal=>show Exit.noGoto Q .normal a' w';exact this|exit i=>show Exit.noGoto Q (.exit i) a' w';exact this|ret=>show Exit.noGoto Q .ret a' w';rw[Exit.noGoto_ret];exact this
 |.rangeFunc _ _ _ _,st,K,r,_,hcd,_,h,Q,m,a,as_,w,hr,hQ=>by cases ro with|some _=>cases hcd|none=>exact wpIn_wide.2 (A0x hc h hr hQ)
 |.goto _,st,K,r,_,_,_,h,_,_,_,_,_,_,_=>by simp[Gx] at h
 |.refuse _,st,K,r,_,_,_,h,_,_,_,_,_,_,_=>by simp[Gx] at h
theorem D1(hp:PxOk cx px)(hc:Ci cx px)(hcq:CallQOk cx px)(hm:cx.P.follows .mixedOrders=true)(c:Code)(st:St)(K:Ex->St->Option R)(r:R)(hb:Bm st.n c=true)(hl:∀b,b∈A4 c->Bg cx px b)(h:Gx px c st K=some r)
  (Q:Exit->Act->World->Prop) (m:Mp) (a:Act) (as_:List Act) (w:World) (hr:Rel cx m a as_ (fs st) w) (hQ:∀e st' m' a' w',K e st' = some r->(st'.n=st.n/\st'.fr=st.fr)->Rel cx m' a' as_ (fs st') w'->Q (Nm e) a' w'):c.wp cx.P Q a w :=
 wpIn_wide.1 (Dy hp hc hcq hm c st K r hb (Ge c) hl h Q m a as_ w hr hQ)
theorem Ase(hp:PxOk cx px)(hc:Ci cx px)(hcq:CallQOk cx px)(hm:cx.P.follows .mixedOrders=true){b:Code}{k:Nat}{s:Sig}{step:Aml (HV s.sgs) R}(hs:V2 s=true)(hround:∀fr rec kx v,round px s b fr rec kx v=step rec kx v)(hin:∀b',b'∈A4 b->Bg cx px b'){st:St}{K:Ex->St->Option R}{r:R}(h:Am k s step st K=some r){Q:Exit->Act->World->Prop}{m:Mp}{a:Act}{as_:List Act}{w:World}(hb:Bm st.n b=true)(hr:Rel cx m a as_ (fs st) w)(hQ:∀e st' m' a' w',K e st' = some r->(st'.n=st.n/\st'.fr=st.fr)->Rel cx m' a' as_ (fs st') w'->Q (Nm e) a' w'):(Code.loop b).wp cx.P Q a w:=by
 unfold Am at h;split at h
 ·rename_i v hv;have hn:st.n=s.n:=by
   unfold Im at hv;split at hv
   ·rename_i hcnd;simp only[Zb1] at hcnd;exact Zl1 hcnd.1.1.1.1.2
   ·cases hv
  have key:∀(n:Nat) (v:HV s.sgs),Aj (λrec=>step rec (λe v'=>K e (Fw s st.fr v'))) n v=some r->∀m a w,Rel cx m a as_ (fs (Fw s st.fr v)) w->Sx.LW cx.P b Q a w:=by
   intro n;induction n with
   |zero=>intro v hv;simp[Aj] at hv
   |succ n ih =>
    intro v hv m a w hrel;simp[Aj] at hv;rw[<-hround st.fr] at hv;have henn:∀v,(Fw s st.fr v).n=s.n/\(Fw s st.fr v).fr=st.fr:=λv=>by unfold Fw;split;exact⟨rfl,rfl⟩
    refine Sx.LW_round (D1 hp hc hcq hm b _ _ r (by rw[(henn v).1,<-hn];exact hb) hin hv _ m a as_ w hrel ?_);intro e st' m' a' w' hk hsame hrel';split at hk
    ·rename_i v' hv';obtain⟨m2,hrel2⟩:=hrel'.recode hs hv';have hfr:st'.fr=st.fr:=hsame.2.trans (henn v).2;rw[hfr] at hrel2;cases e with|normal=>exact ih v' hk m2 a' w' hrel2|exit id=>exact hQ (.exit id) _ m2 a' w' hk ⟨(henn v').1.trans hn.symm,(henn v').2⟩ hrel2|ret=>exact hQ .ret _ m2 a' w' hk ⟨(henn v').1.trans hn.symm,(henn v').2⟩ hrel2
    ·cases hk
  obtain⟨m0,hrel0⟩:=hr.recode hs hv;exact Sx.wp_of_LW (key k v h m0 a w hrel0)
 ·cases h
theorem Bqw(hp:PxOk cx px)(hc:Ci cx px)(hcq:CallQOk cx px)(hm:cx.P.follows .mixedOrders=true){b:Code}{k:Nat}{s:Sig}{step:Aml (HV s.sgs) R}(hpx:∀st K,px.loop b st K=Am k s step st K)(hs:V2 s=true)(hround:∀fr rec kx v,round px s b fr rec kx v=step rec kx v)(hin:∀b',b'∈A4 b->Bg cx px b'):Bg cx px b:=by intro st K r h Q m a as_ w hb hr hQ;rw[hpx] at h;exact Ase hp hc hcq hm hs hround hin h hb hr hQ
theorem Aj7(hp:PxOk cx px)(hc:Ci cx px)(hcq:CallQOk cx px)(hm:cx.P.follows .mixedOrders=true){px0:Px R}(hp0:PxOk cx px0)(hc0:Ci cx px0)(hcq0:CallQOk cx px0)(hl0:∀b st K,px0.loop b st K=none){b:Code}{k:Nat}{s:Sig}{step:Aml (HV s.sgs) R}(hpx:∀st K,px.loop b st K=Asa px0 b k s step st K)(hs:V2 s=true)(hround:∀fr rec kx v,round px s b fr rec kx v=step rec kx v)(hin:∀b',b'∈A4 b->Bg cx px b'):Bg cx px b:=by
 intro st K r h Q m a as_ w hb hr hQ;rw[hpx] at h;unfold Asa at h;split at h
 ·exact Ase hp hc hcq hm hs hround hin h hb hr hQ
 ·unfold Bvx at h;refine Sx.wp_of_LW (Sx.LW_round (D1 hp0 hc0 hcq0 hm b st _ r hb (λb' _ st K r h=>by rw[hl0] at h;cases h) h _ m a as_ w hr ?_));intro e st' m' a' w' hk hs hrel;cases e with|normal=>cases hk|exit id=>exact hQ (.exit id) st' m' a' w' hk hs hrel|ret=>exact hQ .ret st' m' a' w' hk hs hrel
def Awr(cx:Cx)(b:Code)(f:St->(Ex->St->Option R)->Option R):Prop:=∀(st:St) (K:Ex->St->Option R) (r:R),f st K=some r->∀(Q:Exit->Act->World->Prop) (m:Mp) (a:Act) (as_:List Act) (w:World),Bm st.n b=true->Rel cx m a as_ (fs st) w->(∀e st' m' a' w',K e st' = some r->(st'.n=st.n/\st'.fr=st.fr)->Rel cx m' a' as_ (fs st') w'->Q (Nm e) a' w')->(Code.loop b).wp cx.P Q a w
theorem Azn(hp:PxOk cx px)(hc:Ci cx px)(hcq:CallQOk cx px)(hm:cx.P.follows .mixedOrders=true){b:Code}{k:Nat}{s:Sig}{step:Aml (HV s.sgs) R}(hs:V2 s=true)(hround:∀fr rec kx v,round px s b fr rec kx v=step rec kx v)(hin:∀b',b'∈A4 b->Bg cx px b'):Awr cx b (Am k s step):=by intro st K r h Q m a as_ w hb hr hQ;exact Ase hp hc hcq hm hs hround hin h hb hr hQ
def Auv(k:Nat)(s:Sig)(step:Aml (HV s.sgs) R)(alt:St->(Ex->St->Option R)->Option R)(st:St)(K:Ex->St->Option R):Option R:=match Im s st with|some _=>Am k s step st K|none=>alt st K
theorem Bd8{b:Code}{k:Nat}{s:Sig}{step:Aml (HV s.sgs) R}{alt:St->(Ex->St->Option R)->Option R}(h1:Awr cx b (Am k s step))(h2:Awr cx b alt):Awr cx b (Auv k s step alt):=by
 intro st K r h;unfold Auv at h;split at h
 ·exact h1 st K r h
 ·exact h2 st K r h
theorem Bqi{b:Code}{f:St->(Ex->St->Option R)->Option R}(hpx:∀st K,px.loop b st K=f st K)(h:Awr cx b f):Bg cx px b:=by intro st K r hk;rw[hpx] at hk;exact h st K r hk
end
def v0(el:Ck->TypeId)(M:Fp)(w:World):Vx:=⟨⟨λ_=>0,λ_=>none⟩,λ_=>False,M,w,0,0,el⟩
def vr(el:Ck->TypeId)(M:Fp)(m:Mp)(sr:List Sg)(w:World):Vx:=⟨m,λt=>t∈A7 0 sr,λb i=>M b i\/∃p o,p∈A7 0 sr/\m.tk p=some (b,o)/\o<=i,w,0,sr.length,el⟩
structure FnOk (P:Program) (el:Ck->TypeId) (gl:Nat->Option Gv) (f:FuncId) (sa sr:List Sg) (F:HV sa->Option (HV sr)):Prop where
 enters:Sx.Enters P f
 run:∀x r,F x=some r->∀(w:World) (M:Fp) (vs:List Value),(∀b i,M b i->b<w.heap.size)->GlR (v0 el M w) gl->Reps (v0 el M w) (Bw 0 sa x) vs ->
  Calls P f vs.toArray w λen w'=>∃v m,en = .returned v/\Chg B9 w w'/\(∀p g o,p∈A7 0 sr->m.tk p=some (g,o)->w.heap.size<=g/\g<w'.heap.size)/\(∀p q g o o',p∈A7 0 sr->q∈A7 0 sr->m.tk p=some (g,o)->m.tk q=some (g,o')->p=q)/\Rep (vr el M m sr w') (Gw (Bw 0 sr r)) v
section
variable {R:Type}{px:Px R}{cx:Cx}
theorem Du(hp:PxOk cx px){m:Mp}{a:Act}{as_:List Act}{st:St}{w:World}(hr:Rel cx m a as_ (fs st) w):∀{rs:List ResultVar}{ds:List D},results px st rs=some ds->∃vs,Sem.run cx.P (rs.mapM (Sx.rdv a.tmps)) w=Result.ok vs w/\Reps (vx cx m (fs st) w) ds vs
 |[],ds,h=>by simp[results] at h;subst h;exact⟨[],by simp,by simp[Reps]⟩
 |.tmp t::rs,ds,h=>by
  simp[results] at h;split at h
  ·rename_i d ds' hd hds;simp at h;subst h;obtain⟨vs,h1,h2⟩:=Du hp hr hds;obtain⟨v,hv,hrep⟩:=hr.env.get t d hd;refine⟨v::vs,?_,by simp only[Reps];exact⟨v,vs,rfl,hrep,h2⟩⟩;simp[ Sx.rdv,hv,h1]
  ·cases h
 |.cell q t::rs,ds,h=>by
  simp[results] at h;split at h
  ·rename_i p hpq;split at h
   ·rename_i d ds' hk hd hds;simp at h;subst h;obtain⟨vs,h1,h2⟩:=Du hp hr hds;obtain⟨pv,hpv,hrep⟩:=hr.env.get q p hpq;rw[A6c] at hd;obtain⟨u,h4,h5⟩:=Aqq (s:=fs st) hp hr hk hd hrep;obtain⟨ad,rfl⟩:∃ad,pv = .pointer (some ad):=by cases p<;>simp[Aex] at hd<;>first|(cases hd;done)|(simp[Rep] at hrep;first|exact⟨_,hrep⟩|exact⟨_,hrep.2⟩|exact⟨_,hrep.2.1⟩|(obtain⟨b,o,e,_⟩:=hrep;exact⟨_,e⟩))
    refine⟨u::vs,?_,by simp only[Reps];exact⟨u,vs,rfl,h5,h2⟩⟩;simp[Instr.loadAt,Instr.sureAddr] at h4;simp[ Sx.rdv,hpv,asAddr,h4,h1]
   ·cases h
  ·cases h
theorem G3{x:Vx}{ds:List D}{vs:List Value}(h:Reps x ds vs):Rep x (Gw ds) (Sx.resv vs):=by
 match ds,vs,h with
 |[],vs,h=>simp[Reps] at h;subst h;simp only[Gw];exact⟨[],rfl,by simp[Reps]⟩
 |[d],vs,h =>simp only[Reps] at h;obtain⟨u,us,rfl,h1,rfl⟩:=h;exact h1
 |d::e::ds,vs,h =>match vs,h.len with|u::w::us,_ =>simp only[Gw];exact⟨_,rfl,h⟩
theorem Ag2{x:Vx}{ds:List D}{v:Value}(h:Rep x (Gw ds) v):∃vs,v=Sx.resv vs/\Reps x ds vs:=by
 match ds,h with
 |[],h =>simp[Gw] at h;obtain⟨vs,rfl,hr⟩:=h;simp[Reps] at hr;subst hr;exact⟨[],rfl,by simp[Reps]⟩
 |[d],h=>exact⟨[v],rfl,by simp only[Reps];exact⟨v,[],rfl,h,rfl⟩⟩
 |d::e::ds,h =>simp[Gw] at h;obtain⟨vs,rfl,hr⟩:=h;match vs,hr.len with|u::w::us,_=>exact⟨_,rfl,hr⟩
theorem D9{b:Nat}:∀(l:List (Nat×Blk)) (c:Nat),blk (Bj l b) c=if c=b then none else blk l c
 |[],c=>by simp[Bj,blk]
 |(q,v)::l,c=>by
  simp[Bj];by_cases hq:q=b
  ·subst hq;simp;rw[D9 l c,Aw];by_cases hc:c=q
   ·simp[hc]
   ·simp[hc]
  ·simp[Ga hq];rw[Aw,D9 l c,Aw];by_cases hc:c=q
   ·subst hc;simp[hq]
   ·grind
theorem Rel.drop{m:Mp}{a:Act}{as_:List Act}{st:St}{w:World}(hr:Rel cx m a as_ (fs st) w)(b:Nat):Rel cx m a as_ (fs { st with bl:=Bj st.bl b }) w/\Nx (vx cx m (fs st) w) (vx cx m (fs { st with bl:=Bj st.bl b }) w):=by
 have sub:∀c k,blk (Bj st.bl b) c=some k->blk st.bl c=some k:=λc k h=>by
  rw[D9] at h;split at h
  ·cases h
  ·exact h
 have sub':∀c,blk (Bj st.bl b) c≠none->blk st.bl c≠none:=λc h=>by cases hk:blk (Bj st.bl b) c with|none=>exact absurd hk h|some k=>rw[sub c k hk];simp
 have fp:∀c i,Dv m (fs { st with bl:=Bj st.bl b }) c i->Dv m (fs st) c i:=by
  rintro c i (⟨q,hq,rfl⟩|h)
  ·exact .inl ⟨q,sub' q hq,rfl⟩
  ·exact .inr h
 have nx:Nx (vx cx m (fs st) w) (vx cx m (fs { st with bl:=Bj st.bl b }) w):=by
  refine⟨Chg.refl _ _,?_,rfl,λ_ _=>rfl,Zn1 _,Zn1 _,λt _ ha=>⟨ha,rfl,λ_ _ _=>rfl⟩⟩;rintro c i (h|h)
  ·exact .inl (.inl h)
  ·exact .inl (.inr (fp c i h))
 refine⟨⟨hr.chg,hr.env.later nx,hr.frs.later nx hr.lb hr.lt,hr.lb,hr.lt,λc k hk =>?_,hr.als,λc c' h1 h2=>hr.inj c c' (sub' c h1) (sub' c' h2),hr.injt,λc t g o h1=>hr.injbt c t g o (sub' c h1),λc i h=>hr.own c i (fp c i h),hr.away,hr.glb.later nx⟩,nx⟩;obtain⟨h1,h2⟩:=hr.blks c k (sub c k hk);exact⟨h1,h2.later nx rfl⟩
theorem Nx.trans{x y z:Vx}(h:Nx x y)(k:Nx y z):Nx x z :=
 ⟨h.chg.later h.fp k.chg,λb i hi=>by
  rcases k.fp b i hi with h1|h1
  ·exact h.fp b i h1
  ·exact .inr (Nat.le_trans h.chg.size h1),k.el.trans h.el,λb hb=>(k.bl b (Zx1 hb h.nb)).trans (h.bl b hb),Nat.le_trans h.nb k.nb,Nat.le_trans h.nt k.nt,λt ht ha=>by
  obtain⟨a1,a2,a3⟩:=k.tk t (Zx1 ht h.nt) ha;obtain⟨b1,b2,b3⟩:=h.tk t ht a1;exact⟨b1,a2.trans b2,λg o hg=>(a3 g o (b2.trans hg)).trans (b3 g o hg)⟩⟩
theorem Au2{m:Mp}{a:Act}{as_:List Act}{st:St}{w:World}(hr:Rel cx m a as_ (fs st) w){d:D}{v:Value}(hd:Rep (vx cx m (fs st) w) d v){K:D->List (Nat×Blk)->Option R}{r:R}(h:Bet st.bl d K=some r):∃d' bl',K d' bl' = some r/\Rel cx m a as_ (fs { st with bl:=bl' }) w/\Nx (vx cx m (fs st) w) (vx cx m (fs { st with bl:=bl' }) w)/\Rep (vx cx m (fs { st with bl:=bl' }) w) d' v/\(lf d=true->lf d' = true):=by
 unfold Bet at h;split at h
 ·rename_i b c s n;split at h
  ·rename_i c' xs hb;split at h
   ·rename_i hc;simp at hc;subst hc;obtain⟨hc,hk⟩:=A0 h;simp at hc;obtain⟨⟨hs,hn⟩,hsn⟩:=hc;obtain⟨hrel,nx⟩:=hr.drop b;refine⟨_,_,hk,hrel,nx,?_⟩;simp[Rep] at hd ⊢;obtain⟨g1,_,_,_,ad,cap,rfl,g5,g6,g7,_⟩:=hd;refine⟨⟨?_,trivial⟩,λ_=>rfl⟩;have hlen:n.toNat=(cut xs s (s+n)).length:=by simp[cut];omega
    refine Jl hlen ?_;by_cases hn0:n=0
    ·left;exact List.eq_nil_of_length_eq_zero (by omega)
    ·right;obtain⟨_,hml,vs,ty,hh,hvl,hreps⟩:=hr.blks b _ hb;refine⟨m.bl b,s.toNat*csz c,g5.resolve_left hn0,by omega,λi y hy w' hw j d hd =>?_⟩;have hy':xs[s.toNat+i]? = some y:=by
      simp[cut] at hy;rw[List.getElem?_take] at hy;split at hy
      ·rwa[List.getElem?_drop] at hy
      ·cases hy
     obtain⟨u,hu,hf⟩:=hreps _ y j d hy' hd;refine⟨u,?_,(nx.rf hf) w' hw⟩;have hcell:w.cell? ⟨m.bl b,s.toNat*csz c+i*csz c+j,none⟩=some u:=by have hh:w.heap[m.bl b]? = some (.cells vs.toArray ty (0,0)):=hh;simp[World.cell?,hh];rw[<-Nat.add_mul];simpa using hu
     refine hw.cell _ _ _ hcell ?_;have hbn:(fs st).bl b≠none:=by rw[show(fs st).bl b=some _ from hb];simp
     rintro(hM|hf')
     ·exact hr.disj hM (.inl ⟨b,hbn,rfl⟩:Dv m (fs st) (m.bl b) 0)
     ·rcases hf' with ⟨q,hq,he⟩|⟨t,o,h1,h2,_⟩
      ·have hq:blk (Bj st.bl b) q≠none:=hq;rw[D9] at hq;split at hq
       ·exact hq rfl
       ·rename_i hqb;exact hqb (hr.inj q b hq hbn he)
      ·exact hr.injbt b t _ o hbn h1 h2 rfl
   ·cases h
  ·cases h
 ·exact⟨d,st.bl,h,hr,⟨Chg.refl _ _,λ_ _ h =>.inl h,rfl,λ_ _=>rfl,Zn1 _,Zn1 _,λt _ ha=>⟨ha,rfl,λ_ _ _=>rfl⟩⟩,hd,id⟩
theorem Atf{m:Mp}{a:Act}{as_:List Act}{w:World}{r:R}:∀{ds:List D}{st:St}{vs:List Value}{K:List D->List (Nat×Blk)->Option R},Rel cx m a as_ (fs st) w->Reps (vx cx m (fs st) w) ds vs->Bkz st.bl ds K=some r->∃ds' bl',K ds' bl' = some r/\Rel cx m a as_ (fs { st with bl:=bl' }) w/\Nx (vx cx m (fs st) w) (vx cx m (fs { st with bl:=bl' }) w)/\Reps (vx cx m (fs { st with bl:=bl' }) w) ds' vs/\(ds.all lf=true->ds'.all lf=true)
 |[],st,vs,K,hr,hd,h=>⟨[],st.bl,h,hr,⟨Chg.refl _ _,λ_ _ h =>.inl h,rfl,λ_ _=>rfl,Zn1 _,Zn1 _,λt _ ha=>⟨ha,rfl,λ_ _ _=>rfl⟩⟩,by simpa using hd,id⟩
 |d::ds,st,vs,K,hr,hd,h=>by simp[Reps] at hd;obtain⟨u,us,rfl,h1,h2⟩:=hd;simp[Bkz] at h;obtain⟨d',bl1,hk,hr1,nx1,hd1,hl1⟩:=Au2 hr h1 h;obtain⟨ds',bl2,hk2,hr2,nx2,hds,hl2⟩:=Atf (st:={ st with bl:=bl1 }) hr1 (Reps.later nx1 _ _ h2) hk;refine⟨d'::ds',bl2,hk2,hr2,nx1.trans nx2,by simp only[Reps];exact⟨u,us,rfl,Rep.later nx2 _ _ hd1,hds⟩,λh =>?_⟩;simp only[Zv1,Zb1] at h ⊢;exact⟨hl1 h.1,hl2 h.2⟩
theorem A88{m:Mp}{a:Act}{as_:List Act}{st:St}{w:World}(hr:Rel cx m a as_ (fs st) w){d:D}{v:Value}(hd:Rep (vx cx m (fs st) w) d v){K:D->List (Nat×Blk)->Option R}{r:R}(h:Bdb st.bl d K=some r):∃d' bl',K d' bl' = some r/\Rel cx m a as_ (fs { st with bl:=bl' }) w/\Nx (vx cx m (fs st) w) (vx cx m (fs { st with bl:=bl' }) w)/\Rep (vx cx m (fs { st with bl:=bl' }) w) d' v:=by
 unfold Bdb at h;split at h
 ·rename_i ds;simp only[Rep] at hd;obtain⟨hl,vs,rfl,hreps⟩:=hd;obtain⟨ds',bl',hk,hrel,nx,hds,hl'⟩:=Atf hr hreps h;exact⟨_,bl',hk,hrel,nx,by simp only[Rep];exact⟨hl' hl,vs,rfl,hds⟩⟩
 ·obtain⟨d',bl',hk,hrel,nx,hds,_⟩:=Au2 hr hd h;exact⟨d',bl',hk,hrel,nx,hds⟩
theorem Agm{m:Mp}{a:Act}{as_:List Act}{w:World}{r:R}:∀{ds:List D}{st:St}{vs:List Value}{K:List D->List (Nat×Blk)->Option R},Rel cx m a as_ (fs st) w->Reps (vx cx m (fs st) w) ds vs->Bbx st.bl ds K=some r->∃ds' bl',K ds' bl' = some r/\Rel cx m a as_ (fs { st with bl:=bl' }) w/\Nx (vx cx m (fs st) w) (vx cx m (fs { st with bl:=bl' }) w)/\Reps (vx cx m (fs { st with bl:=bl' }) w) ds' vs
 |[],st,vs,K,hr,hd,h=>⟨[],st.bl,h,hr,⟨Chg.refl _ _,λ_ _ h =>.inl h,rfl,λ_ _=>rfl,Zn1 _,Zn1 _,λt _ ha=>⟨ha,rfl,λ_ _ _=>rfl⟩⟩,by simpa using hd⟩
 |d::ds,st,vs,K,hr,hd,h=>by simp[Reps] at hd;obtain⟨u,us,rfl,h1,h2⟩:=hd;simp[Bbx] at h;obtain⟨d',bl1,hk,hr1,nx1,hd1⟩:=A88 hr h1 h;obtain⟨ds',bl2,hk2,hr2,nx2,hds⟩:=Agm (st:={ st with bl:=bl1 }) hr1 (Reps.later nx1 _ _ h2) hk;exact⟨d'::ds',bl2,hk2,hr2,nx1.trans nx2,by simp only[Reps];exact⟨u,us,rfl,Rep.later nx2 _ _ hd1,hds⟩⟩
theorem Rel.give{m:Mp}{a:Act}{as_:List Act}{st:St}{w:World}(hr:Rel cx m a as_ (fs st) w){b:Nat}(hb:(fs st).bl b≠none)(o:Nat):∃m',Rel cx m' a as_ (fs (D4 { st with bl:=Bj st.bl b })) w/\Nx (vx cx m (fs st) w) (vx cx m' (fs (D4 { st with bl:=Bj st.bl b })) w)/\m'.bl=m.bl/\m'.tk st.nt=some (m.bl b,o)/\∀i,i<o->¬(vx cx m' (fs (D4 { st with bl:=Bj st.bl b })) w).S (m.bl b) i:=by
 let m':Mp:={ m with tk:=λt=>if t=st.nt then some (m.bl b,o) else m.tk t };let s':FS:=fs (D4 { st with bl:=Bj st.bl b });have hsub:∀c,s'.bl c≠none->(fs st).bl c≠none/\c≠b:=λc h=>by
  have h:blk (Bj st.bl b) c≠none:=h;rw[D9] at h;by_cases hc:c=b
  ·rw[if_pos hc] at h;exact absurd rfl h
  ·rw[if_neg hc] at h;exact⟨h,hc⟩
 have hal:∀t,s'.al t->(t=st.nt/\m'.tk t=some (m.bl b,o))\/((fs st).al t/\t<st.nt/\m'.tk t=m.tk t):=λt ht=>by
  have ht:t∈st.nt::st.tk:=ht;rcases List.mem_cons.1 ht with rfl|ht
  ·exact .inl ⟨rfl,by simp[m']⟩
  ·have hlt:t<st.nt:=hr.als t ht;exact .inr ⟨ht,hlt,by simp[m',Nat.ne_of_lt hlt]⟩
 have fp:∀c i,Dv m' s' c i->Dv m (fs st) c i/\(c=m.bl b->o<=i):=by
  rintro c i (⟨q,hq,rfl⟩|⟨t,p,h1,h2,h3⟩)
  ·obtain⟨g1,g2⟩:=hsub q hq;exact⟨.inl ⟨q,g1,rfl⟩,λe=>absurd (hr.inj q b g1 hb e) g2⟩
  ·rcases hal t h1 with ⟨rfl,e⟩|⟨g1,_,e⟩
   ·rw[e] at h2;simp at h2;obtain⟨rfl,rfl⟩:=h2;exact⟨.inl ⟨b,hb,rfl⟩,λ_=>h3⟩
   ·rw[e] at h2;refine⟨.inr ⟨t,p,g1,h2,h3⟩,λe2 =>?_⟩;subst e2;exact absurd rfl (hr.injbt b t _ p hb g1 h2)
 have nx:Nx (vx cx m (fs st) w) (vx cx m' s' w):=by
  refine⟨Chg.refl _ _,?_,rfl,λ_ _=>rfl,Zn1 _,Nat.le_succ _,λt ht ha =>?_⟩
  ·rintro c i (h|h)
   ·exact .inl (.inl h)
   ·exact .inl (.inr (fp c i h).1)
  ·have ht:t<st.nt:=ht;rcases hal t ha with ⟨e,_⟩|⟨g1,_,e⟩
   ·omega
   ·exact⟨g1,e,λ_ _ _=>rfl⟩
 refine⟨m',⟨hr.chg,hr.env.later nx,hr.frs.later nx hr.lb hr.lt,hr.lb,Nat.le_succ_of_le hr.lt,λc k hk =>?_,λt ht =>?_,λc c' h1 h2=>hr.inj c c' (hsub c h1).1 (hsub c' h2).1,λt t' g p p' h1 h2 h3 h4 =>?_,λc t g p h1 h2 h3 =>?_,λc i h=>hr.own c i (fp c i h).1,hr.away,hr.glb.later nx⟩,nx,rfl,by simp[m'],λi hi h =>?_⟩
 ·have hk2:(fs st).bl c=some k:=by
   have hk:blk (Bj st.bl b) c=some k:=hk;rw[D9] at hk;split at hk
   ·cases hk
   ·exact hk
  obtain⟨h1,h2⟩:=hr.blks c k hk2;exact⟨h1,h2.later nx rfl⟩
 ·rcases hal t ht with ⟨rfl,_⟩|⟨_,h,_⟩
  ·exact Nat.lt_succ_self _
  ·exact Nat.lt_succ_of_lt h
 ·rcases hal t h1 with ⟨e1,k1⟩|⟨q1,_,k1⟩<;>rcases hal t' h2 with ⟨e2,k2⟩|⟨q2,_,k2⟩
  ·rw[e1,e2]
  ·rw[k1] at h3;rw[k2] at h4
   simp at h3;exact absurd h3.1 (hr.injbt b t' g p' hb q2 h4)
  ·rw[k1] at h3;rw[k2] at h4
   simp at h4;exact absurd h4.1 (hr.injbt b t g p hb q1 h3)
  ·rw[k1] at h3;rw[k2] at h4
   exact hr.injt t t' g p p' q1 q2 h3 h4
 ·obtain⟨g1,g2⟩:=hsub c h1;rcases hal t h2 with ⟨_,e⟩|⟨q1,_,e⟩
  ·rw[e] at h3;simp at h3;exactλe2=>g2 (hr.inj c b g1 hb (e2.trans h3.1.symm))
  ·rw[e] at h3;exact hr.injbt c t g p g1 q1 h3
 ·rcases h with h|h
  ·exact hr.disj h (.inl ⟨b,hb,rfl⟩:Dv m (fs st) (m.bl b) 0)
  ·have:=(fp _ i h).2 rfl;omega
theorem Ye{a:Act}{as_:List Act}{w:World}{r:R}:∀{sr:List Sg}{m:Mp}{ds:List D}{st:St}{vs:List Value}{K:List D->St->Option R},Rel cx m a as_ (fs st) w->Reps (vx cx m (fs st) w) ds vs->Afn sr st ds K=some r->∃ds' st' m',K ds' st' = some r/\Rel cx m' a as_ (fs st') w/\Nx (vx cx m (fs st) w) (vx cx m' (fs st') w)/\Reps (vx cx m' (fs st') w) ds' vs
 |[],m,[],st,vs,K,hr,hd,h=>⟨[],st,m,h,hr,⟨Chg.refl _ _,λ_ _ h =>.inl h,rfl,λ_ _=>rfl,Zn1 _,Zn1 _,λt _ ha=>⟨ha,rfl,λ_ _ _=>rfl⟩⟩,hd⟩
 |[],m,_::_,st,vs,K,hr,hd,h=>by simp[Afn] at h
 |_::_,m,[],st,vs,K,hr,hd,h=>by simp[Afn] at h
 |s0::sr,m,d::ds,st,vs,K,hr,hd,h=>by
  simp[Reps] at hd;obtain⟨u,us,rfl,h1,h2⟩:=hd;have plain:(Bdb st.bl d λd' bl'=>Afn sr { st with bl:=bl' } ds λds' st'=>K (d'::ds') st')=some r->∃ds' st' m',K ds' st' = some r/\Rel cx m' a as_ (fs st') w/\Nx (vx cx m (fs st) w) (vx cx m' (fs st') w)/\Reps (vx cx m' (fs st') w) ds' (u::us):=λh=>by obtain⟨d',bl1,hk,hr1,nx1,hd1⟩:=A88 hr h1 h;obtain⟨ds',st2,m2,hk2,hr2,nx2,hds⟩:=Ye (st:={ st with bl:=bl1 }) hr1 (Reps.later nx1 _ _ h2) hk;exact⟨d'::ds',st2,m2,hk2,hr2,nx1.trans nx2,by simp only[Reps];exact⟨u,us,rfl,Rep.later nx2 _ _ hd1,hds⟩⟩
  by_cases hcase:∃c0 b c s n,s0 = .sl c0 true/\d = .osl b c s n
  ·obtain⟨c0,b,c,s,n,rfl,rfl⟩:=hcase;simp[Afn] at h;split at h
   ·rename_i c' xs hb;split at h
    ·rename_i hc;simp at hc;subst hc;obtain⟨hc,hk⟩:=A0 h;simp at hc;obtain⟨⟨hs0,hn⟩,hnx⟩:=hc;subst hs0;have hbn:(fs st).bl b≠none:=by rw[show(fs st).bl b=some _ from hb];simp
     simp only[Rep] at h1;obtain⟨g1,_,_,_,ad,cap,rfl,g5,g6,g7,cur,fz,g8,g9⟩:=h1;obtain rfl:=g5.resolve_left (by omega);obtain⟨_,hml,vs,ty,hh,hvl,hreps⟩:=hr.blks b _ hb;have hh:w.heap[m.bl b]? = some (.cells vs.toArray ty (0,0)):=hh;have g8:w.heap[m.bl b]? = some (.cells cur (cx.el c) (0,0)):=by have g8:w.heap[m.bl b]? = some (.cells cur (cx.el c) fz):=g8;rw[hh] at g8;simp at g8;rw[hh,g8.1,g8.2.1]
     obtain⟨m1,hr1,nx1,eb,et,hS⟩:=hr.give hbn (n.toNat*csz c);obtain⟨ds',st2,m2,hk2,hr2,nx2,hds⟩:=Ye hr1 (Reps.later nx1 _ _ h2) hk;refine⟨_::ds',st2,m2,hk2,hr2,nx1.trans nx2,?_⟩;simp only[Reps];refine⟨_,us,rfl,Rep.later nx2 _ _ ?_,hds⟩;simp;have hlen:n.toNat=(xs.take n.toNat).length:=by simp;omega
     refine⟨Jl hlen (.inr ⟨m.bl b,0,by simp[vx],by omega,λi y hy w' hw j d hd =>?_⟩),Nat.lt_succ_self _,λ_ =>.inr ⟨m.bl b,cap,cur,by rw[<-hlen];simp[vx],by rw[<-hlen];exact et,g8,by rw[g9];simp,by omega,g7⟩⟩;have hin:i<n.toNat:=by have:=(Zi2.1 hy).1;omega
     have hj:j<csz c:=by rw[<-Bu c y];exact(Zi2.1 hd).1
     have hy':xs[i]? = some y:=by rw[List.getElem?_take,if_pos hin] at hy;exact hy
     obtain⟨u,hu,hf⟩:=hreps i y j d hy' hd;refine⟨u,?_,(nx1.rf hf) w' hw⟩;have hcell:w.cell? ⟨m.bl b,0+i*csz c+j,none⟩=some u:=by simp[World.cell?,hh];simpa using hu
     refine hw.cell _ _ _ hcell (hS _ ?_);have:(i+1)*csz c<=n.toNat*csz c:=Nat.mul_le_mul_right _ hin;rw[Nat.succ_mul] at this;omega
    ·cases h
   ·cases h
  ·have e:Afn (s0::sr) st (d::ds) K=(Bdb st.bl d λd' bl'=>Afn sr { st with bl:=bl' } ds λds' st'=>K (d'::ds') st'):=by
    cases s0 with
    |sl c0 own=>cases own with
     |true=>cases d<;>first|rfl|exact absurd ⟨_,_,_,_,_,rfl,rfl⟩ hcase
     |false=>rfl
    |_=>rfl
   exact plain (e▸h)
theorem Arr{P:Program}{el:Ck->TypeId}{gl:Nat->Option Gv}{sa:List Sg}(hsa:A7 0 sa=[]){x:HV sa}{n:Nat}(hn:sa.length<=n){w:World}{M:Fp}{vs:List Value}(hM:∀b i,M b i->b<w.heap.size)(hgl:GlR (v0 el M w) gl)(hr:Reps (v0 el M w) (Bw 0 sa x) vs) :
  Rel ⟨P,w,B9,M,el,gl⟩ ⟨λ_=>0,λ_=>none⟩ { tmps:=vs.toArray++Array.replicate (n-vs.toArray.size) undef,defers:=[] } [] (fs (st0 n sa x)) w:=by
 have hfp:∀b i,Dv ⟨λ_=>0,λ_=>none⟩ (fs (st0 n sa x)) b i->False:=by
  rintro b i (⟨k,hk,_⟩|⟨t,o,_,h2,_⟩)
  ·exact hk rfl
  ·cases h2
 have hlen:vs.length=sa.length:=by rw[hr.len,Azo]
 have nx:Nx (v0 el M w) (vx ⟨P,w,B9,M,el,gl⟩ ⟨λ_=>0,λ_=>none⟩ (fs (st0 n sa x)) w):=⟨Chg.refl _ _,λb i hi=>hi.elim .inl (λh=>(hfp b i h).elim),rfl,λb hb=>(Zm1 _ hb).elim,Nat.zero_le _,Nat.zero_le _,λt ht=>(Zm1 _ ht).elim⟩;have hreps:=Reps.later nx _ _ hr;have hget:∀(ds:List D) (us:List Value) (i k:Nat) (d:D),Reps (vx ⟨P,w,B9,M,el,gl⟩ ⟨λ_=>0,λ_=>none⟩ (fs (st0 n sa x)) w) ds us->get (Dm i ds) k=some d->∃v,i<=k/\us[k-i]? = some v/\Rep (vx ⟨P,w,B9,M,el,gl⟩ ⟨λ_=>0,λ_=>none⟩ (fs (st0 n sa x)) w) d v:=by
  intro ds;induction ds with
  |nil=>intro us i k d _ h;simp[Dm,get] at h
  |cons e ds ih =>
   intro us i k d hr h;simp[Reps] at hr;obtain⟨u,us,rfl,h1,h2⟩:=hr;simp[Dm] at h;rw[Bd] at h;by_cases hk:k=i
   ·subst hk;simp at h;subst h;exact⟨u,Zn1 _,by simp,h1⟩
   ·rw[if_neg hk] at h;obtain⟨v,h3,h4,h5⟩:=ih us (i+1) k d h2 h;refine⟨v,by omega,?_,h5⟩;rw[show k-i=(k-(i+1))+1 by omega];simpa using h4
 refine⟨Chg.refl _ _,⟨rfl,?_,λk d hk =>?_⟩,rfl,Nat.zero_le _,Nat.zero_le _,λb k hk =>?_,λt ht =>?_,λb b' h=>(h rfl).elim,λt t' g o o' _ _ h=>(by cases h),λb t g o h=>(h rfl).elim,λb i hi=>(hfp b i hi).elim,λb i j hm=>⟨hM b i hm,id⟩,?_⟩
 ·show _=n;simp;omega
 ·obtain⟨v,_,h2,h3⟩:=hget _ _ 0 k d hreps hk;rw[Nat.sub_zero] at h2;refine⟨v,?_,h3⟩;have hlt:k<vs.length:=(Zi2.1 h2).1;simp only[Array.getElem?_append,List.size_toArray,hlt];simpa using h2
 ·cases hk
 ·have:t∈A7 0 sa:=ht;rw[hsa] at this;cases this
 ·exact hgl.later nx
theorem Agb{P:Program}{el:Ck->TypeId}{gl:Nat->Option Gv}{f:FuncId}{fn:Func}{c:Code}{sa sr:List Sg}{px:Px (HV sr)}{F:HV sa->Option (HV sr)}(hf:P.funcs[f]? = some fn)(hb:fn.body=some c)(hname:(fn.name == "runtime.NumGoroutine")=false)(hm:P.follows .mixedOrders=true)(hchk:(Bm fn.ntmps c&&Nat.ble sa.length fn.ntmps&&Cc (A7 0 sa) [])=true)
  (hpx:∀cx:Cx,cx.P=P->cx.el=el->cx.gl=gl->cx.I=B9->PxOk cx px/\Ci cx px/\CallQOk cx px/\∀b,b∈A4 c->Bg cx px b) (hF:∀x,Zj px fn sa sr x some=F x):FnOk P el gl f sa sr F:=by
 refine⟨Sx.enters_of hf (by rw[hb];rfl) hname,λx r hx w M vs hM hgl hr =>?_⟩;simp at hchk;have hn:sa.length<=fn.ntmps:=by simpa using hchk.1.2
 have hrel:=Arr (P:=P) (Gl hchk.2) hn hM hgl hr;rw[<-hF] at hx;unfold Zj at hx;rw[hb] at hx;simp only at hx;obtain⟨h1,h2,h3,h4⟩:=hpx ⟨P,w,B9,M,el,gl⟩ rfl rfl rfl rfl;refine calls_of_wp hf hb (D1 h1 h2 h3 hm c _ _ r hchk.1.1 h4 hx _ _ _ [] w hrel ?_);intro e st' m' a' w' hk _ hrel';cases e
 case exit=>cases hk
 all_goals
  simp only at hk;split at hk
  ·rename_i rs0 hdf0 hrs;obtain⟨us,hrun,hreps0⟩:=Du h1 hrel' hrs;have hdef:a'.defers=[]:=hrel'.noDf hdf0;obtain⟨rs,st2,m2,hk,hrel1,_,hreps⟩:=Ye hrel' hreps0 hk;clear hreps0 hrel';split at hk
   ·rename_i r' hr';simp at hk;subst hk;obtain⟨as1,as2⟩:=Q2 0 hr';let mc:Mp:=⟨λ_=>0,λp=>(asg 0 sr rs p).bind m2.tk⟩;have horig:∀p g o,mc.tk p=some (g,o)->∃t,asg 0 sr rs p=some t/\t∈st2.tk/\m2.tk t=some (g,o):=λp g o hg=>by cases ha:asg 0 sr rs p with|none=>simp only[mc,ha] at hg;cases hg|some t=>simp[mc,ha] at hg;exact⟨t,rfl,(as1 p t ha).1,hg⟩
    have hS:∀b i,(vr el M mc sr w').S b i->(vx ⟨P,w,B9,M,el,gl⟩ m2 (fs st2) w').S b i:=by
     rintro b i (h|⟨p,o,_,h2,h3⟩)
     ·exact .inl h
     ·obtain⟨t,_,q2,q3⟩:=horig p b o h2;exact .inr (.inr ⟨t,o,q2,q3,h3⟩)
    have hfin:=F3 (X:=vx ⟨P,w,B9,M,el,gl⟩ m2 (fs st2) w') (X':=vr el M mc sr w') hS rfl rfl 0 hr' (λt ht=>ht) hreps (λp hp=>by have:=(F8 _ _ _ hp).2;exact⟨by simpa[vr] using this,rfl⟩)
    refine⟨hdef,Sx.resv us,?_,Sx.resv us,mc,rfl,hrel1.chg,λp g o hp hg =>?_,λp q g o o' _ _ hg hg' =>?_,G3 hfin⟩
    ·obtain⟨rl⟩:∃rl,fn.results=List.toArray rl:=⟨fn.results.toList,by simp⟩;rename_i hrl;rw[Sx.results_eq,hrl];rw[hrl] at hrun;simp only[List.mapM_toArray,Sem.run_bind,map_eq_pure_bind,Sem.run_pure,hrun];congr 1;match us with|[]=>rfl|[v]=>rfl|_::_::_=>simp[Sx.resv]
    ·obtain⟨t,_,q2,q3⟩:=horig p g o hg;have:=hrel1.own g o (.inr ⟨t,o,q2,q3,Zn1 _⟩);exact⟨this.2.resolve_left id,this.1⟩
    ·obtain⟨t,q1,q2,q3⟩:=horig p g o hg;obtain⟨t',p1,p2,p3⟩:=horig q g o' hg';have:=hrel1.injt t t' g o o' q2 p2 q3 p3;subst this;exact as2 p q t q1 p1
   ·cases hk
  ·cases hk
end
section
variable {R:Type}{px:Px R}{cx:Cx}
theorem Ahv{x x':Vx}{n i:Nat}(hS:∀b j,x'.S b j->x.S b j)(hw:x'.w=x.w)(hel:x'.el=x.el):∀{s:Sg}{y:den s}{v:Value},Rep x (Cl i s y) v->(∀c,s = .sl c true->x.al i/\n+i<x'.nt/\x'.m.tk (n+i)=x.m.tk i)->Rep x' (Cl (n+i) s y) v:=by
 have hrf:∀{d:D}{v:Value},RF x.S x.w d v->RF x'.S x'.w d v:=λh=>by rw[hw];exact h.later (Chg.refl _ _) (λk j hk =>.inl (hS k j hk))
 intro s y v h hown;cases s with
 |int k=>simpa[Cl,Rep] using h
 |bool=>simpa[Cl,Rep] using h
 |str=>simpa[Cl,Rep] using h
 |sl c own =>
  cases own with
  |false=>simp[Cl] at h ⊢;exact⟨hrf h.1,trivial⟩
  |true =>
   obtain⟨h1,h2,h3⟩:=hown c rfl;simp[Cl] at h ⊢;refine⟨hrf h.1,h2,λ_ =>?_⟩;rcases h.2.2 h1 with ⟨a1,a2,a3⟩|⟨g,cap,cur,a1,a2,a3,a4⟩
   ·exact .inl ⟨a1,h3.trans a2,a3⟩
   ·exact .inr ⟨g,cap,cur,a1,h3.trans a2,by rw[hw,hel];exact a3,a4⟩
 |sv c =>simp[Cl] at h ⊢;obtain⟨h1,vs,h2,h3,h4⟩:=h;exact⟨h1,vs,h2,h3,λj d hd=>by obtain⟨u,hu,hf⟩:=h4 j d hd;exact⟨u,hu,hrf hf⟩⟩
 |rw c k =>simp[Cl] at h ⊢;obtain⟨h1,vs,h2,h3,h4⟩:=h;exact⟨h1,vs,h2,h3,λq z j d hz hd=>by obtain⟨u,hu,hf⟩:=h4 q z j d hz hd;exact⟨u,hu,hrf hf⟩⟩
 |dn c =>simp[Cl] at h ⊢;obtain⟨h1,vs,h2,h3,h4⟩:=h;exact⟨h1,vs,h2,h3,λq z j d hz hd=>by obtain⟨u,hu,hf⟩:=h4 q z j d hz hd;exact⟨u,hu,hrf hf⟩⟩
 |nl c =>simp[Cl] at h ⊢;exact⟨hrf h.1,h.2⟩
theorem A93{i p:Nat}{a:Sg}{l:List Sg}(h:p∈A7 (i+1) l):p∈A7 i (a::l):=by
 cases a with
 |sl c own=>cases own with|true=>exact Zu1 _ h|false=>exact h
 |_=>exact h
theorem Aiw{x x':Vx}{n:Nat}(hS:∀b j,x'.S b j->x.S b j)(hw:x'.w=x.w)(hel:x'.el=x.el):∀{l:List Sg}{y:HV l}{vs:List Value}(i:Nat),Reps x (Bw i l y) vs->(∀p,p∈A7 i l->x.al p/\n+p<x'.nt/\x'.m.tk (n+p)=x.m.tk p)->Reps x' (Bw (n+i) l y) vs
 |[],y,vs,i,h,_=>by simpa[Bw,Reps] using h
 |[a],y,vs,i,h,hown=>by simp only[Bw] at h ⊢;obtain⟨u,us,h1,h2,h3⟩:=h;exact⟨u,us,h1,Ahv hS hw hel h2 (λc hc=>by subst hc;exact hown i (by simp[A7])),h3⟩
 |a::b::l,(y,z),vs,i,h,hown=>by simp[Bw] at h ⊢;obtain⟨u,us,h1,h2,h3⟩:=h;refine⟨u,us,h1,Ahv hS hw hel h2 (λc hc=>by subst hc;exact hown i (by simp[A7])),?_⟩;have:=Aiw hS hw hel (i+1) h3 (λp hp=>hown p (A93 hp));rwa[<-Nat.add_assoc] at this
theorem Alx:∀(l:List Sg) (n i p:Nat),p∈A7 (n+i) l↔∃q,q∈A7 i l/\p=n+q
 |[],n,i,p=>by simp[A7]
 |s::l,n,i,p=>by
  have ih:=Alx l n (i+1) p;have rest:(A7 (n+i) (s::l)=A7 (n+i+1) l/\A7 i (s::l)=A7 (i+1) l)\/(A7 (n+i) (s::l)=(n+i)::A7 (n+i+1) l/\A7 i (s::l)=i::A7 (i+1) l):=by
   cases s with
   |sl c own=>cases own with|true=>exact .inr ⟨rfl,rfl⟩|false=>exact .inl ⟨rfl,rfl⟩
   |_=>exact .inl ⟨rfl,rfl⟩
  rcases rest with ⟨e1,e2⟩|⟨e1,e2⟩
  ·rw[e1,e2];exact ih
  ·rw[e1,e2];simp only[List.mem_cons];constructor
   ·grind
   ·grind
theorem Jz{m:Mp}{a:Act}{as_:List Act}{s:FS}{w:World}(hr:Rel cx m a as_ s w):(∀b i,(vx cx m s w).S b i->b<w.heap.size)/\GlR (v0 cx.el (vx cx m s w).S w) cx.gl:=by
 refine⟨λb i hi =>?_,hr.glb⟩;rcases hi with h|h
 ·have:=(hr.away b i 0 h).1;have:=hr.chg.size;omega
 ·exact(hr.own b i h).1
theorem Rel.raise{m:Mp}{a:Act}{as_:List Act}{st:St}{w:World}{nb nt:Nat}(hb:st.nb<=nb)(ht:st.nt<=nt)(hr:Rel cx m a as_ (fs st) w):Rel cx m a as_ (fs { st with nb:=nb,nt:=nt }) w:=by have nx:Nx (vx cx m (fs st) w) (vx cx m (fs { st with nb:=nb,nt:=nt }) w):=⟨Chg.refl _ _,λ_ _ h =>.inl h,rfl,λ_ _=>rfl,hb,ht,λt _ ha=>⟨ha,rfl,λ_ _ _=>rfl⟩⟩;refine⟨hr.chg,hr.env.later nx,hr.frs.later nx hr.lb hr.lt,Nat.le_trans hr.lb hb,Nat.le_trans hr.lt ht,λb k hk =>?_,λt h=>Zx1 (hr.als t h) ht,hr.inj,hr.injt,hr.injbt,hr.own,hr.away,hr.glb.later nx⟩;obtain⟨h1,h2⟩:=hr.blks b k hk;exact⟨Zx1 h1 hb,h2.later nx rfl⟩
theorem Aqz:∀{l:List Sg}{i:Nat},l.all A3z=true->A7 i l=[]
 |[],_,_=>rfl
 |a::l,i,h=>by simp only[Zv1,Zb1] at h;have ih:=Aqz (l:=l) (i:=i+1) h.2;cases a<;>simp[A3z] at h<;>simpa only[A7] using ih
theorem Aqt{x x':Vx}:∀{l:List Sg}{y:HV l}{vs:List Value}{i j:Nat},l.all A3z=true->Reps x (Bw i l y) vs->Reps x' (Bw j l y) vs
 |[],_,_,_,_,_,h=>by simpa[Bw,Reps] using h
 |[a],y,vs,i,j,hs,h=>by simp at hs;simp only[Bw] at h ⊢;obtain⟨u,us,h1,h2,h3⟩:=h;refine⟨u,us,h1,?_,h3⟩;cases a<;>simp[A3z] at hs<;>simpa only[Cl,Rep] using h2
 |a::b::l,(y,z),vs,i,j,hs,h=>by simp only[Zv1,Zb1] at hs;simp[Bw] at h ⊢;obtain⟨u,us,h1,h2,h3⟩:=h;refine⟨u,us,h1,?_,Aqt (l:=b::l) (by simp only[Zv1,Zb1];exact hs.2) h3⟩;cases a<;>simp[A3z] at hs<;>simpa only[Cl,Rep] using h2
theorem Bed{g:Nat}{sa sr:List Sg}{F:HV sa->Option (HV sr)}(h:FnOk cx.P cx.el cx.gl g sa sr F)(hsa:Cc (A7 0 sa) []=true){args:List D}{st:St}{K:List D->St->Option R}{r:R}(hc:Ku sa sr F args st K=some r):H4 cx g args st K r:=by
 unfold Ku at hc;refine⟨h.enters,λm a as_ w vs hr0 hargs0 =>?_⟩;obtain⟨args,bl',hc,hr,nx0,hargs⟩:=Agm hr0 hargs0 hc;cases hsc:sr.all A3z with
 |true =>
  rw[hsc] at hc;simp only at hc;split at hc
  ·rename_i x hx;cases hF:F x with
   |none=>rw[hF] at hc;cases hc
   |some r0 =>rw[hF,Zc1] at hc;have hsa:=Gl hsa;obtain⟨hM,hgl⟩:=Jz hr;have hin:Reps (v0 cx.el (vx cx m (fs { st with bl:=bl' }) w).S w) (Bw 0 sa x) vs:=F3 (X:=vx cx m (fs { st with bl:=bl' }) w) (X':=v0 cx.el (vx cx m (fs { st with bl:=bl' }) w).S w) (λ_ _ h=>h) rfl rfl 0 hx (λt ht=>ht) hargs (λp hp=>by rw[hsa] at hp;cases hp);refine(h.run x r0 hF w _ vs hM hgl hin).mono ?_;rintro en w' ⟨v,mc,rfl,hch,_,_,hrep⟩;obtain⟨us,rfl,hreps⟩:=Ag2 hrep;rw[Aqz hsc,Zf2] at hc;exact⟨_,rfl,_,_,m,hc,⟨rfl,rfl,rfl,rfl,rfl⟩,(hr0.quiet hch).raise (Zn1 _) (Nat.le_add_right _ _),G3 (Aqt hsc hreps)⟩
  ·cases hc
 |false =>
 rw[hsc] at hc;simp only at hc;obtain⟨st1,h1⟩:∃s:St,s={ st with bl:=bl' }:=⟨_,rfl⟩;replace hc:(match L0 sa st1.tk args with|some x=>(F x).bind λr=>K (Bw st1.nt sr r) { st1 with tk:=A7 st1.nt sr++st1.tk,nt:=st1.nt+sr.length }|none=>none)=some r:=by rw[h1];exact hc
 have hsm:Acm st st1:=by rw[h1];exact⟨rfl,rfl,rfl,rfl,rfl⟩
 rw[<-h1] at hr hargs;clear nx0 hr0 hargs0 h1;obtain⟨sm1,sm2,sm3,sm4,sm5⟩:=hsm;split at hc
 ·rename_i x hx;cases hF:F x with
  |none=>rw[hF] at hc;cases hc
  |some r0 =>
   rw[hF,Zc1] at hc;obtain⟨hM,hgl⟩:=Jz hr;have hin:Reps (v0 cx.el (vx cx m (fs st1) w).S w) (Bw 0 sa x) vs:=F3 (X:=vx cx m (fs st1) w) (X':=v0 cx.el (vx cx m (fs st1) w).S w) (λ_ _ h=>h) rfl rfl 0 hx (λt ht=>ht) hargs (λp hp=>by rw[(Gl hsa)] at hp;cases hp);refine(h.run x r0 hF w _ vs hM hgl hin).mono ?_;rintro en w' ⟨v,mc,rfl,hch,hfresh,hinj,hrep⟩;refine⟨v,rfl,Bw st1.nt sr r0,{ st1 with tk:=A7 st1.nt sr++st1.tk,nt:=st1.nt+sr.length },?_⟩;have hb:∀k,k<w.heap.size->w'.heap[k]? = w.heap[k]? :=λk hk=>hch.block k hk (λ_ h=>h);let st':St:={ st1 with tk:=A7 st1.nt sr++st1.tk,nt:=st1.nt+sr.length };let m':Mp:=⟨m.bl,λt=>if t<st1.nt then m.tk t else mc.tk (t-st1.nt)⟩;have htok:∀t,(fs st').al t->((fs st1).al t/\t<st1.nt/\m'.tk t=m.tk t)\/∃q,q∈A7 0 sr/\t=st1.nt+q/\m'.tk t=mc.tk q:=λt ht=>by
    have ht:t∈A7 st1.nt sr++st1.tk:=ht;simp at ht;rcases ht with ht|ht
    ·have:=(Alx sr st1.nt 0 t).1 (by simpa using ht);obtain⟨q,h1,h2⟩:=this;refine .inr ⟨q,h1,h2,?_⟩;simp only[m',h2];rw[if_neg (by omega),show st1.nt+q-st1.nt=q by omega]
    ·have hlt:t<st1.nt:=hr.als t ht;exact .inl ⟨ht,hlt,by simp[m',hlt]⟩
   have fp:∀b i,Dv m' (fs st') b i->Dv m (fs st1) b i\/∃q o,q∈A7 0 sr/\mc.tk q=some (b,o)/\o<=i:=by
    rintro b i (⟨q,hq,rfl⟩|⟨t,o,h1,h2,h3⟩)
    ·exact .inl (.inl ⟨q,hq,rfl⟩)
    ·rcases htok t h1 with ⟨q1,_,q3⟩|⟨q,q1,_,q3⟩
     ·rw[q3] at h2;exact .inl (.inr ⟨t,o,q1,h2,h3⟩)
     ·rw[q3] at h2;exact .inr ⟨q,o,q1,h2,h3⟩
   have nx:Nx (vx cx m (fs st1) w) (vx cx m' (fs st') w'):=by
    refine⟨hch.mono (λ_ _ h=>h.elim),?_,rfl,λ_ _=>rfl,Zn1 _,Nat.le_add_right _ _,λt ht ha =>?_⟩
    ·rintro b i (hM|hf)
     ·exact .inl (.inl hM)
     ·rcases fp b i hf with h|⟨q,o,h1,h2,_⟩
      ·exact .inl (.inr h)
      ·exact .inr (hfresh q b o h1 h2).1
    ·have ht:t<st1.nt:=ht;rcases htok t ha with ⟨q1,_,q3⟩|⟨q,_,q2,_⟩
     ·exact⟨q1,q3,λg o hg=>hb g (hr.own_t q1 hg)⟩
     ·omega
   refine⟨m',hc,⟨sm1,sm2,sm3,sm4,sm5⟩,hr.step (s':=fs st') rfl rfl rfl rfl rfl (hch.mono (λ_ _ h=>h.elim)) nx ?_ ?_ hr.inj ?_ ?_ ?_,?_⟩
   ·intro b k hk;obtain⟨h1,h2⟩:=hr.blks b k hk;exact⟨h1,h2.later nx (hb _ (hr.own_b (by rw[show(fs st1).bl b=some k from hk];simp)))⟩
   ·intro t ht;rcases htok t ht with ⟨_,q2,_⟩|⟨q,q1,q2,_⟩
    ·show t<st1.nt+sr.length;omega
    ·have:=(F8 _ _ _ q1).2;show t<st1.nt+sr.length;omega
   ·intro t t' g o o' h1 h2 h3 h4;rcases htok t h1 with ⟨q1,q2,q3⟩|⟨q,q1,q2,q3⟩<;>rcases htok t' h2 with ⟨p1,p2,p3⟩|⟨p,p1,p2,p3⟩
    ·rw[q3] at h3;rw[p3] at h4;exact hr.injt t t' g o o' q1 p1 h3 h4
    ·rw[q3] at h3;rw[p3] at h4
     have:=hr.own_t q1 h3;have:=(hfresh p g o' p1 h4).1;omega
    ·rw[q3] at h3;rw[p3] at h4
     have:=hr.own_t p1 h4;have:=(hfresh q g o q1 h3).1;omega
    ·rw[q3] at h3;rw[p3] at h4
     rw[q2,p2,hinj q p g o o' q1 p1 h3 h4]
   ·intro b t g o h1 h2 h3;rcases htok t h2 with ⟨q1,_,q3⟩|⟨q,q1,_,q3⟩
    ·rw[q3] at h3;exact hr.injbt b t g o h1 q1 h3
    ·rw[q3] at h3;have:=(hfresh q g o q1 h3).1;have:=hr.own_b h1;show m.bl b≠g;omega
   ·intro b i hf;rcases fp b i hf with h|⟨q,o,h1,h2,_⟩
    ·exact⟨Zx1 (hr.own b i h).1 hch.size,.inl h⟩
    ·exact⟨(hfresh q b o h1 h2).2,.inr (hfresh q b o h1 h2).1⟩
   ·obtain⟨us,rfl,hreps⟩:=Ag2 hrep;refine G3 ?_;have:=Aiw (x:=vr cx.el (vx cx m (fs st1) w).S mc sr w') (x':=vx cx m' (fs st') w') (n:=st1.nt) (by
     rintro b i (h|h)
     ·exact .inl (.inl h)
     ·rcases fp b i h with h|⟨q,o,h1,h2,h3⟩
      ·exact .inl (.inr h)
      ·exact .inr ⟨q,o,h1,h2,h3⟩) rfl rfl 0 hreps (λp hp=>by
     have:=(F8 _ _ _ hp).2;refine⟨hp,?_,?_⟩
     ·show st1.nt+p<st1.nt+sr.length;omega
     ·show m'.tk (st1.nt+p)=mc.tk p;simp only[m'];rw[if_neg (by omega),show st1.nt+p-st1.nt=p by omega])
    rwa[Nat.add_zero] at this
 ·cases hc
theorem Bc0{pc:Px R}(hp:PxOk cx pc)(hcl:Ci cx pc)(hcq:CallQOk cx pc)(hm:cx.P.follows .mixedOrders=true){g:Nat}{fn:Func}{c:Code}(hf:cx.P.funcs[g]? = some fn)(hb:fn.body=some c)(hname:(fn.name == "runtime.NumGoroutine")=false)(hcode:Bm fn.ntmps c=true)(hl:∀b,b∈A4 c->Bg cx pc b){args:List D}(hargs:Nat.ble args.length fn.ntmps=true){st:St}{K:List D->St->Option R}{r:R}(hc:Asi pc fn args st K=some r):H4 cx g args st K r:=by
 refine⟨Sx.enters_of hf (by rw[hb];rfl) hname,λm a as_ w vs hr hreps =>?_⟩;unfold Asi at hc;rw[hb] at hc;simp only at hc;have hlen:vs.length<=fn.ntmps:=by rw[hreps.len];simpa using hargs
 have hget:∀(ds:List D) (us:List Value) (i k:Nat) (d:D),Reps (vx cx m (fs st) w) ds us->get (Dm i ds) k=some d->∃v,i<=k/\us[k-i]? = some v/\Rep (vx cx m (fs st) w) d v:=by
  intro ds;induction ds with
  |nil=>intro us i k d _ h;simp[Dm,get] at h
  |cons e ds ih =>
   intro us i k d hr h;simp[Reps] at hr;obtain⟨u,us,rfl,h1,h2⟩:=hr;simp[Dm] at h;rw[Bd] at h;by_cases hk:k=i
   ·subst hk;simp at h;subst h;exact⟨u,Zn1 _,by simp,h1⟩
   ·rw[if_neg hk] at h;obtain⟨v,h3,h4,h5⟩:=ih us (i+1) k d h2 h;refine⟨v,by omega,?_,h5⟩;rw[show k-i=(k-(i+1))+1 by omega];simpa using h4
 have hrel:Rel cx m { tmps:=vs.toArray++Array.replicate (fn.ntmps-vs.toArray.size) undef,defers:=[] } (a::as_) (fs { st with n:=fn.ntmps,env:=Dm 0 args,lb:=st.nb,lt:=st.nt,fr:=⟨st.n,st.env,st.lb,st.lt,st.df⟩::st.fr,df:=[] }) w:=by
  refine⟨hr.chg,⟨rfl,?_,λk d hk =>?_⟩,⟨a,as_,rfl,hr.lb,hr.lt,hr.env,hr.frs⟩,Zn1 _,Zn1 _,hr.blks,hr.als,hr.inj,hr.injt,hr.injbt,hr.own,hr.away,hr.glb⟩
  ·show _=fn.ntmps;simp;omega
  ·obtain⟨v,_,h2,h3⟩:=hget _ _ 0 k d hreps hk;rw[Nat.sub_zero] at h2;refine⟨v,?_,h3⟩;have hlt:k<vs.length:=(Zi2.1 h2).1;simp only[Array.getElem?_append,List.size_toArray,hlt];simpa using h2
 refine calls_of_wp hf hb (D1 hp hcl hcq hm c _ _ r hcode hl hc _ m _ (a::as_) w hrel ?_);intro e st' m' a' w' hk hsame hrel';cases e
 case exit=>cases hk
 all_goals
  simp only at hk;have hfr:st'.fr=⟨st.n,st.env,st.lb,st.lt,st.df⟩::st.fr:=hsame.2;split at hk
  ·rename_i rs f fr hdf hrs hfr';rw[hfr] at hfr';simp at hfr';obtain⟨rfl,rfl⟩:=hfr';obtain⟨us,hrun,hres⟩:=Du hp hrel' hrs;have hfrs:=hrel'.frs;have e1:(fs st').fr=⟨st.n,st.env,st.lb,st.lt,st.df⟩::st.fr:=hfr;rw[e1] at hfrs;obtain⟨a0,r0,he0,h1,h2,h3,h4⟩:=hfrs;simp at he0;obtain⟨rfl,rfl⟩:=he0;have hx:Nx { vx cx m' (fs st') w' with nb:=(fs st').lb,nt:=(fs st').lt } (vx cx m' (fs st') w'):=⟨Chg.refl _ _,λ_ _ h =>.inl h,rfl,λ_ _=>rfl,hrel'.lb,hrel'.lt,λt _ ha=>⟨ha,rfl,λ_ _ _=>rfl⟩⟩;refine⟨hrel'.noDf hdf,Sx.resv us,?_,Sx.resv us,rfl,rs,_,m',hk,⟨rfl,rfl,rfl,rfl,rfl⟩,⟨hrel'.chg,h3.later hx,h4,Nat.le_trans h1 hrel'.lb,Nat.le_trans h2 hrel'.lt,hrel'.blks,hrel'.als,hrel'.inj,hrel'.injt,hrel'.injbt,hrel'.own,hrel'.away,hrel'.glb⟩,G3 hres⟩;obtain⟨rl⟩:∃rl,fn.results=List.toArray rl:=⟨fn.results.toList,by simp⟩;rename_i hrl;rw[Sx.results_eq,hrl];rw[hrl] at hrun;simp only[List.mapM_toArray,Sem.run_bind,map_eq_pure_bind,hrun];congr 1;match us with|[]=>rfl|[v]=>rfl|_::_::_=>simp[Sx.resv]
  ·cases hk
theorem A3p{x x':Vx}(hS:∀b j,x'.S b j->x.S b j)(hw:x'.w=x.w):∀{l:List Sg}{y:HV l}{vs:List Value}(i:Nat),Reps x (Bw i l y) vs->Reps x' ((Bw i l y).map A3) vs:=by
 have hrf:∀{d:D}{v:Value},RF x.S x.w d v->RF x'.S x'.w d v:=λh=>by rw[hw];exact h.later (Chg.refl _ _) (λk j hk =>.inl (hS k j hk))
 have one:∀{i:Nat}{s:Sg}{y:den s}{v:Value},Rep x (Cl i s y) v->Rep x' (A3 (Cl i s y)) v:=by intro i s y v h;cases s with|int k=>simpa[Cl,A3,Rep] using h|bool=>simpa[Cl,A3,Rep] using h|str=>simpa[Cl,A3,Rep] using h|sl c own =>cases own<;>simp[Cl,Rep] at h ⊢ <;> exact⟨hrf h.1,trivial⟩|nl c =>simp[Cl,Rep] at h;simp[Cl,A3,Bmq,Rep];exact⟨hrf h.1,h.2⟩|sv c =>simp[Cl,Rep] at h ⊢;obtain⟨h1,vs,h2,h3,h4⟩:=h;exact⟨h1,vs,h2,h3,λj d hd=>by obtain⟨u,hu,hf⟩:=h4 j d hd;exact⟨u,hu,hrf hf⟩⟩|rw c k =>simp[Cl,Rep] at h ⊢;obtain⟨h1,vs,h2,h3,h4⟩:=h;exact⟨h1,vs,h2,h3,λq z j d hz hd=>by obtain⟨u,hu,hf⟩:=h4 q z j d hz hd;exact⟨u,hu,hrf hf⟩⟩|dn c =>simp[Cl,Rep] at h ⊢;obtain⟨h1,vs,h2,h3,h4⟩:=h;exact⟨h1,vs,h2,h3,λq z j d hz hd=>by obtain⟨u,hu,hf⟩:=h4 q z j d hz hd;exact⟨u,hu,hrf hf⟩⟩
 intro l;induction l with
 |nil=>intro y vs i h;simpa[Bw,Reps] using h
 |cons a l ih =>intro y vs i h;cases l with|nil =>simp only[Bw,Reps] at h ⊢;obtain⟨u,us,h1,h2,h3⟩:=h;exact⟨u,us,h1,one h2,h3⟩|cons b l =>obtain⟨y,z⟩:=y;simp[Bw,Reps] at h ⊢;obtain⟨u,us,h1,h2,h3⟩:=h;exact⟨u,us,h1,one h2,ih (i+1) h3⟩
theorem A19{g:Nat}{sa sr:List Sg}{F:HV sa->Option (HV sr)}(h:FnOk cx.P cx.el cx.gl g sa sr F)(hsa:Cc (A7 0 sa) []=true){args:List D}{K:List D->Option R}{r:R}(hc:Iz sa sr F args K=some r):∃rs,K rs=some r/\Sx.Enters cx.P g/\∀(s:FS) (m:Mp) (a:Act) (as_:List Act) (w:World) (vs:List Value),Rel cx m a as_ s w->Reps (vx cx m s w) args vs->Calls cx.P g vs.toArray w λen w'=>∃v,en = .returned v/\Rel cx m a as_ s w'/\Rep (vx cx m s w') (Gw (rs.map A3)) v:=by
 unfold Iz at hc;split at hc
 ·rename_i x hx;cases hF:F x with
  |none=>rw[hF] at hc;cases hc
  |some r0 =>rw[hF,Zc1] at hc;refine⟨_,hc,h.enters,λs m a as_ w vs hr hargs =>?_⟩;obtain⟨hM,hgl⟩:=Jz hr;have hin:Reps (v0 cx.el (vx cx m s w).S w) (Bw 0 sa x) vs:=F3 (X:=vx cx m s w) (X':=v0 cx.el (vx cx m s w).S w) (λ_ _ h=>h) rfl rfl 0 hx (λt ht=>by cases ht) hargs (λp hp=>by rw[(Gl hsa)] at hp;cases hp);refine(h.run x r0 hF w _ vs hM hgl hin).mono ?_;rintro en w' ⟨v,mc,rfl,hch,_,_,hrep⟩;refine⟨v,rfl,hr.quiet hch,?_⟩;obtain⟨us,rfl,hreps⟩:=Ag2 hrep;exact G3 (A3p (x:=vr cx.el (vx cx m s w).S mc sr w') (x':=vx cx m s w') (λb i h =>.inl h) rfl 0 hreps)
 ·cases hc
theorem Bpj{S:Fp}{w:World}{c:Ck}{y:El c}{j:Nat}{d:D}{u:Value}(hf:Bi9 c=true)(hd:(enc c y)[j]? = some d)(h:FV w d u):RF S w d u:=λw' _=>by
 have:(∃k n,d = .int k n)\/(∃b,d = .bool b)\/∃l,d = .str l:=by
  have hm:=List.mem_of_getElem? hd;cases c<;>simp[Bi9] at hf<;>simp[enc,or_false] at hm<;>rcases hm with rfl|hm<;>first
   |exact .inl ⟨_,_,rfl⟩
   |exact .inr (.inl ⟨_,rfl⟩)
   |exact .inr (.inr ⟨_,rfl⟩)
   |skip
  all_goals rcases hm with rfl|hm<;>first
   |exact .inl ⟨_,_,rfl⟩
   |exact .inr (.inl ⟨_,rfl⟩)
   |exact .inr (.inr ⟨_,rfl⟩)
   |skip
  all_goals rcases hm with rfl|hm<;>first
   |exact .inl ⟨_,_,rfl⟩
   |exact .inr (.inl ⟨_,rfl⟩)
   |exact .inr (.inr ⟨_,rfl⟩)
   |skip
  all_goals rcases hm with rfl|rfl<;>first
   |exact .inl ⟨_,_,rfl⟩
   |exact .inr (.inl ⟨_,rfl⟩)
   |exact .inr (.inr ⟨_,rfl⟩)
 rcases this with ⟨k,n,rfl⟩|⟨b,rfl⟩|⟨l,rfl⟩
 ·cases h with|int k n hk=>exact .int k n hk
 ·cases h with|bool b=>exact .bool b
 ·cases h with|str l hl=>exact .str l hl
theorem A1i(st:St)(k:Blk):fs (G7 st k)={ fs st with bl:=λb=>if b=(fs st).nb then some k else(fs st).bl b,nb:=(fs st).nb+1 }:=by refine FS.eq rfl rfl rfl rfl rfl ?_ rfl rfl rfl;funext b;exact Aw st.bl st.nb b k
theorem Ayt{g:Nat}{sa:List Sg}{c:Ck}{F:HV sa->Option (HV [.sl c true])}(h:FnOk cx.P cx.el cx.gl g sa [.sl c true] F)(hsa:Cc (A7 0 sa) []=true)(hfl:Bi9 c=true){args:List D}{st:St}{K:List D->St->Option R}{r:R}(hc:K5 sa c F args st K=some r):H4 cx g args st K r:=by
 unfold K5 at hc;refine⟨h.enters,λm a as_ w vs hr0 hargs0 =>?_⟩;obtain⟨args,bl',hc,hr,_,hargs⟩:=Agm hr0 hargs0 hc;split at hc
 ·rename_i x hx;cases hF:F x with
  |none=>rw[hF] at hc;cases hc
  |some r0 =>
   rw[hF,Zc1] at hc;obtain⟨hM,hgl⟩:=Jz hr;have hin:Reps (v0 cx.el (vx cx m (fs { st with bl:=bl' }) w).S w) (Bw 0 sa x) vs:=F3 (X:=vx cx m (fs { st with bl:=bl' }) w) (X':=v0 cx.el (vx cx m (fs { st with bl:=bl' }) w).S w) (λ_ _ h=>h) rfl rfl 0 hx (λt ht=>ht) hargs (λp hp=>by rw[(Gl hsa)] at hp;cases hp);refine(h.run x r0 hF w _ vs hM hgl hin).mono ?_;rintro en w' ⟨v,mc,rfl,hch,hfresh,_,hrep⟩;refine⟨v,rfl,?_⟩;simp[Gw,Bw,Cl,Rep] at hrep;obtain⟨hrf,hnt,htok⟩:=hrep;have htok:=htok (show(0:Nat)∈A7 0 [.sl c true] by simp[A7]);have hq:=hr.quiet hch;by_cases he:r0=([]:List (El c))
   ·subst he;refine⟨_,_,m,hc,⟨rfl,rfl,rfl,rfl,rfl⟩,hq.raise (Nat.le_succ _) (Nat.le_succ _),?_⟩;obtain⟨ad,cap,rfl,_⟩:=hrf.here.slice;simp[Gw,Rep];exact⟨λ_ _ =>.nil _ _ _ _ trivial,trivial⟩
   ·have hie:List.isEmpty (α:=El c) r0=false:=by cases r0 with|nil=>exact absurd rfl he|cons _ _=>rfl
    rw[hie] at hc;rcases htok with ⟨_,_,e⟩|⟨g2,cap,cur,rfl,hm,hh,hsz,hle,hcm⟩
    ·exact absurd e he
    ·obtain⟨hg1,hg2⟩:=hfresh 0 g2 _ (by simp[A7]) hm;have hh:w'.heap[g2]? = some (.cells cur (cx.el c) (0,0)):=hh;have hr2:Rel cx m a as_ (fs { st with bl:=bl',nt:=st.nt+1 }) w:=hr.raise (Zn1 _) (Nat.le_succ _);have hcl:cur.toList.length=cap*csz c:=by simpa using hsz
     have hlm:List.length (α:=El c) r0<=maxLen:=Nat.le_trans hle hcm;obtain⟨m',h1,h2⟩:=hr2.newAt (k :=.dyn c r0) (g:=g2) hch hg1 hg2 (λx' _ hw=>by
      refine⟨hlm,cur.toList,cx.el c,by rw[hw,Array.toArray_toList];exact hh,hcl.symm▸Nat.mul_le_mul_right _ hle,λi y j d hy hd =>?_⟩;obtain⟨ad,cap',hva,hrest⟩:=hrf.here.slice;simp at hva;rcases hrest with e|⟨b,o,e,_,hat⟩
      ·exact absurd e he
      ·rw[e] at hva;simp[ and_true] at hva;obtain⟨⟨rfl,rfl⟩,_⟩:=hva;obtain⟨u,hu,hf⟩:=hat i y hy j d hd;refine⟨u,?_,Bpj hfl hd (by rw[hw];exact hf)⟩;rw[Nat.zero_add] at hu;have hu:w'.cell? ⟨g2,i*csz c+j,none⟩=some u:=hu;simp[World.cell?,hh] at hu;simpa using hu)
     rw[<-A1i] at h1 h2;refine⟨_,_,m',hc,⟨rfl,rfl,rfl,rfl,rfl⟩,h1,?_⟩;simp only[Rep] at h2;simp only[Gw,Rep];obtain⟨k1,k2⟩:=h2;simp[ and_true] at k2;refine⟨k1,Int.le_refl _,Int.natCast_nonneg _,by simpa using hlm,some ⟨g2,0,none⟩,cap,by simp,.inr (by simp only[vx];rw[show m'.bl st.nb=g2 from k2.symm];simp),by simpa using hle,hcm,cur,(0,0),by simp[vx];rw[show m'.bl st.nb=g2 from k2.symm];exact hh,by simpa using hsz⟩
 ·cases hc
end
def tbl{α:Type _}:List (Nat×α)->Nat->Option α
 |[],_=>none
 |(k,v)::e,n=>match Nat.beq k n with|true=>some v|false=>tbl e n
theorem Df{α:Type _}:∀{l:List (Nat×α)}{n:Nat}{v : α},tbl l n=some v->(n,v)∈l
 |[],n,v,h=>by simp[tbl] at h
 |(k,u)::l,n,v,h=>by
  simp[tbl] at h;split at h
  ·simp_all
  ·exact Zu1 _ (Df h)
def Ag6(l:List (Nat×Ty))(t:Nat):Ty:=match tbl l t with|some ty=>ty|none =>.no
theorem Ajh{P:Program}{el:Ck->TypeId}{l:List (Nat×Ty)}(h:(l.all λp=>B8 P el (Ag6 l) p.1)=true)(t:Nat):B8 P el (Ag6 l) t=true:=by cases ht:tbl l t with|none=>unfold B8;simp[Ag6,ht]|some ty=>exact Zg2.1 h _ (Df ht)
abbrev Ev(R:Type):=List D->St->(List D->St->Option R)->Option R
abbrev Ed(R:Type):=List D->(List D->Option R)->Option R
abbrev Gi(R:Type):=List D->St->(D->List Nat->St->Option R)->Option R
def A7e{R:Type}(l:List (Nat×Ev R))(g:Nat):Ev R:=match tbl l g with|some f=>f|none=>λ_ _ _=>none
def At6{R:Type}(l:List (Nat×Ed R))(g:Nat):Ed R:=match tbl l g with|some f=>f|none=>λ_ _=>none
section
variable {R:Type}{cx:Cx}
def Gt(cx:Cx)(g:Nat)(f:Ev R):Prop:=∀args st K r,f args st K=some r->H4 cx g args st K r
def Ma(cx:Cx)(g:Nat)(f:Ed R):Prop:=∀(args:List D) (K:List D->Option R) (r:R),f args K=some r->∃rs,K rs=some r/\Sx.Enters cx.P g/\∀(s:FS) (m:Mp) (a:Act) (as_:List Act) (w:World) (vs:List Value),Rel cx m a as_ s w->Reps (vx cx m s w) args vs->Calls cx.P g vs.toArray w λen w'=>∃v,en = .returned v/\Rel cx m a as_ s w'/\Rep (vx cx m s w') (Gw (rs.map A3)) v
theorem Be7{px:Px R}{l:List (Nat×Ev R)}(hpx:px.call=A7e l)(h:∀g f,(g,f)∈l->Gt cx g f):Ci cx px:=by intro g args st K r hk;rw[hpx] at hk;unfold A7e at hk;cases hf:tbl l g with|none=>rw[hf] at hk;cases hk|some f=>rw[hf] at hk;exact h g f (Df hf) args st K r hk
theorem Bcr{px:Px R}{l:List (Nat×Ed R)}{lw:List (Nat×Gi R)}(hpx:px.callQ=At6 l)(hpw:px.callW=tbl lw)(h:∀g f,(g,f)∈l->Ma cx g f)(hw:∀g f,(g,f)∈lw->Fb cx g f):CallQOk cx px:=by
 refine⟨λg args K r hk =>?_,λg F hF =>?_⟩
 ·rw[hpx] at hk;unfold At6 at hk;cases hf:tbl l g with|none=>rw[hf] at hk;cases hk|some f=>rw[hf] at hk;exact h g f (Df hf) args K r hk
 ·rw[hpw] at hF;exact hw g F (Df hF)
theorem Ab:∀g f,(g,f)∈([]:List (Nat×Gi R))->Fb cx g f:=λ_ _ h=>by cases h
theorem Ap4{g:Nat}{f:Gi R}{l:List (Nat×Gi R)}(h:Fb cx g f)(hl:∀g f,(g,f)∈l->Fb cx g f):∀g' f',(g',f')∈(g,f)::l->Fb cx g' f':=by grind
theorem Bwk{g:Nat}{sa sr:List Sg}{F:HV sa->Option (HV sr)}(h:FnOk cx.P cx.el cx.gl g sa sr F)(hsa:Cc (A7 0 sa) []=true):Gt (R:=R) cx g (Ku sa sr F):=λ_ _ _ _ hc=>Bed h hsa hc
theorem Brl{g:Nat}{sa:List Sg}{c:Ck}{F:HV sa->Option (HV [.sl c true])}(h:FnOk cx.P cx.el cx.gl g sa [.sl c true] F)(hsa:Cc (A7 0 sa) []=true)(hfl:Bi9 c=true):Gt (R:=R) cx g (K5 sa c F):=λ_ _ _ _ hc=>Ayt h hsa hfl hc
theorem Bux{g:Nat}{sa sr:List Sg}{F:HV sa->Option (HV sr)}(h:FnOk cx.P cx.el cx.gl g sa sr F)(hsa:Cc (A7 0 sa) []=true):Ma (R:=R) cx g (Iz sa sr F):=λ_ _ _ hc=>A19 h hsa hc
theorem Ae:∀g f,(g,f)∈([]:List (Nat×Ev R))->Gt cx g f:=λ_ _ h=>by cases h
theorem Ao{g:Nat}{f:Ev R}{l:List (Nat×Ev R)}(h:Gt cx g f)(hl:∀g f,(g,f)∈l->Gt cx g f):∀g' f',(g',f')∈(g,f)::l->Gt cx g' f':=by grind
theorem Aa:∀g f,(g,f)∈([]:List (Nat×Ed R))->Ma cx g f:=λ_ _ h=>by cases h
theorem Bcv{g:Nat}{f:Ed R}{l:List (Nat×Ed R)}(h:Ma cx g f)(hl:∀g f,(g,f)∈l->Ma cx g f):∀g' f',(g',f')∈(g,f)::l->Ma cx g' f':=by grind
end
theorem FnOk.calls{P:Program}{el:Ck->TypeId}{gl:Nat->Option Gv}{f:FuncId}{sa:List Sg}{F:HV sa->Option Bool}(h:FnOk P el gl f sa [.bool] F){x:HV sa}{r:Bool}(hF:F x=some r){w:World}{vs:List Value}(hgl:GlR (v0 el B9 w) gl)(hr:Reps (v0 el B9 w) (Bw 0 sa x) vs):Calls P f vs.toArray w λen w'=>en = .returned (.bool r)/\Below w.heap.size w w':=by
 refine(h.run x r hF w B9 vs (λ_ _ h=>h.elim) hgl hr).mono ?_;rintro en w' ⟨v,m,rfl,hch,_,_,hrep⟩;have:v = .bool r:=by simpa[Gw,Bw,Cl,Rep] using hrep
 subst this;exact⟨rfl,hch.below⟩
abbrev FT(sa sr:List Sg):=HV sa->Option (HV sr)
abbrev Ay2(R:Type):=St->(Ex->St->Option R)->Option R
def Bvj{R:Type}(l:List (Nat×Ay2 R))(b:Code):Ay2 R:=match tbl l (P9 b) with|some f=>f|none=>λ_ _=>none
def lpC(b:Code)(i:Nat):Code:=(A4 b).getD i .skip
def Kz(fn:Func):Nat:=match fn.body with|some c=>(A4 c).length|none=>0
def Qo(fn:Func):Bool:=match fn.body with|some c=>Bm fn.ntmps c|none=>false
theorem Ai{p:Nat->Prop}:∀i,i<0->p i:=λ_ h=>absurd h (Zm1 _)
theorem A6{p:Nat->Prop}{n:Nat}(h:∀i,i<n->p i)(hn:p n):∀i,i<n+1->p i:=λi hi=>by grind
theorem Ay3{l:List Code}{b:Code}(h:b∈l):∃i,i<l.length/\l.getD i .skip=b:=by obtain⟨i,hi,rfl⟩:=List.getElem_of_mem h;exact⟨i,hi,by simp[ hi]⟩
section
variable {R:Type}{px:Px R}{cx:Cx}
theorem Agz{fn:Func}{c:Code}{n:Nat}(hb:fn.body=some c)(hn:Kz fn=n)(h:∀i,i<n->Bg cx px (lp fn i)):∀b,b∈A4 c->Bg cx px b:=by intro b hm;obtain⟨i,hi,rfl⟩:=Ay3 hm;have:=h i (by rw[<-hn];unfold Kz;rw[hb];exact hi);unfold lp at this;rw[hb] at this;exact this
theorem Pj{b:Code}{n:Nat}(hn:(A4 b).length=n)(h:∀i,i<n->Bg cx px (lpC b i)):∀b',b'∈A4 b->Bg cx px b':=by intro b' hm;obtain⟨i,hi,rfl⟩:=Ay3 hm;exact h i (by rw[<-hn];exact hi)
def A1(nb nt:Nat)(pc:Px R)(fn:Func)(args:List D)(st:St)(K:List D->St->Option R):Option R:=match Nat.ble args.length fn.ntmps&&Nat.ble st.nb nb&&Nat.ble st.nt nt with
 |true=>Asi pc fn args { st with nb:=nb,nt:=nt } K
 |false=>none
theorem A3x{m:Mp}{st:St}{w:World}{nb nt:Nat}(hb:st.nb<=nb)(ht:st.nt<=nt){ds:List D}{vs:List Value}(h:Reps (vx cx m (fs st) w) ds vs):Reps (vx cx m (fs { st with nb:=nb,nt:=nt }) w) ds vs:=by have nx:Nx (vx cx m (fs st) w) (vx cx m (fs { st with nb:=nb,nt:=nt }) w):=⟨Chg.refl _ _,λ_ _ h =>.inl h,rfl,λ_ _=>rfl,hb,ht,λt _ ha=>⟨ha,rfl,λ_ _ _=>rfl⟩⟩;exact Reps.later nx _ _ h
theorem Bsx{nb nt:Nat}{pc:Px R}{g:Nat}{fn:Func}{c:Code}{n:Nat}(hp:PxOk cx pc)(hcl:Ci cx pc)(hcq:CallQOk cx pc)(hm:cx.P.follows .mixedOrders=true)(hf:cx.P.funcs[g]? = some fn)(hb:fn.body=some c)(hname:(fn.name == "runtime.NumGoroutine")=false)(hcode:Qo fn=true)(hn:Kz fn=n)(hl:∀i,i<n->Bg cx pc (lp fn i)):Gt cx g (A1 nb nt pc fn):=by
 intro args st K r hc;unfold A1 at hc;split at hc
 ·rename_i hargs;simp only[Zb1] at hargs;have h1:st.nb<=nb:=Nat.le_of_ble_eq_true hargs.1.2;have h2:st.nt<=nt:=Nat.le_of_ble_eq_true hargs.2;obtain⟨q1,q2⟩:=Bc0 hp hcl hcq hm hf hb hname (by unfold Qo at hcode;rw[hb] at hcode;exact hcode) (Agz hb hn hl) hargs.1.1 hc;refine⟨q1,λm a as_ w vs hr hreps =>?_⟩;exact(q2 m a as_ w vs (hr.raise h1 h2) (A3x h1 h2 hreps)).mono λen w' ⟨v,e1,rs,st',m',e2,e3,e4,e5⟩=>⟨v,e1,rs,st',m',e2,e3,e4,e5⟩
 ·cases hc
end
theorem Bhi{P:Program}{el:Ck->TypeId}{gl:Nat->Option Gv}{f:FuncId}{fn:Func}{c:Code}{sa sr:List Sg}{px:Px (HV sr)}{F:FT sa sr}{n:Nat}(hf:P.funcs[f]? = some fn)(hb:fn.body=some c)(hname:(fn.name == "runtime.NumGoroutine")=false)(hm:P.follows .mixedOrders=true)(hchk:(Qo fn&&Nat.ble sa.length fn.ntmps&&Cc (A7 0 sa) [])=true)(hn:Kz fn=n)
  (hpx:∀cx:Cx,cx.P=P->cx.el=el->cx.gl=gl->cx.I=B9->PxOk cx px/\Ci cx px/\CallQOk cx px/\∀i,i<n->Bg cx px (lp fn i)) (hF:∀x,Zj px fn sa sr x some=F x):FnOk P el gl f sa sr F:=by
 refine Agb hf hb hname hm ?_ (λcx h1 h2 h3 hI =>?_) hF
 ·unfold Qo at hchk;rw[hb] at hchk;exact hchk
 ·obtain⟨q1,q2,q3,q4⟩:=hpx cx h1 h2 h3 hI;exact⟨q1,q2,q3,Agz hb hn q4⟩
section
variable {P:Program}{el:Ck->TypeId}{gl:Nat->Option Gv}{f:FuncId}{sa sr:List Sg}
theorem FnOk.none(he:Sx.Enters P f):FnOk P el gl f sa sr (λ_ =>.none):=⟨he,λ_ _ h=>by cases h⟩
theorem FnOk.rec'{body:FT sa sr->FT sa sr}(he:Sx.Enters P f)(h:∀rf,FnOk P el gl f sa sr rf->FnOk P el gl f sa sr (body rf)):∀n,FnOk P el gl f sa sr (Aj body n)
 |0=>FnOk.none he
 |n+1=>h _ (FnOk.rec' he h n)
end
end Go.Ax
