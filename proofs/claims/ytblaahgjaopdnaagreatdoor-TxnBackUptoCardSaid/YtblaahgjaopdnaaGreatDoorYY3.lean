/- Texts of the proof,one behind the other: AxR,AxS,AxT,AxU,AxQf,AxQg,AxQh,AxVa,AxV,AxW,AxX,AxY,AxZ,AxBd. -/
import Derived.Test.YtblaahgjaopdnaaGreatDoorYY2
import Derived.RangeFuncRecord
set_option linter.all false
namespace Go.Ax
open Go.RowKit
theorem Ax6{x:Vx}{c:Ck}{xs:List (El c)}{t:Tk}{v:Value}(h:Rep x (.sl c xs t) v):Rep x (Gu (.sl c xs t)) v:=by simp only[Gu,Rep] at h ⊢;refine⟨h.1,?_⟩;cases t with|id t=>trivial|_=>exact h.2
section
variable {R:Type}{px:Px R}{cx:Cx}
def sW(o:Oper)(t s:FS):FS:=if isW o then D3 t s else s
structure EffD (cx:Cx) (px:Px R) (o:Oper) (st st':St) (d:D) (ws:List Nat):Prop where
 same:Ati st st'
 still:isW o=false->fs st' = fs st
 mono:st.nb<=st'.nb
 keep:∀b,b∉ws->Ea (fs st) (fs st') b
 run:∀(s:FS) (m:Mp) (a:Act) (as_:List Act) (w:World),(∀t x,x∈o.op.operands->evF px s.env t x=evF px (get st.env) t x)->OkW o (fs st) s->Rel cx m a as_ s w->Yv cx.P a w o λv w'=>∃m',Rel cx m' a as_ (sW o (fs st') s) w'/\Rep (vx cx m' (sW o (fs st') s) w') d v
theorem W7{o:Oper}{st st':St}{d:D}{ws:List Nat}(hw:isW o=true)(hm:st.nb<=st'.nb)(hk:∀b,b∉ws->Ea (fs st) (fs st') b)(h:Eff cx px o st st' d):EffD cx px o st st' d ws :=⟨h.same,λe=>by(rw[hw] at e;cases e),hm,hk,λs m a as_ w hag hW hr=>by have:=h.run s m a as_ w hag (hW.1 hw) hr;simpa[sW,hw] using this⟩
theorem L8(st:St):∀b,b∉([]:List Nat)->Ea (fs st) (fs st) b:=λb _=>Ea.of_bl rfl b
theorem Btk{o:Oper}{st:St}{d:D}(hw:isW o=false)(h:A44 cx px o (get st.env) (blk st.bl) d):EffD cx px o st st d [] :=⟨⟨rfl,rfl,rfl,rfl,rfl⟩,λ_=>rfl,Zn1 _,L8 st,λs m a as_ w hag hW hr=>by obtain⟨v,h1,h2⟩:=h s m a as_ w hag hW.2 hr;exact .inl ⟨v,w,h1,m,by simpa[sW,hw] using hr,by simpa[sW,hw] using h2⟩⟩
theorem A0t{o:Oper}{st:St}{K:D->Option R}{r:R}(h:T6 px o st K=some r):isW o=false:=by
 unfold T6 at h;split at h<;>rename_i ho<;>first
  |(simp[isW,ho];done)
  |(cases h;done)
  |skip
 rename_i b xs ts;split at h
 ·rename_i ds hds;split at h
  ·rename_i d hd;simp[isW,ho];unfold Aaq at hd;split at hd<;>first|rfl|cases hd
  ·cases h
 ·cases h
theorem Bbp(hp:PxOk cx px)(hcq:CallQOk cx px){o:Oper}(hb:opB o=true){st:St}{K:D->List Nat->St->Option R}{r:R}(h:Bfx px o st K=some r):∃d ws st',K d ws st' = some r/\EffD cx px o st st' d ws:=by
 have quiet:(T6 px o st λd=>K d [] st)=some r->∃d ws st',K d ws st' = some r/\EffD cx px o st st' d ws:=λh=>by have hw:=A0t h;obtain⟨d,hk,hq⟩:=Acd hp (Arw hb) h;exact⟨d,_,st,hk,Btk hw hq⟩
 have newKeep:∀k,blk st.bl st.nb=none->∀b,b∉([]:List Nat)->Ea (fs st) (fs (Gp st k)) b:=λk hfr b _=>by
  have e:∀b,(fs (Gp st k)).bl b=if b=st.nb then some k else blk st.bl b:=λb=>Az st.bl st.nb b k
  refine⟨λq hb =>?_,λq hb hlt =>?_⟩
  ·have hb:blk st.bl b=some q:=hb;rw[e,if_neg (λh=>by rw[h,hfr] at hb;cases hb)];exact hb
  ·have hlt:b<st.nb:=hlt;rw[e,if_neg (by omega)] at hb;exact hb
 unfold Bfx at h;split at h
 ·rename_i t len ps ho;have hw:isW o=false:=by simp[isW,ho]
  simp[step,ho] at h;split at h
  ·rename_i c hty;split at h
   ·rename_i xs hxs;refine⟨_,_,_,h,⟨rfl,rfl,rfl,rfl,rfl⟩,λ_=>rfl,Zn1 _,L8 st,λs m a as_ w hag _ hr =>?_⟩;obtain⟨hxl,hlm,us,hrow,hrun⟩:=Ae4 hp ho hty hxs hag hr;simp[sW,hw,if_false];refine .inl ⟨_,_,hrun,m,hr.quiet (D8 w _).1,?_⟩;have:=Azj hr (D8 w (.cells us.toArray (cx.el c))).1 hrow ⟨Zn1 _,by rw[hxl];exact hlm⟩ (λj u hj=>by simp only[World.cell?,Ca];simpa using hj)
    rw[hxl] at this;simp only[Bpx,Rep] at this ⊢;exact⟨this.1,_,by rw[hxl]⟩
   ·cases h
  ·cases h
 ·rename_i q t x ho;have hw:isW o=false:=by simp[isW,ho]
  simp[step,ho] at h;split at h
  ·rename_i l hx hty;split at h
   ·rename_i hs;obtain⟨_,hk⟩:=A1 h;refine⟨_,_,_,hk,⟨rfl,rfl,rfl,rfl,rfl⟩,λ_=>rfl,Zn1 _,L8 st,λs m a as_ w hag _ hr =>?_⟩;obtain⟨v,w',h1,h2,h3⟩:=Ua hp ho hx hty (Fv hs) hag hr;simp[sW,hw,if_false];exact .inl ⟨v,w',h1,m,h2,h3⟩
   ·cases h
  ·obtain⟨d,hk,hq⟩:=Acd hp (Arw hb) h;refine⟨_,_,_,hk,⟨rfl,rfl,rfl,rfl,rfl⟩,λ_=>rfl,Zn1 _,L8 st,λs m a as_ w hag hW hr =>?_⟩;obtain⟨v,h1,h2⟩:=hq s m a as_ w hag (λhm=>by rw[ho] at hm;cases hm) hr;simp[sW,hw,if_false];refine .inl ⟨v,w,h1,m,hr,?_⟩;cases d<;>first|exact h2|exact Ax6 h2
 ·rename_i t ho;have hw:isW o=true:=by simp[isW,ho]
  split at h
  ·rename_i hfr;simp[step,ho] at h;split at h
   ·rename_i n c hty;exact⟨_,_,_,h,W7 hw (Nat.le_succ _) (newKeep _ hfr) (Ro hp ho (.inl ⟨n,c,hty,rfl⟩))⟩
   ·split at h
    ·rename_i z hz;refine⟨_,_,_,h,W7 hw (Nat.le_succ _) (newKeep _ hfr) (Ro hp ho (.inr ⟨z,λe =>?_,hz,rfl⟩))⟩;rw[e] at hz;cases hz
    ·cases h
  ·cases h
 ·rename_i t x ho;have hw:isW o=true:=by simp[isW,ho]
  split at h
  ·rename_i hfr;simp[step,ho] at h;split at h
   ·rename_i d hd;split at h
    ·rename_i hl;exact⟨_,_,_,h,W7 hw (Nat.le_succ _) (newKeep _ hfr) (A7h ho hd hl)⟩
    ·cases h
   ·cases h
  ·cases h
 ·rename_i t x y ho;have hw:isW o=true:=by simp[isW,ho]
  split at h
  ·rename_i hfr;simp[step,ho] at h;split at h
   ·rename_i c k n k' q hty hx hy;obtain⟨hc,hk⟩:=A1 h;simp[Zb1] at hc;have hu:=O4 hc.1;exact⟨_,_,_,hk,W7 hw (Nat.le_succ _) (newKeep _ hfr) (Ay1 hp ho hty hx hy ⟨hu.2.1,hu.2.2⟩ hc.2)⟩
   ·cases h
  ·cases h
 ·rename_i f xs ts ho;have hwf:∀{g:Nat}{caps:List D},ev px st 0 f=some (.fn g caps)->Af0 g=false->isW o=true:=λ{g caps} hf hq=>by cases f with|func f' =>simp[ev,Za1,D.fn.injEq] at hf;obtain⟨rfl,_⟩:=hf;simp[isW,ho,hq]|_=>simp[isW,ho]
  have hwb:∀{g:Nat}{fs:List D},ev px st 0 f=some (.bm g fs)->isW o=true:=λ{g fs} hf=>by cases f with|func f'=>simp[ev] at hf|_=>simp[isW,ho]
  have call:∀{g:Nat}{args:List D},(Af0 g=false->isW o=true)->A78 px g args st K=some r->(∀(s:FS) (m:Mp) (a:Act) (as_:List Act) (w:World),(∀t x,x∈o.op.operands->evF px s.env t x=evF px (get st.env) t x)->Rel cx m a as_ s w->∃vs,Reps (vx cx m s w) args vs/\(Sx.Enters cx.P g->(execOp a.eval o).run cx.P w = .ok (.enter g vs.toArray) w))->∃d ws st',K d ws st' = some r/\EffD cx px o st st' d ws:=by
   intro g args hwq h hargs;unfold A78 at h;split at h
   ·rename_i F hqf hF;have hw:=hwq hqf;obtain⟨d,ws,st',hk,hsame,hmono,hkeep,hent,hrun⟩:=hcq.w g F hF args st K r h;refine⟨d,ws,st',hk,hsame,λe=>(by rw[hw] at e;cases e),hmono,hkeep,λs m a as_ w hag hW hr =>?_⟩;obtain⟨vs,h1,h2⟩:=hargs s m a as_ w hag hr;have e1:sW o (fs st') s=D3 (fs st') s:=by simp[sW,hw]
    rw[e1];refine .inr ⟨g,_,w,h2 hent,(hrun s m a as_ w vs (hW.1 hw) hr h1).mono ?_⟩;rintro en w' ⟨v,k1,m',k2,k3⟩;exact⟨v,k1,m',k2,k3⟩
   ·obtain⟨rs,hk,hent,hrun⟩:=hcq.q g args _ r h;refine⟨_,_,_,hk,⟨rfl,rfl,rfl,rfl,rfl⟩,λ_=>rfl,Zn1 _,L8 st,λs m a as_ w hag hW hr =>?_⟩;obtain⟨vs,h1,h2⟩:=hargs s m a as_ w hag hr;have e1:sW o (fs st) s=s:=by cases hw:isW o with|true=>simp[sW,hw,if_true];exact Iw (hW.1 hw)|false=>simp[sW,hw]
    rw[e1];refine .inr ⟨g,_,w,h2 hent,(hrun s m a as_ w vs hr h1).mono ?_⟩;rintro en w' ⟨v,k1,k2,k3⟩;exact⟨v,k1,m,k2,k3⟩
  split at h
  ·rename_i g caps hf;split at h
   ·rename_i ds hds;refine call (hwf hf) h λs m a as_ w hag hr =>?_;rw[Au,<-hag _ f (by simp[ho,Op.operands,Call.operands])] at hf;obtain⟨fv,_,h2,h3⟩:=hr.env.ev hf;simp[Rep] at h3;obtain⟨cvs,rfl,hcaps⟩:=h3;obtain⟨vs,_,h5,h6⟩:=Ju hr.env hds (λu q hq=>by rw[Au];exact hag u q (by rw[ho];simp[Op.operands,Call.operands];right;simpa using hq));exact⟨_,h6.append hcaps,λhent=>Apm ho h2 h5 hent⟩
   ·cases h
  ·rename_i g fvs0 hf;split at h
   ·rename_i ds hds;refine call (λ_=>hwb hf) h λs m a as_ w hag hr =>?_;rw[Au,<-hag _ f (by simp[ho,Op.operands,Call.operands])] at hf;obtain⟨fv,_,h2,h3⟩:=hr.env.ev hf;simp[Rep] at h3;obtain⟨cvs,rfl,hcaps⟩:=h3;obtain⟨vs,_,h5,h6⟩:=Ju hr.env hds (λu q hq=>by rw[Au];exact hag u q (by rw[ho];simp[Op.operands,Call.operands];right;simpa using hq));exact⟨_,hcaps.append h6,λhent=>Ayk ho h2 h5 hent⟩
   ·cases h
  ·cases h
 ·rename_i x y t t' ho;have hw:isW o=true:=by simp[isW,ho]
  split at h
  ·rename_i b0 c0 p0 n0 hx0;simp[step,ho] at h;split at h
   ·rename_i c s d hty hx hy;rw[hx0] at hx;simp at hx;subst hx;unfold Bf5 at h;simp only at h;split at h
    ·rename_i c2 xs hbk;split at h
     ·rename_i ys hys hcc;simp only[Zb1,Zg1] at hcc;obtain⟨⟨e1,e2⟩,_⟩:=id hcc;subst e1;subst e2;obtain⟨hc,hk⟩:=A1 h;simp[Zb1,Zg1] at hc;obtain⟨tk',rfl⟩:=I4 hys;refine⟨_,_,_,hk,W7 hw (Zn1 _) (λb hb =>?_) (Aw2 hp ho hty hx0 hy hbk (Zl1 hcc.2) hc.1.1 hc.1.2 hc.2)⟩;have hne:b≠b0:=λe=>hb (by simp[e]);have e:∀k,blk (Ge st.bl b0 k) b=blk st.bl b:=λk=>by rw[Hn,if_neg hne]
      exact⟨λk hk=>(e _).trans hk,λk hk _=>(e _).symm.trans hk⟩
     ·cases h
    ·cases h
   ·cases h
  ·cases h
 ·rename_i hn1 hn2 hn3 hn3c hn3b hn4 hn5;unfold step at h;split at h
  ·rename_i t ho;exact absurd ho (hn3 t)
  ·rename_i t x y ho;exact absurd ho (hn3b t x y)
  ·rename_i t x ho;exact absurd ho (hn3c t x)
  ·rename_i t len ps ho;exact absurd ho (hn1 t len ps)
  ·rename_i q t x ho;exact absurd ho (hn2 q t x)
  ·rename_i x y t t' ho;have hw:isW o=true:=by simp[isW,ho]
   split at h
   ·rename_i c s d hty hx hy hbq;have hbq:=Zl1 hbq;subst hbq;unfold Aul at h;split at h
    ·rename_i c' xs;split at h
     ·rename_i hcc;subst hcc;split at h
      ·cases h
      ·rename_i ys hys;obtain⟨tk',rfl⟩:=I4 hys;by_cases hy0:ys=[]
       ·rw[show ys.isEmpty=true by rw[hy0];rfl,cond_true] at h;exact⟨_,_,_,h,W7 hw (Zn1 _) (λb _=>Ea.of_bl rfl b) (Mr hp ho hty hx hy hy0)⟩
       ·rw[show ys.isEmpty=false by cases ys with|nil=>exact absurd rfl hy0|cons _ _=>rfl,cond_false] at h;obtain⟨hl,hk⟩:=A1 h;exact⟨_,_,_,hk,W7 hw (Zn1 _) (λb _=>Ea.of_bl rfl b) (Ou hp ho hty hx hy hy0 (by simpa using hl))⟩
     ·cases h
    ·rename_i _ hnf;unfold Tf at h;split at h
     ·split at h
      ·rename_i c' xs tk hcc;subst hcc;split at h
       ·cases h
       ·rename_i al hal;split at h
        ·cases h
        ·rename_i ys hys;obtain⟨hl,hk⟩:=A1 h;obtain⟨tk',rfl⟩:=I4 hys;exact⟨_,_,_,hk,W7 hw (Zn1 _) (λb _=>Ea.of_bl rfl b) (Aj9 hp ho hty hx hy hal (by simpa using hl))⟩
      ·cases h
     ·cases h
   ·rename_i s l hty hx hy hbq;split at h
    ·rename_i hstr;unfold Tf at h;split at h
     ·split at h
      ·rename_i c' xs tk hcc;subst hcc;split at h
       ·cases h
       ·rename_i al hal;split at h
        ·cases h
        ·rename_i ys hys;obtain⟨hl,hk⟩:=A1 h;simp[toS,dite_true,Za1] at hys;subst hys;exact⟨_,_,_,hk,W7 hw (Zn1 _) (λb _=>Ea.of_bl rfl b) (O2 hp ho hty (Fv hstr) hx hy hal (by simpa using hl))⟩
      ·cases h
     ·cases h
    ·cases h
   ·cases h
  ·rename_i x y t t' ho;exact absurd ho (hn5 x y t t')
  ·rename_i f xs ts ho;exact absurd ho (hn4 f xs ts)
  ·exact quiet h
def KF(all:Array Oper)(T i:Nat)(a c:FS):Prop:=(∀b,Ea a c b)\/∃(env:Env) (ws:List Nat),get env=a.env/\Brg all T i env ws=true/\∀b,b∉ws->Ea a c b
def Ajc(cx:Cx)(all:Array Oper)(T:Nat):Nat->List Oper->FS->FS->Prop
 |_,[],a,b=>a=b
 |i,o::l,a,b=>∃c,c=A2 o c a/\a.nb<=c.nb/\KF all T i a c/\Bls cx all o a c/\Ajc cx all T (i+1) l c b
theorem Ajt{all:Array Oper}{T:Nat}:∀{l:List Oper}{i:Nat}{a b:FS},Ajc cx all T i l a b->∃s:Nat->FS,s 0=a/\s l.length=b/\∀j o,l[j]? = some o->s (j+1)=A2 o (s (j+1)) (s j)/\(s j).nb<=(s (j+1)).nb/\KF all T (i+j) (s j) (s (j+1))/\Bls cx all o (s j) (s (j+1))
 |[],i,a,b,h=>⟨λ_=>a,rfl,h,by simp⟩
 |o::l,i,a,b,⟨c,h1,h2,h2b,h3,h4⟩=>by obtain⟨s,e1,e2,e3⟩:=Ajt h4;refine⟨λj=>match j with|0=>a|j+1=>s j,rfl,e2,λj o' ho' =>?_⟩;cases j with|zero =>simp at ho';subst ho';simp[e1];exact⟨h1,h2,h2b,h3⟩|succ j =>have:=e3 j o' (by simpa using ho');rw[show i+(j+1)=i+1+j by omega];exact this
theorem Awl{all:Array Oper}{o:Oper}{s s0:FS}(h:∀k,k∈o.looksAt all->s.env k=s0.env k):∀t x,x∈o.op.operands->evF px s.env t x=evF px s0.env t x:=by intro t x hx;cases x with|tmp k=>exact h k (List.mem_append_left _ (List.mem_filterMap.2 ⟨.tmp k,by simpa using hx,rfl⟩))|_=>rfl
theorem Aqm{o:Oper}{st st':St}{d:D}{k:Nat}(hd:o.dst=some k)(hs:Ati st st')(hst:isW o=false->fs st' = fs st)(s:FS):A2 o (fs (st'.put k d)) s=(sW o (fs st') s).put k d:=by
 have _:=hs;have _:=hst;rw[Kp];cases hw:isW o
 ·have e1:sW o (fs st') s=s:=by simp[sW,hw]
  rw[e1];refine FS.eq rfl ?_ rfl rfl rfl (by simp[A2,hw,FS.put]) (by simp[A2,hw,FS.put]) (by simp[A2,hw,FS.put]) (by simp[A2,hw,FS.put]);funext j;simp[A2,FS.put,hd]
 ·have e1:sW o (fs st') s=D3 (fs st') s:=by simp[sW,hw]
  rw[e1];refine FS.eq rfl ?_ rfl rfl rfl (by simp[A2,hw,FS.put,D3]) (by simp[A2,hw,FS.put,D3]) (by simp[A2,hw,FS.put,D3]) (by simp[A2,hw,FS.put,D3]);funext j;simp[A2,FS.put,hd,D3]
theorem Bbz{o:Oper}{st:St}{s:FS}(hW:isW o=true->C0 s (fs st)):A2 o (fs (off o st)) s=match o.dst with
  |some k=>s.put k .undef
  |none=>s:=by
 have hoff:(fs (off o st)).bl=(fs st).bl/\(fs (off o st)).nb=(fs st).nb/\(fs (off o st)).al=(fs st).al/\(fs (off o st)).nt=(fs st).nt:=by unfold off;split<;>exact⟨rfl,rfl,rfl,rfl⟩
 have hbl:(A2 o (fs (off o st)) s).bl=s.bl/\(A2 o (fs (off o st)) s).nb=s.nb/\(A2 o (fs (off o st)) s).al=s.al/\(A2 o (fs (off o st)) s).nt=s.nt:=by
  cases hw:isW o
  ·simp[A2,hw]
  ·obtain⟨h1,h2,h3,h4⟩:=hW hw;simp[A2,hw,if_true,hoff.1,hoff.2.1,hoff.2.2.1,hoff.2.2.2];exact⟨h1.symm,h2.symm,h3.symm,h4.symm⟩
 cases hd:o.dst with
 |none =>refine FS.eq rfl (by simp[A2,hd]) rfl rfl rfl hbl.1 hbl.2.1 hbl.2.2.1 hbl.2.2.2
 |some k =>
  refine FS.eq rfl ?_ rfl rfl rfl hbl.1 hbl.2.1 hbl.2.2.1 hbl.2.2.2;funext j;have:(fs (off o st)).env k=some .undef:=by unfold off;rw[hd];simp only;rw[Kp];simp[FS.put]
  simp[A2,FS.put,hd,this]
theorem Bef(hp:PxOk cx px)(hcq:CallQOk cx px){all:Array Oper}{T i:Nat}{o:Oper}(hb:opB o=true){st:St}{K:St->Option R}{r:R}(h:A9f px all T i o st K=some r):∃st',K st' = some r/\st'.n=st.n/\fs st' = A2 o (fs st') (fs st)/\st.nb<=st'.nb/\KF all T i (fs st) (fs st')/\∀(s:FS) (m:Mp) (a:Act) (as_:List Act) (w:World),(∀k,k∈o.looksAt all->s.env k=(fs st).env k)->OkW o (fs st) s->s.n=st.n->Rel cx m a as_ s w->Afq cx.P a w o λa' w'=>∃m',Rel cx m' a' as_ (A2 o (fs st') s) w':=by
 unfold A9f at h;split at h
 ·rename_i k hd;split at h
  ·rename_i hlt;have hlt:k<st.n:=by simpa using hlt
   obtain⟨d,ws,st',hk,he⟩:=Bbp hp hcq hb h;split at hk
   ·rename_i hck;refine⟨_,hk,he.same.1,?_,he.mono,?_,λs m a as_ w hag hW hn hr =>?_⟩
    ·rw[Aqm hd he.same he.still];rw[Kp];congr 1;unfold sW;split
     ·exact(Lg he.same).symm
     ·rename_i hw;exact he.still (by simpa using hw)
    ·have hkeep:∀b,b∉ws->Ea (fs st) (fs (st'.put k d)) b:=λb hb=>by rw[Kp];exact he.keep b hb
     simp at hck;rcases hck with h1|h1
     ·have:ws=[]:=by simpa using h1
      subst this;exact .inl λb=>hkeep b (by simp)
     ·exact .inr ⟨st.env,ws,rfl,h1,hkeep⟩
    ·refine(he.run s m a as_ w (Awl hag) hW hr).runs λv w' ⟨m',h1,h2⟩=>⟨m',?_⟩;rw[Aqm hd he.same he.still,hd];refine h1.put ?_ h2;have:(sW o (fs st') s).n=s.n:=by unfold sW;split<;>rfl
     rw[this,hn];exact hlt
   ·cases hk
  ·cases h
 ·rename_i hd;split at h
  ·rename_i hck;obtain⟨st',hk,he⟩:=Anj (cx:=cx) hp h;have hst:∃t x y,o.op = .store t x y:=by
    unfold Ym at h;split at h
    ·rename_i t x y ho;exact⟨t,x,y,ho⟩
    ·cases h
   obtain⟨T0,x0,y0,ho⟩:=hst;have hw:isW o=true:=by simp[isW,ho]
   have hns:∀s,A2 o (fs st') s=D3 (fs st') s:=λs=>by refine FS.eq rfl (by simp[A2,hd,D3]) rfl rfl rfl ?_ ?_ ?_ ?_<;>simp[A2,hw,D3]
   have hkp:=he.keep;refine⟨st',hk,he.same.1,?_,hkp.1,.inr ⟨st.env,_,rfl,hck,hkp.2⟩,λs m a as_ w hag hW hn hr =>?_⟩
   ·rw[hns];exact(Lg he.same).symm
   ·obtain⟨w',m',h1,h2⟩:=he.run s m a as_ w (Awl hag) (hW.1 hw) hr;refine .inr (.inl ⟨w',h1,m',?_⟩);rw[hd,hns];exact h2
  ·cases h
theorem Abx(hp:PxOk cx px)(hcq:CallQOk cx px){all:Array Oper}{T:Nat}:∀{l:List Oper}{i:Nat}{st:St}{K:St->Option R}{r:R},(l.all λo=>opB o&&Amn st.n o)=true->A9y px all T i l st K=some r->∃st',K st' = some r/\st'.n=st.n/\Ajc cx all T i l (fs st) (fs st')
 |[],i,st,K,r,_,h=>⟨st,h,rfl,rfl⟩
 |o::l,i,st,K,r,hl,h=>by
  simp only[Zv1,Zb1] at hl;obtain⟨⟨hb,hdst⟩,hl'⟩:=hl;have hdlt:∀d,o.dst=some d->d<st.n:=λd hd=>by simpa[Amn,hd,Nat.blt_eq] using hdst
  have hl2:∀n,n=st.n->(l.all λo=>opB o&&Amn n o)=true:=λn e=>by subst e;exact hl'
  have hguard:∀(s:FS) (j:Nat) (b:Bool) (g:Nat),o.guard=some (j,b)->(all[j]?).bind (·.dst)=some g->(∀k,k∈o.looksAt all->s.env k=(fs st).env k)->s.env g=get st.env g:=λs j b g hg hj hag=>by refine hag g (List.mem_append_right _ ?_);rw[hg];simp[hj]
  have run:∀{st1:St},fs st1=fs st->st1.n=st.n->(∀(s:FS) (m:Mp) (a:Act) (as_:List Act) (w:World),(∀k,k∈o.looksAt all->s.env k=(fs st).env k)->Rel cx m a as_ s w->Region.wanted o (yielded all a.tmps)=true)->(A9f px all T i o st1 λst'=>A9y px all T (i+1) l st' K)=some r->∃st',K st' = some r/\st'.n=st.n/\Ajc cx all T i (o::l) (fs st) (fs st'):=by intro st1 he hn hw h1;obtain⟨st2,hk,hsn,hnx,hmo,hkf,hrun⟩:=Bef (all:=all) hp hcq hb h1;obtain⟨st3,k1,k2,k3⟩:=Abx hp hcq (hl2 _ (hsn.trans hn)) hk;have hmo:(fs st1).nb<=(fs st2).nb:=hmo;refine⟨st3,k1,k2.trans (hsn.trans hn),fs st2,by rw[<-he];exact hnx,by rw[<-he];exact hmo,by rw[<-he];exact hkf,λs m a as_ w hag hW hsn' hr =>?_,k3⟩;exact .inl ⟨hw s m a as_ w hag hr,hrun s m a as_ w (by rw[he];exact hag) (by rw[he];exact hW) (hsn'.trans hn.symm) hr⟩
  have skip:∀{st1:St},fs st1=fs st->st1.n=st.n->(∀(s:FS) (m:Mp) (a:Act) (as_:List Act) (w:World),(∀k,k∈o.looksAt all->s.env k=(fs st).env k)->Rel cx m a as_ s w->Region.wanted o (yielded all a.tmps)=false)->A9y px all T (i+1) l (off o st1) K=some r->∃st',K st' = some r/\st'.n=st.n/\Ajc cx all T i (o::l) (fs st) (fs st'):=by
   intro st1 he hn hw h1;have hn':(off o st1).n=st.n:=by rw[<-hn];unfold off;split<;>rfl
   obtain⟨st3,k1,k2,k3⟩:=Abx hp hcq (hl2 _ hn') h1;have hnext:∀s:FS,(isW o=true->C0 s (fs st))->A2 o (fs (off o st1)) s=match o.dst with|some k=>s.put k .undef|none=>s:=λs hW=>Bbz (by rw[he];exact hW)
   have e1:(fs (off o st1)).bl=(fs st).bl/\(fs (off o st1)).nb=(fs st).nb:=by rw[<-he];unfold off;split<;>exact⟨rfl,rfl⟩
   refine⟨st3,k1,k2.trans hn',fs (off o st1),?_,by rw[e1.2];exact Zn1 _,.inl λb=>Ea.of_bl e1.1 b,λs m a as_ w hag hW hsn hr =>.inr ⟨hw s m a as_ w hag hr,m,?_⟩,k3⟩
   ·rw[hnext (fs st) (λ_=>⟨rfl,rfl,rfl,rfl⟩)];unfold off;cases hd:o.dst with|none=>exact he|some k=>simp only;rw[Kp,he]
   ·rw[hnext s hW.1];cases hd:o.dst with|none=>exact hr|some k=>exact hr.put (by rw[hsn];exact hdlt k hd) (by simp[Rep];rfl)
  simp[A9y,Bsv] at h;split at h
  ·rename_i hg;exact run rfl rfl (λs m a as_ w _ hr=>(Ij (all:=all) (o:=o) hr.env).1 hg) h
  ·rename_i j b hg;split at h
   ·cases h
   ·rename_i g hj;have g3:∀q,get st.env g=some (.bool q)->∀(s:FS) (m:Mp) (a:Act) (as_:List Act) (w:World),(∀k,k∈o.looksAt all->s.env k=(fs st).env k)->Rel cx m a as_ s w->Region.wanted o (yielded all a.tmps)=(q == b):=λq hq s m a as_ w hag hr=>((Ij (all:=all) (o:=o) hr.env).2 j b g hg hj).1 q (by rw[hguard s j b g hg hj hag];exact hq);split at h
    ·rename_i q hq;have hw:=g3 q hq;cases q with
     |true =>simp[cond_true] at h;cases b with|true=>exact run (H0 hq) rfl hw h|false=>exact skip (H0 hq) rfl hw h
     |false =>simp[cond_false] at h;cases b with|true=>exact skip (H0 hq) rfl hw h|false=>exact run (H0 hq) rfl hw h
    ·rename_i hq;exact skip rfl rfl (λs m a as_ w hag hr=>((Ij (all:=all) (o:=o) hr.env).2 j b g hg hj).2 (by rw[hguard s j b g hg hj hag];exact hq)) h
    ·cases h
theorem Bmp{ops:Array Oper}{s:Nat->FS}(hc:I8 ops s){T:Nat}(hT:T<=ops.size){i j:Nat}{oj:Oper}(hj:ops[j]? = some oj)(hjT:j<T)(hiT:i<T)(hkf:KF ops T i (s i) (s (i+1)))(ho:Bf8 ops i j=false){b:Nat}(hb:rdO oj (s j).env b):Ea (s i) (s (i+1)) b:=by
 obtain⟨k,d,h1,h2,h3⟩:=hb;rcases hkf with h|⟨env,ws,e1,e2,e3⟩
 ·exact h b
 ·have h4:=Zg2.1 e2 j (List.mem_range.2 hjT);rw[hj] at h4;simp[h1,ho] at h4;obtain⟨h5,h6⟩:=h4;have h7:=Adn hc h5 (max i j-min i j) (by omega) (by omega);rw[show min i j+(max i j-min i j)=max i j by omega] at h7;have h8:(s i).env k=(s j).env k:=by
   rcases Nat.le_total i j with hij|hji
   ·rw[Nat.min_eq_left hij,Nat.max_eq_right hij] at h7;exact h7.symm
   ·rw[Nat.min_eq_right hji,Nat.max_eq_left hji] at h7;exact h7
  rw[e1,h8,h2] at h6;simp[h3] at h6;exact e3 b (by simpa using h6)
end
def Ut:Sg->D->Option Nat
 |.sl _ true,.sl _ _ (.id t)=>some t
 |_,_=>none
def asg(i:Nat):List Sg->List D->Nat->Option Nat
 |s::l,d::ds=>λp=>if p=i then Ut s d else asg (i+1) l ds p
 |_,_=>λ_=>none
theorem Ap2{a:Sg}{l:List Sg}{al:List Nat}{ds:List D}{x:HV (a::l)}(h:K9 (a::l) al ds=some x):∃d ds' y al',ds=d::ds'/\A2y al a d=some (y,al')/\((l=[]/\ds' = [])\/∃z,K9 l al' ds' = some z)/\∀i,Br i (a::l) x=Ce i a y::(match l with|[]=>[]|b::l'=>match K9 (b::l') al' ds' with|some z=>Br (i+1) (b::l') z|none=>[]):=by
 cases l with
 |nil =>
  cases ds with
  |nil=>simp[K9] at h
  |cons d ds =>
   cases ds with
   |nil =>
    simp[K9] at h;split at h
    ·rename_i y al' hy;simp at h;subst h;exact⟨d,[],y,al',rfl,hy,.inl ⟨rfl,rfl⟩,λi=>rfl⟩
    ·cases h
   |cons e ds=>simp[K9] at h
 |cons b l =>
  cases ds with
  |nil=>simp[K9] at h
  |cons d ds =>
   simp[K9] at h;split at h
   ·rename_i y al' hy;split at h
    ·rename_i z hz;simp at h;subst h;exact⟨d,ds,y,al',rfl,hy,.inr ⟨z,hz⟩,λi=>by simp[Br,hz]⟩
    ·cases h
   ·cases h
theorem Azi{al al':List Nat}{s:Sg}{d:D}{y:den s}(h:A2y al s d=some (y,al')):(∀t,t∈al'->t∈al)/\(∀t,Ut s d=some t->t∈al/\t∉al'):=by
 unfold A2y at h;split at h
 ·split at h
  ·simp[ Zp1] at h;obtain⟨_,rfl⟩:=h;refine⟨λ_ h=>h,λt ha=>by simp[Ut] at ha⟩
  ·cases h
 ·simp[ Zp1] at h;obtain⟨_,rfl⟩:=h;refine⟨λ_ h=>h,λt ha=>by simp[Ut] at ha⟩
 ·simp[ Zp1] at h;obtain⟨_,rfl⟩:=h;refine⟨λ_ h=>h,λt ha=>by simp[Ut] at ha⟩
 ·split at h
  ·split at h
   ·split at h
    ·rename_i al2 htk;obtain⟨_,rfl⟩:=h;unfold E3 at htk;split at htk
     ·cases htk
     ·simp at htk;subst htk;refine⟨λ_ h=>h,λt ha=>by simp[Ut] at ha⟩
     ·split at htk
      ·rename_i t0 hc;simp at htk;subst htk;refine⟨λt ht=>(List.mem_filter.1 ht).1,λt ha =>?_⟩;simp[Ut] at ha
       simp_all
      ·cases htk
     all_goals cases htk
    ·cases h
   ·simp[ Zp1] at h;obtain⟨_,rfl⟩:=h;refine⟨λ_ h=>h,λt ha=>by simp[Ut] at ha⟩
  ·cases h
 ·split at h
  ·simp[ Zp1] at h;obtain⟨_,rfl⟩:=h;refine⟨λ_ h=>h,λt ha=>by simp[Ut] at ha⟩
  ·cases h
 ·split at h
  ·split at h
   ·simp[ Zp1] at h;obtain⟨_,rfl⟩:=h;refine⟨λ_ h=>h,λt ha=>by simp[Ut] at ha⟩
   ·cases h
  ·cases h
 ·split at h
  ·simp[ Zp1] at h;obtain⟨_,rfl⟩:=h;refine⟨λ_ h=>h,λt ha=>by simp[Ut] at ha⟩
  ·cases h
 ·cases h
theorem Mz(s:Sg)(d:D)(l:List Sg)(ds:List D)(i p:Nat)(h:p≠i):asg i (s::l) (d::ds) p=asg (i+1) l ds p:=by simp[asg,h]
theorem Zf(s:Sg)(d:D)(l:List Sg)(ds:List D)(i:Nat):asg i (s::l) (d::ds) i=Ut s d:=by simp[asg]
theorem Zu:∀{l:List Sg}{al:List Nat}{ds:List D}{x:HV l}(i:Nat),K9 l al ds=some x->(∀p t,asg i l ds p=some t->t∈al/\i<=p)/\∀p q t,asg i l ds p=some t->asg i l ds q=some t->p=q
 |[],al,ds,x,i,_=>by simp[asg]
 |a::l,al,ds,x,i,h=>by
  obtain⟨d,ds',y,al',rfl,h1,h2,_⟩:=Ap2 h;obtain⟨s1,s2⟩:=Azi h1;have ih:(∀p t,asg (i+1) l ds' p=some t->t∈al'/\i+1<=p)/\∀p q t,asg (i+1) l ds' p=some t->asg (i+1) l ds' q=some t->p=q:=by
   rcases h2 with ⟨rfl,rfl⟩|⟨z,hz⟩
   ·simp[asg]
   ·exact Zu (i+1) hz
  refine⟨λp t hp =>?_,λp q t hp hq =>?_⟩
  ·by_cases hpi:p=i
   ·subst hpi;rw[Zf] at hp;exact⟨(s2 t hp).1,Zn1 _⟩
   ·rw[Mz _ _ _ _ _ _ hpi] at hp;have:=ih.1 p t hp;exact⟨s1 t this.1,by omega⟩
  ·by_cases hpi:p=i<;>by_cases hqi:q=i
   ·rw[hpi,hqi]
   ·exfalso;subst hpi;rw[Mz _ _ _ _ _ _ hqi] at hq;rw[Zf] at hp;exact(s2 t hp).2 (ih.1 q t hq).1
   ·exfalso;subst hqi;rw[Mz _ _ _ _ _ _ hpi] at hp;rw[Zf] at hq;exact(s2 t hq).2 (ih.1 p t hp).1
   ·rw[Mz _ _ _ _ _ _ hpi] at hp;rw[Mz _ _ _ _ _ _ hqi] at hq;exact ih.2 p q t hp hq
theorem Bgl{X X':Vx}(hS:∀b i,X'.S b i->X.S b i)(hw:X'.w=X.w)(hel:X'.el=X.el){al al':List Nat}{s:Sg}{d:D}{y:den s}{v:Value}(i:Nat)(h:A2y al s d=some (y,al'))(hal:∀t,t∈al->X.al t)(hr:Rep X d v)(hown:∀c,s = .sl c true->i<X'.nt/\X'.m.tk i=(Ut s d).bind X.m.tk):Rep X' (Ce i s y) v:=by
 have hrf:∀{d:D}{v:Value},RF X.S X.w d v->RF X'.S X'.w d v:=λh=>by rw[hw];exact h.later (Chg.refl _ _) (λk j hk =>.inl (hS k j hk))
 unfold A2y at h;split at h
 ·split at h
  ·rename_i hk;simp at hk;subst hk;simp[ Zp1] at h;obtain⟨rfl,_⟩:=h;simpa[Ce,Rep] using hr
  ·cases h
 ·simp[ Zp1] at h;obtain⟨rfl,_⟩:=h;simpa[Ce,Rep] using hr
 ·simp[ Zp1] at h;obtain⟨rfl,_⟩:=h;simpa[Ce,Rep] using hr
 ·rename_i c own c' xs t;split at h
  ·rename_i hc;subst hc;simp[Rep] at hr;split at h
   ·split at h
    ·rename_i al2 htk;simp[ Zp1] at h;obtain⟨rfl,_⟩:=h;obtain⟨h1,h2⟩:=hown c' rfl;simp[Ce];refine⟨hrf hr.1,h1,λ_ =>?_⟩;cases t with
     |no=>simp[E3] at htk
     |z=>simp[E3] at htk
     |ne=>simp[E3] at htk
     |zn=>simp[E3] at htk
     |f=>simp[E3] at htk
     |nil =>refine .inl ⟨hr.2.1,?_,hr.2.2⟩;rw[h2];simp[Ut]
     |id t0 =>
      have hin:t0∈al:=by
       unfold E3 at htk;simp only at htk;split at htk
       ·rename_i hc;simpa using hc
       ·cases htk
      simp[Ut] at h2;rcases hr.2.2 (hal t0 hin) with ⟨a1,a2,a3⟩|⟨g,cap,cur,a1,a2,a3,a4⟩
      ·exact .inl ⟨a1,h2.trans a2,a3⟩
      ·exact .inr ⟨g,cap,cur,a1,h2.trans a2,by rw[hw,hel];exact a3,a4⟩
    ·cases h
   ·simp[ Zp1] at h;obtain⟨rfl,_⟩:=h;simp[Ce];exact⟨hrf hr.1,trivial⟩
  ·cases h
 ·rename_i c d;split at h
  ·rename_i y' ha hy';simp[ Zp1] at h;obtain⟨rfl,_⟩:=h;obtain⟨hel',hagg,_⟩:=N5 hy' hr;obtain⟨vs,rfl⟩:=hagg ha;simp[Ce];refine⟨ha,vs.toList,by simp,by simpa[Value.cells] using hel'.1,λj e he =>?_⟩;obtain⟨u,hu,hf⟩:=hel'.2 j e he;exact⟨u,by simpa[Value.cells] using hu,hrf hf⟩
  ·cases h
 ·split at h
  ·rename_i c n c' n' xs hc;subst hc;split at h
   ·rename_i hn;have hn:=Zl1 hn;subst hn;simp[ Zp1] at h;obtain⟨rfl,_⟩:=h;simp[ Rep] at hr ⊢;obtain⟨h1,vs,h2,h3,h4⟩:=hr;exact⟨h1,vs,h2,h3,λq y j e hy he=>by obtain⟨u,hu,hf⟩:=h4 q y j e hy he;exact⟨u,hu,hrf hf⟩⟩
   ·cases h
  ·cases h
 ·split at h
  ·rename_i c c' xs hc;subst hc;simp[ Zp1] at h;obtain⟨rfl,_⟩:=h;simp[ Rep] at hr ⊢;obtain⟨h1,vs,h2,h3,h4⟩:=hr;exact⟨h1,vs,h2,h3,λq y j e hy he=>by obtain⟨u,hu,hf⟩:=h4 q y j e hy he;exact⟨u,hu,hrf hf⟩⟩
  ·cases h
 ·cases h
theorem Fa{X X':Vx}(hS:∀b i,X'.S b i->X.S b i)(hw:X'.w=X.w)(hel:X'.el=X.el):∀{l:List Sg}{al:List Nat}{ds:List D}{x:HV l}{vs:List Value}(i:Nat),K9 l al ds=some x->(∀t,t∈al->X.al t)->Reps X ds vs->(∀p,p∈Bb i l->p<X'.nt/\X'.m.tk p=(asg i l ds p).bind X.m.tk)->Reps X' (Br i l x) vs
 |[],al,ds,x,vs,i,h,_,hr,_=>by cases ds with|nil=>simpa[Reps,Br] using hr|cons d ds=>simp[K9] at h
 |a::l,al,ds,x,vs,i,h,hal,hr,hown=>by
  obtain⟨d,ds',y,al',rfl,h1,h2,h3⟩:=Ap2 h;simp[Reps] at hr;obtain⟨u,us,rfl,hr1,hr2⟩:=hr;rw[h3 i];simp only[Reps];refine⟨u,us,rfl,Bgl hS hw hel i h1 hal hr1 (λc hc =>?_),?_⟩
  ·subst hc;have:=hown i (by simp[Bb]);rwa[Zf] at this
  ·rcases h2 with ⟨rfl,rfl⟩|⟨z,hz⟩
   ·simpa[Reps] using hr2
   ·cases l with
    |nil =>cases ds' with|nil=>simpa[Reps] using hr2|cons e es=>simp[K9] at hz
    |cons b l' =>
     simp[hz];refine Fa hS hw hel (i+1) hz (λt ht=>hal t (((Azi h1).1) t ht)) hr2 (λp hp =>?_);have hlow:∀(l:List Sg) (i p:Nat),p∈Bb i l->i<=p:=by
      intro l;induction l with
      |nil=>intro i p hp;simp[Bb] at hp
      |cons s l ih =>
       intro i p hp;cases s<;>first|(have:=ih (i+1) p (by simpa[Bb] using hp);omega)|skip
       rename_i c own;cases own with
       |true =>
        simp[Bb] at hp;rcases hp with rfl|hp
        ·exact Zn1 _
        ·have:=ih (i+1) p hp;omega
       |false=>have:=ih (i+1) p (by simpa[Bb] using hp);omega
     have hpi:=hlow _ _ _ hp;have hmem:p∈Bb i (a::b::l'):=by
      cases a<;>first|exact hp|skip
      rename_i c own;cases own with|true=>exact Zu1 _ hp|false=>exact hp
     have:=hown p hmem;rwa[Mz _ _ _ _ _ _ (by omega)] at this
def Ko:Sg->Bool
 |.sv _|.rw _ _|.dn _=>false
 |_=>true
def Ah5(nb:Nat):D->Bool
 |.ptr b _=>Nat.blt b nb
 |.fn _ cs=>cs.all λd=>match d with|.ptr b _=>Nat.blt b nb|_=>false
 |.bm _ cs=>cs.all λd=>match d with|.ptr b _=>Nat.blt b nb|_=>false
 |.gp _=>true
 |.nilp=>true
 |_=>false
def Bo1(nb:Nat):D->Bool
 |.agg _=>true
 |d=>Ah5 nb d
def bsB(nb:Nat):Bs->Bool
 |.cells l=>l.all Ko
 |.one s => !Ko s
 |.bld _=>true
 |.fx ds=>ds.all (Ah5 nb)
 |.oc l b _=>l.all Ko&&Nat.blt b nb
def U2(s:Sig):Bool:=(s.fix.all λp=>Bo1 s.nb p.2)&&(s.bl.all λp=>Nat.blt p.1 s.nb&&bsB s.nb p.2)&&Nat.ble s.lb s.nb&&s.ow.all λp=>Nat.blt p.2.1 s.nb
def Sh1(s:Sg)(d:D):Prop:=(Ko s=true->lf d=true)/\(Ko s=false->(∃c y,d = .sv c y)\/(∃c n xs,d = .rw c n xs)\/∃c xs,d = .dn c xs)/\(s = .sl .byte true->∃l t,d = .sl .byte l t)
def ShL:List Sg->List D->Prop
 |[],ds=>ds=[]
 |s::l,ds=>∃d r,ds=d::r/\Sh1 s d/\ShL l r
theorem A8p(i:Nat):∀(s:Sg) (y:den s),Sh1 s (Ce i s y)
 |.int _,_=>⟨λ_=>rfl,λh=>(by cases h),λh=>(by cases h)⟩
 |.bool,_=>⟨λ_=>rfl,λh=>(by cases h),λh=>(by cases h)⟩
 |.str,_=>⟨λ_=>rfl,λh=>(by cases h),λh=>(by cases h)⟩
 |.sl _ true,l=>⟨λ_=>rfl,λh=>(by cases h),λh=>(by cases h;exact⟨l,_,rfl⟩)⟩
 |.sl _ false,_=>⟨λ_=>rfl,λh=>(by cases h),λh=>(by cases h)⟩
 |.sv c,y=>⟨λh=>(by cases h),λ_ =>.inl ⟨c,y,rfl⟩,λh=>(by cases h)⟩
 |.rw c n,xs=>⟨λh=>(by cases h),λ_ =>.inr (.inl ⟨c,n,xs,rfl⟩),λh=>(by cases h)⟩
 |.dn c,xs=>⟨λh=>(by cases h),λ_ =>.inr (.inr ⟨c,xs,rfl⟩),λh=>(by cases h)⟩
theorem Ago:∀(i:Nat) (l:List Sg) (x:HV l),ShL l (Br i l x)
 |_,[],_=>rfl
 |i,[a],x=>⟨_,[],rfl,A8p i a x,rfl⟩
 |i,a::b::l,(x,y)=>⟨_,_,rfl,A8p i a x,Ago (i+1) (b::l) y⟩
theorem ShL.len:∀{l:List Sg}{ds:List D},ShL l ds->ds.length=l.length
 |[],ds,h=>by simp[ShL] at h;subst h;rfl
 |s::l,ds,h=>by obtain⟨d,r,rfl,_,h2⟩:=h;simp[ShL.len h2]
theorem ShL.split:∀{l m:List Sg}{ds:List D},ShL (l++m) ds->ShL l (ds.take l.length)/\ShL m (ds.drop l.length)
 |[],m,ds,h=>by simpa[ShL] using h
 |s::l,m,ds,h=>by obtain⟨d,r,rfl,h1,h2⟩:=h;obtain⟨h3,h4⟩:=ShL.split h2;exact⟨⟨d,_,by simp,h1,h3⟩,by simpa using h4⟩
theorem ShL.lf:∀{l:List Sg}{ds:List D},ShL l ds->l.all Ko=true->ds.all lf=true
 |[],ds,h,_=>by simp[ShL] at h;subst h;rfl
 |s::l,ds,h,hl=>by obtain⟨d,r,rfl,h1,h2⟩:=h;simp only[Zv1,Zb1] at hl ⊢;exact⟨h1.1 hl.1,h2.lf hl.2⟩
theorem Reps.split{x:Vx}:∀{A B:List D}{vs:List Value},Reps x (A++B) vs->∃us ws,vs=us++ws/\Reps x A us/\Reps x B ws
 |[],B,vs,h=>⟨[],vs,rfl,by simp[Reps],h⟩
 |d::A,B,vs,h=>by simp at h;obtain⟨u,us,rfl,h1,h2⟩:=h;obtain⟨p,q,rfl,h3,h4⟩:=Reps.split h2;exact⟨u::p,q,rfl,by simp only[Reps];exact⟨u,p,rfl,h1,h3⟩,h4⟩
theorem Reps.take{x:Vx}{ds:List D}{us ws:List Value}(h:Reps x ds (us++ws)):Reps x (ds.take us.length) us/\Reps x (ds.drop us.length) ws:=by
 have hl:=h.len;simp at hl;rw[<-List.take_append_drop us.length ds] at h;obtain⟨p,q,he,h1,h2⟩:=Reps.split h;have hp:p.length=us.length:=by rw[h1.len];simp;omega
 obtain⟨rfl,rfl⟩:=List.append_inj he hp.symm;exact⟨h1,h2⟩
theorem J3{x:Vx}{n:Nat}{df:List D}{env:Env}{a:Act}(he:EnvR x n df (get env) a):∀{vars:List (Nat×Sg)}{A:List D},Je env vars=some A->∃VA:List Value,Reps x A VA/\∀(i k:Nat) (s:Sg),vars[i]? = some (k,s)->∃v,VA[i]? = some v/\a.tmps[k]? = some v
 |[],A,h=>by simp[Je] at h;subst h;exact⟨[],by simp[Reps],by simp⟩
 |(k0,s0)::vars,A,h=>by
  simp[Je] at h;split at h
  ·rename_i d ds hd hds;simp at h;subst h;obtain⟨VA,h1,h2⟩:=J3 he hds;obtain⟨v,hv,hr⟩:=he.get k0 d hd;refine⟨v::VA,by simp only[Reps];exact⟨v,VA,rfl,hr,h1⟩,λi k s hi =>?_⟩;cases i with|zero=>grind|succ i=>grind
  ·cases h
theorem Aqd:∀(vars:List (Nat×Sg)) (E:List D),vars.length<=E.length->(Au5 vars E).2=E.drop vars.length/\∀k d,get (Au5 vars E).1 k=some d->∃(i:Nat) (s:Sg),vars[i]? = some (k,s)/\E[i]? = some d
 |[],E,_=>by cases E<;>simp[Au5,get]
 |(k0,s0)::vars,[],h=>by simp at h
 |(k0,s0)::vars,e::E,h=>by
  obtain⟨h1,h2⟩:=Aqd vars E (by simpa using h);simp only[Au5];refine⟨by simpa using h1,λk d hk =>?_⟩;rw[B8] at hk;by_cases hkk:k=k0
  ·subst hkk;simp at hk;subst hk;exact⟨0,s0,by simp,by simp⟩
  ·rw[if_neg hkk] at hk;obtain⟨i,s,h3,h4⟩:=h2 k d hk;exact⟨i+1,s,by simpa using h3,by simpa using h4⟩
theorem Ahr(e f:Env)(k:Nat)(d:D)(h:get (e++f) k=some d):get e k=some d\/get f k=some d:=by
 induction e with
 |nil=>exact .inr h
 |cons p e ih =>
  obtain⟨q,v⟩:=p;rw[Zb2,B8] at h;rw[B8];by_cases hk:k=q
  ·grind
  ·grind
theorem A5z{env:Env}{nb:Nat}:∀{fx:List (Nat×D)}{k:Nat}{d:D},A7a env fx=true->(fx.all λp=>Bo1 nb p.2)=true->get fx k=some d->Bo1 nb d=true/\∃d',get env k=some d'/\W5 d d' = true
 |[],k,d,_,_,h=>by simp[get] at h
 |(q,v)::fx,k,d,h1,h2,h=>by
  simp[A7a] at h1;simp only[Zv1,Zb1] at h2;rw[B8] at h;split at h1
  ·rename_i d' hd';simp at h1;by_cases hk:k=q
   ·subst hk;simp at h;subst h;exact⟨h2.1,d',hd',h1.1⟩
   ·rw[if_neg hk] at h;exact A5z h1.2 h2.2 h
  ·cases h1
def Aep:D->List Nat
 |.ptr b _=>[b]
 |_=>[]
def D4:D->List Nat
 |.ptr b _=>[b]
 |.fn _ cs=>cs.flatMap Aep
 |.bm _ cs=>cs.flatMap Aep
 |_=>[]
theorem Zp{x x':Vx}:∀{cs cs':List D}{vs:List Value},(∀b,b∈cs.flatMap Aep->x'.m.bl b=x.m.bl b/\b<x'.nb)->Lk cs cs' = true->Reps x cs' vs->Reps x' cs vs:=by
 intro cs;induction cs with
 |nil =>intro cs' vs _ h hr;cases cs' with|nil=>simpa[Reps] using hr|cons _ _=>simp[Lk] at h
 |cons d cs ih =>
  intro cs' vs hb h hr;unfold Lk at h;split at h
  ·exact absurd (by assumption:d::cs=[]) (by simp)
  ·rename_i b o l b' o' m heq;simp at heq;obtain⟨rfl,rfl⟩:=heq;simp only[Zb1] at h;obtain rfl:=Zl1 h.1.1;obtain rfl:=Zl1 h.1.2;simp[Reps] at hr ⊢;obtain⟨u,us,rfl,h1,h2⟩:=hr;simp[Rep] at h1;obtain⟨g1,g2⟩:=hb b (by simp[Aep]);exact⟨u,us,rfl,by simp[Rep];exact⟨g2,by rw[g1];exact h1.2⟩,ih (λc hc=>hb c (by rw[List.flatMap_cons,List.mem_append];exact .inr hc)) h.2 h2⟩
  ·cases h
theorem Aom{nb:Nat}{d:D}(h:Ah5 nb d=true):∀b,b∈D4 d->b<nb:=by
 intro b hb;cases d with
 |ptr k o =>simp[D4] at hb;subst hb;simpa[Ah5] using h
 |fn f cs =>simp[D4] at hb;obtain⟨c,hc,hbc⟩:=hb;simp only[Ah5] at h;have h1:=Zg2.1 h c hc;cases c with|ptr k o =>simp[Aep] at hbc;subst hbc;simpa using h1|_=>simp[Aep] at hbc
 |bm f cs =>simp[D4] at hb;obtain⟨c,hc,hbc⟩:=hb;simp only[Ah5] at h;have h1:=Zg2.1 h c hc;cases c with|ptr k o =>simp[Aep] at hbc;subst hbc;simpa using h1|_=>simp[Aep] at hbc
 |_=>simp[D4] at hb
theorem Bcm{nb:Nat}{d:D}(h:Bo1 nb d=true):∀b,b∈D4 d->b<nb:=by cases d with|agg l=>intro b hb;simp[D4] at hb|_=>exact Aom h
theorem Aej{x x':Vx}:∀{ds ds':List D}{vs:List Value},R2 ds ds' = true->Reps x ds' vs->Reps x' ds vs/\ds.all lf=true
 |[],[],vs,_,hr=>⟨by simpa[Reps] using hr,rfl⟩
 |d::ds,d'::ds',vs,h,hr=>by
  unfold R2 at h;split at h
  ·rename_i h1 h2;cases h1
  ·rename_i a l b m h1 h2;cases h1;cases h2;simp at h;obtain⟨rfl,h⟩:=h;simp at hr ⊢;obtain⟨u,us,rfl,h3,h4⟩:=hr;obtain⟨h5,h6⟩:=Aej (x':=x') h h4;exact⟨⟨u,us,rfl,by simpa only[Rep] using h3,h5⟩,by simpa[lf] using h6⟩
  ·cases h
 |[],_::_,_,h,_=>by simp[R2] at h
 |_::_,[],_,h,_=>by simp[R2] at h
theorem Bpe{nb:Nat}{d:D}(h:Ah5 nb d=true):lf d=true:=by cases d<;>first|rfl|(simp[Ah5] at h)
theorem Ad5{x x':Vx}{d d':D}{v:Value}(hb:∀b,b∈D4 d->x'.m.bl b=x.m.bl b/\b<x'.nb)(h:W5 d d' = true)(hr:Rep x d' v):Rep x' d v:=by
 unfold W5 at h;split at h
 ·simp only[Zb1] at h;obtain rfl:=Zl1 h.1;obtain rfl:=Zl1 h.2;simp[Rep] at hr ⊢;obtain⟨g1,g2⟩:=hb _ (List.mem_singleton.2 rfl);exact⟨g2,by rw[g1];exact hr.2⟩
 ·simp only[Zb1] at h;obtain rfl:=Zl1 h.1;simp[Rep] at hr ⊢;obtain⟨vs,h1,h2⟩:=hr;exact⟨vs,h1,Zp hb h.2 h2⟩
 ·simp only[Zb1] at h;obtain rfl:=Zl1 h.1;simp[Rep] at hr ⊢;obtain⟨vs,h1,h2⟩:=hr;exact⟨vs,h1,Zp hb h.2 h2⟩
 ·obtain rfl:=Zl1 h;simp[Rep] at hr ⊢;exact hr
 ·simp[Rep] at hr ⊢;exact hr
 ·simp only[Rep] at hr ⊢;obtain⟨_,vs,rfl,h2⟩:=hr;obtain⟨h3,h4⟩:=Aej (x':=x') h h2;exact⟨h4,vs,rfl,h3⟩
 ·cases h
theorem Yp{x x':Vx}:∀{ds ds':List D}{vs:List Value},(∀d,d∈ds->∀b,b∈D4 d->x'.m.bl b=x.m.bl b/\b<x'.nb)->Ml ds ds' = true->Reps x ds' vs->Reps x' ds vs
 |[],[],vs,_,_,hr=>by simpa[Reps] using hr
 |[],_::_,_,_,h,_=>by simp[Ml] at h
 |_::_,[],_,_,h,_=>by simp[Ml] at h
 |d::ds,d'::ds',vs,hb,h,hr=>by simp[Ml] at h;simp[Reps] at hr ⊢;obtain⟨u,us,rfl,h1,h2⟩:=hr;exact⟨u,us,rfl,Ad5 (hb d Zr1) h.1 h1,Yp (λe he=>hb e (Zu1 _ he)) h.2 h2⟩
def fxs:List (Nat×Bs)->List D
 |[]=>[]
 |(_,.fx ds)::l=>ds++fxs l
 |(_,.cells _)::l=>fxs l
 |(_,.one _)::l=>fxs l
 |(_,.bld _)::l=>fxs l
 |(_,.oc _ b _)::l =>.ptr b 0::fxs l
theorem Bgh{x:Vx}{β:Nat}{k:Blk}(h:Ia x β k)(hk:∀t d,k ≠ .bld t d)(hk2:∀q,k ≠ .ob q):∃(vs:List Value) (t:TypeId),x.w.heap[β]? = some (.cells vs.toArray t (0,0))/\Rep x (Bc4 k) (.agg vs.toArray):=by cases k with|bld t d=>exact absurd rfl (hk t d)|ob q=>exact absurd rfl (hk2 q)|cells ds=>obtain⟨h1,vs,t,h2,h3⟩:=h;exact⟨vs,t,h2,by simp only[Bc4,Rep];exact⟨h1,vs,rfl,h3⟩⟩|box c y=>obtain⟨h1,vs,t,h2,h3,h4⟩:=h;exact⟨vs,t,h2,by simp only[Bc4,Rep];exact⟨h1,vs,rfl,h3,h4⟩⟩|row c n xs=>obtain⟨h1,vs,t,h2,h3,h4⟩:=h;exact⟨vs,t,h2,by simp only[Bc4,Rep];exact⟨h1,vs,rfl,h3,h4⟩⟩|dyn c xs=>obtain⟨h1,vs,t,h2,h3,h4⟩:=h;exact⟨vs,t,h2,by simp only[Bc4,Rep];exact⟨h1,vs,rfl,h3,h4⟩⟩
theorem Ble{x:Vx}{β:Nat}{d:D}{vs:List Value}{t:TypeId}(hd:(∃c y,d = .sv c y)\/(∃c n xs,d = .rw c n xs)\/∃c xs,d = .dn c xs)(hh:x.w.heap[β]? = some (.cells vs.toArray t (0,0)))(hr:Rep x d (.agg vs.toArray)):Ia x β (unD d):=by
 have inj:∀us:List Value,(Value.agg vs.toArray) = .agg us.toArray->vs=us:=λus h=>by simpa using h
 rcases hd with ⟨c,y,rfl⟩|⟨c,n,xs,rfl⟩|⟨c,xs,rfl⟩
 ·simp only[Rep] at hr;obtain⟨h0,us,h1,h2,h3⟩:=hr;obtain rfl:=inj us h1;exact⟨h0,vs,t,hh,h2,h3⟩
 ·simp only[Rep] at hr;obtain⟨h0,us,h1,h2,h3⟩:=hr;obtain rfl:=inj us h1;exact⟨h0,vs,t,hh,h2,h3⟩
 ·simp only[Rep] at hr;obtain⟨h0,us,h1,h2,h3⟩:=hr;obtain rfl:=inj us h1;exact⟨h0,vs,t,hh,h2,h3⟩
theorem Al7:∀{k b:Nat}{c:Ck}{ds ds':List D},Ap8 k b c ds=some ds'->∃ds0 s n,ds=ds0++[.osl b c s n]/\ds' = ds0++[.int .i64 s,.int .i64 n]/\ds0.length=k
 |0,b,c,ds,ds',h=>by
  unfold Ap8 at h;split at h
  ·split at h
   ·rename_i hc;simp only[Zb1,Zg1] at hc;obtain⟨hc1,rfl⟩:=hc;have hc1:=Zl1 hc1;subst hc1;simp at h;exact⟨[],_,_,rfl,h.symm,rfl⟩
   ·cases h
  ·rename_i e;cases e
  ·cases h
 |k+1,b,c,[],ds',h=>by simp[Ap8] at h
 |k+1,b,c,d::ds,ds',h=>by
  simp[Ap8] at h;split at h
  ·rename_i es hes;simp at h;obtain⟨ds0,s,n,rfl,rfl,hl⟩:=Al7 hes;exact⟨d::ds0,s,n,rfl,h.symm,by simp[hl]⟩
  ·cases h
theorem M1:∀(k b:Nat) (c:Ck) (E:List D),Uq k b c (E.take (k+(0+1+1)))=Uq k b c E
 |0,b,c,[]=>rfl
 |0,b,c,[d]=>rfl
 |0,b,c,d::e::E=>by cases d<;>first|rfl|(cases e<;>rfl)
 |k+1,b,c,[]=>rfl
 |k+1,b,c,d::E=>by rw[show k+1+(0+1+1)=(k+(0+1+1))+1 by omega,List.take_succ_cons];simp[Uq,M1 k b c E]
theorem Aj8{x:Vx}{d:D}{z:Int}(hl:lf d=true)(h:Rep x d (.int .i64 z)):∃k,d = .int k z:=by cases d with|int k m=>simp[Rep] at h;exact⟨k,by rw[h.1.2]⟩|bool b=>simp[Rep] at h|str l=>simp[Rep] at h|sl c xs t=>simp[Rep] at h;obtain⟨a,cap,e,_⟩:=h.1.here.slice;cases e|ep c y o=>simp only[Rep] at h;obtain⟨_,_,e,_⟩:=h;cases e|ptr b o=>simp only[Rep] at h;cases h.2|nilp=>simp[Rep] at h|gp g=>simp[Rep] at h|gm l=>simp only[Rep] at h;obtain⟨_,_,_,e,_⟩:=h;cases e|osl b c s n=>simp only[Rep] at h;obtain⟨_,_,_,_,_,_,e,_⟩:=h;cases e|dp b c i=>simp only[Rep] at h;cases h.2.1|rp b c n i=>simp only[Rep] at h;cases h.2.1|fn f caps=>simp only[Rep] at h;obtain⟨_,e,_⟩:=h;cases e|bm f caps=>simp only[Rep] at h;obtain⟨_,e,_⟩:=h;cases e|nilfn=>simp[Rep] at h|yl b=>simp only[Rep] at h;cases h.2|sv c y=>simp[lf] at hl|dn c xs=>simp[lf] at hl|rw c n xs=>simp[lf] at hl|agg ds=>simp[lf] at hl|tup ds=>simp[lf] at hl|undef=>simp[lf] at hl|junk=>simp[lf] at hl
theorem Ami{x:Vx}{b:Nat}{c:Ck}{s n:Int}:∀{l:List Sg}{E:List D}{vs:List Value},l.length=vs.length->ShL (l++[.int .i64,.int .i64]) E->Reps x E (vs++[.int .i64 s,.int .i64 n])->∃e0,Uq l.length b c E=e0++[.osl b c s n]/\Reps x e0 vs/\ShL l e0
 |[],E,vs,hl,hsh,hr=>by have hv:vs=[]:=List.eq_nil_of_length_eq_zero hl.symm;subst hv;simp at hsh hr;obtain⟨e1,E1,rfl,hs1,hsh⟩:=hsh;obtain⟨e2,E2,rfl,hs2,hsh⟩:=hsh;simp[Reps] at hr;obtain⟨_,_,⟨rfl,rfl⟩,hr1,_,_,⟨rfl,rfl⟩,hr2,hr3⟩:=hr;obtain⟨k1,rfl⟩:=Aj8 (hs1.1 rfl) hr1;obtain⟨k2,rfl⟩:=Aj8 (hs2.1 rfl) hr2;exact⟨[],rfl,by simp[Reps],rfl⟩
 |s0::l,E,[],hl,hsh,hr=>by simp at hl
 |s0::l,E,v::vs,hl,hsh,hr=>by obtain⟨d,E',rfl,h1,h2⟩:=hsh;simp[ Reps] at hr;obtain⟨_,_,⟨rfl,rfl⟩,hr1,hr2⟩:=hr;obtain⟨e0,p1,p2,p3⟩:=Ami (b:=b) (c:=c) (by simpa using hl) h2 hr2;exact⟨d::e0,by simp[ Uq,p1],by simp only[Reps];exact⟨v,vs,rfl,hr1,p2⟩,d,e0,rfl,h1,p3⟩
theorem Reps.snoc{x:Vx}:∀{ds:List D}{d:D}{vs:List Value},Reps x (ds++[d]) vs->∃us u,vs=us++[u]/\Reps x ds us/\Rep x d u
 |[],d,vs,h=>by simp only[Zf2,Reps] at h;obtain⟨u,us,rfl,h1,rfl⟩:=h;exact⟨[],u,rfl,by simp[Reps],h1⟩
 |e::ds,d,vs,h=>by simp[ Reps] at h;obtain⟨u,us,rfl,h1,h2⟩:=h;obtain⟨ws,z,rfl,h3,h4⟩:=Reps.snoc h2;exact⟨u::ws,z,rfl,by simp only[Reps];exact⟨u,ws,rfl,h1,h3⟩,h4⟩
theorem Dl{x:Vx}{m:Nat->Nat}{stbl:List (Nat×Blk)}(hb:∀b k,blk stbl b=some k->Ia x (m b) k){nb:Nat}:∀{bl:List (Nat×Bs)}{B:List D},Bv stbl bl=some B->(bl.all λp=>Nat.blt p.1 nb&&bsB nb p.2)=true ->
  ∃VB:List Value,Reps x B VB/\∀(x':Vx) (E:List D),(x'.w=x.w/\x'.el=x.el)->(∀d,d∈fxs bl->∀b,b∈D4 d->x'.m.bl b=x.m.bl b/\b<x'.nb)->ShL ((bl.map (·.2.sgs)).flatten) E->Reps x' E VB->∀b k,blk (C7 bl E) b=some k->Ia x' (m b) k/\blk stbl b≠none/\b<nb
 |[],B,h,_=>by simp[Bv] at h;subst h;exact⟨[],by simp[Reps],λx' E _ _ _ _ b k hk=>by simp[C7,blk] at hk⟩
 |(b0,.cells l)::bl,B,h,hok=>by
  simp[Bv] at h;simp only[Zv1,Zb1] at hok;split at h
  ·rename_i ds es hds hes;split at h
   ·rename_i hlen;simp at h;subst h;obtain⟨VB,h1,h2⟩:=Dl hb hes hok.2;obtain⟨hlf,vs,t,hh,hreps⟩:=hb b0 _ hds;refine⟨vs++VB,hreps.append h1,λx' E hw hfx hsh hr b k hk =>?_⟩;simp[Zw1,Bs.sgs] at hsh;obtain⟨s1,s2⟩:=hsh.split;have hvl:vs.length=l.length:=by rw[hreps.len,(Zl1 hlen)]
    obtain⟨r1,r2⟩:=hr.take;rw[hvl] at r1 r2;simp[C7] at hk;rw[Az] at hk;by_cases hbb:b=b0
    ·subst hbb;simp[if_true] at hk;subst hk;exact⟨⟨s1.lf hok.1.2,vs,t,by rw[hw.1];exact hh,r1⟩,by rw[hds];simp,by simpa[Nat.blt_eq] using hok.1.1⟩
    ·rw[if_neg hbb] at hk;exact h2 x' _ hw hfx s2 r2 b k hk
   ·cases h
  ·cases h
 |(b0,.one s)::bl,B,h,hok=>by
  simp[Bv] at h;simp only[Zv1,Zb1] at hok;split at h
  ·cases h
  ·cases h
  ·rename_i k0 es hnb hnq hk0 hes;simp at h;subst h;obtain⟨VB,h1,h2⟩:=Dl hb hes hok.2;obtain⟨vs,t,hh,hrep⟩:=Bgh (hb b0 _ hk0) (λt d e=>hnb t d e) (λq e=>hnq q e);refine⟨.agg vs.toArray::VB,by simp only[Reps];exact⟨_,VB,rfl,hrep,h1⟩,λx' E hw hfx hsh hr b k hk =>?_⟩;simp[Zw1,Bs.sgs] at hsh;obtain⟨d,E',rfl,hs1,hs2⟩:=hsh;simp only[Reps] at hr;obtain⟨u,us,hu,hr1,hr2⟩:=hr;simp[Ze2] at hu;obtain⟨rfl,rfl⟩:=hu;simp[C7] at hk;rw[Az] at hk;by_cases hbb:b=b0
   ·subst hbb;simp[if_true] at hk;subst hk;exact⟨Ble (hs1.2.1 (by have h12:(!Ko s)=true:=hok.1.2;simpa using h12)) (by rw[hw.1];exact hh) hr1,by rw[hk0];simp,by simpa[Nat.blt_eq] using hok.1.1⟩
   ·rw[if_neg hbb] at hk;exact h2 x' _ hw hfx hs2 hr2 b k hk
  ·cases h
 |(b0,.bld t0)::bl,B,h,hok=>by
  simp[Bv] at h;simp only[Zv1,Zb1] at hok;split at h
  ·rename_i t1 d0 es hk0 hes;split at h
   case h_2=>cases h
   rename_i ht;obtain rfl:=Zl1 ht;simp at h;subst h;obtain⟨VB,h1,h2⟩:=Dl hb hes hok.2;obtain⟨_,a,v,hh,ha,hrep⟩:=hb b0 _ hk0;refine⟨v::VB,by simp only[Reps];exact⟨_,VB,rfl,hrep,h1⟩,λx' E hw hfx hsh hr b k hk =>?_⟩;simp[Zw1,Bs.sgs] at hsh;obtain⟨d,E',rfl,hs1,hs2⟩:=hsh;simp only[Reps] at hr;obtain⟨u,us,hu,hr1,hr2⟩:=hr;simp[Ze2] at hu;obtain⟨rfl,rfl⟩:=hu;simp[C7] at hk;rw[Az] at hk;by_cases hbb:b=b0
   ·subst hbb;simp[if_true] at hk;subst hk;exact⟨⟨hs1.2.2 rfl,a,v,by rw[hw.1];exact hh,ha,hr1⟩,by rw[hk0];simp,by simpa[Nat.blt_eq] using hok.1.1⟩
   ·rw[if_neg hbb] at hk;exact h2 x' _ hw hfx hs2 hr2 b k hk
  ·cases h
 |(b0,.fx l)::bl,B,h,hok=>by
  simp[Bv] at h;simp only[Zv1,Zb1] at hok;split at h
  ·rename_i ds es hds hes;split at h
   ·rename_i hsame;simp at h;subst h;obtain⟨VB,h1,h2⟩:=Dl hb hes hok.2;obtain⟨_,vs,t,hh,hreps⟩:=hb b0 _ hds;refine⟨VB,h1,λx' E hw hfx hsh hr b k hk =>?_⟩;simp[Zw1,Bs.sgs,Zf2] at hsh;simp[C7] at hk;rw[Az] at hk;have hl:l.all (Ah5 nb)=true:=hok.1.2;by_cases hbb:b=b0
    ·subst hbb;simp[if_true] at hk;subst hk;exact⟨⟨Zg2.2 λd hd=>Bpe (Zg2.1 hl d hd),vs,t,by rw[hw.1];exact hh,Yp (λd hd=>hfx d (by simp[fxs,List.mem_append];exact .inl hd)) hsame hreps⟩,by rw[hds];simp,by simpa[Nat.blt_eq] using hok.1.1⟩
    ·rw[if_neg hbb] at hk;exact h2 x' _ hw (λd hd=>hfx d (by simp[fxs,List.mem_append];exact .inr hd)) hsh hr b k hk
   ·cases h
  ·cases h
 |(b0,.oc l b1 c)::bl,B,h,hok=>by
  simp[Bv] at h;simp only[Zv1,Zb1] at hok;split at h
  ·rename_i ds es hds hes;split at h
   ·rename_i ds' hoc;simp at h;subst h;obtain⟨ds0,s0,n0,rfl,rfl,hl0⟩:=Al7 hoc;obtain⟨VB,h1,h2⟩:=Dl hb hes hok.2;obtain⟨hlf,vs,t,hh,hreps⟩:=hb b0 _ hds;obtain⟨vs0,vo,rfl,r0,ro⟩:=hreps.snoc;have hro:=ro;simp[Rep] at ro;obtain⟨_,g2,g3,g4,_⟩:=ro;have u1:Fe .i64 s0=true:=by have:=Pw (show s0.toNat<=maxLen by omega);rwa[Int.toNat_of_nonneg g2] at this
    have u2:Fe .i64 n0=true:=by have:=Pw (show n0.toNat<=maxLen by omega);rwa[Int.toNat_of_nonneg g3] at this
    have hok12:l.all Ko=true/\b1<nb:=by have h12:(l.all Ko&&Nat.blt b1 nb)=true:=hok.1.2;simp only[Zb1] at h12;exact⟨h12.1,by simpa[Nat.blt_eq] using h12.2⟩
    refine⟨(vs0++[.int .i64 s0,.int .i64 n0])++VB,(r0.append (by simp only[Reps];exact⟨_,_,rfl,Cu u1,_,_,rfl,Cu u2,rfl⟩)).append h1,λx' E hw hfx hsh hr b k hk =>?_⟩;simp only[Zw1,Bs.sgs] at hsh;obtain⟨s1,s2⟩:=hsh.split;have hvl:vs0.length=l.length:=by rw[r0.len,hl0]
    simp[ Zf1,Zi1] at s1 s2;obtain⟨q1,q2⟩:=hr.take;simp[Zh1,Zf1,Zi1,hvl] at q1 q2;simp[C7] at hk;rw[Az] at hk;by_cases hbb:b=b0
    ·subst hbb;simp[if_true,Za1] at hk;subst hk;obtain⟨e0,hput,hrep0,hsh0⟩:=Ami (b:=b1) (c:=c) hvl.symm s1 q1;have hput2:Uq l.length b1 c E=e0++[.osl b1 c s0 n0]:=(M1 l.length b1 c E).symm.trans hput;rw[hput2];obtain⟨hm,hbn⟩:=hfx (.ptr b1 0) (by simp[fxs]) b1 (by simp[D4]);refine⟨⟨?_,vs0++[vo],t,by rw[hw.1];exact hh,hrep0.append ?_⟩,by rw[hds];simp,by simpa[Nat.blt_eq] using hok.1.1⟩
     ·simp[List.all_append,hsh0.lf hok12.1,Bool.true_and];rfl
     ·simp only[Reps];refine⟨vo,[],rfl,?_,rfl⟩;simp[Rep] at hro ⊢;rw[hm,hw.1,hw.2];exact⟨hbn,hro.2⟩
    ·rw[if_neg hbb] at hk;exact h2 x' _ hw (λd hd=>hfx d (by simp[fxs,List.mem_cons];exact .inr hd)) s2 q2 b k hk
   ·cases h
  ·cases h
theorem Ii{x:Vx}{n:Nat}{df:List D}{env:Env}{a:Act}(he:EnvR x n df (get env) a):∀{ow:List (Nat×Nat×Ck)}{O:List D},Jy env ow=some O->∃VO:List Value,Reps x O VO/\∀(x':Vx) (E:List D),(x'.m.bl=x.m.bl/\x'.w=x.w/\x'.el=x.el)->(∀p,p∈ow->p.2.1<x'.nb)->ShL (Ava ow) E->Reps x' E VO->∀k d,get (Asr ow E) k=some d->∃v,a.tmps[k]? = some v/\Rep x' d v
 |[],O,h=>by simp[Jy] at h;subst h;exact⟨[],by simp[Reps],λx' E _ _ _ _ k d hk=>by simp[Asr,get] at hk⟩
 |(k0,b,c)::ow,O,h=>by
  simp[Jy] at h;split at h
  ·rename_i b' c' s0 n0 ds hd hds;split at h
   ·rename_i hc;simp only[Zb1,Zg1] at hc;obtain⟨hc1,rfl⟩:=hc;have hc1:=Zl1 hc1;subst hc1;simp at h;subst h;obtain⟨VO,h1,h2⟩:=Ii he hds;obtain⟨v,hv,hr⟩:=he.get k0 _ hd;simp only[Rep] at hr;obtain⟨g1,g2,g3,g4,g5⟩:=hr;have u1:Fe .i64 s0=true:=by have:=Pw (show s0.toNat<=maxLen by omega);rwa[Int.toNat_of_nonneg g2] at this
    have u2:Fe .i64 n0=true:=by have:=Pw (show n0.toNat<=maxLen by omega);rwa[Int.toNat_of_nonneg g3] at this
    refine⟨.int .i64 s0 :: .int .i64 n0::VO,by simp only[Reps];exact⟨_,_,rfl,Cu u1,_,_,rfl,Cu u2,h1⟩,λx' E hm hb hsh hr' k d hk =>?_⟩;simp[Ava] at hsh;obtain⟨e1,E1,rfl,hs1,hsh⟩:=hsh;obtain⟨e2,E2,rfl,hs2,hsh⟩:=hsh;simp[Reps,Ze2] at hr';obtain⟨_,_,⟨rfl,rfl⟩,hr1,_,_,⟨rfl,rfl⟩,hr2,hr3⟩:=hr';cases e1 with
    |int k1 m1 =>
     cases e2 with
     |int k2 m2 =>
      simp[Rep,Value.int.injEq] at hr1 hr2;obtain⟨⟨_,rfl⟩,_⟩:=hr1;obtain⟨⟨_,rfl⟩,_⟩:=hr2;simp[Asr] at hk;rw[B8] at hk;by_cases hkk:k=k0
      ·subst hkk;simp at hk;subst hk;refine⟨v,hv,?_⟩;simp only[Rep];exact⟨hb _ Zr1,g2,g3,g4,by rw[hm.1,hm.2.1,hm.2.2];exact g5⟩
      ·rw[if_neg hkk] at hk;exact h2 x' _ hm (λp hp=>hb p (by simp[hp])) hsh hr3 k d hk
     |_=>simp[Asr,get] at hk
    |_=>simp[Asr,get] at hk
   ·cases h
  ·cases h
theorem Zc{x:Vx}:∀{frs:List Fr}{as_:List Act}{lb lt p q:Nat},Afr x lb lt frs as_↔Afr { x with nb:=p,nt:=q } lb lt frs as_
 |[],_,_,_,_,_=>Iff.rfl
 |f::frs,as_,lb,lt,p,q=>by
  simp[Afr];constructor
  ·rintro⟨a,r,h1,h2,h3,h4,h5⟩;exact⟨a,r,h1,h2,h3,h4,Zc.1 h5⟩
  ·rintro⟨a,r,h1,h2,h3,h4,h5⟩;exact⟨a,r,h1,h2,h3,h4,Zc.2 h5⟩
theorem Gi:∀(l:List Sg) (i p:Nat),p∈Bb i l->i<=p/\p<i+l.length
 |[],i,p,hp=>by simp[Bb] at hp
 |s::l,i,p,hp=>by
  have rec':p∈Bb (i+1) l->i<=p/\p<i+(s::l).length:=λh=>by have:=Gi l (i+1) p h;simp;omega
  cases s with
  |sl c own =>
   cases own with
   |true =>
    simp[Bb] at hp;rcases hp with rfl|hp
    ·simp
    ·exact rec' hp
   |false=>exact rec' (by simpa[Bb] using hp)
  |_=>exact rec' (by simpa[Bb] using hp)
theorem Gb:∀{l m:List Nat},C2 l m=true->l=m
 |[],[],_=>rfl
 |a::l,b::m,h=>by simp only[C2,Zb1] at h;rw[Zl1 h.1,Gb h.2]
 |[],_::_,h=>by simp[C2] at h
 |_::_,[],h=>by simp[C2] at h
theorem Az5(i:Nat)(l:List Sg)(x:HV l):(Br i l x).length=l.length:=(Ago i l x).len
theorem F3:∀(bl:List (Nat×Bs)) (E:List D),C7 bl (E.take ((bl.map (·.2.sgs)).flatten).length)=C7 bl E
 |[],E=>by simp[C7]
 |(b,.cells l)::bl,E=>by have ih:=F3 bl (E.drop l.length);simp only[C7,Zw1,Zz1,Bs.sgs,Zh1] at ih ⊢;rw[List.take_take,Nat.min_eq_left (Nat.le_add_right _ _),List.drop_take,Nat.add_sub_cancel_left,ih]
 |(b,.one s)::bl,[]=>by simp
 |(b,.one s)::bl,d::E=>by have ih:=F3 bl E;simp only[Zw1,Zz1,Bs.sgs,Zh1,Zf1,Zi1] at ih ⊢;rw[Nat.add_comm,List.take_succ_cons];simp only[C7];rw[ih]
 |(b,.bld _)::bl,[]=>by simp
 |(b,.bld _)::bl,d::E=>by have ih:=F3 bl E;simp only[Zw1,Zz1,Bs.sgs,Zh1,Zf1,Zi1] at ih ⊢;rw[Nat.add_comm,List.take_succ_cons];simp only[C7];rw[ih]
 |(b,.fx l)::bl,E=>by have ih:=F3 bl E;simp[C7,Bs.sgs] at ih ⊢;rw[ih]
 |(b,.oc l b1 c)::bl,E=>by
  have ih:=F3 bl (E.drop (l.length+2));simp only[C7,Zw1,Zz1,Bs.sgs,Zh1,Zf1,Zi1] at ih ⊢;have e1:∀q:Nat,Uq l.length b1 c (E.take (l.length+(0+1+1)+q))=Uq l.length b1 c E:=λq=>by rw[<-M1 l.length b1 c (E.take _),List.take_take,Nat.min_eq_left (Nat.le_add_right _ _),M1]
  have e2:∀q:Nat,l.length+(0+1+1)+q-(l.length+2)=q:=λq=>by omega
  rw[e1,List.drop_take,e2,ih]
theorem Rz{nb:Nat}:∀{bl:List (Nat×Bs)},(bl.all λp=>Nat.blt p.1 nb&&bsB nb p.2)=true->∀d,d∈fxs bl->Ah5 nb d=true
 |[],_,d,hd=>by cases hd
 |(_,.cells _)::bl,h,d,hd=>by simp only[Zv1,Zb1] at h;exact Rz h.2 d hd
 |(_,.one _)::bl,h,d,hd=>by simp only[Zv1,Zb1] at h;exact Rz h.2 d hd
 |(_,.bld _)::bl,h,d,hd=>by simp only[Zv1,Zb1] at h;exact Rz h.2 d hd
 |(_,.fx l)::bl,h,d,hd=>by
  simp only[Zv1,Zb1] at h;simp[fxs] at hd;rcases hd with hd|hd
  ·have hl:l.all (Ah5 nb)=true:=h.1.2;exact Zg2.1 hl d hd
  ·exact Rz h.2 d hd
 |(_,.oc l b1 c)::bl,h,d,hd=>by
  simp only[Zv1,Zb1] at h;simp[fxs] at hd;rcases hd with rfl|hd
  ·have h12:(l.all Ko&&Nat.blt b1 nb)=true:=h.1.2;simp only[Zb1] at h12;exact h12.2
  ·exact Rz h.2 d hd
theorem P0{env:Env}:∀{ow:List (Nat×Nat×Ck)}{O:List D},Jy env ow=some O->O.length=(Ava ow).length
 |[],O,h=>by simp[Jy] at h;subst h;rfl
 |(k,b,c)::ow,O,h=>by
  simp[Jy] at h;split at h
  ·rename_i hds;split at h
   ·simp at h;subst h;simp[Ava,P0 hds]
   ·cases h
  ·cases h
section
variable {cx:Cx}
theorem Rel.recode{m:Mp}{a:Act}{as_:List Act}{w:World}{sg:Sig}{st:St}{x:HV sg.sgs}(hok:U2 sg=true)(hd:Hs sg st=some x)(hr:Rel cx m a as_ (fs st) w):∃m',Rel cx m' a as_ (fs (Dp sg st.fr x)) w:=by
 simp only[U2,Zb1] at hok;obtain⟨⟨⟨hok1,hok2⟩,hok3⟩,hok4⟩:=hok;have hok3:sg.lb<=sg.nb:=by simpa using hok3
 unfold Hs at hd;split at hd
 ·rename_i A B O hA hB hO hc;simp only[Zb1] at hc;obtain⟨⟨⟨⟨⟨hc1,hc2⟩,hc3⟩,hc4⟩,hcd⟩,hc5⟩:=hc;have hc2:st.n=sg.n:=Zl1 hc2;have hc3:st.lb=sg.lb:=Zl1 hc3;have hc4:st.lt=sg.lt:=Zl1 hc4;obtain⟨VA,hVA,hVA2⟩:=J3 (env:=st.env) hr.env hA;obtain⟨VB,hVB,hVB2⟩:=Dl (x:=vx cx m (fs st) w) (m:=m.bl) (stbl:=st.bl) (λb k hk=>(hr.blks b k hk).2) hB hok2;obtain⟨VO,hVO,hVO2⟩:=Ii (env:=st.env) hr.env hO;obtain⟨as1,as2⟩:=Zu sg.lt hd;have hals:∀t,t∈(st.tk.filter λt => !sg.tk.contains t)->t∈st.tk/\t∉sg.tk:=λt ht=>by
   simp only[List.mem_filter] at ht;refine⟨ht.1,λhm =>?_⟩;have:sg.tk.contains t=true:=by simpa using hm
   rw[this] at ht;cases ht.2
  have htk:∀t,t∈sg.tk->(t∈st.tk/\t<sg.lt):=λt ht=>by have:=Zg2.1 hc5 t ht;simp at this;exact⟨by simpa using this.2,by simpa using this.1⟩
  let E:=Br sg.lt sg.sgs x;have hE:E.length=sg.sgs.length:=Az5 _ _ _;have hvl:sg.vars.length<=E.length:=by rw[hE];simp[Sig.sgs]
  obtain⟨z1,z2⟩:=Aqd sg.vars E hvl;let m':Mp:=⟨m.bl,λt=>if t<sg.lt then m.tk t else(asg sg.lt sg.sgs (A++(B++O)) t).bind m.tk⟩;have henc:Dp sg st.fr x=⟨sg.n,(Au5 sg.vars E).1++(sg.fix++Asr sg.ow ((E.drop sg.vars.length).drop ((sg.bl.map (·.2.sgs)).flatten).length)),sg.lb,sg.lt,st.fr,C7 sg.bl (E.drop sg.vars.length),sg.nb,Bb sg.lt sg.sgs++sg.tk,sg.lt+sg.sgs.length,[]⟩:=by unfold Dp;rw[<-z1]
  have hshE:ShL ((sg.bl.map (·.2.sgs)).flatten++Ava sg.ow) (E.drop sg.vars.length):=by have hsh:=(Ago sg.lt sg.sgs x);simp[Sig.sgs] at hsh;have hs2:=hsh.split.2;simp at hs2;exact hs2
  have hbl:∀(X':Vx),(X'.w=w/\X'.el=cx.el)->(∀d,d∈fxs sg.bl->∀b,b∈D4 d->X'.m.bl b=m.bl b/\b<X'.nb)->Reps X' ((E.drop sg.vars.length).take ((sg.bl.map (·.2.sgs)).flatten).length) VB->∀b k,blk (C7 sg.bl (E.drop sg.vars.length)) b=some k->Ia X' (m.bl b) k/\blk st.bl b≠none/\b<sg.nb:=λX' hw hfx hrp b k hk=>by exact hVB2 X' _ hw hfx hshE.split.1 hrp b k (by rw[F3];exact hk)
  have htoks:∀t,t∈Bb sg.lt sg.sgs++sg.tk->t<sg.lt+sg.sgs.length/\((t<sg.lt/\(t∈st.tk/\t∈sg.tk)/\m'.tk t=m.tk t)\/(sg.lt<=t/\t∈Bb sg.lt sg.sgs/\m'.tk t=(asg sg.lt sg.sgs (A++(B++O)) t).bind m.tk)):=λt ht=>by
   simp at ht;rcases ht with ht|ht
   ·obtain⟨h1,h2⟩:=Gi _ _ _ ht;exact⟨h2,.inr ⟨h1,ht,by simp[m',Nat.not_lt.2 h1]⟩⟩
   ·obtain⟨h1,h2⟩:=htk t ht;exact⟨by omega,.inl ⟨h2,⟨h1,ht⟩,by simp[m',h2]⟩⟩
  have horig:∀t g o,t∈Bb sg.lt sg.sgs++sg.tk->m'.tk t=some (g,o)->∃t',t'∈st.tk/\m.tk t' = some (g,o)/\(((t<sg.lt/\t∈sg.tk)/\t' = t)\/(sg.lt<=t/\t'∉sg.tk/\asg sg.lt sg.sgs (A++(B++O)) t=some t')):=λt g o ht hg=>by
   rcases(htoks t ht).2 with ⟨h1,h2,h3⟩|⟨h1,_,h3⟩
   ·rw[h3] at hg;exact⟨t,h2.1,hg,.inl ⟨⟨h1,h2.2⟩,rfl⟩⟩
   ·rw[h3] at hg;cases hasg:asg sg.lt sg.sgs (A++(B++O)) t with|none=>rw[hasg] at hg;cases hg|some t' =>rw[hasg,Zc1] at hg;obtain⟨q1,q2⟩:=hals t' (as1 t t' hasg).1;exact⟨t',q1,hg,.inr ⟨h1,q2,rfl⟩⟩
  let s':FS:=fs (Dp sg st.fr x);have hs'al:∀t,s'.al t↔t∈Bb sg.lt sg.sgs++sg.tk:=λt=>by simp[s',henc,fs]
  have hs'bl:s'.bl=blk (C7 sg.bl (E.drop sg.vars.length)):=by simp[s',henc,fs]
  have hpre:∀b,s'.bl b≠none->blk st.bl b≠none:=λb hb=>by
   rw[hs'bl] at hb;cases hk:blk (C7 sg.bl (E.drop sg.vars.length)) b with
   |none=>exact absurd hk hb
   |some k =>
    have:∀(bl:List (Nat×Bs)) (B:List D) (E:List D) (b:Nat) (k:Blk),Bv st.bl bl=some B->blk (C7 bl E) b=some k->blk st.bl b≠none:=by
     intro bl;induction bl with
     |nil=>intro B E b k _ hk;simp[C7,blk] at hk
     |cons p bl ih =>
      intro B E b k hg hk;obtain⟨b0,bs⟩:=p;cases bs with
      |cells l =>
       simp[Bv] at hg;split at hg
       ·rename_i ds es hds hes;simp[C7] at hk;rw[Az] at hk;by_cases hbb:b=b0
        ·rw[hbb,hds];simp
        ·rw[if_neg hbb] at hk;exact ih _ _ b k hes hk
       ·cases hg
      |bld t0 =>
       simp[Bv] at hg;split at hg
       ·rename_i t1 k0 es hk0 hes;cases E with
        |nil =>
         simp[C7] at hk;rw[Az] at hk;by_cases hbb:b=b0
         ·rw[hbb,hk0];simp
         ·rw[if_neg hbb] at hk;exact ih _ _ b k hes hk
        |cons e E =>
         simp[C7] at hk;rw[Az] at hk;by_cases hbb:b=b0
         ·rw[hbb,hk0];simp
         ·rw[if_neg hbb] at hk;exact ih _ _ b k hes hk
       ·cases hg
      |fx l =>
       simp[Bv] at hg;split at hg
       ·rename_i ds es hds hes;split at hg
        ·simp[C7] at hk;rw[Az] at hk;by_cases hbb:b=b0
         ·rw[hbb,hds];simp
         ·rw[if_neg hbb] at hk;exact ih _ _ b k hes hk
        ·cases hg
       ·cases hg
      |oc l b1 c =>
       simp[Bv] at hg;split at hg
       ·rename_i ds es hds hes;simp[C7] at hk;rw[Az] at hk;by_cases hbb:b=b0
        ·rw[hbb,hds];simp
        ·rw[if_neg hbb] at hk;exact ih _ _ b k hes hk
       ·cases hg
      |one s =>
       simp[Bv] at hg;split at hg
       ·cases hg
       ·cases hg
       ·rename_i k0 es hnb hnq hk0 hes;cases E with
        |nil =>
         simp[C7] at hk;rw[Az] at hk;by_cases hbb:b=b0
         ·rw[hbb,hk0];simp
         ·rw[if_neg hbb] at hk;exact ih _ _ b k hes hk
        |cons e E =>
         simp[C7] at hk;rw[Az] at hk;by_cases hbb:b=b0
         ·rw[hbb,hk0];simp
         ·rw[if_neg hbb] at hk;exact ih _ _ b k hes hk
       ·cases hg
    exact this sg.bl B _ b k hB hk
  have hfp:∀b i,Db m' s' b i->Db m (fs st) b i:=by
   rintro b i (⟨q,hq,rfl⟩|⟨t,o,h1,h2,h3⟩)
   ·exact .inl ⟨q,hpre q hq,rfl⟩
   ·obtain⟨t',q1,q2,_⟩:=horig t b o ((hs'al t).1 h1) h2;exact .inr ⟨t',o,q1,q2,h3⟩
  have hS:∀b i,(vx cx m' s' w).S b i->(vx cx m (fs st) w).S b i:=by
   rintro b i (h|h)
   ·exact .inl h
   ·exact .inr (hfp b i h)
  have hnt:(vx cx m' s' w).nt=sg.lt+sg.sgs.length:=by simp[vx,s',henc,fs]
  have hreps:Reps (vx cx m' s' w) E (VA++(VB++VO)):=Fa (X:=vx cx m (fs st) w) (X':=vx cx m' s' w) hS rfl rfl sg.lt hd (λt ht=>(hals t ht).1) (hVA.append (hVB.append hVO)) (λp hp=>by obtain⟨q1,q2⟩:=Gi _ _ _ hp;refine⟨by rw[hnt];exact q2,?_⟩;simp[vx,m',Nat.not_lt.2 q1])
  have hVAl:VA.length=sg.vars.length:=by
   have h1:=hVA.len;have:A.length=sg.vars.length:=by
    have:∀(vars:List (Nat×Sg)) (A:List D),Je st.env vars=some A->A.length=vars.length:=by
     intro vars;induction vars with
     |nil=>intro A h;simp[Je] at h;subst h;rfl
     |cons p vars ih =>
      intro A h;simp[Je] at h;split at h
      ·rename_i d ds _ hds;simp at h;subst h;simp[ih ds hds]
      ·cases h
    exact this _ _ hA
   omega
  obtain⟨r1,r2⟩:=hreps.take;rw[hVAl] at r1 r2;have hVBl:VB.length=((sg.bl.map (·.2.sgs)).flatten).length:=by have e1:=r2.len;have e2:=hshE.len;have e3:=hVO.len;have e4:=P0 hO;simp only[Zh1] at e1 e2;omega
  obtain⟨r3,r4⟩:=r2.take;rw[hVBl] at r3 r4;refine⟨m',?_⟩;show Rel cx m' a as_ s' w;have hlb':s'.lb=sg.lb:=by simp[s',henc,fs]
  have hlt':s'.lt=sg.lt:=by simp[s',henc,fs]
  have hfr':s'.fr=st.fr:=by simp[s',henc,fs]
  have hnb':s'.nb=sg.nb:=by simp[s',henc,fs]
  have hnt':s'.nt=sg.lt+sg.sgs.length:=hnt;have hdf:a.defers=[]:=hr.noDf (List.isEmpty_iff.1 hcd);refine⟨hr.chg,⟨by rw[show s'.df=[] by simp[s',henc,fs],hdf];rfl,?_,λk d hk =>?_⟩,?_,?_,?_,λb k hk =>?_,λt ht =>?_,λb b' h1 h2=>hr.inj b b' (hpre b h1) (hpre b' h2),?_,?_,λb i hi=>hr.own b i (hfp b i hi),hr.away,?_⟩
  ·have:s'.n=sg.n:=by simp[s',henc,fs]
   rw[this,<-hc2];exact hr.env.size
  ·have hk':get ((Au5 sg.vars E).1++(sg.fix++Asr sg.ow ((E.drop sg.vars.length).drop ((sg.bl.map (·.2.sgs)).flatten).length))) k=some d:=by simpa only[s',henc,fs] using hk
   rcases Ahr _ _ _ _ hk' with h|h
   ·obtain⟨i,s,h1,h2⟩:=z2 k d h;obtain⟨v,h3,h4⟩:=hVA2 i k s h1;have hlt:i<VA.length:=(Zi2.1 h3).1;obtain⟨u,hu,hru⟩:=hreps.get h2;rw[List.getElem?_append_left hlt,h3] at hu;simp at hu;subst hu;exact⟨v,h4,hru⟩
   rcases Ahr _ _ _ _ h with h|h
   ·obtain⟨h1,d',h2,h3⟩:=A5z hc1 hok1 h;obtain⟨v,h4,h5⟩:=hr.env.get k d' h2;exact⟨v,h4,Ad5 (x:=vx cx m (fs st) w) (λb hb=>⟨rfl,by simp[vx,hnb'];exact Bcm h1 b hb⟩) h3 h5⟩
   ·exact hVO2 (vx cx m' s' w) _ ⟨rfl,rfl,rfl⟩ (λp hp=>by have:=Zg2.1 hok4 p hp;simp[vx,hnb'];simpa using this) hshE.split.2 r4 k d h
  ·rw[hlb',hlt',hfr'];have h0:=hr.frs;have e1:(fs st).lb=sg.lb:=hc3;have e2:(fs st).lt=sg.lt:=hc4;rw[e1,e2] at h0;have h1:=(Zc (p:=sg.lb) (q:=sg.lt)).1 h0;refine(Zc (p:=sg.lb) (q:=sg.lt)).2 (Afr.later (x:={ vx cx m (fs st) w with nb:=sg.lb,nt:=sg.lt }) ?_ (Zn1 _) (Zn1 _) h1);refine⟨Chg.refl _ _,λb i hi =>.inl (hS b i hi),rfl,λ_ _=>rfl,Zn1 _,Zn1 _,λt ht ha =>?_⟩;have ht:t<sg.lt:=ht;rcases(htoks t ((hs'al t).1 ha)).2 with ⟨_,q2,q3⟩|⟨q1,_,_⟩
   ·exact⟨q2.1,q3,λ_ _ _=>rfl⟩
   ·omega
  ·rw[hlb',hnb'];exact hok3
  ·rw[hlt',hnt'];omega
  ·rw[hs'bl] at hk;obtain⟨q1,_,q3⟩:=hbl (vx cx m' s' w) ⟨rfl,rfl⟩ (λd hd b hb=>⟨rfl,by simp[vx,hnb'];exact Aom (Rz hok2 d hd) b hb⟩) r3 b k hk;exact⟨by rw[hnb'];exact q3,q1⟩
  ·rw[hnt'];exact(htoks t ((hs'al t).1 ht)).1
  ·intro t t' g o o' h1 h2 h3 h4;obtain⟨u,q1,q2,q3⟩:=horig t g o ((hs'al t).1 h1) h3;obtain⟨u',p1,p2,p3⟩:=horig t' g o' ((hs'al t').1 h2) h4;have huu:=hr.injt u u' g o o' q1 p1 q2 p2;subst huu;rcases q3 with ⟨a1,a2⟩|⟨a1,a2,a3⟩<;>rcases p3 with ⟨b1,b2⟩|⟨b1,b2,b3⟩
   ·rw[<-a2,<-b2]
   ·rw[a2] at b2;exact absurd a1.2 b2
   ·rw[b2] at a2;exact absurd b1.2 a2
   ·exact as2 t t' u a3 b3
  ·intro b t g o h1 h2 h3;obtain⟨u,q1,q2,_⟩:=horig t g o ((hs'al t).1 h2) h3;exact hr.injbt b u g o (hpre b h1) q1 q2
  ·exact⟨λg c xs hx i y hy w' hw=>hr.glb.1 g c xs hx i y hy w' (hw.mono hS),λg l hl=>by obtain⟨r,es,clk,q1,q2⟩:=hr.glb.2.1 g l hl;exact⟨r,es,clk,λw' hw=>q1 w' (hw.mono hS),q2⟩,λg k hk=>by obtain⟨n,q1⟩:=hr.glb.2.2 g k hk;exact⟨n,λw' hw=>q1 w' (hw.mono hS)⟩⟩
 ·cases hd
end
theorem Rh(n:Nat)(p:Nat->Bool):(Cl n p).size=n:=by simp[Cl]
theorem Akb{n i:Nat}{p:Nat->Bool}(h:i<n)(d:Bool):(Cl n p).getD i d=p i:=by
 have h':i<(Cl n p).size:=by rw[Rh];exact h
 rw[Array.getD_eq_getD_getElem?,Zk2 h'];simp[Cl]
theorem A6n{n:Nat}{p:Nat->Bool}{listed:Array Bool}(hs:listed.size=n)(h:∀i,i<n->listed.getD i true=p i):listed=Cl n p:=by
 apply Array.ext_getElem?;intro i;by_cases hi:i<n
 ·have h1:=h i hi;have h2:(Cl n p).getD i true=p i:=Akb hi true;have e1:listed[i]? = some (listed[i]'(by omega)):=Zk2 (by omega);have hi2:i<(Cl n p).size:=by rw[Rh];exact hi
  have e2:(Cl n p)[i]? = some ((Cl n p)[i]'hi2):=Zk2 hi2;rw[Array.getD_eq_getD_getElem?,e1] at h1;rw[Array.getD_eq_getD_getElem?,e2] at h2;rw[e1,e2];simp at h1 h2;rw[h1,h2]
 ·rw[Array.getElem?_eq_none (by omega),Array.getElem?_eq_none (by rw[Rh];omega)]
theorem Ht{n j:Nat}{p:Nat->Bool}(hj:j<n){q:Nat->Bool}(h:∀i,i<n->q i=(p i||Nat.beq i j)):(Cl n p).setIfInBounds j true=Cl n q:=by
 refine A6n (by rw[Array.size_setIfInBounds,Rh]) λi hi =>?_;rw[h i hi];by_cases hij:i=j
 ·simp_all
 ·rw[getD_set_ne true (Ne.symm hij),Akb hi,Fo hij,Bool.or_false]
theorem Boo{n j:Nat}{p:Nat->Bool}{ops:Array Oper}(hn:ops.size=n)(h:j∈Region.ready .any ops (Cl n p)):j<n/\p j=false:=by
 obtain⟨h0,o,ho,_⟩:=mem_ready.1 h;have hj:j<n:=by rw[<-hn];exact(Zh2.1 ho).1
 rw[Akb hj] at h0;exact⟨hj,h0⟩
theorem Bkn{P:Program}{o:Oper}{a:Act}{w:World}{K K':Act->World->Prop}{Q Q':Exit->Act->World->Prop}(hk:∀a w,K a w->K' a w)(h:∀e a w,Q e a w->Q' e a w)(hh:o.wp P a w K Q):o.wp P a w K' Q':=by
 unfold Oper.wp at *;generalize (execOp a.eval o).run P w=r at *;have hl:LetsOut Q->LetsOut Q':=λ⟨a,w,hq⟩=>⟨a,w,h _ _ _ hq⟩;cases r with
 |ok n w' =>
  cases n<;>simp[Oper.upon] at hh ⊢ <;>
   first
    |exact hk _ _ hh
    |exact Calls.mono hh (λe w'' he=>by cases e<;>first|exact hk _ _ he|exact hl he|exact h _ _ _ he)
    |exact Rows.mono hh (λ_ _ he=>hk _ _ he)
    |exact hh
 |halt x w'=>cases x<;>simp[Oper.upon] at hh ⊢ <;> first|exact hh|exact h _ _ _ hh
theorem A10{P:Program}{ops:Array Oper}{i:Nat}{a:Act}{w:World}{K K':Act->World->Prop}{Q Q':Exit->Act->World->Prop}(hk:∀a w,K a w->K' a w)(h:∀e a w,Q e a w->Q' e a w)(hh:wpOp P ops Q i K a w):wpOp P ops Q' i K' a w:=by
 unfold wpOp at *;split
 ·grind
 ·rename_i o ho;simp[ho] at hh;split
  ·rename_i hw;simp[hw] at hh;exact hh.imp (Bkn hk h) λ⟨h1,a,w,hq⟩=>⟨h1,a,w,h _ _ _ hq⟩
  ·grind
theorem Adh{P:Program}{ops:Array Oper}{Q Q':Exit->Act->World->Prop}(h:∀e a w,Q e a w->Q' e a w):∀(fuel:Nat) (listed:Array Bool) (a:Act) (w:World),wpAny P .any ops Q fuel listed a w->wpAny P .any ops Q' fuel listed a w
 |0,_,_,_,hh=>⟨hh.1,h _ _ _ hh.2⟩
 |fuel+1,_,_,_,hh=>⟨λhr=>h _ _ _ (hh.1 hr),λi hi=>A10 (λa' w'=>Adh h fuel _ a' w') h (hh.2 i hi)⟩
def Nrm(Q:Exit->Act->World->Prop):Exit->Act->World->Prop:=λe a w=>e = .normal/\Q e a w
theorem A8j{Q:Exit->Act->World->Prop}(h:LetsOut (Nrm Q)):False:=by obtain⟨_,_,h,_⟩:=h;cases h
theorem A0c{P:Program}{ops:Array Oper}{Q:Exit->Act->World->Prop}{i:Nat}{o:Oper}{K:Act->World->Prop}{a:Act}{w w':World}{v:Value}(hi:ops[i]? = some o)(hg:o.guard=none)(hx:(execOp a.eval o).run P w = .ok (.value v) w')(hk:K (a.put o.dst v) w'):wpOp P ops Q i K a w:=by unfold wpOp;simp[hi,C5 hg,Oper.wp,hx];exact .inl hk
theorem Rs{P:Program}{ops:Array Oper}{Q:Exit->Act->World->Prop}{i:Nat}{o:Oper}{K:Act->World->Prop}{a:Act}{w w':World}(hi:ops[i]? = some o)(hg:o.guard=none)(hd:o.dst=none)(hx:(execOp a.eval o).run P w = .ok .skip w')(hk:K a w'):wpOp P ops Q i K a w:=by unfold wpOp;simp[hi,C5 hg,Oper.wp,hx,Oper.upon,hd];exact .inl hk
theorem Zi{P:Program}{ops:Array Oper}{Q:Exit->Act->World->Prop}{o:Oper}{l:List Oper}{a:Act}{w w':World}{v:Value}(hg:o.guard=none)(hx:(execOp a.eval o).run P w = .ok (.value v) w')(h:wpList P ops (Nrm Q) (o::l) a w):wpList P ops (Nrm Q) l (a.put o.dst v) w':=by
 simp[wpList,C5 hg,Oper.wp,hx] at h;rcases h with h|⟨_,h⟩
 ·exact h
 ·exact(A8j h).elim
theorem Ayg{P:Program}{ops:Array Oper}{Q:Exit->Act->World->Prop}{o:Oper}{l:List Oper}{a:Act}{w w':World}(hg:o.guard=none)(hd:o.dst=none)(hx:(execOp a.eval o).run P w = .ok .skip w')(h:wpList P ops (Nrm Q) (o::l) a w):wpList P ops (Nrm Q) l a w':=by
 simp[wpList,C5 hg,Oper.wp,hx,Oper.upon,hd] at h;rcases h with h|⟨_,h⟩
 ·exact h
 ·exact(A8j h).elim
theorem Aqv{P:Program}{a:Act}{w:World}{o:Oper}{u:TypeId}{x y:Operand}{β off:Nat}{v:Value}{t:TypeId}{vs:List Value}(ho:o.op = .store u x y)(hx:a.eval x = .pointer (some ⟨β,off,none⟩))(hy:a.eval y=v)(h1:Sx.one v=true)(hz:Sx.tySz P u=some 1)(hh:w.heap[β]? = some (.cells vs.toArray t (0,0)))(hl:off<vs.length):(execOp a.eval o).run P w = .ok .skip (Sx.setCells w β off [v]):=by
 have hcl:v.cells.toList=[v]:=by rw[Sx.one_cells h1]
 have hsz:v.cells.size=1:=by rw[<-Array.length_toList,hcl];rfl
 obtain⟨r1,_,_⟩:=Sx.run_storeCells (P:=P) [v] w β off 0 vs t hh (by simp;omega) (λq hq=>by simp at hq;subst hq;exact h1);simp[execOp,ho,Instr.storeAt,hx,hy,Instr.sureAddr,storeVar,Sx.run_sizeOf hz,hsz,hcl];rw[r1];simp
theorem Amo{w:World}{g β off off':Nat}{us vs cs ds:List Value}{t t':TypeId}{f f':Nat×Nat}(hg:w.heap[g]? = some (.cells cs.toArray t f))(hβ:w.heap[β]? = some (.cells ds.toArray t' f'))(hne : β≠g):Sx.setCells (Sx.setCells w g off us) β off' vs=Sx.setCells (Sx.setCells w β off' vs) g off us:=by
 rw[C4 us cs w g off hg,C4 vs ds w β off' hβ];have h1:(w.setRow g (Sx.writeAt cs off us).toArray).heap[β]? = some (.cells ds.toArray t' f'):=by rw[setRow_other w g β _ hne];exact hβ
 have h2:(w.setRow β (Sx.writeAt ds off' vs).toArray).heap[g]? = some (.cells cs.toArray t f):=by rw[setRow_other w β g _ (Ne.symm hne)];exact hg
 rw[C4 vs ds _ β off' h1,C4 us cs _ g off h2];exact Ayu w (Ne.symm hne) _ _
theorem Q5{w:World}{g k off:Nat}{us cs:List Value}{t:TypeId}{f:Nat×Nat}(hg:w.heap[g]? = some (.cells cs.toArray t f))(hne:k≠g):(Sx.setCells w g off us).heap[k]? = w.heap[k]? := by rw[C4 us cs w g off hg,setRow_other w g k _ hne]
theorem I7{a:Nat}{l:List Nat}(h:dNe a l=true):∀b,b∈l->a≠b:=λb hb e=>by have:=Zg2.1 h b hb;rw[e] at this;simp at this
section
variable {R:Type}{px:Px R}{cx:Cx}
theorem A7j(hp:PxOk cx px){o:Oper}{u:TypeId}{x y:Operand}{st:St}{b off:Nat}{c:Ck}{xs:List (El c)}{t:Tk}{K:St->Option R}{r:R}(ho:o.op = .store u x y)(hx:ev px st 0 x=some (.ptr b off))(hy:ev px st u y=some (.sl c xs t))(hb:(∃ds,blk st.bl b=some (.cells ds))\/∃c y,blk st.bl b=some (.box c y))(h:Ym px o st K=some r) :
  Sx.tySz cx.P u=some 1/\∀(x:Vx) (β:Nat) k,blk st.bl b=some k->Ia x β k->∃(vs:List Value) (t:TypeId),x.w.heap[β]? = some (.cells vs.toArray t (0,0))/\off<vs.length:=by
 unfold Ym at h;simp[ho,hx,hy] at h;rcases hb with ⟨ds,hb⟩|⟨c',y',hb⟩
 ·simp[hb] at h;split at h
  ·rename_i hc;simp only[Zb1] at hc;obtain⟨⟨⟨hc1,hc2⟩,_⟩,hc4⟩:=hc;have hc1 : 1=(px.tt u).n:=Zl1 hc1;have hc2:off+1<=ds.length:=Nat.le_of_ble_eq_true hc2;refine⟨by rw[(Di (hp.tt u) (D7 hc4).1).2.2,<-hc1],λx β k hk hr =>?_⟩;rw[hb] at hk;simp at hk;subst hk;obtain⟨_,vs,t,h1,h2⟩:=hr;exact⟨vs,t,h1,by rw[h2.len];omega⟩
  ·cases h
 ·simp[hb] at h;split at h
  ·rename_i hc;simp only[Zb1] at hc;obtain⟨⟨⟨hc1,hc2⟩,_⟩,hc4⟩:=hc;have hc1 : 1=(px.tt u).n:=Zl1 hc1;have hc2:off+1<=(enc c' y').length:=Nat.le_of_ble_eq_true hc2;rw[B7] at hc2;refine⟨by rw[(Di (hp.tt u) (D7 hc4).1).2.2,<-hc1],λx β k hk hr =>?_⟩;rw[hb] at hk;simp at hk;subst hk;obtain⟨_,vs,t,h1,h2,_⟩:=hr;exact⟨vs,t,h1,by omega⟩
  ·cases h
theorem Ye{a b:Nat}:Nat.ble a b=decide (a<=b):=by cases h:Nat.ble a b with|true=>exact(Ze1 (Nat.le_of_ble_eq_true h)).symm|false=>exact(Zd1 λe=>by rw[Nat.ble_eq_true_of_le e] at h;cases h).symm
theorem Oo{a b:Nat}:Nat.beq a b=decide (a=b):=by
 by_cases h:a=b
 ·subst h;simp
 ·rw[Fo h,Zd1 h]
theorem Bqn{a b:Nat}:Nat.blt a b=decide (a<b):=by cases h:Nat.blt a b with|true=>rw[Nat.blt_eq] at h;exact(Ze1 h).symm|false=>exact(Zd1 λe=>by rw[<-Nat.blt_eq] at e;rw[e] at h;cases h).symm
end
section
variable {R:Type}{px:Px R}{cx:Cx}
theorem Acc{Q:Exit->Act->World->Prop}{f:Act->Act}:∀c (a:Act) (w:World),Nrm Q (.panic c) (f a) w->Nrm Q (.panic c) a w:=λ_ _ _ h=>by cases h.1
structure Far (cx:Cx) (o:Oper) (u:TypeId) (g:Nat) (wA:World) (β off:Nat) (vs:List Value) (t:TypeId):Prop where
 sz:Sx.tySz cx.P u=some 1
 ne : β≠g
 row:wA.heap[β]? = some (.cells vs.toArray t (0,0))
 lt:off<vs.length
theorem Awa{ops:Array Oper}{Q:Exit->Act->World->Prop}{iC iS:Nat}{oc os:Oper}{u:TypeId}{x y:Operand}{a:Act}{wA:World}{g o1 β off:Nat}{us cs vs:List Value}{t0 t:TypeId}{v:Value}{p0 p1 p2 p3:Nat->Bool}(hC:ops[iC]? = some oc)(hS:ops[iS]? = some os)(hCS:iC≠iS)
  (gC:oc.guard=none) (dC:oc.dst=none) (gS:os.guard=none) (dS:os.dst=none) (hop:os.op = .store u x y) (hx:a.eval x = .pointer (some ⟨β,off,none⟩)) (hy:a.eval y=v) (hv:Sx.one v=true) (hF:Far cx os u g wA β off vs t)
  (hrow:wA.heap[g]? = some (.cells cs.toArray t0 (0,0))) (hc:∀(w':World) (cs':List Value),w'.heap[g]? = some (.cells cs'.toArray t0 (0,0))->cs'.length=cs.length->(execOp a.eval oc).run cx.P w' = .ok .skip (Sx.setCells w' g o1 us))
  (h0:∀i,i<ops.size->p0 i=decide (i≠iC/\i≠iS)) (h1:∀i,i<ops.size->p1 i=decide (i≠iS)) (h2:∀i,i<ops.size->p2 i=decide (i≠iC)) (h3:∀i,i<ops.size->p3 i=true)
  (r0:(Region.ready .any ops (Cl ops.size p0)).contains iC=true) (r1:Region.ready .any ops (Cl ops.size p1)=[iS]) (r2:Region.ready .any ops (Cl ops.size p2)=[iC]) (r3:Region.ready .any ops (Cl ops.size p3)=[])
  (hfin:wpList cx.P ops (Nrm Q) [os] a (Sx.setCells wA g o1 us)) (fuel:Nat):wpAny cx.P .any ops (Nrm Q) (fuel+2) (Cl ops.size p0) a wA:=by
 have hCn:iC<ops.size:=(Zh2.1 hC).1;have hSn:iS<ops.size:=(Zh2.1 hS).1;have s1:(Cl ops.size p0).setIfInBounds iC true=Cl ops.size p1:=Ht hCn λi hi=>by rw[h0 i hi,h1 i hi,Oo];rw[<-Bool.decide_or];exact Zy1.2 (by omega)
 have s2:(Cl ops.size p0).setIfInBounds iS true=Cl ops.size p2:=Ht hSn λi hi=>by rw[h0 i hi,h2 i hi,Oo];rw[<-Bool.decide_or];exact Zy1.2 (by omega)
 have s3:(Cl ops.size p1).setIfInBounds iS true=Cl ops.size p3:=Ht hSn λi hi=>by rw[h1 i hi,h3 i hi,Oo];rw[<-Bool.decide_or];exact(Ze1 (by omega)).symm
 have s4:(Cl ops.size p2).setIfInBounds iC true=Cl ops.size p3:=Ht hCn λi hi=>by rw[h2 i hi,h3 i hi,Oo];rw[<-Bool.decide_or];exact(Ze1 (by omega)).symm
 have row2:(Sx.setCells wA g o1 us).heap[β]? = some (.cells vs.toArray t (0,0)):=by rw[Q5 hrow hF.ne];exact hF.row
 have rowS:(Sx.setCells wA β off [v]).heap[g]? = some (.cells cs.toArray t0 (0,0)):=by rw[Q5 hF.row (Ne.symm hF.ne)];exact hrow
 have x2:=Aqv (P:=cx.P) hop hx hy hv hF.sz row2 hF.lt;have xS:=Aqv (P:=cx.P) hop hx hy hv hF.sz hF.row hF.lt;have hend:Nrm Q .normal a (Sx.setCells (Sx.setCells wA g o1 us) β off [v]):=by have:=Ayg gS dS x2 hfin;simpa[wpList] using this
 refine⟨λh=>(by rw[h] at r0;cases r0),λj hj =>?_⟩;obtain⟨hjn,hjp⟩:=Boo rfl hj;rw[h0 j hjn,decide_eq_false_iff_not] at hjp;by_cases hjC:j=iC
 ·subst hjC;refine Rs hC gC dC (hc wA cs hrow rfl) ?_;rw[s1];refine wpAny_all r1 (by simp) λi hi =>?_;simp at hi;subst hi;refine Rs hS gS dS x2 ?_;rw[s3];exact wpAny_done r3 hend fuel
 ·have hjS:j=iS:=Decidable.byContradiction λe=>hjp ⟨hjC,e⟩;subst hjS;refine Rs hS gS dS xS ?_;rw[s2];refine wpAny_all r2 (by simp) λi hi =>?_;simp at hi;subst hi;refine Rs hC gC dC (hc _ cs rowS rfl) ?_;rw[s4,<-Amo hrow hF.row hF.ne];exact wpAny_done r3 hend fuel
theorem An7{ops:Array Oper}{Q:Exit->Act->World->Prop}{e:Nat}{q3:Bool}{oa ob oc:Oper}{st st2:St}{m:Mp}{a:Act}{as_:List Act}{w:World}(hA:ops[e]? = some oa)(hB:ops[e+1]? = some ob)(hr:Rel cx m a as_ (fs st) w)(f:Fuse cx oa ob oc st st2 m a as_ w)(hE:Mk ops e q3=true)(fuel:Nat)
  (h:wpAny cx.P .any ops (Nrm Q) fuel (Cl ops.size λi=>Nat.ble i (e+1)) ((a.put (some f.d) f.v7).put (some f.d2) f.vp) f.wA):wpAny cx.P .any ops (Nrm Q) (fuel+2) (Cl ops.size λi=>Nat.blt i e) a w:=by
 simp only[Mk,Zb1] at hE;obtain⟨⟨⟨⟨⟨⟨hs,_⟩,hr0⟩,hr1⟩,hf1⟩,_⟩,_⟩:=hE;have hr0:Region.ready .any ops (Cl ops.size λi=>Nat.blt i e)=[e]:=by simpa using hr0
 have hAn:e<ops.size:=(Zh2.1 hA).1;have hBn:e+1<ops.size:=(Zh2.1 hB).1;have s1:(Cl ops.size λi=>Nat.blt i e).setIfInBounds e true=Cl ops.size λi=>Nat.ble i e:=Ht hAn λi hi=>by rw[Ye,Bqn,Oo];rw[<-Bool.decide_or];exact Zy1.2 (by omega)
 have s2:(Cl ops.size λi=>Nat.ble i e).setIfInBounds (e+1) true=Cl ops.size λi=>Nat.ble i (e+1):=Ht hBn λi hi=>by rw[Ye,Ye,Oo];rw[<-Bool.decide_or];exact Zy1.2 (by omega)
 have hsz:a.tmps.size=st.n:=hr.env.size;have hd:f.d<a.tmps.size:=by rw[hsz];exact f.lt
 refine wpAny_all hr0 (by simp) λi hi =>?_;simp at hi;subst hi;refine A0c hA f.gd f.run ?_;rw[f.dst,s1];refine wpAny_take (v:=f.vp) hB hs hf1 hr1 (Acc (f:=λa=>a.put ob.dst f.vp)) (.inl ⟨C5 f.gd2 _,λw'=>f.run2 _ w' (Gc hd) (Ct f.nei)⟩) ?_;rw[s2,f.dst2];exact h
theorem Bs9{ops:Array Oper}{Q:Exit->Act->World->Prop}{e:Nat}{oa ob oc os:Oper}{st st2:St}{m:Mp}{a:Act}{as_:List Act}{w:World}(hA:ops[e]? = some oa)(hB:ops[e+1]? = some ob)(hC:ops[e+2]? = some oc)(hS:ops[e+3]? = some os)(hr:Rel cx m a as_ (fs st) w)(f:Fuse cx oa ob oc st st2 m a as_ w)(hE:Mk ops e false=true)
  {u:TypeId}{k β off:Nat}{vs:List Value}{t:TypeId}(hop:os.op = .store u (.tmp k) (.tmp f.d)) (gS:os.guard=none) (dS:os.dst=none) (hk1:k≠f.d) (hk2:k≠f.d2) (hx:a.eval (.tmp k) = .pointer (some ⟨β,off,none⟩)) (hF:Far cx os u f.g f.wA β off vs t)
  (hfin:wpList cx.P ops (Nrm Q) [os] ((a.put (some f.d) f.v7).put (some f.d2) f.vp) (Sx.setCells f.wA f.g f.off f.us)) (fuel:Nat):wpAny cx.P .any ops (Nrm Q) (fuel+4) (Cl ops.size λi=>Nat.blt i e) a w:=by
 refine An7 hA hB hr f hE (fuel+2) ?_;have hE0:=hE;simp only[Mk,Zb1] at hE;obtain⟨⟨⟨⟨⟨⟨hs,_⟩,_⟩,_⟩,_⟩,hall⟩,⟨⟨hn,hr2⟩,hr3⟩,hr4⟩:=hE;have hn:ops.size=e+4:=Zl1 hn;have hsz:a.tmps.size=st.n:=hr.env.size;have hd:f.d<a.tmps.size:=by rw[hsz];exact f.lt
 have hd2:f.d2<(a.put (some f.d) f.v7).tmps.size:=by simp[Act.put,hsz];exact f.lt2
 have hne:∀{x b:Nat},x≠b->L0 (.tmp x) b=true:=λh=>by simp[L0,Fo h]
 refine Awa (iC:=e+2) (iS:=e+3) (p1:=λi=>Nat.ble i (e+2)) (p2:=λi=>Nat.ble i (e+1)||Nat.beq i (e+3)) (p3:=λ_=>true) (v:=f.v7) hC hS (by omega) f.gd3 f.dst3 gS dS hop ?_ ?_ f.one hF f.row (λw' cs' h1 h2=>f.run3 _ w' cs' (Gc hd2) ((Ct f.ney2).trans (Ct f.ney)) h1 h2)
  (λi hi =>?_) (λi hi =>?_) (λi hi =>?_) (λ_ _=>rfl) hr2 (by simpa using hr3) (by simpa using hr4) (by simpa using hall) hfin fuel
 ·rw[Ct (hne hk2),Ct (hne hk1)];exact hx
 ·rw[Ct (hne f.ne)];exact Gc hd
 ·rw[Ye];exact Zy1.2 (by omega)
 ·rw[Ye];exact Zy1.2 (by omega)
 ·rw[Ye,Oo,<-Bool.decide_or];exact Zy1.2 (by omega)
theorem Bsu(hp:PxOk cx px){ops:Array Oper}{Q:Exit->Act->World->Prop}{e:Nat}{oa ob oc on of os:Oper}{st st2:St}{m:Mp}{a:Act}{as_:List Act}{w:World}(hA:ops[e]? = some oa)(hB:ops[e+1]? = some ob)(hC:ops[e+2]? = some oc)(hN:ops[e+3]? = some on)(hO:ops[e+4]? = some of)(hS:ops[e+5]? = some os)(hr:Rel cx m a as_ (fs st) w)(f:Fuse cx oa ob oc st st2 m a as_ w)(hE:Mk ops e true=true)
  {u s0:TypeId}{k dn df fi fo β off:Nat}{fu:Ty}{vs:List Value}{t:TypeId}(hopN:on.op = .nilCheck (.tmp k)) (hopF:of.op = .fieldAddr s0 (.tmp dn) fi) (hop:os.op = .store u (.tmp df) (.tmp f.d)) (gN:on.guard=none) (gF:of.guard=none) (gS:os.guard=none) (dN:on.dst=some dn) (dF:of.dst=some df) (dS:os.dst=none)
  (hk:dNe k [f.d,f.d2,dn,df]=true) (hdn:dNe dn [f.d,f.d2,df]=true) (hdf:dNe df [f.d,f.d2]=true) (hy1:L0 f.y dn=true) (hy2:L0 f.y df=true) (hdnn:dn<st.n) (hdfn:df<st.n) (hfo:Atp px s0 fi=some (fo,fu)) (hx:a.eval (.tmp k) = .pointer (some ⟨β,off,none⟩)) (hF:Far cx os u f.g f.wA β (off+fo) vs t)
  (hfin:wpList cx.P ops (Nrm Q) [on,of,os] ((a.put (some f.d) f.v7).put (some f.d2) f.vp) (Sx.setCells f.wA f.g f.off f.us)) (fuel:Nat):wpAny cx.P .any ops (Nrm Q) (fuel+6) (Cl ops.size λi=>Nat.blt i e) a w:=by
 refine An7 hA hB hr f hE (fuel+4) ?_;have hE0:=hE;simp only[Mk,Zb1] at hE;obtain⟨⟨⟨⟨⟨⟨hs,_⟩,_⟩,_⟩,_⟩,hall⟩,⟨⟨⟨⟨⟨⟨hn,hr2⟩,hf2⟩,hr3⟩,hf3⟩,hr4⟩,hr5⟩,hr6⟩:=hE;have hn:ops.size=e+6:=Zl1 hn;have hsz:a.tmps.size=st.n:=hr.env.size;have hd:f.d<a.tmps.size:=by rw[hsz];exact f.lt
 have hd2:f.d2<(a.put (some f.d) f.v7).tmps.size:=by simp[Act.put,hsz];exact f.lt2
 have hne:∀{x b:Nat},x≠b->L0 (.tmp x) b=true:=λh=>by simp[L0,Fo h]
 have hk:=I7 hk;have hdn:=I7 hdn;have hdf:=I7 hdf;have k1:k≠f.d:=hk _ (by simp);have k2:k≠f.d2:=hk _ (by simp);have n1:dn≠f.d:=hdn _ (by simp);have n2:dn≠f.d2:=hdn _ (by simp);have n3:dn≠df:=hdn _ (by simp);have m1:df≠f.d:=hdf _ (by simp);have m2:df≠f.d2:=hdf _ (by simp);have hx3:((a.put (some f.d) f.v7).put (some f.d2) f.vp).eval (.tmp k) = .pointer (some ⟨β,off,none⟩):=by rw[Ct (hne k2),Ct (hne k1)];exact hx
 have xN:∀w',(execOp ((a.put (some f.d) f.v7).put (some f.d2) f.vp).eval on).run cx.P w' = .ok (.value (.pointer (some ⟨β,off,none⟩))) w':=λw'=>by simp[execOp,hopN,hx3]
 have hdnl:dn<((a.put (some f.d) f.v7).put (some f.d2) f.vp).tmps.size:=by simp[Act.put,hsz];exact hdnn
 have hdfl:df<(((a.put (some f.d) f.v7).put (some f.d2) f.vp).put (some dn) (.pointer (some ⟨β,off,none⟩))).tmps.size:=by simp[Act.put,hsz];exact hdfn
 obtain⟨_,_,_,_,_,_,_,_,_,_,hfa⟩:=Lu hp hfo;have xF:∀w',(execOp (((a.put (some f.d) f.v7).put (some f.d2) f.vp).put (some dn) (.pointer (some ⟨β,off,none⟩))).eval of).run cx.P w' = .ok (.value (.pointer (some ⟨β,off+fo,none⟩))) w':=λw'=>by have h1:Sx.Env.ev (Asx (((a.put (some f.d) f.v7).put (some f.d2) f.vp).put (some dn) (.pointer (some ⟨β,off,none⟩)))) (.tmp dn)=some (.pointer (some ⟨β,off,none⟩)):=Avw (by simp[Act.put,show dn<a.tmps.size by rw[hsz];exact hdnn]);have hpure:=Sx.p_fa (P:=cx.P) (s:=s0) (f:=fi) (by simpa using hfa) h1;rw[<-hopF] at hpure;exact hpure _ ⟨(((a.put (some f.d) f.v7).put (some f.d2) f.vp).put (some dn) (.pointer (some ⟨β,off,none⟩))).tmps,[]⟩ w' of (Auk (a:=⟨(((a.put (some f.d) f.v7).put (some f.d2) f.vp).put (some dn) (.pointer (some ⟨β,off,none⟩))).tmps,[]⟩) rfl) rfl
 have hfin3:=Zi gF (xF _) (by have:=Zi gN (xN _) hfin;rw[dN] at this;exact this)
 rw[dF] at hfin3;have hNn:e+3<ops.size:=by omega
 have hOn:e+4<ops.size:=by omega
 have s1:(Cl ops.size λi=>Nat.ble i (e+1)).setIfInBounds (e+3) true=Cl ops.size λi=>Nat.ble i (e+1)||Nat.beq i (e+3):=Ht hNn λi _=>rfl;have s2:(Cl ops.size λi=>Nat.ble i (e+1)||Nat.beq i (e+3)).setIfInBounds (e+4) true=Cl ops.size λi=>Nat.ble i (e+1)||Nat.beq i (e+3)||Nat.beq i (e+4):=Ht hOn λi _=>rfl;refine wpAny_take (v :=.pointer (some ⟨β,off,none⟩)) hN hs hf2 hr2 (Acc (f:=λa=>a.put on.dst _)) (.inl ⟨C5 gN _,xN⟩) ?_;rw[s1,dN];refine wpAny_take (v :=.pointer (some ⟨β,off+fo,none⟩)) hO hs hf3 hr3 (Acc (f:=λa=>a.put of.dst _)) (.inl ⟨C5 gF _,xF⟩) ?_;rw[s2,dF];refine Awa (iC:=e+2) (iS:=e+5) (p1:=λi=>Nat.ble i (e+4)) (p2:=λi=>Nat.ble i (e+1)||Nat.beq i (e+3)||Nat.beq i (e+4)||Nat.beq i (e+5)) (p3:=λ_=>true) (v:=f.v7) hC hS (by omega) f.gd3 f.dst3 gS dS hop (Gc hdfl) ?_ f.one hF f.row (λw' cs' h1 h2=>f.run3 _ w' cs' ?_ ?_ h1 h2)
  (λi hi =>?_) (λi hi =>?_) (λi hi =>?_) (λ_ _=>rfl) hr4 (by simpa using hr5) (by simpa using hr6) (by simpa using hall) hfin3 fuel
 ·rw[Ct (hne (Ne.symm m1)),Ct (hne (Ne.symm n1)),Ct (hne f.ne)];exact Gc hd
 ·rw[Ct (hne (Ne.symm m2)),Ct (hne (Ne.symm n2))];exact Gc hd2
 ·rw[Ct hy2,Ct hy1];exact(Ct f.ney2).trans (Ct f.ney)
 ·rw[Ye,Oo,Oo,<-Bool.decide_or,<-Bool.decide_or];exact Zy1.2 (by omega)
 ·rw[Ye];exact Zy1.2 (by omega)
 ·rw[Ye,Oo,Oo,Oo,<-Bool.decide_or,<-Bool.decide_or,<-Bool.decide_or];exact Zy1.2 (by omega)
end
theorem Nb{ops:Array Oper}{j:Nat}{o:Oper}(h:ops[j]? = some o):ops.toList.drop j=o::ops.toList.drop (j+1):=by
 have h1:j<ops.toList.length:=by simpa using (Zh2.1 h).1
 rw[List.drop_eq_getElem_cons h1]
 grind
theorem Ae8{ops:Array Oper}{e:Nat}{q3:Bool}(h:Alv ops=some (e,q3)):A5m ops e q3=true/\Mk ops e q3=true:=by
 unfold Alv at h;split at h
 ·rename_i hc;obtain⟨rfl,rfl⟩:=h;simp[A60] at hc;exact hc.2
 ·split at h
  ·rename_i hc;obtain⟨rfl,rfl⟩:=h;simp[A60] at hc;exact hc.2
  ·cases h
theorem A1b{ops:Array Oper}{e:Nat}{q3:Bool}(h:Mk ops e q3=true){j:Nat}{oj:Oper}(hj:e<=j)(ho:ops[j]? = some oj){q:Nat}(hq:q<e):Fh ops 12 oj q=true:=by
 simp only[Mk,Zb1] at h;obtain⟨⟨⟨⟨⟨⟨_,h1⟩,_⟩,_⟩,_⟩,_⟩,_⟩:=h;have h2:=Zg2.1 h1 j (List.mem_range.2 (Zh2.1 ho).1);simp only[Zd2] at h2;rcases h2 with h2|h2
 ·rw[Nat.blt_eq] at h2;omega
 ·grind
theorem Ag0{ops:Array Oper}{e:Nat}{q3:Bool}(h:Mk ops e q3=true):ops.size=e+(match q3 with|true=>6|false=>4):=by
 cases q3 with
 |true =>
  simp only[Mk,Zb1] at h
  simp_all
 |false =>
  simp only[Mk,Zb1] at h
  simp_all
theorem U8(ops:Array Oper):F1 ops<=ops.size/\∀j oj,F1 ops<=j->ops[j]? = some oj->∀q,q<F1 ops->Fh ops 12 oj q=true:=by
 unfold F1;split
 ·grind
 ·split
  ·rename_i p hp;obtain⟨e,q3⟩:=p;obtain⟨_,hE⟩:=Ae8 hp;refine⟨by have:=Ag0 hE;omega,λj oj hj ho q hq=>A1b hE hj ho hq⟩
  ·exact⟨Adj _ _,λj oj hj ho q hq=>Hi _ j oj hj (Zh2.1 ho).1 ho q (Zx1 hq hj)⟩
section
variable {R:Type}{px:Px R}{cx:Cx}
theorem Ayl{ops:Array Oper}{n:Nat}(h:(ops.toList.all λo=>opB o&&Amn n o)=true)(e:Nat):((ops.toList.drop e).all λo=>opB o&&Amn n o)=true:=Zg2.2 λo ho=>Zg2.1 h o (List.mem_of_mem_drop ho)
theorem Bkh{n e k fuel:Nat}{listed:Array Bool}(hn:n=e+k)(hl:∀i,i<n->listed.getD i true=decide (i<e))(hf:((List.range n).filter λj => !listed.getD j true).length<=fuel):k<=fuel:=by
 subst hn;refine Nat.le_trans ?_ hf;rw[List.range_eq_range',show List.range' 0 (e+k)=List.range' 0 e++List.range' (0+1*e) k from(List.range'_append (s:=0) (m:=e) (n:=k) (step:=1)).symm,List.filter_append,Zh1];have:((List.range' (0+1*e) k).filter λj => !listed.getD j true)=List.range' (0+1*e) k:=List.filter_eq_self.2 λj hj=>by grind
 grind
theorem Ae9{o:Oper}{t:TypeId}{x y:Operand}{st:St}{K:St->Option R}(ho:o.op = .store t x y):A42 px o st K=Ym px o st K:=by unfold A42;rw[ho]
theorem Bcn{o:Oper}{t:TypeId}{x y:Operand}{st:St}{K:St->Option R}{r:R}{all:Array Oper}(ho:o.op = .store t x y)(hg:o.guard=none)(hd:o.dst=none)(h:ops px all [o] st K=some r):Ym px o st K=some r:=by simp[ops,opG,hg,one,hd,Ae9 ho] at h;exact h
theorem Blc{o:Oper}{x:Operand}{st:St}{b off:Nat}{K:D->St->Option R}(ho:o.op = .nilCheck x)(hx:ev px st 0 x=some (.ptr b off)):step px o st K=K (.ptr b off) st:=by unfold step;rw[ho];unfold T6;rw[ho];simp[hx]
theorem Bnf{o:Oper}{s f:Nat}{x:Operand}{st:St}{b off:Nat}{K:D->St->Option R}(ho:o.op = .fieldAddr s x f)(hx:ev px st 0 x=some (.ptr b off)):step px o st K=match Atp px s f with
  |some (fo,_)=>K (.ptr b (off+fo)) st
  |none=>none:=by
 unfold step;rw[ho];unfold T6
 grind
theorem Bk9(hp:PxOk cx px)(hc:Dh cx px){all:Array Oper}(he:∀j oj,all[j]? = some oj->∀e∈oj.after,Region.binds .any e=true->e.on<j){st:St}{K:St->Option R}{r:R}(hb:(all.toList.all λo=>opB o&&Amn st.n o)=true)(hok:Asu px all st=true)(h:ops px all (all.toList.drop (F1 all)) st K=some r)
  {Q:Exit->Act->World->Prop}{m:Mp}{a:Act}{as_:List Act}{w:World}(hr:Rel cx m a as_ (fs st) w) (hQ:∀st' m' a' w',K st' = some r->(st'.n=st.n/\st'.fr=st.fr)->Rel cx m' a' as_ (fs st') w'->Q .normal a' w') :
  ∀(fuel:Nat) (listed:Array Bool),listed.size=all.size->(∀i,i<all.size->listed.getD i true=decide (i<F1 all))->((List.range all.size).filter λj => !listed.getD j true).length<=fuel->wpAny cx.P .any all Q fuel listed a w:=by
 intro fuel listed hs hl hfuel;have line:(∀j oj,F1 all<=j->all[j]? = some oj->∀q,q<j->Fh all 12 oj q=true)->wpAny cx.P .any all Q fuel listed a w:=λht =>Axl he fuel (F1 all) listed a w ((U8 all).1) ht hs hl hfuel (Sp hp hc (Ayl hb _) h hr hQ)
 cases h0:Nat.beq (Fg all all.size) 0 with
 |true =>refine line λj oj _ ho q hq=>Hi all.size j oj (by rw[Zl1 h0];exact Nat.zero_le _) (Zh2.1 ho).1 ho q hq
 |false =>
  cases hF:Alv all with
  |none =>
   have hd:F1 all=Fg all all.size:=by simp[F1,h0,hF]
   exact line λj oj hj ho q hq=>Hi all.size j oj (by rw[<-hd];exact hj) (Zh2.1 ho).1 ho q hq
  |some p =>
   obtain⟨e,q3⟩:=p;obtain⟨hS,hE⟩:=Ae8 hF;have hsz:=Ag0 hE;have hd:F1 all=e:=by simp[F1,h0,hF]
   rw[hd] at h hl;simp[Asu,h0,hF] at hok;split at hok
   ·rename_i k oa ob oc hk hA hB hC;simp at hok;obtain⟨hfs,hptr⟩:=hok;rw[Nb hA,Nb hB,Nb hC] at h;simp[ops] at h;cases h3:Alk px oa ob oc st with
    |none=>rw[h3] at hfs;cases hfs
    |some p3 =>
     obtain⟨c,st2⟩:=p3;rw[h3] at h;obtain⟨hcc,hk2⟩:=A1 h;simp only at hcc hk2;subst hcc;obtain⟨f⟩:=Ayy hp h3 hr;have hlist:listed=Cl all.size λi=>Nat.blt i e:=A6n hs λi hi=>by rw[hl i hi,Bqn]
     have hblk:∃b off,get st.env k=some (.ptr b off)/\((∃ds,blk st.bl b=some (.cells ds))\/∃c y,blk st.bl b=some (.box c y)):=by
      split at hptr
      ·rename_i b off hb';refine⟨b,off,hb',?_⟩;split at hptr
       ·rename_i ds hds;exact .inl ⟨ds,hds⟩
       ·rename_i c y hcy;exact .inr ⟨c,y,hcy⟩
       ·cases hptr
      ·cases hptr
     obtain⟨b,off,hkb,hbb⟩:=hblk;have hbn:blk st.bl b≠none:=by rcases hbb with ⟨_,h⟩|⟨_,_,h⟩<;>rw[h]<;>simp
     obtain⟨vk,hvk,hrk⟩:=hr.env.get k _ hkb;simp[Rep] at hrk;obtain⟨_,rfl⟩:=hrk;have hxk:a.eval (.tmp k) = .pointer (some ⟨m.bl b,off,none⟩):=by simp[Act.eval,hvk];rfl
     have hseq:=Sp hp hc (all:=all) (Q:=Nrm Q) (by rw[f.n.1];exact Ayl hb _) hk2 f.rel (λst' m' a' w' k1 k2 k3=>⟨rfl,hQ st' m' a' w' k1 ⟨k2.1.trans f.n.1,k2.2.trans f.n.2⟩ k3⟩);have hfar:∀{o:Oper}{u:TypeId}{off':Nat},(Sx.tySz cx.P u=some 1/\∀(x:Vx) (β:Nat) k,blk st.bl b=some k->Ia x β k->∃(vs:List Value) (t:TypeId),x.w.heap[β]? = some (.cells vs.toArray t (0,0))/\off'<vs.length)->∃vs t,Far cx o u f.g f.wA (m.bl b) off' vs t:=λ{o u off'} hh=>by cases hK:blk st.bl b with|none=>exact absurd hK hbn|some kb =>obtain⟨_,hkr⟩:=hr.blks b kb hK;obtain⟨vs,t,q1,q2⟩:=hh.2 _ _ kb hK hkr;have hne:=f.far b hbn;exact⟨vs,t,hh.1,hne,by rw[f.rest _ (hr.own_b hbn) hne];exact q1,q2⟩
     refine Adh (Q:=Nrm Q) (λ_ _ _ hq=>hq.2) fuel listed a w ?_;rw[hlist];cases q3 with
     |false =>
      simp[A5m,hA,hB,hC,f.op2,f.op3,f.dst,f.dst2,f.dst3] at hS;have hS:=hS.2;simp only at hsz;have hfu:∃n,fuel=n+4:=⟨fuel-4,by have:=Bkh (k:=4) hsz hl hfuel;omega⟩;obtain⟨fu,rfl⟩:=hfu;cases hos:all[e+3]? with
      |none=>simp only[hos] at hS;cases hS
      |some os =>
       simp[hos] at hS;split at hS
       ·rename_i u k' q hop dS;simp only[Zb1,Option.isNone_iff_eq_none] at hS;obtain⟨⟨gS,hq⟩,hne⟩:=hS;obtain rfl:=Zl1 hq;have hkk:k' = k:=by simp[Bjb,hos,hop] at hk;exact hk
        subst hkk;have hne:=I7 hne;have h1:k'≠f.d:=hne _ (by simp);have h2:k'≠f.d2:=hne _ (by simp);have hnil:all.toList.drop (e+3+1)=[]:=Zk1 (by simp;omega);rw[Nb hos,hnil] at hk2 hseq;obtain⟨c7,xs7,t7,h7⟩:=f.env7;obtain⟨vs,t,hF⟩:=hfar (o:=os) (A7j (st:=st2) hp hop ((f.envk k' h1 h2).trans hkb) h7 (by rw[f.bl];exact hbb) (Bcn hop gS dS hk2) |> λhh=>⟨hh.1,by have:=hh.2;rw[f.bl] at this;exact this⟩);exact Bs9 hA hB hC hos hr f hE hop gS dS h1 h2 hxk hF hseq fu
       ·cases hS
     |true =>
      simp[A5m,hA,hB,hC,f.op2,f.op3,f.dst,f.dst2,f.dst3] at hS;have hS:=hS.2;simp only at hsz;have hfu:∃n,fuel=n+6:=⟨fuel-6,by have:=Bkh (k:=6) hsz hl hfuel;omega⟩;obtain⟨fu,rfl⟩:=hfu;split at hS
      ·rename_i on of os hN' hO' hS';split at hS
       ·rename_i k' s0 f1 fi u p q dn df hopN hopF hopS dN dF dS;simp only[Zb1,Option.isNone_iff_eq_none] at hS;obtain⟨⟨⟨⟨⟨⟨⟨⟨⟨⟨gN,gF⟩,gS⟩,q1⟩,q2⟩,q3'⟩,n1⟩,n2⟩,n3⟩,n4⟩,n5⟩:=hS;obtain rfl:=Zl1 q1;obtain rfl:=Zl1 q2;obtain rfl:=Zl1 q3';have hkk:k' = k:=by simp[Bjb,hN',hopN] at hk;exact hk
        subst hkk;have e1:=I7 n1;have h1:k'≠f.d:=e1 _ (by simp);have h2:k'≠f.d2:=e1 _ (by simp);have e2:=I7 n2;have m1:f1≠f.d:=e2 _ (by simp);have m3:f1≠p:=e2 _ (by simp);have l1:p≠f.d:=(I7 n3) _ (by simp);have hnil:all.toList.drop (e+5+1)=[]:=Zk1 (by simp;omega);rw[Nb hN',Nb hO',Nb hS',hnil] at hk2 hseq;have hkb2:get st2.env k' = some (.ptr b off):=(f.envk k' h1 h2).trans hkb;have hf3:Alk px on of os st2=none:=by simp[Alk,hopN]
        simp[ops,hf3] at hk2;simp[opG,gN,one,dN] at hk2;split at hk2
        ·rename_i hb1;rw[Blc hopN (show ev px st2 0 (.tmp k')=some (.ptr b off) from hkb2)] at hk2;simp[gF,dF] at hk2;split at hk2
         ·rename_i hb2;have hg1:get ((St.put st2 f1 (.ptr b off)).env) f1=some (.ptr b off):=by simp[St.put,B8]
          rw[Bnf hopF (show ev px (st2.put f1 (.ptr b off)) 0 (.tmp f1)=some (.ptr b off) from hg1)] at hk2;cases hfo:Atp px s0 fi with
          |none=>rw[hfo] at hk2;cases hk2
          |some pf =>
           obtain⟨fo,fu'⟩:=pf;rw[hfo] at hk2;simp[gS,dS,Ae9 hopS] at hk2;obtain⟨c7,xs7,t7,h7⟩:=f.env7;have hxS:ev px (((st2.put f1 (.ptr b off))).put p (.ptr b (off+fo))) 0 (.tmp p)=some (.ptr b (off+fo)):=by simp[ev,St.put,B8]
           have hyS:ev px (((st2.put f1 (.ptr b off))).put p (.ptr b (off+fo))) u (.tmp f.d)=some (.sl c7 xs7 t7):=by simp[ev,St.put,B8,if_neg (Ne.symm l1),if_neg (Ne.symm m1)];exact h7
           have hst:=A7j (st:=(st2.put f1 (.ptr b off)).put p (.ptr b (off+fo))) hp hopS hxS hyS (by show(∃ds,blk st2.bl b=some (.cells ds))\/∃c y,blk st2.bl b=some (.box c y);rw[f.bl];exact hbb) hk2;obtain⟨vs,t,hF⟩:=hfar (o:=os) ⟨hst.1,by have:=hst.2;have e9:((st2.put f1 (.ptr b off)).put p (.ptr b (off+fo))).bl=st.bl:=f.bl;rw[e9] at this;exact this⟩
           have hb1:f1<st2.n:=by simpa using hb1
           have hb2:p<st2.n:=by simpa[ St.put] using hb2
           rw[f.n.1] at hb1 hb2;exact Bsu hp hA hB hC hN' hO' hS' hr f hE hopN hopF hopS gN gF gS dN dF dS n1 n2 n3 n4 n5 hb1 hb2 hfo hxk hF hseq fu
         ·cases hk2
        ·cases hk2
       ·cases hS
      ·cases hS
   ·cases hok
end
def Aa9:Ex->Exit
 |.normal =>.normal
 |.exit id =>.exit id
 |.ret =>.ret
section
variable {R:Type}{px:Px R}{cx:Cx}
theorem Chg.putObj{S:Fp}{w:World}{l:Nat}{o o':Obj}(hS:∀i,S l i)(h:w.heap[l]? = some o)(ho:∀cs t f,o ≠ .cells cs t f):Chg S w (w.putObj l o'):=by
 have hne:∀(b:Nat) (cs:Array Value) (t:TypeId) (f:Nat×Nat),w.heap[b]? = some (.cells cs t f)->b≠l:=λb cs t f hb e=>by subst e;rw[h] at hb;simp at hb;exact ho cs t f hb
 refine⟨rfl,rfl,rfl,by simp,λk hk hn=>World.putObj_heap_other λe =>?_,λb i v hv hn =>?_,λb cs t f hb=>⟨cs,f,?_,rfl⟩⟩
 ·exact hn 0 (by rw[e];exact hS 0)
 ·have hb:b≠l:=λe=>hn (by rw[e];exact hS i);rw[World.cell?_of_block (a:=⟨b,i,none⟩) (World.putObj_heap_other hb)];exact hv
 ·rw[World.putObj_heap_other (hne b cs t f hb)];exact hb
theorem Rel.served{m:Mp}{a:Act}{as_:List Act}{st:St}{w:World}(h:Rel cx m a as_ (fs st) w){b k:Nat}{o o':Obj}(hb:blk st.bl b=some (.ob k))(ho:w.heap[m.bl b]? = some o)(hc:∀cs t f,o ≠ .cells cs t f):Rel cx m a as_ (fs { st with bl:=Ge st.bl b (.ob 2) }) (w.putObj (m.bl b) o'):=by
 have h1:=h.write (k :=.ob 2) (b:=b) hb (w':=w.putObj (m.bl b) o') (Chg.putObj (λ_=>rfl) ho hc) (λx' _ _=>⟨(λe=>nomatch e),(λe=>nomatch e)⟩);have e:fs { st with bl:=Ge st.bl b (.ob 2) }={ fs st with bl:=λc=>if c=b then some (.ob 2) else(fs st).bl c }:=by refine FS.eq rfl rfl rfl rfl rfl ?_ rfl rfl rfl;funext c;simp[fs,Hn,hb]
 rw[e];exact h1
theorem Rel.pushOb{m:Mp}{a:Act}{as_:List Act}{st:St}{w:World}(h:Rel cx m a as_ (fs st) w){k:Nat}{o:Obj}(h0:k=0->o = .deferred (some []))(h1:k=1->∃r:Loop,o = .loop r/\r.state = .ready/\r.pending=none):∃m',Rel cx m' a as_ (fs { st with bl:=(st.nb,.ob k)::st.bl,nb:=st.nb+1 }) (w.alloc o)/\m'.bl st.nb=w.heap.size/\Nx (vx cx m (fs st) w) (vx cx m' (fs { st with bl:=(st.nb,.ob k)::st.bl,nb:=st.nb+1 }) (w.alloc o)):=by
 have hnew:=World.alloc_heap_new w o;obtain⟨m',g1,g2,g3⟩:=h.newAtX (k :=.ob k) (g:=w.heap.size) (w':=w.alloc o) (Chg.alloc _ _ _) (Zn1 _) (by simp) (λx' _ hw=>⟨λe=>by rw[hw,hnew,h0 e],λe=>by obtain⟨r,e1,e2⟩:=h1 e;exact⟨r,by rw[hw,hnew,e1],e2⟩⟩)
 have e:fs { st with bl:=(st.nb,.ob k)::st.bl,nb:=st.nb+1 }={ fs st with bl:=λb=>if b=(fs st).nb then some (.ob k) else(fs st).bl b,nb:=(fs st).nb+1 }:=by refine FS.eq rfl rfl rfl rfl rfl ?_ rfl rfl rfl;funext b;exact Az st.bl st.nb b _
 rw[e];refine⟨m',g1,?_,g3⟩;simp only[Rep] at g2;have g3:=g2.2;simp at g3;exact g3.symm
theorem Aws(hc:Dh cx px){g:Operand}{ps:Array Tmp}{asg body:Code}{st:St}{K:Ex->St->Option R}{r:R}(h:H5 px (.rangeFunc g ps asg body) st K=some r){Q:Exit->Act->World->Prop}{m:Mp}{a:Act}{as_:List Act}{w:World}(hr:Rel cx m a as_ (fs st) w)(hQ:∀e st' m' a' w',K e st' = some r->(st'.n=st.n/\st'.fr=st.fr)->Rel cx m' a' as_ (fs st') w'->Q (Aa9 e) a' w'):(Code.rangeFunc g ps asg body).wp cx.P Q a w:=by
 simp only[H5] at h;split at h
 ·rename_i f caps he;obtain⟨hent,hcall⟩:=hc f _ _ _ r h;rw[Au] at he;obtain⟨v,_,hv,hrep⟩:=hr.env.ev (env:=get st.env) he;simp only[Rep] at hrep;obtain⟨cvs,rfl,hcaps⟩:=hrep;refine wpIn_wide.1 (wpIn_rangeFunc (F:=Fence.wide) (n:=0) λfn _ =>?_);obtain⟨m1,hr1,e1,nx1⟩:=hr.pushOb (k:=0) (o :=.deferred (some [])) (λ_=>rfl) (λe=>by cases e);obtain⟨m2,hr2,e2,nx2⟩:=hr1.pushOb (k:=1) (o :=.loop { state :=.ready,pending:=none,fn,tmps:=a.tmps,params:=ps,assign:=asg,body,defers:=w.heap.size }) (λe=>by cases e) (λ_=>⟨_,rfl,rfl,rfl⟩);obtain⟨W1,hW1⟩:∃W1,(w.alloc (.deferred (some []))).alloc (.loop { state :=.ready,pending:=none,fn,tmps:=a.tmps,params:=ps,assign:=asg,body,defers:=w.heap.size })=W1:=⟨_,rfl⟩;rw[hW1] at hr2 nx2;have e3:m2.bl st.nb=w.heap.size:=(nx2.bl st.nb (Nat.lt_succ_self _)).trans e1;have e4:m2.bl (st.nb+1)=w.heap.size+1:=e2.trans (by simp);have hr3:Rel cx m2 { a with defers:={ target :=.collected w.heap.size,args := #[] }::a.defers } as_ (fs { st with bl:=(st.nb+1,.ob 1)::(st.nb,.ob 0)::st.bl,nb:=st.nb+2,df :=.ptr st.nb (st.nb+1)::st.df }) W1 :=⟨hr2.chg,⟨⟨_,_,rfl,⟨Nat.lt_succ_of_lt (Nat.lt_succ_self _),Nat.lt_succ_self _,e4.trans (congrArg (·+1) e3.symm),by rw[<-e3];rfl⟩,hr2.env.defers⟩,hr2.env.size,hr2.env.get⟩,hr2.frs,hr2.lb,hr2.lt,hr2.blks,hr2.als,hr2.inj,hr2.injt,hr2.injbt,hr2.own,hr2.away,hr2.glb⟩
  have hargs:Reps (vx cx m2 (fs { st with bl:=(st.nb+1,.ob 1)::(st.nb,.ob 0)::st.bl,nb:=st.nb+2,df :=.ptr st.nb (st.nb+1)::st.df }) W1) (.yl (st.nb+1)::caps) (.func (.yield (w.heap.size+1)) #[] #[]::cvs) :=⟨_,_,rfl,by simp only[Rep];exact⟨Nat.lt_succ_self _,by rw[<-e4];rfl⟩,Reps.later nx2 _ _ (Reps.later nx1 _ _ hcaps)⟩
  refine⟨w.heap.size+1,[{ target :=.collected w.heap.size,args := #[] }],W1,{ target :=.fn (.func f) cvs.toArray,args := #[.func (.yield (w.heap.size+1)) #[] #[]] },W1,f,(.func (.yield (w.heap.size+1)) #[] #[]::cvs).toArray,W1,hW1▸run_enterLoop_outer _ _ _ _ _,?_,λ_ _=>trivial,?_,(λe=>nomatch e),callsIn_wide.2 ((hcall m2 _ as_ _ _ hr3 hargs).mono ?_)⟩
  ·simp only[resolve,hv];simp[go_sem]
  ·have h9:=hent (.func (.yield (w.heap.size+1)) #[] #[]::cvs).toArray W1;simp[invoke,go_sem];simpa using h9
  ·rintro en w3 ⟨v,rfl,rs,st',m',hk,hsame,hrel,_⟩;obtain⟨s1,s2,s3,s4,s5⟩:=hsame;simp only[Zp1] at s5;simp only at hk;split at hk
   ·rename_i hb;obtain⟨rc,hrc,hready,hpend⟩:=(hrel.blks (st.nb+1) (.ob 1) hb).2.2 rfl;have hd:=hrel.env.defers;rw[show(fs st').df = .ptr st.nb (st.nb+1)::st.df from s5.2] at hd;obtain⟨dd,rr,q1,⟨_,_,q3,q4⟩,_⟩:=hd;simp only[Ze2] at q1;rw[<-q1.1] at q4;simp at q4;have q5:m'.bl (st.nb+1)=w.heap.size+1:=q3.trans (congrArg (·+1) q4.symm);have hrc:w3.heap[m'.bl (st.nb+1)]? = some (.loop rc):=hrc;refine⟨none,_,by rw[<-hpend];exact run_endLoop (by rw[<-q5];exact hrc) (by rw[hready];simp),?_⟩;show Q .normal _ _;rw[<-q5];exact hQ .normal _ m' _ _ hk ⟨s1,s5.1⟩ (hrel.served hb hrc (by simp))
   ·cases hk
 ·cases h
end
def D6(n:Nat):Code->Bool
 |.region _ os dr=>(os.toList.all λo=>opB o&&Amn n o)&&(!dr||A43 os)
 |.seq a b=>D6 n a&&D6 n b
 |.cond _ a b=>D6 n a&&D6 n b
 |.block _ b=>D6 n b
 |.loop b=>D6 n b
 |.scope b=>D6 n b
 |_=>true
section
variable {R:Type}{px:Px R}{cx:Cx}
def B3(cx:Cx)(px:Px R)(b:Code):Prop:=∀(st:St) (K:Ex->St->Option R) (r:R),px.loop b st K=some r->∀(Q:Exit->Act->World->Prop) (m:Mp) (a:Act) (as_:List Act) (w:World),D6 st.n b=true->Rel cx m a as_ (fs st) w->(∀e st' m' a' w',K e st' = some r->(st'.n=st.n/\st'.fr=st.fr)->Rel cx m' a' as_ (fs st') w'->Q (Aa9 e) a' w')->(Code.loop b).wp cx.P Q a w
theorem Ayf{ops:Array Oper}{s:Nat->FS}(hc:I8 ops s):∀t,t<=ops.size->(s t).fr=(s 0).fr
 |0,_=>rfl
 |t+1,ht=>by obtain⟨o,ho⟩:∃o,ops[t]? = some o:=⟨_,Zk2 (by omega)⟩;have:=congrArg FS.fr (hc t o ho);rw[this];exact Ayf hc t (by omega)
theorem Aud{ops:Array Oper}{s:Nat->FS}:∀t,Fd ops s (λ_=>false) t=s 0
 |0=>rfl
 |t+1=>by
  simp[Fd];split
  ·simp[Aud t]
  ·exact Aud t
theorem B4(hp:PxOk cx px)(hc:Dh cx px)(hcq:CallQOk cx px)(hm:cx.P.follows .mixedOrders=true):∀(c:Code) (st:St) (K:Ex->St->Option R) (r:R),D6 st.n c=true->(∀b,b∈Bl c->B3 cx px b)->H5 px c st K=some r ->
  ∀(Q:Exit->Act->World->Prop) (m:Mp) (a:Act) (as_:List Act) (w:World),Rel cx m a as_ (fs st) w->(∀e st' m' a' w',K e st' = some r->(st'.n=st.n/\st'.fr=st.fr)->Rel cx m' a' as_ (fs st') w'->Q (Aa9 e) a' w')->c.wp cx.P Q a w
 |.skip,st,K,r,_,_,h,Q,m,a,as_,w,hr,hQ=>wp_skip (hQ .normal st m a w h ⟨rfl,rfl⟩ hr)
 |.label l,st,K,r,_,_,h,Q,m,a,as_,w,hr,hQ=>wp_label (hQ .normal st m a w h ⟨rfl,rfl⟩ hr)
 |.exit id,st,K,r,_,_,h,Q,m,a,as_,w,hr,hQ=>wp_exit (hQ (.exit id) st m a w h ⟨rfl,rfl⟩ hr)
 |.ret,st,K,r,_,_,h,Q,m,a,as_,w,hr,hQ=>wp_ret (hQ .ret st m a w h ⟨rfl,rfl⟩ hr)
 |.region id ⟨l⟩ dr,st,K,r,hb,_,h,Q,m,a,as_,w,hr,hQ=>by
  simp only[D6,Zb1] at hb;simp[H5] at h;cases dr with
  |false=>exact wp_region_lit (Sp hp hc hb.1 h hr (λst' m' a' w' h1 h2 h3=>hQ .normal st' m' a' w' h1 h2 h3))
  |true =>
   simp only at h;generalize hNe:F1 (Array.mk l)=N at h;have hN:N<=l.length:=by rw[<-hNe];exact(U8 _).1
   have htl:(l.take N).length=N:=by rw[List.length_take];omega
   obtain⟨st',h1,h2,h3⟩:=Abx hp hcq (Zg2.2 λo ho=>Zg2.1 hb.1 o (List.mem_of_mem_take ho)) h;cases hok:Asu px (Array.mk l) st' with
   |false=>rw[hok] at h1;cases h1
   |true =>
   rw[hok] at h1;simp only at h1;obtain⟨s0,e0,e1,e2⟩:=Ajt h3;rw[htl] at e1;let s:Nat->FS:=λi=>if i<=N then s0 i else s0 N
   have hget:∀{i:Nat}{o:Oper},i<N->(Array.mk l)[i]? = some o->(l.take N)[i]? = some o:=λ{i o} hi ho=>by rw[List.getElem?_take_of_lt hi];simpa using ho
   have hch:I8 (Array.mk l) s:=λi o ho=>by
    by_cases hi:i<N
    ·have:=(e2 i o (hget hi ho)).1;simp[s,if_pos (show i<=N by omega),if_pos (show i+1<=N by omega)];exact this
    ·have h4:s (i+1)=s0 N:=by simp only[s];rw[if_neg (by omega)]
     have h5:s i=s0 N:=by
      simp only[s];split
      ·rw[show i=N by omega]
      ·rfl
     rw[h4,h5,A05]
   have hsz:(Array.mk l).size=l.length:=rfl;refine wp_region_any hm (Atv (N:=N) (s:=s) (as_:=as_) hN hNe.symm (by simpa using hb.2) (λj oj h4 h5 q hq=>(U8 _).2 j oj (by rw[hNe];exact h4) h5 q (by rw[hNe];exact hq)) hch (λi o hi ho =>?_) (λi o ho =>?_) (λi j oi oj hi hj hiN hjN _ _ _ hord b hrd =>?_) (λm' a' w' hrel fuel listed hls hll hlf =>?_) _ _ _ _ (by simp) ?_ ?_ (λq _ hq=>by have h8:q<l.length:=hq;simp[ h8]) ⟨m,?_⟩)
   ·simp[s,if_pos (show i<=N by omega),if_pos (show i+1<=N by omega)];exact(e2 i o (hget hi ho)).2.2.2
   ·by_cases hi:i<N
    ·simp[s,if_pos (show i<=N by omega),if_pos (show i+1<=N by omega)];exact(e2 i o (hget hi ho)).2.1
    ·have h4:s (i+1)=s0 N:=by simp only[s];rw[if_neg (by omega)]
     have h5:s i=s0 N:=by
      simp only[s];split
      ·rw[show i=N by omega]
      ·rfl
     rw[h4,h5];exact Zn1 _
   ·refine Bmp hch (T:=N) hN hj hjN hiN ?_ hord hrd;have:=(e2 i oi (hget hiN hi)).2.2.1;rw[Nat.zero_add] at this;simp[s,if_pos (show i<=N by omega),if_pos (show i+1<=N by omega)];exact this
   ·have hsN:s N=fs st':=by simp[s];exact e1
    rw[hsN] at hrel;have hfr:st'.fr=st.fr:=by
     have:=Ayf hch N hN;have h6:s 0=fs st:=by simp[s];exact e0
     rw[hsN,h6] at this;exact this
    refine Bk9 hp hc (λj oj hoj=>(Fs (by simpa using hb.2) hoj).1) (by rw[h2];exact hb.1) hok (by rw[hNe];exact h1) hrel (λst'' m'' a'' w'' k1 k2 k3=>hQ .normal st'' m'' a'' w'' k1 ⟨k2.1.trans h2,k2.2.trans hfr⟩ k3) fuel listed hls (by rw[hNe];exact hll) hlf
   ·intro j o ho hl;have hlt:j<l.length:=by have:=(Zh2.1 ho).1;exact this
    simp[hlt] at hl
   ·have:=List.length_filter_le (λj => !(Array.replicate (Array.mk l).size false).getD j true) (List.range (Array.mk l).size);simpa using this
   ·rw[Aag (T:=λ_=>false) _ hN (λj hj=>by
     have h7:j<l.length:=by omega
     simp[h7]),Aud]
    have h6:s 0=fs st:=by simp[s];exact e0
    rw[h6];exact hr.quiet (Chg.drawn _ _ _)
 |.seq x y,st,K,r,hb,hl,h,Q,m,a,as_,w,hr,hQ=>by simp[D6] at hb;simp[H5] at h;refine wp_seq (B4 hp hc hcq hm x st _ r hb.1 (λb hb=>hl b (by simp[Bl,hb])) h _ m a as_ w hr ?_);intro e st' m' a' w' hk hs hrel;cases e with|normal =>show y.wp cx.P Q a' w';exact B4 hp hc hcq hm y st' K r (by rw[hs.1];exact hb.2) (λb hb=>hl b (by simp[Bl,hb])) hk Q m' a' as_ w' hrel (λe2 st2 m2 a2 w2 k1 k2 k3=>hQ e2 st2 m2 a2 w2 k1 ⟨k2.1.trans hs.1,k2.2.trans hs.2⟩ k3)|exit id=>exact hQ (.exit id) st' m' a' w' hk hs hrel|ret=>exact hQ .ret st' m' a' w' hk hs hrel
 |.cond c x y,st,K,r,hb,hl,h,Q,m,a,as_,w,hr,hQ=>by
  simp[D6] at hb;simp[H5] at h;split at h
  ·rename_i q hq;rw[Au] at hq;obtain⟨v,_,hv,hrep⟩:=hr.env.ev (env:=get st.env) hq;obtain rfl:=Rep.bool hrep;refine wp_cond_split hv (λhqt =>?_) (λhqf =>?_)
   ·subst hqt;exact B4 hp hc hcq hm x st K r hb.1 (λb hb=>hl b (by simp[Bl,hb])) h Q m a as_ w hr hQ
   ·subst hqf;exact B4 hp hc hcq hm y st K r hb.2 (λb hb=>hl b (by simp[Bl,hb])) h Q m a as_ w hr hQ
  ·cases h
 |.block id b,st,K,r,hb,hl,h,Q,m,a,as_,w,hr,hQ=>by
  simp[D6] at hb;simp[H5] at h;refine wp_block (B4 hp hc hcq hm b st _ r hb (λb' hb'=>hl b' (by simpa[Bl] using hb')) h _ m a as_ w hr ?_);intro e st' m' a' w' hk hs hrel;cases e with
  |normal=>exact hQ .normal st' m' a' w' hk hs hrel
  |ret=>exact hQ .ret st' m' a' w' hk hs hrel
  |exit i =>
   show Exit.inBlock id Q (.exit i) a' w';simp only at hk;split at hk
   ·rename_i hi;obtain rfl:=Zl1 hi;simp[Exit.inBlock];exact hQ .normal st' m' a' w' hk hs hrel
   ·rename_i hi;have hne:i≠id:=Nat.ne_of_beq_eq_false hi;simp[Exit.inBlock,if_neg hne];exact hQ (.exit i) st' m' a' w' hk hs hrel
 |.loop b,st,K,r,hb,hl,h,Q,m,a,as_,w,hr,hQ=>hl b (by simp[Bl]) st K r h Q m a as_ w hb hr hQ
 |.scope b,st,K,r,hb,hl,h,Q,m,a,as_,w,hr,hQ=>by simp[D6] at hb;simp[H5] at h;refine wp_scope_straight (B4 hp hc hcq hm b st K r hb (λb' hb'=>hl b' (by simpa[Bl] using hb')) h _ m a as_ w hr ?_);intro e st' m' a' w' hk hs hrel;have:=hQ e st' m' a' w' hk hs hrel;cases e with|normal=>show Exit.noGoto Q .normal a' w';exact this|exit i=>show Exit.noGoto Q (.exit i) a' w';exact this|ret=>show Exit.noGoto Q .ret a' w';rw[Exit.noGoto_ret];exact this
 |.rangeFunc _ _ _ _,st,K,r,_,_,h,Q,m,a,as_,w,hr,hQ=>Aws hc h hr hQ
 |.goto _,st,K,r,_,_,h,_,_,_,_,_,_,_=>by simp[H5] at h
 |.refuse _,st,K,r,_,_,h,_,_,_,_,_,_,_=>by simp[H5] at h
theorem As8(hp:PxOk cx px)(hc:Dh cx px)(hcq:CallQOk cx px)(hm:cx.P.follows .mixedOrders=true){b:Code}{k:Nat}{s:Sig}{step:Amj (HV s.sgs) R}(hs:U2 s=true)(hround:∀fr rec kx v,Ot px s b fr rec kx v=step rec kx v)(hin:∀b',b'∈Bl b->B3 cx px b'){st:St}{K:Ex->St->Option R}{r:R}(h:Am k s step st K=some r){Q:Exit->Act->World->Prop}{m:Mp}{a:Act}{as_:List Act}{w:World}(hb:D6 st.n b=true)(hr:Rel cx m a as_ (fs st) w)(hQ:∀e st' m' a' w',K e st' = some r->(st'.n=st.n/\st'.fr=st.fr)->Rel cx m' a' as_ (fs st') w'->Q (Aa9 e) a' w'):(Code.loop b).wp cx.P Q a w:=by
 unfold Am at h;split at h
 ·rename_i v hv;have hn:st.n=s.n:=by
   unfold Hs at hv;split at hv
   ·rename_i hcnd;simp only[Zb1] at hcnd;exact Zl1 hcnd.1.1.1.1.2
   ·cases hv
  have key:∀(n:Nat) (v:HV s.sgs),Ak (λrec=>step rec (λe v'=>K e (Dp s st.fr v'))) n v=some r->∀m a w,Rel cx m a as_ (fs (Dp s st.fr v)) w->Sx.LW cx.P b Q a w:=by
   intro n;induction n with
   |zero=>intro v hv;simp[Ak] at hv
   |succ n ih =>
    intro v hv m a w hrel;simp[Ak] at hv;rw[<-hround st.fr] at hv;have henn:∀v,(Dp s st.fr v).n=s.n/\(Dp s st.fr v).fr=st.fr:=λv=>by unfold Dp;split;exact⟨rfl,rfl⟩
    refine Sx.LW_round (B4 hp hc hcq hm b _ _ r (by rw[(henn v).1,<-hn];exact hb) hin hv _ m a as_ w hrel ?_);intro e st' m' a' w' hk hsame hrel';split at hk
    ·rename_i v' hv';obtain⟨m2,hrel2⟩:=hrel'.recode hs hv';have hfr:st'.fr=st.fr:=hsame.2.trans (henn v).2;rw[hfr] at hrel2;cases e with|normal=>exact ih v' hk m2 a' w' hrel2|exit id=>exact hQ (.exit id) _ m2 a' w' hk ⟨(henn v').1.trans hn.symm,(henn v').2⟩ hrel2|ret=>exact hQ .ret _ m2 a' w' hk ⟨(henn v').1.trans hn.symm,(henn v').2⟩ hrel2
    ·cases hk
  obtain⟨m0,hrel0⟩:=hr.recode hs hv;exact Sx.wp_of_LW (key k v h m0 a w hrel0)
 ·cases h
theorem Box(hp:PxOk cx px)(hc:Dh cx px)(hcq:CallQOk cx px)(hm:cx.P.follows .mixedOrders=true){b:Code}{k:Nat}{s:Sig}{step:Amj (HV s.sgs) R}(hpx:∀st K,px.loop b st K=Am k s step st K)(hs:U2 s=true)(hround:∀fr rec kx v,Ot px s b fr rec kx v=step rec kx v)(hin:∀b',b'∈Bl b->B3 cx px b'):B3 cx px b:=by intro st K r h Q m a as_ w hb hr hQ;rw[hpx] at h;exact As8 hp hc hcq hm hs hround hin h hb hr hQ
theorem Alg(hp:PxOk cx px)(hc:Dh cx px)(hcq:CallQOk cx px)(hm:cx.P.follows .mixedOrders=true){px0:Px R}(hp0:PxOk cx px0)(hc0:Dh cx px0)(hcq0:CallQOk cx px0)(hl0:∀b st K,px0.loop b st K=none){b:Code}{k:Nat}{s:Sig}{step:Amj (HV s.sgs) R}(hpx:∀st K,px.loop b st K=As2 px0 b k s step st K)(hs:U2 s=true)(hround:∀fr rec kx v,Ot px s b fr rec kx v=step rec kx v)(hin:∀b',b'∈Bl b->B3 cx px b'):B3 cx px b:=by
 intro st K r h Q m a as_ w hb hr hQ;rw[hpx] at h;unfold As2 at h;split at h
 ·exact As8 hp hc hcq hm hs hround hin h hb hr hQ
 ·unfold Bst at h;refine Sx.wp_of_LW (Sx.LW_round (B4 hp0 hc0 hcq0 hm b st _ r hb (λb' _ st K r h=>by rw[hl0] at h;cases h) h _ m a as_ w hr ?_));intro e st' m' a' w' hk hs hrel;cases e with|normal=>cases hk|exit id=>exact hQ (.exit id) st' m' a' w' hk hs hrel|ret=>exact hQ .ret st' m' a' w' hk hs hrel
def Axd(cx:Cx)(b:Code)(f:St->(Ex->St->Option R)->Option R):Prop:=∀(st:St) (K:Ex->St->Option R) (r:R),f st K=some r->∀(Q:Exit->Act->World->Prop) (m:Mp) (a:Act) (as_:List Act) (w:World),D6 st.n b=true->Rel cx m a as_ (fs st) w->(∀e st' m' a' w',K e st' = some r->(st'.n=st.n/\st'.fr=st.fr)->Rel cx m' a' as_ (fs st') w'->Q (Aa9 e) a' w')->(Code.loop b).wp cx.P Q a w
theorem Q1(hp:PxOk cx px)(hc:Dh cx px)(hcq:CallQOk cx px)(hm:cx.P.follows .mixedOrders=true){b:Code}{k:Nat}{s:Sig}{step:Amj (HV s.sgs) R}(hs:U2 s=true)(hround:∀fr rec kx v,Ot px s b fr rec kx v=step rec kx v)(hin:∀b',b'∈Bl b->B3 cx px b'):Axd cx b (Am k s step):=by intro st K r h Q m a as_ w hb hr hQ;exact As8 hp hc hcq hm hs hround hin h hb hr hQ
def Zg(k:Nat)(s:Sig)(step:Amj (HV s.sgs) R)(alt:St->(Ex->St->Option R)->Option R)(st:St)(K:Ex->St->Option R):Option R:=match Hs s st with|some _=>Am k s step st K|none=>alt st K
theorem Ac6{b:Code}{k:Nat}{s:Sig}{step:Amj (HV s.sgs) R}{alt:St->(Ex->St->Option R)->Option R}(h1:Axd cx b (Am k s step))(h2:Axd cx b alt):Axd cx b (Zg k s step alt):=by
 intro st K r h;unfold Zg at h;split at h
 ·exact h1 st K r h
 ·exact h2 st K r h
theorem A5p{b:Code}{f:St->(Ex->St->Option R)->Option R}(hpx:∀st K,px.loop b st K=f st K)(h:Axd cx b f):B3 cx px b:=by intro st K r hk;rw[hpx] at hk;exact h st K r hk
end
def v0(el:Ck->TypeId)(M:Fp)(w:World):Vx:=⟨⟨λ_=>0,λ_=>none⟩,λ_=>False,M,w,0,0,el⟩
def vr(el:Ck->TypeId)(M:Fp)(m:Mp)(sr:List Sg)(w:World):Vx:=⟨m,λt=>t∈Bb 0 sr,λb i=>M b i\/∃p o,p∈Bb 0 sr/\m.tk p=some (b,o)/\o<=i,w,0,sr.length,el⟩
structure FnOk (P:Program) (el:Ck->TypeId) (gl:Nat->Option Gv) (f:FuncId) (sa sr:List Sg) (F:HV sa->Option (HV sr)):Prop where
 enters:Sx.Enters P f
 run:∀x r,F x=some r->∀(w:World) (M:Fp) (vs:List Value),(∀b i,M b i->b<w.heap.size)->GlR (v0 el M w) gl->Reps (v0 el M w) (Br 0 sa x) vs ->
  Calls P f vs.toArray w λen w'=>∃v m,en = .returned v/\Chg Cf w w'/\(∀p g o,p∈Bb 0 sr->m.tk p=some (g,o)->w.heap.size<=g/\g<w'.heap.size)/\(∀p q g o o',p∈Bb 0 sr->q∈Bb 0 sr->m.tk p=some (g,o)->m.tk q=some (g,o')->p=q)/\Rep (vr el M m sr w') (Eh (Br 0 sr r)) v
section
variable {R:Type}{px:Px R}{cx:Cx}
theorem D1(hp:PxOk cx px){m:Mp}{a:Act}{as_:List Act}{st:St}{w:World}(hr:Rel cx m a as_ (fs st) w):∀{rs:List ResultVar}{ds:List D},results px st rs=some ds->∃vs,Sem.run cx.P (rs.mapM (Sx.rdv a.tmps)) w=Result.ok vs w/\Reps (vx cx m (fs st) w) ds vs
 |[],ds,h=>by simp[results] at h;subst h;exact⟨[],by simp,by simp[Reps]⟩
 |.tmp t::rs,ds,h=>by
  simp[results] at h;split at h
  ·rename_i d ds' hd hds;simp at h;subst h;obtain⟨vs,h1,h2⟩:=D1 hp hr hds;obtain⟨v,hv,hrep⟩:=hr.env.get t d hd;refine⟨v::vs,?_,by simp only[Reps];exact⟨v,vs,rfl,hrep,h2⟩⟩;simp[ Sx.rdv,hv,h1]
  ·cases h
 |.cell q t::rs,ds,h=>by
  simp[results] at h;split at h
  ·rename_i p hpq;split at h
   ·rename_i d ds' hk hd hds;simp at h;subst h;obtain⟨vs,h1,h2⟩:=D1 hp hr hds;obtain⟨pv,hpv,hrep⟩:=hr.env.get q p hpq;rw[A7i] at hd;obtain⟨u,h4,h5⟩:=Anr (s:=fs st) hp hr hk hd hrep;obtain⟨ad,rfl⟩:∃ad,pv = .pointer (some ad):=by cases p<;>simp[Aec] at hd<;>first|(cases hd;done)|(simp[Rep] at hrep;first|exact⟨_,hrep⟩|exact⟨_,hrep.2⟩|exact⟨_,hrep.2.1⟩|(obtain⟨b,o,e,_⟩:=hrep;exact⟨_,e⟩))
    refine⟨u::vs,?_,by simp only[Reps];exact⟨u,vs,rfl,h5,h2⟩⟩;simp[Instr.loadAt,Instr.sureAddr] at h4;simp[ Sx.rdv,hpv,asAddr,h4,h1]
   ·cases h
  ·cases h
theorem Gl{x:Vx}{ds:List D}{vs:List Value}(h:Reps x ds vs):Rep x (Eh ds) (Sx.resv vs):=by
 match ds,vs,h with
 |[],vs,h=>simp[Reps] at h;subst h;simp only[Eh];exact⟨[],rfl,by simp[Reps]⟩
 |[d],vs,h =>simp only[Reps] at h;obtain⟨u,us,rfl,h1,rfl⟩:=h;exact h1
 |d::e::ds,vs,h =>match vs,h.len with|u::w::us,_ =>simp only[Eh];exact⟨_,rfl,h⟩
theorem X2{x:Vx}{ds:List D}{v:Value}(h:Rep x (Eh ds) v):∃vs,v=Sx.resv vs/\Reps x ds vs:=by
 match ds,h with
 |[],h =>simp[Eh] at h;obtain⟨vs,rfl,hr⟩:=h;simp[Reps] at hr;subst hr;exact⟨[],rfl,by simp[Reps]⟩
 |[d],h=>exact⟨[v],rfl,by simp only[Reps];exact⟨v,[],rfl,h,rfl⟩⟩
 |d::e::ds,h =>simp[Eh] at h;obtain⟨vs,rfl,hr⟩:=h;match vs,hr.len with|u::w::us,_=>exact⟨_,rfl,hr⟩
theorem Ds{b:Nat}:∀(l:List (Nat×Blk)) (c:Nat),blk (Bm l b) c=if c=b then none else blk l c
 |[],c=>by simp[Bm,blk]
 |(q,v)::l,c=>by
  simp[Bm];by_cases hq:q=b
  ·subst hq;simp;rw[Ds l c,Az];by_cases hc:c=q
   ·simp[hc]
   ·simp[hc]
  ·simp[Fo hq];rw[Az,Ds l c,Az];by_cases hc:c=q
   ·subst hc;simp[hq]
   ·grind
theorem Rel.drop{m:Mp}{a:Act}{as_:List Act}{st:St}{w:World}(hr:Rel cx m a as_ (fs st) w)(b:Nat):Rel cx m a as_ (fs { st with bl:=Bm st.bl b }) w/\Nx (vx cx m (fs st) w) (vx cx m (fs { st with bl:=Bm st.bl b }) w):=by
 have sub:∀c k,blk (Bm st.bl b) c=some k->blk st.bl c=some k:=λc k h=>by
  rw[Ds] at h;split at h
  ·cases h
  ·exact h
 have sub':∀c,blk (Bm st.bl b) c≠none->blk st.bl c≠none:=λc h=>by cases hk:blk (Bm st.bl b) c with|none=>exact absurd hk h|some k=>rw[sub c k hk];simp
 have fp:∀c i,Db m (fs { st with bl:=Bm st.bl b }) c i->Db m (fs st) c i:=by
  rintro c i (⟨q,hq,rfl⟩|h)
  ·exact .inl ⟨q,sub' q hq,rfl⟩
  ·exact .inr h
 have nx:Nx (vx cx m (fs st) w) (vx cx m (fs { st with bl:=Bm st.bl b }) w):=by
  refine⟨Chg.refl _ _,?_,rfl,λ_ _=>rfl,Zn1 _,Zn1 _,λt _ ha=>⟨ha,rfl,λ_ _ _=>rfl⟩⟩;rintro c i (h|h)
  ·exact .inl (.inl h)
  ·exact .inl (.inr (fp c i h))
 refine⟨⟨hr.chg,hr.env.later nx,hr.frs.later nx hr.lb hr.lt,hr.lb,hr.lt,λc k hk =>?_,hr.als,λc c' h1 h2=>hr.inj c c' (sub' c h1) (sub' c' h2),hr.injt,λc t g o h1=>hr.injbt c t g o (sub' c h1),λc i h=>hr.own c i (fp c i h),hr.away,hr.glb.later nx⟩,nx⟩;obtain⟨h1,h2⟩:=hr.blks c k (sub c k hk);exact⟨h1,h2.later nx rfl⟩
theorem Nx.trans{x y z:Vx}(h:Nx x y)(k:Nx y z):Nx x z :=
 ⟨h.chg.later h.fp k.chg,λb i hi=>by
  rcases k.fp b i hi with h1|h1
  ·exact h.fp b i h1
  ·exact .inr (Nat.le_trans h.chg.size h1),k.el.trans h.el,λb hb=>(k.bl b (Zx1 hb h.nb)).trans (h.bl b hb),Nat.le_trans h.nb k.nb,Nat.le_trans h.nt k.nt,λt ht ha=>by
  obtain⟨a1,a2,a3⟩:=k.tk t (Zx1 ht h.nt) ha;obtain⟨b1,b2,b3⟩:=h.tk t ht a1;exact⟨b1,a2.trans b2,λg o hg=>(a3 g o (b2.trans hg)).trans (b3 g o hg)⟩⟩
theorem Atu{m:Mp}{a:Act}{as_:List Act}{st:St}{w:World}(hr:Rel cx m a as_ (fs st) w){d:D}{v:Value}(hd:Rep (vx cx m (fs st) w) d v){K:D->List (Nat×Blk)->Option R}{r:R}(h:Bbd st.bl d K=some r):∃d' bl',K d' bl' = some r/\Rel cx m a as_ (fs { st with bl:=bl' }) w/\Nx (vx cx m (fs st) w) (vx cx m (fs { st with bl:=bl' }) w)/\Rep (vx cx m (fs { st with bl:=bl' }) w) d' v/\(lf d=true->lf d' = true):=by
 unfold Bbd at h;split at h
 ·rename_i b c s n;split at h
  ·rename_i c' xs hb;split at h
   ·rename_i hc;simp at hc;subst hc;obtain⟨hc,hk⟩:=A1 h;simp at hc;obtain⟨⟨hs,hn⟩,hsn⟩:=hc;obtain⟨hrel,nx⟩:=hr.drop b;refine⟨_,_,hk,hrel,nx,?_⟩;simp[Rep] at hd ⊢;obtain⟨g1,_,_,_,ad,cap,rfl,g5,g6,g7,_⟩:=hd;refine⟨⟨?_,trivial⟩,λ_=>rfl⟩;have hlen:n.toNat=(cut xs s (s+n)).length:=by simp[cut];omega
    refine Jn hlen ?_;by_cases hn0:n=0
    ·left;exact List.eq_nil_of_length_eq_zero (by omega)
    ·right;obtain⟨_,hml,vs,ty,hh,hvl,hreps⟩:=hr.blks b _ hb;refine⟨m.bl b,s.toNat*csz c,g5.resolve_left hn0,by omega,λi y hy w' hw j d hd =>?_⟩;have hy':xs[s.toNat+i]? = some y:=by
      simp[cut] at hy;rw[List.getElem?_take] at hy;split at hy
      ·rwa[List.getElem?_drop] at hy
      ·cases hy
     obtain⟨u,hu,hf⟩:=hreps _ y j d hy' hd;refine⟨u,?_,(nx.rf hf) w' hw⟩;have hcell:w.cell? ⟨m.bl b,s.toNat*csz c+i*csz c+j,none⟩=some u:=by have hh:w.heap[m.bl b]? = some (.cells vs.toArray ty (0,0)):=hh;simp[World.cell?,hh];rw[<-Nat.add_mul];simpa using hu
     refine hw.cell _ _ _ hcell ?_;have hbn:(fs st).bl b≠none:=by rw[show(fs st).bl b=some _ from hb];simp
     rintro(hM|hf')
     ·exact hr.disj hM (.inl ⟨b,hbn,rfl⟩:Db m (fs st) (m.bl b) 0)
     ·rcases hf' with ⟨q,hq,he⟩|⟨t,o,h1,h2,_⟩
      ·have hq:blk (Bm st.bl b) q≠none:=hq;rw[Ds] at hq;split at hq
       ·exact hq rfl
       ·rename_i hqb;exact hqb (hr.inj q b hq hbn he)
      ·exact hr.injbt b t _ o hbn h1 h2 rfl
   ·cases h
  ·cases h
 ·exact⟨d,st.bl,h,hr,⟨Chg.refl _ _,λ_ _ h =>.inl h,rfl,λ_ _=>rfl,Zn1 _,Zn1 _,λt _ ha=>⟨ha,rfl,λ_ _ _=>rfl⟩⟩,hd,id⟩
theorem Auo{m:Mp}{a:Act}{as_:List Act}{w:World}{r:R}:∀{ds:List D}{st:St}{vs:List Value}{K:List D->List (Nat×Blk)->Option R},Rel cx m a as_ (fs st) w->Reps (vx cx m (fs st) w) ds vs->Bg9 st.bl ds K=some r->∃ds' bl',K ds' bl' = some r/\Rel cx m a as_ (fs { st with bl:=bl' }) w/\Nx (vx cx m (fs st) w) (vx cx m (fs { st with bl:=bl' }) w)/\Reps (vx cx m (fs { st with bl:=bl' }) w) ds' vs/\(ds.all lf=true->ds'.all lf=true)
 |[],st,vs,K,hr,hd,h=>⟨[],st.bl,h,hr,⟨Chg.refl _ _,λ_ _ h =>.inl h,rfl,λ_ _=>rfl,Zn1 _,Zn1 _,λt _ ha=>⟨ha,rfl,λ_ _ _=>rfl⟩⟩,by simpa using hd,id⟩
 |d::ds,st,vs,K,hr,hd,h=>by simp[Reps] at hd;obtain⟨u,us,rfl,h1,h2⟩:=hd;simp[Bg9] at h;obtain⟨d',bl1,hk,hr1,nx1,hd1,hl1⟩:=Atu hr h1 h;obtain⟨ds',bl2,hk2,hr2,nx2,hds,hl2⟩:=Auo (st:={ st with bl:=bl1 }) hr1 (Reps.later nx1 _ _ h2) hk;refine⟨d'::ds',bl2,hk2,hr2,nx1.trans nx2,by simp only[Reps];exact⟨u,us,rfl,Rep.later nx2 _ _ hd1,hds⟩,λh =>?_⟩;simp only[Zv1,Zb1] at h ⊢;exact⟨hl1 h.1,hl2 h.2⟩
theorem A6c{m:Mp}{a:Act}{as_:List Act}{st:St}{w:World}(hr:Rel cx m a as_ (fs st) w){d:D}{v:Value}(hd:Rep (vx cx m (fs st) w) d v){K:D->List (Nat×Blk)->Option R}{r:R}(h:Bc5 st.bl d K=some r):∃d' bl',K d' bl' = some r/\Rel cx m a as_ (fs { st with bl:=bl' }) w/\Nx (vx cx m (fs st) w) (vx cx m (fs { st with bl:=bl' }) w)/\Rep (vx cx m (fs { st with bl:=bl' }) w) d' v:=by
 unfold Bc5 at h;split at h
 ·rename_i ds;simp only[Rep] at hd;obtain⟨hl,vs,rfl,hreps⟩:=hd;obtain⟨ds',bl',hk,hrel,nx,hds,hl'⟩:=Auo hr hreps h;exact⟨_,bl',hk,hrel,nx,by simp only[Rep];exact⟨hl' hl,vs,rfl,hds⟩⟩
 ·obtain⟨d',bl',hk,hrel,nx,hds,_⟩:=Atu hr hd h;exact⟨d',bl',hk,hrel,nx,hds⟩
theorem Agl{m:Mp}{a:Act}{as_:List Act}{w:World}{r:R}:∀{ds:List D}{st:St}{vs:List Value}{K:List D->List (Nat×Blk)->Option R},Rel cx m a as_ (fs st) w->Reps (vx cx m (fs st) w) ds vs->Bdr st.bl ds K=some r->∃ds' bl',K ds' bl' = some r/\Rel cx m a as_ (fs { st with bl:=bl' }) w/\Nx (vx cx m (fs st) w) (vx cx m (fs { st with bl:=bl' }) w)/\Reps (vx cx m (fs { st with bl:=bl' }) w) ds' vs
 |[],st,vs,K,hr,hd,h=>⟨[],st.bl,h,hr,⟨Chg.refl _ _,λ_ _ h =>.inl h,rfl,λ_ _=>rfl,Zn1 _,Zn1 _,λt _ ha=>⟨ha,rfl,λ_ _ _=>rfl⟩⟩,by simpa using hd⟩
 |d::ds,st,vs,K,hr,hd,h=>by simp[Reps] at hd;obtain⟨u,us,rfl,h1,h2⟩:=hd;simp[Bdr] at h;obtain⟨d',bl1,hk,hr1,nx1,hd1⟩:=A6c hr h1 h;obtain⟨ds',bl2,hk2,hr2,nx2,hds⟩:=Agl (st:={ st with bl:=bl1 }) hr1 (Reps.later nx1 _ _ h2) hk;exact⟨d'::ds',bl2,hk2,hr2,nx1.trans nx2,by simp only[Reps];exact⟨u,us,rfl,Rep.later nx2 _ _ hd1,hds⟩⟩
theorem Rel.give{m:Mp}{a:Act}{as_:List Act}{st:St}{w:World}(hr:Rel cx m a as_ (fs st) w){b:Nat}(hb:(fs st).bl b≠none)(o:Nat):∃m',Rel cx m' a as_ (fs (Cz { st with bl:=Bm st.bl b })) w/\Nx (vx cx m (fs st) w) (vx cx m' (fs (Cz { st with bl:=Bm st.bl b })) w)/\m'.bl=m.bl/\m'.tk st.nt=some (m.bl b,o)/\∀i,i<o->¬(vx cx m' (fs (Cz { st with bl:=Bm st.bl b })) w).S (m.bl b) i:=by
 let m':Mp:={ m with tk:=λt=>if t=st.nt then some (m.bl b,o) else m.tk t };let s':FS:=fs (Cz { st with bl:=Bm st.bl b });have hsub:∀c,s'.bl c≠none->(fs st).bl c≠none/\c≠b:=λc h=>by
  have h:blk (Bm st.bl b) c≠none:=h;rw[Ds] at h;by_cases hc:c=b
  ·rw[if_pos hc] at h;exact absurd rfl h
  ·rw[if_neg hc] at h;exact⟨h,hc⟩
 have hal:∀t,s'.al t->(t=st.nt/\m'.tk t=some (m.bl b,o))\/((fs st).al t/\t<st.nt/\m'.tk t=m.tk t):=λt ht=>by
  have ht:t∈st.nt::st.tk:=ht;rcases List.mem_cons.1 ht with rfl|ht
  ·exact .inl ⟨rfl,by simp[m']⟩
  ·have hlt:t<st.nt:=hr.als t ht;exact .inr ⟨ht,hlt,by simp[m',Nat.ne_of_lt hlt]⟩
 have fp:∀c i,Db m' s' c i->Db m (fs st) c i/\(c=m.bl b->o<=i):=by
  rintro c i (⟨q,hq,rfl⟩|⟨t,p,h1,h2,h3⟩)
  ·obtain⟨g1,g2⟩:=hsub q hq;exact⟨.inl ⟨q,g1,rfl⟩,λe=>absurd (hr.inj q b g1 hb e) g2⟩
  ·rcases hal t h1 with ⟨rfl,e⟩|⟨g1,_,e⟩
   ·rw[e] at h2;simp at h2;obtain⟨rfl,rfl⟩:=h2;exact⟨.inl ⟨b,hb,rfl⟩,λ_=>h3⟩
   ·rw[e] at h2;refine⟨.inr ⟨t,p,g1,h2,h3⟩,λe2 =>?_⟩;subst e2;exact absurd rfl (hr.injbt b t _ p hb g1 h2)
 have nx:Nx (vx cx m (fs st) w) (vx cx m' s' w):=by
  refine⟨Chg.refl _ _,?_,rfl,λ_ _=>rfl,Zn1 _,Nat.le_succ _,λt ht ha =>?_⟩
  ·rintro c i (h|h)
   ·exact .inl (.inl h)
   ·exact .inl (.inr (fp c i h).1)
  ·have ht:t<st.nt:=ht;rcases hal t ha with ⟨e,_⟩|⟨g1,_,e⟩
   ·omega
   ·exact⟨g1,e,λ_ _ _=>rfl⟩
 refine⟨m',⟨hr.chg,hr.env.later nx,hr.frs.later nx hr.lb hr.lt,hr.lb,Nat.le_succ_of_le hr.lt,λc k hk =>?_,λt ht =>?_,λc c' h1 h2=>hr.inj c c' (hsub c h1).1 (hsub c' h2).1,λt t' g p p' h1 h2 h3 h4 =>?_,λc t g p h1 h2 h3 =>?_,λc i h=>hr.own c i (fp c i h).1,hr.away,hr.glb.later nx⟩,nx,rfl,by simp[m'],λi hi h =>?_⟩
 ·have hk2:(fs st).bl c=some k:=by
   have hk:blk (Bm st.bl b) c=some k:=hk;rw[Ds] at hk;split at hk
   ·cases hk
   ·exact hk
  obtain⟨h1,h2⟩:=hr.blks c k hk2;exact⟨h1,h2.later nx rfl⟩
 ·rcases hal t ht with ⟨rfl,_⟩|⟨_,h,_⟩
  ·exact Nat.lt_succ_self _
  ·exact Nat.lt_succ_of_lt h
 ·rcases hal t h1 with ⟨e1,k1⟩|⟨q1,_,k1⟩<;>rcases hal t' h2 with ⟨e2,k2⟩|⟨q2,_,k2⟩
  ·rw[e1,e2]
  ·rw[k1] at h3;rw[k2] at h4
   simp at h3;exact absurd h3.1 (hr.injbt b t' g p' hb q2 h4)
  ·rw[k1] at h3;rw[k2] at h4
   simp at h4;exact absurd h4.1 (hr.injbt b t g p hb q1 h3)
  ·rw[k1] at h3;rw[k2] at h4
   exact hr.injt t t' g p p' q1 q2 h3 h4
 ·obtain⟨g1,g2⟩:=hsub c h1;rcases hal t h2 with ⟨_,e⟩|⟨q1,_,e⟩
  ·rw[e] at h3;simp at h3;exactλe2=>g2 (hr.inj c b g1 hb (e2.trans h3.1.symm))
  ·rw[e] at h3;exact hr.injbt c t g p g1 q1 h3
 ·rcases h with h|h
  ·exact hr.disj h (.inl ⟨b,hb,rfl⟩:Db m (fs st) (m.bl b) 0)
  ·have:=(fp _ i h).2 rfl;omega
theorem Agc{a:Act}{as_:List Act}{w:World}{r:R}:∀{sr:List Sg}{m:Mp}{ds:List D}{st:St}{vs:List Value}{K:List D->St->Option R},Rel cx m a as_ (fs st) w->Reps (vx cx m (fs st) w) ds vs->Alt sr st ds K=some r->∃ds' st' m',K ds' st' = some r/\Rel cx m' a as_ (fs st') w/\Nx (vx cx m (fs st) w) (vx cx m' (fs st') w)/\Reps (vx cx m' (fs st') w) ds' vs
 |[],m,[],st,vs,K,hr,hd,h=>⟨[],st,m,h,hr,⟨Chg.refl _ _,λ_ _ h =>.inl h,rfl,λ_ _=>rfl,Zn1 _,Zn1 _,λt _ ha=>⟨ha,rfl,λ_ _ _=>rfl⟩⟩,hd⟩
 |[],m,_::_,st,vs,K,hr,hd,h=>by simp[Alt] at h
 |_::_,m,[],st,vs,K,hr,hd,h=>by simp[Alt] at h
 |s0::sr,m,d::ds,st,vs,K,hr,hd,h=>by
  simp[Reps] at hd;obtain⟨u,us,rfl,h1,h2⟩:=hd;have plain:(Bc5 st.bl d λd' bl'=>Alt sr { st with bl:=bl' } ds λds' st'=>K (d'::ds') st')=some r->∃ds' st' m',K ds' st' = some r/\Rel cx m' a as_ (fs st') w/\Nx (vx cx m (fs st) w) (vx cx m' (fs st') w)/\Reps (vx cx m' (fs st') w) ds' (u::us):=λh=>by obtain⟨d',bl1,hk,hr1,nx1,hd1⟩:=A6c hr h1 h;obtain⟨ds',st2,m2,hk2,hr2,nx2,hds⟩:=Agc (st:={ st with bl:=bl1 }) hr1 (Reps.later nx1 _ _ h2) hk;exact⟨d'::ds',st2,m2,hk2,hr2,nx1.trans nx2,by simp only[Reps];exact⟨u,us,rfl,Rep.later nx2 _ _ hd1,hds⟩⟩
  by_cases hcase:∃c0 b c s n,s0 = .sl c0 true/\d = .osl b c s n
  ·obtain⟨c0,b,c,s,n,rfl,rfl⟩:=hcase;simp[Alt] at h;split at h
   ·rename_i c' xs hb;split at h
    ·rename_i hc;simp at hc;subst hc;obtain⟨hc,hk⟩:=A1 h;simp at hc;obtain⟨⟨hs0,hn⟩,hnx⟩:=hc;subst hs0;have hbn:(fs st).bl b≠none:=by rw[show(fs st).bl b=some _ from hb];simp
     simp only[Rep] at h1;obtain⟨g1,_,_,_,ad,cap,rfl,g5,g6,g7,cur,fz,g8,g9⟩:=h1;obtain rfl:=g5.resolve_left (by omega);obtain⟨_,hml,vs,ty,hh,hvl,hreps⟩:=hr.blks b _ hb;have hh:w.heap[m.bl b]? = some (.cells vs.toArray ty (0,0)):=hh;have g8:w.heap[m.bl b]? = some (.cells cur (cx.el c) (0,0)):=by have g8:w.heap[m.bl b]? = some (.cells cur (cx.el c) fz):=g8;rw[hh] at g8;simp at g8;rw[hh,g8.1,g8.2.1]
     obtain⟨m1,hr1,nx1,eb,et,hS⟩:=hr.give hbn (n.toNat*csz c);obtain⟨ds',st2,m2,hk2,hr2,nx2,hds⟩:=Agc hr1 (Reps.later nx1 _ _ h2) hk;refine⟨_::ds',st2,m2,hk2,hr2,nx1.trans nx2,?_⟩;simp only[Reps];refine⟨_,us,rfl,Rep.later nx2 _ _ ?_,hds⟩;simp;have hlen:n.toNat=(xs.take n.toNat).length:=by simp;omega
     refine⟨Jn hlen (.inr ⟨m.bl b,0,by simp[vx],by omega,λi y hy w' hw j d hd =>?_⟩),Nat.lt_succ_self _,λ_ =>.inr ⟨m.bl b,cap,cur,by rw[<-hlen];simp[vx],by rw[<-hlen];exact et,g8,by rw[g9];simp,by omega,g7⟩⟩;have hin:i<n.toNat:=by have:=(Zi2.1 hy).1;omega
     have hj:j<csz c:=by rw[<-B7 c y];exact(Zi2.1 hd).1
     have hy':xs[i]? = some y:=by rw[List.getElem?_take,if_pos hin] at hy;exact hy
     obtain⟨u,hu,hf⟩:=hreps i y j d hy' hd;refine⟨u,?_,(nx1.rf hf) w' hw⟩;have hcell:w.cell? ⟨m.bl b,0+i*csz c+j,none⟩=some u:=by simp[World.cell?,hh];simpa using hu
     refine hw.cell _ _ _ hcell (hS _ ?_);have:(i+1)*csz c<=n.toNat*csz c:=Nat.mul_le_mul_right _ hin;rw[Nat.succ_mul] at this;omega
    ·cases h
   ·cases h
  ·have e:Alt (s0::sr) st (d::ds) K=(Bc5 st.bl d λd' bl'=>Alt sr { st with bl:=bl' } ds λds' st'=>K (d'::ds') st'):=by
    cases s0 with
    |sl c0 own=>cases own with
     |true=>cases d<;>first|rfl|exact absurd ⟨_,_,_,_,_,rfl,rfl⟩ hcase
     |false=>rfl
    |_=>rfl
   exact plain (e▸h)
theorem A6e{P:Program}{el:Ck->TypeId}{gl:Nat->Option Gv}{sa:List Sg}(hsa:Bb 0 sa=[]){x:HV sa}{n:Nat}(hn:sa.length<=n){w:World}{M:Fp}{vs:List Value}(hM:∀b i,M b i->b<w.heap.size)(hgl:GlR (v0 el M w) gl)(hr:Reps (v0 el M w) (Br 0 sa x) vs) :
  Rel ⟨P,w,Cf,M,el,gl⟩ ⟨λ_=>0,λ_=>none⟩ { tmps:=vs.toArray++Array.replicate (n-vs.toArray.size) undef,defers:=[] } [] (fs (st0 n sa x)) w:=by
 have hfp:∀b i,Db ⟨λ_=>0,λ_=>none⟩ (fs (st0 n sa x)) b i->False:=by
  rintro b i (⟨k,hk,_⟩|⟨t,o,_,h2,_⟩)
  ·exact hk rfl
  ·cases h2
 have hlen:vs.length=sa.length:=by rw[hr.len,Az5]
 have nx:Nx (v0 el M w) (vx ⟨P,w,Cf,M,el,gl⟩ ⟨λ_=>0,λ_=>none⟩ (fs (st0 n sa x)) w):=⟨Chg.refl _ _,λb i hi=>hi.elim .inl (λh=>(hfp b i h).elim),rfl,λb hb=>(Zm1 _ hb).elim,Nat.zero_le _,Nat.zero_le _,λt ht=>(Zm1 _ ht).elim⟩;have hreps:=Reps.later nx _ _ hr;have hget:∀(ds:List D) (us:List Value) (i k:Nat) (d:D),Reps (vx ⟨P,w,Cf,M,el,gl⟩ ⟨λ_=>0,λ_=>none⟩ (fs (st0 n sa x)) w) ds us->get (Bj i ds) k=some d->∃v,i<=k/\us[k-i]? = some v/\Rep (vx ⟨P,w,Cf,M,el,gl⟩ ⟨λ_=>0,λ_=>none⟩ (fs (st0 n sa x)) w) d v:=by
  intro ds;induction ds with
  |nil=>intro us i k d _ h;simp[Bj,get] at h
  |cons e ds ih =>
   intro us i k d hr h;simp[Reps] at hr;obtain⟨u,us,rfl,h1,h2⟩:=hr;simp[Bj] at h;rw[B8] at h;by_cases hk:k=i
   ·subst hk;simp at h;subst h;exact⟨u,Zn1 _,by simp,h1⟩
   ·rw[if_neg hk] at h;obtain⟨v,h3,h4,h5⟩:=ih us (i+1) k d h2 h;refine⟨v,by omega,?_,h5⟩;rw[show k-i=(k-(i+1))+1 by omega];simpa using h4
 refine⟨Chg.refl _ _,⟨rfl,?_,λk d hk =>?_⟩,rfl,Nat.zero_le _,Nat.zero_le _,λb k hk =>?_,λt ht =>?_,λb b' h=>(h rfl).elim,λt t' g o o' _ _ h=>(by cases h),λb t g o h=>(h rfl).elim,λb i hi=>(hfp b i hi).elim,λb i j hm=>⟨hM b i hm,id⟩,?_⟩
 ·show _=n;simp;omega
 ·obtain⟨v,_,h2,h3⟩:=hget _ _ 0 k d hreps hk;rw[Nat.sub_zero] at h2;refine⟨v,?_,h3⟩;have hlt:k<vs.length:=(Zi2.1 h2).1;simp only[Array.getElem?_append,List.size_toArray,hlt];simpa using h2
 ·cases hk
 ·have:t∈Bb 0 sa:=ht;rw[hsa] at this;cases this
 ·exact hgl.later nx
theorem A5h{P:Program}{el:Ck->TypeId}{gl:Nat->Option Gv}{f:FuncId}{fn:Func}{c:Code}{sa sr:List Sg}{px:Px (HV sr)}{F:HV sa->Option (HV sr)}(hf:P.funcs[f]? = some fn)(hb:fn.body=some c)(hname:(fn.name == "runtime.NumGoroutine")=false)(hm:P.follows .mixedOrders=true)(hchk:(D6 fn.ntmps c&&Nat.ble sa.length fn.ntmps&&C2 (Bb 0 sa) [])=true)
  (hpx:∀cx:Cx,cx.P=P->cx.el=el->cx.gl=gl->cx.I=Cf->PxOk cx px/\Dh cx px/\CallQOk cx px/\∀b,b∈Bl c->B3 cx px b) (hF:∀x,A19 px fn sa sr x some=F x):FnOk P el gl f sa sr F:=by
 refine⟨Sx.enters_of hf (by rw[hb];rfl) hname,λx r hx w M vs hM hgl hr =>?_⟩;simp at hchk;have hn:sa.length<=fn.ntmps:=by simpa using hchk.1.2
 have hrel:=A6e (P:=P) (Gb hchk.2) hn hM hgl hr;rw[<-hF] at hx;unfold A19 at hx;rw[hb] at hx;simp only at hx;obtain⟨h1,h2,h3,h4⟩:=hpx ⟨P,w,Cf,M,el,gl⟩ rfl rfl rfl rfl;refine calls_of_wp hf hb (B4 h1 h2 h3 hm c _ _ r hchk.1.1 h4 hx _ _ _ [] w hrel ?_);intro e st' m' a' w' hk _ hrel';cases e
 case exit=>cases hk
 all_goals
  simp only at hk;split at hk
  ·rename_i rs0 hdf0 hrs;obtain⟨us,hrun,hreps0⟩:=D1 h1 hrel' hrs;have hdef:a'.defers=[]:=hrel'.noDf hdf0;obtain⟨rs,st2,m2,hk,hrel1,_,hreps⟩:=Agc hrel' hreps0 hk;clear hreps0 hrel';split at hk
   ·rename_i r' hr';simp at hk;subst hk;obtain⟨as1,as2⟩:=Zu 0 hr';let mc:Mp:=⟨λ_=>0,λp=>(asg 0 sr rs p).bind m2.tk⟩;have horig:∀p g o,mc.tk p=some (g,o)->∃t,asg 0 sr rs p=some t/\t∈st2.tk/\m2.tk t=some (g,o):=λp g o hg=>by cases ha:asg 0 sr rs p with|none=>simp only[mc,ha] at hg;cases hg|some t=>simp[mc,ha] at hg;exact⟨t,rfl,(as1 p t ha).1,hg⟩
    have hS:∀b i,(vr el M mc sr w').S b i->(vx ⟨P,w,Cf,M,el,gl⟩ m2 (fs st2) w').S b i:=by
     rintro b i (h|⟨p,o,_,h2,h3⟩)
     ·exact .inl h
     ·obtain⟨t,_,q2,q3⟩:=horig p b o h2;exact .inr (.inr ⟨t,o,q2,q3,h3⟩)
    have hfin:=Fa (X:=vx ⟨P,w,Cf,M,el,gl⟩ m2 (fs st2) w') (X':=vr el M mc sr w') hS rfl rfl 0 hr' (λt ht=>ht) hreps (λp hp=>by have:=(Gi _ _ _ hp).2;exact⟨by simpa[vr] using this,rfl⟩)
    refine⟨hdef,Sx.resv us,?_,Sx.resv us,mc,rfl,hrel1.chg,λp g o hp hg =>?_,λp q g o o' _ _ hg hg' =>?_,Gl hfin⟩
    ·obtain⟨rl⟩:∃rl,fn.results=List.toArray rl:=⟨fn.results.toList,by simp⟩;rename_i hrl;rw[Sx.results_eq,hrl];rw[hrl] at hrun;simp only[List.mapM_toArray,Sem.run_bind,map_eq_pure_bind,Sem.run_pure,hrun];congr 1;match us with|[]=>rfl|[v]=>rfl|_::_::_=>simp[Sx.resv]
    ·obtain⟨t,_,q2,q3⟩:=horig p g o hg;have:=hrel1.own g o (.inr ⟨t,o,q2,q3,Zn1 _⟩);exact⟨this.2.resolve_left id,this.1⟩
    ·obtain⟨t,q1,q2,q3⟩:=horig p g o hg;obtain⟨t',p1,p2,p3⟩:=horig q g o' hg';have:=hrel1.injt t t' g o o' q2 p2 q3 p3;subst this;exact as2 p q t q1 p1
   ·cases hk
  ·cases hk
end
section
variable {R:Type}{px:Px R}{cx:Cx}
theorem Ag3{x x':Vx}{n i:Nat}(hS:∀b j,x'.S b j->x.S b j)(hw:x'.w=x.w)(hel:x'.el=x.el):∀{s:Sg}{y:den s}{v:Value},Rep x (Ce i s y) v->(∀c,s = .sl c true->x.al i/\n+i<x'.nt/\x'.m.tk (n+i)=x.m.tk i)->Rep x' (Ce (n+i) s y) v:=by
 have hrf:∀{d:D}{v:Value},RF x.S x.w d v->RF x'.S x'.w d v:=λh=>by rw[hw];exact h.later (Chg.refl _ _) (λk j hk =>.inl (hS k j hk))
 intro s y v h hown;cases s with
 |int k=>simpa[Ce,Rep] using h
 |bool=>simpa[Ce,Rep] using h
 |str=>simpa[Ce,Rep] using h
 |sl c own =>
  cases own with
  |false=>simp[Ce] at h ⊢;exact⟨hrf h.1,trivial⟩
  |true =>
   obtain⟨h1,h2,h3⟩:=hown c rfl;simp[Ce] at h ⊢;refine⟨hrf h.1,h2,λ_ =>?_⟩;rcases h.2.2 h1 with ⟨a1,a2,a3⟩|⟨g,cap,cur,a1,a2,a3,a4⟩
   ·exact .inl ⟨a1,h3.trans a2,a3⟩
   ·exact .inr ⟨g,cap,cur,a1,h3.trans a2,by rw[hw,hel];exact a3,a4⟩
 |sv c =>simp[Ce] at h ⊢;obtain⟨h1,vs,h2,h3,h4⟩:=h;exact⟨h1,vs,h2,h3,λj d hd=>by obtain⟨u,hu,hf⟩:=h4 j d hd;exact⟨u,hu,hrf hf⟩⟩
 |rw c k =>simp[Ce] at h ⊢;obtain⟨h1,vs,h2,h3,h4⟩:=h;exact⟨h1,vs,h2,h3,λq z j d hz hd=>by obtain⟨u,hu,hf⟩:=h4 q z j d hz hd;exact⟨u,hu,hrf hf⟩⟩
 |dn c =>simp[Ce] at h ⊢;obtain⟨h1,vs,h2,h3,h4⟩:=h;exact⟨h1,vs,h2,h3,λq z j d hz hd=>by obtain⟨u,hu,hf⟩:=h4 q z j d hz hd;exact⟨u,hu,hrf hf⟩⟩
theorem Bas{i p:Nat}{a:Sg}{l:List Sg}(h:p∈Bb (i+1) l):p∈Bb i (a::l):=by
 cases a with
 |sl c own=>cases own with|true=>exact Zu1 _ h|false=>exact h
 |_=>exact h
theorem Vy{x x':Vx}{n:Nat}(hS:∀b j,x'.S b j->x.S b j)(hw:x'.w=x.w)(hel:x'.el=x.el):∀{l:List Sg}{y:HV l}{vs:List Value}(i:Nat),Reps x (Br i l y) vs->(∀p,p∈Bb i l->x.al p/\n+p<x'.nt/\x'.m.tk (n+p)=x.m.tk p)->Reps x' (Br (n+i) l y) vs
 |[],y,vs,i,h,_=>by simpa[Br,Reps] using h
 |[a],y,vs,i,h,hown=>by simp only[Br] at h ⊢;obtain⟨u,us,h1,h2,h3⟩:=h;exact⟨u,us,h1,Ag3 hS hw hel h2 (λc hc=>by subst hc;exact hown i (by simp[Bb])),h3⟩
 |a::b::l,(y,z),vs,i,h,hown=>by simp[Br] at h ⊢;obtain⟨u,us,h1,h2,h3⟩:=h;refine⟨u,us,h1,Ag3 hS hw hel h2 (λc hc=>by subst hc;exact hown i (by simp[Bb])),?_⟩;have:=Vy hS hw hel (i+1) h3 (λp hp=>hown p (Bas hp));rwa[<-Nat.add_assoc] at this
theorem Aj7:∀(l:List Sg) (n i p:Nat),p∈Bb (n+i) l↔∃q,q∈Bb i l/\p=n+q
 |[],n,i,p=>by simp[Bb]
 |s::l,n,i,p=>by
  have ih:=Aj7 l n (i+1) p;have rest:(Bb (n+i) (s::l)=Bb (n+i+1) l/\Bb i (s::l)=Bb (i+1) l)\/(Bb (n+i) (s::l)=(n+i)::Bb (n+i+1) l/\Bb i (s::l)=i::Bb (i+1) l):=by
   cases s with
   |sl c own=>cases own with|true=>exact .inr ⟨rfl,rfl⟩|false=>exact .inl ⟨rfl,rfl⟩
   |_=>exact .inl ⟨rfl,rfl⟩
  rcases rest with ⟨e1,e2⟩|⟨e1,e2⟩
  ·rw[e1,e2];exact ih
  ·rw[e1,e2];simp only[List.mem_cons];constructor
   ·grind
   ·grind
theorem Hc{m:Mp}{a:Act}{as_:List Act}{s:FS}{w:World}(hr:Rel cx m a as_ s w):(∀b i,(vx cx m s w).S b i->b<w.heap.size)/\GlR (v0 cx.el (vx cx m s w).S w) cx.gl:=by
 refine⟨λb i hi =>?_,hr.glb⟩;rcases hi with h|h
 ·have:=(hr.away b i 0 h).1;have:=hr.chg.size;omega
 ·exact(hr.own b i h).1
theorem Rel.raise{m:Mp}{a:Act}{as_:List Act}{st:St}{w:World}{nb nt:Nat}(hb:st.nb<=nb)(ht:st.nt<=nt)(hr:Rel cx m a as_ (fs st) w):Rel cx m a as_ (fs { st with nb:=nb,nt:=nt }) w:=by have nx:Nx (vx cx m (fs st) w) (vx cx m (fs { st with nb:=nb,nt:=nt }) w):=⟨Chg.refl _ _,λ_ _ h =>.inl h,rfl,λ_ _=>rfl,hb,ht,λt _ ha=>⟨ha,rfl,λ_ _ _=>rfl⟩⟩;refine⟨hr.chg,hr.env.later nx,hr.frs.later nx hr.lb hr.lt,Nat.le_trans hr.lb hb,Nat.le_trans hr.lt ht,λb k hk =>?_,λt h=>Zx1 (hr.als t h) ht,hr.inj,hr.injt,hr.injbt,hr.own,hr.away,hr.glb.later nx⟩;obtain⟨h1,h2⟩:=hr.blks b k hk;exact⟨Zx1 h1 hb,h2.later nx rfl⟩
theorem Aqn:∀{l:List Sg}{i:Nat},l.all A1g=true->Bb i l=[]
 |[],_,_=>rfl
 |a::l,i,h=>by simp only[Zv1,Zb1] at h;have ih:=Aqn (l:=l) (i:=i+1) h.2;cases a<;>simp[A1g] at h<;>simpa only[Bb] using ih
theorem Apl{x x':Vx}:∀{l:List Sg}{y:HV l}{vs:List Value}{i j:Nat},l.all A1g=true->Reps x (Br i l y) vs->Reps x' (Br j l y) vs
 |[],_,_,_,_,_,h=>by simpa[Br,Reps] using h
 |[a],y,vs,i,j,hs,h=>by simp at hs;simp only[Br] at h ⊢;obtain⟨u,us,h1,h2,h3⟩:=h;refine⟨u,us,h1,?_,h3⟩;cases a<;>simp[A1g] at hs<;>simpa only[Ce,Rep] using h2
 |a::b::l,(y,z),vs,i,j,hs,h=>by simp only[Zv1,Zb1] at hs;simp[Br] at h ⊢;obtain⟨u,us,h1,h2,h3⟩:=h;refine⟨u,us,h1,?_,Apl (l:=b::l) (by simp only[Zv1,Zb1];exact hs.2) h3⟩;cases a<;>simp[A1g] at hs<;>simpa only[Ce,Rep] using h2
theorem Bc9{g:Nat}{sa sr:List Sg}{F:HV sa->Option (HV sr)}(h:FnOk cx.P cx.el cx.gl g sa sr F)(hsa:C2 (Bb 0 sa) []=true){args:List D}{st:St}{K:List D->St->Option R}{r:R}(hc:Ac9 sa sr F args st K=some r):Hg cx g args st K r:=by
 unfold Ac9 at hc;refine⟨h.enters,λm a as_ w vs hr0 hargs0 =>?_⟩;obtain⟨args,bl',hc,hr,nx0,hargs⟩:=Agl hr0 hargs0 hc;cases hsc:sr.all A1g with
 |true =>
  rw[hsc] at hc;simp only at hc;split at hc
  ·rename_i x hx;cases hF:F x with
   |none=>rw[hF] at hc;cases hc
   |some r0 =>rw[hF,Zc1] at hc;have hsa:=Gb hsa;obtain⟨hM,hgl⟩:=Hc hr;have hin:Reps (v0 cx.el (vx cx m (fs { st with bl:=bl' }) w).S w) (Br 0 sa x) vs:=Fa (X:=vx cx m (fs { st with bl:=bl' }) w) (X':=v0 cx.el (vx cx m (fs { st with bl:=bl' }) w).S w) (λ_ _ h=>h) rfl rfl 0 hx (λt ht=>ht) hargs (λp hp=>by rw[hsa] at hp;cases hp);refine(h.run x r0 hF w _ vs hM hgl hin).mono ?_;rintro en w' ⟨v,mc,rfl,hch,_,_,hrep⟩;obtain⟨us,rfl,hreps⟩:=X2 hrep;rw[Aqn hsc,Zf2] at hc;exact⟨_,rfl,_,_,m,hc,⟨rfl,rfl,rfl,rfl,rfl⟩,(hr0.quiet hch).raise (Zn1 _) (Nat.le_add_right _ _),Gl (Apl hsc hreps)⟩
  ·cases hc
 |false =>
 rw[hsc] at hc;simp only at hc;obtain⟨st1,h1⟩:∃s:St,s={ st with bl:=bl' }:=⟨_,rfl⟩;replace hc:(match K9 sa st1.tk args with|some x=>(F x).bind λr=>K (Br st1.nt sr r) { st1 with tk:=Bb st1.nt sr++st1.tk,nt:=st1.nt+sr.length }|none=>none)=some r:=by rw[h1];exact hc
 have hsm:Ati st st1:=by rw[h1];exact⟨rfl,rfl,rfl,rfl,rfl⟩
 rw[<-h1] at hr hargs;clear nx0 hr0 hargs0 h1;obtain⟨sm1,sm2,sm3,sm4,sm5⟩:=hsm;split at hc
 ·rename_i x hx;cases hF:F x with
  |none=>rw[hF] at hc;cases hc
  |some r0 =>
   rw[hF,Zc1] at hc;obtain⟨hM,hgl⟩:=Hc hr;have hin:Reps (v0 cx.el (vx cx m (fs st1) w).S w) (Br 0 sa x) vs:=Fa (X:=vx cx m (fs st1) w) (X':=v0 cx.el (vx cx m (fs st1) w).S w) (λ_ _ h=>h) rfl rfl 0 hx (λt ht=>ht) hargs (λp hp=>by rw[(Gb hsa)] at hp;cases hp);refine(h.run x r0 hF w _ vs hM hgl hin).mono ?_;rintro en w' ⟨v,mc,rfl,hch,hfresh,hinj,hrep⟩;refine⟨v,rfl,Br st1.nt sr r0,{ st1 with tk:=Bb st1.nt sr++st1.tk,nt:=st1.nt+sr.length },?_⟩;have hb:∀k,k<w.heap.size->w'.heap[k]? = w.heap[k]? :=λk hk=>hch.block k hk (λ_ h=>h);let st':St:={ st1 with tk:=Bb st1.nt sr++st1.tk,nt:=st1.nt+sr.length };let m':Mp:=⟨m.bl,λt=>if t<st1.nt then m.tk t else mc.tk (t-st1.nt)⟩;have htok:∀t,(fs st').al t->((fs st1).al t/\t<st1.nt/\m'.tk t=m.tk t)\/∃q,q∈Bb 0 sr/\t=st1.nt+q/\m'.tk t=mc.tk q:=λt ht=>by
    have ht:t∈Bb st1.nt sr++st1.tk:=ht;simp at ht;rcases ht with ht|ht
    ·have:=(Aj7 sr st1.nt 0 t).1 (by simpa using ht);obtain⟨q,h1,h2⟩:=this;refine .inr ⟨q,h1,h2,?_⟩;simp only[m',h2];rw[if_neg (by omega),show st1.nt+q-st1.nt=q by omega]
    ·have hlt:t<st1.nt:=hr.als t ht;exact .inl ⟨ht,hlt,by simp[m',hlt]⟩
   have fp:∀b i,Db m' (fs st') b i->Db m (fs st1) b i\/∃q o,q∈Bb 0 sr/\mc.tk q=some (b,o)/\o<=i:=by
    rintro b i (⟨q,hq,rfl⟩|⟨t,o,h1,h2,h3⟩)
    ·exact .inl (.inl ⟨q,hq,rfl⟩)
    ·rcases htok t h1 with ⟨q1,_,q3⟩|⟨q,q1,_,q3⟩
     ·rw[q3] at h2;exact .inl (.inr ⟨t,o,q1,h2,h3⟩)
     ·rw[q3] at h2;exact .inr ⟨q,o,q1,h2,h3⟩
   have nx:Nx (vx cx m (fs st1) w) (vx cx m' (fs st') w'):=by
    refine⟨hch.mono (λ_ _ h=>h.elim),?_,rfl,λ_ _=>rfl,Zn1 _,Nat.le_add_right _ _,λt ht ha =>?_⟩
    ·rintro b i (hM|hf)
     ·exact .inl (.inl hM)
     ·rcases fp b i hf with h|⟨q,o,h1,h2,_⟩
      ·exact .inl (.inr h)
      ·exact .inr (hfresh q b o h1 h2).1
    ·have ht:t<st1.nt:=ht;rcases htok t ha with ⟨q1,_,q3⟩|⟨q,_,q2,_⟩
     ·exact⟨q1,q3,λg o hg=>hb g (hr.own_t q1 hg)⟩
     ·omega
   refine⟨m',hc,⟨sm1,sm2,sm3,sm4,sm5⟩,hr.step (s':=fs st') rfl rfl rfl rfl rfl (hch.mono (λ_ _ h=>h.elim)) nx ?_ ?_ hr.inj ?_ ?_ ?_,?_⟩
   ·intro b k hk;obtain⟨h1,h2⟩:=hr.blks b k hk;exact⟨h1,h2.later nx (hb _ (hr.own_b (by rw[show(fs st1).bl b=some k from hk];simp)))⟩
   ·intro t ht;rcases htok t ht with ⟨_,q2,_⟩|⟨q,q1,q2,_⟩
    ·show t<st1.nt+sr.length;omega
    ·have:=(Gi _ _ _ q1).2;show t<st1.nt+sr.length;omega
   ·intro t t' g o o' h1 h2 h3 h4;rcases htok t h1 with ⟨q1,q2,q3⟩|⟨q,q1,q2,q3⟩<;>rcases htok t' h2 with ⟨p1,p2,p3⟩|⟨p,p1,p2,p3⟩
    ·rw[q3] at h3;rw[p3] at h4;exact hr.injt t t' g o o' q1 p1 h3 h4
    ·rw[q3] at h3;rw[p3] at h4
     have:=hr.own_t q1 h3;have:=(hfresh p g o' p1 h4).1;omega
    ·rw[q3] at h3;rw[p3] at h4
     have:=hr.own_t p1 h4;have:=(hfresh q g o q1 h3).1;omega
    ·rw[q3] at h3;rw[p3] at h4
     rw[q2,p2,hinj q p g o o' q1 p1 h3 h4]
   ·intro b t g o h1 h2 h3;rcases htok t h2 with ⟨q1,_,q3⟩|⟨q,q1,_,q3⟩
    ·rw[q3] at h3;exact hr.injbt b t g o h1 q1 h3
    ·rw[q3] at h3;have:=(hfresh q g o q1 h3).1;have:=hr.own_b h1;show m.bl b≠g;omega
   ·intro b i hf;rcases fp b i hf with h|⟨q,o,h1,h2,_⟩
    ·exact⟨Zx1 (hr.own b i h).1 hch.size,.inl h⟩
    ·exact⟨(hfresh q b o h1 h2).2,.inr (hfresh q b o h1 h2).1⟩
   ·obtain⟨us,rfl,hreps⟩:=X2 hrep;refine Gl ?_;have:=Vy (x:=vr cx.el (vx cx m (fs st1) w).S mc sr w') (x':=vx cx m' (fs st') w') (n:=st1.nt) (by
     rintro b i (h|h)
     ·exact .inl (.inl h)
     ·rcases fp b i h with h|⟨q,o,h1,h2,h3⟩
      ·exact .inl (.inr h)
      ·exact .inr ⟨q,o,h1,h2,h3⟩) rfl rfl 0 hreps (λp hp=>by
     have:=(Gi _ _ _ hp).2;refine⟨hp,?_,?_⟩
     ·show st1.nt+p<st1.nt+sr.length;omega
     ·show m'.tk (st1.nt+p)=mc.tk p;simp only[m'];rw[if_neg (by omega),show st1.nt+p-st1.nt=p by omega])
    rwa[Nat.add_zero] at this
 ·cases hc
theorem Bbb{pc:Px R}(hp:PxOk cx pc)(hcl:Dh cx pc)(hcq:CallQOk cx pc)(hm:cx.P.follows .mixedOrders=true){g:Nat}{fn:Func}{c:Code}(hf:cx.P.funcs[g]? = some fn)(hb:fn.body=some c)(hname:(fn.name == "runtime.NumGoroutine")=false)(hcode:D6 fn.ntmps c=true)(hl:∀b,b∈Bl c->B3 cx pc b){args:List D}(hargs:Nat.ble args.length fn.ntmps=true){st:St}{K:List D->St->Option R}{r:R}(hc:Ary pc fn args st K=some r):Hg cx g args st K r:=by
 refine⟨Sx.enters_of hf (by rw[hb];rfl) hname,λm a as_ w vs hr hreps =>?_⟩;unfold Ary at hc;rw[hb] at hc;simp only at hc;have hlen:vs.length<=fn.ntmps:=by rw[hreps.len];simpa using hargs
 have hget:∀(ds:List D) (us:List Value) (i k:Nat) (d:D),Reps (vx cx m (fs st) w) ds us->get (Bj i ds) k=some d->∃v,i<=k/\us[k-i]? = some v/\Rep (vx cx m (fs st) w) d v:=by
  intro ds;induction ds with
  |nil=>intro us i k d _ h;simp[Bj,get] at h
  |cons e ds ih =>
   intro us i k d hr h;simp[Reps] at hr;obtain⟨u,us,rfl,h1,h2⟩:=hr;simp[Bj] at h;rw[B8] at h;by_cases hk:k=i
   ·subst hk;simp at h;subst h;exact⟨u,Zn1 _,by simp,h1⟩
   ·rw[if_neg hk] at h;obtain⟨v,h3,h4,h5⟩:=ih us (i+1) k d h2 h;refine⟨v,by omega,?_,h5⟩;rw[show k-i=(k-(i+1))+1 by omega];simpa using h4
 have hrel:Rel cx m { tmps:=vs.toArray++Array.replicate (fn.ntmps-vs.toArray.size) undef,defers:=[] } (a::as_) (fs { st with n:=fn.ntmps,env:=Bj 0 args,lb:=st.nb,lt:=st.nt,fr:=⟨st.n,st.env,st.lb,st.lt,st.df⟩::st.fr,df:=[] }) w:=by
  refine⟨hr.chg,⟨rfl,?_,λk d hk =>?_⟩,⟨a,as_,rfl,hr.lb,hr.lt,hr.env,hr.frs⟩,Zn1 _,Zn1 _,hr.blks,hr.als,hr.inj,hr.injt,hr.injbt,hr.own,hr.away,hr.glb⟩
  ·show _=fn.ntmps;simp;omega
  ·obtain⟨v,_,h2,h3⟩:=hget _ _ 0 k d hreps hk;rw[Nat.sub_zero] at h2;refine⟨v,?_,h3⟩;have hlt:k<vs.length:=(Zi2.1 h2).1;simp only[Array.getElem?_append,List.size_toArray,hlt];simpa using h2
 refine calls_of_wp hf hb (B4 hp hcl hcq hm c _ _ r hcode hl hc _ m _ (a::as_) w hrel ?_);intro e st' m' a' w' hk hsame hrel';cases e
 case exit=>cases hk
 all_goals
  simp only at hk;have hfr:st'.fr=⟨st.n,st.env,st.lb,st.lt,st.df⟩::st.fr:=hsame.2;split at hk
  ·rename_i rs f fr hdf hrs hfr';rw[hfr] at hfr';simp at hfr';obtain⟨rfl,rfl⟩:=hfr';obtain⟨us,hrun,hres⟩:=D1 hp hrel' hrs;have hfrs:=hrel'.frs;have e1:(fs st').fr=⟨st.n,st.env,st.lb,st.lt,st.df⟩::st.fr:=hfr;rw[e1] at hfrs;obtain⟨a0,r0,he0,h1,h2,h3,h4⟩:=hfrs;simp at he0;obtain⟨rfl,rfl⟩:=he0;have hx:Nx { vx cx m' (fs st') w' with nb:=(fs st').lb,nt:=(fs st').lt } (vx cx m' (fs st') w'):=⟨Chg.refl _ _,λ_ _ h =>.inl h,rfl,λ_ _=>rfl,hrel'.lb,hrel'.lt,λt _ ha=>⟨ha,rfl,λ_ _ _=>rfl⟩⟩;refine⟨hrel'.noDf hdf,Sx.resv us,?_,Sx.resv us,rfl,rs,_,m',hk,⟨rfl,rfl,rfl,rfl,rfl⟩,⟨hrel'.chg,h3.later hx,h4,Nat.le_trans h1 hrel'.lb,Nat.le_trans h2 hrel'.lt,hrel'.blks,hrel'.als,hrel'.inj,hrel'.injt,hrel'.injbt,hrel'.own,hrel'.away,hrel'.glb⟩,Gl hres⟩;obtain⟨rl⟩:∃rl,fn.results=List.toArray rl:=⟨fn.results.toList,by simp⟩;rename_i hrl;rw[Sx.results_eq,hrl];rw[hrl] at hrun;simp only[List.mapM_toArray,Sem.run_bind,map_eq_pure_bind,hrun];congr 1;match us with|[]=>rfl|[v]=>rfl|_::_::_=>simp[Sx.resv]
  ·cases hk
theorem A3t{x x':Vx}(hS:∀b j,x'.S b j->x.S b j)(hw:x'.w=x.w):∀{l:List Sg}{y:HV l}{vs:List Value}(i:Nat),Reps x (Br i l y) vs->Reps x' ((Br i l y).map Gu) vs:=by
 have hrf:∀{d:D}{v:Value},RF x.S x.w d v->RF x'.S x'.w d v:=λh=>by rw[hw];exact h.later (Chg.refl _ _) (λk j hk =>.inl (hS k j hk))
 have one:∀{i:Nat}{s:Sg}{y:den s}{v:Value},Rep x (Ce i s y) v->Rep x' (Gu (Ce i s y)) v:=by intro i s y v h;cases s with|int k=>simpa[Ce,Gu,Rep] using h|bool=>simpa[Ce,Gu,Rep] using h|str=>simpa[Ce,Gu,Rep] using h|sl c own =>cases own<;>simp[Ce,Rep] at h ⊢ <;> exact⟨hrf h.1,trivial⟩|sv c =>simp[Ce,Rep] at h ⊢;obtain⟨h1,vs,h2,h3,h4⟩:=h;exact⟨h1,vs,h2,h3,λj d hd=>by obtain⟨u,hu,hf⟩:=h4 j d hd;exact⟨u,hu,hrf hf⟩⟩|rw c k =>simp[Ce,Rep] at h ⊢;obtain⟨h1,vs,h2,h3,h4⟩:=h;exact⟨h1,vs,h2,h3,λq z j d hz hd=>by obtain⟨u,hu,hf⟩:=h4 q z j d hz hd;exact⟨u,hu,hrf hf⟩⟩|dn c =>simp[Ce,Rep] at h ⊢;obtain⟨h1,vs,h2,h3,h4⟩:=h;exact⟨h1,vs,h2,h3,λq z j d hz hd=>by obtain⟨u,hu,hf⟩:=h4 q z j d hz hd;exact⟨u,hu,hrf hf⟩⟩
 intro l;induction l with
 |nil=>intro y vs i h;simpa[Br,Reps] using h
 |cons a l ih =>intro y vs i h;cases l with|nil =>simp only[Br,Reps] at h ⊢;obtain⟨u,us,h1,h2,h3⟩:=h;exact⟨u,us,h1,one h2,h3⟩|cons b l =>obtain⟨y,z⟩:=y;simp[Br,Reps] at h ⊢;obtain⟨u,us,h1,h2,h3⟩:=h;exact⟨u,us,h1,one h2,ih (i+1) h3⟩
theorem A3u{g:Nat}{sa sr:List Sg}{F:HV sa->Option (HV sr)}(h:FnOk cx.P cx.el cx.gl g sa sr F)(hsa:C2 (Bb 0 sa) []=true){args:List D}{K:List D->Option R}{r:R}(hc:Aac sa sr F args K=some r):∃rs,K rs=some r/\Sx.Enters cx.P g/\∀(s:FS) (m:Mp) (a:Act) (as_:List Act) (w:World) (vs:List Value),Rel cx m a as_ s w->Reps (vx cx m s w) args vs->Calls cx.P g vs.toArray w λen w'=>∃v,en = .returned v/\Rel cx m a as_ s w'/\Rep (vx cx m s w') (Eh (rs.map Gu)) v:=by
 unfold Aac at hc;split at hc
 ·rename_i x hx;cases hF:F x with
  |none=>rw[hF] at hc;cases hc
  |some r0 =>rw[hF,Zc1] at hc;refine⟨_,hc,h.enters,λs m a as_ w vs hr hargs =>?_⟩;obtain⟨hM,hgl⟩:=Hc hr;have hin:Reps (v0 cx.el (vx cx m s w).S w) (Br 0 sa x) vs:=Fa (X:=vx cx m s w) (X':=v0 cx.el (vx cx m s w).S w) (λ_ _ h=>h) rfl rfl 0 hx (λt ht=>by cases ht) hargs (λp hp=>by rw[(Gb hsa)] at hp;cases hp);refine(h.run x r0 hF w _ vs hM hgl hin).mono ?_;rintro en w' ⟨v,mc,rfl,hch,_,_,hrep⟩;refine⟨v,rfl,hr.quiet hch,?_⟩;obtain⟨us,rfl,hreps⟩:=X2 hrep;exact Gl (A3t (x:=vr cx.el (vx cx m s w).S mc sr w') (x':=vx cx m s w') (λb i h =>.inl h) rfl 0 hreps)
 ·cases hc
theorem Bpj{S:Fp}{w:World}{c:Ck}{y:El c}{j:Nat}{d:D}{u:Value}(hf:Bj1 c=true)(hd:(enc c y)[j]? = some d)(h:FV w d u):RF S w d u:=λw' _=>by
 have:(∃k n,d = .int k n)\/(∃b,d = .bool b)\/∃l,d = .str l:=by
  have hm:=List.mem_of_getElem? hd;cases c<;>simp[Bj1] at hf<;>simp[enc,or_false] at hm<;>rcases hm with rfl|hm<;>first
   |exact .inl ⟨_,_,rfl⟩
   |exact .inr (.inl ⟨_,rfl⟩)
   |exact .inr (.inr ⟨_,rfl⟩)
   |skip
  all_goals rcases hm with rfl|hm<;>first
   |exact .inl ⟨_,_,rfl⟩
   |exact .inr (.inl ⟨_,rfl⟩)
   |exact .inr (.inr ⟨_,rfl⟩)
   |skip
  all_goals rcases hm with rfl|hm<;>first
   |exact .inl ⟨_,_,rfl⟩
   |exact .inr (.inl ⟨_,rfl⟩)
   |exact .inr (.inr ⟨_,rfl⟩)
   |skip
  all_goals rcases hm with rfl|rfl<;>first
   |exact .inl ⟨_,_,rfl⟩
   |exact .inr (.inl ⟨_,rfl⟩)
   |exact .inr (.inr ⟨_,rfl⟩)
 rcases this with ⟨k,n,rfl⟩|⟨b,rfl⟩|⟨l,rfl⟩
 ·cases h with|int k n hk=>exact .int k n hk
 ·cases h with|bool b=>exact .bool b
 ·cases h with|str l hl=>exact .str l hl
theorem A2u(st:St)(k:Blk):fs (Gp st k)={ fs st with bl:=λb=>if b=(fs st).nb then some k else(fs st).bl b,nb:=(fs st).nb+1 }:=by refine FS.eq rfl rfl rfl rfl rfl ?_ rfl rfl rfl;funext b;exact Az st.bl st.nb b k
theorem Axa{g:Nat}{sa:List Sg}{c:Ck}{F:HV sa->Option (HV [.sl c true])}(h:FnOk cx.P cx.el cx.gl g sa [.sl c true] F)(hsa:C2 (Bb 0 sa) []=true)(hfl:Bj1 c=true){args:List D}{st:St}{K:List D->St->Option R}{r:R}(hc:K7 sa c F args st K=some r):Hg cx g args st K r:=by
 unfold K7 at hc;refine⟨h.enters,λm a as_ w vs hr0 hargs0 =>?_⟩;obtain⟨args,bl',hc,hr,_,hargs⟩:=Agl hr0 hargs0 hc;split at hc
 ·rename_i x hx;cases hF:F x with
  |none=>rw[hF] at hc;cases hc
  |some r0 =>
   rw[hF,Zc1] at hc;obtain⟨hM,hgl⟩:=Hc hr;have hin:Reps (v0 cx.el (vx cx m (fs { st with bl:=bl' }) w).S w) (Br 0 sa x) vs:=Fa (X:=vx cx m (fs { st with bl:=bl' }) w) (X':=v0 cx.el (vx cx m (fs { st with bl:=bl' }) w).S w) (λ_ _ h=>h) rfl rfl 0 hx (λt ht=>ht) hargs (λp hp=>by rw[(Gb hsa)] at hp;cases hp);refine(h.run x r0 hF w _ vs hM hgl hin).mono ?_;rintro en w' ⟨v,mc,rfl,hch,hfresh,_,hrep⟩;refine⟨v,rfl,?_⟩;simp[Eh,Br,Ce,Rep] at hrep;obtain⟨hrf,hnt,htok⟩:=hrep;have htok:=htok (show(0:Nat)∈Bb 0 [.sl c true] by simp[Bb]);have hq:=hr.quiet hch;by_cases he:r0=([]:List (El c))
   ·subst he;refine⟨_,_,m,hc,⟨rfl,rfl,rfl,rfl,rfl⟩,hq.raise (Nat.le_succ _) (Nat.le_succ _),?_⟩;obtain⟨ad,cap,rfl,_⟩:=hrf.here.slice;simp[Eh,Rep];exact⟨λ_ _ =>.nil _ _ _ _ trivial,trivial⟩
   ·have hie:List.isEmpty (α:=El c) r0=false:=by cases r0 with|nil=>exact absurd rfl he|cons _ _=>rfl
    rw[hie] at hc;rcases htok with ⟨_,_,e⟩|⟨g2,cap,cur,rfl,hm,hh,hsz,hle,hcm⟩
    ·exact absurd e he
    ·obtain⟨hg1,hg2⟩:=hfresh 0 g2 _ (by simp[Bb]) hm;have hh:w'.heap[g2]? = some (.cells cur (cx.el c) (0,0)):=hh;have hr2:Rel cx m a as_ (fs { st with bl:=bl',nt:=st.nt+1 }) w:=hr.raise (Zn1 _) (Nat.le_succ _);have hcl:cur.toList.length=cap*csz c:=by simpa using hsz
     have hlm:List.length (α:=El c) r0<=maxLen:=Nat.le_trans hle hcm;obtain⟨m',h1,h2⟩:=hr2.newAt (k :=.dyn c r0) (g:=g2) hch hg1 hg2 (λx' _ hw=>by
      refine⟨hlm,cur.toList,cx.el c,by rw[hw,Array.toArray_toList];exact hh,hcl.symm▸Nat.mul_le_mul_right _ hle,λi y j d hy hd =>?_⟩;obtain⟨ad,cap',hva,hrest⟩:=hrf.here.slice;simp at hva;rcases hrest with e|⟨b,o,e,_,hat⟩
      ·exact absurd e he
      ·rw[e] at hva;simp[ and_true] at hva;obtain⟨⟨rfl,rfl⟩,_⟩:=hva;obtain⟨u,hu,hf⟩:=hat i y hy j d hd;refine⟨u,?_,Bpj hfl hd (by rw[hw];exact hf)⟩;rw[Nat.zero_add] at hu;have hu:w'.cell? ⟨g2,i*csz c+j,none⟩=some u:=hu;simp[World.cell?,hh] at hu;simpa using hu)
     rw[<-A2u] at h1 h2;refine⟨_,_,m',hc,⟨rfl,rfl,rfl,rfl,rfl⟩,h1,?_⟩;simp only[Rep] at h2;simp only[Eh,Rep];obtain⟨k1,k2⟩:=h2;simp[ and_true] at k2;refine⟨k1,Int.le_refl _,Int.natCast_nonneg _,by simpa using hlm,some ⟨g2,0,none⟩,cap,by simp,.inr (by simp only[vx];rw[show m'.bl st.nb=g2 from k2.symm];simp),by simpa using hle,hcm,cur,(0,0),by simp[vx];rw[show m'.bl st.nb=g2 from k2.symm];exact hh,by simpa using hsz⟩
 ·cases hc
end
def tbl{α:Type _}:List (Nat×α)->Nat->Option α
 |[],_=>none
 |(k,v)::e,n=>match Nat.beq k n with|true=>some v|false=>tbl e n
theorem Ey{α:Type _}:∀{l:List (Nat×α)}{n:Nat}{v : α},tbl l n=some v->(n,v)∈l
 |[],n,v,h=>by simp[tbl] at h
 |(k,u)::l,n,v,h=>by
  simp[tbl] at h;split at h
  ·simp_all
  ·exact Zu1 _ (Ey h)
def Ams(l:List (Nat×Ty))(t:Nat):Ty:=match tbl l t with|some ty=>ty|none =>.no
theorem Axk{P:Program}{el:Ck->TypeId}{l:List (Nat×Ty)}(h:(l.all λp=>Ch P el (Ams l) p.1)=true)(t:Nat):Ch P el (Ams l) t=true:=by cases ht:tbl l t with|none=>unfold Ch;simp[Ams,ht]|some ty=>exact Zg2.1 h _ (Ey ht)
abbrev Gx(R:Type):=List D->St->(List D->St->Option R)->Option R
abbrev Fw(R:Type):=List D->(List D->Option R)->Option R
abbrev Q0(R:Type):=List D->St->(D->List Nat->St->Option R)->Option R
def A74{R:Type}(l:List (Nat×Gx R))(g:Nat):Gx R:=match tbl l g with|some f=>f|none=>λ_ _ _=>none
def Atk{R:Type}(l:List (Nat×Fw R))(g:Nat):Fw R:=match tbl l g with|some f=>f|none=>λ_ _=>none
section
variable {R:Type}{cx:Cx}
def G2(cx:Cx)(g:Nat)(f:Gx R):Prop:=∀args st K r,f args st K=some r->Hg cx g args st K r
def Q6(cx:Cx)(g:Nat)(f:Fw R):Prop:=∀(args:List D) (K:List D->Option R) (r:R),f args K=some r->∃rs,K rs=some r/\Sx.Enters cx.P g/\∀(s:FS) (m:Mp) (a:Act) (as_:List Act) (w:World) (vs:List Value),Rel cx m a as_ s w->Reps (vx cx m s w) args vs->Calls cx.P g vs.toArray w λen w'=>∃v,en = .returned v/\Rel cx m a as_ s w'/\Rep (vx cx m s w') (Eh (rs.map Gu)) v
theorem Bkg{px:Px R}{l:List (Nat×Gx R)}(hpx:px.call=A74 l)(h:∀g f,(g,f)∈l->G2 cx g f):Dh cx px:=by intro g args st K r hk;rw[hpx] at hk;unfold A74 at hk;cases hf:tbl l g with|none=>rw[hf] at hk;cases hk|some f=>rw[hf] at hk;exact h g f (Ey hf) args st K r hk
theorem Bac{px:Px R}{l:List (Nat×Fw R)}{lw:List (Nat×Q0 R)}(hpx:px.callQ=Atk l)(hpw:px.callW=tbl lw)(h:∀g f,(g,f)∈l->Q6 cx g f)(hw:∀g f,(g,f)∈lw->F0 cx g f):CallQOk cx px:=by
 refine⟨λg args K r hk =>?_,λg F hF =>?_⟩
 ·rw[hpx] at hk;unfold Atk at hk;cases hf:tbl l g with|none=>rw[hf] at hk;cases hk|some f=>rw[hf] at hk;exact h g f (Ey hf) args K r hk
 ·rw[hpw] at hF;exact hw g F (Ey hF)
theorem Ab:∀g f,(g,f)∈([]:List (Nat×Q0 R))->F0 cx g f:=λ_ _ h=>by cases h
theorem Aci{g:Nat}{f:Q0 R}{l:List (Nat×Q0 R)}(h:F0 cx g f)(hl:∀g f,(g,f)∈l->F0 cx g f):∀g' f',(g',f')∈(g,f)::l->F0 cx g' f':=by grind
theorem Bs4{g:Nat}{sa sr:List Sg}{F:HV sa->Option (HV sr)}(h:FnOk cx.P cx.el cx.gl g sa sr F)(hsa:C2 (Bb 0 sa) []=true):G2 (R:=R) cx g (Ac9 sa sr F):=λ_ _ _ _ hc=>Bc9 h hsa hc
theorem Bnu{g:Nat}{sa:List Sg}{c:Ck}{F:HV sa->Option (HV [.sl c true])}(h:FnOk cx.P cx.el cx.gl g sa [.sl c true] F)(hsa:C2 (Bb 0 sa) []=true)(hfl:Bj1 c=true):G2 (R:=R) cx g (K7 sa c F):=λ_ _ _ _ hc=>Axa h hsa hfl hc
theorem Bq8{g:Nat}{sa sr:List Sg}{F:HV sa->Option (HV sr)}(h:FnOk cx.P cx.el cx.gl g sa sr F)(hsa:C2 (Bb 0 sa) []=true):Q6 (R:=R) cx g (Aac sa sr F):=λ_ _ _ hc=>A3u h hsa hc
theorem Ae:∀g f,(g,f)∈([]:List (Nat×Gx R))->G2 cx g f:=λ_ _ h=>by cases h
theorem Al{g:Nat}{f:Gx R}{l:List (Nat×Gx R)}(h:G2 cx g f)(hl:∀g f,(g,f)∈l->G2 cx g f):∀g' f',(g',f')∈(g,f)::l->G2 cx g' f':=by grind
theorem Aa:∀g f,(g,f)∈([]:List (Nat×Fw R))->Q6 cx g f:=λ_ _ h=>by cases h
theorem A9s{g:Nat}{f:Fw R}{l:List (Nat×Fw R)}(h:Q6 cx g f)(hl:∀g f,(g,f)∈l->Q6 cx g f):∀g' f',(g',f')∈(g,f)::l->Q6 cx g' f':=by grind
end
theorem FnOk.calls{P:Program}{el:Ck->TypeId}{gl:Nat->Option Gv}{f:FuncId}{sa:List Sg}{F:HV sa->Option Bool}(h:FnOk P el gl f sa [.bool] F){x:HV sa}{r:Bool}(hF:F x=some r){w:World}{vs:List Value}(hgl:GlR (v0 el Cf w) gl)(hr:Reps (v0 el Cf w) (Br 0 sa x) vs):Calls P f vs.toArray w λen w'=>en = .returned (.bool r)/\Below w.heap.size w w':=by
 refine(h.run x r hF w Cf vs (λ_ _ h=>h.elim) hgl hr).mono ?_;rintro en w' ⟨v,m,rfl,hch,_,_,hrep⟩;have:v = .bool r:=by simpa[Eh,Br,Ce,Rep] using hrep
 subst this;exact⟨rfl,hch.below⟩
abbrev FT(sa sr:List Sg):=HV sa->Option (HV sr)
abbrev Bi2(R:Type):=St->(Ex->St->Option R)->Option R
def Bs1{R:Type}(l:List (Nat×Bi2 R))(b:Code):Bi2 R:=match tbl l (Pq b) with|some f=>f|none=>λ_ _=>none
def lpC(b:Code)(i:Nat):Code:=(Bl b).getD i .skip
def Ks(fn:Func):Nat:=match fn.body with|some c=>(Bl c).length|none=>0
def Q9(fn:Func):Bool:=match fn.body with|some c=>D6 fn.ntmps c|none=>false
theorem Ag{p:Nat->Prop}:∀i,i<0->p i:=λ_ h=>absurd h (Zm1 _)
theorem A5{p:Nat->Prop}{n:Nat}(h:∀i,i<n->p i)(hn:p n):∀i,i<n+1->p i:=λi hi=>by grind
theorem Aym{l:List Code}{b:Code}(h:b∈l):∃i,i<l.length/\l.getD i .skip=b:=by obtain⟨i,hi,rfl⟩:=List.getElem_of_mem h;exact⟨i,hi,by simp[ hi]⟩
section
variable {R:Type}{px:Px R}{cx:Cx}
theorem Ah0{fn:Func}{c:Code}{n:Nat}(hb:fn.body=some c)(hn:Ks fn=n)(h:∀i,i<n->B3 cx px (lp fn i)):∀b,b∈Bl c->B3 cx px b:=by intro b hm;obtain⟨i,hi,rfl⟩:=Aym hm;have:=h i (by rw[<-hn];unfold Ks;rw[hb];exact hi);unfold lp at this;rw[hb] at this;exact this
theorem Hl{b:Code}{n:Nat}(hn:(Bl b).length=n)(h:∀i,i<n->B3 cx px (lpC b i)):∀b',b'∈Bl b->B3 cx px b':=by intro b' hm;obtain⟨i,hi,rfl⟩:=Aym hm;exact h i (by rw[<-hn];exact hi)
def Aq(nb nt:Nat)(pc:Px R)(fn:Func)(args:List D)(st:St)(K:List D->St->Option R):Option R:=match Nat.ble args.length fn.ntmps&&Nat.ble st.nb nb&&Nat.ble st.nt nt with
 |true=>Ary pc fn args { st with nb:=nb,nt:=nt } K
 |false=>none
theorem A00{m:Mp}{st:St}{w:World}{nb nt:Nat}(hb:st.nb<=nb)(ht:st.nt<=nt){ds:List D}{vs:List Value}(h:Reps (vx cx m (fs st) w) ds vs):Reps (vx cx m (fs { st with nb:=nb,nt:=nt }) w) ds vs:=by have nx:Nx (vx cx m (fs st) w) (vx cx m (fs { st with nb:=nb,nt:=nt }) w):=⟨Chg.refl _ _,λ_ _ h =>.inl h,rfl,λ_ _=>rfl,hb,ht,λt _ ha=>⟨ha,rfl,λ_ _ _=>rfl⟩⟩;exact Reps.later nx _ _ h
theorem Bqt{nb nt:Nat}{pc:Px R}{g:Nat}{fn:Func}{c:Code}{n:Nat}(hp:PxOk cx pc)(hcl:Dh cx pc)(hcq:CallQOk cx pc)(hm:cx.P.follows .mixedOrders=true)(hf:cx.P.funcs[g]? = some fn)(hb:fn.body=some c)(hname:(fn.name == "runtime.NumGoroutine")=false)(hcode:Q9 fn=true)(hn:Ks fn=n)(hl:∀i,i<n->B3 cx pc (lp fn i)):G2 cx g (Aq nb nt pc fn):=by
 intro args st K r hc;unfold Aq at hc;split at hc
 ·rename_i hargs;simp only[Zb1] at hargs;have h1:st.nb<=nb:=Nat.le_of_ble_eq_true hargs.1.2;have h2:st.nt<=nt:=Nat.le_of_ble_eq_true hargs.2;obtain⟨q1,q2⟩:=Bbb hp hcl hcq hm hf hb hname (by unfold Q9 at hcode;rw[hb] at hcode;exact hcode) (Ah0 hb hn hl) hargs.1.1 hc;refine⟨q1,λm a as_ w vs hr hreps =>?_⟩;exact(q2 m a as_ w vs (hr.raise h1 h2) (A00 h1 h2 hreps)).mono λen w' ⟨v,e1,rs,st',m',e2,e3,e4,e5⟩=>⟨v,e1,rs,st',m',e2,e3,e4,e5⟩
 ·cases hc
end
theorem Bj7{P:Program}{el:Ck->TypeId}{gl:Nat->Option Gv}{f:FuncId}{fn:Func}{c:Code}{sa sr:List Sg}{px:Px (HV sr)}{F:FT sa sr}{n:Nat}(hf:P.funcs[f]? = some fn)(hb:fn.body=some c)(hname:(fn.name == "runtime.NumGoroutine")=false)(hm:P.follows .mixedOrders=true)(hchk:(Q9 fn&&Nat.ble sa.length fn.ntmps&&C2 (Bb 0 sa) [])=true)(hn:Ks fn=n)
  (hpx:∀cx:Cx,cx.P=P->cx.el=el->cx.gl=gl->cx.I=Cf->PxOk cx px/\Dh cx px/\CallQOk cx px/\∀i,i<n->B3 cx px (lp fn i)) (hF:∀x,A19 px fn sa sr x some=F x):FnOk P el gl f sa sr F:=by
 refine A5h hf hb hname hm ?_ (λcx h1 h2 h3 hI =>?_) hF
 ·unfold Q9 at hchk;rw[hb] at hchk;exact hchk
 ·obtain⟨q1,q2,q3,q4⟩:=hpx cx h1 h2 h3 hI;exact⟨q1,q2,q3,Ah0 hb hn q4⟩
section
variable {P:Program}{el:Ck->TypeId}{gl:Nat->Option Gv}{f:FuncId}{sa sr:List Sg}
theorem FnOk.none(he:Sx.Enters P f):FnOk P el gl f sa sr (λ_ =>.none):=⟨he,λ_ _ h=>by cases h⟩
theorem FnOk.rec'{body:FT sa sr->FT sa sr}(he:Sx.Enters P f)(h:∀rf,FnOk P el gl f sa sr rf->FnOk P el gl f sa sr (body rf)):∀n,FnOk P el gl f sa sr (Ak body n)
 |0=>FnOk.none he
 |n+1=>h _ (FnOk.rec' he h n)
end
def inI(n:Int):Prop := -9223372036854775808<=n/\n<=9223372036854775807
def ln(n:Nat):Prop:=n<=9223372036854775807
def inK(k:IntKind)(n:Int):Prop:=k.min<=n/\n<=k.max
def A8t(v:Val):Prop:=inI v.kind/\inI v.n/\ln v.s.length
inductive BdExpr:Xpr->Prop
 |mk (k:Int) (v:Val) (nm:Str) (l:List Xpr):inI k->A8t v->ln nm.length->ln l.length->(∀e,e∈l->BdExpr e)->BdExpr (.mk k v nm l)
def Ek{α:Type}(p : α->Prop)(l:List α):Prop:=ln l.length/\∀x,x∈l->p x
def Bmd(c:Col):Prop:=ln c.name.length/\inI c.kind/\ln c.ref.length
def Bp5(s:SetE):Prop:=ln s.name.length/\BdExpr s.e
structure BdStm (s:Stm):Prop where
 kind:inI s.kind
 name:ln s.name.length
 on:ln s.on.length
 cols:Ek Bmd s.cols
 names:Ek (λx=>ln x.length) s.names
 l:Ek BdExpr s.l
 rows:Ek (Ek BdExpr) s.rows
 sets:Ek Bp5 s.sets
 whr:BdExpr s.whr
 order:Ek (λx=>ln x.length) s.order
 desc:ln s.desc.length
 most:inI s.most
def Bp0(x:Idx):Prop:=ln x.name.length/\Ek (λs=>ln s.length) x.cols
structure BdTbl (t:Tbl):Prop where
 name:ln t.name.length
 cols:Ek Bmd t.cols
 key:Ek (λs=>ln s.length) t.key
 checks:Ek BdExpr t.checks
 idx:Ek Bp0 t.idx
inductive BdNode:NodeS->Prop
 |mk (k:Int) (p:List UInt8) (h:Bool) (v:List UInt8) (l:List NodeS) (s:List UInt8):inI k->ln p.length->ln v.length->ln l.length->(∀e,e∈l->BdNode e)->ln s.length->BdNode (.mk k p h v l s)
def Bro(p:KvS):Prop:=ln p.key.length/\ln p.val.length
def Bqe(r:ResS):Prop:=Ek (Ek A8t) r.rows/\inI r.n
def BdK:(c:Ck)->El c->Prop
 |.byte,_=>True
 |.int,n=>inI n
 |.u64,n=>inK .u64 n
 |.str,s=>ln s.length
 |.bool,_=>True
 |.val,v=>A8t v
 |.tok,t=>inI t.kind/\inI t.pos/\ln t.s.length/\inI t.n
 |.col,c=>Bmd c
 |.expr,e=>BdExpr e
 |.num,n=>Ek inI n.d
 |.vals,l=>Ek A8t l
 |.exprs,l=>Ek BdExpr l
 |.strs,l=>Ek (λs=>ln s.length) l
 |.bytes,l=>ln l.length
 |.set,s=>Bp5 s
 |.stmt,s=>BdStm s
 |.got,g=>inI g.pos
 |.pair,p=>ln p.sign.length/\inI p.kind
 |.idx,x=>Bp0 x
 |.tbl,t=>BdTbl t
 |.node,n=>BdNode n
 |.kv,p=>Bro p
 |.kvs,l=>Ek Bro l
 |.lay,y=>Ek Bro y.l/\inI y.e
 |.stt,n=>BdNode n
 |.res,r=>Bqe r
 |.outc,o=>inI o.e/\inI o.pos/\Ek Bqe o.l
def BdD:D->Prop
 |.int k n=>inK k n
 |.str l=>ln l.length
 |.sl c xs _=>Ek (BdK c) xs
 |_=>True
theorem Bp{n:Int}(h:inK .i64 n):inI n:=by simpa[inK,inI,IntKind.min,IntKind.signed,IntKind.bits] using h
theorem Ats{c:Ck}{x:El c}(h:∀(j:Nat) d,(enc c x)[j]? = some d->BdD d):BdK c x:=by cases c with|byte=>trivial|int=>exact Bp (h 0 _ rfl)|u64=>exact h 0 _ rfl|str=>exact h 0 _ rfl|bool=>trivial|val=>exact⟨Bp (h 0 _ rfl),Bp (h 1 _ rfl),h 2 _ rfl⟩|tok=>exact⟨Bp (h 0 _ rfl),Bp (h 1 _ rfl),h 2 _ rfl,Bp (h 3 _ rfl)⟩|col=>exact⟨h 0 _ rfl,Bp (h 1 _ rfl),h 4 _ rfl⟩|expr =>obtain⟨k,v,nm,l⟩:=x;have h5:=h 5 _ rfl;exact .mk k v nm l (Bp (h 0 _ rfl)) ⟨Bp (h 1 _ rfl),Bp (h 2 _ rfl),h 3 _ rfl⟩ (h 4 _ rfl) h5.1 h5.2|num=>exact h 1 _ rfl|vals=>exact h 0 _ rfl|exprs=>exact h 0 _ rfl|strs=>exact h 0 _ rfl|bytes=>exact(h 0 _ rfl).1|set =>obtain⟨sn,k,v,nm,l⟩:=x;have h6:=h 6 _ rfl;exact⟨h 0 _ rfl,.mk k v nm l (Bp (h 1 _ rfl)) ⟨Bp (h 2 _ rfl),Bp (h 3 _ rfl),h 4 _ rfl⟩ (h 5 _ rfl) h6.1 h6.2⟩|stmt =>obtain⟨_,_,_,_,_,_,_,_,_,⟨k,v,nm,l⟩,_,_,_⟩:=x;have h14:=h 14 _ rfl;exact⟨Bp (h 0 _ rfl),h 1 _ rfl,h 2 _ rfl,h 3 _ rfl,h 4 _ rfl,h 5 _ rfl,h 6 _ rfl,h 7 _ rfl,.mk k v nm l (Bp (h 9 _ rfl)) ⟨Bp (h 10 _ rfl),Bp (h 11 _ rfl),h 12 _ rfl⟩ (h 13 _ rfl) h14.1 h14.2,h 15 _ rfl,(h 16 _ rfl).1,Bp (h 17 _ rfl)⟩|got=>exact Bp (h 0 _ rfl)|pair=>exact⟨h 0 _ rfl,Bp (h 1 _ rfl)⟩|node =>obtain⟨k,p,hs,v,l,s⟩:=x;have h4:=h 4 _ rfl;exact .mk k p hs v l s (Bp (h 0 _ rfl)) (h 1 _ rfl).1 (h 3 _ rfl).1 h4.1 h4.2 (h 5 _ rfl).1|stt =>obtain⟨k,p,hs,v,l,s⟩:=x;have h4:=h 4 _ rfl;exact .mk k p hs v l s (Bp (h 0 _ rfl)) (h 1 _ rfl).1 (h 3 _ rfl).1 h4.1 h4.2 (h 5 _ rfl).1|kv=>exact⟨(h 0 _ rfl).1,(h 1 _ rfl).1⟩|kvs=>exact h 0 _ rfl|lay=>exact⟨h 0 _ rfl,Bp (h 1 _ rfl)⟩|res=>exact⟨h 0 _ rfl,Bp (h 1 _ rfl)⟩|outc=>exact⟨Bp (h 0 _ rfl),Bp (h 1 _ rfl),h 2 _ rfl⟩|idx=>exact⟨h 0 _ rfl,h 1 _ rfl⟩|tbl=>exact⟨h 0 _ rfl,h 1 _ rfl,h 2 _ rfl,h 3 _ rfl,h 4 _ rfl⟩
theorem A55{w:World}{d:D}{v:Value}(h:FV w d v):BdD d:=by induction h with|int k n hu=>exact P5 hu|bool b=>trivial|str l hl=>simpa[BdD,ln,maxLen] using hl|nil c t a cap=>exact⟨by simp[ln],by simp⟩|sl c xs t b o cap u hle hm hc h ih =>refine⟨by simp[ln,maxLen] at *;omega,λx hx=>Ats λj d hd =>?_⟩;obtain⟨i,hi,rfl⟩:=List.getElem_of_mem hx;exact ih i _ j d (Zo1 hi) hd
def BdS:(s:Sg)->den s->Prop
 |.int k,n=>inK k n
 |.bool,_=>True
 |.str,s=>ln s.length
 |.sl c _,xs=>Ek (BdK c) xs
 |.sv c,x=>BdK c x
 |.rw c n,xs=>xs.length=n/\∀x,x∈xs->BdK c x
 |.dn c,xs=>xs.length<=maxLen/\∀x,x∈xs->BdK c x
def BdL:(l:List Sg)->HV l->Prop
 |[],_=>True
 |[a],x=>BdS a x
 |a::b::l,(x,y)=>BdS a x/\BdL (b::l) y
theorem Bgt{x:Vx}{i:Nat}{s:Sg}{y:den s}{v:Value}(h:Rep x (Ce i s y) v):BdS s y:=by cases s with|int k=>exact P5 h.u8|bool=>trivial|str=>simpa[BdS,ln,maxLen] using h.strLen|sl c own=>cases own<;>(simp[Ce] at h;exact A55 h.1.here)|sv c =>simp[Ce] at h;obtain⟨_,vs,_,_,h⟩:=h;exact Ats λj d hd=>by obtain⟨u,_,hf⟩:=h j d hd;exact A55 hf.here|rw c n =>simp[Ce] at h;obtain⟨h1,vs,_,_,h⟩:=h;refine⟨h1,λz hz=>Ats λj d hd =>?_⟩;obtain⟨i,hi,rfl⟩:=List.getElem_of_mem hz;obtain⟨u,_,hf⟩:=h i _ j d (Zo1 hi) hd;exact A55 hf.here|dn c =>simp[Ce] at h;obtain⟨h1,vs,_,_,h⟩:=h;refine⟨h1,λz hz=>Ats λj d hd =>?_⟩;obtain⟨i,hi,rfl⟩:=List.getElem_of_mem hz;obtain⟨u,_,hf⟩:=h i _ j d (Zo1 hi) hd;exact A55 hf.here
theorem Ys{x:Vx}:∀{l:List Sg}{i:Nat}{y:HV l}{vs:List Value},Reps x (Br i l y) vs->BdL l y
 |[],_,_,_,_=>trivial
 |[a],i,y,vs,h=>by simp only[Br] at h;obtain⟨u,us,_,h1,_⟩:=h;exact Bgt h1
 |a::b::l,i,(y,z),vs,h=>by simp[Br] at h;obtain⟨u,us,_,h1,h2⟩:=h;exact⟨Bgt h1,Ys h2⟩
section
variable {P:Program}{el:Ck->TypeId}{gl:Nat->Option Gv}{f:FuncId}{sa sr:List Sg}
theorem FnOk.fin{ι:Type}{F : ι->FT sa sr}{G:FT sa sr}(i0 : ι)(h:∀i,FnOk P el gl f sa sr (F i))(hG:∀x r,BdL sa x->G x=some r->∃i,F i x=some r):FnOk P el gl f sa sr G :=⟨(h i0).enters,λx r hx w M vs h1 h2 h3=>by obtain⟨i,hi⟩:=hG x r (Ys h3) hx;exact(h i).run x r hi w M vs h1 h2 h3⟩
theorem FnOk.fin0{F G:FT sa sr}(h:FnOk P el gl f sa sr F)(hG:∀x r,BdL sa x->G x=some r->F x=some r):FnOk P el gl f sa sr G :=.fin () (λ_=>h) λx r hb hx=>⟨(),hG x r hb hx⟩
end
theorem Ayv{R:Type}{b:Bool}{x:Option R}(h:b=true):chk b x=x:=by subst h;rfl
theorem B0{n:Int}(h:inI n):wr .i64 n=n:=by simp[inI] at h;simp only[wr,IntKind.wrap,IntKind.signed,IntKind.bits,Bool.true_and];split<;>simp at * <;> omega
theorem Bnl{i n:Nat}:inb (i:Int) n=decide (i<n):=by simp[inb]
theorem Alo{i j n:Nat}:upto (i:Int) (j:Int) n=(decide (i<=j)&&decide (j<=n)):=by simp[upto]
end Go.Ax
