/- Texts of the proof,one behind the other: AxR,AxS,AxT,AxU,AxQf,AxQg,AxQh,AxVa,AxV,AxW,AxX,AxY,AxZ,AxBd. -/
import Derived.Test.YtcoaaebppfbbnaaGreatDoorU2
set_option linter.all false
namespace Go.Ax
open Go.RowKit
variable{c:Ck}{x:Vx}{xs:Yb1 (El c)}
theorem A6o{t:Tk}{v:Value}(h:Rep x (.sl c xs t) v):Rep x (A7 (.sl c xs t)) v:=by simp only[A7,Rep]at h ⊢;refine⟨h.1,?_⟩;cases t with|id t=>trivial|_=>exact h.2
section
variable {R:Type}{px:Px R}{cx:Cx}
def sW(o:Oper)(t s:FS):FS:=if isW o then E0 t s else s
structure EffD (cx:Cx) (px:Px R) (o:Oper) (st st':St) (d:D) (ws:List Nat):Prop where
 same:Ae7 st st'
 still:isW o=false->fs st' = fs st
 mono:st.nb<=st'.nb
 keep:∀b,b∉ws->F3 (fs st) (fs st') b
 run:∀(s:FS) (m:Mp) (a:Act) (as_:List Act) (w:World),(∀t x,x∈o.op.operands->evF px s.env t x=evF px (get st.env) t x)->OkW o (fs st) s->Rel cx m a as_ s w->Yv cx.P a w o λv w'=>∃m',Rel cx m' a as_ (sW o (fs st') s) w'/\Rep (vx cx m' (sW o (fs st') s) w') d v
variable{o:Oper}{st:St}{st':St}
theorem Aap{d:D}{ws:Yb1 Nat}(c:isW o=true)(hm:st.nb<=st'.nb)(g:∀b,b∉ws->F3 (fs st) (fs st') b)(h:Eff cx px o st st' d):EffD cx px o st st' d ws:=⟨h.same,λe=>by(rw[c]at e;cases e),hm,g,λs m a as_ w f i j=>by have:=h.run s m a as_ w f (i.1 c) j;simpa[sW,c]using this⟩
theorem Oa(st:St):∀b,b∉([]:Yb1 Nat)->F3 (fs st) (fs st) b:=λb _=>F3.of_bl rfl b
theorem B5a{d:D}(c:isW o=false)(h:Be2 cx px o (get st.env) (blk st.bl) d):EffD cx px o st st d []:=⟨⟨rfl,rfl,rfl,rfl,rfl⟩,λ_=>rfl,Zn1 _,Oa st,λs m a as_ w b f e=>by obtain⟨v,g,i⟩:=h s m a as_ w b f.2 e;exact .inl ⟨v,w,g,m,by simpa[sW,c]using e,by simpa[sW,c]using i⟩⟩
theorem A8l{K:D->Ya1 R}{r:R}(h:W5 px o st K=some r):isW o=false:=by
 unfold W5 at h;split at h<;>rename_i a<;>first
  |(simp[isW,a];done)
  |(cases h;done)
  |skip
 rename_i b xs e;split at h
 ·rename_i ds c;split at h
  ·rename_i d hd;simp[isW,a];unfold Aci at hd;split at hd<;>first|rfl|cases hd
  ·cases h
 ·cases h
theorem Biq(hp:PxOk cx px)(am:CallQOk cx px)(hb:opB o=true){K:D->Yb1 Nat->St->Ya1 R}{r:R}(h:Bu3 px o st K=some r):∃d ws st',K d ws st' = some r/\EffD cx px o st st' d ws:=by
 have quiet:(W5 px o st λd=>K d [] st)=some r->∃d ws st',K d ws st' = some r/\EffD cx px o st st' d ws:=λh=>by have hw:=A8l h;obtain⟨d,hk,hq⟩:=Afh hp (Axn hb) h;exact⟨d,_,st,hk,B5a hw hq⟩
 have a3:∀k,blk st.bl st.nb=none->∀b,b∉([]:Yb1 Nat)->F3 (fs st) (fs (Hr st k)) b:=λk a6 b _=>by
  have e:∀b,(fs (Hr st k)).bl b=if b=st.nb then some k else blk st.bl b:=λb=>Az st.bl st.nb b k
  refine⟨λq hb=>?_,λq hb an=>?_⟩
  ·have hb:blk st.bl b=some q:=hb;rw[e,if_neg (λh=>by rw[h,a6]at hb;cases hb)];exact hb
  ·have an:b<st.nb:=an;rw[e,if_neg (by omega)]at hb;exact hb
 unfold Bu3 at h;split at h
 ·rename_i t len ps i;have hw:isW o=false:=by simp[isW,i]
  simp[step,i]at h;split at h
  ·rename_i c p;split at h
   ·rename_i xs ax;refine⟨_,_,_,h,⟨rfl,rfl,rfl,rfl,rfl⟩,λ_=>rfl,Zn1 _,Oa st,λs m a as_ w a2 _ hr=>?_⟩;obtain⟨ae,ay,us,ao,a7⟩:=Ah0 hp i p ax a2 hr;simp[sW,hw,if_false];refine .inl ⟨_,_,a7,m,hr.quiet (Fi w _).1,?_⟩;have:=A25 hr (Fi w (.cells us.toArray (cx.el c))).1 ao ⟨Zn1 _,by rw[ae];exact ay⟩ (λj u hj=>by simp only[World.cell?,Cj];simpa using hj)
    rw[ae]at this;simp only[B1s,Rep]at this ⊢;exact⟨this.1,_,by rw[ae]⟩
   ·cases h
  ·cases h
 ·rename_i q t x i;have hw:isW o=false:=by simp[isW,i]
  simp[step,i]at h;split at h
  ·rename_i l hx p;split at h
   ·rename_i hs;obtain⟨_,hk⟩:=A2 h;refine⟨_,_,_,hk,⟨rfl,rfl,rfl,rfl,rfl⟩,λ_=>rfl,Zn1 _,Oa st,λs m a as_ w a2 _ hr=>?_⟩;obtain⟨v,w',h1,h2,h3⟩:=W6 hp i hx p (Gx hs) a2 hr;simp[sW,hw,if_false];exact .inl ⟨v,w',h1,m,h2,h3⟩
   ·cases h
  ·obtain⟨d,hk,hq⟩:=Afh hp (Axn hb) h;refine⟨_,_,_,hk,⟨rfl,rfl,rfl,rfl,rfl⟩,λ_=>rfl,Zn1 _,Oa st,λs m a as_ w a2 hW hr=>?_⟩;obtain⟨v,h1,h2⟩:=hq s m a as_ w a2 (λhm=>by rw[i]at hm;cases hm) hr;simp[sW,hw,if_false];refine .inl ⟨v,w,h1,m,hr,?_⟩;cases d<;>first|exact h2|exact A6o h2
 ·rename_i t i;have hw:isW o=true:=by simp[isW,i]
  split at h
  ·rename_i a6;simp[step,i]at h;split at h
   ·rename_i n c p;exact⟨_,_,_,h,Aap hw (Nat.le_succ _) (a3 _ a6) (Vb hp i (.inl ⟨n,c,p,rfl⟩))⟩
   ·split at h
    ·rename_i z hz;refine⟨_,_,_,h,Aap hw (Nat.le_succ _) (a3 _ a6) (Vb hp i (.inr ⟨z,λe=>?_,hz,rfl⟩))⟩;rw[e]at hz;cases hz
    ·cases h
  ·cases h
 ·rename_i t x i;have hw:isW o=true:=by simp[isW,i]
  split at h
  ·rename_i a6;simp[step,i]at h;split at h
   ·rename_i d hd;split at h
    ·rename_i hl;exact⟨_,_,_,h,Aap hw (Nat.le_succ _) (a3 _ a6) (Bfs i hd hl)⟩
    ·cases h
   ·cases h
  ·cases h
 ·rename_i t x y i;have hw:isW o=true:=by simp[isW,i]
  split at h
  ·rename_i a6;simp[step,i]at h;split at h
   ·rename_i c k n k' q p hx hy;obtain⟨hc,hk⟩:=A2 h;simp[Zb1]at hc;have hu:=S0 hc.1;exact⟨_,_,_,hk,Aap hw (Nat.le_succ _) (a3 _ a6) (A3j hp i p hx hy ⟨hu.2.1,hu.2.2⟩ hc.2)⟩
   ·cases h
  ·cases h
 ·rename_i f xs ts i;have az:∀{g:Nat}{caps:Yb1 D},ev px st 0 f=some (.fn g caps)->Ajr g=false->isW o=true:=λ{g caps} hf hq=>by cases f with|func f'=>simp[ev,Za1,D.fn.injEq]at hf;obtain⟨rfl,_⟩:=hf;simp[isW,i,hq]|_=>simp[isW,i]
  have b1:∀{g:Nat}{fs:Yb1 D},ev px st 0 f=some (.bm g fs)->isW o=true:=λ{g fs} hf=>by cases f with|func f'=>simp[ev]at hf|_=>simp[isW,i]
  have call:∀{g:Nat}{args:Yb1 D},(Ajr g=false->isW o=true)->Bd0 px g args st K=some r->(∀(s:FS) (m:Mp) (a:Act) (as_:Yb1 Act) (w:World),(∀t x,x∈o.op.operands->evF px s.env t x=evF px (get st.env) t x)->Rel cx m a as_ s w->∃vs,Reps (vx cx m s w) args vs/\(Sx.Enters cx.P g->(execOp a.eval o).run cx.P w = .ok (.enter g vs.toArray) w))->∃d ws st',K d ws st' = some r/\EffD cx px o st st' d ws:=by
   intro g args b2 h aa;unfold Bd0 at h;split at h
   ·rename_i F b3 hF;have hw:=b2 b3;obtain⟨d,ws,st',hk,ag,ah,ai,a4,a7⟩:=am.w g F hF args st K r h;refine⟨d,ws,st',hk,ag,λe=>(by rw[hw]at e;cases e),ah,ai,λs m a as_ w a2 hW hr=>?_⟩;obtain⟨vs,h1,h2⟩:=aa s m a as_ w a2 hr;have e1:sW o (fs st') s=E0 (fs st') s:=by simp[sW,hw]
    rw[e1];refine .inr ⟨g,_,w,h2 a4,(a7 s m a as_ w vs (hW.1 hw) hr h1).mono ?_⟩;rintro en w' ⟨v,k1,m',k2,k3⟩;exact⟨v,k1,m',k2,k3⟩
   ·obtain⟨rs,hk,a4,a7⟩:=am.q g args _ r h;refine⟨_,_,_,hk,⟨rfl,rfl,rfl,rfl,rfl⟩,λ_=>rfl,Zn1 _,Oa st,λs m a as_ w a2 hW hr=>?_⟩;obtain⟨vs,h1,h2⟩:=aa s m a as_ w a2 hr;have e1:sW o (fs st) s=s:=by cases hw:isW o with|true=>simp[sW,hw,if_true];exact J8 (hW.1 hw)|false=>simp[sW,hw]
    rw[e1];refine .inr ⟨g,_,w,h2 a4,(a7 s m a as_ w vs hr h1).mono ?_⟩;rintro en w' ⟨v,k1,k2,k3⟩;exact⟨v,k1,m,k2,k3⟩
  split at h
  ·rename_i g caps hf;split at h
   ·rename_i ds aj;refine call (az hf) h λs m a as_ w a2 hr=>?_;rw[Ay,<-a2 _ f (by simp[i,Op.operands,Call.operands])]at hf;obtain⟨fv,_,h2,h3⟩:=hr.env.ev hf;simp[Rep]at h3;obtain⟨b5,rfl,a9⟩:=h3;obtain⟨vs,_,h5,h6⟩:=Jx hr.env aj (λu q hq=>by rw[Ay];exact a2 u q (by rw[i];simp[Op.operands,Call.operands];right;simpa using hq));exact⟨_,h6.append a9,λa4=>Asy i h2 h5 a4⟩
   ·cases h
  ·rename_i g be hf;split at h
   ·rename_i ds aj;refine call (λ_=>b1 hf) h λs m a as_ w a2 hr=>?_;rw[Ay,<-a2 _ f (by simp[i,Op.operands,Call.operands])]at hf;obtain⟨fv,_,h2,h3⟩:=hr.env.ev hf;simp[Rep]at h3;obtain⟨b5,rfl,a9⟩:=h3;obtain⟨vs,_,h5,h6⟩:=Jx hr.env aj (λu q hq=>by rw[Ay];exact a2 u q (by rw[i];simp[Op.operands,Call.operands];right;simpa using hq));exact⟨_,a9.append h6,λa4=>A2u i h2 h5 a4⟩
   ·cases h
  ·cases h
 ·rename_i x y t t' i;have hw:isW o=true:=by simp[isW,i]
  split at h
  ·rename_i b0 c0 p0 n0 ap;simp[step,i]at h;split at h
   ·rename_i c s d p hx hy;rw[ap]at hx;simp at hx;subst hx;unfold Brq at h;simp only at h;split at h
    ·rename_i c2 xs b6;split at h
     ·rename_i ys a8 a5;simp only[Zb1,Zg1]at a5;obtain⟨⟨e1,e2⟩,_⟩:=id a5;subst e1;subst e2;obtain⟨hc,hk⟩:=A2 h;simp[Zb1,Zg1]at hc;obtain⟨ar,rfl⟩:=K5 a8;refine⟨_,_,_,hk,Aap hw (Zn1 _) (λb hb=>?_) (A7k hp i p ap hy b6 (Zl1 a5.2) hc.1.1 hc.1.2 hc.2)⟩;have b7:b≠b0:=λe=>hb (by simp[e]);have e:∀k,blk (Du st.bl b0 k) b=blk st.bl b:=λk=>by rw[E7,if_neg b7]
      exact⟨λk hk=>(e _).trans hk,λk hk _=>(e _).symm.trans hk⟩
     ·cases h
    ·cases h
   ·cases h
  ·cases h
 ·rename_i b9 ba bb au av bc bd;unfold step at h;split at h
  ·rename_i t i;exact absurd i (bb t)
  ·rename_i t x y i;exact absurd i (av t x y)
  ·rename_i t x i;exact absurd i (au t x)
  ·rename_i t len ps i;exact absurd i (b9 t len ps)
  ·rename_i q t x i;exact absurd i (ba q t x)
  ·rename_i x y t t' i;have hw:isW o=true:=by simp[isW,i]
   split at h
   ·rename_i c s d p hx hy ab;have ab:=Zl1 ab;subst ab;unfold A0n at h;split at h
    ·rename_i c' xs;split at h
     ·rename_i a5;subst a5;split at h
      ·cases h
      ·rename_i ys a8;obtain⟨ar,rfl⟩:=K5 a8;by_cases ac:ys=[]
       ·rw[show ys.isEmpty=true by rw[ac];rfl,cond_true]at h;exact⟨_,_,_,h,Aap hw (Zn1 _) (λb _=>F3.of_bl rfl b) (Nv hp i p hx hy ac)⟩
       ·rw[show ys.isEmpty=false by cases ys with|nil=>exact absurd rfl ac|cons _ _=>rfl,cond_false]at h;obtain⟨hl,hk⟩:=A2 h;exact⟨_,_,_,hk,Aap hw (Zn1 _) (λb _=>F3.of_bl rfl b) (Qp hp i p hx hy ac (by simpa using hl))⟩
     ·cases h
    ·rename_i _ bf;unfold T3 at h;split at h
     ·split at h
      ·rename_i c' xs tk a5;subst a5;split at h
       ·cases h
       ·rename_i al ak;split at h
        ·cases h
        ·rename_i ys a8;obtain⟨hl,hk⟩:=A2 h;obtain⟨ar,rfl⟩:=K5 a8;exact⟨_,_,_,hk,Aap hw (Zn1 _) (λb _=>F3.of_bl rfl b) (Ali hp i p hx hy ak (by simpa using hl))⟩
      ·cases h
     ·cases h
   ·rename_i s l p hx hy ab;split at h
    ·rename_i aw;unfold T3 at h;split at h
     ·split at h
      ·rename_i c' xs tk a5;subst a5;split at h
       ·cases h
       ·rename_i al ak;split at h
        ·cases h
        ·rename_i ys a8;obtain⟨hl,hk⟩:=A2 h;simp[toS,dite_true,Za1]at a8;subst a8;exact⟨_,_,_,hk,Aap hw (Zn1 _) (λb _=>F3.of_bl rfl b) (S7 hp i p (Gx aw) hx hy ak (by simpa using hl))⟩
      ·cases h
     ·cases h
    ·cases h
   ·cases h
  ·rename_i x y t t' i;exact absurd i (bd x y t t')
  ·rename_i f xs ts i;exact absurd i (bc f xs ts)
  ·exact quiet h
def KF(all:Array Oper)(T i:Nat)(a c:FS):Prop:=(∀b,F3 a c b)\/∃(env:Env) (ws:Yb1 Nat),get env=a.env/\B4r all T i env ws=true/\∀b,b∉ws->F3 a c b
def An3(cx:Cx)(all:Array Oper)(T:Nat):Nat->Yb1 Oper->FS->FS->Prop|_,[],a,b=>a=b|i,o::l,a,b=>∃c,c=A5 o c a/\a.nb<=c.nb/\KF all T i a c/\Bvt cx all o a c/\An3 cx all T (i+1) l c b
theorem Am0{all:Array Oper}{T:Nat}:∀{l:Yb1 Oper}{i:Nat}{a b:FS},An3 cx all T i l a b->∃s:Nat->FS,s 0=a/\s l.length=b/\∀j o,l[j]? = some o->s (j+1)=A5 o (s (j+1)) (s j)/\(s j).nb<=(s (j+1)).nb/\KF all T (i+j) (s j) (s (j+1))/\Bvt cx all o (s j) (s (j+1))
 |[],i,a,b,h=>⟨λ_=>a,rfl,h,by simp⟩
 |o::l,i,a,b,⟨c,h1,h2,h2b,h3,h4⟩=>by obtain⟨s,e,e2,f⟩:=Am0 h4;refine⟨λj=>match j with|0=>a|j+1=>s j,rfl,e2,λj o' d=>?_⟩;cases j with|zero=>simp at d;subst d;simp[e];exact⟨h1,h2,h2b,h3⟩|succ j=>have:=f j o' (by simpa using d);rw[show i+(j+1)=i+1+j by omega];exact this
theorem A49{all:Array Oper}{s s0:FS}(h:∀k,k∈o.looksAt all->s.env k=s0.env k):∀t x,x∈o.op.operands->evF px s.env t x=evF px s0.env t x:=by intro t x a;cases x with|tmp k=>exact h k (List.mem_append_left _ (List.mem_filterMap.2 ⟨.tmp k,by simpa using a,rfl⟩))|_=>rfl
variable{k:Nat}
theorem Asw{d:D}(hd:o.dst=some k)(e:Ae7 st st')(b:isW o=false->fs st' = fs st)(s:FS):A5 o (fs (st'.put k d)) s=(sW o (fs st') s).put k d:=by
 have _:=e;have _:=b;rw[Ky];cases a:isW o
 ·have c:sW o (fs st') s=s:=by simp[sW,a]
  rw[c];refine FS.eq rfl ?_ rfl rfl rfl (by simp[A5,a,FS.put]) (by simp[A5,a,FS.put]) (by simp[A5,a,FS.put]) (by simp[A5,a,FS.put]);funext j;simp[A5,FS.put,hd]
 ·have c:sW o (fs st') s=E0 (fs st') s:=by simp[sW,a]
  rw[c];refine FS.eq rfl ?_ rfl rfl rfl (by simp[A5,a,FS.put,E0]) (by simp[A5,a,FS.put,E0]) (by simp[A5,a,FS.put,E0]) (by simp[A5,a,FS.put,E0]);funext j;simp[A5,FS.put,hd,E0]
theorem Bmh{s:FS}(d:isW o=true->Dt s (fs st)):A5 o (fs (off o st)) s=match o.dst with
  |some k=>s.put k .undef
  |none=>s:=by
 have b:(fs (off o st)).bl=(fs st).bl/\(fs (off o st)).nb=(fs st).nb/\(fs (off o st)).al=(fs st).al/\(fs (off o st)).nt=(fs st).nt:=by unfold off;split<;>exact⟨rfl,rfl,rfl,rfl⟩
 have a:(A5 o (fs (off o st)) s).bl=s.bl/\(A5 o (fs (off o st)) s).nb=s.nb/\(A5 o (fs (off o st)) s).al=s.al/\(A5 o (fs (off o st)) s).nt=s.nt:=by
  cases c:isW o
  ·simp[A5,c]
  ·obtain⟨e,f,g,h⟩:=d c;simp[A5,c,if_true,b.1,b.2.1,b.2.2.1,b.2.2.2];exact⟨e.symm,f.symm,g.symm,h.symm⟩
 cases hd:o.dst with
 |none=>refine FS.eq rfl (by simp[A5,hd]) rfl rfl rfl a.1 a.2.1 a.2.2.1 a.2.2.2
 |some k=>
  refine FS.eq rfl ?_ rfl rfl rfl a.1 a.2.1 a.2.2.1 a.2.2.2;funext j;have:(fs (off o st)).env k=some .undef:=by unfold off;rw[hd];simp only;rw[Ky];simp[FS.put]
  simp[A5,FS.put,hd,this]
variable{i:Nat}
theorem Bu0(hp:PxOk cx px)(a2:CallQOk cx px){all:Array Oper}{T:Nat}(hb:opB o=true){K:St->Ya1 R}{r:R}(h:Bji px all T i o st K=some r):∃st',K st' = some r/\st'.n=st.n/\fs st' = A5 o (fs st') (fs st)/\st.nb<=st'.nb/\KF all T i (fs st) (fs st')/\∀(s:FS) (m:Mp) (a:Act) (as_:Yb1 Act) (w:World),(∀k,k∈o.looksAt all->s.env k=(fs st).env k)->OkW o (fs st) s->s.n=st.n->Rel cx m a as_ s w->Abw cx.P a w o λa' w'=>∃m',Rel cx m' a' as_ (A5 o (fs st') s) w':=by
 unfold Bji at h;split at h
 ·rename_i k hd;split at h
  ·rename_i g;have g:k<st.n:=by simpa using g
   obtain⟨d,ws,st',p,c⟩:=Biq hp a2 hb h;split at p
   ·rename_i f;refine⟨_,p,c.same.1,?_,c.mono,?_,λs m a as_ w j hW hn hr=>?_⟩
    ·rw[Asw hd c.same c.still];rw[Ky];congr 1;unfold sW;split
     ·exact(Mz c.same).symm
     ·rename_i z;exact c.still (by simpa using z)
    ·have e:∀b,b∉ws->F3 (fs st) (fs (st'.put k d)) b:=λb hb=>by rw[Ky];exact c.keep b hb
     simp at f;rcases f with l|l
     ·have:ws=[]:=by simpa using l
      subst this;exact .inl λb=>e b (by simp)
     ·exact .inr ⟨st.env,ws,rfl,l,e⟩
    ·refine(c.run s m a as_ w (A49 j) hW hr).runs λv w' ⟨m',l,h2⟩=>⟨m',?_⟩;rw[Asw hd c.same c.still,hd];refine l.put ?_ h2;have:(sW o (fs st') s).n=s.n:=by unfold sW;split<;>rfl
     rw[this,hn];exact g
   ·cases p
  ·cases h
 ·rename_i hd;split at h
  ·rename_i f;obtain⟨st',p,c⟩:=Avj (cx:=cx) hp h;have a3:∃t x y,o.op = .store t x y:=by
    unfold Abn at h;split at h
    ·rename_i t x y ho;exact⟨t,x,y,ho⟩
    ·cases h
   obtain⟨T0,x0,y0,ho⟩:=a3;have z:isW o=true:=by simp[isW,ho]
   have q:∀s,A5 o (fs st') s=E0 (fs st') s:=λs=>by refine FS.eq rfl (by simp[A5,hd,E0]) rfl rfl rfl ?_ ?_ ?_ ?_<;>simp[A5,z,E0]
   have u:=c.keep;refine⟨st',p,c.same.1,?_,u.1,.inr ⟨st.env,_,rfl,f,u.2⟩,λs m a as_ w j hW hn hr=>?_⟩
   ·rw[q];exact(Mz c.same).symm
   ·obtain⟨w',m',l,h2⟩:=c.run s m a as_ w (A49 j) (hW.1 z) hr;refine .inr (.inl ⟨w',l,m',?_⟩);rw[hd,q];exact h2
  ·cases h
theorem Aeb(hp:PxOk cx px)(a2:CallQOk cx px){all:Array Oper}{T:Nat}:∀{l:Yb1 Oper}{i:Nat}{st:St}{K:St->Ya1 R}{r:R},(l.all λo=>opB o&&Aq7 st.n o)=true->Bhk px all T i l st K=some r->∃st',K st' = some r/\st'.n=st.n/\An3 cx all T i l (fs st) (fs st')
 |[],i,st,K,r,_,h=>⟨st,h,rfl,rfl⟩
 |o::l,i,st,K,r,hl,h=>by
  simp only[Zv1,Zb1]at hl;obtain⟨⟨hb,a5⟩,ab⟩:=hl;have a6:∀d,o.dst=some d->d<st.n:=λd hd=>by simpa[Aq7,hd,Nat.blt_eq]using a5
  have a7:∀n,n=st.n->(l.all λo=>opB o&&Aq7 n o)=true:=λn e=>by subst e;exact ab
  have f:∀(s:FS) (j:Nat) (b:Bool) (g:Nat),o.guard=some (j,b)->(all[j]?).bind (·.dst)=some g->(∀k,k∈o.looksAt all->s.env k=(fs st).env k)->s.env g=get st.env g:=λs j b g y hj c=>by refine c g (List.mem_append_right _ ?_);rw[y];simp[hj]
  have run:∀{st1:St},fs st1=fs st->st1.n=st.n->(∀(s:FS) (m:Mp) (a:Act) (as_:Yb1 Act) (w:World),(∀k,k∈o.looksAt all->s.env k=(fs st).env k)->Rel cx m a as_ s w->Region.wanted o (yielded all a.tmps)=true)->(Bji px all T i o st1 λst'=>Bhk px all T (i+1) l st' K)=some r->∃st',K st' = some r/\st'.n=st.n/\An3 cx all T i (o::l) (fs st) (fs st'):=by intro st1 u hn z h1;obtain⟨st2,hk,v,ac,a3,ae,a8⟩:=Bu0 (all:=all) hp a2 hb h1;obtain⟨a4,k1,k2,k3⟩:=Aeb hp a2 (a7 _ (v.trans hn)) hk;have a3:(fs st1).nb<=(fs st2).nb:=a3;refine⟨a4,k1,k2.trans (v.trans hn),fs st2,by rw[<-u];exact ac,by rw[<-u];exact a3,by rw[<-u];exact ae,λs m a as_ w c hW a9 p=>?_,k3⟩;exact .inl ⟨z s m a as_ w c p,a8 s m a as_ w (by rw[u];exact c) (by rw[u];exact hW) (a9.trans hn.symm) p⟩
  have skip:∀{st1:St},fs st1=fs st->st1.n=st.n->(∀(s:FS) (m:Mp) (a:Act) (as_:Yb1 Act) (w:World),(∀k,k∈o.looksAt all->s.env k=(fs st).env k)->Rel cx m a as_ s w->Region.wanted o (yielded all a.tmps)=false)->Bhk px all T (i+1) l (off o st1) K=some r->∃st',K st' = some r/\st'.n=st.n/\An3 cx all T i (o::l) (fs st) (fs st'):=by
   intro st1 u hn z h1;have aa:(off o st1).n=st.n:=by rw[<-hn];unfold off;split<;>rfl
   obtain⟨a4,k1,k2,k3⟩:=Aeb hp a2 (a7 _ aa) h1;have t:∀s:FS,(isW o=true->Dt s (fs st))->A5 o (fs (off o st1)) s=match o.dst with|some k=>s.put k .undef|none=>s:=λs hW=>Bmh (by rw[u];exact hW)
   have e1:(fs (off o st1)).bl=(fs st).bl/\(fs (off o st1)).nb=(fs st).nb:=by rw[<-u];unfold off;split<;>exact⟨rfl,rfl⟩
   refine⟨a4,k1,k2.trans aa,fs (off o st1),?_,by rw[e1.2];exact Zn1 _,.inl λb=>F3.of_bl e1.1 b,λs m a as_ w c hW v p=>.inr ⟨z s m a as_ w c p,m,?_⟩,k3⟩
   ·rw[t (fs st) (λ_=>⟨rfl,rfl,rfl,rfl⟩)];unfold off;cases hd:o.dst with|none=>exact u|some k=>simp only;rw[Ky,u]
   ·rw[t s hW.1];cases hd:o.dst with|none=>exact p|some k=>exact p.put (by rw[v];exact a6 k hd) (by simp[Rep];rfl)
  simp[Bhk,B42]at h;split at h
  ·rename_i y;exact run rfl rfl (λs m a as_ w _ p=>(J0 (all:=all) (o:=o) p.env).1 y) h
  ·rename_i j b y;split at h
   ·cases h
   ·rename_i g hj;have g3:∀q,get st.env g=some (.bool q)->∀(s:FS) (m:Mp) (a:Act) (as_:Yb1 Act) (w:World),(∀k,k∈o.looksAt all->s.env k=(fs st).env k)->Rel cx m a as_ s w->Region.wanted o (yielded all a.tmps)=(q == b):=λq x s m a as_ w c p=>((J0 (all:=all) (o:=o) p.env).2 j b g y hj).1 q (by rw[f s j b g y hj c];exact x);split at h
    ·rename_i q x;have z:=g3 q x;cases q with
     |true=>simp[cond_true]at h;cases b with|true=>exact run (Jm x) rfl z h|false=>exact skip (Jm x) rfl z h
     |false=>simp[cond_false]at h;cases b with|true=>exact skip (Jm x) rfl z h|false=>exact run (Jm x) rfl z h
    ·rename_i x;exact skip rfl rfl (λs m a as_ w c p=>((J0 (all:=all) (o:=o) p.env).2 j b g y hj).2 (by rw[f s j b g y hj c];exact x)) h
    ·cases h
variable{j:Nat}
theorem Bz5{ops:Array Oper}{s:Nat->FS}(hc:Kn ops s){T:Nat}(z:T<=ops.size){n:Oper}(o:ops[j]? = some n)(f:j<T)(p:i<T)(g:KF ops T i (s i) (s (i+1)))(q:Bm9 ops i j=false){b:Nat}(hb:rdO n (s j).env b):F3 (s i) (s (i+1)) b:=by
 obtain⟨k,d,r,t,u⟩:=hb;rcases g with h|⟨env,ws,v,e2,w⟩
 ·exact h b
 ·have l:=Zg2.1 e2 j (List.mem_range.2 f);rw[o]at l;simp[r,q]at l;obtain⟨x,m⟩:=l;have a:=Ags hc x (max i j-min i j) (by omega) (by omega);rw[show min i j+(max i j-min i j)=max i j by omega]at a;have y:(s i).env k=(s j).env k:=by
   rcases Nat.le_total i j with c|e
   ·rw[Nat.min_eq_left c,Nat.max_eq_right c]at a;exact a.symm
   ·rw[Nat.min_eq_right e,Nat.max_eq_left e]at a;exact a
  rw[v,y,t]at m;simp[u]at m;exact w b (by simpa using m)
end
def Ww:Sg->D->Ya1 Nat|.sl _ true,.sl _ _ (.id t)=>some t|_,_=>none
def asg(i:Nat):Yb1 Sg->Yb1 D->Nat->Ya1 Nat|s::l,d::ds=>λp=>if p=i then Ww s d else asg (i+1) l ds p|_,_=>λ_=>none
variable{al:Yb1 Nat}{ds:Yb1 D}
theorem Auh{a:Sg}{l:Yb1 Sg}{x:HV (a::l)}(h:Nk (a::l) al ds=some x):∃d f y c,ds=d::f/\A84 al a d=some (y,c)/\((l=[]/\f = [])\/∃z,Nk l c f = some z)/\∀i,Ca i (a::l) x=C9 i a y::(match l with|[]=>[]|b::l'=>match Nk (b::l') c f with|some z=>Ca (i+1) (b::l') z|none=>[]):=by
 cases l with
 |nil=>
  cases ds with
  |nil=>simp[Nk]at h
  |cons d ds=>
   cases ds with
   |nil=>
    simp[Nk]at h;split at h
    ·rename_i y c g;simp at h;subst h;exact⟨d,[],y,c,rfl,g,.inl ⟨rfl,rfl⟩,λi=>rfl⟩
    ·cases h
   |cons e ds=>simp[Nk]at h
 |cons b l=>
  cases ds with
  |nil=>simp[Nk]at h
  |cons d ds=>
   simp[Nk]at h;split at h
   ·rename_i y c g;split at h
    ·rename_i z j;simp at h;subst h;exact⟨d,ds,y,c,rfl,g,.inr ⟨z,j⟩,λi=>by simp[Ca,j]⟩
    ·cases h
   ·cases h
theorem A3z{c:Yb1 Nat}{s:Sg}{d:D}{y:den s}(h:A84 al s d=some (y,c)):(∀t,t∈c->t∈al)/\(∀t,Ww s d=some t->t∈al/\t∉c):=by
 unfold A84 at h;split at h
 ·split at h
  ·simp[ Zp1]at h;obtain⟨_,rfl⟩:=h;refine⟨λ_ h=>h,λt b=>by simp[Ww]at b⟩
  ·cases h
 ·simp[ Zp1]at h;obtain⟨_,rfl⟩:=h;refine⟨λ_ h=>h,λt b=>by simp[Ww]at b⟩
 ·simp[ Zp1]at h;obtain⟨_,rfl⟩:=h;refine⟨λ_ h=>h,λt b=>by simp[Ww]at b⟩
 ·split at h
  ·split at h
   ·split at h
    ·rename_i e a;obtain⟨_,rfl⟩:=h;unfold Gi at a;split at a
     ·cases a
     ·simp at a;subst a;refine⟨λ_ h=>h,λt b=>by simp[Ww]at b⟩
     ·split at a
      ·rename_i t0 hc;simp at a;subst a;refine⟨λt f=>(List.mem_filter.1 f).1,λt b=>?_⟩;simp[Ww]at b
       simp_all
      ·cases a
     all_goals cases a
    ·cases h
   ·simp[ Zp1]at h;obtain⟨_,rfl⟩:=h;refine⟨λ_ h=>h,λt b=>by simp[Ww]at b⟩
  ·cases h
 ·split at h
  ·simp[ Zp1]at h;obtain⟨_,rfl⟩:=h;refine⟨λ_ h=>h,λt b=>by simp[Ww]at b⟩
  ·cases h
 ·split at h
  ·split at h
   ·simp[ Zp1]at h;obtain⟨_,rfl⟩:=h;refine⟨λ_ h=>h,λt b=>by simp[Ww]at b⟩
   ·cases h
  ·cases h
 ·split at h
  ·simp[ Zp1]at h;obtain⟨_,rfl⟩:=h;refine⟨λ_ h=>h,λt b=>by simp[Ww]at b⟩
  ·cases h
 ·split at h
  ·split at h
   ·split at h
    ·simp[ Zp1]at h;obtain⟨_,rfl⟩:=h;refine⟨λ_ h=>h,λt b=>by simp[Ww]at b⟩
    ·cases h
   ·cases h
  ·cases h
 ·cases h
theorem Nf(s:Sg)(d:D)(l:Yb1 Sg)(ds:Yb1 D)(i p:Nat)(h:p≠i):asg i (s::l) (d::ds) p=asg (i+1) l ds p:=by simp[asg,h]
theorem Ab4(s:Sg)(d:D)(l:Yb1 Sg)(ds:Yb1 D)(i:Nat):asg i (s::l) (d::ds) i=Ww s d:=by simp[asg]
theorem S2:∀{l:Yb1 Sg}{al:Yb1 Nat}{ds:Yb1 D}{x:HV l}(i:Nat),Nk l al ds=some x->(∀p t,asg i l ds p=some t->t∈al/\i<=p)/\∀p q t,asg i l ds p=some t->asg i l ds q=some t->p=q
 |[],al,ds,x,i,_=>by simp[asg]
 |a::l,al,ds,x,i,h=>by
  obtain⟨d,f,y,k,rfl,n,o,_⟩:=Auh h;obtain⟨r,m⟩:=A3z n;have j:(∀p t,asg (i+1) l f p=some t->t∈k/\i+1<=p)/\∀p q t,asg (i+1) l f p=some t->asg (i+1) l f q=some t->p=q:=by
   rcases o with ⟨rfl,rfl⟩|⟨z,s⟩
   ·simp[asg]
   ·exact S2 (i+1) s
  refine⟨λp t c=>?_,λp q t c g=>?_⟩
  ·by_cases b:p=i
   ·subst b;rw[Ab4]at c;exact⟨(m t c).1,Zn1 _⟩
   ·rw[Nf _ _ _ _ _ _ b]at c;have:=j.1 p t c;exact⟨r t this.1,by omega⟩
  ·by_cases b:p=i<;>by_cases e:q=i
   ·rw[b,e]
   ·exfalso;subst b;rw[Nf _ _ _ _ _ _ e]at g;rw[Ab4]at c;exact(m t c).2 (j.1 q t g).1
   ·exfalso;subst e;rw[Nf _ _ _ _ _ _ b]at c;rw[Ab4]at g;exact(m t g).2 (j.1 p t c).1
   ·rw[Nf _ _ _ _ _ _ b]at c;rw[Nf _ _ _ _ _ _ e]at g;exact j.2 p q t c g
theorem Bov{X X':Vx}(hS:∀b i,X'.S b i->X.S b i)(hw:X'.w=X.w)(a6:X'.el=X.el){a7:Yb1 Nat}{s:Sg}{d:D}{y:den s}{v:Value}(i:Nat)(h:A84 al s d=some (y,a7))(a8:∀t,t∈al->X.al t)(l:Rep X d v)(x:∀c,s = .sl c true->i<X'.nt/\X'.m.tk i=(Ww s d).bind X.m.tk):Rep X' (C9 i s y) v:=by
 have o:∀{d:D}{v:Value},RF X.S X.w d v->RF X'.S X'.w d v:=λh=>by rw[hw];exact h.later (Chg.refl _ _) (λk j hk=>.inl (hS k j hk))
 unfold A84 at h;split at h
 ·split at h
  ·rename_i hk;simp at hk;subst hk;simp[ Zp1]at h;obtain⟨rfl,_⟩:=h;simpa[C9,Rep]using l
  ·cases h
 ·simp[ Zp1]at h;obtain⟨rfl,_⟩:=h;simpa[C9,Rep]using l
 ·simp[ Zp1]at h;obtain⟨rfl,_⟩:=h;simpa[C9,Rep]using l
 ·rename_i c own c' xs t;split at h
  ·rename_i hc;subst hc;simp[Rep]at l;split at h
   ·split at h
    ·rename_i ab a;simp[ Zp1]at h;obtain⟨rfl,_⟩:=h;obtain⟨h1,p⟩:=x c' rfl;simp[C9];refine⟨o l.1,h1,λ_=>?_⟩;cases t with
     |no=>simp[Gi]at a
     |z=>simp[Gi]at a
     |ne=>simp[Gi]at a
     |zn=>simp[Gi]at a
     |f=>simp[Gi]at a
     |nil=>refine .inl ⟨l.2.1,?_,l.2.2⟩;rw[p];simp[Ww]
     |id t0=>
      have a9:t0∈al:=by
       unfold Gi at a;simp only at a;split at a
       ·rename_i hc;simpa using hc
       ·cases a
      simp[Ww]at p;rcases l.2.2 (a8 t0 a9)with ⟨a1,a2,a3⟩|⟨g,cap,cur,a1,a2,a3,a4⟩
      ·exact .inl ⟨a1,p.trans a2,a3⟩
      ·exact .inr ⟨g,cap,cur,a1,p.trans a2,by rw[hw,a6];exact a3,a4⟩
    ·cases h
   ·simp[ Zp1]at h;obtain⟨rfl,_⟩:=h;simp[C9];exact⟨o l.1,trivial⟩
  ·cases h
 ·rename_i c d;split at h
  ·rename_i y' ha aa;simp[ Zp1]at h;obtain⟨rfl,_⟩:=h;obtain⟨r,a5,_⟩:=O1 aa l;obtain⟨vs,rfl⟩:=a5 ha;simp[C9];refine⟨ha,vs.toList,by simp,by simpa[Value.cells]using r.1,λj e he=>?_⟩;obtain⟨u,hu,hf⟩:=r.2 j e he;exact⟨u,by simpa[Value.cells]using hu,o hf⟩
  ·cases h
 ·split at h
  ·rename_i c n c' n' xs hc;subst hc;split at h
   ·rename_i hn;have hn:=Zl1 hn;subst hn;simp[ Zp1]at h;obtain⟨rfl,_⟩:=h;simp[ Rep]at l ⊢;obtain⟨h1,vs,p,h3,h4⟩:=l;exact⟨h1,vs,p,h3,λq y j e hy he=>by obtain⟨u,hu,hf⟩:=h4 q y j e hy he;exact⟨u,hu,o hf⟩⟩
   ·cases h
  ·cases h
 ·split at h
  ·rename_i c c' xs hc;subst hc;simp[ Zp1]at h;obtain⟨rfl,_⟩:=h;simp[ Rep]at l ⊢;obtain⟨h1,vs,p,h3,h4⟩:=l;exact⟨h1,vs,p,h3,λq y j e hy he=>by obtain⟨u,hu,hf⟩:=h4 q y j e hy he;exact⟨u,hu,o hf⟩⟩
  ·cases h
 ·rename_i c c' xs t;split at h
  ·split at h
   ·rename_i hc;have hc:=of_decide_eq_true hc;subst hc;split at h
    ·rename_i hx;cases xs with|cons _ _=>cases hx|nil=>simp[Rep]at l;simp[C9,Rep];exact⟨o l.1,l.2⟩
    ·cases h
   ·cases h
  ·cases h
 ·cases h
theorem Gk{X X':Vx}(hS:∀b i,X'.S b i->X.S b i)(hw:X'.w=X.w)(j:X'.el=X.el):∀{l:Yb1 Sg}{al:Yb1 Nat}{ds:Yb1 D}{x:HV l}{vs:Yb1 Value}(i:Nat),Nk l al ds=some x->(∀t,t∈al->X.al t)->Reps X ds vs->(∀p,p∈Bb i l->p<X'.nt/\X'.m.tk p=(asg i l ds p).bind X.m.tk)->Reps X' (Ca i l x) vs
 |[],al,ds,x,vs,i,h,_,hr,_=>by cases ds with|nil=>simpa[Reps,Ca]using hr|cons d ds=>simp[Nk]at h
 |a::l,al,ds,x,vs,i,h,hal,hr,hown=>by
  obtain⟨d,o,y,a2,rfl,h1,h2,h3⟩:=Auh h;simp[Reps]at hr;obtain⟨u,us,rfl,q,g⟩:=hr;rw[h3 i];simp only[Reps];refine⟨u,us,rfl,Bov hS hw j i h1 hal q (λc hc=>?_),?_⟩
  ·subst hc;have:=hown i (by simp[Bb]);rwa[Ab4]at this
  ·rcases h2 with ⟨rfl,rfl⟩|⟨z,r⟩
   ·simpa[Reps]using g
   ·cases l with
    |nil=>cases o with|nil=>simpa[Reps]using g|cons e es=>simp[Nk]at r
    |cons b l'=>
     simp[r];refine Gk hS hw j (i+1) r (λt ht=>hal t (((A3z h1).1) t ht)) g (λp f=>?_);have k:∀(l:Yb1 Sg) (i p:Nat),p∈Bb i l->i<=p:=by
      intro l;induction l with
      |nil=>intro i p f;simp[Bb]at f
      |cons s l v=>
       intro i p f;cases s<;>first|(have:=v (i+1) p (by simpa[Bb]using f);omega)|skip
       rename_i c own;cases own with
       |true=>
        simp[Bb]at f;rcases f with rfl|f
        ·exact Zn1 _
        ·have:=v (i+1) p f;omega
       |false=>have:=v (i+1) p (by simpa[Bb]using f);omega
     have a3:=k _ _ _ f;have n:p∈Bb i (a::b::l'):=by
      cases a<;>first|exact f|skip
      rename_i c own;cases own with|true=>exact Zu1 _ f|false=>exact f
     have:=hown p n;rwa[Nf _ _ _ _ _ _ (by omega)]at this
def Me:Sg->Bool|.sv _|.rw _ _|.dn _=>false|_=>true
def Ab0(nb:Nat):D->Bool
 |.ptr b _=>Nat.blt b nb
 |.fn _ cs=>cs.all λd=>match d with|.ptr b _=>Nat.blt b nb|_=>false
 |.bm _ cs=>cs.all λd=>match d with|.ptr b _=>Nat.blt b nb|_=>false
 |.gp _=>true
 |.yl b=>Nat.blt b nb
 |.nilp=>true
 |_=>false
def By4(nb:Nat):D->Bool|.agg _=>true|d=>Ab0 nb d
def bsB(nb:Nat):Bs->Bool|.cells l=>l.all Me|.one s=> !Me s|.bld _=>true|.fx ds=>ds.all (Ab0 nb)|.oc l b _=>l.all Me&&Nat.blt b nb|.rc _ _ _ _ env _=>env.all λp=>Ab0 nb p.2
def X7(s:Sig):Bool:=(s.fix.all λp=>By4 s.nb p.2)&&(s.bl.all λp=>Nat.blt p.1 s.nb&&bsB s.nb p.2)&&Nat.ble s.lb s.nb&&s.ow.all λp=>Nat.blt p.2.1 s.nb
def Sh1(s:Sg)(d:D):Prop:=(Me s=true->lf d=true)/\(Me s=false->(∃c y,d = .sv c y)\/(∃c n xs,d = .rw c n xs)\/∃c xs,d = .dn c xs)/\(s = .sl .byte true->∃l t,d = .sl .byte l t)
def ShL:Yb1 Sg->Yb1 D->Prop|[],ds=>ds=[]|s::l,ds=>∃d r,ds=d::r/\Sh1 s d/\ShL l r
theorem Bga(i:Nat):∀(s:Sg) (y:den s),Sh1 s (C9 i s y)
 |.int _,_=>⟨λ_=>rfl,λh=>(by cases h),λh=>(by cases h)⟩
 |.bool,_=>⟨λ_=>rfl,λh=>(by cases h),λh=>(by cases h)⟩
 |.str,_=>⟨λ_=>rfl,λh=>(by cases h),λh=>(by cases h)⟩
 |.sl _ true,l=>⟨λ_=>rfl,λh=>(by cases h),λh=>(by cases h;exact⟨l,_,rfl⟩)⟩
 |.sl _ false,_=>⟨λ_=>rfl,λh=>(by cases h),λh=>(by cases h)⟩
 |.sv c,y=>⟨λh=>(by cases h),λ_=>.inl ⟨c,y,rfl⟩,λh=>(by cases h)⟩
 |.rw c n,xs=>⟨λh=>(by cases h),λ_=>.inr (.inl ⟨c,n,xs,rfl⟩),λh=>(by cases h)⟩
 |.dn c,xs=>⟨λh=>(by cases h),λ_=>.inr (.inr ⟨c,xs,rfl⟩),λh=>(by cases h)⟩
 |.nl _,_=>⟨λ_=>rfl,λh=>(by cases h),λh=>(by cases h)⟩
theorem Ajp:∀(i:Nat) (l:Yb1 Sg) (x:HV l),ShL l (Ca i l x)
 |_,[],_=>rfl
 |i,[a],x=>⟨_,[],rfl,Bga i a x,rfl⟩
 |i,a::b::l,(x,y)=>⟨_,_,rfl,Bga i a x,Ajp (i+1) (b::l) y⟩
theorem ShL.len:∀{l:Yb1 Sg}{ds:Yb1 D},ShL l ds->ds.length=l.length
 |[],ds,h=>by simp[ShL]at h;subst h;rfl
 |s::l,ds,h=>by obtain⟨d,r,rfl,_,a⟩:=h;simp[ShL.len a]
theorem ShL.split:∀{l m:Yb1 Sg}{ds:Yb1 D},ShL (l++m) ds->ShL l (ds.take l.length)/\ShL m (ds.drop l.length)
 |[],m,ds,h=>by simpa[ShL]using h
 |s::l,m,ds,h=>by obtain⟨d,r,rfl,a,b⟩:=h;obtain⟨c,e⟩:=ShL.split b;exact⟨⟨d,_,by simp,a,c⟩,by simpa using e⟩
theorem ShL.lf:∀{l:Yb1 Sg}{ds:Yb1 D},ShL l ds->l.all Me=true->ds.all lf=true
 |[],ds,h,_=>by simp[ShL]at h;subst h;rfl
 |s::l,ds,h,hl=>by obtain⟨d,r,rfl,a,b⟩:=h;simp only[Zv1,Zb1]at hl ⊢;exact⟨a.1 hl.1,b.lf hl.2⟩
theorem Reps.split:∀{A B:Yb1 D}{vs:Yb1 Value},Reps x (A++B) vs->∃us ws,vs=us++ws/\Reps x A us/\Reps x B ws
 |[],B,vs,h=>⟨[],vs,rfl,by simp[Reps],h⟩
 |d::A,B,vs,h=>by simp at h;obtain⟨u,us,rfl,a,b⟩:=h;obtain⟨p,q,rfl,c,e⟩:=Reps.split b;exact⟨u::p,q,rfl,by simp only[Reps];exact⟨u,p,rfl,a,c⟩,e⟩
variable{us:Yb1 Value}
theorem Reps.take{ws:Yb1 Value}(h:Reps x ds (us++ws)):Reps x (ds.take us.length) us/\Reps x (ds.drop us.length) ws:=by
 have b:=h.len;simp at b;rw[<-List.take_append_drop us.length ds]at h;obtain⟨p,q,c,a,d⟩:=Reps.split h;have e:p.length=us.length:=by rw[a.len];simp;omega
 obtain⟨rfl,rfl⟩:=List.append_inj c e.symm;exact⟨a,d⟩
theorem Lh{x:Vx}{n:Nat}{df:Yb1 D}{env:Env}{a:Act}(c:EnvR x n df (get env) a):∀{vars:Yb1 (Nat×Sg)}{A:Yb1 D},Ks env vars=some A->∃VA:Yb1 Value,Reps x A VA/\∀(i k:Nat) (s:Sg),vars[i]? = some (k,s)->∃v,VA[i]? = some v/\a.tmps[k]? = some v
 |[],A,h=>by simp[Ks]at h;subst h;exact⟨[],by simp[Reps],by simp⟩
 |(k0,s0)::vars,A,h=>by
  simp[Ks]at h;split at h
  ·rename_i d ds hd b;simp at h;subst h;obtain⟨VA,e,g⟩:=Lh c b;obtain⟨v,hv,f⟩:=c.get k0 d hd;refine⟨v::VA,by simp only[Reps];exact⟨v,VA,rfl,f,e⟩,λi k s hi=>?_⟩;cases i with|zero=>grind|succ i=>grind
  ·cases h
theorem Atx:∀(vars:Yb1 (Nat×Sg)) (E:Yb1 D),vars.length<=E.length->(A1s vars E).2=E.drop vars.length/\∀k d,get (A1s vars E).1 k=some d->∃(i:Nat) (s:Sg),vars[i]? = some (k,s)/\E[i]? = some d
 |[],E,_=>by cases E<;>simp[A1s,get]
 |(k0,s0)::vars,[],h=>by simp at h
 |(k0,s0)::vars,e::E,h=>by
  obtain⟨c,f⟩:=Atx vars E (by simpa using h);simp only[A1s];refine⟨by simpa using c,λk d a=>?_⟩;rw[Bl]at a;by_cases b:k=k0
  ·subst b;simp at a;subst a;exact⟨0,s0,by simp,by simp⟩
  ·rw[if_neg b]at a;obtain⟨i,s,g,j⟩:=f k d a;exact⟨i+1,s,by simpa using g,by simpa using j⟩
theorem Aoo(e f:Env)(k:Nat)(d:D)(h:get (e++f) k=some d):get e k=some d\/get f k=some d:=by
 induction e with
 |nil=>exact .inr h
 |cons p e a=>
  obtain⟨q,v⟩:=p;rw[Zb2,Bl]at h;rw[Bl];by_cases b:k=q
  ·grind
  ·grind
theorem Bfz{env:Env}{nb:Nat}:∀{fx:Yb1 (Nat×D)}{k:Nat}{d:D},Aa3 env fx=true->(fx.all λp=>By4 nb p.2)=true->get fx k=some d->By4 nb d=true/\∃a,get env k=some a/\T8 d a = true
 |[],k,d,_,_,h=>by simp[get]at h
 |(q,v)::fx,k,d,h1,h2,h=>by
  simp[Aa3]at h1;simp only[Zv1,Zb1]at h2;rw[Bl]at h;split at h1
  ·rename_i a b;simp at h1;by_cases c:k=q
   ·subst c;simp at h;subst h;exact⟨h2.1,a,b,h1.1⟩
   ·rw[if_neg c]at h;exact Bfz h1.2 h2.2 h
  ·cases h1
def Agl:D->Yb1 Nat|.ptr b _=>[b]|_=>[]
def Dr:D->Yb1 Nat|.ptr b _=>[b]|.yl b=>[b]|.fn _ cs=>cs.flatMap Agl|.bm _ cs=>cs.flatMap Agl|_=>[]
variable{x':Vx}
theorem Ade:∀{cs cs':Yb1 D}{vs:Yb1 Value},(∀b,b∈cs.flatMap Agl->x'.m.bl b=x.m.bl b/\b<x'.nb)->Nq cs cs' = true->Reps x cs' vs->Reps x' cs vs:=by
 intro cs;induction cs with
 |nil=>intro cs' vs _ h e;cases cs' with|nil=>simpa[Reps]using e|cons _ _=>simp[Nq]at h
 |cons d cs g=>
  intro cs' vs hb h e;unfold Nq at h;split at h
  ·exact absurd (by assumption:d::cs=[]) (by simp)
  ·rename_i b o l b' o' m a;simp at a;obtain⟨rfl,rfl⟩:=a;simp only[Zb1]at h;obtain rfl:=Zl1 h.1.1;obtain rfl:=Zl1 h.1.2;simp[Reps]at e ⊢;obtain⟨u,us,rfl,f,i⟩:=e;simp[Rep]at f;obtain⟨j,k⟩:=hb b (by simp[Agl]);exact⟨u,us,rfl,by simp[Rep];exact⟨k,by rw[j];exact f.2⟩,g (λc hc=>hb c (by rw[List.flatMap_cons,List.mem_append];exact .inr hc)) h.2 i⟩
  ·cases h
variable{nb:Nat}
theorem Auc{d:D}(h:Ab0 nb d=true):∀b,b∈Dr d->b<nb:=by
 intro b hb;cases d with
 |ptr k o=>simp[Dr]at hb;subst hb;simpa[Ab0]using h
 |fn f cs=>simp[Dr]at hb;obtain⟨c,hc,a⟩:=hb;simp only[Ab0]at h;have e:=Zg2.1 h c hc;cases c with|ptr k o=>simp[Agl]at a;subst a;simpa using e|_=>simp[Agl]at a
 |bm f cs=>simp[Dr]at hb;obtain⟨c,hc,a⟩:=hb;simp only[Ab0]at h;have e:=Zg2.1 h c hc;cases c with|ptr k o=>simp[Agl]at a;subst a;simpa using e|_=>simp[Agl]at a
 |yl k=>simp[Dr]at hb;subst hb;simpa[Ab0]using h
 |_=>simp[Dr]at hb
theorem Bl3{d:D}(h:By4 nb d=true):∀b,b∈Dr d->b<nb:=by cases d with|agg l=>intro b hb;simp[Dr]at hb|_=>exact Auc h
theorem Ahj{x x':Vx}:∀{ds c:Yb1 D}{vs:Yb1 Value},Ws ds c = true->Reps x c vs->Reps x' ds vs/\ds.all lf=true
 |[],[],vs,_,hr=>⟨by simpa[Reps]using hr,rfl⟩
 |d::ds,d'::c,vs,h,hr=>by
  unfold Ws at h;split at h
  ·rename_i e f;cases e
  ·rename_i a l b m e f;cases e;cases f;simp at h;obtain⟨rfl,h⟩:=h;simp at hr ⊢;obtain⟨u,us,rfl,g,i⟩:=hr;obtain⟨j,k⟩:=Ahj (x':=x') h i;exact⟨⟨u,us,rfl,by simpa only[Rep]using g,j⟩,by simpa[lf]using k⟩
  ·cases h
 |[],_::_,_,h,_=>by simp[Ws]at h
 |_::_,[],_,h,_=>by simp[Ws]at h
theorem Bzv{d:D}(h:Ab0 nb d=true):lf d=true:=by cases d<;>first|rfl|(simp[Ab0]at h)
theorem R4{d i:D}{v:Value}(hb:∀b,b∈Dr d->x'.m.bl b=x.m.bl b/\b<x'.nb)(h:T8 d i = true)(a:Rep x i v):Rep x' d v:=by
 unfold T8 at h;split at h
 ·simp only[Zb1]at h;obtain rfl:=Zl1 h.1;obtain rfl:=Zl1 h.2;simp[Rep]at a ⊢;obtain⟨e,f⟩:=hb _ (List.mem_singleton.2 rfl);exact⟨f,by rw[e];exact a.2⟩
 ·simp only[Zb1]at h;obtain rfl:=Zl1 h.1;simp[Rep]at a ⊢;obtain⟨vs,g,c⟩:=a;exact⟨vs,g,Ade hb h.2 c⟩
 ·simp only[Zb1]at h;obtain rfl:=Zl1 h.1;simp[Rep]at a ⊢;obtain⟨vs,g,c⟩:=a;exact⟨vs,g,Ade hb h.2 c⟩
 ·obtain rfl:=Zl1 h;simp[Rep]at a ⊢;exact a
 ·obtain rfl:=Zl1 h;simp[Rep]at a ⊢;obtain⟨e,f⟩:=hb _ (List.mem_singleton.2 rfl);exact⟨f,by rw[e];exact a.2⟩
 ·simp[Rep]at a ⊢;exact a
 ·simp only[Rep]at a ⊢;obtain⟨_,vs,rfl,c⟩:=a;obtain⟨j,k⟩:=Ahj (x':=x') h c;exact⟨k,vs,rfl,j⟩
 ·cases h
theorem Aax{x x':Vx}:∀{ds a:Yb1 D}{vs:Yb1 Value},(∀d,d∈ds->∀b,b∈Dr d->x'.m.bl b=x.m.bl b/\b<x'.nb)->Og ds a = true->Reps x a vs->Reps x' ds vs
 |[],[],vs,_,_,hr=>by simpa[Reps]using hr
 |[],_::_,_,_,h,_=>by simp[Og]at h
 |_::_,[],_,_,h,_=>by simp[Og]at h
 |d::ds,d'::a,vs,hb,h,hr=>by simp[Og]at h;simp[Reps]at hr ⊢;obtain⟨u,us,rfl,c,f⟩:=hr;exact⟨u,us,rfl,R4 (hb d Zr1) h.1 c,Aax (λe g=>hb e (Zu1 _ g)) h.2 f⟩
def fxs:Yb1 (Nat×Bs)->Yb1 D|[]=>[]|(_,.fx ds)::l=>ds++fxs l|(_,.cells _)::l=>fxs l|(_,.one _)::l=>fxs l|(_,.bld _)::l=>fxs l|(_,.oc _ b _)::l=>.ptr b 0::fxs l|(_,.rc _ _ _ _ env _)::l=>env.map (·.2)++fxs l
variable{β:Nat}
theorem Bp1{k:Blk}(h:Gn x β k)(p:∀t d,k ≠ .bld t d)(i:∀q,k ≠ .ob q)(l:∀s n ps asg body env,k ≠ .lr s n ps asg body env)(m:∀e,k ≠ .lj e)(o:∀j n ps asg body env q,k ≠ .lx j n ps asg body env q):∃(vs:Yb1 Value) (t:TypeId),x.w.heap[β]? = some (.cells vs.toArray t (0,0))/\Rep x (Bjv k) (.agg vs.toArray):=by cases k with|bld t d=>exact absurd rfl (p t d)|ob q=>exact absurd rfl (i q)|lr s n ps asg body env=>exact absurd rfl (l s n ps asg body env)|lj e=>exact absurd rfl (m e)|lx j n ps asg body env q=>exact absurd rfl (o j n ps asg body env q)|cells ds=>obtain⟨a,vs,t,b,f⟩:=h;exact⟨vs,t,b,by simp only[Bjv,Rep];exact⟨a,vs,rfl,f⟩⟩|box c y=>obtain⟨a,vs,t,b,f,g⟩:=h;exact⟨vs,t,b,by simp only[Bjv,Rep];exact⟨a,vs,rfl,f,g⟩⟩|row c n xs=>obtain⟨a,vs,t,b,f,g⟩:=h;exact⟨vs,t,b,by simp only[Bjv,Rep];exact⟨a,vs,rfl,f,g⟩⟩|dyn c xs=>obtain⟨a,vs,t,b,f,g⟩:=h;exact⟨vs,t,b,by simp only[Bjv,Rep];exact⟨a,vs,rfl,f,g⟩⟩
variable{t:TypeId}{vs:Yb1 Value}
theorem Bqi{d:D}(hd:(∃c y,d = .sv c y)\/(∃c n xs,d = .rw c n xs)\/∃c xs,d = .dn c xs)(i:x.w.heap[β]? = some (.cells vs.toArray t (0,0)))(a:Rep x d (.agg vs.toArray)):Gn x β (unD d):=by
 have inj:∀us:Yb1 Value,(Value.agg vs.toArray) = .agg us.toArray->vs=us:=λus h=>by simpa using h
 rcases hd with ⟨c,y,rfl⟩|⟨c,n,xs,rfl⟩|⟨c,xs,rfl⟩
 ·simp only[Rep]at a;obtain⟨b,us,e,f,g⟩:=a;obtain rfl:=inj us e;exact⟨b,vs,t,i,f,g⟩
 ·simp only[Rep]at a;obtain⟨b,us,e,f,g⟩:=a;obtain rfl:=inj us e;exact⟨b,vs,t,i,f,g⟩
 ·simp only[Rep]at a;obtain⟨b,us,e,f,g⟩:=a;obtain rfl:=inj us e;exact⟨b,vs,t,i,f,g⟩
theorem Ami:∀{k b:Nat}{c:Ck}{ds a:Yb1 D},At3 k b c ds=some a->∃f s n,ds=f++[.osl b c s n]/\a = f++[.int .i64 s,.int .i64 n]/\f.length=k
 |0,b,c,ds,a,h=>by
  unfold At3 at h;split at h
  ·split at h
   ·rename_i hc;simp only[Zb1,Zg1]at hc;obtain⟨g,rfl⟩:=hc;have g:=Zl1 g;subst g;simp at h;exact⟨[],_,_,rfl,h.symm,rfl⟩
   ·cases h
  ·rename_i e;cases e
  ·cases h
 |k+1,b,c,[],a,h=>by simp[At3]at h
 |k+1,b,c,d::ds,a,h=>by
  simp[At3]at h;split at h
  ·rename_i es i;simp at h;obtain⟨f,s,n,rfl,rfl,j⟩:=Ami i;exact⟨d::f,s,n,rfl,h.symm,by simp[j]⟩
  ·cases h
theorem O5:∀(k b:Nat) (c:Ck) (E:Yb1 D),W9 k b c (E.take (k+(0+1+1)))=W9 k b c E
 |0,b,c,[]=>rfl
 |0,b,c,[d]=>rfl
 |0,b,c,d::e::E=>by cases d<;>first|rfl|(cases e<;>rfl)
 |k+1,b,c,[]=>rfl
 |k+1,b,c,d::E=>by rw[show k+1+(0+1+1)=(k+(0+1+1))+1 by omega,List.take_succ_cons];simp[W9,O5 k b c E]
theorem Y8{d:D}{z:Int}(j:lf d=true)(h:Rep x d (.int .i64 z)):∃k,d = .int k z:=by cases d with|int k m=>simp[Rep]at h;exact⟨k,by rw[h.1.2]⟩|bool b=>simp[Rep]at h|str l=>simp[Rep]at h|sl c xs t=>simp[Rep]at h;obtain⟨a,cap,e,_⟩:=h.1.here.slice;cases e|ep c y o=>simp only[Rep]at h;obtain⟨_,_,e,_⟩:=h;cases e|ptr b o=>simp only[Rep]at h;cases h.2|nilp=>simp[Rep]at h|gp g=>simp[Rep]at h|gm l=>simp only[Rep]at h;obtain⟨_,_,_,e,_⟩:=h;cases e|osl b c s n=>simp only[Rep]at h;obtain⟨_,_,_,_,_,_,e,_⟩:=h;cases e|dp b c i=>simp only[Rep]at h;cases h.2.1|rp b c n i=>simp only[Rep]at h;cases h.2.1|fn f caps=>simp only[Rep]at h;obtain⟨_,e,_⟩:=h;cases e|bm f caps=>simp only[Rep]at h;obtain⟨_,e,_⟩:=h;cases e|nilfn=>simp[Rep]at h|yl b=>simp only[Rep]at h;cases h.2|sv c y=>simp[lf]at j|dn c xs=>simp[lf]at j|rw c n xs=>simp[lf]at j|agg ds=>simp[lf]at j|tup ds=>simp[lf]at j|undef=>simp[lf]at j|junk=>simp[lf]at j
theorem Akl{x:Vx}{b:Nat}{c:Ck}{s n:Int}:∀{l:Yb1 Sg}{E:Yb1 D}{vs:Yb1 Value},l.length=vs.length->ShL (l++[Yc1,Yc1]) E->Reps x E (vs++[.int .i64 s,.int .i64 n])->∃g,W9 l.length b c E=g++[.osl b c s n]/\Reps x g vs/\ShL l g
 |[],E,vs,hl,a,hr=>by have hv:vs=[]:=List.eq_nil_of_length_eq_zero hl.symm;subst hv;simp at a hr;obtain⟨o,E1,rfl,h,a⟩:=a;obtain⟨e2,E2,rfl,i,a⟩:=a;simp[Reps]at hr;obtain⟨_,_,⟨rfl,rfl⟩,e,_,_,⟨rfl,rfl⟩,f,j⟩:=hr;obtain⟨p,rfl⟩:=Y8 (h.1 rfl) e;obtain⟨q,rfl⟩:=Y8 (i.1 rfl) f;exact⟨[],rfl,by simp[Reps],rfl⟩
 |s0::l,E,[],hl,a,hr=>by simp at hl
 |s0::l,E,v::vs,hl,a,hr=>by obtain⟨d,E',rfl,k,m⟩:=a;simp[ Reps]at hr;obtain⟨_,_,⟨rfl,rfl⟩,e,f⟩:=hr;obtain⟨g,p1,p2,p3⟩:=Akl (b:=b) (c:=c) (by simpa using hl) m f;exact⟨d::g,by simp[ W9,p1],by simp only[Reps];exact⟨v,vs,rfl,e,p2⟩,d,g,rfl,k,p3⟩
theorem Reps.snoc:∀{ds:Yb1 D}{d:D}{vs:Yb1 Value},Reps x (ds++[d]) vs->∃us u,vs=us++[u]/\Reps x ds us/\Rep x d u
 |[],d,vs,h=>by simp only[Zf2,Reps]at h;obtain⟨u,us,rfl,a,rfl⟩:=h;exact⟨[],u,rfl,by simp[Reps],a⟩
 |e::ds,d,vs,h=>by simp[ Reps]at h;obtain⟨u,us,rfl,a,b⟩:=h;obtain⟨ws,z,rfl,c,f⟩:=Reps.snoc b;exact⟨u::ws,z,rfl,by simp only[Reps];exact⟨u,ws,rfl,a,c⟩,f⟩
theorem Bqr{v w:Value}(h:Bv9 v w=true):v=w:=by
 unfold Bv9 at h;split at h
 ·simp only[Zb1,Zg1]at h;obtain⟨rfl,rfl⟩:=h;rfl
 ·rw[eq_of_beq h]
 ·rfl
 ·cases h
theorem Ac9{a b:Operand}(h:R2 a b=true):a=b:=by
 unfold R2 at h;split at h
 ·rw[Zl1 h]
 ·rw[Bqr h]
 ·cases h
theorem Aw4:∀{l m:Yb1 Operand},Ad8 l m=true->l=m
 |[],[],_=>rfl
 |a::l,b::m,h=>by simp only[Ad8,Zb1]at h;rw[Ac9 h.1,Aw4 h.2]
 |[],_::_,h=>by simp[Ad8]at h
 |_::_,[],h=>by simp[Ad8]at h
theorem Afm:∀{l m:Yb1 Nat},Z9 l m=true->l=m
 |[],[],_=>rfl
 |a::l,b::m,h=>by simp only[Z9,Zb1]at h;rw[Zl1 h.1,Afm h.2]
 |[],_::_,h=>by simp[Z9]at h
 |_::_,[],h=>by simp[Z9]at h
theorem Alz:∀{l m:Yb1 (Nat×Operand)},Wh l m=true->l=m
 |[],[],_=>rfl
 |(i,a)::l,(j,b)::m,h=>by simp only[Wh,Zb1]at h;rw[Zl1 h.1.1,Ac9 h.1.2,Alz h.2]
 |[],_::_,h=>by simp[Wh]at h
 |_::_,[],h=>by simp[Wh]at h
theorem B0k{a b:Op}(h:B3l a b=true):a=b:=by
 unfold B3l at h;split at h<;>first
  |(cases h;done)
  |(simp only[Zb1,Zg1]at h
    grind [Zl1,Ac9,Alz,Aw4,Afm])
  |exact congrArg _ (Zl1 h)
theorem Aj4:∀{l m:Yb1 Edge},Vo l m=true->l=m
 |[],[],_=>rfl
 |⟨a,g⟩::l,⟨b,k⟩::m,h=>by simp only[Vo,Zb1,Zg1]at h;rw[Zl1 h.1.1,h.1.2,Aj4 h.2]
 |[],_::_,h=>by simp[Vo]at h
 |_::_,[],h=>by simp[Vo]at h
theorem Akh:∀{l m:Yb1 Oper},Wd l m=true->l=m
 |[],[],_=>rfl
 |⟨d,o,t,p,⟨a⟩,g⟩::l,⟨d',o',t',p',⟨a'⟩,g'⟩::m,h=>by simp only[Wd,Zb1,Zg1]at h;obtain⟨⟨⟨⟨⟨⟨b,c⟩,e⟩,f⟩,i⟩,j⟩,k⟩:=h;rw[b,B0k c,Zl1 e,f,Aj4 i,j,Akh k]
 |[],_::_,h=>by simp[Wd]at h
 |_::_,[],h=>by simp[Wd]at h
theorem I2:∀{a b:Code},Dj a b=true->a=b
 |.skip,.skip,_=>rfl
 |.ret,.ret,_=>rfl
 |.exit i,.exit j,h=>by simp only[Dj]at h;rw[Zl1 h]
 |.region i ⟨l⟩ d,.region j ⟨m⟩ e,h=>by simp only[Dj,Zb1]at h;rw[Zl1 h.1.1,Akh h.1.2,eq_of_beq h.2]
 |.seq a b,.seq a' b',h=>by simp only[Dj,Zb1]at h;rw[I2 h.1,I2 h.2]
 |.cond c a b,.cond c' a' b',h=>by simp only[Dj,Zb1]at h;rw[Ac9 h.1.1,I2 h.1.2,I2 h.2]
 |.block i b,.block j b',h=>by simp only[Dj,Zb1]at h;rw[Zl1 h.1,I2 h.2]
 |.loop _,b,h=>by simp[Dj]at h
 |.scope _,b,h=>by simp[Dj]at h
 |.rangeFunc _ _ _ _,b,h=>by simp[Dj]at h
 |.label _,b,h=>by simp[Dj]at h
 |.goto _,b,h=>by simp[Dj]at h
 |.refuse _,b,h=>by simp[Dj]at h
 |.skip,.ret,h|.skip,.exit _,h|.skip,.region _ _ _,h|.skip,.seq _ _,h|.skip,.cond _ _ _,h|.skip,.block _ _,h|.skip,.loop _,h|.skip,.scope _,h|.skip,.rangeFunc _ _ _ _,h|.skip,.label _,h|.skip,.goto _,h|.skip,.refuse _,h=>by simp[Dj]at h
 |.ret,.skip,h|.ret,.exit _,h|.ret,.region _ _ _,h|.ret,.seq _ _,h|.ret,.cond _ _ _,h|.ret,.block _ _,h|.ret,.loop _,h|.ret,.scope _,h|.ret,.rangeFunc _ _ _ _,h|.ret,.label _,h|.ret,.goto _,h|.ret,.refuse _,h=>by simp[Dj]at h
 |.exit _,.skip,h|.exit _,.ret,h|.exit _,.region _ _ _,h|.exit _,.seq _ _,h|.exit _,.cond _ _ _,h|.exit _,.block _ _,h|.exit _,.loop _,h|.exit _,.scope _,h|.exit _,.rangeFunc _ _ _ _,h|.exit _,.label _,h|.exit _,.goto _,h|.exit _,.refuse _,h=>by simp[Dj]at h
 |.region _ _ _,.skip,h|.region _ _ _,.ret,h|.region _ _ _,.exit _,h|.region _ _ _,.seq _ _,h|.region _ _ _,.cond _ _ _,h|.region _ _ _,.block _ _,h|.region _ _ _,.loop _,h|.region _ _ _,.scope _,h|.region _ _ _,.rangeFunc _ _ _ _,h|.region _ _ _,.label _,h|.region _ _ _,.goto _,h|.region _ _ _,.refuse _,h=>by simp[Dj]at h
 |.seq _ _,.skip,h|.seq _ _,.ret,h|.seq _ _,.exit _,h|.seq _ _,.region _ _ _,h|.seq _ _,.cond _ _ _,h|.seq _ _,.block _ _,h|.seq _ _,.loop _,h|.seq _ _,.scope _,h|.seq _ _,.rangeFunc _ _ _ _,h|.seq _ _,.label _,h|.seq _ _,.goto _,h|.seq _ _,.refuse _,h=>by simp[Dj]at h
 |.cond _ _ _,.skip,h|.cond _ _ _,.ret,h|.cond _ _ _,.exit _,h|.cond _ _ _,.region _ _ _,h|.cond _ _ _,.seq _ _,h|.cond _ _ _,.block _ _,h|.cond _ _ _,.loop _,h|.cond _ _ _,.scope _,h|.cond _ _ _,.rangeFunc _ _ _ _,h|.cond _ _ _,.label _,h|.cond _ _ _,.goto _,h|.cond _ _ _,.refuse _,h=>by simp[Dj]at h
 |.block _ _,.skip,h|.block _ _,.ret,h|.block _ _,.exit _,h|.block _ _,.region _ _ _,h|.block _ _,.seq _ _,h|.block _ _,.cond _ _ _,h|.block _ _,.loop _,h|.block _ _,.scope _,h|.block _ _,.rangeFunc _ _ _ _,h|.block _ _,.label _,h|.block _ _,.goto _,h|.block _ _,.refuse _,h=>by simp[Dj]at h
variable{body:Code}{env:Yb1 (Nat×D)}
theorem Avb{n e:Nat}{ps d:Yb1 Nat}{asg b a:Code}{c:Env}(h:Ayy n ps asg body env e d b a c = true):n=e/\ps=d/\asg=b/\body=a/\Aa3 c env=true:=by simp only[Ayy,Zb1]at h;exact⟨Zl1 h.1.1.1.1,Afm h.1.1.1.2,I2 h.1.1.2,I2 h.1.2,h.2⟩
theorem A1t{k:Nat}{d:D}:∀{env:Env},get env k=some d->(k,d)∈env
 |[],h=>by simp[get]at h
 |(q,e)::l,h=>by
  rw[Bl]at h;by_cases a:k=q
  ·rw[if_pos a]at h;cases h;rw[a];exact Zr1
  ·rw[if_neg a]at h;exact Zu1 _ (A1t h)
theorem A5b{env:Env}:∀{fx:Yb1 (Nat×D)}{k:Nat}{d:D},Aa3 env fx=true->get fx k=some d->∃a,get env k=some a/\T8 d a = true
 |[],k,d,_,h=>by simp[get]at h
 |(q,v)::fx,k,d,h1,h=>by
  simp[Aa3]at h1;rw[Bl]at h;split at h1
  ·rename_i a b;simp at h1;by_cases c:k=q
   ·subst c;simp at h;subst h;exact⟨a,b,h1.1⟩
   ·rw[if_neg c]at h;exact A5b h1.2 h
  ·cases h1
variable{a:Act}
theorem A5y{n:Nat}{c:Env}(e:∀p,p∈env->∀b,b∈Dr p.2->x'.m.bl b=x.m.bl b/\b<x'.nb)(g:Aa3 c env=true)(f:EnvR x n [] (get c) a):EnvR x' n [] (get env) a:=⟨f.defers,f.size,λk d hd=>by obtain⟨h,i,j⟩:=A5b g hd;obtain⟨v,l,o⟩:=f.get k h i;exact⟨v,l,R4 (e _ (A1t hd)) j o⟩⟩
variable{q:Nat}
theorem Bpr{n:Nat}{ps:Yb1 Nat}{asg:Code}{k:Blk}{j:Int}(f:x'.w=x.w)(g:∀p,p∈env->∀b,b∈Dr p.2->x'.m.bl b=x.m.bl b/\b<x'.nb)(h:Bwg n ps asg body env q k=some j)(e:Gn x β k):Gn x' β (.lx j n ps asg body env q):=by
 unfold Bwg at h;split at h
 ·split at h
  ·rename_i hc;simp only[Zb1]at hc;obtain⟨i,hc⟩:=hc;obtain⟨rfl,rfl,rfl,rfl,l⟩:=Avb hc;cases h;obtain⟨rc,a,c,d,o,r,s⟩:=e;exact⟨rfl,λ_=>⟨rc,by rw[f];exact a,c,d,o,A5y g l r,s (Zl1 i)⟩,λh=>absurd rfl h⟩
  ·cases h
 ·cases h;obtain⟨rc,a,c,d⟩:=e;exact⟨rfl,λh=>absurd h (by decide),λ_=>⟨rc,by rw[f];exact a,c,d⟩⟩
 ·split at h
  ·rename_i hc;cases h;obtain rfl:=Zl1 hc;obtain⟨rc,a,c,d⟩:=e;exact⟨rfl,λh=>absurd h (by decide),λ_=>⟨rc,by rw[f];exact a,c,d⟩⟩
  ·cases h
 ·split at h
  ·rename_i hc;simp only[Zb1]at hc;obtain⟨i,hc⟩:=hc;obtain⟨rfl,rfl,rfl,rfl,l⟩:=Avb hc;obtain rfl:=Zl1 i;cases h;refine⟨e.1,λt=>?_,λt=>?_⟩
   ·obtain⟨rc,a,c,d,o,r,s⟩:=e.2.1 t;exact⟨rc,by rw[f];exact a,c,d,o,A5y g l r,s⟩
   ·obtain⟨rc,a,c⟩:=e.2.2 t;exact⟨rc,by rw[f];exact a,c⟩
  ·cases h
 ·cases h
theorem Bz9{n:Nat}{ps:Yb1 Nat}{asg:Code}{k:Blk}{j:Int}(h:Bwg n ps asg body env q k=some j)(a:Gn x β k):Fy .i64 j=true:=by
 unfold Bwg at h;split at h
 ·split at h
  ·cases h;rfl
  ·cases h
 ·cases h;rfl
 ·split at h
  ·cases h;rfl
  ·cases h
 ·split at h
  ·cases h;exact a.1
  ·cases h
 ·cases h
theorem Dv{x:Vx}{m:Nat->Nat}{stbl:Yb1 (Nat×Blk)}(hb:∀b k,blk stbl b=some k->Gn x (m b) k){nb:Nat}:∀{bl:Yb1 (Nat×Bs)}{B:Yb1 D},Bo stbl bl=some B->(bl.all λp=>Nat.blt p.1 nb&&bsB nb p.2)=true ->
  ∃VB:Yb1 Value,Reps x B VB/\∀(x':Vx) (E:Yb1 D),(x'.w=x.w/\x'.el=x.el)->(∀d,d∈fxs bl->∀b,b∈Dr d->x'.m.bl b=x.m.bl b/\b<x'.nb)->ShL ((bl.map (·.2.sgs)).flatten) E->Reps x' E VB->∀b k,blk (Di bl E) b=some k->Gn x' (m b) k/\blk stbl b≠none/\b<nb
 |[],B,h,_=>by simp[Bo]at h;subst h;exact⟨[],by simp[Reps],λx' E _ _ _ _ b k f=>by simp[Di,blk]at f⟩
 |(b0,.cells l)::bl,B,h,hok=>by
  simp[Bo]at h;simp only[Zv1,Zb1]at hok;split at h
  ·rename_i ds es a2 y;split at h
   ·rename_i ai;simp at h;subst h;obtain⟨VB,h1,h2⟩:=Dv hb y hok.2;obtain⟨ao,vs,t,hh,r⟩:=hb b0 _ a2;refine⟨vs++VB,r.append h1,λx' E z o g hr b k f=>?_⟩;simp[Zw1,Bs.sgs]at g;obtain⟨s1,s2⟩:=g.split;have aa:vs.length=l.length:=by rw[r.len,(Zl1 ai)]
    obtain⟨r1,r2⟩:=hr.take;rw[aa]at r1 r2;simp[Di]at f;rw[Az]at f;by_cases i:b=b0
    ·subst i;simp[if_true]at f;subst f;exact⟨⟨s1.lf hok.1.2,vs,t,by rw[z.1];exact hh,r1⟩,by rw[a2];simp,by simpa[Nat.blt_eq]using hok.1.1⟩
    ·rw[if_neg i]at f;exact h2 x' _ z o s2 r2 b k f
   ·cases h
  ·cases h
 |(b0,.one s)::bl,B,h,hok=>by
  simp[Bo]at h;simp only[Zv1,Zb1]at hok;split at h
  ·cases h
  ·cases h
  ·cases h
  ·cases h
  ·cases h
  ·rename_i k0 es ap ar au av aw a3 y;simp at h;subst h;obtain⟨VB,h1,h2⟩:=Dv hb y hok.2;obtain⟨vs,t,hh,a4⟩:=Bp1 (hb b0 _ a3) (λt d e=>ap t d e) (λq e=>ar q e) (λs n ps asg body env e=>au s n ps asg body env e) (λj e=>av j e) (λj n ps asg body env q e=>aw j n ps asg body env q e);refine⟨.agg vs.toArray::VB,by simp only[Reps];exact⟨_,VB,rfl,a4,h1⟩,λx' E z o g hr b k f=>?_⟩;simp[Zw1,Bs.sgs]at g;obtain⟨d,E',rfl,a5,a6⟩:=g;simp only[Reps]at hr;obtain⟨u,us,hu,a7,a8⟩:=hr;simp[Ze2]at hu;obtain⟨rfl,rfl⟩:=hu;simp[Di]at f;rw[Az]at f;by_cases i:b=b0
   ·subst i;simp[if_true]at f;subst f;exact⟨Bqi (a5.2.1 (by have a9:(!Me s)=true:=hok.1.2;simpa using a9)) (by rw[z.1];exact hh) a7,by rw[a3];simp,by simpa[Nat.blt_eq]using hok.1.1⟩
   ·rw[if_neg i]at f;exact h2 x' _ z o a6 a8 b k f
  ·cases h
 |(b0,.bld t0)::bl,B,h,hok=>by
  simp[Bo]at h;simp only[Zv1,Zb1]at hok;split at h
  ·rename_i t1 d0 es a3 y;split at h
   case h_2=>cases h
   rename_i ht;obtain rfl:=Zl1 ht;simp at h;subst h;obtain⟨VB,h1,h2⟩:=Dv hb y hok.2;obtain⟨_,a,v,hh,ha,a4⟩:=hb b0 _ a3;refine⟨v::VB,by simp only[Reps];exact⟨_,VB,rfl,a4,h1⟩,λx' E z o g hr b k f=>?_⟩;simp[Zw1,Bs.sgs]at g;obtain⟨d,E',rfl,a5,a6⟩:=g;simp only[Reps]at hr;obtain⟨u,us,hu,a7,a8⟩:=hr;simp[Ze2]at hu;obtain⟨rfl,rfl⟩:=hu;simp[Di]at f;rw[Az]at f;by_cases i:b=b0
   ·subst i;simp[if_true]at f;subst f;exact⟨⟨a5.2.2 rfl,a,v,by rw[z.1];exact hh,ha,a7⟩,by rw[a3];simp,by simpa[Nat.blt_eq]using hok.1.1⟩
   ·rw[if_neg i]at f;exact h2 x' _ z o a6 a8 b k f
  ·cases h
 |(b0,.fx l)::bl,B,h,hok=>by
  simp[Bo]at h;simp only[Zv1,Zb1]at hok;split at h
  ·rename_i ds es a2 y;split at h
   ·rename_i ab;simp at h;subst h;obtain⟨VB,h1,h2⟩:=Dv hb y hok.2;obtain⟨_,vs,t,hh,r⟩:=hb b0 _ a2;refine⟨VB,h1,λx' E z o g hr b k f=>?_⟩;simp[Zw1,Bs.sgs,Zf2]at g;simp[Di]at f;rw[Az]at f;have hl:l.all (Ab0 nb)=true:=hok.1.2;by_cases i:b=b0
    ·subst i;simp[if_true]at f;subst f;exact⟨⟨Zg2.2 λd hd=>Bzv (Zg2.1 hl d hd),vs,t,by rw[z.1];exact hh,Aax (λd hd=>o d (by simp[fxs,List.mem_append];exact .inl hd)) ab r⟩,by rw[a2];simp,by simpa[Nat.blt_eq]using hok.1.1⟩
    ·rw[if_neg i]at f;exact h2 x' _ z (λd hd=>o d (by simp[fxs,List.mem_append];exact .inr hd)) g hr b k f
   ·cases h
  ·cases h
 |(b0,.oc l b1 c)::bl,B,h,hok=>by
  simp[Bo]at h;simp only[Zv1,Zb1]at hok;split at h
  ·rename_i ds es a2 y;split at h
   ·rename_i b2 ax;simp at h;subst h;obtain⟨b3,s0,n0,rfl,rfl,ay⟩:=Ami ax;obtain⟨VB,h1,h2⟩:=Dv hb y hok.2;obtain⟨ao,vs,t,hh,r⟩:=hb b0 _ a2;obtain⟨ac,vo,rfl,r0,ro⟩:=r.snoc;have aj:=ro;simp[Rep]at ro;obtain⟨_,g2,g3,g4,_⟩:=ro;have u1:Fy .i64 s0=true:=by have:=Rj (show s0.toNat<=maxLen by omega);rwa[Int.toNat_of_nonneg g2]at this
    have u2:Fy .i64 n0=true:=by have:=Rj (show n0.toNat<=maxLen by omega);rwa[Int.toNat_of_nonneg g3]at this
    have ae:l.all Me=true/\b1<nb:=by have a9:(l.all Me&&Nat.blt b1 nb)=true:=hok.1.2;simp only[Zb1]at a9;exact⟨a9.1,by simpa[Nat.blt_eq]using a9.2⟩
    refine⟨(ac++[.int .i64 s0,.int .i64 n0])++VB,(r0.append (by simp only[Reps];exact⟨_,_,rfl,Dl u1,_,_,rfl,Dl u2,rfl⟩)).append h1,λx' E z o g hr b k f=>?_⟩;simp only[Zw1,Bs.sgs]at g;obtain⟨s1,s2⟩:=g.split;have aa:ac.length=l.length:=by rw[r0.len,ay]
    simp[ Zf1,Zi1]at s1 s2;obtain⟨q1,q2⟩:=hr.take;simp[Zh1,Zf1,Zi1,aa]at q1 q2;simp[Di]at f;rw[Az]at f;by_cases i:b=b0
    ·subst i;simp[if_true,Za1]at f;subst f;obtain⟨e0,ak,ag,am⟩:=Akl (b:=b1) (c:=c) aa.symm s1 q1;have ah:W9 l.length b1 c E=e0++[.osl b1 c s0 n0]:=(O5 l.length b1 c E).symm.trans ak;rw[ah];obtain⟨hm,az⟩:=o (.ptr b1 0) (by simp[fxs]) b1 (by simp[Dr]);refine⟨⟨?_,ac++[vo],t,by rw[z.1];exact hh,ag.append ?_⟩,by rw[a2];simp,by simpa[Nat.blt_eq]using hok.1.1⟩
     ·simp[List.all_append,am.lf ae.1,Bool.true_and];rfl
     ·simp only[Reps];refine⟨vo,[],rfl,?_,rfl⟩;simp[Rep]at aj ⊢;rw[hm,z.1,z.2];exact⟨az,aj.2⟩
    ·rw[if_neg i]at f;exact h2 x' _ z (λd hd=>o d (by simp[fxs,List.mem_cons];exact .inr hd)) s2 q2 b k f
   ·cases h
  ·cases h
 |(b0,.rc n ps asg body env q)::bl,B,h,hok=>by
  simp[Bo]at h;simp only[Zv1,Zb1]at hok;split at h
  ·rename_i k0 es a3 y;split at h
   ·rename_i j hj;simp at h;subst h;obtain⟨VB,h1,h2⟩:=Dv hb y hok.2;have hB:=hb b0 _ a3;have hu:Fy .i64 j=true:=Bz9 hj hB;refine⟨.int .i64 j::VB,by simp only[Reps];exact⟨_,VB,rfl,Dl hu,h1⟩,λx' E z o g hr b k f=>?_⟩;simp[Zw1,Bs.sgs]at g;obtain⟨d,E',rfl,a5,a6⟩:=g;simp only[Reps]at hr;obtain⟨u,us,an,a7,a8⟩:=hr;simp[Ze2]at an;obtain⟨rfl,rfl⟩:=an;obtain⟨kk,rfl⟩:=Y8 (a5.1 rfl) a7;simp only[Di]at f;rw[Az]at f;by_cases i:b=b0
    ·subst i;simp[if_true]at f;subst f;exact⟨Bpr z.1 (λp hp b hb=>o p.2 (by simp only[fxs];exact List.mem_append_left _ (List.mem_map.2 ⟨p,hp,rfl⟩)) b hb) hj hB,by rw[a3];simp,by simpa[Nat.blt_eq]using hok.1.1⟩
    ·rw[if_neg i]at f;exact h2 x' _ z (λd hd=>o d (by simp only[fxs];exact List.mem_append_right _ hd)) a6 a8 b k f
   ·cases h
  ·cases h
theorem Jy{x:Vx}{n:Nat}{df:Yb1 D}{env:Env}{a:Act}(s:EnvR x n df (get env) a):∀{ow:Yb1 (Nat×Nat×Ck)}{O:Yb1 D},L5 env ow=some O->∃VO:Yb1 Value,Reps x O VO/\∀(x':Vx) (E:Yb1 D),(x'.m.bl=x.m.bl/\x'.w=x.w/\x'.el=x.el)->(∀p,p∈ow->p.2.1<x'.nb)->ShL (A48 ow) E->Reps x' E VO->∀k d,get (A0q ow E) k=some d->∃v,a.tmps[k]? = some v/\Rep x' d v
 |[],O,h=>by simp[L5]at h;subst h;exact⟨[],by simp[Reps],λx' E _ _ _ _ k d f=>by simp[A0q,get]at f⟩
 |(k0,b,c)::ow,O,h=>by
  simp[L5]at h;split at h
  ·rename_i b' c' s0 n0 ds hd q;split at h
   ·rename_i hc;simp only[Zb1,Zg1]at hc;obtain⟨g,rfl⟩:=hc;have g:=Zl1 g;subst g;simp at h;subst h;obtain⟨VO,z,h2⟩:=Jy s q;obtain⟨v,hv,t⟩:=s.get k0 _ hd;simp only[Rep]at t;obtain⟨g1,u,y,g4,g5⟩:=t;have u1:Fy .i64 s0=true:=by have:=Rj (show s0.toNat<=maxLen by omega);rwa[Int.toNat_of_nonneg u]at this
    have u2:Fy .i64 n0=true:=by have:=Rj (show n0.toNat<=maxLen by omega);rwa[Int.toNat_of_nonneg y]at this
    refine⟨.int .i64 s0 :: .int .i64 n0::VO,by simp only[Reps];exact⟨_,_,rfl,Dl u1,_,_,rfl,Dl u2,z⟩,λx' E hm hb e i k d f=>?_⟩;simp[A48]at e;obtain⟨e1,E1,rfl,a2,e⟩:=e;obtain⟨e2,E2,rfl,a3,e⟩:=e;simp[Reps,Ze2]at i;obtain⟨_,_,⟨rfl,rfl⟩,j,_,_,⟨rfl,rfl⟩,l,r⟩:=i;cases e1 with
    |int k1 m1=>
     cases e2 with
     |int k2 m2=>
      simp[Rep,Value.int.injEq]at j l;obtain⟨⟨_,rfl⟩,_⟩:=j;obtain⟨⟨_,rfl⟩,_⟩:=l;simp[A0q]at f;rw[Bl]at f;by_cases o:k=k0
      ·subst o;simp at f;subst f;refine⟨v,hv,?_⟩;simp only[Rep];exact⟨hb _ Zr1,u,y,g4,by rw[hm.1,hm.2.1,hm.2.2];exact g5⟩
      ·rw[if_neg o]at f;exact h2 x' _ hm (λp hp=>hb p (by simp[hp])) e r k d f
     |_=>simp[A0q,get]at f
    |_=>simp[A0q,get]at f
   ·cases h
  ·cases h
theorem Ab8{x:Vx}:∀{frs:Yb1 Fr}{as_:Yb1 Act}{lb lt p q:Nat},Aiw x lb lt frs as_↔Aiw { x with nb:=p,nt:=q } lb lt frs as_
 |[],_,_,_,_,_=>Iff.rfl
 |f::frs,as_,lb,lt,p,q=>by
  simp[Aiw];constructor
  ·rintro⟨a,r,b,c,d,e,g⟩;exact⟨a,r,b,c,d,e,Ab8.1 g⟩
  ·rintro⟨a,r,b,c,d,e,g⟩;exact⟨a,r,b,c,d,e,Ab8.2 g⟩
theorem Gq:∀(l:Yb1 Sg) (i p:Nat),p∈Bb i l->i<=p/\p<i+l.length
 |[],i,p,a=>by simp[Bb]at a
 |s::l,i,p,a=>by
  have rec':p∈Bb (i+1) l->i<=p/\p<i+(s::l).length:=λh=>by have:=Gq l (i+1) p h;simp;omega
  cases s with
  |sl c own=>
   cases own with
   |true=>
    simp[Bb]at a;rcases a with rfl|a
    ·simp
    ·exact rec' a
   |false=>exact rec' (by simpa[Bb]using a)
  |_=>exact rec' (by simpa[Bb]using a)
theorem G7:∀{l m:Yb1 Nat},Dk l m=true->l=m
 |[],[],_=>rfl
 |a::l,b::m,h=>by simp only[Dk,Zb1]at h;rw[Zl1 h.1,G7 h.2]
 |[],_::_,h=>by simp[Dk]at h
 |_::_,[],h=>by simp[Dk]at h
theorem A52(i:Nat)(l:Yb1 Sg)(x:HV l):(Ca i l x).length=l.length:=(Ajp i l x).len
theorem Fh:∀(bl:Yb1 (Nat×Bs)) (E:Yb1 D),Di bl (E.take ((bl.map (·.2.sgs)).flatten).length)=Di bl E
 |[],E=>by simp[Di]
 |(b,.cells l)::bl,E=>by have a:=Fh bl (E.drop l.length);simp only[Di,Zw1,Zz1,Bs.sgs,Zh1]at a ⊢;rw[List.take_take,Nat.min_eq_left (Nat.le_add_right _ _),List.drop_take,Nat.add_sub_cancel_left,a]
 |(b,.one s)::bl,[]=>by simp
 |(b,.one s)::bl,d::E=>by have a:=Fh bl E;simp only[Zw1,Zz1,Bs.sgs,Zh1,Zf1,Zi1]at a ⊢;rw[Nat.add_comm,List.take_succ_cons];simp only[Di];rw[a]
 |(b,.bld _)::bl,[]=>by simp
 |(b,.bld _)::bl,d::E=>by have a:=Fh bl E;simp only[Zw1,Zz1,Bs.sgs,Zh1,Zf1,Zi1]at a ⊢;rw[Nat.add_comm,List.take_succ_cons];simp only[Di];rw[a]
 |(b,.fx l)::bl,E=>by have a:=Fh bl E;simp[Di,Bs.sgs]at a ⊢;rw[a]
 |(b,.oc l b1 c)::bl,E=>by
  have a:=Fh bl (E.drop (l.length+2));simp only[Di,Zw1,Zz1,Bs.sgs,Zh1,Zf1,Zi1]at a ⊢;have e:∀q:Nat,W9 l.length b1 c (E.take (l.length+(0+1+1)+q))=W9 l.length b1 c E:=λq=>by rw[<-O5 l.length b1 c (E.take _),List.take_take,Nat.min_eq_left (Nat.le_add_right _ _),O5]
  have e2:∀q:Nat,l.length+(0+1+1)+q-(l.length+2)=q:=λq=>by omega
  rw[e,List.drop_take,e2,a]
 |(b,.rc n ps asg body env q)::bl,[]=>by have a:=Fh bl [];simp
 |(b,.rc n ps asg body env q)::bl,d::E=>by have a:=Fh bl E;simp only[Zw1,Zz1,Bs.sgs,Zh1,Zf1,Zi1]at a ⊢;rw[Nat.add_comm,List.take_succ_cons];cases d<;>simp only[Di,List.drop_succ_cons,Zq1,a]
theorem Pg{nb:Nat}:∀{bl:Yb1 (Nat×Bs)},(bl.all λp=>Nat.blt p.1 nb&&bsB nb p.2)=true->∀d,d∈fxs bl->Ab0 nb d=true
 |[],_,d,hd=>by cases hd
 |(_,.cells _)::bl,h,d,hd=>by simp only[Zv1,Zb1]at h;exact Pg h.2 d hd
 |(_,.one _)::bl,h,d,hd=>by simp only[Zv1,Zb1]at h;exact Pg h.2 d hd
 |(_,.bld _)::bl,h,d,hd=>by simp only[Zv1,Zb1]at h;exact Pg h.2 d hd
 |(_,.fx l)::bl,h,d,hd=>by
  simp only[Zv1,Zb1]at h;simp[fxs]at hd;rcases hd with hd|hd
  ·have b:l.all (Ab0 nb)=true:=h.1.2;exact Zg2.1 b d hd
  ·exact Pg h.2 d hd
 |(_,.oc l b1 c)::bl,h,d,hd=>by
  simp only[Zv1,Zb1]at h;simp[fxs]at hd;rcases hd with rfl|hd
  ·have a:(l.all Me&&Nat.blt b1 nb)=true:=h.1.2;simp only[Zb1]at a;exact a.2
  ·exact Pg h.2 d hd
 |(_,.rc n ps asg body env q)::bl,h,d,hd=>by
  simp only[Zv1,Zb1]at h;simp only[fxs]at hd;rcases List.mem_append.1 hd with hd|hd
  ·obtain⟨p,e,rfl⟩:=List.mem_map.1 hd;have a:(env.all λp=>Ab0 nb p.2)=true:=h.1.2;exact Zg2.1 a p e
  ·exact Pg h.2 d hd
theorem Rb{env:Env}:∀{ow:Yb1 (Nat×Nat×Ck)}{O:Yb1 D},L5 env ow=some O->O.length=(A48 ow).length
 |[],O,h=>by simp[L5]at h;subst h;rfl
 |(k,b,c)::ow,O,h=>by
  simp[L5]at h;split at h
  ·rename_i a;split at h
   ·simp at h;subst h;simp[A48,Rb a]
   ·cases h
  ·cases h
section
variable {cx:Cx}
variable{as_:Yb1 Act}{m:Mp}{st:St}{w:World}
theorem Rel.recode{sg:Sig}{x:HV sg.sgs}(aw:X7 sg=true)(hd:Js sg st=some x)(hr:Rel cx m a as_ (fs st) w):∃m',Rel cx m' a as_ (fs (Ge sg st.fr x)) w:=by
 simp only[X7,Zb1]at aw;obtain⟨⟨⟨ax,ak⟩,ae⟩,ay⟩:=aw;have ae:sg.lb<=sg.nb:=by simpa using ae
 unfold Js at hd;split at hd
 ·rename_i A B O hA hB hO hc;simp only[Zb1]at hc;obtain⟨⟨⟨⟨⟨bh,ar⟩,au⟩,av⟩,bi⟩,bj⟩:=hc;have ar:st.n=sg.n:=Zl1 ar;have au:st.lb=sg.lb:=Zl1 au;have av:st.lt=sg.lt:=Zl1 av;obtain⟨VA,az,b5⟩:=Lh (env:=st.env) hr.env hA;obtain⟨VB,bk,b6⟩:=Dv (x:=vx cx m (fs st) w) (m:=m.bl) (stbl:=st.bl) (λb k f=>(hr.blks b k f).2) hB ak;obtain⟨VO,b7,b9⟩:=Jy (env:=st.env) hr.env hO;obtain⟨bn,bo⟩:=S2 sg.lt hd;have am:∀t,t∈(st.tk.filter λt=> !sg.tk.contains t)->t∈st.tk/\t∉sg.tk:=λt ht=>by
   simp only[List.mem_filter]at ht;refine⟨ht.1,λhm=>?_⟩;have:sg.tk.contains t=true:=by simpa using hm
   rw[this]at ht;cases ht.2
  have bp:∀t,t∈sg.tk->(t∈st.tk/\t<sg.lt):=λt ht=>by have:=Zg2.1 bj t ht;simp at this;exact⟨by simpa using this.2,by simpa using this.1⟩
  let E:=Ca sg.lt sg.sgs x;have hE:E.length=sg.sgs.length:=A52 _ _ _;have bq:sg.vars.length<=E.length:=by rw[hE];simp[Sig.sgs]
  obtain⟨z1,z2⟩:=Atx sg.vars E bq;let m':Mp:=⟨m.bl,λt=>if t<sg.lt then m.tk t else(asg sg.lt sg.sgs (A++(B++O)) t).bind m.tk⟩;have a4:Ge sg st.fr x=⟨sg.n,(A1s sg.vars E).1++(sg.fix++A0q sg.ow ((E.drop sg.vars.length).drop ((sg.bl.map (·.2.sgs)).flatten).length)),sg.lb,sg.lt,st.fr,Di sg.bl (E.drop sg.vars.length),sg.nb,Bb sg.lt sg.sgs++sg.tk,sg.lt+sg.sgs.length,[]⟩:=by unfold Ge;rw[<-z1]
  have ag:ShL ((sg.bl.map (·.2.sgs)).flatten++A48 sg.ow) (E.drop sg.vars.length):=by have ba:=(Ajp sg.lt sg.sgs x);simp[Sig.sgs]at ba;have bb:=ba.split.2;simp at bb;exact bb
  have bu:∀(X':Vx),(X'.w=w/\X'.el=cx.el)->(∀d,d∈fxs sg.bl->∀b,b∈Dr d->X'.m.bl b=m.bl b/\b<X'.nb)->Reps X' ((E.drop sg.vars.length).take ((sg.bl.map (·.2.sgs)).flatten).length) VB->∀b k,blk (Di sg.bl (E.drop sg.vars.length)) b=some k->Gn X' (m.bl b) k/\blk st.bl b≠none/\b<sg.nb:=λX' hw bv bw b k f=>by exact b6 X' _ hw bv ag.split.1 bw b k (by rw[Fh];exact f)
  have a9:∀t,t∈Bb sg.lt sg.sgs++sg.tk->t<sg.lt+sg.sgs.length/\((t<sg.lt/\(t∈st.tk/\t∈sg.tk)/\m'.tk t=m.tk t)\/(sg.lt<=t/\t∈Bb sg.lt sg.sgs/\m'.tk t=(asg sg.lt sg.sgs (A++(B++O)) t).bind m.tk)):=λt ht=>by
   simp at ht;rcases ht with ht|ht
   ·obtain⟨h1,h2⟩:=Gq _ _ _ ht;exact⟨h2,.inr ⟨h1,ht,by simp[m',Nat.not_lt.2 h1]⟩⟩
   ·obtain⟨h1,h2⟩:=bp t ht;exact⟨by omega,.inl ⟨h2,⟨h1,ht⟩,by simp[m',h2]⟩⟩
  have a7:∀t g o,t∈Bb sg.lt sg.sgs++sg.tk->m'.tk t=some (g,o)->∃t',t'∈st.tk/\m.tk t' = some (g,o)/\(((t<sg.lt/\t∈sg.tk)/\t' = t)\/(sg.lt<=t/\t'∉sg.tk/\asg sg.lt sg.sgs (A++(B++O)) t=some t')):=λt g o ht z=>by
   rcases(a9 t ht).2 with ⟨h1,h2,h3⟩|⟨h1,_,h3⟩
   ·rw[h3]at z;exact⟨t,h2.1,z,.inl ⟨⟨h1,h2.2⟩,rfl⟩⟩
   ·rw[h3]at z;cases ah:asg sg.lt sg.sgs (A++(B++O)) t with|none=>rw[ah]at z;cases z|some t'=>rw[ah,Zc1]at z;obtain⟨q1,q2⟩:=am t' (bn t t' ah).1;exact⟨t',q1,z,.inr ⟨h1,q2,rfl⟩⟩
  let s':FS:=fs (Ge sg st.fr x);have a5:∀t,s'.al t↔t∈Bb sg.lt sg.sgs++sg.tk:=λt=>by simp[s',a4,fs]
  have ai:s'.bl=blk (Di sg.bl (E.drop sg.vars.length)):=by simp[s',a4,fs]
  have ac:∀b,s'.bl b≠none->blk st.bl b≠none:=λb hb=>by
   rw[ai]at hb;cases f:blk (Di sg.bl (E.drop sg.vars.length)) b with
   |none=>exact absurd f hb
   |some k=>
    have:∀(bl:Yb1 (Nat×Bs)) (B:Yb1 D) (E:Yb1 D) (b:Nat) (k:Blk),Bo st.bl bl=some B->blk (Di bl E) b=some k->blk st.bl b≠none:=by
     intro bl;induction bl with
     |nil=>intro B E b k _ f;simp[Di,blk]at f
     |cons p bl ih=>
      intro B E b k z f;obtain⟨b0,bs⟩:=p;cases bs with
      |cells l=>
       simp[Bo]at z;split at z
       ·rename_i ds es aa a6;simp[Di]at f;rw[Az]at f;by_cases j:b=b0
        ·rw[j,aa];simp
        ·rw[if_neg j]at f;exact ih _ _ b k a6 f
       ·cases z
      |bld t0=>
       simp[Bo]at z;split at z
       ·rename_i t1 k0 es ab a6;cases E with
        |nil=>
         simp[Di]at f;rw[Az]at f;by_cases j:b=b0
         ·rw[j,ab];simp
         ·rw[if_neg j]at f;exact ih _ _ b k a6 f
        |cons e E=>
         simp[Di]at f;rw[Az]at f;by_cases j:b=b0
         ·rw[j,ab];simp
         ·rw[if_neg j]at f;exact ih _ _ b k a6 f
       ·cases z
      |fx l=>
       simp[Bo]at z;split at z
       ·rename_i ds es aa a6;split at z
        ·simp[Di]at f;rw[Az]at f;by_cases j:b=b0
         ·rw[j,aa];simp
         ·rw[if_neg j]at f;exact ih _ _ b k a6 f
        ·cases z
       ·cases z
      |oc l b1 c=>
       simp[Bo]at z;split at z
       ·rename_i ds es aa a6;simp[Di]at f;rw[Az]at f;by_cases j:b=b0
        ·rw[j,aa];simp
        ·rw[if_neg j]at f;exact ih _ _ b k a6 f
       ·cases z
      |rc n ps asg body env q=>
       simp[Bo]at z;split at z
       ·rename_i k0 es ab a6;have h':∃K0 E',blk ((b0,K0)::Di bl E') b=some k:=by cases E with|nil=>exact⟨_,_,f⟩|cons d E=>cases d<;>exact⟨_,_,f⟩
        obtain⟨K0,E',f⟩:=h';rw[Az]at f;by_cases j:b=b0
        ·rw[j,ab];simp
        ·rw[if_neg j]at f;exact ih _ _ b k a6 f
       ·cases z
      |one s=>
       simp[Bo]at z;split at z
       ·cases z
       ·cases z
       ·cases z
       ·cases z
       ·cases z
       ·rename_i k0 es ca cb cc cd ce ab a6;cases E with
        |nil=>
         simp[Di]at f;rw[Az]at f;by_cases j:b=b0
         ·rw[j,ab];simp
         ·rw[if_neg j]at f;exact ih _ _ b k a6 f
        |cons e E=>
         simp[Di]at f;rw[Az]at f;by_cases j:b=b0
         ·rw[j,ab];simp
         ·rw[if_neg j]at f;exact ih _ _ b k a6 f
       ·cases z
    exact this sg.bl B _ b k hB f
  have bc:∀b i,D8 m' s' b i->D8 m (fs st) b i:=by
   rintro b i (⟨q,hq,rfl⟩|⟨t,o,h1,h2,h3⟩)
   ·exact .inl ⟨q,ac q hq,rfl⟩
   ·obtain⟨t',q1,q2,_⟩:=a7 t b o ((a5 t).1 h1) h2;exact .inr ⟨t',o,q1,q2,h3⟩
  have hS:∀b i,(vx cx m' s' w).S b i->(vx cx m (fs st) w).S b i:=by
   rintro b i (h|h)
   ·exact .inl h
   ·exact .inr (bc b i h)
  have bd:(vx cx m' s' w).nt=sg.lt+sg.sgs.length:=by simp[vx,s',a4,fs]
  have aj:Reps (vx cx m' s' w) E (VA++(VB++VO)):=Gk (X:=vx cx m (fs st) w) (X':=vx cx m' s' w) hS rfl rfl sg.lt hd (λt ht=>(am t ht).1) (az.append (bk.append b7)) (λp hp=>by obtain⟨q1,q2⟩:=Gq _ _ _ hp;refine⟨by rw[bd];exact q2,?_⟩;simp[vx,m',Nat.not_lt.2 q1])
  have be:VA.length=sg.vars.length:=by
   have h1:=az.len;have:A.length=sg.vars.length:=by
    have:∀(vars:Yb1 (Nat×Sg)) (A:Yb1 D),Ks st.env vars=some A->A.length=vars.length:=by
     intro vars;induction vars with
     |nil=>intro A h;simp[Ks]at h;subst h;rfl
     |cons p vars ih=>
      intro A h;simp[Ks]at h;split at h
      ·rename_i d ds _ aa;simp at h;subst h;simp[ih ds aa]
      ·cases h
    exact this _ _ hA
   omega
  obtain⟨r1,r2⟩:=aj.take;rw[be]at r1 r2;have bf:VB.length=((sg.bl.map (·.2.sgs)).flatten).length:=by have e1:=r2.len;have e2:=ag.len;have e3:=b7.len;have e4:=Rb hO;simp only[Zh1]at e1 e2;omega
  obtain⟨r3,r4⟩:=r2.take;rw[bf]at r3 r4;refine⟨m',?_⟩;show Rel cx m' a as_ s' w;have an:s'.lb=sg.lb:=by simp[s',a4,fs]
  have ao:s'.lt=sg.lt:=by simp[s',a4,fs]
  have bg:s'.fr=st.fr:=by simp[s',a4,fs]
  have a8:s'.nb=sg.nb:=by simp[s',a4,fs]
  have ap:s'.nt=sg.lt+sg.sgs.length:=bd;have bz:a.defers=[]:=hr.noDf (List.isEmpty_iff.1 bi);refine⟨hr.chg,⟨by rw[show s'.df=[] by simp[s',a4,fs],bz];rfl,?_,λk d f=>?_⟩,?_,?_,?_,λb k f=>?_,λt ht=>?_,λb b' h1 h2=>hr.inj b b' (ac b h1) (ac b' h2),?_,?_,λb i hi=>hr.own b i (bc b i hi),hr.away,?_⟩
  ·have:s'.n=sg.n:=by simp[s',a4,fs]
   rw[this,<-ar];exact hr.env.size
  ·have c5:get ((A1s sg.vars E).1++(sg.fix++A0q sg.ow ((E.drop sg.vars.length).drop ((sg.bl.map (·.2.sgs)).flatten).length))) k=some d:=by simpa only[s',a4,fs]using f
   rcases Aoo _ _ _ _ c5 with h|h
   ·obtain⟨i,s,h1,h2⟩:=z2 k d h;obtain⟨v,h3,h4⟩:=b5 i k s h1;have c6:i<VA.length:=(Zi2.1 h3).1;obtain⟨u,hu,c7⟩:=aj.get h2;rw[List.getElem?_append_left c6,h3]at hu;simp at hu;subst hu;exact⟨v,h4,c7⟩
   rcases Aoo _ _ _ _ h with h|h
   ·obtain⟨h1,d',h2,h3⟩:=Bfz bh ax h;obtain⟨v,h4,h5⟩:=hr.env.get k d' h2;exact⟨v,h4,R4 (x:=vx cx m (fs st) w) (λb hb=>⟨rfl,by simp[vx,a8];exact Bl3 h1 b hb⟩) h3 h5⟩
   ·exact b9 (vx cx m' s' w) _ ⟨rfl,rfl,rfl⟩ (λp hp=>by have:=Zg2.1 ay p hp;simp[vx,a8];simpa using this) ag.split.2 r4 k d h
  ·rw[an,ao,bg];have h0:=hr.frs;have e1:(fs st).lb=sg.lb:=au;have e2:(fs st).lt=sg.lt:=av;rw[e1,e2]at h0;have h1:=(Ab8 (p:=sg.lb) (q:=sg.lt)).1 h0;refine(Ab8 (p:=sg.lb) (q:=sg.lt)).2 (Aiw.later (x:={ vx cx m (fs st) w with nb:=sg.lb,nt:=sg.lt }) ?_ (Zn1 _) (Zn1 _) h1);refine⟨Chg.refl _ _,λb i hi=>.inl (hS b i hi),rfl,λ_ _=>rfl,Zn1 _,Zn1 _,λt ht ha=>?_⟩;have ht:t<sg.lt:=ht;rcases(a9 t ((a5 t).1 ha)).2 with ⟨_,q2,q3⟩|⟨q1,_,_⟩
   ·exact⟨q2.1,q3,λ_ _ _=>rfl⟩
   ·omega
  ·rw[an,a8];exact ae
  ·rw[ao,ap];omega
  ·rw[ai]at f;obtain⟨q1,_,q3⟩:=bu (vx cx m' s' w) ⟨rfl,rfl⟩ (λd hd b hb=>⟨rfl,by simp[vx,a8];exact Auc (Pg ak d hd) b hb⟩) r3 b k f;exact⟨by rw[a8];exact q3,q1⟩
  ·rw[ap];exact(a9 t ((a5 t).1 ht)).1
  ·intro t t' g o o' h1 h2 h3 h4;obtain⟨u,q1,q2,q3⟩:=a7 t g o ((a5 t).1 h1) h3;obtain⟨u',p1,p2,p3⟩:=a7 t' g o' ((a5 t').1 h2) h4;have c8:=hr.injt u u' g o o' q1 p1 q2 p2;subst c8;rcases q3 with ⟨a1,a2⟩|⟨a1,a2,a3⟩<;>rcases p3 with ⟨b1,b2⟩|⟨b1,b2,b3⟩
   ·rw[<-a2,<-b2]
   ·rw[a2]at b2;exact absurd a1.2 b2
   ·rw[b2]at a2;exact absurd b1.2 a2
   ·exact bo t t' u a3 b3
  ·intro b t g o h1 h2 h3;obtain⟨u,q1,q2,_⟩:=a7 t g o ((a5 t).1 h2) h3;exact hr.injbt b u g o (ac b h1) q1 q2
  ·exact⟨λg c xs hx i y hy w' hw=>hr.glb.1 g c xs hx i y hy w' (hw.mono hS),λg l hl=>by obtain⟨r,es,c9,q1,q2⟩:=hr.glb.2.1 g l hl;exact⟨r,es,c9,λw' hw=>q1 w' (hw.mono hS),q2⟩,λg k f=>by obtain⟨n,q1⟩:=hr.glb.2.2 g k f;exact⟨n,λw' hw=>q1 w' (hw.mono hS)⟩⟩
 ·cases hd
end
theorem Tr(n:Nat)(p:Nat->Bool):(Df n p).size=n:=by simp[Df]
variable{i:Nat}
theorem Akg{n:Nat}{p:Nat->Bool}(h:i<n)(d:Bool):(Df n p).getD i d=p i:=by
 have a:i<(Df n p).size:=by rw[Tr];exact h
 rw[Array.getD_eq_getD_getElem?,Zk2 a];simp[Df]
variable{listed:Array Bool}
theorem Bc3{n:Nat}{p:Nat->Bool}(e:listed.size=n)(h:∀i,i<n->listed.getD i true=p i):listed=Df n p:=by
 apply Array.ext_getElem?;intro i;by_cases hi:i<n
 ·have b:=h i hi;have c:(Df n p).getD i true=p i:=Akg hi true;have d:listed[i]? = some (listed[i]'(by omega)):=Zk2 (by omega);have a:i<(Df n p).size:=by rw[Tr];exact hi
  have e2:(Df n p)[i]? = some ((Df n p)[i]'a):=Zk2 a;rw[Array.getD_eq_getD_getElem?,d]at b;rw[Array.getD_eq_getD_getElem?,e2]at c;rw[d,e2];simp at b c;rw[b,c]
 ·rw[Array.getElem?_eq_none (by omega),Array.getElem?_eq_none (by rw[Tr];omega)]
variable{j:Nat}
theorem Jd{n:Nat}{p:Nat->Bool}(b:j<n){q:Nat->Bool}(h:∀i,i<n->q i=(p i||Nat.beq i j)):(Df n p).setIfInBounds j true=Df n q:=by
 refine Bc3 (by rw[Array.size_setIfInBounds,Tr]) λi hi=>?_;rw[h i hi];by_cases a:i=j
 ·simp_all
 ·rw[getD_set_ne true (Ne.symm a),Akg hi,Gw a,Bool.or_false]
theorem B0o{n:Nat}{p:Nat->Bool}{ops:Array Oper}(c:ops.size=n)(h:j∈Region.ready .any ops (Df n p)):j<n/\p j=false:=by
 obtain⟨a,o,d,_⟩:=mem_ready.1 h;have b:j<n:=by rw[<-c];exact(Zh2.1 d).1
 rw[Akg b]at a;exact⟨b,a⟩
variable{K':Act->World->Prop}{P:Program}{Q:Exit->Act->World->Prop}{Q':Exit->Act->World->Prop}{o:Oper}{w:World}
theorem Bs1{K:Act->World->Prop}(d:∀a w,K a w->K' a w)(h:∀e a w,Q e a w->Q' e a w)(b:o.wpIn Fence.wide 0 P a w K Q):o.wpIn Fence.wide 0 P a w K' Q':=by
 unfold Oper.wpIn at *;refine⟨b.1,?_⟩;have b:=b.2;generalize (o.semAt Fence.wide.round a.eval).run P w=r at *;have g:LetsOut Q->LetsOut Q':=λ⟨a,w,i⟩=>⟨a,w,h _ _ _ i⟩;cases r with
 |ok n w'=>
  cases n<;>simp only[Oper.uponIn]at b ⊢ <;>
   first
    |exact d _ _ b
    |exact⟨b.1,CallsIn.mono b.2 (λe f c=>by cases e<;>first|exact d _ _ c|exact g c|exact h _ _ _ c)⟩
    |exact⟨b.1,RowsIn.mono b.2 (λ_ _ c=>d _ _ c)⟩
    |exact⟨b.1,RoundIn.mono b.2 (λe f c=>by cases e<;>first|exact d _ _ c|exact g c|exact h _ _ _ c)⟩
    |exact b
 |halt x w'=>cases x<;>simp only[Oper.uponIn]at b ⊢ <;> first|exact b|exact h _ _ _ b
theorem Bb3{ops:Array Oper}{K:Act->World->Prop}(d:∀a w,K a w->K' a w)(h:∀e a w,Q e a w->Q' e a w)(b:wpOpIn Fence.wide 0 P ops Q i K a w):wpOpIn Fence.wide 0 P ops Q' i K' a w:=by
 unfold wpOpIn at *;split
 ·grind
 ·rename_i o f;simp only[f]at b;split
  ·rename_i c;simp only[c,if_true]at b;exact Bs1 d h b
  ·rename_i c;simp only[c]at b;exact⟨b.1,d _ _ b.2⟩
theorem Ag9{P:Program}{ops:Array Oper}{Q Q':Exit->Act->World->Prop}(h:∀e a w,Q e a w->Q' e a w):∀(fuel:Nat) (listed:Array Bool) (a:Act) (w:World),wpAnyIn Fence.wide 0 P .any ops Q fuel listed a w->wpAnyIn Fence.wide 0 P .any ops Q' fuel listed a w
 |0,_,_,_,hh=>⟨hh.1,h _ _ _ hh.2⟩
 |fuel+1,_,_,_,hh=>⟨λb=>h _ _ _ (hh.1 b),λi hi=>Bb3 (λa' w'=>Ag9 h fuel _ a' w') h (hh.2 i hi)⟩
def Nrm(Q:Exit->Act->World->Prop):Exit->Act->World->Prop:=λe a w=>e = .normal/\Q e a w
variable{w':World}
theorem Bby{ops:Array Oper}{K:Act->World->Prop}{v:Value}(hi:ops[i]? = some o)(b:o.guard=none)(c:(execOp a.eval o).run P w = .ok (.value v) w')(d:K (a.put o.dst v) w'):wpOpIn Fence.wide 0 P ops Q i K a w:=by unfold wpOpIn;simp only[hi,Dy b,if_true];exact Abw.wp (ro:=none) (.inl ⟨v,w',c,d⟩)
theorem Tv{ops:Array Oper}{K:Act->World->Prop}(hi:ops[i]? = some o)(b:o.guard=none)(hd:o.dst=none)(c:(execOp a.eval o).run P w = .ok .skip w')(d:K a w'):wpOpIn Fence.wide 0 P ops Q i K a w:=by unfold wpOpIn;simp only[hi,Dy b,if_true];exact Abw.wp (ro:=none) (.inr (.inl ⟨w',c,by rw[hd];exact d⟩))
theorem Aa7{ops:Array Oper}{l:Yb1 Oper}{v:Value}(b:o.guard=none)(c:(execOp a.eval o).run P w = .ok (.value v) w')(h:wpListIn Fence.wide 0 P ops (Nrm Q) (o::l) a w):wpListIn Fence.wide 0 P ops (Nrm Q) l (a.put o.dst v) w':=by simp only[wpListIn,Dy b,if_true]at h;have h:=h.2;rw[Kb c (λ_=>nofun)]at h;exact h
theorem A5j{ops:Array Oper}{l:Yb1 Oper}(b:o.guard=none)(hd:o.dst=none)(c:(execOp a.eval o).run P w = .ok .skip w')(h:wpListIn Fence.wide 0 P ops (Nrm Q) (o::l) a w):wpListIn Fence.wide 0 P ops (Nrm Q) l a w':=by simp only[wpListIn,Dy b,if_true]at h;have h:=h.2;rw[Kb c (λ_=>nofun)]at h;have h:wpListIn Fence.wide 0 P ops (Nrm Q) l (a.put o.dst undef) w':=h;rw[hd]at h;exact h
variable{u:TypeId}{y:Operand}
theorem Auw{x:Operand}{off:Nat}{v:Value}(f:o.op = .store u x y)(g:a.eval x = .pointer (some ⟨β,off,none⟩))(h:a.eval y=v)(d:Sx.one v=true)(i:Sx.tySz P u=some 1)(j:w.heap[β]? = some (.cells vs.toArray t (0,0)))(l:off<vs.length):(execOp a.eval o).run P w = .ok .skip (Sx.setCells w β off [v]):=by
 have b:v.cells.toList=[v]:=by rw[Sx.one_cells d]
 have c:v.cells.size=1:=by rw[<-Array.length_toList,b];rfl
 obtain⟨k,_,_⟩:=Sx.run_storeCells (P:=P) [v] w β off 0 vs t j (by simp;omega) (λq e=>by simp at e;subst e;exact d);simp[execOp,f,Instr.storeAt,g,h,Instr.sureAddr,storeVar,Sx.run_sizeOf i,c,b];rw[k];simp
variable{cs:Yb1 Value}{g:Nat}
theorem Aq8{off off':Nat}{ds:Yb1 Value}{t':TypeId}{f f':Nat×Nat}(b:w.heap[g]? = some (.cells cs.toArray t f))(hβ:w.heap[β]? = some (.cells ds.toArray t' f'))(a : β≠g):Sx.setCells (Sx.setCells w g off us) β off' vs=Sx.setCells (Sx.setCells w β off' vs) g off us:=by
 rw[Dx us cs w g off b,Dx vs ds w β off' hβ];have c:(w.setRow g (Sx.writeAt cs off us).toArray).heap[β]? = some (.cells ds.toArray t' f'):=by rw[setRow_other w g β _ a];exact hβ
 have d:(w.setRow β (Sx.writeAt ds off' vs).toArray).heap[g]? = some (.cells cs.toArray t f):=by rw[setRow_other w β g _ (Ne.symm a)];exact b
 rw[Dx vs ds _ β off' c,Dx us cs _ g off d];exact A14 w (Ne.symm a) _ _
variable{k:Nat}
theorem Q6{off:Nat}{f:Nat×Nat}(b:w.heap[g]? = some (.cells cs.toArray t f))(a:k≠g):(Sx.setCells w g off us).heap[k]? = w.heap[k]? :=by rw[Dx us cs w g off b,setRow_other w g k _ a]
theorem Kv{a:Nat}{l:Yb1 Nat}(h:dNe a l=true):∀b,b∈l->a≠b:=λb hb e=>by have:=Zg2.1 h b hb;rw[e]at this;simp at this
section
variable {R:Type}{px:Px R}{cx:Cx}
variable{st:St}
theorem Bcb(j:PxOk cx px){x:Operand}{b off:Nat}{t:Tk}{K:St->Ya1 R}{r:R}(m:o.op = .store u x y)(p:ev px st 0 x=some (.ptr b off))(q:ev px st u y=some (.sl c xs t))(hb:(∃ds,blk st.bl b=some (.cells ds))\/∃c y,blk st.bl b=some (.box c y))(h:Abn px o st K=some r) :
  Sx.tySz cx.P u=some 1/\∀(x:Vx) (β:Nat) k,blk st.bl b=some k->Gn x β k->∃(vs:Yb1 Value) (t:TypeId),x.w.heap[β]? = some (.cells vs.toArray t (0,0))/\off<vs.length:=by
 unfold Abn at h;simp[m,p,q]at h;rcases hb with ⟨ds,hb⟩|⟨s,v,hb⟩
 ·simp[hb]at h;split at h
  ·rename_i hc;simp only[Zb1]at hc;obtain⟨⟨⟨a,d⟩,_⟩,e⟩:=hc;have a : 1=(px.tt u).n:=Zl1 a;have d:off+1<=ds.length:=Nat.le_of_ble_eq_true d;refine⟨by rw[(D5 (j.tt u) (E9 e).1).2.2,<-a],λx β k f g=>?_⟩;rw[hb]at f;simp at f;subst f;obtain⟨_,vs,t,i,l⟩:=g;exact⟨vs,t,i,by rw[l.len];omega⟩
  ·cases h
 ·simp[hb]at h;split at h
  ·rename_i hc;simp only[Zb1]at hc;obtain⟨⟨⟨a,d⟩,_⟩,e⟩:=hc;have a : 1=(px.tt u).n:=Zl1 a;have d:off+1<=(enc s v).length:=Nat.le_of_ble_eq_true d;rw[B8]at d;refine⟨by rw[(D5 (j.tt u) (E9 e).1).2.2,<-a],λx β k f g=>?_⟩;rw[hb]at f;simp at f;subst f;obtain⟨_,vs,t,i,l,_⟩:=g;exact⟨vs,t,i,by omega⟩
  ·cases h
theorem Adg{a b:Nat}:Nat.ble a b=decide (a<=b):=by cases h:Nat.ble a b with|true=>exact(Ze1 (Nat.le_of_ble_eq_true h)).symm|false=>exact(Zd1 λe=>by rw[Nat.ble_eq_true_of_le e]at h;cases h).symm
theorem Qr{a b:Nat}:Nat.beq a b=decide (a=b):=by
 by_cases h:a=b
 ·subst h;simp
 ·rw[Gw h,Zd1 h]
theorem B1l{a b:Nat}:Nat.blt a b=decide (a<b):=by cases h:Nat.blt a b with|true=>rw[Nat.blt_eq]at h;exact(Ze1 h).symm|false=>exact(Zd1 λe=>by rw[<-Nat.blt_eq]at e;rw[e]at h;cases h).symm
end
section
variable {R:Type}{px:Px R}{cx:Cx}
theorem Af5{f:Act->Act}:∀c (a:Act) (w:World),Nrm Q (.panic c) (f a) w->Nrm Q (.panic c) a w:=λ_ _ _ h=>by cases h.1
structure Far (cx:Cx) (o:Oper) (u:TypeId) (g:Nat) (wA:World) (β off:Nat) (vs:List Value) (t:TypeId):Prop where
 sz:Sx.tySz cx.P u=some 1
 ne : β≠g
 row:wA.heap[β]? = some (.cells vs.toArray t (0,0))
 lt:off<vs.length
variable{oc:Oper}{os:Oper}
theorem A7i{ops:Array Oper}{iC iS:Nat}{x:Operand}{wA:World}{o1 off:Nat}{t0:TypeId}{v:Value}{f p1 p2 p3:Nat->Bool}(s:ops[iC]? = some oc)(w:ops[iS]? = some os)(a4:iC≠iS)
  (gC:oc.guard=none) (dC:oc.dst=none) (z:os.guard=none) (dS:os.dst=none) (k:os.op = .store u x y) (hx:a.eval x = .pointer (some ⟨β,off,none⟩)) (hy:a.eval y=v) (hv:Sx.one v=true) (c:Far cx os u g wA β off vs t)
  (b:wA.heap[g]? = some (.cells cs.toArray t0 (0,0))) (hc:∀(w':World) (cs':Yb1 Value),w'.heap[g]? = some (.cells cs'.toArray t0 (0,0))->cs'.length=cs.length->(execOp a.eval oc).run cx.P w' = .ok .skip (Sx.setCells w' g o1 us))
  (h0:∀i,i<ops.size->f i=decide (i≠iC/\i≠iS)) (h1:∀i,i<ops.size->p1 i=decide (i≠iS)) (h2:∀i,i<ops.size->p2 i=decide (i≠iC)) (h3:∀i,i<ops.size->p3 i=true)
  (r0:(Region.ready .any ops (Df ops.size f)).contains iC=true) (r1:Region.ready .any ops (Df ops.size p1)=[iS]) (r2:Region.ready .any ops (Df ops.size p2)=[iC]) (r3:Region.ready .any ops (Df ops.size p3)=[])
  (l:wpListIn Fence.wide 0 cx.P ops (Nrm Q) [os] a (Sx.setCells wA g o1 us)) (fuel:Nat):wpAnyIn Fence.wide 0 cx.P .any ops (Nrm Q) (fuel+2) (Df ops.size f) a wA:=by
 have m:iC<ops.size:=(Zh2.1 s).1;have n:iS<ops.size:=(Zh2.1 w).1;have s1:(Df ops.size f).setIfInBounds iC true=Df ops.size p1:=Jd m λi hi=>by rw[h0 i hi,h1 i hi,Qr];rw[<-Bool.decide_or];exact Zy1.2 (by omega)
 have s2:(Df ops.size f).setIfInBounds iS true=Df ops.size p2:=Jd n λi hi=>by rw[h0 i hi,h2 i hi,Qr];rw[<-Bool.decide_or];exact Zy1.2 (by omega)
 have s3:(Df ops.size p1).setIfInBounds iS true=Df ops.size p3:=Jd n λi hi=>by rw[h1 i hi,h3 i hi,Qr];rw[<-Bool.decide_or];exact(Ze1 (by omega)).symm
 have s4:(Df ops.size p2).setIfInBounds iC true=Df ops.size p3:=Jd m λi hi=>by rw[h2 i hi,h3 i hi,Qr];rw[<-Bool.decide_or];exact(Ze1 (by omega)).symm
 have o:(Sx.setCells wA g o1 us).heap[β]? = some (.cells vs.toArray t (0,0)):=by rw[Q6 b c.ne];exact c.row
 have p:(Sx.setCells wA β off [v]).heap[g]? = some (.cells cs.toArray t0 (0,0)):=by rw[Q6 c.row (Ne.symm c.ne)];exact b
 have x2:=Auw (P:=cx.P) k hx hy hv c.sz o c.lt;have xS:=Auw (P:=cx.P) k hx hy hv c.sz c.row c.lt;have d:Nrm Q .normal a (Sx.setCells (Sx.setCells wA g o1 us) β off [v]):=by have:=A5j z dS x2 l;exact this
 refine⟨λh=>(by rw[h]at r0;cases r0),λj hj=>?_⟩;obtain⟨a2,q⟩:=B0o rfl hj;rw[h0 j a2,decide_eq_false_iff_not]at q;by_cases r:j=iC
 ·subst r;refine Tv s gC dC (hc wA cs b rfl) ?_;rw[s1];refine wpAnyIn_all r1 (by simp) λi hi=>?_;simp at hi;subst hi;refine Tv w z dS x2 ?_;rw[s3];exact wpAnyIn_done r3 d fuel
 ·have a3:j=iS:=Decidable.byContradiction λe=>q ⟨r,e⟩;subst a3;refine Tv w z dS xS ?_;rw[s2];refine wpAnyIn_all r2 (by simp) λi hi=>?_;simp at hi;subst hi;refine Tv s gC dC (hc _ cs p rfl) ?_;rw[s4,<-Aq8 b c.row c.ne];exact wpAnyIn_done r3 d fuel
variable{as_:Yb1 Act}{m:Mp}{ob:Oper}{st:St}{st2:St}
theorem Aty{ops:Array Oper}{e:Nat}{s:Bool}(p:ops[e]? = some o)(q:ops[e+1]? = some ob)(t:Rel cx m a as_ (fs st) w)(f:Fuse cx o ob oc st st2 m a as_ w)(r:M2 ops e s=true)(fuel:Nat)
  (h:wpAnyIn Fence.wide 0 cx.P .any ops (Nrm Q) fuel (Df ops.size λi=>Nat.ble i (e+1)) ((a.put (some f.d) f.v7).put (some f.d2) f.vp) f.wA):wpAnyIn Fence.wide 0 cx.P .any ops (Nrm Q) (fuel+2) (Df ops.size λi=>Nat.blt i e) a w:=by
 simp only[M2,Zb1]at r;obtain⟨⟨⟨⟨⟨⟨u,_⟩,b⟩,c⟩,g⟩,_⟩,_⟩:=r;have b:Region.ready .any ops (Df ops.size λi=>Nat.blt i e)=[e]:=by simpa using b
 have j:e<ops.size:=(Zh2.1 p).1;have k:e+1<ops.size:=(Zh2.1 q).1;have x:(Df ops.size λi=>Nat.blt i e).setIfInBounds e true=Df ops.size λi=>Nat.ble i e:=Jd j λi hi=>by rw[Adg,B1l,Qr];rw[<-Bool.decide_or];exact Zy1.2 (by omega)
 have y:(Df ops.size λi=>Nat.ble i e).setIfInBounds (e+1) true=Df ops.size λi=>Nat.ble i (e+1):=Jd k λi hi=>by rw[Adg,Adg,Qr];rw[<-Bool.decide_or];exact Zy1.2 (by omega)
 have l:a.tmps.size=st.n:=t.env.size;have hd:f.d<a.tmps.size:=by rw[l];exact f.lt
 refine wpAnyIn_all b (by simp) λi hi=>?_;simp at hi;subst hi;refine Bby p f.gd f.run ?_;rw[f.dst,x];refine wpAnyIn_take rfl (v:=f.vp) q u g c (Af5 (f:=λa=>a.put ob.dst f.vp)) ⟨.inl ⟨Dy f.gd2 _,λw'=>f.run2 _ w' (G8 hd) (Dm f.nei)⟩,λ_=>by simp[Oper.about,f.op2]⟩ ?_;rw[y,f.dst2];exact h
variable{oa:Oper}
theorem B46{ops:Array Oper}{e:Nat}(hA:ops[e]? = some oa)(hB:ops[e+1]? = some ob)(hC:ops[e+2]? = some oc)(hS:ops[e+3]? = some os)(hr:Rel cx m a as_ (fs st) w)(f:Fuse cx oa ob oc st st2 m a as_ w)(p:M2 ops e false=true)
  {off:Nat}(q:os.op = .store u (.tmp k) (.tmp f.d)) (gS:os.guard=none) (dS:os.dst=none) (r:k≠f.d) (s:k≠f.d2) (hx:a.eval (.tmp k) = .pointer (some ⟨β,off,none⟩)) (hF:Far cx os u f.g f.wA β off vs t)
  (j:wpListIn Fence.wide 0 cx.P ops (Nrm Q) [os] ((a.put (some f.d) f.v7).put (some f.d2) f.vp) (Sx.setCells f.wA f.g f.off f.us)) (fuel:Nat):wpAnyIn Fence.wide 0 cx.P .any ops (Nrm Q) (fuel+4) (Df ops.size λi=>Nat.blt i e) a w:=by
 refine Aty hA hB hr f p (fuel+2) ?_;have a4:=p;simp only[M2,Zb1]at p;obtain⟨⟨⟨⟨⟨⟨hs,_⟩,_⟩,_⟩,_⟩,l⟩,⟨⟨hn,y⟩,z⟩,a2⟩:=p;have hn:ops.size=e+4:=Zl1 hn;have o:a.tmps.size=st.n:=hr.env.size;have hd:f.d<a.tmps.size:=by rw[o];exact f.lt
 have a3:f.d2<(a.put (some f.d) f.v7).tmps.size:=by simp[Act.put,o];exact f.lt2
 have c:∀{x b:Nat},x≠b->Nj (.tmp x) b=true:=λh=>by simp[Nj,Gw h]
 refine A7i (iC:=e+2) (iS:=e+3) (p1:=λi=>Nat.ble i (e+2)) (p2:=λi=>Nat.ble i (e+1)||Nat.beq i (e+3)) (p3:=λ_=>true) (v:=f.v7) hC hS (by omega) f.gd3 f.dst3 gS dS q ?_ ?_ f.one hF f.row (λw' cs' h1 h2=>f.run3 _ w' cs' (G8 a3) ((Dm f.ney2).trans (Dm f.ney)) h1 h2)
  (λi hi=>?_) (λi hi=>?_) (λi hi=>?_) (λ_ _=>rfl) y (by simpa using z) (by simpa using a2) (by simpa using l) j fuel
 ·rw[Dm (c s),Dm (c r)];exact hx
 ·rw[Dm (c f.ne)];exact G8 hd
 ·rw[Adg];exact Zy1.2 (by omega)
 ·rw[Adg];exact Zy1.2 (by omega)
 ·rw[Adg,Qr,<-Bool.decide_or];exact Zy1.2 (by omega)
theorem B5d(hp:PxOk cx px){ops:Array Oper}{e:Nat}{on of:Oper}(hA:ops[e]? = some oa)(hB:ops[e+1]? = some ob)(hC:ops[e+2]? = some oc)(hN:ops[e+3]? = some on)(hO:ops[e+4]? = some of)(hS:ops[e+5]? = some os)(hr:Rel cx m a as_ (fs st) w)(f:Fuse cx oa ob oc st st2 m a as_ w)(hE:M2 ops e true=true)
  {s0:TypeId}{dn df fi fo off:Nat}{fu:Ty}(r:on.op = .nilCheck (.tmp k)) (z:of.op = .fieldAddr s0 (.tmp dn) fi) (a7:os.op = .store u (.tmp df) (.tmp f.d)) (gN:on.guard=none) (gF:of.guard=none) (gS:os.guard=none) (dN:on.dst=some dn) (dF:of.dst=some df) (dS:os.dst=none)
  (hk:dNe k [f.d,f.d2,dn,df]=true) (j:dNe dn [f.d,f.d2,df]=true) (q:dNe df [f.d,f.d2]=true) (a8:Nj f.y dn=true) (a9:Nj f.y df=true) (a2:dn<st.n) (a3:df<st.n) (aa:Ayp px s0 fi=some (fo,fu)) (hx:a.eval (.tmp k) = .pointer (some ⟨β,off,none⟩)) (hF:Far cx os u f.g f.wA β (off+fo) vs t)
  (a4:wpListIn Fence.wide 0 cx.P ops (Nrm Q) [on,of,os] ((a.put (some f.d) f.v7).put (some f.d2) f.vp) (Sx.setCells f.wA f.g f.off f.us)) (fuel:Nat):wpAnyIn Fence.wide 0 cx.P .any ops (Nrm Q) (fuel+6) (Df ops.size λi=>Nat.blt i e) a w:=by
 refine Aty hA hB hr f hE (fuel+4) ?_;have au:=hE;simp only[M2,Zb1]at hE;obtain⟨⟨⟨⟨⟨⟨hs,_⟩,_⟩,_⟩,_⟩,a5⟩,⟨⟨⟨⟨⟨⟨hn,ab⟩,ac⟩,ae⟩,ag⟩,ah⟩,ai⟩,aj⟩:=hE;have hn:ops.size=e+6:=Zl1 hn;have l:a.tmps.size=st.n:=hr.env.size;have hd:f.d<a.tmps.size:=by rw[l];exact f.lt
 have ak:f.d2<(a.put (some f.d) f.v7).tmps.size:=by simp[Act.put,l];exact f.lt2
 have c:∀{x b:Nat},x≠b->Nj (.tmp x) b=true:=λh=>by simp[Nj,Gw h]
 have hk:=Kv hk;have j:=Kv j;have q:=Kv q;have k1:k≠f.d:=hk _ (by simp);have k2:k≠f.d2:=hk _ (by simp);have n1:dn≠f.d:=j _ (by simp);have n2:dn≠f.d2:=j _ (by simp);have n3:dn≠df:=j _ (by simp);have m1:df≠f.d:=q _ (by simp);have m2:df≠f.d2:=q _ (by simp);have am:((a.put (some f.d) f.v7).put (some f.d2) f.vp).eval (.tmp k) = .pointer (some ⟨β,off,none⟩):=by rw[Dm (c k2),Dm (c k1)];exact hx
 have xN:∀w',(execOp ((a.put (some f.d) f.v7).put (some f.d2) f.vp).eval on).run cx.P w' = .ok (.value (.pointer (some ⟨β,off,none⟩))) w':=λw'=>by simp[execOp,r,am]
 have ar:dn<((a.put (some f.d) f.v7).put (some f.d2) f.vp).tmps.size:=by simp[Act.put,l];exact a2
 have a6:df<(((a.put (some f.d) f.v7).put (some f.d2) f.vp).put (some dn) (.pointer (some ⟨β,off,none⟩))).tmps.size:=by simp[Act.put,l];exact a3
 obtain⟨_,_,_,_,_,_,_,_,_,_,an⟩:=Ml hp aa;have xF:∀w',(execOp (((a.put (some f.d) f.v7).put (some f.d2) f.vp).put (some dn) (.pointer (some ⟨β,off,none⟩))).eval of).run cx.P w' = .ok (.value (.pointer (some ⟨β,off+fo,none⟩))) w':=λw'=>by have h1:Sx.Env.ev (Azn (((a.put (some f.d) f.v7).put (some f.d2) f.vp).put (some dn) (.pointer (some ⟨β,off,none⟩)))) (.tmp dn)=some (.pointer (some ⟨β,off,none⟩)):=A6x (by simp[Act.put,show dn<a.tmps.size by rw[l];exact a2]);have o:=Sx.p_fa (P:=cx.P) (s:=s0) (f:=fi) (by simpa using an) h1;rw[<-z]at o;exact o _ ⟨(((a.put (some f.d) f.v7).put (some f.d2) f.vp).put (some dn) (.pointer (some ⟨β,off,none⟩))).tmps,[]⟩ w' of (Ax7 (a:=⟨(((a.put (some f.d) f.v7).put (some f.d2) f.vp).put (some dn) (.pointer (some ⟨β,off,none⟩))).tmps,[]⟩) rfl) rfl
 have p:=Aa7 gF (xF _) (by have:=Aa7 gN (xN _) a4;rw[dN]at this;exact this)
 rw[dF]at p;have ao:e+3<ops.size:=by omega
 have ap:e+4<ops.size:=by omega
 have s1:(Df ops.size λi=>Nat.ble i (e+1)).setIfInBounds (e+3) true=Df ops.size λi=>Nat.ble i (e+1)||Nat.beq i (e+3):=Jd ao λi _=>rfl;have s2:(Df ops.size λi=>Nat.ble i (e+1)||Nat.beq i (e+3)).setIfInBounds (e+4) true=Df ops.size λi=>Nat.ble i (e+1)||Nat.beq i (e+3)||Nat.beq i (e+4):=Jd ap λi _=>rfl;refine wpAnyIn_take rfl (v:=.pointer (some ⟨β,off,none⟩)) hN hs ac ab (Af5 (f:=λa=>a.put on.dst _)) ⟨.inl ⟨Dy gN _,xN⟩,λ_=>by simp[Oper.about,r]⟩ ?_;rw[s1,dN];refine wpAnyIn_take rfl (v:=.pointer (some ⟨β,off+fo,none⟩)) hO hs ag ae (Af5 (f:=λa=>a.put of.dst _)) ⟨.inl ⟨Dy gF _,xF⟩,λ_=>by simp[Oper.about,z]⟩ ?_;rw[s2,dF];refine A7i (iC:=e+2) (iS:=e+5) (p1:=λi=>Nat.ble i (e+4)) (p2:=λi=>Nat.ble i (e+1)||Nat.beq i (e+3)||Nat.beq i (e+4)||Nat.beq i (e+5)) (p3:=λ_=>true) (v:=f.v7) hC hS (by omega) f.gd3 f.dst3 gS dS a7 (G8 a6) ?_ f.one hF f.row (λw' cs' h1 h2=>f.run3 _ w' cs' ?_ ?_ h1 h2)
  (λi hi=>?_) (λi hi=>?_) (λi hi=>?_) (λ_ _=>rfl) ah (by simpa using ai) (by simpa using aj) (by simpa using a5) p fuel
 ·rw[Dm (c (Ne.symm m1)),Dm (c (Ne.symm n1)),Dm (c f.ne)];exact G8 hd
 ·rw[Dm (c (Ne.symm m2)),Dm (c (Ne.symm n2))];exact G8 ak
 ·rw[Dm a9,Dm a8];exact(Dm f.ney2).trans (Dm f.ney)
 ·rw[Adg,Qr,Qr,<-Bool.decide_or,<-Bool.decide_or];exact Zy1.2 (by omega)
 ·rw[Adg];exact Zy1.2 (by omega)
 ·rw[Adg,Qr,Qr,Qr,<-Bool.decide_or,<-Bool.decide_or,<-Bool.decide_or];exact Zy1.2 (by omega)
end
theorem Py{ops:Array Oper}(h:ops[j]? = some o):ops.toList.drop j=o::ops.toList.drop (j+1):=by
 have a:j<ops.toList.length:=by simpa using (Zh2.1 h).1
 rw[List.drop_eq_getElem_cons a]
 grind
theorem Ag1{ops:Array Oper}{e:Nat}{a:Bool}(h:S4 ops=some (e,a)):Bf7 ops e a=true/\M2 ops e a=true:=by
 unfold S4 at h;split at h
 ·rename_i hc;obtain⟨rfl,rfl⟩:=h;simp[Bem]at hc;exact hc.2
 ·split at h
  ·rename_i hc;obtain⟨rfl,rfl⟩:=h;simp[Bem]at hc;exact hc.2
  ·cases h
theorem A72{ops:Array Oper}{e:Nat}{c:Bool}(h:M2 ops e c=true){b:Oper}(g:e<=j)(d:ops[j]? = some b)(i:q<e):Gm ops 12 b q=true:=by
 simp only[M2,Zb1]at h;obtain⟨⟨⟨⟨⟨⟨_,f⟩,_⟩,_⟩,_⟩,_⟩,_⟩:=h;have a:=Zg2.1 f j (List.mem_range.2 (Zh2.1 d).1);simp only[Zd2]at a;rcases a with a|a
 ·rw[Nat.blt_eq]at a;omega
 ·grind
theorem Aqw{ops:Array Oper}{e:Nat}{a:Bool}(h:M2 ops e a=true):ops.size=e+(match a with|true=>6|false=>4):=by
 cases a with
 |true=>
  simp only[M2,Zb1]at h
  simp_all
 |false=>
  simp only[M2,Zb1]at h
  simp_all
theorem Yo(ops:Array Oper):G9 ops<=ops.size/\∀j a,G9 ops<=j->ops[j]? = some a->∀q,q<G9 ops->Gm ops 12 a q=true:=by
 unfold G9;split
 ·grind
 ·split
  ·rename_i p g;obtain⟨e,h⟩:=p;obtain⟨_,f⟩:=Ag1 g;refine⟨by have:=Aqw f;omega,λj a b c q d=>A72 f b c d⟩
  ·exact⟨Aid _ _,λj a b c q d=>I6 _ j a b (Zh2.1 c).1 c q (Zx1 d b)⟩
section
variable {R:Type}{px:Px R}{cx:Cx}
theorem Aud{ops:Array Oper}{p:Oper->Bool}(h:ops.toList.all p=true)(e:Nat):(ops.toList.drop e).all p=true:=Zg2.2 λo a=>Zg2.1 h o (List.mem_of_mem_drop a)
theorem A2x{ops:Array Oper}{n:Nat}(h:(ops.toList.all λo=>opB o&&Aq7 n o)=true)(e:Nat):((ops.toList.drop e).all λo=>opB o&&Aq7 n o)=true:=Zg2.2 λo a=>Zg2.1 h o (List.mem_of_mem_drop a)
theorem Bna{n e fuel:Nat}(a:n=e+k)(c:∀i,i<n->listed.getD i true=decide (i<e))(b:((List.range n).filter λj=> !listed.getD j true).length<=fuel):k<=fuel:=by
 subst a;refine Nat.le_trans ?_ b;rw[List.range_eq_range',show List.range' 0 (e+k)=List.range' 0 e++List.range' (0+1*e) k from(List.range'_append (s:=0) (m:=e) (n:=k) (step:=1)).symm,List.filter_append,Zh1];have:((List.range' (0+1*e) k).filter λj=> !listed.getD j true)=List.range' (0+1*e) k:=List.filter_eq_self.2 λj d=>by grind
 grind
variable{st:St}
theorem Aig{x:Operand}{K:St->Ya1 R}(a:o.op = .store t x y):Bgz px o st K=Abn px o st K:=by unfold Bgz;rw[a]
theorem Bhd{x:Operand}{K:St->Ya1 R}{r:R}{all:Array Oper}(a:o.op = .store t x y)(b:o.guard=none)(hd:o.dst=none)(h:ops px all [o] st K=some r):Abn px o st K=some r:=by simp[ops,opG,b,one,hd,Aig a]at h;exact h
theorem Bt0{x:Operand}{b off:Nat}{K:D->St->Ya1 R}(a:o.op = .nilCheck x)(c:ev px st 0 x=some (.ptr b off)):step px o st K=K (.ptr b off) st:=by unfold step;rw[a];unfold W5;rw[a];simp[c]
theorem Bx7{s f:Nat}{x:Operand}{b off:Nat}{K:D->St->Ya1 R}(a:o.op = .fieldAddr s x f)(c:ev px st 0 x=some (.ptr b off)):step px o st K=match Ayp px s f with
  |some (fo,_)=>K (.ptr b (off+fo)) st
  |none=>none:=by
 unfold step;rw[a];unfold W5
 grind
variable{as_:Yb1 Act}{m:Mp}{ro:Ya1 Nat}
theorem Bqp(hp:PxOk cx px)(hc:C6 cx px){all:Array Oper}(he:∀j oj,all[j]? = some oj->∀e∈oj.after,Region.binds .any e=true->e.on<j){K:St->Ya1 R}{r:R}(hb:(all.toList.all λo=>opB o&&Aq7 st.n o)=true)(av:(all.toList.all λo=>Ais ro o)=true)(b7:ro=none\/S4 all=none)(a5:Azb px all st=true)(h:ops px all (all.toList.drop (G9 all)) st K=some r)
  (hr:Rel cx m a as_ (fs st) w) (hQ:∀st' m' a' w',K st' = some r->(st'.n=st.n/\st'.fr=st.fr)->Rel cx m' a' as_ (fs st') w'->Q .normal a' w') :
  ∀(fuel:Nat) (listed:Array Bool),listed.size=all.size->(∀i,i<all.size->listed.getD i true=decide (i<G9 all))->((List.range all.size).filter λj=> !listed.getD j true).length<=fuel->wpAnyIn (FW ro) 0 cx.P .any all Q fuel listed a w:=by
 intro fuel listed hs hl z;have ah:(∀j oj,G9 all<=j->all[j]? = some oj->∀q,q<j->Gm all 12 oj q=true)->wpAnyIn (FW ro) 0 cx.P .any all Q fuel listed a w:=λht=>A6c he fuel (G9 all) listed a w ((Yo all).1) ht hs hl z (Va hp hc (A2x hb _) (Aud av _) h hr hQ)
 cases h0:Nat.beq (Gl all all.size) 0 with
 |true=>refine ah λj oj _ ho q hq=>I6 all.size j oj (by rw[Zl1 h0];exact Nat.zero_le _) (Zh2.1 ho).1 ho q hq
 |false=>
  cases hF:S4 all with
  |none=>
   have hd:G9 all=Gl all all.size:=by simp[G9,h0,hF]
   exact ah λj oj hj ho q hq=>I6 all.size j oj (by rw[<-hd];exact hj) (Zh2.1 ho).1 ho q hq
  |some p=>
   obtain rfl:ro=none:=b7.resolve_right (by rw[hF];simp);obtain⟨e,q3⟩:=p;obtain⟨s,hE⟩:=Ag1 hF;have ab:=Aqw hE;have hd:G9 all=e:=by simp[G9,h0,hF]
   rw[hd]at h hl;simp[Azb,h0,hF]at a5;split at a5
   ·rename_i k oa ob oc hk hA hB hC;simp at a5;obtain⟨aw,a3⟩:=a5;rw[Py hA,Py hB,Py hC]at h;simp[ops]at h;cases h3:Amc px oa ob oc st with
    |none=>rw[h3]at aw;cases aw
    |some p3=>
     obtain⟨c,st2⟩:=p3;rw[h3]at h;obtain⟨ax,l⟩:=A2 h;simp only at ax l;subst ax;obtain⟨f⟩:=A3e hp h3 hr;have aj:listed=Df all.size λi=>Nat.blt i e:=Bc3 hs λi hi=>by rw[hl i hi,B1l]
     have ay:∃b off,get st.env k=some (.ptr b off)/\((∃ds,blk st.bl b=some (.cells ds))\/∃c y,blk st.bl b=some (.box c y)):=by
      split at a3
      ·rename_i b off b9;refine⟨b,off,b9,?_⟩;split at a3
       ·rename_i ds ba;exact .inl ⟨ds,ba⟩
       ·rename_i c y bb;exact .inr ⟨c,y,bb⟩
       ·cases a3
      ·cases a3
     obtain⟨b,off,ak,am⟩:=ay;have an:blk st.bl b≠none:=by rcases am with ⟨_,h⟩|⟨_,_,h⟩<;>rw[h]<;>simp
     obtain⟨vk,bc,az⟩:=hr.env.get k _ ak;simp[Rep]at az;obtain⟨_,rfl⟩:=az;have b0:a.eval (.tmp k) = .pointer (some ⟨m.bl b,off,none⟩):=by simp[Act.eval,bc];rfl
     have a4:=Va (ro:=none) hp hc (all:=all) (Q:=Nrm Q) (by rw[f.n.1];exact A2x hb _) (Aud av _) l f.rel (λst' m' a' w' k1 k2 k3=>⟨rfl,hQ st' m' a' w' k1 ⟨k2.1.trans f.n.1,k2.2.trans f.n.2⟩ k3⟩);have ai:∀{o:Oper}{u:TypeId}{a6:Nat},(Sx.tySz cx.P u=some 1/\∀(x:Vx) (β:Nat) k,blk st.bl b=some k->Gn x β k->∃(vs:Yb1 Value) (t:TypeId),x.w.heap[β]? = some (.cells vs.toArray t (0,0))/\a6<vs.length)->∃vs t,Far cx o u f.g f.wA (m.bl b) a6 vs t:=λ{o u a6} hh=>by cases hK:blk st.bl b with|none=>exact absurd hK an|some kb=>obtain⟨_,bd⟩:=hr.blks b kb hK;obtain⟨vs,t,q1,q2⟩:=hh.2 _ _ kb hK bd;have a2:=f.far b an;exact⟨vs,t,hh.1,a2,by rw[f.rest _ (hr.own_b an) a2];exact q1,q2⟩
     refine Ag9 (Q:=Nrm Q) (λ_ _ _ hq=>hq.2) fuel listed a w ?_;rw[aj];cases q3 with
     |false=>
      simp[Bf7,hA,hB,hC,f.op2,f.op3,f.dst,f.dst2,f.dst3]at s;have s:=s.2;simp only at ab;have ao:∃n,fuel=n+4:=⟨fuel-4,by have:=Bna (k:=4) ab hl z;omega⟩;obtain⟨fu,rfl⟩:=ao;cases a7:all[e+3]? with
      |none=>simp only[a7]at s;cases s
      |some os=>
       simp[a7]at s;split at s
       ·rename_i u k' q ac dS;simp only[Zb1,Option.isNone_iff_eq_none]at s;obtain⟨⟨gS,hq⟩,a2⟩:=s;obtain rfl:=Zl1 hq;have ap:k' = k:=by simp[Bnn,a7,ac]at hk;exact hk
        subst ap;have a2:=Kv a2;have h1:k'≠f.d:=a2 _ (by simp);have h2:k'≠f.d2:=a2 _ (by simp);have a8:all.toList.drop (e+3+1)=[]:=Zk1 (by simp;omega);rw[Py a7,a8]at l a4;obtain⟨c7,b1,t7,h7⟩:=f.env7;obtain⟨vs,t,hF⟩:=ai (o:=os) (Bcb (st:=st2) hp ac ((f.envk k' h1 h2).trans ak) h7 (by rw[f.bl];exact am) (Bhd ac gS dS l)|> λhh=>⟨hh.1,by have:=hh.2;rw[f.bl]at this;exact this⟩);exact B46 hA hB hC a7 hr f hE ac gS dS h1 h2 b0 hF a4 fu
       ·cases s
     |true=>
      simp[Bf7,hA,hB,hC,f.op2,f.op3,f.dst,f.dst2,f.dst3]at s;have s:=s.2;simp only at ab;have ao:∃n,fuel=n+6:=⟨fuel-6,by have:=Bna (k:=6) ab hl z;omega⟩;obtain⟨fu,rfl⟩:=ao;split at s
      ·rename_i on of os ar b2 b3;split at s
       ·rename_i k' s0 f1 fi u p q dn df v a9 aa dN dF dS;simp only[Zb1,Option.isNone_iff_eq_none]at s;obtain⟨⟨⟨⟨⟨⟨⟨⟨⟨⟨gN,gF⟩,gS⟩,q1⟩,q2⟩,be⟩,n1⟩,n2⟩,n3⟩,n4⟩,n5⟩:=s;obtain rfl:=Zl1 q1;obtain rfl:=Zl1 q2;obtain rfl:=Zl1 be;have ap:k' = k:=by simp[Bnn,ar,v]at hk;exact hk
        subst ap;have e1:=Kv n1;have h1:k'≠f.d:=e1 _ (by simp);have h2:k'≠f.d2:=e1 _ (by simp);have e2:=Kv n2;have m1:f1≠f.d:=e2 _ (by simp);have m3:f1≠p:=e2 _ (by simp);have l1:p≠f.d:=(Kv n3) _ (by simp);have a8:all.toList.drop (e+5+1)=[]:=Zk1 (by simp;omega);rw[Py ar,Py b2,Py b3,a8]at l a4;have b5:get st2.env k' = some (.ptr b off):=(f.envk k' h1 h2).trans ak;have bf:Amc px on of os st2=none:=by simp[Amc,v]
        simp[ops,bf]at l;simp[opG,gN,one,dN,Buo,v]at l;split at l
        ·rename_i ae;rw[Bt0 v (show ev px st2 0 (.tmp k')=some (.ptr b off) from b5)]at l;simp[gF,dF,Buo,a9]at l;split at l
         ·rename_i ag;have bg:get ((St.put st2 f1 (.ptr b off)).env) f1=some (.ptr b off):=by simp[St.put,Bl]
          rw[Bx7 a9 (show ev px (st2.put f1 (.ptr b off)) 0 (.tmp f1)=some (.ptr b off) from bg)]at l;cases au:Ayp px s0 fi with
          |none=>rw[au]at l;cases l
          |some pf=>
           obtain⟨fo,bj⟩:=pf;rw[au]at l;simp[gS,dS,Aig aa]at l;obtain⟨c7,b1,t7,h7⟩:=f.env7;have bh:ev px ((st2.put f1 (.ptr b off)).put p (.ptr b (off+fo))) 0 (.tmp p)=some (.ptr b (off+fo)):=by simp[ev,St.put,Bl]
           have bi:ev px ((st2.put f1 (.ptr b off)).put p (.ptr b (off+fo))) u (.tmp f.d)=some (.sl c7 b1 t7):=by simp[ev,St.put,Bl,if_neg (Ne.symm l1),if_neg (Ne.symm m1)];exact h7
           have b6:=Bcb (st:=(st2.put f1 (.ptr b off)).put p (.ptr b (off+fo))) hp aa bh bi (by show(∃ds,blk st2.bl b=some (.cells ds))\/∃c y,blk st2.bl b=some (.box c y);rw[f.bl];exact am) l;obtain⟨vs,t,hF⟩:=ai (o:=os) ⟨b6.1,by have:=b6.2;have e9:((st2.put f1 (.ptr b off)).put p (.ptr b (off+fo))).bl=st.bl:=f.bl;rw[e9]at this;exact this⟩
           have ae:f1<st2.n:=by simpa using ae
           have ag:p<st2.n:=by simpa[ St.put]using ag
           rw[f.n.1]at ae ag;exact B5d hp hA hB hC ar b2 b3 hr f hE v a9 aa gN gF gS dN dF dS n1 n2 n3 n4 n5 ae ag au b0 hF a4 fu
         ·cases l
        ·cases l
       ·cases s
      ·cases s
   ·cases a5
end
def Pi:Ex->Exit|.normal=>.normal|.exit id=>.exit id|.ret=>.ret
section
variable {R:Type}{px:Px R}{cx:Cx}
variable{o':Obj}
theorem Chg.putObj{S:Fp}{l:Nat}{o:Obj}(g:∀i,S l i)(h:w.heap[l]? = some o)(j:∀cs t f,o ≠ .cells cs t f):Chg S w (w.putObj l o'):=by
 have c:∀(b:Nat) (cs:Array Value) (t:TypeId) (f:Nat×Nat),w.heap[b]? = some (.cells cs t f)->b≠l:=λb cs t f hb e=>by subst e;rw[h]at hb;simp at hb;exact j cs t f hb
 refine⟨rfl,rfl,rfl,by simp,λk m d=>World.putObj_heap_other λe=>?_,λb i v hv d=>?_,λb cs t f hb=>⟨cs,f,?_,rfl⟩⟩
 ·exact d 0 (by rw[e];exact g 0)
 ·have hb:b≠l:=λe=>d (by rw[e];exact g i);rw[World.cell?_of_block (a:=⟨b,i,none⟩) (World.putObj_heap_other hb)];exact hv
 ·rw[World.putObj_heap_other (c b cs t f hb)];exact hb
variable{as_:Yb1 Act}{m:Mp}{st:St}
theorem Rel.served(h:Rel cx m a as_ (fs st) w){b:Nat}{k:Blk}{o:Obj}(hb:blk st.bl b=some k)(d:w.heap[m.bl b]? = some o)(hc:∀cs t f,o ≠ .cells cs t f):Rel cx m a as_ (fs { st with bl:=Du st.bl b (.ob 2) }) (w.putObj (m.bl b) o'):=by
 have g:=h.write (k:=.ob 2) (b:=b) hb (w':=w.putObj (m.bl b) o') (Chg.putObj (λ_=>rfl) d hc) (λx' _ _=>(λe=>nomatch e));have e:fs { st with bl:=Du st.bl b (.ob 2) }={ fs st with bl:=λc=>if c=b then some (.ob 2)else(fs st).bl c }:=by refine FS.eq rfl rfl rfl rfl rfl ?_ rfl rfl rfl;funext c;simp[fs,E7,hb]
 rw[e];exact g
theorem Rel.pushB(h:Rel cx m a as_ (fs st) w){k:Blk}{o:Obj}(f:∀x',Nx (vx cx m (fs st) w) x'->x'.w=w.alloc o->Gn x' w.heap.size k):∃m',Rel cx m' a as_ (fs { st with bl:=(st.nb,k)::st.bl,nb:=st.nb+1 }) (w.alloc o)/\m'.bl st.nb=w.heap.size/\Nx (vx cx m (fs st) w) (vx cx m' (fs { st with bl:=(st.nb,k)::st.bl,nb:=st.nb+1 }) (w.alloc o)):=by
 obtain⟨m',i,d,c⟩:=h.newAtX (k:=k) (g:=w.heap.size) (w':=w.alloc o) (Chg.alloc _ _ _) (Zn1 _) (by simp) f;have e:fs { st with bl:=(st.nb,k)::st.bl,nb:=st.nb+1 }={ fs st with bl:=λb=>if b=(fs st).nb then some k else(fs st).bl b,nb:=(fs st).nb+1 }:=by refine FS.eq rfl rfl rfl rfl rfl ?_ rfl rfl rfl;funext b;exact Az st.bl st.nb b _
 rw[e];refine⟨m',i,?_,c⟩;simp only[Rep]at d;have c:=d.2;simp at c;exact c.symm
theorem A7d(hc:C6 cx px){g:Operand}{ps:Array Tmp}{asg:Code}{K:Ex->St->Ya1 R}{r:R}(h:Hi px (.rangeFunc g ps asg body) st K=some r)(hr:Rel cx m a as_ (fs st) w)(hQ:∀e st' m' a' w',K e st' = some r->(st'.n=st.n/\st'.fr=st.fr)->Rel cx m' a' as_ (fs st') w'->Q (Pi e) a' w'):(Code.rangeFunc g ps asg body).wp cx.P Q a w:=by
 simp only[Hi]at h;split at h
 ·rename_i f caps he;obtain⟨a8,z⟩:=hc f _ _ _ r h;rw[Ay]at he;obtain⟨v,_,hv,u⟩:=hr.env.ev (env:=get st.env) he;simp only[Rep]at u;obtain⟨t,rfl,a2⟩:=u;refine wpIn_wide.1 (wpIn_rangeFunc (F:=Fence.wide) (n:=0) λfn _=>?_);obtain⟨m1,a3,e1,aa⟩:=hr.pushB (k:=.ob 0) (o:=.deferred (some [])) (λx' _ hw _=>by rw[hw];exact World.alloc_heap_new w _);obtain⟨m2,i,e2,a4⟩:=a3.pushB (k:=.lr 0 st.n ps.toList asg body st.env) (o:=.loop { state:=.ready,pending:=none,fn,tmps:=a.tmps,params:=ps,assign:=asg,body,defers:=w.heap.size }) (λx' hx hw=>⟨_,by rw[hw];exact World.alloc_heap_new _ _,by simp,rfl,rfl,(EnvR.mk (x:=vx cx m1 (fs { st with bl:=(st.nb,.ob 0)::st.bl,nb:=st.nb+1 }) (w.alloc (.deferred (some [])))) (n:=st.n) (df:=[]) (env:=get st.env) (a:={ tmps:=a.tmps,defers:=[] }) rfl a3.env.size a3.env.get).later hx,λ_=>⟨rfl,rfl⟩⟩);obtain⟨W1,a9⟩:∃W1,(w.alloc (.deferred (some []))).alloc (.loop { state:=.ready,pending:=none,fn,tmps:=a.tmps,params:=ps,assign:=asg,body,defers:=w.heap.size })=W1:=⟨_,rfl⟩;rw[a9]at i a4;have e3:m2.bl st.nb=w.heap.size:=(a4.bl st.nb (Nat.lt_succ_self _)).trans e1;have e4:m2.bl (st.nb+1)=w.heap.size+1:=e2.trans (by simp);have ab:Rel cx m2 { a with defers:={ target:=.collected w.heap.size,args:= #[] }::a.defers } as_ (fs { st with bl:=(st.nb+1,.lr 0 st.n ps.toList asg body st.env)::(st.nb,.ob 0)::st.bl,nb:=st.nb+2,df:=.ptr st.nb (st.nb+1)::st.df }) W1:=⟨i.chg,⟨⟨_,_,rfl,⟨Nat.lt_succ_of_lt (Nat.lt_succ_self _),Nat.lt_succ_self _,e4.trans (congrArg (·+1) e3.symm),by rw[<-e3];rfl⟩,i.env.defers⟩,i.env.size,i.env.get⟩,i.frs,i.lb,i.lt,i.blks,i.als,i.inj,i.injt,i.injbt,i.own,i.away,i.glb⟩
  have a5:Reps (vx cx m2 (fs { st with bl:=(st.nb+1,.lr 0 st.n ps.toList asg body st.env)::(st.nb,.ob 0)::st.bl,nb:=st.nb+2,df:=.ptr st.nb (st.nb+1)::st.df }) W1) (.yl (st.nb+1)::caps) (.func (.yield (w.heap.size+1)) #[] #[]::t):=⟨_,_,rfl,by simp only[Rep];exact⟨Nat.lt_succ_self _,by rw[<-e4];rfl⟩,Reps.later a4 _ _ (Reps.later aa _ _ a2)⟩
  refine⟨w.heap.size+1,[{ target:=.collected w.heap.size,args:= #[] }],W1,{ target:=.fn (.func f) t.toArray,args:= #[.func (.yield (w.heap.size+1)) #[] #[]] },W1,f,(.func (.yield (w.heap.size+1)) #[] #[]::t).toArray,W1,a9▸run_enterLoop_outer _ _ _ _ _,?_,λ_ _=>trivial,?_,(λe=>nomatch e),callsIn_wide.2 ((z m2 _ as_ _ _ ab a5).mono ?_)⟩
  ·simp only[resolve,hv];simp[go_sem]
  ·have h9:=a8 (.func (.yield (w.heap.size+1)) #[] #[]::t).toArray W1;simp[invoke,go_sem];simpa using h9
  ·rintro en w3 ⟨v,rfl,rs,st',m',s,a6,d,_⟩;obtain⟨s1,s2,s3,s4,y⟩:=a6;simp only[Zp1]at y;simp only at s;have key:∀(kb:Blk) (rc:Loop),blk st'.bl (st.nb+1)=some kb->w3.heap[m'.bl (st.nb+1)]? = some (.loop rc)->rc.state ≠ .busy->(Instr.endLoop (w.heap.size+1)).run cx.P w3 = .ok rc.pending (w3.putObj (m'.bl (st.nb+1)) (.loop { rc with state:=.exhausted })):=λkb rc hb c a7=>by have hd:=d.env.defers;rw[show(fs st').df = .ptr st.nb (st.nb+1)::st.df from y.2]at hd;obtain⟨dd,rr,q1,⟨_,_,q3,q4⟩,_⟩:=hd;simp only[Ze2]at q1;rw[<-q1.1]at q4;simp at q4;have q5:m'.bl (st.nb+1)=w.heap.size+1:=q3.trans (congrArg (·+1) q4.symm);rw[<-q5];exact run_endLoop c a7
   split at s
   ·rename_i hb;obtain⟨rc,c,_,_,_,_,a7⟩:=(d.blks (st.nb+1) _ hb).2;obtain⟨p,b⟩:=a7 rfl;refine⟨none,_,by rw[<-b];exact key _ rc hb c (by rw[p];simp),?_⟩;exact hQ .normal _ m' _ _ s ⟨s1,y.1⟩ (d.served hb c (by simp))
   ·rename_i id hb;obtain⟨rc,c,l,b⟩:=(d.blks (st.nb+1) _ hb).2;refine⟨some (.exit id),_,by rw[show some (Code.exit id)=rc.pending from b.symm];exact key _ rc hb c (by rw[l];simp),?_⟩;exact wpIn_exit (hQ (.exit id) _ m' _ _ s ⟨s1,y.1⟩ (d.served hb c (by simp)))
   ·rename_i hb;obtain⟨rc,c,l,b⟩:=(d.blks (st.nb+1) _ hb).2;refine⟨some .ret,_,by rw[show some Code.ret=rc.pending from b.symm];exact key _ rc hb c (by rw[l];simp),?_⟩;exact wpIn_ret (hQ .ret _ m' _ _ s ⟨s1,y.1⟩ (d.served hb c (by simp)))
   ·rename_i j n ag ae ac env q hb;have hB:=(d.blks (st.nb+1) _ hb).2.2;by_cases h0:j=0
    ·rw[Ze1 h0]at s;obtain⟨rc,c,_,_,_,_,p,b⟩:=hB.1 h0;refine⟨none,_,by rw[<-b];exact key _ rc hb c (by rw[p];simp),?_⟩;exact hQ .normal _ m' _ _ s ⟨s1,y.1⟩ (d.served hb c (by simp))
    ·obtain⟨rc,c,l,b⟩:=hB.2 h0;rw[Zd1 h0]at s;by_cases h1:j=1
     ·rw[Ze1 h1]at s;refine⟨some .ret,_,by rw[show some Code.ret=rc.pending by rw[b,B4o,if_pos h1];rfl];exact key _ rc hb c (by rw[l];simp),?_⟩;exact wpIn_ret (hQ .ret _ m' _ _ s ⟨s1,y.1⟩ (d.served hb c (by simp)))
     ·rw[Zd1 h1]at s;refine⟨some (.exit q),_,by rw[show some (Code.exit q)=rc.pending by rw[b,B4o,if_neg h1];rfl];exact key _ rc hb c (by rw[l];simp),?_⟩;exact wpIn_exit (hQ (.exit q) _ m' _ _ s ⟨s1,y.1⟩ (d.served hb c (by simp)))
   ·cases s
 ·cases h
end
def Bw(n:Nat):Code->Bool|.region _ os c=>(os.toList.all λo=>opB o&&Aq7 n o)&&(!c||Bdu os)|.seq a b=>Bw n a&&Bw n b|.cond _ a b=>Bw n a&&Bw n b|.block _ b=>Bw n b|.loop b=>Bw n b|.scope b=>Bw n b|_=>true
def B0:Ya1 Nat->Code->Bool|none,_=>true|some l,.region _ os _=>(os.toList.all λo=>Ais (some l) o)&&(S4 os).isNone|some l,.seq a b=>B0 (some l) a&&B0 (some l) b|some l,.cond _ a b=>B0 (some l) a&&B0 (some l) b|some l,.block _ b=>B0 (some l) b|some _,.loop _=>false|some _,.scope _=>false|some _,.rangeFunc _ _ _ _=>false|some _,_=>true
theorem Bl2(o:Oper):Ais none o=true:=by unfold Ais;rfl
theorem G0(c:Code):B0 none c=true:=by cases c<;>rfl
variable{id:Nat}{ro:Ya1 Nat}
theorem Bm3{os:Array Oper}{a:Bool}(h:B0 ro (.region id os a)=true):(os.toList.all λo=>Ais ro o)=true/\(ro=none\/S4 os=none):=by cases ro with|none=>exact⟨Zg2.2 λo _=>Bl2 o,.inl rfl⟩|some l=>simp only[B0,Zb1,Option.isNone_iff_eq_none]at h;exact⟨h.1,.inr h.2⟩
theorem Bg1{x y:Code}(h:B0 ro (.seq x y)=true):B0 ro x=true/\B0 ro y=true:=by cases ro with|none=>exact⟨G0 _,G0 _⟩|some l=>simpa only[B0,Zb1]using h
theorem A75{c:Operand}{x y:Code}(h:B0 ro (.cond c x y)=true):B0 ro x=true/\B0 ro y=true:=by cases ro with|none=>exact⟨G0 _,G0 _⟩|some l=>simpa only[B0,Zb1]using h
theorem A6t{b:Code}(h:B0 ro (.block id b)=true):B0 ro b=true:=by cases ro with|none=>exact G0 _|some l=>simpa only[B0]using h
section
variable {R:Type}{px:Px R}{cx:Cx}
def Bp(cx:Cx)(px:Px R)(b:Code):Prop:=∀(st:St) (K:Ex->St->Ya1 R) (r:R),px.loop b st K=some r->∀(Q:Exit->Act->World->Prop) (m:Mp) (a:Act) (as_:Yb1 Act) (w:World),Bw st.n b=true->Rel cx m a as_ (fs st) w->(∀e st' m' a' w',K e st' = some r->(st'.n=st.n/\st'.fr=st.fr)->Rel cx m' a' as_ (fs st') w'->Q (Pi e) a' w')->(Code.loop b).wp cx.P Q a w
theorem A5t{ops:Array Oper}{s:Nat->FS}(hc:Kn ops s):∀t,t<=ops.size->(s t).fr=(s 0).fr
 |0,_=>rfl
 |t+1,ht=>by obtain⟨o,ho⟩:∃o,ops[t]? = some o:=⟨_,Zk2 (by omega)⟩;have:=congrArg FS.fr (hc t o ho);rw[this];exact A5t hc t (by omega)
theorem A05{ops:Array Oper}{s:Nat->FS}:∀t,Fd ops s (λ_=>false) t=s 0
 |0=>rfl
 |t+1=>by
  simp[Fd];split
  ·simp[A05 t]
  ·exact A05 t
theorem Ec{ro:Ya1 Nat}(hp:PxOk cx px)(hc:C6 cx px)(g:CallQOk cx px)(hm:cx.P.follows .mixedOrders=true):∀(c:Code) (st:St) (K:Ex->St->Ya1 R) (r:R),Bw st.n c=true->B0 ro c=true->(∀b,b∈A8 c->Bp cx px b)->Hi px c st K=some r ->
  ∀(Q:Exit->Act->World->Prop) (m:Mp) (a:Act) (as_:Yb1 Act) (w:World),Rel cx m a as_ (fs st) w->(∀e st' m' a' w',K e st' = some r->(st'.n=st.n/\st'.fr=st.fr)->Rel cx m' a' as_ (fs st') w'->Q (Pi e) a' w')->c.wpIn (FW ro) 0 cx.P Q a w
 |.skip,st,K,r,_,_,_,h,Q,m,a,as_,w,hr,hQ=>wpIn_skip (hQ .normal st m a w h ⟨rfl,rfl⟩ hr)
 |.label l,st,K,r,_,_,_,h,Q,m,a,as_,w,hr,hQ=>wpIn_label (hQ .normal st m a w h ⟨rfl,rfl⟩ hr)
 |.exit id,st,K,r,_,_,_,h,Q,m,a,as_,w,hr,hQ=>wpIn_exit (hQ (.exit id) st m a w h ⟨rfl,rfl⟩ hr)
 |.ret,st,K,r,_,_,_,h,Q,m,a,as_,w,hr,hQ=>wpIn_ret (hQ .ret st m a w h ⟨rfl,rfl⟩ hr)
 |.region id ⟨l⟩ dr,st,K,r,hb,f,_,h,Q,m,a,as_,w,hr,hQ=>by
  simp only[Bw,Zb1]at hb;obtain⟨a6,ac⟩:=Bm3 f;simp[Hi]at h;cases dr with
  |false=>exact wpIn_region_lit (Va hp hc hb.1 a6 h hr (λst' m' a' w' h1 h2 h3=>hQ .normal st' m' a' w' h1 h2 h3))
  |true=>
   simp only at h;generalize p:G9 (Array.mk l)=N at h;have hN:N<=l.length:=by rw[<-p];exact(Yo _).1
   have ae:(l.take N).length=N:=by rw[List.length_take];omega
   obtain⟨st',h1,h2,h3⟩:=Aeb hp g (Zg2.2 λo ho=>Zg2.1 hb.1 o (List.mem_of_mem_take ho)) h;cases a3:Azb px (Array.mk l) st' with
   |false=>rw[a3]at h1;cases h1
   |true=>
   rw[a3]at h1;simp only at h1;obtain⟨s0,e0,e1,e2⟩:=Am0 h3;rw[ae]at e1;let s:Nat->FS:=λi=>if i<=N then s0 i else s0 N
   have k:∀{i:Nat}{o:Oper},i<N->(Array.mk l)[i]? = some o->(l.take N)[i]? = some o:=λ{i o} hi ho=>by rw[List.getElem?_take_of_lt hi];simpa using ho
   have a4:Kn (Array.mk l) s:=λi o ho=>by
    by_cases hi:i<N
    ·have:=(e2 i o (k hi ho)).1;simp[s,if_pos (show i<=N by omega),if_pos (show i+1<=N by omega)];exact this
    ·have h4:s (i+1)=s0 N:=by simp only[s];rw[if_neg (by omega)]
     have h5:s i=s0 N:=by
      simp only[s];split
      ·rw[show i=N by omega]
      ·rfl
     rw[h4,h5,Bbp]
   have ay:(Array.mk l).size=l.length:=rfl;refine wpIn_region_any hm (A0g (N:=N) (s:=s) (as_:=as_) hN p.symm (by simpa using hb.2) (λj oj h4 h5 q hq=>(Yo _).2 j oj (by rw[p];exact h4) h5 q (by rw[p];exact hq)) a4 (λi o hi ho=>?_) (λi o ho=>?_) (λi j oi oj hi hj a7 ag _ _ _ a8 b ah=>?_) (λm' a' w' d fuel listed ai aj ak=>?_) _ _ _ _ (by simp) ?_ ?_ (λq _ hq=>by have h8:q<l.length:=hq;simp[ h8]) ⟨m,?_⟩)
   ·simp[s,if_pos (show i<=N by omega),if_pos (show i+1<=N by omega)];exact(e2 i o (k hi ho)).2.2.2
   ·by_cases hi:i<N
    ·simp[s,if_pos (show i<=N by omega),if_pos (show i+1<=N by omega)];exact(e2 i o (k hi ho)).2.1
    ·have h4:s (i+1)=s0 N:=by simp only[s];rw[if_neg (by omega)]
     have h5:s i=s0 N:=by
      simp only[s];split
      ·rw[show i=N by omega]
      ·rfl
     rw[h4,h5];exact Zn1 _
   ·refine Bz5 a4 (T:=N) hN hj ag a7 ?_ a8 ah;have:=(e2 i oi (k a7 hi)).2.2.1;rw[Nat.zero_add]at this;simp[s,if_pos (show i<=N by omega),if_pos (show i+1<=N by omega)];exact this
   ·have a9:s N=fs st':=by simp[s];exact e1
    rw[a9]at d;have am:st'.fr=st.fr:=by
     have:=A5t a4 N hN;have h6:s 0=fs st:=by simp[s];exact e0
     rw[a9,h6]at this;exact this
    refine Bqp (ro:=ro) hp hc (λj oj an=>(G3 (by simpa using hb.2) an).1) (by rw[h2];exact hb.1) a6 ac a3 (by rw[p];exact h1) d (λaa ao ap ar k1 k2 k3=>hQ .normal aa ao ap ar k1 ⟨k2.1.trans h2,k2.2.trans am⟩ k3) fuel listed ai (by rw[p];exact aj) ak
   ·intro j o ho t;have au:j<l.length:=by have:=(Zh2.1 ho).1;exact this
    simp[au]at t
   ·have:=List.length_filter_le (λj=> !(Array.replicate (Array.mk l).size false).getD j true) (List.range (Array.mk l).size);simpa using this
   ·rw[Acg (T:=λ_=>false) _ hN (λj hj=>by
     have h7:j<l.length:=by omega
     simp[h7]),A05]
    have h6:s 0=fs st:=by simp[s];exact e0
    rw[h6];exact hr.quiet (Chg.drawn _ _ _)
 |.seq x y,st,K,r,hb,f,t,h,Q,m,a,as_,w,hr,hQ=>by simp[Bw]at hb;simp[Hi]at h;have f:=Bg1 f;refine wpIn_seq (Ec hp hc g hm x st _ r hb.1 f.1 (λb hb=>t b (by simp[A8,hb])) h _ m a as_ w hr ?_);intro e st' m' a' w' u z d;cases e with|normal=>show y.wpIn (FW ro) 0 cx.P Q a' w';exact Ec hp hc g hm y st' K r (by rw[z.1];exact hb.2) f.2 (λb hb=>t b (by simp[A8,hb])) u Q m' a' as_ w' d (λe2 st2 m2 a2 w2 k1 k2 k3=>hQ e2 st2 m2 a2 w2 k1 ⟨k2.1.trans z.1,k2.2.trans z.2⟩ k3)|exit id=>exact hQ (.exit id) st' m' a' w' u z d|ret=>exact hQ .ret st' m' a' w' u z d
 |.cond c x y,st,K,r,hb,f,t,h,Q,m,a,as_,w,hr,hQ=>by
  simp[Bw]at hb;simp[Hi]at h;split at h
  ·rename_i q hq;rw[Ay]at hq;obtain⟨v,_,hv,ab⟩:=hr.env.ev (env:=get st.env) hq;obtain rfl:=Rep.bool ab;have f:=A75 f;refine wpIn_cond_split hv (λav=>?_) (λaw=>?_)
   ·subst av;exact Ec hp hc g hm x st K r hb.1 f.1 (λb hb=>t b (by simp[A8,hb])) h Q m a as_ w hr hQ
   ·subst aw;exact Ec hp hc g hm y st K r hb.2 f.2 (λb hb=>t b (by simp[A8,hb])) h Q m a as_ w hr hQ
  ·cases h
 |.block id b,st,K,r,hb,f,t,h,Q,m,a,as_,w,hr,hQ=>by
  simp[Bw]at hb;simp[Hi]at h;refine wpIn_block (Ec hp hc g hm b st _ r hb (A6t f) (λb' a5=>t b' (by simpa[A8]using a5)) h _ m a as_ w hr ?_);intro e st' m' a' w' u z d;cases e with
  |normal=>exact hQ .normal st' m' a' w' u z d
  |ret=>exact hQ .ret st' m' a' w' u z d
  |exit i=>
   show Exit.inBlock id Q (.exit i) a' w';simp only at u;split at u
   ·rename_i hi;obtain rfl:=Zl1 hi;simp[Exit.inBlock];exact hQ .normal st' m' a' w' u z d
   ·rename_i hi;have ax:i≠id:=Nat.ne_of_beq_eq_false hi;simp[Exit.inBlock,if_neg ax];exact hQ (.exit i) st' m' a' w' u z d
 |.loop b,st,K,r,hb,f,t,h,Q,m,a,as_,w,hr,hQ=>by cases ro with|some _=>cases f|none=>exact wpIn_wide.2 (t b (by simp[A8]) st K r h Q m a as_ w hb hr hQ)
 |.scope b,st,K,r,hb,f,t,h,Q,m,a,as_,w,hr,hQ=>by
  simp[Bw]at hb;simp[Hi]at h;cases ro with
  |some _=>cases f
  |none=>
  refine wpIn_wide.2 (wp_scope_straight (wpIn_wide.1 (Ec hp hc g hm b st K r hb (G0 b) (λb' a5=>t b' (by simpa[A8]using a5)) h _ m a as_ w hr ?_)));intro e st' m' a' w' u z d;have:=hQ e st' m' a' w' u z d;cases e with|normal=>show Exit.noGoto Q .normal a' w';exact this|exit i=>show Exit.noGoto Q (.exit i) a' w';exact this|ret=>show Exit.noGoto Q .ret a' w';rw[Exit.noGoto_ret];exact this
 |.rangeFunc _ _ _ _,st,K,r,_,f,_,h,Q,m,a,as_,w,hr,hQ=>by cases ro with|some _=>cases f|none=>exact wpIn_wide.2 (A7d hc h hr hQ)
 |.goto _,st,K,r,_,_,_,h,_,_,_,_,_,_,_=>by simp[Hi]at h
 |.refuse _,st,K,r,_,_,_,h,_,_,_,_,_,_,_=>by simp[Hi]at h
theorem Eg(f:PxOk cx px)(hc:C6 cx px)(d:CallQOk cx px)(hm:cx.P.follows .mixedOrders=true)(c:Code)(st:St)(K:Ex->St->Ya1 R)(r:R)(hb:Bw st.n c=true)(g:∀b,b∈A8 c->Bp cx px b)(h:Hi px c st K=some r)
  (Q:Exit->Act->World->Prop) (m:Mp) (a:Act) (as_:Yb1 Act) (w:World) (i:Rel cx m a as_ (fs st) w) (j:∀e st' m' a' w',K e st' = some r->(st'.n=st.n/\st'.fr=st.fr)->Rel cx m' a' as_ (fs st') w'->Q (Pi e) a' w'):c.wp cx.P Q a w:=
 wpIn_wide.1 (Ec f hc d hm c st K r hb (G0 c) g h Q m a as_ w i j)
variable{as_:Yb1 Act}{m:Mp}{s:Sig}{st:St}
theorem Ax9(hp:PxOk cx px)(hc:C6 cx px)(u:CallQOk cx px)(hm:cx.P.follows .mixedOrders=true){b:Code}{step:Arf (HV s.sgs) R}(hs:X7 s=true)(f:∀fr g kx v,round px s b fr g kx v=step g kx v)(x:∀b',b'∈A8 b->Bp cx px b'){K:Ex->St->Ya1 R}{r:R}(h:An k s step st K=some r)(hb:Bw st.n b=true)(hr:Rel cx m a as_ (fs st) w)(hQ:∀e st' m' a' w',K e st' = some r->(st'.n=st.n/\st'.fr=st.fr)->Rel cx m' a' as_ (fs st') w'->Q (Pi e) a' w'):(Code.loop b).wp cx.P Q a w:=by
 unfold An at h;split at h
 ·rename_i v hv;have y:st.n=s.n:=by
   unfold Js at hv;split at hv
   ·rename_i i;simp only[Zb1]at i;exact Zl1 i.1.1.1.1.2
   ·cases hv
  have key:∀(n:Nat) (v:HV s.sgs),Aj (λg=>step g (λe j=>K e (Ge s st.fr j))) n v=some r->∀m a w,Rel cx m a as_ (fs (Ge s st.fr v)) w->Sx.LW cx.P b Q a w:=by
   intro n;induction n with
   |zero=>intro v hv;simp[Aj]at hv
   |succ n ih=>
    intro v hv m a w q;simp[Aj]at hv;rw[<-f st.fr]at hv;have c:∀v,(Ge s st.fr v).n=s.n/\(Ge s st.fr v).fr=st.fr:=λv=>by unfold Ge;split;exact⟨rfl,rfl⟩
    refine Sx.LW_round (Eg hp hc u hm b _ _ r (by rw[(c v).1,<-y];exact hb) x hv _ m a as_ w q ?_);intro e st' m' a' w' t l o;split at t
    ·rename_i j z;obtain⟨m2,d⟩:=o.recode hs z;have a2:st'.fr=st.fr:=l.2.trans (c v).2;rw[a2]at d;cases e with|normal=>exact ih j t m2 a' w' d|exit id=>exact hQ (.exit id) _ m2 a' w' t ⟨(c j).1.trans y.symm,(c j).2⟩ d|ret=>exact hQ .ret _ m2 a' w' t ⟨(c j).1.trans y.symm,(c j).2⟩ d
    ·cases t
  obtain⟨m0,p⟩:=hr.recode hs hv;exact Sx.wp_of_LW (key k v h m0 a w p)
 ·cases h
theorem Bz4(i:PxOk cx px)(hc:C6 cx px)(e:CallQOk cx px)(hm:cx.P.follows .mixedOrders=true){b:Code}{step:Arf (HV s.sgs) R}(f:∀st K,px.loop b st K=An k s step st K)(j:X7 s=true)(c:∀fr d kx v,round px s b fr d kx v=step d kx v)(g:∀b',b'∈A8 b->Bp cx px b'):Bp cx px b:=by intro st K r h Q m a as_ w hb l n;rw[f]at h;exact Ax9 i hc e hm j c g h hb l n
theorem Aoh(z:PxOk cx px)(hc:C6 cx px)(l:CallQOk cx px)(hm:cx.P.follows .mixedOrders=true){c:Px R}(n:PxOk cx c)(o:C6 cx c)(g:CallQOk cx c)(p:∀b st K,c.loop b st K=none){b:Code}{step:Arf (HV s.sgs) R}(q:∀st K,px.loop b st K=Ax6 c b k s step st K)(j:X7 s=true)(d:∀fr i kx v,round px s b fr i kx v=step i kx v)(t:∀b',b'∈A8 b->Bp cx px b'):Bp cx px b:=by
 intro st K r h Q m a as_ w hb y u;rw[q]at h;unfold Ax6 at h;split at h
 ·exact Ax9 z hc l hm j d t h hb y u
 ·unfold B5h at h;refine Sx.wp_of_LW (Sx.LW_round (Eg n o g hm b st _ r hb (λb' _ st K r h=>by rw[p]at h;cases h) h _ m a as_ w y ?_));intro e st' m' a' w' x j f;cases e with|normal=>cases x|exit id=>exact u (.exit id) st' m' a' w' x j f|ret=>exact u .ret st' m' a' w' x j f
def A21(cx:Cx)(b:Code)(f:St->(Ex->St->Ya1 R)->Ya1 R):Prop:=∀(st:St) (K:Ex->St->Ya1 R) (r:R),f st K=some r->∀(Q:Exit->Act->World->Prop) (m:Mp) (a:Act) (as_:Yb1 Act) (w:World),Bw st.n b=true->Rel cx m a as_ (fs st) w->(∀e st' m' a' w',K e st' = some r->(st'.n=st.n/\st'.fr=st.fr)->Rel cx m' a' as_ (fs st') w'->Q (Pi e) a' w')->(Code.loop b).wp cx.P Q a w
theorem A51(g:PxOk cx px)(hc:C6 cx px)(e:CallQOk cx px)(hm:cx.P.follows .mixedOrders=true){b:Code}{step:Arf (HV s.sgs) R}(i:X7 s=true)(c:∀fr d kx v,round px s b fr d kx v=step d kx v)(f:∀b',b'∈A8 b->Bp cx px b'):A21 cx b (An k s step):=by intro st K r h Q m a as_ w hb j l;exact Ax9 g hc e hm i c f h hb j l
def A00(k:Nat)(s:Sig)(step:Arf (HV s.sgs) R)(a:St->(Ex->St->Ya1 R)->Ya1 R)(st:St)(K:Ex->St->Ya1 R):Ya1 R:=match Js s st with|some _=>An k s step st K|none=>a st K
theorem Bmb{b:Code}{step:Arf (HV s.sgs) R}{a:St->(Ex->St->Ya1 R)->Ya1 R}(c:A21 cx b (An k s step))(d:A21 cx b a):A21 cx b (A00 k s step a):=by
 intro st K r h;unfold A00 at h;split at h
 ·exact c st K r h
 ·exact d st K r h
theorem Bzr{b:Code}{f:St->(Ex->St->Ya1 R)->Ya1 R}(a:∀st K,px.loop b st K=f st K)(h:A21 cx b f):Bp cx px b:=by intro st K r c;rw[a]at c;exact h st K r c
end
def v0(el:Ck->TypeId)(M:Fp)(w:World):Vx:=⟨⟨λ_=>0,λ_=>none⟩,λ_=>False,M,w,0,0,el⟩
def vr(el:Ck->TypeId)(M:Fp)(m:Mp)(sr:Yb1 Sg)(w:World):Vx:=⟨m,λt=>t∈Bb 0 sr,λb i=>M b i\/∃p o,p∈Bb 0 sr/\m.tk p=some (b,o)/\o<=i,w,0,sr.length,el⟩
structure FnOk (P:Program) (el:Ck->TypeId) (gl:Nat->Option Gv) (f:FuncId) (sa sr:List Sg) (F:HV sa->Option (HV sr)):Prop where
 enters:Sx.Enters P f
 run:∀x r,F x=some r->∀(w:World) (M:Fp) (vs:List Value),(∀b i,M b i->b<w.heap.size)->GlR (v0 el M w) gl->Reps (v0 el M w) (Ca 0 sa x) vs ->
  Calls P f vs.toArray w λen w'=>∃v m,en = .returned v/\Chg C2 w w'/\(∀p g o,p∈Bb 0 sr->m.tk p=some (g,o)->w.heap.size<=g/\g<w'.heap.size)/\(∀p q g o o',p∈Bb 0 sr->q∈Bb 0 sr->m.tk p=some (g,o)->m.tk q=some (g,o')->p=q)/\Rep (vr el M m sr w') (Hh (Ca 0 sr r)) v
section
variable {R:Type}{px:Px R}{cx:Cx}
theorem D7(i:PxOk cx px){m:Mp}{a:Act}{as_:Yb1 Act}{st:St}{w:World}(g:Rel cx m a as_ (fs st) w):∀{rs:Yb1 ResultVar}{ds:Yb1 D},results px st rs=some ds->∃vs,Sem.run cx.P (rs.mapM (Sx.rdv a.tmps)) w=Result.ok vs w/\Reps (vx cx m (fs st) w) ds vs
 |[],ds,h=>by simp[results]at h;subst h;exact⟨[],by simp,by simp[Reps]⟩
 |.tmp t::rs,ds,h=>by
  simp[results]at h;split at h
  ·rename_i d j hd f;simp at h;subst h;obtain⟨vs,k,l⟩:=D7 i g f;obtain⟨v,hv,c⟩:=g.env.get t d hd;refine⟨v::vs,?_,by simp only[Reps];exact⟨v,vs,rfl,c,l⟩⟩;simp[ Sx.rdv,hv,k]
  ·cases h
 |.cell q t::rs,ds,h=>by
  simp[results]at h;split at h
  ·rename_i p n;split at h
   ·rename_i d j y hd f;simp at h;subst h;obtain⟨vs,k,l⟩:=D7 i g f;obtain⟨z,r,c⟩:=g.env.get q p n;rw[Bc6]at hd;obtain⟨u,x,h5⟩:=Awn (s:=fs st) i g y hd c;obtain⟨ad,rfl⟩:∃ad,z = .pointer (some ad):=by cases p<;>simp[Ahs]at hd<;>first|(cases hd;done)|(simp[Rep]at c;first|exact⟨_,c⟩|exact⟨_,c.2⟩|exact⟨_,c.2.1⟩|(obtain⟨b,o,e,_⟩:=c;exact⟨_,e⟩))
    refine⟨u::vs,?_,by simp only[Reps];exact⟨u,vs,rfl,h5,l⟩⟩;simp[Instr.loadAt,Instr.sureAddr]at x;simp[ Sx.rdv,r,asAddr,x,k]
   ·cases h
  ·cases h
theorem Ho(h:Reps x ds vs):Rep x (Hh ds) (Sx.resv vs):=by
 match ds,vs,h with
 |[],vs,h=>simp[Reps]at h;subst h;simp only[Hh];exact⟨[],rfl,by simp[Reps]⟩
 |[d],vs,h=>simp only[Reps]at h;obtain⟨u,us,rfl,a,rfl⟩:=h;exact a
 |d::e::ds,vs,h=>match vs,h.len with|u::w::us,_=>simp only[Hh];exact⟨_,rfl,h⟩
theorem Aki{v:Value}(h:Rep x (Hh ds) v):∃vs,v=Sx.resv vs/\Reps x ds vs:=by
 match ds,h with
 |[],h=>simp[Hh]at h;obtain⟨vs,rfl,a⟩:=h;simp[Reps]at a;subst a;exact⟨[],rfl,by simp[Reps]⟩
 |[d],h=>exact⟨[v],rfl,by simp only[Reps];exact⟨v,[],rfl,h,rfl⟩⟩
 |d::e::ds,h=>simp[Hh]at h;obtain⟨vs,rfl,a⟩:=h;match vs,a.len with|u::w::us,_=>exact⟨_,rfl,a⟩
theorem Eu{b:Nat}:∀(l:Yb1 (Nat×Blk)) (c:Nat),blk (Br l b) c=if c=b then none else blk l c
 |[],c=>by simp[Br,blk]
 |(q,v)::l,c=>by
  simp[Br];by_cases a:q=b
  ·subst a;simp;rw[Eu l c,Az];by_cases hc:c=q
   ·simp[hc]
   ·simp[hc]
  ·simp[Gw a];rw[Az,Eu l c,Az];by_cases hc:c=q
   ·subst hc;simp[a]
   ·grind
variable{as_:Yb1 Act}{m:Mp}{st:St}
theorem Rel.drop(d:Rel cx m a as_ (fs st) w)(b:Nat):Rel cx m a as_ (fs { st with bl:=Br st.bl b }) w/\Nx (vx cx m (fs st) w) (vx cx m (fs { st with bl:=Br st.bl b }) w):=by
 have sub:∀c k,blk (Br st.bl b) c=some k->blk st.bl c=some k:=λc k h=>by
  rw[Eu]at h;split at h
  ·cases h
  ·exact h
 have e:∀c,blk (Br st.bl b) c≠none->blk st.bl c≠none:=λc h=>by cases l:blk (Br st.bl b) c with|none=>exact absurd l h|some k=>rw[sub c k l];simp
 have fp:∀c i,D8 m (fs { st with bl:=Br st.bl b }) c i->D8 m (fs st) c i:=by
  rintro c i (⟨q,r,rfl⟩|h)
  ·exact .inl ⟨q,e q r,rfl⟩
  ·exact .inr h
 have f:Nx (vx cx m (fs st) w) (vx cx m (fs { st with bl:=Br st.bl b }) w):=by
  refine⟨Chg.refl _ _,?_,rfl,λ_ _=>rfl,Zn1 _,Zn1 _,λt _ s=>⟨s,rfl,λ_ _ _=>rfl⟩⟩;rintro c i (h|h)
  ·exact .inl (.inl h)
  ·exact .inl (.inr (fp c i h))
 refine⟨⟨d.chg,d.env.later f,d.frs.later f d.lb d.lt,d.lb,d.lt,λc k l=>?_,d.als,λc p j n=>d.inj c p (e c j) (e p n),d.injt,λc t g o j=>d.injbt c t g o (e c j),λc i h=>d.own c i (fp c i h),d.away,d.glb.later f⟩,f⟩;obtain⟨j,n⟩:=d.blks c k (sub c k l);exact⟨j,n.later f rfl⟩
theorem Nx.trans{y z:Vx}(h:Nx x y)(k:Nx y z):Nx x z:=
 ⟨h.chg.later h.fp k.chg,λb i hi=>by
  rcases k.fp b i hi with a|a
  ·exact h.fp b i a
  ·exact .inr (Nat.le_trans h.chg.size a),k.el.trans h.el,λb hb=>(k.bl b (Zx1 hb h.nb)).trans (h.bl b hb),Nat.le_trans h.nb k.nb,Nat.le_trans h.nt k.nt,λt c f=>by
  obtain⟨a1,j,l⟩:=k.tk t (Zx1 c h.nt) f;obtain⟨m,d,n⟩:=h.tk t c a1;exact⟨m,j.trans d,λg o e=>(l g o (d.trans e)).trans (n g o e)⟩⟩
theorem A08(l:Rel cx m a as_ (fs st) w){d:D}{v:Value}(hd:Rep (vx cx m (fs st) w) d v){K:D->Yb1 (Nat×Blk)->Ya1 R}{r:R}(h:Bmz st.bl d K=some r):∃d' e,K d' e = some r/\Rel cx m a as_ (fs { st with bl:=e }) w/\Nx (vx cx m (fs st) w) (vx cx m (fs { st with bl:=e }) w)/\Rep (vx cx m (fs { st with bl:=e }) w) d' v/\(lf d=true->lf d' = true):=by
 unfold Bmz at h;split at h
 ·rename_i b c s n;split at h
  ·rename_i c' xs hb;split at h
   ·rename_i hc;simp at hc;subst hc;obtain⟨hc,hk⟩:=A2 h;simp at hc;obtain⟨⟨hs,hn⟩,a6⟩:=hc;obtain⟨x,nx⟩:=l.drop b;refine⟨_,_,hk,x,nx,?_⟩;simp[Rep]at hd ⊢;obtain⟨g1,_,_,_,ad,cap,rfl,g5,g6,g7,_⟩:=hd;refine⟨⟨?_,trivial⟩,λ_=>rfl⟩;have z:n.toNat=(cut xs s (s+n)).length:=by simp[cut];omega
    refine Kt z ?_;by_cases a2:n=0
    ·left;exact List.eq_nil_of_length_eq_zero (by omega)
    ·right;obtain⟨_,a7,vs,ty,hh,a8,f⟩:=l.blks b _ hb;refine⟨m.bl b,s.toNat*csz c,g5.resolve_left a2,by omega,λi y hy w' hw j d hd=>?_⟩;have a3:xs[s.toNat+i]? = some y:=by
      simp[cut]at hy;rw[List.getElem?_take]at hy;split at hy
      ·rwa[List.getElem?_drop]at hy
      ·cases hy
     obtain⟨u,hu,hf⟩:=f _ y j d a3 hd;refine⟨u,?_,(nx.rf hf) w' hw⟩;have g:w.cell? ⟨m.bl b,s.toNat*csz c+i*csz c+j,none⟩=some u:=by have hh:w.heap[m.bl b]? = some (.cells vs.toArray ty (0,0)):=hh;simp[World.cell?,hh];rw[<-Nat.add_mul];simpa using hu
     refine hw.cell _ _ _ g ?_;have k:(fs st).bl b≠none:=by rw[show(fs st).bl b=some _ from hb];simp
     rintro(hM|a4)
     ·exact l.disj hM (.inl ⟨b,k,rfl⟩:D8 m (fs st) (m.bl b) 0)
     ·rcases a4 with ⟨q,p,he⟩|⟨t,o,h1,h2,_⟩
      ·have p:blk (Br st.bl b) q≠none:=p;rw[Eu]at p;split at p
       ·exact p rfl
       ·rename_i a5;exact a5 (l.inj q b p k he)
      ·exact l.injbt b t _ o k h1 h2 rfl
   ·cases h
  ·cases h
 ·exact⟨d,st.bl,h,l,⟨Chg.refl _ _,λ_ _ h=>.inl h,rfl,λ_ _=>rfl,Zn1 _,Zn1 _,λt _ ha=>⟨ha,rfl,λ_ _ _=>rfl⟩⟩,hd,id⟩
theorem Azg{m:Mp}{a:Act}{as_:Yb1 Act}{w:World}{r:R}:∀{ds:Yb1 D}{st:St}{vs:Yb1 Value}{K:Yb1 D->Yb1 (Nat×Blk)->Ya1 R},Rel cx m a as_ (fs st) w->Reps (vx cx m (fs st) w) ds vs->Bt1 st.bl ds K=some r->∃b c,K b c = some r/\Rel cx m a as_ (fs { st with bl:=c }) w/\Nx (vx cx m (fs st) w) (vx cx m (fs { st with bl:=c }) w)/\Reps (vx cx m (fs { st with bl:=c }) w) b vs/\(ds.all lf=true->b.all lf=true)
 |[],st,vs,K,hr,hd,h=>⟨[],st.bl,h,hr,⟨Chg.refl _ _,λ_ _ h=>.inl h,rfl,λ_ _=>rfl,Zn1 _,Zn1 _,λt _ s=>⟨s,rfl,λ_ _ _=>rfl⟩⟩,by simpa using hd,id⟩
 |d::ds,st,vs,K,hr,hd,h=>by simp[Reps]at hd;obtain⟨u,us,rfl,v,x⟩:=hd;simp[Bt1]at h;obtain⟨y,g,z,i,e,j,k⟩:=A08 hr v h;obtain⟨b,l,n,o,f,p,q⟩:=Azg (st:={ st with bl:=g }) i (Reps.later e _ _ x) z;refine⟨y::b,l,n,o,e.trans f,by simp only[Reps];exact⟨u,us,rfl,Rep.later f _ _ j,p⟩,λh=>?_⟩;simp only[Zv1,Zb1]at h ⊢;exact⟨k h.1,q h.2⟩
theorem Bgo(l:Rel cx m a as_ (fs st) w){d:D}{v:Value}(hd:Rep (vx cx m (fs st) w) d v){K:D->Yb1 (Nat×Blk)->Ya1 R}{r:R}(h:Bk9 st.bl d K=some r):∃g b,K g b = some r/\Rel cx m a as_ (fs { st with bl:=b }) w/\Nx (vx cx m (fs st) w) (vx cx m (fs { st with bl:=b }) w)/\Rep (vx cx m (fs { st with bl:=b }) w) g v:=by
 unfold Bk9 at h;split at h
 ·rename_i ds;simp only[Rep]at hd;obtain⟨n,vs,rfl,e⟩:=hd;obtain⟨o,b,i,c,j,f,k⟩:=Azg l e h;exact⟨_,b,i,c,j,by simp only[Rep];exact⟨k n,vs,rfl,f⟩⟩
 ·obtain⟨g,b,i,c,j,f,_⟩:=A08 l hd h;exact⟨g,b,i,c,j,f⟩
theorem Aj0{m:Mp}{a:Act}{as_:Yb1 Act}{w:World}{r:R}:∀{ds:Yb1 D}{st:St}{vs:Yb1 Value}{K:Yb1 D->Yb1 (Nat×Blk)->Ya1 R},Rel cx m a as_ (fs st) w->Reps (vx cx m (fs st) w) ds vs->Bjs st.bl ds K=some r->∃b c,K b c = some r/\Rel cx m a as_ (fs { st with bl:=c }) w/\Nx (vx cx m (fs st) w) (vx cx m (fs { st with bl:=c }) w)/\Reps (vx cx m (fs { st with bl:=c }) w) b vs
 |[],st,vs,K,hr,hd,h=>⟨[],st.bl,h,hr,⟨Chg.refl _ _,λ_ _ h=>.inl h,rfl,λ_ _=>rfl,Zn1 _,Zn1 _,λt _ p=>⟨p,rfl,λ_ _ _=>rfl⟩⟩,by simpa using hd⟩
 |d::ds,st,vs,K,hr,hd,h=>by simp[Reps]at hd;obtain⟨u,us,rfl,q,s⟩:=hd;simp[Bjs]at h;obtain⟨v,g,x,i,e,j⟩:=Bgo hr q h;obtain⟨b,k,l,n,f,o⟩:=Aj0 (st:={ st with bl:=g }) i (Reps.later e _ _ s) x;exact⟨v::b,k,l,n,e.trans f,by simp only[Reps];exact⟨u,us,rfl,Rep.later f _ _ j,o⟩⟩
theorem Rel.give(d:Rel cx m a as_ (fs st) w){b:Nat}(hb:(fs st).bl b≠none)(o:Nat):∃m',Rel cx m' a as_ (fs (Ej { st with bl:=Br st.bl b })) w/\Nx (vx cx m (fs st) w) (vx cx m' (fs (Ej { st with bl:=Br st.bl b })) w)/\m'.bl=m.bl/\m'.tk st.nt=some (m.bl b,o)/\∀i,i<o->¬(vx cx m' (fs (Ej { st with bl:=Br st.bl b })) w).S (m.bl b) i:=by
 let m':Mp:={ m with tk:=λt=>if t=st.nt then some (m.bl b,o)else m.tk t };let s':FS:=fs (Ej { st with bl:=Br st.bl b });have j:∀c,s'.bl c≠none->(fs st).bl c≠none/\c≠b:=λc h=>by
  have h:blk (Br st.bl b) c≠none:=h;rw[Eu]at h;by_cases hc:c=b
  ·rw[if_pos hc]at h;exact absurd rfl h
  ·rw[if_neg hc]at h;exact⟨h,hc⟩
 have n:∀t,s'.al t->(t=st.nt/\m'.tk t=some (m.bl b,o))\/((fs st).al t/\t<st.nt/\m'.tk t=m.tk t):=λt r=>by
  have r:t∈st.nt::st.tk:=r;rcases List.mem_cons.1 r with rfl|r
  ·exact .inl ⟨rfl,by simp[m']⟩
  ·have y:t<st.nt:=d.als t r;exact .inr ⟨r,y,by simp[m',Nat.ne_of_lt y]⟩
 have fp:∀c i,D8 m' s' c i->D8 m (fs st) c i/\(c=m.bl b->o<=i):=by
  rintro c i (⟨q,hq,rfl⟩|⟨t,p,u,l,f⟩)
  ·obtain⟨s,g2⟩:=j q hq;exact⟨.inl ⟨q,s,rfl⟩,λe=>absurd (d.inj q b s hb e) g2⟩
  ·rcases n t u with ⟨rfl,e⟩|⟨s,_,e⟩
   ·rw[e]at l;simp at l;obtain⟨rfl,rfl⟩:=l;exact⟨.inl ⟨b,hb,rfl⟩,λ_=>f⟩
   ·rw[e]at l;refine⟨.inr ⟨t,p,s,l,f⟩,λe2=>?_⟩;subst e2;exact absurd rfl (d.injbt b t _ p hb s l)
 have z:Nx (vx cx m (fs st) w) (vx cx m' s' w):=by
  refine⟨Chg.refl _ _,?_,rfl,λ_ _=>rfl,Zn1 _,Nat.le_succ _,λt r ha=>?_⟩
  ·rintro c i (h|h)
   ·exact .inl (.inl h)
   ·exact .inl (.inr (fp c i h).1)
  ·have r:t<st.nt:=r;rcases n t ha with ⟨e,_⟩|⟨s,_,e⟩
   ·omega
   ·exact⟨s,e,λ_ _ _=>rfl⟩
 refine⟨m',⟨d.chg,d.env.later z,d.frs.later z d.lb d.lt,d.lb,Nat.le_succ_of_le d.lt,λc k x=>?_,λt r=>?_,λc c' u l=>d.inj c c' (j c u).1 (j c' l).1,λt t' g p p' u l f v=>?_,λc t g p u l f=>?_,λc i h=>d.own c i (fp c i h).1,d.away,d.glb.later z⟩,z,rfl,by simp[m'],λi hi h=>?_⟩
 ·have a2:(fs st).bl c=some k:=by
   have x:blk (Br st.bl b) c=some k:=x;rw[Eu]at x;split at x
   ·cases x
   ·exact x
  obtain⟨u,l⟩:=d.blks c k a2;exact⟨u,l.later z rfl⟩
 ·rcases n t r with ⟨rfl,_⟩|⟨_,h,_⟩
  ·exact Nat.lt_succ_self _
  ·exact Nat.lt_succ_of_lt h
 ·rcases n t u with ⟨e1,k1⟩|⟨q1,_,k1⟩<;>rcases n t' l with ⟨e2,k2⟩|⟨q2,_,k2⟩
  ·rw[e1,e2]
  ·rw[k1]at f;rw[k2]at v
   simp at f;exact absurd f.1 (d.injbt b t' g p' hb q2 v)
  ·rw[k1]at f;rw[k2]at v
   simp at v;exact absurd v.1 (d.injbt b t g p hb q1 f)
  ·rw[k1]at f;rw[k2]at v
   exact d.injt t t' g p p' q1 q2 f v
 ·obtain⟨s,g2⟩:=j c u;rcases n t l with ⟨_,e⟩|⟨q1,_,e⟩
  ·rw[e]at f;simp at f;exactλe2=>g2 (d.inj c b s hb (e2.trans f.1.symm))
  ·rw[e]at f;exact d.injbt c t g p s q1 f
 ·rcases h with h|h
  ·exact d.disj h (.inl ⟨b,hb,rfl⟩:D8 m (fs st) (m.bl b) 0)
  ·have:=(fp _ i h).2 rfl;omega
theorem Aa2{a:Act}{as_:Yb1 Act}{w:World}{r:R}:∀{sr:Yb1 Sg}{m:Mp}{ds:Yb1 D}{st:St}{vs:Yb1 Value}{K:Yb1 D->St->Ya1 R},Rel cx m a as_ (fs st) w->Reps (vx cx m (fs st) w) ds vs->Aiq sr st ds K=some r->∃f st' m',K f st' = some r/\Rel cx m' a as_ (fs st') w/\Nx (vx cx m (fs st) w) (vx cx m' (fs st') w)/\Reps (vx cx m' (fs st') w) f vs
 |[],m,[],st,vs,K,hr,hd,h=>⟨[],st,m,h,hr,⟨Chg.refl _ _,λ_ _ h=>.inl h,rfl,λ_ _=>rfl,Zn1 _,Zn1 _,λt _ ha=>⟨ha,rfl,λ_ _ _=>rfl⟩⟩,hd⟩
 |[],m,_::_,st,vs,K,hr,hd,h=>by simp[Aiq]at h
 |_::_,m,[],st,vs,K,hr,hd,h=>by simp[Aiq]at h
 |s0::sr,m,d::ds,st,vs,K,hr,hd,h=>by
  simp[Reps]at hd;obtain⟨u,us,rfl,h1,h2⟩:=hd;have q:(Bk9 st.bl d λd' v=>Aiq sr { st with bl:=v } ds λf st'=>K (d'::f) st')=some r->∃f st' m',K f st' = some r/\Rel cx m' a as_ (fs st') w/\Nx (vx cx m (fs st) w) (vx cx m' (fs st') w)/\Reps (vx cx m' (fs st') w) f (u::us):=λh=>by obtain⟨d',a7,hk,x,g,a8⟩:=Bgo hr h1 h;obtain⟨f,st2,m2,z,a2,k,a3⟩:=Aa2 (st:={ st with bl:=a7 }) x (Reps.later g _ _ h2) hk;exact⟨d'::f,st2,m2,z,a2,g.trans k,by simp only[Reps];exact⟨u,us,rfl,Rep.later k _ _ a8,a3⟩⟩
  by_cases l:∃c0 b c s n,s0 = .sl c0 true/\d = .osl b c s n
  ·obtain⟨c0,b,c,s,n,rfl,rfl⟩:=l;simp[Aiq]at h;split at h
   ·rename_i c' xs hb;split at h
    ·rename_i hc;simp at hc;subst hc;obtain⟨hc,hk⟩:=A2 h;simp at hc;obtain⟨⟨a9,hn⟩,ac⟩:=hc;subst a9;have aa:(fs st).bl b≠none:=by rw[show(fs st).bl b=some _ from hb];simp
     simp only[Rep]at h1;obtain⟨g1,_,_,_,ad,cap,rfl,g5,g6,g7,cur,fz,p,g9⟩:=h1;obtain rfl:=g5.resolve_left (by omega);obtain⟨_,ae,vs,ty,hh,ag,a4⟩:=hr.blks b _ hb;have hh:w.heap[m.bl b]? = some (.cells vs.toArray ty (0,0)):=hh;have p:w.heap[m.bl b]? = some (.cells cur (cx.el c) (0,0)):=by have p:w.heap[m.bl b]? = some (.cells cur (cx.el c) fz):=p;rw[hh]at p;simp at p;rw[hh,p.1,p.2.1]
     obtain⟨m1,x,g,eb,et,hS⟩:=hr.give aa (n.toNat*csz c);obtain⟨f,st2,m2,z,a2,k,a3⟩:=Aa2 x (Reps.later g _ _ h2) hk;refine⟨_::f,st2,m2,z,a2,g.trans k,?_⟩;simp only[Reps];refine⟨_,us,rfl,Rep.later k _ _ ?_,a3⟩;simp;have o:n.toNat=(xs.take n.toNat).length:=by simp;omega
     refine⟨Kt o (.inr ⟨m.bl b,0,by simp[vx],by omega,λi y hy w' hw j d hd=>?_⟩),Nat.lt_succ_self _,λ_=>.inr ⟨m.bl b,cap,cur,by rw[<-o];simp[vx],by rw[<-o];exact et,p,by rw[g9];simp,by omega,g7⟩⟩;have a6:i<n.toNat:=by have:=(Zi2.1 hy).1;omega
     have hj:j<csz c:=by rw[<-B8 c y];exact(Zi2.1 hd).1
     have ab:xs[i]? = some y:=by rw[List.getElem?_take,if_pos a6]at hy;exact hy
     obtain⟨u,hu,hf⟩:=a4 i y j d ab hd;refine⟨u,?_,(g.rf hf) w' hw⟩;have a5:w.cell? ⟨m.bl b,0+i*csz c+j,none⟩=some u:=by simp[World.cell?,hh];simpa using hu
     refine hw.cell _ _ _ a5 (hS _ ?_);have:(i+1)*csz c<=n.toNat*csz c:=Nat.mul_le_mul_right _ a6;rw[Nat.succ_mul]at this;omega
    ·cases h
   ·cases h
  ·have e:Aiq (s0::sr) st (d::ds) K=(Bk9 st.bl d λd' v=>Aiq sr { st with bl:=v } ds λf st'=>K (d'::f) st'):=by
    cases s0 with
    |sl c0 own=>cases own with
     |true=>cases d<;>first|rfl|exact absurd ⟨_,_,_,_,_,rfl,rfl⟩ l
     |false=>rfl
    |_=>rfl
   exact q (e▸h)
variable{sa:Yb1 Sg}{el:Ck->TypeId}{gl:Nat->Ya1 Gv}
theorem Axo(q:Bb 0 sa=[]){x:HV sa}{n:Nat}(hn:sa.length<=n){M:Fp}(hM:∀b i,M b i->b<w.heap.size)(r:GlR (v0 el M w) gl)(l:Reps (v0 el M w) (Ca 0 sa x) vs) :
  Rel ⟨P,w,C2,M,el,gl⟩ ⟨λ_=>0,λ_=>none⟩ { tmps:=vs.toArray++Array.replicate (n-vs.toArray.size) undef,defers:=[] } [] (fs (st0 n sa x)) w:=by
 have m:∀b i,D8 ⟨λ_=>0,λ_=>none⟩ (fs (st0 n sa x)) b i->False:=by
  rintro b i (⟨k,a,_⟩|⟨t,o,_,c,_⟩)
  ·exact a rfl
  ·cases c
 have z:vs.length=sa.length:=by rw[l.len,A52]
 have nx:Nx (v0 el M w) (vx ⟨P,w,C2,M,el,gl⟩ ⟨λ_=>0,λ_=>none⟩ (fs (st0 n sa x)) w):=⟨Chg.refl _ _,λb i hi=>hi.elim .inl (λh=>(m b i h).elim),rfl,λb hb=>(Zm1 _ hb).elim,Nat.zero_le _,Nat.zero_le _,λt s=>(Zm1 _ s).elim⟩;have f:=Reps.later nx _ _ l;have p:∀(ds:Yb1 D) (us:Yb1 Value) (i k:Nat) (d:D),Reps (vx ⟨P,w,C2,M,el,gl⟩ ⟨λ_=>0,λ_=>none⟩ (fs (st0 n sa x)) w) ds us->get (D3 i ds) k=some d->∃v,i<=k/\us[k-i]? = some v/\Rep (vx ⟨P,w,C2,M,el,gl⟩ ⟨λ_=>0,λ_=>none⟩ (fs (st0 n sa x)) w) d v:=by
  intro ds;induction ds with
  |nil=>intro us i k d _ h;simp[D3,get]at h
  |cons e ds ih=>
   intro us i k d l h;simp[Reps]at l;obtain⟨u,us,rfl,h1,c⟩:=l;simp[D3]at h;rw[Bl]at h;by_cases a:k=i
   ·subst a;simp at h;subst h;exact⟨u,Zn1 _,by simp,h1⟩
   ·rw[if_neg a]at h;obtain⟨v,h3,h4,h5⟩:=ih us (i+1) k d c h;refine⟨v,by omega,?_,h5⟩;rw[show k-i=(k-(i+1))+1 by omega];simpa using h4
 refine⟨Chg.refl _ _,⟨rfl,?_,λk d a=>?_⟩,rfl,Nat.zero_le _,Nat.zero_le _,λb k a=>?_,λt s=>?_,λb b' h=>(h rfl).elim,λt t' g o o' _ _ h=>(by cases h),λb t g o h=>(h rfl).elim,λb i hi=>(m b i hi).elim,λb i j hm=>⟨hM b i hm,id⟩,?_⟩
 ·show _=n;simp;omega
 ·obtain⟨v,_,c,h3⟩:=p _ _ 0 k d f a;rw[Nat.sub_zero]at c;refine⟨v,?_,h3⟩;have y:k<vs.length:=(Zi2.1 c).1;simp only[Array.getElem?_append,List.size_toArray,y];simpa using c
 ·cases a
 ·have:t∈Bb 0 sa:=s;rw[q]at this;cases this
 ·exact r.later nx
variable{sr:Yb1 Sg}{F:HV sa->Ya1 (HV sr)}{f:FuncId}{fn:Func}
theorem Azx{c:Code}{px:Px (HV sr)}(hf:P.funcs[f]? = some fn)(hb:fn.body=some c)(u:(fn.name == "runtime.NumGoroutine")=false)(hm:P.follows .mixedOrders=true)(k:(Bw fn.ntmps c&&Nat.ble sa.length fn.ntmps&&Dk (Bb 0 sa) [])=true)
  (a8:∀cx:Cx,cx.P=P->cx.el=el->cx.gl=gl->cx.I=C2->PxOk cx px/\C6 cx px/\CallQOk cx px/\∀b,b∈A8 c->Bp cx px b) (hF:∀x,Ae1 px fn sa sr x some=F x):FnOk P el gl f sa sr F:=by
 refine⟨Sx.enters_of hf (by rw[hb];rfl) u,λx r hx w M vs hM a9 hr=>?_⟩;simp at k;have hn:sa.length<=fn.ntmps:=by simpa using k.1.2
 have a2:=Axo (P:=P) (G7 k.2) hn hM a9 hr;rw[<-hF]at hx;unfold Ae1 at hx;rw[hb]at hx;simp only at hx;obtain⟨h1,h2,h3,h4⟩:=a8 ⟨P,w,C2,M,el,gl⟩ rfl rfl rfl rfl;refine calls_of_wp hf hb (Eg h1 h2 h3 hm c _ _ r k.1.1 h4 hx _ _ _ [] w a2 ?_);intro e st' m' a' w' m _ a;cases e
 case exit=>cases m
 all_goals
  simp only at m;split at m
  ·rename_i ag a3 aa;obtain⟨us,n,l⟩:=D7 h1 a aa;have a4:a'.defers=[]:=a.noDf a3;obtain⟨rs,st2,m2,m,j,_,y⟩:=Aa2 a l m;clear l a;split at m
   ·rename_i r' a5;simp at m;subst m;obtain⟨ab,ac⟩:=S2 0 a5;let z:Mp:=⟨λ_=>0,λp=>(asg 0 sr rs p).bind m2.tk⟩;have d:∀p g o,z.tk p=some (g,o)->∃t,asg 0 sr rs p=some t/\t∈st2.tk/\m2.tk t=some (g,o):=λp g o s=>by cases ha:asg 0 sr rs p with|none=>simp only[z,ha]at s;cases s|some t=>simp[z,ha]at s;exact⟨t,rfl,(ab p t ha).1,s⟩
    have hS:∀b i,(vr el M z sr w').S b i->(vx ⟨P,w,C2,M,el,gl⟩ m2 (fs st2) w').S b i:=by
     rintro b i (h|⟨p,o,_,h2,h3⟩)
     ·exact .inl h
     ·obtain⟨t,_,q2,q3⟩:=d p b o h2;exact .inr (.inr ⟨t,o,q2,q3,h3⟩)
    have a6:=Gk (X:=vx ⟨P,w,C2,M,el,gl⟩ m2 (fs st2) w') (X':=vr el M z sr w') hS rfl rfl 0 a5 (λt ht=>ht) y (λp hp=>by have:=(Gq _ _ _ hp).2;exact⟨by simpa[vr]using this,rfl⟩)
    refine⟨a4,Sx.resv us,?_,Sx.resv us,z,rfl,j.chg,λp g o hp s=>?_,λp q g o o' _ _ s ae=>?_,Ho a6⟩
    ·obtain⟨rl⟩:∃rl,fn.results=List.toArray rl:=⟨fn.results.toList,by simp⟩;rename_i a7;rw[Sx.results_eq,a7];rw[a7]at n;simp only[List.mapM_toArray,Sem.run_bind,map_eq_pure_bind,Sem.run_pure,n];congr 1;match us with|[]=>rfl|[v]=>rfl|_::_::_=>simp[Sx.resv]
    ·obtain⟨t,_,q2,q3⟩:=d p g o s;have:=j.own g o (.inr ⟨t,o,q2,q3,Zn1 _⟩);exact⟨this.2.resolve_left id,this.1⟩
    ·obtain⟨t,q1,q2,q3⟩:=d p g o s;obtain⟨t',p1,p2,p3⟩:=d q g o' ae;have:=j.injt t t' g o o' q2 p2 q3 p3;subst this;exact ac p q t q1 p1
   ·cases m
  ·cases m
end
section
variable {R:Type}{px:Px R}{cx:Cx}
theorem Alg{n:Nat}(hS:∀b j,x'.S b j->x.S b j)(hw:x'.w=x.w)(a5:x'.el=x.el):∀{s:Sg}{y:den s}{v:Value},Rep x (C9 i s y) v->(∀c,s = .sl c true->x.al i/\n+i<x'.nt/\x'.m.tk (n+i)=x.m.tk i)->Rep x' (C9 (n+i) s y) v:=by
 have a:∀{d:D}{v:Value},RF x.S x.w d v->RF x'.S x'.w d v:=λh=>by rw[hw];exact h.later (Chg.refl _ _) (λk j hk=>.inl (hS k j hk))
 intro s y v h o;cases s with
 |int k=>simpa[C9,Rep]using h
 |bool=>simpa[C9,Rep]using h
 |str=>simpa[C9,Rep]using h
 |sl c own=>
  cases own with
  |false=>simp[C9]at h ⊢;exact⟨a h.1,trivial⟩
  |true=>
   obtain⟨f,l,e⟩:=o c rfl;simp[C9]at h ⊢;refine⟨a h.1,l,λ_=>?_⟩;rcases h.2.2 f with ⟨a1,a2,a3⟩|⟨g,cap,cur,a1,a2,a3,a4⟩
   ·exact .inl ⟨a1,e.trans a2,a3⟩
   ·exact .inr ⟨g,cap,cur,a1,e.trans a2,by rw[hw,a5];exact a3,a4⟩
 |sv c=>simp[C9]at h ⊢;obtain⟨f,vs,l,e,p⟩:=h;exact⟨f,vs,l,e,λj d hd=>by obtain⟨u,r,t⟩:=p j d hd;exact⟨u,r,a t⟩⟩
 |rw c k=>simp[C9]at h ⊢;obtain⟨f,vs,l,e,p⟩:=h;exact⟨f,vs,l,e,λq z j d hz hd=>by obtain⟨u,r,t⟩:=p q z j d hz hd;exact⟨u,r,a t⟩⟩
 |dn c=>simp[C9]at h ⊢;obtain⟨f,vs,l,e,p⟩:=h;exact⟨f,vs,l,e,λq z j d hz hd=>by obtain⟨u,r,t⟩:=p q z j d hz hd;exact⟨u,r,a t⟩⟩
 |nl c=>simp[C9]at h ⊢;exact⟨a h.1,h.2⟩
theorem Bhm{p:Nat}{a:Sg}{l:Yb1 Sg}(h:p∈Bb (i+1) l):p∈Bb i (a::l):=by
 cases a with
 |sl c own=>cases own with|true=>exact Zu1 _ h|false=>exact h
 |_=>exact h
theorem Amn{x x':Vx}{n:Nat}(e:∀b j,x'.S b j->x.S b j)(f:x'.w=x.w)(d:x'.el=x.el):∀{l:Yb1 Sg}{y:HV l}{vs:Yb1 Value}(i:Nat),Reps x (Ca i l y) vs->(∀p,p∈Bb i l->x.al p/\n+p<x'.nt/\x'.m.tk (n+p)=x.m.tk p)->Reps x' (Ca (n+i) l y) vs
 |[],y,vs,i,h,_=>by simpa[Ca,Reps]using h
 |[a],y,vs,i,h,hown=>by simp only[Ca]at h ⊢;obtain⟨u,us,g,k,o⟩:=h;exact⟨u,us,g,Alg e f d k (λc hc=>by subst hc;exact hown i (by simp[Bb])),o⟩
 |a::b::l,(y,z),vs,i,h,hown=>by simp[Ca]at h ⊢;obtain⟨u,us,g,k,o⟩:=h;refine⟨u,us,g,Alg e f d k (λc hc=>by subst hc;exact hown i (by simp[Bb])),?_⟩;have:=Amn e f d (i+1) o (λp q=>hown p (Bhm q));rwa[<-Nat.add_assoc]at this
theorem Aqi:∀(l:Yb1 Sg) (n i p:Nat),p∈Bb (n+i) l↔∃q,q∈Bb i l/\p=n+q
 |[],n,i,p=>by simp[Bb]
 |s::l,n,i,p=>by
  have b:=Aqi l n (i+1) p;have rest:(Bb (n+i) (s::l)=Bb (n+i+1) l/\Bb i (s::l)=Bb (i+1) l)\/(Bb (n+i) (s::l)=(n+i)::Bb (n+i+1) l/\Bb i (s::l)=i::Bb (i+1) l):=by
   cases s with
   |sl c own=>cases own with|true=>exact .inr ⟨rfl,rfl⟩|false=>exact .inl ⟨rfl,rfl⟩
   |_=>exact .inl ⟨rfl,rfl⟩
  rcases rest with ⟨a,e2⟩|⟨a,e2⟩
  ·rw[a,e2];exact b
  ·rw[a,e2];simp only[List.mem_cons];constructor
   ·grind
   ·grind
variable{as_:Yb1 Act}{m:Mp}
theorem K9{s:FS}(c:Rel cx m a as_ s w):(∀b i,(vx cx m s w).S b i->b<w.heap.size)/\GlR (v0 cx.el (vx cx m s w).S w) cx.gl:=by
 refine⟨λb i hi=>?_,c.glb⟩;rcases hi with h|h
 ·have:=(c.away b i 0 h).1;have:=c.chg.size;omega
 ·exact(c.own b i h).1
variable{nt:Nat}{st:St}
theorem Rel.raise(hb:st.nb<=nb)(e:st.nt<=nt)(c:Rel cx m a as_ (fs st) w):Rel cx m a as_ (fs { st with nb:=nb,nt:=nt }) w:=by have d:Nx (vx cx m (fs st) w) (vx cx m (fs { st with nb:=nb,nt:=nt }) w):=⟨Chg.refl _ _,λ_ _ h=>.inl h,rfl,λ_ _=>rfl,hb,e,λt _ f=>⟨f,rfl,λ_ _ _=>rfl⟩⟩;refine⟨c.chg,c.env.later d,c.frs.later d c.lb c.lt,Nat.le_trans c.lb hb,Nat.le_trans c.lt e,λb k g=>?_,λt h=>Zx1 (c.als t h) e,c.inj,c.injt,c.injbt,c.own,c.away,c.glb.later d⟩;obtain⟨i,j⟩:=c.blks b k g;exact⟨Zx1 i hb,j.later d rfl⟩
theorem Awv:∀{l:Yb1 Sg}{i:Nat},l.all Ban=true->Bb i l=[]
 |[],_,_=>rfl
 |a::l,i,h=>by simp only[Zv1,Zb1]at h;have b:=Awv (l:=l) (i:=i+1) h.2;cases a<;>simp[Ban]at h<;>simpa only[Bb]using b
theorem Awq{x x':Vx}:∀{l:Yb1 Sg}{y:HV l}{vs:Yb1 Value}{i j:Nat},l.all Ban=true->Reps x (Ca i l y) vs->Reps x' (Ca j l y) vs
 |[],_,_,_,_,_,h=>by simpa[Ca,Reps]using h
 |[a],y,vs,i,j,hs,h=>by simp at hs;simp only[Ca]at h ⊢;obtain⟨u,us,c,d,e⟩:=h;refine⟨u,us,c,?_,e⟩;cases a<;>simp[Ban]at hs<;>simpa only[C9,Rep]using d
 |a::b::l,(y,z),vs,i,j,hs,h=>by simp only[Zv1,Zb1]at hs;simp[Ca]at h ⊢;obtain⟨u,us,c,d,e⟩:=h;refine⟨u,us,c,?_,Awq (l:=b::l) (by simp only[Zv1,Zb1];exact hs.2) e⟩;cases a<;>simp[Ban]at hs<;>simpa only[C9,Rep]using d
variable{sr:Yb1 Sg}{sa:Yb1 Sg}{F:HV sa->Ya1 (HV sr)}{args:Yb1 D}
theorem Bmg(h:FnOk cx.P cx.el cx.gl g sa sr F)(a5:Dk (Bb 0 sa) []=true){K:Yb1 D->St->Ya1 R}{r:R}(hc:Mb sa sr F args st K=some r):I5 cx g args st K r:=by
 unfold Mb at hc;refine⟨h.enters,λm a as_ w vs a8 a2=>?_⟩;obtain⟨args,a6,hc,u,ae,y⟩:=Aj0 a8 a2 hc;cases a7:sr.all Ban with
 |true=>
  rw[a7]at hc;simp only at hc;split at hc
  ·rename_i x hx;cases hF:F x with
   |none=>rw[hF]at hc;cases hc
   |some r0=>rw[hF,Zc1]at hc;have a5:=G7 a5;obtain⟨hM,a9⟩:=K9 u;have aa:Reps (v0 cx.el (vx cx m (fs { st with bl:=a6 }) w).S w) (Ca 0 sa x) vs:=Gk (X:=vx cx m (fs { st with bl:=a6 }) w) (X':=v0 cx.el (vx cx m (fs { st with bl:=a6 }) w).S w) (λ_ _ h=>h) rfl rfl 0 hx (λt j=>j) y (λp hp=>by rw[a5]at hp;cases hp);refine(h.run x r0 hF w _ vs hM a9 aa).mono ?_;rintro en w' ⟨v,mc,rfl,a3,_,_,a4⟩;obtain⟨us,rfl,z⟩:=Aki a4;rw[Awv a7,Zf2]at hc;exact⟨_,rfl,_,_,m,hc,⟨rfl,rfl,rfl,rfl,rfl⟩,(a8.quiet a3).raise (Zn1 _) (Nat.le_add_right _ _),Ho (Awq a7 z)⟩
  ·cases hc
 |false=>
 rw[a7]at hc;simp only at hc;obtain⟨st1,d⟩:∃s:St,s={ st with bl:=a6 }:=⟨_,rfl⟩;replace hc:(match Nk sa st1.tk args with|some x=>(F x).bind λr=>K (Ca st1.nt sr r) { st1 with tk:=Bb st1.nt sr++st1.tk,nt:=st1.nt+sr.length }|none=>none)=some r:=by rw[d];exact hc
 have ag:Ae7 st st1:=by rw[d];exact⟨rfl,rfl,rfl,rfl,rfl⟩
 rw[<-d]at u y;clear ae a8 a2 d;obtain⟨ah,ai,aj,ak,am⟩:=ag;split at hc
 ·rename_i x hx;cases hF:F x with
  |none=>rw[hF]at hc;cases hc
  |some r0=>
   rw[hF,Zc1]at hc;obtain⟨hM,a9⟩:=K9 u;have aa:Reps (v0 cx.el (vx cx m (fs st1) w).S w) (Ca 0 sa x) vs:=Gk (X:=vx cx m (fs st1) w) (X':=v0 cx.el (vx cx m (fs st1) w).S w) (λ_ _ h=>h) rfl rfl 0 hx (λt j=>j) y (λp hp=>by rw[(G7 a5)]at hp;cases hp);refine(h.run x r0 hF w _ vs hM a9 aa).mono ?_;rintro en w' ⟨v,mc,rfl,a3,c,ab,a4⟩;refine⟨v,rfl,Ca st1.nt sr r0,{ st1 with tk:=Bb st1.nt sr++st1.tk,nt:=st1.nt+sr.length },?_⟩;have hb:∀k,k<w.heap.size->w'.heap[k]? = w.heap[k]? :=λk hk=>a3.block k hk (λ_ h=>h);let st':St:={ st1 with tk:=Bb st1.nt sr++st1.tk,nt:=st1.nt+sr.length };let m':Mp:=⟨m.bl,λt=>if t<st1.nt then m.tk t else mc.tk (t-st1.nt)⟩;have e:∀t,(fs st').al t->((fs st1).al t/\t<st1.nt/\m'.tk t=m.tk t)\/∃q,q∈Bb 0 sr/\t=st1.nt+q/\m'.tk t=mc.tk q:=λt j=>by
    have j:t∈Bb st1.nt sr++st1.tk:=j;simp at j;rcases j with j|j
    ·have:=(Aqi sr st1.nt 0 t).1 (by simpa using j);obtain⟨q,d,f⟩:=this;refine .inr ⟨q,d,f,?_⟩;simp only[m',f];rw[if_neg (by omega),show st1.nt+q-st1.nt=q by omega]
    ·have ac:t<st1.nt:=u.als t j;exact .inl ⟨j,ac,by simp[m',ac]⟩
   have fp:∀b i,D8 m' (fs st') b i->D8 m (fs st1) b i\/∃q o,q∈Bb 0 sr/\mc.tk q=some (b,o)/\o<=i:=by
    rintro b i (⟨q,hq,rfl⟩|⟨t,o,d,f,l⟩)
    ·exact .inl (.inl ⟨q,hq,rfl⟩)
    ·rcases e t d with ⟨q1,_,q3⟩|⟨q,q1,_,q3⟩
     ·rw[q3]at f;exact .inl (.inr ⟨t,o,q1,f,l⟩)
     ·rw[q3]at f;exact .inr ⟨q,o,q1,f,l⟩
   have nx:Nx (vx cx m (fs st1) w) (vx cx m' (fs st') w'):=by
    refine⟨a3.mono (λ_ _ h=>h.elim),?_,rfl,λ_ _=>rfl,Zn1 _,Nat.le_add_right _ _,λt j ha=>?_⟩
    ·rintro b i (hM|hf)
     ·exact .inl (.inl hM)
     ·rcases fp b i hf with h|⟨q,o,d,f,_⟩
      ·exact .inl (.inr h)
      ·exact .inr (c q b o d f).1
    ·have j:t<st1.nt:=j;rcases e t ha with ⟨q1,_,q3⟩|⟨q,_,q2,_⟩
     ·exact⟨q1,q3,λg o hg=>hb g (u.own_t q1 hg)⟩
     ·omega
   refine⟨m',hc,⟨ah,ai,aj,ak,am⟩,u.step (s':=fs st') rfl rfl rfl rfl rfl (a3.mono (λ_ _ h=>h.elim)) nx ?_ ?_ u.inj ?_ ?_ ?_,?_⟩
   ·intro b k hk;obtain⟨d,f⟩:=u.blks b k hk;exact⟨d,f.later nx (hb _ (u.own_b (by rw[show(fs st1).bl b=some k from hk];simp)))⟩
   ·intro t j;rcases e t j with ⟨_,q2,_⟩|⟨q,q1,q2,_⟩
    ·show t<st1.nt+sr.length;omega
    ·have:=(Gq _ _ _ q1).2;show t<st1.nt+sr.length;omega
   ·intro t t' g o o' d f l h4;rcases e t d with ⟨q1,q2,q3⟩|⟨q,q1,q2,q3⟩<;>rcases e t' f with ⟨p1,p2,p3⟩|⟨p,p1,p2,p3⟩
    ·rw[q3]at l;rw[p3]at h4;exact u.injt t t' g o o' q1 p1 l h4
    ·rw[q3]at l;rw[p3]at h4
     have:=u.own_t q1 l;have:=(c p g o' p1 h4).1;omega
    ·rw[q3]at l;rw[p3]at h4
     have:=u.own_t p1 h4;have:=(c q g o q1 l).1;omega
    ·rw[q3]at l;rw[p3]at h4
     rw[q2,p2,ab q p g o o' q1 p1 l h4]
   ·intro b t g o d f l;rcases e t f with ⟨q1,_,q3⟩|⟨q,q1,_,q3⟩
    ·rw[q3]at l;exact u.injbt b t g o d q1 l
    ·rw[q3]at l;have:=(c q g o q1 l).1;have:=u.own_b d;show m.bl b≠g;omega
   ·intro b i hf;rcases fp b i hf with h|⟨q,o,d,f,_⟩
    ·exact⟨Zx1 (u.own b i h).1 a3.size,.inl h⟩
    ·exact⟨(c q b o d f).2,.inr (c q b o d f).1⟩
   ·obtain⟨us,rfl,z⟩:=Aki a4;refine Ho ?_;have:=Amn (x:=vr cx.el (vx cx m (fs st1) w).S mc sr w') (x':=vx cx m' (fs st') w') (n:=st1.nt) (by
     rintro b i (h|h)
     ·exact .inl (.inl h)
     ·rcases fp b i h with h|⟨q,o,d,f,l⟩
      ·exact .inl (.inr h)
      ·exact .inr ⟨q,o,d,f,l⟩) rfl rfl 0 z (λp hp=>by
     have:=(Gq _ _ _ hp).2;refine⟨hp,?_,?_⟩
     ·show st1.nt+p<st1.nt+sr.length;omega
     ·show m'.tk (st1.nt+p)=mc.tk p;simp only[m'];rw[if_neg (by omega),show st1.nt+p-st1.nt=p by omega])
    rwa[Nat.add_zero]at this
 ·cases hc
variable{fn:Func}
theorem Bkx{pc:Px R}(hp:PxOk cx pc)(aa:C6 cx pc)(ab:CallQOk cx pc)(hm:cx.P.follows .mixedOrders=true){c:Code}(hf:cx.P.funcs[g]? = some fn)(hb:fn.body=some c)(y:(fn.name == "runtime.NumGoroutine")=false)(z:Bw fn.ntmps c=true)(hl:∀b,b∈A8 c->Bp cx pc b)(a2:Nat.ble args.length fn.ntmps=true){K:Yb1 D->St->Ya1 R}{r:R}(hc:Aye pc fn args st K=some r):I5 cx g args st K r:=by
 refine⟨Sx.enters_of hf (by rw[hb];rfl) y,λm a as_ w vs l o=>?_⟩;unfold Aye at hc;rw[hb]at hc;simp only at hc;have ah:vs.length<=fn.ntmps:=by rw[o.len];simpa using a2
 have a4:∀(ds:Yb1 D) (us:Yb1 Value) (i k:Nat) (d:D),Reps (vx cx m (fs st) w) ds us->get (D3 i ds) k=some d->∃v,i<=k/\us[k-i]? = some v/\Rep (vx cx m (fs st) w) d v:=by
  intro ds;induction ds with
  |nil=>intro us i k d _ h;simp[D3,get]at h
  |cons e ds ih=>
   intro us i k d l h;simp[Reps]at l;obtain⟨u,us,rfl,h1,h2⟩:=l;simp[D3]at h;rw[Bl]at h;by_cases q:k=i
   ·subst q;simp at h;subst h;exact⟨u,Zn1 _,by simp,h1⟩
   ·rw[if_neg q]at h;obtain⟨v,h3,h4,h5⟩:=ih us (i+1) k d h2 h;refine⟨v,by omega,?_,h5⟩;rw[show k-i=(k-(i+1))+1 by omega];simpa using h4
 have a5:Rel cx m { tmps:=vs.toArray++Array.replicate (fn.ntmps-vs.toArray.size) undef,defers:=[] } (a::as_) (fs { st with n:=fn.ntmps,env:=D3 0 args,lb:=st.nb,lt:=st.nt,fr:=⟨st.n,st.env,st.lb,st.lt,st.df⟩::st.fr,df:=[] }) w:=by
  refine⟨l.chg,⟨rfl,?_,λk d q=>?_⟩,⟨a,as_,rfl,l.lb,l.lt,l.env,l.frs⟩,Zn1 _,Zn1 _,l.blks,l.als,l.inj,l.injt,l.injbt,l.own,l.away,l.glb⟩
  ·show _=fn.ntmps;simp;omega
  ·obtain⟨v,_,h2,h3⟩:=a4 _ _ 0 k d o q;rw[Nat.sub_zero]at h2;refine⟨v,?_,h3⟩;have ac:k<vs.length:=(Zi2.1 h2).1;simp only[Array.getElem?_append,List.size_toArray,ac];simpa using h2
 refine calls_of_wp hf hb (Eg hp aa ab hm c _ _ r z hl hc _ m _ (a::as_) w a5 ?_);intro e st' m' a' w' q a3 j;cases e
 case exit=>cases q
 all_goals
  simp only at q;have a6:st'.fr=⟨st.n,st.env,st.lb,st.lt,st.df⟩::st.fr:=a3.2;split at q
  ·rename_i rs f fr ae ag p;rw[a6]at p;simp at p;obtain⟨rfl,rfl⟩:=p;obtain⟨us,s,a7⟩:=D7 hp j ag;have x:=j.frs;have e1:(fs st').fr=⟨st.n,st.env,st.lb,st.lt,st.df⟩::st.fr:=a6;rw[e1]at x;obtain⟨a0,r0,a8,h1,h2,h3,h4⟩:=x;simp at a8;obtain⟨rfl,rfl⟩:=a8;have hx:Nx { vx cx m' (fs st') w' with nb:=(fs st').lb,nt:=(fs st').lt } (vx cx m' (fs st') w'):=⟨Chg.refl _ _,λ_ _ h=>.inl h,rfl,λ_ _=>rfl,j.lb,j.lt,λt _ ha=>⟨ha,rfl,λ_ _ _=>rfl⟩⟩;refine⟨j.noDf ae,Sx.resv us,?_,Sx.resv us,rfl,rs,_,m',q,⟨rfl,rfl,rfl,rfl,rfl⟩,⟨j.chg,h3.later hx,h4,Nat.le_trans h1 j.lb,Nat.le_trans h2 j.lt,j.blks,j.als,j.inj,j.injt,j.injbt,j.own,j.away,j.glb⟩,Ho a7⟩;obtain⟨rl⟩:∃rl,fn.results=List.toArray rl:=⟨fn.results.toList,by simp⟩;rename_i a9;rw[Sx.results_eq,a9];rw[a9]at s;simp only[List.mapM_toArray,Sem.run_bind,map_eq_pure_bind,s];congr 1;match us with|[]=>rfl|[v]=>rfl|_::_::_=>simp[Sx.resv]
  ·cases q
theorem Baa(t:∀b j,x'.S b j->x.S b j)(hw:x'.w=x.w):∀{l:Yb1 Sg}{y:HV l}{vs:Yb1 Value}(i:Nat),Reps x (Ca i l y) vs->Reps x' ((Ca i l y).map A7) vs:=by
 have e:∀{d:D}{v:Value},RF x.S x.w d v->RF x'.S x'.w d v:=λh=>by rw[hw];exact h.later (Chg.refl _ _) (λk j hk=>.inl (t k j hk))
 have one:∀{i:Nat}{s:Sg}{y:den s}{v:Value},Rep x (C9 i s y) v->Rep x' (A7 (C9 i s y)) v:=by intro i s y v h;cases s with|int k=>simpa[C9,A7,Rep]using h|bool=>simpa[C9,A7,Rep]using h|str=>simpa[C9,A7,Rep]using h|sl c own=>cases own<;>simp[C9,Rep]at h ⊢ <;> exact⟨e h.1,trivial⟩|nl c=>simp[C9,Rep]at h;simp[C9,A7,Bvu,Rep];exact⟨e h.1,h.2⟩|sv c=>simp[C9,Rep]at h ⊢;obtain⟨f,vs,g,m,n⟩:=h;exact⟨f,vs,g,m,λj d hd=>by obtain⟨u,o,p⟩:=n j d hd;exact⟨u,o,e p⟩⟩|rw c k=>simp[C9,Rep]at h ⊢;obtain⟨f,vs,g,m,n⟩:=h;exact⟨f,vs,g,m,λq z j d r hd=>by obtain⟨u,o,p⟩:=n q z j d r hd;exact⟨u,o,e p⟩⟩|dn c=>simp[C9,Rep]at h ⊢;obtain⟨f,vs,g,m,n⟩:=h;exact⟨f,vs,g,m,λq z j d r hd=>by obtain⟨u,o,p⟩:=n q z j d r hd;exact⟨u,o,e p⟩⟩
 intro l;induction l with
 |nil=>intro y vs i h;simpa[Ca,Reps]using h
 |cons a l ih=>intro y vs i h;cases l with|nil=>simp only[Ca,Reps]at h ⊢;obtain⟨u,us,f,g,m⟩:=h;exact⟨u,us,f,one g,m⟩|cons b l=>obtain⟨y,z⟩:=y;simp[Ca,Reps]at h ⊢;obtain⟨u,us,f,g,m⟩:=h;exact⟨u,us,f,one g,ih (i+1) m⟩
theorem A8s(h:FnOk cx.P cx.el cx.gl g sa sr F)(f:Dk (Bb 0 sa) []=true){K:Yb1 D->Ya1 R}{r:R}(hc:J3 sa sr F args K=some r):∃rs,K rs=some r/\Sx.Enters cx.P g/\∀(s:FS) (m:Mp) (a:Act) (as_:Yb1 Act) (w:World) (vs:Yb1 Value),Rel cx m a as_ s w->Reps (vx cx m s w) args vs->Calls cx.P g vs.toArray w λen w'=>∃v,en = .returned v/\Rel cx m a as_ s w'/\Rep (vx cx m s w') (Hh (rs.map A7)) v:=by
 unfold J3 at hc;split at hc
 ·rename_i x u;cases j:F x with
  |none=>rw[j]at hc;cases hc
  |some y=>rw[j,Zc1]at hc;refine⟨_,hc,h.enters,λs m a as_ w vs o c=>?_⟩;obtain⟨z,k⟩:=K9 o;have l:Reps (v0 cx.el (vx cx m s w).S w) (Ca 0 sa x) vs:=Gk (X:=vx cx m s w) (X':=v0 cx.el (vx cx m s w).S w) (λ_ _ h=>h) rfl rfl 0 u (λt ht=>by cases ht) c (λp q=>by rw[(G7 f)]at q;cases q);refine(h.run x y j w _ vs z k l).mono ?_;rintro en w' ⟨v,mc,rfl,n,_,_,e⟩;refine⟨v,rfl,o.quiet n,?_⟩;obtain⟨us,rfl,d⟩:=Aki e;exact Ho (Baa (x:=vr cx.el (vx cx m s w).S mc sr w') (x':=vx cx m s w') (λb i h=>.inl h) rfl 0 d)
 ·cases hc
theorem Byr{S:Fp}{y:El c}{d:D}{u:Value}(a:Br0 c=true)(hd:(enc c y)[j]? = some d)(h:FV w d u):RF S w d u:=λw' _=>by
 have:(∃k n,d = .int k n)\/(∃b,d = .bool b)\/∃l,d = .str l:=by
  have hm:=List.mem_of_getElem? hd;cases c<;>simp[Br0]at a<;>simp[enc,or_false]at hm<;>rcases hm with rfl|hm<;>first
   |exact .inl ⟨_,_,rfl⟩
   |exact .inr (.inl ⟨_,rfl⟩)
   |exact .inr (.inr ⟨_,rfl⟩)
   |skip
  all_goals rcases hm with rfl|hm<;>first
   |exact .inl ⟨_,_,rfl⟩
   |exact .inr (.inl ⟨_,rfl⟩)
   |exact .inr (.inr ⟨_,rfl⟩)
   |skip
  all_goals rcases hm with rfl|hm<;>first
   |exact .inl ⟨_,_,rfl⟩
   |exact .inr (.inl ⟨_,rfl⟩)
   |exact .inr (.inr ⟨_,rfl⟩)
   |skip
  all_goals rcases hm with rfl|rfl<;>first
   |exact .inl ⟨_,_,rfl⟩
   |exact .inr (.inl ⟨_,rfl⟩)
   |exact .inr (.inr ⟨_,rfl⟩)
 rcases this with ⟨k,n,rfl⟩|⟨b,rfl⟩|⟨l,rfl⟩
 ·cases h with|int k n e=>exact .int k n e
 ·cases h with|bool b=>exact .bool b
 ·cases h with|str l f=>exact .str l f
theorem A7z(st:St)(k:Blk):fs (Hr st k)={ fs st with bl:=λb=>if b=(fs st).nb then some k else(fs st).bl b,nb:=(fs st).nb+1 }:=by refine FS.eq rfl rfl rfl rfl rfl ?_ rfl rfl rfl;funext b;exact Az st.bl st.nb b k
theorem A46{F:HV sa->Ya1 (HV [.sl c true])}(h:FnOk cx.P cx.el cx.gl g sa [.sl c true] F)(a9:Dk (Bb 0 sa) []=true)(aa:Br0 c=true){K:Yb1 D->St->Ya1 R}{r:R}(hc:Mj sa c F args st K=some r):I5 cx g args st K r:=by
 unfold Mj at hc;refine⟨h.enters,λm a as_ w vs ab l=>?_⟩;obtain⟨args,n,hc,hr,_,a2⟩:=Aj0 ab l hc;split at hc
 ·rename_i x hx;cases hF:F x with
  |none=>rw[hF]at hc;cases hc
  |some r0=>
   rw[hF,Zc1]at hc;obtain⟨hM,ac⟩:=K9 hr;have ae:Reps (v0 cx.el (vx cx m (fs { st with bl:=n }) w).S w) (Ca 0 sa x) vs:=Gk (X:=vx cx m (fs { st with bl:=n }) w) (X':=v0 cx.el (vx cx m (fs { st with bl:=n }) w).S w) (λ_ _ h=>h) rfl rfl 0 hx (λt ht=>ht) a2 (λp hp=>by rw[(G7 a9)]at hp;cases hp);refine(h.run x r0 hF w _ vs hM ac ae).mono ?_;rintro en w' ⟨v,mc,rfl,a4,q,_,z⟩;refine⟨v,rfl,?_⟩;simp[Hh,Ca,C9,Rep]at z;obtain⟨a5,an,f⟩:=z;have f:=f (show(0:Nat)∈Bb 0 [.sl c true] by simp[Bb]);have hq:=hr.quiet a4;by_cases he:r0=([]:Yb1 (El c))
   ·subst he;refine⟨_,_,m,hc,⟨rfl,rfl,rfl,rfl,rfl⟩,hq.raise (Nat.le_succ _) (Nat.le_succ _),?_⟩;obtain⟨ad,cap,rfl,_⟩:=a5.here.slice;simp[Hh,Rep];exact⟨λ_ _=>.nil _ _ _ _ trivial,trivial⟩
   ·have ag:List.isEmpty (α:=El c) r0=false:=by cases r0 with|nil=>exact absurd rfl he|cons _ _=>rfl
    rw[ag]at hc;rcases f with ⟨_,_,e⟩|⟨g2,cap,cur,rfl,hm,hh,a6,hle,a7⟩
    ·exact absurd e he
    ·obtain⟨ah,ai⟩:=q 0 g2 _ (by simp[Bb]) hm;have hh:w'.heap[g2]? = some (.cells cur (cx.el c) (0,0)):=hh;have aj:Rel cx m a as_ (fs { st with bl:=n,nt:=st.nt+1 }) w:=hr.raise (Zn1 _) (Nat.le_succ _);have ak:cur.toList.length=cap*csz c:=by simpa using a6
     have a8:List.length (α:=El c) r0<=maxLen:=Nat.le_trans hle a7;obtain⟨m',h1,h2⟩:=aj.newAt (k:=.dyn c r0) (g:=g2) a4 ah ai (λx' _ hw=>by
      refine⟨a8,cur.toList,cx.el c,by rw[hw,Array.toArray_toList];exact hh,ak.symm▸Nat.mul_le_mul_right _ hle,λi y j d hy hd=>?_⟩;obtain⟨ad,cap',s,a3⟩:=a5.here.slice;simp at s;rcases a3 with e|⟨b,o,e,_,am⟩
      ·exact absurd e he
      ·rw[e]at s;simp[ and_true]at s;obtain⟨⟨rfl,rfl⟩,_⟩:=s;obtain⟨u,hu,hf⟩:=am i y hy j d hd;refine⟨u,?_,Byr aa hd (by rw[hw];exact hf)⟩;rw[Nat.zero_add]at hu;have hu:w'.cell? ⟨g2,i*csz c+j,none⟩=some u:=hu;simp[World.cell?,hh]at hu;simpa using hu)
     rw[<-A7z]at h1 h2;refine⟨_,_,m',hc,⟨rfl,rfl,rfl,rfl,rfl⟩,h1,?_⟩;simp only[Rep]at h2;simp only[Hh,Rep];obtain⟨k1,k2⟩:=h2;simp[ and_true]at k2;refine⟨k1,Int.le_refl _,Int.natCast_nonneg _,by simpa using a8,some ⟨g2,0,none⟩,cap,by simp,.inr (by simp only[vx];rw[show m'.bl st.nb=g2 from k2.symm];simp),by simpa using hle,a7,cur,(0,0),by simp[vx];rw[show m'.bl st.nb=g2 from k2.symm];exact hh,by simpa using a6⟩
 ·cases hc
end
def tbl{α:Type _}:Yb1 (Nat×α)->Nat->Ya1 α|[],_=>none|(k,v)::e,n=>match Nat.beq k n with|true=>some v|false=>tbl e n
theorem Dw{α:Type _}:∀{l:Yb1 (Nat×α)}{n:Nat}{v : α},tbl l n=some v->(n,v)∈l
 |[],n,v,h=>by simp[tbl]at h
 |(k,u)::l,n,v,h=>by
  simp[tbl]at h;split at h
  ·simp_all
  ·exact Zu1 _ (Dw h)
def Ako(l:Yb1 (Nat×Ty))(t:Nat):Ty:=match tbl l t with|some ty=>ty|none=>.no
variable{el:Ck->TypeId}
theorem Ani{l:Yb1 (Nat×Ty)}(h:(l.all λp=>C0 P el (Ako l) p.1)=true)(t:Nat):C0 P el (Ako l) t=true:=by cases a:tbl l t with|none=>unfold C0;simp[Ako,a]|some ty=>exact Zg2.1 h _ (Dw a)
abbrev Fa(R:Type):=Yb1 D->St->(Yb1 D->St->Ya1 R)->Ya1 R
abbrev Ez(R:Type):=Yb1 D->(Yb1 D->Ya1 R)->Ya1 R
abbrev G4(R:Type):=Yb1 D->St->(D->Yb1 Nat->St->Ya1 R)->Ya1 R
def Bei{R:Type}(l:Yb1 (Nat×Fa R))(g:Nat):Fa R:=match tbl l g with|some f=>f|none=>λ_ _ _=>none
def A0d{R:Type}(l:Yb1 (Nat×Ez R))(g:Nat):Ez R:=match tbl l g with|some f=>f|none=>λ_ _=>none
section
variable {R:Type}{cx:Cx}
def Hg(cx:Cx)(g:Nat)(f:Fa R):Prop:=∀args st K r,f args st K=some r->I5 cx g args st K r
def Nu(cx:Cx)(g:Nat)(f:Ez R):Prop:=∀(args:Yb1 D) (K:Yb1 D->Ya1 R) (r:R),f args K=some r->∃rs,K rs=some r/\Sx.Enters cx.P g/\∀(s:FS) (m:Mp) (a:Act) (as_:Yb1 Act) (w:World) (vs:Yb1 Value),Rel cx m a as_ s w->Reps (vx cx m s w) args vs->Calls cx.P g vs.toArray w λen w'=>∃v,en = .returned v/\Rel cx m a as_ s w'/\Rep (vx cx m s w') (Hh (rs.map A7)) v
theorem Bnj{px:Px R}{l:Yb1 (Nat×Fa R)}(b:px.call=Bei l)(h:∀g f,(g,f)∈l->Hg cx g f):C6 cx px:=by intro g args st K r a;rw[b]at a;unfold Bei at a;cases c:tbl l g with|none=>rw[c]at a;cases a|some f=>rw[c]at a;exact h g f (Dw c) args st K r a
theorem Bko{px:Px R}{l:Yb1 (Nat×Ez R)}{e:Yb1 (Nat×G4 R)}(b:px.callQ=A0d l)(c:px.callW=tbl e)(h:∀g f,(g,f)∈l->Nu cx g f)(j:∀g f,(g,f)∈e->F1 cx g f):CallQOk cx px:=by
 refine⟨λg args K r a=>?_,λg F i=>?_⟩
 ·rw[b]at a;unfold A0d at a;cases d:tbl l g with|none=>rw[d]at a;cases a|some f=>rw[d]at a;exact h g f (Dw d) args K r a
 ·rw[c]at i;exact j g F (Dw i)
theorem Ab:∀g f,(g,f)∈([]:Yb1 (Nat×G4 R))->F1 cx g f:=λ_ _ h=>by cases h
theorem Avx{f:G4 R}{l:Yb1 (Nat×G4 R)}(h:F1 cx g f)(b:∀g f,(g,f)∈l->F1 cx g f):∀a f',(a,f')∈(g,f)::l->F1 cx a f':=by grind
variable{sr:Yb1 Sg}{sa:Yb1 Sg}{F:HV sa->Ya1 (HV sr)}
theorem B51(h:FnOk cx.P cx.el cx.gl g sa sr F)(a:Dk (Bb 0 sa) []=true):Hg (R:=R) cx g (Mb sa sr F):=λ_ _ _ _ hc=>Bmg h a hc
theorem B00{F:HV sa->Ya1 (HV [.sl c true])}(h:FnOk cx.P cx.el cx.gl g sa [.sl c true] F)(a:Dk (Bb 0 sa) []=true)(b:Br0 c=true):Hg (R:=R) cx g (Mj sa c F):=λ_ _ _ _ hc=>A46 h a b hc
theorem B4h(h:FnOk cx.P cx.el cx.gl g sa sr F)(a:Dk (Bb 0 sa) []=true):Nu (R:=R) cx g (J3 sa sr F):=λ_ _ _ hc=>A8s h a hc
theorem Ae:∀g f,(g,f)∈([]:Yb1 (Nat×Fa R))->Hg cx g f:=λ_ _ h=>by cases h
theorem As{f:Fa R}{l:Yb1 (Nat×Fa R)}(h:Hg cx g f)(b:∀g f,(g,f)∈l->Hg cx g f):∀a f',(a,f')∈(g,f)::l->Hg cx a f':=by grind
theorem Aa:∀g f,(g,f)∈([]:Yb1 (Nat×Ez R))->Nu cx g f:=λ_ _ h=>by cases h
theorem Bks{f:Ez R}{l:Yb1 (Nat×Ez R)}(h:Nu cx g f)(b:∀g f,(g,f)∈l->Nu cx g f):∀a f',(a,f')∈(g,f)::l->Nu cx a f':=by grind
end
variable{sa:Yb1 Sg}{f:FuncId}{gl:Nat->Ya1 Gv}
theorem FnOk.calls{F:HV sa->Ya1 Bool}(h:FnOk P el gl f sa [.bool] F){x:HV sa}{r:Bool}(d:F x=some r)(b:GlR (v0 el C2 w) gl)(e:Reps (v0 el C2 w) (Ca 0 sa x) vs):Calls P f vs.toArray w λen w'=>en = .returned (.bool r)/\Below w.heap.size w w':=by
 refine(h.run x r d w C2 vs (λ_ _ h=>h.elim) b e).mono ?_;rintro en w' ⟨v,m,rfl,c,_,_,a⟩;have:v = .bool r:=by simpa[Hh,Ca,C9,Rep]using a
 subst this;exact⟨rfl,c.below⟩
abbrev FT(sa sr:Yb1 Sg):=HV sa->Ya1 (HV sr)
abbrev A5e(R:Type):=St->(Ex->St->Ya1 R)->Ya1 R
def B44{R:Type}(l:Yb1 (Nat×A5e R))(b:Code):A5e R:=match tbl l (Rs b)with|some f=>f|none=>λ_ _=>none
def lpC(b:Code)(i:Nat):Code:=(A8 b).getD i .skip
def Mg(fn:Func):Nat:=match fn.body with|some c=>(A8 c).length|none=>0
def Sb(fn:Func):Bool:=match fn.body with|some c=>Bw fn.ntmps c|none=>false
theorem Ai{p:Nat->Prop}:∀i,i<0->p i:=λ_ h=>absurd h (Zm1 _)
theorem A4{p:Nat->Prop}{n:Nat}(h:∀i,i<n->p i)(a:p n):∀i,i<n+1->p i:=λi hi=>by grind
theorem A5f{l:Yb1 Code}{b:Code}(h:b∈l):∃i,i<l.length/\l.getD i .skip=b:=by obtain⟨i,hi,rfl⟩:=List.getElem_of_mem h;exact⟨i,hi,by simp[ hi]⟩
section
variable {R:Type}{px:Px R}{cx:Cx}
variable{fn:Func}
theorem Ake{c:Code}{n:Nat}(hb:fn.body=some c)(a:Mg fn=n)(h:∀i,i<n->Bp cx px (lp fn i)):∀b,b∈A8 c->Bp cx px b:=by intro b hm;obtain⟨i,hi,rfl⟩:=A5f hm;have:=h i (by rw[<-a];unfold Mg;rw[hb];exact hi);unfold lp at this;rw[hb]at this;exact this
theorem Qz{b:Code}{n:Nat}(a:(A8 b).length=n)(h:∀i,i<n->Bp cx px (lpC b i)):∀b',b'∈A8 b->Bp cx px b':=by intro b' hm;obtain⟨i,hi,rfl⟩:=A5f hm;exact h i (by rw[<-a];exact hi)
def A0(nb nt:Nat)(a:Px R)(fn:Func)(args:Yb1 D)(st:St)(K:Yb1 D->St->Ya1 R):Ya1 R:=match Nat.ble args.length fn.ntmps&&Nat.ble st.nb nb&&Nat.ble st.nt nt with
 |true=>Aye a fn args { st with nb:=nb,nt:=nt } K
 |false=>none
variable{m:Mp}{nt:Nat}{st:St}
theorem Bai(hb:st.nb<=nb)(a:st.nt<=nt)(h:Reps (vx cx m (fs st) w) ds vs):Reps (vx cx m (fs { st with nb:=nb,nt:=nt }) w) ds vs:=by have b:Nx (vx cx m (fs st) w) (vx cx m (fs { st with nb:=nb,nt:=nt }) w):=⟨Chg.refl _ _,λ_ _ h=>.inl h,rfl,λ_ _=>rfl,hb,a,λt _ c=>⟨c,rfl,λ_ _ _=>rfl⟩⟩;exact Reps.later b _ _ h
theorem B2d{h:Px R}{c:Code}{n:Nat}(p:PxOk cx h)(j:C6 cx h)(k:CallQOk cx h)(hm:cx.P.follows .mixedOrders=true)(q:cx.P.funcs[g]? = some fn)(hb:fn.body=some c)(e:(fn.name == "runtime.NumGoroutine")=false)(d:Sb fn=true)(s:Mg fn=n)(t:∀i,i<n->Bp cx h (lp fn i)):Hg cx g (A0 nb nt h fn):=by
 intro args st K r hc;unfold A0 at hc;split at hc
 ·rename_i b;simp only[Zb1]at b;have l:st.nb<=nb:=Nat.le_of_ble_eq_true b.1.2;have o:st.nt<=nt:=Nat.le_of_ble_eq_true b.2;obtain⟨q1,u⟩:=Bkx p j k hm q hb e (by unfold Sb at d;rw[hb]at d;exact d) (Ake hb s t) b.1.1 hc;refine⟨q1,λm a as_ w vs x f=>?_⟩;exact(u m a as_ w vs (x.raise l o) (Bai l o f)).mono λen w' ⟨v,y,rs,st',m',e2,z,e4,e5⟩=>⟨v,y,rs,st',m',e2,z,e4,e5⟩
 ·cases hc
end
variable{sr:Yb1 Sg}{fn:Func}
theorem Bp4{c:Code}{px:Px (HV sr)}{F:FT sa sr}{n:Nat}(e:P.funcs[f]? = some fn)(hb:fn.body=some c)(b:(fn.name == "runtime.NumGoroutine")=false)(hm:P.follows .mixedOrders=true)(a:(Sb fn&&Nat.ble sa.length fn.ntmps&&Dk (Bb 0 sa) [])=true)(g:Mg fn=n)
  (d:∀cx:Cx,cx.P=P->cx.el=el->cx.gl=gl->cx.I=C2->PxOk cx px/\C6 cx px/\CallQOk cx px/\∀i,i<n->Bp cx px (lp fn i)) (h:∀x,Ae1 px fn sa sr x some=F x):FnOk P el gl f sa sr F:=by
 refine Azx e hb b hm ?_ (λcx j k l m=>?_) h
 ·unfold Sb at a;rw[hb]at a;exact a
 ·obtain⟨q1,o,p,q⟩:=d cx j k l m;exact⟨q1,o,p,Ake hb g q⟩
section
variable {P:Program}{el:Ck->TypeId}{gl:Nat->Ya1 Gv}{f:FuncId}{sa sr:Yb1 Sg}
theorem FnOk.none(a:Sx.Enters P f):FnOk P el gl f sa sr (λ_=>.none):=⟨a,λ_ _ h=>by cases h⟩
theorem FnOk.rec'{body:FT sa sr->FT sa sr}(a:Sx.Enters P f)(h:∀rf,FnOk P el gl f sa sr rf->FnOk P el gl f sa sr (body rf)):∀n,FnOk P el gl f sa sr (Aj body n)
 |0=>FnOk.none a
 |n+1=>h _ (FnOk.rec' a h n)
end
def inI(n:Int):Prop:= -9223372036854775808<=n/\n<=9223372036854775807
def ln(n:Nat):Prop:=n<=9223372036854775807
def inK(k:IntKind)(n:Int):Prop:=k.min<=n/\n<=k.max
def Apd(v:Val):Prop:=inI v.kind/\inI v.n/\ln v.s.length
inductive BdExpr:Xpr->Prop
 |mk (k:Int) (v:Val) (nm:Str) (l:List Xpr):inI k->Apd v->ln nm.length->ln l.length->(∀e,e∈l->BdExpr e)->BdExpr (.mk k v nm l)
def Fz{α:Type}(p : α->Prop)(l:Yb1 α):Prop:=ln l.length/\∀x,x∈l->p x
def Bsy(c:Col):Prop:=ln c.name.length/\inI c.kind/\ln c.ref.length
def B1o(s:SetE):Prop:=ln s.name.length/\BdExpr s.e
structure BdStm (s:Stm):Prop where
 kind:inI s.kind
 name:ln s.name.length
 on:ln s.on.length
 cols:Fz Bsy s.cols
 names:Fz (λx=>ln x.length) s.names
 l:Fz BdExpr s.l
 rows:Fz (Fz BdExpr) s.rows
 sets:Fz B1o s.sets
 whr:BdExpr s.whr
 order:Fz (λx=>ln x.length) s.order
 desc:ln s.desc.length
 most:inI s.most
def B16(x:Idx):Prop:=ln x.name.length/\Fz (λs=>ln s.length) x.cols
structure BdTbl (t:Tbl):Prop where
 name:ln t.name.length
 cols:Fz Bsy t.cols
 key:Fz (λs=>ln s.length) t.key
 checks:Fz BdExpr t.checks
 idx:Fz B16 t.idx
inductive BdNode:NodeS->Prop
 |mk (k:Int) (p:List UInt8) (h:Bool) (v:List UInt8) (l:List NodeS) (s:List UInt8):inI k->ln p.length->ln v.length->ln l.length->(∀e,e∈l->BdNode e)->ln s.length->BdNode (.mk k p h v l s)
def Bx4(p:KvS):Prop:=ln p.key.length/\ln p.val.length
def B1t(r:ResS):Prop:=Fz (Fz Apd) r.rows/\inI r.n
def BdK:(c:Ck)->El c->Prop|.byte,_=>True|.int,n=>inI n|.u64,n=>inK .u64 n|.str,s=>ln s.length|.bool,_=>True|.val,v=>Apd v|.tok,t=>inI t.kind/\inI t.pos/\ln t.s.length/\inI t.n|.col,c=>Bsy c|.expr,e=>BdExpr e|.num,n=>Fz inI n.d|.vals,l=>Fz Apd l|.exprs,l=>Fz BdExpr l|.strs,l=>Fz (λs=>ln s.length) l|.bytes,l=>ln l.length|.set,s=>B1o s|.stmt,s=>BdStm s|.got,g=>inI g.pos|.pair,p=>ln p.sign.length/\inI p.kind|.idx,x=>B16 x|.tbl,t=>BdTbl t|.node,n=>BdNode n|.kv,p=>Bx4 p|.kvs,l=>Fz Bx4 l|.lay,y=>Fz Bx4 y.l/\inI y.e|.stt,n=>BdNode n|.res,r=>B1t r|.outc,o=>inI o.e/\inI o.pos/\Fz B1t o.l|.ent,x=>inI x.kind/\Bx4 x.p|.span,x=>ln x.low.length/\ln x.high.length
def BdD:D->Prop|.int k n=>inK k n|.str l=>ln l.length|.sl c xs _=>Fz (BdK c) xs|_=>True
theorem Bt{n:Int}(h:inK .i64 n):inI n:=by simpa[inK,inI,IntKind.min,IntKind.signed,IntKind.bits]using h
theorem A01{x:El c}(h:∀(j:Nat) d,(enc c x)[j]? = some d->BdD d):BdK c x:=by cases c with|byte=>trivial|int=>exact Bt (h 0 _ rfl)|u64=>exact h 0 _ rfl|str=>exact h 0 _ rfl|bool=>trivial|val=>exact⟨Bt (h 0 _ rfl),Bt (h 1 _ rfl),h 2 _ rfl⟩|tok=>exact⟨Bt (h 0 _ rfl),Bt (h 1 _ rfl),h 2 _ rfl,Bt (h 3 _ rfl)⟩|col=>exact⟨h 0 _ rfl,Bt (h 1 _ rfl),h 4 _ rfl⟩|expr=>obtain⟨k,v,nm,l⟩:=x;have f:=h 5 _ rfl;exact .mk k v nm l (Bt (h 0 _ rfl)) ⟨Bt (h 1 _ rfl),Bt (h 2 _ rfl),h 3 _ rfl⟩ (h 4 _ rfl) f.1 f.2|num=>exact h 1 _ rfl|vals=>exact h 0 _ rfl|exprs=>exact h 0 _ rfl|strs=>exact h 0 _ rfl|bytes=>exact(h 0 _ rfl).1|set=>obtain⟨i,k,v,nm,l⟩:=x;have g:=h 6 _ rfl;exact⟨h 0 _ rfl,.mk k v nm l (Bt (h 1 _ rfl)) ⟨Bt (h 2 _ rfl),Bt (h 3 _ rfl),h 4 _ rfl⟩ (h 5 _ rfl) g.1 g.2⟩|stmt=>obtain⟨_,_,_,_,_,_,_,_,_,⟨k,v,nm,l⟩,_,_,_⟩:=x;have a:=h 14 _ rfl;exact⟨Bt (h 0 _ rfl),h 1 _ rfl,h 2 _ rfl,h 3 _ rfl,h 4 _ rfl,h 5 _ rfl,h 6 _ rfl,h 7 _ rfl,.mk k v nm l (Bt (h 9 _ rfl)) ⟨Bt (h 10 _ rfl),Bt (h 11 _ rfl),h 12 _ rfl⟩ (h 13 _ rfl) a.1 a.2,h 15 _ rfl,(h 16 _ rfl).1,Bt (h 17 _ rfl)⟩|got=>exact Bt (h 0 _ rfl)|pair=>exact⟨h 0 _ rfl,Bt (h 1 _ rfl)⟩|node=>obtain⟨k,p,e,v,l,s⟩:=x;have b:=h 4 _ rfl;exact .mk k p e v l s (Bt (h 0 _ rfl)) (h 1 _ rfl).1 (h 3 _ rfl).1 b.1 b.2 (h 5 _ rfl).1|stt=>obtain⟨k,p,e,v,l,s⟩:=x;have b:=h 4 _ rfl;exact .mk k p e v l s (Bt (h 0 _ rfl)) (h 1 _ rfl).1 (h 3 _ rfl).1 b.1 b.2 (h 5 _ rfl).1|kv=>exact⟨(h 0 _ rfl).1,(h 1 _ rfl).1⟩|kvs=>exact h 0 _ rfl|lay=>exact⟨h 0 _ rfl,Bt (h 1 _ rfl)⟩|res=>exact⟨h 0 _ rfl,Bt (h 1 _ rfl)⟩|outc=>exact⟨Bt (h 0 _ rfl),Bt (h 1 _ rfl),h 2 _ rfl⟩|ent=>exact⟨Bt (h 0 _ rfl),(h 1 _ rfl).1,(h 2 _ rfl).1⟩|span=>exact⟨(h 0 _ rfl).1,(h 1 _ rfl).1⟩|idx=>exact⟨h 0 _ rfl,h 1 _ rfl⟩|tbl=>exact⟨h 0 _ rfl,h 1 _ rfl,h 2 _ rfl,h 3 _ rfl,h 4 _ rfl⟩
theorem Bgj{d:D}{v:Value}(h:FV w d v):BdD d:=by induction h with|int k n e=>exact Jl e|bool b=>trivial|str l f=>simpa[BdD,ln,maxLen]using f|nil c t a cap=>exact⟨by simp[ln],by simp⟩|sl c xs t b o cap u hle hm hc h g=>refine⟨by simp[ln,maxLen]at *;omega,λx m=>A01 λj d hd=>?_⟩;obtain⟨i,hi,rfl⟩:=List.getElem_of_mem m;exact g i _ j d (Zo1 hi) hd
def BdS:(s:Sg)->den s->Prop|.int k,n=>inK k n|.bool,_=>True|.str,s=>ln s.length|.sl c _,xs=>Fz (BdK c) xs|.sv c,x=>BdK c x|.rw c n,xs=>xs.length=n/\∀x,x∈xs->BdK c x|.dn c,xs=>xs.length<=maxLen/\∀x,x∈xs->BdK c x|.nl _,_=>True
def BdL:(l:Yb1 Sg)->HV l->Prop|[],_=>True|[a],x=>BdS a x|a::b::l,(x,y)=>BdS a x/\BdL (b::l) y
theorem Bnx{s:Sg}{y:den s}{v:Value}(h:Rep x (C9 i s y) v):BdS s y:=by cases s with|int k=>exact Jl h.u8|bool=>trivial|nl _=>trivial|str=>simpa[BdS,ln,maxLen]using h.strLen|sl c own=>cases own<;>(simp[C9]at h;exact Bgj h.1.here)|sv c=>simp[C9]at h;obtain⟨_,vs,_,_,h⟩:=h;exact A01 λj d hd=>by obtain⟨u,_,a⟩:=h j d hd;exact Bgj a.here|rw c n=>simp[C9]at h;obtain⟨b,vs,_,_,h⟩:=h;refine⟨b,λz e=>A01 λj d hd=>?_⟩;obtain⟨i,hi,rfl⟩:=List.getElem_of_mem e;obtain⟨u,_,a⟩:=h i _ j d (Zo1 hi) hd;exact Bgj a.here|dn c=>simp[C9]at h;obtain⟨b,vs,_,_,h⟩:=h;refine⟨b,λz e=>A01 λj d hd=>?_⟩;obtain⟨i,hi,rfl⟩:=List.getElem_of_mem e;obtain⟨u,_,a⟩:=h i _ j d (Zo1 hi) hd;exact Bgj a.here
theorem Ab2{x:Vx}:∀{l:Yb1 Sg}{i:Nat}{y:HV l}{vs:Yb1 Value},Reps x (Ca i l y) vs->BdL l y
 |[],_,_,_,_=>trivial
 |[a],i,y,vs,h=>by simp only[Ca]at h;obtain⟨u,us,_,c,_⟩:=h;exact Bnx c
 |a::b::l,i,(y,z),vs,h=>by simp[Ca]at h;obtain⟨u,us,_,c,d⟩:=h;exact⟨Bnx c,Ab2 d⟩
section
variable {P:Program}{el:Ck->TypeId}{gl:Nat->Ya1 Gv}{f:FuncId}{sa sr:Yb1 Sg}
theorem FnOk.fin{ι:Type}{F : ι->FT sa sr}{G:FT sa sr}(i0 : ι)(h:∀i,FnOk P el gl f sa sr (F i))(b:∀x r,BdL sa x->G x=some r->∃i,F i x=some r):FnOk P el gl f sa sr G:=⟨(h i0).enters,λx r c w M vs d e a=>by obtain⟨i,hi⟩:=b x r (Ab2 a) c;exact(h i).run x r hi w M vs d e a⟩
theorem FnOk.fin0{F G:FT sa sr}(h:FnOk P el gl f sa sr F)(a:∀x r,BdL sa x->G x=some r->F x=some r):FnOk P el gl f sa sr G:=.fin () (λ_=>h) λx r hb b=>⟨(),a x r hb b⟩
end
theorem B6c{R:Type}{b:Bool}{x:Ya1 R}(h:b=true):chk b x=x:=by subst h;rfl
theorem Be{n:Int}(h:inI n):wr .i64 n=n:=by simp[inI]at h;simp only[wr,IntKind.wrap,IntKind.signed,IntKind.bits,Bool.true_and];split<;>simp at * <;> omega
theorem B01{n:Nat}:inb (i:Int) n=decide (i<n):=by simp[inb]
theorem Sw{n:Nat}:upto (i:Int) (j:Int) n=(decide (i<=j)&&decide (j<=n)):=by simp[upto]
end Go.Ax
