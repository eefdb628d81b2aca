/- Texts of the proof,one behind the other: AxQ,AxR,AxS,AxT,AxU,AxQf,AxQg,AxQh,AxVa,AxV,AxW,AxX,AxY,AxZ. -/
import Derived.Test.YtcoaaebppfbbnaaGreatDoorV2
set_option linter.all false
open List renaming length->I,range->dy,mem_append->fM,getElem?_take->fQ,mem_cons->ek
open Option renaming some->J,none->ah
open Bool renaming true->ae,false->ai
open Decidable renaming decide->aa
open Go.Sem renaming run_bind->dG,run_pure->eW
open Nat renaming beq->bV,ble->dz,blt->ec,le_trans->e2,zero_le->cp
open Go.Region renaming ready->hM
open Go.Fence renaming wide->gK
open Go renaming Value->aA,run_underlying->eX,Operand->ct,Oper->bw,World->aK,TypeId->bD,maxLen->c5,Program->cx,execOp->cl
namespace Go
theorem dU{p:Prop}(h:p:=by decide):p:=h
theorem PB{p:Prop}(h:p:=by refine FS.eq rfl rfl rfl rfl rfl ?_ rfl rfl rfl;funext c;simp[az,oW,aj]):p:=h
theorem w9{p:Prop}(h:p:=by rw[List.length_take];omega):p:=h
theorem jU{p:Prop}(h:p:=by cases h):p:=h
theorem aer{p:Prop}(h:p:=by cases ro with|none=>exact⟨AZ _,AZ _⟩|some l=>simpa only[fv,bx]using h):p:=h
theorem PD{p:Prop}(h:p:=by rw[show(az st).ak b=J _ from aj];simp):p:=h
theorem aew{p:Prop}(h:p:=by rw[i];simp[Op.operands,Call.operands];right;simpa using cA):p:=h
theorem xf{p:Prop}(h:p:=by simp[s',aJ,az]):p:=h
theorem Gk{p:Prop}(h:p:=by simp[ed,a,FS.put,gi]):p:=h
theorem tC{p:Prop}(h:p:=by simp[dW,i]):p:=h
theorem Gp{p:Prop}(h:p:=by simp[ed,a,FS.put]):p:=h
theorem aeG{p:Prop}(h:p:=by simp only[s];rw[if_neg (by omega)]):p:=h
theorem GC{p:Prop}(h:p:=by simp[gr,aj]):p:=h
end Go
namespace Go
theorem ri{p:Prop}(h:p:=by simp[ iH]at h;obtain⟨_,rfl⟩:=h;refine⟨λ_ h=>h,λt b=>by simp[qL]at b⟩):p:=h
theorem rj{p:Prop}(h:p:=by rw[if_neg j]at f;exact iw _ _ b k bk f):p:=h
theorem Kq{p:Prop}(h:p:=by simp only[aB]at a;obtain⟨h0,us,h1,h2,h3⟩:=a;obtain rfl:=inj us h1;exact⟨h0,vs,t,b,h2,h3⟩):p:=h
theorem Kr{p:Prop}(h:p:=by rw[show k-i=(k-(i+1))+1 by omega];simpa using h4):p:=h
theorem N4{p:Prop}(h:p:=by simp[ iH]at h;obtain⟨rfl,_⟩:=h;simpa[eT,aB]using l):p:=h
theorem N5{p:Prop}(h:p:=by simp at h;subst h;exact⟨u,b2 _,by simp,h1⟩):p:=h
theorem _p{p:Prop}(h:p:=by obtain⟨rc,a,c,d⟩:=e;exact⟨rfl,λh=>absurd h dU,λ_=>⟨rc,by rw[f];exact a,c,d⟩⟩):p:=h
theorem _q{p:Prop}(h:p:=by exact ew .normal _ aR _ _ s ⟨s1,y.1⟩ (d.served aj c (by simp))):p:=h
theorem _u{p:Prop}(h:p:=by simp only[bx]at h;obtain rfl:=cU h.1;simp[aB]at a ⊢;obtain⟨vs,h1,h2⟩:=a;exact⟨vs,h1,ahJ aj h.2 h2⟩):p:=h
theorem _A{p:Prop}(h:p:=by simp[ iH]at h;obtain⟨rfl,_⟩:=h;simp[ aB]at l ⊢;obtain⟨h1,vs,h2,h3,h4⟩:=l;exact⟨h1,vs,h2,h3,λq y j e bN he=>by obtain⟨u,hu,bO⟩:=h4 q y j e bN he;exact⟨u,hu,o bO⟩⟩):p:=h
theorem _B{p:Prop}(h:p:=by have:=j.own g o (.inr ⟨t,o,ei,fK,b2 _⟩);exact⟨this.2.resolve_left id,this.1⟩):p:=h
theorem adY{p:Prop}(h:p:=by simp[aB]at a ⊢;obtain⟨c,e⟩:=aj _ (List.mem_singleton.2 rfl);exact⟨e,by rw[c];exact a.2⟩):p:=h
theorem ad9{p:Prop}(h:p:=by exact wpIn_ret (ew .ret _ aR _ _ s ⟨s1,y.1⟩ (d.served aj c (by simp)))):p:=h
theorem aea{p:Prop}(h:p:=by simp[s,if_pos (show i<=N by omega),if_pos (show i+1<=N by omega)];exact this):p:=h
end Go
namespace Go.dS
open Go.RowKit
section
variable {R:Type}{px:aM R}{ab:cB}
variable{st:bc}{aG:bc}
theorem Bh(h:mG st aG):gi (az aG) (az st)=az aG:=by
 obtain⟨h1,h2,h3,h4,h5⟩:=h;simp only[iH]at h5;refine FS.eq ?_ ?_ ?_ ?_ ?_ rfl rfl rfl rfl h5.2.symm
 .exact h1.symm
 .simp[gi,az,h2]
 .exact h3.symm
 .exact h4.symm
 .exact h5.1.symm
structure P9 (ab:cB) (o:bw) (st aG:bc) (d:D):Prop where
 same:mG st aG
 run:∀(m:dg) (a:Act) (as_:List Act) (w:aK),Rel ab m a as_ (az st) w->sh ab.P a w o λv w'=>∃aR,Rel ab aR a as_ (az aG) w'/\aB (vx ab aR (az aG) w') d v
variable{o:bw}
theorem me.seq{d:D}(h:me ab px o st aG d):P9 ab o st aG d:=⟨h.same,λm a as_ w b=>by have:=h.run (az st) m a as_ w (λ_ _ _=>rfl) ⟨rfl,rfl,rfl,rfl⟩ b;rwa[Bh h.same]at this⟩
def o8(ab:cB)(g:Nat)(args:U D)(st:bc)(K:U D->bc->af R)(r:R):Prop:=aw.jE ab.P g/\∀(m:dg) (a:Act) (as_:U Act) (w:aK) (vs:U aA),Rel ab m a as_ (az st) w->aX (vx ab m (az st) w) args vs->Calls ab.P g vs.toArray w λdv w'=>∃v,dv = .returned v/\∃rs aG aR,K rs aG = J r/\mG st aG/\Rel ab aR a as_ (az aG) w'/\aB (vx ab aR (az aG) w') (hl rs) v
def hy(ab:cB)(px:aM R):Prop:=∀(g:Nat) (args:U D) (st:bc) (K:U D->bc->af R) (r:R),px.call g args st K=J r->o8 ab g args st K r
def kZ(ab:cB)(g:Nat)(F:U D->bc->(D->U Nat->bc->af R)->af R):Prop:=∀(args:U D) (st:bc) (K:D->U Nat->bc->af R) (r:R),F args st K=J r->∃d ws aG,K d ws aG = J r/\mG st aG/\st.nb<=aG.nb/\(∀b,b∉ws->ja (az st) (az aG) b)/\aw.jE ab.P g /\ ∀(s:FS) (m:dg) (a:Act) (as_:U Act) (w:aK) (vs:U aA),gL s (az st)->Rel ab m a as_ s w->aX (vx ab m s w) args vs->Calls ab.P g vs.toArray w λdv w'=>∃v,dv = .returned v/\∃aR,Rel ab aR a as_ (gi (az aG) s) w'/\aB (vx ab aR (gi (az aG) s) w') d v
structure ik (ab:cB) (px:aM R):Prop where
 q:∀(g:Nat) (args:List D) (K:List D->Option R) (r:R),px.u0 g args K=J r->∃rs,K rs=J r/\aw.jE ab.P g/\∀(s:FS) (m:dg) (a:Act) (as_:List Act) (w:aK) (vs:List aA),Rel ab m a as_ s w->aX (vx ab m s w) args vs->Calls ab.P g vs.toArray w λdv w'=>∃v,dv = .returned v/\Rel ab m a as_ s w'/\aB (vx ab m s w') (hl (rs.map dw)) v
 w:∀g F,px.u1 g=J F->kZ ab g F
def mz(o:bw):Bool:=match o.op with|.call ⟨.builtin .len,_,⟨[_]⟩⟩=>ae|.call ⟨.builtin .len,_,_⟩=>ai|.select _ _=>ai|_=>ae
theorem Jl(h:mz o=ae):∀b xs a,o.op = .call ⟨.builtin b,xs,a⟩->b = .len->a = #[a.toList.headD 0]:=by intro b xs a c aj;subst aj;unfold mz at h;rw[c]at h;obtain⟨l⟩:=a;match l with|[]=>simp at h|[t]=>rfl|_::_::_=>simp at h
variable{P:cx}{a:Act}{g:Nat}{vs:U aA}{w:aK}{xs:Array ct}
theorem W5{f:ct}{c:Array bD}{b:U aA}(d:o.op = .call ⟨.value f,xs,c⟩)(e:a.eval f = .func (.func g) #[] b.toArray)(h:xs.toList.map a.eval=vs)(i:aw.jE P g):(cl a.eval o).run P w = .ok (.enter g (vs++b).toArray) w:=by
 have h2:xs.map a.eval=vs.toArray:=by apply Array.ext';simpa using h
 simp[cl,d,resolve,e,Deferred.ofValue,h2,invoke];simpa using (i (vs++b).toArray w)
theorem R3{f:ct}{c:Array bD}{b:U aA}(d:o.op = .call ⟨.value f,xs,c⟩)(e:a.eval f = .func (.func g) b.toArray #[])(h:xs.toList.map a.eval=vs)(i:aw.jE P g):(cl a.eval o).run P w = .ok (.enter g (b++vs).toArray) w:=by
 have h2:xs.map a.eval=vs.toArray:=by apply Array.ext';simpa using h
 simp[cl,d,resolve,e,Deferred.ofValue,h2,invoke];simpa using (i (b++vs).toArray w)
variable{r:R}
theorem ai6(bn:eR ab px)(an:hy ab px)(aj:mz o=ae){K:D->bc->af R}(h:step px o st K=J r):∀(m:dg) (a:Act) (as_:U Act) (w:aK),Rel ab m a as_ (az st) w->sh ab.P a w o λv w'=>∃d aG aR,K d aG = J r/\mG st aG/\Rel ab aR a as_ (az aG) w'/\aB (vx ab aR (az aG) w') d v:=by
 have fin:(∃d aG,K d aG = J r/\P9 ab o st aG d)->∀(m:dg) (a:Act) (as_:U Act) (w:aK),Rel ab m a as_ (az st) w->sh ab.P a w o λv w'=>∃d aG aR,K d aG = J r/\mG st aG/\Rel ab aR a as_ (az aG) w'/\aB (vx ab aR (az aG) w') d v:=by
  rintro⟨d,aG,h1,h2⟩ m a as_ w ay;rcases h2.run m a as_ w ay with ⟨v,w',h3,aR,h4,h5⟩|⟨f,args,w1,h3,h4⟩
  .exact .inl ⟨v,w',h3,d,aG,aR,h1,h2.same,h4,h5⟩
  .refine .inr ⟨f,args,w1,h3,h4.mono ?_⟩;rintro dv w' ⟨v,e,aR,h5,h6⟩;exact⟨v,e,d,aG,aR,h1,h2.same,h5,h6⟩
 have quiet:∀{K:D->bc->af R},(pn px o st λd=>K d st)=J r->∃d aG,K d aG = J r/\P9 ab o st aG d:=λh=>by obtain⟨d,aV,cA⟩:=Mh bn (Jl aj) h;exact⟨d,st,aV,(apf cA).seq⟩
 unfold step at h;split at h
 .rename_i t j;split at h
  .rename_i n c i;exact fin ⟨_,_,h,(HP bn j (.inl ⟨n,c,i,rfl⟩)).seq⟩
  .rename_i dE;split at h
   .rename_i z dB;refine fin ⟨_,_,h,(HP bn j (.inr ⟨z,λe=>?_,dB,rfl⟩)).seq⟩;rw[e]at dB;cases dB
   .cases h
 .rename_i t x y j;split at h
  .rename_i c k n eh q i aW bN;obtain⟨an,aV⟩:=fz h;simp at an;have hu:=BU an.1;exact fin ⟨_,_,aV,(SI bn j i aW bN ⟨hu.2.1,hu.2.2⟩ an.2).seq⟩
  .cases h
 .rename_i t x j;split at h
  .rename_i d ao;split at h
   .rename_i bB;exact fin ⟨_,_,h,(aca j ao bB).seq⟩
   .cases h
  .cases h
 .rename_i t len bE j;split at h
  .rename_i c i;split at h
   .rename_i xs dp;exact fin ⟨_,_,h,(am3 bn j i dp).seq⟩
   .cases h
  .cases h
 .rename_i q t x j;split at h
  .rename_i l aW i;split at h
   .rename_i cG;obtain⟨_,aV⟩:=fz h;exact fin ⟨_,_,aV,(agM bn j aW i (tI cG)).seq⟩
   .cases h
  .exact fin (quiet h)
 .rename_i x y t t' j;split at h
  .rename_i c s d i aW bN bW;have bW:=cU bW;subst bW;unfold Ki at h;split at h
   .rename_i cj xs;split at h
    .rename_i aJ;subst aJ;split at h
     .cases h
     .rename_i ys aZ;obtain⟨cE,rfl⟩:=ub aZ;by_cases b9:ys=[]
      .rw[show ys.isEmpty=ae by rw[b9];rfl,cond_true]at h;exact fin ⟨_,_,h,(aeN bn j i aW bN b9).seq⟩
      .rw[show ys.isEmpty=ai by cases ys with|nil=>exact absurd rfl b9|cons _ _=>rfl,cond_false]at h;obtain⟨bB,aV⟩:=fz h;exact fin ⟨_,_,aV,(aeP bn j i aW bN b9 qh).seq⟩
    .cases h
   .rename_i _ dL;unfold yl at h;split at h
    .split at h
     .rename_i cj xs a9 aJ;subst aJ;split at h
      .cases h
      .rename_i cc ch;split at h
       .cases h
       .rename_i ys aZ;obtain⟨bB,aV⟩:=fz h;obtain⟨cE,rfl⟩:=ub aZ;exact fin ⟨_,_,aV,(U' bn j i aW bN ch qh).seq⟩
     .cases h
    .cases h
  .rename_i s l i aW bN bW;split at h
   .rename_i am;unfold yl at h;split at h
    .split at h
     .rename_i cj xs a9 aJ;subst aJ;split at h
      .cases h
      .rename_i cc ch;split at h
       .cases h
       .rename_i ys aZ;obtain⟨bB,aV⟩:=fz h;simp[sB]at aZ;subst aZ;exact fin ⟨_,_,aV,(aeY bn j i (tI am) aW bN ch qh).seq⟩
     .cases h
    .cases h
   .cases h
  .cases h
 .rename_i x y t t' j;split at h
  .rename_i c s d i aW bN;unfold Pe at h;split at h
   .rename_i b c1 p n;split at h
    .rename_i c2 xs ap;split at h
     .rename_i ys aZ aJ;simp only[bx,dM]at aJ;obtain⟨⟨cF,aS⟩,_⟩:=id aJ;subst cF;subst aS;obtain⟨an,aV⟩:=fz h;simp at an;obtain⟨cE,rfl⟩:=ub aZ;exact fin ⟨_,_,aV,(_8 bn j i aW bN ap (cU aJ.2) an.1.1 an.1.2 an.2).seq⟩
     .cases h
    .cases h
   .cases h
  .cases h
 .rename_i f xs hd j;split at h
  .rename_i g hp bO;split at h
   .rename_i av cy;obtain⟨bz,ac⟩:=an g (av++hp) st _ r h;intro m a as_ w ay;have bL:=bO;rw[cR]at bL;obtain⟨QM,_,h2,h3⟩:=ay.env.aF (env:=get st.env) bL;simp[aB]at h3;obtain⟨dH,rfl,bk⟩:=h3;obtain⟨vs,_,h5,h6⟩:=qA ay.env (env:=get st.env) cy (λu q _=>by rw[cR]);refine .inr ⟨g,_,w,W5 j h2 h5 bz,(ac m a as_ w _ ay (h6.append bk)).mono ?_⟩;rintro dv w' ⟨v,e,rs,aG,aR,dN,eJ,gl,sr⟩;exact⟨v,e,_,aG,aR,dN,eJ,gl,sr⟩
   .cases h
  .rename_i g cZ bO;split at h
   .rename_i av cy;obtain⟨bz,ac⟩:=an g (cZ++av) st _ r h;intro m a as_ w ay;have bL:=bO;rw[cR]at bL;obtain⟨QM,_,h2,h3⟩:=ay.env.aF (env:=get st.env) bL;simp[aB]at h3;obtain⟨dH,rfl,bk⟩:=h3;obtain⟨vs,_,h5,h6⟩:=qA ay.env (env:=get st.env) cy (λu q _=>by rw[cR]);refine .inr ⟨g,_,w,R3 j h2 h5 bz,(ac m a as_ w _ ay (bk.append h6)).mono ?_⟩;rintro dv w' ⟨v,e,rs,aG,aR,dN,eJ,gl,sr⟩;exact⟨v,e,_,aG,aR,dN,eJ,gl,sr⟩
   .cases h
  .cases h
 .exact fin (quiet h)
variable{x:cM}
theorem GK{all:Array bw}{n:Nat}{df:U D}{env:Nat->af D}(e:jm x n df env a):(o.guard=ah->Region.wanted o (yielded all a.tmps)=ae)/\∀j b g,o.guard=J (j,b)->(all[j]?).bind (·.dst)=J g->(∀q,env g=J (.bool q)->Region.wanted o (yielded all a.tmps)=(q == b))/\(env g=J .undef->Region.wanted o (yielded all a.tmps)=ai):=by
 refine⟨λh=>by simp[Region.wanted,h],λj b g f i=>⟨λq d=>?_,λd=>?_⟩⟩
 .obtain⟨v,aE,c⟩:=e.get g _ d;obtain rfl:=aB.bool c;simp only[Region.wanted,f,yielded,i,bZ,aE];cases q<;>cases b<;>rfl
 .obtain⟨v,aE,c⟩:=e.get g _ d;simp[aB]at c;subst c;simp only[Region.wanted,f,yielded,i,bZ,aE];cases b<;>rfl
theorem rT{d:D}(h:get st.env g=J d):az (st.put g d)=az st:=by
 rw[od];refine FS.eq rfl ?_ rfl rfl rfl rfl rfl rfl rfl;funext j;simp[FS.put,az];by_cases a:j=g
 .subst a;simp[h]
 .simp[a]
variable{K:bc->af R}
theorem alh(y:eR ab px)(an:hy ab px)(aj:mz o=ae)(h:one px o st K=J r):∀(m:dg) (a:Act) (as_:U Act) (w:aK),Rel ab m a as_ (az st) w->tc ab.P a w o λbC w'=>∃aR aG,K aG = J r/\(aG.n=st.n/\aG.bI=st.bI)/\Rel ab aR bC as_ (az aG) w':=by
 unfold one at h;split at h
 .rename_i d ao;split at h
  .rename_i k;have k:d<st.n:=by simpa using k
   intro m a as_ w e;cases j:AA px o st with
   |some p=>
    obtain⟨b,av⟩:=p;rw[j]at h;unfold AA at j;split at j
    .rename_i f xs hd z;split at j
     .rename_i bQ bO;split at j
      .rename_i bk aJ;simp only[c4,iH]at j;obtain⟨rfl,rfl⟩:=j;obtain⟨v,aE,i⟩:=e.env.get f _ bO;simp only[aB]at i;obtain⟨vs,_,h5,h6⟩:=qA e.env (env:=get st.env) aJ (λu q _=>by rw[cR]);obtain⟨fn,tmps,bS,body,gJ,fm⟩:=y.ks _ _ _ _ _ h m a as_ w vs e h6;refine .inr (.inr ⟨m.ak bQ,fn,tmps,bS,body,w,?_,fm.mono ?_⟩)
       .have aZ:a.eval (.tmp f) = .func (.yield (m.ak bQ)) #[] #[]:=by rw[show a.eval (.tmp f)=v by simp[Act.eval,aE],i.2];rfl
        have h2:xs.map a.eval=vs.toArray:=by apply Array.ext';simpa using h5
        simp[cl,z,resolve,aZ,Deferred.ofValue,h2,invoke];exact gJ
       .rintro dv w' ⟨u,rfl,ay7,aG,aR,t,c,h1,h2⟩;refine⟨u,rfl,aR,_,t,⟨c.1,congrArg Prod.fst c.2.2.2.2⟩,?_⟩;rw[od,ao];refine h1.put ?_ h2;show d<aG.n;rw[c.1];exact k
      .cases j
     .cases j
    .cases j
   |none=>
   rw[j]at h;refine .inl ((ai6 y an aj h m a as_ w e).runs λu w' ⟨v,aG,aR,t,c,h1,h2⟩=>⟨aR,_,t,⟨c.1,congrArg Prod.fst c.2.2.2.2⟩,?_⟩);rw[od,ao];refine h1.put ?_ h2;show d<aG.n;rw[c.1];exact k
  .cases h
 .rename_i ao;unfold Ga at h;split at h
  .rename_i f hd z;split at h
   .rename_i g hp l;intro m a as_ w e;rw[cR]at l;obtain⟨v,_,aE,i⟩:=e.env.aF (env:=get st.env) l;simp only[aB]at i;obtain⟨x,rfl,s⟩:=i;refine .inr (.inl ⟨{ target:=.fn (.func g) x.toArray,args:= #[] },w,?_,m,_,h,⟨rfl,rfl⟩,?_⟩)
    .simp[cl,z,resolve,aE,Deferred.ofValue]
    .rw[ao];exact⟨e.dV,⟨⟨_,_,rfl,⟨x,rfl,s⟩,e.env.defers⟩,e.env.size,e.env.get⟩,e.gI,e.cd,e.lt,e.eb,e.hZ,e.inj,e.gb,e.fH,e.own,e.fE,e.g1⟩
   .cases h
  obtain⟨aG,t,l⟩:=Yr (ab:=ab) y h;intro m a as_ w e;obtain⟨w',aR,h1,h2⟩:=l.run (az st) m a as_ w (λ_ _ _=>rfl) ⟨rfl,rfl,rfl,rfl⟩ e;rw[Bh l.same]at h2;refine .inl (.inr (.inl ⟨w',h1,aR,aG,t,⟨l.same.1,congrArg Prod.fst l.same.2.2.2.2⟩,?_⟩));rw[ao];exact h2
variable{as_:U Act}{m:dg}
theorem akr(ao:∀d,o.dst=J d->d<st.n)(c:Rel ab m a as_ (az st) w):Rel ab m (a.put o.dst undef) as_ (az (off o st)) w:=by unfold off;cases b:o.dst with|none=>exact c|some d=>rw[od];exact c.put (ao d b) (by simp[aB];rfl)
def oP(n:Nat)(o:bw):Bool:=match o.dst with|some d=>ec d n|none=>ae
theorem aoe{x:ct}{d:Nat}(h:j2 x d=ae):x ≠ .tmp d:=by rintro rfl;simp[j2]at h
theorem jW{x:ct}{d:Nat}{v:aA}(h:j2 x d=ae):(a.put (J d) v).eval x=a.eval x:=Act.eval_put λb ao=>by simp at ao;subst ao;exact aoe h
theorem rN{d:Nat}{v:aA}(h:d<a.tmps.size):(a.put (J d) v).eval (.tmp d)=v:=by simp[Act.put,Act.eval,h]
structure AW (ab:cB) (o dq lk:bw) (st cH:bc) (m:dg) (a:Act) (as_:List Act) (w:aK) where
 d:Nat
 d2:Nat
 t2:bD
 i:ct
 u:bD
 y:ct
 bA:aA
 jR:aA
 fL:aK
 g:Nat
 off:Nat
 cs:List aA
 t0:bD
 us:List aA
 dst:o.dst=J d
 IG:dq.dst=J d2
 Cf:lk.dst=ah
 afp:o.guard=ah
 afq:dq.guard=ah
 QP:lk.guard=ah
 Q1:dq.op = .indexAddr t2 (.tmp d) i
 afG:lk.op = .store u (.tmp d2) y
 ne:d≠d2
 lt:d<st.n
 QU:d2<st.n
 afD:j2 i d=ae
 QW:j2 y d=ae
 QX:j2 y d2=ae
 run:(cl a.eval o).run ab.P w = .ok (.value bA) fL
 af0:∀(bC:Act) (w':aK),bC.eval (.tmp d)=bA->bC.eval i=a.eval i->(cl bC.eval dq).run ab.P w' = .ok (.value jR) w'
 Q9:∀(bC:Act) (w':aK) (cs':List aA),bC.eval (.tmp d2)=jR->bC.eval y=a.eval y->w'.heap[g]? = J (.cells cs'.toArray t0 (0,0))->I cs'=I cs->(cl bC.eval lk).run ab.P w' = .ok .skip (aw.setCells w' g off us)
 row:fL.heap[g]? = J (.cells cs.toArray t0 (0,0))
 axF:∀b,bu st.ak b≠ah->m.ak b≠g
 rest:∀k,k<w.heap.size->k≠g->fL.heap[k]? = w.heap[k]?
 one:aw.one bA=ae
 n:cH.n=st.n/\cH.bI=st.bI
 afk:∃c xs t,get cH.env d=J (.sl c xs t)
 afl:∀k,k≠d->k≠d2->get cH.env k=get st.env k
 ak:cH.ak=st.ak
 aR:dg
 rel:Rel ab aR ((a.put (J d) bA).put (J d2) jR) as_ (az cH) (aw.setCells fL g off us)
variable{dq:bw}{lk:bw}{cH:bc}
theorem SF(bn:eR ab px)(h:s8 px o dq lk st=J (ae,cH))(ay:Rel ab m a as_ (az st) w):Nonempty (AW ab o dq lk st cH m a as_ w):=by
 unfold s8 at h;split at h
 .rename_i x z t t' bK;split at h
  .rename_i t2 bk i aJ;split at h
   .rename_i u b y aZ;split at h
    .rename_i d d2 ao b9 ch;split at h
     .rename_i an;simp only[bx,Option.isNone_iff_eq_none,Bool.not_eq_true',Nat.blt_eq]at an;obtain⟨⟨⟨⟨⟨⟨⟨⟨⟨⟨⟨⟨gJ,fm⟩,ko⟩,c1⟩,c2⟩,iI⟩,j5⟩,m0⟩,pC⟩,m1⟩,qN⟩,sj⟩,cy⟩:=an;obtain rfl:=cU c1;obtain rfl:=cU c2;obtain rfl:=cU iI;obtain rfl:=cU j5;have bz:bk≠b:=Nat.ne_of_beq_eq_false m0;split at h
      .rename_i c j xs a9 zs k n afh ac aW dB hi bN;split at h
       .rename_i Ri e cc cE he am l;split at h
        .rename_i cZ;subst cZ;simp at h;obtain⟨⟨bL,cJ⟩,rfl⟩:=h;obtain⟨ff,rfl⟩:=ub cE;rw[cR]at aW dB hi bN;obtain⟨v,_,aE,dp⟩:=ay.env.aF (env:=get st.env) aW;obtain⟨fu,_,ap,dH⟩:=ay.env.aF (env:=get st.env) dB;obtain⟨azy,_,dE,dL⟩:=ay.env.aF (env:=get st.env) hi;obtain⟨CL,_,d_,d'⟩:=ay.env.aF (env:=get st.env) bN;obtain rfl:=aB.int dL;obtain⟨f,_,_⟩:=uz he d';obtain⟨bA,fL,g,cap,cs,t0,j6,gC,jx,Cz,ayC,ayD,aR,afZ,j8⟩:=apM (st:=st) bn ac am bL (s:=az st) ⟨rfl,rfl,rfl,rfl⟩ ay dp dH f o.type;have p:(cl a.eval o).run ab.P w = .ok (.value bA) fL:=by simp[cl,bK,resolve,invoke,builtin,aE,ap,j6]
         obtain⟨by_,eg,_,_⟩:=jC (bn.aO t2) ac;have fF:=eg;obtain⟨hu,i0,g5,ef,fG,q,_,_,dF⟩:=eg;simp only[bx]at l;have ea:aw.ft ab.P u=J CL.cells.size:=by rw[((nr (bn.aO u) (nt l.2).1).2.2),(cU l.1),<-f.1];simp
         have c0:aw.ft ab.P (ab.el j)=J (aL j):=by unfold aw.ft;simp[ef,q]
         refine⟨⟨bk,b,t2,i,u,y,bA,.pointer (J ⟨g,I xs*aL j,ah⟩),fL,g,I xs*aL j,cs,t0,CL.cells.toList,ao,b9,ch,gJ,fm,ko,aJ,aZ,bz,pC,m1,qN,sj,cy,p,λbC w' r aS=>?_,λbC w' cs' r aS e_ kM=>?_,jx,ayC,ayD,by rw[gC];rfl,⟨rfl,rfl⟩,⟨j,xs++[e],.id st.ba,?_⟩,λk r aS=>?_,rfl,aR,?_⟩⟩
         .have ju:bC.eval i = .int k n:=aS.trans dE;subst cJ;rw[gC]at r;have du:(0:Int)<=(I xs:Int)/\(I xs:Int)<((I xs+1:Nat):Int):=ag
          simp[cl,aJ,Instr.indexAt,r,ju,asIntOf,eX hu,if_pos du,aw.run_sizeOf c0,aw.hI]
         .have ju:bC.eval y=CL:=aS.trans d_;have bW:I xs*aL j+0+I CL.cells.toList<=I cs':=by rw[f.1];omega
          obtain⟨bd,_,_⟩:=aw.sz (P:=ab.P) CL.cells.toList w' g (I xs*aL j) 0 cs' t0 e_ bW f.one;simp[cl,aZ,Instr.storeAt,r,ju,Instr.sureAddr,storeVar,aw.run_sizeOf ea,ne_eq,if_false];rw[bd];simp
         .simp[bc.put,ix,if_neg bz,if_true]
         .simp[bc.put,ix,if_neg r,if_neg aS];rfl
         .have u4:gi (az (hV { st with a9:=cc })) (az st)=az (hV { st with a9:=cc }):=Bh ⟨rfl,rfl,rfl,rfl,rfl⟩;rw[u4]at afZ j8;rw[od,od];refine(afZ.put (k:=bk) pC j8).put m1 ?_;simp[aB]
        .cases h
       .cases h
      .cases h
     .cases h
    .cases h
   .cases h
  .cases h
 .cases h
variable{Q:Exit->Act->aK->Prop}{ro:af Nat}
theorem JZ(bn:eR ab px)(an:hy ab px){all:Array bw}{l:U bw}{fx:bc->af R}(aj:mz o=ae)(u:ng ro o=ae)(i:oP st.n o=ae)(h:su px all o st fx = J r)(v:Rel ab m a as_ (az st) w)
  (k:∀aG aR bC w',fx aG = J r->(aG.n=st.n/\aG.bI=st.bI)->Rel ab aR bC as_ (az aG) w'->wpListIn (jn ro) 0 ab.P all Q l bC w'):wpListIn (jn ro) 0 ab.P all Q (o::l) a w:=by
 have p:∀d,o.dst=J d->d<st.n:=λd ao=>by simpa[oP,ao]using i
 have run:∀{cD:bc},az cD=az st->(cD.n=st.n/\cD.bI=st.bI)->Region.wanted o (yielded all a.tmps)=ae->one px o cD fx = J r->wpListIn (jn ro) 0 ab.P all Q (o::l) a w:=by intro cD x f c h1;have y:=alh bn an aj h1 m a as_ w (by rw[x];exact v);simp only[wpListIn,c,if_true];refine tc.wp u (y.mono λbC w' ⟨aR,aG,aV,s,h3⟩=>?_);exact k aG aR bC w' aV ⟨s.1.trans f.1,s.2.trans f.2⟩ h3
 have skip:∀{cD:bc},az cD=az st->(cD.n=st.n/\cD.bI=st.bI)->Region.wanted o (yielded all a.tmps)=ai->fx (off o cD)=J r->wpListIn (jn ro) 0 ab.P all Q (o::l) a w:=by
  intro cD x f c h1;have z:(off o cD).n=st.n:=by rw[<-f.1];unfold off;split<;>rfl
  have aJ:(off o cD).bI=st.bI:=by rw[<-f.2];unfold off;split<;>rfl
  have t:=akr (o:=o) (st:=cD) (λd ao=>by rw[f.1];exact p d ao) (by rw[x];exact v);simp only[wpListIn,c];exact⟨λ_ _=>trivial,k _ m _ w h1 ⟨z,aJ⟩ t⟩
 obtain⟨gJ,fm⟩:=GK (all:=all) (o:=o) v.env;simp[su]at h;split at h
 .rename_i cP;exact run rfl ⟨rfl,rfl⟩ (gJ cP) h
 .rename_i j b cP;split at h
  .cases h
  .rename_i g cN;obtain⟨ko,lK⟩:=fm j b g cP cN;split at h
   .rename_i q e;have c:=ko q e;cases q with
    |true=>simp at h;cases b with|true=>exact run (rT e) ⟨rfl,rfl⟩ c h|false=>exact skip (rT e) ⟨rfl,rfl⟩ c h
    |false=>simp at h;cases b with|true=>exact skip (rT e) ⟨rfl,rfl⟩ c h|false=>exact run (rT e) ⟨rfl,rfl⟩ c h
   .rename_i e;exact skip rfl ⟨rfl,rfl⟩ (lK e) h
   .cases h
theorem oT{all:Array bw}(h:o.guard=ah)(a:Act):Region.wanted o (yielded all a.tmps)=true:=by simp[Region.wanted,h]
theorem ah6{all:Array bw}{l:U bw}(h:Rel ab m a as_ (az st) w)(f:AW ab o dq lk st cH m a as_ w)(c:wpListIn (jn ro) 0 ab.P all Q l ((a.put (J f.d) f.bA).put (J f.d2) f.jR) (aw.setCells f.fL f.g f.off f.us)):wpListIn (jn ro) 0 ab.P all Q (o::dq::lk::l) a w:=by
 have b:a.tmps.size=st.n:=h.env.size;have ao:f.d<a.tmps.size:=by rw[b];exact f.lt
 have e:f.d2<(a.put (J f.d) f.bA).tmps.size:=by simp[Act.put,b];exact f.QU
 have j:(a.put (J f.d) f.bA).eval (.tmp f.d)=f.bA:=rN ao;have aS:(a.put (J f.d) f.bA).eval f.i=a.eval f.i:=jW f.afD;have k:((a.put (J f.d) f.bA).put (J f.d2) f.jR).eval (.tmp f.d2)=f.jR:=rN e;have p:((a.put (J f.d) f.bA).put (J f.d2) f.jR).eval f.y=a.eval f.y:=(jW f.QX).trans (jW f.QW);simp only[wpListIn,oT f.afp,if_true];refine l9.wp (.inl ⟨f.bA,f.fL,f.run,?_⟩);rw[f.dst];simp only[oT f.afq,if_true];refine l9.wp (.inl ⟨f.jR,f.fL,f.af0 _ _ j aS,?_⟩);rw[f.IG];simp only[oT f.QP,if_true];refine l9.wp (.inr (.inl ⟨_,f.Q9 _ _ _ k p f.row rfl,?_⟩));rw[f.Cf];exact c
theorem yr{ro:af Nat}(g:eR ab px)(an:hy ab px){all:Array bw}:∀{l:U bw}{st:bc}{K:bc->af R}{r:R},(l.all λo=>mz o&&oP st.n o)=ae->(l.all λo=>ng ro o)=ae->ops px all l st K=J r ->
  ∀{Q:Exit->Act->aK->Prop}{m:dg}{a:Act}{as_:U Act}{w:aK},Rel ab m a as_ (az st) w->(∀aG aR bC w',K aG = J r->(aG.n=st.n/\aG.bI=st.bI)->Rel ab aR bC as_ (az aG) w'->Q .normal bC w')->wpListIn (jn ro) 0 ab.P all Q l a w
 |[],st,K,r,_,_,h,Q,m,a,as_,w,ay,ew=>ew st m a w h ⟨rfl,rfl⟩ ay
 |[o],st,K,r,bB,oy,h,Q,m,a,as_,w,ay,ew=>by simp only[et,bx]at bB oy;exact JZ g an bB.1.1 oy.1 bB.1.2 h ay λaG aR bC w' k b q=>ew aG aR bC w' k b q
 |[o,dq],st,K,r,bB,oy,h,Q,m,a,as_,w,ay,ew=>by simp only[et,bx]at bB oy;refine JZ g an bB.1.1 oy.1 bB.1.2 (show su px all o st (λaG=>ops px all [dq] aG K)=J r from h) ay λaG aR bC w' k b q=>?_;exact yr g an (by rw[b.1];simp only[et,bx];exact bB.2) (by simp only[et,bx];exact oy.2) k q (λcH u a2 w2 bd d s=>ew cH u a2 w2 bd ⟨d.1.trans b.1,d.2.trans b.2⟩ s)
 |o::dq::lk::l,st,K,r,bB,oy,h,Q,m,a,as_,w,ay,ew=>by
  rw[et,bx]at bB oy;obtain⟨i,j⟩:=bB;simp at i;simp[ops]at h;split at h
  .rename_i p v;obtain⟨c,cH⟩:=p;obtain⟨t,y⟩:=fz h;simp only at t y;subst t;obtain⟨f⟩:=SF g v ay;refine ah6 ay f ?_;simp only[et,bx]at j;have e:=oy.2;simp only[et,bx]at e;exact yr g an (by rw[f.n.1];exact j.2.2) e.2.2 y f.rel (λx z a3 w3 bd d s=>ew x z a3 w3 bd ⟨d.1.trans f.n.1,d.2.trans f.n.2⟩ s)
  .refine JZ g an i.1 oy.1 i.2 h ay λaG aR bC w' k b q=>?_;exact yr g an (by rw[b.1];exact j) oy.2 k q (λcH u a2 w2 bd d s=>ew cH u a2 w2 bd ⟨d.1.trans b.1,d.2.trans b.2⟩ s)
end
variable{c:b1}{x:cM}
theorem _K{xs:U (cL c)}{t:hY}{v:aA}(h:aB x (.sl c xs t) v):aB x (dw (.sl c xs t)) v:=by simp only[dw,aB]at h ⊢;refine⟨h.1,?_⟩;cases t with|id t=>trivial|_=>exact h.2
section
variable {R:Type}{px:aM R}{ab:cB}
def jP(o:bw)(t s:FS):FS:=if dW o then gi t s else s
structure AU (ab:cB) (px:aM R) (o:bw) (st aG:bc) (d:D) (ws:List Nat):Prop where
 same:mG st aG
 still:dW o=ai->az aG = az st
 mono:st.nb<=aG.nb
 pG:∀b,b∉ws->ja (az st) (az aG) b
 run:∀(s:FS) (m:dg) (a:Act) (as_:List Act) (w:aK),(∀t x,x∈o.op.operands->hK px s.env t x=hK px (get st.env) t x)->PT o (az st) s->Rel ab m a as_ s w->sh ab.P a w o λv w'=>∃aR,Rel ab aR a as_ (jP o (az aG) s) w'/\aB (vx ab aR (jP o (az aG) s) w') d v
variable{o:bw}{st:bc}{aG:bc}
theorem p4{d:D}{ws:U Nat}(c:dW o=ae)(hm:st.nb<=aG.nb)(g:∀b,b∉ws->ja (az st) (az aG) b)(h:me ab px o st aG d):AU ab px o st aG d ws:=⟨h.same,λe=>by(rw[c]at e;cases e),hm,g,λs m a as_ w f i j=>by have:=h.run s m a as_ w f (i.1 c) j;simpa[jP,c]using this⟩
theorem Bv(st:bc):∀b,b∉([]:U Nat)->ja (az st) (az st) b:=λb _=>ja.ve rfl b
theorem avT{d:D}(c:dW o=ai)(h:FX ab px o (get st.env) (bu st.ak) d):AU ab px o st st d []:=⟨⟨rfl,rfl,rfl,rfl,rfl⟩,λ_=>rfl,b2 _,Bv st,λs m a as_ w b f e=>by obtain⟨v,h1,h2⟩:=h s m a as_ w b f.2 e;exact .inl ⟨v,w,h1,m,by simpa[jP,c]using e,by simpa[jP,c]using h2⟩⟩
variable{r:R}
theorem amx{K:D->af R}(h:pn px o st K=J r):dW o=false:=by
 unfold pn at h;split at h<;>rename_i a<;>first
  |(simp[dW,a];done)
  |(cases h;done)
  |skip
 rename_i b xs e;split at h
 .rename_i av c;split at h
  .rename_i d ao;simp[dW,a];unfold Ee at ao;split at ao<;>first|rfl|cases ao
  .cases h
 .cases h
theorem apk(bn:eR ab px)(dL:ik ab px)(aj:mz o=ae){K:D->U Nat->bc->af R}(h:NN px o st K=J r):∃d ws aG,K d ws aG = J r/\AU ab px o st aG d ws:=by
 have quiet:(pn px o st λd=>K d [] st)=J r->∃d ws aG,K d ws aG = J r/\AU ab px o st aG d ws:=λh=>by have hw:=amx h;obtain⟨d,aV,cA⟩:=Mh bn (Jl aj) h;exact⟨d,_,st,aV,avT hw cA⟩
 have aZ:∀k,bu st.ak st.nb=ah->∀b,b∉([]:U Nat)->ja (az st) (az (hE st k)) b:=λk ac b _=>by
  have e:∀b,(az (hE st k)).ak b=if b=st.nb then J k else bu st.ak b:=λb=>fi st.ak st.nb b k
  refine⟨λq aj=>?_,λq aj d_=>?_⟩
  .have aj:bu st.ak b=J q:=aj;rw[e,if_neg (λh=>by rw[h,ac]at aj;cases aj)];exact aj
  .have d_:b<st.nb:=d_;rw[e,if_neg ag]at aj;exact aj
 unfold NN at h;split at h
 .rename_i t len bE i;have hw:dW o=false:=tC
  simp[step,i]at h;split at h
  .rename_i c p;split at h
   .rename_i xs fF;refine⟨_,_,_,h,⟨rfl,rfl,rfl,rfl,rfl⟩,λ_=>rfl,b2 _,Bv st,λs m a as_ w aJ _ ay=>?_⟩;obtain⟨am,fG,us,d',bL⟩:=Ux bn i p fF aJ ay;simp[jP,hw,if_false];refine .inl ⟨_,_,bL,m,ay.quiet (oZ w _).1,?_⟩;have:=Sw ay (oZ w (.cells us.toArray (ab.el c))).1 d' ⟨b2 _,by rw[am];exact fG⟩ (λj u cN=>by simp only[aK.cell?,l'];simpa using cN)
    rw[am]at this;simp only[_d,aB]at this ⊢;exact⟨this.1,_,by rw[am]⟩
   .cases h
  .cases h
 .rename_i q t x i;have hw:dW o=false:=tC
  simp[step,i]at h;split at h
  .rename_i l aW p;split at h
   .rename_i cG;obtain⟨_,aV⟩:=fz h;refine⟨_,_,_,aV,⟨rfl,rfl,rfl,rfl,rfl⟩,λ_=>rfl,b2 _,Bv st,λs m a as_ w aJ _ ay=>?_⟩;obtain⟨v,w',h1,h2,h3⟩:=aeZ bn i aW p (tI cG) aJ ay;simp[jP,hw,if_false];exact .inl ⟨v,w',h1,m,h2,h3⟩
   .cases h
  .obtain⟨d,aV,cA⟩:=Mh bn (Jl aj) h;refine⟨_,_,_,aV,⟨rfl,rfl,rfl,rfl,rfl⟩,λ_=>rfl,b2 _,Bv st,λs m a as_ w aJ eS ay=>?_⟩;obtain⟨v,h1,h2⟩:=cA s m a as_ w aJ (λhm=>by rw[i]at hm;cases hm) ay;simp[jP,hw,if_false];refine .inl ⟨v,w,h1,m,ay,?_⟩;cases d<;>first|exact h2|exact _K h2
 .rename_i t i;have hw:dW o=true:=tC
  split at h
  .rename_i ac;simp[step,i]at h;split at h
   .rename_i n c p;exact⟨_,_,_,h,p4 hw (Nat.le_succ _) (aZ _ ac) (HP bn i (.inl ⟨n,c,p,rfl⟩))⟩
   .split at h
    .rename_i z dB;refine⟨_,_,_,h,p4 hw (Nat.le_succ _) (aZ _ ac) (HP bn i (.inr ⟨z,λe=>?_,dB,rfl⟩))⟩;rw[e]at dB;cases dB
    .cases h
  .cases h
 .rename_i t x i;have hw:dW o=true:=tC
  split at h
  .rename_i ac;simp[step,i]at h;split at h
   .rename_i d ao;split at h
    .rename_i bB;exact⟨_,_,_,h,p4 hw (Nat.le_succ _) (aZ _ ac) (aca i ao bB)⟩
    .cases h
   .cases h
  .cases h
 .rename_i t x y i;have hw:dW o=true:=tC
  split at h
  .rename_i ac;simp[step,i]at h;split at h
   .rename_i c k n eh q p aW bN;obtain⟨an,aV⟩:=fz h;simp[bx]at an;have hu:=BU an.1;exact⟨_,_,_,aV,p4 hw (Nat.le_succ _) (aZ _ ac) (SI bn i p aW bN ⟨hu.2.1,hu.2.2⟩ an.2)⟩
   .cases h
  .cases h
 .rename_i f xs hd i;have fr:∀{g:Nat}{hp:U D},aF px st 0 f=J (.fn g hp)->EC g=ai->dW o=true:=λ{g hp} bO cA=>by cases f with|func fl=>simp[aF,c4,D.fn.injEq]at bO;obtain⟨rfl,_⟩:=bO;simp[dW,i,cA]|_=>simp[dW,i]
  have gk:∀{g:Nat}{az:U D},aF px st 0 f=J (.kL g az)->dW o=true:=λ{g az} bO=>by cases f with|func fl=>simp[aF]at bO|_=>simp[dW,i]
  have call:∀{g:Nat}{args:U D},(EC g=ai->dW o=ae)->FH px g args st K=J r->(∀(s:FS) (m:dg) (a:Act) (as_:U Act) (w:aK),(∀t x,x∈o.op.operands->hK px s.env t x=hK px (get st.env) t x)->Rel ab m a as_ s w->∃vs,aX (vx ab m s w) args vs/\(aw.jE ab.P g->(cl a.eval o).run ab.P w = .ok (.enter g vs.toArray) w))->∃d ws aG,K d ws aG = J r/\AU ab px o st aG d ws:=by
   intro g args gz h ch;unfold FH at h;split at h
   .rename_i F gN eu;have hw:=gz gN;obtain⟨d,ws,aG,aV,cZ,dp,ap,bk,bL⟩:=dL.w g F eu args st K r h;refine⟨d,ws,aG,aV,cZ,λe=>(by rw[hw]at e;cases e),dp,ap,λs m a as_ w aJ eS ay=>?_⟩;obtain⟨vs,h1,h2⟩:=ch s m a as_ w aJ ay;have cF:jP o (az aG) s=gi (az aG) s:=by simp[jP,hw]
    rw[cF];refine .inr ⟨g,_,w,h2 bk,(bL s m a as_ w vs (eS.1 hw) ay h1).mono ?_⟩;rintro dv w' ⟨v,dN,aR,eJ,gl⟩;exact⟨v,dN,aR,eJ,gl⟩
   .obtain⟨rs,aV,bk,bL⟩:=dL.q g args _ r h;refine⟨_,_,_,aV,⟨rfl,rfl,rfl,rfl,rfl⟩,λ_=>rfl,b2 _,Bv st,λs m a as_ w aJ eS ay=>?_⟩;obtain⟨vs,h1,h2⟩:=ch s m a as_ w aJ ay;have cF:jP o (az st) s=s:=by cases hw:dW o with|true=>simp[jP,hw,if_true];exact xE (eS.1 hw)|false=>simp[jP,hw]
    rw[cF];refine .inr ⟨g,_,w,h2 bk,(bL s m a as_ w vs ay h1).mono ?_⟩;rintro dv w' ⟨v,dN,eJ,gl⟩;exact⟨v,dN,m,eJ,gl⟩
  split at h
  .rename_i g hp bO;split at h
   .rename_i av dH;refine call (fr bO) h λs m a as_ w aJ ay=>?_;rw[cR,<-aJ _ f (by simp[i,Op.operands,Call.operands])]at bO;obtain⟨QM,_,h2,h3⟩:=ay.env.aF bO;simp[aB]at h3;obtain⟨hJ,rfl,b9⟩:=h3;obtain⟨vs,_,h5,h6⟩:=qA ay.env dH (λu q cA=>by rw[cR];exact aJ u q aew);exact⟨_,h6.append b9,λbk=>W5 i h2 h5 bk⟩
   .cases h
  .rename_i g mY bO;split at h
   .rename_i av dH;refine call (λ_=>gk bO) h λs m a as_ w aJ ay=>?_;rw[cR,<-aJ _ f (by simp[i,Op.operands,Call.operands])]at bO;obtain⟨QM,_,h2,h3⟩:=ay.env.aF bO;simp[aB]at h3;obtain⟨hJ,rfl,b9⟩:=h3;obtain⟨vs,_,h5,h6⟩:=qA ay.env dH (λu q cA=>by rw[cR];exact aJ u q aew);exact⟨_,b9.append h6,λbk=>R3 i h2 h5 bk⟩
   .cases h
  .cases h
 .rename_i x y t t' i;have hw:dW o=true:=tC
  split at h
  .rename_i c0 dd azt jN ef;simp[step,i]at h;split at h
   .rename_i c s d p aW bN;rw[ef]at aW;simp at aW;subst aW;unfold Pe at h;simp only at h;split at h
    .rename_i c2 xs iQ;split at h
     .rename_i ys bW bz;simp only[bx,dM]at bz;obtain⟨⟨cF,aS⟩,_⟩:=id bz;subst cF;subst aS;obtain⟨an,aV⟩:=fz h;simp[bx,dM]at an;obtain⟨ea,rfl⟩:=ub bW;refine⟨_,_,_,aV,p4 hw (b2 _) (λb aj=>?_) (_8 bn i p ef bN iQ (cU bz.2) an.1.1 an.1.2 an.2)⟩;have be:b≠c0:=λe=>aj tL;have e:∀k,bu (eZ st.ak c0 k) b=bu st.ak b:=λk=>by rw[oW,if_neg be]
      exact⟨λk aV=>(e _).trans aV,λk aV _=>(e _).symm.trans aV⟩
     .cases h
    .cases h
   .cases h
  .cases h
 .rename_i iR jt kk du dF bi lJ;unfold step at h;split at h
  .rename_i t i;exact absurd i (kk t)
  .rename_i t x y i;exact absurd i (dF t x y)
  .rename_i t x i;exact absurd i (du t x)
  .rename_i t len bE i;exact absurd i (iR t len bE)
  .rename_i q t x i;exact absurd i (jt q t x)
  .rename_i x y t t' i;have hw:dW o=true:=tC
   split at h
   .rename_i c s d p aW bN cy;have cy:=cU cy;subst cy;unfold Ki at h;split at h
    .rename_i cj xs;split at h
     .rename_i bz;subst bz;split at h
      .cases h
      .rename_i ys bW;obtain⟨ea,rfl⟩:=ub bW;by_cases cE:ys=[]
       .rw[show ys.isEmpty=ae by rw[cE];rfl,cond_true]at h;exact⟨_,_,_,h,p4 hw (b2 _) (λb _=>ja.ve rfl b) (aeN bn i p aW bN cE)⟩
       .rw[show ys.isEmpty=ai by cases ys with|nil=>exact absurd rfl cE|cons _ _=>rfl,cond_false]at h;obtain⟨bB,aV⟩:=fz h;exact⟨_,_,_,aV,p4 hw (b2 _) (λb _=>ja.ve rfl b) (aeP bn i p aW bN cE qh)⟩
     .cases h
    .rename_i _ mZ;unfold yl at h;split at h
     .split at h
      .rename_i cj xs a9 bz;subst bz;split at h
       .cases h
       .rename_i cc dE;split at h
        .cases h
        .rename_i ys bW;obtain⟨bB,aV⟩:=fz h;obtain⟨ea,rfl⟩:=ub bW;exact⟨_,_,_,aV,p4 hw (b2 _) (λb _=>ja.ve rfl b) (U' bn i p aW bN dE qh)⟩
      .cases h
     .cases h
   .rename_i s l p aW bN cy;split at h
    .rename_i ff;unfold yl at h;split at h
     .split at h
      .rename_i cj xs a9 bz;subst bz;split at h
       .cases h
       .rename_i cc dE;split at h
        .cases h
        .rename_i ys bW;obtain⟨bB,aV⟩:=fz h;simp[sB,dite_true,c4]at bW;subst bW;exact⟨_,_,_,aV,p4 hw (b2 _) (λb _=>ja.ve rfl b) (aeY bn i p (tI ff) aW bN dE qh)⟩
      .cases h
     .cases h
    .cases h
   .cases h
  .rename_i x y t t' i;exact absurd i (lJ x y t t')
  .rename_i f xs hd i;exact absurd i (bi f xs hd)
  .exact quiet h
def GG(all:Array bw)(T i:Nat)(a c:FS):Prop:=(∀b,ja a c b)\/∃(env:Env) (ws:U Nat),get env=a.env/\PA all T i env ws=ae/\∀b,b∉ws->ja a c b
def An(ab:cB)(all:Array bw)(T:Nat):Nat->U bw->FS->FS->Prop|_,[],a,b=>a=b|i,o::l,a,b=>∃c,c=ed o c a/\a.nb<=c.nb/\GG all T i a c/\NS ab all o a c/\An ab all T (i+1) l c b
theorem VU{all:Array bw}{T:Nat}:∀{l:U bw}{i:Nat}{a b:FS},An ab all T i l a b->∃s:Nat->FS,s 0=a/\s (I l)=b/\∀j o,l[j]? = J o->s (j+1)=ed o (s (j+1)) (s j)/\(s j).nb<=(s (j+1)).nb/\GG all T (i+j) (s j) (s (j+1))/\NS ab all o (s j) (s (j+1))
 |[],i,a,b,h=>⟨λ_=>a,rfl,h,by simp⟩
 |o::l,i,a,b,⟨c,h1,h2,axJ,h3,h4⟩=>by obtain⟨s,e,aS,f⟩:=VU h4;refine⟨λj=>match j with|0=>a|j+1=>s j,rfl,aS,λj o' d=>?_⟩;cases j with|zero=>simp at d;subst d;simp[e];exact⟨h1,h2,axJ,h3⟩|succ j=>have:=f j o' tB;rw[show i+(j+1)=i+1+j by omega];exact this
theorem Tg{all:Array bw}{s eE:FS}(h:∀k,k∈o.looksAt all->s.env k=eE.env k):∀t x,x∈o.op.operands->hK px s.env t x=hK px eE.env t x:=by intro t x a;cases x with|tmp k=>exact h k (List.mem_append_left _ (List.mem_filterMap.2 ⟨.tmp k,by simpa using a,rfl⟩))|_=>rfl
variable{k:Nat}
theorem W3{d:D}(ao:o.dst=J k)(e:mG st aG)(b:dW o=ai->az aG = az st)(s:FS):ed o (az (aG.put k d)) s=(jP o (az aG) s).put k d:=by
 have _:=e;have _:=b;rw[od];cases a:dW o
 .have c:jP o (az aG) s=s:=by simp[jP,a]
  rw[c];refine FS.eq rfl ?_ rfl rfl rfl Gp Gp Gp Gp;funext j;simp[ed,FS.put,ao]
 .have c:jP o (az aG) s=gi (az aG) s:=by simp[jP,a]
  rw[c];refine FS.eq rfl ?_ rfl rfl rfl Gk Gk Gk Gk;funext j;simp[ed,FS.put,ao,gi]
theorem art{s:FS}(d:dW o=ae->gL s (az st)):ed o (az (off o st)) s=match o.dst with
  |some k=>s.put k .undef
  |none=>s:=by
 have b:(az (off o st)).ak=(az st).ak/\(az (off o st)).nb=(az st).nb/\(az (off o st)).cc=(az st).cc/\(az (off o st)).ba=(az st).ba:=by unfold off;split<;>exact⟨rfl,rfl,rfl,rfl⟩
 have a:(ed o (az (off o st)) s).ak=s.ak/\(ed o (az (off o st)) s).nb=s.nb/\(ed o (az (off o st)) s).cc=s.cc/\(ed o (az (off o st)) s).ba=s.ba:=by
  cases c:dW o
  .simp[ed,c]
  .obtain⟨h1,h2,h3,h4⟩:=d c;simp[ed,c,if_true,b.1,b.2.1,b.2.2.1,b.2.2.2];exact⟨h1.symm,h2.symm,h3.symm,h4.symm⟩
 cases ao:o.dst with
 |none=>refine FS.eq rfl (by simp[ed,ao]) rfl rfl rfl a.1 a.2.1 a.2.2.1 a.2.2.2
 |some k=>
  refine FS.eq rfl ?_ rfl rfl rfl a.1 a.2.1 a.2.2.1 a.2.2.2;funext j;have:(az (off o st)).env k=J .undef:=by unfold off;rw[ao];simp only;rw[od];simp[FS.put]
  simp[ed,FS.put,ao,this]
variable{K:bc->af R}{i:Nat}
theorem aiv(bn:eR ab px)(z:ik ab px){all:Array bw}{T:Nat}(aj:mz o=ae)(h:wP px all T i o st K=J r):∃aG,K aG = J r/\aG.n=st.n/\az aG = ed o (az aG) (az st)/\st.nb<=aG.nb/\GG all T i (az st) (az aG)/\∀(s:FS) (m:dg) (a:Act) (as_:U Act) (w:aK),(∀k,k∈o.looksAt all->s.env k=(az st).env k)->PT o (az st) s->s.n=st.n->Rel ab m a as_ s w->l9 ab.P a w o λbC w'=>∃aR,Rel ab aR bC as_ (ed o (az aG) s) w':=by
 unfold wP at h;split at h
 .rename_i k ao;split at h
  .rename_i g;have g:k<st.n:=xg
   obtain⟨d,ws,aG,l,c⟩:=apk bn z aj h;split at l
   .rename_i f;refine⟨_,l,c.same.1,?_,c.mono,?_,λs m a as_ w j eS cJ ay=>?_⟩
    .rw[W3 ao c.same c.still];rw[od];congr 1;unfold jP;split
     .exact(Bh c.same).symm
     .rename_i u;exact c.still (by simpa using u)
    .have e:∀b,b∉ws->ja (az st) (az (aG.put k d)) b:=λb aj=>by rw[od];exact c.pG b aj
     simp at f;rcases f with h1|h1
     .have:ws=[]:=nk
      subst this;exact .inl λb=>e b (by simp)
     .exact .inr ⟨st.env,ws,rfl,h1,e⟩
    .refine(c.run s m a as_ w (Tg j) eS ay).runs λv w' ⟨aR,h1,h2⟩=>⟨aR,?_⟩;rw[W3 ao c.same c.still,ao];refine h1.put ?_ h2;have:(jP o (az aG) s).n=s.n:=by unfold jP;split<;>rfl
     rw[this,cJ];exact g
   .cases l
  .cases h
 .rename_i ao;split at h
  .rename_i f;obtain⟨aG,l,c⟩:=Yr (ab:=ab) bn h;have aJ:∃t x y,o.op = .store t x y:=by
    unfold p6 at h;split at h
    .rename_i t x y bK;exact⟨t,x,y,bK⟩
    .cases h
   obtain⟨ayZ,hL,I',bK⟩:=aJ;have u:dW o=true:=by simp[dW,bK]
   have p:∀s,ed o (az aG) s=gi (az aG) s:=λs=>by refine FS.eq rfl (by simp[ed,ao,gi]) rfl rfl rfl ?_ ?_ ?_ ?_<;>simp[ed,u,gi]
   have q:=c.pG;refine⟨aG,l,c.same.1,?_,q.1,.inr ⟨st.env,_,rfl,f,q.2⟩,λs m a as_ w j eS cJ ay=>?_⟩
   .rw[p];exact(Bh c.same).symm
   .obtain⟨w',aR,h1,h2⟩:=c.run s m a as_ w (Tg j) (eS.1 u) ay;refine .inr (.inl ⟨w',h1,aR,?_⟩);rw[ao,p];exact h2
  .cases h
theorem LQ(bn:eR ab px)(aJ:ik ab px){all:Array bw}{T:Nat}:∀{l:U bw}{i:Nat}{st:bc}{K:bc->af R}{r:R},(l.all λo=>mz o&&oP st.n o)=ae->wM px all T i l st K=J r->∃aG,K aG = J r/\aG.n=st.n/\An ab all T i l (az st) (az aG)
 |[],i,st,K,r,_,h=>⟨st,h,rfl,rfl⟩
 |o::l,i,st,K,r,bB,h=>by
  simp only[et,bx]at bB;obtain⟨⟨aj,bz⟩,cy⟩:=bB;have ac:∀d,o.dst=J d->d<st.n:=λd ao=>by simpa[oP,ao,Nat.blt_eq]using bz
  have bL:∀n,n=st.n->(l.all λo=>mz o&&oP n o)=true:=λn e=>by subst e;exact cy
  have f:∀(s:FS) (j:Nat) (b:Bool) (g:Nat),o.guard=J (j,b)->(all[j]?).bind (·.dst)=J g->(∀k,k∈o.looksAt all->s.env k=(az st).env k)->s.env g=get st.env g:=λs j b g y cN c=>by refine c g (List.mem_append_right _ ?_);rw[y];simp[cN]
  have run:∀{cD:bc},az cD=az st->cD.n=st.n->(∀(s:FS) (m:dg) (a:Act) (as_:U Act) (w:aK),(∀k,k∈o.looksAt all->s.env k=(az st).env k)->Rel ab m a as_ s w->Region.wanted o (yielded all a.tmps)=ae)->(wP px all T i o cD λaG=>wM px all T (i+1) l aG K)=J r->∃aG,K aG = J r/\aG.n=st.n/\An ab all T i (o::l) (az st) (az aG):=by intro cD u cJ z h1;obtain⟨cH,aV,v,cE,aZ,am,bW⟩:=aiv (all:=all) bn aJ aj h1;obtain⟨bk,dN,eJ,gl⟩:=LQ bn aJ (bL _ (v.trans cJ)) aV;have aZ:(az cD).nb<=(az cH).nb:=aZ;refine⟨bk,dN,eJ.trans (v.trans cJ),az cH,by rw[<-u];exact cE,by rw[<-u];exact aZ,by rw[<-u];exact am,λs m a as_ w c eS b9 p=>?_,gl⟩;exact .inl ⟨z s m a as_ w c p,bW s m a as_ w (by rw[u];exact c) (by rw[u];exact eS) (b9.trans cJ.symm) p⟩
  have skip:∀{cD:bc},az cD=az st->cD.n=st.n->(∀(s:FS) (m:dg) (a:Act) (as_:U Act) (w:aK),(∀k,k∈o.looksAt all->s.env k=(az st).env k)->Rel ab m a as_ s w->Region.wanted o (yielded all a.tmps)=ai)->wM px all T (i+1) l (off o cD) K=J r->∃aG,K aG = J r/\aG.n=st.n/\An ab all T i (o::l) (az st) (az aG):=by
   intro cD u cJ z h1;have ch:(off o cD).n=st.n:=by rw[<-cJ];unfold off;split<;>rfl
   obtain⟨bk,dN,eJ,gl⟩:=LQ bn aJ (bL _ ch) h1;have t:∀s:FS,(dW o=ae->gL s (az st))->ed o (az (off o cD)) s=match o.dst with|some k=>s.put k .undef|none=>s:=λs eS=>art (by rw[u];exact eS)
   have cF:(az (off o cD)).ak=(az st).ak/\(az (off o cD)).nb=(az st).nb:=by rw[<-u];unfold off;split<;>exact⟨rfl,rfl⟩
   refine⟨bk,dN,eJ.trans ch,az (off o cD),?_,by rw[cF.2];exact b2 _,.inl λb=>ja.ve cF.1 b,λs m a as_ w c eS v p=>.inr ⟨z s m a as_ w c p,m,?_⟩,gl⟩
   .rw[t (az st) (λ_=>⟨rfl,rfl,rfl,rfl⟩)];unfold off;cases ao:o.dst with|none=>exact u|some k=>simp only;rw[od,u]
   .rw[t s eS.1];cases ao:o.dst with|none=>exact p|some k=>exact p.put (by rw[v];exact ac k ao) (by simp[aB];rfl)
  simp[wM,aef]at h;split at h
  .rename_i y;exact run rfl rfl (λs m a as_ w _ p=>(GK (all:=all) (o:=o) p.env).1 y) h
  .rename_i j b y;split at h
   .cases h
   .rename_i g cN;have ko:∀q,get st.env g=J (.bool q)->∀(s:FS) (m:dg) (a:Act) (as_:U Act) (w:aK),(∀k,k∈o.looksAt all->s.env k=(az st).env k)->Rel ab m a as_ s w->Region.wanted o (yielded all a.tmps)=(q == b):=λq x s m a as_ w c p=>((GK (all:=all) (o:=o) p.env).2 j b g y cN).1 q (by rw[f s j b g y cN c];exact x);split at h
    .rename_i q x;have z:=ko q x;cases q with
     |true=>simp[cond_true]at h;cases b with|true=>exact run (rT x) rfl z h|false=>exact skip (rT x) rfl z h
     |false=>simp[cond_false]at h;cases b with|true=>exact skip (rT x) rfl z h|false=>exact run (rT x) rfl z h
    .rename_i x;exact skip rfl rfl (λs m a as_ w c p=>((GK (all:=all) (o:=o) p.env).2 j b g y cN).2 (by rw[f s j b g y cN c];exact x)) h
    .cases h
variable{j:Nat}
theorem akI{ops:Array bw}{s:Nat->FS}(an:l2 ops s){T:Nat}(r:T<=ops.size){g:bw}(l:ops[j]? = J g)(e:j<T)(m:i<T)(f:GG ops T i (s i) (s (i+1)))(n:AJ ops i j=ai){b:Nat}(aj:CB g (s j).env b):ja (s i) (s (i+1)) b:=by
 obtain⟨k,d,h1,h2,h3⟩:=aj;rcases f with h|⟨env,ws,o,aS,p⟩
 .exact h b
 .have h4:=cX.1 aS j (List.mem_range.2 e);rw[l]at h4;simp[h1,n]at h4;obtain⟨h5,h6⟩:=h4;have h7:=TU an h5 (max i j-min i j) ag ag;rw[show min i j+(max i j-min i j)=max i j by omega]at h7;have q:(s i).env k=(s j).env k:=by
   rcases Nat.le_total i j with a|c
   .rw[Nat.min_eq_left a,Nat.max_eq_right a]at h7;exact h7.symm
   .rw[Nat.min_eq_right c,Nat.max_eq_left c]at h7;exact h7
  rw[o,q,h2]at h6;simp[h3]at h6;exact p b (by simpa using h6)
end
def qL:ck->D->af Nat|.sl _ ae,.sl _ _ (.id t)=>J t|_,_=>ah
def bS(i:Nat):U ck->U D->Nat->af Nat|s::l,d::av=>λp=>if p=i then qL s d else bS (i+1) l av p|_,_=>λ_=>ah
variable{cc:U Nat}{av:U D}
theorem Yn{a:ck}{l:U ck}{x:au (a::l)}(h:j3 (a::l) cc av=J x):∃d f y c,av=d::f/\tl cc a d=J (y,c)/\((l=[]/\f = [])\/∃z,j3 l c f = J z)/\∀i,en i (a::l) x=eT i a y::(match l with|[]=>[]|b::kR=>match j3 (b::kR) c f with|some z=>en (i+1) (b::kR) z|none=>[]):=by
 cases l with
 |nil=>
  cases av with
  |nil=>simp[j3]at h
  |cons d av=>
   cases av with
   |nil=>
    simp[j3]at h;split at h
    .rename_i y c g;simp at h;subst h;exact⟨d,[],y,c,rfl,g,.inl ⟨rfl,rfl⟩,λi=>rfl⟩
    .cases h
   |cons e av=>simp[j3]at h
 |cons b l=>
  cases av with
  |nil=>simp[j3]at h
  |cons d av=>
   simp[j3]at h;split at h
   .rename_i y c g;split at h
    .rename_i z j;simp at h;subst h;exact⟨d,av,y,c,rfl,g,.inr ⟨z,j⟩,λi=>by simp[en,j]⟩
    .cases h
   .cases h
theorem SV{c:U Nat}{s:ck}{d:D}{y:den s}(h:tl cc s d=J (y,c)):(∀t,t∈c->t∈cc)/\(∀t,qL s d=J t->t∈cc/\t∉c):=by
 unfold tl at h;split at h
 .split at h
  .exact ri
  .cases h
 .exact ri
 .exact ri
 .split at h
  .split at h
   .split at h
    .rename_i e a;obtain⟨_,rfl⟩:=h;unfold lv at a;split at a
     .cases a
     .simp at a;subst a;refine⟨λ_ h=>h,λt b=>by simp[qL]at b⟩
     .split at a
      .rename_i t0 an;simp at a;subst a;refine⟨λt f=>(List.mem_filter.1 f).1,λt b=>?_⟩;simp[qL]at b
       simp_all
      .cases a
     all_goals cases a
    .cases h
   .exact ri
  .cases h
 .split at h
  .exact ri
  .cases h
 .split at h
  .split at h
   .exact ri
   .cases h
  .cases h
 .split at h
  .exact ri
  .cases h
 .split at h
  .split at h
   .split at h
    .exact ri
    .cases h
   .cases h
  .cases h
 .cases h
theorem xT(s:ck)(d:D)(l:U ck)(av:U D)(i p:Nat)(h:p≠i):bS i (s::l) (d::av) p=bS (i+1) l av p:=by simp[bS,h]
theorem D5(s:ck)(d:D)(l:U ck)(av:U D)(i:Nat):bS i (s::l) (d::av) i=qL s d:=by simp[bS]
theorem BV:∀{l:U ck}{cc:U Nat}{av:U D}{x:au l}(i:Nat),j3 l cc av=J x->(∀p t,bS i l av p=J t->t∈cc/\i<=p)/\∀p q t,bS i l av p=J t->bS i l av q=J t->p=q
 |[],cc,av,x,i,_=>by simp[bS]
 |a::l,cc,av,x,i,h=>by
  obtain⟨d,f,y,k,rfl,h1,h2,_⟩:=Yn h;obtain⟨n,m⟩:=SV h1;have j:(∀p t,bS (i+1) l f p=J t->t∈k/\i+1<=p)/\∀p q t,bS (i+1) l f p=J t->bS (i+1) l f q=J t->p=q:=by
   rcases h2 with ⟨rfl,rfl⟩|⟨z,o⟩
   .simp[bS]
   .exact BV (i+1) o
  refine⟨λp t c=>?_,λp q t c g=>?_⟩
  .by_cases b:p=i
   .subst b;rw[D5]at c;exact⟨(m t c).1,b2 _⟩
   .rw[xT _ _ _ _ _ _ b]at c;have:=j.1 p t c;exact⟨n t this.1,by omega⟩
  .by_cases b:p=i<;>by_cases e:q=i
   .rw[b,e]
   .exfalso;subst b;rw[xT _ _ _ _ _ _ e]at g;rw[D5]at c;exact(m t c).2 (j.1 q t g).1
   .exfalso;subst e;rw[xT _ _ _ _ _ _ b]at c;rw[D5]at g;exact(m t g).2 (j.1 p t c).1
   .rw[xT _ _ _ _ _ _ b]at c;rw[xT _ _ _ _ _ _ e]at g;exact j.2 p q t c g
theorem asA{X X':cM}(gQ:∀b i,X'.S b i->X.S b i)(hw:X'.w=X.w)(aJ:X'.el=X.el){aZ:U Nat}{s:ck}{d:D}{y:den s}{v:aA}(i:Nat)(h:tl cc s d=J (y,aZ))(bk:∀t,t∈cc->X.cc t)(l:aB X d v)(r:∀c,s = .sl c ae->i<X'.ba/\X'.m.a9 i=(qL s d).bind X.m.a9):aB X' (eT i s y) v:=by
 have o:∀{d:D}{v:aA},eI X.S X.w d v->eI X'.S X'.w d v:=λh=>by rw[hw];exact h.later (bF.refl _ _) (λk j aV=>.inl (gQ k j aV))
 unfold tl at h;split at h
 .split at h
  .rename_i aV;simp at aV;subst aV;exact N4
  .cases h
 .exact N4
 .exact N4
 .rename_i c own cj xs t;split at h
  .rename_i an;subst an;simp[aB]at l;split at h
   .split at h
    .rename_i bL a;simp[ iH]at h;obtain⟨rfl,_⟩:=h;obtain⟨h1,h2⟩:=r cj rfl;simp[eT];refine⟨o l.1,h1,λ_=>?_⟩;cases t with
     |no=>simp[lv]at a
     |z=>simp[lv]at a
     |ne=>simp[lv]at a
     |vq=>simp[lv]at a
     |f=>simp[lv]at a
     |nil=>refine .inl ⟨l.2.1,?_,l.2.2⟩;rw[h2];simp[qL]
     |id t0=>
      have bz:t0∈cc:=by
       unfold lv at a;simp only at a;split at a
       .rename_i an;simpa using an
       .cases a
      simp[qL]at h2;rcases l.2.2 (bk t0 bz)with ⟨a1,a2,a3⟩|⟨g,cap,cur,a1,a2,a3,a4⟩
      .exact .inl ⟨a1,h2.trans a2,a3⟩
      .exact .inr ⟨g,cap,cur,a1,h2.trans a2,by rw[hw,aJ];exact a3,a4⟩
    .cases h
   .simp[ iH]at h;obtain⟨rfl,_⟩:=h;simp[eT];exact⟨o l.1,trivial⟩
  .cases h
 .rename_i c d;split at h
  .rename_i ayX cI ac;simp[ iH]at h;obtain⟨rfl,_⟩:=h;obtain⟨p,x,_⟩:=uz ac l;obtain⟨vs,rfl⟩:=x cI;simp[eT];refine⟨cI,vs.toList,by simp,by simpa[aA.cells]using p.1,λj e he=>?_⟩;obtain⟨u,hu,bO⟩:=p.2 j e he;exact⟨u,by simpa[aA.cells]using hu,o bO⟩
  .cases h
 .split at h
  .rename_i c n cj hr xs an;subst an;split at h
   .rename_i cJ;have cJ:=cU cJ;subst cJ;exact _A
   .cases h
  .cases h
 .split at h
  .rename_i c cj xs an;subst an;exact _A
  .cases h
 .rename_i c cj xs t;split at h
  .split at h
   .rename_i an;have an:=of_decide_eq_true an;subst an;split at h
    .rename_i aW;cases xs with|cons _ _=>cases aW|nil=>simp[aB]at l;simp[eT,aB];exact⟨o l.1,l.2⟩
    .cases h
   .cases h
  .cases h
 .cases h
theorem o3{X X':cM}(gQ:∀b i,X'.S b i->X.S b i)(hw:X'.w=X.w)(j:X'.el=X.el):∀{l:U ck}{cc:U Nat}{av:U D}{x:au l}{vs:U aA}(i:Nat),j3 l cc av=J x->(∀t,t∈cc->X.cc t)->aX X av vs->(∀p,p∈c8 i l->p<X'.ba/\X'.m.a9 p=(bS i l av p).bind X.m.a9)->aX X' (en i l x) vs
 |[],cc,av,x,vs,i,h,_,ay,_=>by cases av with|nil=>simpa[aX,en]using ay|cons d av=>simp[j3]at h
 |a::l,cc,av,x,vs,i,h,afs,ay,u_=>by
  obtain⟨d,o,y,aJ,rfl,h1,h2,h3⟩:=Yn h;simp[aX]at ay;obtain⟨u,us,rfl,q,g⟩:=ay;rw[h3 i];simp only[aX];refine⟨u,us,rfl,asA gQ hw j i h1 afs q (λc an=>?_),?_⟩
  .subst an;have:=u_ i (by simp[c8]);rwa[D5]at this
  .rcases h2 with ⟨rfl,rfl⟩|⟨z,r⟩
   .simpa[aX]using g
   .cases l with
    |nil=>cases o with|nil=>simpa[aX]using g|cons e es=>simp[j3]at r
    |cons b kR=>
     simp[r];refine o3 gQ hw j (i+1) r (λt cg=>afs t (((SV h1).1) t cg)) g (λp f=>?_);have k:∀(l:U ck) (i p:Nat),p∈c8 i l->i<=p:=by
      intro l;induction l with
      |nil=>intro i p f;simp[c8]at f
      |cons s l v=>
       intro i p f;cases s<;>first|(have:=v (i+1) p (by simpa[c8]using f);omega)|skip
       rename_i c own;cases own with
       |true=>
        simp[c8]at f;rcases f with rfl|f
        .exact b2 _
        .have:=v (i+1) p f;omega
       |false=>have:=v (i+1) p (by simpa[c8]using f);omega
     have aZ:=k _ _ _ f;have n:p∈c8 i (a::b::kR):=by
      cases a<;>first|exact f|skip
      rename_i c own;cases own with|true=>exact nE _ f|false=>exact f
     have:=u_ p n;rwa[xT _ _ _ _ _ _ ag]at this
def pf:ck->Bool|.aI _|.rw _ _|.e3 _=>ai|_=>ae
def l_(nb:Nat):D->Bool
 |.ptr b _=>ec b nb
 |.fn _ cs=>cs.all λd=>match d with|.ptr b _=>ec b nb|_=>ai
 |.kL _ cs=>cs.all λd=>match d with|.ptr b _=>ec b nb|_=>ai
 |.lf _=>ae
 |.ks b=>ec b nb
 |.kS=>ae
 |_=>ai
def Fh(nb:Nat):D->Bool|.agg _=>ae|d=>l_ nb d
def QC(nb:Nat):g6->Bool|.cells l=>l.all pf|.one s=> !pf s|.gO _=>ae|.iT av=>av.all (l_ nb)|.g3 l b _=>l.all pf&&ec b nb|.rc _ _ _ _ env _=>env.all λp=>l_ nb p.2
def lT(s:bt):Bool:=(s.fix.all λp=>Fh s.nb p.2)&&(s.ak.all λp=>ec p.1 s.nb&&QC s.nb p.2)&&dz s.cd s.nb&&s.kq.all λp=>ec p.2.1 s.nb
def aeQ(s:ck)(d:D):Prop:=(pf s=ae->cv d=ae)/\(pf s=ai->(∃c y,d = .aI c y)\/(∃c n xs,d = .rw c n xs)\/∃c xs,d = .e3 c xs)/\(s = .sl .byte ae->∃l t,d = .sl .byte l t)
def jI:U ck->U D->Prop|[],av=>av=[]|s::l,av=>∃d r,av=d::r/\aeQ s d/\jI l r
theorem acP(i:Nat):∀(s:ck) (y:den s),aeQ s (eT i s y)
 |.int _,_=>⟨λ_=>rfl,λh=>jU,λh=>jU⟩
 |.bool,_=>⟨λ_=>rfl,λh=>jU,λh=>jU⟩
 |.str,_=>⟨λ_=>rfl,λh=>jU,λh=>jU⟩
 |.sl _ ae,l=>⟨λ_=>rfl,λh=>jU,λh=>(by cases h;exact⟨l,_,rfl⟩)⟩
 |.sl _ ai,_=>⟨λ_=>rfl,λh=>jU,λh=>jU⟩
 |.aI c,y=>⟨λh=>jU,λ_=>.inl ⟨c,y,rfl⟩,λh=>jU⟩
 |.rw c n,xs=>⟨λh=>jU,λ_=>.inr (.inl ⟨c,n,xs,rfl⟩),λh=>jU⟩
 |.e3 c,xs=>⟨λh=>jU,λ_=>.inr (.inr ⟨c,xs,rfl⟩),λh=>jU⟩
 |.nl _,_=>⟨λ_=>rfl,λh=>jU,λh=>jU⟩
theorem Ez:∀(i:Nat) (l:U ck) (x:au l),jI l (en i l x)
 |_,[],_=>rfl
 |i,[a],x=>⟨_,[],rfl,acP i a x,rfl⟩
 |i,a::b::l,(x,y)=>⟨_,_,rfl,acP i a x,Ez (i+1) (b::l) y⟩
theorem jI.len:∀{l:U ck}{av:U D},jI l av->I av=I l
 |[],av,h=>by simp[jI]at h;subst h;rfl
 |s::l,av,h=>by obtain⟨d,r,rfl,_,h2⟩:=h;simp[jI.len h2]
theorem jI.split:∀{l m:U ck}{av:U D},jI (l++m) av->jI l (av.take (I l))/\jI m (av.drop (I l))
 |[],m,av,h=>by simpa[jI]using h
 |s::l,m,av,h=>by obtain⟨d,r,rfl,h1,h2⟩:=h;obtain⟨h3,h4⟩:=jI.split h2;exact⟨⟨d,_,by simp,h1,h3⟩,by simpa using h4⟩
theorem jI.cv:∀{l:U ck}{av:U D},jI l av->l.all pf=ae->av.all cv=ae
 |[],av,h,_=>by simp[jI]at h;subst h;rfl
 |s::l,av,h,bB=>by obtain⟨d,r,rfl,h1,h2⟩:=h;simp only[et,bx]at bB ⊢;exact⟨h1.1 bB.1,h2.cv bB.2⟩
theorem aX.split:∀{A B:U D}{vs:U aA},aX x (A++B) vs->∃us ws,vs=us++ws/\aX x A us/\aX x B ws
 |[],B,vs,h=>⟨[],vs,rfl,by simp[aX],h⟩
 |d::A,B,vs,h=>by simp at h;obtain⟨u,us,rfl,h1,h2⟩:=h;obtain⟨p,q,rfl,h3,h4⟩:=aX.split h2;exact⟨u::p,q,rfl,by simp only[aX];exact⟨u,p,rfl,h1,h3⟩,h4⟩
variable{us:U aA}
theorem aX.take{ws:U aA}(h:aX x av (us++ws)):aX x (av.take (I us)) us/\aX x (av.drop (I us)) ws:=by
 have a:=h.len;simp at a;rw[<-List.take_append_drop (I us) av]at h;obtain⟨p,q,b,h1,h2⟩:=aX.split h;have c:I p=I us:=by rw[h1.len];simp;omega
 obtain⟨rfl,rfl⟩:=List.append_inj b c.symm;exact⟨h1,h2⟩
theorem GV{x:cM}{n:Nat}{df:U D}{env:Env}{a:Act}(c:jm x n df (get env) a):∀{vars:U (Nat×ck)}{A:U D},n' env vars=J A->∃mu:U aA,aX x A mu/\∀(i k:Nat) (s:ck),vars[i]? = J (k,s)->∃v,mu[i]? = J v/\a.tmps[k]? = J v
 |[],A,h=>by simp[n']at h;subst h;exact⟨[],by simp[aX],by simp⟩
 |(k0,eE)::vars,A,h=>by
  simp[n']at h;split at h
  .rename_i d av ao b;simp at h;subst h;obtain⟨mu,h1,h2⟩:=GV c b;obtain⟨v,aE,e⟩:=c.get k0 d ao;refine⟨v::mu,by simp only[aX];exact⟨v,mu,rfl,e,h1⟩,λi k s hi=>?_⟩;cases i with|zero=>grind|succ i=>grind
  .cases h
theorem XA:∀(vars:U (Nat×ck)) (E:U D),I vars<=I E->(q7 vars E).2=E.drop (I vars)/\∀k d,get (q7 vars E).1 k=J d->∃(i:Nat) (s:ck),vars[i]? = J (k,s)/\E[i]? = J d
 |[],E,_=>by cases E<;>simp[q7,get]
 |(k0,eE)::vars,[],h=>by simp at h
 |(k0,eE)::vars,e::E,h=>by
  obtain⟨h1,h2⟩:=XA vars E n1;simp only[q7];refine⟨by simpa using h1,λk d a=>?_⟩;rw[ix]at a;by_cases b:k=k0
  .subst b;simp at a;subst a;exact⟨0,eE,by simp,by simp⟩
  .rw[if_neg b]at a;obtain⟨i,s,h3,h4⟩:=h2 k d a;exact⟨i+1,s,by simpa using h3,by simpa using h4⟩
theorem V3(e f:Env)(k:Nat)(d:D)(h:get (e++f) k=J d):get e k=J d\/get f k=J d:=by
 induction e with
 |nil=>exact .inr h
 |cons p e a=>
  obtain⟨q,v⟩:=p;rw[gY,ix]at h;rw[ix];by_cases b:k=q
  .grind
  .grind
theorem acG{env:Env}{nb:Nat}:∀{iT:U (Nat×D)}{k:Nat}{d:D},p8 env iT=ae->(iT.all λp=>Fh nb p.2)=ae->get iT k=J d->Fh nb d=ae/\∃a,get env k=J a/\yc d a = ae
 |[],k,d,_,_,h=>by simp[get]at h
 |(q,v)::iT,k,d,h1,h2,h=>by
  simp[p8]at h1;simp only[et,bx]at h2;rw[ix]at h;split at h1
  .rename_i a b;simp at h1;by_cases c:k=q
   .subst c;simp at h;subst h;exact⟨h2.1,a,b,h1.1⟩
   .rw[if_neg c]at h;exact acG h1.2 h2.2 h
  .cases h1
def rk:D->U Nat|.ptr b _=>[b]|_=>[]
def iA:D->U Nat|.ptr b _=>[b]|.ks b=>[b]|.fn _ cs=>cs.flatMap rk|.kL _ cs=>cs.flatMap rk|_=>[]
variable{x':cM}
theorem ahJ:∀{cs cs':U D}{vs:U aA},(∀b,b∈cs.flatMap rk->x'.m.ak b=x.m.ak b/\b<x'.nb)->x3 cs cs' = ae->aX x cs' vs->aX x' cs vs:=by
 intro cs;induction cs with
 |nil=>intro cs' vs _ h e;cases cs' with|nil=>simpa[aX]using e|cons _ _=>simp[x3]at h
 |cons d cs f=>
  intro cs' vs aj h e;unfold x3 at h;split at h
  .exact absurd (by assumption:d::cs=[]) (by simp)
  .rename_i b o l bQ o' m a;simp at a;obtain⟨rfl,rfl⟩:=a;simp only[bx]at h;obtain rfl:=cU h.1.1;obtain rfl:=cU h.1.2;simp[aX]at e ⊢;obtain⟨u,us,rfl,h1,h2⟩:=e;simp[aB]at h1;obtain⟨g,i⟩:=aj b (by simp[rk]);exact⟨u,us,rfl,by simp[aB];exact⟨i,by rw[g];exact h1.2⟩,f (λc an=>aj c (by rw[List.flatMap_cons,fM];exact .inr an)) h.2 h2⟩
  .cases h
variable{nb:Nat}
theorem Yh{d:D}(h:l_ nb d=ae):∀b,b∈iA d->b<nb:=by
 intro b aj;cases d with
 |ptr k o=>simp[iA]at aj;subst aj;simpa[l_]using h
 |fn f cs=>simp[iA]at aj;obtain⟨c,an,a⟩:=aj;simp only[l_]at h;have h1:=cX.1 h c an;cases c with|ptr k o=>simp[rk]at a;subst a;simpa using h1|_=>simp[rk]at a
 |kL f cs=>simp[iA]at aj;obtain⟨c,an,a⟩:=aj;simp only[l_]at h;have h1:=cX.1 h c an;cases c with|ptr k o=>simp[rk]at a;subst a;simpa using h1|_=>simp[rk]at a
 |ks k=>simp[iA]at aj;subst aj;simpa[l_]using h
 |_=>simp[iA]at aj
theorem arc{d:D}(h:Fh nb d=ae):∀b,b∈iA d->b<nb:=by cases d with|agg l=>intro b aj;simp[iA]at aj|_=>exact Yh h
theorem Ur{x x':cM}:∀{av c:U D}{vs:U aA},yW av c = ae->aX x c vs->aX x' av vs/\av.all cv=ae
 |[],[],vs,_,ay=>⟨by simpa[aX]using ay,rfl⟩
 |d::av,hq::c,vs,h,ay=>by
  unfold yW at h;split at h
  .rename_i h1 h2;cases h1
  .rename_i a l b m h1 h2;cases h1;cases h2;simp at h;obtain⟨rfl,h⟩:=h;simp at ay ⊢;obtain⟨u,us,rfl,h3,h4⟩:=ay;obtain⟨h5,h6⟩:=Ur (x':=x') h h4;exact⟨⟨u,us,rfl,by simpa only[aB]using h3,h5⟩,by simpa[cv]using h6⟩
  .cases h
 |[],_::_,_,h,_=>by simp[yW]at h
 |_::_,[],_,h,_=>by simp[yW]at h
theorem ak5{d:D}(h:l_ nb d=ae):cv d=true:=by cases d<;>first|rfl|(simp[l_]at h)
theorem Qo{d f:D}{v:aA}(aj:∀b,b∈iA d->x'.m.ak b=x.m.ak b/\b<x'.nb)(h:yc d f = ae)(a:aB x f v):aB x' d v:=by
 unfold yc at h;split at h
 .simp only[bx]at h;obtain rfl:=cU h.1;obtain rfl:=cU h.2;exact adY
 .exact _u
 .exact _u
 .obtain rfl:=cU h;simp[aB]at a ⊢;exact a
 .obtain rfl:=cU h;exact adY
 .simp[aB]at a ⊢;exact a
 .simp only[aB]at a ⊢;obtain⟨_,vs,rfl,h2⟩:=a;obtain⟨h3,h4⟩:=Ur (x':=x') h h2;exact⟨h4,vs,rfl,h3⟩
 .cases h
theorem Tu{x x':cM}:∀{av a:U D}{vs:U aA},(∀d,d∈av->∀b,b∈iA d->x'.m.ak b=x.m.ak b/\b<x'.nb)->x0 av a = ae->aX x a vs->aX x' av vs
 |[],[],vs,_,_,ay=>by simpa[aX]using ay
 |[],_::_,_,_,h,_=>by simp[x0]at h
 |_::_,[],_,_,h,_=>by simp[x0]at h
 |d::av,hq::a,vs,aj,h,ay=>by simp[x0]at h;simp[aX]at ay ⊢;obtain⟨u,us,rfl,h1,h2⟩:=ay;exact⟨u,us,rfl,Qo (aj d ot) h.1 h1,Tu (λe c=>aj e (nE _ c)) h.2 h2⟩
def iv:U (Nat×g6)->U D|[]=>[]|(_,.iT av)::l=>av++iv l|(_,.cells _)::l=>iv l|(_,.one _)::l=>iv l|(_,.gO _)::l=>iv l|(_,.g3 _ b _)::l=>.ptr b 0::iv l|(_,.rc _ _ _ _ env _)::l=>env.map (·.2)++iv l
variable{β:Nat}
theorem atc{k:c_}(h:gX x β k)(i:∀t d,k ≠ .gO t d)(a:∀q,k ≠ .e' q)(b:∀s n bE bS body env,k ≠ .hc s n bE bS body env)(f:∀e,k ≠ .nN e)(g:∀j n bE bS body env q,k ≠ .lj j n bE bS body env q):∃(vs:U aA) (t:bD),x.w.heap[β]? = J (.cells vs.toArray t (0,0))/\aB x (wU k) (.agg vs.toArray):=by cases k with|gO t d=>exact absurd rfl (i t d)|e' q=>exact absurd rfl (a q)|hc s n bE bS body env=>exact absurd rfl (b s n bE bS body env)|nN e=>exact absurd rfl (f e)|lj j n bE bS body env q=>exact absurd rfl (g j n bE bS body env q)|cells av=>obtain⟨h1,vs,t,h2,h3⟩:=h;exact⟨vs,t,h2,by simp only[wU,aB];exact⟨h1,vs,rfl,h3⟩⟩|box c y=>obtain⟨h1,vs,t,h2,h3,h4⟩:=h;exact⟨vs,t,h2,by simp only[wU,aB];exact⟨h1,vs,rfl,h3,h4⟩⟩|row c n xs=>obtain⟨h1,vs,t,h2,h3,h4⟩:=h;exact⟨vs,t,h2,by simp only[wU,aB];exact⟨h1,vs,rfl,h3,h4⟩⟩|dyn c xs=>obtain⟨h1,vs,t,h2,h3,h4⟩:=h;exact⟨vs,t,h2,by simp only[wU,aB];exact⟨h1,vs,rfl,h3,h4⟩⟩
variable{t:bD}{vs:U aA}
theorem atu{d:D}(ao:(∃c y,d = .aI c y)\/(∃c n xs,d = .rw c n xs)\/∃c xs,d = .e3 c xs)(b:x.w.heap[β]? = J (.cells vs.toArray t (0,0)))(a:aB x d (.agg vs.toArray)):gX x β (age d):=by
 have inj:∀us:U aA,(aA.agg vs.toArray) = .agg us.toArray->vs=us:=λus h=>by simpa using h
 rcases ao with ⟨c,y,rfl⟩|⟨c,n,xs,rfl⟩|⟨c,xs,rfl⟩
 .exact Kq
 .exact Kq
 .exact Kq
theorem Vt:∀{k b:Nat}{c:b1}{av a:U D},wA k b c av=J a->∃f s n,av=f++[.gB b c s n]/\a = f++[.int .i64 s,.int .i64 n]/\I f=k
 |0,b,c,av,a,h=>by
  unfold wA at h;split at h
  .split at h
   .rename_i an;simp only[bx,dM]at an;obtain⟨g,rfl⟩:=an;have g:=cU g;subst g;simp at h;exact⟨[],_,_,rfl,h.symm,rfl⟩
   .cases h
  .rename_i e;cases e
  .cases h
 |k+1,b,c,[],a,h=>by simp[wA]at h
 |k+1,b,c,d::av,a,h=>by
  simp[wA]at h;split at h
  .rename_i es i;simp at h;obtain⟨f,s,n,rfl,rfl,j⟩:=Vt i;exact⟨d::f,s,n,rfl,h.symm,by simp[j]⟩
  .cases h
theorem G':∀(k b:Nat) (c:b1) (E:U D),po k b c (E.take (k+(0+1+1)))=po k b c E
 |0,b,c,[]=>rfl
 |0,b,c,[d]=>rfl
 |0,b,c,d::e::E=>by cases d<;>first|rfl|(cases e<;>rfl)
 |k+1,b,c,[]=>rfl
 |k+1,b,c,d::E=>by rw[show k+1+(0+1+1)=(k+(0+1+1))+1 by omega,List.take_succ_cons];simp[po,G' k b c E]
theorem Li{d:D}{z:Int}(j:cv d=ae)(h:aB x d (.int .i64 z)):∃k,d = .int k z:=by cases d with|int k m=>simp[aB]at h;exact⟨k,by rw[h.1.2]⟩|bool b=>simp[aB]at h|str l=>simp[aB]at h|sl c xs t=>simp[aB]at h;obtain⟨a,cap,e,_⟩:=h.1.here.slice;cases e|lb c y o=>simp only[aB]at h;obtain⟨_,_,e,_⟩:=h;cases e|ptr b o=>simp only[aB]at h;cases h.2|kS=>simp[aB]at h|lf g=>simp[aB]at h|Co l=>simp only[aB]at h;obtain⟨_,_,_,e,_⟩:=h;cases e|gB b c s n=>simp only[aB]at h;obtain⟨_,_,_,_,_,_,e,_⟩:=h;cases e|ou b c i=>simp only[aB]at h;cases h.2.1|lP b c n i=>simp only[aB]at h;cases h.2.1|fn f hp=>simp only[aB]at h;obtain⟨_,e,_⟩:=h;cases e|kL f hp=>simp only[aB]at h;obtain⟨_,e,_⟩:=h;cases e|oC=>simp[aB]at h|ks b=>simp only[aB]at h;cases h.2|aI c y=>simp[cv]at j|e3 c xs=>simp[cv]at j|rw c n xs=>simp[cv]at j|agg av=>simp[cv]at j|pN av=>simp[cv]at j|undef=>simp[cv]at j|l4=>simp[cv]at j
theorem US{x:cM}{b:Nat}{c:b1}{s n:Int}:∀{l:U ck}{E:U D}{vs:U aA},I l=I vs->jI (l++[aq,aq]) E->aX x E (vs++[.int .i64 s,.int .i64 n])->∃f,po (I l) b c E=f++[.gB b c s n]/\aX x f vs/\jI l f
 |[],E,vs,bB,ey,ay=>by have aE:vs=[]:=List.eq_nil_of_length_eq_zero bB.symm;subst aE;simp at ey ay;obtain⟨j,awD,rfl,g,ey⟩:=ey;obtain⟨aS,awE,rfl,h,ey⟩:=ey;simp[aX]at ay;obtain⟨_,_,⟨rfl,rfl⟩,a,_,_,⟨rfl,rfl⟩,e,i⟩:=ay;obtain⟨k,rfl⟩:=Li (g.1 rfl) a;obtain⟨m,rfl⟩:=Li (h.1 rfl) e;exact⟨[],rfl,by simp[aX],rfl⟩
 |eE::l,E,[],bB,ey,ay=>by simp at bB
 |eE::l,E,v::vs,bB,ey,ay=>by obtain⟨d,qg,rfl,h1,h2⟩:=ey;simp[ aX]at ay;obtain⟨_,_,⟨rfl,rfl⟩,a,e⟩:=ay;obtain⟨f,p1,p2,p3⟩:=US (b:=b) (c:=c) qh h2 e;exact⟨d::f,by simp[ po,p1],by simp only[aX];exact⟨v,vs,rfl,a,p2⟩,d,f,rfl,h1,p3⟩
theorem aX.snoc:∀{av:U D}{d:D}{vs:U aA},aX x (av++[d]) vs->∃us u,vs=us++[u]/\aX x av us/\aB x d u
 |[],d,vs,h=>by simp only[ib,aX]at h;obtain⟨u,us,rfl,h1,rfl⟩:=h;exact⟨[],u,rfl,by simp[aX],h1⟩
 |e::av,d,vs,h=>by simp[ aX]at h;obtain⟨u,us,rfl,h1,h2⟩:=h;obtain⟨ws,z,rfl,h3,h4⟩:=aX.snoc h2;exact⟨u::ws,z,rfl,by simp only[aX];exact⟨u,ws,rfl,h1,h3⟩,h4⟩
theorem as7{v w:aA}(h:NT v w=ae):v=w:=by
 unfold NT at h;split at h
 .simp only[bx,dM]at h;obtain⟨rfl,rfl⟩:=h;rfl
 .rw[eq_of_beq h]
 .rfl
 .cases h
theorem Eb{a b:ct}(h:oh a b=ae):a=b:=by
 unfold oh at h;split at h
 .rw[cU h]
 .rw[as7 h]
 .cases h
theorem RA:∀{l m:U ct},vN l m=ae->l=m
 |[],[],_=>rfl
 |a::l,b::m,h=>by simp only[vN,bx]at h;rw[Eb h.1,RA h.2]
 |[],_::_,h=>by simp[vN]at h
 |_::_,[],h=>by simp[vN]at h
theorem Mk:∀{l m:U Nat},sZ l m=ae->l=m
 |[],[],_=>rfl
 |a::l,b::m,h=>by simp only[sZ,bx]at h;rw[cU h.1,Mk h.2]
 |[],_::_,h=>by simp[sZ]at h
 |_::_,[],h=>by simp[sZ]at h
theorem VA:∀{l m:U (Nat×ct)},yS l m=ae->l=m
 |[],[],_=>rfl
 |(i,a)::l,(j,b)::m,h=>by simp only[yS,bx]at h;rw[cU h.1.1,Eb h.1.2,VA h.2]
 |[],_::_,h=>by simp[yS]at h
 |_::_,[],h=>by simp[yS]at h
theorem alu{a b:Op}(h:Pr a b=ae):a=b:=by
 unfold Pr at h;split at h<;>first
  |(cases h;done)
  |(simp only[bx,dM]at h
    grind [cU,Eb,VA,RA,Mk])
  |exact congrArg _ (cU h)
theorem UZ:∀{l m:U Edge},yN l m=ae->l=m
 |[],[],_=>rfl
 |⟨a,g⟩::l,⟨b,k⟩::m,h=>by simp only[yN,bx,dM]at h;rw[cU h.1.1,h.1.2,UZ h.2]
 |[],_::_,h=>by simp[yN]at h
 |_::_,[],h=>by simp[yN]at h
theorem U7:∀{l m:U bw},yQ l m=ae->l=m
 |[],[],_=>rfl
 |⟨d,o,t,p,⟨a⟩,g⟩::l,⟨hq,o',t',sv,⟨bC⟩,iU⟩::m,h=>by simp only[yQ,bx,dM]at h;obtain⟨⟨⟨⟨⟨⟨h1,h2⟩,h3⟩,h4⟩,h5⟩,h6⟩,h7⟩:=h;rw[h1,alu h2,cU h3,h4,UZ h5,h6,U7 h7]
 |[],_::_,h=>by simp[yQ]at h
 |_::_,[],h=>by simp[yQ]at h
theorem tX:∀{a b:Code},il a b=ae->a=b
 |.skip,.skip,_=>rfl
 |.ret,.ret,_=>rfl
 |.exit i,.exit j,h=>by simp only[il]at h;rw[cU h]
 |.region i ⟨l⟩ d,.region j ⟨m⟩ e,h=>by simp only[il,bx]at h;rw[cU h.1.1,U7 h.1.2,eq_of_beq h.2]
 |.seq a b,.seq bC bQ,h=>by simp only[il,bx]at h;rw[tX h.1,tX h.2]
 |.cond c a b,.cond cj bC bQ,h=>by simp only[il,bx]at h;rw[Eb h.1.1,tX h.1.2,tX h.2]
 |.block i b,.block j bQ,h=>by simp only[il,bx]at h;rw[cU h.1,tX h.2]
 |.loop _,b,h=>by simp[il]at h
 |.scope _,b,h=>by simp[il]at h
 |.rangeFunc _ _ _ _,b,h=>by simp[il]at h
 |.label _,b,h=>by simp[il]at h
 |.goto _,b,h=>by simp[il]at h
 |.refuse _,b,h=>by simp[il]at h
 |.skip,.ret,h|.skip,.exit _,h|.skip,.region _ _ _,h|.skip,.seq _ _,h|.skip,.cond _ _ _,h|.skip,.block _ _,h|.skip,.loop _,h|.skip,.scope _,h|.skip,.rangeFunc _ _ _ _,h|.skip,.label _,h|.skip,.goto _,h|.skip,.refuse _,h=>by simp[il]at h
 |.ret,.skip,h|.ret,.exit _,h|.ret,.region _ _ _,h|.ret,.seq _ _,h|.ret,.cond _ _ _,h|.ret,.block _ _,h|.ret,.loop _,h|.ret,.scope _,h|.ret,.rangeFunc _ _ _ _,h|.ret,.label _,h|.ret,.goto _,h|.ret,.refuse _,h=>by simp[il]at h
 |.exit _,.skip,h|.exit _,.ret,h|.exit _,.region _ _ _,h|.exit _,.seq _ _,h|.exit _,.cond _ _ _,h|.exit _,.block _ _,h|.exit _,.loop _,h|.exit _,.scope _,h|.exit _,.rangeFunc _ _ _ _,h|.exit _,.label _,h|.exit _,.goto _,h|.exit _,.refuse _,h=>by simp[il]at h
 |.region _ _ _,.skip,h|.region _ _ _,.ret,h|.region _ _ _,.exit _,h|.region _ _ _,.seq _ _,h|.region _ _ _,.cond _ _ _,h|.region _ _ _,.block _ _,h|.region _ _ _,.loop _,h|.region _ _ _,.scope _,h|.region _ _ _,.rangeFunc _ _ _ _,h|.region _ _ _,.label _,h|.region _ _ _,.goto _,h|.region _ _ _,.refuse _,h=>by simp[il]at h
 |.seq _ _,.skip,h|.seq _ _,.ret,h|.seq _ _,.exit _,h|.seq _ _,.region _ _ _,h|.seq _ _,.cond _ _ _,h|.seq _ _,.block _ _,h|.seq _ _,.loop _,h|.seq _ _,.scope _,h|.seq _ _,.rangeFunc _ _ _ _,h|.seq _ _,.label _,h|.seq _ _,.goto _,h|.seq _ _,.refuse _,h=>by simp[il]at h
 |.cond _ _ _,.skip,h|.cond _ _ _,.ret,h|.cond _ _ _,.exit _,h|.cond _ _ _,.region _ _ _,h|.cond _ _ _,.seq _ _,h|.cond _ _ _,.block _ _,h|.cond _ _ _,.loop _,h|.cond _ _ _,.scope _,h|.cond _ _ _,.rangeFunc _ _ _ _,h|.cond _ _ _,.label _,h|.cond _ _ _,.goto _,h|.cond _ _ _,.refuse _,h=>by simp[il]at h
 |.block _ _,.skip,h|.block _ _,.ret,h|.block _ _,.exit _,h|.block _ _,.region _ _ _,h|.block _ _,.seq _ _,h|.block _ _,.cond _ _ _,h|.block _ _,.loop _,h|.block _ _,.scope _,h|.block _ _,.rangeFunc _ _ _ _,h|.block _ _,.label _,h|.block _ _,.goto _,h|.block _ _,.refuse _,h=>by simp[il]at h
variable{body:Code}{env:U (Nat×D)}
theorem YN{n e:Nat}{bE d:U Nat}{bS b a:Code}{c:Env}(h:C7 n bE bS body env e d b a c = ae):n=e/\bE=d/\bS=b/\body=a/\p8 c env=true:=by simp only[C7,bx]at h;exact⟨cU h.1.1.1.1,Mk h.1.1.1.2,tX h.1.1.2,tX h.1.2,h.2⟩
theorem RZ{k:Nat}{d:D}:∀{env:Env},get env k=J d->(k,d)∈env
 |[],h=>by simp[get]at h
 |(q,e)::l,h=>by
  rw[ix]at h;by_cases a:k=q
  .rw[if_pos a]at h;cases h;rw[a];exact ot
  .rw[if_neg a]at h;exact nE _ (RZ h)
theorem Ti{env:Env}:∀{iT:U (Nat×D)}{k:Nat}{d:D},p8 env iT=ae->get iT k=J d->∃a,get env k=J a/\yc d a = ae
 |[],k,d,_,h=>by simp[get]at h
 |(q,v)::iT,k,d,h1,h=>by
  simp[p8]at h1;rw[ix]at h;split at h1
  .rename_i a b;simp at h1;by_cases c:k=q
   .subst c;simp at h;subst h;exact⟨a,b,h1.1⟩
   .rw[if_neg c]at h;exact Ti h1.2 h
  .cases h1
variable{a:Act}
theorem _Q{n:Nat}{c:Env}(e:∀p,p∈env->∀b,b∈iA p.2->x'.m.ak b=x.m.ak b/\b<x'.nb)(g:p8 c env=ae)(f:jm x n [] (get c) a):jm x' n [] (get env) a:=⟨f.defers,f.size,λk d ao=>by obtain⟨h,h1,h2⟩:=Ti g ao;obtain⟨v,h3,h4⟩:=f.get k h h1;exact⟨v,h3,Qo (e _ (RZ ao)) h2 h4⟩⟩
variable{q:Nat}
theorem asD{n:Nat}{bE:U Nat}{bS:Code}{k:c_}{j:Int}(f:x'.w=x.w)(g:∀p,p∈env->∀b,b∈iA p.2->x'.m.ak b=x.m.ak b/\b<x'.nb)(h:AF n bE bS body env q k=J j)(e:gX x β k):gX x' β (.lj j n bE bS body env q):=by
 unfold AF at h;split at h
 .split at h
  .rename_i an;simp only[bx]at an;obtain⟨i,an⟩:=an;obtain⟨rfl,rfl,rfl,rfl,l⟩:=YN an;cases h;obtain⟨rc,a,c,d,o,r,s⟩:=e;exact⟨rfl,λ_=>⟨rc,by rw[f];exact a,c,d,o,_Q g l r,s (cU i)⟩,λh=>absurd rfl h⟩
  .cases h
 .cases h;exact _p
 .split at h
  .rename_i an;cases h;obtain rfl:=cU an;exact _p
  .cases h
 .split at h
  .rename_i an;simp only[bx]at an;obtain⟨i,an⟩:=an;obtain⟨rfl,rfl,rfl,rfl,l⟩:=YN an;obtain rfl:=cU i;cases h;refine⟨e.1,λt=>?_,λt=>?_⟩
   .obtain⟨rc,a,c,d,o,r,s⟩:=e.2.1 t;exact⟨rc,by rw[f];exact a,c,d,o,_Q g l r,s⟩
   .obtain⟨rc,a,c⟩:=e.2.2 t;exact⟨rc,by rw[f];exact a,c⟩
  .cases h
 .cases h
theorem ali{n:Nat}{bE:U Nat}{bS:Code}{k:c_}{j:Int}(h:AF n bE bS body env q k=J j)(a:gX x β k):gv .i64 j=true:=by
 unfold AF at h;split at h
 .split at h
  .cases h;rfl
  .cases h
 .cases h;rfl
 .split at h
  .cases h;rfl
  .cases h
 .split at h
  .cases h;exact a.1
  .cases h
 .cases h
theorem qe{x:cM}{m:Nat->Nat}{q0:U (Nat×c_)}(aj:∀b k,bu q0 b=J k->gX x (m b) k){nb:Nat}:∀{ak:U (Nat×g6)}{B:U D},hv q0 ak=J B->(ak.all λp=>ec p.1 nb&&QC nb p.2)=ae ->
  ∃iG:U aA,aX x B iG/\∀(x':cM) (E:U D),(x'.w=x.w/\x'.el=x.el)->(∀d,d∈iv ak->∀b,b∈iA d->x'.m.ak b=x.m.ak b/\b<x'.nb)->jI ((ak.map (·.2.b3)).flatten) E->aX x' E iG->∀b k,bu (eQ ak E) b=J k->gX x' (m b) k/\bu q0 b≠ah/\b<nb
 |[],B,h,_=>by simp[hv]at h;subst h;exact⟨[],by simp[aX],λx' E _ _ _ _ b k f=>by simp[eQ,bu]at f⟩
 |(c0,.cells l)::ak,B,h,hb=>by
  simp[hv]at h;simp only[et,bx]at hb;split at h
  .rename_i av es z r;split at h
   .rename_i dp;simp at h;subst h;obtain⟨iG,h1,h2⟩:=qe aj r hb.2;obtain⟨d_,vs,t,cf,o⟩:=aj c0 _ z;refine⟨vs++iG,o.append h1,λx' E y i ey ay b k f=>?_⟩;simp[e0,g6.b3]at ey;obtain⟨s1,s2⟩:=ey.split;have b9:I vs=I l:=by rw[o.len,(cU dp)]
    obtain⟨j6,gC⟩:=ay.take;rw[b9]at j6 gC;simp[eQ]at f;rw[fi]at f;by_cases g:b=c0
    .subst g;simp[if_true]at f;subst f;exact⟨⟨s1.cv hb.1.2,vs,t,by rw[y.1];exact cf,j6⟩,by rw[z];simp,by simpa[Nat.blt_eq]using hb.1.1⟩
    .rw[if_neg g]at f;exact h2 x' _ y i s2 gC b k f
   .cases h
  .cases h
 |(c0,.one s)::ak,B,h,hb=>by
  simp[hv]at h;simp only[et,bx]at hb;split at h
  .cases h
  .cases h
  .cases h
  .cases h
  .cases h
  .rename_i k0 es d' ef ea dF ff aJ r;simp at h;subst h;obtain⟨iG,h1,h2⟩:=qe aj r hb.2;obtain⟨vs,t,cf,aZ⟩:=atc (aj c0 _ aJ) (λt d e=>d' t d e) (λq e=>ef q e) (λs n bE bS body env e=>ea s n bE bS body env e) (λj e=>dF j e) (λj n bE bS body env q e=>ff j n bE bS body env q e);refine⟨.agg vs.toArray::iG,by simp only[aX];exact⟨_,iG,rfl,aZ,h1⟩,λx' E y i ey ay b k f=>?_⟩;simp[e0,g6.b3]at ey;obtain⟨d,qg,rfl,bk,bz⟩:=ey;simp only[aX]at ay;obtain⟨u,us,hu,ac,bL⟩:=ay;simp[gZ]at hu;obtain⟨rfl,rfl⟩:=hu;simp[eQ]at f;rw[fi]at f;by_cases g:b=c0
   .subst g;simp[if_true]at f;subst f;exact⟨atu (bk.2.1 (by have bW:(!pf s)=true:=hb.1.2;simpa using bW)) (by rw[y.1];exact cf) ac,by rw[aJ];simp,by simpa[Nat.blt_eq]using hb.1.1⟩
   .rw[if_neg g]at f;exact h2 x' _ y i bz bL b k f
  .cases h
 |(c0,.gO t0)::ak,B,h,hb=>by
  simp[hv]at h;simp only[et,bx]at hb;split at h
  .rename_i t1 d0 es aJ r;split at h
   case h_2=>cases h
   rename_i cg;obtain rfl:=cU cg;simp at h;subst h;obtain⟨iG,h1,h2⟩:=qe aj r hb.2;obtain⟨_,a,v,cf,cI,aZ⟩:=aj c0 _ aJ;refine⟨v::iG,by simp only[aX];exact⟨_,iG,rfl,aZ,h1⟩,λx' E y i ey ay b k f=>?_⟩;simp[e0,g6.b3]at ey;obtain⟨d,qg,rfl,bk,bz⟩:=ey;simp only[aX]at ay;obtain⟨u,us,hu,ac,bL⟩:=ay;simp[gZ]at hu;obtain⟨rfl,rfl⟩:=hu;simp[eQ]at f;rw[fi]at f;by_cases g:b=c0
   .subst g;simp[if_true]at f;subst f;exact⟨⟨bk.2.2 rfl,a,v,by rw[y.1];exact cf,cI,ac⟩,by rw[aJ];simp,by simpa[Nat.blt_eq]using hb.1.1⟩
   .rw[if_neg g]at f;exact h2 x' _ y i bz bL b k f
  .cases h
 |(c0,.iT l)::ak,B,h,hb=>by
  simp[hv]at h;simp only[et,bx]at hb;split at h
  .rename_i av es z r;split at h
   .rename_i ch;simp at h;subst h;obtain⟨iG,h1,h2⟩:=qe aj r hb.2;obtain⟨_,vs,t,cf,o⟩:=aj c0 _ z;refine⟨iG,h1,λx' E y i ey ay b k f=>?_⟩;simp[e0,g6.b3,ib]at ey;simp[eQ]at f;rw[fi]at f;have bB:l.all (l_ nb)=true:=hb.1.2;by_cases g:b=c0
    .subst g;simp[if_true]at f;subst f;exact⟨⟨cX.2 λd ao=>ak5 (cX.1 bB d ao),vs,t,by rw[y.1];exact cf,Tu (λd ao=>i d (by simp[iv,fM];exact .inl ao)) ch o⟩,by rw[z];simp,by simpa[Nat.blt_eq]using hb.1.1⟩
    .rw[if_neg g]at f;exact h2 x' _ y (λd ao=>i d (by simp[iv,fM];exact .inr ao)) ey ay b k f
   .cases h
  .cases h
 |(c0,.g3 l du c)::ak,B,h,hb=>by
  simp[hv]at h;simp only[et,bx]at hb;split at h
  .rename_i av es z r;split at h
   .rename_i gk fF;simp at h;subst h;obtain⟨gz,eE,jN,rfl,rfl,fG⟩:=Vt fF;obtain⟨iG,h1,h2⟩:=qe aj r hb.2;obtain⟨d_,vs,t,cf,o⟩:=aj c0 _ z;obtain⟨cy,g4,rfl,iY,ro⟩:=o.snoc;have ap:=ro;simp[aB]at ro;obtain⟨_,fm,ko,lK,_⟩:=ro;have sF:gv .i64 eE=true:=by have:=sb (show eE.toNat<=c5 by omega);rwa[Int.toNat_of_nonneg fm]at this
    have oI:gv .i64 jN=true:=by have:=sb (show jN.toNat<=c5 by omega);rwa[Int.toNat_of_nonneg ko]at this
    have cE:l.all pf=ae/\du<nb:=by have bW:(l.all pf&&ec du nb)=true:=hb.1.2;simp only[bx]at bW;exact⟨bW.1,by simpa[Nat.blt_eq]using bW.2⟩
    refine⟨(cy++[.int .i64 eE,.int .i64 jN])++iG,(iY.append (by simp only[aX];exact⟨_,_,rfl,jV sF,_,_,rfl,jV oI,rfl⟩)).append h1,λx' E y i ey ay b k f=>?_⟩;simp only[e0,g6.b3]at ey;obtain⟨s1,s2⟩:=ey.split;have b9:I cy=I l:=by rw[iY.len,fG]
    simp[ dm,hn]at s1 s2;obtain⟨bd,ei⟩:=ay.take;simp[dc,dm,hn,b9]at bd ei;simp[eQ]at f;rw[fi]at f;by_cases g:b=c0
    .subst g;simp[if_true,c4]at f;subst f;obtain⟨la,dH,am,dE⟩:=US (b:=du) (c:=c) b9.symm s1 bd;have cZ:po (I l) du c E=la++[.gB du c eE jN]:=(G' (I l) du c E).symm.trans dH;rw[cZ];obtain⟨hm,fr⟩:=i (.ptr du 0) (by simp[iv]) du (by simp[iA]);refine⟨⟨?_,cy++[g4],t,by rw[y.1];exact cf,am.append ?_⟩,by rw[z];simp,by simpa[Nat.blt_eq]using hb.1.1⟩
     .simp[List.all_append,dE.cv cE.1,Bool.true_and];rfl
     .simp only[aX];refine⟨g4,[],rfl,?_,rfl⟩;simp[aB]at ap ⊢;rw[hm,y.1,y.2];exact⟨fr,ap.2⟩
    .rw[if_neg g]at f;exact h2 x' _ y (λd ao=>i d (by simp[iv,ek];exact .inr ao)) s2 ei b k f
   .cases h
  .cases h
 |(c0,.rc n bE bS body env q)::ak,B,h,hb=>by
  simp[hv]at h;simp only[et,bx]at hb;split at h
  .rename_i k0 es aJ r;split at h
   .rename_i j cN;simp at h;subst h;obtain⟨iG,h1,h2⟩:=qe aj r hb.2;have ic:=aj c0 _ aJ;have hu:gv .i64 j=true:=ali cN ic;refine⟨.int .i64 j::iG,by simp only[aX];exact⟨_,iG,rfl,jV hu,h1⟩,λx' E y i ey ay b k f=>?_⟩;simp[e0,g6.b3]at ey;obtain⟨d,qg,rfl,bk,bz⟩:=ey;simp only[aX]at ay;obtain⟨u,us,dL,ac,bL⟩:=ay;simp[gZ]at dL;obtain⟨rfl,rfl⟩:=dL;obtain⟨IQ,rfl⟩:=Li (bk.1 rfl) ac;simp only[eQ]at f;rw[fi]at f;by_cases g:b=c0
    .subst g;simp[if_true]at f;subst f;exact⟨asD y.1 (λp bn b aj=>i p.2 (by simp only[iv];exact List.mem_append_left _ (List.mem_map.2 ⟨p,bn,rfl⟩)) b aj) cN ic,by rw[aJ];simp,by simpa[Nat.blt_eq]using hb.1.1⟩
    .rw[if_neg g]at f;exact h2 x' _ y (λd ao=>i d (by simp only[iv];exact List.mem_append_right _ ao)) bz bL b k f
   .cases h
  .cases h
theorem GJ{x:cM}{n:Nat}{df:U D}{env:Env}{a:Act}(r:jm x n df (get env) a):∀{kq:U (Nat×Nat×b1)}{O:U D},r1 env kq=J O->∃qK:U aA,aX x O qK/\∀(x':cM) (E:U D),(x'.m.ak=x.m.ak/\x'.w=x.w/\x'.el=x.el)->(∀p,p∈kq->p.2.1<x'.nb)->jI (rb kq) E->aX x' E qK->∀k d,get (pX kq E) k=J d->∃v,a.tmps[k]? = J v/\aB x' d v
 |[],O,h=>by simp[r1]at h;subst h;exact⟨[],by simp[aX],λx' E _ _ _ _ k d e=>by simp[pX,get]at e⟩
 |(k0,b,c)::kq,O,h=>by
  simp[r1]at h;split at h
  .rename_i bQ cj eE jN av ao o;split at h
   .rename_i an;simp only[bx,dM]at an;obtain⟨f,rfl⟩:=an;have f:=cU f;subst f;simp at h;subst h;obtain⟨qK,h1,h2⟩:=GJ r o;obtain⟨v,aE,s⟩:=r.get k0 _ ao;simp only[aB]at s;obtain⟨gJ,t,u,y,z⟩:=s;have sF:gv .i64 eE=true:=by have:=sb (show eE.toNat<=c5 by omega);rwa[Int.toNat_of_nonneg t]at this
    have oI:gv .i64 jN=true:=by have:=sb (show jN.toNat<=c5 by omega);rwa[Int.toNat_of_nonneg u]at this
    refine⟨.int .i64 eE :: .int .i64 jN::qK,by simp only[aX];exact⟨_,_,rfl,jV sF,_,_,rfl,jV oI,h1⟩,λx' E hm aj ey g k d e=>?_⟩;simp[rb]at ey;obtain⟨cF,awD,rfl,aJ,ey⟩:=ey;obtain⟨aS,awE,rfl,aZ,ey⟩:=ey;simp[aX,gZ]at g;obtain⟨_,_,⟨rfl,rfl⟩,i,_,_,⟨rfl,rfl⟩,j,q⟩:=g;cases cF with
    |int dN gn=>
     cases aS with
     |int eJ fV=>
      simp[aB,aA.int.injEq]at i j;obtain⟨⟨_,rfl⟩,_⟩:=i;obtain⟨⟨_,rfl⟩,_⟩:=j;simp[pX]at e;rw[ix]at e;by_cases l:k=k0
      .subst l;simp at e;subst e;refine⟨v,aE,?_⟩;simp only[aB];exact⟨aj _ ot,t,u,y,by rw[hm.1,hm.2.1,hm.2.2];exact z⟩
      .rw[if_neg l]at e;exact h2 x' _ hm (λp bn=>aj p (by simp[bn])) ey q k d e
     |_=>simp[pX,get]at e
    |_=>simp[pX,get]at e
   .cases h
  .cases h
theorem D7{x:cM}:∀{gI:U Fr}{as_:U Act}{cd lt p q:Nat},nj x cd lt gI as_↔nj { x with nb:=p,ba:=q } cd lt gI as_
 |[],_,_,_,_,_=>Iff.rfl
 |f::gI,as_,cd,lt,p,q=>by
  simp[nj];constructor
  .rintro⟨a,r,h1,h2,h3,h4,h5⟩;exact⟨a,r,h1,h2,h3,h4,D7.1 h5⟩
  .rintro⟨a,r,h1,h2,h3,h4,h5⟩;exact⟨a,r,h1,h2,h3,h4,D7.2 h5⟩
theorem o1:∀(l:U ck) (i p:Nat),p∈c8 i l->i<=p/\p<i+I l
 |[],i,p,a=>by simp[c8]at a
 |s::l,i,p,a=>by
  have jf:p∈c8 (i+1) l->i<=p/\p<i+I (s::l):=λh=>by have:=o1 l (i+1) p h;simp;omega
  cases s with
  |sl c own=>
   cases own with
   |true=>
    simp[c8]at a;rcases a with rfl|a
    .simp
    .exact jf a
   |false=>exact jf (by simpa[c8]using a)
  |_=>exact jf (by simpa[c8]using a)
theorem rM:∀{l m:U Nat},im l m=ae->l=m
 |[],[],_=>rfl
 |a::l,b::m,h=>by simp only[im,bx]at h;rw[cU h.1,rM h.2]
 |[],_::_,h=>by simp[im]at h
 |_::_,[],h=>by simp[im]at h
theorem _U(i:Nat)(l:U ck)(x:au l):I (en i l x)=I l:=(Ez i l x).len
theorem oY:∀(ak:U (Nat×g6)) (E:U D),eQ ak (E.take (I ((ak.map (·.2.b3)).flatten)))=eQ ak E
 |[],E=>by simp[eQ]
 |(b,.cells l)::ak,E=>by have a:=oY ak (E.drop (I l));simp only[eQ,e0,mX,g6.b3,dc]at a ⊢;rw[List.take_take,Nat.min_eq_left (Nat.le_add_right _ _),List.drop_take,Nat.add_sub_cancel_left,a]
 |(b,.one s)::ak,[]=>by simp
 |(b,.one s)::ak,d::E=>by have a:=oY ak E;simp only[e0,mX,g6.b3,dc,dm,hn]at a ⊢;rw[Nat.add_comm,List.take_succ_cons];simp only[eQ];rw[a]
 |(b,.gO _)::ak,[]=>by simp
 |(b,.gO _)::ak,d::E=>by have a:=oY ak E;simp only[e0,mX,g6.b3,dc,dm,hn]at a ⊢;rw[Nat.add_comm,List.take_succ_cons];simp only[eQ];rw[a]
 |(b,.iT l)::ak,E=>by have a:=oY ak E;simp[eQ,g6.b3]at a ⊢;rw[a]
 |(b,.g3 l du c)::ak,E=>by
  have a:=oY ak (E.drop (I l+2));simp only[eQ,e0,mX,g6.b3,dc,dm,hn]at a ⊢;have e:∀q:Nat,po (I l) du c (E.take (I l+(0+1+1)+q))=po (I l) du c E:=λq=>by rw[<-G' (I l) du c (E.take _),List.take_take,Nat.min_eq_left (Nat.le_add_right _ _),G']
  have aS:∀q:Nat,I l+(0+1+1)+q-(I l+2)=q:=λq=>by omega
  rw[e,List.drop_take,aS,a]
 |(b,.rc n bE bS body env q)::ak,[]=>by have a:=oY ak [];simp
 |(b,.rc n bE bS body env q)::ak,d::E=>by have a:=oY ak E;simp only[e0,mX,g6.b3,dc,dm,hn]at a ⊢;rw[Nat.add_comm,List.take_succ_cons];cases d<;>simp only[eQ,List.drop_succ_cons,gH,a]
theorem uE{nb:Nat}:∀{ak:U (Nat×g6)},(ak.all λp=>ec p.1 nb&&QC nb p.2)=ae->∀d,d∈iv ak->l_ nb d=ae
 |[],_,d,ao=>by cases ao
 |(_,.cells _)::ak,h,d,ao=>by simp only[et,bx]at h;exact uE h.2 d ao
 |(_,.one _)::ak,h,d,ao=>by simp only[et,bx]at h;exact uE h.2 d ao
 |(_,.gO _)::ak,h,d,ao=>by simp only[et,bx]at h;exact uE h.2 d ao
 |(_,.iT l)::ak,h,d,ao=>by
  simp only[et,bx]at h;simp[iv]at ao;rcases ao with ao|ao
  .have b:l.all (l_ nb)=true:=h.1.2;exact cX.1 b d ao
  .exact uE h.2 d ao
 |(_,.g3 l du c)::ak,h,d,ao=>by
  simp only[et,bx]at h;simp[iv]at ao;rcases ao with rfl|ao
  .have a:(l.all pf&&ec du nb)=true:=h.1.2;simp only[bx]at a;exact a.2
  .exact uE h.2 d ao
 |(_,.rc n bE bS body env q)::ak,h,d,ao=>by
  simp only[et,bx]at h;simp only[iv]at ao;rcases fM.1 ao with ao|ao
  .obtain⟨p,e,rfl⟩:=List.mem_map.1 ao;have a:(env.all λp=>l_ nb p.2)=true:=h.1.2;exact cX.1 a p e
  .exact uE h.2 d ao
theorem Qh{env:Env}:∀{kq:U (Nat×Nat×b1)}{O:U D},r1 env kq=J O->I O=I (rb kq)
 |[],O,h=>by simp[r1]at h;subst h;rfl
 |(k,b,c)::kq,O,h=>by
  simp[r1]at h;split at h
  .rename_i a;split at h
   .simp at h;subst h;simp[rb,Qh a]
   .cases h
  .cases h
section
variable {ab:cB}
variable{as_:U Act}{m:dg}{st:bc}{w:aK}
theorem Rel.Q8{aQ:bt}{x:au aQ.b3}(fF:lT aQ=ae)(ao:ly aQ st=J x)(ay:Rel ab m a as_ (az st) w):∃aR,Rel ab aR a as_ (az (jq aQ st.bI x)) w:=by
 simp only[lT,bx]at fF;obtain⟨⟨⟨fG,ap⟩,cy⟩,fr⟩:=fF;have cy:aQ.cd<=aQ.nb:=by simpa using cy
 unfold ly at ao;split at ao
 .rename_i A B O jK ic u9 an;simp only[bx]at an;obtain⟨⟨⟨⟨⟨mY,d'⟩,ef⟩,ea⟩,mZ⟩,nH⟩:=an;have d':st.n=aQ.n:=cU d';have ef:st.cd=aQ.cd:=cU ef;have ea:st.lt=aQ.lt:=cU ea;obtain⟨mu,gk,gz⟩:=GV (env:=st.env) ay.env jK;obtain⟨iG,py,gN⟩:=qe (x:=vx ab m (az st) w) (m:=m.ak) (q0:=st.ak) (λb k f=>(ay.eb b k f).2) ic ap;obtain⟨qK,hJ,iQ⟩:=GJ (env:=st.env) ay.env u9;obtain⟨qM,uX⟩:=BV aQ.lt ao;have dH:∀t,t∈(st.a9.filter λt=> !aQ.a9.contains t)->t∈st.a9/\t∉aQ.a9:=λt cg=>by
   simp only[List.mem_filter]at cg;refine⟨cg.1,λhm=>?_⟩;have:aQ.a9.contains t=true:=by simpa using hm
   rw[this]at cg;cases cg.2
  have bv:∀t,t∈aQ.a9->(t∈st.a9/\t<aQ.lt):=λt cg=>by have:=cX.1 nH t cg;simp at this;exact⟨by simpa using this.2,by simpa using this.1⟩
  let E:=en aQ.lt aQ.b3 x;have jL:I E=I aQ.b3:=_U _ _ _;have uY:I aQ.vars<=I E:=by rw[jL];simp[bt.b3]
  obtain⟨Ja,CO⟩:=XA aQ.vars E uY;let aR:dg:=⟨m.ak,λt=>if t<aQ.lt then m.a9 t else(bS aQ.lt aQ.b3 (A++(B++O)) t).bind m.a9⟩;have aJ:jq aQ st.bI x=⟨aQ.n,(q7 aQ.vars E).1++(aQ.fix++pX aQ.kq ((E.drop (I aQ.vars)).drop (I ((aQ.ak.map (·.2.b3)).flatten)))),aQ.cd,aQ.lt,st.bI,eQ aQ.ak (E.drop (I aQ.vars)),aQ.nb,c8 aQ.lt aQ.b3++aQ.a9,aQ.lt+I aQ.b3,[]⟩:=by unfold jq;rw[<-Ja]
  have cE:jI ((aQ.ak.map (·.2.b3)).flatten++rb aQ.kq) (E.drop (I aQ.vars)):=by have ey:=(Ez aQ.lt aQ.b3 x);simp[bt.b3]at ey;have be:=ey.split.2;simp at be;exact be
  have uZ:∀(X':cM),(X'.w=w/\X'.el=ab.el)->(∀d,d∈iv aQ.ak->∀b,b∈iA d->X'.m.ak b=m.ak b/\b<X'.nb)->aX X' ((E.drop (I aQ.vars)).take (I ((aQ.ak.map (·.2.b3)).flatten))) iG->∀b k,bu (eQ aQ.ak (E.drop (I aQ.vars))) b=J k->gX X' (m.ak b) k/\bu st.ak b≠ah/\b<aQ.nb:=λX' hw m0 pC b k f=>by exact gN X' _ hw m0 cE.split.1 pC b k (by rw[oY];exact f)
  have bL:∀t,t∈c8 aQ.lt aQ.b3++aQ.a9->t<aQ.lt+I aQ.b3/\((t<aQ.lt/\(t∈st.a9/\t∈aQ.a9)/\aR.a9 t=m.a9 t)\/(aQ.lt<=t/\t∈c8 aQ.lt aQ.b3/\aR.a9 t=(bS aQ.lt aQ.b3 (A++(B++O)) t).bind m.a9)):=λt cg=>by
   simp at cg;rcases cg with cg|cg
   .obtain⟨h1,h2⟩:=o1 _ _ _ cg;exact⟨h2,.inr ⟨h1,cg,by simp[aR,Nat.not_lt.2 h1]⟩⟩
   .obtain⟨h1,h2⟩:=bv t cg;exact⟨by omega,.inl ⟨h2,⟨h1,cg⟩,by simp[aR,h2]⟩⟩
  have bz:∀t g o,t∈c8 aQ.lt aQ.b3++aQ.a9->aR.a9 t=J (g,o)->∃t',t'∈st.a9/\m.a9 t' = J (g,o)/\(((t<aQ.lt/\t∈aQ.a9)/\t' = t)\/(aQ.lt<=t/\t'∉aQ.a9/\bS aQ.lt aQ.b3 (A++(B++O)) t=J t')):=λt g o cg z=>by
   rcases(bL t cg).2 with ⟨h1,h2,h3⟩|⟨h1,_,h3⟩
   .rw[h3]at z;exact⟨t,h2.1,z,.inl ⟨⟨h1,h2.2⟩,rfl⟩⟩
   .rw[h3]at z;cases am:bS aQ.lt aQ.b3 (A++(B++O)) t with|none=>rw[am]at z;cases z|some t'=>rw[am,bZ]at z;obtain⟨bd,ei⟩:=dH t' (qM t t' am).1;exact⟨t',bd,z,.inr ⟨h1,ei,rfl⟩⟩
  let s':FS:=az (jq aQ st.bI x);have aZ:∀t,s'.cc t↔t∈c8 aQ.lt aQ.b3++aQ.a9:=λt=>by simp[s',aJ,az]
  have cZ:s'.ak=bu (eQ aQ.ak (E.drop (I aQ.vars))):=xf
  have ch:∀b,s'.ak b≠ah->bu st.ak b≠none:=λb aj=>by
   rw[cZ]at aj;cases f:bu (eQ aQ.ak (E.drop (I aQ.vars))) b with
   |none=>exact absurd f aj
   |some k=>
    have:∀(ak:U (Nat×g6)) (B:U D) (E:U D) (b:Nat) (k:c_),hv st.ak ak=J B->bu (eQ ak E) b=J k->bu st.ak b≠none:=by
     intro ak;induction ak with
     |nil=>intro B E b k _ f;simp[eQ,bu]at f
     |cons p ak iw=>
      intro B E b k z f;obtain⟨c0,pz⟩:=p;cases pz with
      |cells l=>
       simp[hv]at z;split at z
       .rename_i av es bW bk;simp[eQ]at f;rw[fi]at f;by_cases j:b=c0
        .rw[j,bW];simp
        .exact rj
       .cases z
      |gO t0=>
       simp[hv]at z;split at z
       .rename_i t1 k0 es b9 bk;cases E with
        |nil=>
         simp[eQ]at f;rw[fi]at f;by_cases j:b=c0
         .rw[j,b9];simp
         .exact rj
        |cons e E=>
         simp[eQ]at f;rw[fi]at f;by_cases j:b=c0
         .rw[j,b9];simp
         .exact rj
       .cases z
      |iT l=>
       simp[hv]at z;split at z
       .rename_i av es bW bk;split at z
        .simp[eQ]at f;rw[fi]at f;by_cases j:b=c0
         .rw[j,bW];simp
         .exact rj
        .cases z
       .cases z
      |g3 l du c=>
       simp[hv]at z;split at z
       .rename_i av es bW bk;simp[eQ]at f;rw[fi]at f;by_cases j:b=c0
        .rw[j,bW];simp
        .exact rj
       .cases z
      |rc n bE bS body env q=>
       simp[hv]at z;split at z
       .rename_i k0 es b9 bk;have jv:∃tY qg,bu ((c0,tY)::eQ ak qg) b=J k:=by cases E with|nil=>exact⟨_,_,f⟩|cons d E=>cases d<;>exact⟨_,_,f⟩
        obtain⟨tY,qg,f⟩:=jv;rw[fi]at f;by_cases j:b=c0
        .rw[j,b9];simp
        .exact rj
       .cases z
      |one s=>
       simp[hv]at z;split at z
       .cases z
       .cases z
       .cases z
       .cases z
       .cases z
       .rename_i k0 es QD ce QE afc QF b9 bk;cases E with
        |nil=>
         simp[eQ]at f;rw[fi]at f;by_cases j:b=c0
         .rw[j,b9];simp
         .exact rj
        |cons e E=>
         simp[eQ]at f;rw[fi]at f;by_cases j:b=c0
         .rw[j,b9];simp
         .exact rj
       .cases z
    exact this aQ.ak B _ b k ic f
  have iR:∀b i,fj aR s' b i->fj m (az st) b i:=by
   rintro b i (⟨q,cA,rfl⟩|⟨t,o,h1,h2,h3⟩)
   .exact .inl ⟨q,ch q cA,rfl⟩
   .obtain⟨t',bd,ei,_⟩:=bz t b o ((aZ t).1 h1) h2;exact .inr ⟨t',o,bd,ei,h3⟩
  have gQ:∀b i,(vx ab aR s' w).S b i->(vx ab m (az st) w).S b i:=by
   rintro b i (h|h)
   .exact .inl h
   .exact .inr (iR b i h)
  have jt:(vx ab aR s' w).ba=aQ.lt+I aQ.b3:=by simp[vx,s',aJ,az]
  have dp:aX (vx ab aR s' w) E (mu++(iG++qK)):=o3 (X:=vx ab m (az st) w) (X':=vx ab aR s' w) gQ rfl rfl aQ.lt ao (λt cg=>(dH t cg).1) (gk.append (py.append hJ)) (λp bn=>by obtain⟨bd,ei⟩:=o1 _ _ _ bn;refine⟨by rw[jt];exact ei,?_⟩;simp[vx,aR,Nat.not_lt.2 bd])
  have kk:I mu=I aQ.vars:=by
   have h1:=gk.len;have:I A=I aQ.vars:=by
    have:∀(vars:U (Nat×ck)) (A:U D),n' st.env vars=J A->I A=I vars:=by
     intro vars;induction vars with
     |nil=>intro A h;simp[n']at h;subst h;rfl
     |cons p vars iw=>
      intro A h;simp[n']at h;split at h
      .rename_i d av _ bW;simp at h;subst h;simp[iw av bW]
      .cases h
    exact this _ _ jK
   omega
  obtain⟨j6,gC⟩:=dp.take;rw[kk]at j6 gC;have bi:I iG=I ((aQ.ak.map (·.2.b3)).flatten):=by have cF:=gC.len;have aS:=cE.len;have e_:=hJ.len;have kM:=Qh u9;simp only[dc]at cF aS;omega
  obtain⟨jx,Cz⟩:=gC.take;rw[bi]at jx Cz;refine⟨aR,?_⟩;show Rel ab aR a as_ s' w;have dE:s'.cd=aQ.cd:=xf
  have dL:s'.lt=aQ.lt:=xf
  have lJ:s'.bI=st.bI:=xf
  have ac:s'.nb=aQ.nb:=xf
  have d_:s'.ba=aQ.lt+I aQ.b3:=jt;have m1:a.defers=[]:=ay.y_ (List.isEmpty_iff.1 mZ);refine⟨ay.dV,⟨by rw[show s'.df=[] by simp[s',aJ,az],m1];rfl,?_,λk d f=>?_⟩,?_,?_,?_,λb k f=>?_,λt cg=>?_,λb bQ h1 h2=>ay.inj b bQ (ch b h1) (ch bQ h2),?_,?_,λb i hi=>ay.own b i (iR b i hi),ay.fE,?_⟩
  .have:s'.n=aQ.n:=xf
   rw[this,<-d'];exact ay.env.size
  .have qN:get ((q7 aQ.vars E).1++(aQ.fix++pX aQ.kq ((E.drop (I aQ.vars)).drop (I ((aQ.ak.map (·.2.b3)).flatten))))) k=J d:=by simpa only[s',aJ,az]using f
   rcases V3 _ _ _ _ qN with h|h
   .obtain⟨i,s,h1,h2⟩:=CO k d h;obtain⟨v,h3,h4⟩:=gz i k s h1;have sj:i<I mu:=(hG.1 h3).1;obtain⟨u,hu,B'⟩:=dp.get h2;rw[List.getElem?_append_left sj,h3]at hu;simp at hu;subst hu;exact⟨v,h4,B'⟩
   rcases V3 _ _ _ _ h with h|h
   .obtain⟨h1,hq,h2,h3⟩:=acG mY fG h;obtain⟨v,h4,h5⟩:=ay.env.get k hq h2;exact⟨v,h4,Qo (x:=vx ab m (az st) w) (λb aj=>⟨rfl,by simp[vx,ac];exact arc h1 b aj⟩) h3 h5⟩
   .exact iQ (vx ab aR s' w) _ ⟨rfl,rfl,rfl⟩ (λp bn=>by have:=cX.1 fr p bn;simp[vx,ac];simpa using this) cE.split.2 Cz k d h
  .rw[dE,dL,lJ];have h0:=ay.gI;have cF:(az st).cd=aQ.cd:=ef;have aS:(az st).lt=aQ.lt:=ea;rw[cF,aS]at h0;have h1:=(D7 (p:=aQ.cd) (q:=aQ.lt)).1 h0;refine(D7 (p:=aQ.cd) (q:=aQ.lt)).2 (nj.later (x:={ vx ab m (az st) w with nb:=aQ.cd,ba:=aQ.lt }) ?_ (b2 _) (b2 _) h1);refine⟨bF.refl _ _,λb i hi=>.inl (gQ b i hi),rfl,λ_ _=>rfl,b2 _,b2 _,λt cg cI=>?_⟩;have cg:t<aQ.lt:=cg;rcases(bL t ((aZ t).1 cI)).2 with ⟨_,ei,fK⟩|⟨bd,_,_⟩
   .exact⟨ei.1,fK,λ_ _ _=>rfl⟩
   .omega
  .rw[dE,ac];exact cy
  .rw[dL,d_];omega
  .rw[cZ]at f;obtain⟨bd,_,fK⟩:=uZ (vx ab aR s' w) ⟨rfl,rfl⟩ (λd ao b aj=>⟨rfl,by simp[vx,ac];exact Yh (uE ap d ao) b aj⟩) jx b k f;exact⟨by rw[ac];exact fK,bd⟩
  .rw[d_];exact(bL t ((aZ t).1 cg)).1
  .intro t t' g o o' h1 h2 h3 h4;obtain⟨u,bd,ei,fK⟩:=bz t g o ((aZ t).1 h1) h3;obtain⟨iK,p1,p2,p3⟩:=bz t' g o' ((aZ t').1 h2) h4;have Ca:=ay.gb u iK g o o' bd p1 ei p2;subst Ca;rcases fK with ⟨a1,a2⟩|⟨a1,a2,a3⟩<;>rcases p3 with ⟨du,dF⟩|⟨du,dF,ff⟩
   .rw[<-a2,<-dF]
   .rw[a2]at dF;exact absurd a1.2 dF
   .rw[dF]at a2;exact absurd du.2 a2
   .exact uX t t' u a3 ff
  .intro b t g o h1 h2 h3;obtain⟨u,bd,ei,_⟩:=bz t g o ((aZ t).1 h2) h3;exact ay.fH b u g o (ch b h1) bd ei
  .exact⟨λg c xs aW i y bN w' hw=>ay.g1.1 g c xs aW i y bN w' (hw.mono gQ),λg l bB=>by obtain⟨r,es,y0,bd,ei⟩:=ay.g1.2.1 g l bB;exact⟨r,es,y0,λw' hw=>bd w' (hw.mono gQ),ei⟩,λg k f=>by obtain⟨n,bd⟩:=ay.g1.2.2 g k f;exact⟨n,λw' hw=>bd w' (hw.mono gQ)⟩⟩
 .cases ao
end
theorem HF(n:Nat)(p:Nat->Bool):(eN n p).size=n:=by simp[eN]
variable{i:Nat}
theorem MA{n:Nat}{p:Nat->Bool}(h:i<n)(d:Bool):(eN n p).getD i d=p i:=by
 have a:i<(eN n p).size:=by rw[HF];exact h
 rw[Array.getD_eq_getD_getElem?,k' a];simp[eN]
variable{listed:Array Bool}
theorem aaL{n:Nat}{p:Nat->Bool}(c:listed.size=n)(h:∀i,i<n->listed.getD i ae=p i):listed=eN n p:=by
 apply Array.ext_getElem?;intro i;by_cases hi:i<n
 .have h1:=h i hi;have h2:(eN n p).getD i ae=p i:=MA hi ae;have b:listed[i]? = J (listed[i]' ag):=k' ag;have a:i<(eN n p).size:=by rw[HF];exact hi
  have aS:(eN n p)[i]? = J ((eN n p)[i]'a):=k' a;rw[Array.getD_eq_getD_getElem?,b]at h1;rw[Array.getD_eq_getD_getElem?,aS]at h2;rw[b,aS];simp at h1 h2;rw[h1,h2]
 .rw[Array.getElem?_eq_none ag,Array.getElem?_eq_none (by rw[HF];omega)]
variable{j:Nat}
theorem rW{n:Nat}{p:Nat->Bool}(b:j<n){q:Nat->Bool}(h:∀i,i<n->q i=(p i||bV i j)):(eN n p).setIfInBounds j ae=eN n q:=by
 refine aaL (by rw[Array.size_setIfInBounds,HF]) λi hi=>?_;rw[h i hi];by_cases a:i=j
 .simp_all
 .rw[getD_set_ne ae (Ne.symm a),MA hi,lZ a,Bool.or_false]
theorem aly{n:Nat}{p:Nat->Bool}{ops:Array bw}(b:ops.size=n)(h:j∈hM .any ops (eN n p)):j<n/\p j=false:=by
 obtain⟨h0,o,c,_⟩:=mem_ready.1 h;have a:j<n:=by rw[<-b];exact(gG.1 c).1
 rw[MA a]at h0;exact⟨a,h0⟩
variable{fx:Act->aK->Prop}{P:cx}{Q:Exit->Act->aK->Prop}{r9:Exit->Act->aK->Prop}{o:bw}{w:aK}
theorem auG{K:Act->aK->Prop}(d:∀a w,K a w->fx a w)(h:∀e a w,Q e a w->r9 e a w)(b:o.wpIn gK 0 P a w K Q):o.wpIn gK 0 P a w fx r9:=by
 unfold bw.wpIn at *;refine⟨b.1,?_⟩;have b:=b.2;generalize (o.semAt gK.round a.eval).run P w=r at *;have g:LetsOut Q->LetsOut r9:=λ⟨a,w,i⟩=>⟨a,w,h _ _ _ i⟩;cases r with
 |ok n w'=>
  cases n<;>simp only[bw.uponIn]at b ⊢ <;>
   first
    |exact d _ _ b
    |exact⟨b.1,CallsIn.mono b.2 (λe f c=>by cases e<;>first|exact d _ _ c|exact g c|exact h _ _ _ c)⟩
    |exact⟨b.1,RowsIn.mono b.2 (λ_ _ c=>d _ _ c)⟩
    |exact⟨b.1,RoundIn.mono b.2 (λe f c=>by cases e<;>first|exact d _ _ c|exact g c|exact h _ _ _ c)⟩
    |exact b
 |halt x w'=>cases x<;>simp only[bw.uponIn]at b ⊢ <;> first|exact b|exact h _ _ _ b
theorem aob{ops:Array bw}{K:Act->aK->Prop}(d:∀a w,K a w->fx a w)(h:∀e a w,Q e a w->r9 e a w)(b:wpOpIn gK 0 P ops Q i K a w):wpOpIn gK 0 P ops r9 i fx a w:=by
 unfold wpOpIn at *;split
 .grind
 .rename_i o f;simp only[f]at b;split
  .rename_i c;simp only[c,if_true]at b;exact auG d h b
  .rename_i c;simp only[c]at b;exact⟨b.1,d _ _ b.2⟩
theorem Uh{P:cx}{ops:Array bw}{Q r9:Exit->Act->aK->Prop}(h:∀e a w,Q e a w->r9 e a w):∀(fuel:Nat) (listed:Array Bool) (a:Act) (w:aK),wpAnyIn gK 0 P .any ops Q fuel listed a w->wpAnyIn gK 0 P .any ops r9 fuel listed a w
 |0,_,_,_,cf=>⟨cf.1,h _ _ _ cf.2⟩
 |fuel+1,_,_,_,cf=>⟨λb=>h _ _ _ (cf.1 b),λi hi=>aob (λbC w'=>Uh h fuel _ bC w') h (cf.2 i hi)⟩
def kC(Q:Exit->Act->aK->Prop):Exit->Act->aK->Prop:=λe a w=>e = .normal/\Q e a w
variable{w':aK}
theorem an7{ops:Array bw}{K:Act->aK->Prop}{v:aA}(hi:ops[i]? = J o)(b:o.guard=ah)(c:(cl a.eval o).run P w = .ok (.value v) w')(d:K (a.put o.dst v) w'):wpOpIn gK 0 P ops Q i K a w:=by unfold wpOpIn;simp only[hi,oT b,if_true];exact l9.wp (ro:=ah) (.inl ⟨v,w',c,d⟩)
theorem HH{ops:Array bw}{K:Act->aK->Prop}(hi:ops[i]? = J o)(b:o.guard=ah)(ao:o.dst=ah)(c:(cl a.eval o).run P w = .ok .skip w')(d:K a w'):wpOpIn gK 0 P ops Q i K a w:=by unfold wpOpIn;simp only[hi,oT b,if_true];exact l9.wp (ro:=ah) (.inr (.inl ⟨w',c,by rw[ao];exact d⟩))
theorem Tx{ops:Array bw}{l:U bw}{v:aA}(b:o.guard=ah)(c:(cl a.eval o).run P w = .ok (.value v) w')(h:wpListIn gK 0 P ops (kC Q) (o::l) a w):wpListIn gK 0 P ops (kC Q) l (a.put o.dst v) w':=by simp only[wpListIn,oT b,if_true]at h;have h:=h.2;rw[xI c (λ_=>nofun)]at h;exact h
theorem ahu{ops:Array bw}{l:U bw}(b:o.guard=ah)(ao:o.dst=ah)(c:(cl a.eval o).run P w = .ok .skip w')(h:wpListIn gK 0 P ops (kC Q) (o::l) a w):wpListIn gK 0 P ops (kC Q) l a w':=by simp only[wpListIn,oT b,if_true]at h;have h:=h.2;rw[xI c (λ_=>nofun)]at h;have h:wpListIn gK 0 P ops (kC Q) l (a.put o.dst undef) w':=h;rw[ao]at h;exact h
variable{u:bD}{y:ct}
theorem Yz{x:ct}{off:Nat}{v:aA}(e:o.op = .store u x y)(f:a.eval x = .pointer (J ⟨β,off,ah⟩))(g:a.eval y=v)(h1:aw.one v=ae)(h:aw.ft P u=J 1)(i:w.heap[β]? = J (.cells vs.toArray t (0,0)))(k:off<I vs):(cl a.eval o).run P w = .ok .skip (aw.setCells w β off [v]):=by
 have b:v.cells.toList=[v]:=by rw[aw.IY h1]
 have c:v.cells.size=1:=by rw[<-Array.length_toList,b];rfl
 obtain⟨j,_,_⟩:=aw.sz (P:=P) [v] w β off 0 vs t i dh (λq d=>by simp at d;subst d;exact h1);simp[cl,e,Instr.storeAt,f,g,Instr.sureAddr,storeVar,aw.run_sizeOf h,c,b];rw[j];simp
variable{cs:U aA}{g:Nat}
theorem ahY{off Cv:Nat}{av:U aA}{t':bD}{f fl:Nat×Nat}(b:w.heap[g]? = J (.cells cs.toArray t f))(afy:w.heap[β]? = J (.cells av.toArray t' fl))(a : β≠g):aw.setCells (aw.setCells w g off us) β Cv vs=aw.setCells (aw.setCells w β Cv vs) g off us:=by
 rw[qf us cs w g off b,qf vs av w β Cv afy];have h1:(w.setRow g (aw.ig cs off us).toArray).heap[β]? = J (.cells av.toArray t' fl):=by rw[setRow_other w g β _ a];exact afy
 have h2:(w.setRow β (aw.ig av Cv vs).toArray).heap[g]? = J (.cells cs.toArray t f):=by rw[setRow_other w β g _ (Ne.symm a)];exact b
 rw[qf vs av _ β Cv h1,qf us cs _ g off h2];exact ag7 w (Ne.symm a) _ _
variable{k:Nat}
theorem aeO{off:Nat}{f:Nat×Nat}(b:w.heap[g]? = J (.cells cs.toArray t f))(a:k≠g):(aw.setCells w g off us).heap[k]? = w.heap[k]? :=by rw[qf us cs w g off b,setRow_other w g k _ a]
theorem ug{a:Nat}{l:U Nat}(h:sk a l=ae):∀b,b∈l->a≠b:=λb aj e=>by have:=cX.1 h b aj;rw[e]at this;simp at this
section
variable {R:Type}{px:aM R}{ab:cB}
variable{K:bc->af R}{r:R}{st:bc}
theorem aaC(i:eR ab px){x:ct}{b off:Nat}{xs:U (cL c)}{t:hY}(j:o.op = .store u x y)(l:aF px st 0 x=J (.ptr b off))(m:aF px st u y=J (.sl c xs t))(aj:(∃av,bu st.ak b=J (.cells av))\/∃c y,bu st.ak b=J (.box c y))(h:p6 px o st K=J r) :
  aw.ft ab.P u=J 1/\∀(x:cM) (β:Nat) k,bu st.ak b=J k->gX x β k->∃(vs:U aA) (t:bD),x.w.heap[β]? = J (.cells vs.toArray t (0,0))/\off<I vs:=by
 unfold p6 at h;simp[j,l,m]at h;rcases aj with ⟨av,aj⟩|⟨p,q,aj⟩
 .simp[aj]at h;split at h
  .rename_i an;simp only[bx]at an;obtain⟨⟨⟨a,d⟩,_⟩,e⟩:=an;have a : 1=(px.aO u).n:=cU a;have d:off+1<=I av:=Nat.le_of_ble_eq_true d;refine⟨by rw[(nr (i.aO u) (nt e).1).2.2,<-a],λx β k f g=>?_⟩;rw[aj]at f;simp at f;subst f;obtain⟨_,vs,t,h1,h2⟩:=g;exact⟨vs,t,h1,by rw[h2.len];omega⟩
  .cases h
 .simp[aj]at h;split at h
  .rename_i an;simp only[bx]at an;obtain⟨⟨⟨a,d⟩,_⟩,e⟩:=an;have a : 1=(px.aO u).n:=cU a;have d:off+1<=I (enc p q):=Nat.le_of_ble_eq_true d;rw[ij]at d;refine⟨by rw[(nr (i.aO u) (nt e).1).2.2,<-a],λx β k f g=>?_⟩;rw[aj]at f;simp at f;subst f;obtain⟨_,vs,t,h1,h2,_⟩:=g;exact⟨vs,t,h1,by omega⟩
  .cases h
theorem qb{a b:Nat}:dz a b=aa (a<=b):=by cases h:dz a b with|true=>exact(aY (Nat.le_of_ble_eq_true h)).symm|false=>exact(bl λe=>by rw[Nat.ble_eq_true_of_le e]at h;cases h).symm
theorem nB{a b:Nat}:bV a b=aa (a=b):=by
 by_cases h:a=b
 .subst h;simp
 .rw[lZ h,bl h]
theorem Z8{a b:Nat}:ec a b=aa (a<b):=by cases h:ec a b with|true=>rw[Nat.blt_eq]at h;exact(aY h).symm|false=>exact(bl λe=>by rw[<-Nat.blt_eq]at e;rw[e]at h;cases h).symm
end
section
variable {R:Type}{px:aM R}{ab:cB}
theorem Mp{f:Act->Act}:∀c (a:Act) (w:aK),kC Q (.panic c) (f a) w->kC Q (.panic c) a w:=λ_ _ _ h=>by cases h.1
structure Gm (ab:cB) (o:bw) (u:bD) (g:Nat) (fL:aK) (β off:Nat) (vs:List aA) (t:bD):Prop where
 bP:aw.ft ab.P u=J 1
 ne : β≠g
 row:fL.heap[β]? = J (.cells vs.toArray t (0,0))
 lt:off<I vs
variable{g3:bw}{os:bw}
theorem aay{ops:Array bw}{nL oz:Nat}{x:ct}{fL:aK}{qW off:Nat}{t0:bD}{v:aA}{f p1 p2 p3:Nat->Bool}(s:ops[nL]? = J g3)(w:ops[oz]? = J os)(bk:nL≠oz)
  (afo:g3.guard=ah) (afe:g3.dst=ah) (z:os.guard=ah) (m3:os.dst=ah) (k:os.op = .store u x y) (aW:a.eval x = .pointer (J ⟨β,off,ah⟩)) (bN:a.eval y=v) (aE:aw.one v=ae) (c:Gm ab os u g fL β off vs t)
  (b:fL.heap[g]? = J (.cells cs.toArray t0 (0,0))) (an:∀(w':aK) (cs':U aA),w'.heap[g]? = J (.cells cs'.toArray t0 (0,0))->I cs'=I cs->(cl a.eval g3).run ab.P w' = .ok .skip (aw.setCells w' g qW us))
  (h0:∀i,i<ops.size->f i=aa (i≠nL/\i≠oz)) (h1:∀i,i<ops.size->p1 i=aa (i≠oz)) (h2:∀i,i<ops.size->p2 i=aa (i≠nL)) (h3:∀i,i<ops.size->p3 i=ae)
  (iY:(hM .any ops (eN ops.size f)).contains nL=ae) (j6:hM .any ops (eN ops.size p1)=[oz]) (gC:hM .any ops (eN ops.size p2)=[nL]) (jx:hM .any ops (eN ops.size p3)=[])
  (l:wpListIn gK 0 ab.P ops (kC Q) [os] a (aw.setCells fL g qW us)) (fuel:Nat):wpAnyIn gK 0 ab.P .any ops (kC Q) (fuel+2) (eN ops.size f) a fL:=by
 have m:nL<ops.size:=(gG.1 s).1;have n:oz<ops.size:=(gG.1 w).1;have s1:(eN ops.size f).setIfInBounds nL ae=eN ops.size p1:=rW m λi hi=>by rw[h0 i hi,h1 i hi,nB];rw[<-Bool.decide_or];exact hH.2 ag
 have s2:(eN ops.size f).setIfInBounds oz ae=eN ops.size p2:=rW n λi hi=>by rw[h0 i hi,h2 i hi,nB];rw[<-Bool.decide_or];exact hH.2 ag
 have oF:(eN ops.size p1).setIfInBounds oz ae=eN ops.size p3:=rW n λi hi=>by rw[h1 i hi,h3 i hi,nB];rw[<-Bool.decide_or];exact(aY ag).symm
 have af1:(eN ops.size p2).setIfInBounds nL ae=eN ops.size p3:=rW m λi hi=>by rw[h2 i hi,h3 i hi,nB];rw[<-Bool.decide_or];exact(aY ag).symm
 have o:(aw.setCells fL g qW us).heap[β]? = J (.cells vs.toArray t (0,0)):=by rw[aeO b c.ne];exact c.row
 have p:(aw.setCells fL β off [v]).heap[g]? = J (.cells cs.toArray t0 (0,0)):=by rw[aeO c.row (Ne.symm c.ne)];exact b
 have j_:=Yz (P:=ab.P) k aW bN aE c.bP o c.lt;have ayW:=Yz (P:=ab.P) k aW bN aE c.bP c.row c.lt;have d:kC Q .normal a (aw.setCells (aw.setCells fL g qW us) β off [v]):=by have:=ahu z m3 j_ l;exact this
 refine⟨λh=>(by rw[h]at iY;cases iY),λj cN=>?_⟩;obtain⟨aJ,q⟩:=aly rfl cN;rw[h0 j aJ,decide_eq_false_iff_not]at q;by_cases r:j=nL
 .subst r;refine HH s afo afe (an fL cs b rfl) ?_;rw[s1];refine wpAnyIn_all j6 (by simp) λi hi=>?_;simp at hi;subst hi;refine HH w z m3 j_ ?_;rw[oF];exact wpAnyIn_done jx d fuel
 .have aZ:j=oz:=Decidable.byContradiction λe=>q ⟨r,e⟩;subst aZ;refine HH w z m3 ayW ?_;rw[s2];refine wpAnyIn_all gC (by simp) λi hi=>?_;simp at hi;subst hi;refine HH s afo afe (an _ cs p rfl) ?_;rw[af1,<-ahY b c.row c.ne];exact wpAnyIn_done jx d fuel
variable{as_:U Act}{m:dg}{e':bw}{st:bc}{cH:bc}
theorem X5{ops:Array bw}{e:Nat}{s:Bool}(p:ops[e]? = J o)(q:ops[e+1]? = J e')(t:Rel ab m a as_ (az st) w)(f:AW ab o e' g3 st cH m a as_ w)(r:mS ops e s=ae)(fuel:Nat)
  (h:wpAnyIn gK 0 ab.P .any ops (kC Q) fuel (eN ops.size λi=>dz i (e+1)) ((a.put (J f.d) f.bA).put (J f.d2) f.jR) f.fL):wpAnyIn gK 0 ab.P .any ops (kC Q) (fuel+2) (eN ops.size λi=>ec i e) a w:=by
 simp only[mS,bx]at r;obtain⟨⟨⟨⟨⟨⟨u,_⟩,b⟩,c⟩,g⟩,_⟩,_⟩:=r;have b:hM .any ops (eN ops.size λi=>ec i e)=[e]:=qi
 have j:e<ops.size:=(gG.1 p).1;have k:e+1<ops.size:=(gG.1 q).1;have x:(eN ops.size λi=>ec i e).setIfInBounds e ae=eN ops.size λi=>dz i e:=rW j λi hi=>by rw[qb,Z8,nB];rw[<-Bool.decide_or];exact hH.2 ag
 have y:(eN ops.size λi=>dz i e).setIfInBounds (e+1) ae=eN ops.size λi=>dz i (e+1):=rW k λi hi=>by rw[qb,qb,nB];rw[<-Bool.decide_or];exact hH.2 ag
 have l:a.tmps.size=st.n:=t.env.size;have ao:f.d<a.tmps.size:=by rw[l];exact f.lt
 refine wpAnyIn_all b (by simp) λi hi=>?_;simp at hi;subst hi;refine an7 p f.afp f.run ?_;rw[f.dst,x];refine wpAnyIn_take rfl (v:=f.jR) q u g c (Mp (f:=λa=>a.put e'.dst f.jR)) ⟨.inl ⟨oT f.afq _,λw'=>f.af0 _ w' (rN ao) (jW f.afD)⟩,λ_=>by simp[bw.about,f.Q1]⟩ ?_;rw[y,f.IG];exact h
variable{oD:bw}
theorem avm{ops:Array bw}{e:Nat}(jK:ops[e]? = J oD)(ic:ops[e+1]? = J e')(qS:ops[e+2]? = J g3)(gQ:ops[e+3]? = J os)(ay:Rel ab m a as_ (az st) w)(f:AW ab oD e' g3 st cH m a as_ w)(p:mS ops e ai=ae)
  {off:Nat}(q:os.op = .store u (.tmp k) (.tmp f.d)) (qQ:os.guard=ah) (m3:os.dst=ah) (r:k≠f.d) (s:k≠f.d2) (aW:a.eval (.tmp k) = .pointer (J ⟨β,off,ah⟩)) (eu:Gm ab os u f.g f.fL β off vs t)
  (j:wpListIn gK 0 ab.P ops (kC Q) [os] ((a.put (J f.d) f.bA).put (J f.d2) f.jR) (aw.setCells f.fL f.g f.off f.us)) (fuel:Nat):wpAnyIn gK 0 ab.P .any ops (kC Q) (fuel+4) (eN ops.size λi=>ec i e) a w:=by
 refine X5 jK ic ay f p (fuel+2) ?_;have bk:=p;simp only[mS,bx]at p;obtain⟨⟨⟨⟨⟨⟨cG,_⟩,_⟩,_⟩,_⟩,l⟩,⟨⟨cJ,y⟩,z⟩,aJ⟩:=p;have cJ:ops.size=e+4:=cU cJ;have o:a.tmps.size=st.n:=ay.env.size;have ao:f.d<a.tmps.size:=by rw[o];exact f.lt
 have aZ:f.d2<(a.put (J f.d) f.bA).tmps.size:=by simp[Act.put,o];exact f.QU
 have c:∀{x b:Nat},x≠b->j2 (.tmp x) b=true:=λh=>by simp[j2,lZ h]
 refine aay (nL:=e+2) (oz:=e+3) (p1:=λi=>dz i (e+2)) (p2:=λi=>dz i (e+1)||bV i (e+3)) (p3:=λ_=>ae) (v:=f.bA) qS gQ ag f.QP f.Cf qQ m3 q ?_ ?_ f.one eu f.row (λw' cs' h1 h2=>f.Q9 _ w' cs' (rN aZ) ((jW f.QX).trans (jW f.QW)) h1 h2)
  (λi hi=>?_) (λi hi=>?_) (λi hi=>?_) (λ_ _=>rfl) y (by simpa using z) (by simpa using aJ) (by simpa using l) j fuel
 .rw[jW (c s),jW (c r)];exact aW
 .rw[jW (c f.ne)];exact rN ao
 .rw[qb];exact sI
 .rw[qb];exact sI
 .rw[qb,nB,<-Bool.decide_or];exact sI
theorem avW(bn:eR ab px){ops:Array bw}{e:Nat}{on of:bw}(jK:ops[e]? = J oD)(ic:ops[e+1]? = J e')(qS:ops[e+2]? = J g3)(kO:ops[e+3]? = J on)(u9:ops[e+4]? = J of)(gQ:ops[e+5]? = J os)(ay:Rel ab m a as_ (az st) w)(f:AW ab oD e' g3 st cH m a as_ w)(jL:mS ops e ae=ae)
  {eE:bD}{e3 df Ch gA off:Nat}{Ck:ds}(r:on.op = .nilCheck (.tmp k)) (z:of.op = .fieldAddr eE (.tmp e3) Ch) (bL:os.op = .store u (.tmp df) (.tmp f.d)) (Cn:on.guard=ah) (Cm:of.guard=ah) (qQ:os.guard=ah) (Ce:on.dst=J e3) (Cd:of.dst=J df) (m3:os.dst=ah)
  (aV:sk k [f.d,f.d2,e3,df]=ae) (j:sk e3 [f.d,f.d2,df]=ae) (q:sk df [f.d,f.d2]=ae) (bW:j2 f.y e3=ae) (b9:j2 f.y df=ae) (aJ:e3<st.n) (aZ:df<st.n) (ch:pT px eE Ch=J (gA,Ck)) (aW:a.eval (.tmp k) = .pointer (J ⟨β,off,ah⟩)) (eu:Gm ab os u f.g f.fL β (off+gA) vs t)
  (bk:wpListIn gK 0 ab.P ops (kC Q) [on,of,os] ((a.put (J f.d) f.bA).put (J f.d2) f.jR) (aw.setCells f.fL f.g f.off f.us)) (fuel:Nat):wpAnyIn gK 0 ab.P .any ops (kC Q) (fuel+6) (eN ops.size λi=>ec i e) a w:=by
 refine X5 jK ic ay f jL (fuel+4) ?_;have c0:=jL;simp only[mS,bx]at jL;obtain⟨⟨⟨⟨⟨⟨cG,_⟩,_⟩,_⟩,_⟩,bz⟩,⟨⟨⟨⟨⟨⟨cJ,cy⟩,cE⟩,am⟩,cZ⟩,dp⟩,ap⟩,dH⟩:=jL;have cJ:ops.size=e+6:=cU cJ;have l:a.tmps.size=st.n:=ay.env.size;have ao:f.d<a.tmps.size:=by rw[l];exact f.lt
 have dE:f.d2<(a.put (J f.d) f.bA).tmps.size:=by simp[Act.put,l];exact f.QU
 have c:∀{x b:Nat},x≠b->j2 (.tmp x) b=true:=λh=>by simp[j2,lZ h]
 have aV:=ug aV;have j:=ug j;have q:=ug q;have dN:k≠f.d:=aV _ (by simp);have eJ:k≠f.d2:=aV _ (by simp);have pH:e3≠f.d:=j _ (by simp);have vb:e3≠f.d2:=j _ (by simp);have QV:e3≠df:=j _ (by simp);have gn:df≠f.d:=q _ (by simp);have fV:df≠f.d2:=q _ (by simp);have dL:((a.put (J f.d) f.bA).put (J f.d2) f.jR).eval (.tmp k) = .pointer (J ⟨β,off,ah⟩):=by rw[jW (c eJ),jW (c dN)];exact aW
 have agn:∀w',(cl ((a.put (J f.d) f.bA).put (J f.d2) f.jR).eval on).run ab.P w' = .ok (.value (.pointer (J ⟨β,off,ah⟩))) w':=λw'=>by simp[cl,r,dL]
 have ea:e3<((a.put (J f.d) f.bA).put (J f.d2) f.jR).tmps.size:=by simp[Act.put,l];exact aJ
 have ac:df<(((a.put (J f.d) f.bA).put (J f.d2) f.jR).put (J e3) (.pointer (J ⟨β,off,ah⟩))).tmps.size:=by simp[Act.put,l];exact aZ
 obtain⟨_,_,_,_,_,_,_,_,_,_,d_⟩:=Bj bn ch;have agm:∀w',(cl (((a.put (J f.d) f.bA).put (J f.d2) f.jR).put (J e3) (.pointer (J ⟨β,off,ah⟩))).eval of).run ab.P w' = .ok (.value (.pointer (J ⟨β,off+gA,ah⟩))) w':=λw'=>by have h1:aw.Env.aF (pV (((a.put (J f.d) f.bA).put (J f.d2) f.jR).put (J e3) (.pointer (J ⟨β,off,ah⟩)))) (.tmp e3)=J (.pointer (J ⟨β,off,ah⟩)):=aak (by simp[Act.put,show e3<a.tmps.size by rw[l];exact aJ]);have o:=aw.vg (P:=ab.P) (s:=eE) (f:=Ch) (by simpa using d_) h1;rw[<-z]at o;exact o _ ⟨(((a.put (J f.d) f.bA).put (J f.d2) f.jR).put (J e3) (.pointer (J ⟨β,off,ah⟩))).tmps,[]⟩ w' of (Jz (a:=⟨(((a.put (J f.d) f.bA).put (J f.d2) f.jR).put (J e3) (.pointer (J ⟨β,off,ah⟩))).tmps,[]⟩) rfl) rfl
 have p:=Tx Cm (agm _) (by have:=Tx Cn (agn _) bk;rw[Ce]at this;exact this)
 rw[Cd]at p;have d':e+3<ops.size:=ag
 have ef:e+4<ops.size:=ag
 have s1:(eN ops.size λi=>dz i (e+1)).setIfInBounds (e+3) ae=eN ops.size λi=>dz i (e+1)||bV i (e+3):=rW d' λi _=>rfl;have s2:(eN ops.size λi=>dz i (e+1)||bV i (e+3)).setIfInBounds (e+4) ae=eN ops.size λi=>dz i (e+1)||bV i (e+3)||bV i (e+4):=rW ef λi _=>rfl;refine wpAnyIn_take rfl (v:=.pointer (J ⟨β,off,ah⟩)) kO cG cE cy (Mp (f:=λa=>a.put on.dst _)) ⟨.inl ⟨oT Cn _,agn⟩,λ_=>by simp[bw.about,r]⟩ ?_;rw[s1,Ce];refine wpAnyIn_take rfl (v:=.pointer (J ⟨β,off+gA,ah⟩)) u9 cG cZ am (Mp (f:=λa=>a.put of.dst _)) ⟨.inl ⟨oT Cm _,agm⟩,λ_=>by simp[bw.about,z]⟩ ?_;rw[s2,Cd];refine aay (nL:=e+2) (oz:=e+5) (p1:=λi=>dz i (e+4)) (p2:=λi=>dz i (e+1)||bV i (e+3)||bV i (e+4)||bV i (e+5)) (p3:=λ_=>ae) (v:=f.bA) qS gQ ag f.QP f.Cf qQ m3 bL (rN ac) ?_ f.one eu f.row (λw' cs' h1 h2=>f.Q9 _ w' cs' ?_ ?_ h1 h2)
  (λi hi=>?_) (λi hi=>?_) (λi hi=>?_) (λ_ _=>rfl) dp (by simpa using ap) (by simpa using dH) (by simpa using bz) p fuel
 .rw[jW (c (Ne.symm gn)),jW (c (Ne.symm pH)),jW (c f.ne)];exact rN ao
 .rw[jW (c (Ne.symm fV)),jW (c (Ne.symm vb))];exact rN dE
 .rw[jW b9,jW bW];exact(jW f.QX).trans (jW f.QW)
 .rw[qb,nB,nB,<-Bool.decide_or,<-Bool.decide_or];exact sI
 .rw[qb];exact sI
 .rw[qb,nB,nB,nB,<-Bool.decide_or,<-Bool.decide_or,<-Bool.decide_or];exact sI
end
theorem uN{ops:Array bw}(h:ops[j]? = J o):ops.toList.drop j=o::ops.toList.drop (j+1):=by
 have h1:j<I ops.toList:=by simpa using (gG.1 h).1
 rw[List.drop_eq_getElem_cons h1]
 grind
theorem Ua{ops:Array bw}{e:Nat}{a:Bool}(h:sd ops=J (e,a)):F_ ops e a=ae/\mS ops e a=true:=by
 unfold sd at h;split at h
 .rename_i an;obtain⟨rfl,rfl⟩:=h;simp[FR]at an;exact an.2
 .split at h
  .rename_i an;obtain⟨rfl,rfl⟩:=h;simp[FR]at an;exact an.2
  .cases h
theorem amH{ops:Array bw}{e:Nat}{b:Bool}(h:mS ops e b=ae){a:bw}(d:e<=j)(c:ops[j]? = J a)(f:q<e):jG ops 12 a q=true:=by
 simp only[mS,bx]at h;obtain⟨⟨⟨⟨⟨⟨_,h1⟩,_⟩,_⟩,_⟩,_⟩,_⟩:=h;have h2:=cX.1 h1 j (List.mem_range.2 (gG.1 c).1);simp only[k_]at h2;rcases h2 with h2|h2
 .rw[Nat.blt_eq]at h2;omega
 .grind
theorem WU{ops:Array bw}{e:Nat}{a:Bool}(h:mS ops e a=ae):ops.size=e+(match a with|true=>6|false=>4):=by
 cases a with
 |true=>
  simp only[mS,bx]at h
  simp_all
 |false=>
  simp only[mS,bx]at h
  simp_all
theorem KC(ops:Array bw):jZ ops<=ops.size/\∀j a,jZ ops<=j->ops[j]? = J a->∀q,q<jZ ops->jG ops 12 a q=true:=by
 unfold jZ;split
 .grind
 .split
  .rename_i p g;obtain⟨e,h⟩:=p;obtain⟨_,f⟩:=Ua g;refine⟨by have:=WU f;omega,λj a b c q d=>amH f b c d⟩
  .exact⟨UK _ _,λj a b c q d=>GF _ j a b (gG.1 c).1 c q (gy d b)⟩
section
variable {R:Type}{px:aM R}{ab:cB}
theorem Yj{ops:Array bw}{p:bw->Bool}(h:ops.toList.all p=ae)(e:Nat):(ops.toList.drop e).all p=true:=cX.2 λo a=>cX.1 h o (List.mem_of_mem_drop a)
theorem R6{ops:Array bw}{n:Nat}(h:(ops.toList.all λo=>mz o&&oP n o)=ae)(e:Nat):((ops.toList.drop e).all λo=>mz o&&oP n o)=true:=cX.2 λo a=>cX.1 h o (List.mem_of_mem_drop a)
theorem ac6{n e fuel:Nat}(a:n=e+k)(c:∀i,i<n->listed.getD i ae=aa (i<e))(b:I ((dy n).filter λj=> !listed.getD j ae)<=fuel):k<=fuel:=by
 subst a;refine e2 ?_ b;rw[List.range_eq_range',show List.range' 0 (e+k)=List.range' 0 e++List.range' (0+1*e) k from(List.range'_append (s:=0) (m:=e) (n:=k) (step:=1)).symm,List.filter_append,dc];have:((List.range' (0+1*e) k).filter λj=> !listed.getD j ae)=List.range' (0+1*e) k:=List.filter_eq_self.2 λj d=>by grind
 grind
variable{K:bc->af R}{st:bc}
theorem UM{x:ct}(a:o.op = .store t x y):Ga px o st K=p6 px o st K:=by unfold Ga;rw[a]
variable{r:R}
theorem aoz{x:ct}{all:Array bw}(a:o.op = .store t x y)(b:o.guard=ah)(ao:o.dst=ah)(h:ops px all [o] st K=J r):p6 px o st K=J r:=by simp[ops,su,b,one,ao,UM a]at h;exact h
theorem aiq{x:ct}{b off:Nat}{K:D->bc->af R}(a:o.op = .nilCheck x)(c:aF px st 0 x=J (.ptr b off)):step px o st K=K (.ptr b off) st:=by unfold step;rw[a];unfold pn;rw[a];simp[c]
theorem akj{s f:Nat}{x:ct}{b off:Nat}{K:D->bc->af R}(a:o.op = .fieldAddr s x f)(c:aF px st 0 x=J (.ptr b off)):step px o st K=match pT px s f with
  |some (gA,_)=>K (.ptr b (off+gA)) st
  |none=>none:=by
 unfold step;rw[a];unfold pn
 grind
variable{as_:U Act}{m:dg}{ro:af Nat}
theorem as5(bn:eR ab px)(an:hy ab px){all:Array bw}(he:∀j m8,all[j]? = J m8->∀e∈m8.after,Region.binds .any e=ae->e.on<j)(aj:(all.toList.all λo=>mz o&&oP st.n o)=ae)(du:(all.toList.all λo=>ng ro o)=ae)(be:ro=ah\/sd all=ah)(bz:C0 px all st=ae)(h:ops px all (all.toList.drop (jZ all)) st K=J r)
  (ay:Rel ab m a as_ (az st) w) (ew:∀aG aR bC w',K aG = J r->(aG.n=st.n/\aG.bI=st.bI)->Rel ab aR bC as_ (az aG) w'->Q .normal bC w') :
  ∀(fuel:Nat) (listed:Array Bool),listed.size=all.size->(∀i,i<all.size->listed.getD i ae=aa (i<jZ all))->I ((dy all.size).filter λj=> !listed.getD j ae)<=fuel->wpAnyIn (jn ro) 0 ab.P .any all Q fuel listed a w:=by
 intro fuel listed cG bB z;have dp:(∀j m8,jZ all<=j->all[j]? = J m8->∀q,q<j->jG all 12 m8 q=ae)->wpAnyIn (jn ro) 0 ab.P .any all Q fuel listed a w:=λcg=>amm he fuel (jZ all) listed a w ((KC all).1) cg cG bB z (yr bn an (R6 aj _) (Yj du _) h ay ew)
 cases h0:bV (o5 all all.size) 0 with
 |true=>refine dp λj m8 _ bK q cA=>GF all.size j m8 (by rw[cU h0];exact cp _) (gG.1 bK).1 bK q cA
 |false=>
  cases eu:sd all with
  |none=>
   have ao:jZ all=o5 all all.size:=by simp[jZ,h0,eu]
   exact dp λj m8 cN bK q cA=>GF all.size j m8 (by rw[<-ao];exact cN) (gG.1 bK).1 bK q cA
  |some p=>
   obtain rfl:ro=none:=be.resolve_right (by rw[eu];simp);obtain⟨e,fK⟩:=p;obtain⟨s,jL⟩:=Ua eu;have cy:=WU jL;have ao:jZ all=e:=by simp[jZ,h0,eu]
   rw[ao]at h bB;simp[C0,h0,eu]at bz;split at bz
   .rename_i k oD e' g3 aV jK ic qS;simp at bz;obtain⟨dF,aZ⟩:=bz;rw[uN jK,uN ic,uN qS]at h;simp[ops]at h;cases h3:s8 px oD e' g3 st with
    |none=>rw[h3]at dF;cases dF
    |some p3=>
     obtain⟨c,cH⟩:=p3;rw[h3]at h;obtain⟨ff,l⟩:=fz h;simp only at ff l;subst ff;obtain⟨f⟩:=SF bn h3 ay;have dH:listed=eN all.size λi=>ec i e:=aaL cG λi hi=>by rw[bB i hi,Z8]
     have fF:∃b off,get st.env k=J (.ptr b off)/\((∃av,bu st.ak b=J (.cells av))\/∃c y,bu st.ak b=J (.box c y)):=by
      split at aZ
      .rename_i b off iR;refine⟨b,off,iR,?_⟩;split at aZ
       .rename_i av jt;exact .inl ⟨av,jt⟩
       .rename_i c y kk;exact .inr ⟨c,y,kk⟩
       .cases aZ
      .cases aZ
     obtain⟨b,off,dE,dL⟩:=fF;have d_:bu st.ak b≠none:=by rcases dL with ⟨_,h⟩|⟨_,_,h⟩<;>rw[h]<;>simp
     obtain⟨azz,bi,fG⟩:=ay.env.get k _ dE;simp[aB]at fG;obtain⟨_,rfl⟩:=fG;have fr:a.eval (.tmp k) = .pointer (J ⟨m.ak b,off,ah⟩):=by simp[Act.eval,bi];rfl
     have bk:=yr (ro:=ah) bn an (all:=all) (Q:=kC Q) (by rw[f.n.1];exact R6 aj _) (Yj du _) l f.rel (λaG aR bC w' dN eJ gl=>⟨rfl,ew aG aR bC w' dN ⟨eJ.1.trans f.n.1,eJ.2.trans f.n.2⟩ gl⟩);have ap:∀{o:bw}{u:bD}{ac:Nat},(aw.ft ab.P u=J 1/\∀(x:cM) (β:Nat) k,bu st.ak b=J k->gX x β k->∃(vs:U aA) (t:bD),x.w.heap[β]? = J (.cells vs.toArray t (0,0))/\ac<I vs)->∃vs t,Gm ab o u f.g f.fL (m.ak b) ac vs t:=λ{o u ac} cf=>by cases m4:bu st.ak b with|none=>exact absurd m4 d_|some m6=>obtain⟨_,lJ⟩:=ay.eb b m6 m4;obtain⟨vs,t,bd,ei⟩:=cf.2 _ _ m6 m4 lJ;have aJ:=f.axF b d_;exact⟨vs,t,cf.1,aJ,by rw[f.rest _ (ay.l7 d_) aJ];exact bd,ei⟩
     refine Uh (Q:=kC Q) (λ_ _ _ cA=>cA.2) fuel listed a w ?_;rw[dH];cases fK with
     |false=>
      simp[F_,jK,ic,qS,f.Q1,f.afG,f.dst,f.IG,f.Cf]at s;have s:=s.2;simp only at cy;have d':∃n,fuel=n+4:=⟨fuel-4,by have:=ac6 (k:=4) cy bB z;omega⟩;obtain⟨Ck,rfl⟩:=d';cases bL:all[e+3]? with
      |none=>simp only[bL]at s;cases s
      |some os=>
       simp[bL]at s;split at s
       .rename_i u eh q cE m3;simp only[bx,Option.isNone_iff_eq_none]at s;obtain⟨⟨qQ,cA⟩,aJ⟩:=s;obtain rfl:=cU cA;have ef:eh = k:=by simp[O9,bL,cE]at aV;exact aV
        subst ef;have aJ:=ug aJ;have h1:eh≠f.d:=aJ _ (by simp);have h2:eh≠f.d2:=aJ _ (by simp);have bW:all.toList.drop (e+3+1)=[]:=g0 dh;rw[uN bL,bW]at l bk;obtain⟨m1,gk,t7,h7⟩:=f.afk;obtain⟨vs,t,eu⟩:=ap (o:=os) (aaC (st:=cH) bn cE ((f.afl eh h1 h2).trans dE) h7 (by rw[f.ak];exact dL) (aoz cE qQ m3 l)|> λcf=>⟨cf.1,by have:=cf.2;rw[f.ak]at this;exact this⟩);exact avm jK ic qS bL ay f jL cE qQ m3 h1 h2 fr eu bk Ck
       .cases s
     |true=>
      simp[F_,jK,ic,qS,f.Q1,f.afG,f.dst,f.IG,f.Cf]at s;have s:=s.2;simp only at cy;have d':∃n,fuel=n+6:=⟨fuel-6,by have:=ac6 (k:=6) cy bB z;omega⟩;obtain⟨Ck,rfl⟩:=d';split at s
      .rename_i on of os ea gz gN;split at s
       .rename_i eh eE f1 Ch u p q e3 df v b9 ch Ce Cd m3;simp only[bx,Option.isNone_iff_eq_none]at s;obtain⟨⟨⟨⟨⟨⟨⟨⟨⟨⟨Cn,Cm⟩,qQ⟩,bd⟩,ei⟩,mY⟩,pH⟩,vb⟩,QV⟩,ax6⟩,ax7⟩:=s;obtain rfl:=cU bd;obtain rfl:=cU ei;obtain rfl:=cU mY;have ef:eh = k:=by simp[O9,ea,v]at aV;exact aV
        subst ef;have cF:=ug pH;have h1:eh≠f.d:=cF _ (by simp);have h2:eh≠f.d2:=cF _ (by simp);have aS:=ug vb;have gn:f1≠f.d:=aS _ (by simp);have azm:f1≠p:=aS _ (by simp);have eO:p≠f.d:=(ug QV) _ (by simp);have bW:all.toList.drop (e+5+1)=[]:=g0 dh;rw[uN ea,uN gz,uN gN,bW]at l bk;have hJ:get cH.env eh = J (.ptr b off):=(f.afl eh h1 h2).trans dE;have mZ:s8 px on of os cH=none:=by simp[s8,v]
        simp[ops,mZ]at l;simp[su,Cn,one,Ce,AA,v]at l;split at l
        .rename_i am;rw[aiq v (show aF px cH 0 (.tmp eh)=J (.ptr b off) from hJ)]at l;simp[Cm,Cd,AA,b9]at l;split at l
         .rename_i cZ;have nH:get ((bc.put cH f1 (.ptr b off)).env) f1=J (.ptr b off):=by simp[bc.put,ix]
          rw[akj b9 (show aF px (cH.put f1 (.ptr b off)) 0 (.tmp f1)=J (.ptr b off) from nH)]at l;cases c0:pT px eE Ch with
          |none=>rw[c0]at l;cases l
          |some ayw=>
           obtain⟨gA,pz⟩:=ayw;rw[c0]at l;simp[qQ,m3,UM ch]at l;obtain⟨m1,gk,t7,h7⟩:=f.afk;have py:aF px ((cH.put f1 (.ptr b off)).put p (.ptr b (off+gA))) 0 (.tmp p)=J (.ptr b (off+gA)):=by simp[aF,bc.put,ix]
           have qM:aF px ((cH.put f1 (.ptr b off)).put p (.ptr b (off+gA))) u (.tmp f.d)=J (.sl m1 gk t7):=by simp[aF,bc.put,ix,if_neg (Ne.symm eO),if_neg (Ne.symm gn)];exact h7
           have iQ:=aaC (st:=(cH.put f1 (.ptr b off)).put p (.ptr b (off+gA))) bn ch py qM (by show(∃av,bu cH.ak b=J (.cells av))\/∃c y,bu cH.ak b=J (.box c y);rw[f.ak];exact dL) l;obtain⟨vs,t,eu⟩:=ap (o:=os) ⟨iQ.1,by have:=iQ.2;have u4:((cH.put f1 (.ptr b off)).put p (.ptr b (off+gA))).ak=st.ak:=f.ak;rw[u4]at this;exact this⟩
           have am:f1<cH.n:=by simpa using am
           have cZ:p<cH.n:=by simpa[ bc.put]using cZ
           rw[f.n.1]at am cZ;exact avW bn jK ic qS ea gz gN ay f jL v b9 ch Cn Cm qQ Ce Cd m3 pH vb QV ax6 ax7 am cZ c0 fr eu bk Ck
         .cases l
        .cases l
       .cases s
      .cases s
   .cases bz
end
def pd:bf->Exit|.normal=>.normal|.exit id=>.exit id|.ret=>.ret
section
variable {R:Type}{px:aM R}{ab:cB}
variable{o':Obj}
theorem bF.putObj{S:g7}{l:Nat}{o:Obj}(g:∀i,S l i)(h:w.heap[l]? = J o)(j:∀cs t f,o ≠ .cells cs t f):bF S w (w.putObj l o'):=by
 have c:∀(b:Nat) (cs:Array aA) (t:bD) (f:Nat×Nat),w.heap[b]? = J (.cells cs t f)->b≠l:=λb cs t f aj e=>by subst e;rw[h]at aj;simp at aj;exact j cs t f aj
 refine⟨rfl,rfl,rfl,by simp,λk m d=>aK.putObj_heap_other λe=>?_,λb i v aE d=>?_,λb cs t f aj=>⟨cs,f,?_,rfl⟩⟩
 .exact d 0 (by rw[e];exact g 0)
 .have aj:b≠l:=λe=>d (by rw[e];exact g i);rw[aK.cell?_of_block (a:=⟨b,i,ah⟩) (aK.putObj_heap_other aj)];exact aE
 .rw[aK.putObj_heap_other (c b cs t f aj)];exact aj
variable{as_:U Act}{m:dg}{st:bc}
theorem Rel.served(h:Rel ab m a as_ (az st) w){b:Nat}{k:c_}{o:Obj}(aj:bu st.ak b=J k)(d:w.heap[m.ak b]? = J o)(an:∀cs t f,o ≠ .cells cs t f):Rel ab m a as_ (az { st with ak:=eZ st.ak b (.e' 2) }) (w.putObj (m.ak b) o'):=by
 have h1:=h.write (k:=.e' 2) (b:=b) aj (w':=w.putObj (m.ak b) o') (bF.putObj (λ_=>rfl) d an) (λx' _ _=>(λe=>nomatch e));have e:az { st with ak:=eZ st.ak b (.e' 2) }={ az st with ak:=λc=>if c=b then J (.e' 2)else(az st).ak c }:=PB
 rw[e];exact h1
theorem Rel.afY(h:Rel ab m a as_ (az st) w){k:c_}{o:Obj}(h0:∀x',eD (vx ab m (az st) w) x'->x'.w=w.alloc o->gX x' w.heap.size k):∃aR,Rel ab aR a as_ (az { st with ak:=(st.nb,k)::st.ak,nb:=st.nb+1 }) (w.alloc o)/\aR.ak st.nb=w.heap.size/\eD (vx ab m (az st) w) (vx ab aR (az { st with ak:=(st.nb,k)::st.ak,nb:=st.nb+1 }) (w.alloc o)):=by
 obtain⟨aR,f,d,c⟩:=h.afE (k:=k) (g:=w.heap.size) (w':=w.alloc o) (bF.alloc _ _ _) (b2 _) (by simp) h0;have e:az { st with ak:=(st.nb,k)::st.ak,nb:=st.nb+1 }={ az st with ak:=λb=>if b=(az st).nb then J k else(az st).ak b,nb:=(az st).nb+1 }:=by refine FS.eq rfl rfl rfl rfl rfl ?_ rfl rfl rfl;funext b;exact fi st.ak st.nb b _
 rw[e];refine⟨aR,f,?_,c⟩;simp only[aB]at d;have c:=d.2;simp at c;exact c.symm
variable{r:R}
theorem ams(an:hy ab px){g:ct}{bE:Array Tmp}{bS:Code}{K:bf->bc->af R}(h:hj px (.rangeFunc g bE bS body) st K=J r)(ay:Rel ab m a as_ (az st) w)(ew:∀e aG aR bC w',K e aG = J r->(aG.n=st.n/\aG.bI=st.bI)->Rel ab aR bC as_ (az aG) w'->Q (pd e) bC w'):(Code.rangeFunc g bE bS body).wp ab.P Q a w:=by
 simp only[hj]at h;split at h
 .rename_i f hp he;obtain⟨bW,z⟩:=an f _ _ _ r h;rw[cR]at he;obtain⟨v,_,aE,u⟩:=ay.env.aF (env:=get st.env) he;simp only[aB]at u;obtain⟨t,rfl,aJ⟩:=u;refine wpIn_wide.1 (wpIn_rangeFunc (F:=gK) (n:=0) λfn _=>?_);obtain⟨gn,aZ,cF,ch⟩:=ay.afY (k:=.e' 0) (o:=.deferred (J [])) (λx' _ hw _=>by rw[hw];exact aK.alloc_heap_new w _);obtain⟨fV,i,aS,bk⟩:=aZ.afY (k:=.hc 0 st.n bE.toList bS body st.env) (o:=.loop { state:=.ready,pending:=ah,fn,tmps:=a.tmps,params:=bE,assign:=bS,body,defers:=w.heap.size }) (λx' aW hw=>⟨_,by rw[hw];exact aK.alloc_heap_new _ _,by simp,rfl,rfl,(jm.mk (x:=vx ab gn (az { st with ak:=(st.nb,.e' 0)::st.ak,nb:=st.nb+1 }) (w.alloc (.deferred (J [])))) (n:=st.n) (df:=[]) (env:=get st.env) (a:={ tmps:=a.tmps,defers:=[] }) rfl aZ.env.size aZ.env.get).later aW,λ_=>⟨rfl,rfl⟩⟩);obtain⟨sf,b9⟩:∃sf,(w.alloc (.deferred (J []))).alloc (.loop { state:=.ready,pending:=ah,fn,tmps:=a.tmps,params:=bE,assign:=bS,body,defers:=w.heap.size })=sf:=⟨_,rfl⟩;rw[b9]at i bk;have e_:fV.ak st.nb=w.heap.size:=(bk.ak st.nb (Nat.lt_succ_self _)).trans cF;have kM:fV.ak (st.nb+1)=w.heap.size+1:=aS.trans (by simp);have cy:Rel ab fV { a with defers:={ target:=.collected w.heap.size,args:= #[] }::a.defers } as_ (az { st with ak:=(st.nb+1,.hc 0 st.n bE.toList bS body st.env)::(st.nb,.e' 0)::st.ak,nb:=st.nb+2,df:=.ptr st.nb (st.nb+1)::st.df }) sf:=⟨i.dV,⟨⟨_,_,rfl,⟨Nat.lt_succ_of_lt (Nat.lt_succ_self _),Nat.lt_succ_self _,kM.trans (congrArg (·+1) e_.symm),by rw[<-e_];rfl⟩,i.env.defers⟩,i.env.size,i.env.get⟩,i.gI,i.cd,i.lt,i.eb,i.hZ,i.inj,i.gb,i.fH,i.own,i.fE,i.g1⟩
  have bz:aX (vx ab fV (az { st with ak:=(st.nb+1,.hc 0 st.n bE.toList bS body st.env)::(st.nb,.e' 0)::st.ak,nb:=st.nb+2,df:=.ptr st.nb (st.nb+1)::st.df }) sf) (.ks (st.nb+1)::hp) (.func (.yield (w.heap.size+1)) #[] #[]::t):=⟨_,_,rfl,by simp only[aB];exact⟨Nat.lt_succ_self _,by rw[<-kM];rfl⟩,aX.later bk _ _ (aX.later ch _ _ aJ)⟩
  refine⟨w.heap.size+1,[{ target:=.collected w.heap.size,args:= #[] }],sf,{ target:=.fn (.func f) t.toArray,args:= #[.func (.yield (w.heap.size+1)) #[] #[]] },sf,f,(.func (.yield (w.heap.size+1)) #[] #[]::t).toArray,sf,b9▸run_enterLoop_outer _ _ _ _ _,?_,λ_ _=>trivial,?_,(λe=>nomatch e),callsIn_wide.2 ((z fV _ as_ _ _ cy bz).mono ?_)⟩
  .simp only[resolve,aE];simp[go_sem]
  .have l3:=bW (.func (.yield (w.heap.size+1)) #[] #[]::t).toArray sf;simp[invoke,go_sem];simpa using l3
  .rintro dv w3 ⟨v,rfl,rs,aG,aR,s,ac,d,_⟩;obtain⟨s1,s2,oF,af1,y⟩:=ac;simp only[iH]at y;simp only at s;have key:∀(m6:c_) (rc:Loop),bu aG.ak (st.nb+1)=J m6->w3.heap[aR.ak (st.nb+1)]? = J (.loop rc)->rc.state ≠ .busy->(Instr.endLoop (w.heap.size+1)).run ab.P w3 = .ok rc.pending (w3.putObj (aR.ak (st.nb+1)) (.loop { rc with state:=.exhausted })):=λm6 rc aj c bL=>by have ao:=d.env.defers;rw[show(az aG).df = .ptr st.nb (st.nb+1)::st.df from y.2]at ao;obtain⟨u2,azx,bd,⟨_,_,fK,jw⟩,_⟩:=ao;simp only[gZ]at bd;rw[<-bd.1]at jw;simp at jw;have ayA:aR.ak (st.nb+1)=w.heap.size+1:=fK.trans (congrArg (·+1) jw.symm);rw[<-ayA];exact run_endLoop c bL
   split at s
   .rename_i aj;obtain⟨rc,c,_,_,_,_,bL⟩:=(d.eb (st.nb+1) _ aj).2;obtain⟨p,b⟩:=bL rfl;refine⟨ah,_,by rw[<-b];exact key _ rc aj c (by rw[p];simp),?_⟩;exact _q
   .rename_i id aj;obtain⟨rc,c,l,b⟩:=(d.eb (st.nb+1) _ aj).2;refine⟨J (.exit id),_,by rw[show J (Code.exit id)=rc.pending from b.symm];exact key _ rc aj c (by rw[l];simp),?_⟩;exact wpIn_exit (ew (.exit id) _ aR _ _ s ⟨s1,y.1⟩ (d.served aj c (by simp)))
   .rename_i aj;obtain⟨rc,c,l,b⟩:=(d.eb (st.nb+1) _ aj).2;refine⟨J .ret,_,by rw[show J Code.ret=rc.pending from b.symm];exact key _ rc aj c (by rw[l];simp),?_⟩;exact ad9
   .rename_i j n cZ am cE env q aj;have ic:=(d.eb (st.nb+1) _ aj).2.2;by_cases h0:j=0
    .rw[aY h0]at s;obtain⟨rc,c,_,_,_,_,p,b⟩:=ic.1 h0;refine⟨ah,_,by rw[<-b];exact key _ rc aj c (by rw[p];simp),?_⟩;exact _q
    .obtain⟨rc,c,l,b⟩:=ic.2 h0;rw[bl h0]at s;by_cases h1:j=1
     .rw[aY h1]at s;refine⟨J .ret,_,by rw[show J Code.ret=rc.pending by rw[b,Py,if_pos h1];rfl];exact key _ rc aj c (by rw[l];simp),?_⟩;exact ad9
     .rw[bl h1]at s;refine⟨J (.exit q),_,by rw[show J (Code.exit q)=rc.pending by rw[b,Py,if_neg h1];rfl];exact key _ rc aj c (by rw[l];simp),?_⟩;exact wpIn_exit (ew (.exit q) _ aR _ _ s ⟨s1,y.1⟩ (d.served aj c (by simp)))
   .cases s
 .cases h
end
def fe(n:Nat):Code->Bool|.region _ os c=>(os.toList.all λo=>mz o&&oP n o)&&(!c||FE os)|.seq a b=>fe n a&&fe n b|.cond _ a b=>fe n a&&fe n b|.block _ b=>fe n b|.loop b=>fe n b|.scope b=>fe n b|_=>ae
def fv:af Nat->Code->Bool|none,_=>ae|some l,.region _ os _=>(os.toList.all λo=>ng (J l) o)&&(sd os).isNone|some l,.seq a b=>fv (J l) a&&fv (J l) b|some l,.cond _ a b=>fv (J l) a&&fv (J l) b|some l,.block _ b=>fv (J l) b|some _,.loop _=>ai|some _,.scope _=>ai|some _,.rangeFunc _ _ _ _=>ai|some _,_=>ae
theorem arb(o:bw):ng ah o=true:=by unfold ng;rfl
theorem AZ(c:Code):fv ah c=true:=Gy
variable{id:Nat}{ro:af Nat}
theorem arN{os:Array bw}{a:Bool}(h:fv ro (.region id os a)=ae):(os.toList.all λo=>ng ro o)=ae/\(ro=ah\/sd os=ah):=by cases ro with|none=>exact⟨cX.2 λo _=>arb o,.inl rfl⟩|some l=>simp only[fv,bx,Option.isNone_iff_eq_none]at h;exact⟨h.1,.inr h.2⟩
theorem aon{x y:Code}(h:fv ro (.seq x y)=ae):fv ro x=ae/\fv ro y=true:=aer
theorem amI{c:ct}{x y:Code}(h:fv ro (.cond c x y)=ae):fv ro x=ae/\fv ro y=true:=aer
theorem amh{b:Code}(h:fv ro (.block id b)=ae):fv ro b=true:=by cases ro with|none=>exact AZ _|some l=>simpa only[fv]using h
section
variable {R:Type}{px:aM R}{ab:cB}
def fR(ab:cB)(px:aM R)(b:Code):Prop:=∀(st:bc) (K:bf->bc->af R) (r:R),px.loop b st K=J r->∀(Q:Exit->Act->aK->Prop) (m:dg) (a:Act) (as_:U Act) (w:aK),fe st.n b=ae->Rel ab m a as_ (az st) w->(∀e aG aR bC w',K e aG = J r->(aG.n=st.n/\aG.bI=st.bI)->Rel ab aR bC as_ (az aG) w'->Q (pd e) bC w')->(Code.loop b).wp ab.P Q a w
theorem S_{ops:Array bw}{s:Nat->FS}(an:l2 ops s):∀t,t<=ops.size->(s t).bI=(s 0).bI
 |0,_=>rfl
 |t+1,cg=>by obtain⟨o,bK⟩:∃o,ops[t]? = J o:=⟨_,k' ag⟩;have:=congrArg FS.bI (an t o bK);rw[this];exact S_ an t ag
theorem Ka{ops:Array bw}{s:Nat->FS}:∀t,Fd ops s (λ_=>ai) t=s 0
 |0=>rfl
 |t+1=>by
  simp[Fd];split
  .simp[Ka t]
  .exact Ka t
theorem ql{ro:af Nat}(bn:eR ab px)(an:hy ab px)(g:ik ab px)(hm:ab.P.follows .mixedOrders=ae):∀(c:Code) (st:bc) (K:bf->bc->af R) (r:R),fe st.n c=ae->fv ro c=ae->(∀b,b∈gr c->fR ab px b)->hj px c st K=J r ->
  ∀(Q:Exit->Act->aK->Prop) (m:dg) (a:Act) (as_:U Act) (w:aK),Rel ab m a as_ (az st) w->(∀e aG aR bC w',K e aG = J r->(aG.n=st.n/\aG.bI=st.bI)->Rel ab aR bC as_ (az aG) w'->Q (pd e) bC w')->c.wpIn (jn ro) 0 ab.P Q a w
 |.skip,st,K,r,_,_,_,h,Q,m,a,as_,w,ay,ew=>wpIn_skip (ew .normal st m a w h ⟨rfl,rfl⟩ ay)
 |.label l,st,K,r,_,_,_,h,Q,m,a,as_,w,ay,ew=>wpIn_label (ew .normal st m a w h ⟨rfl,rfl⟩ ay)
 |.exit id,st,K,r,_,_,_,h,Q,m,a,as_,w,ay,ew=>wpIn_exit (ew (.exit id) st m a w h ⟨rfl,rfl⟩ ay)
 |.ret,st,K,r,_,_,_,h,Q,m,a,as_,w,ay,ew=>wpIn_ret (ew .ret st m a w h ⟨rfl,rfl⟩ ay)
 |.region id ⟨l⟩ QH,st,K,r,aj,f,_,h,Q,m,a,as_,w,ay,ew=>by
  simp only[fe,bx]at aj;obtain⟨bz,cy⟩:=arN f;simp[hj]at h;cases QH with
  |false=>exact wpIn_region_lit (yr bn an aj.1 bz h ay (λaG aR bC w' h1 h2 h3=>ew .normal aG aR bC w' h1 h2 h3))
  |true=>
   simp only at h;generalize p:jZ (Array.mk l)=N at h;have kO:N<=I l:=by rw[<-p];exact(KC _).1
   have cE:I (l.take N)=N:=w9
   obtain⟨aG,h1,h2,h3⟩:=LQ bn g (cX.2 λo bK=>cX.1 aj.1 o (List.mem_of_mem_take bK)) h;cases aJ:C0 px (Array.mk l) aG with
   |false=>rw[aJ]at h1;cases h1
   |true=>
   rw[aJ]at h1;simp only at h1;obtain⟨eE,la,cF,aS⟩:=VU h3;rw[cE]at cF;let s:Nat->FS:=λi=>if i<=N then eE i else eE N
   have k:∀{i:Nat}{o:bw},i<N->(Array.mk l)[i]? = J o->(l.take N)[i]? = J o:=λ{i o} hi bK=>by rw[List.getElem?_take_of_lt hi];simpa using bK
   have aZ:l2 (Array.mk l) s:=λi o bK=>by
    by_cases hi:i<N
    .have:=(aS i o (k hi bK)).1;exact aea
    .have h4:s (i+1)=eE N:=aeG
     have h5:s i=eE N:=by
      simp only[s];split
      .rw[show i=N by omega]
      .rfl
     rw[h4,h5,an0]
   have ff:(Array.mk l).size=I l:=rfl;refine wpIn_region_any hm (agU (N:=N) (s:=s) (as_:=as_) kO p.symm (by simpa using aj.2) (λj m8 h4 h5 q cA=>(KC _).2 j m8 (by rw[p];exact h4) h5 q (by rw[p];exact cA)) aZ (λi o hi bK=>?_) (λi o bK=>?_) (λi j IX m8 hi cN ac am _ _ _ bL b cZ=>?_) (λaR bC w' d fuel listed dp ap dH=>?_) _ _ _ _ (by simp) ?_ ?_ (λq _ cA=>by have lL:q<I l:=cA;simp[ lL]) ⟨m,?_⟩)
   .simp[s,if_pos (show i<=N by omega),if_pos (show i+1<=N by omega)];exact(aS i o (k hi bK)).2.2.2
   .by_cases hi:i<N
    .simp[s,if_pos (show i<=N by omega),if_pos (show i+1<=N by omega)];exact(aS i o (k hi bK)).2.1
    .have h4:s (i+1)=eE N:=aeG
     have h5:s i=eE N:=by
      simp only[s];split
      .rw[show i=N by omega]
      .rfl
     rw[h4,h5];exact b2 _
   .refine akI aZ (T:=N) kO cN am ac ?_ bL cZ;have:=(aS i IX (k ac hi)).2.2.1;rw[Nat.zero_add]at this;exact aea
   .have bW:s N=az aG:=by simp[s];exact cF
    rw[bW]at d;have dE:aG.bI=st.bI:=by
     have:=S_ aZ N kO;have h6:s 0=az st:=by simp[s];exact la
     rw[bW,h6]at this;exact this
    refine as5 (ro:=ro) bn an (λj m8 dL=>(tO (by simpa using aj.2) dL).1) (by rw[h2];exact aj.1) bz cy aJ (by rw[p];exact h1) d (λb9 d_ d' ef dN eJ gl=>ew .normal b9 d_ d' ef dN ⟨eJ.1.trans h2,eJ.2.trans dE⟩ gl) fuel listed dp (by rw[p];exact ap) dH
   .intro j o bK t;have ea:j<I l:=by have:=(gG.1 bK).1;exact this
    simp[ea]at t
   .have:=List.length_filter_le (λj=> !(Array.replicate (Array.mk l).size ai).getD j ae) (dy (Array.mk l).size);exact oK
   .rw[DT (T:=λ_=>ai) _ kO (λj cN=>by
     have h7:j<I l:=ag
     simp[h7]),Ka]
    have h6:s 0=az st:=by simp[s];exact la
    rw[h6];exact ay.quiet (bF.drawn _ _ _)
 |.seq x y,st,K,r,aj,f,t,h,Q,m,a,as_,w,ay,ew=>by simp[fe]at aj;simp[hj]at h;have f:=aon f;refine wpIn_seq (ql bn an g hm x st _ r aj.1 f.1 (λb aj=>t b GC) h _ m a as_ w ay ?_);intro e aG aR bC w' u z d;cases e with|normal=>show y.wpIn (jn ro) 0 ab.P Q bC w';exact ql bn an g hm y aG K r (by rw[z.1];exact aj.2) f.2 (λb aj=>t b GC) u Q aR bC as_ w' d (λaS cH fV a2 w2 dN eJ gl=>ew aS cH fV a2 w2 dN ⟨eJ.1.trans z.1,eJ.2.trans z.2⟩ gl)|exit id=>exact ew (.exit id) aG aR bC w' u z d|ret=>exact ew .ret aG aR bC w' u z d
 |.cond c x y,st,K,r,aj,f,t,h,Q,m,a,as_,w,ay,ew=>by
  simp[fe]at aj;simp[hj]at h;split at h
  .rename_i q cA;rw[cR]at cA;obtain⟨v,_,aE,ch⟩:=ay.env.aF (env:=get st.env) cA;obtain rfl:=aB.bool ch;have f:=amI f;refine wpIn_cond_split aE (λc0=>?_) (λdu=>?_)
   .subst c0;exact ql bn an g hm x st K r aj.1 f.1 (λb aj=>t b GC) h Q m a as_ w ay ew
   .subst du;exact ql bn an g hm y st K r aj.2 f.2 (λb aj=>t b GC) h Q m a as_ w ay ew
  .cases h
 |.block id b,st,K,r,aj,f,t,h,Q,m,a,as_,w,ay,ew=>by
  simp[fe]at aj;simp[hj]at h;refine wpIn_block (ql bn an g hm b st _ r aj (amh f) (λbQ bk=>t bQ (by simpa[gr]using bk)) h _ m a as_ w ay ?_);intro e aG aR bC w' u z d;cases e with
  |normal=>exact ew .normal aG aR bC w' u z d
  |ret=>exact ew .ret aG aR bC w' u z d
  |exit i=>
   show Exit.inBlock id Q (.exit i) bC w';simp only at u;split at u
   .rename_i hi;obtain rfl:=cU hi;simp[Exit.inBlock];exact ew .normal aG aR bC w' u z d
   .rename_i hi;have dF:i≠id:=Nat.ne_of_beq_eq_false hi;simp[Exit.inBlock,if_neg dF];exact ew (.exit i) aG aR bC w' u z d
 |.loop b,st,K,r,aj,f,t,h,Q,m,a,as_,w,ay,ew=>by cases ro with|some _=>cases f|none=>exact wpIn_wide.2 (t b (by simp[gr]) st K r h Q m a as_ w aj ay ew)
 |.scope b,st,K,r,aj,f,t,h,Q,m,a,as_,w,ay,ew=>by
  simp[fe]at aj;simp[hj]at h;cases ro with
  |some _=>cases f
  |none=>
  refine wpIn_wide.2 (wp_scope_straight (wpIn_wide.1 (ql bn an g hm b st K r aj (AZ b) (λbQ bk=>t bQ (by simpa[gr]using bk)) h _ m a as_ w ay ?_)));intro e aG aR bC w' u z d;have:=ew e aG aR bC w' u z d;cases e with|normal=>show Exit.noGoto Q .normal bC w';exact this|exit i=>show Exit.noGoto Q (.exit i) bC w';exact this|ret=>show Exit.noGoto Q .ret bC w';rw[Exit.noGoto_ret];exact this
 |.rangeFunc _ _ _ _,st,K,r,_,f,_,h,Q,m,a,as_,w,ay,ew=>by cases ro with|some _=>cases f|none=>exact wpIn_wide.2 (ams an h ay ew)
 |.goto _,st,K,r,_,_,_,h,_,_,_,_,_,_,_=>by simp[hj]at h
 |.refuse _,st,K,r,_,_,_,h,_,_,_,_,_,_,_=>by simp[hj]at h
theorem n0(f:eR ab px)(an:hy ab px)(d:ik ab px)(hm:ab.P.follows .mixedOrders=ae)(c:Code)(st:bc)(K:bf->bc->af R)(r:R)(aj:fe st.n c=ae)(g:∀b,b∈gr c->fR ab px b)(h:hj px c st K=J r)
  (Q:Exit->Act->aK->Prop) (m:dg) (a:Act) (as_:U Act) (w:aK) (i:Rel ab m a as_ (az st) w) (j:∀e aG aR bC w',K e aG = J r->(aG.n=st.n/\aG.bI=st.bI)->Rel ab aR bC as_ (az aG) w'->Q (pd e) bC w'):c.wp ab.P Q a w:=
 wpIn_wide.1 (ql f an d hm c st K r aj (AZ c) g h Q m a as_ w i j)
variable{as_:U Act}{m:dg}{r:R}{s:bt}{st:bc}
theorem Jf(bn:eR ab px)(an:hy ab px)(u:ik ab px)(hm:ab.P.follows .mixedOrders=ae){b:Code}{step:oQ (au s.b3) R}(cG:lT s=ae)(f:∀bI g kx v,round px s b bI g kx v=step g kx v)(x:∀bQ,bQ∈gr b->fR ab px bQ){K:bf->bc->af R}(h:cq k s step st K=J r)(aj:fe st.n b=ae)(ay:Rel ab m a as_ (az st) w)(ew:∀e aG aR bC w',K e aG = J r->(aG.n=st.n/\aG.bI=st.bI)->Rel ab aR bC as_ (az aG) w'->Q (pd e) bC w'):(Code.loop b).wp ab.P Q a w:=by
 unfold cq at h;split at h
 .rename_i v aE;have y:st.n=s.n:=by
   unfold ly at aE;split at aE
   .rename_i i;simp only[bx]at i;exact cU i.1.1.1.1.2
   .cases aE
  have key:∀(n:Nat) (v:au s.b3),aT (λg=>step g (λe j=>K e (jq s st.bI j))) n v=J r->∀m a w,Rel ab m a as_ (az (jq s st.bI v)) w->aw.uc ab.P b Q a w:=by
   intro n;induction n with
   |zero=>intro v aE;simp[aT]at aE
   |succ n iw=>
    intro v aE m a w q;simp[aT]at aE;rw[<-f st.bI]at aE;have c:∀v,(jq s st.bI v).n=s.n/\(jq s st.bI v).bI=st.bI:=λv=>by unfold jq;split;exact⟨rfl,rfl⟩
    refine aw.GO (n0 bn an u hm b _ _ r (by rw[(c v).1,<-y];exact aj) x aE _ m a as_ w q ?_);intro e aG aR bC w' t l o;split at t
    .rename_i j z;obtain⟨fV,d⟩:=o.Q8 cG z;have aJ:aG.bI=st.bI:=l.2.trans (c v).2;rw[aJ]at d;cases e with|normal=>exact iw j t fV bC w' d|exit id=>exact ew (.exit id) _ fV bC w' t ⟨(c j).1.trans y.symm,(c j).2⟩ d|ret=>exact ew .ret _ fV bC w' t ⟨(c j).1.trans y.symm,(c j).2⟩ d
    .cases t
  obtain⟨va,p⟩:=ay.Q8 cG aE;exact aw.I9 (key k v h va a w p)
 .cases h
theorem akH(i:eR ab px)(an:hy ab px)(e:ik ab px)(hm:ab.P.follows .mixedOrders=ae){b:Code}{step:oQ (au s.b3) R}(f:∀st K,px.loop b st K=cq k s step st K)(j:lT s=ae)(c:∀bI d kx v,round px s b bI d kx v=step d kx v)(g:∀bQ,bQ∈gr b->fR ab px bQ):fR ab px b:=by intro st K r h Q m a as_ w aj l n;rw[f]at h;exact Jf i an e hm j c g h aj l n
theorem Wg(z:eR ab px)(an:hy ab px)(l:ik ab px)(hm:ab.P.follows .mixedOrders=ae){c:aM R}(n:eR ab c)(o:hy ab c)(g:ik ab c)(p:∀b st K,c.loop b st K=ah){b:Code}{step:oQ (au s.b3) R}(q:∀st K,px.loop b st K=CV c b k s step st K)(j:lT s=ae)(d:∀bI i kx v,round px s b bI i kx v=step i kx v)(t:∀bQ,bQ∈gr b->fR ab px bQ):fR ab px b:=by
 intro st K r h Q m a as_ w aj y u;rw[q]at h;unfold CV at h;split at h
 .exact Jf z an l hm j d t h aj y u
 .unfold aeh at h;refine aw.I9 (aw.GO (n0 n o g hm b st _ r aj (λbQ _ st K r h=>by rw[p]at h;cases h) h _ m a as_ w y ?_));intro e aG aR bC w' x j f;cases e with|normal=>cases x|exit id=>exact u (.exit id) aG aR bC w' x j f|ret=>exact u .ret aG aR bC w' x j f
def wx(ab:cB)(b:Code)(f:bc->(bf->bc->af R)->af R):Prop:=∀(st:bc) (K:bf->bc->af R) (r:R),f st K=J r->∀(Q:Exit->Act->aK->Prop) (m:dg) (a:Act) (as_:U Act) (w:aK),fe st.n b=ae->Rel ab m a as_ (az st) w->(∀e aG aR bC w',K e aG = J r->(aG.n=st.n/\aG.bI=st.bI)->Rel ab aR bC as_ (az aG) w'->Q (pd e) bC w')->(Code.loop b).wp ab.P Q a w
theorem _T(g:eR ab px)(an:hy ab px)(e:ik ab px)(hm:ab.P.follows .mixedOrders=ae){b:Code}{step:oQ (au s.b3) R}(i:lT s=ae)(c:∀bI d kx v,round px s b bI d kx v=step d kx v)(f:∀bQ,bQ∈gr b->fR ab px bQ):wx ab b (cq k s step):=by intro st K r h Q m a as_ w aj j l;exact Jf g an e hm i c f h aj j l
theorem adM(hm:ab.P.follows .mixedOrders=ae){c:aM R}(g:eR ab c)(i:hy ab c)(f:ik ab c)(j:∀b st K,c.loop b st K=ah){b:Code}:∀(n:Nat) (st:bc) (K:bf->bc->af R) (r:R),AM c b n st K=J r->∀(Q:Exit->Act->aK->Prop) (m:dg) (a:Act) (as_:U Act) (w:aK),fe st.n b=ae->Rel ab m a as_ (az st) w->(∀e aG aR bC w',K e aG = J r->(aG.n=st.n/\aG.bI=st.bI)->Rel ab aR bC as_ (az aG) w'->Q (pd e) bC w')->aw.uc ab.P b Q a w
 |0,_,_,_,h,_,_,_,_,_,_,_,_=>nomatch h
 |n+1,st,K,r,h,Q,m,a,as_,w,aj,ay,ew=>by refine aw.GO (n0 g i f hm b st _ r aj (λbQ _ st K r h=>by rw[j]at h;cases h) h _ m a as_ w ay ?_);intro e aG aR bC w' l k d;cases e with|normal=>exact adM hm g i f j n aG K r l Q aR bC as_ w' (by rw[k.1];exact aj) d (λaS cH p a2 w2 q o s=>ew aS cH p a2 w2 q ⟨o.1.trans k.1,o.2.trans k.2⟩ s)|exit id=>exact ew (.exit id) aG aR bC w' l k d|ret=>exact ew .ret aG aR bC w' l k d
theorem X_(hm:ab.P.follows .mixedOrders=ae){c:aM R}(e:eR ab c)(f:hy ab c)(d:ik ab c)(g:∀b st K,c.loop b st K=ah){b:Code}{n:Nat}:wx ab b (AM c b n):=λst K r h Q m a as_ w aj i j=>aw.I9 (adM hm e f d g n st K r h Q m a as_ w aj i j)
def J_(k:Nat)(s:bt)(step:oQ (au s.b3) R)(a:bc->(bf->bc->af R)->af R)(st:bc)(K:bf->bc->af R):af R:=match ly s st with|some _=>cq k s step st K|none=>a st K
theorem aqO{b:Code}{step:oQ (au s.b3) R}{a:bc->(bf->bc->af R)->af R}(h1:wx ab b (cq k s step))(h2:wx ab b a):wx ab b (J_ k s step a):=by
 intro st K r h;unfold J_ at h;split at h
 .exact h1 st K r h
 .exact h2 st K r h
theorem J1{b:Code}{f:bc->(bf->bc->af R)->af R}(a:∀st K,px.loop b st K=f st K)(h:wx ab b f):fR ab px b:=by intro st K r c;rw[a]at c;exact h st K r c
end
def v0(el:b1->bD)(M:g7)(w:aK):cM:=⟨⟨λ_=>0,λ_=>ah⟩,λ_=>False,M,w,0,0,el⟩
def m'(el:b1->bD)(M:g7)(m:dg)(bH:U ck)(w:aK):cM:=⟨m,λt=>t∈c8 0 bH,λb i=>M b i\/∃p o,p∈c8 0 bH/\m.a9 p=J (b,o)/\o<=i,w,0,I bH,el⟩
structure eH (P:cx) (el:b1->bD) (bM:Nat->Option h_) (f:FuncId) (sa bH:List ck) (F:au sa->Option (au bH)):Prop where
 enters:aw.jE P f
 run:∀x r,F x=J r->∀(w:aK) (M:g7) (vs:List aA),(∀b i,M b i->b<w.heap.size)->n5 (v0 el M w) bM->aX (v0 el M w) (en 0 sa x) vs ->
  Calls P f vs.toArray w λdv w'=>∃v m,dv = .returned v/\bF er w w'/\(∀p g o,p∈c8 0 bH->m.a9 p=J (g,o)->w.heap.size<=g/\g<w'.heap.size)/\(∀p q g o o',p∈c8 0 bH->q∈c8 0 bH->m.a9 p=J (g,o)->m.a9 q=J (g,o')->p=q)/\aB (m' el M m bH w') (hl (en 0 bH r)) v
section
variable {R:Type}{px:aM R}{ab:cB}
theorem qk(i:eR ab px){m:dg}{a:Act}{as_:U Act}{st:bc}{w:aK}(g:Rel ab m a as_ (az st) w):∀{rs:U ResultVar}{av:U D},results px st rs=J av->∃vs,Sem.run ab.P (rs.mapM (aw.rdv a.tmps)) w=Result.ok vs w/\aX (vx ab m (az st) w) av vs
 |[],av,h=>by simp[results]at h;subst h;exact⟨[],by simp,by simp[aX]⟩
 |.tmp t::rs,av,h=>by
  simp[results]at h;split at h
  .rename_i d j ao f;simp at h;subst h;obtain⟨vs,h1,h2⟩:=qk i g f;obtain⟨v,aE,c⟩:=g.env.get t d ao;refine⟨v::vs,?_,by simp only[aX];exact⟨v,vs,rfl,c,h2⟩⟩;simp[ aw.rdv,aE,h1]
  .cases h
 |.cell q t::rs,av,h=>by
  simp[results]at h;split at h
  .rename_i p k;split at h
   .rename_i d j n ao f;simp at h;subst h;obtain⟨vs,h1,h2⟩:=qk i g f;obtain⟨r,l,c⟩:=g.env.get q p k;rw[abg]at ao;obtain⟨u,h4,h5⟩:=Y4 (s:=az st) i g n ao c;obtain⟨ad,rfl⟩:∃ad,r = .pointer (J ad):=by cases p<;>simp[rn]at ao<;>first|(cases ao;done)|(simp[aB]at c;first|exact⟨_,c⟩|exact⟨_,c.2⟩|exact⟨_,c.2.1⟩|(obtain⟨b,o,e,_⟩:=c;exact⟨_,e⟩))
    refine⟨u::vs,?_,by simp only[aX];exact⟨u,vs,rfl,h5,h2⟩⟩;simp[Instr.loadAt,Instr.sureAddr]at h4;simp[ aw.rdv,l,asAddr,h4,h1]
   .cases h
  .cases h
theorem H1(h:aX x av vs):aB x (hl av) (aw.lO vs):=by
 match av,vs,h with
 |[],vs,h=>simp[aX]at h;subst h;simp only[hl];exact⟨[],rfl,by simp[aX]⟩
 |[d],vs,h=>simp only[aX]at h;obtain⟨u,us,rfl,h1,rfl⟩:=h;exact h1
 |d::e::av,vs,h=>match vs,h.len with|u::w::us,_=>simp only[hl];exact⟨_,rfl,h⟩
theorem MC{v:aA}(h:aB x (hl av) v):∃vs,v=aw.lO vs/\aX x av vs:=by
 match av,h with
 |[],h=>simp[hl]at h;obtain⟨vs,rfl,a⟩:=h;simp[aX]at a;subst a;exact⟨[],rfl,by simp[aX]⟩
 |[d],h=>exact⟨[v],rfl,by simp only[aX];exact⟨v,[],rfl,h,rfl⟩⟩
 |d::e::av,h=>simp[hl]at h;obtain⟨vs,rfl,a⟩:=h;match vs,a.len with|u::w::us,_=>exact⟨_,rfl,a⟩
theorem n3{b:Nat}:∀(l:U (Nat×c_)) (c:Nat),bu (fc l b) c=if c=b then ah else bu l c
 |[],c=>by simp[fc,bu]
 |(q,v)::l,c=>by
  simp[fc];by_cases a:q=b
  .subst a;simp;rw[n3 l c,fi];by_cases an:c=q
   .simp[an]
   .simp[an]
  .simp[lZ a];rw[fi,n3 l c,fi];by_cases an:c=q
   .subst an;simp[a]
   .grind
variable{as_:U Act}{m:dg}{st:bc}
theorem Rel.drop(d:Rel ab m a as_ (az st) w)(b:Nat):Rel ab m a as_ (az { st with ak:=fc st.ak b }) w/\eD (vx ab m (az st) w) (vx ab m (az { st with ak:=fc st.ak b }) w):=by
 have sub:∀c k,bu (fc st.ak b) c=J k->bu st.ak c=J k:=λc k h=>by
  rw[n3]at h;split at h
  .cases h
  .exact h
 have e:∀c,bu (fc st.ak b) c≠ah->bu st.ak c≠none:=λc h=>by cases j:bu (fc st.ak b) c with|none=>exact absurd j h|some k=>rw[sub c k j];simp
 have dI:∀c i,fj m (az { st with ak:=fc st.ak b }) c i->fj m (az st) c i:=by
  rintro c i (⟨q,n,rfl⟩|h)
  .exact .inl ⟨q,e q n,rfl⟩
  .exact .inr h
 have f:eD (vx ab m (az st) w) (vx ab m (az { st with ak:=fc st.ak b }) w):=by
  refine⟨bF.refl _ _,?_,rfl,λ_ _=>rfl,b2 _,b2 _,λt _ p=>⟨p,rfl,λ_ _ _=>rfl⟩⟩;rintro c i (h|h)
  .exact .inl (.inl h)
  .exact .inl (.inr (dI c i h))
 refine⟨⟨d.dV,d.env.later f,d.gI.later f d.cd d.lt,d.cd,d.lt,λc k j=>?_,d.hZ,λc l h1 h2=>d.inj c l (e c h1) (e l h2),d.gb,λc t g o h1=>d.fH c t g o (e c h1),λc i h=>d.own c i (dI c i h),d.fE,d.g1.later f⟩,f⟩;obtain⟨h1,h2⟩:=d.eb c k (sub c k j);exact⟨h1,h2.later f rfl⟩
theorem eD.trans{y z:cM}(h:eD x y)(k:eD y z):eD x z:=
 ⟨h.dV.later h.dI k.dV,λb i hi=>by
  rcases k.dI b i hi with h1|h1
  .exact h.dI b i h1
  .exact .inr (e2 h.dV.size h1),k.el.trans h.el,λb aj=>(k.ak b (gy aj h.nb)).trans (h.ak b aj),e2 h.nb k.nb,e2 h.ba k.ba,λt a e=>by
  obtain⟨a1,a2,a3⟩:=k.a9 t (gy a h.ba) e;obtain⟨f,c,j⟩:=h.a9 t a a1;exact⟨f,a2.trans c,λg o d=>(a3 g o (c.trans d)).trans (j g o d)⟩⟩
variable{r:R}
theorem Ko(l:Rel ab m a as_ (az st) w){d:D}{v:aA}(ao:aB (vx ab m (az st) w) d v){K:D->U (Nat×c_)->af R}(h:w6 st.ak d K=J r):∃hq e,K hq e = J r/\Rel ab m a as_ (az { st with ak:=e }) w/\eD (vx ab m (az st) w) (vx ab m (az { st with ak:=e }) w)/\aB (vx ab m (az { st with ak:=e }) w) hq v/\(cv d=ae->cv hq = ae):=by
 unfold w6 at h;split at h
 .rename_i b c s n;split at h
  .rename_i cj xs aj;split at h
   .rename_i an;simp at an;subst an;obtain⟨an,aV⟩:=fz h;simp at an;obtain⟨⟨cG,cJ⟩,ac⟩:=an;obtain⟨x,e5⟩:=l.drop b;refine⟨_,_,aV,x,e5,?_⟩;simp[aB]at ao ⊢;obtain⟨gJ,_,_,_,ad,cap,rfl,mv,nJ,Cl,_⟩:=ao;refine⟨⟨?_,trivial⟩,λ_=>rfl⟩;have z:n.toNat=I (cut xs s (s+n)):=by simp[cut];omega
    refine ue z ?_;by_cases aJ:n=0
    .left;exact List.eq_nil_of_length_eq_zero ag
    .right;obtain⟨_,bL,vs,ty,cf,bW,f⟩:=l.eb b _ aj;refine⟨m.ak b,s.toNat*aL c,mv.resolve_left aJ,by omega,λi y bN w' hw j d ao=>?_⟩;have aZ:xs[s.toNat+i]? = J y:=by
      simp[cut]at bN;rw[fQ]at bN;split at bN
      .rwa[List.getElem?_drop]at bN
      .cases bN
     obtain⟨u,hu,bO⟩:=f _ y j d aZ ao;refine⟨u,?_,(e5.rf bO) w' hw⟩;have g:w.cell? ⟨m.ak b,s.toNat*aL c+i*aL c+j,ah⟩=J u:=by have cf:w.heap[m.ak b]? = J (.cells vs.toArray ty (0,0)):=cf;simp[aK.cell?,cf];rw[<-Nat.add_mul];simpa using hu
     refine hw.cell _ _ _ g ?_;have k:(az st).ak b≠none:=PD
     rintro(e4|bk)
     .exact l.y2 e4 (.inl ⟨b,k,rfl⟩:fj m (az st) (m.ak b) 0)
     .rcases bk with ⟨q,p,he⟩|⟨t,o,h1,h2,_⟩
      .have p:bu (fc st.ak b) q≠none:=p;rw[n3]at p;split at p
       .exact p rfl
       .rename_i bz;exact bz (l.inj q b p k he)
      .exact l.fH b t _ o k h1 h2 rfl
   .cases h
  .cases h
 .exact⟨d,st.ak,h,l,⟨bF.refl _ _,λ_ _ h=>.inl h,rfl,λ_ _=>rfl,b2 _,b2 _,λt _ cI=>⟨cI,rfl,λ_ _ _=>rfl⟩⟩,ao,id⟩
theorem JT{m:dg}{a:Act}{as_:U Act}{w:aK}{r:R}:∀{av:U D}{st:bc}{vs:U aA}{K:U D->U (Nat×c_)->af R},Rel ab m a as_ (az st) w->aX (vx ab m (az st) w) av vs->Az st.ak av K=J r->∃b c,K b c = J r/\Rel ab m a as_ (az { st with ak:=c }) w/\eD (vx ab m (az st) w) (vx ab m (az { st with ak:=c }) w)/\aX (vx ab m (az { st with ak:=c }) w) b vs/\(av.all cv=ae->b.all cv=ae)
 |[],st,vs,K,ay,ao,h=>⟨[],st.ak,h,ay,⟨bF.refl _ _,λ_ _ h=>.inl h,rfl,λ_ _=>rfl,b2 _,b2 _,λt _ s=>⟨s,rfl,λ_ _ _=>rfl⟩⟩,by simpa using ao,id⟩
 |d::av,st,vs,K,ay,ao,h=>by simp[aX]at ao;obtain⟨u,us,rfl,h1,h2⟩:=ao;simp[Az]at h;obtain⟨v,g,x,i,e,j,k⟩:=Ko ay h1 h;obtain⟨b,l,n,o,f,p,q⟩:=JT (st:={ st with ak:=g }) i (aX.later e _ _ h2) x;refine⟨v::b,l,n,o,e.trans f,by simp only[aX];exact⟨u,us,rfl,aB.later f _ _ j,p⟩,λh=>?_⟩;simp only[et,bx]at h ⊢;exact⟨k h.1,q h.2⟩
theorem acz(l:Rel ab m a as_ (az st) w){d:D}{v:aA}(ao:aB (vx ab m (az st) w) d v){K:D->U (Nat×c_)->af R}(h:wV st.ak d K=J r):∃g b,K g b = J r/\Rel ab m a as_ (az { st with ak:=b }) w/\eD (vx ab m (az st) w) (vx ab m (az { st with ak:=b }) w)/\aB (vx ab m (az { st with ak:=b }) w) g v:=by
 unfold wV at h;split at h
 .rename_i av;simp only[aB]at ao;obtain⟨n,vs,rfl,e⟩:=ao;obtain⟨o,b,i,c,j,f,k⟩:=JT l e h;exact⟨_,b,i,c,j,by simp only[aB];exact⟨k n,vs,rfl,f⟩⟩
 .obtain⟨g,b,i,c,j,f,_⟩:=Ko l ao h;exact⟨g,b,i,c,j,f⟩
theorem E8{m:dg}{a:Act}{as_:U Act}{w:aK}{r:R}:∀{av:U D}{st:bc}{vs:U aA}{K:U D->U (Nat×c_)->af R},Rel ab m a as_ (az st) w->aX (vx ab m (az st) w) av vs->wT st.ak av K=J r->∃b c,K b c = J r/\Rel ab m a as_ (az { st with ak:=c }) w/\eD (vx ab m (az st) w) (vx ab m (az { st with ak:=c }) w)/\aX (vx ab m (az { st with ak:=c }) w) b vs
 |[],st,vs,K,ay,ao,h=>⟨[],st.ak,h,ay,⟨bF.refl _ _,λ_ _ h=>.inl h,rfl,λ_ _=>rfl,b2 _,b2 _,λt _ p=>⟨p,rfl,λ_ _ _=>rfl⟩⟩,by simpa using ao⟩
 |d::av,st,vs,K,ay,ao,h=>by simp[aX]at ao;obtain⟨u,us,rfl,h1,h2⟩:=ao;simp[wT]at h;obtain⟨q,g,s,i,e,j⟩:=acz ay h1 h;obtain⟨b,k,l,n,f,o⟩:=E8 (st:={ st with ak:=g }) i (aX.later e _ _ h2) s;exact⟨q::b,k,l,n,e.trans f,by simp only[aX];exact⟨u,us,rfl,aB.later f _ _ j,o⟩⟩
theorem Rel.axI(d:Rel ab m a as_ (az st) w){b:Nat}(aj:(az st).ak b≠ah)(o:Nat):∃aR,Rel ab aR a as_ (az (hV { st with ak:=fc st.ak b })) w/\eD (vx ab m (az st) w) (vx ab aR (az (hV { st with ak:=fc st.ak b })) w)/\aR.ak=m.ak/\aR.a9 st.ba=J (m.ak b,o)/\∀i,i<o->¬(vx ab aR (az (hV { st with ak:=fc st.ak b })) w).S (m.ak b) i:=by
 let aR:dg:={ m with a9:=λt=>if t=st.ba then J (m.ak b,o)else m.a9 t };let s':FS:=az (hV { st with ak:=fc st.ak b });have f:∀c,s'.ak c≠ah->(az st).ak c≠ah/\c≠b:=λc h=>by
  have h:bu (fc st.ak b) c≠none:=h;rw[n3]at h;by_cases an:c=b
  .rw[if_pos an]at h;exact absurd rfl h
  .rw[if_neg an]at h;exact⟨h,an⟩
 have j:∀t,s'.cc t->(t=st.ba/\aR.a9 t=J (m.ak b,o))\/((az st).cc t/\t<st.ba/\aR.a9 t=m.a9 t):=λt l=>by
  have l:t∈st.ba::st.a9:=l;rcases ek.1 l with rfl|l
  .exact .inl ⟨rfl,by simp[aR]⟩
  .have s:t<st.ba:=d.hZ t l;exact .inr ⟨l,s,by simp[aR,Nat.ne_of_lt s]⟩
 have dI:∀c i,fj aR s' c i->fj m (az st) c i/\(c=m.ak b->o<=i):=by
  rintro c i (⟨q,cA,rfl⟩|⟨t,p,h1,h2,h3⟩)
  .obtain⟨n,y⟩:=f q cA;exact⟨.inl ⟨q,n,rfl⟩,λe=>absurd (d.inj q b n aj e) y⟩
  .rcases j t h1 with ⟨rfl,e⟩|⟨n,_,e⟩
   .rw[e]at h2;simp at h2;obtain⟨rfl,rfl⟩:=h2;exact⟨.inl ⟨b,aj,rfl⟩,λ_=>h3⟩
   .rw[e]at h2;refine⟨.inr ⟨t,p,n,h2,h3⟩,λaS=>?_⟩;subst aS;exact absurd rfl (d.fH b t _ p aj n h2)
 have u:eD (vx ab m (az st) w) (vx ab aR s' w):=by
  refine⟨bF.refl _ _,?_,rfl,λ_ _=>rfl,b2 _,Nat.le_succ _,λt l cI=>?_⟩
  .rintro c i (h|h)
   .exact .inl (.inl h)
   .exact .inl (.inr (dI c i h).1)
  .have l:t<st.ba:=l;rcases j t cI with ⟨e,_⟩|⟨n,_,e⟩
   .omega
   .exact⟨n,e,λ_ _ _=>rfl⟩
 refine⟨aR,⟨d.dV,d.env.later u,d.gI.later u d.cd d.lt,d.cd,Nat.le_succ_of_le d.lt,λc k r=>?_,λt l=>?_,λc cj h1 h2=>d.inj c cj (f c h1).1 (f cj h2).1,λt t' g p sv h1 h2 h3 h4=>?_,λc t g p h1 h2 h3=>?_,λc i h=>d.own c i (dI c i h).1,d.fE,d.g1.later u⟩,u,rfl,by simp[aR],λi hi h=>?_⟩
 .have z:(az st).ak c=J k:=by
   have r:bu (fc st.ak b) c=J k:=r;rw[n3]at r;split at r
   .cases r
   .exact r
  obtain⟨h1,h2⟩:=d.eb c k z;exact⟨h1,h2.later u rfl⟩
 .rcases j t l with ⟨rfl,_⟩|⟨_,h,_⟩
  .exact Nat.lt_succ_self _
  .exact Nat.lt_succ_of_lt h
 .rcases j t h1 with ⟨cF,v⟩|⟨bd,_,v⟩<;>rcases j t' h2 with ⟨aS,x⟩|⟨ei,_,x⟩
  .rw[cF,aS]
  .rw[v]at h3;rw[x]at h4
   simp at h3;exact absurd h3.1 (d.fH b t' g sv aj ei h4)
  .rw[v]at h3;rw[x]at h4
   simp at h4;exact absurd h4.1 (d.fH b t g p aj bd h3)
  .rw[v]at h3;rw[x]at h4
   exact d.gb t t' g p sv bd ei h3 h4
 .obtain⟨n,y⟩:=f c h1;rcases j t h2 with ⟨_,e⟩|⟨bd,_,e⟩
  .rw[e]at h3;simp at h3;exactλaS=>y (d.inj c b n aj (aS.trans h3.1.symm))
  .rw[e]at h3;exact d.fH c t g p n bd h3
 .rcases h with h|h
  .exact d.y2 h (.inl ⟨b,aj,rfl⟩:fj m (az st) (m.ak b) 0)
  .have:=(dI _ i h).2 rfl;omega
theorem zO{a:Act}{as_:U Act}{w:aK}{r:R}:∀{bH:U ck}{m:dg}{av:U D}{st:bc}{vs:U aA}{K:U D->bc->af R},Rel ab m a as_ (az st) w->aX (vx ab m (az st) w) av vs->nc bH st av K=J r->∃f aG aR,K f aG = J r/\Rel ab aR a as_ (az aG) w/\eD (vx ab m (az st) w) (vx ab aR (az aG) w)/\aX (vx ab aR (az aG) w) f vs
 |[],m,[],st,vs,K,ay,ao,h=>⟨[],st,m,h,ay,⟨bF.refl _ _,λ_ _ h=>.inl h,rfl,λ_ _=>rfl,b2 _,b2 _,λt _ cI=>⟨cI,rfl,λ_ _ _=>rfl⟩⟩,ao⟩
 |[],m,_::_,st,vs,K,ay,ao,h=>by simp[nc]at h
 |_::_,m,[],st,vs,K,ay,ao,h=>by simp[nc]at h
 |eE::bH,m,d::av,st,vs,K,ay,ao,h=>by
  simp[aX]at ao;obtain⟨u,us,rfl,h1,h2⟩:=ao;have q:(wV st.ak d λhq v=>nc bH { st with ak:=v } av λf aG=>K (hq::f) aG)=J r->∃f aG aR,K f aG = J r/\Rel ab aR a as_ (az aG) w/\eD (vx ab m (az st) w) (vx ab aR (az aG) w)/\aX (vx ab aR (az aG) w) f (u::us):=λh=>by obtain⟨hq,bL,aV,x,g,bW⟩:=acz ay h1 h;obtain⟨f,cH,fV,z,aJ,k,aZ⟩:=zO (st:={ st with ak:=bL }) x (aX.later g _ _ h2) aV;exact⟨hq::f,cH,fV,z,aJ,g.trans k,by simp only[aX];exact⟨u,us,rfl,aB.later k _ _ bW,aZ⟩⟩
  by_cases l:∃dd b c s n,eE = .sl dd ae/\d = .gB b c s n
  .obtain⟨dd,b,c,s,n,rfl,rfl⟩:=l;simp[nc]at h;split at h
   .rename_i cj xs aj;split at h
    .rename_i an;simp at an;subst an;obtain⟨an,aV⟩:=fz h;simp at an;obtain⟨⟨b9,cJ⟩,cE⟩:=an;subst b9;have ch:(az st).ak b≠none:=PD
     simp only[aB]at h1;obtain⟨gJ,_,_,_,ad,cap,rfl,mv,nJ,Cl,cur,QN,p,QO⟩:=h1;obtain rfl:=mv.resolve_left ag;obtain⟨_,am,vs,ty,cf,cZ,bk⟩:=ay.eb b _ aj;have cf:w.heap[m.ak b]? = J (.cells vs.toArray ty (0,0)):=cf;have p:w.heap[m.ak b]? = J (.cells cur (ab.el c) (0,0)):=by have p:w.heap[m.ak b]? = J (.cells cur (ab.el c) QN):=p;rw[cf]at p;simp at p;rw[cf,p.1,p.2.1]
     obtain⟨gn,x,g,afj,axz,gQ⟩:=ay.axI ch (n.toNat*aL c);obtain⟨f,cH,fV,z,aJ,k,aZ⟩:=zO x (aX.later g _ _ h2) aV;refine⟨_::f,cH,fV,z,aJ,g.trans k,?_⟩;simp only[aX];refine⟨_,us,rfl,aB.later k _ _ ?_,aZ⟩;simp;have o:n.toNat=I (xs.take n.toNat):=dh
     refine⟨ue o (.inr ⟨m.ak b,0,by simp[vx],by omega,λi y bN w' hw j d ao=>?_⟩),Nat.lt_succ_self _,λ_=>.inr ⟨m.ak b,cap,cur,by rw[<-o];simp[vx],by rw[<-o];exact axz,p,by rw[QO];simp,by omega,Cl⟩⟩;have ac:i<n.toNat:=by have:=(hG.1 bN).1;omega
     have cN:j<aL c:=EQ
     have cy:xs[i]? = J y:=by rw[fQ,if_pos ac]at bN;exact bN
     obtain⟨u,hu,bO⟩:=bk i y j d cy ao;refine⟨u,?_,(g.rf bO) w' hw⟩;have bz:w.cell? ⟨m.ak b,0+i*aL c+j,ah⟩=J u:=by simp[aK.cell?,cf];simpa using hu
     refine hw.cell _ _ _ bz (gQ _ ?_);have:(i+1)*aL c<=n.toNat*aL c:=Nat.mul_le_mul_right _ ac;rw[Nat.succ_mul]at this;omega
    .cases h
   .cases h
  .have e:nc (eE::bH) st (d::av) K=(wV st.ak d λhq v=>nc bH { st with ak:=v } av λf aG=>K (hq::f) aG):=by
    cases eE with
    |sl dd own=>cases own with
     |true=>cases d<;>first|rfl|exact absurd ⟨_,_,_,_,_,rfl,rfl⟩ l
     |false=>rfl
    |_=>rfl
   exact q (e▸h)
variable{sa:U ck}{el:b1->bD}{bM:Nat->af h_}
theorem Jm(p:c8 0 sa=[]){x:au sa}{n:Nat}(cJ:I sa<=n){M:g7}(e4:∀b i,M b i->b<w.heap.size)(q:n5 (v0 el M w) bM)(f:aX (v0 el M w) (en 0 sa x) vs) :
  Rel ⟨P,w,er,M,el,bM⟩ ⟨λ_=>0,λ_=>ah⟩ { tmps:=vs.toArray++Array.replicate (n-vs.toArray.size) undef,defers:=[] } [] (az (gD n sa x)) w:=by
 have l:∀b i,fj ⟨λ_=>0,λ_=>ah⟩ (az (gD n sa x)) b i->False:=by
  rintro b i (⟨k,a,_⟩|⟨t,o,_,h2,_⟩)
  .exact a rfl
  .cases h2
 have y:I vs=I sa:=by rw[f.len,_U]
 have z:eD (v0 el M w) (vx ⟨P,w,er,M,el,bM⟩ ⟨λ_=>0,λ_=>ah⟩ (az (gD n sa x)) w):=⟨bF.refl _ _,λb i hi=>hi.elim .inl (λh=>(l b i h).elim),rfl,λb aj=>(pv _ aj).elim,cp _,cp _,λt r=>(pv _ r).elim⟩;have c:=aX.later z _ _ f;have m:∀(av:U D) (us:U aA) (i k:Nat) (d:D),aX (vx ⟨P,w,er,M,el,bM⟩ ⟨λ_=>0,λ_=>ah⟩ (az (gD n sa x)) w) av us->get (hh i av) k=J d->∃v,i<=k/\us[k-i]? = J v/\aB (vx ⟨P,w,er,M,el,bM⟩ ⟨λ_=>0,λ_=>ah⟩ (az (gD n sa x)) w) d v:=by
  intro av;induction av with
  |nil=>intro us i k d _ h;simp[hh,get]at h
  |cons e av iw=>
   intro us i k d f h;simp[aX]at f;obtain⟨u,us,rfl,h1,h2⟩:=f;simp[hh]at h;rw[ix]at h;by_cases a:k=i
   .subst a;exact N5
   .rw[if_neg a]at h;obtain⟨v,h3,h4,h5⟩:=iw us (i+1) k d h2 h;refine⟨v,by omega,?_,h5⟩;exact Kr
 refine⟨bF.refl _ _,⟨rfl,?_,λk d a=>?_⟩,rfl,cp _,cp _,λb k a=>?_,λt r=>?_,λb bQ h=>(h rfl).elim,λt t' g o o' _ _ h=>jU,λb t g o h=>(h rfl).elim,λb i hi=>(l b i hi).elim,λb i j hm=>⟨e4 b i hm,id⟩,?_⟩
 .show _=n;simp;omega
 .obtain⟨v,_,h2,h3⟩:=m _ _ 0 k d c a;rw[Nat.sub_zero]at h2;refine⟨v,?_,h3⟩;have s:k<I vs:=(hG.1 h2).1;simp only[Array.getElem?_append,List.size_toArray,s];simpa using h2
 .cases a
 .have:t∈c8 0 sa:=r;rw[p]at this;cases this
 .exact q.later z
variable{bH:U ck}{F:au sa->af (au bH)}{f:FuncId}{fn:Func}
theorem J4{c:Code}{px:aM (au bH)}(bO:P.funcs[f]? = J fn)(aj:fn.body=J c)(u:(fn.name == "runtime.NumGoroutine")=ai)(hm:P.follows .mixedOrders=ae)(k:(fe fn.ntmps c&&dz (I sa) fn.ntmps&&im (c8 0 sa) [])=ae)
  (bW:∀ab:cB,ab.P=P->ab.el=el->ab.bM=bM->ab.g'=er->eR ab px/\hy ab px/\ik ab px/\∀b,b∈gr c->fR ab px b) (eu:∀x,mF px fn sa bH x J=F x):eH P el bM f sa bH F:=by
 refine⟨aw.ga bO rG u,λx r aW w M vs e4 b9 ay=>?_⟩;simp at k;have cJ:I sa<=fn.ntmps:=by simpa using k.1.2
 have aJ:=Jm (P:=P) (rM k.2) cJ e4 b9 ay;rw[<-eu]at aW;unfold mF at aW;rw[aj]at aW;simp only at aW;obtain⟨h1,h2,h3,h4⟩:=bW ⟨P,w,er,M,el,bM⟩ rfl rfl rfl rfl;refine calls_of_wp bO aj (n0 h1 h2 h3 hm c _ _ r k.1.1 h4 aW _ _ _ [] w aJ ?_);intro e aG aR bC w' m _ a;cases e
 case exit=>cases m
 all_goals
  simp only at m;split at m
  .rename_i cZ aZ ch;obtain⟨us,n,l⟩:=qk h1 a ch;have bk:bC.defers=[]:=a.y_ aZ;obtain⟨rs,cH,fV,m,j,_,y⟩:=zO a l m;clear l a;split at m
   .rename_i Cy bz;simp at m;subst m;obtain⟨cy,cE⟩:=BV 0 bz;let z:dg:=⟨λ_=>0,λp=>(bS 0 bH rs p).bind fV.a9⟩;have d:∀p g o,z.a9 p=J (g,o)->∃t,bS 0 bH rs p=J t/\t∈cH.a9/\fV.a9 t=J (g,o):=λp g o s=>by cases cI:bS 0 bH rs p with|none=>simp only[z,cI]at s;cases s|some t=>simp[z,cI]at s;exact⟨t,rfl,(cy p t cI).1,s⟩
    have gQ:∀b i,(m' el M z bH w').S b i->(vx ⟨P,w,er,M,el,bM⟩ fV (az cH) w').S b i:=by
     rintro b i (h|⟨p,o,_,h2,h3⟩)
     .exact .inl h
     .obtain⟨t,_,ei,fK⟩:=d p b o h2;exact .inr (.inr ⟨t,o,ei,fK,h3⟩)
    have ac:=o3 (X:=vx ⟨P,w,er,M,el,bM⟩ fV (az cH) w') (X':=m' el M z bH w') gQ rfl rfl 0 bz (λt cg=>cg) y (λp bn=>by have:=(o1 _ _ _ bn).2;exact⟨by simpa[m']using this,rfl⟩)
    refine⟨bk,aw.lO us,?_,aw.lO us,z,rfl,j.dV,λp g o bn s=>?_,λp q g o o' _ _ s am=>?_,H1 ac⟩
    .obtain⟨sx⟩:∃sx,fn.results=List.toArray sx:=⟨fn.results.toList,by simp⟩;rename_i bL;rw[aw.CC,bL];rw[bL]at n;simp only[List.mapM_toArray,dG,map_eq_pure_bind,eW,n];congr 1;match us with|[]=>rfl|[v]=>rfl|_::_::_=>simp[aw.lO]
    .obtain⟨t,_,ei,fK⟩:=d p g o s;exact _B
    .obtain⟨t,bd,ei,fK⟩:=d p g o s;obtain⟨t',p1,p2,p3⟩:=d q g o' am;have:=j.gb t t' g o o' ei p2 fK p3;subst this;exact cE p q t bd p1
   .cases m
  .cases m
end
section
variable {R:Type}{px:aM R}{ab:cB}
theorem U_{n:Nat}(t:∀b j,x'.S b j->x.S b j)(r:x'.w=x.w)(o:x'.el=x.el):∀{s:ck}{y:den s}{v:aA},aB x (eT i s y) v->(∀c,s = .sl c ae->x.cc i/\n+i<x'.ba/\x'.m.a9 (n+i)=x.m.a9 i)->aB x' (eT (n+i) s y) v:=by
 have a:∀{d:D}{v:aA},eI x.S x.w d v->eI x'.S x'.w d v:=λh=>by rw[r];exact h.later (bF.refl _ _) (λk j aV=>.inl (t k j aV))
 intro s y v h e;cases s with
 |int k=>simpa[eT,aB]using h
 |bool=>simpa[eT,aB]using h
 |str=>simpa[eT,aB]using h
 |sl c own=>
  cases own with
  |false=>simp[eT]at h ⊢;exact⟨a h.1,trivial⟩
  |true=>
   obtain⟨h1,h2,h3⟩:=e c rfl;simp[eT]at h ⊢;refine⟨a h.1,h2,λ_=>?_⟩;rcases h.2.2 h1 with ⟨a1,a2,a3⟩|⟨g,cap,cur,a1,a2,a3,a4⟩
   .exact .inl ⟨a1,h3.trans a2,a3⟩
   .exact .inr ⟨g,cap,cur,a1,h3.trans a2,by rw[r,o];exact a3,a4⟩
 |aI c=>simp[eT]at h ⊢;obtain⟨h1,vs,h2,h3,h4⟩:=h;exact⟨h1,vs,h2,h3,λj d ao=>by obtain⟨u,f,l⟩:=h4 j d ao;exact⟨u,f,a l⟩⟩
 |rw c k=>simp[eT]at h ⊢;obtain⟨h1,vs,h2,h3,h4⟩:=h;exact⟨h1,vs,h2,h3,λq z j d p ao=>by obtain⟨u,f,l⟩:=h4 q z j d p ao;exact⟨u,f,a l⟩⟩
 |e3 c=>simp[eT]at h ⊢;obtain⟨h1,vs,h2,h3,h4⟩:=h;exact⟨h1,vs,h2,h3,λq z j d p ao=>by obtain⟨u,f,l⟩:=h4 q z j d p ao;exact⟨u,f,a l⟩⟩
 |nl c=>simp[eT]at h ⊢;exact⟨a h.1,h.2⟩
theorem aol{p:Nat}{a:ck}{l:U ck}(h:p∈c8 (i+1) l):p∈c8 i (a::l):=by
 cases a with
 |sl c own=>cases own with|true=>exact nE _ h|false=>exact h
 |_=>exact h
theorem VQ{x x':cM}{n:Nat}(e:∀b j,x'.S b j->x.S b j)(f:x'.w=x.w)(d:x'.el=x.el):∀{l:U ck}{y:au l}{vs:U aA}(i:Nat),aX x (en i l y) vs->(∀p,p∈c8 i l->x.cc p/\n+p<x'.ba/\x'.m.a9 (n+p)=x.m.a9 p)->aX x' (en (n+i) l y) vs
 |[],y,vs,i,h,_=>by simpa[en,aX]using h
 |[a],y,vs,i,h,u_=>by simp only[en]at h ⊢;obtain⟨u,us,h1,h2,h3⟩:=h;exact⟨u,us,h1,U_ e f d h2 (λc an=>by subst an;exact u_ i (by simp[c8])),h3⟩
 |a::b::l,(y,z),vs,i,h,u_=>by simp[en]at h ⊢;obtain⟨u,us,h1,h2,h3⟩:=h;refine⟨u,us,h1,U_ e f d h2 (λc an=>by subst an;exact u_ i (by simp[c8])),?_⟩;have:=VQ e f d (i+1) h3 (λp g=>u_ p (aol g));rwa[<-Nat.add_assoc]at this
theorem Wy:∀(l:U ck) (n i p:Nat),p∈c8 (n+i) l↔∃q,q∈c8 i l/\p=n+q
 |[],n,i,p=>by simp[c8]
 |s::l,n,i,p=>by
  have b:=Wy l n (i+1) p;have rest:(c8 (n+i) (s::l)=c8 (n+i+1) l/\c8 i (s::l)=c8 (i+1) l)\/(c8 (n+i) (s::l)=(n+i)::c8 (n+i+1) l/\c8 i (s::l)=i::c8 (i+1) l):=by
   cases s with
   |sl c own=>cases own with|true=>exact .inr ⟨rfl,rfl⟩|false=>exact .inl ⟨rfl,rfl⟩
   |_=>exact .inl ⟨rfl,rfl⟩
  rcases rest with ⟨a,aS⟩|⟨a,aS⟩
  .rw[a,aS];exact b
  .rw[a,aS];simp only[ek];constructor
   .grind
   .grind
variable{as_:U Act}{m:dg}
theorem Bb{s:FS}(c:Rel ab m a as_ s w):(∀b i,(vx ab m s w).S b i->b<w.heap.size)/\n5 (v0 ab.el (vx ab m s w).S w) ab.bM:=by
 refine⟨λb i hi=>?_,c.g1⟩;rcases hi with h|h
 .have:=(c.fE b i 0 h).1;have:=c.dV.size;omega
 .exact(c.own b i h).1
variable{ba:Nat}{st:bc}
theorem Rel.raise(aj:st.nb<=nb)(e:st.ba<=ba)(c:Rel ab m a as_ (az st) w):Rel ab m a as_ (az { st with nb:=nb,ba:=ba }) w:=by have d:eD (vx ab m (az st) w) (vx ab m (az { st with nb:=nb,ba:=ba }) w):=⟨bF.refl _ _,λ_ _ h=>.inl h,rfl,λ_ _=>rfl,aj,e,λt _ f=>⟨f,rfl,λ_ _ _=>rfl⟩⟩;refine⟨c.dV,c.env.later d,c.gI.later d c.cd c.lt,e2 c.cd aj,e2 c.lt e,λb k g=>?_,λt h=>gy (c.hZ t h) e,c.inj,c.gb,c.fH,c.own,c.fE,c.g1.later d⟩;obtain⟨h1,h2⟩:=c.eb b k g;exact⟨gy h1 aj,h2.later d rfl⟩
theorem Rt:∀{l:U ck}{i:Nat},l.all tr=ae->c8 i l=[]
 |[],_,_=>rfl
 |a::l,i,h=>by simp only[et,bx]at h;have b:=Rt (l:=l) (i:=i+1) h.2;cases a<;>simp[tr]at h<;>simpa only[c8]using b
theorem Ro{x x':cM}:∀{l:U ck}{y:au l}{vs:U aA}{i j:Nat},l.all tr=ae->aX x (en i l y) vs->aX x' (en j l y) vs
 |[],_,_,_,_,_,h=>by simpa[en,aX]using h
 |[a],y,vs,i,j,cG,h=>by simp at cG;simp only[en]at h ⊢;obtain⟨u,us,h1,h2,h3⟩:=h;refine⟨u,us,h1,?_,h3⟩;cases a<;>simp[tr]at cG<;>simpa only[eT,aB]using h2
 |a::b::l,(y,z),vs,i,j,cG,h=>by simp only[et,bx]at cG;simp[en]at h ⊢;obtain⟨u,us,h1,h2,h3⟩:=h;refine⟨u,us,h1,?_,Ro (l:=b::l) (by simp only[et,bx];exact cG.2) h3⟩;cases a<;>simp[tr]at cG<;>simpa only[eT,aB]using h2
variable{bH:U ck}{sa:U ck}{F:au sa->af (au bH)}{args:U D}{r:R}
theorem aqU(h:eH ab.P ab.el ab.bM g sa bH F)(aZ:im (c8 0 sa) []=ae){K:U D->bc->af R}(an:pb sa bH F args st K=J r):o8 ab g args st K r:=by
 unfold pb at an;refine⟨h.enters,λm a as_ w vs ac y=>?_⟩;obtain⟨args,bk,an,f,cy,j⟩:=E8 ac y an;cases bz:bH.all tr with
 |true=>
  rw[bz]at an;simp only at an;split at an
  .rename_i x aW;cases eu:F x with
   |none=>rw[eu]at an;cases an
   |some iY=>rw[eu,bZ]at an;have aZ:=rM aZ;obtain⟨e4,bL⟩:=Bb f;have bW:aX (v0 ab.el (vx ab m (az { st with ak:=bk }) w).S w) (en 0 sa x) vs:=o3 (X:=vx ab m (az { st with ak:=bk }) w) (X':=v0 ab.el (vx ab m (az { st with ak:=bk }) w).S w) (λ_ _ h=>h) rfl rfl 0 aW (λt e=>e) j (λp bn=>by rw[aZ]at bn;cases bn);refine(h.run x iY eu w _ vs e4 bL bW).mono ?_;rintro dv w' ⟨v,lN,rfl,z,_,_,aJ⟩;obtain⟨us,rfl,l⟩:=MC aJ;rw[Rt bz,ib]at an;exact⟨_,rfl,_,_,m,an,⟨rfl,rfl,rfl,rfl,rfl⟩,(ac.quiet z).raise (b2 _) (Nat.le_add_right _ _),H1 (Ro bz l)⟩
  .cases an
 |false=>
 rw[bz]at an;simp only at an;obtain⟨cD,h1⟩:∃s:bc,s={ st with ak:=bk }:=⟨_,rfl⟩;replace an:(match j3 sa cD.a9 args with|some x=>(F x).bind λr=>K (en cD.ba bH r) { cD with a9:=c8 cD.ba bH++cD.a9,ba:=cD.ba+I bH }|none=>ah)=J r:=by rw[h1];exact an
 have cE:mG st cD:=by rw[h1];exact⟨rfl,rfl,rfl,rfl,rfl⟩
 rw[<-h1]at f j;clear cy ac y h1;obtain⟨am,cZ,dp,ap,dH⟩:=cE;split at an
 .rename_i x aW;cases eu:F x with
  |none=>rw[eu]at an;cases an
  |some iY=>
   rw[eu,bZ]at an;obtain⟨e4,bL⟩:=Bb f;have bW:aX (v0 ab.el (vx ab m (az cD) w).S w) (en 0 sa x) vs:=o3 (X:=vx ab m (az cD) w) (X':=v0 ab.el (vx ab m (az cD) w).S w) (λ_ _ h=>h) rfl rfl 0 aW (λt e=>e) j (λp bn=>by rw[(rM aZ)]at bn;cases bn);refine(h.run x iY eu w _ vs e4 bL bW).mono ?_;rintro dv w' ⟨v,lN,rfl,z,c,b9,aJ⟩;refine⟨v,rfl,en cD.ba bH iY,{ cD with a9:=c8 cD.ba bH++cD.a9,ba:=cD.ba+I bH },?_⟩;have aj:∀k,k<w.heap.size->w'.heap[k]? = w.heap[k]? :=λk aV=>z.block k aV (λ_ h=>h);let aG:bc:={ cD with a9:=c8 cD.ba bH++cD.a9,ba:=cD.ba+I bH };let aR:dg:=⟨m.ak,λt=>if t<cD.ba then m.a9 t else lN.a9 (t-cD.ba)⟩;have d:∀t,(az aG).cc t->((az cD).cc t/\t<cD.ba/\aR.a9 t=m.a9 t)\/∃q,q∈c8 0 bH/\t=cD.ba+q/\aR.a9 t=lN.a9 q:=λt e=>by
    have e:t∈c8 cD.ba bH++cD.a9:=e;simp at e;rcases e with e|e
    .have:=(Wy bH cD.ba 0 t).1 GA;obtain⟨q,h1,h2⟩:=this;refine .inr ⟨q,h1,h2,?_⟩;simp only[aR,h2];rw[if_neg ag,show cD.ba+q-cD.ba=q by omega]
    .have ch:t<cD.ba:=f.hZ t e;exact .inl ⟨e,ch,by simp[aR,ch]⟩
   have dI:∀b i,fj aR (az aG) b i->fj m (az cD) b i\/∃q o,q∈c8 0 bH/\lN.a9 q=J (b,o)/\o<=i:=by
    rintro b i (⟨q,cA,rfl⟩|⟨t,o,h1,h2,h3⟩)
    .exact .inl (.inl ⟨q,cA,rfl⟩)
    .rcases d t h1 with ⟨bd,_,u⟩|⟨q,bd,_,u⟩
     .rw[u]at h2;exact .inl (.inr ⟨t,o,bd,h2,h3⟩)
     .rw[u]at h2;exact .inr ⟨q,o,bd,h2,h3⟩
   have e5:eD (vx ab m (az cD) w) (vx ab aR (az aG) w'):=by
    refine⟨z.mono (λ_ _ h=>h.elim),?_,rfl,λ_ _=>rfl,b2 _,Nat.le_add_right _ _,λt e cI=>?_⟩
    .rintro b i (e4|bO)
     .exact .inl (.inl e4)
     .rcases dI b i bO with h|⟨q,o,h1,h2,_⟩
      .exact .inl (.inr h)
      .exact .inr (c q b o h1 h2).1
    .have e:t<cD.ba:=e;rcases d t cI with ⟨bd,_,u⟩|⟨q,_,ei,_⟩
     .exact⟨bd,u,λg o cP=>aj g (f.kr bd cP)⟩
     .omega
   refine⟨aR,an,⟨am,cZ,dp,ap,dH⟩,f.step (s':=az aG) rfl rfl rfl rfl rfl (z.mono (λ_ _ h=>h.elim)) e5 ?_ ?_ f.inj ?_ ?_ ?_,?_⟩
   .intro b k aV;obtain⟨h1,h2⟩:=f.eb b k aV;exact⟨h1,h2.later e5 (aj _ (f.l7 (by rw[show(az cD).ak b=J k from aV];simp)))⟩
   .intro t e;rcases d t e with ⟨_,ei,_⟩|⟨q,bd,ei,_⟩
    .show t<cD.ba+I bH;omega
    .have:=(o1 _ _ _ bd).2;show t<cD.ba+I bH;omega
   .intro t t' g o o' h1 h2 h3 h4;rcases d t h1 with ⟨bd,ei,u⟩|⟨q,bd,ei,u⟩<;>rcases d t' h2 with ⟨p1,p2,p3⟩|⟨p,p1,p2,p3⟩
    .rw[u]at h3;rw[p3]at h4;exact f.gb t t' g o o' bd p1 h3 h4
    .rw[u]at h3;rw[p3]at h4
     have:=f.kr bd h3;have:=(c p g o' p1 h4).1;omega
    .rw[u]at h3;rw[p3]at h4
     have:=f.kr p1 h4;have:=(c q g o bd h3).1;omega
    .rw[u]at h3;rw[p3]at h4
     rw[ei,p2,b9 q p g o o' bd p1 h3 h4]
   .intro b t g o h1 h2 h3;rcases d t h2 with ⟨bd,_,u⟩|⟨q,bd,_,u⟩
    .rw[u]at h3;exact f.fH b t g o h1 bd h3
    .rw[u]at h3;have:=(c q g o bd h3).1;have:=f.l7 h1;show m.ak b≠g;omega
   .intro b i bO;rcases dI b i bO with h|⟨q,o,h1,h2,_⟩
    .exact⟨gy (f.own b i h).1 z.size,.inl h⟩
    .exact⟨(c q b o h1 h2).2,.inr (c q b o h1 h2).1⟩
   .obtain⟨us,rfl,l⟩:=MC aJ;refine H1 ?_;have:=VQ (x:=m' ab.el (vx ab m (az cD) w).S lN bH w') (x':=vx ab aR (az aG) w') (n:=cD.ba) (by
     rintro b i (h|h)
     .exact .inl (.inl h)
     .rcases dI b i h with h|⟨q,o,h1,h2,h3⟩
      .exact .inl (.inr h)
      .exact .inr ⟨q,o,h1,h2,h3⟩) rfl rfl 0 l (λp bn=>by
     have:=(o1 _ _ _ bn).2;refine⟨bn,?_,?_⟩
     .show cD.ba+p<cD.ba+I bH;omega
     .show aR.a9 (cD.ba+p)=lN.a9 p;simp only[aR];rw[if_neg ag,show cD.ba+p-cD.ba=p by omega])
    rwa[Nat.add_zero]at this
 .cases an
variable{fn:Func}
theorem aqA{nO:aM R}(bn:eR ab nO)(ch:hy ab nO)(cy:ik ab nO)(hm:ab.P.follows .mixedOrders=ae){c:Code}(bO:ab.P.funcs[g]? = J fn)(aj:fn.body=J c)(y:(fn.name == "runtime.NumGoroutine")=ai)(z:fe fn.ntmps c=ae)(bB:∀b,b∈gr c->fR ab nO b)(aJ:dz (I args) fn.ntmps=ae){K:U D->bc->af R}(an:CR nO fn args st K=J r):o8 ab g args st K r:=by
 refine⟨aw.ga bO rG y,λm a as_ w vs l o=>?_⟩;unfold CR at an;rw[aj]at an;simp only at an;have dp:I vs<=fn.ntmps:=by rw[o.len];simpa using aJ
 have bk:∀(av:U D) (us:U aA) (i k:Nat) (d:D),aX (vx ab m (az st) w) av us->get (hh i av) k=J d->∃v,i<=k/\us[k-i]? = J v/\aB (vx ab m (az st) w) d v:=by
  intro av;induction av with
  |nil=>intro us i k d _ h;simp[hh,get]at h
  |cons e av iw=>
   intro us i k d l h;simp[aX]at l;obtain⟨u,us,rfl,h1,h2⟩:=l;simp[hh]at h;rw[ix]at h;by_cases q:k=i
   .subst q;exact N5
   .rw[if_neg q]at h;obtain⟨v,h3,h4,h5⟩:=iw us (i+1) k d h2 h;refine⟨v,by omega,?_,h5⟩;exact Kr
 have bz:Rel ab m { tmps:=vs.toArray++Array.replicate (fn.ntmps-vs.toArray.size) undef,defers:=[] } (a::as_) (az { st with n:=fn.ntmps,env:=hh 0 args,cd:=st.nb,lt:=st.ba,bI:=⟨st.n,st.env,st.cd,st.lt,st.df⟩::st.bI,df:=[] }) w:=by
  refine⟨l.dV,⟨rfl,?_,λk d q=>?_⟩,⟨a,as_,rfl,l.cd,l.lt,l.env,l.gI⟩,b2 _,b2 _,l.eb,l.hZ,l.inj,l.gb,l.fH,l.own,l.fE,l.g1⟩
  .show _=fn.ntmps;simp;omega
  .obtain⟨v,_,h2,h3⟩:=bk _ _ 0 k d o q;rw[Nat.sub_zero]at h2;refine⟨v,?_,h3⟩;have cE:k<I vs:=(hG.1 h2).1;simp only[Array.getElem?_append,List.size_toArray,cE];simpa using h2
 refine calls_of_wp bO aj (n0 bn ch cy hm c _ _ r z bB an _ m _ (a::as_) w bz ?_);intro e aG aR bC w' q aZ j;cases e
 case exit=>cases q
 all_goals
  simp only at q;have ac:aG.bI=⟨st.n,st.env,st.cd,st.lt,st.df⟩::st.bI:=aZ.2;split at q
  .rename_i rs f bI am cZ p;rw[ac]at p;simp at p;obtain⟨rfl,rfl⟩:=p;obtain⟨us,s,bL⟩:=qk bn j cZ;have x:=j.gI;have cF:(az aG).bI=⟨st.n,st.env,st.cd,st.lt,st.df⟩::st.bI:=ac;rw[cF]at x;obtain⟨a0,iY,bW,h1,h2,h3,h4⟩:=x;simp at bW;obtain⟨rfl,rfl⟩:=bW;have aW:eD { vx ab aR (az aG) w' with nb:=(az aG).cd,ba:=(az aG).lt } (vx ab aR (az aG) w'):=⟨bF.refl _ _,λ_ _ h=>.inl h,rfl,λ_ _=>rfl,j.cd,j.lt,λt _ cI=>⟨cI,rfl,λ_ _ _=>rfl⟩⟩;refine⟨j.y_ am,aw.lO us,?_,aw.lO us,rfl,rs,_,aR,q,⟨rfl,rfl,rfl,rfl,rfl⟩,⟨j.dV,h3.later aW,h4,e2 h1 j.cd,e2 h2 j.lt,j.eb,j.hZ,j.inj,j.gb,j.fH,j.own,j.fE,j.g1⟩,H1 bL⟩;obtain⟨sx⟩:∃sx,fn.results=List.toArray sx:=⟨fn.results.toList,by simp⟩;rename_i b9;rw[aw.CC,b9];rw[b9]at s;simp only[List.mapM_toArray,dG,map_eq_pure_bind,s];congr 1;match us with|[]=>rfl|[v]=>rfl|_::_::_=>simp[aw.lO]
  .cases q
theorem anb(n:∀b j,x'.S b j->x.S b j)(o:x'.w=x.w):∀{l:U ck}{y:au l}{vs:U aA}(i:Nat),aX x (en i l y) vs->aX x' ((en i l y).map dw) vs:=by
 have e:∀{d:D}{v:aA},eI x.S x.w d v->eI x'.S x'.w d v:=λh=>by rw[o];exact h.later (bF.refl _ _) (λk j p=>.inl (n k j p))
 have one:∀{i:Nat}{s:ck}{y:den s}{v:aA},aB x (eT i s y) v->aB x' (dw (eT i s y)) v:=by intro i s y v h;cases s with|int k=>simpa[eT,dw,aB]using h|bool=>simpa[eT,dw,aB]using h|str=>simpa[eT,dw,aB]using h|sl c own=>cases own<;>simp[eT,aB]at h ⊢ <;> exact⟨e h.1,trivial⟩|nl c=>simp[eT,aB]at h;simp[eT,dw,ZO,aB];exact⟨e h.1,h.2⟩|aI c=>simp[eT,aB]at h ⊢;obtain⟨h1,vs,h2,h3,h4⟩:=h;exact⟨h1,vs,h2,h3,λj d ao=>by obtain⟨u,f,g⟩:=h4 j d ao;exact⟨u,f,e g⟩⟩|rw c k=>simp[eT,aB]at h ⊢;obtain⟨h1,vs,h2,h3,h4⟩:=h;exact⟨h1,vs,h2,h3,λq z j d m ao=>by obtain⟨u,f,g⟩:=h4 q z j d m ao;exact⟨u,f,e g⟩⟩|e3 c=>simp[eT,aB]at h ⊢;obtain⟨h1,vs,h2,h3,h4⟩:=h;exact⟨h1,vs,h2,h3,λq z j d m ao=>by obtain⟨u,f,g⟩:=h4 q z j d m ao;exact⟨u,f,e g⟩⟩
 intro l;induction l with
 |nil=>intro y vs i h;simpa[en,aX]using h
 |cons a l r=>intro y vs i h;cases l with|nil=>simp only[en,aX]at h ⊢;obtain⟨u,us,h1,h2,h3⟩:=h;exact⟨u,us,h1,one h2,h3⟩|cons b l=>obtain⟨y,z⟩:=y;simp[en,aX]at h ⊢;obtain⟨u,us,h1,h2,h3⟩:=h;exact⟨u,us,h1,one h2,r (i+1) h3⟩
theorem am0(h:eH ab.P ab.el ab.bM g sa bH F)(f:im (c8 0 sa) []=ae){K:U D->af R}(an:qB sa bH F args K=J r):∃rs,K rs=J r/\aw.jE ab.P g/\∀(s:FS) (m:dg) (a:Act) (as_:U Act) (w:aK) (vs:U aA),Rel ab m a as_ s w->aX (vx ab m s w) args vs->Calls ab.P g vs.toArray w λdv w'=>∃v,dv = .returned v/\Rel ab m a as_ s w'/\aB (vx ab m s w') (hl (rs.map dw)) v:=by
 unfold qB at an;split at an
 .rename_i x u;cases j:F x with
  |none=>rw[j]at an;cases an
  |some y=>rw[j,bZ]at an;refine⟨_,an,h.enters,λs m a as_ w vs o c=>?_⟩;obtain⟨z,k⟩:=Bb o;have l:aX (v0 ab.el (vx ab m s w).S w) (en 0 sa x) vs:=o3 (X:=vx ab m s w) (X':=v0 ab.el (vx ab m s w).S w) (λ_ _ h=>h) rfl rfl 0 u (λt cg=>by cases cg) c (λp q=>by rw[(rM f)]at q;cases q);refine(h.run x y j w _ vs z k l).mono ?_;rintro dv w' ⟨v,lN,rfl,n,_,_,e⟩;refine⟨v,rfl,o.quiet n,?_⟩;obtain⟨us,rfl,d⟩:=MC e;exact H1 (anb (x:=m' ab.el (vx ab m s w).S lN bH w') (x':=vx ab m s w') (λb i h=>.inl h) rfl 0 d)
 .cases an
theorem akw{S:g7}{y:cL c}{d:D}{u:aA}(a:AQ c=ae)(ao:(enc c y)[j]? = J d)(h:i' w d u):eI S w d u:=λw' _=>by
 have:(∃k n,d = .int k n)\/(∃b,d = .bool b)\/∃l,d = .str l:=by
  have hm:=List.mem_of_getElem? ao;cases c<;>simp[AQ]at a<;>simp[enc,or_false]at hm<;>rcases hm with rfl|hm<;>first
   |exact .inl ⟨_,_,rfl⟩
   |exact .inr (.inl ⟨_,rfl⟩)
   |exact .inr (.inr ⟨_,rfl⟩)
   |skip
  all_goals rcases hm with rfl|hm<;>first
   |exact .inl ⟨_,_,rfl⟩
   |exact .inr (.inl ⟨_,rfl⟩)
   |exact .inr (.inr ⟨_,rfl⟩)
   |skip
  all_goals rcases hm with rfl|hm<;>first
   |exact .inl ⟨_,_,rfl⟩
   |exact .inr (.inl ⟨_,rfl⟩)
   |exact .inr (.inr ⟨_,rfl⟩)
   |skip
  all_goals rcases hm with rfl|rfl<;>first
   |exact .inl ⟨_,_,rfl⟩
   |exact .inr (.inl ⟨_,rfl⟩)
   |exact .inr (.inr ⟨_,rfl⟩)
 rcases this with ⟨k,n,rfl⟩|⟨b,rfl⟩|⟨l,rfl⟩
 .cases h with|int k n e=>exact .int k n e
 .cases h with|bool b=>exact .bool b
 .cases h with|str l f=>exact .str l f
theorem Oa(st:bc)(k:c_):az (hE st k)={ az st with ak:=λb=>if b=(az st).nb then J k else(az st).ak b,nb:=(az st).nb+1 }:=by refine FS.eq rfl rfl rfl rfl rfl ?_ rfl rfl rfl;funext b;exact fi st.ak st.nb b k
theorem ahs{F:au sa->af (au [.sl c ae])}(h:eH ab.P ab.el ab.bM g sa [.sl c ae] F)(b9:im (c8 0 sa) []=ae)(ch:AQ c=ae){K:U D->bc->af R}(an:xS sa c F args st K=J r):o8 ab g args st K r:=by
 unfold xS at an;refine⟨h.enters,λm a as_ w vs cy l=>?_⟩;obtain⟨args,n,an,ay,_,aJ⟩:=E8 cy l an;split at an
 .rename_i x aW;cases eu:F x with
  |none=>rw[eu]at an;cases an
  |some iY=>
   rw[eu,bZ]at an;obtain⟨e4,cE⟩:=Bb ay;have am:aX (v0 ab.el (vx ab m (az { st with ak:=n }) w).S w) (en 0 sa x) vs:=o3 (X:=vx ab m (az { st with ak:=n }) w) (X':=v0 ab.el (vx ab m (az { st with ak:=n }) w).S w) (λ_ _ h=>h) rfl rfl 0 aW (λt cg=>cg) aJ (λp bn=>by rw[(rM b9)]at bn;cases bn);refine(h.run x iY eu w _ vs e4 cE am).mono ?_;rintro dv w' ⟨v,lN,rfl,bk,q,_,z⟩;refine⟨v,rfl,?_⟩;simp[hl,en,eT,aB]at z;obtain⟨bz,d_,f⟩:=z;have f:=f (show(0:Nat)∈c8 0 [.sl c ae] by simp[c8]);have cA:=ay.quiet bk;by_cases he:iY=([]:U (cL c))
   .subst he;refine⟨_,_,m,an,⟨rfl,rfl,rfl,rfl,rfl⟩,cA.raise (Nat.le_succ _) (Nat.le_succ _),?_⟩;obtain⟨ad,cap,rfl,_⟩:=bz.here.slice;simp[hl,aB];exact⟨λ_ _=>.nil _ _ _ _ trivial,trivial⟩
   .have cZ:List.isEmpty (α:=cL c) iY=false:=by cases iY with|nil=>exact absurd rfl he|cons _ _=>rfl
    rw[cZ]at an;rcases f with ⟨_,_,e⟩|⟨fm,cap,cur,rfl,hm,cf,ac,hle,bL⟩
    .exact absurd e he
    .obtain⟨dp,ap⟩:=q 0 fm _ (by simp[c8]) hm;have cf:w'.heap[fm]? = J (.cells cur (ab.el c) (0,0)):=cf;have dH:Rel ab m a as_ (az { st with ak:=n,ba:=st.ba+1 }) w:=ay.raise (b2 _) (Nat.le_succ _);have dE:I cur.toList=cap*aL c:=by simpa using ac
     have bW:List.length (α:=cL c) iY<=maxLen:=e2 hle bL;obtain⟨aR,h1,h2⟩:=dH.newAt (k:=.dyn c iY) (g:=fm) bk dp ap (λx' _ hw=>by
      refine⟨bW,cur.toList,ab.el c,by rw[hw,Array.toArray_toList];exact cf,dE.symm▸Nat.mul_le_mul_right _ hle,λi y j d bN ao=>?_⟩;obtain⟨ad,f',s,aZ⟩:=bz.here.slice;simp at s;rcases aZ with e|⟨b,o,e,_,dL⟩
      .exact absurd e he
      .rw[e]at s;simp[ and_true]at s;obtain⟨⟨rfl,rfl⟩,_⟩:=s;obtain⟨u,hu,bO⟩:=dL i y bN j d ao;refine⟨u,?_,akw ch ao (by rw[hw];exact bO)⟩;rw[Nat.zero_add]at hu;have hu:w'.cell? ⟨fm,i*aL c+j,ah⟩=J u:=hu;simp[aK.cell?,cf]at hu;simpa using hu)
     rw[<-Oa]at h1 h2;refine⟨_,_,aR,an,⟨rfl,rfl,rfl,rfl,rfl⟩,h1,?_⟩;simp only[aB]at h2;simp only[hl,aB];obtain⟨dN,eJ⟩:=h2;simp[ and_true]at eJ;refine⟨dN,Int.le_refl _,Int.natCast_nonneg _,by simpa using bW,J ⟨fm,0,ah⟩,cap,by simp,.inr (by simp only[vx];rw[show aR.ak st.nb=fm from eJ.symm];simp),by simpa using hle,bL,cur,(0,0),by simp[vx];rw[show aR.ak st.nb=fm from eJ.symm];exact cf,by simpa using ac⟩
 .cases an
end
def tbl{α:Type _}:U (Nat×α)->Nat->af α|[],_=>ah|(k,v)::e,n=>match bV k n with|true=>J v|false=>tbl e n
theorem ke{α:Type _}:∀{l:U (Nat×α)}{n:Nat}{v : α},tbl l n=J v->(n,v)∈l
 |[],n,v,h=>by simp[tbl]at h
 |(k,u)::l,n,v,h=>by
  simp[tbl]at h;split at h
  .simp_all
  .exact nE _ (ke h)
def nV(l:U (Nat×ds))(t:Nat):ds:=match tbl l t with|some ty=>ty|none=>.no
variable{el:b1->bD}
theorem ta{l:U (Nat×ds)}(h:(l.all λp=>eL P el (nV l) p.1)=ae)(t:Nat):eL P el (nV l) t=true:=by cases a:tbl l t with|none=>unfold eL;simp[nV,a]|some ty=>exact cX.1 h _ (ke a)
abbrev iD(R:Type):=U D->bc->(U D->bc->af R)->af R
abbrev kf(R:Type):=U D->(U D->af R)->af R
abbrev mg(R:Type):=U D->bc->(D->U Nat->bc->af R)->af R
def FP{R:Type}(l:U (Nat×iD R))(g:Nat):iD R:=match tbl l g with|some f=>f|none=>λ_ _ _=>ah
def Dd{R:Type}(l:U (Nat×kf R))(g:Nat):kf R:=match tbl l g with|some f=>f|none=>λ_ _=>ah
section
variable {R:Type}{ab:cB}
def hk(ab:cB)(g:Nat)(f:iD R):Prop:=∀args st K r,f args st K=J r->o8 ab g args st K r
def mV(ab:cB)(g:Nat)(f:kf R):Prop:=∀(args:U D) (K:U D->af R) (r:R),f args K=J r->∃rs,K rs=J r/\aw.jE ab.P g/\∀(s:FS) (m:dg) (a:Act) (as_:U Act) (w:aK) (vs:U aA),Rel ab m a as_ s w->aX (vx ab m s w) args vs->Calls ab.P g vs.toArray w λdv w'=>∃v,dv = .returned v/\Rel ab m a as_ s w'/\aB (vx ab m s w') (hl (rs.map dw)) v
theorem ar1{px:aM R}{l:U (Nat×iD R)}(b:px.call=FP l)(h:∀g f,(g,f)∈l->hk ab g f):hy ab px:=by intro g args st K r a;rw[b]at a;unfold FP at a;cases c:tbl l g with|none=>rw[c]at a;cases a|some f=>rw[c]at a;exact h g f (ke c) args st K r a
theorem aqr{px:aM R}{l:U (Nat×kf R)}{e:U (Nat×mg R)}(b:px.u0=Dd l)(c:px.u1=tbl e)(h:∀g f,(g,f)∈l->mV ab g f)(j:∀g f,(g,f)∈e->kZ ab g f):ik ab px:=by
 refine⟨λg args K r a=>?_,λg F i=>?_⟩
 .rw[b]at a;unfold Dd at a;cases d:tbl l g with|none=>rw[d]at a;cases a|some f=>rw[d]at a;exact h g f (ke d) args K r a
 .rw[c]at i;exact j g F (ke i)
theorem bq:∀g f,(g,f)∈([]:U (Nat×mg R))->kZ ab g f:=λ_ _ h=>by cases h
theorem Y'{f:mg R}{l:U (Nat×mg R)}(h:kZ ab g f)(b:∀g f,(g,f)∈l->kZ ab g f):∀a fl,(a,fl)∈(g,f)::l->kZ ab a fl:=jk
variable{bH:U ck}{sa:U ck}{F:au sa->af (au bH)}
theorem avL(h:eH ab.P ab.el ab.bM g sa bH F)(a:im (c8 0 sa) []=ae):hk (R:=R) ab g (pb sa bH F):=λ_ _ _ _ an=>aqU h a an
theorem ak8{F:au sa->af (au [.sl c ae])}(h:eH ab.P ab.el ab.bM g sa [.sl c ae] F)(a:im (c8 0 sa) []=ae)(b:AQ c=ae):hk (R:=R) ab g (xS sa c F):=λ_ _ _ _ an=>ahs h a b an
theorem avu(h:eH ab.P ab.el ab.bM g sa bH F)(a:im (c8 0 sa) []=ae):mV (R:=R) ab g (qB sa bH F):=λ_ _ _ an=>am0 h a an
theorem bm:∀g f,(g,f)∈([]:U (Nat×iD R))->hk ab g f:=λ_ _ h=>by cases h
theorem dY{f:iD R}{l:U (Nat×iD R)}(h:hk ab g f)(b:∀g f,(g,f)∈l->hk ab g f):∀a fl,(a,fl)∈(g,f)::l->hk ab a fl:=jk
theorem bo:∀g f,(g,f)∈([]:U (Nat×kf R))->mV ab g f:=λ_ _ h=>by cases h
theorem aqv{f:kf R}{l:U (Nat×kf R)}(h:mV ab g f)(b:∀g f,(g,f)∈l->mV ab g f):∀a fl,(a,fl)∈(g,f)::l->mV ab a fl:=jk
end
variable{sa:U ck}{f:FuncId}{bM:Nat->af h_}
theorem eH.calls{F:au sa->af Bool}(h:eH P el bM f sa [.bool] F){x:au sa}{r:Bool}(d:F x=J r)(b:n5 (v0 el er w) bM)(e:aX (v0 el er w) (en 0 sa x) vs):Calls P f vs.toArray w λdv w'=>dv = .returned (.bool r)/\Below w.heap.size w w':=by
 refine(h.run x r d w er vs (λ_ _ h=>h.elim) b e).mono ?_;rintro dv w' ⟨v,m,rfl,c,_,_,a⟩;have:v = .bool r:=by simpa[hl,en,eT,aB]using a
 subst this;exact⟨rfl,c.below⟩
abbrev bb(sa bH:U ck):=au sa->af (au bH)
abbrev zE(R:Type):=bc->(bf->bc->af R)->af R
def avk{R:Type}(l:U (Nat×zE R))(b:Code):zE R:=match tbl l (BP b)with|some f=>f|none=>λ_ _=>ah
def ss(b:Code)(i:Nat):Code:=(gr b).getD i .skip
def ph(fn:Func):Nat:=match fn.body with|some c=>I (gr c)|none=>0
def oj(fn:Func):Bool:=match fn.body with|some c=>fe fn.ntmps c|none=>ai
theorem aP{p:Nat->Prop}:∀i,i<0->p i:=λ_ h=>absurd h (pv _)
theorem cm{p:Nat->Prop}{n:Nat}(h:∀i,i<n->p i)(a:p n):∀i,i<n+1->p i:=λi hi=>by grind
theorem Tl{l:U Code}{b:Code}(h:b∈l):∃i,i<I l/\l.getD i .skip=b:=by obtain⟨i,hi,rfl⟩:=List.getElem_of_mem h;exact⟨i,hi,by simp[ hi]⟩
section
variable {R:Type}{px:aM R}{ab:cB}
variable{fn:Func}
theorem Mz{c:Code}{n:Nat}(aj:fn.body=J c)(a:ph fn=n)(h:∀i,i<n->fR ab px (b_ fn i)):∀b,b∈gr c->fR ab px b:=by intro b hm;obtain⟨i,hi,rfl⟩:=Tl hm;have:=h i (by rw[<-a];unfold ph;rw[aj];exact hi);unfold b_ at this;rw[aj]at this;exact this
theorem BH{b:Code}{n:Nat}(a:I (gr b)=n)(h:∀i,i<n->fR ab px (ss b i)):∀bQ,bQ∈gr b->fR ab px bQ:=by intro bQ hm;obtain⟨i,hi,rfl⟩:=Tl hm;exact h i (by rw[<-a];exact hi)
def eY(nb ba:Nat)(a:aM R)(fn:Func)(args:U D)(st:bc)(K:U D->bc->af R):af R:=match dz (I args) fn.ntmps&&dz st.nb nb&&dz st.ba ba with
 |true=>CR a fn args { st with nb:=nb,ba:=ba } K
 |false=>ah
variable{m:dg}{ba:Nat}{st:bc}
theorem ani(aj:st.nb<=nb)(a:st.ba<=ba)(h:aX (vx ab m (az st) w) av vs):aX (vx ab m (az { st with nb:=nb,ba:=ba }) w) av vs:=by have b:eD (vx ab m (az st) w) (vx ab m (az { st with nb:=nb,ba:=ba }) w):=⟨bF.refl _ _,λ_ _ h=>.inl h,rfl,λ_ _=>rfl,aj,a,λt _ c=>⟨c,rfl,λ_ _ _=>rfl⟩⟩;exact aX.later b _ _ h
theorem alZ{h:aM R}{c:Code}{n:Nat}(l:eR ab h)(j:hy ab h)(k:ik ab h)(hm:ab.P.follows .mixedOrders=ae)(o:ab.P.funcs[g]? = J fn)(aj:fn.body=J c)(e:(fn.name == "runtime.NumGoroutine")=ai)(d:oj fn=ae)(p:ph fn=n)(q:∀i,i<n->fR ab h (b_ fn i)):hk ab g (eY nb ba h fn):=by
 intro args st K r an;unfold eY at an;split at an
 .rename_i b;simp only[bx]at b;have h1:st.nb<=nb:=Nat.le_of_ble_eq_true b.1.2;have h2:st.ba<=ba:=Nat.le_of_ble_eq_true b.2;obtain⟨bd,s⟩:=aqA l j k hm o aj e (by unfold oj at d;rw[aj]at d;exact d) (Mz aj p q) b.1.1 an;refine⟨bd,λm a as_ w vs t f=>?_⟩;exact(s m a as_ w vs (t.raise h1 h2) (ani h1 h2 f)).mono λdv w' ⟨v,u,rs,aG,aR,aS,x,y,z⟩=>⟨v,u,rs,aG,aR,aS,x,y,z⟩
 .cases an
end
variable{bH:U ck}{fn:Func}
theorem atf{c:Code}{px:aM (au bH)}{F:bb sa bH}{n:Nat}(e:P.funcs[f]? = J fn)(aj:fn.body=J c)(b:(fn.name == "runtime.NumGoroutine")=ai)(hm:P.follows .mixedOrders=ae)(a:(oj fn&&dz (I sa) fn.ntmps&&im (c8 0 sa) [])=ae)(g:ph fn=n)
  (d:∀ab:cB,ab.P=P->ab.el=el->ab.bM=bM->ab.g'=er->eR ab px/\hy ab px/\ik ab px/\∀i,i<n->fR ab px (b_ fn i)) (h:∀x,mF px fn sa bH x J=F x):eH P el bM f sa bH F:=by
 refine J4 e aj b hm ?_ (λab h1 h2 h3 j=>?_) h
 .unfold oj at a;rw[aj]at a;exact a
 .obtain⟨bd,k,l,m⟩:=d ab h1 h2 h3 j;exact⟨bd,k,l,Mz aj g m⟩
section
variable {P:cx}{el:b1->bD}{bM:Nat->af h_}{f:FuncId}{sa bH:U ck}
theorem eH.none(a:aw.jE P f):eH P el bM f sa bH (λ_=>.none):=⟨a,λ_ _ h=>by cases h⟩
theorem eH.jf{body:bb sa bH->bb sa bH}(a:aw.jE P f)(h:∀rf,eH P el bM f sa bH rf->eH P el bM f sa bH (body rf)):∀n,eH P el bM f sa bH (aT body n)
 |0=>eH.none a
 |n+1=>h _ (eH.jf a h n)
end
end Go.dS
