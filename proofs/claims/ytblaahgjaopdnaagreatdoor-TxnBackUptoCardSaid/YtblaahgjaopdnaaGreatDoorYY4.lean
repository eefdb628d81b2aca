/- Texts of the proof,one behind the other: AxLn,AxLo,Co,Cp. -/
import Derived.Test.YtblaahgjaopdnaaGreatDoorYY3
set_option linter.all false
namespace Go.Ax
open Go.RowKit
abbrev Ren:=List (Nat×Nat)
def Gw:Ren->Nat->Option Nat
 |[],_=>none
 |(a,b)::l,n=>match Nat.beq a n with|true=>some b|false=>Gw l n
def Aou(σ:Ren):Bool:=σ.all λp=>σ.all λq=>(Nat.beq p.1 q.1) == (Nat.beq p.2 q.2)
def Bt2:D->D->Ren
 |.ptr k _,.ptr b _=>[(b,k)]
 |_,_=>[]
def Bsd:List D->List D->Ren
 |a::l,b::m=>Bt2 a b++Bsd l m
 |_,_=>[]
def Btz:D->D->Ren
 |.ptr k _,.ptr b _=>[(b,k)]
 |.fn _ cs,.fn _ cs'=>Bsd cs cs'
 |.bm _ cs,.bm _ cs'=>Bsd cs cs'
 |_,_=>[]
def Em(env:Env):List (Nat×D)->Ren
 |[]=>[]
 |(i,d)::l=>match get env i with|some d'=>Btz d d'++Em env l|none=>Em env l
def Bgr:D->Bool
 |.bool _|.int _ _|.str _|.sl _ _ _|.nilp|.nilfn|.gp _=>true
 |_=>false
def Bmt(σ:Ren):D->Option D
 |.ptr b o=>match Gw σ b with|some k=>some (.ptr k o)|none=>none
 |d=>match Bgr d with|true=>some d|false=>none
def Ah8(σ:Ren):List D->Option (List D)
 |[]=>some []
 |d::l=>match Bmt σ d,Ah8 σ l with|some d',some l'=>some (d'::l')|_,_=>none
def Bq1(σ:Ren):D->Option D
 |.fn f cs=>match Ah8 σ cs with|some cs'=>some (.fn f cs')|none=>none
 |.bm f cs=>match Ah8 σ cs with|some cs'=>some (.bm f cs')|none=>none
 |.agg ds=>match Ah8 σ ds with
  |some ds'=>match ds'.all lf with|true=>some (.agg ds')|false=>none
  |none=>none
 |.sv c x=>some (.sv c x)
 |.ep c x o=>some (.ep c x o)
 |d=>Bmt σ d
def Bd4(σ:Ren):List D->Option (List D)
 |[]=>some []
 |d::l=>match Bq1 σ d,Bd4 σ l with|some d',some l'=>some (d'::l')|_,_=>none
def Bps(σ:Ren):Blk->Option Blk
 |.cells ds=>match Bd4 σ ds with
  |some ds'=>match ds'.all lf with|true=>some (.cells ds')|false=>none
  |none=>none
 |k=>some k
def Bdq(σ:Ren)(nb:Nat):Bs->Bool
 |.fx ds=>ds.all λd=>(D4 d).all λb=>(match Gw σ b with
  |some k=>Nat.beq k b
  |none=>false)&&Nat.blt b nb
 |.oc _ b _=>(match Gw σ b with
  |some k=>Nat.beq k b
  |none=>false)&&Nat.blt b nb
 |_=>true
def Ajv(bl:List (Nat×Blk))(σ0:Ren):Ren->Option (List (Nat×Blk))
 |[]=>some []
 |(b,k)::σ=>match blk bl b,Ajv bl σ0 σ with
  |some K,some l=>match Bps σ0 K with|some K'=>some ((k,K')::l)|none=>none
  |_,_=>none
def Btl:D->List Nat
 |.sl _ _ (.id t)=>[t]
 |_=>[]
def Bs0:Blk->List Nat
 |.cells ds=>ds.flatMap Btl
 |.bld _ d=>Btl d
 |_=>[]
def Bic(bl:List (Nat×Blk))(tk:List Nat):List Nat:=tk.filter λt=>(bl.flatMap λp=>Bs0 p.2).contains t
def E0(sg:Sig):Fr:=⟨sg.nb,sg.bl.map λp=>(p.1,.ptr p.1 0),0,0,[]⟩
def Aby(σ:Ren)(nw:List (Nat×Blk)):List (Nat×Blk)->List (Nat×Blk)
 |[]=>[]
 |(b,K)::l=>match Gw σ b with
  |none=>(b,K)::Aby σ nw l
  |some k=>match blk nw k with|some K'=>(b,K')::Aby σ nw l|none=>Aby σ nw l
section
variable {R:Type}
def K3(sg:Sig)(σ:Ren)(args:List D)(st:St):Option St:=match Bd4 σ args,Ajv st.bl σ σ with|some as',some bl'=>some ⟨args.length,Bj 0 as',sg.nb,0,[E0 sg],bl',sg.nb,Bic bl' st.tk,st.nt,[]⟩|_,_=>none
def Aj(sg so:Sig)(F:HV sg.sgs->Option (HV so.sgs))(args:List D)(st:St)(K:List D->St->Option R):Option R :=
 match Aou (Em (Bj 0 args) sg.fix)&&(Em (Bj 0 args) sg.fix).all (λp=>Nat.blt p.2 sg.nb)&&so.bl.all (λp=>Bdq (Em (Bj 0 args) sg.fix) st.nb p.2),K3 sg (Em (Bj 0 args) sg.fix) args st with
 |true,some st0=>match Hs sg st0 with
  |some x=>(F x).bind λr=>K (match Nat.beq so.n so.vars.length with
     |true=>(Br st.nt so.sgs r).take so.vars.length
     |false=>[.junk])
    { st with bl:=Aby (Em (Bj 0 args) sg.fix) (C7 so.bl ((Br st.nt so.sgs r).drop so.vars.length)) st.bl,tk:=Bb st.nt so.sgs++st.tk.filter (λt => !(st0.tk).contains t),nt:=st.nt+so.sgs.length }
  |none=>none
 |_,_=>none
end
def lnB(sg so:Sig):Bool:=U2 sg&&U2 so&&Nat.beq sg.lt 0&&Nat.beq sg.lb sg.nb&&Nat.beq so.lt 0&&so.ow.isEmpty&&so.fix.isEmpty&&Nat.beq so.nb sg.nb&&C2 (so.vars.map (·.1)) (List.range so.vars.length)&&so.bl.all (λp=>(sg.bl.map (·.1)).contains p.1)&&((fxs so.bl).flatMap D4).all (λb=>(sg.bl.map (·.1)).contains b)
structure FnLn (P:Program) (el:Ck->TypeId) (gl:Nat->Option Gv) (f:FuncId) (sg so:Sig) (F:HV sg.sgs->Option (HV so.sgs)):Prop where
 enters:Sx.Enters P f
 run:∀x r,F x=some r->BdL sg.sgs x->∀(cx:Cx) (m:Mp) (vs:List Value) (af:Act) (w:World),cx.P=P->cx.el=el->cx.gl=gl->Rel cx m ⟨vs.toArray,[]⟩ [af] (fs (Dp sg [E0 sg] x)) w ->
  Calls P f vs.toArray w λen w'=>∃us st' m',en = .returned (Sx.resv us)/\(∀k,(sg.bl.map (·.1)).contains k=true->m'.bl k=m.bl k)/\Hs so st' = some r/\Rel cx m' ⟨us.toArray,[]⟩ [af] (fs st') w'
theorem Apq(a b:Nat)(l:Ren)(n:Nat):Gw ((a,b)::l) n=if n=a then some b else Gw l n:=by
 simp[Gw];by_cases h:n=a
 ·subst h;simp
 ·simp[Fo (Ne.symm h),h]
theorem P3:∀{σ:Ren}{n k:Nat},Gw σ n=some k->(n,k)∈σ
 |[],_,_,h=>by simp[Gw] at h
 |(a,b)::l,n,k,h=>by
  rw[Apq] at h;by_cases hn:n=a
  ·grind
  ·rw[if_neg hn] at h;exact Zu1 _ (P3 h)
theorem Ahk:∀{σ:Ren}{n k:Nat},(n,k)∈σ->∃k',Gw σ n=some k'
 |(a,b)::l,n,k,h=>by
  rw[Apq];by_cases hn:n=a
  ·simp_all
  ·rw[if_neg hn];rcases List.mem_cons.1 h with h|h
   ·grind
   ·exact Ahk h
theorem Abp{σ:Ren}(h:Aou σ=true){p q:Nat×Nat}(hp:p∈σ)(hq:q∈σ):p.1=q.1↔p.2=q.2:=by
 have h1:=Zg2.1 (Zg2.1 h p hp) q hq;simp at h1;constructor
 ·intro e;have:Nat.beq p.1 q.1=true:=by rw[e];exact Nat.beq_refl _
  rw[this] at h1;exact Zl1 h1.symm
 ·intro e;have:Nat.beq p.2 q.2=true:=by rw[e];exact Nat.beq_refl _
  rw[this] at h1;exact Zl1 h1
theorem Al5(σ:Ren)(nw:List (Nat×Blk)):∀(bl:List (Nat×Blk)) (b:Nat),blk (Aby σ nw bl) b=match Gw σ b with|none=>blk bl b|some k=>if(blk bl b).isSome then blk nw k else none
 |[],b=>by simp only[Aby,blk];cases Gw σ b<;>simp
 |(q,K)::l,b=>by
  have ih:=Al5 σ nw l b;simp only[Aby];rw[Az];cases hq:Gw σ q with
  |none =>
   simp only;rw[Az,ih];by_cases hb:b=q
   ·subst hb;simp[hq]
   ·simp[hb]
  |some k =>
   simp only;by_cases hb:b=q
   ·subst hb;simp only[hq,if_true,Option.isSome_some];cases hk:blk nw k with|none=>simp only;rw[ih,hq];simp[hk]|some K'=>simp only;rw[Az,if_pos rfl]
   ·cases hk:blk nw k with|none=>simp only;rw[ih];simp[hb]|some K'=>simp only;rw[Az,if_neg hb,ih];simp[hb]
structure Lent (σ:Ren) (x x0:Vx):Prop where
 w:x0.w=x.w
 el:x0.el=x.el
 S:∀b i,x0.S b i->x.S b i
 bl:∀b k,Gw σ b=some k->k<x0.nb/\x0.m.bl k=x.m.bl b
 nt:x.nt<=x0.nt
 tk:∀t,x0.al t->x.al t/\x0.m.tk t=x.m.tk t
section
variable {σ:Ren}{x x0:Vx}
theorem Lent.rf(h:Lent σ x x0){d:D}{v:Value}(hr:RF x.S x.w d v):RF x0.S x0.w d v:=by rw[h.w];exact hr.later (Chg.refl _ _) λk i hi =>.inl (h.S k i hi)
theorem Lent.sl(h:Lent σ x x0){c:Ck}{xs:List (El c)}{t:Tk}{v:Value}(hr:Rep x (.sl c xs t) v):Rep x0 (.sl c xs t) v:=by
 simp[Rep] at hr ⊢;refine⟨h.rf hr.1,?_⟩;cases t with
 |no=>trivial
 |nil=>exact hr.2
 |z=>exact hr.2
 |ne=>exact hr.2
 |zn=>exact hr.2
 |f=>exact hr.2
 |id t =>
  obtain⟨h1,h2⟩:=hr.2;refine⟨Zx1 h1 h.nt,λha =>?_⟩;obtain⟨a1,a2⟩:=h.tk t ha;rcases h2 a1 with ⟨p,q,r⟩|⟨g,cap,cur,p,q,r,s⟩
  ·exact .inl ⟨p,a2.trans q,r⟩
  ·exact .inr ⟨g,cap,cur,p,a2.trans q,by rw[h.w,h.el];exact r,s⟩
theorem Lent.p(h:Lent σ x x0){d d':D}{v:Value}(hd:Bmt σ d=some d')(hr:Rep x d v):Rep x0 d' v:=by
 unfold Bmt at hd;split at hd
 ·rename_i b o;split at hd
  ·rename_i k hk;simp at hd;subst hd;obtain⟨h1,h2⟩:=h.bl b k hk;simp[Rep] at hr ⊢;exact⟨h1,by rw[h2];exact hr.2⟩
  ·cases hd
 ·split at hd
  ·rename_i hpl;simp at hd;subst hd;cases d<;>simp[Bgr] at hpl
   case sl c xs t=>exact h.sl hr
   all_goals simpa only[Rep] using hr
  ·cases hd
theorem Lent.ps(h:Lent σ x x0):∀{ds ds':List D}{vs:List Value},Ah8 σ ds=some ds'->Reps x ds vs->Reps x0 ds' vs
 |[],ds',vs,hd,hr=>by simp[Ah8] at hd;subst hd;simpa[Reps] using hr
 |d::ds,ds',vs,hd,hr=>by
  simp[Ah8] at hd;split at hd
  ·rename_i d1 l1 h1 h2;simp at hd;subst hd;simp[Reps] at hr ⊢;obtain⟨u,us,rfl,q1,q2⟩:=hr;exact⟨u,us,rfl,h.p h1 q1,h.ps h2 q2⟩
  ·cases hd
theorem Lent.d(h:Lent σ x x0){d d':D}{v:Value}(hd:Bq1 σ d=some d')(hr:Rep x d v):Rep x0 d' v:=by
 unfold Bq1 at hd;split at hd
 ·split at hd
  ·rename_i cs' hcs;simp at hd;subst hd;simp[Rep] at hr ⊢;obtain⟨vs,h1,h2⟩:=hr;exact⟨vs,h1,h.ps hcs h2⟩
  ·cases hd
 ·split at hd
  ·rename_i cs' hcs;simp at hd;subst hd;simp[Rep] at hr ⊢;obtain⟨vs,h1,h2⟩:=hr;exact⟨vs,h1,h.ps hcs h2⟩
  ·cases hd
 ·split at hd
  ·rename_i ds' hds;split at hd
   ·rename_i hl;simp at hd;subst hd;simp only[Rep] at hr ⊢;obtain⟨_,vs,h1,h2⟩:=hr;exact⟨hl,vs,h1,h.ps hds h2⟩
   ·cases hd
  ·cases hd
 ·simp at hd;subst hd;simp[Rep] at hr ⊢;obtain⟨h1,vs,h2,h3,h4⟩:=hr;exact⟨h1,vs,h2,h3,λj e he=>by obtain⟨u,hu,hf⟩:=h4 j e he;exact⟨u,hu,h.rf hf⟩⟩
 ·simp at hd;subst hd;simp[Rep] at hr ⊢;obtain⟨b,o,h1,h2⟩:=hr;exact⟨b,o,h1,λw' hw=>h2 w' (by rw[h.w] at hw;exact hw.mono h.S)⟩
 ·exact h.p hd hr
theorem Lent.l(h:Lent σ x x0):∀{ds ds':List D}{vs:List Value},Bd4 σ ds=some ds'->Reps x ds vs->Reps x0 ds' vs
 |[],ds',vs,hd,hr=>by simp[Bd4] at hd;subst hd;simpa[Reps] using hr
 |d::ds,ds',vs,hd,hr=>by
  simp[Bd4] at hd;split at hd
  ·rename_i d1 l1 h1 h2;simp at hd;subst hd;simp[Reps] at hr ⊢;obtain⟨u,us,rfl,q1,q2⟩:=hr;exact⟨u,us,rfl,h.d h1 q1,h.l h2 q2⟩
  ·cases hd
theorem Lent.b(h:Lent σ x x0){β:Nat}{K K':Blk}(hk:Bps σ K=some K')(hr:Ia x β K):Ia x0 β K':=by
 unfold Bps at hk;split at hk
 ·split at hk
  ·rename_i ds' hds;split at hk
   ·rename_i hl;simp at hk;subst hk;obtain⟨_,vs,t,h1,h2⟩:=hr;exact⟨hl,vs,t,by rw[h.w];exact h1,h.l hds h2⟩
   ·cases hk
  ·cases hk
 ·simp at hk;subst hk;cases K with|cells ds=>rename_i hne;exact absurd rfl (hne ds)|ob q=>simp only[Ia] at hr ⊢;rw[h.w];exact hr|box c y =>obtain⟨h0,vs,t,h1,h2,h3⟩:=hr;exact⟨h0,vs,t,by rw[h.w];exact h1,h2,λj d hd=>by obtain⟨u,hu,hf⟩:=h3 j d hd;exact⟨u,hu,h.rf hf⟩⟩|row c n xs =>obtain⟨h0,vs,t,h1,h2,h3⟩:=hr;exact⟨h0,vs,t,by rw[h.w];exact h1,h2,λi y j d hy hd=>by obtain⟨u,hu,hf⟩:=h3 i y j d hy hd;exact⟨u,hu,h.rf hf⟩⟩|dyn c xs =>obtain⟨h0,vs,t,h1,h2,h3⟩:=hr;exact⟨h0,vs,t,by rw[h.w];exact h1,h2,λi y j d hy hd=>by obtain⟨u,hu,hf⟩:=h3 i y j d hy hd;exact⟨u,hu,h.rf hf⟩⟩|bld ty d =>obtain⟨⟨l,t,rfl⟩,a,v,h1,h2,h3⟩:=hr;exact⟨⟨l,t,rfl⟩,a,v,by rw[h.w];exact h1,h2,h.sl h3⟩
end
theorem Oe{bl:List (Nat×Blk)}{σ0:Ren}:∀{σ:Ren}{bl':List (Nat×Blk)},Ajv bl σ0 σ=some bl'->∀k K',blk bl' k=some K'->∃b K,(b,k)∈σ/\blk bl b=some K/\Bps σ0 K=some K'
 |[],bl',h,k,K',hk=>by simp[Ajv] at h;subst h;simp[blk] at hk
 |(b,q)::σ,bl',h,k,K',hk=>by
  simp[Ajv] at h;split at h
  ·rename_i K l hb hl;split at h
   ·rename_i K1 hK;simp at h;subst h;rw[Az] at hk;by_cases hq:k=q
    ·subst hq;rw[if_pos rfl] at hk;simp at hk;subst hk;exact⟨b,K,Zr1,hb,hK⟩
    ·rw[if_neg hq] at hk;obtain⟨b',K2,h1,h2,h3⟩:=Oe hl k K' hk;exact⟨b',K2,Zu1 _ h1,h2,h3⟩
   ·cases h
  ·cases h
theorem Al4{bl:List (Nat×Blk)}{σ0:Ren}:∀{σ:Ren}{bl':List (Nat×Blk)},Ajv bl σ0 σ=some bl'->∀b k,(b,k)∈σ->blk bl b≠none/\blk bl' k≠none
 |[],bl',h,b,k,hm=>by cases hm
 |(b0,q)::σ,bl',h,b,k,hm=>by
  simp[Ajv] at h;split at h
  ·rename_i K l hb hl;split at h
   ·rename_i K1 hK;simp at h;subst h;rw[Az];rcases List.mem_cons.1 hm with hm|hm
    ·simp at hm;obtain⟨rfl,rfl⟩:=hm;exact⟨by rw[hb];simp,by simp⟩
    ·obtain⟨h1,h2⟩:=Al4 hl b k hm;refine⟨h1,?_⟩;by_cases hq:k=q
     ·simp[hq]
     ·rw[if_neg hq];exact h2
   ·cases h
  ·cases h
theorem G4{bl:List (Nat×Blk)}{tk:List Nat}{t:Nat}(h:t∈Bic bl tk):t∈tk:=(List.mem_filter.1 h).1
theorem G7{x:Vx}:∀{ds:List D}{us:List Value}(i k:Nat) (d:D),Reps x ds us->get (Bj i ds) k=some d->∃v,i<=k/\us[k-i]? = some v/\Rep x d v
 |[],us,i,k,d,_,h=>by simp[Bj,get] at h
 |e::ds,us,i,k,d,hr,h=>by
  simp[Reps] at hr;obtain⟨u,us,rfl,h1,h2⟩:=hr;simp[Bj] at h;rw[B8] at h;by_cases hk:k=i
  ·subst hk;simp at h;subst h;exact⟨u,Zn1 _,by simp,h1⟩
  ·rw[if_neg hk] at h;obtain⟨v,h3,h4,h5⟩:=G7 (i+1) k d h2 h;refine⟨v,by omega,?_,h5⟩;rw[show k-i=(k-(i+1))+1 by omega];simpa using h4
theorem Aw6:∀{bl:List (Nat×Bs)}{k:Nat}{d:D},get (bl.map λp=>(p.1,D.ptr p.1 0)) k=some d->d = .ptr k 0/\∃bs,(k,bs)∈bl
 |[],k,d,h=>by simp[get] at h
 |(q,bs)::bl,k,d,h=>by
  simp at h;rw[B8] at h;by_cases hk:k=q
  ·subst hk;simp at h;exact⟨h.symm,bs,Zr1⟩
  ·rw[if_neg hk] at h;obtain⟨h1,bs',h2⟩:=Aw6 h;exact⟨h1,bs',Zu1 _ h2⟩
theorem Y5:∀{bl:List (Nat×Bs)}{k:Nat},(bl.map (·.1)).contains k=true->get (bl.map λp=>(p.1,D.ptr p.1 0)) k=some (.ptr k 0)
 |[],k,h=>by simp at h
 |(q,bs)::bl,k,h=>by
  simp;rw[B8];by_cases hk:k=q
  ·subst hk;simp
  ·rw[if_neg hk];refine Y5 (bl:=bl) ?_;simp only[Zw1,List.contains_cons,Zd2,beq_iff_eq] at h;exact h.resolve_left hk
section
variable {R:Type}{cx:Cx}
def Anv(nb:Nat)(m0:Mp):Act:=⟨((List.range nb).map λk=>Value.pointer (some ⟨m0.bl k,0,none⟩)).toArray,[]⟩
theorem Apv{nb:Nat}{m0:Mp}{k:Nat}(h:k<nb):(Anv nb m0).tmps[k]? = some (.pointer (some ⟨m0.bl k,0,none⟩)):=by simp[Anv,h]
theorem Blv{sg:Sig}(hok:U2 sg=true){σ:Ren}(hσ:Aou σ=true)(hσn:∀p,p∈σ->p.2<sg.nb){args:List D}{st st0:St}(h0:K3 sg σ args st=some st0){m:Mp}{a:Act}{as_:List Act}{w:World}{vs:List Value}(hr:Rel cx m a as_ (fs st) w)(hargs:Reps (vx cx m (fs st) w) args vs) :
  ∃(m0:Mp) (cx0:Cx),cx0.P=cx.P/\cx0.el=cx.el/\cx0.gl=cx.gl/\cx0.w0=w/\(∀b k,Gw σ b=some k->m0.bl k=m.bl b)/\m0.tk=m.tk/\(∀b i,cx0.I b i->Db m0 (fs st0) b i)/\(∀b i,cx0.M b i↔((vx cx m (fs st) w).S b i/\∀j,¬Db m0 (fs st0) b j)) /\
   (∀b i,Db m0 (fs st0) b i->Db m (fs st) b i)/\Rel cx0 m0 ⟨vs.toArray,[]⟩ [Anv sg.nb m0] (fs st0) w:=by
 unfold K3 at h0;split at h0
 ·rename_i as' bl' ha hb;simp at h0;subst h0;let inv:Nat->Nat:=λk=>((σ.find? λp=>Nat.beq p.2 k).map (·.1)).getD 0;have hinv:∀b k,(b,k)∈σ->inv k=b:=λb k hm=>by
   have hs:(σ.find? λp=>Nat.beq p.2 k).isSome=true:=by rw[List.find?_isSome];exact⟨(b,k),hm,Nat.beq_refl k⟩
   obtain⟨p,hp⟩:=Option.isSome_iff_exists.1 hs;have h1:=List.mem_of_find?_eq_some hp;have h2:=List.find?_some hp;have h2:=Zl1 h2;simp[inv,hp];exact(Abp hσ h1 hm).2 h2
  let m0:Mp:=⟨λk=>m.bl (inv k),m.tk⟩;let s0:FS:=fs ⟨args.length,Bj 0 as',sg.nb,0,[E0 sg],bl',sg.nb,Bic bl' st.tk,st.nt,[]⟩;have hbl0:∀b k,Gw σ b=some k->m0.bl k=m.bl b:=λb k hk=>by simp[m0,hinv b k (P3 hk)]
  have hs0:∀k,s0.bl k≠none->∃b,(b,k)∈σ/\(fs st).bl b≠none/\m0.bl k=m.bl b:=λk hk=>by cases hK:blk bl' k with|none=>exact absurd hK hk|some K' =>obtain⟨b,K,h1,h2,_⟩:=Oe hb k K' hK;exact⟨b,h1,by show blk st.bl b≠none;rw[h2];simp,by simp[m0,hinv b k h1]⟩
  have hfp:∀b i,Db m0 s0 b i->Db m (fs st) b i:=by
   rintro b i (⟨k,hk,rfl⟩|⟨t,o,h1,h2,h3⟩)
   ·obtain⟨q,_,h2,h3⟩:=hs0 k hk;exact .inl ⟨q,h2,h3.symm⟩
   ·exact .inr ⟨t,o,G4 h1,h2,h3⟩
  let cx0:Cx:=⟨cx.P,w,Db m0 s0,λb i=>(vx cx m (fs st) w).S b i/\∀j,¬Db m0 s0 b j,cx.el,cx.gl⟩;have hS:∀b i,(vx cx0 m0 s0 w).S b i->(vx cx m (fs st) w).S b i:=by
   rintro b i (h|h)
   ·exact h.1
   ·exact .inr (hfp b i h)
  have hL:Lent σ (vx cx m (fs st) w) (vx cx0 m0 s0 w):=⟨rfl,rfl,hS,λb k hk=>⟨hσn _ (P3 hk),hbl0 b k hk⟩,Zn1 _,λt ht=>⟨G4 ht,rfl⟩⟩;have hreps:=hL.l ha hargs;have hlen:vs.length=args.length:=hargs.len;refine⟨m0,cx0,rfl,rfl,rfl,rfl,hbl0,rfl,λ_ _ h=>h,λ_ _=>Iff.rfl,hfp,?_⟩;show Rel cx0 m0 ⟨vs.toArray,[]⟩ [Anv sg.nb m0] s0 w;simp only[U2,Zb1] at hok;obtain⟨⟨⟨_,hok2⟩,_⟩,_⟩:=hok;refine⟨Chg.refl _ _,⟨(show Amt _ [] [] from rfl),(by simpa using hlen:vs.toArray.size=args.length),λk d hk =>?_⟩,?_,Zn1 _,Nat.zero_le _,λk K' hk =>?_,λt ht =>?_,λb b' h1 h2 h3 =>?_,λt t' g o o' h1 h2=>hr.injt t t' g o o' (G4 h1) (G4 h2),λb t g o h1 h2 h3 =>?_,λb i hi=>⟨(hr.own b i (hfp b i hi)).1,.inl hi⟩,λb i j hm=>⟨?_,hm.2 j⟩,?_⟩
  ·obtain⟨v,_,h2,h3⟩:=G7 0 k d hreps hk;exact⟨v,by simpa using h2,h3⟩
  ·refine⟨Anv sg.nb m0,[],rfl,Nat.zero_le _,Nat.zero_le _,⟨(show Amt _ [] [] from rfl),by simp[Anv,E0],λk d hk =>?_⟩,rfl⟩;obtain⟨rfl,bs,hm⟩:=Aw6 hk;have hlt:k<sg.nb:=by have:=Zg2.1 hok2 _ hm;simp at this;simpa using this.1
   exact⟨_,Apv hlt,by simp[Rep];exact⟨hlt,rfl⟩⟩
  ·obtain⟨b,K,h1,h2,h3⟩:=Oe hb k K' hk;refine⟨hσn _ h1,?_⟩;have e:m0.bl k=m.bl b:=by simp[m0,hinv b k h1]
   rw[e];exact hL.b h3 (hr.blks b K h2).2
  ·exact hr.als t (G4 ht)
  ·obtain⟨q,q1,q2,q3⟩:=hs0 b h1;obtain⟨q',p1,p2,p3⟩:=hs0 b' h2;rw[q3,p3] at h3;exact(Abp hσ q1 p1).1 (hr.inj q q' q2 p2 h3)
  ·obtain⟨q,_,q2,q3⟩:=hs0 b h1;rw[q3];exact hr.injbt q t g o q2 (G4 h2) h3
  ·rcases hm.1 with h|h
   ·have:=(hr.away b i 0 h).1;exact Zx1 this hr.chg.size
   ·exact(hr.own b i h).1
  ·exact⟨λg c xs hx i y hy w' hw=>hr.glb.1 g c xs hx i y hy w' (hw.mono hS),λg l hl=>by obtain⟨r,es,clk,q1,q2⟩:=hr.glb.2.1 g l hl;exact⟨r,es,clk,λw' hw=>q1 w' (hw.mono hS),q2⟩,λg k hk=>by obtain⟨n,q1⟩:=hr.glb.2.2 g k hk;exact⟨n,λw' hw=>q1 w' (hw.mono hS)⟩⟩
 ·cases h0
theorem Hp:∀{bl:List (Nat×Bs)}{E:List D}{k:Nat}{K:Blk},blk (C7 bl E) k=some K->(bl.map (·.1)).contains k=true
 |[],E,k,K,h=>by simp[C7,blk] at h
 |(q,.cells l)::bl,E,k,K,h=>by
  simp[C7] at h;rw[Az] at h;simp only[Zw1,List.contains_cons,Zd2,beq_iff_eq];by_cases hk:k=q
  ·exact .inl hk
  ·rw[if_neg hk] at h;exact .inr (Hp h)
 |(q,.one s)::bl,[],k,K,h=>by
  simp[C7] at h;rw[Az] at h;simp only[Zw1,List.contains_cons,Zd2,beq_iff_eq];by_cases hk:k=q
  ·exact .inl hk
  ·rw[if_neg hk] at h;exact .inr (Hp h)
 |(q,.one s)::bl,d::E,k,K,h=>by
  simp[C7] at h;rw[Az] at h;simp only[Zw1,List.contains_cons,Zd2,beq_iff_eq];by_cases hk:k=q
  ·exact .inl hk
  ·rw[if_neg hk] at h;exact .inr (Hp h)
 |(q,.bld _)::bl,[],k,K,h=>by
  simp[C7] at h;rw[Az] at h;simp only[Zw1,List.contains_cons,Zd2,beq_iff_eq];by_cases hk:k=q
  ·exact .inl hk
  ·rw[if_neg hk] at h;exact .inr (Hp h)
 |(q,.bld _)::bl,d::E,k,K,h=>by
  simp[C7] at h;rw[Az] at h;simp only[Zw1,List.contains_cons,Zd2,beq_iff_eq];by_cases hk:k=q
  ·exact .inl hk
  ·rw[if_neg hk] at h;exact .inr (Hp h)
 |(q,.fx _)::bl,E,k,K,h=>by
  simp[C7] at h;rw[Az] at h;simp only[Zw1,List.contains_cons,Zd2,beq_iff_eq];by_cases hk:k=q
  ·exact .inl hk
  ·rw[if_neg hk] at h;exact .inr (Hp h)
 |(q,.oc _ _ _)::bl,E,k,K,h=>by
  simp[C7] at h;rw[Az] at h;simp only[Zw1,List.contains_cons,Zd2,beq_iff_eq];by_cases hk:k=q
  ·exact .inl hk
  ·rw[if_neg hk] at h;exact .inr (Hp h)
theorem Bk4{sg:Sig}(hok:U2 sg=true){st:St}{x:HV sg.sgs}(hd:Hs sg st=some x){m:Mp}{a:Act}{as_:List Act}{w:World}(hr:Rel cx m a as_ (fs st) w):BdL sg.sgs x:=by
 simp only[U2,Zb1] at hok;obtain⟨⟨⟨_,hok2⟩,_⟩,_⟩:=hok;unfold Hs at hd;split at hd
 ·rename_i A B O hA hB hO _;obtain⟨VA,hVA,_⟩:=J3 (env:=st.env) hr.env hA;obtain⟨VB,hVB,_⟩:=Dl (x:=vx cx m (fs st) w) (m:=m.bl) (stbl:=st.bl) (λb k hk=>(hr.blks b k hk).2) hB hok2;obtain⟨VO,hVO,_⟩:=Ii (env:=st.env) hr.env hO;have:=Fa (X:=vx cx m (fs st) w) (X':=⟨⟨m.bl,λp=>(asg 0 sg.sgs (A++(B++O)) p).bind m.tk⟩,λ_=>False,(vx cx m (fs st) w).S,w,0,sg.sgs.length,cx.el⟩) (λ_ _ h=>h) rfl rfl 0 hd (λt ht=>(List.mem_filter.1 ht).1) (hVA.append (hVB.append hVO)) (λp hp=>by have:=(Gi _ _ _ hp).2;exact⟨by simpa using this,rfl⟩)
  exact Ys this
 ·cases hd
theorem Bm5{vars:List (Nat×Sg)}(h:C2 (vars.map (·.1)) (List.range vars.length)=true){i k:Nat}{s:Sg}(hi:vars[i]? = some (k,s)):k=i:=by have h2:=congrArg (·[i]?) (Gb h);simp[ hi] at h2;rw[List.getElem?_range ((Zi2.1 hi).1)] at h2;simpa using h2
theorem Ev{stbl:List (Nat×Blk)}:∀{bl:List (Nat×Bs)}{B:List D},Bv stbl bl=some B->∀p,p∈bl->blk stbl p.1≠none
 |[],_,_,p,hp=>by cases hp
 |(b0,.cells l)::bl,B,hg,p,hp=>by
  simp[Bv] at hg;split at hg
  ·rename_i ds es hds hes;rcases List.mem_cons.1 hp with rfl|hp
   ·rw[hds];simp
   ·exact Ev hes p hp
  ·cases hg
 |(b0,.one s)::bl,B,hg,p,hp=>by
  simp[Bv] at hg;split at hg
  ·cases hg
  ·cases hg
  ·rename_i k es _ _ hk hes;rcases List.mem_cons.1 hp with rfl|hp
   ·rw[hk];simp
   ·exact Ev hes p hp
  ·cases hg
 |(b0,.bld t0)::bl,B,hg,p,hp=>by
  simp[Bv] at hg;split at hg
  ·rename_i t1 d es hk hes;rcases List.mem_cons.1 hp with rfl|hp
   ·rw[hk];simp
   ·exact Ev hes p hp
  ·cases hg
 |(b0,.fx l)::bl,B,hg,p,hp=>by
  simp[Bv] at hg;split at hg
  ·rename_i ds es hds hes;split at hg
   ·rcases List.mem_cons.1 hp with rfl|hp
    ·rw[hds];simp
    ·simp at hg;subst hg;exact Ev hes p hp
   ·cases hg
  ·cases hg
 |(b0,.oc l b1 c)::bl,B,hg,p,hp=>by
  simp[Bv] at hg;split at hg
  ·rename_i ds es hds hes;rcases List.mem_cons.1 hp with rfl|hp
   ·rw[hds];simp
   ·exact Ev hes p hp
  ·cases hg
theorem Ada{σ:Ren}{nb:Nat}:∀{bl:List (Nat×Bs)},(bl.all λp=>Bdq σ nb p.2)=true->∀d,d∈fxs bl->∀b,b∈D4 d->Gw σ b=some b/\b<nb
 |[],_,d,hd=>by cases hd
 |(_,.cells _)::bl,h,d,hd=>by simp only[Zv1,Zb1] at h;exact Ada h.2 d hd
 |(_,.one _)::bl,h,d,hd=>by simp only[Zv1,Zb1] at h;exact Ada h.2 d hd
 |(_,.bld _)::bl,h,d,hd=>by simp only[Zv1,Zb1] at h;exact Ada h.2 d hd
 |(_,.fx l)::bl,h,d,hd=>by
  simp only[Zv1,Zb1] at h;simp[fxs,List.mem_append] at hd;rcases hd with hd|hd
  ·intro b hb;have h1:=Zg2.1 (Zg2.1 h.1 d hd) b hb;simp at h1;refine⟨?_,by simpa[Nat.blt_eq] using h1.2⟩;cases hl:Gw σ b with|none=>rw[hl] at h1;cases h1.1|some k=>rw[hl] at h1;rw[Zl1 h1.1]
  ·exact Ada h.2 d hd
 |(_,.oc l b1 c)::bl,h,d,hd=>by
  simp only[Zv1,Zb1] at h;simp[fxs,List.mem_cons] at hd;rcases hd with rfl|hd
  ·intro b hb;simp[D4] at hb;subst hb;have h1:=h.1;simp[Bdq,Zb1] at h1;refine⟨?_,by simpa[Nat.blt_eq] using h1.2⟩;cases hl:Gw σ b with|none=>rw[hl] at h1;cases h1.1|some k=>rw[hl] at h1;rw[Zl1 h1.1]
  ·exact Ada h.2 d hd
theorem Be4{bl:List (Nat×Bs)}{d:D}{b:Nat}(hd:d∈fxs bl)(hb:b∈D4 d):b∈(fxs bl).flatMap D4:=List.mem_flatMap.2 ⟨d,hd,hb⟩
theorem Akp{env:Env}:∀{vars:List (Nat×Sg)}{A:List D},Je env vars=some A->A.length=vars.length
 |[],A,h=>by simp[Je] at h;subst h;rfl
 |p::vars,A,h=>by
  simp[Je] at h;split at h
  ·rename_i d ds _ hds;simp at h;subst h;simp[Akp hds]
  ·cases h
theorem Apc{g:Nat}{sg so:Sig}{F:HV sg.sgs->Option (HV so.sgs)}(h:FnLn cx.P cx.el cx.gl g sg so F)(hok:lnB sg so=true){args:List D}{st:St}{K:List D->St->Option R}{r:R}(hc:Aj sg so F args st K=some r):Hg cx g args st K r:=by
 simp only[lnB,Zb1] at hok;obtain⟨⟨⟨⟨⟨⟨⟨⟨⟨⟨k1,k2⟩,k3⟩,k4⟩,k5⟩,k6⟩,k7⟩,k8⟩,k10⟩,k11⟩,k12⟩:=hok;have k5:=Zl1 k5;refine⟨h.enters,λm a as_ w vs hr hargs =>?_⟩;unfold Aj at hc;generalize Em (Bj 0 args) sg.fix=σ at hc;split at hc
 ·rename_i st0 hσ h0;simp only[Zb1] at hσ;obtain⟨⟨hσ,hσn⟩,hσf⟩:=hσ;have hσn:∀p,p∈σ->p.2<sg.nb:=λp hp=>by simpa[Nat.blt_eq] using Zg2.1 hσn p hp
  split at hc
  ·rename_i x hx;cases hF:F x with
   |none=>rw[hF] at hc;cases hc
   |some r0 =>
    rw[hF,Zc1] at hc;obtain⟨m0,cx0,e1,e2,e3,e4,hbl0,htk0,hI,hM,hfp0,hrel0⟩:=Blv k1 hσ hσn h0 hr hargs;obtain⟨m0',hrel1⟩:=hrel0.recode k1 hx;have hst0:st0.fr=[E0 sg]/\(∀t,t∈st0.tk->t∈st.tk)/\∀b k,(b,k)∈σ->blk st0.bl k≠none:=by
     unfold K3 at h0;split at h0
     ·rename_i as' bl' ha hb;simp[Za1] at h0;subst h0;exact⟨rfl,λt ht=>G4 ht,λb k hm=>(Al4 hb b k hm).2⟩
     ·cases h0
    rw[hst0.1] at hrel1;refine(h.run x r0 hF (Bk4 k1 hx hrel0) cx0 m0' vs _ w e1 e2 e3 hrel1).mono ?_;rintro en w' ⟨us,st1,m1,rfl,hbls,hdec,hrel2⟩;have hm1:∀k,(sg.bl.map (·.1)).contains k=true->m1.bl k=m0.bl k:=λk hk=>by
     rw[hbls k hk];have hf:=hrel1.frs;have e:(fs (Dp sg [E0 sg] x)).fr=[E0 sg]:=by unfold Dp;split;rfl
     rw[e] at hf;obtain⟨a',r',he,_,_,henv,_⟩:=hf;simp[Ze2] at he;obtain⟨rfl,_⟩:=he;obtain⟨v,hv,hrep⟩:=henv.get k _ (Y5 hk);have hlt:k<sg.nb:=by simp only[List.contains_iff_mem,List.mem_map] at hk;obtain⟨p,hp,rfl⟩:=hk;simp only[U2,Zb1] at k1;have:=Zg2.1 k1.1.1.2 p hp;simp[Zb1] at this;simpa[Nat.blt_eq] using this.1
     rw[Apv hlt] at hv;simp[Za1] at hv;subst hv;simp only[Rep,Value.pointer.injEq,Za1,Addr.mk.injEq] at hrep;exact hrep.2.1.symm
    simp only[U2,Zb1] at k2;obtain⟨⟨⟨_,hok2⟩,_⟩,_⟩:=k2;unfold Hs at hdec;split at hdec
    ·rename_i A B O hA hB hO hcc;obtain⟨VA,hVA,hVA2⟩:=J3 (env:=st1.env) hrel2.env hA;obtain⟨VB,hVB,hVB2⟩:=Dl (x:=vx cx0 m1 (fs st1) w') (m:=m1.bl) (stbl:=st1.bl) (λb k hk=>(hrel2.blks b k hk).2) hB hok2;obtain⟨VO,hVO,_⟩:=Ii (env:=st1.env) hrel2.env hO;obtain⟨as1,as2⟩:=Zu st.nt hdec;have hals:∀t,t∈(st1.tk.filter λt => !so.tk.contains t)->t∈st1.tk:=λt ht=>(List.mem_filter.1 ht).1;let E:=Br st.nt so.sgs r0;let nw:=C7 so.bl (E.drop so.vars.length);let st':St:={ st with bl:=Aby σ nw st.bl,tk:=Bb st.nt so.sgs++st.tk.filter (λt => !(st0.tk).contains t),nt:=st.nt+so.sgs.length };let m':Mp:=⟨m.bl,λt=>if t<st.nt then m.tk t else(asg st.nt so.sgs (A++(B++O)) t).bind m1.tk⟩;have hchI:Chg cx0.I w w':=by have:=hrel2.chg;rw[e4] at this;exact this
     have hch:Chg (Db m (fs st)) w w':=hchI.mono λb i hi=>hfp0 b i (hI b i hi);have htok:∀t,t∈Bb st.nt so.sgs++st.tk.filter (λt => !(st0.tk).contains t)->(t∈st.tk/\t∉st0.tk/\t<st.nt/\m'.tk t=m.tk t)\/(st.nt<=t/\t<st.nt+so.sgs.length/\m'.tk t=(asg st.nt so.sgs (A++(B++O)) t).bind m1.tk):=λt ht=>by
      simp[List.mem_append,List.mem_filter] at ht;rcases ht with ht|⟨ht,hn⟩
      ·obtain⟨h1,h2⟩:=Gi _ _ _ ht;exact .inr ⟨h1,h2,by simp[m',Nat.not_lt.2 h1]⟩
      ·have hlt:t<st.nt:=hr.als t ht;refine .inl ⟨ht,λhm =>?_,hlt,by simp[m',hlt]⟩;simp[hm] at hn
     have hnewt:∀t g o,st.nt<=t->m'.tk t=some (g,o)->∃t1,asg st.nt so.sgs (A++(B++O)) t=some t1/\t1∈st1.tk/\m1.tk t1=some (g,o):=λt g o hge hg=>by simp[m',if_neg (Nat.not_lt.2 hge)] at hg;cases ha:asg st.nt so.sgs (A++(B++O)) t with|none=>rw[ha] at hg;cases hg|some t1=>rw[ha,Zc1] at hg;exact⟨t1,rfl,hals _ (as1 t t1 ha).1,hg⟩
     have hfI0:∀b i,Db m0 (fs st0) b i->(∃q k,(q,k)∈σ/\blk st.bl q≠none/\b=m.bl q)\/∃t o,t∈st0.tk/\m.tk t=some (b,o):=by
      rintro b i (⟨k,hk,rfl⟩|⟨t,o,h1,h2,h3⟩)
      ·unfold K3 at h0;split at h0
       ·rename_i as' bl' ha hb;simp[Za1] at h0;subst h0;cases hK:blk bl' k with|none=>exact absurd hK hk|some K' =>obtain⟨q,K,q1,q2,_⟩:=Oe hb k K' hK;obtain⟨k',hk'⟩:=Ahk q1;have hkk:k' = k:=(Abp hσ (P3 hk') q1).1 rfl;rw[hkk] at hk';exact .inl ⟨q,k,q1,by rw[q2];simp,hbl0 q k hk'⟩
       ·cases h0
      ·rw[htk0] at h2;exact .inr ⟨t,o,h1,h2⟩
     have apart_b:∀b,blk st.bl b≠none->Gw σ b=none->∀i,¬Db m0 (fs st0) (m.bl b) i:=λb hb hl i hi=>by
      rcases hfI0 _ _ hi with ⟨q,k,q1,q2,q3⟩|⟨t,o,q1,q2⟩
      ·have:=hr.inj b q hb q2 q3;subst this;obtain⟨k',hk'⟩:=Ahk q1;rw[hl] at hk';cases hk'
      ·exact hr.injbt b t _ _ hb (hst0.2.1 t q1) q2 rfl
     have apart_t:∀t g o,t∈st.tk->t∉st0.tk->m.tk t=some (g,o)->∀i,¬Db m0 (fs st0) g i:=λt g o ht hn hg i hi=>by
      rcases hfI0 _ _ hi with ⟨q,k,q1,q2,q3⟩|⟨t',o',q1,q2⟩
      ·exact hr.injbt q t g o q2 ht hg q3.symm
      ·exact hn (hr.injt t t' g o o' ht (hst0.2.1 t' q1) hg q2▸q1)
     have hheap:∀b,b<w.heap.size->(∀i,¬Db m0 (fs st0) b i)->w'.heap[b]? = w.heap[b]? :=λb hb hn=>hchI.block b hb λi hi=>hn i (hI b i hi);have hnwk:∀b k K,Gw σ b=some k->blk nw k=some K->(so.bl.map (·.1)).contains k=true/\m1.bl k=m.bl b:=λb k K hl hK=>by
      have h1:=Hp hK;refine⟨h1,?_⟩;have h2:(sg.bl.map (·.1)).contains k=true:=by simp only[List.contains_iff_mem,List.mem_map] at h1;obtain⟨p,hp,rfl⟩:=h1;exact Zg2.1 k11 p hp
      rw[hm1 k h2,hbl0 b k hl]
     have hbl':∀b K,blk (Aby σ nw st.bl) b=some K->(Gw σ b=none/\blk st.bl b=some K)\/∃k,Gw σ b=some k/\blk st.bl b≠none/\blk nw k=some K:=λb K hK=>by
      rw[Al5] at hK;cases hl:Gw σ b with
      |none=>rw[hl] at hK;exact .inl ⟨rfl,hK⟩
      |some k =>
       rw[hl] at hK;simp only at hK;split at hK
       ·rename_i hs;exact .inr ⟨k,rfl,by cases hq:blk st.bl b with|none=>rw[hq] at hs;cases hs|some _=>simp,hK⟩
       ·cases hK
     have hbl'n:∀b,(fs st').bl b≠none->blk st.bl b≠none:=λb hb=>by
      cases hK:blk (Aby σ nw st.bl) b with
      |none=>exact absurd hK hb
      |some K =>
       rcases hbl' b K hK with ⟨_,h2⟩|⟨_,_,h2,_⟩
       ·rw[h2];simp
       ·exact h2
     have hshE:ShL ((so.bl.map (·.2.sgs)).flatten++Ava so.ow) (E.drop so.vars.length):=by have hsh:=Ago st.nt so.sgs r0;simp[Sig.sgs] at hsh;have hs2:=hsh.split.2;simp[List.length_map] at hs2;exact hs2
     have hfp':∀b i,Db m' (fs st') b i->Db m (fs st) b i\/∃t1 o,t1∈st1.tk/\m1.tk t1=some (b,o)/\o<=i:=by
      rintro b i (⟨q,hq,rfl⟩|⟨t,o,h1,h2,h3⟩)
      ·exact .inl (.inl ⟨q,hbl'n q hq,rfl⟩)
      ·rcases htok t h1 with ⟨q1,_,_,q4⟩|⟨q1,_,_⟩
       ·rw[q4] at h2;exact .inl (.inr ⟨t,o,q1,h2,h3⟩)
       ·obtain⟨t1,_,p2,p3⟩:=hnewt t b o q1 h2;exact .inr ⟨t1,o,p2,p3,h3⟩
     have hfresh:∀t1 b o,t1∈st1.tk->m1.tk t1=some (b,o)->b<w'.heap.size/\(Db m (fs st) b o\/w.heap.size<=b):=λt1 b o h1 h2=>by obtain⟨q1,q2⟩:=hrel2.own b o (.inr ⟨t1,o,h1,h2,Zn1 _⟩);rw[e4] at q2;exact⟨q1,q2.imp (λh=>hfp0 b o (hI b o h)) id⟩
     have hfresh':∀t1 b o,t1∈st1.tk->m1.tk t1=some (b,o)->cx0.I b o\/w.heap.size<=b:=λt1 b o h1 h2=>by obtain⟨_,q2⟩:=hrel2.own b o (.inr ⟨t1,o,h1,h2,Zn1 _⟩);rw[e4] at q2;exact q2
     have up:∀b o i,Db m (fs st) b o->o<=i->Db m (fs st) b i:=by
      rintro b o i (⟨q,hq,rfl⟩|⟨t,o',h1,h2,h3⟩) hoi
      ·exact .inl ⟨q,hq,rfl⟩
      ·exact .inr ⟨t,o',h1,h2,Nat.le_trans h3 hoi⟩
     have nx:Nx (vx cx m (fs st) w) (vx cx m' (fs st') w'):=by
      refine⟨hch.mono λb i hi =>.inr hi,?_,rfl,λ_ _=>rfl,Zn1 _,Nat.le_add_right _ _,λt ht ha =>?_⟩
      ·rintro b i (hm|hf)
       ·exact .inl (.inl hm)
       ·rcases hfp' b i hf with h|⟨t1,o,h1,h2,h3⟩
        ·exact .inl (.inr h)
        ·rcases(hfresh t1 b o h1 h2).2 with h|h
         ·exact .inl (.inr (up b o i h h3))
         ·exact .inr h
      ·have ht:t<st.nt:=ht;rcases htok t ha with ⟨q1,q2,_,q4⟩|⟨q1,_,_⟩
       ·exact⟨q1,q4,λg o hg=>hheap g (hr.own_t q1 hg) (apart_t t g o q1 q2 hg)⟩
       ·omega
     have hS:∀b i,(vx cx m' (fs st') w').S b i->(vx cx0 m1 (fs st1) w').S b i:=by
      rintro b i (hm|hf)
      ·exact .inl ((hM b i).2 ⟨.inl hm,λj hj=>hr.disj hm (hfp0 b j hj)⟩)
      ·rcases hf with ⟨q,hq,rfl⟩|⟨t,o,h1,h2,h3⟩
       ·cases hl:Gw σ q with
        |none=>exact .inl ((hM _ i).2 ⟨.inr (.inl ⟨q,hbl'n q hq,rfl⟩),apart_b q (hbl'n q hq) hl⟩)
        |some k =>
         cases hK:blk (Aby σ nw st.bl) q with
         |none=>exact absurd hK hq
         |some K =>
          rcases hbl' q K hK with ⟨h1,_⟩|⟨k',h1,_,h3⟩
          ·rw[hl] at h1;cases h1
          ·rw[hl] at h1;simp[Za1] at h1;subst h1;obtain⟨q1,q2⟩:=hnwk q k K hl h3;refine .inr (.inl ⟨k,?_,q2⟩);simp only[List.contains_iff_mem,List.mem_map] at q1;obtain⟨p,hp,rfl⟩:=q1;exact Ev hB p hp
       ·rcases htok t h1 with ⟨q1,q2,_,q4⟩|⟨q1,_,_⟩
        ·rw[q4] at h2;exact .inl ((hM b i).2 ⟨.inr (.inr ⟨t,o,q1,h2,h3⟩),apart_t t b o q1 q2 h2⟩)
        ·obtain⟨t1,_,p2,p3⟩:=hnewt t b o q1 h2;exact .inr (.inr ⟨t1,o,p2,p3,h3⟩)
     have hreps:Reps (vx cx m' (fs st') w') E (VA++(VB++VO)):=Fa (X:=vx cx0 m1 (fs st1) w') (X':=vx cx m' (fs st') w') hS rfl e2.symm st.nt hdec (λt ht=>hals t ht) (hVA.append (hVB.append hVO)) (λp hp=>by obtain⟨q1,q2⟩:=Gi _ _ _ hp;exact⟨q2,by simp[vx,m',Nat.not_lt.2 q1]⟩)
     have hfxs:∀d,d∈fxs so.bl->∀b,b∈D4 d->(vx cx m' (fs st') w').m.bl b=(vx cx0 m1 (fs st1) w').m.bl b/\b<(vx cx m' (fs st') w').nb:=λd hd b hb=>by obtain⟨q1,q2⟩:=Ada hσf d hd b hb;refine⟨?_,q2⟩;show m.bl b=m1.bl b;rw[hm1 b (Zg2.1 k12 b (Be4 hd hb)),hbl0 b b q1]
     have hVAl:VA.length=so.vars.length:=by have h1:=hVA.len;have:=Akp hA;omega
     obtain⟨r1,r2⟩:=hreps.take;rw[hVAl] at r1 r2;have hVBl:VB.length=((so.bl.map (·.2.sgs)).flatten).length:=by have q1:=r2.len;have q2:=hshE.len;have q3:=hVO.len;have q4:=P0 hO;simp only[Zh1] at q1 q2;omega
     obtain⟨r3,r4⟩:=r2.take;rw[hVBl] at r3 r4;have husl:us.length=so.n:=by have:=hrel2.env.size;simp[List.size_toArray] at this;simp only[Zb1] at hcc;have h2:st1.n=so.n:=Zl1 hcc.1.1.1.1.2;have h3:(fs st1).n=st1.n:=rfl;omega
     have hVAus:so.n=so.vars.length->VA=us:=by
      intro hn;apply List.ext_getElem?;intro i;by_cases hi:i<so.vars.length
      ·obtain⟨⟨k,s⟩,hks⟩:∃p,so.vars[i]? = some p:=⟨_,Zo1 hi⟩;obtain⟨v,h3,h4⟩:=hVA2 i k s hks;rw[Bm5 k10 hks] at h4;rw[h3];simpa using h4.symm
      ·rw[List.getElem?_eq_none (by omega),List.getElem?_eq_none (by omega)]
     refine⟨_,rfl,_,_,m',hc,⟨rfl,rfl,rfl,rfl,rfl⟩,hr.step (s':=fs st') rfl rfl rfl rfl rfl hch nx ?_ ?_ ?_ ?_ ?_ ?_,?_⟩
     ·intro b K' hK;rcases hbl' b K' hK with ⟨h1,h2⟩|⟨k,h1,h2,h3⟩
      ·obtain⟨q1,q2⟩:=hr.blks b K' h2;have hne:blk st.bl b≠none:=by rw[h2];simp
       exact⟨q1,q2.later nx (hheap _ (hr.own_b (b:=b) hne) (apart_b b hne h1))⟩
      ·obtain⟨q1,_,_⟩:=hVB2 (vx cx m' (fs st') w') _ ⟨rfl,e2.symm⟩ hfxs hshE.split.1 r3 k K' (by rw[F3];exact h3);rw[(hnwk b k K' h1 h3).2] at q1;cases hq:blk st.bl b with|none=>exact absurd hq h2|some K0=>exact⟨(hr.blks b K0 hq).1,q1⟩
     ·intro t ht;rcases htok t ht with ⟨_,_,q,_⟩|⟨_,q,_⟩
      ·show t<st.nt+so.sgs.length;omega
      ·exact q
     ·exactλb b' h1 h2 h3=>hr.inj b b' (hbl'n b h1) (hbl'n b' h2) h3
     ·intro t t' g o o' h1 h2 h3 h4;rcases htok t h1 with ⟨q1,q2,q3,q4⟩|⟨q1,_,_⟩<;>rcases htok t' h2 with ⟨p1,p2,p3,p4⟩|⟨p1,_,_⟩
      ·rw[q4] at h3;rw[p4] at h4;exact hr.injt t t' g o o' q1 p1 h3 h4
      ·rw[q4] at h3;obtain⟨t1,_,s2,s3⟩:=hnewt t' g o' p1 h4;rcases hfresh' t1 g o' s2 s3 with h|h
       ·exact absurd (hI g o' h) (apart_t t g o q1 q2 h3 o')
       ·have:=hr.own_t q1 h3;omega
      ·rw[p4] at h4;obtain⟨t1,_,s2,s3⟩:=hnewt t g o q1 h3;rcases hfresh' t1 g o s2 s3 with h|h
       ·exact absurd (hI g o h) (apart_t t' g o' p1 p2 h4 o)
       ·have:=hr.own_t p1 h4;omega
      ·obtain⟨t1,s1,s2,s3⟩:=hnewt t g o q1 h3;obtain⟨t2,u1,u2,u3⟩:=hnewt t' g o' p1 h4;have:=hrel2.injt t1 t2 g o o' s2 u2 s3 u3;subst this;exact as2 t t' t1 s1 u1
     ·intro b t g o h1 h2 h3;have hb:=hbl'n b h1;show m.bl b≠g;rcases htok t h2 with ⟨q1,_,_,q4⟩|⟨q1,_,_⟩
      ·rw[q4] at h3;exact hr.injbt b t g o hb q1 h3
      ·obtain⟨t1,_,s2,s3⟩:=hnewt t g o q1 h3;intro e;cases hl:Gw σ b with
       |none =>
        rcases hfresh' t1 g o s2 s3 with h|h
        ·rw[<-e] at h;exact apart_b b hb hl o (hI _ o h)
        ·have:=hr.own_b (b:=b) hb;omega
       |some k =>
        cases hK:blk (Aby σ nw st.bl) b with
        |none=>exact absurd hK h1
        |some K =>
         rcases hbl' b K hK with ⟨h5,_⟩|⟨k',h5,_,h6⟩
         ·rw[hl] at h5;cases h5
         ·rw[hl] at h5;simp[Za1] at h5;subst h5;obtain⟨_,u2⟩:=hnwk b k K hl h6;obtain⟨_,u4,_⟩:=hVB2 (vx cx m' (fs st') w') _ ⟨rfl,e2.symm⟩ hfxs hshE.split.1 r3 k K (by rw[F3];exact h6);exact hrel2.injbt k t1 g o u4 s2 s3 (u2.trans e)
     ·intro b i hf;rcases hfp' b i hf with h|⟨t1,o,h1,h2,h3⟩
      ·exact⟨Zx1 (hr.own b i h).1 hch.size,.inl h⟩
      ·obtain⟨q1,q2⟩:=hfresh t1 b o h1 h2;exact⟨q1,q2.imp (λh=>up b o i h h3) id⟩
     ·cases hb:Nat.beq so.n so.vars.length with|true =>rw[<-hVAus (Zl1 hb)];exact Gl r1|false=>exact(show Rep _ .junk _ by simp[Rep])
    ·cases hdec
  ·cases hc
 ·cases hc
def Cv(sg so:Sig)(F:HV sg.sgs->Option (HV so.sgs))(args:List D)(st:St)(K:D->List Nat->St->Option R):Option R:=Aj sg so F args st λrs st'=>K (Eh rs) ((Em (Bj 0 args) sg.fix).map (·.1)) st'
def A2x(st:St):St:=⟨0,[],0,0,[],st.bl,st.nb,st.tk,st.nt,[]⟩
theorem Aer(sg so:Sig)(F:HV sg.sgs->Option (HV so.sgs))(args:List D)(st:St)(K:List D->St->Option R):Aj sg so F args st K=(Aj sg so F args (A2x st) λrs st'=>some (rs,st')).bind λx=>K x.1 { st with bl:=x.2.bl,tk:=x.2.tk,nt:=x.2.nt }:=by
 unfold Aj;have e:∀ σ,K3 sg σ args (A2x st)=K3 sg σ args st:=λ_=>rfl;rw[e];show(match(Aou (Em (Bj 0 args) sg.fix)&&(Em (Bj 0 args) sg.fix).all (λp=>Nat.blt p.2 sg.nb)&&so.bl.all (λp=>Bdq (Em (Bj 0 args) sg.fix) st.nb p.2)),K3 sg (Em (Bj 0 args) sg.fix) args st with|true,some st0=>_|_,_=>_)=(match(Aou (Em (Bj 0 args) sg.fix)&&(Em (Bj 0 args) sg.fix).all (λp=>Nat.blt p.2 sg.nb)&&so.bl.all (λp=>Bdq (Em (Bj 0 args) sg.fix) st.nb p.2)),K3 sg (Em (Bj 0 args) sg.fix) args st with|true,some st0=>_|_,_=>_:Option (List D×St)).bind _;cases (Aou (Em (Bj 0 args) sg.fix)&&(Em (Bj 0 args) sg.fix).all (λp=>Nat.blt p.2 sg.nb)&&so.bl.all (λp=>Bdq (Em (Bj 0 args) sg.fix) st.nb p.2)) with
 |false=>rfl
 |true =>
  cases K3 sg (Em (Bj 0 args) sg.fix) args st with
  |none=>rfl
  |some st0 =>
   simp only;cases Hs sg st0 with
   |none=>rfl
   |some x =>simp only;cases F x with|none=>rfl|some r=>rfl
theorem Bsx{s:FS}{st:St}(hW:C0 s (fs st)){m:Mp}{a:Act}{as_:List Act}{w:World}(hr:Rel cx m a as_ s w):∃st2:St,fs st2=s/\A2x st2=A2x st:=by
 have key:∀(n lo k:Nat),get ((List.range' lo n).filterMap λk=>(s.env k).map λd=>(k,d)) k=if lo<=k/\k<lo+n then s.env k else none:=by
  intro n;induction n with
  |zero=>intro lo k;simp only[List.range'_zero,List.filterMap_nil,get];rw[if_neg (by omega)]
  |succ n ih =>
   intro lo k;rw[List.range'_succ,List.filterMap_cons];cases hd:s.env lo with
   |none =>
    simp[Option.map_none];rw[ih];by_cases hk:k=lo
    ·subst hk;rw[if_neg (by omega),if_pos (by omega),hd]
    ·by_cases h:lo<=k/\k<lo+(n+1)
     ·rw[if_pos h,if_pos (by omega)]
     ·rw[if_neg h,if_neg (by omega)]
   |some d =>
    simp[Zl2,B8];rw[ih];by_cases hk:k=lo
    ·subst hk;rw[if_pos rfl,if_pos (by omega),hd]
    ·rw[if_neg hk];by_cases h:lo<=k/\k<lo+(n+1)
     ·rw[if_pos h,if_pos (by omega)]
     ·rw[if_neg h,if_neg (by omega)]
 refine⟨⟨s.n,(List.range' 0 s.n).filterMap λk=>(s.env k).map λd=>(k,d),s.lb,s.lt,s.fr,st.bl,st.nb,st.tk,st.nt,s.df⟩,?_,rfl⟩;obtain⟨h1,h2,h3,h4⟩:=hW;refine FS.eq rfl ?_ rfl rfl rfl h1.symm h2.symm h3.symm h4.symm;funext k;show get _ k=s.env k;rw[key];by_cases hk : 0<=k/\k<0+s.n
 ·rw[if_pos hk]
 ·rw[if_neg hk];cases hd:s.env k with|none=>rfl|some d =>obtain⟨v,hv,_⟩:=hr.env.get k d hd;have h5:=(Zh2.1 hv).1;rw[hr.env.size] at h5;omega
theorem Bp2{g:Nat}{sg so:Sig}{F:HV sg.sgs->Option (HV so.sgs)}(h:FnLn cx.P cx.el cx.gl g sg so F)(hok:lnB sg so=true):F0 (R:=R) cx g (Cv sg so F):=by
 intro args st K r hc;have hc0:=hc;unfold Cv at hc;rw[Aer] at hc;cases hx:Aj sg so F args (A2x st) λrs st'=>some (rs,st') with
 |none=>rw[hx] at hc;cases hc
 |some x =>
  obtain⟨rs,sx⟩:=x;rw[hx] at hc;simp at hc;have hkeep:∀b,b∉(Em (Bj 0 args) sg.fix).map (·.1)->blk sx.bl b=blk st.bl b:=by
   unfold Aj at hx;split at hx
   ·split at hx
    ·rename_i x0 hx0;cases hF:F x0 with
     |none=>rw[hF] at hx;cases hx
     |some r0 =>rw[hF,Zc1] at hx;simp at hx;obtain⟨_,rfl⟩:=hx;intro b hb;show blk (Aby _ _ st.bl) b=_;rw[Al5];cases hl:Gw (Em (Bj 0 args) sg.fix) b with|none=>rfl|some k=>exact absurd (List.mem_map.2 ⟨(b,k),P3 hl,rfl⟩) hb
    ·cases hx
   ·cases hx
  refine⟨_,_,_,hc,⟨rfl,rfl,rfl,rfl,rfl⟩,Zn1 _,λb hb=>⟨λk hk=>(hkeep b hb).trans hk,λk hk _=>(hkeep b hb).symm.trans hk⟩,h.enters,λs m a as_ w vs hW hr hargs =>?_⟩;obtain⟨st2,e1,e2⟩:=Bsx hW hr;have h2:Aj sg so F args st2 (λrs st'=>some (rs,st'))=some (rs,{ st2 with bl:=sx.bl,tk:=sx.tk,nt:=sx.nt }):=by rw[Aer,e2,hx];rfl
  have h3:=(Apc h hok h2).2 m a as_ w vs (by rw[e1];exact hr) (by rw[e1];exact hargs);refine h3.mono ?_;rintro en w' ⟨v,k1,rs',st',m',k2,_,k4,k5⟩;simp at k2;obtain⟨rfl,rfl⟩:=k2;have e3:fs { st2 with bl:=sx.bl,tk:=sx.tk,nt:=sx.nt }=D3 (fs { st with bl:=sx.bl,tk:=sx.tk,nt:=sx.nt }) s:=by
   have hnb:(A2x st2).nb=(A2x st).nb:=by rw[e2]
   refine FS.eq ?_ ?_ ?_ ?_ ?_ rfl hnb rfl rfl (by rw[<-e1];rfl)
   ·rw[<-e1];rfl
   ·rw[<-e1];rfl
   ·rw[<-e1];rfl
   ·rw[<-e1];rfl
   ·rw[<-e1];rfl
  rw[e3] at k4 k5;exact⟨v,k1,m',k4,k5⟩
end
abbrev FL(sg so:Sig):=HV sg.sgs->Option (HV so.sgs)
section
variable {R:Type}
def Bsz(gs:List Sg)(st:St)(rs:List D)(K:List D->St->Option R):Option R:=match gs with|[]=>K rs st|_::_=>Alt gs st rs K
theorem Bm7{cx:Cx}{a:Act}{as_:List Act}{w:World}{r:R}{sr:List Sg}{m:Mp}{ds:List D}{st:St}{vs:List Value}{K:List D->St->Option R}(hr:Rel cx m a as_ (fs st) w)(hd:Reps (vx cx m (fs st) w) ds vs)(h:Bsz sr st ds K=some r):∃ds' st' m',K ds' st' = some r/\Rel cx m' a as_ (fs st') w/\Nx (vx cx m (fs st) w) (vx cx m' (fs st') w)/\Reps (vx cx m' (fs st') w) ds' vs:=by cases sr with|nil=>exact⟨ds,st,m,h,hr,⟨Chg.refl _ _,λ_ _ h =>.inl h,rfl,λ_ _=>rfl,Zn1 _,Zn1 _,λt _ ha=>⟨ha,rfl,λ_ _ _=>rfl⟩⟩,hd⟩|cons s l=>exact Agc hr hd h
def Anx(px:Px R)(fn:Func)(sg so:Sig)(x:HV sg.sgs)(fin:HV so.sgs->Option R):Option R:=match fn.body with
 |some c=>H5 px c { Dp sg [E0 sg] x with n:=fn.ntmps } λe st=>match e with
  |.exit _=>none
  |_=>match st.df,results px st fn.results.toList with
   |[],some rs=>Bsz (so.vars.map (·.2)) st rs λrs' st'=>match Hs so { st' with n:=rs'.length,env:=Bj 0 rs' } with|some r=>fin r|none=>none
   |_,_=>none
 |none=>none
theorem Bjf{s:Sig}{st:St}{x:HV s.sgs}(h:Hs s st=some x):st.df=[]:=by
 unfold Hs at h;split at h
 ·rename_i hc;simp only[Zb1] at hc;exact List.isEmpty_iff.1 hc.1.2
 ·cases h
theorem Bo6(sg:Sig)(fr:List Fr)(x:HV sg.sgs):(Dp sg fr x).n=sg.n:=by unfold Dp;rfl
theorem Az7(sg:Sig)(fr:List Fr)(x:HV sg.sgs):(Dp sg fr x).fr=fr:=by unfold Dp;rfl
theorem Bk5{cx:Cx}{m m':Mp}{s s':FS}{w w':World}{sg:Sig}{af:Act}{lb lt lb' lt':Nat}(h:Afr (vx cx m s w) lb lt [E0 sg] [af])(h':Afr (vx cx m' s' w') lb' lt' [E0 sg] [af]){k:Nat}(hk:(sg.bl.map (·.1)).contains k=true):m'.bl k=m.bl k/\k<lb':=by obtain⟨a,r,e,_,_,h1,_⟩:=h;obtain⟨rfl,_⟩:=e;obtain⟨a',r',e',_,_,h2,_⟩:=h';obtain⟨rfl,_⟩:=e';obtain⟨v,hv,hr⟩:=h1.get k _ (Y5 hk);obtain⟨v',hv',hr'⟩:=h2.get k _ (Y5 hk);rw[hv] at hv';simp at hv';subst hv';obtain⟨_,rfl⟩:=hr;obtain⟨h3,h4⟩:=hr';simp only[Value.pointer.injEq,Za1,Addr.mk.injEq] at h4;exact⟨h4.1.symm,h3⟩
theorem A73{P:Program}{el:Ck->TypeId}{gl:Nat->Option Gv}{f:FuncId}{fn:Func}{c:Code}{sg so:Sig}{px:Px (HV so.sgs)}{F:FL sg so}(hf:P.funcs[f]? = some fn)(hb:fn.body=some c)(hname:(fn.name == "runtime.NumGoroutine")=false)(hm:P.follows .mixedOrders=true)(hchk:(D6 fn.ntmps c&&Nat.ble sg.n fn.ntmps)=true)
  (hpx:∀cx:Cx,cx.P=P->cx.el=el->cx.gl=gl->PxOk cx px/\Dh cx px/\CallQOk cx px/\∀b,b∈Bl c->B3 cx px b) (hF:∀x,Anx px fn sg so x some=F x):FnLn P el gl f sg so F:=by
 refine⟨Sx.enters_of hf (by rw[hb];rfl) hname,λx r hx _ cx m vs af w e1 e2 e3 hr =>?_⟩;subst e1 e2 e3;simp only[Zb1] at hchk;have hle:sg.n<=fn.ntmps:=Nat.le_of_ble_eq_true hchk.2;have hlen:vs.length=sg.n:=by have:=hr.env.size;have e:(fs (Dp sg [E0 sg] x)).n=sg.n:=Bo6 sg [E0 sg] x;rw[e] at this;simpa using this
 have hrel:Rel cx m { tmps:=vs.toArray++Array.replicate (fn.ntmps-vs.toArray.size) undef,defers:=[] } [af] (fs { Dp sg [E0 sg] x with n:=fn.ntmps }) w:=by
  refine⟨hr.chg,⟨rfl,?_,λk d hk =>?_⟩,hr.frs,hr.lb,hr.lt,hr.blks,hr.als,hr.inj,hr.injt,hr.injbt,hr.own,hr.away,hr.glb⟩
  ·show _=fn.ntmps;simp;omega
  ·obtain⟨v,h2,h3⟩:=hr.env.get k d hk;refine⟨v,?_,h3⟩;have hlt:k<vs.length:=by simpa using (Zh2.1 h2).1
   simp only[Array.getElem?_append,List.size_toArray,hlt];exact h2
 rw[<-hF] at hx;unfold Anx at hx;rw[hb] at hx;simp only at hx;obtain⟨h1,h2,h3,h4⟩:=hpx cx rfl rfl rfl;refine calls_of_wp hf hb (B4 h1 h2 h3 hm c _ _ r hchk.1 h4 hx _ m _ [af] w hrel ?_);intro e st' m' a' w' hk hsame hrel';have hfr:(fs st').fr=[E0 sg]:=hsame.2.trans (Az7 sg [E0 sg] x);have hfr0:(fs (Dp sg [E0 sg] x)).fr=[E0 sg]:=Az7 sg [E0 sg] x;cases e
 case exit=>cases hk
 all_goals
  simp only at hk;split at hk
  ·rename_i rs0 hdf hrs;obtain⟨us,hrun,hreps0⟩:=D1 h1 hrel' hrs;obtain⟨rs,st2,m2,hk,hrel1,nx,hreps⟩:=Bm7 hrel' hreps0 hk;split at hk
   ·rename_i r' hr';simp at hk;subst hk;refine⟨hrel'.noDf hdf,Sx.resv us,?_,us,_,m2,rfl,λk hk =>?_,hr',?_⟩
    ·obtain⟨rl⟩:∃rl,fn.results=List.toArray rl:=⟨fn.results.toList,by simp⟩;rename_i hrl;rw[Sx.results_eq,hrl];rw[hrl] at hrun;simp only[List.mapM_toArray,Sem.run_bind,map_eq_pure_bind,hrun];congr 1;match us with|[]=>rfl|[v]=>rfl|_::_::_=>simp[Sx.resv]
    ·have q1:=hr.frs;have q2:=hrel'.frs;rw[hfr0] at q1;rw[hfr] at q2;obtain⟨q3,q4⟩:=Bk5 q1 q2 hk;exact(nx.bl k (Zx1 q4 hrel'.lb)).trans q3
    ·have hn:us.length=rs.length:=hreps.len;refine⟨hrel1.chg,⟨(by have h9:=Bjf hr';simp only at h9;show Amt _ st2.df _;rw[h9];rfl),(by simpa using hn:us.toArray.size=rs.length),λk d hk =>?_⟩,hrel1.frs,hrel1.lb,hrel1.lt,hrel1.blks,hrel1.als,hrel1.inj,hrel1.injt,hrel1.injbt,hrel1.own,hrel1.away,hrel1.glb⟩;obtain⟨v,_,p2,p3⟩:=G7 0 k d hreps hk;exact⟨v,by simpa using p2,p3⟩
   ·cases hk
  ·cases hk
theorem Bf2{P:Program}{el:Ck->TypeId}{gl:Nat->Option Gv}{f:FuncId}{fn:Func}{c:Code}{sg so:Sig}{px:Px (HV so.sgs)}{F:FL sg so}{n:Nat}(hf:P.funcs[f]? = some fn)(hb:fn.body=some c)(hname:(fn.name == "runtime.NumGoroutine")=false)(hm:P.follows .mixedOrders=true)(hchk:(Q9 fn&&Nat.ble sg.n fn.ntmps)=true)(hn:Ks fn=n)
  (hpx:∀cx:Cx,cx.P=P->cx.el=el->cx.gl=gl->PxOk cx px/\Dh cx px/\CallQOk cx px/\∀i,i<n->B3 cx px (lp fn i)) (hF:∀x,Anx px fn sg so x some=F x):FnLn P el gl f sg so F:=by
 refine A73 hf hb hname hm ?_ (λcx h1 h2 h3 =>?_) hF
 ·unfold Q9 at hchk;rw[hb] at hchk;exact hchk
 ·obtain⟨q1,q2,q3,q4⟩:=hpx cx h1 h2 h3;exact⟨q1,q2,q3,Ah0 hb hn q4⟩
end
section
variable {P:Program}{el:Ck->TypeId}{gl:Nat->Option Gv}{f:FuncId}{sg so:Sig}
theorem FnLn.fin{ι:Type}{F : ι->FL sg so}{G:FL sg so}(i0 : ι)(h:∀i,FnLn P el gl f sg so (F i))(hG:∀x r,BdL sg.sgs x->G x=some r->∃i,F i x=some r):FnLn P el gl f sg so G :=⟨(h i0).enters,λx r hx hb cx m vs af w h1 h2 h3 h4=>by obtain⟨i,hi⟩:=hG x r hb hx;exact(h i).run x r hi hb cx m vs af w h1 h2 h3 h4⟩
theorem FnLn.fin0{F G:FL sg so}(h:FnLn P el gl f sg so F)(hG:∀x r,BdL sg.sgs x->G x=some r->F x=some r):FnLn P el gl f sg so G :=.fin () (λ_=>h) λx r hb hx=>⟨(),hG x r hb hx⟩
theorem FnLn.none(he:Sx.Enters P f):FnLn P el gl f sg so (λ_ =>.none):=⟨he,λ_ _ h=>by cases h⟩
theorem FnLn.rec'{body:FL sg so->FL sg so}(he:Sx.Enters P f)(h:∀rf,FnLn P el gl f sg so rf->FnLn P el gl f sg so (body rf)):∀n,FnLn P el gl f sg so (Ak body n)
 |0=>FnLn.none he
 |n+1=>h _ (FnLn.rec' he h n)
end
def Acr{R:Type}(nb nt:Nat)(pc:Px R)(fn:Func)(G:Gx R)(args:List D)(st:St)(K:List D->St->Option R):Option R:=match Nat.ble args.length fn.ntmps&&Nat.ble st.nb nb&&Nat.ble st.nt nt with
 |true=>Ary pc fn args { st with nb:=nb,nt:=nt } K
 |false=>G args st K
theorem Bgb{R:Type}{cx:Cx}{g nb nt:Nat}{pc:Px R}{fn:Func}{G:Gx R}(h1:G2 cx g (Aq nb nt pc fn))(h2:G2 cx g G):G2 cx g (Acr nb nt pc fn G):=by
 intro args st K r hc;unfold Acr at hc;split at hc
 ·rename_i hn;exact h1 args st K r (by unfold Aq;rw[hn];exact hc)
 ·exact h2 args st K r hc
def A3h{R:Type}(Ts:List Nat)(args:List D)(st:St)(K:List D->St->Option R):Option R:=match args with
 |[.ptr b 0]=>match blk st.bl b with
  |some (.bld T _)=>match Ts.contains T with|true=>K [] st|false=>none
  |_=>none
 |_=>none
theorem Btn{R:Type}{cx:Cx}{g:Nat}{Ts:List Nat}(he:Sx.Enters cx.P g)(hcc:∀T,T∈Ts->∀(b:Nat) (w:World) (a v:Value),w.heap[b]? = some (.cells #[a,v] T (0,0))->(a = .pointer none\/a = .pointer (some ⟨b,0,none⟩))->Calls cx.P g #[.pointer (some ⟨b,0,none⟩)] w λe w'=>e = .returned (.tuple #[])/\(w' = w\/w' = w.setCell ⟨b,0,none⟩ (.pointer (some ⟨b,0,none⟩)))):G2 (R:=R) cx g (A3h Ts):=by
 intro args st K r hc;refine⟨he,λm a as_ w vs hr hargs =>?_⟩;unfold A3h at hc;split at hc
 ·rename_i b;split at hc
  ·rename_i T d hb;split at hc
   ·rename_i hT;simp only[Reps] at hargs;obtain⟨u,us,rfl,⟨_,rfl⟩,rfl⟩:=hargs;obtain⟨hd,a0,v0,hh,ha,hrep⟩:=(hr.blks b _ hb).2;have hh:w.heap[m.bl b]? = some (.cells #[a0,v0] T (0,0)):=hh;refine(hcc T (by simpa using hT) (m.bl b) w a0 v0 hh ha).mono ?_;rintro en w' ⟨rfl,h|h⟩
    ·subst h;exact⟨_,rfl,[],st,m,hc,⟨rfl,rfl,rfl,rfl,rfl⟩,hr,by simp[Eh,Rep,Reps]⟩
    ·have h2:w'.heap[m.bl b]? = some (.cells #[.pointer (some ⟨m.bl b,0,none⟩),v0] T (0,0)):=by rw[h];simp only[World.setCell,Array.getElem?_modify];rw[hh];rfl
     have hch:Chg (λc _=>c=m.bl b) w w':=by subst h;refine⟨rfl,rfl,rfl,by simp,λk _ hn=>Below.heap_setCell _ _ _ _ (λe=>hn 0 e),λb' i v hv hn =>?_,Tz _ _ _⟩;rw[World.cell?_of_block (a:=⟨b',i,none⟩) (Below.heap_setCell _ _ _ _ (λe=>hn e))];exact hv
     have hrel:=hr.write (k :=.bld T d) (show(fs st).bl b=some (.bld T d) from hb) hch (λx' nx hw=>⟨hd,_,v0,by rw[hw];exact h2,.inr rfl,Rep.later nx _ _ hrep⟩);have hsame:({ fs st with bl:=λc=>if c=b then some (.bld T d) else(fs st).bl c }:FS)=fs st:=by
      refine FS.eq rfl rfl rfl rfl rfl ?_ rfl rfl rfl;funext c;by_cases hcb:c=b
      ·subst hcb;simp;exact hb.symm
      ·simp[if_neg hcb]
     rw[hsame] at hrel;exact⟨_,rfl,[],st,m,hc,⟨rfl,rfl,rfl,rfl,rfl⟩,hrel,by simp[Eh,Rep,Reps]⟩
   ·cases hc
  ·cases hc
 ·cases hc
theorem Bs3{R:Type}{cx:Cx}{g:Nat}{sg so:Sig}{F:FL sg so}(h:FnLn cx.P cx.el cx.gl g sg so F)(hok:lnB sg so=true):G2 (R:=R) cx g (Aj sg so F):=λ_ _ _ _ hc=>Apc h hok hc
def trim(n:Nat)(e:Env):Env:=(List.range n).filterMap λk=>match get e k with|some d=>some (k,d)|none=>none
section
variable {R:Type}
def Ajw(fns:Nat->Option Func)(px:Px R):List D->St->(St->Option R)->Option R
 |[],st,K=>K st
 |.ptr b _::l,st,K=>match blk st.bl b with
  |some (.ob 0)=>Ajw fns px l { st with bl:=Ge st.bl b (.ob 2),df:=l } K
  |_=>none
 |.fn f caps::l,st,K=>match fns f with
  |some fn=>match fn.body with
   |some c=>match Nat.ble caps.length fn.ntmps with
    |true=>H5 px c { st with n:=fn.ntmps,env:=Bj 0 caps,lb:=st.nb,lt:=st.nt,fr:=⟨st.n,st.env,st.lb,st.lt,l⟩::st.fr,df:=[] } λe st'=>match e with
     |.exit _=>none
     |_=>match st'.df,results px st' fn.results.toList,st'.fr with
      |[],some _,fr0::fr=>Ajw fns px l { st' with n:=fr0.n,env:=fr0.env,lb:=fr0.lb,lt:=fr0.lt,fr:=fr,df:=fr0.df } K
      |_,_,_=>none
    |false=>none
   |none=>none
  |none=>none
 |_,_,_=>none
def Azd(bl:List (Nat×Blk)):List D->(List D->List (Nat×Blk)->Option R)->Option R
 |[],K=>K [] bl
 |.agg ds::l,K=>Bg9 bl ds λds' bl'=>Azd bl' l λl' bl2=>K (.agg ds'::l') bl2
 |d::l,K=>Azd bl l λl' bl2=>K (d::l') bl2
def A1a(fns:Nat->Option Func)(px:Px R)(fn:Func)(args:List D)(st:St)(K:List D->St->Option R):Option R:=match fn.body,Nat.ble args.length fn.ntmps with
 |some c,true=>Azd st.bl args λargs' bl'=>H5 px c { st with n:=fn.ntmps,env:=Bj 0 args',lb:=st.nb,lt:=st.nt,fr:=⟨st.n,st.env,st.lb,st.lt,st.df⟩::st.fr,bl:=bl',df:=[] } λe st'=>match e with
  |.exit _=>none
  |_=>Ajw fns px st'.df st' λst2=>match results px st2 fn.results.toList,st2.fr with
   |some rs,f::fr=>Azd st2.bl rs λrs' bl2=>K rs' { st2 with n:=f.n,env:=f.env,lb:=f.lb,lt:=f.lt,fr:=fr,bl:=bl2,df:=f.df }
   |_,_=>none
 |_,_=>none
def A49:D->Bool
 |.bool _|.int _ _|.str _|.nilp|.gp _|.nilfn|.ep _ _ _=>true
 |.sl _ _ t=>match t with|.id _=>false|_=>true
 |_=>false
def A8n:D->Bool
 |.sv _ _|.undef=>true
 |.agg ds=>ds.all A49
 |d=>A49 d
def G9:D->D
 |.agg ds =>.agg (ds.map Gu)
 |d=>Gu d
def Bqu(fns:Nat->Option Func)(px:Px (List D))(fn:Func)(args:List D):Option (List D):=match fn.body,(args.map G9).all A8n&&Nat.ble args.length fn.ntmps with
 |some c,true=>H5 px c ⟨fn.ntmps,Bj 0 (args.map G9),0,0,[],[],0,[],0,[]⟩ λe st=>match e with
  |.exit _=>none
  |_=>Ajw fns px st.df st λst2=>match results px st2 fn.results.toList with
   |some rs=>Bdr st2.bl rs λrs' _=>match(rs'.map G9).all A8n with|true=>some (rs'.map G9)|false=>none
   |none=>none
 |_,_=>none
end
def co(tt:Nat->Ty)(gl:Nat->Option Gv)(fns:Nat->Option Func)(tb:(R:Type)->Nat->Option (Gx R))(tq:(R:Type)->Nat->Option (Fw R))(sw:Nat->Option (Sig×Sig)):Nat->(R:Type)->Px R
 |0,_=>⟨tt,gl,λ_ _ _ _=>none,λ_ _ _=>none,λ_ _ _=>none,λ_=>none⟩
 |n+1,R=>⟨tt,gl,
  λg args st K=>match tb R g with
   |some f=>f args st K
   |none=>match fns g with
    |some fn=>A1a fns (co tt gl fns tb tq sw n R) fn args st K
    |none=>none,
  λg args K=>match tq R g with
   |some f=>f args K
   |none=>match fns g with
    |some fn=>match Bqu fns (co tt gl fns tb tq sw n (List D)) fn args with|some rs=>K rs|none=>none
    |none=>none,
  λb st K=>H5 (co tt gl fns tb tq sw n R) b { st with env:=trim st.n st.env } λe st'=>match e with
   |.normal=>(co tt gl fns tb tq sw n R).loop b st' K
   |e=>K e st',
  λg=>match sw g,fns g with
   |some (si,so),some fn=>match Nat.ble si.n fn.ntmps with|true=>some (Cv si so (λx=>Anx (co tt gl fns tb tq sw n (HV so.sgs)) fn si so x some))|false=>none
   |_,_=>none⟩
theorem Bi1{e:Env}{n k:Nat}{d:D}(h:get (trim n e) k=some d):get e k=some d:=by
 have key:∀l:Env,(∀p,p∈l->get e p.1=some p.2)->get l k=some d->get e k=some d:=by
  intro l;induction l with
  |nil=>intro _ h;simp[get] at h
  |cons p l ih =>
   intro hp h;obtain⟨k0,v0⟩:=p;rw[B8] at h;by_cases hk:k=k0
   ·subst hk;simp at h;subst h;exact hp _ Zr1
   ·rw[if_neg hk] at h;exact ih (λp hp'=>hp p (Zu1 _ hp')) h
 refine key _ (λp hp =>?_) h;unfold trim at hp;obtain⟨q,_,hq⟩:=List.mem_filterMap.1 hp;cases hg:get e q with|none=>rw[hg] at hq;cases hq|some v=>rw[hg] at hq;simp at hq;subst hq;exact hg
section
variable {R:Type}{cx:Cx}
theorem Rel.trim{m:Mp}{a:Act}{as_:List Act}{st:St}{w:World}(hr:Rel cx m a as_ (fs st) w):Rel cx m a as_ (fs { st with env:=trim st.n st.env }) w :=⟨hr.chg,⟨hr.env.defers,hr.env.size,λk d hk=>hr.env.get k d (Bi1 hk)⟩,hr.frs,hr.lb,hr.lt,hr.blks,hr.als,hr.inj,hr.injt,hr.injbt,hr.own,hr.away,hr.glb⟩
theorem Aqj{x x':Vx}(hS:∀b j,x'.S b j->x.S b j)(hw:x'.w=x.w){d:D}{v:Value}(hb:A49 d=true)(h:Rep x d v):Rep x' d v:=by
 have hrf:∀{d:D}{v:Value},RF x.S x.w d v->RF x'.S x'.w d v:=λh=>by rw[hw];exact h.later (Chg.refl _ _) (λk j hk =>.inl (hS k j hk))
 cases d with
 |sl c xs t =>simp only[Rep] at h ⊢;refine⟨hrf h.1,?_⟩;cases t with|id t=>cases hb|_=>exact h.2
 |ep c y off =>simp only[Rep] at h ⊢;obtain⟨b,o,hv,hr⟩:=h;exact⟨b,o,hv,λw' hc=>hr w' (by rw[<-hw];exact hc.mono hS)⟩
 |bool b=>simpa only[Rep] using h
 |int k n=>simpa only[Rep] using h
 |str l=>simpa only[Rep] using h
 |nilp=>simpa only[Rep] using h
 |gp g=>simpa only[Rep] using h
 |nilfn=>simpa only[Rep] using h
 |_=>cases hb
theorem Ai8{x x':Vx}(hS:∀b j,x'.S b j->x.S b j)(hw:x'.w=x.w):∀{ds:List D}{vs:List Value},ds.all A49=true->Reps x ds vs->Reps x' ds vs
 |[],_,_,h=>by simpa[Reps] using h
 |d::ds,vs,hb,h=>by simp only[Zv1,Zb1] at hb;obtain⟨u,us,e,h1,h2⟩:=h;exact⟨u,us,e,Aqj hS hw hb.1 h1,Ai8 hS hw hb.2 h2⟩
theorem A9c{x x':Vx}(hS:∀b j,x'.S b j->x.S b j)(hw:x'.w=x.w){d:D}{v:Value}(hb:A8n d=true)(h:Rep x d v):Rep x' d v:=by
 have hrf:∀{d:D}{v:Value},RF x.S x.w d v->RF x'.S x'.w d v:=λh=>by rw[hw];exact h.later (Chg.refl _ _) (λk j hk =>.inl (hS k j hk))
 cases d with|sv c y =>simp only[Rep] at h ⊢;obtain⟨ha,vs,hv,hl,hr⟩:=h;exact⟨ha,vs,hv,hl,λj d hd=>by obtain⟨u,hu,hf⟩:=hr j d hd;exact⟨u,hu,hrf hf⟩⟩|undef=>simpa only[Rep] using h|agg ds =>simp only[Rep] at h ⊢;obtain⟨h1,vs,hv,h2⟩:=h;exact⟨h1,vs,hv,Ai8 hS hw hb h2⟩|_=>exact Aqj hS hw hb h
theorem Wv{x x':Vx}(hS:∀b j,x'.S b j->x.S b j)(hw:x'.w=x.w):∀{ds:List D}{vs:List Value},ds.all A8n=true->Reps x ds vs->Reps x' ds vs
 |[],_,_,h=>by simpa[Reps] using h
 |d::ds,vs,hb,h=>by simp only[Zv1,Zb1] at hb;obtain⟨u,us,e,h1,h2⟩:=h;exact⟨u,us,e,A9c hS hw hb.1 h1,Wv hS hw hb.2 h2⟩
theorem Aqi{x:Vx}{d:D}{v:Value}(h:Rep x d v):Rep x (Gu d) v:=by cases d<;>first|exact h|exact Ax6 h
theorem Ajh{x:Vx}:∀{ds:List D}{vs:List Value},Reps x ds vs->Reps x (ds.map Gu) vs
 |[],_,h=>h
 |_::_,_,⟨u,us,e,h1,h2⟩=>⟨u,us,e,Aqi h1,Ajh h2⟩
theorem A18{x:Vx}{d:D}{v:Value}(h:Rep x d v):Rep x (G9 d) v:=by
 cases d with
 |agg ds =>simp only[G9,Rep] at h ⊢;obtain⟨h1,vs,e,h2⟩:=h;refine⟨?_,vs,e,Ajh h2⟩;rw[List.all_map];refine Zg2.2 λd hd =>?_;have:=Zg2.1 h1 d hd;cases d<;>first|rfl|exact this
 |_=>exact Aqi h
theorem Q7{x:Vx}:∀{ds:List D}{vs:List Value},Reps x ds vs->Reps x (ds.map G9) vs
 |[],_,h=>h
 |_::_,_,⟨u,us,e,h1,h2⟩=>⟨u,us,e,A18 h1,Q7 h2⟩
theorem At6(d:D):Gu (G9 d)=G9 d:=by cases d with|sl c xs t=>cases t<;>rfl|_=>rfl
theorem Ag7{x:Vx}{n:Nat}{ds:List D}{vs:List Value}(hr:Reps x ds vs)(hl:vs.length<=n):∀k d,get (Bj 0 ds) k=some d->∃v,(vs.toArray++Array.replicate (n-vs.toArray.size) undef)[k]? = some v/\Rep x d v:=λk d hk=>by obtain⟨v,_,h2,h3⟩:=G7 0 k d hr hk;rw[Nat.sub_zero] at h2;refine⟨v,?_,h3⟩;have hlt:k<vs.length:=(Zi2.1 h2).1;simp only[Array.getElem?_append,List.size_toArray,hlt];simpa using h2
theorem Abh{n:Nat}{vs:List Value}(hl:vs.length<=n):(vs.toArray++Array.replicate (n-vs.toArray.size) undef).size=n:=by simp;omega
theorem As7{fn:Func}{tmps:Array Value}{us:List Value}{w:World}(hrun:Sem.run cx.P (fn.results.toList.mapM (Sx.rdv tmps)) w=Result.ok us w):(_root_.Go.results fn tmps).run cx.P w = .ok (Sx.resv us) w:=by obtain⟨rl⟩:∃rl,fn.results=List.toArray rl:=⟨fn.results.toList,by simp⟩;rename_i hrl;rw[Sx.results_eq,hrl];rw[hrl] at hrun;simp only[List.mapM_toArray,Sem.run_bind,map_eq_pure_bind,hrun];congr 1;match us with|[]=>rfl|[v]=>rfl|_::_::_=>simp[Sx.resv]
theorem Rel.pop{m:Mp}{a a0:Act}{as_:List Act}{st:St}{f:Fr}{fr:List Fr}{w:World}(hr:Rel cx m a (a0::as_) (fs st) w)(hfr:st.fr=f::fr):Rel cx m a0 as_ (fs { st with n:=f.n,env:=f.env,lb:=f.lb,lt:=f.lt,fr:=fr,df:=f.df }) w:=by have hfrs:=hr.frs;rw[show(fs st).fr=f::fr from hfr] at hfrs;obtain⟨a1,r1,he0,h1,h2,h3,h4⟩:=hfrs;simp at he0;obtain⟨rfl,rfl⟩:=he0;have hx:Nx { vx cx m (fs st) w with nb:=(fs st).lb,nt:=(fs st).lt } (vx cx m (fs st) w):=⟨Chg.refl _ _,λ_ _ h =>.inl h,rfl,λ_ _=>rfl,hr.lb,hr.lt,λt _ ha=>⟨ha,rfl,λ_ _ _=>rfl⟩⟩;exact⟨hr.chg,h3.later hx,h4,Nat.le_trans h1 hr.lb,Nat.le_trans h2 hr.lt,hr.blks,hr.als,hr.inj,hr.injt,hr.injbt,hr.own,hr.away,hr.glb⟩
def Lv1(cx:Cx)(px:Px R):Prop:=PxOk cx px/\Dh cx px/\CallQOk cx px/\∀b,B3 cx px b
def Ait(P:Program)(fns:Nat->Option Func):Prop:=∀g fn,fns g=some fn->P.funcs[g]? = some fn/\(fn.name == "runtime.NumGoroutine")=false/\∃c,fn.body=some c/\D6 fn.ntmps c=true
theorem Ait.all{P:Program}{fns:Nat->Option Func}(h:Ait P fns)(g:Nat)(fn:Func)(hg:fns g=some fn):P.funcs[g]? = some fn/\(fn.name == "runtime.NumGoroutine")=false/\∀c,fn.body=some c->D6 fn.ntmps c=true:=by obtain⟨h1,h2,c0,h3,h4⟩:=h g fn hg;exact⟨h1,h2,λc hc=>by rw[h3] at hc;simp only[Za1] at hc;rw[<-hc];exact h4⟩
theorem Zz{fns:Nat->Option Func}(hfns:Ait cx.P fns){px:Px R}(hpx:Lv1 cx px)(hm:cx.P.follows .mixedOrders=true){fn:Func}{as_:List Act}{K:St->Option R}{r:R}{Rr:Ending->World->Prop}{tmps:Array Value} :
  ∀(df:List D) (st:St),st.df=df->Ajw fns px df st K=some r->∀(m:Mp) (dds:List Deferred) (w:World),Rel cx m ⟨tmps,dds⟩ as_ (fs st) w ->
   (∀st2 m2 w2,K st2=some r->(st2.n=st.n/\st2.fr=st.fr)->Rel cx m2 ⟨tmps,[]⟩ as_ (fs st2) w2->∃v,(_root_.Go.results fn tmps).run cx.P w2 = .ok v w2/\Rr (.returned v) w2) ->
   LeavesInM Fence.wide 0 cx.P fn tmps Rr dds .returning w
 |[],st,hdf,h,m,dds,w,hr,hfin=>by have hd:dds=[]:=hr.noDf hdf;subst hd;exact hfin st m w h ⟨rfl,rfl⟩ hr
 |d::l,st,hdf,h,m,dds,w,hr,hfin=>by
  have hd:=hr.env.defers;rw[show(fs st).df=d::l from hdf] at hd;obtain⟨dd,rest,e,h1,h2⟩:=hd;simp only at e;subst e;refine⟨by simp,?_⟩;cases d with
  |ptr b c =>
   left;simp only[Ajw] at h;split at h
   ·rename_i hb;obtain⟨_,_,_,rfl⟩:=h1;have hblk:=(hr.blks b (.ob 0) hb).2.1 rfl;have hblk:w.heap[m.bl b]? = some (.deferred (some [])):=hblk;have hr1:=hr.served (o' :=.deferred none) hb hblk (by simp);have hr2:Rel cx m ⟨tmps,rest⟩ as_ (fs { st with bl:=Ge st.bl b (.ob 2),df:=l }) (w.putObj (m.bl b) (.deferred none)):=by have hd2:=hr1.env.defers;rw[show(fs { st with bl:=Ge st.bl b (.ob 2) }).df = .ptr b c::l from hdf] at hd2;obtain⟨_,_,e2,_,h4⟩:=hd2;simp only[Ze2] at e2;obtain⟨_,rfl⟩:=e2;exact⟨hr1.chg,⟨h4,hr1.env.size,hr1.env.get⟩,hr1.frs,hr1.lb,hr1.lt,hr1.blks,hr1.als,hr1.inj,hr1.injt,hr1.injbt,hr1.own,hr1.away,hr1.glb⟩
    exact⟨m.bl b,_,rfl,run_takeDeferred hblk,Zz hfns hpx hm l _ rfl h m rest _ hr2 (λst2 m2 w2 k1 k2 k3=>hfin st2 m2 w2 k1 k2 k3)⟩
   ·cases h
  |fn f caps =>
   right;simp only[Ajw] at h;split at h
   ·rename_i fn' hfn;split at h
    ·rename_i c hb;obtain⟨cvs,rfl,hcaps⟩:=h1;obtain⟨f1,f2,f3⟩:=hfns.all f fn' hfn;have hent:=Sx.enters_of f1 (by rw[hb];rfl) f2;split at h
     ·rename_i hle;have hle:cvs.length<=fn'.ntmps:=by rw[hcaps.len];simpa using hle
      have hr1:Rel cx m ⟨tmps,rest⟩ as_ (fs { st with df:=l }) w:=⟨hr.chg,⟨h2,hr.env.size,hr.env.get⟩,hr.frs,hr.lb,hr.lt,hr.blks,hr.als,hr.inj,hr.injt,hr.injbt,hr.own,hr.away,hr.glb⟩;have hrel:Rel cx m { tmps:=cvs.toArray++Array.replicate (fn'.ntmps-cvs.toArray.size) undef,defers:=[] } (⟨tmps,rest⟩::as_) (fs { st with n:=fn'.ntmps,env:=Bj 0 caps,lb:=st.nb,lt:=st.nt,fr:=⟨st.n,st.env,st.lb,st.lt,l⟩::st.fr,df:=[] }) w :=⟨hr.chg,⟨rfl,Abh hle,Ag7 hcaps hle⟩,⟨_,as_,rfl,hr1.lb,hr1.lt,hr1.env,hr1.frs⟩,Zn1 _,Zn1 _,hr.blks,hr.als,hr.inj,hr.injt,hr.injbt,hr.own,hr.away,hr.glb⟩
      refine⟨(λe=>nomatch e),.func f,cvs.toArray,f,cvs.toArray,rfl,?_,λ_ _=>trivial,?_⟩
      ·have h9:=hent cvs.toArray w;simp[invoke,go_sem];simpa using h9
      ·refine CallsDIn.mono (callsDIn_of_wp (R:=λe w'=>∃v,e = .returned v/\LeavesInM Fence.wide 0 cx.P fn tmps Rr rest .returning w') f1 hb trivial (wpIn_wide.2 (B4 hpx.1 hpx.2.1 hpx.2.2.1 hm c _ _ r (f3 c hb) (λb _=>hpx.2.2.2 b) h _ m _ _ w hrel ?_))) ?_
       ·intro e st' m' a' w' hk hsame hrel';cases e
        case exit=>cases hk
        all_goals
         simp only at hk;split at hk
         ·rename_i rs0 fr0 fr hd0 hrs hfr;have hfr2:st'.fr=⟨st.n,st.env,st.lb,st.lt,l⟩::st.fr:=hsame.2;obtain⟨us,hrun,_⟩:=D1 hpx.1 hrel' hrs;have hpop:=hrel'.pop hfr;rw[hfr2] at hfr;simp only[Ze2] at hfr;obtain⟨rfl,rfl⟩:=hfr;exact⟨hrel'.noDf hd0,_,As7 hrun,_,rfl,Zz hfns hpx hm l _ rfl hk m' rest w' hpop (λst2 m2 w2 k1 k2 k3=>hfin st2 m2 w2 k1 k2 k3)⟩
         ·cases hk
       ·rintro e u' w' ⟨rfl,v,rfl,hl⟩;exact hl
     ·cases h
    ·cases h
   ·cases h
  |_=>exact h1.elim
theorem Afx{m:Mp}{a:Act}{as_:List Act}{w:World}{r:R}:∀{ds:List D}{st:St}{vs:List Value}{K:List D->List (Nat×Blk)->Option R},Rel cx m a as_ (fs st) w->Reps (vx cx m (fs st) w) ds vs->Azd st.bl ds K=some r->∃ds' bl',K ds' bl' = some r/\Rel cx m a as_ (fs { st with bl:=bl' }) w/\Nx (vx cx m (fs st) w) (vx cx m (fs { st with bl:=bl' }) w)/\Reps (vx cx m (fs { st with bl:=bl' }) w) ds' vs
 |[],st,vs,K,hr,hd,h=>⟨[],st.bl,h,hr,⟨Chg.refl _ _,λ_ _ h =>.inl h,rfl,λ_ _=>rfl,Zn1 _,Zn1 _,λt _ ha=>⟨ha,rfl,λ_ _ _=>rfl⟩⟩,by simpa using hd⟩
 |d::ds,st,vs,K,hr,hd,h=>by
  obtain⟨u,us,rfl,h1,h2⟩:=hd;by_cases hag:∃es,d = .agg es
  ·obtain⟨es,rfl⟩:=hag;simp only[Azd] at h;simp only[Rep] at h1;obtain⟨hl,vs1,rfl,h3⟩:=h1;obtain⟨es',bl1,hk,hr1,nx1,hd1,hl1⟩:=Auo hr h3 h;obtain⟨ds',bl2,hk2,hr2,nx2,hds⟩:=Afx (st:={ st with bl:=bl1 }) hr1 (Reps.later nx1 _ _ h2) hk;exact⟨.agg es'::ds',bl2,hk2,hr2,nx1.trans nx2,⟨_,us,rfl,by simp only[Rep];exact⟨hl1 hl,vs1,rfl,Reps.later nx2 _ _ hd1⟩,hds⟩⟩
  ·have e:Azd st.bl (d::ds) K=Azd st.bl ds λl' bl2=>K (d::l') bl2:=by cases d<;>first|rfl|exact absurd ⟨_,rfl⟩ hag
   rw[e] at h;obtain⟨ds',bl2,hk2,hr2,nx2,hds⟩:=Afx hr h2 h;exact⟨d::ds',bl2,hk2,hr2,nx2,⟨u,us,rfl,Rep.later nx2 _ _ h1,hds⟩⟩
theorem Ba2{fns:Nat->Option Func}(hfns:Ait cx.P fns){px:Px R}(hpx:Lv1 cx px)(hm:cx.P.follows .mixedOrders=true){g:Nat}{fn:Func}(hfn:fns g=some fn){args:List D}{st:St}{K:List D->St->Option R}{r:R}(hc:A1a fns px fn args st K=some r):Hg cx g args st K r:=by
 obtain⟨f1,f2,f3⟩:=hfns.all g fn hfn;unfold A1a at hc;split at hc
 ·rename_i c hb hle;refine⟨Sx.enters_of f1 (by rw[hb];rfl) f2,λm a as_ w vs hr hreps =>?_⟩;have hlen:vs.length<=fn.ntmps:=by rw[hreps.len];simpa using hle
  obtain⟨args',bl',hc,hr1,_,hreps1⟩:=Afx hr hreps hc;have hrel:Rel cx m { tmps:=vs.toArray++Array.replicate (fn.ntmps-vs.toArray.size) undef,defers:=[] } (a::as_) (fs { st with n:=fn.ntmps,env:=Bj 0 args',lb:=st.nb,lt:=st.nt,fr:=⟨st.n,st.env,st.lb,st.lt,st.df⟩::st.fr,bl:=bl',df:=[] }) w :=⟨hr1.chg,⟨rfl,Abh hlen,Ag7 hreps1 hlen⟩,⟨a,as_,rfl,hr1.lb,hr1.lt,hr1.env,hr1.frs⟩,Zn1 _,Zn1 _,hr1.blks,hr1.als,hr1.inj,hr1.injt,hr1.injbt,hr1.own,hr1.away,hr1.glb⟩
  refine callsIn_wide.1 (callsIn_of_wp_marks (n:=0) f1 hb trivial (wpIn_wide.2 (B4 hpx.1 hpx.2.1 hpx.2.2.1 hm c _ _ r (f3 c hb) (λb _=>hpx.2.2.2 b) hc _ m _ (a::as_) w hrel ?_)));intro e st' m' a' w' hk hsame hrel';cases e
  case exit=>cases hk
  all_goals
   simp only at hk;have hfr0:st'.fr=⟨st.n,st.env,st.lb,st.lt,st.df⟩::st.fr:=hsame.2;refine Zz hfns hpx hm (tmps:=a'.tmps) st'.df st' rfl hk m' a'.defers w' hrel' (λst2 m2 w2 k1 k2 k3 =>?_);split at k1
   ·rename_i rs f fr hrs hfr;obtain⟨us,hrun,hres⟩:=D1 hpx.1 k3 hrs;have hpop:=k3.pop hfr;rw[k2.2,hfr0] at hfr;simp only[Ze2] at hfr;obtain⟨rfl,rfl⟩:=hfr;obtain⟨rs',bl2,k4,k5,_,k6⟩:=Afx hpop hres k1;exact⟨_,As7 hrun,_,rfl,rs',_,m2,k4,⟨rfl,rfl,rfl,rfl,rfl⟩,k5,Gl k6⟩
   ·cases k1
 ·cases hc
theorem Bpa{fns:Nat->Option Func}(hfns:Ait cx.P fns){px:Px (List D)}(hpx:∀cx0:Cx,cx0.P=cx.P->cx0.el=cx.el->cx0.gl=cx.gl->Lv1 cx0 px)(hm:cx.P.follows .mixedOrders=true){g:Nat}{fn:Func}(hfn:fns g=some fn){args rs:List D}(h:Bqu fns px fn args=some rs):Sx.Enters cx.P g/\∀(s:FS) (m:Mp) (a:Act) (as_:List Act) (w:World) (vs:List Value),Rel cx m a as_ s w->Reps (vx cx m s w) args vs->Calls cx.P g vs.toArray w λen w'=>∃v,en = .returned v/\Rel cx m a as_ s w'/\Rep (vx cx m s w') (Eh (rs.map Gu)) v:=by
 obtain⟨f1,f2,f3⟩:=hfns.all g fn hfn;unfold Bqu at h;split at h
 ·rename_i c hb hcond;simp only[Zb1] at hcond;refine⟨Sx.enters_of f1 (by rw[hb];rfl) f2,λs m a as_ w vs hr hargs =>?_⟩;have hlen:vs.length<=fn.ntmps:=by rw[hargs.len];simpa using hcond.2
  obtain⟨hM,hgl⟩:=Hc hr;have base:=A6e (P:=cx.P) (el:=cx.el) (gl:=cx.gl) (sa:=[]) rfl (x:=()) (n:=fn.ntmps) (Nat.zero_le _) hM hgl (vs:=[]) (by simp[Br,Reps]);have hargs0:Reps (vx ⟨cx.P,w,Cf,(vx cx m s w).S,cx.el,cx.gl⟩ ⟨λ_=>0,λ_=>none⟩ (fs (st0 fn.ntmps [] ())) w) (args.map G9) vs:=by
   refine Wv (x:=vx cx m s w) (x':=vx ⟨cx.P,w,Cf,(vx cx m s w).S,cx.el,cx.gl⟩ ⟨λ_=>0,λ_=>none⟩ (fs (st0 fn.ntmps [] ())) w) (λb j hS =>?_) rfl hcond.1 (Q7 hargs);rcases hS with hS|⟨k,hk,_⟩|⟨t,o,ht,_⟩
   ·exact hS
   ·exact absurd rfl hk
   ·cases ht
  have hrel:Rel ⟨cx.P,w,Cf,(vx cx m s w).S,cx.el,cx.gl⟩ ⟨λ_=>0,λ_=>none⟩ { tmps:=vs.toArray++Array.replicate (fn.ntmps-vs.toArray.size) undef,defers:=[] } [] (fs ⟨fn.ntmps,Bj 0 (args.map G9),0,0,[],[],0,[],0,[]⟩) w :=⟨base.chg,⟨rfl,Abh hlen,Ag7 hargs0 hlen⟩,base.frs,base.lb,base.lt,base.blks,base.als,base.inj,base.injt,base.injbt,base.own,base.away,base.glb⟩
  obtain⟨p1,p2,p3,p4⟩:=hpx ⟨cx.P,w,Cf,(vx cx m s w).S,cx.el,cx.gl⟩ rfl rfl rfl;refine callsIn_wide.1 (callsIn_of_wp_marks (n:=0) f1 hb trivial (wpIn_wide.2 (B4 p1 p2 p3 hm c _ _ rs (f3 c hb) (λb _=>p4 b) h _ _ _ [] w hrel ?_)));intro e st' m' a' w' hk hsame hrel';cases e
  case exit=>cases hk
  all_goals
   simp only at hk;refine Zz (cx:=⟨cx.P,w,Cf,(vx cx m s w).S,cx.el,cx.gl⟩) hfns ⟨p1,p2,p3,p4⟩ hm (tmps:=a'.tmps) st'.df st' rfl hk m' a'.defers w' hrel' (λst2 m2 w2 k1 k2 k3 =>?_);split at k1
   ·rename_i rs1 hrs;obtain⟨us,hrun,hres⟩:=D1 p1 k3 hrs;obtain⟨ds',bl',hk2,hrel1,_,hreps⟩:=Agl k3 hres k1;split at hk2
    ·rename_i hbare;simp only[Za1] at hk2;subst hk2;refine⟨_,As7 (cx:=cx) hrun,_,rfl,hr.quiet hrel1.chg,?_⟩;have h9:=Wv (x:=vx ⟨cx.P,w,Cf,(vx cx m s w).S,cx.el,cx.gl⟩ m2 (fs { st2 with bl:=bl' }) w2) (x':=vx cx m s w2) (λb j hS =>.inl hS) rfl hbare (Q7 hreps);rw[List.map_map,show Gu∘G9=G9 from funext At6];exact Gl h9
    ·cases hk2
   ·cases k1
 ·cases h
def Bty(cx:Cx)(px:Px R)(b:Code):Prop:=∀(st:St) (K:Ex->St->Option R) (r:R),px.loop b st K=some r->∀(Q:Exit->Act->World->Prop) (m:Mp) (a:Act) (as_:List Act) (w:World),D6 st.n b=true->Rel cx m a as_ (fs st) w->(∀e st' m' a' w',K e st' = some r->(st'.n=st.n/\st'.fr=st.fr)->Rel cx m' a' as_ (fs st') w'->Q (Aa9 e) a' w')->Sx.LW cx.P b Q a w
def Lv2(cx:Cx)(px:Px R):Prop:=PxOk cx px/\Dh cx px/\CallQOk cx px/\∀b,Bty cx px b
theorem Lv2.to1{px:Px R}(h:Lv2 cx px):Lv1 cx px:=⟨h.1,h.2.1,h.2.2.1,λb st K r h1 Q m a as_ w h2 h3 h4=>Sx.wp_of_LW (h.2.2.2 b st K r h1 Q m a as_ w h2 h3 h4)⟩
end
theorem A8m{P:Program}{el:Ck->TypeId}(hm:P.follows .mixedOrders=true){tt:Nat->Ty}{gl:Nat->Option Gv}{fns:Nat->Option Func}{tb:(R:Type)->Nat->Option (Gx R)}{tq:(R:Type)->Nat->Option (Fw R)}(htt:∀t,Ch P el tt t=true)(hfns:Ait P fns)
  (htb:∀(R:Type) (cx:Cx),cx.P=P->cx.el=el->cx.gl=gl->∀g f,tb R g=some f->G2 cx g f) (htq:∀(R:Type) (cx:Cx),cx.P=P->cx.el=el->cx.gl=gl->∀g f,tq R g=some f->Q6 cx g f) {sw:Nat->Option (Sig×Sig)}(hsw:∀g p,sw g=some p->lnB p.1 p.2=true) :
  ∀(n:Nat) (R:Type) (cx:Cx),cx.P=P->cx.el=el->cx.gl=gl->Lv2 cx (co tt gl fns tb tq sw n R)
 |0,R,cx,e1,e2,e3=>by subst e1 e2 e3;exact⟨⟨htt,rfl⟩,(λ_ _ _ _ _ h=>nomatch h),⟨(λ_ _ _ _ h=>nomatch h),(λ_ _ h=>nomatch h)⟩,(λ_ _ _ _ h=>nomatch h)⟩
 |n+1,R,cx,e1,e2,e3=>by
  have ih:=A8m hm htt hfns htb htq hsw n R cx e1 e2 e3;have ihD:∀cx0:Cx,cx0.P=cx.P->cx0.el=cx.el->cx0.gl=cx.gl->Lv1 cx0 (co tt gl fns tb tq sw n (List D)):=λcx0 h1 h2 h3=>(A8m hm htt hfns htb htq hsw n (List D) cx0 (h1.trans e1) (h2.trans e2) (h3.trans e3)).to1;have htb1:=htb R cx e1 e2 e3;have htq1:=htq R cx e1 e2 e3;subst e1 e2 e3;have ih1:=ih.to1;refine⟨⟨htt,rfl⟩,λg args st K r hk =>?_,⟨λg args K r hk =>?_,λg F hF =>?_⟩,λb st K r hk Q m a as_ w hcb hr hQ =>?_⟩
  ·simp only[co] at hk;split at hk
   ·rename_i f hf;exact htb1 g f hf args st K r hk
   ·split at hk
    ·rename_i fn hfn;exact Ba2 hfns ih1 hm hfn hk
    ·cases hk
  ·simp only[co] at hk;split at hk
   ·rename_i f hf;exact htq1 g f hf args K r hk
   ·split at hk
    ·rename_i fn hfn;split at hk
     ·rename_i rs hrs;exact⟨rs,hk,Bpa hfns ihD hm hfn hrs⟩
     ·cases hk
    ·cases hk
  ·simp only[co] at hF;split at hF
   ·rename_i si so fn hsi hfn;split at hF
    ·rename_i hle;simp only[Za1] at hF;subst hF;obtain⟨f1,f2,c,hb,f3⟩:=hfns g fn hfn;exact Bp2 (A73 f1 hb f2 hm (by rw[f3];simpa using hle) (λcx0 h1 h2 h3=>by obtain⟨q1,q2,q3,q4⟩:=(A8m hm htt hfns htb htq hsw n (HV so.sgs) cx0 h1 h2 h3).to1;exact⟨q1,q2,q3,λb _=>q4 b⟩) (λ_=>rfl)) (hsw g (si,so) hsi)
    ·cases hF
   ·cases hF
  ·simp only[co] at hk;refine Sx.LW_round (B4 ih1.1 ih1.2.1 ih1.2.2.1 hm b { st with env:=trim st.n st.env } _ r hcb (λb' _=>ih1.2.2.2 b') hk _ m a as_ w hr.trim ?_);intro e st' m' a' w' hk2 hsame hrel';cases e with|normal=>exact ih.2.2.2 b st' K r hk2 Q m' a' as_ w' (by rw[hsame.1];exact hcb) hrel' (λe2 st2 m2 a2 w2 k1 k2 k3=>hQ e2 st2 m2 a2 w2 k1 ⟨k2.1.trans hsame.1,k2.2.trans hsame.2⟩ k3)|exit id=>exact hQ (.exit id) st' m' a' w' hk2 hsame hrel'|ret=>exact hQ .ret st' m' a' w' hk2 hsame hrel'
end Go.Ax
