/- Texts of the proof,one behind the other: AxLn,AxLo. -/
import Derived.Test.YtcoaaebppfbbnaaGreatDoorU3
set_option linter.all false
namespace Go.Ax
open Go.RowKit
abbrev Ren:=Yb1 (Nat×Nat)
def look:Ren->Nat->Ya1 Nat|[],_=>none|(a,b)::l,n=>match Nat.beq a n with|true=>some b|false=>look l n
def Aw3(σ:Ren):Bool:=σ.all λp=>σ.all λq=>(Nat.beq p.1 q.1) == (Nat.beq p.2 q.2)
def B6e:D->D->Ren|.ptr k _,.ptr b _=>[(b,k)]|_,_=>[]
def B2h:Yb1 D->Yb1 D->Ren|a::l,b::m=>B6e a b++B2h l m|_,_=>[]
def B6y:D->D->Ren|.ptr k _,.ptr b _=>[(b,k)]|.yl k,.yl b=>[(b,k)]|.fn _ cs,.fn _ cs'=>B2h cs cs'|.bm _ cs,.bm _ cs'=>B2h cs cs'|_,_=>[]
def Buk(env:Env):Yb1 (Nat×D)->Ren|[]=>[]|(i,d)::l=>match get env i with|some a=>B6y d a++Buk env l|none=>Buk env l
def Bpx:D->Bool|.bool _|.int _ _|.str _|.sl _ _ _|.nilp|.nilfn|.gp _=>true|_=>false
def Bwt(σ:Ren):D->Ya1 D
 |.ptr b o=>match look σ b with|some k=>some (.ptr k o)|none=>none
 |.yl b=>match look σ b with|some k=>some (.yl k)|none=>none
 |d=>match Bpx d with|true=>some d|false=>none
def Alo(σ:Ren):Yb1 D->Ya1 (Yb1 D)|[]=>some []|d::l=>match Bwt σ d,Alo σ l with|some a,some l'=>some (a::l')|_,_=>none
def Bqm(σ:Ren):D->Ya1 D
 |.fn f cs=>match Alo σ cs with|some cs'=>some (.fn f cs')|none=>none
 |.bm f cs=>match Alo σ cs with|some cs'=>some (.bm f cs')|none=>none
 |.agg ds=>match Alo σ ds with
  |some a=>match a.all lf with|true=>some (.agg a)|false=>none
  |none=>none
 |.sv c x=>some (.sv c x)
 |.ep c x o=>some (.ep c x o)
 |d=>Bwt σ d
def Blw(σ:Ren):Yb1 D->Ya1 (Yb1 D)|[]=>some []|d::l=>match Bqm σ d,Blw σ l with|some a,some l'=>some (a::l')|_,_=>none
def A1q(σ:Ren):Env->Env|[]=>[]|(k,d)::l=>match Bqm σ d with|some a=>(k,a)::A1q σ l|none=>(k,.junk)::A1q σ l
def Byk(σ:Ren):Blk->Ya1 Blk
 |.cells ds=>match Blw σ ds with
  |some a=>match a.all lf with|true=>some (.cells a)|false=>none
  |none=>none
 |.lr s n ps asg body env=>some (.lr s n ps asg body (A1q σ env))
 |.lx j n ps asg body env q=>some (.lx j n ps asg body (A1q σ env) q)
 |k=>some k
def Bi1(σ:Ren)(nb:Nat):Bs->Bool|.fx ds=>ds.all λd=>(Dr d).all λb=>(match look σ b with|some k=>Nat.beq k b|none=>false)&&Nat.blt b nb|.oc _ b _=>(match look σ b with|some k=>Nat.beq k b|none=>false)&&Nat.blt b nb|.rc _ _ _ _ env _=>env.all λp=>(Dr p.2).all λb=>(match look σ b with|some k=>Nat.beq k b|none=>false)&&Nat.blt b nb|_=>true
def Bta:Yb1 (Nat×Bs)->Ren|[]=>[]|(_,.rc _ _ _ _ env _)::l=>(env.flatMap λp=>Dr p.2).map (λb=>(b,b))++Bta l|_::l=>Bta l
def De(sg:Sig)(args:Yb1 D):Ren:=Buk (D3 0 args) sg.fix++Bta sg.bl
def Aox(bl:Yb1 (Nat×Blk))(σ0:Ren):Ren->Ya1 (Yb1 (Nat×Blk))
 |[]=>some []
 |(b,k)::σ=>match blk bl b,Aox bl σ0 σ with
  |some K,some l=>match Byk σ0 K with|some K'=>some ((k,K')::l)|none=>none
  |_,_=>none
def B57:D->Yb1 Nat|.sl _ _ (.id t)=>[t]|_=>[]
def B58:Blk->Yb1 Nat|.cells ds=>ds.flatMap B57|.bld _ d=>B57 d|_=>[]
def Bq4(bl:Yb1 (Nat×Blk))(tk:Yb1 Nat):Yb1 Nat:=tk.filter λt=>(bl.flatMap λp=>B58 p.2).contains t
def H9(sg:Sig):Fr:=⟨sg.nb,sg.bl.map λp=>(p.1,.ptr p.1 0),0,0,[]⟩
def Afz(σ:Ren)(a:Yb1 (Nat×Blk)):Yb1 (Nat×Blk)->Yb1 (Nat×Blk)
 |[]=>[]
 |(b,K)::l=>match look σ b with
  |none=>(b,K)::Afz σ a l
  |some k=>match blk a k with|some K'=>(b,K')::Afz σ a l|none=>Afz σ a l
section
variable {R:Type}
def Mf(sg:Sig)(σ:Ren)(args:Yb1 D)(st:St):Ya1 St:=match Blw σ args,Aox st.bl σ σ with|some as',some bl'=>some ⟨args.length,D3 0 as',sg.nb,0,[H9 sg],bl',sg.nb,Bq4 bl' st.tk,st.nt,[]⟩|_,_=>none
def Ct(sg so:Sig)(F:HV sg.sgs->Ya1 (HV so.sgs))(args:Yb1 D)(st:St)(K:Yb1 D->St->Ya1 R):Ya1 R:=match Aw3 (De sg args)&&(De sg args).all (λp=>Nat.blt p.2 sg.nb)&&so.bl.all (λp=>Bi1 (De sg args) st.nb p.2),Mf sg (De sg args) args st with
 |true,some st0=>match Js sg st0 with
  |some x=>(F x).bind λr=>K (match Nat.beq so.n so.vars.length with
     |true=>(Ca st.nt so.sgs r).take so.vars.length
     |false=>[.junk]) { st with bl:=Afz (De sg args) (Di so.bl ((Ca st.nt so.sgs r).drop so.vars.length)) st.bl,tk:=Bb st.nt so.sgs++st.tk.filter (λt=> !(st0.tk).contains t),nt:=st.nt+so.sgs.length }
  |none=>none
 |_,_=>none
end
def lnB(sg so:Sig):Bool:=X7 sg&&X7 so&&Nat.beq sg.lt 0&&Nat.beq sg.lb sg.nb&&Nat.beq so.lt 0&&so.ow.isEmpty&&so.fix.isEmpty&&Nat.beq so.nb sg.nb&&Dk (so.vars.map (·.1)) (List.range so.vars.length)&&so.bl.all (λp=>(sg.bl.map (·.1)).contains p.1)&&((fxs so.bl).flatMap Dr).all (λb=>(sg.bl.map (·.1)).contains b)
structure FnLn (P:Program) (el:Ck->TypeId) (gl:Nat->Option Gv) (f:FuncId) (sg so:Sig) (F:HV sg.sgs->Option (HV so.sgs)):Prop where
 enters:Sx.Enters P f
 run:∀x r,F x=some r->BdL sg.sgs x->∀(cx:Cx) (m:Mp) (vs:List Value) (af:Act) (w:World),cx.P=P->cx.el=el->cx.gl=gl->Rel cx m ⟨vs.toArray,[]⟩ [af] (fs (Ge sg [H9 sg] x)) w ->
  Calls P f vs.toArray w λen w'=>∃us st' m',en = .returned (Sx.resv us)/\(∀k,(sg.bl.map (·.1)).contains k=true->m'.bl k=m.bl k)/\Js so st' = some r/\Rel cx m' ⟨us.toArray,[]⟩ [af] (fs st') w'
theorem Avt(a b:Nat)(l:Ren)(n:Nat):look ((a,b)::l) n=if n=a then some b else look l n:=by
 simp[look];by_cases h:n=a
 ·subst h;simp
 ·simp[Gw (Ne.symm h),h]
theorem R5:∀{σ:Ren}{n k:Nat},look σ n=some k->(n,k)∈σ
 |[],_,_,h=>by simp[look]at h
 |(a,b)::l,n,k,h=>by
  rw[Avt]at h;by_cases c:n=a
  ·grind
  ·rw[if_neg c]at h;exact Zu1 _ (R5 h)
theorem Apt:∀{σ:Ren}{n k:Nat},(n,k)∈σ->∃c,look σ n=some c
 |(a,b)::l,n,k,h=>by
  rw[Avt];by_cases d:n=a
  ·simp_all
  ·rw[if_neg d];rcases List.mem_cons.1 h with h|h
   ·grind
   ·exact Apt h
variable{σ:Ren}
theorem Afb(h:Aw3 σ=true){p q:Nat×Nat}(b:p∈σ)(c:q∈σ):p.1=q.1↔p.2=q.2:=by
 have a:=Zg2.1 (Zg2.1 h p b) q c;simp at a;constructor
 ·intro e;have:Nat.beq p.1 q.1=true:=by rw[e];exact Nat.beq_refl _
  rw[this]at a;exact Zl1 a.symm
 ·intro e;have:Nat.beq p.2 q.2=true:=by rw[e];exact Nat.beq_refl _
  rw[this]at a;exact Zl1 a
theorem Ape(σ:Ren)(a:Yb1 (Nat×Blk)):∀(bl:Yb1 (Nat×Blk)) (b:Nat),blk (Afz σ a bl) b=match look σ b with|none=>blk bl b|some k=>if(blk bl b).isSome then blk a k else none
 |[],b=>by simp only[Afz,blk];cases look σ b<;>simp
 |(q,K)::l,b=>by
  have c:=Ape σ a l b;simp only[Afz];rw[Az];cases d:look σ q with
  |none=>
   simp only;rw[Az,c];by_cases hb:b=q
   ·subst hb;simp[d]
   ·simp[hb]
  |some k=>
   simp only;by_cases hb:b=q
   ·subst hb;simp only[d,if_true,Option.isSome_some];cases e:blk a k with|none=>simp only;rw[c,d];simp[e]|some K'=>simp only;rw[Az,if_pos rfl]
   ·cases e:blk a k with|none=>simp only;rw[c];simp[hb]|some K'=>simp only;rw[Az,if_neg hb,c];simp[hb]
structure Lent (σ:Ren) (x x0:Vx):Prop where
 w:x0.w=x.w
 el:x0.el=x.el
 S:∀b i,x0.S b i->x.S b i
 bl:∀b k,look σ b=some k->k<x0.nb/\x0.m.bl k=x.m.bl b
 nt:x.nt<=x0.nt
 tk:∀t,x0.al t->x.al t/\x0.m.tk t=x.m.tk t
section
variable {σ:Ren}{x x0:Vx}
theorem Lent.rf(h:Lent σ x x0){d:D}{v:Value}(a:RF x.S x.w d v):RF x0.S x0.w d v:=by rw[h.w];exact a.later (Chg.refl _ _) λk i hi=>.inl (h.S k i hi)
theorem Lent.sl(h:Lent σ x x0){c:Ck}{xs:Yb1 (El c)}{t:Tk}{v:Value}(a:Rep x (.sl c xs t) v):Rep x0 (.sl c xs t) v:=by
 simp[Rep]at a ⊢;refine⟨h.rf a.1,?_⟩;cases t with
 |no=>trivial
 |nil=>exact a.2
 |z=>exact a.2
 |ne=>exact a.2
 |zn=>exact a.2
 |f=>exact a.2
 |id t=>
  obtain⟨d,e⟩:=a.2;refine⟨Zx1 d h.nt,λi=>?_⟩;obtain⟨a1,b⟩:=h.tk t i;rcases e a1 with ⟨p,q,r⟩|⟨g,cap,cur,p,q,r,s⟩
  ·exact .inl ⟨p,b.trans q,r⟩
  ·exact .inr ⟨g,cap,cur,p,b.trans q,by rw[h.w,h.el];exact r,s⟩
theorem Lent.p(h:Lent σ x x0){d j:D}{v:Value}(hd:Bwt σ d=some j)(a:Rep x d v):Rep x0 j v:=by
 unfold Bwt at hd;split at hd
 ·rename_i b o;split at hd
  ·rename_i k e;simp at hd;subst hd;obtain⟨f,g⟩:=h.bl b k e;simp[Rep]at a ⊢;exact⟨f,by rw[g];exact a.2⟩
  ·cases hd
 ·rename_i b;split at hd
  ·rename_i k e;simp at hd;subst hd;obtain⟨f,g⟩:=h.bl b k e;simp[Rep]at a ⊢;exact⟨f,by rw[g];exact a.2⟩
  ·cases hd
 ·split at hd
  ·rename_i i;simp at hd;subst hd;cases d<;>simp[Bpx]at i
   case sl c xs t=>exact h.sl a
   all_goals simpa only[Rep]using a
  ·cases hd
theorem Lent.ps(h:Lent σ x x0):∀{ds a:Yb1 D}{vs:Yb1 Value},Alo σ ds=some a->Reps x ds vs->Reps x0 a vs
 |[],a,vs,hd,hr=>by simp[Alo]at hd;subst hd;simpa[Reps]using hr
 |d::ds,a,vs,hd,hr=>by
  simp[Alo]at hd;split at hd
  ·rename_i f l1 b c;simp at hd;subst hd;simp[Reps]at hr ⊢;obtain⟨u,us,rfl,q1,e⟩:=hr;exact⟨u,us,rfl,h.p b q1,h.ps c e⟩
  ·cases hd
theorem Lent.d(h:Lent σ x x0){d k:D}{v:Value}(hd:Bqm σ d=some k)(a:Rep x d v):Rep x0 k v:=by
 unfold Bqm at hd;split at hd
 ·split at hd
  ·rename_i cs' g;simp at hd;subst hd;simp[Rep]at a ⊢;obtain⟨vs,c,f⟩:=a;exact⟨vs,c,h.ps g f⟩
  ·cases hd
 ·split at hd
  ·rename_i cs' g;simp at hd;subst hd;simp[Rep]at a ⊢;obtain⟨vs,c,f⟩:=a;exact⟨vs,c,h.ps g f⟩
  ·cases hd
 ·split at hd
  ·rename_i m i;split at hd
   ·rename_i n;simp at hd;subst hd;simp only[Rep]at a ⊢;obtain⟨_,vs,c,f⟩:=a;exact⟨n,vs,c,h.ps i f⟩
   ·cases hd
  ·cases hd
 ·simp at hd;subst hd;simp[Rep]at a ⊢;obtain⟨c,vs,f,q,r⟩:=a;exact⟨c,vs,f,q,λj e s=>by obtain⟨u,t,y⟩:=r j e s;exact⟨u,t,h.rf y⟩⟩
 ·simp at hd;subst hd;simp[Rep]at a ⊢;obtain⟨b,o,c,f⟩:=a;exact⟨b,o,c,λw' l=>f w' (by rw[h.w]at l;exact l.mono h.S)⟩
 ·exact h.p hd a
theorem Lent.l(h:Lent σ x x0):∀{ds a:Yb1 D}{vs:Yb1 Value},Blw σ ds=some a->Reps x ds vs->Reps x0 a vs
 |[],a,vs,hd,hr=>by simp[Blw]at hd;subst hd;simpa[Reps]using hr
 |d::ds,a,vs,hd,hr=>by
  simp[Blw]at hd;split at hd
  ·rename_i f l1 b c;simp at hd;subst hd;simp[Reps]at hr ⊢;obtain⟨u,us,rfl,q1,e⟩:=hr;exact⟨u,us,rfl,h.d b q1,h.l c e⟩
  ·cases hd
theorem Ao5{k:Nat}{d:D}:∀{env:Env},get (A1q σ env) k=some d->∃d0,get env k=some d0/\(Bqm σ d0=some d\/d = .junk)
 |[],h=>by simp[A1q,get]at h
 |(q,dq)::l,h=>by
  simp only[A1q]at h;rw[Bl];split at h
  ·rename_i c b;rw[Bl]at h;by_cases a:k=q
   ·rw[if_pos a]at h ⊢;simp only[Za1]at h;subst h;exact⟨dq,rfl,.inl b⟩
   ·rw[if_neg a]at h ⊢;exact Ao5 h
  ·rw[Bl]at h;by_cases a:k=q
   ·rw[if_pos a]at h ⊢;simp only[Za1]at h;exact⟨dq,rfl,.inr h.symm⟩
   ·rw[if_neg a]at h ⊢;exact Ao5 h
variable{k:Nat}
theorem Lent.e(h:Lent σ x x0){b:Array Value}{env:Env}(c:∀k d,get env k=some d->∃v,b[k]? = some v/\Rep x d v){d:D}(hd:get (A1q σ env) k=some d):∃v,b[k]? = some v/\Rep x0 d v:=by
 obtain⟨d0,f,a⟩:=Ao5 hd;obtain⟨v,g,i⟩:=c k d0 f;refine⟨v,g,?_⟩;rcases a with a|rfl
 ·exact h.d a i
 ·simp[Rep]
theorem Lent.b(h:Lent σ x x0){β:Nat}{K K':Blk}(f:Byk σ K=some K')(g:Gn x β K):Gn x0 β K':=by
 unfold Byk at f;split at f
 ·split at f
  ·rename_i a3 a2;split at f
   ·rename_i hl;simp at f;subst f;obtain⟨_,vs,t,o,p⟩:=g;exact⟨hl,vs,t,by rw[h.w];exact o,h.l a2 p⟩
   ·cases f
  ·cases f
 ·rename_i s n ps asg body env;simp at f;subst f;obtain⟨rc,z,g2,g3,g4,g5,g6⟩:=g;exact⟨rc,by rw[h.w];exact z,g2,g3,g4,⟨rfl,g5.size,λk d hd=>h.e (λk d hd=>g5.get k d hd) hd⟩,g6⟩
 ·rename_i j n ps asg body env q;simp at f;subst f;refine⟨g.1,λhj=>?_,λhj=>?_⟩
  ·obtain⟨rc,z,g2,g3,g4,g5,g6⟩:=g.2.1 hj;exact⟨rc,by rw[h.w];exact z,g2,g3,g4,⟨rfl,g5.size,λk d hd=>h.e (λk d hd=>g5.get k d hd) hd⟩,g6⟩
  ·obtain⟨rc,z,g2⟩:=g.2.2 hj;exact⟨rc,by rw[h.w];exact z,g2⟩
 ·simp at f;subst f;cases K with|cells ds=>rename_i m _ _;exact absurd rfl (m ds)|ob q=>simp only[Gn]at g ⊢;rw[h.w];exact g|lj e=>simp only[Gn]at g ⊢;rw[h.w];exact g|lr s n ps asg body env=>rename_i m _;exact absurd rfl (m s n ps asg body env)|lx j n ps asg body env q=>rename_i m;exact absurd rfl (m j n ps asg body env q)|box c y=>obtain⟨h0,vs,t,o,p,r⟩:=g;exact⟨h0,vs,t,by rw[h.w];exact o,p,λj d hd=>by obtain⟨u,hu,hf⟩:=r j d hd;exact⟨u,hu,h.rf hf⟩⟩|row c n xs=>obtain⟨h0,vs,t,o,p,r⟩:=g;exact⟨h0,vs,t,by rw[h.w];exact o,p,λi y j d hy hd=>by obtain⟨u,hu,hf⟩:=r i y j d hy hd;exact⟨u,hu,h.rf hf⟩⟩|dyn c xs=>obtain⟨h0,vs,t,o,p,r⟩:=g;exact⟨h0,vs,t,by rw[h.w];exact o,p,λi y j d hy hd=>by obtain⟨u,hu,hf⟩:=r i y j d hy hd;exact⟨u,hu,h.rf hf⟩⟩|bld ty d=>obtain⟨⟨l,t,rfl⟩,a,v,o,p,r⟩:=g;exact⟨⟨l,t,rfl⟩,a,v,by rw[h.w];exact o,p,h.sl r⟩
end
theorem P2{bl:Yb1 (Nat×Blk)}{σ0:Ren}:∀{σ:Ren}{a:Yb1 (Nat×Blk)},Aox bl σ0 σ=some a->∀k K',blk a k=some K'->∃b K,(b,k)∈σ/\blk bl b=some K/\Byk σ0 K=some K'
 |[],a,h,k,K',hk=>by simp[Aox]at h;subst h;simp[blk]at hk
 |(b,q)::σ,a,h,k,K',hk=>by
  simp[Aox]at h;split at h
  ·rename_i K l hb d;split at h
   ·rename_i K1 e;simp at h;subst h;rw[Az]at hk;by_cases c:k=q
    ·subst c;rw[if_pos rfl]at hk;simp at hk;subst hk;exact⟨b,K,Zr1,hb,e⟩
    ·rw[if_neg c]at hk;obtain⟨b',K2,f,g,i⟩:=P2 d k K' hk;exact⟨b',K2,Zu1 _ f,g,i⟩
   ·cases h
  ·cases h
theorem Akj{bl:Yb1 (Nat×Blk)}{σ0:Ren}:∀{σ:Ren}{a:Yb1 (Nat×Blk)},Aox bl σ0 σ=some a->∀b k,(b,k)∈σ->blk bl b≠none/\blk a k≠none
 |[],a,h,b,k,hm=>by cases hm
 |(b0,q)::σ,a,h,b,k,hm=>by
  simp[Aox]at h;split at h
  ·rename_i K l hb d;split at h
   ·rename_i K1 g;simp at h;subst h;rw[Az];rcases List.mem_cons.1 hm with hm|hm
    ·simp at hm;obtain⟨rfl,rfl⟩:=hm;exact⟨by rw[hb];simp,by simp⟩
    ·obtain⟨e,f⟩:=Akj d b k hm;refine⟨e,?_⟩;by_cases c:k=q
     ·simp[c]
     ·rw[if_neg c];exact f
   ·cases h
  ·cases h
theorem Ii{bl:Yb1 (Nat×Blk)}{tk:Yb1 Nat}{t:Nat}(h:t∈Bq4 bl tk):t∈tk:=(List.mem_filter.1 h).1
theorem Ip{x:Vx}:∀{ds:Yb1 D}{us:Yb1 Value}(i k:Nat) (d:D),Reps x ds us->get (D3 i ds) k=some d->∃v,i<=k/\us[k-i]? = some v/\Rep x d v
 |[],us,i,k,d,_,h=>by simp[D3,get]at h
 |e::ds,us,i,k,d,hr,h=>by
  simp[Reps]at hr;obtain⟨u,us,rfl,b,c⟩:=hr;simp[D3]at h;rw[Bl]at h;by_cases a:k=i
  ·subst a;simp at h;subst h;exact⟨u,Zn1 _,by simp,b⟩
  ·rw[if_neg a]at h;obtain⟨v,j,f,g⟩:=Ip (i+1) k d c h;refine⟨v,by omega,?_,g⟩;rw[show k-i=(k-(i+1))+1 by omega];simpa using f
theorem A2m:∀{bl:Yb1 (Nat×Bs)}{k:Nat}{d:D},get (bl.map λp=>(p.1,D.ptr p.1 0)) k=some d->d = .ptr k 0/\∃a,(k,a)∈bl
 |[],k,d,h=>by simp[get]at h
 |(q,a)::bl,k,d,h=>by
  simp at h;rw[Bl]at h;by_cases c:k=q
  ·subst c;simp at h;exact⟨h.symm,a,Zr1⟩
  ·rw[if_neg c]at h;obtain⟨e,b,f⟩:=A2m h;exact⟨e,b,Zu1 _ f⟩
theorem Acb:∀{bl:Yb1 (Nat×Bs)}{k:Nat},(bl.map (·.1)).contains k=true->get (bl.map λp=>(p.1,D.ptr p.1 0)) k=some (.ptr k 0)
 |[],k,h=>by simp at h
 |(q,bs)::bl,k,h=>by
  simp;rw[Bl];by_cases a:k=q
  ·subst a;simp
  ·rw[if_neg a];refine Acb (bl:=bl) ?_;simp only[Zw1,List.contains_cons,Zd2,beq_iff_eq]at h;exact h.resolve_left a
section
variable {R:Type}{cx:Cx}
def Avs(nb:Nat)(a:Mp):Act:=⟨((List.range nb).map λk=>Value.pointer (some ⟨a.bl k,0,none⟩)).toArray,[]⟩
variable{k:Nat}{nb:Nat}
theorem Awu{a:Mp}(h:k<nb):(Avs nb a).tmps[k]? = some (.pointer (some ⟨a.bl k,0,none⟩)):=by simp[Avs,h]
variable{sg:Sig}{a:Act}{args:Yb1 D}{as_:Yb1 Act}{m:Mp}{st:St}{vs:Yb1 Value}{w:World}
theorem Bqe(a9:X7 sg=true)(hσ:Aw3 σ=true)(hσn:∀p,p∈σ->p.2<sg.nb){st0:St}(h0:Mf sg σ args st=some st0)(hr:Rel cx m a as_ (fs st) w)(a2:Reps (vx cx m (fs st) w) args vs) :
  ∃(s:Mp) (f:Cx),f.P=cx.P/\f.el=cx.el/\f.gl=cx.gl/\f.w0=w/\(∀b k,look σ b=some k->s.bl k=m.bl b)/\s.tk=m.tk/\(∀b i,f.I b i->D8 s (fs st0) b i)/\(∀b i,f.M b i↔((vx cx m (fs st) w).S b i/\∀j,¬D8 s (fs st0) b j)) /\
   (∀b i,D8 s (fs st0) b i->D8 m (fs st) b i)/\Rel f s ⟨vs.toArray,[]⟩ [Avs sg.nb s] (fs st0) w:=by
 unfold Mf at h0;split at h0
 ·rename_i ae a6 ha hb;simp at h0;subst h0;let inv:Nat->Nat:=λk=>((σ.find? λp=>Nat.beq p.2 k).map (·.1)).getD 0;have a3:∀b k,(b,k)∈σ->inv k=b:=λb k hm=>by
   have hs:(σ.find? λp=>Nat.beq p.2 k).isSome=true:=by rw[List.find?_isSome];exact⟨(b,k),hm,Nat.beq_refl k⟩
   obtain⟨p,hp⟩:=Option.isSome_iff_exists.1 hs;have z:=List.mem_of_find?_eq_some hp;have u:=List.find?_some hp;have u:=Zl1 u;simp[inv,hp];exact(Afb hσ z hm).2 u
  let s:Mp:=⟨λk=>m.bl (inv k),m.tk⟩;let s0:FS:=fs ⟨args.length,D3 0 ae,sg.nb,0,[H9 sg],a6,sg.nb,Bq4 a6 st.tk,st.nt,[]⟩;have a5:∀b k,look σ b=some k->s.bl k=m.bl b:=λb k x=>by simp[s,a3 b k (R5 x)]
  have a4:∀k,s0.bl k≠none->∃b,(b,k)∈σ/\(fs st).bl b≠none/\s.bl k=m.bl b:=λk x=>by cases hK:blk a6 k with|none=>exact absurd hK x|some K'=>obtain⟨b,K,z,u,_⟩:=P2 hb k K' hK;exact⟨b,z,by show blk st.bl b≠none;rw[u];simp,by simp[s,a3 b k z]⟩
  have a7:∀b i,D8 s s0 b i->D8 m (fs st) b i:=by
   rintro b i (⟨k,x,rfl⟩|⟨t,o,z,u,h3⟩)
   ·obtain⟨q,_,u,h3⟩:=a4 k x;exact .inl ⟨q,u,h3.symm⟩
   ·exact .inr ⟨t,o,Ii z,u,h3⟩
  let f:Cx:=⟨cx.P,w,D8 s s0,λb i=>(vx cx m (fs st) w).S b i/\∀j,¬D8 s s0 b j,cx.el,cx.gl⟩;have hS:∀b i,(vx f s s0 w).S b i->(vx cx m (fs st) w).S b i:=by
   rintro b i (h|h)
   ·exact h.1
   ·exact .inr (a7 b i h)
  have hL:Lent σ (vx cx m (fs st) w) (vx f s s0 w):=⟨rfl,rfl,hS,λb k x=>⟨hσn _ (R5 x),a5 b k x⟩,Zn1 _,λt ht=>⟨Ii ht,rfl⟩⟩;have a8:=hL.l ha a2;have aa:vs.length=args.length:=a2.len;refine⟨s,f,rfl,rfl,rfl,rfl,a5,rfl,λ_ _ h=>h,λ_ _=>Iff.rfl,a7,?_⟩;show Rel f s ⟨vs.toArray,[]⟩ [Avs sg.nb s] s0 w;simp only[X7,Zb1]at a9;obtain⟨⟨⟨_,ab⟩,_⟩,_⟩:=a9;refine⟨Chg.refl _ _,⟨(show Az1 _ [] [] from rfl),(by simpa using aa:vs.toArray.size=args.length),λk d x=>?_⟩,?_,Zn1 _,Nat.zero_le _,λk K' x=>?_,λt ht=>?_,λb b' z u h3=>?_,λt t' g o o' z u=>hr.injt t t' g o o' (Ii z) (Ii u),λb t g o z u h3=>?_,λb i hi=>⟨(hr.own b i (a7 b i hi)).1,.inl hi⟩,λb i j hm=>⟨?_,hm.2 j⟩,?_⟩
  ·obtain⟨v,_,u,h3⟩:=Ip 0 k d a8 x;exact⟨v,by simpa using u,h3⟩
  ·refine⟨Avs sg.nb s,[],rfl,Nat.zero_le _,Nat.zero_le _,⟨(show Az1 _ [] [] from rfl),by simp[Avs,H9],λk d x=>?_⟩,rfl⟩;obtain⟨rfl,bs,hm⟩:=A2m x;have ac:k<sg.nb:=by have:=Zg2.1 ab _ hm;simp at this;simpa using this.1
   exact⟨_,Awu ac,by simp[Rep];exact⟨ac,rfl⟩⟩
  ·obtain⟨b,K,z,u,h3⟩:=P2 hb k K' x;refine⟨hσn _ z,?_⟩;have e:s.bl k=m.bl b:=by simp[s,a3 b k z]
   rw[e];exact hL.b h3 (hr.blks b K u).2
  ·exact hr.als t (Ii ht)
  ·obtain⟨q,q1,q2,q3⟩:=a4 b z;obtain⟨q',p1,p2,p3⟩:=a4 b' u;rw[q3,p3]at h3;exact(Afb hσ q1 p1).1 (hr.inj q q' q2 p2 h3)
  ·obtain⟨q,_,q2,q3⟩:=a4 b z;rw[q3];exact hr.injbt q t g o q2 (Ii u) h3
  ·rcases hm.1 with h|h
   ·have:=(hr.away b i 0 h).1;exact Zx1 this hr.chg.size
   ·exact(hr.own b i h).1
  ·exact⟨λg c xs hx i y hy w' hw=>hr.glb.1 g c xs hx i y hy w' (hw.mono hS),λg l hl=>by obtain⟨r,es,ag,q1,q2⟩:=hr.glb.2.1 g l hl;exact⟨r,es,ag,λw' hw=>q1 w' (hw.mono hS),q2⟩,λg k x=>by obtain⟨n,q1⟩:=hr.glb.2.2 g k x;exact⟨n,λw' hw=>q1 w' (hw.mono hS)⟩⟩
 ·cases h0
theorem Hp:∀{bl:Yb1 (Nat×Bs)}{E:Yb1 D}{k:Nat}{K:Blk},blk (Di bl E) k=some K->(bl.map (·.1)).contains k=true
 |[],E,k,K,h=>by simp[Di,blk]at h
 |(q,.cells l)::bl,E,k,K,h=>by
  simp[Di]at h;rw[Az]at h;simp only[Zw1,List.contains_cons,Zd2,beq_iff_eq];by_cases a:k=q
  ·exact .inl a
  ·rw[if_neg a]at h;exact .inr (Hp h)
 |(q,.one s)::bl,[],k,K,h=>by
  simp[Di]at h;rw[Az]at h;simp only[Zw1,List.contains_cons,Zd2,beq_iff_eq];by_cases a:k=q
  ·exact .inl a
  ·rw[if_neg a]at h;exact .inr (Hp h)
 |(q,.one s)::bl,d::E,k,K,h=>by
  simp[Di]at h;rw[Az]at h;simp only[Zw1,List.contains_cons,Zd2,beq_iff_eq];by_cases a:k=q
  ·exact .inl a
  ·rw[if_neg a]at h;exact .inr (Hp h)
 |(q,.bld _)::bl,[],k,K,h=>by
  simp[Di]at h;rw[Az]at h;simp only[Zw1,List.contains_cons,Zd2,beq_iff_eq];by_cases a:k=q
  ·exact .inl a
  ·rw[if_neg a]at h;exact .inr (Hp h)
 |(q,.bld _)::bl,d::E,k,K,h=>by
  simp[Di]at h;rw[Az]at h;simp only[Zw1,List.contains_cons,Zd2,beq_iff_eq];by_cases a:k=q
  ·exact .inl a
  ·rw[if_neg a]at h;exact .inr (Hp h)
 |(q,.fx _)::bl,E,k,K,h=>by
  simp[Di]at h;rw[Az]at h;simp only[Zw1,List.contains_cons,Zd2,beq_iff_eq];by_cases a:k=q
  ·exact .inl a
  ·rw[if_neg a]at h;exact .inr (Hp h)
 |(q,.oc _ _ _)::bl,E,k,K,h=>by
  simp[Di]at h;rw[Az]at h;simp only[Zw1,List.contains_cons,Zd2,beq_iff_eq];by_cases a:k=q
  ·exact .inl a
  ·rw[if_neg a]at h;exact .inr (Hp h)
 |(q,.rc n ps asg body env qq)::bl,E,k,K,h=>by
  have b:∃K0 E',blk ((q,K0)::Di bl E') k=some K:=by cases E with|nil=>exact⟨_,_,h⟩|cons d E=>cases d<;>exact⟨_,_,h⟩
  obtain⟨K0,E',h⟩:=b;rw[Az]at h;simp only[Zw1,List.contains_cons,Zd2,beq_iff_eq];by_cases a:k=q
  ·exact .inl a
  ·rw[if_neg a]at h;exact .inr (Hp h)
theorem Bul(c:X7 sg=true){x:HV sg.sgs}(hd:Js sg st=some x)(e:Rel cx m a as_ (fs st) w):BdL sg.sgs x:=by
 simp only[X7,Zb1]at c;obtain⟨⟨⟨_,d⟩,_⟩,_⟩:=c;unfold Js at hd;split at hd
 ·rename_i A B O j l n _;obtain⟨VA,f,_⟩:=Lh (env:=st.env) e.env j;obtain⟨VB,g,_⟩:=Dv (x:=vx cx m (fs st) w) (m:=m.bl) (stbl:=st.bl) (λb k o=>(e.blks b k o).2) l d;obtain⟨VO,i,_⟩:=Jy (env:=st.env) e.env n;have:=Gk (X:=vx cx m (fs st) w) (X':=⟨⟨m.bl,λp=>(asg 0 sg.sgs (A++(B++O)) p).bind m.tk⟩,λ_=>False,(vx cx m (fs st) w).S,w,0,sg.sgs.length,cx.el⟩) (λ_ _ h=>h) rfl rfl 0 hd (λt q=>(List.mem_filter.1 q).1) (f.append (g.append i)) (λp r=>by have:=(Gq _ _ _ r).2;exact⟨by simpa using this,rfl⟩)
  exact Ab2 this
 ·cases hd
theorem Bza{vars:Yb1 (Nat×Sg)}(h:Dk (vars.map (·.1)) (List.range vars.length)=true){i:Nat}{s:Sg}(hi:vars[i]? = some (k,s)):k=i:=by have a:=congrArg (·[i]?) (G7 h);simp[ hi]at a;rw[List.getElem?_range ((Zi2.1 hi).1)]at a;simpa using a
theorem E4{stbl:Yb1 (Nat×Blk)}:∀{bl:Yb1 (Nat×Bs)}{B:Yb1 D},Bo stbl bl=some B->∀p,p∈bl->blk stbl p.1≠none
 |[],_,_,p,a=>by cases a
 |(b0,.cells l)::bl,B,hg,p,a=>by
  simp[Bo]at hg;split at hg
  ·rename_i ds es e b;rcases List.mem_cons.1 a with rfl|a
   ·rw[e];simp
   ·exact E4 b p a
  ·cases hg
 |(b0,.one s)::bl,B,hg,p,a=>by
  simp[Bo]at hg;split at hg
  ·cases hg
  ·cases hg
  ·cases hg
  ·cases hg
  ·cases hg
  ·rename_i k es _ _ _ _ _ f b;rcases List.mem_cons.1 a with rfl|a
   ·rw[f];simp
   ·exact E4 b p a
  ·cases hg
 |(b0,.bld t0)::bl,B,hg,p,a=>by
  simp[Bo]at hg;split at hg
  ·rename_i t1 d es f b;rcases List.mem_cons.1 a with rfl|a
   ·rw[f];simp
   ·exact E4 b p a
  ·cases hg
 |(b0,.fx l)::bl,B,hg,p,a=>by
  simp[Bo]at hg;split at hg
  ·rename_i ds es e b;split at hg
   ·rcases List.mem_cons.1 a with rfl|a
    ·rw[e];simp
    ·simp at hg;subst hg;exact E4 b p a
   ·cases hg
  ·cases hg
 |(b0,.oc l b1 c)::bl,B,hg,p,a=>by
  simp[Bo]at hg;split at hg
  ·rename_i ds es e b;rcases List.mem_cons.1 a with rfl|a
   ·rw[e];simp
   ·exact E4 b p a
  ·cases hg
 |(b0,.rc n ps asg body env q)::bl,B,hg,p,a=>by
  simp[Bo]at hg;split at hg
  ·rename_i k es f b;rcases List.mem_cons.1 a with rfl|a
   ·rw[f];simp
   ·exact E4 b p a
  ·cases hg
theorem Yz{σ:Ren}{nb:Nat}:∀{bl:Yb1 (Nat×Bs)},(bl.all λp=>Bi1 σ nb p.2)=true->∀d,d∈fxs bl->∀b,b∈Dr d->look σ b=some b/\b<nb
 |[],_,d,hd=>by cases hd
 |(_,.cells _)::bl,h,d,hd=>by simp only[Zv1,Zb1]at h;exact Yz h.2 d hd
 |(_,.one _)::bl,h,d,hd=>by simp only[Zv1,Zb1]at h;exact Yz h.2 d hd
 |(_,.bld _)::bl,h,d,hd=>by simp only[Zv1,Zb1]at h;exact Yz h.2 d hd
 |(_,.fx l)::bl,h,d,hd=>by
  simp only[Zv1,Zb1]at h;simp[fxs,List.mem_append]at hd;rcases hd with hd|hd
  ·intro b hb;have a:=Zg2.1 (Zg2.1 h.1 d hd) b hb;simp at a;refine⟨?_,by simpa[Nat.blt_eq]using a.2⟩;cases e:look σ b with|none=>rw[e]at a;cases a.1|some k=>rw[e]at a;rw[Zl1 a.1]
  ·exact Yz h.2 d hd
 |(_,.oc l b1 c)::bl,h,d,hd=>by
  simp only[Zv1,Zb1]at h;simp[fxs,List.mem_cons]at hd;rcases hd with rfl|hd
  ·intro b hb;simp[Dr]at hb;subst hb;have a:=h.1;simp[Bi1,Zb1]at a;refine⟨?_,by simpa[Nat.blt_eq]using a.2⟩;cases e:look σ b with|none=>rw[e]at a;cases a.1|some k=>rw[e]at a;rw[Zl1 a.1]
  ·exact Yz h.2 d hd
 |(_,.rc n ps asg body env q)::bl,h,d,hd=>by
  simp only[Zv1,Zb1]at h;simp only[fxs]at hd;rcases List.mem_append.1 hd with hd|hd
  ·intro b hb;obtain⟨p,f,rfl⟩:=List.mem_map.1 hd;have g:(env.all λp=>(Dr p.2).all λb=>(match look σ b with
    |some k=>Nat.beq k b
    |none=>false)&&Nat.blt b nb)=true:=h.1
   have a:=Zg2.1 (Zg2.1 g p f) b hb;simp at a;refine⟨?_,by simpa[Nat.blt_eq]using a.2⟩;cases e:look σ b with|none=>rw[e]at a;cases a.1|some k=>rw[e]at a;rw[Zl1 a.1]
  ·exact Yz h.2 d hd
theorem Bwn{bl:Yb1 (Nat×Bs)}{d:D}{b:Nat}(hd:d∈fxs bl)(hb:b∈Dr d):b∈(fxs bl).flatMap Dr:=List.mem_flatMap.2 ⟨d,hd,hb⟩
theorem Aqb{env:Env}:∀{vars:Yb1 (Nat×Sg)}{A:Yb1 D},Ks env vars=some A->A.length=vars.length
 |[],A,h=>by simp[Ks]at h;subst h;rfl
 |p::vars,A,h=>by
  simp[Ks]at h;split at h
  ·rename_i d ds _ a;simp at h;subst h;simp[Aqb a]
  ·cases h
variable{so:Sig}{g:Nat}
theorem Axa{F:HV sg.sgs->Ya1 (HV so.sgs)}(h:FnLn cx.P cx.el cx.gl g sg so F)(b2:lnB sg so=true){K:Yb1 D->St->Ya1 R}{r:R}(hc:Ct sg so F args st K=some r):I5 cx g args st K r:=by
 simp only[lnB,Zb1]at b2;obtain⟨⟨⟨⟨⟨⟨⟨⟨⟨⟨k1,k2⟩,k3⟩,k4⟩,k5⟩,k6⟩,k7⟩,k8⟩,bk⟩,bn⟩,bo⟩:=b2;have k5:=Zl1 k5;refine⟨h.enters,λm a as_ w vs hr ay=>?_⟩;unfold Ct at hc;generalize De sg args=σ at hc;split at hc
 ·rename_i st0 hσ h0;simp only[Zb1]at hσ;obtain⟨⟨hσ,hσn⟩,hσf⟩:=hσ;have hσn:∀p,p∈σ->p.2<sg.nb:=λp hp=>by simpa[Nat.blt_eq]using Zg2.1 hσn p hp
  split at hc
  ·rename_i x hx;cases hF:F x with
   |none=>rw[hF]at hc;cases hc
   |some r0=>
    rw[hF,Zc1]at hc;obtain⟨m0,a8,e1,e2,e3,e4,ae,b3,hI,hM,ag,ah⟩:=Bqe k1 hσ hσn h0 hr ay;obtain⟨bp,a9⟩:=ah.recode k1 hx;have ai:st0.fr=[H9 sg]/\(∀t,t∈st0.tk->t∈st.tk)/\∀b k,(b,k)∈σ->blk st0.bl k≠none:=by
     unfold Mf at h0;split at h0
     ·rename_i bq b5 ha hb;simp[Za1]at h0;subst h0;exact⟨rfl,λt ht=>Ii ht,λb k hm=>(Akj hb b k hm).2⟩
     ·cases h0
    rw[ai.1]at a9;refine(h.run x r0 hF (Bul k1 hx ah) a8 bp vs _ w e1 e2 e3 a9).mono ?_;rintro en w' ⟨us,st1,m1,rfl,b6,a7,l⟩;have b7:∀k,(sg.bl.map (·.1)).contains k=true->m1.bl k=m0.bl k:=λk hk=>by
     rw[b6 k hk];have hf:=a9.frs;have e:(fs (Ge sg [H9 sg] x)).fr=[H9 sg]:=by unfold Ge;split;rfl
     rw[e]at hf;obtain⟨a',r',he,_,_,b9,_⟩:=hf;simp[Ze2]at he;obtain⟨rfl,_⟩:=he;obtain⟨v,hv,ao⟩:=b9.get k _ (Acb hk);have an:k<sg.nb:=by simp only[List.contains_iff_mem,List.mem_map]at hk;obtain⟨p,hp,rfl⟩:=hk;simp only[X7,Zb1]at k1;have:=Zg2.1 k1.1.1.2 p hp;simp[Zb1]at this;simpa[Nat.blt_eq]using this.1
     rw[Awu an]at hv;simp[Za1]at hv;subst hv;simp only[Rep,Value.pointer.injEq,Za1,Addr.mk.injEq]at ao;exact ao.2.1.symm
    simp only[X7,Zb1]at k2;obtain⟨⟨⟨_,ba⟩,_⟩,_⟩:=k2;unfold Js at a7;split at a7
    ·rename_i A B O hA hB hO bb;obtain⟨VA,bc,bd⟩:=Lh (env:=st1.env) l.env hA;obtain⟨VB,bs,ap⟩:=Dv (x:=vx a8 m1 (fs st1) w') (m:=m1.bl) (stbl:=st1.bl) (λb k hk=>(l.blks b k hk).2) hB ba;obtain⟨VO,be,_⟩:=Jy (env:=st1.env) l.env hO;obtain⟨bu,bv⟩:=S2 st.nt a7;have ar:∀t,t∈(st1.tk.filter λt=> !so.tk.contains t)->t∈st1.tk:=λt ht=>(List.mem_filter.1 ht).1;let E:=Ca st.nt so.sgs r0;let nw:=Di so.bl (E.drop so.vars.length);let st':St:={ st with bl:=Afz σ nw st.bl,tk:=Bb st.nt so.sgs++st.tk.filter (λt=> !(st0.tk).contains t),nt:=st.nt+so.sgs.length };let m':Mp:=⟨m.bl,λt=>if t<st.nt then m.tk t else(asg st.nt so.sgs (A++(B++O)) t).bind m1.tk⟩;have au:Chg a8.I w w':=by have:=l.chg;rw[e4]at this;exact this
     have az:Chg (D8 m (fs st)) w w':=au.mono λb i hi=>ag b i (hI b i hi);have a4:∀t,t∈Bb st.nt so.sgs++st.tk.filter (λt=> !(st0.tk).contains t)->(t∈st.tk/\t∉st0.tk/\t<st.nt/\m'.tk t=m.tk t)\/(st.nt<=t/\t<st.nt+so.sgs.length/\m'.tk t=(asg st.nt so.sgs (A++(B++O)) t).bind m1.tk):=λt ht=>by
      simp[List.mem_append,List.mem_filter]at ht;rcases ht with ht|⟨ht,hn⟩
      ·obtain⟨c,f⟩:=Gq _ _ _ ht;exact .inr ⟨c,f,by simp[m',Nat.not_lt.2 c]⟩
      ·have an:t<st.nt:=hr.als t ht;refine .inl ⟨ht,λhm=>?_,an,by simp[m',an]⟩;simp[hm]at hn
     have z:∀t g o,st.nt<=t->m'.tk t=some (g,o)->∃t1,asg st.nt so.sgs (A++(B++O)) t=some t1/\t1∈st1.tk/\m1.tk t1=some (g,o):=λt g o bw hg=>by simp[m',if_neg (Nat.not_lt.2 bw)]at hg;cases ha:asg st.nt so.sgs (A++(B++O)) t with|none=>rw[ha]at hg;cases hg|some t1=>rw[ha,Zc1]at hg;exact⟨t1,rfl,ar _ (bu t t1 ha).1,hg⟩
     have av:∀b i,D8 m0 (fs st0) b i->(∃q k,(q,k)∈σ/\blk st.bl q≠none/\b=m.bl q)\/∃t o,t∈st0.tk/\m.tk t=some (b,o):=by
      rintro b i (⟨k,hk,rfl⟩|⟨t,o,c,f,u⟩)
      ·unfold Mf at h0;split at h0
       ·rename_i bq b5 ha hb;simp[Za1]at h0;subst h0;cases hK:blk b5 k with|none=>exact absurd hK hk|some K'=>obtain⟨q,K,q1,y,_⟩:=P2 hb k K' hK;obtain⟨k',ac⟩:=Apt q1;have bz:k' = k:=(Afb hσ (R5 ac) q1).1 rfl;rw[bz]at ac;exact .inl ⟨q,k,q1,by rw[y];simp,ae q k ac⟩
       ·cases h0
      ·rw[b3]at f;exact .inr ⟨t,o,c,f⟩
     have a5:∀b,blk st.bl b≠none->look σ b=none->∀i,¬D8 m0 (fs st0) (m.bl b) i:=λb hb hl i hi=>by
      rcases av _ _ hi with ⟨q,k,q1,y,q3⟩|⟨t,o,q1,y⟩
      ·have:=hr.inj b q hb y q3;subst this;obtain⟨k',ac⟩:=Apt q1;rw[hl]at ac;cases ac
      ·exact hr.injbt b t _ _ hb (ai.2.1 t q1) y rfl
     have a2:∀t g o,t∈st.tk->t∉st0.tk->m.tk t=some (g,o)->∀i,¬D8 m0 (fs st0) g i:=λt g o ht hn hg i hi=>by
      rcases av _ _ hi with ⟨q,k,q1,y,q3⟩|⟨t',o',q1,y⟩
      ·exact hr.injbt q t g o y ht hg q3.symm
      ·exact hn (hr.injt t t' g o o' ht (ai.2.1 t' q1) hg y▸q1)
     have aj:∀b,b<w.heap.size->(∀i,¬D8 m0 (fs st0) b i)->w'.heap[b]? = w.heap[b]? :=λb hb hn=>au.block b hb λi hi=>hn i (hI b i hi);have ak:∀b k K,look σ b=some k->blk nw k=some K->(so.bl.map (·.1)).contains k=true/\m1.bl k=m.bl b:=λb k K hl hK=>by
      have c:=Hp hK;refine⟨c,?_⟩;have f:(sg.bl.map (·.1)).contains k=true:=by simp only[List.contains_iff_mem,List.mem_map]at c;obtain⟨p,hp,rfl⟩:=c;exact Zg2.1 bn p hp
      rw[b7 k f,ae b k hl]
     have aa:∀b K,blk (Afz σ nw st.bl) b=some K->(look σ b=none/\blk st.bl b=some K)\/∃k,look σ b=some k/\blk st.bl b≠none/\blk nw k=some K:=λb K hK=>by
      rw[Ape]at hK;cases hl:look σ b with
      |none=>rw[hl]at hK;exact .inl ⟨rfl,hK⟩
      |some k=>
       rw[hl]at hK;simp only at hK;split at hK
       ·rename_i hs;exact .inr ⟨k,rfl,by cases hq:blk st.bl b with|none=>rw[hq]at hs;cases hs|some _=>simp,hK⟩
       ·cases hK
     have a3:∀b,(fs st').bl b≠none->blk st.bl b≠none:=λb hb=>by
      cases hK:blk (Afz σ nw st.bl) b with
      |none=>exact absurd hK hb
      |some K=>
       rcases aa b K hK with ⟨_,f⟩|⟨_,_,f,_⟩
       ·rw[f];simp
       ·exact f
     have am:ShL ((so.bl.map (·.2.sgs)).flatten++A48 so.ow) (E.drop so.vars.length):=by have bf:=Ajp st.nt so.sgs r0;simp[Sig.sgs]at bf;have bg:=bf.split.2;simp[List.length_map]at bg;exact bg
     have aw:∀b i,D8 m' (fs st') b i->D8 m (fs st) b i\/∃t1 o,t1∈st1.tk/\m1.tk t1=some (b,o)/\o<=i:=by
      rintro b i (⟨q,hq,rfl⟩|⟨t,o,c,f,u⟩)
      ·exact .inl (.inl ⟨q,a3 q hq,rfl⟩)
      ·rcases a4 t c with ⟨q1,_,_,q4⟩|⟨q1,_,_⟩
       ·rw[q4]at f;exact .inl (.inr ⟨t,o,q1,f,u⟩)
       ·obtain⟨t1,_,p2,p3⟩:=z t b o q1 f;exact .inr ⟨t1,o,p2,p3,u⟩
     have ab:∀t1 b o,t1∈st1.tk->m1.tk t1=some (b,o)->b<w'.heap.size/\(D8 m (fs st) b o\/w.heap.size<=b):=λt1 b o c f=>by obtain⟨q1,y⟩:=l.own b o (.inr ⟨t1,o,c,f,Zn1 _⟩);rw[e4]at y;exact⟨q1,y.imp (λh=>ag b o (hI b o h)) id⟩
     have a6:∀t1 b o,t1∈st1.tk->m1.tk t1=some (b,o)->a8.I b o\/w.heap.size<=b:=λt1 b o c f=>by obtain⟨_,y⟩:=l.own b o (.inr ⟨t1,o,c,f,Zn1 _⟩);rw[e4]at y;exact y
     have up:∀b o i,D8 m (fs st) b o->o<=i->D8 m (fs st) b i:=by
      rintro b o i (⟨q,hq,rfl⟩|⟨t,o',c,f,u⟩) c5
      ·exact .inl ⟨q,hq,rfl⟩
      ·exact .inr ⟨t,o',c,f,Nat.le_trans u c5⟩
     have nx:Nx (vx cx m (fs st) w) (vx cx m' (fs st') w'):=by
      refine⟨az.mono λb i hi=>.inr hi,?_,rfl,λ_ _=>rfl,Zn1 _,Nat.le_add_right _ _,λt ht ha=>?_⟩
      ·rintro b i (hm|hf)
       ·exact .inl (.inl hm)
       ·rcases aw b i hf with h|⟨t1,o,c,f,u⟩
        ·exact .inl (.inr h)
        ·rcases(ab t1 b o c f).2 with h|h
         ·exact .inl (.inr (up b o i h u))
         ·exact .inr h
      ·have ht:t<st.nt:=ht;rcases a4 t ha with ⟨q1,y,_,q4⟩|⟨q1,_,_⟩
       ·exact⟨q1,q4,λg o hg=>aj g (hr.own_t q1 hg) (a2 t g o q1 y hg)⟩
       ·omega
     have hS:∀b i,(vx cx m' (fs st') w').S b i->(vx a8 m1 (fs st1) w').S b i:=by
      rintro b i (hm|hf)
      ·exact .inl ((hM b i).2 ⟨.inl hm,λj hj=>hr.disj hm (ag b j hj)⟩)
      ·rcases hf with ⟨q,hq,rfl⟩|⟨t,o,c,f,u⟩
       ·cases hl:look σ q with
        |none=>exact .inl ((hM _ i).2 ⟨.inr (.inl ⟨q,a3 q hq,rfl⟩),a5 q (a3 q hq) hl⟩)
        |some k=>
         cases hK:blk (Afz σ nw st.bl) q with
         |none=>exact absurd hK hq
         |some K=>
          rcases aa q K hK with ⟨c,_⟩|⟨k',c,_,u⟩
          ·rw[hl]at c;cases c
          ·rw[hl]at c;simp[Za1]at c;subst c;obtain⟨q1,y⟩:=ak q k K hl u;refine .inr (.inl ⟨k,?_,y⟩);simp only[List.contains_iff_mem,List.mem_map]at q1;obtain⟨p,hp,rfl⟩:=q1;exact E4 hB p hp
       ·rcases a4 t c with ⟨q1,y,_,q4⟩|⟨q1,_,_⟩
        ·rw[q4]at f;exact .inl ((hM b i).2 ⟨.inr (.inr ⟨t,o,q1,f,u⟩),a2 t b o q1 y f⟩)
        ·obtain⟨t1,_,p2,p3⟩:=z t b o q1 f;exact .inr (.inr ⟨t1,o,p2,p3,u⟩)
     have b0:Reps (vx cx m' (fs st') w') E (VA++(VB++VO)):=Gk (X:=vx a8 m1 (fs st1) w') (X':=vx cx m' (fs st') w') hS rfl e2.symm st.nt a7 (λt ht=>ar t ht) (bc.append (bs.append be)) (λp hp=>by obtain⟨q1,y⟩:=Gq _ _ _ hp;exact⟨y,by simp[vx,m',Nat.not_lt.2 q1]⟩)
     have ax:∀d,d∈fxs so.bl->∀b,b∈Dr d->(vx cx m' (fs st') w').m.bl b=(vx a8 m1 (fs st1) w').m.bl b/\b<(vx cx m' (fs st') w').nb:=λd hd b hb=>by obtain⟨q1,y⟩:=Yz hσf d hd b hb;refine⟨?_,y⟩;show m.bl b=m1.bl b;rw[b7 b (Zg2.1 bo b (Bwn hd hb)),ae b b q1]
     have bh:VA.length=so.vars.length:=by have c:=bc.len;have:=Aqb hA;omega
     obtain⟨r1,r2⟩:=b0.take;rw[bh]at r1 r2;have bi:VB.length=((so.bl.map (·.2.sgs)).flatten).length:=by have q1:=r2.len;have y:=am.len;have q3:=be.len;have q4:=Rb hO;simp only[Zh1]at q1 y;omega
     obtain⟨r3,r4⟩:=r2.take;rw[bi]at r3 r4;have c6:us.length=so.n:=by have:=l.env.size;simp[List.size_toArray]at this;simp only[Zb1]at bb;have f:st1.n=so.n:=Zl1 bb.1.1.1.1.2;have u:(fs st1).n=st1.n:=rfl;omega
     have b1:so.n=so.vars.length->VA=us:=by
      intro hn;apply List.ext_getElem?;intro i;by_cases hi:i<so.vars.length
      ·obtain⟨⟨k,s⟩,hks⟩:∃p,so.vars[i]? = some p:=⟨_,Zo1 hi⟩;obtain⟨v,u,h4⟩:=bd i k s hks;rw[Bza bk hks]at h4;rw[u];simpa using h4.symm
      ·rw[List.getElem?_eq_none (by omega),List.getElem?_eq_none (by omega)]
     refine⟨_,rfl,_,_,m',hc,⟨rfl,rfl,rfl,rfl,rfl⟩,hr.step (s':=fs st') rfl rfl rfl rfl rfl az nx ?_ ?_ ?_ ?_ ?_ ?_,?_⟩
     ·intro b K' hK;rcases aa b K' hK with ⟨c,f⟩|⟨k,c,f,u⟩
      ·obtain⟨q1,y⟩:=hr.blks b K' f;have bj:blk st.bl b≠none:=by rw[f];simp
       exact⟨q1,y.later nx (aj _ (hr.own_b (b:=b) bj) (a5 b bj c))⟩
      ·obtain⟨q1,_,_⟩:=ap (vx cx m' (fs st') w') _ ⟨rfl,e2.symm⟩ ax am.split.1 r3 k K' (by rw[Fh];exact u);rw[(ak b k K' c u).2]at q1;cases hq:blk st.bl b with|none=>exact absurd hq f|some K0=>exact⟨(hr.blks b K0 hq).1,q1⟩
     ·intro t ht;rcases a4 t ht with ⟨_,_,q,_⟩|⟨_,q,_⟩
      ·show t<st.nt+so.sgs.length;omega
      ·exact q
     ·exactλb b' c f u=>hr.inj b b' (a3 b c) (a3 b' f) u
     ·intro t t' g o o' c f u h4;rcases a4 t c with ⟨q1,y,q3,q4⟩|⟨q1,_,_⟩<;>rcases a4 t' f with ⟨p1,p2,p3,p4⟩|⟨p1,_,_⟩
      ·rw[q4]at u;rw[p4]at h4;exact hr.injt t t' g o o' q1 p1 u h4
      ·rw[q4]at u;obtain⟨t1,_,s2,s3⟩:=z t' g o' p1 h4;rcases a6 t1 g o' s2 s3 with h|h
       ·exact absurd (hI g o' h) (a2 t g o q1 y u o')
       ·have:=hr.own_t q1 u;omega
      ·rw[p4]at h4;obtain⟨t1,_,s2,s3⟩:=z t g o q1 u;rcases a6 t1 g o s2 s3 with h|h
       ·exact absurd (hI g o h) (a2 t' g o' p1 p2 h4 o)
       ·have:=hr.own_t p1 h4;omega
      ·obtain⟨t1,s1,s2,s3⟩:=z t g o q1 u;obtain⟨t2,u1,u2,u3⟩:=z t' g o' p1 h4;have:=l.injt t1 t2 g o o' s2 u2 s3 u3;subst this;exact bv t t' t1 s1 u1
     ·intro b t g o c f u;have hb:=a3 b c;show m.bl b≠g;rcases a4 t f with ⟨q1,_,_,q4⟩|⟨q1,_,_⟩
      ·rw[q4]at u;exact hr.injbt b t g o hb q1 u
      ·obtain⟨t1,_,s2,s3⟩:=z t g o q1 u;intro e;cases hl:look σ b with
       |none=>
        rcases a6 t1 g o s2 s3 with h|h
        ·rw[<-e]at h;exact a5 b hb hl o (hI _ o h)
        ·have:=hr.own_b (b:=b) hb;omega
       |some k=>
        cases hK:blk (Afz σ nw st.bl) b with
        |none=>exact absurd hK c
        |some K=>
         rcases aa b K hK with ⟨h5,_⟩|⟨k',h5,_,h6⟩
         ·rw[hl]at h5;cases h5
         ·rw[hl]at h5;simp[Za1]at h5;subst h5;obtain⟨_,u2⟩:=ak b k K hl h6;obtain⟨_,u4,_⟩:=ap (vx cx m' (fs st') w') _ ⟨rfl,e2.symm⟩ ax am.split.1 r3 k K (by rw[Fh];exact h6);exact l.injbt k t1 g o u4 s2 s3 (u2.trans e)
     ·intro b i hf;rcases aw b i hf with h|⟨t1,o,c,f,u⟩
      ·exact⟨Zx1 (hr.own b i h).1 az.size,.inl h⟩
      ·obtain⟨q1,y⟩:=ab t1 b o c f;exact⟨q1,y.imp (λh=>up b o i h u) id⟩
     ·cases hb:Nat.beq so.n so.vars.length with|true=>rw[<-b1 (Zl1 hb)];exact Ho r1|false=>exact(show Rep _ .junk _ by simp[Rep])
    ·cases a7
  ·cases hc
 ·cases hc
def I4(sg so:Sig)(F:HV sg.sgs->Ya1 (HV so.sgs))(args:Yb1 D)(st:St)(K:D->Yb1 Nat->St->Ya1 R):Ya1 R:=Ct sg so F args st λrs st'=>K (Hh rs) ((De sg args).map (·.1)) st'
def Bbs(st:St):St:=⟨0,[],0,0,[],st.bl,st.nb,st.tk,st.nt,[]⟩
theorem Ahl(sg so:Sig)(F:HV sg.sgs->Ya1 (HV so.sgs))(args:Yb1 D)(st:St)(K:Yb1 D->St->Ya1 R):Ct sg so F args st K=(Ct sg so F args (Bbs st) λrs st'=>some (rs,st')).bind λx=>K x.1 { st with bl:=x.2.bl,tk:=x.2.tk,nt:=x.2.nt }:=by
 unfold Ct;have e:∀ σ,Mf sg σ args (Bbs st)=Mf sg σ args st:=λ_=>rfl;rw[e];show(match(Aw3 (De sg args)&&(De sg args).all (λp=>Nat.blt p.2 sg.nb)&&so.bl.all (λp=>Bi1 (De sg args) st.nb p.2)),Mf sg (De sg args) args st with|true,some st0=>_|_,_=>_)=(match(Aw3 (De sg args)&&(De sg args).all (λp=>Nat.blt p.2 sg.nb)&&so.bl.all (λp=>Bi1 (De sg args) st.nb p.2)),Mf sg (De sg args) args st with|true,some st0=>_|_,_=>_:Ya1 (Yb1 D×St)).bind _;cases (Aw3 (De sg args)&&(De sg args).all (λp=>Nat.blt p.2 sg.nb)&&so.bl.all (λp=>Bi1 (De sg args) st.nb p.2))with
 |false=>rfl
 |true=>
  cases Mf sg (De sg args) args st with
  |none=>rfl
  |some st0=>
   simp only;cases Js sg st0 with
   |none=>rfl
   |some x=>simp only;cases F x with|none=>rfl|some r=>rfl
variable{s:FS}
theorem B45(f:Dt s (fs st))(c:Rel cx m a as_ s w):∃st2:St,fs st2=s/\Bbs st2=Bbs st:=by
 have key:∀(n lo k:Nat),get ((List.range' lo n).filterMap λk=>(s.env k).map λd=>(k,d)) k=if lo<=k/\k<lo+n then s.env k else none:=by
  intro n;induction n with
  |zero=>intro lo k;simp only[List.range'_zero,List.filterMap_nil,get];rw[if_neg (by omega)]
  |succ n e=>
   intro lo k;rw[List.range'_succ,List.filterMap_cons];cases hd:s.env lo with
   |none=>
    simp[Option.map_none];rw[e];by_cases b:k=lo
    ·subst b;rw[if_neg (by omega),if_pos (by omega),hd]
    ·by_cases h:lo<=k/\k<lo+(n+1)
     ·rw[if_pos h,if_pos (by omega)]
     ·rw[if_neg h,if_neg (by omega)]
   |some d=>
    simp[Zl2,Bl];rw[e];by_cases b:k=lo
    ·subst b;rw[if_pos rfl,if_pos (by omega),hd]
    ·rw[if_neg b];by_cases h:lo<=k/\k<lo+(n+1)
     ·rw[if_pos h,if_pos (by omega)]
     ·rw[if_neg h,if_neg (by omega)]
 refine⟨⟨s.n,(List.range' 0 s.n).filterMap λk=>(s.env k).map λd=>(k,d),s.lb,s.lt,s.fr,st.bl,st.nb,st.tk,st.nt,s.df⟩,?_,rfl⟩;obtain⟨g,i,j,l⟩:=f;refine FS.eq rfl ?_ rfl rfl rfl g.symm i.symm j.symm l.symm;funext k;show get _ k=s.env k;rw[key];by_cases b : 0<=k/\k<0+s.n
 ·rw[if_pos b]
 ·rw[if_neg b];cases hd:s.env k with|none=>rfl|some d=>obtain⟨v,hv,_⟩:=c.env.get k d hd;have o:=(Zh2.1 hv).1;rw[c.env.size]at o;omega
theorem B14{F:HV sg.sgs->Ya1 (HV so.sgs)}(h:FnLn cx.P cx.el cx.gl g sg so F)(j:lnB sg so=true):F1 (R:=R) cx g (I4 sg so F):=by
 intro args st K r hc;have y:=hc;unfold I4 at hc;rw[Ahl]at hc;cases c:Ct sg so F args (Bbs st) λrs st'=>some (rs,st')with
 |none=>rw[c]at hc;cases hc
 |some x=>
  obtain⟨rs,e⟩:=x;rw[c]at hc;simp at hc;have d:∀b,b∉(De sg args).map (·.1)->blk e.bl b=blk st.bl b:=by
   unfold Ct at c;split at c
   ·split at c
    ·rename_i x0 z;cases o:F x0 with
     |none=>rw[o]at c;cases c
     |some r0=>rw[o,Zc1]at c;simp at c;obtain⟨_,rfl⟩:=c;intro b hb;show blk (Afz _ _ st.bl) b=_;rw[Ape];cases hl:look (De sg args) b with|none=>rfl|some k=>exact absurd (List.mem_map.2 ⟨(b,k),R5 hl,rfl⟩) hb
    ·cases c
   ·cases c
  refine⟨_,_,_,hc,⟨rfl,rfl,rfl,rfl,rfl⟩,Zn1 _,λb hb=>⟨λk l=>(d b hb).trans l,λk l _=>(d b hb).symm.trans l⟩,h.enters,λs m a as_ w vs hW p i=>?_⟩;obtain⟨st2,f,e2⟩:=B45 hW p;have h2:Ct sg so F args st2 (λrs st'=>some (rs,st'))=some (rs,{ st2 with bl:=e.bl,tk:=e.tk,nt:=e.nt }):=by rw[Ahl,e2,c];rfl
  have h3:=(Axa h j h2).2 m a as_ w vs (by rw[f];exact p) (by rw[f];exact i);refine h3.mono ?_;rintro en w' ⟨v,k1,a2,st',m',q,_,t,u⟩;simp at q;obtain⟨rfl,rfl⟩:=q;have e3:fs { st2 with bl:=e.bl,tk:=e.tk,nt:=e.nt }=E0 (fs { st with bl:=e.bl,tk:=e.tk,nt:=e.nt }) s:=by
   have n:(Bbs st2).nb=(Bbs st).nb:=by rw[e2]
   refine FS.eq ?_ ?_ ?_ ?_ ?_ rfl n rfl rfl (by rw[<-f];rfl)
   ·rw[<-f];rfl
   ·rw[<-f];rfl
   ·rw[<-f];rfl
   ·rw[<-f];rfl
   ·rw[<-f];rfl
  rw[e3]at t u;exact⟨v,k1,m',t,u⟩
end
abbrev FL(sg so:Sig):=HV sg.sgs->Ya1 (HV so.sgs)
section
variable {R:Type}
def B5i(a:Yb1 Sg)(st:St)(rs:Yb1 D)(K:Yb1 D->St->Ya1 R):Ya1 R:=match a with|[]=>K rs st|_::_=>Aiq a st rs K
variable{a:Act}{as_:Yb1 Act}{cx:Cx}{m:Mp}{st:St}{vs:Yb1 Value}{w:World}
theorem Bzs{r:R}{sr:Yb1 Sg}{ds:Yb1 D}{K:Yb1 D->St->Ya1 R}(c:Rel cx m a as_ (fs st) w)(hd:Reps (vx cx m (fs st) w) ds vs)(h:B5i sr st ds K=some r):∃b st' m',K b st' = some r/\Rel cx m' a as_ (fs st') w/\Nx (vx cx m (fs st) w) (vx cx m' (fs st') w)/\Reps (vx cx m' (fs st') w) b vs:=by cases sr with|nil=>exact⟨ds,st,m,h,c,⟨Chg.refl _ _,λ_ _ h=>.inl h,rfl,λ_ _=>rfl,Zn1 _,Zn1 _,λt _ d=>⟨d,rfl,λ_ _ _=>rfl⟩⟩,hd⟩|cons s l=>exact Aa2 c hd h
def H7(px:Px R)(fn:Func)(sg so:Sig)(x:HV sg.sgs)(fin:HV so.sgs->Ya1 R):Ya1 R:=match fn.body with
 |some c=>Hi px c { Ge sg [H9 sg] x with n:=fn.ntmps } λe st=>match e with
  |.exit _=>none
  |_=>match st.df,results px st fn.results.toList with
   |[],some rs=>B5i (so.vars.map (·.2)) st rs λa st'=>match Js so { st' with n:=a.length,env:=D3 0 a }with|some r=>fin r|none=>none
   |_,_=>none
 |none=>none
theorem Bsx{s:Sig}{x:HV s.sgs}(h:Js s st=some x):st.df=[]:=by
 unfold Js at h;split at h
 ·rename_i hc;simp only[Zb1]at hc;exact List.isEmpty_iff.1 hc.1.2
 ·cases h
theorem Bxh(sg:Sig)(fr:Yb1 Fr)(x:HV sg.sgs):(Ge sg fr x).n=sg.n:=by unfold Ge;rfl
theorem A4y(sg:Sig)(fr:Yb1 Fr)(x:HV sg.sgs):(Ge sg fr x).fr=fr:=by unfold Ge;rfl
variable{sg:Sig}{k:Nat}{s:FS}
theorem Bos{m':Mp}{s':FS}{w':World}{af:Act}{lb lt c d:Nat}(h:Aiw (vx cx m s w) lb lt [H9 sg] [af])(j:Aiw (vx cx m' s' w') c d [H9 sg] [af])(g:(sg.bl.map (·.1)).contains k=true):m'.bl k=m.bl k/\k<c:=by obtain⟨a,r,e,_,_,l,_⟩:=h;obtain⟨rfl,_⟩:=e;obtain⟨a',t,n,_,_,o,_⟩:=j;obtain⟨rfl,_⟩:=n;obtain⟨v,hv,p⟩:=l.get k _ (Acb g);obtain⟨u,b,f⟩:=o.get k _ (Acb g);rw[hv]at b;simp at b;subst b;obtain⟨_,rfl⟩:=p;obtain⟨q,i⟩:=f;simp only[Value.pointer.injEq,Za1,Addr.mk.injEq]at i;exact⟨i.1.symm,q⟩
variable{so:Sig}{F:FL sg so}{P:Program}{c:Code}{el:Ck->TypeId}{f:FuncId}{fn:Func}{gl:Nat->Ya1 Gv}{px:Px (HV so.sgs)}
theorem Acx(hf:P.funcs[f]? = some fn)(hb:fn.body=some c)(q:(fn.name == "runtime.NumGoroutine")=false)(hm:P.follows .mixedOrders=true)(j:(Bw fn.ntmps c&&Nat.ble sg.n fn.ntmps)=true)
  (a3:∀cx:Cx,cx.P=P->cx.el=el->cx.gl=gl->PxOk cx px/\C6 cx px/\CallQOk cx px/\∀b,b∈A8 c->Bp cx px b) (hF:∀x,H7 px fn sg so x some=F x):FnLn P el gl f sg so F:=by
 refine⟨Sx.enters_of hf (by rw[hb];rfl) q,λx r t _ cx m vs af w e1 e2 e3 i=>?_⟩;subst e1 e2 e3;simp only[Zb1]at j;have hle:sg.n<=fn.ntmps:=Nat.le_of_ble_eq_true j.2;have a8:vs.length=sg.n:=by have:=i.env.size;have e:(fs (Ge sg [H9 sg] x)).n=sg.n:=Bxh sg [H9 sg] x;rw[e]at this;simpa using this
 have u:Rel cx m { tmps:=vs.toArray++Array.replicate (fn.ntmps-vs.toArray.size) undef,defers:=[] } [af] (fs { Ge sg [H9 sg] x with n:=fn.ntmps }) w:=by
  refine⟨i.chg,⟨rfl,?_,λk d h=>?_⟩,i.frs,i.lb,i.lt,i.blks,i.als,i.inj,i.injt,i.injbt,i.own,i.away,i.glb⟩
  ·show _=fn.ntmps;simp;omega
  ·obtain⟨v,h2,h3⟩:=i.env.get k d h;refine⟨v,?_,h3⟩;have a4:k<vs.length:=by simpa using (Zh2.1 h2).1
   simp only[Array.getElem?_append,List.size_toArray,a4];exact h2
 rw[<-hF]at t;unfold H7 at t;rw[hb]at t;simp only at t;obtain⟨h1,h2,h3,h4⟩:=a3 cx rfl rfl rfl;refine calls_of_wp hf hb (Eg h1 h2 h3 hm c _ _ r j.1 h4 t _ m _ [af] w u ?_);intro e st' m' a' w' h s g;have a5:(fs st').fr=[H9 sg]:=s.2.trans (A4y sg [H9 sg] x);have y:(fs (Ge sg [H9 sg] x)).fr=[H9 sg]:=A4y sg [H9 sg] x;cases e
 case exit=>cases h
 all_goals
  simp only at h;split at h
  ·rename_i a9 a6 a7;obtain⟨us,p,o⟩:=D7 h1 g a7;obtain⟨rs,st2,m2,h,a,nx,l⟩:=Bzs g o h;split at h
   ·rename_i r' z;simp at h;subst h;refine⟨g.noDf a6,Sx.resv us,?_,us,_,m2,rfl,λk h=>?_,z,?_⟩
    ·obtain⟨rl⟩:∃rl,fn.results=List.toArray rl:=⟨fn.results.toList,by simp⟩;rename_i a2;rw[Sx.results_eq,a2];rw[a2]at p;simp only[List.mapM_toArray,Sem.run_bind,map_eq_pure_bind,p];congr 1;match us with|[]=>rfl|[v]=>rfl|_::_::_=>simp[Sx.resv]
    ·have q1:=i.frs;have q2:=g.frs;rw[y]at q1;rw[a5]at q2;obtain⟨q3,q4⟩:=Bos q1 q2 h;exact(nx.bl k (Zx1 q4 g.lb)).trans q3
    ·have hn:us.length=rs.length:=l.len;refine⟨a.chg,⟨(by have h9:=Bsx z;simp only at h9;show Az1 _ st2.df _;rw[h9];rfl),(by simpa using hn:us.toArray.size=rs.length),λk d h=>?_⟩,a.frs,a.lb,a.lt,a.blks,a.als,a.inj,a.injt,a.injbt,a.own,a.away,a.glb⟩;obtain⟨v,_,p2,p3⟩:=Ip 0 k d l h;exact⟨v,by simpa using p2,p3⟩
   ·cases h
  ·cases h
theorem Bvs{n:Nat}(e:P.funcs[f]? = some fn)(hb:fn.body=some c)(b:(fn.name == "runtime.NumGoroutine")=false)(hm:P.follows .mixedOrders=true)(a:(Sb fn&&Nat.ble sg.n fn.ntmps)=true)(g:Mg fn=n)
  (d:∀cx:Cx,cx.P=P->cx.el=el->cx.gl=gl->PxOk cx px/\C6 cx px/\CallQOk cx px/\∀i,i<n->Bp cx px (lp fn i)) (h:∀x,H7 px fn sg so x some=F x):FnLn P el gl f sg so F:=by
 refine Acx e hb b hm ?_ (λcx j k l=>?_) h
 ·unfold Sb at a;rw[hb]at a;exact a
 ·obtain⟨q1,m,o,p⟩:=d cx j k l;exact⟨q1,m,o,Ake hb g p⟩
end
section
variable {P:Program}{el:Ck->TypeId}{gl:Nat->Ya1 Gv}{f:FuncId}{sg so:Sig}
theorem FnLn.fin{ι:Type}{F : ι->FL sg so}{G:FL sg so}(i0 : ι)(h:∀i,FnLn P el gl f sg so (F i))(a:∀x r,BdL sg.sgs x->G x=some r->∃i,F i x=some r):FnLn P el gl f sg so G:=⟨(h i0).enters,λx r b hb cx m vs af w c d e g=>by obtain⟨i,hi⟩:=a x r hb b;exact(h i).run x r hi hb cx m vs af w c d e g⟩
theorem FnLn.fin0{F G:FL sg so}(h:FnLn P el gl f sg so F)(a:∀x r,BdL sg.sgs x->G x=some r->F x=some r):FnLn P el gl f sg so G:=.fin () (λ_=>h) λx r hb b=>⟨(),a x r hb b⟩
theorem FnLn.none(a:Sx.Enters P f):FnLn P el gl f sg so (λ_=>.none):=⟨a,λ_ _ h=>by cases h⟩
theorem FnLn.rec'{body:FL sg so->FL sg so}(a:Sx.Enters P f)(h:∀rf,FnLn P el gl f sg so rf->FnLn P el gl f sg so (body rf)):∀n,FnLn P el gl f sg so (Aj body n)
 |0=>FnLn.none a
 |n+1=>h _ (FnLn.rec' a h n)
end
def Uy{R:Type}(nb nt:Nat)(a:Px R)(fn:Func)(G:Fa R)(args:Yb1 D)(st:St)(K:Yb1 D->St->Ya1 R):Ya1 R:=match Nat.ble args.length fn.ntmps&&Nat.ble st.nb nb&&Nat.ble st.nt nt with
 |true=>Aye a fn args { st with nb:=nb,nt:=nt } K
 |false=>G args st K
variable{R:Type}{cx:Cx}{fn:Func}{g:Nat}{nb:Nat}
theorem A5z{nt:Nat}{a:Px R}{G:Fa R}(b:Hg cx g (A0 nb nt a fn))(c:Hg cx g G):Hg cx g (Uy nb nt a fn G):=by
 intro args st K r hc;unfold Uy at hc;split at hc
 ·rename_i d;exact b args st K r (by unfold A0;rw[d];exact hc)
 ·exact c args st K r hc
variable{so:Sig}{sg:Sig}{F:FL sg so}
theorem B5c(h:FnLn cx.P cx.el cx.gl g sg so F)(a:lnB sg so=true):Hg (R:=R) cx g (Ct sg so F):=λ_ _ _ _ hc=>Axa h a hc
end Go.Ax
