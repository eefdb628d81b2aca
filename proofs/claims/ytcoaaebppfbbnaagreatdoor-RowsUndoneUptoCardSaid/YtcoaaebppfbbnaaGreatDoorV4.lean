/- Texts of the proof,one behind the other: AxBd,AxLn,AxLo. -/
import Derived.Test.YtcoaaebppfbbnaaGreatDoorV3
set_option linter.all false
open List renaming length->I,range->dy,mem_append->fM,mem_cons->ek
open Option renaming some->J,none->ah
open Bool renaming true->ae,false->ai
open Decidable renaming decide->aa
open Go.Sem renaming run_bind->dG
open Nat renaming beq->bV,ble->dz,blt->ec,le_trans->e2,zero_le->cp
open Go renaming Value->aA,IntKind->b',World->aK,TypeId->bD,maxLen->c5,Program->cx
namespace Go
theorem rh{p:Prop}(h:p:=by rw[if_neg a]at h;exact .inr (aeI h)):p:=h
theorem _y{p:Prop}(h:p:=by simp at ao;subst ao;simp[aB]at a ⊢;obtain⟨vs,h1,h2⟩:=a;exact⟨vs,h1,h.bE c h2⟩):p:=h
theorem adX{p:Prop}(h:p:=by simp at ao;subst ao;obtain⟨h1,h2⟩:=h.ak b k e;simp[aB]at a ⊢;exact⟨h1,by rw[h2];exact a.2⟩):p:=h
theorem aed{p:Prop}(h:p:=by exact⟨rc,by rw[h.w];exact o,p,ko,lK,⟨rfl,r.size,λk d ao=>h.e (λk d ao=>r.get k d ao) ao⟩,nJ⟩):p:=h
end Go
namespace Go.dS
open Go.RowKit
def da(n:Int):Prop:= -9223372036854775808<=n/\n<=9223372036854775807
def b5(n:Nat):Prop:=n<=9223372036854775807
def sq(k:b')(n:Int):Prop:=k.min<=n/\n<=k.max
def rA(v:aH):Prop:=da v.kind/\da v.n/\b5 (I v.s)
inductive jS:bh->Prop
 |mk (k:Int) (v:aH) (c':ar) (l:List bh):da k->rA v->b5 (I c')->b5 (I l)->(∀e,e∈l->jS e)->jS (.mk k v c' l)
def i_{α:Type}(p : α->Prop)(l:U α):Prop:=b5 (I l)/\∀x,x∈l->p x
def Pl(c:cW):Prop:=b5 (I c.name)/\da c.kind/\b5 (I c.ref)
def Z'(s:kE):Prop:=b5 (I s.name)/\jS s.e
structure Fy (s:b4):Prop where
 kind:da s.kind
 name:b5 (I s.name)
 on:b5 (I s.on)
 al:i_ Pl s.al
 names:i_ (λx=>b5 (I x)) s.names
 l:i_ jS s.l
 rows:i_ (i_ jS) s.rows
 b8:i_ Z' s.b8
 ej:jS s.ej
 order:i_ (λx=>b5 (I x)) s.order
 desc:b5 (I s.desc)
 ca:da s.ca
def Z1(x:c3):Prop:=b5 (I x.name)/\i_ (λs=>b5 (I s)) x.al
structure amX (t:bU):Prop where
 name:b5 (I t.name)
 al:i_ Pl t.al
 key:i_ (λs=>b5 (I s)) t.key
 e9:i_ jS t.e9
 idx:i_ Z1 t.idx
inductive Fw:bs->Prop
 |mk (k:Int) (p:List UInt8) (h:Bool) (v:List UInt8) (l:List bs) (s:List UInt8):da k->b5 (I p)->b5 (I v)->b5 (I l)->(∀e,e∈l->Fw e)->b5 (I s)->Fw (.mk k p h v l s)
def Fj(p:b7):Prop:=b5 (I p.key)/\b5 (I p.val)
def _e(r:Hk):Prop:=i_ (i_ rA) r.rows/\da r.n
def wK:(c:b1)->cL c->Prop|.byte,_=>True|.int,n=>da n|.u64,n=>sq .u64 n|.str,s=>b5 (I s)|.bool,_=>True|.val,v=>rA v|.tok,t=>da t.kind/\da t.pos/\b5 (I t.s)/\da t.n|.cO,c=>Pl c|.expr,e=>jS e|.num,n=>i_ da n.d|.ep,l=>i_ rA l|.exprs,l=>i_ jS l|.strs,l=>i_ (λs=>b5 (I s)) l|.bytes,l=>b5 (I l)|.set,s=>Z' s|.stmt,s=>Fy s|.qR,g=>da g.pos|.pair,p=>b5 (I p.sign)/\da p.kind|.idx,x=>Z1 x|.tbl,t=>amX t|.node,n=>Fw n|.kv,p=>Fj p|.jM,l=>i_ Fj l|.lay,y=>i_ Fj y.l/\da y.e|.stt,n=>Fw n|.res,r=>_e r|.qX,o=>da o.e/\da o.pos/\i_ _e o.l|.ow,x=>da x.kind/\Fj x.p|.span,x=>b5 (I x.low)/\b5 (I x.high)|.u32,n=>sq .u32 n
def Ok:D->Prop|.int k n=>sq k n|.str l=>b5 (I l)|.sl c xs _=>i_ (wK c) xs|_=>True
theorem h8{n:Int}(h:sq .i64 n):da n:=by simpa[sq,da,b'.min,b'.signed,b'.bits]using h
variable{c:b1}
theorem Db{x:cL c}(h:∀(j:Nat) d,(enc c x)[j]? = J d->Ok d):wK c x:=by cases c with|byte=>trivial|int=>exact h8 (h 0 _ rfl)|u64=>exact h 0 _ rfl|u32=>exact h 0 _ rfl|str=>exact h 0 _ rfl|bool=>trivial|val=>exact⟨h8 (h 0 _ rfl),h8 (h 1 _ rfl),h 2 _ rfl⟩|tok=>exact⟨h8 (h 0 _ rfl),h8 (h 1 _ rfl),h 2 _ rfl,h8 (h 3 _ rfl)⟩|cO=>exact⟨h 0 _ rfl,h8 (h 1 _ rfl),h 4 _ rfl⟩|expr=>obtain⟨k,v,c',l⟩:=x;have h5:=h 5 _ rfl;exact .mk k v c' l (h8 (h 0 _ rfl)) ⟨h8 (h 1 _ rfl),h8 (h 2 _ rfl),h 3 _ rfl⟩ (h 4 _ rfl) h5.1 h5.2|num=>exact h 1 _ rfl|ep=>exact h 0 _ rfl|exprs=>exact h 0 _ rfl|strs=>exact h 0 _ rfl|bytes=>exact(h 0 _ rfl).1|set=>obtain⟨e,k,v,c',l⟩:=x;have h6:=h 6 _ rfl;exact⟨h 0 _ rfl,.mk k v c' l (h8 (h 1 _ rfl)) ⟨h8 (h 2 _ rfl),h8 (h 3 _ rfl),h 4 _ rfl⟩ (h 5 _ rfl) h6.1 h6.2⟩|stmt=>obtain⟨_,_,_,_,_,_,_,_,_,⟨k,v,c',l⟩,_,_,_⟩:=x;have a:=h 14 _ rfl;exact⟨h8 (h 0 _ rfl),h 1 _ rfl,h 2 _ rfl,h 3 _ rfl,h 4 _ rfl,h 5 _ rfl,h 6 _ rfl,h 7 _ rfl,.mk k v c' l (h8 (h 9 _ rfl)) ⟨h8 (h 10 _ rfl),h8 (h 11 _ rfl),h 12 _ rfl⟩ (h 13 _ rfl) a.1 a.2,h 15 _ rfl,(h 16 _ rfl).1,h8 (h 17 _ rfl)⟩|qR=>exact h8 (h 0 _ rfl)|pair=>exact⟨h 0 _ rfl,h8 (h 1 _ rfl)⟩|node=>obtain⟨k,p,b,v,l,s⟩:=x;have h4:=h 4 _ rfl;exact .mk k p b v l s (h8 (h 0 _ rfl)) (h 1 _ rfl).1 (h 3 _ rfl).1 h4.1 h4.2 (h 5 _ rfl).1|stt=>obtain⟨k,p,b,v,l,s⟩:=x;have h4:=h 4 _ rfl;exact .mk k p b v l s (h8 (h 0 _ rfl)) (h 1 _ rfl).1 (h 3 _ rfl).1 h4.1 h4.2 (h 5 _ rfl).1|kv=>exact⟨(h 0 _ rfl).1,(h 1 _ rfl).1⟩|jM=>exact h 0 _ rfl|lay=>exact⟨h 0 _ rfl,h8 (h 1 _ rfl)⟩|res=>exact⟨h 0 _ rfl,h8 (h 1 _ rfl)⟩|qX=>exact⟨h8 (h 0 _ rfl),h8 (h 1 _ rfl),h 2 _ rfl⟩|ow=>exact⟨h8 (h 0 _ rfl),(h 1 _ rfl).1,(h 2 _ rfl).1⟩|span=>exact⟨(h 0 _ rfl).1,(h 1 _ rfl).1⟩|idx=>exact⟨h 0 _ rfl,h 1 _ rfl⟩|tbl=>exact⟨h 0 _ rfl,h 1 _ rfl,h 2 _ rfl,h 3 _ rfl,h 4 _ rfl⟩
variable{w:aK}
theorem F4{d:D}{v:aA}(h:i' w d v):Ok d:=by induction h with|int k n e=>exact rS e|bool b=>trivial|str l f=>simpa[Ok,b5,c5]using f|nil c t a cap=>exact⟨by simp[b5],by simp⟩|sl c xs t b o cap u hle hm an h g=>refine⟨by simp[b5,c5]at *;omega,λx m=>Db λj d ao=>?_⟩;obtain⟨i,hi,rfl⟩:=List.getElem_of_mem m;exact g i _ j d (ho hi) ao
def Fx:(s:ck)->den s->Prop|.int k,n=>sq k n|.bool,_=>True|.str,s=>b5 (I s)|.sl c _,xs=>i_ (wK c) xs|.aI c,x=>wK c x|.rw c n,xs=>I xs=n/\∀x,x∈xs->wK c x|.e3 c,xs=>I xs<=c5/\∀x,x∈xs->wK c x|.nl _,_=>True
def oS:(l:U ck)->au l->Prop|[],_=>True|[a],x=>Fx a x|a::b::l,(x,y)=>Fx a x/\oS (b::l) y
variable{i:Nat}{s:ck}
theorem ada{x:cM}{y:den s}{v:aA}(h:aB x (eT i s y) v):Fx s y:=by cases s with|int k=>exact rS h.u8|bool=>trivial|nl _=>trivial|str=>simpa[Fx,b5,c5]using h.CG|sl c own=>cases own<;>(simp[eT]at h;exact F4 h.1.here)|aI c=>simp[eT]at h;obtain⟨_,vs,_,_,h⟩:=h;exact Db λj d ao=>by obtain⟨u,_,a⟩:=h j d ao;exact F4 a.here|rw c n=>simp[eT]at h;obtain⟨h1,vs,_,_,h⟩:=h;refine⟨h1,λz b=>Db λj d ao=>?_⟩;obtain⟨i,hi,rfl⟩:=List.getElem_of_mem b;obtain⟨u,_,a⟩:=h i _ j d (ho hi) ao;exact F4 a.here|e3 c=>simp[eT]at h;obtain⟨h1,vs,_,_,h⟩:=h;refine⟨h1,λz b=>Db λj d ao=>?_⟩;obtain⟨i,hi,rfl⟩:=List.getElem_of_mem b;obtain⟨u,_,a⟩:=h i _ j d (ho hi) ao;exact F4 a.here
theorem zV{x:cM}:∀{l:U ck}{i:Nat}{y:au l}{vs:U aA},aX x (en i l y) vs->oS l y
 |[],_,_,_,_=>trivial
 |[a],i,y,vs,h=>by simp only[en]at h;obtain⟨u,us,_,h1,_⟩:=h;exact ada h1
 |a::b::l,i,(y,z),vs,h=>by simp[en]at h;obtain⟨u,us,_,h1,h2⟩:=h;exact⟨ada h1,zV h2⟩
section
variable {P:cx}{el:b1->bD}{bM:Nat->af h_}{f:FuncId}{sa bH:U ck}
variable{ι:Type}
theorem eH.fin{F : ι->bb sa bH}{G:bb sa bH}(i0 : ι)(h:∀i,eH P el bM f sa bH (F i))(a:∀x r,oS sa x->G x=J r->∃i,F i x=J r):eH P el bM f sa bH G:=⟨(h i0).enters,λx r b w M vs h1 h2 h3=>by obtain⟨i,hi⟩:=a x r (zV h3) b;exact(h i).run x r hi w M vs h1 h2 h3⟩
theorem eH.de{F G:bb sa bH}(h:eH P el bM f sa bH F)(a:∀x r,oS sa x->G x=J r->F x=J r):eH P el bM f sa bH G:=.fin () (λ_=>h) λx r aj b=>⟨(),a x r aj b⟩
end
variable{R:Type}
theorem awl{b:Bool}{x:af R}(h:b=ae):ax b x=x:=by subst h;rfl
theorem ht{n:Int}(h:da n):wr .i64 n=n:=by simp[da]at h;simp only[wr,b'.wrap,b'.signed,b'.bits,Bool.true_and];split<;>simp at * <;> omega
theorem ak9{n:Nat}:aU (i:Int) n=aa (i<n):=by simp[aU]
theorem aeX{j n:Nat}:upto (i:Int) (j:Int) n=(aa (i<=j)&&aa (j<=n)):=by simp[upto]
abbrev ha:=U (Nat×Nat)
def look:ha->Nat->af Nat|[],_=>ah|(a,b)::l,n=>match bV a n with|true=>J b|false=>look l n
def vy(cr:ha):Bool:=cr.all λp=>cr.all λq=>(bV p.1 q.1) == (bV p.2 q.2)
def awn:D->D->ha|.ptr k _,.ptr b _=>[(b,k)]|_,_=>[]
def NX:U D->U D->ha|a::l,b::m=>awn a b++NX l m|_,_=>[]
def awd:D->D->ha|.ptr k _,.ptr b _=>[(b,k)]|.ks k,.ks b=>[(b,k)]|.fn _ cs,.fn _ cs'=>NX cs cs'|.kL _ cs,.kL _ cs'=>NX cs cs'|_,_=>[]
def NO(env:Env):U (Nat×D)->ha|[]=>[]|(i,d)::l=>match get env i with|some a=>awd d a++NO env l|none=>NO env l
def ado:D->Bool|.bool _|.int _ _|.str _|.sl _ _ _|.kS|.oC|.lf _=>ae|_=>ai
def Fc(cr:ha):D->af D
 |.ptr b o=>match look cr b with|some k=>J (.ptr k o)|none=>ah
 |.ks b=>match look cr b with|some k=>J (.ks k)|none=>ah
 |d=>match ado d with|true=>J d|false=>ah
def s6(cr:ha):U D->af (U D)|[]=>J []|d::l=>match Fc cr d,s6 cr l with|some a,J kR=>J (a::kR)|_,_=>ah
def AP(cr:ha):D->af D
 |.fn f cs=>match s6 cr cs with|some cs'=>J (.fn f cs')|none=>ah
 |.kL f cs=>match s6 cr cs with|some cs'=>J (.kL f cs')|none=>ah
 |.agg av=>match s6 cr av with
  |some a=>match a.all cv with|true=>J (.agg a)|false=>ah
  |none=>ah
 |.aI c x=>J (.aI c x)
 |.lb c x o=>J (.lb c x o)
 |d=>Fc cr d
def wY(cr:ha):U D->af (U D)|[]=>J []|d::l=>match AP cr d,wY cr l with|some a,J kR=>J (a::kR)|_,_=>ah
def q6(cr:ha):Env->Env|[]=>[]|(k,d)::l=>match AP cr d with|some a=>(k,a)::q6 cr l|none=>(k,.l4)::q6 cr l
def Fm(cr:ha):c_->af c_
 |.cells av=>match wY cr av with
  |some a=>match a.all cv with|true=>J (.cells a)|false=>ah
  |none=>ah
 |.hc s n bE bS body env=>J (.hc s n bE bS body (q6 cr env))
 |.lj j n bE bS body env q=>J (.lj j n bE bS body (q6 cr env) q)
 |k=>J k
def wR(cr:ha)(nb:Nat):g6->Bool|.iT av=>av.all λd=>(iA d).all λb=>(match look cr b with|some k=>bV k b|none=>ai)&&ec b nb|.g3 _ b _=>(match look cr b with|some k=>bV k b|none=>ai)&&ec b nb|.rc _ _ _ _ env _=>env.all λp=>(iA p.2).all λb=>(match look cr b with|some k=>bV k b|none=>ai)&&ec b nb|_=>ae
def Pj:U (Nat×g6)->ha|[]=>[]|(_,.rc _ _ _ _ env _)::l=>(env.flatMap λp=>iA p.2).map (λb=>(b,b))++Pj l|_::l=>Pj l
def jD(aQ:bt)(args:U D):ha:=NO (hh 0 args) aQ.fix++Pj aQ.ak
def te(ak:U (Nat×c_))(vr:ha):ha->af (U (Nat×c_))
 |[]=>J []
 |(b,k)::cr=>match bu ak b,te ak vr cr with
  |some K,J l=>match Fm vr K with|some fx=>J ((k,fx)::l)|none=>ah
  |_,_=>ah
def aen:D->U Nat|.sl _ _ (.id t)=>[t]|_=>[]
def awh:c_->U Nat|.cells av=>av.flatMap aen|.gO _ d=>aen d|_=>[]
def Pf(ak:U (Nat×c_))(a9:U Nat):U Nat:=a9.filter λt=>(ak.flatMap λp=>awh p.2).contains t
def kA(aQ:bt):Fr:=⟨aQ.nb,aQ.ak.map λp=>(p.1,.ptr p.1 0),0,0,[]⟩
def mH(cr:ha)(a:U (Nat×c_)):U (Nat×c_)->U (Nat×c_)
 |[]=>[]
 |(b,K)::l=>match look cr b with
  |none=>(b,K)::mH cr a l
  |some k=>match bu a k with|some fx=>(b,fx)::mH cr a l|none=>mH cr a l
section
variable {R:Type}
def pg(aQ:bt)(cr:ha)(args:U D)(st:bc):af bc:=match wY cr args,te st.ak cr cr with|some aw8,J ae9=>J ⟨I args,hh 0 aw8,aQ.nb,0,[kA aQ],ae9,aQ.nb,Pf ae9 st.a9,st.ba,[]⟩|_,_=>ah
def fS(aQ bG:bt)(F:au aQ.b3->af (au bG.b3))(args:U D)(st:bc)(K:U D->bc->af R):af R:=match vy (jD aQ args)&&(jD aQ args).all (λp=>ec p.2 aQ.nb)&&bG.ak.all (λp=>wR (jD aQ args) st.nb p.2),pg aQ (jD aQ args) args st with
 |true,J gD=>match ly aQ gD with
  |some x=>(F x).bind λr=>K (match bV bG.n (I bG.vars) with
     |true=>(en st.ba bG.b3 r).take (I bG.vars)
     |false=>[.l4]) { st with ak:=mH (jD aQ args) (eQ bG.ak ((en st.ba bG.b3 r).drop (I bG.vars))) st.ak,a9:=c8 st.ba bG.b3++st.a9.filter (λt=> !(gD.a9).contains t),ba:=st.ba+I bG.b3 }
  |none=>ah
 |_,_=>ah
end
def qV(aQ bG:bt):Bool:=lT aQ&&lT bG&&bV aQ.lt 0&&bV aQ.cd aQ.nb&&bV bG.lt 0&&bG.kq.isEmpty&&bG.fix.isEmpty&&bV bG.nb aQ.nb&&im (bG.vars.map (·.1)) (dy (I bG.vars))&&bG.ak.all (λp=>(aQ.ak.map (·.1)).contains p.1)&&((iv bG.ak).flatMap iA).all (λb=>(aQ.ak.map (·.1)).contains b)
structure gj (P:cx) (el:b1->bD) (bM:Nat->Option h_) (f:FuncId) (aQ bG:bt) (F:au aQ.b3->Option (au bG.b3)):Prop where
 enters:aw.jE P f
 run:∀x r,F x=J r->oS aQ.b3 x->∀(ab:cB) (m:dg) (vs:List aA) (nF:Act) (w:aK),ab.P=P->ab.el=el->ab.bM=bM->Rel ab m ⟨vs.toArray,[]⟩ [nF] (az (jq aQ [kA aQ] x)) w ->
  Calls P f vs.toArray w λdv w'=>∃us aG aR,dv = .returned (aw.lO us)/\(∀k,(aQ.ak.map (·.1)).contains k=ae->aR.ak k=m.ak k)/\ly bG aG = J r/\Rel ab aR ⟨us.toArray,[]⟩ [nF] (az aG) w'
theorem Y7(a b:Nat)(l:ha)(n:Nat):look ((a,b)::l) n=if n=a then J b else look l n:=by
 simp[look];by_cases h:n=a
 .subst h;simp
 .simp[lZ (Ne.symm h),h]
theorem B0:∀{cr:ha}{n k:Nat},look cr n=J k->(n,k)∈cr
 |[],_,_,h=>by simp[look]at h
 |(a,b)::l,n,k,h=>by
  rw[Y7]at h;by_cases c:n=a
  .grind
  .rw[if_neg c]at h;exact nE _ (B0 h)
theorem Nw:∀{cr:ha}{n k:Nat},(n,k)∈cr->∃c,look cr n=J c
 |(a,b)::l,n,k,h=>by
  rw[Y7];by_cases d:n=a
  .simp_all
  .rw[if_neg d];rcases ek.1 h with h|h
   .grind
   .exact Nw h
variable{cr:ha}
theorem Md(h:vy cr=ae){p q:Nat×Nat}(a:p∈cr)(b:q∈cr):p.1=q.1↔p.2=q.2:=by
 have h1:=cX.1 (cX.1 h p a) q b;simp at h1;constructor
 .intro e;have:bV p.1 q.1=true:=by rw[e];exact Nat.beq_refl _
  rw[this]at h1;exact cU h1.symm
 .intro e;have:bV p.2 q.2=true:=by rw[e];exact Nat.beq_refl _
  rw[this]at h1;exact cU h1
theorem Nq(cr:ha)(a:U (Nat×c_)):∀(ak:U (Nat×c_)) (b:Nat),bu (mH cr a ak) b=match look cr b with|none=>bu ak b|some k=>if(bu ak b).isSome then bu a k else ah
 |[],b=>by simp only[mH,bu];cases look cr b<;>simp
 |(q,K)::l,b=>by
  have c:=Nq cr a l b;simp only[mH];rw[fi];cases d:look cr q with
  |none=>
   simp only;rw[fi,c];by_cases aj:b=q
   .subst aj;simp[d]
   .simp[aj]
  |some k=>
   simp only;by_cases aj:b=q
   .subst aj;simp only[d,if_true,Option.isSome_some];cases e:bu a k with|none=>simp only;rw[c,d];simp[e]|some fx=>simp only;rw[fi,if_pos rfl]
   .cases e:bu a k with|none=>simp only;rw[c];simp[aj]|some fx=>simp only;rw[fi,if_neg aj,c];simp[aj]
structure k8 (cr:ha) (x hL:cM):Prop where
 w:hL.w=x.w
 el:hL.el=x.el
 S:∀b i,hL.S b i->x.S b i
 ak:∀b k,look cr b=J k->k<hL.nb/\hL.m.ak k=x.m.ak b
 ba:x.ba<=hL.ba
 a9:∀t,hL.cc t->x.cc t/\hL.m.a9 t=x.m.a9 t
section
variable {cr:ha}{x hL:cM}
theorem k8.rf(h:k8 cr x hL){d:D}{v:aA}(a:eI x.S x.w d v):eI hL.S hL.w d v:=by rw[h.w];exact a.later (bF.refl _ _) λk i hi=>.inl (h.S k i hi)
theorem k8.sl(h:k8 cr x hL){xs:U (cL c)}{t:hY}{v:aA}(a:aB x (.sl c xs t) v):aB hL (.sl c xs t) v:=by
 simp[aB]at a ⊢;refine⟨h.rf a.1,?_⟩;cases t with
 |no=>trivial
 |nil=>exact a.2
 |z=>exact a.2
 |ne=>exact a.2
 |vq=>exact a.2
 |f=>exact a.2
 |id t=>
  obtain⟨h1,h2⟩:=a.2;refine⟨gy h1 h.ba,λb=>?_⟩;obtain⟨a1,a2⟩:=h.a9 t b;rcases h2 a1 with ⟨p,q,r⟩|⟨g,cap,cur,p,q,r,s⟩
  .exact .inl ⟨p,a2.trans q,r⟩
  .exact .inr ⟨g,cap,cur,p,a2.trans q,by rw[h.w,h.el];exact r,s⟩
theorem k8.p(h:k8 cr x hL){d g:D}{v:aA}(ao:Fc cr d=J g)(a:aB x d v):aB hL g v:=by
 unfold Fc at ao;split at ao
 .rename_i b o;split at ao
  .rename_i k e;exact adX
  .cases ao
 .rename_i b;split at ao
  .rename_i k e;exact adX
  .cases ao
 .split at ao
  .rename_i f;simp at ao;subst ao;cases d<;>simp[ado]at f
   case sl c xs t=>exact h.sl a
   all_goals simpa only[aB]using a
  .cases ao
theorem k8.bE(h:k8 cr x hL):∀{av a:U D}{vs:U aA},s6 cr av=J a->aX x av vs->aX hL a vs
 |[],a,vs,ao,ay=>by simp[s6]at ao;subst ao;simpa[aX]using ay
 |d::av,a,vs,ao,ay=>by
  simp[s6]at ao;split at ao
  .rename_i c eO h1 h2;simp at ao;subst ao;simp[aX]at ay ⊢;obtain⟨u,us,rfl,bd,b⟩:=ay;exact⟨u,us,rfl,h.p h1 bd,h.bE h2 b⟩
  .cases ao
theorem k8.d(h:k8 cr x hL){d g:D}{v:aA}(ao:AP cr d=J g)(a:aB x d v):aB hL g v:=by
 unfold AP at ao;split at ao
 .split at ao
  .rename_i cs' c;exact _y
  .cases ao
 .split at ao
  .rename_i cs' c;exact _y
  .cases ao
 .split at ao
  .rename_i k f;split at ao
   .rename_i l;simp at ao;subst ao;simp only[aB]at a ⊢;obtain⟨_,vs,h1,h2⟩:=a;exact⟨l,vs,h1,h.bE f h2⟩
   .cases ao
  .cases ao
 .simp at ao;subst ao;simp[aB]at a ⊢;obtain⟨h1,vs,h2,h3,h4⟩:=a;exact⟨h1,vs,h2,h3,λj e m=>by obtain⟨u,n,q⟩:=h4 j e m;exact⟨u,n,h.rf q⟩⟩
 .simp at ao;subst ao;simp[aB]at a ⊢;obtain⟨b,o,h1,h2⟩:=a;exact⟨b,o,h1,λw' i=>h2 w' (by rw[h.w]at i;exact i.mono h.S)⟩
 .exact h.p ao a
theorem k8.l(h:k8 cr x hL):∀{av a:U D}{vs:U aA},wY cr av=J a->aX x av vs->aX hL a vs
 |[],a,vs,ao,ay=>by simp[wY]at ao;subst ao;simpa[aX]using ay
 |d::av,a,vs,ao,ay=>by
  simp[wY]at ao;split at ao
  .rename_i c eO h1 h2;simp at ao;subst ao;simp[aX]at ay ⊢;obtain⟨u,us,rfl,bd,b⟩:=ay;exact⟨u,us,rfl,h.d h1 bd,h.l h2 b⟩
  .cases ao
theorem Nl{k:Nat}{d:D}:∀{env:Env},get (q6 cr env) k=J d->∃d0,get env k=J d0/\(AP cr d0=J d\/d = .l4)
 |[],h=>by simp[q6,get]at h
 |(q,afg)::l,h=>by
  simp only[q6]at h;rw[ix];split at h
  .rename_i c b;rw[ix]at h;by_cases a:k=q
   .rw[if_pos a]at h ⊢;simp only[c4]at h;subst h;exact⟨afg,rfl,.inl b⟩
   .rw[if_neg a]at h ⊢;exact Nl h
  .rw[ix]at h;by_cases a:k=q
   .rw[if_pos a]at h ⊢;simp only[c4]at h;exact⟨afg,rfl,.inr h.symm⟩
   .rw[if_neg a]at h ⊢;exact Nl h
variable{k:Nat}
theorem k8.e(h:k8 cr x hL){a:Array aA}{env:Env}(b:∀k d,get env k=J d->∃v,a[k]? = J v/\aB x d v){d:D}(ao:get (q6 cr env) k=J d):∃v,a[k]? = J v/\aB hL d v:=by
 obtain⟨d0,h1,h2⟩:=Nl ao;obtain⟨v,h3,h4⟩:=b k d0 h1;refine⟨v,h3,?_⟩;rcases h2 with h2|rfl
 .exact h.d h2 h4
 .simp[aB]
theorem k8.b(h:k8 cr x hL){β:Nat}{K fx:c_}(f:Fm cr K=J fx)(g:gX x β K):gX hL β fx:=by
 unfold Fm at f;split at f
 .split at f
  .rename_i aZ aJ;split at f
   .rename_i bB;simp at f;subst f;obtain⟨_,vs,t,h1,h2⟩:=g;exact⟨bB,vs,t,by rw[h.w];exact h1,h.l aJ h2⟩
   .cases f
  .cases f
 .rename_i s n bE bS body env;simp at f;subst f;obtain⟨rc,o,p,ko,lK,r,nJ⟩:=g;exact aed
 .rename_i j n bE bS body env q;simp at f;subst f;refine⟨g.1,λcN=>?_,λcN=>?_⟩
  .obtain⟨rc,o,p,ko,lK,r,nJ⟩:=g.2.1 cN;exact aed
  .obtain⟨rc,o,p⟩:=g.2.2 cN;exact⟨rc,by rw[h.w];exact o,p⟩
 .simp at f;subst f;cases K with|cells av=>rename_i m _ _;exact absurd rfl (m av)|e' q=>simp only[gX]at g ⊢;rw[h.w];exact g|nN e=>simp only[gX]at g ⊢;rw[h.w];exact g|hc s n bE bS body env=>rename_i m _;exact absurd rfl (m s n bE bS body env)|lj j n bE bS body env q=>rename_i m;exact absurd rfl (m j n bE bS body env q)|box c y=>obtain⟨h0,vs,t,h1,h2,h3⟩:=g;exact⟨h0,vs,t,by rw[h.w];exact h1,h2,λj d ao=>by obtain⟨u,z,bO⟩:=h3 j d ao;exact⟨u,z,h.rf bO⟩⟩|row c n xs=>obtain⟨h0,vs,t,h1,h2,h3⟩:=g;exact⟨h0,vs,t,by rw[h.w];exact h1,h2,λi y j d bN ao=>by obtain⟨u,z,bO⟩:=h3 i y j d bN ao;exact⟨u,z,h.rf bO⟩⟩|dyn c xs=>obtain⟨h0,vs,t,h1,h2,h3⟩:=g;exact⟨h0,vs,t,by rw[h.w];exact h1,h2,λi y j d bN ao=>by obtain⟨u,z,bO⟩:=h3 i y j d bN ao;exact⟨u,z,h.rf bO⟩⟩|gO ty d=>obtain⟨⟨l,t,rfl⟩,a,v,h1,h2,h3⟩:=g;exact⟨⟨l,t,rfl⟩,a,v,by rw[h.w];exact h1,h2,h.sl h3⟩
end
theorem Hl{ak:U (Nat×c_)}{vr:ha}:∀{cr:ha}{a:U (Nat×c_)},te ak vr cr=J a->∀k fx,bu a k=J fx->∃b K,(b,k)∈cr/\bu ak b=J K/\Fm vr K=J fx
 |[],a,h,k,fx,aV=>by simp[te]at h;subst h;simp[bu]at aV
 |(b,q)::cr,a,h,k,fx,aV=>by
  simp[te]at h;split at h
  .rename_i K l aj d;split at h
   .rename_i awJ e;simp at h;subst h;rw[fi]at aV;by_cases c:k=q
    .subst c;rw[if_pos rfl]at aV;simp at aV;subst aV;exact⟨b,K,ot,aj,e⟩
    .rw[if_neg c]at aV;obtain⟨bQ,awK,h1,h2,h3⟩:=Hl d k fx aV;exact⟨bQ,awK,nE _ h1,h2,h3⟩
   .cases h
  .cases h
theorem UR{ak:U (Nat×c_)}{vr:ha}:∀{cr:ha}{a:U (Nat×c_)},te ak vr cr=J a->∀b k,(b,k)∈cr->bu ak b≠ah/\bu a k≠ah
 |[],a,h,b,k,hm=>by cases hm
 |(c0,q)::cr,a,h,b,k,hm=>by
  simp[te]at h;split at h
  .rename_i K l aj d;split at h
   .rename_i awJ e;simp at h;subst h;rw[fi];rcases ek.1 hm with hm|hm
    .simp at hm;obtain⟨rfl,rfl⟩:=hm;exact⟨by rw[aj];simp,by simp⟩
    .obtain⟨h1,h2⟩:=UR d b k hm;refine⟨h1,?_⟩;by_cases c:k=q
     .simp[c]
     .rw[if_neg c];exact h2
   .cases h
  .cases h
theorem tQ{ak:U (Nat×c_)}{a9:U Nat}{t:Nat}(h:t∈Pf ak a9):t∈a9:=(List.mem_filter.1 h).1
theorem tR{x:cM}:∀{av:U D}{us:U aA}(i k:Nat) (d:D),aX x av us->get (hh i av) k=J d->∃v,i<=k/\us[k-i]? = J v/\aB x d v
 |[],us,i,k,d,_,h=>by simp[hh,get]at h
 |e::av,us,i,k,d,ay,h=>by
  simp[aX]at ay;obtain⟨u,us,rfl,h1,h2⟩:=ay;simp[hh]at h;rw[ix]at h;by_cases a:k=i
  .subst a;exact N5
  .rw[if_neg a]at h;obtain⟨v,h3,h4,h5⟩:=tR (i+1) k d h2 h;refine⟨v,by omega,?_,h5⟩;exact Kr
theorem Si:∀{ak:U (Nat×g6)}{k:Nat}{d:D},get (ak.map λp=>(p.1,D.ptr p.1 0)) k=J d->d = .ptr k 0/\∃a,(k,a)∈ak
 |[],k,d,h=>by simp[get]at h
 |(q,a)::ak,k,d,h=>by
  simp at h;rw[ix]at h;by_cases c:k=q
  .subst c;simp at h;exact⟨h.symm,a,ot⟩
  .rw[if_neg c]at h;obtain⟨h1,b,h2⟩:=Si h;exact⟨h1,b,nE _ h2⟩
theorem DQ:∀{ak:U (Nat×g6)}{k:Nat},(ak.map (·.1)).contains k=ae->get (ak.map λp=>(p.1,D.ptr p.1 0)) k=J (.ptr k 0)
 |[],k,h=>by simp at h
 |(q,pz)::ak,k,h=>by
  simp;rw[ix];by_cases a:k=q
  .subst a;simp
  .rw[if_neg a];refine DQ (ak:=ak) ?_;simp only[e0,List.contains_cons,k_,beq_iff_eq]at h;exact h.resolve_left a
section
variable {R:Type}{ab:cB}
def wI(nb:Nat)(a:dg):Act:=⟨((dy nb).map λk=>aA.pointer (J ⟨a.ak k,0,ah⟩)).toArray,[]⟩
variable{k:Nat}{nb:Nat}
theorem Rs{a:dg}(h:k<nb):(wI nb a).tmps[k]? = J (.pointer (J ⟨a.ak k,0,ah⟩)):=by simp[wI,h]
variable{aQ:bt}{a:Act}{args:U D}{as_:U Act}{m:dg}{st:bc}{vs:U aA}
theorem atq(bW:lT aQ=ae)(so:vy cr=ae)(y6:∀p,p∈cr->p.2<aQ.nb){gD:bc}(h0:pg aQ cr args st=J gD)(x:Rel ab m a as_ (az st) w)(z:aX (vx ab m (az st) w) args vs) :
  ∃(s:dg) (f:cB),f.P=ab.P/\f.el=ab.el/\f.bM=ab.bM/\f.jy=w/\(∀b k,look cr b=J k->s.ak k=m.ak b)/\s.a9=m.a9/\(∀b i,f.g' b i->fj s (az gD) b i)/\(∀b i,f.M b i↔((vx ab m (az st) w).S b i/\∀j,¬fj s (az gD) b j)) /\
   (∀b i,fj s (az gD) b i->fj m (az st) b i)/\Rel f s ⟨vs.toArray,[]⟩ [wI aQ.nb s] (az gD) w:=by
 unfold pg at h0;split at h0
 .rename_i cE bz cI aj;simp at h0;subst h0;let inv:Nat->Nat:=λk=>((cr.find? λp=>bV p.2 k).map (·.1)).getD 0;have aJ:∀b k,(b,k)∈cr->inv k=b:=λb k hm=>by
   have cG:(cr.find? λp=>bV p.2 k).isSome=true:=by rw[List.find?_isSome];exact⟨(b,k),hm,Nat.beq_refl k⟩
   obtain⟨p,bn⟩:=Option.isSome_iff_exists.1 cG;have h1:=List.mem_of_find?_eq_some bn;have h2:=List.find?_some bn;have h2:=cU h2;simp[inv,bn];exact(Md so h1 hm).2 h2
  let s:dg:=⟨λk=>m.ak (inv k),m.a9⟩;let eE:FS:=az ⟨I args,hh 0 cE,aQ.nb,0,[kA aQ],bz,aQ.nb,Pf bz st.a9,st.ba,[]⟩;have bk:∀b k,look cr b=J k->s.ak k=m.ak b:=λb k u=>by simp[s,aJ b k (B0 u)]
  have aZ:∀k,eE.ak k≠ah->∃b,(b,k)∈cr/\(az st).ak b≠ah/\s.ak k=m.ak b:=λk u=>by cases m4:bu bz k with|none=>exact absurd m4 u|some fx=>obtain⟨b,K,h1,h2,_⟩:=Hl aj k fx m4;exact⟨b,h1,by show bu st.ak b≠ah;rw[h2];simp,by simp[s,aJ b k h1]⟩
  have ac:∀b i,fj s eE b i->fj m (az st) b i:=by
   rintro b i (⟨k,u,rfl⟩|⟨t,o,h1,h2,h3⟩)
   .obtain⟨q,_,h2,h3⟩:=aZ k u;exact .inl ⟨q,h2,h3.symm⟩
   .exact .inr ⟨t,o,tQ h1,h2,h3⟩
  let f:cB:=⟨ab.P,w,fj s eE,λb i=>(vx ab m (az st) w).S b i/\∀j,¬fj s eE b j,ab.el,ab.bM⟩;have gQ:∀b i,(vx f s eE w).S b i->(vx ab m (az st) w).S b i:=by
   rintro b i (h|h)
   .exact h.1
   .exact .inr (ac b i h)
  have iV:k8 cr (vx ab m (az st) w) (vx f s eE w):=⟨rfl,rfl,gQ,λb k u=>⟨y6 _ (B0 u),bk b k u⟩,b2 _,λt cg=>⟨tQ cg,rfl⟩⟩;have bL:=iV.l cI z;have b9:I vs=I args:=z.len;refine⟨s,f,rfl,rfl,rfl,rfl,bk,rfl,λ_ _ h=>h,λ_ _=>Iff.rfl,ac,?_⟩;show Rel f s ⟨vs.toArray,[]⟩ [wI aQ.nb s] eE w;simp only[lT,bx]at bW;obtain⟨⟨⟨_,ch⟩,_⟩,_⟩:=bW;refine⟨bF.refl _ _,⟨(show pU _ [] [] from rfl),(by simpa using b9:vs.toArray.size=I args),λk d u=>?_⟩,?_,b2 _,cp _,λk fx u=>?_,λt cg=>?_,λb bQ h1 h2 h3=>?_,λt t' g o o' h1 h2=>x.gb t t' g o o' (tQ h1) (tQ h2),λb t g o h1 h2 h3=>?_,λb i hi=>⟨(x.own b i (ac b i hi)).1,.inl hi⟩,λb i j hm=>⟨?_,hm.2 j⟩,?_⟩
  .obtain⟨v,_,h2,h3⟩:=tR 0 k d bL u;exact⟨v,by simpa using h2,h3⟩
  .refine⟨wI aQ.nb s,[],rfl,cp _,cp _,⟨(show pU _ [] [] from rfl),by simp[wI,kA],λk d u=>?_⟩,rfl⟩;obtain⟨rfl,pz,hm⟩:=Si u;have cy:k<aQ.nb:=by have:=cX.1 ch _ hm;simp at this;simpa using this.1
   exact⟨_,Rs cy,by simp[aB];exact⟨cy,rfl⟩⟩
  .obtain⟨b,K,h1,h2,h3⟩:=Hl aj k fx u;refine⟨y6 _ h1,?_⟩;have e:s.ak k=m.ak b:=by simp[s,aJ b k h1]
   rw[e];exact iV.b h3 (x.eb b K h2).2
  .exact x.hZ t (tQ cg)
  .obtain⟨q,bd,ei,fK⟩:=aZ b h1;obtain⟨ayz,p1,p2,p3⟩:=aZ bQ h2;rw[fK,p3]at h3;exact(Md so bd p1).1 (x.inj q ayz ei p2 h3)
  .obtain⟨q,_,ei,fK⟩:=aZ b h1;rw[fK];exact x.fH q t g o ei (tQ h2) h3
  .rcases hm.1 with h|h
   .have:=(x.fE b i 0 h).1;exact gy this x.dV.size
   .exact(x.own b i h).1
  .exact⟨λg c xs aW i y bN w' hw=>x.g1.1 g c xs aW i y bN w' (hw.mono gQ),λg l bB=>by obtain⟨r,es,am,bd,ei⟩:=x.g1.2.1 g l bB;exact⟨r,es,am,λw' hw=>bd w' (hw.mono gQ),ei⟩,λg k u=>by obtain⟨n,bd⟩:=x.g1.2.2 g k u;exact⟨n,λw' hw=>bd w' (hw.mono gQ)⟩⟩
 .cases h0
theorem aeI:∀{ak:U (Nat×g6)}{E:U D}{k:Nat}{K:c_},bu (eQ ak E) k=J K->(ak.map (·.1)).contains k=ae
 |[],E,k,K,h=>by simp[eQ,bu]at h
 |(q,.cells l)::ak,E,k,K,h=>by
  simp[eQ]at h;rw[fi]at h;simp only[e0,List.contains_cons,k_,beq_iff_eq];by_cases a:k=q
  .exact .inl a
  .exact rh
 |(q,.one s)::ak,[],k,K,h=>by
  simp[eQ]at h;rw[fi]at h;simp only[e0,List.contains_cons,k_,beq_iff_eq];by_cases a:k=q
  .exact .inl a
  .exact rh
 |(q,.one s)::ak,d::E,k,K,h=>by
  simp[eQ]at h;rw[fi]at h;simp only[e0,List.contains_cons,k_,beq_iff_eq];by_cases a:k=q
  .exact .inl a
  .exact rh
 |(q,.gO _)::ak,[],k,K,h=>by
  simp[eQ]at h;rw[fi]at h;simp only[e0,List.contains_cons,k_,beq_iff_eq];by_cases a:k=q
  .exact .inl a
  .exact rh
 |(q,.gO _)::ak,d::E,k,K,h=>by
  simp[eQ]at h;rw[fi]at h;simp only[e0,List.contains_cons,k_,beq_iff_eq];by_cases a:k=q
  .exact .inl a
  .exact rh
 |(q,.iT _)::ak,E,k,K,h=>by
  simp[eQ]at h;rw[fi]at h;simp only[e0,List.contains_cons,k_,beq_iff_eq];by_cases a:k=q
  .exact .inl a
  .exact rh
 |(q,.g3 _ _ _)::ak,E,k,K,h=>by
  simp[eQ]at h;rw[fi]at h;simp only[e0,List.contains_cons,k_,beq_iff_eq];by_cases a:k=q
  .exact .inl a
  .exact rh
 |(q,.rc n bE bS body env azw)::ak,E,k,K,h=>by
  have b:∃tY qg,bu ((q,tY)::eQ ak qg) k=J K:=by cases E with|nil=>exact⟨_,_,h⟩|cons d E=>cases d<;>exact⟨_,_,h⟩
  obtain⟨tY,qg,h⟩:=b;rw[fi]at h;simp only[e0,List.contains_cons,k_,beq_iff_eq];by_cases a:k=q
  .exact .inl a
  .exact rh
theorem aiE(c:lT aQ=ae){x:au aQ.b3}(ao:ly aQ st=J x)(e:Rel ab m a as_ (az st) w):oS aQ.b3 x:=by
 simp only[lT,bx]at c;obtain⟨⟨⟨_,d⟩,_⟩,_⟩:=c;unfold ly at ao;split at ao
 .rename_i A B O j l n _;obtain⟨mu,f,_⟩:=GV (env:=st.env) e.env j;obtain⟨iG,g,_⟩:=qe (x:=vx ab m (az st) w) (m:=m.ak) (q0:=st.ak) (λb k o=>(e.eb b k o).2) l d;obtain⟨qK,i,_⟩:=GJ (env:=st.env) e.env n;have:=o3 (X:=vx ab m (az st) w) (X':=⟨⟨m.ak,λp=>(bS 0 aQ.b3 (A++(B++O)) p).bind m.a9⟩,λ_=>False,(vx ab m (az st) w).S,w,0,I aQ.b3,ab.el⟩) (λ_ _ h=>h) rfl rfl 0 ao (λt q=>(List.mem_filter.1 q).1) (f.append (g.append i)) (λp r=>by have:=(o1 _ _ _ r).2;exact⟨by simpa using this,rfl⟩)
  exact zV this
 .cases ao
theorem akO{vars:U (Nat×ck)}(h:im (vars.map (·.1)) (dy (I vars))=ae)(hi:vars[i]? = J (k,s)):k=i:=by have h2:=congrArg (·[i]?) (rM h);simp[ hi]at h2;rw[List.getElem?_range ((hG.1 hi).1)]at h2;simpa using h2
theorem tE{q0:U (Nat×c_)}:∀{ak:U (Nat×g6)}{B:U D},hv q0 ak=J B->∀p,p∈ak->bu q0 p.1≠ah
 |[],_,_,p,a=>by cases a
 |(c0,.cells l)::ak,B,cP,p,a=>by
  simp[hv]at cP;split at cP
  .rename_i av es e b;rcases ek.1 a with rfl|a
   .rw[e];simp
   .exact tE b p a
  .cases cP
 |(c0,.one s)::ak,B,cP,p,a=>by
  simp[hv]at cP;split at cP
  .cases cP
  .cases cP
  .cases cP
  .cases cP
  .cases cP
  .rename_i k es _ _ _ _ _ f b;rcases ek.1 a with rfl|a
   .rw[f];simp
   .exact tE b p a
  .cases cP
 |(c0,.gO t0)::ak,B,cP,p,a=>by
  simp[hv]at cP;split at cP
  .rename_i t1 d es f b;rcases ek.1 a with rfl|a
   .rw[f];simp
   .exact tE b p a
  .cases cP
 |(c0,.iT l)::ak,B,cP,p,a=>by
  simp[hv]at cP;split at cP
  .rename_i av es e b;split at cP
   .rcases ek.1 a with rfl|a
    .rw[e];simp
    .simp at cP;subst cP;exact tE b p a
   .cases cP
  .cases cP
 |(c0,.g3 l du c)::ak,B,cP,p,a=>by
  simp[hv]at cP;split at cP
  .rename_i av es e b;rcases ek.1 a with rfl|a
   .rw[e];simp
   .exact tE b p a
  .cases cP
 |(c0,.rc n bE bS body env q)::ak,B,cP,p,a=>by
  simp[hv]at cP;split at cP
  .rename_i k es f b;rcases ek.1 a with rfl|a
   .rw[f];simp
   .exact tE b p a
  .cases cP
theorem sV{cr:ha}{nb:Nat}:∀{ak:U (Nat×g6)},(ak.all λp=>wR cr nb p.2)=ae->∀d,d∈iv ak->∀b,b∈iA d->look cr b=J b/\b<nb
 |[],_,d,ao=>by cases ao
 |(_,.cells _)::ak,h,d,ao=>by simp only[et,bx]at h;exact sV h.2 d ao
 |(_,.one _)::ak,h,d,ao=>by simp only[et,bx]at h;exact sV h.2 d ao
 |(_,.gO _)::ak,h,d,ao=>by simp only[et,bx]at h;exact sV h.2 d ao
 |(_,.iT l)::ak,h,d,ao=>by
  simp only[et,bx]at h;simp[iv,fM]at ao;rcases ao with ao|ao
  .intro b aj;have h1:=cX.1 (cX.1 h.1 d ao) b aj;simp at h1;refine⟨?_,by simpa[Nat.blt_eq]using h1.2⟩;cases a:look cr b with|none=>rw[a]at h1;cases h1.1|some k=>rw[a]at h1;rw[cU h1.1]
  .exact sV h.2 d ao
 |(_,.g3 l du c)::ak,h,d,ao=>by
  simp only[et,bx]at h;simp[iv,ek]at ao;rcases ao with rfl|ao
  .intro b aj;simp[iA]at aj;subst aj;have h1:=h.1;simp[wR,bx]at h1;refine⟨?_,by simpa[Nat.blt_eq]using h1.2⟩;cases a:look cr b with|none=>rw[a]at h1;cases h1.1|some k=>rw[a]at h1;rw[cU h1.1]
  .exact sV h.2 d ao
 |(_,.rc n bE bS body env q)::ak,h,d,ao=>by
  simp only[et,bx]at h;simp only[iv]at ao;rcases fM.1 ao with ao|ao
  .intro b aj;obtain⟨p,e,rfl⟩:=List.mem_map.1 ao;have h0:(env.all λp=>(iA p.2).all λb=>(match look cr b with
    |some k=>bV k b
    |none=>ai)&&ec b nb)=true:=h.1
   have h1:=cX.1 (cX.1 h0 p e) b aj;simp at h1;refine⟨?_,by simpa[Nat.blt_eq]using h1.2⟩;cases a:look cr b with|none=>rw[a]at h1;cases h1.1|some k=>rw[a]at h1;rw[cU h1.1]
  .exact sV h.2 d ao
theorem ajt{ak:U (Nat×g6)}{d:D}{b:Nat}(ao:d∈iv ak)(aj:b∈iA d):b∈(iv ak).flatMap iA:=List.mem_flatMap.2 ⟨d,ao,aj⟩
theorem WL{env:Env}:∀{vars:U (Nat×ck)}{A:U D},n' env vars=J A->I A=I vars
 |[],A,h=>by simp[n']at h;subst h;rfl
 |p::vars,A,h=>by
  simp[n']at h;split at h
  .rename_i d av _ a;simp at h;subst h;simp[WL a]
  .cases h
variable{bG:bt}{g:Nat}
theorem RD{F:au aQ.b3->af (au bG.b3)}(h:gj ab.P ab.el ab.bM g aQ bG F)(fr:qV aQ bG=ae){K:U D->bc->af R}{r:R}(an:fS aQ bG F args st K=J r):o8 ab g args st K r:=by
 simp only[qV,bx]at fr;obtain⟨⟨⟨⟨⟨⟨⟨⟨⟨⟨dN,eJ⟩,gl⟩,sr⟩,y7⟩,IP⟩,azj⟩,azk⟩,py⟩,qM⟩,pz⟩:=fr;have y7:=cU y7;refine⟨h.enters,λm a as_ w vs ay dF=>?_⟩;unfold fS at an;generalize jD aQ args=cr at an;split at an
 .rename_i gD so h0;simp only[bx]at so;obtain⟨⟨so,y6⟩,axY⟩:=so;have y6:∀p,p∈cr->p.2<aQ.nb:=λp bn=>by simpa[Nat.blt_eq]using cX.1 y6 p bn
  split at an
  .rename_i x aW;cases eu:F x with
   |none=>rw[eu]at an;cases an
   |some iY=>
    rw[eu,bZ]at an;obtain⟨va,ac,cF,aS,e_,kM,cy,gk,y5,e4,cE,am⟩:=atq dN so y6 h0 ay dF;obtain⟨uX,bL⟩:=am.Q8 dN aW;have cZ:gD.bI=[kA aQ]/\(∀t,t∈gD.a9->t∈st.a9)/\∀b k,(b,k)∈cr->bu gD.ak k≠none:=by
     unfold pg at h0;split at h0
     .rename_i bv gz cI aj;simp[c4]at h0;subst h0;exact⟨rfl,λt cg=>tQ cg,λb k hm=>(UR aj b k hm).2⟩
     .cases h0
    rw[cZ.1]at bL;refine(h.run x iY eu (aiE dN aW am) ac uX vs _ w cF aS e_ bL).mono ?_;rintro dv w' ⟨us,cD,gn,rfl,gN,bz,c⟩;have hJ:∀k,(aQ.ak.map (·.1)).contains k=ae->gn.ak k=va.ak k:=λk aV=>by
     rw[gN k aV];have bO:=bL.gI;have e:(az (jq aQ [kA aQ] x)).bI=[kA aQ]:=by unfold jq;split;rfl
     rw[e]at bO;obtain⟨bC,Cy,he,_,_,iQ,_⟩:=bO;simp[gZ]at he;obtain⟨rfl,_⟩:=he;obtain⟨v,aE,dL⟩:=iQ.get k _ (DQ aV);have dE:k<aQ.nb:=by simp only[List.contains_iff_mem,List.mem_map]at aV;obtain⟨p,bn,rfl⟩:=aV;simp only[lT,bx]at dN;have:=cX.1 dN.1.1.2 p bn;simp[bx]at this;simpa[Nat.blt_eq]using this.1
     rw[Rs dE]at aE;simp[c4]at aE;subst aE;simp only[aB,aA.pointer.injEq,c4,Addr.mk.injEq]at dL;exact dL.2.1.symm
    simp only[lT,bx]at eJ;obtain⟨⟨⟨_,be⟩,_⟩,_⟩:=eJ;unfold ly at bz;split at bz
    .rename_i A B O jK ic u9 iR;obtain⟨mu,jt,kk⟩:=GV (env:=cD.env) c.env jK;obtain⟨iG,uY,d_⟩:=qe (x:=vx ac gn (az cD) w') (m:=gn.ak) (q0:=cD.ak) (λb k aV=>(c.eb b k aV).2) ic be;obtain⟨qK,bi,_⟩:=GJ (env:=cD.env) c.env u9;obtain⟨uZ,m0⟩:=BV st.ba bz;have d':∀t,t∈(cD.a9.filter λt=> !bG.a9.contains t)->t∈cD.a9:=λt cg=>(List.mem_filter.1 cg).1;let E:=en st.ba bG.b3 iY;let vd:=eQ bG.ak (E.drop (I bG.vars));let aG:bc:={ st with ak:=mH cr vd st.ak,a9:=c8 st.ba bG.b3++st.a9.filter (λt=> !(gD.a9).contains t),ba:=st.ba+I bG.b3 };let aR:dg:=⟨m.ak,λt=>if t<st.ba then m.a9 t else(bS st.ba bG.b3 (A++(B++O)) t).bind gn.a9⟩;have ef:bF ac.g' w w':=by have:=c.dV;rw[kM]at this;exact this
     have ff:bF (fj m (az st)) w w':=ef.mono λb i hi=>cE b i (y5 b i hi);have aJ:∀t,t∈c8 st.ba bG.b3++st.a9.filter (λt=> !(gD.a9).contains t)->(t∈st.a9/\t∉gD.a9/\t<st.ba/\aR.a9 t=m.a9 t)\/(st.ba<=t/\t<st.ba+I bG.b3/\aR.a9 t=(bS st.ba bG.b3 (A++(B++O)) t).bind gn.a9):=λt cg=>by
      simp[fM,List.mem_filter]at cg;rcases cg with cg|⟨cg,cJ⟩
      .obtain⟨h1,h2⟩:=o1 _ _ _ cg;exact .inr ⟨h1,h2,by simp[aR,Nat.not_lt.2 h1]⟩
      .have dE:t<st.ba:=ay.hZ t cg;refine .inl ⟨cg,λhm=>?_,dE,by simp[aR,dE]⟩;simp[hm]at cJ
     have l:∀t g o,st.ba<=t->aR.a9 t=J (g,o)->∃t1,bS st.ba bG.b3 (A++(B++O)) t=J t1/\t1∈cD.a9/\gn.a9 t1=J (g,o):=λt g o pC cP=>by simp[aR,if_neg (Nat.not_lt.2 pC)]at cP;cases cI:bS st.ba bG.b3 (A++(B++O)) t with|none=>rw[cI]at cP;cases cP|some t1=>rw[cI,bZ]at cP;exact⟨t1,rfl,d' _ (uZ t t1 cI).1,cP⟩
     have ea:∀b i,fj va (az gD) b i->(∃q k,(q,k)∈cr/\bu st.ak q≠ah/\b=m.ak q)\/∃t o,t∈gD.a9/\m.a9 t=J (b,o):=by
      rintro b i (⟨k,aV,rfl⟩|⟨t,o,h1,h2,h3⟩)
      .unfold pg at h0;split at h0
       .rename_i bv gz cI aj;simp[c4]at h0;subst h0;cases z:bu gz k with|none=>exact absurd z aV|some fx=>obtain⟨q,K,bd,f,_⟩:=Hl aj k fx z;obtain⟨eh,ch⟩:=Nw bd;have m1:eh = k:=(Md so (B0 ch) bd).1 rfl;rw[m1]at ch;exact .inl ⟨q,k,bd,by rw[f];simp,cy q k ch⟩
       .cases h0
      .rw[gk]at h2;exact .inr ⟨t,o,h1,h2⟩
     have aZ:∀b,bu st.ak b≠ah->look cr b=ah->∀i,¬fj va (az gD) (m.ak b) i:=λb aj bB i hi=>by
      rcases ea _ _ hi with ⟨q,k,bd,f,fK⟩|⟨t,o,bd,f⟩
      .have:=ay.inj b q aj f fK;subst this;obtain⟨eh,ch⟩:=Nw bd;rw[bB]at ch;cases ch
      .exact ay.fH b t _ _ aj (cZ.2.1 t bd) f rfl
     have u:∀t g o,t∈st.a9->t∉gD.a9->m.a9 t=J (g,o)->∀i,¬fj va (az gD) g i:=λt g o cg cJ cP i hi=>by
      rcases ea _ _ hi with ⟨q,k,bd,f,fK⟩|⟨t',o',bd,f⟩
      .exact ay.fH q t g o f cg cP fK.symm
      .exact cJ (ay.gb t t' g o o' cg (cZ.2.1 t' bd) cP f▸bd)
     have dp:∀b,b<w.heap.size->(∀i,¬fj va (az gD) b i)->w'.heap[b]? = w.heap[b]? :=λb aj cJ=>ef.block b aj λi hi=>cJ i (y5 b i hi);have ap:∀b k K,look cr b=J k->bu vd k=J K->(bG.ak.map (·.1)).contains k=ae/\gn.ak k=m.ak b:=λb k K bB z=>by
      have h1:=aeI z;refine⟨h1,?_⟩;have h2:(aQ.ak.map (·.1)).contains k=true:=by simp only[List.contains_iff_mem,List.mem_map]at h1;obtain⟨p,bn,rfl⟩:=h1;exact cX.1 qM p bn
      rw[hJ k h2,cy b k bB]
     have bW:∀b K,bu (mH cr vd st.ak) b=J K->(look cr b=ah/\bu st.ak b=J K)\/∃k,look cr b=J k/\bu st.ak b≠ah/\bu vd k=J K:=λb K z=>by
      rw[Nq]at z;cases bB:look cr b with
      |none=>rw[bB]at z;exact .inl ⟨rfl,z⟩
      |some k=>
       rw[bB]at z;simp only at z;split at z
       .rename_i cG;exact .inr ⟨k,rfl,by cases cA:bu st.ak b with|none=>rw[cA]at cG;cases cG|some _=>simp,z⟩
       .cases z
     have y:∀b,(az aG).ak b≠ah->bu st.ak b≠none:=λb aj=>by
      cases z:bu (mH cr vd st.ak) b with
      |none=>exact absurd z aj
      |some K=>
       rcases bW b K z with ⟨_,h2⟩|⟨_,_,h2,_⟩
       .rw[h2];simp
       .exact h2
     have dH:jI ((bG.ak.map (·.2.b3)).flatten++rb bG.kq) (E.drop (I bG.vars)):=by have ey:=Ez st.ba bG.b3 iY;simp[bt.b3]at ey;have lJ:=ey.split.2;simp[List.length_map]at lJ;exact lJ
     have c0:∀b i,fj aR (az aG) b i->fj m (az st) b i\/∃t1 o,t1∈cD.a9/\gn.a9 t1=J (b,o)/\o<=i:=by
      rintro b i (⟨q,cA,rfl⟩|⟨t,o,h1,h2,h3⟩)
      .exact .inl (.inl ⟨q,y q cA,rfl⟩)
      .rcases aJ t h1 with ⟨bd,_,_,jw⟩|⟨bd,_,_⟩
       .rw[jw]at h2;exact .inl (.inr ⟨t,o,bd,h2,h3⟩)
       .obtain⟨t1,_,p2,p3⟩:=l t b o bd h2;exact .inr ⟨t1,o,p2,p3,h3⟩
     have b9:∀t1 b o,t1∈cD.a9->gn.a9 t1=J (b,o)->b<w'.heap.size/\(fj m (az st) b o\/w.heap.size<=b):=λt1 b o h1 h2=>by obtain⟨bd,f⟩:=c.own b o (.inr ⟨t1,o,h1,h2,b2 _⟩);rw[kM]at f;exact⟨bd,f.imp (λh=>cE b o (y5 b o h)) id⟩
     have bk:∀t1 b o,t1∈cD.a9->gn.a9 t1=J (b,o)->ac.g' b o\/w.heap.size<=b:=λt1 b o h1 h2=>by obtain⟨_,f⟩:=c.own b o (.inr ⟨t1,o,h1,h2,b2 _⟩);rw[kM]at f;exact f
     have up:∀b o i,fj m (az st) b o->o<=i->fj m (az st) b i:=by
      rintro b o i (⟨q,cA,rfl⟩|⟨t,o',h1,h2,h3⟩) qN
      .exact .inl ⟨q,cA,rfl⟩
      .exact .inr ⟨t,o',h1,h2,e2 h3 qN⟩
     have e5:eD (vx ab m (az st) w) (vx ab aR (az aG) w'):=by
      refine⟨ff.mono λb i hi=>.inr hi,?_,rfl,λ_ _=>rfl,b2 _,Nat.le_add_right _ _,λt cg cI=>?_⟩
      .rintro b i (hm|bO)
       .exact .inl (.inl hm)
       .rcases c0 b i bO with h|⟨t1,o,h1,h2,h3⟩
        .exact .inl (.inr h)
        .rcases(b9 t1 b o h1 h2).2 with h|h
         .exact .inl (.inr (up b o i h h3))
         .exact .inr h
      .have cg:t<st.ba:=cg;rcases aJ t cI with ⟨bd,f,_,jw⟩|⟨bd,_,_⟩
       .exact⟨bd,jw,λg o cP=>dp g (ay.kr bd cP) (u t g o bd f cP)⟩
       .omega
     have gQ:∀b i,(vx ab aR (az aG) w').S b i->(vx ac gn (az cD) w').S b i:=by
      rintro b i (hm|bO)
      .exact .inl ((e4 b i).2 ⟨.inl hm,λj cN=>ay.y2 hm (cE b j cN)⟩)
      .rcases bO with ⟨q,cA,rfl⟩|⟨t,o,h1,h2,h3⟩
       .cases bB:look cr q with
        |none=>exact .inl ((e4 _ i).2 ⟨.inr (.inl ⟨q,y q cA,rfl⟩),aZ q (y q cA) bB⟩)
        |some k=>
         cases z:bu (mH cr vd st.ak) q with
         |none=>exact absurd z cA
         |some K=>
          rcases bW q K z with ⟨h1,_⟩|⟨eh,h1,_,h3⟩
          .rw[bB]at h1;cases h1
          .rw[bB]at h1;simp[c4]at h1;subst h1;obtain⟨bd,f⟩:=ap q k K bB h3;refine .inr (.inl ⟨k,?_,f⟩);simp only[List.contains_iff_mem,List.mem_map]at bd;obtain⟨p,bn,rfl⟩:=bd;exact tE ic p bn
       .rcases aJ t h1 with ⟨bd,f,_,jw⟩|⟨bd,_,_⟩
        .rw[jw]at h2;exact .inl ((e4 b i).2 ⟨.inr (.inr ⟨t,o,bd,h2,h3⟩),u t b o bd f h2⟩)
        .obtain⟨t1,_,p2,p3⟩:=l t b o bd h2;exact .inr (.inr ⟨t1,o,p2,p3,h3⟩)
     have fF:aX (vx ab aR (az aG) w') E (mu++(iG++qK)):=o3 (X:=vx ac gn (az cD) w') (X':=vx ab aR (az aG) w') gQ rfl aS.symm st.ba bz (λt cg=>d' t cg) (jt.append (uY.append bi)) (λp bn=>by obtain⟨bd,f⟩:=o1 _ _ _ bn;exact⟨f,by simp[vx,aR,Nat.not_lt.2 bd]⟩)
     have du:∀d,d∈iv bG.ak->∀b,b∈iA d->(vx ab aR (az aG) w').m.ak b=(vx ac gn (az cD) w').m.ak b/\b<(vx ab aR (az aG) w').nb:=λd ao b aj=>by obtain⟨bd,f⟩:=sV axY d ao b aj;refine⟨?_,f⟩;show m.ak b=gn.ak b;rw[hJ b (cX.1 pz b (ajt ao aj)),cy b b bd]
     have mY:I mu=I bG.vars:=by have h1:=jt.len;have:=WL jK;omega
     obtain⟨j6,gC⟩:=fF.take;rw[mY]at j6 gC;have mZ:I iG=I ((bG.ak.map (·.2.b3)).flatten):=by have bd:=gC.len;have f:=dH.len;have fK:=bi.len;have jw:=Qh u9;simp only[dc]at bd f;omega
     obtain⟨jx,Cz⟩:=gC.take;rw[mZ]at jx Cz;have sj:I us=bG.n:=by have:=c.env.size;simp[List.size_toArray]at this;simp only[bx]at iR;have h2:cD.n=bG.n:=cU iR.1.1.1.1.2;have h3:(az cD).n=cD.n:=rfl;omega
     have fG:bG.n=I bG.vars->mu=us:=by
      intro cJ;apply List.ext_getElem?;intro i;by_cases hi:i<I bG.vars
      .obtain⟨⟨k,s⟩,afv⟩:∃p,bG.vars[i]? = J p:=⟨_,ho hi⟩;obtain⟨v,h3,h4⟩:=kk i k s afv;rw[akO py afv]at h4;rw[h3];simpa using h4.symm
      .rw[List.getElem?_eq_none ag,List.getElem?_eq_none ag]
     refine⟨_,rfl,_,_,aR,an,⟨rfl,rfl,rfl,rfl,rfl⟩,ay.step (s':=az aG) rfl rfl rfl rfl rfl ff e5 ?_ ?_ ?_ ?_ ?_ ?_,?_⟩
     .intro b fx z;rcases bW b fx z with ⟨h1,h2⟩|⟨k,h1,h2,h3⟩
      .obtain⟨bd,f⟩:=ay.eb b fx h2;have nH:bu st.ak b≠none:=by rw[h2];simp
       exact⟨bd,f.later e5 (dp _ (ay.l7 (b:=b) nH) (aZ b nH h1))⟩
      .obtain⟨bd,_,_⟩:=d_ (vx ab aR (az aG) w') _ ⟨rfl,aS.symm⟩ du dH.split.1 jx k fx (by rw[oY];exact h3);rw[(ap b k fx h1 h3).2]at bd;cases cA:bu st.ak b with|none=>exact absurd cA h2|some tY=>exact⟨(ay.eb b tY cA).1,bd⟩
     .intro t cg;rcases aJ t cg with ⟨_,_,q,_⟩|⟨_,q,_⟩
      .show t<st.ba+I bG.b3;omega
      .exact q
     .exactλb bQ h1 h2 h3=>ay.inj b bQ (y b h1) (y bQ h2) h3
     .intro t t' g o o' h1 h2 h3 h4;rcases aJ t h1 with ⟨bd,f,fK,jw⟩|⟨bd,_,_⟩<;>rcases aJ t' h2 with ⟨p1,p2,p3,hs⟩|⟨p1,_,_⟩
      .rw[jw]at h3;rw[hs]at h4;exact ay.gb t t' g o o' bd p1 h3 h4
      .rw[jw]at h3;obtain⟨t1,_,s2,oF⟩:=l t' g o' p1 h4;rcases bk t1 g o' s2 oF with h|h
       .exact absurd (y5 g o' h) (u t g o bd f h3 o')
       .have:=ay.kr bd h3;omega
      .rw[hs]at h4;obtain⟨t1,_,s2,oF⟩:=l t g o bd h3;rcases bk t1 g o s2 oF with h|h
       .exact absurd (y5 g o h) (u t' g o' p1 p2 h4 o)
       .have:=ay.kr p1 h4;omega
      .obtain⟨t1,s1,s2,oF⟩:=l t g o bd h3;obtain⟨t2,sF,oI,ayQ⟩:=l t' g o' p1 h4;have:=c.gb t1 t2 g o o' s2 oI oF ayQ;subst this;exact m0 t t' t1 s1 sF
     .intro b t g o h1 h2 h3;have aj:=y b h1;show m.ak b≠g;rcases aJ t h2 with ⟨bd,_,_,jw⟩|⟨bd,_,_⟩
      .rw[jw]at h3;exact ay.fH b t g o aj bd h3
      .obtain⟨t1,_,s2,oF⟩:=l t g o bd h3;intro e;cases bB:look cr b with
       |none=>
        rcases bk t1 g o s2 oF with h|h
        .rw[<-e]at h;exact aZ b aj bB o (y5 _ o h)
        .have:=ay.l7 (b:=b) aj;omega
       |some k=>
        cases z:bu (mH cr vd st.ak) b with
        |none=>exact absurd z h1
        |some K=>
         rcases bW b K z with ⟨h5,_⟩|⟨eh,h5,_,h6⟩
         .rw[bB]at h5;cases h5
         .rw[bB]at h5;simp[c4]at h5;subst h5;obtain⟨_,oI⟩:=ap b k K bB h6;obtain⟨_,ayR,_⟩:=d_ (vx ab aR (az aG) w') _ ⟨rfl,aS.symm⟩ du dH.split.1 jx k K (by rw[oY];exact h6);exact c.fH k t1 g o ayR s2 oF (oI.trans e)
     .intro b i bO;rcases c0 b i bO with h|⟨t1,o,h1,h2,h3⟩
      .exact⟨gy (ay.own b i h).1 ff.size,.inl h⟩
      .obtain⟨bd,f⟩:=b9 t1 b o h1 h2;exact⟨bd,f.imp (λh=>up b o i h h3) id⟩
     .cases aj:bV bG.n (I bG.vars) with|true=>rw[<-fG (cU aj)];exact H1 j6|false=>exact(show aB _ .l4 _ by simp[aB])
    .cases bz
  .cases an
 .cases an
def o7(aQ bG:bt)(F:au aQ.b3->af (au bG.b3))(args:U D)(st:bc)(K:D->U Nat->bc->af R):af R:=fS aQ bG F args st λrs aG=>K (hl rs) ((jD aQ args).map (·.1)) aG
def tv(st:bc):bc:=⟨0,[],0,0,[],st.ak,st.nb,st.a9,st.ba,[]⟩
theorem Uu(aQ bG:bt)(F:au aQ.b3->af (au bG.b3))(args:U D)(st:bc)(K:U D->bc->af R):fS aQ bG F args st K=(fS aQ bG F args (tv st) λrs aG=>J (rs,aG)).bind λx=>K x.1 { st with ak:=x.2.ak,a9:=x.2.a9,ba:=x.2.ba }:=by
 unfold fS;have e:∀ cr,pg aQ cr args (tv st)=pg aQ cr args st:=λ_=>rfl;rw[e];show(match(vy (jD aQ args)&&(jD aQ args).all (λp=>ec p.2 aQ.nb)&&bG.ak.all (λp=>wR (jD aQ args) st.nb p.2)),pg aQ (jD aQ args) args st with|true,J gD=>_|_,_=>_)=(match(vy (jD aQ args)&&(jD aQ args).all (λp=>ec p.2 aQ.nb)&&bG.ak.all (λp=>wR (jD aQ args) st.nb p.2)),pg aQ (jD aQ args) args st with|true,J gD=>_|_,_=>_:af (U D×bc)).bind _;cases (vy (jD aQ args)&&(jD aQ args).all (λp=>ec p.2 aQ.nb)&&bG.ak.all (λp=>wR (jD aQ args) st.nb p.2))with
 |false=>rfl
 |true=>
  cases pg aQ (jD aQ args) args st with
  |none=>rfl
  |some gD=>
   simp only;cases ly aQ gD with
   |none=>rfl
   |some x=>simp only;cases F x with|none=>rfl|some r=>rfl
theorem avl{s:FS}(f:gL s (az st))(c:Rel ab m a as_ s w):∃cH:bc,az cH=s/\tv cH=tv st:=by
 have key:∀(n lo k:Nat),get ((List.range' lo n).filterMap λk=>(s.env k).map λd=>(k,d)) k=if lo<=k/\k<lo+n then s.env k else none:=by
  intro n;induction n with
  |zero=>intro lo k;simp only[List.range'_zero,List.filterMap_nil,get];rw[if_neg ag]
  |succ n e=>
   intro lo k;rw[List.range'_succ,List.filterMap_cons];cases ao:s.env lo with
   |none=>
    simp[Option.map_none];rw[e];by_cases b:k=lo
    .subst b;rw[if_neg ag,if_pos ag,ao]
    .by_cases h:lo<=k/\k<lo+(n+1)
     .rw[if_pos h,if_pos ag]
     .rw[if_neg h,if_neg ag]
   |some d=>
    simp[yZ,ix];rw[e];by_cases b:k=lo
    .subst b;rw[if_pos rfl,if_pos ag,ao]
    .rw[if_neg b];by_cases h:lo<=k/\k<lo+(n+1)
     .rw[if_pos h,if_pos ag]
     .rw[if_neg h,if_neg ag]
 refine⟨⟨s.n,(List.range' 0 s.n).filterMap λk=>(s.env k).map λd=>(k,d),s.cd,s.lt,s.bI,st.ak,st.nb,st.a9,st.ba,s.df⟩,?_,rfl⟩;obtain⟨h1,h2,h3,h4⟩:=f;refine FS.eq rfl ?_ rfl rfl rfl h1.symm h2.symm h3.symm h4.symm;funext k;show get _ k=s.env k;rw[key];by_cases b : 0<=k/\k<0+s.n
 .rw[if_pos b]
 .rw[if_neg b];cases ao:s.env k with|none=>rfl|some d=>obtain⟨v,aE,_⟩:=c.env.get k d ao;have h5:=(gG.1 aE).1;rw[c.env.size]at h5;omega
theorem ZZ{F:au aQ.b3->af (au bG.b3)}(h:gj ab.P ab.el ab.bM g aQ bG F)(j:qV aQ bG=ae):kZ (R:=R) ab g (o7 aQ bG F):=by
 intro args st K r an;have y:=an;unfold o7 at an;rw[Uu]at an;cases c:fS aQ bG F args (tv st) λrs aG=>J (rs,aG)with
 |none=>rw[c]at an;cases an
 |some x=>
  obtain⟨rs,e⟩:=x;rw[c]at an;simp at an;have d:∀b,b∉(jD aQ args).map (·.1)->bu e.ak b=bu st.ak b:=by
   unfold fS at c;split at c
   .split at c
    .rename_i hL z;cases o:F hL with
     |none=>rw[o]at c;cases c
     |some iY=>rw[o,bZ]at c;simp at c;obtain⟨_,rfl⟩:=c;intro b aj;show bu (mH _ _ st.ak) b=_;rw[Nq];cases bB:look (jD aQ args) b with|none=>rfl|some k=>exact absurd (List.mem_map.2 ⟨(b,k),B0 bB,rfl⟩) aj
    .cases c
   .cases c
  refine⟨_,_,_,an,⟨rfl,rfl,rfl,rfl,rfl⟩,b2 _,λb aj=>⟨λk l=>(d b aj).trans l,λk l _=>(d b aj).symm.trans l⟩,h.enters,λs m a as_ w vs eS p i=>?_⟩;obtain⟨cH,f,aS⟩:=avl eS p;have h2:fS aQ bG F args cH (λrs aG=>J (rs,aG))=J (rs,{ cH with ak:=e.ak,a9:=e.a9,ba:=e.ba }):=by rw[Uu,aS,c];rfl
  have h3:=(RD h j h2).2 m a as_ w vs (by rw[f];exact p) (by rw[f];exact i);refine h3.mono ?_;rintro dv w' ⟨v,dN,aJ,aG,aR,q,_,t,u⟩;simp at q;obtain⟨rfl,rfl⟩:=q;have e_:az { cH with ak:=e.ak,a9:=e.a9,ba:=e.ba }=gi (az { st with ak:=e.ak,a9:=e.a9,ba:=e.ba }) s:=by
   have n:(tv cH).nb=(tv st).nb:=by rw[aS]
   refine FS.eq ?_ ?_ ?_ ?_ ?_ rfl n rfl rfl (by rw[<-f];rfl)
   .rw[<-f];rfl
   .rw[<-f];rfl
   .rw[<-f];rfl
   .rw[<-f];rfl
   .rw[<-f];rfl
  rw[e_]at t u;exact⟨v,dN,aR,t,u⟩
end
abbrev n4(aQ bG:bt):=au aQ.b3->af (au bG.b3)
section
variable {R:Type}
def aei(a:U ck)(st:bc)(rs:U D)(K:U D->bc->af R):af R:=match a with|[]=>K rs st|_::_=>nc a st rs K
variable{a:Act}{as_:U Act}{ab:cB}{m:dg}{st:bc}{vs:U aA}
theorem ak2{r:R}{bH:U ck}{av:U D}{K:U D->bc->af R}(c:Rel ab m a as_ (az st) w)(ao:aX (vx ab m (az st) w) av vs)(h:aei bH st av K=J r):∃b aG aR,K b aG = J r/\Rel ab aR a as_ (az aG) w/\eD (vx ab m (az st) w) (vx ab aR (az aG) w)/\aX (vx ab aR (az aG) w) b vs:=by cases bH with|nil=>exact⟨av,st,m,h,c,⟨bF.refl _ _,λ_ _ h=>.inl h,rfl,λ_ _=>rfl,b2 _,b2 _,λt _ d=>⟨d,rfl,λ_ _ _=>rfl⟩⟩,ao⟩|cons s l=>exact zO c ao h
def ky(px:aM R)(fn:Func)(aQ bG:bt)(x:au aQ.b3)(fin:au bG.b3->af R):af R:=match fn.body with
 |some c=>hj px c { jq aQ [kA aQ] x with n:=fn.ntmps } λe st=>match e with
  |.exit _=>ah
  |_=>match st.df,results px st fn.results.toList with
   |[],J rs=>aei (bG.vars.map (·.2)) st rs λa aG=>match ly bG { aG with n:=I a,env:=hh 0 a }with|some r=>fin r|none=>ah
   |_,_=>ah
 |none=>ah
theorem auD{s:bt}{x:au s.b3}(h:ly s st=J x):st.df=[]:=by
 unfold ly at h;split at h
 .rename_i an;simp only[bx]at an;exact List.isEmpty_iff.1 an.1.2
 .cases h
theorem ajV(aQ:bt)(bI:U Fr)(x:au aQ.b3):(jq aQ bI x).n=aQ.n:=by unfold jq;rfl
theorem SU(aQ:bt)(bI:U Fr)(x:au aQ.b3):(jq aQ bI x).bI=bI:=by unfold jq;rfl
variable{aQ:bt}{k:Nat}
theorem asy{aR:dg}{s s':FS}{w':aK}{nF:Act}{cd lt c d:Nat}(h:nj (vx ab m s w) cd lt [kA aQ] [nF])(i:nj (vx ab aR s' w') c d [kA aQ] [nF])(g:(aQ.ak.map (·.1)).contains k=ae):aR.ak k=m.ak k/\k<c:=by obtain⟨a,r,e,_,_,h1,_⟩:=h;obtain⟨rfl,_⟩:=e;obtain⟨bC,n,j,_,_,h2,_⟩:=i;obtain⟨rfl,_⟩:=j;obtain⟨v,aE,l⟩:=h1.get k _ (DQ g);obtain⟨o,b,f⟩:=h2.get k _ (DQ g);rw[aE]at b;simp at b;subst b;obtain⟨_,rfl⟩:=l;obtain⟨h3,h4⟩:=f;simp only[aA.pointer.injEq,c4,Addr.mk.injEq]at h4;exact⟨h4.1.symm,h3⟩
variable{bG:bt}{F:n4 aQ bG}{P:cx}{el:b1->bD}{f:FuncId}{fn:Func}{bM:Nat->af h_}{px:aM (au bG.b3)}
theorem z5{c:Code}(bO:P.funcs[f]? = J fn)(aj:fn.body=J c)(q:(fn.name == "runtime.NumGoroutine")=ai)(hm:P.follows .mixedOrders=ae)(j:(fe fn.ntmps c&&dz aQ.n fn.ntmps)=ae)
  (aZ:∀ab:cB,ab.P=P->ab.el=el->ab.bM=bM->eR ab px/\hy ab px/\ik ab px/\∀b,b∈gr c->fR ab px b) (eu:∀x,ky px fn aQ bG x J=F x):gj P el bM f aQ bG F:=by
 refine⟨aw.ga bO rG q,λx r t _ ab m vs nF w cF aS e_ i=>?_⟩;subst cF aS e_;simp only[bx]at j;have hle:aQ.n<=fn.ntmps:=Nat.le_of_ble_eq_true j.2;have bW:I vs=aQ.n:=by have:=i.env.size;have e:(az (jq aQ [kA aQ] x)).n=aQ.n:=ajV aQ [kA aQ] x;rw[e]at this;simpa using this
 have u:Rel ab m { tmps:=vs.toArray++Array.replicate (fn.ntmps-vs.toArray.size) undef,defers:=[] } [nF] (az { jq aQ [kA aQ] x with n:=fn.ntmps }) w:=by
  refine⟨i.dV,⟨rfl,?_,λk d h=>?_⟩,i.gI,i.cd,i.lt,i.eb,i.hZ,i.inj,i.gb,i.fH,i.own,i.fE,i.g1⟩
  .show _=fn.ntmps;simp;omega
  .obtain⟨v,h2,h3⟩:=i.env.get k d h;refine⟨v,?_,h3⟩;have bk:k<I vs:=by simpa using (gG.1 h2).1
   simp only[Array.getElem?_append,List.size_toArray,bk];exact h2
 rw[<-eu]at t;unfold ky at t;rw[aj]at t;simp only at t;obtain⟨h1,h2,h3,h4⟩:=aZ ab rfl rfl rfl;refine calls_of_wp bO aj (n0 h1 h2 h3 hm c _ _ r j.1 h4 t _ m _ [nF] w u ?_);intro e aG aR bC w' h s g;have bz:(az aG).bI=[kA aQ]:=s.2.trans (SU aQ [kA aQ] x);have y:(az (jq aQ [kA aQ] x)).bI=[kA aQ]:=SU aQ [kA aQ] x;cases e
 case exit=>cases h
 all_goals
  simp only at h;split at h
  .rename_i b9 ac bL;obtain⟨us,p,o⟩:=qk h1 g bL;obtain⟨rs,cH,fV,h,a,e5,l⟩:=ak2 g o h;split at h
   .rename_i Cy z;simp at h;subst h;refine⟨g.y_ ac,aw.lO us,?_,us,_,fV,rfl,λk h=>?_,z,?_⟩
    .obtain⟨sx⟩:∃sx,fn.results=List.toArray sx:=⟨fn.results.toList,by simp⟩;rename_i aJ;rw[aw.CC,aJ];rw[aJ]at p;simp only[List.mapM_toArray,dG,map_eq_pure_bind,p];congr 1;match us with|[]=>rfl|[v]=>rfl|_::_::_=>simp[aw.lO]
    .have bd:=i.gI;have ei:=g.gI;rw[y]at bd;rw[bz]at ei;obtain⟨fK,jw⟩:=asy bd ei h;exact(e5.ak k (gy jw g.cd)).trans fK
    .have cJ:I us=I rs:=l.len;refine⟨a.dV,⟨(by have l3:=auD z;simp only at l3;show pU _ cH.df _;rw[l3];rfl),(by simpa using cJ:us.toArray.size=I rs),λk d h=>?_⟩,a.gI,a.cd,a.lt,a.eb,a.hZ,a.inj,a.gb,a.fH,a.own,a.fE,a.g1⟩;obtain⟨v,_,p2,p3⟩:=tR 0 k d l h;exact⟨v,by simpa using p2,p3⟩
   .cases h
  .cases h
theorem ajc{c:Code}{n:Nat}(e:P.funcs[f]? = J fn)(aj:fn.body=J c)(b:(fn.name == "runtime.NumGoroutine")=ai)(hm:P.follows .mixedOrders=ae)(a:(oj fn&&dz aQ.n fn.ntmps)=ae)(g:ph fn=n)
  (d:∀ab:cB,ab.P=P->ab.el=el->ab.bM=bM->eR ab px/\hy ab px/\ik ab px/\∀i,i<n->fR ab px (b_ fn i)) (h:∀x,ky px fn aQ bG x J=F x):gj P el bM f aQ bG F:=by
 refine z5 e aj b hm ?_ (λab h1 h2 h3=>?_) h
 .unfold oj at a;rw[aj]at a;exact a
 .obtain⟨bd,j,k,l⟩:=d ab h1 h2 h3;exact⟨bd,j,k,Mz aj g l⟩
end
section
variable {P:cx}{el:b1->bD}{bM:Nat->af h_}{f:FuncId}{aQ bG:bt}
variable{ι:Type}
theorem gj.fin{F : ι->n4 aQ bG}{G:n4 aQ bG}(i0 : ι)(h:∀i,gj P el bM f aQ bG (F i))(a:∀x r,oS aQ.b3 x->G x=J r->∃i,F i x=J r):gj P el bM f aQ bG G:=⟨(h i0).enters,λx r b aj ab m vs nF w h1 h2 h3 h4=>by obtain⟨i,hi⟩:=a x r aj b;exact(h i).run x r hi aj ab m vs nF w h1 h2 h3 h4⟩
theorem gj.de{F G:n4 aQ bG}(h:gj P el bM f aQ bG F)(a:∀x r,oS aQ.b3 x->G x=J r->F x=J r):gj P el bM f aQ bG G:=.fin () (λ_=>h) λx r aj b=>⟨(),a x r aj b⟩
theorem gj.none(a:aw.jE P f):gj P el bM f aQ bG (λ_=>.none):=⟨a,λ_ _ h=>by cases h⟩
theorem gj.jf{body:n4 aQ bG->n4 aQ bG}(a:aw.jE P f)(h:∀rf,gj P el bM f aQ bG rf->gj P el bM f aQ bG (body rf)):∀n,gj P el bM f aQ bG (aT body n)
 |0=>gj.none a
 |n+1=>h _ (gj.jf a h n)
end
def H3{R:Type}(nb ba:Nat)(a:aM R)(fn:Func)(G:iD R)(args:U D)(st:bc)(K:U D->bc->af R):af R:=match dz (I args) fn.ntmps&&dz st.nb nb&&dz st.ba ba with
 |true=>CR a fn args { st with nb:=nb,ba:=ba } K
 |false=>G args st K
variable{ab:cB}{fn:Func}{g:Nat}{nb:Nat}
theorem _R{ba:Nat}{a:aM R}{G:iD R}(h1:hk ab g (eY nb ba a fn))(h2:hk ab g G):hk ab g (H3 nb ba a fn G):=by
 intro args st K r an;unfold H3 at an;split at an
 .rename_i b;exact h1 args st K r (by unfold eY;rw[b];exact an)
 .exact h2 args st K r an
variable{bG:bt}{aQ:bt}{F:n4 aQ bG}
theorem avV(h:gj ab.P ab.el ab.bM g aQ bG F)(a:qV aQ bG=ae):hk (R:=R) ab g (fS aQ bG F):=λ_ _ _ _ an=>RD h a an
end Go.dS
