/- Texts of the proof,one behind the other: AxBd,AxLn,AxLo. -/
import Derived.Test.YtcoaaebppfbbnaaGreatDoorK3
set_option linter.all false
namespace Go.Ax
open Go.RowKit
def inI(n:Int):Prop := -9223372036854775808<=n/\n<=9223372036854775807
def ln(n:Nat):Prop:=n<=9223372036854775807
def inK(k:IntKind)(n:Int):Prop:=k.min<=n/\n<=k.max
def Aky(v:Val):Prop:=inI v.kind/\inI v.n/\ln v.s.length
inductive BdExpr:Xpr->Prop
 |mk (k:Int) (v:Val) (nm:Str) (l:List Xpr):inI k->Aky v->ln nm.length->ln l.length->(∀e,e∈l->BdExpr e)->BdExpr (.mk k v nm l)
def E9{α:Type}(p : α->Prop)(l:List α):Prop:=ln l.length/\∀x,x∈l->p x
def Bj2(c:Col):Prop:=ln c.name.length/\inI c.kind/\ln c.ref.length
def Br7(s:SetE):Prop:=ln s.name.length/\BdExpr s.e
structure BdStm (s:Stm):Prop where
 kind:inI s.kind
 name:ln s.name.length
 on:ln s.on.length
 cols:E9 Bj2 s.cols
 names:E9 (λx=>ln x.length) s.names
 l:E9 BdExpr s.l
 rows:E9 (E9 BdExpr) s.rows
 sets:E9 Br7 s.sets
 whr:BdExpr s.whr
 order:E9 (λx=>ln x.length) s.order
 desc:ln s.desc.length
 most:inI s.most
def Bsq(x:Idx):Prop:=ln x.name.length/\E9 (λs=>ln s.length) x.cols
structure BdTbl (t:Tbl):Prop where
 name:ln t.name.length
 cols:E9 Bj2 t.cols
 key:E9 (λs=>ln s.length) t.key
 checks:E9 BdExpr t.checks
 idx:E9 Bsq t.idx
inductive BdNode:NodeS->Prop
 |mk (k:Int) (p:List UInt8) (h:Bool) (v:List UInt8) (l:List NodeS) (s:List UInt8):inI k->ln p.length->ln v.length->ln l.length->(∀e,e∈l->BdNode e)->ln s.length->BdNode (.mk k p h v l s)
def Bo0(p:KvS):Prop:=ln p.key.length/\ln p.val.length
def Bsc(r:ResS):Prop:=E9 (E9 Aky) r.rows/\inI r.n
def BdK:(c:Ck)->El c->Prop
 |.byte,_=>True
 |.int,n=>inI n
 |.u64,n=>inK .u64 n
 |.str,s=>ln s.length
 |.bool,_=>True
 |.val,v=>Aky v
 |.tok,t=>inI t.kind/\inI t.pos/\ln t.s.length/\inI t.n
 |.col,c=>Bj2 c
 |.expr,e=>BdExpr e
 |.num,n=>E9 inI n.d
 |.vals,l=>E9 Aky l
 |.exprs,l=>E9 BdExpr l
 |.strs,l=>E9 (λs=>ln s.length) l
 |.bytes,l=>ln l.length
 |.set,s=>Br7 s
 |.stmt,s=>BdStm s
 |.got,g=>inI g.pos
 |.pair,p=>ln p.sign.length/\inI p.kind
 |.idx,x=>Bsq x
 |.tbl,t=>BdTbl t
 |.node,n=>BdNode n
 |.kv,p=>Bo0 p
 |.kvs,l=>E9 Bo0 l
 |.lay,y=>E9 Bo0 y.l/\inI y.e
 |.stt,n=>BdNode n
 |.res,r=>Bsc r
 |.outc,o=>inI o.e/\inI o.pos/\E9 Bsc o.l
 |.ent,x=>inI x.kind/\Bo0 x.p
 |.span,x=>ln x.low.length/\ln x.high.length
def BdD:D->Prop
 |.int k n=>inK k n
 |.str l=>ln l.length
 |.sl c xs _=>E9 (BdK c) xs
 |_=>True
theorem Bn{n:Int}(h:inK .i64 n):inI n:=by simpa[inK,inI,IntKind.min,IntKind.signed,IntKind.bits] using h
theorem Auw{c:Ck}{x:El c}(h:∀(j:Nat) d,(enc c x)[j]? = some d->BdD d):BdK c x:=by cases c with|byte=>trivial|int=>exact Bn (h 0 _ rfl)|u64=>exact h 0 _ rfl|str=>exact h 0 _ rfl|bool=>trivial|val=>exact⟨Bn (h 0 _ rfl),Bn (h 1 _ rfl),h 2 _ rfl⟩|tok=>exact⟨Bn (h 0 _ rfl),Bn (h 1 _ rfl),h 2 _ rfl,Bn (h 3 _ rfl)⟩|col=>exact⟨h 0 _ rfl,Bn (h 1 _ rfl),h 4 _ rfl⟩|expr =>obtain⟨k,v,nm,l⟩:=x;have h5:=h 5 _ rfl;exact .mk k v nm l (Bn (h 0 _ rfl)) ⟨Bn (h 1 _ rfl),Bn (h 2 _ rfl),h 3 _ rfl⟩ (h 4 _ rfl) h5.1 h5.2|num=>exact h 1 _ rfl|vals=>exact h 0 _ rfl|exprs=>exact h 0 _ rfl|strs=>exact h 0 _ rfl|bytes=>exact(h 0 _ rfl).1|set =>obtain⟨sn,k,v,nm,l⟩:=x;have h6:=h 6 _ rfl;exact⟨h 0 _ rfl,.mk k v nm l (Bn (h 1 _ rfl)) ⟨Bn (h 2 _ rfl),Bn (h 3 _ rfl),h 4 _ rfl⟩ (h 5 _ rfl) h6.1 h6.2⟩|stmt =>obtain⟨_,_,_,_,_,_,_,_,_,⟨k,v,nm,l⟩,_,_,_⟩:=x;have h14:=h 14 _ rfl;exact⟨Bn (h 0 _ rfl),h 1 _ rfl,h 2 _ rfl,h 3 _ rfl,h 4 _ rfl,h 5 _ rfl,h 6 _ rfl,h 7 _ rfl,.mk k v nm l (Bn (h 9 _ rfl)) ⟨Bn (h 10 _ rfl),Bn (h 11 _ rfl),h 12 _ rfl⟩ (h 13 _ rfl) h14.1 h14.2,h 15 _ rfl,(h 16 _ rfl).1,Bn (h 17 _ rfl)⟩|got=>exact Bn (h 0 _ rfl)|pair=>exact⟨h 0 _ rfl,Bn (h 1 _ rfl)⟩|node =>obtain⟨k,p,hs,v,l,s⟩:=x;have h4:=h 4 _ rfl;exact .mk k p hs v l s (Bn (h 0 _ rfl)) (h 1 _ rfl).1 (h 3 _ rfl).1 h4.1 h4.2 (h 5 _ rfl).1|stt =>obtain⟨k,p,hs,v,l,s⟩:=x;have h4:=h 4 _ rfl;exact .mk k p hs v l s (Bn (h 0 _ rfl)) (h 1 _ rfl).1 (h 3 _ rfl).1 h4.1 h4.2 (h 5 _ rfl).1|kv=>exact⟨(h 0 _ rfl).1,(h 1 _ rfl).1⟩|kvs=>exact h 0 _ rfl|lay=>exact⟨h 0 _ rfl,Bn (h 1 _ rfl)⟩|res=>exact⟨h 0 _ rfl,Bn (h 1 _ rfl)⟩|outc=>exact⟨Bn (h 0 _ rfl),Bn (h 1 _ rfl),h 2 _ rfl⟩|ent=>exact⟨Bn (h 0 _ rfl),(h 1 _ rfl).1,(h 2 _ rfl).1⟩|span=>exact⟨(h 0 _ rfl).1,(h 1 _ rfl).1⟩|idx=>exact⟨h 0 _ rfl,h 1 _ rfl⟩|tbl=>exact⟨h 0 _ rfl,h 1 _ rfl,h 2 _ rfl,h 3 _ rfl,h 4 _ rfl⟩
theorem A84{w:World}{d:D}{v:Value}(h:FV w d v):BdD d:=by induction h with|int k n hu=>exact Mg hu|bool b=>trivial|str l hl=>simpa[BdD,ln,maxLen] using hl|nil c t a cap=>exact⟨by simp[ln],by simp⟩|sl c xs t b o cap u hle hm hc h ih =>refine⟨by simp[ln,maxLen] at *;omega,λx hx=>Auw λj d hd =>?_⟩;obtain⟨i,hi,rfl⟩:=List.getElem_of_mem hx;exact ih i _ j d (Zo1 hi) hd
def BdS:(s:Sg)->den s->Prop
 |.int k,n=>inK k n
 |.bool,_=>True
 |.str,s=>ln s.length
 |.sl c _,xs=>E9 (BdK c) xs
 |.sv c,x=>BdK c x
 |.rw c n,xs=>xs.length=n/\∀x,x∈xs->BdK c x
 |.dn c,xs=>xs.length<=maxLen/\∀x,x∈xs->BdK c x
 |.nl _,_=>True
def BdL:(l:List Sg)->HV l->Prop
 |[],_=>True
 |[a],x=>BdS a x
 |a::b::l,(x,y)=>BdS a x/\BdL (b::l) y
theorem Bfl{x:Vx}{i:Nat}{s:Sg}{y:den s}{v:Value}(h:Rep x (Cl i s y) v):BdS s y:=by cases s with|int k=>exact Mg h.u8|bool=>trivial|nl _=>trivial|str=>simpa[BdS,ln,maxLen] using h.strLen|sl c own=>cases own<;>(simp[Cl] at h;exact A84 h.1.here)|sv c =>simp[Cl] at h;obtain⟨_,vs,_,_,h⟩:=h;exact Auw λj d hd=>by obtain⟨u,_,hf⟩:=h j d hd;exact A84 hf.here|rw c n =>simp[Cl] at h;obtain⟨h1,vs,_,_,h⟩:=h;refine⟨h1,λz hz=>Auw λj d hd =>?_⟩;obtain⟨i,hi,rfl⟩:=List.getElem_of_mem hz;obtain⟨u,_,hf⟩:=h i _ j d (Zo1 hi) hd;exact A84 hf.here|dn c =>simp[Cl] at h;obtain⟨h1,vs,_,_,h⟩:=h;refine⟨h1,λz hz=>Auw λj d hd =>?_⟩;obtain⟨i,hi,rfl⟩:=List.getElem_of_mem hz;obtain⟨u,_,hf⟩:=h i _ j d (Zo1 hi) hd;exact A84 hf.here
theorem Y9{x:Vx}:∀{l:List Sg}{i:Nat}{y:HV l}{vs:List Value},Reps x (Bw i l y) vs->BdL l y
 |[],_,_,_,_=>trivial
 |[a],i,y,vs,h=>by simp only[Bw] at h;obtain⟨u,us,_,h1,_⟩:=h;exact Bfl h1
 |a::b::l,i,(y,z),vs,h=>by simp[Bw] at h;obtain⟨u,us,_,h1,h2⟩:=h;exact⟨Bfl h1,Y9 h2⟩
section
variable {P:Program}{el:Ck->TypeId}{gl:Nat->Option Gv}{f:FuncId}{sa sr:List Sg}
theorem FnOk.fin{ι:Type}{F : ι->FT sa sr}{G:FT sa sr}(i0 : ι)(h:∀i,FnOk P el gl f sa sr (F i))(hG:∀x r,BdL sa x->G x=some r->∃i,F i x=some r):FnOk P el gl f sa sr G :=⟨(h i0).enters,λx r hx w M vs h1 h2 h3=>by obtain⟨i,hi⟩:=hG x r (Y9 h3) hx;exact(h i).run x r hi w M vs h1 h2 h3⟩
theorem FnOk.fin0{F G:FT sa sr}(h:FnOk P el gl f sa sr F)(hG:∀x r,BdL sa x->G x=some r->F x=some r):FnOk P el gl f sa sr G :=.fin () (λ_=>h) λx r hb hx=>⟨(),hG x r hb hx⟩
end
theorem Bww{R:Type}{b:Bool}{x:Option R}(h:b=true):chk b x=x:=by subst h;rfl
theorem B3{n:Int}(h:inI n):wr .i64 n=n:=by simp[inI] at h;simp only[wr,IntKind.wrap,IntKind.signed,IntKind.bits,Bool.true_and];split<;>simp at * <;> omega
theorem Brm{i n:Nat}:inb (i:Int) n=decide (i<n):=by simp[inb]
theorem Alm{i j n:Nat}:upto (i:Int) (j:Int) n=(decide (i<=j)&&decide (j<=n)):=by simp[upto]
abbrev Ren:=List (Nat×Nat)
def look:Ren->Nat->Option Nat
 |[],_=>none
 |(a,b)::l,n=>match Nat.beq a n with|true=>some b|false=>look l n
def Aq7(σ:Ren):Bool:=σ.all λp=>σ.all λq=>(Nat.beq p.1 q.1) == (Nat.beq p.2 q.2)
def Bwx:D->D->Ren
 |.ptr k _,.ptr b _=>[(b,k)]
 |_,_=>[]
def Bs1:List D->List D->Ren
 |a::l,b::m=>Bwx a b++Bs1 l m
 |_,_=>[]
def Bxd:D->D->Ren
 |.ptr k _,.ptr b _=>[(b,k)]
 |.yl k,.yl b=>[(b,k)]
 |.fn _ cs,.fn _ cs'=>Bs1 cs cs'
 |.bm _ cs,.bm _ cs'=>Bs1 cs cs'
 |_,_=>[]
def Blh(env:Env):List (Nat×D)->Ren
 |[]=>[]
 |(i,d)::l=>match get env i with|some d'=>Bxd d d'++Blh env l|none=>Blh env l
def Bhc:D->Bool
 |.bool _|.int _ _|.str _|.sl _ _ _|.nilp|.nilfn|.gp _=>true
 |_=>false
def Bnr(σ:Ren):D->Option D
 |.ptr b o=>match look σ b with|some k=>some (.ptr k o)|none=>none
 |.yl b=>match look σ b with|some k=>some (.yl k)|none=>none
 |d=>match Bhc d with|true=>some d|false=>none
def Ah2(σ:Ren):List D->Option (List D)
 |[]=>some []
 |d::l=>match Bnr σ d,Ah2 σ l with|some d',some l'=>some (d'::l')|_,_=>none
def Bhy(σ:Ren):D->Option D
 |.fn f cs=>match Ah2 σ cs with|some cs'=>some (.fn f cs')|none=>none
 |.bm f cs=>match Ah2 σ cs with|some cs'=>some (.bm f cs')|none=>none
 |.agg ds=>match Ah2 σ ds with
  |some ds'=>match ds'.all lf with|true=>some (.agg ds')|false=>none
  |none=>none
 |.sv c x=>some (.sv c x)
 |.ep c x o=>some (.ep c x o)
 |d=>Bnr σ d
def Bdv(σ:Ren):List D->Option (List D)
 |[]=>some []
 |d::l=>match Bhy σ d,Bdv σ l with|some d',some l'=>some (d'::l')|_,_=>none
def Avh(σ:Ren):Env->Env
 |[]=>[]
 |(k,d)::l=>match Bhy σ d with|some d'=>(k,d')::Avh σ l|none=>(k,.junk)::Avh σ l
def Bpc(σ:Ren):Blk->Option Blk
 |.cells ds=>match Bdv σ ds with
  |some ds'=>match ds'.all lf with|true=>some (.cells ds')|false=>none
  |none=>none
 |.lr s n ps asg body env=>some (.lr s n ps asg body (Avh σ env))
 |.lx j n ps asg body env q=>some (.lx j n ps asg body (Avh σ env) q)
 |k=>some k
def Bba(σ:Ren)(nb:Nat):Bs->Bool
 |.fx ds=>ds.all λd=>(C8 d).all λb=>(match look σ b with
  |some k=>Nat.beq k b
  |none=>false)&&Nat.blt b nb
 |.oc _ b _=>(match look σ b with
  |some k=>Nat.beq k b
  |none=>false)&&Nat.blt b nb
 |.rc _ _ _ _ env _=>env.all λp=>(C8 p.2).all λb=>(match look σ b with
  |some k=>Nat.beq k b
  |none=>false)&&Nat.blt b nb
 |_=>true
def Bkd:List (Nat×Bs)->Ren
 |[]=>[]
 |(_,.rc _ _ _ _ env _)::l=>(env.flatMap λp=>C8 p.2).map (λb=>(b,b))++Bkd l
 |_::l=>Bkd l
def Cm(sg:Sig)(args:List D):Ren:=Blh (Dm 0 args) sg.fix++Bkd sg.bl
def Akm(bl:List (Nat×Blk))(σ0:Ren):Ren->Option (List (Nat×Blk))
 |[]=>some []
 |(b,k)::σ=>match blk bl b,Akm bl σ0 σ with
  |some K,some l=>match Bpc σ0 K with|some K'=>some ((k,K')::l)|none=>none
  |_,_=>none
def Bwq:D->List Nat
 |.sl _ _ (.id t)=>[t]
 |_=>[]
def Bws:Blk->List Nat
 |.cells ds=>ds.flatMap Bwq
 |.bld _ d=>Bwq d
 |_=>[]
def Bie(bl:List (Nat×Blk))(tk:List Nat):List Nat:=tk.filter λt=>(bl.flatMap λp=>Bws p.2).contains t
def Hh(sg:Sig):Fr:=⟨sg.nb,sg.bl.map λp=>(p.1,.ptr p.1 0),0,0,[]⟩
def Adh(σ:Ren)(nw:List (Nat×Blk)):List (Nat×Blk)->List (Nat×Blk)
 |[]=>[]
 |(b,K)::l=>match look σ b with
  |none=>(b,K)::Adh σ nw l
  |some k=>match blk nw k with|some K'=>(b,K')::Adh σ nw l|none=>Adh σ nw l
section
variable {R:Type}
def Ky(sg:Sig)(σ:Ren)(args:List D)(st:St):Option St:=match Bdv σ args,Akm st.bl σ σ with|some as',some bl'=>some ⟨args.length,Dm 0 as',sg.nb,0,[Hh sg],bl',sg.nb,Bie bl' st.tk,st.nt,[]⟩|_,_=>none
def C1(sg so:Sig)(F:HV sg.sgs->Option (HV so.sgs))(args:List D)(st:St)(K:List D->St->Option R):Option R :=
 match Aq7 (Cm sg args)&&(Cm sg args).all (λp=>Nat.blt p.2 sg.nb)&&so.bl.all (λp=>Bba (Cm sg args) st.nb p.2),Ky sg (Cm sg args) args st with
 |true,some st0=>match Im sg st0 with
  |some x=>(F x).bind λr=>K (match Nat.beq so.n so.vars.length with
     |true=>(Bw st.nt so.sgs r).take so.vars.length
     |false=>[.junk])
    { st with bl:=Adh (Cm sg args) (Ct so.bl ((Bw st.nt so.sgs r).drop so.vars.length)) st.bl,tk:=A7 st.nt so.sgs++st.tk.filter (λt => !(st0.tk).contains t),nt:=st.nt+so.sgs.length }
  |none=>none
 |_,_=>none
end
def lnB(sg so:Sig):Bool:=V2 sg&&V2 so&&Nat.beq sg.lt 0&&Nat.beq sg.lb sg.nb&&Nat.beq so.lt 0&&so.ow.isEmpty&&so.fix.isEmpty&&Nat.beq so.nb sg.nb&&Cc (so.vars.map (·.1)) (List.range so.vars.length)&&so.bl.all (λp=>(sg.bl.map (·.1)).contains p.1)&&((fxs so.bl).flatMap C8).all (λb=>(sg.bl.map (·.1)).contains b)
structure FnLn (P:Program) (el:Ck->TypeId) (gl:Nat->Option Gv) (f:FuncId) (sg so:Sig) (F:HV sg.sgs->Option (HV so.sgs)):Prop where
 enters:Sx.Enters P f
 run:∀x r,F x=some r->BdL sg.sgs x->∀(cx:Cx) (m:Mp) (vs:List Value) (af:Act) (w:World),cx.P=P->cx.el=el->cx.gl=gl->Rel cx m ⟨vs.toArray,[]⟩ [af] (fs (Fw sg [Hh sg] x)) w ->
  Calls P f vs.toArray w λen w'=>∃us st' m',en = .returned (Sx.resv us)/\(∀k,(sg.bl.map (·.1)).contains k=true->m'.bl k=m.bl k)/\Im so st' = some r/\Rel cx m' ⟨us.toArray,[]⟩ [af] (fs st') w'
theorem Ap0(a b:Nat)(l:Ren)(n:Nat):look ((a,b)::l) n=if n=a then some b else look l n:=by
 simp[look];by_cases h:n=a
 ·subst h;simp
 ·simp[Ga (Ne.symm h),h]
theorem Qk:∀{σ:Ren}{n k:Nat},look σ n=some k->(n,k)∈σ
 |[],_,_,h=>by simp[look] at h
 |(a,b)::l,n,k,h=>by
  rw[Ap0] at h;by_cases hn:n=a
  ·grind
  ·rw[if_neg hn] at h;exact Zu1 _ (Qk h)
theorem Alb:∀{σ:Ren}{n k:Nat},(n,k)∈σ->∃k',look σ n=some k'
 |(a,b)::l,n,k,h=>by
  rw[Ap0];by_cases hn:n=a
  ·simp_all
  ·rw[if_neg hn];rcases List.mem_cons.1 h with h|h
   ·grind
   ·exact Alb h
theorem Acs{σ:Ren}(h:Aq7 σ=true){p q:Nat×Nat}(hp:p∈σ)(hq:q∈σ):p.1=q.1↔p.2=q.2:=by
 have h1:=Zg2.1 (Zg2.1 h p hp) q hq;simp at h1;constructor
 ·intro e;have:Nat.beq p.1 q.1=true:=by rw[e];exact Nat.beq_refl _
  rw[this] at h1;exact Zl1 h1.symm
 ·intro e;have:Nat.beq p.2 q.2=true:=by rw[e];exact Nat.beq_refl _
  rw[this] at h1;exact Zl1 h1
theorem Akz(σ:Ren)(nw:List (Nat×Blk)):∀(bl:List (Nat×Blk)) (b:Nat),blk (Adh σ nw bl) b=match look σ b with|none=>blk bl b|some k=>if(blk bl b).isSome then blk nw k else none
 |[],b=>by simp only[Adh,blk];cases look σ b<;>simp
 |(q,K)::l,b=>by
  have ih:=Akz σ nw l b;simp only[Adh];rw[Aw];cases hq:look σ q with
  |none =>
   simp only;rw[Aw,ih];by_cases hb:b=q
   ·subst hb;simp[hq]
   ·simp[hb]
  |some k =>
   simp only;by_cases hb:b=q
   ·subst hb;simp only[hq,if_true,Option.isSome_some];cases hk:blk nw k with|none=>simp only;rw[ih,hq];simp[hk]|some K'=>simp only;rw[Aw,if_pos rfl]
   ·cases hk:blk nw k with|none=>simp only;rw[ih];simp[hb]|some K'=>simp only;rw[Aw,if_neg hb,ih];simp[hb]
structure Lent (σ:Ren) (x x0:Vx):Prop where
 w:x0.w=x.w
 el:x0.el=x.el
 S:∀b i,x0.S b i->x.S b i
 bl:∀b k,look σ b=some k->k<x0.nb/\x0.m.bl k=x.m.bl b
 nt:x.nt<=x0.nt
 tk:∀t,x0.al t->x.al t/\x0.m.tk t=x.m.tk t
section
variable {σ:Ren}{x x0:Vx}
theorem Lent.rf(h:Lent σ x x0){d:D}{v:Value}(hr:RF x.S x.w d v):RF x0.S x0.w d v:=by rw[h.w];exact hr.later (Chg.refl _ _) λk i hi =>.inl (h.S k i hi)
theorem Lent.sl(h:Lent σ x x0){c:Ck}{xs:List (El c)}{t:Tk}{v:Value}(hr:Rep x (.sl c xs t) v):Rep x0 (.sl c xs t) v:=by
 simp[Rep] at hr ⊢;refine⟨h.rf hr.1,?_⟩;cases t with
 |no=>trivial
 |nil=>exact hr.2
 |z=>exact hr.2
 |ne=>exact hr.2
 |zn=>exact hr.2
 |f=>exact hr.2
 |id t =>
  obtain⟨h1,h2⟩:=hr.2;refine⟨Zx1 h1 h.nt,λha =>?_⟩;obtain⟨a1,a2⟩:=h.tk t ha;rcases h2 a1 with ⟨p,q,r⟩|⟨g,cap,cur,p,q,r,s⟩
  ·exact .inl ⟨p,a2.trans q,r⟩
  ·exact .inr ⟨g,cap,cur,p,a2.trans q,by rw[h.w,h.el];exact r,s⟩
theorem Lent.p(h:Lent σ x x0){d d':D}{v:Value}(hd:Bnr σ d=some d')(hr:Rep x d v):Rep x0 d' v:=by
 unfold Bnr at hd;split at hd
 ·rename_i b o;split at hd
  ·rename_i k hk;simp at hd;subst hd;obtain⟨h1,h2⟩:=h.bl b k hk;simp[Rep] at hr ⊢;exact⟨h1,by rw[h2];exact hr.2⟩
  ·cases hd
 ·rename_i b;split at hd
  ·rename_i k hk;simp at hd;subst hd;obtain⟨h1,h2⟩:=h.bl b k hk;simp[Rep] at hr ⊢;exact⟨h1,by rw[h2];exact hr.2⟩
  ·cases hd
 ·split at hd
  ·rename_i hpl;simp at hd;subst hd;cases d<;>simp[Bhc] at hpl
   case sl c xs t=>exact h.sl hr
   all_goals simpa only[Rep] using hr
  ·cases hd
theorem Lent.ps(h:Lent σ x x0):∀{ds ds':List D}{vs:List Value},Ah2 σ ds=some ds'->Reps x ds vs->Reps x0 ds' vs
 |[],ds',vs,hd,hr=>by simp[Ah2] at hd;subst hd;simpa[Reps] using hr
 |d::ds,ds',vs,hd,hr=>by
  simp[Ah2] at hd;split at hd
  ·rename_i d1 l1 h1 h2;simp at hd;subst hd;simp[Reps] at hr ⊢;obtain⟨u,us,rfl,q1,q2⟩:=hr;exact⟨u,us,rfl,h.p h1 q1,h.ps h2 q2⟩
  ·cases hd
theorem Lent.d(h:Lent σ x x0){d d':D}{v:Value}(hd:Bhy σ d=some d')(hr:Rep x d v):Rep x0 d' v:=by
 unfold Bhy at hd;split at hd
 ·split at hd
  ·rename_i cs' hcs;simp at hd;subst hd;simp[Rep] at hr ⊢;obtain⟨vs,h1,h2⟩:=hr;exact⟨vs,h1,h.ps hcs h2⟩
  ·cases hd
 ·split at hd
  ·rename_i cs' hcs;simp at hd;subst hd;simp[Rep] at hr ⊢;obtain⟨vs,h1,h2⟩:=hr;exact⟨vs,h1,h.ps hcs h2⟩
  ·cases hd
 ·split at hd
  ·rename_i ds' hds;split at hd
   ·rename_i hl;simp at hd;subst hd;simp only[Rep] at hr ⊢;obtain⟨_,vs,h1,h2⟩:=hr;exact⟨hl,vs,h1,h.ps hds h2⟩
   ·cases hd
  ·cases hd
 ·simp at hd;subst hd;simp[Rep] at hr ⊢;obtain⟨h1,vs,h2,h3,h4⟩:=hr;exact⟨h1,vs,h2,h3,λj e he=>by obtain⟨u,hu,hf⟩:=h4 j e he;exact⟨u,hu,h.rf hf⟩⟩
 ·simp at hd;subst hd;simp[Rep] at hr ⊢;obtain⟨b,o,h1,h2⟩:=hr;exact⟨b,o,h1,λw' hw=>h2 w' (by rw[h.w] at hw;exact hw.mono h.S)⟩
 ·exact h.p hd hr
theorem Lent.l(h:Lent σ x x0):∀{ds ds':List D}{vs:List Value},Bdv σ ds=some ds'->Reps x ds vs->Reps x0 ds' vs
 |[],ds',vs,hd,hr=>by simp[Bdv] at hd;subst hd;simpa[Reps] using hr
 |d::ds,ds',vs,hd,hr=>by
  simp[Bdv] at hd;split at hd
  ·rename_i d1 l1 h1 h2;simp at hd;subst hd;simp[Reps] at hr ⊢;obtain⟨u,us,rfl,q1,q2⟩:=hr;exact⟨u,us,rfl,h.d h1 q1,h.l h2 q2⟩
  ·cases hd
theorem Akt{k:Nat}{d:D}:∀{env:Env},get (Avh σ env) k=some d->∃d0,get env k=some d0/\(Bhy σ d0=some d\/d = .junk)
 |[],h=>by simp[Avh,get] at h
 |(q,dq)::l,h=>by
  simp only[Avh] at h;rw[Bd];split at h
  ·rename_i d' hd';rw[Bd] at h;by_cases hk:k=q
   ·rw[if_pos hk] at h ⊢;simp only[Za1] at h;subst h;exact⟨dq,rfl,.inl hd'⟩
   ·rw[if_neg hk] at h ⊢;exact Akt h
  ·rw[Bd] at h;by_cases hk:k=q
   ·rw[if_pos hk] at h ⊢;simp only[Za1] at h;exact⟨dq,rfl,.inr h.symm⟩
   ·rw[if_neg hk] at h ⊢;exact Akt h
theorem Lent.e(h:Lent σ x x0){tm:Array Value}{env:Env}(he:∀k d,get env k=some d->∃v,tm[k]? = some v/\Rep x d v){k:Nat}{d:D}(hd:get (Avh σ env) k=some d):∃v,tm[k]? = some v/\Rep x0 d v:=by
 obtain⟨d0,h1,h2⟩:=Akt hd;obtain⟨v,h3,h4⟩:=he k d0 h1;refine⟨v,h3,?_⟩;rcases h2 with h2|rfl
 ·exact h.d h2 h4
 ·simp[Rep]
theorem Lent.b(h:Lent σ x x0){β:Nat}{K K':Blk}(hk:Bpc σ K=some K')(hr:F6 x β K):F6 x0 β K':=by
 unfold Bpc at hk;split at hk
 ·split at hk
  ·rename_i ds' hds;split at hk
   ·rename_i hl;simp at hk;subst hk;obtain⟨_,vs,t,h1,h2⟩:=hr;exact⟨hl,vs,t,by rw[h.w];exact h1,h.l hds h2⟩
   ·cases hk
  ·cases hk
 ·rename_i s n ps asg body env;simp at hk;subst hk;obtain⟨rc,g1,g2,g3,g4,g5,g6⟩:=hr;exact⟨rc,by rw[h.w];exact g1,g2,g3,g4,⟨rfl,g5.size,λk d hd=>h.e (λk d hd=>g5.get k d hd) hd⟩,g6⟩
 ·rename_i j n ps asg body env q;simp at hk;subst hk;refine⟨hr.1,λhj =>?_,λhj =>?_⟩
  ·obtain⟨rc,g1,g2,g3,g4,g5,g6⟩:=hr.2.1 hj;exact⟨rc,by rw[h.w];exact g1,g2,g3,g4,⟨rfl,g5.size,λk d hd=>h.e (λk d hd=>g5.get k d hd) hd⟩,g6⟩
  ·obtain⟨rc,g1,g2⟩:=hr.2.2 hj;exact⟨rc,by rw[h.w];exact g1,g2⟩
 ·simp at hk;subst hk;cases K with|cells ds=>rename_i hne _ _;exact absurd rfl (hne ds)|ob q=>simp only[F6] at hr ⊢;rw[h.w];exact hr|lj e=>simp only[F6] at hr ⊢;rw[h.w];exact hr|lr s n ps asg body env=>rename_i hne _;exact absurd rfl (hne s n ps asg body env)|lx j n ps asg body env q=>rename_i hne;exact absurd rfl (hne j n ps asg body env q)|box c y =>obtain⟨h0,vs,t,h1,h2,h3⟩:=hr;exact⟨h0,vs,t,by rw[h.w];exact h1,h2,λj d hd=>by obtain⟨u,hu,hf⟩:=h3 j d hd;exact⟨u,hu,h.rf hf⟩⟩|row c n xs =>obtain⟨h0,vs,t,h1,h2,h3⟩:=hr;exact⟨h0,vs,t,by rw[h.w];exact h1,h2,λi y j d hy hd=>by obtain⟨u,hu,hf⟩:=h3 i y j d hy hd;exact⟨u,hu,h.rf hf⟩⟩|dyn c xs =>obtain⟨h0,vs,t,h1,h2,h3⟩:=hr;exact⟨h0,vs,t,by rw[h.w];exact h1,h2,λi y j d hy hd=>by obtain⟨u,hu,hf⟩:=h3 i y j d hy hd;exact⟨u,hu,h.rf hf⟩⟩|bld ty d =>obtain⟨⟨l,t,rfl⟩,a,v,h1,h2,h3⟩:=hr;exact⟨⟨l,t,rfl⟩,a,v,by rw[h.w];exact h1,h2,h.sl h3⟩
end
theorem N5{bl:List (Nat×Blk)}{σ0:Ren}:∀{σ:Ren}{bl':List (Nat×Blk)},Akm bl σ0 σ=some bl'->∀k K',blk bl' k=some K'->∃b K,(b,k)∈σ/\blk bl b=some K/\Bpc σ0 K=some K'
 |[],bl',h,k,K',hk=>by simp[Akm] at h;subst h;simp[blk] at hk
 |(b,q)::σ,bl',h,k,K',hk=>by
  simp[Akm] at h;split at h
  ·rename_i K l hb hl;split at h
   ·rename_i K1 hK;simp at h;subst h;rw[Aw] at hk;by_cases hq:k=q
    ·subst hq;rw[if_pos rfl] at hk;simp at hk;subst hk;exact⟨b,K,Zr1,hb,hK⟩
    ·rw[if_neg hq] at hk;obtain⟨b',K2,h1,h2,h3⟩:=N5 hl k K' hk;exact⟨b',K2,Zu1 _ h1,h2,h3⟩
   ·cases h
  ·cases h
theorem Ag3{bl:List (Nat×Blk)}{σ0:Ren}:∀{σ:Ren}{bl':List (Nat×Blk)},Akm bl σ0 σ=some bl'->∀b k,(b,k)∈σ->blk bl b≠none/\blk bl' k≠none
 |[],bl',h,b,k,hm=>by cases hm
 |(b0,q)::σ,bl',h,b,k,hm=>by
  simp[Akm] at h;split at h
  ·rename_i K l hb hl;split at h
   ·rename_i K1 hK;simp at h;subst h;rw[Aw];rcases List.mem_cons.1 hm with hm|hm
    ·simp at hm;obtain⟨rfl,rfl⟩:=hm;exact⟨by rw[hb];simp,by simp⟩
    ·obtain⟨h1,h2⟩:=Ag3 hl b k hm;refine⟨h1,?_⟩;by_cases hq:k=q
     ·simp[hq]
     ·rw[if_neg hq];exact h2
   ·cases h
  ·cases h
theorem Ho{bl:List (Nat×Blk)}{tk:List Nat}{t:Nat}(h:t∈Bie bl tk):t∈tk:=(List.mem_filter.1 h).1
theorem Ht{x:Vx}:∀{ds:List D}{us:List Value}(i k:Nat) (d:D),Reps x ds us->get (Dm i ds) k=some d->∃v,i<=k/\us[k-i]? = some v/\Rep x d v
 |[],us,i,k,d,_,h=>by simp[Dm,get] at h
 |e::ds,us,i,k,d,hr,h=>by
  simp[Reps] at hr;obtain⟨u,us,rfl,h1,h2⟩:=hr;simp[Dm] at h;rw[Bd] at h;by_cases hk:k=i
  ·subst hk;simp at h;subst h;exact⟨u,Zn1 _,by simp,h1⟩
  ·rw[if_neg hk] at h;obtain⟨v,h3,h4,h5⟩:=Ht (i+1) k d h2 h;refine⟨v,by omega,?_,h5⟩;rw[show k-i=(k-(i+1))+1 by omega];simpa using h4
theorem Awe:∀{bl:List (Nat×Bs)}{k:Nat}{d:D},get (bl.map λp=>(p.1,D.ptr p.1 0)) k=some d->d = .ptr k 0/\∃bs,(k,bs)∈bl
 |[],k,d,h=>by simp[get] at h
 |(q,bs)::bl,k,d,h=>by
  simp at h;rw[Bd] at h;by_cases hk:k=q
  ·subst hk;simp at h;exact⟨h.symm,bs,Zr1⟩
  ·rw[if_neg hk] at h;obtain⟨h1,bs',h2⟩:=Awe h;exact⟨h1,bs',Zu1 _ h2⟩
theorem Zq:∀{bl:List (Nat×Bs)}{k:Nat},(bl.map (·.1)).contains k=true->get (bl.map λp=>(p.1,D.ptr p.1 0)) k=some (.ptr k 0)
 |[],k,h=>by simp at h
 |(q,bs)::bl,k,h=>by
  simp;rw[Bd];by_cases hk:k=q
  ·subst hk;simp
  ·rw[if_neg hk];refine Zq (bl:=bl) ?_;simp only[Zw1,List.contains_cons,Zd2,beq_iff_eq] at h;exact h.resolve_left hk
section
variable {R:Type}{cx:Cx}
def Apz(nb:Nat)(m0:Mp):Act:=⟨((List.range nb).map λk=>Value.pointer (some ⟨m0.bl k,0,none⟩)).toArray,[]⟩
theorem Aqy{nb:Nat}{m0:Mp}{k:Nat}(h:k<nb):(Apz nb m0).tmps[k]? = some (.pointer (some ⟨m0.bl k,0,none⟩)):=by simp[Apz,h]
theorem Bhq{sg:Sig}(hok:V2 sg=true){σ:Ren}(hσ:Aq7 σ=true)(hσn:∀p,p∈σ->p.2<sg.nb){args:List D}{st st0:St}(h0:Ky sg σ args st=some st0){m:Mp}{a:Act}{as_:List Act}{w:World}{vs:List Value}(hr:Rel cx m a as_ (fs st) w)(hargs:Reps (vx cx m (fs st) w) args vs) :
  ∃(m0:Mp) (cx0:Cx),cx0.P=cx.P/\cx0.el=cx.el/\cx0.gl=cx.gl/\cx0.w0=w/\(∀b k,look σ b=some k->m0.bl k=m.bl b)/\m0.tk=m.tk/\(∀b i,cx0.I b i->Dv m0 (fs st0) b i)/\(∀b i,cx0.M b i↔((vx cx m (fs st) w).S b i/\∀j,¬Dv m0 (fs st0) b j)) /\
   (∀b i,Dv m0 (fs st0) b i->Dv m (fs st) b i)/\Rel cx0 m0 ⟨vs.toArray,[]⟩ [Apz sg.nb m0] (fs st0) w:=by
 unfold Ky at h0;split at h0
 ·rename_i as' bl' ha hb;simp at h0;subst h0;let inv:Nat->Nat:=λk=>((σ.find? λp=>Nat.beq p.2 k).map (·.1)).getD 0;have hinv:∀b k,(b,k)∈σ->inv k=b:=λb k hm=>by
   have hs:(σ.find? λp=>Nat.beq p.2 k).isSome=true:=by rw[List.find?_isSome];exact⟨(b,k),hm,Nat.beq_refl k⟩
   obtain⟨p,hp⟩:=Option.isSome_iff_exists.1 hs;have h1:=List.mem_of_find?_eq_some hp;have h2:=List.find?_some hp;have h2:=Zl1 h2;simp[inv,hp];exact(Acs hσ h1 hm).2 h2
  let m0:Mp:=⟨λk=>m.bl (inv k),m.tk⟩;let s0:FS:=fs ⟨args.length,Dm 0 as',sg.nb,0,[Hh sg],bl',sg.nb,Bie bl' st.tk,st.nt,[]⟩;have hbl0:∀b k,look σ b=some k->m0.bl k=m.bl b:=λb k hk=>by simp[m0,hinv b k (Qk hk)]
  have hs0:∀k,s0.bl k≠none->∃b,(b,k)∈σ/\(fs st).bl b≠none/\m0.bl k=m.bl b:=λk hk=>by cases hK:blk bl' k with|none=>exact absurd hK hk|some K' =>obtain⟨b,K,h1,h2,_⟩:=N5 hb k K' hK;exact⟨b,h1,by show blk st.bl b≠none;rw[h2];simp,by simp[m0,hinv b k h1]⟩
  have hfp:∀b i,Dv m0 s0 b i->Dv m (fs st) b i:=by
   rintro b i (⟨k,hk,rfl⟩|⟨t,o,h1,h2,h3⟩)
   ·obtain⟨q,_,h2,h3⟩:=hs0 k hk;exact .inl ⟨q,h2,h3.symm⟩
   ·exact .inr ⟨t,o,Ho h1,h2,h3⟩
  let cx0:Cx:=⟨cx.P,w,Dv m0 s0,λb i=>(vx cx m (fs st) w).S b i/\∀j,¬Dv m0 s0 b j,cx.el,cx.gl⟩;have hS:∀b i,(vx cx0 m0 s0 w).S b i->(vx cx m (fs st) w).S b i:=by
   rintro b i (h|h)
   ·exact h.1
   ·exact .inr (hfp b i h)
  have hL:Lent σ (vx cx m (fs st) w) (vx cx0 m0 s0 w):=⟨rfl,rfl,hS,λb k hk=>⟨hσn _ (Qk hk),hbl0 b k hk⟩,Zn1 _,λt ht=>⟨Ho ht,rfl⟩⟩;have hreps:=hL.l ha hargs;have hlen:vs.length=args.length:=hargs.len;refine⟨m0,cx0,rfl,rfl,rfl,rfl,hbl0,rfl,λ_ _ h=>h,λ_ _=>Iff.rfl,hfp,?_⟩;show Rel cx0 m0 ⟨vs.toArray,[]⟩ [Apz sg.nb m0] s0 w;simp only[V2,Zb1] at hok;obtain⟨⟨⟨_,hok2⟩,_⟩,_⟩:=hok;refine⟨Chg.refl _ _,⟨(show Att _ [] [] from rfl),(by simpa using hlen:vs.toArray.size=args.length),λk d hk =>?_⟩,?_,Zn1 _,Nat.zero_le _,λk K' hk =>?_,λt ht =>?_,λb b' h1 h2 h3 =>?_,λt t' g o o' h1 h2=>hr.injt t t' g o o' (Ho h1) (Ho h2),λb t g o h1 h2 h3 =>?_,λb i hi=>⟨(hr.own b i (hfp b i hi)).1,.inl hi⟩,λb i j hm=>⟨?_,hm.2 j⟩,?_⟩
  ·obtain⟨v,_,h2,h3⟩:=Ht 0 k d hreps hk;exact⟨v,by simpa using h2,h3⟩
  ·refine⟨Apz sg.nb m0,[],rfl,Nat.zero_le _,Nat.zero_le _,⟨(show Att _ [] [] from rfl),by simp[Apz,Hh],λk d hk =>?_⟩,rfl⟩;obtain⟨rfl,bs,hm⟩:=Awe hk;have hlt:k<sg.nb:=by have:=Zg2.1 hok2 _ hm;simp at this;simpa using this.1
   exact⟨_,Aqy hlt,by simp[Rep];exact⟨hlt,rfl⟩⟩
  ·obtain⟨b,K,h1,h2,h3⟩:=N5 hb k K' hk;refine⟨hσn _ h1,?_⟩;have e:m0.bl k=m.bl b:=by simp[m0,hinv b k h1]
   rw[e];exact hL.b h3 (hr.blks b K h2).2
  ·exact hr.als t (Ho ht)
  ·obtain⟨q,q1,q2,q3⟩:=hs0 b h1;obtain⟨q',p1,p2,p3⟩:=hs0 b' h2;rw[q3,p3] at h3;exact(Acs hσ q1 p1).1 (hr.inj q q' q2 p2 h3)
  ·obtain⟨q,_,q2,q3⟩:=hs0 b h1;rw[q3];exact hr.injbt q t g o q2 (Ho h2) h3
  ·rcases hm.1 with h|h
   ·have:=(hr.away b i 0 h).1;exact Zx1 this hr.chg.size
   ·exact(hr.own b i h).1
  ·exact⟨λg c xs hx i y hy w' hw=>hr.glb.1 g c xs hx i y hy w' (hw.mono hS),λg l hl=>by obtain⟨r,es,clk,q1,q2⟩:=hr.glb.2.1 g l hl;exact⟨r,es,clk,λw' hw=>q1 w' (hw.mono hS),q2⟩,λg k hk=>by obtain⟨n,q1⟩:=hr.glb.2.2 g k hk;exact⟨n,λw' hw=>q1 w' (hw.mono hS)⟩⟩
 ·cases h0
theorem G4:∀{bl:List (Nat×Bs)}{E:List D}{k:Nat}{K:Blk},blk (Ct bl E) k=some K->(bl.map (·.1)).contains k=true
 |[],E,k,K,h=>by simp[Ct,blk] at h
 |(q,.cells l)::bl,E,k,K,h=>by
  simp[Ct] at h;rw[Aw] at h;simp only[Zw1,List.contains_cons,Zd2,beq_iff_eq];by_cases hk:k=q
  ·exact .inl hk
  ·rw[if_neg hk] at h;exact .inr (G4 h)
 |(q,.one s)::bl,[],k,K,h=>by
  simp[Ct] at h;rw[Aw] at h;simp only[Zw1,List.contains_cons,Zd2,beq_iff_eq];by_cases hk:k=q
  ·exact .inl hk
  ·rw[if_neg hk] at h;exact .inr (G4 h)
 |(q,.one s)::bl,d::E,k,K,h=>by
  simp[Ct] at h;rw[Aw] at h;simp only[Zw1,List.contains_cons,Zd2,beq_iff_eq];by_cases hk:k=q
  ·exact .inl hk
  ·rw[if_neg hk] at h;exact .inr (G4 h)
 |(q,.bld _)::bl,[],k,K,h=>by
  simp[Ct] at h;rw[Aw] at h;simp only[Zw1,List.contains_cons,Zd2,beq_iff_eq];by_cases hk:k=q
  ·exact .inl hk
  ·rw[if_neg hk] at h;exact .inr (G4 h)
 |(q,.bld _)::bl,d::E,k,K,h=>by
  simp[Ct] at h;rw[Aw] at h;simp only[Zw1,List.contains_cons,Zd2,beq_iff_eq];by_cases hk:k=q
  ·exact .inl hk
  ·rw[if_neg hk] at h;exact .inr (G4 h)
 |(q,.fx _)::bl,E,k,K,h=>by
  simp[Ct] at h;rw[Aw] at h;simp only[Zw1,List.contains_cons,Zd2,beq_iff_eq];by_cases hk:k=q
  ·exact .inl hk
  ·rw[if_neg hk] at h;exact .inr (G4 h)
 |(q,.oc _ _ _)::bl,E,k,K,h=>by
  simp[Ct] at h;rw[Aw] at h;simp only[Zw1,List.contains_cons,Zd2,beq_iff_eq];by_cases hk:k=q
  ·exact .inl hk
  ·rw[if_neg hk] at h;exact .inr (G4 h)
 |(q,.rc n ps asg body env qq)::bl,E,k,K,h=>by
  have h':∃K0 E',blk ((q,K0)::Ct bl E') k=some K:=by cases E with|nil=>exact⟨_,_,h⟩|cons d E=>cases d<;>exact⟨_,_,h⟩
  obtain⟨K0,E',h⟩:=h';rw[Aw] at h;simp only[Zw1,List.contains_cons,Zd2,beq_iff_eq];by_cases hk:k=q
  ·exact .inl hk
  ·rw[if_neg hk] at h;exact .inr (G4 h)
theorem Bli{sg:Sig}(hok:V2 sg=true){st:St}{x:HV sg.sgs}(hd:Im sg st=some x){m:Mp}{a:Act}{as_:List Act}{w:World}(hr:Rel cx m a as_ (fs st) w):BdL sg.sgs x:=by
 simp only[V2,Zb1] at hok;obtain⟨⟨⟨_,hok2⟩,_⟩,_⟩:=hok;unfold Im at hd;split at hd
 ·rename_i A B O hA hB hO _;obtain⟨VA,hVA,_⟩:=J6 (env:=st.env) hr.env hA;obtain⟨VB,hVB,_⟩:=De (x:=vx cx m (fs st) w) (m:=m.bl) (stbl:=st.bl) (λb k hk=>(hr.blks b k hk).2) hB hok2;obtain⟨VO,hVO,_⟩:=It (env:=st.env) hr.env hO;have:=F3 (X:=vx cx m (fs st) w) (X':=⟨⟨m.bl,λp=>(asg 0 sg.sgs (A++(B++O)) p).bind m.tk⟩,λ_=>False,(vx cx m (fs st) w).S,w,0,sg.sgs.length,cx.el⟩) (λ_ _ h=>h) rfl rfl 0 hd (λt ht=>(List.mem_filter.1 ht).1) (hVA.append (hVB.append hVO)) (λp hp=>by have:=(F8 _ _ _ hp).2;exact⟨by simpa using this,rfl⟩)
  exact Y9 this
 ·cases hd
theorem Bp1{vars:List (Nat×Sg)}(h:Cc (vars.map (·.1)) (List.range vars.length)=true){i k:Nat}{s:Sg}(hi:vars[i]? = some (k,s)):k=i:=by have h2:=congrArg (·[i]?) (Gl h);simp[ hi] at h2;rw[List.getElem?_range ((Zi2.1 hi).1)] at h2;simpa using h2
theorem Ej{stbl:List (Nat×Blk)}:∀{bl:List (Nat×Bs)}{B:List D},Be stbl bl=some B->∀p,p∈bl->blk stbl p.1≠none
 |[],_,_,p,hp=>by cases hp
 |(b0,.cells l)::bl,B,hg,p,hp=>by
  simp[Be] at hg;split at hg
  ·rename_i ds es hds hes;rcases List.mem_cons.1 hp with rfl|hp
   ·rw[hds];simp
   ·exact Ej hes p hp
  ·cases hg
 |(b0,.one s)::bl,B,hg,p,hp=>by
  simp[Be] at hg;split at hg
  ·cases hg
  ·cases hg
  ·cases hg
  ·cases hg
  ·cases hg
  ·rename_i k es _ _ _ _ _ hk hes;rcases List.mem_cons.1 hp with rfl|hp
   ·rw[hk];simp
   ·exact Ej hes p hp
  ·cases hg
 |(b0,.bld t0)::bl,B,hg,p,hp=>by
  simp[Be] at hg;split at hg
  ·rename_i t1 d es hk hes;rcases List.mem_cons.1 hp with rfl|hp
   ·rw[hk];simp
   ·exact Ej hes p hp
  ·cases hg
 |(b0,.fx l)::bl,B,hg,p,hp=>by
  simp[Be] at hg;split at hg
  ·rename_i ds es hds hes;split at hg
   ·rcases List.mem_cons.1 hp with rfl|hp
    ·rw[hds];simp
    ·simp at hg;subst hg;exact Ej hes p hp
   ·cases hg
  ·cases hg
 |(b0,.oc l b1 c)::bl,B,hg,p,hp=>by
  simp[Be] at hg;split at hg
  ·rename_i ds es hds hes;rcases List.mem_cons.1 hp with rfl|hp
   ·rw[hds];simp
   ·exact Ej hes p hp
  ·cases hg
 |(b0,.rc n ps asg body env q)::bl,B,hg,p,hp=>by
  simp[Be] at hg;split at hg
  ·rename_i k es hk hes;rcases List.mem_cons.1 hp with rfl|hp
   ·rw[hk];simp
   ·exact Ej hes p hp
  ·cases hg
theorem Ws{σ:Ren}{nb:Nat}:∀{bl:List (Nat×Bs)},(bl.all λp=>Bba σ nb p.2)=true->∀d,d∈fxs bl->∀b,b∈C8 d->look σ b=some b/\b<nb
 |[],_,d,hd=>by cases hd
 |(_,.cells _)::bl,h,d,hd=>by simp only[Zv1,Zb1] at h;exact Ws h.2 d hd
 |(_,.one _)::bl,h,d,hd=>by simp only[Zv1,Zb1] at h;exact Ws h.2 d hd
 |(_,.bld _)::bl,h,d,hd=>by simp only[Zv1,Zb1] at h;exact Ws h.2 d hd
 |(_,.fx l)::bl,h,d,hd=>by
  simp only[Zv1,Zb1] at h;simp[fxs,List.mem_append] at hd;rcases hd with hd|hd
  ·intro b hb;have h1:=Zg2.1 (Zg2.1 h.1 d hd) b hb;simp at h1;refine⟨?_,by simpa[Nat.blt_eq] using h1.2⟩;cases hl:look σ b with|none=>rw[hl] at h1;cases h1.1|some k=>rw[hl] at h1;rw[Zl1 h1.1]
  ·exact Ws h.2 d hd
 |(_,.oc l b1 c)::bl,h,d,hd=>by
  simp only[Zv1,Zb1] at h;simp[fxs,List.mem_cons] at hd;rcases hd with rfl|hd
  ·intro b hb;simp[C8] at hb;subst hb;have h1:=h.1;simp[Bba,Zb1] at h1;refine⟨?_,by simpa[Nat.blt_eq] using h1.2⟩;cases hl:look σ b with|none=>rw[hl] at h1;cases h1.1|some k=>rw[hl] at h1;rw[Zl1 h1.1]
  ·exact Ws h.2 d hd
 |(_,.rc n ps asg body env q)::bl,h,d,hd=>by
  simp only[Zv1,Zb1] at h;simp only[fxs] at hd;rcases List.mem_append.1 hd with hd|hd
  ·intro b hb;obtain⟨p,hp,rfl⟩:=List.mem_map.1 hd;have h0:(env.all λp=>(C8 p.2).all λb=>(match look σ b with
    |some k=>Nat.beq k b
    |none=>false)&&Nat.blt b nb)=true:=h.1
   have h1:=Zg2.1 (Zg2.1 h0 p hp) b hb;simp at h1;refine⟨?_,by simpa[Nat.blt_eq] using h1.2⟩;cases hl:look σ b with|none=>rw[hl] at h1;cases h1.1|some k=>rw[hl] at h1;rw[Zl1 h1.1]
  ·exact Ws h.2 d hd
theorem Bnj{bl:List (Nat×Bs)}{d:D}{b:Nat}(hd:d∈fxs bl)(hb:b∈C8 d):b∈(fxs bl).flatMap C8:=List.mem_flatMap.2 ⟨d,hd,hb⟩
theorem Alr{env:Env}:∀{vars:List (Nat×Sg)}{A:List D},Jk env vars=some A->A.length=vars.length
 |[],A,h=>by simp[Jk] at h;subst h;rfl
 |p::vars,A,h=>by
  simp[Jk] at h;split at h
  ·rename_i d ds _ hds;simp at h;subst h;simp[Alr hds]
  ·cases h
theorem Ard{g:Nat}{sg so:Sig}{F:HV sg.sgs->Option (HV so.sgs)}(h:FnLn cx.P cx.el cx.gl g sg so F)(hok:lnB sg so=true){args:List D}{st:St}{K:List D->St->Option R}{r:R}(hc:C1 sg so F args st K=some r):H4 cx g args st K r:=by
 simp only[lnB,Zb1] at hok;obtain⟨⟨⟨⟨⟨⟨⟨⟨⟨⟨k1,k2⟩,k3⟩,k4⟩,k5⟩,k6⟩,k7⟩,k8⟩,k10⟩,k11⟩,k12⟩:=hok;have k5:=Zl1 k5;refine⟨h.enters,λm a as_ w vs hr hargs =>?_⟩;unfold C1 at hc;generalize Cm sg args=σ at hc;split at hc
 ·rename_i st0 hσ h0;simp only[Zb1] at hσ;obtain⟨⟨hσ,hσn⟩,hσf⟩:=hσ;have hσn:∀p,p∈σ->p.2<sg.nb:=λp hp=>by simpa[Nat.blt_eq] using Zg2.1 hσn p hp
  split at hc
  ·rename_i x hx;cases hF:F x with
   |none=>rw[hF] at hc;cases hc
   |some r0 =>
    rw[hF,Zc1] at hc;obtain⟨m0,cx0,e1,e2,e3,e4,hbl0,htk0,hI,hM,hfp0,hrel0⟩:=Bhq k1 hσ hσn h0 hr hargs;obtain⟨m0',hrel1⟩:=hrel0.recode k1 hx;have hst0:st0.fr=[Hh sg]/\(∀t,t∈st0.tk->t∈st.tk)/\∀b k,(b,k)∈σ->blk st0.bl k≠none:=by
     unfold Ky at h0;split at h0
     ·rename_i as' bl' ha hb;simp[Za1] at h0;subst h0;exact⟨rfl,λt ht=>Ho ht,λb k hm=>(Ag3 hb b k hm).2⟩
     ·cases h0
    rw[hst0.1] at hrel1;refine(h.run x r0 hF (Bli k1 hx hrel0) cx0 m0' vs _ w e1 e2 e3 hrel1).mono ?_;rintro en w' ⟨us,st1,m1,rfl,hbls,hdec,hrel2⟩;have hm1:∀k,(sg.bl.map (·.1)).contains k=true->m1.bl k=m0.bl k:=λk hk=>by
     rw[hbls k hk];have hf:=hrel1.frs;have e:(fs (Fw sg [Hh sg] x)).fr=[Hh sg]:=by unfold Fw;split;rfl
     rw[e] at hf;obtain⟨a',r',he,_,_,henv,_⟩:=hf;simp[Ze2] at he;obtain⟨rfl,_⟩:=he;obtain⟨v,hv,hrep⟩:=henv.get k _ (Zq hk);have hlt:k<sg.nb:=by simp only[List.contains_iff_mem,List.mem_map] at hk;obtain⟨p,hp,rfl⟩:=hk;simp only[V2,Zb1] at k1;have:=Zg2.1 k1.1.1.2 p hp;simp[Zb1] at this;simpa[Nat.blt_eq] using this.1
     rw[Aqy hlt] at hv;simp[Za1] at hv;subst hv;simp only[Rep,Value.pointer.injEq,Za1,Addr.mk.injEq] at hrep;exact hrep.2.1.symm
    simp only[V2,Zb1] at k2;obtain⟨⟨⟨_,hok2⟩,_⟩,_⟩:=k2;unfold Im at hdec;split at hdec
    ·rename_i A B O hA hB hO hcc;obtain⟨VA,hVA,hVA2⟩:=J6 (env:=st1.env) hrel2.env hA;obtain⟨VB,hVB,hVB2⟩:=De (x:=vx cx0 m1 (fs st1) w') (m:=m1.bl) (stbl:=st1.bl) (λb k hk=>(hrel2.blks b k hk).2) hB hok2;obtain⟨VO,hVO,_⟩:=It (env:=st1.env) hrel2.env hO;obtain⟨as1,as2⟩:=Q2 st.nt hdec;have hals:∀t,t∈(st1.tk.filter λt => !so.tk.contains t)->t∈st1.tk:=λt ht=>(List.mem_filter.1 ht).1;let E:=Bw st.nt so.sgs r0;let nw:=Ct so.bl (E.drop so.vars.length);let st':St:={ st with bl:=Adh σ nw st.bl,tk:=A7 st.nt so.sgs++st.tk.filter (λt => !(st0.tk).contains t),nt:=st.nt+so.sgs.length };let m':Mp:=⟨m.bl,λt=>if t<st.nt then m.tk t else(asg st.nt so.sgs (A++(B++O)) t).bind m1.tk⟩;have hchI:Chg cx0.I w w':=by have:=hrel2.chg;rw[e4] at this;exact this
     have hch:Chg (Dv m (fs st)) w w':=hchI.mono λb i hi=>hfp0 b i (hI b i hi);have htok:∀t,t∈A7 st.nt so.sgs++st.tk.filter (λt => !(st0.tk).contains t)->(t∈st.tk/\t∉st0.tk/\t<st.nt/\m'.tk t=m.tk t)\/(st.nt<=t/\t<st.nt+so.sgs.length/\m'.tk t=(asg st.nt so.sgs (A++(B++O)) t).bind m1.tk):=λt ht=>by
      simp[List.mem_append,List.mem_filter] at ht;rcases ht with ht|⟨ht,hn⟩
      ·obtain⟨h1,h2⟩:=F8 _ _ _ ht;exact .inr ⟨h1,h2,by simp[m',Nat.not_lt.2 h1]⟩
      ·have hlt:t<st.nt:=hr.als t ht;refine .inl ⟨ht,λhm =>?_,hlt,by simp[m',hlt]⟩;simp[hm] at hn
     have hnewt:∀t g o,st.nt<=t->m'.tk t=some (g,o)->∃t1,asg st.nt so.sgs (A++(B++O)) t=some t1/\t1∈st1.tk/\m1.tk t1=some (g,o):=λt g o hge hg=>by simp[m',if_neg (Nat.not_lt.2 hge)] at hg;cases ha:asg st.nt so.sgs (A++(B++O)) t with|none=>rw[ha] at hg;cases hg|some t1=>rw[ha,Zc1] at hg;exact⟨t1,rfl,hals _ (as1 t t1 ha).1,hg⟩
     have hfI0:∀b i,Dv m0 (fs st0) b i->(∃q k,(q,k)∈σ/\blk st.bl q≠none/\b=m.bl q)\/∃t o,t∈st0.tk/\m.tk t=some (b,o):=by
      rintro b i (⟨k,hk,rfl⟩|⟨t,o,h1,h2,h3⟩)
      ·unfold Ky at h0;split at h0
       ·rename_i as' bl' ha hb;simp[Za1] at h0;subst h0;cases hK:blk bl' k with|none=>exact absurd hK hk|some K' =>obtain⟨q,K,q1,q2,_⟩:=N5 hb k K' hK;obtain⟨k',hk'⟩:=Alb q1;have hkk:k' = k:=(Acs hσ (Qk hk') q1).1 rfl;rw[hkk] at hk';exact .inl ⟨q,k,q1,by rw[q2];simp,hbl0 q k hk'⟩
       ·cases h0
      ·rw[htk0] at h2;exact .inr ⟨t,o,h1,h2⟩
     have apart_b:∀b,blk st.bl b≠none->look σ b=none->∀i,¬Dv m0 (fs st0) (m.bl b) i:=λb hb hl i hi=>by
      rcases hfI0 _ _ hi with ⟨q,k,q1,q2,q3⟩|⟨t,o,q1,q2⟩
      ·have:=hr.inj b q hb q2 q3;subst this;obtain⟨k',hk'⟩:=Alb q1;rw[hl] at hk';cases hk'
      ·exact hr.injbt b t _ _ hb (hst0.2.1 t q1) q2 rfl
     have apart_t:∀t g o,t∈st.tk->t∉st0.tk->m.tk t=some (g,o)->∀i,¬Dv m0 (fs st0) g i:=λt g o ht hn hg i hi=>by
      rcases hfI0 _ _ hi with ⟨q,k,q1,q2,q3⟩|⟨t',o',q1,q2⟩
      ·exact hr.injbt q t g o q2 ht hg q3.symm
      ·exact hn (hr.injt t t' g o o' ht (hst0.2.1 t' q1) hg q2▸q1)
     have hheap:∀b,b<w.heap.size->(∀i,¬Dv m0 (fs st0) b i)->w'.heap[b]? = w.heap[b]? :=λb hb hn=>hchI.block b hb λi hi=>hn i (hI b i hi);have hnwk:∀b k K,look σ b=some k->blk nw k=some K->(so.bl.map (·.1)).contains k=true/\m1.bl k=m.bl b:=λb k K hl hK=>by
      have h1:=G4 hK;refine⟨h1,?_⟩;have h2:(sg.bl.map (·.1)).contains k=true:=by simp only[List.contains_iff_mem,List.mem_map] at h1;obtain⟨p,hp,rfl⟩:=h1;exact Zg2.1 k11 p hp
      rw[hm1 k h2,hbl0 b k hl]
     have hbl':∀b K,blk (Adh σ nw st.bl) b=some K->(look σ b=none/\blk st.bl b=some K)\/∃k,look σ b=some k/\blk st.bl b≠none/\blk nw k=some K:=λb K hK=>by
      rw[Akz] at hK;cases hl:look σ b with
      |none=>rw[hl] at hK;exact .inl ⟨rfl,hK⟩
      |some k =>
       rw[hl] at hK;simp only at hK;split at hK
       ·rename_i hs;exact .inr ⟨k,rfl,by cases hq:blk st.bl b with|none=>rw[hq] at hs;cases hs|some _=>simp,hK⟩
       ·cases hK
     have hbl'n:∀b,(fs st').bl b≠none->blk st.bl b≠none:=λb hb=>by
      cases hK:blk (Adh σ nw st.bl) b with
      |none=>exact absurd hK hb
      |some K =>
       rcases hbl' b K hK with ⟨_,h2⟩|⟨_,_,h2,_⟩
       ·rw[h2];simp
       ·exact h2
     have hshE:ShL ((so.bl.map (·.2.sgs)).flatten++Ayv so.ow) (E.drop so.vars.length):=by have hsh:=Age st.nt so.sgs r0;simp[Sig.sgs] at hsh;have hs2:=hsh.split.2;simp[List.length_map] at hs2;exact hs2
     have hfp':∀b i,Dv m' (fs st') b i->Dv m (fs st) b i\/∃t1 o,t1∈st1.tk/\m1.tk t1=some (b,o)/\o<=i:=by
      rintro b i (⟨q,hq,rfl⟩|⟨t,o,h1,h2,h3⟩)
      ·exact .inl (.inl ⟨q,hbl'n q hq,rfl⟩)
      ·rcases htok t h1 with ⟨q1,_,_,q4⟩|⟨q1,_,_⟩
       ·rw[q4] at h2;exact .inl (.inr ⟨t,o,q1,h2,h3⟩)
       ·obtain⟨t1,_,p2,p3⟩:=hnewt t b o q1 h2;exact .inr ⟨t1,o,p2,p3,h3⟩
     have hfresh:∀t1 b o,t1∈st1.tk->m1.tk t1=some (b,o)->b<w'.heap.size/\(Dv m (fs st) b o\/w.heap.size<=b):=λt1 b o h1 h2=>by obtain⟨q1,q2⟩:=hrel2.own b o (.inr ⟨t1,o,h1,h2,Zn1 _⟩);rw[e4] at q2;exact⟨q1,q2.imp (λh=>hfp0 b o (hI b o h)) id⟩
     have hfresh':∀t1 b o,t1∈st1.tk->m1.tk t1=some (b,o)->cx0.I b o\/w.heap.size<=b:=λt1 b o h1 h2=>by obtain⟨_,q2⟩:=hrel2.own b o (.inr ⟨t1,o,h1,h2,Zn1 _⟩);rw[e4] at q2;exact q2
     have up:∀b o i,Dv m (fs st) b o->o<=i->Dv m (fs st) b i:=by
      rintro b o i (⟨q,hq,rfl⟩|⟨t,o',h1,h2,h3⟩) hoi
      ·exact .inl ⟨q,hq,rfl⟩
      ·exact .inr ⟨t,o',h1,h2,Nat.le_trans h3 hoi⟩
     have nx:Nx (vx cx m (fs st) w) (vx cx m' (fs st') w'):=by
      refine⟨hch.mono λb i hi =>.inr hi,?_,rfl,λ_ _=>rfl,Zn1 _,Nat.le_add_right _ _,λt ht ha =>?_⟩
      ·rintro b i (hm|hf)
       ·exact .inl (.inl hm)
       ·rcases hfp' b i hf with h|⟨t1,o,h1,h2,h3⟩
        ·exact .inl (.inr h)
        ·rcases(hfresh t1 b o h1 h2).2 with h|h
         ·exact .inl (.inr (up b o i h h3))
         ·exact .inr h
      ·have ht:t<st.nt:=ht;rcases htok t ha with ⟨q1,q2,_,q4⟩|⟨q1,_,_⟩
       ·exact⟨q1,q4,λg o hg=>hheap g (hr.own_t q1 hg) (apart_t t g o q1 q2 hg)⟩
       ·omega
     have hS:∀b i,(vx cx m' (fs st') w').S b i->(vx cx0 m1 (fs st1) w').S b i:=by
      rintro b i (hm|hf)
      ·exact .inl ((hM b i).2 ⟨.inl hm,λj hj=>hr.disj hm (hfp0 b j hj)⟩)
      ·rcases hf with ⟨q,hq,rfl⟩|⟨t,o,h1,h2,h3⟩
       ·cases hl:look σ q with
        |none=>exact .inl ((hM _ i).2 ⟨.inr (.inl ⟨q,hbl'n q hq,rfl⟩),apart_b q (hbl'n q hq) hl⟩)
        |some k =>
         cases hK:blk (Adh σ nw st.bl) q with
         |none=>exact absurd hK hq
         |some K =>
          rcases hbl' q K hK with ⟨h1,_⟩|⟨k',h1,_,h3⟩
          ·rw[hl] at h1;cases h1
          ·rw[hl] at h1;simp[Za1] at h1;subst h1;obtain⟨q1,q2⟩:=hnwk q k K hl h3;refine .inr (.inl ⟨k,?_,q2⟩);simp only[List.contains_iff_mem,List.mem_map] at q1;obtain⟨p,hp,rfl⟩:=q1;exact Ej hB p hp
       ·rcases htok t h1 with ⟨q1,q2,_,q4⟩|⟨q1,_,_⟩
        ·rw[q4] at h2;exact .inl ((hM b i).2 ⟨.inr (.inr ⟨t,o,q1,h2,h3⟩),apart_t t b o q1 q2 h2⟩)
        ·obtain⟨t1,_,p2,p3⟩:=hnewt t b o q1 h2;exact .inr (.inr ⟨t1,o,p2,p3,h3⟩)
     have hreps:Reps (vx cx m' (fs st') w') E (VA++(VB++VO)):=F3 (X:=vx cx0 m1 (fs st1) w') (X':=vx cx m' (fs st') w') hS rfl e2.symm st.nt hdec (λt ht=>hals t ht) (hVA.append (hVB.append hVO)) (λp hp=>by obtain⟨q1,q2⟩:=F8 _ _ _ hp;exact⟨q2,by simp[vx,m',Nat.not_lt.2 q1]⟩)
     have hfxs:∀d,d∈fxs so.bl->∀b,b∈C8 d->(vx cx m' (fs st') w').m.bl b=(vx cx0 m1 (fs st1) w').m.bl b/\b<(vx cx m' (fs st') w').nb:=λd hd b hb=>by obtain⟨q1,q2⟩:=Ws hσf d hd b hb;refine⟨?_,q2⟩;show m.bl b=m1.bl b;rw[hm1 b (Zg2.1 k12 b (Bnj hd hb)),hbl0 b b q1]
     have hVAl:VA.length=so.vars.length:=by have h1:=hVA.len;have:=Alr hA;omega
     obtain⟨r1,r2⟩:=hreps.take;rw[hVAl] at r1 r2;have hVBl:VB.length=((so.bl.map (·.2.sgs)).flatten).length:=by have q1:=r2.len;have q2:=hshE.len;have q3:=hVO.len;have q4:=Py hO;simp only[Zh1] at q1 q2;omega
     obtain⟨r3,r4⟩:=r2.take;rw[hVBl] at r3 r4;have husl:us.length=so.n:=by have:=hrel2.env.size;simp[List.size_toArray] at this;simp only[Zb1] at hcc;have h2:st1.n=so.n:=Zl1 hcc.1.1.1.1.2;have h3:(fs st1).n=st1.n:=rfl;omega
     have hVAus:so.n=so.vars.length->VA=us:=by
      intro hn;apply List.ext_getElem?;intro i;by_cases hi:i<so.vars.length
      ·obtain⟨⟨k,s⟩,hks⟩:∃p,so.vars[i]? = some p:=⟨_,Zo1 hi⟩;obtain⟨v,h3,h4⟩:=hVA2 i k s hks;rw[Bp1 k10 hks] at h4;rw[h3];simpa using h4.symm
      ·rw[List.getElem?_eq_none (by omega),List.getElem?_eq_none (by omega)]
     refine⟨_,rfl,_,_,m',hc,⟨rfl,rfl,rfl,rfl,rfl⟩,hr.step (s':=fs st') rfl rfl rfl rfl rfl hch nx ?_ ?_ ?_ ?_ ?_ ?_,?_⟩
     ·intro b K' hK;rcases hbl' b K' hK with ⟨h1,h2⟩|⟨k,h1,h2,h3⟩
      ·obtain⟨q1,q2⟩:=hr.blks b K' h2;have hne:blk st.bl b≠none:=by rw[h2];simp
       exact⟨q1,q2.later nx (hheap _ (hr.own_b (b:=b) hne) (apart_b b hne h1))⟩
      ·obtain⟨q1,_,_⟩:=hVB2 (vx cx m' (fs st') w') _ ⟨rfl,e2.symm⟩ hfxs hshE.split.1 r3 k K' (by rw[Ey];exact h3);rw[(hnwk b k K' h1 h3).2] at q1;cases hq:blk st.bl b with|none=>exact absurd hq h2|some K0=>exact⟨(hr.blks b K0 hq).1,q1⟩
     ·intro t ht;rcases htok t ht with ⟨_,_,q,_⟩|⟨_,q,_⟩
      ·show t<st.nt+so.sgs.length;omega
      ·exact q
     ·exactλb b' h1 h2 h3=>hr.inj b b' (hbl'n b h1) (hbl'n b' h2) h3
     ·intro t t' g o o' h1 h2 h3 h4;rcases htok t h1 with ⟨q1,q2,q3,q4⟩|⟨q1,_,_⟩<;>rcases htok t' h2 with ⟨p1,p2,p3,p4⟩|⟨p1,_,_⟩
      ·rw[q4] at h3;rw[p4] at h4;exact hr.injt t t' g o o' q1 p1 h3 h4
      ·rw[q4] at h3;obtain⟨t1,_,s2,s3⟩:=hnewt t' g o' p1 h4;rcases hfresh' t1 g o' s2 s3 with h|h
       ·exact absurd (hI g o' h) (apart_t t g o q1 q2 h3 o')
       ·have:=hr.own_t q1 h3;omega
      ·rw[p4] at h4;obtain⟨t1,_,s2,s3⟩:=hnewt t g o q1 h3;rcases hfresh' t1 g o s2 s3 with h|h
       ·exact absurd (hI g o h) (apart_t t' g o' p1 p2 h4 o)
       ·have:=hr.own_t p1 h4;omega
      ·obtain⟨t1,s1,s2,s3⟩:=hnewt t g o q1 h3;obtain⟨t2,u1,u2,u3⟩:=hnewt t' g o' p1 h4;have:=hrel2.injt t1 t2 g o o' s2 u2 s3 u3;subst this;exact as2 t t' t1 s1 u1
     ·intro b t g o h1 h2 h3;have hb:=hbl'n b h1;show m.bl b≠g;rcases htok t h2 with ⟨q1,_,_,q4⟩|⟨q1,_,_⟩
      ·rw[q4] at h3;exact hr.injbt b t g o hb q1 h3
      ·obtain⟨t1,_,s2,s3⟩:=hnewt t g o q1 h3;intro e;cases hl:look σ b with
       |none =>
        rcases hfresh' t1 g o s2 s3 with h|h
        ·rw[<-e] at h;exact apart_b b hb hl o (hI _ o h)
        ·have:=hr.own_b (b:=b) hb;omega
       |some k =>
        cases hK:blk (Adh σ nw st.bl) b with
        |none=>exact absurd hK h1
        |some K =>
         rcases hbl' b K hK with ⟨h5,_⟩|⟨k',h5,_,h6⟩
         ·rw[hl] at h5;cases h5
         ·rw[hl] at h5;simp[Za1] at h5;subst h5;obtain⟨_,u2⟩:=hnwk b k K hl h6;obtain⟨_,u4,_⟩:=hVB2 (vx cx m' (fs st') w') _ ⟨rfl,e2.symm⟩ hfxs hshE.split.1 r3 k K (by rw[Ey];exact h6);exact hrel2.injbt k t1 g o u4 s2 s3 (u2.trans e)
     ·intro b i hf;rcases hfp' b i hf with h|⟨t1,o,h1,h2,h3⟩
      ·exact⟨Zx1 (hr.own b i h).1 hch.size,.inl h⟩
      ·obtain⟨q1,q2⟩:=hfresh t1 b o h1 h2;exact⟨q1,q2.imp (λh=>up b o i h h3) id⟩
     ·cases hb:Nat.beq so.n so.vars.length with|true =>rw[<-hVAus (Zl1 hb)];exact G3 r1|false=>exact(show Rep _ .junk _ by simp[Rep])
    ·cases hdec
  ·cases hc
 ·cases hc
def Kf(sg so:Sig)(F:HV sg.sgs->Option (HV so.sgs))(args:List D)(st:St)(K:D->List Nat->St->Option R):Option R:=C1 sg so F args st λrs st'=>K (Gw rs) ((Cm sg args).map (·.1)) st'
def A42(st:St):St:=⟨0,[],0,0,[],st.bl,st.nb,st.tk,st.nt,[]⟩
theorem Aet(sg so:Sig)(F:HV sg.sgs->Option (HV so.sgs))(args:List D)(st:St)(K:List D->St->Option R):C1 sg so F args st K=(C1 sg so F args (A42 st) λrs st'=>some (rs,st')).bind λx=>K x.1 { st with bl:=x.2.bl,tk:=x.2.tk,nt:=x.2.nt }:=by
 unfold C1;have e:∀ σ,Ky sg σ args (A42 st)=Ky sg σ args st:=λ_=>rfl;rw[e];show(match(Aq7 (Cm sg args)&&(Cm sg args).all (λp=>Nat.blt p.2 sg.nb)&&so.bl.all (λp=>Bba (Cm sg args) st.nb p.2)),Ky sg (Cm sg args) args st with|true,some st0=>_|_,_=>_)=(match(Aq7 (Cm sg args)&&(Cm sg args).all (λp=>Nat.blt p.2 sg.nb)&&so.bl.all (λp=>Bba (Cm sg args) st.nb p.2)),Ky sg (Cm sg args) args st with|true,some st0=>_|_,_=>_:Option (List D×St)).bind _;cases (Aq7 (Cm sg args)&&(Cm sg args).all (λp=>Nat.blt p.2 sg.nb)&&so.bl.all (λp=>Bba (Cm sg args) st.nb p.2)) with
 |false=>rfl
 |true =>
  cases Ky sg (Cm sg args) args st with
  |none=>rfl
  |some st0 =>
   simp only;cases Im sg st0 with
   |none=>rfl
   |some x =>simp only;cases F x with|none=>rfl|some r=>rfl
theorem Bvl{s:FS}{st:St}(hW:Dc s (fs st)){m:Mp}{a:Act}{as_:List Act}{w:World}(hr:Rel cx m a as_ s w):∃st2:St,fs st2=s/\A42 st2=A42 st:=by
 have key:∀(n lo k:Nat),get ((List.range' lo n).filterMap λk=>(s.env k).map λd=>(k,d)) k=if lo<=k/\k<lo+n then s.env k else none:=by
  intro n;induction n with
  |zero=>intro lo k;simp only[List.range'_zero,List.filterMap_nil,get];rw[if_neg (by omega)]
  |succ n ih =>
   intro lo k;rw[List.range'_succ,List.filterMap_cons];cases hd:s.env lo with
   |none =>
    simp[Option.map_none];rw[ih];by_cases hk:k=lo
    ·subst hk;rw[if_neg (by omega),if_pos (by omega),hd]
    ·by_cases h:lo<=k/\k<lo+(n+1)
     ·rw[if_pos h,if_pos (by omega)]
     ·rw[if_neg h,if_neg (by omega)]
   |some d =>
    simp[Zl2,Bd];rw[ih];by_cases hk:k=lo
    ·subst hk;rw[if_pos rfl,if_pos (by omega),hd]
    ·rw[if_neg hk];by_cases h:lo<=k/\k<lo+(n+1)
     ·rw[if_pos h,if_pos (by omega)]
     ·rw[if_neg h,if_neg (by omega)]
 refine⟨⟨s.n,(List.range' 0 s.n).filterMap λk=>(s.env k).map λd=>(k,d),s.lb,s.lt,s.fr,st.bl,st.nb,st.tk,st.nt,s.df⟩,?_,rfl⟩;obtain⟨h1,h2,h3,h4⟩:=hW;refine FS.eq rfl ?_ rfl rfl rfl h1.symm h2.symm h3.symm h4.symm;funext k;show get _ k=s.env k;rw[key];by_cases hk : 0<=k/\k<0+s.n
 ·rw[if_pos hk]
 ·rw[if_neg hk];cases hd:s.env k with|none=>rfl|some d =>obtain⟨v,hv,_⟩:=hr.env.get k d hd;have h5:=(Zh2.1 hv).1;rw[hr.env.size] at h5;omega
theorem Bso{g:Nat}{sg so:Sig}{F:HV sg.sgs->Option (HV so.sgs)}(h:FnLn cx.P cx.el cx.gl g sg so F)(hok:lnB sg so=true):Fb (R:=R) cx g (Kf sg so F):=by
 intro args st K r hc;have hc0:=hc;unfold Kf at hc;rw[Aet] at hc;cases hx:C1 sg so F args (A42 st) λrs st'=>some (rs,st') with
 |none=>rw[hx] at hc;cases hc
 |some x =>
  obtain⟨rs,sx⟩:=x;rw[hx] at hc;simp at hc;have hkeep:∀b,b∉(Cm sg args).map (·.1)->blk sx.bl b=blk st.bl b:=by
   unfold C1 at hx;split at hx
   ·split at hx
    ·rename_i x0 hx0;cases hF:F x0 with
     |none=>rw[hF] at hx;cases hx
     |some r0 =>rw[hF,Zc1] at hx;simp at hx;obtain⟨_,rfl⟩:=hx;intro b hb;show blk (Adh _ _ st.bl) b=_;rw[Akz];cases hl:look (Cm sg args) b with|none=>rfl|some k=>exact absurd (List.mem_map.2 ⟨(b,k),Qk hl,rfl⟩) hb
    ·cases hx
   ·cases hx
  refine⟨_,_,_,hc,⟨rfl,rfl,rfl,rfl,rfl⟩,Zn1 _,λb hb=>⟨λk hk=>(hkeep b hb).trans hk,λk hk _=>(hkeep b hb).symm.trans hk⟩,h.enters,λs m a as_ w vs hW hr hargs =>?_⟩;obtain⟨st2,e1,e2⟩:=Bvl hW hr;have h2:C1 sg so F args st2 (λrs st'=>some (rs,st'))=some (rs,{ st2 with bl:=sx.bl,tk:=sx.tk,nt:=sx.nt }):=by rw[Aet,e2,hx];rfl
  have h3:=(Ard h hok h2).2 m a as_ w vs (by rw[e1];exact hr) (by rw[e1];exact hargs);refine h3.mono ?_;rintro en w' ⟨v,k1,rs',st',m',k2,_,k4,k5⟩;simp at k2;obtain⟨rfl,rfl⟩:=k2;have e3:fs { st2 with bl:=sx.bl,tk:=sx.tk,nt:=sx.nt }=Ef (fs { st with bl:=sx.bl,tk:=sx.tk,nt:=sx.nt }) s:=by
   have hnb:(A42 st2).nb=(A42 st).nb:=by rw[e2]
   refine FS.eq ?_ ?_ ?_ ?_ ?_ rfl hnb rfl rfl (by rw[<-e1];rfl)
   ·rw[<-e1];rfl
   ·rw[<-e1];rfl
   ·rw[<-e1];rfl
   ·rw[<-e1];rfl
   ·rw[<-e1];rfl
  rw[e3] at k4 k5;exact⟨v,k1,m',k4,k5⟩
end
abbrev FL(sg so:Sig):=HV sg.sgs->Option (HV so.sgs)
section
variable {R:Type}
def Bvy(gs:List Sg)(st:St)(rs:List D)(K:List D->St->Option R):Option R:=match gs with|[]=>K rs st|_::_=>Afn gs st rs K
theorem Bqj{cx:Cx}{a:Act}{as_:List Act}{w:World}{r:R}{sr:List Sg}{m:Mp}{ds:List D}{st:St}{vs:List Value}{K:List D->St->Option R}(hr:Rel cx m a as_ (fs st) w)(hd:Reps (vx cx m (fs st) w) ds vs)(h:Bvy sr st ds K=some r):∃ds' st' m',K ds' st' = some r/\Rel cx m' a as_ (fs st') w/\Nx (vx cx m (fs st) w) (vx cx m' (fs st') w)/\Reps (vx cx m' (fs st') w) ds' vs:=by cases sr with|nil=>exact⟨ds,st,m,h,hr,⟨Chg.refl _ _,λ_ _ h =>.inl h,rfl,λ_ _=>rfl,Zn1 _,Zn1 _,λt _ ha=>⟨ha,rfl,λ_ _ _=>rfl⟩⟩,hd⟩|cons s l=>exact Ye hr hd h
def Hg(px:Px R)(fn:Func)(sg so:Sig)(x:HV sg.sgs)(fin:HV so.sgs->Option R):Option R:=match fn.body with
 |some c=>Gx px c { Fw sg [Hh sg] x with n:=fn.ntmps } λe st=>match e with
  |.exit _=>none
  |_=>match st.df,results px st fn.results.toList with
   |[],some rs=>Bvy (so.vars.map (·.2)) st rs λrs' st'=>match Im so { st' with n:=rs'.length,env:=Dm 0 rs' } with|some r=>fin r|none=>none
   |_,_=>none
 |none=>none
theorem Bj1{s:Sig}{st:St}{x:HV s.sgs}(h:Im s st=some x):st.df=[]:=by
 unfold Im at h;split at h
 ·rename_i hc;simp only[Zb1] at hc;exact List.isEmpty_iff.1 hc.1.2
 ·cases h
theorem Boe(sg:Sig)(fr:List Fr)(x:HV sg.sgs):(Fw sg fr x).n=sg.n:=by unfold Fw;rfl
theorem Aym(sg:Sig)(fr:List Fr)(x:HV sg.sgs):(Fw sg fr x).fr=fr:=by unfold Fw;rfl
theorem Bgf{cx:Cx}{m m':Mp}{s s':FS}{w w':World}{sg:Sig}{af:Act}{lb lt lb' lt':Nat}(h:Afu (vx cx m s w) lb lt [Hh sg] [af])(h':Afu (vx cx m' s' w') lb' lt' [Hh sg] [af]){k:Nat}(hk:(sg.bl.map (·.1)).contains k=true):m'.bl k=m.bl k/\k<lb':=by obtain⟨a,r,e,_,_,h1,_⟩:=h;obtain⟨rfl,_⟩:=e;obtain⟨a',r',e',_,_,h2,_⟩:=h';obtain⟨rfl,_⟩:=e';obtain⟨v,hv,hr⟩:=h1.get k _ (Zq hk);obtain⟨v',hv',hr'⟩:=h2.get k _ (Zq hk);rw[hv] at hv';simp at hv';subst hv';obtain⟨_,rfl⟩:=hr;obtain⟨h3,h4⟩:=hr';simp only[Value.pointer.injEq,Za1,Addr.mk.injEq] at h4;exact⟨h4.1.symm,h3⟩
theorem Aad{P:Program}{el:Ck->TypeId}{gl:Nat->Option Gv}{f:FuncId}{fn:Func}{c:Code}{sg so:Sig}{px:Px (HV so.sgs)}{F:FL sg so}(hf:P.funcs[f]? = some fn)(hb:fn.body=some c)(hname:(fn.name == "runtime.NumGoroutine")=false)(hm:P.follows .mixedOrders=true)(hchk:(Bm fn.ntmps c&&Nat.ble sg.n fn.ntmps)=true)
  (hpx:∀cx:Cx,cx.P=P->cx.el=el->cx.gl=gl->PxOk cx px/\Ci cx px/\CallQOk cx px/\∀b,b∈A4 c->Bg cx px b) (hF:∀x,Hg px fn sg so x some=F x):FnLn P el gl f sg so F:=by
 refine⟨Sx.enters_of hf (by rw[hb];rfl) hname,λx r hx _ cx m vs af w e1 e2 e3 hr =>?_⟩;subst e1 e2 e3;simp only[Zb1] at hchk;have hle:sg.n<=fn.ntmps:=Nat.le_of_ble_eq_true hchk.2;have hlen:vs.length=sg.n:=by have:=hr.env.size;have e:(fs (Fw sg [Hh sg] x)).n=sg.n:=Boe sg [Hh sg] x;rw[e] at this;simpa using this
 have hrel:Rel cx m { tmps:=vs.toArray++Array.replicate (fn.ntmps-vs.toArray.size) undef,defers:=[] } [af] (fs { Fw sg [Hh sg] x with n:=fn.ntmps }) w:=by
  refine⟨hr.chg,⟨rfl,?_,λk d hk =>?_⟩,hr.frs,hr.lb,hr.lt,hr.blks,hr.als,hr.inj,hr.injt,hr.injbt,hr.own,hr.away,hr.glb⟩
  ·show _=fn.ntmps;simp;omega
  ·obtain⟨v,h2,h3⟩:=hr.env.get k d hk;refine⟨v,?_,h3⟩;have hlt:k<vs.length:=by simpa using (Zh2.1 h2).1
   simp only[Array.getElem?_append,List.size_toArray,hlt];exact h2
 rw[<-hF] at hx;unfold Hg at hx;rw[hb] at hx;simp only at hx;obtain⟨h1,h2,h3,h4⟩:=hpx cx rfl rfl rfl;refine calls_of_wp hf hb (D1 h1 h2 h3 hm c _ _ r hchk.1 h4 hx _ m _ [af] w hrel ?_);intro e st' m' a' w' hk hsame hrel';have hfr:(fs st').fr=[Hh sg]:=hsame.2.trans (Aym sg [Hh sg] x);have hfr0:(fs (Fw sg [Hh sg] x)).fr=[Hh sg]:=Aym sg [Hh sg] x;cases e
 case exit=>cases hk
 all_goals
  simp only at hk;split at hk
  ·rename_i rs0 hdf hrs;obtain⟨us,hrun,hreps0⟩:=Du h1 hrel' hrs;obtain⟨rs,st2,m2,hk,hrel1,nx,hreps⟩:=Bqj hrel' hreps0 hk;split at hk
   ·rename_i r' hr';simp at hk;subst hk;refine⟨hrel'.noDf hdf,Sx.resv us,?_,us,_,m2,rfl,λk hk =>?_,hr',?_⟩
    ·obtain⟨rl⟩:∃rl,fn.results=List.toArray rl:=⟨fn.results.toList,by simp⟩;rename_i hrl;rw[Sx.results_eq,hrl];rw[hrl] at hrun;simp only[List.mapM_toArray,Sem.run_bind,map_eq_pure_bind,hrun];congr 1;match us with|[]=>rfl|[v]=>rfl|_::_::_=>simp[Sx.resv]
    ·have q1:=hr.frs;have q2:=hrel'.frs;rw[hfr0] at q1;rw[hfr] at q2;obtain⟨q3,q4⟩:=Bgf q1 q2 hk;exact(nx.bl k (Zx1 q4 hrel'.lb)).trans q3
    ·have hn:us.length=rs.length:=hreps.len;refine⟨hrel1.chg,⟨(by have h9:=Bj1 hr';simp only at h9;show Att _ st2.df _;rw[h9];rfl),(by simpa using hn:us.toArray.size=rs.length),λk d hk =>?_⟩,hrel1.frs,hrel1.lb,hrel1.lt,hrel1.blks,hrel1.als,hrel1.inj,hrel1.injt,hrel1.injbt,hrel1.own,hrel1.away,hrel1.glb⟩;obtain⟨v,_,p2,p3⟩:=Ht 0 k d hreps hk;exact⟨v,by simpa using p2,p3⟩
   ·cases hk
  ·cases hk
theorem Bmo{P:Program}{el:Ck->TypeId}{gl:Nat->Option Gv}{f:FuncId}{fn:Func}{c:Code}{sg so:Sig}{px:Px (HV so.sgs)}{F:FL sg so}{n:Nat}(hf:P.funcs[f]? = some fn)(hb:fn.body=some c)(hname:(fn.name == "runtime.NumGoroutine")=false)(hm:P.follows .mixedOrders=true)(hchk:(Qo fn&&Nat.ble sg.n fn.ntmps)=true)(hn:Kz fn=n)
  (hpx:∀cx:Cx,cx.P=P->cx.el=el->cx.gl=gl->PxOk cx px/\Ci cx px/\CallQOk cx px/\∀i,i<n->Bg cx px (lp fn i)) (hF:∀x,Hg px fn sg so x some=F x):FnLn P el gl f sg so F:=by
 refine Aad hf hb hname hm ?_ (λcx h1 h2 h3 =>?_) hF
 ·unfold Qo at hchk;rw[hb] at hchk;exact hchk
 ·obtain⟨q1,q2,q3,q4⟩:=hpx cx h1 h2 h3;exact⟨q1,q2,q3,Agz hb hn q4⟩
end
section
variable {P:Program}{el:Ck->TypeId}{gl:Nat->Option Gv}{f:FuncId}{sg so:Sig}
theorem FnLn.fin{ι:Type}{F : ι->FL sg so}{G:FL sg so}(i0 : ι)(h:∀i,FnLn P el gl f sg so (F i))(hG:∀x r,BdL sg.sgs x->G x=some r->∃i,F i x=some r):FnLn P el gl f sg so G :=⟨(h i0).enters,λx r hx hb cx m vs af w h1 h2 h3 h4=>by obtain⟨i,hi⟩:=hG x r hb hx;exact(h i).run x r hi hb cx m vs af w h1 h2 h3 h4⟩
theorem FnLn.fin0{F G:FL sg so}(h:FnLn P el gl f sg so F)(hG:∀x r,BdL sg.sgs x->G x=some r->F x=some r):FnLn P el gl f sg so G :=.fin () (λ_=>h) λx r hb hx=>⟨(),hG x r hb hx⟩
theorem FnLn.none(he:Sx.Enters P f):FnLn P el gl f sg so (λ_ =>.none):=⟨he,λ_ _ h=>by cases h⟩
theorem FnLn.rec'{body:FL sg so->FL sg so}(he:Sx.Enters P f)(h:∀rf,FnLn P el gl f sg so rf->FnLn P el gl f sg so (body rf)):∀n,FnLn P el gl f sg so (Aj body n)
 |0=>FnLn.none he
 |n+1=>h _ (FnLn.rec' he h n)
end
def Sp{R:Type}(nb nt:Nat)(pc:Px R)(fn:Func)(G:Ev R)(args:List D)(st:St)(K:List D->St->Option R):Option R:=match Nat.ble args.length fn.ntmps&&Nat.ble st.nb nb&&Nat.ble st.nt nt with
 |true=>Asi pc fn args { st with nb:=nb,nt:=nt } K
 |false=>G args st K
theorem Azl{R:Type}{cx:Cx}{g nb nt:Nat}{pc:Px R}{fn:Func}{G:Ev R}(h1:Gt cx g (A1 nb nt pc fn))(h2:Gt cx g G):Gt cx g (Sp nb nt pc fn G):=by
 intro args st K r hc;unfold Sp at hc;split at hc
 ·rename_i hn;exact h1 args st K r (by unfold A1;rw[hn];exact hc)
 ·exact h2 args st K r hc
theorem Bvs{R:Type}{cx:Cx}{g:Nat}{sg so:Sig}{F:FL sg so}(h:FnLn cx.P cx.el cx.gl g sg so F)(hok:lnB sg so=true):Gt (R:=R) cx g (C1 sg so F):=λ_ _ _ _ hc=>Ard h hok hc
end Go.Ax
