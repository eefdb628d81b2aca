/- Texts of the proof,one behind the other: AxJ,AxK,AxL,SxK,AxM,AxN,AxO,AxP,AxPf,AxQ. -/
import Derived.Test.YtblaahgjaopdnaaGreatDoorYY1
import Derived.Laws.MakeOwn
import Derived.Lib.AppendStr
import Derived.Laws.CopyRow
import Derived.Laws.IdiomCopy
set_option linter.all false
namespace Go.Ax
open Go.RowKit
section
variable {R:Type}{px:Px R}{cx:Cx}
def Aw4:Op->Bool
 |.load _ _=>true
 |_=>false
def rdO(o:Oper)(env:Nat->Option D)(b:Nat):Prop:=∃k d,A2h o=some k/\env k=some d/\Ap4 d=some b
theorem Bnv{t:Ty}{v:Value}{d:D}(h:cst t v=some d):Ap4 d=none:=by
 unfold cst at h;split at h
 ·split at h
  ·simp at h;subst h;rfl
  ·cases h
 ·simp at h;subst h;rfl
 ·split at h
  ·simp at h;subst h;rfl
  ·cases h
 ·split at h
  ·simp at h;subst h;rfl
  ·cases h
 ·simp at h;subst h;rfl
 ·simp at h;subst h;rfl
 ·split at h
  ·split at h
   ·simp at h;subst h;rfl
   ·cases h
  ·cases h
 ·simp at h;subst h;rfl
theorem Bje{o:Oper}{T:TypeId}{x:Operand}{env:Nat->Option D}{t b:Nat}{d:D}(ho:o.op = .load T x)(he:evF px env t x=some d)(hb:Ap4 d=some b):rdO o env b:=by cases x with|tmp k=>exact⟨k,d,by simp[A2h,ho],he,hb⟩|const v=>rw[Bnv he] at hb;cases hb|global g=>simp[evF] at he;subst he;cases hb|func f=>simp[evF] at he;subst he;cases hb
def Agr(o:Oper)(env:Nat->Option D)(bl:Nat->Option Blk)(s:FS):Prop:=∀b k,rdO o env b->bl b=some k->b<s.nb->s.bl b=some k
theorem Bcc{bl:Nat->Option Blk}{s:FS}{m:Mp}{w:World}{t:Ty}{p d:D}{v:Value}(ha:∀b k,Ap4 p=some b->bl b=some k->b<s.nb->s.bl b=some k)(h:Aec px bl t p=some d)(hv:Rep (vx cx m s w) p v):Aec px s.bl t p=some d:=by
 cases p with
 |ptr b off =>simp[Aec] at h ⊢;cases hb:bl b with|none=>rw[hb] at h;cases h|some k=>rw[ha b k rfl hb hv.1,<-hb];exact h
 |rp b c n i =>simp[Aec] at h ⊢;cases hb:bl b with|none=>rw[hb] at h;cases h|some k=>rw[ha b k rfl hb hv.1,<-hb];exact h
 |_=>exact h
def A44(cx:Cx)(px:Px R)(o:Oper)(env:Nat->Option D)(bl:Nat->Option Blk)(d:D):Prop :=∀(s:FS) (m:Mp) (a:Act) (as_:List Act) (w:World),(∀t x,x∈o.op.operands->evF px s.env t x=evF px env t x)->(Aw4 o.op=true->Agr o env bl s)->Rel cx m a as_ s w->∃v,(execOp a.eval o).run cx.P w = .ok (.value v) w/\Rep (vx cx m s w) d v
theorem Ew{t:Ty}{c:Ck}(h:t.isSl c=true):t = .sl c:=by
 cases t<;>simp[Ty.isSl] at h
 rw[h]
theorem Fv{t:Ty}(h:t.isStr=true):t = .str:=by cases t<;>simp[Ty.isStr] at h;rfl
theorem Bh{o:Oper}{env:Nat->Option D}{bl:Nat->Option Blk}{d:D}(h:∀(s:FS) (m:Mp) (a:Act) (as_:List Act) (w:World),(∀t x,x∈o.op.operands->evF px s.env t x=evF px env t x)->(Aw4 o.op=true->Agr o env bl s)->Rel cx m a as_ s w->∃v,Sx.Pure cx.P (Asx a) o.op v/\Rep (vx cx m s w) d v):A44 cx px o env bl d:=by intro s m a as_ w h1 h2 hr;obtain⟨v,hp,hv⟩:=h s m a as_ w h1 h2 hr;exact⟨v,hp _ ⟨a.tmps,[]⟩ w o (Auk (a:=⟨a.tmps,[]⟩) rfl) rfl,hv⟩
theorem A1{b:Bool}{x:Option R}{r:R}(h:chk b x=some r):b=true/\x=some r:=by
 cases b
 ·simp[chk] at h
 ·exact⟨rfl,by simpa[chk] using h⟩
theorem Azl{env:Nat->Option D}{x:Vx}{n:Nat}{df:List D}{a:Act}(he:EnvR x n df env a){st:St}{t:Nat}:∀{ps:List (Nat×Operand)}{l:List (Nat×D)},Be8 px st t ps=some l->(∀u o,o∈ps.map (·.2)->evF px env u o=ev px st u o) ->
  ∃vs:List (Nat×Value),ps.map (λp=>(p.1,a.eval p.2))=vs/\vs.length=l.length/\∀(j:Nat) f d,l[j]? = some (f,d)->∃v,vs[j]? = some (f,v)/\Rep x d v
 |[],l,h,_=>by simp[Be8] at h;subst h;exact⟨[],rfl,rfl,by simp⟩
 |(i,o)::ps,l,h,hx=>by
  simp[Be8] at h;split at h
  ·cases h
  ·rename_i d hd;split at h
   ·cases h
   ·rename_i l' hl;simp at h;subst h;obtain⟨vs,h1,h2,h3⟩:=Azl he hl (λu o' ho=>hx u o' (by simp[ho]));rw[<-hx _ o (by simp)] at hd;obtain⟨v,_,hv,hr⟩:=he.ev hd
    grind
theorem Ju{env:Nat->Option D}{x:Vx}{n:Nat}{df:List D}{a:Act}(he:EnvR x n df env a){st:St}:∀{xs:List Operand}{ts:List Nat}{ds:List D},evs px st ts xs=some ds->(∀u o,o∈xs->evF px env u o=ev px st u o)->∃vs,Sx.Env.evs (Asx a) xs=some vs/\xs.map a.eval=vs/\Reps x ds vs
 |[],ts,ds,h,_=>by simp[evs] at h;subst h;exact⟨[],rfl,rfl,by simp[Reps]⟩
 |o::xs,ts,ds,h,hx=>by
  simp[evs] at h;split at h
  ·cases h
  ·rename_i d hd;split at h
   ·cases h
   ·rename_i ds' hds;simp at h;subst h;obtain⟨vs,h1,h2,h3⟩:=Ju he hds (λu o' ho=>hx u o' (by simp[ho]));rw[<-hx _ o (by simp)] at hd;obtain⟨v,h4,h5,h6⟩:=he.ev hd;refine⟨v::vs,by simp[Sx.Env.evs,h4,h1],by simp[h5,h2],?_⟩;exact⟨v,vs,rfl,h6,h3⟩
theorem Acb{env:Nat->Option D}{x:Vx}{n:Nat}{df:List D}{a:Act}(he:EnvR x n df env a){st:St}:∀{ps:List (Nat×Operand)}{i:Nat}{ds:List D},Aqe px st i ps=some ds->(∀u o,o∈ps.map (·.2)->evF px env u o=ev px st u o)->∃vs,ps.map (·.1)=List.range' i ds.length/\Sx.Env.evs (Asx a) (ps.map (·.2))=some vs/\(ps.map (·.2)).map a.eval=vs/\Reps x ds vs
 |[],i,ds,h,_=>by simp[Aqe] at h;subst h;exact⟨[],rfl,rfl,rfl,by simp[Reps]⟩
 |(k,o)::ps,i,ds,h,hx=>by
  simp[Aqe] at h;split at h
  ·rename_i hk;have hk:=Zl1 hk;subst hk;split at h
   ·cases h
   ·rename_i d hd;split at h
    ·cases h
    ·rename_i ds' hds;simp at h;subst h;obtain⟨vs,h0,h1,h2,h3⟩:=Acb he hds (λu o' ho=>hx u o' (by simp[ho]));rw[<-hx _ o (by simp)] at hd;obtain⟨v,h4,h5,h6⟩:=he.ev hd;refine⟨v::vs,by simp[h0,List.range'_succ],by simp[Sx.Env.evs,h4,h1],by simp[h5,h2],?_⟩;simp only[Reps];exact⟨v,vs,rfl,h6,h3⟩
  ·cases h
theorem Aoj{x:Vx}{s:Nat}{places:Array (Nat×Nat)}(hpl:∀f o u,Atp px s f=some (o,u)->u.known=true->places[f]? = some (o,u.n)):∀{l:List (Nat×D)}{z ds:List D}{zv:List Value}{vs:List (Nat×Value)},Arc px s z l=some ds->Dn x z zv->z.all lf=true->vs.length=l.length->(∀(j:Nat) f d,l[j]? = some (f,d)->∃v,vs[j]? = some (f,v)/\Rep x d v) ->
  ∃cs,Instr.fill (places[·]?) zv.toArray vs=some cs/\Dn x ds cs.toList/\ds.all lf=true
 |[],z,ds,zv,vs,h,hz,hl,hlen,_=>by simp[Arc] at h;subst h;have:vs=[]:=List.eq_nil_of_length_eq_zero (by simpa using hlen);subst this;exact⟨zv.toArray,rfl,by simpa using hz,hl⟩
 |(f,d)::l,z,ds,zv,vs,h,hz,hl,hlen,hv=>by
  simp[Arc] at h;split at h
  ·rename_i o u hf;split at h
   ·rename_i hc;simp only[Zb1] at hc;obtain⟨⟨⟨hc1,hc2⟩,hc3⟩,hc4⟩:=hc;have hc2:o+(cells d).length<=z.length:=by simpa using hc2
    cases vs with
    |nil=>simp at hlen
    |cons p vs =>
     obtain⟨v,hv0,hrep⟩:=hv 0 f d (by simp);simp[ Za1] at hv0;subst hv0;have hcr:=Mh hrep hc3;have hpl0:=hpl f o u hf hc4;obtain⟨cs,h1,h2,h3⟩:=Aoj hpl (vs:=vs) (zv:=Sx.writeAt zv o v.cells.toList) h (N1 _ _ _ _ _ hz hcr hc2) (Amd _ _ _ hl hc3) (by simpa using hlen) (λj f' d' hj=>by have:=hv (j+1) f' d' (by simpa using hj);simpa using this);refine⟨cs,?_,h2,h3⟩;have hsz:v.cells.size=u.n:=by rw[<-(Zl1 hc1),<-hcr.1];simp
     have hle:¬(o+v.cells.size > zv.toArray.size):=by
      have h5:v.cells.size=(cells d).length:=by rw[<-hcr.1];simp
      simp[ hz.1];omega
     simp only[Instr.fill,hpl0,hsz,decide_false];rw[hsz] at hle;simp only[ hle];have hfw:=Aeu v.cells.toList zv o 0;rw[Nat.add_zero] at hfw;rw[<-h1,<-hfw];congr 1;rw[<-Array.foldl_toList];simp
   ·cases h
  ·cases h
end
section
variable {R:Type}{px:Px R}{cx:Cx}
theorem Lu(hp:PxOk cx px){s f o:Nat}{u:Ty}(h:Atp px s f=some (o,u)):∃c l z fds fd,px.tt s = .st c l z/\cx.P.underlying s=some (.struct fds)/\fds[f]? = some fd/\px.tt fd.type=u/\fd.offset=o/\Sx.fldOff cx.P s f=some o:=by
 unfold Atp at h;split at h
 ·rename_i c l z hty;split at h
  ·rename_i o' u' hl;simp at h;obtain⟨rfl,rfl⟩:=h;obtain⟨fds,hu,hfl,_⟩:=Auq (hp.tt s) hty;obtain⟨fd,h1,h2,h3,h4⟩:=Ac5 hfl hl;rw[Nat.zero_add] at h4;exact⟨c,l,z,fds,fd,hty,hu,by simpa using h1,by rw[h2],h3,h4⟩
  ·cases h
 ·cases h
theorem Bsn(l:Str)(i:Int):Fe .u8 (bat l i)=true:=Bqb (by have:=(l.getD i.toNat 0).toNat_lt;simp only[bat];omega)
theorem Hb{i j:Int}{n:Nat}(h:upto i j n=true) : 0<=i/\i<=j/\j<=(n:Int):=by simpa[upto,and_assoc] using h
theorem Mg{i:Int}{n:Nat}(h:inb i n=true) : 0<=i/\i<(n:Int):=by simpa[inb] using h
theorem Kf{env:Nat->Option D}{x:Vx}{n:Nat}{df:List D}{a:Act}(he:EnvR x n df env a){st:St}{o:Option Operand}{d:Option D}(h:evo px st o=some d)(hx:∀u y,o=some y->evF px env u y=ev px st u y):(o=none/\d=none)\/∃y e v,o=some y/\d=some e/\Sx.Env.ev (Asx a) y=some v/\Rep x e v:=by
 cases o with
 |none=>simp[evo] at h;exact .inl ⟨rfl,h.symm⟩
 |some y =>
  simp[evo] at h;split at h
  ·rename_i e he';simp at h;rw[<-hx _ y rfl] at he';obtain⟨v,h1,_,h3⟩:=he.ev he';exact .inr ⟨y,e,v,rfl,h.symm,h1,h3⟩
  ·cases h
theorem A12{K:D->Option R}{r:R}{l:Str}{lo hi:Option D}(h:A3e l lo hi K=some r):∃d,K d=some r/\∀{P:Program}{e:Sx.Env}{t:Nat}{x:Operand}{olo ohi:Option Operand}{vx:Vx},Sx.tyS P t=true->Sx.Env.ev e x=some (Sx.S l)->l.length<=maxLen->((olo=none/\lo=none)\/∃y d v,olo=some y/\lo=some d/\Sx.Env.ev e y=some v/\Rep vx d v)->((ohi=none/\hi=none)\/∃y d v,ohi=some y/\hi=some d/\Sx.Env.ev e y=some v/\Rep vx d v)->∃v,Sx.Pure P e (.slice t x olo ohi none) v/\Rep vx d v:=by
 unfold A3e at h;split at h
 ·rename_i k i;obtain⟨hb,hk⟩:=A1 h;refine⟨_,hk,λ{P e t x olo ohi vx} ht hx hml h1 h2 =>?_⟩;rcases h1 with ⟨_,h1⟩|⟨y,d,v,rfl,h1,hy,hr⟩
  ·cases h1
  rcases h2 with ⟨rfl,_⟩|⟨y',d',v',_,h2,_⟩
  ·simp at h1;subst h1;obtain rfl:=Rep.int hr;have:=Hb hb;exact⟨_,Sx.p_cutlo ht hx hy ⟨this.1,this.2.1⟩,Jx (by simp;omega)⟩
  ·cases h2
 ·rename_i k j;obtain⟨hb,hk⟩:=A1 h;refine⟨_,hk,λ{P e t x olo ohi vx} ht hx hml h1 h2 =>?_⟩;rcases h2 with ⟨_,h2⟩|⟨y,d,v,rfl,h2,hy,hr⟩
  ·cases h2
  rcases h1 with ⟨rfl,_⟩|⟨y',d',v',_,h1,_⟩
  ·simp at h2;subst h2;obtain rfl:=Rep.int hr;have:=Hb hb;exact⟨_,Sx.p_cuthi ht hx hy ⟨this.2.1,this.2.2⟩,Jx (by simp;omega)⟩
  ·cases h1
 ·rename_i k i k' j;obtain⟨hb,hk⟩:=A1 h;refine⟨_,hk,λ{P e t x olo ohi vx} ht hx hml h1 h2 =>?_⟩;rcases h1 with ⟨_,h1⟩|⟨y,d,v,rfl,h1,hy,hr⟩
  ·cases h1
  rcases h2 with ⟨_,h2⟩|⟨y',d',v',rfl,h2,hy',hr'⟩
  ·cases h2
  simp at h1 h2;subst h1;subst h2;obtain rfl:=Rep.int hr;obtain rfl:=Rep.int hr';exact⟨_,Sx.p_cut ht hx hy hy' (Hb hb),Jx (by simp[cut];omega)⟩
 ·cases h
theorem Ady{P:Program}{e:Sx.Env}{t:Nat}{x:Operand}{olo ohi:Option Operand}{v u:Value}{vlo vhi:Option Value}(hx:Sx.Env.ev e x=some v)(h1:(olo=none/\vlo=none)\/∃y q,olo=some y/\vlo=some q/\Sx.Env.ev e y=some q)(h2:(ohi=none/\vhi=none)\/∃y q,ohi=some y/\vhi=some q/\Sx.Env.ev e y=some q)(hr:∀w,(Instr.sliceAt t v vlo vhi none).run P w = .ok u w):Sx.Pure P e (.slice t x olo ohi none) u:=λn a w o he ho=>by
 have e1:olo.map a.eval=vlo:=by
  rcases h1 with ⟨rfl,rfl⟩|⟨y,q,rfl,rfl,hy⟩
  ·rfl
  ·simp[he.ev hy]
 have e2:ohi.map a.eval=vhi:=by
  rcases h2 with ⟨rfl,rfl⟩|⟨y,q,rfl,rfl,hy⟩
  ·rfl
  ·simp[he.ev hy]
 simp[execOp,ho,he.ev hx,e1,e2,hr w]
theorem A3r{P:Program}{el:Ck->TypeId}{tt:Nat->Ty}{e:Sx.Env}{t:Nat}{x y z:Operand}{vx:Vx}{v:Value}{c:Ck}{l:List (El c)}{tk:Tk}{kj kk:IntKind}{j:Int}(ht:Ch P el tt t=true)(hty:tt t = .sl c)(hv:Rep vx (.sl c l tk) v)(hx:Sx.Env.ev e x=some v)(hy:Sx.Env.ev e y=some (.int kj j))(hz:Sx.Env.ev e z=some (.int kk j))(hb : 0<=j/\j<=l.length):∃u,Sx.Pure P e (.slice t x none (some y) (some z)) u/\Rep vx (.sl c (l.take j.toNat) .f) u:=by
 simp[Rep] at hv;obtain⟨a,cap,rfl,hf⟩:=B2 hv.1;obtain⟨by_,hT,_,_⟩:=Cj ht hty;obtain⟨hu,i0,z0,hi0,hz0,hsz,_⟩:=hT;have hsz':Sx.tySz P (el c)=some (csz c):=by simp[Sx.tySz,hi0,hsz]
 have hjc : 0<=j/\j<=(cap:Int):=by
  rcases hf with rfl|⟨_,_,_,h,_⟩
  ·simp at hb;omega
  ·omega
 have hjj : 0<=j/\j<=(j.toNat:Int):=by omega
 have hlt:(l.take j.toNat).length=j.toNat:=by simp;omega
 have hr:∀w,(Instr.sliceAt t (.slice a l.length cap) none (some (.int kj j)) (some (.int kk j))).run P w = .ok (.slice (if j.toNat=0 then a else a.map (·.add (0*csz c))) j.toNat j.toNat) w:=λw=>by simp only[Instr.sliceAt,Instr.slice,Sem.run_bind,run_underlying hu,Result.andThen_ok,Instr.sliceBounds,Instr.sliceBound,asIntOf,Sem.run_pure,if_pos hjc,if_pos hjj,Sx.run_sizeOf hsz',Nat.sub_zero]
 refine⟨.slice (if j.toNat=0 then a else a.map (·.add (0*csz c))) j.toNat j.toNat,λn a' w o he ho =>?_,?_⟩
 ·simp[execOp,ho,he.ev hx,he.ev hy,he.ev hz,hr w]
 ·simp only[Rep];refine⟨Jn hlt.symm ?_,_,by rw[hlt]⟩;by_cases h0:l.take j.toNat=[]
  ·exact .inl h0
  ·rcases hf with rfl|⟨b,o,rfl,hc,hat⟩
   ·simp at h0
   ·refine .inr ⟨b,o,?_,⟨by rw[hlt];exact Zn1 _,by omega⟩,λi y hy w' hw =>?_⟩
    ·split
     ·rfl
     ·simp[Sx.add_mk]
    ·rw[List.getElem?_take] at hy;split at hy
     ·exact hat i y hy w' hw
     ·cases hy
theorem A1p{K:D->Option R}{r:R}{c:Ck}{l:List (El c)}{lo hi:Option D}(h:A0q c l lo hi K=some r):∃d,K d=some r/\∀{P:Program}{el:Ck->TypeId}{tt:Nat->Ty}{e:Sx.Env}{t:Nat}{x:Operand}{olo ohi:Option Operand}{vx:Vx}{v:Value}{tk:Tk},Ch P el tt t=true->tt t = .sl c->Rep vx (.sl c l tk) v->Sx.Env.ev e x=some v->((olo=none/\lo=none)\/∃y d v,olo=some y/\lo=some d/\Sx.Env.ev e y=some v/\Rep vx d v)->((ohi=none/\hi=none)\/∃y d v,ohi=some y/\hi=some d/\Sx.Env.ev e y=some v/\Rep vx d v)->∃u,Sx.Pure P e (.slice t x olo ohi none) u/\Rep vx d u:=by
 have key:∀(i j:Nat),i<=j->j<=l.length->∀{P:Program}{el:Ck->TypeId}{tt:Nat->Ty}{e:Sx.Env}{t:Nat}{x:Operand}{olo ohi:Option Operand}{vx:Vx}{v:Value}{tk:Tk}{vlo vhi:Option Value},Ch P el tt t=true->tt t = .sl c->Rep vx (.sl c l tk) v->Sx.Env.ev e x=some v->((olo=none/\vlo=none)\/∃y q,olo=some y/\vlo=some q/\Sx.Env.ev e y=some q)->((ohi=none/\vhi=none)\/∃y q,ohi=some y/\vhi=some q/\Sx.Env.ev e y=some q)->(∀cap w,l.length<=cap\/l=[]->(Instr.sliceBounds true l.length cap vlo vhi none).run P w = .ok (i,j,cap) w)->∃u,Sx.Pure P e (.slice t x olo ohi none) u/\Rep vx (.sl c ((l.drop i).take (j-i)) .no) u:=by
  intro i j hij hjl P el tt e t x olo ohi vx v tk vlo vhi ht hty hv hx h1 h2 hb;simp[Rep] at hv;obtain⟨a,cap,rfl,hf⟩:=B2 hv.1;obtain⟨by_,hT,_,_⟩:=Cj ht hty;obtain⟨hu,i0,z,hi0,hz,hsz,_⟩:=hT;have hsz':Sx.tySz P (el c)=some (csz c):=by simp[Sx.tySz,hi0,hsz]
  have hcap:l.length<=cap\/l=[]:=by grind
  refine⟨_,Ady hx h1 h2 (λw=>Ad2 (c:=c) hu hsz' (hb cap w hcap) rfl),?_⟩;simp[Rep];exact⟨Ay3 hf hij hjl,trivial⟩
 have opt:∀{e:Sx.Env}{vx:Vx}{o:Option Operand}{d:Option D},((o=none/\d=none)\/∃y q v,o=some y/\d=some q/\Sx.Env.ev e y=some v/\Rep vx q v)->∀{k:IntKind}{n:Int},d=some (.int k n)->∃y q,o=some y/\some (Value.int k n)=some q/\Sx.Env.ev e y=some q:=by
  rintro e vx o d (⟨_,rfl⟩|⟨y,q,v,rfl,rfl,hy,hr⟩) k n hd
  ·cases hd
  ·simp at hd;subst hd;obtain rfl:=Rep.int hr;exact⟨y,_,rfl,rfl,hy⟩
 have optn:∀{e:Sx.Env}{vx:Vx}{o:Option Operand}{d:Option D},((o=none/\d=none)\/∃y q v,o=some y/\d=some q/\Sx.Env.ev e y=some v/\Rep vx q v)->d=none->o=none:=by grind
 unfold A0q at h;split at h
 ·refine⟨_,h,λ{P el tt e t x olo ohi vx v tk} ht hty hv hx h1 h2 =>?_⟩;have:=key 0 l.length (Nat.zero_le _) (Zn1 _) ht hty hv hx (.inl ⟨optn h1 rfl,rfl⟩) (.inl ⟨optn h2 rfl,rfl⟩) (λcap w _=>Ax2);simpa using this
 ·rename_i k i;obtain⟨hb,hk⟩:=A1 h;have hb:=Hb hb;refine⟨_,hk,λ{P el tt e t x olo ohi vx v tk} ht hty hv hx h1 h2 =>?_⟩;have:=key i.toNat l.length (by omega) (Zn1 _) ht hty hv hx (.inr (opt h1 rfl)) (.inl ⟨optn h2 rfl,rfl⟩) (λcap w _=>Bj8 ⟨hb.1,hb.2.1⟩);rwa[List.take_of_length_le (by simp)] at this
 ·rename_i k j;obtain⟨hb,hk⟩:=A1 h;have hb:=Hb hb;refine⟨_,hk,λ{P el tt e t x olo ohi vx v tk} ht hty hv hx h1 h2 =>?_⟩;have:=key 0 j.toNat (Nat.zero_le _) (by omega) ht hty hv hx (.inl ⟨optn h1 rfl,rfl⟩) (.inr (opt h2 rfl)) (λcap w hc=>Bey (by rcases hc with hc|rfl<;>simp at * <;> omega));simpa using this
 ·rename_i k i k' j;obtain⟨hb,hk⟩:=A1 h;have hb:=Hb hb;refine⟨_,hk,λ{P el tt e t x olo ohi vx v tk} ht hty hv hx h1 h2 =>?_⟩;exact key i.toNat j.toNat (by omega) (by omega) ht hty hv hx (.inr (opt h1 rfl)) (.inr (opt h2 rfl)) (λcap w hc=>Av1 (by rcases hc with hc|rfl<;>simp at * <;> omega))
 ·cases h
theorem O4{i j n:Int}(h:upI i j n=true) : 0<=i/\i<=j/\j<=n:=by simp[upI] at h;exact⟨h.1.1,h.1.2,h.2⟩
theorem Bgg{i n:Int}(h:inO i n=true) : 0<=i/\i<n:=by simpa[inO] using h
theorem A4h{K:D->Option R}{r:R}{b:Nat}{c:Ck}{s n:Int}{lo hi:Option D}(h:A3v b c s n lo hi K=some r):∃d,K d=some r/\∀{P:Program}{el:Ck->TypeId}{tt:Nat->Ty}{e:Sx.Env}{t:Nat}{x:Operand}{olo ohi:Option Operand}{vx:Vx}{v:Value},Ch P el tt t=true->tt t = .sl c->Rep vx (.osl b c s n) v->Sx.Env.ev e x=some v->((olo=none/\lo=none)\/∃y d v,olo=some y/\lo=some d/\Sx.Env.ev e y=some v/\Rep vx d v)->((ohi=none/\hi=none)\/∃y d v,ohi=some y/\hi=some d/\Sx.Env.ev e y=some v/\Rep vx d v)->∃u,Sx.Pure P e (.slice t x olo ohi none) u/\Rep vx d u:=by
 have key:∀(i j:Int),0<=i->i<=j->j<=n->∀{P:Program}{el:Ck->TypeId}{tt:Nat->Ty}{e:Sx.Env}{t:Nat}{x:Operand}{olo ohi:Option Operand}{vx:Vx}{v:Value}{vlo vhi:Option Value},Ch P el tt t=true->tt t = .sl c->Rep vx (.osl b c s n) v->Sx.Env.ev e x=some v->((olo=none/\vlo=none)\/∃y q,olo=some y/\vlo=some q/\Sx.Env.ev e y=some q)->((ohi=none/\vhi=none)\/∃y q,ohi=some y/\vhi=some q/\Sx.Env.ev e y=some q)->(∀cap w,n.toNat<=cap->(Instr.sliceBounds true n.toNat cap vlo vhi none).run P w = .ok (i.toNat,j.toNat,cap) w)->∃u,Sx.Pure P e (.slice t x olo ohi none) u/\Rep vx (.osl b c (s+i) (j-i)) u:=by
  intro i j hi hij hjn P el tt e t x olo ohi vx v vlo vhi ht hty hv hx h1 h2 hb;simp only[Rep] at hv;obtain⟨g1,g2,g3,g4,a,cap,rfl,g5,g6,g7,cur,fz,g8,g9⟩:=hv;obtain⟨by_,hT,_,_⟩:=Cj ht hty;obtain⟨hu,i0,z,hi0,hz,hsz,_⟩:=hT;have hsz':Sx.tySz P (el c)=some (csz c):=by simp[Sx.tySz,hi0,hsz]
  refine⟨_,Ady hx h1 h2 (λw=>Ad2 (c:=c) hu hsz' (hb cap w g6) rfl),?_⟩;simp only[Rep];refine⟨g1,by omega,by omega,by omega,_,cap-i.toNat,by rw[show j.toNat-i.toNat=(j-i).toNat by omega],?_,by omega,by omega,cur,fz,g8,by rw[g9];congr 1;omega⟩;rcases Int.le_iff_lt_or_eq.1 hij with hlt|heq
  ·right;rw[if_neg (by omega),(g5.resolve_left (by omega))];simp[ Sx.add_mk];rw[<-Nat.add_mul];congr 1;omega
  ·left;omega
 have opt:∀{e:Sx.Env}{vx:Vx}{o:Option Operand}{d:Option D},((o=none/\d=none)\/∃y q v,o=some y/\d=some q/\Sx.Env.ev e y=some v/\Rep vx q v)->∀{k:IntKind}{n:Int},d=some (.int k n)->∃y q,o=some y/\some (Value.int k n)=some q/\Sx.Env.ev e y=some q:=by
  rintro e vx o d (⟨_,rfl⟩|⟨y,q,v,rfl,rfl,hy,hr⟩) k n hd
  ·cases hd
  ·simp at hd;subst hd;obtain rfl:=Rep.int hr;exact⟨y,_,rfl,rfl,hy⟩
 have optn:∀{e:Sx.Env}{vx:Vx}{o:Option Operand}{d:Option D},((o=none/\d=none)\/∃y q v,o=some y/\d=some q/\Sx.Env.ev e y=some v/\Rep vx q v)->d=none->o=none:=by
  rintro e vx o d (⟨rfl,rfl⟩|⟨y,q,v,rfl,rfl,hy,hr⟩) hd
  ·rfl
  ·cases hd
 have nn:∀{vx:Vx}{v:Value},Rep vx (.osl b c s n) v->0<=n:=λh=>by simp[Rep] at h;exact h.2.2.1
 unfold A3v at h;split at h
 ·refine⟨_,h,λ{P el tt e t x olo ohi vx v} ht hty hv hx h1 h2 =>?_⟩;have:=key 0 n (Int.le_refl _) (nn hv) (Int.le_refl _) ht hty hv hx (.inl ⟨optn h1 rfl,rfl⟩) (.inl ⟨optn h2 rfl,rfl⟩) (λcap w _=>Ax2);simpa using this
 ·rename_i k i;obtain⟨hb,hk⟩:=A1 h;have hb:=O4 hb;refine⟨_,hk,λ{P el tt e t x olo ohi vx v} ht hty hv hx h1 h2 =>?_⟩;exact key i n hb.1 hb.2.1 (Int.le_refl _) ht hty hv hx (.inr (opt h1 rfl)) (.inl ⟨optn h2 rfl,rfl⟩) (λcap w _=>Bj8 (by omega))
 ·rename_i k j;obtain⟨hb,hk⟩:=A1 h;have hb:=O4 hb;refine⟨_,hk,λ{P el tt e t x olo ohi vx v} ht hty hv hx h1 h2 =>?_⟩;have:=key 0 j (Int.le_refl _) hb.2.1 hb.2.2 ht hty hv hx (.inl ⟨optn h1 rfl,rfl⟩) (.inr (opt h2 rfl)) (λcap w hc=>Bey (by omega));simpa using this
 ·rename_i k i k' j;obtain⟨hb,hk⟩:=A1 h;have hb:=O4 hb;refine⟨_,hk,λ{P el tt e t x olo ohi vx v} ht hty hv hx h1 h2 =>?_⟩;exact key i j hb.1 hb.2.1 hb.2.2 ht hty hv hx (.inr (opt h1 rfl)) (.inr (opt h2 rfl)) (λcap w hc=>Av1 (by omega))
 ·cases h
end
section
variable {R:Type}{px:Px R}{cx:Cx}
theorem Aty{P:Program}{el:Ck->TypeId}{tt:Nat->Ty}{e:Sx.Env}{vx:Vx}{b:Builtin}{xs:List Operand}{ts:Array Nat}{ds:List D}{vs:List Value}{d:D}(ht:Ch P el tt (ts.toList.headD 0)=true)(h:Aaq (tt (ts.toList.headD 0)) b ds=some d)(hx:Sx.Env.evs e xs=some vs)(hr:Reps vx ds vs)(hts:b = .len->ts = #[ts.toList.headD 0]):∃v,Sx.Pure P e (.call ⟨.builtin b,xs.toArray,ts⟩) v/\Rep vx d v:=by
 have one:∀{d1:D},ds=[d1]->∃x v,xs=[x]/\Sx.Env.ev e x=some v/\Rep vx d1 v:=by
  rintro d1 rfl;simp only[Reps] at hr;obtain⟨u,us,rfl,h1,rfl⟩:=hr;cases xs with
  |nil=>simp[Sx.Env.evs] at hx
  |cons x xs =>
   simp[Sx.Env.evs] at hx;cases hv:Sx.Env.ev e x with
   |none=>simp[hv] at hx
   |some v =>
    rw[hv] at hx;cases hw:Sx.Env.evs e xs with
    |none=>simp[hw] at hx
    |some us =>
     simp[hw] at hx;obtain⟨rfl,rfl⟩:=hx;cases xs with
     |nil=>grind
     |cons y ys =>
      simp[Sx.Env.evs] at hw;cases h2:Sx.Env.ev e y<;>simp[h2] at hw
      cases h3:Sx.Env.evs e ys<;>simp[h3] at hw
 have two:∀{d1 d2:D},ds=[d1,d2]->∃x y v u,xs=[x,y]/\Sx.Env.ev e x=some v/\Sx.Env.ev e y=some u/\Rep vx d1 v/\Rep vx d2 u:=by
  rintro d1 d2 rfl;simp only[Reps] at hr;obtain⟨u1,us1,rfl,h1,u2,us2,rfl,h2,rfl⟩:=hr;cases xs with
  |nil=>simp[Sx.Env.evs] at hx
  |cons x xs =>
   simp[Sx.Env.evs] at hx;cases hv:Sx.Env.ev e x with
   |none=>simp[hv] at hx
   |some v =>
    rw[hv] at hx;cases xs with
    |nil=>simp[Sx.Env.evs] at hx
    |cons y xs =>
     simp[Sx.Env.evs] at hx;cases hv2:Sx.Env.ev e y with
     |none=>simp[hv2] at hx
     |some v2 =>
      rw[hv2] at hx;cases xs with
      |nil=>grind
      |cons z zs =>
       simp[Sx.Env.evs] at hx;cases h3:Sx.Env.ev e z<;>simp[h3] at hx
       cases h4:Sx.Env.evs e zs<;>simp[h4] at hx
 unfold Aaq at h;split at h
 ·split at h
  ·rename_i hs;simp at h;subst h;obtain⟨x,v,rfl,hv,hr1⟩:=one rfl;obtain rfl:=Rep.str hr1;rw[hts rfl];exact⟨_,Sx.p_lens (Gf ht (Fv hs)) hv,Cu (Pw hr1.strLen)⟩
  ·cases h
 ·split at h
  ·rename_i c l t hs;simp at h;subst h;obtain⟨x,v,rfl,hv,hr1⟩:=one rfl;simp[Rep] at hr1;obtain⟨a,cap,rfl,_⟩:=B2 hr1.1;obtain⟨by_,hT,_⟩:=Cj ht (Ew hs);rw[hts rfl];exact⟨_,Sx.p_lensl (by unfold Sx.tySl;rw[hT.und]) hv,Cu (Pw hr1.1.here.len)⟩
  ·cases h
 ·split at h
  ·rename_i n _ hs;simp at h;subst h;obtain⟨x,v,rfl,hv,hr1⟩:=one rfl;simp[Rep] at hr1;obtain⟨_,h1,h2,h3,a,cap,rfl,_⟩:=hr1;obtain⟨by_,hT,_⟩:=Cj ht (Ew hs);rw[hts rfl];have h4:=Sx.p_lensl (by unfold Sx.tySl;rw[hT.und]) hv;have h5:=Pw (show n.toNat<=maxLen by omega);rw[Int.toNat_of_nonneg h2] at h4 h5;exact⟨_,h4,Cu h5⟩
  ·cases h
 ·split at h
  ·rename_i k x k' y hk;simp at hk;subst hk;simp at h;subst h;obtain⟨o1,o2,v1,v2,rfl,h1,h2,r1,r2⟩:=two rfl;obtain rfl:=Rep.int r1;obtain rfl:=Rep.int r2;refine⟨_,Bs2 h1 h2,Cu ?_⟩;unfold min2;split
   ·exact r2.u8
   ·exact r1.u8
  ·cases h
 ·split at h
  ·rename_i k x k' y hk;simp at hk;subst hk;simp at h;subst h;obtain⟨o1,o2,v1,v2,rfl,h1,h2,r1,r2⟩:=two rfl;obtain rfl:=Rep.int r1;obtain rfl:=Rep.int r2;refine⟨_,Btu h1 h2,Cu ?_⟩;unfold max2;split
   ·exact r2.u8
   ·exact r1.u8
  ·cases h
 ·cases h
theorem Bqw{P:Program}{e:Sx.Env}{vx:Vx}{op:UnOp}{t:Nat}{x:Operand}{a d:D}{v:Value}(h:un op a=some d)(hx:Sx.Env.ev e x=some v)(hr:Rep vx a v):∃u,Sx.Pure P e (.unOp op t x) u/\Rep vx d u:=by
 unfold un at h;split at h<;>simp only[Za1,reduceCtorEq] at h
 ·subst h;obtain rfl:=Rep.bool hr;exact⟨_,Sx.p_not hx,Bq _⟩
 ·subst h;obtain rfl:=Rep.int hr;exact⟨_,Sx.p_neg hx,Cu (Aab _ _)⟩
 ·subst h;obtain rfl:=Rep.int hr;exact⟨_,Br0 hx,Cu (Aab _ _)⟩
theorem Axw{c:Ck}:∀{n:Nat}{ds:List D}{xs:List (El c)},Bah c n ds=some xs->xs.length=n/\∀(i:Nat) y,xs[i]? = some y->dec c ((ds.drop (i*csz c)).take (csz c))=some y
 |0,[],xs,h=>by simp[Bah] at h;subst h;exact⟨rfl,by simp⟩
 |0,_::_,xs,h=>by simp[Bah] at h
 |n+1,ds,xs,h=>by
  simp[Bah] at h;split at h
  ·rename_i x hx;split at h
   ·rename_i xs' hxs;simp at h;subst h;obtain⟨h1,h2⟩:=Axw hxs;refine⟨by simp[h1],λi y hy =>?_⟩;cases i with|zero=>grind|succ i =>have:=h2 i y (by simpa using hy);rw[List.drop_drop] at this;rw[Nat.succ_mul,Nat.add_comm (i*csz c)];exact this
   ·cases h
  ·cases h
theorem Rep.tup{x:Vx}{ds:List D}{v:Value}(h:Rep x (.tup ds) v):∃vs:List Value,v = .tuple vs.toArray/\Reps x ds vs:=by simp[Rep] at h;exact h
theorem Am9{α β:Type}(f : α->Option β)(g : α->β):∀(l:List α),(∀x,x∈l->f x=some (g x))->l.mapM f=some (l.map g)
 |[],_=>rfl
 |x::l,h=>by simp[ h x (by simp),Am9 f g l (λy hy=>h y (by simp[hy]))]
theorem Aox{P:Program}{t:TypeId}{n:Nat}(h:Sx.tySz P t=some n):∃i,P.info? t=some i/\i.size=n:=by unfold Sx.tySz at h;cases hi:P.info? t with|none=>rw[hi] at h;cases h|some i=>rw[hi] at h;simp at h;exact⟨i,rfl,h⟩
theorem J5{P:Program}{t:TypeId}{zs:List Value}(h:Sx.tyZero P t=some zs):∃i z,P.info? t=some i/\i.zero=some z/\z.cells=zs.toArray:=by
 unfold Sx.tyZero at h;cases hi:P.info? t with
 |none=>rw[hi] at h;cases h
 |some i =>rw[hi] at h;cases hz:i.zero with|none=>simp[hz] at h|some z=>simp[hz] at h;exact⟨i,z,rfl,hz,by rw[<-h]⟩
theorem Ard{P:Program}{t:Nat}{fds:Array Field}(hu:P.underlying t=some (.struct fds)):∀(l1:List Field) (l2:List (Nat×Nat)) (i:Nat),Uj P t i l1 l2=true->(∀(j:Nat) fd,l1[j]? = some fd->fds[i+j]? = some fd)->∀fd,fd∈l1->∃n,Sx.tySz P fd.type=some n
 |[],_,_,_,_,fd,hfd=>by simp at hfd
 |f::l1,[],_,hb,_,_,_=>by simp[Uj] at hb
 |f::l1,p::l2,i,hb,hg,fd,hfd=>by
  simp[Uj] at hb;simp at hfd;rcases hfd with rfl|hfd
  ·have h0:=hb.1.1.2;have hg0:=hg 0 fd (by simp);rw[Nat.add_zero] at hg0;unfold Sx.fldOff at h0;rw[hu] at h0;simp[hg0] at h0;split at h0
   ·exact⟨_,by assumption⟩
   ·cases h0
  ·exact Ard hu l1 l2 (i+1) hb.2 (λj fd' hj=>by have:=hg (j+1) fd' (by simpa using hj);rwa[show i+(j+1)=i+1+j by omega] at this) fd hfd
theorem Biv(hp:PxOk cx px){x:Vx}{t:Nat}{c:Option Ck}{l:List (Nat×Nat)}{z:List D}(hty:px.tt t = .st c l z){l':List (Nat×D)}{ds:List D}(hds:Arc px t z l' = some ds){vs:List (Nat×Value)}(h2:vs.length=l'.length)(h3:∀(j:Nat) f d,l'[j]? = some (f,d)->∃v,vs[j]? = some (f,v)/\Rep x d v):∃cs:Array Value,cx.P.built t vs=some cs/\Rep x (.agg ds) (.agg cs):=by
 obtain⟨fds,hu,hfl,_⟩:=Auq (hp.tt t) hty;obtain⟨zs,hz1,hz2⟩:=R4 (hp.tt t) (by rw[hty];simp) (z :=.agg z) (by rw[hty];rfl);obtain⟨hz3,hz4⟩:=Ry (x:=x) hz2;have hz3:Dn x z zs:=F5 hz3;have hsome:=Ard hu fds.toList l 0 hfl (λj fd hj=>by simpa using hj);have hpl:fds.toList.mapM (λf=>(cx.P.info? f.type).map λi=>(f.offset,i.size))=some (fds.toList.map λf=>(f.offset,(Sx.tySz cx.P f.type).getD 0)):=Am9 _ _ _ λfd hfd=>by obtain⟨n,hn⟩:=hsome fd hfd;obtain⟨i,hi,rfl⟩:=Aox hn;simp[hi,Sx.tySz]
 obtain⟨cs,hf1,hf2,hf3⟩:=Aoj (px:=px) (x:=x) (s:=t) (places:=(fds.toList.map λf=>(f.offset,(Sx.tySz cx.P f.type).getD 0)).toArray) (λf o' u hf hk=>by
  obtain⟨_,_,_,fds',fd,_,hu',hfd,htt,hoff,_⟩:=Lu hp hf;rw[hu] at hu';simp at hu';subst hu';have hsz:=(Di (hp.tt fd.type) (by rw[htt];exact(D7 hk).1)).2.2;have hfd':fds.toList[f]? = some fd:=by simpa using hfd
  have hfd2:fds[f]? = some fd:=hfd;simp[hfd2,hsz,htt,hoff]) hds hz3 hz4 h2 h3
 obtain⟨i,zv,hi,hz,hzc⟩:=J5 hz1;refine⟨cs,?_,?_⟩
 ·unfold Program.built;simp only[hi,hu,hz,hpl,hzc];exact hf1
 ·simp only[Rep];exact⟨hf3,cs.toList,by simp,hf2.reps⟩
theorem Ahb{x:Vx}{c:Ck}:∀{l:List D}{vs:List Value},Reps x l vs->(l.all λd=>lfs d&&Nat.beq (cells d).length (csz c))=true->Dn x ((l.map cells).flatten) (vs.flatMap λv=>v.cells.toList)/\((l.map cells).flatten).all lf=true/\∀v,v∈vs->v.cells.size=csz c
 |[],vs,hr,_=>by simp[Reps] at hr;subst hr;exact⟨⟨rfl,by simp⟩,rfl,by simp⟩
 |d::l,vs,hr,hl=>by
  simp[Reps] at hr;obtain⟨u,us,rfl,h1,h2⟩:=hr;simp only[Zv1,Zb1] at hl;obtain⟨i1,i2,i3⟩:=Ahb h2 (by simpa using hl.2);have hc:=Mh h1 hl.1.1;have hn:=Zl1 hl.1.2;refine⟨?_,?_,?_⟩
  ·simp;exact F5 (hc.reps.append i1.reps)
  ·simp only[Zw1,Zz1,List.all_append,Zb1];exact⟨hl.1.1,i2⟩
  ·intro v hv;simp at hv;rcases hv with rfl|hv
   ·have:=hc.1;simpa[hn] using this
   ·exact i3 v hv
theorem Reps.cut2{x:Vx}:∀{A B:List D}{vs:List Value},Reps x (A++B) vs->∃us ws,vs=us++ws/\Reps x A us/\Reps x B ws
 |[],B,vs,h=>⟨[],vs,rfl,by simp[Reps],h⟩
 |d::A,B,vs,h=>by simp at h;obtain⟨u,us,rfl,h1,h2⟩:=h;obtain⟨us',ws,rfl,h3,h4⟩:=Reps.cut2 h2;exact⟨u::us',ws,rfl,by simp only[Reps];exact⟨u,us',rfl,h1,h3⟩,h4⟩
theorem Bad(hp:PxOk cx px){x:Vx}{t n k:Nat}{c:Ck}(hty:px.tt t = .arr n c){l:List D}{vs:List Value}(hn:k+l.length=n)(hl:(l.all λd=>lfs d&&Nat.beq (cells d).length (csz c))=true)(hr:Reps x l vs):∃cs:Array Value,cx.P.built t ((List.range' k vs.length).zip vs)=some cs/\Rep x (.agg ((List.replicate k (enc c (zer c))).flatten++(l.map cells).flatten)) (.agg cs):=by
 obtain⟨hu,hsz,_,_⟩:=Ra (hp.tt t) hty;obtain⟨zs,hz1,hz2⟩:=R4 (hp.tt t) (by rw[hty];simp) (z :=.agg ((List.replicate n (enc c (zer c))).flatten)) (by rw[hty];rfl);obtain⟨i,zv,hi,hz,hzc⟩:=J5 hz1;obtain⟨ie,hie,hies⟩:=Aox hsz;obtain⟨h1,h2,h3⟩:=Ahb (c:=c) hr hl;obtain⟨hz3,hz4⟩:=Ry (x:=x) hz2;have e:(cells (.agg ((List.replicate n (enc c (zer c))).flatten)))=(List.replicate k (enc c (zer c))).flatten++(List.replicate l.length (enc c (zer c))).flatten:=by simp[cells];rw[<-List.flatten_append,List.replicate_append_replicate,hn]
 rw[e] at hz3 hz4;obtain⟨pre,post,rfl,hz5,hz6⟩:=hz3.cut2;have hpre:pre.length=k*csz c:=by rw[hz5.len];simp[ B7]
 have hpost:post.length=vs.length*csz c:=by rw[hz6.len,hr.len];simp[ B7]
 have hfill:=Sx.fill_all (csz c) vs k pre post h3 hpre (by omega);refine⟨(pre++vs.flatMap λv=>v.cells.toList).toArray,?_,?_⟩
 ·unfold Program.built;simp[hi,hu,hz,hie,hzc,hies];have hd:post.drop (vs.length*csz c)=[]:=Zk1 (by omega);rw[hd,List.append_nil] at hfill;simpa using hfill
 ·simp only[Rep];simp only[List.all_append,Zb1] at hz4 ⊢;exact⟨⟨hz4.1,h2⟩,_,rfl,hz5.append h1.reps⟩
theorem A6r{ps:List (Nat×Operand)}{vs:List Value}{a:Act}{k:Nat}(h0:ps.map (·.1)=List.range' k vs.length)(h2:(ps.map (·.2)).map a.eval=vs):(ps.map λp=>match p with|(i,x)=>(i,a.eval x))=(List.range' k vs.length).zip vs:=by grind
set_option maxHeartbeats 1000000 in
theorem Acd(hp:PxOk cx px){o:Oper}{st:St}{K:D->Option R}{r:R}(hts:∀b xs ts,o.op = .call ⟨.builtin b,xs,ts⟩->b = .len->ts = #[ts.toList.headD 0])(h:T6 px o st K=some r):∃d,K d=some r/\A44 cx px o (get st.env) (blk st.bl) d:=by
 unfold T6 at h;split at h
 ·
  rename_i x ho;split at h
  ·rename_i d hd;refine⟨d,h,Bh λs m a as_ w hx _ hr =>?_⟩;rw[Au,<-hx _ x (by simp[ho,Op.operands])] at hd;obtain⟨v,h1,_,h3⟩:=hr.env.ev hd;exact⟨v,by rw[ho];exact Sx.p_move h1,h3⟩
  ·cases h
 ·
  rename_i x ho;split at h
  ·rename_i d hd;refine⟨d,h,Bh λs m a as_ w hx _ hr =>?_⟩;rw[Au,<-hx _ x (by simp[ho,Op.operands])] at hd;obtain⟨v,h1,_,h3⟩:=hr.env.ev hd;exact⟨v,by rw[ho];exact Sx.p_assign h1,h3⟩
  ·cases h
 ·
  rename_i c x y ho;split at h
  ·rename_i q u v hc hu hv;refine⟨cond q u v,by cases q<;>exact h,Bh λs m a as_ w hx _ hr =>?_⟩;rw[Au,<-hx _ c (by simp[ho,Op.operands])] at hc;rw[Au,<-hx _ x (by simp[ho,Op.operands])] at hu;rw[Au,<-hx _ y (by simp[ho,Op.operands])] at hv;obtain⟨v1,h1,_,h3⟩:=hr.env.ev hc;obtain⟨v2,h4,_,h6⟩:=hr.env.ev hu;obtain⟨v3,h7,_,h9⟩:=hr.env.ev hv;obtain rfl:=Rep.bool h3;cases q with|true=>exact⟨v2,by rw[ho];exact Sx.p_pick_t h1 h4,h6⟩|false=>exact⟨v3,by rw[ho];exact Sx.p_pick_f h1 h7,h9⟩
  ·cases h
 ·
  rename_i t ps ho;have hmem:∀q,q∈ps.toList.map (·.2)->q∈o.op.operands:=λq hq=>by rw[ho];simpa[Op.operands] using hq
  split at h
  ·rename_i c l z hty;split at h
   ·rename_i l' hl;split at h
    ·rename_i ds hds;refine⟨_,h,λs m a as_ w hx _ hr =>?_⟩;obtain⟨vs,h1,h2,h3⟩:=Azl hr.env hl (λu q hq=>by rw[Au];exact hx u q (hmem q hq));obtain⟨cs,h4,h5⟩:=Biv hp hty hds h2 h3;refine⟨.agg cs,?_,h5⟩;have hpl:(ps.map λp=>match p with|(i,x)=>(i,a.eval x))=vs.toArray:=by apply Array.ext';simpa using h1
     simp[execOp,ho,Sem.run_bind,hpl,run_build w t vs.toArray cs (by simpa using h4),Result.andThen_ok,Sem.run_pure]
    ·cases h
   ·cases h
  ·rename_i n c hty;split at h
   ·rename_i l hl;split at h
    ·rename_i hc;simp only[Zb1] at hc;refine⟨_,h,λs m a as_ w hx _ hr =>?_⟩;obtain⟨vs,h0,h1,h2,h3⟩:=Acb hr.env hl (λu q hq=>by rw[Au];exact hx u q (hmem q hq));obtain⟨cs,h4,h5⟩:=Bad hp hty (Zl1 hc.1) hc.2 h3;refine⟨.agg cs,?_,h5⟩;have hpl:(ps.map λp=>match p with|(i,x)=>(i,a.eval x))=((List.range' (Bk3 ps.toList) vs.length).zip vs).toArray:=by apply Array.ext';rw[Array.toList_map];exact A6r (by rw[h0,h3.len]) h2
     simp[execOp,ho,Sem.run_bind,hpl,run_build w t ((List.range' (Bk3 ps.toList) vs.length).zip vs).toArray cs h4,Result.andThen_ok,Sem.run_pure]
    ·cases h
   ·cases h
  ·cases h
 ·
  rename_i t x ho;split at h
  ·rename_i g hpv;split at h
   ·rename_i l hty hgl;refine⟨_,h,λs m a as_ w hx _ hr =>?_⟩;rw[Au,<-hx _ x (by simp[ho,Op.operands])] at hpv;obtain⟨v,_,h2,h3⟩:=hr.env.ev hpv;simp[Rep] at h3;subst h3;obtain⟨r,es,clk,h4,h5⟩:=hr.glb.2.1 g l (by rw[<-hp.gl];exact hgl);refine⟨.map (some r),?_,by simp only[Rep];exact⟨r,es,clk,rfl,λw' hw=>(h4 w' hw).2,h5⟩⟩;simp[execOp,ho,h2,Instr.loadAt,Instr.sureAddr,Sem.run_bind,Sem.run_pure,Result.andThen_ok,Agp (hp.tt t) (by rw[hty];simp) (by rw[hty];rfl) (h4 w (Chg.refl _ _)).1]
   ·cases h
  ·rename_i b c i hpv;split at h
   ·rename_i c' xs hbl;split at h
    ·rename_i hc;simp only[Zb1,beq_iff_eq,Zg1] at hc;obtain⟨⟨⟨h1,h2⟩,rfl⟩,h4⟩:=hc;obtain⟨hib,hk⟩:=A1 h;refine⟨_,hk,λs m a as_ w hx hb hr =>?_⟩;rw[Au] at hpv;have hrd:=Bje (b:=b) ho hpv rfl;rw[<-hx _ x (by simp[ho,Op.operands])] at hpv;obtain⟨v,_,h5,h6⟩:=hr.env.ev hpv;simp[Rep] at h6;obtain⟨hlt,rfl,_⟩:=h6;have hsb:=hb (by rw[ho];rfl) b _ hrd hbl hlt;obtain⟨_,_,vs,ty,hh,hlen,hreps⟩:=hr.blks b _ hsb;obtain⟨u,h7,h8⟩:=Br9 (x:=vx cx m s w) (w:=w) (hp.tt t) (D7 h4).1 (Zl1 h1) h2 hh hlen hreps (Mg hib);refine⟨u,?_,h8⟩;simp[execOp,ho,h5,vx,Instr.loadAt,Instr.sureAddr,Sem.run_bind,Sem.run_pure,Result.andThen_ok,h7]
    ·cases h
   ·cases h
  ·rename_i p hne hne2 hpv;split at h
   ·rename_i d hk hd;refine⟨d,h,λs m a as_ w hx hb hr =>?_⟩;rw[Au] at hpv;have hrd:∀b,Ap4 p=some b->rdO o (get st.env) b:=λb hb=>Bje ho hpv hb;rw[<-hx _ x (by simp[ho,Op.operands])] at hpv;obtain⟨v,h1,h2,h3⟩:=hr.env.ev hpv;rw[A7i] at hd;have hd:=Bcc (λb k hbk=>hb (by rw[ho];rfl) b k (hrd b hbk)) hd h3;obtain⟨u,h4,h5⟩:=Anr hp hr hk hd h3;refine⟨u,?_,h5⟩;simp[execOp,ho,h2,Sem.run_bind,h4,Result.andThen_ok,Sem.run_pure]
   ·cases h
  ·cases h
 ·
  rename_i x ho;have run:∀{d:D}{v:Value}(s:FS) (m:Mp) (a:Act) (w:World),a.eval x=v->Rep (vx cx m s w) d v->((∃p,v = .pointer (some p))\/∃f cs,v = .func (.func f) #[] cs)->(execOp a.eval o).run cx.P w = .ok (.value v) w:=by
   intro d v s m a w hv _ hh;rcases hh with ⟨p,rfl⟩|⟨f,cs,rfl⟩
   ·simp[execOp,ho,hv,Sem.run_pure]
   ·simp[execOp,ho,hv,Sem.run_pure]
  split at h
  ·rename_i b o' he;refine⟨_,h,λs m a as_ w hx _ hr =>?_⟩;rw[Au,<-hx _ x (by simp[ho,Op.operands])] at he;obtain⟨v,_,h2,h3⟩:=hr.env.ev he;exact⟨v,run s m a w h2 h3 (.inl (by simp[Rep] at h3;exact⟨_,h3.2⟩)),h3⟩
  ·rename_i c y o' he;refine⟨_,h,λs m a as_ w hx _ hr =>?_⟩;rw[Au,<-hx _ x (by simp[ho,Op.operands])] at he;obtain⟨v,_,h2,h3⟩:=hr.env.ev he;exact⟨v,run s m a w h2 h3 (.inl (by simp[Rep] at h3;obtain⟨b,o2,h4,_⟩:=h3;exact⟨_,h4⟩)),h3⟩
  ·rename_i g he;refine⟨_,h,λs m a as_ w hx _ hr =>?_⟩;rw[Au,<-hx _ x (by simp[ho,Op.operands])] at he;obtain⟨v,_,h2,h3⟩:=hr.env.ev he;exact⟨v,run s m a w h2 h3 (.inl (by simp[Rep] at h3;exact⟨_,h3⟩)),h3⟩
  ·rename_i b c n i he;refine⟨_,h,λs m a as_ w hx _ hr =>?_⟩;rw[Au,<-hx _ x (by simp[ho,Op.operands])] at he;obtain⟨v,_,h2,h3⟩:=hr.env.ev he;exact⟨v,run s m a w h2 h3 (.inl (by simp[Rep] at h3;exact⟨_,h3.2.1⟩)),h3⟩
  ·rename_i b c i he;refine⟨_,h,λs m a as_ w hx _ hr =>?_⟩;rw[Au,<-hx _ x (by simp[ho,Op.operands])] at he;obtain⟨v,_,h2,h3⟩:=hr.env.ev he;exact⟨v,run s m a w h2 h3 (.inl (by simp[Rep] at h3;exact⟨_,h3.2.1⟩)),h3⟩
  ·rename_i f cs he;refine⟨_,h,λs m a as_ w hx _ hr =>?_⟩;rw[Au,<-hx _ x (by simp[ho,Op.operands])] at he;obtain⟨v,_,h2,h3⟩:=hr.env.ev he;exact⟨v,run s m a w h2 h3 (.inr (by simp[Rep] at h3;obtain⟨vs,h4,_⟩:=h3;exact⟨_,_,h4⟩)),h3⟩
  ·cases h
 ·
  rename_i op t x y t' ho;split at h
  ·rename_i p q hpx hqy;split at h
   ·rename_i c d hb;obtain⟨hc,hk⟩:=A1 h;refine⟨d,hk,Bh λs m a as_ w hx _ hr =>?_⟩;rw[Au,<-hx _ x (by simp[ho,Op.operands])] at hpx;rw[Au,<-hx _ y (by simp[ho,Op.operands])] at hqy;obtain⟨v1,h1,_,h3⟩:=hr.env.ev hpx;obtain⟨v2,h4,_,h6⟩:=hr.env.ev hqy;rw[ho];exact Bny (hp.tt t) hb hc h1 h4 h3 h6
   ·cases h
  ·cases h
 ·
  rename_i op t x ho;split at h
  ·rename_i p hpx;split at h
   ·rename_i d hd;refine⟨d,h,Bh λs m a as_ w hx _ hr =>?_⟩;rw[Au,<-hx _ x (by simp[ho,Op.operands])] at hpx;obtain⟨v1,h1,_,h3⟩:=hr.env.ev hpx;rw[ho];exact Bqw hd h1 h3
   ·cases h
  ·cases h
 ·
  rename_i q t x ho;split at h
  ·rename_i k n k' hpx hty;split at h
   ·rename_i hk;refine⟨_,h,Bh λs m a as_ w hx _ hr =>?_⟩;rw[Au,<-hx _ x (by simp[ho,Op.operands])] at hpx;obtain⟨v1,h1,_,h3⟩:=hr.env.ev hpx;obtain rfl:=Rep.int h3;rw[ho];exact⟨_,Sx.p_conv k' (Di (hp.tt q) (D7 hk).1).1 (Amc (hp.tt t) hty) h1,Cu (Aab _ _)⟩
   ·cases h
  ·rename_i l hpx hty;split at h
   ·rename_i hk;refine⟨_,h,Bh λs m a as_ w hx _ hr =>?_⟩;rw[Au,<-hx _ x (by simp[ho,Op.operands])] at hpx;obtain⟨v1,h1,_,h3⟩:=hr.env.ev hpx;obtain rfl:=Rep.str h3;rw[ho];exact⟨_,Baq (Di (hp.tt q) (D7 hk).1).1 (Gf (hp.tt t) hty) h1,Jx h3.strLen⟩
   ·cases h
  ·rename_i xs tk hpx hty;split at h
   ·rename_i hk;refine⟨_,h,λs m a as_ w hx _ hr =>?_⟩;rw[Au,<-hx _ x (by simp[ho,Op.operands])] at hpx;obtain⟨v1,h1,_,h3⟩:=hr.env.ev hpx;exact⟨_,Av0 (vx:=vx cx m s w) (hp.tt q) (hp.tt t) (Ew hk) hty h3 _ ⟨a.tmps,[]⟩ o (Auk (a:=⟨a.tmps,[]⟩) rfl) h1 ho,Jx (by simp[Rep] at h3;exact h3.1.here.len)⟩
   ·cases h
  ·cases h
 ·
  rename_i t x lo hi ho;split at h
  ·rename_i d i j hd hi' hj';have hmx:x∈o.op.operands:=by simp[ho,Op.operands]
   have hml:∀y,lo=some y->y∈o.op.operands:=λy hy=>by simp[ho,Op.operands,hy]
   have hmh:∀y,hi=some y->y∈o.op.operands:=λy hy=>by simp[ho,Op.operands,hy]
   unfold Bg4 at h;split at h
   ·rename_i l;split at h
    ·rename_i hs;obtain⟨d',hk,hrun⟩:=A12 h;refine⟨d',hk,Bh λs m a as_ w hx _ hr =>?_⟩;rw[Au,<-hx _ x hmx] at hd;obtain⟨v1,h1,_,h3⟩:=hr.env.ev hd;obtain rfl:=Rep.str h3;rw[ho];exact hrun (Gf (hp.tt t) (Fv hs)) h1 h3.strLen (Kf hr.env hi' λu y hy=>by rw[Au];exact hx u y (hml y hy)) (Kf hr.env hj' λu y hy=>by rw[Au];exact hx u y (hmh y hy))
    ·cases h
   ·rename_i c l tk;split at h
    ·rename_i hs;obtain⟨d',hk,hrun⟩:=A1p h;refine⟨d',hk,Bh λs m a as_ w hx _ hr =>?_⟩;rw[Au,<-hx _ x hmx] at hd;obtain⟨v1,h1,_,h3⟩:=hr.env.ev hd;rw[ho];exact hrun (hp.tt t) (Ew hs) h3 h1 (Kf hr.env hi' λu y hy=>by rw[Au];exact hx u y (hml y hy)) (Kf hr.env hj' λu y hy=>by rw[Au];exact hx u y (hmh y hy))
    ·cases h
   ·rename_i b c s0 n;split at h
    ·rename_i hs;obtain⟨d',hk,hrun⟩:=A4h h;refine⟨d',hk,Bh λs m a as_ w hx _ hr =>?_⟩;rw[Au,<-hx _ x hmx] at hd;obtain⟨v1,h1,_,h3⟩:=hr.env.ev hd;rw[ho];exact hrun (hp.tt t) (Ew hs) h3 h1 (Kf hr.env hi' λu y hy=>by rw[Au];exact hx u y (hml y hy)) (Kf hr.env hj' λu y hy=>by rw[Au];exact hx u y (hmh y hy))
    ·cases h
   ·rename_i g;split at h
    ·rename_i c xs n c' hgl hty;split at h
     ·rename_i hc;simp only[Zb1,Zg1] at hc;obtain⟨⟨hc1,rfl⟩,hc2⟩:=hc;have hc1:=Zl1 hc1;have hc2:n<=1048576:=Nat.le_of_ble_eq_true hc2;refine⟨_,h,Bh λs m a as_ w hx _ hr =>?_⟩;rw[Au,<-hx _ x hmx] at hd;obtain⟨v1,h1,_,h3⟩:=hr.env.ev hd;simp[Rep] at h3;subst h3;obtain⟨hu,hsz,_,_⟩:=Ra (hp.tt t) hty;have hlo:lo=none:=by
       rcases Kf hr.env hi' (λu y hy=>by rw[Au];exact hx u y (hml y hy)) with ⟨h,_⟩|⟨_,_,_,_,h,_⟩
       ·exact h
       ·cases h
      have hhi:hi=none:=by
       rcases Kf hr.env hj' (λu y hy=>by rw[Au];exact hx u y (hmh y hy)) with ⟨h,_⟩|⟨_,_,_,_,h,_⟩
       ·exact h
       ·cases h
      subst hlo;subst hhi;rw[ho];refine⟨_,Sx.p_slicex h1 (u :=.slice (some ⟨g,0,none⟩) n n) (λw =>?_),?_⟩
      ·simp[Instr.sliceAt,Sem.run_bind,run_underlying hu,Result.andThen_ok,Instr.sureAddr,Sem.run_pure,A91,Sx.run_sizeOf hsz,Nat.zero_mul,Nat.sub_zero,Sx.add_mk,Nat.zero_add,ite_self]
      ·simp[Rep];refine⟨Jn hc1.symm (.inr ⟨g,0,rfl,⟨by omega,by simp[maxLen];omega⟩,λi y hy w' hw =>?_⟩),trivial⟩;rw[Nat.zero_add];exact hr.glb.1 g c xs (by rw[<-hp.gl];exact hgl) i y hy w' hw
     ·cases h
    ·cases h
   ·cases h
  ·cases h
 ·
  rename_i t x y z ho;split at h
  ·rename_i c l tk kj j kk k hx0 hy0 hz0;split at h
   ·rename_i hs;simp only[Zb1,Zg1] at hs;obtain⟨hs,rfl⟩:=hs;obtain⟨hb,hk⟩:=A1 h;have hb:=Hb hb;refine⟨_,hk,Bh λs m a as_ w hx _ hr =>?_⟩;rw[Au,<-hx _ x (by simp[ho,Op.operands])] at hx0;rw[Au,<-hx _ y (by simp[ho,Op.operands])] at hy0;rw[Au,<-hx _ z (by simp[ho,Op.operands])] at hz0;obtain⟨v1,h1,_,h3⟩:=hr.env.ev hx0;obtain⟨v2,h4,_,h5⟩:=hr.env.ev hy0;obtain⟨v3,h6,_,h7⟩:=hr.env.ev hz0;obtain rfl:=Rep.int h5;obtain rfl:=Rep.int h7;rw[ho];exact A3r (hp.tt t) (Ew hs) h3 h1 h4 h6 ⟨by omega,by omega⟩
   ·cases h
  ·cases h
 ·
  rename_i q x f ho;split at h
  ·rename_i b o' fo u hpx hf;refine⟨_,h,Bh λs m a as_ w hx _ hr =>?_⟩;rw[Au,<-hx _ x (by simp[ho,Op.operands])] at hpx;obtain⟨v1,h1,_,h3⟩:=hr.env.ev hpx;simp[Rep] at h3;obtain⟨h3a,rfl⟩:=h3;obtain⟨_,_,_,_,_,_,_,_,_,_,hfo⟩:=Lu hp hf;rw[ho];refine⟨_,Sx.p_fa (by simpa using hfo) h1,?_⟩;simp only[Rep];exact⟨h3a,trivial⟩
  ·rename_i c y o' fo u hpx hf;refine⟨_,h,Bh λs m a as_ w hx _ hr =>?_⟩;rw[Au,<-hx _ x (by simp[ho,Op.operands])] at hpx;obtain⟨v1,h1,_,h3⟩:=hr.env.ev hpx;simp[Rep] at h3;obtain⟨b,o2,rfl,hat⟩:=h3;obtain⟨_,_,_,_,_,_,_,_,_,_,hfo⟩:=Lu hp hf;rw[ho];refine⟨_,Sx.p_fa (by simpa using hfo) h1,?_⟩;simp only[Rep];exact⟨b,o2,by rw[Nat.add_assoc],hat⟩
  ·cases h
 ·
  rename_i q x f ho;split at h
  ·rename_i d fo u hpx hf;split at h
   ·rename_i v hc hpart;simp[Zb1] at hc;refine⟨v,h,λs m a as_ w hx _ hr =>?_⟩;rw[Au,<-hx _ x (by simp[ho,Op.operands])] at hpx;obtain⟨v1,_,h2,h3⟩:=hr.env.ev hpx;obtain⟨_,_,_,fds,fd,_,hu,hfd,htt,hoff,_⟩:=Lu hp hf;have hcr:=Mh h3 hc.1.2;have hagg:∃vs:List Value,v1 = .agg vs.toArray:=by
     cases d<;>simp at hc<;>simp[Rep] at h3
     ·obtain⟨_,vs,rfl,_⟩:=h3;exact⟨vs,rfl⟩
     ·obtain⟨_,vs,rfl,_⟩:=h3;exact⟨vs,rfl⟩
    obtain⟨vs,rfl⟩:=hagg;subst htt;have hcr:Dn (vx cx m s w) (cells d) vs:=by simpa[Value.cells] using hcr
    obtain⟨u',h4,h5⟩:=Bib (w:=w) (hp.tt fd.type) (D7 hc.1.1).1 hpart hcr hc.1.2;refine⟨u',?_,h5⟩;subst hoff;simp[execOp,ho,Instr.field,h2,Sem.run_bind,run_underlying hu,hfd,asAgg,Sem.run_pure,Result.andThen_ok,h4]
   ·cases h
  ·cases h
 ·
  rename_i t x y ho;split at h
  ·rename_i c xs tk k i hpx hpy;split at h
   ·rename_i hs;obtain⟨hc,hk⟩:=A1 h;refine⟨_,hk,Bh λs m a as_ w hx _ hr =>?_⟩;rw[Au,<-hx _ x (by simp[ho,Op.operands])] at hpx;rw[Au,<-hx _ y (by simp[ho,Op.operands])] at hpy;obtain⟨v1,h1,_,h3⟩:=hr.env.ev hpx;obtain⟨v2,h4,_,h6⟩:=hr.env.ev hpy;obtain rfl:=Rep.int h6;rw[ho];exact Br8 (hp.tt t) (Ew hs) h3 h1 h4 hc
   ·cases h
  ·rename_i g k i hpx hpy;split at h
   ·rename_i c xs n c' hgl hty;split at h
    ·rename_i hc;simp only[Zb1,Zg1] at hc;obtain⟨hc1,rfl⟩:=hc;have hc1:=Zl1 hc1;obtain⟨hb,hk⟩:=A1 h;have hb:=Mg hb;refine⟨_,hk,λs m a as_ w hx _ hr =>?_⟩;rw[Au,<-hx _ x (by simp[ho,Op.operands])] at hpx;rw[Au,<-hx _ y (by simp[ho,Op.operands])] at hpy;obtain⟨v1,_,h2,h3⟩:=hr.env.ev hpx;obtain⟨v2,_,h5,h6⟩:=hr.env.ev hpy;obtain rfl:=Rep.int h6;simp[Rep] at h3;subst h3;obtain⟨hu,hsz,_,_⟩:=Ra (hp.tt t) hty;refine⟨.pointer (some ⟨g,0+i.toNat*csz c,none⟩),?_,?_⟩
     ·simp[execOp,ho,h2,h5,Sem.run_bind,Al6 hu hsz hb,Result.andThen_ok,Sem.run_pure]
     ·simp[Rep];refine⟨g,i.toNat*csz c,by simp,λw' hw =>?_⟩;exact hr.glb.1 g c xs (by rw[<-hp.gl];exact hgl) _ _ (Aaf (by rw[hc1];exact hb)) w' hw
    ·cases h
   ·cases h
  ·rename_i b k i hpx hpy;split at h
   ·rename_i c n' xs n c' hbl hty;split at h
    ·rename_i hc;simp only[Zb1,Zg1] at hc;obtain⟨rfl,hc1⟩:=hc;have hc1:=Zl1 hc1;subst hc1;obtain⟨hb,hk⟩:=A1 h;have hb:=Mg hb;refine⟨_,hk,λs m a as_ w hx _ hr =>?_⟩;rw[Au,<-hx _ x (by simp[ho,Op.operands])] at hpx;rw[Au,<-hx _ y (by simp[ho,Op.operands])] at hpy;obtain⟨v1,_,h2,h3⟩:=hr.env.ev hpx;obtain⟨v2,_,h5,h6⟩:=hr.env.ev hpy;obtain rfl:=Rep.int h6;simp[Rep] at h3;obtain⟨h3a,rfl⟩:=h3;obtain⟨hu,hsz,_,_⟩:=Ra (hp.tt t) hty;refine⟨.pointer (some ⟨m.bl b,0+i.toNat*csz c,none⟩),?_,?_⟩
     ·simp[execOp,ho,h2,h5,Sem.run_bind,vx,Al6 hu hsz hb,Result.andThen_ok,Sem.run_pure]
     ·simp[Rep];exact⟨h3a,by simp[vx],hb⟩
    ·cases h
   ·cases h
  ·rename_i b c s0 n k i hpx hpy;split at h
   ·rename_i hs;obtain⟨hc,hk⟩:=A1 h;have hc:=Bgg hc;refine⟨_,hk,Bh λs m a as_ w hx _ hr =>?_⟩;rw[Au,<-hx _ x (by simp[ho,Op.operands])] at hpx;rw[Au,<-hx _ y (by simp[ho,Op.operands])] at hpy;obtain⟨v1,h1,_,h3⟩:=hr.env.ev hpx;obtain⟨v2,h4,_,h6⟩:=hr.env.ev hpy;obtain rfl:=Rep.int h6;simp[Rep] at h3;obtain⟨g1,g2,g3,g4,ad,cap,rfl,g5,g6,g7⟩:=h3;obtain rfl:=g5.resolve_left (by omega);obtain⟨by_,hT,_,_⟩:=Cj (hp.tt t) (Ew hs);obtain⟨hu,i0,z,hi0,hz,hsz,_⟩:=hT;have helsz:(Sx.elSz cx.P t == some (csz c))=true:=by simp[Sx.elSz,hu,Sx.tySz,hi0,hsz]
    rw[ho];refine⟨_,Sx.p_ia helsz h1 h4 (by omega),?_⟩;simp[Rep];exact⟨g1,by rw[<-Nat.add_mul,show s0.toNat+i.toNat=(s0+i).toNat by omega],by omega⟩
   ·cases h
  ·cases h
 ·
  rename_i t x y ho;split at h
  ·rename_i l k i hpx hpy;split at h
   ·rename_i hs;obtain⟨hc,hk⟩:=A1 h;refine⟨_,hk,Bh λs m a as_ w hx _ hr =>?_⟩;rw[Au,<-hx _ x (by simp[ho,Op.operands])] at hpx;rw[Au,<-hx _ y (by simp[ho,Op.operands])] at hpy;obtain⟨v1,h1,_,h3⟩:=hr.env.ev hpx;obtain⟨v2,h4,_,h6⟩:=hr.env.ev hpy;obtain rfl:=Rep.int h6;obtain rfl:=Rep.str h3;rw[ho];exact⟨_,Sx.p_index (Gf (hp.tt t) (Fv hs)) h1 h4 (Mg hc),Cu (Bsn _ _)⟩
   ·cases h
  ·rename_i ds k i hpx hpy;split at h
   ·rename_i n c hty;split at h
    ·rename_i xs hxs;obtain⟨hb,hk⟩:=A1 h;have hb:=Mg hb;refine⟨_,hk,λs m a as_ w hx _ hr =>?_⟩;rw[Au,<-hx _ x (by simp[ho,Op.operands])] at hpx;rw[Au,<-hx _ y (by simp[ho,Op.operands])] at hpy;obtain⟨v1,_,h2,h3⟩:=hr.env.ev hpx;obtain⟨v2,_,h5,h6⟩:=hr.env.ev hpy;obtain rfl:=Rep.int h6;simp[Rep] at h3;obtain⟨_,vs,rfl,hreps⟩:=h3;obtain⟨hu,hsz,hsm,hag⟩:=Ra (hp.tt t) hty;obtain⟨hlen,hget⟩:=Axw hxs;have hdec:=hget _ _ (Aaf (by rw[hlen];exact hb));obtain⟨g1,g2⟩:=A8b (P1 hdec ((F5 hreps).sub (i.toNat*csz c) (csz c)).reps);cases ha:agg? c with
     |true =>refine⟨_,?_,g1 ha⟩;have hia:(isAgg (cx.el c)).run cx.P w = .ok true w:=Sx.run_isAgg (by simp[hsm,hag,ha]) w;simp only[execOp,ho,h2,h5,Instr.index,asIntOf,Sem.run_bind,Sem.run_pure,Result.andThen_ok,run_underlying hu,if_pos hb,Sx.run_sizeOf hsz,Go.part,hia,if_true];congr 3;apply Array.ext';simp[List.take_drop]
     |false =>
      obtain⟨v,hv,hrep⟩:=g2 ha;refine⟨v,?_,hrep⟩;have hia:(isAgg (cx.el c)).run cx.P w = .ok false w:=Sx.run_isAgg (by simp[hsm,hag,ha]) w;have h1:csz c=1:=by cases c<;>simp[agg?] at ha<;>rfl
      have hv':vs.toArray[i.toNat*csz c]? = some v:=by have:=congrArg (·[0]?) hv;rw[h1] at this ⊢;simpa[List.getElem?_take,List.getElem?_drop] using this
      simp only[execOp,ho,h2,h5,Instr.index,asIntOf,Sem.run_bind,Sem.run_pure,Result.andThen_ok,run_underlying hu,if_pos hb,Sx.run_sizeOf hsz,Go.part,hia,Zj2,if_false,hv']
    ·cases h
   ·cases h
  ·cases h
 ·
  rename_i t x y ho;split at h
  ·rename_i l i hpx hpy hty;refine⟨_,h,λs m a as_ w hx _ hr =>?_⟩;rw[Au,<-hx _ x (by simp[ho,Op.operands])] at hpx;rw[Au,<-hx _ y (by simp[ho,Op.operands])] at hpy;obtain⟨v1,_,h2,h3⟩:=hr.env.ev hpx;obtain⟨v2,_,h5,h6⟩:=hr.env.ev hpy;obtain rfl:=Rep.int h6;simp only[Rep] at h3;obtain⟨r,es,clk,rfl,h7,h8⟩:=h3;obtain⟨kt,e,inf,hu,huk,hi,hz⟩:=Bj0 (hp.tt t) hty;have hzv:(zeroValue e).run cx.P w = .ok (Sx.S []) w:=by simp[zeroValue,typeInfo,go_sem,hi,hz]
   have hik:MapKept.IsKey (.int .i64) (.int .i64 i):=by simp[MapKept.IsKey]
   obtain⟨hlen,hf⟩:=h8 i;refine⟨Sx.S (Tt l i),?_,Jx hlen⟩;have hrun:(Instr.lookup t (.map (some r)) (.int .i64 i) false).run cx.P w = .ok (Sx.S (Tt l i)) w:=by
    rcases hf with ⟨hf,hm⟩|⟨j,hf⟩
    ·rw[hm];simp[Instr.lookup,run_underlying hu,MapKept.run_getObj_map (h7 w (Chg.refl _ _)),MapKept.run_checkKey huk hik,MapKept.run_findKey huk hf,hzv,Result.andThen]
    ·simp[Instr.lookup,run_underlying hu,MapKept.run_getObj_map (h7 w (Chg.refl _ _)),MapKept.run_checkKey huk hik,MapKept.run_findKey huk hf,Result.andThen,Sx.S]
   simp[execOp,ho,h2,h5,Sem.run_bind,hrun,Result.andThen_ok,Sem.run_pure]
  ·cases h
 ·
  rename_i x i ho;split at h
  ·rename_i ds hpx;split at h
   ·rename_i d hd;refine⟨d,h,Bh λs m a as_ w hx _ hr =>?_⟩;rw[Au,<-hx _ x (by simp[ho,Op.operands])] at hpx;obtain⟨v1,h1,_,h3⟩:=hr.env.ev hpx;obtain⟨vs,rfl,hreps⟩:=Rep.tup h3;obtain⟨v,hv,hrep⟩:=hreps.get hd;rw[ho];exact⟨v,Sx.p_extract h1 (by rw[Sx.nth_eq];exact hv),hrep⟩
   ·cases h
  ·cases h
 ·
  rename_i f cs ho;split at h
  ·rename_i ds hds;refine⟨_,h,λs m a as_ w hx _ hr =>?_⟩;obtain⟨vs,_,h2,h3⟩:=Ju hr.env hds (λu q hq=>by rw[Au];exact hx u q (by simp[ho,Op.operands,hq]));refine⟨.func (.func f) #[] vs.toArray,?_,by simp only[Rep];exact⟨vs,rfl,h3⟩⟩;have e2:(Array.mk cs).map a.eval=vs.toArray:=by apply Array.ext';simpa using h2
   have e3:(Array.mk ([]:List Operand)).map a.eval = #[]:=by apply Array.ext';simp
   simp[execOp,ho,Instr.makeFunc,Sem.run_bind,Sem.run_pure,Result.andThen_ok,e2,e3]
  ·cases h
 ·
  rename_i f c cs ho;split at h
  ·rename_i ds hds;refine⟨_,h,λs m a as_ w hx _ hr =>?_⟩;obtain⟨vs,_,h2,h3⟩:=Ju hr.env hds (λu q hq=>by rw[Au];exact hx u q (by rw[ho];simpa[Op.operands] using hq));refine⟨.func (.func f) vs.toArray #[],?_,by simp only[Rep];exact⟨vs,rfl,h3⟩⟩;have e2:(Array.mk (c::cs)).map a.eval=vs.toArray:=by apply Array.ext';simpa using h2
   have e3:(Array.mk ([]:List Operand)).map a.eval = #[]:=by apply Array.ext';simp
   simp[execOp,ho,Instr.makeFunc,Sem.run_bind,Sem.run_pure,Result.andThen_ok,e2,e3]
  ·cases h
 ·
  rename_i b xs ts ho;split at h
  ·rename_i ds hds;split at h
   ·rename_i d hd;refine⟨d,h,Bh λs m a as_ w hx _ hr =>?_⟩;obtain⟨vs,h1,_,h3⟩:=Ju hr.env hds (λu q hq=>by rw[Au];exact hx u q (by rw[ho];simpa[Op.operands,Call.operands] using hq));rw[ho];have:=Aty (P:=cx.P) (vx:=vx cx m s w) (hp.tt _) hd h1 h3 (hts b xs ts ho);simpa using this
   ·cases h
  ·cases h
 ·cases h
end
end Go.Ax
namespace Go.Sx
open Go.RowKit
def YI(P:Program)(ops:Array Oper)(I:World->Prop)(o:Oper)(v:Value)(a:Act):Prop :=(Region.wanted o (yielded ops a.tmps)=true/\∀w,I w->(∃w',(execOp a.eval o).run P w = .ok (.value v) w'/\I w')\/(∃f args w',(execOp a.eval o).run P w = .ok (.enter f args) w'/\Calls P f args w' λen w''=>en = .returned v/\I w''))\/(Region.wanted o (yielded ops a.tmps)=false/\v=undef)
section
variable {P:Program}{ops:Array Oper}{I:World->Prop}
def Bsy(P:Program)(ops:Array Oper)(I:World->Prop)(K:Act->Prop):List Oper->Act->Prop
 |[],a=>K a
 |o::r,a=>∃v,YI P ops I o v a/\Bsy P ops I K r (a.put o.dst v)
theorem getD_two{listed:Array Bool}{i:Nat}(hi:i<listed.size):listed.getD i false=listed.getD i true:=by simp[hi]
end
structure T (cx:Cx) (ops:Array Oper) (l:List Oper) (k:List KI) (e:Env) (L:Loc) (F:World->Prop) (Q:Exit->Act->World->Prop):Prop where
 run:∀a,EnvOk cx.n e a->Bsy cx.P ops (StOk cx L F) (λa'=>∀w,StOk cx L F w->E4 cx.P Q k .normal a' w) l a
section
variable {cx:Cx}{k:List KI}{e:Env}{L:Loc}{F:World->Prop}{Q:Exit->Act->World->Prop}{ops:Array Oper}{rest:List Oper}
end
end Go.Sx
namespace Go.Ax
open Go.RowKit
def Afq(P:Program)(a:Act)(w:World)(o:Oper)(K:Act->World->Prop):Prop :=
 (∃v w',(execOp a.eval o).run P w = .ok (.value v) w'/\K (a.put o.dst v) w')\/(∃w',(execOp a.eval o).run P w = .ok .skip w'/\K (a.put o.dst undef) w') \/
 ∃f args w1,(execOp a.eval o).run P w = .ok (.enter f args) w1/\Calls P f args w1 λen w'=>∃v,en = .returned v/\K (a.put o.dst v) w'
theorem Afq.wp{P:Program}{a:Act}{w:World}{o:Oper}{K:Act->World->Prop}{Q:Exit->Act->World->Prop}(h:Afq P a w o K):o.wp P a w K Q:=by
 unfold Oper.wp;rcases h with ⟨v,w',h,hk⟩|⟨w',h,hk⟩|⟨f,args,w1,h,hk⟩
 ·rw[h];exact hk
 ·rw[h];exact hk
 ·rw[h];simp[Oper.upon];refine hk.mono ?_;rintro en w' ⟨v,rfl,hk⟩;exact hk
theorem Afq.mono{P:Program}{a:Act}{w:World}{o:Oper}{K K':Act->World->Prop}(h:Afq P a w o K)(hk:∀a w,K a w->K' a w):Afq P a w o K':=by
 rcases h with ⟨v,w',h,h1⟩|⟨w',h,h1⟩|⟨f,args,w1,h,h1⟩
 ·exact .inl ⟨v,w',h,hk _ _ h1⟩
 ·exact .inr (.inl ⟨w',h,hk _ _ h1⟩)
 ·refine .inr (.inr ⟨f,args,w1,h,h1.mono ?_⟩);rintro en w' ⟨v,e,h2⟩;exact⟨v,e,hk _ _ h2⟩
def Ahc(P:Program)(a:Act)(w:World)(o:Oper)(K:Act->World->Prop):Prop :=Afq P a w o K\/∃d w',(execOp a.eval o).run P w = .ok (.defer d) w'/\K ({ a with defers:=d::a.defers }.put o.dst undef) w'
theorem Ahc.wp{P:Program}{a:Act}{w:World}{o:Oper}{K:Act->World->Prop}{Q:Exit->Act->World->Prop}(h:Ahc P a w o K):o.wp P a w K Q:=by
 rcases h with h|⟨d,w',h,hk⟩
 ·exact h.wp
 ·unfold Oper.wp;rw[h];exact hk
theorem Ahc.mono{P:Program}{a:Act}{w:World}{o:Oper}{K K':Act->World->Prop}(h:Ahc P a w o K)(hk:∀a w,K a w->K' a w):Ahc P a w o K' :=h.imp (λh=>h.mono hk) λ⟨d,w',h1,h2⟩=>⟨d,w',h1,hk _ _ h2⟩
def Bcy(P:Program)(ops:Array Oper)(o:Oper)(a:Act)(w:World)(K:Act->World->Prop):Prop :=(Region.wanted o (yielded ops a.tmps)=true/\Afq P a w o K)\/(Region.wanted o (yielded ops a.tmps)=false/\K (a.put o.dst undef) w)
theorem Bcy.wpOp{P:Program}{ops:Array Oper}{o:Oper}{a:Act}{w:World}{K:Act->World->Prop}{Q:Exit->Act->World->Prop}{i:Nat}(hi:ops[i]? = some o)(h:Bcy P ops o a w K):wpOp P ops Q i K a w:=by
 unfold Go.wpOp;simp[hi];rcases h with ⟨h1,h2⟩|⟨h1,h2⟩
 ·simp[h1];exact .inl h2.wp
 ·grind
theorem Bcy.mono{P:Program}{ops:Array Oper}{o:Oper}{a:Act}{w:World}{K K':Act->World->Prop}(h:Bcy P ops o a w K)(hk:∀a w,K a w->K' a w):Bcy P ops o a w K' :=h.imp (λh=>⟨h.1,h.2.mono hk⟩) (λh=>⟨h.1,hk _ _ h.2⟩)
def isW(o:Oper):Bool:=match o.op with|.store _ _ _|.alloc _|.box _ _|.makeSlice _ _ _=>true|.call ⟨.builtin .append,_,_⟩=>true|.call ⟨.builtin .copy,_,_⟩=>true|.call ⟨.value (.func f),_,_⟩ => !Af0 f|.call ⟨.value _,_,_⟩=>true|_=>false
def C0(s t:FS):Prop:=s.bl=t.bl/\s.nb=t.nb/\s.al=t.al/\s.nt=t.nt
def A2(o:Oper)(t s:FS):FS:={ s with
 env:=match o.dst with|some k=>λj=>if j=k then t.env k else s.env j|none=>s.env
 bl:=if isW o then t.bl else s.bl
 nb:=if isW o then t.nb else s.nb
 al:=if isW o then t.al else s.al
 nt:=if isW o then t.nt else s.nt }
theorem FS.eq{x y:FS}(h1:x.n=y.n)(h2:x.env=y.env)(h3:x.lb=y.lb)(h4:x.lt=y.lt)(h5:x.fr=y.fr)(h6:x.bl=y.bl)(h7:x.nb=y.nb)(h8:x.al=y.al)(h9:x.nt=y.nt)(h10:x.df=y.df:=by rfl):x=y:=by cases x;cases y;simp only at h1 h2 h3 h4 h5 h6 h7 h8 h9 h10;subst_vars;rfl
def Ea(a c:FS)(b:Nat):Prop:=(∀k,a.bl b=some k->c.bl b=some k)/\∀k,c.bl b=some k->b<a.nb->a.bl b=some k
theorem Ea.of_bl{a c:FS}(h:c.bl=a.bl)(b:Nat):Ea a c b:=⟨λk hk=>by rw[h];exact hk,λk hk _=>by rw[<-h];exact hk⟩
theorem A2a{o p:Oper}{t u s:FS}(hd:∀k,o.dst=some k->p.dst≠some k)(hw:¬(isW o=true/\isW p=true)):A2 o t (A2 p u s)=A2 p u (A2 o t s):=by
 have he:(A2 o t (A2 p u s)).env=(A2 p u (A2 o t s)).env:=by
  funext j;simp[A2];cases ho:o.dst with
  |none=>rfl
  |some k =>cases hp:p.dst with|none=>rfl|some q=>grind
 cases ho:isW o<;>cases hp:isW p
 ·exact FS.eq rfl he rfl rfl rfl (by simp[A2,hp]) (by simp[A2,hp]) (by simp[A2,hp]) (by simp[A2,hp])
 ·exact FS.eq rfl he rfl rfl rfl (by simp[A2,ho]) (by simp[A2,ho]) (by simp[A2,ho]) (by simp[A2,ho])
 ·exact FS.eq rfl he rfl rfl rfl (by simp[A2,hp]) (by simp[A2,hp]) (by simp[A2,hp]) (by simp[A2,hp])
 ·grind
section
variable (ops:Array Oper) (s:Nat->FS)
def Fd(S:Nat->Bool):Nat->FS
 |0=>s 0
 |t+1=>match ops[t]? with|some o=>if S t then A2 o (s (t+1)) (Fd S t) else Fd S t|none=>Fd S t
def I8:Prop:=∀i o,ops[i]? = some o->s (i+1)=A2 o (s (i+1)) (s i)
variable {ops s}
theorem Ao7(hc:I8 ops s){i:Nat}{o:Oper}(ho:ops[i]? = some o){k:Nat}(hk:o.dst≠some k):(s (i+1)).env k=(s i).env k:=by have:=congrArg (λt=>t.env k) (hc i o ho);simp[A2] at this;cases hd:o.dst with|none=>simpa[hd] using this|some d=>grind
theorem Asm(hc:I8 ops s){i:Nat}{o:Oper}(ho:ops[i]? = some o)(hw:isW o=false):C0 (s (i+1)) (s i):=by
 have h:=hc i o ho;refine⟨?_,?_,?_,?_⟩
 ·have:=congrArg FS.bl h;simpa[A2,hw] using this
 ·have:=congrArg FS.nb h;simpa[A2,hw] using this
 ·have:=congrArg FS.al h;simpa[A2,hw] using this
 ·have:=congrArg FS.nt h;simpa[A2,hw] using this
theorem Bi9(hc:I8 ops s){S:Nat->Bool}{k i:Nat}:∀t,t<=ops.size->(∀j o,ops[j]? = some o->j<t->o.dst=some k->(S j=true↔j<i))->(Fd ops s S t).env k=(s (min t i)).env k
 |0,_,_=>by simp[Fd]
 |t+1,ht,h=>by
  have ih:=Bi9 hc t (by omega) (λj o ho hj hd=>h j o ho (by omega) hd);obtain⟨o,ho⟩:∃o,ops[t]? = some o:=⟨_,Zk2 (by omega)⟩;simp[Fd,ho];by_cases hd:o.dst=some k
  ·by_cases hS:S t=true
   ·have hti:=(h t o ho (by omega) hd).1 hS;rw[if_pos hS,show min (t+1) i=t+1 by omega];simp[A2,hd]
   ·grind
  ·have hsame:(s (min (t+1) i)).env k=(s (min t i)).env k:=by
    by_cases hti:t<i
    ·rw[show min (t+1) i=t+1 by omega,show min t i=t by omega];exact Ao7 hc ho hd
    ·grind
   by_cases hS:S t=true
   ·rw[if_pos hS,hsame,<-ih];simp[A2];cases hd':o.dst with|none=>rfl|some d=>grind
   ·rw[if_neg hS,hsame,ih]
theorem C0.trans{a b c:FS}(h:C0 a b)(k:C0 b c):C0 a c:=⟨h.1.trans k.1,h.2.1.trans k.2.1,h.2.2.1.trans k.2.2.1,h.2.2.2.trans k.2.2.2⟩
theorem C0.symm{a b:FS}(h:C0 a b):C0 b a:=⟨h.1.symm,h.2.1.symm,h.2.2.1.symm,h.2.2.2.symm⟩
theorem Btd(hc:I8 ops s){S:Nat->Bool}{i:Nat}:∀t,t<=ops.size->(∀j o,ops[j]? = some o->j<t->isW o=true->(S j=true↔j<i))->C0 (Fd ops s S t) (s (min t i))
 |0,_,_=>by simp[Fd,C0]
 |t+1,ht,h=>by
  have ih:=Btd hc t (by omega) (λj o ho hj hd=>h j o ho (by omega) hd);obtain⟨o,ho⟩:∃o,ops[t]? = some o:=⟨_,Zk2 (by omega)⟩;simp[Fd,ho];by_cases hd:isW o=true
  ·have h1:=h t o ho (by omega) hd;by_cases hS:S t=true
   ·have hti:=h1.1 hS;rw[if_pos hS,show min (t+1) i=t+1 by omega];simp[A2,hd,C0]
   ·have hti:¬t<i:=λh2=>hS (h1.2 h2);rw[if_neg hS,show min (t+1) i=min t i by omega];exact ih
  ·have hd:isW o=false:=by simpa using hd
   have hsame:C0 (s (min t i)) (s (min (t+1) i)):=by
    by_cases hti:t<i
    ·rw[show min (t+1) i=t+1 by omega,show min t i=t by omega];exact(Asm hc ho hd).symm
    ·rw[show min (t+1) i=min t i by omega];exact⟨rfl,rfl,rfl,rfl⟩
   by_cases hS:S t=true
   ·rw[if_pos hS];refine C0.trans ?_ (ih.trans hsame);simp[A2,hd,C0]
   ·rw[if_neg hS];exact ih.trans hsame
theorem Bql(hc:I8 ops s){S:Nat->Bool}(hww:∀p q op oq,ops[p]? = some op->ops[q]? = some oq->p<q->isW op=true->isW oq=true->S q=true->S p=true):∀t,t<=ops.size->∃p,p<=t/\C0 (Fd ops s S t) (s p)/\∀q o,ops[q]? = some o->isW o=true->(q<p->S q=true)/\(p<=q->q<t->S q=false)
 |0,_=>⟨0,Zn1 _,⟨rfl,rfl,rfl,rfl⟩,λq o _ _=>⟨λh=>absurd h (Zm1 _),λ_ h=>absurd h (Zm1 _)⟩⟩
 |t+1,ht=>by
  obtain⟨p,hp,hs,hq⟩:=Bql hc hww t (by omega);obtain⟨o,ho⟩:∃o,ops[t]? = some o:=⟨_,Zk2 (by omega)⟩;simp[Fd,ho];cases hw:isW o with
  |true =>
   cases hS:S t with
   |true =>
    refine⟨t+1,Zn1 _,by simp[A2,hw,C0],λq oq hoq hwq=>⟨λhlt =>?_,λh1 h2=>by omega⟩⟩;by_cases hqt:q=t
    ·subst hqt;exact hS
    ·exact hww q t oq o hoq ho (by omega) hwq hw hS
   |false =>
    refine⟨p,by omega,by simpa using hs,λq oq hoq hwq=>⟨(hq q oq hoq hwq).1,λh1 h2 =>?_⟩⟩;by_cases hqt:q=t
    ·subst hqt;exact hS
    ·exact(hq q oq hoq hwq).2 h1 (by omega)
  |false =>
   have hsame:C0 (if S t=true then A2 o (s (t+1)) (Fd ops s S t) else Fd ops s S t) (s p):=by
    split
    ·exact C0.trans (by simp[A2,hw,C0]) hs
    ·exact hs
   refine⟨p,by omega,hsame,λq oq hoq hwq=>⟨(hq q oq hoq hwq).1,λh1 h2 =>?_⟩⟩;by_cases hqt:q=t
   ·subst hqt;rw[ho] at hoq;simp at hoq;subst hoq;rw[hw] at hwq;cases hwq
   ·exact(hq q oq hoq hwq).2 h1 (by omega)
theorem A6a(hc:I8 ops s)(hm:∀i o,ops[i]? = some o->(s i).nb<=(s (i+1)).nb){p:Nat}:∀d,p+d<=ops.size->(s p).nb<=(s (p+d)).nb
 |0,_=>Zn1 _
 |d+1,h=>by obtain⟨o,ho⟩:∃o,ops[p+d]? = some o:=⟨_,Zk2 (by omega)⟩;exact Nat.le_trans (A6a hc hm d (by omega)) (hm _ o ho)
theorem Bok(hc:I8 ops s)(hm:∀i o,ops[i]? = some o->(s i).nb<=(s (i+1)).nb){S:Nat->Bool}(hww:∀p q op oq,ops[p]? = some op->ops[q]? = some oq->p<q->isW op=true->isW oq=true->S q=true->S p=true){N j b:Nat}(hN:N<=ops.size)(hjN:j<=N)
  (hk:∀q o,ops[q]? = some o->isW o=true->((q<j/\S q=false)\/(j<=q/\q<N/\S q=true))->Ea (s q) (s (q+1)) b):∀k,(s j).bl b=some k->b<(Fd ops s S N).nb->(Fd ops s S N).bl b=some k:=by
 obtain⟨p,hp,hs,hq⟩:=Bql hc hww N hN;rw[hs.1,hs.2.1];intro k hk0 hlt;rcases Nat.le_total p j with hpj|hjp
 ·have down:∀d,p+d<=j->(s (p+d)).bl b=some k->(s p).bl b=some k:=by
   intro d;induction d with
   |zero=>intro _ h;exact h
   |succ d ih =>intro hd h;obtain⟨o,ho⟩:∃o,ops[p+d]? = some o:=⟨_,Zk2 (by omega)⟩;refine ih (by omega) ?_;cases hw:isW o with|true=>exact(hk (p+d) o ho hw (.inl ⟨by omega,(hq _ _ ho hw).2 (by omega) (by omega)⟩)).2 k h (Zx1 hlt (A6a hc hm d (by omega)))|false=>rw[<-(Asm hc ho hw).1];exact h
  exact down (j-p) (by omega) (by rw[show p+(j-p)=j by omega];exact hk0)
 ·have up:∀d,j+d<=p->(s (j+d)).bl b=some k:=by
   intro d;induction d with
   |zero=>intro _;exact hk0
   |succ d ih =>intro hd;obtain⟨o,ho⟩:∃o,ops[j+d]? = some o:=⟨_,Zk2 (by omega)⟩;have h:=ih (by omega);cases hw:isW o with|true=>exact(hk (j+d) o ho hw (.inr ⟨by omega,by omega,(hq _ _ ho hw).1 (by omega)⟩)).1 k h|false =>show(s (j+d+1)).bl b=some k;rw[(Asm hc ho hw).1];exact h
  have:=up (p-j) (by omega);rwa[show j+(p-j)=p by omega] at this
theorem Adn(hc:I8 ops s){k:Nat}{hi lo:Nat}(h:Beg ops k lo hi=true):∀d,lo+d<=hi->hi<=ops.size->(s (lo+d)).env k=(s lo).env k
 |0,_,_=>rfl
 |d+1,h1,h2=>by obtain⟨o,ho⟩:∃o,ops[lo+d]? = some o:=⟨_,Zk2 (by omega)⟩;refine(Ao7 hc ho (λhe =>?_)).trans (Adn hc h d (by omega) h2);have h3:=Zg2.1 h (lo+d) (List.mem_range.2 (by omega));simp[ho,he] at h3;omega
theorem Bj5{S:Nat->Bool}{i:Nat}{oi:Oper}(hi:ops[i]? = some oi)(hS:S i=false)(hind:∀j o,ops[j]? = some o->i<j->S j=true->(∀k,o.dst=some k->oi.dst≠some k)/\¬(isW o=true/\isW oi=true)):∀t,t<=ops.size->Fd ops s (λj=>if j=i then true else S j) t=if i<t then A2 oi (s (i+1)) (Fd ops s S t) else Fd ops s S t
 |0,_=>by simp[Fd]
 |t+1,ht=>by
  obtain⟨o,ho⟩:∃o,ops[t]? = some o:=⟨_,Zk2 (by omega)⟩;simp only[Fd,ho,(Bj5 hi hS hind t (by omega))];by_cases hti:t=i
  ·subst hti;rw[hi] at ho;simp only[Za1] at ho;subst ho;simp[hS]
  ·simp only[if_neg hti];by_cases hlt:i<t
   ·have hlt':i<t+1:=by omega
    simp only[hlt,hlt'];by_cases hSt:S t=true
    ·simp only[hSt];obtain⟨h1,h2⟩:=hind t o ho hlt hSt;exact A2a h1 h2
    ·simp only[hSt,Zj2,if_false]
   ·have hlt':¬i<t+1:=by omega
    simp only[hlt,hlt',if_false]
theorem Adj(ops:Array Oper):∀n,Fg ops n<=n
 |0=>Zn1 _
 |n+1=>by have:=Adj ops n;simp[Fg];split<;>omega
theorem Hi{ops:Array Oper}:∀(n j:Nat) (oj:Oper),Fg ops n<=j->j<n->ops[j]? = some oj->∀q,q<j->Fh ops 12 oj q=true
 |0,_,_,_,h,_=>absurd h (Zm1 _)
 |n+1,j,oj,h1,h2,ho=>by
  intro q hq;simp[Fg] at h1;split at h1
  ·rename_i hb;by_cases hj:j=n
   ·subst hj;simp only[Bqm,ho] at hb;exact Zg2.1 hb q (List.mem_range.2 hq)
   ·exact Hi n j oj h1 (by omega) ho q hq
  ·omega
theorem Dk{ops:Array Oper}{listed:Array Bool}(hcl:∀j o,ops[j]? = some o->listed.getD j true=true->∀e∈o.after,Region.binds .any e=true->listed.getD e.on true=true):∀(n:Nat) (o:Oper) (i:Nat),(∀e∈o.after,Region.binds .any e=true->listed.getD e.on true=true)->Fh ops n o i=true->listed.getD i true=true
 |0,_,_,_,h=>by simp[Fh] at h
 |n+1,o,i,ho,h=>by
  simp only[Fh] at h;obtain⟨e,he,h3⟩:=Array.any_eq_true'.1 h;simp only[Zb1,Zd2] at h3;have hl:=ho e he h3.1.1;rcases h3.2 with h4|h4
  ·rw[<-Zl1 h4];exact hl
  ·split at h4
   ·rename_i p hp;exact Dk hcl n p i (hcl _ _ hp hl) h4
   ·cases h4
def A43(ops:Array Oper):Bool:=(List.range ops.size).all λj=>match ops[j]? with
 |none=>true
 |some oj=>oj.after.all (λe => !Region.binds .any e||Nat.blt e.on j)&&(!Nat.blt j (F1 ops)||(List.range j).all λi=>match ops[i]? with
  |none=>true
  |some oi=>Fh ops 12 oj i||(oi.apart ops oj && !(isW oi&&isW oj)))
theorem Fs(h:A43 ops=true){j:Nat}{oj:Oper}(hj:ops[j]? = some oj):(∀e∈oj.after,Region.binds .any e=true->e.on<j)/\(j<F1 ops->∀i oi,i<j->ops[i]? = some oi->Fh ops 12 oj i=true\/(oi.apart ops oj=true/\¬(isW oi=true/\isW oj=true))):=by
 have hlt:j<ops.size:=(Zh2.1 hj).1;simp[A43,List.mem_range] at h;have h1:=h j hlt;rw[hj] at h1;simp only[Zb1,Zd2,Zg2,List.mem_range] at h1;refine⟨λe he hb =>?_,λhjd i oi hij hi =>?_⟩
 ·have:=Array.all_eq_true_iff_forall_mem.1 h1.1 e he;simpa[hb] using this
 ·have h2:=h1.2.resolve_left (λq=>by
   have:Nat.blt j (F1 ops)=true:=by rw[Nat.blt_eq];exact hjd
   rw[this] at q;cases q)
  have:=h2 i hij;rw[hi] at this;simp[Zd2,Zb1] at this;refine this.imp_right λh=>⟨h.1,λe =>?_⟩;rcases h.2 with q|q
  ·rw[e.1] at q;cases q
  ·rw[e.2] at q;cases q
def OkW(o:Oper)(s0 s:FS):Prop:=(isW o=true->C0 s s0)/\(Aw4 o.op=true->Agr o s0.env s0.bl s)
def Bls(cx:Cx)(ops:Array Oper)(o:Oper)(s0 s1:FS):Prop :=∀(s:FS) (m:Mp) (a:Act) (as_:List Act) (w:World),(∀k,k∈o.looksAt ops->s.env k=s0.env k)->OkW o s0 s->s.n=s0.n->Rel cx m a as_ s w->Bcy cx.P ops o a w λa' w'=>∃m',Rel cx m' a' as_ (A2 o s1 s) w'
theorem Bri(hc:I8 ops s)(S:Nat->Bool):∀t,t<=ops.size->(Fd ops s S t).n=(s 0).n
 |0,_=>rfl
 |t+1,ht=>by
  obtain⟨o,ho⟩:∃o,ops[t]? = some o:=⟨_,Zk2 (by omega)⟩;simp[Fd,ho];split
  ·exact Bri hc S t (by omega)
  ·exact Bri hc S t (by omega)
theorem A5c(hc:I8 ops s):∀t,t<=ops.size->(s t).n=(s 0).n
 |0,_=>rfl
 |t+1,ht=>by obtain⟨o,ho⟩:∃o,ops[t]? = some o:=⟨_,Zk2 (by omega)⟩;have:=congrArg FS.n (hc t o ho);rw[this];exact A5c hc t (by omega)
theorem Bfq(hc:I8 ops s):∀t,t<=ops.size->Fd ops s (λ_=>true) t=s t
 |0,_=>rfl
 |t+1,ht=>by obtain⟨o,ho⟩:∃o,ops[t]? = some o:=⟨_,Zk2 (by omega)⟩;simp[Fd,ho,if_true,Bfq hc t (by omega)];exact(hc t o ho).symm
theorem Aag{S T:Nat->Bool}:∀t,t<=ops.size->(∀j,j<t->S j=T j)->Fd ops s S t=Fd ops s T t
 |0,_,_=>rfl
 |t+1,ht,h=>by simp only[Fd,Aag t (by omega) (λj hj=>h j (by omega)),h t (by omega)]
theorem A05(o:Oper)(t:FS):A2 o t t=t:=by
 refine FS.eq rfl ?_ rfl rfl rfl (by simp[A2]) (by simp[A2]) (by simp[A2]) (by simp[A2]);funext j;simp[A2];cases o.dst with
 |none=>rfl
 |some k =>
  simp only;split
  ·rename_i h;rw[h]
  ·rfl
theorem Bgo{n:Nat}{listed:Array Bool}(hsz:listed.size=n){j:Nat}(hj:j<n)(hj0:listed.getD j true=false):((List.range n).filter λi => !(listed.setIfInBounds j true).getD i true).length+1<=((List.range n).filter λi => !listed.getD i true).length:=by
 have heq:((List.range n).filter λi => !(listed.setIfInBounds j true).getD i true)=((List.range n).filter λi => !listed.getD i true).filter λi => !Nat.beq i j:=by
  rw[List.filter_filter];apply List.filter_congr;intro i hi;simp at hi;by_cases hij:i=j
  ·subst hij;simp[hsz,hi]
  ·rw[getD_set_ne true (Ne.symm hij),Fo hij];simp
 rw[heq];have hmem:j∈(List.range n).filter λi => !listed.getD i true:=by simp only[List.mem_filter,List.mem_range,hj0];exact⟨hj,rfl⟩
 have:∀(l:List Nat),j∈l->(l.filter λi => !Nat.beq i j).length+1<=l.length:=by
  intro l;induction l with
  |nil=>intro h;cases h
  |cons x l ihl =>
   intro h;by_cases hx:x=j
   ·subst hx;simp[ Nat.beq_refl,Zt1,if_false];have:=List.length_filter_le (λi => !Nat.beq i x) l;omega
   ·simp[List.mem_cons] at h;have:=ihl (h.resolve_left (Ne.symm hx));simp[ Fo hx,Zs1,if_true];omega
 exact this _ hmem
theorem Axl{P:Program}{Q:Exit->Act->World->Prop}(he:∀j oj,ops[j]? = some oj->∀e∈oj.after,Region.binds .any e=true->e.on<j) :
  ∀(fuel N:Nat) (listed:Array Bool) (a:Act) (w:World),N<=ops.size->(∀j oj,N<=j->ops[j]? = some oj->∀q,q<j->Fh ops 12 oj q=true)->listed.size=ops.size->(∀i,i<ops.size->listed.getD i true=decide (i<N))->((List.range ops.size).filter λj => !listed.getD j true).length<=fuel->wpList P ops Q (ops.toList.drop N) a w->wpAny P .any ops Q fuel listed a w:=by
 intro fuel;have hcl:∀(N:Nat) (listed:Array Bool),(∀i,i<ops.size->listed.getD i true=decide (i<N))->∀j o,ops[j]? = some o->listed.getD j true=true->∀e∈o.after,Region.binds .any e=true->listed.getD e.on true=true:=λN listed hl j o ho hlj e hem hb=>by have hj:=(Zh2.1 ho).1;have hlt:=he j o ho e hem hb;rw[hl j hj,Zg1] at hlj;rw[hl e.on (by omega),Zg1];omega
 have hone:∀(N:Nat) (listed:Array Bool),listed.size=ops.size->(∀j oj,N<=j->ops[j]? = some oj->∀q,q<j->Fh ops 12 oj q=true)->(∀i,i<ops.size->listed.getD i true=decide (i<N))->∀j,j∈Region.ready .any ops listed->j=N:=λN listed hsz ht hl j hj=>by
  obtain⟨h0,o,ho,hall⟩:=mem_ready.1 hj;have hjs:=(Zh2.1 ho).1;rw[hl j hjs,decide_eq_false_iff_not] at h0;rcases Nat.lt_trichotomy N j with h|h|h
  ·have hp:=Dk (hcl N listed hl) 12 o N (λe hem hb=>by have hlt:=he j o ho e hem hb;rw[<-Sx.getD_two (by omega)];exact hall e hem hb) (ht j o (by omega) ho N h)
   rw[hl N (by omega),Zg1] at hp;omega
  ·exact h.symm
  ·omega
 induction fuel with
 |zero =>
  intro N listed a w hN ht hsz hl hlen hK;have hall:∀i,i<ops.size->listed.getD i true=true:=λi hi=>by
   cases hli:listed.getD i true with
   |true=>rfl
   |false =>
    have hmem:i∈(List.range ops.size).filter λj => !listed.getD j true:=by simp only[List.mem_filter,List.mem_range,hli];exact⟨hi,rfl⟩
    have:=List.length_pos_of_mem hmem;omega
  have hNs:N=ops.size:=by
   rcases Nat.lt_or_ge N ops.size with h|h
   ·have h1:=hall N h;rw[hl N h,Zg1] at h1;omega
   ·omega
  refine⟨List.eq_nil_iff_forall_not_mem.2 λj hj =>?_,?_⟩
  ·have:=hone N listed hsz ht hl j hj;obtain⟨_,o,ho,_⟩:=mem_ready.1 hj;have hjs:=(Zh2.1 ho).1;omega
  ·rw[Zk1 (by simp;omega)] at hK;exact hK
 |succ fuel ih =>
  intro N listed a w hN ht hsz hl hlen hK;rcases Nat.lt_or_ge N ops.size with hlt|hge
  ·obtain⟨o,ho⟩:∃o,ops[N]? = some o:=⟨_,Zk2 hlt⟩;have hl0:listed.getD N true=false:=by rw[hl N hlt];simp
   have hin:N∈Region.ready .any ops listed:=mem_ready.2 ⟨hl0,o,ho,λe hem hb=>by have h1:=he N o ho e hem hb;rw[Sx.getD_two (by omega),hl e.on (by omega)];simpa using h1⟩
   refine⟨λh=>(by rw[h] at hin;cases hin),λj hj =>?_⟩;obtain rfl:=hone N listed hsz ht hl j hj;have hd:ops.toList.drop j=o::ops.toList.drop (j+1):=by
    have h1:j<ops.toList.length:=by simpa using hlt
    rw[List.drop_eq_getElem_cons h1];congr 1;have h2:ops[j]? = some ops.toList[j]:=by simp
    rw[ho] at h2;exact(Option.some.inj h2).symm
   have hnext:∀a w,wpList P ops Q (ops.toList.drop (j+1)) a w->wpAny P .any ops Q fuel (listed.setIfInBounds j true) a w:=λa w h=>by
    refine ih (j+1) _ a w (by omega) (λq oq hq hoq=>ht q oq (by omega) hoq) (by simp[hsz]) (λi hi =>?_) ?_ h
    ·by_cases hij:i=j
     ·subst hij;simp[hsz,hi]
     ·rw[getD_set_ne true (Ne.symm hij),hl i hi];exact Zy1.2 (by omega)
    ·have:=Bgo hsz hlt hl0;omega
   rw[hd] at hK;unfold Go.wpOp;simp[ho];simp[wpList] at hK;split
   ·rename_i hw;rw[if_pos hw] at hK;exact hK.imp (λh=>Oper.wp_mono hnext h) id
   ·rename_i hw;rw[if_neg hw] at hK;exact hnext _ _ hK
  ·refine⟨λ_ =>?_,λj hj =>?_⟩
   ·rw[Zk1 (by simp;omega)] at hK;exact hK
   ·have:=hone N listed hsz ht hl j hj;obtain⟨_,o,ho,_⟩:=mem_ready.1 hj;have hjs:=(Zh2.1 ho).1;omega
theorem Atv{cx:Cx}{as_:List Act}{Q:Exit->Act->World->Prop}{N:Nat}(hN:N<=ops.size)(hNd:N=F1 ops)(hd:A43 ops=true)(ht:∀j oj,N<=j->ops[j]? = some oj->∀q,q<N->Fh ops 12 oj q=true)(hc:I8 ops s)(hrun:∀i o,i<N->ops[i]? = some o->Bls cx ops o (s i) (s (i+1)))(hg:∀i o,ops[i]? = some o->(s i).nb<=(s (i+1)).nb)(hkeep:∀i j oi oj,ops[i]? = some oi->ops[j]? = some oj->i<N->j<N->i≠j->isW oi=true->Aw4 oj.op=true->Bf8 ops i j=false->∀b,rdO oj (s j).env b->Ea (s i) (s (i+1)) b)(hK:∀m a w,Rel cx m a as_ (s N) w->∀(fuel:Nat) (listed:Array Bool),listed.size=ops.size->(∀i,i<ops.size->listed.getD i true=decide (i<N))->((List.range ops.size).filter λj => !listed.getD j true).length<=fuel->wpAny cx.P .any ops Q fuel listed a w) :
  ∀(fuel:Nat) (listed:Array Bool) (a:Act) (w:World),listed.size=ops.size->(∀j o,ops[j]? = some o->listed.getD j true=true->∀e∈o.after,Region.binds .any e=true->listed.getD e.on true=true)->((List.range ops.size).filter λj => !listed.getD j true).length<=fuel->(∀q,N<=q->q<ops.size->listed.getD q true=false)->(∃m,Rel cx m a as_ (Fd ops s (λj=>listed.getD j true) N) w)->wpAny cx.P .any ops Q fuel listed a w:=by
 have hedge:∀j oj,ops[j]? = some oj->∀e∈oj.after,Region.binds .any e=true->e.on<j:=λj oj hoj=>(Fs hd hoj).1;have hend:∀(fuel:Nat) (listed:Array Bool) (a:Act) (w:World),listed.size=ops.size->((List.range ops.size).filter λj => !listed.getD j true).length<=fuel->(∀q,N<=q->q<ops.size->listed.getD q true=false)->(∀i,i<N->listed.getD i true=true)->(∃m,Rel cx m a as_ (Fd ops s (λj=>listed.getD j true) N) w)->wpAny cx.P .any ops Q fuel listed a w:=by
  intro fuel listed a w hsz hlen hun hall ⟨m,hm⟩;rw[Aag (T:=λ_=>true) N hN (λj hj=>hall j hj),Bfq hc _ hN] at hm;refine hK m a w hm fuel listed hsz (λi hi =>?_) hlen;by_cases h:i<N
  ·rw[hall i h,Ze1 h]
  ·rw[hun i (by omega) hi,Zd1 h]
 intro fuel;induction fuel with
 |zero =>
  intro listed a w hsz hcl hlen hun hrel;refine hend 0 listed a w hsz hlen hun (λi hi =>?_) hrel;cases hli:listed.getD i true with
  |true=>rfl
  |false =>
   have hmem:i∈(List.range ops.size).filter λj => !listed.getD j true:=by simp only[List.mem_filter,List.mem_range,hli];exact⟨by omega,rfl⟩
   have:=List.length_pos_of_mem hmem;omega
 |succ fuel ih =>
  intro listed a w hsz hcl hlen hun hrel;by_cases hall0:∀i,i<N->listed.getD i true=true
  ·exact hend (fuel+1) listed a w hsz hlen hun hall0 hrel
  refine⟨λhr =>?_,λj hj =>?_⟩
  ·exfalso;have hal:∀i,i<N->listed.getD i true=true:=by
    intro i;induction i using Nat.strongRecOn with
    |_ i ihi =>
     intro hi;cases hl:listed.getD i true with
     |true=>rfl
     |false =>
      exfalso;obtain⟨o,ho⟩:∃o,ops[i]? = some o:=⟨_,Zk2 (by omega)⟩;have:i∈Region.ready .any ops listed:=mem_ready.2 ⟨hl,o,ho,λe he hb=>by have hlt:=hedge i o ho e he hb;rw[Sx.getD_two (by omega)];exact ihi e.on hlt (by omega)⟩
      rw[hr] at this;cases this
   exact hall0 hal
  obtain⟨hj0,oj,hoj,hall⟩:=mem_ready.1 hj;have hjs:j<ops.size:=(Zh2.1 hoj).1;obtain⟨m,hm⟩:=hrel;have hpre:∀e∈oj.after,Region.binds .any e=true->listed.getD e.on true=true:=λe he hb=>by have hlt:=(Fs hd hoj).1 e he hb;rw[<-Sx.getD_two (by omega)];exact hall e he hb
  have hjN:j<N:=by
   rcases Nat.lt_or_ge j N with h|h
   ·exact h
   ·exact absurd (λi hi=>Dk hcl 12 oj i hpre (ht j oj h hoj i hi)) hall0
  have hlN:∀q oq,ops[q]? = some oq->listed.getD q true=true->q<N:=λq oq hq hl=>by
   rcases Nat.lt_or_ge q N with h|h
   ·exact h
   ·rw[hun q h (Zh2.1 hq).1] at hl;cases hl
  have hlow:∀q oq,ops[q]? = some oq->q<j->listed.getD q true=false->Fh ops 12 oj q=false/\oq.apart ops oj=true/\¬(isW oq=true/\isW oj=true):=λq oq hq hqj hl=>by
   rcases(Fs hd hoj).2 (by omega) q oq hqj hq with hp|h
   ·rw[Dk hcl 12 oj q hpre hp] at hl;cases hl
   ·refine⟨?_,h⟩;cases hp:Fh ops 12 oj q with|false=>rfl|true=>rw[Dk hcl 12 oj q hpre hp] at hl;cases hl
  have hhigh:∀q oq,ops[q]? = some oq->j<q->listed.getD q true=true->Fh ops 12 oq j=false/\oj.apart ops oq=true/\¬(isW oj=true/\isW oq=true):=λq oq hq hqj hl=>by
   rcases(Fs hd hq).2 (by rw[<-hNd];exact hlN q oq hq hl) j oj hqj hoj with hp|h
   ·have:=Dk hcl 12 oq j (hcl q oq hq hl) hp;rw[hj0] at this;cases this
   ·refine⟨?_,h⟩;cases hp:Fh ops 12 oq j with|false=>rfl|true =>have:=Dk hcl 12 oq j (hcl q oq hq hl) hp;rw[hj0] at this;cases this
  have henv:∀k,k∈oj.looksAt ops->(Fd ops s (λi=>listed.getD i true) N).env k=(s j).env k:=λk hk=>by
   have:=Bi9 (s:=s) hc (S:=λi=>listed.getD i true) (k:=k) (i:=j) N hN (λq oq hq _ hdq=>by
    rcases Nat.lt_trichotomy q j with hlt|rfl|hgt
    ·refine⟨λ_=>hlt,λ_ =>?_⟩;cases hl:listed.getD q true with|true=>rfl|false=>exact absurd hk ((Oper.apart_spec (hlow q oq hq hlt hl).2.1).1 k hdq)
    ·simp only[hj0];simp
    ·refine⟨λhl =>?_,λh=>by omega⟩;exact absurd hk ((Oper.apart_spec (hhigh q oq hq hgt hl).2.1).2.2 k hdq))
   rwa[show min N j=j by omega] at this
  have hW:isW oj=true->C0 (Fd ops s (λi=>listed.getD i true) N) (s j):=λht=>by
   have:=Btd (s:=s) hc (S:=λi=>listed.getD i true) (i:=j) N hN (λq oq hq _ hwq=>by
    rcases Nat.lt_trichotomy q j with hlt|rfl|hgt
    ·refine⟨λ_=>hlt,λ_ =>?_⟩;cases hl:listed.getD q true with|true=>rfl|false=>exact absurd ⟨hwq,ht⟩ (hlow q oq hq hlt hl).2.2
    ·simp only[hj0];simp
    ·refine⟨λhl =>?_,λh=>by omega⟩;exact absurd ⟨ht,hwq⟩ (hhigh q oq hq hgt hl).2.2)
   rwa[show min N j=j by omega] at this
  have hA:Aw4 oj.op=true->Agr oj (s j).env (s j).bl (Fd ops s (λi=>listed.getD i true) N):=λhm b k hrd=>by
   refine Bok hc hg (λp q op oq hp hq hpq hwp hwq hl =>?_) hN (by omega) (λq oq hq hwq hh =>?_) k
   ·rcases(Fs hd hq).2 (by rw[<-hNd];exact hlN q oq hq hl) p op hpq hp with h|h
    ·exact Dk hcl 12 oq p (hcl q oq hq hl) h
    ·exact absurd ⟨hwp,hwq⟩ h.2
   ·rcases hh with ⟨hlt,hl⟩|⟨hge,hqN,hl⟩
    ·refine hkeep q j oq oj hq hoj (by omega) hjN (by omega) hwq hm ?_ b hrd;have h1:Nat.blt q j=true:=by rw[Nat.blt_eq];exact hlt
     simp[Bf8,h1,hoj];exact(hlow q oq hq hlt hl).1
    ·have hne:q≠j:=λe=>by rw[e,hj0] at hl;cases hl
     refine hkeep q j oq oj hq hoj hqN hjN hne hwq hm ?_ b hrd;have h1:Nat.blt q j=false:=by cases hb:Nat.blt q j with|false=>rfl|true=>rw[Nat.blt_eq] at hb;omega
     simp[Bf8,h1,hq,Fo hne,Bool.false_or];exact(hhigh q oq hq (by omega) hl).1
  refine((hrun j oj hjN hoj _ m a as_ w henv ⟨hW,hA⟩ ((Bri hc _ _ hN).trans (A5c hc j (by omega)).symm) hm).mono λa' w' ⟨m',hm'⟩ =>?_).wpOp hoj;refine ih _ a' w' (by simp[hsz]) ?_ ?_ ?_ ⟨m',?_⟩
  ·intro q oq hq hl e he hb;by_cases hqj:q=j
   ·subst hqj;rw[hoj] at hq;simp at hq;subst hq;have hlt:=(Fs hd hoj).1 e he hb;rw[getD_set_ne true (by omega)];exact hpre e he hb
   ·rw[getD_set_ne true (Ne.symm hqj)] at hl;have:=hcl q oq hq hl e he hb;by_cases hej:e.on=j
    ·rw[hej];simp[hsz,hjs]
    ·rw[getD_set_ne true (Ne.symm hej)];exact this
  ·have:=Bgo hsz hjs hj0;omega
  ·intro q hq1 hq2;rw[getD_set_ne true (by omega)];exact hun q hq1 hq2
  ·have hadd:=Bj5 (s:=s) hoj hj0 (S:=λi=>listed.getD i true) (λq oq hq hgt hl=>by have h:=hhigh q oq hq hgt hl;refine⟨λk hk he=>(Oper.apart_spec h.2.1).2.1 k he hk,λhh=>h.2.2 ⟨hh.2,hh.1⟩⟩) N hN
   rw[if_pos hjN] at hadd;rw[<-hadd] at hm';rw[Aag (T:=λi=>if i=j then true else listed.getD i true) N hN (λi hi=>by
    by_cases hij:i=j
    ·subst hij;simp[hsz]
    ·rw[getD_set_ne true (Ne.symm hij)];simp[hij])]
   exact hm'
end
section
variable {cx:Cx}{m m':Mp}{a:Act}{as_:List Act}{s s':FS}{w w':World}
theorem Rel.step(h:Rel cx m a as_ s w)(hn:s'.n=s.n)(henv:s'.env=s.env)(hlb:s'.lb=s.lb)(hlt:s'.lt=s.lt)(hfr:s'.fr=s.fr)(hch:Chg (Db m s) w w')(nx:Nx (vx cx m s w) (vx cx m' s' w'))
  (blks:∀b k,s'.bl b=some k->b<s'.nb/\Ia (vx cx m' s' w') (m'.bl b) k) (als:∀t,s'.al t->t<s'.nt)
  (inj:∀b b',s'.bl b≠none->s'.bl b'≠none->m'.bl b=m'.bl b'->b=b') (injt:∀t t' g o o',s'.al t->s'.al t'->m'.tk t=some (g,o)->m'.tk t' = some (g,o')->t=t')
  (injbt:∀b t g o,s'.bl b≠none->s'.al t->m'.tk t=some (g,o)->m'.bl b≠g) (own:∀b i,Db m' s' b i->b<w'.heap.size/\(Db m s b i\/w.heap.size<=b)) (hdf:s'.df=s.df:=by rfl):Rel cx m' a as_ s' w':=by
 have hnb:s.nb<=s'.nb:=nx.nb;have hnt:s.nt<=s'.nt:=nx.nt;refine⟨h.chg.later (λk i hi=>(h.own k i hi).2) hch,?_,?_,by rw[hlb];exact Nat.le_trans h.lb hnb,by rw[hlt];exact Nat.le_trans h.lt hnt,blks,als,inj,injt,injbt,λb i hi =>?_,h.away,h.glb.later nx⟩
 ·rw[hn,henv,hdf];exact h.env.later nx
 ·rw[hlb,hlt,hfr];exact h.frs.later nx h.lb h.lt
 ·obtain⟨h1,h2⟩:=own b i hi;refine⟨h1,?_⟩;rcases h2 with h2|h2
  ·exact(h.own b i h2).2
  ·exact .inr (Nat.le_trans h.chg.size h2)
theorem Rel.own_b(h:Rel cx m a as_ s w){b:Nat}(hb:s.bl b≠none):m.bl b<w.heap.size:=(h.own (m.bl b) 0 (.inl ⟨b,hb,rfl⟩)).1
theorem Rel.own_t(h:Rel cx m a as_ s w){t g o:Nat}(ha:s.al t)(ht:m.tk t=some (g,o)):g<w.heap.size:=(h.own g o (.inr ⟨t,o,ha,ht,Zn1 _⟩)).1
theorem Rel.newAtX(h:Rel cx m a as_ s w){k:Blk}{g:Nat}(hch:Chg Cf w w')(hg1:w.heap.size<=g)(hg2:g<w'.heap.size)(hblk:∀x',Nx (vx cx m s w) x'->x'.w=w'->Ia x' g k) :
  ∃m',Rel cx m' a as_ { s with bl:=λb=>if b=s.nb then some k else s.bl b,nb:=s.nb+1 } w'/\Rep (vx cx m' { s with bl:=λb=>if b=s.nb then some k else s.bl b,nb:=s.nb+1 } w') (.ptr s.nb 0) (.pointer (some ⟨g,0,none⟩))/\Nx (vx cx m s w) (vx cx m' { s with bl:=λb=>if b=s.nb then some k else s.bl b,nb:=s.nb+1 } w'):=by
 have hb:∀k,k<w.heap.size->w'.heap[k]? = w.heap[k]? :=λk hk=>hch.block k hk (λ_ h=>h);let m':Mp:={ m with bl:=λb=>if b=s.nb then g else m.bl b };let s':FS:={ s with bl:=λb=>if b=s.nb then some k else s.bl b,nb:=s.nb+1 };have hlt:∀b,s.bl b≠none->b<s.nb:=λb hb=>by cases hs:s.bl b with|none=>exact absurd hs hb|some k=>exact(h.blks b k hs).1
 have fp:∀b i,Db m' s' b i->Db m s b i\/w.heap.size<=b:=by
  rintro b i (⟨q,hq,rfl⟩|⟨t,o,h1,h2,h3⟩)
  ·by_cases hqn:q=s.nb
   ·grind
   ·left;have hq':s.bl q≠none:=by simpa[s',hqn] using hq
    exact .inl ⟨q,hq',by simp[m',hqn]⟩
  ·exact .inl (.inr ⟨t,o,h1,h2,h3⟩)
 have nx:Nx (vx cx m s w) (vx cx m' s' w'):=by
  refine⟨hch.mono (λ_ _ h=>h.elim),?_,rfl,λb hbn =>?_,Nat.le_succ _,Zn1 _,λt _ ha=>⟨ha,rfl,λg o hg=>hb g (h.own_t ha hg)⟩⟩
  ·rintro b i (hM|hf)
   ·exact .inl (.inl hM)
   ·rcases fp b i hf with h|h
    ·exact .inl (.inr h)
    ·exact .inr h
  ·have:b<s.nb:=hbn;simp[vx,m',Nat.ne_of_lt this]
 refine⟨m',h.step rfl rfl rfl rfl rfl (hch.mono (λ_ _ h=>h.elim)) nx ?_ h.als ?_ h.injt ?_ ?_,?_⟩
 ·intro b q hq;by_cases hbn:b=s.nb
  ·subst hbn;have hq':k=q:=by simpa using hq
   subst hq';exact⟨Nat.lt_succ_self _,by simpa[m'] using hblk _ nx rfl⟩
  ·have hq':s.bl b=some q:=by simpa[ hbn] using hq
   obtain⟨h1,h2⟩:=h.blks b q hq';have e1:m'.bl b=m.bl b:=by simp[m',hbn]
   refine⟨Nat.lt_succ_of_lt h1,?_⟩;rw[e1];exact h2.later nx (hb _ (h.own_b (by rw[hq'];simp)))
 ·intro b b' h1 h2 he;by_cases hbn:b=s.nb<;>by_cases hbn':b' = s.nb
  ·rw[hbn,hbn']
  ·exfalso;have h2':s.bl b'≠none:=by simpa[ hbn'] using h2
   have:=h.own_b h2';simp[m',hbn] at he;omega
  ·exfalso;have h1':s.bl b≠none:=by simpa[ hbn] using h1
   have:=h.own_b h1';simp[m',hbn'] at he;omega
  ·refine h.inj b b' (by simpa[ hbn] using h1) (by simpa[ hbn'] using h2) ?_;simpa[m',hbn,hbn'] using he
 ·intro b t g o h1 h2 h3;by_cases hbn:b=s.nb
  ·have:=h.own_t h2 h3;simp[m',hbn];omega
  ·have h1':s.bl b≠none:=by simpa[ hbn] using h1
   have:=h.injbt b t g o h1' h2 h3;simpa[m',hbn] using this
 ·intro b i hf;refine⟨?_,fp b i hf⟩;rcases fp b i hf with hh|hh
  ·exact Zx1 (h.own b i hh).1 hch.size
  ·rcases hf with ⟨q,hq,rfl⟩|⟨t,o,h1,h2,h3⟩
   ·by_cases hqn:q=s.nb
    ·simpa[m',hqn] using hg2
    ·have hq':s.bl q≠none:=by simpa[ hqn] using hq
     have:=h.own_b hq';simp[m',if_neg hqn];omega
   ·exact Zx1 (h.own_t h1 h2) hch.size
 ·refine⟨?_,nx⟩;simp[Rep];exact⟨Nat.lt_succ_self _,by simp[vx,m']⟩
theorem Rel.newAt(h:Rel cx m a as_ s w){k:Blk}{g:Nat}(hch:Chg Cf w w')(hg1:w.heap.size<=g)(hg2:g<w'.heap.size)(hblk:∀x',Nx (vx cx m s w) x'->x'.w=w'->Ia x' g k) :
  ∃m',Rel cx m' a as_ { s with bl:=λb=>if b=s.nb then some k else s.bl b,nb:=s.nb+1 } w'/\Rep (vx cx m' { s with bl:=λb=>if b=s.nb then some k else s.bl b,nb:=s.nb+1 } w') (.ptr s.nb 0) (.pointer (some ⟨g,0,none⟩)) :=
 let ⟨m',h1,h2,_⟩:=h.newAtX hch hg1 hg2 hblk
 ⟨m',h1,h2⟩
theorem Rel.new(h:Rel cx m a as_ s w){k:Blk}{vs:List Value}{t:TypeId}(hch:Chg Cf w w')(hsz:w.heap.size<w'.heap.size)(hblk:∀x',Nx (vx cx m s w) x'->x'.w=w'->Ia x' w.heap.size k)(_hv:vs=vs)(_ht:t=t) :
  ∃m',Rel cx m' a as_ { s with bl:=λb=>if b=s.nb then some k else s.bl b,nb:=s.nb+1 } w'/\Rep (vx cx m' { s with bl:=λb=>if b=s.nb then some k else s.bl b,nb:=s.nb+1 } w') (.ptr s.nb 0) (.pointer (some ⟨w.heap.size,0,none⟩)):=h.newAt hch (Zn1 _) hsz hblk
theorem Rel.write(h:Rel cx m a as_ s w){b:Nat}{k0 k:Blk}(hb0:s.bl b=some k0)(hch:Chg (λc _=>c=m.bl b) w w')(hblk:∀x',Nx (vx cx m s w) x'->x'.w=w'->Ia x' (m.bl b) k):Rel cx m a as_ { s with bl:=λc=>if c=b then some k else s.bl c } w':=by
 have hne:s.bl b≠none:=by rw[hb0];simp
 have hiff:∀c,(if c=b then some k else s.bl c)≠none↔s.bl c≠none:=λc=>by
  by_cases hc:c=b
  ·subst hc;simp[hne]
  ·simp[hc]
 let s':FS:={ s with bl:=λc=>if c=b then some k else s.bl c };have fp:∀c i,Db m s' c i↔Db m s c i:=λc i=>by
  constructor
  ·rintro(⟨q,hq,rfl⟩|hh)
   ·exact .inl ⟨q,(hiff q).1 hq,rfl⟩
   ·exact .inr hh
  ·rintro(⟨q,hq,rfl⟩|hh)
   ·exact .inl ⟨q,(hiff q).2 hq,rfl⟩
   ·exact .inr hh
 have hother:∀c,c<w.heap.size->c≠m.bl b->w'.heap[c]? = w.heap[c]? :=λc hc hcb=>hch.block c hc (λ_ h=>hcb h);have hch':Chg (Db m s) w w':=hch.mono λc i hc =>.inl ⟨b,hne,hc.symm⟩;have nx:Nx (vx cx m s w) (vx cx m s' w'):=by
  refine⟨hch'.mono (λ_ _ h =>.inr h),?_,rfl,λ_ _=>rfl,Zn1 _,Zn1 _,λt _ ha=>⟨ha,rfl,λg o hg=>hother g (h.own_t ha hg) (λe=>h.injbt b t g o hne ha hg e.symm)⟩⟩;rintro c i (hM|hf)
  ·exact .inl (.inl hM)
  ·exact .inl (.inr ((fp c i).1 hf))
 refine h.step rfl rfl rfl rfl rfl hch' nx ?_ h.als (λc c' h1 h2=>h.inj c c' ((hiff c).1 h1) ((hiff c').1 h2)) h.injt (λc t g o h1=>h.injbt c t g o ((hiff c).1 h1)) (λc i hf =>?_)
 ·intro c q hq;by_cases hc:c=b
  ·subst hc;have hq':k=q:=by simpa using hq
   subst hq';exact⟨(h.blks c k0 hb0).1,hblk _ nx rfl⟩
  ·have hq':s.bl c=some q:=by simpa[ hc] using hq
   obtain⟨h1,h2⟩:=h.blks c q hq';exact⟨h1,h2.later nx (hother _ (h.own_b (by rw[hq'];simp)) (λe=>hc (h.inj c b (by rw[hq'];simp) hne e)))⟩
 ·have:=(fp c i).1 hf;exact⟨Zx1 (h.own c i this).1 hch.size,.inl this⟩
theorem Rel.right(h:Rel cx m a as_ s w){t0:Option Nat}{p:Option (Nat×Nat)}(hch:Chg (λb i=>∃t o,t0=some t/\s.al t/\m.tk t=some (b,o)/\o<=i) w w')
  (hp:∀g o,p=some (g,o)->g<w'.heap.size/\(w.heap.size<=g\/∃t o',t0=some t/\s.al t/\m.tk t=some (g,o')/\o'<=o)) :
  Rel cx { m with tk:=λt=>if t=s.nt then p else m.tk t } a as_ { s with al:=λt=>(s.al t/\t0≠some t)\/t=s.nt,nt:=s.nt+1 } w'/\Nx (vx cx m s w) (vx cx { m with tk:=λt=>if t=s.nt then p else m.tk t } { s with al:=λt=>(s.al t/\t0≠some t)\/t=s.nt,nt:=s.nt+1 } w'):=by
 let m':Mp:={ m with tk:=λt=>if t=s.nt then p else m.tk t };let s':FS:={ s with al:=λt=>(s.al t/\t0≠some t)\/t=s.nt,nt:=s.nt+1 };have hch':Chg (Db m s) w w':=hch.mono λb i ⟨t,o,_,h1,h2,h3⟩ =>.inr ⟨t,o,h1,h2,h3⟩;have hother:∀c,c<w.heap.size->(∀t o,t0=some t->s.al t->m.tk t=some (c,o)->False)->w'.heap[c]? = w.heap[c]? :=λc hc hn=>hch.block c hc (λi ⟨t,o,h1,h2,h3,_⟩=>hn t o h1 h2 h3);have old:∀t,s'.al t->t≠s.nt->s.al t/\t0≠some t/\m'.tk t=m.tk t:=λt ht hne=>by
  rcases ht with ht|ht
  ·exact⟨ht.1,ht.2,by simp[m',hne]⟩
  ·exact absurd ht hne
 have hnew:m'.tk s.nt=p:=by simp[m']
 have fp:∀b i,Db m' s' b i->Db m s b i\/w.heap.size<=b:=by
  rintro b i (⟨q,hq,rfl⟩|⟨t,o,h1,h2,h3⟩)
  ·exact .inl (.inl ⟨q,hq,rfl⟩)
  ·by_cases ht:t=s.nt
   ·subst ht;rw[hnew] at h2;rcases(hp b o h2).2 with hh|⟨t,o',_,g1,g2,g3⟩
    ·exact .inr hh
    ·exact .inl (.inr ⟨t,o',g1,g2,Nat.le_trans g3 h3⟩)
   ·obtain⟨g1,_,g3⟩:=old t h1 ht;rw[g3] at h2;exact .inl (.inr ⟨t,o,g1,h2,h3⟩)
 have nx:Nx (vx cx m s w) (vx cx m' s' w'):=by
  refine⟨hch'.mono (λ_ _ h =>.inr h),?_,rfl,λ_ _=>rfl,Zn1 _,Nat.le_succ _,λt ht ha =>?_⟩
  ·rintro b i (hM|hf)
   ·exact .inl (.inl hM)
   ·rcases fp b i hf with h|h
    ·exact .inl (.inr h)
    ·exact .inr h
  ·have ht:t<s.nt:=ht;obtain⟨g1,g2,g3⟩:=old t ha (Nat.ne_of_lt ht);exact⟨g1,g3,λg o hg=>hother g (h.own_t g1 hg) (λt' o' e1 e2 e3=>g2 (by rw[e1,h.injt t' t g o' o e2 g1 e3 hg]))⟩
 refine⟨h.step rfl rfl rfl rfl rfl hch' nx ?_ ?_ h.inj ?_ ?_ ?_,nx⟩
 ·intro b k hk;obtain⟨h1,h2⟩:=h.blks b k hk;have hbn:s.bl b≠none:=by rw[show s.bl b=some k from hk];simp
  exact⟨h1,h2.later nx (hother _ (h.own_b hbn) (λt o _ e2 e3=>h.injbt b t _ o hbn e2 e3 rfl))⟩
 ·rintro t (⟨h1,_⟩|rfl)
  ·exact Nat.lt_succ_of_lt (h.als t h1)
  ·exact Nat.lt_succ_self _
 ·intro t t' g o o' h1 h2 h3 h4;by_cases ht:t=s.nt<;>by_cases ht':t' = s.nt
  ·rw[ht,ht']
  ·exfalso;subst ht;rw[hnew] at h3;obtain⟨g1,g2,g3⟩:=old t' h2 ht';rw[g3] at h4;rcases(hp g o h3).2 with hh|⟨t,o2,e1,e2,e3,_⟩
   ·have:=h.own_t g1 h4;omega
   ·exact g2 (by rw[e1,h.injt t t' g o2 o' e2 g1 e3 h4])
  ·exfalso;subst ht';rw[hnew] at h4;obtain⟨g1,g2,g3⟩:=old t h1 ht;rw[g3] at h3;rcases(hp g o' h4).2 with hh|⟨t',o2,e1,e2,e3,_⟩
   ·have:=h.own_t g1 h3;omega
   ·exact g2 (by rw[e1,h.injt t' t g o2 o e2 g1 e3 h3])
  ·obtain⟨g1,_,g3⟩:=old t h1 ht;obtain⟨k1,_,k3⟩:=old t' h2 ht';rw[g3] at h3;rw[k3] at h4;exact h.injt t t' g o o' g1 k1 h3 h4
 ·intro b t g o h1 h2 h3;by_cases ht:t=s.nt
  ·subst ht;rw[hnew] at h3;rcases(hp g o h3).2 with hh|⟨t,o2,_,e2,e3,_⟩
   ·have:=h.own_b h1;show m.bl b≠g;omega
   ·exact h.injbt b t g o2 h1 e2 e3
  ·obtain⟨g1,_,g3⟩:=old t h2 ht;rw[g3] at h3;exact h.injbt b t g o h1 g1 h3
 ·intro b i hf;refine⟨?_,fp b i hf⟩;rcases hf with ⟨q,hq,rfl⟩|⟨t,o,h1,h2,h3⟩
  ·exact Zx1 (h.own_b hq) hch.size
  ·by_cases ht:t=s.nt
   ·subst ht;rw[hnew] at h2;exact(hp b o h2).1
   ·obtain⟨g1,_,g3⟩:=old t h1 ht;rw[g3] at h2;exact Zx1 (h.own_t g1 h2) hch.size
end
section
variable {R:Type}{px:Px R}{cx:Cx}
def D3(t s:FS):FS:={ s with bl:=t.bl,nb:=t.nb,al:=t.al,nt:=t.nt }
def Yv(P:Program)(a:Act)(w:World)(o:Oper)(Post:Value->World->Prop):Prop :=(∃v w',(execOp a.eval o).run P w = .ok (.value v) w'/\Post v w')\/∃f args w1,(execOp a.eval o).run P w = .ok (.enter f args) w1/\Calls P f args w1 λen w'=>∃v,en = .returned v/\Post v w'
theorem Yv.runs{P:Program}{a:Act}{w:World}{o:Oper}{Post:Value->World->Prop}{K:Act->World->Prop}(h:Yv P a w o Post)(hk:∀v w',Post v w'->K (a.put o.dst v) w'):Afq P a w o K:=by
 rcases h with ⟨v,w',h1,h2⟩|⟨f,args,w1,h1,h2⟩
 ·exact .inl ⟨v,w',h1,hk v w' h2⟩
 ·refine .inr (.inr ⟨f,args,w1,h1,h2.mono ?_⟩)
  grind
structure Eff (cx:Cx) (px:Px R) (o:Oper) (st st':St) (d:D):Prop where
 same:st'.n=st.n/\st'.env=st.env/\st'.lb=st.lb/\st'.lt=st.lt/\(st'.fr,st'.df)=(st.fr,st.df)
 run:∀(s:FS) (m:Mp) (a:Act) (as_:List Act) (w:World),(∀t x,x∈o.op.operands->evF px s.env t x=evF px (get st.env) t x)->C0 s (fs st)->Rel cx m a as_ s w->Yv cx.P a w o λv w'=>∃m',Rel cx m' a as_ (D3 (fs st') s) w'/\Rep (vx cx m' (D3 (fs st') s) w') d v
theorem Iw{st s:FS}(h:C0 s st):D3 st s=s:=by obtain⟨h1,h2,h3,h4⟩:=h;simp[D3,<-h1,<-h2,<-h3,<-h4]
theorem Bab{o:Oper}{st:St}{d:D}(h:A44 cx px o (get st.env) (blk st.bl) d):Eff cx px o st st d :=⟨⟨rfl,rfl,rfl,rfl,rfl⟩,λs m a as_ w hx hW hr=>by obtain⟨v,h1,h2⟩:=h s m a as_ w hx (λ_ b k _ hb _=>(congrFun hW.1 b).trans hb) hr;rw[Iw hW];exact .inl ⟨v,w,h1,m,hr,h2⟩⟩
theorem Az(l:List (Nat×Blk))(k b:Nat)(v:Blk):blk ((k,v)::l) b=if b=k then some v else blk l b:=by
 simp[blk];by_cases h:b=k
 ·subst h;simp
 ·simp[Fo (Ne.symm h),h]
theorem Hn{b:Nat}{k:Blk}:∀(l:List (Nat×Blk)) (c:Nat),blk (Ge l b k) c=if c=b then(blk l b).map (λ_=>k) else blk l c
 |[],c=>by simp[Ge,blk]
 |(q,v)::l,c=>by
  simp[Ge];by_cases hq:q=b
  ·subst hq;simp;rw[Az,Az,Az]
   grind
  ·simp[Fo hq];rw[Az,Az,Hn l c,Az]
   grind
theorem Mj{b:Nat}{w w':World}(h:Sx.Chg [b] w w'){vs us:List Value}{t:TypeId}(h1:w.heap[b]? = some (.cells vs.toArray t (0,0)))(h2:w'.heap[b]? = some (.cells us.toArray t (0,0)))(hl:us.length=vs.length):Chg (λc _=>c=b) w w' :=
 ⟨h.os,h.tape,h.output,h.size,λk hk hn=>h.block k hk (by simpa using (hn 0)),λc i v hv hn=>by
  rw[World.cell?_of_block (a:=⟨c,i,none⟩) (h.block c (R9 hv) (by simpa using hn))];exact hv,λc cs t' f hq=>by
  by_cases hc:c=b
  ·grind
  ·exact⟨cs,f,by rw[h.block c (Zh2.1 hq).1 (by simpa using hc)];exact hq,rfl⟩⟩
theorem Bkr{P:Program}{t:TypeId}{zs:List Value}(h:Sx.tyZero P t=some zs)(w:World):∃z,(zeroValue t).run P w = .ok z w/\z.cells=zs.toArray:=by obtain⟨i,z,hi,hz,hc⟩:=J5 h;exact⟨z,by simp[zeroValue,typeInfo,hi,hz],hc⟩
theorem Nn(st:St)(k:Blk)(s:FS)(h:C0 s (fs st)):D3 (fs (Gp st k)) s={ s with bl:=λb=>if b=s.nb then some k else s.bl b,nb:=s.nb+1 }:=by
 obtain⟨h1,h2,h3,h4⟩:=h;refine FS.eq rfl rfl rfl rfl rfl ?_ ?_ ?_ ?_
 ·funext b;simp[D3,fs,Gp,Az,h1,h2]
 ·simp[D3,fs,Gp,h2]
 ·simp[D3,fs,Gp,h3]
 ·simp[D3,fs,Gp,h4]
theorem Bln{x:Vx}{c:Ck}{zs:List Value}:∀{n:Nat},zbL ((List.replicate n (enc c (zer c))).flatten) zs=true->zs.length=n*csz c/\∀i y j d,(List.replicate n (zer c))[i]? = some y->(enc c y)[j]? = some d->∃u,zs[i*csz c+j]? = some u/\RF x.S x.w d u:=by
 intro n h;obtain⟨hr,_⟩:=Ry (x:=x) h;have hlen:zs.length=n*csz c:=by rw[hr.len];simp[ B7]
 refine⟨hlen,λi y j d hy hd =>?_⟩;have hin:i<n:=by grind
 have hyz:y=zer c:=by grind
 subst hyz;have hget:∀(n i:Nat),i<n->((List.replicate n (enc c (zer c))).flatten)[i*csz c+j]? = some d:=by
  intro n;induction n with
  |zero=>intro i h;omega
  |succ n ih =>
   intro i h;rw[List.replicate_succ,Zz1];cases i with
   |zero=>grind
   |succ i =>
    rw[List.getElem?_append_right (by rw[B7,Nat.succ_mul];omega),B7]
    grind
 obtain⟨u,hu,hrep⟩:=hr.get (hget n i hin);exact⟨u,hu,A0f hrep (.inl rfl) ⟨c,zer c,j,hd⟩⟩
theorem D8(w:World)(o:Obj):Chg Cf w (w.alloc o)/\w.heap.size<(w.alloc o).heap.size:=⟨Chg.alloc _ _ _,by simp⟩
theorem Ca(w:World)(o:Obj):(w.alloc o).heap[w.heap.size]? = some o:=by show(w.heap.push o)[w.heap.size]? = _;simp
theorem Ro(hp:PxOk cx px){o:Oper}{t:Nat}(ho:o.op = .alloc t){st:St}{k:Blk}(hk:(∃n c,px.tt t = .arr n c/\k = .row c n (List.replicate n (zer c)))\/∃z,px.tt t ≠ .no/\(px.tt t).zero=some z/\k=A2k t (cells z)):Eff cx px o st (Gp st k) (.ptr st.nb 0):=by
 refine⟨⟨rfl,rfl,rfl,rfl,rfl⟩,λs m a as_ w hx hW hr =>?_⟩;have main:∀zs,Sx.tyZero cx.P t=some zs->(∀x',Nx (vx cx m s w) x'->x'.w=w.alloc (.cells zs.toArray t)->Ia x' w.heap.size k)->Yv cx.P a w o λv w'=>∃m',Rel cx m' a as_ (D3 (fs (Gp st k)) s) w'/\Rep (vx cx m' (D3 (fs (Gp st k)) s) w') (.ptr st.nb 0) v:=by
  intro zs hz hblk;obtain⟨z,hzv,hzc⟩:=Bkr hz w;obtain⟨m',h1,h2⟩:=hr.new (vs:=zs) (t:=t) (D8 w _).1 (D8 w _).2 hblk rfl rfl;refine .inl ⟨.pointer (some ⟨w.heap.size,0,none⟩),w.alloc (.cells zs.toArray t),?_,m',?_,?_⟩
  ·simp only[execOp,ho,Instr.alloc,Sem.run_bind,hzv,newVar,newRow,newObj,Sem.run_pure,Result.andThen_ok,Sem.run,World.alloc,hzc]
  ·rw[Nn st k s hW];exact h1
  ·rw[Nn st k s hW];have e1:st.nb=s.nb:=hW.2.1.symm;rw[e1];exact h2
 rcases hk with ⟨n,c,hty,rfl⟩|⟨z,hno,hz,rfl⟩
 ·obtain⟨zs,hz1,hz2⟩:=R4 (hp.tt t) (by rw[hty];simp) (z :=.agg ((List.replicate n (enc c (zer c))).flatten)) (by rw[hty];rfl);refine main zs hz1 λx' nx hw =>?_;obtain⟨h1,h2⟩:=Bln (x:=x') (c:=c) (n:=n) hz2;exact⟨by simp,zs,t,by rw[hw];exact Ca _ _,by simpa using h1,h2⟩
 ·obtain⟨zs,hz1,hz2⟩:=R4 (hp.tt t) hno hz;refine main zs hz1 λx' nx hw =>?_;obtain⟨h1,h2⟩:=Ry (x:=x') hz2;generalize cells z=cz at h1 h2;unfold A2k;split
  ·simp only[Reps] at h1;obtain⟨u,us,rfl,q1,u2,us2,rfl,q2,rfl⟩:=h1;simp[Rep] at q1;exact⟨⟨_,_,rfl⟩,u,u2,by rw[hw];exact Ca _ _,.inl q1,q2⟩
  ·exact⟨h2,zs,t,by rw[hw];exact Ca _ _,h1⟩
theorem A7h{o:Oper}{t:Nat}{x:Operand}(ho:o.op = .box t x){st:St}{d:D}(hd:ev px st t x=some d)(hl:lfs d=true):Eff cx px o st (Gp st (Bin d)) (.ptr st.nb 0):=by
 refine⟨⟨rfl,rfl,rfl,rfl,rfl⟩,λs m a as_ w hx hW hr =>?_⟩;rw[Au,<-hx _ x (by simp[ho,Op.operands])] at hd;obtain⟨v,_,hv,hrep⟩:=hr.env.ev hd;have hh:(w.alloc (.cells v.cells t)).heap[w.heap.size]? = some (.cells v.cells.toList.toArray t (0,0)):=by simpa using Ca w (.cells v.cells t)
 obtain⟨m',h1,h2⟩:=hr.new (k:=Bin d) (vs:=v.cells.toList) (t:=t) (D8 w (.cells v.cells t)).1 (D8 w _).2 (λx' nx hw=>by
  cases d with
  |sv c y =>simp[Rep] at hrep;obtain⟨ha,vs,rfl,hlen,hel⟩:=hrep;exact⟨ha,vs,t,by rw[hw];simpa[Value.cells] using hh,hlen,λj e he=>by obtain⟨u,hu,hf⟩:=hel j e he;exact⟨u,hu,nx.rf hf⟩⟩
  |_=>exact⟨hl,v.cells.toList,t,by rw[hw];exact hh,Reps.later nx _ _ (Mh hrep hl).reps⟩) rfl rfl
 refine .inl ⟨.pointer (some ⟨w.heap.size,0,none⟩),w.alloc (.cells v.cells t),?_,m',?_,?_⟩
 ·simp only[execOp,ho,Instr.box,hv,newVar,newRow,newObj,Sem.run_bind,Sem.run_pure,Result.andThen_ok,Sem.run,World.alloc]
 ·rw[Nn st _ s hW];exact h1
 ·rw[Nn st _ s hW];have e1:st.nb=s.nb:=hW.2.1.symm;rw[e1];exact h2
theorem Ay1(hp:PxOk cx px){o:Oper}{t:Nat}{x y:Operand}(ho:o.op = .makeSlice t x y){st:St}{c:Ck}(hty:px.tt t = .sl c){k k':IntKind}{n q:Int}(hx:ev px st 0 x=some (.int k n))(hy:ev px st 0 y=some (.int k' q))(hnq : 0<=n/\n<=q)(hmax:q<=(Ai:Int)):Eff cx px o st (Gp st (.dyn c (List.replicate q.toNat (zer c)))) (.osl st.nb c 0 n):=by
 refine⟨⟨rfl,rfl,rfl,rfl,rfl⟩,λs m a as_ w hag hW hr =>?_⟩;rw[Au,<-hag _ x (by simp[ho,Op.operands])] at hx;rw[Au,<-hag _ y (by simp[ho,Op.operands])] at hy;obtain⟨v1,_,hv1,hr1⟩:=hr.env.ev hx;obtain⟨v2,_,hv2,hr2⟩:=hr.env.ev hy;obtain rfl:=Rep.int hr1;obtain rfl:=Rep.int hr2;obtain⟨by_,⟨hu,i0,z,hi0,hz,hsize,hby,hzs,hpos⟩,hby512,_⟩:=Cj (hp.tt t) hty;obtain⟨zs,hz1,hz2⟩:=Bet (hp.tt t) hty;obtain⟨i1,z1,hi1,hzz,hzc⟩:=J5 hz1;rw[hi0] at hi1;simp at hi1;subst hi1;rw[hz] at hzz;simp at hzz;subst hzz;have hmax:q<=274877906944:=hmax;have hbound:by_*q.toNat<=512*274877906944:=Nat.mul_le_mul hby512 (by omega);have hbi:(by_:Int)*q=((by_*q.toNat:Nat):Int):=by rw[Int.natCast_mul,Int.toNat_of_nonneg (by omega)]
 have hrun:=run_make (P:=cx.P) w t (cx.el c) i0 z hu hi0 hz k k' n q hnq.1 hnq.2 (by rw[hby,hbi];omega) (by omega);have hzl:zs.length=csz c:=by rw[<-hzs,hzc];simp
 obtain⟨m',h1,h2⟩:=hr.new (k :=.dyn c (List.replicate q.toNat (zer c))) (vs:=[]) (t:=t) (D8 w (.cells (madeCells z.cells (q.toNat*i0.size)) (cx.el c))).1 (D8 w _).2 (λx' nx hw=>by
  obtain⟨hreps,_⟩:=Ry (x:=x') hz2;refine⟨by simp[ maxLen];omega,(madeCells z.cells (q.toNat*i0.size)).toList,cx.el c,by rw[hw,Array.toArray_toList];exact Ca _ _,by simp[size_madeCells,hsize],λi y j d hyi hd =>?_⟩;have hin:i<q.toNat:=by have:=(Zi2.1 hyi).1;simpa using this
  have hyz:y=zer c:=by rw[List.getElem?_replicate,if_pos hin] at hyi;simpa using hyi.symm
  subst hyz;have hj:j<csz c:=by rw[<-B7 c (zer c)];exact(Zi2.1 hd).1
  obtain⟨u,hu',hrep⟩:=hreps.get hd;refine⟨u,?_,A0f hrep (.inl rfl) ⟨c,zer c,j,hd⟩⟩;have hlt:i*csz c+j<q.toNat*i0.size:=by have:(i+1)*csz c<=q.toNat*csz c:=Nat.mul_le_mul_right _ hin;rw[Nat.succ_mul] at this;rw[hsize];omega
  have hmod:(i*csz c+j) % zs.length=j:=by rw[hzl,Nat.mul_comm,Nat.mul_add_mod];exact Nat.mod_eq_of_lt hj
  have hjz:j<zs.length:=by omega
  have hg:zs[j]=u:=by rw[Zo1 hjz] at hu';simpa using hu'
  simp[madeCells,hlt,hzc,hmod,hjz,hg]) rfl rfl
 refine .inl ⟨.slice (some ⟨w.heap.size,0,none⟩) n.toNat q.toNat,w.alloc (.cells (madeCells z.cells (q.toNat*i0.size)) (cx.el c)),?_,m',?_,?_⟩
 ·simp[execOp,ho,hv1,hv2,hrun]
 ·rw[Nn st _ s hW];exact h1
 ·rw[Nn st _ s hW];have e1:st.nb=s.nb:=hW.2.1.symm;rw[e1];simp only[Rep] at h2 ⊢;obtain⟨g1,g2⟩:=h2;simp at g2;refine⟨g1,Int.le_refl _,hnq.1,by simp[maxLen];omega,_,_,rfl,.inr ?_,by omega,by simp[maxLen];omega,madeCells z.cells (q.toNat*i0.size),(0,0),by rw[<-g2];exact Ca _ _,by simp[size_madeCells,hsize]⟩;rw[<-g2];simp
structure EffN (cx:Cx) (px:Px R) (o:Oper) (st st':St):Prop where
 same:st'.n=st.n/\st'.env=st.env/\st'.lb=st.lb/\st'.lt=st.lt/\(st'.fr,st'.df)=(st.fr,st.df)
 keep:st.nb<=st'.nb/\∀b,b∉wsN px o st->Ea (fs st) (fs st') b
 run:∀(s:FS) (m:Mp) (a:Act) (as_:List Act) (w:World),(∀t x,x∈o.op.operands->evF px s.env t x=evF px (get st.env) t x)->C0 s (fs st)->Rel cx m a as_ s w->∃w' m',(execOp a.eval o).run cx.P w = .ok .skip w'/\Rel cx m' a as_ (D3 (fs st') s) w'
theorem Te{st:St}{b:Nat}{k:Blk}{ws:List Nat}(h:ws=[b]):st.nb<=({ st with bl:=Ge st.bl b k }:St).nb/\∀c,c∉ws->Ea (fs st) (fs { st with bl:=Ge st.bl b k }) c:=by
 subst h;refine⟨Zn1 _,λc hc =>?_⟩;have hne:c≠b:=λe=>hc (by simp[e]);have e:blk (Ge st.bl b k) c=blk st.bl c:=by rw[Hn,if_neg hne]
 exact⟨λk hk=>e.trans hk,λk hk _=>e.symm.trans hk⟩
theorem Tn(st:St)(b:Nat)(k k0:Blk)(s:FS)(h:C0 s (fs st))(hb:blk st.bl b=some k0):D3 (fs { st with bl:=Ge st.bl b k }) s={ s with bl:=λc=>if c=b then some k else s.bl c }:=by obtain⟨h1,h2,h3,h4⟩:=h;refine FS.eq rfl rfl rfl rfl rfl ?_ h2.symm h3.symm h4.symm;funext c;simp[D3,fs,Hn,h1,hb]
theorem Boc{d:D}(h:Br2 d=true):∃l tk,d = .sl .byte l tk:=by
 unfold Br2 at h;split at h
 ·exact⟨_,_,rfl⟩
 ·cases h
theorem Zm(v:Value):∀(us cs:List Value) (o:Nat),Sx.writeAt (v::cs) (o+1) us=v::Sx.writeAt cs o us
 |[],_,_=>rfl
 |u::us,cs,o=>by simp[Sx.writeAt];exact Zm v us _ (o+1)
theorem Adq:∀(us cs:List Value),us.length=cs.length->Sx.writeAt cs 0 us=us
 |[],[],_=>rfl
 |[],_::_,h=>by simp at h
 |_::_,[],h=>by simp at h
 |u::us,c::cs,h=>by simp[Sx.writeAt];rw[Zm,Adq us cs (by simpa using h)]
theorem Anj(hp:PxOk cx px){o:Oper}{st:St}{K:St->Option R}{r:R}(h:Ym px o st K=some r):∃st',K st' = some r/\EffN cx px o st st':=by
 unfold Ym at h;split at h
 ·rename_i t x y ho;have hsz:∀n,(px.tt t).n=n->px.tt t ≠ .no->Sx.tySz cx.P t=some n:=λn hn hno=>by rw[<-hn];exact(Di (hp.tt t) hno).2.2
  split at h
  ·rename_i b off d hx hy;split at h
   ·rename_i T d0 hb;split at h
    ·rename_i hc;simp only[Zb1] at hc;obtain⟨⟨hc1,hc2⟩,hc3⟩:=hc;obtain rfl:=Zl1 hc1;obtain⟨l,tk,rfl⟩:=Boc hc2;have hty:=Ew hc3;refine⟨_,h,⟨rfl,rfl,rfl,rfl,rfl⟩,Te (by simp[wsN,ho,hx]),λs m a as_ w hag hW hr =>?_⟩;rw[Au,<-hag _ x (by simp[ho,Op.operands])] at hx;rw[Au,<-hag _ y (by simp[ho,Op.operands])] at hy;obtain⟨v1,_,h2,h3⟩:=hr.env.ev hx;obtain⟨v2,_,h5,h6⟩:=hr.env.ev hy;simp[Rep] at h3;obtain⟨_,rfl⟩:=h3;have hsb:s.bl b=some (.bld T d0):=by rw[hW.1];exact hb
     obtain⟨_,a0,v0,hh,ha,_⟩:=(hr.blks b _ hsb).2;have hh:w.heap[m.bl b]? = some (.cells [a0,v0].toArray T (0,0)):=hh;have hone:Sx.one v2=true:=Agk h6 rfl;have hcl:v2.cells.toList=[v2]:=by rw[Sx.one_cells hone]
     obtain⟨r1,r2,r3⟩:=Sx.run_storeCells (P:=cx.P) v2.cells.toList w (m.bl b) 1 0 [a0,v0] T hh (by rw[hcl];simp) (by rw[hcl];intro u hu;simp at hu;subst hu;exact hone);have r2':(Sx.setCells w (m.bl b) 1 v2.cells.toList).heap[m.bl b]? = some (.cells #[a0,v2] T (0,0)):=by rw[r2,hcl];rfl
     have hrel:=hr.write (w':=Sx.setCells w (m.bl b) 1 v2.cells.toList) (k :=.bld T (.sl .byte l tk)) hsb (Mj r3 hh r2 (by rw[Sx.writeAt_length])) (λx' nx hw=>⟨⟨l,tk,rfl⟩,a0,v2,by rw[hw];exact r2',ha,Rep.later nx _ _ h6⟩);refine⟨_,m,?_,by rw[Tn st b _ _ s hW hb];exact hrel⟩;have hz1:v2.cells.size=1:=by rw[<-Array.length_toList,hcl];rfl
     have hz':Sx.tySz cx.P t=some v2.cells.size:=hsz _ (by rw[hz1,hty];rfl) (by rw[hty];simp);simp[execOp,ho,Instr.storeAt,h2,h5,vx,Instr.sureAddr,storeVar,Sem.run_bind,Sem.run_pure,Result.andThen_ok,Sx.run_sizeOf hz',ne_eq,not_true_eq_false,if_false];rw[r1];simp
    ·cases h
   split at h
   ·rename_i ds hb0;obtain⟨k0,hb,hk0⟩:∃k0,blk st.bl b=some k0/\∀x β,Ia x β k0->ds.all lf=true/\∃(vs:List Value) (t:TypeId),x.w.heap[β]? = some (.cells vs.toArray t (0,0))/\Reps x ds vs:=by
     split at hb0
     ·rename_i ds' hb;simp[Za1] at hb0;subst hb0;exact⟨_,hb,λx β h=>h⟩
     ·rename_i c y hb;simp[Za1] at hb0;subst hb0;refine⟨_,hb,λx β h =>?_⟩;obtain⟨_,vs,t,hh,hlen,hel⟩:=h;exact⟨A2d c y,vs,t,hh,(G6 (x:=x) (c:=c) (y:=y) ⟨hlen,hel⟩).reps⟩
     ·cases hb0
    split at h
    ·rename_i hc;simp only[Zb1] at hc;obtain⟨⟨⟨hc1,hc2⟩,hc3⟩,hc4⟩:=hc;have hc1:=Zl1 hc1;have hc2:off+(cells d).length<=ds.length:=by simpa using hc2
     refine⟨_,h,⟨rfl,rfl,rfl,rfl,rfl⟩,Te (by simp[wsN,ho,hx]),λs m a as_ w hag hW hr =>?_⟩;rw[Au,<-hag _ x (by simp[ho,Op.operands])] at hx;rw[Au,<-hag _ y (by simp[ho,Op.operands])] at hy;obtain⟨v1,_,h2,h3⟩:=hr.env.ev hx;obtain⟨v2,_,h5,h6⟩:=hr.env.ev hy;simp[Rep] at h3;obtain⟨_,rfl⟩:=h3;have hcr:=Mh h6 hc3;have hsb:s.bl b=some k0:=by rw[hW.1];exact hb
     obtain⟨hl,vs,ty,hh,hreps⟩:=hk0 _ _ (hr.blks b _ hsb).2;have hh:w.heap[m.bl b]? = some (.cells vs.toArray ty (0,0)):=hh;have hvl:off+v2.cells.toList.length<=vs.length:=by rw[hcr.1,hreps.len];exact hc2
     obtain⟨r1,r2,r3⟩:=Sx.run_storeCells (P:=cx.P) v2.cells.toList w (m.bl b) off 0 vs ty hh (by omega) (Bcg hcr hc3);have hrel:=hr.write (w':=Sx.setCells w (m.bl b) off v2.cells.toList) (k:=A37 ds off d) hsb (Mj r3 hh r2 (by rw[Sx.writeAt_length])) (λx' nx hw=>by
      have base:Ia x' (m.bl b) (.cells (write ds off (cells d))):=by refine⟨Amd _ _ _ hl hc3,Sx.writeAt vs off v2.cells.toList,ty,by rw[hw];exact r2,?_⟩;exact Reps.later nx _ _ (N1 _ _ _ _ _ (F5 hreps) hcr hc2).reps
      have hvd:vs.length=ds.length:=hreps.len;clear hy h5 h;cases d with
      |sv c y =>
       simp[A37];split
       ·rename_i hwh;simp only[Zb1] at hwh;obtain rfl:=Zl1 hwh.1;have hcz:=Zl1 hwh.2;simp[Rep] at h6;obtain⟨ha,us,rfl,hul,hel⟩:=h6;have hcl:(Value.agg us.toArray).cells.toList=us:=by simp[Value.cells]
        rw[hcl,Adq us vs (by omega)] at r2;exact⟨ha,us,ty,by rw[hw];exact r2,hul,λj e he=>by obtain⟨u,hu,hf⟩:=hel j e he;exact⟨u,hu,nx.rf hf⟩⟩
       ·exact base
      |_=>exact base)
     refine⟨_,m,?_,by rw[Tn st b _ _ s hW hb];exact hrel⟩;have hz':Sx.tySz cx.P t=some v2.cells.size:=hsz _ (by rw[<-hc1,<-hcr.1];simp) (D7 hc4).1;simp[execOp,ho,Instr.storeAt,h2,h5,vx,Instr.sureAddr,storeVar,Sem.run_bind,Sem.run_pure,Result.andThen_ok,Sx.run_sizeOf hz',ne_eq,not_true_eq_false,if_false];rw[r1];simp
    ·cases h
   ·cases h
  ·rename_i b c0 n0 i d hx hy;split at h
   ·rename_i c n xs hb;split at h
    ·rename_i y0 hk0 hc;simp only[Zb1,Zg1] at hc;obtain⟨⟨⟨hc1,rfl⟩,hc3⟩,hc4⟩:=hc;have hc1:=Zl1 hc1;have hc3:=Zl1 hc3;subst hc3;refine⟨_,h,⟨rfl,rfl,rfl,rfl,rfl⟩,Te (by simp[wsN,ho,hx]),λs m a as_ w hag hW hr =>?_⟩;rw[Au,<-hag _ x (by simp[ho,Op.operands])] at hx;rw[Au,<-hag _ y (by simp[ho,Op.operands])] at hy;obtain⟨v1,_,h2,h3⟩:=hr.env.ev hx;obtain⟨v2,_,h5,h6⟩:=hr.env.ev hy;simp[Rep] at h3;obtain⟨_,rfl,hi1,hi2⟩:=h3;obtain⟨hel,_,_⟩:=N5 hk0 h6;have hsb:s.bl b=some (.row c0 n0 xs):=by rw[hW.1];exact hb
     obtain⟨_,hnl,vs,ty,hh,hlen,hreps⟩:=hr.blks b _ hsb;have hh:w.heap[m.bl b]? = some (.cells vs.toArray ty (0,0)):=hh;have hin:i.toNat<xs.length:=by omega
     have hvl:i.toNat*csz c0+v2.cells.toList.length<=vs.length:=by rw[hel.1,hlen,<-Nat.succ_mul];exact Nat.mul_le_mul_right _ (by omega)
     obtain⟨r1,r2,r3⟩:=Sx.run_storeCells (P:=cx.P) v2.cells.toList w (m.bl b) (i.toNat*csz c0) 0 vs ty hh (by omega) hel.one;have hwget:∀(us cs:List Value) (o q:Nat),o+us.length<=cs.length->(Sx.writeAt cs o us)[q]? = if o<=q/\q<o+us.length then us[q-o]? else cs[q]? := by
      intro us;induction us with
      |nil=>intro cs o q _;simp only[Sx.writeAt,Zi1,Nat.add_zero];rw[if_neg (by omega)]
      |cons u us ih =>
       intro cs o q hl;simp[Zf1] at hl;simp only[Sx.writeAt];rw[ih (cs.set o u) (o+1) q (by simp;omega)];simp[Zf1];by_cases hq:q=o
       ·subst hq;rw[if_neg (by omega),if_pos (by omega)];simp[show q<cs.length by omega]
       ·by_cases hin2:o+1<=q/\q<o+1+us.length
        ·rw[if_pos hin2,if_pos (by omega),show q-o=(q-(o+1))+1 by omega];simp
        ·rw[if_neg hin2,if_neg (by omega),List.getElem?_set_ne (Ne.symm hq)]
     have hrel:=hr.write (w':=Sx.setCells w (m.bl b) (i.toNat*csz c0) v2.cells.toList) (k :=.row c0 n0 (xs.set i.toNat y0)) hsb (Mj r3 hh r2 (by rw[Sx.writeAt_length])) (λx' nx hw=>by
      refine⟨by simpa using hnl,Sx.writeAt vs (i.toNat*csz c0) v2.cells.toList,ty,by rw[hw];exact r2,by rw[Sx.writeAt_length];simpa using hlen,λq y j d' hy' hd' =>?_⟩;have hjc:j<csz c0:=by rw[<-B7 c0 y];exact(Zi2.1 hd').1
      rw[hwget _ _ _ _ hvl,hel.1];by_cases hqi:q=i.toNat
      ·subst hqi;rw[List.getElem?_set_self hin] at hy';simp[Za1] at hy';subst hy';obtain⟨u,hu,hf⟩:=hel.2 j d' hd';refine⟨u,?_,nx.rf hf⟩;rw[if_pos (by omega),show i.toNat*csz c0+j-i.toNat*csz c0=j by omega];exact hu
      ·rw[List.getElem?_set_ne (Ne.symm hqi)] at hy';obtain⟨u,hu,hf⟩:=hreps q y j d' hy' hd';refine⟨u,?_,nx.rf hf⟩;rw[if_neg,hu];rintro⟨g1,g2⟩;rcases Nat.lt_or_ge q i.toNat with hlt|hge
       ·have:(q+1)*csz c0<=i.toNat*csz c0:=Nat.mul_le_mul_right _ hlt;rw[Nat.succ_mul] at this;omega
       ·have:(i.toNat+1)*csz c0<=q*csz c0:=Nat.mul_le_mul_right _ (by omega);rw[Nat.succ_mul] at this;omega)
     refine⟨_,m,?_,by rw[Tn st b _ _ s hW hb];exact hrel⟩;have hz':Sx.tySz cx.P t=some v2.cells.size:=hsz _ (by rw[hc1,<-hel.1];simp) (D7 hc4).1;simp[execOp,ho,Instr.storeAt,h2,h5,vx,Instr.sureAddr,storeVar,Sem.run_bind,Sem.run_pure,Result.andThen_ok,Sx.run_sizeOf hz',ne_eq,not_true_eq_false,if_false];rw[r1];simp
    ·cases h
   ·cases h
  ·rename_i b c0 i d hx hy;split at h
   ·rename_i c xs hb;split at h
    ·rename_i y0 hk0 hc;simp only[Zb1,Zg1] at hc;obtain⟨⟨hc1,rfl⟩,hc4⟩:=hc;obtain⟨hib,h⟩:=A1 h;have hib:=Mg hib;refine⟨_,h,⟨rfl,rfl,rfl,rfl,rfl⟩,Te (by simp[wsN,ho,hx]),λs m a as_ w hag hW hr =>?_⟩;rw[Au,<-hag _ x (by simp[ho,Op.operands])] at hx;rw[Au,<-hag _ y (by simp[ho,Op.operands])] at hy;obtain⟨v1,_,h2,h3⟩:=hr.env.ev hx;obtain⟨v2,_,h5,h6⟩:=hr.env.ev hy;simp[Rep] at h3;obtain⟨_,rfl,hi1⟩:=h3;obtain⟨hel,_,_⟩:=N5 hk0 h6;have hsb:s.bl b=some (.dyn c0 xs):=by rw[hW.1];exact hb
     obtain⟨_,hnl,vs,ty,hh,hlen,hreps⟩:=hr.blks b _ hsb;have hh:w.heap[m.bl b]? = some (.cells vs.toArray ty (0,0)):=hh;have hin:i.toNat<xs.length:=by omega
     have hvl:i.toNat*csz c0+v2.cells.toList.length<=vs.length:=by refine Nat.le_trans ?_ hlen;rw[hel.1,<-Nat.succ_mul];exact Nat.mul_le_mul_right _ (by omega)
     obtain⟨r1,r2,r3⟩:=Sx.run_storeCells (P:=cx.P) v2.cells.toList w (m.bl b) (i.toNat*csz c0) 0 vs ty hh (by omega) hel.one;have hwget:∀(us cs:List Value) (o q:Nat),o+us.length<=cs.length->(Sx.writeAt cs o us)[q]? = if o<=q/\q<o+us.length then us[q-o]? else cs[q]? := by
      intro us;induction us with
      |nil=>intro cs o q _;simp only[Sx.writeAt,Zi1,Nat.add_zero];rw[if_neg (by omega)]
      |cons u us ih =>
       intro cs o q hl;simp[Zf1] at hl;simp only[Sx.writeAt];rw[ih (cs.set o u) (o+1) q (by simp;omega)];simp[Zf1];by_cases hq:q=o
       ·subst hq;rw[if_neg (by omega),if_pos (by omega)];simp[show q<cs.length by omega]
       ·by_cases hin2:o+1<=q/\q<o+1+us.length
        ·rw[if_pos hin2,if_pos (by omega),show q-o=(q-(o+1))+1 by omega];simp
        ·rw[if_neg hin2,if_neg (by omega),List.getElem?_set_ne (Ne.symm hq)]
     have hrel:=hr.write (w':=Sx.setCells w (m.bl b) (i.toNat*csz c0) v2.cells.toList) (k :=.dyn c0 (xs.set i.toNat y0)) hsb (Mj r3 hh r2 (by rw[Sx.writeAt_length])) (λx' nx hw=>by
      refine⟨by simpa using hnl,Sx.writeAt vs (i.toNat*csz c0) v2.cells.toList,ty,by rw[hw];exact r2,by rw[Sx.writeAt_length];simpa using hlen,λq y j d' hy' hd' =>?_⟩;have hjc:j<csz c0:=by rw[<-B7 c0 y];exact(Zi2.1 hd').1
      rw[hwget _ _ _ _ hvl,hel.1];by_cases hqi:q=i.toNat
      ·subst hqi;rw[List.getElem?_set_self hin] at hy';simp[Za1] at hy';subst hy';obtain⟨u,hu,hf⟩:=hel.2 j d' hd';refine⟨u,?_,nx.rf hf⟩;rw[if_pos (by omega),show i.toNat*csz c0+j-i.toNat*csz c0=j by omega];exact hu
      ·rw[List.getElem?_set_ne (Ne.symm hqi)] at hy';obtain⟨u,hu,hf⟩:=hreps q y j d' hy' hd';refine⟨u,?_,nx.rf hf⟩;rw[if_neg,hu];rintro⟨g1,g2⟩;rcases Nat.lt_or_ge q i.toNat with hlt|hge
       ·have:(q+1)*csz c0<=i.toNat*csz c0:=Nat.mul_le_mul_right _ hlt;rw[Nat.succ_mul] at this;omega
       ·have:(i.toNat+1)*csz c0<=q*csz c0:=Nat.mul_le_mul_right _ (by omega);rw[Nat.succ_mul] at this;omega)
     refine⟨_,m,?_,by rw[Tn st b _ _ s hW hb];exact hrel⟩;have hz':Sx.tySz cx.P t=some v2.cells.size:=hsz _ (by rw[(Zl1 hc1),<-hel.1];simp) (D7 hc4).1;simp[execOp,ho,Instr.storeAt,h2,h5,vx,Instr.sureAddr,storeVar,Sem.run_bind,Sem.run_pure,Result.andThen_ok,Sx.run_sizeOf hz',ne_eq,not_true_eq_false,if_false];rw[r1];simp
    ·cases h
   ·cases h
  ·cases h
 ·cases h
end
section
variable {R:Type}{px:Px R}{cx:Cx}
def Bg(x:Vx)(c:Ck)(xs:List (El c))(vs:List Value):Prop:=vs.length=xs.length*csz c/\∀i y j d,xs[i]? = some y->(enc c y)[j]? = some d->∃u,vs[i*csz c+j]? = some u/\RF x.S x.w d u
theorem Bg.nil(x:Vx)(c:Ck):Bg x c [] []:=⟨by simp,λi y j d hy=>by simp at hy⟩
theorem Bg.later{x x':Vx}(h:Nx x x'){c:Ck}{xs:List (El c)}{vs:List Value}(hr:Bg x c xs vs):Bg x' c xs vs:=⟨hr.1,λi y j d hy hd=>by obtain⟨u,hu,hf⟩:=hr.2 i y j d hy hd;exact⟨u,hu,h.rf hf⟩⟩
theorem Bg.append{x:Vx}{c:Ck}{xs ys:List (El c)}{vs us:List Value}(h:Bg x c xs vs)(k:Bg x c ys us):Bg x c (xs++ys) (vs++us):=by
 refine⟨by simp[h.1,k.1,Nat.add_mul],λi y j d hy hd =>?_⟩;have hj:j<csz c:=by rw[<-B7 c y];exact(Zi2.1 hd).1
 rw[List.getElem?_append] at hy;split at hy
 ·rename_i hi;obtain⟨u,hu,hf⟩:=h.2 i y j d hy hd;refine⟨u,?_,hf⟩;rw[List.getElem?_append_left,hu];exact(Zi2.1 hu).1
 ·rename_i hi;obtain⟨u,hu,hf⟩:=k.2 _ y j d hy hd;refine⟨u,?_,hf⟩;have hle:xs.length*csz c<=i*csz c:=Nat.mul_le_mul_right _ (by omega);rw[List.getElem?_append_right (by rw[h.1];omega),h.1];rwa[Nat.sub_mul,<-Nat.sub_add_comm hle] at hu
theorem Bg.cons{x:Vx}{c:Ck}{y:El c}{xs:List (El c)}{us vs:List Value}(h:ElR x c y us)(k:Bg x c xs vs):Bg x c (y::xs) (us++vs):=by
 have:Bg x c [y] us:=⟨by simpa using h.1,λi z j d hz hd=>by
  cases i with
  |zero=>simp at hz;subst hz;simpa using h.2 j d hd
  |succ i=>simp at hz⟩
 exact this.append k
theorem Bg.one{x:Vx}{c:Ck}{xs:List (El c)}{vs:List Value}(h:Bg x c xs vs):∀v,v∈vs->Sx.one v=true:=by
 intro v hv;obtain⟨q,hq,rfl⟩:=List.mem_iff_getElem.1 hv;have hp:=Afy c;have hi:q / csz c<xs.length:=by rw[Nat.div_lt_iff_lt_mul hp,<-h.1];exact hq
 have hj:q % csz c<csz c:=Nat.mod_lt _ hp;obtain⟨u,hu,hf⟩:=h.2 (q / csz c) _ (q % csz c) _ (Zo1 hi) (Zo1 (by rw[B7];exact hj));rw[show q / csz c*csz c+q % csz c=q by rw[Nat.mul_comm];exact Nat.div_add_mod q (csz c),Zo1 hq] at hu;simp at hu;rw[hu];exact A0a hf.here
theorem Akr{x:Vx}{c:Ck}{xs:List (El c)}{vs:List Value}{g cap:Nat}(h:Bg x c xs vs)(hle:xs.length<=cap/\cap<=maxLen)(hm:∀(j:Nat) u,vs[j]? = some u->x.w.cell? ⟨g,j,none⟩=some u)(hS:∀i,i<xs.length*csz c->¬x.S g i):RF x.S x.w (.sl c xs .no) (.slice (some ⟨g,0,none⟩) xs.length cap):=by
 refine Jn rfl (.inr ⟨g,0,rfl,hle,λi y hy w' hw j d hd =>?_⟩);obtain⟨u,hu,hf⟩:=h.2 i y j d hy hd;have hlt:i*csz c+j<xs.length*csz c:=by rw[<-h.1];exact(Zi2.1 hu).1
 refine⟨u,?_,hf w' hw⟩;rw[Nat.zero_add];exact hw.cell g _ u (hm _ u hu) (hS _ hlt)
theorem Eu{x:Vx}{c:Ck}{xs:List (El c)}{v:Value}(h:RF x.S x.w (.sl c xs .no) v):∃a cap vs,v = .slice a xs.length cap/\Bg x c xs vs/\∀b o,a=some ⟨b,o,none⟩->xs≠[]->∀(j:Nat) u,vs[j]? = some u->x.w.cell? ⟨b,o+j,none⟩=some u:=by
 obtain⟨a,cap,rfl,hf⟩:=B2 h;rcases hf with rfl|⟨b,o,rfl,hle,hat⟩
 ·exact⟨a,cap,[],rfl,Bg.nil _ _,λ_ _ _ h=>absurd rfl h⟩
 ·have key:∀(n:Nat),n<=xs.length->∃vs,Bg x c (xs.take n) vs/\∀(j:Nat) u,vs[j]? = some u->x.w.cell? ⟨b,o+j,none⟩=some u:=by
   intro n;induction n with
   |zero=>intro _;exact⟨[],by simpa using Bg.nil x c,by simp⟩
   |succ n ih =>
    intro hn;obtain⟨vs,h1,h2⟩:=ih (by omega);have hx:xs[n]? = some (xs[n]'(by omega)):=Zo1 (by omega);obtain⟨us,h3,h4⟩:=At.elR rfl (hat n _ hx);have h5:=h1.append (show Bg x c [xs[n]'(by omega)] us from by simpa using Bg.cons h3 (Bg.nil x c));rw[List.take_append_getElem] at h5;refine⟨vs++us,h5,λj u hj =>?_⟩;rw[List.getElem?_append] at hj;split at hj
    ·exact h2 j u hj
    ·rename_i hlt;have hl:vs.length=n*csz c:=by rw[h1.1,List.length_take,Nat.min_eq_left (by omega)]
     have:=h4 _ u hj;rw[hl] at this hlt;rwa[show o+n*csz c+(j-n*csz c)=o+j by omega] at this
  obtain⟨vs,h1,h2⟩:=key xs.length (Zn1 _);rw[List.take_length] at h1;refine⟨_,cap,vs,rfl,h1,λb' o' he _ =>?_⟩;simp at he;obtain⟨rfl,rfl⟩:=he;exact h2
theorem Azc{x:Vx}{c:Ck}:∀{l:List D}{ys:List (El c)}{vs:List Value},A3k c l=some ys->Reps x l vs->Bg x c ys (vs.flatMap λv=>v.cells.toList)/\(∀v,v∈vs->v.cells.size=csz c)/\ys.length=l.length
 |[],ys,vs,h,hr=>by simp[A3k] at h;simp[Reps] at hr;subst h;subst hr;exact⟨Bg.nil _ _,by simp,rfl⟩
 |d::l,ys,vs,h,hr=>by
  simp[A3k] at h;split at h
  ·rename_i y hy;split at h
   ·rename_i ys' hys;simp at h;subst h;simp[Reps] at hr;obtain⟨u,us,rfl,h1,h2⟩:=hr;obtain⟨i1,i2,i3⟩:=Azc hys h2;obtain⟨e1,_,_⟩:=N5 hy h1;refine⟨by simpa using Bg.cons e1 i1,λv hv =>?_,by simp[i3]⟩;simp at hv;rcases hv with rfl|hv
    ·have:=e1.1;simpa using this
    ·exact i2 v hv
   ·cases h
  ·cases h
theorem Aat(st:St)(al:List Nat)(t0:Option Nat)(s:FS)(h:C0 s (fs st))(hal:∀t,t∈al↔(t∈st.tk/\t0≠some t)):D3 (fs (Cz { st with tk:=al })) s={ s with al:=λt=>(s.al t/\t0≠some t)\/t=s.nt,nt:=s.nt+1 }:=by
 obtain⟨h1,h2,h3,h4⟩:=h;refine FS.eq rfl rfl rfl rfl rfl h1.symm h2.symm ?_ ?_
 ·funext t;simp[ fs,Cz,h3,h4,hal];exact or_comm
 ·simp[D3,fs,Cz,h4]
theorem Ann{m:Mp}{a:Act}{as_:List Act}{s:FS}{w:World}(h:Rel cx m a as_ s w){b:Nat}(hb:w.heap.size<=b)(i:Nat):¬(vx cx m s w).S b i:=by
 rintro(hM|hf)
 ·have:=(h.away b i 0 hM).1;have:=h.chg.size;omega
 ·have:=(h.own b i hf).1;omega
theorem Yl{m:Mp}{a:Act}{as_:List Act}{s:FS}{w w':World}(hr:Rel cx m a as_ s w){c:Ck}{xs:List (El c)}{vs:List Value}{cur:Array Value}{cap:Nat}{t0:Option Nat}(hrow:Bg (vx cx m s w) c xs vs)(hch:Chg Cf w w')(hsz:w.heap.size<w'.heap.size)(hh:w'.heap[w.heap.size]? = some (.cells cur (cx.el c) (0,0)))(hcur:cur.size=cap*csz c)(hle:xs.length<=cap)(hmax:cap<=maxLen)(hpre:∀(j:Nat) u,vs[j]? = some u->cur[j]? = some u) :
  Rel cx { m with tk:=λt=>if t=s.nt then some (w.heap.size,xs.length*csz c) else m.tk t } a as_ { s with al:=λt=>(s.al t/\t0≠some t)\/t=s.nt,nt:=s.nt+1 } w'/\Rep (vx cx { m with tk:=λt=>if t=s.nt then some (w.heap.size,xs.length*csz c) else m.tk t } { s with al:=λt=>(s.al t/\t0≠some t)\/t=s.nt,nt:=s.nt+1 } w') (.sl c xs (.id s.nt)) (.slice (some ⟨w.heap.size,0,none⟩) xs.length cap):=by
 obtain⟨hrel,nx⟩:=hr.right (t0:=t0) (p:=some (w.heap.size,xs.length*csz c)) (hch.mono (λ_ _ h=>h.elim)) (λg o hg=>by simp at hg;obtain⟨rfl,rfl⟩:=hg;exact⟨hsz,.inl (Zn1 _)⟩)
 refine⟨hrel,?_⟩;simp;refine⟨Akr (hrow.later nx) ⟨hle,hmax⟩ (λj u hj =>?_) (λi hi =>?_),Nat.lt_succ_self _,λ_ =>.inr ⟨w.heap.size,cap,cur,rfl,by simp[vx],hh,hcur,hle,hmax⟩⟩
 ·show w'.cell? _=_;simp[World.cell?,hh];exact hpre j u hj
 ·rintro(hM|hf)
  ·have:=(hr.away _ i 0 hM).1;have:=hr.chg.size;omega
  ·rcases hf with ⟨q,hq,he⟩|⟨t,o,h1,h2,h3⟩
   ·have:=hr.own_b hq;have he:m.bl q=w.heap.size:=he;omega
   ·by_cases ht:t=s.nt
    ·subst ht;simp at h2;omega
    ·simp[if_neg ht] at h2;rcases h1 with h1|h1
     ·have:=hr.own_t h1.1 h2;omega
     ·exact absurd h1 ht
theorem Za(hp:PxOk cx px){o:Oper}{t len:Nat}{ps:Array (Nat×Operand)}(ho:o.op = .buildSlice t len ps){c:Ck}(hty:px.tt t = .sl c){l:List D}(hlen:l.length=len)(hmax:len*csz c<=16777216){xs:List (El c)}(hxs:A3k c l=some xs){s:FS}{m:Mp}{a:Act}{w:World}{vs:List Value}(h0:ps.toList.map (·.1)=List.range' 0 l.length)(h2:(ps.toList.map (·.2)).map a.eval=vs)(h3:Reps (vx cx m s w) l vs):xs.length=len/\len<=maxLen/\∃us,Bg (vx cx m s w) c xs us/\(execOp a.eval o).run cx.P w = .ok (.value (.slice (some ⟨w.heap.size,0,none⟩) len len)) (w.alloc (.cells us.toArray (cx.el c))):=by
 obtain⟨hrow,hcs,hxl⟩:=Azc hxs h3;obtain⟨by_,⟨hu,i0,z,hi0,hz,hsize,hby,hzs,hpos⟩,_,_⟩:=Cj (hp.tt t) hty;have hvl:vs.length=len:=by rw[h3.len,hlen]
 have hpl:(ps.map λx=>match x with|(i,x)=>(i,a.eval x))=((List.range' 0 vs.length).zip vs).toArray:=by apply Array.ext';rw[Array.toList_map];exact A6r (by rw[h0,h3.len]) h2
 have hzero:(((Array.range (len*csz c)).map λi=>z.cells[i % z.cells.size]!)).toList.length=len*csz c:=by simp
 have hfill:=Sx.fill_all (csz c) vs 0 [] (((Array.range (len*csz c)).map λi=>z.cells[i % z.cells.size]!)).toList hcs (by simp) (by rw[hzero,hvl];exact Zn1 _);have hdrop:(((Array.range (len*csz c)).map λi=>z.cells[i % z.cells.size]!)).toList.drop (vs.length*csz c)=[]:=Zk1 (by rw[hzero,hvl];exact Zn1 _);rw[hdrop] at hfill;simp only[Zf2,List.append_nil] at hfill;have hzv:(zeroValue (cx.el c)).run cx.P w = .ok z w:=by simp[zeroValue,typeInfo,hi0,hz]
 have hszr:(sizeOf (cx.el c)).run cx.P w = .ok (csz c) w:=by simp[sizeOf,typeInfo,hi0,hsize]
 have hm':¬(len*csz c > 2 ^ 24):=by have:(2:Nat) ^ 24=16777216:=rfl;omega
 refine⟨by omega,by have:=Afy c;have:len<=len*csz c:=Nat.le_mul_of_pos_right _ this;simp[maxLen];omega,_,hrow,?_⟩;by_cases h0':len*csz c=0
 ·have hv0:vs=[]:=by
   have:len=0:=by
    rcases Nat.mul_eq_zero.1 h0' with h|h
    ·exact h
    ·omega
   exact List.eq_nil_of_length_eq_zero (by omega)
  subst hv0;have hfe:Instr.fill (λi=>some (i*csz c,csz c)) ((Array.range (len*csz c)).map (λx=>(#[]:Array Value)[x % (#[]:Array Value).size]!)) []=some #[]:=by rw[h0'];simp[Instr.fill]
  simp only[execOp,ho,hpl,Instr.buildSlice,Sem.run_bind,run_underlying hu,Result.andThen_ok,hszr,if_neg hm',if_pos h0'];simp only[Zi1,List.range'_zero,List.zip_nil_left,hfe,newRow,newObj,Sem.run_bind,Sem.run,Sem.run_pure,Result.andThen_ok,World.alloc,List.flatMap_nil]
 ·simp only[execOp,ho,hpl,Instr.buildSlice,Sem.run_bind,run_underlying hu,Result.andThen_ok,hszr,if_neg hm',if_neg h0',hzv,hfill,newRow,newObj,Sem.run,Sem.run_pure,World.alloc]
theorem Bsh(c:Ck):csz c<=18:=by cases c<;>decide
theorem Ae4(hp:PxOk cx px){o:Oper}{t len:Nat}{ps:Array (Nat×Operand)}(ho:o.op = .buildSlice t len ps){st:St}{c:Ck}(hty:px.tt t = .sl c){xs:List (El c)}(hxs:Z5 px st c len ps.toList=some xs){s:FS}{m:Mp}{a:Act}{as_:List Act}{w:World}(hag:∀t x,x∈o.op.operands->evF px s.env t x=evF px (get st.env) t x)(hr:Rel cx m a as_ s w):xs.length=len/\len<=maxLen/\∃us,Bg (vx cx m s w) c xs us/\(execOp a.eval o).run cx.P w = .ok (.value (.slice (some ⟨w.heap.size,0,none⟩) len len)) (w.alloc (.cells us.toArray (cx.el c))):=by
 unfold Z5 at hxs;split at hxs
 ·rename_i cs hcs;split at hxs
  ·rename_i ds hds;split at hxs
   ·rename_i x hc hx;simp only[Zb1] at hc;obtain⟨hg,h1⟩:=hc;obtain rfl:=Zl1 h1;simp at hxs;subst hxs;unfold Bpz at hcs;split at hcs
    ·rename_i cs0 hps;simp at hcs;subst hcs;obtain⟨hrep,hlf⟩:=Ak7 (x:=vx cx m s w) hds;have hcz:=Bsh c;refine Za hp ho hty (l:=[.agg ds]) rfl (by omega) (xs:=[x]) (by simp[A3k,toK,hg,hx]) (vs:=[.agg cs0]) (by rw[hps];rfl) (by rw[hps];rfl) ?_;simp only[Reps];exact⟨_,[],rfl,⟨hlf,cs0.toList,by simp,hrep⟩,rfl⟩
    ·cases hcs
   ·cases hxs
  ·cases hxs
 ·split at hxs
  ·rename_i l hl;split at hxs
   ·rename_i ys hcd hys;simp only[Zb1] at hcd;simp at hxs;subst hxs;obtain⟨vs,h0,_,h2,h3⟩:=Acb hr.env hl (λu q hq=>by rw[Au];exact hag u q (by rw[ho];simpa[Op.operands] using hq));exact Za hp ho hty (Zl1 hcd.1) (by simpa using hcd.2) hys h0 h2 h3
   ·cases hxs
  ·cases hxs
theorem A1w(hp:PxOk cx px){o:Oper}{t len:Nat}{ps:Array (Nat×Operand)}(ho:o.op = .buildSlice t len ps){st:St}{c:Ck}(hty:px.tt t = .sl c){xs:List (El c)}(hxs:Z5 px st c len ps.toList=some xs):Eff cx px o st (Cz st) (.sl c xs (.id st.nt)):=by refine⟨⟨rfl,rfl,rfl,rfl,rfl⟩,λs m a as_ w hag hW hr =>?_⟩;obtain⟨hxl,hml,us,hrow,hrun⟩:=Ae4 hp ho hty hxs hag hr;have hnr:=Yl (t0:=none) hr (xs:=xs) (cur:=us.toArray) (cap:=len) hrow (D8 w _).1 (D8 w _).2 (Ca w _) (by simp;rw[hrow.1,hxl]) (by omega) hml (λj u hj=>by simpa using hj);have hfs:=Aat st st.tk none s hW (λt=>by simp);have hst:({ st with tk:=st.tk }:St)=st:=rfl;rw[hst] at hfs;have hnt:st.nt=s.nt:=hW.2.2.2.symm;rw[hxl] at hnr;rw[<-hfs] at hnr;exact .inl ⟨_,_,hrun,_,hnr.1,by rw[hnt];exact hnr.2⟩
theorem Azj{m:Mp}{a:Act}{as_:List Act}{s:FS}{w w':World}(hr:Rel cx m a as_ s w)(hch:Chg Cf w w'){c:Ck}{xs:List (El c)}{us:List Value}(hrow:Bg (vx cx m s w) c xs us){cap:Nat}(hle:xs.length<=cap/\cap<=maxLen)(hm:∀(j:Nat) u,us[j]? = some u->w'.cell? ⟨w.heap.size,j,none⟩=some u):Rep (vx cx m s w') (.sl c xs .no) (.slice (some ⟨w.heap.size,0,none⟩) xs.length cap):=by have nx:Nx (vx cx m s w) (vx cx m s w'):=⟨hch.mono (λ_ _ h=>h.elim),λb i hi =>.inl hi,rfl,λ_ _=>rfl,Zn1 _,Zn1 _,λt _ ha=>⟨ha,rfl,λg o hg=>hch.block g (hr.own_t ha hg) (λ_ h=>h)⟩⟩;simp[Rep];exact⟨Akr (hrow.later nx) hle hm (λi _=>Ann hr (Zn1 _) i),trivial⟩
theorem Gg(w:World)(n o:Nat)(e:TypeId):n<=grownCap w n o e:=by unfold grownCap Question.cut;exact Nat.le_add_right _ _
theorem Lt(w:World)(n o:Nat)(e:TypeId)(h:n<=9223372036854775807):grownCap w n o e<=maxLen:=by show n+w.tape w.drawn (.appendCap n o e) % (2 ^ 63-n)<=9223372036854775807;have:w.tape w.drawn (.appendCap n o e) % (2 ^ 63-n)<2 ^ 63-n:=Nat.mod_lt _ (by have:(2:Nat) ^ 63=9223372036854775808:=rfl;omega);have h2:(2:Nat) ^ 63=9223372036854775808:=rfl;omega
theorem Ua(hp:PxOk cx px){o:Oper}{q t:Nat}{x:Operand}(ho:o.op = .convert q t x){st:St}{l:Str}(hx:ev px st q x=some (.str l))(hty:px.tt t = .sl .byte)(hq:px.tt q = .str){s:FS}{m:Mp}{a:Act}{as_:List Act}{w:World}(hag:∀t x,x∈o.op.operands->evF px s.env t x=evF px (get st.env) t x)(hr:Rel cx m a as_ s w):∃v w',(execOp a.eval o).run cx.P w = .ok (.value v) w'/\Rel cx m a as_ s w'/\Rep (vx cx m s w') (.sl .byte l .no) v:=by
 rw[Au,<-hag _ x (by simp[ho,Op.operands])] at hx;obtain⟨v,_,hv,hrep⟩:=hr.env.ev hx;obtain rfl:=Rep.str hrep;obtain⟨by_,hT,_,h8⟩:=Cj (hp.tt t) hty;have hqs:=Sx.tyS_spec (Gf (hp.tt q) hq);obtain⟨cap,w',hrun,hch,hsz,hle,hcells⟩:∃cap w',(convert q t (Sx.S l)).run cx.P w = .ok (.slice (some ⟨w.heap.size,0,none⟩) l.length cap) w'/\Chg Cf w w'/\w.heap.size<w'.heap.size/\(l.length<=cap/\cap<=maxLen)/\∀(j:Nat) b,l[j]? = some b->w'.cell? ⟨w.heap.size,j,none⟩=some (.int .u8 (b.toNat:Int)):=by refine⟨_,_,run_bytes_of_string w q t (cx.el .byte) _ hqs hT.und (Sx.tyI_spec (h8 rfl)),(Chg.drew _ _).trans (Chg.alloc _ _ _),by simp,⟨Gg _ _ _ _,Lt _ _ _ _ (by have:=hrep.strLen;simp[maxLen] at this;simpa[ByteArray.size] using this)⟩,λj b hb =>?_⟩;have hh:∀o,(w.drew.alloc o).heap[w.heap.size]? = some o:=λo=>Ca w.drew o;simp only[World.cell?,hh];have hlt:j<l.length:=(Zi2.1 hb).1;simp[bytesRow];rw[Array.getElem?_append_left (by simpa using hlt)];simp[hb]
 refine⟨.slice (some ⟨w.heap.size,0,none⟩) l.length cap,w',by simp[execOp,ho,hv,hrun],hr.quiet hch,?_⟩;refine Azj hr hch (us:=l.map λb =>.int .u8 (b.toNat:Int)) ⟨by simp[csz],λi y j d hy hd =>?_⟩ hle (λj u hj =>?_)
 ·simp[enc] at hd;cases j with|succ j=>simp at hd|zero =>simp at hd;subst hd;refine⟨_,by simpa[csz] using ⟨y,hy,rfl⟩,λw'' _ =>.int _ _ (Bqb ?_)⟩;have:=y.toNat_lt;omega
 ·rw[List.getElem?_map] at hj;cases hb:l[j]? with|none=>simp[hb] at hj|some b=>simp[hb] at hj;subst hj;exact hcells j b hb
theorem Asz(hp:PxOk cx px){o:Oper}{q t:Nat}{x:Operand}(ho:o.op = .convert q t x){st:St}{l:Str}(hx:ev px st q x=some (.str l))(hty:px.tt t = .sl .byte)(hq:px.tt q = .str):Eff cx px o st st (.sl .byte l .no):=by refine⟨⟨rfl,rfl,rfl,rfl,rfl⟩,λs m a as_ w hag hW hr =>?_⟩;obtain⟨v,w',h1,h2,h3⟩:=Ua hp ho hx hty hq hag hr;rw[Iw hW];exact .inl ⟨v,w',h1,m,h2,h3⟩
theorem I4{c:Ck}{d:D}{ys:List (El c)}(h:toS c d=some ys):∃t,d = .sl c ys t:=by
 unfold toS at h;split at h
 ·split at h
  ·rename_i c' xs t hc;subst hc;simp at h;subst h;exact⟨t,rfl⟩
  ·cases h
 ·cases h
theorem Ld{P:Program}{t ty u:TypeId}{sz by_:Nat}{w:World}(hT:Sx.ElTy P t u sz by_){v:Value}{ad:Option Addr}{c:Nat}(hv:v = .slice none 0 0\/∃g n cap,v = .slice (some ⟨g,0,none⟩) n cap/\n<=cap):(Builtin.append_ #[t,t] ty #[v,.slice ad 0 c]).run P w = .ok v w:=by
 obtain⟨hu,i0,z,hi0,hz,hsz,hby,hzs,hpos⟩:=hT;rcases hv with rfl|⟨g,n,cap,rfl,hnc⟩
 ·cases ad<;>simp[ run_underlying hu,go_sem,sizeOf,typeInfo,hi0,loadCells]
 ·cases ad<;>simp[ run_underlying hu,go_sem,sizeOf,typeInfo,hi0,loadCells,loadCellsFrom,hnc,storeCells]
theorem Qm{c:Ck}{i0:TypeInfo}{z:Value}(hsize:i0.size=csz c)(hzs:z.cells.size=csz c){st:St}{xs ys:List (El c)}{tk:Tk}{al:List Nat}(hal:E3 st.tk tk=some al)(h63:xs.length+ys.length<=9223372036854775807){s:FS}{m:Mp}{a:Act}{as_:List Act}{w:World}(hW:C0 s (fs st))(hr:Rel cx m a as_ s w){v:Value}(hrf:RF (vx cx m s w).S (vx cx m s w).w (.sl c xs .no) v)(htk:TkR (vx cx m s w) c xs v tk){us:List Value}(hus:Bg (vx cx m s w) c ys us){Ap:Value->World->Prop}
  (hA0:ys=[]->(v = .slice none 0 0\/∃g n cap,v = .slice (some ⟨g,0,none⟩) n cap/\n<=cap)->Ap v w)
  (hAnil:v = .slice none 0 0->xs=[]->ys≠[]->Ap (.slice (some ⟨w.heap.size,0,none⟩) ys.length (grownCap w ys.length 0 (cx.el c))) (w.drew.alloc (.cells (us.toArray++Builtin.zeroCells z.cells (grownCap w ys.length 0 (cx.el c)-ys.length)) (cx.el c))))
  (hAroom:∀g cap cur,v = .slice (some ⟨g,0,none⟩) xs.length cap->w.heap[g]? = some (.cells cur (cx.el c) (0,0))->ys≠[]->xs.length+ys.length<=cap->xs.length*csz c+us.length<=cur.size->Ap (.slice (some ⟨g,0,none⟩) (xs.length+ys.length) cap) (w.setRow g (cur.toList.take (xs.length*csz c)++us++cur.toList.drop (xs.length*csz c+us.length)).toArray))
  (hAgrow:∀(g cap:Nat) (vs:List Value),v = .slice (some ⟨g,0,none⟩) xs.length cap->vs.length=xs.length*csz c->(∀(j:Nat) u,vs[j]? = some u->w.cell? ⟨g,j,none⟩=some u)->ys≠[]->¬xs.length+ys.length<=cap->Ap (.slice (some ⟨w.heap.size,0,none⟩) (xs.length+ys.length) (grownCap w (xs.length+ys.length) cap (cx.el c))) (w.drew.alloc (.cells (vs.toArray++us.toArray++Builtin.zeroCells z.cells (grownCap w (xs.length+ys.length) cap (cx.el c)-(xs.length+ys.length))) (cx.el c)))) :
  ∃v w',Ap v w'/\∃m',Rel cx m' a as_ (D3 (fs (Cz { st with tk:=al })) s) w'/\Rep (vx cx m' (D3 (fs (Cz { st with tk:=al })) s) w') (.sl c (xs++ys) (.id st.nt)) v:=by
 obtain⟨t0,hal',hrow⟩:∃t0:Option Nat,(∀q,q∈al↔(q∈st.tk/\t0≠some q))/\((v = .slice none 0 0/\xs=[])\/∃tt g cap cur,t0=some tt/\s.al tt/\m.tk tt=some (g,xs.length*csz c)/\v = .slice (some ⟨g,0,none⟩) xs.length cap/\w.heap[g]? = some (.cells cur (cx.el c) (0,0))/\cur.size=cap*csz c/\xs.length<=cap/\cap<=maxLen):=by
  unfold E3 at hal;split at hal
  ·cases hal
  ·simp at hal;subst hal;exact⟨none,λq=>by simp,.inl htk⟩
  ·rename_i tt;split at hal
   ·rename_i hc;simp at hal;subst hal;have hin:tt∈st.tk:=by simpa using hc
    refine⟨some tt,λq =>?_,?_⟩
    ·simp only[List.mem_filter,Bool.not_eq_true',ne_eq,Za1];constructor
     ·rintro⟨h1,h2⟩;refine⟨h1,λe =>?_⟩;subst e;simp at h2
     ·rintro⟨h1,h2⟩;exact⟨h1,Fo (Ne.symm h2)⟩
    ·have halive:s.al tt:=by rw[hW.2.2.1];exact hin
     rcases htk.2 halive with ⟨h1,_,h3⟩|⟨g,cap,cur,h1,h2,h3⟩
     ·exact .inl ⟨h1,h3⟩
     ·exact .inr ⟨tt,g,cap,cur,rfl,halive,h2,h1,h3⟩
   ·cases hal
  all_goals cases hal
 have hfs:=Aat st al t0 s hW hal';have hnt:st.nt=s.nt:=hW.2.2.2.symm;have hid:(D.sl c (xs++ys) (.id st.nt)) = .sl c (xs++ys) (.id s.nt):=by rw[hnt]
 by_cases hy0:ys=[]
 ·subst hy0;rw[List.append_nil];have hrun:=hA0 rfl (by
   rcases hrow with ⟨h1,_⟩|⟨_,g,cap,_,_,_,_,h1,_,_,h2,_⟩
   ·exact .inl h1
   ·exact .inr ⟨g,_,cap,h1,h2⟩)
  refine⟨v,w,hrun,?_⟩;have hid:(D.sl c xs (.id st.nt)) = .sl c xs (.id s.nt):=by rw[hnt]
  rw[hfs,hid];rcases hrow with ⟨h1,h2⟩|⟨tt,g,cap,cur,e1,e2,e3,e4,e5,e6,e7,e8⟩
  ·obtain⟨hrel,nx⟩:=hr.right (t0:=t0) (p:=none) (Chg.refl _ _) (λg o h=>by cases h);refine⟨_,hrel,?_⟩;simp[Rep];exact⟨nx.rf hrf,Nat.lt_succ_self _,λ_ =>.inl ⟨h1,by simp[vx],h2⟩⟩
  ·obtain⟨hrel,nx⟩:=hr.right (t0:=t0) (p:=some (g,xs.length*csz c)) (Chg.refl _ _) (λg' o' h=>by simp[Za1,Zp1] at h;obtain⟨rfl,rfl⟩:=h;exact⟨hr.own_t e2 e3,.inr ⟨tt,_,e1,e2,e3,Zn1 _⟩⟩)
   refine⟨_,hrel,?_⟩;simp[Rep];exact⟨nx.rf hrf,Nat.lt_succ_self _,λ_ =>.inr ⟨g,cap,cur,e4,by simp[vx],e5,e6,e7,e8⟩⟩
 ·have hyl : 0<ys.length:=List.length_pos_iff.2 hy0;have hul:us.length=ys.length*i0.size:=by rw[hus.1,hsize]
  rcases hrow with ⟨rfl,rfl⟩|⟨tt,g,cap,cur,e1,e2,e3,rfl,e5,e6,e7,e8⟩
  ·have hrun:=hAnil rfl rfl hy0;have hrow0:Bg (vx cx m s w) c ([]++ys) us:=by simpa using hus
   have hnr:=Yl (t0:=t0) hr (cur:=us.toArray++Builtin.zeroCells z.cells (grownCap w ys.length 0 (cx.el c)-ys.length)) (cap:=grownCap w ys.length 0 (cx.el c)) hrow0 ((Chg.drew _ _).trans (Chg.alloc Cf w.drew (.cells (us.toArray++Builtin.zeroCells z.cells (grownCap w ys.length 0 (cx.el c)-ys.length)) (cx.el c)))) (by simp) (Ca w.drew _) (by
    have hge:=Gg w ys.length 0 (cx.el c);simp[Array.size_append,List.size_toArray,hus.1,Builtin.zeroCells,Array.size_map,Array.size_range,hzs];rw[<-Nat.add_mul];congr 1;omega) (by simpa using Gg w ys.length 0 (cx.el c)) (Lt _ _ _ _ (by simp at h63;omega)) (λj u hj=>by
    have hlt:j<us.length:=(Zi2.1 hj).1;rw[Array.getElem?_append_left (by simpa using hlt)];simpa using hj)
   rw[<-hfs] at hnr;refine⟨_,_,hrun,_,hnr.1,?_⟩;rw[hid];simpa using hnr.2
  ·obtain⟨a1,cap1,vs,ev1,hvs,hvcell⟩:=Eu hrf;have hvcell:∀(j:Nat) u,vs[j]? = some u->w.cell? ⟨g,j,none⟩=some u:=by
    by_cases hx0:xs=[]
    ·subst hx0;intro j u hj;have:vs=[]:=List.eq_nil_of_length_eq_zero (by rw[hvs.1];simp);subst this;simp at hj
    ·simp at ev1;intro j u hj;have:=hvcell g 0 ev1.1.symm hx0 j u hj;rwa[Nat.zero_add] at this
   have hvl:vs.length=xs.length*i0.size:=by rw[hvs.1,hsize]
   by_cases hroom:xs.length+ys.length<=cap
   ·have hfit:xs.length*i0.size+us.length<=cur.size:=by rw[hul,e6,<-Nat.add_mul,hsize];exact Nat.mul_le_mul_right _ hroom
    rw[hsize] at hfit;have hrun:=hAroom g cap cur rfl e5 hy0 hroom hfit;have hnew:∀(j:Nat) u,(vs++us)[j]? = some u->(cur.toList.take (xs.length*csz c)++us++cur.toList.drop (xs.length*csz c+us.length)).toArray[j]? = some u:=by
     intro j u hj;have hvcur:∀(j:Nat) u,vs[j]? = some u->cur[j]? = some u:=λj u hj=>by have:=hvcell j u hj;simp[World.cell?,e5] at this;exact this
     have hlt:j<(vs++us).length:=(Zi2.1 hj).1;have htl:(cur.toList.take (xs.length*csz c)).length=xs.length*csz c:=by simp;omega
     simp only[List.getElem?_toArray];rw[List.getElem?_append_left (by simp[Zh1,htl];simp[Zh1,hvs.1] at hlt;exact hlt)];rw[List.getElem?_append] at hj ⊢;rw[htl];rw[hvs.1] at hj;split
     ·rename_i hlt2;rw[if_pos hlt2] at hj;rw[List.getElem?_take,if_pos hlt2];simpa using hvcur j u hj
     ·rename_i hlt2;rw[if_neg hlt2] at hj;exact hj
    have hcur':∀j,j<xs.length*csz c->(cur.toList.take (xs.length*csz c)++us++cur.toList.drop (xs.length*csz c+us.length)).toArray[j]? = cur[j]? := by
     intro j hj;have htl:(cur.toList.take (xs.length*csz c)).length=xs.length*csz c:=by simp;omega
     simp only[List.getElem?_toArray];rw[Zj1,List.getElem?_append_left (by rw[htl];exact hj),List.getElem?_take,if_pos hj];simp
    have hhg:(w.setRow g (cur.toList.take (xs.length*csz c)++us++cur.toList.drop (xs.length*csz c+us.length)).toArray).heap[g]? = some (.cells (cur.toList.take (xs.length*csz c)++us++cur.toList.drop (xs.length*csz c+us.length)).toArray (cx.el c) (0,0)):=setRow_heap w g cur _ _ _ e5;have hch:Chg (λb i=>∃t o,t0=some t/\s.al t/\m.tk t=some (b,o)/\o<=i) w (w.setRow g (cur.toList.take (xs.length*csz c)++us++cur.toList.drop (xs.length*csz c+us.length)).toArray):=by
     refine⟨rfl,rfl,rfl,by simp,λk _ hn=>setRow_other w g k _ (λe=>hn (xs.length*csz c) ⟨tt,_,e1,e2,by rw[e];exact e3,Zn1 _⟩),λb i v hcv hn =>?_,λb cs t f hq =>?_⟩
     rotate_left
     ·by_cases hb:b=g
      ·subst hb;rw[e5] at hq;simp[Za1,Obj.cells.injEq] at hq;obtain⟨rfl,rfl,rfl⟩:=hq;exact⟨_,_,hhg,by simp;omega⟩
      ·exact⟨cs,f,by rw[setRow_other w g b _ hb];exact hq,rfl⟩
     by_cases hb:b=g
     ·subst hb;have hi:i<xs.length*csz c:=by
       rcases Nat.lt_or_ge i (xs.length*csz c) with h|h
       ·exact h
       ·exact absurd ⟨tt,_,e1,e2,e3,h⟩ hn
      simp only[World.cell?,hhg,hcur' i hi];simpa only[World.cell?,e5] using hcv
     ·rw[World.cell?_of_block (a:=⟨b,i,none⟩) (setRow_other w g b _ hb)];exact hcv
    obtain⟨hrel,nx⟩:=hr.right (t0:=t0) (p:=some (g,(xs++ys).length*csz c)) hch (λg' o' h=>by simp only[Za1,Zp1] at h;obtain⟨rfl,rfl⟩:=h;refine⟨by simpa using hr.own_t e2 e3,.inr ⟨tt,_,e1,e2,e3,?_⟩⟩;simp;exact Nat.mul_le_mul_right _ (by omega))
    rw[<-hfs] at hrel;refine⟨_,_,hrun,_,hrel,?_⟩;rw[hid];simp only[Rep];rw[hfs];have hxyl:(xs++ys).length=xs.length+ys.length:=by simp
    rw[<-hxyl];refine⟨Akr ((hvs.append hus).later nx) ⟨by rw[hxyl];exact hroom,e8⟩ (λj u hj =>?_) (λi hi =>?_),Nat.lt_succ_self _,λ_ =>.inr ⟨g,cap,_,rfl,by simp[vx],hhg,?_,by rw[hxyl];exact hroom,e8⟩⟩
    ·show World.cell? _ _=_;simp only[vx,World.cell?,hhg];exact hnew j u hj
    ·rintro(hM|hf)
     ·exact hr.disj hM (.inr ⟨tt,_,e2,e3,Zn1 _⟩:Db m s g (xs.length*csz c))
     ·rcases hf with ⟨q,hq,he⟩|⟨t',o',h1,h2,h3⟩
      ·exact hr.injbt q tt g _ hq e2 e3 he
      ·by_cases ht:t' = s.nt
       ·subst ht;simp at h2;rw[hxyl] at hi;omega
       ·simp[if_neg ht] at h2;rcases h1 with h1|h1
        ·exact h1.2 (by rw[e1,hr.injt tt t' g _ _ e2 h1.1 e3 h2])
        ·exact absurd h1 ht
    ·have htl:(cur.toList.take (xs.length*csz c)).length=xs.length*csz c:=by simp;omega
     simp[List.size_toArray,htl,Za2];omega
   ·have hnr:=Yl (t0:=t0) hr (cur:=vs.toArray++us.toArray++Builtin.zeroCells z.cells (grownCap w (xs.length+ys.length) cap (cx.el c)-(xs.length+ys.length))) (cap:=grownCap w (xs.length+ys.length) cap (cx.el c)) (hvs.append hus) ((Chg.drew _ _).trans (Chg.alloc Cf w.drew (.cells (vs.toArray++us.toArray++Builtin.zeroCells z.cells (grownCap w (xs.length+ys.length) cap (cx.el c)-(xs.length+ys.length))) (cx.el c)))) (by simp) (Ca w.drew _) (by
     have hge:=Gg w (xs.length+ys.length) cap (cx.el c);simp[Array.size_append,List.size_toArray,hus.1,hvs.1,Builtin.zeroCells,Array.size_map,Array.size_range,hzs];rw[<-Nat.add_mul,<-Nat.add_mul];congr 1;omega) (by simpa using Gg w (xs.length+ys.length) cap (cx.el c)) (Lt _ _ _ _ h63) (λj u hj=>by
     have hlt:j<(vs++us).length:=(Zi2.1 hj).1;rw[Array.getElem?_append_left (by simpa using hlt)];simpa using hj)
    rw[<-hfs] at hnr;refine⟨_,_,(hAgrow g cap vs rfl hvs.1 hvcell hy0 hroom),_,hnr.1,?_⟩;rw[hid];simpa using hnr.2
theorem Aj9(hp:PxOk cx px){o:Oper}{t:Nat}{x y:Operand}(ho:o.op = .call ⟨.builtin .append, #[x,y], #[t,t]⟩){st:St}{c:Ck}(hty:px.tt t = .sl c){xs ys:List (El c)}{tk tk':Tk}(hx:ev px st t x=some (.sl c xs tk))(hy:ev px st t y=some (.sl c ys tk')){al:List Nat}(hal:E3 st.tk tk=some al)(hlen:xs.length+ys.length<=Ai):Eff cx px o st (Cz { st with tk:=al }) (.sl c (xs++ys) (.id st.nt)):=by
 refine⟨⟨rfl,rfl,rfl,rfl,rfl⟩,λs m a as_ w hag hW hr =>?_⟩;rw[Au,<-hag _ x (by simp[ho,Op.operands,Call.operands])] at hx;rw[Au,<-hag _ y (by simp[ho,Op.operands,Call.operands])] at hy;obtain⟨v,_,hv,hrx⟩:=hr.env.ev hx;obtain⟨v2,_,hv2,hry⟩:=hr.env.ev hy;simp[Rep] at hrx hry;obtain⟨hrf,htk⟩:=hrx;obtain⟨ad,cap2,us,rfl,hus,hucell⟩:=Eu hry.1;obtain⟨by_,hT,hby512,_⟩:=Cj (hp.tt t) hty;have hT0:=hT;obtain⟨hu,i0,z,hi0,hz,hsize,hby,hzs,hpos⟩:=hT;have hbound:(xs.length+ys.length)*by_<=140737488355328:=by
  have hlen':xs.length+ys.length<=274877906944:=by unfold Ai at hlen;exact hlen
  have h1:(xs.length+ys.length)*by_<=274877906944*512:=Nat.mul_le_mul hlen' hby512;omega
 have h63:xs.length+ys.length<=9223372036854775807:=by unfold Ai at hlen;omega
 have hexec:∀(r:Value) (w':World),(Builtin.append_ #[t,t] o.type #[v,.slice ad ys.length cap2]).run cx.P w = .ok r w'->(execOp a.eval o).run cx.P w = .ok (.value r) w':=by intro r w' hr;simp[execOp,ho,resolve,invoke,builtin,Sem.run_bind,Sem.run_pure,Zw1,List.map_nil,hv,hv2,hr]
 have hul:us.length=ys.length*i0.size:=by rw[hus.1,hsize]
 have hone:∀u,u∈us->u.oneCell' = true:=λu hu=>Sx.one_oneCell (hus.one u hu);have hadr:ys≠[]->∃b2 o2,ad=some ⟨b2,o2,none⟩:=λhy0=>by
  obtain⟨a',cap',e1,h⟩:=B2 hry.1;simp at e1;rcases h with h|⟨b,o',h,_⟩
  ·exact absurd h hy0
  ·exact⟨b,o',by rw[e1.1,h]⟩
 have hnews:∀b2 o2,ad=some ⟨b2,o2,none⟩->ys≠[]->∀(j:Nat) u,us[j]? = some u->w.cell? ((⟨b2,o2,none⟩:Addr).add j)=some u:=λb2 o2 e hy0 j u hj=>by rw[Sx.add_mk];exact hucell b2 o2 e hy0 j u hj
 refine(λh=>by obtain⟨v,w',h1,h2⟩:=h;exact .inl ⟨v,w',hexec _ _ h1,h2⟩) (Qm (Ap:=λr w'=>(Builtin.append_ #[t,t] o.type #[v,.slice ad ys.length cap2]).run cx.P w = .ok r w') hsize hzs hal h63 hW hr hrf htk hus ?_ ?_ ?_ ?_)
 ·intro hy0 hvv;subst hy0;exact Ld (P:=cx.P) (t:=t) (ty:=o.type) (w:=w) hT0 (v:=v) (ad:=ad) (c:=cap2) hvv
 ·intro hv0 hx0 hy0;obtain⟨b2,o2,had⟩:=hadr hy0;subst hv0 hx0 had;have hyl : 0<ys.length:=List.length_pos_iff.2 hy0;exact run_append_nil (P:=cx.P) w t o.type (cx.el c) i0 z hu hi0 hz ⟨b2,o2,none⟩ ys.length cap2 us hul (hnews b2 o2 rfl hy0) hyl (by simp at h63;omega) (by rw[hby];simp at hbound;omega)
 ·intro g cap cur hvv e5 hy0 hroom hfit;obtain⟨b2,o2,had⟩:=hadr hy0;subst hvv had;have hrun:=run_append_room (P:=cx.P) w t o.type (cx.el c) i0 hu hi0 g xs.length cap cur e5 ⟨b2,o2,none⟩ ys.length cap2 us hul (hnews b2 o2 rfl hy0) hone hroom (by rw[hsize];exact hfit);rw[hsize] at hrun;exact hrun
 ·intro g cap vs hvv hvl hvcell hy0 hroom;obtain⟨b2,o2,had⟩:=hadr hy0;subst hvv had;have hyl : 0<ys.length:=List.length_pos_iff.2 hy0;exact run_append_grow (P:=cx.P) w t o.type (cx.el c) i0 z hu hi0 hz ⟨g,0,none⟩ xs.length cap vs (by rw[hsize];exact hvl) (λj u hj=>by rw[Sx.add_mk,Nat.zero_add];exact hvcell j u hj) ⟨b2,o2,none⟩ ys.length cap2 us hul (hnews b2 o2 rfl hy0) (by omega) (by omega) (growslice_fits (by omega) (by rw[hby];exact hbound))
theorem Ou(hp:PxOk cx px){o:Oper}{t:Nat}{x y:Operand}(ho:o.op = .call ⟨.builtin .append, #[x,y], #[t,t]⟩){st:St}{c:Ck}(hty:px.tt t = .sl c){xs ys:List (El c)}{tk':Tk}(hx:ev px st t x=some (.sl c xs .f))(hy:ev px st t y=some (.sl c ys tk'))(hy0:ys≠[])(hlen:xs.length+ys.length<=Ai):Eff cx px o st (Cz st) (.sl c (xs++ys) (.id st.nt)):=by
 refine⟨⟨rfl,rfl,rfl,rfl,rfl⟩,λs m a as_ w hag hW hr =>?_⟩;rw[Au,<-hag _ x (by simp[ho,Op.operands,Call.operands])] at hx;rw[Au,<-hag _ y (by simp[ho,Op.operands,Call.operands])] at hy;obtain⟨v,_,hv,hrx⟩:=hr.env.ev hx;obtain⟨v2,_,hv2,hry⟩:=hr.env.ev hy;simp[Rep] at hrx hry;obtain⟨hrf,ad1,rfl⟩:=hrx;obtain⟨ad,cap2,us,rfl,hus,hucell⟩:=Eu hry.1;obtain⟨by_,hT,hby512,_⟩:=Cj (hp.tt t) hty;obtain⟨hu,i0,z,hi0,hz,hsize,hby,hzs,hpos⟩:=hT;have hbound:(xs.length+ys.length)*by_<=140737488355328:=by
  have hlen':xs.length+ys.length<=274877906944:=by unfold Ai at hlen;exact hlen
  have h1:(xs.length+ys.length)*by_<=274877906944*512:=Nat.mul_le_mul hlen' hby512;omega
 have h63:xs.length+ys.length<=9223372036854775807:=by unfold Ai at hlen;omega
 have hul:us.length=ys.length*i0.size:=by rw[hus.1,hsize]
 have hyl : 0<ys.length:=List.length_pos_iff.2 hy0;obtain⟨b2,o2,had⟩:∃b2 o2,ad=some ⟨b2,o2,none⟩:=by
  obtain⟨a',cap',e1,h⟩:=B2 hry.1;simp at e1;rcases h with h|⟨b,o',h,_⟩
  ·exact absurd h hy0
  ·exact⟨b,o',by rw[e1.1,h]⟩
 subst had;have hnews:∀(j:Nat) u,us[j]? = some u->w.cell? ((⟨b2,o2,none⟩:Addr).add j)=some u:=λj u hj=>by rw[Sx.add_mk];exact hucell b2 o2 rfl hy0 j u hj
 have hexec:∀(r:Value) (w':World),(Builtin.append_ #[t,t] o.type #[.slice ad1 xs.length xs.length,.slice (some ⟨b2,o2,none⟩) ys.length cap2]).run cx.P w = .ok r w'->(execOp a.eval o).run cx.P w = .ok (.value r) w':=by intro r w' hr;simp[execOp,ho,resolve,invoke,builtin,Sem.run_bind,Sem.run_pure,Zw1,List.map_nil,hv,hv2,hr]
 have hfs:=Aat st st.tk none s hW (λt=>by simp);have hfs:D3 (fs (Cz st)) s={ s with al:=λt=>(s.al t/\(none:Option Nat)≠some t)\/t=s.nt,nt:=s.nt+1 }:=hfs;have hnt:st.nt=s.nt:=hW.2.2.2.symm;obtain⟨a1,cap1,vs,ev1,hvs,hvcell⟩:=Eu hrf;cases ad1 with
 |none =>
  have hx0:xs=[]:=by
   obtain⟨a',cap',e1,h⟩:=B2 hrf;simp at e1;rcases h with h|⟨b,o',h,_⟩
   ·exact h
   ·rw[h] at e1;simp at e1
  subst hx0;have hrun:=run_append_nil (P:=cx.P) w t o.type (cx.el c) i0 z hu hi0 hz ⟨b2,o2,none⟩ ys.length cap2 us hul hnews hyl (by simp at h63;omega) (by rw[hby];simp at hbound;omega);have hrow0:Bg (vx cx m s w) c ([]++ys) us:=by simpa using hus
  have hnr:=Yl (t0:=none) hr (cur:=us.toArray++Builtin.zeroCells z.cells (grownCap w ys.length 0 (cx.el c)-ys.length)) (cap:=grownCap w ys.length 0 (cx.el c)) hrow0 ((Chg.drew _ _).trans (Chg.alloc Cf w.drew (.cells (us.toArray++Builtin.zeroCells z.cells (grownCap w ys.length 0 (cx.el c)-ys.length)) (cx.el c)))) (by simp) (Ca w.drew _) (by
   have hge:=Gg w ys.length 0 (cx.el c);simp[Array.size_append,List.size_toArray,hus.1,Builtin.zeroCells,Array.size_map,Array.size_range,hzs];rw[<-Nat.add_mul];congr 1;omega) (by simpa using Gg w ys.length 0 (cx.el c)) (Lt _ _ _ _ (by simp at h63;omega)) (λj u hj=>by
   have hlt:j<us.length:=(Zi2.1 hj).1;rw[Array.getElem?_append_left (by simpa using hlt)];simpa using hj)
  rw[<-hfs] at hnr;exact .inl ⟨_,_,hexec _ _ hrun,_,hnr.1,by rw[hnt];simpa using hnr.2⟩
 |some p =>
  have hpc:∀(j:Nat) u,vs[j]? = some u->w.cell? (p.add j)=some u:=λj u hj=>by
   by_cases hx0:xs=[]
   ·subst hx0;have:vs=[]:=List.eq_nil_of_length_eq_zero (by rw[hvs.1];simp);subst this;simp at hj
   ·obtain⟨a',cap',e1,h⟩:=B2 hrf;rcases h with h|⟨b,o',h,_⟩
    ·exact absurd h hx0
    ·subst h;simp at e1;obtain⟨rfl,_⟩:=e1;rw[Sx.add_mk];simp at ev1;exact hvcell b o' ev1.1.symm hx0 j u hj
  have hrun:=run_append_grow (P:=cx.P) w t o.type (cx.el c) i0 z hu hi0 hz p xs.length xs.length vs (by rw[hsize];exact hvs.1) hpc ⟨b2,o2,none⟩ ys.length cap2 us hul hnews (by omega) (by omega) (growslice_fits (by omega) (by rw[hby];exact hbound));have hnr:=Yl (t0:=none) hr (cur:=vs.toArray++us.toArray++Builtin.zeroCells z.cells (grownCap w (xs.length+ys.length) xs.length (cx.el c)-(xs.length+ys.length))) (cap:=grownCap w (xs.length+ys.length) xs.length (cx.el c)) (hvs.append hus) ((Chg.drew _ _).trans (Chg.alloc Cf w.drew (.cells (vs.toArray++us.toArray++Builtin.zeroCells z.cells (grownCap w (xs.length+ys.length) xs.length (cx.el c)-(xs.length+ys.length))) (cx.el c)))) (by simp) (Ca w.drew _) (by
   have hge:=Gg w (xs.length+ys.length) xs.length (cx.el c);simp[Array.size_append,List.size_toArray,hus.1,hvs.1,Builtin.zeroCells,Array.size_map,Array.size_range,hzs];rw[<-Nat.add_mul,<-Nat.add_mul];congr 1;omega) (by simpa using Gg w (xs.length+ys.length) xs.length (cx.el c)) (Lt _ _ _ _ h63) (λj u hj=>by
   have hlt:j<(vs++us).length:=(Zi2.1 hj).1;rw[Array.getElem?_append_left (by simpa using hlt)];simpa using hj)
  rw[<-hfs] at hnr;exact .inl ⟨_,_,hexec _ _ hrun,_,hnr.1,by rw[hnt];simpa using hnr.2⟩
theorem Z8{P:Program}{t ty u:TypeId}{sz by_:Nat}{w:World}(hT:Sx.ElTy P t u sz by_){p:Addr}{n:Nat}{ad:Option Addr}{c:Nat}:(Builtin.append_ #[t,t] ty #[.slice (some p) n n,.slice ad 0 c]).run P w = .ok (.slice (some p) n n) w:=by obtain⟨hu,i0,z,hi0,hz,hsz,hby,hzs,hpos⟩:=hT;cases ad<;>simp[ run_underlying hu,go_sem,sizeOf,typeInfo,hi0,loadCells,loadCellsFrom,storeCells]
theorem Mr(hp:PxOk cx px){o:Oper}{t:Nat}{x y:Operand}(ho:o.op = .call ⟨.builtin .append, #[x,y], #[t,t]⟩){st:St}{c:Ck}(hty:px.tt t = .sl c){xs ys:List (El c)}{tk':Tk}(hx:ev px st t x=some (.sl c xs .f))(hy:ev px st t y=some (.sl c ys tk'))(hy0:ys=[]):Eff cx px o st st (.sl c xs .f):=by
 refine⟨⟨rfl,rfl,rfl,rfl,rfl⟩,λs m a as_ w hag hW hr =>?_⟩;rw[Au,<-hag _ x (by simp[ho,Op.operands,Call.operands])] at hx;rw[Au,<-hag _ y (by simp[ho,Op.operands,Call.operands])] at hy;obtain⟨v,_,hv,hrx⟩:=hr.env.ev hx;obtain⟨v2,_,hv2,hry⟩:=hr.env.ev hy;have hrx0:=hrx;simp[Rep] at hrx hry;obtain⟨hrf,ad1,rfl⟩:=hrx;obtain⟨ad,cap2,us,rfl,hus,hucell⟩:=Eu hry.1;obtain⟨by_,hT,_,_⟩:=Cj (hp.tt t) hty;subst hy0;have hrun:(Builtin.append_ #[t,t] o.type #[.slice ad1 xs.length xs.length,.slice ad ([]:List (El c)).length cap2]).run cx.P w = .ok (.slice ad1 xs.length xs.length) w:=by
  cases ad1 with
  |none =>
   have hx0:xs=[]:=by
    obtain⟨a',cap',e1,h⟩:=B2 hrf;simp at e1;rcases h with h|⟨b,o',h,_⟩
    ·exact h
    ·rw[h] at e1;simp at e1
   subst hx0;exact Ld hT (.inl rfl)
  |some p=>exact Z8 hT
 refine .inl ⟨.slice ad1 xs.length xs.length,w,?_,m,?_,?_⟩
 ·have hrun:(Builtin.append_ #[t,t] o.type #[.slice ad1 xs.length xs.length,.slice ad 0 cap2]).run cx.P w = .ok (.slice ad1 xs.length xs.length) w:=by simpa using hrun
  simp[execOp,ho,resolve,invoke,builtin,Sem.run_bind,Sem.run_pure,Zw1,List.map_nil,hv,hv2,hrun]
 ·rw[Iw hW];exact hr
 ·rw[Iw hW];exact hrx0
theorem O2(hp:PxOk cx px){o:Oper}{t t':Nat}{x y:Operand}(ho:o.op = .call ⟨.builtin .append, #[x,y], #[t,t']⟩){st:St}(hty:px.tt t = .sl .byte)(hty':px.tt t' = .str){xs:List UInt8}{l:Str}{tk:Tk}(hx:ev px st t x=some (.sl .byte xs tk))(hy:ev px st t y=some (.str l)){al:List Nat}(hal:E3 st.tk tk=some al)(hlen:xs.length+l.length<=Ai):Eff cx px o st (Cz { st with tk:=al }) (.sl .byte (xs++l:List UInt8) (.id st.nt)):=by
 refine⟨⟨rfl,rfl,rfl,rfl,rfl⟩,λs m a as_ w hag hW hr =>?_⟩;rw[Au,<-hag _ x (by simp[ho,Op.operands,Call.operands])] at hx;rw[Au,<-hag _ y (by simp[ho,Op.operands,Call.operands])] at hy;obtain⟨v,_,hv,hrx⟩:=hr.env.ev hx;obtain⟨v2,_,hv2,hry⟩:=hr.env.ev hy;simp[Rep] at hrx hry;obtain⟨hrf,htk⟩:=hrx;obtain⟨rfl,hlm⟩:=hry;obtain⟨by_,hT,hby512,h8⟩:=Cj (hp.tt t) hty;have hT0:=hT;obtain⟨hu,i0,z,hi0,hz,hsize,hby,hzs,hpos⟩:=hT;have hstr:=Sx.tyS_spec (Gf (hp.tt t') hty');have hbound:(xs.length+l.length)*by_<=140737488355328:=by
  have hlen':xs.length+l.length<=274877906944:=by unfold Ai at hlen;exact hlen
  have h1:(xs.length+l.length)*by_<=274877906944*512:=Nat.mul_le_mul hlen' hby512;omega
 have h63:xs.length+l.length<=9223372036854775807:=by unfold Ai at hlen;omega
 have hexec:∀(r:Value) (w':World),(Builtin.append_ #[t,t'] o.type #[v,.string ⟨l.toArray⟩]).run cx.P w = .ok r w'->(execOp a.eval o).run cx.P w = .ok (.value r) w':=by intro r w' hr;simp[execOp,ho,resolve,invoke,builtin,Sem.run_bind,Sem.run_pure,Result.andThen_ok,List.map_toArray,Zw1,List.map_nil,hv,hv2,hr]
 have hs1:i0.size=1:=hsize;have hsz:(⟨l.toArray⟩:ByteArray).size=l.length:=by simp[ByteArray.size]
 have hcells:Lib.strCells (⟨l.toArray⟩:ByteArray)=l.map λb=>Value.int .u8 (b.toNat:Int):=by simp[Lib.strCells]
 have hus:Bg (vx cx m s w) .byte (l:List UInt8) (l.map λb=>Value.int .u8 (b.toNat:Int)):=by
  refine⟨by simp[csz],λi y j d hy hd =>?_⟩;obtain⟨rfl,rfl⟩:j=0/\d = .int .u8 (y.toNat:Int):=by cases j with|zero=>exact⟨rfl,by simpa[enc] using hd.symm⟩|succ j=>simp[enc] at hd
  refine⟨.int .u8 (y.toNat:Int),?_,λw' _ =>.int _ _ ?_⟩
  ·have hy:l[i]? = some y:=hy;simp[csz,hy]
  ·have:=y.toNat_lt;simp[Fe,IntKind.min,IntKind.max,IntKind.signed,IntKind.bits];omega
 refine(λh=>by obtain⟨v,w',h1,h2⟩:=h;exact .inl ⟨v,w',hexec _ _ h1,h2⟩) (Qm (c :=.byte) (ys:=(l:List UInt8)) (Ap:=λr w'=>(Builtin.append_ #[t,t'] o.type #[v,.string ⟨l.toArray⟩]).run cx.P w = .ok r w') hsize hzs hal h63 hW hr hrf htk hus ?_ ?_ ?_ ?_)
 ·intro hy0 hvv;have hy0:l=[]:=hy0;subst hy0;rcases hvv with rfl|⟨g,n,cap,rfl,hnc⟩
  ·simp[Builtin.append_,run_underlying hu,run_underlying hstr,sizeOf,typeInfo,hi0,Builtin.lenOf,go_sem,ByteArray.size]
  ·simp[Builtin.append_,run_underlying hu,run_underlying hstr,sizeOf,typeInfo,hi0,Builtin.lenOf,go_sem,ByteArray.size,hnc,storeCells]
 ·intro hv0 hx0 hy0;have hx0:xs=[]:=hx0;subst hv0 hx0;have hyl : 0<l.length:=List.length_pos_iff.2 hy0;have hrun:=run_append_nil_string (P:=cx.P) (w:=w) t t' o.type (cx.el .byte) i0 z hu hstr hi0 hz ⟨l.toArray⟩ (by rw[hsz];exact hyl) (by rw[hsz];simp at h63;omega) (by rw[hsz,hby];simp at hbound;omega);rw[hsz] at hrun;have e1:((⟨l.toArray⟩:ByteArray).data.map λb=>Value.int .u8 b.toNat)=(l.map λb=>Value.int .u8 (b.toNat:Int)).toArray:=by apply Array.ext';simp
  rw[e1] at hrun;exact hrun
 ·intro g cap cur hvv e5 hy0 hroom hfit;subst hvv;have hrun:=Lib.run_append_room_string (P:=cx.P) (w:=w) t t' o.type (cx.el .byte) i0 hu hstr hi0 hs1 g xs.length cap cur e5 ⟨l.toArray⟩ (by rw[hsz];exact hroom) (by rw[hsz];simpa[csz] using hfit);rw[hcells,hsz] at hrun;simpa[csz] using hrun
 ·intro g cap vs hvv hvl hvcell hy0 hroom;subst hvv;have hrun:=Lib.run_append_grow_string (P:=cx.P) (w:=w) t t' o.type (cx.el .byte) i0 z hu hstr hi0 hz ⟨g,0,none⟩ xs.length cap vs (by rw[hs1];simpa[csz] using hvl) (λj u hj=>by rw[Sx.add_mk,Nat.zero_add];exact hvcell j u hj) ⟨l.toArray⟩ (by rw[hsz];omega) (by rw[hsz];omega) (by rw[hsz];exact growslice_fits (by have : 0<l.length:=List.length_pos_iff.2 hy0;omega) (by rw[hby];exact hbound));rw[hcells,hsz] at hrun;exact hrun
theorem A0r{α:Type}(xs:List α)(o:Nat):Cd xs o []=xs:=by simp[Cd]
theorem Ej{α:Type}(xs:List α)(o:Nat)(l:List α)(h:o+l.length<=xs.length):(Cd xs o l).length=xs.length:=by simp[Cd,Za2];omega
theorem Alf{α:Type}(xs:List α)(o:Nat)(l:List α)(h:o+l.length<=xs.length)(q:Nat):(Cd xs o l)[q]? = if o<=q/\q<o+l.length then l[q-o]? else xs[q]? := by
 have ht:(xs.take o).length=o:=by simp;omega
 simp[Cd];by_cases h1:q<o
 ·rw[List.getElem?_append_left (by omega),if_neg (by omega),List.getElem?_take,if_pos h1]
 ·rw[List.getElem?_append_right (by omega),ht];by_cases h2:q<o+l.length
  ·rw[List.getElem?_append_left (by omega),if_pos (by omega)]
  ·rw[List.getElem?_append_right (by omega),if_neg (by omega),List.getElem?_drop];congr 1;omega
theorem Aw2(hp:PxOk cx px){o:Oper}{t t':Nat}{x y:Operand}(ho:o.op = .call ⟨.builtin .copy, #[x,y], #[t,t']⟩){st:St}{c:Ck}{b:Nat}{p n:Int}{xs ys:List (El c)}{tk:Tk}(hty:px.tt t = .sl c)(hx:ev px st t x=some (.osl b c p n))(hy:ev px st t y=some (.sl c ys tk))(hb:blk st.bl b=some (.dyn c xs))(h1:csz c=1)(hp0 : 0<=p)(_hn0 : 0<=n)(hpn:p+n<=(xs.length:Int)):Eff cx px o st { st with bl:=Ge st.bl b (.dyn c (Cd xs p.toNat (ys.take n.toNat))) } (.int .i64 ((min n.toNat ys.length:Nat):Int)):=by
 refine⟨⟨rfl,rfl,rfl,rfl,rfl⟩,λs m a as_ w hag hW hr =>?_⟩;rw[Au,<-hag _ x (by simp[ho,Op.operands,Call.operands])] at hx;rw[Au,<-hag _ y (by simp[ho,Op.operands,Call.operands])] at hy;obtain⟨v,_,hv,hrx⟩:=hr.env.ev hx;obtain⟨v2,_,hv2,hry⟩:=hr.env.ev hy;simp[Rep] at hrx hry;obtain⟨g1,_,_,g4,ad,cap,rfl,g5,g6,g7,_⟩:=hrx;obtain⟨ad2,cap2,us,rfl,hus,hucell⟩:=Eu hry.1;obtain⟨by_,⟨hu,i0,z,hi0,hz,hsize,hby,hzs,hpos⟩,hby512,_⟩:=Cj (hp.tt t) hty;have hsz:(cx.P.info? (cx.el c)).map (·.size)=some 1:=by rw[hi0];simp[hsize,h1]
 have hsb:s.bl b=some (.dyn c xs):=by rw[hW.1];exact hb
 obtain⟨_,hnl,vs,ty,hh,hlen,hreps⟩:=hr.blks b _ hsb;have hh:w.heap[m.bl b]? = some (.cells vs.toArray ty (0,0)):=hh;have hexec:∀(r:Value) (w':World),(Builtin.copy_ #[t,t'] o.type #[.slice ad n.toNat cap,.slice ad2 ys.length cap2]).run cx.P w = .ok r w'->(execOp a.eval o).run cx.P w = .ok (.value r) w':=by intro r w' hr;simp[execOp,ho,resolve,invoke,builtin,Sem.run_bind,Sem.run_pure,Result.andThen_ok,List.map_toArray,Zw1,List.map_nil,hv,hv2,hr]
 have hul:us.length=ys.length:=by rw[hus.1,h1,Nat.mul_one]
 have hres:∀(x':Vx),Rep x' (.int .i64 ((min n.toNat ys.length:Nat):Int)) (goInt ((min n.toNat ys.length:Nat):Int)):=λx'=>by simp[Rep];refine⟨rfl,Anm ?_⟩;have hq:min n.toNat ys.length<=n.toNat:=Nat.min_le_left _ _;have hm:maxLen=9223372036854775807:=rfl;simp only[IntKind.min,IntKind.max,IntKind.signed,IntKind.bits];simp[if_true];omega
 by_cases h0:Nat.min ys.length n.toNat=0
 ·have hrun:=run_copy_none (P:=cx.P) w t t' o.type (cx.el c) ad ad2 n.toNat cap ys.length cap2 hu hsz h0;have hk0:min n.toNat ys.length=0:=by rw[Nat.min_comm];exact h0
  have ht0:ys.take n.toNat=[]:=by apply List.eq_nil_of_length_eq_zero;rw[List.length_take];exact hk0
  refine .inl ⟨_,w,hexec _ _ hrun,m,?_,?_⟩
  ·rw[Tn st b _ _ s hW hb,ht0,A0r];have:({ s with bl:=λc'=>if c' = b then some (.dyn c xs) else s.bl c' }:FS)=s:=by
    refine FS.eq rfl rfl rfl rfl rfl ?_ rfl rfl rfl;funext c';by_cases hc:c' = b
    ·subst hc;simp[hsb]
    ·simp[hc]
   rw[this];exact hr
  ·have:=hres (vx cx m (D3 (fs { st with bl:=Ge st.bl b (.dyn c (Cd xs p.toNat (ys.take n.toNat))) }) s) w);rw[hk0] at this ⊢;exact this
 ·have hn1 : 0<n.toNat/\0<ys.length:=by have : 0<min ys.length n.toNat:=Nat.pos_of_ne_zero h0;omega
  obtain rfl:=g5.resolve_left (by omega);obtain⟨b2,o2,rfl,hcell2⟩:∃b2 o2,ad2=some ⟨b2,o2,none⟩/\∀(j:Nat) u,us[j]? = some u->w.cell? ⟨b2,o2+j,none⟩=some u:=by
   obtain⟨a',cap',hva,hf⟩:=B2 hry.1;simp[Value.slice.injEq] at hva;rcases hf with e|⟨b2,o2,e,_⟩
   ·rw[e] at hn1;simp at hn1
   ·obtain⟨e1,_⟩:=hva;exact⟨b2,o2,e1.trans e,hucell b2 o2 (e1.trans e) (by intro e;rw[e] at hn1;simp at hn1)⟩
  have hcl:(us.take n.toNat).length=Nat.min ys.length n.toNat:=by rw[List.length_take,hul,Nat.min_comm]
  have hmin:Nat.min ys.length n.toNat=min ys.length n.toNat:=rfl;have hpt:p.toNat*csz c=p.toNat:=by rw[h1,Nat.mul_one]
  have hfit:p.toNat+(us.take n.toNat).length<=vs.length:=by rw[hcl];rw[h1] at hlen;omega
  have hrun:=run_copy_row (P:=cx.P) w t t' o.type (cx.el c) (m.bl b) (p.toNat*csz c) n.toNat cap ⟨b2,o2,none⟩ ys.length cap2 vs.toArray ty (us.take n.toNat) hu hsz hh hcl (λj u hj=>by
   rw[Sx.add_mk];refine hcell2 j u ?_;rw[List.getElem?_take] at hj;split at hj
   ·exact hj
   ·cases hj) (by rw[hpt];simpa using hfit) (λu hu=>by
    have:=hus.one u (List.mem_of_mem_take hu);exact this)
  rw[hpt] at hrun;have hh2:=setRow_heap w (m.bl b) vs.toArray (vs.toArray.toList.take p.toNat++us.take n.toNat++vs.toArray.toList.drop (p.toNat+(us.take n.toNat).length)).toArray ty (0,0) hh;have hnewv:(vs.toArray.toList.take p.toNat++us.take n.toNat++vs.toArray.toList.drop (p.toNat+(us.take n.toNat).length))=Cd vs p.toNat (us.take n.toNat):=by simp[Cd,Zj1]
  rw[hnewv] at hrun hh2;have hch:Chg (λc' _=>c' = m.bl b) w (w.setRow (m.bl b) (Cd vs p.toNat (us.take n.toNat)).toArray):=by
   refine⟨rfl,rfl,rfl,by simp,λk _ hk=>setRow_other w _ k _ (λe=>hk 0 e),λb' i u hcv hk =>?_,λb' cs t2 f hq =>?_⟩
   ·rw[World.cell?_of_block (a:=⟨b',i,none⟩) (setRow_other w _ b' _ (λe=>hk e))];exact hcv
   ·by_cases hbb:b' = m.bl b
    ·subst hbb;rw[hh] at hq;simp[Za1,Obj.cells.injEq] at hq;obtain⟨rfl,rfl,rfl⟩:=hq;exact⟨_,_,hh2,by simp[Ej _ _ _ hfit]⟩
    ·exact⟨cs,f,by rw[setRow_other w _ b' _ hbb];exact hq,rfl⟩
  have htl:(ys.take n.toNat).length=(us.take n.toNat).length:=by simp[hul]
  have hfit2:p.toNat+(ys.take n.toNat).length<=xs.length:=by rw[htl,hcl];omega
  have hrel:=hr.write (k :=.dyn c (Cd xs p.toNat (ys.take n.toNat))) hsb hch (λx' nx hw=>by
   refine⟨by rw[Ej _ _ _ hfit2];exact hnl,Cd vs p.toNat (us.take n.toNat),ty,by rw[hw];exact hh2,by rw[Ej _ _ _ hfit2,Ej _ _ _ hfit];exact hlen,λq y j d hy' hd' =>?_⟩;have hj:j=0:=by
    have:j<csz c:=by rw[<-B7 c y];exact(Zi2.1 hd').1
    omega
   subst hj;rw[h1,Nat.mul_one,Nat.add_zero,Alf _ _ _ hfit];rw[Alf _ _ _ hfit2,htl] at hy';split at hy'
   ·rename_i hin;rw[if_pos hin];rw[List.getElem?_take] at hy' ⊢;split at hy'
    ·rename_i hlt;obtain⟨u,hu,hf⟩:=hus.2 _ y 0 d hy' hd';rw[h1,Nat.mul_one,Nat.add_zero] at hu;exact⟨u,by rw[if_pos hlt];exact hu,nx.rf hf⟩
    ·cases hy'
   ·rename_i hin;rw[if_neg hin];obtain⟨u,hu,hf⟩:=hreps q y 0 d hy' hd';rw[h1,Nat.mul_one,Nat.add_zero] at hu;exact⟨u,hu,nx.rf hf⟩)
  refine .inl ⟨_,_,hexec _ _ (by rw[hpt];exact hrun),m,by rw[Tn st b _ _ s hW hb];exact hrel,?_⟩;rw[hcl,hmin,Nat.min_comm ys.length n.toNat];exact hres _
end
theorem Md{w:World}{A B:Array Obj}(h:∀k:Nat,A[k]? = B[k]?):({ w with heap:=A }:World)={ w with heap:=B }:=by rw[Array.ext_getElem? h]
theorem Au9{w:World}{b:Nat}{cs:Array Value}{t:TypeId}{fz:Nat×Nat}(h:w.heap[b]? = some (.cells cs t fz)):w.setRow b cs=w:=by
 refine Md (w:=w) (B:=w.heap) λk =>?_
 grind
theorem Amw(w:World)(b:Nat)(A B:Array Value):(w.setRow b A).setRow b B=w.setRow b B:=by
 refine Md (w:=w) λk =>?_;simp[World.setRow,Array.getElem?_modify]
 grind
theorem Ayu(w:World){b c:Nat}(h:b≠c)(A B:Array Value):(w.setRow b A).setRow c B=(w.setRow c B).setRow b A:=by
 refine Md (w:=w) λk =>?_;simp[World.setRow,Array.getElem?_modify]
 grind
theorem Yb(w:World)(A B:Array Value)(t:TypeId):(w.alloc (.cells A t)).setRow w.heap.size B=w.alloc (.cells B t):=by
 refine Md (w:=w) λk =>?_;simp only[World.alloc,Array.getElem?_modify,Array.getElem?_push]
 grind
theorem Ajg{w:World}{b off:Nat}{v:Value}{A:Array Value}:(w.setCell ⟨b,off,none⟩ v).setRow b A=w.setRow b A:=by
 refine Md (w:=w) λk =>?_;simp[World.setCell,Array.getElem?_modify]
 grind
theorem C4{t:TypeId}{fz:Nat×Nat}:∀(vs cs:List Value) (w:World) (b off:Nat),w.heap[b]? = some (.cells cs.toArray t fz)->Sx.setCells w b off vs=w.setRow b (Sx.writeAt cs off vs).toArray
 |[],cs,w,b,off,h=>(Au9 h).symm
 |v::vs,cs,w,b,off,h=>by simp[Sx.setCells];rw[C4 vs (cs.set off v) (w.setCell ⟨b,off,none⟩ v) b (off+1) (Sx.setCell_heap h)];exact Ajg
theorem Ke:∀(us us0 pre post:List Value),us.length=us0.length->Sx.writeAt (pre++us0++post) pre.length us=pre++us++post
 |[],us0,pre,post,h=>by have:us0=[]:=List.length_eq_zero_iff.1 h.symm;subst this;rfl
 |u::us,[],pre,post,h=>by simp at h
 |u::us,u0::us0,pre,post,h=>by
  simp[Zf1] at h;have ih:=Ke us us0 (pre++[u]) post h;simp only[Sx.writeAt]
  grind
theorem Aqb(w:World)(A:Array Value)(t:TypeId):(w.drew.alloc (.cells A t)).heap[w.heap.size]? = some (.cells A t (0,0)):=Ca w.drew _
section
variable {R:Type}{px:Px R}{cx:Cx}
theorem Bd0(hp:PxOk cx px){t:TypeId}{c:Ck}(hty:px.tt t = .sl c){st:St}{xs:List (El c)}{z0 e:El c}{tk tkz:Tk}{al:List Nat}(hal:E3 st.tk tk=some al)(hlen:xs.length+1<=Ai){s:FS}{m:Mp}{a:Act}{as_:List Act}{w:World}(hW:C0 s (fs st))(hr:Rel cx m a as_ s w){v vz:Value}
  (hx:Rep (vx cx m s w) (.sl c xs tk) v) (hz:Rep (vx cx m s w) (.sl c [z0] tkz) vz) {us:List Value}(hus:ElR (vx cx m s w) c e us) (ty:TypeId) :
  ∃(v7:Value) (wA:World) (g cap:Nat) (cs:List Value) (t0:TypeId),(Builtin.append_ #[t,t] ty #[v,vz]).run cx.P w = .ok v7 wA/\v7 = .slice (some ⟨g,0,none⟩) (xs.length+1) cap/\wA.heap[g]? = some (.cells cs.toArray t0 (0,0))/\xs.length*csz c+csz c<=cs.length/\(∀b,s.bl b≠none->m.bl b≠g)/\(∀k,k<w.heap.size->k≠g->wA.heap[k]? = w.heap[k]?) /\
   ∃m',Rel cx m' a as_ (D3 (fs (Cz { st with tk:=al })) s) (Sx.setCells wA g (xs.length*csz c) us)/\Rep (vx cx m' (D3 (fs (Cz { st with tk:=al })) s) (Sx.setCells wA g (xs.length*csz c) us)) (.sl c (xs++[e]) (.id st.nt)) v7:=by
 simp[Rep] at hx hz;obtain⟨hrf,htk⟩:=hx;obtain⟨ad,cap2,us0,rfl,hus0,hucell⟩:=Eu hz.1;obtain⟨by_,hT,hby512,_⟩:=Cj (hp.tt t) hty;obtain⟨hu,i0,z,hi0,hz0,hsize,hby,hzs,hpos⟩:=hT;have hbound:(xs.length+1)*by_<=140737488355328:=by
  have hlen':xs.length+1<=274877906944:=by unfold Ai at hlen;exact hlen
  have h1:(xs.length+1)*by_<=274877906944*512:=Nat.mul_le_mul hlen' hby512;omega
 have h63:xs.length+[e].length<=9223372036854775807:=by unfold Ai at hlen;simp[ Zi1];omega
 have hrow:Bg (vx cx m s w) c [e] us:=by simpa using Bg.cons hus (Bg.nil (vx cx m s w) c)
 have hul:us.length=csz c:=hus.1;have hu0l:us0.length=csz c:=by have:=hus0.1;simpa using this
 have huu:us.length=us0.length:=by rw[hul,hu0l]
 have hul0:us0.length=[z0].length*i0.size:=by rw[hus0.1,hsize]
 have hone:∀u,u∈us0->u.oneCell' = true:=λu hu=>Sx.one_oneCell (hus0.one u hu);obtain⟨b2,o2,had⟩:∃b2 o2,ad=some ⟨b2,o2,none⟩:=by
  obtain⟨a',cap',e1,h⟩:=B2 hz.1;simp at e1;rcases h with h|⟨b,o',h,_⟩
  ·cases h
  ·grind
 subst had;have hnews:∀(j:Nat) u,us0[j]? = some u->w.cell? ((⟨b2,o2,none⟩:Addr).add j)=some u:=λj u hj=>by rw[Sx.add_mk];exact hucell b2 o2 rfl (by simp) j u hj
 have hfresh:∀b,s.bl b≠none->m.bl b≠w.heap.size:=λb hb h=>by have:=hr.own_b hb;omega
 have hother:∀(o:Obj) (k:Nat),k<w.heap.size->k≠w.heap.size->(w.drew.alloc o).heap[k]? = w.heap[k]? :=λo k hk _=>by have h1:k<w.drew.heap.size:=hk;exact Below.heap_alloc _ _ _ h1
 refine(λh=>by obtain⟨v7,w2,⟨wA,g,cap,cs,t0,h1,h2,h3,h4,h5,h6,rfl⟩,m',h7,h8⟩:=h;exact⟨v7,wA,g,cap,cs,t0,h1,h2,h3,h4,h5,h6,m',h7,h8⟩) (Qm (Ap:=λv7 w2=>∃(wA:World) (g cap:Nat) (cs:List Value) (t0:TypeId),(Builtin.append_ #[t,t] ty #[v,.slice (some ⟨b2,o2,none⟩) [z0].length cap2]).run cx.P w = .ok v7 wA/\v7 = .slice (some ⟨g,0,none⟩) (xs.length+1) cap/\wA.heap[g]? = some (.cells cs.toArray t0 (0,0))/\xs.length*csz c+csz c<=cs.length/\(∀b,s.bl b≠none->m.bl b≠g)/\(∀k,k<w.heap.size->k≠g->wA.heap[k]? = w.heap[k]?)/\w2=Sx.setCells wA g (xs.length*csz c) us)
  hsize hzs hal h63 hW hr hrf htk hrow ?_ ?_ ?_ ?_)
 ·grind
 ·intro hv0 hx0 _;subst hv0 hx0;have hrun:=run_append_nil (P:=cx.P) w t ty (cx.el c) i0 z hu hi0 hz0 ⟨b2,o2,none⟩ [z0].length cap2 us0 hul0 hnews (by simp) (by simp) (by rw[hby];simp at hbound ⊢;omega);have hh:=Aqb w (us0.toArray++Builtin.zeroCells z.cells (grownCap w [z0].length 0 (cx.el c) - [z0].length)) (cx.el c);have e0:us0.toArray++Builtin.zeroCells z.cells (grownCap w [z0].length 0 (cx.el c) - [z0].length)=(us0++(Builtin.zeroCells z.cells (grownCap w [z0].length 0 (cx.el c) - [z0].length)).toList).toArray:=by apply Array.ext';simp
  rw[e0] at hh;refine⟨_,w.heap.size,_,_,_,hrun,rfl,by rw[e0];exact hh,by simp[ Zi1];omega,hfresh,hother _,?_⟩;rw[e0,C4 us _ _ _ _ hh];have e1:=Ke us us0 [] (Builtin.zeroCells z.cells (grownCap w [z0].length 0 (cx.el c) - [z0].length)).toList huu;simp only[Zf2,Zi1,Nat.zero_mul] at e1 ⊢;rw[e1];have e2:=Yb w.drew (us0++(Builtin.zeroCells z.cells (grownCap w [z0].length 0 (cx.el c) - [z0].length)).toList).toArray (us++(Builtin.zeroCells z.cells (grownCap w [z0].length 0 (cx.el c) - [z0].length)).toList).toArray (cx.el c);have e3:w.drew.heap.size=w.heap.size:=rfl;rw[e3] at e2;rw[e2];congr 2;apply Array.ext';simp
 ·intro g cap cur hvv e5 _ hroom hfit;subst hvv;have hrun:=run_append_room (P:=cx.P) w t ty (cx.el c) i0 hu hi0 g xs.length cap cur e5 ⟨b2,o2,none⟩ [z0].length cap2 us0 hul0 hnews hone (by simpa using hroom) (by rw[hsize,<-huu];exact hfit);rw[hsize] at hrun;have htl:(cur.toList.take (xs.length*csz c)).length=xs.length*csz c:=by simp;omega
  have hh:=setRow_heap w g cur (cur.toList.take (xs.length*csz c)++us0++cur.toList.drop (xs.length*csz c+us0.length)).toArray (cx.el c) (0,0) e5;refine⟨_,g,cap,_,_,hrun,rfl,hh,?_,λb hb =>?_,λk _ hk=>setRow_other w g k _ hk,?_⟩
  ·simp[ htl];omega
  ·unfold E3 at hal;split at hal
   ·cases hal
   ·simp only[TkR] at htk;exact absurd htk.1 (by simp)
   ·rename_i tt;split at hal
    ·rename_i hc;have hin:tt∈st.tk:=by simpa using hc
     have halive:s.al tt:=by rw[hW.2.2.1];exact hin
     rcases htk.2 halive with ⟨h1,_,_⟩|⟨g',cap',cur',h1,h2,_⟩
     ·cases h1
     ·simp[ Addr.mk.injEq] at h1;obtain⟨⟨rfl,_⟩,_⟩:=h1;exact hr.injbt b tt _ _ hb halive h2
    ·cases hal
   all_goals cases hal
  ·rw[C4 us _ _ _ _ hh,Amw];have e1:=Ke us us0 (cur.toList.take (xs.length*csz c)) (cur.toList.drop (xs.length*csz c+us0.length)) huu;rw[htl] at e1;rw[e1,huu]
 ·intro g cap vs hvv hvl hvcell _ hroom;subst hvv;have hrun:=run_append_grow (P:=cx.P) w t ty (cx.el c) i0 z hu hi0 hz0 ⟨g,0,none⟩ xs.length cap vs (by rw[hsize];exact hvl) (λj u hj=>by rw[Sx.add_mk,Nat.zero_add];exact hvcell j u hj) ⟨b2,o2,none⟩ [z0].length cap2 us0 hul0 hnews (by simp at hroom ⊢;omega) (by simp at h63 ⊢;omega) (growslice_fits (by simp at hroom ⊢;omega) (by rw[hby];simpa using hbound));have hh:=Aqb w (vs.toArray++us0.toArray++Builtin.zeroCells z.cells (grownCap w (xs.length+[z0].length) cap (cx.el c)-(xs.length+[z0].length))) (cx.el c);have e0:vs.toArray++us0.toArray++Builtin.zeroCells z.cells (grownCap w (xs.length+[z0].length) cap (cx.el c)-(xs.length+[z0].length))=(vs++us0++(Builtin.zeroCells z.cells (grownCap w (xs.length+[z0].length) cap (cx.el c)-(xs.length+[z0].length))).toList).toArray:=by apply Array.ext';simp
  rw[e0] at hh;refine⟨_,w.heap.size,_,_,_,hrun,rfl,by rw[e0];exact hh,by simp;omega,hfresh,hother _,?_⟩;rw[e0,C4 us _ _ _ _ hh,<-hvl];rw[(Ke us us0 vs (Builtin.zeroCells z.cells (grownCap w (xs.length+[z0].length) cap (cx.el c)-(xs.length+[z0].length))).toList huu)];have e2:=Yb w.drew (vs++us0++(Builtin.zeroCells z.cells (grownCap w (xs.length+[z0].length) cap (cx.el c)-(xs.length+[z0].length))).toList).toArray (vs++us++(Builtin.zeroCells z.cells (grownCap w (xs.length+[z0].length) cap (cx.el c)-(xs.length+[z0].length))).toList).toArray (cx.el c);have e3:w.drew.heap.size=w.heap.size:=rfl;rw[e3] at e2;rw[e2];congr 2;apply Array.ext';simp
end
section
variable {R:Type}{px:Px R}{cx:Cx}
def Ati(st st':St):Prop:=st'.n=st.n/\st'.env=st.env/\st'.lb=st.lb/\st'.lt=st.lt/\(st'.fr,st'.df)=(st.fr,st.df)
theorem Lg{st st':St}(h:Ati st st'):D3 (fs st') (fs st)=fs st':=by
 obtain⟨h1,h2,h3,h4,h5⟩:=h;simp only[Zp1] at h5;refine FS.eq ?_ ?_ ?_ ?_ ?_ rfl rfl rfl rfl h5.2.symm
 ·exact h1.symm
 ·simp[D3,fs,h2]
 ·exact h3.symm
 ·exact h4.symm
 ·exact h5.1.symm
structure SEff (cx:Cx) (o:Oper) (st st':St) (d:D):Prop where
 same:Ati st st'
 run:∀(m:Mp) (a:Act) (as_:List Act) (w:World),Rel cx m a as_ (fs st) w->Yv cx.P a w o λv w'=>∃m',Rel cx m' a as_ (fs st') w'/\Rep (vx cx m' (fs st') w') d v
theorem Eff.seq{o:Oper}{st st':St}{d:D}(h:Eff cx px o st st' d):SEff cx o st st' d :=⟨h.same,λm a as_ w hr=>by have:=h.run (fs st) m a as_ w (λ_ _ _=>rfl) ⟨rfl,rfl,rfl,rfl⟩ hr;rwa[Lg h.same] at this⟩
def Hg(cx:Cx)(g:Nat)(args:List D)(st:St)(K:List D->St->Option R)(r:R):Prop:=Sx.Enters cx.P g/\∀(m:Mp) (a:Act) (as_:List Act) (w:World) (vs:List Value),Rel cx m a as_ (fs st) w->Reps (vx cx m (fs st) w) args vs->Calls cx.P g vs.toArray w λen w'=>∃v,en = .returned v/\∃rs st' m',K rs st' = some r/\Ati st st'/\Rel cx m' a as_ (fs st') w'/\Rep (vx cx m' (fs st') w') (Eh rs) v
def Dh(cx:Cx)(px:Px R):Prop:=∀(g:Nat) (args:List D) (st:St) (K:List D->St->Option R) (r:R),px.call g args st K=some r->Hg cx g args st K r
def F0(cx:Cx)(g:Nat)(F:List D->St->(D->List Nat->St->Option R)->Option R):Prop:=∀(args:List D) (st:St) (K:D->List Nat->St->Option R) (r:R),F args st K=some r->∃d ws st',K d ws st' = some r/\Ati st st'/\st.nb<=st'.nb/\(∀b,b∉ws->Ea (fs st) (fs st') b)/\Sx.Enters cx.P g /\
 ∀(s:FS) (m:Mp) (a:Act) (as_:List Act) (w:World) (vs:List Value),C0 s (fs st)->Rel cx m a as_ s w->Reps (vx cx m s w) args vs->Calls cx.P g vs.toArray w λen w'=>∃v,en = .returned v/\∃m',Rel cx m' a as_ (D3 (fs st') s) w'/\Rep (vx cx m' (D3 (fs st') s) w') d v
structure CallQOk (cx:Cx) (px:Px R):Prop where
 q:∀(g:Nat) (args:List D) (K:List D->Option R) (r:R),px.callQ g args K=some r->∃rs,K rs=some r/\Sx.Enters cx.P g/\∀(s:FS) (m:Mp) (a:Act) (as_:List Act) (w:World) (vs:List Value),Rel cx m a as_ s w->Reps (vx cx m s w) args vs->Calls cx.P g vs.toArray w λen w'=>∃v,en = .returned v/\Rel cx m a as_ s w'/\Rep (vx cx m s w') (Eh (rs.map Gu)) v
 w:∀g F,px.callW g=some F->F0 cx g F
def opB(o:Oper):Bool:=match o.op with|.call ⟨.builtin .len,_,⟨[_]⟩⟩=>true|.call ⟨.builtin .len,_,_⟩=>false|.select _ _=>false|_=>true
theorem Arw{o:Oper}(h:opB o=true):∀b xs ts,o.op = .call ⟨.builtin b,xs,ts⟩->b = .len->ts = #[ts.toList.headD 0]:=by intro b xs ts ho hb;subst hb;unfold opB at h;rw[ho] at h;obtain⟨l⟩:=ts;match l with|[]=>simp at h|[t]=>rfl|_::_::_=>simp at h
theorem Apm{P:Program}{a:Act}{w:World}{o:Oper}{f:Operand}{xs:Array Operand}{ts:Array TypeId}{g:Nat}{cvs vs:List Value}(ho:o.op = .call ⟨.value f,xs,ts⟩)(hf:a.eval f = .func (.func g) #[] cvs.toArray)(hx:xs.toList.map a.eval=vs)(he:Sx.Enters P g):(execOp a.eval o).run P w = .ok (.enter g (vs++cvs).toArray) w:=by
 have h2:xs.map a.eval=vs.toArray:=by apply Array.ext';simpa using hx
 simp[execOp,ho,resolve,hf,Deferred.ofValue,h2,invoke];simpa using (he (vs++cvs).toArray w)
theorem Ayk{P:Program}{a:Act}{w:World}{o:Oper}{f:Operand}{xs:Array Operand}{ts:Array TypeId}{g:Nat}{fvs vs:List Value}(ho:o.op = .call ⟨.value f,xs,ts⟩)(hf:a.eval f = .func (.func g) fvs.toArray #[])(hx:xs.toList.map a.eval=vs)(he:Sx.Enters P g):(execOp a.eval o).run P w = .ok (.enter g (fvs++vs).toArray) w:=by
 have h2:xs.map a.eval=vs.toArray:=by apply Array.ext';simpa using hx
 simp[execOp,ho,resolve,hf,Deferred.ofValue,h2,invoke];simpa using (he (fvs++vs).toArray w)
theorem Bkm(hp:PxOk cx px)(hc:Dh cx px){o:Oper}(hb:opB o=true){st:St}{K:D->St->Option R}{r:R}(h:step px o st K=some r):∀(m:Mp) (a:Act) (as_:List Act) (w:World),Rel cx m a as_ (fs st) w->Yv cx.P a w o λv w'=>∃d st' m',K d st' = some r/\Ati st st'/\Rel cx m' a as_ (fs st') w'/\Rep (vx cx m' (fs st') w') d v:=by
 have fin:(∃d st',K d st' = some r/\SEff cx o st st' d)->∀(m:Mp) (a:Act) (as_:List Act) (w:World),Rel cx m a as_ (fs st) w->Yv cx.P a w o λv w'=>∃d st' m',K d st' = some r/\Ati st st'/\Rel cx m' a as_ (fs st') w'/\Rep (vx cx m' (fs st') w') d v:=by
  rintro⟨d,st',h1,h2⟩ m a as_ w hr;rcases h2.run m a as_ w hr with ⟨v,w',h3,m',h4,h5⟩|⟨f,args,w1,h3,h4⟩
  ·exact .inl ⟨v,w',h3,d,st',m',h1,h2.same,h4,h5⟩
  ·refine .inr ⟨f,args,w1,h3,h4.mono ?_⟩;rintro en w' ⟨v,e,m',h5,h6⟩;exact⟨v,e,d,st',m',h1,h2.same,h5,h6⟩
 have quiet:∀{K:D->St->Option R},(T6 px o st λd=>K d st)=some r->∃d st',K d st' = some r/\SEff cx o st st' d:=λh=>by obtain⟨d,hk,hq⟩:=Acd hp (Arw hb) h;exact⟨d,st,hk,(Bab hq).seq⟩
 unfold step at h;split at h
 ·rename_i t ho;split at h
  ·rename_i n c hty;exact fin ⟨_,_,h,(Ro hp ho (.inl ⟨n,c,hty,rfl⟩)).seq⟩
  ·rename_i hna;split at h
   ·rename_i z hz;refine fin ⟨_,_,h,(Ro hp ho (.inr ⟨z,λe =>?_,hz,rfl⟩)).seq⟩;rw[e] at hz;cases hz
   ·cases h
 ·rename_i t x y ho;split at h
  ·rename_i c k n k' q hty hx hy;obtain⟨hc,hk⟩:=A1 h;simp at hc;have hu:=O4 hc.1;exact fin ⟨_,_,hk,(Ay1 hp ho hty hx hy ⟨hu.2.1,hu.2.2⟩ hc.2).seq⟩
  ·cases h
 ·rename_i t x ho;split at h
  ·rename_i d hd;split at h
   ·rename_i hl;exact fin ⟨_,_,h,(A7h ho hd hl).seq⟩
   ·cases h
  ·cases h
 ·rename_i t len ps ho;split at h
  ·rename_i c hty;split at h
   ·rename_i xs hxs;exact fin ⟨_,_,h,(A1w hp ho hty hxs).seq⟩
   ·cases h
  ·cases h
 ·rename_i q t x ho;split at h
  ·rename_i l hx hty;split at h
   ·rename_i hs;obtain⟨_,hk⟩:=A1 h;exact fin ⟨_,_,hk,(Asz hp ho hx hty (Fv hs)).seq⟩
   ·cases h
  ·exact fin (quiet h)
 ·rename_i x y t t' ho;split at h
  ·rename_i c s d hty hx hy hbq;have hbq:=Zl1 hbq;subst hbq;unfold Aul at h;split at h
   ·rename_i c' xs;split at h
    ·rename_i hcc;subst hcc;split at h
     ·cases h
     ·rename_i ys hys;obtain⟨tk',rfl⟩:=I4 hys;by_cases hy0:ys=[]
      ·rw[show ys.isEmpty=true by rw[hy0];rfl,cond_true] at h;exact fin ⟨_,_,h,(Mr hp ho hty hx hy hy0).seq⟩
      ·rw[show ys.isEmpty=false by cases ys with|nil=>exact absurd rfl hy0|cons _ _=>rfl,cond_false] at h;obtain⟨hl,hk⟩:=A1 h;exact fin ⟨_,_,hk,(Ou hp ho hty hx hy hy0 (by simpa using hl)).seq⟩
    ·cases h
   ·rename_i _ hnf;unfold Tf at h;split at h
    ·split at h
     ·rename_i c' xs tk hcc;subst hcc;split at h
      ·cases h
      ·rename_i al hal;split at h
       ·cases h
       ·rename_i ys hys;obtain⟨hl,hk⟩:=A1 h;obtain⟨tk',rfl⟩:=I4 hys;exact fin ⟨_,_,hk,(Aj9 hp ho hty hx hy hal (by simpa using hl)).seq⟩
     ·cases h
    ·cases h
  ·rename_i s l hty hx hy hbq;split at h
   ·rename_i hstr;unfold Tf at h;split at h
    ·split at h
     ·rename_i c' xs tk hcc;subst hcc;split at h
      ·cases h
      ·rename_i al hal;split at h
       ·cases h
       ·rename_i ys hys;obtain⟨hl,hk⟩:=A1 h;simp[toS] at hys;subst hys;exact fin ⟨_,_,hk,(O2 hp ho hty (Fv hstr) hx hy hal (by simpa using hl)).seq⟩
     ·cases h
    ·cases h
   ·cases h
  ·cases h
 ·rename_i x y t t' ho;split at h
  ·rename_i c s d hty hx hy;unfold Bf5 at h;split at h
   ·rename_i b c1 p n;split at h
    ·rename_i c2 xs hbk;split at h
     ·rename_i ys hys hcc;simp only[Zb1,Zg1] at hcc;obtain⟨⟨e1,e2⟩,_⟩:=id hcc;subst e1;subst e2;obtain⟨hc,hk⟩:=A1 h;simp at hc;obtain⟨tk',rfl⟩:=I4 hys;exact fin ⟨_,_,hk,(Aw2 hp ho hty hx hy hbk (Zl1 hcc.2) hc.1.1 hc.1.2 hc.2).seq⟩
     ·cases h
    ·cases h
   ·cases h
  ·cases h
 ·rename_i f xs ts ho;split at h
  ·rename_i g caps hf;split at h
   ·rename_i ds hds;obtain⟨hent,hrun⟩:=hc g (ds++caps) st _ r h;intro m a as_ w hr;have hf':=hf;rw[Au] at hf';obtain⟨fv,_,h2,h3⟩:=hr.env.ev (env:=get st.env) hf';simp[Rep] at h3;obtain⟨cvs,rfl,hcaps⟩:=h3;obtain⟨vs,_,h5,h6⟩:=Ju hr.env (env:=get st.env) hds (λu q _=>by rw[Au]);refine .inr ⟨g,_,w,Apm ho h2 h5 hent,(hrun m a as_ w _ hr (h6.append hcaps)).mono ?_⟩;rintro en w' ⟨v,e,rs,st',m',k1,k2,k3,k4⟩;exact⟨v,e,_,st',m',k1,k2,k3,k4⟩
   ·cases h
  ·rename_i g fvs0 hf;split at h
   ·rename_i ds hds;obtain⟨hent,hrun⟩:=hc g (fvs0++ds) st _ r h;intro m a as_ w hr;have hf':=hf;rw[Au] at hf';obtain⟨fv,_,h2,h3⟩:=hr.env.ev (env:=get st.env) hf';simp[Rep] at h3;obtain⟨cvs,rfl,hcaps⟩:=h3;obtain⟨vs,_,h5,h6⟩:=Ju hr.env (env:=get st.env) hds (λu q _=>by rw[Au]);refine .inr ⟨g,_,w,Ayk ho h2 h5 hent,(hrun m a as_ w _ hr (hcaps.append h6)).mono ?_⟩;rintro en w' ⟨v,e,rs,st',m',k1,k2,k3,k4⟩;exact⟨v,e,_,st',m',k1,k2,k3,k4⟩
   ·cases h
  ·cases h
 ·exact fin (quiet h)
theorem Ij{all:Array Oper}{o:Oper}{x:Vx}{n:Nat}{df:List D}{env:Nat->Option D}{a:Act}(he:EnvR x n df env a):(o.guard=none->Region.wanted o (yielded all a.tmps)=true)/\∀j b g,o.guard=some (j,b)->(all[j]?).bind (·.dst)=some g->(∀q,env g=some (.bool q)->Region.wanted o (yielded all a.tmps)=(q == b))/\(env g=some .undef->Region.wanted o (yielded all a.tmps)=false):=by
 refine⟨λh=>by simp[Region.wanted,h],λj b g hg hj=>⟨λq hq =>?_,λhq =>?_⟩⟩
 ·obtain⟨v,hv,hr⟩:=he.get g _ hq;obtain rfl:=Rep.bool hr;simp only[Region.wanted,hg,yielded,hj,Zc1,hv];cases q<;>cases b<;>rfl
 ·obtain⟨v,hv,hr⟩:=he.get g _ hq;simp[Rep] at hr;subst hr;simp only[Region.wanted,hg,yielded,hj,Zc1,hv];cases b<;>rfl
theorem H0{st:St}{g:Nat}{d:D}(h:get st.env g=some d):fs (st.put g d)=fs st:=by
 rw[Kp];refine FS.eq rfl ?_ rfl rfl rfl rfl rfl rfl rfl;funext j;simp[FS.put,fs];by_cases hj:j=g
 ·subst hj;simp[h]
 ·simp[hj]
theorem Bmr(hp:PxOk cx px)(hc:Dh cx px){o:Oper}(hb:opB o=true){st:St}{K:St->Option R}{r:R}(h:one px o st K=some r):∀(m:Mp) (a:Act) (as_:List Act) (w:World),Rel cx m a as_ (fs st) w->Ahc cx.P a w o λa' w'=>∃m' st',K st' = some r/\(st'.n=st.n/\st'.fr=st.fr)/\Rel cx m' a' as_ (fs st') w':=by
 unfold one at h;split at h
 ·rename_i d hd;split at h
  ·rename_i hlt;have hlt:d<st.n:=by simpa using hlt
   intro m a as_ w hr;refine .inl ((Bkm hp hc hb h m a as_ w hr).runs λu w' ⟨v,st',m',hk,hsame,h1,h2⟩=>⟨m',_,hk,⟨hsame.1,congrArg Prod.fst hsame.2.2.2.2⟩,?_⟩);rw[Kp,hd];refine h1.put ?_ h2;show d<st'.n;rw[hsame.1];exact hlt
  ·cases h
 ·rename_i hd;unfold A42 at h;split at h
  ·rename_i f ts ho;split at h
   ·rename_i g caps he;intro m a as_ w hr;rw[Au] at he;obtain⟨v,_,hv,hrep⟩:=hr.env.ev (env:=get st.env) he;simp only[Rep] at hrep;obtain⟨cvs,rfl,hcaps⟩:=hrep;refine .inr ⟨{ target :=.fn (.func g) cvs.toArray,args := #[] },w,?_,m,_,h,⟨rfl,rfl⟩,?_⟩
    ·simp[execOp,ho,resolve,hv,Deferred.ofValue]
    ·rw[hd];exact⟨hr.chg,⟨⟨_,_,rfl,⟨cvs,rfl,hcaps⟩,hr.env.defers⟩,hr.env.size,hr.env.get⟩,hr.frs,hr.lb,hr.lt,hr.blks,hr.als,hr.inj,hr.injt,hr.injbt,hr.own,hr.away,hr.glb⟩
   ·cases h
  obtain⟨st',hk,he⟩:=Anj (cx:=cx) hp h;intro m a as_ w hr;obtain⟨w',m',h1,h2⟩:=he.run (fs st) m a as_ w (λ_ _ _=>rfl) ⟨rfl,rfl,rfl,rfl⟩ hr;rw[Lg he.same] at h2;refine .inl (.inr (.inl ⟨w',h1,m',st',hk,⟨he.same.1,congrArg Prod.fst he.same.2.2.2.2⟩,?_⟩));rw[hd];exact h2
theorem Bnd{o:Oper}{st:St}{m:Mp}{a:Act}{as_:List Act}{w:World}(hd:∀d,o.dst=some d->d<st.n)(hr:Rel cx m a as_ (fs st) w):Rel cx m (a.put o.dst undef) as_ (fs (off o st)) w:=by unfold off;cases hdst:o.dst with|none=>exact hr|some d =>rw[Kp];exact hr.put (hd d hdst) (by simp[Rep];rfl)
def Amn(n:Nat)(o:Oper):Bool:=match o.dst with|some d=>Nat.blt d n|none=>true
theorem A82{x:Operand}{d:Nat}(h:L0 x d=true):x ≠ .tmp d:=by rintro rfl;simp[L0] at h
theorem Ct{a:Act}{x:Operand}{d:Nat}{v:Value}(h:L0 x d=true):(a.put (some d) v).eval x=a.eval x :=Act.eval_put λd' hd=>by simp at hd;subst hd;exact A82 h
theorem Gc{a:Act}{d:Nat}{v:Value}(h:d<a.tmps.size):(a.put (some d) v).eval (.tmp d)=v:=by simp[Act.put,Act.eval,h]
structure Fuse (cx:Cx) (o o2 o3:Oper) (st st2:St) (m:Mp) (a:Act) (as_:List Act) (w:World) where
 d:Nat
 d2:Nat
 t2:TypeId
 i:Operand
 u:TypeId
 y:Operand
 v7:Value
 vp:Value
 wA:World
 g:Nat
 off:Nat
 cs:List Value
 t0:TypeId
 us:List Value
 dst:o.dst=some d
 dst2:o2.dst=some d2
 dst3:o3.dst=none
 gd:o.guard=none
 gd2:o2.guard=none
 gd3:o3.guard=none
 op2:o2.op = .indexAddr t2 (.tmp d) i
 op3:o3.op = .store u (.tmp d2) y
 ne:d≠d2
 lt:d<st.n
 lt2:d2<st.n
 nei:L0 i d=true
 ney:L0 y d=true
 ney2:L0 y d2=true
 run:(execOp a.eval o).run cx.P w = .ok (.value v7) wA
 run2:∀(a':Act) (w':World),a'.eval (.tmp d)=v7->a'.eval i=a.eval i->(execOp a'.eval o2).run cx.P w' = .ok (.value vp) w'
 run3:∀(a':Act) (w':World) (cs':List Value),a'.eval (.tmp d2)=vp->a'.eval y=a.eval y->w'.heap[g]? = some (.cells cs'.toArray t0 (0,0))->cs'.length=cs.length->(execOp a'.eval o3).run cx.P w' = .ok .skip (Sx.setCells w' g off us)
 row:wA.heap[g]? = some (.cells cs.toArray t0 (0,0))
 far:∀b,blk st.bl b≠none->m.bl b≠g
 rest:∀k,k<w.heap.size->k≠g->wA.heap[k]? = w.heap[k]?
 one:Sx.one v7=true
 n:st2.n=st.n/\st2.fr=st.fr
 env7:∃c xs t,get st2.env d=some (.sl c xs t)
 envk:∀k,k≠d->k≠d2->get st2.env k=get st.env k
 bl:st2.bl=st.bl
 m':Mp
 rel:Rel cx m' ((a.put (some d) v7).put (some d2) vp) as_ (fs st2) (Sx.setCells wA g off us)
theorem Ayy(hp:PxOk cx px){o o2 o3:Oper}{st st2:St}(h:Alk px o o2 o3 st=some (true,st2)){m:Mp}{a:Act}{as_:List Act}{w:World}(hr:Rel cx m a as_ (fs st) w):Nonempty (Fuse cx o o2 o3 st st2 m a as_ w):=by
 unfold Alk at h;split at h
 ·rename_i x z t t' ho;split at h
  ·rename_i t2 aa i ho2;split at h
   ·rename_i u b y ho3;split at h
    ·rename_i d d2 hd hd2 hd3;split at h
     ·rename_i hc;simp only[Zb1,Option.isNone_iff_eq_none,Bool.not_eq_true',Nat.blt_eq] at hc;obtain⟨⟨⟨⟨⟨⟨⟨⟨⟨⟨⟨⟨g1,g2⟩,g3⟩,c1⟩,c2⟩,c3⟩,c4⟩,c5⟩,c6⟩,c7⟩,c8⟩,c9⟩,c10⟩:=hc;obtain rfl:=Zl1 c1;obtain rfl:=Zl1 c2;obtain rfl:=Zl1 c3;obtain rfl:=Zl1 c4;have hne:aa≠b:=Nat.ne_of_beq_eq_false c5;split at h
      ·rename_i c c' xs tk zs k n dy hty hx hz hi hy;split at h
       ·rename_i z0 e al hzs he hal hsz;split at h
        ·rename_i hcc;subst hcc;simp at h;obtain⟨⟨hlen,hn⟩,rfl⟩:=h;obtain⟨tkz,rfl⟩:=I4 hzs;rw[Au] at hx hz hi hy;obtain⟨v,_,hv,hrx⟩:=hr.env.ev (env:=get st.env) hx;obtain⟨vz,_,hvz,hrz⟩:=hr.env.ev (env:=get st.env) hz;obtain⟨vi,_,hvi,hri⟩:=hr.env.ev (env:=get st.env) hi;obtain⟨vy,_,hvy,hry⟩:=hr.env.ev (env:=get st.env) hy;obtain rfl:=Rep.int hri;obtain⟨hel,_,_⟩:=N5 he hry;obtain⟨v7,wA,g,cap,cs,t0,r1,r2,r3,r4,r5,r6,m',r7,r8⟩:=Bd0 (st:=st) hp hty hal hlen (s:=fs st) ⟨rfl,rfl,rfl,rfl⟩ hr hrx hrz hel o.type;have hexec:(execOp a.eval o).run cx.P w = .ok (.value v7) wA:=by simp[execOp,ho,resolve,invoke,builtin,hv,hvz,r1]
         obtain⟨by_,hT,_,_⟩:=Cj (hp.tt t2) hty;have hT0:=hT;obtain⟨hu,i0,zz,hi0,hz0,hsize,_,_,hpos⟩:=hT;simp only[Zb1] at hsz;have hus:Sx.tySz cx.P u=some vy.cells.size:=by rw[((Di (hp.tt u) (D7 hsz.2).1).2.2),(Zl1 hsz.1),<-hel.1];simp
         have hes:Sx.tySz cx.P (cx.el c')=some (csz c'):=by unfold Sx.tySz;simp[hi0,hsize]
         refine⟨⟨aa,b,t2,i,u,y,v7,.pointer (some ⟨g,xs.length*csz c',none⟩),wA,g,xs.length*csz c',cs,t0,vy.cells.toList,hd,hd2,hd3,g1,g2,g3,ho2,ho3,hne,c6,c7,c8,c9,c10,hexec,λa' w' e1 e2 =>?_,λa' w' cs' e1 e2 e3 e4 =>?_,r3,r5,r6,by rw[r2];rfl,⟨rfl,rfl⟩,⟨c',xs++[e],.id st.nt,?_⟩,λk e1 e2 =>?_,rfl,m',?_⟩⟩
         ·have e5:a'.eval i = .int k n:=e2.trans hvi;subst hn;rw[r2] at e1;have hlt:(0:Int)<=(xs.length:Int)/\(xs.length:Int)<((xs.length+1:Nat):Int):=by omega
          simp[execOp,ho2,Instr.indexAt,e1,e5,asIntOf,run_underlying hu,if_pos hlt,Sx.run_sizeOf hes,Sx.add_mk]
         ·have e5:a'.eval y=vy:=e2.trans hvy;have hfit:xs.length*csz c'+0+vy.cells.toList.length<=cs'.length:=by rw[hel.1];omega
          obtain⟨q1,_,_⟩:=Sx.run_storeCells (P:=cx.P) vy.cells.toList w' g (xs.length*csz c') 0 cs' t0 e3 hfit hel.one;simp[execOp,ho3,Instr.storeAt,e1,e5,Instr.sureAddr,storeVar,Sx.run_sizeOf hus,ne_eq,if_false];rw[q1];simp
         ·simp[St.put,B8,if_neg hne,if_true]
         ·simp[St.put,B8,if_neg e1,if_neg e2];rfl
         ·have e9:D3 (fs (Cz { st with tk:=al })) (fs st)=fs (Cz { st with tk:=al }):=Lg ⟨rfl,rfl,rfl,rfl,rfl⟩;rw[e9] at r7 r8;rw[Kp,Kp];refine(r7.put (k:=aa) c6 r8).put c7 ?_;simp[Rep]
        ·cases h
       ·cases h
      ·cases h
     ·cases h
    ·cases h
   ·cases h
  ·cases h
 ·cases h
theorem Ate(hp:PxOk cx px)(hc:Dh cx px){all:Array Oper}{o:Oper}{l:List Oper}{st:St}{K':St->Option R}{r:R}(hb:opB o=true)(hdst:Amn st.n o=true)(h:opG px all o st K' = some r){Q:Exit->Act->World->Prop}{m:Mp}{a:Act}{as_:List Act}{w:World}(hr:Rel cx m a as_ (fs st) w)
  (hgo:∀st' m' a' w',K' st' = some r->(st'.n=st.n/\st'.fr=st.fr)->Rel cx m' a' as_ (fs st') w'->wpList cx.P all Q l a' w'):wpList cx.P all Q (o::l) a w:=by
 have hdlt:∀d,o.dst=some d->d<st.n:=λd hd=>by simpa[Amn,hd] using hdst
 have run:∀{st1:St},fs st1=fs st->(st1.n=st.n/\st1.fr=st.fr)->Region.wanted o (yielded all a.tmps)=true->one px o st1 K' = some r->wpList cx.P all Q (o::l) a w:=by intro st1 he hn hw h1;have hrr:=Bmr hp hc hb h1 m a as_ w (by rw[he];exact hr);simp[wpList,hw];left;refine Ahc.wp (hrr.mono λa' w' ⟨m',st',hk,hsn,h3⟩ =>?_);exact hgo st' m' a' w' hk ⟨hsn.1.trans hn.1,hsn.2.trans hn.2⟩ h3
 have skip:∀{st1:St},fs st1=fs st->(st1.n=st.n/\st1.fr=st.fr)->Region.wanted o (yielded all a.tmps)=false->K' (off o st1)=some r->wpList cx.P all Q (o::l) a w:=by
  intro st1 he hn hw h1;have hn':(off o st1).n=st.n:=by rw[<-hn.1];unfold off;split<;>rfl
  have hf':(off o st1).fr=st.fr:=by rw[<-hn.2];unfold off;split<;>rfl
  have hrel:=Bnd (o:=o) (st:=st1) (λd hd=>by rw[hn.1];exact hdlt d hd) (by rw[he];exact hr);simp[wpList,hw];exact hgo _ m _ w h1 ⟨hn',hf'⟩ hrel
 obtain⟨g1,g2⟩:=Ij (all:=all) (o:=o) hr.env;simp[opG] at h;split at h
 ·rename_i hg;exact run rfl ⟨rfl,rfl⟩ (g1 hg) h
 ·rename_i j b hg;split at h
  ·cases h
  ·rename_i g hj;obtain⟨g3,g4⟩:=g2 j b g hg hj;split at h
   ·rename_i q hq;have hw:=g3 q hq;cases q with
    |true =>simp at h;cases b with|true=>exact run (H0 hq) ⟨rfl,rfl⟩ hw h|false=>exact skip (H0 hq) ⟨rfl,rfl⟩ hw h
    |false =>simp at h;cases b with|true=>exact skip (H0 hq) ⟨rfl,rfl⟩ hw h|false=>exact run (H0 hq) ⟨rfl,rfl⟩ hw h
   ·rename_i hq;exact skip rfl ⟨rfl,rfl⟩ (g4 hq) h
   ·cases h
theorem C5{all:Array Oper}{o:Oper}(h:o.guard=none)(a:Act):Region.wanted o (yielded all a.tmps)=true:=by simp[Region.wanted,h]
theorem Bma{all:Array Oper}{o o2 o3:Oper}{l:List Oper}{st st2:St}{m:Mp}{a:Act}{as_:List Act}{w:World}{Q:Exit->Act->World->Prop}(hr:Rel cx m a as_ (fs st) w)(f:Fuse cx o o2 o3 st st2 m a as_ w)(hgo:wpList cx.P all Q l ((a.put (some f.d) f.v7).put (some f.d2) f.vp) (Sx.setCells f.wA f.g f.off f.us)):wpList cx.P all Q (o::o2::o3::l) a w:=by
 have hsz:a.tmps.size=st.n:=hr.env.size;have hd:f.d<a.tmps.size:=by rw[hsz];exact f.lt
 have hd2:f.d2<(a.put (some f.d) f.v7).tmps.size:=by simp[Act.put,hsz];exact f.lt2
 have e1:(a.put (some f.d) f.v7).eval (.tmp f.d)=f.v7:=Gc hd;have e2:(a.put (some f.d) f.v7).eval f.i=a.eval f.i:=Ct f.nei;have e3:((a.put (some f.d) f.v7).put (some f.d2) f.vp).eval (.tmp f.d2)=f.vp:=Gc hd2;have e4:((a.put (some f.d) f.v7).put (some f.d2) f.vp).eval f.y=a.eval f.y:=(Ct f.ney2).trans (Ct f.ney);simp[wpList,C5 f.gd,if_true];refine .inl (Afq.wp (.inl ⟨f.v7,f.wA,f.run,?_⟩));rw[f.dst];simp[C5 f.gd2,if_true];refine .inl (Afq.wp (.inl ⟨f.vp,f.wA,f.run2 _ _ e1 e2,?_⟩));rw[f.dst2];simp[C5 f.gd3,if_true];refine .inl (Afq.wp (.inr (.inl ⟨_,f.run3 _ _ _ e3 e4 f.row rfl,?_⟩)));rw[f.dst3];exact hgo
theorem Sp(hp:PxOk cx px)(hc:Dh cx px){all:Array Oper}:∀{l:List Oper}{st:St}{K:St->Option R}{r:R},(l.all λo=>opB o&&Amn st.n o)=true->ops px all l st K=some r ->
  ∀{Q:Exit->Act->World->Prop}{m:Mp}{a:Act}{as_:List Act}{w:World},Rel cx m a as_ (fs st) w->(∀st' m' a' w',K st' = some r->(st'.n=st.n/\st'.fr=st.fr)->Rel cx m' a' as_ (fs st') w'->Q .normal a' w')->wpList cx.P all Q l a w
 |[],st,K,r,_,h,Q,m,a,as_,w,hr,hQ=>hQ st m a w h ⟨rfl,rfl⟩ hr
 |[o],st,K,r,hl,h,Q,m,a,as_,w,hr,hQ=>by simp only[Zv1,Zb1] at hl;exact Ate hp hc hl.1.1 hl.1.2 h hr λst' m' a' w' k1 k2 k3=>hQ st' m' a' w' k1 k2 k3
 |[o,o2],st,K,r,hl,h,Q,m,a,as_,w,hr,hQ=>by simp only[Zv1,Zb1] at hl;refine Ate hp hc hl.1.1 hl.1.2 (show opG px all o st (λst'=>ops px all [o2] st' K)=some r from h) hr λst' m' a' w' k1 k2 k3 =>?_;exact Sp hp hc (by rw[k2.1];simp only[Zv1,Zb1];exact hl.2) k1 k3 (λst2 m2 a2 w2 q1 q2 q3=>hQ st2 m2 a2 w2 q1 ⟨q2.1.trans k2.1,q2.2.trans k2.2⟩ q3)
 |o::o2::o3::l,st,K,r,hl,h,Q,m,a,as_,w,hr,hQ=>by
  rw[Zv1,Zb1] at hl;obtain⟨hl1,hl2⟩:=hl;simp at hl1;simp[ops] at h;split at h
  ·rename_i p hp3;obtain⟨c,st2⟩:=p;obtain⟨hcc,hk⟩:=A1 h;simp only at hcc hk;subst hcc;obtain⟨f⟩:=Ayy hp hp3 hr;refine Bma hr f ?_;simp only[Zv1,Zb1] at hl2;exact Sp hp hc (by rw[f.n.1];exact hl2.2.2) hk f.rel (λst3 m3 a3 w3 q1 q2 q3=>hQ st3 m3 a3 w3 q1 ⟨q2.1.trans f.n.1,q2.2.trans f.n.2⟩ q3)
  ·refine Ate hp hc hl1.1 hl1.2 h hr λst' m' a' w' k1 k2 k3 =>?_;exact Sp hp hc (by rw[k2.1];exact hl2) k1 k3 (λst2 m2 a2 w2 q1 q2 q3=>hQ st2 m2 a2 w2 q1 ⟨q2.1.trans k2.1,q2.2.trans k2.2⟩ q3)
end
end Go.Ax
