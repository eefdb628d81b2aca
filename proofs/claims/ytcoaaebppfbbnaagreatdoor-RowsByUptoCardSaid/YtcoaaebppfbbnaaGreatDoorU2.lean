/- Texts of the proof,one behind the other: AxI,AxJ,AxK,AxL,SxK,AxM,AxN,AxO,AxP,AxPf,AxQ. -/
import Derived.Test.YtcoaaebppfbbnaaGreatDoorU1
import Derived.OrdersIn
import Derived.TacticsIn
import Derived.Laws.MakeOwn
import Derived.Lib.AppendStr
import Derived.Laws.CopyRow
import Derived.Laws.IdiomCopy
set_option linter.all false
namespace Go.Ax
open Go.RowKit
section
variable {P:Program}{el:Ck->TypeId}{tt:Nat->Ty}{e:Sx.Env}{t:Nat}{x y:Operand}{vx:Vx}
variable{k:IntKind}
theorem B5v{a b:Int}{d:Array TypeId}(f:Sx.Env.ev e x=some (.int k a))(g:Sx.Env.ev e y=some (.int k b)):Sx.Pure P e (.call ⟨.builtin .min, #[x,y],d⟩) (.int k (min2 a b)):=λn a' w o c h=>by simp[execOp,h,c.ev f,c.ev g,resolve,invoke,builtin,Builtin.min_,Builtin.min2,min2]
theorem B52{a b:Int}{d:Array TypeId}(f:Sx.Env.ev e x=some (.int k a))(g:Sx.Env.ev e y=some (.int k b)):Sx.Pure P e (.call ⟨.builtin .max, #[x,y],d⟩) (.int k (max2 a b)):=λn a' w o c h=>by simp[execOp,h,c.ev f,c.ev g,resolve,invoke,builtin,Builtin.max_,Builtin.max2,max2]
variable{c:Ck}{w:World}{xs:Yb1 (El c)}
theorem B5{S:Fp}{v:Value}(h:RF S w (.sl c xs .no) v):∃a cap,v = .slice a xs.length cap/\(xs=[]\/∃b o,a=some ⟨b,o,none⟩/\(xs.length<=cap/\cap<=maxLen)/\∀i y,xs[i]? = some y->∀w',Chg S w w'->At w' c y b (o+i*csz c)):=by
 obtain⟨a,cap,rfl,d⟩:=h.here.slice;refine⟨a,cap,rfl,?_⟩;rcases d with d|⟨b,o,rfl,hle,_⟩
 ·exact .inl d
 ·refine .inr ⟨b,o,rfl,hle,λi y f w' g=>?_⟩;obtain⟨a',cap',e,j⟩:=(h w' g).slice;simp at e;obtain⟨e2,_,k⟩:=e;rcases j with rfl|⟨b',o',l,_,m⟩
  ·simp at f
  ·grind
variable{a:Ya1 Addr}
theorem Kt{S:Fp}{cap n:Nat}(d:n=xs.length)(h:xs=[]\/∃b o,a=some ⟨b,o,none⟩/\(xs.length<=cap/\cap<=maxLen)/\∀i y,xs[i]? = some y->∀w',Chg S w w'->At w' c y b (o+i*csz c)):RF S w (.sl c xs .no) (.slice a n cap):=λw' e=>by subst d;refine .mkSlice' rfl (h.imp id ?_);rintro⟨b,o,f,g,j⟩;exact⟨b,o,f,g,λi y k=>j i y k w' e⟩
variable{i:Int}{tk:Tk}
theorem B2u{v:Value}(m:C0 P el tt t=true)(f:tt t = .sl c)(hv:Rep vx (.sl c xs tk) v)(n:Sx.Env.ev e x=some v)(p:Sx.Env.ev e y=some (.int k i))(hi:inb i xs.length=true):∃u,Sx.Pure P e (.indexAddr t x y) u/\Rep vx (.ep c (at' c xs i) 0) u:=by
 simp[inb]at hi;simp[Rep]at hv;obtain⟨a,cap,rfl,h⟩:=B5 hv.1;obtain⟨by_,q,_,_⟩:=C8 m f;rcases h with rfl|⟨b,o,rfl,hle,g⟩
 ·simp at hi;omega
 ·obtain⟨r,i0,z,j,w,l,_⟩:=q;have d:(Sx.elSz P t == some (csz c))=true:=by simp[Sx.elSz,r,Sx.tySz,j,l]
  refine⟨_,Sx.p_ia d n p hi,?_⟩;simp only[Rep];exact⟨b,o+i.toNat*csz c,rfl,λw' s=>g _ _ (Aag hi) w' s⟩
variable{o:Nat}{sz:Nat}{u:TypeId}
theorem An9{n:Nat}{b:Nat}(c:P.underlying t=some (.array n u))(a:Sx.tySz P u=some sz)(hi : 0<=i/\i<(n:Int)):(Instr.indexAt t (.pointer (some ⟨b,o,none⟩)) (.int k i)).run P w = .ok (.pointer (some ⟨b,o+i.toNat*sz,none⟩)) w:=by simp[Instr.indexAt,asIntOf,Instr.sureAddr,run_underlying c,if_pos hi,Sx.run_sizeOf a,Sx.add_mk]
variable{h:Nat}
theorem Agn{n cap:Nat}{lo hi:Ya1 Value}{l:Nat}(d:P.underlying t=some (.slice u))(b:Sx.tySz P u=some sz)(hb:(Instr.sliceBounds true n cap lo hi none).run P w = .ok (l,h,cap) w)(_hc:c=c) :
  (Instr.sliceAt t (.slice a n cap) lo hi none).run P w = .ok (.slice (if cap=l then a else a.map (·.add (l*sz))) (h-l) (cap-l)) w:=by
 simp[Instr.sliceAt,Instr.slice,run_underlying d,hb,Sx.run_sizeOf b]
theorem A2f{S:Fp}{cap l:Nat}(d:xs=[]\/∃b o,a=some ⟨b,o,none⟩/\(xs.length<=cap/\cap<=maxLen)/\∀i y,xs[i]? = some y->∀w',Chg S w w'->At w' c y b (o+i*csz c))(m:l<=h)(f:h<=xs.length):RF S w (.sl c ((xs.drop l).take (h-l)) .no) (.slice (if cap=l then a else a.map (·.add (l*csz c))) (h-l) (cap-l)):=by
 refine Kt (by simp;omega) ?_;by_cases g:(xs.drop l).take (h-l)=[]
 ·exact .inl g
 ·right;have j:l<h:=by
   rcases Nat.lt_or_ge l h with e|e
   ·exact e
   ·simp_all
  rcases d with rfl|⟨b,o,rfl,hle,k⟩
  ·simp at f;omega
  ·refine⟨b,o+l*csz c,?_,by simp;omega,λi y n w' p=>?_⟩
   ·rw[if_neg (by omega)];simp[Sx.add_mk]
   ·grind
variable{j:Int}
theorem A2h{n cap:Nat}{a b:IntKind}(h : 0<=i/\i<=j/\j<=(cap:Int)):(Instr.sliceBounds true n cap (some (.int a i)) (some (.int b j)) none).run P w = .ok (i.toNat,j.toNat,cap) w:=by
 have c : 0<=j/\j<=(cap:Int):=by omega
 have d : 0<=i/\i<=(j.toNat:Int):=by omega
 simp only[Instr.sliceBounds,Instr.sliceBound,asIntOf,Sem.run_bind,Sem.run_pure,Result.andThen_ok,if_pos c,if_pos d]
theorem Btl{n cap:Nat}{a:IntKind}(h : 0<=i/\i<=(n:Int)):(Instr.sliceBounds true n cap (some (.int a i)) none none).run P w = .ok (i.toNat,n,cap) w:=by simp[Instr.sliceBounds,Instr.sliceBound,asIntOf,if_pos h]
theorem Bpe{n cap:Nat}{a:IntKind}(h : 0<=j/\j<=(cap:Int)):(Instr.sliceBounds true n cap none (some (.int a j)) none).run P w = .ok (0,j.toNat,cap) w:=by simp[Instr.sliceBounds,Instr.sliceBound,asIntOf,if_pos h]
theorem A3x{n cap:Nat}:(Instr.sliceBounds true n cap none none none).run P w = .ok (0,n,cap) w:=by simp[Instr.sliceBounds]
theorem Bhi{n:Nat}:(Instr.sliceBounds false n n none none none).run P w = .ok (0,n,n) w:=by simp[Instr.sliceBounds]
theorem B6b{b:UInt8}{u:Value}(h:FV w (.int .u8 (b.toNat:Int)) u):u = .int .u8 (b.toNat:Int):=by cases h;rfl
theorem A6z{xs:Yb1 UInt8}{b:Nat}(h:∀(i:Nat) (y:El .byte),xs[i]? = some y->At w .byte y b (o+i*csz .byte)):∀(j:Nat) (a:j<xs.length),w.cell? ⟨b,o+j,none⟩=some (.int .u8 (xs[j].toNat:Int)):=by intro j a;obtain⟨u,c,d⟩:=h j xs[j] (Zo1 a) 0 _ rfl;rw[B6b d]at c;simpa[csz]using c
variable{s:Nat}
theorem A3i{xs:Yb1 UInt8}{v:Value}(p:C0 P el tt s=true)(q:C0 P el tt t=true)(f:tt s = .sl .byte)(g:tt t = .str)(hv:Rep vx (.sl .byte xs tk) v)(n:Nat)(a:Act)(o:Oper)(r:Sx.EnvOk n e a)(u:Sx.Env.ev e x=some v)(z:o.op = .convert s t x):(execOp a.eval o).run P vx.w = .ok (.value (Sx.S xs)) vx.w:=by
 simp[Rep]at hv;obtain⟨ad,cap,rfl,h⟩:=B5 hv.1;obtain⟨by_,hT,_,h8⟩:=C8 p f;have k:=hT.und;have c:=Sx.tyI_spec (h8 rfl);have d:=Sx.tyS_spec (Hk q g);have hr:(convert s t (.slice ad xs.length cap)).run P vx.w = .ok (Sx.S xs) vx.w:=by
  rcases h with rfl|⟨b,off,rfl,_,l⟩
  ·cases ad with|none=>simp[convert,run_underlying k,run_underlying d,run_underlying c];rfl|some a0=>exact run_convert_bytes_back vx.w s t (el .byte) a0 cap [] k c d (λj m=>by simp at m)
  ·refine run_convert_bytes_back vx.w s t (el .byte) ⟨b,off,none⟩ cap xs k c d λj m=>?_;rw[Sx.add_mk];exact A6z (λi y hy=>l i y hy _ (Chg.refl _ _)) j m
 simp[execOp,z,r.ev u,hr]
theorem Bh7{l:Str}(b:Sx.tySome P s=true)(c:Sx.tyS P t=true)(f:Sx.Env.ev e x=some (Sx.S l)):Sx.Pure P e (.convert s t x) (Sx.S l):=λn a w o g h=>by obtain⟨d,hd⟩:=Sx.tySome_spec b;simp[execOp,h,g.ev f,convert,run_underlying hd,run_underlying (Sx.tyS_spec c)]
variable{ds:Yb1 D}{vs:Yb1 Value}
theorem Bq1{t:Nat}{off:Nat}{d:D}(h:C0 P el tt t=true)(f:tt t ≠ .no)(g:part (tt t) ds off=some d)(hc:Ef vx ds vs)(i:ds.all lf=true):∃u,(Go.part t vs.toArray off).run P w = .ok u w/\Rep vx d u:=by
 obtain⟨c,e,j⟩:=D5 h f;obtain⟨k,l⟩:=A2r g hc i;cases a:(tt t).agg? with
 |true=>obtain⟨p,m⟩:=k a;refine⟨_,?_,m⟩;have:(isAgg t).run P w = .ok true w:=Sx.run_isAgg (by simp[c,e,a]) w;simp only[Go.part,Sem.run_bind,this,Result.andThen_ok,if_true,Sx.run_sizeOf j,Sem.run_pure];congr 2;apply Array.ext';simp
 |false=>
  obtain⟨u,n,o⟩:=l a;refine⟨u,?_,o⟩;have:(isAgg t).run P w = .ok false w:=Sx.run_isAgg (by simp[c,e,a]) w;have b:vs.toArray[off]? = some u:=by simpa using n
  simp[Go.part,this,b]
theorem P8:∀(es:Yb1 D) (us:Yb1 Value) (ds:Yb1 D) (vs:Yb1 Value) (o:Nat),Ef vx ds vs->Ef vx es us->o+es.length<=ds.length->Ef vx (write ds o es) (Sx.writeAt vs o us)
 |[],us,ds,vs,o,h,k,_=>by have:us=[]:=List.eq_nil_of_length_eq_zero k.1;subst this;exact h
 |d::es,us,ds,vs,o,h,k,hl=>by
  cases us with
  |nil=>have:=k.1;simp at this
  |cons u us=>
   have hd:Rep vx d u:=by obtain⟨l,b,f⟩:=k.2 0 d (by simp);simp at b;subst b;exact f
   simp[write];simp at hl;refine P8 es us (ds.set o d) (vs.set o u) (o+1) ⟨by simp[h.1],λj e a=>?_⟩ ⟨by have:=k.1;simpa using this,λj e a=>by have:=k.2 (j+1) e (by simpa using a);simpa using this⟩ (by simp;omega);by_cases c:o=j
   ·subst c;have g:o<ds.length:=by omega
    have i:o<vs.length:=by rw[h.1];omega
    simp[g]at a;subst a;exact⟨u,by simp[i],hd⟩
   ·rw[List.getElem?_set_ne c]at a;rw[List.getElem?_set_ne c];exact h.2 j e a
theorem Alt:∀(es ds:Yb1 D) (o:Nat),ds.all lf=true->es.all lf=true->(write ds o es).all lf=true
 |[],_,_,h,_=>h
 |d::es,ds,o,h,k=>by
  simp only[Zv1,Zb1]at k;refine Alt es (ds.set o d) (o+1) ?_ k.2;rw[Zg2]at h ⊢;intro x b;rcases List.mem_or_eq_of_mem_set b with a|a
  ·exact h x a
  ·rw[a];exact k.1
theorem Ah3:∀(us cs:Yb1 Value) (off i:Nat),(us.zipIdx i).foldl (λ(cs:Array Value) p=>cs.setIfInBounds (off+p.2) p.1) cs.toArray=(Sx.writeAt cs (off+i) us).toArray
 |[],_,_,_=>rfl
 |u::us,cs,off,i=>by simp;rw[Ah3 us (cs.set (off+i) u) off (i+1)];rfl
end
section
variable {R:Type}{px:Px R}{cx:Cx}
def A4j:Op->Bool|.load _ _=>true|_=>false
def rdO(o:Oper)(env:Nat->Ya1 D)(b:Nat):Prop:=∃k d,A8h o=some k/\env k=some d/\Auv d=some b
theorem Bym{t:Ty}{v:Value}{d:D}(h:cst t v=some d):Auv d=none:=by
 unfold cst at h;split at h
 ·split at h
  ·simp at h;subst h;rfl
  ·cases h
 ·simp at h;subst h;rfl
 ·split at h
  ·simp at h;subst h;rfl
  ·cases h
 ·split at h
  ·simp at h;subst h;rfl
  ·cases h
 ·simp at h;subst h;rfl
 ·simp at h;subst h;rfl
 ·split at h
  ·split at h
   ·simp at h;subst h;rfl
   ·cases h
  ·cases h
 ·simp at h;subst h;rfl
variable{env:Nat->Ya1 D}{t:Nat}
theorem Bu7{o:Oper}{T:TypeId}{x:Operand}{b:Nat}{d:D}(c:o.op = .load T x)(a:evF px env t x=some d)(hb:Auv d=some b):rdO o env b:=by cases x with|tmp k=>exact⟨k,d,by simp[A8h,c],a,hb⟩|const v=>rw[Bym a]at hb;cases hb|global g=>simp[evF]at a;subst a;cases hb|func f=>simp[evF]at a;subst a;cases hb
def Agr(o:Oper)(env:Nat->Ya1 D)(bl:Nat->Ya1 Blk)(s:FS):Prop:=∀b k,rdO o env b->bl b=some k->b<s.nb->s.bl b=some k
variable{bl:Nat->Ya1 Blk}{w:World}
theorem Bml{s:FS}{m:Mp}{t:Ty}{p d:D}{v:Value}(a:∀b k,Auv p=some b->bl b=some k->b<s.nb->s.bl b=some k)(h:Ahs px bl t p=some d)(hv:Rep (vx cx m s w) p v):Ahs px s.bl t p=some d:=by
 cases p with
 |ptr b off=>simp[Ahs]at h ⊢;cases hb:bl b with|none=>rw[hb]at h;cases h|some k=>rw[a b k rfl hb hv.1,<-hb];exact h
 |rp b c n i=>simp[Ahs]at h ⊢;cases hb:bl b with|none=>rw[hb]at h;cases h|some k=>rw[a b k rfl hb hv.1,<-hb];exact h
 |_=>exact h
def Be2(cx:Cx)(px:Px R)(o:Oper)(env:Nat->Ya1 D)(bl:Nat->Ya1 Blk)(d:D):Prop:=∀(s:FS) (m:Mp) (a:Act) (as_:Yb1 Act) (w:World),(∀t x,x∈o.op.operands->evF px s.env t x=evF px env t x)->(A4j o.op=true->Agr o env bl s)->Rel cx m a as_ s w->∃v,(execOp a.eval o).run cx.P w = .ok (.value v) w/\Rep (vx cx m s w) d v
variable{c:Ck}
theorem F7{t:Ty}(h:t.isSl c=true):t = .sl c:=by
 cases t<;>simp[Ty.isSl]at h
 rw[h]
theorem Gx{t:Ty}(h:t.isStr=true):t = .str:=by cases t<;>simp[Ty.isStr]at h;rfl
theorem Bj{o:Oper}{d:D}(h:∀(s:FS) (m:Mp) (a:Act) (as_:Yb1 Act) (w:World),(∀t x,x∈o.op.operands->evF px s.env t x=evF px env t x)->(A4j o.op=true->Agr o env bl s)->Rel cx m a as_ s w->∃v,Sx.Pure cx.P (Azn a) o.op v/\Rep (vx cx m s w) d v):Be2 cx px o env bl d:=by intro s m a as_ w b c e;obtain⟨v,f,hv⟩:=h s m a as_ w b c e;exact⟨v,f _ ⟨a.tmps,[]⟩ w o (Ax7 (a:=⟨a.tmps,[]⟩) rfl) rfl,hv⟩
variable{r:R}
theorem A2{b:Bool}{x:Ya1 R}(h:chk b x=some r):b=true/\x=some r:=by
 cases b
 ·simp[chk]at h
 ·exact⟨rfl,by simpa[chk]using h⟩
theorem A1y{env:Nat->Ya1 D}{x:Vx}{n:Nat}{df:Yb1 D}{a:Act}(b:EnvR x n df env a){st:St}{t:Nat}:∀{ps:Yb1 (Nat×Operand)}{l:Yb1 (Nat×D)},Boa px st t ps=some l->(∀u o,o∈ps.map (·.2)->evF px env u o=ev px st u o) ->
  ∃vs:Yb1 (Nat×Value),ps.map (λp=>(p.1,a.eval p.2))=vs/\vs.length=l.length/\∀(j:Nat) f d,l[j]? = some (f,d)->∃v,vs[j]? = some (f,v)/\Rep x d v
 |[],l,h,_=>by simp[Boa]at h;subst h;exact⟨[],rfl,rfl,by simp⟩
 |(i,o)::ps,l,h,hx=>by
  simp[Boa]at h;split at h
  ·cases h
  ·rename_i d hd;split at h
   ·cases h
   ·rename_i g c;simp at h;subst h;obtain⟨vs,k,m,q⟩:=A1y b c (λu o' e=>hx u o' (by simp[e]));rw[<-hx _ o (by simp)]at hd;obtain⟨v,_,hv,r⟩:=b.ev hd
    grind
theorem Jx{env:Nat->Ya1 D}{x:Vx}{n:Nat}{df:Yb1 D}{a:Act}(e:EnvR x n df env a){st:St}:∀{xs:Yb1 Operand}{b:Yb1 Nat}{ds:Yb1 D},evs px st b xs=some ds->(∀u o,o∈xs->evF px env u o=ev px st u o)->∃vs,Sx.Env.evs (Azn a) xs=some vs/\xs.map a.eval=vs/\Reps x ds vs
 |[],b,ds,h,_=>by simp[evs]at h;subst h;exact⟨[],rfl,rfl,by simp[Reps]⟩
 |o::xs,b,ds,h,hx=>by
  simp[evs]at h;split at h
  ·cases h
  ·rename_i d hd;split at h
   ·cases h
   ·rename_i f c;simp at h;subst h;obtain⟨vs,g,i,j⟩:=Jx e c (λu o' k=>hx u o' (by simp[k]));rw[<-hx _ o (by simp)]at hd;obtain⟨v,l,m,p⟩:=e.ev hd;refine⟨v::vs,by simp[Sx.Env.evs,l,g],by simp[m,i],?_⟩;exact⟨v,vs,rfl,p,j⟩
theorem Ad0{env:Nat->Ya1 D}{x:Vx}{n:Nat}{df:Yb1 D}{a:Act}(e:EnvR x n df env a){st:St}:∀{ps:Yb1 (Nat×Operand)}{i:Nat}{ds:Yb1 D},Aug px st i ps=some ds->(∀u o,o∈ps.map (·.2)->evF px env u o=ev px st u o)->∃vs,ps.map (·.1)=List.range' i ds.length/\Sx.Env.evs (Azn a) (ps.map (·.2))=some vs/\(ps.map (·.2)).map a.eval=vs/\Reps x ds vs
 |[],i,ds,h,_=>by simp[Aug]at h;subst h;exact⟨[],rfl,rfl,rfl,by simp[Reps]⟩
 |(k,o)::ps,i,ds,h,hx=>by
  simp[Aug]at h;split at h
  ·rename_i b;have b:=Zl1 b;subst b;split at h
   ·cases h
   ·rename_i d hd;split at h
    ·cases h
    ·rename_i f c;simp at h;subst h;obtain⟨vs,g,j,l,m⟩:=Ad0 e c (λu o' p=>hx u o' (by simp[p]));rw[<-hx _ o (by simp)]at hd;obtain⟨v,q,r,s⟩:=e.ev hd;refine⟨v::vs,by simp[g,List.range'_succ],by simp[Sx.Env.evs,q,j],by simp[r,l],?_⟩;simp only[Reps];exact⟨v,vs,rfl,s,m⟩
  ·cases h
theorem Aw2{x:Vx}{s:Nat}{places:Array (Nat×Nat)}(c:∀f o u,Ayp px s f=some (o,u)->u.known=true->places[f]? = some (o,u.n)):∀{l:Yb1 (Nat×D)}{z ds:Yb1 D}{zv:Yb1 Value}{vs:Yb1 (Nat×Value)},Aw5 px s z l=some ds->Ef x z zv->z.all lf=true->vs.length=l.length->(∀(j:Nat) f d,l[j]? = some (f,d)->∃v,vs[j]? = some (f,v)/\Rep x d v) ->
  ∃cs,Instr.fill (places[·]?) zv.toArray vs=some cs/\Ef x ds cs.toList/\ds.all lf=true
 |[],z,ds,zv,vs,h,hz,hl,hlen,_=>by simp[Aw5]at h;subst h;have:vs=[]:=List.eq_nil_of_length_eq_zero (by simpa using hlen);subst this;exact⟨zv.toArray,rfl,by simpa using hz,hl⟩
 |(f,d)::l,z,ds,zv,vs,h,hz,hl,hlen,hv=>by
  simp[Aw5]at h;split at h
  ·rename_i o u w;split at h
   ·rename_i hc;simp only[Zb1]at hc;obtain⟨⟨⟨r,a⟩,e⟩,t⟩:=hc;have a:o+(cells d).length<=z.length:=by simpa using a
    cases vs with
    |nil=>simp at hlen
    |cons p vs=>
     obtain⟨v,g,i⟩:=hv 0 f d (by simp);simp[ Za1]at g;subst g;have b:=N2 i e;have k:=c f o u w t;obtain⟨cs,y,h2,h3⟩:=Aw2 c (vs:=vs) (zv:=Sx.writeAt zv o v.cells.toList) h (P8 _ _ _ _ _ hz b a) (Alt _ _ _ hl e) (by simpa using hlen) (λj f' d' hj=>by have:=hv (j+1) f' d' (by simpa using hj);simpa using this);refine⟨cs,?_,h2,h3⟩;have m:v.cells.size=u.n:=by rw[<-(Zl1 r),<-b.1];simp
     have hle:¬(o+v.cells.size > zv.toArray.size):=by
      have h5:v.cells.size=(cells d).length:=by rw[<-b.1];simp
      simp[ hz.1];omega
     simp only[Instr.fill,k,m,decide_false];rw[m]at hle;simp only[ hle];have q:=Ah3 v.cells.toList zv o 0;rw[Nat.add_zero]at q;rw[<-y,<-q];congr 1;rw[<-Array.foldl_toList];simp
   ·cases h
  ·cases h
end
section
variable {R:Type}{px:Px R}{cx:Cx}
variable{o:Nat}{s:Nat}
theorem Ml(e:PxOk cx px){f:Nat}{u:Ty}(h:Ayp px s f=some (o,u)):∃c l z fds fd,px.tt s = .st c l z/\cx.P.underlying s=some (.struct fds)/\fds[f]? = some fd/\px.tt fd.type=u/\fd.offset=o/\Sx.fldOff cx.P s f=some o:=by
 unfold Ayp at h;split at h
 ·rename_i c l z a;split at h
  ·rename_i o' n g;simp at h;obtain⟨rfl,rfl⟩:=h;obtain⟨fds,i,b,_⟩:=A0k (e.tt s) a;obtain⟨fd,j,k,m,d⟩:=Afc b g;rw[Nat.zero_add]at d;exact⟨c,l,z,fds,fd,a,i,by simpa using j,by rw[k],m,d⟩
  ·cases h
 ·cases h
theorem B26(l:Str)(i:Int):Fy .u8 (bat l i)=true:=B1r (by have:=(l.getD i.toNat 0).toNat_lt;simp only[bat];omega)
variable{i:Int}{j:Int}
theorem Iv{n:Nat}(h:upto i j n=true) : 0<=i/\i<=j/\j<=(n:Int):=by simpa[upto,and_assoc]using h
theorem Mn{n:Nat}(h:inb i n=true) : 0<=i/\i<(n:Int):=by simpa[inb]using h
variable{env:Nat->Ya1 D}{st:St}{x:Vx}
theorem Lx{n:Nat}{df:Yb1 D}{a:Act}(c:EnvR x n df env a){o:Ya1 Operand}{d:Ya1 D}(h:evo px st o=some d)(f:∀u y,o=some y->evF px env u y=ev px st u y):(o=none/\d=none)\/∃y e v,o=some y/\d=some e/\Sx.Env.ev (Azn a) y=some v/\Rep x e v:=by
 cases o with
 |none=>simp[evo]at h;exact .inl ⟨rfl,h.symm⟩
 |some y=>
  simp[evo]at h;split at h
  ·rename_i e b;simp at h;rw[<-f _ y rfl]at b;obtain⟨v,g,_,i⟩:=c.ev b;exact .inr ⟨y,e,v,rfl,h.symm,g,i⟩
  ·cases h
variable{K:D->Ya1 R}{hi:Ya1 D}{lo:Ya1 D}{r:R}
theorem Bas{l:Str}(h:A9a l lo hi K=some r):∃d,K d=some r/\∀{P:Program}{e:Sx.Env}{t:Nat}{x:Operand}{c f:Ya1 Operand}{vx:Vx},Sx.tyS P t=true->Sx.Env.ev e x=some (Sx.S l)->l.length<=maxLen->((c=none/\lo=none)\/∃y d v,c=some y/\lo=some d/\Sx.Env.ev e y=some v/\Rep vx d v)->((f=none/\hi=none)\/∃y d v,f=some y/\hi=some d/\Sx.Env.ev e y=some v/\Rep vx d v)->∃v,Sx.Pure P e (.slice t x c f none) v/\Rep vx d v:=by
 unfold A9a at h;split at h
 ·rename_i k i;obtain⟨hb,g⟩:=A2 h;refine⟨_,g,λ{P e t x c f vx} m n o a b=>?_⟩;rcases a with ⟨_,a⟩|⟨y,d,v,rfl,a,p,q⟩
  ·cases a
  rcases b with ⟨rfl,_⟩|⟨w,z,v',_,b,_⟩
  ·simp at a;subst a;obtain rfl:=Rep.int q;have:=Iv hb;exact⟨_,Sx.p_cutlo m n p ⟨this.1,this.2.1⟩,Lu (by simp;omega)⟩
  ·cases b
 ·rename_i k j;obtain⟨hb,g⟩:=A2 h;refine⟨_,g,λ{P e t x c f vx} m n o a b=>?_⟩;rcases b with ⟨_,b⟩|⟨y,d,v,rfl,b,p,q⟩
  ·cases b
  rcases a with ⟨rfl,_⟩|⟨w,z,v',_,a,_⟩
  ·simp at b;subst b;obtain rfl:=Rep.int q;have:=Iv hb;exact⟨_,Sx.p_cuthi m n p ⟨this.2.1,this.2.2⟩,Lu (by simp;omega)⟩
  ·cases a
 ·rename_i k i k' j;obtain⟨hb,g⟩:=A2 h;refine⟨_,g,λ{P e t x c f vx} m n o a b=>?_⟩;rcases a with ⟨_,a⟩|⟨y,d,v,rfl,a,p,q⟩
  ·cases a
  rcases b with ⟨_,b⟩|⟨w,z,v',rfl,b,s,u⟩
  ·cases b
  simp at a b;subst a;subst b;obtain rfl:=Rep.int q;obtain rfl:=Rep.int u;exact⟨_,Sx.p_cut m n p s (Iv hb),Lu (by simp[cut];omega)⟩
 ·cases h
variable{P:Program}{t:Nat}
theorem Ag4{e:Sx.Env}{x:Operand}{b c:Ya1 Operand}{v u:Value}{d f:Ya1 Value}(i:Sx.Env.ev e x=some v)(j:(b=none/\d=none)\/∃y q,b=some y/\d=some q/\Sx.Env.ev e y=some q)(k:(c=none/\f=none)\/∃y q,c=some y/\f=some q/\Sx.Env.ev e y=some q)(l:∀w,(Instr.sliceAt t v d f none).run P w = .ok u w):Sx.Pure P e (.slice t x b c none) u:=λn a w o g m=>by
 have p:b.map a.eval=d:=by
  rcases j with ⟨rfl,rfl⟩|⟨y,q,rfl,rfl,h⟩
  ·rfl
  ·simp[g.ev h]
 have e2:c.map a.eval=f:=by
  rcases k with ⟨rfl,rfl⟩|⟨y,q,rfl,rfl,h⟩
  ·rfl
  ·simp[g.ev h]
 simp[execOp,m,g.ev i,p,e2,l w]
variable{c:Ck}{el:Ck->TypeId}{tk:Tk}{tt:Nat->Ty}
theorem A86{e:Sx.Env}{x y z:Operand}{vx:Vx}{v:Value}{l:Yb1 (El c)}{kj kk:IntKind}(ht:C0 P el tt t=true)(m:tt t = .sl c)(hv:Rep vx (.sl c l tk) v)(hx:Sx.Env.ev e x=some v)(g:Sx.Env.ev e y=some (.int kj j))(hz:Sx.Env.ev e z=some (.int kk j))(hb : 0<=j/\j<=l.length):∃u,Sx.Pure P e (.slice t x none (some y) (some z)) u/\Rep vx (.sl c (l.take j.toNat) .f) u:=by
 simp[Rep]at hv;obtain⟨a,cap,rfl,hf⟩:=B5 hv.1;obtain⟨by_,hT,_,_⟩:=C8 ht m;obtain⟨hu,i0,z0,p,a3,q,_⟩:=hT;have k:Sx.tySz P (el c)=some (csz c):=by simp[Sx.tySz,p,q]
 have r : 0<=j/\j<=(cap:Int):=by
  rcases hf with rfl|⟨_,_,_,h,_⟩
  ·simp at hb;omega
  ·omega
 have s : 0<=j/\j<=(j.toNat:Int):=by omega
 have d:(l.take j.toNat).length=j.toNat:=by simp;omega
 have hr:∀w,(Instr.sliceAt t (.slice a l.length cap) none (some (.int kj j)) (some (.int kk j))).run P w = .ok (.slice (if j.toNat=0 then a else a.map (·.add (0*csz c))) j.toNat j.toNat) w:=λw=>by simp only[Instr.sliceAt,Instr.slice,Sem.run_bind,run_underlying hu,Result.andThen_ok,Instr.sliceBounds,Instr.sliceBound,asIntOf,Sem.run_pure,if_pos r,if_pos s,Sx.run_sizeOf k,Nat.sub_zero]
 refine⟨.slice (if j.toNat=0 then a else a.map (·.add (0*csz c))) j.toNat j.toNat,λn a' w o he ho=>?_,?_⟩
 ·simp[execOp,ho,he.ev hx,he.ev g,he.ev hz,hr w]
 ·simp only[Rep];refine⟨Kt d.symm ?_,_,by rw[d]⟩;by_cases h0:l.take j.toNat=[]
  ·exact .inl h0
  ·rcases hf with rfl|⟨b,o,rfl,hc,a2⟩
   ·simp at h0
   ·refine .inr ⟨b,o,?_,⟨by rw[d];exact Zn1 _,by omega⟩,λi y g w' hw=>?_⟩
    ·split
     ·rfl
     ·simp[Sx.add_mk]
    ·rw[List.getElem?_take]at g;split at g
     ·exact a2 i y g w' hw
     ·cases g
theorem Ba9{l:Yb1 (El c)}(h:Ba8 c l lo hi K=some r):∃d,K d=some r/\∀{P:Program}{el:Ck->TypeId}{tt:Nat->Ty}{e:Sx.Env}{t:Nat}{x:Operand}{b f:Ya1 Operand}{vx:Vx}{v:Value}{tk:Tk},C0 P el tt t=true->tt t = .sl c->Rep vx (.sl c l tk) v->Sx.Env.ev e x=some v->((b=none/\lo=none)\/∃y d v,b=some y/\lo=some d/\Sx.Env.ev e y=some v/\Rep vx d v)->((f=none/\hi=none)\/∃y d v,f=some y/\hi=some d/\Sx.Env.ev e y=some v/\Rep vx d v)->∃u,Sx.Pure P e (.slice t x b f none) u/\Rep vx d u:=by
 have key:∀(i j:Nat),i<=j->j<=l.length->∀{P:Program}{el:Ck->TypeId}{tt:Nat->Ty}{e:Sx.Env}{t:Nat}{x:Operand}{b f:Ya1 Operand}{vx:Vx}{v:Value}{tk:Tk}{p s:Ya1 Value},C0 P el tt t=true->tt t = .sl c->Rep vx (.sl c l tk) v->Sx.Env.ev e x=some v->((b=none/\p=none)\/∃y q,b=some y/\p=some q/\Sx.Env.ev e y=some q)->((f=none/\s=none)\/∃y q,f=some y/\s=some q/\Sx.Env.ev e y=some q)->(∀cap w,l.length<=cap\/l=[]->(Instr.sliceBounds true l.length cap p s none).run P w = .ok (i,j,cap) w)->∃u,Sx.Pure P e (.slice t x b f none) u/\Rep vx (.sl c ((l.drop i).take (j-i)) .no) u:=by
  intro i j a5 a6 P el tt e t x b f vx v tk p s ht g hv hx h1 h2 hb;simp[Rep]at hv;obtain⟨a,cap,rfl,hf⟩:=B5 hv.1;obtain⟨by_,hT,_,_⟩:=C8 ht g;obtain⟨hu,i0,z,a7,hz,a8,_⟩:=hT;have a3:Sx.tySz P (el c)=some (csz c):=by simp[Sx.tySz,a7,a8]
  have a4:l.length<=cap\/l=[]:=by grind
  refine⟨_,Ag4 hx h1 h2 (λw=>Agn (c:=c) hu a3 (hb cap w a4) rfl),?_⟩;simp[Rep];exact⟨A2f hf a5 a6,trivial⟩
 have a2:∀{e:Sx.Env}{vx:Vx}{o:Ya1 Operand}{d:Ya1 D},((o=none/\d=none)\/∃y q v,o=some y/\d=some q/\Sx.Env.ev e y=some v/\Rep vx q v)->∀{k:IntKind}{n:Int},d=some (.int k n)->∃y q,o=some y/\some (Value.int k n)=some q/\Sx.Env.ev e y=some q:=by
  rintro e vx o d (⟨_,rfl⟩|⟨y,q,v,rfl,rfl,hy,hr⟩) k n hd
  ·cases hd
  ·simp at hd;subst hd;obtain rfl:=Rep.int hr;exact⟨y,_,rfl,rfl,hy⟩
 have m:∀{e:Sx.Env}{vx:Vx}{o:Ya1 Operand}{d:Ya1 D},((o=none/\d=none)\/∃y q v,o=some y/\d=some q/\Sx.Env.ev e y=some v/\Rep vx q v)->d=none->o=none:=by grind
 unfold Ba8 at h;split at h
 ·refine⟨_,h,λ{P el tt e t x b f vx v tk} ht g hv hx h1 h2=>?_⟩;have:=key 0 l.length (Nat.zero_le _) (Zn1 _) ht g hv hx (.inl ⟨m h1 rfl,rfl⟩) (.inl ⟨m h2 rfl,rfl⟩) (λcap w _=>A3x);simpa using this
 ·rename_i k i;obtain⟨hb,hk⟩:=A2 h;have hb:=Iv hb;refine⟨_,hk,λ{P el tt e t x b f vx v tk} ht g hv hx h1 h2=>?_⟩;have:=key i.toNat l.length (by omega) (Zn1 _) ht g hv hx (.inr (a2 h1 rfl)) (.inl ⟨m h2 rfl,rfl⟩) (λcap w _=>Btl ⟨hb.1,hb.2.1⟩);rwa[List.take_of_length_le (by simp)]at this
 ·rename_i k j;obtain⟨hb,hk⟩:=A2 h;have hb:=Iv hb;refine⟨_,hk,λ{P el tt e t x b f vx v tk} ht g hv hx h1 h2=>?_⟩;have:=key 0 j.toNat (Nat.zero_le _) (by omega) ht g hv hx (.inl ⟨m h1 rfl,rfl⟩) (.inr (a2 h2 rfl)) (λcap w hc=>Bpe (by rcases hc with hc|rfl<;>simp at * <;> omega));simpa using this
 ·rename_i k i k' j;obtain⟨hb,hk⟩:=A2 h;have hb:=Iv hb;refine⟨_,hk,λ{P el tt e t x b f vx v tk} ht g hv hx h1 h2=>?_⟩;exact key i.toNat j.toNat (by omega) (by omega) ht g hv hx (.inr (a2 h1 rfl)) (.inr (a2 h2 rfl)) (λcap w hc=>A2h (by rcases hc with hc|rfl<;>simp at * <;> omega))
 ·cases h
theorem S0{n:Int}(h:upI i j n=true) : 0<=i/\i<=j/\j<=n:=by simp[upI]at h;exact⟨h.1.1,h.1.2,h.2⟩
theorem Btc{n:Int}(h:inO i n=true) : 0<=i/\i<n:=by simpa[inO]using h
theorem Bbx{b:Nat}{s n:Int}(h:Bbf b c s n lo hi K=some r):∃d,K d=some r/\∀{P:Program}{el:Ck->TypeId}{tt:Nat->Ty}{e:Sx.Env}{t:Nat}{x:Operand}{f g:Ya1 Operand}{vx:Vx}{v:Value},C0 P el tt t=true->tt t = .sl c->Rep vx (.osl b c s n) v->Sx.Env.ev e x=some v->((f=none/\lo=none)\/∃y d v,f=some y/\lo=some d/\Sx.Env.ev e y=some v/\Rep vx d v)->((g=none/\hi=none)\/∃y d v,g=some y/\hi=some d/\Sx.Env.ev e y=some v/\Rep vx d v)->∃u,Sx.Pure P e (.slice t x f g none) u/\Rep vx d u:=by
 have key:∀(i j:Int),0<=i->i<=j->j<=n->∀{P:Program}{el:Ck->TypeId}{tt:Nat->Ty}{e:Sx.Env}{t:Nat}{x:Operand}{f g:Ya1 Operand}{vx:Vx}{v:Value}{p a2:Ya1 Value},C0 P el tt t=true->tt t = .sl c->Rep vx (.osl b c s n) v->Sx.Env.ev e x=some v->((f=none/\p=none)\/∃y q,f=some y/\p=some q/\Sx.Env.ev e y=some q)->((g=none/\a2=none)\/∃y q,g=some y/\a2=some q/\Sx.Env.ev e y=some q)->(∀cap w,n.toNat<=cap->(Instr.sliceBounds true n.toNat cap p a2 none).run P w = .ok (i.toNat,j.toNat,cap) w)->∃u,Sx.Pure P e (.slice t x f g none) u/\Rep vx (.osl b c (s+i) (j-i)) u:=by
  intro i j hi a5 a8 P el tt e t x f g vx v p a2 ht l hv hx h1 h2 hb;simp only[Rep]at hv;obtain⟨g1,g2,g3,g4,a,cap,rfl,g5,g6,g7,cur,fz,g8,g9⟩:=hv;obtain⟨by_,hT,_,_⟩:=C8 ht l;obtain⟨hu,i0,z,a6,hz,a7,_⟩:=hT;have a4:Sx.tySz P (el c)=some (csz c):=by simp[Sx.tySz,a6,a7]
  refine⟨_,Ag4 hx h1 h2 (λw=>Agn (c:=c) hu a4 (hb cap w g6) rfl),?_⟩;simp only[Rep];refine⟨g1,by omega,by omega,by omega,_,cap-i.toNat,by rw[show j.toNat-i.toNat=(j-i).toNat by omega],?_,by omega,by omega,cur,fz,g8,by rw[g9];congr 1;omega⟩;rcases Int.le_iff_lt_or_eq.1 a5 with a9|aa
  ·right;rw[if_neg (by omega),(g5.resolve_left (by omega))];simp[ Sx.add_mk];rw[<-Nat.add_mul];congr 1;omega
  ·left;omega
 have a3:∀{e:Sx.Env}{vx:Vx}{o:Ya1 Operand}{d:Ya1 D},((o=none/\d=none)\/∃y q v,o=some y/\d=some q/\Sx.Env.ev e y=some v/\Rep vx q v)->∀{k:IntKind}{n:Int},d=some (.int k n)->∃y q,o=some y/\some (Value.int k n)=some q/\Sx.Env.ev e y=some q:=by
  rintro e vx o d (⟨_,rfl⟩|⟨y,q,v,rfl,rfl,hy,hr⟩) k n hd
  ·cases hd
  ·simp at hd;subst hd;obtain rfl:=Rep.int hr;exact⟨y,_,rfl,rfl,hy⟩
 have m:∀{e:Sx.Env}{vx:Vx}{o:Ya1 Operand}{d:Ya1 D},((o=none/\d=none)\/∃y q v,o=some y/\d=some q/\Sx.Env.ev e y=some v/\Rep vx q v)->d=none->o=none:=by
  rintro e vx o d (⟨rfl,rfl⟩|⟨y,q,v,rfl,rfl,hy,hr⟩) hd
  ·rfl
  ·cases hd
 have nn:∀{vx:Vx}{v:Value},Rep vx (.osl b c s n) v->0<=n:=λh=>by simp[Rep]at h;exact h.2.2.1
 unfold Bbf at h;split at h
 ·refine⟨_,h,λ{P el tt e t x f g vx v} ht l hv hx h1 h2=>?_⟩;have:=key 0 n (Int.le_refl _) (nn hv) (Int.le_refl _) ht l hv hx (.inl ⟨m h1 rfl,rfl⟩) (.inl ⟨m h2 rfl,rfl⟩) (λcap w _=>A3x);simpa using this
 ·rename_i k i;obtain⟨hb,hk⟩:=A2 h;have hb:=S0 hb;refine⟨_,hk,λ{P el tt e t x f g vx v} ht l hv hx h1 h2=>?_⟩;exact key i n hb.1 hb.2.1 (Int.le_refl _) ht l hv hx (.inr (a3 h1 rfl)) (.inl ⟨m h2 rfl,rfl⟩) (λcap w _=>Btl (by omega))
 ·rename_i k j;obtain⟨hb,hk⟩:=A2 h;have hb:=S0 hb;refine⟨_,hk,λ{P el tt e t x f g vx v} ht l hv hx h1 h2=>?_⟩;have:=key 0 j (Int.le_refl _) hb.2.1 hb.2.2 ht l hv hx (.inl ⟨m h1 rfl,rfl⟩) (.inr (a3 h2 rfl)) (λcap w hc=>Bpe (by omega));simpa using this
 ·rename_i k i k' j;obtain⟨hb,hk⟩:=A2 h;have hb:=S0 hb;refine⟨_,hk,λ{P el tt e t x f g vx v} ht l hv hx h1 h2=>?_⟩;exact key i j hb.1 hb.2.1 hb.2.2 ht l hv hx (.inr (a3 h1 rfl)) (.inr (a3 h2 rfl)) (λcap w hc=>A2h (by omega))
 ·cases h
end
section
variable {R:Type}{px:Px R}{cx:Cx}
variable{P:Program}{ds:Yb1 D}{el:Ck->TypeId}{tt:Nat->Ty}{vs:Yb1 Value}
theorem Az3{e:Sx.Env}{vx:Vx}{b:Builtin}{xs:Yb1 Operand}{p:Array Nat}{d:D}(ht:C0 P el tt (p.toList.headD 0)=true)(h:Aci (tt (p.toList.headD 0)) b ds=some d)(g:Sx.Env.evs e xs=some vs)(hr:Reps vx ds vs)(j:b = .len->p = #[p.toList.headD 0]):∃v,Sx.Pure P e (.call ⟨.builtin b,xs.toArray,p⟩) v/\Rep vx d v:=by
 have one:∀{m:D},ds=[m]->∃x v,xs=[x]/\Sx.Env.ev e x=some v/\Rep vx m v:=by
  rintro m rfl;simp only[Reps]at hr;obtain⟨u,us,rfl,o,rfl⟩:=hr;cases xs with
  |nil=>simp[Sx.Env.evs]at g
  |cons x xs=>
   simp[Sx.Env.evs]at g;cases hv:Sx.Env.ev e x with
   |none=>simp[hv]at g
   |some v=>
    rw[hv]at g;cases q:Sx.Env.evs e xs with
    |none=>simp[q]at g
    |some us=>
     simp[q]at g;obtain⟨rfl,rfl⟩:=g;cases xs with
     |nil=>grind
     |cons y ys=>
      simp[Sx.Env.evs]at q;cases i:Sx.Env.ev e y<;>simp[i]at q
      cases h3:Sx.Env.evs e ys<;>simp[h3]at q
 have two:∀{m d2:D},ds=[m,d2]->∃x y v u,xs=[x,y]/\Sx.Env.ev e x=some v/\Sx.Env.ev e y=some u/\Rep vx m v/\Rep vx d2 u:=by
  rintro m d2 rfl;simp only[Reps]at hr;obtain⟨u1,a2,rfl,o,u2,a3,rfl,i,rfl⟩:=hr;cases xs with
  |nil=>simp[Sx.Env.evs]at g
  |cons x xs=>
   simp[Sx.Env.evs]at g;cases hv:Sx.Env.ev e x with
   |none=>simp[hv]at g
   |some v=>
    rw[hv]at g;cases xs with
    |nil=>simp[Sx.Env.evs]at g
    |cons y xs=>
     simp[Sx.Env.evs]at g;cases r:Sx.Env.ev e y with
     |none=>simp[r]at g
     |some v2=>
      rw[r]at g;cases xs with
      |nil=>grind
      |cons z zs=>
       simp[Sx.Env.evs]at g;cases h3:Sx.Env.ev e z<;>simp[h3]at g
       cases h4:Sx.Env.evs e zs<;>simp[h4]at g
 unfold Aci at h;split at h
 ·split at h
  ·rename_i s;simp at h;subst h;obtain⟨x,v,rfl,hv,f⟩:=one rfl;obtain rfl:=Rep.str f;rw[j rfl];exact⟨_,Sx.p_lens (Hk ht (Gx s)) hv,Dl (Rj f.strLen)⟩
  ·cases h
 ·split at h
  ·rename_i c l t s;simp at h;subst h;obtain⟨x,v,rfl,hv,f⟩:=one rfl;simp[Rep]at f;obtain⟨a,cap,rfl,_⟩:=B5 f.1;obtain⟨by_,hT,_⟩:=C8 ht (F7 s);rw[j rfl];exact⟨_,Sx.p_lensl (by unfold Sx.tySl;rw[hT.und]) hv,Dl (Rj f.1.here.len)⟩
  ·cases h
 ·split at h
  ·rename_i n _ s;simp at h;subst h;obtain⟨x,v,rfl,hv,f⟩:=one rfl;simp[Rep]at f;obtain⟨_,o,i,h3,a,cap,rfl,_⟩:=f;obtain⟨by_,hT,_⟩:=C8 ht (F7 s);rw[j rfl];have h4:=Sx.p_lensl (by unfold Sx.tySl;rw[hT.und]) hv;have h5:=Rj (show n.toNat<=maxLen by omega);rw[Int.toNat_of_nonneg i]at h4 h5;exact⟨_,h4,Dl h5⟩
  ·cases h
 ·split at h
  ·rename_i k x k' y w;simp at w;subst w;simp at h;subst h;obtain⟨o1,o2,v1,v2,rfl,o,i,r1,r2⟩:=two rfl;obtain rfl:=Rep.int r1;obtain rfl:=Rep.int r2;refine⟨_,B5v o i,Dl ?_⟩;unfold min2;split
   ·exact r2.u8
   ·exact r1.u8
  ·cases h
 ·split at h
  ·rename_i k x k' y w;simp at w;subst w;simp at h;subst h;obtain⟨o1,o2,v1,v2,rfl,o,i,r1,r2⟩:=two rfl;obtain rfl:=Rep.int r1;obtain rfl:=Rep.int r2;refine⟨_,B52 o i,Dl ?_⟩;unfold max2;split
   ·exact r2.u8
   ·exact r1.u8
  ·cases h
 ·cases h
variable{t:Nat}
theorem B3k{e:Sx.Env}{vx:Vx}{op:UnOp}{x:Operand}{a d:D}{v:Value}(h:un op a=some d)(b:Sx.Env.ev e x=some v)(c:Rep vx a v):∃u,Sx.Pure P e (.unOp op t x) u/\Rep vx d u:=by
 unfold un at h;split at h<;>simp only[Za1,reduceCtorEq]at h
 ·subst h;obtain rfl:=Rep.bool c;exact⟨_,Sx.p_not b,Bv _⟩
 ·subst h;obtain rfl:=Rep.int c;exact⟨_,Sx.p_neg b,Dl (Aa6 _ _)⟩
 ·subst h;obtain rfl:=Rep.int c;exact⟨_,B2k b,Dl (Aa6 _ _)⟩
theorem A63{c:Ck}:∀{n:Nat}{ds:Yb1 D}{xs:Yb1 (El c)},Bli c n ds=some xs->xs.length=n/\∀(i:Nat) y,xs[i]? = some y->dec c ((ds.drop (i*csz c)).take (csz c))=some y
 |0,[],xs,h=>by simp[Bli]at h;subst h;exact⟨rfl,by simp⟩
 |0,_::_,xs,h=>by simp[Bli]at h
 |n+1,ds,xs,h=>by
  simp[Bli]at h;split at h
  ·rename_i x f;split at h
   ·rename_i xs' a;simp at h;subst h;obtain⟨b,d⟩:=A63 a;refine⟨by simp[b],λi y e=>?_⟩;cases i with|zero=>grind|succ i=>have:=d i y (by simpa using e);rw[List.drop_drop]at this;rw[Nat.succ_mul,Nat.add_comm (i*csz c)];exact this
   ·cases h
  ·cases h
variable{x:Vx}
theorem Rep.tup{v:Value}(h:Rep x (.tup ds) v):∃vs:Yb1 Value,v = .tuple vs.toArray/\Reps x ds vs:=by simp[Rep]at h;exact h
theorem Awm{α β:Type}(f : α->Ya1 β)(g : α->β):∀(l:Yb1 α),(∀x,x∈l->f x=some (g x))->l.mapM f=some (l.map g)
 |[],_=>rfl
 |x::l,h=>by simp[ h x (by simp),Awm f g l (λy a=>h y (by simp[a]))]
theorem Au4{t:TypeId}{n:Nat}(h:Sx.tySz P t=some n):∃i,P.info? t=some i/\i.size=n:=by unfold Sx.tySz at h;cases hi:P.info? t with|none=>rw[hi]at h;cases h|some i=>rw[hi]at h;simp at h;exact⟨i,rfl,h⟩
theorem L8{t:TypeId}{zs:Yb1 Value}(h:Sx.tyZero P t=some zs):∃i z,P.info? t=some i/\i.zero=some z/\z.cells=zs.toArray:=by
 unfold Sx.tyZero at h;cases hi:P.info? t with
 |none=>rw[hi]at h;cases h
 |some i=>rw[hi]at h;cases a:i.zero with|none=>simp[a]at h|some z=>simp[a]at h;exact⟨i,z,rfl,a,by rw[<-h]⟩
theorem Atb{P:Program}{t:Nat}{fds:Array Field}(g:P.underlying t=some (.struct fds)):∀(l1:Yb1 Field) (d:Yb1 (Nat×Nat)) (i:Nat),Xk P t i l1 d=true->(∀(j:Nat) fd,l1[j]? = some fd->fds[i+j]? = some fd)->∀fd,fd∈l1->∃n,Sx.tySz P fd.type=some n
 |[],_,_,_,_,fd,a=>by simp at a
 |f::l1,[],_,hb,_,_,_=>by simp[Xk]at hb
 |f::l1,p::d,i,hb,hg,fd,a=>by
  simp[Xk]at hb;simp at a;rcases a with rfl|a
  ·have b:=hb.1.1.2;have c:=hg 0 fd (by simp);rw[Nat.add_zero]at c;unfold Sx.fldOff at b;rw[g]at b;simp[c]at b;split at b
   ·exact⟨_,by assumption⟩
   ·cases b
  ·exact Atb g l1 d (i+1) hb.2 (λj e h=>by have:=hg (j+1) e (by simpa using h);rwa[show i+(j+1)=i+1+j by omega]at this) fd a
theorem Bop(p:PxOk cx px){c:Ya1 Ck}{l:Yb1 (Nat×Nat)}{z:Yb1 D}(b:px.tt t = .st c l z){q:Yb1 (Nat×D)}(r:Aw5 px t z q = some ds){vs:Yb1 (Nat×Value)}(h2:vs.length=q.length)(h3:∀(j:Nat) f d,q[j]? = some (f,d)->∃v,vs[j]? = some (f,v)/\Rep x d v):∃cs:Array Value,cx.P.built t vs=some cs/\Rep x (.agg ds) (.agg cs):=by
 obtain⟨fds,w,y,_⟩:=A0k (p.tt t) b;obtain⟨zs,a2,a3⟩:=Us (p.tt t) (by rw[b];simp) (z:=.agg z) (by rw[b];rfl);obtain⟨e,a4⟩:=T6 (x:=x) a3;have e:Ef x z zs:=Hf e;have g:=Atb w fds.toList l 0 y (λj fd hj=>by simpa using hj);have a5:fds.toList.mapM (λf=>(cx.P.info? f.type).map λi=>(f.offset,i.size))=some (fds.toList.map λf=>(f.offset,(Sx.tySz cx.P f.type).getD 0)):=Awm _ _ _ λfd a=>by obtain⟨n,hn⟩:=g fd a;obtain⟨i,hi,rfl⟩:=Au4 hn;simp[hi,Sx.tySz]
 obtain⟨cs,a6,a7,a8⟩:=Aw2 (px:=px) (x:=x) (s:=t) (places:=(fds.toList.map λf=>(f.offset,(Sx.tySz cx.P f.type).getD 0)).toArray) (λf o' u hf hk=>by
  obtain⟨_,_,_,ab,fd,_,h,a,k,m,_⟩:=Ml p hf;rw[w]at h;simp at h;subst h;have a9:=(D5 (p.tt fd.type) (by rw[k];exact(E9 hk).1)).2.2;have ac:fds.toList[f]? = some fd:=by simpa using a
  have o:fds[f]? = some fd:=a;simp[o,a9,k,m]) r e a4 h2 h3
 obtain⟨i,zv,hi,hz,aa⟩:=L8 a2;refine⟨cs,?_,?_⟩
 ·unfold Program.built;simp only[hi,w,hz,a5,aa];exact a6
 ·simp only[Rep];exact⟨a8,cs.toList,by simp,a7.reps⟩
theorem Akn{x:Vx}{c:Ck}:∀{l:Yb1 D}{vs:Yb1 Value},Reps x l vs->(l.all λd=>lfs d&&Nat.beq (cells d).length (csz c))=true->Ef x ((l.map cells).flatten) (vs.flatMap λv=>v.cells.toList)/\((l.map cells).flatten).all lf=true/\∀v,v∈vs->v.cells.size=csz c
 |[],vs,hr,_=>by simp[Reps]at hr;subst hr;exact⟨⟨rfl,by simp⟩,rfl,by simp⟩
 |d::l,vs,hr,hl=>by
  simp[Reps]at hr;obtain⟨u,us,rfl,a,b⟩:=hr;simp only[Zv1,Zb1]at hl;obtain⟨i1,e,f⟩:=Akn b (by simpa using hl.2);have hc:=N2 a hl.1.1;have g:=Zl1 hl.1.2;refine⟨?_,?_,?_⟩
  ·simp;exact Hf (hc.reps.append i1.reps)
  ·simp only[Zw1,Zz1,List.all_append,Zb1];exact⟨hl.1.1,e⟩
  ·intro v hv;simp at hv;rcases hv with rfl|hv
   ·have:=hc.1;simpa[g]using this
   ·exact f v hv
theorem Reps.cut2:∀{A B:Yb1 D}{vs:Yb1 Value},Reps x (A++B) vs->∃us ws,vs=us++ws/\Reps x A us/\Reps x B ws
 |[],B,vs,h=>⟨[],vs,rfl,by simp[Reps],h⟩
 |d::A,B,vs,h=>by simp at h;obtain⟨u,us,rfl,b,c⟩:=h;obtain⟨a,ws,rfl,e,f⟩:=Reps.cut2 c;exact⟨u::a,ws,rfl,by simp only[Reps];exact⟨u,a,rfl,b,e⟩,f⟩
variable{c:Ck}
theorem Bkz(y:PxOk cx px){n k:Nat}(b:px.tt t = .arr n c){l:Yb1 D}(hn:k+l.length=n)(hl:(l.all λd=>lfs d&&Nat.beq (cells d).length (csz c))=true)(hr:Reps x l vs):∃cs:Array Value,cx.P.built t ((List.range' k vs.length).zip vs)=some cs/\Rep x (.agg ((List.replicate k (enc c (zer c))).flatten++(l.map cells).flatten)) (.agg cs):=by
 obtain⟨hu,o,_,_⟩:=Rx (y.tt t) b;obtain⟨zs,p,q⟩:=Us (y.tt t) (by rw[b];simp) (z:=.agg ((List.replicate n (enc c (zer c))).flatten)) (by rw[b];rfl);obtain⟨i,zv,hi,hz,r⟩:=L8 p;obtain⟨ie,s,g⟩:=Au4 o;obtain⟨h1,h2,h3⟩:=Akn (c:=c) hr hl;obtain⟨h,f⟩:=T6 (x:=x) q;have e:(cells (.agg ((List.replicate n (enc c (zer c))).flatten)))=(List.replicate k (enc c (zer c))).flatten++(List.replicate l.length (enc c (zer c))).flatten:=by simp[cells];rw[<-List.flatten_append,List.replicate_append_replicate,hn]
 rw[e]at h f;obtain⟨pre,post,rfl,j,u⟩:=h.cut2;have m:pre.length=k*csz c:=by rw[j.len];simp[ B8]
 have w:post.length=vs.length*csz c:=by rw[u.len,hr.len];simp[ B8]
 have a:=Sx.fill_all (csz c) vs k pre post h3 m (by omega);refine⟨(pre++vs.flatMap λv=>v.cells.toList).toArray,?_,?_⟩
 ·unfold Program.built;simp[hi,hu,hz,s,r,g];have hd:post.drop (vs.length*csz c)=[]:=Zk1 (by omega);rw[hd,List.append_nil]at a;simpa using a
 ·simp only[Rep];simp only[List.all_append,Zb1]at f ⊢;exact⟨⟨f.1,h2⟩,_,rfl,j.append h1.reps⟩
theorem Bf1{ps:Yb1 (Nat×Operand)}{a:Act}{k:Nat}(b:ps.map (·.1)=List.range' k vs.length)(c:(ps.map (·.2)).map a.eval=vs):(ps.map λp=>match p with|(i,x)=>(i,a.eval x))=(List.range' k vs.length).zip vs:=by grind
variable{K:D->Ya1 R}{r:R}{st:St}
set_option maxHeartbeats 1000000 in
theorem Afh(hp:PxOk cx px){o:Oper}(bf:∀b xs ts,o.op = .call ⟨.builtin b,xs,ts⟩->b = .len->ts = #[ts.toList.headD 0])(h:W5 px o st K=some r):∃d,K d=some r/\Be2 cx px o (get st.env) (blk st.bl) d:=by
 unfold W5 at h;split at h
 ·
  rename_i x ho;split at h
  ·rename_i d hd;refine⟨d,h,Bj λs m a as_ w hx _ hr=>?_⟩;rw[Ay,<-hx _ x (by simp[ho,Op.operands])]at hd;obtain⟨v,h1,_,h3⟩:=hr.env.ev hd;exact⟨v,by rw[ho];exact Sx.p_move h1,h3⟩
  ·cases h
 ·
  rename_i x ho;split at h
  ·rename_i d hd;refine⟨d,h,Bj λs m a as_ w hx _ hr=>?_⟩;rw[Ay,<-hx _ x (by simp[ho,Op.operands])]at hd;obtain⟨v,h1,_,h3⟩:=hr.env.ev hd;exact⟨v,by rw[ho];exact Sx.p_assign h1,h3⟩
  ·cases h
 ·
  rename_i c x y ho;split at h
  ·rename_i q u v hc hu hv;refine⟨cond q u v,by cases q<;>exact h,Bj λs m a as_ w hx _ hr=>?_⟩;rw[Ay,<-hx _ c (by simp[ho,Op.operands])]at hc;rw[Ay,<-hx _ x (by simp[ho,Op.operands])]at hu;rw[Ay,<-hx _ y (by simp[ho,Op.operands])]at hv;obtain⟨v1,h1,_,h3⟩:=hr.env.ev hc;obtain⟨v2,h4,_,h6⟩:=hr.env.ev hu;obtain⟨v3,h7,_,h9⟩:=hr.env.ev hv;obtain rfl:=Rep.bool h3;cases q with|true=>exact⟨v2,by rw[ho];exact Sx.p_pick_t h1 h4,h6⟩|false=>exact⟨v3,by rw[ho];exact Sx.p_pick_f h1 h7,h9⟩
  ·cases h
 ·
  rename_i t ps ho;have an:∀q,q∈ps.toList.map (·.2)->q∈o.op.operands:=λq hq=>by rw[ho];simpa[Op.operands]using hq
  split at h
  ·rename_i c l z a3;split at h
   ·rename_i l' hl;split at h
    ·rename_i ds ab;refine⟨_,h,λs m a as_ w hx _ hr=>?_⟩;obtain⟨vs,h1,h2,h3⟩:=A1y hr.env hl (λu q hq=>by rw[Ay];exact hx u q (an q hq));obtain⟨cs,h4,h5⟩:=Bop hp a3 ab h2 h3;refine⟨.agg cs,?_,h5⟩;have ao:(ps.map λp=>match p with|(i,x)=>(i,a.eval x))=vs.toArray:=by apply Array.ext';simpa using h1
     simp[execOp,ho,Sem.run_bind,ao,run_build w t vs.toArray cs (by simpa using h4),Result.andThen_ok,Sem.run_pure]
    ·cases h
   ·cases h
  ·rename_i n c a3;split at h
   ·rename_i l hl;split at h
    ·rename_i hc;simp only[Zb1]at hc;refine⟨_,h,λs m a as_ w hx _ hr=>?_⟩;obtain⟨vs,h0,h1,h2,h3⟩:=Ad0 hr.env hl (λu q hq=>by rw[Ay];exact hx u q (an q hq));obtain⟨cs,h4,h5⟩:=Bkz hp a3 (Zl1 hc.1) hc.2 h3;refine⟨.agg cs,?_,h5⟩;have ao:(ps.map λp=>match p with|(i,x)=>(i,a.eval x))=((List.range' (Bo1 ps.toList) vs.length).zip vs).toArray:=by apply Array.ext';rw[Array.toList_map];exact Bf1 (by rw[h0,h3.len]) h2
     simp[execOp,ho,Sem.run_bind,ao,run_build w t ((List.range' (Bo1 ps.toList) vs.length).zip vs).toArray cs h4,Result.andThen_ok,Sem.run_pure]
    ·cases h
   ·cases h
  ·cases h
 ·
  rename_i t x ho;split at h
  ·rename_i g a5;split at h
   ·rename_i l a3 ac;refine⟨_,h,λs m a as_ w hx _ hr=>?_⟩;rw[Ay,<-hx _ x (by simp[ho,Op.operands])]at a5;obtain⟨v,_,h2,h3⟩:=hr.env.ev a5;simp[Rep]at h3;subst h3;obtain⟨r,es,az,h4,h5⟩:=hr.glb.2.1 g l (by rw[<-hp.gl];exact ac);refine⟨.map (some r),?_,by simp only[Rep];exact⟨r,es,az,rfl,λw' hw=>(h4 w' hw).2,h5⟩⟩;simp[execOp,ho,h2,Instr.loadAt,Instr.sureAddr,Sem.run_bind,Sem.run_pure,Result.andThen_ok,Aj1 (hp.tt t) (by rw[a3];simp) (by rw[a3];rfl) (h4 w (Chg.refl _ _)).1]
   ·cases h
  ·rename_i b c i a5;split at h
   ·rename_i c' xs b0;split at h
    ·rename_i hc;simp only[Zb1,beq_iff_eq,Zg1]at hc;obtain⟨⟨⟨h1,h2⟩,rfl⟩,h4⟩:=hc;obtain⟨bg,hk⟩:=A2 h;refine⟨_,hk,λs m a as_ w hx hb hr=>?_⟩;rw[Ay]at a5;have ap:=Bu7 (b:=b) ho a5 rfl;rw[<-hx _ x (by simp[ho,Op.operands])]at a5;obtain⟨v,_,h5,h6⟩:=hr.env.ev a5;simp[Rep]at h6;obtain⟨bh,rfl,_⟩:=h6;have bi:=hb (by rw[ho];rfl) b _ ap b0 bh;obtain⟨_,_,vs,ty,hh,aa,a6⟩:=hr.blks b _ bi;obtain⟨u,h7,h8⟩:=B2g (x:=vx cx m s w) (w:=w) (hp.tt t) (E9 h4).1 (Zl1 h1) h2 hh aa a6 (Mn bg);refine⟨u,?_,h8⟩;simp[execOp,ho,h5,vx,Instr.loadAt,Instr.sureAddr,Sem.run_bind,Sem.run_pure,Result.andThen_ok,h7]
    ·cases h
   ·cases h
  ·rename_i p c5 bz a5;split at h
   ·rename_i d hk hd;refine⟨d,h,λs m a as_ w hx hb hr=>?_⟩;rw[Ay]at a5;have ap:∀b,Auv p=some b->rdO o (get st.env) b:=λb hb=>Bu7 ho a5 hb;rw[<-hx _ x (by simp[ho,Op.operands])]at a5;obtain⟨v,h1,h2,h3⟩:=hr.env.ev a5;rw[Bc6]at hd;have hd:=Bml (λb k bj=>hb (by rw[ho];rfl) b k (ap b bj)) hd h3;obtain⟨u,h4,h5⟩:=Awn hp hr hk hd h3;refine⟨u,?_,h5⟩;simp[execOp,ho,h2,Sem.run_bind,h4,Result.andThen_ok,Sem.run_pure]
   ·cases h
  ·cases h
 ·
  rename_i x ho;have run:∀{d:D}{v:Value}(s:FS) (m:Mp) (a:Act) (w:World),a.eval x=v->Rep (vx cx m s w) d v->((∃p,v = .pointer (some p))\/∃f cs,v = .func (.func f) #[] cs)->(execOp a.eval o).run cx.P w = .ok (.value v) w:=by
   intro d v s m a w hv _ hh;rcases hh with ⟨p,rfl⟩|⟨f,cs,rfl⟩
   ·simp[execOp,ho,hv,Sem.run_pure]
   ·simp[execOp,ho,hv,Sem.run_pure]
  split at h
  ·rename_i b o' he;refine⟨_,h,λs m a as_ w hx _ hr=>?_⟩;rw[Ay,<-hx _ x (by simp[ho,Op.operands])]at he;obtain⟨v,_,h2,h3⟩:=hr.env.ev he;exact⟨v,run s m a w h2 h3 (.inl (by simp[Rep]at h3;exact⟨_,h3.2⟩)),h3⟩
  ·rename_i c y o' he;refine⟨_,h,λs m a as_ w hx _ hr=>?_⟩;rw[Ay,<-hx _ x (by simp[ho,Op.operands])]at he;obtain⟨v,_,h2,h3⟩:=hr.env.ev he;exact⟨v,run s m a w h2 h3 (.inl (by simp[Rep]at h3;obtain⟨b,o2,h4,_⟩:=h3;exact⟨_,h4⟩)),h3⟩
  ·rename_i g he;refine⟨_,h,λs m a as_ w hx _ hr=>?_⟩;rw[Ay,<-hx _ x (by simp[ho,Op.operands])]at he;obtain⟨v,_,h2,h3⟩:=hr.env.ev he;exact⟨v,run s m a w h2 h3 (.inl (by simp[Rep]at h3;exact⟨_,h3⟩)),h3⟩
  ·rename_i b c n i he;refine⟨_,h,λs m a as_ w hx _ hr=>?_⟩;rw[Ay,<-hx _ x (by simp[ho,Op.operands])]at he;obtain⟨v,_,h2,h3⟩:=hr.env.ev he;exact⟨v,run s m a w h2 h3 (.inl (by simp[Rep]at h3;exact⟨_,h3.2.1⟩)),h3⟩
  ·rename_i b c i he;refine⟨_,h,λs m a as_ w hx _ hr=>?_⟩;rw[Ay,<-hx _ x (by simp[ho,Op.operands])]at he;obtain⟨v,_,h2,h3⟩:=hr.env.ev he;exact⟨v,run s m a w h2 h3 (.inl (by simp[Rep]at h3;exact⟨_,h3.2.1⟩)),h3⟩
  ·rename_i f cs he;refine⟨_,h,λs m a as_ w hx _ hr=>?_⟩;rw[Ay,<-hx _ x (by simp[ho,Op.operands])]at he;obtain⟨v,_,h2,h3⟩:=hr.env.ev he;exact⟨v,run s m a w h2 h3 (.inr (by simp[Rep]at h3;obtain⟨vs,h4,_⟩:=h3;exact⟨_,_,h4⟩)),h3⟩
  ·cases h
 ·
  rename_i op t x y t' ho;split at h
  ·rename_i p q a2 b1;split at h
   ·rename_i c d hb;obtain⟨hc,hk⟩:=A2 h;refine⟨d,hk,Bj λs m a as_ w hx _ hr=>?_⟩;rw[Ay,<-hx _ x (by simp[ho,Op.operands])]at a2;rw[Ay,<-hx _ y (by simp[ho,Op.operands])]at b1;obtain⟨v1,h1,_,h3⟩:=hr.env.ev a2;obtain⟨v2,h4,_,h6⟩:=hr.env.ev b1;rw[ho];exact Bz1 (hp.tt t) hb hc h1 h4 h3 h6
   ·cases h
  ·cases h
 ·
  rename_i op t x ho;split at h
  ·rename_i p a2;split at h
   ·rename_i d hd;refine⟨d,h,Bj λs m a as_ w hx _ hr=>?_⟩;rw[Ay,<-hx _ x (by simp[ho,Op.operands])]at a2;obtain⟨v1,h1,_,h3⟩:=hr.env.ev a2;rw[ho];exact B3k hd h1 h3
   ·cases h
  ·cases h
 ·
  rename_i q t x ho;split at h
  ·rename_i k n k' a2 a3;split at h
   ·rename_i hk;refine⟨_,h,Bj λs m a as_ w hx _ hr=>?_⟩;rw[Ay,<-hx _ x (by simp[ho,Op.operands])]at a2;obtain⟨v1,h1,_,h3⟩:=hr.env.ev a2;obtain rfl:=Rep.int h3;rw[ho];exact⟨_,Sx.p_conv k' (D5 (hp.tt q) (E9 hk).1).1 (Aps (hp.tt t) a3) h1,Dl (Aa6 _ _)⟩
   ·cases h
  ·rename_i l a2 a3;split at h
   ·rename_i hk;refine⟨_,h,Bj λs m a as_ w hx _ hr=>?_⟩;rw[Ay,<-hx _ x (by simp[ho,Op.operands])]at a2;obtain⟨v1,h1,_,h3⟩:=hr.env.ev a2;obtain rfl:=Rep.str h3;rw[ho];exact⟨_,Bh7 (D5 (hp.tt q) (E9 hk).1).1 (Hk (hp.tt t) a3) h1,Lu h3.strLen⟩
   ·cases h
  ·rename_i xs tk a2 a3;split at h
   ·rename_i hk;refine⟨_,h,λs m a as_ w hx _ hr=>?_⟩;rw[Ay,<-hx _ x (by simp[ho,Op.operands])]at a2;obtain⟨v1,h1,_,h3⟩:=hr.env.ev a2;exact⟨_,A3i (vx:=vx cx m s w) (hp.tt q) (hp.tt t) (F7 hk) a3 h3 _ ⟨a.tmps,[]⟩ o (Ax7 (a:=⟨a.tmps,[]⟩) rfl) h1 ho,Lu (by simp[Rep]at h3;exact h3.1.here.len)⟩
   ·cases h
  ·cases h
 ·
  rename_i t x lo hi ho;split at h
  ·rename_i d i j hd ag ah;have ai:x∈o.op.operands:=by simp[ho,Op.operands]
   have aj:∀y,lo=some y->y∈o.op.operands:=λy hy=>by simp[ho,Op.operands,hy]
   have ak:∀y,hi=some y->y∈o.op.operands:=λy hy=>by simp[ho,Op.operands,hy]
   unfold Bqw at h;split at h
   ·rename_i l;split at h
    ·rename_i hs;obtain⟨d',hk,a7⟩:=Bas h;refine⟨d',hk,Bj λs m a as_ w hx _ hr=>?_⟩;rw[Ay,<-hx _ x ai]at hd;obtain⟨v1,h1,_,h3⟩:=hr.env.ev hd;obtain rfl:=Rep.str h3;rw[ho];exact a7 (Hk (hp.tt t) (Gx hs)) h1 h3.strLen (Lx hr.env ag λu y hy=>by rw[Ay];exact hx u y (aj y hy)) (Lx hr.env ah λu y hy=>by rw[Ay];exact hx u y (ak y hy))
    ·cases h
   ·rename_i c l tk;split at h
    ·rename_i hs;obtain⟨d',hk,a7⟩:=Ba9 h;refine⟨d',hk,Bj λs m a as_ w hx _ hr=>?_⟩;rw[Ay,<-hx _ x ai]at hd;obtain⟨v1,h1,_,h3⟩:=hr.env.ev hd;rw[ho];exact a7 (hp.tt t) (F7 hs) h3 h1 (Lx hr.env ag λu y hy=>by rw[Ay];exact hx u y (aj y hy)) (Lx hr.env ah λu y hy=>by rw[Ay];exact hx u y (ak y hy))
    ·cases h
   ·rename_i b c s0 n;split at h
    ·rename_i hs;obtain⟨d',hk,a7⟩:=Bbx h;refine⟨d',hk,Bj λs m a as_ w hx _ hr=>?_⟩;rw[Ay,<-hx _ x ai]at hd;obtain⟨v1,h1,_,h3⟩:=hr.env.ev hd;rw[ho];exact a7 (hp.tt t) (F7 hs) h3 h1 (Lx hr.env ag λu y hy=>by rw[Ay];exact hx u y (aj y hy)) (Lx hr.env ah λu y hy=>by rw[Ay];exact hx u y (ak y hy))
    ·cases h
   ·rename_i g;split at h
    ·rename_i c xs n c' ac a3;split at h
     ·rename_i hc;simp only[Zb1,Zg1]at hc;obtain⟨⟨a8,rfl⟩,b2⟩:=hc;have a8:=Zl1 a8;have b2:n<=1048576:=Nat.le_of_ble_eq_true b2;refine⟨_,h,Bj λs m a as_ w hx _ hr=>?_⟩;rw[Ay,<-hx _ x ai]at hd;obtain⟨v1,h1,_,h3⟩:=hr.env.ev hd;simp[Rep]at h3;subst h3;obtain⟨hu,a9,_,_⟩:=Rx (hp.tt t) a3;have bk:lo=none:=by
       rcases Lx hr.env ag (λu y hy=>by rw[Ay];exact hx u y (aj y hy))with ⟨h,_⟩|⟨_,_,_,_,h,_⟩
       ·exact h
       ·cases h
      have bn:hi=none:=by
       rcases Lx hr.env ah (λu y hy=>by rw[Ay];exact hx u y (ak y hy))with ⟨h,_⟩|⟨_,_,_,_,h,_⟩
       ·exact h
       ·cases h
      subst bk;subst bn;rw[ho];refine⟨_,Sx.p_slicex h1 (u:=.slice (some ⟨g,0,none⟩) n n) (λw=>?_),?_⟩
      ·simp[Instr.sliceAt,Sem.run_bind,run_underlying hu,Result.andThen_ok,Instr.sureAddr,Sem.run_pure,Bhi,Sx.run_sizeOf a9,Nat.zero_mul,Nat.sub_zero,Sx.add_mk,Nat.zero_add,ite_self]
      ·simp[Rep];refine⟨Kt a8.symm (.inr ⟨g,0,rfl,⟨by omega,by simp[maxLen];omega⟩,λi y hy w' hw=>?_⟩),trivial⟩;rw[Nat.zero_add];exact hr.glb.1 g c xs (by rw[<-hp.gl];exact ac) i y hy w' hw
     ·cases h
    ·cases h
   ·cases h
  ·cases h
 ·
  rename_i t x y z ho;split at h
  ·rename_i c l tk kj j kk k b3 b5 b6;split at h
   ·rename_i hs;simp only[Zb1,Zg1]at hs;obtain⟨hs,rfl⟩:=hs;obtain⟨hb,hk⟩:=A2 h;have hb:=Iv hb;refine⟨_,hk,Bj λs m a as_ w hx _ hr=>?_⟩;rw[Ay,<-hx _ x (by simp[ho,Op.operands])]at b3;rw[Ay,<-hx _ y (by simp[ho,Op.operands])]at b5;rw[Ay,<-hx _ z (by simp[ho,Op.operands])]at b6;obtain⟨v1,h1,_,h3⟩:=hr.env.ev b3;obtain⟨v2,h4,_,h5⟩:=hr.env.ev b5;obtain⟨v3,h6,_,h7⟩:=hr.env.ev b6;obtain rfl:=Rep.int h5;obtain rfl:=Rep.int h7;rw[ho];exact A86 (hp.tt t) (F7 hs) h3 h1 h4 h6 ⟨by omega,by omega⟩
   ·cases h
  ·cases h
 ·
  rename_i q x f ho;split at h
  ·rename_i b o' fo u a2 hf;refine⟨_,h,Bj λs m a as_ w hx _ hr=>?_⟩;rw[Ay,<-hx _ x (by simp[ho,Op.operands])]at a2;obtain⟨v1,h1,_,h3⟩:=hr.env.ev a2;simp[Rep]at h3;obtain⟨ar,rfl⟩:=h3;obtain⟨_,_,_,_,_,_,_,_,_,_,au⟩:=Ml hp hf;rw[ho];refine⟨_,Sx.p_fa (by simpa using au) h1,?_⟩;simp only[Rep];exact⟨ar,trivial⟩
  ·rename_i c y o' fo u a2 hf;refine⟨_,h,Bj λs m a as_ w hx _ hr=>?_⟩;rw[Ay,<-hx _ x (by simp[ho,Op.operands])]at a2;obtain⟨v1,h1,_,h3⟩:=hr.env.ev a2;simp[Rep]at h3;obtain⟨b,o2,rfl,bo⟩:=h3;obtain⟨_,_,_,_,_,_,_,_,_,_,au⟩:=Ml hp hf;rw[ho];refine⟨_,Sx.p_fa (by simpa using au) h1,?_⟩;simp only[Rep];exact⟨b,o2,by rw[Nat.add_assoc],bo⟩
  ·cases h
 ·
  rename_i q x f ho;split at h
  ·rename_i d fo u a2 hf;split at h
   ·rename_i v hc av;simp[Zb1]at hc;refine⟨v,h,λs m a as_ w hx _ hr=>?_⟩;rw[Ay,<-hx _ x (by simp[ho,Op.operands])]at a2;obtain⟨v1,_,h2,h3⟩:=hr.env.ev a2;obtain⟨_,_,_,fds,fd,_,hu,bp,bq,b7,_⟩:=Ml hp hf;have aw:=N2 h3 hc.1.2;have b9:∃vs:Yb1 Value,v1 = .agg vs.toArray:=by
     cases d<;>simp at hc<;>simp[Rep]at h3
     ·obtain⟨_,vs,rfl,_⟩:=h3;exact⟨vs,rfl⟩
     ·obtain⟨_,vs,rfl,_⟩:=h3;exact⟨vs,rfl⟩
    obtain⟨vs,rfl⟩:=b9;subst bq;have aw:Ef (vx cx m s w) (cells d) vs:=by simpa[Value.cells]using aw
    obtain⟨u',h4,h5⟩:=Bq1 (w:=w) (hp.tt fd.type) (E9 hc.1.1).1 av aw hc.1.2;refine⟨u',?_,h5⟩;subst b7;simp[execOp,ho,Instr.field,h2,Sem.run_bind,run_underlying hu,bp,asAgg,Sem.run_pure,Result.andThen_ok,h4]
   ·cases h
  ·cases h
 ·
  rename_i t x y ho;split at h
  ·rename_i c xs tk k i a2 a4;split at h
   ·rename_i hs;obtain⟨hc,hk⟩:=A2 h;refine⟨_,hk,Bj λs m a as_ w hx _ hr=>?_⟩;rw[Ay,<-hx _ x (by simp[ho,Op.operands])]at a2;rw[Ay,<-hx _ y (by simp[ho,Op.operands])]at a4;obtain⟨v1,h1,_,h3⟩:=hr.env.ev a2;obtain⟨v2,h4,_,h6⟩:=hr.env.ev a4;obtain rfl:=Rep.int h6;rw[ho];exact B2u (hp.tt t) (F7 hs) h3 h1 h4 hc
   ·cases h
  ·rename_i g k i a2 a4;split at h
   ·rename_i c xs n c' ac a3;split at h
    ·rename_i hc;simp only[Zb1,Zg1]at hc;obtain⟨a8,rfl⟩:=hc;have a8:=Zl1 a8;obtain⟨hb,hk⟩:=A2 h;have hb:=Mn hb;refine⟨_,hk,λs m a as_ w hx _ hr=>?_⟩;rw[Ay,<-hx _ x (by simp[ho,Op.operands])]at a2;rw[Ay,<-hx _ y (by simp[ho,Op.operands])]at a4;obtain⟨v1,_,h2,h3⟩:=hr.env.ev a2;obtain⟨v2,_,h5,h6⟩:=hr.env.ev a4;obtain rfl:=Rep.int h6;simp[Rep]at h3;subst h3;obtain⟨hu,a9,_,_⟩:=Rx (hp.tt t) a3;refine⟨.pointer (some ⟨g,0+i.toNat*csz c,none⟩),?_,?_⟩
     ·simp[execOp,ho,h2,h5,Sem.run_bind,An9 hu a9 hb,Result.andThen_ok,Sem.run_pure]
     ·simp[Rep];refine⟨g,i.toNat*csz c,by simp,λw' hw=>?_⟩;exact hr.glb.1 g c xs (by rw[<-hp.gl];exact ac) _ _ (Aag (by rw[a8];exact hb)) w' hw
    ·cases h
   ·cases h
  ·rename_i b k i a2 a4;split at h
   ·rename_i c n' xs n c' b0 a3;split at h
    ·rename_i hc;simp only[Zb1,Zg1]at hc;obtain⟨rfl,a8⟩:=hc;have a8:=Zl1 a8;subst a8;obtain⟨hb,hk⟩:=A2 h;have hb:=Mn hb;refine⟨_,hk,λs m a as_ w hx _ hr=>?_⟩;rw[Ay,<-hx _ x (by simp[ho,Op.operands])]at a2;rw[Ay,<-hx _ y (by simp[ho,Op.operands])]at a4;obtain⟨v1,_,h2,h3⟩:=hr.env.ev a2;obtain⟨v2,_,h5,h6⟩:=hr.env.ev a4;obtain rfl:=Rep.int h6;simp[Rep]at h3;obtain⟨ar,rfl⟩:=h3;obtain⟨hu,a9,_,_⟩:=Rx (hp.tt t) a3;refine⟨.pointer (some ⟨m.bl b,0+i.toNat*csz c,none⟩),?_,?_⟩
     ·simp[execOp,ho,h2,h5,Sem.run_bind,vx,An9 hu a9 hb,Result.andThen_ok,Sem.run_pure]
     ·simp[Rep];exact⟨ar,by simp[vx],hb⟩
    ·cases h
   ·cases h
  ·rename_i b c s0 n k i a2 a4;split at h
   ·rename_i hs;obtain⟨hc,hk⟩:=A2 h;have hc:=Btc hc;refine⟨_,hk,Bj λs m a as_ w hx _ hr=>?_⟩;rw[Ay,<-hx _ x (by simp[ho,Op.operands])]at a2;rw[Ay,<-hx _ y (by simp[ho,Op.operands])]at a4;obtain⟨v1,h1,_,h3⟩:=hr.env.ev a2;obtain⟨v2,h4,_,h6⟩:=hr.env.ev a4;obtain rfl:=Rep.int h6;simp[Rep]at h3;obtain⟨g1,g2,g3,g4,ad,cap,rfl,g5,g6,g7⟩:=h3;obtain rfl:=g5.resolve_left (by omega);obtain⟨by_,hT,_,_⟩:=C8 (hp.tt t) (F7 hs);obtain⟨hu,i0,z,bs,hz,a9,_⟩:=hT;have ax:(Sx.elSz cx.P t == some (csz c))=true:=by simp[Sx.elSz,hu,Sx.tySz,bs,a9]
    rw[ho];refine⟨_,Sx.p_ia ax h1 h4 (by omega),?_⟩;simp[Rep];exact⟨g1,by rw[<-Nat.add_mul,show s0.toNat+i.toNat=(s0+i).toNat by omega],by omega⟩
   ·cases h
  ·cases h
 ·
  rename_i t x y ho;split at h
  ·rename_i l k i a2 a4;split at h
   ·rename_i hs;obtain⟨hc,hk⟩:=A2 h;refine⟨_,hk,Bj λs m a as_ w hx _ hr=>?_⟩;rw[Ay,<-hx _ x (by simp[ho,Op.operands])]at a2;rw[Ay,<-hx _ y (by simp[ho,Op.operands])]at a4;obtain⟨v1,h1,_,h3⟩:=hr.env.ev a2;obtain⟨v2,h4,_,h6⟩:=hr.env.ev a4;obtain rfl:=Rep.int h6;obtain rfl:=Rep.str h3;rw[ho];exact⟨_,Sx.p_index (Hk (hp.tt t) (Gx hs)) h1 h4 (Mn hc),Dl (B26 _ _)⟩
   ·cases h
  ·rename_i ds k i a2 a4;split at h
   ·rename_i n c a3;split at h
    ·rename_i xs bu;obtain⟨hb,hk⟩:=A2 h;have hb:=Mn hb;refine⟨_,hk,λs m a as_ w hx _ hr=>?_⟩;rw[Ay,<-hx _ x (by simp[ho,Op.operands])]at a2;rw[Ay,<-hx _ y (by simp[ho,Op.operands])]at a4;obtain⟨v1,_,h2,h3⟩:=hr.env.ev a2;obtain⟨v2,_,h5,h6⟩:=hr.env.ev a4;obtain rfl:=Rep.int h6;simp[Rep]at h3;obtain⟨_,vs,rfl,a6⟩:=h3;obtain⟨hu,a9,ba,bb⟩:=Rx (hp.tt t) a3;obtain⟨aa,bc⟩:=A63 bu;have bd:=bc _ _ (Aag (by rw[aa];exact hb));obtain⟨g1,g2⟩:=Bc8 (R0 bd ((Hf a6).sub (i.toNat*csz c) (csz c)).reps);cases ha:agg? c with
     |true=>refine⟨_,?_,g1 ha⟩;have ay:(isAgg (cx.el c)).run cx.P w = .ok true w:=Sx.run_isAgg (by simp[ba,bb,ha]) w;simp only[execOp,ho,h2,h5,Instr.index,asIntOf,Sem.run_bind,Sem.run_pure,Result.andThen_ok,run_underlying hu,if_pos hb,Sx.run_sizeOf a9,Go.part,ay,if_true];congr 3;apply Array.ext';simp[List.take_drop]
     |false=>
      obtain⟨v,hv,ae⟩:=g2 ha;refine⟨v,?_,ae⟩;have ay:(isAgg (cx.el c)).run cx.P w = .ok false w:=Sx.run_isAgg (by simp[ba,bb,ha]) w;have h1:csz c=1:=by cases c<;>simp[agg?]at ha<;>rfl
      have bv:vs.toArray[i.toNat*csz c]? = some v:=by have:=congrArg (·[0]?) hv;rw[h1]at this ⊢;simpa[List.getElem?_take,List.getElem?_drop]using this
      simp only[execOp,ho,h2,h5,Instr.index,asIntOf,Sem.run_bind,Sem.run_pure,Result.andThen_ok,run_underlying hu,if_pos hb,Sx.run_sizeOf a9,Go.part,ay,Zj2,if_false,bv]
    ·cases h
   ·cases h
  ·cases h
 ·
  rename_i t x y ho;split at h
  ·rename_i l i a2 a4 a3;refine⟨_,h,λs m a as_ w hx _ hr=>?_⟩;rw[Ay,<-hx _ x (by simp[ho,Op.operands])]at a2;rw[Ay,<-hx _ y (by simp[ho,Op.operands])]at a4;obtain⟨v1,_,h2,h3⟩:=hr.env.ev a2;obtain⟨v2,_,h5,h6⟩:=hr.env.ev a4;obtain rfl:=Rep.int h6;simp only[Rep]at h3;obtain⟨r,es,az,rfl,h7,h8⟩:=h3;obtain⟨kt,e,inf,hu,am,hi,hz⟩:=Bs7 (hp.tt t) a3;have bw:(zeroValue e).run cx.P w = .ok (Sx.S []) w:=by simp[zeroValue,typeInfo,go_sem,hi,hz]
   have be:MapKept.IsKey (.int .i64) (.int .i64 i):=by simp[MapKept.IsKey]
   obtain⟨aa,hf⟩:=h8 i;refine⟨Sx.S (Wz l i),?_,Lu aa⟩;have a7:(Instr.lookup t (.map (some r)) (.int .i64 i) false).run cx.P w = .ok (Sx.S (Wz l i)) w:=by
    rcases hf with ⟨hf,hm⟩|⟨j,hf⟩
    ·rw[hm];simp[Instr.lookup,run_underlying hu,MapKept.run_getObj_map (h7 w (Chg.refl _ _)),MapKept.run_checkKey am be,MapKept.run_findKey am hf,bw,Result.andThen]
    ·simp[Instr.lookup,run_underlying hu,MapKept.run_getObj_map (h7 w (Chg.refl _ _)),MapKept.run_checkKey am be,MapKept.run_findKey am hf,Result.andThen,Sx.S]
   simp[execOp,ho,h2,h5,Sem.run_bind,a7,Result.andThen_ok,Sem.run_pure]
  ·cases h
 ·
  rename_i x i ho;split at h
  ·rename_i ds a2;split at h
   ·rename_i d hd;refine⟨d,h,Bj λs m a as_ w hx _ hr=>?_⟩;rw[Ay,<-hx _ x (by simp[ho,Op.operands])]at a2;obtain⟨v1,h1,_,h3⟩:=hr.env.ev a2;obtain⟨vs,rfl,a6⟩:=Rep.tup h3;obtain⟨v,hv,ae⟩:=a6.get hd;rw[ho];exact⟨v,Sx.p_extract h1 (by rw[Sx.nth_eq];exact hv),ae⟩
   ·cases h
  ·cases h
 ·
  rename_i f cs ho;split at h
  ·rename_i ds ab;refine⟨_,h,λs m a as_ w hx _ hr=>?_⟩;obtain⟨vs,_,h2,h3⟩:=Jx hr.env ab (λu q hq=>by rw[Ay];exact hx u q (by simp[ho,Op.operands,hq]));refine⟨.func (.func f) #[] vs.toArray,?_,by simp only[Rep];exact⟨vs,rfl,h3⟩⟩;have e2:(Array.mk cs).map a.eval=vs.toArray:=by apply Array.ext';simpa using h2
   have e3:(Array.mk ([]:Yb1 Operand)).map a.eval = #[]:=by apply Array.ext';simp
   simp[execOp,ho,Instr.makeFunc,Sem.run_bind,Sem.run_pure,Result.andThen_ok,e2,e3]
  ·cases h
 ·
  rename_i f c cs ho;split at h
  ·rename_i ds ab;refine⟨_,h,λs m a as_ w hx _ hr=>?_⟩;obtain⟨vs,_,h2,h3⟩:=Jx hr.env ab (λu q hq=>by rw[Ay];exact hx u q (by rw[ho];simpa[Op.operands]using hq));refine⟨.func (.func f) vs.toArray #[],?_,by simp only[Rep];exact⟨vs,rfl,h3⟩⟩;have e2:(Array.mk (c::cs)).map a.eval=vs.toArray:=by apply Array.ext';simpa using h2
   have e3:(Array.mk ([]:Yb1 Operand)).map a.eval = #[]:=by apply Array.ext';simp
   simp[execOp,ho,Instr.makeFunc,Sem.run_bind,Sem.run_pure,Result.andThen_ok,e2,e3]
  ·cases h
 ·
  rename_i b xs ts ho;split at h
  ·rename_i ds ab;split at h
   ·rename_i d hd;refine⟨d,h,Bj λs m a as_ w hx _ hr=>?_⟩;obtain⟨vs,h1,_,h3⟩:=Jx hr.env ab (λu q hq=>by rw[Ay];exact hx u q (by rw[ho];simpa[Op.operands,Call.operands]using hq));rw[ho];have:=Az3 (P:=cx.P) (vx:=vx cx m s w) (hp.tt _) hd h1 h3 (bf b xs ts ho);simpa using this
   ·cases h
  ·cases h
 ·cases h
end
end Go.Ax
namespace Go.Sx
open Go.RowKit
section
variable {P:Program}{ops:Array Oper}{I:World->Prop}
theorem getD_two{listed:Array Bool}{i:Nat}(hi:i<listed.size):listed.getD i false=listed.getD i true:=by simp[hi]
end
section
variable {cx:Cx}{k:Yb1 KI}{e:Env}{L:Loc}{F:World->Prop}{Q:Exit->Act->World->Prop}{ops:Array Oper}{rest:Yb1 Oper}
end
end Go.Sx
namespace Go.Ax
open Go.RowKit
abbrev FW(ro:Ya1 Nat):Fence:={ Fence.wide with round:=ro }
variable{P:Program}{o:Oper}{ro:Ya1 Nat}{w:World}{w':World}
theorem Kb{ρ:Operand->Value}{n:Next}(h:(execOp ρ o).run P w = .ok n w')(b:∀d,n ≠ .defer d):(o.semAt ro ρ).run P w = .ok n w':=by
 rw[Oper.semAt_eq _ _ _ λc hc=>?_]
 ·exact h
 ·simp only[execOp,hc,Sem.run_bind]at h;cases a:(resolve ρ c o.type).run P w with|ok d w1=>rw[a]at h;simp[Result.andThen]at h;exact b d h.1.symm|halt x w1=>rw[a]at h;simp[Result.andThen]at h
def Abw(P:Program)(a:Act)(w:World)(o:Oper)(K:Act->World->Prop):Prop:=(∃v w',(execOp a.eval o).run P w = .ok (.value v) w'/\K (a.put o.dst v) w')\/(∃w',(execOp a.eval o).run P w = .ok .skip w'/\K (a.put o.dst undef) w') \/ ∃f args w1,(execOp a.eval o).run P w = .ok (.enter f args) w1/\Calls P f args w1 λen w'=>∃v,en = .returned v/\K (a.put o.dst v) w'
variable{K:Act->World->Prop}{Q:Exit->Act->World->Prop}{a:Act}
theorem Abw.wp(h:Abw P a w o K):o.wpIn (FW ro) 0 P a w K Q:=by
 refine⟨λ_ _=>trivial,?_⟩;rcases h with ⟨v,w',h,b⟩|⟨w',h,b⟩|⟨f,args,w1,h,b⟩
 ·rw[Kb h (λ_=>nofun)];exact b
 ·rw[Kb h (λ_=>nofun)];exact b
 ·rw[Kb h (λ_=>nofun)];refine⟨nofun,callsIn_wide.2 (b.mono ?_)⟩;rintro en w' ⟨v,rfl,b⟩;exact b
variable{K':Act->World->Prop}
theorem Abw.mono(h:Abw P a w o K)(c:∀a w,K a w->K' a w):Abw P a w o K':=by
 rcases h with ⟨v,w',h,b⟩|⟨w',h,b⟩|⟨f,args,w1,h,b⟩
 ·exact .inl ⟨v,w',h,c _ _ b⟩
 ·exact .inr (.inl ⟨w',h,c _ _ b⟩)
 ·refine .inr (.inr ⟨f,args,w1,h,b.mono ?_⟩);rintro en w' ⟨v,e,d⟩;exact⟨v,e,c _ _ d⟩
def Aom(P:Program)(a:Act)(w:World)(o:Oper)(K:Act->World->Prop):Prop:=Abw P a w o K\/(∃d w',(execOp a.eval o).run P w = .ok (.defer d) w'/\K ({ a with defers:=d::a.defers }.put o.dst undef) w') \/ ∃l f tmps asg body w1,(execOp a.eval o).run P w = .ok (.round l f tmps asg body) w1/\RoundIn Fence.wide 0 P l f tmps asg body w1 λen w'=>∃v,en = .returned v/\K (a.put o.dst v) w'
def Ais(ro:Ya1 Nat)(o:Oper):Bool:=match ro,o.op with|some _,.defer _=>false|_,_=>true
theorem Aom.wp(hc:Ais ro o=true)(h:Aom P a w o K):o.wpIn (FW ro) 0 P a w K Q:=by
 rcases h with h|⟨d,w',h,b⟩|⟨l,f,tmps,asg,body,w1,h,b⟩
 ·exact h.wp
 ·refine⟨λ_ _=>trivial,?_⟩;have e:o.semAt ro a.eval=execOp a.eval o:=by cases ro with|none=>rfl|some l=>refine Oper.semAt_eq _ _ _ λc g=>?_;simp[Ais,g]at hc
  show Oper.uponIn (FW ro) 0 P o a K Q ((o.semAt ro a.eval).run P w);rw[e,h];exact b
 ·refine⟨λ_ _=>trivial,?_⟩;rw[Kb h (λ_=>nofun)];refine⟨nofun,RoundIn.mono b ?_⟩;rintro en w' ⟨v,rfl,b⟩;exact b
theorem Aom.mono(h:Aom P a w o K)(b:∀a w,K a w->K' a w):Aom P a w o K':=h.imp (λh=>h.mono b) λh=>h.imp (λ⟨d,w',c,g⟩=>⟨d,w',c,b _ _ g⟩) λ⟨l,f,tmps,asg,body,w1,c,g⟩=>⟨l,f,tmps,asg,body,w1,c,g.mono λ_ _ ⟨v,e,i⟩=>⟨v,e,b _ _ i⟩⟩
def Bl4(P:Program)(ops:Array Oper)(o:Oper)(a:Act)(w:World)(K:Act->World->Prop):Prop:=(Region.wanted o (yielded ops a.tmps)=true/\Abw P a w o K)\/(Region.wanted o (yielded ops a.tmps)=false/\K (a.put o.dst undef) w)
variable{i:Nat}
theorem Bl4.wpOp{ops:Array Oper}(hi:ops[i]? = some o)(h:Bl4 P ops o a w K):wpOpIn (FW ro) 0 P ops Q i K a w:=by
 unfold Go.wpOpIn;simp only[hi];rcases h with ⟨b,c⟩|⟨b,c⟩
 ·rw[if_pos b];exact c.wp
 ·rw[if_neg (by rw[b];simp)];exact⟨λ_ _=>trivial,c⟩
theorem Bl4.mono{ops:Array Oper}(h:Bl4 P ops o a w K)(b:∀a w,K a w->K' a w):Bl4 P ops o a w K':=h.imp (λh=>⟨h.1,h.2.mono b⟩) (λh=>⟨h.1,b _ _ h.2⟩)
def isW(o:Oper):Bool:=match o.op with|.store _ _ _|.alloc _|.box _ _|.makeSlice _ _ _=>true|.call ⟨.builtin .append,_,_⟩=>true|.call ⟨.builtin .copy,_,_⟩=>true|.call ⟨.value (.func f),_,_⟩=> !Ajr f|.call ⟨.value _,_,_⟩=>true|_=>false
def Dt(s t:FS):Prop:=s.bl=t.bl/\s.nb=t.nb/\s.al=t.al/\s.nt=t.nt
def A5(o:Oper)(t s:FS):FS:={ s with
 env:=match o.dst with|some k=>λj=>if j=k then t.env k else s.env j|none=>s.env
 bl:=if isW o then t.bl else s.bl
 nb:=if isW o then t.nb else s.nb
 al:=if isW o then t.al else s.al
 nt:=if isW o then t.nt else s.nt }
theorem FS.eq{x y:FS}(b:x.n=y.n)(c:x.env=y.env)(d:x.lb=y.lb)(e:x.lt=y.lt)(f:x.fr=y.fr)(g:x.bl=y.bl)(h:x.nb=y.nb)(i:x.al=y.al)(j:x.nt=y.nt)(a:x.df=y.df:=by rfl):x=y:=by cases x;cases y;simp only at b c d e f g h i j a;subst_vars;rfl
def F3(a c:FS)(b:Nat):Prop:=(∀k,a.bl b=some k->c.bl b=some k)/\∀k,c.bl b=some k->b<a.nb->a.bl b=some k
theorem F3.of_bl{a c:FS}(h:c.bl=a.bl)(b:Nat):F3 a c b:=⟨λk d=>by rw[h];exact d,λk d _=>by rw[<-h];exact d⟩
variable{s:FS}
theorem Bbz{p:Oper}{t u:FS}(hd:∀k,o.dst=some k->p.dst≠some k)(d:¬(isW o=true/\isW p=true)):A5 o t (A5 p u s)=A5 p u (A5 o t s):=by
 have c:(A5 o t (A5 p u s)).env=(A5 p u (A5 o t s)).env:=by
  funext j;simp[A5];cases b:o.dst with
  |none=>rfl
  |some k=>cases a:p.dst with|none=>rfl|some q=>grind
 cases b:isW o<;>cases a:isW p
 ·exact FS.eq rfl c rfl rfl rfl (by simp[A5,a]) (by simp[A5,a]) (by simp[A5,a]) (by simp[A5,a])
 ·exact FS.eq rfl c rfl rfl rfl (by simp[A5,b]) (by simp[A5,b]) (by simp[A5,b]) (by simp[A5,b])
 ·exact FS.eq rfl c rfl rfl rfl (by simp[A5,a]) (by simp[A5,a]) (by simp[A5,a]) (by simp[A5,a])
 ·grind
section
variable (ops:Array Oper) (s:Nat->FS)
def Fd(S:Nat->Bool):Nat->FS|0=>s 0|t+1=>match ops[t]? with|some o=>if S t then A5 o (s (t+1)) (Fd S t)else Fd S t|none=>Fd S t
def Kn:Prop:=∀i o,ops[i]? = some o->s (i+1)=A5 o (s (i+1)) (s i)
variable {ops s}
theorem At7(hc:Kn ops s)(a:ops[i]? = some o){k:Nat}(b:o.dst≠some k):(s (i+1)).env k=(s i).env k:=by have:=congrArg (λt=>t.env k) (hc i o a);simp[A5]at this;cases hd:o.dst with|none=>simpa[hd]using this|some d=>grind
theorem A0r(hc:Kn ops s)(b:ops[i]? = some o)(a:isW o=false):Dt (s (i+1)) (s i):=by
 have h:=hc i o b;refine⟨?_,?_,?_,?_⟩
 ·have:=congrArg FS.bl h;simpa[A5,a]using this
 ·have:=congrArg FS.nb h;simpa[A5,a]using this
 ·have:=congrArg FS.al h;simpa[A5,a]using this
 ·have:=congrArg FS.nt h;simpa[A5,a]using this
theorem Btn(hc:Kn ops s){S:Nat->Bool}{k i:Nat}:∀t,t<=ops.size->(∀j o,ops[j]? = some o->j<t->o.dst=some k->(S j=true↔j<i))->(Fd ops s S t).env k=(s (min t i)).env k
 |0,_,_=>by simp[Fd]
 |t+1,ht,h=>by
  have f:=Btn hc t (by omega) (λj o b l hd=>h j o b (by omega) hd);obtain⟨o,b⟩:∃o,ops[t]? = some o:=⟨_,Zk2 (by omega)⟩;simp[Fd,b];by_cases hd:o.dst=some k
  ·by_cases c:S t=true
   ·have e:=(h t o b (by omega) hd).1 c;rw[if_pos c,show min (t+1) i=t+1 by omega];simp[A5,hd]
   ·grind
  ·have a:(s (min (t+1) i)).env k=(s (min t i)).env k:=by
    by_cases e:t<i
    ·rw[show min (t+1) i=t+1 by omega,show min t i=t by omega];exact At7 hc b hd
    ·grind
   by_cases c:S t=true
   ·rw[if_pos c,a,<-f];simp[A5];cases g:o.dst with|none=>rfl|some d=>grind
   ·rw[if_neg c,a,f]
theorem Dt.trans{a b c:FS}(h:Dt a b)(k:Dt b c):Dt a c:=⟨h.1.trans k.1,h.2.1.trans k.2.1,h.2.2.1.trans k.2.2.1,h.2.2.2.trans k.2.2.2⟩
theorem Dt.symm{a b:FS}(h:Dt a b):Dt b a:=⟨h.1.symm,h.2.1.symm,h.2.2.1.symm,h.2.2.2.symm⟩
theorem B4z(hc:Kn ops s){S:Nat->Bool}{i:Nat}:∀t,t<=ops.size->(∀j o,ops[j]? = some o->j<t->isW o=true->(S j=true↔j<i))->Dt (Fd ops s S t) (s (min t i))
 |0,_,_=>by simp[Fd,Dt]
 |t+1,ht,h=>by
  have e:=B4z hc t (by omega) (λj o c k hd=>h j o c (by omega) hd);obtain⟨o,c⟩:∃o,ops[t]? = some o:=⟨_,Zk2 (by omega)⟩;simp[Fd,c];by_cases hd:isW o=true
  ·have f:=h t o c (by omega) hd;by_cases b:S t=true
   ·have d:=f.1 b;rw[if_pos b,show min (t+1) i=t+1 by omega];simp[A5,hd,Dt]
   ·have d:¬t<i:=λg=>b (f.2 g);rw[if_neg b,show min (t+1) i=min t i by omega];exact e
  ·have hd:isW o=false:=by simpa using hd
   have a:Dt (s (min t i)) (s (min (t+1) i)):=by
    by_cases d:t<i
    ·rw[show min (t+1) i=t+1 by omega,show min t i=t by omega];exact(A0r hc c hd).symm
    ·rw[show min (t+1) i=min t i by omega];exact⟨rfl,rfl,rfl,rfl⟩
   by_cases b:S t=true
   ·rw[if_pos b];refine Dt.trans ?_ (e.trans a);simp[A5,hd,Dt]
   ·rw[if_neg b];exact e.trans a
theorem B1n(hc:Kn ops s){S:Nat->Bool}(f:∀p q op d,ops[p]? = some op->ops[q]? = some d->p<q->isW op=true->isW d=true->S q=true->S p=true):∀t,t<=ops.size->∃p,p<=t/\Dt (Fd ops s S t) (s p)/\∀q o,ops[q]? = some o->isW o=true->(q<p->S q=true)/\(p<=q->q<t->S q=false)
 |0,_=>⟨0,Zn1 _,⟨rfl,rfl,rfl,rfl⟩,λq o _ _=>⟨λh=>absurd h (Zm1 _),λ_ h=>absurd h (Zm1 _)⟩⟩
 |t+1,ht=>by
  obtain⟨p,r,k,g⟩:=B1n hc f t (by omega);obtain⟨o,ho⟩:∃o,ops[t]? = some o:=⟨_,Zk2 (by omega)⟩;simp[Fd,ho];cases i:isW o with
  |true=>
   cases l:S t with
   |true=>
    refine⟨t+1,Zn1 _,by simp[A5,i,Dt],λq d a b=>⟨λn=>?_,λj m=>by omega⟩⟩;by_cases c:q=t
    ·subst c;exact l
    ·exact f q t d o a ho (by omega) b i l
   |false=>
    refine⟨p,by omega,by simpa using k,λq d a b=>⟨(g q d a b).1,λj m=>?_⟩⟩;by_cases c:q=t
    ·subst c;exact l
    ·exact(g q d a b).2 j (by omega)
  |false=>
   have e:Dt (if S t=true then A5 o (s (t+1)) (Fd ops s S t)else Fd ops s S t) (s p):=by
    split
    ·exact Dt.trans (by simp[A5,i,Dt]) k
    ·exact k
   refine⟨p,by omega,e,λq d a b=>⟨(g q d a b).1,λj m=>?_⟩⟩;by_cases c:q=t
   ·subst c;rw[ho]at a;simp at a;subst a;rw[i]at b;cases b
   ·exact(g q d a b).2 j (by omega)
theorem Bgs(hc:Kn ops s)(hm:∀i o,ops[i]? = some o->(s i).nb<=(s (i+1)).nb){p:Nat}:∀d,p+d<=ops.size->(s p).nb<=(s (p+d)).nb
 |0,_=>Zn1 _
 |d+1,h=>by obtain⟨o,ho⟩:∃o,ops[p+d]? = some o:=⟨_,Zk2 (by omega)⟩;exact Nat.le_trans (Bgs hc hm d (by omega)) (hm _ o ho)
variable{j:Nat}
theorem By3(hc:Kn ops s)(hm:∀i o,ops[i]? = some o->(s i).nb<=(s (i+1)).nb){S:Nat->Bool}(e:∀p q op l,ops[p]? = some op->ops[q]? = some l->p<q->isW op=true->isW l=true->S q=true->S p=true){N b:Nat}(t:N<=ops.size)(u:j<=N)
  (m:∀q o,ops[q]? = some o->isW o=true->((q<j/\S q=false)\/(j<=q/\q<N/\S q=true))->F3 (s q) (s (q+1)) b):∀k,(s j).bl b=some k->b<(Fd ops s S N).nb->(Fd ops s S N).bl b=some k:=by
 obtain⟨p,x,n,r⟩:=B1n hc e N t;rw[n.1,n.2.1];intro k c f;rcases Nat.le_total p j with v|w
 ·have down:∀d,p+d<=j->(s (p+d)).bl b=some k->(s p).bl b=some k:=by
   intro d;induction d with
   |zero=>intro _ h;exact h
   |succ d g=>intro hd h;obtain⟨o,ho⟩:∃o,ops[p+d]? = some o:=⟨_,Zk2 (by omega)⟩;refine g (by omega) ?_;cases a:isW o with|true=>exact(m (p+d) o ho a (.inl ⟨by omega,(r _ _ ho a).2 (by omega) (by omega)⟩)).2 k h (Zx1 f (Bgs hc hm d (by omega)))|false=>rw[<-(A0r hc ho a).1];exact h
  exact down (j-p) (by omega) (by rw[show p+(j-p)=j by omega];exact c)
 ·have up:∀d,j+d<=p->(s (j+d)).bl b=some k:=by
   intro d;induction d with
   |zero=>intro _;exact c
   |succ d g=>intro hd;obtain⟨o,ho⟩:∃o,ops[j+d]? = some o:=⟨_,Zk2 (by omega)⟩;have h:=g (by omega);cases a:isW o with|true=>exact(m (j+d) o ho a (.inr ⟨by omega,by omega,(r _ _ ho a).1 (by omega)⟩)).1 k h|false=>show(s (j+d+1)).bl b=some k;rw[(A0r hc ho a).1];exact h
  have:=up (p-j) (by omega);rwa[show j+(p-j)=p by omega]at this
theorem Ags(hc:Kn ops s){k:Nat}{hi lo:Nat}(h:Bng ops k lo hi=true):∀d,lo+d<=hi->hi<=ops.size->(s (lo+d)).env k=(s lo).env k
 |0,_,_=>rfl
 |d+1,h1,h2=>by obtain⟨o,ho⟩:∃o,ops[lo+d]? = some o:=⟨_,Zk2 (by omega)⟩;refine(At7 hc ho (λa=>?_)).trans (Ags hc h d (by omega) h2);have b:=Zg2.1 h (lo+d) (List.mem_range.2 (by omega));simp[ho,a]at b;omega
theorem Bv4{S:Nat->Bool}{i:Nat}{f:Oper}(hi:ops[i]? = some f)(g:S i=false)(b:∀j o,ops[j]? = some o->i<j->S j=true->(∀k,o.dst=some k->f.dst≠some k)/\¬(isW o=true/\isW f=true)):∀t,t<=ops.size->Fd ops s (λj=>if j=i then true else S j) t=if i<t then A5 f (s (i+1)) (Fd ops s S t)else Fd ops s S t
 |0,_=>by simp[Fd]
 |t+1,ht=>by
  obtain⟨o,ho⟩:∃o,ops[t]? = some o:=⟨_,Zk2 (by omega)⟩;simp only[Fd,ho,(Bv4 hi g b t (by omega))];by_cases e:t=i
  ·subst e;rw[hi]at ho;simp only[Za1]at ho;subst ho;simp[g]
  ·simp only[if_neg e];by_cases c:i<t
   ·have a:i<t+1:=by omega
    simp only[c,a];by_cases d:S t=true
    ·simp only[d];obtain⟨h,l⟩:=b t o ho c d;exact Bbz h l
    ·simp only[d,Zj2,if_false]
   ·have a:¬i<t+1:=by omega
    simp only[c,a,if_false]
theorem Aid(ops:Array Oper):∀n,Gl ops n<=n
 |0=>Zn1 _
 |n+1=>by have:=Aid ops n;simp[Gl];split<;>omega
theorem I6{ops:Array Oper}:∀(n j:Nat) (a:Oper),Gl ops n<=j->j<n->ops[j]? = some a->∀q,q<j->Gm ops 12 a q=true
 |0,_,_,_,h,_=>absurd h (Zm1 _)
 |n+1,j,a,h1,h2,ho=>by
  intro q b;simp[Gl]at h1;split at h1
  ·rename_i hb;by_cases c:j=n
   ·subst c;simp only[B1q,ho]at hb;exact Zg2.1 hb q (List.mem_range.2 b)
   ·exact I6 n j a h1 (by omega) ho q b
  ·omega
theorem D9{ops:Array Oper}{listed:Array Bool}(a:∀j o,ops[j]? = some o->listed.getD j true=true->∀e∈o.after,Region.binds .any e=true->listed.getD e.on true=true):∀(n:Nat) (o:Oper) (i:Nat),(∀e∈o.after,Region.binds .any e=true->listed.getD e.on true=true)->Gm ops n o i=true->listed.getD i true=true
 |0,_,_,_,h=>by simp[Gm]at h
 |n+1,o,i,ho,h=>by
  simp only[Gm]at h;obtain⟨e,f,c⟩:=Array.any_eq_true'.1 h;simp only[Zb1,Zd2]at c;have d:=ho e f c.1.1;rcases c.2 with b|b
  ·rw[<-Zl1 b];exact d
  ·split at b
   ·rename_i p g;exact D9 a n p i (a _ _ g d) b
   ·cases b
def Bdu(ops:Array Oper):Bool:=(List.range ops.size).all λj=>match ops[j]? with
 |none=>true
 |some a=>a.after.all (λe=> !Region.binds .any e||Nat.blt e.on j)&&(!Nat.blt j (G9 ops)||(List.range j).all λi=>match ops[i]? with
  |none=>true
  |some b=>Gm ops 12 a i||(b.apart ops a && !(isW b&&isW a)))
theorem G3(h:Bdu ops=true){a:Oper}(k:ops[j]? = some a):(∀e∈a.after,Region.binds .any e=true->e.on<j)/\(j<G9 ops->∀i b,i<j->ops[i]? = some b->Gm ops 12 a i=true\/(b.apart ops a=true/\¬(isW b=true/\isW a=true))):=by
 have d:j<ops.size:=(Zh2.1 k).1;simp[Bdu,List.mem_range]at h;have c:=h j d;rw[k]at c;simp only[Zb1,Zd2,Zg2,List.mem_range]at c;refine⟨λe l hb=>?_,λf i b g hi=>?_⟩
 ·have:=Array.all_eq_true_iff_forall_mem.1 c.1 e l;simpa[hb]using this
 ·have m:=c.2.resolve_left (λq=>by
   have:Nat.blt j (G9 ops)=true:=by rw[Nat.blt_eq];exact f
   rw[this]at q;cases q)
  have:=m i g;rw[hi]at this;simp[Zd2,Zb1]at this;refine this.imp_right λh=>⟨h.1,λe=>?_⟩;rcases h.2 with q|q
  ·rw[e.1]at q;cases q
  ·rw[e.2]at q;cases q
def OkW(o:Oper)(s0 s:FS):Prop:=(isW o=true->Dt s s0)/\(A4j o.op=true->Agr o s0.env s0.bl s)
def Bvt(cx:Cx)(ops:Array Oper)(o:Oper)(s0 b:FS):Prop:=∀(s:FS) (m:Mp) (a:Act) (as_:Yb1 Act) (w:World),(∀k,k∈o.looksAt ops->s.env k=s0.env k)->OkW o s0 s->s.n=s0.n->Rel cx m a as_ s w->Bl4 cx.P ops o a w λa' w'=>∃m',Rel cx m' a' as_ (A5 o b s) w'
theorem B4e(hc:Kn ops s)(S:Nat->Bool):∀t,t<=ops.size->(Fd ops s S t).n=(s 0).n
 |0,_=>rfl
 |t+1,ht=>by
  obtain⟨o,ho⟩:∃o,ops[t]? = some o:=⟨_,Zk2 (by omega)⟩;simp[Fd,ho];split
  ·exact B4e hc S t (by omega)
  ·exact B4e hc S t (by omega)
theorem Bev(hc:Kn ops s):∀t,t<=ops.size->(s t).n=(s 0).n
 |0,_=>rfl
 |t+1,ht=>by obtain⟨o,ho⟩:∃o,ops[t]? = some o:=⟨_,Zk2 (by omega)⟩;have:=congrArg FS.n (hc t o ho);rw[this];exact Bev hc t (by omega)
theorem Bvc(hc:Kn ops s):∀t,t<=ops.size->Fd ops s (λ_=>true) t=s t
 |0,_=>rfl
 |t+1,ht=>by obtain⟨o,ho⟩:∃o,ops[t]? = some o:=⟨_,Zk2 (by omega)⟩;simp[Fd,ho,if_true,Bvc hc t (by omega)];exact(hc t o ho).symm
theorem Acg{S T:Nat->Bool}:∀t,t<=ops.size->(∀j,j<t->S j=T j)->Fd ops s S t=Fd ops s T t
 |0,_,_=>rfl
 |t+1,ht,h=>by simp only[Fd,Acg t (by omega) (λj a=>h j (by omega)),h t (by omega)]
theorem Bbp(o:Oper)(t:FS):A5 o t t=t:=by
 refine FS.eq rfl ?_ rfl rfl rfl (by simp[A5]) (by simp[A5]) (by simp[A5]) (by simp[A5]);funext j;simp[A5];cases o.dst with
 |none=>rfl
 |some k=>
  simp only;split
  ·rename_i h;rw[h]
  ·rfl
theorem Bsh{n:Nat}{listed:Array Bool}(c:listed.size=n)(k:j<n)(d:listed.getD j true=false):((List.range n).filter λi=> !(listed.setIfInBounds j true).getD i true).length+1<=((List.range n).filter λi=> !listed.getD i true).length:=by
 have e:((List.range n).filter λi=> !(listed.setIfInBounds j true).getD i true)=((List.range n).filter λi=> !listed.getD i true).filter λi=> !Nat.beq i j:=by
  rw[List.filter_filter];apply List.filter_congr;intro i hi;simp at hi;by_cases a:i=j
  ·subst a;simp[c,hi]
  ·rw[getD_set_ne true (Ne.symm a),Gw a];simp
 rw[e];have b:j∈(List.range n).filter λi=> !listed.getD i true:=by simp only[List.mem_filter,List.mem_range,d];exact⟨k,rfl⟩
 have:∀(l:Yb1 Nat),j∈l->(l.filter λi=> !Nat.beq i j).length+1<=l.length:=by
  intro l;induction l with
  |nil=>intro h;cases h
  |cons x l f=>
   intro h;by_cases g:x=j
   ·subst g;simp[ Nat.beq_refl,Zt1,if_false];have:=List.length_filter_le (λi=> !Nat.beq i x) l;omega
   ·simp[List.mem_cons]at h;have:=f (h.resolve_left (Ne.symm g));simp[ Gw g,Zs1,if_true];omega
 exact this _ b
theorem A6c(he:∀j r,ops[j]? = some r->∀e∈r.after,Region.binds .any e=true->e.on<j) :
  ∀(fuel N:Nat) (listed:Array Bool) (a:Act) (w:World),N<=ops.size->(∀j r,N<=j->ops[j]? = some r->∀q,q<j->Gm ops 12 r q=true)->listed.size=ops.size->(∀i,i<ops.size->listed.getD i true=decide (i<N))->((List.range ops.size).filter λj=> !listed.getD j true).length<=fuel->wpListIn (FW ro) 0 P ops Q (ops.toList.drop N) a w->wpAnyIn (FW ro) 0 P .any ops Q fuel listed a w:=by
 intro fuel;have a3:∀(N:Nat) (listed:Array Bool),(∀i,i<ops.size->listed.getD i true=decide (i<N))->∀j o,ops[j]? = some o->listed.getD j true=true->∀e∈o.after,Region.binds .any e=true->listed.getD e.on true=true:=λN listed c j o d a4 e f hb=>by have l:=(Zh2.1 d).1;have g:=he j o d e f hb;rw[c j l,Zg1]at a4;rw[c e.on (by omega),Zg1];omega
 have m:∀(N:Nat) (listed:Array Bool),listed.size=ops.size->(∀j r,N<=j->ops[j]? = some r->∀q,q<j->Gm ops 12 r q=true)->(∀i,i<ops.size->listed.getD i true=decide (i<N))->∀j,j∈Region.ready .any ops listed->j=N:=λN listed b s c j l=>by
  obtain⟨h0,o,d,n⟩:=mem_ready.1 l;have t:=(Zh2.1 d).1;rw[c j t,decide_eq_false_iff_not]at h0;rcases Nat.lt_trichotomy N j with h|h|h
  ·have hp:=D9 (a3 N listed c) 12 o N (λe f hb=>by have g:=he j o d e f hb;rw[<-Sx.getD_two (by omega)];exact n e f hb) (s j o (by omega) d N h)
   rw[c N (by omega),Zg1]at hp;omega
  ·exact h.symm
  ·omega
 induction fuel with
 |zero=>
  intro N listed a w hN s b c u k;have n:∀i,i<ops.size->listed.getD i true=true:=λi hi=>by
   cases a5:listed.getD i true with
   |true=>rfl
   |false=>
    have v:i∈(List.range ops.size).filter λj=> !listed.getD j true:=by simp only[List.mem_filter,List.mem_range,a5];exact⟨hi,rfl⟩
    have:=List.length_pos_of_mem v;omega
  have a7:N=ops.size:=by
   rcases Nat.lt_or_ge N ops.size with h|h
   ·have x:=n N h;rw[c N h,Zg1]at x;omega
   ·omega
  refine⟨List.eq_nil_iff_forall_not_mem.2 λj l=>?_,?_⟩
  ·have:=m N listed b s c j l;obtain⟨_,o,d,_⟩:=mem_ready.1 l;have t:=(Zh2.1 d).1;omega
  ·rw[Zk1 (by simp;omega)]at k;exact k
 |succ fuel ih=>
  intro N listed a w hN s b c u k;rcases Nat.lt_or_ge N ops.size with g|a8
  ·obtain⟨o,d⟩:∃o,ops[N]? = some o:=⟨_,Zk2 g⟩;have y:listed.getD N true=false:=by rw[c N g];simp
   have z:N∈Region.ready .any ops listed:=mem_ready.2 ⟨y,o,d,λe f hb=>by have x:=he N o d e f hb;rw[Sx.getD_two (by omega),c e.on (by omega)];simpa using x⟩
   refine⟨λh=>(by rw[h]at z;cases z),λj l=>?_⟩;obtain rfl:=m N listed b s c j l;have hd:ops.toList.drop j=o::ops.toList.drop (j+1):=by
    have x:j<ops.toList.length:=by simpa using g
    rw[List.drop_eq_getElem_cons x];congr 1;have h2:ops[j]? = some ops.toList[j]:=by simp
    rw[d]at h2;exact(Option.some.inj h2).symm
   have p:∀a w,wpListIn (FW ro) 0 P ops Q (ops.toList.drop (j+1)) a w->wpAnyIn (FW ro) 0 P .any ops Q fuel (listed.setIfInBounds j true) a w:=λa w h=>by
    refine ih (j+1) _ a w (by omega) (λq oq hq a6=>s q oq (by omega) a6) (by simp[b]) (λi hi=>?_) ?_ h
    ·by_cases a2:i=j
     ·subst a2;simp[b,hi]
     ·rw[getD_set_ne true (Ne.symm a2),c i hi];exact Zy1.2 (by omega)
    ·have:=Bsh b g y;omega
   rw[hd]at k;unfold Go.wpOpIn;simp only[d];simp only[wpListIn]at k;split
   ·rename_i hw;rw[if_pos hw]at k;exact Oper.wpIn_mono p k
   ·rename_i hw;rw[if_neg hw]at k;exact⟨k.1,p _ _ k.2⟩
  ·refine⟨λ_=>?_,λj l=>?_⟩
   ·rw[Zk1 (by simp;omega)]at k;exact k
   ·have:=m N listed b s c j l;obtain⟨_,o,d,_⟩:=mem_ready.1 l;have t:=(Zh2.1 d).1;omega
variable{as_:Yb1 Act}
theorem A0g{cx:Cx}{N:Nat}(hN:N<=ops.size)(ah:N=G9 ops)(hd:Bdu ops=true)(ht:∀j l,N<=j->ops[j]? = some l->∀q,q<N->Gm ops 12 l q=true)(hc:Kn ops s)(ai:∀i o,i<N->ops[i]? = some o->Bvt cx ops o (s i) (s (i+1)))(hg:∀i o,ops[i]? = some o->(s i).nb<=(s (i+1)).nb)(a7:∀i j oi l,ops[i]? = some oi->ops[j]? = some l->i<N->j<N->i≠j->isW oi=true->A4j l.op=true->Bm9 ops i j=false->∀b,rdO l (s j).env b->F3 (s i) (s (i+1)) b)(hK:∀m a w,Rel cx m a as_ (s N) w->∀(fuel:Nat) (listed:Array Bool),listed.size=ops.size->(∀i,i<ops.size->listed.getD i true=decide (i<N))->((List.range ops.size).filter λj=> !listed.getD j true).length<=fuel->wpAnyIn (FW ro) 0 cx.P .any ops Q fuel listed a w) :
  ∀(fuel:Nat) (listed:Array Bool) (a:Act) (w:World),listed.size=ops.size->(∀j o,ops[j]? = some o->listed.getD j true=true->∀e∈o.after,Region.binds .any e=true->listed.getD e.on true=true)->((List.range ops.size).filter λj=> !listed.getD j true).length<=fuel->(∀q,N<=q->q<ops.size->listed.getD q true=false)->(∃m,Rel cx m a as_ (Fd ops s (λj=>listed.getD j true) N) w)->wpAnyIn (FW ro) 0 cx.P .any ops Q fuel listed a w:=by
 have ae:∀j l,ops[j]? = some l->∀e∈l.after,Region.binds .any e=true->e.on<j:=λj l f=>(G3 hd f).1;have ab:∀(fuel:Nat) (listed:Array Bool) (a:Act) (w:World),listed.size=ops.size->((List.range ops.size).filter λj=> !listed.getD j true).length<=fuel->(∀q,N<=q->q<ops.size->listed.getD q true=false)->(∀i,i<N->listed.getD i true=true)->(∃m,Rel cx m a as_ (Fd ops s (λj=>listed.getD j true) N) w)->wpAnyIn (FW ro) 0 cx.P .any ops Q fuel listed a w:=by
  intro fuel listed a w t v x a3 ⟨m,hm⟩;rw[Acg (T:=λ_=>true) N hN (λj hj=>a3 j hj),Bvc hc _ hN]at hm;refine hK m a w hm fuel listed t (λi hi=>?_) v;by_cases h:i<N
  ·rw[a3 i h,Ze1 h]
  ·rw[x i (by omega) hi,Zd1 h]
 intro fuel;induction fuel with
 |zero=>
  intro listed a w t r v x a4;refine ab 0 listed a w t v x (λi hi=>?_) a4;cases aw:listed.getD i true with
  |true=>rfl
  |false=>
   have aj:i∈(List.range ops.size).filter λj=> !listed.getD j true:=by simp only[List.mem_filter,List.mem_range,aw];exact⟨by omega,rfl⟩
   have:=List.length_pos_of_mem aj;omega
 |succ fuel ih=>
  intro listed a w t r v x a4;by_cases y:∀i,i<N->listed.getD i true=true
  ·exact ab (fuel+1) listed a w t v x y a4
  refine⟨λhr=>?_,λj hj=>?_⟩
  ·exfalso;have ax:∀i,i<N->listed.getD i true=true:=by
    intro i;induction i using Nat.strongRecOn with
    |_ i ay=>
     intro hi;cases d:listed.getD i true with
     |true=>rfl
     |false=>
      exfalso;obtain⟨o,ho⟩:∃o,ops[i]? = some o:=⟨_,Zk2 (by omega)⟩;have:i∈Region.ready .any ops listed:=mem_ready.2 ⟨d,o,ho,λe he hb=>by have n:=ae i o ho e he hb;rw[Sx.getD_two (by omega)];exact ay e.on n (by omega)⟩
      rw[hr]at this;cases this
   exact y ax
  obtain⟨z,l,f,a3⟩:=mem_ready.1 hj;have ak:j<ops.size:=(Zh2.1 f).1;obtain⟨m,hm⟩:=a4;have a5:∀e∈l.after,Region.binds .any e=true->listed.getD e.on true=true:=λe he hb=>by have n:=(G3 hd f).1 e he hb;rw[<-Sx.getD_two (by omega)];exact a3 e he hb
  have aa:j<N:=by
   rcases Nat.lt_or_ge j N with h|h
   ·exact h
   ·exact absurd (λi hi=>D9 r 12 l i a5 (ht j l h f i hi)) y
  have am:∀q c,ops[q]? = some c->listed.getD q true=true->q<N:=λq c g d=>by
   rcases Nat.lt_or_ge q N with h|h
   ·exact h
   ·rw[x q h (Zh2.1 g).1]at d;cases d
  have a8:∀q c,ops[q]? = some c->q<j->listed.getD q true=false->Gm ops 12 l q=false/\c.apart ops l=true/\¬(isW c=true/\isW l=true):=λq c g a6 d=>by
   rcases(G3 hd f).2 (by omega) q c a6 g with hp|h
   ·rw[D9 r 12 l q a5 hp]at d;cases d
   ·refine⟨?_,h⟩;cases hp:Gm ops 12 l q with|false=>rfl|true=>rw[D9 r 12 l q a5 hp]at d;cases d
  have u:∀q c,ops[q]? = some c->j<q->listed.getD q true=true->Gm ops 12 c j=false/\l.apart ops c=true/\¬(isW l=true/\isW c=true):=λq c g a6 d=>by
   rcases(G3 hd g).2 (by rw[<-ah];exact am q c g d) j l a6 f with hp|h
   ·have:=D9 r 12 c j (r q c g d) hp;rw[z]at this;cases this
   ·refine⟨?_,h⟩;cases hp:Gm ops 12 c j with|false=>rfl|true=>have:=D9 r 12 c j (r q c g d) hp;rw[z]at this;cases this
  have an:∀k,k∈l.looksAt ops->(Fd ops s (λi=>listed.getD i true) N).env k=(s j).env k:=λk hk=>by
   have:=Btn (s:=s) hc (S:=λi=>listed.getD i true) (k:=k) (i:=j) N hN (λq c g _ ao=>by
    rcases Nat.lt_trichotomy q j with n|rfl|a9
    ·refine⟨λ_=>n,λ_=>?_⟩;cases d:listed.getD q true with|true=>rfl|false=>exact absurd hk ((Oper.apart_spec (a8 q c g n d).2.1).1 k ao)
    ·simp only[z];simp
    ·refine⟨λd=>?_,λh=>by omega⟩;exact absurd hk ((Oper.apart_spec (u q c g a9 d).2.1).2.2 k ao))
   rwa[show min N j=j by omega]at this
  have hW:isW l=true->Dt (Fd ops s (λi=>listed.getD i true) N) (s j):=λht=>by
   have:=B4z (s:=s) hc (S:=λi=>listed.getD i true) (i:=j) N hN (λq c g _ a2=>by
    rcases Nat.lt_trichotomy q j with n|rfl|a9
    ·refine⟨λ_=>n,λ_=>?_⟩;cases d:listed.getD q true with|true=>rfl|false=>exact absurd ⟨a2,ht⟩ (a8 q c g n d).2.2
    ·simp only[z];simp
    ·refine⟨λd=>?_,λh=>by omega⟩;exact absurd ⟨ht,a2⟩ (u q c g a9 d).2.2)
   rwa[show min N j=j by omega]at this
  have hA:A4j l.op=true->Agr l (s j).env (s j).bl (Fd ops s (λi=>listed.getD i true) N):=λhm b k ap=>by
   refine By3 hc hg (λp q op c hp g az b0 a2 d=>?_) hN (by omega) (λq c g a2 hh=>?_) k
   ·rcases(G3 hd g).2 (by rw[<-ah];exact am q c g d) p op az hp with h|h
    ·exact D9 r 12 c p (r q c g d) h
    ·exact absurd ⟨b0,a2⟩ h.2
   ·rcases hh with ⟨n,d⟩|⟨b5,b1,d⟩
    ·refine a7 q j c l g f (by omega) aa (by omega) a2 hm ?_ b ap;have h1:Nat.blt q j=true:=by rw[Nat.blt_eq];exact n
     simp[Bm9,h1,f];exact(a8 q c g n d).1
    ·have ar:q≠j:=λe=>by rw[e,z]at d;cases d
     refine a7 q j c l g f b1 aa ar a2 hm ?_ b ap;have h1:Nat.blt q j=false:=by cases hb:Nat.blt q j with|false=>rfl|true=>rw[Nat.blt_eq]at hb;omega
     simp[Bm9,h1,g,Gw ar,Bool.false_or];exact(u q c g (by omega) d).1
  refine((ai j l aa f _ m a as_ w an ⟨hW,hA⟩ ((B4e hc _ _ hN).trans (Bev hc j (by omega)).symm) hm).mono λa' w' ⟨m',au⟩=>?_).wpOp f;refine ih _ a' w' (by simp[t]) ?_ ?_ ?_ ⟨m',?_⟩
  ·intro q c g d e he hb;by_cases a6:q=j
   ·subst a6;rw[f]at g;simp at g;subst g;have n:=(G3 hd f).1 e he hb;rw[getD_set_ne true (by omega)];exact a5 e he hb
   ·rw[getD_set_ne true (Ne.symm a6)]at d;have:=r q c g d e he hb;by_cases av:e.on=j
    ·rw[av];simp[t,ak]
    ·rw[getD_set_ne true (Ne.symm av)];exact this
  ·have:=Bsh t ak z;omega
  ·intro q b2 b3;rw[getD_set_ne true (by omega)];exact x q b2 b3
  ·have ac:=Bv4 (s:=s) f z (S:=λi=>listed.getD i true) (λq c g a9 d=>by have h:=u q c g a9 d;refine⟨λk hk he=>(Oper.apart_spec h.2.1).2.1 k he hk,λhh=>h.2.2 ⟨hh.2,hh.1⟩⟩) N hN
   rw[if_pos aa]at ac;rw[<-ac]at au;rw[Acg (T:=λi=>if i=j then true else listed.getD i true) N hN (λi hi=>by
    by_cases ag:i=j
    ·subst ag;simp[t]
    ·rw[getD_set_ne true (Ne.symm ag)];simp[ag])]
   exact au
end
section
variable {cx:Cx}{m m':Mp}{a:Act}{as_:Yb1 Act}{s s':FS}{w w':World}
theorem Rel.step(h:Rel cx m a as_ s w)(v:s'.n=s.n)(c:s'.env=s.env)(d:s'.lb=s.lb)(e:s'.lt=s.lt)(l:s'.fr=s.fr)(p:Chg (D8 m s) w w')(f:Nx (vx cx m s w) (vx cx m' s' w'))
  (blks:∀b k,s'.bl b=some k->b<s'.nb/\Gn (vx cx m' s' w') (m'.bl b) k) (als:∀t,s'.al t->t<s'.nt)
  (inj:∀b b',s'.bl b≠none->s'.bl b'≠none->m'.bl b=m'.bl b'->b=b') (injt:∀t t' g o o',s'.al t->s'.al t'->m'.tk t=some (g,o)->m'.tk t' = some (g,o')->t=t')
  (injbt:∀b t g o,s'.bl b≠none->s'.al t->m'.tk t=some (g,o)->m'.bl b≠g) (own:∀b i,D8 m' s' b i->b<w'.heap.size/\(D8 m s b i\/w.heap.size<=b)) (q:s'.df=s.df:=by rfl):Rel cx m' a as_ s' w':=by
 have r:s.nb<=s'.nb:=f.nb;have u:s.nt<=s'.nt:=f.nt;refine⟨h.chg.later (λk i hi=>(h.own k i hi).2) p,?_,?_,by rw[d];exact Nat.le_trans h.lb r,by rw[e];exact Nat.le_trans h.lt u,blks,als,inj,injt,injbt,λb i hi=>?_,h.away,h.glb.later f⟩
 ·rw[v,c,q];exact h.env.later f
 ·rw[d,e,l];exact h.frs.later f h.lb h.lt
 ·obtain⟨x,j⟩:=own b i hi;refine⟨x,?_⟩;rcases j with j|j
  ·exact(h.own b i j).2
  ·exact .inr (Nat.le_trans h.chg.size j)
theorem Rel.own_b(h:Rel cx m a as_ s w){b:Nat}(hb:s.bl b≠none):m.bl b<w.heap.size:=(h.own (m.bl b) 0 (.inl ⟨b,hb,rfl⟩)).1
variable{g:Nat}{t:Nat}
theorem Rel.own_t(h:Rel cx m a as_ s w){o:Nat}(b:s.al t)(c:m.tk t=some (g,o)):g<w.heap.size:=(h.own g o (.inr ⟨t,o,b,c,Zn1 _⟩)).1
variable{k:Blk}
theorem Rel.newAtX(h:Rel cx m a as_ s w)(j:Chg C2 w w')(a3:w.heap.size<=g)(z:g<w'.heap.size)(u:∀x',Nx (vx cx m s w) x'->x'.w=w'->Gn x' g k) :
  ∃m',Rel cx m' a as_ { s with bl:=λb=>if b=s.nb then some k else s.bl b,nb:=s.nb+1 } w'/\Rep (vx cx m' { s with bl:=λb=>if b=s.nb then some k else s.bl b,nb:=s.nb+1 } w') (.ptr s.nb 0) (.pointer (some ⟨g,0,none⟩))/\Nx (vx cx m s w) (vx cx m' { s with bl:=λb=>if b=s.nb then some k else s.bl b,nb:=s.nb+1 } w'):=by
 have hb:∀k,k<w.heap.size->w'.heap[k]? = w.heap[k]? :=λk hk=>j.block k hk (λ_ h=>h);let m':Mp:={ m with bl:=λb=>if b=s.nb then g else m.bl b };let s':FS:={ s with bl:=λb=>if b=s.nb then some k else s.bl b,nb:=s.nb+1 };have a4:∀b,s.bl b≠none->b<s.nb:=λb hb=>by cases hs:s.bl b with|none=>exact absurd hs hb|some k=>exact(h.blks b k hs).1
 have fp:∀b i,D8 m' s' b i->D8 m s b i\/w.heap.size<=b:=by
  rintro b i (⟨q,r,rfl⟩|⟨t,o,n,l,v⟩)
  ·by_cases f:q=s.nb
   ·grind
   ·left;have d:s.bl q≠none:=by simpa[s',f]using r
    exact .inl ⟨q,d,by simp[m',f]⟩
  ·exact .inl (.inr ⟨t,o,n,l,v⟩)
 have y:Nx (vx cx m s w) (vx cx m' s' w'):=by
  refine⟨j.mono (λ_ _ h=>h.elim),?_,rfl,λb c=>?_,Nat.le_succ _,Zn1 _,λt _ ha=>⟨ha,rfl,λg o hg=>hb g (h.own_t ha hg)⟩⟩
  ·rintro b i (hM|x)
   ·exact .inl (.inl hM)
   ·rcases fp b i x with h|h
    ·exact .inl (.inr h)
    ·exact .inr h
  ·have:b<s.nb:=c;simp[vx,m',Nat.ne_of_lt this]
 refine⟨m',h.step rfl rfl rfl rfl rfl (j.mono (λ_ _ h=>h.elim)) y ?_ h.als ?_ h.injt ?_ ?_,?_⟩
 ·intro b q r;by_cases c:b=s.nb
  ·subst c;have d:k=q:=by simpa using r
   subst d;exact⟨Nat.lt_succ_self _,by simpa[m']using u _ y rfl⟩
  ·have d:s.bl b=some q:=by simpa[ c]using r
   obtain⟨n,l⟩:=h.blks b q d;have e1:m'.bl b=m.bl b:=by simp[m',c]
   refine⟨Nat.lt_succ_of_lt n,?_⟩;rw[e1];exact l.later y (hb _ (h.own_b (by rw[d];simp)))
 ·intro b b' n l he;by_cases c:b=s.nb<;>by_cases e:b' = s.nb
  ·rw[c,e]
  ·exfalso;have a2:s.bl b'≠none:=by simpa[ e]using l
   have:=h.own_b a2;simp[m',c]at he;omega
  ·exfalso;have p:s.bl b≠none:=by simpa[ c]using n
   have:=h.own_b p;simp[m',e]at he;omega
  ·refine h.inj b b' (by simpa[ c]using n) (by simpa[ e]using l) ?_;simpa[m',c,e]using he
 ·intro b t g o n l v;by_cases c:b=s.nb
  ·have:=h.own_t l v;simp[m',c];omega
  ·have p:s.bl b≠none:=by simpa[ c]using n
   have:=h.injbt b t g o p l v;simpa[m',c]using this
 ·intro b i x;refine⟨?_,fp b i x⟩;rcases fp b i x with hh|hh
  ·exact Zx1 (h.own b i hh).1 j.size
  ·rcases x with ⟨q,r,rfl⟩|⟨t,o,n,l,v⟩
   ·by_cases f:q=s.nb
    ·simpa[m',f]using z
    ·have d:s.bl q≠none:=by simpa[ f]using r
     have:=h.own_b d;simp[m',if_neg f];omega
   ·exact Zx1 (h.own_t n l) j.size
 ·refine⟨?_,y⟩;simp[Rep];exact⟨Nat.lt_succ_self _,by simp[vx,m']⟩
theorem Rel.newAt(h:Rel cx m a as_ s w)(d:Chg C2 w w')(e:w.heap.size<=g)(f:g<w'.heap.size)(c:∀x',Nx (vx cx m s w) x'->x'.w=w'->Gn x' g k) :
  ∃m',Rel cx m' a as_ { s with bl:=λb=>if b=s.nb then some k else s.bl b,nb:=s.nb+1 } w'/\Rep (vx cx m' { s with bl:=λb=>if b=s.nb then some k else s.bl b,nb:=s.nb+1 } w') (.ptr s.nb 0) (.pointer (some ⟨g,0,none⟩)):=
 let ⟨m',h1,h2,_⟩:=h.newAtX d e f c
 ⟨m',h1,h2⟩
variable{vs:Yb1 Value}
theorem Rel.new(h:Rel cx m a as_ s w){t:TypeId}(d:Chg C2 w w')(e:w.heap.size<w'.heap.size)(c:∀x',Nx (vx cx m s w) x'->x'.w=w'->Gn x' w.heap.size k)(_hv:vs=vs)(_ht:t=t) :
  ∃m',Rel cx m' a as_ { s with bl:=λb=>if b=s.nb then some k else s.bl b,nb:=s.nb+1 } w'/\Rep (vx cx m' { s with bl:=λb=>if b=s.nb then some k else s.bl b,nb:=s.nb+1 } w') (.ptr s.nb 0) (.pointer (some ⟨w.heap.size,0,none⟩)):=h.newAt d (Zn1 _) e c
theorem Rel.write(h:Rel cx m a as_ s w){b:Nat}{k0:Blk}(u:s.bl b=some k0)(p:Chg (λc _=>c=m.bl b) w w')(v:∀x',Nx (vx cx m s w) x'->x'.w=w'->Gn x' (m.bl b) k):Rel cx m a as_ { s with bl:=λc=>if c=b then some k else s.bl c } w':=by
 have l:s.bl b≠none:=by rw[u];simp
 have d:∀c,(if c=b then some k else s.bl c)≠none↔s.bl c≠none:=λc=>by
  by_cases hc:c=b
  ·subst hc;simp[l]
  ·simp[hc]
 let s':FS:={ s with bl:=λc=>if c=b then some k else s.bl c };have fp:∀c i,D8 m s' c i↔D8 m s c i:=λc i=>by
  constructor
  ·rintro(⟨q,r,rfl⟩|y)
   ·exact .inl ⟨q,(d q).1 r,rfl⟩
   ·exact .inr y
  ·rintro(⟨q,r,rfl⟩|y)
   ·exact .inl ⟨q,(d q).2 r,rfl⟩
   ·exact .inr y
 have f:∀c,c<w.heap.size->c≠m.bl b->w'.heap[c]? = w.heap[c]? :=λc hc z=>p.block c hc (λ_ h=>z h);have n:Chg (D8 m s) w w':=p.mono λc i hc=>.inl ⟨b,l,hc.symm⟩;have nx:Nx (vx cx m s w) (vx cx m s' w'):=by
  refine⟨n.mono (λ_ _ h=>.inr h),?_,rfl,λ_ _=>rfl,Zn1 _,Zn1 _,λt _ ha=>⟨ha,rfl,λg o hg=>f g (h.own_t ha hg) (λe=>h.injbt b t g o l ha hg e.symm)⟩⟩;rintro c i (hM|hf)
  ·exact .inl (.inl hM)
  ·exact .inl (.inr ((fp c i).1 hf))
 refine h.step rfl rfl rfl rfl rfl n nx ?_ h.als (λc c' x h2=>h.inj c c' ((d c).1 x) ((d c').1 h2)) h.injt (λc t g o x=>h.injbt c t g o ((d c).1 x)) (λc i hf=>?_)
 ·intro c q r;by_cases hc:c=b
  ·subst hc;have j:k=q:=by simpa using r
   subst j;exact⟨(h.blks c k0 u).1,v _ nx rfl⟩
  ·have j:s.bl c=some q:=by simpa[ hc]using r
   obtain⟨x,h2⟩:=h.blks c q j;exact⟨x,h2.later nx (f _ (h.own_b (by rw[j];simp)) (λe=>hc (h.inj c b (by rw[j];simp) l e)))⟩
 ·have:=(fp c i).1 hf;exact⟨Zx1 (h.own c i this).1 p.size,.inl this⟩
variable{t0:Ya1 Nat}
theorem Rel.right(h:Rel cx m a as_ s w){p:Ya1 (Nat×Nat)}(v:Chg (λb i=>∃t o,t0=some t/\s.al t/\m.tk t=some (b,o)/\o<=i) w w')
  (hp:∀g o,p=some (g,o)->g<w'.heap.size/\(w.heap.size<=g\/∃t o',t0=some t/\s.al t/\m.tk t=some (g,o')/\o'<=o)) :
  Rel cx { m with tk:=λt=>if t=s.nt then p else m.tk t } a as_ { s with al:=λt=>(s.al t/\t0≠some t)\/t=s.nt,nt:=s.nt+1 } w'/\Nx (vx cx m s w) (vx cx { m with tk:=λt=>if t=s.nt then p else m.tk t } { s with al:=λt=>(s.al t/\t0≠some t)\/t=s.nt,nt:=s.nt+1 } w'):=by
 let m':Mp:={ m with tk:=λt=>if t=s.nt then p else m.tk t };let s':FS:={ s with al:=λt=>(s.al t/\t0≠some t)\/t=s.nt,nt:=s.nt+1 };have z:Chg (D8 m s) w w':=v.mono λb i ⟨t,o,_,l,e,f⟩=>.inr ⟨t,o,l,e,f⟩;have u:∀c,c<w.heap.size->(∀t o,t0=some t->s.al t->m.tk t=some (c,o)->False)->w'.heap[c]? = w.heap[c]? :=λc hc hn=>v.block c hc (λi ⟨t,o,l,e,f,_⟩=>hn t o l e f);have old:∀t,s'.al t->t≠s.nt->s.al t/\t0≠some t/\m'.tk t=m.tk t:=λt d a2=>by
  rcases d with d|d
  ·exact⟨d.1,d.2,by simp[m',a2]⟩
  ·exact absurd d a2
 have n:m'.tk s.nt=p:=by simp[m']
 have fp:∀b i,D8 m' s' b i->D8 m s b i\/w.heap.size<=b:=by
  rintro b i (⟨q,hq,rfl⟩|⟨t,o,l,e,f⟩)
  ·exact .inl (.inl ⟨q,hq,rfl⟩)
  ·by_cases d:t=s.nt
   ·subst d;rw[n]at e;rcases(hp b o e).2 with hh|⟨t,o',_,j,g2,r⟩
    ·exact .inr hh
    ·exact .inl (.inr ⟨t,o',j,g2,Nat.le_trans r f⟩)
   ·obtain⟨j,_,r⟩:=old t l d;rw[r]at e;exact .inl (.inr ⟨t,o,j,e,f⟩)
 have nx:Nx (vx cx m s w) (vx cx m' s' w'):=by
  refine⟨z.mono (λ_ _ h=>.inr h),?_,rfl,λ_ _=>rfl,Zn1 _,Nat.le_succ _,λt d ha=>?_⟩
  ·rintro b i (hM|hf)
   ·exact .inl (.inl hM)
   ·rcases fp b i hf with h|h
    ·exact .inl (.inr h)
    ·exact .inr h
  ·have d:t<s.nt:=d;obtain⟨j,g2,r⟩:=old t ha (Nat.ne_of_lt d);exact⟨j,r,λg o hg=>u g (h.own_t j hg) (λt' o' e1 e2 x=>g2 (by rw[e1,h.injt t' t g o' o e2 j x hg]))⟩
 refine⟨h.step rfl rfl rfl rfl rfl z nx ?_ ?_ h.inj ?_ ?_ ?_,nx⟩
 ·intro b k hk;obtain⟨l,e⟩:=h.blks b k hk;have a3:s.bl b≠none:=by rw[show s.bl b=some k from hk];simp
  exact⟨l,e.later nx (u _ (h.own_b a3) (λt o _ e2 x=>h.injbt b t _ o a3 e2 x rfl))⟩
 ·rintro t (⟨l,_⟩|rfl)
  ·exact Nat.lt_succ_of_lt (h.als t l)
  ·exact Nat.lt_succ_self _
 ·intro t t' g o o' l e f h4;by_cases d:t=s.nt<;>by_cases y:t' = s.nt
  ·rw[d,y]
  ·exfalso;subst d;rw[n]at f;obtain⟨j,g2,r⟩:=old t' e y;rw[r]at h4;rcases(hp g o f).2 with hh|⟨t,o2,e1,e2,x,_⟩
   ·have:=h.own_t j h4;omega
   ·exact g2 (by rw[e1,h.injt t t' g o2 o' e2 j x h4])
  ·exfalso;subst y;rw[n]at h4;obtain⟨j,g2,r⟩:=old t l d;rw[r]at f;rcases(hp g o' h4).2 with hh|⟨t',o2,e1,e2,x,_⟩
   ·have:=h.own_t j f;omega
   ·exact g2 (by rw[e1,h.injt t' t g o2 o e2 j x f])
  ·obtain⟨j,_,r⟩:=old t l d;obtain⟨k1,_,k3⟩:=old t' e y;rw[r]at f;rw[k3]at h4;exact h.injt t t' g o o' j k1 f h4
 ·intro b t g o l e f;by_cases d:t=s.nt
  ·subst d;rw[n]at f;rcases(hp g o f).2 with hh|⟨t,o2,_,e2,x,_⟩
   ·have:=h.own_b l;show m.bl b≠g;omega
   ·exact h.injbt b t g o2 l e2 x
  ·obtain⟨j,_,r⟩:=old t e d;rw[r]at f;exact h.injbt b t g o l j f
 ·intro b i hf;refine⟨?_,fp b i hf⟩;rcases hf with ⟨q,hq,rfl⟩|⟨t,o,l,e,f⟩
  ·exact Zx1 (h.own_b hq) v.size
  ·by_cases d:t=s.nt
   ·subst d;rw[n]at e;exact(hp b o e).1
   ·obtain⟨j,_,r⟩:=old t l d;rw[r]at e;exact Zx1 (h.own_t j e) v.size
end
section
variable {R:Type}{px:Px R}{cx:Cx}
def E0(t s:FS):FS:={ s with bl:=t.bl,nb:=t.nb,al:=t.al,nt:=t.nt }
def Yv(P:Program)(a:Act)(w:World)(o:Oper)(Post:Value->World->Prop):Prop:=(∃v w',(execOp a.eval o).run P w = .ok (.value v) w'/\Post v w')\/∃f args w1,(execOp a.eval o).run P w = .ok (.enter f args) w1/\Calls P f args w1 λen w'=>∃v,en = .returned v/\Post v w'
theorem Yv.runs{Post:Value->World->Prop}(h:Yv P a w o Post)(d:∀v w',Post v w'->K (a.put o.dst v) w'):Abw P a w o K:=by
 rcases h with ⟨v,w',b,c⟩|⟨f,args,w1,b,c⟩
 ·exact .inl ⟨v,w',b,d v w' c⟩
 ·refine .inr (.inr ⟨f,args,w1,b,c.mono ?_⟩)
  grind
structure Eff (cx:Cx) (px:Px R) (o:Oper) (st st':St) (d:D):Prop where
 same:st'.n=st.n/\st'.env=st.env/\st'.lb=st.lb/\st'.lt=st.lt/\(st'.fr,st'.df)=(st.fr,st.df)
 run:∀(s:FS) (m:Mp) (a:Act) (as_:List Act) (w:World),(∀t x,x∈o.op.operands->evF px s.env t x=evF px (get st.env) t x)->Dt s (fs st)->Rel cx m a as_ s w->Yv cx.P a w o λv w'=>∃m',Rel cx m' a as_ (E0 (fs st') s) w'/\Rep (vx cx m' (E0 (fs st') s) w') d v
theorem J8{st:FS}(h:Dt s st):E0 st s=s:=by obtain⟨a,b,c,d⟩:=h;simp[E0,<-a,<-b,<-c,<-d]
variable{st:St}
theorem Bjg{d:D}(h:Be2 cx px o (get st.env) (blk st.bl) d):Eff cx px o st st d:=⟨⟨rfl,rfl,rfl,rfl,rfl⟩,λs m a as_ w f c e=>by obtain⟨v,g,i⟩:=h s m a as_ w f (λ_ b k _ hb _=>(congrFun c.1 b).trans hb) e;rw[J8 c];exact .inl ⟨v,w,g,m,e,i⟩⟩
theorem Az(l:Yb1 (Nat×Blk))(k b:Nat)(v:Blk):blk ((k,v)::l) b=if b=k then some v else blk l b:=by
 simp[blk];by_cases h:b=k
 ·subst h;simp
 ·simp[Gw (Ne.symm h),h]
theorem E7{b:Nat}{k:Blk}:∀(l:Yb1 (Nat×Blk)) (c:Nat),blk (Du l b k) c=if c=b then(blk l b).map (λ_=>k)else blk l c
 |[],c=>by simp[Du,blk]
 |(q,v)::l,c=>by
  simp[Du];by_cases a:q=b
  ·subst a;simp;rw[Az,Az,Az]
   grind
  ·simp[Gw a];rw[Az,Az,E7 l c,Az]
   grind
variable{us:Yb1 Value}{vs:Yb1 Value}
theorem M6{b:Nat}(h:Sx.Chg [b] w w'){t:TypeId}(j:w.heap[b]? = some (.cells vs.toArray t (0,0)))(l:w'.heap[b]? = some (.cells us.toArray t (0,0)))(m:us.length=vs.length):Chg (λc _=>c=b) w w':=
 ⟨h.os,h.tape,h.output,h.size,λk g d=>h.block k g (by simpa using (d 0)),λc i v hv d=>by
  rw[World.cell?_of_block (a:=⟨c,i,none⟩) (h.block c (Ads hv) (by simpa using d))];exact hv,λc cs t' f e=>by
  by_cases hc:c=b
  ·grind
  ·exact⟨cs,f,by rw[h.block c (Zh2.1 e).1 (by simpa using hc)];exact e,rfl⟩⟩
variable{zs:Yb1 Value}
theorem Bqs{t:TypeId}(h:Sx.tyZero P t=some zs)(w:World):∃z,(zeroValue t).run P w = .ok z w/\z.cells=zs.toArray:=by obtain⟨i,z,hi,a,hc⟩:=L8 h;exact⟨z,by simp[zeroValue,typeInfo,hi,a],hc⟩
theorem Ps(st:St)(k:Blk)(s:FS)(h:Dt s (fs st)):E0 (fs (Hr st k)) s={ s with bl:=λb=>if b=s.nb then some k else s.bl b,nb:=s.nb+1 }:=by
 obtain⟨c,a,d,e⟩:=h;refine FS.eq rfl rfl rfl rfl rfl ?_ ?_ ?_ ?_
 ·funext b;simp[E0,fs,Hr,Az,c,a]
 ·simp[E0,fs,Hr,a]
 ·simp[E0,fs,Hr,d]
 ·simp[E0,fs,Hr,e]
variable{c:Ck}
theorem Bpl{x:Vx}:∀{n:Nat},zbL ((List.replicate n (enc c (zer c))).flatten) zs=true->zs.length=n*csz c/\∀i y j d,(List.replicate n (zer c))[i]? = some y->(enc c y)[j]? = some d->∃u,zs[i*csz c+j]? = some u/\RF x.S x.w d u:=by
 intro n h;obtain⟨k,_⟩:=T6 (x:=x) h;have a:zs.length=n*csz c:=by rw[k.len];simp[ B8]
 refine⟨a,λi y j d m hd=>?_⟩;have f:i<n:=by grind
 have g:y=zer c:=by grind
 subst g;have b:∀(n i:Nat),i<n->((List.replicate n (enc c (zer c))).flatten)[i*csz c+j]? = some d:=by
  intro n;induction n with
  |zero=>intro i h;omega
  |succ n o=>
   intro i h;rw[List.replicate_succ,Zz1];cases i with
   |zero=>grind
   |succ i=>
    rw[List.getElem?_append_right (by rw[B8,Nat.succ_mul];omega),B8]
    grind
 obtain⟨u,l,e⟩:=k.get (b n i f);exact⟨u,l,A9c e (.inl rfl) ⟨c,zer c,j,hd⟩⟩
theorem Fi(w:World)(o:Obj):Chg C2 w (w.alloc o)/\w.heap.size<(w.alloc o).heap.size:=⟨Chg.alloc _ _ _,by simp⟩
theorem Cj(w:World)(o:Obj):(w.alloc o).heap[w.heap.size]? = some o:=by show(w.heap.push o)[w.heap.size]? = _;simp
variable{k:Blk}{t:Nat}
theorem Vb(y:PxOk cx px)(ho:o.op = .alloc t)(hk:(∃n c,px.tt t = .arr n c/\k = .row c n (List.replicate n (zer c)))\/∃z,px.tt t ≠ .no/\(px.tt t).zero=some z/\k=A8u t (cells z)):Eff cx px o st (Hr st k) (.ptr st.nb 0):=by
 refine⟨⟨rfl,rfl,rfl,rfl,rfl⟩,λs m a as_ w hx j hr=>?_⟩;have main:∀zs,Sx.tyZero cx.P t=some zs->(∀x',Nx (vx cx m s w) x'->x'.w=w.alloc (.cells zs.toArray t)->Gn x' w.heap.size k)->Yv cx.P a w o λv w'=>∃m',Rel cx m' a as_ (E0 (fs (Hr st k)) s) w'/\Rep (vx cx m' (E0 (fs (Hr st k)) s) w') (.ptr st.nb 0) v:=by
  intro zs l g;obtain⟨z,p,q⟩:=Bqs l w;obtain⟨m',b,f⟩:=hr.new (vs:=zs) (t:=t) (Fi w _).1 (Fi w _).2 g rfl rfl;refine .inl ⟨.pointer (some ⟨w.heap.size,0,none⟩),w.alloc (.cells zs.toArray t),?_,m',?_,?_⟩
  ·simp only[execOp,ho,Instr.alloc,Sem.run_bind,p,newVar,newRow,newObj,Sem.run_pure,Result.andThen_ok,Sem.run,World.alloc,q]
  ·rw[Ps st k s j];exact b
  ·rw[Ps st k s j];have e1:st.nb=s.nb:=j.2.1.symm;rw[e1];exact f
 rcases hk with ⟨n,c,h,rfl⟩|⟨z,r,l,rfl⟩
 ·obtain⟨zs,d,e⟩:=Us (y.tt t) (by rw[h];simp) (z:=.agg ((List.replicate n (enc c (zer c))).flatten)) (by rw[h];rfl);refine main zs d λx' nx i=>?_;obtain⟨b,f⟩:=Bpl (x:=x') (c:=c) (n:=n) e;exact⟨by simp,zs,t,by rw[i];exact Cj _ _,by simpa using b,f⟩
 ·obtain⟨zs,d,e⟩:=Us (y.tt t) r l;refine main zs d λx' nx i=>?_;obtain⟨b,f⟩:=T6 (x:=x') e;generalize cells z=cz at b f;unfold A8u;split
  ·simp only[Reps]at b;obtain⟨u,us,rfl,q1,u2,a2,rfl,q2,rfl⟩:=b;simp[Rep]at q1;exact⟨⟨_,_,rfl⟩,u,u2,by rw[i];exact Cj _ _,.inl q1,q2⟩
  ·exact⟨f,zs,t,by rw[i];exact Cj _ _,b⟩
variable{x:Operand}
theorem Bfs(i:o.op = .box t x){d:D}(hd:ev px st t x=some d)(l:lfs d=true):Eff cx px o st (Hr st (Bnl d)) (.ptr st.nb 0):=by
 refine⟨⟨rfl,rfl,rfl,rfl,rfl⟩,λs m a as_ w z g n=>?_⟩;rw[Ay,<-z _ x (by simp[i,Op.operands])]at hd;obtain⟨v,_,hv,b⟩:=n.env.ev hd;have p:(w.alloc (.cells v.cells t)).heap[w.heap.size]? = some (.cells v.cells.toList.toArray t (0,0)):=by simpa using Cj w (.cells v.cells t)
 obtain⟨m',h1,h2⟩:=n.new (k:=Bnl d) (vs:=v.cells.toList) (t:=t) (Fi w (.cells v.cells t)).1 (Fi w _).2 (λx' q r=>by
  cases d with
  |sv c y=>simp[Rep]at b;obtain⟨ha,vs,rfl,f,h⟩:=b;exact⟨ha,vs,t,by rw[r];simpa[Value.cells]using p,f,λj e he=>by obtain⟨u,hu,hf⟩:=h j e he;exact⟨u,hu,q.rf hf⟩⟩
  |_=>exact⟨l,v.cells.toList,t,by rw[r];exact p,Reps.later q _ _ (N2 b l).reps⟩) rfl rfl
 refine .inl ⟨.pointer (some ⟨w.heap.size,0,none⟩),w.alloc (.cells v.cells t),?_,m',?_,?_⟩
 ·simp only[execOp,i,Instr.box,hv,newVar,newRow,newObj,Sem.run_bind,Sem.run_pure,Result.andThen_ok,Sem.run,World.alloc]
 ·rw[Ps st _ s g];exact h1
 ·rw[Ps st _ s g];have e1:st.nb=s.nb:=g.2.1.symm;rw[e1];exact h2
variable{y:Operand}
theorem A3j(hp:PxOk cx px)(ho:o.op = .makeSlice t x y)(v:px.tt t = .sl c){k k':IntKind}{n q:Int}(hx:ev px st 0 x=some (.int k n))(hy:ev px st 0 y=some (.int k' q))(g : 0<=n/\n<=q)(f:q<=(Ah:Int)):Eff cx px o st (Hr st (.dyn c (List.replicate q.toNat (zer c)))) (.osl st.nb c 0 n):=by
 refine⟨⟨rfl,rfl,rfl,rfl,rfl⟩,λs m a as_ w a2 hW hr=>?_⟩;rw[Ay,<-a2 _ x (by simp[ho,Op.operands])]at hx;rw[Ay,<-a2 _ y (by simp[ho,Op.operands])]at hy;obtain⟨v1,_,ac,ae⟩:=hr.env.ev hx;obtain⟨v2,_,ag,ah⟩:=hr.env.ev hy;obtain rfl:=Rep.int ae;obtain rfl:=Rep.int ah;obtain⟨by_,⟨hu,i0,z,a3,hz,b,ai,aj,au⟩,e,_⟩:=C8 (hp.tt t) v;obtain⟨zs,ak,am⟩:=Bn4 (hp.tt t) v;obtain⟨i1,z1,h,l,a4⟩:=L8 ak;rw[a3]at h;simp at h;subst h;rw[hz]at l;simp at l;subst l;have f:q<=274877906944:=f;have ab:by_*q.toNat<=512*274877906944:=Nat.mul_le_mul e (by omega);have an:(by_:Int)*q=((by_*q.toNat:Nat):Int):=by rw[Int.natCast_mul,Int.toNat_of_nonneg (by omega)]
 have a5:=run_make (P:=cx.P) w t (cx.el c) i0 z hu a3 hz k k' n q g.1 g.2 (by rw[ai,an];omega) (by omega);have ao:zs.length=csz c:=by rw[<-aj,a4];simp
 obtain⟨m',h1,h2⟩:=hr.new (k:=.dyn c (List.replicate q.toNat (zer c))) (vs:=[]) (t:=t) (Fi w (.cells (madeCells z.cells (q.toNat*i0.size)) (cx.el c))).1 (Fi w _).2 (λx' nx hw=>by
  obtain⟨p,_⟩:=T6 (x:=x') am;refine⟨by simp[ maxLen];omega,(madeCells z.cells (q.toNat*i0.size)).toList,cx.el c,by rw[hw,Array.toArray_toList];exact Cj _ _,by simp[size_madeCells,b],λi y j d r hd=>?_⟩;have a6:i<q.toNat:=by have:=(Zi2.1 r).1;simpa using this
  have ap:y=zer c:=by rw[List.getElem?_replicate,if_pos a6]at r;simpa using r.symm
  subst ap;have hj:j<csz c:=by rw[<-B8 c (zer c)];exact(Zi2.1 hd).1
  obtain⟨u,a7,a8⟩:=p.get hd;refine⟨u,?_,A9c a8 (.inl rfl) ⟨c,zer c,j,hd⟩⟩;have ar:i*csz c+j<q.toNat*i0.size:=by have:(i+1)*csz c<=q.toNat*csz c:=Nat.mul_le_mul_right _ a6;rw[Nat.succ_mul]at this;rw[b];omega
  have a9:(i*csz c+j) % zs.length=j:=by rw[ao,Nat.mul_comm,Nat.mul_add_mod];exact Nat.mod_eq_of_lt hj
  have aa:j<zs.length:=by omega
  have hg:zs[j]=u:=by rw[Zo1 aa]at a7;simpa using a7
  simp[madeCells,ar,a4,a9,aa,hg]) rfl rfl
 refine .inl ⟨.slice (some ⟨w.heap.size,0,none⟩) n.toNat q.toNat,w.alloc (.cells (madeCells z.cells (q.toNat*i0.size)) (cx.el c)),?_,m',?_,?_⟩
 ·simp[execOp,ho,ac,ag,a5]
 ·rw[Ps st _ s hW];exact h1
 ·rw[Ps st _ s hW];have e1:st.nb=s.nb:=hW.2.1.symm;rw[e1];simp only[Rep]at h2 ⊢;obtain⟨g1,g2⟩:=h2;simp at g2;refine⟨g1,Int.le_refl _,g.1,by simp[maxLen];omega,_,_,rfl,.inr ?_,by omega,by simp[maxLen];omega,madeCells z.cells (q.toNat*i0.size),(0,0),by rw[<-g2];exact Cj _ _,by simp[size_madeCells,b]⟩;rw[<-g2];simp
structure EffN (cx:Cx) (px:Px R) (o:Oper) (st st':St):Prop where
 same:st'.n=st.n/\st'.env=st.env/\st'.lb=st.lb/\st'.lt=st.lt/\(st'.fr,st'.df)=(st.fr,st.df)
 keep:st.nb<=st'.nb/\∀b,b∉wsN px o st->F3 (fs st) (fs st') b
 run:∀(s:FS) (m:Mp) (a:Act) (as_:List Act) (w:World),(∀t x,x∈o.op.operands->evF px s.env t x=evF px (get st.env) t x)->Dt s (fs st)->Rel cx m a as_ s w->∃w' m',(execOp a.eval o).run cx.P w = .ok .skip w'/\Rel cx m' a as_ (E0 (fs st') s) w'
theorem Tz{b:Nat}{ws:Yb1 Nat}(h:ws=[b]):st.nb<=({ st with bl:=Du st.bl b k }:St).nb/\∀c,c∉ws->F3 (fs st) (fs { st with bl:=Du st.bl b k }) c:=by
 subst h;refine⟨Zn1 _,λc hc=>?_⟩;have a:c≠b:=λe=>hc (by simp[e]);have e:blk (Du st.bl b k) c=blk st.bl c:=by rw[E7,if_neg a]
 exact⟨λk d=>e.trans d,λk d _=>e.symm.trans d⟩
theorem Uf(st:St)(b:Nat)(k k0:Blk)(s:FS)(h:Dt s (fs st))(hb:blk st.bl b=some k0):E0 (fs { st with bl:=Du st.bl b k }) s={ s with bl:=λc=>if c=b then some k else s.bl c }:=by obtain⟨a,d,e,f⟩:=h;refine FS.eq rfl rfl rfl rfl rfl ?_ d.symm e.symm f.symm;funext c;simp[E0,fs,E7,a,hb]
theorem Bxu{d:D}(h:B2z d=true):∃l tk,d = .sl .byte l tk:=by
 unfold B2z at h;split at h
 ·exact⟨_,_,rfl⟩
 ·cases h
theorem Aa0(v:Value):∀(us cs:Yb1 Value) (o:Nat),Sx.writeAt (v::cs) (o+1) us=v::Sx.writeAt cs o us
 |[],_,_=>rfl
 |u::us,cs,o=>by simp[Sx.writeAt];exact Aa0 v us _ (o+1)
theorem Agp:∀(us cs:Yb1 Value),us.length=cs.length->Sx.writeAt cs 0 us=us
 |[],[],_=>rfl
 |[],_::_,h=>by simp at h
 |_::_,[],h=>by simp at h
 |u::us,c::cs,h=>by simp[Sx.writeAt];rw[Aa0,Agp us cs (by simpa using h)]
variable{r:R}
theorem Avj(hp:PxOk cx px){K:St->Ya1 R}(h:Abn px o st K=some r):∃st',K st' = some r/\EffN cx px o st st':=by
 unfold Abn at h;split at h
 ·rename_i t x y ho;have ai:∀n,(px.tt t).n=n->px.tt t ≠ .no->Sx.tySz cx.P t=some n:=λn hn aw=>by rw[<-hn];exact(D5 (hp.tt t) aw).2.2
  split at h
  ·rename_i b off d hx hy;split at h
   ·rename_i T d0 hb;split at h
    ·rename_i hc;simp only[Zb1]at hc;obtain⟨⟨p,aa⟩,a5⟩:=hc;obtain rfl:=Zl1 p;obtain⟨l,tk,rfl⟩:=Bxu aa;have au:=F7 a5;refine⟨_,h,⟨rfl,rfl,rfl,rfl,rfl⟩,Tz (by simp[wsN,ho,hx]),λs m a as_ w v hW hr=>?_⟩;rw[Ay,<-v _ x (by simp[ho,Op.operands])]at hx;rw[Ay,<-v _ y (by simp[ho,Op.operands])]at hy;obtain⟨v1,_,h2,h3⟩:=hr.env.ev hx;obtain⟨v2,_,h5,h6⟩:=hr.env.ev hy;simp[Rep]at h3;obtain⟨_,rfl⟩:=h3;have z:s.bl b=some (.bld T d0):=by rw[hW.1];exact hb
     obtain⟨_,a0,v0,hh,ha,_⟩:=(hr.blks b _ z).2;have hh:w.heap[m.bl b]? = some (.cells [a0,v0].toArray T (0,0)):=hh;have am:Sx.one v2=true:=Ajy h6 rfl;have ab:v2.cells.toList=[v2]:=by rw[Sx.one_cells am]
     obtain⟨r1,r2,r3⟩:=Sx.run_storeCells (P:=cx.P) v2.cells.toList w (m.bl b) 1 0 [a0,v0] T hh (by rw[ab];simp) (by rw[ab];intro u hu;simp at hu;subst hu;exact am);have ax:(Sx.setCells w (m.bl b) 1 v2.cells.toList).heap[m.bl b]? = some (.cells #[a0,v2] T (0,0)):=by rw[r2,ab];rfl
     have a2:=hr.write (w':=Sx.setCells w (m.bl b) 1 v2.cells.toList) (k:=.bld T (.sl .byte l tk)) z (M6 r3 hh r2 (by rw[Sx.writeAt_length])) (λx' nx hw=>⟨⟨l,tk,rfl⟩,a0,v2,by rw[hw];exact ax,ha,Rep.later nx _ _ h6⟩);refine⟨_,m,?_,by rw[Uf st b _ _ s hW hb];exact a2⟩;have ay:v2.cells.size=1:=by rw[<-Array.length_toList,ab];rfl
     have a7:Sx.tySz cx.P t=some v2.cells.size:=ai _ (by rw[ay,au];rfl) (by rw[au];simp);simp[execOp,ho,Instr.storeAt,h2,h5,vx,Instr.sureAddr,storeVar,Sem.run_bind,Sem.run_pure,Result.andThen_ok,Sx.run_sizeOf a7,ne_eq,not_true_eq_false,if_false];rw[r1];simp
    ·cases h
   split at h
   ·rename_i ds ac;obtain⟨k0,hb,ae⟩:∃k0,blk st.bl b=some k0/\∀x β,Gn x β k0->ds.all lf=true/\∃(vs:Yb1 Value) (t:TypeId),x.w.heap[β]? = some (.cells vs.toArray t (0,0))/\Reps x ds vs:=by
     split at ac
     ·rename_i b3 hb;simp[Za1]at ac;subst ac;exact⟨_,hb,λx β h=>h⟩
     ·rename_i c y hb;simp[Za1]at ac;subst ac;refine⟨_,hb,λx β h=>?_⟩;obtain⟨_,vs,t,hh,a3,f⟩:=h;exact⟨Bbk c y,vs,t,hh,(Il (x:=x) (c:=c) (y:=y) ⟨a3,f⟩).reps⟩
     ·cases ac
    split at h
    ·rename_i hc;simp only[Zb1]at hc;obtain⟨⟨⟨p,aa⟩,a5⟩,ag⟩:=hc;have p:=Zl1 p;have aa:off+(cells d).length<=ds.length:=by simpa using aa
     refine⟨_,h,⟨rfl,rfl,rfl,rfl,rfl⟩,Tz (by simp[wsN,ho,hx]),λs m a as_ w v hW hr=>?_⟩;rw[Ay,<-v _ x (by simp[ho,Op.operands])]at hx;rw[Ay,<-v _ y (by simp[ho,Op.operands])]at hy;obtain⟨v1,_,h2,h3⟩:=hr.env.ev hx;obtain⟨v2,_,h5,h6⟩:=hr.env.ev hy;simp[Rep]at h3;obtain⟨_,rfl⟩:=h3;have aj:=N2 h6 a5;have z:s.bl b=some k0:=by rw[hW.1];exact hb
     obtain⟨hl,vs,ty,hh,g⟩:=ae _ _ (hr.blks b _ z).2;have hh:w.heap[m.bl b]? = some (.cells vs.toArray ty (0,0)):=hh;have ak:off+v2.cells.toList.length<=vs.length:=by rw[aj.1,g.len];exact aa
     obtain⟨r1,r2,r3⟩:=Sx.run_storeCells (P:=cx.P) v2.cells.toList w (m.bl b) off 0 vs ty hh (by omega) (Bkt aj a5);have a2:=hr.write (w':=Sx.setCells w (m.bl b) off v2.cells.toList) (k:=A89 ds off d) z (M6 r3 hh r2 (by rw[Sx.writeAt_length])) (λx' nx hw=>by
      have base:Gn x' (m.bl b) (.cells (write ds off (cells d))):=by refine⟨Alt _ _ _ hl a5,Sx.writeAt vs off v2.cells.toList,ty,by rw[hw];exact r2,?_⟩;exact Reps.later nx _ _ (P8 _ _ _ _ _ (Hf g) aj aa).reps
      have b5:vs.length=ds.length:=g.len;clear hy h5 h;cases d with
      |sv c y=>
       simp[A89];split
       ·rename_i an;simp only[Zb1]at an;obtain rfl:=Zl1 an.1;have b6:=Zl1 an.2;simp[Rep]at h6;obtain⟨ha,us,rfl,az,f⟩:=h6;have ab:(Value.agg us.toArray).cells.toList=us:=by simp[Value.cells]
        rw[ab,Agp us vs (by omega)]at r2;exact⟨ha,us,ty,by rw[hw];exact r2,az,λj e he=>by obtain⟨u,hu,hf⟩:=f j e he;exact⟨u,hu,nx.rf hf⟩⟩
       ·exact base
      |_=>exact base)
     refine⟨_,m,?_,by rw[Uf st b _ _ s hW hb];exact a2⟩;have a7:Sx.tySz cx.P t=some v2.cells.size:=ai _ (by rw[<-p,<-aj.1];simp) (E9 ag).1;simp[execOp,ho,Instr.storeAt,h2,h5,vx,Instr.sureAddr,storeVar,Sem.run_bind,Sem.run_pure,Result.andThen_ok,Sx.run_sizeOf a7,ne_eq,not_true_eq_false,if_false];rw[r1];simp
    ·cases h
   ·cases h
  ·rename_i b c0 n0 i d hx hy;split at h
   ·rename_i c n xs hb;split at h
    ·rename_i y0 ae hc;simp only[Zb1,Zg1]at hc;obtain⟨⟨⟨p,rfl⟩,a5⟩,ag⟩:=hc;have p:=Zl1 p;have a5:=Zl1 a5;subst a5;refine⟨_,h,⟨rfl,rfl,rfl,rfl,rfl⟩,Tz (by simp[wsN,ho,hx]),λs m a as_ w v hW hr=>?_⟩;rw[Ay,<-v _ x (by simp[ho,Op.operands])]at hx;rw[Ay,<-v _ y (by simp[ho,Op.operands])]at hy;obtain⟨v1,_,h2,h3⟩:=hr.env.ev hx;obtain⟨v2,_,h5,h6⟩:=hr.env.ev hy;simp[Rep]at h3;obtain⟨_,rfl,b0,b7⟩:=h3;obtain⟨f,_,_⟩:=O1 ae h6;have z:s.bl b=some (.row c0 n0 xs):=by rw[hW.1];exact hb
     obtain⟨_,ao,vs,ty,hh,a3,g⟩:=hr.blks b _ z;have hh:w.heap[m.bl b]? = some (.cells vs.toArray ty (0,0)):=hh;have ap:i.toNat<xs.length:=by omega
     have ak:i.toNat*csz c0+v2.cells.toList.length<=vs.length:=by rw[f.1,a3,<-Nat.succ_mul];exact Nat.mul_le_mul_right _ (by omega)
     obtain⟨r1,r2,r3⟩:=Sx.run_storeCells (P:=cx.P) v2.cells.toList w (m.bl b) (i.toNat*csz c0) 0 vs ty hh (by omega) f.one;have a8:∀(us cs:Yb1 Value) (o q:Nat),o+us.length<=cs.length->(Sx.writeAt cs o us)[q]? = if o<=q/\q<o+us.length then us[q-o]? else cs[q]? :=by
      intro us;induction us with
      |nil=>intro cs o q _;simp only[Sx.writeAt,Zi1,Nat.add_zero];rw[if_neg (by omega)]
      |cons u us ih=>
       intro cs o q hl;simp[Zf1]at hl;simp only[Sx.writeAt];rw[ih (cs.set o u) (o+1) q (by simp;omega)];simp[Zf1];by_cases hq:q=o
       ·subst hq;rw[if_neg (by omega),if_pos (by omega)];simp[show q<cs.length by omega]
       ·by_cases a6:o+1<=q/\q<o+1+us.length
        ·rw[if_pos a6,if_pos (by omega),show q-o=(q-(o+1))+1 by omega];simp
        ·rw[if_neg a6,if_neg (by omega),List.getElem?_set_ne (Ne.symm hq)]
     have a2:=hr.write (w':=Sx.setCells w (m.bl b) (i.toNat*csz c0) v2.cells.toList) (k:=.row c0 n0 (xs.set i.toNat y0)) z (M6 r3 hh r2 (by rw[Sx.writeAt_length])) (λx' nx hw=>by
      refine⟨by simpa using ao,Sx.writeAt vs (i.toNat*csz c0) v2.cells.toList,ty,by rw[hw];exact r2,by rw[Sx.writeAt_length];simpa using a3,λq y j d' a4 a9=>?_⟩;have b1:j<csz c0:=by rw[<-B8 c0 y];exact(Zi2.1 a9).1
      rw[a8 _ _ _ _ ak,f.1];by_cases ah:q=i.toNat
      ·subst ah;rw[List.getElem?_set_self ap]at a4;simp[Za1]at a4;subst a4;obtain⟨u,hu,hf⟩:=f.2 j d' a9;refine⟨u,?_,nx.rf hf⟩;rw[if_pos (by omega),show i.toNat*csz c0+j-i.toNat*csz c0=j by omega];exact hu
      ·rw[List.getElem?_set_ne (Ne.symm ah)]at a4;obtain⟨u,hu,hf⟩:=g q y j d' a4 a9;refine⟨u,?_,nx.rf hf⟩;rw[if_neg,hu];rintro⟨g1,g2⟩;rcases Nat.lt_or_ge q i.toNat with ar|b2
       ·have:(q+1)*csz c0<=i.toNat*csz c0:=Nat.mul_le_mul_right _ ar;rw[Nat.succ_mul]at this;omega
       ·have:(i.toNat+1)*csz c0<=q*csz c0:=Nat.mul_le_mul_right _ (by omega);rw[Nat.succ_mul]at this;omega)
     refine⟨_,m,?_,by rw[Uf st b _ _ s hW hb];exact a2⟩;have a7:Sx.tySz cx.P t=some v2.cells.size:=ai _ (by rw[p,<-f.1];simp) (E9 ag).1;simp[execOp,ho,Instr.storeAt,h2,h5,vx,Instr.sureAddr,storeVar,Sem.run_bind,Sem.run_pure,Result.andThen_ok,Sx.run_sizeOf a7,ne_eq,not_true_eq_false,if_false];rw[r1];simp
    ·cases h
   ·cases h
  ·rename_i b c0 i d hx hy;split at h
   ·rename_i c xs hb;split at h
    ·rename_i y0 ae hc;simp only[Zb1,Zg1]at hc;obtain⟨⟨p,rfl⟩,ag⟩:=hc;obtain⟨av,h⟩:=A2 h;have av:=Mn av;refine⟨_,h,⟨rfl,rfl,rfl,rfl,rfl⟩,Tz (by simp[wsN,ho,hx]),λs m a as_ w v hW hr=>?_⟩;rw[Ay,<-v _ x (by simp[ho,Op.operands])]at hx;rw[Ay,<-v _ y (by simp[ho,Op.operands])]at hy;obtain⟨v1,_,h2,h3⟩:=hr.env.ev hx;obtain⟨v2,_,h5,h6⟩:=hr.env.ev hy;simp[Rep]at h3;obtain⟨_,rfl,b0⟩:=h3;obtain⟨f,_,_⟩:=O1 ae h6;have z:s.bl b=some (.dyn c0 xs):=by rw[hW.1];exact hb
     obtain⟨_,ao,vs,ty,hh,a3,g⟩:=hr.blks b _ z;have hh:w.heap[m.bl b]? = some (.cells vs.toArray ty (0,0)):=hh;have ap:i.toNat<xs.length:=by omega
     have ak:i.toNat*csz c0+v2.cells.toList.length<=vs.length:=by refine Nat.le_trans ?_ a3;rw[f.1,<-Nat.succ_mul];exact Nat.mul_le_mul_right _ (by omega)
     obtain⟨r1,r2,r3⟩:=Sx.run_storeCells (P:=cx.P) v2.cells.toList w (m.bl b) (i.toNat*csz c0) 0 vs ty hh (by omega) f.one;have a8:∀(us cs:Yb1 Value) (o q:Nat),o+us.length<=cs.length->(Sx.writeAt cs o us)[q]? = if o<=q/\q<o+us.length then us[q-o]? else cs[q]? :=by
      intro us;induction us with
      |nil=>intro cs o q _;simp only[Sx.writeAt,Zi1,Nat.add_zero];rw[if_neg (by omega)]
      |cons u us ih=>
       intro cs o q hl;simp[Zf1]at hl;simp only[Sx.writeAt];rw[ih (cs.set o u) (o+1) q (by simp;omega)];simp[Zf1];by_cases hq:q=o
       ·subst hq;rw[if_neg (by omega),if_pos (by omega)];simp[show q<cs.length by omega]
       ·by_cases a6:o+1<=q/\q<o+1+us.length
        ·rw[if_pos a6,if_pos (by omega),show q-o=(q-(o+1))+1 by omega];simp
        ·rw[if_neg a6,if_neg (by omega),List.getElem?_set_ne (Ne.symm hq)]
     have a2:=hr.write (w':=Sx.setCells w (m.bl b) (i.toNat*csz c0) v2.cells.toList) (k:=.dyn c0 (xs.set i.toNat y0)) z (M6 r3 hh r2 (by rw[Sx.writeAt_length])) (λx' nx hw=>by
      refine⟨by simpa using ao,Sx.writeAt vs (i.toNat*csz c0) v2.cells.toList,ty,by rw[hw];exact r2,by rw[Sx.writeAt_length];simpa using a3,λq y j d' a4 a9=>?_⟩;have b1:j<csz c0:=by rw[<-B8 c0 y];exact(Zi2.1 a9).1
      rw[a8 _ _ _ _ ak,f.1];by_cases ah:q=i.toNat
      ·subst ah;rw[List.getElem?_set_self ap]at a4;simp[Za1]at a4;subst a4;obtain⟨u,hu,hf⟩:=f.2 j d' a9;refine⟨u,?_,nx.rf hf⟩;rw[if_pos (by omega),show i.toNat*csz c0+j-i.toNat*csz c0=j by omega];exact hu
      ·rw[List.getElem?_set_ne (Ne.symm ah)]at a4;obtain⟨u,hu,hf⟩:=g q y j d' a4 a9;refine⟨u,?_,nx.rf hf⟩;rw[if_neg,hu];rintro⟨g1,g2⟩;rcases Nat.lt_or_ge q i.toNat with ar|b2
       ·have:(q+1)*csz c0<=i.toNat*csz c0:=Nat.mul_le_mul_right _ ar;rw[Nat.succ_mul]at this;omega
       ·have:(i.toNat+1)*csz c0<=q*csz c0:=Nat.mul_le_mul_right _ (by omega);rw[Nat.succ_mul]at this;omega)
     refine⟨_,m,?_,by rw[Uf st b _ _ s hW hb];exact a2⟩;have a7:Sx.tySz cx.P t=some v2.cells.size:=ai _ (by rw[(Zl1 p),<-f.1];simp) (E9 ag).1;simp[execOp,ho,Instr.storeAt,h2,h5,vx,Instr.sureAddr,storeVar,Sem.run_bind,Sem.run_pure,Result.andThen_ok,Sx.run_sizeOf a7,ne_eq,not_true_eq_false,if_false];rw[r1];simp
    ·cases h
   ·cases h
  ·cases h
 ·cases h
end
section
variable {R:Type}{px:Px R}{cx:Cx}
def Bf(x:Vx)(c:Ck)(xs:Yb1 (El c))(vs:Yb1 Value):Prop:=vs.length=xs.length*csz c/\∀i y j d,xs[i]? = some y->(enc c y)[j]? = some d->∃u,vs[i*csz c+j]? = some u/\RF x.S x.w d u
theorem Bf.nil(x:Vx)(c:Ck):Bf x c [] []:=⟨by simp,λi y j d a=>by simp at a⟩
variable{c:Ck}{vs:Yb1 Value}{xs:Yb1 (El c)}
theorem Bf.later{x x':Vx}(h:Nx x x')(a:Bf x c xs vs):Bf x' c xs vs:=⟨a.1,λi y j d b hd=>by obtain⟨u,e,f⟩:=a.2 i y j d b hd;exact⟨u,e,h.rf f⟩⟩
variable{us:Yb1 Value}{ys:Yb1 (El c)}
theorem Bf.append{x:Vx}(h:Bf x c xs vs)(k:Bf x c ys us):Bf x c (xs++ys) (vs++us):=by
 refine⟨by simp[h.1,k.1,Nat.add_mul],λi y j d a hd=>?_⟩;have f:j<csz c:=by rw[<-B8 c y];exact(Zi2.1 hd).1
 rw[List.getElem?_append]at a;split at a
 ·rename_i hi;obtain⟨u,b,e⟩:=h.2 i y j d a hd;refine⟨u,?_,e⟩;rw[List.getElem?_append_left,b];exact(Zi2.1 b).1
 ·rename_i hi;obtain⟨u,b,e⟩:=k.2 _ y j d a hd;refine⟨u,?_,e⟩;have hle:xs.length*csz c<=i*csz c:=Nat.mul_le_mul_right _ (by omega);rw[List.getElem?_append_right (by rw[h.1];omega),h.1];rwa[Nat.sub_mul,<-Nat.sub_add_comm hle]at b
theorem Bf.cons{x:Vx}{y:El c}(h:ElR x c y us)(k:Bf x c xs vs):Bf x c (y::xs) (us++vs):=by
 have:Bf x c [y] us:=⟨by simpa using h.1,λi z j d a hd=>by
  cases i with
  |zero=>simp at a;subst a;simpa using h.2 j d hd
  |succ i=>simp at a⟩
 exact this.append k
theorem Bf.one{x:Vx}(h:Bf x c xs vs):∀v,v∈vs->Sx.one v=true:=by
 intro v hv;obtain⟨q,b,rfl⟩:=List.mem_iff_getElem.1 hv;have d:=Ai4 c;have hi:q / csz c<xs.length:=by rw[Nat.div_lt_iff_lt_mul d,<-h.1];exact b
 have e:q % csz c<csz c:=Nat.mod_lt _ d;obtain⟨u,a,f⟩:=h.2 (q / csz c) _ (q % csz c) _ (Zo1 hi) (Zo1 (by rw[B8];exact e));rw[show q / csz c*csz c+q % csz c=q by rw[Nat.mul_comm];exact Nat.div_add_mod q (csz c),Zo1 b]at a;simp at a;rw[a];exact A7w f.here
variable{g:Nat}
theorem Ap1{x:Vx}{cap:Nat}(h:Bf x c xs vs)(hle:xs.length<=cap/\cap<=maxLen)(hm:∀(j:Nat) u,vs[j]? = some u->x.w.cell? ⟨g,j,none⟩=some u)(f:∀i,i<xs.length*csz c->¬x.S g i):RF x.S x.w (.sl c xs .no) (.slice (some ⟨g,0,none⟩) xs.length cap):=by
 refine Kt rfl (.inr ⟨g,0,rfl,hle,λi y k w' b j d hd=>?_⟩);obtain⟨u,e,l⟩:=h.2 i y j d k hd;have a:i*csz c+j<xs.length*csz c:=by rw[<-h.1];exact(Zi2.1 e).1
 refine⟨u,?_,l w' b⟩;rw[Nat.zero_add];exact b.cell g _ u (hm _ u e) (f _ a)
theorem F4{x:Vx}{v:Value}(h:RF x.S x.w (.sl c xs .no) v):∃a cap vs,v = .slice a xs.length cap/\Bf x c xs vs/\∀b o,a=some ⟨b,o,none⟩->xs≠[]->∀(j:Nat) u,vs[j]? = some u->x.w.cell? ⟨b,o+j,none⟩=some u:=by
 obtain⟨a,cap,rfl,m⟩:=B5 h;rcases m with rfl|⟨b,o,rfl,hle,f⟩
 ·exact⟨a,cap,[],rfl,Bf.nil _ _,λ_ _ _ h=>absurd rfl h⟩
 ·have key:∀(n:Nat),n<=xs.length->∃vs,Bf x c (xs.take n) vs/\∀(j:Nat) u,vs[j]? = some u->x.w.cell? ⟨b,o+j,none⟩=some u:=by
   intro n;induction n with
   |zero=>intro _;exact⟨[],by simpa using Bf.nil x c,by simp⟩
   |succ n p=>
    intro y;obtain⟨vs,d,g⟩:=p (by omega);have q:xs[n]? = some (xs[n]'(by omega)):=Zo1 (by omega);obtain⟨us,r,s⟩:=At.elR rfl (f n _ q);have k:=d.append (show Bf x c [xs[n]'(by omega)] us from by simpa using Bf.cons r (Bf.nil x c));rw[List.take_append_getElem]at k;refine⟨vs++us,k,λj u e=>?_⟩;rw[List.getElem?_append]at e;split at e
    ·exact g j u e
    ·rename_i i;have t:vs.length=n*csz c:=by rw[d.1,List.length_take,Nat.min_eq_left (by omega)]
     have:=s _ u e;rw[t]at this i;rwa[show o+n*csz c+(j-n*csz c)=o+j by omega]at this
  obtain⟨vs,d,g⟩:=key xs.length (Zn1 _);rw[List.take_length]at d;refine⟨_,cap,vs,rfl,d,λb' o' l _=>?_⟩;simp at l;obtain⟨rfl,rfl⟩:=l;exact g
theorem A6b{x:Vx}{c:Ck}:∀{l:Yb1 D}{ys:Yb1 (El c)}{vs:Yb1 Value},Baq c l=some ys->Reps x l vs->Bf x c ys (vs.flatMap λv=>v.cells.toList)/\(∀v,v∈vs->v.cells.size=csz c)/\ys.length=l.length
 |[],ys,vs,h,hr=>by simp[Baq]at h;simp[Reps]at hr;subst h;subst hr;exact⟨Bf.nil _ _,by simp,rfl⟩
 |d::l,ys,vs,h,hr=>by
  simp[Baq]at h;split at h
  ·rename_i y e;split at h
   ·rename_i f a;simp at h;subst h;simp[Reps]at hr;obtain⟨u,us,rfl,g,i⟩:=hr;obtain⟨i1,j,k⟩:=A6b a i;obtain⟨b,_,_⟩:=O1 e g;refine⟨by simpa using Bf.cons b i1,λv hv=>?_,by simp[k]⟩;simp at hv;rcases hv with rfl|hv
    ·have:=b.1;simpa using this
    ·exact j v hv
   ·cases h
  ·cases h
theorem An4(st:St)(al:Yb1 Nat)(t0:Ya1 Nat)(s:FS)(h:Dt s (fs st))(a:∀t,t∈al↔(t∈st.tk/\t0≠some t)):E0 (fs (Ej { st with tk:=al })) s={ s with al:=λt=>(s.al t/\t0≠some t)\/t=s.nt,nt:=s.nt+1 }:=by
 obtain⟨c,d,e,b⟩:=h;refine FS.eq rfl rfl rfl rfl rfl c.symm d.symm ?_ ?_
 ·funext t;simp[ fs,Ej,e,b,a];exact or_comm
 ·simp[E0,fs,Ej,b]
variable{as_:Yb1 Act}{m:Mp}
theorem Avk(h:Rel cx m a as_ s w){b:Nat}(hb:w.heap.size<=b)(i:Nat):¬(vx cx m s w).S b i:=by
 rintro(c|d)
 ·have:=(h.away b i 0 c).1;have:=h.chg.size;omega
 ·have:=(h.own b i d).1;omega
variable{t0:Ya1 Nat}
theorem Ab7(d:Rel cx m a as_ s w){cur:Array Value}{cap:Nat}(e:Bf (vx cx m s w) c xs vs)(r:Chg C2 w w')(v:w.heap.size<w'.heap.size)(z:w'.heap[w.heap.size]? = some (.cells cur (cx.el c) (0,0)))(f:cur.size=cap*csz c)(hle:xs.length<=cap)(b:cap<=maxLen)(k:∀(j:Nat) u,vs[j]? = some u->cur[j]? = some u) :
  Rel cx { m with tk:=λt=>if t=s.nt then some (w.heap.size,xs.length*csz c)else m.tk t } a as_ { s with al:=λt=>(s.al t/\t0≠some t)\/t=s.nt,nt:=s.nt+1 } w'/\Rep (vx cx { m with tk:=λt=>if t=s.nt then some (w.heap.size,xs.length*csz c)else m.tk t } { s with al:=λt=>(s.al t/\t0≠some t)\/t=s.nt,nt:=s.nt+1 } w') (.sl c xs (.id s.nt)) (.slice (some ⟨w.heap.size,0,none⟩) xs.length cap):=by
 obtain⟨l,nx⟩:=d.right (t0:=t0) (p:=some (w.heap.size,xs.length*csz c)) (r.mono (λ_ _ h=>h.elim)) (λg o hg=>by simp at hg;obtain⟨rfl,rfl⟩:=hg;exact⟨v,.inl (Zn1 _)⟩)
 refine⟨l,?_⟩;simp;refine⟨Ap1 (e.later nx) ⟨hle,b⟩ (λj u hj=>?_) (λi hi=>?_),Nat.lt_succ_self _,λ_=>.inr ⟨w.heap.size,cap,cur,rfl,by simp[vx],z,f,hle,b⟩⟩
 ·show w'.cell? _=_;simp[World.cell?,z];exact k j u hj
 ·rintro(hM|hf)
  ·have:=(d.away _ i 0 hM).1;have:=d.chg.size;omega
  ·rcases hf with ⟨q,hq,he⟩|⟨t,o,n,x,h3⟩
   ·have:=d.own_b hq;have he:m.bl q=w.heap.size:=he;omega
   ·by_cases y:t=s.nt
    ·subst y;simp at x;omega
    ·simp[if_neg y]at x;rcases n with n|n
     ·have:=d.own_t n.1 x;omega
     ·exact absurd n y
variable{t:Nat}
theorem Abx(hp:PxOk cx px){len:Nat}{ps:Array (Nat×Operand)}(ho:o.op = .buildSlice t len ps)(v:px.tt t = .sl c){l:Yb1 D}(k:l.length=len)(a6:len*csz c<=16777216)(y:Baq c l=some xs)(h0:ps.toList.map (·.1)=List.range' 0 l.length)(h2:(ps.toList.map (·.2)).map a.eval=vs)(h3:Reps (vx cx m s w) l vs):xs.length=len/\len<=maxLen/\∃us,Bf (vx cx m s w) c xs us/\(execOp a.eval o).run cx.P w = .ok (.value (.slice (some ⟨w.heap.size,0,none⟩) len len)) (w.alloc (.cells us.toArray (cx.el c))):=by
 obtain⟨n,a2,a8⟩:=A6b y h3;obtain⟨by_,⟨hu,i0,z,p,hz,g,a9,aa,a7⟩,_,_⟩:=C8 (hp.tt t) v;have q:vs.length=len:=by rw[h3.len,k]
 have r:(ps.map λx=>match x with|(i,x)=>(i,a.eval x))=((List.range' 0 vs.length).zip vs).toArray:=by apply Array.ext';rw[Array.toList_map];exact Bf1 (by rw[h0,h3.len]) h2
 have d:((Array.range (len*csz c)).map λi=>z.cells[i % z.cells.size]!).toList.length=len*csz c:=by simp
 have b:=Sx.fill_all (csz c) vs 0 [] ((Array.range (len*csz c)).map λi=>z.cells[i % z.cells.size]!).toList a2 (by simp) (by rw[d,q];exact Zn1 _);have j:((Array.range (len*csz c)).map λi=>z.cells[i % z.cells.size]!).toList.drop (vs.length*csz c)=[]:=Zk1 (by rw[d,q];exact Zn1 _);rw[j]at b;simp only[Zf2,List.append_nil]at b;have a3:(zeroValue (cx.el c)).run cx.P w = .ok z w:=by simp[zeroValue,typeInfo,p,hz]
 have f:(sizeOf (cx.el c)).run cx.P w = .ok (csz c) w:=by simp[sizeOf,typeInfo,p,g]
 have u:¬(len*csz c > 2 ^ 24):=by have:(2:Nat) ^ 24=16777216:=rfl;omega
 refine⟨by omega,by have:=Ai4 c;have:len<=len*csz c:=Nat.le_mul_of_pos_right _ this;simp[maxLen];omega,_,n,?_⟩;by_cases e:len*csz c=0
 ·have a4:vs=[]:=by
   have:len=0:=by
    rcases Nat.mul_eq_zero.1 e with h|h
    ·exact h
    ·omega
   exact List.eq_nil_of_length_eq_zero (by omega)
  subst a4;have a5:Instr.fill (λi=>some (i*csz c,csz c)) ((Array.range (len*csz c)).map (λx=>(#[]:Array Value)[x % (#[]:Array Value).size]!)) []=some #[]:=by rw[e];simp[Instr.fill]
  simp only[execOp,ho,r,Instr.buildSlice,Sem.run_bind,run_underlying hu,Result.andThen_ok,f,if_neg u,if_pos e];simp only[Zi1,List.range'_zero,List.zip_nil_left,a5,newRow,newObj,Sem.run_bind,Sem.run,Sem.run_pure,Result.andThen_ok,World.alloc,List.flatMap_nil]
 ·simp only[execOp,ho,r,Instr.buildSlice,Sem.run_bind,run_underlying hu,Result.andThen_ok,f,if_neg u,if_neg e,a3,b,newRow,newObj,Sem.run,Sem.run_pure,World.alloc]
theorem B3h(c:Ck):csz c<=18:=by cases c<;>decide
variable{st:St}
theorem Ah0(v:PxOk cx px){len:Nat}{ps:Array (Nat×Operand)}(j:o.op = .buildSlice t len ps)(f:px.tt t = .sl c)(b:Amo px st c len ps.toList=some xs)(k:∀t x,x∈o.op.operands->evF px s.env t x=evF px (get st.env) t x)(y:Rel cx m a as_ s w):xs.length=len/\len<=maxLen/\∃us,Bf (vx cx m s w) c xs us/\(execOp a.eval o).run cx.P w = .ok (.value (.slice (some ⟨w.heap.size,0,none⟩) len len)) (w.alloc (.cells us.toArray (cx.el c))):=by
 unfold Amo at b;split at b
 ·rename_i cs d;split at b
  ·rename_i ds n;split at b
   ·rename_i x hc z;simp only[Zb1]at hc;obtain⟨hg,h1⟩:=hc;obtain rfl:=Zl1 h1;simp at b;subst b;unfold B1y at d;split at d
    ·rename_i g h;simp at d;subst d;obtain⟨i,p⟩:=Amm (x:=vx cx m s w) n;have a2:=B3h c;refine Abx v j f (l:=[.agg ds]) rfl (by omega) (xs:=[x]) (by simp[Baq,toK,hg,z]) (vs:=[.agg g]) (by rw[h];rfl) (by rw[h];rfl) ?_;simp only[Reps];exact⟨_,[],rfl,⟨p,g.toList,by simp,i⟩,rfl⟩
    ·cases d
   ·cases b
  ·cases b
 ·split at b
  ·rename_i l hl;split at b
   ·rename_i ys e r;simp only[Zb1]at e;simp at b;subst b;obtain⟨vs,h0,_,h2,h3⟩:=Ad0 y.env hl (λu q hq=>by rw[Ay];exact k u q (by rw[j];simpa[Op.operands]using hq));exact Abx v j f (Zl1 e.1) (by simpa using e.2) r h0 h2 h3
   ·cases b
  ·cases b
theorem A8w(v:PxOk cx px){len:Nat}{ps:Array (Nat×Operand)}(x:o.op = .buildSlice t len ps)(h:px.tt t = .sl c)(i:Amo px st c len ps.toList=some xs):Eff cx px o st (Ej st) (.sl c xs (.id st.nt)):=by refine⟨⟨rfl,rfl,rfl,rfl,rfl⟩,λs m a as_ w k q r=>?_⟩;obtain⟨e,l,us,d,f⟩:=Ah0 v x h i k r;have b:=Ab7 (t0:=none) r (xs:=xs) (cur:=us.toArray) (cap:=len) d (Fi w _).1 (Fi w _).2 (Cj w _) (by simp;rw[d.1,e]) (by omega) l (λj u y=>by simpa using y);have g:=An4 st st.tk none s q (λt=>by simp);have n:({ st with tk:=st.tk }:St)=st:=rfl;rw[n]at g;have p:st.nt=s.nt:=q.2.2.2.symm;rw[e]at b;rw[<-g]at b;exact .inl ⟨_,_,f,_,b.1,by rw[p];exact b.2⟩
theorem A25(f:Rel cx m a as_ s w)(d:Chg C2 w w')(e:Bf (vx cx m s w) c xs us){cap:Nat}(hle:xs.length<=cap/\cap<=maxLen)(hm:∀(j:Nat) u,us[j]? = some u->w'.cell? ⟨w.heap.size,j,none⟩=some u):Rep (vx cx m s w') (.sl c xs .no) (.slice (some ⟨w.heap.size,0,none⟩) xs.length cap):=by have l:Nx (vx cx m s w) (vx cx m s w'):=⟨d.mono (λ_ _ h=>h.elim),λb i hi=>.inl hi,rfl,λ_ _=>rfl,Zn1 _,Zn1 _,λt _ k=>⟨k,rfl,λg o n=>d.block g (f.own_t k n) (λ_ h=>h)⟩⟩;simp[Rep];exact⟨Ap1 (e.later l) hle hm (λi _=>Avk f (Zn1 _) i),trivial⟩
theorem Hs(w:World)(n o:Nat)(e:TypeId):n<=grownCap w n o e:=by unfold grownCap Question.cut;exact Nat.le_add_right _ _
theorem N5(w:World)(n o:Nat)(e:TypeId)(h:n<=9223372036854775807):grownCap w n o e<=maxLen:=by show n+w.tape w.drawn (.appendCap n o e) % (2 ^ 63-n)<=9223372036854775807;have:w.tape w.drawn (.appendCap n o e) % (2 ^ 63-n)<2 ^ 63-n:=Nat.mod_lt _ (by have:(2:Nat) ^ 63=9223372036854775808:=rfl;omega);have a:(2:Nat) ^ 63=9223372036854775808:=rfl;omega
variable{q:Nat}{x:Operand}
theorem W6(p:PxOk cx px)(r:o.op = .convert q t x){l:Str}(z:ev px st q x=some (.str l))(f:px.tt t = .sl .byte)(hq:px.tt q = .str)(g:∀t x,x∈o.op.operands->evF px s.env t x=evF px (get st.env) t x)(h:Rel cx m a as_ s w):∃v w',(execOp a.eval o).run cx.P w = .ok (.value v) w'/\Rel cx m a as_ s w'/\Rep (vx cx m s w') (.sl .byte l .no) v:=by
 rw[Ay,<-g _ x (by simp[r,Op.operands])]at z;obtain⟨v,_,hv,c⟩:=h.env.ev z;obtain rfl:=Rep.str c;obtain⟨by_,hT,_,h8⟩:=C8 (p.tt t) f;have k:=Sx.tyS_spec (Hk (p.tt q) hq);obtain⟨cap,w',hrun,hch,hsz,hle,hcells⟩:∃cap w',(convert q t (Sx.S l)).run cx.P w = .ok (.slice (some ⟨w.heap.size,0,none⟩) l.length cap) w'/\Chg C2 w w'/\w.heap.size<w'.heap.size/\(l.length<=cap/\cap<=maxLen)/\∀(j:Nat) b,l[j]? = some b->w'.cell? ⟨w.heap.size,j,none⟩=some (.int .u8 (b.toNat:Int)):=by refine⟨_,_,run_bytes_of_string w q t (cx.el .byte) _ k hT.und (Sx.tyI_spec (h8 rfl)),(Chg.drew _ _).trans (Chg.alloc _ _ _),by simp,⟨Hs _ _ _ _,N5 _ _ _ _ (by have:=c.strLen;simp[maxLen]at this;simpa[ByteArray.size]using this)⟩,λj b hb=>?_⟩;have hh:∀o,(w.drew.alloc o).heap[w.heap.size]? = some o:=λo=>Cj w.drew o;simp only[World.cell?,hh];have n:j<l.length:=(Zi2.1 hb).1;simp[bytesRow];rw[Array.getElem?_append_left (by simpa using n)];simp[hb]
 refine⟨.slice (some ⟨w.heap.size,0,none⟩) l.length cap,w',by simp[execOp,r,hv,hrun],h.quiet hch,?_⟩;refine A25 h hch (us:=l.map λb=>.int .u8 (b.toNat:Int)) ⟨by simp[csz],λi y j d hy hd=>?_⟩ hle (λj u e=>?_)
 ·simp[enc]at hd;cases j with|succ j=>simp at hd|zero=>simp at hd;subst hd;refine⟨_,by simpa[csz]using ⟨y,hy,rfl⟩,λa2 _=>.int _ _ (B1r ?_)⟩;have:=y.toNat_lt;omega
 ·rw[List.getElem?_map]at e;cases hb:l[j]? with|none=>simp[hb]at e|some b=>simp[hb]at e;subst e;exact hcells j b hb
theorem Azq(d:PxOk cx px)(e:o.op = .convert q t x){l:Str}(f:ev px st q x=some (.str l))(b:px.tt t = .sl .byte)(g:px.tt q = .str):Eff cx px o st st (.sl .byte l .no):=by refine⟨⟨rfl,rfl,rfl,rfl,rfl⟩,λs m a as_ w c h i=>?_⟩;obtain⟨v,w',j,k,n⟩:=W6 d e f b g c i;rw[J8 h];exact .inl ⟨v,w',j,m,k,n⟩
theorem K5{d:D}(h:toS c d=some ys):∃t,d = .sl c ys t:=by
 unfold toS at h;split at h
 ·split at h
  ·rename_i a xs t hc;subst hc;simp at h;subst h;exact⟨t,rfl⟩
  ·cases h
 ·cases h
variable{ad:Ya1 Addr}{by_:Nat}{sz:Nat}{ty:TypeId}{u:TypeId}
theorem Nb{t:TypeId}(f:Sx.ElTy P t u sz by_){v:Value}{c:Nat}(hv:v = .slice none 0 0\/∃g n cap,v = .slice (some ⟨g,0,none⟩) n cap/\n<=cap):(Builtin.append_ #[t,t] ty #[v,.slice ad 0 c]).run P w = .ok v w:=by
 obtain⟨d,i0,z,a,k,h,i,j,e⟩:=f;rcases hv with rfl|⟨g,n,cap,rfl,b⟩
 ·cases ad<;>simp[ run_underlying d,go_sem,sizeOf,typeInfo,a,loadCells]
 ·cases ad<;>simp[ run_underlying d,go_sem,sizeOf,typeInfo,a,loadCells,loadCellsFrom,b,storeCells]
variable{al:Yb1 Nat}{tk:Tk}
theorem Rf{i0:TypeInfo}{z:Value}(a3:i0.size=csz c)(au:z.cells.size=csz c)(x:Gi st.tk tk=some al)(av:xs.length+ys.length<=9223372036854775807)(hW:Dt s (fs st))(hr:Rel cx m a as_ s w){v:Value}(am:RF (vx cx m s w).S (vx cx m s w).w (.sl c xs .no) v)(aw:TkR (vx cx m s w) c xs v tk)(aa:Bf (vx cx m s w) c ys us){Ap:Value->World->Prop}
  (b2:ys=[]->(v = .slice none 0 0\/∃g n cap,v = .slice (some ⟨g,0,none⟩) n cap/\n<=cap)->Ap v w)
  (an:v = .slice none 0 0->xs=[]->ys≠[]->Ap (.slice (some ⟨w.heap.size,0,none⟩) ys.length (grownCap w ys.length 0 (cx.el c))) (w.drew.alloc (.cells (us.toArray++Builtin.zeroCells z.cells (grownCap w ys.length 0 (cx.el c)-ys.length)) (cx.el c))))
  (ah:∀g cap cur,v = .slice (some ⟨g,0,none⟩) xs.length cap->w.heap[g]? = some (.cells cur (cx.el c) (0,0))->ys≠[]->xs.length+ys.length<=cap->xs.length*csz c+us.length<=cur.size->Ap (.slice (some ⟨g,0,none⟩) (xs.length+ys.length) cap) (w.setRow g (cur.toList.take (xs.length*csz c)++us++cur.toList.drop (xs.length*csz c+us.length)).toArray))
  (ai:∀(g cap:Nat) (vs:Yb1 Value),v = .slice (some ⟨g,0,none⟩) xs.length cap->vs.length=xs.length*csz c->(∀(j:Nat) u,vs[j]? = some u->w.cell? ⟨g,j,none⟩=some u)->ys≠[]->¬xs.length+ys.length<=cap->Ap (.slice (some ⟨w.heap.size,0,none⟩) (xs.length+ys.length) (grownCap w (xs.length+ys.length) cap (cx.el c))) (w.drew.alloc (.cells (vs.toArray++us.toArray++Builtin.zeroCells z.cells (grownCap w (xs.length+ys.length) cap (cx.el c)-(xs.length+ys.length))) (cx.el c)))) :
  ∃v w',Ap v w'/\∃m',Rel cx m' a as_ (E0 (fs (Ej { st with tk:=al })) s) w'/\Rep (vx cx m' (E0 (fs (Ej { st with tk:=al })) s) w') (.sl c (xs++ys) (.id st.nt)) v:=by
 obtain⟨t0,hal',hrow⟩:∃t0:Ya1 Nat,(∀q,q∈al↔(q∈st.tk/\t0≠some q))/\((v = .slice none 0 0/\xs=[])\/∃tt g cap cur,t0=some tt/\s.al tt/\m.tk tt=some (g,xs.length*csz c)/\v = .slice (some ⟨g,0,none⟩) xs.length cap/\w.heap[g]? = some (.cells cur (cx.el c) (0,0))/\cur.size=cap*csz c/\xs.length<=cap/\cap<=maxLen):=by
  unfold Gi at x;split at x
  ·cases x
  ·simp at x;subst x;exact⟨none,λq=>by simp,.inl aw⟩
  ·rename_i tt;split at x
   ·rename_i hc;simp at x;subst x;have b3:tt∈st.tk:=by simpa using hc
    refine⟨some tt,λq=>?_,?_⟩
    ·simp only[List.mem_filter,Bool.not_eq_true',ne_eq,Za1];constructor
     ·rintro⟨y,h2⟩;refine⟨y,λe=>?_⟩;subst e;simp at h2
     ·rintro⟨y,h2⟩;exact⟨y,Gw (Ne.symm h2)⟩
    ·have a7:s.al tt:=by rw[hW.2.2.1];exact b3
     rcases aw.2 a7 with ⟨y,_,h3⟩|⟨g,cap,cur,y,h2,h3⟩
     ·exact .inl ⟨y,h3⟩
     ·exact .inr ⟨tt,g,cap,cur,rfl,a7,h2,y,h3⟩
   ·cases x
  all_goals cases x
 have ae:=An4 st al t0 s hW hal';have ax:st.nt=s.nt:=hW.2.2.2.symm;have hid:(D.sl c (xs++ys) (.id st.nt)) = .sl c (xs++ys) (.id s.nt):=by rw[ax]
 by_cases ag:ys=[]
 ·subst ag;rw[List.append_nil];have a4:=b2 rfl (by
   rcases hrow with ⟨y,_⟩|⟨_,g,cap,_,_,_,_,y,_,_,h2,_⟩
   ·exact .inl y
   ·exact .inr ⟨g,_,cap,y,h2⟩)
  refine⟨v,w,a4,?_⟩;have hid:(D.sl c xs (.id st.nt)) = .sl c xs (.id s.nt):=by rw[ax]
  rw[ae,hid];rcases hrow with ⟨y,h2⟩|⟨tt,g,cap,cur,e1,e2,e3,e4,e5,e6,e7,e8⟩
  ·obtain⟨a2,nx⟩:=hr.right (t0:=t0) (p:=none) (Chg.refl _ _) (λg o h=>by cases h);refine⟨_,a2,?_⟩;simp[Rep];exact⟨nx.rf am,Nat.lt_succ_self _,λ_=>.inl ⟨y,by simp[vx],h2⟩⟩
  ·obtain⟨a2,nx⟩:=hr.right (t0:=t0) (p:=some (g,xs.length*csz c)) (Chg.refl _ _) (λg' o' h=>by simp[Za1,Zp1]at h;obtain⟨rfl,rfl⟩:=h;exact⟨hr.own_t e2 e3,.inr ⟨tt,_,e1,e2,e3,Zn1 _⟩⟩)
   refine⟨_,a2,?_⟩;simp[Rep];exact⟨nx.rf am,Nat.lt_succ_self _,λ_=>.inr ⟨g,cap,cur,e4,by simp[vx],e5,e6,e7,e8⟩⟩
 ·have ba : 0<ys.length:=List.length_pos_iff.2 ag;have b5:us.length=ys.length*i0.size:=by rw[aa.1,a3]
  rcases hrow with ⟨rfl,rfl⟩|⟨tt,g,cap,cur,e1,e2,e3,rfl,e5,e6,e7,e8⟩
  ·have a4:=an rfl rfl ag;have ao:Bf (vx cx m s w) c ([]++ys) us:=by simpa using aa
   have a6:=Ab7 (t0:=t0) hr (cur:=us.toArray++Builtin.zeroCells z.cells (grownCap w ys.length 0 (cx.el c)-ys.length)) (cap:=grownCap w ys.length 0 (cx.el c)) ao ((Chg.drew _ _).trans (Chg.alloc C2 w.drew (.cells (us.toArray++Builtin.zeroCells z.cells (grownCap w ys.length 0 (cx.el c)-ys.length)) (cx.el c)))) (by simp) (Cj w.drew _) (by
    have b6:=Hs w ys.length 0 (cx.el c);simp[Array.size_append,List.size_toArray,aa.1,Builtin.zeroCells,Array.size_map,Array.size_range,au];rw[<-Nat.add_mul];congr 1;omega) (by simpa using Hs w ys.length 0 (cx.el c)) (N5 _ _ _ _ (by simp at av;omega)) (λj u d=>by
    have ab:j<us.length:=(Zi2.1 d).1;rw[Array.getElem?_append_left (by simpa using ab)];simpa using d)
   rw[<-ae]at a6;refine⟨_,_,a4,_,a6.1,?_⟩;rw[hid];simpa using a6.2
  ·obtain⟨a1,b9,vs,ay,a5,l⟩:=F4 am;have l:∀(j:Nat) u,vs[j]? = some u->w.cell? ⟨g,j,none⟩=some u:=by
    by_cases az:xs=[]
    ·subst az;intro j u d;have:vs=[]:=List.eq_nil_of_length_eq_zero (by rw[a5.1];simp);subst this;simp at d
    ·simp at ay;intro j u d;have:=l g 0 ay.1.symm az j u d;rwa[Nat.zero_add]at this
   have bb:vs.length=xs.length*i0.size:=by rw[a5.1,a3]
   by_cases r:xs.length+ys.length<=cap
   ·have ak:xs.length*i0.size+us.length<=cur.size:=by rw[b5,e6,<-Nat.add_mul,a3];exact Nat.mul_le_mul_right _ r
    rw[a3]at ak;have a4:=ah g cap cur rfl e5 ag r ak;have b0:∀(j:Nat) u,(vs++us)[j]? = some u->(cur.toList.take (xs.length*csz c)++us++cur.toList.drop (xs.length*csz c+us.length)).toArray[j]? = some u:=by
     intro j u d;have ap:∀(j:Nat) u,vs[j]? = some u->cur[j]? = some u:=λj u d=>by have:=l j u d;simp[World.cell?,e5]at this;exact this
     have ab:j<(vs++us).length:=(Zi2.1 d).1;have ac:(cur.toList.take (xs.length*csz c)).length=xs.length*csz c:=by simp;omega
     simp only[List.getElem?_toArray];rw[List.getElem?_append_left (by simp[Zh1,ac];simp[Zh1,a5.1]at ab;exact ab)];rw[List.getElem?_append]at d ⊢;rw[ac];rw[a5.1]at d;split
     ·rename_i a8;rw[if_pos a8]at d;rw[List.getElem?_take,if_pos a8];simpa using ap j u d
     ·rename_i a8;rw[if_neg a8]at d;exact d
    have ar:∀j,j<xs.length*csz c->(cur.toList.take (xs.length*csz c)++us++cur.toList.drop (xs.length*csz c+us.length)).toArray[j]? = cur[j]? :=by
     intro j d;have ac:(cur.toList.take (xs.length*csz c)).length=xs.length*csz c:=by simp;omega
     simp only[List.getElem?_toArray];rw[Zj1,List.getElem?_append_left (by rw[ac];exact d),List.getElem?_take,if_pos d];simp
    have aj:(w.setRow g (cur.toList.take (xs.length*csz c)++us++cur.toList.drop (xs.length*csz c+us.length)).toArray).heap[g]? = some (.cells (cur.toList.take (xs.length*csz c)++us++cur.toList.drop (xs.length*csz c+us.length)).toArray (cx.el c) (0,0)):=setRow_heap w g cur _ _ _ e5;have b7:Chg (λb i=>∃t o,t0=some t/\s.al t/\m.tk t=some (b,o)/\o<=i) w (w.setRow g (cur.toList.take (xs.length*csz c)++us++cur.toList.drop (xs.length*csz c+us.length)).toArray):=by
     refine⟨rfl,rfl,rfl,by simp,λk _ hn=>setRow_other w g k _ (λe=>hn (xs.length*csz c) ⟨tt,_,e1,e2,by rw[e];exact e3,Zn1 _⟩),λb i v b1 hn=>?_,λb cs t f hq=>?_⟩
     rotate_left
     ·by_cases hb:b=g
      ·subst hb;rw[e5]at hq;simp[Za1,Obj.cells.injEq]at hq;obtain⟨rfl,rfl,rfl⟩:=hq;exact⟨_,_,aj,by simp;omega⟩
      ·exact⟨cs,f,by rw[setRow_other w g b _ hb];exact hq,rfl⟩
     by_cases hb:b=g
     ·subst hb;have hi:i<xs.length*csz c:=by
       rcases Nat.lt_or_ge i (xs.length*csz c)with h|h
       ·exact h
       ·exact absurd ⟨tt,_,e1,e2,e3,h⟩ hn
      simp only[World.cell?,aj,ar i hi];simpa only[World.cell?,e5]using b1
     ·rw[World.cell?_of_block (a:=⟨b,i,none⟩) (setRow_other w g b _ hb)];exact b1
    obtain⟨a2,nx⟩:=hr.right (t0:=t0) (p:=some (g,(xs++ys).length*csz c)) b7 (λg' o' h=>by simp only[Za1,Zp1]at h;obtain⟨rfl,rfl⟩:=h;refine⟨by simpa using hr.own_t e2 e3,.inr ⟨tt,_,e1,e2,e3,?_⟩⟩;simp;exact Nat.mul_le_mul_right _ (by omega))
    rw[<-ae]at a2;refine⟨_,_,a4,_,a2,?_⟩;rw[hid];simp only[Rep];rw[ae];have a9:(xs++ys).length=xs.length+ys.length:=by simp
    rw[<-a9];refine⟨Ap1 ((a5.append aa).later nx) ⟨by rw[a9];exact r,e8⟩ (λj u d=>?_) (λi hi=>?_),Nat.lt_succ_self _,λ_=>.inr ⟨g,cap,_,rfl,by simp[vx],aj,?_,by rw[a9];exact r,e8⟩⟩
    ·show World.cell? _ _=_;simp only[vx,World.cell?,aj];exact b0 j u d
    ·rintro(hM|hf)
     ·exact hr.disj hM (.inr ⟨tt,_,e2,e3,Zn1 _⟩:D8 m s g (xs.length*csz c))
     ·rcases hf with ⟨q,hq,he⟩|⟨t',o',y,h2,h3⟩
      ·exact hr.injbt q tt g _ hq e2 e3 he
      ·by_cases ht:t' = s.nt
       ·subst ht;simp at h2;rw[a9]at hi;omega
       ·simp[if_neg ht]at h2;rcases y with y|y
        ·exact y.2 (by rw[e1,hr.injt tt t' g _ _ e2 y.1 e3 h2])
        ·exact absurd y ht
    ·have ac:(cur.toList.take (xs.length*csz c)).length=xs.length*csz c:=by simp;omega
     simp[List.size_toArray,ac,Za2];omega
   ·have a6:=Ab7 (t0:=t0) hr (cur:=vs.toArray++us.toArray++Builtin.zeroCells z.cells (grownCap w (xs.length+ys.length) cap (cx.el c)-(xs.length+ys.length))) (cap:=grownCap w (xs.length+ys.length) cap (cx.el c)) (a5.append aa) ((Chg.drew _ _).trans (Chg.alloc C2 w.drew (.cells (vs.toArray++us.toArray++Builtin.zeroCells z.cells (grownCap w (xs.length+ys.length) cap (cx.el c)-(xs.length+ys.length))) (cx.el c)))) (by simp) (Cj w.drew _) (by
     have b6:=Hs w (xs.length+ys.length) cap (cx.el c);simp[Array.size_append,List.size_toArray,aa.1,a5.1,Builtin.zeroCells,Array.size_map,Array.size_range,au];rw[<-Nat.add_mul,<-Nat.add_mul];congr 1;omega) (by simpa using Hs w (xs.length+ys.length) cap (cx.el c)) (N5 _ _ _ _ av) (λj u d=>by
     have ab:j<(vs++us).length:=(Zi2.1 d).1;rw[Array.getElem?_append_left (by simpa using ab)];simpa using d)
    rw[<-ae]at a6;refine⟨_,_,(ai g cap vs rfl a5.1 l ag r),_,a6.1,?_⟩;rw[hid];simpa using a6.2
variable{y:Operand}
theorem Ali(hp:PxOk cx px)(ho:o.op = .call ⟨.builtin .append, #[x,y], #[t,t]⟩)(ap:px.tt t = .sl c){ar:Tk}(hx:ev px st t x=some (.sl c xs tk))(hy:ev px st t y=some (.sl c ys ar))(au:Gi st.tk tk=some al)(p:xs.length+ys.length<=Ah):Eff cx px o st (Ej { st with tk:=al }) (.sl c (xs++ys) (.id st.nt)):=by
 refine⟨⟨rfl,rfl,rfl,rfl,rfl⟩,λs m a as_ w ah hW hr=>?_⟩;rw[Ay,<-ah _ x (by simp[ho,Op.operands,Call.operands])]at hx;rw[Ay,<-ah _ y (by simp[ho,Op.operands,Call.operands])]at hy;obtain⟨v,_,hv,ai⟩:=hr.env.ev hx;obtain⟨v2,_,av,a9⟩:=hr.env.ev hy;simp[Rep]at ai a9;obtain⟨aw,ax⟩:=ai;obtain⟨ad,i,us,rfl,aa,a5⟩:=F4 a9.1;obtain⟨by_,hT,a6,_⟩:=C8 (hp.tt t) ap;have ay:=hT;obtain⟨hu,i0,z,ab,hz,f,aj,az,b5⟩:=hT;have n:(xs.length+ys.length)*by_<=140737488355328:=by
  have ac:xs.length+ys.length<=274877906944:=by unfold Ah at p;exact p
  have h1:(xs.length+ys.length)*by_<=274877906944*512:=Nat.mul_le_mul ac a6;omega
 have ak:xs.length+ys.length<=9223372036854775807:=by unfold Ah at p;omega
 have ae:∀(r:Value) (w':World),(Builtin.append_ #[t,t] o.type #[v,.slice ad ys.length i]).run cx.P w = .ok r w'->(execOp a.eval o).run cx.P w = .ok (.value r) w':=by intro r w' hr;simp[execOp,ho,resolve,invoke,builtin,Sem.run_bind,Sem.run_pure,Zw1,List.map_nil,hv,av,hr]
 have ag:us.length=ys.length*i0.size:=by rw[aa.1,f]
 have am:∀u,u∈us->u.oneCell' = true:=λu hu=>Sx.one_oneCell (aa.one u hu);have q:ys≠[]->∃k o2,ad=some ⟨k,o2,none⟩:=λd=>by
  obtain⟨a',cap',e1,h⟩:=B5 a9.1;simp at e1;rcases h with h|⟨b,o',h,_⟩
  ·exact absurd h d
  ·exact⟨b,o',by rw[e1.1,h]⟩
 have l:∀k o2,ad=some ⟨k,o2,none⟩->ys≠[]->∀(j:Nat) u,us[j]? = some u->w.cell? ((⟨k,o2,none⟩:Addr).add j)=some u:=λk o2 e d j u hj=>by rw[Sx.add_mk];exact a5 k o2 e d j u hj
 refine(λh=>by obtain⟨v,w',h1,h2⟩:=h;exact .inl ⟨v,w',ae _ _ h1,h2⟩) (Rf (Ap:=λr w'=>(Builtin.append_ #[t,t] o.type #[v,.slice ad ys.length i]).run cx.P w = .ok r w') f az au ak hW hr aw ax aa ?_ ?_ ?_ ?_)
 ·intro d a2;subst d;exact Nb (P:=cx.P) (t:=t) (ty:=o.type) (w:=w) ay (v:=v) (ad:=ad) (c:=i) a2
 ·intro b0 b1 d;obtain⟨k,o2,a3⟩:=q d;subst b0 b1 a3;have an : 0<ys.length:=List.length_pos_iff.2 d;exact run_append_nil (P:=cx.P) w t o.type (cx.el c) i0 z hu ab hz ⟨k,o2,none⟩ ys.length i us ag (l k o2 rfl d) an (by simp at ak;omega) (by rw[aj];simp at n;omega)
 ·intro g cap cur a2 e5 d a4 ao;obtain⟨k,o2,a3⟩:=q d;subst a2 a3;have a8:=run_append_room (P:=cx.P) w t o.type (cx.el c) i0 hu ab g xs.length cap cur e5 ⟨k,o2,none⟩ ys.length i us ag (l k o2 rfl d) am a4 (by rw[f];exact ao);rw[f]at a8;exact a8
 ·intro g cap vs a2 b3 a7 d a4;obtain⟨k,o2,a3⟩:=q d;subst a2 a3;have an : 0<ys.length:=List.length_pos_iff.2 d;exact run_append_grow (P:=cx.P) w t o.type (cx.el c) i0 z hu ab hz ⟨g,0,none⟩ xs.length cap vs (by rw[f];exact b3) (λj u hj=>by rw[Sx.add_mk,Nat.zero_add];exact a7 j u hj) ⟨k,o2,none⟩ ys.length i us ag (l k o2 rfl d) (by omega) (by omega) (growslice_fits (by omega) (by rw[aj];exact n))
variable{aw:Tk}
theorem Qp(hp:PxOk cx px)(ho:o.op = .call ⟨.builtin .append, #[x,y], #[t,t]⟩)(av:px.tt t = .sl c)(hx:ev px st t x=some (.sl c xs .f))(hy:ev px st t y=some (.sl c ys aw))(a9:ys≠[])(g:xs.length+ys.length<=Ah):Eff cx px o st (Ej st) (.sl c (xs++ys) (.id st.nt)):=by
 refine⟨⟨rfl,rfl,rfl,rfl,rfl⟩,λs m a as_ w ai hW hr=>?_⟩;rw[Ay,<-ai _ x (by simp[ho,Op.operands,Call.operands])]at hx;rw[Ay,<-ai _ y (by simp[ho,Op.operands,Call.operands])]at hy;obtain⟨v,_,hv,aj⟩:=hr.env.ev hx;obtain⟨v2,_,ax,aa⟩:=hr.env.ev hy;simp[Rep]at aj aa;obtain⟨ab,ak,rfl⟩:=aj;obtain⟨ad,i,us,rfl,k,a4⟩:=F4 aa.1;obtain⟨by_,hT,a5,_⟩:=C8 (hp.tt t) av;obtain⟨hu,i0,z,am,hz,l,an,ao,b1⟩:=hT;have e:(xs.length+ys.length)*by_<=140737488355328:=by
  have ac:xs.length+ys.length<=274877906944:=by unfold Ah at g;exact g
  have h1:(xs.length+ys.length)*by_<=274877906944*512:=Nat.mul_le_mul ac a5;omega
 have ae:xs.length+ys.length<=9223372036854775807:=by unfold Ah at g;omega
 have ap:us.length=ys.length*i0.size:=by rw[k.1,l]
 have ay : 0<ys.length:=List.length_pos_iff.2 a9;obtain⟨b2,o2,had⟩:∃b2 o2,ad=some ⟨b2,o2,none⟩:=by
  obtain⟨a',cap',e1,h⟩:=B5 aa.1;simp at e1;rcases h with h|⟨b,o',h,_⟩
  ·exact absurd h a9
  ·exact⟨b,o',by rw[e1.1,h]⟩
 subst had;have n:∀(j:Nat) u,us[j]? = some u->w.cell? ((⟨b2,o2,none⟩:Addr).add j)=some u:=λj u hj=>by rw[Sx.add_mk];exact a4 b2 o2 rfl a9 j u hj
 have q:∀(r:Value) (w':World),(Builtin.append_ #[t,t] o.type #[.slice ak xs.length xs.length,.slice (some ⟨b2,o2,none⟩) ys.length i]).run cx.P w = .ok r w'->(execOp a.eval o).run cx.P w = .ok (.value r) w':=by intro r w' hr;simp[execOp,ho,resolve,invoke,builtin,Sem.run_bind,Sem.run_pure,Zw1,List.map_nil,hv,ax,hr]
 have a6:=An4 st st.tk none s hW (λt=>by simp);have a6:E0 (fs (Ej st)) s={ s with al:=λt=>(s.al t/\(none:Ya1 Nat)≠some t)\/t=s.nt,nt:=s.nt+1 }:=a6;have ar:st.nt=s.nt:=hW.2.2.2.symm;obtain⟨a1,b3,vs,au,a7,a8⟩:=F4 ab;cases ak with
 |none=>
  have a2:xs=[]:=by
   obtain⟨a',cap',e1,h⟩:=B5 ab;simp at e1;rcases h with h|⟨b,o',h,_⟩
   ·exact h
   ·rw[h]at e1;simp at e1
  subst a2;have a3:=run_append_nil (P:=cx.P) w t o.type (cx.el c) i0 z hu am hz ⟨b2,o2,none⟩ ys.length i us ap n ay (by simp at ae;omega) (by rw[an];simp at e;omega);have ag:Bf (vx cx m s w) c ([]++ys) us:=by simpa using k
  have d:=Ab7 (t0:=none) hr (cur:=us.toArray++Builtin.zeroCells z.cells (grownCap w ys.length 0 (cx.el c)-ys.length)) (cap:=grownCap w ys.length 0 (cx.el c)) ag ((Chg.drew _ _).trans (Chg.alloc C2 w.drew (.cells (us.toArray++Builtin.zeroCells z.cells (grownCap w ys.length 0 (cx.el c)-ys.length)) (cx.el c)))) (by simp) (Cj w.drew _) (by
   have az:=Hs w ys.length 0 (cx.el c);simp[Array.size_append,List.size_toArray,k.1,Builtin.zeroCells,Array.size_map,Array.size_range,ao];rw[<-Nat.add_mul];congr 1;omega) (by simpa using Hs w ys.length 0 (cx.el c)) (N5 _ _ _ _ (by simp at ae;omega)) (λj u hj=>by
   have ah:j<us.length:=(Zi2.1 hj).1;rw[Array.getElem?_append_left (by simpa using ah)];simpa using hj)
  rw[<-a6]at d;exact .inl ⟨_,_,q _ _ a3,_,d.1,by rw[ar];simpa using d.2⟩
 |some p=>
  have b0:∀(j:Nat) u,vs[j]? = some u->w.cell? (p.add j)=some u:=λj u hj=>by
   by_cases a2:xs=[]
   ·subst a2;have:vs=[]:=List.eq_nil_of_length_eq_zero (by rw[a7.1];simp);subst this;simp at hj
   ·obtain⟨a',cap',e1,h⟩:=B5 ab;rcases h with h|⟨b,o',h,_⟩
    ·exact absurd h a2
    ·subst h;simp at e1;obtain⟨rfl,_⟩:=e1;rw[Sx.add_mk];simp at au;exact a8 b o' au.1.symm a2 j u hj
  have a3:=run_append_grow (P:=cx.P) w t o.type (cx.el c) i0 z hu am hz p xs.length xs.length vs (by rw[l];exact a7.1) b0 ⟨b2,o2,none⟩ ys.length i us ap n (by omega) (by omega) (growslice_fits (by omega) (by rw[an];exact e));have d:=Ab7 (t0:=none) hr (cur:=vs.toArray++us.toArray++Builtin.zeroCells z.cells (grownCap w (xs.length+ys.length) xs.length (cx.el c)-(xs.length+ys.length))) (cap:=grownCap w (xs.length+ys.length) xs.length (cx.el c)) (a7.append k) ((Chg.drew _ _).trans (Chg.alloc C2 w.drew (.cells (vs.toArray++us.toArray++Builtin.zeroCells z.cells (grownCap w (xs.length+ys.length) xs.length (cx.el c)-(xs.length+ys.length))) (cx.el c)))) (by simp) (Cj w.drew _) (by
   have az:=Hs w (xs.length+ys.length) xs.length (cx.el c);simp[Array.size_append,List.size_toArray,k.1,a7.1,Builtin.zeroCells,Array.size_map,Array.size_range,ao];rw[<-Nat.add_mul,<-Nat.add_mul];congr 1;omega) (by simpa using Hs w (xs.length+ys.length) xs.length (cx.el c)) (N5 _ _ _ _ ae) (λj u hj=>by
   have ah:j<(vs++us).length:=(Zi2.1 hj).1;rw[Array.getElem?_append_left (by simpa using ah)];simpa using hj)
  rw[<-a6]at d;exact .inl ⟨_,_,q _ _ a3,_,d.1,by rw[ar];simpa using d.2⟩
theorem Aau{t:TypeId}(d:Sx.ElTy P t u sz by_){p:Addr}{n:Nat}{c:Nat}:(Builtin.append_ #[t,t] ty #[.slice (some p) n n,.slice ad 0 c]).run P w = .ok (.slice (some p) n n) w:=by obtain⟨e,i0,z,a,i,f,g,h,b⟩:=d;cases ad<;>simp[ run_underlying e,go_sem,sizeOf,typeInfo,a,loadCells,loadCellsFrom,storeCells]
theorem Nv(hp:PxOk cx px)(q:o.op = .call ⟨.builtin .append, #[x,y], #[t,t]⟩)(r:px.tt t = .sl c){u:Tk}(hx:ev px st t x=some (.sl c xs .f))(hy:ev px st t y=some (.sl c ys u))(z:ys=[]):Eff cx px o st st (.sl c xs .f):=by
 refine⟨⟨rfl,rfl,rfl,rfl,rfl⟩,λs m a as_ w j hW hr=>?_⟩;rw[Ay,<-j _ x (by simp[q,Op.operands,Call.operands])]at hx;rw[Ay,<-j _ y (by simp[q,Op.operands,Call.operands])]at hy;obtain⟨v,_,hv,i⟩:=hr.env.ev hx;obtain⟨v2,_,a2,k⟩:=hr.env.ev hy;have l:=i;simp[Rep]at i k;obtain⟨a3,d,rfl⟩:=i;obtain⟨ad,g,us,rfl,a5,n⟩:=F4 k.1;obtain⟨by_,hT,_,_⟩:=C8 (hp.tt t) r;subst z;have e:(Builtin.append_ #[t,t] o.type #[.slice d xs.length xs.length,.slice ad ([]:Yb1 (El c)).length g]).run cx.P w = .ok (.slice d xs.length xs.length) w:=by
  cases d with
  |none=>
   have a4:xs=[]:=by
    obtain⟨a',cap',e1,h⟩:=B5 a3;simp at e1;rcases h with h|⟨b,o',h,_⟩
    ·exact h
    ·rw[h]at e1;simp at e1
   subst a4;exact Nb hT (.inl rfl)
  |some p=>exact Aau hT
 refine .inl ⟨.slice d xs.length xs.length,w,?_,m,?_,?_⟩
 ·have e:(Builtin.append_ #[t,t] o.type #[.slice d xs.length xs.length,.slice ad 0 g]).run cx.P w = .ok (.slice d xs.length xs.length) w:=by simpa using e
  simp[execOp,q,resolve,invoke,builtin,Sem.run_bind,Sem.run_pure,Zw1,List.map_nil,hv,a2,e]
 ·rw[J8 hW];exact hr
 ·rw[J8 hW];exact l
variable{t':Nat}
theorem S7(hp:PxOk cx px)(ho:o.op = .call ⟨.builtin .append, #[x,y], #[t,t']⟩)(ao:px.tt t = .sl .byte)(ae:px.tt t' = .str){xs:Yb1 UInt8}{l:Str}(hx:ev px st t x=some (.sl .byte xs tk))(hy:ev px st t y=some (.str l))(ap:Gi st.tk tk=some al)(a3:xs.length+l.length<=Ah):Eff cx px o st (Ej { st with tk:=al }) (.sl .byte (xs++l:Yb1 UInt8) (.id st.nt)):=by
 refine⟨⟨rfl,rfl,rfl,rfl,rfl⟩,λs m a as_ w ag hW hr=>?_⟩;rw[Ay,<-ag _ x (by simp[ho,Op.operands,Call.operands])]at hx;rw[Ay,<-ag _ y (by simp[ho,Op.operands,Call.operands])]at hy;obtain⟨v,_,hv,ah⟩:=hr.env.ev hx;obtain⟨v2,_,ar,ai⟩:=hr.env.ev hy;simp[Rep]at ah ai;obtain⟨au,av⟩:=ah;obtain⟨rfl,b3⟩:=ai;obtain⟨by_,hT,a8,h8⟩:=C8 (hp.tt t) ao;have b5:=hT;obtain⟨hu,i0,z,a4,hz,a5,aj,aw,b2⟩:=hT;have k:=Sx.tyS_spec (Hk (hp.tt t') ae);have q:(xs.length+l.length)*by_<=140737488355328:=by
  have aa:xs.length+l.length<=274877906944:=by unfold Ah at a3;exact a3
  have h1:(xs.length+l.length)*by_<=274877906944*512:=Nat.mul_le_mul aa a8;omega
 have ak:xs.length+l.length<=9223372036854775807:=by unfold Ah at a3;omega
 have ab:∀(r:Value) (w':World),(Builtin.append_ #[t,t'] o.type #[v,.string ⟨l.toArray⟩]).run cx.P w = .ok r w'->(execOp a.eval o).run cx.P w = .ok (.value r) w':=by intro r w' hr;simp[execOp,ho,resolve,invoke,builtin,Sem.run_bind,Sem.run_pure,Result.andThen_ok,List.map_toArray,Zw1,List.map_nil,hv,ar,hr]
 have am:i0.size=1:=a5;have f:(⟨l.toArray⟩:ByteArray).size=l.length:=by simp[ByteArray.size]
 have a2:Lib.strCells (⟨l.toArray⟩:ByteArray)=l.map λb=>Value.int .u8 (b.toNat:Int):=by simp[Lib.strCells]
 have ax:Bf (vx cx m s w) .byte (l:Yb1 UInt8) (l.map λb=>Value.int .u8 (b.toNat:Int)):=by
  refine⟨by simp[csz],λi y j d hy hd=>?_⟩;obtain⟨rfl,rfl⟩:j=0/\d = .int .u8 (y.toNat:Int):=by cases j with|zero=>exact⟨rfl,by simpa[enc]using hd.symm⟩|succ j=>simp[enc]at hd
  refine⟨.int .u8 (y.toNat:Int),?_,λw' _=>.int _ _ ?_⟩
  ·have hy:l[i]? = some y:=hy;simp[csz,hy]
  ·have:=y.toNat_lt;simp[Fy,IntKind.min,IntKind.max,IntKind.signed,IntKind.bits];omega
 refine(λh=>by obtain⟨v,w',h1,h2⟩:=h;exact .inl ⟨v,w',ab _ _ h1,h2⟩) (Rf (c:=.byte) (ys:=(l:Yb1 UInt8)) (Ap:=λr w'=>(Builtin.append_ #[t,t'] o.type #[v,.string ⟨l.toArray⟩]).run cx.P w = .ok r w') a5 aw ap ak hW hr au av ax ?_ ?_ ?_ ?_)
 ·intro p a6;have p:l=[]:=p;subst p;rcases a6 with rfl|⟨g,n,cap,rfl,ay⟩
  ·simp[Builtin.append_,run_underlying hu,run_underlying k,sizeOf,typeInfo,a4,Builtin.lenOf,go_sem,ByteArray.size]
  ·simp[Builtin.append_,run_underlying hu,run_underlying k,sizeOf,typeInfo,a4,Builtin.lenOf,go_sem,ByteArray.size,ay,storeCells]
 ·intro az ac p;have ac:xs=[]:=ac;subst az ac;have b0 : 0<l.length:=List.length_pos_iff.2 p;have e:=run_append_nil_string (P:=cx.P) (w:=w) t t' o.type (cx.el .byte) i0 z hu k a4 hz ⟨l.toArray⟩ (by rw[f];exact b0) (by rw[f];simp at ak;omega) (by rw[f,aj];simp at q;omega);rw[f]at e;have e1:((⟨l.toArray⟩:ByteArray).data.map λb=>Value.int .u8 b.toNat)=(l.map λb=>Value.int .u8 (b.toNat:Int)).toArray:=by apply Array.ext';simp
  rw[e1]at e;exact e
 ·intro g cap cur a6 e5 p a7 an;subst a6;have e:=Lib.run_append_room_string (P:=cx.P) (w:=w) t t' o.type (cx.el .byte) i0 hu k a4 am g xs.length cap cur e5 ⟨l.toArray⟩ (by rw[f];exact a7) (by rw[f];simpa[csz]using an);rw[a2,f]at e;simpa[csz]using e
 ·intro g cap vs a6 b1 a9 p a7;subst a6;have e:=Lib.run_append_grow_string (P:=cx.P) (w:=w) t t' o.type (cx.el .byte) i0 z hu k a4 hz ⟨g,0,none⟩ xs.length cap vs (by rw[am];simpa[csz]using b1) (λj u hj=>by rw[Sx.add_mk,Nat.zero_add];exact a9 j u hj) ⟨l.toArray⟩ (by rw[f];omega) (by rw[f];omega) (by rw[f];exact growslice_fits (by have : 0<l.length:=List.length_pos_iff.2 p;omega) (by rw[aj];exact q));rw[a2,f]at e;exact e
variable{α:Type}
theorem Bbb(xs:Yb1 α)(o:Nat):Cr xs o []=xs:=by simp[Cr]
theorem F0(xs:Yb1 α)(o:Nat)(l:Yb1 α)(h:o+l.length<=xs.length):(Cr xs o l).length=xs.length:=by simp[Cr,Za2];omega
theorem Ap6(xs:Yb1 α)(o:Nat)(l:Yb1 α)(h:o+l.length<=xs.length)(q:Nat):(Cr xs o l)[q]? = if o<=q/\q<o+l.length then l[q-o]? else xs[q]? :=by
 have a:(xs.take o).length=o:=by simp;omega
 simp[Cr];by_cases b:q<o
 ·rw[List.getElem?_append_left (by omega),if_neg (by omega),List.getElem?_take,if_pos b]
 ·rw[List.getElem?_append_right (by omega),a];by_cases c:q<o+l.length
  ·rw[List.getElem?_append_left (by omega),if_pos (by omega)]
  ·rw[List.getElem?_append_right (by omega),if_neg (by omega),List.getElem?_drop];congr 1;omega
theorem A7k(hp:PxOk cx px)(ho:o.op = .call ⟨.builtin .copy, #[x,y], #[t,t']⟩){b:Nat}{p n:Int}(b3:px.tt t = .sl c)(hx:ev px st t x=some (.osl b c p n))(hy:ev px st t y=some (.sl c ys tk))(hb:blk st.bl b=some (.dyn c xs))(h1:csz c=1)(be : 0<=p)(_hn0 : 0<=n)(bf:p+n<=(xs.length:Int)):Eff cx px o st { st with bl:=Du st.bl b (.dyn c (Cr xs p.toNat (ys.take n.toNat))) } (.int .i64 ((min n.toNat ys.length:Nat):Int)):=by
 refine⟨⟨rfl,rfl,rfl,rfl,rfl⟩,λs m a as_ w ao hW hr=>?_⟩;rw[Ay,<-ao _ x (by simp[ho,Op.operands,Call.operands])]at hx;rw[Ay,<-ao _ y (by simp[ho,Op.operands,Call.operands])]at hy;obtain⟨v,_,hv,ap⟩:=hr.env.ev hx;obtain⟨v2,_,b5,aa⟩:=hr.env.ev hy;simp[Rep]at ap aa;obtain⟨g1,_,_,g4,ad,cap,rfl,g5,g6,g7,_⟩:=ap;obtain⟨ab,a3,us,rfl,ac,a5⟩:=F4 aa.1;obtain⟨by_,⟨hu,i0,z,b6,hz,ae,bg,bh,bd⟩,b1,_⟩:=C8 (hp.tt t) b3;have ar:(cx.P.info? (cx.el c)).map (·.size)=some 1:=by rw[b6];simp[ae,h1]
 have ag:s.bl b=some (.dyn c xs):=by rw[hW.1];exact hb
 obtain⟨_,b7,vs,ty,hh,a8,ah⟩:=hr.blks b _ ag;have hh:w.heap[m.bl b]? = some (.cells vs.toArray ty (0,0)):=hh;have a4:∀(r:Value) (w':World),(Builtin.copy_ #[t,t'] o.type #[.slice ad n.toNat cap,.slice ab ys.length a3]).run cx.P w = .ok r w'->(execOp a.eval o).run cx.P w = .ok (.value r) w':=by intro r w' hr;simp[execOp,ho,resolve,invoke,builtin,Sem.run_bind,Sem.run_pure,Result.andThen_ok,List.map_toArray,Zw1,List.map_nil,hv,b5,hr]
 have au:us.length=ys.length:=by rw[ac.1,h1,Nat.mul_one]
 have a9:∀(x':Vx),Rep x' (.int .i64 ((min n.toNat ys.length:Nat):Int)) (goInt ((min n.toNat ys.length:Nat):Int)):=λx'=>by simp[Rep];refine⟨rfl,A5k ?_⟩;have hq:min n.toNat ys.length<=n.toNat:=Nat.min_le_left _ _;have hm:maxLen=9223372036854775807:=rfl;simp only[IntKind.min,IntKind.max,IntKind.signed,IntKind.bits];simp[if_true];omega
 by_cases h0:Nat.min ys.length n.toNat=0
 ·have g:=run_copy_none (P:=cx.P) w t t' o.type (cx.el c) ad ab n.toNat cap ys.length a3 hu ar h0;have av:min n.toNat ys.length=0:=by rw[Nat.min_comm];exact h0
  have b9:ys.take n.toNat=[]:=by apply List.eq_nil_of_length_eq_zero;rw[List.length_take];exact av
  refine .inl ⟨_,w,a4 _ _ g,m,?_,?_⟩
  ·rw[Uf st b _ _ s hW hb,b9,Bbb];have:({ s with bl:=λc'=>if c' = b then some (.dyn c xs)else s.bl c' }:FS)=s:=by
    refine FS.eq rfl rfl rfl rfl rfl ?_ rfl rfl rfl;funext c';by_cases hc:c' = b
    ·subst hc;simp[ag]
    ·simp[hc]
   rw[this];exact hr
  ·have:=a9 (vx cx m (E0 (fs { st with bl:=Du st.bl b (.dyn c (Cr xs p.toNat (ys.take n.toNat))) }) s) w);rw[av]at this ⊢;exact this
 ·have a6 : 0<n.toNat/\0<ys.length:=by have : 0<min ys.length n.toNat:=Nat.pos_of_ne_zero h0;omega
  obtain rfl:=g5.resolve_left (by omega);obtain⟨b2,o2,rfl,hcell2⟩:∃b2 o2,ab=some ⟨b2,o2,none⟩/\∀(j:Nat) u,us[j]? = some u->w.cell? ⟨b2,o2+j,none⟩=some u:=by
   obtain⟨a',cap',aw,hf⟩:=B5 aa.1;simp[Value.slice.injEq]at aw;rcases hf with e|⟨b2,o2,e,_⟩
   ·rw[e]at a6;simp at a6
   ·obtain⟨e1,_⟩:=aw;exact⟨b2,o2,e1.trans e,a5 b2 o2 (e1.trans e) (by intro e;rw[e]at a6;simp at a6)⟩
  have a7:(us.take n.toNat).length=Nat.min ys.length n.toNat:=by rw[List.length_take,au,Nat.min_comm]
  have ax:Nat.min ys.length n.toNat=min ys.length n.toNat:=rfl;have ai:p.toNat*csz c=p.toNat:=by rw[h1,Nat.mul_one]
  have a2:p.toNat+(us.take n.toNat).length<=vs.length:=by rw[a7];rw[h1]at a8;omega
  have g:=run_copy_row (P:=cx.P) w t t' o.type (cx.el c) (m.bl b) (p.toNat*csz c) n.toNat cap ⟨b2,o2,none⟩ ys.length a3 vs.toArray ty (us.take n.toNat) hu ar hh a7 (λj u hj=>by
   rw[Sx.add_mk];refine hcell2 j u ?_;rw[List.getElem?_take]at hj;split at hj
   ·exact hj
   ·cases hj) (by rw[ai];simpa using a2) (λu hu=>by
    have:=ac.one u (List.mem_of_mem_take hu);exact this)
  rw[ai]at g;have aj:=setRow_heap w (m.bl b) vs.toArray (vs.toArray.toList.take p.toNat++us.take n.toNat++vs.toArray.toList.drop (p.toNat+(us.take n.toNat).length)).toArray ty (0,0) hh;have ak:(vs.toArray.toList.take p.toNat++us.take n.toNat++vs.toArray.toList.drop (p.toNat+(us.take n.toNat).length))=Cr vs p.toNat (us.take n.toNat):=by simp[Cr,Zj1]
  rw[ak]at g aj;have ba:Chg (λc' _=>c' = m.bl b) w (w.setRow (m.bl b) (Cr vs p.toNat (us.take n.toNat)).toArray):=by
   refine⟨rfl,rfl,rfl,by simp,λk _ hk=>setRow_other w _ k _ (λe=>hk 0 e),λb' i u bb hk=>?_,λb' cs t2 f hq=>?_⟩
   ·rw[World.cell?_of_block (a:=⟨b',i,none⟩) (setRow_other w _ b' _ (λe=>hk e))];exact bb
   ·by_cases ay:b' = m.bl b
    ·subst ay;rw[hh]at hq;simp[Za1,Obj.cells.injEq]at hq;obtain⟨rfl,rfl,rfl⟩:=hq;exact⟨_,_,aj,by simp[F0 _ _ _ a2]⟩
    ·exact⟨cs,f,by rw[setRow_other w _ b' _ ay];exact hq,rfl⟩
  have az:(ys.take n.toNat).length=(us.take n.toNat).length:=by simp[au]
  have h:p.toNat+(ys.take n.toNat).length<=xs.length:=by rw[az,a7];omega
  have b0:=hr.write (k:=.dyn c (Cr xs p.toNat (ys.take n.toNat))) ag ba (λx' nx hw=>by
   refine⟨by rw[F0 _ _ _ h];exact b7,Cr vs p.toNat (us.take n.toNat),ty,by rw[hw];exact aj,by rw[F0 _ _ _ h,F0 _ _ _ a2];exact a8,λq y j d l am=>?_⟩;have hj:j=0:=by
    have:j<csz c:=by rw[<-B8 c y];exact(Zi2.1 am).1
    omega
   subst hj;rw[h1,Nat.mul_one,Nat.add_zero,Ap6 _ _ _ a2];rw[Ap6 _ _ _ h,az]at l;split at l
   ·rename_i an;rw[if_pos an];rw[List.getElem?_take]at l ⊢;split at l
    ·rename_i bc;obtain⟨u,hu,hf⟩:=ac.2 _ y 0 d l am;rw[h1,Nat.mul_one,Nat.add_zero]at hu;exact⟨u,by rw[if_pos bc];exact hu,nx.rf hf⟩
    ·cases l
   ·rename_i an;rw[if_neg an];obtain⟨u,hu,hf⟩:=ah q y 0 d l am;rw[h1,Nat.mul_one,Nat.add_zero]at hu;exact⟨u,hu,nx.rf hf⟩)
  refine .inl ⟨_,_,a4 _ _ (by rw[ai];exact g),m,by rw[Uf st b _ _ s hW hb];exact b0,?_⟩;rw[a7,ax,Nat.min_comm ys.length n.toNat];exact a9 _
end
theorem N9{A B:Array Obj}(h:∀k:Nat,A[k]? = B[k]?):({ w with heap:=A }:World)={ w with heap:=B }:=by rw[Array.ext_getElem? h]
theorem A3b{b:Nat}{cs:Array Value}{t:TypeId}{a:Nat×Nat}(h:w.heap[b]? = some (.cells cs t a)):w.setRow b cs=w:=by
 refine N9 (w:=w) (B:=w.heap) λk=>?_
 grind
theorem Aru(w:World)(b:Nat)(A B:Array Value):(w.setRow b A).setRow b B=w.setRow b B:=by
 refine N9 (w:=w) λk=>?_;simp[World.setRow,Array.getElem?_modify]
 grind
theorem A14(w:World){b c:Nat}(h:b≠c)(A B:Array Value):(w.setRow b A).setRow c B=(w.setRow c B).setRow b A:=by
 refine N9 (w:=w) λk=>?_;simp[World.setRow,Array.getElem?_modify]
 grind
theorem Acl(w:World)(A B:Array Value)(t:TypeId):(w.alloc (.cells A t)).setRow w.heap.size B=w.alloc (.cells B t):=by
 refine N9 (w:=w) λk=>?_;simp only[World.alloc,Array.getElem?_modify,Array.getElem?_push]
 grind
theorem Apf{b off:Nat}{v:Value}{A:Array Value}:(w.setCell ⟨b,off,none⟩ v).setRow b A=w.setRow b A:=by
 refine N9 (w:=w) λk=>?_;simp[World.setCell,Array.getElem?_modify]
 grind
theorem Dx{t:TypeId}{a:Nat×Nat}:∀(vs cs:Yb1 Value) (w:World) (b off:Nat),w.heap[b]? = some (.cells cs.toArray t a)->Sx.setCells w b off vs=w.setRow b (Sx.writeAt cs off vs).toArray
 |[],cs,w,b,off,h=>(A3b h).symm
 |v::vs,cs,w,b,off,h=>by simp[Sx.setCells];rw[Dx vs (cs.set off v) (w.setCell ⟨b,off,none⟩ v) b (off+1) (Sx.setCell_heap h)];exact Apf
theorem Lr:∀(us a pre post:Yb1 Value),us.length=a.length->Sx.writeAt (pre++a++post) pre.length us=pre++us++post
 |[],a,pre,post,h=>by have:a=[]:=List.length_eq_zero_iff.1 h.symm;subst this;rfl
 |u::us,[],pre,post,h=>by simp at h
 |u::us,u0::a,pre,post,h=>by
  simp[Zf1]at h;have b:=Lr us a (pre++[u]) post h;simp only[Sx.writeAt]
  grind
theorem Asm(w:World)(A:Array Value)(t:TypeId):(w.drew.alloc (.cells A t)).heap[w.heap.size]? = some (.cells A t (0,0)):=Cj w.drew _
section
variable {R:Type}{px:Px R}{cx:Cx}
variable{al:Yb1 Nat}{as_:Yb1 Act}{aw:Tk}{c:Ck}{m:Mp}{st:St}{tk:Tk}{us:Yb1 Value}{xs:Yb1 (El c)}
theorem Bkf(hp:PxOk cx px){t:TypeId}(av:px.tt t = .sl c){f e:El c}(p:Gi st.tk tk=some al)(a4:xs.length+1<=Ah)(hW:Dt s (fs st))(hr:Rel cx m a as_ s w){v vz:Value}
  (hx:Rep (vx cx m s w) (.sl c xs tk) v) (hz:Rep (vx cx m s w) (.sl c [f] aw) vz) (ah:ElR (vx cx m s w) c e us) (ty:TypeId) :
  ∃(v7:Value) (wA:World) (g cap:Nat) (cs:Yb1 Value) (t0:TypeId),(Builtin.append_ #[t,t] ty #[v,vz]).run cx.P w = .ok v7 wA/\v7 = .slice (some ⟨g,0,none⟩) (xs.length+1) cap/\wA.heap[g]? = some (.cells cs.toArray t0 (0,0))/\xs.length*csz c+csz c<=cs.length/\(∀b,s.bl b≠none->m.bl b≠g)/\(∀k,k<w.heap.size->k≠g->wA.heap[k]? = w.heap[k]?) /\
   ∃m',Rel cx m' a as_ (E0 (fs (Ej { st with tk:=al })) s) (Sx.setCells wA g (xs.length*csz c) us)/\Rep (vx cx m' (E0 (fs (Ej { st with tk:=al })) s) (Sx.setCells wA g (xs.length*csz c) us)) (.sl c (xs++[e]) (.id st.nt)) v7:=by
 simp[Rep]at hx hz;obtain⟨ax,a8⟩:=hx;obtain⟨ad,r,d,rfl,a5,a9⟩:=F4 hz.1;obtain⟨by_,hT,aa,_⟩:=C8 (hp.tt t) av;obtain⟨hu,i0,z,ac,ai,i,aj,ay,b5⟩:=hT;have x:(xs.length+1)*by_<=140737488355328:=by
  have ae:xs.length+1<=274877906944:=by unfold Ah at a4;exact a4
  have h1:(xs.length+1)*by_<=274877906944*512:=Nat.mul_le_mul ae aa;omega
 have ak:xs.length+[e].length<=9223372036854775807:=by unfold Ah at a4;simp[ Zi1];omega
 have am:Bf (vx cx m s w) c [e] us:=by simpa using Bf.cons ah (Bf.nil (vx cx m s w) c)
 have az:us.length=csz c:=ah.1;have an:d.length=csz c:=by have:=a5.1;simpa using this
 have a6:us.length=d.length:=by rw[az,an]
 have a7:d.length=[f].length*i0.size:=by rw[a5.1,i]
 have ao:∀u,u∈d->u.oneCell' = true:=λu hu=>Sx.one_oneCell (a5.one u hu);obtain⟨b2,o2,had⟩:∃b2 o2,ad=some ⟨b2,o2,none⟩:=by
  obtain⟨a',cap',e1,h⟩:=B5 hz.1;simp at e1;rcases h with h|⟨b,o',h,_⟩
  ·cases h
  ·grind
 subst had;have q:∀(j:Nat) u,d[j]? = some u->w.cell? ((⟨b2,o2,none⟩:Addr).add j)=some u:=λj u hj=>by rw[Sx.add_mk];exact a9 b2 o2 rfl (by simp) j u hj
 have y:∀b,s.bl b≠none->m.bl b≠w.heap.size:=λb hb h=>by have:=hr.own_b hb;omega
 have a2:∀(o:Obj) (k:Nat),k<w.heap.size->k≠w.heap.size->(w.drew.alloc o).heap[k]? = w.heap[k]? :=λo k hk _=>by have h1:k<w.drew.heap.size:=hk;exact Below.heap_alloc _ _ _ h1
 refine(λh=>by obtain⟨v7,w2,⟨wA,g,cap,cs,t0,h1,h2,h3,h4,h5,h6,rfl⟩,m',h7,h8⟩:=h;exact⟨v7,wA,g,cap,cs,t0,h1,h2,h3,h4,h5,h6,m',h7,h8⟩) (Rf (Ap:=λv7 w2=>∃(wA:World) (g cap:Nat) (cs:Yb1 Value) (t0:TypeId),(Builtin.append_ #[t,t] ty #[v,.slice (some ⟨b2,o2,none⟩) [f].length r]).run cx.P w = .ok v7 wA/\v7 = .slice (some ⟨g,0,none⟩) (xs.length+1) cap/\wA.heap[g]? = some (.cells cs.toArray t0 (0,0))/\xs.length*csz c+csz c<=cs.length/\(∀b,s.bl b≠none->m.bl b≠g)/\(∀k,k<w.heap.size->k≠g->wA.heap[k]? = w.heap[k]?)/\w2=Sx.setCells wA g (xs.length*csz c) us)
  i ay p ak hW hr ax a8 am ?_ ?_ ?_ ?_)
 ·grind
 ·intro b0 b1 _;subst b0 b1;have l:=run_append_nil (P:=cx.P) w t ty (cx.el c) i0 z hu ac ai ⟨b2,o2,none⟩ [f].length r d a7 q (by simp) (by simp) (by rw[aj];simp at x ⊢;omega);have hh:=Asm w (d.toArray++Builtin.zeroCells z.cells (grownCap w [f].length 0 (cx.el c) - [f].length)) (cx.el c);have e0:d.toArray++Builtin.zeroCells z.cells (grownCap w [f].length 0 (cx.el c) - [f].length)=(d++(Builtin.zeroCells z.cells (grownCap w [f].length 0 (cx.el c) - [f].length)).toList).toArray:=by apply Array.ext';simp
  rw[e0]at hh;refine⟨_,w.heap.size,_,_,_,l,rfl,by rw[e0];exact hh,by simp[ Zi1];omega,y,a2 _,?_⟩;rw[e0,Dx us _ _ _ _ hh];have e1:=Lr us d [] (Builtin.zeroCells z.cells (grownCap w [f].length 0 (cx.el c) - [f].length)).toList a6;simp only[Zf2,Zi1,Nat.zero_mul]at e1 ⊢;rw[e1];have e2:=Acl w.drew (d++(Builtin.zeroCells z.cells (grownCap w [f].length 0 (cx.el c) - [f].length)).toList).toArray (us++(Builtin.zeroCells z.cells (grownCap w [f].length 0 (cx.el c) - [f].length)).toList).toArray (cx.el c);have e3:w.drew.heap.size=w.heap.size:=rfl;rw[e3]at e2;rw[e2];congr 2;apply Array.ext';simp
 ·intro g cap cur ag e5 _ n ap;subst ag;have l:=run_append_room (P:=cx.P) w t ty (cx.el c) i0 hu ac g xs.length cap cur e5 ⟨b2,o2,none⟩ [f].length r d a7 q ao (by simpa using n) (by rw[i,<-a6];exact ap);rw[i]at l;have ar:(cur.toList.take (xs.length*csz c)).length=xs.length*csz c:=by simp;omega
  have hh:=setRow_heap w g cur (cur.toList.take (xs.length*csz c)++d++cur.toList.drop (xs.length*csz c+d.length)).toArray (cx.el c) (0,0) e5;refine⟨_,g,cap,_,_,l,rfl,hh,?_,λb hb=>?_,λk _ hk=>setRow_other w g k _ hk,?_⟩
  ·simp[ ar];omega
  ·unfold Gi at p;split at p
   ·cases p
   ·simp only[TkR]at a8;exact absurd a8.1 (by simp)
   ·rename_i tt;split at p
    ·rename_i hc;have b3:tt∈st.tk:=by simpa using hc
     have a3:s.al tt:=by rw[hW.2.2.1];exact b3
     rcases a8.2 a3 with ⟨h1,_,_⟩|⟨g',cap',b6,h1,h2,_⟩
     ·cases h1
     ·simp[ Addr.mk.injEq]at h1;obtain⟨⟨rfl,_⟩,_⟩:=h1;exact hr.injbt b tt _ _ hb a3 h2
    ·cases p
   all_goals cases p
  ·rw[Dx us _ _ _ _ hh,Aru];have e1:=Lr us d (cur.toList.take (xs.length*csz c)) (cur.toList.drop (xs.length*csz c+d.length)) a6;rw[ar]at e1;rw[e1,a6]
 ·intro g cap vs ag au ab _ n;subst ag;have l:=run_append_grow (P:=cx.P) w t ty (cx.el c) i0 z hu ac ai ⟨g,0,none⟩ xs.length cap vs (by rw[i];exact au) (λj u hj=>by rw[Sx.add_mk,Nat.zero_add];exact ab j u hj) ⟨b2,o2,none⟩ [f].length r d a7 q (by simp at n ⊢;omega) (by simp at ak ⊢;omega) (growslice_fits (by simp at n ⊢;omega) (by rw[aj];simpa using x));have hh:=Asm w (vs.toArray++d.toArray++Builtin.zeroCells z.cells (grownCap w (xs.length+[f].length) cap (cx.el c)-(xs.length+[f].length))) (cx.el c);have e0:vs.toArray++d.toArray++Builtin.zeroCells z.cells (grownCap w (xs.length+[f].length) cap (cx.el c)-(xs.length+[f].length))=(vs++d++(Builtin.zeroCells z.cells (grownCap w (xs.length+[f].length) cap (cx.el c)-(xs.length+[f].length))).toList).toArray:=by apply Array.ext';simp
  rw[e0]at hh;refine⟨_,w.heap.size,_,_,_,l,rfl,by rw[e0];exact hh,by simp;omega,y,a2 _,?_⟩;rw[e0,Dx us _ _ _ _ hh,<-au];rw[(Lr us d vs (Builtin.zeroCells z.cells (grownCap w (xs.length+[f].length) cap (cx.el c)-(xs.length+[f].length))).toList a6)];have e2:=Acl w.drew (vs++d++(Builtin.zeroCells z.cells (grownCap w (xs.length+[f].length) cap (cx.el c)-(xs.length+[f].length))).toList).toArray (vs++us++(Builtin.zeroCells z.cells (grownCap w (xs.length+[f].length) cap (cx.el c)-(xs.length+[f].length))).toList).toArray (cx.el c);have e3:w.drew.heap.size=w.heap.size:=rfl;rw[e3]at e2;rw[e2];congr 2;apply Array.ext';simp
end
section
variable {R:Type}{px:Px R}{cx:Cx}
variable{st:St}{st':St}
theorem Mz(h:Ae7 st st'):E0 (fs st') (fs st)=fs st':=by
 obtain⟨b,c,d,e,a⟩:=h;simp only[Zp1]at a;refine FS.eq ?_ ?_ ?_ ?_ ?_ rfl rfl rfl rfl a.2.symm
 ·exact b.symm
 ·simp[E0,fs,c]
 ·exact d.symm
 ·exact e.symm
 ·exact a.1.symm
structure SEff (cx:Cx) (o:Oper) (st st':St) (d:D):Prop where
 same:Ae7 st st'
 run:∀(m:Mp) (a:Act) (as_:List Act) (w:World),Rel cx m a as_ (fs st) w->Yv cx.P a w o λv w'=>∃m',Rel cx m' a as_ (fs st') w'/\Rep (vx cx m' (fs st') w') d v
theorem Eff.seq{d:D}(h:Eff cx px o st st' d):SEff cx o st st' d:=⟨h.same,λm a as_ w b=>by have:=h.run (fs st) m a as_ w (λ_ _ _=>rfl) ⟨rfl,rfl,rfl,rfl⟩ b;rwa[Mz h.same]at this⟩
def I5(cx:Cx)(g:Nat)(args:Yb1 D)(st:St)(K:Yb1 D->St->Ya1 R)(r:R):Prop:=Sx.Enters cx.P g/\∀(m:Mp) (a:Act) (as_:Yb1 Act) (w:World) (vs:Yb1 Value),Rel cx m a as_ (fs st) w->Reps (vx cx m (fs st) w) args vs->Calls cx.P g vs.toArray w λen w'=>∃v,en = .returned v/\∃rs st' m',K rs st' = some r/\Ae7 st st'/\Rel cx m' a as_ (fs st') w'/\Rep (vx cx m' (fs st') w') (Hh rs) v
def C6(cx:Cx)(px:Px R):Prop:=∀(g:Nat) (args:Yb1 D) (st:St) (K:Yb1 D->St->Ya1 R) (r:R),px.call g args st K=some r->I5 cx g args st K r
def F1(cx:Cx)(g:Nat)(F:Yb1 D->St->(D->Yb1 Nat->St->Ya1 R)->Ya1 R):Prop:=∀(args:Yb1 D) (st:St) (K:D->Yb1 Nat->St->Ya1 R) (r:R),F args st K=some r->∃d ws st',K d ws st' = some r/\Ae7 st st'/\st.nb<=st'.nb/\(∀b,b∉ws->F3 (fs st) (fs st') b)/\Sx.Enters cx.P g /\ ∀(s:FS) (m:Mp) (a:Act) (as_:Yb1 Act) (w:World) (vs:Yb1 Value),Dt s (fs st)->Rel cx m a as_ s w->Reps (vx cx m s w) args vs->Calls cx.P g vs.toArray w λen w'=>∃v,en = .returned v/\∃m',Rel cx m' a as_ (E0 (fs st') s) w'/\Rep (vx cx m' (E0 (fs st') s) w') d v
structure CallQOk (cx:Cx) (px:Px R):Prop where
 q:∀(g:Nat) (args:List D) (K:List D->Option R) (r:R),px.callQ g args K=some r->∃rs,K rs=some r/\Sx.Enters cx.P g/\∀(s:FS) (m:Mp) (a:Act) (as_:List Act) (w:World) (vs:List Value),Rel cx m a as_ s w->Reps (vx cx m s w) args vs->Calls cx.P g vs.toArray w λen w'=>∃v,en = .returned v/\Rel cx m a as_ s w'/\Rep (vx cx m s w') (Hh (rs.map A7)) v
 w:∀g F,px.callW g=some F->F1 cx g F
def opB(o:Oper):Bool:=match o.op with|.call ⟨.builtin .len,_,⟨[_]⟩⟩=>true|.call ⟨.builtin .len,_,_⟩=>false|.select _ _=>false|_=>true
theorem Axn(h:opB o=true):∀b xs a,o.op = .call ⟨.builtin b,xs,a⟩->b = .len->a = #[a.toList.headD 0]:=by intro b xs a c hb;subst hb;unfold opB at h;rw[c]at h;obtain⟨l⟩:=a;match l with|[]=>simp at h|[t]=>rfl|_::_::_=>simp at h
variable{f:Operand}{g:Nat}{vs:Yb1 Value}
theorem Asy{xs:Array Operand}{c:Array TypeId}{b:Yb1 Value}(d:o.op = .call ⟨.value f,xs,c⟩)(e:a.eval f = .func (.func g) #[] b.toArray)(h:xs.toList.map a.eval=vs)(i:Sx.Enters P g):(execOp a.eval o).run P w = .ok (.enter g (vs++b).toArray) w:=by
 have j:xs.map a.eval=vs.toArray:=by apply Array.ext';simpa using h
 simp[execOp,d,resolve,e,Deferred.ofValue,j,invoke];simpa using (i (vs++b).toArray w)
theorem A2u{xs:Array Operand}{c:Array TypeId}{b:Yb1 Value}(d:o.op = .call ⟨.value f,xs,c⟩)(e:a.eval f = .func (.func g) b.toArray #[])(h:xs.toList.map a.eval=vs)(i:Sx.Enters P g):(execOp a.eval o).run P w = .ok (.enter g (b++vs).toArray) w:=by
 have j:xs.map a.eval=vs.toArray:=by apply Array.ext';simpa using h
 simp[execOp,d,resolve,e,Deferred.ofValue,j,invoke];simpa using (i (b++vs).toArray w)
variable{r:R}
theorem Bvl(hp:PxOk cx px)(hc:C6 cx px)(hb:opB o=true){K:D->St->Ya1 R}(h:step px o st K=some r):∀(m:Mp) (a:Act) (as_:Yb1 Act) (w:World),Rel cx m a as_ (fs st) w->Yv cx.P a w o λv w'=>∃d st' m',K d st' = some r/\Ae7 st st'/\Rel cx m' a as_ (fs st') w'/\Rep (vx cx m' (fs st') w') d v:=by
 have fin:(∃d st',K d st' = some r/\SEff cx o st st' d)->∀(m:Mp) (a:Act) (as_:Yb1 Act) (w:World),Rel cx m a as_ (fs st) w->Yv cx.P a w o λv w'=>∃d st' m',K d st' = some r/\Ae7 st st'/\Rel cx m' a as_ (fs st') w'/\Rep (vx cx m' (fs st') w') d v:=by
  rintro⟨d,st',h1,h2⟩ m a as_ w hr;rcases h2.run m a as_ w hr with ⟨v,w',h3,m',h4,h5⟩|⟨f,args,w1,h3,h4⟩
  ·exact .inl ⟨v,w',h3,d,st',m',h1,h2.same,h4,h5⟩
  ·refine .inr ⟨f,args,w1,h3,h4.mono ?_⟩;rintro en w' ⟨v,e,m',h5,h6⟩;exact⟨v,e,d,st',m',h1,h2.same,h5,h6⟩
 have quiet:∀{K:D->St->Ya1 R},(W5 px o st λd=>K d st)=some r->∃d st',K d st' = some r/\SEff cx o st st' d:=λh=>by obtain⟨d,hk,hq⟩:=Afh hp (Axn hb) h;exact⟨d,st,hk,(Bjg hq).seq⟩
 unfold step at h;split at h
 ·rename_i t j;split at h
  ·rename_i n c i;exact fin ⟨_,_,h,(Vb hp j (.inl ⟨n,c,i,rfl⟩)).seq⟩
  ·rename_i ak;split at h
   ·rename_i z hz;refine fin ⟨_,_,h,(Vb hp j (.inr ⟨z,λe=>?_,hz,rfl⟩)).seq⟩;rw[e]at hz;cases hz
   ·cases h
 ·rename_i t x y j;split at h
  ·rename_i c k n k' q i hx hy;obtain⟨hc,hk⟩:=A2 h;simp at hc;have hu:=S0 hc.1;exact fin ⟨_,_,hk,(A3j hp j i hx hy ⟨hu.2.1,hu.2.2⟩ hc.2).seq⟩
  ·cases h
 ·rename_i t x j;split at h
  ·rename_i d hd;split at h
   ·rename_i hl;exact fin ⟨_,_,h,(Bfs j hd hl).seq⟩
   ·cases h
  ·cases h
 ·rename_i t len ps j;split at h
  ·rename_i c i;split at h
   ·rename_i xs ah;exact fin ⟨_,_,h,(A8w hp j i ah).seq⟩
   ·cases h
  ·cases h
 ·rename_i q t x j;split at h
  ·rename_i l hx i;split at h
   ·rename_i hs;obtain⟨_,hk⟩:=A2 h;exact fin ⟨_,_,hk,(Azq hp j hx i (Gx hs)).seq⟩
   ·cases h
  ·exact fin (quiet h)
 ·rename_i x y t t' j;split at h
  ·rename_i c s d i hx hy a8;have a8:=Zl1 a8;subst a8;unfold A0n at h;split at h
   ·rename_i c' xs;split at h
    ·rename_i a2;subst a2;split at h
     ·cases h
     ·rename_i ys a3;obtain⟨ac,rfl⟩:=K5 a3;by_cases a9:ys=[]
      ·rw[show ys.isEmpty=true by rw[a9];rfl,cond_true]at h;exact fin ⟨_,_,h,(Nv hp j i hx hy a9).seq⟩
      ·rw[show ys.isEmpty=false by cases ys with|nil=>exact absurd rfl a9|cons _ _=>rfl,cond_false]at h;obtain⟨hl,hk⟩:=A2 h;exact fin ⟨_,_,hk,(Qp hp j i hx hy a9 (by simpa using hl)).seq⟩
    ·cases h
   ·rename_i _ am;unfold T3 at h;split at h
    ·split at h
     ·rename_i c' xs tk a2;subst a2;split at h
      ·cases h
      ·rename_i al aa;split at h
       ·cases h
       ·rename_i ys a3;obtain⟨hl,hk⟩:=A2 h;obtain⟨ac,rfl⟩:=K5 a3;exact fin ⟨_,_,hk,(Ali hp j i hx hy aa (by simpa using hl)).seq⟩
     ·cases h
    ·cases h
  ·rename_i s l i hx hy a8;split at h
   ·rename_i ae;unfold T3 at h;split at h
    ·split at h
     ·rename_i c' xs tk a2;subst a2;split at h
      ·cases h
      ·rename_i al aa;split at h
       ·cases h
       ·rename_i ys a3;obtain⟨hl,hk⟩:=A2 h;simp[toS]at a3;subst a3;exact fin ⟨_,_,hk,(S7 hp j i (Gx ae) hx hy aa (by simpa using hl)).seq⟩
     ·cases h
    ·cases h
   ·cases h
  ·cases h
 ·rename_i x y t t' j;split at h
  ·rename_i c s d i hx hy;unfold Brq at h;split at h
   ·rename_i b c1 p n;split at h
    ·rename_i c2 xs ai;split at h
     ·rename_i ys a3 a2;simp only[Zb1,Zg1]at a2;obtain⟨⟨e1,e2⟩,_⟩:=id a2;subst e1;subst e2;obtain⟨hc,hk⟩:=A2 h;simp at hc;obtain⟨ac,rfl⟩:=K5 a3;exact fin ⟨_,_,hk,(A7k hp j i hx hy ai (Zl1 a2.2) hc.1.1 hc.1.2 hc.2).seq⟩
     ·cases h
    ·cases h
   ·cases h
  ·cases h
 ·rename_i f xs ts j;split at h
  ·rename_i g caps hf;split at h
   ·rename_i ds ab;obtain⟨a5,a6⟩:=hc g (ds++caps) st _ r h;intro m a as_ w hr;have a7:=hf;rw[Ay]at a7;obtain⟨fv,_,h2,h3⟩:=hr.env.ev (env:=get st.env) a7;simp[Rep]at h3;obtain⟨aj,rfl,a4⟩:=h3;obtain⟨vs,_,h5,h6⟩:=Jx hr.env (env:=get st.env) ab (λu q _=>by rw[Ay]);refine .inr ⟨g,_,w,Asy j h2 h5 a5,(a6 m a as_ w _ hr (h6.append a4)).mono ?_⟩;rintro en w' ⟨v,e,rs,st',m',k1,k2,k3,k4⟩;exact⟨v,e,_,st',m',k1,k2,k3,k4⟩
   ·cases h
  ·rename_i g ag hf;split at h
   ·rename_i ds ab;obtain⟨a5,a6⟩:=hc g (ag++ds) st _ r h;intro m a as_ w hr;have a7:=hf;rw[Ay]at a7;obtain⟨fv,_,h2,h3⟩:=hr.env.ev (env:=get st.env) a7;simp[Rep]at h3;obtain⟨aj,rfl,a4⟩:=h3;obtain⟨vs,_,h5,h6⟩:=Jx hr.env (env:=get st.env) ab (λu q _=>by rw[Ay]);refine .inr ⟨g,_,w,A2u j h2 h5 a5,(a6 m a as_ w _ hr (a4.append h6)).mono ?_⟩;rintro en w' ⟨v,e,rs,st',m',k1,k2,k3,k4⟩;exact⟨v,e,_,st',m',k1,k2,k3,k4⟩
   ·cases h
  ·cases h
 ·exact fin (quiet h)
theorem J0{all:Array Oper}{x:Vx}{n:Nat}{df:Yb1 D}{env:Nat->Ya1 D}(e:EnvR x n df env a):(o.guard=none->Region.wanted o (yielded all a.tmps)=true)/\∀j b g,o.guard=some (j,b)->(all[j]?).bind (·.dst)=some g->(∀q,env g=some (.bool q)->Region.wanted o (yielded all a.tmps)=(q == b))/\(env g=some .undef->Region.wanted o (yielded all a.tmps)=false):=by
 refine⟨λh=>by simp[Region.wanted,h],λj b g f i=>⟨λq d=>?_,λd=>?_⟩⟩
 ·obtain⟨v,hv,c⟩:=e.get g _ d;obtain rfl:=Rep.bool c;simp only[Region.wanted,f,yielded,i,Zc1,hv];cases q<;>cases b<;>rfl
 ·obtain⟨v,hv,c⟩:=e.get g _ d;simp[Rep]at c;subst c;simp only[Region.wanted,f,yielded,i,Zc1,hv];cases b<;>rfl
theorem Jm{d:D}(h:get st.env g=some d):fs (st.put g d)=fs st:=by
 rw[Ky];refine FS.eq rfl ?_ rfl rfl rfl rfl rfl rfl rfl;funext j;simp[FS.put,fs];by_cases a:j=g
 ·subst a;simp[h]
 ·simp[a]
theorem B09(hp:PxOk cx px)(hc:C6 cx px)(hb:opB o=true){K:St->Ya1 R}(h:one px o st K=some r):∀(m:Mp) (a:Act) (as_:Yb1 Act) (w:World),Rel cx m a as_ (fs st) w->Aom cx.P a w o λa' w'=>∃m' st',K st' = some r/\(st'.n=st.n/\st'.fr=st.fr)/\Rel cx m' a' as_ (fs st') w':=by
 unfold one at h;split at h
 ·rename_i d hd;split at h
  ·rename_i k;have k:d<st.n:=by simpa using k
   intro m a as_ w e;cases j:Buo px o st with
   |some p=>
    obtain⟨b,ds⟩:=p;rw[j]at h;unfold Buo at j;split at j
    ·rename_i f xs ts ho;split at j
     ·rename_i b' hf;split at j
      ·rename_i a4 a2;simp only[Za1,Zp1]at j;obtain⟨rfl,rfl⟩:=j;obtain⟨v,hv,i⟩:=e.env.get f _ hf;simp only[Rep]at i;obtain⟨vs,_,h5,h6⟩:=Jx e.env (env:=get st.env) a2 (λu q _=>by rw[Ay]);obtain⟨fn,tmps,asg,body,g1,g2⟩:=hp.yl _ _ _ _ _ h m a as_ w vs e h6;refine .inr (.inr ⟨m.bl b',fn,tmps,asg,body,w,?_,g2.mono ?_⟩)
       ·have a3:a.eval (.tmp f) = .func (.yield (m.bl b')) #[] #[]:=by rw[show a.eval (.tmp f)=v by simp[Act.eval,hv],i.2];rfl
        have l:xs.map a.eval=vs.toArray:=by apply Array.ext';simpa using h5
        simp[execOp,ho,resolve,a3,Deferred.ofValue,l,invoke];exact g1
       ·rintro en w' ⟨u,rfl,dv,st',m',x,c,y,l⟩;refine⟨u,rfl,m',_,x,⟨c.1,congrArg Prod.fst c.2.2.2.2⟩,?_⟩;rw[Ky,hd];refine y.put ?_ l;show d<st'.n;rw[c.1];exact k
      ·cases j
     ·cases j
    ·cases j
   |none=>
   rw[j]at h;refine .inl ((Bvl hp hc hb h m a as_ w e).runs λu w' ⟨v,st',m',x,c,y,l⟩=>⟨m',_,x,⟨c.1,congrArg Prod.fst c.2.2.2.2⟩,?_⟩);rw[Ky,hd];refine y.put ?_ l;show d<st'.n;rw[c.1];exact k
  ·cases h
 ·rename_i hd;unfold Bgz at h;split at h
  ·rename_i f ts ho;split at h
   ·rename_i g caps s;intro m a as_ w e;rw[Ay]at s;obtain⟨v,_,hv,i⟩:=e.env.ev (env:=get st.env) s;simp only[Rep]at i;obtain⟨z,rfl,t⟩:=i;refine .inr (.inl ⟨{ target:=.fn (.func g) z.toArray,args:= #[] },w,?_,m,_,h,⟨rfl,rfl⟩,?_⟩)
    ·simp[execOp,ho,resolve,hv,Deferred.ofValue]
    ·rw[hd];exact⟨e.chg,⟨⟨_,_,rfl,⟨z,rfl,t⟩,e.env.defers⟩,e.env.size,e.env.get⟩,e.frs,e.lb,e.lt,e.blks,e.als,e.inj,e.injt,e.injbt,e.own,e.away,e.glb⟩
   ·cases h
  obtain⟨st',x,s⟩:=Avj (cx:=cx) hp h;intro m a as_ w e;obtain⟨w',m',y,l⟩:=s.run (fs st) m a as_ w (λ_ _ _=>rfl) ⟨rfl,rfl,rfl,rfl⟩ e;rw[Mz s.same]at l;refine .inl (.inr (.inl ⟨w',y,m',st',x,⟨s.same.1,congrArg Prod.fst s.same.2.2.2.2⟩,?_⟩));rw[hd];exact l
variable{as_:Yb1 Act}{m:Mp}
theorem Byn(hd:∀d,o.dst=some d->d<st.n)(c:Rel cx m a as_ (fs st) w):Rel cx m (a.put o.dst undef) as_ (fs (off o st)) w:=by unfold off;cases b:o.dst with|none=>exact c|some d=>rw[Ky];exact c.put (hd d b) (by simp[Rep];rfl)
def Aq7(n:Nat)(o:Oper):Bool:=match o.dst with|some d=>Nat.blt d n|none=>true
variable{x:Operand}
theorem Bhf{d:Nat}(h:Nj x d=true):x ≠ .tmp d:=by rintro rfl;simp[Nj]at h
theorem Dm{d:Nat}{v:Value}(h:Nj x d=true):(a.put (some d) v).eval x=a.eval x:=Act.eval_put λb hd=>by simp at hd;subst hd;exact Bhf h
theorem G8{d:Nat}{v:Value}(h:d<a.tmps.size):(a.put (some d) v).eval (.tmp d)=v:=by simp[Act.put,Act.eval,h]
structure Fuse (cx:Cx) (o o2 o3:Oper) (st st2:St) (m:Mp) (a:Act) (as_:List Act) (w:World) where
 d:Nat
 d2:Nat
 t2:TypeId
 i:Operand
 u:TypeId
 y:Operand
 v7:Value
 vp:Value
 wA:World
 g:Nat
 off:Nat
 cs:List Value
 t0:TypeId
 us:List Value
 dst:o.dst=some d
 dst2:o2.dst=some d2
 dst3:o3.dst=none
 gd:o.guard=none
 gd2:o2.guard=none
 gd3:o3.guard=none
 op2:o2.op = .indexAddr t2 (.tmp d) i
 op3:o3.op = .store u (.tmp d2) y
 ne:d≠d2
 lt:d<st.n
 lt2:d2<st.n
 nei:Nj i d=true
 ney:Nj y d=true
 ney2:Nj y d2=true
 run:(execOp a.eval o).run cx.P w = .ok (.value v7) wA
 run2:∀(a':Act) (w':World),a'.eval (.tmp d)=v7->a'.eval i=a.eval i->(execOp a'.eval o2).run cx.P w' = .ok (.value vp) w'
 run3:∀(a':Act) (w':World) (cs':List Value),a'.eval (.tmp d2)=vp->a'.eval y=a.eval y->w'.heap[g]? = some (.cells cs'.toArray t0 (0,0))->cs'.length=cs.length->(execOp a'.eval o3).run cx.P w' = .ok .skip (Sx.setCells w' g off us)
 row:wA.heap[g]? = some (.cells cs.toArray t0 (0,0))
 far:∀b,blk st.bl b≠none->m.bl b≠g
 rest:∀k,k<w.heap.size->k≠g->wA.heap[k]? = w.heap[k]?
 one:Sx.one v7=true
 n:st2.n=st.n/\st2.fr=st.fr
 env7:∃c xs t,get st2.env d=some (.sl c xs t)
 envk:∀k,k≠d->k≠d2->get st2.env k=get st.env k
 bl:st2.bl=st.bl
 m':Mp
 rel:Rel cx m' ((a.put (some d) v7).put (some d2) vp) as_ (fs st2) (Sx.setCells wA g off us)
variable{o2:Oper}{o3:Oper}{st2:St}
theorem A3e(hp:PxOk cx px)(h:Amc px o o2 o3 st=some (true,st2))(hr:Rel cx m a as_ (fs st) w):Nonempty (Fuse cx o o2 o3 st st2 m a as_ w):=by
 unfold Amc at h;split at h
 ·rename_i x z t t' ho;split at h
  ·rename_i t2 aa i a2;split at h
   ·rename_i u b y a3;split at h
    ·rename_i d d2 hd a8 a9;split at h
     ·rename_i hc;simp only[Zb1,Option.isNone_iff_eq_none,Bool.not_eq_true',Nat.blt_eq]at hc;obtain⟨⟨⟨⟨⟨⟨⟨⟨⟨⟨⟨⟨g1,g2⟩,g3⟩,c1⟩,c2⟩,c3⟩,c4⟩,c5⟩,c6⟩,c7⟩,c8⟩,c9⟩,ab⟩:=hc;obtain rfl:=Zl1 c1;obtain rfl:=Zl1 c2;obtain rfl:=Zl1 c3;obtain rfl:=Zl1 c4;have a4:aa≠b:=Nat.ne_of_beq_eq_false c5;split at h
      ·rename_i c j xs tk zs k n dy a5 hx hz hi hy;split at h
       ·rename_i z0 e al ac he ae l;split at h
        ·rename_i ag;subst ag;simp at h;obtain⟨⟨a6,hn⟩,rfl⟩:=h;obtain⟨ax,rfl⟩:=K5 ac;rw[Ay]at hx hz hi hy;obtain⟨v,_,hv,ah⟩:=hr.env.ev (env:=get st.env) hx;obtain⟨vz,_,ai,aj⟩:=hr.env.ev (env:=get st.env) hz;obtain⟨vi,_,ak,am⟩:=hr.env.ev (env:=get st.env) hi;obtain⟨vy,_,an,ao⟩:=hr.env.ev (env:=get st.env) hy;obtain rfl:=Rep.int am;obtain⟨f,_,_⟩:=O1 he ao;obtain⟨v7,wA,g,cap,cs,t0,r1,r2,r3,r4,r5,r6,m',r7,r8⟩:=Bkf (st:=st) hp a5 ae a6 (s:=fs st) ⟨rfl,rfl,rfl,rfl⟩ hr ah aj f o.type;have p:(execOp a.eval o).run cx.P w = .ok (.value v7) wA:=by simp[execOp,ho,resolve,invoke,builtin,hv,ai,r1]
         obtain⟨by_,hT,_,_⟩:=C8 (hp.tt t2) a5;have ay:=hT;obtain⟨hu,i0,zz,ap,az,q,_,_,aw⟩:=hT;simp only[Zb1]at l;have ar:Sx.tySz cx.P u=some vy.cells.size:=by rw[((D5 (hp.tt u) (E9 l.2).1).2.2),(Zl1 l.1),<-f.1];simp
         have au:Sx.tySz cx.P (cx.el j)=some (csz j):=by unfold Sx.tySz;simp[ap,q]
         refine⟨⟨aa,b,t2,i,u,y,v7,.pointer (some ⟨g,xs.length*csz j,none⟩),wA,g,xs.length*csz j,cs,t0,vy.cells.toList,hd,a8,a9,g1,g2,g3,a2,a3,a4,c6,c7,c8,c9,ab,p,λa' w' r e2=>?_,λa' w' cs' r e2 e3 e4=>?_,r3,r5,r6,by rw[r2];rfl,⟨rfl,rfl⟩,⟨j,xs++[e],.id st.nt,?_⟩,λk r e2=>?_,rfl,m',?_⟩⟩
         ·have e5:a'.eval i = .int k n:=e2.trans ak;subst hn;rw[r2]at r;have av:(0:Int)<=(xs.length:Int)/\(xs.length:Int)<((xs.length+1:Nat):Int):=by omega
          simp[execOp,a2,Instr.indexAt,r,e5,asIntOf,run_underlying hu,if_pos av,Sx.run_sizeOf au,Sx.add_mk]
         ·have e5:a'.eval y=vy:=e2.trans an;have a7:xs.length*csz j+0+vy.cells.toList.length<=cs'.length:=by rw[f.1];omega
          obtain⟨q1,_,_⟩:=Sx.run_storeCells (P:=cx.P) vy.cells.toList w' g (xs.length*csz j) 0 cs' t0 e3 a7 f.one;simp[execOp,a3,Instr.storeAt,r,e5,Instr.sureAddr,storeVar,Sx.run_sizeOf ar,ne_eq,if_false];rw[q1];simp
         ·simp[St.put,Bl,if_neg a4,if_true]
         ·simp[St.put,Bl,if_neg r,if_neg e2];rfl
         ·have e9:E0 (fs (Ej { st with tk:=al })) (fs st)=fs (Ej { st with tk:=al }):=Mz ⟨rfl,rfl,rfl,rfl,rfl⟩;rw[e9]at r7 r8;rw[Ky,Ky];refine(r7.put (k:=aa) c6 r8).put c7 ?_;simp[Rep]
        ·cases h
       ·cases h
      ·cases h
     ·cases h
    ·cases h
   ·cases h
  ·cases h
 ·cases h
theorem Azp(hp:PxOk cx px)(hc:C6 cx px){all:Array Oper}{l:Yb1 Oper}{K':St->Ya1 R}(hb:opB o=true)(u:Ais ro o=true)(i:Aq7 st.n o=true)(h:opG px all o st K' = some r)(v:Rel cx m a as_ (fs st) w)
  (k:∀st' m' a' w',K' st' = some r->(st'.n=st.n/\st'.fr=st.fr)->Rel cx m' a' as_ (fs st') w'->wpListIn (FW ro) 0 cx.P all Q l a' w'):wpListIn (FW ro) 0 cx.P all Q (o::l) a w:=by
 have p:∀d,o.dst=some d->d<st.n:=λd hd=>by simpa[Aq7,hd]using i
 have run:∀{st1:St},fs st1=fs st->(st1.n=st.n/\st1.fr=st.fr)->Region.wanted o (yielded all a.tmps)=true->one px o st1 K' = some r->wpListIn (FW ro) 0 cx.P all Q (o::l) a w:=by intro st1 x f c y;have z:=B09 hp hc hb y m a as_ w (by rw[x];exact v);simp only[wpListIn,c,if_true];refine Aom.wp u (z.mono λa' w' ⟨m',st',hk,s,h3⟩=>?_);exact k st' m' a' w' hk ⟨s.1.trans f.1,s.2.trans f.2⟩ h3
 have skip:∀{st1:St},fs st1=fs st->(st1.n=st.n/\st1.fr=st.fr)->Region.wanted o (yielded all a.tmps)=false->K' (off o st1)=some r->wpListIn (FW ro) 0 cx.P all Q (o::l) a w:=by
  intro st1 x f c y;have a2:(off o st1).n=st.n:=by rw[<-f.1];unfold off;split<;>rfl
  have a3:(off o st1).fr=st.fr:=by rw[<-f.2];unfold off;split<;>rfl
  have t:=Byn (o:=o) (st:=st1) (λd hd=>by rw[f.1];exact p d hd) (by rw[x];exact v);simp only[wpListIn,c];exact⟨λ_ _=>trivial,k _ m _ w y ⟨a2,a3⟩ t⟩
 obtain⟨g1,g2⟩:=J0 (all:=all) (o:=o) v.env;simp[opG]at h;split at h
 ·rename_i hg;exact run rfl ⟨rfl,rfl⟩ (g1 hg) h
 ·rename_i j b hg;split at h
  ·cases h
  ·rename_i g hj;obtain⟨g3,g4⟩:=g2 j b g hg hj;split at h
   ·rename_i q e;have c:=g3 q e;cases q with
    |true=>simp at h;cases b with|true=>exact run (Jm e) ⟨rfl,rfl⟩ c h|false=>exact skip (Jm e) ⟨rfl,rfl⟩ c h
    |false=>simp at h;cases b with|true=>exact skip (Jm e) ⟨rfl,rfl⟩ c h|false=>exact run (Jm e) ⟨rfl,rfl⟩ c h
   ·rename_i e;exact skip rfl ⟨rfl,rfl⟩ (g4 e) h
   ·cases h
theorem Dy{all:Array Oper}(h:o.guard=none)(a:Act):Region.wanted o (yielded all a.tmps)=true:=by simp[Region.wanted,h]
theorem Bt8{all:Array Oper}{l:Yb1 Oper}(h:Rel cx m a as_ (fs st) w)(f:Fuse cx o o2 o3 st st2 m a as_ w)(c:wpListIn (FW ro) 0 cx.P all Q l ((a.put (some f.d) f.v7).put (some f.d2) f.vp) (Sx.setCells f.wA f.g f.off f.us)):wpListIn (FW ro) 0 cx.P all Q (o::o2::o3::l) a w:=by
 have b:a.tmps.size=st.n:=h.env.size;have hd:f.d<a.tmps.size:=by rw[b];exact f.lt
 have e:f.d2<(a.put (some f.d) f.v7).tmps.size:=by simp[Act.put,b];exact f.lt2
 have j:(a.put (some f.d) f.v7).eval (.tmp f.d)=f.v7:=G8 hd;have e2:(a.put (some f.d) f.v7).eval f.i=a.eval f.i:=Dm f.nei;have k:((a.put (some f.d) f.v7).put (some f.d2) f.vp).eval (.tmp f.d2)=f.vp:=G8 e;have p:((a.put (some f.d) f.v7).put (some f.d2) f.vp).eval f.y=a.eval f.y:=(Dm f.ney2).trans (Dm f.ney);simp only[wpListIn,Dy f.gd,if_true];refine Abw.wp (.inl ⟨f.v7,f.wA,f.run,?_⟩);rw[f.dst];simp only[Dy f.gd2,if_true];refine Abw.wp (.inl ⟨f.vp,f.wA,f.run2 _ _ j e2,?_⟩);rw[f.dst2];simp only[Dy f.gd3,if_true];refine Abw.wp (.inr (.inl ⟨_,f.run3 _ _ _ k p f.row rfl,?_⟩));rw[f.dst3];exact c
theorem Va{ro:Ya1 Nat}(g:PxOk cx px)(hc:C6 cx px){all:Array Oper}:∀{l:Yb1 Oper}{st:St}{K:St->Ya1 R}{r:R},(l.all λo=>opB o&&Aq7 st.n o)=true->(l.all λo=>Ais ro o)=true->ops px all l st K=some r ->
  ∀{Q:Exit->Act->World->Prop}{m:Mp}{a:Act}{as_:Yb1 Act}{w:World},Rel cx m a as_ (fs st) w->(∀st' m' a' w',K st' = some r->(st'.n=st.n/\st'.fr=st.fr)->Rel cx m' a' as_ (fs st') w'->Q .normal a' w')->wpListIn (FW ro) 0 cx.P all Q l a w
 |[],st,K,r,_,_,h,Q,m,a,as_,w,hr,hQ=>hQ st m a w h ⟨rfl,rfl⟩ hr
 |[o],st,K,r,hl,hcl,h,Q,m,a,as_,w,hr,hQ=>by simp only[Zv1,Zb1]at hl hcl;exact Azp g hc hl.1.1 hcl.1 hl.1.2 h hr λst' m' a' w' k b q=>hQ st' m' a' w' k b q
 |[o,o2],st,K,r,hl,hcl,h,Q,m,a,as_,w,hr,hQ=>by simp only[Zv1,Zb1]at hl hcl;refine Azp g hc hl.1.1 hcl.1 hl.1.2 (show opG px all o st (λst'=>ops px all [o2] st' K)=some r from h) hr λst' m' a' w' k b q=>?_;exact Va g hc (by rw[b.1];simp only[Zv1,Zb1];exact hl.2) (by simp only[Zv1,Zb1];exact hcl.2) k q (λst2 u v w2 q1 d s=>hQ st2 u v w2 q1 ⟨d.1.trans b.1,d.2.trans b.2⟩ s)
 |o::o2::o3::l,st,K,r,hl,hcl,h,Q,m,a,as_,w,hr,hQ=>by
  rw[Zv1,Zb1]at hl hcl;obtain⟨i,j⟩:=hl;simp at i;simp[ops]at h;split at h
  ·rename_i p x;obtain⟨c,st2⟩:=p;obtain⟨t,z⟩:=A2 h;simp only at t z;subst t;obtain⟨f⟩:=A3e g x hr;refine Bt8 hr f ?_;simp only[Zv1,Zb1]at j;have e:=hcl.2;simp only[Zv1,Zb1]at e;exact Va g hc (by rw[f.n.1];exact j.2.2) e.2.2 z f.rel (λy m3 a3 w3 q1 d s=>hQ y m3 a3 w3 q1 ⟨d.1.trans f.n.1,d.2.trans f.n.2⟩ s)
  ·refine Azp g hc i.1 hcl.1 i.2 h hr λst' m' a' w' k b q=>?_;exact Va g hc (by rw[b.1];exact j) hcl.2 k q (λst2 u v w2 q1 d s=>hQ st2 u v w2 q1 ⟨d.1.trans b.1,d.2.trans b.2⟩ s)
end
end Go.Ax
