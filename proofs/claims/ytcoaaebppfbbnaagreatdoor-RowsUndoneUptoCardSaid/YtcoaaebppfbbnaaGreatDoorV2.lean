/- Texts of the proof,one behind the other: AxI,AxJ,AxK,AxL,SxK,AxM,AxN,AxO,AxP,AxPf. -/
import Derived.Test.YtcoaaebppfbbnaaGreatDoorV1
import Derived.OrdersIn
import Derived.TacticsIn
import Derived.Laws.MakeOwn
import Derived.Lib.AppendStr
import Derived.Laws.CopyRow
import Derived.Laws.IdiomCopy
set_option linter.all false
open List renaming length->I,replicate->eK,range->dy,getElem?_take->fQ,mem_cons->ek
open Option renaming some->J,none->ah
open Bool renaming true->ae,false->ai
open Decidable renaming decide->aa
open Go.Sem renaming run_bind->dG,run_pure->eW
open Nat renaming beq->bV,blt->ec,le_trans->e2,zero_le->cp
open Go.Region renaming ready->hM
open Go.Result renaming andThen_ok->fg
open Go.Fence renaming wide->gK
open Go renaming Value->aA,run_underlying->eX,IntKind->b',Operand->ct,Builtin->fP,Oper->bw,World->aK,TypeId->bD,maxLen->c5,Program->cx,execOp->cl
open Go.Builtin renaming zeroCells->gf
namespace Go
theorem ev{p:Prop}(h:p:=by simp[bK,Op.operands]):p:=h
theorem rD{p:Prop}(h:p:=by simp[bK,Op.operands,Call.operands]):p:=h
theorem n2{p:Prop}(h:p:=by simpa using a):p:=h
theorem aes{p:Prop}(h:p:=by apply Array.ext';rw[Array.toList_map];exact aod (by rw[h0,h3.len]) h2):p:=h
theorem EQ{p:Prop}(h:p:=by rw[<-ij c y];exact(hG.1 ao).1):p:=h
theorem AT{p:Prop}(h:p:=by apply Array.ext';simp):p:=h
theorem xc{p:Prop}(h:p:=by rw[eS.1];exact aj):p:=h
theorem xe{p:Prop}(h:p:=by simpa using an):p:=h
theorem aez{p:Prop}(h:p:=by rcases an with an|rfl<;>simp at * <;> omega):p:=h
theorem Gi{p:Prop}(h:p:=by rw[aw.I_]):p:=h
theorem Gj{p:Prop}(h:p:=by rw[<-bn.bM];exact am):p:=h
theorem AV{p:Prop}(h:p:=by simp[Rg,bK,aW]):p:=h
theorem aeB{p:Prop}(h:p:=by simpa using rJ w (I ys) 0 (ab.el c)):p:=h
theorem tJ{p:Prop}(h:p:=by rw[b];rfl):p:=h
theorem Gv{p:Prop}(h:p:=by simp[ap,dH,cI]):p:=h
theorem GA{p:Prop}(h:p:=by simpa using e):p:=h
theorem PN{p:Prop}(h:p:=by simpa[ c]using h1):p:=h
end Go
namespace Go
theorem oK{p:Prop}(h:p:=by simpa using this):p:=h
theorem sI{p:Prop}(h:p:=by exact hH.2 ag):p:=h
theorem Dq{p:Prop}(h:p:=by simp[cl,bK,Instr.storeAt,h2,h5,vx,Instr.sureAddr,storeVar,dG,eW,fg,aw.run_sizeOf bL,ne_eq,not_true_eq_false,if_false];rw[j6];simp):p:=h
theorem _r{p:Prop}(h:p:=by simp[cl,bK,h2,h5,dG,vx,Tq hu ac aj,fg,eW]):p:=h
theorem _s{p:Prop}(h:p:=by exact FS.eq rfl c rfl rfl rfl (by simp[ed,a]) (by simp[ed,a]) (by simp[ed,a]) (by simp[ed,a])):p:=h
theorem _v{p:Prop}(h:p:=by have:=m N listed b s c j l;obtain⟨_,o,d,_⟩:=mem_ready.1 l;have t:=(gG.1 d).1;omega):p:=h
theorem _w{p:Prop}(h:p:=by have e_:w.drew.heap.size=w.heap.size:=rfl;rw[e_]at aS;rw[aS];congr 2;apply Array.ext';simp):p:=h
theorem _D{p:Prop}(h:p:=by have:(q+1)*aL dd<=i.toNat*aL dd:=Nat.mul_le_mul_right _ dF;rw[Nat.succ_mul]at this;omega):p:=h
theorem _H{p:Prop}(h:p:=by rw[cR,<-aW _ x d_]at ao;obtain⟨v1,h1,_,h3⟩:=ay.env.aF ao;rw[bK];exact bW (bn.aO t) (rI cG) h3 h1 (xL ay.env dE λu y bN=>by rw[cR];exact aW u y (d' y bN)) (xL ay.env dL λu y bN=>by rw[cR];exact aW u y (ef y bN))):p:=h
theorem _I{p:Prop}(h:p:=by exact .inl ⟨_,_,q _ _ aZ,_,d.1,by rw[ea];simpa using d.2⟩):p:=h
theorem adS{p:Prop}(h:p:=by subst cA;rw[if_neg ag,if_pos ag];simp[show q<I cs by omega]):p:=h
theorem adV{p:Prop}(h:p:=by simp[Instr.sliceBounds,Instr.sliceBound,asIntOf,if_pos h]):p:=h
theorem ad0{p:Prop}(h:p:=by simp at ao;subst ao;obtain rfl:=aB.int ay;exact⟨y,_,rfl,rfl,bN⟩):p:=h
theorem ad4{p:Prop}(h:p:=by rw[cR,<-aW _ x ev]at he;obtain⟨v,_,h2,h3⟩:=ay.env.aF he;exact⟨v,run s m a w h2 h3 (.inl (by simp[aB]at h3;exact⟨_,h3.2.1⟩)),h3⟩):p:=h
theorem ad7{p:Prop}(h:p:=by rw[if_pos bW,if_pos ag,show q-o=(q-(o+1))+1 by omega];simp):p:=h
theorem aeb{p:Prop}(h:p:=by rw[if_pos ag,show i.toNat*aL dd+j-i.toNat*aL dd=j by omega];exact hu):p:=h
end Go
namespace Go.dS
open Go.RowKit
section
variable {P:cx}{el:b1->bD}{aO:Nat->ds}{e:aw.Env}{t:Nat}{x y:ct}{vx:cM}
variable{k:b'}
theorem av8{a b:Int}{d:Array bD}(f:aw.Env.aF e x=J (.int k a))(g:aw.Env.aF e y=J (.int k b)):aw.Pure P e (.call ⟨.builtin .min, #[x,y],d⟩) (.int k (min2 a b)):=λn bC w o c h=>by simp[cl,h,c.aF f,c.aF g,resolve,invoke,builtin,fP.min_,fP.min2,min2]
theorem avM{a b:Int}{d:Array bD}(f:aw.Env.aF e x=J (.int k a))(g:aw.Env.aF e y=J (.int k b)):aw.Pure P e (.call ⟨.builtin .max, #[x,y],d⟩) (.int k (max2 a b)):=λn bC w o c h=>by simp[cl,h,c.aF f,c.aF g,resolve,invoke,builtin,fP.max_,fP.max2,max2]
variable{c:b1}{w:aK}{xs:U (cL c)}
theorem lV{S:g7}{v:aA}(h:eI S w (.sl c xs .no) v):∃a cap,v = .slice a (I xs) cap/\(xs=[]\/∃b o,a=J ⟨b,o,ah⟩/\(I xs<=cap/\cap<=c5)/\∀i y,xs[i]? = J y->∀w',bF S w w'->lq w' c y b (o+i*aL c)):=by
 obtain⟨a,cap,rfl,h0⟩:=h.here.slice;refine⟨a,cap,rfl,?_⟩;rcases h0 with h0|⟨b,o,rfl,hle,_⟩
 .exact .inl h0
 .refine .inr ⟨b,o,rfl,hle,λi y e w' f=>?_⟩;obtain⟨bC,f',d,h1⟩:=(h w' f).slice;simp at d;obtain⟨aS,_,g⟩:=d;rcases h1 with rfl|⟨bQ,o',j,_,h2⟩
  .simp at e
  .grind
variable{a:af Addr}
theorem ue{S:g7}{cap n:Nat}(d:n=I xs)(h:xs=[]\/∃b o,a=J ⟨b,o,ah⟩/\(I xs<=cap/\cap<=c5)/\∀i y,xs[i]? = J y->∀w',bF S w w'->lq w' c y b (o+i*aL c)):eI S w (.sl c xs .no) (.slice a n cap):=λw' e=>by subst d;refine .ax5 rfl (h.imp id ?_);rintro⟨b,o,h1,h2,h3⟩;exact⟨b,o,h1,h2,λi y f=>h3 i y f w' e⟩
variable{i:Int}{a9:hY}
theorem ama{v:aA}(m:eL P el aO t=ae)(f:aO t = .sl c)(aE:aB vx (.sl c xs a9) v)(n:aw.Env.aF e x=J v)(p:aw.Env.aF e y=J (.int k i))(hi:aU i (I xs)=ae):∃u,aw.Pure P e (.indexAddr t x y) u/\aB vx (.lb c (at' c xs i) 0) u:=by
 simp[aU]at hi;simp[aB]at aE;obtain⟨a,cap,rfl,h⟩:=lV aE.1;obtain⟨by_,q,_,_⟩:=jC m f;rcases h with rfl|⟨b,o,rfl,hle,g⟩
 .simp at hi;omega
 .obtain⟨r,i0,z,j,w,l,_⟩:=q;have d:(aw.nI P t == J (aL c))=true:=by simp[aw.nI,r,aw.ft,j,l]
  refine⟨_,aw.afO d n p hi,?_⟩;simp only[aB];exact⟨b,o+i.toNat*aL c,rfl,λw' s=>g _ _ (yf hi) w' s⟩
variable{o:Nat}{bP:Nat}{u:bD}
theorem Tq{n:Nat}{b:Nat}(c:P.underlying t=J (.array n u))(a:aw.ft P u=J bP)(hi : 0<=i/\i<(n:Int)):(Instr.indexAt t (.pointer (J ⟨b,o,ah⟩)) (.int k i)).run P w = .ok (.pointer (J ⟨b,o+i.toNat*bP,ah⟩)) w:=by simp[Instr.indexAt,asIntOf,Instr.sureAddr,eX c,if_pos hi,aw.run_sizeOf a,aw.hI]
variable{h:Nat}
theorem TR{n cap:Nat}{lo hi:af aA}{l:Nat}(d:P.underlying t=J (.slice u))(b:aw.ft P u=J bP)(aj:(Instr.sliceBounds ae n cap lo hi ah).run P w = .ok (l,h,cap) w)(ay0:c=c) :
  (Instr.sliceAt t (.slice a n cap) lo hi ah).run P w = .ok (.slice (if cap=l then a else a.map (·.add (l*bP))) (h-l) (cap-l)) w:=by
 simp[Instr.sliceAt,Instr.slice,eX d,aj,aw.run_sizeOf b]
theorem aha{S:g7}{cap l:Nat}(d:xs=[]\/∃b o,a=J ⟨b,o,ah⟩/\(I xs<=cap/\cap<=c5)/\∀i y,xs[i]? = J y->∀w',bF S w w'->lq w' c y b (o+i*aL c))(h1:l<=h)(h2:h<=I xs):eI S w (.sl c ((xs.drop l).take (h-l)) .no) (.slice (if cap=l then a else a.map (·.add (l*aL c))) (h-l) (cap-l)):=by
 refine ue dh ?_;by_cases h0:(xs.drop l).take (h-l)=[]
 .exact .inl h0
 .right;have f:l<h:=by
   rcases Nat.lt_or_ge l h with e|e
   .exact e
   .simp_all
  rcases d with rfl|⟨b,o,rfl,hle,g⟩
  .simp at h2;omega
  .refine⟨b,o+l*aL c,?_,by simp;omega,λi y j w' k=>?_⟩
   .rw[if_neg ag];simp[aw.hI]
   .grind
variable{j:Int}
theorem Se{n cap:Nat}{a b:b'}(h : 0<=i/\i<=j/\j<=(cap:Int)):(Instr.sliceBounds ae n cap (J (.int a i)) (J (.int b j)) ah).run P w = .ok (i.toNat,j.toNat,cap) w:=by
 have h1 : 0<=j/\j<=(cap:Int):=ag
 have h2 : 0<=i/\i<=(j.toNat:Int):=ag
 simp only[Instr.sliceBounds,Instr.sliceBound,asIntOf,dG,eW,fg,if_pos h1,if_pos h2]
theorem Zu{n cap:Nat}{a:b'}(h : 0<=i/\i<=(n:Int)):(Instr.sliceBounds ae n cap (J (.int a i)) ah ah).run P w = .ok (i.toNat,n,cap) w:=adV
theorem adt{n cap:Nat}{a:b'}(h : 0<=j/\j<=(cap:Int)):(Instr.sliceBounds ae n cap ah (J (.int a j)) ah).run P w = .ok (0,j.toNat,cap) w:=adV
theorem St{n cap:Nat}:(Instr.sliceBounds ae n cap ah ah ah).run P w = .ok (0,n,cap) w:=by simp[Instr.sliceBounds]
theorem aoi{n:Nat}:(Instr.sliceBounds ai n n ah ah ah).run P w = .ok (0,n,n) w:=by simp[Instr.sliceBounds]
theorem awk{b:UInt8}{u:aA}(h:i' w (.int .u8 (b.toNat:Int)) u):u = .int .u8 (b.toNat:Int):=by cases h;rfl
theorem amq{xs:U UInt8}{b:Nat}(h:∀(i:Nat) (y:cL .byte),xs[i]? = J y->lq w .byte y b (o+i*aL .byte)):∀(j:Nat) (a:j<I xs),w.cell? ⟨b,o+j,ah⟩=J (.int .u8 (xs[j].toNat:Int)):=by intro j a;obtain⟨u,c,d⟩:=h j xs[j] (ho a) 0 _ rfl;rw[awk d]at c;simpa[aL]using c
variable{s:Nat}
theorem ahg{xs:U UInt8}{v:aA}(p:eL P el aO s=ae)(q:eL P el aO t=ae)(f:aO s = .sl .byte)(g:aO t = .str)(aE:aB vx (.sl .byte xs a9) v)(n:Nat)(a:Act)(o:bw)(r:aw.jl n e a)(u:aw.Env.aF e x=J v)(z:o.op = .convert s t x):(cl a.eval o).run P vx.w = .ok (.value (aw.S xs)) vx.w:=by
 simp[aB]at aE;obtain⟨ad,cap,rfl,h⟩:=lV aE.1;obtain⟨by_,eg,_,lL⟩:=jC p f;have k:=eg.vl;have c:=aw.CI (lL rfl);have d:=aw.pO (qu q g);have ay:(convert s t (.slice ad (I xs) cap)).run P vx.w = .ok (aw.S xs) vx.w:=by
  rcases h with rfl|⟨b,off,rfl,_,l⟩
  .cases ad with|none=>simp[convert,eX k,eX d,eX c];rfl|some a0=>exact run_convert_bytes_back vx.w s t (el .byte) a0 cap [] k c d (λj m=>by simp at m)
  .refine run_convert_bytes_back vx.w s t (el .byte) ⟨b,off,ah⟩ cap xs k c d λj m=>?_;rw[aw.hI];exact amq (λi y bN=>l i y bN _ (bF.refl _ _)) j m
 simp[cl,z,r.aF u,ay]
theorem ao4{l:ar}(b:aw.oH P s=ae)(c:aw.mC P t=ae)(f:aw.Env.aF e x=J (aw.S l)):aw.Pure P e (.convert s t x) (aw.S l):=λn a w o g h=>by obtain⟨d,ao⟩:=aw.Rf b;simp[cl,h,g.aF f,convert,eX ao,eX (aw.pO c)]
variable{av:U D}{vs:U aA}
theorem atH{t:Nat}{off:Nat}{d:D}(h:eL P el aO t=ae)(c:aO t ≠ .no)(e:part (aO t) av off=J d)(an:jF vx av vs)(f:av.all cv=ae):∃u,(Go.part t vs.toArray off).run P w = .ok u w/\aB vx d u:=by
 obtain⟨h1,h2,h3⟩:=nr h c;obtain⟨g,i⟩:=R0 e an f;cases a:(aO t).eV with
 |true=>obtain⟨m,j⟩:=g a;refine⟨_,?_,j⟩;have:(isAgg t).run P w = .ok ae w:=aw.sy (by simp[h1,h2,a]) w;simp only[Go.part,dG,this,fg,if_true,aw.run_sizeOf h3,eW];congr 2;apply Array.ext';simp
 |false=>
  obtain⟨u,k,l⟩:=i a;refine⟨u,?_,l⟩;have:(isAgg t).run P w = .ok ai w:=aw.sy (by simp[h1,h2,a]) w;have b:vs.toArray[off]? = J u:=by simpa using k
  simp[Go.part,this,b]
theorem P4:∀(es:U D) (us:U aA) (av:U D) (vs:U aA) (o:Nat),jF vx av vs->jF vx es us->o+I es<=I av->jF vx (write av o es) (aw.ig vs o us)
 |[],us,av,vs,o,h,k,_=>by have:us=[]:=List.eq_nil_of_length_eq_zero k.1;subst this;exact h
 |d::es,us,av,vs,o,h,k,bB=>by
  cases us with
  |nil=>have:=k.1;simp at this
  |cons u us=>
   have ao:aB vx d u:=by obtain⟨g,b,f⟩:=k.2 0 d (by simp);simp at b;subst b;exact f
   simp[write];simp at bB;refine P4 es us (av.set o d) (vs.set o u) (o+1) ⟨by simp[h.1],λj e a=>?_⟩ ⟨by have:=k.1;simpa using this,λj e a=>by have:=k.2 (j+1) e n2;simpa using this⟩ dh;by_cases c:o=j
   .subst c;have h1:o<I av:=ag
    have h2:o<I vs:=by rw[h.1];omega
    simp[h1]at a;subst a;exact⟨u,by simp[h2],ao⟩
   .rw[List.getElem?_set_ne c]at a;rw[List.getElem?_set_ne c];exact h.2 j e a
theorem MQ:∀(es av:U D) (o:Nat),av.all cv=ae->es.all cv=ae->(write av o es).all cv=ae
 |[],_,_,h,_=>h
 |d::es,av,o,h,k=>by
  simp only[et,bx]at k;refine MQ es (av.set o d) (o+1) ?_ k.2;rw[cX]at h ⊢;intro x a;rcases List.mem_or_eq_of_mem_set a with h1|h1
  .exact h x h1
  .rw[h1];exact k.1
theorem UA:∀(us cs:U aA) (off i:Nat),(us.zipIdx i).foldl (λ(cs:Array aA) p=>cs.setIfInBounds (off+p.2) p.1) cs.toArray=(aw.ig cs (off+i) us).toArray
 |[],_,_,_=>rfl
 |u::us,cs,off,i=>by simp;rw[UA us (cs.set (off+i) u) off (i+1)];rfl
end
section
variable {R:Type}{px:aM R}{ab:cB}
def zx:Op->Bool|.load _ _=>ae|_=>ai
def CB(o:bw)(env:Nat->af D)(b:Nat):Prop:=∃k d,N6 o=J k/\env k=J d/\wF d=J b
theorem akq{t:ds}{v:aA}{d:D}(h:y1 t v=J d):wF d=none:=by
 unfold y1 at h;split at h
 .split at h
  .exact AC
  .cases h
 .exact AC
 .split at h
  .exact AC
  .cases h
 .split at h
  .exact AC
  .cases h
 .exact AC
 .exact AC
 .split at h
  .split at h
   .exact AC
   .cases h
  .cases h
 .exact AC
variable{env:Nat->af D}{t:Nat}
theorem Zy{o:bw}{T:bD}{x:ct}{b:Nat}{d:D}(c:o.op = .load T x)(a:hK px env t x=J d)(aj:wF d=J b):CB o env b:=by cases x with|tmp k=>exact⟨k,d,by simp[N6,c],a,aj⟩|const v=>rw[akq a]at aj;cases aj|global g=>simp[hK]at a;subst a;cases aj|func f=>simp[hK]at a;subst a;cases aj
def Er(o:bw)(env:Nat->af D)(ak:Nat->af c_)(s:FS):Prop:=∀b k,CB o env b->ak b=J k->b<s.nb->s.ak b=J k
variable{ak:Nat->af c_}{w:aK}
theorem arx{s:FS}{m:dg}{t:ds}{p d:D}{v:aA}(a:∀b k,wF p=J b->ak b=J k->b<s.nb->s.ak b=J k)(h:rn px ak t p=J d)(aE:aB (vx ab m s w) p v):rn px s.ak t p=J d:=by
 cases p with
 |ptr b off=>simp[rn]at h ⊢;cases aj:ak b with|none=>rw[aj]at h;cases h|some k=>rw[a b k rfl aj aE.1,<-aj];exact h
 |lP b c n i=>simp[rn]at h ⊢;cases aj:ak b with|none=>rw[aj]at h;cases h|some k=>rw[a b k rfl aj aE.1,<-aj];exact h
 |_=>exact h
def FX(ab:cB)(px:aM R)(o:bw)(env:Nat->af D)(ak:Nat->af c_)(d:D):Prop:=∀(s:FS) (m:dg) (a:Act) (as_:U Act) (w:aK),(∀t x,x∈o.op.operands->hK px s.env t x=hK px env t x)->(zx o.op=ae->Er o env ak s)->Rel ab m a as_ s w->∃v,(cl a.eval o).run ab.P w = .ok (.value v) w/\aB (vx ab m s w) d v
variable{c:b1}
theorem rI{t:ds}(h:t.oB c=ae):t = .sl c:=by
 cases t<;>simp[ds.oB]at h
 rw[h]
theorem tI{t:ds}(h:t.isStr=ae):t = .str:=by cases t<;>simp[ds.isStr]at h;rfl
theorem kb{o:bw}{d:D}(h:∀(s:FS) (m:dg) (a:Act) (as_:U Act) (w:aK),(∀t x,x∈o.op.operands->hK px s.env t x=hK px env t x)->(zx o.op=ae->Er o env ak s)->Rel ab m a as_ s w->∃v,aw.Pure ab.P (pV a) o.op v/\aB (vx ab m s w) d v):FX ab px o env ak d:=by intro s m a as_ w h1 h2 b;obtain⟨v,c,aE⟩:=h s m a as_ w h1 h2 b;exact⟨v,c _ ⟨a.tmps,[]⟩ w o (Jz (a:=⟨a.tmps,[]⟩) rfl) rfl,aE⟩
variable{r:R}
theorem fz{b:Bool}{x:af R}(h:ax b x=J r):b=ae/\x=J r:=by
 cases b
 .simp[ax]at h
 .exact⟨rfl,by simpa[ax]using h⟩
theorem RI{env:Nat->af D}{x:cM}{n:Nat}{df:U D}{a:Act}(b:jm x n df env a){st:bc}{t:Nat}:∀{bE:U (Nat×ct)}{l:U (Nat×D)},AK px st t bE=J l->(∀u o,o∈bE.map (·.2)->hK px env u o=aF px st u o) ->
  ∃vs:U (Nat×aA),bE.map (λp=>(p.1,a.eval p.2))=vs/\I vs=I l/\∀(j:Nat) f d,l[j]? = J (f,d)->∃v,vs[j]? = J (f,v)/\aB x d v
 |[],l,h,_=>by simp[AK]at h;subst h;exact⟨[],rfl,rfl,by simp⟩
 |(i,o)::bE,l,h,aW=>by
  simp[AK]at h;split at h
  .cases h
  .rename_i d ao;split at h
   .cases h
   .rename_i g c;simp at h;subst h;obtain⟨vs,h1,h2,h3⟩:=RI b c (λu o' e=>aW u o' tL);rw[<-aW _ o (by simp)]at ao;obtain⟨v,_,aE,k⟩:=b.aF ao
    grind
theorem qA{env:Nat->af D}{x:cM}{n:Nat}{df:U D}{a:Act}(e:jm x n df env a){st:bc}:∀{xs:U ct}{b:U Nat}{av:U D},fJ px st b xs=J av->(∀u o,o∈xs->hK px env u o=aF px st u o)->∃vs,aw.Env.fJ (pV a) xs=J vs/\xs.map a.eval=vs/\aX x av vs
 |[],b,av,h,_=>by simp[fJ]at h;subst h;exact⟨[],rfl,rfl,by simp[aX]⟩
 |o::xs,b,av,h,aW=>by
  simp[fJ]at h;split at h
  .cases h
  .rename_i d ao;split at h
   .cases h
   .rename_i f c;simp at h;subst h;obtain⟨vs,h1,h2,h3⟩:=qA e c (λu o' g=>aW u o' (by simp[g]));rw[<-aW _ o (by simp)]at ao;obtain⟨v,h4,h5,h6⟩:=e.aF ao;refine⟨v::vs,by simp[aw.Env.fJ,h4,h1],by simp[h5,h2],?_⟩;exact⟨v,vs,rfl,h6,h3⟩
theorem LB{env:Nat->af D}{x:cM}{n:Nat}{df:U D}{a:Act}(e:jm x n df env a){st:bc}:∀{bE:U (Nat×ct)}{i:Nat}{av:U D},wC px st i bE=J av->(∀u o,o∈bE.map (·.2)->hK px env u o=aF px st u o)->∃vs,bE.map (·.1)=List.range' i (I av)/\aw.Env.fJ (pV a) (bE.map (·.2))=J vs/\(bE.map (·.2)).map a.eval=vs/\aX x av vs
 |[],i,av,h,_=>by simp[wC]at h;subst h;exact⟨[],rfl,rfl,rfl,by simp[aX]⟩
 |(k,o)::bE,i,av,h,aW=>by
  simp[wC]at h;split at h
  .rename_i b;have b:=cU b;subst b;split at h
   .cases h
   .rename_i d ao;split at h
    .cases h
    .rename_i f c;simp at h;subst h;obtain⟨vs,h0,h1,h2,h3⟩:=LB e c (λu o' g=>aW u o' (by simp[g]));rw[<-aW _ o (by simp)]at ao;obtain⟨v,h4,h5,h6⟩:=e.aF ao;refine⟨v::vs,by simp[h0,List.range'_succ],by simp[aw.Env.fJ,h4,h1],by simp[h5,h2],?_⟩;simp only[aX];exact⟨v,vs,rfl,h6,h3⟩
  .cases h
theorem Rz{x:cM}{s:Nat}{places:Array (Nat×Nat)}(c:∀f o u,pT px s f=J (o,u)->u.known=ae->places[f]? = J (o,u.n)):∀{l:U (Nat×D)}{z av:U D}{oJ:U aA}{vs:U (Nat×aA)},vz px s z l=J av->jF x z oJ->z.all cv=ae->I vs=I l->(∀(j:Nat) f d,l[j]? = J (f,d)->∃v,vs[j]? = J (f,v)/\aB x d v) ->
  ∃cs,Instr.fill (places[·]?) oJ.toArray vs=J cs/\jF x av cs.toList/\av.all cv=ae
 |[],z,av,oJ,vs,h,dB,bB,hlen,_=>by simp[vz]at h;subst h;have:vs=[]:=List.eq_nil_of_length_eq_zero (by simpa using hlen);subst this;exact⟨oJ.toArray,rfl,by simpa using dB,bB⟩
 |(f,d)::l,z,av,oJ,vs,h,dB,bB,hlen,aE=>by
  simp[vz]at h;split at h
  .rename_i o u w;split at h
   .rename_i an;simp only[bx]at an;obtain⟨⟨⟨r,a⟩,e⟩,t⟩:=an;have a:o+I (cells d)<=I z:=n2
    cases vs with
    |nil=>simp at hlen
    |cons p vs=>
     obtain⟨v,g,i⟩:=aE 0 f d (by simp);simp[ c4]at g;subst g;have b:=BB i e;have k:=c f o u w t;obtain⟨cs,h1,h2,h3⟩:=Rz c (vs:=vs) (oJ:=aw.ig oJ o v.cells.toList) h (P4 _ _ _ _ _ dB b a) (MQ _ _ _ bB e) (by simpa using hlen) (λj fl y cN=>by have:=aE (j+1) fl y (by simpa using cN);simpa using this);refine⟨cs,?_,h2,h3⟩;have m:v.cells.size=u.n:=by rw[<-(cU r),<-b.1];simp
     have hle:¬(o+v.cells.size > oJ.toArray.size):=by
      have h5:v.cells.size=I (cells d):=by rw[<-b.1];simp
      simp[ dB.1];omega
     simp only[Instr.fill,k,m,decide_false];rw[m]at hle;simp only[ hle];have q:=UA v.cells.toList oJ o 0;rw[Nat.add_zero]at q;rw[<-h1,<-q];congr 1;rw[<-Array.foldl_toList];simp
   .cases h
  .cases h
end
section
variable {R:Type}{px:aM R}{ab:cB}
variable{o:Nat}{s:Nat}
theorem Bj(d:eR ab px){f:Nat}{u:ds}(h:pT px s f=J (o,u)):∃c l z fds fd,px.aO s = .st c l z/\ab.P.underlying s=J (.struct fds)/\fds[f]? = J fd/\px.aO fd.type=u/\fd.offset=o/\aw.u7 ab.P s f=J o:=by
 unfold pT at h;split at h
 .rename_i c l z a;split at h
  .rename_i o' i e;simp at h;obtain⟨rfl,rfl⟩:=h;obtain⟨fds,g,b,_⟩:=Kh (d.aO s) a;obtain⟨fd,h1,h2,h3,h4⟩:=Me b e;rw[Nat.zero_add]at h4;exact⟨c,l,z,fds,fd,a,g,by simpa using h1,by rw[h2],h3,h4⟩
  .cases h
 .cases h
theorem alS(l:ar)(i:Int):gv .u8 (lI l i)=true:=_c (by have:=(l.getD i.toNat 0).toNat_lt;simp only[lI];omega)
variable{i:Int}{j:Int}
theorem tU{n:Nat}(h:upto i j n=ae) : 0<=i/\i<=j/\j<=(n:Int):=by simpa[upto,and_assoc]using h
theorem rV{n:Nat}(h:aU i n=ae) : 0<=i/\i<(n:Int):=by simpa[aU]using h
variable{env:Nat->af D}{st:bc}{x:cM}
theorem xL{n:Nat}{df:U D}{a:Act}(c:jm x n df env a){o:af ct}{d:af D}(h:Cg px st o=J d)(f:∀u y,o=J y->hK px env u y=aF px st u y):(o=ah/\d=ah)\/∃y e v,o=J y/\d=J e/\aw.Env.aF (pV a) y=J v/\aB x e v:=by
 cases o with
 |none=>simp[Cg]at h;exact .inl ⟨rfl,h.symm⟩
 |some y=>
  simp[Cg]at h;split at h
  .rename_i e b;simp at h;rw[<-f _ y rfl]at b;obtain⟨v,h1,_,h3⟩:=c.aF b;exact .inr ⟨y,e,v,rfl,h.symm,h1,h3⟩
  .cases h
variable{K:D->af R}{hi:af D}{lo:af D}{r:R}
theorem anJ{l:ar}(h:Ow l lo hi K=J r):∃d,K d=J r/\∀{P:cx}{e:aw.Env}{t:Nat}{x:ct}{a b:af ct}{vx:cM},aw.mC P t=ae->aw.Env.aF e x=J (aw.S l)->I l<=c5->((a=ah/\lo=ah)\/∃y d v,a=J y/\lo=J d/\aw.Env.aF e y=J v/\aB vx d v)->((b=ah/\hi=ah)\/∃y d v,b=J y/\hi=J d/\aw.Env.aF e y=J v/\aB vx d v)->∃v,aw.Pure P e (.slice t x a b ah) v/\aB vx d v:=by
 unfold Ow at h;split at h
 .rename_i k i;obtain⟨aj,c⟩:=fz h;refine⟨_,c,λ{P e t x a b vx} f g m h1 h2=>?_⟩;rcases h1 with ⟨_,h1⟩|⟨y,d,v,rfl,h1,n,o⟩
  .cases h1
  rcases h2 with ⟨rfl,_⟩|⟨s,u,w,_,h2,_⟩
  .simp at h1;subst h1;obtain rfl:=aB.int o;have:=tU aj;exact⟨_,aw.afK f g n ⟨this.1,this.2.1⟩,r6 dh⟩
  .cases h2
 .rename_i k j;obtain⟨aj,c⟩:=fz h;refine⟨_,c,λ{P e t x a b vx} f g m h1 h2=>?_⟩;rcases h2 with ⟨_,h2⟩|⟨y,d,v,rfl,h2,n,o⟩
  .cases h2
  rcases h1 with ⟨rfl,_⟩|⟨s,u,w,_,h1,_⟩
  .simp at h2;subst h2;obtain rfl:=aB.int o;have:=tU aj;exact⟨_,aw.afJ f g n ⟨this.2.1,this.2.2⟩,r6 dh⟩
  .cases h1
 .rename_i k i z j;obtain⟨aj,c⟩:=fz h;refine⟨_,c,λ{P e t x a b vx} f g m h1 h2=>?_⟩;rcases h1 with ⟨_,h1⟩|⟨y,d,v,rfl,h1,n,o⟩
  .cases h1
  rcases h2 with ⟨_,h2⟩|⟨s,u,w,rfl,h2,p,q⟩
  .cases h2
  simp at h1 h2;subst h1;subst h2;obtain rfl:=aB.int o;obtain rfl:=aB.int q;exact⟨_,aw.afI f g n p (tU aj),r6 (by simp[cut];omega)⟩
 .cases h
variable{P:cx}{t:Nat}
theorem Uc{e:aw.Env}{x:ct}{b c:af ct}{v u:aA}{d f:af aA}(i:aw.Env.aF e x=J v)(h1:(b=ah/\d=ah)\/∃y q,b=J y/\d=J q/\aw.Env.aF e y=J q)(h2:(c=ah/\f=ah)\/∃y q,c=J y/\f=J q/\aw.Env.aF e y=J q)(j:∀w,(Instr.sliceAt t v d f ah).run P w = .ok u w):aw.Pure P e (.slice t x b c ah) u:=λn a w o g k=>by
 have l:b.map a.eval=d:=by
  rcases h1 with ⟨rfl,rfl⟩|⟨y,q,rfl,rfl,h⟩
  .rfl
  .simp[g.aF h]
 have aS:c.map a.eval=f:=by
  rcases h2 with ⟨rfl,rfl⟩|⟨y,q,rfl,rfl,h⟩
  .rfl
  .simp[g.aF h]
 simp[cl,k,g.aF i,l,aS,j w]
variable{c:b1}{el:b1->bD}{a9:hY}{aO:Nat->ds}
theorem am8{e:aw.Env}{x y z:ct}{vx:cM}{v:aA}{l:U (cL c)}{QS IQ:b'}(cg:eL P el aO t=ae)(m:aO t = .sl c)(aE:aB vx (.sl c l a9) v)(aW:aw.Env.aF e x=J v)(g:aw.Env.aF e y=J (.int QS j))(dB:aw.Env.aF e z=J (.int IQ j))(aj : 0<=j/\j<=I l):∃u,aw.Pure P e (.slice t x ah (J y) (J z)) u/\aB vx (.sl c (l.take j.toNat) .f) u:=by
 simp[aB]at aE;obtain⟨a,cap,rfl,bO⟩:=lV aE.1;obtain⟨by_,eg,_,_⟩:=jC cg m;obtain⟨hu,i0,Ri,p,aZ,q,_⟩:=eg;have k:aw.ft P (el c)=J (aL c):=by simp[aw.ft,p,q]
 have r : 0<=j/\j<=(cap:Int):=by
  rcases bO with rfl|⟨_,_,_,h,_⟩
  .simp at aj;omega
  .omega
 have s : 0<=j/\j<=(j.toNat:Int):=ag
 have d:I (l.take j.toNat)=j.toNat:=dh
 have ay:∀w,(Instr.sliceAt t (.slice a (I l) cap) ah (J (.int QS j)) (J (.int IQ j))).run P w = .ok (.slice (if j.toNat=0 then a else a.map (·.add (0*aL c))) j.toNat j.toNat) w:=λw=>by simp only[Instr.sliceAt,Instr.slice,dG,eX hu,fg,Instr.sliceBounds,Instr.sliceBound,asIntOf,eW,if_pos r,if_pos s,aw.run_sizeOf k,Nat.sub_zero]
 refine⟨.slice (if j.toNat=0 then a else a.map (·.add (0*aL c))) j.toNat j.toNat,λn bC w o he bK=>?_,?_⟩
 .simp[cl,bK,he.aF aW,he.aF g,he.aF dB,ay w]
 .simp only[aB];refine⟨ue d.symm ?_,_,by rw[d]⟩;by_cases h0:l.take j.toNat=[]
  .exact .inl h0
  .rcases bO with rfl|⟨b,o,rfl,an,aJ⟩
   .simp at h0
   .refine .inr ⟨b,o,?_,⟨by rw[d];exact b2 _,by omega⟩,λi y g w' hw=>?_⟩
    .split
     .rfl
     .simp[aw.hI]
    .rw[fQ]at g;split at g
     .exact aJ i y g w' hw
     .cases g
theorem anx{l:U (cL c)}(h:OL c l lo hi K=J r):∃d,K d=J r/\∀{P:cx}{el:b1->bD}{aO:Nat->ds}{e:aw.Env}{t:Nat}{x:ct}{b f:af ct}{vx:cM}{v:aA}{a9:hY},eL P el aO t=ae->aO t = .sl c->aB vx (.sl c l a9) v->aw.Env.aF e x=J v->((b=ah/\lo=ah)\/∃y d v,b=J y/\lo=J d/\aw.Env.aF e y=J v/\aB vx d v)->((f=ah/\hi=ah)\/∃y d v,f=J y/\hi=J d/\aw.Env.aF e y=J v/\aB vx d v)->∃u,aw.Pure P e (.slice t x b f ah) u/\aB vx d u:=by
 have key:∀(i j:Nat),i<=j->j<=I l->∀{P:cx}{el:b1->bD}{aO:Nat->ds}{e:aw.Env}{t:Nat}{x:ct}{b f:af ct}{vx:cM}{v:aA}{a9:hY}{p s:af aA},eL P el aO t=ae->aO t = .sl c->aB vx (.sl c l a9) v->aw.Env.aF e x=J v->((b=ah/\p=ah)\/∃y q,b=J y/\p=J q/\aw.Env.aF e y=J q)->((f=ah/\s=ah)\/∃y q,f=J y/\s=J q/\aw.Env.aF e y=J q)->(∀cap w,I l<=cap\/l=[]->(Instr.sliceBounds ae (I l) cap p s ah).run P w = .ok (i,j,cap) w)->∃u,aw.Pure P e (.slice t x b f ah) u/\aB vx (.sl c ((l.drop i).take (j-i)) .no) u:=by
  intro i j bz ac P el aO e t x b f vx v a9 p s cg g aE aW h1 h2 aj;simp[aB]at aE;obtain⟨a,cap,rfl,bO⟩:=lV aE.1;obtain⟨by_,eg,_,_⟩:=jC cg g;obtain⟨hu,i0,z,bL,dB,bW,_⟩:=eg;have aZ:aw.ft P (el c)=J (aL c):=by simp[aw.ft,bL,bW]
  have bk:I l<=cap\/l=[]:=jk
  refine⟨_,Uc aW h1 h2 (λw=>TR (c:=c) hu aZ (aj cap w bk) rfl),?_⟩;simp[aB];exact⟨aha bO bz ac,trivial⟩
 have aJ:∀{e:aw.Env}{vx:cM}{o:af ct}{d:af D},((o=ah/\d=ah)\/∃y q v,o=J y/\d=J q/\aw.Env.aF e y=J v/\aB vx q v)->∀{k:b'}{n:Int},d=J (.int k n)->∃y q,o=J y/\J (aA.int k n)=J q/\aw.Env.aF e y=J q:=by
  rintro e vx o d (⟨_,rfl⟩|⟨y,q,v,rfl,rfl,bN,ay⟩) k n ao
  .cases ao
  .exact ad0
 have m:∀{e:aw.Env}{vx:cM}{o:af ct}{d:af D},((o=ah/\d=ah)\/∃y q v,o=J y/\d=J q/\aw.Env.aF e y=J v/\aB vx q v)->d=ah->o=none:=jk
 unfold OL at h;split at h
 .refine⟨_,h,λ{P el aO e t x b f vx v a9} cg g aE aW h1 h2=>?_⟩;have:=key 0 (I l) (cp _) (b2 _) cg g aE aW (.inl ⟨m h1 rfl,rfl⟩) (.inl ⟨m h2 rfl,rfl⟩) (λcap w _=>St);exact oK
 .rename_i k i;obtain⟨aj,aV⟩:=fz h;have aj:=tU aj;refine⟨_,aV,λ{P el aO e t x b f vx v a9} cg g aE aW h1 h2=>?_⟩;have:=key i.toNat (I l) ag (b2 _) cg g aE aW (.inr (aJ h1 rfl)) (.inl ⟨m h2 rfl,rfl⟩) (λcap w _=>Zu ⟨aj.1,aj.2.1⟩);rwa[List.take_of_length_le (by simp)]at this
 .rename_i k j;obtain⟨aj,aV⟩:=fz h;have aj:=tU aj;refine⟨_,aV,λ{P el aO e t x b f vx v a9} cg g aE aW h1 h2=>?_⟩;have:=key 0 j.toNat (cp _) ag cg g aE aW (.inl ⟨m h1 rfl,rfl⟩) (.inr (aJ h2 rfl)) (λcap w an=>adt aez);exact oK
 .rename_i k i eh j;obtain⟨aj,aV⟩:=fz h;have aj:=tU aj;refine⟨_,aV,λ{P el aO e t x b f vx v a9} cg g aE aW h1 h2=>?_⟩;exact key i.toNat j.toNat ag ag cg g aE aW (.inr (aJ h1 rfl)) (.inr (aJ h2 rfl)) (λcap w an=>Se aez)
 .cases h
theorem BU{n:Int}(h:jQ i j n=ae) : 0<=i/\i<=j/\j<=n:=by simp[jQ]at h;exact⟨h.1.1,h.1.2,h.2⟩
theorem auq{n:Int}(h:iJ i n=ae) : 0<=i/\i<n:=by simpa[iJ]using h
theorem an6{b:Nat}{s n:Int}(h:ON b c s n lo hi K=J r):∃d,K d=J r/\∀{P:cx}{el:b1->bD}{aO:Nat->ds}{e:aw.Env}{t:Nat}{x:ct}{f g:af ct}{vx:cM}{v:aA},eL P el aO t=ae->aO t = .sl c->aB vx (.gB b c s n) v->aw.Env.aF e x=J v->((f=ah/\lo=ah)\/∃y d v,f=J y/\lo=J d/\aw.Env.aF e y=J v/\aB vx d v)->((g=ah/\hi=ah)\/∃y d v,g=J y/\hi=J d/\aw.Env.aF e y=J v/\aB vx d v)->∃u,aw.Pure P e (.slice t x f g ah) u/\aB vx d u:=by
 have key:∀(i j:Int),0<=i->i<=j->j<=n->∀{P:cx}{el:b1->bD}{aO:Nat->ds}{e:aw.Env}{t:Nat}{x:ct}{f g:af ct}{vx:cM}{v:aA}{p aJ:af aA},eL P el aO t=ae->aO t = .sl c->aB vx (.gB b c s n) v->aw.Env.aF e x=J v->((f=ah/\p=ah)\/∃y q,f=J y/\p=J q/\aw.Env.aF e y=J q)->((g=ah/\aJ=ah)\/∃y q,g=J y/\aJ=J q/\aw.Env.aF e y=J q)->(∀cap w,n.toNat<=cap->(Instr.sliceBounds ae n.toNat cap p aJ ah).run P w = .ok (i.toNat,j.toNat,cap) w)->∃u,aw.Pure P e (.slice t x f g ah) u/\aB vx (.gB b c (s+i) (j-i)) u:=by
  intro i j hi bz bW P el aO e t x f g vx v p aJ cg l aE aW h1 h2 aj;simp only[aB]at aE;obtain⟨gJ,fm,ko,lK,a,cap,rfl,mv,nJ,Cl,cur,QN,axG,QO⟩:=aE;obtain⟨by_,eg,_,_⟩:=jC cg l;obtain⟨hu,i0,z,ac,dB,bL,_⟩:=eg;have bk:aw.ft P (el c)=J (aL c):=by simp[aw.ft,ac,bL]
  refine⟨_,Uc aW h1 h2 (λw=>TR (c:=c) hu bk (aj cap w nJ) rfl),?_⟩;simp only[aB];refine⟨gJ,by omega,by omega,by omega,_,cap-i.toNat,by rw[show j.toNat-i.toNat=(j-i).toNat by omega],?_,by omega,by omega,cur,QN,axG,by rw[QO];congr 1;omega⟩;rcases Int.le_iff_lt_or_eq.1 bz with b9|ch
  .right;rw[if_neg ag,(mv.resolve_left ag)];simp[ aw.hI];rw[<-Nat.add_mul];congr 1;omega
  .left;omega
 have aZ:∀{e:aw.Env}{vx:cM}{o:af ct}{d:af D},((o=ah/\d=ah)\/∃y q v,o=J y/\d=J q/\aw.Env.aF e y=J v/\aB vx q v)->∀{k:b'}{n:Int},d=J (.int k n)->∃y q,o=J y/\J (aA.int k n)=J q/\aw.Env.aF e y=J q:=by
  rintro e vx o d (⟨_,rfl⟩|⟨y,q,v,rfl,rfl,bN,ay⟩) k n ao
  .cases ao
  .exact ad0
 have m:∀{e:aw.Env}{vx:cM}{o:af ct}{d:af D},((o=ah/\d=ah)\/∃y q v,o=J y/\d=J q/\aw.Env.aF e y=J v/\aB vx q v)->d=ah->o=none:=by
  rintro e vx o d (⟨rfl,rfl⟩|⟨y,q,v,rfl,rfl,bN,ay⟩) ao
  .rfl
  .cases ao
 have ax9:∀{vx:cM}{v:aA},aB vx (.gB b c s n) v->0<=n:=λh=>by simp[aB]at h;exact h.2.2.1
 unfold ON at h;split at h
 .refine⟨_,h,λ{P el aO e t x f g vx v} cg l aE aW h1 h2=>?_⟩;have:=key 0 n (Int.le_refl _) (ax9 aE) (Int.le_refl _) cg l aE aW (.inl ⟨m h1 rfl,rfl⟩) (.inl ⟨m h2 rfl,rfl⟩) (λcap w _=>St);exact oK
 .rename_i k i;obtain⟨aj,aV⟩:=fz h;have aj:=BU aj;refine⟨_,aV,λ{P el aO e t x f g vx v} cg l aE aW h1 h2=>?_⟩;exact key i n aj.1 aj.2.1 (Int.le_refl _) cg l aE aW (.inr (aZ h1 rfl)) (.inl ⟨m h2 rfl,rfl⟩) (λcap w _=>Zu ag)
 .rename_i k j;obtain⟨aj,aV⟩:=fz h;have aj:=BU aj;refine⟨_,aV,λ{P el aO e t x f g vx v} cg l aE aW h1 h2=>?_⟩;have:=key 0 j (Int.le_refl _) aj.2.1 aj.2.2 cg l aE aW (.inl ⟨m h1 rfl,rfl⟩) (.inr (aZ h2 rfl)) (λcap w an=>adt ag);exact oK
 .rename_i k i eh j;obtain⟨aj,aV⟩:=fz h;have aj:=BU aj;refine⟨_,aV,λ{P el aO e t x f g vx v} cg l aE aW h1 h2=>?_⟩;exact key i j aj.1 aj.2.1 aj.2.2 cg l aE aW (.inr (aZ h1 rfl)) (.inr (aZ h2 rfl)) (λcap w an=>Se ag)
 .cases h
end
section
variable {R:Type}{px:aM R}{ab:cB}
variable{P:cx}{av:U D}{el:b1->bD}{aO:Nat->ds}{vs:U aA}
theorem agE{e:aw.Env}{vx:cM}{b:fP}{xs:U ct}{m:Array Nat}{d:D}(cg:eL P el aO (m.toList.headD 0)=ae)(h:Ee (aO (m.toList.headD 0)) b av=J d)(g:aw.Env.fJ e xs=J vs)(ay:aX vx av vs)(i:b = .len->m = #[m.toList.headD 0]):∃v,aw.Pure P e (.call ⟨.builtin b,xs.toArray,m⟩) v/\aB vx d v:=by
 have one:∀{j:D},av=[j]->∃x v,xs=[x]/\aw.Env.aF e x=J v/\aB vx j v:=by
  rintro j rfl;simp only[aX]at ay;obtain⟨u,us,rfl,h1,rfl⟩:=ay;cases xs with
  |nil=>simp[aw.Env.fJ]at g
  |cons x xs=>
   simp[aw.Env.fJ]at g;cases aE:aw.Env.aF e x with
   |none=>simp[aE]at g
   |some v=>
    rw[aE]at g;cases o:aw.Env.fJ e xs with
    |none=>simp[o]at g
    |some us=>
     simp[o]at g;obtain⟨rfl,rfl⟩:=g;cases xs with
     |nil=>grind
     |cons y ys=>
      simp[aw.Env.fJ]at o;cases h2:aw.Env.aF e y<;>simp[h2]at o
      cases h3:aw.Env.fJ e ys<;>simp[h3]at o
 have two:∀{j d2:D},av=[j,d2]->∃x y v u,xs=[x,y]/\aw.Env.aF e x=J v/\aw.Env.aF e y=J u/\aB vx j v/\aB vx d2 u:=by
  rintro j d2 rfl;simp only[aX]at ay;obtain⟨sF,aJ,rfl,h1,oI,aZ,rfl,h2,rfl⟩:=ay;cases xs with
  |nil=>simp[aw.Env.fJ]at g
  |cons x xs=>
   simp[aw.Env.fJ]at g;cases aE:aw.Env.aF e x with
   |none=>simp[aE]at g
   |some v=>
    rw[aE]at g;cases xs with
    |nil=>simp[aw.Env.fJ]at g
    |cons y xs=>
     simp[aw.Env.fJ]at g;cases p:aw.Env.aF e y with
     |none=>simp[p]at g
     |some v2=>
      rw[p]at g;cases xs with
      |nil=>grind
      |cons z zs=>
       simp[aw.Env.fJ]at g;cases h3:aw.Env.aF e z<;>simp[h3]at g
       cases h4:aw.Env.fJ e zs<;>simp[h4]at g
 unfold Ee at h;split at h
 .split at h
  .rename_i q;simp at h;subst h;obtain⟨x,v,rfl,aE,f⟩:=one rfl;obtain rfl:=aB.str f;rw[i rfl];exact⟨_,aw.afQ (qu cg (tI q)) aE,jV (sb f.CG)⟩
  .cases h
 .split at h
  .rename_i c l t q;simp at h;subst h;obtain⟨x,v,rfl,aE,f⟩:=one rfl;simp[aB]at f;obtain⟨a,cap,rfl,_⟩:=lV f.1;obtain⟨by_,eg,_⟩:=jC cg (rI q);rw[i rfl];exact⟨_,aw.mA (by unfold aw.CJ;rw[eg.vl]) aE,jV (sb f.1.here.len)⟩
  .cases h
 .split at h
  .rename_i n _ q;simp at h;subst h;obtain⟨x,v,rfl,aE,f⟩:=one rfl;simp[aB]at f;obtain⟨_,h1,h2,h3,a,cap,rfl,_⟩:=f;obtain⟨by_,eg,_⟩:=jC cg (rI q);rw[i rfl];have h4:=aw.mA (by unfold aw.CJ;rw[eg.vl]) aE;have h5:=sb (show n.toNat<=c5 by omega);rw[Int.toNat_of_nonneg h2]at h4 h5;exact⟨_,h4,jV h5⟩
  .cases h
 .split at h
  .rename_i k x eh y r;simp at r;subst r;simp at h;subst h;obtain⟨qW,dq,v1,v2,rfl,h1,h2,s,w⟩:=two rfl;obtain rfl:=aB.int s;obtain rfl:=aB.int w;refine⟨_,av8 h1 h2,jV ?_⟩;unfold min2;split
   .exact w.u8
   .exact s.u8
  .cases h
 .split at h
  .rename_i k x eh y r;simp at r;subst r;simp at h;subst h;obtain⟨qW,dq,v1,v2,rfl,h1,h2,s,w⟩:=two rfl;obtain rfl:=aB.int s;obtain rfl:=aB.int w;refine⟨_,avM h1 h2,jV ?_⟩;unfold max2;split
   .exact w.u8
   .exact s.u8
  .cases h
 .cases h
variable{t:Nat}
theorem au7{e:aw.Env}{vx:cM}{op:UnOp}{x:ct}{a d:D}{v:aA}(h:un op a=J d)(b:aw.Env.aF e x=J v)(c:aB vx a v):∃u,aw.Pure P e (.unOp op t x) u/\aB vx d u:=by
 unfold un at h;split at h<;>simp only[c4,reduceCtorEq]at h
 .subst h;obtain rfl:=aB.bool c;exact⟨_,aw.Q4 b,ji _⟩
 .subst h;obtain rfl:=aB.int c;exact⟨_,aw.aym b,jV (zP _ _)⟩
 .subst h;obtain rfl:=aB.int c;exact⟨_,al3 b,jV (zP _ _)⟩
theorem Ns{c:b1}:∀{n:Nat}{av:U D}{xs:U (cL c)},oN c n av=J xs->I xs=n/\∀(i:Nat) y,xs[i]? = J y->dec c ((av.drop (i*aL c)).take (aL c))=J y
 |0,[],xs,h=>by simp[oN]at h;subst h;exact⟨rfl,by simp⟩
 |0,_::_,xs,h=>by simp[oN]at h
 |n+1,av,xs,h=>by
  simp[oN]at h;split at h
  .rename_i x d;split at h
   .rename_i xs' a;simp at h;subst h;obtain⟨h1,h2⟩:=Ns a;refine⟨by simp[h1],λi y b=>?_⟩;cases i with|zero=>grind|succ i=>have:=h2 i y qi;rw[List.drop_drop]at this;rw[Nat.succ_mul,Nat.add_comm (i*aL c)];exact this
   .cases h
  .cases h
variable{x:cM}
theorem aB.pN{v:aA}(h:aB x (.pN av) v):∃vs:U aA,v = .tuple vs.toArray/\aX x av vs:=by simp[aB]at h;exact h
theorem Y3{α β:Type}(f : α->af β)(g : α->β):∀(l:U α),(∀x,x∈l->f x=J (g x))->l.mapM f=J (l.map g)
 |[],_=>rfl
 |x::l,h=>by simp[ h x (by simp),Y3 f g l (λy a=>h y rH)]
theorem YH{t:bD}{n:Nat}(h:aw.ft P t=J n):∃i,P.info? t=J i/\i.size=n:=by unfold aw.ft at h;cases hi:P.info? t with|none=>rw[hi]at h;cases h|some i=>rw[hi]at h;simp at h;exact⟨i,rfl,h⟩
theorem G0{t:bD}{zs:U aA}(h:aw.sE P t=J zs):∃i z,P.info? t=J i/\i.zero=J z/\z.cells=zs.toArray:=by
 unfold aw.sE at h;cases hi:P.info? t with
 |none=>rw[hi]at h;cases h
 |some i=>rw[hi]at h;cases a:i.zero with|none=>simp[a]at h|some z=>simp[a]at h;exact⟨i,z,rfl,a,by rw[<-h]⟩
theorem XH{P:cx}{t:Nat}{fds:Array Field}(e:P.underlying t=J (.struct fds)):∀(eO:U Field) (c:U (Nat×Nat)) (i:Nat),pw P t i eO c=ae->(∀(j:Nat) fd,eO[j]? = J fd->fds[i+j]? = J fd)->∀fd,fd∈eO->∃n,aw.ft P fd.type=J n
 |[],_,_,_,_,fd,a=>by simp at a
 |f::eO,[],_,aj,_,_,_=>by simp[pw]at aj
 |f::eO,p::c,i,aj,cP,fd,a=>by
  simp[pw]at aj;simp at a;rcases a with rfl|a
  .have h0:=aj.1.1.2;have b:=cP 0 fd (by simp);rw[Nat.add_zero]at b;unfold aw.u7 at h0;rw[e]at h0;simp[b]at h0;split at h0
   .exact⟨_,by assumption⟩
   .cases h0
  .exact XH e eO c (i+1) aj.2 (λj d g=>by have:=cP (j+1) d xg;rwa[show i+(j+1)=i+1+j by omega]at this) fd a
theorem asw(p:eR ab px){c:af b1}{l:U (Nat×Nat)}{z:U D}(b:px.aO t = .st c l z){q:U (Nat×D)}(r:vz px t z q = J av){vs:U (Nat×aA)}(h2:I vs=I q)(h3:∀(j:Nat) f d,q[j]? = J (f,d)->∃v,vs[j]? = J (f,v)/\aB x d v):∃cs:Array aA,ab.P.built t vs=J cs/\aB x (.agg av) (.agg cs):=by
 obtain⟨fds,w,y,_⟩:=Kh (p.aO t) b;obtain⟨zs,aJ,aZ⟩:=HZ (p.aO t) (by rw[b];simp) (z:=.agg z) tJ;obtain⟨e,bk⟩:=yb (x:=x) aZ;have e:jF x z zs:=tK e;have g:=XH w fds.toList l 0 y (λj fd cN=>by simpa using cN);have bz:fds.toList.mapM (λf=>(ab.P.info? f.type).map λi=>(f.offset,i.size))=J (fds.toList.map λf=>(f.offset,(aw.ft ab.P f.type).getD 0)):=Y3 _ _ _ λfd a=>by obtain⟨n,cJ⟩:=g fd a;obtain⟨i,hi,rfl⟩:=YH cJ;simp[hi,aw.ft]
 obtain⟨cs,ac,bL,bW⟩:=Rz (px:=px) (x:=x) (s:=t) (places:=(fds.toList.map λf=>(f.offset,(aw.ft ab.P f.type).getD 0)).toArray) (λf o' u bO aV=>by
  obtain⟨_,_,_,cy,fd,_,h,a,k,m,_⟩:=Bj p bO;rw[w]at h;simp at h;subst h;have b9:=(nr (p.aO fd.type) (by rw[k];exact(nt aV).1)).2.2;have cE:fds.toList[f]? = J fd:=n2
  have o:fds[f]? = J fd:=a;simp[o,b9,k,m]) r e bk h2 h3
 obtain⟨i,oJ,hi,dB,ch⟩:=G0 aJ;refine⟨cs,?_,?_⟩
 .unfold cx.built;simp only[hi,w,dB,bz,ch];exact ac
 .simp only[aB];exact⟨bW,cs.toList,by simp,bL.oE⟩
theorem UU{x:cM}{c:b1}:∀{l:U D}{vs:U aA},aX x l vs->(l.all λd=>my d&&bV (I (cells d)) (aL c))=ae->jF x ((l.map cells).flatten) (vs.flatMap λv=>v.cells.toList)/\((l.map cells).flatten).all cv=ae/\∀v,v∈vs->v.cells.size=aL c
 |[],vs,ay,_=>by simp[aX]at ay;subst ay;exact⟨⟨rfl,by simp⟩,rfl,by simp⟩
 |d::l,vs,ay,bB=>by
  simp[aX]at ay;obtain⟨u,us,rfl,h1,h2⟩:=ay;simp only[et,bx]at bB;obtain⟨i1,a,b⟩:=UU h2 (by simpa using bB.2);have an:=BB h1 bB.1.1;have e:=cU bB.1.2;refine⟨?_,?_,?_⟩
  .simp;exact tK (an.oE.append i1.oE)
  .simp only[e0,mX,List.all_append,bx];exact⟨bB.1.1,a⟩
  .intro v aE;simp at aE;rcases aE with rfl|aE
   .have:=an.1;simpa[e]using this
   .exact b v aE
theorem aX.afd:∀{A B:U D}{vs:U aA},aX x (A++B) vs->∃us ws,vs=us++ws/\aX x A us/\aX x B ws
 |[],B,vs,h=>⟨[],vs,rfl,by simp[aX],h⟩
 |d::A,B,vs,h=>by simp at h;obtain⟨u,us,rfl,h1,h2⟩:=h;obtain⟨a,ws,rfl,h3,h4⟩:=aX.afd h2;exact⟨u::a,ws,rfl,by simp only[aX];exact⟨u,a,rfl,h1,h3⟩,h4⟩
variable{c:b1}
theorem aqC(y:eR ab px){n k:Nat}(b:px.aO t = .arr n c){l:U D}(cJ:k+I l=n)(bB:(l.all λd=>my d&&bV (I (cells d)) (aL c))=ae)(ay:aX x l vs):∃cs:Array aA,ab.P.built t ((List.range' k (I vs)).zip vs)=J cs/\aB x (.agg ((eK k (enc c (e6 c))).flatten++(l.map cells).flatten)) (.agg cs):=by
 obtain⟨hu,o,_,_⟩:=uj (y.aO t) b;obtain⟨zs,p,q⟩:=HZ (y.aO t) (by rw[b];simp) (z:=.agg ((eK n (enc c (e6 c))).flatten)) tJ;obtain⟨i,oJ,hi,dB,r⟩:=G0 p;obtain⟨azh,s,g⟩:=YH o;obtain⟨h1,h2,h3⟩:=UU (c:=c) ay bB;obtain⟨h,f⟩:=yb (x:=x) q;have e:(cells (.agg ((eK n (enc c (e6 c))).flatten)))=(eK k (enc c (e6 c))).flatten++(eK (I l) (enc c (e6 c))).flatten:=by simp[cells];rw[<-List.flatten_append,List.replicate_append_replicate,cJ]
 rw[e]at h f;obtain⟨pre,post,rfl,j,u⟩:=h.afd;have m:I pre=k*aL c:=by rw[j.len];simp[ ij]
 have w:I post=I vs*aL c:=by rw[u.len,ay.len];simp[ ij]
 have a:=aw.II (aL c) vs k pre post h3 m ag;refine⟨(pre++vs.flatMap λv=>v.cells.toList).toArray,?_,?_⟩
 .unfold cx.built;simp[hi,hu,dB,s,r,g];have ao:post.drop (I vs*aL c)=[]:=g0 ag;rw[ao,List.append_nil]at a;simpa using a
 .simp only[aB];simp only[List.all_append,bx]at f ⊢;exact⟨⟨f.1,h2⟩,_,rfl,j.append h1.oE⟩
theorem aod{bE:U (Nat×ct)}{a:Act}{k:Nat}(h0:bE.map (·.1)=List.range' k (I vs))(h2:(bE.map (·.2)).map a.eval=vs):(bE.map λp=>match p with|(i,x)=>(i,a.eval x))=(List.range' k (I vs)).zip vs:=jk
set_option maxHeartbeats 1000000 in
theorem TO{c:b1}:∀xs:U (cL c),I ((xs.map (enc c)).flatten)=I xs*aL c
 |[]=>by simp
 |x::xs=>by rw[e0,mX,dc,TO xs,ij,dm,Nat.succ_mul,Nat.add_comm]
theorem T'{c:b1}:∀xs:U (cL c),((xs.map (enc c)).flatten).all cv=ae
 |[]=>rfl
 |x::xs=>by rw[e0,mX,List.all_append,Df c x,T' xs];rfl
theorem Yl{x:cM}{g:Nat}{c:b1}:∀{xs:U (cL c)}{o:Nat},(∀(i:Nat) y,xs[i]? = J y->∀w',bF x.S x.w w'->lq w' c y g (o+i*aL c))->∃vs:U aA,(∀(j:Nat) v,vs[j]? = J v->x.w.cell? ⟨g,o+j,ah⟩=J v)/\aX x ((xs.map (enc c)).flatten) vs
 |[],o,_=>⟨[],by simp,by simp[aX]⟩
 |y::xs,o,h=>by
  obtain⟨us,h1,h2⟩:=Yl (xs:=xs) (o:=o+aL c) λi z b w' d=>by have:=h (i+1) z qi w' d;rw[Nat.succ_mul]at this;rwa[show o+aL c+i*aL c=o+(i*aL c+aL c) by omega]
  have h0:=h 0 y (by simp);simp only[Nat.zero_mul,Nat.add_zero]at h0;obtain⟨vs,h3,h4⟩:=lq.QI (x:=x) rfl h0;have an:=tG h3;refine⟨vs++us,λj v a=>?_,?_⟩
  .rw[List.getElem?_append]at a;split at a
   .exact h4 j v a
   .rename_i e;have:=h1 _ v a;rwa[show o+aL c+(j-I vs)=o+j by have:=h3.1;omega]at this
  .rw[e0,mX];exact an.oE.append h2
variable{K:D->af R}{r:R}{st:bc}
theorem Mh(bn:eR ab px){o:bw}(nH:∀b xs hd,o.op = .call ⟨.builtin b,xs,hd⟩->b = .len->hd = #[hd.toList.headD 0])(h:pn px o st K=J r):∃d,K d=J r/\FX ab px o (get st.env) (bu st.ak) d:=by
 unfold pn at h;split at h
 ·
  rename_i x bK;split at h
  .rename_i d ao;refine⟨d,h,kb λs m a as_ w aW _ ay=>?_⟩;rw[cR,<-aW _ x ev]at ao;obtain⟨v,h1,_,h3⟩:=ay.env.aF ao;exact⟨v,by rw[bK];exact aw.gd h1,h3⟩
  .cases h
 ·
  rename_i x bK;split at h
  .rename_i d ao;refine⟨d,h,kb λs m a as_ w aW _ ay=>?_⟩;rw[cR,<-aW _ x ev]at ao;obtain⟨v,h1,_,h3⟩:=ay.env.aF ao;exact⟨v,by rw[bK];exact aw.gq h1,h3⟩
  .cases h
 ·
  rename_i c x y bK;split at h
  .rename_i q u v an hu aE;refine⟨cond q u v,by cases q<;>exact h,kb λs m a as_ w aW _ ay=>?_⟩;rw[cR,<-aW _ c ev]at an;rw[cR,<-aW _ x ev]at hu;rw[cR,<-aW _ y ev]at aE;obtain⟨v1,h1,_,h3⟩:=ay.env.aF an;obtain⟨v2,h4,_,h6⟩:=ay.env.aF hu;obtain⟨aD,h7,_,l3⟩:=ay.env.aF aE;obtain rfl:=aB.bool h3;cases q with|true=>exact⟨v2,by rw[bK];exact aw.afV h1 h4,h6⟩|false=>exact⟨aD,by rw[bK];exact aw.afU h1 h7,l3⟩
  .cases h
 ·
  rename_i t bE bK;have c0:∀q,q∈bE.toList.map (·.2)->q∈o.op.operands:=λq cA=>by rw[bK];simpa[Op.operands]using cA
  split at h
  .rename_i c l z aZ;split at h
   .rename_i kR bB;split at h
    .rename_i av cE;refine⟨_,h,λs m a as_ w aW _ ay=>?_⟩;obtain⟨vs,h1,h2,h3⟩:=RI ay.env bB (λu q cA=>by rw[cR];exact aW u q (c0 q cA));obtain⟨cs,h4,h5⟩:=asw bn aZ cE h2 h3;refine⟨.agg cs,?_,h5⟩;have du:(bE.map λp=>match p with|(i,x)=>(i,a.eval x))=vs.toArray:=by apply Array.ext';simpa using h1
     simp[cl,bK,dG,du,run_build w t vs.toArray cs (by simpa using h4),fg,eW]
    .cases h
   .cases h
  .rename_i n c aZ;split at h
   .rename_i l bB;split at h
    .rename_i an;simp only[bx]at an;refine⟨_,h,λs m a as_ w aW _ ay=>?_⟩;obtain⟨vs,h0,h1,h2,h3⟩:=LB ay.env bB (λu q cA=>by rw[cR];exact aW u q (c0 q cA));obtain⟨cs,h4,h5⟩:=aqC bn aZ (cU an.1) an.2 h3;refine⟨.agg cs,?_,h5⟩;have du:(bE.map λp=>match p with|(i,x)=>(i,a.eval x))=((List.range' (AN bE.toList) (I vs)).zip vs).toArray:=aes
     simp[cl,bK,dG,du,run_build w t ((List.range' (AN bE.toList) (I vs)).zip vs).toArray cs h4,fg,eW]
    .cases h
   .cases h
  .cases h
 ·
  rename_i t x bK;split at h
  .rename_i g bL;split at h
   .rename_i l aZ am;refine⟨_,h,λs m a as_ w aW _ ay=>?_⟩;rw[cR,<-aW _ x ev]at bL;obtain⟨v,_,h2,h3⟩:=ay.env.aF bL;simp[aB]at h3;subst h3;obtain⟨r,es,gN,h4,h5⟩:=ay.g1.2.1 g l Gj;refine⟨.map (J r),?_,by simp only[aB];exact⟨r,es,gN,rfl,λw' hw=>(h4 w' hw).2,h5⟩⟩;simp[cl,bK,h2,Instr.loadAt,Instr.sureAddr,dG,eW,fg,E9 (bn.aO t) (by rw[aZ];simp) (by rw[aZ];rfl) (h4 w (bF.refl _ _)).1]
   .rename_i n c cj xs aZ am;split at h
    .rename_i an;simp only[bx,dM]at an;obtain⟨rfl,cJ⟩:=an;have cJ:=cU cJ;refine⟨_,h,λs m a as_ w aW _ ay=>?_⟩;rw[cR,<-aW _ x ev]at bL;obtain⟨v,_,h2,h3⟩:=ay.env.aF bL;simp[aB]at h3;subst h3;obtain⟨vs,h4,h5⟩:=Yl (x:=vx ab m s w) (g:=g) (c:=c) (xs:=xs) (o:=0) (λi y bN w' hw=>by rw[Nat.zero_add];exact ay.g1.1 g c xs Gj i y bN w' hw);refine⟨.agg vs.toArray,?_,?_⟩
     .have bB:I vs=(px.aO t).n:=by rw[h5.len,TO,aZ,cJ];rfl
      have bW:(loadVar t ⟨g,0,ah⟩).run ab.P w = .ok (.agg vs.toArray) w:=Di (bn.aO t) (by rw[aZ];simp) (by rw[aZ];rfl) (b:=g) (o:=0) bB h4;simp[cl,bK,h2,Instr.loadAt,Instr.sureAddr,dG,eW,bW,fg]
     .simp only[aB];exact⟨T' xs,vs,rfl,h5⟩
    .cases h
   .cases h
  .rename_i b c i bL;split at h
   .rename_i cj xs dF;split at h
    .rename_i an;simp only[bx,beq_iff_eq,dM]at an;obtain⟨⟨⟨h1,h2⟩,rfl⟩,h4⟩:=an;obtain⟨py,aV⟩:=fz h;refine⟨_,aV,λs m a as_ w aW aj ay=>?_⟩;rw[cR]at bL;have ff:=Zy (b:=b) bK bL rfl;rw[<-aW _ x ev]at bL;obtain⟨v,_,h5,h6⟩:=ay.env.aF bL;simp[aB]at h6;obtain⟨qM,rfl,_⟩:=h6;have pz:=aj (by rw[bK];rfl) b _ ff dF qM;obtain⟨_,_,vs,ty,cf,ch,bz⟩:=ay.eb b _ pz;obtain⟨u,h7,lL⟩:=al1 (x:=vx ab m s w) (w:=w) (bn.aO t) (nt h4).1 (cU h1) h2 cf ch bz (rV py);refine⟨u,?_,lL⟩;simp[cl,bK,h5,vx,Instr.loadAt,Instr.sureAddr,dG,eW,fg,h7]
    .cases h
   .cases h
  .rename_i p ce QD bL;split at h
   .rename_i d aV ao;refine⟨d,h,λs m a as_ w aW aj ay=>?_⟩;rw[cR]at bL;have ff:∀b,wF p=J b->CB o (get st.env) b:=λb aj=>Zy bK bL aj;rw[<-aW _ x ev]at bL;obtain⟨v,h1,h2,h3⟩:=ay.env.aF bL;rw[abg]at ao;have ao:=arx (λb k uX=>aj (by rw[bK];rfl) b k (ff b uX)) ao h3;obtain⟨u,h4,h5⟩:=Y4 bn ay aV ao h3;refine⟨u,?_,h5⟩;simp[cl,bK,h2,dG,h4,fg,eW]
   .cases h
  .cases h
 ·
  rename_i x bK;have run:∀{d:D}{v:aA}(s:FS) (m:dg) (a:Act) (w:aK),a.eval x=v->aB (vx ab m s w) d v->((∃p,v = .pointer (J p))\/∃f cs,v = .func (.func f) #[] cs)->(cl a.eval o).run ab.P w = .ok (.value v) w:=by
   intro d v s m a w aE _ cf;rcases cf with ⟨p,rfl⟩|⟨f,cs,rfl⟩
   .simp[cl,bK,aE,eW]
   .simp[cl,bK,aE,eW]
  split at h
  .rename_i b o' he;refine⟨_,h,λs m a as_ w aW _ ay=>?_⟩;rw[cR,<-aW _ x ev]at he;obtain⟨v,_,h2,h3⟩:=ay.env.aF he;exact⟨v,run s m a w h2 h3 (.inl (by simp[aB]at h3;exact⟨_,h3.2⟩)),h3⟩
  .rename_i c y o' he;refine⟨_,h,λs m a as_ w aW _ ay=>?_⟩;rw[cR,<-aW _ x ev]at he;obtain⟨v,_,h2,h3⟩:=ay.env.aF he;exact⟨v,run s m a w h2 h3 (.inl (by simp[aB]at h3;obtain⟨b,dq,h4,_⟩:=h3;exact⟨_,h4⟩)),h3⟩
  .rename_i g he;refine⟨_,h,λs m a as_ w aW _ ay=>?_⟩;rw[cR,<-aW _ x ev]at he;obtain⟨v,_,h2,h3⟩:=ay.env.aF he;exact⟨v,run s m a w h2 h3 (.inl (by simp[aB]at h3;exact⟨_,h3⟩)),h3⟩
  .rename_i b c n i he;refine⟨_,h,λs m a as_ w aW _ ay=>?_⟩;exact ad4
  .rename_i b c i he;refine⟨_,h,λs m a as_ w aW _ ay=>?_⟩;exact ad4
  .rename_i f cs he;refine⟨_,h,λs m a as_ w aW _ ay=>?_⟩;rw[cR,<-aW _ x ev]at he;obtain⟨v,_,h2,h3⟩:=ay.env.aF he;exact⟨v,run s m a w h2 h3 (.inr (by simp[aB]at h3;obtain⟨vs,h4,_⟩:=h3;exact⟨_,_,h4⟩)),h3⟩
  .cases h
 ·
  rename_i op t x y t' bK;split at h
  .rename_i p q aJ hJ;split at h
   .rename_i c d aj;obtain⟨an,aV⟩:=fz h;refine⟨d,aV,kb λs m a as_ w aW _ ay=>?_⟩;rw[cR,<-aW _ x ev]at aJ;rw[cR,<-aW _ y ev]at hJ;obtain⟨v1,h1,_,h3⟩:=ay.env.aF aJ;obtain⟨v2,h4,_,h6⟩:=ay.env.aF hJ;rw[bK];exact akE (bn.aO t) aj an h1 h4 h3 h6
   .cases h
  .cases h
 ·
  rename_i op t x bK;split at h
  .rename_i p aJ;split at h
   .rename_i d ao;refine⟨d,h,kb λs m a as_ w aW _ ay=>?_⟩;rw[cR,<-aW _ x ev]at aJ;obtain⟨v1,h1,_,h3⟩:=ay.env.aF aJ;rw[bK];exact au7 ao h1 h3
   .cases h
  .cases h
 ·
  rename_i q t x bK;split at h
  .rename_i k n eh aJ aZ;split at h
   .rename_i aV;refine⟨_,h,kb λs m a as_ w aW _ ay=>?_⟩;rw[cR,<-aW _ x ev]at aJ;obtain⟨v1,h1,_,h3⟩:=ay.env.aF aJ;obtain rfl:=aB.int h3;rw[bK];exact⟨_,aw.ayh eh (nr (bn.aO q) (nt aV).1).1 (Nj (bn.aO t) aZ) h1,jV (zP _ _)⟩
   .cases h
  .rename_i l aJ aZ;split at h
   .rename_i aV;refine⟨_,h,kb λs m a as_ w aW _ ay=>?_⟩;rw[cR,<-aW _ x ev]at aJ;obtain⟨v1,h1,_,h3⟩:=ay.env.aF aJ;obtain rfl:=aB.str h3;rw[bK];exact⟨_,ao4 (nr (bn.aO q) (nt aV).1).1 (qu (bn.aO t) aZ) h1,r6 h3.CG⟩
   .cases h
  .rename_i xs a9 aJ aZ;split at h
   .rename_i aV;refine⟨_,h,λs m a as_ w aW _ ay=>?_⟩;rw[cR,<-aW _ x ev]at aJ;obtain⟨v1,h1,_,h3⟩:=ay.env.aF aJ;exact⟨_,ahg (vx:=vx ab m s w) (bn.aO q) (bn.aO t) (rI aV) aZ h3 _ ⟨a.tmps,[]⟩ o (Jz (a:=⟨a.tmps,[]⟩) rfl) h1 bK,r6 (by simp[aB]at h3;exact h3.1.here.len)⟩
   .cases h
  .cases h
 ·
  rename_i t x lo hi bK;split at h
  .rename_i d i j ao dE dL;have d_:x∈o.op.operands:=ev
   have d':∀y,lo=J y->y∈o.op.operands:=λy bN=>by simp[bK,Op.operands,bN]
   have ef:∀y,hi=J y->y∈o.op.operands:=λy bN=>by simp[bK,Op.operands,bN]
   unfold adB at h;split at h
   .rename_i l;split at h
    .rename_i cG;obtain⟨hq,aV,bW⟩:=anJ h;refine⟨hq,aV,kb λs m a as_ w aW _ ay=>?_⟩;rw[cR,<-aW _ x d_]at ao;obtain⟨v1,h1,_,h3⟩:=ay.env.aF ao;obtain rfl:=aB.str h3;rw[bK];exact bW (qu (bn.aO t) (tI cG)) h1 h3.CG (xL ay.env dE λu y bN=>by rw[cR];exact aW u y (d' y bN)) (xL ay.env dL λu y bN=>by rw[cR];exact aW u y (ef y bN))
    .cases h
   .rename_i c l a9;split at h
    .rename_i cG;obtain⟨hq,aV,bW⟩:=anx h;refine⟨hq,aV,kb λs m a as_ w aW _ ay=>?_⟩;exact _H
    .cases h
   .rename_i b c eE n;split at h
    .rename_i cG;obtain⟨hq,aV,bW⟩:=an6 h;refine⟨hq,aV,kb λs m a as_ w aW _ ay=>?_⟩;exact _H
    .cases h
   .rename_i g;split at h
    .rename_i c xs n cj am aZ;split at h
     .rename_i an;simp only[bx,dM]at an;obtain⟨⟨b9,rfl⟩,iQ⟩:=an;have b9:=cU b9;have iQ:n<=1048576:=Nat.le_of_ble_eq_true iQ;refine⟨_,h,kb λs m a as_ w aW _ ay=>?_⟩;rw[cR,<-aW _ x d_]at ao;obtain⟨v1,h1,_,h3⟩:=ay.env.aF ao;simp[aB]at h3;subst h3;obtain⟨hu,ac,_,_⟩:=uj (bn.aO t) aZ;have bv:lo=none:=by
       rcases xL ay.env dE (λu y bN=>by rw[cR];exact aW u y (d' y bN))with ⟨h,_⟩|⟨_,_,_,_,h,_⟩
       .exact h
       .cases h
      have uY:hi=none:=by
       rcases xL ay.env dL (λu y bN=>by rw[cR];exact aW u y (ef y bN))with ⟨h,_⟩|⟨_,_,_,_,h,_⟩
       .exact h
       .cases h
      subst bv;subst uY;rw[bK];refine⟨_,aw.ayu h1 (u:=.slice (J ⟨g,0,ah⟩) n n) (λw=>?_),?_⟩
      .simp[Instr.sliceAt,dG,eX hu,fg,Instr.sureAddr,eW,aoi,aw.run_sizeOf ac,Nat.zero_mul,Nat.sub_zero,aw.hI,Nat.zero_add,ite_self]
      .simp[aB];refine⟨ue b9.symm (.inr ⟨g,0,rfl,⟨by omega,by simp[c5];omega⟩,λi y bN w' hw=>?_⟩),trivial⟩;rw[Nat.zero_add];exact ay.g1.1 g c xs Gj i y bN w' hw
     .cases h
    .cases h
   .cases h
  .cases h
 ·
  rename_i t x y z bK;split at h
  .rename_i c l a9 QS j IQ k be iR jt;split at h
   .rename_i cG;simp only[bx,dM]at cG;obtain⟨cG,rfl⟩:=cG;obtain⟨aj,aV⟩:=fz h;have aj:=tU aj;refine⟨_,aV,kb λs m a as_ w aW _ ay=>?_⟩;rw[cR,<-aW _ x ev]at be;rw[cR,<-aW _ y ev]at iR;rw[cR,<-aW _ z ev]at jt;obtain⟨v1,h1,_,h3⟩:=ay.env.aF be;obtain⟨v2,h4,_,h5⟩:=ay.env.aF iR;obtain⟨aD,h6,_,h7⟩:=ay.env.aF jt;obtain rfl:=aB.int h5;obtain rfl:=aB.int h7;rw[bK];exact am8 (bn.aO t) (rI cG) h3 h1 h4 h6 ⟨by omega,by omega⟩
   .cases h
  .cases h
 ·
  rename_i q x f bK;split at h
  .rename_i b o' gA u aJ bO;refine⟨_,h,kb λs m a as_ w aW _ ay=>?_⟩;rw[cR,<-aW _ x ev]at aJ;obtain⟨v1,h1,_,h3⟩:=ay.env.aF aJ;simp[aB]at h3;obtain⟨dp,rfl⟩:=h3;obtain⟨_,_,_,_,_,_,_,_,_,_,fF⟩:=Bj bn bO;rw[bK];refine⟨_,aw.vg (by simpa using fF) h1,?_⟩;simp only[aB];exact⟨dp,trivial⟩
  .rename_i c y o' gA u aJ bO;refine⟨_,h,kb λs m a as_ w aW _ ay=>?_⟩;rw[cR,<-aW _ x ev]at aJ;obtain⟨v1,h1,_,h3⟩:=ay.env.aF aJ;simp[aB]at h3;obtain⟨b,dq,rfl,uZ⟩:=h3;obtain⟨_,_,_,_,_,_,_,_,_,_,fF⟩:=Bj bn bO;rw[bK];refine⟨_,aw.vg (by simpa using fF) h1,?_⟩;simp only[aB];exact⟨b,dq,by rw[Nat.add_assoc],uZ⟩
  .cases h
 ·
  rename_i q x f bK;split at h
  .rename_i d gA u aJ bO;split at h
   .rename_i v an fG;simp[bx]at an;refine⟨v,h,λs m a as_ w aW _ ay=>?_⟩;rw[cR,<-aW _ x ev]at aJ;obtain⟨v1,_,h2,h3⟩:=ay.env.aF aJ;obtain⟨_,_,_,fds,fd,_,hu,m0,pC,kk,_⟩:=Bj bn bO;have fr:=BB h3 an.1.2;have bi:∃vs:U aA,v1 = .agg vs.toArray:=by
     cases d<;>simp at an<;>simp[aB]at h3
     .obtain⟨_,vs,rfl,_⟩:=h3;exact⟨vs,rfl⟩
     .obtain⟨_,vs,rfl,_⟩:=h3;exact⟨vs,rfl⟩
    obtain⟨vs,rfl⟩:=bi;subst pC;have fr:jF (vx ab m s w) (cells d) vs:=by simpa[aA.cells]using fr
    obtain⟨iK,h4,h5⟩:=atH (w:=w) (bn.aO fd.type) (nt an.1.1).1 fG fr an.1.2;refine⟨iK,?_,h5⟩;subst kk;simp[cl,bK,Instr.field,h2,dG,eX hu,m0,asAgg,eW,fg,h4]
   .cases h
  .cases h
 ·
  rename_i t x y bK;split at h
  .rename_i c xs a9 k i aJ bk;split at h
   .rename_i cG;obtain⟨an,aV⟩:=fz h;refine⟨_,aV,kb λs m a as_ w aW _ ay=>?_⟩;rw[cR,<-aW _ x ev]at aJ;rw[cR,<-aW _ y ev]at bk;obtain⟨v1,h1,_,h3⟩:=ay.env.aF aJ;obtain⟨v2,h4,_,h6⟩:=ay.env.aF bk;obtain rfl:=aB.int h6;rw[bK];exact ama (bn.aO t) (rI cG) h3 h1 h4 an
   .cases h
  .rename_i g k i aJ bk;split at h
   .rename_i c xs n cj am aZ;split at h
    .rename_i an;simp only[bx,dM]at an;obtain⟨b9,rfl⟩:=an;have b9:=cU b9;obtain⟨aj,aV⟩:=fz h;have aj:=rV aj;refine⟨_,aV,λs m a as_ w aW _ ay=>?_⟩;rw[cR,<-aW _ x ev]at aJ;rw[cR,<-aW _ y ev]at bk;obtain⟨v1,_,h2,h3⟩:=ay.env.aF aJ;obtain⟨v2,_,h5,h6⟩:=ay.env.aF bk;obtain rfl:=aB.int h6;simp[aB]at h3;subst h3;obtain⟨hu,ac,_,_⟩:=uj (bn.aO t) aZ;refine⟨.pointer (J ⟨g,0+i.toNat*aL c,ah⟩),?_,?_⟩
     .simp[cl,bK,h2,h5,dG,Tq hu ac aj,fg,eW]
     .simp[aB];refine⟨g,i.toNat*aL c,by simp,λw' hw=>?_⟩;exact ay.g1.1 g c xs Gj _ _ (yf (by rw[b9];exact aj)) w' hw
    .cases h
   .cases h
  .rename_i b o' k i aJ bk;split at h
   .rename_i c hr xs n cj dF aZ;split at h
    .rename_i an;simp only[bx,dM]at an;obtain⟨⟨rfl,b9⟩,m1⟩:=an;have b9:=cU b9;obtain rfl:=cU m1;subst b9;obtain⟨aj,aV⟩:=fz h;have aj:=rV aj;refine⟨_,aV,λs m a as_ w aW _ ay=>?_⟩;rw[cR,<-aW _ x ev]at aJ;rw[cR,<-aW _ y ev]at bk;obtain⟨v1,_,h2,h3⟩:=ay.env.aF aJ;obtain⟨v2,_,h5,h6⟩:=ay.env.aF bk;obtain rfl:=aB.int h6;simp[aB]at h3;obtain⟨dp,rfl⟩:=h3;obtain⟨hu,ac,_,_⟩:=uj (bn.aO t) aZ;refine⟨.pointer (J ⟨m.ak b,0+i.toNat*aL c,ah⟩),?_,?_⟩
     .exact _r
     .simp[aB];exact⟨dp,by simp[vx],aj⟩
    .cases h
   .rename_i QE n c dF aZ;obtain⟨aj,aV⟩:=fz h;have aj:=rV aj;refine⟨_,aV,λs m a as_ w aW _ ay=>?_⟩;rw[cR,<-aW _ x ev]at aJ;rw[cR,<-aW _ y ev]at bk;obtain⟨v1,_,h2,h3⟩:=ay.env.aF aJ;obtain⟨v2,_,h5,h6⟩:=ay.env.aF bk;obtain rfl:=aB.int h6;simp[aB]at h3;obtain⟨dp,rfl⟩:=h3;obtain⟨hu,ac,_,_⟩:=uj (bn.aO t) aZ;refine⟨.pointer (J ⟨m.ak b,o'+i.toNat*aL c,ah⟩),?_,?_⟩
    .exact _r
    .simp[aB];exact⟨dp,by simp[vx]⟩
   .cases h
  .rename_i b c eE n k i aJ bk;split at h
   .rename_i cG;obtain⟨an,aV⟩:=fz h;have an:=auq an;refine⟨_,aV,kb λs m a as_ w aW _ ay=>?_⟩;rw[cR,<-aW _ x ev]at aJ;rw[cR,<-aW _ y ev]at bk;obtain⟨v1,h1,_,h3⟩:=ay.env.aF aJ;obtain⟨v2,h4,_,h6⟩:=ay.env.aF bk;obtain rfl:=aB.int h6;simp[aB]at h3;obtain⟨gJ,fm,ko,lK,ad,cap,rfl,mv,nJ,Cl⟩:=h3;obtain rfl:=mv.resolve_left ag;obtain⟨by_,eg,_,_⟩:=jC (bn.aO t) (rI cG);obtain⟨hu,i0,z,qN,dB,ac,_⟩:=eg;have gk:(aw.nI ab.P t == J (aL c))=true:=by simp[aw.nI,hu,aw.ft,qN,ac]
    rw[bK];refine⟨_,aw.afO gk h1 h4 ag,?_⟩;simp[aB];exact⟨gJ,by rw[<-Nat.add_mul,show eE.toNat+i.toNat=(eE+i).toNat by omega],by omega⟩
   .cases h
  .cases h
 ·
  rename_i t x y bK;split at h
  .rename_i l k i aJ bk;split at h
   .rename_i cG;obtain⟨an,aV⟩:=fz h;refine⟨_,aV,kb λs m a as_ w aW _ ay=>?_⟩;rw[cR,<-aW _ x ev]at aJ;rw[cR,<-aW _ y ev]at bk;obtain⟨v1,h1,_,h3⟩:=ay.env.aF aJ;obtain⟨v2,h4,_,h6⟩:=ay.env.aF bk;obtain rfl:=aB.int h6;obtain rfl:=aB.str h3;rw[bK];exact⟨_,aw.afP (qu (bn.aO t) (tI cG)) h1 h4 (rV an),jV (alS _ _)⟩
   .cases h
  .rename_i av k i aJ bk;split at h
   .rename_i n c aZ;split at h
    .rename_i xs sj;obtain⟨aj,aV⟩:=fz h;have aj:=rV aj;refine⟨_,aV,λs m a as_ w aW _ ay=>?_⟩;rw[cR,<-aW _ x ev]at aJ;rw[cR,<-aW _ y ev]at bk;obtain⟨v1,_,h2,h3⟩:=ay.env.aF aJ;obtain⟨v2,_,h5,h6⟩:=ay.env.aF bk;obtain rfl:=aB.int h6;simp[aB]at h3;obtain⟨_,vs,rfl,bz⟩:=h3;obtain⟨hu,ac,ap,dH⟩:=uj (bn.aO t) aZ;obtain⟨ch,lJ⟩:=Ns sj;have mY:=lJ _ _ (yf (by rw[ch];exact aj));obtain⟨gJ,fm⟩:=Jg (xU mY ((tK bz).sub (i.toNat*aL c) (aL c)).oE);cases cI:eV c with
     |true=>refine⟨_,?_,gJ cI⟩;have cZ:(isAgg (ab.el c)).run ab.P w = .ok ae w:=aw.sy Gv w;simp only[cl,bK,h2,h5,Instr.index,asIntOf,dG,eW,fg,eX hu,if_pos aj,aw.run_sizeOf ac,Go.part,cZ,if_true];congr 3;apply Array.ext';simp[List.take_drop]
     |false=>
      obtain⟨v,aE,cy⟩:=fm cI;refine⟨v,?_,cy⟩;have cZ:(isAgg (ab.el c)).run ab.P w = .ok ai w:=aw.sy Gv w;have h1:aL c=1:=by cases c<;>simp[eV]at cI<;>rfl
      have gz:vs.toArray[i.toNat*aL c]? = J v:=by have:=congrArg (·[0]?) aE;rw[h1]at this ⊢;simpa[fQ,List.getElem?_drop]using this
      simp only[cl,bK,h2,h5,Instr.index,asIntOf,dG,eW,fg,eX hu,if_pos aj,aw.run_sizeOf ac,Go.part,cZ,mW,if_false,gz]
    .cases h
   .cases h
  .rename_i cj hr xs k i aJ bk;split at h
   .rename_i n c aZ;split at h
    .rename_i an;simp only[bx,dM]at an;obtain⟨rfl,cJ⟩:=an;obtain rfl:=cU cJ;obtain⟨aj,aV⟩:=fz h;have aj:=rV aj;refine⟨_,aV,λs m a as_ w aW _ ay=>?_⟩;rw[cR,<-aW _ x ev]at aJ;rw[cR,<-aW _ y ev]at bk;obtain⟨v1,_,h2,h3⟩:=ay.env.aF aJ;obtain⟨v2,_,h5,h6⟩:=ay.env.aF bk;obtain rfl:=aB.int h6;simp only[aB]at h3;obtain⟨B',vs,rfl,ch,bz⟩:=h3;obtain⟨hu,ac,ap,dH⟩:=uj (bn.aO t) aZ;have Ca:mf (vx ab m s w) cj (at' cj xs i) ((vs.drop (i.toNat*aL cj)).take (aL cj)):=by
      have hi : 0<=i/\i<(I xs:Int):=by rw[B'];exact aj
      refine⟨?_,λj d ao=>?_⟩
      .have:i.toNat*aL cj+aL cj<=I xs*aL cj:=Gb
       simp;omega
      .obtain⟨u,hu,bO⟩:=bz _ _ j d (yf hi) ao;have cN:j<aL cj:=by rw[<-ij cj (at' cj xs i)];exact(hG.1 ao).1
       exact⟨u,by rw[fQ,if_pos cN,List.getElem?_drop];exact hu,bO⟩
     obtain⟨gJ,fm⟩:=Jg Ca;cases cI:eV cj with
     |true=>refine⟨_,?_,gJ cI⟩;have cZ:(isAgg (ab.el cj)).run ab.P w = .ok ae w:=aw.sy Gv w;simp only[cl,bK,h2,h5,Instr.index,asIntOf,dG,eW,fg,eX hu,if_pos aj,aw.run_sizeOf ac,Go.part,cZ,if_true];congr 3;apply Array.ext';simp[List.take_drop]
     |false=>
      obtain⟨v,aE,cy⟩:=fm cI;refine⟨v,?_,cy⟩;have cZ:(isAgg (ab.el cj)).run ab.P w = .ok ai w:=aw.sy Gv w;have h1:aL cj = 1:=by cases cj<;>simp[eV]at cI<;>rfl
      have gz:vs.toArray[i.toNat*aL cj]? = J v:=by have:=congrArg (·[0]?) aE;rw[h1]at this ⊢;simpa[fQ,List.getElem?_drop]using this
      simp only[cl,bK,h2,h5,Instr.index,asIntOf,dG,eW,fg,eX hu,if_pos aj,aw.run_sizeOf ac,Go.part,cZ,mW,if_false,gz]
    .cases h
   .cases h
  .cases h
 ·
  rename_i t x y bK;split at h
  .rename_i l i aJ bk aZ;refine⟨_,h,λs m a as_ w aW _ ay=>?_⟩;rw[cR,<-aW _ x ev]at aJ;rw[cR,<-aW _ y ev]at bk;obtain⟨v1,_,h2,h3⟩:=ay.env.aF aJ;obtain⟨v2,_,h5,h6⟩:=ay.env.aF bk;obtain rfl:=aB.int h6;simp only[aB]at h3;obtain⟨r,es,gN,rfl,h7,lL⟩:=h3;obtain⟨azl,e,inf,hu,ea,hi,dB⟩:=auN (bn.aO t) aZ;have y0:(zeroValue e).run ab.P w = .ok (aw.S []) w:=by simp[zeroValue,typeInfo,go_sem,hi,dB]
   have mZ:MapKept.IsKey (.int .i64) (.int .i64 i):=by simp[MapKept.IsKey]
   obtain⟨ch,bO⟩:=lL i;refine⟨aw.S (lH l i),?_,r6 ch⟩;have bW:(Instr.lookup t (.map (J r)) (.int .i64 i) ai).run ab.P w = .ok (aw.S (lH l i)) w:=by
    rcases bO with ⟨bO,hm⟩|⟨j,bO⟩
    .rw[hm];simp[Instr.lookup,eX hu,MapKept.run_getObj_map (h7 w (bF.refl _ _)),MapKept.run_checkKey ea mZ,MapKept.run_findKey ea bO,y0,Result.andThen]
    .simp[Instr.lookup,eX hu,MapKept.run_getObj_map (h7 w (bF.refl _ _)),MapKept.run_checkKey ea mZ,MapKept.run_findKey ea bO,Result.andThen,aw.S]
   simp[cl,bK,h2,h5,dG,bW,fg,eW]
  .cases h
 ·
  rename_i x i bK;split at h
  .rename_i av aJ;split at h
   .rename_i d ao;refine⟨d,h,kb λs m a as_ w aW _ ay=>?_⟩;rw[cR,<-aW _ x ev]at aJ;obtain⟨v1,h1,_,h3⟩:=ay.env.aF aJ;obtain⟨vs,rfl,bz⟩:=aB.pN h3;obtain⟨v,aE,cy⟩:=bz.get ao;rw[bK];exact⟨v,aw.afM h1 (by rw[aw.QY];exact aE),cy⟩
   .cases h
  .cases h
 ·
  rename_i f cs bK;split at h
  .rename_i av cE;refine⟨_,h,λs m a as_ w aW _ ay=>?_⟩;obtain⟨vs,_,h2,h3⟩:=qA ay.env cE (λu q cA=>by rw[cR];exact aW u q (by simp[bK,Op.operands,cA]));refine⟨.func (.func f) #[] vs.toArray,?_,by simp only[aB];exact⟨vs,rfl,h3⟩⟩;have aS:(Array.mk cs).map a.eval=vs.toArray:=by apply Array.ext';simpa using h2
   have e_:(Array.mk ([]:U ct)).map a.eval = #[]:=AT
   simp[cl,bK,Instr.makeFunc,dG,eW,fg,aS,e_]
  .cases h
 ·
  rename_i f c cs bK;split at h
  .rename_i av cE;refine⟨_,h,λs m a as_ w aW _ ay=>?_⟩;obtain⟨vs,_,h2,h3⟩:=qA ay.env cE (λu q cA=>by rw[cR];exact aW u q (by rw[bK];simpa[Op.operands]using cA));refine⟨.func (.func f) vs.toArray #[],?_,by simp only[aB];exact⟨vs,rfl,h3⟩⟩;have aS:(Array.mk (c::cs)).map a.eval=vs.toArray:=by apply Array.ext';simpa using h2
   have e_:(Array.mk ([]:U ct)).map a.eval = #[]:=AT
   simp[cl,bK,Instr.makeFunc,dG,eW,fg,aS,e_]
  .cases h
 ·
  rename_i b xs hd bK;split at h
  .rename_i av cE;split at h
   .rename_i d ao;refine⟨d,h,kb λs m a as_ w aW _ ay=>?_⟩;obtain⟨vs,h1,_,h3⟩:=qA ay.env cE (λu q cA=>by rw[cR];exact aW u q (by rw[bK];simpa[Op.operands,Call.operands]using cA));rw[bK];have:=agE (P:=ab.P) (vx:=vx ab m s w) (bn.aO _) ao h1 h3 (nH b xs hd bK);exact oK
   .cases h
  .cases h
 .cases h
end
end Go.dS
namespace Go.aw
open Go.RowKit
section
variable {P:cx}{ops:Array bw}{g':aK->Prop}
theorem IJ{listed:Array Bool}{i:Nat}(hi:i<listed.size):listed.getD i ai=listed.getD i true:=by simp[hi]
end
section
variable {ab:cB}{k:U k7}{e:Env}{L:Loc}{F:aK->Prop}{Q:Exit->Act->aK->Prop}{ops:Array bw}{rest:U bw}
end
end Go.aw
namespace Go.dS
open Go.RowKit
abbrev jn(ro:af Nat):Fence:={ gK with round:=ro }
variable{P:cx}{o:bw}{ro:af Nat}{w:aK}{w':aK}
theorem xI{Rk:ct->aA}{n:Next}(h:(cl Rk o).run P w = .ok n w')(b:∀d,n ≠ .defer d):(o.semAt ro Rk).run P w = .ok n w':=by
 rw[bw.semAt_eq _ _ _ λc an=>?_]
 .exact h
 .simp only[cl,an,dG]at h;cases a:(resolve Rk c o.type).run P w with|ok d w1=>rw[a]at h;simp[Result.andThen]at h;exact b d h.1.symm|halt x w1=>rw[a]at h;simp[Result.andThen]at h
def l9(P:cx)(a:Act)(w:aK)(o:bw)(K:Act->aK->Prop):Prop:=(∃v w',(cl a.eval o).run P w = .ok (.value v) w'/\K (a.put o.dst v) w')\/(∃w',(cl a.eval o).run P w = .ok .skip w'/\K (a.put o.dst undef) w') \/ ∃f args w1,(cl a.eval o).run P w = .ok (.enter f args) w1/\Calls P f args w1 λdv w'=>∃v,dv = .returned v/\K (a.put o.dst v) w'
variable{K:Act->aK->Prop}{Q:Exit->Act->aK->Prop}{a:Act}
theorem l9.wp(h:l9 P a w o K):o.wpIn (jn ro) 0 P a w K Q:=by
 refine⟨λ_ _=>trivial,?_⟩;rcases h with ⟨v,w',h,b⟩|⟨w',h,b⟩|⟨f,args,w1,h,b⟩
 .rw[xI h (λ_=>nofun)];exact b
 .rw[xI h (λ_=>nofun)];exact b
 .rw[xI h (λ_=>nofun)];refine⟨nofun,callsIn_wide.2 (b.mono ?_)⟩;rintro dv w' ⟨v,rfl,b⟩;exact b
variable{fx:Act->aK->Prop}
theorem l9.mono(h:l9 P a w o K)(b:∀a w,K a w->fx a w):l9 P a w o fx:=by
 rcases h with ⟨v,w',h,h1⟩|⟨w',h,h1⟩|⟨f,args,w1,h,h1⟩
 .exact .inl ⟨v,w',h,b _ _ h1⟩
 .exact .inr (.inl ⟨w',h,b _ _ h1⟩)
 .refine .inr (.inr ⟨f,args,w1,h,h1.mono ?_⟩);rintro dv w' ⟨v,e,h2⟩;exact⟨v,e,b _ _ h2⟩
def tc(P:cx)(a:Act)(w:aK)(o:bw)(K:Act->aK->Prop):Prop:=l9 P a w o K\/(∃d w',(cl a.eval o).run P w = .ok (.defer d) w'/\K ({ a with defers:=d::a.defers }.put o.dst undef) w') \/ ∃l f tmps bS body w1,(cl a.eval o).run P w = .ok (.round l f tmps bS body) w1/\RoundIn gK 0 P l f tmps bS body w1 λdv w'=>∃v,dv = .returned v/\K (a.put o.dst v) w'
def ng(ro:af Nat)(o:bw):Bool:=match ro,o.op with|some _,.defer _=>ai|_,_=>ae
theorem tc.wp(an:ng ro o=ae)(h:tc P a w o K):o.wpIn (jn ro) 0 P a w K Q:=by
 rcases h with h|⟨d,w',h,b⟩|⟨l,f,tmps,bS,body,w1,h,b⟩
 .exact h.wp
 .refine⟨λ_ _=>trivial,?_⟩;have e:o.semAt ro a.eval=cl a.eval o:=by cases ro with|none=>rfl|some l=>refine bw.semAt_eq _ _ _ λc g=>?_;simp[ng,g]at an
  show bw.uponIn (jn ro) 0 P o a K Q ((o.semAt ro a.eval).run P w);rw[e,h];exact b
 .refine⟨λ_ _=>trivial,?_⟩;rw[xI h (λ_=>nofun)];refine⟨nofun,RoundIn.mono b ?_⟩;rintro dv w' ⟨v,rfl,b⟩;exact b
theorem tc.mono(h:tc P a w o K)(b:∀a w,K a w->fx a w):tc P a w o fx:=h.imp (λh=>h.mono b) λh=>h.imp (λ⟨d,w',h1,h2⟩=>⟨d,w',h1,b _ _ h2⟩) λ⟨l,f,tmps,bS,body,w1,h1,h2⟩=>⟨l,f,tmps,bS,body,w1,h1,h2.mono λ_ _ ⟨v,e,h3⟩=>⟨v,e,b _ _ h3⟩⟩
def w0(P:cx)(ops:Array bw)(o:bw)(a:Act)(w:aK)(K:Act->aK->Prop):Prop:=(Region.wanted o (yielded ops a.tmps)=ae/\l9 P a w o K)\/(Region.wanted o (yielded ops a.tmps)=ai/\K (a.put o.dst undef) w)
variable{i:Nat}
theorem w0.wpOp{ops:Array bw}(hi:ops[i]? = J o)(h:w0 P ops o a w K):wpOpIn (jn ro) 0 P ops Q i K a w:=by
 unfold Go.wpOpIn;simp only[hi];rcases h with ⟨h1,h2⟩|⟨h1,h2⟩
 .rw[if_pos h1];exact h2.wp
 .rw[if_neg (by rw[h1];simp)];exact⟨λ_ _=>trivial,h2⟩
theorem w0.mono{ops:Array bw}(h:w0 P ops o a w K)(b:∀a w,K a w->fx a w):w0 P ops o a w fx:=h.imp (λh=>⟨h.1,h.2.mono b⟩) (λh=>⟨h.1,b _ _ h.2⟩)
def dW(o:bw):Bool:=match o.op with|.store _ _ _|.alloc _|.box _ _|.makeSlice _ _ _=>ae|.call ⟨.builtin .append,_,_⟩=>ae|.call ⟨.builtin .copy,_,_⟩=>ae|.call ⟨.value (.func f),_,_⟩=> !EC f|.call ⟨.value _,_,_⟩=>ae|_=>ai
def gL(s t:FS):Prop:=s.ak=t.ak/\s.nb=t.nb/\s.cc=t.cc/\s.ba=t.ba
def ed(o:bw)(t s:FS):FS:={ s with
 env:=match o.dst with|some k=>λj=>if j=k then t.env k else s.env j|none=>s.env
 ak:=if dW o then t.ak else s.ak
 nb:=if dW o then t.nb else s.nb
 cc:=if dW o then t.cc else s.cc
 ba:=if dW o then t.ba else s.ba }
theorem FS.eq{x y:FS}(h1:x.n=y.n)(h2:x.env=y.env)(h3:x.cd=y.cd)(h4:x.lt=y.lt)(h5:x.bI=y.bI)(h6:x.ak=y.ak)(h7:x.nb=y.nb)(b:x.cc=y.cc)(c:x.ba=y.ba)(a:x.df=y.df:=by rfl):x=y:=by cases x;cases y;simp only at h1 h2 h3 h4 h5 h6 h7 b c a;subst_vars;rfl
def ja(a c:FS)(b:Nat):Prop:=(∀k,a.ak b=J k->c.ak b=J k)/\∀k,c.ak b=J k->b<a.nb->a.ak b=J k
theorem ja.ve{a c:FS}(h:c.ak=a.ak)(b:Nat):ja a c b:=⟨λk d=>by rw[h];exact d,λk d _=>by rw[<-h];exact d⟩
variable{s:FS}
theorem an8{p:bw}{t u:FS}(ao:∀k,o.dst=J k->p.dst≠J k)(d:¬(dW o=ae/\dW p=ae)):ed o t (ed p u s)=ed p u (ed o t s):=by
 have c:(ed o t (ed p u s)).env=(ed p u (ed o t s)).env:=by
  funext j;simp[ed];cases b:o.dst with
  |none=>rfl
  |some k=>cases a:p.dst with|none=>rfl|some q=>grind
 cases b:dW o<;>cases a:dW p
 .exact _s
 .exact FS.eq rfl c rfl rfl rfl (by simp[ed,b]) (by simp[ed,b]) (by simp[ed,b]) (by simp[ed,b])
 .exact _s
 .grind
section
variable (ops:Array bw) (s:Nat->FS)
def Fd(S:Nat->Bool):Nat->FS|0=>s 0|t+1=>match ops[t]? with|some o=>if S t then ed o (s (t+1)) (Fd S t)else Fd S t|none=>Fd S t
def l2:Prop:=∀i o,ops[i]? = J o->s (i+1)=ed o (s (i+1)) (s i)
variable {ops s}
theorem Yd(an:l2 ops s)(a:ops[i]? = J o){k:Nat}(b:o.dst≠J k):(s (i+1)).env k=(s i).env k:=by have:=congrArg (λt=>t.env k) (an i o a);simp[ed]at this;cases ao:o.dst with|none=>simpa[ao]using this|some d=>grind
theorem Km(an:l2 ops s)(b:ops[i]? = J o)(a:dW o=ai):gL (s (i+1)) (s i):=by
 have h:=an i o b;refine⟨?_,?_,?_,?_⟩
 .have:=congrArg FS.ak h;simpa[ed,a]using this
 .have:=congrArg FS.nb h;simpa[ed,a]using this
 .have:=congrArg FS.cc h;simpa[ed,a]using this
 .have:=congrArg FS.ba h;simpa[ed,a]using this
theorem Zv(an:l2 ops s){S:Nat->Bool}{k i:Nat}:∀t,t<=ops.size->(∀j o,ops[j]? = J o->j<t->o.dst=J k->(S j=ae↔j<i))->(Fd ops s S t).env k=(s (min t i)).env k
 |0,_,_=>by simp[Fd]
 |t+1,cg,h=>by
  have f:=Zv an t ag (λj o b l ao=>h j o b ag ao);obtain⟨o,b⟩:∃o,ops[t]? = J o:=⟨_,k' ag⟩;simp[Fd,b];by_cases ao:o.dst=J k
  .by_cases c:S t=ae
   .have e:=(h t o b ag ao).1 c;rw[if_pos c,show min (t+1) i=t+1 by omega];simp[ed,ao]
   .grind
  .have a:(s (min (t+1) i)).env k=(s (min t i)).env k:=by
    by_cases e:t<i
    .rw[show min (t+1) i=t+1 by omega,show min t i=t by omega];exact Yd an b ao
    .grind
   by_cases c:S t=ae
   .rw[if_pos c,a,<-f];simp[ed];cases g:o.dst with|none=>rfl|some d=>grind
   .rw[if_neg c,a,f]
theorem gL.trans{a b c:FS}(h:gL a b)(k:gL b c):gL a c:=⟨h.1.trans k.1,h.2.1.trans k.2.1,h.2.2.1.trans k.2.2.1,h.2.2.2.trans k.2.2.2⟩
theorem gL.symm{a b:FS}(h:gL a b):gL b a:=⟨h.1.symm,h.2.1.symm,h.2.2.1.symm,h.2.2.2.symm⟩
theorem aee(an:l2 ops s){S:Nat->Bool}{i:Nat}:∀t,t<=ops.size->(∀j o,ops[j]? = J o->j<t->dW o=ae->(S j=ae↔j<i))->gL (Fd ops s S t) (s (min t i))
 |0,_,_=>by simp[Fd,gL]
 |t+1,cg,h=>by
  have e:=aee an t ag (λj o c f ao=>h j o c ag ao);obtain⟨o,c⟩:∃o,ops[t]? = J o:=⟨_,k' ag⟩;simp[Fd,c];by_cases ao:dW o=ae
  .have h1:=h t o c ag ao;by_cases b:S t=ae
   .have d:=h1.1 b;rw[if_pos b,show min (t+1) i=t+1 by omega];simp[ed,ao,gL]
   .have d:¬t<i:=λh2=>b (h1.2 h2);rw[if_neg b,show min (t+1) i=min t i by omega];exact e
  .have ao:dW o=false:=xd
   have a:gL (s (min t i)) (s (min (t+1) i)):=by
    by_cases d:t<i
    .rw[show min (t+1) i=t+1 by omega,show min t i=t by omega];exact(Km an c ao).symm
    .rw[show min (t+1) i=min t i by omega];exact⟨rfl,rfl,rfl,rfl⟩
   by_cases b:S t=ae
   .rw[if_pos b];refine gL.trans ?_ (e.trans a);simp[ed,ao,gL]
   .rw[if_neg b];exact e.trans a
theorem Z_(an:l2 ops s){S:Nat->Bool}(f:∀p q op d,ops[p]? = J op->ops[q]? = J d->p<q->dW op=ae->dW d=ae->S q=ae->S p=ae):∀t,t<=ops.size->∃p,p<=t/\gL (Fd ops s S t) (s p)/\∀q o,ops[q]? = J o->dW o=ae->(q<p->S q=ae)/\(p<=q->q<t->S q=ai)
 |0,_=>⟨0,b2 _,⟨rfl,rfl,rfl,rfl⟩,λq o _ _=>⟨λh=>absurd h (pv _),λ_ h=>absurd h (pv _)⟩⟩
 |t+1,cg=>by
  obtain⟨p,m,j,g⟩:=Z_ an f t ag;obtain⟨o,bK⟩:∃o,ops[t]? = J o:=⟨_,k' ag⟩;simp[Fd,bK];cases i:dW o with
  |true=>
   cases k:S t with
   |true=>
    refine⟨t+1,b2 _,by simp[ed,i,gL],λq d a b=>⟨λl=>?_,λh1 h2=>by omega⟩⟩;by_cases c:q=t
    .subst c;exact k
    .exact f q t d o a bK ag b i k
   |false=>
    refine⟨p,by omega,by simpa using j,λq d a b=>⟨(g q d a b).1,λh1 h2=>?_⟩⟩;by_cases c:q=t
    .subst c;exact k
    .exact(g q d a b).2 h1 ag
  |false=>
   have e:gL (if S t=ae then ed o (s (t+1)) (Fd ops s S t)else Fd ops s S t) (s p):=by
    split
    .exact gL.trans (by simp[ed,i,gL]) j
    .exact j
   refine⟨p,by omega,e,λq d a b=>⟨(g q d a b).1,λh1 h2=>?_⟩⟩;by_cases c:q=t
   .subst c;rw[bK]at a;simp at a;subst a;rw[i]at b;cases b
   .exact(g q d a b).2 h1 ag
theorem acW(an:l2 ops s)(hm:∀i o,ops[i]? = J o->(s i).nb<=(s (i+1)).nb){p:Nat}:∀d,p+d<=ops.size->(s p).nb<=(s (p+d)).nb
 |0,_=>b2 _
 |d+1,h=>by obtain⟨o,bK⟩:∃o,ops[p+d]? = J o:=⟨_,k' ag⟩;exact e2 (acW an hm d ag) (hm _ o bK)
variable{j:Nat}
theorem ake(an:l2 ops s)(hm:∀i o,ops[i]? = J o->(s i).nb<=(s (i+1)).nb){S:Nat->Bool}(e:∀p q op l,ops[p]? = J op->ops[q]? = J l->p<q->dW op=ae->dW l=ae->S q=ae->S p=ae){N b:Nat}(t:N<=ops.size)(u:j<=N)
  (m:∀q o,ops[q]? = J o->dW o=ae->((q<j/\S q=ai)\/(j<=q/\q<N/\S q=ae))->ja (s q) (s (q+1)) b):∀k,(s j).ak b=J k->b<(Fd ops s S N).nb->(Fd ops s S N).ak b=J k:=by
 obtain⟨p,x,n,r⟩:=Z_ an e N t;rw[n.1,n.2.1];intro k c f;rcases Nat.le_total p j with v|w
 .have down:∀d,p+d<=j->(s (p+d)).ak b=J k->(s p).ak b=J k:=by
   intro d;induction d with
   |zero=>intro _ h;exact h
   |succ d g=>intro ao h;obtain⟨o,bK⟩:∃o,ops[p+d]? = J o:=⟨_,k' ag⟩;refine g ag ?_;cases a:dW o with|true=>exact(m (p+d) o bK a (.inl ⟨by omega,(r _ _ bK a).2 ag ag⟩)).2 k h (gy f (acW an hm d ag))|false=>rw[<-(Km an bK a).1];exact h
  exact down (j-p) ag (by rw[show p+(j-p)=j by omega];exact c)
 .have up:∀d,j+d<=p->(s (j+d)).ak b=J k:=by
   intro d;induction d with
   |zero=>intro _;exact c
   |succ d g=>intro ao;obtain⟨o,bK⟩:∃o,ops[j+d]? = J o:=⟨_,k' ag⟩;have h:=g ag;cases a:dW o with|true=>exact(m (j+d) o bK a (.inr ⟨by omega,by omega,(r _ _ bK a).1 ag⟩)).1 k h|false=>show(s (j+d+1)).ak b=J k;rw[(Km an bK a).1];exact h
  have:=up (p-j) ag;rwa[show j+(p-j)=p by omega]at this
theorem TU(an:l2 ops s){k:Nat}{hi lo:Nat}(h:ac7 ops k lo hi=ae):∀d,lo+d<=hi->hi<=ops.size->(s (lo+d)).env k=(s lo).env k
 |0,_,_=>rfl
 |d+1,h1,h2=>by obtain⟨o,bK⟩:∃o,ops[lo+d]? = J o:=⟨_,k' ag⟩;refine(Yd an bK (λa=>?_)).trans (TU an h d ag h2);have h3:=cX.1 h (lo+d) (List.mem_range.2 ag);simp[bK,a]at h3;omega
theorem ZI{S:Nat->Bool}{i:Nat}{f:bw}(hi:ops[i]? = J f)(g:S i=ai)(b:∀j o,ops[j]? = J o->i<j->S j=ae->(∀k,o.dst=J k->f.dst≠J k)/\¬(dW o=ae/\dW f=ae)):∀t,t<=ops.size->Fd ops s (λj=>if j=i then ae else S j) t=if i<t then ed f (s (i+1)) (Fd ops s S t)else Fd ops s S t
 |0,_=>by simp[Fd]
 |t+1,cg=>by
  obtain⟨o,bK⟩:∃o,ops[t]? = J o:=⟨_,k' ag⟩;simp only[Fd,bK,(ZI hi g b t ag)];by_cases e:t=i
  .subst e;rw[hi]at bK;simp only[c4]at bK;subst bK;simp[g]
  .simp only[if_neg e];by_cases c:i<t
   .have a:i<t+1:=ag
    simp only[c,a];by_cases d:S t=ae
    .simp only[d];obtain⟨h1,h2⟩:=b t o bK c d;exact an8 h1 h2
    .simp only[d,mW,if_false]
   .have a:¬i<t+1:=ag
    simp only[c,a,if_false]
theorem UK(ops:Array bw):∀n,o5 ops n<=n
 |0=>b2 _
 |n+1=>by have:=UK ops n;simp[o5];split<;>omega
theorem GF{ops:Array bw}:∀(n j:Nat) (a:bw),o5 ops n<=j->j<n->ops[j]? = J a->∀q,q<j->jG ops 12 a q=ae
 |0,_,_,_,h,_=>absurd h (pv _)
 |n+1,j,a,h1,h2,bK=>by
  intro q b;simp[o5]at h1;split at h1
  .rename_i aj;by_cases c:j=n
   .subst c;simp only[_b,bK]at aj;exact cX.1 aj q (List.mem_range.2 b)
   .exact GF n j a h1 ag bK q b
  .omega
theorem rE{ops:Array bw}{listed:Array Bool}(a:∀j o,ops[j]? = J o->listed.getD j ae=ae->∀e∈o.after,Region.binds .any e=ae->listed.getD e.on ae=ae):∀(n:Nat) (o:bw) (i:Nat),(∀e∈o.after,Region.binds .any e=ae->listed.getD e.on ae=ae)->jG ops n o i=ae->listed.getD i ae=ae
 |0,_,_,_,h=>by simp[jG]at h
 |n+1,o,i,bK,h=>by
  simp only[jG]at h;obtain⟨e,c,h3⟩:=Array.any_eq_true'.1 h;simp only[bx,k_]at h3;have b:=bK e c h3.1.1;rcases h3.2 with h4|h4
  .rw[<-cU h4];exact b
  .split at h4
   .rename_i p d;exact rE a n p i (a _ _ d b) h4
   .cases h4
def FE(ops:Array bw):Bool:=(dy ops.size).all λj=>match ops[j]? with
 |none=>ae
 |some a=>a.after.all (λe=> !Region.binds .any e||ec e.on j)&&(!Nat.blt j (jZ ops)||(dy j).all λi=>match ops[i]? with
  |none=>ae
  |some b=>jG ops 12 a i||(b.apart ops a && !(dW b&&dW a)))
theorem tO(h:FE ops=ae){a:bw}(g:ops[j]? = J a):(∀e∈a.after,Region.binds .any e=ae->e.on<j)/\(j<jZ ops->∀i b,i<j->ops[i]? = J b->jG ops 12 a i=ae\/(b.apart ops a=ae/\¬(dW b=ae/\dW a=ae))):=by
 have c:j<ops.size:=(gG.1 g).1;simp[FE,List.mem_range]at h;have h1:=h j c;rw[g]at h1;simp only[bx,k_,cX,List.mem_range]at h1;refine⟨λe k aj=>?_,λd i b f hi=>?_⟩
 .have:=Array.all_eq_true_iff_forall_mem.1 h1.1 e k;simpa[aj]using this
 .have h2:=h1.2.resolve_left (λq=>by
   have:ec j (jZ ops)=true:=by rw[Nat.blt_eq];exact d
   rw[this]at q;cases q)
  have:=h2 i f;rw[hi]at this;simp[k_,bx]at this;refine this.imp_right λh=>⟨h.1,λe=>?_⟩;rcases h.2 with q|q
  .rw[e.1]at q;cases q
  .rw[e.2]at q;cases q
def PT(o:bw)(eE s:FS):Prop:=(dW o=ae->gL s eE)/\(zx o.op=ae->Er o eE.env eE.ak s)
def NS(ab:cB)(ops:Array bw)(o:bw)(eE b:FS):Prop:=∀(s:FS) (m:dg) (a:Act) (as_:U Act) (w:aK),(∀k,k∈o.looksAt ops->s.env k=eE.env k)->PT o eE s->s.n=eE.n->Rel ab m a as_ s w->w0 ab.P ops o a w λbC w'=>∃aR,Rel ab aR bC as_ (ed o b s) w'
theorem Px(an:l2 ops s)(S:Nat->Bool):∀t,t<=ops.size->(Fd ops s S t).n=(s 0).n
 |0,_=>rfl
 |t+1,cg=>by
  obtain⟨o,bK⟩:∃o,ops[t]? = J o:=⟨_,k' ag⟩;simp[Fd,bK];split
  .exact Px an S t ag
  .exact Px an S t ag
theorem abH(an:l2 ops s):∀t,t<=ops.size->(s t).n=(s 0).n
 |0,_=>rfl
 |t+1,cg=>by obtain⟨o,bK⟩:∃o,ops[t]? = J o:=⟨_,k' ag⟩;have:=congrArg FS.n (an t o bK);rw[this];exact abH an t ag
theorem ZK(an:l2 ops s):∀t,t<=ops.size->Fd ops s (λ_=>ae) t=s t
 |0,_=>rfl
 |t+1,cg=>by obtain⟨o,bK⟩:∃o,ops[t]? = J o:=⟨_,k' ag⟩;simp[Fd,bK,if_true,ZK an t ag];exact(an t o bK).symm
theorem DT{S T:Nat->Bool}:∀t,t<=ops.size->(∀j,j<t->S j=T j)->Fd ops s S t=Fd ops s T t
 |0,_,_=>rfl
 |t+1,cg,h=>by simp only[Fd,DT t ag (λj a=>h j ag),h t ag]
theorem an0(o:bw)(t:FS):ed o t t=t:=by
 refine FS.eq rfl ?_ rfl rfl rfl (by simp[ed]) (by simp[ed]) (by simp[ed]) (by simp[ed]);funext j;simp[ed];cases o.dst with
 |none=>rfl
 |some k=>
  simp only;split
  .rename_i h;rw[h]
  .rfl
theorem adH{n:Nat}{listed:Array Bool}(c:listed.size=n)(k:j<n)(d:listed.getD j ae=ai):I ((dy n).filter λi=> !(listed.setIfInBounds j ae).getD i ae)+1<=I ((dy n).filter λi=> !listed.getD i ae):=by
 have e:((dy n).filter λi=> !(listed.setIfInBounds j ae).getD i ae)=((dy n).filter λi=> !listed.getD i ae).filter λi=> !Nat.beq i j:=by
  rw[List.filter_filter];apply List.filter_congr;intro i hi;simp at hi;by_cases a:i=j
  .subst a;simp[c,hi]
  .rw[getD_set_ne ae (Ne.symm a),lZ a];simp
 rw[e];have b:j∈(dy n).filter λi=> !listed.getD i true:=by simp only[List.mem_filter,List.mem_range,d];exact⟨k,rfl⟩
 have:∀(l:U Nat),j∈l->I (l.filter λi=> !Nat.beq i j)+1<=I l:=by
  intro l;induction l with
  |nil=>intro h;cases h
  |cons x l f=>
   intro h;by_cases g:x=j
   .subst g;simp[ Nat.beq_refl,dj,if_false];have:=List.length_filter_le (λi=> !Nat.beq i x) l;omega
   .simp[ek]at h;have:=f (h.resolve_left (Ne.symm g));simp[ lZ g,jd,if_true];omega
 exact this _ b
theorem amm(he:∀j r,ops[j]? = J r->∀e∈r.after,Region.binds .any e=ae->e.on<j) :
  ∀(fuel N:Nat) (listed:Array Bool) (a:Act) (w:aK),N<=ops.size->(∀j r,N<=j->ops[j]? = J r->∀q,q<j->jG ops 12 r q=ae)->listed.size=ops.size->(∀i,i<ops.size->listed.getD i ae=aa (i<N))->I ((dy ops.size).filter λj=> !listed.getD j ae)<=fuel->wpListIn (jn ro) 0 P ops Q (ops.toList.drop N) a w->wpAnyIn (jn ro) 0 P .any ops Q fuel listed a w:=by
 intro fuel;have aJ:∀(N:Nat) (listed:Array Bool),(∀i,i<ops.size->listed.getD i ae=aa (i<N))->∀j o,ops[j]? = J o->listed.getD j ae=ae->∀e∈o.after,Region.binds .any e=ae->listed.getD e.on ae=true:=λN listed c j o d aZ e f aj=>by have l:=(gG.1 d).1;have g:=he j o d e f aj;rw[c j l,dM]at aZ;rw[c e.on ag,dM];omega
 have m:∀(N:Nat) (listed:Array Bool),listed.size=ops.size->(∀j r,N<=j->ops[j]? = J r->∀q,q<j->jG ops 12 r q=ae)->(∀i,i<ops.size->listed.getD i ae=aa (i<N))->∀j,j∈hM .any ops listed->j=N:=λN listed b s c j l=>by
  obtain⟨h0,o,d,n⟩:=mem_ready.1 l;have t:=(gG.1 d).1;rw[c j t,decide_eq_false_iff_not]at h0;rcases Nat.lt_trichotomy N j with h|h|h
  .have bn:=rE (aJ N listed c) 12 o N (λe f aj=>by have g:=he j o d e f aj;rw[<-aw.IJ ag];exact n e f aj) (s j o ag d N h)
   rw[c N ag,dM]at bn;omega
  .exact h.symm
  .omega
 induction fuel with
 |zero=>
  intro N listed a w kO s b c u k;have n:∀i,i<ops.size->listed.getD i ae=true:=λi hi=>by
   cases bk:listed.getD i ae with
   |true=>rfl
   |false=>
    have v:i∈(dy ops.size).filter λj=> !listed.getD j true:=by simp only[List.mem_filter,List.mem_range,bk];exact⟨hi,rfl⟩
    have:=List.length_pos_of_mem v;omega
  have ac:N=ops.size:=by
   rcases Nat.lt_or_ge N ops.size with h|h
   .have h1:=n N h;rw[c N h,dM]at h1;omega
   .omega
  refine⟨List.eq_nil_iff_forall_not_mem.2 λj l=>?_,?_⟩
  .exact _v
  .rw[g0 dh]at k;exact k
 |succ fuel iw=>
  intro N listed a w kO s b c u k;rcases Nat.lt_or_ge N ops.size with g|bL
  .obtain⟨o,d⟩:∃o,ops[N]? = J o:=⟨_,k' g⟩;have x:listed.getD N ae=false:=by rw[c N g];simp
   have y:N∈hM .any ops listed:=mem_ready.2 ⟨x,o,d,λe f aj=>by have h1:=he N o d e f aj;rw[aw.IJ ag,c e.on ag];simpa using h1⟩
   refine⟨λh=>(by rw[h]at y;cases y),λj l=>?_⟩;obtain rfl:=m N listed b s c j l;have ao:ops.toList.drop j=o::ops.toList.drop (j+1):=by
    have h1:j<I ops.toList:=xg
    rw[List.drop_eq_getElem_cons h1];congr 1;have h2:ops[j]? = J ops.toList[j]:=by simp
    rw[d]at h2;exact(Option.some.inj h2).symm
   have p:∀a w,wpListIn (jn ro) 0 P ops Q (ops.toList.drop (j+1)) a w->wpAnyIn (jn ro) 0 P .any ops Q fuel (listed.setIfInBounds j ae) a w:=λa w h=>by
    refine iw (j+1) _ a w ag (λq ayc cA bz=>s q ayc ag bz) (by simp[b]) (λi hi=>?_) ?_ h
    .by_cases z:i=j
     .subst z;simp[b,hi]
     .rw[getD_set_ne ae (Ne.symm z),c i hi];exact sI
    .have:=adH b g x;omega
   rw[ao]at k;unfold Go.wpOpIn;simp only[d];simp only[wpListIn]at k;split
   .rename_i hw;rw[if_pos hw]at k;exact bw.wpIn_mono p k
   .rename_i hw;rw[if_neg hw]at k;exact⟨k.1,p _ _ k.2⟩
  .refine⟨λ_=>?_,λj l=>?_⟩
   .rw[g0 dh]at k;exact k
   .exact _v
variable{as_:U Act}
theorem agU{ab:cB}{N:Nat}(kO:N<=ops.size)(dp:N=jZ ops)(ao:FE ops=ae)(cg:∀j l,N<=j->ops[j]? = J l->∀q,q<N->jG ops 12 l q=ae)(an:l2 ops s)(ap:∀i o,i<N->ops[i]? = J o->NS ab ops o (s i) (s (i+1)))(cP:∀i o,ops[i]? = J o->(s i).nb<=(s (i+1)).nb)(bL:∀i j IX l,ops[i]? = J IX->ops[j]? = J l->i<N->j<N->i≠j->dW IX=ae->zx l.op=ae->AJ ops i j=ai->∀b,CB l (s j).env b->ja (s i) (s (i+1)) b)(m4:∀m a w,Rel ab m a as_ (s N) w->∀(fuel:Nat) (listed:Array Bool),listed.size=ops.size->(∀i,i<ops.size->listed.getD i ae=aa (i<N))->I ((dy ops.size).filter λj=> !listed.getD j ae)<=fuel->wpAnyIn (jn ro) 0 ab.P .any ops Q fuel listed a w) :
  ∀(fuel:Nat) (listed:Array Bool) (a:Act) (w:aK),listed.size=ops.size->(∀j o,ops[j]? = J o->listed.getD j ae=ae->∀e∈o.after,Region.binds .any e=ae->listed.getD e.on ae=ae)->I ((dy ops.size).filter λj=> !listed.getD j ae)<=fuel->(∀q,N<=q->q<ops.size->listed.getD q ae=ai)->(∃m,Rel ab m a as_ (Fd ops s (λj=>listed.getD j ae) N) w)->wpAnyIn (jn ro) 0 ab.P .any ops Q fuel listed a w:=by
 have am:∀j l,ops[j]? = J l->∀e∈l.after,Region.binds .any e=ae->e.on<j:=λj l f=>(tO ao f).1;have cy:∀(fuel:Nat) (listed:Array Bool) (a:Act) (w:aK),listed.size=ops.size->I ((dy ops.size).filter λj=> !listed.getD j ae)<=fuel->(∀q,N<=q->q<ops.size->listed.getD q ae=ai)->(∀i,i<N->listed.getD i ae=ae)->(∃m,Rel ab m a as_ (Fd ops s (λj=>listed.getD j ae) N) w)->wpAnyIn (jn ro) 0 ab.P .any ops Q fuel listed a w:=by
  intro fuel listed a w t v x aZ ⟨m,hm⟩;rw[DT (T:=λ_=>ae) N kO (λj cN=>aZ j cN),ZK an _ kO]at hm;refine m4 m a w hm fuel listed t (λi hi=>?_) v;by_cases h:i<N
  .rw[aZ i h,aY h]
  .rw[x i ag hi,bl h]
 intro fuel;induction fuel with
 |zero=>
  intro listed a w t r v x bk;refine cy 0 listed a w t v x (λi hi=>?_) bk;cases dF:listed.getD i ae with
  |true=>rfl
  |false=>
   have dH:i∈(dy ops.size).filter λj=> !listed.getD j true:=by simp only[List.mem_filter,List.mem_range,dF];exact⟨by omega,rfl⟩
   have:=List.length_pos_of_mem dH;omega
 |succ fuel iw=>
  intro listed a w t r v x bk;by_cases y:∀i,i<N->listed.getD i ae=ae
  .exact cy (fuel+1) listed a w t v x y bk
  refine⟨λay=>?_,λj cN=>?_⟩
  .exfalso;have ff:∀i,i<N->listed.getD i ae=true:=by
    intro i;induction i using Nat.strongRecOn with
    |_ i fF=>
     intro hi;cases d:listed.getD i ae with
     |true=>rfl
     |false=>
      exfalso;obtain⟨o,bK⟩:∃o,ops[i]? = J o:=⟨_,k' ag⟩;have:i∈hM .any ops listed:=mem_ready.2 ⟨d,o,bK,λe he aj=>by have n:=am i o bK e he aj;rw[aw.IJ ag];exact fF e.on n ag⟩
      rw[ay]at this;cases this
   exact y ff
  obtain⟨z,l,f,aZ⟩:=mem_ready.1 cN;have dE:j<ops.size:=(gG.1 f).1;obtain⟨m,hm⟩:=bk;have bz:∀e∈l.after,Region.binds .any e=ae->listed.getD e.on ae=true:=λe he aj=>by have n:=(tO ao f).1 e he aj;rw[<-aw.IJ ag];exact aZ e he aj
  have ch:j<N:=by
   rcases Nat.lt_or_ge j N with h|h
   .exact h
   .exact absurd (λi hi=>rE r 12 l i bz (cg j l h f i hi)) y
  have dL:∀q c,ops[q]? = J c->listed.getD q ae=ae->q<N:=λq c g d=>by
   rcases Nat.lt_or_ge q N with h|h
   .exact h
   .rw[x q h (gG.1 g).1]at d;cases d
  have bW:∀q c,ops[q]? = J c->q<j->listed.getD q ae=ai->jG ops 12 l q=ai/\c.apart ops l=ae/\¬(dW c=ae/\dW l=ae):=λq c g ac d=>by
   rcases(tO ao f).2 ag q c ac g with bn|h
   .rw[rE r 12 l q bz bn]at d;cases d
   .refine⟨?_,h⟩;cases bn:jG ops 12 l q with|false=>rfl|true=>rw[rE r 12 l q bz bn]at d;cases d
  have u:∀q c,ops[q]? = J c->j<q->listed.getD q ae=ae->jG ops 12 c j=ai/\l.apart ops c=ae/\¬(dW l=ae/\dW c=ae):=λq c g ac d=>by
   rcases(tO ao g).2 (by rw[<-dp];exact dL q c g d) j l ac f with bn|h
   .have:=rE r 12 c j (r q c g d) bn;rw[z]at this;cases this
   .refine⟨?_,h⟩;cases bn:jG ops 12 c j with|false=>rfl|true=>have:=rE r 12 c j (r q c g d) bn;rw[z]at this;cases this
  have d_:∀k,k∈l.looksAt ops->(Fd ops s (λi=>listed.getD i ae) N).env k=(s j).env k:=λk aV=>by
   have:=Zv (s:=s) an (S:=λi=>listed.getD i ae) (k:=k) (i:=j) N kO (λq c g _ d'=>by
    rcases Nat.lt_trichotomy q j with n|rfl|b9
    .refine⟨λ_=>n,λ_=>?_⟩;cases d:listed.getD q ae with|true=>rfl|false=>exact absurd aV ((bw.apart_spec (bW q c g n d).2.1).1 k d')
    .simp only[z];simp
    .refine⟨λd=>?_,λh=>by omega⟩;exact absurd aV ((bw.apart_spec (u q c g b9 d).2.1).2.2 k d'))
   rwa[show min N j=j by omega]at this
  have eS:dW l=ae->gL (Fd ops s (λi=>listed.getD i ae) N) (s j):=λcg=>by
   have:=aee (s:=s) an (S:=λi=>listed.getD i ae) (i:=j) N kO (λq c g _ aJ=>by
    rcases Nat.lt_trichotomy q j with n|rfl|b9
    .refine⟨λ_=>n,λ_=>?_⟩;cases d:listed.getD q ae with|true=>rfl|false=>exact absurd ⟨aJ,cg⟩ (bW q c g n d).2.2
    .simp only[z];simp
    .refine⟨λd=>?_,λh=>by omega⟩;exact absurd ⟨cg,aJ⟩ (u q c g b9 d).2.2)
   rwa[show min N j=j by omega]at this
  have jK:zx l.op=ae->Er l (s j).env (s j).ak (Fd ops s (λi=>listed.getD i ae) N):=λhm b k ef=>by
   refine ake an cP (λp q op c bn g fG fr aJ d=>?_) kO ag (λq c g aJ cf=>?_) k
   .rcases(tO ao g).2 (by rw[<-dp];exact dL q c g d) p op fG bn with h|h
    .exact rE r 12 c p (r q c g d) h
    .exact absurd ⟨fr,aJ⟩ h.2
   .rcases cf with ⟨n,d⟩|⟨hJ,gk,d⟩
    .refine bL q j c l g f ag ch ag aJ hm ?_ b ef;have h1:ec q j=true:=by rw[Nat.blt_eq];exact n
     simp[AJ,h1,f];exact(bW q c g n d).1
    .have ea:q≠j:=λe=>by rw[e,z]at d;cases d
     refine bL q j c l g f gk ch ea aJ hm ?_ b ef;have h1:ec q j=false:=by cases aj:ec q j with|false=>rfl|true=>rw[Nat.blt_eq]at aj;omega
     simp[AJ,h1,g,lZ ea,Bool.false_or];exact(u q c g ag d).1
  refine((ap j l ch f _ m a as_ w d_ ⟨eS,jK⟩ ((Px an _ _ kO).trans (abH an j ag).symm) hm).mono λbC w' ⟨aR,c0⟩=>?_).wpOp f;refine iw _ bC w' (by simp[t]) ?_ ?_ ?_ ⟨aR,?_⟩
  .intro q c g d e he aj;by_cases ac:q=j
   .subst ac;rw[f]at g;simp at g;subst g;have n:=(tO ao f).1 e he aj;rw[getD_set_ne ae ag];exact bz e he aj
   .rw[getD_set_ne ae (Ne.symm ac)]at d;have:=r q c g d e he aj;by_cases du:e.on=j
    .rw[du];simp[t,dE]
    .rw[getD_set_ne ae (Ne.symm du)];exact this
  .have:=adH t dE z;omega
  .intro q gz gN;rw[getD_set_ne ae ag];exact x q gz gN
  .have cE:=ZI (s:=s) f z (S:=λi=>listed.getD i ae) (λq c g b9 d=>by have h:=u q c g b9 d;refine⟨λk aV he=>(bw.apart_spec h.2.1).2.1 k he aV,λcf=>h.2.2 ⟨cf.2,cf.1⟩⟩) N kO
   rw[if_pos ch]at cE;rw[<-cE]at c0;rw[DT (T:=λi=>if i=j then ae else listed.getD i ae) N kO (λi hi=>by
    by_cases cZ:i=j
    .subst cZ;simp[t]
    .rw[getD_set_ne ae (Ne.symm cZ)];simp[cZ])]
   exact c0
end
section
variable {ab:cB}{m aR:dg}{a:Act}{as_:U Act}{s s':FS}{w w':aK}
theorem Rel.step(h:Rel ab m a as_ s w)(u:s'.n=s.n)(c:s'.env=s.env)(d:s'.cd=s.cd)(e:s'.lt=s.lt)(j:s'.bI=s.bI)(l:bF (fj m s) w w')(f:eD (vx ab m s w) (vx ab aR s' w'))
  (eb:∀b k,s'.ak b=J k->b<s'.nb/\gX (vx ab aR s' w') (aR.ak b) k) (hZ:∀t,s'.cc t->t<s'.ba)
  (inj:∀b bQ,s'.ak b≠ah->s'.ak bQ≠ah->aR.ak b=aR.ak bQ->b=bQ) (gb:∀t t' g o o',s'.cc t->s'.cc t'->aR.a9 t=J (g,o)->aR.a9 t' = J (g,o')->t=t')
  (fH:∀b t g o,s'.ak b≠ah->s'.cc t->aR.a9 t=J (g,o)->aR.ak b≠g) (own:∀b i,fj aR s' b i->b<w'.heap.size/\(fj m s b i\/w.heap.size<=b)) (p:s'.df=s.df:=by rfl):Rel ab aR a as_ s' w':=by
 have q:s.nb<=s'.nb:=f.nb;have r:s.ba<=s'.ba:=f.ba;refine⟨h.dV.later (λk i hi=>(h.own k i hi).2) l,?_,?_,by rw[d];exact e2 h.cd q,by rw[e];exact e2 h.lt r,eb,hZ,inj,gb,fH,λb i hi=>?_,h.fE,h.g1.later f⟩
 .rw[u,c,p];exact h.env.later f
 .rw[d,e,j];exact h.gI.later f h.cd h.lt
 .obtain⟨h1,h2⟩:=own b i hi;refine⟨h1,?_⟩;rcases h2 with h2|h2
  .exact(h.own b i h2).2
  .exact .inr (e2 h.dV.size h2)
theorem Rel.l7(h:Rel ab m a as_ s w){b:Nat}(aj:s.ak b≠ah):m.ak b<w.heap.size:=(h.own (m.ak b) 0 (.inl ⟨b,aj,rfl⟩)).1
variable{g:Nat}{t:Nat}
theorem Rel.kr(h:Rel ab m a as_ s w){o:Nat}(b:s.cc t)(c:m.a9 t=J (g,o)):g<w.heap.size:=(h.own g o (.inr ⟨t,o,b,c,b2 _⟩)).1
variable{k:c_}
theorem Rel.afE(h:Rel ab m a as_ s w)(j:bF er w w')(aJ:w.heap.size<=g)(v:g<w'.heap.size)(p:∀x',eD (vx ab m s w) x'->x'.w=w'->gX x' g k) :
  ∃aR,Rel ab aR a as_ { s with ak:=λb=>if b=s.nb then J k else s.ak b,nb:=s.nb+1 } w'/\aB (vx ab aR { s with ak:=λb=>if b=s.nb then J k else s.ak b,nb:=s.nb+1 } w') (.ptr s.nb 0) (.pointer (J ⟨g,0,ah⟩))/\eD (vx ab m s w) (vx ab aR { s with ak:=λb=>if b=s.nb then J k else s.ak b,nb:=s.nb+1 } w'):=by
 have aj:∀k,k<w.heap.size->w'.heap[k]? = w.heap[k]? :=λk aV=>j.block k aV (λ_ h=>h);let aR:dg:={ m with ak:=λb=>if b=s.nb then g else m.ak b };let s':FS:={ s with ak:=λb=>if b=s.nb then J k else s.ak b,nb:=s.nb+1 };have aZ:∀b,s.ak b≠ah->b<s.nb:=λb aj=>by cases z:s.ak b with|none=>exact absurd z aj|some k=>exact(h.eb b k z).1
 have dI:∀b i,fj aR s' b i->fj m s b i\/w.heap.size<=b:=by
  rintro b i (⟨q,n,rfl⟩|⟨t,o,h1,h2,h3⟩)
  .by_cases f:q=s.nb
   .grind
   .left;have d:s.ak q≠none:=by simpa[s',f]using n
    exact .inl ⟨q,d,by simp[aR,f]⟩
  .exact .inl (.inr ⟨t,o,h1,h2,h3⟩)
 have u:eD (vx ab m s w) (vx ab aR s' w'):=by
  refine⟨j.mono (λ_ _ h=>h.elim),?_,rfl,λb c=>?_,Nat.le_succ _,b2 _,λt _ cI=>⟨cI,rfl,λg o cP=>aj g (h.kr cI cP)⟩⟩
  .rintro b i (e4|r)
   .exact .inl (.inl e4)
   .rcases dI b i r with h|h
    .exact .inl (.inr h)
    .exact .inr h
  .have:b<s.nb:=c;simp[vx,aR,Nat.ne_of_lt this]
 refine⟨aR,h.step rfl rfl rfl rfl rfl (j.mono (λ_ _ h=>h.elim)) u ?_ h.hZ ?_ h.gb ?_ ?_,?_⟩
 .intro b q n;by_cases c:b=s.nb
  .subst c;have d:k=q:=by simpa using n
   subst d;exact⟨Nat.lt_succ_self _,by simpa[aR]using p _ u rfl⟩
  .have d:s.ak b=J q:=by simpa[ c]using n
   obtain⟨h1,h2⟩:=h.eb b q d;have cF:aR.ak b=m.ak b:=by simp[aR,c]
   refine⟨Nat.lt_succ_of_lt h1,?_⟩;rw[cF];exact h2.later u (aj _ (h.l7 (by rw[d];simp)))
 .intro b bQ h1 h2 x;by_cases c:b=s.nb<;>by_cases e:bQ = s.nb
  .rw[c,e]
  .exfalso;have y:s.ak bQ≠none:=by simpa[ e]using h2
   have:=h.l7 y;simp[aR,c]at x;omega
  .exfalso;have l:s.ak b≠none:=PN
   have:=h.l7 l;simp[aR,e]at x;omega
  .refine h.inj b bQ PN (by simpa[ e]using h2) ?_;simpa[aR,c,e]using x
 .intro b t g o h1 h2 h3;by_cases c:b=s.nb
  .have:=h.kr h2 h3;simp[aR,c];omega
  .have l:s.ak b≠none:=PN
   have:=h.fH b t g o l h2 h3;simpa[aR,c]using this
 .intro b i r;refine⟨?_,dI b i r⟩;rcases dI b i r with cf|cf
  .exact gy (h.own b i cf).1 j.size
  .rcases r with ⟨q,n,rfl⟩|⟨t,o,h1,h2,h3⟩
   .by_cases f:q=s.nb
    .simpa[aR,f]using v
    .have d:s.ak q≠none:=by simpa[ f]using n
     have:=h.l7 d;simp[aR,if_neg f];omega
   .exact gy (h.kr h1 h2) j.size
 .refine⟨?_,u⟩;simp[aB];exact⟨Nat.lt_succ_self _,by simp[vx,aR]⟩
theorem Rel.newAt(h:Rel ab m a as_ s w)(d:bF er w w')(e:w.heap.size<=g)(f:g<w'.heap.size)(c:∀x',eD (vx ab m s w) x'->x'.w=w'->gX x' g k) :
  ∃aR,Rel ab aR a as_ { s with ak:=λb=>if b=s.nb then J k else s.ak b,nb:=s.nb+1 } w'/\aB (vx ab aR { s with ak:=λb=>if b=s.nb then J k else s.ak b,nb:=s.nb+1 } w') (.ptr s.nb 0) (.pointer (J ⟨g,0,ah⟩)):=
 let ⟨aR,h1,h2,_⟩:=h.afE d e f c
 ⟨aR,h1,h2⟩
variable{vs:U aA}
theorem Rel.new(h:Rel ab m a as_ s w){t:bD}(d:bF er w w')(e:w.heap.size<w'.heap.size)(c:∀x',eD (vx ab m s w) x'->x'.w=w'->gX x' w.heap.size k)(ay4:vs=vs)(ay2:t=t) :
  ∃aR,Rel ab aR a as_ { s with ak:=λb=>if b=s.nb then J k else s.ak b,nb:=s.nb+1 } w'/\aB (vx ab aR { s with ak:=λb=>if b=s.nb then J k else s.ak b,nb:=s.nb+1 } w') (.ptr s.nb 0) (.pointer (J ⟨w.heap.size,0,ah⟩)):=h.newAt d (b2 _) e c
theorem Rel.write(h:Rel ab m a as_ s w){b:Nat}{k0:c_}(u:s.ak b=J k0)(p:bF (λc _=>c=m.ak b) w w')(v:∀x',eD (vx ab m s w) x'->x'.w=w'->gX x' (m.ak b) k):Rel ab m a as_ { s with ak:=λc=>if c=b then J k else s.ak c } w':=by
 have l:s.ak b≠none:=by rw[u];simp
 have d:∀c,(if c=b then J k else s.ak c)≠ah↔s.ak c≠none:=λc=>by
  by_cases an:c=b
  .subst an;simp[l]
  .simp[an]
 let s':FS:={ s with ak:=λc=>if c=b then J k else s.ak c };have dI:∀c i,fj m s' c i↔fj m s c i:=λc i=>by
  constructor
  .rintro(⟨q,r,rfl⟩|x)
   .exact .inl ⟨q,(d q).1 r,rfl⟩
   .exact .inr x
  .rintro(⟨q,r,rfl⟩|x)
   .exact .inl ⟨q,(d q).2 r,rfl⟩
   .exact .inr x
 have f:∀c,c<w.heap.size->c≠m.ak b->w'.heap[c]? = w.heap[c]? :=λc an y=>p.block c an (λ_ h=>y h);have n:bF (fj m s) w w':=p.mono λc i an=>.inl ⟨b,l,an.symm⟩;have z:eD (vx ab m s w) (vx ab m s' w'):=by
  refine⟨n.mono (λ_ _ h=>.inr h),?_,rfl,λ_ _=>rfl,b2 _,b2 _,λt _ cI=>⟨cI,rfl,λg o cP=>f g (h.kr cI cP) (λe=>h.fH b t g o l cI cP e.symm)⟩⟩;rintro c i (e4|bO)
  .exact .inl (.inl e4)
  .exact .inl (.inr ((dI c i).1 bO))
 refine h.step rfl rfl rfl rfl rfl n z ?_ h.hZ (λc cj h1 h2=>h.inj c cj ((d c).1 h1) ((d cj).1 h2)) h.gb (λc t g o h1=>h.fH c t g o ((d c).1 h1)) (λc i bO=>?_)
 .intro c q r;by_cases an:c=b
  .subst an;have j:k=q:=by simpa using r
   subst j;exact⟨(h.eb c k0 u).1,v _ z rfl⟩
  .have j:s.ak c=J q:=by simpa[ an]using r
   obtain⟨h1,h2⟩:=h.eb c q j;exact⟨h1,h2.later z (f _ (h.l7 (by rw[j];simp)) (λe=>an (h.inj c b (by rw[j];simp) l e)))⟩
 .have:=(dI c i).1 bO;exact⟨gy (h.own c i this).1 p.size,.inl this⟩
variable{t0:af Nat}
theorem Rel.right(h:Rel ab m a as_ s w){p:af (Nat×Nat)}(n:bF (λb i=>∃t o,t0=J t/\s.cc t/\m.a9 t=J (b,o)/\o<=i) w w')
  (y:∀g o,p=J (g,o)->g<w'.heap.size/\(w.heap.size<=g\/∃t o',t0=J t/\s.cc t/\m.a9 t=J (g,o')/\o'<=o)) :
  Rel ab { m with a9:=λt=>if t=s.ba then p else m.a9 t } a as_ { s with cc:=λt=>(s.cc t/\t0≠J t)\/t=s.ba,ba:=s.ba+1 } w'/\eD (vx ab m s w) (vx ab { m with a9:=λt=>if t=s.ba then p else m.a9 t } { s with cc:=λt=>(s.cc t/\t0≠J t)\/t=s.ba,ba:=s.ba+1 } w'):=by
 let aR:dg:={ m with a9:=λt=>if t=s.ba then p else m.a9 t };let s':FS:={ s with cc:=λt=>(s.cc t/\t0≠J t)\/t=s.ba,ba:=s.ba+1 };have v:bF (fj m s) w w':=n.mono λb i ⟨t,o,_,h1,h2,h3⟩=>.inr ⟨t,o,h1,h2,h3⟩;have l:∀c,c<w.heap.size->(∀t o,t0=J t->s.cc t->m.a9 t=J (c,o)->False)->w'.heap[c]? = w.heap[c]? :=λc an cJ=>n.block c an (λi ⟨t,o,h1,h2,h3,_⟩=>cJ t o h1 h2 h3);have gp:∀t,s'.cc t->t≠s.ba->s.cc t/\t0≠J t/\aR.a9 t=m.a9 t:=λt d z=>by
  rcases d with d|d
  .exact⟨d.1,d.2,by simp[aR,z]⟩
  .exact absurd d z
 have f:aR.a9 s.ba=p:=by simp[aR]
 have dI:∀b i,fj aR s' b i->fj m s b i\/w.heap.size<=b:=by
  rintro b i (⟨q,cA,rfl⟩|⟨t,o,h1,h2,h3⟩)
  .exact .inl (.inl ⟨q,cA,rfl⟩)
  .by_cases d:t=s.ba
   .subst d;rw[f]at h2;rcases(y b o h2).2 with cf|⟨t,o',_,e,x,j⟩
    .exact .inr cf
    .exact .inl (.inr ⟨t,o',e,x,e2 j h3⟩)
   .obtain⟨e,_,j⟩:=gp t h1 d;rw[j]at h2;exact .inl (.inr ⟨t,o,e,h2,h3⟩)
 have e5:eD (vx ab m s w) (vx ab aR s' w'):=by
  refine⟨v.mono (λ_ _ h=>.inr h),?_,rfl,λ_ _=>rfl,b2 _,Nat.le_succ _,λt d cI=>?_⟩
  .rintro b i (e4|bO)
   .exact .inl (.inl e4)
   .rcases dI b i bO with h|h
    .exact .inl (.inr h)
    .exact .inr h
  .have d:t<s.ba:=d;obtain⟨e,x,j⟩:=gp t cI (Nat.ne_of_lt d);exact⟨e,j,λg o cP=>l g (h.kr e cP) (λt' o' cF aS r=>x (by rw[cF,h.gb t' t g o' o aS e r cP]))⟩
 refine⟨h.step rfl rfl rfl rfl rfl v e5 ?_ ?_ h.inj ?_ ?_ ?_,e5⟩
 .intro b k aV;obtain⟨h1,h2⟩:=h.eb b k aV;have aJ:s.ak b≠none:=by rw[show s.ak b=J k from aV];simp
  exact⟨h1,h2.later e5 (l _ (h.l7 aJ) (λt o _ aS r=>h.fH b t _ o aJ aS r rfl))⟩
 .rintro t (⟨h1,_⟩|rfl)
  .exact Nat.lt_succ_of_lt (h.hZ t h1)
  .exact Nat.lt_succ_self _
 .intro t t' g o o' h1 h2 h3 h4;by_cases d:t=s.ba<;>by_cases u:t' = s.ba
  .rw[d,u]
  .exfalso;subst d;rw[f]at h3;obtain⟨e,x,j⟩:=gp t' h2 u;rw[j]at h4;rcases(y g o h3).2 with cf|⟨t,dq,cF,aS,r,_⟩
   .have:=h.kr e h4;omega
   .exact x (by rw[cF,h.gb t t' g dq o' aS e r h4])
  .exfalso;subst u;rw[f]at h4;obtain⟨e,x,j⟩:=gp t h1 d;rw[j]at h3;rcases(y g o' h4).2 with cf|⟨t',dq,cF,aS,r,_⟩
   .have:=h.kr e h3;omega
   .exact x (by rw[cF,h.gb t' t g dq o aS e r h3])
  .obtain⟨e,_,j⟩:=gp t h1 d;obtain⟨dN,_,gl⟩:=gp t' h2 u;rw[j]at h3;rw[gl]at h4;exact h.gb t t' g o o' e dN h3 h4
 .intro b t g o h1 h2 h3;by_cases d:t=s.ba
  .subst d;rw[f]at h3;rcases(y g o h3).2 with cf|⟨t,dq,_,aS,r,_⟩
   .have:=h.l7 h1;show m.ak b≠g;omega
   .exact h.fH b t g dq h1 aS r
  .obtain⟨e,_,j⟩:=gp t h2 d;rw[j]at h3;exact h.fH b t g o h1 e h3
 .intro b i bO;refine⟨?_,dI b i bO⟩;rcases bO with ⟨q,cA,rfl⟩|⟨t,o,h1,h2,h3⟩
  .exact gy (h.l7 cA) n.size
  .by_cases d:t=s.ba
   .subst d;rw[f]at h2;exact(y b o h2).1
   .obtain⟨e,_,j⟩:=gp t h1 d;rw[j]at h2;exact gy (h.kr e h2) n.size
end
section
variable {R:Type}{px:aM R}{ab:cB}
def gi(t s:FS):FS:={ s with ak:=t.ak,nb:=t.nb,cc:=t.cc,ba:=t.ba }
def sh(P:cx)(a:Act)(w:aK)(o:bw)(jH:aA->aK->Prop):Prop:=(∃v w',(cl a.eval o).run P w = .ok (.value v) w'/\jH v w')\/∃f args w1,(cl a.eval o).run P w = .ok (.enter f args) w1/\Calls P f args w1 λdv w'=>∃v,dv = .returned v/\jH v w'
theorem sh.runs{jH:aA->aK->Prop}(h:sh P a w o jH)(b:∀v w',jH v w'->K (a.put o.dst v) w'):l9 P a w o K:=by
 rcases h with ⟨v,w',h1,h2⟩|⟨f,args,w1,h1,h2⟩
 .exact .inl ⟨v,w',h1,b v w' h2⟩
 .refine .inr (.inr ⟨f,args,w1,h1,h2.mono ?_⟩)
  grind
structure me (ab:cB) (px:aM R) (o:bw) (st aG:bc) (d:D):Prop where
 same:aG.n=st.n/\aG.env=st.env/\aG.cd=st.cd/\aG.lt=st.lt/\(aG.bI,aG.df)=(st.bI,st.df)
 run:∀(s:FS) (m:dg) (a:Act) (as_:List Act) (w:aK),(∀t x,x∈o.op.operands->hK px s.env t x=hK px (get st.env) t x)->gL s (az st)->Rel ab m a as_ s w->sh ab.P a w o λv w'=>∃aR,Rel ab aR a as_ (gi (az aG) s) w'/\aB (vx ab aR (gi (az aG) s) w') d v
theorem xE{st:FS}(h:gL s st):gi st s=s:=by obtain⟨h1,h2,h3,h4⟩:=h;simp[gi,<-h1,<-h2,<-h3,<-h4]
variable{st:bc}
theorem apf{d:D}(h:FX ab px o (get st.env) (bu st.ak) d):me ab px o st st d:=⟨⟨rfl,rfl,rfl,rfl,rfl⟩,λs m a as_ w f c e=>by obtain⟨v,h1,h2⟩:=h s m a as_ w f (λ_ b k _ aj _=>(congrFun c.1 b).trans aj) e;rw[xE c];exact .inl ⟨v,w,h1,m,e,h2⟩⟩
theorem fi(l:U (Nat×c_))(k b:Nat)(v:c_):bu ((k,v)::l) b=if b=k then J v else bu l b:=by
 simp[bu];by_cases h:b=k
 .subst h;simp
 .simp[lZ (Ne.symm h),h]
theorem oW{b:Nat}{k:c_}:∀(l:U (Nat×c_)) (c:Nat),bu (eZ l b k) c=if c=b then(bu l b).map (λ_=>k)else bu l c
 |[],c=>by simp[eZ,bu]
 |(q,v)::l,c=>by
  simp[eZ];by_cases a:q=b
  .subst a;simp;rw[fi,fi,fi]
   grind
  .simp[lZ a];rw[fi,fi,oW l c,fi]
   grind
variable{us:U aA}{vs:U aA}
theorem uf{b:Nat}(h:aw.bF [b] w w'){t:bD}(h1:w.heap[b]? = J (.cells vs.toArray t (0,0)))(h2:w'.heap[b]? = J (.cells us.toArray t (0,0)))(j:I us=I vs):bF (λc _=>c=b) w w':=
 ⟨h.os,h.tape,h.output,h.size,λk g d=>h.block k g (by simpa using (d 0)),λc i v aE d=>by
  rw[aK.cell?_of_block (a:=⟨c,i,ah⟩) (h.block c (Ab aE) tB)];exact aE,λc cs t' f e=>by
  by_cases an:c=b
  .grind
  .exact⟨cs,f,by rw[h.block c (gG.1 e).1 xe];exact e,rfl⟩⟩
variable{zs:U aA}
theorem as8{t:bD}(h:aw.sE P t=J zs)(w:aK):∃z,(zeroValue t).run P w = .ok z w/\z.cells=zs.toArray:=by obtain⟨i,z,hi,a,an⟩:=G0 h;exact⟨z,by simp[zeroValue,typeInfo,hi,a],an⟩
theorem uw(st:bc)(k:c_)(s:FS)(h:gL s (az st)):gi (az (hE st k)) s={ s with ak:=λb=>if b=s.nb then J k else s.ak b,nb:=s.nb+1 }:=by
 obtain⟨h1,h2,h3,h4⟩:=h;refine FS.eq rfl rfl rfl rfl rfl ?_ ?_ ?_ ?_
 .funext b;simp[gi,az,hE,fi,h1,h2]
 .simp[gi,az,hE,h2]
 .simp[gi,az,hE,h3]
 .simp[gi,az,hE,h4]
variable{c:b1}
theorem asY{x:cM}:∀{n:Nat},pQ ((eK n (enc c (e6 c))).flatten) zs=ae->I zs=n*aL c/\∀i y j d,(eK n (e6 c))[i]? = J y->(enc c y)[j]? = J d->∃u,zs[i*aL c+j]? = J u/\eI x.S x.w d u:=by
 intro n h;obtain⟨k,_⟩:=yb (x:=x) h;have a:I zs=n*aL c:=by rw[k.len];simp[ ij]
 refine⟨a,λi y j d m ao=>?_⟩;have f:i<n:=jk
 have g:y=e6 c:=jk
 subst g;have b:∀(n i:Nat),i<n->((eK n (enc c (e6 c))).flatten)[i*aL c+j]? = J d:=by
  intro n;induction n with
  |zero=>intro i h;omega
  |succ n o=>
   intro i h;rw[List.replicate_succ,mX];cases i with
   |zero=>grind
   |succ i=>
    rw[List.getElem?_append_right (by rw[ij,Nat.succ_mul];omega),ij]
    grind
 obtain⟨u,l,e⟩:=k.get (b n i f);exact⟨u,l,Oy e (.inl rfl) ⟨c,e6 c,j,ao⟩⟩
theorem oZ(w:aK)(o:Obj):bF er w (w.alloc o)/\w.heap.size<(w.alloc o).heap.size:=⟨bF.alloc _ _ _,by simp⟩
theorem l'(w:aK)(o:Obj):(w.alloc o).heap[w.heap.size]? = J o:=by show(w.heap.push o)[w.heap.size]? = _;simp
variable{k:c_}{t:Nat}
theorem HP(q:eR ab px)(r:o.op = .alloc t)(y:(∃n c,px.aO t = .arr n c/\k = .row c n (eK n (e6 c)))\/∃z,px.aO t ≠ .no/\(px.aO t).zero=J z/\k=Om t (cells z)):me ab px o st (hE st k) (.ptr st.nb 0):=by
 refine⟨⟨rfl,rfl,rfl,rfl,rfl⟩,λs m a as_ w aW h ay=>?_⟩;have main:∀zs,aw.sE ab.P t=J zs->(∀x',eD (vx ab m s w) x'->x'.w=w.alloc (.cells zs.toArray t)->gX x' w.heap.size k)->sh ab.P a w o λv w'=>∃aR,Rel ab aR a as_ (gi (az (hE st k)) s) w'/\aB (vx ab aR (gi (az (hE st k)) s) w') (.ptr st.nb 0) v:=by
  intro zs i e;obtain⟨z,j,l⟩:=as8 i w;obtain⟨aR,h1,h2⟩:=ay.new (vs:=zs) (t:=t) (oZ w _).1 (oZ w _).2 e rfl rfl;refine .inl ⟨.pointer (J ⟨w.heap.size,0,ah⟩),w.alloc (.cells zs.toArray t),?_,aR,?_,?_⟩
  .simp only[cl,r,Instr.alloc,dG,j,newVar,newRow,newObj,eW,fg,Sem.run,aK.alloc,l]
  .rw[uw st k s h];exact h1
  .rw[uw st k s h];have cF:st.nb=s.nb:=h.2.1.symm;rw[cF];exact h2
 rcases y with ⟨n,c,f,rfl⟩|⟨z,p,i,rfl⟩
 .obtain⟨zs,b,d⟩:=HZ (q.aO t) (by rw[f];simp) (z:=.agg ((eK n (enc c (e6 c))).flatten)) (by rw[f];rfl);refine main zs b λx' e5 g=>?_;obtain⟨h1,h2⟩:=asY (x:=x') (c:=c) (n:=n) d;exact⟨by simp,zs,t,by rw[g];exact l' _ _,by simpa using h1,h2⟩
 .obtain⟨zs,b,d⟩:=HZ (q.aO t) p i;refine main zs b λx' e5 g=>?_;obtain⟨h1,h2⟩:=yb (x:=x') d;generalize cells z=ay6 at h1 h2;unfold Om;split
  .simp only[aX]at h1;obtain⟨u,us,rfl,bd,oI,aJ,rfl,ei,rfl⟩:=h1;simp[aB]at bd;exact⟨⟨_,_,rfl⟩,u,oI,by rw[g];exact l' _ _,.inl bd,ei⟩
  .exact⟨h2,zs,t,by rw[g];exact l' _ _,h1⟩
variable{x:ct}
theorem aca(i:o.op = .box t x){d:D}(ao:aF px st t x=J d)(l:my d=ae):me ab px o st (hE st (O8 d)) (.ptr st.nb 0):=by
 refine⟨⟨rfl,rfl,rfl,rfl,rfl⟩,λs m a as_ w z g n=>?_⟩;rw[cR,<-z _ x (by simp[i,Op.operands])]at ao;obtain⟨v,_,aE,b⟩:=n.env.aF ao;have p:(w.alloc (.cells v.cells t)).heap[w.heap.size]? = J (.cells v.cells.toList.toArray t (0,0)):=by simpa using l' w (.cells v.cells t)
 obtain⟨aR,h1,h2⟩:=n.new (k:=O8 d) (vs:=v.cells.toList) (t:=t) (oZ w (.cells v.cells t)).1 (oZ w _).2 (λx' q r=>by
  cases d with
  |aI c y=>simp[aB]at b;obtain⟨cI,vs,rfl,f,h⟩:=b;exact⟨cI,vs,t,by rw[r];simpa[aA.cells]using p,f,λj e he=>by obtain⟨u,hu,bO⟩:=h j e he;exact⟨u,hu,q.rf bO⟩⟩
  |_=>exact⟨l,v.cells.toList,t,by rw[r];exact p,aX.later q _ _ (BB b l).oE⟩) rfl rfl
 refine .inl ⟨.pointer (J ⟨w.heap.size,0,ah⟩),w.alloc (.cells v.cells t),?_,aR,?_,?_⟩
 .simp only[cl,i,Instr.box,aE,newVar,newRow,newObj,dG,eW,fg,Sem.run,aK.alloc]
 .rw[uw st _ s g];exact h1
 .rw[uw st _ s g];have cF:st.nb=s.nb:=g.2.1.symm;rw[cF];exact h2
variable{y:ct}
theorem SI(bn:eR ab px)(bK:o.op = .makeSlice t x y)(v:px.aO t = .sl c){k eh:b'}{n q:Int}(aW:aF px st 0 x=J (.int k n))(bN:aF px st 0 y=J (.int eh q))(g : 0<=n/\n<=q)(f:q<=(bJ:Int)):me ab px o st (hE st (.dyn c (eK q.toNat (e6 c)))) (.gB st.nb c 0 n):=by
 refine⟨⟨rfl,rfl,rfl,rfl,rfl⟩,λs m a as_ w aJ eS ay=>?_⟩;rw[cR,<-aJ _ x ev]at aW;rw[cR,<-aJ _ y ev]at bN;obtain⟨v1,_,cE,am⟩:=ay.env.aF aW;obtain⟨v2,_,cZ,dp⟩:=ay.env.aF bN;obtain rfl:=aB.int am;obtain rfl:=aB.int dp;obtain⟨by_,⟨hu,i0,z,aZ,dB,b,ap,dH,c0⟩,e,_⟩:=jC (bn.aO t) v;obtain⟨zs,dE,dL⟩:=arR (bn.aO t) v;obtain⟨i1,Ja,h,l,bk⟩:=G0 dE;rw[aZ]at h;simp at h;subst h;rw[dB]at l;simp at l;subst l;have f:q<=274877906944:=f;have cy:by_*q.toNat<=512*274877906944:=Nat.mul_le_mul e ag;have d_:(by_:Int)*q=((by_*q.toNat:Nat):Int):=by rw[Int.natCast_mul,Int.toNat_of_nonneg ag]
 have bz:=run_make (P:=ab.P) w t (ab.el c) i0 z hu aZ dB k eh n q g.1 g.2 (by rw[ap,d_];omega) ag;have d':I zs=aL c:=by rw[<-dH,bk];simp
 obtain⟨aR,h1,h2⟩:=ay.new (k:=.dyn c (eK q.toNat (e6 c))) (vs:=[]) (t:=t) (oZ w (.cells (madeCells z.cells (q.toNat*i0.size)) (ab.el c))).1 (oZ w _).2 (λx' e5 hw=>by
  obtain⟨p,_⟩:=yb (x:=x') dL;refine⟨by simp[ c5];omega,(madeCells z.cells (q.toNat*i0.size)).toList,ab.el c,by rw[hw,Array.toArray_toList];exact l' _ _,by simp[size_madeCells,b],λi y j d r ao=>?_⟩;have ac:i<q.toNat:=by have:=(hG.1 r).1;simpa using this
  have ef:y=e6 c:=by rw[List.getElem?_replicate,if_pos ac]at r;simpa using r.symm
  subst ef;have cN:j<aL c:=by rw[<-ij c (e6 c)];exact(hG.1 ao).1
  obtain⟨u,bL,bW⟩:=p.get ao;refine⟨u,?_,Oy bW (.inl rfl) ⟨c,e6 c,j,ao⟩⟩;have ea:i*aL c+j<q.toNat*i0.size:=by have:(i+1)*aL c<=q.toNat*aL c:=Nat.mul_le_mul_right _ ac;rw[Nat.succ_mul]at this;rw[b];omega
  have b9:(i*aL c+j) % I zs=j:=by rw[d',Nat.mul_comm,Nat.mul_add_mod];exact Nat.mod_eq_of_lt cN
  have ch:j<I zs:=ag
  have cP:zs[j]=u:=by rw[ho ch]at bL;simpa using bL
  simp[madeCells,ea,bk,b9,ch,cP]) rfl rfl
 refine .inl ⟨.slice (J ⟨w.heap.size,0,ah⟩) n.toNat q.toNat,w.alloc (.cells (madeCells z.cells (q.toNat*i0.size)) (ab.el c)),?_,aR,?_,?_⟩
 .simp[cl,bK,cE,cZ,bz]
 .rw[uw st _ s eS];exact h1
 .rw[uw st _ s eS];have cF:st.nb=s.nb:=eS.2.1.symm;rw[cF];simp only[aB]at h2 ⊢;obtain⟨gJ,fm⟩:=h2;simp at fm;refine⟨gJ,Int.le_refl _,g.1,by simp[c5];omega,_,_,rfl,.inr ?_,by omega,by simp[c5];omega,madeCells z.cells (q.toNat*i0.size),(0,0),by rw[<-fm];exact l' _ _,by simp[size_madeCells,b]⟩;rw[<-fm];simp
structure awF (ab:cB) (px:aM R) (o:bw) (st aG:bc):Prop where
 same:aG.n=st.n/\aG.env=st.env/\aG.cd=st.cd/\aG.lt=st.lt/\(aG.bI,aG.df)=(st.bI,st.df)
 pG:st.nb<=aG.nb/\∀b,b∉Rg px o st->ja (az st) (az aG) b
 run:∀(s:FS) (m:dg) (a:Act) (as_:List Act) (w:aK),(∀t x,x∈o.op.operands->hK px s.env t x=hK px (get st.env) t x)->gL s (az st)->Rel ab m a as_ s w->∃w' aR,(cl a.eval o).run ab.P w = .ok .skip w'/\Rel ab aR a as_ (gi (az aG) s) w'
theorem Bl{b:Nat}{ws:U Nat}(h:ws=[b]):st.nb<=({ st with ak:=eZ st.ak b k }:bc).nb/\∀c,c∉ws->ja (az st) (az { st with ak:=eZ st.ak b k }) c:=by
 subst h;refine⟨b2 _,λc an=>?_⟩;have a:c≠b:=λe=>an tL;have e:bu (eZ st.ak b k) c=bu st.ak c:=by rw[oW,if_neg a]
 exact⟨λk d=>e.trans d,λk d _=>e.symm.trans d⟩
theorem uD(st:bc)(b:Nat)(k k0:c_)(s:FS)(h:gL s (az st))(aj:bu st.ak b=J k0):gi (az { st with ak:=eZ st.ak b k }) s={ s with ak:=λc=>if c=b then J k else s.ak c }:=by obtain⟨h1,h2,h3,h4⟩:=h;refine FS.eq rfl rfl rfl rfl rfl ?_ h2.symm h3.symm h4.symm;funext c;simp[gi,az,oW,h1,aj]
theorem aj7{d:D}(h:N1 d=ae):∃l a9,d = .sl .byte l a9:=by
 unfold N1 at h;split at h
 .exact⟨_,_,rfl⟩
 .cases h
theorem Tv(v:aA):∀(us cs:U aA) (o:Nat),aw.ig (v::cs) (o+1) us=v::aw.ig cs o us
 |[],_,_=>rfl
 |u::us,cs,o=>by simp[aw.ig];exact Tv v us _ (o+1)
theorem Sl{c:b1}:∀{n:Nat}{av:U D}{xs:U (cL c)},oN c n av=J xs->I av=n*aL c
 |0,[],_,_=>by simp
 |0,_::_,_,h=>by simp[oN]at h
 |n+1,av,xs,h=>by
  simp only[oN]at h;split at h
  .rename_i y b;split at h
   .rename_i ys a;have h1:=Sl a;have h2:=(OQ b).len;rw[ij,List.length_take]at h2;rw[iu]at h1;rw[Nat.succ_mul];have h3 : 0<aL c:=by cases c<;>decide
    omega
   .cases h
  .cases h
variable{xs:U (cL c)}
theorem ajP{x:cM}{n:Nat}{d:D}{v:aA}(h:Q_ c n d=J xs)(m:aB x d v):I xs=n/\∃us:U aA,v = .agg us.toArray/\I us=I xs*aL c/\(∀u,u∈us->aw.one u=ae)/\∀(i:Nat) (y:cL c) (j:Nat) a,xs[i]? = J y->(enc c y)[j]? = J a->∃u,us[i*aL c+j]? = J u/\eI x.S x.w a u:=by
 have f : 0<aL c:=by cases c<;>decide
 have main:∀us:U aA,I us=I xs*aL c->(∀(i:Nat) (y:cL c) (j:Nat) a,xs[i]? = J y->(enc c y)[j]? = J a->∃u,us[i*aL c+j]? = J u/\eI x.S x.w a u)->∀u,u∈us->aw.one u=true:=by
  intro us o e u k;obtain⟨q,z,rfl⟩:=List.getElem_of_mem k;have hi:q / aL c<I xs:=(Nat.div_lt_iff_lt_mul f).2 ag;have p:mf x c xs[q / aL c] ((us.drop (q / aL c*aL c)).take (aL c)):=by
   refine⟨?_,λj a ao=>?_⟩
   .have:q / aL c*aL c+aL c<=I xs*aL c:=Gb
    simp;omega
   .obtain⟨u,k,r⟩:=e _ _ j a (ho hi) ao;have s:j<aL c:=by rw[<-ij c xs[q / aL c]];exact(hG.1 ao).1
    exact⟨u,by rw[fQ,if_pos s,List.getElem?_drop];exact k,r⟩
  refine p.one _ ?_;have hm:q % aL c<aL c:=Nat.mod_lt _ f;have t:q / aL c*aL c+q % aL c=q:=by rw[Nat.mul_comm];exact Nat.div_add_mod q (aL c)
  refine List.mem_iff_getElem?.2 ⟨q % aL c,?_⟩;rw[fQ,if_pos hm,List.getElem?_drop,t,ho z]
 unfold Q_ at h;split at h
 .rename_i cj hr ys;split at h
  .rename_i an;subst an;split at h
   .rename_i cJ;obtain rfl:=cU cJ;simp only[c4]at h;subst h;simp only[aB]at m;obtain⟨h1,us,rfl,h2,h3⟩:=m;exact⟨h1,us,rfl,h2,main us h2 h3,h3⟩
   .cases h
  .cases h
 .rename_i av;simp only[aB]at m;obtain⟨_,us,rfl,b⟩:=m;obtain⟨g,l⟩:=Ns h;have o:I us=I xs*aL c:=by rw[b.len,Sl h,g]
  have e:∀(i:Nat) (y:cL c) (j:Nat) a,xs[i]? = J y->(enc c y)[j]? = J a->∃u,us[i*aL c+j]? = J u/\eI x.S x.w a u:=λi y j a bN ao=>by
   have he:=xU (l i y bN) ((tK b).sub (i*aL c) (aL c)).oE;obtain⟨u,k,r⟩:=he.2 j a ao;have s:j<aL c:=EQ
   rw[fQ,if_pos s,List.getElem?_drop]at k;exact⟨u,k,r⟩
  exact⟨g,us,rfl,o,main us o e,e⟩
 .cases h
theorem Qd:∀(us cs:U aA),I us=I cs->aw.ig cs 0 us=us
 |[],[],_=>rfl
 |[],_::_,h=>by simp at h
 |_::_,[],h=>by simp at h
 |u::us,c::cs,h=>by simp[aw.ig];rw[Tv,Qd us cs n1]
theorem Yr(bn:eR ab px){K:bc->af R}{r:R}(h:p6 px o st K=J r):∃aG,K aG = J r/\awF ab px o st aG:=by
 unfold p6 at h;split at h
 .rename_i t x y bK;have ap:∀n,(px.aO t).n=n->px.aO t ≠ .no->aw.ft ab.P t=J n:=λn cJ fF=>by rw[<-cJ];exact(nr (bn.aO t) fF).2.2
  split at h
  .rename_i b off d aW bN;split at h
   .rename_i T d0 aj;split at h
    .rename_i an;simp only[bx]at an;obtain⟨⟨aZ,cZ⟩,bz⟩:=an;obtain rfl:=cU aZ;obtain⟨l,a9,rfl⟩:=aj7 cZ;have dH:=rI bz;refine⟨_,h,⟨rfl,rfl,rfl,rfl,rfl⟩,Bl AV,λs m a as_ w v eS ay=>?_⟩;rw[cR,<-v _ x ev]at aW;rw[cR,<-v _ y ev]at bN;obtain⟨v1,_,h2,h3⟩:=ay.env.aF aW;obtain⟨v2,_,h5,h6⟩:=ay.env.aF bN;simp[aB]at h3;obtain⟨_,rfl⟩:=h3;have z:s.ak b=J (.gO T d0):=xc
     obtain⟨_,a0,v0,cf,cI,_⟩:=(ay.eb b _ z).2;have cf:w.heap[m.ak b]? = J (.cells [a0,v0].toArray T (0,0)):=cf;have am:aw.one v2=true:=E6 h6 rfl;have ac:v2.cells.toList=[v2]:=by rw[aw.IY am]
     obtain⟨j6,gC,jx⟩:=aw.sz (P:=ab.P) v2.cells.toList w (m.ak b) 1 0 [a0,v0] T cf (by rw[ac];simp) (by rw[ac];intro u hu;simp at hu;subst hu;exact am);have fG:(aw.setCells w (m.ak b) 1 v2.cells.toList).heap[m.ak b]? = J (.cells #[a0,v2] T (0,0)):=by rw[gC,ac];rfl
     have aJ:=ay.write (w':=aw.setCells w (m.ak b) 1 v2.cells.toList) (k:=.gO T (.sl .byte l a9)) z (uf jx cf gC Gi) (λx' e5 hw=>⟨⟨l,a9,rfl⟩,a0,v2,by rw[hw];exact fG,cI,aB.later e5 _ _ h6⟩);refine⟨_,m,?_,by rw[uD st b _ _ s eS aj];exact aJ⟩;have fr:v2.cells.size=1:=by rw[<-Array.length_toList,ac];rfl
     have bL:aw.ft ab.P t=J v2.cells.size:=ap _ (by rw[fr,dH];rfl) (by rw[dH];simp);exact Dq
    .cases h
   .rename_i c n gk aj;split at h
    .rename_i xs gz an;simp only[bx]at an;obtain rfl:=cU an.1;have dH:=U0 an.2;refine⟨_,h,⟨rfl,rfl,rfl,rfl,rfl⟩,Bl AV,λs m a as_ w v eS ay=>?_⟩;rw[cR,<-v _ x ev]at aW;rw[cR,<-v _ y ev]at bN;obtain⟨v1,_,h2,h3⟩:=ay.env.aF aW;obtain⟨v2,_,h5,h6⟩:=ay.env.aF bN;simp[aB]at h3;obtain⟨_,rfl⟩:=h3;have z:s.ak b=J (.row c n gk):=xc
     obtain⟨_,b9,vs,ty,cf,f,_⟩:=ay.eb b _ z;have cf:w.heap[m.ak b]? = J (.cells vs.toArray ty (0,0)):=cf;obtain⟨dE,us,rfl,ch,am,gN⟩:=ajP gz h6;have ac:(aA.agg us.toArray).cells.toList=us:=by simp[aA.cells]
     obtain⟨j6,gC,jx⟩:=aw.sz (P:=ab.P) us w (m.ak b) 0 0 vs ty cf (by rw[ch,f,dE,b9];omega) am;rw[Qd us vs (by rw[ch,f,dE,b9])]at gC;have aJ:=ay.write (w':=aw.setCells w (m.ak b) 0 us) (k:=.row c n xs) z (uf jx cf gC (by rw[ch,f,dE,b9])) (λx' e5 hw=>⟨dE,us,ty,by rw[hw];exact gC,ch,λi y j d bN ao=>by obtain⟨u,hu,bO⟩:=gN i y j d bN ao;exact⟨u,hu,e5.rf bO⟩⟩);refine⟨_,m,?_,by rw[uD st b _ _ s eS aj];exact aJ⟩;have hJ:(aA.agg us.toArray).cells.size=(px.aO t).n:=by rw[<-Array.length_toList,ac,ch,dE,dH];rfl
     have bL:aw.ft ab.P t=J (aA.agg us.toArray).cells.size:=ap _ hJ.symm (by rw[dH];simp);simp[cl,bK,Instr.storeAt,h2,h5,vx,Instr.sureAddr,storeVar,dG,eW,fg,aw.run_sizeOf bL,ne_eq,not_true_eq_false,if_false];rw[ac,j6];simp
    .cases h
   split at h
   .rename_i av dp;obtain⟨k0,aj,dL⟩:∃k0,bu st.ak b=J k0/\∀x β,gX x β k0->av.all cv=ae/\∃(vs:U aA) (t:bD),x.w.heap[β]? = J (.cells vs.toArray t (0,0))/\aX x av vs:=by
     split at dp
     .rename_i jt aj;simp[c4]at dp;subst dp;exact⟨_,aj,λx β h=>h⟩
     .rename_i c y aj;simp[c4]at dp;subst dp;refine⟨_,aj,λx β h=>?_⟩;obtain⟨_,vs,t,cf,f,g⟩:=h;exact⟨Df c y,vs,t,cf,(tG (x:=x) (c:=c) (y:=y) ⟨f,g⟩).oE⟩
     .cases dp
    split at h
    .rename_i an;simp only[bx]at an;obtain⟨⟨⟨aZ,cZ⟩,bz⟩,d_⟩:=an;have aZ:=cU aZ;have cZ:off+I (cells d)<=I av:=by simpa using cZ
     refine⟨_,h,⟨rfl,rfl,rfl,rfl,rfl⟩,Bl AV,λs m a as_ w v eS ay=>?_⟩;rw[cR,<-v _ x ev]at aW;rw[cR,<-v _ y ev]at bN;obtain⟨v1,_,h2,h3⟩:=ay.env.aF aW;obtain⟨v2,_,h5,h6⟩:=ay.env.aF bN;simp[aB]at h3;obtain⟨_,rfl⟩:=h3;have ef:=BB h6 bz;have z:s.ak b=J k0:=xc
     obtain⟨bB,vs,ty,cf,p⟩:=dL _ _ (ay.eb b _ z).2;have cf:w.heap[m.ak b]? = J (.cells vs.toArray ty (0,0)):=cf;have ea:off+I v2.cells.toList<=I vs:=by rw[ef.1,p.len];exact cZ
     obtain⟨j6,gC,jx⟩:=aw.sz (P:=ab.P) v2.cells.toList w (m.ak b) off 0 vs ty cf ag (aqw ef bz);have aJ:=ay.write (w':=aw.setCells w (m.ak b) off v2.cells.toList) (k:=Ov av off d) z (uf jx cf gC Gi) (λx' e5 hw=>by
      have base:gX x' (m.ak b) (.cells (write av off (cells d))):=by refine⟨MQ _ _ _ bB bz,aw.ig vs off v2.cells.toList,ty,by rw[hw];exact gC,?_⟩;exact aX.later e5 _ _ (P4 _ _ _ _ _ (tK p) ef cZ).oE
      have kk:I vs=I av:=p.len;clear bN h5 h;cases d with
      |aI c y=>
       simp[Ov];split
       .rename_i c0;simp only[bx]at c0;obtain rfl:=cU c0.1;have bi:=cU c0.2;simp[aB]at h6;obtain⟨cI,us,rfl,ch,g⟩:=h6;have ac:(aA.agg us.toArray).cells.toList=us:=by simp[aA.cells]
        rw[ac,Qd us vs ag]at gC;exact⟨cI,us,ty,by rw[hw];exact gC,ch,λj e he=>by obtain⟨u,hu,bO⟩:=g j e he;exact⟨u,hu,e5.rf bO⟩⟩
       .exact base
      |_=>exact base)
     refine⟨_,m,?_,by rw[uD st b _ _ s eS aj];exact aJ⟩;have bL:aw.ft ab.P t=J v2.cells.size:=ap _ (by rw[<-aZ,<-ef.1];simp) (nt d_).1;exact Dq
    .cases h
   .cases h
  .rename_i b dd jN i d aW bN;split at h
   .rename_i c n xs aj;split at h
    .rename_i I' dL an;simp only[bx,dM]at an;obtain⟨⟨⟨aZ,rfl⟩,bz⟩,d_⟩:=an;have aZ:=cU aZ;have bz:=cU bz;subst bz;refine⟨_,h,⟨rfl,rfl,rfl,rfl,rfl⟩,Bl AV,λs m a as_ w v eS ay=>?_⟩;rw[cR,<-v _ x ev]at aW;rw[cR,<-v _ y ev]at bN;obtain⟨v1,_,h2,h3⟩:=ay.env.aF aW;obtain⟨v2,_,h5,h6⟩:=ay.env.aF bN;simp[aB]at h3;obtain⟨_,rfl,iQ,lJ⟩:=h3;obtain⟨g,_,_⟩:=uz dL h6;have z:s.ak b=J (.row dd jN xs):=xc
     obtain⟨_,b9,vs,ty,cf,f,p⟩:=ay.eb b _ z;have cf:w.heap[m.ak b]? = J (.cells vs.toArray ty (0,0)):=cf;have du:i.toNat<I xs:=ag
     have ea:i.toNat*aL dd+I v2.cells.toList<=I vs:=by rw[g.1,f,<-Nat.succ_mul];exact Nat.mul_le_mul_right _ ag
     obtain⟨j6,gC,jx⟩:=aw.sz (P:=ab.P) v2.cells.toList w (m.ak b) (i.toNat*aL dd) 0 vs ty cf ag g.one;have cy:∀(us cs:U aA) (o q:Nat),o+I us<=I cs->(aw.ig cs o us)[q]? = if o<=q/\q<o+I us then us[q-o]? else cs[q]? :=by
      intro us;induction us with
      |nil=>intro cs o q _;simp only[aw.ig,hn,Nat.add_zero];rw[if_neg ag]
      |cons u us iw=>
       intro cs o q bB;simp[dm]at bB;simp only[aw.ig];rw[iw (cs.set o u) (o+1) q dh];simp[dm];by_cases cA:q=o
       .exact adS
       .by_cases bW:o+1<=q/\q<o+1+I us
        .exact ad7
        .rw[if_neg bW,if_neg ag,List.getElem?_set_ne (Ne.symm cA)]
     have aJ:=ay.write (w':=aw.setCells w (m.ak b) (i.toNat*aL dd) v2.cells.toList) (k:=.row dd jN (xs.set i.toNat I')) z (uf jx cf gC Gi) (λx' e5 hw=>by
      refine⟨by simpa using b9,aw.ig vs (i.toNat*aL dd) v2.cells.toList,ty,by rw[hw];exact gC,by rw[aw.I_];simpa using f,λq y j hq bk cE=>?_⟩;have be:j<aL dd:=by rw[<-ij dd y];exact(hG.1 cE).1
      rw[cy _ _ _ _ ea,g.1];by_cases d':q=i.toNat
      .subst d';rw[List.getElem?_set_self du]at bk;simp[c4]at bk;subst bk;obtain⟨u,hu,bO⟩:=g.2 j hq cE;refine⟨u,?_,e5.rf bO⟩;exact aeb
      .rw[List.getElem?_set_ne (Ne.symm d')]at bk;obtain⟨u,hu,bO⟩:=p q y j hq bk cE;refine⟨u,?_,e5.rf bO⟩;rw[if_neg,hu];rintro⟨gJ,fm⟩;rcases Nat.lt_or_ge q i.toNat with dF|iR
       .exact _D
       .have:(i.toNat+1)*aL dd<=q*aL dd:=Nat.mul_le_mul_right _ ag;rw[Nat.succ_mul]at this;omega)
     refine⟨_,m,?_,by rw[uD st b _ _ s eS aj];exact aJ⟩;have bL:aw.ft ab.P t=J v2.cells.size:=ap _ (by rw[aZ,<-g.1];simp) (nt d_).1;exact Dq
    .cases h
   .cases h
  .rename_i b dd i d aW bN;split at h
   .rename_i c xs aj;split at h
    .rename_i I' dL an;simp only[bx,dM]at an;obtain⟨⟨aZ,rfl⟩,d_⟩:=an;obtain⟨ff,h⟩:=fz h;have ff:=rV ff;refine⟨_,h,⟨rfl,rfl,rfl,rfl,rfl⟩,Bl AV,λs m a as_ w v eS ay=>?_⟩;rw[cR,<-v _ x ev]at aW;rw[cR,<-v _ y ev]at bN;obtain⟨v1,_,h2,h3⟩:=ay.env.aF aW;obtain⟨v2,_,h5,h6⟩:=ay.env.aF bN;simp[aB]at h3;obtain⟨_,rfl,iQ⟩:=h3;obtain⟨g,_,_⟩:=uz dL h6;have z:s.ak b=J (.dyn dd xs):=xc
     obtain⟨_,b9,vs,ty,cf,f,p⟩:=ay.eb b _ z;have cf:w.heap[m.ak b]? = J (.cells vs.toArray ty (0,0)):=cf;have du:i.toNat<I xs:=ag
     have ea:i.toNat*aL dd+I v2.cells.toList<=I vs:=by refine e2 ?_ f;rw[g.1,<-Nat.succ_mul];exact Nat.mul_le_mul_right _ ag
     obtain⟨j6,gC,jx⟩:=aw.sz (P:=ab.P) v2.cells.toList w (m.ak b) (i.toNat*aL dd) 0 vs ty cf ag g.one;have cy:∀(us cs:U aA) (o q:Nat),o+I us<=I cs->(aw.ig cs o us)[q]? = if o<=q/\q<o+I us then us[q-o]? else cs[q]? :=by
      intro us;induction us with
      |nil=>intro cs o q _;simp only[aw.ig,hn,Nat.add_zero];rw[if_neg ag]
      |cons u us iw=>
       intro cs o q bB;simp[dm]at bB;simp only[aw.ig];rw[iw (cs.set o u) (o+1) q dh];simp[dm];by_cases cA:q=o
       .exact adS
       .by_cases bW:o+1<=q/\q<o+1+I us
        .exact ad7
        .rw[if_neg bW,if_neg ag,List.getElem?_set_ne (Ne.symm cA)]
     have aJ:=ay.write (w':=aw.setCells w (m.ak b) (i.toNat*aL dd) v2.cells.toList) (k:=.dyn dd (xs.set i.toNat I')) z (uf jx cf gC Gi) (λx' e5 hw=>by
      refine⟨by simpa using b9,aw.ig vs (i.toNat*aL dd) v2.cells.toList,ty,by rw[hw];exact gC,by rw[aw.I_];simpa using f,λq y j hq bk cE=>?_⟩;have be:j<aL dd:=by rw[<-ij dd y];exact(hG.1 cE).1
      rw[cy _ _ _ _ ea,g.1];by_cases d':q=i.toNat
      .subst d';rw[List.getElem?_set_self du]at bk;simp[c4]at bk;subst bk;obtain⟨u,hu,bO⟩:=g.2 j hq cE;refine⟨u,?_,e5.rf bO⟩;exact aeb
      .rw[List.getElem?_set_ne (Ne.symm d')]at bk;obtain⟨u,hu,bO⟩:=p q y j hq bk cE;refine⟨u,?_,e5.rf bO⟩;rw[if_neg,hu];rintro⟨gJ,fm⟩;rcases Nat.lt_or_ge q i.toNat with dF|iR
       .exact _D
       .have:(i.toNat+1)*aL dd<=q*aL dd:=Nat.mul_le_mul_right _ ag;rw[Nat.succ_mul]at this;omega)
     refine⟨_,m,?_,by rw[uD st b _ _ s eS aj];exact aJ⟩;have bL:aw.ft ab.P t=J v2.cells.size:=ap _ (by rw[(cU aZ),<-g.1];simp) (nt d_).1;exact Dq
    .cases h
   .cases h
  .cases h
 .cases h
end
section
variable {R:Type}{px:aM R}{ab:cB}
def eP(x:cM)(c:b1)(xs:U (cL c))(vs:U aA):Prop:=I vs=I xs*aL c/\∀i y j d,xs[i]? = J y->(enc c y)[j]? = J d->∃u,vs[i*aL c+j]? = J u/\eI x.S x.w d u
theorem eP.nil(x:cM)(c:b1):eP x c [] []:=⟨by simp,λi y j d a=>by simp at a⟩
variable{c:b1}{vs:U aA}{xs:U (cL c)}
theorem eP.later{x x':cM}(h:eD x x')(a:eP x c xs vs):eP x' c xs vs:=⟨a.1,λi y j d b ao=>by obtain⟨u,e,f⟩:=a.2 i y j d b ao;exact⟨u,e,h.rf f⟩⟩
variable{us:U aA}{ys:U (cL c)}
theorem eP.append{x:cM}(h:eP x c xs vs)(k:eP x c ys us):eP x c (xs++ys) (vs++us):=by
 refine⟨by simp[h.1,k.1,Nat.add_mul],λi y j d a ao=>?_⟩;have f:j<aL c:=EQ
 rw[List.getElem?_append]at a;split at a
 .rename_i hi;obtain⟨u,b,e⟩:=h.2 i y j d a ao;refine⟨u,?_,e⟩;rw[List.getElem?_append_left,b];exact(hG.1 b).1
 .rename_i hi;obtain⟨u,b,e⟩:=k.2 _ y j d a ao;refine⟨u,?_,e⟩;have hle:I xs*aL c<=i*aL c:=Nat.mul_le_mul_right _ ag;rw[List.getElem?_append_right (by rw[h.1];omega),h.1];rwa[Nat.sub_mul,<-Nat.sub_add_comm hle]at b
theorem eP.cons{x:cM}{y:cL c}(h:mf x c y us)(k:eP x c xs vs):eP x c (y::xs) (us++vs):=by
 have:eP x c [y] us:=⟨by simpa using h.1,λi z j d a ao=>by
  cases i with
  |zero=>simp at a;subst a;simpa using h.2 j d ao
  |succ i=>simp at a⟩
 exact this.append k
theorem eP.one{x:cM}(h:eP x c xs vs):∀v,v∈vs->aw.one v=true:=by
 intro v aE;obtain⟨q,b,rfl⟩:=List.mem_iff_getElem.1 aE;have d:=EH c;have hi:q / aL c<I xs:=by rw[Nat.div_lt_iff_lt_mul d,<-h.1];exact b
 have e:q % aL c<aL c:=Nat.mod_lt _ d;obtain⟨u,a,f⟩:=h.2 (q / aL c) _ (q % aL c) _ (ho hi) (ho (by rw[ij];exact e));rw[show q / aL c*aL c+q % aL c=q by rw[Nat.mul_comm];exact Nat.div_add_mod q (aL c),ho b]at a;simp at a;rw[a];exact N_ f.here
variable{g:Nat}
theorem Au{x:cM}{cap:Nat}(h:eP x c xs vs)(hle:I xs<=cap/\cap<=c5)(hm:∀(j:Nat) u,vs[j]? = J u->x.w.cell? ⟨g,j,ah⟩=J u)(f:∀i,i<I xs*aL c->¬x.S g i):eI x.S x.w (.sl c xs .no) (.slice (J ⟨g,0,ah⟩) (I xs) cap):=by
 refine ue rfl (.inr ⟨g,0,rfl,hle,λi y k w' b j d ao=>?_⟩);obtain⟨u,e,l⟩:=h.2 i y j d k ao;have a:i*aL c+j<I xs*aL c:=by rw[<-h.1];exact(hG.1 e).1
 refine⟨u,?_,l w' b⟩;rw[Nat.zero_add];exact b.cell g _ u (hm _ u e) (f _ a)
theorem qn{x:cM}{v:aA}(h:eI x.S x.w (.sl c xs .no) v):∃a cap vs,v = .slice a (I xs) cap/\eP x c xs vs/\∀b o,a=J ⟨b,o,ah⟩->xs≠[]->∀(j:Nat) u,vs[j]? = J u->x.w.cell? ⟨b,o+j,ah⟩=J u:=by
 obtain⟨a,cap,rfl,i⟩:=lV h;rcases i with rfl|⟨b,o,rfl,hle,e⟩
 .exact⟨a,cap,[],rfl,eP.nil _ _,λ_ _ _ h=>absurd rfl h⟩
 .have key:∀(n:Nat),n<=I xs->∃vs,eP x c (xs.take n) vs/\∀(j:Nat) u,vs[j]? = J u->x.w.cell? ⟨b,o+j,ah⟩=J u:=by
   intro n;induction n with
   |zero=>intro _;exact⟨[],by simpa using eP.nil x c,by simp⟩
   |succ n k=>
    intro p;obtain⟨vs,h1,h2⟩:=k ag;have l:xs[n]? = J (xs[n]' ag):=ho ag;obtain⟨us,h3,h4⟩:=lq.QI rfl (e n _ l);have h5:=h1.append (show eP x c [xs[n]' ag] us from by simpa using eP.cons h3 (eP.nil x c));rw[List.take_append_getElem]at h5;refine⟨vs++us,h5,λj u d=>?_⟩;rw[List.getElem?_append]at d;split at d
    .exact h2 j u d
    .rename_i f;have m:I vs=n*aL c:=by rw[h1.1,List.length_take,Nat.min_eq_left ag]
     have:=h4 _ u d;rw[m]at this f;rwa[show o+n*aL c+(j-n*aL c)=o+j by omega]at this
  obtain⟨vs,h1,h2⟩:=key (I xs) (b2 _);rw[List.take_length]at h1;refine⟨_,cap,vs,rfl,h1,λbQ o' g _=>?_⟩;simp at g;obtain⟨rfl,rfl⟩:=g;exact h2
theorem _4{x:cM}{c:b1}:∀{l:U D}{ys:U (cL c)}{vs:U aA},ts c l=J ys->aX x l vs->eP x c ys (vs.flatMap λv=>v.cells.toList)/\(∀v,v∈vs->v.cells.size=aL c)/\I ys=I l
 |[],ys,vs,h,ay=>by simp[ts]at h;simp[aX]at ay;subst h;subst ay;exact⟨eP.nil _ _,by simp,rfl⟩
 |d::l,ys,vs,h,ay=>by
  simp[ts]at h;split at h
  .rename_i y e;split at h
   .rename_i f a;simp at h;subst h;simp[aX]at ay;obtain⟨u,us,rfl,h1,h2⟩:=ay;obtain⟨i1,g,i⟩:=_4 a h2;obtain⟨b,_,_⟩:=uz e h1;refine⟨by simpa using eP.cons b i1,λv aE=>?_,by simp[i]⟩;simp at aE;rcases aE with rfl|aE
    .have:=b.1;exact oK
    .exact g v aE
   .cases h
  .cases h
theorem Na(st:bc)(cc:U Nat)(t0:af Nat)(s:FS)(h:gL s (az st))(a:∀t,t∈cc↔(t∈st.a9/\t0≠J t)):gi (az (hV { st with a9:=cc })) s={ s with cc:=λt=>(s.cc t/\t0≠J t)\/t=s.ba,ba:=s.ba+1 }:=by
 obtain⟨h1,h2,h3,h4⟩:=h;refine FS.eq rfl rfl rfl rfl rfl h1.symm h2.symm ?_ ?_
 .funext t;simp[ az,hV,h3,h4,a];exact or_comm
 .simp[gi,az,hV,h4]
variable{as_:U Act}{m:dg}
theorem Yt(h:Rel ab m a as_ s w){b:Nat}(aj:w.heap.size<=b)(i:Nat):¬(vx ab m s w).S b i:=by
 rintro(c|d)
 .have:=(h.fE b i 0 c).1;have:=h.dV.size;omega
 .have:=(h.own b i d).1;omega
variable{t0:af Nat}
theorem zX(d:Rel ab m a as_ s w){cur:Array aA}{cap:Nat}(e:eP (vx ab m s w) c xs vs)(n:bF er w w')(r:w.heap.size<w'.heap.size)(x:w'.heap[w.heap.size]? = J (.cells cur (ab.el c) (0,0)))(f:cur.size=cap*aL c)(hle:I xs<=cap)(b:cap<=c5)(k:∀(j:Nat) u,vs[j]? = J u->cur[j]? = J u) :
  Rel ab { m with a9:=λt=>if t=s.ba then J (w.heap.size,I xs*aL c)else m.a9 t } a as_ { s with cc:=λt=>(s.cc t/\t0≠J t)\/t=s.ba,ba:=s.ba+1 } w'/\aB (vx ab { m with a9:=λt=>if t=s.ba then J (w.heap.size,I xs*aL c)else m.a9 t } { s with cc:=λt=>(s.cc t/\t0≠J t)\/t=s.ba,ba:=s.ba+1 } w') (.sl c xs (.id s.ba)) (.slice (J ⟨w.heap.size,0,ah⟩) (I xs) cap):=by
 obtain⟨l,e5⟩:=d.right (t0:=t0) (p:=J (w.heap.size,I xs*aL c)) (n.mono (λ_ _ h=>h.elim)) (λg o y=>by simp at y;obtain⟨rfl,rfl⟩:=y;exact⟨r,.inl (b2 _)⟩)
 refine⟨l,?_⟩;simp;refine⟨Au (e.later e5) ⟨hle,b⟩ (λj u cN=>?_) (λi hi=>?_),Nat.lt_succ_self _,λ_=>.inr ⟨w.heap.size,cap,cur,rfl,by simp[vx],x,f,hle,b⟩⟩
 .show w'.cell? _=_;simp[aK.cell?,x];exact k j u cN
 .rintro(e4|bO)
  .have:=(d.fE _ i 0 e4).1;have:=d.dV.size;omega
  .rcases bO with ⟨q,cA,z⟩|⟨t,o,h1,h2,h3⟩
   .have:=d.l7 cA;have z:m.ak q=w.heap.size:=z;omega
   .by_cases v:t=s.ba
    .subst v;simp at h2;omega
    .simp[if_neg v]at h2;rcases h1 with h1|h1
     .have:=d.kr h1.1 h2;omega
     .exact absurd h1 v
variable{t:Nat}
theorem TC(bn:eR ab px){len:Nat}{bE:Array (Nat×ct)}(bK:o.op = .buildSlice t len bE)(v:px.aO t = .sl c){l:U D}(k:I l=len)(ac:len*aL c<=16777216)(y:ts c l=J xs)(h0:bE.toList.map (·.1)=List.range' 0 (I l))(h2:(bE.toList.map (·.2)).map a.eval=vs)(h3:aX (vx ab m s w) l vs):I xs=len/\len<=c5/\∃us,eP (vx ab m s w) c xs us/\(cl a.eval o).run ab.P w = .ok (.value (.slice (J ⟨w.heap.size,0,ah⟩) len len)) (w.alloc (.cells us.toArray (ab.el c))):=by
 obtain⟨n,aJ,bW⟩:=_4 y h3;obtain⟨by_,⟨hu,i0,z,p,dB,g,b9,ch,bL⟩,_,_⟩:=jC (bn.aO t) v;have q:I vs=len:=by rw[h3.len,k]
 have r:(bE.map λx=>match x with|(i,x)=>(i,a.eval x))=((List.range' 0 (I vs)).zip vs).toArray:=aes
 have d:I ((Array.range (len*aL c)).map λi=>z.cells[i % z.cells.size]!).toList=len*aL c:=by simp
 have b:=aw.II (aL c) vs 0 [] ((Array.range (len*aL c)).map λi=>z.cells[i % z.cells.size]!).toList aJ (by simp) (by rw[d,q];exact b2 _);have j:((Array.range (len*aL c)).map λi=>z.cells[i % z.cells.size]!).toList.drop (I vs*aL c)=[]:=g0 (by rw[d,q];exact b2 _);rw[j]at b;simp only[ib,List.append_nil]at b;have aZ:(zeroValue (ab.el c)).run ab.P w = .ok z w:=by simp[zeroValue,typeInfo,p,dB]
 have f:(sizeOf (ab.el c)).run ab.P w = .ok (aL c) w:=by simp[sizeOf,typeInfo,p,g]
 have u:¬(len*aL c > 2 ^ 24):=by have:(2:Nat) ^ 24=16777216:=rfl;omega
 refine⟨by omega,by have:=EH c;have:len<=len*aL c:=Nat.le_mul_of_pos_right _ this;simp[c5];omega,_,n,?_⟩;by_cases e:len*aL c=0
 .have bk:vs=[]:=by
   have:len=0:=by
    rcases Nat.mul_eq_zero.1 e with h|h
    .exact h
    .omega
   exact List.eq_nil_of_length_eq_zero ag
  subst bk;have bz:Instr.fill (λi=>J (i*aL c,aL c)) ((Array.range (len*aL c)).map (λx=>(#[]:Array aA)[x % (#[]:Array aA).size]!)) []=J #[]:=by rw[e];simp[Instr.fill]
  simp only[cl,bK,r,Instr.buildSlice,dG,eX hu,fg,f,if_neg u,if_pos e];simp only[hn,List.range'_zero,List.zip_nil_left,bz,newRow,newObj,dG,Sem.run,eW,fg,aK.alloc,List.flatMap_nil]
 .simp only[cl,bK,r,Instr.buildSlice,dG,eX hu,fg,f,if_neg u,if_neg e,aZ,b,newRow,newObj,Sem.run,eW,aK.alloc]
theorem au4(c:b1):aL c<=18:=by cases c<;>decide
variable{st:bc}
theorem Ux(v:eR ab px){len:Nat}{bE:Array (Nat×ct)}(j:o.op = .buildSlice t len bE)(f:px.aO t = .sl c)(b:p7 px st c len bE.toList=J xs)(k:∀t x,x∈o.op.operands->hK px s.env t x=hK px (get st.env) t x)(y:Rel ab m a as_ s w):I xs=len/\len<=c5/\∃us,eP (vx ab m s w) c xs us/\(cl a.eval o).run ab.P w = .ok (.value (.slice (J ⟨w.heap.size,0,ah⟩) len len)) (w.alloc (.cells us.toArray (ab.el c))):=by
 unfold p7 at b;split at b
 .rename_i cs d;split at b
  .rename_i av n;split at b
   .rename_i x an z;simp only[bx]at an;obtain⟨cP,h1⟩:=an;obtain rfl:=cU h1;simp at b;subst b;unfold _k at d;split at d
    .rename_i g h;simp at d;subst d;obtain⟨i,p⟩:=MN (x:=vx ab m s w) n;have aJ:=au4 c;refine TC v j f (l:=[.agg av]) rfl ag (xs:=[x]) (by simp[ts,pM,cP,z]) (vs:=[.agg g]) (by rw[h];rfl) (by rw[h];rfl) ?_;simp only[aX];exact⟨_,[],rfl,⟨p,g.toList,by simp,i⟩,rfl⟩
    .cases d
   .cases b
  .cases b
 .split at b
  .rename_i l bB;split at b
   .rename_i ys e r;simp only[bx]at e;simp at b;subst b;obtain⟨vs,h0,_,h2,h3⟩:=LB y.env bB (λu q cA=>by rw[cR];exact k u q (by rw[j];simpa[Op.operands]using cA));exact TC v j f (cU e.1) (by simpa using e.2) r h0 h2 h3
   .cases b
  .cases b
theorem am3(v:eR ab px){len:Nat}{bE:Array (Nat×ct)}(x:o.op = .buildSlice t len bE)(h:px.aO t = .sl c)(i:p7 px st c len bE.toList=J xs):me ab px o st (hV st) (.sl c xs (.id st.ba)):=by refine⟨⟨rfl,rfl,rfl,rfl,rfl⟩,λs m a as_ w k q r=>?_⟩;obtain⟨e,l,us,d,f⟩:=Ux v x h i k r;have b:=zX (t0:=ah) r (xs:=xs) (cur:=us.toArray) (cap:=len) d (oZ w _).1 (oZ w _).2 (l' w _) (by simp;rw[d.1,e]) ag l (λj u y=>by simpa using y);have g:=Na st st.a9 ah s q (λt=>by simp);have n:({ st with a9:=st.a9 }:bc)=st:=rfl;rw[n]at g;have p:st.ba=s.ba:=q.2.2.2.symm;rw[e]at b;rw[<-g]at b;exact .inl ⟨_,_,f,_,b.1,by rw[p];exact b.2⟩
theorem Sw(f:Rel ab m a as_ s w)(d:bF er w w')(e:eP (vx ab m s w) c xs us){cap:Nat}(hle:I xs<=cap/\cap<=c5)(hm:∀(j:Nat) u,us[j]? = J u->w'.cell? ⟨w.heap.size,j,ah⟩=J u):aB (vx ab m s w') (.sl c xs .no) (.slice (J ⟨w.heap.size,0,ah⟩) (I xs) cap):=by have l:eD (vx ab m s w) (vx ab m s w'):=⟨d.mono (λ_ _ h=>h.elim),λb i hi=>.inl hi,rfl,λ_ _=>rfl,b2 _,b2 _,λt _ k=>⟨k,rfl,λg o n=>d.block g (f.kr k n) (λ_ h=>h)⟩⟩;simp[aB];exact⟨Au (e.later l) hle hm (λi _=>Yt f (b2 _) i),trivial⟩
theorem rJ(w:aK)(n o:Nat)(e:bD):n<=grownCap w n o e:=by unfold grownCap Question.cut;exact Nat.le_add_right _ _
theorem BE(w:aK)(n o:Nat)(e:bD)(h:n<=9223372036854775807):grownCap w n o e<=maxLen:=by show n+w.tape w.drawn (.appendCap n o e) % (2 ^ 63-n)<=9223372036854775807;have:w.tape w.drawn (.appendCap n o e) % (2 ^ 63-n)<2 ^ 63-n:=Nat.mod_lt _ (by have:(2:Nat) ^ 63=9223372036854775808:=rfl;omega);have h2:(2:Nat) ^ 63=9223372036854775808:=rfl;omega
variable{q:Nat}{x:ct}
theorem aeZ(p:eR ab px)(r:o.op = .convert q t x){l:ar}(z:aF px st q x=J (.str l))(f:px.aO t = .sl .byte)(cA:px.aO q = .str)(g:∀t x,x∈o.op.operands->hK px s.env t x=hK px (get st.env) t x)(h:Rel ab m a as_ s w):∃v w',(cl a.eval o).run ab.P w = .ok (.value v) w'/\Rel ab m a as_ s w'/\aB (vx ab m s w') (.sl .byte l .no) v:=by
 rw[cR,<-g _ x (by simp[r,Op.operands])]at z;obtain⟨v,_,aE,c⟩:=h.env.aF z;obtain rfl:=aB.str c;obtain⟨by_,eg,_,lL⟩:=jC (p.aO t) f;have k:=aw.pO (qu (p.aO q) cA);obtain⟨cap,w',axV,aft,azf,hle,axP⟩:∃cap w',(convert q t (aw.S l)).run ab.P w = .ok (.slice (J ⟨w.heap.size,0,ah⟩) (I l) cap) w'/\bF er w w'/\w.heap.size<w'.heap.size/\(I l<=cap/\cap<=c5)/\∀(j:Nat) b,l[j]? = J b->w'.cell? ⟨w.heap.size,j,ah⟩=J (.int .u8 (b.toNat:Int)):=by refine⟨_,_,run_bytes_of_string w q t (ab.el .byte) _ k eg.vl (aw.CI (lL rfl)),(bF.drew _ _).trans (bF.alloc _ _ _),by simp,⟨rJ _ _ _ _,BE _ _ _ _ (by have:=c.CG;simp[c5]at this;simpa[ByteArray.size]using this)⟩,λj b aj=>?_⟩;have cf:∀o,(w.drew.alloc o).heap[w.heap.size]? = J o:=λo=>l' w.drew o;simp only[aK.cell?,cf];have n:j<I l:=(hG.1 aj).1;simp[bytesRow];rw[Array.getElem?_append_left (by simpa using n)];simp[aj]
 refine⟨.slice (J ⟨w.heap.size,0,ah⟩) (I l) cap,w',by simp[cl,r,aE,axV],h.quiet aft,?_⟩;refine Sw h aft (us:=l.map λb=>.int .u8 (b.toNat:Int)) ⟨by simp[aL],λi y j d bN ao=>?_⟩ hle (λj u e=>?_)
 .simp[enc]at ao;cases j with|succ j=>simp at ao|zero=>simp at ao;subst ao;refine⟨_,by simpa[aL]using ⟨y,bN,rfl⟩,λaJ _=>.int _ _ (_c ?_)⟩;have:=y.toNat_lt;omega
 .rw[List.getElem?_map]at e;cases aj:l[j]? with|none=>simp[aj]at e|some b=>simp[aj]at e;subst e;exact axP j b aj
theorem agM(d:eR ab px)(e:o.op = .convert q t x){l:ar}(f:aF px st q x=J (.str l))(b:px.aO t = .sl .byte)(g:px.aO q = .str):me ab px o st st (.sl .byte l .no):=by refine⟨⟨rfl,rfl,rfl,rfl,rfl⟩,λs m a as_ w c h i=>?_⟩;obtain⟨v,w',h1,h2,h3⟩:=aeZ d e f b g c i;rw[xE h];exact .inl ⟨v,w',h1,m,h2,h3⟩
theorem ub{d:D}(h:sB c d=J ys):∃t,d = .sl c ys t:=by
 unfold sB at h;split at h
 .split at h
  .rename_i a xs t an;subst an;simp at h;subst h;exact⟨t,rfl⟩
  .cases h
 .cases h
variable{ad:af Addr}{by_:Nat}{bP:Nat}{ty:bD}{u:bD}
theorem aeM{t:bD}(f:aw.iZ P t u bP by_){v:aA}{c:Nat}(aE:v = .slice ah 0 0\/∃g n cap,v = .slice (J ⟨g,0,ah⟩) n cap/\n<=cap):(fP.append_ #[t,t] ty #[v,.slice ad 0 c]).run P w = .ok v w:=by
 obtain⟨d,i0,z,a,k,h,i,j,e⟩:=f;rcases aE with rfl|⟨g,n,cap,rfl,b⟩
 .cases ad<;>simp[ eX d,go_sem,sizeOf,typeInfo,a,loadCells]
 .cases ad<;>simp[ eX d,go_sem,sizeOf,typeInfo,a,loadCells,loadCellsFrom,b,storeCells]
variable{cc:U Nat}{a9:hY}
theorem Qj{i0:TypeInfo}{z:aA}(aJ:i0.size=aL c)(ea:z.cells.size=aL c)(x:lv st.a9 a9=J cc)(c0:I xs+I ys<=9223372036854775807)(eS:gL s (az st))(ay:Rel ab m a as_ s w){v:aA}(dE:eI (vx ab m s w).S (vx ab m s w).w (.sl c xs .no) v)(du:qJ (vx ab m s w) c xs v a9)(b9:eP (vx ab m s w) c ys us){rB:aA->aK->Prop}
  (gk:ys=[]->(v = .slice ah 0 0\/∃g n cap,v = .slice (J ⟨g,0,ah⟩) n cap/\n<=cap)->rB v w)
  (dL:v = .slice ah 0 0->xs=[]->ys≠[]->rB (.slice (J ⟨w.heap.size,0,ah⟩) (I ys) (grownCap w (I ys) 0 (ab.el c))) (w.drew.alloc (.cells (us.toArray++gf z.cells (grownCap w (I ys) 0 (ab.el c)-I ys)) (ab.el c))))
  (cZ:∀g cap cur,v = .slice (J ⟨g,0,ah⟩) (I xs) cap->w.heap[g]? = J (.cells cur (ab.el c) (0,0))->ys≠[]->I xs+I ys<=cap->I xs*aL c+I us<=cur.size->rB (.slice (J ⟨g,0,ah⟩) (I xs+I ys) cap) (w.setRow g (cur.toList.take (I xs*aL c)++us++cur.toList.drop (I xs*aL c+I us)).toArray))
  (dp:∀(g cap:Nat) (vs:U aA),v = .slice (J ⟨g,0,ah⟩) (I xs) cap->I vs=I xs*aL c->(∀(j:Nat) u,vs[j]? = J u->w.cell? ⟨g,j,ah⟩=J u)->ys≠[]->¬I xs+I ys<=cap->rB (.slice (J ⟨w.heap.size,0,ah⟩) (I xs+I ys) (grownCap w (I xs+I ys) cap (ab.el c))) (w.drew.alloc (.cells (vs.toArray++us.toArray++gf z.cells (grownCap w (I xs+I ys) cap (ab.el c)-(I xs+I ys))) (ab.el c)))) :
  ∃v w',rB v w'/\∃aR,Rel ab aR a as_ (gi (az (hV { st with a9:=cc })) s) w'/\aB (vx ab aR (gi (az (hV { st with a9:=cc })) s) w') (.sl c (xs++ys) (.id st.ba)) v:=by
 obtain⟨t0,axL,QR⟩:∃t0:af Nat,(∀q,q∈cc↔(q∈st.a9/\t0≠J q))/\((v = .slice ah 0 0/\xs=[])\/∃aO g cap cur,t0=J aO/\s.cc aO/\m.a9 aO=J (g,I xs*aL c)/\v = .slice (J ⟨g,0,ah⟩) (I xs) cap/\w.heap[g]? = J (.cells cur (ab.el c) (0,0))/\cur.size=cap*aL c/\I xs<=cap/\cap<=c5):=by
  unfold lv at x;split at x
  .cases x
  .simp at x;subst x;exact⟨ah,λq=>by simp,.inl du⟩
  .rename_i aO;split at x
   .rename_i an;simp at x;subst x;have gz:aO∈st.a9:=xe
    refine⟨J aO,λq=>?_,?_⟩
    .simp only[List.mem_filter,Bool.not_eq_true',ne_eq,c4];constructor
     .rintro⟨h1,h2⟩;refine⟨h1,λe=>?_⟩;subst e;simp at h2
     .rintro⟨h1,h2⟩;exact⟨h1,lZ (Ne.symm h2)⟩
    .have ac:s.cc aO:=by rw[eS.2.2.1];exact gz
     rcases du.2 ac with ⟨h1,_,h3⟩|⟨g,cap,cur,h1,h2,h3⟩
     .exact .inl ⟨h1,h3⟩
     .exact .inr ⟨aO,g,cap,cur,rfl,ac,h2,h1,h3⟩
   .cases x
  all_goals cases x
 have cE:=Na st cc t0 s eS axL;have dF:st.ba=s.ba:=eS.2.2.2.symm;have Cp:(D.sl c (xs++ys) (.id st.ba)) = .sl c (xs++ys) (.id s.ba):=by rw[dF]
 by_cases am:ys=[]
 .subst am;rw[List.append_nil];have aZ:=gk rfl (by
   rcases QR with ⟨h1,_⟩|⟨_,g,cap,_,_,_,_,h1,_,_,h2,_⟩
   .exact .inl h1
   .exact .inr ⟨g,_,cap,h1,h2⟩)
  refine⟨v,w,aZ,?_⟩;have Cp:(D.sl c xs (.id st.ba)) = .sl c xs (.id s.ba):=by rw[dF]
  rw[cE,Cp];rcases QR with ⟨h1,h2⟩|⟨aO,g,cap,cur,cF,aS,e_,kM,ju,u3,y3,sm⟩
  .obtain⟨y,e5⟩:=ay.right (t0:=t0) (p:=ah) (bF.refl _ _) (λg o h=>by cases h);refine⟨_,y,?_⟩;simp[aB];exact⟨e5.rf dE,Nat.lt_succ_self _,λ_=>.inl ⟨h1,by simp[vx],h2⟩⟩
  .obtain⟨y,e5⟩:=ay.right (t0:=t0) (p:=J (g,I xs*aL c)) (bF.refl _ _) (λiU o' h=>by simp[c4,iH]at h;obtain⟨rfl,rfl⟩:=h;exact⟨ay.kr aS e_,.inr ⟨aO,_,cF,aS,e_,b2 _⟩⟩)
   refine⟨_,y,?_⟩;simp[aB];exact⟨e5.rf dE,Nat.lt_succ_self _,λ_=>.inr ⟨g,cap,cur,kM,by simp[vx],ju,u3,y3,sm⟩⟩
 .have iR : 0<I ys:=List.length_pos_iff.2 am;have gN:I us=I ys*i0.size:=by rw[b9.1,aJ]
  rcases QR with ⟨rfl,rfl⟩|⟨aO,g,cap,cur,cF,aS,e_,rfl,ju,u3,y3,sm⟩
  .have aZ:=dL rfl rfl am;have d_:eP (vx ab m s w) c ([]++ys) us:=by simpa using b9
   have bz:=zX (t0:=t0) ay (cur:=us.toArray++gf z.cells (grownCap w (I ys) 0 (ab.el c)-I ys)) (cap:=grownCap w (I ys) 0 (ab.el c)) d_ ((bF.drew _ _).trans (bF.alloc er w.drew (.cells (us.toArray++gf z.cells (grownCap w (I ys) 0 (ab.el c)-I ys)) (ab.el c)))) (by simp) (l' w.drew _) (by
    have hJ:=rJ w (I ys) 0 (ab.el c);simp[Array.size_append,List.size_toArray,b9.1,gf,Array.size_map,Array.size_range,ea];rw[<-Nat.add_mul];congr 1;omega) aeB (BE _ _ _ _ (by simp at c0;omega)) (λj u d=>by
    have ch:j<I us:=(hG.1 d).1;rw[Array.getElem?_append_left (by simpa using ch)];simpa using d)
   rw[<-cE]at bz;refine⟨_,_,aZ,_,bz.1,?_⟩;rw[Cp];simpa using bz.2
  .obtain⟨a1,be,vs,ff,bk,l⟩:=qn dE;have l:∀(j:Nat) u,vs[j]? = J u->w.cell? ⟨g,j,ah⟩=J u:=by
    by_cases fF:xs=[]
    .subst fF;intro j u d;have:vs=[]:=List.eq_nil_of_length_eq_zero (by rw[bk.1];simp);subst this;simp at d
    .simp at ff;intro j u d;have:=l g 0 ff.1.symm fF j u d;rwa[Nat.zero_add]at this
   have jt:I vs=I xs*i0.size:=by rw[bk.1,aJ]
   by_cases r:I xs+I ys<=cap
   .have dH:I xs*i0.size+I us<=cur.size:=by rw[gN,u3,<-Nat.add_mul,aJ];exact Nat.mul_le_mul_right _ r
    rw[aJ]at dH;have aZ:=cZ g cap cur rfl ju am r dH;have fG:∀(j:Nat) u,(vs++us)[j]? = J u->(cur.toList.take (I xs*aL c)++us++cur.toList.drop (I xs*aL c+I us)).toArray[j]? = J u:=by
     intro j u d;have d':∀(j:Nat) u,vs[j]? = J u->cur[j]? = J u:=λj u d=>by have:=l j u d;simp[aK.cell?,ju]at this;exact this
     have ch:j<I (vs++us):=(hG.1 d).1;have cy:I (cur.toList.take (I xs*aL c))=I xs*aL c:=dh
     simp only[List.getElem?_toArray];rw[List.getElem?_append_left (by simp[dc,cy];simp[dc,bk.1]at ch;exact ch)];rw[List.getElem?_append]at d ⊢;rw[cy];rw[bk.1]at d;split
     .rename_i bL;rw[if_pos bL]at d;rw[fQ,if_pos bL];simpa using d' j u d
     .rename_i bL;rw[if_neg bL]at d;exact d
    have ef:∀j,j<I xs*aL c->(cur.toList.take (I xs*aL c)++us++cur.toList.drop (I xs*aL c+I us)).toArray[j]? = cur[j]? :=by
     intro j d;have cy:I (cur.toList.take (I xs*aL c))=I xs*aL c:=dh
     simp only[List.getElem?_toArray];rw[fI,List.getElem?_append_left (by rw[cy];exact d),fQ,if_pos d];simp
    have ap:(w.setRow g (cur.toList.take (I xs*aL c)++us++cur.toList.drop (I xs*aL c+I us)).toArray).heap[g]? = J (.cells (cur.toList.take (I xs*aL c)++us++cur.toList.drop (I xs*aL c+I us)).toArray (ab.el c) (0,0)):=setRow_heap w g cur _ _ _ ju;have iQ:bF (λb i=>∃t o,t0=J t/\s.cc t/\m.a9 t=J (b,o)/\o<=i) w (w.setRow g (cur.toList.take (I xs*aL c)++us++cur.toList.drop (I xs*aL c+I us)).toArray):=by
     refine⟨rfl,rfl,rfl,by simp,λk _ cJ=>setRow_other w g k _ (λe=>cJ (I xs*aL c) ⟨aO,_,cF,aS,by rw[e];exact e_,b2 _⟩),λb i v fr cJ=>?_,λb cs t f cA=>?_⟩
     rotate_left
     .by_cases aj:b=g
      .subst aj;rw[ju]at cA;simp[c4,Obj.cells.injEq]at cA;obtain⟨rfl,rfl,rfl⟩:=cA;exact⟨_,_,ap,by simp;omega⟩
      .exact⟨cs,f,by rw[setRow_other w g b _ aj];exact cA,rfl⟩
     by_cases aj:b=g
     .subst aj;have hi:i<I xs*aL c:=by
       rcases Nat.lt_or_ge i (I xs*aL c)with h|h
       .exact h
       .exact absurd ⟨aO,_,cF,aS,e_,h⟩ cJ
      simp only[aK.cell?,ap,ef i hi];simpa only[aK.cell?,ju]using fr
     .rw[aK.cell?_of_block (a:=⟨b,i,ah⟩) (setRow_other w g b _ aj)];exact fr
    obtain⟨y,e5⟩:=ay.right (t0:=t0) (p:=J (g,I (xs++ys)*aL c)) iQ (λiU o' h=>by simp only[c4,iH]at h;obtain⟨rfl,rfl⟩:=h;refine⟨by simpa using ay.kr aS e_,.inr ⟨aO,_,cF,aS,e_,?_⟩⟩;simp;exact Nat.mul_le_mul_right _ ag)
    rw[<-cE]at y;refine⟨_,_,aZ,_,y,?_⟩;rw[Cp];simp only[aB];rw[cE];have bW:I (xs++ys)=I xs+I ys:=by simp
    rw[<-bW];refine⟨Au ((bk.append b9).later e5) ⟨by rw[bW];exact r,sm⟩ (λj u d=>?_) (λi hi=>?_),Nat.lt_succ_self _,λ_=>.inr ⟨g,cap,_,rfl,by simp[vx],ap,?_,by rw[bW];exact r,sm⟩⟩
    .show aK.cell? _ _=_;simp only[vx,aK.cell?,ap];exact fG j u d
    .rintro(e4|bO)
     .exact ay.y2 e4 (.inr ⟨aO,_,aS,e_,b2 _⟩:fj m s g (I xs*aL c))
     .rcases bO with ⟨q,cA,he⟩|⟨t',o',h1,h2,h3⟩
      .exact ay.fH q aO g _ cA aS e_ he
      .by_cases cg:t' = s.ba
       .subst cg;simp at h2;rw[bW]at hi;omega
       .simp[if_neg cg]at h2;rcases h1 with h1|h1
        .exact h1.2 (by rw[cF,ay.gb aO t' g _ _ aS h1.1 e_ h2])
        .exact absurd h1 cg
    .have cy:I (cur.toList.take (I xs*aL c))=I xs*aL c:=dh
     simp[List.size_toArray,cy,iu];omega
   .have bz:=zX (t0:=t0) ay (cur:=vs.toArray++us.toArray++gf z.cells (grownCap w (I xs+I ys) cap (ab.el c)-(I xs+I ys))) (cap:=grownCap w (I xs+I ys) cap (ab.el c)) (bk.append b9) ((bF.drew _ _).trans (bF.alloc er w.drew (.cells (vs.toArray++us.toArray++gf z.cells (grownCap w (I xs+I ys) cap (ab.el c)-(I xs+I ys))) (ab.el c)))) (by simp) (l' w.drew _) (by
     have hJ:=rJ w (I xs+I ys) cap (ab.el c);simp[Array.size_append,List.size_toArray,b9.1,bk.1,gf,Array.size_map,Array.size_range,ea];rw[<-Nat.add_mul,<-Nat.add_mul];congr 1;omega) (by simpa using rJ w (I xs+I ys) cap (ab.el c)) (BE _ _ _ _ c0) (λj u d=>by
     have ch:j<I (vs++us):=(hG.1 d).1;rw[Array.getElem?_append_left (by simpa using ch)];simpa using d)
    rw[<-cE]at bz;refine⟨_,_,(dp g cap vs rfl bk.1 l am r),_,bz.1,?_⟩;rw[Cp];simpa using bz.2
variable{y:ct}
theorem U'(bn:eR ab px)(bK:o.op = .call ⟨.builtin .append, #[x,y], #[t,t]⟩)(ef:px.aO t = .sl c){ea:hY}(aW:aF px st t x=J (.sl c xs a9))(bN:aF px st t y=J (.sl c ys ea))(c0:lv st.a9 a9=J cc)(p:I xs+I ys<=bJ):me ab px o st (hV { st with a9:=cc }) (.sl c (xs++ys) (.id st.ba)):=by
 refine⟨⟨rfl,rfl,rfl,rfl,rfl⟩,λs m a as_ w dp eS ay=>?_⟩;rw[cR,<-dp _ x rD]at aW;rw[cR,<-dp _ y rD]at bN;obtain⟨v,_,aE,ap⟩:=ay.env.aF aW;obtain⟨v2,_,du,b9⟩:=ay.env.aF bN;simp[aB]at ap b9;obtain⟨ff,fF⟩:=ap;obtain⟨ad,i,us,rfl,ch,bz⟩:=qn b9.1;obtain⟨by_,eg,ac,_⟩:=jC (bn.aO t) ef;have fG:=eg;obtain⟨hu,i0,z,cy,dB,f,dH,fr,hJ⟩:=eg;have n:(I xs+I ys)*by_<=140737488355328:=by
  have cE:I xs+I ys<=274877906944:=by unfold bJ at p;exact p
  have h1:(I xs+I ys)*by_<=274877906944*512:=Nat.mul_le_mul cE ac;omega
 have dE:I xs+I ys<=9223372036854775807:=by unfold bJ at p;omega
 have am:∀(r:aA) (w':aK),(fP.append_ #[t,t] o.type #[v,.slice ad (I ys) i]).run ab.P w = .ok r w'->(cl a.eval o).run ab.P w = .ok (.value r) w':=by intro r w' ay;simp[cl,bK,resolve,invoke,builtin,dG,eW,e0,List.map_nil,aE,du,ay]
 have cZ:I us=I ys*i0.size:=by rw[ch.1,f]
 have dL:∀u,u∈us->u.oneCell' = true:=λu hu=>aw.vf (ch.one u hu);have q:ys≠[]->∃k dq,ad=J ⟨k,dq,ah⟩:=λd=>by
  obtain⟨bC,f',cF,h⟩:=lV b9.1;simp at cF;rcases h with h|⟨b,o',h,_⟩
  .exact absurd h d
  .exact⟨b,o',by rw[cF.1,h]⟩
 have l:∀k dq,ad=J ⟨k,dq,ah⟩->ys≠[]->∀(j:Nat) u,us[j]? = J u->w.cell? ((⟨k,dq,ah⟩:Addr).add j)=J u:=λk dq e d j u cN=>by rw[aw.hI];exact bz k dq e d j u cN
 refine(λh=>by obtain⟨v,w',h1,h2⟩:=h;exact .inl ⟨v,w',am _ _ h1,h2⟩) (Qj (rB:=λr w'=>(fP.append_ #[t,t] o.type #[v,.slice ad (I ys) i]).run ab.P w = .ok r w') f fr c0 dE eS ay ff fF ch ?_ ?_ ?_ ?_)
 .intro d aJ;subst d;exact aeM (P:=ab.P) (t:=t) (ty:=o.type) (w:=w) fG (v:=v) (ad:=ad) (c:=i) aJ
 .intro gk gz d;obtain⟨k,dq,aZ⟩:=q d;subst gk gz aZ;have d_ : 0<I ys:=List.length_pos_iff.2 d;exact run_append_nil (P:=ab.P) w t o.type (ab.el c) i0 z hu cy dB ⟨k,dq,ah⟩ (I ys) i us cZ (l k dq rfl d) d_ (by simp at dE;omega) (by rw[dH];simp at n;omega)
 .intro g cap cur aJ ju d bk d';obtain⟨k,dq,aZ⟩:=q d;subst aJ aZ;have bW:=run_append_room (P:=ab.P) w t o.type (ab.el c) i0 hu cy g (I xs) cap cur ju ⟨k,dq,ah⟩ (I ys) i us cZ (l k dq rfl d) dL bk (by rw[f];exact d');rw[f]at bW;exact bW
 .intro g cap vs aJ gN bL d bk;obtain⟨k,dq,aZ⟩:=q d;subst aJ aZ;have d_ : 0<I ys:=List.length_pos_iff.2 d;exact run_append_grow (P:=ab.P) w t o.type (ab.el c) i0 z hu cy dB ⟨g,0,ah⟩ (I xs) cap vs (by rw[f];exact gN) (λj u cN=>by rw[aw.hI,Nat.zero_add];exact bL j u cN) ⟨k,dq,ah⟩ (I ys) i us cZ (l k dq rfl d) ag ag (growslice_fits ag (by rw[dH];exact n))
variable{ff:hY}
theorem aeP(bn:eR ab px)(bK:o.op = .call ⟨.builtin .append, #[x,y], #[t,t]⟩)(du:px.aO t = .sl c)(aW:aF px st t x=J (.sl c xs .f))(bN:aF px st t y=J (.sl c ys ff))(b9:ys≠[])(g:I xs+I ys<=bJ):me ab px o st (hV st) (.sl c (xs++ys) (.id st.ba)):=by
 refine⟨⟨rfl,rfl,rfl,rfl,rfl⟩,λs m a as_ w ap eS ay=>?_⟩;rw[cR,<-ap _ x rD]at aW;rw[cR,<-ap _ y rD]at bN;obtain⟨v,_,aE,dH⟩:=ay.env.aF aW;obtain⟨v2,_,fF,ch⟩:=ay.env.aF bN;simp[aB]at dH ch;obtain⟨cy,dE,rfl⟩:=dH;obtain⟨ad,i,us,rfl,k,bk⟩:=qn ch.1;obtain⟨by_,eg,bz,_⟩:=jC (bn.aO t) du;obtain⟨hu,i0,z,dL,dB,l,d_,d',gz⟩:=eg;have e:(I xs+I ys)*by_<=140737488355328:=by
  have cE:I xs+I ys<=274877906944:=by unfold bJ at g;exact g
  have h1:(I xs+I ys)*by_<=274877906944*512:=Nat.mul_le_mul cE bz;omega
 have am:I xs+I ys<=9223372036854775807:=by unfold bJ at g;omega
 have ef:I us=I ys*i0.size:=by rw[k.1,l]
 have fG : 0<I ys:=List.length_pos_iff.2 b9;obtain⟨dF,dq,QQ⟩:∃dF dq,ad=J ⟨dF,dq,ah⟩:=by
  obtain⟨bC,f',cF,h⟩:=lV ch.1;simp at cF;rcases h with h|⟨b,o',h,_⟩
  .exact absurd h b9
  .exact⟨b,o',by rw[cF.1,h]⟩
 subst QQ;have n:∀(j:Nat) u,us[j]? = J u->w.cell? ((⟨dF,dq,ah⟩:Addr).add j)=J u:=λj u cN=>by rw[aw.hI];exact bk dF dq rfl b9 j u cN
 have q:∀(r:aA) (w':aK),(fP.append_ #[t,t] o.type #[.slice dE (I xs) (I xs),.slice (J ⟨dF,dq,ah⟩) (I ys) i]).run ab.P w = .ok r w'->(cl a.eval o).run ab.P w = .ok (.value r) w':=by intro r w' ay;simp[cl,bK,resolve,invoke,builtin,dG,eW,e0,List.map_nil,aE,fF,ay]
 have ac:=Na st st.a9 ah s eS (λt=>by simp);have ac:gi (az (hV st)) s={ s with cc:=λt=>(s.cc t/\(ah:af Nat)≠J t)\/t=s.ba,ba:=s.ba+1 }:=ac;have ea:st.ba=s.ba:=eS.2.2.2.symm;obtain⟨a1,gN,vs,c0,bL,bW⟩:=qn cy;cases dE with
 |none=>
  have aJ:xs=[]:=by
   obtain⟨bC,f',cF,h⟩:=lV cy;simp at cF;rcases h with h|⟨b,o',h,_⟩
   .exact h
   .rw[h]at cF;simp at cF
  subst aJ;have aZ:=run_append_nil (P:=ab.P) w t o.type (ab.el c) i0 z hu dL dB ⟨dF,dq,ah⟩ (I ys) i us ef n fG (by simp at am;omega) (by rw[d_];simp at e;omega);have cZ:eP (vx ab m s w) c ([]++ys) us:=by simpa using k
  have d:=zX (t0:=ah) ay (cur:=us.toArray++gf z.cells (grownCap w (I ys) 0 (ab.el c)-I ys)) (cap:=grownCap w (I ys) 0 (ab.el c)) cZ ((bF.drew _ _).trans (bF.alloc er w.drew (.cells (us.toArray++gf z.cells (grownCap w (I ys) 0 (ab.el c)-I ys)) (ab.el c)))) (by simp) (l' w.drew _) (by
   have fr:=rJ w (I ys) 0 (ab.el c);simp[Array.size_append,List.size_toArray,k.1,gf,Array.size_map,Array.size_range,d'];rw[<-Nat.add_mul];congr 1;omega) aeB (BE _ _ _ _ (by simp at am;omega)) (λj u cN=>by
   have dp:j<I us:=(hG.1 cN).1;rw[Array.getElem?_append_left (by simpa using dp)];simpa using cN)
  rw[<-ac]at d;exact _I
 |some p=>
  have gk:∀(j:Nat) u,vs[j]? = J u->w.cell? (p.add j)=J u:=λj u cN=>by
   by_cases aJ:xs=[]
   .subst aJ;have:vs=[]:=List.eq_nil_of_length_eq_zero (by rw[bL.1];simp);subst this;simp at cN
   .obtain⟨bC,f',cF,h⟩:=lV cy;rcases h with h|⟨b,o',h,_⟩
    .exact absurd h aJ
    .subst h;simp at cF;obtain⟨rfl,_⟩:=cF;rw[aw.hI];simp at c0;exact bW b o' c0.1.symm aJ j u cN
  have aZ:=run_append_grow (P:=ab.P) w t o.type (ab.el c) i0 z hu dL dB p (I xs) (I xs) vs (by rw[l];exact bL.1) gk ⟨dF,dq,ah⟩ (I ys) i us ef n ag ag (growslice_fits ag (by rw[d_];exact e));have d:=zX (t0:=ah) ay (cur:=vs.toArray++us.toArray++gf z.cells (grownCap w (I xs+I ys) (I xs) (ab.el c)-(I xs+I ys))) (cap:=grownCap w (I xs+I ys) (I xs) (ab.el c)) (bL.append k) ((bF.drew _ _).trans (bF.alloc er w.drew (.cells (vs.toArray++us.toArray++gf z.cells (grownCap w (I xs+I ys) (I xs) (ab.el c)-(I xs+I ys))) (ab.el c)))) (by simp) (l' w.drew _) (by
   have fr:=rJ w (I xs+I ys) (I xs) (ab.el c);simp[Array.size_append,List.size_toArray,k.1,bL.1,gf,Array.size_map,Array.size_range,d'];rw[<-Nat.add_mul,<-Nat.add_mul];congr 1;omega) (by simpa using rJ w (I xs+I ys) (I xs) (ab.el c)) (BE _ _ _ _ am) (λj u cN=>by
   have dp:j<I (vs++us):=(hG.1 cN).1;rw[Array.getElem?_append_left (by simpa using dp)];simpa using cN)
  rw[<-ac]at d;exact _I
theorem ahz{t:bD}(d:aw.iZ P t u bP by_){p:Addr}{n:Nat}{c:Nat}:(fP.append_ #[t,t] ty #[.slice (J p) n n,.slice ad 0 c]).run P w = .ok (.slice (J p) n n) w:=by obtain⟨e,i0,z,a,i,f,g,h,b⟩:=d;cases ad<;>simp[ eX e,go_sem,sizeOf,typeInfo,a,loadCells,loadCellsFrom,storeCells]
theorem aeN(bn:eR ab px)(q:o.op = .call ⟨.builtin .append, #[x,y], #[t,t]⟩)(r:px.aO t = .sl c){u:hY}(aW:aF px st t x=J (.sl c xs .f))(bN:aF px st t y=J (.sl c ys u))(z:ys=[]):me ab px o st st (.sl c xs .f):=by
 refine⟨⟨rfl,rfl,rfl,rfl,rfl⟩,λs m a as_ w j eS ay=>?_⟩;rw[cR,<-j _ x (by simp[q,Op.operands,Call.operands])]at aW;rw[cR,<-j _ y (by simp[q,Op.operands,Call.operands])]at bN;obtain⟨v,_,aE,i⟩:=ay.env.aF aW;obtain⟨v2,_,aJ,k⟩:=ay.env.aF bN;have l:=i;simp[aB]at i k;obtain⟨aZ,d,rfl⟩:=i;obtain⟨ad,g,us,rfl,bz,n⟩:=qn k.1;obtain⟨by_,eg,_,_⟩:=jC (bn.aO t) r;subst z;have e:(fP.append_ #[t,t] o.type #[.slice d (I xs) (I xs),.slice ad (I ([]:U (cL c))) g]).run ab.P w = .ok (.slice d (I xs) (I xs)) w:=by
  cases d with
  |none=>
   have bk:xs=[]:=by
    obtain⟨bC,f',cF,h⟩:=lV aZ;simp at cF;rcases h with h|⟨b,o',h,_⟩
    .exact h
    .rw[h]at cF;simp at cF
   subst bk;exact aeM eg (.inl rfl)
  |some p=>exact ahz eg
 refine .inl ⟨.slice d (I xs) (I xs),w,?_,m,?_,?_⟩
 .have e:(fP.append_ #[t,t] o.type #[.slice d (I xs) (I xs),.slice ad 0 g]).run ab.P w = .ok (.slice d (I xs) (I xs)) w:=GA
  simp[cl,q,resolve,invoke,builtin,dG,eW,e0,List.map_nil,aE,aJ,e]
 .rw[xE eS];exact ay
 .rw[xE eS];exact l
variable{t':Nat}
theorem aeY(bn:eR ab px)(bK:o.op = .call ⟨.builtin .append, #[x,y], #[t,t']⟩)(d':px.aO t = .sl .byte)(am:px.aO t' = .str){xs:U UInt8}{l:ar}(aW:aF px st t x=J (.sl .byte xs a9))(bN:aF px st t y=J (.str l))(ef:lv st.a9 a9=J cc)(aZ:I xs+I l<=bJ):me ab px o st (hV { st with a9:=cc }) (.sl .byte (xs++l:U UInt8) (.id st.ba)):=by
 refine⟨⟨rfl,rfl,rfl,rfl,rfl⟩,λs m a as_ w cZ eS ay=>?_⟩;rw[cR,<-cZ _ x rD]at aW;rw[cR,<-cZ _ y rD]at bN;obtain⟨v,_,aE,dp⟩:=ay.env.aF aW;obtain⟨v2,_,ea,ap⟩:=ay.env.aF bN;simp[aB]at dp ap;obtain⟨c0,du⟩:=dp;obtain⟨rfl,gN⟩:=ap;obtain⟨by_,eg,bW,lL⟩:=jC (bn.aO t) d';have hJ:=eg;obtain⟨hu,i0,z,bk,dB,bz,dH,dF,gz⟩:=eg;have k:=aw.pO (qu (bn.aO t') am);have q:(I xs+I l)*by_<=140737488355328:=by
  have ch:I xs+I l<=274877906944:=by unfold bJ at aZ;exact aZ
  have h1:(I xs+I l)*by_<=274877906944*512:=Nat.mul_le_mul ch bW;omega
 have dE:I xs+I l<=9223372036854775807:=by unfold bJ at aZ;omega
 have cy:∀(r:aA) (w':aK),(fP.append_ #[t,t'] o.type #[v,.string ⟨l.toArray⟩]).run ab.P w = .ok r w'->(cl a.eval o).run ab.P w = .ok (.value r) w':=by intro r w' ay;simp[cl,bK,resolve,invoke,builtin,dG,eW,fg,List.map_toArray,e0,List.map_nil,aE,ea,ay]
 have dL:i0.size=1:=bz;have f:(⟨l.toArray⟩:ByteArray).size=I l:=by simp[ByteArray.size]
 have aJ:Lib.strCells (⟨l.toArray⟩:ByteArray)=l.map λb=>aA.int .u8 (b.toNat:Int):=by simp[Lib.strCells]
 have ff:eP (vx ab m s w) .byte (l:U UInt8) (l.map λb=>aA.int .u8 (b.toNat:Int)):=by
  refine⟨by simp[aL],λi y j d bN ao=>?_⟩;obtain⟨rfl,rfl⟩:j=0/\d = .int .u8 (y.toNat:Int):=by cases j with|zero=>exact⟨rfl,by simpa[enc]using ao.symm⟩|succ j=>simp[enc]at ao
  refine⟨.int .u8 (y.toNat:Int),?_,λw' _=>.int _ _ ?_⟩
  .have bN:l[i]? = J y:=bN;simp[aL,bN]
  .have:=y.toNat_lt;exact ad5
 refine(λh=>by obtain⟨v,w',h1,h2⟩:=h;exact .inl ⟨v,w',cy _ _ h1,h2⟩) (Qj (c:=.byte) (ys:=(l:U UInt8)) (rB:=λr w'=>(fP.append_ #[t,t'] o.type #[v,.string ⟨l.toArray⟩]).run ab.P w = .ok r w') bz dF ef dE eS ay c0 du ff ?_ ?_ ?_ ?_)
 .intro p ac;have p:l=[]:=p;subst p;rcases ac with rfl|⟨g,n,cap,rfl,fF⟩
  .simp[fP.append_,eX hu,eX k,sizeOf,typeInfo,bk,fP.lenOf,go_sem,ByteArray.size]
  .simp[fP.append_,eX hu,eX k,sizeOf,typeInfo,bk,fP.lenOf,go_sem,ByteArray.size,fF,storeCells]
 .intro fG cE p;have cE:xs=[]:=cE;subst fG cE;have fr : 0<I l:=List.length_pos_iff.2 p;have e:=run_append_nil_string (P:=ab.P) (w:=w) t t' o.type (ab.el .byte) i0 z hu k bk dB ⟨l.toArray⟩ (by rw[f];exact fr) (by rw[f];simp at dE;omega) (by rw[f,dH];simp at q;omega);rw[f]at e;have cF:((⟨l.toArray⟩:ByteArray).data.map λb=>aA.int .u8 b.toNat)=(l.map λb=>aA.int .u8 (b.toNat:Int)).toArray:=AT
  rw[cF]at e;exact e
 .intro g cap cur ac ju p bL d_;subst ac;have e:=Lib.run_append_room_string (P:=ab.P) (w:=w) t t' o.type (ab.el .byte) i0 hu k bk dL g (I xs) cap cur ju ⟨l.toArray⟩ (by rw[f];exact bL) (by rw[f];simpa[aL]using d_);rw[aJ,f]at e;simpa[aL]using e
 .intro g cap vs ac gk b9 p bL;subst ac;have e:=Lib.run_append_grow_string (P:=ab.P) (w:=w) t t' o.type (ab.el .byte) i0 z hu k bk dB ⟨g,0,ah⟩ (I xs) cap vs (by rw[dL];simpa[aL]using gk) (λj u cN=>by rw[aw.hI,Nat.zero_add];exact b9 j u cN) ⟨l.toArray⟩ (by rw[f];omega) (by rw[f];omega) (by rw[f];exact growslice_fits (by have : 0<I l:=List.length_pos_iff.2 p;omega) (by rw[dH];exact q));rw[aJ,f]at e;exact e
variable{α:Type}
theorem anA(xs:U α)(o:Nat):hR xs o []=xs:=by simp[hR]
theorem rF(xs:U α)(o:Nat)(l:U α)(h:o+I l<=I xs):I (hR xs o l)=I xs:=by simp[hR,iu];omega
theorem WG(xs:U α)(o:Nat)(l:U α)(h:o+I l<=I xs)(q:Nat):(hR xs o l)[q]? = if o<=q/\q<o+I l then l[q-o]? else xs[q]? :=by
 have a:I (xs.take o)=o:=dh
 simp[hR];by_cases h1:q<o
 .rw[List.getElem?_append_left ag,if_neg ag,fQ,if_pos h1]
 .rw[List.getElem?_append_right ag,a];by_cases h2:q<o+I l
  .rw[List.getElem?_append_left ag,if_pos ag]
  .rw[List.getElem?_append_right ag,if_neg ag,List.getElem?_drop];congr 1;omega
theorem _8(bn:eR ab px)(bK:o.op = .call ⟨.builtin .copy, #[x,y], #[t,t']⟩){b:Nat}{p n:Int}(gN:px.aO t = .sl c)(aW:aF px st t x=J (.gB b c p n))(bN:aF px st t y=J (.sl c ys a9))(aj:bu st.ak b=J (.dyn c xs))(h1:aL c=1)(mY : 0<=p)(ay1 : 0<=n)(mZ:p+n<=(I xs:Int)):me ab px o st { st with ak:=eZ st.ak b (.dyn c (hR xs p.toNat (ys.take n.toNat))) } (.int .i64 ((min n.toNat (I ys):Nat):Int)):=by
 refine⟨⟨rfl,rfl,rfl,rfl,rfl⟩,λs m a as_ w d' eS ay=>?_⟩;rw[cR,<-d' _ x rD]at aW;rw[cR,<-d' _ y rD]at bN;obtain⟨v,_,aE,ef⟩:=ay.env.aF aW;obtain⟨v2,_,hJ,ch⟩:=ay.env.aF bN;simp[aB]at ef ch;obtain⟨gJ,_,_,lK,ad,cap,rfl,mv,nJ,Cl,_⟩:=ef;obtain⟨cy,aZ,us,rfl,cE,bz⟩:=qn ch.1;obtain⟨by_,⟨hu,i0,z,iQ,dB,am,nH,py,lJ⟩,gz,_⟩:=jC (bn.aO t) gN;have ea:(ab.P.info? (ab.el c)).map (·.size)=J 1:=by rw[iQ];simp[am,h1]
 have cZ:s.ak b=J (.dyn c xs):=xc
 obtain⟨_,be,vs,ty,cf,bW,dp⟩:=ay.eb b _ cZ;have cf:w.heap[m.ak b]? = J (.cells vs.toArray ty (0,0)):=cf;have bk:∀(r:aA) (w':aK),(fP.copy_ #[t,t'] o.type #[.slice ad n.toNat cap,.slice cy (I ys) aZ]).run ab.P w = .ok r w'->(cl a.eval o).run ab.P w = .ok (.value r) w':=by intro r w' ay;simp[cl,bK,resolve,invoke,builtin,dG,eW,fg,List.map_toArray,e0,List.map_nil,aE,hJ,ay]
 have c0:I us=I ys:=by rw[cE.1,h1,Nat.mul_one]
 have b9:∀(x':cM),aB x' (.int .i64 ((min n.toNat (I ys):Nat):Int)) (goInt ((min n.toNat (I ys):Nat):Int)):=λx'=>by simp[aB];refine⟨rfl,zF ?_⟩;have cA:min n.toNat (I ys)<=n.toNat:=Nat.min_le_left _ _;have hm:c5=9223372036854775807:=rfl;simp only[b'.min,b'.max,b'.signed,b'.bits];simp[if_true];omega
 by_cases h0:Nat.min (I ys) n.toNat=0
 .have g:=run_copy_none (P:=ab.P) w t t' o.type (ab.el c) ad cy n.toNat cap (I ys) aZ hu ea h0;have du:min n.toNat (I ys)=0:=by rw[Nat.min_comm];exact h0
  have iR:ys.take n.toNat=[]:=by apply List.eq_nil_of_length_eq_zero;rw[List.length_take];exact du
  refine .inl ⟨_,w,bk _ _ g,m,?_,?_⟩
  .rw[uD st b _ _ s eS aj,iR,anA];have:({ s with ak:=λcj=>if cj = b then J (.dyn c xs)else s.ak cj }:FS)=s:=by
    refine FS.eq rfl rfl rfl rfl rfl ?_ rfl rfl rfl;funext cj;by_cases an:cj = b
    .subst an;simp[cZ]
    .simp[an]
   rw[this];exact ay
  .have:=b9 (vx ab m (gi (az { st with ak:=eZ st.ak b (.dyn c (hR xs p.toNat (ys.take n.toNat))) }) s) w);rw[du]at this ⊢;exact this
 .have ac : 0<n.toNat/\0<I ys:=by have : 0<min (I ys) n.toNat:=Nat.pos_of_ne_zero h0;omega
  obtain rfl:=mv.resolve_left ag;obtain⟨dF,dq,rfl,axO⟩:∃dF dq,cy=J ⟨dF,dq,ah⟩/\∀(j:Nat) u,us[j]? = J u->w.cell? ⟨dF,dq+j,ah⟩=J u:=by
   obtain⟨bC,f',ff,bO⟩:=lV ch.1;simp[aA.slice.injEq]at ff;rcases bO with e|⟨dF,dq,e,_⟩
   .rw[e]at ac;simp at ac
   .obtain⟨cF,_⟩:=ff;exact⟨dF,dq,cF.trans e,bz dF dq (cF.trans e) (by intro e;rw[e]at ac;simp at ac)⟩
  have bL:I (us.take n.toNat)=Nat.min (I ys) n.toNat:=by rw[List.length_take,c0,Nat.min_comm]
  have fF:Nat.min (I ys) n.toNat=min (I ys) n.toNat:=rfl;have ap:p.toNat*aL c=p.toNat:=by rw[h1,Nat.mul_one]
  have aJ:p.toNat+I (us.take n.toNat)<=I vs:=by rw[bL];rw[h1]at bW;omega
  have g:=run_copy_row (P:=ab.P) w t t' o.type (ab.el c) (m.ak b) (p.toNat*aL c) n.toNat cap ⟨dF,dq,ah⟩ (I ys) aZ vs.toArray ty (us.take n.toNat) hu ea cf bL (λj u cN=>by
   rw[aw.hI];refine axO j u ?_;rw[fQ]at cN;split at cN
   .exact cN
   .cases cN) (by rw[ap];simpa using aJ) (λu hu=>by
    have:=cE.one u (List.mem_of_mem_take hu);exact this)
  rw[ap]at g;have dH:=setRow_heap w (m.ak b) vs.toArray (vs.toArray.toList.take p.toNat++us.take n.toNat++vs.toArray.toList.drop (p.toNat+I (us.take n.toNat))).toArray ty (0,0) cf;have dE:(vs.toArray.toList.take p.toNat++us.take n.toNat++vs.toArray.toList.drop (p.toNat+I (us.take n.toNat)))=hR vs p.toNat (us.take n.toNat):=by simp[hR,fI]
  rw[dE]at g dH;have jt:bF (λcj _=>cj = m.ak b) w (w.setRow (m.ak b) (hR vs p.toNat (us.take n.toNat)).toArray):=by
   refine⟨rfl,rfl,rfl,by simp,λk _ aV=>setRow_other w _ k _ (λe=>aV 0 e),λbQ i u kk aV=>?_,λbQ cs t2 f cA=>?_⟩
   .rw[aK.cell?_of_block (a:=⟨bQ,i,ah⟩) (setRow_other w _ bQ _ (λe=>aV e))];exact kk
   .by_cases fG:bQ = m.ak b
    .subst fG;rw[cf]at cA;simp[c4,Obj.cells.injEq]at cA;obtain⟨rfl,rfl,rfl⟩:=cA;exact⟨_,_,dH,by simp[rF _ _ _ aJ]⟩
    .exact⟨cs,f,by rw[setRow_other w _ bQ _ fG];exact cA,rfl⟩
  have fr:I (ys.take n.toNat)=I (us.take n.toNat):=by simp[c0]
  have h:p.toNat+I (ys.take n.toNat)<=I xs:=by rw[fr,bL];omega
  have gk:=ay.write (k:=.dyn c (hR xs p.toNat (ys.take n.toNat))) cZ jt (λx' e5 hw=>by
   refine⟨by rw[rF _ _ _ h];exact be,hR vs p.toNat (us.take n.toNat),ty,by rw[hw];exact dH,by rw[rF _ _ _ h,rF _ _ _ aJ];exact bW,λq y j d l dL=>?_⟩;have cN:j=0:=by
    have:j<aL c:=by rw[<-ij c y];exact(hG.1 dL).1
    omega
   subst cN;rw[h1,Nat.mul_one,Nat.add_zero,WG _ _ _ aJ];rw[WG _ _ _ h,fr]at l;split at l
   .rename_i d_;rw[if_pos d_];rw[fQ]at l ⊢;split at l
    .rename_i bi;obtain⟨u,hu,bO⟩:=cE.2 _ y 0 d l dL;rw[h1,Nat.mul_one,Nat.add_zero]at hu;exact⟨u,by rw[if_pos bi];exact hu,e5.rf bO⟩
    .cases l
   .rename_i d_;rw[if_neg d_];obtain⟨u,hu,bO⟩:=dp q y 0 d l dL;rw[h1,Nat.mul_one,Nat.add_zero]at hu;exact⟨u,hu,e5.rf bO⟩)
  refine .inl ⟨_,_,bk _ _ (by rw[ap];exact g),m,by rw[uD st b _ _ s eS aj];exact gk,?_⟩;rw[bL,fF,Nat.min_comm (I ys) n.toNat];exact b9 _
end
theorem BG{A B:Array Obj}(h:∀k:Nat,A[k]? = B[k]?):({ w with heap:=A }:aK)={ w with heap:=B }:=by rw[Array.ext_getElem? h]
theorem ahd{b:Nat}{cs:Array aA}{t:bD}{a:Nat×Nat}(h:w.heap[b]? = J (.cells cs t a)):w.setRow b cs=w:=by
 refine BG (w:=w) (B:=w.heap) λk=>?_
 grind
theorem ahW(w:aK)(b:Nat)(A B:Array aA):(w.setRow b A).setRow b B=w.setRow b B:=by
 refine BG (w:=w) λk=>?_;simp[aK.setRow,Array.getElem?_modify]
 grind
theorem ag7(w:aK){b c:Nat}(h:b≠c)(A B:Array aA):(w.setRow b A).setRow c B=(w.setRow c B).setRow b A:=by
 refine BG (w:=w) λk=>?_;simp[aK.setRow,Array.getElem?_modify]
 grind
theorem TF(w:aK)(A B:Array aA)(t:bD):(w.alloc (.cells A t)).setRow w.heap.size B=w.alloc (.cells B t):=by
 refine BG (w:=w) λk=>?_;simp only[aK.alloc,Array.getElem?_modify,Array.getElem?_push]
 grind
theorem ahR{b off:Nat}{v:aA}{A:Array aA}:(w.setCell ⟨b,off,ah⟩ v).setRow b A=w.setRow b A:=by
 refine BG (w:=w) λk=>?_;simp[aK.setCell,Array.getElem?_modify]
 grind
theorem qf{t:bD}{a:Nat×Nat}:∀(vs cs:U aA) (w:aK) (b off:Nat),w.heap[b]? = J (.cells cs.toArray t a)->aw.setCells w b off vs=w.setRow b (aw.ig cs off vs).toArray
 |[],cs,w,b,off,h=>(ahd h).symm
 |v::vs,cs,w,b,off,h=>by simp[aw.setCells];rw[qf vs (cs.set off v) (w.setCell ⟨b,off,ah⟩ v) b (off+1) (aw.af4 h)];exact ahR
theorem GX:∀(us a pre post:U aA),I us=I a->aw.ig (pre++a++post) (I pre) us=pre++us++post
 |[],a,pre,post,h=>by have:a=[]:=List.length_eq_zero_iff.1 h.symm;subst this;rfl
 |u::us,[],pre,post,h=>by simp at h
 |u::us,agd::a,pre,post,h=>by
  simp[dm]at h;have b:=GX us a (pre++[u]) post h;simp only[aw.ig]
  grind
theorem Xl(w:aK)(A:Array aA)(t:bD):(w.drew.alloc (.cells A t)).heap[w.heap.size]? = J (.cells A t (0,0)):=l' w.drew _
section
variable {R:Type}{px:aM R}{ab:cB}
variable{cc:U Nat}{as_:U Act}{ff:hY}{c:b1}{m:dg}{st:bc}{a9:hY}{us:U aA}{xs:U (cL c)}
theorem apM(bn:eR ab px){t:bD}(du:px.aO t = .sl c){f e:cL c}(p:lv st.a9 a9=J cc)(bk:I xs+1<=bJ)(eS:gL s (az st))(ay:Rel ab m a as_ s w){v fu:aA}
  (aW:aB (vx ab m s w) (.sl c xs a9) v) (dB:aB (vx ab m s w) (.sl c [f] ff) fu) (dp:mf (vx ab m s w) c e us) (ty:bD) :
  ∃(bA:aA) (fL:aK) (g cap:Nat) (cs:U aA) (t0:bD),(fP.append_ #[t,t] ty #[v,fu]).run ab.P w = .ok bA fL/\bA = .slice (J ⟨g,0,ah⟩) (I xs+1) cap/\fL.heap[g]? = J (.cells cs.toArray t0 (0,0))/\I xs*aL c+aL c<=I cs/\(∀b,s.ak b≠ah->m.ak b≠g)/\(∀k,k<w.heap.size->k≠g->fL.heap[k]? = w.heap[k]?) /\
   ∃aR,Rel ab aR a as_ (gi (az (hV { st with a9:=cc })) s) (aw.setCells fL g (I xs*aL c) us)/\aB (vx ab aR (gi (az (hV { st with a9:=cc })) s) (aw.setCells fL g (I xs*aL c) us)) (.sl c (xs++[e]) (.id st.ba)) bA:=by
 simp[aB]at aW dB;obtain⟨fF,bW⟩:=aW;obtain⟨ad,r,d,rfl,bz,b9⟩:=qn dB.1;obtain⟨by_,eg,ch,_⟩:=jC (bn.aO t) du;obtain⟨hu,i0,z,cE,ap,i,dH,fG,hJ⟩:=eg;have x:(I xs+1)*by_<=140737488355328:=by
  have am:I xs+1<=274877906944:=by unfold bJ at bk;exact bk
  have h1:(I xs+1)*by_<=274877906944*512:=Nat.mul_le_mul am ch;omega
 have dE:I xs+I [e]<=9223372036854775807:=by unfold bJ at bk;simp[ hn];omega
 have dL:eP (vx ab m s w) c [e] us:=by simpa using eP.cons dp (eP.nil (vx ab m s w) c)
 have fr:I us=aL c:=dp.1;have d_:I d=aL c:=by have:=bz.1;simpa using this
 have ac:I us=I d:=by rw[fr,d_]
 have bL:I d=I [f]*i0.size:=by rw[bz.1,i]
 have d':∀u,u∈d->u.oneCell' = true:=λu hu=>aw.vf (bz.one u hu);obtain⟨dF,dq,QQ⟩:∃dF dq,ad=J ⟨dF,dq,ah⟩:=by
  obtain⟨bC,f',cF,h⟩:=lV dB.1;simp at cF;rcases h with h|⟨b,o',h,_⟩
  .cases h
  .grind
 subst QQ;have q:∀(j:Nat) u,d[j]? = J u->w.cell? ((⟨dF,dq,ah⟩:Addr).add j)=J u:=λj u cN=>by rw[aw.hI];exact b9 dF dq rfl (by simp) j u cN
 have y:∀b,s.ak b≠ah->m.ak b≠w.heap.size:=λb aj h=>by have:=ay.l7 aj;omega
 have aJ:∀(o:Obj) (k:Nat),k<w.heap.size->k≠w.heap.size->(w.drew.alloc o).heap[k]? = w.heap[k]? :=λo k aV _=>by have h1:k<w.drew.heap.size:=aV;exact Below.heap_alloc _ _ _ h1
 refine(λh=>by obtain⟨bA,w2,⟨fL,g,cap,cs,t0,h1,h2,h3,h4,h5,h6,rfl⟩,aR,h7,lL⟩:=h;exact⟨bA,fL,g,cap,cs,t0,h1,h2,h3,h4,h5,h6,aR,h7,lL⟩) (Qj (rB:=λbA w2=>∃(fL:aK) (g cap:Nat) (cs:U aA) (t0:bD),(fP.append_ #[t,t] ty #[v,.slice (J ⟨dF,dq,ah⟩) (I [f]) r]).run ab.P w = .ok bA fL/\bA = .slice (J ⟨g,0,ah⟩) (I xs+1) cap/\fL.heap[g]? = J (.cells cs.toArray t0 (0,0))/\I xs*aL c+aL c<=I cs/\(∀b,s.ak b≠ah->m.ak b≠g)/\(∀k,k<w.heap.size->k≠g->fL.heap[k]? = w.heap[k]?)/\w2=aw.setCells fL g (I xs*aL c) us)
  i fG p dE eS ay fF bW dL ?_ ?_ ?_ ?_)
 .grind
 .intro gk gz _;subst gk gz;have l:=run_append_nil (P:=ab.P) w t ty (ab.el c) i0 z hu cE ap ⟨dF,dq,ah⟩ (I [f]) r d bL q (by simp) (by simp) (by rw[dH];simp at x ⊢;omega);have cf:=Xl w (d.toArray++gf z.cells (grownCap w (I [f]) 0 (ab.el c) - I [f])) (ab.el c);have la:d.toArray++gf z.cells (grownCap w (I [f]) 0 (ab.el c) - I [f])=(d++(gf z.cells (grownCap w (I [f]) 0 (ab.el c) - I [f])).toList).toArray:=AT
  rw[la]at cf;refine⟨_,w.heap.size,_,_,_,l,rfl,by rw[la];exact cf,by simp[ hn];omega,y,aJ _,?_⟩;rw[la,qf us _ _ _ _ cf];have cF:=GX us d [] (gf z.cells (grownCap w (I [f]) 0 (ab.el c) - I [f])).toList ac;simp only[ib,hn,Nat.zero_mul]at cF ⊢;rw[cF];have aS:=TF w.drew (d++(gf z.cells (grownCap w (I [f]) 0 (ab.el c) - I [f])).toList).toArray (us++(gf z.cells (grownCap w (I [f]) 0 (ab.el c) - I [f])).toList).toArray (ab.el c);exact _w
 .intro g cap cur cZ ju _ n ef;subst cZ;have l:=run_append_room (P:=ab.P) w t ty (ab.el c) i0 hu cE g (I xs) cap cur ju ⟨dF,dq,ah⟩ (I [f]) r d bL q d' (by simpa using n) (by rw[i,<-ac];exact ef);rw[i]at l;have ea:I (cur.toList.take (I xs*aL c))=I xs*aL c:=dh
  have cf:=setRow_heap w g cur (cur.toList.take (I xs*aL c)++d++cur.toList.drop (I xs*aL c+I d)).toArray (ab.el c) (0,0) ju;refine⟨_,g,cap,_,_,l,rfl,cf,?_,λb aj=>?_,λk _ aV=>setRow_other w g k _ aV,?_⟩
  .simp[ ea];omega
  .unfold lv at p;split at p
   .cases p
   .simp only[qJ]at bW;exact absurd bW.1 (by simp)
   .rename_i aO;split at p
    .rename_i an;have gN:aO∈st.a9:=xe
     have aZ:s.cc aO:=by rw[eS.2.2.1];exact gN
     rcases bW.2 aZ with ⟨h1,_,_⟩|⟨iU,f',iQ,h1,h2,_⟩
     .cases h1
     .simp[ Addr.mk.injEq]at h1;obtain⟨⟨rfl,_⟩,_⟩:=h1;exact ay.fH b aO _ _ aj aZ h2
    .cases p
   all_goals cases p
  .rw[qf us _ _ _ _ cf,ahW];have cF:=GX us d (cur.toList.take (I xs*aL c)) (cur.toList.drop (I xs*aL c+I d)) ac;rw[ea]at cF;rw[cF,ac]
 .intro g cap vs cZ c0 cy _ n;subst cZ;have l:=run_append_grow (P:=ab.P) w t ty (ab.el c) i0 z hu cE ap ⟨g,0,ah⟩ (I xs) cap vs (by rw[i];exact c0) (λj u cN=>by rw[aw.hI,Nat.zero_add];exact cy j u cN) ⟨dF,dq,ah⟩ (I [f]) r d bL q (by simp at n ⊢;omega) (by simp at dE ⊢;omega) (growslice_fits (by simp at n ⊢;omega) (by rw[dH];simpa using x));have cf:=Xl w (vs.toArray++d.toArray++gf z.cells (grownCap w (I xs+I [f]) cap (ab.el c)-(I xs+I [f]))) (ab.el c);have la:vs.toArray++d.toArray++gf z.cells (grownCap w (I xs+I [f]) cap (ab.el c)-(I xs+I [f]))=(vs++d++(gf z.cells (grownCap w (I xs+I [f]) cap (ab.el c)-(I xs+I [f]))).toList).toArray:=AT
  rw[la]at cf;refine⟨_,w.heap.size,_,_,_,l,rfl,by rw[la];exact cf,by simp;omega,y,aJ _,?_⟩;rw[la,qf us _ _ _ _ cf,<-c0];rw[(GX us d vs (gf z.cells (grownCap w (I xs+I [f]) cap (ab.el c)-(I xs+I [f]))).toList ac)];have aS:=TF w.drew (vs++d++(gf z.cells (grownCap w (I xs+I [f]) cap (ab.el c)-(I xs+I [f]))).toList).toArray (vs++us++(gf z.cells (grownCap w (I xs+I [f]) cap (ab.el c)-(I xs+I [f]))).toList).toArray (ab.el c);exact _w
end
end Go.dS
