/- Texts of the proof,one behind the other: AxFr,Mu,Zg,Rq,Rr,Opa,Op,Zp,Rwd,Ros,Zd,RoB,LRo,Zs,Zt,Zu,Zo,Trn,Ti. -/
import Derived.Test.YtcoaaebppfbbnaaGreatDoorU17
import Derived.ChangeArms
import Derived.WideShapes
import Derived.Carry
import Derived.ChangeShapes
import Derived.Lib.LaidTab
import Derived.SizedLaws
set_option linter.all false
namespace Go.Ax
open Go.RowKit Go.ChangeShapes
def shp:D->D->Bool|.int k _,.int k' _=>decide (k=k')|.bool _,.bool _=>true|.str _,.str _=>true|.sl c _ _,.sl c' _ _=>decide (c=c')|_,_=>false
def Jp:Yb1 D->Yb1 D->Bool|[],[]=>true|a::l,b::m=>shp a b&&Jp l m|_,_=>false
variable{a:D}
theorem B3s{b c:D}(h:shp a b=true)(k:shp a c=true):shp b c=true:=by cases a<;>cases b<;>simp[shp]at h<;>cases c<;>simp[shp]at k<;>subst_vars<;>simp[shp]
theorem Bdl:∀{a b c:Yb1 D},Jp a b=true->Jp a c=true->Jp b c=true
 |[],[],[],_,_=>rfl
 |x::a,y::b,z::c,h,k=>by simp only[Jp,Zb1]at h k ⊢;exact⟨B3s h.1 k.1,Bdl h.2 k.2⟩
 |[],_::_,_,h,_=>by simp[Jp]at h
 |_::_,[],_,h,_=>by simp[Jp]at h
 |[],[],_::_,_,k=>by simp[Jp]at k
 |_::_,_::_,[],_,k=>by simp[Jp]at k
theorem Aik:∀{a b c d:Yb1 D},Jp a b=true->Jp c d=true->Jp (a++c) (b++d)=true
 |[],[],_,_,_,k=>k
 |_::a,_::b,_,_,h,k=>by simp only[Jp,Zb1,Zb2]at h ⊢;exact⟨h.1,Aik h.2 k⟩
 |[],_::_,_,_,h,_=>by simp[Jp]at h
 |_::_,[],_,_,h,_=>by simp[Jp]at h
theorem Bfy{k:IntKind}{n:Int}{d:D}(h:shp (.int k n) d=true):∃m,d = .int k m:=by
 cases d<;>simp[shp]at h
 subst h;exact⟨_,rfl⟩
theorem Bqq{b:Bool}{d:D}(h:shp (.bool b) d=true):∃m,d = .bool m:=by
 cases d<;>simp[shp]at h
 exact⟨_,rfl⟩
theorem Bdd{s:Str}{d:D}(h:shp (.str s) d=true):∃m,d = .str m:=by
 cases d<;>simp[shp]at h
 exact⟨_,rfl⟩
variable{c:Ck}
theorem Bv3{xs:Yb1 (El c)}{t:Tk}{d:D}(h:shp (.sl c xs t) d=true):∃ys u,d = .sl c ys u:=by
 cases d<;>simp[shp]at h
 subst h;exact⟨_,_,rfl⟩
variable{ds:Yb1 D}
theorem Vy{l:Yb1 D}(h:Jp (a::l) ds=true):∃b m,ds=b::m/\shp a b=true/\Jp l m=true:=by cases ds with|nil=>simp[Jp]at h|cons b m=>simp only[Jp,Zb1]at h;exact⟨b,m,rfl,h.1,h.2⟩
theorem Adi(h:Jp [] ds=true):ds=[]:=by cases ds with|nil=>rfl|cons b m=>simp[Jp]at h
theorem Av9{z:Yb1 D}(h:(dec c z).isSome=true)(d:Jp z ds=true):∃y,dec c ds=some y:=by
 obtain⟨g,h⟩:=Option.isSome_iff_exists.1 h;unfold dec at h;split at h;all_goals first
  |(cases h;done)
  |skip
 all_goals
  clear h
  repeat (
   obtain⟨b,m,e,f,a⟩:=Vy d;clear d;have d:=a;clear a;subst e
   first
    |(obtain⟨_,e⟩:=Bfy f;subst e)
    |(obtain⟨_,e⟩:=Bqq f;subst e)
    |(obtain⟨_,e⟩:=Bdd f;subst e)
    |(obtain⟨_,_,e⟩:=Bv3 f;subst e))
  have e:=Adi d;subst e;exact⟨_,rfl⟩
def A7c(R:Nat×Nat)(v:Val):Prop:=v.s.length<=R.1
inductive SmExpr (R:Nat×Nat):Xpr->Prop
 |mk (k:Int) (v:Val) (nm:Str) (l:List Xpr):A7c R v->nm.length<=R.1->l.length<=R.2->(∀e,e∈l->SmExpr R e)->SmExpr R (.mk k v nm l)
structure SmStm (R:Nat×Nat) (s:Stm):Prop where
 name:s.name.length<=R.1
 on:s.on.length<=R.1
 cols:s.cols.length<=R.2/\∀c,c∈s.cols->c.name.length<=R.1/\c.ref.length<=R.1
 names:s.names.length<=R.2/\∀x,x∈s.names->x.length<=R.1
 l:s.l.length<=R.2/\∀x,x∈s.l->SmExpr R x
 rows:s.rows.length<=R.2/\∀r,r∈s.rows->r.length<=R.2/\∀x,x∈r->SmExpr R x
 sets:s.sets.length<=R.2/\∀x,x∈s.sets->x.name.length<=R.1/\SmExpr R x.e
 whr:SmExpr R s.whr
 order:s.order.length<=R.2/\∀x,x∈s.order->x.length<=R.1
 desc:s.desc.length<=R.2
def B1k(R:Nat×Nat)(x:Idx):Prop:=x.name.length<=R.1/\x.cols.length<=R.2/\∀s,s∈x.cols->s.length<=R.1
structure SmTbl (R:Nat×Nat) (t:Tbl):Prop where
 name:t.name.length<=R.1
 cols:t.cols.length<=R.2/\∀c,c∈t.cols->c.name.length<=R.1/\c.ref.length<=R.1
 key:t.key.length<=R.2/\∀x,x∈t.key->x.length<=R.1
 checks:t.checks.length<=R.2/\∀x,x∈t.checks->SmExpr R x
 idx:t.idx.length<=R.2/\∀x,x∈t.idx->B1k R x
def B1p(R:Nat×Nat)(r:ResS):Prop:=r.rows.length<=R.2/\∀l,l∈r.rows->l.length<=R.2/\∀x,x∈l->A7c R x
def SmK(R:Nat×Nat):(c:Ck)->El c->Prop|.str,s=>s.length<=R.1|.val,v=>A7c R v|.tok,t=>t.s.length<=R.1|.col,c=>c.name.length<=R.1/\c.ref.length<=R.1|.expr,e=>SmExpr R e|.vals,l=>l.length<=R.2/\∀x,x∈l->A7c R x|.exprs,l=>l.length<=R.2/\∀x,x∈l->SmExpr R x|.strs,l=>l.length<=R.2/\∀x,x∈l->x.length<=R.1|.set,s=>s.name.length<=R.1/\SmExpr R s.e|.stmt,s=>SmStm R s|.idx,x=>B1k R x|.tbl,t=>SmTbl R t|.res,r=>B1p R r|.outc,o=>o.l.length<=R.2/\∀r,r∈o.l->B1p R r|_,_=>True
def SmD(R:Nat×Nat):D->Prop|.str l=>l.length<=R.1|.sl c xs _=>xs.length<=R.2/\∀x,x∈xs->SmK R c x|_=>True
def SmS(R:Nat×Nat):(s:Sg)->den s->Prop|.str,s=>s.length<=R.1|.sl c _,xs=>xs.length<=R.2/\∀x,x∈xs->SmK R c x|.sv c,x=>SmK R c x|_,_=>True
def SmL(R:Nat×Nat):(l:Yb1 Sg)->HV l->Prop|[],_=>True|[a],x=>SmS R a x|a::b::l,(x,y)=>SmS R a x/\SmL R (b::l) y
variable{R:Nat×Nat}{y:El c}
theorem Bq0(h:dec c ds=some y)(hd:∀d,d∈ds->SmD R d):SmK R c y:=by
 unfold dec at h;split at h<;>simp only[Za1,reduceCtorEq]at h<;>subst h<;>simp only[List.mem_cons,List.not_mem_nil,or_false,forall_eq_or_imp,forall_eq,SmD]at hd<;>simp only[SmK,A7c]<;>first
  |trivial
  |exact hd
  |exact hd.1
  |exact hd.2.2
  |exact hd.2.2.1
  |exact⟨hd.1,hd.2.2.2.2⟩
  |exact .mk _ _ _ _ hd.2.2.2.1 hd.2.2.2.2.1 hd.2.2.2.2.2.1 hd.2.2.2.2.2.2
  |exact⟨hd.1,.mk _ _ _ _ hd.2.2.2.2.1 hd.2.2.2.2.2.1 hd.2.2.2.2.2.2.1 hd.2.2.2.2.2.2.2⟩
  |exact⟨hd.1,hd.2.1,hd.2.2.1,hd.2.2.2.1,hd.2.2.2.2⟩
  |(obtain⟨_,a,b,e,f,g,i,j,_,_,_,_,w1,w2,w3,k,l,_⟩:=hd
    exact⟨a,b,e,f,g,i,j,.mk _ _ _ _ w1 w2 w3.1 w3.2,k,l.1⟩)
structure Msr {H:Type}(P:Program) (R:Nat×Nat) (M:TypeId->DataW H->Prop):Prop where
 str:∀(t:TypeId) (s:List UInt8),M t (.lit (.string s))->s.length<=R.1
 sl:∀(t e:TypeId) (l r:List (DataW H)),P.underlying t=some (.slice e)->1<=P.bytesOf e->M t (.slice l r)->l.length<=9223372036854775807->l.length<=R.2/\∀d,d∈l->M e d
 agg:∀(t:TypeId) (fds:Array Field) (l:List (DataW H)) (i:Nat) (fd:Field) (d:DataW H),P.underlying t=some (.struct fds)->M t (.agg l)->fds[i]? = some fd->l[i]? = some d->M fd.type d
mutual
def xsz:Xpr->Nat|.mk _ _ _ l=>1+xszs l
def xszs:Yb1 Xpr->Nat|[]=>0|x::l=>1+xsz x+xszs l
end
def szD:D->Nat|.sl .expr xs _=>2*xszs xs|_=>0
def Anz(ds:Yb1 D):Nat:=(ds.map szD).sum+ds.length
def szK:(c:Ck)->El c->Nat|.expr,e=>2*(1+xsz e)|.tbl,t=>2*xszs t.checks|_,_=>0
theorem Brv(h:dec c ds=some y):szK c y<=Anz ds:=by unfold dec at h;split at h<;>simp only[Za1,reduceCtorEq]at h<;>subst h<;>simp only[szK,Nat.zero_le]<;>simp[Anz,szD,xsz]<;>omega
structure Siz {H:Type}(m:DataW H->Nat):Prop where
 one:∀d,1<=m d
 sl:∀l r,(l.map m).sum+1<=m (.slice l r)
 agg:∀l,(l.map m).sum<=m (.agg l)
theorem A2b{H:Type}{m:DataW H->Nat}{c:Ck}:∀(ys:Yb1 (El c)) (es:Yb1 (DataW H)),ys.length=es.length->(∀(i:Nat) y e,ys[i]? = some y->es[i]? = some e->szK c y<=m e)->szD (.sl c ys .no)<=(es.map m).sum
 |[],_,_,_=>by cases c<;>simp[szD,xszs]
 |y::ys,[],h,_=>by simp at h
 |y::ys,e::es,h,k=>by have a:=k 0 y e rfl rfl;have b:=A2b ys es (by simpa using h) λi y e d f=>k (i+1) y e (by simpa using d) (by simpa using f);cases c<;>simp only[szD,szK,xszs,Zw1,List.sum_cons]at a b ⊢ <;> omega
def zc(t:Ty):Yb1 D:=match t.zero with|some z=>cells z|none=>[]
def Aon(tt:Nat->Ty)(rd:Yb1 Nat):Nat->Yb1 (Nat×Nat)->Yb1 D->Bool|_,[],z=>z.isEmpty|o,(o',u)::fs,z=>Nat.beq o' o&&rd.contains u&&Nat.ble (zc (tt u)).length z.length&&Jp (zc (tt u)) (z.take (zc (tt u)).length)&&Aon tt rd (o+(zc (tt u)).length) fs (z.drop (zc (tt u)).length)
def Brc(el:Ck->TypeId)(tt:Nat->Ty)(rd:Yb1 Nat)(t:Nat):Bool:=match tt t with|.int _|.bool|.str=>true|.sl c=>rd.contains (el c)&&(dec c (zc (tt (el c)))).isSome|.st _ fs z=>Aon tt rd 0 fs z|_=>false
def rdB(el:Ck->TypeId)(tt:Nat->Ty)(rd:Yb1 Nat):Bool:=rd.all λt=>Brc el tt rd t&&Nat.beq (zc (tt t)).length (tt t).n
def szB(P:Program)(el:Ck->TypeId)(tt:Nat->Ty)(rd:Yb1 Nat):Bool:=rd.all λt=>match tt t with|.sl c=>Nat.ble 1 (P.bytesOf (el c))|_=>true
theorem Ahb{α:Type}{p:Nat->α->Prop}:∀(n:Nat),(∀i,i<n->∃y,p i y)->∃ys:Yb1 α,ys.length=n/\∀i y,ys[i]? = some y->p i y
 |0,_=>⟨[],rfl,by simp⟩
 |n+1,h=>by
  obtain⟨ys,b,c⟩:=Ahb n (λi hi=>h i (by omega));obtain⟨y,d⟩:=h n (by omega);refine⟨ys++[y],by simp[b],λi z a=>?_⟩;rcases Nat.lt_trichotomy i n with hi|rfl|hi
  ·rw[List.getElem?_append_left (by omega)]at a;exact c i z a
  ·rw[List.getElem?_append_right (by omega),b]at a;simp at a;subst a;exact d
  ·rw[List.getElem?_eq_none (by simp;omega)]at a;cases a
section
variable {H:Type}{enc':TypeId×Value->H}{P:Program}{el:Ck->TypeId}{tt:Nat->Ty}{rd:Yb1 Nat}{w:World}{sp:Nat->Bool}{held:Bool}
variable{t:TypeId}
theorem Yh{n:Nat}(h:Sx.tySz P t=some n):P.cellsOf t=n:=by unfold Sx.tySz at h;simp[Program.cellsOf,h]
theorem Anm{a:Addr}{n:Nat}{vs:Yb1 Value}(h:w.cells? 0 a n=some vs):vs.length=n/\∀j u,vs[j]? = some u->w.cell? (a.add j)=some u:=by
 unfold World.cells? at h;simp only[Nat.zero_le,if_true]at h;refine⟨by simpa using Lib.mapM_length h,λj u d=>?_⟩;have b:j<n:=by have:=Lib.mapM_length h;have f:=(Zi2.1 d).1;simp at this;omega
 obtain⟨g,c,e⟩:=Lib.mapM_at h j j (by simp[b]);rw[d]at c;simp only[Za1]at c;subst c;exact e
theorem Baf{a:Addr}{u:Value}(h:w.cell? a=some u):a.spot=none:=by
 unfold World.cell? at h;split at h
 ·split at h
  ·cases h
  ·rename_i b;cases c:a.spot with|none=>rfl|some q=>rw[c]at b;simp at b
 ·cases h
theorem Ax5{R:Nat×Nat}{M:TypeId->DataW H->Prop}(hM:Msr P R M)(hT:∀t,C0 P el tt t=true)(a6:rdB el tt rd=true)(aa:szB P el tt rd=true):∀(fuel:Nat) (t:TypeId) (cs:Yb1 Value) (x:DataW H×Yb1 MemPlace),rd.contains t=true->DataW.trod enc' P w 0 sp held fuel t cs=some x->∃ds,Jp (zc (tt t)) ds=true/\Reps (v0 el C2 w) ds cs/\(M t x.1->∀d,d∈ds->SmD R d)/\∀m,Siz m->Anz ds<=m x.1
 |0,t,cs,x,_,h=>by simp[DataW.trod]at h
 |fuel+1,t,cs,x,hc,h=>by
  have g:=Zg2.1 a6 t (by simpa using hc);simp only[Zb1]at g;obtain⟨g,ai⟩:=g;have ai:=Zl1 ai;have a9:=Zg2.1 aa t (by simpa using hc);unfold Brc at g;split at g
  ·rename_i k f;have hu:=Sx.tyI_spec (Aps (hT t) f);obtain⟨n,rfl,_,hw⟩:=DataW.trod_int hu h;refine⟨[.int k n],by(rw[f];show(decide (k=k)&&true)=true;simp),?_,λ_ d hd=>by simp only[List.mem_singleton]at hd;subst hd;trivial,λm hm=>by simpa[Anz,szD]using hm.one _⟩;simp only[Reps,Rep];exact⟨_,_,rfl,⟨rfl,hw⟩,rfl⟩
  ·rename_i f;have hu:=Sx.tyB_spec (Aef (hT t) f);obtain⟨b,rfl,_⟩:=DataW.trod_bool hu h;refine⟨[.bool b],by rw[f];rfl,?_,λ_ d hd=>by simp only[List.mem_singleton]at hd;subst hd;trivial,λm hm=>by simpa[Anz,szD]using hm.one _⟩;simp only[Reps,Rep];exact⟨_,_,rfl,rfl,rfl⟩
  ·rename_i f;have hu:=Sx.tyS_spec (Hk (hT t) f);obtain⟨s,rfl,rfl,hs⟩:=DataW.trod_string hu h;refine⟨[.str s.data.toList],by rw[f];rfl,?_,λr d hd=>by simp only[List.mem_singleton]at hd;subst hd;exact hM.str _ _ r,λm hm=>by simpa[Anz,szD]using hm.one _⟩
   simp only[Reps,Rep];exact⟨_,_,rfl,⟨(by rw[Array.toArray_toList]),(by rw[Array.length_toList];exact hs)⟩,rfl⟩
  ·rename_i c f;simp only[Zb1]at g;obtain⟨ax,aj⟩:=g;have ak : 1<=P.bytesOf (el c):=by rw[f]at a9;exact Nat.le_of_ble_eq_true a9
   obtain⟨by_,hE,_,_⟩:=C8 (hT t) f;have hu:=hE.und;obtain⟨_,i0,z,ay,hz,a3,_⟩:=hE;have az:P.cellsOf (el c)=csz c:=Yh (by simp[Sx.tySz,ay,a3]);rcases DataW.trod_slice hu h with ⟨rfl,_⟩|⟨a,len,cap,p,rest,n,hf,rfl,rfl,_,hle,am,be,an,_⟩
   ·refine⟨[.sl c [] .no],by(rw[f];show(decide (c=c)&&true)=true;simp),?_,λ_ d hd=>by
     simp only[List.mem_singleton]at hd;subst hd;exact⟨Nat.zero_le _,λx hx=>by cases hx⟩,λm hm=>by
     have h0:szD (.sl c [] .no)=0:=by cases c<;>rfl
     simpa[Anz,h0]using hm.one _⟩
    simp only[Reps,Rep];exact⟨_,_,rfl,⟨λ_ _=>.nil _ _ _ _ trivial,trivial⟩,rfl⟩
   ·have hf:fuel=n:=by omega
    subst hf;have each:∀i,i<len->∃y:El c,(∃vs:Yb1 Value,w.cells? 0 (a.add (i*csz c)) (csz c)=some vs/\ElR (v0 el C2 w) c y vs)/\(M t (DataW.slice (p.map (·.1)) (rest.map (·.1)))->SmK R c y)/\∀m e,Siz m->p[i]? = some e->szK c y<=m e.1:=λi hi=>by have h1:=an i hi;have ab:∃e,p[i]? = some e:=⟨_,Zo1 (by omega)⟩;obtain⟨e,he⟩:=ab;rw[he]at h1;obtain⟨vs,hv,ht⟩:=Option.bind_eq_some_iff.1 h1;rw[az]at hv;obtain⟨ds,hs,hr,b0,a3⟩:=Ax5 hM hT a6 aa fuel (el c) vs e ax ht;obtain⟨y,hy⟩:=Av9 aj hs;exact⟨y,⟨vs,hv,R0 hy hr⟩,λr=>Bq0 hy (b0 ((hM.sl _ _ _ _ hu ak r (by have:maxLen=9223372036854775807:=rfl;simp only[List.length_map];omega)).2 e.1 (List.mem_map.2 ⟨e,List.mem_of_getElem? he,rfl⟩))),λm e' hm a7=>by rw[he]at a7;cases a7;exact Nat.le_trans (Brv hy) (a3 m hm)⟩
    obtain⟨ys,b1,a4⟩:=Ahb len each;have ao:=λi y hy=>(a4 i y hy).1;refine⟨[.sl c ys .no],by(rw[f];show(decide (c=c)&&true)=true;simp),?_,λr d hd=>by
     simp only[List.mem_singleton]at hd;subst hd;refine⟨?_,λy hy=>?_⟩
     ·have:=(hM.sl _ _ _ _ hu ak r (by have:maxLen=9223372036854775807:=rfl;simp only[List.length_map];omega)).1;simp only[List.length_map]at this;omega
     ·obtain⟨i,hi,rfl⟩:=List.getElem_of_mem hy;exact(a4 i _ (Zo1 hi)).2.1 r,λm hm=>by
     have h1:=A2b (m:=m) ys (p.map (·.1)) (by simp;omega) λi y e hy he=>by rw[List.getElem?_map]at he;obtain⟨e',a7,rfl⟩:=Option.map_eq_some_iff.1 he;exact(a4 i y hy).2.2 m e' hm a7
     have h2:=hm.sl (p.map (·.1)) (rest.map (·.1));simp only[Anz,Zw1,List.map_nil,List.sum_cons,List.sum_nil,Zf1,Zi1];omega⟩
    simp only[Reps,Rep];refine⟨_,_,rfl,⟨Kt b1.symm ?_,trivial⟩,rfl⟩;by_cases h0:ys=[]
    ·exact .inl h0
    ·right;have ap:a.spot=none:=by have b2 : 0<ys.length:=List.length_pos_iff.2 h0;obtain⟨vs,hv,hE⟩:=ao 0 _ (Zo1 b2);obtain⟨h1,h2⟩:=Anm hv;have hp:=Ai4 c;have:=h2 0 _ (Zo1 (by omega));simp only[Nat.zero_mul,Addr.add,if_true]at this;exact Baf this
     obtain⟨b,o,s⟩:=a;simp only at ap;subst ap;refine⟨b,o,rfl,⟨by omega,am⟩,λi y hy w' hw j d hd=>?_⟩;obtain⟨vs,hv,hE⟩:=ao i y hy;obtain⟨_,h2⟩:=Anm hv;obtain⟨u,b3,hf⟩:=hE.2 j d hd;have a5:=h2 j u b3;rw[Sx.add_mk,Sx.add_mk]at a5;exact⟨u,hw.cell b _ u a5 (λh=>h),hf w' hw⟩
  ·rename_i cc fs z f;have ac:=D5 (hT t) (by rw[f];simp);have a3:P.cellsOf t=z.length:=by have:=Yh ac.2.2;rw[this,f];rfl
   have a8:=hT t;unfold C0 at a8;rw[f]at a8;simp only[Zb1]at a8;have a2:=a8.2;split at a2
   ·rename_i fds hu;simp only[Zb1]at a2;have a2:=a2.1;obtain⟨xs,n,hf,rfl,b5,bf,b6⟩:=DataW.trod_struct hu h;have hf:fuel=n:=by omega
    subst hf;have key:∀(l:Yb1 (Nat×Nat)) (i o:Nat) (z':Yb1 D),fs.drop i=l->Aon tt rd o l z' = true->o+z'.length=cs.length->∃ds,Jp z' ds=true/\Reps (v0 el C2 w) ds (cs.drop o)/\(M t (DataW.agg (xs.map (·.1)))->∀d,d∈ds->SmD R d)/\∀m,Siz m->Anz ds<=(((xs.map (·.1)).drop i).map m).sum:=by
     intro l;induction l with
     |nil=>intro i o z' _ v ho;simp only[Aon,List.isEmpty_iff]at v;subst v;refine⟨[],rfl,?_,λ_=>(λd hd=>by cases hd),λ_ _=>Nat.zero_le _⟩;rw[Zk1 (by simp at ho;omega)];simp[Reps]
     |cons q l ih=>
      intro i o z' hd v ho;obtain⟨o',u⟩:=q;simp only[Aon,Zb1]at v;obtain⟨⟨⟨⟨ae,ar⟩,hle⟩,b7⟩,v⟩:=v;have ae:=Zl1 ae;subst ae;have hle:=Nat.le_of_ble_eq_true hle;have au:fs[i]? = some (o',u):=by have:=congrArg (·[0]?) hd;simpa[List.getElem?_drop]using this
      obtain⟨fd,g1,g2,g3,_⟩:=Afc a2 au;have ag:fds[i]? = some fd:=by simpa using g1
      have h1:=b6 i fd ag;rw[g2,g3]at h1;have b9:∃e,xs[i]? = some e:=⟨_,Zo1 (by have:=(Zh2.1 ag).1;omega)⟩
      obtain⟨e,he⟩:=b9;rw[he]at h1;have ah:=Zg2.1 a6 u (by simpa using ar);simp only[Zb1]at ah;have ba:=Zl1 ah.2;have av:tt u ≠ .no:=by intro e;have:=ah.1;unfold Brc at this;rw[e]at this;cases this
      have aw:P.cellsOf u=(zc (tt u)).length:=by rw[Yh (D5 (hT u) av).2.2,ba]
      rw[aw]at h1;obtain⟨bb,s1,r1,m1,z1⟩:=Ax5 hM hT a6 aa fuel u _ e ar h1;obtain⟨bc,s2,r2,m2,z2⟩:=ih (i+1) (o'+(zc (tt u)).length) _ (by rw[<-List.drop_drop,hd];rfl) v (by simp;omega);refine⟨bb++bc,?_,?_,λr d hd=>by
       rcases List.mem_append.1 hd with hd|hd
       ·refine m1 ?_ d hd;rw[<-g2];exact hM.agg _ _ _ i fd e.1 hu r ag (by rw[List.getElem?_map,he];rfl)
       ·exact m2 r d hd,λm hm=>by
       have h1:=z1 m hm;have h2:=z2 m hm;have h3:(xs.map (·.1))[i]? = some e.1:=by rw[List.getElem?_map,he];rfl
       obtain⟨bd,h4⟩:=Zi2.1 h3;rw[List.drop_eq_getElem_cons bd,h4,Zw1,List.sum_cons];simp only[Anz,List.map_append,List.sum_append,Zh1]at h1 h2 ⊢;omega⟩
      ·rw[<-List.take_append_drop (zc (tt u)).length z'];exact Aik (Bdl b7 s1) s2
      ·have:=r1.append r2;rwa[<-List.drop_drop,List.take_append_drop]at this
    obtain⟨ds,h1,h2,h3,h4⟩:=key fs 0 0 z rfl g (by rw[b5,a3];omega);exact⟨ds,by simpa[f,zc,Ty.zero,cells]using h1,by simpa using h2,h3,λm hm=>Nat.le_trans (h4 m hm) (by simpa using hm.agg (xs.map (·.1)))⟩
   ·cases a2
  ·cases g
def B33(tt:Nat->Ty)(rd:Yb1 Nat)(t:Nat)(s:Sg):Bool:=rd.contains t&&match tt t,s with|.int k,.int k'=>decide (k=k')|.bool,.bool=>true|.str,.str=>true|.sl c,.sl c' false=>decide (c=c')|.st (some c) _ _,.sv c'=>decide (c=c')&&agg? c&&(dec c (zc (tt t))).isSome|_,_=>false
def szS:(s:Sg)->den s->Nat|.sv c,x=>szK c x|_,_=>0
def szL:(l:Yb1 Sg)->HV l->Nat|[],_=>0|[a],x=>szS a x|a::b::l,(x,y)=>szS a x+szL (b::l) y
theorem B0r{M:TypeId->DataW H->Prop}(hM:Msr P R M)(hT:∀t,C0 P el tt t=true)(a4:rdB el tt rd=true)(a5:szB P el tt rd=true){s:Sg}(l:B33 tt rd t s=true){r:Reach}{b0:Nat}{v:Value}{d:DataW H}{ps:Yb1 MemPlace}(f:Value.okWide P w r b0 t v)(h:DataW.Trod enc' P w 0 sp held t v d ps)(i:Nat):∃y:den s,Rep (v0 el C2 w) (C9 i s y) v/\(M t d->SmS R s y)/\∀m,Siz m->szS s y<=m d:=by
 obtain⟨fuel,h⟩:=h;simp only[B33,Zb1]at l;obtain⟨hc,l⟩:=l;obtain⟨ds,g,j,o,x⟩:=Ax5 hM hT a4 a5 fuel t _ _ hc h;have x:∀m,Siz m->Anz ds<=m d:=x;have o:M t d->∀d,d∈ds->SmD R d:=o;split at l
 ·rename_i k k' a;simp only[Zg1]at l;subst l;obtain⟨n,rfl⟩:=WideShapes.okWide_int (Sx.tyI_spec (Aps (hT t) a)) f;simp only[a,zc,Ty.zero,cells]at g;obtain⟨b,m,rfl,h1,h2⟩:=Vy g;obtain rfl:=Adi h2;obtain⟨n',rfl⟩:=Bfy h1;simp only[Value.cells,Reps]at j;obtain⟨u,us,e,j,_⟩:=j;simp only[Ze2]at e;obtain⟨rfl,_⟩:=e;exact⟨n',j,λ_=>trivial,λ_ _=>Nat.zero_le _⟩
 ·rename_i a;obtain⟨n,rfl⟩:=WideShapes.okWide_bool (Sx.tyB_spec (Aef (hT t) a)) f;exact⟨n,by simp only[C9,Rep],λ_=>trivial,λ_ _=>Nat.zero_le _⟩
 ·rename_i a;obtain⟨n,rfl⟩:=WideShapes.okWide_string (Sx.tyS_spec (Hk (hT t) a)) f;simp only[a,zc,Ty.zero,cells]at g;obtain⟨b,m,rfl,h1,h2⟩:=Vy g;obtain rfl:=Adi h2;obtain⟨n',rfl⟩:=Bdd h1;simp only[Value.cells,Reps]at j;obtain⟨u,us,e,j,_⟩:=j;simp only[Ze2]at e;obtain⟨rfl,_⟩:=e;exact⟨n',j,λp=>o p (.str n') (by simp),λ_ _=>Nat.zero_le _⟩
 ·rename_i c c' a;simp only[Zg1]at l;subst l;obtain⟨by_,hE,_,_⟩:=C8 (hT t) a;have hv:v.cells.toList=[v]:=by have hu:=hE.und;simp only[Value.okWide,hu,Cell.okWide]at f;cases v<;>first|rfl|(simp[Cell.ok,hu]at f;done)|(exfalso;simp_all [Cell.ok])
  rw[hv]at j;simp only[a,zc,Ty.zero,cells]at g;obtain⟨b,m,rfl,h1,h2⟩:=Vy g;obtain rfl:=Adi h2;obtain⟨ys,u,rfl⟩:=Bv3 h1;simp only[Reps]at j;obtain⟨u',us,e,j,_⟩:=j;simp only[Ze2]at e;obtain⟨rfl,_⟩:=e;refine⟨ys,?_,λp=>o p (.sl c ys u) (by simp),λ_ _=>Nat.zero_le _⟩;simp only[C9,Rep]at j ⊢;exact⟨j.1,trivial⟩
 ·rename_i c fs z c' a;simp only[Zb1,Zg1]at l;obtain⟨⟨rfl,ha⟩,a2⟩:=l;obtain⟨y,hy⟩:=Av9 a2 g;have hE:=R0 hy j;have hv:∃cs,v = .agg cs:=by
   have q:=hT t;unfold C0 at q;rw[a]at q;simp only[Zb1]at q;have a3:=q.2;split at a3
   ·rename_i fds hu;simp only[Value.okWide,hu]at f;obtain⟨cs,h1,_⟩:=f;exact⟨cs,h1⟩
   ·cases a3
  obtain⟨cs,rfl⟩:=hv;refine⟨y,?_,λp=>Bq0 hy (o p),λm hm=>Nat.le_trans (Brv hy) (x m hm)⟩;simp only[C9,Rep];exact⟨ha,cs.toList,by simp,by simpa[Value.cells]using hE.1,by simpa[Value.cells]using hE.2⟩
 ·cases l
def As5(tt:Nat->Ty)(rd:Yb1 Nat):Yb1 TypeId->Yb1 Sg->Bool|[],[]=>true|t::ts,s::ss=>B33 tt rd t s&&As5 tt rd ts ss|_,_=>false
theorem A43{R:Nat×Nat}{M:TypeId->DataW H->Prop}(hM:Msr P R M)(hT:∀t,C0 P el tt t=true)(e:rdB el tt rd=true)(f:szB P el tt rd=true){r:Reach}{b0:Nat}:∀{c:Yb1 TypeId}{sa:Yb1 Sg}{vs:Yb1 Value}{ds:Yb1 (DataW H)}{ps:Yb1 MemPlace}(i:Nat),As5 tt rd c sa=true->(∀(j:Nat) t v,c[j]? = some t->vs[j]? = some v->Value.okWide P w r b0 t v)->DataW.TrodAll enc' P w 0 sp held c vs ds ps->∃x:HV sa,Reps (v0 el C2 w) (Ca i sa x) vs/\((∀(i:Nat) (t:TypeId) (d:DataW H),c[i]? = some t->ds[i]? = some d->M t d)->SmL R sa x)/\∀m,Siz m->szL sa x<=(ds.map m).sum
 |[],[],vs,ds,ps,i,_,_,h=>by cases vs with|nil=>exact⟨(),by simp[Ca,Reps],λ_=>trivial,λ_ _=>Nat.zero_le _⟩|cons v vs=>cases ds<;>simp[DataW.TrodAll]at h
 |t::c,[],_,_,_,_,hs,_,_=>by simp[As5]at hs
 |[],s::u,_,_,_,_,hs,_,_=>by simp[As5]at hs
 |t::c,s::u,vs,ds,ps,i,hs,hval,h=>by
  simp only[As5,Zb1]at hs;obtain⟨v,g,d,a4,p,q,rfl,rfl,rfl,hd,b⟩:=trodAll_cons h;obtain⟨y,hy,k,l⟩:=B0r hM hT e f hs.1 (hval 0 t v rfl rfl) hd i;obtain⟨z,hz,a2,a3⟩:=A43 hM hT e f (i+1) hs.2 (λj t' v' n o=>hval (j+1) t' v' (by simpa using n) (by simpa using o)) b;cases u with
  |nil=>refine⟨y,?_,λa=>k (a 0 t d rfl rfl),λm hm=>Nat.le_trans (l m hm) (by simp)⟩;simp only[Ca,Reps]at hz ⊢;exact⟨v,g,rfl,hy,hz⟩
  |cons s' u=>
   refine⟨(y,z),?_,λa=>⟨k (a 0 t d rfl rfl),a2 λj t' d' n o=>a (j+1) t' d' (by simpa using n) (by simpa using o)⟩,λm hm=>by have n:=l m hm;have o:=a3 m hm;simp only[szL,Zw1,List.sum_cons];omega⟩
   simp only[Ca,Reps];exact⟨v,g,rfl,hy,hz⟩
theorem Asv(f:laidOutB P=true){W W':World}(hb:Below W.heap.size W W'):∀{c:Yb1 TypeId}{vs:Yb1 Value}{ds:Yb1 (DataW H)}{ps:Yb1 MemPlace},(∀t,t∈c->P.readableRec t=true/\t<P.types.size)->(∀x∈ps,x.block<W.heap.size)->DataW.TrodAll enc' P W 0 (λ_=>true) true c vs ds ps->DataW.TrodAll enc' P W' 0 (λb=>decide (b<W.heap.size)) true c vs ds ps
 |[],vs,ds,ps,_,_,h=>by
  cases vs<;>cases ds<;>simp[DataW.TrodAll]at h ⊢
  exact h
 |t::c,vs,ds,ps,ht,hlt,h=>by obtain⟨v,g,d,i,p,q,rfl,rfl,rfl,hd,a⟩:=trodAll_cons h;obtain⟨j,k⟩:=ht t (by simp);exact⟨p,q,Below.trod f j k hd hb (λx e=>hlt x (by simp[e])),Asv f hb (λt' l=>ht t' (by simp[l])) (λx e=>hlt x (by simp[e])) a,rfl⟩
end
end Go.Ax
namespace Go.Proofs.YtcoaaebppfbbnaaGreatDoor
open Go.Ax
def bare(l:Yb1 Xpr):Xpr:=.mk 0 ⟨0,0,[]⟩ [] l
def rmR:Yb1 (Yb1 Xpr)->Int->Int->Int|[],_,n=>n|r::l,most,n=>cond (decide (n<most)) (rmR l most (wr .i64 (n+Jt (bare r) most))) n
def rmS:Yb1 SetE->Int->Int->Int|[],_,n=>n|x::l,most,n=>cond (decide (n<most)) (rmS l most (wr .i64 (n+Jt x.e most))) n
def rmN:Yb1 Str->Int->Int->Int|[],_,n=>n|x::l,most,n=>cond (decide (n<most)) (rmN l most (wr .i64 (n+wr .i64 (Int.tdiv (x.length:Int) 30)))) n
def n0(s:Stm)(most:Int):Int:=wr .i64 (wr .i64 (wr .i64 (wr .i64 (wr .i64 (wr .i64 ((s.cols.length:Int)+(s.names.length:Int))+(s.order.length:Int))+(s.desc.length:Int))+wr .i64 (Int.tdiv (wr .i64 ((s.name.length:Int)+(s.on.length:Int))) 30))+Jt s.whr most)+Jt (bare s.l) most)
def Anh:Sig:=⟨110,[(1,.int .i64),(5,.int .i64),(8,.int .i64)],[(2,.ptr 0 0)],[(0,.one (.sv .stmt))],1,0,0,[],[]⟩
abbrev Vd:=Int×Int×Int×Stm
def Wo{R:Type}(d:Vd->Ya1 R)(kx:Ex->Vd->Ya1 R)(v:Vd):Ya1 R:=match v with|(b,c,a,w2)=>cond (decide (a<(w2.names.length:Int))) (cond (decide (c<b)) (chk (inb a w2.names.length) (d (b,(wr .i64 (c+(wr .i64 (Int.tdiv ((at' .str w2.names a).length:Int) 30)))),(wr .i64 (a+1)),w2))) (kx (.exit 4) (b,c,a,w2))) (kx (.exit 4) (b,c,a,w2))
def Apq:Sig:=⟨110,[(1,.int .i64),(5,.int .i64),(7,.int .i64)],[(2,.ptr 0 0)],[(0,.one (.sv .stmt))],1,0,0,[],[]⟩
abbrev Vm:=Int×Int×Int×Stm
def Uv{R:Type}(a:Vm->Ya1 R)(kx:Ex->Vm->Ya1 R)(v:Vm):Ya1 R:=match v with|(v7,v8,v9,w1)=>cond (decide (v9<(w1.sets.length:Int))) (cond (decide (v8<v7)) (chk (inb v9 w1.sets.length) (a (v7,(wr .i64 (v8+(Jt (I3 ((at' .set w1.sets v9).e)) v7))),(wr .i64 (v9+1)),w1))) (kx (.exit 2) (v7,v8,v9,w1))) (kx (.exit 2) (v7,v8,v9,w1))
def Ap9:Sig:=⟨110,[(1,.int .i64),(5,.int .i64),(6,.int .i64)],[(2,.ptr 0 0)],[(0,.one (.sv .stmt))],1,0,0,[],[]⟩
abbrev U1:=Int×Int×Int×Stm
def U2{R:Type}(a:U1->Ya1 R)(kx:Ex->U1->Ya1 R)(v:U1):Ya1 R:=match v with|(v,v1,v2,w)=>cond (decide (v2<(w.rows.length:Int))) (cond (decide (v1<v)) (chk (inb v2 w.rows.length) (a (v,(wr .i64 (v1+(Jt (Xpr.mk 0 ⟨0,0,[]⟩ [] (at' .exprs w.rows v2)) v))),(wr .i64 (v2+1)),w))) (kx (.exit 0) (v,v1,v2,w))) (kx (.exit 0) (v,v1,v2,w))
def A26(R:Type)(k:Nat):Px R:=pxO [(85,cA Azv)] [(85,qA Azv)] [(3,An k Ap9 (U2)),(7,An k Apq (Uv)),(11,An k Anh (Wo))] []
def Aj6(k:Nat)(x:HV [Yg1,Yc1]):Ya1 (HV [Yc1]):=match x with
 |(s,most)=>
 Aj (λf=>U2 f (λe g=>match g with|(v3,v4,_,v6)=>match e with
  |.exit 0=>
  Aj (λf=>Uv f (λe g=>match g with|(a,b,_,c)=>match e with
   |.exit 2=>
   Aj (λf=>Wo f (λe g=>match g with|(_,d,_,_)=>match e with
    |.exit 4=>
    some d
    |_=>none)) k (a,b,0,c)
   |_=>none)) k (v3,v4,0,v6)
  |_=>none)) k (most,(wr .i64 ((wr .i64 ((wr .i64 ((wr .i64 ((wr .i64 ((wr .i64 ((s.cols.length:Int)+(s.names.length:Int)))+(s.order.length:Int)))+(s.desc.length:Int)))+(wr .i64 (Int.tdiv (wr .i64 ((s.name.length:Int)+(s.on.length:Int))) 30))))+(Jt (I3 s.whr) most)))+(Jt (Xpr.mk 0 ⟨0,0,[]⟩ [] s.l) most))),0,s)
theorem Bmt(k:Nat):FO 51 [Yg1,Yc1] [Yc1] (Aj6 k):=fR (px:=A26 _ k) (n:=3) Tryz.func51 rfl (λcx H=>by have e:Lv cx (A26 (HV [Yc1]) k):=lv H (c1 H A1d Ae) (q1 H A1d Aa) Ab;have a:=lO H e (b:=lp Tryz.f51 0) (k:=k) (n:=0) (s:=Ap9) (step:=U2) (λ_ _ _ (_,_,_,_)=>by kernel_rfl) Ai;have c:=lO H e (b:=lp Tryz.f51 1) (k:=k) (n:=0) (s:=Apq) (step:=Uv) (λ_ _ _ (_,_,_,_)=>by kernel_rfl) Ai;have d:=lO H e (b:=lp Tryz.f51 2) (k:=k) (n:=0) (s:=Anh) (step:=Wo) (λ_ _ _ (_,_,_,_)=>by kernel_rfl) Ai;exact⟨e,(A4 (A4 (A4 Ai a) c) d)⟩) λ(_,_)=>by kernel_rfl
def Aua(s:Stm)(most:Int):Int:=rmN s.names most (rmS s.sets most (rmR s.rows most (n0 s most)))
def Ax3:FT [Yg1,Yc1] [Yc1]:=λx=>some (Aua x.1 x.2)
variable{R:Type}{c:Int->Ya1 R}{most:Int}{s:Stm}
theorem Ax0{kx:Ex->U1->Ya1 R}(d:ln s.rows.length)(b:∀n i,kx (.exit 0) (most,n,i,s)=c n)(k:Nat)(f:s.rows.length<k)(n:Int) :
  Aj (λa=>U2 a kx) k (most,n,0,s)=c (rmR s.rows most n):=by
 refine(Cb s.rows.length (λi n=>(most,n,(i:Int),s)) (λ_ _=>True) (λi n=>c (rmR (s.rows.drop i) most n)) (λi hi n _ a e=>?_) (λn _ a=>?_) k 0 n (Nat.zero_le _) (by omega) trivial).trans (by rw[Zq1])
 ·simp only[U2,Cs hi,Ao hi,Al (c:=.exprs) hi,Am hi d,Ak hi,rmR,b];cases decide (n<most)with|false=>rfl|true=>exact(e (wr .i64 (n+Jt (bare s.rows[i]) most)) trivial)
 ·simp only[U2,C4,b];rw[Zk1 (Zn1 _)];rfl
theorem A0y{kx:Ex->Vm->Ya1 R}(d:ln s.sets.length)(b:∀n i,kx (.exit 2) (most,n,i,s)=c n)(k:Nat)(g:s.sets.length<k)(n:Int) :
  Aj (λa=>Uv a kx) k (most,n,0,s)=c (rmS s.sets most n):=by
 refine(Cb s.sets.length (λi n=>(most,n,(i:Int),s)) (λ_ _=>True) (λi n=>c (rmS (s.sets.drop i) most n)) (λi hi n _ a f=>?_) (λn _ a=>?_) k 0 n (Nat.zero_le _) (by omega) trivial).trans (by rw[Zq1])
 ·simp only[Uv,Cs hi,Ao hi,Al (c:=.set) hi,Am hi d,Ak hi,rmS,b,Hz];cases decide (n<most)with|false=>rfl|true=>exact(f (wr .i64 (n+Jt s.sets[i].e most)) trivial)
 ·simp only[Uv,C4,b];rw[Zk1 (Zn1 _)];rfl
theorem Ayb{kx:Ex->Vd->Ya1 R}(d:ln s.names.length)(b:∀n i,kx (.exit 4) (most,n,i,s)=c n)(k:Nat)(f:s.names.length<k)(n:Int) :
  Aj (λa=>Wo a kx) k (most,n,0,s)=c (rmN s.names most n):=by
 refine(Cb s.names.length (λi n=>(most,n,(i:Int),s)) (λ_ _=>True) (λi n=>c (rmN (s.names.drop i) most n)) (λi hi n _ a e=>?_) (λn _ a=>?_) k 0 n (Nat.zero_le _) (by omega) trivial).trans (by rw[Zq1])
 ·simp only[Wo,Cs hi,Ao hi,Al (c:=.str) hi,Am hi d,Ak hi,rmN,b];cases decide (n<most)with|false=>rfl|true=>exact(e (wr .i64 (n+wr .i64 (Int.tdiv (s.names[i].length:Int) 30))) trivial)
 ·simp only[Wo,C4,b];rw[Zk1 (Zn1 _)];rfl
theorem Bqn:FO 51 [Yg1,Yc1] [Yc1] Ax3:=.fin 0 Bmt λ(s,most) r hb a=>⟨s.rows.length+s.sets.length+s.names.length+1,by have hb:=hb.1;simp only[Ax3,Za1]at a;rw[<-a];simp only[Aj6,Hz];refine(Ax0 (c:=λn=>some (rmN s.names most (rmS s.sets most n))) hb.rows.1 (λn i=>?_) _ (by omega) _).trans rfl;refine(A0y (c:=λn=>some (rmN s.names most n)) hb.sets.1 (λn i=>?_) _ (by omega) _).trans rfl;exact Ayb (c:=some) hb.names.1 (λn i=>rfl) _ (by omega) _⟩
structure Few (s:Stm):Prop where
 cols:s.cols.length<=2000000
 names:s.names.length<=2000000
 order:s.order.length<=2000000
 desc:s.desc.length<=2000000
 name:s.name.length+s.on.length<=600000000000000
 whr:A1 s.whr<=900000
 l:esizes s.l<=900000
 rows:s.rows.length<=2000000/\∀r,r∈s.rows->esizes r<=900000
 sets:s.sets.length<=2000000/\∀x,x∈s.sets->A1 x.e<=900000
def A80(R:Type):Px R:=pxO [] [] [] []
def Pr(x:HV [Yh1]):Ya1 (HV [Yg1]):=match x with|t=>some (Stm.mk 1 t.name [] t.cols t.key t.checks [] [] false (Xpr.mk 0 ⟨0,0,[]⟩ [] []) [] [] 0)
theorem A6u:FO 43 [Yh1] [Yg1] (Pr):=fR (px:=A80 _) (n:=0) Tryz.func43 rfl (λ_ H=>⟨lv H Ae Aa Ab,Ai⟩) λ_=>by kernel_rfl
def Ed(t:Tbl):Stm:=(Stm.mk 1 t.name [] t.cols t.key t.checks [] [] false (Xpr.mk 0 ⟨0,0,[]⟩ [] []) [] [] 0)
theorem A58(x:HV [Yh1]):Pr x=some (Ed x):=by
 first
  |exact rfl
  |simp only[Pr,Ed,Aw]
def Af1:FT [Yh1] [Yg1]:=λx=>some (Ed x)
theorem Amj:FO 43 [Yh1] [Yg1] Af1:=.fin0 A6u λx _ _ a=>(A58 x).trans a
def ixS(x:Idx):Stm:=Stm.mk 0 x.name [] [] x.cols [] [] [] false (Xpr.mk 0 ⟨0,0,[]⟩ [] []) [] [] 0
def rmI:Yb1 Idx->Int->Int->Int|[],_,n=>n|x::l,most,n=>cond (decide (n<most)) (rmI l most (wr .i64 (n+Aua (ixS x) most))) n
def rmC:Yb1 Col->Int->Int->Int|[],_,n=>n|c::l,most,n=>cond (decide (n<most)) (rmC l most (wr .i64 (n+wr .i64 (Int.tdiv (wr .i64 ((c.name.length:Int)+(c.ref.length:Int))) 30)))) n
def Abp:Sig:=⟨76,[(1,.int .i64),(5,.int .i64),(7,.int .i64)],[(2,.ptr 0 0)],[(0,.one (.sv .tbl))],1,0,0,[],[]⟩
abbrev Lg:=Int×Int×Int×Tbl
def Ka{R:Type}(a:Lg->Ya1 R)(kx:Ex->Lg->Ya1 R)(v:Lg):Ya1 R:=match v with|(v7,v8,v9,w1)=>cond (decide (v9<(w1.cols.length:Int))) (cond (decide (v8<v7)) (chk (inb v9 w1.cols.length) (chk (inb v9 w1.cols.length) (a (v7,(wr .i64 (v8+(wr .i64 (Int.tdiv (wr .i64 ((((at' .col w1.cols v9).name).length:Int)+(((at' .col w1.cols v9).ref).length:Int))) 30)))),(wr .i64 (v9+1)),w1)))) (kx (.exit 2) (v7,v8,v9,w1))) (kx (.exit 2) (v7,v8,v9,w1))
def Abt:Sig:=⟨76,[(1,.int .i64),(5,.int .i64),(6,.int .i64)],[(2,.ptr 0 0)],[(0,.one (.sv .tbl))],1,0,0,[],[]⟩
abbrev L1:=Int×Int×Int×Tbl
def J5{R:Type}(a:L1->Ya1 R)(kx:Ex->L1->Ya1 R)(v:L1):Ya1 R:=match v with|(v,v1,v2,w)=>cond (decide (v2<(w.idx.length:Int))) (cond (decide (v1<v)) (chk (inb v2 w.idx.length) (chk (inb v2 w.idx.length) (a (v,(wr .i64 (v1+(Aua (Stm.mk 0 ((at' .idx w.idx v2).name) [] [] ((at' .idx w.idx v2).cols) [] [] [] false (Xpr.mk 0 ⟨0,0,[]⟩ [] []) [] [] 0) v))),(wr .i64 (v2+1)),w)))) (kx (.exit 0) (v,v1,v2,w))) (kx (.exit 0) (v,v1,v2,w))
def Ama(R:Type)(k:Nat):Px R:=pxO [] [(43,qA Af1),(51,qA Ax3)] [(3,An k Abt (J5)),(7,An k Abp (Ka))] []
def Abu(k:Nat)(x:HV [Yh1,Yc1]):Ya1 (HV [Yc1]):=match x with
 |(t,most)=>
 Aj (λb=>J5 b (λe c=>match c with|(v3,v4,_,v6)=>match e with
  |.exit 0=>
  Aj (λb=>Ka b (λe c=>match c with|(_,a,_,_)=>match e with
   |.exit 2=>
   some a
   |_=>none)) k (v3,v4,0,v6)
  |_=>none)) k (most,(wr .i64 ((Aua (Ed t) most)+(t.idx.length:Int))),0,t)
theorem A4v(k:Nat):FO 23 [Yh1,Yc1] [Yc1] (Abu k):=fR (px:=Ama _ k) (n:=2) Tryz.func23 rfl (λcx H=>by have d:Lv cx (Ama (HV [Yc1]) k):=lv H Ae (q1 H Amj (q1 H Bqn Aa)) Ab;have a:=lO H d (b:=lp Tryz.f23 0) (k:=k) (n:=0) (s:=Abt) (step:=J5) (λ_ _ _ (_,_,_,_)=>by kernel_rfl) Ai;have c:=lO H d (b:=lp Tryz.f23 1) (k:=k) (n:=0) (s:=Abp) (step:=Ka) (λ_ _ _ (_,_,_,_)=>by kernel_rfl) Ai;exact⟨d,(A4 (A4 Ai a) c)⟩) λ(_,_)=>by kernel_rfl
def A0p(t:Tbl)(most:Int):Int:=rmC t.cols most (rmI t.idx most (wr .i64 (Aua (Ed t) most+(t.idx.length:Int))))
def Ae0:FT [Yh1,Yc1] [Yc1]:=λx=>some (A0p x.1 x.2)
variable{t:Tbl}
theorem Akv{kx:Ex->L1->Ya1 R}(e:ln t.idx.length)(d:∀n i,kx (.exit 0) (most,n,i,t)=c n)(k:Nat)(f:t.idx.length<k)(n:Int) :
  Aj (λa=>J5 a kx) k (most,n,0,t)=c (rmI t.idx most n):=by
 refine(Cb t.idx.length (λi n=>(most,n,(i:Int),t)) (λ_ _=>True) (λi n=>c (rmI (t.idx.drop i) most n)) (λi hi n _ a b=>?_) (λn _ a=>?_) k 0 n (Nat.zero_le _) (by omega) trivial).trans (by rw[Zq1])
 ·have b:=b (wr .i64 (n+Aua (ixS t.idx[i]) most)) trivial;simp at b;simp only[J5,Cs hi,Ao hi,Al (c:=.idx) hi,Am hi e,Ak hi,rmI,d];cases decide (n<most)with|false=>rfl|true=>exact b
 ·simp only[J5,C4,d];rw[Zk1 (Zn1 _)];rfl
theorem Ame{kx:Ex->Lg->Ya1 R}(d:ln t.cols.length)(b:∀n i,kx (.exit 2) (most,n,i,t)=c n)(k:Nat)(f:t.cols.length<k)(n:Int) :
  Aj (λa=>Ka a kx) k (most,n,0,t)=c (rmC t.cols most n):=by
 refine(Cb t.cols.length (λi n=>(most,n,(i:Int),t)) (λ_ _=>True) (λi n=>c (rmC (t.cols.drop i) most n)) (λi hi n _ a e=>?_) (λn _ a=>?_) k 0 n (Nat.zero_le _) (by omega) trivial).trans (by rw[Zq1])
 ·simp only[Ka,Cs hi,Ao hi,Al (c:=.col) hi,Am hi d,Ak hi,rmC,b];cases decide (n<most)with|false=>rfl|true=>exact(e (wr .i64 (n+wr .i64 (Int.tdiv (wr .i64 ((t.cols[i].name.length:Int)+(t.cols[i].ref.length:Int))) 30))) trivial)
 ·simp only[Ka,C4,b];rw[Zk1 (Zn1 _)];rfl
theorem Bbj:FO 23 [Yh1,Yc1] [Yc1] Ae0:=.fin 0 A4v λ(t,most) r hb a=>⟨t.idx.length+t.cols.length+1,by have hb:=hb.1;simp only[Ae0,Za1]at a;rw[<-a];simp only[Abu];refine(Akv (c:=λn=>some (rmC t.cols most n)) hb.idx.1 (λn i=>?_) _ (by omega) _).trans rfl;exact Ame (c:=some) hb.cols.1 (λn i=>rfl) _ (by omega) _⟩
variable{α:Type}
theorem Nn{V:Type}[DecidableEq α]{step:(V->Ya1 R)->V->Ya1 R}(l m:Yb1 α)(hm:l.length=m.length)(st:Nat->V)(no b:Ya1 R)
  (d:∀i (h:i<l.length) (f:i<m.length) a,step a (st i)=cond (!decide (l[i]=m[i])) no (a (st (i+1)))) (g:∀a,step a (st l.length)=b) (k:Nat) (j:l.length<k):Aj step k (st 0)=cond (decide (l=m)) b no:=by
 refine(A3 l.length st (λi=>cond (decide (l.drop i=m.drop i)) b no) (λi hi a e=>?_) (λa=>?_) k 0 (Nat.zero_le _) (by omega)).trans (by rw[Zq1,Zq1])
 ·have c:i<m.length:=by omega
  rw[d i hi c,e,Ak hi,Ak c];by_cases h:l[i]=m[i]
  ·grind
  ·grind
 ·grind
def Ah9:Sig:=⟨26,[(0,.sl .str false),(1,.sl .str false),(4,.bool),(5,.int .i64)],[],[],0,0,0,[],[]⟩
abbrev Y3:=Yb1 Str×Yb1 Str×Bool×Int
def Sy{R:Type}(a:Y3->Ya1 R)(kx:Ex->Y3->Ya1 R)(v:Y3):Ya1 R:=match v with|(v,v1,v2,v3)=>cond (decide (v3<(v.length:Int))) (chk (inb v3 v.length) (chk (inb v3 v1.length) (cond (!decide ((at' .str v v3)=(at' .str v1 v3))) (kx .ret (v,v1,false,v3)) (a (v,v1,v2,(wr .i64 (v3+1))))))) (kx (.exit 0) (v,v1,v2,v3))
def Atv(R:Type)(k:Nat):Px R:=pxO [] [] [(4,An k Ah9 (Sy))] []
def Agt(k:Nat)(x:HV [Yf1,Yf1]):Ya1 (HV [.bool]):=match x with
 |(a,b)=>
 cond (!decide ((a.length:Int)=(b.length:Int))) (
  some false) (
  Aj (λc=>Sy c (λe d=>match d with|(_,_,v6,_)=>match e with
  |.ret=>some v6
  |.exit 0=>some true
  |_=>none)) k (a,b,false,0))
theorem Bbv(k:Nat):FO 166 [Yf1,Yf1] [.bool] (Agt k):=fR (px:=Atv _ k) (n:=1) Tryz.func166 rfl (λcx H=>by have c:Lv cx (Atv (HV [.bool]) k):=lv H Ae Aa Ab;have a:=lO H c (b:=lp Tryz.f166 0) (k:=k) (n:=0) (s:=Ah9) (step:=Sy) (λ_ _ _ (_,_,_,_)=>by kernel_rfl) Ai;exact⟨c,(A4 Ai a)⟩) λ(_,_)=>by kernel_rfl
def Apr(a b:Yb1 Str):Bool:=decide (a=b)
def Aqz:FT [Yf1,Yf1] [.bool]:=λx=>some (Apr x.1 x.2)
theorem B3x{a b:Yb1 α}(h:¬(a.length:Int)=(b.length:Int)):¬a=b:=λe=>h (by rw[e])
theorem Bh5:FO 166 [Yf1,Yf1] [.bool] Aqz:=.fin 0 Bbv λ(a,b) r hb f=>⟨a.length+1,by
 simp only[Aqz,Apr,Za1]at f;rw[<-f];simp only[Agt];by_cases d:(a.length:Int)=(b.length:Int)
 ·rw[Ze1 d,Zt1,Ag];refine(Nn a b (by omega) (λi=>(a,b,false,(i:Int))) (some false) (some true) (λi h g e=>?_) (λe=>?_) (a.length+1) (by omega)).trans ?_
  ·simp only[Sy,Cs h,Af,Ao h,Ao g,chk,Al (c:=.str) h,Al (c:=.str) g,Am h hb.1.1]
  ·simp only[Sy,C4,Ag]
  ·cases decide (a=b)<;>rfl
 ·rw[Zd1 d,Zd1 (B3x d)];rfl⟩
def Bjq(R:Type):Px R:=pxO [(165,cA Axp)] [] [] []
def R7(x:HV [Ye1,Ye1]):Ya1 (HV [.bool]):=match x with|(a,b)=>some (Ats (Xpr.mk 0 ⟨0,0,[]⟩ [] a) (Xpr.mk 0 ⟨0,0,[]⟩ [] b))
theorem A7y:FO 167 [Ye1,Ye1] [.bool] (R7):=fR (px:=Bjq _) (n:=0) Tryz.func167 rfl (λ_ H=>⟨lv H (c1 H A6w Ae) Aa Ab,Ai⟩) λ(_,_)=>by kernel_rfl
def Zy(a:Yb1 Xpr)(b:Yb1 Xpr):Bool:=(Ats (Xpr.mk 0 ⟨0,0,[]⟩ [] a) (Xpr.mk 0 ⟨0,0,[]⟩ [] b))
theorem Bap(x:HV [Ye1,Ye1]):R7 x=some (Zy x.1 x.2):=by
 first
  |exact rfl
  |simp only[R7,Zy,Aw]
def A1i:FT [Ye1,Ye1] [.bool]:=λx=>some (Zy x.1 x.2)
theorem Bis:FO 167 [Ye1,Ye1] [.bool] A1i:=.fin0 A7y λx _ _ a=>(Bap x).trans a
theorem Ar8(a b:Yb1 Xpr):Zy a b=decide (a=b):=by have e:Zy a b=Ha (.mk 0 ⟨0,0,[]⟩ [] a) (.mk 0 ⟨0,0,[]⟩ [] b):=rfl;rw[e,Iy];exact Zy1.2 (by simp)
theorem Asp(a b:Xpr):Ats a b=decide (a=b):=Iy a b
instance:DecidableEq SetE:=λa b=>decidable_of_iff (a.name=b.name/\a.e=b.e) (by cases a;cases b;simp only[SetE.mk.injEq])
def Ago:Sig:=⟨199,[(4,.bool),(8,.int .i64)],[(2,.ptr 0 0),(3,.ptr 1 0)],[(0,.one (.sv .stmt)),(1,.one (.sv .stmt))],2,0,0,[],[]⟩
abbrev Yr:=Bool×Int×Stm×Stm
def Q5{R:Type}(c:Yr->Ya1 R)(kx:Ex->Yr->Ya1 R)(v:Yr):Ya1 R:=match v with|(b,a,w6,w7)=>cond (decide (a<(w6.desc.length:Int))) (chk (inb a w6.desc.length) (chk (inb a w7.desc.length) (cond (!decide ((at' .bool w6.desc a)=(at' .bool w7.desc a))) (kx .ret (false,a,w6,w7)) (c (b,(wr .i64 (a+1)),w6,w7))))) (kx (.exit 6) (b,a,w6,w7))
def Aia:Sig:=⟨199,[(4,.bool),(7,.int .i64)],[(2,.ptr 0 0),(3,.ptr 1 0)],[(0,.one (.sv .stmt)),(1,.one (.sv .stmt))],2,0,0,[],[]⟩
abbrev Yq:=Bool×Int×Stm×Stm
def Sq{R:Type}(c:Yq->Ya1 R)(kx:Ex->Yq->Ya1 R)(v:Yq):Ya1 R:=match v with|(b,a,w4,w5)=>cond (decide (a<(w4.sets.length:Int))) (chk (inb a w4.sets.length) (chk (inb a w5.sets.length) (cond (!decide (((at' .set w4.sets a).name)=((at' .set w5.sets a).name))) (kx .ret (false,a,w4,w5)) (chk (inb a w4.sets.length) (chk (inb a w5.sets.length) (cond (!(Ats (I3 ((at' .set w4.sets a).e)) (I3 ((at' .set w5.sets a).e)))) (kx .ret (false,a,w4,w5)) (c (b,(wr .i64 (a+1)),w4,w5)))))))) (kx (.exit 4) (b,a,w4,w5))
def Ah6:Sig:=⟨199,[(4,.bool),(6,.int .i64)],[(2,.ptr 0 0),(3,.ptr 1 0)],[(0,.one (.sv .stmt)),(1,.one (.sv .stmt))],2,0,0,[],[]⟩
abbrev Aab:=Bool×Int×Stm×Stm
def Rh{R:Type}(a:Aab->Ya1 R)(kx:Ex->Aab->Ya1 R)(v:Aab):Ya1 R:=match v with|(v6,v7,w2,w3)=>cond (decide (v7<(w2.rows.length:Int))) (chk (inb v7 w2.rows.length) (chk (inb v7 w3.rows.length) (cond (!(Zy (at' .exprs w2.rows v7) (at' .exprs w3.rows v7))) (kx .ret (false,v7,w2,w3)) (a (v6,(wr .i64 (v7+1)),w2,w3))))) (kx (.exit 2) (v6,v7,w2,w3))
def Agk:Sig:=⟨199,[(4,.bool),(5,.int .i64)],[(2,.ptr 0 0),(3,.ptr 1 0)],[(0,.one (.sv .stmt)),(1,.one (.sv .stmt))],2,0,0,[],[]⟩
abbrev Zj:=Bool×Int×Stm×Stm
def Sl{R:Type}(a:Zj->Ya1 R)(kx:Ex->Zj->Ya1 R)(v:Zj):Ya1 R:=match v with|(v,v1,w,w1)=>cond (decide (v1<(w.cols.length:Int))) (chk (inb v1 w.cols.length) (chk (inb v1 w1.cols.length) (cond (!decide ((at' .col w.cols v1)=(at' .col w1.cols v1))) (kx .ret (false,v1,w,w1)) (a (v,(wr .i64 (v1+1)),w,w1))))) (kx (.exit 0) (v,v1,w,w1))
def Att(R:Type)(k:Nat):Px R:=pxO [(165,cA Axp),(166,cA Aqz),(167,cA A1i)] [] [(6,An k Agk (Sl)),(11,An k Ah6 (Rh)),(16,An k Aia (Sq)),(21,An k Ago (Q5))] []
def Ahf(k:Nat)(x:HV [Yg1,Yg1]):Ya1 (HV [.bool]):=match x with
 |(a,b)=>
 let q:=λ(p:Bool)=>
  let r:=λ(p1:Bool)=>
  let s:=λ(p2:Bool)=>
   let t:=λ(p3:Bool)=>
   let u:=λ(p4:Bool)=>
    let j:=λ(w:Bool)=>
    cond (w) (
     some false) (
     cond (!(Apr a.order b.order)) (
     some false) (
     cond (!(Zy a.l b.l)) (
      some false) (
      let v:=λ(d:Bool)=>
      cond (d) (
       some false) (
       cond (!decide ((a.sets.length:Int)=(b.sets.length:Int))) (
       some false) (
       cond (!decide ((a.desc.length:Int)=(b.desc.length:Int))) (
        some false) (
        Aj (λn=>Sl n (λe o=>match o with|(v2,_,v4,v5)=>match e with
        |.ret=>some v2
        |.exit 0=>
         Aj (λn=>Rh n (λe o=>match o with|(v8,_,f,g)=>match e with
         |.ret=>some v8
         |.exit 2=>
          Aj (λn=>Sq n (λe o=>match o with|(c,_,h,i)=>match e with
          |.ret=>some c
          |.exit 4=>
           Aj (λn=>Q5 n (λe o=>match o with|(m,_,_,_)=>match e with
           |.ret=>some m
           |.exit 6=>some true
           |_=>none)) k (c,0,h,i)
          |_=>none)) k (v8,0,f,g)
         |_=>none)) k (v2,0,v4,v5)
        |_=>none)) k (false,0,a,b))))
      cond (!decide ((a.cols.length:Int)=(b.cols.length:Int))) (
      v true) (
      v (!decide ((a.rows.length:Int)=(b.rows.length:Int)))))))
    cond (p4) (
    j true) (
    j (!(Apr a.names b.names)))
   cond (p3) (
    u true) (
    u (!(Ats (I3 a.whr) (I3 b.whr))))
   cond (p2) (
   t true) (
   t (!decide (a.most=b.most)))
  cond (p1) (
   s true) (
   s (!decide (a.has=b.has)))
  cond (p) (
  r true) (
  r (!decide (a.on=b.on)))
 cond (!decide (a.kind=b.kind)) (
  q true) (
  q (!decide (a.name=b.name)))
theorem Bam(k:Nat):FO 122 [Yg1,Yg1] [.bool] (Ahf k):=fR (px:=Att _ k) (n:=4) Tryz.func122 rfl (λcx H=>by have f:Lv cx (Att (HV [.bool]) k):=lv H (c1 H A6w (c1 H Bh5 (c1 H Bis Ae))) Aa Ab;have a:=lO H f (b:=lp Tryz.f122 0) (k:=k) (n:=0) (s:=Agk) (step:=Sl) (λ_ _ _ (_,_,_,_)=>by kernel_rfl) Ai;have c:=lO H f (b:=lp Tryz.f122 1) (k:=k) (n:=0) (s:=Ah6) (step:=Rh) (λ_ _ _ (_,_,_,_)=>by kernel_rfl) Ai;have d:=lO H f (b:=lp Tryz.f122 2) (k:=k) (n:=0) (s:=Aia) (step:=Sq) (λ_ _ _ (_,_,_,_)=>by kernel_rfl) Ai;have e:=lO H f (b:=lp Tryz.f122 3) (k:=k) (n:=0) (s:=Ago) (step:=Q5) (λ_ _ _ (_,_,_,_)=>by kernel_rfl) Ai;exact⟨f,(A4 (A4 (A4 (A4 Ai a) c) d) e)⟩) λ(_,_)=>by kernel_rfl
def Zm(a b:Stm):Bool:=decide (a=b)
def Aqo:FT [Yg1,Yg1] [.bool]:=λx=>some (Zm x.1 x.2)
theorem Bsm(x y:SetE)(no a:R):cond (!decide (x.name=y.name)) no (cond (!decide (x.e=y.e)) no a)=cond (!decide (x=y)) no a:=by
 have e:decide (x=y)=(decide (x.name=y.name)&&decide (x.e=y.e)):=by rw[<-Bool.decide_and];refine Zy1.2 ?_;cases x;cases y;simp
 rw[e];cases decide (x.name=y.name)<;>rfl
theorem Bzd{a b:Stm}(g:a.kind=b.kind)(h:a.name=b.name)(i:a.on=b.on)(j:a.cols=b.cols)(k:a.names=b.names)(m:a.l=b.l)(n:a.rows=b.rows)(o:a.sets=b.sets)(p:a.has=b.has)(c:a.whr=b.whr)(d:a.order=b.order)(e:a.desc=b.desc)(f:a.most=b.most):a=b:=by cases a;cases b;simp only at g h i j k m n o p c d e f;simp[g,h,i,j,k,m,n,o,p,c,d,e,f]
theorem Bha:FO 122 [Yg1,Yg1] [.bool] Aqo:=.fin 0 Bam λ(a,b) r hb hx=>⟨a.cols.length+a.rows.length+a.sets.length+a.desc.length+1,by
 simp only[Aqo,Zm,Za1]at hx;rw[<-hx];have hb:=hb.1;have no:∀{p:Prop} [Decidable p],(a=b->p)->¬p->decide (a=b)=false:=λh hn=>Zd1 λe=>hn (h e);simp only[Ahf,Hz,Ar8,Asp,Apr];by_cases u:a.kind=b.kind
 case neg=>rw[Zd1 u,no (λe=>by rw[e]) u];rfl
 rw[Ze1 u];by_cases d:a.name=b.name
 case neg=>rw[Zd1 d,no (λe=>by rw[e]) d];rfl
 rw[Ze1 d];by_cases v:a.on=b.on
 case neg=>rw[Zd1 v,no (λe=>by rw[e]) v];rfl
 rw[Ze1 v];by_cases w:a.has=b.has
 case neg=>rw[Zd1 w,no (λe=>by rw[e]) w];rfl
 rw[Ze1 w];by_cases g:a.most=b.most
 case neg=>rw[Zd1 g,no (λe=>by rw[e]) g];rfl
 rw[Ze1 g];by_cases j:a.whr=b.whr
 case neg=>rw[Zd1 j,no (λe=>by rw[e]) j];rfl
 rw[Ze1 j];by_cases x:a.names=b.names
 case neg=>rw[Zd1 x,no (λe=>by rw[e]) x];rfl
 rw[Ze1 x];by_cases m:a.order=b.order
 case neg=>rw[Zd1 m,no (λe=>by rw[e]) m];rfl
 rw[Ze1 m];by_cases y:a.l=b.l
 case neg=>rw[Zd1 y,no (λe=>by rw[e]) y];rfl
 rw[Ze1 y];by_cases z:(a.cols.length:Int)=(b.cols.length:Int)
 case neg=>rw[Zd1 z,no (λe=>by rw[e]) z];rfl
 rw[Ze1 z];by_cases l7:(a.rows.length:Int)=(b.rows.length:Int)
 case neg=>rw[Zd1 l7,no (λe=>by rw[e]) l7];rfl
 rw[Ze1 l7];by_cases l8:(a.sets.length:Int)=(b.sets.length:Int)
 case neg=>rw[Zd1 l8,no (λe=>by rw[e]) l8];rfl
 rw[Ze1 l8];by_cases o:(a.desc.length:Int)=(b.desc.length:Int)
 case neg=>rw[Zd1 o,no (λe=>by rw[e]) o];rfl
 rw[Ze1 o];simp only[Zt1,Ag];generalize hk:a.cols.length+a.rows.length+a.sets.length+a.desc.length+1=k;refine(Nn a.cols b.cols (by omega) (λi=>(false,(i:Int),a,b)) (some false) (cond (decide (a.rows=b.rows)) (cond (decide (a.sets=b.sets)) (cond (decide (a.desc=b.desc)) (some true) (some false)) (some false)) (some false)) (λi h d f=>?_) (λf=>?_) k (by omega)).trans ?_
 ·simp only[Sl,Cs h,Af,Ao h,Ao d,chk,Al (c:=.col) h,Al (c:=.col) d,Am h hb.cols.1]
 ·simp only[Sl,C4,Ag];refine(Nn a.rows b.rows (by omega) (λi=>(false,(i:Int),a,b)) (some false) (cond (decide (a.sets=b.sets)) (cond (decide (a.desc=b.desc)) (some true) (some false)) (some false)) (λi h d f=>?_) (λf=>?_) k (by omega)).trans rfl
  ·simp only[Rh,Cs h,Af,Ao h,Ao d,chk,Al (c:=.exprs) h,Al (c:=.exprs) d,Am h hb.rows.1,Ar8]
  ·simp only[Rh,C4,Ag];refine(Nn a.sets b.sets (by omega) (λi=>(false,(i:Int),a,b)) (some false) (cond (decide (a.desc=b.desc)) (some true) (some false)) (λi h d f=>?_) (λf=>?_) k (by omega)).trans rfl
   ·simp only[Sq,Cs h,Af,Ao h,Ao d,chk,Al (c:=.set) h,Al (c:=.set) d,Am h hb.sets.1,Hz,Asp];exact Bsm _ _ _ _
   ·simp only[Sq,C4,Ag];refine(Nn a.desc b.desc (by omega) (λi=>(false,(i:Int),a,b)) (some false) (some true) (λi h d f=>?_) (λf=>?_) k (by omega)).trans rfl
    ·simp only[Q5,Cs h,Af,Ao h,Ao d,chk,Al (c:=.bool) h,Al (c:=.bool) d,Am h hb.desc]
    ·simp only[Q5,C4,Ag]
 ·by_cases q:a.cols=b.cols
  case neg=>rw[Zd1 q,no (λe=>by rw[e]) q];rfl
  by_cases s:a.rows=b.rows
  case neg=>rw[Ze1 q,Zd1 s,no (λe=>by rw[e]) s];rfl
  by_cases t:a.sets=b.sets
  case neg=>rw[Ze1 q,Ze1 s,Zd1 t,no (λe=>by rw[e]) t];rfl
  by_cases n:a.desc=b.desc
  case neg=>rw[Ze1 q,Ze1 s,Ze1 t,Zd1 n,no (λe=>by rw[e]) n];rfl
  rw[Ze1 q,Ze1 s,Ze1 t,Ze1 n,Ze1 (Bzd u d v q x y s t w j m n g)];rfl⟩
def Asr:Sig:=⟨27,[(0,.sl .expr false),(1,.int .i64),(4,.bool),(5,.int .i64)],[],[],0,0,0,[],[]⟩
abbrev Aot:=Yb1 Xpr×Int×Bool×Int
def Apb{R:Type}(a:Aot->Ya1 R)(kx:Ex->Aot->Ya1 R)(v:Aot):Ya1 R:=match v with|(v,v1,v2,v3)=>cond (decide (v3<(v.length:Int))) (chk (inb v3 v.length) (cond (decide (30<(Bc (at' .expr v v3)))) (kx .ret (v,v1,false,v3)) (a (v,v1,v2,(wr .i64 (v3+1)))))) (kx (.exit 0) (v,v1,v2,v3))
def Bcl(R:Type)(k:Nat):Px R:=pxO [(121,cA Ajv)] [] [(2,An k Asr (Apb))] []
def Avi(k:Nat)(x:HV [Ye1,Yc1]):Ya1 (HV [.bool]):=match x with
 |(l,least)=>
 Aj (λa=>Apb a (λe b=>match b with|(v4,v5,v6,_)=>match e with
  |.ret=>
  some v6
  |.exit 0=>
  cond (decide (v5<=(v4.length:Int))) (
   some (decide ((v4.length:Int)<=100))) (
   some false)
  |_=>none)) k (l,least,false,0)
theorem Bpi(k:Nat):FO 120 [Ye1,Yc1] [.bool] (Avi k):=fR (px:=Bcl _ k) (n:=1) Tryz.func120 rfl (λcx H=>by have c:Lv cx (Bcl (HV [.bool]) k):=lv H (c1 H Ao8 Ae) Aa Ab;have a:=lO H c (b:=lp Tryz.f120 0) (k:=k) (n:=0) (s:=Asr) (step:=Apb) (λ_ _ _ (_,_,_,_)=>by kernel_rfl) Ai;exact⟨c,(A4 Ai a)⟩) λ(_,_)=>by kernel_rfl
def W3(l:Yb1 Xpr)(n:Int):Bool:=l.all (λx=>decide (Bc x<=30))&&decide (n<=(l.length:Int))&&decide (l.length<=100)
def A9y:FT [Ye1,Yc1] [.bool]:=λx=>some (W3 x.1 x.2)
theorem Bb2(n:Nat):decide ((n:Int)<=100)=decide (n<=100):=Zy1.2 (by omega)
theorem B0z:FO 120 [Ye1,Yc1] [.bool] A9y:=.fin 0 Bpi λ(l,n) r hb b=>⟨l.length+1,by
 simp only[A9y,W3,Za1]at b;rw[<-b];simp only[Avi];refine(A3 l.length (λi=>(l,n,false,(i:Int))) (λi=>some ((l.drop i).all (λx=>decide (Bc x<=30))&&decide (n<=(l.length:Int))&&decide (l.length<=100))) (λi hi a d=>?_) (λa=>?_) (l.length+1) 0 (Nat.zero_le _) (by omega)).trans (by rw[Zq1])
 ·have e:decide (Bc l[i]<=30) = !decide (30<Bc l[i]):=by
   by_cases h : 30<Bc l[i]
   ·rw[Ze1 h,Zd1 (by omega)];rfl
   ·rw[Zd1 h,Ze1 (by omega)];rfl
  simp only[Apb,Cs hi,Af,Ao hi,chk,Al (c:=.expr) hi,Am hi hb.1.1,d,Ak hi,Zv1,e];cases decide (30<Bc l[i])<;>rfl
 ·simp only[Apb,C4,Ag,Bb2];rw[Zk1 (Zn1 _)];cases decide (n<=(l.length:Int))<;>rfl⟩
theorem Bcs{l:Yb1 Xpr}(h:esizes l<=900000)(n:Int):W3 l n=(Gy l&&decide (n<=(l.length:Int))):=by
 have e:l.all (λx=>decide (Bc x<=30))=l.all (λx=>Ba x 30):=by
  rw[Bool.eq_iff_iff,Zg2,Zg2];refine⟨λa x hm=>?_,λa x hm=>?_⟩
  ·have:=Bi hm;exact(Gz (A1 x) x 30 (Zn1 _) (by omega) (by omega)).2 (of_decide_eq_true (a x hm))
  ·have:=Bi hm;exact Ze1 ((Gz (A1 x) x 30 (Zn1 _) (by omega) (by omega)).1 (a x hm))
 simp[W3,Gy,e];cases l.all (λx=>Ba x 30)<;>cases decide (n<=(l.length:Int))<;>cases decide (l.length<=100)<;>rfl
theorem Bfj{e:Xpr}(h:A1 e<=900000):decide (Bc e<=30)=Ba e 30:=by rw[Bool.eq_iff_iff,Zg1];exact(Gz (A1 e) e 30 (Zn1 _) (by omega) (by omega)).symm
def Amy:Sig:=⟨42,[(0,.sl .str false),(1,.int .i64),(4,.bool),(5,.int .i64),(6,.int .i64)],[],[],0,0,0,[],[]⟩
abbrev Ue:=Yb1 Str×Int×Bool×Int×Int
def To{R:Type}(a:Ue->Ya1 R)(kx:Ex->Ue->Ya1 R)(v:Ue):Ya1 R:=match v with|(v4,v5,v6,v7,v8)=>cond (decide (v8<v7)) (chk (inb v7 v4.length) (chk (inb v8 v4.length) (cond (decide ((at' .str v4 v7)=(at' .str v4 v8))) (kx .ret (v4,v5,false,v7,v8)) (a (v4,v5,v6,v7,(wr .i64 (v8+1))))))) (kx (.exit 2) (v4,v5,v6,v7,v8))
def Akm:Sig:=⟨42,[(0,.sl .str false),(1,.int .i64),(4,.bool),(5,.int .i64)],[],[],0,0,0,[],[]⟩
abbrev Aej:=Yb1 Str×Int×Bool×Int
def Aba{R:Type}(k:Nat)(d:Aej->Ya1 R)(kx:Ex->Aej->Ya1 R)(v:Aej):Ya1 R:=match v with
 |(v,v1,v2,v3)=>
 cond (decide (v3<(v.length:Int))) (
  chk (inb v3 v.length) (
  cond (!(Acd (at' .str v v3))) (
   kx .ret (v,v1,false,v3)) (
   Aj (λrc=>To rc (λe f=>match f with|(v9,a,b,c,_)=>match e with
   |.ret=>kx .ret (v9,a,b,c)
   |.exit 2=>d (v9,a,b,(wr .i64 (c+1)))
   |_=>none)) k (v,v1,v2,v3,0)))) (
  kx (.exit 0) (v,v1,v2,v3))
def A4n(R:Type)(k:Nat):Px R:=pxO [(118,cA Adp)] [] [(7,An k Amy (To)),(2,An k Akm (Aba k))] []
def Ano(k:Nat)(x:HV [Yf1,Yc1]):Ya1 (HV [.bool]):=match x with
 |(l,least)=>
 Aj (λd=>Aba k d (λe f=>match f with|(a,b,c,_)=>match e with
  |.ret=>
  some c
  |.exit 0=>
  cond (decide (b<=(a.length:Int))) (
   some (decide ((a.length:Int)<=100))) (
   some false)
  |_=>none)) k (l,least,false,0)
theorem Bmy(k:Nat):FO 119 [Yf1,Yc1] [.bool] (Ano k):=fR (px:=A4n _ k) (n:=2) Tryz.func119 rfl (λcx H=>by have d:Lv cx (A4n (HV [.bool]) k):=lv H (c1 H Am6 Ae) Aa Ab;have a:=lO H d (b:=lpC (lp Tryz.f119 0) 0) (k:=k) (n:=0) (s:=Amy) (step:=To) (λ_ _ _ (_,_,_,_,_)=>by kernel_rfl) Ai;have c:=lO H d (b:=lp Tryz.f119 0) (k:=k) (n:=1) (s:=Akm) (step:=Aba k) (λ_ _ _ (_,_,_,_)=>by kernel_rfl) (A4 Ai a);exact⟨d,(A4 (A4 Ai c) a)⟩) λ(_,_)=>by kernel_rfl
def L3(l:Yb1 Str)(n:Int):Bool:=Dn l&&decide (n<=(l.length:Int))
def Az0:FT [Yf1,Yc1] [.bool]:=λx=>some (L3 x.1 x.2)
variable{i:Nat}
theorem A0o{kx:Ex->Ue->Ya1 R}{l:Yb1 Str}{n:Int}{c:Bool->Ya1 R}(f:ln l.length)(hi:i<l.length)(g:∀j,kx .ret (l,n,false,(i:Int),j)=c true)(m:∀j,kx (.exit 2) (l,n,false,(i:Int),j)=c false)(k:Nat)(r:i<k) :
  Aj (λa=>To a kx) k (l,n,false,(i:Int),0)=c ((l.take i).contains l[i]):=by
 refine(A3 i (λj=>(l,n,false,(i:Int),(j:Int))) (λj=>c (((l.take i).drop j).contains l[i])) (λj o a p=>?_) (λa=>?_) k 0 (Nat.zero_le _) (by omega)).trans (by rw[Zq1])
 ·have b:j<l.length:=by omega
  have d:j<(l.take i).length:=by rw[List.length_take];omega
  have e:(l.take i)[j]=l[j]:=List.getElem_take;simp only[To,Cs o,Af,Ao hi,Ao b,chk,Al (c:=.str) hi,Al (c:=.str) b,Am b f,p,g,Ak d,List.contains_cons,e];by_cases h:l[i]=l[j]
  ·rw[Ze1 h,h];simp
  ·have q:(l[i] == l[j])=false:=beq_eq_false_iff_ne.2 h;rw[Zd1 h,q];rfl
 ·simp only[To,C4,Ag,m];rw[Zk1 (by rw[List.length_take];omega)];rfl
theorem Bqj:FO 119 [Yf1,Yc1] [.bool] Az0:=.fin 0 Bmy λ(l,n) r hb d=>⟨l.length+1,by
 simp only[Az0,L3,Za1]at d;rw[<-d];simp only[Ano];refine(A3 l.length (λi=>(l,n,false,(i:Int))) (λi=>some (Mm (l.take i) (l.drop i)&&decide (l.length<=100)&&decide (n<=(l.length:Int)))) (λi hi a e=>?_) (λa=>?_) (l.length+1) 0 (Nat.zero_le _) (by omega)).trans (by rw[Zq1,List.take_zero];rfl)
 ·simp only[Aba,Cs hi,Af,Ao hi,chk,Al (c:=.str) hi,Ls,Ak hi,Mm];cases f:B7 l[i]with
  |false=>rfl
  |true=>
   rw[Zt1,Ag];refine(A0o (c:=λb=>cond b (some false) (some (Mm (l.take (i+1)) (l.drop (i+1))&&decide (l.length<=100)&&decide (n<=(l.length:Int))))) hb.1.1 hi (λ_=>?_) (λ_=>?_) (l.length+1) (by omega)).trans ?_
   ·rfl
   ·show a (l,n,false,wr .i64 ((i:Int)+1))=_;rw[Am hi hb.1.1,e];rfl
   ·rw[Aqm hi];cases (l.take i).contains l[i]<;>rfl
 ·simp only[Aba,C4,Ag,Bb2];rw[Zk1 (Zn1 _)];simp only[Mm];cases decide (n<=(l.length:Int))<;>cases decide (l.length<=100)<;>rfl⟩
noncomputable section
def Ava:Sig:=⟨259,[(4,.bool),(5,.sl .str true),(9,.int .i64)],[(1,.ptr 0 0),(3,.ptr 1 0)],[(0,.one (.sv .stmt)),(1,.one (.sv .stmt))],2,0,0,[],[]⟩
abbrev Ac8:=Bool×Yb1 Str×Int×Stm×Stm
def Aee{R:Type}(d:Ac8->Ya1 R)(kx:Ex->Ac8->Ya1 R)(v:Ac8):Ya1 R:=match v with|(c,b,a,w4,w5)=>cond (decide (a<(w4.sets.length:Int))) (chk (inb a w4.sets.length) (chk (decide (b.length+1<=Ah)) (cond (c) (chk (inb a w4.sets.length) (d (decide ((Bc (I3 ((at' .set w4.sets a).e)))<=30),(b++[((at' .set w4.sets a).name)]),(wr .i64 (a+1)),w4,w5))) (d (false,(b++[((at' .set w4.sets a).name)]),(wr .i64 (a+1)),w4,w5))))) (kx (.exit 5) (c,b,a,w4,w5))
def Asd:Sig:=⟨259,[(4,.bool),(8,.int .i64)],[(1,.ptr 0 0),(3,.ptr 1 0)],[(0,.one (.sv .stmt)),(1,.one (.sv .stmt))],2,0,0,[],[]⟩
abbrev Aai:=Bool×Int×Stm×Stm
def X0{R:Type}(a:Aai->Ya1 R)(kx:Ex->Aai->Ya1 R)(v:Aai):Ya1 R:=match v with|(v8,v9,w2,w3)=>cond (decide (v9<(w2.rows.length:Int))) (cond (v8) (chk (inb v9 w2.rows.length) (a ((W3 (at' .exprs w2.rows v9) 1),(wr .i64 (v9+1)),w2,w3))) (a (false,(wr .i64 (v9+1)),w2,w3))) (kx (.exit 3) (v8,v9,w2,w3))
def Awi:Sig:=⟨259,[(4,.bool),(5,.sl .str true),(6,.int .i64)],[(1,.ptr 0 0),(3,.ptr 1 0)],[(0,.one (.sv .stmt)),(1,.one (.sv .stmt))],2,0,0,[],[]⟩
abbrev Aby:=Bool×Yb1 Str×Int×Stm×Stm
def Ad5{R:Type}(a:Aby->Ya1 R)(kx:Ex->Aby->Ya1 R)(v:Aby):Ya1 R:=match v with
 |(v,v1,v2,w,w1)=>
 cond (decide (v2<(w.cols.length:Int))) (
  chk (inb v2 w.cols.length) (
  chk (decide (v1.length+1<=Ah)) (
   let b:=λ(p4:Bool)=>
   let j:=λ(c:Bool)=>
    cond (c) (
    cond (decide (((at' .col w.cols v2).ref)=[])) (
     a (true,(v1++[((at' .col w.cols v2).name)]),(wr .i64 (v2+1)),w,w1)) (
     a ((Acd ((at' .col w.cols v2).ref)),(v1++[((at' .col w.cols v2).name)]),(wr .i64 (v2+1)),w,w1))) (
    a (false,(v1++[((at' .col w.cols v2).name)]),(wr .i64 (v2+1)),w,w1))
   cond (p4) (
    j (decide ((at' .col w.cols v2).kind<=5))) (
    j false)
   cond (v) (
   b (decide (2<=(at' .col w.cols v2).kind))) (
   b false)))) (
  kx (.exit 1) (v,v1,v2,w,w1))
def Beo(R:Type)(k:Nat):Px R:=pxO [(118,cA Adp),(119,cA Az0),(120,cA A9y),(121,cA Ajv),(122,cA Aqo)] [] [(7,An k Awi (Ad5)),(24,An k Asd (X0)),(30,An k Ava (Aee))] []
def Ae9(k:Nat)(x:HV [Yg1]):Ya1 (HV [Yc1]):=match x with
 |s=>
 let a:Bool->Ya1 (HV [Yc1]):=λ(p3:Bool)=>
  let u:Bool->Stm->Stm->Ya1 (HV [Yc1]):=λ(b:Bool) (q:Stm) (q1:Stm)=>
  let y:Bool->Stm->Ya1 (HV [Yc1]):=λ(f:Bool) (q2:Stm)=>
   cond (!f) (
   some 2) (
   cond (!(Zm q2 q)) (
    some 2) (
    some 0))
  let z:Bool->Ya1 (HV [Yc1]):=λ(g:Bool)=>
   cond (g) (
   cond (b) (
    y (decide ((Bc (I3 q.whr))<=30)) (Stm.mk q1.kind q1.name q1.on q1.cols q1.names q1.l q1.rows q1.sets true (I3 q.whr) q1.order q1.desc q1.most)) (
    y false (Stm.mk q1.kind q1.name q1.on q1.cols q1.names q1.l q1.rows q1.sets true (I3 q.whr) q1.order q1.desc q1.most))) (
   y b q1)
  let j6:Bool->Ya1 (HV [Yc1]):=λ(h:Bool)=>
   cond (h) (
   z q.has) (
   cond (decide (q.kind=8)) (
    z q.has) (
    z false))
  cond (decide (q.kind=6)) (
   j6 true) (
   j6 (decide (q.kind=7)))
  cond (decide (s.kind=1)) (
  Aj (λv=>Ad5 v (λe w=>match w with|(v3,v4,_,v6,v7)=>match e with
   |.exit 1=>
   let j2:Bool->Ya1 (HV [Yc1]):=λ(p9:Bool)=>
    cond (p9) (
    cond (L3 v6.names 1) (
     u (W3 v6.l 0) v6 (Stm.mk v7.kind v7.name v7.on v6.cols v6.names v6.l v7.rows v7.sets v7.has (I3 v7.whr) v7.order v7.desc v7.most)) (
     u false v6 (Stm.mk v7.kind v7.name v7.on v6.cols v6.names v6.l v7.rows v7.sets v7.has (I3 v7.whr) v7.order v7.desc v7.most))) (
    u false v6 (Stm.mk v7.kind v7.name v7.on v6.cols v6.names v6.l v7.rows v7.sets v7.has (I3 v7.whr) v7.order v7.desc v7.most))
   cond (v3) (
    j2 (L3 v4 1)) (
    j2 false)
   |_=>none)) k (p3,[],0,s,(Stm.mk s.kind s.name [] [] [] [] [] [] false (Xpr.mk 0 ⟨0,0,[]⟩ [] []) [] [] 0))) (
  cond (decide (s.kind=3)) (
   cond (p3) (
   cond (Acd s.on) (
    u (L3 s.names 1) s (Stm.mk s.kind s.name s.on [] s.names [] [] [] false (Xpr.mk 0 ⟨0,0,[]⟩ [] []) [] [] 0)) (
    u false s (Stm.mk s.kind s.name s.on [] s.names [] [] [] false (Xpr.mk 0 ⟨0,0,[]⟩ [] []) [] [] 0))) (
   u false s (Stm.mk s.kind s.name s.on [] s.names [] [] [] false (Xpr.mk 0 ⟨0,0,[]⟩ [] []) [] [] 0))) (
   cond (decide (s.kind=5)) (
   let j3:Bool->Ya1 (HV [Yc1]):=λ(i:Bool)=>
    Aj (λv=>X0 v (λe w=>match w with|(j,_,m,n)=>match e with
    |.exit 3=>u j m n
    |_=>none)) k (i,0,s,(Stm.mk s.kind s.name [] [] [] [] s.rows [] false (Xpr.mk 0 ⟨0,0,[]⟩ [] []) [] [] 0))
   cond (p3) (
    cond (decide (1<=(s.rows.length:Int))) (
    j3 (decide ((s.rows.length:Int)<=100))) (
    j3 false)) (
    j3 false)) (
   cond (decide (s.kind=6)) (
    Aj (λv=>Aee v (λe w=>match w with|(o,p,_,c,d)=>match e with
    |.exit 5=>
     cond (o) (
     u (L3 p 1) c d) (
     u false c d)
    |_=>none)) k (p3,[],0,s,(Stm.mk s.kind s.name [] [] [] [] [] s.sets false (Xpr.mk 0 ⟨0,0,[]⟩ [] []) [] [] 0))) (
    cond (decide (s.kind=8)) (
    let j5:Bool->Ya1 (HV [Yc1]):=λ(r:Bool)=>
     let j4:Bool->Ya1 (HV [Yc1]):=λ(t:Bool)=>
     cond (t) (
      cond (decide ((s.desc.length:Int)=(s.order.length:Int))) (
      u (decide ((-1)<=s.most)) s (Stm.mk s.kind s.name [] [] [] s.l [] [] false (Xpr.mk 0 ⟨0,0,[]⟩ [] []) s.order s.desc s.most)) (
      u false s (Stm.mk s.kind s.name [] [] [] s.l [] [] false (Xpr.mk 0 ⟨0,0,[]⟩ [] []) s.order s.desc s.most))) (
      u false s (Stm.mk s.kind s.name [] [] [] s.l [] [] false (Xpr.mk 0 ⟨0,0,[]⟩ [] []) s.order s.desc s.most))
     cond (r) (
     j4 (L3 s.order 0)) (
     j4 false)
    cond (p3) (
     j5 (W3 s.l 0)) (
     j5 false)) (
    u p3 s (Stm.mk s.kind s.name [] [] [] [] [] [] false (Xpr.mk 0 ⟨0,0,[]⟩ [] []) [] [] 0))))))
 cond (Acd s.name) (
  cond (decide (1<=s.kind)) (
  a (decide (s.kind<=8))) (
  a false)) (
  a false)
theorem Bo2(k:Nat):FO 78 [Yg1] [Yc1] (Ae9 k):=fR (px:=Beo _ k) (n:=3) Tryz.func78 rfl (λcx H=>by have e:Lv cx (Beo (HV [Yc1]) k):=lv H (c1 H Am6 (c1 H Bqj (c1 H B0z (c1 H Ao8 (c1 H Bha Ae))))) Aa Ab;have a:=lO H e (b:=lp Tryz.f78 0) (k:=k) (n:=0) (s:=Awi) (step:=Ad5) (λ_ _ _ (_,_,_,_,_)=>by kernel_rfl) Ai;have c:=lO H e (b:=lp Tryz.f78 1) (k:=k) (n:=0) (s:=Asd) (step:=X0) (λ_ _ _ (_,_,_,_)=>by kernel_rfl) Ai;have d:=lO H e (b:=lp Tryz.f78 2) (k:=k) (n:=0) (s:=Ava) (step:=Aee) (λ_ _ _ (_,_,_,_,_)=>by kernel_rfl) Ai;exact⟨e,(A4 (A4 (A4 Ai a) c) d)⟩) λ_=>by kernel_rfl
noncomputable def Bmo(s:Stm):Ya1 Int:=@ite _ (Few s) (Classical.propDecidable _) (some (cond (Bn s) 0 2)) none
def Ayx:FT [Yg1] [Yc1]:=λx=>Bmo x
variable{o:Stm}
theorem A3g{kx:Ex->Aby->Ya1 R}{w:Stm}{c:Bool->Yb1 Str->Ya1 R}(l:w.cols.length<=2000000)(f:∀v e i,kx (.exit 1) (v,e,i,w,o)=c v e)(k:Nat)(m:w.cols.length<k)(v:Bool) :
  Aj (λa=>Ad5 a kx) k (v,[],0,w,o)=c (v&&w.cols.all H8) (w.cols.map (·.name)):=by
 have g:ln w.cols.length:=by simp[ln];omega
 refine(Cb w.cols.length (λi v=>(v,(w.cols.take i).map (·.name),(i:Int),w,o)) (λ_ _=>True) (λi v=>c (v&&(w.cols.drop i).all H8) (w.cols.map (·.name))) (λi hi v _ a d=>?_) (λv _ a=>?_) k 0 v (Nat.zero_le _) (by omega) trivial).trans (by rw[Zq1])
 ·have h:(w.cols.take (i+1)).map (·.name)=(w.cols.take i).map (·.name)++[w.cols[i].name]:=by rw[List.take_add_one,Zo1 hi,List.map_append];rfl
  have b:((w.cols.take i).map (·.name)).length+1<=Ah:=by simp[List.length_map,List.length_take,Ah];omega
  have d:=λj=>d j trivial;simp only[h]at d;simp only[Ad5,Cs hi,Af,Ao hi,chk,Al (c:=.col) hi,Am hi g,Ak hi,Zv1,Ze1 b,Ls,H8];simp only[d];generalize decide (2<=w.cols[i].kind)=q1;generalize decide (w.cols[i].kind<=5)=q2;generalize decide (w.cols[i].ref=[])=q3;generalize B7 w.cols[i].ref=q4;cases v<;>cases q1<;>cases q2<;>cases q3<;>cases q4<;>rfl
 ·simp only[Ad5,C4,Ag,f];rw[Zk1 (Zn1 _),List.take_length];simp
theorem A59{kx:Ex->Aai->Ya1 R}{w:Stm}{c:Bool->Ya1 R}(b:ln w.rows.length)(d:∀v i,kx (.exit 3) (v,i,w,o)=c v)(k:Nat)(g:w.rows.length<k)(v:Bool) :
  Aj (λa=>X0 a kx) k (v,0,w,o)=c (v&&w.rows.all λr=>W3 r 1):=by
 refine(Cb w.rows.length (λi v=>(v,(i:Int),w,o)) (λ_ _=>True) (λi v=>c (v&&(w.rows.drop i).all λr=>W3 r 1)) (λi hi v _ a e=>?_) (λv _ a=>?_) k 0 v (Nat.zero_le _) (by omega) trivial).trans (by rw[Zq1])
 ·simp only[X0,Cs hi,Af,Ao hi,chk,Al (c:=.exprs) hi,Am hi b,Ak hi,Zv1,(λf=>e f trivial)];generalize W3 w.rows[i] 1=q1;cases v<;>cases q1<;>rfl
 ·simp only[X0,C4,Ag,d];rw[Zk1 (Zn1 _)];simp
theorem A5p{kx:Ex->Ac8->Ya1 R}{w:Stm}{c:Bool->Yb1 Str->Ya1 R}(m:w.sets.length<=2000000)(g:∀v f i,kx (.exit 5) (v,f,i,w,o)=c v f)(k:Nat)(n:w.sets.length<k)(v:Bool) :
  Aj (λa=>Aee a kx) k (v,[],0,w,o)=c (v&&w.sets.all λx=>decide (Bc x.e<=30)) (w.sets.map (·.name)):=by
 have h:ln w.sets.length:=by simp[ln];omega
 refine(Cb w.sets.length (λi v=>(v,(w.sets.take i).map (·.name),(i:Int),w,o)) (λ_ _=>True) (λi v=>c (v&&(w.sets.drop i).all λx=>decide (Bc x.e<=30)) (w.sets.map (·.name))) (λi hi v _ a d=>?_) (λv _ a=>?_) k 0 v (Nat.zero_le _) (by omega) trivial).trans (by rw[Zq1])
 ·have j:(w.sets.take (i+1)).map (·.name)=(w.sets.take i).map (·.name)++[w.sets[i].name]:=by rw[List.take_add_one,Zo1 hi,List.map_append];rfl
  have b:((w.sets.take i).map (·.name)).length+1<=Ah:=by simp[List.length_map,List.length_take,Ah];omega
  have d:=λl=>d l trivial;simp only[j]at d;simp only[Aee,Cs hi,Af,Ao hi,chk,Al (c:=.set) hi,Am hi h,Ak hi,Zv1,Ze1 b,Hz];simp only[d];generalize decide (Bc w.sets[i].e<=30)=q1;cases v<;>cases q1<;>rfl
 ·simp only[Aee,C4,Ag,g];rw[Zk1 (Zn1 _),List.take_length];simp
theorem Bcj(s own:Stm)(ok:Bool):cond (!ok) (some (2:Int)) (cond (!Zm own s) (some 2) (some 0))=some (cond (ok&&decide (own=s)) 0 2):=by simp[Zm];cases ok<;>cases decide (own=s)<;>rfl
theorem Apu(l:Yb1 Str):L3 l 1=(C7 (l.length:Int)&&Dn l):=by rw[A3u];simp[L3,Dn];rw[show decide ((1:Int)<=(l.length:Int))=decide (1<=l.length) from Zy1.2 (by omega)];cases Mm [] l<;>cases decide (1<=l.length)<;>cases decide (l.length<=100)<;>rfl
theorem Btx(l:Yb1 Str):L3 l 0=Dn l:=by simp only[L3];rw[Ze1 (show(0:Int)<=(l.length:Int) by omega),Bool.and_true]
theorem B0i{l:Yb1 Xpr}(h:esizes l<=900000):W3 l 0=Gy l:=by rw[Bcs h,Ze1 (show(0:Int)<=(l.length:Int) by omega),Bool.and_true]
theorem Bxr{l:Yb1 Xpr}(h:esizes l<=900000):W3 l 1=Aq0 l:=by
 rw[Bcs h,Aq0];by_cases e:l.length=0
 ·grind
 ·grind
theorem Au9{l:Yb1 α}{p q : α->Bool}(h:∀x,x∈l->p x=q x):l.all p=l.all q:=by grind
theorem B6i(a:s.kind=1):decide (Stm.mk s.kind s.name [] s.cols s.names s.l [] [] false noX [] [] 0=s)=decide (C1 s=noS):=by obtain⟨k,nm,on,cols,names,l,rows,sets,has,whr,order,desc,most⟩:=s;simp only at a;subst a;exact Zy1.2 ⟨λh=>by simp_all [C1,noS],λh=>by simp_all [C1,noS]⟩
theorem B6a(a:s.kind=2\/s.kind=4):decide (Stm.mk s.kind s.name [] [] [] [] [] [] false noX [] [] 0=s)=decide (C1 s=noS):=by obtain⟨k,nm,on,cols,names,l,rows,sets,has,whr,order,desc,most⟩:=s;simp only at a;rcases a with rfl|rfl<;>exact Zy1.2 ⟨λh=>by simp_all [C1,noS],λh=>by simp_all [C1,noS]⟩
theorem B6d(a:s.kind=3):decide (Stm.mk s.kind s.name s.on [] s.names [] [] [] false noX [] [] 0=s)=decide (C1 s=noS):=by obtain⟨k,nm,on,cols,names,l,rows,sets,has,whr,order,desc,most⟩:=s;simp only at a;subst a;exact Zy1.2 ⟨λh=>by simp_all [C1,noS],λh=>by simp_all [C1,noS]⟩
theorem B6q(a:s.kind=5):decide (Stm.mk s.kind s.name [] [] [] [] s.rows [] false noX [] [] 0=s)=decide (C1 s=noS):=by obtain⟨k,nm,on,cols,names,l,rows,sets,has,whr,order,desc,most⟩:=s;simp only at a;subst a;exact Zy1.2 ⟨λh=>by simp_all [C1,noS],λh=>by simp_all [C1,noS]⟩
theorem B6o(a:s.kind=6)(b:s.has=true):decide (Stm.mk s.kind s.name [] [] [] [] [] s.sets true s.whr [] [] 0=s)=decide (C1 s=noS):=by obtain⟨k,nm,on,cols,names,l,rows,sets,has,whr,order,desc,most⟩:=s;simp only at a b;subst a b;exact Zy1.2 ⟨λh=>by simp_all [C1,noS],λh=>by simp_all [C1,noS]⟩
theorem B5t(a:s.kind=6)(b:s.has=false):decide (Stm.mk s.kind s.name [] [] [] [] [] s.sets false noX [] [] 0=s)=(decide (C1 s=noS)&&decide (s.whr=noX)):=by obtain⟨k,nm,on,cols,names,l,rows,sets,has,whr,order,desc,most⟩:=s;simp only at a b;subst a b;rw[<-Bool.decide_and];exact Zy1.2 ⟨λh=>by simp_all [C1,noS],λh=>by simp_all [C1,noS]⟩
theorem B6f(a:s.kind=7)(b:s.has=true):decide (Stm.mk s.kind s.name [] [] [] [] [] [] true s.whr [] [] 0=s)=decide (C1 s=noS):=by obtain⟨k,nm,on,cols,names,l,rows,sets,has,whr,order,desc,most⟩:=s;simp only at a b;subst a b;exact Zy1.2 ⟨λh=>by simp_all [C1,noS],λh=>by simp_all [C1,noS]⟩
theorem B48(a:s.kind=7)(b:s.has=false):decide (Stm.mk s.kind s.name [] [] [] [] [] [] false noX [] [] 0=s)=(decide (C1 s=noS)&&decide (s.whr=noX)):=by obtain⟨k,nm,on,cols,names,l,rows,sets,has,whr,order,desc,most⟩:=s;simp only at a b;subst a b;rw[<-Bool.decide_and];exact Zy1.2 ⟨λh=>by simp_all [C1,noS],λh=>by simp_all [C1,noS]⟩
theorem B6h(a:s.kind=8)(b:s.has=true):decide (Stm.mk s.kind s.name [] [] [] s.l [] [] true s.whr s.order s.desc s.most=s)=decide (C1 s=noS):=by obtain⟨k,nm,on,cols,names,l,rows,sets,has,whr,order,desc,most⟩:=s;simp only at a b;subst a b;exact Zy1.2 ⟨λh=>by simp_all [C1,noS],λh=>by simp_all [C1,noS]⟩
theorem B54(a:s.kind=8)(b:s.has=false):decide (Stm.mk s.kind s.name [] [] [] s.l [] [] false noX s.order s.desc s.most=s)=(decide (C1 s=noS)&&decide (s.whr=noX)):=by obtain⟨k,nm,on,cols,names,l,rows,sets,has,whr,order,desc,most⟩:=s;simp only at a b;subst a b;rw[<-Bool.decide_and];exact Zy1.2 ⟨λh=>by simp_all [C1,noS],λh=>by simp_all [C1,noS]⟩
def K8(p:Bool)(s own:Stm):Ya1 Int:=cond ((decide (s.kind=6)||decide (s.kind=7)||decide (s.kind=8))&&s.has) (cond (!(p&&decide (Bc s.whr<=30))) (some 2) (cond (!Zm ⟨own.kind,own.name,own.on,own.cols,own.names,own.l,own.rows,own.sets,true,s.whr,own.order,own.desc,own.most⟩ s) (some 2) (some 0))) (cond (!p) (some 2) (cond (!Zm own s) (some 2) (some 0)))
theorem Qa(h:¬(s.kind=6\/s.kind=7\/s.kind=8)\/s.has=false)(p:Bool)(own:Stm):K8 p s own=some (cond (p&&decide (own=s)) 0 2):=by
 have e:((decide (s.kind=6)||decide (s.kind=7)||decide (s.kind=8))&&s.has)=false:=by grind
 simp only[K8,e];exact Bcj s own p
theorem Ak4(h:s.kind=6\/s.kind=7\/s.kind=8)(b:s.has=true)(a:Few s)(p:Bool)(own:Stm):K8 p s own=some (cond (p&&Ba s.whr 30&&decide (Stm.mk own.kind own.name own.on own.cols own.names own.l own.rows own.sets true s.whr own.order own.desc own.most=s)) 0 2):=by
 have e:((decide (s.kind=6)||decide (s.kind=7)||decide (s.kind=8))&&s.has)=true:=by grind
 have hd:=Bfj (show A1 s.whr<=900000 by have:=a.whr;omega);simp only[K8,e,hd];exact Bcj s _ _
theorem J7(b p:Bool)(s o:Stm):cond b (K8 p s o) (K8 false s o)=K8 (b&&p) s o:=by cases b<;>rfl
theorem Ant(h:s.has=true):Hl s=Ba s.whr 30:=by rw[Awd,h];rfl
theorem Aq6(h:s.has=false):Hl s=decide (s.whr=noX):=by rw[Awd,h];rfl
theorem B21(k:Nat)(s:Stm)(hb:BdStm s)(hf:Few s)(hk:Bf4 s<=k):Ae9 k s=some (cond (Bn s) 0 2):=by
 simp only[Bf4]at hk;simp -zeta only [Ae9,Ls];extract_lets s0 j9 j3 j4 j5 f;subst s0;have a3:f (B7 s.name&&decide (1<=s.kind)&&decide (s.kind<=8))=some (cond (Bn s) 0 2):=by
  generalize hp:(B7 s.name&&decide (1<=s.kind)&&decide (s.kind<=8))=p;simp -zeta only [f];have h9:∀p q q1,j9 p q q1=K8 p q q1:=λp q q1=>by simp only[j9,K8,Hz];generalize decide (q.kind=6)=b6;generalize decide (q.kind=7)=b7;generalize decide (q.kind=8)=b8;generalize q.has=bh;cases p<;>cases b6<;>cases b7<;>cases b8<;>cases bh<;>rfl
  have a4:j9=K8:=funext λp=>funext λq=>funext λq1=>h9 p q q1;simp -zeta only [j3,j5,j4];clear f j5 j4 j3;clear h9;clear_value j9;subst a4;have hl:W3 s.l 0=Gy s.l:=B0i (by have:=hf.l;omega);have w6:(s.sets.all λx=>decide (Bc x.e<=30))=s.sets.all λx=>Ba x.e 30:=Au9 λx hx=>Bfj (by have:=hf.sets.2 x hx;omega);have w5:(s.rows.all λr=>W3 r 1)=s.rows.all Aq0:=Au9 λr hr=>Bxr (by have:=hf.rows.2 r hr;omega);have hx:Xpr.mk 0 ⟨0,0,[]⟩ [] []=noX:=rfl;have pk:∀{n:Int},s.kind=n->1<=n->n<=8->p=B7 s.name:=λ{n} h a b=>by rw[<-hp,Ze1 (show 1<=s.kind by omega),Ze1 (show s.kind<=8 by omega),Bool.and_true,Bool.and_true]
  by_cases t:s.kind=1
  ·rw[Ze1 t,Af];refine(A3g (c:=λv ns=>cond v (cond (L3 ns 1) (cond (L3 s.names 1) (K8 (W3 s.l 0) s (Stm.mk s.kind s.name [] s.cols s.names s.l [] [] false noX [] [] 0)) (K8 false s (Stm.mk s.kind s.name [] s.cols s.names s.l [] [] false noX [] [] 0))) (K8 false s (Stm.mk s.kind s.name [] s.cols s.names s.l [] [] false noX [] [] 0))) (K8 false s (Stm.mk s.kind s.name [] s.cols s.names s.l [] [] false noX [] [] 0))) hf.cols (λ_ _ _=>rfl) k (by omega) p).trans ?_;simp only[J7,Apu,hl];rw[Qa (.inl (by omega)),B6i t,pk t (by omega) (by omega),Bn,if_pos t];simp only[List.length_map];congr 2
   ac_rfl
  rw[Zd1 t,Ag];by_cases u:s.kind=3
  ·rw[Ze1 u,Af];simp only[J7,Apu,hx];rw[Qa (.inl (by omega)),B6d u,pk u (by omega) (by omega),Bn,if_neg t,if_pos u];congr 2
   ac_rfl
  rw[Zd1 u,Ag];by_cases z:s.kind=5
  ·rw[Ze1 z,Af];have hit:=λd=>A59 (w:=s) (o:=Stm.mk s.kind s.name [] [] [] [] s.rows [] false noX [] [] 0) (c:=λv=>K8 v s (Stm.mk s.kind s.name [] [] [] [] s.rows [] false noX [] [] 0)) (kx:=λe vz=>match vz with|(g,_,i,j)=>match e with
    |.exit 3=>K8 g i j
    |_=>none) hb.rows.1 (λ_ _=>rfl) k (by omega) d
   have e:∀d,Aj (λa5=>X0 a5 (λe vz=>match vz with|(g,_,i,j)=>match e with
    |.exit 3=>K8 g i j
    |_=>none)) k (d,0,s,(Stm.mk s.kind s.name [] [] [] [] s.rows [] false noX [] [] 0))=K8 (d&&s.rows.all λr=>W3 r 1) s (Stm.mk s.kind s.name [] [] [] [] s.rows [] false noX [] [] 0):=hit
   show cond p (cond (decide (1<=(s.rows.length:Int))) (Aj _ k (_,0,s,(Stm.mk s.kind s.name [] [] [] [] s.rows [] false noX [] [] 0))) (Aj _ k (_,0,s,(Stm.mk s.kind s.name [] [] [] [] s.rows [] false noX [] [] 0)))) (Aj _ k (_,0,s,(Stm.mk s.kind s.name [] [] [] [] s.rows [] false noX [] [] 0)))=_;rw[e,e,Bool.false_and,J7,J7,w5];rw[Qa (.inl (by omega)),B6q z,pk z (by omega) (by omega),Bn,if_neg t,if_neg u,if_neg (by omega),if_pos z,Atl,A3u,Bb2,show decide ((1:Int)<=(s.rows.length:Int))=decide (1<=s.rows.length) from Zy1.2 (by omega)];congr 2
   ac_rfl
  rw[Zd1 z,Ag];by_cases y:s.kind=6
  ·rw[Ze1 y,Af];refine(A5p (c:=λv ns=>cond v (K8 (L3 ns 1) s (Stm.mk s.kind s.name [] [] [] [] [] s.sets false noX [] [] 0)) (K8 false s (Stm.mk s.kind s.name [] [] [] [] [] s.sets false noX [] [] 0))) hf.sets.1 (λ_ _ _=>rfl) k (by omega) p).trans ?_;simp only[J7,Apu,w6];rw[Bn,if_neg t,if_neg u,if_neg (by omega),if_neg z,if_pos y,pk y (by omega) (by omega)];simp only[List.length_map];cases m:s.has with
   |true=>
    rw[Ak4 (.inl y) m hf,B6o y m,Ant m];congr 2
    ac_rfl
   |false=>
    rw[Qa (.inr m),B5t y m,Aq6 m];congr 2
    ac_rfl
  rw[Zd1 y,Ag];by_cases h8:s.kind=8
  ·rw[Ze1 h8,Af];simp only[J7,Btx,hx,hl];have c4:∀(b:Bool) (P Q:Bool),cond b (K8 P s (Stm.mk s.kind s.name [] [] [] s.l [] [] false noX s.order s.desc s.most)) (K8 (false&&Q) s (Stm.mk s.kind s.name [] [] [] s.l [] [] false noX s.order s.desc s.most))=K8 (b&&P) s (Stm.mk s.kind s.name [] [] [] s.l [] [] false noX s.order s.desc s.most):=λb P Q=>by cases b<;>rfl
   simp only[c4];have e1:decide ((s.desc.length:Int)=(s.order.length:Int))=decide (s.desc.length=s.order.length):=Zy1.2 (by omega);rw[Bn,if_neg t,if_neg u,if_neg (by omega),if_neg z,if_neg y,if_neg (by omega),if_pos h8,pk h8 (by omega) (by omega),e1];cases m:s.has with
   |true=>
    rw[Ak4 (.inr (.inr h8)) m hf,B6h h8 m,Ant m];congr 2
    ac_rfl
   |false=>
    rw[Qa (.inr m),B54 h8 m,Aq6 m];congr 2
    ac_rfl
  rw[Zd1 h8,Ag,hx];by_cases h7:s.kind=7
  ·rw[Bn,if_neg t,if_neg u,if_neg (by omega),if_neg z,if_neg y,if_pos h7,pk h7 (by omega) (by omega)];cases m:s.has with
   |true=>
    rw[Ak4 (.inr (.inl h7)) m hf,B6f h7 m,Ant m];congr 2
    ac_rfl
   |false=>
    rw[Qa (.inr m),B48 h7 m,Aq6 m];congr 2
    ac_rfl
  rw[Qa (.inl (by omega)),Bn,if_neg t,if_neg u];by_cases a2:s.kind=2\/s.kind=4
  ·rw[if_pos a2,B6a a2,<-hp,Ze1 (show 1<=s.kind by omega),Ze1 (show s.kind<=8 by omega)];congr 2
   ac_rfl
  ·have a6:p=false:=by
    rw[<-hp];by_cases q : 1<=s.kind
    ·rw[Zd1 (show ¬s.kind<=8 by omega),Bool.and_false]
    ·rw[Zd1 q,Bool.and_false,Bool.false_and]
   rw[if_neg a2,if_neg z,if_neg y,if_neg h7,if_neg h8,a6,Bool.and_false];rfl
 rw[<-a3];cases B7 s.name<;>cases decide (1<=s.kind)<;>cases decide (s.kind<=8)<;>rfl
theorem Bd9:FO 78 [Yg1] [Yc1] Ayx:=.fin 0 Bo2 λs r hb a=>⟨Bf4 s,by
 simp only[Ayx,Bmo]at a;split at a
 ·rename_i h;exact(B21 (Bf4 s) s hb h (Zn1 _)).trans a
 ·cases a⟩
theorem Bfx(h:Few s):Bmo s=some (cond (Bn s) 0 2):=if_pos h
end
def Atm:Sig:=⟨20,[(0,.sl .col false),(1,.str),(4,.int .i64),(5,.int .i64)],[],[],0,0,0,[],[]⟩
abbrev Amx:=Yb1 Col×Str×Int×Int
def Aqh{R:Type}(a:Amx->Ya1 R)(kx:Ex->Amx->Ya1 R)(v:Amx):Ya1 R:=match v with|(v,v1,v2,v3)=>cond (decide (v3<(v.length:Int))) (chk (inb v3 v.length) (cond (decide (((at' .col v v3).name)=v1)) (kx .ret (v,v1,v3,v3)) (a (v,v1,v2,(wr .i64 (v3+1)))))) (kx (.exit 0) (v,v1,v2,v3))
def Bdn(R:Type)(k:Nat):Px R:=pxO [] [] [(2,An k Atm (Aqh))] []
def At6(k:Nat)(x:HV [Yk1,.str]):Ya1 (HV [Yc1]):=match x with
 |(cols,name)=>
 Aj (λa=>Aqh a (λe b=>match b with|(_,_,v6,_)=>match e with
  |.ret=>
  some v6
  |.exit 0=>
  some (-1)
  |_=>none)) k (cols,name,0,0)
theorem Bsg(k:Nat):FO 40 [Yk1,.str] [Yc1] (At6 k):=fR (px:=Bdn _ k) (n:=1) Tryz.func40 rfl (λcx H=>by have c:Lv cx (Bdn (HV [Yc1]) k):=lv H Ae Aa Ab;have a:=lO H c (b:=lp Tryz.f40 0) (k:=k) (n:=0) (s:=Atm) (step:=Aqh) (λ_ _ _ (_,_,_,_)=>by kernel_rfl) Ai;exact⟨c,(A4 Ai a)⟩) λ(_,_)=>by kernel_rfl
def Art(cols:Yb1 Col)(name:Str):Int:=B3 cols name
def Aph:FT [Yk1,.str] [Yc1]:=λx=>some (Art x.1 x.2)
theorem Axk:FO 40 [Yk1,.str] [Yc1] Aph:=.fin 0 Bsg λ(cols,s) r hb b=>⟨cols.length+1,by
 simp only[Aph,Za1,Art]at b;simp only[At6];refine(A3 cols.length (λi=>(cols,s,0,(i:Int))) (λi=>some (Bu (cols.drop i) s i)) (λi hi a d=>?_) (λa=>?_) _ 0 (Nat.zero_le _) (by omega)).trans (by rw[Zq1,<-b];rfl)
 ·simp only[Aqh,Cs hi,Af,Ao hi,chk,Al (c:=.col) hi,Am hi hb.1.1,d,Ak hi,Bu,Bool.cond_decide];split<;>rfl
 ·simp only[Aqh,C4,Ag];rw[Zk1 (Zn1 _)];rfl⟩
noncomputable section
def Akt:Sig:=⟨70,[(3,.int .i64),(6,.int .i64)],[(1,.ptr 0 0),(2,.ptr 1 0)],[(0,.one (.sv .stmt)),(1,.one (.sv .tbl))],2,0,0,[],[]⟩
abbrev Ul:=Int×Int×Stm×Tbl
def Tu{R:Type}(a:Ul->Ya1 R)(kx:Ex->Ul->Ya1 R)(v:Ul):Ya1 R:=match v with|(v6,v7,w2,w3)=>cond (decide (v7<(w2.l.length:Int))) (chk (inb v7 w2.l.length) ((A40 (at' .expr w2.l v7) w2.cols).bind λ(c,b)=>cond (!decide (b=0)) (kx .ret (b,v7,w2,(Tbl.mk [] [] [] [] []))) (cond (decide (2<c)) (kx .ret (151,v7,w2,(Tbl.mk [] [] [] [] []))) (a (v6,(wr .i64 (v7+1)),w2,w3))))) (kx (.exit 2) (v6,v7,w2,w3))
def Aj8:Sig:=⟨70,[(3,.int .i64),(5,.int .i64)],[(1,.ptr 0 0),(2,.ptr 1 0)],[(0,.one (.sv .stmt)),(1,.one (.sv .tbl))],2,0,0,[],[]⟩
abbrev Tq:=Int×Int×Stm×Tbl
def U4{R:Type}(a:Tq->Ya1 R)(kx:Ex->Tq->Ya1 R)(v:Tq):Ya1 R:=match v with|(v,v1,w,w1)=>cond (decide (v1<(w.names.length:Int))) (chk (inb v1 w.names.length) (cond (decide ((Art w.cols (at' .str w.names v1))<0)) (kx .ret (150,v1,w,(Tbl.mk [] [] [] [] []))) (a (v,(wr .i64 (v1+1)),w,w1)))) (kx (.exit 0) (v,v1,w,w1))
def A1b(R:Type)(k:Nat):Px R:=pxO [(78,cA Ayx),(40,cA Aph)] [(79,qA Azo)] [(5,An k Aj8 (U4)),(10,An k Akt (Tu))] []
def Z1(k:Nat)(x:HV [Yg1]):Ya1 (HV [Yh1,Yc1]):=match x with
 |s=>
 (Bmo s).bind λx=>
  cond (!decide (x=0)) (
  some ((Tbl.mk [] [] [] [] []),2)) (
  cond (!decide (s.kind=1)) (
   some ((Tbl.mk [] [] [] [] []),2)) (
   Aj (λc=>U4 c (λe d=>match d with|(v2,_,v4,v5)=>match e with
   |.ret=>some (v5,v2)
   |.exit 0=>
    Aj (λc=>Tu c (λe d=>match d with|(v8,_,a,b)=>match e with
    |.ret=>some (b,v8)
    |.exit 2=>some ((Tbl.mk a.name a.cols a.names a.l []),0)
    |_=>none)) k (v2,0,v4,v5)
   |_=>none)) k (0,0,s,(Tbl.mk [] [] [] [] []))))
theorem Blr(k:Nat):FO 42 [Yg1] [Yh1,Yc1] (Z1 k):=fR (px:=A1b _ k) (n:=2) Tryz.func42 rfl (λcx H=>by have d:Lv cx (A1b (HV [Yh1,Yc1]) k):=lv H (c1 H Bd9 (c1 H Axk Ae)) (q1 H Bq5 Aa) Ab;have a:=lO H d (b:=lp Tryz.f42 0) (k:=k) (n:=0) (s:=Aj8) (step:=U4) (λ_ _ _ (_,_,_,_)=>by kernel_rfl) Ai;have c:=lO H d (b:=lp Tryz.f42 1) (k:=k) (n:=0) (s:=Akt) (step:=Tu) (λ_ _ _ (_,_,_,_)=>by kernel_rfl) Ai;exact⟨d,(A4 (A4 Ai a) c)⟩) λ_=>by kernel_rfl
def A4z(s:Stm):Ya1 (Tbl×Int):=@ite _ (Few s) (Classical.propDecidable _) (some (Jj s)) none
def Ay1:FT [Yg1] [Yh1,Yc1]:=λx=>A4z x
variable{a:Ya1 R}{q:Tbl}
theorem Ayg{kx:Ex->Tq->Ya1 R}{b:Ya1 R}(e:ln s.names.length)(f:∀i:Nat,kx .ret (150,(i:Int),s,Gg)=a)(g:kx (.exit 0) (0,(s.names.length:Int),s,q)=b)(k:Nat)(j:s.names.length<k) :
  Aj (λd=>U4 d kx) k (0,0,s,q)=cond (s.names.all λx=> !decide (B3 s.cols x<0)) b a:=by
 refine(A3 s.names.length (λi=>(0,(i:Int),s,q)) (λi=>cond ((s.names.drop i).all λx=> !decide (B3 s.cols x<0)) b a) (λi hi d h=>?_) (λd=>?_) k 0 (Nat.zero_le _) (by omega)).trans (by rw[Zq1])
 ·simp only[U4,Cs hi,Ao hi,Al (c:=.str) hi,Am hi e,h,Ak hi,Zv1,Art];cases decide (B3 s.cols s.names[i]<0)with|true=>exact f i|false=>rfl
 ·simp only[U4,C4,g]
  grind
variable{g:Int->Ya1 R}
theorem Azu{kx:Ex->Ul->Ya1 R}{b:Ya1 R}(j:ln s.l.length)(hc:s.cols.all H8=true)(m:∀e,e∈s.l->A1 e<=900000)(d:∀p (i:Nat),kx .ret (p,(i:Int),s,Gg)=g p)(n:kx (.exit 2) (0,(s.l.length:Int),s,q)=b)(k:Nat)(f:s.l.length<k) :
  Aj (λa=>Tu a kx) k (0,0,s,q)=cond (decide (Hy s.cols s.l=0)) b (g (Hy s.cols s.l)):=by
 refine(A3 s.l.length (λi=>(0,(i:Int),s,q)) (λi=>cond (decide (Hy s.cols (s.l.drop i)=0)) b (g (Hy s.cols (s.l.drop i)))) (λi hi a o=>?_) (λa=>?_) k 0 (Nat.zero_le _) (by omega)).trans (by rw[Zq1])
 ·have f:A40 s.l[i] s.cols=some (Em s.l[i] s.cols):=by rw[A40,Ze1 (Bv8 (m _ (List.getElem_mem hi)))];rfl
  simp only[Tu,Cs hi,Ao hi,Al (c:=.expr) hi,f,Am hi j,o,Ak hi,Hy,Bvg hc];by_cases h:(Em s.l[i] s.cols).2=0
  ·simp[h,Af];cases decide (2<(Em s.l[i] s.cols).1)with|true=>exact d _ _|false=>rfl
  ·simp[Zd1 h,Ag];exact d _ _
 ·simp only[Tu,C4,n];rw[Zk1 (Zn1 _)];rfl
theorem Bxm(hb:BdStm s)(f:Few s){k:Nat}(h:s.names.length<k)(i:s.l.length<k):Z1 k s=some (Jj s):=by
 simp[Z1,Bfx f,Jj];cases c:Bn s with
 |false=>simp[Gg]
 |true=>
  by_cases d:s.kind=1
  ·have hc:s.cols.all H8=true:=by simp only[Bn,if_pos d,Zb1]at c;exact c.2.1.1.1.1.1
   simp[d,Af];refine(Ayg (a:=some (Gg,150)) (b:=cond (decide (Hy s.cols s.l=0)) (some (⟨s.name,s.cols,s.names,s.l,[]⟩,0)) (some (Gg,Hy s.cols s.l))) hb.names.1 (λ_=>rfl) ?_ _ h).trans ?_
   ·exact Azu (g:=λp=>some (Gg,p)) hb.l.1 hc (λe j=>by have:=Bi j;have:=f.l;omega) (λ_ _=>rfl) rfl _ i
   ·rw[Aw,Aw];rfl
  ·simp[d,Gg]
theorem Bnc:FO 42 [Yg1] [Yh1,Yc1] Ay1:=.fin 0 Blr λs r hb a=>⟨s.names.length+s.l.length+1,by
 simp only[Ay1,A4z]at a;split at a
 case isFalse=>cases a
 rename_i b;rw[<-a];exact Bxm hb b (by omega) (by omega)⟩
def Aho:Sig:=⟨33,[(4,.int .i64),(6,.int .i64)],[(2,.ptr 0 0),(3,.ptr 1 0)],[(0,.one (.sv .tbl)),(1,.one (.sv .idx))],2,0,0,[],[]⟩
abbrev X1:=Int×Int×Tbl×Idx
def Rl{R:Type}(a:X1->Ya1 R)(kx:Ex->X1->Ya1 R)(v:X1):Ya1 R:=match v with|(v,v1,w,w1)=>cond (decide (v1<(w1.cols.length:Int))) (chk (inb v1 w1.cols.length) (cond (decide ((Art w.cols (at' .str w1.cols v1))<0)) (kx .ret (150,v1,w,w1)) (a (v,(wr .i64 (v1+1)),w,w1)))) (kx (.exit 0) (v,v1,w,w1))
def Asg(R:Type)(k:Nat):Px R:=pxO [(78,cA Ayx),(40,cA Aph)] [] [(5,An k Aho (Rl))] []
def Agw(k:Nat)(x:HV [Yh1,.sv .idx]):Ya1 (HV [Yc1]):=match x with
 |(t,x)=>
 (Bmo (Stm.mk 3 x.name t.name [] x.cols [] [] [] false (Xpr.mk 0 ⟨0,0,[]⟩ [] []) [] [] 0)).bind λb=>
  cond (!decide (b=0)) (
  some 2) (
  Aj (λa=>Rl a (λe c=>match c with|(v2,_,_,_)=>match e with
   |.ret=>
   some v2
   |.exit 0=>
   some 0
   |_=>none)) k (0,0,t,x))
theorem Bbn(k:Nat):FO 44 [Yh1,.sv .idx] [Yc1] (Agw k):=fR (px:=Asg _ k) (n:=1) Tryz.func44 rfl (λcx H=>by have c:Lv cx (Asg (HV [Yc1]) k):=lv H (c1 H Bd9 (c1 H Axk Ae)) Aa Ab;have a:=lO H c (b:=lp Tryz.f44 0) (k:=k) (n:=0) (s:=Aho) (step:=Rl) (λ_ _ _ (_,_,_,_)=>by kernel_rfl) Ai;exact⟨c,(A4 Ai a)⟩) λ(_,_)=>by kernel_rfl
def Axu(t:Tbl)(x:Idx):Ya1 Int:=@ite _ (Few (B1 t x)) (Classical.propDecidable _) (some (cond (Bn (B1 t x)) (cond (Jz t x.cols) 0 150) 2)) none
def Amu:FT [Yh1,.sv .idx] [Yc1]:=λx=>Axu x.1 x.2
theorem Bkn:FO 44 [Yh1,.sv .idx] [Yc1] Amu:=.fin 0 Bbn λ(t,x) r hb a=>⟨x.cols.length+1,by
 simp only[Amu,Axu]at a;split at a
 case isFalse=>cases a
 rename_i d;rw[<-a];have e:Bmo (Stm.mk 3 x.name t.name [] x.cols [] [] [] false (Xpr.mk 0 ⟨0,0,[]⟩ [] []) [] [] 0)=some (cond (Bn (B1 t x)) 0 2):=Bfx d;simp only[Agw,e,Zc1];cases Bn (B1 t x)with
 |false=>rfl
 |true=>
  simp only[Af,decide_true,Zt1,Ag];refine(A3 x.cols.length (λi=>(0,(i:Int),t,x)) (λi=>some (cond (Jz t (x.cols.drop i)) 0 150)) (λi hi b f=>?_) (λb=>?_) _ 0 (Nat.zero_le _) (by omega)).trans (by rw[Zq1])
  ·simp only[Rl,Cs hi,Af,Ao hi,chk,Al (c:=.str) hi,Am hi hb.2.2.1,f,Ak hi,Jz,Zv1,Art];cases decide (B3 t.cols x.cols[i]<0)<;>rfl
  ·simp only[Rl,C4,Ag];rw[Zk1 (Zn1 _)];rfl⟩
structure FewR (t:Tbl):Prop where
 stm:Few (Ed t)
 idx:∀x,x∈t.idx->Few (B1 t x)
def Au5(l:Yb1 Idx):Nat->Ya1 Str|0=>none|i+1=>some (at' .idx l (i:Int)).name
def Ahe:Sig:=⟨57,[(2,.int .i64),(5,.int .i64)],[(1,.ptr 0 0)],[(0,.one (.sv .tbl))],1,0,0,[],[]⟩
abbrev Pt:=Int×Int×Tbl
def My{R:Type}(a:Pt->Ya1 R)(kx:Ex->Pt->Ya1 R)(v:Pt):Ya1 R:=match v with|(v,v1,w)=>cond (decide (v1<(w.idx.length:Int))) (chk (inb v1 w.idx.length) ((Axu w (at' .idx w.idx v1)).bind λb=>cond (!decide (b=0)) (kx .ret (2,v1,w)) (cond (decide (0<v1)) (chk (inb (wr .i64 (v1-1)) w.idx.length) (chk (inb v1 w.idx.length) (cond (!Op.bytesLess ((at' .idx w.idx (wr .i64 (v1-1))).name) ((at' .idx w.idx v1).name)) (kx .ret (2,v1,w)) (a (v,(wr .i64 (v1+1)),w))))) (a (v,(wr .i64 (v1+1)),w))))) (kx (.exit 0) (v,v1,w))
def Awe(R:Type)(k:Nat):Px R:=pxO [(43,cA Af1),(42,cA Ay1),(44,cA Amu)] [] [(5,An k Ahe (My))] []
def Aic(k:Nat)(x:HV [Yh1]):Ya1 (HV [Yc1]):=match x with
 |t=>
 (A4z (Ed t)).bind λ(_,b)=>
  cond (!decide (b=0)) (
  some 2) (
  cond (decide (100<(t.idx.length:Int))) (
   some 2) (
   Aj (λa=>My a (λe c=>match c with|(v2,_,_)=>match e with
   |.ret=>some v2
   |.exit 0=>some 0
   |_=>none)) k (0,0,t)))
theorem A8k(k:Nat):FO 17 [Yh1] [Yc1] (Aic k):=fR (px:=Awe _ k) (n:=1) Tryz.func17 rfl (λcx H=>by have c:Lv cx (Awe (HV [Yc1]) k):=lv H (c1 H Amj (c1 H Bnc (c1 H Bkn Ae))) Aa Ab;have a:=lO H c (b:=lp Tryz.f17 0) (k:=k) (n:=0) (s:=Ahe) (step:=My) (λ_ _ _ (_,_,_)=>by kernel_rfl) Ai;exact⟨c,(A4 Ai a)⟩) λ_=>by kernel_rfl
def Akk(t:Tbl):Ya1 Int:=@ite _ (FewR t) (Classical.propDecidable _) (some (cond (Ee t) 0 2)) none
def Ap7:FT [Yh1] [Yc1]:=λx=>Akk x
theorem Arn{kx:Ex->Pt->Ya1 R}{b:Ya1 R}(h:ln t.idx.length)(m:FewR t)(f:∀i:Nat,kx .ret (2,(i:Int),t)=a)(n:kx (.exit 0) (0,(t.idx.length:Int),t)=b)(k:Nat)(q:t.idx.length<k) :
  Aj (λd=>My d kx) k (0,0,t)=cond (Ari t none t.idx) b a:=by
 refine(A3 t.idx.length (λi=>(0,(i:Int),t)) (λi=>cond (Ari t (Au5 t.idx i) (t.idx.drop i)) b a) (λi hi d o=>?_) (λd=>?_) k 0 (Nat.zero_le _) (by omega)).trans (by rw[Zq1];rfl)
 ·have g:Axu t t.idx[i]=some (cond (Bn (B1 t t.idx[i])) (cond (Jz t t.idx[i].cols) 0 150) 2):=if_pos (m.idx _ (List.getElem_mem hi));have e:Au5 t.idx (i+1)=some t.idx[i].name:=by simp[Au5,Al (c:=.idx) hi]
  simp only[My,Cs hi,Af,Ao hi,chk,Al (c:=.idx) hi,g,Zc1,Am hi h,o,Ak hi,e];have ok:Jf t t.idx[i]=(Bn (B1 t t.idx[i])&&Jz t t.idx[i].cols):=rfl;cases i with
  |zero=>
   simp[Au5,Ari,ok];cases Bn (B1 t t.idx[0])with
   |false=>exact f 0
   |true=>cases Jz t t.idx[0].cols<;>first|exact f 0|rfl
  |succ j=>
   have l:j<t.idx.length:=by omega
   have p:wr .i64 (((j+1:Nat):Int)-1)=(j:Int):=by simp[ln]at h;rw[Be (by simp[inI];omega)];omega
   simp only[Au5,Ari,ok,Ze1 (show(0:Int)<((j+1:Nat):Int) by omega),Af,p,Ao l,Al (c:=.idx) l,B08];cases Bn (B1 t t.idx[j+1])with|false=>exact f _|true=>grind
 ·simp only[My,C4,Ag,n];rw[Zk1 (Zn1 _)];cases Au5 t.idx t.idx.length<;>rfl
theorem Bm8(h:Few s):A4z s=some (Jj s):=if_pos h
theorem Bhs:FO 17 [Yh1] [Yc1] Ap7:=.fin 0 A8k λt r hb c=>⟨t.idx.length+1,by
 simp only[Ap7,Akk]at c;split at c
 case isFalse=>cases c
 rename_i d;rw[<-c];have e:A4z (Ed t)=some (Jj (Fu t)):=Bm8 d.stm;simp only[Aic,e,Zc1,Ee];cases decide ((Jj (Fu t)).2=0)with
 |false=>rfl
 |true=>
  simp only[Zt1,Ag,Bool.true_and];have f:decide (100<(t.idx.length:Int)) = !decide (t.idx.length<=100):=by
   by_cases h:t.idx.length<=100
   ·rw[Ze1 h,Zd1 (by omega)];rfl
   ·rw[Zd1 h,Ze1 (by omega)];rfl
  rw[f];cases decide (t.idx.length<=100)with
  |false=>simp only[Zs1,Af,Bool.false_and,Bool.and_false];rfl
  |true=>simp only[Zt1,Ag,Bool.true_and];refine(Arn (a:=some 2) (b:=some 0) hb.idx.1 d (λ_=>rfl) rfl _ (by omega)).trans ?_;rw[Bm2,Aw]⟩
theorem Bjw(h:FewR t):Akk t=some (cond (Ee t) 0 2):=if_pos h
end
def Amh:Sig:=⟨47,[(1,.sl .val false),(6,.sl .val true),(7,.int .i64),(8,.sl .val true),(10,.str),(19,.sl .str false),(20,.int .i64),(21,.int .i64),(26,.sl .col false),(27,.int .i64),(28,.int .i64)],[(3,.ptr 0 0)],[(0,.one (.sv .tbl))],1,0,0,[],[]⟩
abbrev Vt:=Yb1 Val×Yb1 Val×Int×Yb1 Val×Str×Yb1 Str×Int×Int×Yb1 Col×Int×Int×Tbl
def Wg{R:Type}(i:Vt->Ya1 R)(kx:Ex->Vt->Ya1 R)(v:Vt):Ya1 R:=match v with|(v7,v8,v9,c,d,f,g,h,b,e,a,w1)=>cond (decide (a<e)) (chk (inb a b.length) (cond (decide (((at' .col b a).name)=d)) (chk (inb a v7.length) (chk (decide (c.length+1<=Ah)) (kx (.exit 1) (v7,v8,v9,(c++[(at' .val v7 a)]),d,f,g,h,b,e,a,w1)))) (i (v7,v8,v9,c,d,f,g,h,b,e,(wr .i64 (a+1)),w1)))) (kx (.exit 2) (v7,v8,v9,c,d,f,g,h,b,e,a,w1))
def Ald:Sig:=⟨47,[(1,.sl .val false),(6,.sl .val true),(7,.int .i64),(8,.sl .val true),(19,.sl .str false),(20,.int .i64),(21,.int .i64)],[(3,.ptr 0 0)],[(0,.one (.sv .tbl))],1,0,0,[],[]⟩
abbrev Ur:=Yb1 Val×Yb1 Val×Int×Yb1 Val×Yb1 Str×Int×Int×Tbl
def Tt{R:Type}(k:Nat)(j:Ur->Ya1 R)(kx:Ex->Ur->Ya1 R)(v:Ur):Ya1 R:=match v with
 |(v,v1,v2,v3,v4,v5,v6,w)=>
 cond (decide (v6<v5)) (
  chk (inb v6 v4.length) (
  Aj (λrc=>Wg rc (λe l=>match l with|(a,h,i,b,_,c,d,f,_,_,_,g)=>match e with
   |.exit 1=>
   j (a,h,i,b,c,d,(wr .i64 (f+1)),g)
   |.exit 2=>
   kx .ret (a,[],150,b,c,d,f,g)
   |_=>none)) k (v,v1,v2,v3,(at' .str v4 v6),v4,v5,v6,w.cols,(w.cols.length:Int),0,w))) (
  kx (.exit 0) (v,v1,v2,v3,v4,v5,v6,w))
def A7r(R:Type)(k:Nat):Px R:=pxO [] [] [(8,An k Amh (Wg)),(5,An k Ald (Tt k))] []
def Ak9(k:Nat)(x:HV [Yh1,Yj1,Yf1]):Ya1 (HV [.sl .val true,Yc1]):=match x with
 |(t,row,names)=>
 cond (!decide ((row.length:Int)=(t.cols.length:Int))) (
  some ([],2)) (
  Aj (λd=>Tt k d (λe f=>match f with|(_,a,b,c,_,_,_,_)=>match e with
  |.ret=>some (a,b)
  |.exit 0=>some (c,0)
  |_=>none)) k (row,[],0,[],names,(names.length:Int),0,t))
theorem Bjn(k:Nat):FO 57 [Yh1,Yj1,Yf1] [.sl .val true,Yc1] (Ak9 k):=fR (px:=A7r _ k) (n:=2) Tryz.func57 rfl (λcx H=>by have d:Lv cx (A7r (HV [.sl .val true,Yc1]) k):=lv H Ae Aa Ab;have a:=lO H d (b:=lpC (lp Tryz.f57 0) 0) (k:=k) (n:=0) (s:=Amh) (step:=Wg) (λ_ _ _ (_,_,_,_,_,_,_,_,_,_,_,_)=>by kernel_rfl) Ai;have c:=lO H d (b:=lp Tryz.f57 0) (k:=k) (n:=1) (s:=Ald) (step:=Tt k) (λ_ _ _ (_,_,_,_,_,_,_,_)=>by kernel_rfl) (A4 Ai a);exact⟨d,(A4 (A4 Ai c) a)⟩) λ(_,_,_)=>by kernel_rfl
def Aqx(t:Tbl)(row:Yb1 Val)(names:Yb1 Str):Ya1 (Yb1 Val×Int):=cond (decide (names.length<=2000000)) (some (cond (decide (row.length=t.cols.length)) (Bg t.cols row names []) ([],2))) none
def Ayj:FT [Yh1,Yj1,Yf1] [.sl .val true,Yc1]:=λx=>Aqx x.1 x.2.1 x.2.2
variable{g:Int->Ya1 R}{names:Yb1 Str}{row:Yb1 Val}
theorem Ayh{kx:Ex->Vt->Ya1 R}{d acc:Yb1 Val}{e n i:Int}{s:Str}(h:ln t.cols.length)(p:row.length=t.cols.length)(q:acc.length+1<=Ah)(l:∀j:Nat,kx (.exit 1) (row,d,e,acc++[at' .val row (j:Int)],s,names,n,i,t.cols,(t.cols.length:Int),(j:Int),t)=g j)(m:kx (.exit 2) (row,d,e,acc,s,names,n,i,t.cols,(t.cols.length:Int),(t.cols.length:Int),t)=g (-1))(k:Nat)(r:t.cols.length<k) :
  Aj (λa=>Wg a kx) k (row,d,e,acc,s,names,n,i,t.cols,(t.cols.length:Int),0,t)=g (B3 t.cols s):=by
 refine(A3 t.cols.length (λj=>(row,d,e,acc,s,names,n,i,t.cols,(t.cols.length:Int),(j:Int),t)) (λj=>g (Bu (t.cols.drop j) s j)) (λj b a o=>?_) (λa=>?_) k 0 (Nat.zero_le _) (by omega)).trans (by rw[Zq1];rfl)
 ·have f:j<row.length:=by omega
  simp only[Wg,Cs b,Ao b,Ao f,chk,Al (c:=.col) b,Am b h,o,l,Ak b,Bu,Bool.cond_decide];split<;>rfl
 ·simp only[Wg,C4,m];rw[Zk1 (Zn1 _)];rfl
theorem Azi{kx:Ex->Ur->Ya1 R}{c:Yb1 Val×Int->Ya1 R}(d:ln t.cols.length)(e:row.length=t.cols.length)(l:names.length<=2000000)(k:Nat)(hc:t.cols.length<k)(f:∀acc i,kx .ret (row,[],150,acc,names,(names.length:Int),i,t)=c ([],150))(h:∀acc,kx (.exit 0) (row,[],0,acc,names,(names.length:Int),(names.length:Int),t)=c (acc,0))(m:names.length<k) :
  Aj (λa=>Tt k a kx) k (row,[],0,[],names,(names.length:Int),0,t)=c (Bg t.cols row names []):=by
 have b:ln names.length:=by simp[ln];omega
 refine(Cb names.length (λi acc=>(row,[],0,acc,names,(names.length:Int),(i:Int),t)) (λi acc=>acc.length=i) (λi acc=>c (Bg t.cols row (names.drop i) acc)) (λi hi acc n a o=>?_) (λacc _ a=>?_) k 0 [] (Nat.zero_le _) (by omega) rfl).trans (by rw[Zq1])
 ·simp only[Tt,Cs hi,Ao hi,Al (c:=.str) hi,Ak hi,Bg];refine(Ayh (g:=λq=>cond (decide (q<0)) (c ([],150)) (a (row,[],0,acc++[at' .val row q],names,(names.length:Int),((i+1:Nat):Int),t))) d e (by simp[Ah];omega) (λj=>?_) ?_ k hc).trans ?_
  ·simp[Am hi b,Zd1 (show ¬(j:Int)<0 by omega)]
  ·exact f _ _
  ·grind
 ·simp only[Tt,C4,h];rw[Zk1 (Zn1 _)];rfl
theorem Buw:FO 57 [Yh1,Yj1,Yf1] [.sl .val true,Yc1] Ayj:=.fin 0 Bjn λ(t,row,names) r hb a=>⟨t.cols.length+names.length+1,by
 simp only[Ayj,Aqx]at a;cases b:decide (names.length<=2000000)with
 |false=>rw[b]at a;cases a
 |true=>
  rw[b]at a;simp only[Af,Za1]at a;rw[<-a];simp only[Ak9];by_cases d:row.length=t.cols.length
  ·rw[Ze1 d,Ze1 (show(row.length:Int)=(t.cols.length:Int) by omega)];exact Azi (c:=some) hb.1.cols.1 d (of_decide_eq_true b) _ (by omega) (λ_ _=>rfl) (λ_=>rfl) (by omega)
  ·rw[Zd1 d,Zd1 (show ¬(row.length:Int)=(t.cols.length:Int) by omega)];rfl⟩
noncomputable section
end
def Brn(R:Type):Px R:=pxO [] [] [] []
def Yp(x:HV [.str]):Ya1 (HV [Yi1]):=match x with|s=>some (Val.mk 4 0 s)
theorem Bm0:FO 75 [.str] [Yi1] (Yp):=fR (px:=Brn _) (n:=0) Tryz.func75 rfl (λ_ H=>⟨lv H Ae Aa Ab,Ai⟩) λ_=>by kernel_rfl
def A2p(s:Str):Val:=(Val.mk 4 0 s)
theorem Bjx(x:HV [.str]):Yp x=some (A2p x):=by
 first
  |exact rfl
  |simp only[Yp,A2p,Aw]
def Bg0:FT [.str] [Yi1]:=λx=>some (A2p x)
theorem Box:FO 75 [.str] [Yi1] Bg0:=.fin0 Bm0 λx _ _ a=>(Bjx x).trans a
def Agy:Sig:=⟨19,[(3,.sl .val true),(6,.sl .str false),(7,.int .i64),(8,.int .i64)],[],[],0,0,0,[],[]⟩
abbrev Zc:=Yb1 Val×Yb1 Str×Int×Int
def S3{R:Type}(a:Zc->Ya1 R)(kx:Ex->Zc->Ya1 R)(v:Zc):Ya1 R:=match v with|(v,v1,v2,v3)=>cond (decide (v3<v2)) (chk (inb v3 v1.length) (chk (decide (v.length+1<=Ah)) (a ((v++[(A2p (at' .str v1 v3))]),v1,v2,(wr .i64 (v3+1)))))) (kx (.exit 0) (v,v1,v2,v3))
def Au1(R:Type)(k:Nat):Px R:=pxO [(75,cA Bg0)] [] [(3,An k Agy (S3))] []
def Lw(k:Nat)(x:HV [Yf1]):Ya1 (HV [.sl .val true]):=match x with
 |l=>
 Aj (λa=>S3 a (λe b=>match b with|(v4,_,_,_)=>match e with
  |.exit 0=>
  some v4
  |_=>none)) k ([],l,(l.length:Int),0)
theorem Bb1(k:Nat):FO 36 [Yf1] [.sl .val true] (Lw k):=fR (px:=Au1 _ k) (n:=1) Tryz.func36 rfl (λcx H=>by have c:Lv cx (Au1 (HV [.sl .val true]) k):=lv H (c1 H Box Ae) Aa Ab;have a:=lO H c (b:=lp Tryz.f36 0) (k:=k) (n:=0) (s:=Agy) (step:=S3) (λ_ _ _ (_,_,_,_)=>by kernel_rfl) Ai;exact⟨c,(A4 Ai a)⟩) λ_=>by kernel_rfl
def Ia(l:Yb1 Str):Ya1 (Yb1 Val):=Lw 5000 l
def Ms:FT [Yf1] [.sl .val true]:=λx=>Ia x
theorem Mt:FO 36 [Yf1] [.sl .val true] Ms:=.fin 0 Bb1 λ_ _ _ a=>⟨5000,a⟩
def Aui:Sig:=⟨36,[(6,.sl .val true),(25,.sl .vals false),(26,.int .i64),(27,.int .i64)],[],[],0,0,0,[],[]⟩
abbrev An8:=Yb1 Val×Yb1 (Yb1 Val)×Int×Int
def Aly{R:Type}(e:An8->Ya1 R)(kx:Ex->An8->Ya1 R)(v:An8):Ya1 R:=match v with|(c,b,d,a)=>cond (decide (a<d)) (chk (inb a b.length) (chk (decide (c.length+(at' .vals b a).length<=Ah)) (e ((c++(at' .vals b a)),b,d,(wr .i64 (a+1)))))) (kx (.exit 2) (c,b,d,a))
def Aub:Sig:=⟨36,[(0,.sl .vals false),(3,.int .i64),(9,.sl .vals false),(10,.int .i64),(11,.int .i64)],[],[],0,0,0,[],[]⟩
abbrev Aqr:=Yb1 (Yb1 Val)×Int×Yb1 (Yb1 Val)×Int×Int
def Aj2{R:Type}(a:Aqr->Ya1 R)(kx:Ex->Aqr->Ya1 R)(v:Aqr):Ya1 R:=match v with|(v,v1,v2,v3,v4)=>cond (decide (v4<v3)) (chk (inb v4 v2.length) (cond (decide ((wr .i64 (v1+((at' .vals v2 v4).length:Int)))<0)) (none) (a (v,(wr .i64 (v1+((at' .vals v2 v4).length:Int))),v2,v3,(wr .i64 (v4+1)))))) (kx (.exit 0) (v,v1,v2,v3,v4))
def Bd7(R:Type)(k:Nat):Px R:=pxO [(113,Aao .val)] [] [(3,An k Aub (Aj2)),(11,An k Aui (Aly))] []
def U6(k:Nat)(x:HV [.sl .vals false]):Ya1 (HV [.sl .val true]):=match x with
 |l=>
 Aj (λb=>Aj2 b (λe c=>match c with|(v5,v6,_,_,_)=>match e with
  |.exit 0=>
  chk (decide ((0:Int)<=v6)&&decide (v6<=(2000000:Int))) (
   Aj (λb=>Aly b (λe c=>match c with|(a,_,_,_)=>match e with
   |.exit 2=>some a
   |_=>none)) k ([],v5,(v5.length:Int),0))
  |_=>none)) k (l,0,l,(l.length:Int),0)
theorem Buz(k:Nat):FO 74 [.sl .vals false] [.sl .val true] (U6 k):=fR (px:=Bd7 _ k) (n:=2) Tryz.func74 rfl (λcx H=>by have d:Lv cx (Bd7 (HV [.sl .val true]) k):=lv H (As (Aw7 H Ak7) Ae) Aa Ab;have a:=lO H d (b:=lp Tryz.f74 0) (k:=k) (n:=0) (s:=Aub) (step:=Aj2) (λ_ _ _ (_,_,_,_,_)=>by kernel_rfl) Ai;have c:=lO H d (b:=lp Tryz.f74 1) (k:=k) (n:=0) (s:=Aui) (step:=Aly) (λ_ _ _ (_,_,_,_)=>by kernel_rfl) Ai;exact⟨d,(A4 (A4 Ai a) c)⟩) λ_=>by kernel_rfl
def B29(l:Yb1 (Yb1 Val)):Ya1 (Yb1 Val):=U6 5000 l
def Bqu:FT [.sl .vals false] [.sl .val true]:=λx=>B29 x
theorem Bxj:FO 74 [.sl .vals false] [.sl .val true] Bqu:=.fin 0 Buz λ_ _ _ a=>⟨5000,a⟩
def B1b(R:Type):Px R:=pxO [(74,cA Bqu),(45,cA Ayt)] [] [] []
def Aeo(x:HV [.sl .vals false]):Ya1 (HV [.sl .byte true,Yc1]):=match x with|l=>(B29 l).bind λx=>(A20 x).bind λ(a,b)=>some (a,b)
theorem Bo8:FO 35 [.sl .vals false] [.sl .byte true,Yc1] (Aeo):=fR (px:=B1b _) (n:=0) Tryz.func35 rfl (λ_ H=>⟨lv H (c1 H Bxj (c1 H Bck Ae)) Aa Ab,Ai⟩) λ_=>by kernel_rfl
def W2(l:Yb1 (Yb1 Val)):Ya1 (Str×Int):=Aeo l
def Ad4:FT [.sl .vals false] [.sl .byte true,Yc1]:=λx=>W2 x
theorem Adb:FO 35 [.sl .vals false] [.sl .byte true,Yc1] Ad4:=.fin0 Bo8 λ_ _ _ a=>a
def Al5:Sig:=⟨126,[(1,.sl .val false),(8,.sl .val true),(16,.sl .byte true),(71,.sl .col false),(72,.int .i64),(73,.int .i64)],[(2,.ptr 0 0),(4,.ptr 1 0),(5,.ptr 2 0),(6,.ptr 3 0),(7,.ptr 4 0)],[(0,.one (.sv .tbl)),(1,.cells [.sl .kv true,Yc1]),(2,.cells [.sl .kv true,Yc1]),(3,.cells [.sl .kv true,Yc1]),(4,.cells [.sl .kv true,Yc1])],5,0,0,[],[]⟩
abbrev U7:=Yb1 Val×Yb1 Val×Yb1 UInt8×Yb1 Col×Int×Int×Tbl×Yb1 KvS×Int×Yb1 KvS×Int×Yb1 KvS×Int×Yb1 KvS×Int
def Oy{R:Type}(z:U7->Ya1 R)(kx:Ex->U7->Ya1 R)(v:U7):Ya1 R:=match v with
 |(b,g,d,c,h,a,w9,i,w11,j,k,e,l,f,m)=>
 cond (decide (a<h)) (
  chk (inb a c.length) (
  chk (inb a b.length) (
   cond (decide ((at' .val b a).kind=1)) (
   z (b,g,d,c,h,(wr .i64 (a+1)),w9,i,w11,j,k,e,l,f,m)) (
   let j3:=λ(n:Yb1 KvS) (o:Int)=>
    cond (!decide (((at' .col c a).ref)=[])) (
    (Ia [[102],((at' .col c a).ref)]).bind λt=>
     chk (upto a (wr .i64 (a+1)) b.length) (
     (Ia [w9.name,((at' .col c a).name)]).bind λu=>
      (W2 [t,(cut b a (wr .i64 (a+1))),u,g]).bind λ(p,q)=>
      let j2:=λ(w:Int)=>
       cond (decide (m=0)) (
       chk (decide (f.length+1<=Ah)) (
        z (b,g,d,c,h,(wr .i64 (a+1)),w9,i,w11,j,k,n,o,(f++[(KvS.mk p [])]),w))) (
       chk (decide (f.length+1<=Ah)) (
        z (b,g,d,c,h,(wr .i64 (a+1)),w9,i,w11,j,k,n,o,(f++[(KvS.mk p [])]),m)))
      cond (decide (q=0)) (
       cond (decide (200<(p.length:Int))) (
       j2 3) (
       j2 q)) (
       j2 q))) (
    z (b,g,d,c,h,(wr .i64 (a+1)),w9,i,w11,j,k,n,o,f,m))
   cond ((at' .col c a).unique) (
    (Ia [[117],w9.name,((at' .col c a).name)]).bind λx=>
    chk (upto a (wr .i64 (a+1)) b.length) (
     (W2 [x,(cut b a (wr .i64 (a+1)))]).bind λ(r,s)=>
     let j1:=λ(y:Int)=>
      cond (decide (l=0)) (
      chk (decide (e.length+1<=Ah)) (
       j3 (e++[(KvS.mk r d)]) y)) (
      chk (decide (e.length+1<=Ah)) (
       j3 (e++[(KvS.mk r d)]) l))
     cond (decide (s=0)) (
      cond (decide (200<(r.length:Int))) (
      j1 3) (
      cond (decide (4000<(d.length:Int))) (
       j1 3) (
       j1 s))) (
      j1 s))) (
    j3 e l))))) (
  kx (.exit 2) (b,g,d,c,h,a,w9,i,w11,j,k,e,l,f,m))
def Apm:Sig:=⟨126,[(1,.sl .val false),(8,.sl .val true),(42,.sl .idx false),(43,.int .i64),(44,.int .i64)],[(2,.ptr 0 0),(4,.ptr 1 0),(5,.ptr 2 0),(6,.ptr 3 0),(7,.ptr 4 0)],[(0,.one (.sv .tbl)),(1,.cells [.sl .kv true,Yc1]),(2,.cells [.sl .kv true,Yc1]),(3,.cells [.sl .kv true,Yc1]),(4,.cells [.sl .kv true,Yc1])],5,0,0,[],[]⟩
abbrev We:=Yb1 Val×Yb1 Val×Yb1 Idx×Int×Int×Tbl×Yb1 KvS×Int×Yb1 KvS×Int×Yb1 KvS×Int×Yb1 KvS×Int
def Pm{R:Type}(c:We->Ya1 R)(kx:Ex->We->Ya1 R)(v:We):Ya1 R:=match v with
 |(v,v1,v2,v3,v4,w,w1,w2,w3,w4,w5,w6,w7,w8)=>
 cond (decide (v4<v3)) (
  chk (inb v4 v2.length) (
  (Aqx w v ((at' .idx v2 v4).cols)).bind λ(d,_)=>
   (Ia [[105],((at' .idx v2 v4).name)]).bind λe=>
   (W2 [e,d,v1]).bind λ(a,b)=>
    let j:=λ(f:Int)=>
    cond (decide (w4=0)) (
     chk (decide (w3.length+1<=Ah)) (
     c (v,v1,v2,v3,(wr .i64 (v4+1)),w,w1,w2,(w3++[(KvS.mk a [])]),f,w5,w6,w7,w8))) (
     chk (decide (w3.length+1<=Ah)) (
     c (v,v1,v2,v3,(wr .i64 (v4+1)),w,w1,w2,(w3++[(KvS.mk a [])]),w4,w5,w6,w7,w8)))
    cond (decide (b=0)) (
    cond (decide (200<(a.length:Int))) (
     j 3) (
     j b)) (
    j b))) (
  kx (.exit 0) (v,v1,v2,v3,v4,w,w1,w2,w3,w4,w5,w6,w7,w8))
def Apk(R:Type)(_k:Nat):Px R:=pxO [(35,cA Ad4)] [] [] []
def Aqc(R:Type)(_k:Nat):Px R:=pxO [(35,cA Ad4)] [] [] []
noncomputable def A4t(R:Type)(k:Nat):Px R:=pxO [(57,cA Ayj),(58,cA Bn1),(36,cA Ms),(59,Uy 40 200 (Apk R k) Tryz.f59 (A0 40 400 (Aqc R k) Tryz.f59))] [(36,qA Ms)] [(5,An k Apm (Pm)),(12,An k Al5 (Oy))] []
def Qn(k:Nat)(x:HV [Yh1,Yj1]):Ya1 (HV [.sv .lay,.sv .lay,.sv .lay,.sv .lay]):=match x with
 |(t,r)=>
 (Aqx t r t.key).bind λ(x,_)=>
  (A39 r).bind λ(x2,_)=>
  (Ia [[114],t.name]).bind λx4=>
   (W2 [x4,x]).bind λ(x5,z)=>
   let y:=λ(q6:Int)=>
    Aj (λw=>Pm w (λe vz=>match vz with|(v5,v6,_,_,_,a,b,c,d,f,g,h,i,j)=>match e with
    |.exit 0=>
     (A39 v6).bind λ(l,_)=>
     Aj (λw=>Oy w (λe vz=>match vz with|(_,_,_,_,_,_,_,m,n,o,p,q,s,u,v)=>match e with
      |.exit 2=>
      some ((LayS.mk m n),(LayS.mk o p),(LayS.mk q s),(LayS.mk u v))
      |_=>none)) k (v5,v6,l,a.cols,(a.cols.length:Int),0,a,b,c,d,f,g,h,i,j)
    |_=>none)) k (r,x,t.idx,(t.idx.length:Int),0,t,[(KvS.mk x5 x2)],q6,[],0,[],0,[],0)
   cond (decide (z=0)) (
    cond (decide (200<(x5.length:Int))) (
    y 3) (
    cond (decide (4000<(x2.length:Int))) (
     y 3) (
     y z))) (
    y z)
theorem Bj7(k:Nat):FO 26 [Yh1,Yj1] [.sv .lay,.sv .lay,.sv .lay,.sv .lay] (Qn k):=fR (px:=A4t _ k) (n:=2) Tryz.func26 rfl (λcx H=>by have e:Lv cx (Apk (HV [.sv .lay,.sv .lay,.sv .lay,.sv .lay]) k):=lv H (c1 H Adb Ae) Aa Ab;have f:Lv cx (Aqc (HV [.sv .lay,.sv .lay,.sv .lay,.sv .lay]) k):=lv H (c1 H Adb Ae) Aa Ab;have d:Lv cx (A4t (HV [.sv .lay,.sv .lay,.sv .lay,.sv .lay]) k):=lv H (c1 H Buw (c1 H B04 (c1 H Mt (As (A5z (cR H e Tryz.func59 rfl (n:=0) (Ai)) (cR H f Tryz.func59 rfl (n:=0) (Ai))) Ae)))) (q1 H Mt Aa) Ab;have a:=lO H d (b:=lp Tryz.f26 0) (k:=k) (n:=0) (s:=Apm) (step:=Pm) (λ_ _ _ (_,_,_,_,_,_,_,_,_,_,_,_,_,_)=>by kernel_rfl) Ai;have c:=lO H d (b:=lp Tryz.f26 1) (k:=k) (n:=0) (s:=Al5) (step:=Oy) (λ_ _ _ (_,_,_,_,_,_,_,_,_,_,_,_,_,_,_)=>by kernel_rfl) Ai;exact⟨d,(A4 (A4 Ai a) c)⟩) λ(_,_)=>by kernel_rfl
def A2d(t:Tbl)(r:Yb1 Val):Ya1 (LayS×LayS×LayS×LayS):=Qn 5000 (t,r)
def Ayr:FT [Yh1,Yj1] [.sv .lay,.sv .lay,.sv .lay,.sv .lay]:=λx=>A2d x.1 x.2
theorem A2z:FO 26 [Yh1,Yj1] [.sv .lay,.sv .lay,.sv .lay,.sv .lay] Ayr:=.fin 0 Bj7 λ_ _ _ a=>⟨5000,a⟩
def Ate:Sig:=⟨49,[(4,.sl .kv true),(5,.int .i64),(7,.sl .kv true),(32,.sl .lay true),(33,.int .i64),(34,.int .i64)],[],[],0,0,0,[],[]⟩
abbrev Ac1:=Yb1 KvS×Int×Yb1 KvS×Yb1 LayS×Int×Int
def Afa{R:Type}(a:Ac1->Ya1 R)(kx:Ex->Ac1->Ya1 R)(v:Ac1):Ya1 R:=match v with|(v,v1,v2,v3,v4,v5)=>cond (decide (v5<v4)) (chk (inb v5 v3.length) (cond (!decide ((at' .lay v3 v5).e=0)) (kx .ret ([],(at' .lay v3 v5).e,v2,v3,v4,v5)) (chk (decide (v2.length+((at' .lay v3 v5).l).length<=Ah)) (a (v,v1,(v2++((at' .lay v3 v5).l)),v3,v4,(wr .i64 (v5+1))))))) (kx (.exit 0) (v,v1,v2,v3,v4,v5))
def Bdq(R:Type)(k:Nat):Px R:=pxO [(25,cA Axx),(26,cA Ayr)] [] [(7,An k Ate (Afa))] []
def T9(k:Nat)(x:HV [Yh1,Yj1]):Ya1 (HV [.sl .kv true,Yc1]):=match x with
 |(t,r)=>
 (Qt t r).bind λx=>
  cond (!decide (x=0)) (
  some ([],x)) (
  (A2d t r).bind λ(b,c,d,f)=>
   Aj (λa=>Afa a (λe g=>match g with|(v6,v7,v8,_,_,_)=>match e with
   |.ret=>some (v6,v7)
   |.exit 0=>some (v8,0)
   |_=>none)) k ([],0,[],[b,c,d,f],4,0))
theorem Btq(k:Nat):FO 9 [Yh1,Yj1] [.sl .kv true,Yc1] (T9 k):=fR (px:=Bdq _ k) (n:=1) Tryz.func9 rfl (λcx H=>by have c:Lv cx (Bdq (HV [.sl .kv true,Yc1]) k):=lv H (c1 H A60 (c1 H A2z Ae)) Aa Ab;have a:=lO H c (b:=lp Tryz.f9 0) (k:=k) (n:=0) (s:=Ate) (step:=Afa) (λ_ _ _ (_,_,_,_,_,_)=>by kernel_rfl) Ai;exact⟨c,(A4 Ai a)⟩) λ(_,_)=>by kernel_rfl
def B2o(t:Tbl)(r:Yb1 Val):Ya1 (Yb1 KvS×Int):=T9 5000 (t,r)
def Bq7:FT [Yh1,Yj1] [.sl .kv true,Yc1]:=λx=>B2o x.1 x.2
theorem Bwr:FO 9 [Yh1,Yj1] [.sl .kv true,Yc1] Bq7:=.fin 0 Btq λ_ _ _ a=>⟨5000,a⟩
def Av0:Sig:=⟨59,[(1,.int .i64),(4,.int .u64),(5,.int .i64),(6,.int .i64),(7,.int .u64),(8,.int .i64),(21,.sl .byte false),(22,.int .i64),(23,.int .i64)],[],[],0,0,0,[],[]⟩
abbrev Rz:=Int×Int×Int×Int×Int×Int×Yb1 UInt8×Int×Int
def Pd{R:Type}(a:Rz->Ya1 R)(kx:Ex->Rz->Ya1 R)(v:Rz):Ya1 R:=match v with
 |(v,v1,v2,v3,v4,v5,v6,v7,v8)=>
 cond (decide (v8<v7)) (
  chk (inb v8 v6.length) (
  let b:=λ(_:Unit)=>
   chk (decide (0<=(wr .i64 (7*v8)))) (
   cond (decide (((at' .byte v6 v8).toNat:Int)<128)) (
    kx .ret (v,(ior .u64 v4 (W0 .u64 (wr .u64 (Ht .u8 ((at' .byte v6 v8).toNat:Int) 127)) (wr .i64 (7*v8)))),(wr .i64 ((wr .i64 (v+v8))+1)),0,(ior .u64 v4 (W0 .u64 (wr .u64 (Ht .u8 ((at' .byte v6 v8).toNat:Int) 127)) (wr .i64 (7*v8)))),v5,v6,v7,v8)) (
    a (v,v1,v2,v3,(ior .u64 v4 (W0 .u64 (wr .u64 (Ht .u8 ((at' .byte v6 v8).toNat:Int) 127)) (wr .i64 (7*v8)))),v5,v6,v7,(wr .i64 (v8+1)))))
  let j:=λ(p4:Bool)=>
   cond (p4) (
   kx (.exit 0) (v,v1,v2,v3,v4,11,v6,v7,v8)) (
   cond (decide (((at' .byte v6 v8).toNat:Int)=0)) (
    cond (decide (0<v8)) (
    kx (.exit 0) (v,v1,v2,v3,v4,11,v6,v7,v8)) (
    b ())) (
    b ()))
  cond (decide (v8=9)) (
   j (decide (1<((at' .byte v6 v8).toNat:Int)))) (
   j false))) (
  kx (.exit 0) (v,v1,v2,v3,v4,v5,v6,v7,v8))
def Bfw(R:Type)(k:Nat):Px R:=pxO [] [] [(6,An k Av0 (Pd))] []
def Afg(k:Nat)(x:HV [Yl1,Yc1]):Ya1 (HV [.int .u64,Yc1,Yc1]):=match x with
 |(b,p)=>
 cond (decide (p<0)) (
  some (0,0,2)) (
  cond (decide ((b.length:Int)<p)) (
  some (0,0,2)) (
  chk (upto p b.length b.length) (
   Aj (λg=>Pd g (λe h=>match h with|(_,a,c,d,_,f,_,_,_)=>match e with
   |.ret=>some (a,c,d)
   |.exit 0=>some (0,0,f)
   |_=>none)) k (p,0,0,0,0,10,(b.drop (p:Int).toNat),((b.drop (p:Int).toNat).length:Int),0))))
theorem Bt9(k:Nat):FO 116 [Yl1,Yc1] [.int .u64,Yc1,Yc1] (Afg k):=fR (px:=Bfw _ k) (n:=1) Tryz.func116 rfl (λcx H=>by have c:Lv cx (Bfw (HV [.int .u64,Yc1,Yc1]) k):=lv H Ae Aa Ab;have a:=lO H c (b:=lp Tryz.f116 0) (k:=k) (n:=0) (s:=Av0) (step:=Pd) (λ_ _ _ (_,_,_,_,_,_,_,_,_)=>by kernel_rfl) Ai;exact⟨c,(A4 Ai a)⟩) λ(_,_)=>by kernel_rfl
def Ar0(b:Str)(p:Int):Ya1 (Int×Int×Int):=Afg 100 (b,p)
def Adz:FT [Yl1,Yc1] [.int .u64,Yc1,Yc1]:=λx=>Ar0 x.1 x.2
theorem Acj:FO 116 [Yl1,Yc1] [.int .u64,Yc1,Yc1] Adz:=.fin 0 Bt9 λ_ _ _ a=>⟨100,a⟩
def Bnu(R:Type):Px R:=pxO [(116,cA Adz)] [] [] []
def X4(x:HV [Yl1,Yc1]):Ya1 (HV [.sl .byte true,Yc1,Yc1]):=match x with|(b,p)=>(Ar0 b p).bind λ(x,a,c)=>cond (!decide (c=0)) (some ([],0,c)) (cond (decide (1048576<x)) (some ([],0,3)) (cond (decide ((wr .u64 (wr .i64 ((b.length:Int)-a)))<x)) (some ([],0,10)) (chk (upto a (wr .i64 (a+(wr .i64 x))) b.length) (chk (decide (0+(cut b a (wr .i64 (a+(wr .i64 x)))).length<=Ah)) (some (([]++(cut b a (wr .i64 (a+(wr .i64 x))))),(wr .i64 (a+(wr .i64 x))),0))))))
theorem Bly:FO 206 [Yl1,Yc1] [.sl .byte true,Yc1,Yc1] (X4):=fR (px:=Bnu _) (n:=0) Tryz.func206 rfl (λ_ H=>⟨lv H (c1 H Acj Ae) Aa Ab,Ai⟩) λ(_,_)=>by kernel_rfl
def Bdz(b:Str)(p:Int):Ya1 (Str×Int×Int):=X4 (b,p)
def Bgt:FT [Yl1,Yc1] [.sl .byte true,Yc1,Yc1]:=λx=>Bdz x.1 x.2
theorem Bn3:FO 206 [Yl1,Yc1] [.sl .byte true,Yc1,Yc1] Bgt:=.fin0 Bly λ_ _ _ a=>a
def Bn6(R:Type):Px R:=pxO [(116,cA Adz)] [] [] []
def Ym(x:HV [Yl1,Yc1]):Ya1 (HV [Yc1,Yc1,Yc1]):=match x with|(b,p)=>(Ar0 b p).bind λ(x,a,c)=>some ((Qg .i64 (wr .i64 (Ek .u64 x 1)) (wr .i64 (0-(wr .i64 (Ht .u64 x 1))))),a,c)
theorem Bj1:FO 205 [Yl1,Yc1] [Yc1,Yc1,Yc1] (Ym):=fR (px:=Bn6 _) (n:=0) Tryz.func205 rfl (λ_ H=>⟨lv H (c1 H Acj Ae) Aa Ab,Ai⟩) λ(_,_)=>by kernel_rfl
def Bcu(b:Str)(p:Int):Ya1 (Int×Int×Int):=Ym (b,p)
def Bcq:FT [Yl1,Yc1] [Yc1,Yc1,Yc1]:=λx=>Bcu x.1 x.2
theorem Bpc:FO 205 [Yl1,Yc1] [Yc1,Yc1,Yc1] Bcq:=.fin0 Bj1 λ_ _ _ a=>a
def Azk:Sig:=⟨1,[],[(0,.ptr 0 0)],[(0,.cells [Yl1,Yc1,Yc1])],1,1,0,[],[]⟩
def Axm:Sig:=⟨1,[(0,.int .u8)],[],[(0,.cells [Yl1,Yc1,Yc1])],1,1,0,[],[]⟩
abbrev Brz:=Yb1 UInt8×Int×Int
abbrev Brp:=Int×Yb1 UInt8×Int×Int
def Bzz(R:Type):Px R:=pxO [] [] [] []
def Aeg(x:Brz):Ya1 (Brp):=match x with|(b,p,e)=>cond (decide (p=(b.length:Int))) (some (0,b,p,10)) (chk (inb (wr .i64 ((wr .i64 (p+1))-1)) b.length) (some (((at' .byte b (wr .i64 ((wr .i64 (p+1))-1))).toNat:Int),b,(wr .i64 (p+1)),e)))
theorem Boy:FM 159 Azk Axm (Aeg):=fRL (px:=Bzz _) (n:=0) Tryz.func159 rfl (λ_ H=>⟨lv H Ae Aa Ab,Ai⟩) λ(_,_,_)=>by kernel_rfl
def Q3:Brz->Ya1 Brp:=λx=>Aeg x
theorem Bxy:FM 159 Azk Axm (Q3):=Boy
def Xz:Sig:=⟨1,[],[(0,.ptr 0 0)],[(0,.cells [Yl1,Yc1,Yc1])],1,1,0,[],[]⟩
def Ys:Sig:=⟨1,[(0,.int .i64)],[],[(0,.cells [Yl1,Yc1,Yc1])],1,1,0,[],[]⟩
abbrev Avr:=Yb1 UInt8×Int×Int
abbrev Avh:=Int×Yb1 UInt8×Int×Int
def Ba1(R:Type):Px R:=pxO [] [(205,qA Bcq)] [] []
def Qk(x:Avr):Ya1 (Avh):=match x with|(b,p,_)=>(Bcu b p).bind λ(x,a,c)=>some (x,b,a,c)
theorem A7o:FM 160 Xz Ys (Qk):=fRL (px:=Ba1 _) (n:=0) Tryz.func160 rfl (λ_ H=>⟨lv H Ae (q1 H Bpc Aa) Ab,Ai⟩) λ(_,_,_)=>by kernel_rfl
def Of:Avr->Ya1 Avh:=λx=>Qk x
theorem A8a:FM 160 Xz Ys (Of):=A7o
def Als:Sig:=⟨1,[],[(0,.ptr 0 0)],[(0,.cells [Yl1,Yc1,Yc1])],1,1,0,[],[]⟩
def Aod:Sig:=⟨1,[(0,.str)],[],[(0,.cells [Yl1,Yc1,Yc1])],1,1,0,[],[]⟩
abbrev Bf9:=Yb1 UInt8×Int×Int
abbrev Bc7:=Str×Yb1 UInt8×Int×Int
def Buq(R:Type):Px R:=pxO [] [(116,qA Adz),(206,qA Bgt)] [] []
def Z5(x:Bf9):Ya1 (Bc7):=match x with
 |(b,p,_)=>
 (Ar0 b p).bind λ(x,_,a)=>
  let j:=λ(p3:Int)=>
  cond (!decide (p3=0)) (
   some ([],b,p,p3)) (
   (Bdz b p).bind λ(d,e,c)=>
   cond (decide (c=0)) (
    some (d,b,e,c)) (
    some (d,b,p,c)))
  cond (decide (a=0)) (
  cond (decide (1000<x)) (
   j 11) (
   j a)) (
  j a)
theorem Bk0:FM 161 Als Aod (Z5):=fRL (px:=Buq _) (n:=0) Tryz.func161 rfl (λ_ H=>⟨lv H Ae (q1 H Acj (q1 H Bn3 Aa)) Ab,Ai⟩) λ(_,_,_)=>by kernel_rfl
def Vk:Bf9->Ya1 Bc7:=λx=>Z5 x
theorem Bsb:FM 161 Als Aod (Vk):=Bk0
def O3:Sig:=⟨2,[(1,.sv .val)],[(0,.ptr 0 0)],[(0,.cells [Yl1,Yc1,Yc1])],1,1,0,[],[]⟩
def Ox:Sig:=⟨1,[(0,.bool)],[],[(0,.cells [Yl1,Yc1,Yc1])],1,1,0,[],[]⟩
abbrev Avz:=Val×Yb1 UInt8×Int×Int
abbrev Afl:=Bool×Yb1 UInt8×Int×Int
def Adh:Sig:=⟨53,[(4,.bool),(40,.sl .byte false),(41,.int .i64),(42,.int .i64)],[],[(0,.cells [Yl1,Yc1,Yc1])],1,1,0,[],[]⟩
abbrev Ru:=Bool×Yb1 UInt8×Int×Int×Yb1 UInt8×Int×Int
def Afn{R:Type}(a:Ru->Ya1 R)(kx:Ex->Ru->Ya1 R)(v:Ru):Ya1 R:=match v with|(v1,v2,v3,v4,w,w1,w2)=>cond (decide (v4<v3)) (chk (inb v4 v2.length) (cond (decide (((at' .byte v2 v4).toNat:Int)<32)) (kx .ret (false,v2,v3,v4,w,w1,w2)) (cond (decide (126<((at' .byte v2 v4).toNat:Int))) (kx .ret (false,v2,v3,v4,w,w1,w2)) (a (v1,v2,v3,(wr .i64 (v4+1)),w,w1,w2))))) (kx (.exit 0) (v1,v2,v3,v4,w,w1,w2))
def Ans(R:Type)(k:Nat):Px R:=pxO [] [(116,qA Adz)] [(7,An k Adh (Afn))] []
def J4(k:Nat)(x:Avz):Ya1 (Afl):=match x with
 |(v,b,p,e)=>
 cond (!decide (v.kind=4)) (
  some (true,b,p,e)) (
  cond (!decide (e=10)) (
  some (true,b,p,e)) (
  (Ar0 b p).bind λ(_,d,g)=>
   cond (!decide (g=0)) (
   some (true,b,p,e)) (
   chk (upto d b.length b.length) (
    Aj (λf=>Afn f (λe h=>match h with|(v5,_,_,_,v9,a,c)=>match e with
    |.ret=>some (v5,v9,a,c)
    |.exit 0=>some (true,v9,a,c)
    |_=>none)) k (false,(b.drop (d:Int).toNat),((b.drop (d:Int).toNat).length:Int),0,b,p,e)))))
theorem A5x(k:Nat):FM 162 O3 Ox (J4 k):=fRL (px:=Ans _ k) (n:=1) Tryz.func162 rfl (λcx H=>by have c:Lv cx (Ans (Afl) k):=lv H Ae (q1 H Acj Aa) Ab;have a:=lO H c (b:=lp Tryz.f162 0) (k:=k) (n:=0) (s:=Adh) (step:=Afn) (λ_ _ _ (_,_,_,_,_,_,_)=>by kernel_rfl) Ai;exact⟨c,(A4 Ai a)⟩) λ(_,_,_,_)=>by kernel_rfl
def Np:Avz->Ya1 Afl:=λx=>J4 (50000) x
theorem Bb9:FM 162 O3 Ox (Np):=FnLn.fin (ι:=Nat) (sg:=O3) (so:=Ox) 0 (F:=λk=>J4 k) (λk=>A5x k) λ_ _ _ a=>⟨50000,a⟩
def Aeq:Sig:=⟨1,[],[(0,.ptr 0 0)],[(0,.cells [Yl1,Yc1,Yc1])],1,1,0,[],[]⟩
def Ad1:Sig:=⟨1,[(0,.sv .val)],[],[(0,.cells [Yl1,Yc1,Yc1])],1,1,0,[],[]⟩
abbrev A1r:=Yb1 UInt8×Int×Int
abbrev Abz:=Val×Yb1 UInt8×Int×Int
def Blh(R:Type):Px R:=pxO [(159,Ct Azk Axm Q3),(160,Ct Xz Ys Of),(161,Ct Als Aod Vk),(80,cA Nr),(162,Ct O3 Ox Np)] [] [] []
def Ah7(x:A1r):Ya1 (Abz):=match x with
 |(b,p,e)=>
 (Q3 (b,p,e)).bind λ(x,n,o,r)=>
  cond (!decide (r=0)) (
  some ((Val.mk (wr .i64 x) 0 []),n,o,r)) (
  let s:=λ(q:Yb1 UInt8) (q1:Int) (u:Int) (t:Val)=>
   let v:=λ(p2:Bool)=>
   cond (p2) (
    some (t,q,q1,11)) (
    (Np (t,q,q1,u)).bind λ(d,a,c,f)=>
    cond (!d) (
     some (t,a,c,11)) (
     some (t,a,c,f)))
   cond (decide (u=0)) (
   v (!decide ((Cn t)=0))) (
   v false)
  cond (decide ((wr .i64 x)=1)) (
   s n o r (Val.mk (wr .i64 x) 0 [])) (
   cond (decide ((wr .i64 x)=2)) (
   (Q3 (n,o,r)).bind λ(w,y,z,x7)=>s y z x7 (Val.mk (wr .i64 x) (wr .i64 w) [])) (
   cond (decide ((wr .i64 x)=3)) (
    (Of (n,o,r)).bind λ(x8,x9,g,h)=>
    s x9 g h (Val.mk (wr .i64 x) x8 [])) (
    let j:=λ(p1:Bool)=>
    cond (p1) (
     (Vk (n,o,r)).bind λ(i,k,l,m)=>
     s k l m (Val.mk (wr .i64 x) 0 i)) (
     s n o 11 (Val.mk (wr .i64 x) 0 []))
    cond (decide ((wr .i64 x)=4)) (
    j (decide ((wr .i64 x)=4))) (
    j (decide ((wr .i64 x)=5)))))))
theorem Bb0:FM 117 Aeq Ad1 (Ah7):=fRL (px:=Blh _) (n:=0) Tryz.func117 rfl (λ_ H=>⟨lv H (l1 H Bxy (l1 H A8a (l1 H Bsb (c1 H N3 (l1 H Bb9 Ae))))) Aa Ab,Ai⟩) λ(_,_,_)=>by kernel_rfl
def Sp:A1r->Ya1 Abz:=λx=>Ah7 x
theorem Blx:FM 117 Aeq Ad1 (Sp):=Bb0
def Atf:Sig:=⟨67,[(0,.sl .byte false),(8,.sl .val true),(26,.int .u64),(27,.int .u64)],[(7,.ptr 0 0)],[(0,.cells [Yl1,Yc1,Yc1])],1,0,0,[],[]⟩
abbrev Aak:=Yb1 UInt8×Yb1 Val×Int×Int×Yb1 UInt8×Int×Int
def Af2{R:Type}(a:Aak->Ya1 R)(kx:Ex->Aak->Ya1 R)(v:Aak):Ya1 R:=match v with|(v,v1,v2,v3,w,w1,w2)=>cond (decide (v3<v2)) ((Sp (w,w1,w2)).bind λ(c,d,e,b)=>chk (decide (v1.length+1<=Ah)) (cond (!decide (b=0)) (kx (.exit 1) (v,(v1++[c]),v2,v3,d,e,b)) (a (v,(v1++[c]),v2,(wr .u64 (v3+1)),d,e,b)))) (kx (.exit 1) (v,v1,v2,v3,w,w1,w2))
def Bd3(R:Type)(k:Nat):Px R:=pxO [(116,cA Adz),(117,Ct Aeq Ad1 Sp)] [] [(9,An k Atf (Af2))] []
def Ae8(k:Nat)(x:HV [Yl1]):Ya1 (HV [.sl .val true,Yc1]):=match x with
 |b=>
 (Ar0 b 0).bind λ(x,f,d)=>
  cond (!decide (d=0)) (
  some ([],d)) (
  cond (decide (100<x)) (
   some ([],11)) (
   Aj (λc=>Af2 c (λe g=>match g with|(v4,v5,_,_,_,v9,a)=>match e with
   |.exit 1=>
    cond (decide (a=0)) (
    cond (decide (v9<(v4.length:Int))) (
     some ([],11)) (
     cond (!decide (a=0)) (
     some ([],a)) (
     some (v5,0)))) (
    cond (!decide (a=0)) (
     some ([],a)) (
     some (v5,0)))
   |_=>none)) k (b,[],x,0,b,f,0)))
theorem Bu6(k:Nat):FO 77 [Yl1] [.sl .val true,Yc1] (Ae8 k):=fR (px:=Bd3 _ k) (n:=1) Tryz.func77 rfl (λcx H=>by have c:Lv cx (Bd3 (HV [.sl .val true,Yc1]) k):=lv H (c1 H Acj (l1 H Blx Ae)) Aa Ab;have a:=lO H c (b:=lp Tryz.f77 0) (k:=k) (n:=0) (s:=Atf) (step:=Af2) (λ_ _ _ (_,_,_,_,_,_,_)=>by kernel_rfl) Ai;exact⟨c,(A4 Ai a)⟩) λ_=>by kernel_rfl
def Ba2(b:Str):Ya1 (Yb1 Val×Int):=Ae8 5000 b
def Bom:FT [Yl1] [.sl .val true,Yc1]:=λx=>Ba2 x
theorem Bzj:FO 77 [Yl1] [.sl .val true,Yc1] Bom:=.fin 0 Bu6 λ_ _ _ a=>⟨5000,a⟩
noncomputable section
def Bpg(R:Type):Px R:=pxO [(77,cA Bom),(25,cA Axx)] [] [] []
def Y9(x:HV [Yh1,Yl1]):Ya1 (HV [.sl .val true,Yc1]):=match x with|(t,b)=>(Ba2 b).bind λ(x,a)=>cond (!decide (a=0)) (some ([],11)) ((Qt t x).bind λc=>cond (!decide (c=0)) (some ([],11)) (some (x,0)))
theorem Ble:FO 39 [Yh1,Yl1] [.sl .val true,Yc1] (Y9):=fR (px:=Bpg _) (n:=0) Tryz.func39 rfl (λ_ H=>⟨lv H (c1 H Bzj (c1 H A60 Ae)) Aa Ab,Ai⟩) λ(_,_)=>by kernel_rfl
def Agi(t:Tbl)(b:Str):Ya1 (Yb1 Val×Int):=Y9 (t,b)
def Azl:FT [Yh1,Yl1] [.sl .val true,Yc1]:=λx=>Agi x.1 x.2
theorem A2s:FO 39 [Yh1,Yl1] [.sl .val true,Yc1] Azl:=.fin0 Ble λ_ _ _ a=>a
def Atd:Sig:=⟨36,[(6,.sl .kv true),(25,.sl .kvs false),(26,.int .i64),(27,.int .i64)],[],[],0,0,0,[],[]⟩
abbrev Ado:=Yb1 KvS×Yb1 (Yb1 KvS)×Int×Int
def Yk{R:Type}(e:Ado->Ya1 R)(kx:Ex->Ado->Ya1 R)(v:Ado):Ya1 R:=match v with|(c,b,d,a)=>cond (decide (a<d)) (chk (inb a b.length) (chk (decide (c.length+(at' .kvs b a).length<=Ah)) (e ((c++(at' .kvs b a)),b,d,(wr .i64 (a+1)))))) (kx (.exit 2) (c,b,d,a))
def Auo:Sig:=⟨36,[(0,.sl .kvs false),(3,.int .i64),(9,.sl .kvs false),(10,.int .i64),(11,.int .i64)],[],[],0,0,0,[],[]⟩
abbrev Acz:=Yb1 (Yb1 KvS)×Int×Yb1 (Yb1 KvS)×Int×Int
def Y7{R:Type}(a:Acz->Ya1 R)(kx:Ex->Acz->Ya1 R)(v:Acz):Ya1 R:=match v with|(v,v1,v2,v3,v4)=>cond (decide (v4<v3)) (chk (inb v4 v2.length) (cond (decide ((wr .i64 (v1+((at' .kvs v2 v4).length:Int)))<0)) (none) (a (v,(wr .i64 (v1+((at' .kvs v2 v4).length:Int))),v2,v3,(wr .i64 (v4+1)))))) (kx (.exit 0) (v,v1,v2,v3,v4))
def Ben(R:Type)(k:Nat):Px R:=pxO [(70,Aao .kv)] [] [(3,An k Auo (Y7)),(11,An k Atd (Yk))] []
def Af6(k:Nat)(x:HV [.sl .kvs false]):Ya1 (HV [.sl .kv true]):=match x with
 |l=>
 Aj (λb=>Y7 b (λe c=>match c with|(v5,v6,_,_,_)=>match e with
  |.exit 0=>
  chk (decide ((0:Int)<=v6)&&decide (v6<=(2000000:Int))) (
   Aj (λb=>Yk b (λe c=>match c with|(a,_,_,_)=>match e with
   |.exit 2=>some a
   |_=>none)) k ([],v5,(v5.length:Int),0))
  |_=>none)) k (l,0,l,(l.length:Int),0)
theorem Bm6(k:Nat):FO 31 [.sl .kvs false] [.sl .kv true] (Af6 k):=fR (px:=Ben _ k) (n:=2) Tryz.func31 rfl (λcx H=>by have d:Lv cx (Ben (HV [.sl .kv true]) k):=lv H (As (Aw7 H Av7) Ae) Aa Ab;have a:=lO H d (b:=lp Tryz.f31 0) (k:=k) (n:=0) (s:=Auo) (step:=Y7) (λ_ _ _ (_,_,_,_,_)=>by kernel_rfl) Ai;have c:=lO H d (b:=lp Tryz.f31 1) (k:=k) (n:=0) (s:=Atd) (step:=Yk) (λ_ _ _ (_,_,_,_)=>by kernel_rfl) Ai;exact⟨d,(A4 (A4 Ai a) c)⟩) λ_=>by kernel_rfl
def Bzk(l:Yb1 (Yb1 KvS)):Ya1 (Yb1 KvS):=Af6 100 l
def Brj:FT [.sl .kvs false] [.sl .kv true]:=λx=>Bzk x
theorem Bzi:FO 31 [.sl .kvs false] [.sl .kv true] Brj:=.fin 0 Bm6 λ_ _ _ a=>⟨100,a⟩
def Ajl:Sig:=⟨3,[(1,.sv .tbl),(2,.sl .val false)],[(0,.ptr 0 0)],[(0,.cells [Yc1,Yl1,.bool,Yl1,.sl .node false,Yl1,.sl .stt false,Yl1])],1,1,0,[],[]⟩
def Ajg:Sig:=⟨1,[(0,.int .i64)],[],[(0,.cells [Yc1,Yl1,.bool,Yl1,.sl .node false,Yl1,.sl .stt false,Yl1])],1,1,0,[],[]⟩
abbrev Bvm:=Tbl×Yb1 Val×Int×Yb1 UInt8×Bool×Yb1 UInt8×Yb1 NodeS×Yb1 UInt8×Yb1 NodeS×Yb1 UInt8
abbrev A94:=Int×Int×Yb1 UInt8×Bool×Yb1 UInt8×Yb1 NodeS×Yb1 UInt8×Yb1 NodeS×Yb1 UInt8
def Aso:Sig:=⟨89,[(6,.int .i64),(73,.sl .kv true),(74,.int .i64),(75,.int .i64)],[(0,.ptr 0 0)],[(0,.cells [Yc1,Yl1,.bool,Yl1,.sl .node false,Yl1,.sl .stt false,Yl1])],1,1,0,[],[]⟩
abbrev Acs:=Int×Yb1 KvS×Int×Int×Int×Yb1 UInt8×Bool×Yb1 UInt8×Yb1 NodeS×Yb1 UInt8×Yb1 NodeS×Yb1 UInt8
def Ae2{R:Type}(s:Acs->Ya1 R)(kx:Ex->Acs->Ya1 R)(v:Acs):Ya1 R:=match v with|(d,b,c,a,w8,w9,e,w11,f,g,h,i)=>cond (decide (a<c)) (chk (inb a b.length) ((Ay3 ((at' .kv b a).key,(at' .kv b a).val,w8,w9,e,w11,f,g,h,i)).bind λ(j,k,l,m,n,o,p,q,r)=>cond (!decide (j=0)) (kx .ret (j,b,c,a,k,l,m,n,o,p,q,r)) (s (d,b,c,(wr .i64 (a+1)),k,l,m,n,o,p,q,r)))) (kx (.exit 3) (d,b,c,a,w8,w9,e,w11,f,g,h,i))
def Avq:Sig:=⟨89,[(6,.int .i64),(7,.sl .kv true),(45,.sl .kv true),(46,.int .i64),(47,.int .i64)],[(0,.ptr 0 0)],[(0,.cells [Yc1,Yl1,.bool,Yl1,.sl .node false,Yl1,.sl .stt false,Yl1])],1,1,0,[],[]⟩
abbrev Abh:=Int×Yb1 KvS×Yb1 KvS×Int×Int×Int×Yb1 UInt8×Bool×Yb1 UInt8×Yb1 NodeS×Yb1 UInt8×Yb1 NodeS×Yb1 UInt8
def Af9{R:Type}(i:Abh->Ya1 R)(kx:Ex->Abh->Ya1 R)(v:Abh):Ya1 R:=match v with
 |(v,v1,v2,v3,v4,w,w1,w2,w3,w4,w5,w6,w7)=>
 cond (decide (v4<v3)) (
  chk (inb v4 v2.length) (
  (Yx ((at' .kv v2 v4).key,w,w1,w2,w3,w4,w5,w6,w7)).bind λ(_,k,l,a,b,c,d,e,f,g,h)=>
   cond (!decide (l=0)) (
   kx .ret (l,v1,v2,v3,v4,a,b,c,d,e,f,g,h)) (
   let j:=λ(p1:Bool)=>
    cond (p1) (
    kx .ret (180,v1,v2,v3,v4,a,b,c,d,e,f,g,h)) (
    cond (k) (
     kx .ret (181,v1,v2,v3,v4,a,b,c,d,e,f,g,h)) (
     i (v,v1,v2,v3,(wr .i64 (v4+1)),a,b,c,d,e,f,g,h)))
   cond (k) (
    j (decide (v4=0))) (
    j false)))) (
  kx (.exit 0) (v,v1,v2,v3,v4,w,w1,w2,w3,w4,w5,w6,w7))
def Bfc(R:Type)(k:Nat):Px R:=pxO [(9,cA Bq7),(26,cA Ayr),(31,cA Brj),(32,Ct Ai5 Ajh Yx),(33,Ct A0z Az2 Ay3)] [] [(8,An k Avq (Af9)),(19,An k Aso (Ae2))] []
def N8(k:Nat)(x:Bvm):Ya1 (A94):=match x with
 |(t,r,a,b,c,d,e,f,g,h)=>
 (B2o t r).bind λ(x,x1)=>
  cond (!decide (x1=0)) (
  some (x1,a,b,c,d,e,f,g,h)) (
  (A2d t r).bind λ(x2,_,x4,_)=>
   (Bzk [x2.l,x4.l]).bind λx6=>
   Aj (λa4=>Af9 a4 (λe vz=>match vz with|(v5,v6,_,_,_,i,j,m,n,o,p,q,s)=>match e with
    |.ret=>
    some (v5,i,j,m,n,o,p,q,s)
    |.exit 0=>
    Aj (λa4=>Ae2 a4 (λe vz=>match vz with|(a3,_,_,_,u,v,w,y,z,a0,a1,a2)=>match e with
     |.ret=>
     some (a3,u,v,w,y,z,a0,a1,a2)
     |.exit 3=>
     some (0,u,v,w,y,z,a0,a1,a2)
     |_=>none)) k (v5,v6,(v6.length:Int),0,i,j,m,n,o,p,q,s)
    |_=>none)) k (0,x,x6,(x6.length:Int),0,a,b,c,d,e,f,g,h))
theorem Bo5(k:Nat):FM 13 Ajl Ajg (N8 k):=fRL (px:=Bfc _ k) (n:=2) Tryz.func13 rfl (λcx H=>by have d:Lv cx (Bfc (A94) k):=lv H (c1 H Bwr (c1 H A2z (c1 H Bzi (l1 H Bf0 (l1 H Byx Ae))))) Aa Ab;have a:=lO H d (b:=lp Tryz.f13 0) (k:=k) (n:=0) (s:=Avq) (step:=Af9) (λ_ _ _ (_,_,_,_,_,_,_,_,_,_,_,_,_)=>by kernel_rfl) Ai;have c:=lO H d (b:=lp Tryz.f13 1) (k:=k) (n:=0) (s:=Aso) (step:=Ae2) (λ_ _ _ (_,_,_,_,_,_,_,_,_,_,_,_)=>by kernel_rfl) Ai;exact⟨d,(A4 (A4 Ai a) c)⟩) λ(_,_,_,_,_,_,_,_,_,_)=>by kernel_rfl
def A0m:Bvm->Ya1 A94:=λx=>N8 (5000) x
theorem Bwy:FM 13 Ajl Ajg (A0m):=FnLn.fin (ι:=Nat) (sg:=Ajl) (so:=Ajg) 0 (F:=λk=>N8 k) (λk=>Bo5 k) λ_ _ _ a=>⟨5000,a⟩
def Al4:Sig:=⟨3,[(1,.sv .tbl),(2,.sl .val false)],[(0,.ptr 0 0)],[(0,.cells [Yc1,Yl1,.bool,Yl1,.sl .node false,Yl1,.sl .stt false,Yl1])],1,1,0,[],[]⟩
def Amw:Sig:=⟨3,[(0,.sl .val true),(1,.bool),(2,.int .i64)],[],[(0,.cells [Yc1,Yl1,.bool,Yl1,.sl .node false,Yl1,.sl .stt false,Yl1])],1,1,0,[],[]⟩
abbrev Bgm:=Tbl×Yb1 Val×Int×Yb1 UInt8×Bool×Yb1 UInt8×Yb1 NodeS×Yb1 UInt8×Yb1 NodeS×Yb1 UInt8
abbrev Ajt:=Yb1 Val×Bool×Int×Int×Yb1 UInt8×Bool×Yb1 UInt8×Yb1 NodeS×Yb1 UInt8×Yb1 NodeS×Yb1 UInt8
def Al9(R:Type):Px R:=pxO [(52,cA Mw)] [] [] []
noncomputable def A4o(R:Type):Px R:=pxO [(36,cA Ms),(35,cA Ad4),(32,Ct Ai5 Ajh Yx),(39,cA Azl),(34,A0 80 400 (Al9 R) Tryz.f34)] [] [] []
def Ph(x:Bgm):Ya1 (Ajt):=match x with|(t,pk,a,b,c,d,e,f,g,h)=>(Gu t).bind λx=>cond (!decide (x=0)) (some ([],false,x,a,b,c,d,e,f,g,h)) ((Ia [[114],t.name]).bind λv=>(W2 [v,pk]).bind λ(u,w)=>cond (!decide (w=0)) (some ([],false,2,a,b,c,d,e,f,g,h)) (cond (!decide ((pk.length:Int)=(t.key.length:Int))) (some ([],false,2,a,b,c,d,e,f,g,h)) (cond (decide (200<(u.length:Int))) (some ([],false,0,a,b,c,d,e,f,g,h)) ((Yx (u,a,b,c,d,e,f,g,h)).bind λ(y,z,p,q,r,s,i,j,k,l,m)=>cond (!decide (p=0)) (some ([],false,p,q,r,s,i,j,k,l,m)) (cond (!z) (some ([],false,p,q,r,s,i,j,k,l,m)) ((Agi t y).bind λ(o,n)=>some (o,decide (n=0),n,q,r,s,i,j,k,l,m)))))))
theorem Bl7:FM 21 Al4 Amw (Ph):=fRL (px:=A4o _) (n:=0) Tryz.func21 rfl (λcx H=>by have a:Lv cx (Al9 (Ajt)):=lv H (c1 H T7 Ae) Aa Ab;have b:Lv cx (A4o (Ajt)):=lv H (c1 H Mt (c1 H Adb (l1 H Bf0 (c1 H A2s (As (cR H a Tryz.func34 rfl (n:=0) (Ai)) Ae))))) Aa Ab;exact⟨b,Ai⟩) λ(_,_,_,_,_,_,_,_,_,_)=>by kernel_rfl
def Ai3:Bgm->Ya1 Ajt:=λx=>Ph x
theorem Bu9:FM 21 Al4 Amw (Ai3):=Bl7
def Ac4:Sig:=⟨2,[(1,.sv .tbl)],[(0,.ptr 0 0)],[(0,.cells [Yc1,Yl1,.bool,Yl1,.sl .node false,Yl1,.sl .stt false,Yl1])],1,1,0,[],[]⟩
def Ab3:Sig:=⟨2,[(0,.sl .vals true),(1,.int .i64)],[],[(0,.cells [Yc1,Yl1,.bool,Yl1,.sl .node false,Yl1,.sl .stt false,Yl1])],1,1,0,[],[]⟩
abbrev Bds:=Tbl×Int×Yb1 UInt8×Bool×Yb1 UInt8×Yb1 NodeS×Yb1 UInt8×Yb1 NodeS×Yb1 UInt8
abbrev Ajz:=Yb1 (Yb1 Val)×Int×Int×Yb1 UInt8×Bool×Yb1 UInt8×Yb1 NodeS×Yb1 UInt8×Yb1 NodeS×Yb1 UInt8
def Aml:Sig:=⟨66,[(11,.sl .vals true),(12,.bool),(43,.sl .kv false),(44,.int .i64),(45,.int .i64)],[(3,.ptr 1 0)],[(0,.cells [Yc1,Yl1,.bool,Yl1,.sl .node false,Yl1,.sl .stt false,Yl1]),(1,.one (.sv .tbl))],2,1,0,[],[]⟩
abbrev Vz:=Yb1 (Yb1 Val)×Bool×Yb1 KvS×Int×Int×Int×Yb1 UInt8×Bool×Yb1 UInt8×Yb1 NodeS×Yb1 UInt8×Yb1 NodeS×Yb1 UInt8×Tbl
def U0{R:Type}(c:Vz->Ya1 R)(kx:Ex->Vz->Ya1 R)(v:Vz):Ya1 R:=match v with|(v,v1,v2,v3,v4,w,w1,w2,w3,w4,w5,w6,w7,w8)=>cond (decide (v4<v3)) (chk (inb v4 v2.length) ((Agi w8 ((at' .kv v2 v4).val)).bind λ(b,a)=>cond (!decide (a=0)) (kx (.exit 0) (v, !decide (a=0),v2,v3,v4,w,w1,w2,w3,w4,w5,w6,w7,w8)) (chk (decide (v.length+1<=Ah)) (c ((v++[b]), !decide (a=0),v2,v3,(wr .i64 (v4+1)),w,w1,w2,w3,w4,w5,w6,w7,w8))))) (kx (.exit 0) (v,v1,v2,v3,v4,w,w1,w2,w3,w4,w5,w6,w7,w8))
def Aos(R:Type)(_k:Nat):Px R:=pxO [(52,cA Mw)] [] [] []
noncomputable def A3k(R:Type)(k:Nat):Px R:=pxO [(36,cA Ms),(35,cA Ad4),(38,cA Abe),(37,Ct V2 Vn Kq),(39,cA Azl),(34,A0 80 400 (Aos R k) Tryz.f34)] [] [(11,An k Aml (U0))] []
def Io(k:Nat)(x:Bds):Ya1 (Ajz):=match x with
 |(t,a,b,c,d,e,f,g,h)=>
 (Gu t).bind λx=>
  cond (!decide (x=0)) (
  some ([],x,a,b,c,d,e,f,g,h)) (
  (Ia [[114],t.name]).bind λx1=>
   (W2 [x1]).bind λ(z,_)=>
   (Ag2 z).bind λx4=>
    (Kq (z,x4,9223372036854775807,a,b,c,d,e,f,g,h)).bind λ(x5,x6,x7,x8,x9,i,j,l,m,n)=>
    cond (!decide (x6=0)) (
     some ([],x6,x7,x8,x9,i,j,l,m,n)) (
     Aj (λy=>U0 y (λe vz=>match vz with|(v5,v6,_,_,_,o,p,q,r,s,u,v,w,_)=>match e with
     |.exit 0=>
      cond (v6) (
      some ([],11,o,p,q,r,s,u,v,w)) (
      some (v5,0,o,p,q,r,s,u,v,w))
     |_=>none)) k ([],false,x5,(x5.length:Int),0,x7,x8,x9,i,j,l,m,n,t)))
theorem Bje(k:Nat):FM 14 Ac4 Ab3 (Io k):=fRL (px:=A3k _ k) (n:=1) Tryz.func14 rfl (λcx H=>by have d:Lv cx (Aos (Ajz) k):=lv H (c1 H T7 Ae) Aa Ab;have c:Lv cx (A3k (Ajz) k):=lv H (c1 H Mt (c1 H Adb (c1 H Anb (l1 H At8 (c1 H A2s (As (cR H d Tryz.func34 rfl (n:=0) (Ai)) Ae)))))) Aa Ab;have a:=lO H c (b:=lp Tryz.f14 0) (k:=k) (n:=0) (s:=Aml) (step:=U0) (λ_ _ _ (_,_,_,_,_,_,_,_,_,_,_,_,_,_)=>by kernel_rfl) Ai;exact⟨c,(A4 Ai a)⟩) λ(_,_,_,_,_,_,_,_,_)=>by kernel_rfl
def Ajb:Bds->Ya1 Ajz:=λx=>Io (5000) x
theorem Bwj:FM 14 Ac4 Ab3 (Ajb):=FnLn.fin (ι:=Nat) (sg:=Ac4) (so:=Ab3) 0 (F:=λk=>Io k) (λk=>Bje k) λ_ _ _ a=>⟨5000,a⟩
end
noncomputable section
def Aqu:Sig:=⟨40,[(1,.sl .val false),(2,.sl .str false),(6,.sl .val true),(7,.int .i64),(8,.sl .val true),(9,.int .i64)],[(3,.ptr 0 0)],[(0,.one (.sv .tbl))],1,0,0,[],[]⟩
abbrev Afw:=Yb1 Val×Yb1 Str×Yb1 Val×Int×Yb1 Val×Int×Tbl
def Ab1{R:Type}(a:Afw->Ya1 R)(kx:Ex->Afw->Ya1 R)(v:Afw):Ya1 R:=match v with|(v,v1,v2,v3,v4,v5,w)=>cond (decide (v5<(v1.length:Int))) (chk (inb v5 v1.length) (cond (decide ((Art w.cols (at' .str v1 v5))<0)) (kx .ret (v,v1,[],150,v4,v5,w)) (chk (inb (Art w.cols (at' .str v1 v5)) v.length) (chk (decide (v4.length+1<=Ah)) (a (v,v1,v2,v3,(v4++[(at' .val v (Art w.cols (at' .str v1 v5)))]),(wr .i64 (v5+1)),w)))))) (kx (.exit 0) (v,v1,v2,v3,v4,v5,w))
def A5w(R:Type)(k:Nat):Px R:=pxO [(40,cA Aph)] [] [(5,An k Aqu (Ab1))] []
def Ql(k:Nat)(x:HV [Yh1,Yj1,Yf1]):Ya1 (HV [.sl .val true,Yc1]):=match x with
 |(t,r,names)=>
 cond (!decide ((r.length:Int)=(t.cols.length:Int))) (
  some ([],2)) (
  Aj (λb=>Ab1 b (λe c=>match c with|(_,_,v8,v9,a,_,_)=>match e with
  |.ret=>some (v8,v9)
  |.exit 0=>some (a,0)
  |_=>none)) k (r,names,[],0,[],0,t))
theorem Bip(k:Nat):FO 15 [Yh1,Yj1,Yf1] [.sl .val true,Yc1] (Ql k):=fR (px:=A5w _ k) (n:=1) Tryz.func15 rfl (λcx H=>by have c:Lv cx (A5w (HV [.sl .val true,Yc1]) k):=lv H (c1 H Axk Ae) Aa Ab;have a:=lO H c (b:=lp Tryz.f15 0) (k:=k) (n:=0) (s:=Aqu) (step:=Ab1) (λ_ _ _ (_,_,_,_,_,_,_)=>by kernel_rfl) Ai;exact⟨c,(A4 Ai a)⟩) λ(_,_,_)=>by kernel_rfl
def A34(t:Tbl)(r:Yb1 Val)(l:Yb1 Str):Ya1 (Yb1 Val×Int):=Ql 5000 (t,r,l)
def Bgi:FT [Yh1,Yj1,Yf1] [.sl .val true,Yc1]:=λx=>A34 x.1 x.2.1 x.2.2
theorem Bub:FO 15 [Yh1,Yj1,Yf1] [.sl .val true,Yc1] Bgi:=.fin 0 Bip λ_ _ _ a=>⟨5000,a⟩
def Api:Sig:=⟨52,[(1,.sl .vals false),(5,.int .i64),(6,.int .i64),(7,.int .i64)],[],[],0,0,0,[],[]⟩
abbrev V4:=Yb1 (Yb1 Val)×Int×Int×Int
def Abk{R:Type}(a:V4->Ya1 R)(kx:Ex->V4->Ya1 R)(v:V4):Ya1 R:=match v with|(v3,v4,v5,v6)=>chk (inb v5 v3.length) (cond (decide (v6<((at' .vals v3 v5).length:Int))) (chk (inb v5 v3.length) (chk (inb v6 ((at' .vals v3 v5).length)) (a (v3,(wr .i64 (v4+(wr .i64 (Int.tdiv (((at' .val (at' .vals v3 v5) v6).s).length:Int) 20)))),v5,(wr .i64 (v6+1)))))) (kx (.exit 2) (v3,v4,v5,v6)))
def Aky:Sig:=⟨52,[(1,.sl .vals false),(5,.int .i64),(6,.int .i64)],[],[],0,0,0,[],[]⟩
abbrev Uo:=Yb1 (Yb1 Val)×Int×Int
def Qj{R:Type}(k:Nat)(a:Uo->Ya1 R)(kx:Ex->Uo->Ya1 R)(v:Uo):Ya1 R:=match v with
 |(v,v1,v2)=>
 cond (decide (v2<(v.length:Int))) (
  chk (inb v2 v.length) (
  Aj (λrc=>Abk rc (λe b=>match b with|(v7,v8,v9,_)=>match e with
   |.exit 2=>
   a (v7,v8,(wr .i64 (v9+1)))
   |_=>none)) k (v,(wr .i64 ((wr .i64 (v1+1))+((at' .vals v v2).length:Int))),v2,0))) (
  kx (.exit 0) (v,v1,v2))
def A2k(R:Type)(k:Nat):Px R:=pxO [(23,cA Ae0)] [] [(7,An k Api (Abk)),(3,An k Aky (Qj k))] []
def Ou(k:Nat)(x:HV [Yh1,.sl .vals false]):Ya1 (HV [.bool]):=match x with
 |(t,l)=>
 Aj (λc=>Qj k c (λe d=>match d with|(a,b,_)=>match e with
  |.exit 0=>
  cond (decide (250<=b)) (
   some true) (
   some (decide (24<(a.length:Int))))
  |_=>none)) k (l,(A0p t 200),0)
theorem Blp(k:Nat):FO 7 [Yh1,.sl .vals false] [.bool] (Ou k):=fR (px:=A2k _ k) (n:=2) Tryz.func7 rfl (λcx H=>by have d:Lv cx (A2k (HV [.bool]) k):=lv H (c1 H Bbj Ae) Aa Ab;have a:=lO H d (b:=lpC (lp Tryz.f7 0) 0) (k:=k) (n:=0) (s:=Api) (step:=Abk) (λ_ _ _ (_,_,_,_)=>by kernel_rfl) Ai;have c:=lO H d (b:=lp Tryz.f7 0) (k:=k) (n:=1) (s:=Aky) (step:=Qj k) (λ_ _ _ (_,_,_)=>by kernel_rfl) (A4 Ai a);exact⟨d,(A4 (A4 Ai c) a)⟩) λ(_,_)=>by kernel_rfl
def Bvi(t:Tbl)(l:Yb1 (Yb1 Val)):Ya1 Bool:=Ou 2000000 (t,l)
def Bct:FT [Yh1,.sl .vals false] [.bool]:=λx=>Bvi x.1 x.2
theorem Bqh:FO 7 [Yh1,.sl .vals false] [.bool] Bct:=.fin 0 Blp λ_ _ _ a=>⟨2000000,a⟩
end
noncomputable section
def Aoy:Sig:=⟨51,[(0,.sl .byte false),(1,.int .i64),(4,.str),(5,.int .i64),(6,.sl .byte true),(7,.int .i64)],[],[],0,0,0,[],[]⟩
abbrev Uj:=Yb1 UInt8×Int×Str×Int×Yb1 UInt8×Int
def P7{R:Type}(a:Uj->Ya1 R)(kx:Ex->Uj->Ya1 R)(v:Uj):Ya1 R:=match v with
 |(v,v1,v2,v3,v4,v5)=>
 cond (decide (v5<(v.length:Int))) (
  chk (inb v5 v.length) (
  let j:=λ(p:Int)=>
   chk (decide (v4.length+1<=Ah)) (
   cond (!decide ((Cn (Val.mk v1 0 (v4++[(UInt8.ofNat (((at' .byte v v5).toNat:Int):Int).toNat)])))=0)) (
    kx .ret (v,v1,[],(-1),(v4++[(UInt8.ofNat (((at' .byte v v5).toNat:Int):Int).toNat)]),p)) (
    a (v,v1,v2,v3,(v4++[(UInt8.ofNat (((at' .byte v v5).toNat:Int):Int).toNat)]),(wr .i64 (p+1)))))
  cond (decide (((at' .byte v v5).toNat:Int)=0)) (
   cond (decide ((wr .i64 (v5+1))=(v.length:Int))) (
   kx .ret (v,v1,[],0,v4,(wr .i64 (v5+1)))) (
   chk (inb (wr .i64 (v5+1)) v.length) (
    cond (decide (((at' .byte v (wr .i64 (v5+1))).toNat:Int)=1)) (
    kx .ret (v,v1,v4,(wr .i64 ((wr .i64 (v5+1))+1)),v4,(wr .i64 (v5+1)))) (
    chk (inb (wr .i64 (v5+1)) v.length) (
     cond (!decide (((at' .byte v (wr .i64 (v5+1))).toNat:Int)=255)) (
     kx .ret (v,v1,[],(-1),v4,(wr .i64 (v5+1)))) (
     j (wr .i64 (v5+1)))))))) (
   j v5))) (
  kx (.exit 0) (v,v1,v2,v3,v4,v5))
def A54(R:Type)(k:Nat):Px R:=pxO [(80,cA Nr)] [] [(3,An k Aoy (P7))] []
def P6(k:Nat)(x:HV [Yl1,Yc1]):Ya1 (HV [.str,Yc1]):=match x with
 |(b,kind)=>
 Aj (λa=>P7 a (λe c=>match c with|(_,_,v8,v9,_,_)=>match e with
  |.ret=>
  some (v8,v9)
  |.exit 0=>
  some ([],0)
  |_=>none)) k (b,kind,[],0,[],0)
theorem Bmu(k:Nat):FO 125 [Yl1,Yc1] [.str,Yc1] (P6 k):=fR (px:=A54 _ k) (n:=1) Tryz.func125 rfl (λcx H=>by have c:Lv cx (A54 (HV [.str,Yc1]) k):=lv H (c1 H N3 Ae) Aa Ab;have a:=lO H c (b:=lp Tryz.f125 0) (k:=k) (n:=0) (s:=Aoy) (step:=P7) (λ_ _ _ (_,_,_,_,_,_)=>by kernel_rfl) Ai;exact⟨c,(A4 Ai a)⟩) λ(_,_)=>by kernel_rfl
def Bn7(b:Str)(kind:Int):Ya1 (Str×Int):=P6 2000 (b,kind)
def Bep:FT [Yl1,Yc1] [.str,Yc1]:=λx=>Bn7 x.1 x.2
theorem Btf:FO 125 [Yl1,Yc1] [.str,Yc1] Bep:=.fin 0 Bmu λ_ _ _ a=>⟨2000,a⟩
def Atn:Sig:=⟨80,[(5,.int .u64),(43,.sl .byte false),(44,.int .i64),(45,.int .i64)],[(2,.ptr 0 0),(4,.ptr 1 0)],[(0,.one (.sv .val)),(1,.one (.sv .val))],2,0,0,[],[]⟩
abbrev Ab5:=Int×Yb1 UInt8×Int×Int×Val×Val
def Af8{R:Type}(a:Ab5->Ya1 R)(kx:Ex->Ab5->Ya1 R)(v:Ab5):Ya1 R:=match v with|(v,v1,v2,v3,w,w1)=>cond (decide (v3<v2)) (chk (inb v3 v1.length) (a ((ior .u64 (W0 .u64 v 8) (wr .u64 ((at' .byte v1 v3).toNat:Int))),v1,v2,(wr .i64 (v3+1)),w,w1))) (kx (.exit 1) (v,v1,v2,v3,w,w1))
def Bf8(R:Type)(k:Nat):Px R:=pxO [] [(125,qA Bep)] [(17,An k Atn (Af8))] []
def He(k:Nat)(x:HV [Yl1]):Ya1 (HV [Yi1,Yc1]):=match x with
 |b=>
 chk (inb 0 b.length) (
  cond (decide ((wr .i64 ((at' .byte b 0).toNat:Int))=1)) (
  some ((Val.mk (wr .i64 ((at' .byte b 0).toNat:Int)) 0 []),1)) (
  cond (decide ((wr .i64 ((at' .byte b 0).toNat:Int))=2)) (
   cond (decide ((b.length:Int)=1)) (
   some ((Val.mk (wr .i64 ((at' .byte b 0).toNat:Int)) 0 []),0)) (
   chk (inb 1 b.length) (
    cond (decide (1<(wr .i64 ((at' .byte b 1).toNat:Int)))) (
    some ((Val.mk (wr .i64 ((at' .byte b 0).toNat:Int)) (wr .i64 ((at' .byte b 1).toNat:Int)) []),(-1))) (
    some ((Val.mk (wr .i64 ((at' .byte b 0).toNat:Int)) (wr .i64 ((at' .byte b 1).toNat:Int)) []),2))))) (
   cond (decide ((wr .i64 ((at' .byte b 0).toNat:Int))=3)) (
   cond (decide ((b.length:Int)<9)) (
    some ((Val.mk (wr .i64 ((at' .byte b 0).toNat:Int)) 0 []),0)) (
    chk (upto 1 9 b.length) (
    Aj (λa=>Af8 a (λe d=>match d with|(v4,_,_,_,_,v9)=>match e with
     |.exit 1=>
     some ((Val.mk v9.kind (wr .i64 (Qg .u64 v4 9223372036854775808)) v9.s),9)
     |_=>none)) k (0,(cut b 1 9),((cut b 1 9).length:Int),0,(Val.mk 0 0 []),(Val.mk (wr .i64 ((at' .byte b 0).toNat:Int)) 0 []))))) (
   let j:=λ(p:Bool)=>
    cond (p) (
    chk (upto 1 b.length b.length) (
     (Bn7 (b.drop (1:Int).toNat) (wr .i64 ((at' .byte b 0).toNat:Int))).bind λ(x,c)=>
     cond (decide (0<c)) (
      some ((Val.mk (wr .i64 ((at' .byte b 0).toNat:Int)) 0 x),(wr .i64 (c+1)))) (
      some ((Val.mk (wr .i64 ((at' .byte b 0).toNat:Int)) 0 x),c)))) (
    some ((Val.mk (wr .i64 ((at' .byte b 0).toNat:Int)) 0 []),(-1)))
   cond (decide ((wr .i64 ((at' .byte b 0).toNat:Int))=4)) (
    j (decide ((wr .i64 ((at' .byte b 0).toNat:Int))=4))) (
    j (decide ((wr .i64 ((at' .byte b 0).toNat:Int))=5)))))))
theorem Bpa(k:Nat):FO 82 [Yl1] [Yi1,Yc1] (He k):=fR (px:=Bf8 _ k) (n:=1) Tryz.func82 rfl (λcx H=>by have c:Lv cx (Bf8 (HV [Yi1,Yc1]) k):=lv H Ae (q1 H Btf Aa) Ab;have a:=lO H c (b:=lp Tryz.f82 0) (k:=k) (n:=0) (s:=Atn) (step:=Af8) (λ_ _ _ (_,_,_,_,_,_)=>by kernel_rfl) Ai;exact⟨c,(A4 Ai a)⟩) λ_=>by kernel_rfl
def Bw5(b:Str):Ya1 (Val×Int):=He 2000 b
def Bse:FT [Yl1] [Yi1,Yc1]:=λx=>Bw5 x
theorem B0a:FO 82 [Yl1] [Yi1,Yc1] Bse:=.fin 0 Bpa λ_ _ _ a=>⟨2000,a⟩
def As4:Sig:=⟨33,[(0,.sl .byte false),(2,.sl .val true),(3,.int .i64),(4,.sl .val true),(5,.int .i64)],[],[],0,0,0,[],[]⟩
abbrev Abr:=Yb1 UInt8×Yb1 Val×Int×Yb1 Val×Int
def Aet{R:Type}(b:Abr->Ya1 R)(kx:Ex->Abr->Ya1 R)(v:Abr):Ya1 R:=match v with|(v,v1,v2,v3,a)=>cond (decide (a<(v.length:Int))) (chk (upto a v.length v.length) ((Bw5 (v.drop (a:Int).toNat)).bind λ(x,c)=>cond (decide (0<c)) (chk (decide (v3.length+1<=Ah)) (b (v,v1,v2,(v3++[x]),(wr .i64 (a+c))))) (cond (decide (c=0)) (kx .ret (v,[],10,v3,a)) (kx .ret (v,[],11,v3,a))))) (kx (.exit 0) (v,v1,v2,v3,a))
def Bdr(R:Type)(k:Nat):Px R:=pxO [(82,cA Bse)] [] [(3,An k As4 (Aet))] []
def T2(k:Nat)(x:HV [Yl1]):Ya1 (HV [.sl .val true,Yc1]):=match x with
 |b=>
 Aj (λa=>Aet a (λe c=>match c with|(_,v6,v7,v8,_)=>match e with
  |.ret=>
  some (v6,v7)
  |.exit 0=>
  some (v8,0)
  |_=>none)) k (b,[],0,[],0)
theorem Bt2(k:Nat):FO 48 [Yl1] [.sl .val true,Yc1] (T2 k):=fR (px:=Bdr _ k) (n:=1) Tryz.func48 rfl (λcx H=>by have c:Lv cx (Bdr (HV [.sl .val true,Yc1]) k):=lv H (c1 H B0a Ae) Aa Ab;have a:=lO H c (b:=lp Tryz.f48 0) (k:=k) (n:=0) (s:=As4) (step:=Aet) (λ_ _ _ (_,_,_,_,_)=>by kernel_rfl) Ai;exact⟨c,(A4 Ai a)⟩) λ_=>by kernel_rfl
def Btu(b:Str):Ya1 (Yb1 Val×Int):=T2 2000 b
def Bq3:FT [Yl1] [.sl .val true,Yc1]:=λx=>Btu x
theorem Byy:FO 48 [Yl1] [.sl .val true,Yc1] Bq3:=.fin 0 Bt2 λ_ _ _ a=>⟨2000,a⟩
def Ayz:Sig:=⟨4,[(1,.sv .tbl),(2,.str),(3,.sv .val)],[(0,.ptr 0 0)],[(0,.cells [Yc1,Yl1,.bool,Yl1,.sl .node false,Yl1,.sl .stt false,Yl1])],1,1,0,[],[]⟩
def Azr:Sig:=⟨2,[(0,.sl .vals true),(1,.int .i64)],[],[(0,.cells [Yc1,Yl1,.bool,Yl1,.sl .node false,Yl1,.sl .stt false,Yl1])],1,1,0,[],[]⟩
abbrev B19:=Tbl×Str×Val×Int×Yb1 UInt8×Bool×Yb1 UInt8×Yb1 NodeS×Yb1 UInt8×Yb1 NodeS×Yb1 UInt8
abbrev Ar9:=Yb1 (Yb1 Val)×Int×Int×Yb1 UInt8×Bool×Yb1 UInt8×Yb1 NodeS×Yb1 UInt8×Yb1 NodeS×Yb1 UInt8
def A67:Sig:=⟨123,[(8,.sl .vals true),(9,.int .i64),(18,.sl .vals true),(19,.int .i64),(76,.sl .kv false),(77,.int .i64),(78,.int .i64)],[(0,.ptr 0 0),(5,.ptr 1 0)],[(0,.cells [Yc1,Yl1,.bool,Yl1,.sl .node false,Yl1,.sl .stt false,Yl1]),(1,.one (.sv .tbl))],2,1,0,[],[]⟩
abbrev Aji:=Yb1 (Yb1 Val)×Int×Yb1 (Yb1 Val)×Int×Yb1 KvS×Int×Int×Int×Yb1 UInt8×Bool×Yb1 UInt8×Yb1 NodeS×Yb1 UInt8×Yb1 NodeS×Yb1 UInt8×Tbl
def Asa{R:Type}(a3:Aji->Ya1 R)(kx:Ex->Aji->Ya1 R)(v:Aji):Ya1 R:=match v with|(x,y,e,a,c,f,b,w11,g,h,i,j,k,l,m,d)=>cond (decide (b<f)) (chk (inb b c.length) ((Btu ((at' .kv c b).key)).bind λ(n,a0)=>cond (!decide (a0=0)) (kx .ret ([],11,e,a,c,f,b,w11,g,h,i,j,k,l,m,d)) (cond (!decide ((n.length:Int)=(wr .i64 (a+(d.key.length:Int))))) (kx .ret ([],11,e,a,c,f,b,w11,g,h,i,j,k,l,m,d)) (chk (upto a n.length n.length) ((Ai3 (d,(n.drop (a:Int).toNat),w11,g,h,i,j,k,l,m)).bind λ(a1,a2,z,o,p,q,r,s,t,u,w)=>cond (!decide (z=0)) (kx .ret ([],z,e,a,c,f,b,o,p,q,r,s,t,u,w,d)) (cond (!a2) (kx .ret ([],11,e,a,c,f,b,o,p,q,r,s,t,u,w,d)) (chk (decide (e.length+1<=Ah)) (a3 (x,y,(e++[a1]),a,c,f,(wr .i64 (b+1)),o,p,q,r,s,t,u,w,d))))))))) (kx (.exit 0) (x,y,e,a,c,f,b,w11,g,h,i,j,k,l,m,d))
def A4s:Sig:=⟨19,[(0,.sl .idx false),(4,.int .i64),(7,.int .i64),(8,.int .i64)],[(1,.fn 47 [.ptr 2 0])],[(0,.cells [Yc1,Yl1,.bool,Yl1,.sl .node false,Yl1,.sl .stt false,Yl1]),(1,.one (.sv .tbl)),(2,.cells [.str]),(3,.one (.sv .val))],120,120,600,[],[]⟩
abbrev Ajm:=Yb1 Idx×Int×Int×Int×Int×Yb1 UInt8×Bool×Yb1 UInt8×Yb1 NodeS×Yb1 UInt8×Yb1 NodeS×Yb1 UInt8×Tbl×Str×Val
def Asz{R:Type}(b:Ajm->Ya1 R)(kx:Ex->Ajm->Ya1 R)(v:Ajm):Ya1 R:=match v with|(v1,v2,v3,v4,w,w1,w2,w3,w4,w5,w6,w7,w8,w9,a)=>cond (decide (v4<v3)) (chk (inb v4 v1.length) (cond (decide (((at' .idx v1 v4).name)=w9)) (kx .ret (v1,v4,v3,v4,w,w1,w2,w3,w4,w5,w6,w7,w8,w9,a)) (b (v1,v2,v3,(wr .i64 (v4+1)),w,w1,w2,w3,w4,w5,w6,w7,w8,w9,a)))) (kx (.exit 0) (v1,v2,v3,v4,w,w1,w2,w3,w4,w5,w6,w7,w8,w9,a))
def A5o(R:Type)(_k:Nat):Px R:=pxO [(52,cA Mw)] [] [] []
def Am3(R:Type)(_k:Nat):Px R:=pxO [] [] [] []
noncomputable def A6g(R:Type)(k:Nat):Px R:=pxO [(47,A0 120 800 (Am3 R k) Tryz.f47)] [] [(2,An k A4s (Asz))] []
noncomputable def Bon(R:Type)(k:Nat):Px R:=pxO [(45,cA Ayt),(38,cA Abe),(37,Ct V2 Vn Kq),(48,cA Bq3),(34,A0 80 400 (A5o R k) Tryz.f34),(46,A0 120 600 (A6g R k) Tryz.f46)] [(36,qA Ms),(35,qA Ad4)] [(17,An k A67 (Asa))] [(21,I4 Al4 Amw Ai3)]
def Rk(k:Nat)(x:B19):Ya1 (Ar9):=match x with
 |(t,ix,v,a,b,c,d,e,f,g,h)=>
 (Gu t).bind λx=>
  cond (!decide (x=0)) (
  some ([],x,a,b,c,d,e,f,g,h)) (
  (A20 [v]).bind λ(_,x2)=>
   cond (!decide (x2=0)) (
   some ([],x2,a,b,c,d,e,f,g,h)) (
   Aj (λae=>Asz ae (λe vz=>match vz with|(_,v6,_,_,v9,i,j,l,m,n,o,p,q,a9,aa)=>match e with
    |.ret=>
    cond (decide (v6<0)) (
     some ([],150,v9,i,j,l,m,n,o,p)) (
     (Ia [[105],a9]).bind λx3=>
     (W2 [x3,[aa]]).bind λ(x4,_)=>
      (Ag2 x4).bind λx6=>
      (Kq (x4,x6,9223372036854775807,v9,i,j,l,m,n,o,p)).bind λ(x7,x8,x9,r,s,u,w,y,z,a0)=>
       cond (!decide (x8=0)) (
       some ([],x8,x9,r,s,u,w,y,z,a0)) (
       chk (inb v6 q.idx.length) (
        Aj (λae=>Asa ae (λe vz=>match vz with|(ab,ac,ad,_,_,_,_,a1,a2,a3,a4,a5,a6,a7,a8,_)=>match e with
        |.ret=>some (ab,ac,a1,a2,a3,a4,a5,a6,a7,a8)
        |.exit 0=>some (ad,0,a1,a2,a3,a4,a5,a6,a7,a8)
        |_=>none)) k ([],0,[],(wr .i64 (2+(((at' .idx q.idx v6).cols).length:Int))),x7,(x7.length:Int),0,x9,r,s,u,w,y,z,a0,q))))
    |.exit 0=>
    some ([],150,v9,i,j,l,m,n,o,p)
    |_=>none)) k (t.idx,0,(t.idx.length:Int),0,a,b,c,d,e,f,g,h,t,ix,v)))
theorem B0m(k:Nat):FM 18 Ayz Azr (Rk k):=fRL (px:=Bon _ k) (n:=1) Tryz.func18 rfl (λcx H=>by have f:Lv cx (A5o (Ar9) k):=lv H (c1 H T7 Ae) Aa Ab;have g:Lv cx (Am3 (Ar9) k):=lv H Ae Aa Ab;have d:Lv cx (A6g (Ar9) k):=lv H (As (cR H g Tryz.func47 rfl (n:=0) (Ai)) Ae) Aa Ab;have a:=lO H d (b:=lp Tryz.f46 0) (k:=k) (n:=0) (s:=A4s) (step:=Asz) (λ_ _ _ (_,_,_,_,_,_,_,_,_,_,_,_,_,_,_)=>by kernel_rfl) Ai;have e:Lv cx (Bon (Ar9) k):=lv H (c1 H Bck (c1 H Anb (l1 H At8 (c1 H Byy (As (cR H f Tryz.func34 rfl (n:=0) (Ai)) (As (cR H d Tryz.func46 rfl (n:=1) (A4 Ai a)) Ae)))))) (q1 H Mt (q1 H Adb Aa)) (w1 H Bu9 Ab);have c:=lO H e (b:=lp Tryz.f18 0) (k:=k) (n:=0) (s:=A67) (step:=Asa) (λ_ _ _ (_,_,_,_,_,_,_,_,_,_,_,_,_,_,_,_)=>by kernel_rfl) Ai;exact⟨e,(A4 Ai c)⟩) λ(_,_,_,_,_,_,_,_,_,_,_)=>by kernel_rfl
def Bge:B19->Ya1 Ar9:=λx=>Rk (5000) x
theorem B2p:FM 18 Ayz Azr (Bge):=FnLn.fin (ι:=Nat) (sg:=Ayz) (so:=Azr) 0 (F:=λk=>Rk k) (λk=>B0m k) λ_ _ _ a=>⟨5000,a⟩
end
noncomputable section
def Aq1:Sig:=⟨59,[(0,.sl .val false),(1,.sl .val false),(5,.int .i64)],[],[],0,0,0,[],[]⟩
abbrev Agf:=Yb1 Val×Yb1 Val×Int
def Un{R:Type}(a:Agf->Ya1 R)(kx:Ex->Agf->Ya1 R)(v:Agf):Ya1 R:=match v with
 |(v,v1,v2)=>
 let j:=λ(p:Bool)=>
  cond (p) (
  chk (inb v2 v.length) (
   chk (inb v2 v1.length) (
   cond (decide ((at' .val v v2)=(at' .val v1 v2))) (
    a (v,v1,(wr .i64 (v2+1)))) (
    kx (.exit 0) (v,v1,v2))))) (
  kx (.exit 0) (v,v1,v2))
 cond (decide (v2<(v.length:Int))) (
  j (decide (v2<(v1.length:Int)))) (
  j false)
def A1m(R:Type)(k:Nat):Px R:=pxO [(41,cA Brg)] [] [(2,An k Aq1 (Un))] []
def Ao4(k:Nat)(x:HV [Yj1,Yj1]):Ya1 (HV [Yc1]):=match x with
 |(a,b)=>
 Aj (λc=>Un c (λe f=>match f with|(v3,v4,v5)=>match e with
  |.exit 0=>
  let d:=λ(p4:Bool)=>
   cond (p4) (
   chk (inb v5 v3.length) (
    chk (inb v5 v4.length) (
    some (A9q (at' .val v3 v5) (at' .val v4 v5))))) (
   cond (decide (v5<(v4.length:Int))) (
    some (-1)) (
    cond (decide (v5<(v3.length:Int))) (
    some 1) (
    some 0)))
  cond (decide (v5<(v3.length:Int))) (
   d (decide (v5<(v4.length:Int)))) (
   d false)
  |_=>none)) k (a,b,0)
theorem Bih(k:Nat):FO 16 [Yj1,Yj1] [Yc1] (Ao4 k):=fR (px:=A1m _ k) (n:=1) Tryz.func16 rfl (λcx H=>by have c:Lv cx (A1m (HV [Yc1]) k):=lv H (c1 H Byh Ae) Aa Ab;have a:=lO H c (b:=lp Tryz.f16 0) (k:=k) (n:=0) (s:=Aq1) (step:=Un) (λ_ _ _ (_,_,_)=>by kernel_rfl) Ai;exact⟨c,(A4 Ai a)⟩) λ(_,_)=>by kernel_rfl
def Be5(a b:Yb1 Val):Ya1 Int:=Ao4 5000 (a,b)
def Be7:FT [Yj1,Yj1] [Yc1]:=λx=>Be5 x.1 x.2
theorem Bv6:FO 16 [Yj1,Yj1] [Yc1] Be7:=.fin 0 Bih λ_ _ _ a=>⟨5000,a⟩
def Ao2:Sig:=⟨162,[(6,.bool),(10,.sl .vals true),(13,.int .i64),(14,.sl .val false),(16,.sl .vals true),(17,.int .i64),(18,.int .i64),(19,.int .i64),(22,.int .i64),(23,.int .i64)],[(3,.ptr 0 0),(7,.ptr 41 0),(12,.ptr 42 0)],[(0,.one (.sv .tbl)),(41,.cells [Yc1,Yl1,.bool,Yl1,.sl .node false,Yl1,.sl .stt false,Yl1]),(42,.one (.sv .idx))],43,0,0,[],[]⟩
abbrev Qf:=Bool×Yb1 (Yb1 Val)×Int×Yb1 Val×Yb1 (Yb1 Val)×Int×Int×Int×Int×Int×Tbl×Int×Yb1 UInt8×Bool×Yb1 UInt8×Yb1 NodeS×Yb1 UInt8×Yb1 NodeS×Yb1 UInt8×Idx
def Amg{R:Type}(w:Qf->Ya1 R)(kx:Ex->Qf->Ya1 R)(v:Qf):Ya1 R:=match v with|(e,c,f,g,a,h,i,d,j,b,k,l,m,n,o,p,q,r,s,t)=>cond (decide (b<(a.length:Int))) (chk (inb b a.length) (chk (inb d c.length) ((Be5 (at' .vals a b) (at' .vals c d)).bind λu=>cond (decide (u=0)) (w (e,c,f,g,a,h,i,d,(wr .i64 (j+1)),(wr .i64 (b+1)),k,l,m,n,o,p,q,r,s,t)) (w (e,c,f,g,a,h,i,d,j,(wr .i64 (b+1)),k,l,m,n,o,p,q,r,s,t))))) (kx (.exit 6) (e,c,f,g,a,h,i,d,j,b,k,l,m,n,o,p,q,r,s,t))
def Akf:Sig:=⟨162,[(6,.bool),(10,.sl .vals true),(13,.int .i64),(14,.sl .val false),(16,.sl .vals true),(17,.int .i64),(18,.int .i64),(19,.int .i64)],[(3,.ptr 0 0),(7,.ptr 41 0),(12,.ptr 42 0)],[(0,.one (.sv .tbl)),(41,.cells [Yc1,Yl1,.bool,Yl1,.sl .node false,Yl1,.sl .stt false,Yl1]),(42,.one (.sv .idx))],43,0,0,[],[]⟩
abbrev Pq:=Bool×Yb1 (Yb1 Val)×Int×Yb1 Val×Yb1 (Yb1 Val)×Int×Int×Int×Tbl×Int×Yb1 UInt8×Bool×Yb1 UInt8×Yb1 NodeS×Yb1 UInt8×Yb1 NodeS×Yb1 UInt8×Idx
def Ana{R:Type}(k:Nat)(ag:Pq->Ya1 R)(kx:Ex->Pq->Ya1 R)(v:Pq):Ya1 R:=match v with
 |(g,a,h,c,i,j,l,b,f,m,n,o,p,q,r,s,t,d)=>
 cond (decide (b<(a.length:Int))) (
  chk (inb b a.length) (
  chk (upto 0 1 d.cols.length) (
   (A34 f (at' .vals a b) (d.cols.take (1:Int).toNat)).bind λ(u,_)=>
   chk (inb 0 c.length) (
    chk (inb 0 u.length) (
    cond (!decide ((at' .val c 0)=(at' .val u 0))) (
     ag (g,a,h,c,i,j,l,(wr .i64 (b+1)),f,m,n,o,p,q,r,s,t,d)) (
     Aj (λrc=>Amg rc (λe vz=>match vz with|(ad,w,x,y,z,a0,a1,a2,ae,_,a3,a4,a5,a6,a7,a8,a9,aa,ab,ac)=>match e with
     |.exit 6=>
      cond (!decide (ae=1)) (
      kx .ret (false,w,x,y,z,a0,a1,a2,a3,a4,a5,a6,a7,a8,a9,aa,ab,ac)) (
      ag (ad,w,x,y,z,a0,a1,(wr .i64 (a2+1)),a3,a4,a5,a6,a7,a8,a9,aa,ab,ac))
     |_=>none)) k (g,a,h,c,i,j,(wr .i64 (l+1)),b,0,0,f,m,n,o,p,q,r,s,t,d))))))) (
  kx (.exit 4) (g,a,h,c,i,j,l,b,f,m,n,o,p,q,r,s,t,d))
def Apn:Sig:=⟨162,[(6,.bool),(10,.sl .vals true),(13,.int .i64)],[(3,.ptr 0 0),(7,.ptr 41 0),(12,.ptr 42 0)],[(0,.one (.sv .tbl)),(41,.cells [Yc1,Yl1,.bool,Yl1,.sl .node false,Yl1,.sl .stt false,Yl1]),(42,.one (.sv .idx))],43,0,0,[],[]⟩
abbrev Ov:=Bool×Yb1 (Yb1 Val)×Int×Tbl×Int×Yb1 UInt8×Bool×Yb1 UInt8×Yb1 NodeS×Yb1 UInt8×Yb1 NodeS×Yb1 UInt8×Idx
def Ala{R:Type}(k:Nat)(ag:Ov->Ya1 R)(kx:Ex->Ov->Ya1 R)(v:Ov):Ya1 R:=match v with
 |(t,a,b,d,w11,u,w,x,y,z,a0,a1,c)=>
 cond (decide (b<(a.length:Int))) (
  chk (inb b a.length) (
  chk (upto 0 1 c.cols.length) (
   (A34 d (at' .vals a b) (c.cols.take (1:Int).toNat)).bind λ(s,_)=>
   chk (inb 0 s.length) (
    (Bge (d,c.name,(at' .val s 0),w11,u,w,x,y,z,a0,a1)).bind λ(a3,a4,a5,a6,a7,a8,a9,aa,ab,ac)=>
    Aj (λrc=>Ana k rc (λe vz=>match vz with|(a2,f,g,_,ad,ae,af,_,h,i,j,l,m,n,o,p,q,r)=>match e with
     |.ret=>
     kx .ret (a2,f,g,h,i,j,l,m,n,o,p,q,r)
     |.exit 4=>
     cond (!decide (ae=0)) (
      kx .ret (false,f,g,h,i,j,l,m,n,o,p,q,r)) (
      cond (!decide ((ad.length:Int)=af)) (
      kx .ret (false,f,g,h,i,j,l,m,n,o,p,q,r)) (
      ag (a2,f,(wr .i64 (g+1)),h,i,j,l,m,n,o,p,q,r)))
     |_=>none)) k (t,a,b,s,a3,a4,0,0,d,a5,a6,a7,a8,a9,aa,ab,ac,c))))) (
  kx (.exit 2) (t,a,b,d,w11,u,w,x,y,z,a0,a1,c))
def Am9:Sig:=⟨162,[(1,.sl .vals false),(2,.int .i64),(6,.bool),(9,.int .i64)],[(3,.ptr 0 0),(7,.ptr 41 0)],[(0,.one (.sv .tbl)),(41,.cells [Yc1,Yl1,.bool,Yl1,.sl .node false,Yl1,.sl .stt false,Yl1])],42,0,0,[],[]⟩
abbrev Pe:=Yb1 (Yb1 Val)×Int×Bool×Int×Tbl×Int×Yb1 UInt8×Bool×Yb1 UInt8×Yb1 NodeS×Yb1 UInt8×Yb1 NodeS×Yb1 UInt8
def Alm{R:Type}(h:Pe->Ya1 R)(kx:Ex->Pe->Ya1 R)(v:Pe):Ya1 R:=match v with|(v9,b,c,a,w1,w2,w3,w4,w5,w6,w7,w8,w9)=>cond (decide (a<(v9.length:Int))) (chk (inb a v9.length) ((A0m (w1,(at' .vals v9 a),w2,w3,w4,w5,w6,w7,w8,w9)).bind λ(_,i,j,k,l,d,e,f,g)=>h (v9,b,c,(wr .i64 (a+1)),w1,i,j,k,l,d,e,f,g))) (kx (.exit 0) (v9,b,c,a,w1,w2,w3,w4,w5,w6,w7,w8,w9))
def An7:Sig:=⟨162,[(1,.sl .vals false),(2,.int .i64),(6,.bool),(9,.int .i64)],[(3,.ptr 0 0),(7,.nilp)],[(0,.one (.sv .tbl))],1,0,0,[],[]⟩
abbrev T4:=Yb1 (Yb1 Val)×Int×Bool×Int×Tbl
def Bdb{R:Type}(_:T4->Ya1 R)(kx:Ex->T4->Ya1 R)(v:T4):Ya1 R:=match v with|(v,v1,v2,v3,w)=>cond (decide (v3<(v.length:Int))) (chk (inb v3 v.length) (none)) (kx (.exit 0) (v,v1,v2,v3,w))
def A3y(R:Type)(_k:Nat):Px R:=pxO [(29,cA S9),(30,cA Aog)] [] [] []
noncomputable def Sv(R:Type)(k:Nat):Px R:=pxO [(7,cA Bct),(17,cA Ap7),(8,cA Avp),(13,Ct Ajl Ajg A0m),(14,Ct Ac4 Ab3 Ajb),(16,cA Be7),(12,A0 40 200 (A3y R k) Tryz.f12)] [(15,qA Bgi)] [(5,A00 k An7 (Bdb) (An k Am9 (Alm))),(26,An k Ao2 (Amg)),(19,An k Akf (Ana k)),(13,An k Apn (Ala k))] [(18,I4 Ayz Azr Bge)]
theorem Bpk(R:Type)(k:Nat):∀(fr:Yb1 Fr) (a:T4->Ya1 R) (kx:Ex->T4->Ya1 R) (v:T4),round (Sv R k) An7 (lp Tryz.f5 0) fr a kx v=Bdb a kx v
 |fr,a,kx,(v,v1,v2,v3,w)=>by kernel_rfl
theorem Bsd(R:Type)(k:Nat):∀(fr:Yb1 Fr) (d:Pe->Ya1 R) (kx:Ex->Pe->Ya1 R) (v:Pe),round (Sv R k) Am9 (lp Tryz.f5 0) fr d kx v=Alm d kx v
 |fr,d,kx,(v9,a,b,c,w1,w2,w3,w4,w5,w6,w7,w8,w9)=>by kernel_rfl
theorem Bsl(R:Type)(k:Nat):∀(fr:Yb1 Fr) (w:Qf->Ya1 R) (kx:Ex->Qf->Ya1 R) (v:Qf),round (Sv R k) Ao2 (lpC (lpC (lp Tryz.f5 1) 0) 0) fr w kx v=Amg w kx v
 |fr,w,kx,(a,b,c,d,e,f,g,h,i,j,l,m,n,o,p,q,r,s,t,u)=>by kernel_rfl
theorem Bpu(R:Type)(k:Nat):∀(fr:Yb1 Fr) (t:Pq->Ya1 R) (kx:Ex->Pq->Ya1 R) (v:Pq),round (Sv R k) Akf (lpC (lp Tryz.f5 1) 0) fr t kx v=Ana k t kx v
 |fr,t,kx,(a,b,c,d,e,f,g,h,i,j,l,m,n,o,p,q,r,s)=>by kernel_rfl
theorem Bnf(R:Type)(k:Nat):∀(fr:Yb1 Fr) (n:Ov->Ya1 R) (kx:Ex->Ov->Ya1 R) (v:Ov),round (Sv R k) Apn (lp Tryz.f5 1) fr n kx v=Ala k n kx v
 |fr,n,kx,(a,b,c,d,w11,e,f,g,h,i,j,l,m)=>by kernel_rfl
def Ace(k:Nat)(x:HV [Yh1,.sl .vals false,Yc1]):Ya1 (HV [.bool]):=match x with
 |(t,l,q)=>
 let j1:=λ(p2:Bool)=>
  cond (p2) (
  (Ajx).bind λx2=>some x2) (
  (O4 (NodeS.mk 0 [] false [] [] [])).bind λx3=>
   cond (!decide (x3=0)) (
   Aj (λa5=>Bdb a5 (λe vz=>match vz with|(_,_,_,_,_)=>match e with
    |.exit 0=>
    none
    |_=>none)) k (l,q,false,0,t)) (
   (Amt (NodeS.mk 0 [] false [] [] [])).bind λx4=>
    Aj (λa5=>Alm a5 (λe vz=>match vz with|(_,b,c,_,a,d,f,g,h,i,m,n,o)=>match e with
    |.exit 0=>
     (Ajb (a,d,f,g,h,i,m,n,o)).bind λ(r,s,u,v,w,y,z,a0,a1,a2)=>
     cond (!decide (s=0)) (
      some false) (
      chk (!decide ((wr .u64 (a.idx.length:Int))=0)) (
      chk (inb (wr .i64 (Int.tmod (wr .u64 b) (wr .u64 (a.idx.length:Int)))) a.idx.length) (
       Aj (λa5=>Ala k a5 (λe vz=>match vz with|(a3,_,_,_,_,_,_,_,_,_,_,_,_)=>match e with
       |.ret=>some a3
       |.exit 2=>
        (Ajx).bind λa4=>
        some a4
       |_=>none)) k (c,r,0,a,u,v,w,y,z,a0,a1,a2,(at' .idx a.idx (wr .i64 (Int.tmod (wr .u64 b) (wr .u64 (a.idx.length:Int)))))))))
    |_=>none)) k (l,q,false,0,t,x4.kind,x4.path,x4.has,x4.val,x4.kids,x4.hash,[],[])))
 (Bvi t l).bind λx=>
  let j:=λ(p:Bool)=>
  cond (p) (
   j1 true) (
   (Akk t).bind λx1=>
   j1 (!decide (x1=0)))
  cond (x) (
  j true) (
  j (decide ((t.idx.length:Int)=0)))
theorem B0s(k:Nat):FO 5 [Yh1,.sl .vals false,Yc1] [.bool] (Ace k):=fR (px:=Sv _ k) (n:=4) Tryz.func5 rfl (λcx H=>by have h:Lv cx (A3y (HV [.bool]) k):=lv H (c1 H Xr (c1 H As6 Ae)) Aa Ab;have g:Lv cx (Sv (HV [.bool]) k):=lv H (c1 H Bqh (c1 H Bhs (c1 H A92 (l1 H Bwy (l1 H Bwj (c1 H Bv6 (As (cR H h Tryz.func12 rfl (n:=0) (Ai)) Ae))))))) (q1 H Bub Aa) (w1 H B2p Ab);have e:Bp cx (Sv (HV [.bool]) k) (lp Tryz.f5 0):=Bzr (λ_ _=>by kernel_rfl) (Bmb (A51 g.p g.c g.q (by rw[H.p];exact follows) (k:=k) (s:=An7) (step:=Bdb) (by kernel_rfl) (Bpk _ k) (Qz (n:=0) (by kernel_rfl) Ai)) (A51 g.p g.c g.q (by rw[H.p];exact follows) (k:=k) (s:=Am9) (step:=Alm) (by kernel_rfl) (Bsd _ k) (Qz (n:=0) (by kernel_rfl) Ai)));have a:=lO H g (b:=lpC (lpC (lp Tryz.f5 1) 0) 0) (k:=k) (n:=0) (s:=Ao2) (step:=Amg) (Bsl _ k) Ai;have d:=lO H g (b:=lpC (lp Tryz.f5 1) 0) (k:=k) (n:=1) (s:=Akf) (step:=Ana k) (Bpu _ k) (A4 Ai a);have f:=lO H g (b:=lp Tryz.f5 1) (k:=k) (n:=2) (s:=Apn) (step:=Ala k) (Bnf _ k) (A4 (A4 Ai d) a);exact⟨g,(A4 (A4 (A4 (A4 Ai e) f) d) a)⟩) λ(_,_,_)=>by kernel_rfl
end
def wV(s:Str):Val:=⟨4,0,s⟩
theorem But{l:Yb1 Str}(h:l.length<=4000)(k:Nat)(f : 4000<k):Lw k l=some (l.map wV):=by
 have b:ln l.length:=by simp only[ln];omega
 simp only[Lw];refine(Cb (β:=Yb1 Val) l.length (λi acc=>(acc,l,(l.length:Int),(i:Int))) (λi acc=>acc.length=i) (λi acc=>some (acc++(l.drop i).map wV)) (λi hi acc d a e=>?_) (λacc _ a=>?_) k 0 [] (Nat.zero_le _) (by omega) rfl).trans (by rw[Zq1];rfl)
 ·simp only[S3,Cs hi,Af,Ao hi,chk,Al (c:=.str) hi,Am hi b,Ak hi,Zw1];rw[Ze1 (by simp only[Ah];omega),Af,e _ (by simp[d])];simp[wV,A2p]
 ·simp only[S3,C4,Ag];simp
theorem G5{l:Yb1 Str}(h:l.length<=4000):Ia l=some (l.map wV):=But h 5000 (by omega)
theorem Aem{l:Yb1 (Yb1 α)}(h:i<l.length):(l.take (i+1)).flatten=(l.take i).flatten++l[i]:=by have e:=congrArg List.flatten (List.take_append_getElem h);rw[List.flatten_append]at e;rw[<-e];simp only[Zz1,List.flatten_nil,List.append_nil]
theorem Bfd(l:Yb1 (Yb1 α))(i:Nat):(l.take i).flatten.length<=l.flatten.length:=by have:=congrArg (λq=>q.flatten.length) (List.take_append_drop i l);simp only[List.flatten_append,Zh1]at this;omega
theorem B3t{l:Yb1 (Yb1 Val)}(h:l.length<=4000)(n:l.flatten.length<=1000000)(k:Nat)(o : 4000<k):U6 k l=some l.flatten:=by
 have j:ln l.length:=by simp only[ln];omega
 simp only[U6];refine(Cb (β:=Nat) l.length (λi a=>(l,(a:Int),l,(l.length:Int),(i:Int))) (λi a=>a=(l.take i).flatten.length) (λ_ _=>some l.flatten) (λi hi a d b f=>?_) (λa d b=>?_) k 0 0 (Nat.zero_le _) (by omega) (by simp)).trans rfl
 ·have m:=Bfd l (i+1);have g:=congrArg List.length (Aem hi);rw[Zh1]at g;have e:wr .i64 ((a:Int)+(l[i].length:Int))=((a+l[i].length:Nat):Int):=by rw[Be (by simp[inI];omega)];omega
  simp only[Aj2,Cs hi,Af,Ao hi,chk,Al (c:=.vals) hi,Am hi j,e];rw[Zd1 (by omega),Ag];exact f _ (by omega)
 ·rw[List.take_length]at d;subst d;simp only[Aj2,C4,Ag,chk];rw[Ze1 (show(0:Int)<=(l.flatten.length:Int) by omega),Ze1 (show(l.flatten.length:Int)<=2000000 by omega),Bool.and_true,Af];refine(Cb (β:=Yb1 Val) l.length (λi acc=>(acc,l,(l.length:Int),(i:Int))) (λi acc=>acc=(l.take i).flatten) (λi acc=>some (acc++(l.drop i).flatten)) (λi hi acc d b f=>?_) (λacc _ b=>?_) k 0 [] (Nat.zero_le _) (by omega) (by simp)).trans (by rw[Zq1];rfl)
  ·have m:=Bfd l (i+1);have g:=congrArg List.length (Aem hi);rw[Zh1]at g;subst d;simp only[Aly,Cs hi,Af,Ao hi,chk,Al (c:=.vals) hi,Am hi j,Ak hi,Zz1];rw[Ze1 (by simp only[Ah];omega),Af,f _ (Aem hi).symm,Zj1]
  ·simp only[Aly,C4,Ag];simp
theorem Bx8{l:Yb1 (Yb1 Val)}(h:l.length<=4000)(a:l.flatten.length<=1000000):B29 l=some l.flatten:=B3t h a 5000 (by omega)
theorem A42{v:Val}(h:Aq v=true):v.s.length<=1000:=by rcases Dq.1 h with ⟨_,_,h⟩|⟨_,_,h⟩|⟨_,h⟩|⟨_,_,h,_⟩|⟨_,_,h⟩<;>first|exact h|(rw[h];simp)
theorem Aup:∀{l:Yb1 Val},(∀v,v∈l->Aq v=true)->vsz l<=1001*l.length
 |[],_=>by simp[vsz]
 |v::l,h=>by have b:=A42 (h v (by simp));have c:=Aup (l:=l) λq a=>h q (by simp[a]);simp only[vsz,Zf1];omega
theorem A8q{l:Yb1 Val}(h:∀v,v∈l->Aq v=true)(a:l.length<=900):A20 l=some (Bz l,0):=by have:=Aup h;rw[A20,Ze1 (by omega),Af,Zg2.2 h];rfl
theorem Ir{l:Yb1 (Yb1 Val)}(a:l.length<=4000)(h:∀v,v∈l.flatten->Aq v=true)(b:l.flatten.length<=900):W2 l=some (Bz l.flatten,0):=by rw[W2,Aeo,Bx8 a (by omega),Zc1,A8q h b];rfl
variable{r:Yb1 Val}
theorem Bdv{l:Yb1 Str}(h:l.length<=4000)(m:r.length=t.cols.length)(k:Nat)(n : 4000<k):Ql k (t,r,l)=some (Bg t.cols r l []):=by
 have d:ln l.length:=by simp only[ln];omega
 simp only[Ql];rw[Ze1 (by omega),Zt1,Ag];refine(Cb (β:=Yb1 Val) l.length (λi acc=>(r,l,[],0,acc,(i:Int),t)) (λi acc=>acc.length=i) (λi acc=>some (Bg t.cols r (l.drop i) acc)) (λi hi acc f a g=>?_) (λacc _ a=>?_) k 0 [] (Nat.zero_le _) (by omega) rfl).trans (by rw[Zq1])
 ·simp only[Ab1,Cs hi,Af,Ao hi,chk,Al (c:=.str) hi,Am hi d,Ak hi,Bg,Art];by_cases b:B3 t.cols l[i]<0
  ·rw[Ze1 b];rfl
  ·obtain⟨j,o,e,_⟩:=Am8 b;rw[Zd1 b,Ag,Ag,e,Ao (by omega),Af,Ze1 (by simp only[Ah];omega),Af,g _ (by simp[f])]
 ·simp only[Ab1,C4,Ag];rw[Zk1 (Zn1 _)];rfl
theorem A69{l:Yb1 Str}(b:l.length<=4000)(a:r.length=t.cols.length):Aqx t r l=some (Bg t.cols r l []):=by rw[Aqx,Ze1 (by omega),Af,Ze1 a,Af]
theorem Ber(h:(Jj s).2=0):(decide (s.kind=1)&&Bn s)=true/\Jz ⟨s.name,s.cols,s.names,[],[]⟩ s.names=true/\Hy s.cols s.l=0:=by
 simp only[Jj]at h;generalize (decide (s.kind=1)&&Bn s)=b1 at h ⊢;generalize Jz ⟨s.name,s.cols,s.names,[],[]⟩ s.names=b2 at h ⊢;cases b1 with
 |false=>simp at h
 |true=>
  cases b2 with
  |false=>simp at h
  |true=>
   by_cases hc:Hy s.cols s.l=0
   ·exact⟨rfl,rfl,hc⟩
   ·simp[hc]at h
theorem Ku(h:Ee t=true):(Jj (Fu t)).2=0/\A6 t.idx=true/\t.idx.length<=100/\∀x,x∈t.idx->Jf t x=true:=by simp only[Ee,Zb1,Zg1,Zg2]at h;exact h
theorem V5(h:Ey t row=0):Ee t=true/\Gb t.cols row=true:=by
 simp only[Ey]at h;cases a:Ee t with
 |false=>rw[a]at h;simp at h
 |true=>cases b:Gb t.cols row with|false=>rw[a,b]at h;simp at h|true=>exact⟨rfl,rfl⟩
theorem A45:∀{l seen:Yb1 Str},Mm seen l=true->∀s,s∈l->B7 s=true
 |[],_,_,s,a=>by cases a
 |x::l,seen,h,s,a=>by
  simp only[Mm,Zb1]at h;rcases List.mem_cons.1 a with rfl|a
  ·exact h.1.1
  ·exact A45 h.2 s a
theorem Abf{l:Yb1 Str}(h:Dn l=true):l.length<=100/\∀s,s∈l->B7 s=true:=by simp only[Dn,Zb1,Zg1]at h;exact⟨h.2,A45 h.1⟩
theorem Bkr:((List.range 256).all λn=> !Lp.isIn (n:Int)||vis (UInt8.ofNat n))=true:=by kernel_rfl
theorem A2g{p:UInt8->Bool}:∀{l:Str},(l.takeWhile p).length=l.length->∀b,b∈l->p b=true
 |[],_,b,h=>by cases h
 |c::l,h,b,hb=>by
  cases hc:p c with
  |false=>rw[List.takeWhile_cons,hc]at h;simp at h
  |true=>
   rw[List.takeWhile_cons,hc]at h;rcases List.mem_cons.1 hb with rfl|hb
   ·exact hc
   ·exact A2g (l:=l) (by simpa using h) b hb
theorem E5{s:Str}(h:B7 s=true):Aq (wV s)=true:=by
 simp only[Lp.nameF,Zb1,Zg1,Lp.runTo]at h;have a:=h.2;simp at a;refine Dq.2 (.inr (.inr (.inr (.inl ⟨rfl,rfl,by simp only[wV];omega,?_⟩))));simp only[wV,Hv,Zg2];intro c hc;have d:=Zg2.1 Bkr c.toNat (List.mem_range.2 c.toNat_lt);have e:Lp.isIn (c.toNat:Int)=true:=by
  first
   |exact A2g (p:=λb=>Lp.isIn (b.toNat:Int)) (by omega) c hc
   |exact a c hc
 rw[UInt8.ofNat_toNat,e]at d;simpa using d
structure FitR (t:Tbl) (r:List Val):Prop where
 name:B7 t.name=true
 cols:∀c,c∈t.cols->B7 c.name=true/\(c.ref=[]\/B7 c.ref=true)
 ncols:t.cols.length<=100
 nkey:t.key.length<=100
 nidx:t.idx.length<=100
 key:∀s,s∈t.key->¬B3 t.cols s<0
 idx:∀x,x∈t.idx->B7 x.name=true/\x.cols.length<=100/\∀s,s∈x.cols->¬B3 t.cols s<0
 len:r.length=t.cols.length
 right:∀v,v∈r->Aq v=true
theorem Tl(h:Ee t=true):t.cols.length<=100/\t.key.length<=100/\t.checks.length<=100/\B7 t.name=true/\(∀c,c∈t.cols->B7 c.name=true/\(c.ref=[]\/B7 c.ref=true)):=by
 have a:=(Ber (Ku h).1).1;simp only[Fu,Bn,if_true,decide_true,Bool.true_and,Zb1]at a;obtain⟨⟨e,_⟩,⟨⟨⟨⟨f,_⟩,b4⟩,_⟩,g⟩,b⟩:=a;have c1:=Abf b4;have c2:=Abf g;have i:t.checks.length<=100:=by simp only[Gy,Zb1,Zg1]at b;exact b.1
 refine⟨by simpa using c1.1,c2.1,i,e,λc hc=>⟨c1.2 _ (List.mem_map.2 ⟨c,hc,rfl⟩),?_⟩⟩;have d:=Zg2.1 f c hc;simp only[H8,Zb1,Zd2,Zg1]at d;exact d.2
theorem Ft(h:Ey t r=0):FitR t r:=by
 obtain⟨a,g⟩:=V5 h;obtain⟨k,l,_,m,n⟩:=Tl a;have o:=Lb g;refine⟨m,n,k,l,(Ku a).2.2.1,λs c=>?_,λx p=>?_,o.symm,λv hv=>?_⟩
 ·have b:(!decide (B3 t.cols s<0))=true:=Zg2.1 (Ber (Ku a).1).2.1 s c;simpa using b
 ·have b:=(Ku a).2.2.2 x p;simp only[Jf,Zb1]at b;obtain⟨d,q⟩:=b;simp only[Bn,B1,Zb1]at d;have j:(B7 t.name&&C7 (x.cols.length:Int)&&Dn x.cols)=true:=d.2;simp only[Zb1]at j;obtain⟨e,_⟩:=Abf j.2;refine⟨d.1.1,e,λs c=>?_⟩;have f:(!decide (B3 t.cols s<0))=true:=Zg2.1 q s c;simpa using f
 ·obtain⟨i,hi,rfl⟩:=List.getElem_of_mem hv;exact(Asl.1 (Yu g i (by omega) hi)).1
theorem Oz(f:FitR t r){l:Yb1 Str}(b:∀s,s∈l->¬B3 t.cols s<0)(P:Val->Prop)(g:∀v,v∈r->P v):∀v,v∈(Bg t.cols r l []).1->P v:=by
 refine(Bf3 (P:=P) (λs d=>⟨b s d,?_⟩) (λv hv=>by cases hv)).2;obtain⟨i,hi,e,_⟩:=Am8 (b s d);have a:i<r.length:=by rw[f.len];exact hi
 rw[e,Al (c:=.val) a];exact g _ (List.getElem_mem a)
theorem Ak5{cols:Yb1 Col}{l:Yb1 Str}(h:l.length<=100):(Bg cols row l []).1.length<=100:=by have:=A2n (cols:=cols) (row:=row) (l:=l) (acc:=[]);simp only[Zi1,Nat.zero_add]at this;omega
def Alb(p:KvS):Bool:=decide (p.key.length<=200)&&decide (p.val.length<=4000)
def eKv(p:KvS):Int:=cond (Alb p) 0 3
def nxE(e:Int)(p:KvS):Int:=cond (decide (e=0)) (eKv p) e
def Hq:Int->Yb1 KvS->Int|e,[]=>e|e,p::l=>Hq (nxE e p) l
def pkV(t:Tbl)(r:Yb1 Val):Yb1 Val:=(Bg t.cols r t.key []).1
def Dd(t:Tbl)(r:Yb1 Val):KvS:=⟨Bz (wV [114]::wV t.name::pkV t r),(H6 r).1⟩
def F9(t:Tbl)(r:Yb1 Val)(x:Idx):KvS:=⟨Bz (wV [105]::wV x.name::((Bg t.cols r x.cols []).1++pkV t r)),[]⟩
def Afp(t:Tbl)(r:Yb1 Val)(c:Col)(v:Val):KvS:=⟨Bz [wV [117],wV t.name,wV c.name,v],(H6 (pkV t r)).1⟩
def Ae4(t:Tbl)(r:Yb1 Val)(c:Col)(v:Val):KvS:=⟨Bz (wV [102]::wV c.ref::v::wV t.name::wV c.name::pkV t r),[]⟩
def Fw(t:Tbl)(r:Yb1 Val):Yb1 Col->Yb1 Val->Yb1 KvS|c::cs,v::vs=>cond (c.unique && !decide (v.kind=1)) (Afp t r c v::Fw t r cs vs) (Fw t r cs vs)|_,_=>[]
def Ic(t:Tbl)(r:Yb1 Val):Yb1 Col->Yb1 Val->Yb1 KvS|c::cs,v::vs=>cond (!decide (c.ref=[]) && !decide (v.kind=1)) (Ae4 t r c v::Ic t r cs vs) (Ic t r cs vs)|_,_=>[]
theorem Btr(e:Int)(k v:Str):nxE e ⟨k,v⟩=cond (decide (e=0)) (cond (decide (200<(k.length:Int))) 3 (cond (decide (4000<(v.length:Int))) 3 0)) e:=by simp only[nxE,eKv,Alb];rw[show decide (k.length<=200) = !decide (200<(k.length:Int)) by rw[<-decide_not];exact Zy1.2 (by omega),show decide (v.length<=4000) = !decide (4000<(v.length:Int)) by rw[<-decide_not];exact Zy1.2 (by omega)];cases decide (e=0)<;>cases decide (200<(k.length:Int))<;>cases decide (4000<(v.length:Int))<;>rfl
theorem Bof(e:Int)(k:Str):nxE e ⟨k,[]⟩=cond (decide (e=0)) (cond (decide (200<(k.length:Int))) 3 0) e:=by rw[Btr];rfl
section
variable {t:Tbl}{r:Yb1 Val}
theorem Wj(f:FitR t r):∀v,v∈pkV t r->Aq v=true:=Oz f f.key _ f.right
theorem Ug(f:FitR t r):(pkV t r).length<=100:=Ak5 f.nkey
theorem Ki:Aq (wV [114])=true/\Aq (wV [105])=true/\Aq (wV [117])=true/\Aq (wV [102])=true:=⟨by kernel_rfl,by kernel_rfl,by kernel_rfl,by kernel_rfl⟩
theorem A6q(f:FitR t r):W2 [[wV [114],wV t.name],pkV t r]=some ((Dd t r).key,0):=by
 have:=Ug f;have e:[[wV [114],wV t.name],pkV t r].flatten=wV [114]::wV t.name::pkV t r:=by simp
 rw[Ir (by simp) (λv hv=>?_) (by rw[e];simp;omega),e]
 ·rfl
 ·rw[e]at hv;rcases List.mem_cons.1 hv with rfl|hv
  ·exact Ki.1
  rcases List.mem_cons.1 hv with rfl|hv
  ·exact E5 f.name
  ·exact Wj f v hv
variable{x:Idx}
theorem Avc(f:FitR t r)(a:x∈t.idx):(∀v,v∈wV [105]::wV x.name::((Bg t.cols r x.cols []).1++pkV t r)->Aq v=true)/\(wV [105]::wV x.name::((Bg t.cols r x.cols []).1++pkV t r)).length<=900:=by
 obtain⟨b,c,d⟩:=f.idx x a;have:=Ug f;have:=Ak5 (cols:=t.cols) (row:=r) c;refine⟨λv hv=>?_,by simp;omega⟩;rcases List.mem_cons.1 hv with rfl|hv
 ·exact Ki.2.1
 rcases List.mem_cons.1 hv with rfl|hv
 ·exact E5 b
 rcases List.mem_append.1 hv with hv|hv
 ·exact Oz f d _ f.right v hv
 ·exact Wj f v hv
theorem Bp8(f:FitR t r)(a:x∈t.idx):W2 [[wV [105],wV x.name],(Bg t.cols r x.cols []).1,pkV t r]=some ((F9 t r x).key,0):=by
 obtain⟨b,c⟩:=Avc f a;have e:[[wV [105],wV x.name],(Bg t.cols r x.cols []).1,pkV t r].flatten=wV [105]::wV x.name::((Bg t.cols r x.cols []).1++pkV t r):=by simp
 rw[Ir (by simp) (by rw[e];exact b) (by rw[e];exact c),e];rfl
theorem Bg5(f:FitR t r){c:Col}(hc:c∈t.cols){v:Val}(hv:v∈r):∀q,q∈[wV [117],wV t.name,wV c.name,v]->Aq q=true:=by
 intro q a;simp only[List.mem_cons,List.not_mem_nil,or_false]at a;rcases a with rfl|rfl|rfl|rfl
 ·exact Ki.2.2.1
 ·exact E5 f.name
 ·exact E5 (f.cols c hc).1
 ·exact f.right _ hv
theorem Bp6(f:FitR t r){c:Col}(hc:c∈t.cols){v:Val}(hv:v∈r):W2 [[wV [117],wV t.name,wV c.name],[v]]=some ((Afp t r c v).key,0):=by have e:[[wV [117],wV t.name,wV c.name],[v]].flatten=[wV [117],wV t.name,wV c.name,v]:=rfl;rw[Ir (by simp) (by rw[e];exact Bg5 f hc hv) (by rw[e];simp),e];rfl
theorem Bk5(f:FitR t r){c:Col}(hc:c∈t.cols)(b:¬c.ref=[]){v:Val}(hv:v∈r):(∀q,q∈wV [102]::wV c.ref::v::wV t.name::wV c.name::pkV t r->Aq q=true)/\(wV [102]::wV c.ref::v::wV t.name::wV c.name::pkV t r).length<=900:=by
 have:=Ug f;refine⟨λq a=>?_,by simp;omega⟩;simp only[List.mem_cons]at a;rcases a with rfl|rfl|rfl|rfl|rfl|a
 ·exact Ki.2.2.2
 ·exact E5 ((f.cols c hc).2.resolve_left b)
 ·exact f.right _ hv
 ·exact E5 f.name
 ·exact E5 (f.cols c hc).1
 ·exact Wj f q a
theorem Bq9(f:FitR t r){c:Col}(hc:c∈t.cols)(a:¬c.ref=[]){v:Val}(hv:v∈r):W2 [[wV [102],wV c.ref],[v],[wV t.name,wV c.name],pkV t r]=some ((Ae4 t r c v).key,0):=by
 obtain⟨b,d⟩:=Bk5 f hc a hv;have e:[[wV [102],wV c.ref],[v],[wV t.name,wV c.name],pkV t r].flatten=wV [102]::wV c.ref::v::wV t.name::wV c.name::pkV t r:=by simp
 rw[Ir (by simp) (by rw[e];exact b) (by rw[e];exact d),e];rfl
variable{w2:Int}
theorem Axy{kx:Ex->We->Ya1 R}(f:FitR t r){w1 w5 w7:Yb1 KvS}{w6 w8:Int}{c:Yb1 KvS->Int->Ya1 R}(j:∀l e,kx (.exit 0) (r,pkV t r,t.idx,(t.idx.length:Int),(t.idx.length:Int),t,w1,w2,l,e,w5,w6,w7,w8)=c l e)(k:Nat)(p : 200<k) :
  Aj (λb=>Pm b kx) k (r,pkV t r,t.idx,(t.idx.length:Int),0,t,w1,w2,[],0,w5,w6,w7,w8)=c (t.idx.map (F9 t r)) (Hq 0 (t.idx.map (F9 t r))):=by
 have q:=f.nidx;have g:ln t.idx.length:=by simp only[ln];omega
 refine(Cb (β:=Yb1 KvS×Int) t.idx.length (λi a=>(r,pkV t r,t.idx,(t.idx.length:Int),(i:Int),t,w1,w2,a.1,a.2,w5,w6,w7,w8)) (λi a=>a.1.length=i) (λi a=>c (a.1++(t.idx.drop i).map (F9 t r)) (Hq a.2 ((t.idx.drop i).map (F9 t r)))) (λi hi a m b n=>?_) (λa _ b=>?_) k 0 ([],0) (Nat.zero_le _) (by omega) rfl).trans (by rw[Zq1];rfl)
 ·have h:=List.getElem_mem hi;have d:=n (a.1++[F9 t r t.idx[i]],nxE a.2 (F9 t r t.idx[i])) (by simp[m]);have o:=(f.idx _ h).2.1;simp only[Pm,Cs hi,Af,Ao hi,chk,Al (c:=.idx) hi,Am hi g,A69 (show t.idx[i].cols.length<=4000 by omega) f.len,Zc1,G5 (show [[105],t.idx[i].name].length<=4000 by simp),Zw1,List.map_nil,Bp8 f h,Ak hi,Hq,decide_true];rw[Ze1 (show a.1.length+1<=Ah by simp only[Ah];omega)];have e:nxE a.2 (F9 t r t.idx[i])=cond (decide (a.2=0)) (cond (decide (200<((F9 t r t.idx[i]).key.length:Int))) 3 0) a.2:=Bof _ _;rw[Zj1,List.singleton_append]at d;rw[<-d,e];have e2:F9 t r t.idx[i]=⟨(F9 t r t.idx[i]).key,[]⟩:=rfl;rw[<-e2];cases decide (a.2=0)<;>cases decide (200<((F9 t r t.idx[i]).key.length:Int))<;>rfl
 ·simp only[Pm,C4,Ag,j];rw[Zk1 (Zn1 _),List.map_nil,List.append_nil];rfl
theorem Ay2{kx:Ex->U7->Ya1 R}(f:FitR t r){w1 w3:Yb1 KvS}{w4:Int}{c:Yb1 KvS->Int->Yb1 KvS->Int->Ya1 R}(y:∀l e m g,kx (.exit 2) (r,pkV t r,(H6 (pkV t r)).1,t.cols,(t.cols.length:Int),(t.cols.length:Int),t,w1,w2,w3,w4,l,e,m,g)=c l e m g)(k:Nat)(hk : 200<k) :
  Aj (λh=>Oy h kx) k (r,pkV t r,(H6 (pkV t r)).1,t.cols,(t.cols.length:Int),0,t,w1,w2,w3,w4,[],0,[],0)=c (Fw t r t.cols r) (Hq 0 (Fw t r t.cols r)) (Ic t r t.cols r) (Hq 0 (Ic t r t.cols r)):=by
 have hn:=f.ncols;have n:ln t.cols.length:=by simp only[ln];omega
 refine(Cb (β:=(Yb1 KvS×Int)×(Yb1 KvS×Int)) t.cols.length (λi a=>(r,pkV t r,(H6 (pkV t r)).1,t.cols,(t.cols.length:Int),(i:Int),t,w1,w2,w3,w4,a.1.1,a.1.2,a.2.1,a.2.2)) (λi a=>a.1.1.length<=i/\a.2.1.length<=i) (λi a=>c (a.1.1++Fw t r (t.cols.drop i) (r.drop i)) (Hq a.1.2 (Fw t r (t.cols.drop i) (r.drop i))) (a.2.1++Ic t r (t.cols.drop i) (r.drop i)) (Hq a.2.2 (Ic t r (t.cols.drop i) (r.drop i)))) (λi hi a p h j=>?_) (λa _ h=>?_) k 0 (([],0),([],0)) (Nat.zero_le _) (by omega) ⟨by simp,by simp⟩).trans (by rw[Zq1,Zq1];rfl)
 ·have d:i<r.length:=by rw[f.len];exact hi
  have q:=List.getElem_mem hi;have hv:=List.getElem_mem d;have s:∀l:Yb1 KvS,l.length<=i->decide (l.length+1<=Ah)=true:=λl hl=>Ze1 (by simp only[Ah];omega);have z:cut r (i:Int) ((i+1:Nat):Int)=[r[i]]:=by simp[cut,List.take_one,d]
  have cb:upto (i:Int) ((i+1:Nat):Int) r.length=true:=by simp[upto];omega
  simp only[Oy,Cs hi,Af,Ao hi,Ao d,chk,Al (c:=.col) hi,Al (c:=.val) d,Am hi n,Ak hi,Ak d,Fw,Ic,z,cb];by_cases u:r[i].kind=1
  ·rw[Ze1 u];simp only[Af,Zt1,Bool.and_false,Ag];exact j a ⟨by omega,by omega⟩
  ·rw[Zd1 u];simp only[Ag,Zs1,Bool.and_true];have v:nxE a.1.2 (Afp t r t.cols[i] r[i])=cond (decide (a.1.2=0)) (cond (decide (200<((Afp t r t.cols[i] r[i]).key.length:Int))) 3 (cond (decide (4000<((H6 (pkV t r)).1.length:Int))) 3 0)) a.1.2:=Btr _ _ _;have w:nxE a.2.2 (Ae4 t r t.cols[i] r[i])=cond (decide (a.2.2=0)) (cond (decide (200<((Ae4 t r t.cols[i] r[i]).key.length:Int))) 3 0) a.2.2:=Bof _ _;have e2:Afp t r t.cols[i] r[i]=⟨(Afp t r t.cols[i] r[i]).key,(H6 (pkV t r)).1⟩:=rfl;have x:Ae4 t r t.cols[i] r[i]=⟨(Ae4 t r t.cols[i] r[i]).key,[]⟩:=rfl;simp only[s _ p.1,s _ p.2,G5 (show [[117],t.name,t.cols[i].name].length<=4000 by simp),G5 (show [[102],t.cols[i].ref].length<=4000 by simp),G5 (show [t.name,t.cols[i].name].length<=4000 by simp),Zc1,Zw1,List.map_nil,Bp6 f q hv,decide_true,Af];by_cases o:t.cols[i].ref=[]
   ·rw[Ze1 o];simp only[Zt1,Ag];cases t.cols[i].unique with|false=>exact j a ⟨by omega,by omega⟩|true=>have b:=j ((a.1.1++[Afp t r t.cols[i] r[i]],nxE a.1.2 (Afp t r t.cols[i] r[i])),a.2) ⟨by simp;omega,by simp only;omega⟩;simp only[Zj1,List.singleton_append]at b;simp only[Af,Hq];rw[<-b,v,<-e2];cases decide (a.1.2=0)<;>cases decide (200<((Afp t r t.cols[i] r[i]).key.length:Int))<;>cases decide (4000<((H6 (pkV t r)).1.length:Int))<;>rfl
   ·rw[Zd1 o];simp only[Zs1,Af,Bq9 f q o hv,Zc1,decide_true];cases t.cols[i].unique with|false=>have b:=j (a.1,(a.2.1++[Ae4 t r t.cols[i] r[i]],nxE a.2.2 (Ae4 t r t.cols[i] r[i]))) ⟨by simp only;omega,by simp;omega⟩;simp only[Zj1,List.singleton_append]at b;simp only[Ag,Hq];rw[<-b,w,<-x];cases decide (a.2.2=0)<;>cases decide (200<((Ae4 t r t.cols[i] r[i]).key.length:Int))<;>rfl|true=>have b:=j ((a.1.1++[Afp t r t.cols[i] r[i]],nxE a.1.2 (Afp t r t.cols[i] r[i])),(a.2.1++[Ae4 t r t.cols[i] r[i]],nxE a.2.2 (Ae4 t r t.cols[i] r[i]))) ⟨by simp;omega,by simp;omega⟩;simp only[Zj1,List.singleton_append]at b;simp only[Af,Hq];rw[<-b,v,w,<-e2,<-x];cases decide (a.1.2=0)<;>cases decide (200<((Afp t r t.cols[i] r[i]).key.length:Int))<;>cases decide (4000<((H6 (pkV t r)).1.length:Int))<;>cases decide (a.2.2=0)<;>cases decide (200<((Ae4 t r t.cols[i] r[i]).key.length:Int))<;>rfl
 ·simp only[Oy,C4,Ag,y];rw[Zk1 (Zn1 _)];simp only[Fw,Ic,List.append_nil,Hq]
end
theorem Aoe:∀l:Yb1 KvS,Hq 3 l=3
 |[]=>rfl
 |_::l=>Aoe l
theorem V8:∀l:Yb1 KvS,Hq 0 l=cond (l.all Alb) 0 3
 |[]=>rfl
 |p::l=>by simp only[Hq,nxE,eKv,decide_true,Af,Zv1];cases Alb p with|true=>exact V8 l|false=>exact Aoe l
section
variable {t:Tbl}{r:Yb1 Val}
theorem Ai6:∀(cs:Yb1 Col) (vs:Yb1 Val),(Fw t r cs vs).length<=cs.length
 |[],_=>by simp[Fw]
 |_::_,[]=>by simp[Fw]
 |c::cs,v::vs=>by have:=Ai6 cs vs;simp only[Fw,Zf1];cases c.unique && !decide (v.kind=1)<;>simp<;>omega
theorem Ai7:∀(cs:Yb1 Col) (vs:Yb1 Val),(Ic t r cs vs).length<=cs.length
 |[],_=>by simp[Ic]
 |_::_,[]=>by simp[Ic]
 |c::cs,v::vs=>by have:=Ai7 cs vs;simp only[Ic,Zf1];cases !decide (c.ref=[]) && !decide (v.kind=1)<;>simp<;>omega
def Gr(r:Yb1 Val):Prop:=∀v,v∈r->inI v.n=true
theorem Bch(f:FitR t r)(hb:Gr r)(k:Nat)(hk : 200<k):Qn k (t,r)=some (⟨[Dd t r],eKv (Dd t r)⟩,⟨t.idx.map (F9 t r),Hq 0 (t.idx.map (F9 t r))⟩,⟨Fw t r t.cols r,Hq 0 (Fw t r t.cols r)⟩,⟨Ic t r t.cols r,Hq 0 (Ic t r t.cols r)⟩):=by
 have h1:=f.nkey;have h2:=f.ncols;have h3:=f.len;have h4:=Ug f;have w1:A39 r=some (H6 r):=Bfo (by omega) hb;have w2:A39 (pkV t r)=some (H6 (pkV t r)):=Bfo (by omega) (Oz f f.key _ hb);have j:∀q:Int,Aj (λa2=>Pm a2 (λe vz=>match vz with|(v5,v6,_,_,_,a,b,d,g,h,i,m,n,o)=>match e with
    |.exit 0=>
     (A39 v6).bind λ(p,_)=>
     Aj (λa2=>Oy a2 (λe vz=>match vz with|(_,_,_,_,_,_,_,s,u,v,w,x,y,z,a0)=>match e with
      |.exit 2=>
      some ((LayS.mk s u),(LayS.mk v w),(LayS.mk x y),(LayS.mk z a0))
      |_=>none)) k (v5,v6,p,a.cols,(a.cols.length:Int),0,a,b,d,g,h,i,m,n,o)
    |_=>none)) k (r,pkV t r,t.idx,(t.idx.length:Int),0,t,[Dd t r],q,[],0,[],0,[],0)=some (⟨[Dd t r],q⟩,⟨t.idx.map (F9 t r),Hq 0 (t.idx.map (F9 t r))⟩,⟨Fw t r t.cols r,Hq 0 (Fw t r t.cols r)⟩,⟨Ic t r t.cols r,Hq 0 (Ic t r t.cols r)⟩):=λq=>by
  refine Axy f (c:=λl e=>some (LayS.mk [Dd t r] q,LayS.mk l e,LayS.mk (Fw t r t.cols r) (Hq 0 (Fw t r t.cols r)),LayS.mk (Ic t r t.cols r) (Hq 0 (Ic t r t.cols r)))) (λl e=>?_) k hk;simp only[w2,Zc1];exact Ay2 f (c:=λl2 e2 l3 e3=>some (LayS.mk [Dd t r] q,LayS.mk l e,LayS.mk l2 e2,LayS.mk l3 e3)) (λ_ _ _ _=>rfl) k hk
 have e1:Aqx t r t.key=some (pkV t r,(Bg t.cols r t.key []).2):=A69 (by omega) h3;have e2:Dd t r=⟨(Dd t r).key,(H6 r).1⟩:=rfl;have e3:eKv (Dd t r)=nxE 0 (Dd t r):=rfl;have e4:nxE 0 (Dd t r)=cond (decide ((0:Int)=0)) (cond (decide (200<((Dd t r).key.length:Int))) 3 (cond (decide (4000<((H6 r).1.length:Int))) 3 0)) 0:=Btr _ _ _;rw[e3,e4];simp only[Qn,e1,Zc1,w1,G5 (show [[114],t.name].length<=4000 by simp),Zw1,List.map_nil,A6q f,decide_true,Af];rw[<-e2];cases decide (200<((Dd t r).key.length:Int))with
 |true=>exact j 3
 |false=>cases decide (4000<((H6 r).1.length:Int))with|true=>exact j 3|false=>exact j 0
def Fx(t:Tbl)(r:Yb1 Val):Yb1 KvS:=Dd t r::(t.idx.map (F9 t r)++(Fw t r t.cols r++Ic t r t.cols r))
def Aqt(t:Tbl)(r:Yb1 Val):Yb1 KvS×Int:=cond (decide (Ey t r=0)) (cond ((Fx t r).all Alb) (Fx t r,0) ([],3)) ([],Ey t r)
def Bjj:Yb1 LayS->Yb1 KvS->Ya1 (Yb1 KvS×Int)|[],acc=>some (acc,0)|y::l,acc=>cond (decide (y.e=0)) (Bjj l (acc++y.l)) (some ([],y.e))
theorem Bpj(a:KvS)(x y z:Yb1 KvS)(b c d b4:Bool):Bjj [⟨[a],cond b 0 3⟩,⟨x,cond c 0 3⟩,⟨y,cond d 0 3⟩,⟨z,cond b4 0 3⟩] []=some (cond (b&&(c&&(d&&b4))) (a::(x++(y++z)),0) ([],3)):=by cases b<;>cases c<;>cases d<;>cases b4<;>simp[Bjj]
theorem Bij{l:Yb1 LayS}(j:l.length<=100)(d:∀y,y∈l->y.l.length<=200){kx:Ex->Ac1->Ya1 (Yb1 KvS×Int)}(f:∀e acc i,kx .ret ([],e,acc,l,(l.length:Int),i)=some ([],e))(g:∀acc,kx (.exit 0) ([],0,acc,l,(l.length:Int),(l.length:Int))=some (acc,0))(k:Nat)(m : 200<k) :
  Aj (λa=>Afa a kx) k ([],0,[],l,(l.length:Int),0)=Bjj l []:=by
 have b:ln l.length:=by simp only[ln];omega
 refine(Cb (β:=Yb1 KvS) l.length (λi acc=>([],0,acc,l,(l.length:Int),(i:Int))) (λi acc=>acc.length<=200*i) (λi acc=>Bjj (l.drop i) acc) (λi hi acc n a h=>?_) (λacc _ a=>?_) k 0 [] (Nat.zero_le _) (by omega) (by simp)).trans (by rw[Zq1])
 ·have o:=d _ (List.getElem_mem hi);simp only[Afa,Cs hi,Af,Ao hi,chk,Al (c:=.lay) hi,Am hi b,Ak hi,Bjj];rw[Ze1 (show acc.length+l[i].l.length<=Ah by simp only[Ah];omega),Af];cases decide (l[i].e=0)with|true=>exact h _ (by rw[Zh1];omega)|false=>exact f _ _ _
 ·simp only[Afa,C4,Ag,g];rw[Zk1 (Zn1 _)];rfl
theorem B20(c:Qt t r=some (Ey t r))(hb:Gr r)(k:Nat)(d : 200<k):T9 k (t,r)=some (Aqt t r):=by
 simp only[T9,c,Zc1,Aqt];by_cases a:Ey t r=0
 ·have f:=Ft a;have l1:=f.nidx;have g:=Ai6 (t:=t) (r:=r) t.cols r;have h:=Ai7 (t:=t) (r:=r) t.cols r;have i:=f.ncols;rw[Ze1 a,Zt1,Ag,Af,A2d,Bch f hb 5000 (by omega),Zc1];refine(Bij (l:=[⟨[Dd t r],eKv (Dd t r)⟩,⟨t.idx.map (F9 t r),Hq 0 (t.idx.map (F9 t r))⟩,⟨Fw t r t.cols r,Hq 0 (Fw t r t.cols r)⟩,⟨Ic t r t.cols r,Hq 0 (Ic t r t.cols r)⟩]) (by simp) (λy b=>?_) (λ_ _ _=>rfl) (λ_=>rfl) k d).trans ?_
  ·simp only[List.mem_cons,List.not_mem_nil,or_false]at b;rcases b with rfl|rfl|rfl|rfl
   ·simp
   ·simp only[List.length_map];omega
   ·simp only;omega
   ·simp only;omega
  ·have e:eKv (Dd t r)=cond (Alb (Dd t r)) 0 3:=rfl;rw[e,V8,V8,V8,Bpj,Fx,Zv1,List.all_append,List.all_append]
 ·rw[Zd1 a];rfl
theorem B0n(a:Qt t r=some (Ey t r))(hb:Gr r):B2o t r=some (Aqt t r):=B20 a hb 5000 (by omega)
end
def Ahu(a:Nat)(b:Str):Nat:=b.foldl (λa c=>a*256+c.toNat) a
def Qw(b:Str):Nat:=Ahu 0 b
theorem Xt(a:Nat)(c:UInt8)(l:Str):Ahu a (c::l)=Ahu (a*256+c.toNat) l:=rfl
theorem Bl9(l:Str):∀a:Nat,Ahu a l=a*256 ^ l.length+Qw l:=by induction l with|nil=>intro a;simp[Qw,Ahu]|cons c l b=>intro a;simp only[Qw,Xt,Zf1]at b ⊢;rw[b,b (0*256+c.toNat),Nat.pow_succ];simp only[Nat.add_mul,Nat.zero_mul,Nat.zero_add];rw[Nat.mul_assoc,Nat.mul_comm 256 (256 ^ l.length),Nat.add_assoc]
theorem Afu(c:UInt8)(l:Str):Qw (c::l)=c.toNat*256 ^ l.length+Qw l:=by have:=Bl9 l (0*256+c.toNat);simp only[Nat.zero_mul,Nat.zero_add]at this;rw[<-this,Qw,Xt,Nat.zero_mul,Nat.zero_add]
theorem Ay0:∀l:Str,Qw l<256 ^ l.length
 |[]=>by simp[Qw,Ahu]
 |c::l=>by have a:=Ay0 l;have b:=c.toNat_lt;have d:c.toNat*256 ^ l.length<=255*256 ^ l.length:=Nat.mul_le_mul_right _ (by omega);rw[Afu,Zf1,Nat.pow_succ];omega
theorem Sr:∀a x y:Str,Dc (a++x) (a++y)=Dc x y
 |[],_,_=>rfl
 |c::a,x,y=>by have b:=Sr a x y;simp only[Dc,Zb2,Lib.compareBytes]at b ⊢;rw[if_neg (UInt8.lt_irrefl _),if_neg (UInt8.lt_irrefl _)];exact b
theorem Lt{c d:UInt8}(h:c<d)(x y:Str):Dc (c::x) (d::y) = -1:=by simp only[Dc,Lib.compareBytes];rw[if_pos h]
theorem L9{c d:UInt8}(h:d<c)(x y:Str):Dc (c::x) (d::y)=1:=by simp only[Dc,Lib.compareBytes];rw[if_neg (UInt8.lt_asymm h),if_pos h]
theorem Ih(c:UInt8)(x y:Str):Dc (c::x) (c::y)=Dc x y:=Sr [c] x y
theorem Br6(d:UInt8)(y:Str):Dc [] (d::y) = -1:=rfl
theorem Bg2(d:UInt8)(y:Str):Dc (d::y) []=1:=rfl
theorem Btz(c d:UInt8):c<d\/c=d\/d<c:=by
 rcases Nat.lt_trichotomy c.toNat d.toNat with h|h|h
 ·exact .inl h
 ·exact .inr (.inl (UInt8.toNat_inj.1 h))
 ·exact .inr (.inr h)
theorem A24:∀(p q x y:Str),p.length=q.length->Dc (p++x) (q++y)=if Qw p=Qw q then Dc x y else if Qw p<Qw q then -1 else 1
 |[],[],x,y,_=>by simp
 |[],_::_,_,_,h=>by cases h
 |_::_,[],_,_,h=>by cases h
 |c::p,d::q,x,y,h=>by
  simp only[Zf1,Nat.add_right_cancel_iff]at h;have e:=h;have g:=Ay0 p;have f:=Ay0 q;rw[<-h]at f;rw[Afu,Afu,Zb2,Zb2,<-h];rcases Btz c d with hc|rfl|hc
  ·have a:c.toNat+1<=d.toNat:=hc;have b:(c.toNat+1)*256 ^ p.length<=d.toNat*256 ^ p.length:=Nat.mul_le_mul_right _ a;rw[Nat.add_mul,Nat.one_mul]at b;rw[Lt hc,if_neg (by omega),if_pos (by omega)]
  ·rw[Ih,A24 p q x y e];simp only[Nat.add_left_cancel_iff,Nat.add_lt_add_iff_left]
  ·have a:d.toNat+1<=c.toNat:=hc;have b:(d.toNat+1)*256 ^ p.length<=c.toNat*256 ^ p.length:=Nat.mul_le_mul_right _ a;rw[Nat.add_mul,Nat.one_mul]at b;rw[L9 hc,if_neg (by omega),if_neg (by omega)]
theorem Bjr{x:Nat}(h:x<18446744073709551616):Qw (An0 x)=x:=by
 have e:∀s,(B6 x s).toNat=x / 2 ^ s % 256:=λs=>by simp[B6]
 simp only[An0,Qw,Ahu,List.foldl_cons,List.foldl_nil,e];simp only[show(2:Nat) ^ 56=72057594037927936 from rfl,show(2:Nat) ^ 48=281474976710656 from rfl,show(2:Nat) ^ 40=1099511627776 from rfl,show(2:Nat) ^ 32=4294967296 from rfl,show(2:Nat) ^ 24=16777216 from rfl,show(2:Nat) ^ 16=65536 from rfl,show(2:Nat) ^ 8=256 from rfl,Nat.pow_zero];omega
theorem Bp5(n:Int):(Ko n).length=8:=rfl
theorem Apx{n:Int}(h:inI n):(Qw (Ko n):Int)=n+9223372036854775808:=by simp only[inI]at h;rw[Ko,Bjr (by omega)];omega
theorem Ju{v:Val}(h:v.kind=4\/v.kind=5):H2 v=esc v.s++[0,1]:=by rcases h with h|h<;>simp[H2,h]
theorem A6n:∀(s t x y:Str),Dc (esc s++0::1::x) (esc t++0::1::y)=if s=t then Dc x y else Dc s t
 |[],[],x,y=>by rw[if_pos rfl];exact Sr [0,1] x y
 |[],c::t,x,y=>by
  rw[if_neg (by simp),Br6];by_cases hc:c=0
  ·subst hc;rw[H0,Ajn,Zf2,Zb2,Zb2,Ih,Lt (by decide)]
  ·rw[Fb hc,Ajn,Zf2,Zb2,Lt (UInt8.pos_iff_ne_zero.2 hc)]
 |c::s,[],x,y=>by
  rw[if_neg (by simp),Bg2];by_cases hc:c=0
  ·subst hc;rw[H0,Ajn,Zf2,Zb2,Zb2,Ih,L9 (by decide)]
  ·rw[Fb hc,Ajn,Zf2,Zb2,L9 (UInt8.pos_iff_ne_zero.2 hc)]
 |c::s,d::t,x,y=>by
  have g:=A6n s t x y;by_cases a:c=d
  ·subst a;have e:Dc (esc (c::s)++0::1::x) (esc (c::t)++0::1::y)=Dc (esc s++0::1::x) (esc t++0::1::y):=by
    by_cases hc:c=0
    ·subst hc;rw[H0,H0];exact Sr [0,255] _ _
    ·rw[Fb hc,Fb hc];exact Sr [c] _ _
   rw[e,g,Ih];simp
  ·rw[if_neg (by simp[a])];have b:∀(c d:UInt8) (s t:Str),c<d->∀x y,Dc (esc (c::s)++x) (esc (d::t)++y) = -1:=λc d s t h x y=>by
    have hd:d≠0:=UInt8.pos_iff_ne_zero.1 (UInt8.lt_of_le_of_lt (UInt8.zero_le) h);rw[Fb hd];by_cases hc:c=0
    ·subst hc;rw[H0];exact Lt h _ _
    ·rw[Fb hc];exact Lt h _ _
   have f:∀(c d:UInt8) (s t:Str),d<c->∀x y,Dc (esc (c::s)++x) (esc (d::t)++y)=1:=λc d s t h x y=>by
    have hd:c≠0:=UInt8.pos_iff_ne_zero.1 (UInt8.lt_of_le_of_lt (UInt8.zero_le) h);rw[Fb hd];by_cases hc:d=0
    ·subst hc;rw[H0];exact L9 h _ _
    ·rw[Fb hc];exact L9 h _ _
   rcases Btz c d with h|h|h
   ·rw[b c d s t h,Lt h]
   ·exact absurd h a
   ·rw[f c d s t h,L9 h]
theorem A09{a b:Int}(h:a<b):Dz a b = -1:=by simp[Dz,h]
theorem A50{a b:Int}(h:b<a):Dz a b=1:=by
 have:¬a<b:=by omega
 simp[Dz,h,this]
theorem A4a(a:Int):Dz a a=0:=by simp[Dz]
variable{w:Val}
theorem As8{v:Val}(h:Dz v.kind w.kind≠0):Gs v w=Dz v.kind w.kind:=by simp[Gs,h]
theorem A3v{v:Val}(h:v.kind=w.kind)(a:Dz v.n w.n≠0):Gs v w=Dz v.n w.n:=by simp[Gs,h,a,A4a]
theorem Bj3{v:Val}(h:v.kind=w.kind)(a:v.n=w.n):Gs v w=Dc v.s w.s:=by simp[Gs,h,a,A4a,Gj]
theorem Aln{v:Val}(h:Aq v=true) : 1<=v.kind/\v.kind<=5:=by rcases Dq.1 h with ⟨e,_⟩|⟨e,_⟩|⟨e,_⟩|⟨e,_⟩|⟨e,_⟩<;>omega
theorem Vl{v:Val}(h:Aq v=true):(UInt8.ofNat v.kind.toNat).toNat=v.kind.toNat:=by have:=Aln h;simp;omega
theorem Bsz{v:Val}(hv:Aq v=true)(g:Aq w=true)(p:inI v.n)(r:inI w.n)(x y:Str):Dc (Eh v++x) (Eh w++y)=if v=w then Dc x y else Gs v w:=by
 have kv:=Aln hv;have kw:=Aln g;rcases Int.lt_trichotomy v.kind w.kind with h|h|h
 ·have i:¬v=w:=λe=>by rw[e]at h;omega
  have a:=A09 h;rw[if_neg i,As8 (by rw[a];decide),a,Eh,Eh,Zb2,Zb2];refine Lt ?_ _ _;show(UInt8.ofNat v.kind.toNat).toNat<(UInt8.ofNat w.kind.toNat).toNat;rw[Vl hv,Vl g];omega
 ·rw[Eh,Eh,h,Zb2,Zb2,Ih];obtain⟨k,n,s⟩:=v;obtain⟨k2,m,t⟩:=w;simp only at h;subst h;rcases Dq.1 hv with ⟨e,b,e2⟩|⟨e,b,e2⟩|⟨e,b⟩|⟨e,o,u,h3⟩|⟨e,o,u⟩
  ·simp only at e b e2;subst e b e2;rcases Dq.1 g with ⟨_,l,f⟩|⟨q,_⟩|⟨q,_⟩|⟨q,_⟩|⟨q,_⟩
   ·simp only at l f;subst l f;rw[if_pos rfl];rfl
   all_goals cases q
  ·simp only at e b e2;subst e e2;rcases Dq.1 g with ⟨q,_⟩|⟨_,l,f⟩|⟨q,_⟩|⟨q,_⟩|⟨q,_⟩
   ·cases q
   ·simp only at l f;subst f;rcases b with rfl|rfl<;>rcases l with rfl|rfl
    ·rw[if_pos rfl];exact Ih 0 x y
    ·exact Lt (c:=0) (d:=1) (by decide) x y
    ·exact L9 (c:=1) (d:=0) (by decide) x y
    ·rw[if_pos rfl];exact Ih 1 x y
   all_goals cases q
  ·simp only at e b p r;subst e b;rcases Dq.1 g with ⟨q,_⟩|⟨q,_⟩|⟨_,f⟩|⟨q,_⟩|⟨q,_⟩
   ·cases q
   ·cases q
   ·simp only at f;subst f;have p1:H2 ⟨3,n,[]⟩=Ko n:=rfl;have p2:H2 ⟨3,m,[]⟩=Ko m:=rfl;rw[p1,p2,A24 (Ko n) (Ko m) x y rfl];have q1:=Apx p;have q2:=Apx r;rcases Int.lt_trichotomy n m with h|rfl|h
    ·have a:=A09 h;rw[if_neg (by omega),if_pos (by omega),if_neg (by simp;omega),A3v (v:=⟨3,n,[]⟩) (w:=⟨3,m,[]⟩) rfl (by simp only[a];decide)];exact a.symm
    ·rw[if_pos rfl,if_pos rfl]
    ·have a:=A50 h;rw[if_neg (by omega),if_neg (by omega),if_neg (by simp;omega),A3v (v:=⟨3,n,[]⟩) (w:=⟨3,m,[]⟩) rfl (by simp only[a];decide)];exact a.symm
   all_goals cases q
  all_goals
   simp only at e o;subst e o;have z:m=0:=by
    rcases Dq.1 g with ⟨q,_⟩|⟨q,_⟩|⟨q,_⟩|⟨_,q,_⟩|⟨_,q,_⟩;any_goals exact q
    all_goals cases q
   subst z;rw[Ju (by simp),Ju (by simp),Zj1,Zj1];refine(A6n s t x y).trans ?_;rw[show ∀k:Int,Gs ⟨k,0,s⟩ ⟨k,0,t⟩=Dc s t fromλk=>Bj3 rfl rfl];by_cases j:s=t
   ·subst j;rw[if_pos rfl,if_pos rfl]
   ·rw[if_neg j,if_neg (by simp[j])]
 ·have i:¬v=w:=λe=>by rw[e]at h;omega
  have a:=A50 h;rw[if_neg i,As8 (by rw[a];decide),a,Eh,Eh,Zb2,Zb2];refine L9 ?_ _ _;show(UInt8.ofNat w.kind.toNat).toNat<(UInt8.ofNat v.kind.toNat).toNat;rw[Vl hv,Vl g];omega
theorem Bfl{v:Val}(h:¬v=w):Gs v w≠0:=λe=>h ((vcmp_lin.eq _ _).1 e)
theorem Mx(v:Val)(l:Yb1 Val):Bz (v::l)=Eh v++Bz l:=by simp[Bz]
theorem A5a:∀(a b:Yb1 Val) (x y:Str),a.length=b.length->a.all Aq=true->b.all Aq=true->(∀v,v∈a->inI v.n)->(∀v,v∈b->inI v.n)->Dc (Bz a++x) (Bz b++y)=if a=b then Dc x y else H5 Gs a b
 |[],[],x,y,_,_,_,_,_=>by rw[if_pos rfl];rfl
 |[],_::_,_,_,h,_,_,_,_=>by cases h
 |_::_,[],_,_,h,_,_,_,_=>by cases h
 |v::a,w::b,x,y,h,ra,rb,na,nb=>by
  simp only[Zv1,Zb1]at ra rb;rw[Mx,Mx,Zj1,Zj1,Bsz ra.1 rb.1 (na v (by simp)) (nb w (by simp))];simp only[Zf1,Nat.add_right_cancel_iff]at h;by_cases c:v=w
  ·subst c;rw[if_pos rfl,A5a a b x y h ra.2 rb.2 (λu d=>na u (by simp[d])) (λu d=>nb u (by simp[d]))];have e:Gs v v=0:=(vcmp_lin.eq _ _).2 rfl;simp only[Ze2,true_and,H5,e,Gf,if_true]
  ·rw[if_neg c,if_neg (by simp[c])];simp only[H5,Gf];rw[if_neg (Bfl c)]
theorem Bw9{a b:Yb1 Val}(h:¬a=b):H5 Gs a b≠0:=λe=>h ((vrows_lin.eq a b).1 e)
theorem An6{a b:Yb1 Val}(h:a.length=b.length)(e:a.all Aq=true)(f:b.all Aq=true)(g:∀v,v∈a->inI v.n)(nb:∀v,v∈b->inI v.n){x y:Str}(i:Bz a++x=Bz b++y):a=b:=by
 by_cases c:a=b
 ·exact c
 ·have d:=A5a a b x y h e f g nb;rw[if_neg c,i]at d;have j:Dc (Bz b++y) (Bz b++y)=0:=(Afr _ _).2 rfl;rw[j]at d;exact absurd d.symm (Bw9 c)
theorem A1e{p b:Yb1 Val}(rp:p.all Aq=true)(f:b.all Aq=true)(g:∀v,v∈p->inI v.n)(nb:∀v,v∈b->inI v.n):Bz p <+: Bz b↔p <+: b:=by
 constructor
 ·rintro⟨x,a⟩;by_cases j:p.length<=b.length
  ·have c:b.take p.length++b.drop p.length=b:=List.take_append_drop _ _;have e:Bz b=Bz (b.take p.length)++Bz (b.drop p.length):=by rw[<-Je,c]
   rw[e]at a;have d:p=b.take p.length:=by refine An6 (by rw[List.length_take];omega) rp ?_ g (λv hv=>nb v (List.mem_of_mem_take hv)) a;exact Zg2.2 λv hv=>Zg2.1 f v (List.mem_of_mem_take hv)
   exact⟨b.drop p.length,by rw[<-d]at c;exact c⟩
  ·have c:p.take b.length++p.drop b.length=p:=List.take_append_drop _ _;have e:Bz p=Bz (p.take b.length)++Bz (p.drop b.length):=by rw[<-Je,c]
   have d:Bz (p.take b.length)++(Bz (p.drop b.length)++x)=Bz b++[]:=by rw[<-Zj1,<-e,a,List.append_nil]
   have i:p.take b.length=b:=An6 (by rw[List.length_take];omega) (Zg2.2 λv hv=>Zg2.1 rp v (List.mem_of_mem_take hv)) f (λv hv=>g v (List.mem_of_mem_take hv)) nb d;rw[i]at d;have h:=List.append_cancel_left d;cases hd:p.drop b.length with|nil=>have:=congrArg List.length hd;simp at this;omega|cons v l=>rw[hd,Mx,Eh]at h;simp at h
 ·rintro⟨x,a⟩;exact⟨Bz x,by rw[<-a,Je]⟩
def Ij(t:T)(l:Yb1 KvS):T:=l.foldl (λt p=>t.put (nib p.key) p.val) t
def Bj4(p:KvS):Prop:=p.key.length<=200/\p.val.length<=4000
theorem Ar3:∀{l:Yb1 KvS}{t:T},t.Wf 0->(∀p,p∈l->Bj4 p)->(Ij t l).Wf 0
 |[],t,h,_=>h
 |p::l,t,h,hl=>Ar3 (l:=l) (Buc h (hl p (by simp)).1 (hl p (by simp)).2) λq a=>hl q (by simp[a])
theorem Agj:∀(l:Yb1 KvS) (t:T),(Ij t l).size<=t.size+l.length
 |[],t=>Zn1 _
 |p::l,t=>by have a:=Agj l (t.put (nib p.key) p.val);have b:=Ap2 t (nib p.key) p.val;simp only[Ij,List.foldl_cons,Zf1]at a ⊢;omega
theorem Ams:∀(l:Yb1 KvS) (t:T) (k:Str),(Ij t l).get k=match l.reverse.find? (λp=>decide (p.key=k))with|some p=>some p.val|none=>t.get k
 |[],t,k=>rfl
 |p::l,t,k=>by
  have a:=Ams l (t.put (nib p.key) p.val) k;simp only[Ij,List.foldl_cons]at a ⊢;rw[a,List.reverse_cons,List.find?_append];cases l.reverse.find? (λp=>decide (p.key=k))with
  |some q=>rfl
  |none=>
   simp only[Option.none_or,List.find?_cons,List.find?_nil,B02];by_cases e:k=p.key
   ·simp[e]
   ·simp[e,Ne.symm e]
def Rm(t:T):Yb1 KvS->Ya1 Nat|[]=>none|p::l=>if(t.get p.key).isSome then some 0 else(Rm t l).map (·+1)
theorem Ave{R:Type}{kx:Ex->Abh->Ya1 R}{t:T}{l v1:Yb1 KvS}{g:Yb1 NodeS}{h:Str}(m:t.Wf 0)(n:l.length<=100000)(b:∀p,p∈l->p.key.length<=200):∀(k i:Nat),i<=l.length->l.length-i<k ->
  Aj (λd=>Af9 d kx) k (0,v1,l,(l.length:Int),(i:Int),t.node.kind,t.node.path,t.node.has,t.node.val,t.node.kids,t.node.hash,g,h)=match Rm t (l.drop i)with|none=>kx (.exit 0) (0,v1,l,(l.length:Int),(l.length:Int),t.node.kind,t.node.path,t.node.has,t.node.val,t.node.kids,t.node.hash,g,h)|some j=>kx .ret (if i+j=0 then 180 else 181,v1,l,(l.length:Int),((i+j:Nat):Int),t.node.kind,t.node.path,t.node.has,t.node.val,t.node.kids,t.node.hash,g,h)
 |0,_,_,b=>by omega
 |k+1,i,hi,hkk=>by
  rw[Au];by_cases a:i<l.length
  ·have c1:(i:Int)<(l.length:Int):=by omega
   have f:=Bfe (g:=g) (h:=h) m (b _ (List.getElem_mem a));have f:Yx (l[i].key,t.node.kind,t.node.path,t.node.has,t.node.val,t.node.kids,t.node.hash,g,h)=_:=f;simp only[Af9,c1,decide_true,Af,Ao a,chk,Al (c:=.kv) a,f,Zc1,Zt1,Ag,Am a (show ln l.length by simp[ln];omega)];rw[List.drop_eq_getElem_cons a];simp only[Rm];cases o:(t.get l[i].key).isSome with
   |true=>
    simp only[Af,if_true,Nat.add_zero];by_cases e:i=0
    ·simp only[e,if_true];rfl
    ·have e2:¬((i:Int)=0):=by omega
     simp only[e,e2,decide_false,Ag,if_false]
   |false=>simp only[Ag,Zj2,if_false];rw[Ave (kx:=kx) m n b k (i+1) (by omega) (by omega)];cases Rm t (l.drop (i+1))with|none=>rfl|some j=>simp only[Zl2,show i+1+j=i+(j+1) by omega]
  ·have e:i=l.length:=by omega
   subst e;have c1:¬(l.length:Int)<(l.length:Int):=by omega
   simp only[Af9,c1,decide_false,Ag,Zc2,Rm]
theorem Awj{R:Type}{kx:Ex->Acs->Ya1 R}{l:Yb1 KvS}{z:Int}{g:Yb1 NodeS}{h:Str}(m:l.length<=100000)(d:∀p,p∈l->Bj4 p):∀(k i:Nat) (t:T),t.Wf 0->i<=l.length->l.length-i<k ->
  Aj (λf=>Ae2 f kx) k (z,l,(l.length:Int),(i:Int),t.node.kind,t.node.path,t.node.has,t.node.val,t.node.kids,t.node.hash,g,h)=kx (.exit 3) (z,l,(l.length:Int),(l.length:Int),(Ij t (l.drop i)).node.kind,(Ij t (l.drop i)).node.path,(Ij t (l.drop i)).node.has,(Ij t (l.drop i)).node.val,(Ij t (l.drop i)).node.kids,(Ij t (l.drop i)).node.hash,g,h)
 |0,_,_,_,_,d=>by omega
 |k+1,i,t,hw,hi,hkk=>by
  rw[Au];by_cases a:i<l.length
  ·have c1:(i:Int)<(l.length:Int):=by omega
   have b:=d _ (List.getElem_mem a);have j:=Bx3 (g:=g) (h:=h) hw b.1 b.2;have j:Ay3 (l[i].key,l[i].val,t.node.kind,t.node.path,t.node.has,t.node.val,t.node.kids,t.node.hash,g,h)=_:=j;simp only[Ae2,c1,decide_true,Af,Ao a,chk,Al (c:=.kv) a,j,Zc1,Zt1,Ag,Am a (show ln l.length by simp[ln];omega)];rw[Awj (kx:=kx) m d k (i+1) _ (Buc hw b.1 b.2) (by omega) (by omega),List.drop_eq_getElem_cons a];rfl
  ·have e:i=l.length:=by omega
   subst e;have c1:¬(l.length:Int)<(l.length:Int):=by omega
   simp only[Ae2,c1,decide_false,Ag,Zc2];rfl
end Go.Proofs.YtcoaaebppfbbnaaGreatDoor
