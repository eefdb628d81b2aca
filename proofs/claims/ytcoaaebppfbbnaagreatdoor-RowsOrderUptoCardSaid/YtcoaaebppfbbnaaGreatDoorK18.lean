/- Texts of the proof,one behind the other: AxFr,Mu,Zg,Rq,Rr,Opa,Op,Zp,Rwd,Ros,Zd,RoB,LRo,Zs,Zt,Zu,Zo,Trn,Ti,Tj,Tk,Trl,Trm,Tro,Dba,Dbb,Dbc,Dbd,Roc,Rod,Roe,Rog,Zn,Zx,Roh,Roj,Ub,AxFs,FrG. -/
import Derived.Test.YtcoaaebppfbbnaaGreatDoorK17
import Derived.ChangeArms
import Derived.WideShapes
import Derived.Carry
import Derived.ChangeShapes
import Derived.Lib.LaidTab
import Derived.SizedLaws
import Derived.Test.YtcoaaebppfbbnaaGreatDoorRows
import Derived.ProofKit
import Derived.ChangeMaps5
import Derived.ChangeAnyMap
import Derived.Test.YtcoaaebppfbbnaaGreatDoorCards
import Derived.Test.YtcoaaebppfbbnaaGreatDoorTie
import Derived.OpenShut
import Derived.Deep.DeepHandedRow
import Derived.Shelf.Vars
set_option linter.all false
namespace Go.Ax
open Go.RowKit Go.ChangeShapes
def shp:D->D->Bool
 |.int k _,.int k' _=>decide (k=k')
 |.bool _,.bool _=>true
 |.str _,.str _=>true
 |.sl c _ _,.sl c' _ _=>decide (c=c')
 |_,_=>false
def Ii:List D->List D->Bool
 |[],[]=>true
 |a::l,b::m=>shp a b&&Ii l m
 |_,_=>false
theorem Bt7{a b c:D}(h:shp a b=true)(k:shp a c=true):shp b c=true:=by cases a<;>cases b<;>simp[shp] at h<;>cases c<;>simp[shp] at k<;>subst_vars<;>simp[shp]
theorem A6o:∀{a b c:List D},Ii a b=true->Ii a c=true->Ii b c=true
 |[],[],[],_,_=>rfl
 |x::a,y::b,z::c,h,k=>by simp only[Ii,Zb1] at h k ⊢;exact⟨Bt7 h.1 k.1,A6o h.2 k.2⟩
 |[],_::_,_,h,_=>by simp[Ii] at h
 |_::_,[],_,h,_=>by simp[Ii] at h
 |[],[],_::_,_,k=>by simp[Ii] at k
 |_::_,_::_,[],_,k=>by simp[Ii] at k
theorem Afi:∀{a b c d:List D},Ii a b=true->Ii c d=true->Ii (a++c) (b++d)=true
 |[],[],_,_,_,k=>k
 |_::a,_::b,_,_,h,k=>by simp only[Ii,Zb1,Zb2] at h ⊢;exact⟨h.1,Afi h.2 k⟩
 |[],_::_,_,_,h,_=>by simp[Ii] at h
 |_::_,[],_,_,h,_=>by simp[Ii] at h
theorem A8m{k:IntKind}{n:Int}{d:D}(h:shp (.int k n) d=true):∃m,d = .int k m:=by
 cases d<;>simp[shp] at h
 subst h;exact⟨_,rfl⟩
theorem Bh2{b:Bool}{d:D}(h:shp (.bool b) d=true):∃m,d = .bool m:=by
 cases d<;>simp[shp] at h
 exact⟨_,rfl⟩
theorem A6h{s:Str}{d:D}(h:shp (.str s) d=true):∃m,d = .str m:=by
 cases d<;>simp[shp] at h
 exact⟨_,rfl⟩
theorem Bm0{c:Ck}{xs:List (El c)}{t:Tk}{d:D}(h:shp (.sl c xs t) d=true):∃ys u,d = .sl c ys u:=by
 cases d<;>simp[shp] at h
 subst h;exact⟨_,_,rfl⟩
theorem Tv{a:D}{l ds:List D}(h:Ii (a::l) ds=true):∃b m,ds=b::m/\shp a b=true/\Ii l m=true:=by cases ds with|nil=>simp[Ii] at h|cons b m =>simp only[Ii,Zb1] at h;exact⟨b,m,rfl,h.1,h.2⟩
theorem Aaw{ds:List D}(h:Ii [] ds=true):ds=[]:=by cases ds with|nil=>rfl|cons b m=>simp[Ii] at h
theorem Aqh{c:Ck}{z ds:List D}(h:(dec c z).isSome=true)(hs:Ii z ds=true):∃y,dec c ds=some y:=by
 obtain⟨y0,h⟩:=Option.isSome_iff_exists.1 h;unfold dec at h;split at h;all_goals first
  |(cases h;done)
  |skip
 all_goals
  clear h
  repeat (
   obtain⟨b,m,e,h1,hs'⟩:=Tv hs;clear hs;have hs:=hs';clear hs';subst e
   first
    |(obtain⟨_,e⟩:=A8m h1;subst e)
    |(obtain⟨_,e⟩:=Bh2 h1;subst e)
    |(obtain⟨_,e⟩:=A6h h1;subst e)
    |(obtain⟨_,_,e⟩:=Bm0 h1;subst e))
  have e:=Aaw hs;subst e;exact⟨_,rfl⟩
def A0w(R:Nat×Nat)(v:Val):Prop:=v.s.length<=R.1
inductive SmExpr (R:Nat×Nat):Xpr->Prop
 |mk (k:Int) (v:Val) (nm:Str) (l:List Xpr):A0w R v->nm.length<=R.1->l.length<=R.2->(∀e,e∈l->SmExpr R e)->SmExpr R (.mk k v nm l)
structure SmStm (R:Nat×Nat) (s:Stm):Prop where
 name:s.name.length<=R.1
 on:s.on.length<=R.1
 cols:s.cols.length<=R.2/\∀c,c∈s.cols->c.name.length<=R.1/\c.ref.length<=R.1
 names:s.names.length<=R.2/\∀x,x∈s.names->x.length<=R.1
 l:s.l.length<=R.2/\∀x,x∈s.l->SmExpr R x
 rows:s.rows.length<=R.2/\∀r,r∈s.rows->r.length<=R.2/\∀x,x∈r->SmExpr R x
 sets:s.sets.length<=R.2/\∀x,x∈s.sets->x.name.length<=R.1/\SmExpr R x.e
 whr:SmExpr R s.whr
 order:s.order.length<=R.2/\∀x,x∈s.order->x.length<=R.1
 desc:s.desc.length<=R.2
def Br3(R:Nat×Nat)(x:Idx):Prop:=x.name.length<=R.1/\x.cols.length<=R.2/\∀s,s∈x.cols->s.length<=R.1
structure SmTbl (R:Nat×Nat) (t:Tbl):Prop where
 name:t.name.length<=R.1
 cols:t.cols.length<=R.2/\∀c,c∈t.cols->c.name.length<=R.1/\c.ref.length<=R.1
 key:t.key.length<=R.2/\∀x,x∈t.key->x.length<=R.1
 checks:t.checks.length<=R.2/\∀x,x∈t.checks->SmExpr R x
 idx:t.idx.length<=R.2/\∀x,x∈t.idx->Br3 R x
def Br8(R:Nat×Nat)(r:ResS):Prop:=r.rows.length<=R.2/\∀l,l∈r.rows->l.length<=R.2/\∀x,x∈l->A0w R x
def SmK(R:Nat×Nat):(c:Ck)->El c->Prop
 |.str,s=>s.length<=R.1
 |.val,v=>A0w R v
 |.tok,t=>t.s.length<=R.1
 |.col,c=>c.name.length<=R.1/\c.ref.length<=R.1
 |.expr,e=>SmExpr R e
 |.vals,l=>l.length<=R.2/\∀x,x∈l->A0w R x
 |.exprs,l=>l.length<=R.2/\∀x,x∈l->SmExpr R x
 |.strs,l=>l.length<=R.2/\∀x,x∈l->x.length<=R.1
 |.set,s=>s.name.length<=R.1/\SmExpr R s.e
 |.stmt,s=>SmStm R s
 |.idx,x=>Br3 R x
 |.tbl,t=>SmTbl R t
 |.res,r=>Br8 R r
 |.outc,o=>o.l.length<=R.2/\∀r,r∈o.l->Br8 R r
 |_,_=>True
def SmD(R:Nat×Nat):D->Prop
 |.str l=>l.length<=R.1
 |.sl c xs _=>xs.length<=R.2/\∀x,x∈xs->SmK R c x
 |_=>True
def SmS(R:Nat×Nat):(s:Sg)->den s->Prop
 |.str,s=>s.length<=R.1
 |.sl c _,xs=>xs.length<=R.2/\∀x,x∈xs->SmK R c x
 |.sv c,x=>SmK R c x
 |_,_=>True
def SmL(R:Nat×Nat):(l:List Sg)->HV l->Prop
 |[],_=>True
 |[a],x=>SmS R a x
 |a::b::l,(x,y)=>SmS R a x/\SmL R (b::l) y
theorem Bia{R:Nat×Nat}{c:Ck}{ds:List D}{y:El c}(h:dec c ds=some y)(hd:∀d,d∈ds->SmD R d):SmK R c y:=by
 unfold dec at h;split at h<;>simp only[Za1,reduceCtorEq] at h<;>subst h<;>simp only[List.mem_cons,List.not_mem_nil,or_false,forall_eq_or_imp,forall_eq,SmD] at hd<;>simp only[SmK,A0w]<;>first
  |trivial
  |exact hd
  |exact hd.1
  |exact hd.2.2
  |exact hd.2.2.1
  |exact⟨hd.1,hd.2.2.2.2⟩
  |exact .mk _ _ _ _ hd.2.2.2.1 hd.2.2.2.2.1 hd.2.2.2.2.2.1 hd.2.2.2.2.2.2
  |exact⟨hd.1,.mk _ _ _ _ hd.2.2.2.2.1 hd.2.2.2.2.2.1 hd.2.2.2.2.2.2.1 hd.2.2.2.2.2.2.2⟩
  |exact⟨hd.1,hd.2.1,hd.2.2.1,hd.2.2.2.1,hd.2.2.2.2⟩
  |(obtain⟨_,h1,h2,h3,h4,h5,h6,h7,_,_,_,_,w1,w2,w3,h8,h9,_⟩:=hd
    exact⟨h1,h2,h3,h4,h5,h6,h7,.mk _ _ _ _ w1 w2 w3.1 w3.2,h8,h9.1⟩)
structure Msr {H:Type}(P:Program) (R:Nat×Nat) (M:TypeId->DataW H->Prop):Prop where
 str:∀(t:TypeId) (s:List UInt8),M t (.lit (.string s))->s.length<=R.1
 sl:∀(t e:TypeId) (l r:List (DataW H)),P.underlying t=some (.slice e)->1<=P.bytesOf e->M t (.slice l r)->l.length<=9223372036854775807->l.length<=R.2/\∀d,d∈l->M e d
 agg:∀(t:TypeId) (fds:Array Field) (l:List (DataW H)) (i:Nat) (fd:Field) (d:DataW H),P.underlying t=some (.struct fds)->M t (.agg l)->fds[i]? = some fd->l[i]? = some d->M fd.type d
mutual
def xsz:Xpr->Nat
 |.mk _ _ _ l=>1+xszs l
def xszs:List Xpr->Nat
 |[]=>0
 |x::l=>1+xsz x+xszs l
end
def szD:D->Nat
 |.sl .expr xs _=>2*xszs xs
 |_=>0
def Ajs(ds:List D):Nat:=(ds.map szD).sum+ds.length
def szK:(c:Ck)->El c->Nat
 |.expr,e=>2*(1+xsz e)
 |.tbl,t=>2*xszs t.checks
 |_,_=>0
theorem Bi6{c:Ck}{ds:List D}{y:El c}(h:dec c ds=some y):szK c y<=Ajs ds:=by unfold dec at h;split at h<;>simp only[Za1,reduceCtorEq] at h<;>subst h<;>simp only[szK,Nat.zero_le]<;>simp[Ajs,szD,xsz]<;>omega
structure Siz {H:Type}(m:DataW H->Nat):Prop where
 one:∀d,1<=m d
 sl:∀l r,(l.map m).sum+1<=m (.slice l r)
 agg:∀l,(l.map m).sum<=m (.agg l)
theorem Av2{H:Type}{m:DataW H->Nat}{c:Ck}:∀(ys:List (El c)) (es:List (DataW H)),ys.length=es.length->(∀(i:Nat) y e,ys[i]? = some y->es[i]? = some e->szK c y<=m e)->szD (.sl c ys .no)<=(es.map m).sum
 |[],_,_,_=>by cases c<;>simp[szD,xszs]
 |y::ys,[],h,_=>by simp at h
 |y::ys,e::es,h,k=>by have h1:=k 0 y e rfl rfl;have h2:=Av2 ys es (by simpa using h) λi y e hy he=>k (i+1) y e (by simpa using hy) (by simpa using he);cases c<;>simp only[szD,szK,xszs,Zw1,List.sum_cons] at h1 h2 ⊢ <;> omega
def zc(t:Ty):List D:=match t.zero with|some z=>cells z|none=>[]
def Akd(tt:Nat->Ty)(rd:List Nat):Nat->List (Nat×Nat)->List D->Bool
 |_,[],z=>z.isEmpty
 |o,(o',u)::fs,z=>Nat.beq o' o&&rd.contains u&&Nat.ble (zc (tt u)).length z.length&&Ii (zc (tt u)) (z.take (zc (tt u)).length)&&Akd tt rd (o+(zc (tt u)).length) fs (z.drop (zc (tt u)).length)
def Bim(el:Ck->TypeId)(tt:Nat->Ty)(rd:List Nat)(t:Nat):Bool:=match tt t with|.int _|.bool|.str=>true|.sl c=>rd.contains (el c)&&(dec c (zc (tt (el c)))).isSome|.st _ fs z=>Akd tt rd 0 fs z|_=>false
def rdB(el:Ck->TypeId)(tt:Nat->Ty)(rd:List Nat):Bool:=rd.all λt=>Bim el tt rd t&&Nat.beq (zc (tt t)).length (tt t).n
def szB(P:Program)(el:Ck->TypeId)(tt:Nat->Ty)(rd:List Nat):Bool:=rd.all λt=>match tt t with|.sl c=>Nat.ble 1 (P.bytesOf (el c))|_=>true
theorem Aem{α:Type}{p:Nat->α->Prop}:∀(n:Nat),(∀i,i<n->∃y,p i y)->∃ys:List α,ys.length=n/\∀i y,ys[i]? = some y->p i y
 |0,_=>⟨[],rfl,by simp⟩
 |n+1,h=>by
  obtain⟨ys,h1,h2⟩:=Aem n (λi hi=>h i (by omega));obtain⟨y,hy⟩:=h n (by omega);refine⟨ys++[y],by simp[h1],λi z hz =>?_⟩;rcases Nat.lt_trichotomy i n with hi|rfl|hi
  ·rw[List.getElem?_append_left (by omega)] at hz;exact h2 i z hz
  ·rw[List.getElem?_append_right (by omega),h1] at hz;simp at hz;subst hz;exact hy
  ·rw[List.getElem?_eq_none (by simp;omega)] at hz;cases hz
section
variable {H:Type}{enc':TypeId×Value->H}{P:Program}{el:Ck->TypeId}{tt:Nat->Ty}{rd:List Nat}{w:World}{sp:Nat->Bool}{held:Bool}
theorem Wa{t:TypeId}{n:Nat}(h:Sx.tySz P t=some n):P.cellsOf t=n:=by unfold Sx.tySz at h;simp[Program.cellsOf,h]
theorem Ajl{a:Addr}{n:Nat}{vs:List Value}(h:w.cells? 0 a n=some vs):vs.length=n/\∀j u,vs[j]? = some u->w.cell? (a.add j)=some u:=by
 unfold World.cells? at h;simp only[Nat.zero_le,if_true] at h;refine⟨by simpa using Lib.mapM_length h,λj u hj =>?_⟩;have hlt:j<n:=by have:=Lib.mapM_length h;have h2:=(Zi2.1 hj).1;simp at this;omega
 obtain⟨u',hu,hf⟩:=Lib.mapM_at h j j (by simp[hlt]);rw[hj] at hu;simp only[Za1] at hu;subst hu;exact hf
theorem A3u{a:Addr}{u:Value}(h:w.cell? a=some u):a.spot=none:=by
 unfold World.cell? at h;split at h
 ·split at h
  ·cases h
  ·rename_i hs;cases hq:a.spot with|none=>rfl|some q=>rw[hq] at hs;simp at hs
 ·cases h
theorem Ar9{R:Nat×Nat}{M:TypeId->DataW H->Prop}(hM:Msr P R M)(hT:∀t,B8 P el tt t=true)(hrd:rdB el tt rd=true)(hsb:szB P el tt rd=true):∀(fuel:Nat) (t:TypeId) (cs:List Value) (x:DataW H×List MemPlace),rd.contains t=true->DataW.trod enc' P w 0 sp held fuel t cs=some x->∃ds,Ii (zc (tt t)) ds=true/\Reps (v0 el B9 w) ds cs/\(M t x.1->∀d,d∈ds->SmD R d)/\∀m,Siz m->Ajs ds<=m x.1
 |0,t,cs,x,_,h=>by simp[DataW.trod] at h
 |fuel+1,t,cs,x,hc,h=>by
  have hloc:=Zg2.1 hrd t (by simpa using hc);simp only[Zb1] at hloc;obtain⟨hloc,hzl⟩:=hloc;have hzl:=Zl1 hzl;have hszB:=Zg2.1 hsb t (by simpa using hc);unfold Bim at hloc;split at hloc
  ·rename_i k hty;have hu:=Sx.tyI_spec (Ala (hT t) hty);obtain⟨n,rfl,_,hw⟩:=DataW.trod_int hu h;refine⟨[.int k n],by(rw[hty];show(decide (k=k)&&true)=true;simp),?_,λ_ d hd=>by simp only[List.mem_singleton] at hd;subst hd;trivial,λm hm=>by simpa[Ajs,szD] using hm.one _⟩;simp only[Reps,Rep];exact⟨_,_,rfl,⟨rfl,hw⟩,rfl⟩
  ·rename_i hty;have hu:=Sx.tyB_spec (Abv (hT t) hty);obtain⟨b,rfl,_⟩:=DataW.trod_bool hu h;refine⟨[.bool b],by rw[hty];rfl,?_,λ_ d hd=>by simp only[List.mem_singleton] at hd;subst hd;trivial,λm hm=>by simpa[Ajs,szD] using hm.one _⟩;simp only[Reps,Rep];exact⟨_,_,rfl,rfl,rfl⟩
  ·rename_i hty;have hu:=Sx.tyS_spec (Gz (hT t) hty);obtain⟨s,rfl,rfl,hs⟩:=DataW.trod_string hu h;refine⟨[.str s.data.toList],by rw[hty];rfl,?_,λhwt d hd=>by simp only[List.mem_singleton] at hd;subst hd;exact hM.str _ _ hwt,λm hm=>by simpa[Ajs,szD] using hm.one _⟩
   simp only[Reps,Rep];exact⟨_,_,rfl,⟨(by rw[Array.toArray_toList]),(by rw[Array.length_toList];exact hs)⟩,rfl⟩
  ·rename_i c hty;simp only[Zb1] at hloc;obtain⟨hel,hdec⟩:=hloc;have hbz : 1<=P.bytesOf (el c):=by rw[hty] at hszB;exact Nat.le_of_ble_eq_true hszB
   obtain⟨by_,hE,_,_⟩:=Cj (hT t) hty;have hu:=hE.und;obtain⟨_,i0,z,hi0,hz,hsz,_⟩:=hE;have hco:P.cellsOf (el c)=csz c:=Wa (by simp[Sx.tySz,hi0,hsz]);rcases DataW.trod_slice hu h with ⟨rfl,_⟩|⟨a,len,cap,elems,rest,n,hf,rfl,rfl,_,hle,hmax,hlen,hel2,_⟩
   ·refine⟨[.sl c [] .no],by(rw[hty];show(decide (c=c)&&true)=true;simp),?_,λ_ d hd=>by
     simp only[List.mem_singleton] at hd;subst hd;exact⟨Nat.zero_le _,λx hx=>by cases hx⟩,λm hm=>by
     have h0:szD (.sl c [] .no)=0:=by cases c<;>rfl
     simpa[Ajs,h0] using hm.one _⟩
    simp only[Reps,Rep];exact⟨_,_,rfl,⟨λ_ _ =>.nil _ _ _ _ trivial,trivial⟩,rfl⟩
   ·have hf:fuel=n:=by omega
    subst hf;have each:∀i,i<len->∃y:El c,(∃vs:List Value,w.cells? 0 (a.add (i*csz c)) (csz c)=some vs/\ElR (v0 el B9 w) c y vs)/\(M t (DataW.slice (elems.map (·.1)) (rest.map (·.1)))->SmK R c y)/\∀m e,Siz m->elems[i]? = some e->szK c y<=m e.1:=λi hi=>by have h1:=hel2 i hi;have hsome:∃e,elems[i]? = some e:=⟨_,Zo1 (by omega)⟩;obtain⟨e,he⟩:=hsome;rw[he] at h1;obtain⟨vs,hv,ht⟩:=Option.bind_eq_some_iff.1 h1;rw[hco] at hv;obtain⟨ds,hs,hr,hsm,hsz⟩:=Ar9 hM hT hrd hsb fuel (el c) vs e hel ht;obtain⟨y,hy⟩:=Aqh hdec hs;exact⟨y,⟨vs,hv,Qf hy hr⟩,λhwt=>Bia hy (hsm ((hM.sl _ _ _ _ hu hbz hwt (by have:maxLen=9223372036854775807:=rfl;simp only[List.length_map];omega)).2 e.1 (List.mem_map.2 ⟨e,List.mem_of_getElem? he,rfl⟩))),λm e' hm he'=>by rw[he] at he';cases he';exact Nat.le_trans (Bi6 hy) (hsz m hm)⟩
    obtain⟨ys,hyl,hys'⟩:=Aem len each;have hys:=λi y hy=>(hys' i y hy).1;refine⟨[.sl c ys .no],by(rw[hty];show(decide (c=c)&&true)=true;simp),?_,λhwt d hd=>by
     simp only[List.mem_singleton] at hd;subst hd;refine⟨?_,λy hy =>?_⟩
     ·have:=(hM.sl _ _ _ _ hu hbz hwt (by have:maxLen=9223372036854775807:=rfl;simp only[List.length_map];omega)).1;simp only[List.length_map] at this;omega
     ·obtain⟨i,hi,rfl⟩:=List.getElem_of_mem hy;exact(hys' i _ (Zo1 hi)).2.1 hwt,λm hm=>by
     have h1:=Av2 (m:=m) ys (elems.map (·.1)) (by simp;omega) λi y e hy he=>by rw[List.getElem?_map] at he;obtain⟨e',he',rfl⟩:=Option.map_eq_some_iff.1 he;exact(hys' i y hy).2.2 m e' hm he'
     have h2:=hm.sl (elems.map (·.1)) (rest.map (·.1));simp only[Ajs,Zw1,List.map_nil,List.sum_cons,List.sum_nil,Zf1,Zi1];omega⟩
    simp only[Reps,Rep];refine⟨_,_,rfl,⟨Jl hyl.symm ?_,trivial⟩,rfl⟩;by_cases h0:ys=[]
    ·exact .inl h0
    ·right;have hsn:a.spot=none:=by have hlt : 0<ys.length:=List.length_pos_iff.2 h0;obtain⟨vs,hv,hE⟩:=hys 0 _ (Zo1 hlt);obtain⟨h1,h2⟩:=Ajl hv;have hp:=Afx c;have:=h2 0 _ (Zo1 (by omega));simp only[Nat.zero_mul,Addr.add,if_true] at this;exact A3u this
     obtain⟨b,o,s⟩:=a;simp only at hsn;subst hsn;refine⟨b,o,rfl,⟨by omega,hmax⟩,λi y hy w' hw j d hd =>?_⟩;obtain⟨vs,hv,hE⟩:=hys i y hy;obtain⟨_,h2⟩:=Ajl hv;obtain⟨u,hu',hf⟩:=hE.2 j d hd;have hcell:=h2 j u hu';rw[Sx.add_mk,Sx.add_mk] at hcell;exact⟨u,hw.cell b _ u hcell (λh=>h),hf w' hw⟩
  ·rename_i cc fs z hty;have hbase:=Dp (hT t) (by rw[hty];simp);have hsz:P.cellsOf t=z.length:=by have:=Wa hbase.2.2;rw[this,hty];rfl
   have hok:=hT t;unfold B8 at hok;rw[hty] at hok;simp only[Zb1] at hok;have hfl:=hok.2;split at hfl
   ·rename_i fds hu;simp only[Zb1] at hfl;have hfl:=hfl.1;obtain⟨xs,n,hf,rfl,hcl,hxl,hfx⟩:=DataW.trod_struct hu h;have hf:fuel=n:=by omega
    subst hf;have key:∀(l:List (Nat×Nat)) (i o:Nat) (z':List D),fs.drop i=l->Akd tt rd o l z' = true->o+z'.length=cs.length->∃ds,Ii z' ds=true/\Reps (v0 el B9 w) ds (cs.drop o)/\(M t (DataW.agg (xs.map (·.1)))->∀d,d∈ds->SmD R d)/\∀m,Siz m->Ajs ds<=(((xs.map (·.1)).drop i).map m).sum:=by
     intro l;induction l with
     |nil =>intro i o z' _ hct ho;simp only[Akd,List.isEmpty_iff] at hct;subst hct;refine⟨[],rfl,?_,λ_=>(λd hd=>by cases hd),λ_ _=>Nat.zero_le _⟩;rw[Zk1 (by simp at ho;omega)];simp[Reps]
     |cons q l ih =>
      intro i o z' hd hct ho;obtain⟨o',u⟩:=q;simp only[Akd,Zb1] at hct;obtain⟨⟨⟨⟨ho',hcu⟩,hle⟩,hsh⟩,hct⟩:=hct;have ho':=Zl1 ho';subst ho';have hle:=Nat.le_of_ble_eq_true hle;have hget:fs[i]? = some (o',u):=by have:=congrArg (·[0]?) hd;simpa[List.getElem?_drop] using this
      obtain⟨fd,g1,g2,g3,_⟩:=Acv hfl hget;have g1':fds[i]? = some fd:=by simpa using g1
      have h1:=hfx i fd g1';rw[g2,g3] at h1;have hxi:∃e,xs[i]? = some e:=⟨_,Zo1 (by have:=(Zh2.1 g1').1;omega)⟩
      obtain⟨e,he⟩:=hxi;rw[he] at h1;have hlu:=Zg2.1 hrd u (by simpa using hcu);simp only[Zb1] at hlu;have hnu:=Zl1 hlu.2;have hneu:tt u ≠ .no:=by intro e;have:=hlu.1;unfold Bim at this;rw[e] at this;cases this
      have hcou:P.cellsOf u=(zc (tt u)).length:=by rw[Wa (Dp (hT u) hneu).2.2,hnu]
      rw[hcou] at h1;obtain⟨ds1,s1,r1,m1,z1⟩:=Ar9 hM hT hrd hsb fuel u _ e hcu h1;obtain⟨ds2,s2,r2,m2,z2⟩:=ih (i+1) (o'+(zc (tt u)).length) _ (by rw[<-List.drop_drop,hd];rfl) hct (by simp;omega);refine⟨ds1++ds2,?_,?_,λhwt d hd=>by
       rcases List.mem_append.1 hd with hd|hd
       ·refine m1 ?_ d hd;rw[<-g2];exact hM.agg _ _ _ i fd e.1 hu hwt g1' (by rw[List.getElem?_map,he];rfl)
       ·exact m2 hwt d hd,λm hm=>by
       have h1:=z1 m hm;have h2:=z2 m hm;have h3:(xs.map (·.1))[i]? = some e.1:=by rw[List.getElem?_map,he];rfl
       obtain⟨hl3,h4⟩:=Zi2.1 h3;rw[List.drop_eq_getElem_cons hl3,h4,Zw1,List.sum_cons];simp only[Ajs,List.map_append,List.sum_append,Zh1] at h1 h2 ⊢;omega⟩
      ·rw[<-List.take_append_drop (zc (tt u)).length z'];exact Afi (A6o hsh s1) s2
      ·have:=r1.append r2;rwa[<-List.drop_drop,List.take_append_drop] at this
    obtain⟨ds,h1,h2,h3,h4⟩:=key fs 0 0 z rfl hloc (by rw[hcl,hsz];omega);exact⟨ds,by simpa[hty,zc,Ty.zero,cells] using h1,by simpa using h2,h3,λm hm=>Nat.le_trans (h4 m hm) (by simpa using hm.agg (xs.map (·.1)))⟩
   ·cases hfl
  ·cases hloc
def Buh(tt:Nat->Ty)(rd:List Nat)(t:Nat)(s:Sg):Bool:=rd.contains t&&match tt t,s with|.int k,.int k'=>decide (k=k')|.bool,.bool=>true|.str,.str=>true|.sl c,.sl c' false=>decide (c=c')|.st (some c) _ _,.sv c'=>decide (c=c')&&agg? c&&(dec c (zc (tt t))).isSome|_,_=>false
def szS:(s:Sg)->den s->Nat
 |.sv c,x=>szK c x
 |_,_=>0
def szL:(l:List Sg)->HV l->Nat
 |[],_=>0
 |[a],x=>szS a x
 |a::b::l,(x,y)=>szS a x+szL (b::l) y
theorem Brg{R:Nat×Nat}{M:TypeId->DataW H->Prop}(hM:Msr P R M)(hT:∀t,B8 P el tt t=true)(hrd:rdB el tt rd=true)(hsb:szB P el tt rd=true){t:TypeId}{s:Sg}(hs:Buh tt rd t s=true){r:Reach}{b0:Nat}{v:Value}{d:DataW H}{ps:List MemPlace}(hval:Value.okWide P w r b0 t v)(h:DataW.Trod enc' P w 0 sp held t v d ps)(i:Nat):∃y:den s,Rep (v0 el B9 w) (Cl i s y) v/\(M t d->SmS R s y)/\∀m,Siz m->szS s y<=m d:=by
 obtain⟨fuel,h⟩:=h;simp only[Buh,Zb1] at hs;obtain⟨hc,hs⟩:=hs;obtain⟨ds,hsh,hr,hsm,hsz⟩:=Ar9 hM hT hrd hsb fuel t _ _ hc h;have hsz:∀m,Siz m->Ajs ds<=m d:=hsz;have hsm:M t d->∀d,d∈ds->SmD R d:=hsm;split at hs
 ·rename_i k k' hty;simp only[Zg1] at hs;subst hs;obtain⟨n,rfl⟩:=WideShapes.okWide_int (Sx.tyI_spec (Ala (hT t) hty)) hval;simp only[hty,zc,Ty.zero,cells] at hsh;obtain⟨b,m,rfl,h1,h2⟩:=Tv hsh;obtain rfl:=Aaw h2;obtain⟨n',rfl⟩:=A8m h1;simp only[Value.cells,Reps] at hr;obtain⟨u,us,e,hr,_⟩:=hr;simp only[Ze2] at e;obtain⟨rfl,_⟩:=e;exact⟨n',hr,λ_=>trivial,λ_ _=>Nat.zero_le _⟩
 ·rename_i hty;obtain⟨n,rfl⟩:=WideShapes.okWide_bool (Sx.tyB_spec (Abv (hT t) hty)) hval;exact⟨n,by simp only[Cl,Rep],λ_=>trivial,λ_ _=>Nat.zero_le _⟩
 ·rename_i hty;obtain⟨n,rfl⟩:=WideShapes.okWide_string (Sx.tyS_spec (Gz (hT t) hty)) hval;simp only[hty,zc,Ty.zero,cells] at hsh;obtain⟨b,m,rfl,h1,h2⟩:=Tv hsh;obtain rfl:=Aaw h2;obtain⟨n',rfl⟩:=A6h h1;simp only[Value.cells,Reps] at hr;obtain⟨u,us,e,hr,_⟩:=hr;simp only[Ze2] at e;obtain⟨rfl,_⟩:=e;exact⟨n',hr,λhwt=>hsm hwt (.str n') (by simp),λ_ _=>Nat.zero_le _⟩
 ·rename_i c c' hty;simp only[Zg1] at hs;subst hs;obtain⟨by_,hE,_,_⟩:=Cj (hT t) hty;have hv:v.cells.toList=[v]:=by have hu:=hE.und;simp only[Value.okWide,hu,Cell.okWide] at hval;cases v<;>first|rfl|(simp[Cell.ok,hu] at hval;done)|(exfalso;simp_all [Cell.ok])
  rw[hv] at hr;simp only[hty,zc,Ty.zero,cells] at hsh;obtain⟨b,m,rfl,h1,h2⟩:=Tv hsh;obtain rfl:=Aaw h2;obtain⟨ys,u,rfl⟩:=Bm0 h1;simp only[Reps] at hr;obtain⟨u',us,e,hr,_⟩:=hr;simp only[Ze2] at e;obtain⟨rfl,_⟩:=e;refine⟨ys,?_,λhwt=>hsm hwt (.sl c ys u) (by simp),λ_ _=>Nat.zero_le _⟩;simp only[Cl,Rep] at hr ⊢;exact⟨hr.1,trivial⟩
 ·rename_i c fs z c' hty;simp only[Zb1,Zg1] at hs;obtain⟨⟨rfl,ha⟩,hdec⟩:=hs;obtain⟨y,hy⟩:=Aqh hdec hsh;have hE:=Qf hy hr;have hv:∃cs,v = .agg cs:=by
   have hok:=hT t;unfold B8 at hok;rw[hty] at hok;simp only[Zb1] at hok;have hfl:=hok.2;split at hfl
   ·rename_i fds hu;simp only[Value.okWide,hu] at hval;obtain⟨cs,h1,_⟩:=hval;exact⟨cs,h1⟩
   ·cases hfl
  obtain⟨cs,rfl⟩:=hv;refine⟨y,?_,λhwt=>Bia hy (hsm hwt),λm hm=>Nat.le_trans (Bi6 hy) (hsz m hm)⟩;simp only[Cl,Rep];exact⟨ha,cs.toList,by simp,by simpa[Value.cells] using hE.1,by simpa[Value.cells] using hE.2⟩
 ·cases hs
def Anq(tt:Nat->Ty)(rd:List Nat):List TypeId->List Sg->Bool
 |[],[]=>true
 |t::ts,s::ss=>Buh tt rd t s&&Anq tt rd ts ss
 |_,_=>false
theorem Ayp{R:Nat×Nat}{M:TypeId->DataW H->Prop}(hM:Msr P R M)(hT:∀t,B8 P el tt t=true)(hrd:rdB el tt rd=true)(hsb:szB P el tt rd=true){r:Reach}{b0:Nat}:∀{ts:List TypeId}{sa:List Sg}{vs:List Value}{ds:List (DataW H)}{ps:List MemPlace}(i:Nat),Anq tt rd ts sa=true->(∀(j:Nat) t v,ts[j]? = some t->vs[j]? = some v->Value.okWide P w r b0 t v)->DataW.TrodAll enc' P w 0 sp held ts vs ds ps->∃x:HV sa,Reps (v0 el B9 w) (Bw i sa x) vs/\((∀(i:Nat) (t:TypeId) (d:DataW H),ts[i]? = some t->ds[i]? = some d->M t d)->SmL R sa x)/\∀m,Siz m->szL sa x<=(ds.map m).sum
 |[],[],vs,ds,ps,i,_,_,h=>by cases vs with|nil=>exact⟨(),by simp[Bw,Reps],λ_=>trivial,λ_ _=>Nat.zero_le _⟩|cons v vs=>cases ds<;>simp[DataW.TrodAll] at h
 |t::ts,[],_,_,_,_,hs,_,_=>by simp[Anq] at hs
 |[],s::ss,_,_,_,_,hs,_,_=>by simp[Anq] at hs
 |t::ts,s::ss,vs,ds,ps,i,hs,hval,h=>by
  simp only[Anq,Zb1] at hs;obtain⟨v,vs',d,ds',p,q,rfl,rfl,rfl,hd,hrest⟩:=trodAll_cons h;obtain⟨y,hy,hsy,hmy⟩:=Brg hM hT hrd hsb hs.1 (hval 0 t v rfl rfl) hd i;obtain⟨z,hz,hsz,hmz⟩:=Ayp hM hT hrd hsb (i+1) hs.2 (λj t' v' h1 h2=>hval (j+1) t' v' (by simpa using h1) (by simpa using h2)) hrest;cases ss with
  |nil =>refine⟨y,?_,λhwt=>hsy (hwt 0 t d rfl rfl),λm hm=>Nat.le_trans (hmy m hm) (by simp)⟩;simp only[Bw,Reps] at hz ⊢;exact⟨v,vs',rfl,hy,hz⟩
  |cons s' ss =>
   refine⟨(y,z),?_,λhwt=>⟨hsy (hwt 0 t d rfl rfl),hsz λj t' d' h1 h2=>hwt (j+1) t' d' (by simpa using h1) (by simpa using h2)⟩,λm hm=>by have h1:=hmy m hm;have h2:=hmz m hm;simp only[szL,Zw1,List.sum_cons];omega⟩
   simp only[Bw,Reps];exact⟨v,vs',rfl,hy,hz⟩
theorem Ani(hl:laidOutB P=true){W W':World}(hb:Below W.heap.size W W'):∀{ts:List TypeId}{vs:List Value}{ds:List (DataW H)}{ps:List MemPlace},(∀t,t∈ts->P.readableRec t=true/\t<P.types.size)->(∀x∈ps,x.block<W.heap.size)->DataW.TrodAll enc' P W 0 (λ_=>true) true ts vs ds ps->DataW.TrodAll enc' P W' 0 (λb=>decide (b<W.heap.size)) true ts vs ds ps
 |[],vs,ds,ps,_,_,h=>by
  cases vs<;>cases ds<;>simp[DataW.TrodAll] at h ⊢
  exact h
 |t::ts,vs,ds,ps,ht,hlt,h=>by obtain⟨v,vs',d,ds',p,q,rfl,rfl,rfl,hd,hrest⟩:=trodAll_cons h;obtain⟨h1,h2⟩:=ht t (by simp);exact⟨p,q,Below.trod hl h1 h2 hd hb (λx hx=>hlt x (by simp[hx])),Ani hl hb (λt' h'=>ht t' (by simp[h'])) (λx hx=>hlt x (by simp[hx])) hrest,rfl⟩
end
end Go.Ax
namespace Go.Proofs.YtcoaaebppfbbnaaGreatDoor
open Go.Ax
def bare(l:List Xpr):Xpr :=.mk 0 ⟨0,0,[]⟩ [] l
def rmR:List (List Xpr)->Int->Int->Int
 |[],_,n=>n
 |r::l,most,n=>cond (decide (n<most)) (rmR l most (wr .i64 (n+Io (bare r) most))) n
def rmS:List SetE->Int->Int->Int
 |[],_,n=>n
 |x::l,most,n=>cond (decide (n<most)) (rmS l most (wr .i64 (n+Io x.e most))) n
def rmN:List Str->Int->Int->Int
 |[],_,n=>n
 |x::l,most,n=>cond (decide (n<most)) (rmN l most (wr .i64 (n+wr .i64 (Int.tdiv (x.length:Int) 30)))) n
def n0(s:Stm)(most:Int):Int:=wr .i64 (wr .i64 (wr .i64 (wr .i64 (wr .i64 (wr .i64 ((s.cols.length:Int)+(s.names.length:Int))+(s.order.length:Int))+(s.desc.length:Int))+wr .i64 (Int.tdiv (wr .i64 ((s.name.length:Int)+(s.on.length:Int))) 30))+Io s.whr most)+Io (bare s.l) most)
def Ajg:Sig:=⟨110,[(1,.int .i64),(5,.int .i64),(8,.int .i64)],[(2,.ptr 0 0)],[(0,.one (.sv .stmt))],1,0,0,[],[]⟩
abbrev S4:=Int×Int×Int×Stm
def Uo{R:Type}(rec:S4->Option R)(kx:Ex->S4->Option R)(v:S4):Option R:=match v with
 |(b,c,a,w2) =>
 cond (decide (a<(w2.names.length:Int))) (
  cond (decide (c<b)) (
  chk (inb a w2.names.length) (
   rec (b,(wr .i64 (c+(wr .i64 (Int.tdiv ((at' .str w2.names a).length:Int) 30)))),(wr .i64 (a+1)),w2))) (
  kx (.exit 4) (b,c,a,w2))) (
  kx (.exit 4) (b,c,a,w2))
def Ak9:Sig:=⟨110,[(1,.int .i64),(5,.int .i64),(7,.int .i64)],[(2,.ptr 0 0)],[(0,.one (.sv .stmt))],1,0,0,[],[]⟩
abbrev Tn:=Int×Int×Int×Stm
def Sf{R:Type}(rec:Tn->Option R)(kx:Ex->Tn->Option R)(v:Tn):Option R:=match v with
 |(v7,v8,v9,w1) =>
 cond (decide (v9<(w1.sets.length:Int))) (
  cond (decide (v8<v7)) (
  chk (inb v9 w1.sets.length) (
   rec (v7,(wr .i64 (v8+(Io (U2 ((at' .set w1.sets v9).e)) v7))),(wr .i64 (v9+1)),w1))) (
  kx (.exit 2) (v7,v8,v9,w1))) (
  kx (.exit 2) (v7,v8,v9,w1))
def Alq:Sig:=⟨110,[(1,.int .i64),(5,.int .i64),(6,.int .i64)],[(2,.ptr 0 0)],[(0,.one (.sv .stmt))],1,0,0,[],[]⟩
abbrev Ss:=Int×Int×Int×Stm
def Su{R:Type}(rec:Ss->Option R)(kx:Ex->Ss->Option R)(v:Ss):Option R:=match v with
 |(v,v1,v2,w) =>
 cond (decide (v2<(w.rows.length:Int))) (
  cond (decide (v1<v)) (
  chk (inb v2 w.rows.length) (
   rec (v,(wr .i64 (v1+(Io (Xpr.mk 0 ⟨0,0,[]⟩ [] (at' .exprs w.rows v2)) v))),(wr .i64 (v2+1)),w))) (
  kx (.exit 0) (v,v1,v2,w))) (
  kx (.exit 0) (v,v1,v2,w))
def Awy(R:Type)(k:Nat):Px R:=pxO [(85,cA Atq)] [(85,qA Atq)] [(3,Am k Alq (Su)),(7,Am k Ak9 (Sf)),(11,Am k Ajg (Uo))] []
def Agt(k:Nat)(x:HV [.sv .stmt,.int .i64]):Option (HV [.int .i64]):=match x with
 |(s,most) =>
 Aj (λrec=>Su rec (λe vz=>match vz with|(v3,v4,_,v6)=>match e with
  |.exit 0 =>
  Aj (λrec=>Sf rec (λe vz=>match vz with|(a,b,_,c)=>match e with
   |.exit 2 =>
   Aj (λrec=>Uo rec (λe vz=>match vz with|(_,d,_,_)=>match e with
    |.exit 4 =>
    some d
    |_=>none)) k (a,b,0,c)
   |_=>none)) k (v3,v4,0,v6)
  |_=>none)) k (most,(wr .i64 ((wr .i64 ((wr .i64 ((wr .i64 ((wr .i64 ((wr .i64 ((s.cols.length:Int)+(s.names.length:Int)))+(s.order.length:Int)))+(s.desc.length:Int)))+(wr .i64 (Int.tdiv (wr .i64 ((s.name.length:Int)+(s.on.length:Int))) 30))))+(Io (U2 s.whr) most)))+(Io (Xpr.mk 0 ⟨0,0,[]⟩ [] s.l) most))),0,s)
theorem Bep(k:Nat):FO 51 [.sv .stmt,.int .i64] [.int .i64] (Agt k):=fR (px:=Awy _ k) (n:=3) Tryz.func51 rfl (λcx H=>by have h0:Lv cx (Awy (HV [.int .i64]) k):=lv H (c1 H Au7 Ae) (q1 H Au7 Aa) Ab;have hlrmuch_0:=lO H h0 (b:=lp Tryz.f51 0) (k:=k) (n:=0) (s:=Alq) (step:=Su) (λ_ _ _ (_,_,_,_)=>by kernel_rfl) Ai;have hlrmuch_1:=lO H h0 (b:=lp Tryz.f51 1) (k:=k) (n:=0) (s:=Ak9) (step:=Sf) (λ_ _ _ (_,_,_,_)=>by kernel_rfl) Ai;have hlrmuch_2:=lO H h0 (b:=lp Tryz.f51 2) (k:=k) (n:=0) (s:=Ajg) (step:=Uo) (λ_ _ _ (_,_,_,_)=>by kernel_rfl) Ai;exact⟨h0,(A6 (A6 (A6 Ai hlrmuch_0) hlrmuch_1) hlrmuch_2)⟩) λ(_,_)=>by kernel_rfl
def Aop(s:Stm)(most:Int):Int:=rmN s.names most (rmS s.sets most (rmR s.rows most (n0 s most)))
def Ar7:FT [.sv .stmt,.int .i64] [.int .i64]:=λx=>some (Aop x.1 x.2)
theorem Ar4{R:Type}{kx:Ex->Ss->Option R}{s:Stm}{most:Int}{c:Int->Option R}(hn:ln s.rows.length)(h2:∀n i,kx (.exit 0) (most,n,i,s)=c n)(k:Nat)(hk:s.rows.length<k)(n:Int) :
  Aj (λrec=>Su rec kx) k (most,n,0,s)=c (rmR s.rows most n):=by
 refine(C9 s.rows.length (λi n=>(most,n,(i:Int),s)) (λ_ _=>True) (λi n=>c (rmR (s.rows.drop i) most n)) (λi hi n _ rec hr =>?_) (λn _ rec =>?_) k 0 n (Nat.zero_le _) (by omega) trivial).trans (by rw[Zq1])
 ·simp only[Su,Ea hi,As hi,Al (c :=.exprs) hi,An hi hn,Ak hi,rmR,h2];cases decide (n<most) with|false=>rfl|true=>exact(hr (wr .i64 (n+Io (bare s.rows[i]) most)) trivial)
 ·simp only[Su,Ee,h2];rw[Zk1 (Zn1 _)];rfl
theorem Aut{R:Type}{kx:Ex->Tn->Option R}{s:Stm}{most:Int}{c:Int->Option R}(hn:ln s.sets.length)(h2:∀n i,kx (.exit 2) (most,n,i,s)=c n)(k:Nat)(hk:s.sets.length<k)(n:Int) :
  Aj (λrec=>Sf rec kx) k (most,n,0,s)=c (rmS s.sets most n):=by
 refine(C9 s.sets.length (λi n=>(most,n,(i:Int),s)) (λ_ _=>True) (λi n=>c (rmS (s.sets.drop i) most n)) (λi hi n _ rec hr =>?_) (λn _ rec =>?_) k 0 n (Nat.zero_le _) (by omega) trivial).trans (by rw[Zq1])
 ·simp only[Sf,Ea hi,As hi,Al (c :=.set) hi,An hi hn,Ak hi,rmS,h2,T1];cases decide (n<most) with|false=>rfl|true=>exact(hr (wr .i64 (n+Io s.sets[i].e most)) trivial)
 ·simp only[Sf,Ee,h2];rw[Zk1 (Zn1 _)];rfl
theorem Asf{R:Type}{kx:Ex->S4->Option R}{s:Stm}{most:Int}{c:Int->Option R}(hn:ln s.names.length)(h2:∀n i,kx (.exit 4) (most,n,i,s)=c n)(k:Nat)(hk:s.names.length<k)(n:Int) :
  Aj (λrec=>Uo rec kx) k (most,n,0,s)=c (rmN s.names most n):=by
 refine(C9 s.names.length (λi n=>(most,n,(i:Int),s)) (λ_ _=>True) (λi n=>c (rmN (s.names.drop i) most n)) (λi hi n _ rec hr =>?_) (λn _ rec =>?_) k 0 n (Nat.zero_le _) (by omega) trivial).trans (by rw[Zq1])
 ·simp only[Uo,Ea hi,As hi,Al (c :=.str) hi,An hi hn,Ak hi,rmN,h2];cases decide (n<most) with|false=>rfl|true=>exact(hr (wr .i64 (n+wr .i64 (Int.tdiv (s.names[i].length:Int) 30))) trivial)
 ·simp only[Uo,Ee,h2];rw[Zk1 (Zn1 _)];rfl
theorem Bhz:FO 51 [.sv .stmt,.int .i64] [.int .i64] Ar7 :=.fin 0 Bep λ(s,most) r hb hx=>⟨s.rows.length+s.sets.length+s.names.length+1,by have hb:=hb.1;simp only[Ar7,Za1] at hx;rw[<-hx];simp only[Agt,T1];refine(Ar4 (c:=λn=>some (rmN s.names most (rmS s.sets most n))) hb.rows.1 (λn i =>?_) _ (by omega) _).trans rfl;refine(Aut (c:=λn=>some (rmN s.names most n)) hb.sets.1 (λn i =>?_) _ (by omega) _).trans rfl;exact Asf (c:=some) hb.names.1 (λn i=>rfl) _ (by omega) _⟩
def A2g(R:Type):Px R:=pxO [] [] [] []
def Nv(x:HV [.sv .tbl]):Option (HV [.sv .stmt]):=match x with
 |t =>
 some (Stm.mk 1 t.name [] t.cols t.key t.checks [] [] false (Xpr.mk 0 ⟨0,0,[]⟩ [] []) [] [] 0)
theorem A0g:FO 43 [.sv .tbl] [.sv .stmt] (Nv):=fR (px:=A2g _) (n:=0) Tryz.func43 rfl (λ_ H=>⟨lv H Ae Aa Ab,Ai⟩) λ_=>by kernel_rfl
def Aay(t:Tbl):Stm :=(Stm.mk 1 t.name [] t.cols t.key t.checks [] [] false (Xpr.mk 0 ⟨0,0,[]⟩ [] []) [] [] 0)
theorem Azu(x:HV [.sv .tbl]):Nv x=some (Aay x):=by
 first
  |exact rfl
  |simp only[Nv,Aay,Az]
def Aqx:FT [.sv .tbl] [.sv .stmt]:=λx=>some (Aay x)
theorem A2p:FO 43 [.sv .tbl] [.sv .stmt] Aqx :=.fin0 A0g λx _ _ hx=>(Azu x).trans hx
def ixS(x:Idx):Stm:=Stm.mk 0 x.name [] [] x.cols [] [] [] false (Xpr.mk 0 ⟨0,0,[]⟩ [] []) [] [] 0
def rmI:List Idx->Int->Int->Int
 |[],_,n=>n
 |x::l,most,n=>cond (decide (n<most)) (rmI l most (wr .i64 (n+Aop (ixS x) most))) n
def rmC:List Col->Int->Int->Int
 |[],_,n=>n
 |c::l,most,n=>cond (decide (n<most)) (rmC l most (wr .i64 (n+wr .i64 (Int.tdiv (wr .i64 ((c.name.length:Int)+(c.ref.length:Int))) 30)))) n
def Yy:Sig:=⟨76,[(1,.int .i64),(5,.int .i64),(7,.int .i64)],[(2,.ptr 0 0)],[(0,.one (.sv .tbl))],1,0,0,[],[]⟩
abbrev J5:=Int×Int×Int×Tbl
def I7{R:Type}(rec:J5->Option R)(kx:Ex->J5->Option R)(v:J5):Option R:=match v with
 |(v7,v8,v9,w1) =>
 cond (decide (v9<(w1.cols.length:Int))) (
  cond (decide (v8<v7)) (
  chk (inb v9 w1.cols.length) (
   chk (inb v9 w1.cols.length) (
   rec (v7,(wr .i64 (v8+(wr .i64 (Int.tdiv (wr .i64 ((((at' .col w1.cols v9).name).length:Int)+(((at' .col w1.cols v9).ref).length:Int))) 30)))),(wr .i64 (v9+1)),w1)))) (
  kx (.exit 2) (v7,v8,v9,w1))) (
  kx (.exit 2) (v7,v8,v9,w1))
def Y1:Sig:=⟨76,[(1,.int .i64),(5,.int .i64),(6,.int .i64)],[(2,.ptr 0 0)],[(0,.one (.sv .tbl))],1,0,0,[],[]⟩
abbrev Km:=Int×Int×Int×Tbl
def I2{R:Type}(rec:Km->Option R)(kx:Ex->Km->Option R)(v:Km):Option R:=match v with
 |(v,v1,v2,w) =>
 cond (decide (v2<(w.idx.length:Int))) (
  cond (decide (v1<v)) (
  chk (inb v2 w.idx.length) (
   chk (inb v2 w.idx.length) (
   rec (v,(wr .i64 (v1+(Aop (Stm.mk 0 ((at' .idx w.idx v2).name) [] [] ((at' .idx w.idx v2).cols) [] [] [] false (Xpr.mk 0 ⟨0,0,[]⟩ [] []) [] [] 0) v))),(wr .i64 (v2+1)),w)))) (
  kx (.exit 0) (v,v1,v2,w))) (
  kx (.exit 0) (v,v1,v2,w))
def Ail(R:Type)(k:Nat):Px R:=pxO [] [(43,qA Aqx),(51,qA Ar7)] [(3,Am k Y1 (I2)),(7,Am k Yy (I7))] []
def Y2(k:Nat)(x:HV [.sv .tbl,.int .i64]):Option (HV [.int .i64]):=match x with
 |(t,most) =>
 Aj (λrec=>I2 rec (λe vz=>match vz with|(v3,v4,_,v6)=>match e with
  |.exit 0 =>
  Aj (λrec=>I7 rec (λe vz=>match vz with|(_,a,_,_)=>match e with
   |.exit 2 =>
   some a
   |_=>none)) k (v3,v4,0,v6)
  |_=>none)) k (most,(wr .i64 ((Aop (Aay t) most)+(t.idx.length:Int))),0,t)
theorem Ayk(k:Nat):FO 23 [.sv .tbl,.int .i64] [.int .i64] (Y2 k):=fR (px:=Ail _ k) (n:=2) Tryz.func23 rfl (λcx H=>by have h0:Lv cx (Ail (HV [.int .i64]) k):=lv H Ae (q1 H A2p (q1 H Bhz Aa)) Ab;have hlrmuch16_0:=lO H h0 (b:=lp Tryz.f23 0) (k:=k) (n:=0) (s:=Y1) (step:=I2) (λ_ _ _ (_,_,_,_)=>by kernel_rfl) Ai;have hlrmuch16_1:=lO H h0 (b:=lp Tryz.f23 1) (k:=k) (n:=0) (s:=Yy) (step:=I7) (λ_ _ _ (_,_,_,_)=>by kernel_rfl) Ai;exact⟨h0,(A6 (A6 Ai hlrmuch16_0) hlrmuch16_1)⟩) λ(_,_)=>by kernel_rfl
def Aui(t:Tbl)(most:Int):Int:=rmC t.cols most (rmI t.idx most (wr .i64 (Aop (Aay t) most+(t.idx.length:Int))))
def Acf:FT [.sv .tbl,.int .i64] [.int .i64]:=λx=>some (Aui x.1 x.2)
theorem Ahc{R:Type}{kx:Ex->Km->Option R}{t:Tbl}{most:Int}{c:Int->Option R}(hn:ln t.idx.length)(h2:∀n i,kx (.exit 0) (most,n,i,t)=c n)(k:Nat)(hk:t.idx.length<k)(n:Int) :
  Aj (λrec=>I2 rec kx) k (most,n,0,t)=c (rmI t.idx most n):=by
 refine(C9 t.idx.length (λi n=>(most,n,(i:Int),t)) (λ_ _=>True) (λi n=>c (rmI (t.idx.drop i) most n)) (λi hi n _ rec hr =>?_) (λn _ rec =>?_) k 0 n (Nat.zero_le _) (by omega) trivial).trans (by rw[Zq1])
 ·have hr:=hr (wr .i64 (n+Aop (ixS t.idx[i]) most)) trivial;simp at hr;simp only[I2,Ea hi,As hi,Al (c :=.idx) hi,An hi hn,Ak hi,rmI,h2];cases decide (n<most) with|false=>rfl|true=>exact hr
 ·simp only[I2,Ee,h2];rw[Zk1 (Zn1 _)];rfl
theorem Ain{R:Type}{kx:Ex->J5->Option R}{t:Tbl}{most:Int}{c:Int->Option R}(hn:ln t.cols.length)(h2:∀n i,kx (.exit 2) (most,n,i,t)=c n)(k:Nat)(hk:t.cols.length<k)(n:Int) :
  Aj (λrec=>I7 rec kx) k (most,n,0,t)=c (rmC t.cols most n):=by
 refine(C9 t.cols.length (λi n=>(most,n,(i:Int),t)) (λ_ _=>True) (λi n=>c (rmC (t.cols.drop i) most n)) (λi hi n _ rec hr =>?_) (λn _ rec =>?_) k 0 n (Nat.zero_le _) (by omega) trivial).trans (by rw[Zq1])
 ·simp only[I7,Ea hi,As hi,Al (c :=.col) hi,An hi hn,Ak hi,rmC,h2];cases decide (n<most) with|false=>rfl|true=>exact(hr (wr .i64 (n+wr .i64 (Int.tdiv (wr .i64 ((t.cols[i].name.length:Int)+(t.cols[i].ref.length:Int))) 30))) trivial)
 ·simp only[I7,Ee,h2];rw[Zk1 (Zn1 _)];rfl
theorem A4v:FO 23 [.sv .tbl,.int .i64] [.int .i64] Acf :=.fin 0 Ayk λ(t,most) r hb hx=>⟨t.idx.length+t.cols.length+1,by have hb:=hb.1;simp only[Acf,Za1] at hx;rw[<-hx];simp only[Y2];refine(Ahc (c:=λn=>some (rmC t.cols most n)) hb.idx.1 (λn i =>?_) _ (by omega) _).trans rfl;exact Ain (c:=some) hb.cols.1 (λn i=>rfl) _ (by omega) _⟩
instance:DecidableEq SetE:=λa b=>decidable_of_iff (a.name=b.name/\a.e=b.e) (by cases a;cases b;simp only[SetE.mk.injEq])
noncomputable section
end
def An7:Sig:=⟨20,[(0,.sl .col false),(1,.str),(4,.int .i64),(5,.int .i64)],[],[],0,0,0,[],[]⟩
abbrev Ai4:=List Col×Str×Int×Int
def Alw{R:Type}(rec:Ai4->Option R)(kx:Ex->Ai4->Option R)(v:Ai4):Option R:=match v with
 |(v,v1,v2,v3) =>
 cond (decide (v3<(v.length:Int))) (
  chk (inb v3 v.length) (
  cond (decide (((at' .col v v3).name)=v1)) (
   kx .ret (v,v1,v3,v3)) (
   rec (v,v1,v2,(wr .i64 (v3+1)))))) (
  kx (.exit 0) (v,v1,v2,v3))
def A6p(R:Type)(k:Nat):Px R:=pxO [] [] [(2,Am k An7 (Alw))] []
def Aom(k:Nat)(x:HV [.sl .col false,.str]):Option (HV [.int .i64]):=match x with
 |(cols,name) =>
 Aj (λrec=>Alw rec (λe vz=>match vz with|(_,_,v6,_)=>match e with
  |.ret =>
  some v6
  |.exit 0 =>
  some (-1)
  |_=>none)) k (cols,name,0,0)
theorem Bjn(k:Nat):FO 40 [.sl .col false,.str] [.int .i64] (Aom k):=fR (px:=A6p _ k) (n:=1) Tryz.func40 rfl (λcx H=>by have h0:Lv cx (A6p (HV [.int .i64]) k):=lv H Ae Aa Ab;have hlrcol_0:=lO H h0 (b:=lp Tryz.f40 0) (k:=k) (n:=0) (s:=An7) (step:=Alw) (λ_ _ _ (_,_,_,_)=>by kernel_rfl) Ai;exact⟨h0,(A6 Ai hlrcol_0)⟩) λ(_,_)=>by kernel_rfl
def Bdh(cols:List Col)(name:Str):Int:=C7 cols name
def A4p:FT [.sl .col false,.str] [.int .i64]:=λx=>some (Bdh x.1 x.2)
theorem Bnx:FO 40 [.sl .col false,.str] [.int .i64] A4p :=.fin 0 Bjn λ(cols,s) r hb hx=>⟨cols.length+1,by
 simp only[A4p,Za1,Bdh] at hx;simp only[Aom];refine(A8 cols.length (λi=>(cols,s,0,(i:Int))) (λi=>some (Ds (cols.drop i) s i)) (λi hi rec hr =>?_) (λrec =>?_) _ 0 (Nat.zero_le _) (by omega)).trans (by rw[Zq1,<-hx];rfl)
 ·simp only[Alw,Ea hi,Af,As hi,chk,Al (c :=.col) hi,An hi hb.1.1,hr,Ak hi,Ds,Bool.cond_decide];split<;>rfl
 ·simp only[Alw,Ee,Ag];rw[Zk1 (Zn1 _)];rfl⟩
noncomputable section
end
def Aip:Sig:=⟨47,[(1,.sl .val false),(6,.sl .val true),(7,.int .i64),(8,.sl .val true),(10,.str),(19,.sl .str false),(20,.int .i64),(21,.int .i64),(26,.sl .col false),(27,.int .i64),(28,.int .i64)],[(3,.ptr 0 0)],[(0,.one (.sv .tbl))],1,0,0,[],[]⟩
abbrev Ts:=List Val×List Val×Int×List Val×Str×List Str×Int×Int×List Col×Int×Int×Tbl
def Ui{R:Type}(rec:Ts->Option R)(kx:Ex->Ts->Option R)(v:Ts):Option R:=match v with
 |(v7,v8,v9,c,d,f,g,h,b,e,a,w1) =>
 cond (decide (a<e)) (
  chk (inb a b.length) (
  cond (decide (((at' .col b a).name)=d)) (
   chk (inb a v7.length) (
   chk (decide (c.length+1<=Ah)) (
    kx (.exit 1) (v7,v8,v9,(c++[(at' .val v7 a)]),d,f,g,h,b,e,a,w1)))) (
   rec (v7,v8,v9,c,d,f,g,h,b,e,(wr .i64 (a+1)),w1)))) (
  kx (.exit 2) (v7,v8,v9,c,d,f,g,h,b,e,a,w1))
def Aht:Sig:=⟨47,[(1,.sl .val false),(6,.sl .val true),(7,.int .i64),(8,.sl .val true),(19,.sl .str false),(20,.int .i64),(21,.int .i64)],[(3,.ptr 0 0)],[(0,.one (.sv .tbl))],1,0,0,[],[]⟩
abbrev R7:=List Val×List Val×Int×List Val×List Str×Int×Int×Tbl
def Rh{R:Type}(k:Nat)(rec:R7->Option R)(kx:Ex->R7->Option R)(v:R7):Option R:=match v with
 |(v,v1,v2,v3,v4,v5,v6,w) =>
 cond (decide (v6<v5)) (
  chk (inb v6 v4.length) (
  Aj (λrc=>Ui rc (λe vz=>match vz with|(a,h,i,b,_,c,d,f,_,_,_,g)=>match e with
   |.exit 1 =>
   rec (a,h,i,b,c,d,(wr .i64 (f+1)),g)
   |.exit 2 =>
   kx .ret (a,[],150,b,c,d,f,g)
   |_=>none)) k (v,v1,v2,v3,(at' .str v4 v6),v4,v5,v6,w.cols,(w.cols.length:Int),0,w))) (
  kx (.exit 0) (v,v1,v2,v3,v4,v5,v6,w))
def A1a(R:Type)(k:Nat):Px R:=pxO [] [] [(8,Am k Aip (Ui)),(5,Am k Aht (Rh k))] []
def Ahq(k:Nat)(x:HV [.sv .tbl,.sl .val false,.sl .str false]):Option (HV [.sl .val true,.int .i64]):=match x with
 |(t,row,names) =>
 cond (!decide ((row.length:Int)=(t.cols.length:Int))) (
  some ([],2)) (
  Aj (λrec=>Rh k rec (λe vz=>match vz with|(_,a,b,c,_,_,_,_)=>match e with
  |.ret =>some (a,b)
  |.exit 0 =>some (c,0)
  |_=>none)) k (row,[],0,[],names,(names.length:Int),0,t))
theorem Bbt(k:Nat):FO 57 [.sv .tbl,.sl .val false,.sl .str false] [.sl .val true,.int .i64] (Ahq k):=fR (px:=A1a _ k) (n:=2) Tryz.func57 rfl (λcx H=>by have h0:Lv cx (A1a (HV [.sl .val true,.int .i64]) k):=lv H Ae Aa Ab;have hlspick_1:=lO H h0 (b:=lpC (lp Tryz.f57 0) 0) (k:=k) (n:=0) (s:=Aip) (step:=Ui) (λ_ _ _ (_,_,_,_,_,_,_,_,_,_,_,_)=>by kernel_rfl) Ai;have hlspick_0:=lO H h0 (b:=lp Tryz.f57 0) (k:=k) (n:=1) (s:=Aht) (step:=Rh k) (λ_ _ _ (_,_,_,_,_,_,_,_)=>by kernel_rfl) (A6 Ai hlspick_1);exact⟨h0,(A6 (A6 Ai hlspick_0) hlspick_1)⟩) λ(_,_,_)=>by kernel_rfl
def Al8(t:Tbl)(row:List Val)(names:List Str):Option (List Val×Int):=cond (decide (names.length<=2000000)) (some (cond (decide (row.length=t.cols.length)) (C4 t.cols row names []) ([],2))) none
def Asm:FT [.sv .tbl,.sl .val false,.sl .str false] [.sl .val true,.int .i64]:=λx=>Al8 x.1 x.2.1 x.2.2
theorem Asj{R:Type}{kx:Ex->Ts->Option R}{t:Tbl}{row v8 acc:List Val}{v9 n i:Int}{names:List Str}{s:Str}{g:Int->Option R}(hn:ln t.cols.length)(he:row.length=t.cols.length)(ha:acc.length+1<=Ah)(h1:∀j:Nat,kx (.exit 1) (row,v8,v9,acc++[at' .val row (j:Int)],s,names,n,i,t.cols,(t.cols.length:Int),(j:Int),t)=g j)(h2:kx (.exit 2) (row,v8,v9,acc,s,names,n,i,t.cols,(t.cols.length:Int),(t.cols.length:Int),t)=g (-1))(k:Nat)(hk:t.cols.length<k) :
  Aj (λrec=>Ui rec kx) k (row,v8,v9,acc,s,names,n,i,t.cols,(t.cols.length:Int),0,t)=g (C7 t.cols s):=by
 refine(A8 t.cols.length (λj=>(row,v8,v9,acc,s,names,n,i,t.cols,(t.cols.length:Int),(j:Int),t)) (λj=>g (Ds (t.cols.drop j) s j)) (λj hj rec hr =>?_) (λrec =>?_) k 0 (Nat.zero_le _) (by omega)).trans (by rw[Zq1];rfl)
 ·have hj2:j<row.length:=by omega
  simp only[Ui,Ea hj,As hj,As hj2,chk,Al (c :=.col) hj,An hj hn,hr,h1,Ak hj,Ds,Bool.cond_decide];split<;>rfl
 ·simp only[Ui,Ee,h2];rw[Zk1 (Zn1 _)];rfl
theorem Ati{R:Type}{kx:Ex->R7->Option R}{t:Tbl}{row:List Val}{names:List Str}{c:List Val×Int->Option R}(hn:ln t.cols.length)(he:row.length=t.cols.length)(hl:names.length<=2000000)(k:Nat)(hc:t.cols.length<k)(h1:∀acc i,kx .ret (row,[],150,acc,names,(names.length:Int),i,t)=c ([],150))(h2:∀acc,kx (.exit 0) (row,[],0,acc,names,(names.length:Int),(names.length:Int),t)=c (acc,0))(hk:names.length<k) :
  Aj (λrec=>Rh k rec kx) k (row,[],0,[],names,(names.length:Int),0,t)=c (C4 t.cols row names []):=by
 have hln:ln names.length:=by simp[ln];omega
 refine(C9 names.length (λi acc=>(row,[],0,acc,names,(names.length:Int),(i:Int),t)) (λi acc=>acc.length=i) (λi acc=>c (C4 t.cols row (names.drop i) acc)) (λi hi acc ha rec hr =>?_) (λacc _ rec =>?_) k 0 [] (Nat.zero_le _) (by omega) rfl).trans (by rw[Zq1])
 ·simp only[Rh,Ea hi,As hi,Al (c :=.str) hi,Ak hi,C4];refine(Asj (g:=λq=>cond (decide (q<0)) (c ([],150)) (rec (row,[],0,acc++[at' .val row q],names,(names.length:Int),((i+1:Nat):Int),t))) hn he (by simp[Ah];omega) (λj =>?_) ?_ k hc).trans ?_
  ·simp[An hi hln,Zd1 (show ¬(j:Int)<0 by omega)]
  ·exact h1 _ _
  ·grind
 ·simp only[Rh,Ee,h2];rw[Zk1 (Zn1 _)];rfl
theorem Blt:FO 57 [.sv .tbl,.sl .val false,.sl .str false] [.sl .val true,.int .i64] Asm :=.fin 0 Bbt λ(t,row,names) r hb hx=>⟨t.cols.length+names.length+1,by
 simp only[Asm,Al8] at hx;cases hl:decide (names.length<=2000000) with
 |false=>rw[hl] at hx;cases hx
 |true =>
  rw[hl] at hx;simp only[Af,Za1] at hx;rw[<-hx];simp only[Ahq];by_cases he:row.length=t.cols.length
  ·rw[Ze1 he,Ze1 (show(row.length:Int)=(t.cols.length:Int) by omega)];exact Ati (c:=some) hb.1.cols.1 he (of_decide_eq_true hl) _ (by omega) (λ_ _=>rfl) (λ_=>rfl) (by omega)
  ·rw[Zd1 he,Zd1 (show ¬(row.length:Int)=(t.cols.length:Int) by omega)];rfl⟩
noncomputable section
end
def Biy(R:Type):Px R:=pxO [] [] [] []
def Wm(x:HV [.str]):Option (HV [.sv .val]):=match x with
 |s =>
 some (Val.mk 4 0 s)
theorem Beu:FO 75 [.str] [.sv .val] (Wm):=fR (px:=Biy _) (n:=0) Tryz.func75 rfl (λ_ H=>⟨lv H Ae Aa Ab,Ai⟩) λ_=>by kernel_rfl
def Awh(s:Str):Val :=(Val.mk 4 0 s)
theorem Bb1(x:HV [.str]):Wm x=some (Awh x):=by
 first
  |exact rfl
  |simp only[Wm,Awh,Az]
def A9k:FT [.str] [.sv .val]:=λx=>some (Awh x)
theorem Bgk:FO 75 [.str] [.sv .val] A9k :=.fin0 Beu λx _ _ hx=>(Bb1 x).trans hx
def Aeb:Sig:=⟨19,[(3,.sl .val true),(6,.sl .str false),(7,.int .i64),(8,.int .i64)],[],[],0,0,0,[],[]⟩
abbrev W4:=List Val×List Str×Int×Int
def Q3{R:Type}(rec:W4->Option R)(kx:Ex->W4->Option R)(v:W4):Option R:=match v with
 |(v,v1,v2,v3) =>
 cond (decide (v3<v2)) (
  chk (inb v3 v1.length) (
  chk (decide (v.length+1<=Ah)) (
   rec ((v++[(Awh (at' .str v1 v3))]),v1,v2,(wr .i64 (v3+1)))))) (
  kx (.exit 0) (v,v1,v2,v3))
def Apf(R:Type)(k:Nat):Px R:=pxO [(75,cA A9k)] [] [(3,Am k Aeb (Q3))] []
def Kg(k:Nat)(x:HV [.sl .str false]):Option (HV [.sl .val true]):=match x with
 |l =>
 Aj (λrec=>Q3 rec (λe vz=>match vz with|(v4,_,_,_)=>match e with
  |.exit 0 =>
  some v4
  |_=>none)) k ([],l,(l.length:Int),0)
theorem A5a(k:Nat):FO 36 [.sl .str false] [.sl .val true] (Kg k):=fR (px:=Apf _ k) (n:=1) Tryz.func36 rfl (λcx H=>by have h0:Lv cx (Apf (HV [.sl .val true]) k):=lv H (c1 H Bgk Ae) Aa Ab;have hlpwords_0:=lO H h0 (b:=lp Tryz.f36 0) (k:=k) (n:=0) (s:=Aeb) (step:=Q3) (λ_ _ _ (_,_,_,_)=>by kernel_rfl) Ai;exact⟨h0,(A6 Ai hlpwords_0)⟩) λ_=>by kernel_rfl
def Mv(l:List Str):Option (List Val):=Kg 5000 l
def X3:FT [.sl .str false] [.sl .val true]:=λx=>Mv x
theorem Abj:FO 36 [.sl .str false] [.sl .val true] X3 :=.fin 0 A5a λ_ _ _ hx=>⟨5000,hx⟩
def Aox:Sig:=⟨36,[(6,.sl .val true),(25,.sl .vals false),(26,.int .i64),(27,.int .i64)],[],[],0,0,0,[],[]⟩
abbrev Ajy:=List Val×List (List Val)×Int×Int
def Aic{R:Type}(rec:Ajy->Option R)(kx:Ex->Ajy->Option R)(v:Ajy):Option R:=match v with
 |(c,b,d,a) =>
 cond (decide (a<d)) (
  chk (inb a b.length) (
  chk (decide (c.length+(at' .vals b a).length<=Ah)) (
   rec ((c++(at' .vals b a)),b,d,(wr .i64 (a+1)))))) (
  kx (.exit 2) (c,b,d,a))
def Aoq:Sig:=⟨36,[(0,.sl .vals false),(3,.int .i64),(9,.sl .vals false),(10,.int .i64),(11,.int .i64)],[],[],0,0,0,[],[]⟩
abbrev Al4:=List (List Val)×Int×List (List Val)×Int×Int
def Ago{R:Type}(rec:Al4->Option R)(kx:Ex->Al4->Option R)(v:Al4):Option R:=match v with
 |(v,v1,v2,v3,v4) =>
 cond (decide (v4<v3)) (
  chk (inb v4 v2.length) (
  cond (decide ((wr .i64 (v1+((at' .vals v2 v4).length:Int)))<0)) (
   none) (
   rec (v,(wr .i64 (v1+((at' .vals v2 v4).length:Int))),v2,v3,(wr .i64 (v4+1)))))) (
  kx (.exit 0) (v,v1,v2,v3,v4))
def A65(R:Type)(k:Nat):Px R:=pxO [(113,Xz .val)] [] [(3,Am k Aoq (Ago)),(11,Am k Aox (Aic))] []
def Sw(k:Nat)(x:HV [.sl .vals false]):Option (HV [.sl .val true]):=match x with
 |l =>
 Aj (λrec=>Ago rec (λe vz=>match vz with|(v5,v6,_,_,_)=>match e with
  |.exit 0 =>
  chk (decide ((0:Int)<=v6)&&decide (v6<=(2000000:Int))) (
   Aj (λrec=>Aic rec (λe vz=>match vz with|(a,_,_,_)=>match e with
   |.exit 2 =>some a
   |_=>none)) k ([],v5,(v5.length:Int),0))
  |_=>none)) k (l,0,l,(l.length:Int),0)
theorem Blw(k:Nat):FO 74 [.sl .vals false] [.sl .val true] (Sw k):=fR (px:=A65 _ k) (n:=2) Tryz.func74 rfl (λcx H=>by have h0:Lv cx (A65 (HV [.sl .val true]) k):=lv H (Ao (Ara H Aho) Ae) Aa Ab;have hlvcat_0:=lO H h0 (b:=lp Tryz.f74 0) (k:=k) (n:=0) (s:=Aoq) (step:=Ago) (λ_ _ _ (_,_,_,_,_)=>by kernel_rfl) Ai;have hlvcat_1:=lO H h0 (b:=lp Tryz.f74 1) (k:=k) (n:=0) (s:=Aox) (step:=Aic) (λ_ _ _ (_,_,_,_)=>by kernel_rfl) Ai;exact⟨h0,(A6 (A6 Ai hlvcat_0) hlvcat_1)⟩) λ_=>by kernel_rfl
def Btp(l:List (List Val)):Option (List Val):=Sw 5000 l
def Bh5:FT [.sl .vals false] [.sl .val true]:=λx=>Btp x
theorem Bog:FO 74 [.sl .vals false] [.sl .val true] Bh5 :=.fin 0 Blw λ_ _ _ hx=>⟨5000,hx⟩
def Bru(R:Type):Px R:=pxO [(74,cA Bh5),(45,cA A2w)] [] [] []
def Ab3(x:HV [.sl .vals false]):Option (HV [.sl .byte true,.int .i64]):=match x with
 |l =>
 (Btp l).bind λx =>
  (Bgr x).bind λ(x1,x2) =>
  some (x1,x2)
theorem Bgs:FO 35 [.sl .vals false] [.sl .byte true,.int .i64] (Ab3):=fR (px:=Bru _) (n:=0) Tryz.func35 rfl (λ_ H=>⟨lv H (c1 H Bog (c1 H Bny Ae)) Aa Ab,Ai⟩) λ_=>by kernel_rfl
def Ac9(l:List (List Val)):Option (Str×Int):=Ab3 l
def Arx:FT [.sl .vals false] [.sl .byte true,.int .i64]:=λx=>Ac9 x
theorem Auj:FO 35 [.sl .vals false] [.sl .byte true,.int .i64] Arx :=.fin0 Bgs λ_ _ _ hx=>hx
def Aih:Sig:=⟨126,[(1,.sl .val false),(8,.sl .val true),(16,.sl .byte true),(71,.sl .col false),(72,.int .i64),(73,.int .i64)],[(2,.ptr 0 0),(4,.ptr 1 0),(5,.ptr 2 0),(6,.ptr 3 0),(7,.ptr 4 0)],[(0,.one (.sv .tbl)),(1,.cells [.sl .kv true,.int .i64]),(2,.cells [.sl .kv true,.int .i64]),(3,.cells [.sl .kv true,.int .i64]),(4,.cells [.sl .kv true,.int .i64])],5,0,0,[],[]⟩
abbrev Sy:=List Val×List Val×List UInt8×List Col×Int×Int×Tbl×List KvS×Int×List KvS×Int×List KvS×Int×List KvS×Int
def M1{R:Type}(rec:Sy->Option R)(kx:Ex->Sy->Option R)(v:Sy):Option R:=match v with
 |(b,g,d,c,h,a,w9,i,w11,j,k,e,l,f,m) =>
 cond (decide (a<h)) (
  chk (inb a c.length) (
  chk (inb a b.length) (
   cond (decide ((at' .val b a).kind=1)) (
   rec (b,g,d,c,h,(wr .i64 (a+1)),w9,i,w11,j,k,e,l,f,m)) (
   let j3:=λ(n:List KvS) (o:Int) =>
    cond (!decide (((at' .col c a).ref)=[])) (
    (Mv [[102],((at' .col c a).ref)]).bind λt =>
     chk (upto a (wr .i64 (a+1)) b.length) (
     (Mv [w9.name,((at' .col c a).name)]).bind λu =>
      (Ac9 [t,(cut b a (wr .i64 (a+1))),u,g]).bind λ(p,q) =>
      let j2:=λ(w:Int) =>
       cond (decide (m=0)) (
       chk (decide (f.length+1<=Ah)) (
        rec (b,g,d,c,h,(wr .i64 (a+1)),w9,i,w11,j,k,n,o,(f++[(KvS.mk p [])]),w))) (
       chk (decide (f.length+1<=Ah)) (
        rec (b,g,d,c,h,(wr .i64 (a+1)),w9,i,w11,j,k,n,o,(f++[(KvS.mk p [])]),m)))
      cond (decide (q=0)) (
       cond (decide (200<(p.length:Int))) (
       j2 3) (
       j2 q)) (
       j2 q))) (
    rec (b,g,d,c,h,(wr .i64 (a+1)),w9,i,w11,j,k,n,o,f,m))
   cond ((at' .col c a).unique) (
    (Mv [[117],w9.name,((at' .col c a).name)]).bind λx =>
    chk (upto a (wr .i64 (a+1)) b.length) (
     (Ac9 [x,(cut b a (wr .i64 (a+1)))]).bind λ(r,s) =>
     let j1:=λ(y:Int) =>
      cond (decide (l=0)) (
      chk (decide (e.length+1<=Ah)) (
       j3 (e++[(KvS.mk r d)]) y)) (
      chk (decide (e.length+1<=Ah)) (
       j3 (e++[(KvS.mk r d)]) l))
     cond (decide (s=0)) (
      cond (decide (200<(r.length:Int))) (
      j1 3) (
      cond (decide (4000<(d.length:Int))) (
       j1 3) (
       j1 s))) (
      j1 s))) (
    j3 e l))))) (
  kx (.exit 2) (b,g,d,c,h,a,w9,i,w11,j,k,e,l,f,m))
def Ak6:Sig:=⟨126,[(1,.sl .val false),(8,.sl .val true),(42,.sl .idx false),(43,.int .i64),(44,.int .i64)],[(2,.ptr 0 0),(4,.ptr 1 0),(5,.ptr 2 0),(6,.ptr 3 0),(7,.ptr 4 0)],[(0,.one (.sv .tbl)),(1,.cells [.sl .kv true,.int .i64]),(2,.cells [.sl .kv true,.int .i64]),(3,.cells [.sl .kv true,.int .i64]),(4,.cells [.sl .kv true,.int .i64])],5,0,0,[],[]⟩
abbrev Uh:=List Val×List Val×List Idx×Int×Int×Tbl×List KvS×Int×List KvS×Int×List KvS×Int×List KvS×Int
def Nr{R:Type}(rec:Uh->Option R)(kx:Ex->Uh->Option R)(v:Uh):Option R:=match v with
 |(v,v1,v2,v3,v4,w,w1,w2,w3,w4,w5,w6,w7,w8) =>
 cond (decide (v4<v3)) (
  chk (inb v4 v2.length) (
  (Al8 w v ((at' .idx v2 v4).cols)).bind λ(x7,_) =>
   (Mv [[105],((at' .idx v2 v4).name)]).bind λx9 =>
   (Ac9 [x9,x7,v1]).bind λ(a,b) =>
    let j:=λ(p7:Int) =>
    cond (decide (w4=0)) (
     chk (decide (w3.length+1<=Ah)) (
     rec (v,v1,v2,v3,(wr .i64 (v4+1)),w,w1,w2,(w3++[(KvS.mk a [])]),p7,w5,w6,w7,w8))) (
     chk (decide (w3.length+1<=Ah)) (
     rec (v,v1,v2,v3,(wr .i64 (v4+1)),w,w1,w2,(w3++[(KvS.mk a [])]),w4,w5,w6,w7,w8)))
    cond (decide (b=0)) (
    cond (decide (200<(a.length:Int))) (
     j 3) (
     j b)) (
    j b))) (
  kx (.exit 0) (v,v1,v2,v3,v4,w,w1,w2,w3,w4,w5,w6,w7,w8))
def Ak5(R:Type)(_k:Nat):Px R:=pxO [(35,cA Arx)] [] [] []
def Als(R:Type)(_k:Nat):Px R:=pxO [(35,cA Arx)] [] [] []
noncomputable def Ayi(R:Type)(k:Nat):Px R:=pxO [(57,cA Asm),(58,cA Bfp),(36,cA X3),(59,Sp 40 200 (Ak5 R k) Tryz.f59 (A1 40 400 (Als R k) Tryz.f59))] [(36,qA X3)] [(5,Am k Ak6 (Nr)),(12,Am k Aih (M1))] []
def O2(k:Nat)(x:HV [.sv .tbl,.sl .val false]):Option (HV [.sv .lay,.sv .lay,.sv .lay,.sv .lay]):=match x with
 |(t,r) =>
 (Al8 t r t.key).bind λ(x,_) =>
  (Ax3 r).bind λ(x2,_) =>
  (Mv [[114],t.name]).bind λx4 =>
   (Ac9 [x4,x]).bind λ(x5,x6) =>
   let j4:=λ(q6:Int) =>
    Aj (λrec=>Nr rec (λe vz=>match vz with|(v5,v6,_,_,_,a,b,c,d,f,g,h,i,j)=>match e with
    |.exit 0 =>
     (Ax3 v6).bind λ(l,_) =>
     Aj (λrec=>M1 rec (λe vz=>match vz with|(_,_,_,_,_,_,_,m,n,o,p,q,s,u,v)=>match e with
      |.exit 2 =>
      some ((LayS.mk m n),(LayS.mk o p),(LayS.mk q s),(LayS.mk u v))
      |_=>none)) k (v5,v6,l,a.cols,(a.cols.length:Int),0,a,b,c,d,f,g,h,i,j)
    |_=>none)) k (r,x,t.idx,(t.idx.length:Int),0,t,[(KvS.mk x5 x2)],q6,[],0,[],0,[],0)
   cond (decide (x6=0)) (
    cond (decide (200<(x5.length:Int))) (
    j4 3) (
    cond (decide (4000<(x2.length:Int))) (
     j4 3) (
     j4 x6))) (
    j4 x6)
theorem Bcb(k:Nat):FO 26 [.sv .tbl,.sl .val false] [.sv .lay,.sv .lay,.sv .lay,.sv .lay] (O2 k):=fR (px:=Ayi _ k) (n:=2) Tryz.func26 rfl (λcx H=>by have h1:Lv cx (Ak5 (HV [.sv .lay,.sv .lay,.sv .lay,.sv .lay]) k):=lv H (c1 H Auj Ae) Aa Ab;have h2:Lv cx (Als (HV [.sv .lay,.sv .lay,.sv .lay,.sv .lay]) k):=lv H (c1 H Auj Ae) Aa Ab;have h0:Lv cx (Ayi (HV [.sv .lay,.sv .lay,.sv .lay,.sv .lay]) k):=lv H (c1 H Blt (c1 H Bro (c1 H Abj (Ao (Azl (cR H h1 Tryz.func59 rfl (n:=0) (Ai)) (cR H h2 Tryz.func59 rfl (n:=0) (Ai))) Ae)))) (q1 H Abj Aa) Ab;have hlpents_0:=lO H h0 (b:=lp Tryz.f26 0) (k:=k) (n:=0) (s:=Ak6) (step:=Nr) (λ_ _ _ (_,_,_,_,_,_,_,_,_,_,_,_,_,_)=>by kernel_rfl) Ai;have hlpents_1:=lO H h0 (b:=lp Tryz.f26 1) (k:=k) (n:=0) (s:=Aih) (step:=M1) (λ_ _ _ (_,_,_,_,_,_,_,_,_,_,_,_,_,_,_)=>by kernel_rfl) Ai;exact⟨h0,(A6 (A6 Ai hlpents_0) hlpents_1)⟩) λ(_,_)=>by kernel_rfl
def Av4(t:Tbl)(r:List Val):Option (LayS×LayS×LayS×LayS):=O2 5000 (t,r)
def Asu:FT [.sv .tbl,.sl .val false] [.sv .lay,.sv .lay,.sv .lay,.sv .lay]:=λx=>Av4 x.1 x.2
theorem Awq:FO 26 [.sv .tbl,.sl .val false] [.sv .lay,.sv .lay,.sv .lay,.sv .lay] Asu :=.fin 0 Bcb λ_ _ _ hx=>⟨5000,hx⟩
def An1:Sig:=⟨49,[(4,.sl .kv true),(5,.int .i64),(7,.sl .kv true),(32,.sl .lay true),(33,.int .i64),(34,.int .i64)],[],[],0,0,0,[],[]⟩
abbrev Aah:=List KvS×Int×List KvS×List LayS×Int×Int
def Aco{R:Type}(rec:Aah->Option R)(kx:Ex->Aah->Option R)(v:Aah):Option R:=match v with
 |(v,v1,v2,v3,v4,v5) =>
 cond (decide (v5<v4)) (
  chk (inb v5 v3.length) (
  cond (!decide ((at' .lay v3 v5).e=0)) (
   kx .ret ([],(at' .lay v3 v5).e,v2,v3,v4,v5)) (
   chk (decide (v2.length+((at' .lay v3 v5).l).length<=Ah)) (
   rec (v,v1,(v2++((at' .lay v3 v5).l)),v3,v4,(wr .i64 (v5+1))))))) (
  kx (.exit 0) (v,v1,v2,v3,v4,v5))
def A6s(R:Type)(k:Nat):Px R:=pxO [(25,cA Ar0),(26,cA Asu)] [] [(7,Am k An1 (Aco))] []
def Ru(k:Nat)(x:HV [.sv .tbl,.sl .val false]):Option (HV [.sl .kv true,.int .i64]):=match x with
 |(t,r) =>
 (O9 t r).bind λx =>
  cond (!decide (x=0)) (
  some ([],x)) (
  (Av4 t r).bind λ(x1,x2,x3,x4) =>
   Aj (λrec=>Aco rec (λe vz=>match vz with|(v6,v7,v8,_,_,_)=>match e with
   |.ret =>some (v6,v7)
   |.exit 0 =>some (v8,0)
   |_=>none)) k ([],0,[],[x1,x2,x3,x4],4,0))
theorem Bks(k:Nat):FO 9 [.sv .tbl,.sl .val false] [.sl .kv true,.int .i64] (Ru k):=fR (px:=A6s _ k) (n:=1) Tryz.func9 rfl (λcx H=>by have h0:Lv cx (A6s (HV [.sl .kv true,.int .i64]) k):=lv H (c1 H A0k (c1 H Awq Ae)) Aa Ab;have hlpEnt_0:=lO H h0 (b:=lp Tryz.f9 0) (k:=k) (n:=0) (s:=An1) (step:=Aco) (λ_ _ _ (_,_,_,_,_,_)=>by kernel_rfl) Ai;exact⟨h0,(A6 Ai hlpEnt_0)⟩) λ(_,_)=>by kernel_rfl
def Bs8(t:Tbl)(r:List Val):Option (List KvS×Int):=Ru 5000 (t,r)
def Bih:FT [.sv .tbl,.sl .val false] [.sl .kv true,.int .i64]:=λx=>Bs8 x.1 x.2
theorem Bno:FO 9 [.sv .tbl,.sl .val false] [.sl .kv true,.int .i64] Bih :=.fin 0 Bks λ_ _ _ hx=>⟨5000,hx⟩
def Ap7:Sig:=⟨59,[(1,.int .i64),(4,.int .u64),(5,.int .i64),(6,.int .i64),(7,.int .u64),(8,.int .i64),(21,.sl .byte false),(22,.int .i64),(23,.int .i64)],[],[],0,0,0,[],[]⟩
abbrev Qe:=Int×Int×Int×Int×Int×Int×List UInt8×Int×Int
def Nk{R:Type}(rec:Qe->Option R)(kx:Ex->Qe->Option R)(v:Qe):Option R:=match v with
 |(v,v1,v2,v3,v4,v5,v6,v7,v8) =>
 cond (decide (v8<v7)) (
  chk (inb v8 v6.length) (
  let j1:=λ(_:Unit) =>
   chk (decide (0<=(wr .i64 (7*v8)))) (
   cond (decide (((at' .byte v6 v8).toNat:Int)<128)) (
    kx .ret (v,(ior .u64 v4 (Afp .u64 (wr .u64 (G9 .u8 ((at' .byte v6 v8).toNat:Int) 127)) (wr .i64 (7*v8)))),(wr .i64 ((wr .i64 (v+v8))+1)),0,(ior .u64 v4 (Afp .u64 (wr .u64 (G9 .u8 ((at' .byte v6 v8).toNat:Int) 127)) (wr .i64 (7*v8)))),v5,v6,v7,v8)) (
    rec (v,v1,v2,v3,(ior .u64 v4 (Afp .u64 (wr .u64 (G9 .u8 ((at' .byte v6 v8).toNat:Int) 127)) (wr .i64 (7*v8)))),v5,v6,v7,(wr .i64 (v8+1)))))
  let j:=λ(p4:Bool) =>
   cond (p4) (
   kx (.exit 0) (v,v1,v2,v3,v4,11,v6,v7,v8)) (
   cond (decide (((at' .byte v6 v8).toNat:Int)=0)) (
    cond (decide (0<v8)) (
    kx (.exit 0) (v,v1,v2,v3,v4,11,v6,v7,v8)) (
    j1 ())) (
    j1 ()))
  cond (decide (v8=9)) (
   j (decide (1<((at' .byte v6 v8).toNat:Int)))) (
   j false))) (
  kx (.exit 0) (v,v1,v2,v3,v4,v5,v6,v7,v8))
def A8l(R:Type)(k:Nat):Px R:=pxO [] [] [(6,Am k Ap7 (Nk))] []
def Acz(k:Nat)(x:HV [.sl .byte false,.int .i64]):Option (HV [.int .u64,.int .i64,.int .i64]):=match x with
 |(b,p) =>
 cond (decide (p<0)) (
  some (0,0,2)) (
  cond (decide ((b.length:Int)<p)) (
  some (0,0,2)) (
  chk (upto p b.length b.length) (
   Aj (λrec=>Nk rec (λe vz=>match vz with|(_,a,c,d,_,f,_,_,_)=>match e with
   |.ret =>some (a,c,d)
   |.exit 0 =>some (0,0,f)
   |_=>none)) k (p,0,0,0,0,10,(b.drop (p:Int).toNat),((b.drop (p:Int).toNat).length:Int),0))))
theorem Bk6(k:Nat):FO 116 [.sl .byte false,.int .i64] [.int .u64,.int .i64,.int .i64] (Acz k):=fR (px:=A8l _ k) (n:=1) Tryz.func116 rfl (λcx H=>by have h0:Lv cx (A8l (HV [.int .u64,.int .i64,.int .i64]) k):=lv H Ae Aa Ab;have hlvget_0:=lO H h0 (b:=lp Tryz.f116 0) (k:=k) (n:=0) (s:=Ap7) (step:=Nk) (λ_ _ _ (_,_,_,_,_,_,_,_,_)=>by kernel_rfl) Ai;exact⟨h0,(A6 Ai hlvget_0)⟩) λ(_,_)=>by kernel_rfl
def Amu(b:Str)(p:Int):Option (Int×Int×Int):=Acz 100 (b,p)
def Abf:FT [.sl .byte false,.int .i64] [.int .u64,.int .i64,.int .i64]:=λx=>Amu x.1 x.2
theorem Z2:FO 116 [.sl .byte false,.int .i64] [.int .u64,.int .i64,.int .i64] Abf :=.fin 0 Bk6 λ_ _ _ hx=>⟨100,hx⟩
def Bfi(R:Type):Px R:=pxO [(116,cA Abf)] [] [] []
def V0(x:HV [.sl .byte false,.int .i64]):Option (HV [.sl .byte true,.int .i64,.int .i64]):=match x with
 |(b,p) =>
 (Amu b p).bind λ(x,x1,x2) =>
  cond (!decide (x2=0)) (
  some ([],0,x2)) (
  cond (decide (1048576<x)) (
   some ([],0,3)) (
   cond (decide ((wr .u64 (wr .i64 ((b.length:Int)-x1)))<x)) (
   some ([],0,10)) (
   chk (upto x1 (wr .i64 (x1+(wr .i64 x))) b.length) (
    chk (decide (0+(cut b x1 (wr .i64 (x1+(wr .i64 x)))).length<=Ah)) (
    some (([]++(cut b x1 (wr .i64 (x1+(wr .i64 x))))),(wr .i64 (x1+(wr .i64 x))),0))))))
theorem Bdx:FO 206 [.sl .byte false,.int .i64] [.sl .byte true,.int .i64,.int .i64] (V0):=fR (px:=Bfi _) (n:=0) Tryz.func206 rfl (λ_ H=>⟨lv H (c1 H Z2 Ae) Aa Ab,Ai⟩) λ(_,_)=>by kernel_rfl
def A6y(b:Str)(p:Int):Option (Str×Int×Int):=V0 (b,p)
def A9c:FT [.sl .byte false,.int .i64] [.sl .byte true,.int .i64,.int .i64]:=λx=>A6y x.1 x.2
theorem Bfr:FO 206 [.sl .byte false,.int .i64] [.sl .byte true,.int .i64,.int .i64] A9c :=.fin0 Bdx λ_ _ _ hx=>hx
def Bfu(R:Type):Px R:=pxO [(116,cA Abf)] [] [] []
def Wg(x:HV [.sl .byte false,.int .i64]):Option (HV [.int .i64,.int .i64,.int .i64]):=match x with
 |(b,p) =>
 (Amu b p).bind λ(x,x1,x2) =>some ((Xh .i64 (wr .i64 (D5 .u64 x 1)) (wr .i64 (0-(wr .i64 (G9 .u64 x 1))))),x1,x2)
theorem Bb5:FO 205 [.sl .byte false,.int .i64] [.int .i64,.int .i64,.int .i64] (Wg):=fR (px:=Bfu _) (n:=0) Tryz.func205 rfl (λ_ H=>⟨lv H (c1 H Z2 Ae) Aa Ab,Ai⟩) λ(_,_)=>by kernel_rfl
def A50(b:Str)(p:Int):Option (Int×Int×Int):=Wg (b,p)
def A5y:FT [.sl .byte false,.int .i64] [.int .i64,.int .i64,.int .i64]:=λx=>A50 x.1 x.2
theorem Bgw:FO 205 [.sl .byte false,.int .i64] [.int .i64,.int .i64,.int .i64] A5y :=.fin0 Bb5 λ_ _ _ hx=>hx
def Atk:Sig:=⟨1,[],[(0,.ptr 0 0)],[(0,.cells [.sl .byte false,.int .i64,.int .i64])],1,1,0,[],[]⟩
def Arp:Sig:=⟨1,[(0,.int .u8)],[],[(0,.cells [.sl .byte false,.int .i64,.int .i64])],1,1,0,[],[]⟩
abbrev Bi8:=List UInt8×Int×Int
abbrev Bi0:=Int×List UInt8×Int×Int
def Bqq(R:Type):Px R:=pxO [] [] [] []
def Abw(x:Bi8):Option (Bi0):=match x with
 |(b,p,e) =>
 cond (decide (p=(b.length:Int))) (
  some (0,b,p,10)) (
  chk (inb (wr .i64 ((wr .i64 (p+1))-1)) b.length) (
  some (((at' .byte b (wr .i64 ((wr .i64 (p+1))-1))).toNat:Int),b,(wr .i64 (p+1)),e)))
theorem Bgl:FM 159 Atk Arp (Abw):=fRL (px:=Bqq _) (n:=0) Tryz.func159 rfl (λ_ H=>⟨lv H Ae Aa Ab,Ai⟩) λ(_,_,_)=>by kernel_rfl
def Po:Bi8->Option Bi0:=λx=>Abw x
theorem Bos:FM 159 Atk Arp (Po):=Bgl
def Vw:Sig:=⟨1,[],[(0,.ptr 0 0)],[(0,.cells [.sl .byte false,.int .i64,.int .i64])],1,1,0,[],[]⟩
def Wn:Sig:=⟨1,[(0,.int .i64)],[],[(0,.cells [.sl .byte false,.int .i64,.int .i64])],1,1,0,[],[]⟩
abbrev Apy:=List UInt8×Int×Int
abbrev Apr:=Int×List UInt8×Int×Int
def A4c(R:Type):Px R:=pxO [] [(205,qA A5y)] [] []
def Oz(x:Apy):Option (Apr):=match x with
 |(b,p,_) =>
 (A50 b p).bind λ(x,x1,x2) =>some (x,b,x1,x2)
theorem A08:FM 160 Vw Wn (Oz):=fRL (px:=A4c _) (n:=0) Tryz.func160 rfl (λ_ H=>⟨lv H Ae (q1 H Bgw Aa) Ab,Ai⟩) λ(_,_,_)=>by kernel_rfl
def Ms:Apy->Option Apr:=λx=>Oz x
theorem A1t:FM 160 Vw Wn (Ms):=A08
def Ah6:Sig:=⟨1,[],[(0,.ptr 0 0)],[(0,.cells [.sl .byte false,.int .i64,.int .i64])],1,1,0,[],[]⟩
def Aj3:Sig:=⟨1,[(0,.str)],[],[(0,.cells [.sl .byte false,.int .i64,.int .i64])],1,1,0,[],[]⟩
abbrev A8v:=List UInt8×Int×Int
abbrev A6d:=Str×List UInt8×Int×Int
def Bln(R:Type):Px R:=pxO [] [(116,qA Abf),(206,qA A9c)] [] []
def Xd(x:A8v):Option (A6d):=match x with
 |(b,p,_) =>
 (Amu b p).bind λ(x,_,x2) =>
  let j:=λ(p3:Int) =>
  cond (!decide (p3=0)) (
   some ([],b,p,p3)) (
   (A6y b p).bind λ(x3,x4,x5) =>
   cond (decide (x5=0)) (
    some (x3,b,x4,x5)) (
    some (x3,b,p,x5)))
  cond (decide (x2=0)) (
  cond (decide (1000<x)) (
   j 11) (
   j x2)) (
  j x2)
theorem Bc2:FM 161 Ah6 Aj3 (Xd):=fRL (px:=Bln _) (n:=0) Tryz.func161 rfl (λ_ H=>⟨lv H Ae (q1 H Z2 (q1 H Bfr Aa)) Ab,Ai⟩) λ(_,_,_)=>by kernel_rfl
def Tl:A8v->Option A6d:=λx=>Xd x
theorem Bjk:FM 161 Ah6 Aj3 (Tl):=Bc2
def M5:Sig:=⟨2,[(1,.sv .val)],[(0,.ptr 0 0)],[(0,.cells [.sl .byte false,.int .i64,.int .i64])],1,1,0,[],[]⟩
def M0:Sig:=⟨1,[(0,.bool)],[],[(0,.cells [.sl .byte false,.int .i64,.int .i64])],1,1,0,[],[]⟩
abbrev Ap6:=Val×List UInt8×Int×Int
abbrev Ac3:=Bool×List UInt8×Int×Int
def Aav:Sig:=⟨53,[(4,.bool),(40,.sl .byte false),(41,.int .i64),(42,.int .i64)],[],[(0,.cells [.sl .byte false,.int .i64,.int .i64])],1,1,0,[],[]⟩
abbrev Qa:=Bool×List UInt8×Int×Int×List UInt8×Int×Int
def Ac5{R:Type}(rec:Qa->Option R)(kx:Ex->Qa->Option R)(v:Qa):Option R:=match v with
 |(v1,v2,v3,v4,w,w1,w2) =>
 cond (decide (v4<v3)) (
  chk (inb v4 v2.length) (
  cond (decide (((at' .byte v2 v4).toNat:Int)<32)) (
   kx .ret (false,v2,v3,v4,w,w1,w2)) (
   cond (decide (126<((at' .byte v2 v4).toNat:Int))) (
   kx .ret (false,v2,v3,v4,w,w1,w2)) (
   rec (v1,v2,v3,(wr .i64 (v4+1)),w,w1,w2))))) (
  kx (.exit 0) (v1,v2,v3,v4,w,w1,w2))
def Ajp(R:Type)(k:Nat):Px R:=pxO [] [(116,qA Abf)] [(7,Am k Aav (Ac5))] []
def I1(k:Nat)(x:Ap6):Option (Ac3):=match x with
 |(v,b,p,e) =>
 cond (!decide (v.kind=4)) (
  some (true,b,p,e)) (
  cond (!decide (e=10)) (
  some (true,b,p,e)) (
  (Amu b p).bind λ(_,x1,x2) =>
   cond (!decide (x2=0)) (
   some (true,b,p,e)) (
   chk (upto x1 b.length b.length) (
    Aj (λrec=>Ac5 rec (λe vz=>match vz with|(v5,_,_,_,v9,a,c)=>match e with
    |.ret =>some (v5,v9,a,c)
    |.exit 0 =>some (true,v9,a,c)
    |_=>none)) k (false,(b.drop (x1:Int).toNat),((b.drop (x1:Int).toNat).length:Int),0,b,p,e)))))
theorem Azj(k:Nat):FM 162 M5 M0 (I1 k):=fRL (px:=Ajp _ k) (n:=1) Tryz.func162 rfl (λcx H=>by have h0:Lv cx (Ajp (Ac3) k):=lv H Ae (q1 H Z2 Aa) Ab;have hlwprefix_0:=lO H h0 (b:=lp Tryz.f162 0) (k:=k) (n:=0) (s:=Aav) (step:=Ac5) (λ_ _ _ (_,_,_,_,_,_,_)=>by kernel_rfl) Ai;exact⟨h0,(A6 Ai hlwprefix_0)⟩) λ(_,_,_,_)=>by kernel_rfl
def L5:Ap6->Option Ac3:=λx=>I1 (50000) x
theorem A5k:FM 162 M5 M0 (L5):=FnLn.fin (ι:=Nat) (sg:=M5) (so:=M0) 0 (F:=λk=>I1 k) (λk=>Azj k) λ_ _ _ hx=>⟨50000,hx⟩
def Ab6:Sig:=⟨1,[],[(0,.ptr 0 0)],[(0,.cells [.sl .byte false,.int .i64,.int .i64])],1,1,0,[],[]⟩
def Abi:Sig:=⟨1,[(0,.sv .val)],[],[(0,.cells [.sl .byte false,.int .i64,.int .i64])],1,1,0,[],[]⟩
abbrev Avi:=List UInt8×Int×Int
abbrev Y6:=Val×List UInt8×Int×Int
def Bdj(R:Type):Px R:=pxO [(159,C1 Atk Arp Po),(160,C1 Vw Wn Ms),(161,C1 Ah6 Aj3 Tl),(80,cA Qs),(162,C1 M5 M0 L5)] [] [] []
def Ae9(x:Avi):Option (Y6):=match x with
 |(b,p,e) =>
 (Po (b,p,e)).bind λ(x,x1,x2,x3) =>
  cond (!decide (x3=0)) (
  some ((Val.mk (wr .i64 x) 0 []),x1,x2,x3)) (
  let j2:=λ(q:List UInt8) (q1:Int) (q2:Int) (q3:Val) =>
   let j1:=λ(p2:Bool) =>
   cond (p2) (
    some (q3,q,q1,11)) (
    (L5 (q3,q,q1,q2)).bind λ(d,a,c,f) =>
    cond (!d) (
     some (q3,a,c,11)) (
     some (q3,a,c,f)))
   cond (decide (q2=0)) (
   j1 (!decide ((Eg q3)=0))) (
   j1 false)
  cond (decide ((wr .i64 x)=1)) (
   j2 x1 x2 x3 (Val.mk (wr .i64 x) 0 [])) (
   cond (decide ((wr .i64 x)=2)) (
   (Po (x1,x2,x3)).bind λ(x4,x5,x6,x7) =>j2 x5 x6 x7 (Val.mk (wr .i64 x) (wr .i64 x4) [])) (
   cond (decide ((wr .i64 x)=3)) (
    (Ms (x1,x2,x3)).bind λ(x8,x9,g,h) =>
    j2 x9 g h (Val.mk (wr .i64 x) x8 [])) (
    let j:=λ(p1:Bool) =>
    cond (p1) (
     (Tl (x1,x2,x3)).bind λ(i,k,l,m) =>
     j2 k l m (Val.mk (wr .i64 x) 0 i)) (
     j2 x1 x2 11 (Val.mk (wr .i64 x) 0 []))
    cond (decide ((wr .i64 x)=4)) (
    j (decide ((wr .i64 x)=4))) (
    j (decide ((wr .i64 x)=5)))))))
theorem A49:FM 117 Ab6 Abi (Ae9):=fRL (px:=Bdj _) (n:=0) Tryz.func117 rfl (λ_ H=>⟨lv H (l1 H Bos (l1 H A1t (l1 H Bjk (c1 H Ud (l1 H A5k Ae))))) Aa Ab,Ai⟩) λ(_,_,_)=>by kernel_rfl
def Qu:Avi->Option Y6:=λx=>Ae9 x
theorem Bdw:FM 117 Ab6 Abi (Qu):=A49
def An2:Sig:=⟨67,[(0,.sl .byte false),(8,.sl .val true),(26,.int .u64),(27,.int .u64)],[(7,.ptr 0 0)],[(0,.cells [.sl .byte false,.int .i64,.int .i64])],1,0,0,[],[]⟩
abbrev Xt:=List UInt8×List Val×Int×Int×List UInt8×Int×Int
def Adi{R:Type}(rec:Xt->Option R)(kx:Ex->Xt->Option R)(v:Xt):Option R:=match v with
 |(v,v1,v2,v3,w,w1,w2) =>
 cond (decide (v3<v2)) (
  (Qu (w,w1,w2)).bind λ(x3,x4,x5,x6) =>
  chk (decide (v1.length+1<=Ah)) (
   cond (!decide (x6=0)) (
   kx (.exit 1) (v,(v1++[x3]),v2,v3,x4,x5,x6)) (
   rec (v,(v1++[x3]),v2,(wr .u64 (v3+1)),x4,x5,x6)))) (
  kx (.exit 1) (v,v1,v2,v3,w,w1,w2))
def A62(R:Type)(k:Nat):Px R:=pxO [(116,cA Abf),(117,C1 Ab6 Abi Qu)] [] [(9,Am k An2 (Adi))] []
def Acn(k:Nat)(x:HV [.sl .byte false]):Option (HV [.sl .val true,.int .i64]):=match x with
 |b =>
 (Amu b 0).bind λ(x,x1,x2) =>
  cond (!decide (x2=0)) (
  some ([],x2)) (
  cond (decide (100<x)) (
   some ([],11)) (
   Aj (λrec=>Adi rec (λe vz=>match vz with|(v4,v5,_,_,_,v9,a)=>match e with
   |.exit 1 =>
    cond (decide (a=0)) (
    cond (decide (v9<(v4.length:Int))) (
     some ([],11)) (
     cond (!decide (a=0)) (
     some ([],a)) (
     some (v5,0)))) (
    cond (!decide (a=0)) (
     some ([],a)) (
     some (v5,0)))
   |_=>none)) k (b,[],x,0,b,x1,0)))
theorem Bl4(k:Nat):FO 77 [.sl .byte false] [.sl .val true,.int .i64] (Acn k):=fR (px:=A62 _ k) (n:=1) Tryz.func77 rfl (λcx H=>by have h0:Lv cx (A62 (HV [.sl .val true,.int .i64]) k):=lv H (c1 H Z2 (l1 H Bdw Ae)) Aa Ab;have hlwdec_0:=lO H h0 (b:=lp Tryz.f77 0) (k:=k) (n:=0) (s:=An2) (step:=Adi) (λ_ _ _ (_,_,_,_,_,_,_)=>by kernel_rfl) Ai;exact⟨h0,(A6 Ai hlwdec_0)⟩) λ_=>by kernel_rfl
def A4d(b:Str):Option (List Val×Int):=Acn 5000 b
def Bga:FT [.sl .byte false] [.sl .val true,.int .i64]:=λx=>A4d x
theorem Bqa:FO 77 [.sl .byte false] [.sl .val true,.int .i64] Bga :=.fin 0 Bl4 λ_ _ _ hx=>⟨5000,hx⟩
noncomputable section
def Bg0(R:Type):Px R:=pxO [(77,cA Bga),(25,cA Ar0)] [] [] []
def W0(x:HV [.sv .tbl,.sl .byte false]):Option (HV [.sl .val true,.int .i64]):=match x with
 |(t,b) =>
 (A4d b).bind λ(x,x1) =>
  cond (!decide (x1=0)) (
  some ([],11)) (
  (O9 t x).bind λx2 =>
   cond (!decide (x2=0)) (
   some ([],11)) (
   some (x,0)))
theorem Bdf:FO 39 [.sv .tbl,.sl .byte false] [.sl .val true,.int .i64] (W0):=fR (px:=Bg0 _) (n:=0) Tryz.func39 rfl (λ_ H=>⟨lv H (c1 H Bqa (c1 H A0k Ae)) Aa Ab,Ai⟩) λ(_,_)=>by kernel_rfl
def Agp(t:Tbl)(b:Str):Option (List Val×Int):=W0 (t,b)
def A7m:FT [.sv .tbl,.sl .byte false] [.sl .val true,.int .i64]:=λx=>Agp x.1 x.2
theorem Bgi:FO 39 [.sv .tbl,.sl .byte false] [.sl .val true,.int .i64] A7m :=.fin0 Bdf λ_ _ _ hx=>hx
def An0:Sig:=⟨36,[(6,.sl .kv true),(25,.sl .kvs false),(26,.int .i64),(27,.int .i64)],[],[],0,0,0,[],[]⟩
abbrev Aa4:=List KvS×List (List KvS)×Int×Int
def Wd{R:Type}(rec:Aa4->Option R)(kx:Ex->Aa4->Option R)(v:Aa4):Option R:=match v with
 |(c,b,d,a) =>
 cond (decide (a<d)) (
  chk (inb a b.length) (
  chk (decide (c.length+(at' .kvs b a).length<=Ah)) (
   rec ((c++(at' .kvs b a)),b,d,(wr .i64 (a+1)))))) (
  kx (.exit 2) (c,b,d,a))
def Ao1:Sig:=⟨36,[(0,.sl .kvs false),(3,.int .i64),(9,.sl .kvs false),(10,.int .i64),(11,.int .i64)],[],[],0,0,0,[],[]⟩
abbrev Aaf:=List (List KvS)×Int×List (List KvS)×Int×Int
def Wy{R:Type}(rec:Aaf->Option R)(kx:Ex->Aaf->Option R)(v:Aaf):Option R:=match v with
 |(v,v1,v2,v3,v4) =>
 cond (decide (v4<v3)) (
  chk (inb v4 v2.length) (
  cond (decide ((wr .i64 (v1+((at' .kvs v2 v4).length:Int)))<0)) (
   none) (
   rec (v,(wr .i64 (v1+((at' .kvs v2 v4).length:Int))),v2,v3,(wr .i64 (v4+1)))))) (
  kx (.exit 0) (v,v1,v2,v3,v4))
def A7i(R:Type)(k:Nat):Px R:=pxO [(70,Xz .kv)] [] [(3,Am k Ao1 (Wy)),(11,Am k An0 (Wd))] []
def Adm(k:Nat)(x:HV [.sl .kvs false]):Option (HV [.sl .kv true]):=match x with
 |l =>
 Aj (λrec=>Wy rec (λe vz=>match vz with|(v5,v6,_,_,_)=>match e with
  |.exit 0 =>
  chk (decide ((0:Int)<=v6)&&decide (v6<=(2000000:Int))) (
   Aj (λrec=>Wd rec (λe vz=>match vz with|(a,_,_,_)=>match e with
   |.exit 2 =>some a
   |_=>none)) k ([],v5,(v5.length:Int),0))
  |_=>none)) k (l,0,l,(l.length:Int),0)
theorem Bey(k:Nat):FO 31 [.sl .kvs false] [.sl .kv true] (Adm k):=fR (px:=A7i _ k) (n:=2) Tryz.func31 rfl (λcx H=>by have h0:Lv cx (A7i (HV [.sl .kv true]) k):=lv H (Ao (Ara H Aqe) Ae) Aa Ab;have hlkcat_0:=lO H h0 (b:=lp Tryz.f31 0) (k:=k) (n:=0) (s:=Ao1) (step:=Wy) (λ_ _ _ (_,_,_,_,_)=>by kernel_rfl) Ai;have hlkcat_1:=lO H h0 (b:=lp Tryz.f31 1) (k:=k) (n:=0) (s:=An0) (step:=Wd) (λ_ _ _ (_,_,_,_)=>by kernel_rfl) Ai;exact⟨h0,(A6 (A6 Ai hlkcat_0) hlkcat_1)⟩) λ_=>by kernel_rfl
def Bqb(l:List (List KvS)):Option (List KvS):=Adm 100 l
def Biu:FT [.sl .kvs false] [.sl .kv true]:=λx=>Bqb x
theorem Bp9:FO 31 [.sl .kvs false] [.sl .kv true] Biu :=.fin 0 Bey λ_ _ _ hx=>⟨100,hx⟩
def Aga:Sig:=⟨3,[(1,.sv .tbl),(2,.sl .val false)],[(0,.ptr 0 0)],[(0,.cells [.int .i64,.sl .byte false,.bool,.sl .byte false,.sl .node false,.sl .byte false,.sl .stt false,.sl .byte false])],1,1,0,[],[]⟩
def Af7:Sig:=⟨1,[(0,.int .i64)],[],[(0,.cells [.int .i64,.sl .byte false,.bool,.sl .byte false,.sl .node false,.sl .byte false,.sl .stt false,.sl .byte false])],1,1,0,[],[]⟩
abbrev Bmi:=Tbl×List Val×Int×List UInt8×Bool×List UInt8×List NodeS×List UInt8×List NodeS×List UInt8
abbrev A3l:=Int×Int×List UInt8×Bool×List UInt8×List NodeS×List UInt8×List NodeS×List UInt8
def Anc:Sig:=⟨89,[(6,.int .i64),(73,.sl .kv true),(74,.int .i64),(75,.int .i64)],[(0,.ptr 0 0)],[(0,.cells [.int .i64,.sl .byte false,.bool,.sl .byte false,.sl .node false,.sl .byte false,.sl .stt false,.sl .byte false])],1,1,0,[],[]⟩
abbrev Z9:=Int×List KvS×Int×Int×Int×List UInt8×Bool×List UInt8×List NodeS×List UInt8×List NodeS×List UInt8
def Ach{R:Type}(rec:Z9->Option R)(kx:Ex->Z9->Option R)(v:Z9):Option R:=match v with
 |(d,b,c,a,w8,w9,e,w11,f,g,h,i) =>
 cond (decide (a<c)) (
  chk (inb a b.length) (
  (As2 ((at' .kv b a).key,(at' .kv b a).val,w8,w9,e,w11,f,g,h,i)).bind λ(j,k,l,m,n,o,p,q,r) =>
   cond (!decide (j=0)) (
   kx .ret (j,b,c,a,k,l,m,n,o,p,q,r)) (
   rec (d,b,c,(wr .i64 (a+1)),k,l,m,n,o,p,q,r)))) (
  kx (.exit 3) (d,b,c,a,w8,w9,e,w11,f,g,h,i))
def Apx:Sig:=⟨89,[(6,.int .i64),(7,.sl .kv true),(45,.sl .kv true),(46,.int .i64),(47,.int .i64)],[(0,.ptr 0 0)],[(0,.cells [.int .i64,.sl .byte false,.bool,.sl .byte false,.sl .node false,.sl .byte false,.sl .stt false,.sl .byte false])],1,1,0,[],[]⟩
abbrev Yq:=Int×List KvS×List KvS×Int×Int×Int×List UInt8×Bool×List UInt8×List NodeS×List UInt8×List NodeS×List UInt8
def Ado{R:Type}(rec:Yq->Option R)(kx:Ex->Yq->Option R)(v:Yq):Option R:=match v with
 |(v,v1,v2,v3,v4,w,w1,w2,w3,w4,w5,w6,w7) =>
 cond (decide (v4<v3)) (
  chk (inb v4 v2.length) (
  (Atc ((at' .kv v2 v4).key,w,w1,w2,w3,w4,w5,w6,w7)).bind λ(_,x8,x9,a,b,c,d,e,f,g,h) =>
   cond (!decide (x9=0)) (
   kx .ret (x9,v1,v2,v3,v4,a,b,c,d,e,f,g,h)) (
   let j:=λ(p1:Bool) =>
    cond (p1) (
    kx .ret (180,v1,v2,v3,v4,a,b,c,d,e,f,g,h)) (
    cond (x8) (
     kx .ret (181,v1,v2,v3,v4,a,b,c,d,e,f,g,h)) (
     rec (v,v1,v2,v3,(wr .i64 (v4+1)),a,b,c,d,e,f,g,h)))
   cond (x8) (
    j (decide (v4=0))) (
    j false)))) (
  kx (.exit 0) (v,v1,v2,v3,v4,w,w1,w2,w3,w4,w5,w6,w7))
def A73(R:Type)(k:Nat):Px R:=pxO [(9,cA Bih),(26,cA Asu),(31,cA Biu),(32,C1 Ar1 Ath Atc),(33,C1 Auu Atu As2)] [] [(8,Am k Apx (Ado)),(19,Am k Anc (Ach))] []
def Mn(k:Nat)(x:Bmi):Option (A3l):=match x with
 |(t,r,a,b,c,d,e,f,g,h) =>
 (Bs8 t r).bind λ(x,x1) =>
  cond (!decide (x1=0)) (
  some (x1,a,b,c,d,e,f,g,h)) (
  (Av4 t r).bind λ(x2,_,x4,_) =>
   (Bqb [x2.l,x4.l]).bind λx6 =>
   Aj (λrec=>Ado rec (λe vz=>match vz with|(v5,v6,_,_,_,i,j,m,n,o,p,q,s)=>match e with
    |.ret =>
    some (v5,i,j,m,n,o,p,q,s)
    |.exit 0 =>
    Aj (λrec=>Ach rec (λe vz=>match vz with|(a3,_,_,_,u,v,w,y,z,a0,a1,a2)=>match e with
     |.ret =>
     some (a3,u,v,w,y,z,a0,a1,a2)
     |.exit 3 =>
     some (0,u,v,w,y,z,a0,a1,a2)
     |_=>none)) k (v5,v6,(v6.length:Int),0,i,j,m,n,o,p,q,s)
    |_=>none)) k (0,x,x6,(x6.length:Int),0,a,b,c,d,e,f,g,h))
theorem Bgo(k:Nat):FM 13 Aga Af7 (Mn k):=fRL (px:=A73 _ k) (n:=2) Tryz.func13 rfl (λcx H=>by have h0:Lv cx (A73 (A3l) k):=lv H (c1 H Bno (c1 H Awq (c1 H Bp9 (l1 H Bq9 (l1 H Bpp Ae))))) Aa Ab;have hlpIns_0:=lO H h0 (b:=lp Tryz.f13 0) (k:=k) (n:=0) (s:=Apx) (step:=Ado) (λ_ _ _ (_,_,_,_,_,_,_,_,_,_,_,_,_)=>by kernel_rfl) Ai;have hlpIns_1:=lO H h0 (b:=lp Tryz.f13 1) (k:=k) (n:=0) (s:=Anc) (step:=Ach) (λ_ _ _ (_,_,_,_,_,_,_,_,_,_,_,_)=>by kernel_rfl) Ai;exact⟨h0,(A6 (A6 Ai hlpIns_0) hlpIns_1)⟩) λ(_,_,_,_,_,_,_,_,_,_)=>by kernel_rfl
def Aug:Bmi->Option A3l:=λx=>Mn (5000) x
theorem Bnu:FM 13 Aga Af7 (Aug):=FnLn.fin (ι:=Nat) (sg:=Aga) (so:=Af7) 0 (F:=λk=>Mn k) (λk=>Bgo k) λ_ _ _ hx=>⟨5000,hx⟩
def Aak:Sig:=⟨2,[(1,.sv .tbl)],[(0,.ptr 0 0)],[(0,.cells [.int .i64,.sl .byte false,.bool,.sl .byte false,.sl .node false,.sl .byte false,.sl .stt false,.sl .byte false])],1,1,0,[],[]⟩
def Za:Sig:=⟨2,[(0,.sl .vals true),(1,.int .i64)],[],[(0,.cells [.int .i64,.sl .byte false,.bool,.sl .byte false,.sl .node false,.sl .byte false,.sl .stt false,.sl .byte false])],1,1,0,[],[]⟩
abbrev A6t:=Tbl×Int×List UInt8×Bool×List UInt8×List NodeS×List UInt8×List NodeS×List UInt8
abbrev Agl:=List (List Val)×Int×Int×List UInt8×Bool×List UInt8×List NodeS×List UInt8×List NodeS×List UInt8
def Ait:Sig:=⟨66,[(11,.sl .vals true),(12,.bool),(43,.sl .kv false),(44,.int .i64),(45,.int .i64)],[(3,.ptr 1 0)],[(0,.cells [.int .i64,.sl .byte false,.bool,.sl .byte false,.sl .node false,.sl .byte false,.sl .stt false,.sl .byte false]),(1,.one (.sv .tbl))],2,1,0,[],[]⟩
abbrev Tx:=List (List Val)×Bool×List KvS×Int×Int×Int×List UInt8×Bool×List UInt8×List NodeS×List UInt8×List NodeS×List UInt8×Tbl
def Sr{R:Type}(rec:Tx->Option R)(kx:Ex->Tx->Option R)(v:Tx):Option R:=match v with
 |(v,v1,v2,v3,v4,w,w1,w2,w3,w4,w5,w6,w7,w8) =>
 cond (decide (v4<v3)) (
  chk (inb v4 v2.length) (
  (Agp w8 ((at' .kv v2 v4).val)).bind λ(b,a) =>
   cond (!decide (a=0)) (
   kx (.exit 0) (v, !decide (a=0),v2,v3,v4,w,w1,w2,w3,w4,w5,w6,w7,w8)) (
   chk (decide (v.length+1<=Ah)) (
    rec ((v++[b]), !decide (a=0),v2,v3,(wr .i64 (v4+1)),w,w1,w2,w3,w4,w5,w6,w7,w8))))) (
  kx (.exit 0) (v,v1,v2,v3,v4,w,w1,w2,w3,w4,w5,w6,w7,w8))
def Aki(R:Type)(_k:Nat):Px R:=pxO [(52,cA X5)] [] [] []
noncomputable def Axe(R:Type)(k:Nat):Px R:=pxO [(36,cA X3),(35,cA Arx),(38,cA Af0),(37,C1 Ac8 Acu Yj),(39,cA A7m),(34,A1 80 400 (Aki R k) Tryz.f34)] [] [(11,Am k Ait (Sr))] []
def Gb(k:Nat)(x:A6t):Option (Agl):=match x with
 |(t,a,b,c,d,e,f,g,h) =>
 (Ji t).bind λx =>
  cond (!decide (x=0)) (
  some ([],x,a,b,c,d,e,f,g,h)) (
  (Mv [[114],t.name]).bind λx1 =>
   (Ac9 [x1]).bind λ(x2,_) =>
   (Aw0 x2).bind λx4 =>
    (Yj (x2,x4,9223372036854775807,a,b,c,d,e,f,g,h)).bind λ(x5,x6,x7,x8,x9,i,j,l,m,n) =>
    cond (!decide (x6=0)) (
     some ([],x6,x7,x8,x9,i,j,l,m,n)) (
     Aj (λrec=>Sr rec (λe vz=>match vz with|(v5,v6,_,_,_,o,p,q,r,s,u,v,w,_)=>match e with
     |.exit 0 =>
      cond (v6) (
      some ([],11,o,p,q,r,s,u,v,w)) (
      some (v5,0,o,p,q,r,s,u,v,w))
     |_=>none)) k ([],false,x5,(x5.length:Int),0,x7,x8,x9,i,j,l,m,n,t)))
theorem Bbl(k:Nat):FM 14 Aak Za (Gb k):=fRL (px:=Axe _ k) (n:=1) Tryz.func14 rfl (λcx H=>by have h1:Lv cx (Aki (Agl) k):=lv H (c1 H Ant Ae) Aa Ab;have h0:Lv cx (Axe (Agl) k):=lv H (c1 H Abj (c1 H Auj (c1 H Axy (l1 H Bb4 (c1 H Bgi (Ao (cR H h1 Tryz.func34 rfl (n:=0) (Ai)) Ae)))))) Aa Ab;have hlpScan_0:=lO H h0 (b:=lp Tryz.f14 0) (k:=k) (n:=0) (s:=Ait) (step:=Sr) (λ_ _ _ (_,_,_,_,_,_,_,_,_,_,_,_,_,_)=>by kernel_rfl) Ai;exact⟨h0,(A6 Ai hlpScan_0)⟩) λ(_,_,_,_,_,_,_,_,_)=>by kernel_rfl
def Sl:A6t->Option Agl:=λx=>Gb (5000) x
theorem Bng:FM 14 Aak Za (Sl):=FnLn.fin (ι:=Nat) (sg:=Aak) (so:=Za) 0 (F:=λk=>Gb k) (λk=>Bbl k) λ_ _ _ hx=>⟨5000,hx⟩
end
noncomputable section
def Al6:Sig:=⟨40,[(1,.sl .val false),(2,.sl .str false),(6,.sl .val true),(7,.int .i64),(8,.sl .val true),(9,.int .i64)],[(3,.ptr 0 0)],[(0,.one (.sv .tbl))],1,0,0,[],[]⟩
abbrev Adc:=List Val×List Str×List Val×Int×List Val×Int×Tbl
def Y8{R:Type}(rec:Adc->Option R)(kx:Ex->Adc->Option R)(v:Adc):Option R:=match v with
 |(v,v1,v2,v3,v4,v5,w) =>
 cond (decide (v5<(v1.length:Int))) (
  chk (inb v5 v1.length) (
  cond (decide ((Bdh w.cols (at' .str v1 v5))<0)) (
   kx .ret (v,v1,[],150,v4,v5,w)) (
   chk (inb (Bdh w.cols (at' .str v1 v5)) v.length) (
   chk (decide (v4.length+1<=Ah)) (
    rec (v,v1,v2,v3,(v4++[(at' .val v (Bdh w.cols (at' .str v1 v5)))]),(wr .i64 (v5+1)),w)))))) (
  kx (.exit 0) (v,v1,v2,v3,v4,v5,w))
def Azi(R:Type)(k:Nat):Px R:=pxO [(40,cA A4p)] [] [(5,Am k Al6 (Y8))] []
def O0(k:Nat)(x:HV [.sv .tbl,.sl .val false,.sl .str false]):Option (HV [.sl .val true,.int .i64]):=match x with
 |(t,r,names) =>
 cond (!decide ((r.length:Int)=(t.cols.length:Int))) (
  some ([],2)) (
  Aj (λrec=>Y8 rec (λe vz=>match vz with|(_,_,v8,v9,a,_,_)=>match e with
  |.ret =>some (v8,v9)
  |.exit 0 =>some (a,0)
  |_=>none)) k (r,names,[],0,[],0,t))
theorem Ba1(k:Nat):FO 15 [.sv .tbl,.sl .val false,.sl .str false] [.sl .val true,.int .i64] (O0 k):=fR (px:=Azi _ k) (n:=1) Tryz.func15 rfl (λcx H=>by have h0:Lv cx (Azi (HV [.sl .val true,.int .i64]) k):=lv H (c1 H Bnx Ae) Aa Ab;have hldpick_0:=lO H h0 (b:=lp Tryz.f15 0) (k:=k) (n:=0) (s:=Al6) (step:=Y8) (λ_ _ _ (_,_,_,_,_,_,_)=>by kernel_rfl) Ai;exact⟨h0,(A6 Ai hldpick_0)⟩) λ(_,_,_)=>by kernel_rfl
def Axz(t:Tbl)(r:List Val)(l:List Str):Option (List Val×Int):=O0 5000 (t,r,l)
def A83:FT [.sv .tbl,.sl .val false,.sl .str false] [.sl .val true,.int .i64]:=λx=>Axz x.1 x.2.1 x.2.2
theorem Bk8:FO 15 [.sv .tbl,.sl .val false,.sl .str false] [.sl .val true,.int .i64] A83 :=.fin 0 Ba1 λ_ _ _ hx=>⟨5000,hx⟩
def Ak2:Sig:=⟨52,[(1,.sl .vals false),(5,.int .i64),(6,.int .i64),(7,.int .i64)],[],[],0,0,0,[],[]⟩
abbrev T5:=List (List Val)×Int×Int×Int
def Ys{R:Type}(rec:T5->Option R)(kx:Ex->T5->Option R)(v:T5):Option R:=match v with
 |(v3,v4,v5,v6) =>
 chk (inb v5 v3.length) (
  cond (decide (v6<((at' .vals v3 v5).length:Int))) (
  chk (inb v5 v3.length) (
   chk (inb v6 ((at' .vals v3 v5).length)) (
   rec (v3,(wr .i64 (v4+(wr .i64 (Int.tdiv (((at' .val (at' .vals v3 v5) v6).s).length:Int) 20)))),v5,(wr .i64 (v6+1)))))) (
  kx (.exit 2) (v3,v4,v5,v6)))
def Ahf:Sig:=⟨52,[(1,.sl .vals false),(5,.int .i64),(6,.int .i64)],[],[],0,0,0,[],[]⟩
abbrev R4:=List (List Val)×Int×Int
def Oy{R:Type}(k:Nat)(rec:R4->Option R)(kx:Ex->R4->Option R)(v:R4):Option R:=match v with
 |(v,v1,v2) =>
 cond (decide (v2<(v.length:Int))) (
  chk (inb v2 v.length) (
  Aj (λrc=>Ys rc (λe vz=>match vz with|(v7,v8,v9,_)=>match e with
   |.exit 2 =>
   rec (v7,v8,(wr .i64 (v9+1)))
   |_=>none)) k (v,(wr .i64 ((wr .i64 (v1+1))+((at' .vals v v2).length:Int))),v2,0))) (
  kx (.exit 0) (v,v1,v2))
def Awb(R:Type)(k:Nat):Px R:=pxO [(23,cA Acf)] [] [(7,Am k Ak2 (Ys)),(3,Am k Ahf (Oy k))] []
def Mx(k:Nat)(x:HV [.sv .tbl,.sl .vals false]):Option (HV [.bool]):=match x with
 |(t,l) =>
 Aj (λrec=>Oy k rec (λe vz=>match vz with|(a,b,_)=>match e with
  |.exit 0 =>
  cond (decide (250<=b)) (
   some true) (
   some (decide (24<(a.length:Int))))
  |_=>none)) k (l,(Aui t 200),0)
theorem Bdp(k:Nat):FO 7 [.sv .tbl,.sl .vals false] [.bool] (Mx k):=fR (px:=Awb _ k) (n:=2) Tryz.func7 rfl (λcx H=>by have h0:Lv cx (Awb (HV [.bool]) k):=lv H (c1 H A4v Ae) Aa Ab;have hllmuch_1:=lO H h0 (b:=lpC (lp Tryz.f7 0) 0) (k:=k) (n:=0) (s:=Ak2) (step:=Ys) (λ_ _ _ (_,_,_,_)=>by kernel_rfl) Ai;have hllmuch_0:=lO H h0 (b:=lp Tryz.f7 0) (k:=k) (n:=1) (s:=Ahf) (step:=Oy k) (λ_ _ _ (_,_,_)=>by kernel_rfl) (A6 Ai hllmuch_1);exact⟨h0,(A6 (A6 Ai hllmuch_0) hllmuch_1)⟩) λ(_,_)=>by kernel_rfl
def Bme(t:Tbl)(l:List (List Val)):Option Bool:=Mx 2000000 (t,l)
def A5z:FT [.sv .tbl,.sl .vals false] [.bool]:=λx=>Bme x.1 x.2
theorem Bhu:FO 7 [.sv .tbl,.sl .vals false] [.bool] A5z :=.fin 0 Bdp λ_ _ _ hx=>⟨2000000,hx⟩
end
noncomputable section
end
noncomputable section
def Amb:Sig:=⟨59,[(0,.sl .val false),(1,.sl .val false),(5,.int .i64)],[],[],0,0,0,[],[]⟩
abbrev Adv:=List Val×List Val×Int
def R3{R:Type}(rec:Adv->Option R)(kx:Ex->Adv->Option R)(v:Adv):Option R:=match v with
 |(v,v1,v2) =>
 let j:=λ(p:Bool) =>
  cond (p) (
  chk (inb v2 v.length) (
   chk (inb v2 v1.length) (
   cond (decide ((at' .val v v2)=(at' .val v1 v2))) (
    rec (v,v1,(wr .i64 (v2+1)))) (
    kx (.exit 0) (v,v1,v2))))) (
  kx (.exit 0) (v,v1,v2))
 cond (decide (v2<(v.length:Int))) (
  j (decide (v2<(v1.length:Int)))) (
  j false)
def Ave(R:Type)(k:Nat):Px R:=pxO [(41,cA Biq)] [] [(2,Am k Amb (R3))] []
def Aks(k:Nat)(x:HV [.sl .val false,.sl .val false]):Option (HV [.int .i64]):=match x with
 |(a,b) =>
 Aj (λrec=>R3 rec (λe vz=>match vz with|(v3,v4,v5)=>match e with
  |.exit 0 =>
  let j1:=λ(p4:Bool) =>
   cond (p4) (
   chk (inb v5 v3.length) (
    chk (inb v5 v4.length) (
    some (A26 (at' .val v3 v5) (at' .val v4 v5))))) (
   cond (decide (v5<(v4.length:Int))) (
    some (-1)) (
    cond (decide (v5<(v3.length:Int))) (
    some 1) (
    some 0)))
  cond (decide (v5<(v3.length:Int))) (
   j1 (decide (v5<(v4.length:Int)))) (
   j1 false)
  |_=>none)) k (a,b,0)
theorem Bau(k:Nat):FO 16 [.sl .val false,.sl .val false] [.int .i64] (Aks k):=fR (px:=Ave _ k) (n:=1) Tryz.func16 rfl (λcx H=>by have h0:Lv cx (Ave (HV [.int .i64]) k):=lv H (c1 H Bo9 Ae) Aa Ab;have hldrows_0:=lO H h0 (b:=lp Tryz.f16 0) (k:=k) (n:=0) (s:=Amb) (step:=R3) (λ_ _ _ (_,_,_)=>by kernel_rfl) Ai;exact⟨h0,(A6 Ai hldrows_0)⟩) λ(_,_)=>by kernel_rfl
def Ay4(a b:List Val):Option Int:=Aks 5000 (a,b)
def A7y:FT [.sl .val false,.sl .val false] [.int .i64]:=λx=>Ay4 x.1 x.2
theorem Bm3:FO 16 [.sl .val false,.sl .val false] [.int .i64] A7y :=.fin 0 Bau λ_ _ _ hx=>⟨5000,hx⟩
def Alp:Sig:=⟨141,[(4,.bool),(7,.int .i64),(9,.sl .vals true),(11,.int .i64),(12,.int .i64),(17,.int .i64)],[(2,.ptr 0 0)],[(0,.one (.sv .tbl))],1,0,0,[],[]⟩
abbrev M8:=Bool×Int×List (List Val)×Int×Int×Int×Tbl
def Aiq{R:Type}(rec:M8->Option R)(kx:Ex->M8->Option R)(v:M8):Option R:=match v with
 |(g,f,a,c,d,b,e) =>
 cond (decide (b<(e.cols.length:Int))) (
  chk (inb b e.cols.length) (
  let j:=λ(p6:Bool) =>
   cond (p6) (
   chk (inb c a.length) (
    chk (inb b ((at' .vals a c).length)) (
    chk (inb d a.length) (
     chk (inb b ((at' .vals a d).length)) (
     cond (decide ((at' .val (at' .vals a c) b)=(at' .val (at' .vals a d) b))) (
      kx .ret (false,f,a,c,d,b,e)) (
      rec (g,f,a,c,d,(wr .i64 (b+1)),e))))))) (
   rec (g,f,a,c,d,(wr .i64 (b+1)),e))
  cond ((at' .col e.cols b).unique) (
   chk (inb c a.length) (
   chk (inb b ((at' .vals a c).length)) (
    j (!decide ((at' .val (at' .vals a c) b).kind=1))))) (
   j false))) (
  kx (.exit 6) (g,f,a,c,d,b,e))
def Ak7:Sig:=⟨141,[(4,.bool),(7,.int .i64),(9,.sl .vals true),(11,.int .i64),(12,.int .i64)],[(2,.ptr 0 0)],[(0,.one (.sv .tbl))],1,0,0,[],[]⟩
abbrev Mz:=Bool×Int×List (List Val)×Int×Int×Tbl
def Ahh{R:Type}(k:Nat)(rec:Mz->Option R)(kx:Ex->Mz->Option R)(v:Mz):Option R:=match v with
 |(f,d,a,b,c,w11) =>
 cond (decide (c<b)) (
  chk (inb c a.length) (
  (Axz w11 (at' .vals a c) w11.key).bind λ(n,_) =>
   chk (inb b a.length) (
   (Axz w11 (at' .vals a b) w11.key).bind λ(o,_) =>
    (Ay4 n o).bind λp =>
    cond (decide (0<=p)) (
     kx .ret (false,d,a,b,c,w11)) (
     Aj (λrc=>Aiq rc (λe vz=>match vz with|(g,h,i,j,l,_,m)=>match e with
     |.ret =>kx .ret (g,h,i,j,l,m)
     |.exit 6 =>rec (g,h,i,j,(wr .i64 (l+1)),m)
     |_=>none)) k (f,d,a,b,c,0,w11))))) (
  kx (.exit 4) (f,d,a,b,c,w11))
def Ak3:Sig:=⟨141,[(4,.bool),(7,.int .i64),(9,.sl .vals true),(11,.int .i64)],[(2,.ptr 0 0)],[(0,.one (.sv .tbl))],1,0,0,[],[]⟩
abbrev Ng:=Bool×Int×List (List Val)×Int×Tbl
def Ahz{R:Type}(k:Nat)(rec:Ng->Option R)(kx:Ex->Ng->Option R)(v:Ng):Option R:=match v with
 |(c,d,a,b,f) =>
 cond (decide (b<(a.length:Int))) (
  Aj (λrc=>Ahh k rc (λe vz=>match vz with|(g,h,i,j,_,l)=>match e with
  |.ret =>kx .ret (g,h,i,j,l)
  |.exit 4 =>rec (g,h,i,(wr .i64 (j+1)),l)
  |_=>none)) k (c,d,a,b,0,f)) (
  kx (.exit 2) (c,d,a,b,f))
def Aji:Sig:=⟨141,[(1,.sl .vals false),(4,.bool),(7,.int .i64),(8,.int .i64)],[(2,.ptr 0 0),(5,.ptr 41 0)],[(0,.one (.sv .tbl)),(41,.cells [.int .i64,.sl .byte false,.bool,.sl .byte false,.sl .node false,.sl .byte false,.sl .stt false,.sl .byte false])],42,0,0,[],[]⟩
abbrev Ov:=List (List Val)×Bool×Int×Int×Tbl×Int×List UInt8×Bool×List UInt8×List NodeS×List UInt8×List NodeS×List UInt8
def Ama{R:Type}(rec:Ov->Option R)(kx:Ex->Ov->Option R)(v:Ov):Option R:=match v with
 |(v9,b,c,a,w1,w2,w3,w4,w5,w6,w7,w8,w9) =>
 cond (decide (a<(v9.length:Int))) (
  chk (inb a v9.length) (
  (Aug (w1,(at' .vals v9 a),w2,w3,w4,w5,w6,w7,w8,w9)).bind λ(x4,x5,x6,x7,x8,x9,d,e,f) =>
   cond (decide (x4=0)) (
   rec (v9,b,(wr .i64 (c+1)),(wr .i64 (a+1)),w1,x5,x6,x7,x8,x9,d,e,f)) (
   rec (v9,b,c,(wr .i64 (a+1)),w1,x5,x6,x7,x8,x9,d,e,f)))) (
  kx (.exit 0) (v9,b,c,a,w1,w2,w3,w4,w5,w6,w7,w8,w9))
def Ali:Sig:=⟨141,[(1,.sl .vals false),(4,.bool),(7,.int .i64),(8,.int .i64)],[(2,.ptr 0 0),(5,.nilp)],[(0,.one (.sv .tbl))],1,0,0,[],[]⟩
abbrev Rm:=List (List Val)×Bool×Int×Int×Tbl
def A8w{R:Type}(_:Rm->Option R)(kx:Ex->Rm->Option R)(v:Rm):Option R:=match v with
 |(v,v1,v2,v3,w) =>
 cond (decide (v3<(v.length:Int))) (
  chk (inb v3 v.length) (
  none)) (
  kx (.exit 0) (v,v1,v2,v3,w))
def Awc(R:Type)(_k:Nat):Px R:=pxO [(29,cA Q9),(30,cA Aj6)] [] [] []
noncomputable def Pu(R:Type)(k:Nat):Px R:=pxO [(7,cA A5z),(8,cA Apw),(13,C1 Aga Af7 Aug),(14,C1 Aak Za Sl),(16,cA A7y),(12,A1 40 200 (Awc R k) Tryz.f12)] [(15,qA A83)] [(6,Auv k Ali (A8w) (Am k Aji (Ama))),(24,Am k Alp (Aiq)),(17,Am k Ak7 (Ahh k)),(14,Am k Ak3 (Ahz k))] []
theorem Bhl(R:Type)(k:Nat):∀(fr:List Fr) (rec:Rm->Option R) (kx:Ex->Rm->Option R) (v:Rm),round (Pu R k) Ali (lp Tryz.f4 0) fr rec kx v=A8w rec kx v
 |fr,rec,kx,(v,v1,v2,v3,w)=>by kernel_rfl
theorem Bf3(R:Type)(k:Nat):∀(fr:List Fr) (rec:Ov->Option R) (kx:Ex->Ov->Option R) (v:Ov),round (Pu R k) Aji (lp Tryz.f4 0) fr rec kx v=Ama rec kx v
 |fr,rec,kx,(v9,a,b,c,w1,w2,w3,w4,w5,w6,w7,w8,w9)=>by kernel_rfl
theorem Bnd(R:Type)(k:Nat):∀(fr:List Fr) (rec:M8->Option R) (kx:Ex->M8->Option R) (v:M8),round (Pu R k) Alp (lpC (lpC (lp Tryz.f4 1) 0) 0) fr rec kx v=Aiq rec kx v
 |fr,rec,kx,(a,b,c,d,e,f,g)=>by kernel_rfl
theorem Bhj(R:Type)(k:Nat):∀(fr:List Fr) (rec:Mz->Option R) (kx:Ex->Mz->Option R) (v:Mz),round (Pu R k) Ak7 (lpC (lp Tryz.f4 1) 0) fr rec kx v=Ahh k rec kx v
 |fr,rec,kx,(a,b,c,d,e,w11)=>by kernel_rfl
theorem Bgu(R:Type)(k:Nat):∀(fr:List Fr) (rec:Ng->Option R) (kx:Ex->Ng->Option R) (v:Ng),round (Pu R k) Ak3 (lp Tryz.f4 1) fr rec kx v=Ahz k rec kx v
 |fr,rec,kx,(a,b,c,d,e)=>by kernel_rfl
def Aal(k:Nat)(x:HV [.sv .tbl,.sl .vals false]):Option (HV [.bool]):=match x with
 |(t,l) =>
 (Bme t l).bind λx =>
  cond (x) (
  (Aap).bind λx1 =>some x1) (
  (M6 (NodeS.mk 0 [] false [] [] [])).bind λx2 =>
   cond (!decide (x2=0)) (
   Aj (λrec=>A8w rec (λe vz=>match vz with|(_,_,_,_,_)=>match e with
    |.exit 0 =>
    none
    |_=>none)) k (l,false,0,0,t)) (
   (Ai2 (NodeS.mk 0 [] false [] [] [])).bind λx3 =>
    Aj (λrec=>Ama rec (λe vz=>match vz with|(_,c,a,_,b,d,f,g,h,i,j,m,n)=>match e with
    |.exit 0 =>
     (Sl (b,d,f,g,h,i,j,m,n)).bind λ(o,p,_,_,_,_,_,_,_,_) =>
     cond (!decide (p=0)) (
      cond (decide (a=0)) (
      (Aap).bind λq =>some q) (
      some false)) (
      Aj (λrec=>Ahz k rec (λe vz=>match vz with|(r,s,u,_,_)=>match e with
      |.ret =>some r
      |.exit 2 =>
       cond (decide ((u.length:Int)=s)) (
       (Aap).bind λv =>some v) (
       some false)
      |_=>none)) k (c,a,o,0,b))
    |_=>none)) k (l,false,0,0,t,x3.kind,x3.path,x3.has,x3.val,x3.kids,x3.hash,[],[])))
theorem Bq3(k:Nat):FO 4 [.sv .tbl,.sl .vals false] [.bool] (Aal k):=fR (px:=Pu _ k) (n:=4) Tryz.func4 rfl (λcx H=>by have h1:Lv cx (Awc (HV [.bool]) k):=lv H (c1 H Vo (c1 H Anr Ae)) Aa Ab;have h0:Lv cx (Pu (HV [.bool]) k):=lv H (c1 H Bhu (c1 H A3i (l1 H Bnu (l1 H Bng (c1 H Bm3 (Ao (cR H h1 Tryz.func12 rfl (n:=0) (Ai)) Ae)))))) (q1 H Bk8 Aa) Ab;have hllRo_0:Bg cx (Pu (HV [.bool]) k) (lp Tryz.f4 0):=Bqi (λ_ _=>by kernel_rfl) (Bd8 (Azn h0.p h0.c h0.q (by rw[H.p];exact follows) (k:=k) (s:=Ali) (step:=A8w) (by kernel_rfl) (Bhl _ k) (Pj (n:=0) (by kernel_rfl) Ai)) (Azn h0.p h0.c h0.q (by rw[H.p];exact follows) (k:=k) (s:=Aji) (step:=Ama) (by kernel_rfl) (Bf3 _ k) (Pj (n:=0) (by kernel_rfl) Ai)));have hllRo_4:=lO H h0 (b:=lpC (lpC (lp Tryz.f4 1) 0) 0) (k:=k) (n:=0) (s:=Alp) (step:=Aiq) (Bnd _ k) Ai;have hllRo_3:=lO H h0 (b:=lpC (lp Tryz.f4 1) 0) (k:=k) (n:=1) (s:=Ak7) (step:=Ahh k) (Bhj _ k) (A6 Ai hllRo_4);have hllRo_2:=lO H h0 (b:=lp Tryz.f4 1) (k:=k) (n:=2) (s:=Ak3) (step:=Ahz k) (Bgu _ k) (A6 (A6 Ai hllRo_3) hllRo_4);exact⟨h0,(A6 (A6 (A6 (A6 Ai hllRo_0) hllRo_2) hllRo_3) hllRo_4)⟩) λ(_,_)=>by kernel_rfl
end
def wV(s:Str):Val:=⟨4,0,s⟩
theorem Blq{l:List Str}(h:l.length<=4000)(k:Nat)(hk : 4000<k):Kg k l=some (l.map wV):=by
 have hl:ln l.length:=by simp only[ln];omega
 simp only[Kg];refine(C9 (β:=List Val) l.length (λi acc=>(acc,l,(l.length:Int),(i:Int))) (λi acc=>acc.length=i) (λi acc=>some (acc++(l.drop i).map wV)) (λi hi acc ha rec hr =>?_) (λacc _ rec =>?_) k 0 [] (Nat.zero_le _) (by omega) rfl).trans (by rw[Zq1];rfl)
 ·simp only[Q3,Ea hi,Af,As hi,chk,Al (c :=.str) hi,An hi hl,Ak hi,Zw1];rw[Ze1 (by simp only[Ah];omega),Af,hr _ (by simp[ha])];simp[wV,Awh]
 ·simp only[Q3,Ee,Ag];simp
theorem I3{l:List Str}(h:l.length<=4000):Mv l=some (l.map wV):=Blq h 5000 (by omega)
theorem Ab1{α:Type}{l:List (List α)}{i:Nat}(h:i<l.length):(l.take (i+1)).flatten=(l.take i).flatten++l[i]:=by have e:=congrArg List.flatten (List.take_append_getElem h);rw[List.flatten_append] at e;rw[<-e];simp only[Zz1,List.flatten_nil,List.append_nil]
theorem A74{α:Type}(l:List (List α))(i:Nat):(l.take i).flatten.length<=l.flatten.length:=by have:=congrArg (λq=>q.flatten.length) (List.take_append_drop i l);simp only[List.flatten_append,Zh1] at this;omega
theorem Bt9{l:List (List Val)}(h:l.length<=4000)(hf:l.flatten.length<=1000000)(k:Nat)(hk : 4000<k):Sw k l=some l.flatten:=by
 have hl:ln l.length:=by simp only[ln];omega
 simp only[Sw];refine(C9 (β:=Nat) l.length (λi a=>(l,(a:Int),l,(l.length:Int),(i:Int))) (λi a=>a=(l.take i).flatten.length) (λ_ _=>some l.flatten) (λi hi a ha rec hr =>?_) (λa ha rec =>?_) k 0 0 (Nat.zero_le _) (by omega) (by simp)).trans rfl
 ·have h1:=A74 l (i+1);have h2:=congrArg List.length (Ab1 hi);rw[Zh1] at h2;have e:wr .i64 ((a:Int)+(l[i].length:Int))=((a+l[i].length:Nat):Int):=by rw[B3 (by simp[inI];omega)];omega
  simp only[Ago,Ea hi,Af,As hi,chk,Al (c :=.vals) hi,An hi hl,e];rw[Zd1 (by omega),Ag];exact hr _ (by omega)
 ·rw[List.take_length] at ha;subst ha;simp only[Ago,Ee,Ag,chk];rw[Ze1 (show(0:Int)<=(l.flatten.length:Int) by omega),Ze1 (show(l.flatten.length:Int)<=2000000 by omega),Bool.and_true,Af];refine(C9 (β:=List Val) l.length (λi acc=>(acc,l,(l.length:Int),(i:Int))) (λi acc=>acc=(l.take i).flatten) (λi acc=>some (acc++(l.drop i).flatten)) (λi hi acc ha rec hr =>?_) (λacc _ rec =>?_) k 0 [] (Nat.zero_le _) (by omega) (by simp)).trans (by rw[Zq1];rfl)
  ·have h1:=A74 l (i+1);have h2:=congrArg List.length (Ab1 hi);rw[Zh1] at h2;subst ha;simp only[Aic,Ea hi,Af,As hi,chk,Al (c :=.vals) hi,An hi hl,Ak hi,Zz1];rw[Ze1 (by simp only[Ah];omega),Af,hr _ (Ab1 hi).symm,Zj1]
  ·simp only[Aic,Ee,Ag];simp
theorem Bo4{l:List (List Val)}(h:l.length<=4000)(hf:l.flatten.length<=1000000):Btp l=some l.flatten:=Bt9 h hf 5000 (by omega)
theorem Ayo{v:Val}(h:Aq v=true):v.s.length<=1000:=by rcases Ei.1 h with ⟨_,_,h⟩|⟨_,_,h⟩|⟨_,h⟩|⟨_,_,h,_⟩|⟨_,_,h⟩<;>first|exact h|(rw[h];simp)
theorem Ao2:∀{l:List Val},(∀v,v∈l->Aq v=true)->vsz l<=1001*l.length
 |[],_=>by simp[vsz]
 |v::l,h=>by have h1:=Ayo (h v (by simp));have h2:=Ao2 (l:=l) λq hq=>h q (by simp[hq]);simp only[vsz,Zf1];omega
theorem A17{l:List Val}(h:∀v,v∈l->Aq v=true)(hn:l.length<=900):Bgr l=some (E4 l,0):=by have:=Ao2 h;rw[Bgr,Ze1 (by omega),Af,Zg2.2 h];rfl
theorem Jq{l:List (List Val)}(hl:l.length<=4000)(h:∀v,v∈l.flatten->Aq v=true)(hn:l.flatten.length<=900):Ac9 l=some (E4 l.flatten,0):=by rw[Ac9,Ab3,Bo4 hl (by omega),Zc1,A17 h hn];rfl
theorem A6v{t:Tbl}{r:List Val}{l:List Str}(hl:l.length<=4000)(he:r.length=t.cols.length)(k:Nat)(hk : 4000<k):O0 k (t,r,l)=some (C4 t.cols r l []):=by
 have hn:ln l.length:=by simp only[ln];omega
 simp only[O0];rw[Ze1 (by omega),Zt1,Ag];refine(C9 (β:=List Val) l.length (λi acc=>(r,l,[],0,acc,(i:Int),t)) (λi acc=>acc.length=i) (λi acc=>some (C4 t.cols r (l.drop i) acc)) (λi hi acc ha rec hr =>?_) (λacc _ rec =>?_) k 0 [] (Nat.zero_le _) (by omega) rfl).trans (by rw[Zq1])
 ·simp only[Y8,Ea hi,Af,As hi,chk,Al (c :=.str) hi,An hi hn,Ak hi,C4,Bdh];by_cases hf:C7 t.cols l[i]<0
  ·rw[Ze1 hf];rfl
  ·obtain⟨j,hj,e,_⟩:=Axu hf;rw[Zd1 hf,Ag,Ag,e,As (by omega),Af,Ze1 (by simp only[Ah];omega),Af,hr _ (by simp[ha])]
 ·simp only[Y8,Ee,Ag];rw[Zk1 (Zn1 _)];rfl
theorem A0t{t:Tbl}{r:List Val}{l:List Str}(hl:l.length<=4000)(he:r.length=t.cols.length):Al8 t r l=some (C4 t.cols r l []):=by rw[Al8,Ze1 (by omega),Af,Ze1 he,Af]
theorem A7j{s:Stm}(h:(Qp s).2=0):(decide (s.kind=1)&&Fz s)=true/\Ph ⟨s.name,s.cols,s.names,[],[]⟩ s.names=true/\O7 s.cols s.l=0:=by
 simp only[Qp] at h;generalize (decide (s.kind=1)&&Fz s)=b1 at h ⊢;generalize Ph ⟨s.name,s.cols,s.names,[],[]⟩ s.names=b2 at h ⊢;cases b1 with
 |false=>simp at h
 |true =>
  cases b2 with
  |false=>simp at h
  |true =>
   by_cases hc:O7 s.cols s.l=0
   ·exact⟨rfl,rfl,hc⟩
   ·simp[hc] at h
theorem Abs{t:Tbl}(h:J0 t=true):(Qp (Fx t)).2=0/\A9 t.idx=true/\t.idx.length<=100/\∀x,x∈t.idx->P4 t x=true:=by simp only[J0,Zb1,Zg1,Zg2] at h;exact h
theorem T6{t:Tbl}{row:List Val}(h:Ec t row=0):J0 t=true/\Fu t.cols row=true:=by
 simp only[Ec] at h;cases h1:J0 t with
 |false=>rw[h1] at h;simp at h
 |true =>cases h2:Fu t.cols row with|false=>rw[h1,h2] at h;simp at h|true=>exact⟨rfl,rfl⟩
theorem Ays:∀{l seen:List Str},Ad1 seen l=true->∀s,s∈l->Dr s=true
 |[],_,_,s,hs=>by cases hs
 |x::l,seen,h,s,hs=>by
  simp only[Ad1,Zb1] at h;rcases List.mem_cons.1 hs with rfl|hs
  ·exact h.1.1
  ·exact Ays h.2 s hs
theorem Aii{l:List Str}(h:Dt l=true):l.length<=100/\∀s,s∈l->Dr s=true:=by simp only[Dt,Zb1,Zg1] at h;exact⟨h.2,Ays h.1⟩
theorem Bcu:((List.range 256).all λn => !Lp.isIn (n:Int)||vis (UInt8.ofNat n))=true:=by kernel_rfl
theorem Av7{p:UInt8->Bool}:∀{l:Str},(l.takeWhile p).length=l.length->∀b,b∈l->p b=true
 |[],_,b,h=>by cases h
 |c::l,h,b,hb=>by
  cases hc:p c with
  |false =>rw[List.takeWhile_cons,hc] at h;simp at h
  |true =>
   rw[List.takeWhile_cons,hc] at h;rcases List.mem_cons.1 hb with rfl|hb
   ·exact hc
   ·exact Av7 (l:=l) (by simpa using h) b hb
theorem Fg{s:Str}(h:Dr s=true):Aq (wV s)=true:=by
 simp only[Lp.nameF,Zb1,Zg1,Lp.runTo] at h;have h2:=h.2;simp at h2;refine Ei.2 (.inr (.inr (.inr (.inl ⟨rfl,rfl,by simp only[wV];omega,?_⟩))));simp only[wV,S0,Zg2];intro c hc;have h1:=Zg2.1 Bcu c.toNat (List.mem_range.2 c.toNat_lt);have h3:Lp.isIn (c.toNat:Int)=true:=by
  first
   |exact Av7 (p:=λb=>Lp.isIn (b.toNat:Int)) (by omega) c hc
   |exact h2 c hc
 rw[UInt8.ofNat_toNat,h3] at h1;simpa using h1
structure FitR (t:Tbl) (r:List Val):Prop where
 name:Dr t.name=true
 cols:∀c,c∈t.cols->Dr c.name=true/\(c.ref=[]\/Dr c.ref=true)
 ncols:t.cols.length<=100
 nkey:t.key.length<=100
 nidx:t.idx.length<=100
 key:∀s,s∈t.key->¬C7 t.cols s<0
 idx:∀x,x∈t.idx->Dr x.name=true/\x.cols.length<=100/\∀s,s∈x.cols->¬C7 t.cols s<0
 len:r.length=t.cols.length
 right:∀v,v∈r->Aq v=true
theorem Rb{t:Tbl}(h:J0 t=true):t.cols.length<=100/\t.key.length<=100/\t.checks.length<=100/\Dr t.name=true/\(∀c,c∈t.cols->Dr c.name=true/\(c.ref=[]\/Dr c.ref=true)):=by
 have b1:=(A7j (Abs h).1).1;simp only[Fx,Fz,if_true,decide_true,Bool.true_and,Zb1] at b1;obtain⟨⟨b2,_⟩,⟨⟨⟨⟨b3,_⟩,b4⟩,_⟩,b5⟩,b6⟩:=b1;have c1:=Aii b4;have c2:=Aii b5;have hl:t.checks.length<=100:=by simp only[Js,Zb1,Zg1] at b6;exact b6.1
 refine⟨by simpa using c1.1,c2.1,hl,b2,λc hc=>⟨c1.2 _ (List.mem_map.2 ⟨c,hc,rfl⟩),?_⟩⟩;have h3:=Zg2.1 b3 c hc;simp only[Ae4,Zb1,Zd2,Zg1] at h3;exact h3.2
theorem N0{t:Tbl}{r:List Val}(h:Ec t r=0):FitR t r:=by
 obtain⟨ht,hr⟩:=T6 h;obtain⟨h1,h2,_,h4,h5⟩:=Rb ht;have hl:=J1 hr;refine⟨h4,h5,h1,h2,(Abs ht).2.2.1,λs hs =>?_,λx hx =>?_,hl.symm,λv hv =>?_⟩
 ·have h6:(!decide (C7 t.cols s<0))=true:=Zg2.1 (A7j (Abs ht).1).2.1 s hs;simpa using h6
 ·have h6:=(Abs ht).2.2.2 x hx;simp only[P4,Zb1] at h6;obtain⟨h7,h8⟩:=h6;simp only[Fz,Hv,Zb1] at h7;have h9:(Dr t.name&&Dk (x.cols.length:Int)&&Dt x.cols)=true:=h7.2;simp only[Zb1] at h9;obtain⟨h10,_⟩:=Aii h9.2;refine⟨h7.1.1,h10,λs hs =>?_⟩;have h11:(!decide (C7 t.cols s<0))=true:=Zg2.1 h8 s hs;simpa using h11
 ·obtain⟨i,hi,rfl⟩:=List.getElem_of_mem hv;exact(Am8.1 (Wp hr i (by omega) hi)).1
theorem Vn{t:Tbl}{r:List Val}(f:FitR t r){l:List Str}(hl:∀s,s∈l->¬C7 t.cols s<0)(P:Val->Prop)(hP:∀v,v∈r->P v):∀v,v∈(C4 t.cols r l []).1->P v:=by
 refine(A8q (P:=P) (λs hs=>⟨hl s hs,?_⟩) (λv hv=>by cases hv)).2;obtain⟨i,hi,e,_⟩:=Axu (hl s hs);have hi2:i<r.length:=by rw[f.len];exact hi
 rw[e,Al (c :=.val) hi2];exact hP _ (List.getElem_mem hi2)
theorem Ahm{cols:List Col}{row:List Val}{l:List Str}(h:l.length<=100):(C4 cols row l []).1.length<=100:=by have:=Awf (cols:=cols) (row:=row) (l:=l) (acc:=[]);simp only[Zi1,Nat.zero_add] at this;omega
def Ahr(p:KvS):Bool:=decide (p.key.length<=200)&&decide (p.val.length<=4000)
def eKv(p:KvS):Int:=cond (Ahr p) 0 3
def nxE(e:Int)(p:KvS):Int:=cond (decide (e=0)) (eKv p) e
def G5:Int->List KvS->Int
 |e,[]=>e
 |e,p::l=>G5 (nxE e p) l
def pkV(t:Tbl)(r:List Val):List Val:=(C4 t.cols r t.key []).1
def Cs(t:Tbl)(r:List Val):KvS:=⟨E4 (wV [114]::wV t.name::pkV t r),(Hf r).1⟩
def Jp(t:Tbl)(r:List Val)(x:Idx):KvS:=⟨E4 (wV [105]::wV x.name::((C4 t.cols r x.cols []).1++pkV t r)),[]⟩
def W7(t:Tbl)(r:List Val)(c:Col)(v:Val):KvS:=⟨E4 [wV [117],wV t.name,wV c.name,v],(Hf (pkV t r)).1⟩
def Aci(t:Tbl)(r:List Val)(c:Col)(v:Val):KvS:=⟨E4 (wV [102]::wV c.ref::v::wV t.name::wV c.name::pkV t r),[]⟩
def D8(t:Tbl)(r:List Val):List Col->List Val->List KvS
 |c::cs,v::vs=>cond (c.unique && !decide (v.kind=1)) (W7 t r c v::D8 t r cs vs) (D8 t r cs vs)
 |_,_=>[]
def Hj(t:Tbl)(r:List Val):List Col->List Val->List KvS
 |c::cs,v::vs=>cond (!decide (c.ref=[]) && !decide (v.kind=1)) (Aci t r c v::Hj t r cs vs) (Hj t r cs vs)
 |_,_=>[]
theorem Bkt(e:Int)(k v:Str):nxE e ⟨k,v⟩=cond (decide (e=0)) (cond (decide (200<(k.length:Int))) 3 (cond (decide (4000<(v.length:Int))) 3 0)) e:=by simp only[nxE,eKv,Ahr];rw[show decide (k.length<=200) = !decide (200<(k.length:Int)) by rw[<-decide_not];exact Zy1.2 (by omega),show decide (v.length<=4000) = !decide (4000<(v.length:Int)) by rw[<-decide_not];exact Zy1.2 (by omega)];cases decide (e=0)<;>cases decide (200<(k.length:Int))<;>cases decide (4000<(v.length:Int))<;>rfl
theorem Bf1(e:Int)(k:Str):nxE e ⟨k,[]⟩=cond (decide (e=0)) (cond (decide (200<(k.length:Int))) 3 0) e:=by rw[Bkt];rfl
section
variable {t:Tbl}{r:List Val}
theorem Ul(f:FitR t r):∀v,v∈pkV t r->Aq v=true:=Vn f f.key _ f.right
theorem Rz(f:FitR t r):(pkV t r).length<=100:=Ahm f.nkey
theorem Mo:Aq (wV [114])=true/\Aq (wV [105])=true/\Aq (wV [117])=true/\Aq (wV [102])=true:=⟨by kernel_rfl,by kernel_rfl,by kernel_rfl,by kernel_rfl⟩
theorem Bl0(f:FitR t r):Ac9 [[wV [114],wV t.name],pkV t r]=some ((Cs t r).key,0):=by
 have:=Rz f;have e:[[wV [114],wV t.name],pkV t r].flatten=wV [114]::wV t.name::pkV t r:=by simp
 rw[Jq (by simp) (λv hv =>?_) (by rw[e];simp;omega),e]
 ·rfl
 ·rw[e] at hv;rcases List.mem_cons.1 hv with rfl|hv
  ·exact Mo.1
  rcases List.mem_cons.1 hv with rfl|hv
  ·exact Fg f.name
  ·exact Ul f v hv
theorem Bc3(f:FitR t r){x:Idx}(hx:x∈t.idx):(∀v,v∈wV [105]::wV x.name::((C4 t.cols r x.cols []).1++pkV t r)->Aq v=true)/\(wV [105]::wV x.name::((C4 t.cols r x.cols []).1++pkV t r)).length<=900:=by
 obtain⟨h1,h2,h3⟩:=f.idx x hx;have:=Rz f;have:=Ahm (cols:=t.cols) (row:=r) h2;refine⟨λv hv =>?_,by simp;omega⟩;rcases List.mem_cons.1 hv with rfl|hv
 ·exact Mo.2.1
 rcases List.mem_cons.1 hv with rfl|hv
 ·exact Fg h1
 rcases List.mem_append.1 hv with hv|hv
 ·exact Vn f h3 _ f.right v hv
 ·exact Ul f v hv
theorem Bhn(f:FitR t r){x:Idx}(hx:x∈t.idx):Ac9 [[wV [105],wV x.name],(C4 t.cols r x.cols []).1,pkV t r]=some ((Jp t r x).key,0):=by
 obtain⟨h1,h2⟩:=Bc3 f hx;have e:[[wV [105],wV x.name],(C4 t.cols r x.cols []).1,pkV t r].flatten=wV [105]::wV x.name::((C4 t.cols r x.cols []).1++pkV t r):=by simp
 rw[Jq (by simp) (by rw[e];exact h1) (by rw[e];exact h2),e];rfl
theorem A9o(f:FitR t r){c:Col}(hc:c∈t.cols){v:Val}(hv:v∈r):∀q,q∈[wV [117],wV t.name,wV c.name,v]->Aq q=true:=by
 intro q hq;simp only[List.mem_cons,List.not_mem_nil,or_false] at hq;rcases hq with rfl|rfl|rfl|rfl
 ·exact Mo.2.2.1
 ·exact Fg f.name
 ·exact Fg (f.cols c hc).1
 ·exact f.right _ hv
theorem Bhk(f:FitR t r){c:Col}(hc:c∈t.cols){v:Val}(hv:v∈r):Ac9 [[wV [117],wV t.name,wV c.name],[v]]=some ((W7 t r c v).key,0):=by have e:[[wV [117],wV t.name,wV c.name],[v]].flatten=[wV [117],wV t.name,wV c.name,v]:=rfl;rw[Jq (by simp) (by rw[e];exact A9o f hc hv) (by rw[e];simp),e];rfl
theorem Bc7(f:FitR t r){c:Col}(hc:c∈t.cols)(hn:¬c.ref=[]){v:Val}(hv:v∈r):(∀q,q∈wV [102]::wV c.ref::v::wV t.name::wV c.name::pkV t r->Aq q=true)/\(wV [102]::wV c.ref::v::wV t.name::wV c.name::pkV t r).length<=900:=by
 have:=Rz f;refine⟨λq hq =>?_,by simp;omega⟩;simp only[List.mem_cons] at hq;rcases hq with rfl|rfl|rfl|rfl|rfl|hq
 ·exact Mo.2.2.2
 ·exact Fg ((f.cols c hc).2.resolve_left hn)
 ·exact f.right _ hv
 ·exact Fg f.name
 ·exact Fg (f.cols c hc).1
 ·exact Ul f q hq
theorem Bij(f:FitR t r){c:Col}(hc:c∈t.cols)(hn:¬c.ref=[]){v:Val}(hv:v∈r):Ac9 [[wV [102],wV c.ref],[v],[wV t.name,wV c.name],pkV t r]=some ((Aci t r c v).key,0):=by
 obtain⟨h1,h2⟩:=Bc7 f hc hn hv;have e:[[wV [102],wV c.ref],[v],[wV t.name,wV c.name],pkV t r].flatten=wV [102]::wV c.ref::v::wV t.name::wV c.name::pkV t r:=by simp
 rw[Jq (by simp) (by rw[e];exact h1) (by rw[e];exact h2),e];rfl
theorem Ar2{R:Type}{kx:Ex->Uh->Option R}(f:FitR t r){w1 w5 w7:List KvS}{w2 w6 w8:Int}{c:List KvS->Int->Option R}(h2:∀l e,kx (.exit 0) (r,pkV t r,t.idx,(t.idx.length:Int),(t.idx.length:Int),t,w1,w2,l,e,w5,w6,w7,w8)=c l e)(k:Nat)(hk : 200<k) :
  Aj (λrec=>Nr rec kx) k (r,pkV t r,t.idx,(t.idx.length:Int),0,t,w1,w2,[],0,w5,w6,w7,w8)=c (t.idx.map (Jp t r)) (G5 0 (t.idx.map (Jp t r))):=by
 have hn:=f.nidx;have hln:ln t.idx.length:=by simp only[ln];omega
 refine(C9 (β:=List KvS×Int) t.idx.length (λi a=>(r,pkV t r,t.idx,(t.idx.length:Int),(i:Int),t,w1,w2,a.1,a.2,w5,w6,w7,w8)) (λi a=>a.1.length=i) (λi a=>c (a.1++(t.idx.drop i).map (Jp t r)) (G5 a.2 ((t.idx.drop i).map (Jp t r)))) (λi hi a ha rec hr =>?_) (λa _ rec =>?_) k 0 ([],0) (Nat.zero_le _) (by omega) rfl).trans (by rw[Zq1];rfl)
 ·have hx:=List.getElem_mem hi;have hr':=hr (a.1++[Jp t r t.idx[i]],nxE a.2 (Jp t r t.idx[i])) (by simp[ha]);have hx2:=(f.idx _ hx).2.1;simp only[Nr,Ea hi,Af,As hi,chk,Al (c :=.idx) hi,An hi hln,A0t (show t.idx[i].cols.length<=4000 by omega) f.len,Zc1,I3 (show [[105],t.idx[i].name].length<=4000 by simp),Zw1,List.map_nil,Bhn f hx,Ak hi,G5,decide_true];rw[Ze1 (show a.1.length+1<=Ah by simp only[Ah];omega)];have e:nxE a.2 (Jp t r t.idx[i])=cond (decide (a.2=0)) (cond (decide (200<((Jp t r t.idx[i]).key.length:Int))) 3 0) a.2:=Bf1 _ _;rw[Zj1,List.singleton_append] at hr';rw[<-hr',e];have e2:Jp t r t.idx[i]=⟨(Jp t r t.idx[i]).key,[]⟩:=rfl;rw[<-e2];cases decide (a.2=0)<;>cases decide (200<((Jp t r t.idx[i]).key.length:Int))<;>rfl
 ·simp only[Nr,Ee,Ag,h2];rw[Zk1 (Zn1 _),List.map_nil,List.append_nil];rfl
theorem As1{R:Type}{kx:Ex->Sy->Option R}(f:FitR t r){w1 w3:List KvS}{w2 w4:Int}{c:List KvS->Int->List KvS->Int->Option R}(h2:∀l e m g,kx (.exit 2) (r,pkV t r,(Hf (pkV t r)).1,t.cols,(t.cols.length:Int),(t.cols.length:Int),t,w1,w2,w3,w4,l,e,m,g)=c l e m g)(k:Nat)(hk : 200<k) :
  Aj (λrec=>M1 rec kx) k (r,pkV t r,(Hf (pkV t r)).1,t.cols,(t.cols.length:Int),0,t,w1,w2,w3,w4,[],0,[],0)=c (D8 t r t.cols r) (G5 0 (D8 t r t.cols r)) (Hj t r t.cols r) (G5 0 (Hj t r t.cols r)):=by
 have hn:=f.ncols;have hln:ln t.cols.length:=by simp only[ln];omega
 refine(C9 (β:=(List KvS×Int)×(List KvS×Int)) t.cols.length (λi a=>(r,pkV t r,(Hf (pkV t r)).1,t.cols,(t.cols.length:Int),(i:Int),t,w1,w2,w3,w4,a.1.1,a.1.2,a.2.1,a.2.2)) (λi a=>a.1.1.length<=i/\a.2.1.length<=i) (λi a=>c (a.1.1++D8 t r (t.cols.drop i) (r.drop i)) (G5 a.1.2 (D8 t r (t.cols.drop i) (r.drop i))) (a.2.1++Hj t r (t.cols.drop i) (r.drop i)) (G5 a.2.2 (Hj t r (t.cols.drop i) (r.drop i)))) (λi hi a ha rec hr =>?_) (λa _ rec =>?_) k 0 (([],0),([],0)) (Nat.zero_le _) (by omega) ⟨by simp,by simp⟩).trans (by rw[Zq1,Zq1];rfl)
 ·have hi2:i<r.length:=by rw[f.len];exact hi
  have hx:=List.getElem_mem hi;have hv:=List.getElem_mem hi2;have m1:∀l:List KvS,l.length<=i->decide (l.length+1<=Ah)=true:=λl hl=>Ze1 (by simp only[Ah];omega);have cu:cut r (i:Int) ((i+1:Nat):Int)=[r[i]]:=by simp[cut,List.take_one,hi2]
  have cb:upto (i:Int) ((i+1:Nat):Int) r.length=true:=by simp[upto];omega
  simp only[M1,Ea hi,Af,As hi,As hi2,chk,Al (c :=.col) hi,Al (c :=.val) hi2,An hi hln,Ak hi,Ak hi2,D8,Hj,cu,cb];by_cases h1:r[i].kind=1
  ·rw[Ze1 h1];simp only[Af,Zt1,Bool.and_false,Ag];exact hr a ⟨by omega,by omega⟩
  ·rw[Zd1 h1];simp only[Ag,Zs1,Bool.and_true];have eu:nxE a.1.2 (W7 t r t.cols[i] r[i])=cond (decide (a.1.2=0)) (cond (decide (200<((W7 t r t.cols[i] r[i]).key.length:Int))) 3 (cond (decide (4000<((Hf (pkV t r)).1.length:Int))) 3 0)) a.1.2:=Bkt _ _ _;have er:nxE a.2.2 (Aci t r t.cols[i] r[i])=cond (decide (a.2.2=0)) (cond (decide (200<((Aci t r t.cols[i] r[i]).key.length:Int))) 3 0) a.2.2:=Bf1 _ _;have e2:W7 t r t.cols[i] r[i]=⟨(W7 t r t.cols[i] r[i]).key,(Hf (pkV t r)).1⟩:=rfl;have e3:Aci t r t.cols[i] r[i]=⟨(Aci t r t.cols[i] r[i]).key,[]⟩:=rfl;simp only[m1 _ ha.1,m1 _ ha.2,I3 (show [[117],t.name,t.cols[i].name].length<=4000 by simp),I3 (show [[102],t.cols[i].ref].length<=4000 by simp),I3 (show [t.name,t.cols[i].name].length<=4000 by simp),Zc1,Zw1,List.map_nil,Bhk f hx hv,decide_true,Af];by_cases h3:t.cols[i].ref=[]
   ·rw[Ze1 h3];simp only[Zt1,Ag];cases t.cols[i].unique with|false=>exact hr a ⟨by omega,by omega⟩|true =>have hr':=hr ((a.1.1++[W7 t r t.cols[i] r[i]],nxE a.1.2 (W7 t r t.cols[i] r[i])),a.2) ⟨by simp;omega,by simp only;omega⟩;simp only[Zj1,List.singleton_append] at hr';simp only[Af,G5];rw[<-hr',eu,<-e2];cases decide (a.1.2=0)<;>cases decide (200<((W7 t r t.cols[i] r[i]).key.length:Int))<;>cases decide (4000<((Hf (pkV t r)).1.length:Int))<;>rfl
   ·rw[Zd1 h3];simp only[Zs1,Af,Bij f hx h3 hv,Zc1,decide_true];cases t.cols[i].unique with|false =>have hr':=hr (a.1,(a.2.1++[Aci t r t.cols[i] r[i]],nxE a.2.2 (Aci t r t.cols[i] r[i]))) ⟨by simp only;omega,by simp;omega⟩;simp only[Zj1,List.singleton_append] at hr';simp only[Ag,G5];rw[<-hr',er,<-e3];cases decide (a.2.2=0)<;>cases decide (200<((Aci t r t.cols[i] r[i]).key.length:Int))<;>rfl|true =>have hr':=hr ((a.1.1++[W7 t r t.cols[i] r[i]],nxE a.1.2 (W7 t r t.cols[i] r[i])),(a.2.1++[Aci t r t.cols[i] r[i]],nxE a.2.2 (Aci t r t.cols[i] r[i]))) ⟨by simp;omega,by simp;omega⟩;simp only[Zj1,List.singleton_append] at hr';simp only[Af,G5];rw[<-hr',eu,er,<-e2,<-e3];cases decide (a.1.2=0)<;>cases decide (200<((W7 t r t.cols[i] r[i]).key.length:Int))<;>cases decide (4000<((Hf (pkV t r)).1.length:Int))<;>cases decide (a.2.2=0)<;>cases decide (200<((Aci t r t.cols[i] r[i]).key.length:Int))<;>rfl
 ·simp only[M1,Ee,Ag,h2];rw[Zk1 (Zn1 _)];simp only[D8,Hj,List.append_nil,G5]
end
theorem Aj4:∀l:List KvS,G5 3 l=3
 |[]=>rfl
 |_::l=>Aj4 l
theorem T9:∀l:List KvS,G5 0 l=cond (l.all Ahr) 0 3
 |[]=>rfl
 |p::l=>by simp only[G5,nxE,eKv,decide_true,Af,Zv1];cases Ahr p with|true=>exact T9 l|false=>exact Aj4 l
section
variable {t:Tbl}{r:List Val}
theorem Afy:∀(cs:List Col) (vs:List Val),(D8 t r cs vs).length<=cs.length
 |[],_=>by simp[D8]
 |_::_,[]=>by simp[D8]
 |c::cs,v::vs=>by have:=Afy cs vs;simp only[D8,Zf1];cases c.unique && !decide (v.kind=1)<;>simp<;>omega
theorem Afz:∀(cs:List Col) (vs:List Val),(Hj t r cs vs).length<=cs.length
 |[],_=>by simp[Hj]
 |_::_,[]=>by simp[Hj]
 |c::cs,v::vs=>by have:=Afz cs vs;simp only[Hj,Zf1];cases !decide (c.ref=[]) && !decide (v.kind=1)<;>simp<;>omega
def G6(r:List Val):Prop:=∀v,v∈r->inI v.n=true
theorem A5s(f:FitR t r)(hb:G6 r)(k:Nat)(hk : 200<k):O2 k (t,r)=some (⟨[Cs t r],eKv (Cs t r)⟩,⟨t.idx.map (Jp t r),G5 0 (t.idx.map (Jp t r))⟩,⟨D8 t r t.cols r,G5 0 (D8 t r t.cols r)⟩,⟨Hj t r t.cols r,G5 0 (Hj t r t.cols r)⟩):=by
 have h1:=f.nkey;have h2:=f.ncols;have h3:=f.len;have h4:=Rz f;have w1:Ax3 r=some (Hf r):=A8d (by omega) hb;have w2:Ax3 (pkV t r)=some (Hf (pkV t r)):=A8d (by omega) (Vn f f.key _ hb);have j:∀q:Int,Aj (λrec=>Nr rec (λe vz=>match vz with|(v5,v6,_,_,_,a,b,d,g,h,i,m,n,o)=>match e with
    |.exit 0 =>
     (Ax3 v6).bind λ(p,_) =>
     Aj (λrec=>M1 rec (λe vz=>match vz with|(_,_,_,_,_,_,_,s,u,v,w,x,y,z,a0)=>match e with
      |.exit 2 =>
      some ((LayS.mk s u),(LayS.mk v w),(LayS.mk x y),(LayS.mk z a0))
      |_=>none)) k (v5,v6,p,a.cols,(a.cols.length:Int),0,a,b,d,g,h,i,m,n,o)
    |_=>none)) k (r,pkV t r,t.idx,(t.idx.length:Int),0,t,[Cs t r],q,[],0,[],0,[],0)=some (⟨[Cs t r],q⟩,⟨t.idx.map (Jp t r),G5 0 (t.idx.map (Jp t r))⟩,⟨D8 t r t.cols r,G5 0 (D8 t r t.cols r)⟩,⟨Hj t r t.cols r,G5 0 (Hj t r t.cols r)⟩):=λq=>by
  refine Ar2 f (c:=λl e=>some (LayS.mk [Cs t r] q,LayS.mk l e,LayS.mk (D8 t r t.cols r) (G5 0 (D8 t r t.cols r)),LayS.mk (Hj t r t.cols r) (G5 0 (Hj t r t.cols r)))) (λl e =>?_) k hk;simp only[w2,Zc1];exact As1 f (c:=λl2 e2 l3 e3=>some (LayS.mk [Cs t r] q,LayS.mk l e,LayS.mk l2 e2,LayS.mk l3 e3)) (λ_ _ _ _=>rfl) k hk
 have e1:Al8 t r t.key=some (pkV t r,(C4 t.cols r t.key []).2):=A0t (by omega) h3;have e2:Cs t r=⟨(Cs t r).key,(Hf r).1⟩:=rfl;have e3:eKv (Cs t r)=nxE 0 (Cs t r):=rfl;have e4:nxE 0 (Cs t r)=cond (decide ((0:Int)=0)) (cond (decide (200<((Cs t r).key.length:Int))) 3 (cond (decide (4000<((Hf r).1.length:Int))) 3 0)) 0:=Bkt _ _ _;rw[e3,e4];simp only[O2,e1,Zc1,w1,I3 (show [[114],t.name].length<=4000 by simp),Zw1,List.map_nil,Bl0 f,decide_true,Af];rw[<-e2];cases decide (200<((Cs t r).key.length:Int)) with
 |true=>exact j 3
 |false =>cases decide (4000<((Hf r).1.length:Int)) with|true=>exact j 3|false=>exact j 0
def Gg(t:Tbl)(r:List Val):List KvS:=Cs t r::(t.idx.map (Jp t r)++(D8 t r t.cols r++Hj t r t.cols r))
def Al5(t:Tbl)(r:List Val):List KvS×Int:=cond (decide (Ec t r=0)) (cond ((Gg t r).all Ahr) (Gg t r,0) ([],3)) ([],Ec t r)
def Bbq:List LayS->List KvS->Option (List KvS×Int)
 |[],acc=>some (acc,0)
 |y::l,acc=>cond (decide (y.e=0)) (Bbq l (acc++y.l)) (some ([],y.e))
theorem Bg2(a:KvS)(x y z:List KvS)(b1 b2 b3 b4:Bool):Bbq [⟨[a],cond b1 0 3⟩,⟨x,cond b2 0 3⟩,⟨y,cond b3 0 3⟩,⟨z,cond b4 0 3⟩] []=some (cond (b1&&(b2&&(b3&&b4))) (a::(x++(y++z)),0) ([],3)):=by cases b1<;>cases b2<;>cases b3<;>cases b4<;>simp[Bbq]
theorem Baw{l:List LayS}(hl:l.length<=100)(hs:∀y,y∈l->y.l.length<=200){kx:Ex->Aah->Option (List KvS×Int)}(h1:∀e acc i,kx .ret ([],e,acc,l,(l.length:Int),i)=some ([],e))(h2:∀acc,kx (.exit 0) ([],0,acc,l,(l.length:Int),(l.length:Int))=some (acc,0))(k:Nat)(hk : 200<k) :
  Aj (λrec=>Aco rec kx) k ([],0,[],l,(l.length:Int),0)=Bbq l []:=by
 have hln:ln l.length:=by simp only[ln];omega
 refine(C9 (β:=List KvS) l.length (λi acc=>([],0,acc,l,(l.length:Int),(i:Int))) (λi acc=>acc.length<=200*i) (λi acc=>Bbq (l.drop i) acc) (λi hi acc ha rec hr =>?_) (λacc _ rec =>?_) k 0 [] (Nat.zero_le _) (by omega) (by simp)).trans (by rw[Zq1])
 ·have hy:=hs _ (List.getElem_mem hi);simp only[Aco,Ea hi,Af,As hi,chk,Al (c :=.lay) hi,An hi hln,Ak hi,Bbq];rw[Ze1 (show acc.length+l[i].l.length<=Ah by simp only[Ah];omega),Af];cases decide (l[i].e=0) with|true=>exact hr _ (by rw[Zh1];omega)|false=>exact h1 _ _ _
 ·simp only[Aco,Ee,Ag,h2];rw[Zk1 (Zn1 _)];rfl
theorem Bti(hf:O9 t r=some (Ec t r))(hb:G6 r)(k:Nat)(hk : 200<k):Ru k (t,r)=some (Al5 t r):=by
 simp only[Ru,hf,Zc1,Al5];by_cases h0:Ec t r=0
 ·have f:=N0 h0;have l1:=f.nidx;have l2:=Afy (t:=t) (r:=r) t.cols r;have l3:=Afz (t:=t) (r:=r) t.cols r;have l4:=f.ncols;rw[Ze1 h0,Zt1,Ag,Af,Av4,A5s f hb 5000 (by omega),Zc1];refine(Baw (l:=[⟨[Cs t r],eKv (Cs t r)⟩,⟨t.idx.map (Jp t r),G5 0 (t.idx.map (Jp t r))⟩,⟨D8 t r t.cols r,G5 0 (D8 t r t.cols r)⟩,⟨Hj t r t.cols r,G5 0 (Hj t r t.cols r)⟩]) (by simp) (λy hy =>?_) (λ_ _ _=>rfl) (λ_=>rfl) k hk).trans ?_
  ·simp only[List.mem_cons,List.not_mem_nil,or_false] at hy;rcases hy with rfl|rfl|rfl|rfl
   ·simp
   ·simp only[List.length_map];omega
   ·simp only;omega
   ·simp only;omega
  ·have e:eKv (Cs t r)=cond (Ahr (Cs t r)) 0 3:=rfl;rw[e,T9,T9,T9,Bg2,Gg,Zv1,List.all_append,List.all_append]
 ·rw[Zd1 h0];rfl
theorem Brc(hf:O9 t r=some (Ec t r))(hb:G6 r):Bs8 t r=some (Al5 t r):=Bti hf hb 5000 (by omega)
end
def Akb(a:Nat)(b:Str):Nat:=b.foldl (λa c=>a*256+c.toNat) a
def Vi(b:Str):Nat:=Akb 0 b
theorem Ahl(a:Nat)(c:UInt8)(l:Str):Akb a (c::l)=Akb (a*256+c.toNat) l:=rfl
theorem Bd6(l:Str):∀a:Nat,Akb a l=a*256 ^ l.length+Vi l:=by induction l with|nil=>intro a;simp[Vi,Akb]|cons c l ih =>intro a;simp only[Vi,Ahl,Zf1] at ih ⊢;rw[ih,ih (0*256+c.toNat),Nat.pow_succ];simp only[Nat.add_mul,Nat.zero_mul,Nat.zero_add];rw[Nat.mul_assoc,Nat.mul_comm 256 (256 ^ l.length),Nat.add_assoc]
theorem Ada(c:UInt8)(l:Str):Vi (c::l)=c.toNat*256 ^ l.length+Vi l:=by have:=Bd6 l (0*256+c.toNat);simp only[Nat.zero_mul,Nat.zero_add] at this;rw[<-this,Vi,Ahl,Nat.zero_mul,Nat.zero_add]
theorem As0:∀l:Str,Vi l<256 ^ l.length
 |[]=>by simp[Vi,Akb]
 |c::l=>by have h1:=As0 l;have h2:=c.toNat_lt;have h3:c.toNat*256 ^ l.length<=255*256 ^ l.length:=Nat.mul_le_mul_right _ (by omega);rw[Ada,Zf1,Nat.pow_succ];omega
theorem Qw:∀a x y:Str,Cr (a++x) (a++y)=Cr x y
 |[],_,_=>rfl
 |c::a,x,y=>by have ih:=Qw a x y;simp only[Cr,Zb2,Lib.compareBytes] at ih ⊢;rw[if_neg (UInt8.lt_irrefl _),if_neg (UInt8.lt_irrefl _)];exact ih
theorem Iu{c d:UInt8}(h:c<d)(x y:Str):Cr (c::x) (d::y) = -1:=by simp only[Cr,Lib.compareBytes];rw[if_pos h]
theorem I0{c d:UInt8}(h:d<c)(x y:Str):Cr (c::x) (d::y)=1:=by simp only[Cr,Lib.compareBytes];rw[if_neg (UInt8.lt_asymm h),if_pos h]
theorem Gk(c:UInt8)(x y:Str):Cr (c::x) (c::y)=Cr x y:=Qw [c] x y
theorem Ayr(d:UInt8)(y:Str):Cr [] (d::y) = -1:=rfl
theorem Amx(d:UInt8)(y:Str):Cr (d::y) []=1:=rfl
theorem A4m(c d:UInt8):c<d\/c=d\/d<c:=by
 rcases Nat.lt_trichotomy c.toNat d.toNat with h|h|h
 ·exact .inl h
 ·exact .inr (.inl (UInt8.toNat_inj.1 h))
 ·exact .inr (.inr h)
theorem Awv:∀(p q x y:Str),p.length=q.length->Cr (p++x) (q++y)=if Vi p=Vi q then Cr x y else if Vi p<Vi q then -1 else 1
 |[],[],x,y,_=>by simp
 |[],_::_,_,_,h=>by cases h
 |_::_,[],_,_,h=>by cases h
 |c::p,d::q,x,y,h=>by
  simp only[Zf1,Nat.add_right_cancel_iff] at h;have h':=h;have hp:=As0 p;have hq:=As0 q;rw[<-h] at hq;rw[Ada,Ada,Zb2,Zb2,<-h];rcases A4m c d with hc|rfl|hc
  ·have h1:c.toNat+1<=d.toNat:=hc;have h2:(c.toNat+1)*256 ^ p.length<=d.toNat*256 ^ p.length:=Nat.mul_le_mul_right _ h1;rw[Nat.add_mul,Nat.one_mul] at h2;rw[Iu hc,if_neg (by omega),if_pos (by omega)]
  ·rw[Gk,Awv p q x y h'];simp only[Nat.add_left_cancel_iff,Nat.add_lt_add_iff_left]
  ·have h1:d.toNat+1<=c.toNat:=hc;have h2:(d.toNat+1)*256 ^ p.length<=c.toNat*256 ^ p.length:=Nat.mul_le_mul_right _ h1;rw[Nat.add_mul,Nat.one_mul] at h2;rw[I0 hc,if_neg (by omega),if_neg (by omega)]
theorem Bbw{x:Nat}(h:x<18446744073709551616):Vi (Ajt x)=x:=by
 have e:∀s,(Bt x s).toNat=x / 2 ^ s % 256:=λs=>by simp[Bt]
 simp only[Ajt,Vi,Akb,List.foldl_cons,List.foldl_nil,e];simp only[show(2:Nat) ^ 56=72057594037927936 from rfl,show(2:Nat) ^ 48=281474976710656 from rfl,show(2:Nat) ^ 40=1099511627776 from rfl,show(2:Nat) ^ 32=4294967296 from rfl,show(2:Nat) ^ 24=16777216 from rfl,show(2:Nat) ^ 16=65536 from rfl,show(2:Nat) ^ 8=256 from rfl,Nat.pow_zero];omega
theorem Az5{n:Int}(h:inI n):(Vi (Arz n):Int)=n+9223372036854775808:=by simp only[inI] at h;rw[Arz,Bbw (by omega)];omega
theorem Xo{v:Val}(h:v.kind=4\/v.kind=5):Hc v=esc v.s++[0,1]:=by rcases h with h|h<;>simp[Hc,h]
theorem Az9:∀(s t x y:Str),Cr (esc s++0::1::x) (esc t++0::1::y)=if s=t then Cr x y else Cr s t
 |[],[],x,y=>by rw[if_pos rfl];exact Qw [0,1] x y
 |[],c::t,x,y=>by
  rw[if_neg (by simp),Ayr];by_cases hc:c=0
  ·subst hc;rw[Jx,Agc,Zf2,Zb2,Zb2,Gk,Iu (by decide)]
  ·rw[F9 hc,Agc,Zf2,Zb2,Iu (UInt8.pos_iff_ne_zero.2 hc)]
 |c::s,[],x,y=>by
  rw[if_neg (by simp),Amx];by_cases hc:c=0
  ·subst hc;rw[Jx,Agc,Zf2,Zb2,Zb2,Gk,I0 (by decide)]
  ·rw[F9 hc,Agc,Zf2,Zb2,I0 (UInt8.pos_iff_ne_zero.2 hc)]
 |c::s,d::t,x,y=>by
  have ih:=Az9 s t x y;by_cases hcd:c=d
  ·subst hcd;have e:Cr (esc (c::s)++0::1::x) (esc (c::t)++0::1::y)=Cr (esc s++0::1::x) (esc t++0::1::y):=by
    by_cases hc:c=0
    ·subst hc;rw[Jx,Jx];exact Qw [0,255] _ _
    ·rw[F9 hc,F9 hc];exact Qw [c] _ _
   rw[e,ih,Gk];simp
  ·rw[if_neg (by simp[hcd])];have hlt:∀(c d:UInt8) (s t:Str),c<d->∀x y,Cr (esc (c::s)++x) (esc (d::t)++y) = -1:=λc d s t h x y=>by
    have hd:d≠0:=UInt8.pos_iff_ne_zero.1 (UInt8.lt_of_le_of_lt (UInt8.zero_le) h);rw[F9 hd];by_cases hc:c=0
    ·subst hc;rw[Jx];exact Iu h _ _
    ·rw[F9 hc];exact Iu h _ _
   have hgt:∀(c d:UInt8) (s t:Str),d<c->∀x y,Cr (esc (c::s)++x) (esc (d::t)++y)=1:=λc d s t h x y=>by
    have hd:c≠0:=UInt8.pos_iff_ne_zero.1 (UInt8.lt_of_le_of_lt (UInt8.zero_le) h);rw[F9 hd];by_cases hc:d=0
    ·subst hc;rw[Jx];exact I0 h _ _
    ·rw[F9 hc];exact I0 h _ _
   rcases A4m c d with h|h|h
   ·rw[hlt c d s t h,Iu h]
   ·exact absurd h hcd
   ·rw[hgt c d s t h,I0 h]
theorem Au4{a b:Int}(h:a<b):Dj a b = -1:=by simp[Dj,h]
theorem Azm{a b:Int}(h:b<a):Dj a b=1:=by
 have:¬a<b:=by omega
 simp[Dj,h,this]
theorem Ax4(a:Int):Dj a a=0:=by simp[Dj]
theorem Anv{v w:Val}(h:Dj v.kind w.kind≠0):Gu v w=Dj v.kind w.kind:=by simp[Gu,h]
theorem Axq{v w:Val}(h:v.kind=w.kind)(h2:Dj v.n w.n≠0):Gu v w=Dj v.n w.n:=by simp[Gu,h,h2,Ax4]
theorem Bb7{v w:Val}(h:v.kind=w.kind)(h2:v.n=w.n):Gu v w=Cr v.s w.s:=by simp[Gu,h,h2,Ax4,F2]
theorem Ah1{v:Val}(h:Aq v=true) : 1<=v.kind/\v.kind<=5:=by rcases Ei.1 h with ⟨e,_⟩|⟨e,_⟩|⟨e,_⟩|⟨e,_⟩|⟨e,_⟩<;>omega
theorem Tm{v:Val}(h:Aq v=true):(UInt8.ofNat v.kind.toNat).toNat=v.kind.toNat:=by have:=Ah1 h;simp;omega
theorem Bj3{v w:Val}(hv:Aq v=true)(hw:Aq w=true)(nv:inI v.n)(nw:inI w.n)(x y:Str):Cr (L1 v++x) (L1 w++y)=if v=w then Cr x y else Gu v w:=by
 have kv:=Ah1 hv;have kw:=Ah1 hw;rcases Int.lt_trichotomy v.kind w.kind with h|h|h
 ·have hne:¬v=w:=λe=>by rw[e] at h;omega
  have hs:=Au4 h;rw[if_neg hne,Anv (by rw[hs];decide),hs,L1,L1,Zb2,Zb2];refine Iu ?_ _ _;show(UInt8.ofNat v.kind.toNat).toNat<(UInt8.ofNat w.kind.toNat).toNat;rw[Tm hv,Tm hw];omega
 ·rw[L1,L1,h,Zb2,Zb2,Gk];obtain⟨k,n,s⟩:=v;obtain⟨k2,m,t⟩:=w;simp only at h;subst h;rcases Ei.1 hv with ⟨e,e1,e2⟩|⟨e,e1,e2⟩|⟨e,e1⟩|⟨e,h1,h2,h3⟩|⟨e,h1,h2⟩
  ·simp only at e e1 e2;subst e e1 e2;rcases Ei.1 hw with ⟨_,e3,e4⟩|⟨q,_⟩|⟨q,_⟩|⟨q,_⟩|⟨q,_⟩
   ·simp only at e3 e4;subst e3 e4;rw[if_pos rfl];rfl
   all_goals cases q
  ·simp only at e e1 e2;subst e e2;rcases Ei.1 hw with ⟨q,_⟩|⟨_,e3,e4⟩|⟨q,_⟩|⟨q,_⟩|⟨q,_⟩
   ·cases q
   ·simp only at e3 e4;subst e4;rcases e1 with rfl|rfl<;>rcases e3 with rfl|rfl
    ·rw[if_pos rfl];exact Gk 0 x y
    ·exact Iu (c:=0) (d:=1) (by decide) x y
    ·exact I0 (c:=1) (d:=0) (by decide) x y
    ·rw[if_pos rfl];exact Gk 1 x y
   all_goals cases q
  ·simp only at e e1 nv nw;subst e e1;rcases Ei.1 hw with ⟨q,_⟩|⟨q,_⟩|⟨_,e4⟩|⟨q,_⟩|⟨q,_⟩
   ·cases q
   ·cases q
   ·simp only at e4;subst e4;have p1:Hc ⟨3,n,[]⟩=Arz n:=rfl;have p2:Hc ⟨3,m,[]⟩=Arz m:=rfl;rw[p1,p2,Awv (Arz n) (Arz m) x y rfl];have q1:=Az5 nv;have q2:=Az5 nw;rcases Int.lt_trichotomy n m with h|rfl|h
    ·have hs:=Au4 h;rw[if_neg (by omega),if_pos (by omega),if_neg (by simp;omega),Axq (v:=⟨3,n,[]⟩) (w:=⟨3,m,[]⟩) rfl (by simp only[hs];decide)];exact hs.symm
    ·rw[if_pos rfl,if_pos rfl]
    ·have hs:=Azm h;rw[if_neg (by omega),if_neg (by omega),if_neg (by simp;omega),Axq (v:=⟨3,n,[]⟩) (w:=⟨3,m,[]⟩) rfl (by simp only[hs];decide)];exact hs.symm
   all_goals cases q
  all_goals
   simp only at e h1;subst e h1;have m0:m=0:=by
    rcases Ei.1 hw with ⟨q,_⟩|⟨q,_⟩|⟨q,_⟩|⟨_,q,_⟩|⟨_,q,_⟩;any_goals exact q
    all_goals cases q
   subst m0;rw[Xo (by simp),Xo (by simp),Zj1,Zj1];refine(Az9 s t x y).trans ?_;rw[show ∀k:Int,Gu ⟨k,0,s⟩ ⟨k,0,t⟩=Cr s t fromλk=>Bb7 rfl rfl];by_cases hst:s=t
   ·subst hst;rw[if_pos rfl,if_pos rfl]
   ·rw[if_neg hst,if_neg (by simp[hst])]
 ·have hne:¬v=w:=λe=>by rw[e] at h;omega
  have hs:=Azm h;rw[if_neg hne,Anv (by rw[hs];decide),hs,L1,L1,Zb2,Zb2];refine I0 ?_ _ _;show(UInt8.ofNat w.kind.toNat).toNat<(UInt8.ofNat v.kind.toNat).toNat;rw[Tm hv,Tm hw];omega
theorem A8a{v w:Val}(h:¬v=w):Gu v w≠0:=λe=>h ((vcmp_lin.eq _ _).1 e)
theorem Am9(v:Val)(l:List Val):E4 (v::l)=L1 v++E4 l:=by simp[E4]
theorem Ayx:∀(a b:List Val) (x y:Str),a.length=b.length->a.all Aq=true->b.all Aq=true->(∀v,v∈a->inI v.n)->(∀v,v∈b->inI v.n)->Cr (E4 a++x) (E4 b++y)=if a=b then Cr x y else Hn Gu a b
 |[],[],x,y,_,_,_,_,_=>by rw[if_pos rfl];rfl
 |[],_::_,_,_,h,_,_,_,_=>by cases h
 |_::_,[],_,_,h,_,_,_,_=>by cases h
 |v::a,w::b,x,y,h,ra,rb,na,nb=>by
  simp only[Zv1,Zb1] at ra rb;rw[Am9,Am9,Zj1,Zj1,Bj3 ra.1 rb.1 (na v (by simp)) (nb w (by simp))];simp only[Zf1,Nat.add_right_cancel_iff] at h;by_cases hvw:v=w
  ·subst hvw;rw[if_pos rfl,Ayx a b x y h ra.2 rb.2 (λu hu=>na u (by simp[hu])) (λu hu=>nb u (by simp[hu]))];have e0:Gu v v=0:=(vcmp_lin.eq _ _).2 rfl;simp only[Ze2,true_and,Hn,e0,Fy,if_true]
  ·rw[if_neg hvw,if_neg (by simp[hvw])];simp only[Hn,Fy];rw[if_neg (A8a hvw)]
def Hp(t:T)(l:List KvS):T:=l.foldl (λt p=>t.put (nib p.key) p.val) t
def Bb8(p:KvS):Prop:=p.key.length<=200/\p.val.length<=4000
theorem Amw:∀{l:List KvS}{t:T},t.Wf 0->(∀p,p∈l->Bb8 p)->(Hp t l).Wf 0
 |[],t,h,_=>h
 |p::l,t,h,hl=>Amw (l:=l) (Bk9 h (hl p (by simp)).1 (hl p (by simp)).2) λq hq=>hl q (by simp[hq])
theorem Ad0:∀(l:List KvS) (t:T),(Hp t l).size<=t.size+l.length
 |[],t=>Zn1 _
 |p::l,t=>by have h1:=Ad0 l (t.put (nib p.key) p.val);have h2:=Alh t (nib p.key) p.val;simp only[Hp,List.foldl_cons,Zf1] at h1 ⊢;omega
theorem Ai1:∀(l:List KvS) (t:T) (k:Str),(Hp t l).get k=match l.reverse.find? (λp=>decide (p.key=k)) with|some p=>some p.val|none=>t.get k
 |[],t,k=>rfl
 |p::l,t,k=>by
  have ih:=Ai1 l (t.put (nib p.key) p.val) k;simp only[Hp,List.foldl_cons] at ih ⊢;rw[ih,List.reverse_cons,List.find?_append];cases l.reverse.find? (λp=>decide (p.key=k)) with
  |some q=>rfl
  |none =>
   simp only[Option.none_or,List.find?_cons,List.find?_nil,Brn];by_cases e:k=p.key
   ·simp[e]
   ·simp[e,Ne.symm e]
def P5(t:T):List KvS->Option Nat
 |[]=>none
 |p::l=>if(t.get p.key).isSome then some 0 else(P5 t l).map (·+1)
theorem Apo{R:Type}{kx:Ex->Yq->Option R}{t:T}{l v1:List KvS}{g:List NodeS}{h:Str}(hw:t.Wf 0)(hl:l.length<=100000)(hk:∀p,p∈l->p.key.length<=200):∀(k i:Nat),i<=l.length->l.length-i<k ->
  Aj (λrec=>Ado rec kx) k (0,v1,l,(l.length:Int),(i:Int),t.node.kind,t.node.path,t.node.has,t.node.val,t.node.kids,t.node.hash,g,h)=match P5 t (l.drop i) with|none=>kx (.exit 0) (0,v1,l,(l.length:Int),(l.length:Int),t.node.kind,t.node.path,t.node.has,t.node.val,t.node.kids,t.node.hash,g,h)|some j=>kx .ret (if i+j=0 then 180 else 181,v1,l,(l.length:Int),((i+j:Nat):Int),t.node.kind,t.node.path,t.node.has,t.node.val,t.node.kids,t.node.hash,g,h)
 |0,_,_,hk=>by omega
 |k+1,i,hi,hkk=>by
  rw[Ay];by_cases hlt:i<l.length
  ·have c1:(i:Int)<(l.length:Int):=by omega
   have hg:=Bqr (g:=g) (h:=h) hw (hk _ (List.getElem_mem hlt));have hg:Atc (l[i].key,t.node.kind,t.node.path,t.node.has,t.node.val,t.node.kids,t.node.hash,g,h)=_:=hg;simp only[Ado,c1,decide_true,Af,As hlt,chk,Al (c :=.kv) hlt,hg,Zc1,Zt1,Ag,An hlt (show ln l.length by simp[ln];omega)];rw[List.drop_eq_getElem_cons hlt];simp only[P5];cases hs:(t.get l[i].key).isSome with
   |true =>
    simp only[Af,if_true,Nat.add_zero];by_cases e:i=0
    ·simp only[e,if_true];rfl
    ·have e2:¬((i:Int)=0):=by omega
     simp only[e,e2,decide_false,Ag,if_false]
   |false =>simp only[Ag,Zj2,if_false];rw[Apo (kx:=kx) hw hl hk k (i+1) (by omega) (by omega)];cases P5 t (l.drop (i+1)) with|none=>rfl|some j=>simp only[Zl2,show i+1+j=i+(j+1) by omega]
  ·have e:i=l.length:=by omega
   subst e;have c1:¬(l.length:Int)<(l.length:Int):=by omega
   simp only[Ado,c1,decide_false,Ag,Zc2,P5]
theorem Aqm{R:Type}{kx:Ex->Z9->Option R}{l:List KvS}{z:Int}{g:List NodeS}{h:Str}(hl:l.length<=100000)(hk:∀p,p∈l->Bb8 p):∀(k i:Nat) (t:T),t.Wf 0->i<=l.length->l.length-i<k ->
  Aj (λrec=>Ach rec kx) k (z,l,(l.length:Int),(i:Int),t.node.kind,t.node.path,t.node.has,t.node.val,t.node.kids,t.node.hash,g,h)=kx (.exit 3) (z,l,(l.length:Int),(l.length:Int),(Hp t (l.drop i)).node.kind,(Hp t (l.drop i)).node.path,(Hp t (l.drop i)).node.has,(Hp t (l.drop i)).node.val,(Hp t (l.drop i)).node.kids,(Hp t (l.drop i)).node.hash,g,h)
 |0,_,_,_,_,hk=>by omega
 |k+1,i,t,hw,hi,hkk=>by
  rw[Ay];by_cases hlt:i<l.length
  ·have c1:(i:Int)<(l.length:Int):=by omega
   have ho:=hk _ (List.getElem_mem hlt);have hp:=Boz (g:=g) (h:=h) hw ho.1 ho.2;have hp:As2 (l[i].key,l[i].val,t.node.kind,t.node.path,t.node.has,t.node.val,t.node.kids,t.node.hash,g,h)=_:=hp;simp only[Ach,c1,decide_true,Af,As hlt,chk,Al (c :=.kv) hlt,hp,Zc1,Zt1,Ag,An hlt (show ln l.length by simp[ln];omega)];rw[Aqm (kx:=kx) hl hk k (i+1) _ (Bk9 hw ho.1 ho.2) (by omega) (by omega),List.drop_eq_getElem_cons hlt];rfl
  ·have e:i=l.length:=by omega
   subst e;have c1:¬(l.length:Int)<(l.length:Int):=by omega
   simp only[Ach,c1,decide_false,Ag,Zc2];rfl
theorem Bnh{a b:List KvS}(ha:a.length<=500000)(hb:b.length<=500000):Bqb [a,b]=some (a++b):=by
 have d1:decide ((0:Int)<(([a,b].length:Nat):Int))=true:=rfl;have d2:decide ((1:Int)<(([a,b].length:Nat):Int))=true:=rfl;have d3:decide ((2:Int)<(([a,b].length:Nat):Int))=false:=rfl;have w1:wr .i64 (0+1)=1:=by decide
 have w2:wr .i64 (1+1)=2:=by decide
 have a0:at' .kvs [a,b] 0=a:=rfl;have a1:at' .kvs [a,b] 1=b:=rfl;have i0:inb 0 [a,b].length=true:=rfl;have i1:inb 1 [a,b].length=true:=rfl;have s1:wr .i64 (0+(a.length:Int))=(a.length:Int):=by rw[B3 (by simp only[inI];omega)];omega
 have s2:wr .i64 ((a.length:Int)+(b.length:Int))=((a.length+b.length:Nat):Int):=by rw[B3 (by simp only[inI];omega)];omega
 have p1:decide ((a.length:Int)<0)=false:=Zd1 (by omega);have p2:decide (((a.length+b.length:Nat):Int)<0)=false:=Zd1 (by omega);have q1:decide ((0:Int)<=((a.length+b.length:Nat):Int))=true:=Ze1 (by omega);have q2:decide (((a.length+b.length:Nat):Int)<=2000000)=true:=Ze1 (by omega);have m1:decide (([]:List KvS).length+a.length<=Ah)=true:=Ze1 (by simp only[Ah,Zi1];omega);have m2:decide (([]++a:List KvS).length+b.length<=Ah)=true:=Ze1 (by simp only[Ah,Zf2];omega);have go0:∀{R:Type}(kx:Ex->Aaf->Option R),Aj (λrec=>Wy rec kx) 100 ([a,b],0,[a,b],(([a,b].length:Nat):Int),0)=kx (.exit 0) ([a,b],((a.length+b.length:Nat):Int),[a,b],(([a,b].length:Nat):Int),2):=λkx=>by rw[show(100:Nat)=97+1+1+1 from rfl,Ay];simp only[Wy,d1,Af,i0,chk,a0,s1,p1,Ag,w1];rw[Ay];simp only[Wy,d2,Af,i1,chk,a1,s2,p2,Ag,w2];rw[Ay];simp only[Wy,d3,Ag]
 have go1:∀{R:Type}(kx:Ex->Aa4->Option R),Aj (λrec=>Wd rec kx) 100 ([],[a,b],(([a,b].length:Nat):Int),0)=kx (.exit 2) ([]++a++b,[a,b],(([a,b].length:Nat):Int),2):=λkx=>by rw[show(100:Nat)=97+1+1+1 from rfl,Ay];simp only[Wd,d1,Af,i0,chk,a0,m1,w1];rw[Ay];simp only[Wd,d2,Af,i1,chk,a1,m2,w2];rw[Ay];simp only[Wd,d3,Ag]
 simp only[Bqb,Adm];rw[go0];simp only[q1,q2,Bool.and_true,chk,Af];rw[go1];simp
def Lg(tb:Tbl)(r:List Val)(t:T):Int×T:=cond (decide ((Al5 tb r).2=0)) (match P5 t (Cs tb r::D8 tb r tb.cols r) with
 |some j=>(if j=0 then 180 else 181,t)
 |none=>(0,Hp t (Gg tb r))) ((Al5 tb r).2,t)
theorem A7w{tb:Tbl}{r:List Val}(h:(Al5 tb r).2=0)(hf0:Ec tb r=0\/Ec tb r≠0):Ec tb r=0/\(Gg tb r).all Ahr=true/\Al5 tb r=(Gg tb r,0):=by
 unfold Al5 at *;cases h1:decide (Ec tb r=0) with
 |false =>rw[h1] at h;exact absurd h (of_decide_eq_false h1)
 |true =>rw[h1] at h;cases h2:(Gg tb r).all Ahr with|false=>rw[h2] at h;cases h|true=>exact⟨of_decide_eq_true h1,rfl,rfl⟩
theorem Awt{p:KvS}:Ahr p=true↔Bb8 p:=by simp[Ahr,Bb8]
theorem Bwu{tb:Tbl}{r:List Val}{t:T}{g:List NodeS}{h:Str}(hf:O9 tb r=some (Ec tb r))(hb:G6 r)(hw:t.Wf 0)(k:Nat)(hk : 600<k) :
  Mn k (tb,r,t.node.kind,t.node.path,t.node.has,t.node.val,t.node.kids,t.node.hash,g,h)=some ((Lg tb r t).1,(Lg tb r t).2.node.kind,(Lg tb r t).2.node.path,(Lg tb r t).2.node.has,(Lg tb r t).2.node.val,(Lg tb r t).2.node.kids,(Lg tb r t).2.node.hash,g,h):=by
 simp only[Mn,Brc hf hb,Zc1,Lg];cases he:decide ((Al5 tb r).2=0) with
 |false=>rfl
 |true =>
  obtain⟨h0,hok,he2⟩:=A7w (of_decide_eq_true he) (Classical.em _);have f:=N0 h0;have hp:Av4 tb r=some (⟨[Cs tb r],eKv (Cs tb r)⟩,⟨tb.idx.map (Jp tb r),G5 0 (tb.idx.map (Jp tb r))⟩,⟨D8 tb r tb.cols r,G5 0 (D8 tb r tb.cols r)⟩,⟨Hj tb r tb.cols r,G5 0 (Hj tb r tb.cols r)⟩):=A5s f hb 5000 (by omega);have ht:=Rb (T6 h0).1;have hu:=Afy (t:=tb) (r:=r) tb.cols r;have hl:(Al5 tb r).1.length<=400:=by rw[he2];have:=(Abs (T6 h0).1).2.2.1;have h3:=Afz (t:=tb) (r:=r) tb.cols r;simp only[Gg,Zf1,Zh1,List.length_map];omega
  have hall:∀p,p∈Gg tb r->Bb8 p:=λp hp=>Awt.1 (Zg2.1 hok p hp);simp only[Zt1,Ag,Af,hp,Zc1,Bnh (show [Cs tb r].length<=500000 by simp) (show(D8 tb r tb.cols r).length<=500000 by omega)];have h1:∀p,p∈[Cs tb r]++D8 tb r tb.cols r->p.key.length<=200:=λp hp=>by
   refine(hall p ?_).1;simp only[Gg,List.mem_cons,List.mem_append,List.not_mem_nil,or_false] at hp ⊢;rcases hp with hp|hp
   ·exact .inl hp
   ·exact .inr (.inr (.inl hp))
  refine(Apo hw (by simp only[Zh1,List.length_singleton];omega) h1 k 0 (by omega) (by simp only[Zh1,List.length_singleton];omega)).trans ?_;simp only[Zq1,List.singleton_append];cases P5 t (Cs tb r::D8 tb r tb.cols r) with
  |some j=>simp only[Nat.zero_add]
  |none =>
   simp only[];rw[he2];have hl:(Gg tb r).length<=400:=by rw[he2] at hl;exact hl
   refine(Aqm (by omega) hall k 0 t hw (by omega) (by omega)).trans ?_;simp only[Zq1]
theorem Btj{tb:Tbl}{r:List Val}{t:T}{g:List NodeS}{h:Str}(hf:O9 tb r=some (Ec tb r))(hb:G6 r)(hw:t.Wf 0) :
  Aug (tb,r,t.node.kind,t.node.path,t.node.has,t.node.val,t.node.kids,t.node.hash,g,h)=some ((Lg tb r t).1,(Lg tb r t).2.node.kind,(Lg tb r t).2.node.path,(Lg tb r t).2.node.has,(Lg tb r t).2.node.val,(Lg tb r t).2.node.kids,(Lg tb r t).2.node.hash,g,h):=Bwu hf hb hw 5000 (by omega)
abbrev vgR:=Int×Int×Int
def vgX:Ex->Qe->Option vgR:=λe vz=>match vz with|(_,a,b,c,_,d,_,_,_)=>match e with|.ret=>some (a,b,c)|.exit 0=>some (0,0,d)|_=>none
theorem Bqy{b:Str}{p:Nat}(hp:p<=b.length)(hb:b.length<=1000000):Amu b (p:Int)=Aj (λrec=>Nk rec vgX) 100 ((p:Int),0,0,0,0,10,b.drop p,((b.drop p).length:Int),0):=by simp only[Amu,Acz];rw[Zd1 (show ¬(p:Int)<0 by omega),Ag,Zd1 (show ¬(b.length:Int)<(p:Int) by omega),Ag,show upto (p:Int) b.length b.length=true by simp[upto,Zb1];omega];rfl
theorem A1m{n:Nat}(h:n<256):(UInt8.ofNat n).toNat=n:=by simp_all
theorem Bt2:∀c:Nat,c<256->wr .u64 (G9 .u8 (c:Int) 127)=((c % 128:Nat):Int):=by decide +kernel
theorem Bwc{x i:Nat}(hi:i<=9)(h:x*2 ^ (7*i)<18446744073709551616):Afp .u64 (x:Int) (wr .i64 (7*(i:Int)))=((x*2 ^ (7*i):Nat):Int):=by
 have e:(wr .i64 (7*(i:Int))).toNat=7*i:=by rw[B3 (by simp[inI];omega)];omega
 show wr .u64 ((x:Int)*2 ^ min (wr .i64 (7*(i:Int))).toNat IntKind.u64.bits)=_;rw[e,Nat.min_eq_left (by simp[IntKind.bits];omega),<-Adj h];simp
theorem Bw5{a x i:Nat}(ha:a<2 ^ (7*i))(h:a+x*2 ^ (7*i)<18446744073709551616):ior .u64 (a:Int) ((x*2 ^ (7*i):Nat):Int)=((a+x*2 ^ (7*i):Nat):Int):=by
 have e3:(BitVec.ofInt 64 ((x*2 ^ (7*i):Nat):Int)).toNat=x*2 ^ (7*i):=by simp only[BitVec.toNat_ofInt];omega
 have e4:(BitVec.ofInt 64 (a:Int)).toNat=a:=by simp only[BitVec.toNat_ofInt];omega
 have e5:a ||| x*2 ^ (7*i)=a+x*2 ^ (7*i):=by have:=Nat.shiftLeft_add_eq_or_of_lt (i:=7*i) (b:=a) ha x;rw[Nat.shiftLeft_eq] at this;rw[Nat.or_comm,<-this];omega
 show IntKind.wrap .u64 (((BitVec.ofInt 64 (a:Int) ||| BitVec.ofInt 64 ((x*2 ^ (7*i):Nat):Int)).toNat:Nat):Int)=_;rw[BitVec.toNat_or,e3,e4,e5];exact Adj h
theorem Aws{p:Int}{a i:Nat}{l:Str}(hi:i<l.length)(h9:i<=9)(hl:ln l.length)(ha:a<2 ^ (7*i))(hx:a+(l[i].toNat % 128)*2 ^ (7*i)<18446744073709551616)(rec:Qe->Option vgR) :
  Nk rec vgX (p,0,0,0,(a:Int),10,l,(l.length:Int),(i:Int))=if(i=9/\1<l[i].toNat)\/(l[i].toNat=0/\0<i) then some (0,0,11) else if l[i].toNat<128 then some (((a+(l[i].toNat % 128)*2 ^ (7*i):Nat):Int),wr .i64 (wr .i64 (p+i)+1),0) else rec (p,0,0,0,((a+(l[i].toNat % 128)*2 ^ (7*i):Nat):Int),10,l,(l.length:Int),((i+1:Nat):Int)):=by
 have hc:=l[i].toNat_lt;have e:ior .u64 (a:Int) (Afp .u64 (wr .u64 (G9 .u8 (l[i].toNat:Int) 127)) (wr .i64 (7*(i:Int))))=((a+(l[i].toNat % 128)*2 ^ (7*i):Nat):Int):=by rw[Bt2 _ hc,Bwc h9 (by omega),Bw5 ha hx]
 have c1:decide (0<=wr .i64 (7*(i:Int)))=true:=by rw[B3 (by simp[inI];omega)];exact Ze1 (by omega)
 simp only[Nk,Ea hi,Af,As hi,chk,Al (c :=.byte) hi,An hi hl,vgX,c1,e]
 grind
theorem A63{p:Nat}{l r:Str}(hl:p+l.length<=1000000):∀(k i a m f:Nat),i+k=9->l.drop i=Cq k m++r->a<2 ^ (7*i)->a+m*2 ^ (7*i)<18446744073709551616->(0<i->0<m)->k<f ->
  Aj (λrec=>Nk rec vgX) f ((p:Int),0,0,0,(a:Int),10,l,(l.length:Int),(i:Int))=some (((a+m*2 ^ (7*i):Nat):Int),((p+i+(Cq k m).length:Nat):Int),0)
 |_,_,_,_,0,_,_,_,_,_,h=>by omega
 |k,i,a,m,f+1,hk,hd,ha,hm,h0,hf=>by
  have hlen:=congrArg List.length hd;have h1:=Ff k m;rw[Za2,Zh1] at hlen;have hi:i<l.length:=by omega
  have hln:ln l.length:=by simp[ln];omega
  have hgi:l[i]=(Cq k m++r)[0]'(by simp;omega):=by
   have:(l.drop i)[0]'(by rw[Za2];omega)=l[i]:=by simp
   rw[<-this];simp only[hd]
  have w1:wr .i64 (wr .i64 ((p:Int)+i)+1)=((p+i+1:Nat):Int):=by rw[B3 (n:=(p:Int)+i) (by simp[inI];omega),B3 (by simp[inI];omega)];omega
  rw[Ay];have small:m<128->Cq k m=[UInt8.ofNat m]->Nk (Aj (λrec=>Nk rec vgX) f) vgX ((p:Int),0,0,0,(a:Int),10,l,(l.length:Int),(i:Int))=some (((a+m*2 ^ (7*i):Nat):Int),((p+i+(Cq k m).length:Nat):Int),0):=λhs e=>by
   have e0:l[i].toNat=m:=by rw[hgi];simp only[e];exact A1m (by omega)
   rw[Aws hi (by omega) hln ha (by rw[e0,Nat.mod_eq_of_lt hs];exact hm),e0,Nat.mod_eq_of_lt hs,if_neg,if_pos hs,w1,e]
   ·rfl
   ·rintro(⟨h9,h2⟩|⟨h2,h3⟩)
    ·subst h9;have : 2*2 ^ (7*9)<=m*2 ^ (7*9):=Nat.mul_le_mul_right _ h2;omega
    ·have:=h0 h3;omega
  cases k with
  |zero =>
   have h9:i=9:=by omega
   subst h9;exact small (by omega) rfl
  |succ k =>
   by_cases hs:m<128
   ·exact small hs (by simp[Cq,hs])
   ·have e:Cq (k+1) m=UInt8.ofNat (m % 128+128)::Cq k (m / 128):=by simp[Cq,hs]
    have e0:l[i].toNat=m % 128+128:=by rw[hgi];simp only[e];exact A1m (by omega)
    have e1:(m % 128+128) % 128=m % 128:=by omega
    have hp : 2 ^ (7*(i+1))=128*2 ^ (7*i):=by rw[Nat.mul_add,Nat.pow_add];omega
    have hq:m % 128*2 ^ (7*i)+(m / 128)*2 ^ (7*(i+1))=m*2 ^ (7*i):=by rw[hp,<-Nat.mul_assoc,<-Nat.add_mul];congr 1;omega
    have hle:m % 128*2 ^ (7*i)<=127*2 ^ (7*i):=Nat.mul_le_mul_right _ (by omega);rw[Aws hi (by omega) hln ha (by rw[e0,e1];omega),e0,e1,if_neg (by omega),if_neg (by omega)];have ih:=A63 (r:=r) hl k (i+1) (a+m % 128*2 ^ (7*i)) (m / 128) f (by omega) (by rw[<-List.drop_drop,hd,e];simp) (by rw[hp];omega) (by omega) (by omega) (by omega)
    rw[ih,e];simp only[Zf1,Za1,Zp1];refine⟨by congr 1;omega,by congr 1;omega,trivial⟩
theorem As8{b r:Str}{p n:Nat}(hd:b.drop p=Cq 9 n++r)(hn:n<18446744073709551616)(hb:b.length<=1000000):Amu b (p:Int)=some ((n:Int),((p+(Cq 9 n).length:Nat):Int),0)/\p+(Cq 9 n).length+r.length=b.length:=by have hl:=congrArg List.length hd;have h1:=Ff 9 n;rw[Za2,Zh1] at hl;refine⟨?_,by omega⟩;rw[Bqy (by omega) hb];have:=A63 (p:=p) (l:=b.drop p) (r:=r) (by rw[Za2];omega) 9 0 0 n 100 rfl (by simpa using hd) (by simp) (by simpa using hn) (by omega) (by omega);simpa using this
theorem wrI(n:Int):wr .i64 n=(n+9223372036854775808) % 18446744073709551616-9223372036854775808:=by simp only[wr,IntKind.wrap_i64]
theorem Bvh{n:Int}(h:inI n=true):Xh .i64 (wr .i64 (D5 .u64 (zz n:Int) 1)) (wr .i64 (0-(wr .i64 (G9 .u64 (zz n:Int) 1))))=n:=by
 have hz:=Bj9 h;simp[inI] at h;have e1:D5 .u64 (zz n:Int) 1=((zz n / 2:Nat):Int):=by show(zz n:Int).fdiv 2=_;rw[Int.fdiv_eq_ediv_of_nonneg _ (by omega)];omega
 have e2:G9 .u64 (zz n:Int) 1=((zz n % 2:Nat):Int):=by show wr .u64 (((BitVec.ofInt 64 (zz n:Int) &&& BitVec.ofInt 64 1).toNat:Nat):Int)=_;rw[BitVec.toNat_and,show(BitVec.ofInt 64 1).toNat=1 by decide,Nat.and_one_is_mod,BitVec.toNat_ofInt,wrU];omega
 rw[e1,e2,B3 (n:=((zz n / 2:Nat):Int)) (by simp[inI];omega),B3 (n:=((zz n % 2:Nat):Int)) (by simp[inI];omega)];by_cases hn:n<0
 ·have z:zz n % 2=1:=by simp only[zz,if_pos hn];omega
  have z2:((zz n / 2:Nat):Int) = -n-1:=by simp only[zz,if_pos hn];omega
  rw[z,z2,show wr .i64 (0-((1:Nat):Int)) = -1 by decide];show wr .i64 (((BitVec.ofInt 64 (-n-1) ^^^ BitVec.ofInt 64 (-1)).toNat:Nat):Int)=_;rw[show BitVec.ofInt 64 (-1)=BitVec.allOnes 64 by decide,BitVec.xor_allOnes,BitVec.toNat_not,BitVec.toNat_ofInt,wrI];omega
 ·have z:zz n % 2=0:=by simp only[zz,if_neg hn];omega
  have z2:((zz n / 2:Nat):Int)=n:=by simp only[zz,if_neg hn];omega
  rw[z,z2,show wr .i64 (0-((0:Nat):Int))=0 by decide,Bv8];show wr .i64 (((BitVec.ofInt 64 n).toNat:Nat):Int)=_;rw[BitVec.toNat_ofInt,wrI];omega
theorem Bqe{b r:Str}{p:Nat}{n:Int}(h:inI n=true)(hd:b.drop p=Cq 9 (zz n)++r)(hb:b.length<=1000000):A50 b (p:Int)=some (n,((p+(Cq 9 (zz n)).length:Nat):Int),0):=by simp only[A50,Wg,(As8 hd (Bj9 h) hb).1,Zc1,Bvh h]
def wvJ(q:Str)(q1 q2:Int)(v:Val):Option Y6 :=
 let j1:=λ(p2:Bool)=>cond p2 (some (v,q,q1,11)) ((L5 (v,q,q1,q2)).bind λ(c,a,b,d)=>cond (!c) (some (v,a,b,11)) (some (v,a,b,d)))
 cond (decide (q2=0)) (j1 (!decide (Eg v=0))) (j1 false)
def wvB(x:Int)(b:Str)(p e:Int):Option Y6 :=
 cond (decide (x=1)) (wvJ b p e (Val.mk x 0 [])) (
  cond (decide (x=2)) ((Po (b,p,e)).bind λ(x4,x5,x6,x7)=>wvJ x5 x6 x7 (Val.mk x (wr .i64 x4) [])) (
  cond (decide (x=3)) ((Ms (b,p,e)).bind λ(x8,x9,a,c)=>wvJ x9 a c (Val.mk x x8 [])) (
   let j:=λ(p1:Bool)=>cond p1 ((Tl (b,p,e)).bind λ(d,f,g,h)=>wvJ f g h (Val.mk x 0 d)) (wvJ b p 11 (Val.mk x 0 []))
   cond (decide (x=4)) (j (decide (x=4))) (j (decide (x=5))))))
theorem Bay(b:Str)(p e:Int):Qu (b,p,e)=(Po (b,p,e)).bind λ(x,x1,x2,x3)=>cond (!decide (x3=0)) (some (Val.mk (wr .i64 x) 0 [],x1,x2,x3)) (wvB (wr .i64 x) x1 x2 x3):=rfl
def wdX:Ex->Xt->Option (List Val×Int):=λe vz=>match vz with|(v4,v5,_,_,_,v9,a)=>match e with|.exit 1=>cond (decide (a=0)) (cond (decide (v9<(v4.length:Int))) (some ([],11)) (cond (!decide (a=0)) (some ([],a)) (some (v5,0)))) (cond (!decide (a=0)) (some ([],a)) (some (v5,0)))|_=>none
theorem Bhs{l:List Val}(hl:l.length<=4000):(Hf l).1.length<=110000:=by
 simp only[Hf];cases h:l.all (λv=>Aq v) with
 |false=>simp
 |true =>rw[Af];cases hd:decide (100<(l.length:Int)) with|true=>simp|false =>have:=of_decide_eq_false hd;have h1:=Aqs h;have h2:=Ff 9 l.length;simp only[Ag,Zh1];omega
def okR(r:List Val):Bool:=decide ((Hf r).2=0)
theorem Bns{b r s:Str}{p:Nat}(hd:b.drop p=(Cq 5 s.length++s)++r)(hb:b.length<=1000000):A6y b (p:Int)=some (s,((p+(Cq 5 s.length++s).length:Nat):Int),0)/\b.drop (p+(Cq 5 s.length++s).length)=r:=by
 have h0:=congrArg List.length hd;simp only[Za2,Zh1] at h0;have hd2:=hd;rw[Zj1,<-A2j (show s.length<128 ^ 6 by omega)] at hd2;obtain⟨h1,h2⟩:=As8 hd2 (by omega) hb;rw[A2j (show s.length<128 ^ 6 by omega)] at hd2 h1 h2;rw[Zh1] at h2;have h3:b.drop (p+(Cq 5 s.length).length)=s++r:=by rw[<-List.drop_drop,hd2,List.drop_left]
 refine⟨?_,by rw[<-List.drop_drop,hd,List.drop_left]⟩;obtain⟨q,hq⟩:∃q,q=p+(Cq 5 s.length).length:=⟨_,rfl⟩;rw[<-hq] at h1 h2 h3;simp only[A6y,V0,h1,Zc1,decide_true,Zt1,Ag];rw[Zd1 (by omega),Ag,B3 (n:=(b.length:Int)-q) (by simp[inI];omega),show(b.length:Int)-(q:Int)=((b.length-q:Nat):Int) by omega,Adj (by omega),Zd1 (by omega),Ag,B3 (n:=(s.length:Int)) (by simp[inI];omega),B3 (by simp[inI];omega)];have hu:upto (q:Int) ((q:Int)+(s.length:Int)) b.length=true:=by simp[upto,Zb1];omega
 have hc:cut b (q:Int) ((q:Int)+(s.length:Int))=s:=by simp only[cut,Int.toNat_natCast];rw[h3,show((q:Int)+(s.length:Int)).toNat-q=s.length by omega,List.take_left]
 rw[hu,hc,chk,Af,Ze1 (show 0+s.length<=Ah by simp[Ah];omega),chk,Af,Zh1,show(q:Int)+(s.length:Int)=((p+((Cq 5 s.length).length+s.length):Nat):Int) by omega];rfl
theorem A0r{n:Int}(h : 0<=n/\n<256):((b8 n).toNat:Int)=n:=by obtain⟨m,rfl⟩:=Int.eq_ofNat_of_zero_le h.1;rw[b8,Bis,Int.toNat_natCast,A1m (Nat.mod_lt _ (by omega))];omega
theorem Au5{b r:Str}{c:UInt8}{p:Nat}(hd:b.drop p=c::r)(hb:b.length<=1000000):Po (b,(p:Int),0)=some ((c.toNat:Int),b,((p+1:Nat):Int),0)/\b.drop (p+1)=r/\p<b.length:=by
 have h0:=congrArg List.length hd;simp only[Za2,Zf1] at h0;have hp:p<b.length:=by omega
 rw[List.drop_eq_getElem_cons hp] at hd;obtain⟨h1,h2⟩:=List.cons.inj hd;refine⟨?_,h2,hp⟩;simp only[Po,Abw];rw[Zd1 (show ¬(p:Int)=(b.length:Int) by omega),Ag,B3 (n:=(p:Int)+1) (by simp[inI];omega),show(p:Int)+1-1=(p:Int) by omega,B3 (n:=(p:Int)) (by simp[inI];omega),As hp,chk,Af,Al (c :=.byte) hp,h1];rfl
theorem Apc{b r s:Str}{p:Nat}(hd:b.drop p=(Cq 5 s.length++s)++r)(hs:s.length<=1000)(hb:b.length<=1000000):Tl (b,(p:Int),0)=some (s,b,((p+(Cq 5 s.length++s).length:Nat):Int),0):=by have hd2:=hd;rw[Zj1,<-A2j (show s.length<128 ^ 6 by omega)] at hd2;obtain⟨h1,_⟩:=As8 hd2 (by omega) hb;simp only[Tl,Xd,h1,(Bns hd hb).1,Zc1];rw[Zd1 (show ¬(1000:Int)<(s.length:Int) by omega)];rfl
theorem Aag{b:Str}{q:Int}{v:Val}(h:Aq v=true):wvJ b q 0 v=some (v,b,q,0):=by simp only[wvJ,vch,h,L5,I1];cases decide (v.kind=4)<;>rfl
theorem Aru{v:Val}(h:Aq v=true):(v.kind=1->v.n=0/\v.s=[])/\(v.kind=2->(v.n=0\/v.n=1)/\v.s=[])/\(v.kind=3->v.s=[])/\(v.kind=4\/v.kind=5->v.n=0):=by
 obtain⟨k,n,s⟩:=v;refine⟨λh1 =>?_,λh1 =>?_,λh1 =>?_,λh1 =>?_⟩
 ·simp only at h1;subst h1;by_cases h0:n=0<;>simp[Aq,h0] at h ⊢ <;> grind
 ·simp only at h1;subst h1;by_cases h0:n=0<;>by_cases h2:n=1<;>simp[Aq,h0,h2] at h ⊢ <;> grind
 ·simp only at h1;subst h1;simp[Aq] at h ⊢
  grind
 ·rcases h1 with h1|h1<;>(simp only at h1;subst h1;by_cases h0:n=0<;>simp[Aq,h0] at h ⊢)
theorem A1u{b r:Str}{p:Nat}{v:Val}(h:Aq v=true)(hn:inI v.n=true)(hd:b.drop p=Nt v++r)(hb:b.length<=1000000):Qu (b,(p:Int),0)=some (v,b,((p+(Nt v).length:Nat):Int),0)/\b.drop (p+(Nt v).length)=r:=by
 refine⟨?_,by rw[<-List.drop_drop,hd,List.drop_left]⟩;have hd1:=hd;rw[Nt,Zb2] at hd1;obtain⟨w1,w2,w3⟩:=Au5 hd1 hb;obtain⟨s1,s2,s3,s4⟩:=Aru h;have hk5:=Afe h;have hkk:wr .i64 ((b8 v.kind).toNat:Int)=v.kind:=by rw[A0r (by omega),B3 (by simp[inI];omega)]
 rw[Bay,w1,Zc1];simp only[hkk,decide_true,Zt1,Ag];simp only[wvB];obtain⟨k,n,s⟩:=v;simp only at s1 s2 s3 s4 hk5 w2 ⊢;rcases hk5 with rfl|rfl|rfl|rfl|rfl
 ·obtain⟨rfl,rfl⟩:=s1 rfl;exact Aag h
 ·obtain⟨h2,rfl⟩:=s2 rfl;have w2:b.drop (p+1)=b8 n::r:=by rw[w2];rfl
  obtain⟨x1,_,_⟩:=Au5 w2 hb;rw[Zd1 (by decide),Ag,Ze1 (by decide),Af,x1,Zc1];simp only[A0r (show 0<=n/\n<256 by omega),B3 (show inI n by simpa using hn)];exact Aag h
 ·obtain rfl:=s3 rfl;have w2:b.drop (p+1)=Cq 9 (zz n)++r:=by rw[w2];rfl
  have x1:=Bqe hn w2 hb;rw[Zd1 (by decide),Ag,Zd1 (by decide),Ag,Ze1 (by decide),Af];simp only[Ms,Oz,x1,Zc1];rw[Aag h,Nt];simp only[if_neg (show ¬(3:Int)=2 by decide),if_true,Zf1,Za1,Zp1,true_and,and_true];omega
 ·obtain rfl:=s4 (.inl rfl);have hl:=Je h (.inl rfl);have w2:b.drop (p+1)=(Cq 5 s.length++s)++r:=by rw[w2];rfl
  have x1:=Apc w2 hl hb;rw[Zd1 (by decide),Ag,Zd1 (by decide),Ag,Zd1 (by decide),Ag,Ze1 (by decide),Af,Af,x1,Zc1];simp only;rw[Aag h,Nt];simp only[if_neg (show ¬(4:Int)=2 by decide),if_neg (show ¬(4:Int)=3 by decide),true_or,if_true,Zf1,Za1,Zp1,true_and,and_true];omega
 ·obtain rfl:=s4 (.inr rfl);have hl:=Je h (.inr rfl);have w2:b.drop (p+1)=(Cq 5 s.length++s)++r:=by rw[w2];rfl
  have x1:=Apc w2 hl hb;rw[Zd1 (by decide),Ag,Zd1 (by decide),Ag,Zd1 (by decide),Ag,Zd1 (by decide),Ag,Ze1 (by decide),Af,x1,Zc1];simp only;rw[Aag h,Nt];simp only[if_neg (show ¬(5:Int)=2 by decide),if_neg (show ¬(5:Int)=3 by decide),or_true,if_true,Zf1,Za1,Zp1,true_and,and_true];omega
theorem Bfy{b:Str}{n:Nat}(hb:b.length<=1000000)(hn:n<=100):∀(l:List Val) (k p:Nat) (acc:List Val),b.drop p=Kk l->p<=b.length->l.length<k->acc.length+l.length=n->(∀v,v∈l->Aq v=true/\inI v.n=true)->Aj (λrec=>Adi rec wdX) k (b,acc,(n:Int),(acc.length:Int),b,(p:Int),0)=some (acc++l,0)
 |_,0,_,_,_,_,h,_,_=>by omega
 |[],k+1,p,acc,hd,hp,_,ha,_=>by have:=congrArg List.length hd;simp[Kk] at this ha;rw[Ay];simp only[Adi,Zd1 (show ¬(acc.length:Int)<(n:Int) by omega),Ag,wdX,Zd1 (show ¬(p:Int)<(b.length:Int) by omega),List.append_nil];rfl
 |v::l,k+1,p,acc,hd,hp,hk,ha,hv=>by simp only[Zf1] at hk ha;rw[W2] at hd;obtain⟨v1,v2⟩:=hv v (by simp);obtain⟨h1,h2⟩:=A1u v1 v2 hd hb;have h4:=congrArg List.length hd;simp only[Za2,Zh1] at h4;have ih:=Bfy hb hn l k (p+(Nt v).length) (acc++[v]) h2 (by omega) (by omega) (by simp;omega) λx hx=>hv x (by simp[hx]);rw[Ay];simp only[Adi,Ze1 (show(acc.length:Int)<(n:Int) by omega),Af,h1,Zc1,chk,Ze1 (show acc.length+1<=Ah by simp[Ah];omega),decide_true,Zt1,Ag,show(acc.length:Int)+1=((acc.length+1:Nat):Int) by omega,Adj (show acc.length+1<18446744073709551616 by omega)];rw[Zh1] at ih;exact ih.trans (by rw[Zj1];rfl)
theorem Blr{l:List Val}(h:okR l=true):(∀v,v∈l->Aq v=true)/\l.length<=100/\(Hf l).1=Cq 9 l.length++Kk l:=by
 have h:=of_decide_eq_true h;cases h1:l.all (λv=>Aq v) with
 |false=>simp[Hf,h1] at h
 |true =>cases h2:decide (100<(l.length:Int)) with|true=>simp[Hf,h1,h2] at h|false =>have:=of_decide_eq_false h2;refine⟨λv hv=>Zg2.1 h1 v hv,by omega,by simp[Hf,h1,h2]⟩
theorem Aw3{l:List Val}(h:okR l=true)(hn:∀v,v∈l->inI v.n=true):A4d (Hf l).1=some (l,0):=by obtain⟨h1,h2,h3⟩:=Blr h;have hl:(Hf l).1.length<=110000:=Bhs (by omega);rw[h3] at hl ⊢;have h4:=(As8 (b:=Cq 9 l.length++Kk l) (p:=0) rfl (show l.length<18446744073709551616 by omega) (by omega)).1;simp only[A4d,Acn];rw[show Amu (Cq 9 l.length++Kk l) 0=_ from h4,Zc1,Ze1 rfl,Zt1,Ag,Zd1 (show ¬(100:Int)<(l.length:Int) by omega),Ag];exact Bfy (n:=l.length) (by omega) h2 l 5000 _ [] (by rw[Nat.zero_add,List.drop_left]) (by simp) (by omega) (by simp) λv hv=>⟨h1 v hv,hn v hv⟩
theorem Ayf{tb:Tbl}{r:List Val}(f:FitR tb r):okR r=true:=by have h1:r.all (λv=>Aq v)=true:=Zg2.2 f.right;have h2:decide (100<(r.length:Int))=false:=Zd1 (by have:=f.len;have:=f.ncols;omega);exact Ze1 (by simp[Hf,h1,h2])
theorem Bjf{tb:Tbl}{r:List Val}(hf:O9 tb r=some (Ec tb r))(h0:Ec tb r=0)(hb:G6 r):Agp tb (Cs tb r).val=some (r,0):=by have h1:A4d (Cs tb r).val=some (r,0):=Aw3 (Ayf (N0 h0)) hb;simp only[Agp,W0,h1,Zc1,hf,h0,decide_true,Zt1,Ag]
theorem A7d{c:UInt8}(h:c≠255):(c+1).toNat=c.toNat+1:=by have h1:c.toNat≠255:=λe=>h (UInt8.toNat_inj.1 e);have h2:=c.toNat_lt;rw[UInt8.toNat_add];have:(1:UInt8).toNat=1:=rfl;omega
theorem A7c:∀(b k:Str),(A3 b k).isSome=true↔¬k<b/\(nxt b=[]\/k<nxt b)
 |[],k=>by simp[A3,nxt]
 |c::l,[]=>by have:=List.nil_lt_cons c l;simp[A3]
 |c::l,x::k=>by
  simp only[A3,nxt,List.cons_lt_cons_iff];have hx:=x.toNat_lt;by_cases e:c=x
  ·subst e;have ih:=A7c l k;simp only[if_true,ih,Lk,Nat.lt_irrefl,false_or,true_and];by_cases hn:nxt l=[]
   ·simp only[hn,if_true,true_or,and_true];by_cases hc:c=255
    ·simp[hc]
    ·have:=A7d hc;simp only[hc,if_false,List.cons_lt_cons_iff,Lk,this];simp
   ·simp[hn,List.cons_lt_cons_iff,Lk]
  ·have hne:c.toNat≠x.toNat:=λh=>e (UInt8.toNat_inj.1 h);have e2:¬x=c:=λh=>e h.symm;simp only[e,if_false,e2,false_and,or_false,Lk];by_cases hlt:x.toNat<c.toNat
   ·simp[hlt]
   ·by_cases hn:nxt l=[]
    ·simp only[hn,if_true];by_cases hc:c=255
     ·subst hc;have:(255:UInt8).toNat=255:=rfl;omega
     ·have:=A7d hc;simp only[hc,if_false,List.cons_lt_cons_iff,Lk,this];have h3:¬x.toNat<c.toNat+1:=by omega
      simp[h3]
    ·simp only[hn,if_false,List.cons_lt_cons_iff,Lk,e2,false_and,or_false];simp[hlt]
theorem Bdm{t:T}(h:t.Wf 0){b k v:Str}:KvS.mk k v∈range t b (nxt b)↔t.get k=some v/\(A3 b k).isSome=true:=by rw[mem_range h,A7c]
theorem Aq5{R:Type}{kx:Ex->Tx->Option R}{tb:Tbl}{l:List KvS}{dec:KvS->List Val}{a:Int}{b:Str}{c:Bool}{d:Str}{e:List NodeS}{f:Str}{g:List NodeS}{h:Str}(hl:l.length<=100000)(hd:∀p,p∈l->Agp tb p.val=some (dec p,0)):∀(k i:Nat) (acc:List (List Val)),i<=l.length->l.length-i<k->acc.length<=i ->
  Aj (λrec=>Sr rec kx) k (acc,false,l,(l.length:Int),(i:Int),a,b,c,d,e,f,g,h,tb)=kx (.exit 0) (acc++(l.drop i).map dec,false,l,(l.length:Int),(l.length:Int),a,b,c,d,e,f,g,h,tb)
 |0,_,_,_,hk,_=>by omega
 |k+1,i,acc,hi,hk,ha=>by
  rw[Ay];by_cases hlt:i<l.length
  ·have c1:(i:Int)<(l.length:Int):=by omega
   have c2:acc.length+1<=Ah:=by simp only[Ah];omega
   simp only[Sr,c1,decide_true,Af,As hlt,chk,Al (c :=.kv) hlt,hd _ (List.getElem_mem hlt),Zc1,Zt1,Ag,c2,An hlt (show ln l.length by simp[ln];omega)];rw[Aq5 (kx:=kx) hl hd k (i+1) (acc++[dec l[i]]) (by omega) (by omega) (by simp;omega),List.drop_eq_getElem_cons hlt,Zw1,Zj1];rfl
  ·have e:i=l.length:=by omega
   subst e;have c1:¬(l.length:Int)<(l.length:Int):=by omega
   simp only[Sr,c1,decide_false,Ag,Zc2,List.map_nil,List.append_nil]
def Bq(tb:Tbl):Str:=E4 [wV [114],wV tb.name]
theorem Btt{tb:Tbl}{t:T}{dec:KvS->List Val}{g:List NodeS}{h:Str}(hc:Ji tb=some 0)(hn:Aq (wV tb.name)=true)(hp:(Bq tb).length<=900)(hp2:(nxt (Bq tb)).length<=900)(hw:t.Wf 0)(hs:t.size<=100000)(hd:∀p,p∈range t (Bq tb) (nxt (Bq tb))->Agp tb p.val=some (dec p,0))(hrl:(range t (Bq tb) (nxt (Bq tb))).length<=100000)(k:Nat)(hk:(range t (Bq tb) (nxt (Bq tb))).length<k) :
  Gb k (tb,t.node.kind,t.node.path,t.node.has,t.node.val,t.node.kids,t.node.hash,g,h)=some ((range t (Bq tb) (nxt (Bq tb))).map dec,0,t.node.kind,t.node.path,t.node.has,t.node.val,t.node.kids,t.node.hash,g,h):=by
 have h1:Mv [[114],tb.name]=some [wV [114],wV tb.name]:=I3 (by simp);have h2:Ac9 [[wV [114],wV tb.name]]=some (Bq tb,0):=Jq (by simp) (λv hv=>by
  simp only[Zz1,List.flatten_nil,List.append_nil,List.mem_cons,List.not_mem_nil,or_false] at hv;rcases hv with rfl|rfl
  ·exact Mo.1
  ·exact hn) (by simp)
 have h3:Aw0 (Bq tb)=some (nxt (Bq tb)):=by simp only[Aw0,Ze1 (show(Bq tb).length<=2000000 by omega),Af]
 have h4:=Beh (t:=t) (g:=g) (h:=h) (lo:=Bq tb) (hi:=nxt (Bq tb)) (m:=9223372036854775807) hw hp hp2 (by omega) (by simp only[Ah];omega);have h4:Yj (Bq tb,nxt (Bq tb),9223372036854775807,t.node.kind,t.node.path,t.node.has,t.node.val,t.node.kids,t.node.hash,g,h)=_:=h4;simp only[Gb,hc,h1,h2,h3,h4,Zc1,decide_true,Zt1,Ag];refine(Aq5 hrl hd k 0 [] (by omega) (by omega) (by simp)).trans ?_;simp only[Zq1,Zf2];rfl
theorem Axo:∀a b:Str,Cr a b<0↔a<b
 |[],[]=>by have:Cr [] []=0:=rfl;simp[this]
 |[],y::b=>by rw[Ayr];exact⟨λ_=>List.nil_lt_cons y b,λ_=>by decide⟩
 |x::a,[]=>by rw[Amx];exact⟨λh=>absurd h (by decide),λh=>absurd h (List.not_lt_nil _)⟩
 |x::a,y::b=>by
  rw[List.cons_lt_cons_iff];rcases A4m x y with h|h|h
  ·rw[Iu h];exact⟨λ_ =>.inl h,λ_=>by decide⟩
  ·subst h;rw[Gk,Axo a b];have:¬x<x:=by rw[Lk];omega
   simp[this]
  ·rw[I0 h];have h1:¬x<y:=by rw[Lk] at *;omega
   have h2:¬x=y:=λe=>by subst e;rw[Lk] at h;omega
   simp[h1,h2]
def A1b(l:List Val):Prop:=l.all Aq=true/\∀v,v∈l->inI v.n
theorem Br5(a:List Val):E4 (wV [114]::a)=4::114::0::1::E4 a:=rfl
theorem Bwn(a:List Val):E4 (wV [105]::a)=4::105::0::1::E4 a:=rfl
theorem Bvr(a:List Val):E4 (wV [117]::a)=4::117::0::1::E4 a:=rfl
theorem Bv0(a:List Val):E4 (wV [102]::a)=4::102::0::1::E4 a:=rfl
def Abg(k:Str):UInt8:=k.getD 1 0
theorem Auq(t:Tbl)(r:List Val):Abg (Cs t r).key=114:=by simp only[Cs,Br5];rfl
theorem Bui(t:Tbl)(r:List Val)(x:Idx):Abg (Jp t r x).key=105:=by simp only[Jp,Bwn];rfl
theorem Agq{t:Tbl}{r:List Val}:∀{cs:List Col}{vs:List Val}{p:KvS},p∈D8 t r cs vs->Abg p.key=117/\p.val=(Hf (pkV t r)).1
 |[],_,p,h=>by simp[D8] at h
 |_::_,[],p,h=>by simp[D8] at h
 |c::cs,v::vs,p,h=>by
  simp only[D8] at h;cases hc:(c.unique && !decide (v.kind=1)) with
  |false=>rw[hc] at h;exact Agq h
  |true =>
   rw[hc] at h;rcases List.mem_cons.1 h with rfl|h
   ·exact⟨by simp only[W7,Bvr];rfl,rfl⟩
   ·exact Agq h
theorem Ako{t:Tbl}{r:List Val}:∀{cs:List Col}{vs:List Val}{p:KvS},p∈Hj t r cs vs->Abg p.key=102/\p.val=[]
 |[],_,p,h=>by simp[Hj] at h
 |_::_,[],p,h=>by simp[Hj] at h
 |c::cs,v::vs,p,h=>by
  simp only[Hj] at h;cases hc:(!decide (c.ref=[]) && !decide (v.kind=1)) with
  |false=>rw[hc] at h;exact Ako h
  |true =>
   rw[hc] at h;rcases List.mem_cons.1 h with rfl|h
   ·exact⟨by simp only[Aci,Bv0];rfl,rfl⟩
   ·exact Ako h
theorem L8{t:Tbl}{r:List Val}{p:KvS}(h:p∈Gg t r):p=Cs t r\/(Abg p.key=105/\p.val=[])\/(p∈D8 t r t.cols r/\Abg p.key=117/\p.val=(Hf (pkV t r)).1)\/(Abg p.key=102/\p.val=[]):=by
 simp only[Gg,List.mem_cons,List.mem_append,List.mem_map] at h;rcases h with h|⟨x,_,rfl⟩|h|h
 ·exact .inl h
 ·exact .inr (.inl ⟨Bui t r x,rfl⟩)
 ·exact .inr (.inr (.inl ⟨h,Agq h⟩))
 ·exact .inr (.inr (.inr (Ako h)))
theorem Bnb{t:Tbl}{r:List Val}{p q:KvS}(hp:p∈Gg t r)(hq:q∈Gg t r)(h:p.key=q.key):p.val=q.val:=by
 have hw:=congrArg Abg h;rcases L8 hp with rfl|⟨a,b⟩|⟨_,a,b⟩|⟨a,b⟩<;>rcases L8 hq with rfl|⟨c,d⟩|⟨_,c,d⟩|⟨c,d⟩<;>first
  |rfl
  |exact b.trans d.symm
  |(simp only[Auq] at hw;rw[c] at hw;exact absurd hw (by decide))
  |(simp only[Auq] at hw;rw[a] at hw;exact absurd hw (by decide))
  |(rw[a,c] at hw;exact absurd hw (by decide))
theorem Bp5{tb:Tbl}{r:List Val}{t:T}{k v:Str}:(Hp t (Gg tb r)).get k=some v↔KvS.mk k v∈Gg tb r\/((∀p,p∈Gg tb r->p.key≠k)/\t.get k=some v):=by
 rw[Ai1];cases h:(Gg tb r).reverse.find? (λp=>decide (p.key=k)) with
 |some p =>
  have h1:=List.mem_reverse.1 (List.mem_of_find?_eq_some h);have h2:p.key=k:=by simpa using List.find?_some h
  simp only[Za1];constructor
  ·rintro rfl;left;rw[<-h2];exact h1
  ·rintro(h3|⟨h3,_⟩)
   ·exact Bnb h1 h3 h2
   ·exact absurd h2 (h3 p h1)
 |none =>
  have h1:=List.find?_eq_none.1 h;have h2:∀p,p∈Gg tb r->p.key≠k:=λp hp e=>h1 p (List.mem_reverse.2 hp) (Ze1 e);constructor
  ·exactλh =>.inr ⟨h2,h⟩
  ·rintro(h3|⟨_,h3⟩)
   ·exact absurd rfl (h2 _ h3)
   ·exact h3
theorem Ah5{t:T}:∀{l:List KvS},P5 t l=none↔∀p,p∈l->t.get p.key=none
 |[]=>by simp[P5]
 |p::l=>by simp only[P5];cases h:t.get p.key with|some v=>simp[h]|none=>simp[h,Ah5 (l:=l)]
theorem Bkv{tb:Tbl}{r:List Val}(h0:Ec tb r=0):(Gg tb r).length<=400:=by have h1:=(Rb (T6 h0).1).1;have h2:=(Abs (T6 h0).1).2.2.1;have h3:=Afy (t:=tb) (r:=r) tb.cols r;have h4:=Afz (t:=tb) (r:=r) tb.cols r;simp only[Gg,Zf1,Zh1,List.length_map];omega
def Fit(tb:Tbl)(r:List Val):Prop:=Ec tb r=0/\(Gg tb r).all Ahr=true/\G6 r
structure Db (tb:Tbl) (rs:List (List Val)) (t:T):Prop where
 wf:t.Wf 0
 size:t.size<=400*rs.length
 fit:∀r,r∈rs->Fit tb r
 has:∀k v,t.get k=some v↔∃r,r∈rs/\KvS.mk k v∈Gg tb r
 apart:rs.Pairwise λr s=>(Cs tb r).key≠(Cs tb s).key/\∀p,p∈D8 tb r tb.cols r->∀q,q∈D8 tb s tb.cols s->p.key≠q.key
theorem Bwg(tb:Tbl):Db tb [] .no:=⟨Nat.zero_le _,Nat.zero_le _,λ_ h=>(by cases h),λk v=>(by simp[Bt5]),List.Pairwise.nil⟩
theorem Be4(tb:Tbl)(r:List Val):Cs tb r∈Gg tb r:=by simp[Gg]
theorem Bup{tb:Tbl}{r:List Val}{p:KvS}(h:p∈D8 tb r tb.cols r):p∈Gg tb r:=by simp[Gg,h]
theorem Buo{tb:Tbl}{rs:List (List Val)}{t:T}{r:List Val}(d:Db tb rs t)(hb:G6 r):((Lg tb r t).1=0/\Db tb (rs++[r]) (Lg tb r t).2)\/((Lg tb r t).1≠0/\(Lg tb r t).2=t):=by
 unfold Lg;cases he:decide ((Al5 tb r).2=0) with
 |false=>exact .inr ⟨of_decide_eq_false he,rfl⟩
 |true =>
  obtain⟨h0,hok,_⟩:=A7w (of_decide_eq_true he) (Classical.em _);simp only[Af];cases ht:P5 t (Cs tb r::D8 tb r tb.cols r) with
  |some j =>refine .inr ⟨?_,rfl⟩;simp only;split<;>decide
  |none =>
   have hn:=Ah5.1 ht;have hall:∀p,p∈Gg tb r->Bb8 p:=λp hp=>Awt.1 (Zg2.1 hok p hp);refine .inl ⟨rfl,Amw d.wf hall,?_,?_,?_,?_⟩
   ·have h1:=Ad0 (Gg tb r) t;have h2:=Bkv h0;have h3:=d.size;simp only[Zh1,List.length_singleton];omega
   ·intro s hs;rcases List.mem_append.1 hs with hs|hs
    ·exact d.fit s hs
    ·rw[List.mem_singleton.1 hs];exact⟨h0,hok,hb⟩
   ·intro k v;rw[Bp5,d.has];constructor
    ·rintro(h|⟨_,s,hs,h⟩)
     ·exact⟨r,by simp,h⟩
     ·exact⟨s,by simp[hs],h⟩
    ·rintro⟨s,hs,h⟩;rcases List.mem_append.1 hs with hs|hs
     ·by_cases hp:∀p,p∈Gg tb r->p.key≠k
      ·exact .inr ⟨hp,s,hs,h⟩
      ·left;obtain⟨p,hp⟩:=Classical.not_forall.1 hp;obtain⟨hp,e⟩:=Classical.not_imp.1 hp;have e:=Classical.not_not.1 e;have hg:=(d.has k v).2 ⟨s,hs,h⟩;have key:p.val=v:=by
        have hw:Abg p.key=Abg k:=by rw[e]
        rcases L8 hp with rfl|⟨a,b⟩|⟨hu,_,_⟩|⟨a,b⟩
        ·rw[<-e,hn _ (by simp)] at hg;cases hg
        ·rcases L8 h with h|⟨_,f⟩|⟨_,c,_⟩|⟨c,_⟩
         ·have:=congrArg (λq:KvS=>Abg q.key) h;simp only[Auq] at this;rw[<-hw,a] at this;exact absurd this (by decide)
         ·exact b.trans f.symm
         ·simp only at c;rw[<-hw,a] at c;exact absurd c (by decide)
         ·simp only at c;rw[<-hw,a] at c;exact absurd c (by decide)
        ·rw[<-e,hn _ (by simp[hu])] at hg;cases hg
        ·rcases L8 h with h|⟨c,_⟩|⟨_,c,_⟩|⟨_,f⟩
         ·have:=congrArg (λq:KvS=>Abg q.key) h;simp only[Auq] at this;rw[<-hw,a] at this;exact absurd this (by decide)
         ·simp only at c;rw[<-hw,a] at c;exact absurd c (by decide)
         ·simp only at c;rw[<-hw,a] at c;exact absurd c (by decide)
         ·exact b.trans f.symm
       have:p=KvS.mk k v:=by cases p;simp_all
       rw[<-this];exact hp
     ·rw[List.mem_singleton.1 hs] at h;exact .inl h
   ·rw[List.pairwise_append];refine⟨d.apart,List.pairwise_singleton _ _,λs hs r' hr' =>?_⟩;rw[List.mem_singleton.1 hr'];refine⟨λe =>?_,λp hp q hq e =>?_⟩
    ·have:=(d.has (Cs tb s).key (Cs tb s).val).2 ⟨s,hs,Be4 tb s⟩;rw[e,hn _ (by simp)] at this;cases this
    ·have:=(d.has p.key p.val).2 ⟨s,hs,Bup hp⟩;rw[e,hn _ (by simp[hq])] at this;cases this
theorem Xg(tb:Tbl)(r:List Val):(Cs tb r).key=Bq tb++E4 (pkV tb r):=by simp only[Cs,Bq,E4,List.flatMap_cons,List.flatMap_nil,Zj1,Zf2,List.append_nil]
theorem P7{tb:Tbl}{rs:List (List Val)}{t:T}(d:Db tb rs t){p:KvS}:p∈range t (Bq tb) (nxt (Bq tb))↔∃s,s∈rs/\p=Cs tb s:=by
 obtain⟨k,v⟩:=p;rw[Bdm d.wf,d.has];constructor
 ·rintro⟨⟨s,hs,h⟩,hp⟩;obtain⟨z,hz⟩:=Option.isSome_iff_exists.1 hp;have hk:=Bi.1 hz;have hw:Abg k=114:=by rw[hk,Bq,Br5];rfl
  rcases L8 h with h|⟨c,_⟩|⟨_,c,_⟩|⟨c,_⟩
  ·exact⟨s,hs,h⟩
  ·simp only at c;rw[hw] at c;exact absurd c (by decide)
  ·simp only at c;rw[hw] at c;exact absurd c (by decide)
  ·simp only at c;rw[hw] at c;exact absurd c (by decide)
 ·rintro⟨s,hs,h⟩;have hk:k=(Cs tb s).key:=by rw[<-h]
  exact⟨⟨s,hs,by rw[h];exact Be4 tb s⟩,by rw[hk,Xg,Fj];rfl⟩
def Boq(p:KvS):List Val:=((A4d p.val).getD ([],0)).1
theorem Xq{tb:Tbl}{r:List Val}(h:Fit tb r):Boq (Cs tb r)=r:=by have h1:A4d (Cs tb r).val=some (r,0):=Aw3 (Ayf (N0 h.1)) h.2.2;unfold Boq;rw[h1];rfl
theorem Bd4{tb:Tbl}{rs:List (List Val)}{t:T}(d:Db tb rs t)(hf:∀r,O9 tb r=some (Ec tb r)):∀p,p∈range t (Bq tb) (nxt (Bq tb))->Agp tb p.val=some (Boq p,0):=λp hp=>by obtain⟨s,hs,rfl⟩:=(P7 d).1 hp;have h:=d.fit s hs;rw[Xq h];exact Bjf (hf s) h.1 h.2.2
theorem Agw{α:Type}:∀{a b:List α},a.Nodup->(∀x,x∈a->x∈b)->a.length<=b.length
 |[],_,_,_=>Nat.zero_le _
 |x::a,b,hn,h=>by
  obtain⟨u,w,rfl⟩:=List.append_of_mem (h x (by simp));have hn:=List.nodup_cons.1 hn;have:=Agw (a:=a) (b:=u++w) hn.2 λy hy=>by
   have:=h y (by simp[hy]);simp only[List.mem_append,List.mem_cons] at this ⊢;rcases this with h1|rfl|h1
   ·exact .inl h1
   ·exact absurd hy hn.1
   ·exact .inr h1
  simp only[Zh1,Zf1] at this ⊢;omega
theorem A3f:∀a:Str,¬a<a
 |[]=>List.not_lt_nil _
 |x::a=>λh=>by
  rcases List.cons_lt_cons_iff.1 h with h|⟨_,h⟩
  ·rw[Lk] at h;omega
  ·exact A3f a h
def Ju(tb:Tbl)(t:T):List (List Val):=(range t (Bq tb) (nxt (Bq tb))).map Boq
theorem Pr{tb:Tbl}{rs:List (List Val)}{t:T}(d:Db tb rs t){s:List Val}:s∈Ju tb t↔s∈rs:=by
 unfold Ju;rw[List.mem_map];constructor
 ·rintro⟨p,hp,rfl⟩;obtain⟨s,hs,rfl⟩:=(P7 d).1 hp;rw[Xq (d.fit s hs)];exact hs
 ·exactλhs=>⟨Cs tb s,(P7 d).2 ⟨s,hs,rfl⟩,Xq (d.fit s hs)⟩
theorem Aez{tb:Tbl}{rs:List (List Val)}{t:T}(d:Db tb rs t):(Ju tb t).Pairwise λr s=>(Cs tb r).key<(Cs tb s).key:=by unfold Ju;rw[List.pairwise_map];refine(Aum d.wf _ _).imp_of_mem ?_;intro p q hp hq h;obtain⟨s,hs,rfl⟩:=(P7 d).1 hp;obtain⟨s',hs',rfl⟩:=(P7 d).1 hq;rw[Xq (d.fit s hs),Xq (d.fit s' hs')];exact h
theorem Az4{tb:Tbl}{rs:List (List Val)}{t:T}(d:Db tb rs t):(Ju tb t).length=rs.length:=by
 refine Nat.le_antisymm (Agw ?_ λx hx=>(Pr d).1 hx) (Agw ?_ λx hx=>(Pr d).2 hx)
 ·exact(Aez d).imp λ{a b} h e=>by subst e;exact A3f _ h
 ·exact d.apart.imp λ{a b} h e=>by subst e;exact h.1 rfl
theorem A3v{R:Type}{kx:Ex->Ov->Option R}{tb:Tbl}{l:List (List Val)}{b:Bool}{g:List NodeS}{h:Str}(hl:l.length<=1000)(hf:∀r,O9 tb r=some (Ec tb r))(hb:∀r,r∈l->G6 r):∀(k i:Nat) (rs:List (List Val)) (t:T),Db tb rs t->rs.length<=i->i<=l.length->l.length-i<k ->
  ∃rs' t',Db tb rs' t'/\rs'.length<=l.length/\Aj (λrec=>Ama rec kx) k (l,b,(rs.length:Int),(i:Int),tb,t.node.kind,t.node.path,t.node.has,t.node.val,t.node.kids,t.node.hash,g,h)=kx (.exit 0) (l,b,(rs'.length:Int),(l.length:Int),tb,t'.node.kind,t'.node.path,t'.node.has,t'.node.val,t'.node.kids,t'.node.hash,g,h)
 |0,_,_,_,_,_,_,hk=>by omega
 |k+1,i,rs,t,d,hn,hi,hk=>by
  rw[Ay];by_cases hlt:i<l.length
  ·have c1:(i:Int)<(l.length:Int):=by omega
   have hi2:=Btj (t:=t) (g:=g) (h:=h) (hf l[i]) (hb _ (List.getElem_mem hlt)) d.wf;have w1:wr .i64 ((rs.length:Int)+1)=((rs.length+1:Nat):Int):=by rw[B3 (by simp only[inI];omega)];omega
   simp only[Ama,c1,decide_true,Af,As hlt,chk,Al (c :=.vals) hlt,hi2,Zc1,An hlt (show ln l.length by simp[ln];omega)];rcases Buo d (hb _ (List.getElem_mem hlt)) with ⟨h1,h2⟩|⟨h1,h2⟩
   ·simp only[h1,decide_true,Af,w1];have ih:=A3v (kx:=kx) (b:=b) (g:=g) (h:=h) hl hf hb k (i+1) _ _ h2 (by simp;omega) (by omega) (by omega);simpa only[Zh1,List.length_singleton] using ih
   ·simp only[h1,decide_false,Ag];rw[h2];exact A3v (kx:=kx) (b:=b) (g:=g) (h:=h) hl hf hb k (i+1) rs t d (by omega) (by omega) (by omega)
  ·have e:i=l.length:=by omega
   subst e;have c1:¬(l.length:Int)<(l.length:Int):=by omega
   refine⟨rs,t,d,hn,?_⟩;simp only[Ama,c1,decide_false,Ag]
theorem A5v{a b:List Val}(he:a.length=b.length)(hl:a.length<=1000):∀(k i:Nat),i<=a.length->a.length-i<k ->
  Aj (λrec=>R3 rec (λe vz=>match vz with|(v3,v4,v5)=>match e with
  |.exit 0 =>
  let j1:=λ(p4:Bool) =>
   cond (p4) (
   chk (inb v5 v3.length) (
    chk (inb v5 v4.length) (
    some (A26 (at' .val v3 v5) (at' .val v4 v5))))) (
   cond (decide (v5<(v4.length:Int))) (
    some (-1)) (
    cond (decide (v5<(v3.length:Int))) (
    some 1) (
    some 0)))
  cond (decide (v5<(v3.length:Int))) (
   j1 (decide (v5<(v4.length:Int)))) (
   j1 false)
  |_=>none)) k (a,b,(i:Int))=some (Hn Gu (a.drop i) (b.drop i))
 |0,_,_,hk=>by omega
 |k+1,i,hi,hk=>by
  rw[Ay];by_cases h:i<a.length
  ·have h2:i<b.length:=by omega
   have c1:(i:Int)<(a.length:Int):=by omega
   have c2:(i:Int)<(b.length:Int):=by omega
   rw[List.drop_eq_getElem_cons h,List.drop_eq_getElem_cons h2];simp only[R3,c1,c2,decide_true,Af,As h,As h2,chk,Al (c :=.val) h,Al (c :=.val) h2,An h (show ln a.length by simp[ln];omega),Hn];by_cases e:a[i]=b[i]
   ·have ih:=A5v he hl k (i+1) (by omega) (by omega);simp only[e,decide_true,Af,(vcmp_lin.eq _ _).2 rfl,Fy];exact ih
   ·have hne:Gu a[i] b[i]≠0:=A8a e;simp only[e,decide_false,Ag,Fy,Baz,hne,if_false]
  ·have e:i=a.length:=by omega
   subst e;have c1:¬(a.length:Int)<(a.length:Int):=by omega
   have c2:¬(a.length:Int)<(b.length:Int):=by omega
   simp only[R3,c1,c2,decide_false,Ag];rw[Zc2,he,Zc2];rfl
theorem Bmr{a b:List Val}(he:a.length=b.length)(hl:a.length<=1000):Ay4 a b=some (Hn Gu a b):=A5v he hl 5000 0 (by omega) (by omega)
theorem Bul{tb:Tbl}{r s:List Val}(he:(pkV tb r).length=(pkV tb s).length)(hr:A1b (pkV tb r))(hs:A1b (pkV tb s))(h:(Cs tb r).key<(Cs tb s).key):Hn Gu (pkV tb r) (pkV tb s)<0:=by
 rw[Xg,Xg,Bmd,<-Axo] at h;have:=Ayx (pkV tb r) (pkV tb s) [] [] he hr.1 hs.1 hr.2 hs.2;simp only[List.append_nil] at this;rw[this] at h;split at h
 ·exact absurd h (by decide)
 ·exact h
theorem Ans{cols:List Col}{row:List Val}:∀{l:List Str}{acc:List Val},(∀s,s∈l->¬C7 cols s<0)->(C4 cols row l acc).1.length=acc.length+l.length
 |[],acc,_=>by simp[C4]
 |s::l,acc,h=>by
  have h1:=h s (by simp);have ih:=Ans (row:=row) (l:=l) (acc:=acc++[at' .val row (C7 cols s)]) λx hx=>h x (by simp[hx]);have e:(acc++[at' .val row (C7 cols s)]).length=acc.length+1:=by simp
  simp only[C4,h1,decide_false,Ag,ih,e,Zf1];omega
theorem A3k{tb:Tbl}{r:List Val}(h:Fit tb r):(pkV tb r).length=tb.key.length:=by have:=Ans (row:=r) (acc:=[]) (N0 h.1).key;simpa[pkV] using this
theorem A02{cols:List Col}{row:List Val}{P:Val->Prop}(hP:∀v,v∈row->P v)(h0:P (zer .val)):∀{l:List Str}{acc:List Val},(∀v,v∈acc->P v)->∀v,v∈(C4 cols row l acc).1->P v
 |[],acc,ha,v,hv=>ha v hv
 |s::l,acc,ha,v,hv=>by
  simp only[C4] at hv;cases hc:decide (C7 cols s<0) with
  |true=>rw[hc] at hv;cases hv
  |false =>
   rw[hc] at hv;refine A02 hP h0 (λx hx =>?_) v hv;rcases List.mem_append.1 hx with hx|hx
   ·exact ha x hx
   ·rw[List.mem_singleton.1 hx];unfold at';rw[List.getD_eq_getElem?_getD];cases hg:row[(C7 cols s).toNat]? with|none=>exact h0|some w=>exact hP w (List.mem_of_getElem? hg)
theorem A0f{tb:Tbl}{r:List Val}(h:Fit tb r):A1b (pkV tb r):=by have f:=N0 h.1;exact⟨Zg2.2 (Ul f),A02 (P:=λv=>inI v.n) (λv hv=>by simpa using h.2.2 v hv) (by show inI 0;simp[inI]) λv hv=>by cases hv⟩
theorem Auf{t:Tbl}{r:List Val}:∀{cs:List Col}{vs:List Val}{j:Nat}(h1:j<cs.length) (h2:j<vs.length),cs[j].unique=true->vs[j].kind≠1->W7 t r cs[j] vs[j]∈D8 t r cs vs
 |c::cs,v::vs,0,_,_,hu,hk=>by simp only[List.getElem_cons_zero] at hu hk ⊢;simp only[D8,hu,hk,decide_false,Zs1,Bool.and_self,Af];exact Zr1
 |c::cs,v::vs,j+1,h1,h2,hu,hk=>by have ih:=Auf (t:=t) (r:=r) (cs:=cs) (vs:=vs) (j:=j) (by simpa using h1) (by simpa using h2) (by simpa using hu) (by simpa using hk);simp only[List.getElem_cons_succ,D8];cases (c.unique && !decide (v.kind=1)) with|false=>exact ih|true=>exact Zu1 _ ih
def Aql(tb:Tbl)(r s:List Val):Prop:=∀j (h:j<tb.cols.length) (h1:j<r.length) (h2:j<s.length),tb.cols[j].unique=true->r[j].kind≠1->r[j]≠s[j]
theorem Az7{tb:Tbl}{r s:List Val}(h:∀p,p∈D8 tb r tb.cols r->∀q,q∈D8 tb s tb.cols s->p.key≠q.key):Aql tb r s:=λj hj h1 h2 hu hk e=>by have m1:=Auf (t:=tb) (r:=r) hj h1 hu hk;have m2:=Auf (t:=tb) (r:=s) hj h2 hu (by rw[<-e];exact hk);exact h _ m1 _ m2 (by simp only[W7];rw[e])
theorem A0m{R:Type}{kx:Ex->M8->Option R}{tb:Tbl}{L:List (List Val)}{b:Bool}{n:Int}{i j:Nat}(hi:i<L.length)(hj:j<L.length)(hci:L[i].length=tb.cols.length)(hcj:L[j].length=tb.cols.length)(hc:tb.cols.length<=100)(ha:Aql tb L[i] L[j]):∀(k c:Nat),c<=tb.cols.length->tb.cols.length-c<k ->
  Aj (λrec=>Aiq rec kx) k (b,n,L,(i:Int),(j:Int),(c:Int),tb)=kx (.exit 6) (b,n,L,(i:Int),(j:Int),(tb.cols.length:Int),tb)
 |0,_,_,hk=>by omega
 |k+1,c,hcl,hk=>by
  rw[Ay];by_cases h:c<tb.cols.length
  ·have c1:(c:Int)<(tb.cols.length:Int):=by omega
   have g1:c<L[i].length:=by omega
   have g2:c<L[j].length:=by omega
   have ih:=A0m (kx:=kx) (b:=b) (n:=n) hi hj hci hcj hc ha k (c+1) (by omega) (by omega);have hne:=ha c h g1 g2;simp only[Aiq,c1,decide_true,Af,As h,chk,Al (c :=.col) h,As hi,As hj,Al (c :=.vals) hi,Al (c :=.vals) hj,As g1,As g2,Al (c :=.val) g1,Al (c :=.val) g2,An h (show ln tb.cols.length by simp[ln];omega)];cases hu:tb.cols[c].unique with
   |false=>simp only[Ag];exact ih
   |true =>
    simp only[Af];by_cases hk1:L[i][c].kind=1
    ·simp only[hk1,decide_true,Zt1,Ag];exact ih
    ·have:=hne hu hk1;simp only[hk1,decide_false,Zs1,Af,this,Ag];exact ih
  ·have e:c=tb.cols.length:=by omega
   subst e;have c1:¬(tb.cols.length:Int)<(tb.cols.length:Int):=by omega
   simp only[Aiq,c1,decide_false,Ag]
theorem Awz{R:Type}{kx:Ex->Mz->Option R}{tb:Tbl}{L:List (List Val)}{b:Bool}{n:Int}{m i:Nat}(hm : 100<m)(hl:L.length<=1000)(hi:i<L.length)(hc:tb.cols.length<=100)(hk0:tb.key.length<=100)(hlen:∀r,r∈L->r.length=tb.cols.length/\Fit tb r)(ho:∀j (h:j<i),(Cs tb (L[j]'(by omega))).key<(Cs tb L[i]).key/\Aql tb L[i] (L[j]'(by omega))):∀(k j:Nat),j<=i->i-j<k ->
  Aj (λrec=>Ahh m rec kx) k (b,n,L,(i:Int),(j:Int),tb)=kx (.exit 4) (b,n,L,(i:Int),(i:Int),tb)
 |0,_,_,hk=>by omega
 |k+1,j,hji,hk=>by
  rw[Ay];by_cases h:j<i
  ·have hj:j<L.length:=by omega
   have c1:(j:Int)<(i:Int):=by omega
   have fi:=hlen _ (List.getElem_mem hi);have fj:=hlen _ (List.getElem_mem hj);have p1:Axz tb L[j] tb.key=some (C4 tb.cols L[j] tb.key []):=A6v (by omega) fj.1 _ (by omega);have p2:Axz tb L[i] tb.key=some (C4 tb.cols L[i] tb.key []):=A6v (by omega) fi.1 _ (by omega);have e1:(pkV tb L[j]).length=(pkV tb L[i]).length:=by rw[A3k fj.2,A3k fi.2]
   have d1:Ay4 (pkV tb L[j]) (pkV tb L[i])=some (Hn Gu (pkV tb L[j]) (pkV tb L[i])):=Bmr e1 (by rw[A3k fj.2];omega);have d2:=Bul e1 (A0f fj.2) (A0f fi.2) (ho j h).1;have c2:¬ 0<=Hn Gu (pkV tb L[j]) (pkV tb L[i]):=by omega
   have d1:Ay4 (C4 tb.cols L[j] tb.key []).1 (C4 tb.cols L[i] tb.key []).1=some (Hn Gu (pkV tb L[j]) (pkV tb L[i])):=d1;simp only[Ahh,c1,decide_true,Af,As hj,As hi,chk,Al (c :=.vals) hj,Al (c :=.vals) hi,p1,p2,Zc1,d1,c2,decide_false,Ag];refine(A0m hi hj fi.1 fj.1 hc (ho j h).2 m 0 (by omega) (by omega)).trans ?_;simp only[An h (show ln i by simp[ln];omega)];exact Awz hm hl hi hc hk0 hlen ho k (j+1) (by omega) (by omega)
  ·have e:j=i:=by omega
   subst e;have c1:¬(j:Int)<(j:Int):=by omega
   simp only[Ahh,c1,decide_false,Ag]
theorem Awk{R:Type}{kx:Ex->Ng->Option R}{tb:Tbl}{L:List (List Val)}{b:Bool}{n:Int}{m:Nat}(hm : 1000<m)(hl:L.length<=1000)(hc:tb.cols.length<=100)(hk0:tb.key.length<=100)(hlen:∀r,r∈L->r.length=tb.cols.length/\Fit tb r)(ho:∀i (hi:i<L.length) j (h:j<i),(Cs tb (L[j]'(by omega))).key<(Cs tb L[i]).key/\Aql tb L[i] (L[j]'(by omega))):∀(k i:Nat),i<=L.length->L.length-i<k ->
  Aj (λrec=>Ahz m rec kx) k (b,n,L,(i:Int),tb)=kx (.exit 2) (b,n,L,(L.length:Int),tb)
 |0,_,_,hk=>by omega
 |k+1,i,hil,hk=>by
  rw[Ay];by_cases h:i<L.length
  ·have c1:(i:Int)<(L.length:Int):=by omega
   simp only[Ahz,c1,decide_true,Af];refine(Awz (by omega) hl h hc hk0 hlen (ho i h) m 0 (by omega) (by omega)).trans ?_;simp only[An h (show ln L.length by simp[ln];omega)];exact Awk hm hl hc hk0 hlen ho k (i+1) (by omega) (by omega)
  ·have e:i=L.length:=by omega
   subst e;have c1:¬(L.length:Int)<(L.length:Int):=by omega
   simp only[Ahz,c1,decide_false,Ag]
section
variable {t:Tbl}{r:List Val}
end
mutual
theorem Bbs:∀e:Xpr,Bf e=xsz e
 |.mk _ _ _ l=>by simp only[Bf,xsz,esizes_xszs l]
theorem esizes_xszs:∀l:List Xpr,esizes l=xszs l
 |[]=>rfl
 |x::l=>by simp only[esizes,xszs,Bbs x,esizes_xszs l]
end
def RM:Nat×Nat:=(1048576,1048576)
section
variable {t:Tbl}{r:List Val}
theorem Bk1(hs:SmTbl RM t)(hx:esizes t.checks<=900000):G2 t=true:=by
 have h1:=hs.cols.1;have h2:=hs.key.1;have h3:=hs.checks.1;have h4:=hs.idx.1;simp only[RM] at h1 h2 h3 h4;have e:∀x,x∈t.checks->Bf x<=2000000:=λx hx=>by have:=C6 hx;omega
 have e2:∀x,x∈t.idx->x.cols.length<=2000000:=λx hx=>by have:=(hs.idx.2 x hx).2.1;simp only[RM] at this;omega
 show((decide (t.cols.length<=2000000)&&(decide (([]:List SetE).length<=2000000)&&(decide (t.key.length<=2000000)&&(decide (t.checks.length<=2000000)&&t.checks.all λe=>decide (Bf e<=2000000)))))&&(decide (t.idx.length<=2000000)&&t.idx.all λx=>decide (x.cols.length<=2000000)))=true;simp only[Zb1,Zg1,Zg2,Zi1];exact⟨⟨by omega,by omega,by omega,by omega,e⟩,by omega,e2⟩
theorem Bdy(hs:G2 t=true)(k:Nat)(hk : 4000<k):H1 k (t,r)=some (Ec t r):=by cases h:J0 t with|false =>simp only[H1,Ji,hs,Af,Zc1,Ec,h];rfl|true =>obtain⟨h1,h2,h3,_⟩:=Rb h;exact Bpn (by omega) (by omega) (by omega) hs hk
theorem Arc(hs:G2 t=true):O9 t r=some (Ec t r):=Bdy hs 5000 (by omega)
end
theorem A7b{R:Type}{kx:Ex->T5->Option R}{l:List (List Val)}{i:Nat}(hi:i<l.length)(hl:l[i].length<=1048576):∀(k c:Nat) (n:Int),c<=l[i].length->l[i].length-c<k->∃m,Aj (λrc=>Ys rc kx) k (l,n,(i:Int),(c:Int))=kx (.exit 2) (l,m,(i:Int),(l[i].length:Int))
 |0,_,_,_,h=>by omega
 |k+1,c,n,hc,hk=>by
  have hln:ln l[i].length:=by simp only[ln];omega
  rw[Ay];simp only[Ys,As hi,chk,Af,Al (c :=.vals) hi];by_cases h:c<l[i].length
  ·simp only[Ea h,As h,Af,An h hln];exact A7b hi hl k (c+1) _ h (by omega)
  ·obtain rfl:c=l[i].length:=by omega
   simp only[Ee,Ag];exact⟨n,rfl⟩
theorem A9d{R:Type}{kx:Ex->R4->Option R}{l:List (List Val)}{K:Nat}(hK : 1100000<K)(hl:l.length<=1048576)(hr:∀r,r∈l->r.length<=1048576):∀(k i:Nat) (n:Int),i<=l.length->l.length-i<k->∃m,Aj (λrec=>Oy K rec kx) k (l,n,(i:Int))=kx (.exit 0) (l,m,(l.length:Int))
 |0,_,_,_,h=>by omega
 |k+1,i,n,hi,hk=>by
  have hln:ln l.length:=by simp only[ln];omega
  rw[Ay];by_cases h:i<l.length
  ·simp only[Oy,Ea h,Af,As h,chk,Al (c :=.vals) h];have hm:=hr _ (List.getElem_mem h);have h1:=λn=>A7b (R:=R) (kx:=λe vz=>match vz with|(v7,v8,v9,_)=>match e with
    |.exit 2=>Aj (λrec=>Oy K rec kx) k (v7,v8,(wr .i64 (v9+1)))
    |_=>none) h hm K 0 n (Nat.zero_le _) (by omega)
   obtain⟨m,e⟩:=h1 (wr .i64 ((wr .i64 (n+1))+(l[i].length:Int)));obtain⟨m2,e2⟩:=A9d (kx:=kx) hK hl hr k (i+1) m (by omega) (by omega);refine⟨m2,e.trans ?_⟩;simp only[An h hln];exact e2
  ·obtain rfl:i=l.length:=by omega
   simp only[Oy,Ee,Ag];exact⟨n,rfl⟩
theorem Bus{t:Tbl}{l:List (List Val)}(hl:l.length<=1048576)(hr:∀r,r∈l->r.length<=1048576)(k:Nat)(hk : 1100000<k):∃b,Mx k (t,l)=some b/\(b=false->l.length<=24):=by
 simp only[Mx];obtain⟨m,e⟩:=A9d (kx:=λe vz=>match vz with|(a,c,_)=>match e with
  |.exit 0 =>
  cond (decide (250<=c)) (
   some true) (
   some (decide (24<(a.length:Int))))
  |_=>none) hk hl hr k 0 (Aui t 200) (Nat.zero_le _) (by omega)
 refine⟨cond (decide (250<=m)) true (decide (24<(l.length:Int))),e.trans ?_,λh =>?_⟩
 ·simp only;cases decide (250<=m)<;>rfl
 ·cases h2:decide (250<=m) with|true=>rw[h2] at h;cases h|false =>rw[h2] at h;have:=of_decide_eq_false h;omega
theorem Bpk{t:Tbl}{l:List (List Val)}(hl:l.length<=1048576)(hr:∀r,r∈l->r.length<=1048576):∃b,Bme t l=some b/\(b=false->l.length<=24):=Bus hl hr 2000000 (by omega)
theorem Bca{s:Str}(h:Dr s=true):s.length<=30:=by simp only[Lp.nameF,Zb1,Zg1,Lp.runTo] at h;have h2:=h.2;simp at h2;omega
theorem A7x:∀s:Str,(nxt s).length<=s.length
 |[]=>Zn1 _
 |c::l=>by
  have:=A7x l;simp only[nxt];split
  ·split<;>simp
  ·simp only[Zf1];omega
theorem Brj{tb:Tbl}(h:Dr tb.name=true):(Bq tb).length<=900:=by have h1:=Bca h;have h2:=A0q [wV [114],wV tb.name];have e:vsz [wV [114],wV tb.name]=1+1+(tb.name.length+1+0):=rfl;simp only[Bq];omega
theorem Bpa{tb:Tbl}{rs:List (List Val)}{t:T}{g:List NodeS}{h:Str}(d:Db tb rs t)(hs:G2 tb=true)(ht:J0 tb=true)(hr:rs.length<=200)(k:Nat)(hk : 200<k) :
  Gb k (tb,t.node.kind,t.node.path,t.node.has,t.node.val,t.node.kids,t.node.hash,g,h)=some (Ju tb t,0,t.node.kind,t.node.path,t.node.has,t.node.val,t.node.kids,t.node.hash,g,h):=by
 have hn:=(Rb ht).2.2.2.1;have hp:=Brj hn;have hp2:=A7x (Bq tb);have hl:(range t (Bq tb) (nxt (Bq tb))).length=rs.length:=by have:=Az4 d;simpa only[Ju,List.length_map] using this
 have hd:=d.size;have hc:Ji tb=some 0:=by simp only[Ji,hs,Af,ht]
 exact Btt hc (Fg hn) hp (by omega) d.wf (by omega) (Bd4 d λr=>Arc hs) (by omega) k (by omega)
theorem Buw{tb:Tbl}{rs:List (List Val)}{t:T}(d:Db tb rs t)(ht:J0 tb=false):rs.length=0:=by cases rs with|nil=>rfl|cons r rs =>have:=(T6 (d.fit r (by simp)).1).1;rw[ht] at this;cases this
theorem Xy{α:Type}{P : α->α->Prop}:∀{l:List α},l.Pairwise P->∀i (hi:i<l.length) j (h:j<i),P (l[j]'(by omega)) l[i]
 |[],_,i,hi,_,_=>by cases hi
 |x::l,hp,0,_,j,h=>by omega
 |x::l,hp,i+1,hi,0,_=>(List.pairwise_cons.1 hp).1 _ (List.getElem_mem (by simpa using hi))
 |x::l,hp,i+1,hi,j+1,h=>Xy (List.pairwise_cons.1 hp).2 i (by simpa using hi) j (by omega)
theorem Bf8{tb:Tbl}{rs:List (List Val)}{t:T}(d:Db tb rs t):∀r,r∈rs->∀s,s∈rs->r≠s->Aql tb r s:=λr hr s hs hne=>by
 obtain⟨i,hi,rfl⟩:=List.getElem_of_mem hr;obtain⟨j,hj,rfl⟩:=List.getElem_of_mem hs;have hij:i≠j:=λe=>hne (by subst e;rfl);rcases Nat.lt_or_gt_of_ne hij with h|h
 ·have:=Xy d.apart j hj i h;exact Az7 λp hp q hq=>this.2 p hp q hq
 ·have:=Xy d.apart i hi j h;exact Az7 λp hp q hq e=>this.2 q hq p hp e.symm
theorem Bnk{tb:Tbl}{rs:List (List Val)}{t:T}(d:Db tb rs t):∀i (hi:i<(Ju tb t).length) j (h:j<i),(Cs tb ((Ju tb t)[j]'(by omega))).key<(Cs tb (Ju tb t)[i]).key/\Aql tb (Ju tb t)[i] ((Ju tb t)[j]'(by omega)):=λi hi j h=>by
 have h1:=Xy (Aez d) i hi j h;have hj:j<(Ju tb t).length:=by omega
 have m1:=(Pr d).1 (List.getElem_mem hi);have m2:=(Pr d).1 (List.getElem_mem hj);exact⟨h1,Bf8 d _ m1 _ m2 λe=>by rw[e] at h1;exact A3f _ h1⟩
theorem Bwr{tb:Tbl}{l:List (List Val)}(hs:G2 tb=true)(hl:l.length<=1048576)(hr:∀r,r∈l->r.length<=1048576)(hn:∀r,r∈l->G6 r)(k:Nat)(hk : 2000<k)(_:k<1000000):Aal k (tb,l)=some true:=by
 obtain⟨b,hm,hm2⟩:=Bpk (t:=tb) hl hr;simp only[Aal,hm,Zc1,Aap];cases b with
 |true=>rfl
 |false =>
  have hl2:=hm2 rfl;have c1:M6 (NodeS.mk 0 [] false [] [] [])=some 0:=Wt (t :=.no) (Nat.zero_le _);have c2:Ai2 (NodeS.mk 0 [] false [] [] [])=some (NodeS.mk 0 [] false [] [] []):=Am5 (t :=.no) (Nat.zero_le _);have hf:∀r,O9 tb r=some (Ec tb r):=λr=>Arc hs;simp only[Ag,c1,c2,Zc1,decide_true,Zt1];obtain⟨rs,t,d,hrs,e⟩:=A3v (kx:=_) (b:=false) (g:=[]) (h:=[]) (show l.length<=1000 by omega) hf hn k 0 [] .no (Bwg tb) (Nat.zero_le _) (Nat.zero_le _) (by omega);refine e.trans ?_;clear e;simp only;cases ht:J0 tb with
  |false =>
   have h0:=Buw d ht;have hc:Ji tb=some 2:=by simp only[Ji,hs,Af,ht,Ag]
   have hsc:Sl (tb,t.node.kind,t.node.path,t.node.has,t.node.val,t.node.kids,t.node.hash,[],[])=some ([],2,t.node.kind,t.node.path,t.node.has,t.node.val,t.node.kids,t.node.hash,[],[]):=by simp only[Sl,Gb,hc,Zc1];rfl
   simp only[hsc,Zc1];rw[h0];rfl
  |true =>
   have hsc:Sl (tb,t.node.kind,t.node.path,t.node.has,t.node.val,t.node.kids,t.node.hash,[],[])=some (Ju tb t,0,t.node.kind,t.node.path,t.node.has,t.node.val,t.node.kids,t.node.hash,[],[]):=Bpa d hs ht (by omega) 5000 (by omega);have hsl:=Az4 d;obtain⟨t1,t2,_⟩:=Rb ht;have hlen:∀r,r∈Ju tb t->r.length=tb.cols.length/\Fit tb r:=λr hr=>by have:=d.fit r ((Pr d).1 hr);exact⟨(N0 this.1).len,this⟩
   simp only[hsc,Zc1,decide_true,Zt1,Ag];refine(Awk (m:=k) (by omega) (by omega) t1 t2 hlen (Bnk d) k 0 (Nat.zero_le _) (by omega)).trans ?_;simp only[hsl,decide_true,Af]
theorem Ay5{H:Type}(d:DataW H) : 1<=Rows.uptoBulk d:=by cases d with|lit l=>cases l<;>simp[Rows.uptoBulk]|_=>simp[Rows.uptoBulk]
theorem Af8{H:Type}:∀{l:List (DataW H)}{d:DataW H},d∈l->Rows.uptoBulk d<=Rows.uptoBulkAll l
 |[],_,h=>by cases h
 |x::l,d,h=>by
  simp only[Rows.uptoBulkAll];rcases List.mem_cons.1 h with rfl|h
  ·omega
  ·have:=Af8 h;omega
theorem Apj{H:Type}:∀(l:List (DataW H)),l.length<=Rows.uptoBulkAll l
 |[]=>by simp[Rows.uptoBulkAll]
 |x::l=>by have:=Ay5 x;have:=Apj l;simp only[Rows.uptoBulkAll,Zf1];omega
theorem Bix{H:Type}(P:Program)(R:Nat):Msr (H:=H) P (R,R) λ_ d=>Rows.uptoBulk d<=R where
 str:=λt s h=>by simp only[Rows.uptoBulk] at h;omega
 sl:=λt e l r hu _ h hl=>by simp only[Rows.uptoBulk] at h;have:=Apj l;exact⟨by omega,λd hd=>by have:=Af8 hd;omega⟩
 agg:=λt fds l i fd d hu h hf hd=>by simp only[Rows.uptoBulk] at h;have:=Af8 (List.mem_of_getElem? hd);omega
theorem Tu{H:Type}:∀(l:List (DataW H)),Rows.uptoBulkAll l=(l.map Rows.uptoBulk).sum
 |[]=>by simp[Rows.uptoBulkAll]
 |x::l=>by simp[Rows.uptoBulkAll,Tu l]
theorem Be3{H:Type}:Siz (H:=H) Rows.uptoBulk where
 one:=Ay5
 sl:=λl r=>by rw[<-Tu,Rows.uptoBulk];omega
 agg:=λl=>by rw[<-Tu,Rows.uptoBulk];omega
theorem Bs3{H:Type}{ds gs:List (DataW H)}(h:Rows.uptoSmall H (ds++gs)=true):(ds.map Rows.uptoBulk).sum<=1048576:=by have h:Rows.uptoBulkAll (ds++gs)<=1048576:=of_decide_eq_true h;rw[Tu,List.map_append,List.sum_append] at h;omega
theorem Bpg{H:Type}{ds:List (DataW H)}(h:Rows.uptoSmall H ds=true){i:Nat}{d:DataW H}(hd:ds[i]? = some d):Rows.uptoBulk d<=1048576:=by have h:Rows.uptoBulkAll ds<=1048576:=of_decide_eq_true h;have:=Af8 (List.mem_of_getElem? hd);omega
end Go.Proofs.YtcoaaebppfbbnaaGreatDoor
namespace Go.Ax
open Go.RowKit Go.ChangeShapes Go.WideShapes
section
variable {H:Type}{enc':TypeId×Value->H}{P:Program}{w:World}{base:Nat}{sp:Nat->Bool}{held:Bool}
theorem Axg{t k e:TypeId}{fuel:Nat}{cs:List Value}{ps:List MemPlace}(ht:P.underlying t=some (.map k e))(hk:P.underlying k=some (.int .i64))(he:P.underlying e=some .string){l:List (Int×Str)}(hl:∀p,p∈l->U0 l p.1=p.2)(hno:∀n,(∀p,p∈l->p.1≠n)->U0 l n=[])(h:DataW.trod enc' P w base sp held fuel t cs=some (.map (l.map λp=>(.int .i64 p.1,.lit (.string p.2))),ps)):∃b es clk,cs=[.map (some b)]/\w.heap[b]? = some (.map es clk)/\A8s l es.toList:=by
 rcases open_anymap ht h with ⟨_,hx⟩|⟨b,es,clock,_,rfl,hb,_,_,_⟩
 ·cases hx
 cases fuel with
 |zero=>simp[DataW.trod] at h
 |succ n =>
  simp only[DataW.trod,ht,hb] at h
  ·split at h
   ·obtain⟨entries,hm,hs⟩:=Option.bind_eq_some_iff.1 h;split at hs
    ·simp[ Zp1] at hs;obtain⟨hs,_⟩:=hs;have hperm:=sorted_perm (entries.map (·.1));rw[hs] at hperm;have hx:∀(x:MapEntry) (y:(Lit×DataW H)×List MemPlace),((keyOf P k x.key).bind λkey=>if x.val.formed P e=true then(DataW.trod enc' P w base sp held n e x.val.cells.toList).map λy=>((key,y.1),y.2) else none)=some y->∃(m:Int) (s:ByteArray),x.key = .int .i64 m/\x.val = .string s/\s.size<=maxLen/\y.1=(.int .i64 m,.lit (.string s.data.toList)):=by
      intro x y hy;obtain⟨key,hk1,hy⟩:=Option.bind_eq_some_iff.1 hy;split at hy
      ·rename_i hfm;obtain⟨z,hz,rfl⟩:=Option.map_eq_some_iff.1 hy;obtain⟨s,hs1,rfl,hs3⟩:=DataW.trod_string he hz;have hv:x.val = .string s:=by
        cases hxv:x.val<;>rw[hxv] at hs1 hfm<;>simp[Value.cells] at hs1
        ·rw[hs1]
        ·simp[Value.formed,he] at hfm
       have hkk:∃m,x.key = .int .i64 m/\key = .int .i64 m:=by
        simp[keyOf] at hk1;cases hxk:x.key<;>rw[hxk] at hk1<;>simp[mapKey,hk] at hk1
        grind
       grind
      ·cases hy
     have hin:∀x,x∈es.toList->∃(m:Int) (s:ByteArray),x.key = .int .i64 m/\x.val = .string s/\s.size<=maxLen/\(m,s.data.toList)∈l:=λx hxm=>by
      obtain⟨i,hi,rfl⟩:=List.getElem_of_mem hxm;obtain⟨y,hy,hf⟩:=Lib.mapM_at hm i _ (Zo1 hi);obtain⟨m,s,h1,h2,h3,h4⟩:=hx _ y hf;refine⟨m,s,h1,h2,h3,?_⟩;have:y.1∈entries.map (·.1):=List.mem_map.2 ⟨y,List.mem_of_getElem? hy,rfl⟩
      grind
     have hout:∀p,p∈l->∃x,x∈es.toList/\x.key = .int .i64 p.1:=λp hp=>by
      have h1:(Lit.int .i64 p.1,DataW.lit (H:=H) (.string p.2))∈entries.map (·.1):=hperm.subset (List.mem_map.2 ⟨p,hp,rfl⟩);obtain⟨y,hy,e⟩:=List.mem_map.1 h1;obtain⟨x,hxm,hf⟩:=mapM_mem hm y hy
      grind
     refine⟨b,es,clock,rfl,hb,λn =>?_⟩;have hik:MapKept.IsKey (.int .i64) (.int .i64 n):=by simp[MapKept.IsKey]
     rcases MapKept.findNow_spec hik es.toList 0 (λx hxm=>by obtain⟨m,s,h1,_⟩:=hin x hxm;rw[h1];simp[MapKept.IsKey]) with ⟨h1,h2⟩|⟨j,x,h1,h2,h3⟩
     ·grind
     ·obtain⟨m,s,g1,g2,g3,g4⟩:=hin x (List.mem_of_getElem? h2);have hmn:m=n:=by grind
      subst hmn;have hg:=hl _ g4
      simp_all
    ·cases hs
   ·cases h
end
theorem Azh{H:Type}{enc':TypeId×Value->H}{P:Program}{w:World}{base:Nat}{sp:Nat->Bool}{held:Bool}:∀{ts:List TypeId}{vs:List Value}{ds:List (DataW H)}{ps:List MemPlace},DataW.TrodAll enc' P w base sp held ts vs ds ps->ds.length=ts.length:=by intro ts;induction ts with|nil=>intro vs ds ps h;cases vs<;>cases ds<;>simp[DataW.TrodAll] at h ⊢|cons t ts ih =>intro vs ds ps h;obtain⟨v,vs',d,ds',p,q,rfl,rfl,rfl,hd,hrest⟩:=trodAll_cons h;simp[ih hrest]
end Go.Ax
namespace Go.Proofs.YtcoaaebppfbbnaaGreatDoor
open Go.Ax Go.ChangeShapes Go.WideShapes Go.ChangeAt Go.RowKit Go.ChangeMaps
theorem own:ownKnob Tryz.prog.godebug=none:=by kernel_rfl
def rdL:List Nat:=[3,4,9,5,56,109,54,161,112,28,24,22,23,110,43,107,106,59,25,27,30]
theorem Bsw:rdB elT (Ag6 ttL) rdL=true:=by kernel_rfl
theorem Buu:szB Tryz.prog elT (Ag6 ttL) rdL=true:=by kernel_rfl
theorem Bqd:laidOutB Tryz.prog=true:=by kernel_rfl
def GlE(x:Vx)(g:Nat):Gv->Prop
 |.arr c xs=>∀i y,xs[i]? = some y->∀w',Chg x.S x.w w'->At w' c y g (i*csz c)
 |.map l=>∃r es clk,(∀w',Chg x.S x.w w'->w'.cell? ⟨g,0,none⟩=some (.map (some r))/\w'.heap[r]? = some (.map es clk))/\A8s l es.toList
 |.num k=>∃n,∀w',Chg x.S x.w w'->w'.cell? ⟨g,0,none⟩=some (.int k n)
theorem Df{α:Type}:∀{L:List (Nat×α)}{g:Nat}{v : α},tbl L g=some v->(g,v)∈L
 |[],_,_,h=>by simp[tbl] at h
 |(k,u)::L,g,v,h=>by
  simp[tbl] at h;split at h
  ·simp_all
  ·exact Zu1 _ (Df h)
theorem Bo8{x:Vx}{L:List (Nat×Gv)}(h:∀p,p∈L->GlE x p.1 p.2):GlR x (tbl L) :=⟨λ_ _ _ hg=>h _ (Df hg),λ_ _ hg=>h _ (Df hg),λ_ _ hg=>h _ (Df hg)⟩
theorem Azv{P:Program}{w:World}:∀{l:List (String×DataW Unit)}{ps:List MemPlace},DataW.LaidVars P w l ps->∀x,x∈l->∃g t cs fuel p,P.globalNamed x.1=some g/\(P.globals[g]?).map (·.type)=some t/\w.var? P x.1=some cs/\DataW.trod (λ_=>()) P w 0 (λ_=>true) false fuel t cs.toList=some (x.2,p)
 |[],_,_,x,hx=>by cases hx
 |(n,d)::r,ps,h,x,hx=>by
  obtain⟨g,t,cs,fuel,p,q,h1,h2,h3,h4,h5,_⟩:=h;rcases List.mem_cons.1 hx with rfl|hx
  ·grind
  ·exact Azv h5 x hx
theorem Bqu:∀p,p∈signsL->U0 signsL p.1=p.2:=by decide
theorem Bpw(l:List (Int×Str)):∀n,(∀p,p∈l->p.1≠n)->U0 l n=[]:=by
 induction l with
 |nil=>intro n _;rfl
 |cons p l ih =>
  intro n h;obtain⟨k,s⟩:=p;have h1:k≠n:=h (k,s) (by simp);simp[U0,Zd1 h1]
  grind
theorem Baj{W:World}{l:List (String×DataW Unit)}(h:laidMet Tryz.prog l W)(hin:("exchequer/ast.signs",Rows.laid_exchequer_ast_signs)∈l):GlE (v0 elT B9 W) 2 (.map signsL):=by
 obtain⟨ps,hl,_⟩:=h;obtain⟨g',t',cs,fuel,p,hg',ht',hvar,hd⟩:=Azv hl _ hin;obtain rfl:=Option.some.inj ((show Tryz.prog.globalNamed "exchequer/ast.signs" = some 2 by kernel_rfl).symm.trans hg');obtain rfl:=Option.some.inj ((show(Tryz.prog.globals[2]?).map (·.type)=some 292 by kernel_rfl).symm.trans ht');obtain⟨b,es,clk,h1,h2,h3⟩:=Axg (l:=signsL) (t:=292) (k:=3) (e:=9) (by kernel_rfl) (by kernel_rfl) (by kernel_rfl) Bqu (Bpw signsL) hd;have hc:=World.var?_cell hg' hvar 0;have h1':cs = #[.map (some b)]:=by grind
 rw[h1'] at hc;have hlt:b<W.heap.size:=(Zh2.1 h2).1;exact⟨b,es,clk,λw' hw=>⟨hw.cell _ 0 _ hc (λh=>h),by rw[hw.block b hlt (λ_ h=>h)];exact h2⟩,h3⟩
theorem Bpz{W:World}(h:W.ShapedOpen Tryz.prog):GlE (v0 elT B9 W) 0 (.num .i64):=by obtain⟨m,hm⟩:=Go.Proofs.cell_of_shapedOpen_int (zero := #[.int .i64 0]) (t:=3) (g:=0) h (of_decide_eq_true (by kernel_rfl)) (by kernel_rfl) rfl (by kernel_rfl) (by kernel_rfl) Tryz.underlying3;exact⟨m,λw' hw=>hw.cell _ 0 _ hm (λh=>h)⟩
def Br1(l:List (String×DataW Unit)):Prop:=(l.all λx=>x.2.handleName?.isNone)=true
 /\ ("exchequer/ast.signs",Rows.laid_exchequer_ast_signs)∈l
 /\ True
theorem Bpt{W:World}{l:List (String×DataW Unit)}(hl:Br1 l)(hL:laidMetH Tryz.prog l W)(hS:W.ShapedOpen Tryz.prog):GlR (v0 elT B9 W) glT:=by
 have hL':laidMet Tryz.prog l W:=by
  have hf:(l.filter λx=>x.2.handleName?.isSome)=[]:=List.filter_eq_nil_iff.2 λx hx=>by have:=Zg2.1 hl.1 x hx;rw[Option.isNone_iff_eq_none] at this;simp[this]
  unfold laidMetH at hL;rw[hf] at hL;exact hL
 replace hl:=hl.2;clear hL;have _:=hS;refine Bo8 λp hp =>?_;have hsigns:=Baj hL' hl.1;replace hl:=hl.2;have hmax:=Bpz hS;simp only[List.mem_cons,List.not_mem_nil,or_false] at hp
 repeat' (first|(rcases hp with rfl|hp)|subst hp)
 all_goals assumption
def Bv3:DataW Unit->Value
 |.lit (.int k n) =>.int k n
 |.lit (.string s) =>.string ⟨s.toArray⟩
 |_ =>.int .u8 0
def Aix:DataW Unit->List Value
 |.agg l=>l.map Bv3
 |_=>[]
def Btg:DataW Unit->List Value
 |.agg l=>l.flatMap Aix
 |_=>[]
def A2m(vs:List Value):Obj->Obj
 |.cells _ t frozen =>.cells vs.toArray t frozen
 |o=>o
noncomputable def Bjh(h:Array Obj):Array Obj :=
 let h:=(h.modify 4 (A2m (Aix Rows.laid_unicode_utf8_first))).modify 5 (A2m (Btg Rows.laid_unicode_utf8_acceptRanges));let h:=(h.modify 2 (A2m [.map (some h.size)])).push (.map ((signsL.zip (List.range 11)).map λp=>(⟨.int .i64 p.1.1,.string ⟨p.1.2.toArray⟩,p.2⟩:MapEntry)).toArray 11)
 h
noncomputable def Abe(os:Os):World :={ World.holding Tryz.prog os ⟨#[], #[],[]⟩ with heap:=Bjh (World.holding Tryz.prog os ⟨#[], #[],[]⟩).heap }
set_option maxRecDepth 100000 in
theorem A4h{H:Type}{R:Nat×Nat}{M:TypeId->DataW H->Prop}(hM:Msr Tryz.prog R M){enc:TypeId×Value->H}{f:FuncId}{fn:Func}{sa:List Sg}{F:FT sa [.bool]}{s:ChangeSpec}(hok:FnOk Tryz.prog elT glT f sa [.bool] F){Z:HV sa->Prop}(hF:∀x,BdL sa x->SmL R sa x->Z x->F x=some true)
  (hr:fn.resultTypes = #[4]) (hv:s.vars=[]) (hf:∀ds,ds.length=fn.params.toList.length->(s.fn H ds).results=[.lit (.bool true)]/\(s.fn H ds).args=ds/\(s.fn H ds).vars=[])
  (hsg:Anq (Ag6 ttL) rdL fn.params.toList sa=true) (hread:(fn.params.toList.all λt=>Tryz.prog.readableRec t&&Nat.blt t Tryz.prog.types.size)=true)
  {W:World}{base:Nat}{args:Array Value}{ds gs:List (DataW H)}{before:List MemPlace}(hval:∀(j:Nat) t v,fn.params[j]? = some t->args[j]? = some v->Value.okWide Tryz.prog W .any base t v)
  (hW:DataW.Whole enc Tryz.prog fn.params.toList s.vars false W args.toList ds gs before) (hgl:GlR (v0 elT B9 W) glT) (hsz:ds.length=fn.params.toList.length->∀(i:Nat) (t:TypeId) (d:DataW H),fn.params.toList[i]? = some t->ds[i]? = some d->M t d) (hZ:∀x,(∀m,Siz m->szL sa x<=(ds.map m).sum)->Z x) :
  Calls Tryz.prog f args W λe W'=>∃v,e = .returned v/\s.post enc Tryz.prog fn false true false false W args v W':=by
 have hW':=hW;have hlt:=hW.lt;obtain⟨p,q,hA,hV,rfl,hfz,hnd⟩:=hW;rw[hv] at hV;obtain⟨rfl,rfl⟩:=trodVars_none hV;have hlen:=Azh hA;obtain⟨x,hx,hsm,hxz⟩:=Ayp hM (λt=>Ajh Xa t) Bsw Buu 0 hsg (λj t v h1 h2=>hval j t v (by simpa using h1) (by simpa using h2)) hA;have hcall:=hok.calls (hF x (Y9 hx) (hsm (hsz hlen)) (hZ x hxz)) hgl hx;have e1:args.toList.toArray=args:=by simp
 rw[e1] at hcall;refine hcall.mono λen W' =>?_;rintro⟨rfl,hb⟩;refine⟨_,rfl,?_⟩;obtain⟨h1,h2,h3⟩:=hf ds hlen;have e2:ds++([]:List (DataW H))=ds:=by simp
 refine⟨ds,[],_,[],p,[],hW',?_,?_,?_,hb.frame _,λh=>by cases h⟩
 ·rw[e2,h1,hr];exact trodAll_cons_mk (shut_bool Tryz.underlying4 _) trodAll_mk0
 ·rw[e2,h2];refine Ani Bqd hb (λt ht =>?_) (λx hx=>hlt x (by simp[hx])) hA;have:=Zg2.1 hread t ht;simp at this;exact⟨this.1,by simpa using this.2⟩
 ·rw[e2,h3,hv];exact rfl
end Go.Proofs.YtcoaaebppfbbnaaGreatDoor
