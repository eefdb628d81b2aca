/- Texts of the proof,one behind the other: AxFr,Mu,Zg,Rq,Rr,Opa,Op,Zp,Zd,Zs,Zt,Zu,Zo,Zn,Zx,Ub,AxFs,FrG. -/
import Derived.Test.YtcoaaebppfbbnaaGreatDoorJ16
import Derived.ChangeArms
import Derived.WideShapes
import Derived.Carry
import Derived.ChangeShapes
import Derived.Lib.LaidTab
import Derived.SizedLaws
import Derived.Test.YtcoaaebppfbbnaaGreatDoorRows
import Derived.ProofKit
import Derived.ChangeMaps5
import Derived.ChangeAnyMap
import Derived.Test.YtcoaaebppfbbnaaGreatDoorCards
import Derived.Test.YtcoaaebppfbbnaaGreatDoorTie
import Derived.OpenShut
import Derived.Deep.DeepHandedRow
import Derived.Shelf.Vars
set_option linter.all false
namespace Go.Ax
open Go.RowKit Go.ChangeShapes
def shp:D->D->Bool
 |.int k _,.int k' _=>decide (k=k')
 |.bool _,.bool _=>true
 |.str _,.str _=>true
 |.sl c _ _,.sl c' _ _=>decide (c=c')
 |_,_=>false
def Ii:List D->List D->Bool
 |[],[]=>true
 |a::l,b::m=>shp a b&&Ii l m
 |_,_=>false
theorem Btr{a b c:D}(h:shp a b=true)(k:shp a c=true):shp b c=true:=by cases a<;>cases b<;>simp[shp] at h<;>cases c<;>simp[shp] at k<;>subst_vars<;>simp[shp]
theorem A6k:∀{a b c:List D},Ii a b=true->Ii a c=true->Ii b c=true
 |[],[],[],_,_=>rfl
 |x::a,y::b,z::c,h,k=>by simp only[Ii,Zb1] at h k ⊢;exact⟨Btr h.1 k.1,A6k h.2 k.2⟩
 |[],_::_,_,h,_=>by simp[Ii] at h
 |_::_,[],_,h,_=>by simp[Ii] at h
 |[],[],_::_,_,k=>by simp[Ii] at k
 |_::_,_::_,[],_,k=>by simp[Ii] at k
theorem Adi:∀{a b c d:List D},Ii a b=true->Ii c d=true->Ii (a++c) (b++d)=true
 |[],[],_,_,_,k=>k
 |_::a,_::b,_,_,h,k=>by simp only[Ii,Zb1,Zb2] at h ⊢;exact⟨h.1,Adi h.2 k⟩
 |[],_::_,_,_,h,_=>by simp[Ii] at h
 |_::_,[],_,_,h,_=>by simp[Ii] at h
theorem A60{k:IntKind}{n:Int}{d:D}(h:shp (.int k n) d=true):∃m,d = .int k m:=by
 cases d<;>simp[shp] at h
 subst h;exact⟨_,rfl⟩
theorem Bf4{b:Bool}{d:D}(h:shp (.bool b) d=true):∃m,d = .bool m:=by
 cases d<;>simp[shp] at h
 exact⟨_,rfl⟩
theorem A7n{s:Str}{d:D}(h:shp (.str s) d=true):∃m,d = .str m:=by
 cases d<;>simp[shp] at h
 exact⟨_,rfl⟩
theorem Bl2{c:Ck}{xs:List (El c)}{t:Tk}{d:D}(h:shp (.sl c xs t) d=true):∃ys u,d = .sl c ys u:=by
 cases d<;>simp[shp] at h
 subst h;exact⟨_,_,rfl⟩
theorem Rs{a:D}{l ds:List D}(h:Ii (a::l) ds=true):∃b m,ds=b::m/\shp a b=true/\Ii l m=true:=by cases ds with|nil=>simp[Ii] at h|cons b m =>simp only[Ii,Zb1] at h;exact⟨b,m,rfl,h.1,h.2⟩
theorem Xy{ds:List D}(h:Ii [] ds=true):ds=[]:=by cases ds with|nil=>rfl|cons b m=>simp[Ii] at h
theorem Aqs{c:Ck}{z ds:List D}(h:(dec c z).isSome=true)(hs:Ii z ds=true):∃y,dec c ds=some y:=by
 obtain⟨y0,h⟩:=Option.isSome_iff_exists.1 h;unfold dec at h;split at h;all_goals first
  |(cases h;done)
  |skip
 all_goals
  clear h
  repeat (
   obtain⟨b,m,e,h1,hs'⟩:=Rs hs;clear hs;have hs:=hs';clear hs';subst e
   first
    |(obtain⟨_,e⟩:=A60 h1;subst e)
    |(obtain⟨_,e⟩:=Bf4 h1;subst e)
    |(obtain⟨_,e⟩:=A7n h1;subst e)
    |(obtain⟨_,_,e⟩:=Bl2 h1;subst e))
  have e:=Xy hs;subst e;exact⟨_,rfl⟩
def Axn(R:Nat×Nat)(v:Val):Prop:=v.s.length<=R.1
inductive SmExpr (R:Nat×Nat):Xpr->Prop
 |mk (k:Int) (v:Val) (nm:Str) (l:List Xpr):Axn R v->nm.length<=R.1->l.length<=R.2->(∀e,e∈l->SmExpr R e)->SmExpr R (.mk k v nm l)
structure SmStm (R:Nat×Nat) (s:Stm):Prop where
 name:s.name.length<=R.1
 on:s.on.length<=R.1
 cols:s.cols.length<=R.2/\∀c,c∈s.cols->c.name.length<=R.1/\c.ref.length<=R.1
 names:s.names.length<=R.2/\∀x,x∈s.names->x.length<=R.1
 l:s.l.length<=R.2/\∀x,x∈s.l->SmExpr R x
 rows:s.rows.length<=R.2/\∀r,r∈s.rows->r.length<=R.2/\∀x,x∈r->SmExpr R x
 sets:s.sets.length<=R.2/\∀x,x∈s.sets->x.name.length<=R.1/\SmExpr R x.e
 whr:SmExpr R s.whr
 order:s.order.length<=R.2/\∀x,x∈s.order->x.length<=R.1
 desc:s.desc.length<=R.2
def Br6(R:Nat×Nat)(x:Idx):Prop:=x.name.length<=R.1/\x.cols.length<=R.2/\∀s,s∈x.cols->s.length<=R.1
structure SmTbl (R:Nat×Nat) (t:Tbl):Prop where
 name:t.name.length<=R.1
 cols:t.cols.length<=R.2/\∀c,c∈t.cols->c.name.length<=R.1/\c.ref.length<=R.1
 key:t.key.length<=R.2/\∀x,x∈t.key->x.length<=R.1
 checks:t.checks.length<=R.2/\∀x,x∈t.checks->SmExpr R x
 idx:t.idx.length<=R.2/\∀x,x∈t.idx->Br6 R x
def Br8(R:Nat×Nat)(r:ResS):Prop:=r.rows.length<=R.2/\∀l,l∈r.rows->l.length<=R.2/\∀x,x∈l->Axn R x
def SmK(R:Nat×Nat):(c:Ck)->El c->Prop
 |.str,s=>s.length<=R.1
 |.val,v=>Axn R v
 |.tok,t=>t.s.length<=R.1
 |.col,c=>c.name.length<=R.1/\c.ref.length<=R.1
 |.expr,e=>SmExpr R e
 |.vals,l=>l.length<=R.2/\∀x,x∈l->Axn R x
 |.exprs,l=>l.length<=R.2/\∀x,x∈l->SmExpr R x
 |.strs,l=>l.length<=R.2/\∀x,x∈l->x.length<=R.1
 |.set,s=>s.name.length<=R.1/\SmExpr R s.e
 |.stmt,s=>SmStm R s
 |.idx,x=>Br6 R x
 |.tbl,t=>SmTbl R t
 |.res,r=>Br8 R r
 |.outc,o=>o.l.length<=R.2/\∀r,r∈o.l->Br8 R r
 |_,_=>True
def SmD(R:Nat×Nat):D->Prop
 |.str l=>l.length<=R.1
 |.sl c xs _=>xs.length<=R.2/\∀x,x∈xs->SmK R c x
 |_=>True
def SmS(R:Nat×Nat):(s:Sg)->den s->Prop
 |.str,s=>s.length<=R.1
 |.sl c _,xs=>xs.length<=R.2/\∀x,x∈xs->SmK R c x
 |.sv c,x=>SmK R c x
 |_,_=>True
def SmL(R:Nat×Nat):(l:List Sg)->HV l->Prop
 |[],_=>True
 |[a],x=>SmS R a x
 |a::b::l,(x,y)=>SmS R a x/\SmL R (b::l) y
theorem Bf1{R:Nat×Nat}{c:Ck}{ds:List D}{y:El c}(h:dec c ds=some y)(hd:∀d,d∈ds->SmD R d):SmK R c y:=by
 unfold dec at h;split at h<;>simp only[Za1,reduceCtorEq] at h<;>subst h<;>simp only[List.mem_cons,List.not_mem_nil,or_false,forall_eq_or_imp,forall_eq,SmD] at hd<;>simp only[SmK,Axn]<;>first
  |trivial
  |exact hd
  |exact hd.1
  |exact hd.2.2
  |exact hd.2.2.1
  |exact⟨hd.1,hd.2.2.2.2⟩
  |exact .mk _ _ _ _ hd.2.2.2.1 hd.2.2.2.2.1 hd.2.2.2.2.2.1 hd.2.2.2.2.2.2
  |exact⟨hd.1,.mk _ _ _ _ hd.2.2.2.2.1 hd.2.2.2.2.2.1 hd.2.2.2.2.2.2.1 hd.2.2.2.2.2.2.2⟩
  |exact⟨hd.1,hd.2.1,hd.2.2.1,hd.2.2.2.1,hd.2.2.2.2⟩
  |(obtain⟨_,h1,h2,h3,h4,h5,h6,h7,_,_,_,_,w1,w2,w3,h8,h9,_⟩:=hd
    exact⟨h1,h2,h3,h4,h5,h6,h7,.mk _ _ _ _ w1 w2 w3.1 w3.2,h8,h9.1⟩)
structure Msr {H:Type}(P:Program) (R:Nat×Nat) (M:TypeId->DataW H->Prop):Prop where
 str:∀(t:TypeId) (s:List UInt8),M t (.lit (.string s))->s.length<=R.1
 sl:∀(t e:TypeId) (l r:List (DataW H)),P.underlying t=some (.slice e)->1<=P.bytesOf e->M t (.slice l r)->l.length<=9223372036854775807->l.length<=R.2/\∀d,d∈l->M e d
 agg:∀(t:TypeId) (fds:Array Field) (l:List (DataW H)) (i:Nat) (fd:Field) (d:DataW H),P.underlying t=some (.struct fds)->M t (.agg l)->fds[i]? = some fd->l[i]? = some d->M fd.type d
mutual
def xsz:Xpr->Nat
 |.mk _ _ _ l=>1+xszs l
def xszs:List Xpr->Nat
 |[]=>0
 |x::l=>1+xsz x+xszs l
end
def szD:D->Nat
 |.sl .expr xs _=>2*xszs xs
 |_=>0
def Agt(ds:List D):Nat:=(ds.map szD).sum+ds.length
def szK:(c:Ck)->El c->Nat
 |.expr,e=>2*(1+xsz e)
 |.tbl,t=>2*xszs t.checks
 |_,_=>0
theorem Bex{c:Ck}{ds:List D}{y:El c}(h:dec c ds=some y):szK c y<=Agt ds:=by unfold dec at h;split at h<;>simp only[Za1,reduceCtorEq] at h<;>subst h<;>simp only[szK,Nat.zero_le]<;>simp[Agt,szD,xsz]<;>omega
structure Siz {H:Type}(m:DataW H->Nat):Prop where
 one:∀d,1<=m d
 sl:∀l r,(l.map m).sum+1<=m (.slice l r)
 agg:∀l,(l.map m).sum<=m (.agg l)
theorem Av8{H:Type}{m:DataW H->Nat}{c:Ck}:∀(ys:List (El c)) (es:List (DataW H)),ys.length=es.length->(∀(i:Nat) y e,ys[i]? = some y->es[i]? = some e->szK c y<=m e)->szD (.sl c ys .no)<=(es.map m).sum
 |[],_,_,_=>by cases c<;>simp[szD,xszs]
 |y::ys,[],h,_=>by simp at h
 |y::ys,e::es,h,k=>by have h1:=k 0 y e rfl rfl;have h2:=Av8 ys es (by simpa using h) λi y e hy he=>k (i+1) y e (by simpa using hy) (by simpa using he);cases c<;>simp only[szD,szK,xszs,Zw1,List.sum_cons] at h1 h2 ⊢ <;> omega
def zc(t:Ty):List D:=match t.zero with|some z=>cells z|none=>[]
def Aga(tt:Nat->Ty)(rd:List Nat):Nat->List (Nat×Nat)->List D->Bool
 |_,[],z=>z.isEmpty
 |o,(o',u)::fs,z=>Nat.beq o' o&&rd.contains u&&Nat.ble (zc (tt u)).length z.length&&Ii (zc (tt u)) (z.take (zc (tt u)).length)&&Aga tt rd (o+(zc (tt u)).length) fs (z.drop (zc (tt u)).length)
def Bgq(el:Ck->TypeId)(tt:Nat->Ty)(rd:List Nat)(t:Nat):Bool:=match tt t with|.int _|.bool|.str=>true|.sl c=>rd.contains (el c)&&(dec c (zc (tt (el c)))).isSome|.st _ fs z=>Aga tt rd 0 fs z|_=>false
def rdB(el:Ck->TypeId)(tt:Nat->Ty)(rd:List Nat):Bool:=rd.all λt=>Bgq el tt rd t&&Nat.beq (zc (tt t)).length (tt t).n
def szB(P:Program)(el:Ck->TypeId)(tt:Nat->Ty)(rd:List Nat):Bool:=rd.all λt=>match tt t with|.sl c=>Nat.ble 1 (P.bytesOf (el c))|_=>true
theorem Ad3{α:Type}{p:Nat->α->Prop}:∀(n:Nat),(∀i,i<n->∃y,p i y)->∃ys:List α,ys.length=n/\∀i y,ys[i]? = some y->p i y
 |0,_=>⟨[],rfl,by simp⟩
 |n+1,h=>by
  obtain⟨ys,h1,h2⟩:=Ad3 n (λi hi=>h i (by omega));obtain⟨y,hy⟩:=h n (by omega);refine⟨ys++[y],by simp[h1],λi z hz =>?_⟩;rcases Nat.lt_trichotomy i n with hi|rfl|hi
  ·rw[List.getElem?_append_left (by omega)] at hz;exact h2 i z hz
  ·rw[List.getElem?_append_right (by omega),h1] at hz;simp at hz;subst hz;exact hy
  ·rw[List.getElem?_eq_none (by simp;omega)] at hz;cases hz
section
variable {H:Type}{enc':TypeId×Value->H}{P:Program}{el:Ck->TypeId}{tt:Nat->Ty}{rd:List Nat}{w:World}{sp:Nat->Bool}{held:Bool}
theorem V9{t:TypeId}{n:Nat}(h:Sx.tySz P t=some n):P.cellsOf t=n:=by unfold Sx.tySz at h;simp[Program.cellsOf,h]
theorem Ahq{a:Addr}{n:Nat}{vs:List Value}(h:w.cells? 0 a n=some vs):vs.length=n/\∀j u,vs[j]? = some u->w.cell? (a.add j)=some u:=by
 unfold World.cells? at h;simp only[Nat.zero_le,if_true] at h;refine⟨by simpa using Lib.mapM_length h,λj u hj =>?_⟩;have hlt:j<n:=by have:=Lib.mapM_length h;have h2:=(Zi2.1 hj).1;simp at this;omega
 obtain⟨u',hu,hf⟩:=Lib.mapM_at h j j (by simp[hlt]);rw[hj] at hu;simp only[Za1] at hu;subst hu;exact hf
theorem A1c{a:Addr}{u:Value}(h:w.cell? a=some u):a.spot=none:=by
 unfold World.cell? at h;split at h
 ·split at h
  ·cases h
  ·rename_i hs;cases hq:a.spot with|none=>rfl|some q=>rw[hq] at hs;simp at hs
 ·cases h
theorem Auq{R:Nat×Nat}{M:TypeId->DataW H->Prop}(hM:Msr P R M)(hT:∀t,Cs P el tt t=true)(hrd:rdB el tt rd=true)(hsb:szB P el tt rd=true):∀(fuel:Nat) (t:TypeId) (cs:List Value) (x:DataW H×List MemPlace),rd.contains t=true->DataW.trod enc' P w 0 sp held fuel t cs=some x->∃ds,Ii (zc (tt t)) ds=true/\Reps (v0 el C1 w) ds cs/\(M t x.1->∀d,d∈ds->SmD R d)/\∀m,Siz m->Agt ds<=m x.1
 |0,t,cs,x,_,h=>by simp[DataW.trod] at h
 |fuel+1,t,cs,x,hc,h=>by
  have hloc:=Zg2.1 hrd t (by simpa using hc);simp only[Zb1] at hloc;obtain⟨hloc,hzl⟩:=hloc;have hzl:=Zl1 hzl;have hszB:=Zg2.1 hsb t (by simpa using hc);unfold Bgq at hloc;split at hloc
  ·rename_i k hty;have hu:=Sx.tyI_spec (Ah0 (hT t) hty);obtain⟨n,rfl,_,hw⟩:=DataW.trod_int hu h;refine⟨[.int k n],by(rw[hty];show(decide (k=k)&&true)=true;simp),?_,λ_ d hd=>by simp only[List.mem_singleton] at hd;subst hd;trivial,λm hm=>by simpa[Agt,szD] using hm.one _⟩;simp only[Reps,Rep];exact⟨_,_,rfl,⟨rfl,hw⟩,rfl⟩
  ·rename_i hty;have hu:=Sx.tyB_spec (Ach (hT t) hty);obtain⟨b,rfl,_⟩:=DataW.trod_bool hu h;refine⟨[.bool b],by rw[hty];rfl,?_,λ_ d hd=>by simp only[List.mem_singleton] at hd;subst hd;trivial,λm hm=>by simpa[Agt,szD] using hm.one _⟩;simp only[Reps,Rep];exact⟨_,_,rfl,rfl,rfl⟩
  ·rename_i hty;have hu:=Sx.tyS_spec (G0 (hT t) hty);obtain⟨s,rfl,rfl,hs⟩:=DataW.trod_string hu h;refine⟨[.str s.data.toList],by rw[hty];rfl,?_,λhwt d hd=>by simp only[List.mem_singleton] at hd;subst hd;exact hM.str _ _ hwt,λm hm=>by simpa[Agt,szD] using hm.one _⟩
   simp only[Reps,Rep];exact⟨_,_,rfl,⟨(by rw[Array.toArray_toList]),(by rw[Array.length_toList];exact hs)⟩,rfl⟩
  ·rename_i c hty;simp only[Zb1] at hloc;obtain⟨hel,hdec⟩:=hloc;have hbz : 1<=P.bytesOf (el c):=by rw[hty] at hszB;exact Nat.le_of_ble_eq_true hszB
   obtain⟨by_,hE,_,_⟩:=Cr (hT t) hty;have hu:=hE.und;obtain⟨_,i0,z,hi0,hz,hsz,_⟩:=hE;have hco:P.cellsOf (el c)=csz c:=V9 (by simp[Sx.tySz,hi0,hsz]);rcases DataW.trod_slice hu h with ⟨rfl,_⟩|⟨a,len,cap,elems,rest,n,hf,rfl,rfl,_,hle,hmax,hlen,hel2,_⟩
   ·refine⟨[.sl c [] .no],by(rw[hty];show(decide (c=c)&&true)=true;simp),?_,λ_ d hd=>by
     simp only[List.mem_singleton] at hd;subst hd;exact⟨Nat.zero_le _,λx hx=>by cases hx⟩,λm hm=>by
     have h0:szD (.sl c [] .no)=0:=by cases c<;>rfl
     simpa[Agt,h0] using hm.one _⟩
    simp only[Reps,Rep];exact⟨_,_,rfl,⟨λ_ _ =>.nil _ _ _ _ trivial,trivial⟩,rfl⟩
   ·have hf:fuel=n:=by omega
    subst hf;have each:∀i,i<len->∃y:El c,(∃vs:List Value,w.cells? 0 (a.add (i*csz c)) (csz c)=some vs/\ElR (v0 el C1 w) c y vs)/\(M t (DataW.slice (elems.map (·.1)) (rest.map (·.1)))->SmK R c y)/\∀m e,Siz m->elems[i]? = some e->szK c y<=m e.1:=λi hi=>by have h1:=hel2 i hi;have hsome:∃e,elems[i]? = some e:=⟨_,Zo1 (by omega)⟩;obtain⟨e,he⟩:=hsome;rw[he] at h1;obtain⟨vs,hv,ht⟩:=Option.bind_eq_some_iff.1 h1;rw[hco] at hv;obtain⟨ds,hs,hr,hsm,hsz⟩:=Auq hM hT hrd hsb fuel (el c) vs e hel ht;obtain⟨y,hy⟩:=Aqs hdec hs;exact⟨y,⟨vs,hv,Qj hy hr⟩,λhwt=>Bf1 hy (hsm ((hM.sl _ _ _ _ hu hbz hwt (by have:maxLen=9223372036854775807:=rfl;simp only[List.length_map];omega)).2 e.1 (List.mem_map.2 ⟨e,List.mem_of_getElem? he,rfl⟩))),λm e' hm he'=>by rw[he] at he';cases he';exact Nat.le_trans (Bex hy) (hsz m hm)⟩
    obtain⟨ys,hyl,hys'⟩:=Ad3 len each;have hys:=λi y hy=>(hys' i y hy).1;refine⟨[.sl c ys .no],by(rw[hty];show(decide (c=c)&&true)=true;simp),?_,λhwt d hd=>by
     simp only[List.mem_singleton] at hd;subst hd;refine⟨?_,λy hy =>?_⟩
     ·have:=(hM.sl _ _ _ _ hu hbz hwt (by have:maxLen=9223372036854775807:=rfl;simp only[List.length_map];omega)).1;simp only[List.length_map] at this;omega
     ·obtain⟨i,hi,rfl⟩:=List.getElem_of_mem hy;exact(hys' i _ (Zo1 hi)).2.1 hwt,λm hm=>by
     have h1:=Av8 (m:=m) ys (elems.map (·.1)) (by simp;omega) λi y e hy he=>by rw[List.getElem?_map] at he;obtain⟨e',he',rfl⟩:=Option.map_eq_some_iff.1 he;exact(hys' i y hy).2.2 m e' hm he'
     have h2:=hm.sl (elems.map (·.1)) (rest.map (·.1));simp only[Agt,Zw1,List.map_nil,List.sum_cons,List.sum_nil,Zf1,Zi1];omega⟩
    simp only[Reps,Rep];refine⟨_,_,rfl,⟨J3 hyl.symm ?_,trivial⟩,rfl⟩;by_cases h0:ys=[]
    ·exact .inl h0
    ·right;have hsn:a.spot=none:=by have hlt : 0<ys.length:=List.length_pos_iff.2 h0;obtain⟨vs,hv,hE⟩:=hys 0 _ (Zo1 hlt);obtain⟨h1,h2⟩:=Ahq hv;have hp:=Ae9 c;have:=h2 0 _ (Zo1 (by omega));simp only[Nat.zero_mul,Addr.add,if_true] at this;exact A1c this
     obtain⟨b,o,s⟩:=a;simp only at hsn;subst hsn;refine⟨b,o,rfl,⟨by omega,hmax⟩,λi y hy w' hw j d hd =>?_⟩;obtain⟨vs,hv,hE⟩:=hys i y hy;obtain⟨_,h2⟩:=Ahq hv;obtain⟨u,hu',hf⟩:=hE.2 j d hd;have hcell:=h2 j u hu';rw[Sx.add_mk,Sx.add_mk] at hcell;exact⟨u,hw.cell b _ u hcell (λh=>h),hf w' hw⟩
  ·rename_i cc fs z hty;have hbase:=Dm (hT t) (by rw[hty];simp);have hsz:P.cellsOf t=z.length:=by have:=V9 hbase.2.2;rw[this,hty];rfl
   have hok:=hT t;unfold Cs at hok;rw[hty] at hok;simp only[Zb1] at hok;have hfl:=hok.2;split at hfl
   ·rename_i fds hu;simp only[Zb1] at hfl;have hfl:=hfl.1;obtain⟨xs,n,hf,rfl,hcl,hxl,hfx⟩:=DataW.trod_struct hu h;have hf:fuel=n:=by omega
    subst hf;have key:∀(l:List (Nat×Nat)) (i o:Nat) (z':List D),fs.drop i=l->Aga tt rd o l z' = true->o+z'.length=cs.length->∃ds,Ii z' ds=true/\Reps (v0 el C1 w) ds (cs.drop o)/\(M t (DataW.agg (xs.map (·.1)))->∀d,d∈ds->SmD R d)/\∀m,Siz m->Agt ds<=(((xs.map (·.1)).drop i).map m).sum:=by
     intro l;induction l with
     |nil =>intro i o z' _ hct ho;simp only[Aga,List.isEmpty_iff] at hct;subst hct;refine⟨[],rfl,?_,λ_=>(λd hd=>by cases hd),λ_ _=>Nat.zero_le _⟩;rw[Zk1 (by simp at ho;omega)];simp[Reps]
     |cons q l ih =>
      intro i o z' hd hct ho;obtain⟨o',u⟩:=q;simp only[Aga,Zb1] at hct;obtain⟨⟨⟨⟨ho',hcu⟩,hle⟩,hsh⟩,hct⟩:=hct;have ho':=Zl1 ho';subst ho';have hle:=Nat.le_of_ble_eq_true hle;have hget:fs[i]? = some (o',u):=by have:=congrArg (·[0]?) hd;simpa[List.getElem?_drop] using this
      obtain⟨fd,g1,g2,g3,_⟩:=Ab4 hfl hget;have g1':fds[i]? = some fd:=by simpa using g1
      have h1:=hfx i fd g1';rw[g2,g3] at h1;have hxi:∃e,xs[i]? = some e:=⟨_,Zo1 (by have:=(Zh2.1 g1').1;omega)⟩
      obtain⟨e,he⟩:=hxi;rw[he] at h1;have hlu:=Zg2.1 hrd u (by simpa using hcu);simp only[Zb1] at hlu;have hnu:=Zl1 hlu.2;have hneu:tt u ≠ .no:=by intro e;have:=hlu.1;unfold Bgq at this;rw[e] at this;cases this
      have hcou:P.cellsOf u=(zc (tt u)).length:=by rw[V9 (Dm (hT u) hneu).2.2,hnu]
      rw[hcou] at h1;obtain⟨ds1,s1,r1,m1,z1⟩:=Auq hM hT hrd hsb fuel u _ e hcu h1;obtain⟨ds2,s2,r2,m2,z2⟩:=ih (i+1) (o'+(zc (tt u)).length) _ (by rw[<-List.drop_drop,hd];rfl) hct (by simp;omega);refine⟨ds1++ds2,?_,?_,λhwt d hd=>by
       rcases List.mem_append.1 hd with hd|hd
       ·refine m1 ?_ d hd;rw[<-g2];exact hM.agg _ _ _ i fd e.1 hu hwt g1' (by rw[List.getElem?_map,he];rfl)
       ·exact m2 hwt d hd,λm hm=>by
       have h1:=z1 m hm;have h2:=z2 m hm;have h3:(xs.map (·.1))[i]? = some e.1:=by rw[List.getElem?_map,he];rfl
       obtain⟨hl3,h4⟩:=Zi2.1 h3;rw[List.drop_eq_getElem_cons hl3,h4,Zw1,List.sum_cons];simp only[Agt,List.map_append,List.sum_append,Zh1] at h1 h2 ⊢;omega⟩
      ·rw[<-List.take_append_drop (zc (tt u)).length z'];exact Adi (A6k hsh s1) s2
      ·have:=r1.append r2;rwa[<-List.drop_drop,List.take_append_drop] at this
    obtain⟨ds,h1,h2,h3,h4⟩:=key fs 0 0 z rfl hloc (by rw[hcl,hsz];omega);exact⟨ds,by simpa[hty,zc,Ty.zero,cells] using h1,by simpa using h2,h3,λm hm=>Nat.le_trans (h4 m hm) (by simpa using hm.agg (xs.map (·.1)))⟩
   ·cases hfl
  ·cases hloc
def Btq(tt:Nat->Ty)(rd:List Nat)(t:Nat)(s:Sg):Bool:=rd.contains t&&match tt t,s with|.int k,.int k'=>decide (k=k')|.bool,.bool=>true|.str,.str=>true|.sl c,.sl c' false=>decide (c=c')|.st (some c) _ _,.sv c'=>decide (c=c')&&agg? c&&(dec c (zc (tt t))).isSome|_,_=>false
def szS:(s:Sg)->den s->Nat
 |.sv c,x=>szK c x
 |_,_=>0
def szL:(l:List Sg)->HV l->Nat
 |[],_=>0
 |[a],x=>szS a x
 |a::b::l,(x,y)=>szS a x+szL (b::l) y
theorem Bn5{R:Nat×Nat}{M:TypeId->DataW H->Prop}(hM:Msr P R M)(hT:∀t,Cs P el tt t=true)(hrd:rdB el tt rd=true)(hsb:szB P el tt rd=true){t:TypeId}{s:Sg}(hs:Btq tt rd t s=true){r:Reach}{b0:Nat}{v:Value}{d:DataW H}{ps:List MemPlace}(hval:Value.okWide P w r b0 t v)(h:DataW.Trod enc' P w 0 sp held t v d ps)(i:Nat):∃y:den s,Rep (v0 el C1 w) (C4 i s y) v/\(M t d->SmS R s y)/\∀m,Siz m->szS s y<=m d:=by
 obtain⟨fuel,h⟩:=h;simp only[Btq,Zb1] at hs;obtain⟨hc,hs⟩:=hs;obtain⟨ds,hsh,hr,hsm,hsz⟩:=Auq hM hT hrd hsb fuel t _ _ hc h;have hsz:∀m,Siz m->Agt ds<=m d:=hsz;have hsm:M t d->∀d,d∈ds->SmD R d:=hsm;split at hs
 ·rename_i k k' hty;simp only[Zg1] at hs;subst hs;obtain⟨n,rfl⟩:=WideShapes.okWide_int (Sx.tyI_spec (Ah0 (hT t) hty)) hval;simp only[hty,zc,Ty.zero,cells] at hsh;obtain⟨b,m,rfl,h1,h2⟩:=Rs hsh;obtain rfl:=Xy h2;obtain⟨n',rfl⟩:=A60 h1;simp only[Value.cells,Reps] at hr;obtain⟨u,us,e,hr,_⟩:=hr;simp only[Ze2] at e;obtain⟨rfl,_⟩:=e;exact⟨n',hr,λ_=>trivial,λ_ _=>Nat.zero_le _⟩
 ·rename_i hty;obtain⟨n,rfl⟩:=WideShapes.okWide_bool (Sx.tyB_spec (Ach (hT t) hty)) hval;exact⟨n,by simp only[C4,Rep],λ_=>trivial,λ_ _=>Nat.zero_le _⟩
 ·rename_i hty;obtain⟨n,rfl⟩:=WideShapes.okWide_string (Sx.tyS_spec (G0 (hT t) hty)) hval;simp only[hty,zc,Ty.zero,cells] at hsh;obtain⟨b,m,rfl,h1,h2⟩:=Rs hsh;obtain rfl:=Xy h2;obtain⟨n',rfl⟩:=A7n h1;simp only[Value.cells,Reps] at hr;obtain⟨u,us,e,hr,_⟩:=hr;simp only[Ze2] at e;obtain⟨rfl,_⟩:=e;exact⟨n',hr,λhwt=>hsm hwt (.str n') (by simp),λ_ _=>Nat.zero_le _⟩
 ·rename_i c c' hty;simp only[Zg1] at hs;subst hs;obtain⟨by_,hE,_,_⟩:=Cr (hT t) hty;have hv:v.cells.toList=[v]:=by have hu:=hE.und;simp only[Value.okWide,hu,Cell.okWide] at hval;cases v<;>first|rfl|(simp[Cell.ok,hu] at hval;done)|(exfalso;simp_all [Cell.ok])
  rw[hv] at hr;simp only[hty,zc,Ty.zero,cells] at hsh;obtain⟨b,m,rfl,h1,h2⟩:=Rs hsh;obtain rfl:=Xy h2;obtain⟨ys,u,rfl⟩:=Bl2 h1;simp only[Reps] at hr;obtain⟨u',us,e,hr,_⟩:=hr;simp only[Ze2] at e;obtain⟨rfl,_⟩:=e;refine⟨ys,?_,λhwt=>hsm hwt (.sl c ys u) (by simp),λ_ _=>Nat.zero_le _⟩;simp only[C4,Rep] at hr ⊢;exact⟨hr.1,trivial⟩
 ·rename_i c fs z c' hty;simp only[Zb1,Zg1] at hs;obtain⟨⟨rfl,ha⟩,hdec⟩:=hs;obtain⟨y,hy⟩:=Aqs hdec hsh;have hE:=Qj hy hr;have hv:∃cs,v = .agg cs:=by
   have hok:=hT t;unfold Cs at hok;rw[hty] at hok;simp only[Zb1] at hok;have hfl:=hok.2;split at hfl
   ·rename_i fds hu;simp only[Value.okWide,hu] at hval;obtain⟨cs,h1,_⟩:=hval;exact⟨cs,h1⟩
   ·cases hfl
  obtain⟨cs,rfl⟩:=hv;refine⟨y,?_,λhwt=>Bf1 hy (hsm hwt),λm hm=>Nat.le_trans (Bex hy) (hsz m hm)⟩;simp only[C4,Rep];exact⟨ha,cs.toList,by simp,by simpa[Value.cells] using hE.1,by simpa[Value.cells] using hE.2⟩
 ·cases hs
def Ank(tt:Nat->Ty)(rd:List Nat):List TypeId->List Sg->Bool
 |[],[]=>true
 |t::ts,s::ss=>Btq tt rd t s&&Ank tt rd ts ss
 |_,_=>false
theorem Av0{R:Nat×Nat}{M:TypeId->DataW H->Prop}(hM:Msr P R M)(hT:∀t,Cs P el tt t=true)(hrd:rdB el tt rd=true)(hsb:szB P el tt rd=true){r:Reach}{b0:Nat}:∀{ts:List TypeId}{sa:List Sg}{vs:List Value}{ds:List (DataW H)}{ps:List MemPlace}(i:Nat),Ank tt rd ts sa=true->(∀(j:Nat) t v,ts[j]? = some t->vs[j]? = some v->Value.okWide P w r b0 t v)->DataW.TrodAll enc' P w 0 sp held ts vs ds ps->∃x:HV sa,Reps (v0 el C1 w) (B3 i sa x) vs/\((∀(i:Nat) (t:TypeId) (d:DataW H),ts[i]? = some t->ds[i]? = some d->M t d)->SmL R sa x)/\∀m,Siz m->szL sa x<=(ds.map m).sum
 |[],[],vs,ds,ps,i,_,_,h=>by cases vs with|nil=>exact⟨(),by simp[B3,Reps],λ_=>trivial,λ_ _=>Nat.zero_le _⟩|cons v vs=>cases ds<;>simp[DataW.TrodAll] at h
 |t::ts,[],_,_,_,_,hs,_,_=>by simp[Ank] at hs
 |[],s::ss,_,_,_,_,hs,_,_=>by simp[Ank] at hs
 |t::ts,s::ss,vs,ds,ps,i,hs,hval,h=>by
  simp only[Ank,Zb1] at hs;obtain⟨v,vs',d,ds',p,q,rfl,rfl,rfl,hd,hrest⟩:=trodAll_cons h;obtain⟨y,hy,hsy,hmy⟩:=Bn5 hM hT hrd hsb hs.1 (hval 0 t v rfl rfl) hd i;obtain⟨z,hz,hsz,hmz⟩:=Av0 hM hT hrd hsb (i+1) hs.2 (λj t' v' h1 h2=>hval (j+1) t' v' (by simpa using h1) (by simpa using h2)) hrest;cases ss with
  |nil =>refine⟨y,?_,λhwt=>hsy (hwt 0 t d rfl rfl),λm hm=>Nat.le_trans (hmy m hm) (by simp)⟩;simp only[B3,Reps] at hz ⊢;exact⟨v,vs',rfl,hy,hz⟩
  |cons s' ss =>
   refine⟨(y,z),?_,λhwt=>⟨hsy (hwt 0 t d rfl rfl),hsz λj t' d' h1 h2=>hwt (j+1) t' d' (by simpa using h1) (by simpa using h2)⟩,λm hm=>by have h1:=hmy m hm;have h2:=hmz m hm;simp only[szL,Zw1,List.sum_cons];omega⟩
   simp only[B3,Reps];exact⟨v,vs',rfl,hy,hz⟩
theorem Aqd(hl:laidOutB P=true){W W':World}(hb:Below W.heap.size W W'):∀{ts:List TypeId}{vs:List Value}{ds:List (DataW H)}{ps:List MemPlace},(∀t,t∈ts->P.readableRec t=true/\t<P.types.size)->(∀x∈ps,x.block<W.heap.size)->DataW.TrodAll enc' P W 0 (λ_=>true) true ts vs ds ps->DataW.TrodAll enc' P W' 0 (λb=>decide (b<W.heap.size)) true ts vs ds ps
 |[],vs,ds,ps,_,_,h=>by
  cases vs<;>cases ds<;>simp[DataW.TrodAll] at h ⊢
  exact h
 |t::ts,vs,ds,ps,ht,hlt,h=>by obtain⟨v,vs',d,ds',p,q,rfl,rfl,rfl,hd,hrest⟩:=trodAll_cons h;obtain⟨h1,h2⟩:=ht t (by simp);exact⟨p,q,Below.trod hl h1 h2 hd hb (λx hx=>hlt x (by simp[hx])),Aqd hl hb (λt' h'=>ht t' (by simp[h'])) (λx hx=>hlt x (by simp[hx])) hrest,rfl⟩
end
end Go.Ax
namespace Go.Proofs.YtcoaaebppfbbnaaGreatDoor
open Go.Ax
def bare(l:List Xpr):Xpr :=.mk 0 ⟨0,0,[]⟩ [] l
def rmR:List (List Xpr)->Int->Int->Int
 |[],_,n=>n
 |r::l,most,n=>cond (decide (n<most)) (rmR l most (wr .i64 (n+Im (bare r) most))) n
def rmS:List SetE->Int->Int->Int
 |[],_,n=>n
 |x::l,most,n=>cond (decide (n<most)) (rmS l most (wr .i64 (n+Im x.e most))) n
def rmN:List Str->Int->Int->Int
 |[],_,n=>n
 |x::l,most,n=>cond (decide (n<most)) (rmN l most (wr .i64 (n+wr .i64 (Int.tdiv (x.length:Int) 30)))) n
def n0(s:Stm)(most:Int):Int:=wr .i64 (wr .i64 (wr .i64 (wr .i64 (wr .i64 (wr .i64 ((s.cols.length:Int)+(s.names.length:Int))+(s.order.length:Int))+(s.desc.length:Int))+wr .i64 (Int.tdiv (wr .i64 ((s.name.length:Int)+(s.on.length:Int))) 30))+Im s.whr most)+Im (bare s.l) most)
def Ajs:Sig:=⟨110,[(1,.int .i64),(5,.int .i64),(8,.int .i64)],[(2,.ptr 0 0)],[(0,.one (.sv .stmt))],1,0,0,[],[]⟩
abbrev T9:=Int×Int×Int×Stm
def Sr{R:Type}(rec:T9->Option R)(kx:Ex->T9->Option R)(v:T9):Option R:=match v with
 |(b,c,a,w2) =>
 cond (decide (a<(w2.names.length:Int))) (
  cond (decide (c<b)) (
  chk (inb a w2.names.length) (
   rec (b,(wr .i64 (c+(wr .i64 (Int.tdiv ((at' .str w2.names a).length:Int) 30)))),(wr .i64 (a+1)),w2))) (
  kx (.exit 4) (b,c,a,w2))) (
  kx (.exit 4) (b,c,a,w2))
def Alc:Sig:=⟨110,[(1,.int .i64),(5,.int .i64),(7,.int .i64)],[(2,.ptr 0 0)],[(0,.one (.sv .stmt))],1,0,0,[],[]⟩
abbrev Tb:=Int×Int×Int×Stm
def Rm{R:Type}(rec:Tb->Option R)(kx:Ex->Tb->Option R)(v:Tb):Option R:=match v with
 |(v7,v8,v9,w1) =>
 cond (decide (v9<(w1.sets.length:Int))) (
  cond (decide (v8<v7)) (
  chk (inb v9 w1.sets.length) (
   rec (v7,(wr .i64 (v8+(Im (Hk ((at' .set w1.sets v9).e)) v7))),(wr .i64 (v9+1)),w1))) (
  kx (.exit 2) (v7,v8,v9,w1))) (
  kx (.exit 2) (v7,v8,v9,w1))
def Ajm:Sig:=⟨110,[(1,.int .i64),(5,.int .i64),(6,.int .i64)],[(2,.ptr 0 0)],[(0,.one (.sv .stmt))],1,0,0,[],[]⟩
abbrev Tz:=Int×Int×Int×Stm
def T4{R:Type}(rec:Tz->Option R)(kx:Ex->Tz->Option R)(v:Tz):Option R:=match v with
 |(v,v1,v2,w) =>
 cond (decide (v2<(w.rows.length:Int))) (
  cond (decide (v1<v)) (
  chk (inb v2 w.rows.length) (
   rec (v,(wr .i64 (v1+(Im (Xpr.mk 0 ⟨0,0,[]⟩ [] (at' .exprs w.rows v2)) v))),(wr .i64 (v2+1)),w))) (
  kx (.exit 0) (v,v1,v2,w))) (
  kx (.exit 0) (v,v1,v2,w))
def Az2(R:Type)(k:Nat):Px R:=pxO [(85,cA As4)] [(85,qA As4)] [(3,Am k Ajm (T4)),(7,Am k Alc (Rm)),(11,Am k Ajs (Sr))] []
def Ag4(k:Nat)(x:HV [.sv .stmt,.int .i64]):Option (HV [.int .i64]):=match x with
 |(s,most) =>
 Ak (λrec=>T4 rec (λe vz=>match vz with|(v3,v4,_,v6)=>match e with
  |.exit 0 =>
  Ak (λrec=>Rm rec (λe vz=>match vz with|(a,b,_,c)=>match e with
   |.exit 2 =>
   Ak (λrec=>Sr rec (λe vz=>match vz with|(_,d,_,_)=>match e with
    |.exit 4 =>
    some d
    |_=>none)) k (a,b,0,c)
   |_=>none)) k (v3,v4,0,v6)
  |_=>none)) k (most,(wr .i64 ((wr .i64 ((wr .i64 ((wr .i64 ((wr .i64 ((wr .i64 ((s.cols.length:Int)+(s.names.length:Int)))+(s.order.length:Int)))+(s.desc.length:Int)))+(wr .i64 (Int.tdiv (wr .i64 ((s.name.length:Int)+(s.on.length:Int))) 30))))+(Im (Hk s.whr) most)))+(Im (Xpr.mk 0 ⟨0,0,[]⟩ [] s.l) most))),0,s)
theorem Bdx(k:Nat):FO 51 [.sv .stmt,.int .i64] [.int .i64] (Ag4 k):=fR (px:=Az2 _ k) (n:=3) Tryz.func51 rfl (λcx H=>by have h0:Lv cx (Az2 (HV [.int .i64]) k):=lv H (c1 H Awf Ae) (q1 H Awf Aa) Ab;have hlrmuch_0:=lO H h0 (b:=lp Tryz.f51 0) (k:=k) (n:=0) (s:=Ajm) (step:=T4) (λ_ _ _ (_,_,_,_)=>by kernel_rfl) Aj;have hlrmuch_1:=lO H h0 (b:=lp Tryz.f51 1) (k:=k) (n:=0) (s:=Alc) (step:=Rm) (λ_ _ _ (_,_,_,_)=>by kernel_rfl) Aj;have hlrmuch_2:=lO H h0 (b:=lp Tryz.f51 2) (k:=k) (n:=0) (s:=Ajs) (step:=Sr) (λ_ _ _ (_,_,_,_)=>by kernel_rfl) Aj;exact⟨h0,(A3 (A3 (A3 Aj hlrmuch_0) hlrmuch_1) hlrmuch_2)⟩) λ(_,_)=>by kernel_rfl
def Aqk(s:Stm)(most:Int):Int:=rmN s.names most (rmS s.sets most (rmR s.rows most (n0 s most)))
def Auc:FT [.sv .stmt,.int .i64] [.int .i64]:=λx=>some (Aqk x.1 x.2)
theorem Arw{R:Type}{kx:Ex->Tz->Option R}{s:Stm}{most:Int}{c:Int->Option R}(hn:ln s.rows.length)(h2:∀n i,kx (.exit 0) (most,n,i,s)=c n)(k:Nat)(hk:s.rows.length<k)(n:Int) :
  Ak (λrec=>T4 rec kx) k (most,n,0,s)=c (rmR s.rows most n):=by
 refine(Bo s.rows.length (λi n=>(most,n,(i:Int),s)) (λ_ _=>True) (λi n=>c (rmR (s.rows.drop i) most n)) (λi hi n _ rec hr =>?_) (λn _ rec =>?_) k 0 n (Nat.zero_le _) (by omega) trivial).trans (by rw[Zq1])
 ·simp only[T4,Br hi,Ao hi,Al (c :=.exprs) hi,An hi hn,Ah hi,rmR,h2];cases decide (n<most) with|false=>rfl|true=>exact(hr (wr .i64 (n+Im (bare s.rows[i]) most)) trivial)
 ·simp only[T4,Bu,h2];rw[Zk1 (Zn1 _)];rfl
theorem Ass{R:Type}{kx:Ex->Tb->Option R}{s:Stm}{most:Int}{c:Int->Option R}(hn:ln s.sets.length)(h2:∀n i,kx (.exit 2) (most,n,i,s)=c n)(k:Nat)(hk:s.sets.length<k)(n:Int) :
  Ak (λrec=>Rm rec kx) k (most,n,0,s)=c (rmS s.sets most n):=by
 refine(Bo s.sets.length (λi n=>(most,n,(i:Int),s)) (λ_ _=>True) (λi n=>c (rmS (s.sets.drop i) most n)) (λi hi n _ rec hr =>?_) (λn _ rec =>?_) k 0 n (Nat.zero_le _) (by omega) trivial).trans (by rw[Zq1])
 ·simp only[Rm,Br hi,Ao hi,Al (c :=.set) hi,An hi hn,Ah hi,rmS,h2,Gp];cases decide (n<most) with|false=>rfl|true=>exact(hr (wr .i64 (n+Im s.sets[i].e most)) trivial)
 ·simp only[Rm,Bu,h2];rw[Zk1 (Zn1 _)];rfl
theorem Asq{R:Type}{kx:Ex->T9->Option R}{s:Stm}{most:Int}{c:Int->Option R}(hn:ln s.names.length)(h2:∀n i,kx (.exit 4) (most,n,i,s)=c n)(k:Nat)(hk:s.names.length<k)(n:Int) :
  Ak (λrec=>Sr rec kx) k (most,n,0,s)=c (rmN s.names most n):=by
 refine(Bo s.names.length (λi n=>(most,n,(i:Int),s)) (λ_ _=>True) (λi n=>c (rmN (s.names.drop i) most n)) (λi hi n _ rec hr =>?_) (λn _ rec =>?_) k 0 n (Nat.zero_le _) (by omega) trivial).trans (by rw[Zq1])
 ·simp only[Sr,Br hi,Ao hi,Al (c :=.str) hi,An hi hn,Ah hi,rmN,h2];cases decide (n<most) with|false=>rfl|true=>exact(hr (wr .i64 (n+wr .i64 (Int.tdiv (s.names[i].length:Int) 30))) trivial)
 ·simp only[Sr,Bu,h2];rw[Zk1 (Zn1 _)];rfl
theorem Bf6:FO 51 [.sv .stmt,.int .i64] [.int .i64] Auc :=.fin 0 Bdx λ(s,most) r hb hx=>⟨s.rows.length+s.sets.length+s.names.length+1,by have hb:=hb.1;simp only[Auc,Za1] at hx;rw[<-hx];simp only[Ag4,Gp];refine(Arw (c:=λn=>some (rmN s.names most (rmS s.sets most n))) hb.rows.1 (λn i =>?_) _ (by omega) _).trans rfl;refine(Ass (c:=λn=>some (rmN s.names most n)) hb.sets.1 (λn i =>?_) _ (by omega) _).trans rfl;exact Asq (c:=some) hb.names.1 (λn i=>rfl) _ (by omega) _⟩
structure Few (s:Stm):Prop where
 cols:s.cols.length<=2000000
 names:s.names.length<=2000000
 order:s.order.length<=2000000
 desc:s.desc.length<=2000000
 name:s.name.length+s.on.length<=600000000000000
 whr:Aw s.whr<=900000
 l:esizes s.l<=900000
 rows:s.rows.length<=2000000/\∀r,r∈s.rows->esizes r<=900000
 sets:s.sets.length<=2000000/\∀x,x∈s.sets->Aw x.e<=900000
def A0t(R:Type):Px R:=pxO [] [] [] []
def O4(x:HV [.sv .tbl]):Option (HV [.sv .stmt]):=match x with
 |t =>
 some (Stm.mk 1 t.name [] t.cols t.key t.checks [] [] false (Xpr.mk 0 ⟨0,0,[]⟩ [] []) [] [] 0)
theorem Awi:FO 43 [.sv .tbl] [.sv .stmt] (O4):=fR (px:=A0t _) (n:=0) Tryz.func43 rfl (λ_ H=>⟨lv H Ae Aa Ab,Aj⟩) λ_=>by kernel_rfl
def Dj(t:Tbl):Stm :=(Stm.mk 1 t.name [] t.cols t.key t.checks [] [] false (Xpr.mk 0 ⟨0,0,[]⟩ [] []) [] [] 0)
theorem Ayu(x:HV [.sv .tbl]):O4 x=some (Dj x):=by
 first
  |exact rfl
  |simp only[O4,Dj,As]
def Aa2:FT [.sv .tbl] [.sv .stmt]:=λx=>some (Dj x)
theorem Ahf:FO 43 [.sv .tbl] [.sv .stmt] Aa2 :=.fin0 Awi λx _ _ hx=>(Ayu x).trans hx
def ixS(x:Idx):Stm:=Stm.mk 0 x.name [] [] x.cols [] [] [] false (Xpr.mk 0 ⟨0,0,[]⟩ [] []) [] [] 0
def rmI:List Idx->Int->Int->Int
 |[],_,n=>n
 |x::l,most,n=>cond (decide (n<most)) (rmI l most (wr .i64 (n+Aqk (ixS x) most))) n
def rmC:List Col->Int->Int->Int
 |[],_,n=>n
 |c::l,most,n=>cond (decide (n<most)) (rmC l most (wr .i64 (n+wr .i64 (Int.tdiv (wr .i64 ((c.name.length:Int)+(c.ref.length:Int))) 30)))) n
def Xr:Sig:=⟨76,[(1,.int .i64),(5,.int .i64),(7,.int .i64)],[(2,.ptr 0 0)],[(0,.one (.sv .tbl))],1,0,0,[],[]⟩
abbrev Ko:=Int×Int×Int×Tbl
def Jb{R:Type}(rec:Ko->Option R)(kx:Ex->Ko->Option R)(v:Ko):Option R:=match v with
 |(v7,v8,v9,w1) =>
 cond (decide (v9<(w1.cols.length:Int))) (
  cond (decide (v8<v7)) (
  chk (inb v9 w1.cols.length) (
   chk (inb v9 w1.cols.length) (
   rec (v7,(wr .i64 (v8+(wr .i64 (Int.tdiv (wr .i64 ((((at' .col w1.cols v9).name).length:Int)+(((at' .col w1.cols v9).ref).length:Int))) 30)))),(wr .i64 (v9+1)),w1)))) (
  kx (.exit 2) (v7,v8,v9,w1))) (
  kx (.exit 2) (v7,v8,v9,w1))
def Xk:Sig:=⟨76,[(1,.int .i64),(5,.int .i64),(6,.int .i64)],[(2,.ptr 0 0)],[(0,.one (.sv .tbl))],1,0,0,[],[]⟩
abbrev Kt:=Int×Int×Int×Tbl
def I4{R:Type}(rec:Kt->Option R)(kx:Ex->Kt->Option R)(v:Kt):Option R:=match v with
 |(v,v1,v2,w) =>
 cond (decide (v2<(w.idx.length:Int))) (
  cond (decide (v1<v)) (
  chk (inb v2 w.idx.length) (
   chk (inb v2 w.idx.length) (
   rec (v,(wr .i64 (v1+(Aqk (Stm.mk 0 ((at' .idx w.idx v2).name) [] [] ((at' .idx w.idx v2).cols) [] [] [] false (Xpr.mk 0 ⟨0,0,[]⟩ [] []) [] [] 0) v))),(wr .i64 (v2+1)),w)))) (
  kx (.exit 0) (v,v1,v2,w))) (
  kx (.exit 0) (v,v1,v2,w))
def Ahc(R:Type)(k:Nat):Px R:=pxO [] [(43,qA Aa2),(51,qA Auc)] [(3,Am k Xk (I4)),(7,Am k Xr (Jb))] []
def Z7(k:Nat)(x:HV [.sv .tbl,.int .i64]):Option (HV [.int .i64]):=match x with
 |(t,most) =>
 Ak (λrec=>I4 rec (λe vz=>match vz with|(v3,v4,_,v6)=>match e with
  |.exit 0 =>
  Ak (λrec=>Jb rec (λe vz=>match vz with|(_,a,_,_)=>match e with
   |.exit 2 =>
   some a
   |_=>none)) k (v3,v4,0,v6)
  |_=>none)) k (most,(wr .i64 ((Aqk (Dj t) most)+(t.idx.length:Int))),0,t)
theorem Awa(k:Nat):FO 23 [.sv .tbl,.int .i64] [.int .i64] (Z7 k):=fR (px:=Ahc _ k) (n:=2) Tryz.func23 rfl (λcx H=>by have h0:Lv cx (Ahc (HV [.int .i64]) k):=lv H Ae (q1 H Ahf (q1 H Bf6 Aa)) Ab;have hlrmuch16_0:=lO H h0 (b:=lp Tryz.f23 0) (k:=k) (n:=0) (s:=Xk) (step:=I4) (λ_ _ _ (_,_,_,_)=>by kernel_rfl) Aj;have hlrmuch16_1:=lO H h0 (b:=lp Tryz.f23 1) (k:=k) (n:=0) (s:=Xr) (step:=Jb) (λ_ _ _ (_,_,_,_)=>by kernel_rfl) Aj;exact⟨h0,(A3 (A3 Aj hlrmuch16_0) hlrmuch16_1)⟩) λ(_,_)=>by kernel_rfl
def Aty(t:Tbl)(most:Int):Int:=rmC t.cols most (rmI t.idx most (wr .i64 (Aqk (Dj t) most+(t.idx.length:Int))))
def Aaq:FT [.sv .tbl,.int .i64] [.int .i64]:=λx=>some (Aty x.1 x.2)
theorem Akr{R:Type}{kx:Ex->Kt->Option R}{t:Tbl}{most:Int}{c:Int->Option R}(hn:ln t.idx.length)(h2:∀n i,kx (.exit 0) (most,n,i,t)=c n)(k:Nat)(hk:t.idx.length<k)(n:Int) :
  Ak (λrec=>I4 rec kx) k (most,n,0,t)=c (rmI t.idx most n):=by
 refine(Bo t.idx.length (λi n=>(most,n,(i:Int),t)) (λ_ _=>True) (λi n=>c (rmI (t.idx.drop i) most n)) (λi hi n _ rec hr =>?_) (λn _ rec =>?_) k 0 n (Nat.zero_le _) (by omega) trivial).trans (by rw[Zq1])
 ·have hr:=hr (wr .i64 (n+Aqk (ixS t.idx[i]) most)) trivial;simp at hr;simp only[I4,Br hi,Ao hi,Al (c :=.idx) hi,An hi hn,Ah hi,rmI,h2];cases decide (n<most) with|false=>rfl|true=>exact hr
 ·simp only[I4,Bu,h2];rw[Zk1 (Zn1 _)];rfl
theorem Aid{R:Type}{kx:Ex->Ko->Option R}{t:Tbl}{most:Int}{c:Int->Option R}(hn:ln t.cols.length)(h2:∀n i,kx (.exit 2) (most,n,i,t)=c n)(k:Nat)(hk:t.cols.length<k)(n:Int) :
  Ak (λrec=>Jb rec kx) k (most,n,0,t)=c (rmC t.cols most n):=by
 refine(Bo t.cols.length (λi n=>(most,n,(i:Int),t)) (λ_ _=>True) (λi n=>c (rmC (t.cols.drop i) most n)) (λi hi n _ rec hr =>?_) (λn _ rec =>?_) k 0 n (Nat.zero_le _) (by omega) trivial).trans (by rw[Zq1])
 ·simp only[Jb,Br hi,Ao hi,Al (c :=.col) hi,An hi hn,Ah hi,rmC,h2];cases decide (n<most) with|false=>rfl|true=>exact(hr (wr .i64 (n+wr .i64 (Int.tdiv (wr .i64 ((t.cols[i].name.length:Int)+(t.cols[i].ref.length:Int))) 30))) trivial)
 ·simp only[Jb,Bu,h2];rw[Zk1 (Zn1 _)];rfl
theorem A1o:FO 23 [.sv .tbl,.int .i64] [.int .i64] Aaq :=.fin 0 Awa λ(t,most) r hb hx=>⟨t.idx.length+t.cols.length+1,by have hb:=hb.1;simp only[Aaq,Za1] at hx;rw[<-hx];simp only[Z7];refine(Akr (c:=λn=>some (rmC t.cols most n)) hb.idx.1 (λn i =>?_) _ (by omega) _).trans rfl;exact Aid (c:=some) hb.cols.1 (λn i=>rfl) _ (by omega) _⟩
theorem Mj{V R α:Type}[DecidableEq α]{step:(V->Option R)->V->Option R}(l m:List α)(hm:l.length=m.length)(st:Nat->V)(no yes:Option R)
  (hs:∀i (h:i<l.length) (h2:i<m.length) rec,step rec (st i)=cond (!decide (l[i]=m[i])) no (rec (st (i+1)))) (he:∀rec,step rec (st l.length)=yes) (k:Nat) (hk:l.length<k):Ak step k (st 0)=cond (decide (l=m)) yes no:=by
 refine(Ay l.length st (λi=>cond (decide (l.drop i=m.drop i)) yes no) (λi hi rec hr =>?_) (λrec =>?_) k 0 (Nat.zero_le _) (by omega)).trans (by rw[Zq1,Zq1])
 ·have hi2:i<m.length:=by omega
  rw[hs i hi hi2,hr,Ah hi,Ah hi2];by_cases h:l[i]=m[i]
  ·grind
  ·grind
 ·grind
def Adq:Sig:=⟨26,[(0,.sl .str false),(1,.sl .str false),(4,.bool),(5,.int .i64)],[],[],0,0,0,[],[]⟩
abbrev Vp:=List Str×List Str×Bool×Int
def P2{R:Type}(rec:Vp->Option R)(kx:Ex->Vp->Option R)(v:Vp):Option R:=match v with
 |(v,v1,v2,v3) =>
 cond (decide (v3<(v.length:Int))) (
  chk (inb v3 v.length) (
  chk (inb v3 v1.length) (
   cond (!decide ((at' .str v v3)=(at' .str v1 v3))) (
   kx .ret (v,v1,false,v3)) (
   rec (v,v1,v2,(wr .i64 (v3+1))))))) (
  kx (.exit 0) (v,v1,v2,v3))
def Aof(R:Type)(k:Nat):Px R:=pxO [] [] [(4,Am k Adq (P2))] []
def Ac1(k:Nat)(x:HV [.sl .str false,.sl .str false]):Option (HV [.bool]):=match x with
 |(a,b) =>
 cond (!decide ((a.length:Int)=(b.length:Int))) (
  some false) (
  Ak (λrec=>P2 rec (λe vz=>match vz with|(_,_,v6,_)=>match e with
  |.ret =>some v6
  |.exit 0 =>some true
  |_=>none)) k (a,b,false,0))
theorem A4q(k:Nat):FO 166 [.sl .str false,.sl .str false] [.bool] (Ac1 k):=fR (px:=Aof _ k) (n:=1) Tryz.func166 rfl (λcx H=>by have h0:Lv cx (Aof (HV [.bool]) k):=lv H Ae Aa Ab;have hlrsameN_0:=lO H h0 (b:=lp Tryz.f166 0) (k:=k) (n:=0) (s:=Adq) (step:=P2) (λ_ _ _ (_,_,_,_)=>by kernel_rfl) Aj;exact⟨h0,(A3 Aj hlrsameN_0)⟩) λ(_,_)=>by kernel_rfl
def Ake(a b:List Str):Bool:=decide (a=b)
def Ai3:FT [.sl .str false,.sl .str false] [.bool]:=λx=>some (Ake x.1 x.2)
theorem Bs6{α:Type}{a b:List α}(h:¬(a.length:Int)=(b.length:Int)):¬a=b:=λe=>h (by rw[e])
theorem A95:FO 166 [.sl .str false,.sl .str false] [.bool] Ai3 :=.fin 0 A4q λ(a,b) r hb hx=>⟨a.length+1,by
 simp only[Ai3,Ake,Za1] at hx;rw[<-hx];simp only[Ac1];by_cases hl:(a.length:Int)=(b.length:Int)
 ·rw[Ze1 hl,Zt1,Ai];refine(Mj a b (by omega) (λi=>(a,b,false,(i:Int))) (some false) (some true) (λi h h2 rec =>?_) (λrec =>?_) (a.length+1) (by omega)).trans ?_
  ·simp only[P2,Br h,Ag,Ao h,Ao h2,chk,Al (c :=.str) h,Al (c :=.str) h2,An h hb.1.1]
  ·simp only[P2,Bu,Ai]
  ·cases decide (a=b)<;>rfl
 ·rw[Zd1 hl,Zd1 (Bs6 hl)];rfl⟩
def Bbn(R:Type):Px R:=pxO [(165,cA Aua)] [] [] []
def Q1(x:HV [.sl .expr false,.sl .expr false]):Option (HV [.bool]):=match x with
 |(a,b) =>
 some (Anr (Xpr.mk 0 ⟨0,0,[]⟩ [] a) (Xpr.mk 0 ⟨0,0,[]⟩ [] b))
theorem A3n:FO 167 [.sl .expr false,.sl .expr false] [.bool] (Q1):=fR (px:=Bbn _) (n:=0) Tryz.func167 rfl (λ_ H=>⟨lv H (c1 H Azn Ae) Aa Ab,Aj⟩) λ(_,_)=>by kernel_rfl
def Wj(a:List Xpr)(b:List Xpr):Bool :=(Anr (Xpr.mk 0 ⟨0,0,[]⟩ [] a) (Xpr.mk 0 ⟨0,0,[]⟩ [] b))
theorem A2m(x:HV [.sl .expr false,.sl .expr false]):Q1 x=some (Wj x.1 x.2):=by
 first
  |exact rfl
  |simp only[Q1,Wj,As]
def Aw1:FT [.sl .expr false,.sl .expr false] [.bool]:=λx=>some (Wj x.1 x.2)
theorem Bcu:FO 167 [.sl .expr false,.sl .expr false] [.bool] Aw1 :=.fin0 A3n λx _ _ hx=>(A2m x).trans hx
theorem Ana(a b:List Xpr):Wj a b=decide (a=b):=by have e:Wj a b=F9 (.mk 0 ⟨0,0,[]⟩ [] a) (.mk 0 ⟨0,0,[]⟩ [] b):=rfl;rw[e,Ho];exact Zy1.2 (by simp)
theorem An1(a b:Xpr):Anr a b=decide (a=b):=Ho a b
instance:DecidableEq SetE:=λa b=>decidable_of_iff (a.name=b.name/\a.e=b.e) (by cases a;cases b;simp only[SetE.mk.injEq])
def Acm:Sig:=⟨199,[(4,.bool),(8,.int .i64)],[(2,.ptr 0 0),(3,.ptr 1 0)],[(0,.one (.sv .stmt)),(1,.one (.sv .stmt))],2,0,0,[],[]⟩
abbrev W9:=Bool×Int×Stm×Stm
def Qc{R:Type}(rec:W9->Option R)(kx:Ex->W9->Option R)(v:W9):Option R:=match v with
 |(b,a,w6,w7) =>
 cond (decide (a<(w6.desc.length:Int))) (
  chk (inb a w6.desc.length) (
  chk (inb a w7.desc.length) (
   cond (!decide ((at' .bool w6.desc a)=(at' .bool w7.desc a))) (
   kx .ret (false,a,w6,w7)) (
   rec (b,(wr .i64 (a+1)),w6,w7))))) (
  kx (.exit 6) (b,a,w6,w7))
def Ad6:Sig:=⟨199,[(4,.bool),(7,.int .i64)],[(2,.ptr 0 0),(3,.ptr 1 0)],[(0,.one (.sv .stmt)),(1,.one (.sv .stmt))],2,0,0,[],[]⟩
abbrev Vy:=Bool×Int×Stm×Stm
def Qn{R:Type}(rec:Vy->Option R)(kx:Ex->Vy->Option R)(v:Vy):Option R:=match v with
 |(b,a,w4,w5) =>
 cond (decide (a<(w4.sets.length:Int))) (
  chk (inb a w4.sets.length) (
  chk (inb a w5.sets.length) (
   cond (!decide (((at' .set w4.sets a).name)=((at' .set w5.sets a).name))) (
   kx .ret (false,a,w4,w5)) (
   chk (inb a w4.sets.length) (
    chk (inb a w5.sets.length) (
    cond (!(Anr (Hk ((at' .set w4.sets a).e)) (Hk ((at' .set w5.sets a).e)))) (
     kx .ret (false,a,w4,w5)) (
     rec (b,(wr .i64 (a+1)),w4,w5)))))))) (
  kx (.exit 4) (b,a,w4,w5))
def Ael:Sig:=⟨199,[(4,.bool),(6,.int .i64)],[(2,.ptr 0 0),(3,.ptr 1 0)],[(0,.one (.sv .stmt)),(1,.one (.sv .stmt))],2,0,0,[],[]⟩
abbrev Wa:=Bool×Int×Stm×Stm
def Q9{R:Type}(rec:Wa->Option R)(kx:Ex->Wa->Option R)(v:Wa):Option R:=match v with
 |(v6,v7,w2,w3) =>
 cond (decide (v7<(w2.rows.length:Int))) (
  chk (inb v7 w2.rows.length) (
  chk (inb v7 w3.rows.length) (
   cond (!(Wj (at' .exprs w2.rows v7) (at' .exprs w3.rows v7))) (
   kx .ret (false,v7,w2,w3)) (
   rec (v6,(wr .i64 (v7+1)),w2,w3))))) (
  kx (.exit 2) (v6,v7,w2,w3))
def Aej:Sig:=⟨199,[(4,.bool),(5,.int .i64)],[(2,.ptr 0 0),(3,.ptr 1 0)],[(0,.one (.sv .stmt)),(1,.one (.sv .stmt))],2,0,0,[],[]⟩
abbrev Vq:=Bool×Int×Stm×Stm
def Qg{R:Type}(rec:Vq->Option R)(kx:Ex->Vq->Option R)(v:Vq):Option R:=match v with
 |(v,v1,w,w1) =>
 cond (decide (v1<(w.cols.length:Int))) (
  chk (inb v1 w.cols.length) (
  chk (inb v1 w1.cols.length) (
   cond (!decide ((at' .col w.cols v1)=(at' .col w1.cols v1))) (
   kx .ret (false,v1,w,w1)) (
   rec (v,(wr .i64 (v1+1)),w,w1))))) (
  kx (.exit 0) (v,v1,w,w1))
def Anj(R:Type)(k:Nat):Px R:=pxO [(165,cA Aua),(166,cA Ai3),(167,cA Aw1)] [] [(6,Am k Aej (Qg)),(11,Am k Ael (Q9)),(16,Am k Ad6 (Qn)),(21,Am k Acm (Qc))] []
def Adg(k:Nat)(x:HV [.sv .stmt,.sv .stmt]):Option (HV [.bool]):=match x with
 |(a,b) =>
 let j5:=λ(p:Bool) =>
  let j4:=λ(p1:Bool) =>
  let j3:=λ(p2:Bool) =>
   let j2:=λ(p3:Bool) =>
   let j1:=λ(p4:Bool) =>
    let j:=λ(p5:Bool) =>
    cond (p5) (
     some false) (
     cond (!(Ake a.order b.order)) (
     some false) (
     cond (!(Wj a.l b.l)) (
      some false) (
      let j6:=λ(d:Bool) =>
      cond (d) (
       some false) (
       cond (!decide ((a.sets.length:Int)=(b.sets.length:Int))) (
       some false) (
       cond (!decide ((a.desc.length:Int)=(b.desc.length:Int))) (
        some false) (
        Ak (λrec=>Qg rec (λe vz=>match vz with|(v2,_,v4,v5)=>match e with
        |.ret =>some v2
        |.exit 0 =>
         Ak (λrec=>Q9 rec (λe vz=>match vz with|(v8,_,f,g)=>match e with
         |.ret =>some v8
         |.exit 2 =>
          Ak (λrec=>Qn rec (λe vz=>match vz with|(c,_,h,i)=>match e with
          |.ret =>some c
          |.exit 4 =>
           Ak (λrec=>Qc rec (λe vz=>match vz with|(m,_,_,_)=>match e with
           |.ret =>some m
           |.exit 6 =>some true
           |_=>none)) k (c,0,h,i)
          |_=>none)) k (v8,0,f,g)
         |_=>none)) k (v2,0,v4,v5)
        |_=>none)) k (false,0,a,b))))
      cond (!decide ((a.cols.length:Int)=(b.cols.length:Int))) (
      j6 true) (
      j6 (!decide ((a.rows.length:Int)=(b.rows.length:Int)))))))
    cond (p4) (
    j true) (
    j (!(Ake a.names b.names)))
   cond (p3) (
    j1 true) (
    j1 (!(Anr (Hk a.whr) (Hk b.whr))))
   cond (p2) (
   j2 true) (
   j2 (!decide (a.most=b.most)))
  cond (p1) (
   j3 true) (
   j3 (!decide (a.has=b.has)))
  cond (p) (
  j4 true) (
  j4 (!decide (a.on=b.on)))
 cond (!decide (a.kind=b.kind)) (
  j5 true) (
  j5 (!decide (a.name=b.name)))
theorem A25(k:Nat):FO 122 [.sv .stmt,.sv .stmt] [.bool] (Adg k):=fR (px:=Anj _ k) (n:=4) Tryz.func122 rfl (λcx H=>by have h0:Lv cx (Anj (HV [.bool]) k):=lv H (c1 H Azn (c1 H A95 (c1 H Bcu Ae))) Aa Ab;have hlrsameS_0:=lO H h0 (b:=lp Tryz.f122 0) (k:=k) (n:=0) (s:=Aej) (step:=Qg) (λ_ _ _ (_,_,_,_)=>by kernel_rfl) Aj;have hlrsameS_1:=lO H h0 (b:=lp Tryz.f122 1) (k:=k) (n:=0) (s:=Ael) (step:=Q9) (λ_ _ _ (_,_,_,_)=>by kernel_rfl) Aj;have hlrsameS_2:=lO H h0 (b:=lp Tryz.f122 2) (k:=k) (n:=0) (s:=Ad6) (step:=Qn) (λ_ _ _ (_,_,_,_)=>by kernel_rfl) Aj;have hlrsameS_3:=lO H h0 (b:=lp Tryz.f122 3) (k:=k) (n:=0) (s:=Acm) (step:=Qc) (λ_ _ _ (_,_,_,_)=>by kernel_rfl) Aj;exact⟨h0,(A3 (A3 (A3 (A3 Aj hlrsameS_0) hlrsameS_1) hlrsameS_2) hlrsameS_3)⟩) λ(_,_)=>by kernel_rfl
def Ww(a b:Stm):Bool:=decide (a=b)
def Ai8:FT [.sv .stmt,.sv .stmt] [.bool]:=λx=>some (Ww x.1 x.2)
theorem Bgi{R:Type}(x y:SetE)(no yes:R):cond (!decide (x.name=y.name)) no (cond (!decide (x.e=y.e)) no yes)=cond (!decide (x=y)) no yes:=by
 have e:decide (x=y)=(decide (x.name=y.name)&&decide (x.e=y.e)):=by rw[<-Bool.decide_and];refine Zy1.2 ?_;cases x;cases y;simp
 rw[e];cases decide (x.name=y.name)<;>rfl
theorem Bpx{a b:Stm}(h1:a.kind=b.kind)(h2:a.name=b.name)(h3:a.on=b.on)(h4:a.cols=b.cols)(h5:a.names=b.names)(h6:a.l=b.l)(h7:a.rows=b.rows)(h8:a.sets=b.sets)(h9:a.has=b.has)(h10:a.whr=b.whr)(h11:a.order=b.order)(h12:a.desc=b.desc)(h13:a.most=b.most):a=b:=by cases a;cases b;simp only at h1 h2 h3 h4 h5 h6 h7 h8 h9 h10 h11 h12 h13;simp[h1,h2,h3,h4,h5,h6,h7,h8,h9,h10,h11,h12,h13]
theorem Bbm:FO 122 [.sv .stmt,.sv .stmt] [.bool] Ai8 :=.fin 0 A25 λ(a,b) r hb hx=>⟨a.cols.length+a.rows.length+a.sets.length+a.desc.length+1,by
 simp only[Ai8,Ww,Za1] at hx;rw[<-hx];have hb:=hb.1;have no:∀{p:Prop} [Decidable p],(a=b->p)->¬p->decide (a=b)=false:=λh hn=>Zd1 λe=>hn (h e);simp only[Adg,Gp,Ana,An1,Ake];by_cases h1:a.kind=b.kind
 case neg=>rw[Zd1 h1,no (λe=>by rw[e]) h1];rfl
 rw[Ze1 h1];by_cases h2:a.name=b.name
 case neg=>rw[Zd1 h2,no (λe=>by rw[e]) h2];rfl
 rw[Ze1 h2];by_cases h3:a.on=b.on
 case neg=>rw[Zd1 h3,no (λe=>by rw[e]) h3];rfl
 rw[Ze1 h3];by_cases h9:a.has=b.has
 case neg=>rw[Zd1 h9,no (λe=>by rw[e]) h9];rfl
 rw[Ze1 h9];by_cases h13:a.most=b.most
 case neg=>rw[Zd1 h13,no (λe=>by rw[e]) h13];rfl
 rw[Ze1 h13];by_cases h10:a.whr=b.whr
 case neg=>rw[Zd1 h10,no (λe=>by rw[e]) h10];rfl
 rw[Ze1 h10];by_cases h5:a.names=b.names
 case neg=>rw[Zd1 h5,no (λe=>by rw[e]) h5];rfl
 rw[Ze1 h5];by_cases h11:a.order=b.order
 case neg=>rw[Zd1 h11,no (λe=>by rw[e]) h11];rfl
 rw[Ze1 h11];by_cases h6:a.l=b.l
 case neg=>rw[Zd1 h6,no (λe=>by rw[e]) h6];rfl
 rw[Ze1 h6];by_cases l4:(a.cols.length:Int)=(b.cols.length:Int)
 case neg=>rw[Zd1 l4,no (λe=>by rw[e]) l4];rfl
 rw[Ze1 l4];by_cases l7:(a.rows.length:Int)=(b.rows.length:Int)
 case neg=>rw[Zd1 l7,no (λe=>by rw[e]) l7];rfl
 rw[Ze1 l7];by_cases l8:(a.sets.length:Int)=(b.sets.length:Int)
 case neg=>rw[Zd1 l8,no (λe=>by rw[e]) l8];rfl
 rw[Ze1 l8];by_cases l12:(a.desc.length:Int)=(b.desc.length:Int)
 case neg=>rw[Zd1 l12,no (λe=>by rw[e]) l12];rfl
 rw[Ze1 l12];simp only[Zt1,Ai];generalize hk:a.cols.length+a.rows.length+a.sets.length+a.desc.length+1=k;refine(Mj a.cols b.cols (by omega) (λi=>(false,(i:Int),a,b)) (some false) (cond (decide (a.rows=b.rows)) (cond (decide (a.sets=b.sets)) (cond (decide (a.desc=b.desc)) (some true) (some false)) (some false)) (some false)) (λi h h2 rec =>?_) (λrec =>?_) k (by omega)).trans ?_
 ·simp only[Qg,Br h,Ag,Ao h,Ao h2,chk,Al (c :=.col) h,Al (c :=.col) h2,An h hb.cols.1]
 ·simp only[Qg,Bu,Ai];refine(Mj a.rows b.rows (by omega) (λi=>(false,(i:Int),a,b)) (some false) (cond (decide (a.sets=b.sets)) (cond (decide (a.desc=b.desc)) (some true) (some false)) (some false)) (λi h h2 rec =>?_) (λrec =>?_) k (by omega)).trans rfl
  ·simp only[Q9,Br h,Ag,Ao h,Ao h2,chk,Al (c :=.exprs) h,Al (c :=.exprs) h2,An h hb.rows.1,Ana]
  ·simp only[Q9,Bu,Ai];refine(Mj a.sets b.sets (by omega) (λi=>(false,(i:Int),a,b)) (some false) (cond (decide (a.desc=b.desc)) (some true) (some false)) (λi h h2 rec =>?_) (λrec =>?_) k (by omega)).trans rfl
   ·simp only[Qn,Br h,Ag,Ao h,Ao h2,chk,Al (c :=.set) h,Al (c :=.set) h2,An h hb.sets.1,Gp,An1];exact Bgi _ _ _ _
   ·simp only[Qn,Bu,Ai];refine(Mj a.desc b.desc (by omega) (λi=>(false,(i:Int),a,b)) (some false) (some true) (λi h h2 rec =>?_) (λrec =>?_) k (by omega)).trans rfl
    ·simp only[Qc,Br h,Ag,Ao h,Ao h2,chk,Al (c :=.bool) h,Al (c :=.bool) h2,An h hb.desc]
    ·simp only[Qc,Bu,Ai]
 ·by_cases h4:a.cols=b.cols
  case neg=>rw[Zd1 h4,no (λe=>by rw[e]) h4];rfl
  by_cases h7:a.rows=b.rows
  case neg=>rw[Ze1 h4,Zd1 h7,no (λe=>by rw[e]) h7];rfl
  by_cases h8:a.sets=b.sets
  case neg=>rw[Ze1 h4,Ze1 h7,Zd1 h8,no (λe=>by rw[e]) h8];rfl
  by_cases h12:a.desc=b.desc
  case neg=>rw[Ze1 h4,Ze1 h7,Ze1 h8,Zd1 h12,no (λe=>by rw[e]) h12];rfl
  rw[Ze1 h4,Ze1 h7,Ze1 h8,Ze1 h12,Ze1 (Bpx h1 h2 h3 h4 h5 h6 h7 h8 h9 h10 h11 h12 h13)];rfl⟩
def Aoq:Sig:=⟨27,[(0,.sl .expr false),(1,.int .i64),(4,.bool),(5,.int .i64)],[],[],0,0,0,[],[]⟩
abbrev Ak3:=List Xpr×Int×Bool×Int
def Afm{R:Type}(rec:Ak3->Option R)(kx:Ex->Ak3->Option R)(v:Ak3):Option R:=match v with
 |(v,v1,v2,v3) =>
 cond (decide (v3<(v.length:Int))) (
  chk (inb v3 v.length) (
  cond (decide (30<(Bc (at' .expr v v3)))) (
   kx .ret (v,v1,false,v3)) (
   rec (v,v1,v2,(wr .i64 (v3+1)))))) (
  kx (.exit 0) (v,v1,v2,v3))
def A5a(R:Type)(k:Nat):Px R:=pxO [(121,cA Afg)] [] [(2,Am k Aoq (Afm))] []
def Anc(k:Nat)(x:HV [.sl .expr false,.int .i64]):Option (HV [.bool]):=match x with
 |(l,least) =>
 Ak (λrec=>Afm rec (λe vz=>match vz with|(v4,v5,v6,_)=>match e with
  |.ret =>
  some v6
  |.exit 0 =>
  cond (decide (v5<=(v4.length:Int))) (
   some (decide ((v4.length:Int)<=100))) (
   some false)
  |_=>none)) k (l,least,false,0)
theorem Bk1(k:Nat):FO 120 [.sl .expr false,.int .i64] [.bool] (Anc k):=fR (px:=A5a _ k) (n:=1) Tryz.func120 rfl (λcx H=>by have h0:Lv cx (A5a (HV [.bool]) k):=lv H (c1 H Ahu Ae) Aa Ab;have hlrall_0:=lO H h0 (b:=lp Tryz.f120 0) (k:=k) (n:=0) (s:=Aoq) (step:=Afm) (λ_ _ _ (_,_,_,_)=>by kernel_rfl) Aj;exact⟨h0,(A3 Aj hlrall_0)⟩) λ(_,_)=>by kernel_rfl
def Ul(l:List Xpr)(n:Int):Bool:=l.all (λx=>decide (Bc x<=30))&&decide (n<=(l.length:Int))&&decide (l.length<=100)
def A0s:FT [.sl .expr false,.int .i64] [.bool]:=λx=>some (Ul x.1 x.2)
theorem A4m(n:Nat):decide ((n:Int)<=100)=decide (n<=100):=Zy1.2 (by omega)
theorem Bpz:FO 120 [.sl .expr false,.int .i64] [.bool] A0s :=.fin 0 Bk1 λ(l,n) r hb hx=>⟨l.length+1,by
 simp only[A0s,Ul,Za1] at hx;rw[<-hx];simp only[Anc];refine(Ay l.length (λi=>(l,n,false,(i:Int))) (λi=>some ((l.drop i).all (λx=>decide (Bc x<=30))&&decide (n<=(l.length:Int))&&decide (l.length<=100))) (λi hi rec hr =>?_) (λrec =>?_) (l.length+1) 0 (Nat.zero_le _) (by omega)).trans (by rw[Zq1])
 ·have e:decide (Bc l[i]<=30) = !decide (30<Bc l[i]):=by
   by_cases h : 30<Bc l[i]
   ·rw[Ze1 h,Zd1 (by omega)];rfl
   ·rw[Zd1 h,Ze1 (by omega)];rfl
  simp only[Afm,Br hi,Ag,Ao hi,chk,Al (c :=.expr) hi,An hi hb.1.1,hr,Ah hi,Zv1,e];cases decide (30<Bc l[i])<;>rfl
 ·simp only[Afm,Bu,Ai,A4m];rw[Zk1 (Zn1 _)];cases decide (n<=(l.length:Int))<;>rfl⟩
theorem A7b{l:List Xpr}(h:esizes l<=900000)(n:Int):Ul l n=(Fx l&&decide (n<=(l.length:Int))):=by
 have e:l.all (λx=>decide (Bc x<=30))=l.all (λx=>A5 x 30):=by
  rw[Bool.eq_iff_iff,Zg2,Zg2];refine⟨λhx x hm =>?_,λhx x hm =>?_⟩
  ·have:=A9 hm;exact(F2 (Aw x) x 30 (Zn1 _) (by omega) (by omega)).2 (of_decide_eq_true (hx x hm))
  ·have:=A9 hm;exact Ze1 ((F2 (Aw x) x 30 (Zn1 _) (by omega) (by omega)).1 (hx x hm))
 simp[Ul,Fx,e];cases l.all (λx=>A5 x 30)<;>cases decide (n<=(l.length:Int))<;>cases decide (l.length<=100)<;>rfl
theorem A5h{e:Xpr}(h:Aw e<=900000):decide (Bc e<=30)=A5 e 30:=by rw[Bool.eq_iff_iff,Zg1];exact(F2 (Aw e) e 30 (Zn1 _) (by omega) (by omega)).symm
def Agm:Sig:=⟨42,[(0,.sl .str false),(1,.int .i64),(4,.bool),(5,.int .i64),(6,.int .i64)],[],[],0,0,0,[],[]⟩
abbrev Sv:=List Str×Int×Bool×Int×Int
def Ta{R:Type}(rec:Sv->Option R)(kx:Ex->Sv->Option R)(v:Sv):Option R:=match v with
 |(v4,v5,v6,v7,v8) =>
 cond (decide (v8<v7)) (
  chk (inb v7 v4.length) (
  chk (inb v8 v4.length) (
   cond (decide ((at' .str v4 v7)=(at' .str v4 v8))) (
   kx .ret (v4,v5,false,v7,v8)) (
   rec (v4,v5,v6,v7,(wr .i64 (v8+1))))))) (
  kx (.exit 2) (v4,v5,v6,v7,v8))
def Akw:Sig:=⟨42,[(0,.sl .str false),(1,.int .i64),(4,.bool),(5,.int .i64)],[],[],0,0,0,[],[]⟩
abbrev Abj:=List Str×Int×Bool×Int
def Yu{R:Type}(k:Nat)(rec:Abj->Option R)(kx:Ex->Abj->Option R)(v:Abj):Option R:=match v with
 |(v,v1,v2,v3) =>
 cond (decide (v3<(v.length:Int))) (
  chk (inb v3 v.length) (
  cond (!(X4 (at' .str v v3))) (
   kx .ret (v,v1,false,v3)) (
   Ak (λrc=>Ta rc (λe vz=>match vz with|(v9,a,b,c,_)=>match e with
   |.ret =>kx .ret (v9,a,b,c)
   |.exit 2 =>rec (v9,a,b,(wr .i64 (c+1)))
   |_=>none)) k (v,v1,v2,v3,0)))) (
  kx (.exit 0) (v,v1,v2,v3))
def Ayg(R:Type)(k:Nat):Px R:=pxO [(118,cA Xs)] [] [(7,Am k Agm (Ta)),(2,Am k Akw (Yu k))] []
def Al8(k:Nat)(x:HV [.sl .str false,.int .i64]):Option (HV [.bool]):=match x with
 |(l,least) =>
 Ak (λrec=>Yu k rec (λe vz=>match vz with|(a,b,c,_)=>match e with
  |.ret =>
  some c
  |.exit 0 =>
  cond (decide (b<=(a.length:Int))) (
   some (decide ((a.length:Int)<=100))) (
   some false)
  |_=>none)) k (l,least,false,0)
theorem Bbl(k:Nat):FO 119 [.sl .str false,.int .i64] [.bool] (Al8 k):=fR (px:=Ayg _ k) (n:=2) Tryz.func119 rfl (λcx H=>by have h0:Lv cx (Ayg (HV [.bool]) k):=lv H (c1 H Agd Ae) Aa Ab;have hlronce_1:=lO H h0 (b:=lpC (lp Tryz.f119 0) 0) (k:=k) (n:=0) (s:=Agm) (step:=Ta) (λ_ _ _ (_,_,_,_,_)=>by kernel_rfl) Aj;have hlronce_0:=lO H h0 (b:=lp Tryz.f119 0) (k:=k) (n:=1) (s:=Akw) (step:=Yu k) (λ_ _ _ (_,_,_,_)=>by kernel_rfl) (A3 Aj hlronce_1);exact⟨h0,(A3 (A3 Aj hlronce_0) hlronce_1)⟩) λ(_,_)=>by kernel_rfl
def Kh(l:List Str)(n:Int):Bool:=C6 l&&decide (n<=(l.length:Int))
def Asg:FT [.sl .str false,.int .i64] [.bool]:=λx=>some (Kh x.1 x.2)
theorem Aus{R:Type}{kx:Ex->Sv->Option R}{l:List Str}{n:Int}{i:Nat}{c:Bool->Option R}(hn:ln l.length)(hi:i<l.length)(h1:∀j,kx .ret (l,n,false,(i:Int),j)=c true)(h2:∀j,kx (.exit 2) (l,n,false,(i:Int),j)=c false)(k:Nat)(hk:i<k) :
  Ak (λrec=>Ta rec kx) k (l,n,false,(i:Int),0)=c ((l.take i).contains l[i]):=by
 refine(Ay i (λj=>(l,n,false,(i:Int),(j:Int))) (λj=>c (((l.take i).drop j).contains l[i])) (λj hj rec hr =>?_) (λrec =>?_) k 0 (Nat.zero_le _) (by omega)).trans (by rw[Zq1])
 ·have hj2:j<l.length:=by omega
  have hj3:j<(l.take i).length:=by rw[List.length_take];omega
  have e:(l.take i)[j]=l[j]:=List.getElem_take;simp only[Ta,Br hj,Ag,Ao hi,Ao hj2,chk,Al (c :=.str) hi,Al (c :=.str) hj2,An hj2 hn,hr,h1,Ah hj3,List.contains_cons,e];by_cases h:l[i]=l[j]
  ·rw[Ze1 h,h];simp
  ·have hf:(l[i] == l[j])=false:=beq_eq_false_iff_ne.2 h;rw[Zd1 h,hf];rfl
 ·simp only[Ta,Bu,Ai,h2];rw[Zk1 (by rw[List.length_take];omega)];rfl
theorem Bjv:FO 119 [.sl .str false,.int .i64] [.bool] Asg :=.fin 0 Bbl λ(l,n) r hb hx=>⟨l.length+1,by
 simp only[Asg,Kh,Za1] at hx;rw[<-hx];simp only[Al8];refine(Ay l.length (λi=>(l,n,false,(i:Int))) (λi=>some (Md (l.take i) (l.drop i)&&decide (l.length<=100)&&decide (n<=(l.length:Int)))) (λi hi rec hr =>?_) (λrec =>?_) (l.length+1) 0 (Nat.zero_le _) (by omega)).trans (by rw[Zq1,List.take_zero];rfl)
 ·simp only[Yu,Br hi,Ag,Ao hi,chk,Al (c :=.str) hi,Kf,Ah hi,Md];cases hl:Cj l[i] with
  |false=>rfl
  |true =>
   rw[Zt1,Ai];refine(Aus (c:=λb=>cond b (some false) (some (Md (l.take (i+1)) (l.drop (i+1))&&decide (l.length<=100)&&decide (n<=(l.length:Int))))) hb.1.1 hi (λ_ =>?_) (λ_ =>?_) (l.length+1) (by omega)).trans ?_
   ·rfl
   ·show rec (l,n,false,wr .i64 ((i:Int)+1))=_;rw[An hi hb.1.1,hr];rfl
   ·rw[Afu hi];cases (l.take i).contains l[i]<;>rfl
 ·simp only[Yu,Bu,Ai,A4m];rw[Zk1 (Zn1 _)];simp only[Md];cases decide (n<=(l.length:Int))<;>cases decide (l.length<=100)<;>rfl⟩
noncomputable section
def Am0:Sig:=⟨259,[(4,.bool),(5,.sl .str true),(9,.int .i64)],[(1,.ptr 0 0),(3,.ptr 1 0)],[(0,.one (.sv .stmt)),(1,.one (.sv .stmt))],2,0,0,[],[]⟩
abbrev Aaj:=Bool×List Str×Int×Stm×Stm
def Abl{R:Type}(rec:Aaj->Option R)(kx:Ex->Aaj->Option R)(v:Aaj):Option R:=match v with
 |(c,b,a,w4,w5) =>
 cond (decide (a<(w4.sets.length:Int))) (
  chk (inb a w4.sets.length) (
  chk (decide (b.length+1<=Af)) (
   cond (c) (
   chk (inb a w4.sets.length) (
    rec (decide ((Bc (Hk ((at' .set w4.sets a).e)))<=30),(b++[((at' .set w4.sets a).name)]),(wr .i64 (a+1)),w4,w5))) (
   rec (false,(b++[((at' .set w4.sets a).name)]),(wr .i64 (a+1)),w4,w5))))) (
  kx (.exit 5) (c,b,a,w4,w5))
def Ap2:Sig:=⟨259,[(4,.bool),(8,.int .i64)],[(1,.ptr 0 0),(3,.ptr 1 0)],[(0,.one (.sv .stmt)),(1,.one (.sv .stmt))],2,0,0,[],[]⟩
abbrev Xh:=Bool×Int×Stm×Stm
def V2{R:Type}(rec:Xh->Option R)(kx:Ex->Xh->Option R)(v:Xh):Option R:=match v with
 |(v8,v9,w2,w3) =>
 cond (decide (v9<(w2.rows.length:Int))) (
  cond (v8) (
  chk (inb v9 w2.rows.length) (
   rec ((Ul (at' .exprs w2.rows v9) 1),(wr .i64 (v9+1)),w2,w3))) (
  rec (false,(wr .i64 (v9+1)),w2,w3))) (
  kx (.exit 3) (v8,v9,w2,w3))
def Anv:Sig:=⟨259,[(4,.bool),(5,.sl .str true),(6,.int .i64)],[(1,.ptr 0 0),(3,.ptr 1 0)],[(0,.one (.sv .stmt)),(1,.one (.sv .stmt))],2,0,0,[],[]⟩
abbrev Z6:=Bool×List Str×Int×Stm×Stm
def Aaz{R:Type}(rec:Z6->Option R)(kx:Ex->Z6->Option R)(v:Z6):Option R:=match v with
 |(v,v1,v2,w,w1) =>
 cond (decide (v2<(w.cols.length:Int))) (
  chk (inb v2 w.cols.length) (
  chk (decide (v1.length+1<=Af)) (
   let j1:=λ(p4:Bool) =>
   let j:=λ(p5:Bool) =>
    cond (p5) (
    cond (decide (((at' .col w.cols v2).ref)=[])) (
     rec (true,(v1++[((at' .col w.cols v2).name)]),(wr .i64 (v2+1)),w,w1)) (
     rec ((X4 ((at' .col w.cols v2).ref)),(v1++[((at' .col w.cols v2).name)]),(wr .i64 (v2+1)),w,w1))) (
    rec (false,(v1++[((at' .col w.cols v2).name)]),(wr .i64 (v2+1)),w,w1))
   cond (p4) (
    j (decide ((at' .col w.cols v2).kind<=5))) (
    j false)
   cond (v) (
   j1 (decide (2<=(at' .col w.cols v2).kind))) (
   j1 false)))) (
  kx (.exit 1) (v,v1,v2,w,w1))
def A8b(R:Type)(k:Nat):Px R:=pxO [(118,cA Xs),(119,cA Asg),(120,cA A0s),(121,cA Afg),(122,cA Ai8)] [] [(7,Am k Anv (Aaz)),(24,Am k Ap2 (V2)),(30,Am k Am0 (Abl))] []
def Aat(k:Nat)(x:HV [.sv .stmt]):Option (HV [.int .i64]):=match x with
 |s =>
 let a:Bool->Option (HV [.int .i64]):=λ(p3:Bool) =>
  let j9:Bool->Stm->Stm->Option (HV [.int .i64]):=λ(b:Bool) (q:Stm) (q1:Stm) =>
  let j8:Bool->Stm->Option (HV [.int .i64]):=λ(f:Bool) (q2:Stm) =>
   cond (!f) (
   some 2) (
   cond (!(Ww q2 q)) (
    some 2) (
    some 0))
  let j7:Bool->Option (HV [.int .i64]):=λ(g:Bool) =>
   cond (g) (
   cond (b) (
    j8 (decide ((Bc (Hk q.whr))<=30)) (Stm.mk q1.kind q1.name q1.on q1.cols q1.names q1.l q1.rows q1.sets true (Hk q.whr) q1.order q1.desc q1.most)) (
    j8 false (Stm.mk q1.kind q1.name q1.on q1.cols q1.names q1.l q1.rows q1.sets true (Hk q.whr) q1.order q1.desc q1.most))) (
   j8 b q1)
  let j6:Bool->Option (HV [.int .i64]):=λ(h:Bool) =>
   cond (h) (
   j7 q.has) (
   cond (decide (q.kind=8)) (
    j7 q.has) (
    j7 false))
  cond (decide (q.kind=6)) (
   j6 true) (
   j6 (decide (q.kind=7)))
  cond (decide (s.kind=1)) (
  Ak (λrec=>Aaz rec (λe vz=>match vz with|(v3,v4,_,v6,v7)=>match e with
   |.exit 1 =>
   let j2:Bool->Option (HV [.int .i64]):=λ(p9:Bool) =>
    cond (p9) (
    cond ((Kh v6.names 1)) (
     j9 (Ul v6.l 0) v6 (Stm.mk v7.kind v7.name v7.on v6.cols v6.names v6.l v7.rows v7.sets v7.has (Hk v7.whr) v7.order v7.desc v7.most)) (
     j9 false v6 (Stm.mk v7.kind v7.name v7.on v6.cols v6.names v6.l v7.rows v7.sets v7.has (Hk v7.whr) v7.order v7.desc v7.most))) (
    j9 false v6 (Stm.mk v7.kind v7.name v7.on v6.cols v6.names v6.l v7.rows v7.sets v7.has (Hk v7.whr) v7.order v7.desc v7.most))
   cond (v3) (
    j2 (Kh v4 1)) (
    j2 false)
   |_=>none)) k (p3,[],0,s,(Stm.mk s.kind s.name [] [] [] [] [] [] false (Xpr.mk 0 ⟨0,0,[]⟩ [] []) [] [] 0))) (
  cond (decide (s.kind=3)) (
   cond (p3) (
   cond ((X4 s.on)) (
    j9 (Kh s.names 1) s (Stm.mk s.kind s.name s.on [] s.names [] [] [] false (Xpr.mk 0 ⟨0,0,[]⟩ [] []) [] [] 0)) (
    j9 false s (Stm.mk s.kind s.name s.on [] s.names [] [] [] false (Xpr.mk 0 ⟨0,0,[]⟩ [] []) [] [] 0))) (
   j9 false s (Stm.mk s.kind s.name s.on [] s.names [] [] [] false (Xpr.mk 0 ⟨0,0,[]⟩ [] []) [] [] 0))) (
   cond (decide (s.kind=5)) (
   let j3:Bool->Option (HV [.int .i64]):=λ(i:Bool) =>
    Ak (λrec=>V2 rec (λe vz=>match vz with|(j,_,m,n)=>match e with
    |.exit 3 =>j9 j m n
    |_=>none)) k (i,0,s,(Stm.mk s.kind s.name [] [] [] [] s.rows [] false (Xpr.mk 0 ⟨0,0,[]⟩ [] []) [] [] 0))
   cond (p3) (
    cond (decide (1<=(s.rows.length:Int))) (
    j3 (decide ((s.rows.length:Int)<=100))) (
    j3 false)) (
    j3 false)) (
   cond (decide (s.kind=6)) (
    Ak (λrec=>Abl rec (λe vz=>match vz with|(o,p,_,c,d)=>match e with
    |.exit 5 =>
     cond (o) (
     j9 (Kh p 1) c d) (
     j9 false c d)
    |_=>none)) k (p3,[],0,s,(Stm.mk s.kind s.name [] [] [] [] [] s.sets false (Xpr.mk 0 ⟨0,0,[]⟩ [] []) [] [] 0))) (
    cond (decide (s.kind=8)) (
    let j5:Bool->Option (HV [.int .i64]):=λ(r:Bool) =>
     let j4:Bool->Option (HV [.int .i64]):=λ(t:Bool) =>
     cond (t) (
      cond (decide ((s.desc.length:Int)=(s.order.length:Int))) (
      j9 (decide ((-1)<=s.most)) s (Stm.mk s.kind s.name [] [] [] s.l [] [] false (Xpr.mk 0 ⟨0,0,[]⟩ [] []) s.order s.desc s.most)) (
      j9 false s (Stm.mk s.kind s.name [] [] [] s.l [] [] false (Xpr.mk 0 ⟨0,0,[]⟩ [] []) s.order s.desc s.most))) (
      j9 false s (Stm.mk s.kind s.name [] [] [] s.l [] [] false (Xpr.mk 0 ⟨0,0,[]⟩ [] []) s.order s.desc s.most))
     cond (r) (
     j4 (Kh s.order 0)) (
     j4 false)
    cond (p3) (
     j5 (Ul s.l 0)) (
     j5 false)) (
    j9 p3 s (Stm.mk s.kind s.name [] [] [] [] [] [] false (Xpr.mk 0 ⟨0,0,[]⟩ [] []) [] [] 0))))))
 cond ((X4 s.name)) (
  cond (decide (1<=s.kind)) (
  a (decide (s.kind<=8))) (
  a false)) (
  a false)
theorem Bgl(k:Nat):FO 78 [.sv .stmt] [.int .i64] (Aat k):=fR (px:=A8b _ k) (n:=3) Tryz.func78 rfl (λcx H=>by have h0:Lv cx (A8b (HV [.int .i64]) k):=lv H (c1 H Agd (c1 H Bjv (c1 H Bpz (c1 H Ahu (c1 H Bbm Ae))))) Aa Ab;have hlrchk_0:=lO H h0 (b:=lp Tryz.f78 0) (k:=k) (n:=0) (s:=Anv) (step:=Aaz) (λ_ _ _ (_,_,_,_,_)=>by kernel_rfl) Aj;have hlrchk_1:=lO H h0 (b:=lp Tryz.f78 1) (k:=k) (n:=0) (s:=Ap2) (step:=V2) (λ_ _ _ (_,_,_,_)=>by kernel_rfl) Aj;have hlrchk_2:=lO H h0 (b:=lp Tryz.f78 2) (k:=k) (n:=0) (s:=Am0) (step:=Abl) (λ_ _ _ (_,_,_,_,_)=>by kernel_rfl) Aj;exact⟨h0,(A3 (A3 (A3 Aj hlrchk_0) hlrchk_1) hlrchk_2)⟩) λ_=>by kernel_rfl
noncomputable def Bdt(s:Stm):Option Int :=@ite _ (Few s) (Classical.propDecidable _) (some (cond (Bm s) 0 2)) none
def At3:FT [.sv .stmt] [.int .i64]:=λx=>Bdt x
theorem Ayk{R:Type}{kx:Ex->Z6->Option R}{w o:Stm}{c:Bool->List Str->Option R}(hn:w.cols.length<=2000000)(h2:∀v ns i,kx (.exit 1) (v,ns,i,w,o)=c v ns)(k:Nat)(hk:w.cols.length<k)(v:Bool) :
  Ak (λrec=>Aaz rec kx) k (v,[],0,w,o)=c (v&&w.cols.all Hc) (w.cols.map (·.name)):=by
 have hl:ln w.cols.length:=by simp[ln];omega
 refine(Bo w.cols.length (λi v=>(v,(w.cols.take i).map (·.name),(i:Int),w,o)) (λ_ _=>True) (λi v=>c (v&&(w.cols.drop i).all Hc) (w.cols.map (·.name))) (λi hi v _ rec hr =>?_) (λv _ rec =>?_) k 0 v (Nat.zero_le _) (by omega) trivial).trans (by rw[Zq1])
 ·have ht:(w.cols.take (i+1)).map (·.name)=(w.cols.take i).map (·.name)++[w.cols[i].name]:=by rw[List.take_add_one,Zo1 hi,List.map_append];rfl
  have hlen:((w.cols.take i).map (·.name)).length+1<=Af:=by simp[List.length_map,List.length_take,Af];omega
  have hr:=λv'=>hr v' trivial;simp only[ht] at hr;simp only[Aaz,Br hi,Ag,Ao hi,chk,Al (c :=.col) hi,An hi hl,Ah hi,Zv1,Ze1 hlen,Kf,Hc];simp only[hr];generalize decide (2<=w.cols[i].kind)=q1;generalize decide (w.cols[i].kind<=5)=q2;generalize decide (w.cols[i].ref=[])=q3;generalize Cj w.cols[i].ref=q4;cases v<;>cases q1<;>cases q2<;>cases q3<;>cases q4<;>rfl
 ·simp only[Aaz,Bu,Ai,h2];rw[Zk1 (Zn1 _),List.take_length];simp
theorem Axe{R:Type}{kx:Ex->Xh->Option R}{w o:Stm}{c:Bool->Option R}(hn:ln w.rows.length)(h2:∀v i,kx (.exit 3) (v,i,w,o)=c v)(k:Nat)(hk:w.rows.length<k)(v:Bool) :
  Ak (λrec=>V2 rec kx) k (v,0,w,o)=c (v&&w.rows.all λr=>Ul r 1):=by
 refine(Bo w.rows.length (λi v=>(v,(i:Int),w,o)) (λ_ _=>True) (λi v=>c (v&&(w.rows.drop i).all λr=>Ul r 1)) (λi hi v _ rec hr =>?_) (λv _ rec =>?_) k 0 v (Nat.zero_le _) (by omega) trivial).trans (by rw[Zq1])
 ·simp only[V2,Br hi,Ag,Ao hi,chk,Al (c :=.exprs) hi,An hi hn,Ah hi,Zv1,(λv'=>hr v' trivial)];generalize Ul w.rows[i] 1=q1;cases v<;>cases q1<;>rfl
 ·simp only[V2,Bu,Ai,h2];rw[Zk1 (Zn1 _)];simp
theorem Axf{R:Type}{kx:Ex->Aaj->Option R}{w o:Stm}{c:Bool->List Str->Option R}(hn:w.sets.length<=2000000)(h2:∀v ns i,kx (.exit 5) (v,ns,i,w,o)=c v ns)(k:Nat)(hk:w.sets.length<k)(v:Bool) :
  Ak (λrec=>Abl rec kx) k (v,[],0,w,o)=c (v&&w.sets.all λx=>decide (Bc x.e<=30)) (w.sets.map (·.name)):=by
 have hl:ln w.sets.length:=by simp[ln];omega
 refine(Bo w.sets.length (λi v=>(v,(w.sets.take i).map (·.name),(i:Int),w,o)) (λ_ _=>True) (λi v=>c (v&&(w.sets.drop i).all λx=>decide (Bc x.e<=30)) (w.sets.map (·.name))) (λi hi v _ rec hr =>?_) (λv _ rec =>?_) k 0 v (Nat.zero_le _) (by omega) trivial).trans (by rw[Zq1])
 ·have ht:(w.sets.take (i+1)).map (·.name)=(w.sets.take i).map (·.name)++[w.sets[i].name]:=by rw[List.take_add_one,Zo1 hi,List.map_append];rfl
  have hlen:((w.sets.take i).map (·.name)).length+1<=Af:=by simp[List.length_map,List.length_take,Af];omega
  have hr:=λv'=>hr v' trivial;simp only[ht] at hr;simp only[Abl,Br hi,Ag,Ao hi,chk,Al (c :=.set) hi,An hi hl,Ah hi,Zv1,Ze1 hlen,Gp];simp only[hr];generalize decide (Bc w.sets[i].e<=30)=q1;cases v<;>cases q1<;>rfl
 ·simp only[Abl,Bu,Ai,h2];rw[Zk1 (Zn1 _),List.take_length];simp
theorem A5e(s own:Stm)(ok:Bool):cond (!ok) (some (2:Int)) (cond (!Ww own s) (some 2) (some 0))=some (cond (ok&&decide (own=s)) 0 2):=by simp[Ww];cases ok<;>cases decide (own=s)<;>rfl
theorem Aki(l:List Str):Kh l 1=(C0 (l.length:Int)&&C6 l):=by rw[A0j];simp[Kh,C6];rw[show decide ((1:Int)<=(l.length:Int))=decide (1<=l.length) from Zy1.2 (by omega)];cases Md [] l<;>cases decide (1<=l.length)<;>cases decide (l.length<=100)<;>rfl
theorem Bfv(l:List Str):Kh l 0=C6 l:=by simp only[Kh];rw[Ze1 (show(0:Int)<=(l.length:Int) by omega),Bool.and_true]
theorem Bqv{l:List Xpr}(h:esizes l<=900000):Ul l 0=Fx l:=by rw[A7b h,Ze1 (show(0:Int)<=(l.length:Int) by omega),Bool.and_true]
theorem Bq9{l:List Xpr}(h:esizes l<=900000):Ul l 1=Af4 l:=by
 rw[A7b h,Af4];by_cases e:l.length=0
 ·grind
 ·grind
theorem Aqm{α:Type}{l:List α}{p q : α->Bool}(h:∀x,x∈l->p x=q x):l.all p=l.all q:=by grind
theorem Bv1{s:Stm}(hk:s.kind=1):decide (Stm.mk s.kind s.name [] s.cols s.names s.l [] [] false noX [] [] 0=s)=decide (Cl s=noS):=by obtain⟨k,nm,on,cols,names,l,rows,sets,has,whr,order,desc,most⟩:=s;simp only at hk;subst hk;exact Zy1.2 ⟨λh=>by simp_all [Cl,noS],λh=>by simp_all [Cl,noS]⟩
theorem Bvv{s:Stm}(hk:s.kind=2\/s.kind=4):decide (Stm.mk s.kind s.name [] [] [] [] [] [] false noX [] [] 0=s)=decide (Cl s=noS):=by obtain⟨k,nm,on,cols,names,l,rows,sets,has,whr,order,desc,most⟩:=s;simp only at hk;rcases hk with rfl|rfl<;>exact Zy1.2 ⟨λh=>by simp_all [Cl,noS],λh=>by simp_all [Cl,noS]⟩
theorem Bv2{s:Stm}(hk:s.kind=3):decide (Stm.mk s.kind s.name s.on [] s.names [] [] [] false noX [] [] 0=s)=decide (Cl s=noS):=by obtain⟨k,nm,on,cols,names,l,rows,sets,has,whr,order,desc,most⟩:=s;simp only at hk;subst hk;exact Zy1.2 ⟨λh=>by simp_all [Cl,noS],λh=>by simp_all [Cl,noS]⟩
theorem Bwj{s:Stm}(hk:s.kind=5):decide (Stm.mk s.kind s.name [] [] [] [] s.rows [] false noX [] [] 0=s)=decide (Cl s=noS):=by obtain⟨k,nm,on,cols,names,l,rows,sets,has,whr,order,desc,most⟩:=s;simp only at hk;subst hk;exact Zy1.2 ⟨λh=>by simp_all [Cl,noS],λh=>by simp_all [Cl,noS]⟩
theorem Bwi{s:Stm}(hk:s.kind=6)(hh:s.has=true):decide (Stm.mk s.kind s.name [] [] [] [] [] s.sets true s.whr [] [] 0=s)=decide (Cl s=noS):=by obtain⟨k,nm,on,cols,names,l,rows,sets,has,whr,order,desc,most⟩:=s;simp only at hk hh;subst hk hh;exact Zy1.2 ⟨λh=>by simp_all [Cl,noS],λh=>by simp_all [Cl,noS]⟩
theorem Bvo{s:Stm}(hk:s.kind=6)(hh:s.has=false):decide (Stm.mk s.kind s.name [] [] [] [] [] s.sets false noX [] [] 0=s)=(decide (Cl s=noS)&&decide (s.whr=noX)):=by obtain⟨k,nm,on,cols,names,l,rows,sets,has,whr,order,desc,most⟩:=s;simp only at hk hh;subst hk hh;rw[<-Bool.decide_and];exact Zy1.2 ⟨λh=>by simp_all [Cl,noS],λh=>by simp_all [Cl,noS]⟩
theorem Bwn{s:Stm}(hk:s.kind=7)(hh:s.has=true):decide (Stm.mk s.kind s.name [] [] [] [] [] [] true s.whr [] [] 0=s)=decide (Cl s=noS):=by obtain⟨k,nm,on,cols,names,l,rows,sets,has,whr,order,desc,most⟩:=s;simp only at hk hh;subst hk hh;exact Zy1.2 ⟨λh=>by simp_all [Cl,noS],λh=>by simp_all [Cl,noS]⟩
theorem Bu0{s:Stm}(hk:s.kind=7)(hh:s.has=false):decide (Stm.mk s.kind s.name [] [] [] [] [] [] false noX [] [] 0=s)=(decide (Cl s=noS)&&decide (s.whr=noX)):=by obtain⟨k,nm,on,cols,names,l,rows,sets,has,whr,order,desc,most⟩:=s;simp only at hk hh;subst hk hh;rw[<-Bool.decide_and];exact Zy1.2 ⟨λh=>by simp_all [Cl,noS],λh=>by simp_all [Cl,noS]⟩
theorem Bwk{s:Stm}(hk:s.kind=8)(hh:s.has=true):decide (Stm.mk s.kind s.name [] [] [] s.l [] [] true s.whr s.order s.desc s.most=s)=decide (Cl s=noS):=by obtain⟨k,nm,on,cols,names,l,rows,sets,has,whr,order,desc,most⟩:=s;simp only at hk hh;subst hk hh;exact Zy1.2 ⟨λh=>by simp_all [Cl,noS],λh=>by simp_all [Cl,noS]⟩
theorem Bu3{s:Stm}(hk:s.kind=8)(hh:s.has=false):decide (Stm.mk s.kind s.name [] [] [] s.l [] [] false noX s.order s.desc s.most=s)=(decide (Cl s=noS)&&decide (s.whr=noX)):=by obtain⟨k,nm,on,cols,names,l,rows,sets,has,whr,order,desc,most⟩:=s;simp only at hk hh;subst hk hh;rw[<-Bool.decide_and];exact Zy1.2 ⟨λh=>by simp_all [Cl,noS],λh=>by simp_all [Cl,noS]⟩
def Jx(p:Bool)(s own:Stm):Option Int :=
 cond ((decide (s.kind=6)||decide (s.kind=7)||decide (s.kind=8))&&s.has)
  (cond (!(p&&decide (Bc s.whr<=30))) (some 2) (cond (!Ww ⟨own.kind,own.name,own.on,own.cols,own.names,own.l,own.rows,own.sets,true,s.whr,own.order,own.desc,own.most⟩ s) (some 2) (some 0)))
  (cond (!p) (some 2) (cond (!Ww own s) (some 2) (some 0)))
theorem O3{s:Stm}(h:¬(s.kind=6\/s.kind=7\/s.kind=8)\/s.has=false)(p:Bool)(own:Stm):Jx p s own=some (cond (p&&decide (own=s)) 0 2):=by
 have e:((decide (s.kind=6)||decide (s.kind=7)||decide (s.kind=8))&&s.has)=false:=by grind
 simp only[Jx,e];exact A5e s own p
theorem Ahr{s:Stm}(h:s.kind=6\/s.kind=7\/s.kind=8)(hh:s.has=true)(hf:Few s)(p:Bool)(own:Stm):Jx p s own=some (cond (p&&A5 s.whr 30&&decide (Stm.mk own.kind own.name own.on own.cols own.names own.l own.rows own.sets true s.whr own.order own.desc own.most=s)) 0 2):=by
 have e:((decide (s.kind=6)||decide (s.kind=7)||decide (s.kind=8))&&s.has)=true:=by grind
 have hd:=A5h (show Aw s.whr<=900000 by have:=hf.whr;omega);simp only[Jx,e,hd];exact A5e s _ _
theorem Jf(b p:Bool)(s o:Stm):cond b (Jx p s o) (Jx false s o)=Jx (b&&p) s o:=by cases b<;>rfl
theorem Ale{s:Stm}(h:s.has=true):G2 s=A5 s.whr 30:=by rw[Aqo,h];rfl
theorem Aho{s:Stm}(h:s.has=false):G2 s=decide (s.whr=noX):=by rw[Aqo,h];rfl
theorem Bso(k:Nat)(s:Stm)(hb:BdStm s)(hf:Few s)(hk:A8k s<=k):Aat k s=some (cond (Bm s) 0 2):=by
 simp only[A8k] at hk;simp -zeta only [Aat,Kf];extract_lets s0 j9 j3 j4 j5 f;subst s0;have h10:f (Cj s.name&&decide (1<=s.kind)&&decide (s.kind<=8))=some (cond (Bm s) 0 2):=by
  generalize hp:(Cj s.name&&decide (1<=s.kind)&&decide (s.kind<=8))=p;simp -zeta only [f];have h9:∀p q q1,j9 p q q1=Jx p q q1:=λp q q1=>by simp only[j9,Jx,Gp];generalize decide (q.kind=6)=b6;generalize decide (q.kind=7)=b7;generalize decide (q.kind=8)=b8;generalize q.has=bh;cases p<;>cases b6<;>cases b7<;>cases b8<;>cases bh<;>rfl
  have h9':j9=Jx:=funext λp=>funext λq=>funext λq1=>h9 p q q1;simp -zeta only [j3,j5,j4];clear f j5 j4 j3;clear h9;clear_value j9;subst h9';have hl:Ul s.l 0=Fx s.l:=Bqv (by have:=hf.l;omega);have w6:(s.sets.all λx=>decide (Bc x.e<=30))=s.sets.all λx=>A5 x.e 30:=Aqm λx hx=>A5h (by have:=hf.sets.2 x hx;omega);have w5:(s.rows.all λr=>Ul r 1)=s.rows.all Af4:=Aqm λr hr=>Bq9 (by have:=hf.rows.2 r hr;omega);have hx:Xpr.mk 0 ⟨0,0,[]⟩ [] []=noX:=rfl;have pk:∀{n:Int},s.kind=n->1<=n->n<=8->p=Cj s.name:=λ{n} h a b=>by rw[<-hp,Ze1 (show 1<=s.kind by omega),Ze1 (show s.kind<=8 by omega),Bool.and_true,Bool.and_true]
  by_cases h1:s.kind=1
  ·rw[Ze1 h1,Ag];refine(Ayk (c:=λv ns=>cond v (cond (Kh ns 1) (cond (Kh s.names 1) (Jx (Ul s.l 0) s (Stm.mk s.kind s.name [] s.cols s.names s.l [] [] false noX [] [] 0)) (Jx false s (Stm.mk s.kind s.name [] s.cols s.names s.l [] [] false noX [] [] 0))) (Jx false s (Stm.mk s.kind s.name [] s.cols s.names s.l [] [] false noX [] [] 0))) (Jx false s (Stm.mk s.kind s.name [] s.cols s.names s.l [] [] false noX [] [] 0))) hf.cols (λ_ _ _=>rfl) k (by omega) p).trans ?_;simp only[Jf,Aki,hl];rw[O3 (.inl (by omega)),Bv1 h1,pk h1 (by omega) (by omega),Bm,if_pos h1];simp only[List.length_map];congr 2
   ac_rfl
  rw[Zd1 h1,Ai];by_cases h3:s.kind=3
  ·rw[Ze1 h3,Ag];simp only[Jf,Aki,hx];rw[O3 (.inl (by omega)),Bv2 h3,pk h3 (by omega) (by omega),Bm,if_neg h1,if_pos h3];congr 2
   ac_rfl
  rw[Zd1 h3,Ai];by_cases h5:s.kind=5
  ·rw[Ze1 h5,Ag];have hit:=λd=>Axe (w:=s) (o:=Stm.mk s.kind s.name [] [] [] [] s.rows [] false noX [] [] 0) (c:=λv=>Jx v s (Stm.mk s.kind s.name [] [] [] [] s.rows [] false noX [] [] 0)) (kx:=λe vz=>match vz with|(g,_,i,j)=>match e with
    |.exit 3=>Jx g i j
    |_=>none) hb.rows.1 (λ_ _=>rfl) k (by omega) d
   have e:∀d,Ak (λrec=>V2 rec (λe vz=>match vz with|(g,_,i,j)=>match e with
    |.exit 3=>Jx g i j
    |_=>none)) k (d,0,s,(Stm.mk s.kind s.name [] [] [] [] s.rows [] false noX [] [] 0))=Jx (d&&s.rows.all λr=>Ul r 1) s (Stm.mk s.kind s.name [] [] [] [] s.rows [] false noX [] [] 0):=hit
   show cond p (cond (decide (1<=(s.rows.length:Int))) (Ak _ k (_,0,s,(Stm.mk s.kind s.name [] [] [] [] s.rows [] false noX [] [] 0))) (Ak _ k (_,0,s,(Stm.mk s.kind s.name [] [] [] [] s.rows [] false noX [] [] 0)))) (Ak _ k (_,0,s,(Stm.mk s.kind s.name [] [] [] [] s.rows [] false noX [] [] 0)))=_;rw[e,e,Bool.false_and,Jf,Jf,w5];rw[O3 (.inl (by omega)),Bwj h5,pk h5 (by omega) (by omega),Bm,if_neg h1,if_neg h3,if_neg (by omega),if_pos h5,Am7,A0j,A4m,show decide ((1:Int)<=(s.rows.length:Int))=decide (1<=s.rows.length) from Zy1.2 (by omega)];congr 2
   ac_rfl
  rw[Zd1 h5,Ai];by_cases h6:s.kind=6
  ·rw[Ze1 h6,Ag];refine(Axf (c:=λv ns=>cond v (Jx (Kh ns 1) s (Stm.mk s.kind s.name [] [] [] [] [] s.sets false noX [] [] 0)) (Jx false s (Stm.mk s.kind s.name [] [] [] [] [] s.sets false noX [] [] 0))) hf.sets.1 (λ_ _ _=>rfl) k (by omega) p).trans ?_;simp only[Jf,Aki,w6];rw[Bm,if_neg h1,if_neg h3,if_neg (by omega),if_neg h5,if_pos h6,pk h6 (by omega) (by omega)];simp only[List.length_map];cases hh:s.has with
   |true =>
    rw[Ahr (.inl h6) hh hf,Bwi h6 hh,Ale hh];congr 2
    ac_rfl
   |false =>
    rw[O3 (.inr hh),Bvo h6 hh,Aho hh];congr 2
    ac_rfl
  rw[Zd1 h6,Ai];by_cases h8:s.kind=8
  ·rw[Ze1 h8,Ag];simp only[Jf,Bfv,hx,hl];have c4:∀(b:Bool) (P Q:Bool),cond b (Jx P s (Stm.mk s.kind s.name [] [] [] s.l [] [] false noX s.order s.desc s.most)) (Jx (false&&Q) s (Stm.mk s.kind s.name [] [] [] s.l [] [] false noX s.order s.desc s.most))=Jx (b&&P) s (Stm.mk s.kind s.name [] [] [] s.l [] [] false noX s.order s.desc s.most):=λb P Q=>by cases b<;>rfl
   simp only[c4];have e1:decide ((s.desc.length:Int)=(s.order.length:Int))=decide (s.desc.length=s.order.length):=Zy1.2 (by omega);rw[Bm,if_neg h1,if_neg h3,if_neg (by omega),if_neg h5,if_neg h6,if_neg (by omega),if_pos h8,pk h8 (by omega) (by omega),e1];cases hh:s.has with
   |true =>
    rw[Ahr (.inr (.inr h8)) hh hf,Bwk h8 hh,Ale hh];congr 2
    ac_rfl
   |false =>
    rw[O3 (.inr hh),Bu3 h8 hh,Aho hh];congr 2
    ac_rfl
  rw[Zd1 h8,Ai,hx];by_cases h7:s.kind=7
  ·rw[Bm,if_neg h1,if_neg h3,if_neg (by omega),if_neg h5,if_neg h6,if_pos h7,pk h7 (by omega) (by omega)];cases hh:s.has with
   |true =>
    rw[Ahr (.inr (.inl h7)) hh hf,Bwn h7 hh,Ale hh];congr 2
    ac_rfl
   |false =>
    rw[O3 (.inr hh),Bu0 h7 hh,Aho hh];congr 2
    ac_rfl
  rw[O3 (.inl (by omega)),Bm,if_neg h1,if_neg h3];by_cases h24:s.kind=2\/s.kind=4
  ·rw[if_pos h24,Bvv h24,<-hp,Ze1 (show 1<=s.kind by omega),Ze1 (show s.kind<=8 by omega)];congr 2
   ac_rfl
  ·have hp0:p=false:=by
    rw[<-hp];by_cases q : 1<=s.kind
    ·rw[Zd1 (show ¬s.kind<=8 by omega),Bool.and_false]
    ·rw[Zd1 q,Bool.and_false,Bool.false_and]
   rw[if_neg h24,if_neg h5,if_neg h6,if_neg h7,if_neg h8,hp0,Bool.and_false];rfl
 rw[<-h10];cases Cj s.name<;>cases decide (1<=s.kind)<;>cases decide (s.kind<=8)<;>rfl
theorem A6p:FO 78 [.sv .stmt] [.int .i64] At3 :=.fin 0 Bgl λs r hb hx=>⟨A8k s,by
 simp only[At3,Bdt] at hx;split at hx
 ·rename_i h;exact(Bso (A8k s) s hb h (Zn1 _)).trans hx
 ·cases hx⟩
theorem A6t{s:Stm}(h:Few s):Bdt s=some (cond (Bm s) 0 2):=if_pos h
end
def Are:Sig:=⟨20,[(0,.sl .col false),(1,.str),(4,.int .i64),(5,.int .i64)],[],[],0,0,0,[],[]⟩
abbrev Ajz:=List Col×Str×Int×Int
def Agw{R:Type}(rec:Ajz->Option R)(kx:Ex->Ajz->Option R)(v:Ajz):Option R:=match v with
 |(v,v1,v2,v3) =>
 cond (decide (v3<(v.length:Int))) (
  chk (inb v3 v.length) (
  cond (decide (((at' .col v v3).name)=v1)) (
   kx .ret (v,v1,v3,v3)) (
   rec (v,v1,v2,(wr .i64 (v3+1)))))) (
  kx (.exit 0) (v,v1,v2,v3))
def A7k(R:Type)(k:Nat):Px R:=pxO [] [] [(2,Am k Are (Agw))] []
def Aq9(k:Nat)(x:HV [.sl .col false,.str]):Option (HV [.int .i64]):=match x with
 |(cols,name) =>
 Ak (λrec=>Agw rec (λe vz=>match vz with|(_,_,v6,_)=>match e with
  |.ret =>
  some v6
  |.exit 0 =>
  some (-1)
  |_=>none)) k (cols,name,0,0)
theorem Bi8(k:Nat):FO 40 [.sl .col false,.str] [.int .i64] (Aq9 k):=fR (px:=A7k _ k) (n:=1) Tryz.func40 rfl (λcx H=>by have h0:Lv cx (A7k (HV [.int .i64]) k):=lv H Ae Aa Ab;have hlrcol_0:=lO H h0 (b:=lp Tryz.f40 0) (k:=k) (n:=0) (s:=Are) (step:=Agw) (λ_ _ _ (_,_,_,_)=>by kernel_rfl) Aj;exact⟨h0,(A3 Aj hlrcol_0)⟩) λ(_,_)=>by kernel_rfl
def Amk(cols:List Col)(name:Str):Int:=B9 cols name
def Alw:FT [.sl .col false,.str] [.int .i64]:=λx=>some (Amk x.1 x.2)
theorem Ary:FO 40 [.sl .col false,.str] [.int .i64] Alw :=.fin 0 Bi8 λ(cols,s) r hb hx=>⟨cols.length+1,by
 simp only[Alw,Za1,Amk] at hx;simp only[Aq9];refine(Ay cols.length (λi=>(cols,s,0,(i:Int))) (λi=>some (A7 (cols.drop i) s i)) (λi hi rec hr =>?_) (λrec =>?_) _ 0 (Nat.zero_le _) (by omega)).trans (by rw[Zq1,<-hx];rfl)
 ·simp only[Agw,Br hi,Ag,Ao hi,chk,Al (c :=.col) hi,An hi hb.1.1,hr,Ah hi,A7,Bool.cond_decide];split<;>rfl
 ·simp only[Agw,Bu,Ai];rw[Zk1 (Zn1 _)];rfl⟩
noncomputable section
def Amc:Sig:=⟨70,[(3,.int .i64),(6,.int .i64)],[(1,.ptr 0 0),(2,.ptr 1 0)],[(0,.one (.sv .stmt)),(1,.one (.sv .tbl))],2,0,0,[],[]⟩
abbrev T7:=Int×Int×Stm×Tbl
def Tm{R:Type}(rec:T7->Option R)(kx:Ex->T7->Option R)(v:T7):Option R:=match v with
 |(v6,v7,w2,w3) =>
 cond (decide (v7<(w2.l.length:Int))) (
  chk (inb v7 w2.l.length) (
  (Ayb (at' .expr w2.l v7) w2.cols).bind λ(x1,x2) =>
   cond (!decide (x2=0)) (
   kx .ret (x2,v7,w2,(Tbl.mk [] [] [] [] []))) (
   cond (decide (2<x1)) (
    kx .ret (151,v7,w2,(Tbl.mk [] [] [] [] []))) (
    rec (v6,(wr .i64 (v7+1)),w2,w3))))) (
  kx (.exit 2) (v6,v7,w2,w3))
def Agj:Sig:=⟨70,[(3,.int .i64),(5,.int .i64)],[(1,.ptr 0 0),(2,.ptr 1 0)],[(0,.one (.sv .stmt)),(1,.one (.sv .tbl))],2,0,0,[],[]⟩
abbrev S1:=Int×Int×Stm×Tbl
def Rl{R:Type}(rec:S1->Option R)(kx:Ex->S1->Option R)(v:S1):Option R:=match v with
 |(v,v1,w,w1) =>
 cond (decide (v1<(w.names.length:Int))) (
  chk (inb v1 w.names.length) (
  cond (decide ((Amk w.cols (at' .str w.names v1))<0)) (
   kx .ret (150,v1,w,(Tbl.mk [] [] [] [] []))) (
   rec (v,(wr .i64 (v1+1)),w,w1)))) (
  kx (.exit 0) (v,v1,w,w1))
def Ayy(R:Type)(k:Nat):Px R:=pxO [(78,cA At3),(40,cA Alw)] [(79,qA As1)] [(5,Am k Agj (Rl)),(10,Am k Amc (Tm))] []
def Vo(k:Nat)(x:HV [.sv .stmt]):Option (HV [.sv .tbl,.int .i64]):=match x with
 |s =>
 (Bdt s).bind λx =>
  cond (!decide (x=0)) (
  some ((Tbl.mk [] [] [] [] []),2)) (
  cond (!decide (s.kind=1)) (
   some ((Tbl.mk [] [] [] [] []),2)) (
   Ak (λrec=>Rl rec (λe vz=>match vz with|(v2,_,v4,v5)=>match e with
   |.ret =>some (v5,v2)
   |.exit 0 =>
    Ak (λrec=>Tm rec (λe vz=>match vz with|(v8,_,a,b)=>match e with
    |.ret =>some (b,v8)
    |.exit 2 =>some ((Tbl.mk a.name a.cols a.names a.l []),0)
    |_=>none)) k (v2,0,v4,v5)
   |_=>none)) k (0,0,s,(Tbl.mk [] [] [] [] []))))
theorem Ba3(k:Nat):FO 42 [.sv .stmt] [.sv .tbl,.int .i64] (Vo k):=fR (px:=Ayy _ k) (n:=2) Tryz.func42 rfl (λcx H=>by have h0:Lv cx (Ayy (HV [.sv .tbl,.int .i64]) k):=lv H (c1 H A6p (c1 H Ary Ae)) (q1 H Bh7 Aa) Ab;have hlrmake_0:=lO H h0 (b:=lp Tryz.f42 0) (k:=k) (n:=0) (s:=Agj) (step:=Rl) (λ_ _ _ (_,_,_,_)=>by kernel_rfl) Aj;have hlrmake_1:=lO H h0 (b:=lp Tryz.f42 1) (k:=k) (n:=0) (s:=Amc) (step:=Tm) (λ_ _ _ (_,_,_,_)=>by kernel_rfl) Aj;exact⟨h0,(A3 (A3 Aj hlrmake_0) hlrmake_1)⟩) λ_=>by kernel_rfl
def Ay5(s:Stm):Option (Tbl×Int) :=@ite _ (Few s) (Classical.propDecidable _) (some (H3 s)) none
def Atj:FT [.sv .stmt] [.sv .tbl,.int .i64]:=λx=>Ay5 x
theorem Arx{R:Type}{kx:Ex->S1->Option R}{s:Stm}{q:Tbl}{a b:Option R}(hn:ln s.names.length)(h1:∀i:Nat,kx .ret (150,(i:Int),s,Fi)=a)(h2:kx (.exit 0) (0,(s.names.length:Int),s,q)=b)(k:Nat)(hk:s.names.length<k) :
  Ak (λrec=>Rl rec kx) k (0,0,s,q)=cond (s.names.all λx => !decide (B9 s.cols x<0)) b a:=by
 refine(Ay s.names.length (λi=>(0,(i:Int),s,q)) (λi=>cond ((s.names.drop i).all λx => !decide (B9 s.cols x<0)) b a) (λi hi rec hr =>?_) (λrec =>?_) k 0 (Nat.zero_le _) (by omega)).trans (by rw[Zq1])
 ·simp only[Rl,Br hi,Ao hi,Al (c :=.str) hi,An hi hn,hr,Ah hi,Zv1,Amk];cases decide (B9 s.cols s.names[i]<0) with|true=>exact h1 i|false=>rfl
 ·simp only[Rl,Bu,h2]
  grind
theorem At6{R:Type}{kx:Ex->T7->Option R}{s:Stm}{q:Tbl}{g:Int->Option R}{b:Option R}(hn:ln s.l.length)(hc:s.cols.all Hc=true)(hs:∀e,e∈s.l->Aw e<=900000)(h1:∀p (i:Nat),kx .ret (p,(i:Int),s,Fi)=g p)(h2:kx (.exit 2) (0,(s.l.length:Int),s,q)=b)(k:Nat)(hk:s.l.length<k) :
  Ak (λrec=>Tm rec kx) k (0,0,s,q)=cond (decide (G1 s.cols s.l=0)) b (g (G1 s.cols s.l)):=by
 refine(Ay s.l.length (λi=>(0,(i:Int),s,q)) (λi=>cond (decide (G1 s.cols (s.l.drop i)=0)) b (g (G1 s.cols (s.l.drop i)))) (λi hi rec hr =>?_) (λrec =>?_) k 0 (Nat.zero_le _) (by omega)).trans (by rw[Zq1])
 ·have hk:Ayb s.l[i] s.cols=some (D5 s.l[i] s.cols):=by rw[Ayb,Ze1 (Aya (hs _ (List.getElem_mem hi)))];rfl
  simp only[Tm,Br hi,Ao hi,Al (c :=.expr) hi,hk,An hi hn,hr,Ah hi,G1,Bmf hc];by_cases hf:(D5 s.l[i] s.cols).2=0
  ·simp[hf,Ag];cases decide (2<(D5 s.l[i] s.cols).1) with|true=>exact h1 _ _|false=>rfl
  ·simp[Zd1 hf,Ai];exact h1 _ _
 ·simp only[Tm,Bu,h2];rw[Zk1 (Zn1 _)];rfl
theorem Bpw{s:Stm}(hb:BdStm s)(hf:Few s){k:Nat}(h1:s.names.length<k)(h2:s.l.length<k):Vo k s=some (H3 s):=by
 simp[Vo,A6t hf,H3];cases hck:Bm s with
 |false=>simp[Fi]
 |true =>
  by_cases hk:s.kind=1
  ·have hc:s.cols.all Hc=true:=by simp only[Bm,if_pos hk,Zb1] at hck;exact hck.2.1.1.1.1.1
   simp[hk,Ag];refine(Arx (a:=some (Fi,150)) (b:=cond (decide (G1 s.cols s.l=0)) (some (⟨s.name,s.cols,s.names,s.l,[]⟩,0)) (some (Fi,G1 s.cols s.l))) hb.names.1 (λ_=>rfl) ?_ _ h1).trans ?_
   ·exact At6 (g:=λp=>some (Fi,p)) hb.l.1 hc (λe he=>by have:=A9 he;have:=hf.l;omega) (λ_ _=>rfl) rfl _ h2
   ·rw[As,As];rfl
  ·simp[hk,Fi]
theorem Ben:FO 42 [.sv .stmt] [.sv .tbl,.int .i64] Atj :=.fin 0 Ba3 λs r hb hx=>⟨s.names.length+s.l.length+1,by
 simp only[Atj,Ay5] at hx;split at hx
 case isFalse=>cases hx
 rename_i hf;rw[<-hx];exact Bpw hb hf (by omega) (by omega)⟩
def Adk:Sig:=⟨33,[(4,.int .i64),(6,.int .i64)],[(2,.ptr 0 0),(3,.ptr 1 0)],[(0,.one (.sv .tbl)),(1,.one (.sv .idx))],2,0,0,[],[]⟩
abbrev Wg:=Int×Int×Tbl×Idx
def Q6{R:Type}(rec:Wg->Option R)(kx:Ex->Wg->Option R)(v:Wg):Option R:=match v with
 |(v,v1,w,w1) =>
 cond (decide (v1<(w1.cols.length:Int))) (
  chk (inb v1 w1.cols.length) (
  cond (decide ((Amk w.cols (at' .str w1.cols v1))<0)) (
   kx .ret (150,v1,w,w1)) (
   rec (v,(wr .i64 (v1+1)),w,w1)))) (
  kx (.exit 0) (v,v1,w,w1))
def Apk(R:Type)(k:Nat):Px R:=pxO [(78,cA At3),(40,cA Alw)] [] [(5,Am k Adk (Q6))] []
def Aem(k:Nat)(x:HV [.sv .tbl,.sv .idx]):Option (HV [.int .i64]):=match x with
 |(t,x) =>
 (Bdt (Stm.mk 3 x.name t.name [] x.cols [] [] [] false (Xpr.mk 0 ⟨0,0,[]⟩ [] []) [] [] 0)).bind λx1 =>
  cond (!decide (x1=0)) (
  some 2) (
  Ak (λrec=>Q6 rec (λe vz=>match vz with|(v2,_,_,_)=>match e with
   |.ret =>
   some v2
   |.exit 0 =>
   some 0
   |_=>none)) k (0,0,t,x))
theorem A1h(k:Nat):FO 44 [.sv .tbl,.sv .idx] [.int .i64] (Aem k):=fR (px:=Apk _ k) (n:=1) Tryz.func44 rfl (λcx H=>by have h0:Lv cx (Apk (HV [.int .i64]) k):=lv H (c1 H A6p (c1 H Ary Ae)) Aa Ab;have hlrright_0:=lO H h0 (b:=lp Tryz.f44 0) (k:=k) (n:=0) (s:=Adk) (step:=Q6) (λ_ _ _ (_,_,_,_)=>by kernel_rfl) Aj;exact⟨h0,(A3 Aj hlrright_0)⟩) λ(_,_)=>by kernel_rfl
def Atb(t:Tbl)(x:Idx):Option Int :=@ite _ (Few (Bz t x)) (Classical.propDecidable _) (some (cond (Bm (Bz t x)) (cond (Iq t x.cols) 0 150) 2)) none
def Al4:FT [.sv .tbl,.sv .idx] [.int .i64]:=λx=>Atb x.1 x.2
theorem Bbc:FO 44 [.sv .tbl,.sv .idx] [.int .i64] Al4 :=.fin 0 A1h λ(t,x) r hb hx=>⟨x.cols.length+1,by
 simp only[Al4,Atb] at hx;split at hx
 case isFalse=>cases hx
 rename_i hf;rw[<-hx];have e:Bdt (Stm.mk 3 x.name t.name [] x.cols [] [] [] false (Xpr.mk 0 ⟨0,0,[]⟩ [] []) [] [] 0)=some (cond (Bm (Bz t x)) 0 2):=A6t hf;simp only[Aem,e,Zc1];cases Bm (Bz t x) with
 |false=>rfl
 |true =>
  simp only[Ag,decide_true,Zt1,Ai];refine(Ay x.cols.length (λi=>(0,(i:Int),t,x)) (λi=>some (cond (Iq t (x.cols.drop i)) 0 150)) (λi hi rec hr =>?_) (λrec =>?_) _ 0 (Nat.zero_le _) (by omega)).trans (by rw[Zq1])
  ·simp only[Q6,Br hi,Ag,Ao hi,chk,Al (c :=.str) hi,An hi hb.2.2.1,hr,Ah hi,Iq,Zv1,Amk];cases decide (B9 t.cols x.cols[i]<0)<;>rfl
  ·simp only[Q6,Bu,Ai];rw[Zk1 (Zn1 _)];rfl⟩
structure FewR (t:Tbl):Prop where
 stm:Few (Dj t)
 idx:∀x,x∈t.idx->Few (Bz t x)
def Anz(l:List Idx):Nat->Option Str
 |0=>none
 |i+1=>some (at' .idx l (i:Int)).name
def Ac3:Sig:=⟨57,[(2,.int .i64),(5,.int .i64)],[(1,.ptr 0 0)],[(0,.one (.sv .tbl))],1,0,0,[],[]⟩
abbrev Nj:=Int×Int×Tbl
def L5{R:Type}(rec:Nj->Option R)(kx:Ex->Nj->Option R)(v:Nj):Option R:=match v with
 |(v,v1,w) =>
 cond (decide (v1<(w.idx.length:Int))) (
  chk (inb v1 w.idx.length) (
  (Atb w (at' .idx w.idx v1)).bind λx2 =>
   cond (!decide (x2=0)) (
   kx .ret (2,v1,w)) (
   cond (decide (0<v1)) (
    chk (inb (wr .i64 (v1-1)) w.idx.length) (
    chk (inb v1 w.idx.length) (
     cond (!Op.bytesLess ((at' .idx w.idx (wr .i64 (v1-1))).name) ((at' .idx w.idx v1).name)) (
     kx .ret (2,v1,w)) (
     rec (v,(wr .i64 (v1+1)),w))))) (
    rec (v,(wr .i64 (v1+1)),w))))) (
  kx (.exit 0) (v,v1,w))
def Aob(R:Type)(k:Nat):Px R:=pxO [(43,cA Aa2),(42,cA Atj),(44,cA Al4)] [] [(5,Am k Ac3 (L5))] []
def Ac8(k:Nat)(x:HV [.sv .tbl]):Option (HV [.int .i64]):=match x with
 |t =>
 (Ay5 (Dj t)).bind λ(_,x1) =>
  cond (!decide (x1=0)) (
  some 2) (
  cond (decide (100<(t.idx.length:Int))) (
   some 2) (
   Ak (λrec=>L5 rec (λe vz=>match vz with|(v2,_,_)=>match e with
   |.ret =>some v2
   |.exit 0 =>some 0
   |_=>none)) k (0,0,t)))
theorem A1g(k:Nat):FO 17 [.sv .tbl] [.int .i64] (Ac8 k):=fR (px:=Aob _ k) (n:=1) Tryz.func17 rfl (λcx H=>by have h0:Lv cx (Aob (HV [.int .i64]) k):=lv H (c1 H Ahf (c1 H Ben (c1 H Bbc Ae))) Aa Ab;have hlrchk16_0:=lO H h0 (b:=lp Tryz.f17 0) (k:=k) (n:=0) (s:=Ac3) (step:=L5) (λ_ _ _ (_,_,_)=>by kernel_rfl) Aj;exact⟨h0,(A3 Aj hlrchk16_0)⟩) λ_=>by kernel_rfl
def As7(t:Tbl):Option Int :=@ite _ (FewR t) (Classical.propDecidable _) (some (cond (Ip t) 0 2)) none
def Alp:FT [.sv .tbl] [.int .i64]:=λx=>As7 x
theorem Amn{R:Type}{kx:Ex->Nj->Option R}{t:Tbl}{a b:Option R}(hn:ln t.idx.length)(hf:FewR t)(h1:∀i:Nat,kx .ret (2,(i:Int),t)=a)(h2:kx (.exit 0) (0,(t.idx.length:Int),t)=b)(k:Nat)(hk:t.idx.length<k) :
  Ak (λrec=>L5 rec kx) k (0,0,t)=cond (Ams t none t.idx) b a:=by
 refine(Ay t.idx.length (λi=>(0,(i:Int),t)) (λi=>cond (Ams t (Anz t.idx i) (t.idx.drop i)) b a) (λi hi rec hr =>?_) (λrec =>?_) k 0 (Nat.zero_le _) (by omega)).trans (by rw[Zq1];rfl)
 ·have hr1:Atb t t.idx[i]=some (cond (Bm (Bz t t.idx[i])) (cond (Iq t t.idx[i].cols) 0 150) 2):=if_pos (hf.idx _ (List.getElem_mem hi));have e:Anz t.idx (i+1)=some t.idx[i].name:=by simp[Anz,Al (c :=.idx) hi]
  simp only[L5,Br hi,Ag,Ao hi,chk,Al (c :=.idx) hi,hr1,Zc1,An hi hn,hr,Ah hi,e];have ok:Io t t.idx[i]=(Bm (Bz t t.idx[i])&&Iq t t.idx[i].cols):=rfl;cases i with
  |zero =>
   simp[Anz,Ams,ok];cases Bm (Bz t t.idx[0]) with
   |false=>exact h1 0
   |true=>cases Iq t t.idx[0].cols<;>first|exact h1 0|rfl
  |succ j =>
   have hj:j<t.idx.length:=by omega
   have wj:wr .i64 (((j+1:Nat):Int)-1)=(j:Int):=by simp[ln] at hn;rw[Bd (by simp[inI];omega)];omega
   simp only[Anz,Ams,ok,Ze1 (show(0:Int)<((j+1:Nat):Int) by omega),Ag,wj,Ao hj,Al (c :=.idx) hj,Bpc];cases Bm (Bz t t.idx[j+1]) with|false=>exact h1 _|true=>grind
 ·simp only[L5,Bu,Ai,h2];rw[Zk1 (Zn1 _)];cases Anz t.idx t.idx.length<;>rfl
theorem Bik{s:Stm}(h:Few s):Ay5 s=some (H3 s):=if_pos h
theorem A93:FO 17 [.sv .tbl] [.int .i64] Alp :=.fin 0 A1g λt r hb hx=>⟨t.idx.length+1,by
 simp only[Alp,As7] at hx;split at hx
 case isFalse=>cases hx
 rename_i hf;rw[<-hx];have e:Ay5 (Dj t)=some (H3 (Et t)):=Bik hf.stm;simp only[Ac8,e,Zc1,Ip];cases decide ((H3 (Et t)).2=0) with
 |false=>rfl
 |true =>
  simp only[Zt1,Ai,Bool.true_and];have e1:decide (100<(t.idx.length:Int)) = !decide (t.idx.length<=100):=by
   by_cases h:t.idx.length<=100
   ·rw[Ze1 h,Zd1 (by omega)];rfl
   ·rw[Zd1 h,Ze1 (by omega)];rfl
  rw[e1];cases decide (t.idx.length<=100) with
  |false =>simp only[Zs1,Ag,Bool.false_and,Bool.and_false];rfl
  |true =>simp only[Zt1,Ai,Bool.true_and];refine(Amn (a:=some 2) (b:=some 0) hb.idx.1 hf (λ_=>rfl) rfl _ (by omega)).trans ?_;rw[Bbk,As]⟩
theorem Baw{t:Tbl}(h:FewR t):As7 t=some (cond (Ip t) 0 2):=if_pos h
end
def Aim:Sig:=⟨47,[(1,.sl .val false),(6,.sl .val true),(7,.int .i64),(8,.sl .val true),(10,.str),(19,.sl .str false),(20,.int .i64),(21,.int .i64),(26,.sl .col false),(27,.int .i64),(28,.int .i64)],[(3,.ptr 0 0)],[(0,.one (.sv .tbl))],1,0,0,[],[]⟩
abbrev Ri:=List Val×List Val×Int×List Val×Str×List Str×Int×Int×List Col×Int×Int×Tbl
def Su{R:Type}(rec:Ri->Option R)(kx:Ex->Ri->Option R)(v:Ri):Option R:=match v with
 |(v7,v8,v9,c,d,f,g,h,b,e,a,w1) =>
 cond (decide (a<e)) (
  chk (inb a b.length) (
  cond (decide (((at' .col b a).name)=d)) (
   chk (inb a v7.length) (
   chk (decide (c.length+1<=Af)) (
    kx (.exit 1) (v7,v8,v9,(c++[(at' .val v7 a)]),d,f,g,h,b,e,a,w1)))) (
   rec (v7,v8,v9,c,d,f,g,h,b,e,(wr .i64 (a+1)),w1)))) (
  kx (.exit 2) (v7,v8,v9,c,d,f,g,h,b,e,a,w1))
def Afo:Sig:=⟨47,[(1,.sl .val false),(6,.sl .val true),(7,.int .i64),(8,.sl .val true),(19,.sl .str false),(20,.int .i64),(21,.int .i64)],[(3,.ptr 0 0)],[(0,.one (.sv .tbl))],1,0,0,[],[]⟩
abbrev Tu:=List Val×List Val×Int×List Val×List Str×Int×Int×Tbl
def Tx{R:Type}(k:Nat)(rec:Tu->Option R)(kx:Ex->Tu->Option R)(v:Tu):Option R:=match v with
 |(v,v1,v2,v3,v4,v5,v6,w) =>
 cond (decide (v6<v5)) (
  chk (inb v6 v4.length) (
  Ak (λrc=>Su rc (λe vz=>match vz with|(a,h,i,b,_,c,d,f,_,_,_,g)=>match e with
   |.exit 1 =>
   rec (a,h,i,b,c,d,(wr .i64 (f+1)),g)
   |.exit 2 =>
   kx .ret (a,[],150,b,c,d,f,g)
   |_=>none)) k (v,v1,v2,v3,(at' .str v4 v6),v4,v5,v6,w.cols,(w.cols.length:Int),0,w))) (
  kx (.exit 0) (v,v1,v2,v3,v4,v5,v6,w))
def Az3(R:Type)(k:Nat):Px R:=pxO [] [] [(8,Am k Aim (Su)),(5,Am k Afo (Tx k))] []
def Af1(k:Nat)(x:HV [.sv .tbl,.sl .val false,.sl .str false]):Option (HV [.sl .val true,.int .i64]):=match x with
 |(t,row,names) =>
 cond (!decide ((row.length:Int)=(t.cols.length:Int))) (
  some ([],2)) (
  Ak (λrec=>Tx k rec (λe vz=>match vz with|(_,a,b,c,_,_,_,_)=>match e with
  |.ret =>some (a,b)
  |.exit 0 =>some (c,0)
  |_=>none)) k (row,[],0,[],names,(names.length:Int),0,t))
theorem Bbz(k:Nat):FO 57 [.sv .tbl,.sl .val false,.sl .str false] [.sl .val true,.int .i64] (Af1 k):=fR (px:=Az3 _ k) (n:=2) Tryz.func57 rfl (λcx H=>by have h0:Lv cx (Az3 (HV [.sl .val true,.int .i64]) k):=lv H Ae Aa Ab;have hlspick_1:=lO H h0 (b:=lpC (lp Tryz.f57 0) 0) (k:=k) (n:=0) (s:=Aim) (step:=Su) (λ_ _ _ (_,_,_,_,_,_,_,_,_,_,_,_)=>by kernel_rfl) Aj;have hlspick_0:=lO H h0 (b:=lp Tryz.f57 0) (k:=k) (n:=1) (s:=Afo) (step:=Tx k) (λ_ _ _ (_,_,_,_,_,_,_,_)=>by kernel_rfl) (A3 Aj hlspick_1);exact⟨h0,(A3 (A3 Aj hlspick_0) hlspick_1)⟩) λ(_,_,_)=>by kernel_rfl
def Akz(t:Tbl)(row:List Val)(names:List Str):Option (List Val×Int):=cond (decide (names.length<=2000000)) (some (cond (decide (row.length=t.cols.length)) (Dl t.cols row names []) ([],2))) none
def Aup:FT [.sv .tbl,.sl .val false,.sl .str false] [.sl .val true,.int .i64]:=λx=>Akz x.1 x.2.1 x.2.2
theorem Atl{R:Type}{kx:Ex->Ri->Option R}{t:Tbl}{row v8 acc:List Val}{v9 n i:Int}{names:List Str}{s:Str}{g:Int->Option R}(hn:ln t.cols.length)(he:row.length=t.cols.length)(ha:acc.length+1<=Af)(h1:∀j:Nat,kx (.exit 1) (row,v8,v9,acc++[at' .val row (j:Int)],s,names,n,i,t.cols,(t.cols.length:Int),(j:Int),t)=g j)(h2:kx (.exit 2) (row,v8,v9,acc,s,names,n,i,t.cols,(t.cols.length:Int),(t.cols.length:Int),t)=g (-1))(k:Nat)(hk:t.cols.length<k) :
  Ak (λrec=>Su rec kx) k (row,v8,v9,acc,s,names,n,i,t.cols,(t.cols.length:Int),0,t)=g (B9 t.cols s):=by
 refine(Ay t.cols.length (λj=>(row,v8,v9,acc,s,names,n,i,t.cols,(t.cols.length:Int),(j:Int),t)) (λj=>g (A7 (t.cols.drop j) s j)) (λj hj rec hr =>?_) (λrec =>?_) k 0 (Nat.zero_le _) (by omega)).trans (by rw[Zq1];rfl)
 ·have hj2:j<row.length:=by omega
  simp only[Su,Br hj,Ao hj,Ao hj2,chk,Al (c :=.col) hj,An hj hn,hr,h1,Ah hj,A7,Bool.cond_decide];split<;>rfl
 ·simp only[Su,Bu,h2];rw[Zk1 (Zn1 _)];rfl
theorem Ast{R:Type}{kx:Ex->Tu->Option R}{t:Tbl}{row:List Val}{names:List Str}{c:List Val×Int->Option R}(hn:ln t.cols.length)(he:row.length=t.cols.length)(hl:names.length<=2000000)(k:Nat)(hc:t.cols.length<k)(h1:∀acc i,kx .ret (row,[],150,acc,names,(names.length:Int),i,t)=c ([],150))(h2:∀acc,kx (.exit 0) (row,[],0,acc,names,(names.length:Int),(names.length:Int),t)=c (acc,0))(hk:names.length<k) :
  Ak (λrec=>Tx k rec kx) k (row,[],0,[],names,(names.length:Int),0,t)=c (Dl t.cols row names []):=by
 have hln:ln names.length:=by simp[ln];omega
 refine(Bo names.length (λi acc=>(row,[],0,acc,names,(names.length:Int),(i:Int),t)) (λi acc=>acc.length=i) (λi acc=>c (Dl t.cols row (names.drop i) acc)) (λi hi acc ha rec hr =>?_) (λacc _ rec =>?_) k 0 [] (Nat.zero_le _) (by omega) rfl).trans (by rw[Zq1])
 ·simp only[Tx,Br hi,Ao hi,Al (c :=.str) hi,Ah hi,Dl];refine(Atl (g:=λq=>cond (decide (q<0)) (c ([],150)) (rec (row,[],0,acc++[at' .val row q],names,(names.length:Int),((i+1:Nat):Int),t))) hn he (by simp[Af];omega) (λj =>?_) ?_ k hc).trans ?_
  ·simp[An hi hln,Zd1 (show ¬(j:Int)<0 by omega)]
  ·exact h1 _ _
  ·grind
 ·simp only[Tx,Bu,h2];rw[Zk1 (Zn1 _)];rfl
theorem Bkd:FO 57 [.sv .tbl,.sl .val false,.sl .str false] [.sl .val true,.int .i64] Aup :=.fin 0 Bbz λ(t,row,names) r hb hx=>⟨t.cols.length+names.length+1,by
 simp only[Aup,Akz] at hx;cases hl:decide (names.length<=2000000) with
 |false=>rw[hl] at hx;cases hx
 |true =>
  rw[hl] at hx;simp only[Ag,Za1] at hx;rw[<-hx];simp only[Af1];by_cases he:row.length=t.cols.length
  ·rw[Ze1 he,Ze1 (show(row.length:Int)=(t.cols.length:Int) by omega)];exact Ast (c:=some) hb.1.cols.1 he (of_decide_eq_true hl) _ (by omega) (λ_ _=>rfl) (λ_=>rfl) (by omega)
  ·rw[Zd1 he,Zd1 (show ¬(row.length:Int)=(t.cols.length:Int) by omega)];rfl⟩
noncomputable section
def Xm:Sig:=⟨81,[(1,.sl .val false),(4,.int .i64),(7,.int .i64)],[(2,.ptr 0 0)],[(0,.one (.sv .tbl))],1,0,0,[],[]⟩
abbrev Kq:=List Val×Int×Int×Tbl
def I9{R:Type}(rec:Kq->Option R)(kx:Ex->Kq->Option R)(v:Kq):Option R:=match v with
 |(v7,v8,v9,w1) =>
 cond (decide (v9<(w1.checks.length:Int))) (
  chk (inb v9 w1.checks.length) (
  (Av7 (at' .expr w1.checks v9) w1.cols v7).bind λ(x1,x2) =>
   cond (!decide (x2=0)) (
   kx .ret (v7,x2,v9,w1)) (
   cond (decide (x1.kind=2)) (
    cond (decide (x1.n=0)) (
    kx .ret (v7,162,v9,w1)) (
    rec (v7,v8,(wr .i64 (v9+1)),w1))) (
    rec (v7,v8,(wr .i64 (v9+1)),w1))))) (
  kx (.exit 2) (v7,v8,v9,w1))
def X3:Sig:=⟨81,[(1,.sl .val false),(4,.int .i64),(6,.int .i64)],[(2,.ptr 0 0)],[(0,.one (.sv .tbl))],1,0,0,[],[]⟩
abbrev Ky:=List Val×Int×Int×Tbl
def Je{R:Type}(rec:Ky->Option R)(kx:Ex->Ky->Option R)(v:Ky):Option R:=match v with
 |(v,v1,v2,w) =>
 cond (decide (v2<(v.length:Int))) (
  chk (inb v2 v.length) (
  cond (decide ((at' .val v v2).kind=1)) (
   chk (inb v2 w.cols.length) (
   cond ((at' .col w.cols v2).notNull) (
    kx .ret (v,161,v2,w)) (
    chk (inb v2 w.cols.length) (
    cond ((Bt7 w.key ((at' .col w.cols v2).name))) (
     kx .ret (v,161,v2,w)) (
     rec (v,v1,(wr .i64 (v2+1)),w)))))) (
   rec (v,v1,(wr .i64 (v2+1)),w)))) (
  kx (.exit 0) (v,v1,v2,w))
def Alk(R:Type)(k:Nat):Px R:=pxO [(17,cA Alp),(60,cA Ae3),(61,cA A38)] [(62,qA Atz)] [(7,Am k X3 (Je)),(12,Am k Xm (I9))] []
def Xl(k:Nat)(x:HV [.sv .tbl,.sl .val false]):Option (HV [.int .i64]):=match x with
 |(t,row) =>
 (As7 t).bind λx =>
  cond (!decide (x=0)) (
  some x) (
  cond (!(Ao2 t.cols row)) (
   some 151) (
   Ak (λrec=>Je rec (λe vz=>match vz with|(v3,v4,_,v6)=>match e with
   |.ret =>some v4
   |.exit 0 =>
    Ak (λrec=>I9 rec (λe vz=>match vz with|(_,a,_,_)=>match e with
    |.ret =>some a
    |.exit 2 =>some 0
    |_=>none)) k (v3,v4,0,v6)
   |_=>none)) k (row,0,0,t)))
theorem Av6(k:Nat):FO 27 [.sv .tbl,.sl .val false] [.int .i64] (Xl k):=fR (px:=Alk _ k) (n:=2) Tryz.func27 rfl (λcx H=>by have h0:Lv cx (Alk (HV [.int .i64]) k):=lv H (c1 H A93 (c1 H Avw (c1 H Bor Ae))) (q1 H Bg6 Aa) Ab;have hlrfits16_0:=lO H h0 (b:=lp Tryz.f27 0) (k:=k) (n:=0) (s:=X3) (step:=Je) (λ_ _ _ (_,_,_,_)=>by kernel_rfl) Aj;have hlrfits16_1:=lO H h0 (b:=lp Tryz.f27 1) (k:=k) (n:=0) (s:=Xm) (step:=I9) (λ_ _ _ (_,_,_,_)=>by kernel_rfl) Aj;exact⟨h0,(A3 (A3 Aj hlrfits16_0) hlrfits16_1)⟩) λ(_,_)=>by kernel_rfl
def Tf(t:Tbl)(row:List Val):Option Int :=@ite _ (FewR t) (Classical.propDecidable _) (some (Gc t row)) none
def Aa9:FT [.sv .tbl,.sl .val false] [.int .i64]:=λx=>Tf x.1 x.2
theorem Al2{R:Type}{kx:Ex->Ky->Option R}{t:Tbl}{row:List Val}{a b:Option R}(hn:ln row.length)(he:t.cols.length=row.length)(h1:∀i:Nat,kx .ret (row,161,(i:Int),t)=a)(h2:kx (.exit 0) (row,0,(row.length:Int),t)=b)(k:Nat)(hk:row.length<k) :
  Ak (λrec=>Je rec kx) k (row,0,0,t)=cond (A0g t.key t.cols row) a b:=by
 refine(Ay row.length (λi=>(row,0,(i:Int),t)) (λi=>cond (A0g t.key (t.cols.drop i) (row.drop i)) a b) (λi hi rec hr =>?_) (λrec =>?_) k 0 (Nat.zero_le _) (by omega)).trans (by rw[Zq1,Zq1])
 ·have hi2:i<t.cols.length:=by omega
  simp only[Je,Br hi,Ag,Ao hi,Ao hi2,chk,Al (c :=.col) hi2,Al (c :=.val) hi,An hi hn,Ah hi,Ah hi2,A0g,h1,Bt7];cases decide (row[i].kind=1) with
  |false=>exact hr
  |true =>cases t.cols[i].notNull with|true=>rfl|false =>simp only[Ag,Ai,Bool.true_and,Bool.false_or,hr];cases t.key.contains t.cols[i].name<;>rfl
 ·simp[Je,Bu,Ai,h2];rw[Zk1 (show t.cols.length<=row.length by omega)];rfl
theorem Bmk{e:Xpr}{cols:List Col}{row:List Val}(h:(D8 e cols row).2=0):(decide ((D8 e cols row).1.kind=2)&&decide ((D8 e cols row).1.n=0))=decide ((D8 e cols row).1=⟨2,0,[]⟩):=by
 have hr:Aq (D8 e cols row).1=true:=by
  rcases W6 e cols row with ⟨_,h2⟩|⟨_,_,h3,h4⟩|⟨_,_,_,_,h5⟩
  ·rw[h2] at h;cases h
  ·rw[h4] at h;exact absurd h h3
  ·rcases h5 with h5|h5
   ·exact h5.2.1
   ·have:=h5.1;omega
 generalize (D8 e cols row).1=v at hr;obtain⟨k,n,s⟩:=v;rw[Bool.eq_iff_iff];simp only[Zb1,Zg1,Val.mk.injEq];constructor
 ·rintro⟨rfl,rfl⟩;simp[Aq] at hr;exact⟨rfl,rfl,hr⟩
 ·rintro⟨h1,h2,_⟩;exact⟨h1,h2⟩
theorem Aj8{R:Type}{kx:Ex->Kq->Option R}{t:Tbl}{row:List Val}{c:Int->Option R}(hn:ln t.checks.length)(hs:∀e,e∈t.checks->Aw e<=900000)(h1:∀r (i:Nat),kx .ret (row,r,(i:Int),t)=c r)(h2:kx (.exit 2) (row,0,(t.checks.length:Int),t)=c 0)(k:Nat)(hk:t.checks.length<k) :
  Ak (λrec=>I9 rec kx) k (row,0,0,t)=c (U0 t.cols row t.checks):=by
 refine(Ay t.checks.length (λi=>(row,0,(i:Int),t)) (λi=>c (U0 t.cols row (t.checks.drop i))) (λi hi rec hr =>?_) (λrec =>?_) k 0 (Nat.zero_le _) (by omega)).trans (by rw[Zq1])
 ·have he:Av7 t.checks[i] t.cols row=some (D8 t.checks[i] t.cols row):=by rw[Av7,Ze1 (Aya (hs _ (List.getElem_mem hi)))];rfl
  simp only[I9,Br hi,Ag,Ao hi,chk,Al (c :=.expr) hi,he,Zc1,An hi hn,hr,h1,Ah hi,U0];by_cases h0:(D8 t.checks[i] t.cols row).2=0
  ·rw[<-Bmk h0];simp[h0,decide_true,Zt1,Ai,Ag];cases decide ((D8 t.checks[i] t.cols row).1.kind=2) with|false=>rfl|true=>cases decide ((D8 t.checks[i] t.cols row).1.n=0)<;>rfl
  ·simp[Zd1 h0,Zs1,Ag,Ai]
 ·simp only[I9,Bu,Ai,h2];rw[Zk1 (Zn1 _)];rfl
theorem A4k:FO 27 [.sv .tbl,.sl .val false] [.int .i64] Aa9 :=.fin 0 Av6 λ(t,row) r hb hx=>⟨row.length+t.checks.length+1,by
 simp only[Aa9,Tf] at hx;split at hx
 case isFalse=>cases hx
 rename_i hf;rw[<-hx];simp only[Xl,Baw hf,Zc1,Gc,Ao2];cases Ip t with
 |false=>rfl
 |true =>
  simp only[Ag,decide_true,Zt1,Ai];cases hfit:Dr t.cols row with
  |false=>rfl
  |true =>simp only[Zt1,Ai,Ag];refine(Al2 (a:=some 161) (b:=some (U0 t.cols row t.checks)) hb.2.1 (F1 hfit) (λ_=>rfl) ?_ _ (by omega)).trans As;exact Aj8 (c:=some) hb.1.checks.1 (λe he=>by have:=A9 he;have h2:=hf.stm.l;simp only[Dj] at h2;omega) (λ_ _=>rfl) rfl _ (by omega)⟩
theorem A39{t:Tbl}{row:List Val}(h:FewR t):Tf t row=some (Gc t row):=if_pos h
end
def Bmc(R:Type):Px R:=pxO [] [] [] []
def Vf(x:HV [.str]):Option (HV [.sv .val]):=match x with
 |s =>
 some (Val.mk 4 0 s)
theorem Bcz:FO 75 [.str] [.sv .val] (Vf):=fR (px:=Bmc _) (n:=0) Tryz.func75 rfl (λ_ H=>⟨lv H Ae Aa Ab,Aj⟩) λ_=>by kernel_rfl
def A0n(s:Str):Val :=(Val.mk 4 0 s)
theorem A9t(x:HV [.str]):Vf x=some (A0n x):=by
 first
  |exact rfl
  |simp only[Vf,A0n,As]
def A4u:FT [.str] [.sv .val]:=λx=>some (A0n x)
theorem Bej:FO 75 [.str] [.sv .val] A4u :=.fin0 Bcz λx _ _ hx=>(A9t x).trans hx
def Ad5:Sig:=⟨19,[(3,.sl .val true),(6,.sl .str false),(7,.int .i64),(8,.int .i64)],[],[],0,0,0,[],[]⟩
abbrev U8:=List Val×List Str×Int×Int
def P5{R:Type}(rec:U8->Option R)(kx:Ex->U8->Option R)(v:U8):Option R:=match v with
 |(v,v1,v2,v3) =>
 cond (decide (v3<v2)) (
  chk (inb v3 v1.length) (
  chk (decide (v.length+1<=Af)) (
   rec ((v++[(A0n (at' .str v1 v3))]),v1,v2,(wr .i64 (v3+1)))))) (
  kx (.exit 0) (v,v1,v2,v3))
def Ani(R:Type)(k:Nat):Px R:=pxO [(75,cA A4u)] [] [(3,Am k Ad5 (P5))] []
def Kl(k:Nat)(x:HV [.sl .str false]):Option (HV [.sl .val true]):=match x with
 |l =>
 Ak (λrec=>P5 rec (λe vz=>match vz with|(v4,_,_,_)=>match e with
  |.exit 0 =>
  some v4
  |_=>none)) k ([],l,(l.length:Int),0)
theorem A4h(k:Nat):FO 36 [.sl .str false] [.sl .val true] (Kl k):=fR (px:=Ani _ k) (n:=1) Tryz.func36 rfl (λcx H=>by have h0:Lv cx (Ani (HV [.sl .val true]) k):=lv H (c1 H Bej Ae) Aa Ab;have hlpwords_0:=lO H h0 (b:=lp Tryz.f36 0) (k:=k) (n:=0) (s:=Ad5) (step:=P5) (λ_ _ _ (_,_,_,_)=>by kernel_rfl) Aj;exact⟨h0,(A3 Aj hlpwords_0)⟩) λ_=>by kernel_rfl
def Xc(l:List Str):Option (List Val):=Kl 5000 l
def Akx:FT [.sl .str false] [.sl .val true]:=λx=>Xc x
theorem Aqa:FO 36 [.sl .str false] [.sl .val true] Akx :=.fin 0 A4h λ_ _ _ hx=>⟨5000,hx⟩
def Am3:Sig:=⟨36,[(6,.sl .val true),(25,.sl .vals false),(26,.int .i64),(27,.int .i64)],[],[],0,0,0,[],[]⟩
abbrev Aik:=List Val×List (List Val)×Int×Int
def Af6{R:Type}(rec:Aik->Option R)(kx:Ex->Aik->Option R)(v:Aik):Option R:=match v with
 |(c,b,d,a) =>
 cond (decide (a<d)) (
  chk (inb a b.length) (
  chk (decide (c.length+(at' .vals b a).length<=Af)) (
   rec ((c++(at' .vals b a)),b,d,(wr .i64 (a+1)))))) (
  kx (.exit 2) (c,b,d,a))
def Anu:Sig:=⟨36,[(0,.sl .vals false),(3,.int .i64),(9,.sl .vals false),(10,.int .i64),(11,.int .i64)],[],[],0,0,0,[],[]⟩
abbrev Agy:=List (List Val)×Int×List (List Val)×Int×Int
def Ag2{R:Type}(rec:Agy->Option R)(kx:Ex->Agy->Option R)(v:Agy):Option R:=match v with
 |(v,v1,v2,v3,v4) =>
 cond (decide (v4<v3)) (
  chk (inb v4 v2.length) (
  cond (decide ((wr .i64 (v1+((at' .vals v2 v4).length:Int)))<0)) (
   none) (
   rec (v,(wr .i64 (v1+((at' .vals v2 v4).length:Int))),v2,v3,(wr .i64 (v4+1)))))) (
  kx (.exit 0) (v,v1,v2,v3,v4))
def A58(R:Type)(k:Nat):Px R:=pxO [(113,Akf .val)] [] [(3,Am k Anu (Ag2)),(11,Am k Am3 (Af6))] []
def R8(k:Nat)(x:HV [.sl .vals false]):Option (HV [.sl .val true]):=match x with
 |l =>
 Ak (λrec=>Ag2 rec (λe vz=>match vz with|(v5,v6,_,_,_)=>match e with
  |.exit 0 =>
  chk (decide ((0:Int)<=v6)&&decide (v6<=(2000000:Int))) (
   Ak (λrec=>Af6 rec (λe vz=>match vz with|(a,_,_,_)=>match e with
   |.exit 2 =>some a
   |_=>none)) k ([],v5,(v5.length:Int),0))
  |_=>none)) k (l,0,l,(l.length:Int),0)
theorem Blu(k:Nat):FO 74 [.sl .vals false] [.sl .val true] (R8 k):=fR (px:=A58 _ k) (n:=2) Tryz.func74 rfl (λcx H=>by have h0:Lv cx (A58 (HV [.sl .val true]) k):=lv H (A2 (A7h H Ago) Ae) Aa Ab;have hlvcat_0:=lO H h0 (b:=lp Tryz.f74 0) (k:=k) (n:=0) (s:=Anu) (step:=Ag2) (λ_ _ _ (_,_,_,_,_)=>by kernel_rfl) Aj;have hlvcat_1:=lO H h0 (b:=lp Tryz.f74 1) (k:=k) (n:=0) (s:=Am3) (step:=Af6) (λ_ _ _ (_,_,_,_)=>by kernel_rfl) Aj;exact⟨h0,(A3 (A3 Aj hlvcat_0) hlvcat_1)⟩) λ_=>by kernel_rfl
def Buk(l:List (List Val)):Option (List Val):=R8 5000 l
def Bi5:FT [.sl .vals false] [.sl .val true]:=λx=>Buk x
theorem Bqw:FO 74 [.sl .vals false] [.sl .val true] Bi5 :=.fin 0 Blu λ_ _ _ hx=>⟨5000,hx⟩
def Bna(R:Type):Px R:=pxO [(74,cA Bi5),(45,cA A3h)] [] [] []
def Acc(x:HV [.sl .vals false]):Option (HV [.sl .byte true,.int .i64]):=match x with
 |l =>
 (Buk l).bind λx =>
  (A15 x).bind λ(x1,x2) =>
  some (x1,x2)
theorem Bj9:FO 35 [.sl .vals false] [.sl .byte true,.int .i64] (Acc):=fR (px:=Bna _) (n:=0) Tryz.func35 rfl (λ_ H=>⟨lv H (c1 H Bqw (c1 H Bos Ae)) Aa Ab,Aj⟩) λ_=>by kernel_rfl
def Aj7(l:List (List Val)):Option (Str×Int):=Acc l
def A1r:FT [.sl .vals false] [.sl .byte true,.int .i64]:=λx=>Aj7 x
theorem A7c:FO 35 [.sl .vals false] [.sl .byte true,.int .i64] A1r :=.fin0 Bj9 λ_ _ _ hx=>hx
def Amd:Sig:=⟨126,[(1,.sl .val false),(8,.sl .val true),(16,.sl .byte true),(71,.sl .col false),(72,.int .i64),(73,.int .i64)],[(2,.ptr 0 0),(4,.ptr 1 0),(5,.ptr 2 0),(6,.ptr 3 0),(7,.ptr 4 0)],[(0,.one (.sv .tbl)),(1,.cells [.sl .kv true,.int .i64]),(2,.cells [.sl .kv true,.int .i64]),(3,.cells [.sl .kv true,.int .i64]),(4,.cells [.sl .kv true,.int .i64])],5,0,0,[],[]⟩
abbrev T5:=List Val×List Val×List UInt8×List Col×Int×Int×Tbl×List KvS×Int×List KvS×Int×List KvS×Int×List KvS×Int
def N9{R:Type}(rec:T5->Option R)(kx:Ex->T5->Option R)(v:T5):Option R:=match v with
 |(b,g,d,c,h,a,w9,i,j,k,l,e,m,f,n) =>
 cond (decide (a<h)) (
  chk (inb a c.length) (
  chk (inb a b.length) (
   cond (decide ((at' .val b a).kind=1)) (
   rec (b,g,d,c,h,(wr .i64 (a+1)),w9,i,j,k,l,e,m,f,n)) (
   let j3:=λ(o:List KvS) (p:Int) =>
    cond (!decide (((at' .col c a).ref)=[])) (
    (Xc [[102],((at' .col c a).ref)]).bind λu =>
     chk (upto a (wr .i64 (a+1)) b.length) (
     (Xc [w9.name,((at' .col c a).name)]).bind λw =>
      (Aj7 [u,(cut b a (wr .i64 (a+1))),w,g]).bind λ(q,r) =>
      let j2:=λ(x:Int) =>
       cond (decide (n=0)) (
       chk (decide (f.length+1<=Af)) (
        rec (b,g,d,c,h,(wr .i64 (a+1)),w9,i,j,k,l,o,p,(f++[(KvS.mk q [])]),x))) (
       chk (decide (f.length+1<=Af)) (
        rec (b,g,d,c,h,(wr .i64 (a+1)),w9,i,j,k,l,o,p,(f++[(KvS.mk q [])]),n)))
      cond (decide (r=0)) (
       cond (decide (200<(q.length:Int))) (
       j2 3) (
       j2 r)) (
       j2 r))) (
    rec (b,g,d,c,h,(wr .i64 (a+1)),w9,i,j,k,l,o,p,f,n))
   cond ((at' .col c a).unique) (
    (Xc [[117],w9.name,((at' .col c a).name)]).bind λy =>
    chk (upto a (wr .i64 (a+1)) b.length) (
     (Aj7 [y,(cut b a (wr .i64 (a+1)))]).bind λ(s,t) =>
     let j1:=λ(z:Int) =>
      cond (decide (m=0)) (
      chk (decide (e.length+1<=Af)) (
       j3 (e++[(KvS.mk s d)]) z)) (
      chk (decide (e.length+1<=Af)) (
       j3 (e++[(KvS.mk s d)]) m))
     cond (decide (t=0)) (
      cond (decide (200<(s.length:Int))) (
      j1 3) (
      cond (decide (4000<(d.length:Int))) (
       j1 3) (
       j1 t))) (
      j1 t))) (
    j3 e m))))) (
  kx (.exit 2) (b,g,d,c,h,a,w9,i,j,k,l,e,m,f,n))
def Als:Sig:=⟨126,[(1,.sl .val false),(8,.sl .val true),(42,.sl .idx false),(43,.int .i64),(44,.int .i64)],[(2,.ptr 0 0),(4,.ptr 1 0),(5,.ptr 2 0),(6,.ptr 3 0),(7,.ptr 4 0)],[(0,.one (.sv .tbl)),(1,.cells [.sl .kv true,.int .i64]),(2,.cells [.sl .kv true,.int .i64]),(3,.cells [.sl .kv true,.int .i64]),(4,.cells [.sl .kv true,.int .i64])],5,0,0,[],[]⟩
abbrev Ui:=List Val×List Val×List Idx×Int×Int×Tbl×List KvS×Int×List KvS×Int×List KvS×Int×List KvS×Int
def Nu{R:Type}(rec:Ui->Option R)(kx:Ex->Ui->Option R)(v:Ui):Option R:=match v with
 |(v,v1,v2,v3,v4,w,w1,w2,w3,w4,w5,w6,w7,w8) =>
 cond (decide (v4<v3)) (
  chk (inb v4 v2.length) (
  (Akz w v ((at' .idx v2 v4).cols)).bind λ(x7,_) =>
   (Xc [[105],((at' .idx v2 v4).name)]).bind λx9 =>
   (Aj7 [x9,x7,v1]).bind λ(a,b) =>
    let j:=λ(p7:Int) =>
    cond (decide (w4=0)) (
     chk (decide (w3.length+1<=Af)) (
     rec (v,v1,v2,v3,(wr .i64 (v4+1)),w,w1,w2,(w3++[(KvS.mk a [])]),p7,w5,w6,w7,w8))) (
     chk (decide (w3.length+1<=Af)) (
     rec (v,v1,v2,v3,(wr .i64 (v4+1)),w,w1,w2,(w3++[(KvS.mk a [])]),w4,w5,w6,w7,w8)))
    cond (decide (b=0)) (
    cond (decide (200<(a.length:Int))) (
     j 3) (
     j b)) (
    j b))) (
  kx (.exit 0) (v,v1,v2,v3,v4,w,w1,w2,w3,w4,w5,w6,w7,w8))
def Ag0(R:Type)(_k:Nat):Px R:=pxO [(35,cA A1r)] [] [] []
def Aln(R:Type)(_k:Nat):Px R:=pxO [(35,cA A1r)] [] [] []
noncomputable def Azv(R:Type)(k:Nat):Px R:=pxO [(57,cA Aup),(58,cA Bhg),(36,cA Akx),(59,Acd 40 200 (Ag0 R k) Tryz.f59 (Bi 40 400 (Aln R k) Tryz.f59))] [(36,qA Akx)] [(5,Am k Als (Nu)),(12,Am k Amd (N9))] []
def O0(k:Nat)(x:HV [.sv .tbl,.sl .val false]):Option (HV [.sv .lay,.sv .lay,.sv .lay,.sv .lay]):=match x with
 |(t,r) =>
 (Akz t r t.key).bind λ(x,_) =>
  (Ayr r).bind λ(x2,_) =>
  (Xc [[114],t.name]).bind λx4 =>
   (Aj7 [x4,x]).bind λ(x5,x6) =>
   let j4:=λ(q6:Int) =>
    Ak (λrec=>Nu rec (λe vz=>match vz with|(v5,v6,_,_,_,a,b,c,d,f,g,h,i,j)=>match e with
    |.exit 0 =>
     (Ayr v6).bind λ(l,_) =>
     Ak (λrec=>N9 rec (λe vz=>match vz with|(_,_,_,_,_,_,_,m,n,o,p,q,s,u,v)=>match e with
      |.exit 2 =>
      some ((LayS.mk m n),(LayS.mk o p),(LayS.mk q s),(LayS.mk u v))
      |_=>none)) k (v5,v6,l,a.cols,(a.cols.length:Int),0,a,b,c,d,f,g,h,i,j)
    |_=>none)) k (r,x,t.idx,(t.idx.length:Int),0,t,[(KvS.mk x5 x2)],q6,[],0,[],0,[],0)
   cond (decide (x6=0)) (
    cond (decide (200<(x5.length:Int))) (
    j4 3) (
    cond (decide (4000<(x2.length:Int))) (
     j4 3) (
     j4 x6))) (
    j4 x6)
theorem Bea(k:Nat):FO 26 [.sv .tbl,.sl .val false] [.sv .lay,.sv .lay,.sv .lay,.sv .lay] (O0 k):=fR (px:=Azv _ k) (n:=2) Tryz.func26 rfl (λcx H=>by have h1:Lv cx (Ag0 (HV [.sv .lay,.sv .lay,.sv .lay,.sv .lay]) k):=lv H (c1 H A7c Ae) Aa Ab;have h2:Lv cx (Aln (HV [.sv .lay,.sv .lay,.sv .lay,.sv .lay]) k):=lv H (c1 H A7c Ae) Aa Ab;have h0:Lv cx (Azv (HV [.sv .lay,.sv .lay,.sv .lay,.sv .lay]) k):=lv H (c1 H Bkd (c1 H Bnu (c1 H Aqa (A2 (Bi1 (cR H h1 Tryz.func59 rfl (n:=0) (Aj)) (cR H h2 Tryz.func59 rfl (n:=0) (Aj))) Ae)))) (q1 H Aqa Aa) Ab;have hlpents_0:=lO H h0 (b:=lp Tryz.f26 0) (k:=k) (n:=0) (s:=Als) (step:=Nu) (λ_ _ _ (_,_,_,_,_,_,_,_,_,_,_,_,_,_)=>by kernel_rfl) Aj;have hlpents_1:=lO H h0 (b:=lp Tryz.f26 1) (k:=k) (n:=0) (s:=Amd) (step:=N9) (λ_ _ _ (_,_,_,_,_,_,_,_,_,_,_,_,_,_,_)=>by kernel_rfl) Aj;exact⟨h0,(A3 (A3 Aj hlpents_0) hlpents_1)⟩) λ(_,_)=>by kernel_rfl
def Bht(t:Tbl)(r:List Val):Option (LayS×LayS×LayS×LayS):=O0 5000 (t,r)
def A7u:FT [.sv .tbl,.sl .val false] [.sv .lay,.sv .lay,.sv .lay,.sv .lay]:=λx=>Bht x.1 x.2
theorem Bev:FO 26 [.sv .tbl,.sl .val false] [.sv .lay,.sv .lay,.sv .lay,.sv .lay] A7u :=.fin 0 Bea λ_ _ _ hx=>⟨5000,hx⟩
def Aoo:Sig:=⟨49,[(4,.sl .kv true),(5,.int .i64),(7,.sl .kv true),(32,.sl .lay true),(33,.int .i64),(34,.int .i64)],[],[],0,0,0,[],[]⟩
abbrev Y1:=List KvS×Int×List KvS×List LayS×Int×Int
def Aax{R:Type}(rec:Y1->Option R)(kx:Ex->Y1->Option R)(v:Y1):Option R:=match v with
 |(v,v1,v2,v3,v4,v5) =>
 cond (decide (v5<v4)) (
  chk (inb v5 v3.length) (
  cond (!decide ((at' .lay v3 v5).e=0)) (
   kx .ret ([],(at' .lay v3 v5).e,v2,v3,v4,v5)) (
   chk (decide (v2.length+((at' .lay v3 v5).l).length<=Af)) (
   rec (v,v1,(v2++((at' .lay v3 v5).l)),v3,v4,(wr .i64 (v5+1))))))) (
  kx (.exit 0) (v,v1,v2,v3,v4,v5))
def A49(R:Type)(k:Nat):Px R:=pxO [(25,cA A6c),(26,cA A7u)] [] [(7,Am k Aoo (Aax))] []
def Rx(k:Nat)(x:HV [.sv .tbl,.sl .val false]):Option (HV [.sl .kv true,.int .i64]):=match x with
 |(t,r) =>
 (Axz t r).bind λx =>
  cond (!decide (x=0)) (
  some ([],x)) (
  (Bht t r).bind λ(x1,x2,x3,x4) =>
   Ak (λrec=>Aax rec (λe vz=>match vz with|(v6,v7,v8,_,_,_)=>match e with
   |.ret =>some (v6,v7)
   |.exit 0 =>some (v8,0)
   |_=>none)) k ([],0,[],[x1,x2,x3,x4],4,0))
theorem Be6(k:Nat):FO 9 [.sv .tbl,.sl .val false] [.sl .kv true,.int .i64] (Rx k):=fR (px:=A49 _ k) (n:=1) Tryz.func9 rfl (λcx H=>by have h0:Lv cx (A49 (HV [.sl .kv true,.int .i64]) k):=lv H (c1 H Bgd (c1 H Bev Ae)) Aa Ab;have hlpEnt_0:=lO H h0 (b:=lp Tryz.f9 0) (k:=k) (n:=0) (s:=Aoo) (step:=Aax) (λ_ _ _ (_,_,_,_,_,_)=>by kernel_rfl) Aj;exact⟨h0,(A3 Aj hlpEnt_0)⟩) λ(_,_)=>by kernel_rfl
def Bte(t:Tbl)(r:List Val):Option (List KvS×Int):=Rx 5000 (t,r)
def Bm5:FT [.sv .tbl,.sl .val false] [.sl .kv true,.int .i64]:=λx=>Bte x.1 x.2
theorem Bpr:FO 9 [.sv .tbl,.sl .val false] [.sl .kv true,.int .i64] Bm5 :=.fin 0 Be6 λ_ _ _ hx=>⟨5000,hx⟩
noncomputable section
def Bhi(R:Type):Px R:=pxO [] [] [] []
def Vg(x:HV [.str]):Option (HV [.sv .val]):=match x with
 |s =>
 some (Val.mk 4 0 s)
theorem Bc6:FO 67 [.str] [.sv .val] (Vg):=fR (px:=Bhi _) (n:=0) Tryz.func67 rfl (λ_ H=>⟨lv H Ae Aa Ab,Aj⟩) λ_=>by kernel_rfl
def Eh(s:Str):Val :=(Val.mk 4 0 s)
theorem Bcp(x:HV [.str]):Vg x=some (Eh x):=by
 first
  |exact rfl
  |simp only[Vg,Eh,As]
def A43:FT [.str] [.sv .val]:=λx=>some (Eh x)
theorem Bmx:FO 67 [.str] [.sv .val] A43 :=.fin0 Bc6 λx _ _ hx=>(Bcp x).trans hx
def Ai1:Sig:=⟨40,[(1,.sl .val false),(2,.sl .str false),(6,.sl .val true),(7,.int .i64),(8,.sl .val true),(9,.int .i64)],[(3,.ptr 0 0)],[(0,.one (.sv .tbl))],1,0,0,[],[]⟩
abbrev Abz:=List Val×List Str×List Val×Int×List Val×Int×Tbl
def Z0{R:Type}(rec:Abz->Option R)(kx:Ex->Abz->Option R)(v:Abz):Option R:=match v with
 |(v,v1,v2,v3,v4,v5,w) =>
 cond (decide (v5<(v1.length:Int))) (
  chk (inb v5 v1.length) (
  cond (decide ((Amk w.cols (at' .str v1 v5))<0)) (
   kx .ret (v,v1,[],150,v4,v5,w)) (
   chk (inb (Amk w.cols (at' .str v1 v5)) v.length) (
   chk (decide (v4.length+1<=Af)) (
    rec (v,v1,v2,v3,(v4++[(at' .val v (Amk w.cols (at' .str v1 v5)))]),(wr .i64 (v5+1)),w)))))) (
  kx (.exit 0) (v,v1,v2,v3,v4,v5,w))
def Awr(R:Type)(k:Nat):Px R:=pxO [(40,cA Alw)] [] [(5,Am k Ai1 (Z0))] []
def O1(k:Nat)(x:HV [.sv .tbl,.sl .val false,.sl .str false]):Option (HV [.sl .val true,.int .i64]):=match x with
 |(t,r,names) =>
 cond (!decide ((r.length:Int)=(t.cols.length:Int))) (
  some ([],2)) (
  Ak (λrec=>Z0 rec (λe vz=>match vz with|(_,_,v8,v9,a,_,_)=>match e with
  |.ret =>some (v8,v9)
  |.exit 0 =>some (a,0)
  |_=>none)) k (r,names,[],0,[],0,t))
theorem A98(k:Nat):FO 15 [.sv .tbl,.sl .val false,.sl .str false] [.sl .val true,.int .i64] (O1 k):=fR (px:=Awr _ k) (n:=1) Tryz.func15 rfl (λcx H=>by have h0:Lv cx (Awr (HV [.sl .val true,.int .i64]) k):=lv H (c1 H Ary Ae) Aa Ab;have hldpick_0:=lO H h0 (b:=lp Tryz.f15 0) (k:=k) (n:=0) (s:=Ai1) (step:=Z0) (λ_ _ _ (_,_,_,_,_,_,_)=>by kernel_rfl) Aj;exact⟨h0,(A3 Aj hldpick_0)⟩) λ(_,_,_)=>by kernel_rfl
def Bgj(t:Tbl)(r:List Val)(l:List Str):Option (List Val×Int):=O1 5000 (t,r,l)
def A64:FT [.sv .tbl,.sl .val false,.sl .str false] [.sl .val true,.int .i64]:=λx=>Bgj x.1 x.2.1 x.2.2
theorem Bgt:FO 15 [.sv .tbl,.sl .val false,.sl .str false] [.sl .val true,.int .i64] A64 :=.fin 0 A98 λ_ _ _ hx=>⟨5000,hx⟩
def Bsj(R:Type):Px R:=pxO [(15,cA A64)] [] [] []
def Ah1(x:HV [.sv .tbl,.sl .val false,.sl .str false]):Option (HV [.sl .val true]):=match x with
 |(t,r,names) =>
 (Bgj t r names).bind λ(x,_) =>some x
theorem Bqq:FO 63 [.sv .tbl,.sl .val false,.sl .str false] [.sl .val true] (Ah1):=fR (px:=Bsj _) (n:=0) Tryz.func63 rfl (λ_ H=>⟨lv H (c1 H Bgt Ae) Aa Ab,Aj⟩) λ(_,_,_)=>by kernel_rfl
def dof(t:Tbl)(r:List Val)(l:List Str):Option (List Val):=Ah1 (t,r,l)
def Br7:FT [.sv .tbl,.sl .val false,.sl .str false] [.sl .val true]:=λx=>dof x.1 x.2.1 x.2.2
theorem Bsd:FO 63 [.sv .tbl,.sl .val false,.sl .str false] [.sl .val true] Br7 :=.fin0 Bqq λ_ _ _ hx=>hx
def Bo2(R:Type):Px R:=pxO [] [] [] []
def Acb(x:HV [.sl .val false,.sl .val false,.sl .val false,.sl .val false]):Option (HV [.sl .val true]):=match x with
 |(a,b,c,d) =>
 chk (decide (0+a.length<=Af)) (
  chk (decide (([]++a).length+b.length<=Af)) (
  chk (decide ((([]++a)++b).length+c.length<=Af)) (
   chk (decide (((([]++a)++b)++c).length+d.length<=Af)) (
   some (((([]++a)++b)++c)++d)))))
theorem Bls:FO 66 [.sl .val false,.sl .val false,.sl .val false,.sl .val false] [.sl .val true] (Acb):=fR (px:=Bo2 _) (n:=0) Tryz.func66 rfl (λ_ H=>⟨lv H Ae Aa Ab,Aj⟩) λ(_,_,_,_)=>by kernel_rfl
def Ai2(a b c d:List Val):Option (List Val):=Acb (a,b,c,d)
def Be5:FT [.sl .val false,.sl .val false,.sl .val false,.sl .val false] [.sl .val true]:=λx=>Ai2 x.1 x.2.1 x.2.2.1 x.2.2.2
theorem Bq4:FO 66 [.sl .val false,.sl .val false,.sl .val false,.sl .val false] [.sl .val true] Be5 :=.fin0 Bls λ_ _ _ hx=>hx
def Bnm(R:Type):Px R:=pxO [(104,cA Atp)] [] [] []
def Abe(x:HV [.sl .val false]):Option (HV [.sl .byte true]):=match x with
 |l =>
 (A5g l).bind λ(x,_) =>some x
theorem Bkz:FO 65 [.sl .val false] [.sl .byte true] (Abe):=fR (px:=Bnm _) (n:=0) Tryz.func65 rfl (λ_ H=>⟨lv H (c1 H Blf Ae) Aa Ab,Aj⟩) λ_=>by kernel_rfl
def Amf(l:List Val):Option Str:=Abe l
def Bfz:FT [.sl .val false] [.sl .byte true]:=λx=>Amf x
theorem Bn1:FO 65 [.sl .val false] [.sl .byte true] Bfz :=.fin0 Bkz λ_ _ _ hx=>hx
def Acp:Sig:=⟨167,[(1,.sl .val false),(5,.sl .val true),(8,.sl .byte true),(10,.sl .ent true),(13,.int .i64),(14,.int .i64)],[(2,.ptr 0 0)],[(0,.one (.sv .tbl))],1,0,0,[],[]⟩
abbrev Jj:=List Val×List Val×List UInt8×List EntS×Int×Int×Tbl
def Gx{R:Type}(rec:Jj->Option R)(kx:Ex->Jj->Option R)(v:Jj):Option R:=match v with
 |(b,d,e,f,c,a,w2) =>
 cond (decide (a<(w2.cols.length:Int))) (
  chk (inb a w2.cols.length) (
  chk (inb a b.length) (
   let j4:=λ(p3:List EntS) =>
   let j3:=λ(p6:Bool) =>
    cond (p6) (
    (Ai2 [(Eh [102]),(Eh ((at' .col w2.cols a).ref))] [(at' .val b a)] [(Eh w2.name),(Eh ((at' .col w2.cols a).name))] d).bind λg =>
     (Amf g).bind λh =>
     chk (decide (p3.length+1<=Af)) (
      rec (b,d,e,(p3++[(EntS.mk 4 (KvS.mk h []))]),c,(wr .i64 (a+1)),w2))) (
    rec (b,d,e,p3,c,(wr .i64 (a+1)),w2))
   let j2:=λ(p4:Bool) =>
    cond (p4) (
    chk (inb a b.length) (
     j3 (!decide ((at' .val b a).kind=1)))) (
    j3 false)
   cond (decide (c=4)) (
    j2 (!decide (((at' .col w2.cols a).ref)=[]))) (
    j2 false)
   let j1:=λ(p2:Bool) =>
   cond (p2) (
    (Ai2 [(Eh [117]),(Eh w2.name),(Eh ((at' .col w2.cols a).name))] [(at' .val b a)] [] []).bind λi =>
    (Amf i).bind λk =>
     chk (decide (f.length+1<=Af)) (
     j4 (f++[(EntS.mk 3 (KvS.mk k e))]))) (
    j4 f)
   let j:=λ(p:Bool) =>
   cond (p) (
    chk (inb a b.length) (
    j1 (!decide ((at' .val b a).kind=1)))) (
    j1 false)
   cond (decide (c=3)) (
   j ((at' .col w2.cols a).unique)) (
   j false)))) (
  kx (.exit 4) (b,d,e,f,c,a,w2))
def Adj:Sig:=⟨167,[(1,.sl .val false),(5,.sl .val true),(8,.sl .byte true),(10,.sl .ent true),(13,.int .i64)],[(2,.ptr 0 0)],[(0,.one (.sv .tbl))],1,0,0,[],[]⟩
abbrev Jz:=List Val×List Val×List UInt8×List EntS×Int×Tbl
def Gh{R:Type}(k:Nat)(rec:Jz->Option R)(kx:Ex->Jz->Option R)(v:Jz):Option R:=match v with
 |(b,c,d,f,a,w1) =>
 cond (decide (a<=4)) (
  Ak (λrc=>Gx rc (λe vz=>match vz with|(g,h,i,j,l,_,m)=>match e with
  |.exit 4 =>rec (g,h,i,j,(wr .i64 (l+1)),m)
  |_=>none)) k (b,c,d,f,a,0,w1)) (
  kx (.exit 2) (b,c,d,f,a,w1))
def Ac5:Sig:=⟨167,[(1,.sl .val false),(5,.sl .val true),(8,.sl .byte true),(10,.sl .ent true),(11,.int .i64)],[(2,.ptr 0 0)],[(0,.one (.sv .tbl))],1,0,0,[],[]⟩
abbrev Nr:=List Val×List Val×List UInt8×List EntS×Int×Tbl
def M0{R:Type}(rec:Nr->Option R)(kx:Ex->Nr->Option R)(v:Nr):Option R:=match v with
 |(v,v1,v2,v3,v4,w) =>
 cond (decide (v4<(w.idx.length:Int))) (
  chk (inb v4 w.idx.length) (
  (dof w v ((at' .idx w.idx v4).cols)).bind λx7 =>
   chk (inb v4 w.idx.length) (
   (Ai2 [(Eh [105]),(Eh ((at' .idx w.idx v4).name))] x7 v1 []).bind λx8 =>
    (Amf x8).bind λx9 =>
    chk (decide (v3.length+1<=Af)) (
     rec (v,v1,v2,(v3++[(EntS.mk 2 (KvS.mk x9 []))]),(wr .i64 (v4+1)),w))))) (
  kx (.exit 0) (v,v1,v2,v3,v4,w))
def Aqx(R:Type)(k:Nat):Px R:=pxO [(63,cA Br7),(64,cA Bgx)] [(67,qA A43),(66,qA Be5),(65,qA Bfz)] [(6,Am k Ac5 (M0)),(14,Am k Acp (Gx)),(11,Am k Adj (Gh k))] []
def Kw(k:Nat)(x:HV [.sv .tbl,.sl .val false]):Option (HV [.sl .ent true]):=match x with
 |(t,r) =>
 (dof t r t.key).bind λx =>
  (Bar r).bind λ(x1,_) =>
  (Bar x).bind λ(x3,_) =>
   (Ai2 [(Eh [114]),(Eh t.name)] x [] []).bind λx5 =>
   (Amf x5).bind λx6 =>
    Ak (λrec=>M0 rec (λe vz=>match vz with|(v5,v6,v7,v8,_,a)=>match e with
    |.exit 0 =>
     Ak (λrec=>Gh k rec (λe vz=>match vz with|(_,_,_,b,_,_)=>match e with
     |.exit 2 =>some b
     |_=>none)) k (v5,v6,v7,v8,3,a)
    |_=>none)) k (r,x,x3,[(EntS.mk 1 (KvS.mk x6 x1))],0,t)
theorem A07(k:Nat):FO 28 [.sv .tbl,.sl .val false] [.sl .ent true] (Kw k):=fR (px:=Aqx _ k) (n:=3) Tryz.func28 rfl (λcx H=>by have h0:Lv cx (Aqx (HV [.sl .ent true]) k):=lv H (c1 H Bsd (c1 H Bnx Ae)) (q1 H Bmx (q1 H Bq4 (q1 H Bn1 Aa))) Ab;have hldkinds_0:=lO H h0 (b:=lp Tryz.f28 0) (k:=k) (n:=0) (s:=Ac5) (step:=M0) (λ_ _ _ (_,_,_,_,_,_)=>by kernel_rfl) Aj;have hldkinds_2:=lO H h0 (b:=lpC (lp Tryz.f28 1) 0) (k:=k) (n:=0) (s:=Acp) (step:=Gx) (λ_ _ _ (_,_,_,_,_,_,_)=>by kernel_rfl) Aj;have hldkinds_1:=lO H h0 (b:=lp Tryz.f28 1) (k:=k) (n:=1) (s:=Adj) (step:=Gh k) (λ_ _ _ (_,_,_,_,_,_)=>by kernel_rfl) (A3 Aj hldkinds_2);exact⟨h0,(A3 (A3 (A3 Aj hldkinds_0) hldkinds_1) hldkinds_2)⟩) λ(_,_)=>by kernel_rfl
def A2n(t:Tbl)(r:List Val):Option (List EntS):=Kw 5000 (t,r)
def Awh:FT [.sv .tbl,.sl .val false] [.sl .ent true]:=λx=>A2n x.1 x.2
theorem A9p:FO 28 [.sv .tbl,.sl .val false] [.sl .ent true] Awh :=.fin 0 A07 λ_ _ _ hx=>⟨5000,hx⟩
def Ain:Sig:=⟨52,[(4,.sl .kv true),(5,.int .i64),(7,.sl .ent true),(8,.sl .kv true),(9,.int .i64)],[],[],0,0,0,[],[]⟩
abbrev S7:=List KvS×Int×List EntS×List KvS×Int
def Rh{R:Type}(rec:S7->Option R)(kx:Ex->S7->Option R)(v:S7):Option R:=match v with
 |(v,v1,v2,v3,v4) =>
 cond (decide (v4<(v2.length:Int))) (
  chk (inb v4 v2.length) (
  cond (decide (200<(((at' .ent v2 v4).p.key).length:Int))) (
   kx .ret ([],3,v2,v3,v4)) (
   chk (inb v4 v2.length) (
   cond (decide (4000<(((at' .ent v2 v4).p.val).length:Int))) (
    kx .ret ([],3,v2,v3,v4)) (
    chk (inb v4 v2.length) (
    chk (decide (v3.length+1<=Af)) (
     rec (v,v1,v2,(v3++[(at' .ent v2 v4).p]),(wr .i64 (v4+1)))))))))) (
  kx (.exit 0) (v,v1,v2,v3,v4))
def Avh(R:Type)(k:Nat):Px R:=pxO [(27,cA Aa9),(28,cA Awh)] [] [(7,Am k Ain (Rh))] []
def O2(k:Nat)(x:HV [.sv .tbl,.sl .val false]):Option (HV [.sl .kv true,.int .i64]):=match x with
 |(t,r) =>
 (Tf t r).bind λx =>
  cond (!decide (x=0)) (
  some ([],x)) (
  (A2n t r).bind λx1 =>
   Ak (λrec=>Rh rec (λe vz=>match vz with|(v5,v6,_,v8,_)=>match e with
   |.ret =>some (v5,v6)
   |.exit 0 =>some (v8,0)
   |_=>none)) k ([],0,x1,[],0))
theorem Bb9(k:Nat):FO 10 [.sv .tbl,.sl .val false] [.sl .kv true,.int .i64] (O2 k):=fR (px:=Avh _ k) (n:=1) Tryz.func10 rfl (λcx H=>by have h0:Lv cx (Avh (HV [.sl .kv true,.int .i64]) k):=lv H (c1 H A4k (c1 H A9p Ae)) Aa Ab;have hldents_0:=lO H h0 (b:=lp Tryz.f10 0) (k:=k) (n:=0) (s:=Ain) (step:=Rh) (λ_ _ _ (_,_,_,_,_)=>by kernel_rfl) Aj;exact⟨h0,(A3 Aj hldents_0)⟩) λ(_,_)=>by kernel_rfl
def Bgg(t:Tbl)(r:List Val):Option (List KvS×Int):=O2 5000 (t,r)
def A5n:FT [.sv .tbl,.sl .val false] [.sl .kv true,.int .i64]:=λx=>Bgg x.1 x.2
theorem Blw:FO 10 [.sv .tbl,.sl .val false] [.sl .kv true,.int .i64] A5n :=.fin 0 Bb9 λ_ _ _ hx=>⟨5000,hx⟩
def Bka(R:Type):Px R:=pxO [] [] [] []
def Wr(x:HV [.sl .byte false,.sl .byte false]):Option (HV [.bool]):=match x with
 |(a,b) =>
 some (decide (a=b))
theorem Bda:FO 20 [.sl .byte false,.sl .byte false] [.bool] (Wr):=fR (px:=Bka _) (n:=0) Tryz.func20 rfl (λ_ H=>⟨lv H Ae Aa Ab,Aj⟩) λ(_,_)=>by kernel_rfl
def A5i(a b:Str):Option Bool:=Wr (a,b)
def Aso:FT [.sl .byte false,.sl .byte false] [.bool]:=λx=>A5i x.1 x.2
theorem Ayp:FO 20 [.sl .byte false,.sl .byte false] [.bool] Aso :=.fin0 Bda λ_ _ _ hx=>hx
def Ad7:Sig:=⟨43,[(0,.sl .kv false),(1,.sl .kv false),(4,.bool),(5,.int .i64)],[],[],0,0,0,[],[]⟩
abbrev Wd:=List KvS×List KvS×Bool×Int
def Qb{R:Type}(rec:Wd->Option R)(kx:Ex->Wd->Option R)(v:Wd):Option R:=match v with
 |(v,v1,v2,v3) =>
 cond (decide (v3<(v.length:Int))) (
  chk (inb v3 v.length) (
  chk (inb v3 v1.length) (
   (A5i ((at' .kv v v3).key) ((at' .kv v1 v3).key)).bind λx =>
   cond (!x) (
    kx .ret (v,v1,false,v3)) (
    chk (inb v3 v.length) (
    chk (inb v3 v1.length) (
     (A5i ((at' .kv v v3).val) ((at' .kv v1 v3).val)).bind λx1 =>
     cond (!x1) (
      kx .ret (v,v1,false,v3)) (
      rec (v,v1,v2,(wr .i64 (v3+1)))))))))) (
  kx (.exit 0) (v,v1,v2,v3))
def Apx(R:Type)(k:Nat):Px R:=pxO [(20,cA Aso)] [(20,qA Aso)] [(4,Am k Ad7 (Qb))] []
def Ki(k:Nat)(x:HV [.sl .kv false,.sl .kv false]):Option (HV [.bool]):=match x with
 |(a,b) =>
 cond (!decide ((a.length:Int)=(b.length:Int))) (
  some false) (
  Ak (λrec=>Qb rec (λe vz=>match vz with|(_,_,v6,_)=>match e with
  |.ret =>some v6
  |.exit 0 =>some true
  |_=>none)) k (a,b,false,0))
theorem A34(k:Nat):FO 11 [.sl .kv false,.sl .kv false] [.bool] (Ki k):=fR (px:=Apx _ k) (n:=1) Tryz.func11 rfl (λcx H=>by have h0:Lv cx (Apx (HV [.bool]) k):=lv H (c1 H Ayp Ae) (q1 H Ayp Aa) Ab;have hldpairs_0:=lO H h0 (b:=lp Tryz.f11 0) (k:=k) (n:=0) (s:=Ad7) (step:=Qb) (λ_ _ _ (_,_,_,_)=>by kernel_rfl) Aj;exact⟨h0,(A3 Aj hldpairs_0)⟩) λ(_,_)=>by kernel_rfl
def A32(a b:List KvS):Option Bool:=Ki 5000 (a,b)
def Azm:FT [.sl .kv false,.sl .kv false] [.bool]:=λx=>A32 x.1 x.2
theorem Bdg:FO 11 [.sl .kv false,.sl .kv false] [.bool] Azm :=.fin 0 A34 λ_ _ _ hx=>⟨5000,hx⟩
def Afx:Sig:=⟨52,[(1,.sl .vals false),(5,.int .i64),(6,.int .i64),(7,.int .i64)],[],[],0,0,0,[],[]⟩
abbrev Ru:=List (List Val)×Int×Int×Int
def Xp{R:Type}(rec:Ru->Option R)(kx:Ex->Ru->Option R)(v:Ru):Option R:=match v with
 |(v3,v4,v5,v6) =>
 chk (inb v5 v3.length) (
  cond (decide (v6<((at' .vals v3 v5).length:Int))) (
  chk (inb v5 v3.length) (
   chk (inb v6 ((at' .vals v3 v5).length)) (
   rec (v3,(wr .i64 (v4+(wr .i64 (Int.tdiv (((at' .val (at' .vals v3 v5) v6).s).length:Int) 20)))),v5,(wr .i64 (v6+1)))))) (
  kx (.exit 2) (v3,v4,v5,v6)))
def Ak8:Sig:=⟨52,[(1,.sl .vals false),(5,.int .i64),(6,.int .i64)],[],[],0,0,0,[],[]⟩
abbrev Aa4:=List (List Val)×Int×Int
def Sb{R:Type}(k:Nat)(rec:Aa4->Option R)(kx:Ex->Aa4->Option R)(v:Aa4):Option R:=match v with
 |(v,v1,v2) =>
 cond (decide (v2<(v.length:Int))) (
  chk (inb v2 v.length) (
  Ak (λrc=>Xp rc (λe vz=>match vz with|(v7,v8,v9,_)=>match e with
   |.exit 2 =>
   rec (v7,v8,(wr .i64 (v9+1)))
   |_=>none)) k (v,(wr .i64 ((wr .i64 (v1+1))+((at' .vals v v2).length:Int))),v2,0))) (
  kx (.exit 0) (v,v1,v2))
def Axu(R:Type)(k:Nat):Px R:=pxO [(23,cA Aaq)] [] [(7,Am k Afx (Xp)),(3,Am k Ak8 (Sb k))] []
def Ns(k:Nat)(x:HV [.sv .tbl,.sl .vals false]):Option (HV [.bool]):=match x with
 |(t,l) =>
 Ak (λrec=>Sb k rec (λe vz=>match vz with|(a,b,_)=>match e with
  |.exit 0 =>
  cond (decide (250<=b)) (
   some true) (
   some (decide (24<(a.length:Int))))
  |_=>none)) k (l,(Aty t 200),0)
theorem Bbg(k:Nat):FO 7 [.sv .tbl,.sl .vals false] [.bool] (Ns k):=fR (px:=Axu _ k) (n:=2) Tryz.func7 rfl (λcx H=>by have h0:Lv cx (Axu (HV [.bool]) k):=lv H (c1 H A1o Ae) Aa Ab;have hllmuch_1:=lO H h0 (b:=lpC (lp Tryz.f7 0) 0) (k:=k) (n:=0) (s:=Afx) (step:=Xp) (λ_ _ _ (_,_,_,_)=>by kernel_rfl) Aj;have hllmuch_0:=lO H h0 (b:=lp Tryz.f7 0) (k:=k) (n:=1) (s:=Ak8) (step:=Sb k) (λ_ _ _ (_,_,_)=>by kernel_rfl) (A3 Aj hllmuch_1);exact⟨h0,(A3 (A3 Aj hllmuch_0) hllmuch_1)⟩) λ(_,_)=>by kernel_rfl
def Bmp(t:Tbl)(l:List (List Val)):Option Bool:=Ns 2000000 (t,l)
def A8i:FT [.sv .tbl,.sl .vals false] [.bool]:=λx=>Bmp x.1 x.2
theorem Bix:FO 7 [.sv .tbl,.sl .vals false] [.bool] A8i :=.fin 0 Bbg λ_ _ _ hx=>⟨2000000,hx⟩
end
def wV(s:Str):Val:=⟨4,0,s⟩
theorem Blb{l:List Str}(h:l.length<=4000)(k:Nat)(hk : 4000<k):Kl k l=some (l.map wV):=by
 have hl:ln l.length:=by simp only[ln];omega
 simp only[Kl];refine(Bo (β:=List Val) l.length (λi acc=>(acc,l,(l.length:Int),(i:Int))) (λi acc=>acc.length=i) (λi acc=>some (acc++(l.drop i).map wV)) (λi hi acc ha rec hr =>?_) (λacc _ rec =>?_) k 0 [] (Nat.zero_le _) (by omega) rfl).trans (by rw[Zq1];rfl)
 ·simp only[P5,Br hi,Ag,Ao hi,chk,Al (c :=.str) hi,An hi hl,Ah hi,Zw1];rw[Ze1 (by simp only[Af];omega),Ag,hr _ (by simp[ha])];simp[wV,A0n]
 ·simp only[P5,Bu,Ai];simp
theorem Mv{l:List Str}(h:l.length<=4000):Xc l=some (l.map wV):=Blb h 5000 (by omega)
theorem Aa5{α:Type}{l:List (List α)}{i:Nat}(h:i<l.length):(l.take (i+1)).flatten=(l.take i).flatten++l[i]:=by have e:=congrArg List.flatten (List.take_append_getElem h);rw[List.flatten_append] at e;rw[<-e];simp only[Zz1,List.flatten_nil,List.append_nil]
theorem A52{α:Type}(l:List (List α))(i:Nat):(l.take i).flatten.length<=l.flatten.length:=by have:=congrArg (λq=>q.flatten.length) (List.take_append_drop i l);simp only[List.flatten_append,Zh1] at this;omega
theorem Bto{l:List (List Val)}(h:l.length<=4000)(hf:l.flatten.length<=1000000)(k:Nat)(hk : 4000<k):R8 k l=some l.flatten:=by
 have hl:ln l.length:=by simp only[ln];omega
 simp only[R8];refine(Bo (β:=Nat) l.length (λi a=>(l,(a:Int),l,(l.length:Int),(i:Int))) (λi a=>a=(l.take i).flatten.length) (λ_ _=>some l.flatten) (λi hi a ha rec hr =>?_) (λa ha rec =>?_) k 0 0 (Nat.zero_le _) (by omega) (by simp)).trans rfl
 ·have h1:=A52 l (i+1);have h2:=congrArg List.length (Aa5 hi);rw[Zh1] at h2;have e:wr .i64 ((a:Int)+(l[i].length:Int))=((a+l[i].length:Nat):Int):=by rw[Bd (by simp[inI];omega)];omega
  simp only[Ag2,Br hi,Ag,Ao hi,chk,Al (c :=.vals) hi,An hi hl,e];rw[Zd1 (by omega),Ai];exact hr _ (by omega)
 ·rw[List.take_length] at ha;subst ha;simp only[Ag2,Bu,Ai,chk];rw[Ze1 (show(0:Int)<=(l.flatten.length:Int) by omega),Ze1 (show(l.flatten.length:Int)<=2000000 by omega),Bool.and_true,Ag];refine(Bo (β:=List Val) l.length (λi acc=>(acc,l,(l.length:Int),(i:Int))) (λi acc=>acc=(l.take i).flatten) (λi acc=>some (acc++(l.drop i).flatten)) (λi hi acc ha rec hr =>?_) (λacc _ rec =>?_) k 0 [] (Nat.zero_le _) (by omega) (by simp)).trans (by rw[Zq1];rfl)
  ·have h1:=A52 l (i+1);have h2:=congrArg List.length (Aa5 hi);rw[Zh1] at h2;subst ha;simp only[Af6,Br hi,Ag,Ao hi,chk,Al (c :=.vals) hi,An hi hl,Ah hi,Zz1];rw[Ze1 (by simp only[Af];omega),Ag,hr _ (Aa5 hi).symm,Zj1]
  ·simp only[Af6,Bu,Ai];simp
theorem Bnp{l:List (List Val)}(h:l.length<=4000)(hf:l.flatten.length<=1000000):Buk l=some l.flatten:=Bto h hf 5000 (by omega)
theorem Azg{v:Val}(h:Aq v=true):v.s.length<=1000:=by rcases Np.1 h with ⟨_,_,h⟩|⟨_,_,h⟩|⟨_,h⟩|⟨_,_,h,_⟩|⟨_,_,h⟩<;>first|exact h|(rw[h];simp)
theorem Aqz:∀{l:List Val},(∀v,v∈l->Aq v=true)->vsz l<=1001*l.length
 |[],_=>by simp[vsz]
 |v::l,h=>by have h1:=Azg (h v (by simp));have h2:=Aqz (l:=l) λq hq=>h q (by simp[hq]);simp only[vsz,Zf1];omega
theorem Al7{l:List Val}(h:∀v,v∈l->Aq v=true)(hn:l.length<=900):A15 l=some (Ic l,0):=by have:=Aqz h;rw[A15,Ze1 (by omega),Ag,Zg2.2 h];rfl
theorem N5{l:List (List Val)}(hl:l.length<=4000)(h:∀v,v∈l.flatten->Aq v=true)(hn:l.flatten.length<=900):Aj7 l=some (Ic l.flatten,0):=by rw[Aj7,Acc,Bnp hl (by omega),Zc1,Al7 h hn];rfl
theorem N1{l:List Val}(h:∀v,v∈l->Aq v=true)(hn:l.length<=900):Amf l=some (Ic l):=by rw[Amf,Abe,A5g,Al7 h hn];rfl
theorem Aey{a b c d:List Val}(h:a.length+b.length+c.length+d.length<=1000000):Ai2 a b c d=some (a++b++c++d):=by rw[Ai2,Acb,chk,chk,chk,chk,Ze1 (by simp only[Af];omega),Ze1 (by simp[Af];omega),Ze1 (by simp[Af];omega),Ze1 (by simp[Af];omega)];simp
theorem Bqj{t:Tbl}{r:List Val}{l:List Str}(hl:l.length<=4000)(he:r.length=t.cols.length)(k:Nat)(hk : 4000<k):O1 k (t,r,l)=some (Dl t.cols r l []):=by
 have hn:ln l.length:=by simp only[ln];omega
 simp only[O1];rw[Ze1 (by omega),Zt1,Ai];refine(Bo (β:=List Val) l.length (λi acc=>(r,l,[],0,acc,(i:Int),t)) (λi acc=>acc.length=i) (λi acc=>some (Dl t.cols r (l.drop i) acc)) (λi hi acc ha rec hr =>?_) (λacc _ rec =>?_) k 0 [] (Nat.zero_le _) (by omega) rfl).trans (by rw[Zq1])
 ·simp only[Z0,Br hi,Ag,Ao hi,chk,Al (c :=.str) hi,An hi hn,Ah hi,Dl,Amk];by_cases hf:B9 t.cols l[i]<0
  ·rw[Ze1 hf];rfl
  ·obtain⟨j,hj,e,_⟩:=Ait hf;rw[Zd1 hf,Ai,Ai,e,Ao (by omega),Ag,Ze1 (by simp only[Af];omega),Ag,hr _ (by simp[ha])]
 ·simp only[Z0,Bu,Ai];rw[Zk1 (Zn1 _)];rfl
theorem Bfh{t:Tbl}{r:List Val}{l:List Str}(hl:l.length<=4000)(he:r.length=t.cols.length):dof t r l=some (Dl t.cols r l []).1:=by rw[dof,Ah1,Bgj,Bqj hl he 5000 (by omega)];rfl
theorem Azb{t:Tbl}{r:List Val}{l:List Str}(hl:l.length<=4000)(he:r.length=t.cols.length):Akz t r l=some (Dl t.cols r l []):=by rw[Akz,Ze1 (by omega),Ag,Ze1 he,Ag]
theorem A50{s:Stm}(h:(H3 s).2=0):(decide (s.kind=1)&&Bm s)=true/\Iq ⟨s.name,s.cols,s.names,[],[]⟩ s.names=true/\G1 s.cols s.l=0:=by
 simp only[H3] at h;generalize (decide (s.kind=1)&&Bm s)=b1 at h ⊢;generalize Iq ⟨s.name,s.cols,s.names,[],[]⟩ s.names=b2 at h ⊢;cases b1 with
 |false=>simp at h
 |true =>
  cases b2 with
  |false=>simp at h
  |true =>
   by_cases hc:G1 s.cols s.l=0
   ·exact⟨rfl,rfl,hc⟩
   ·simp[hc] at h
theorem Art{t:Tbl}(h:Ip t=true):(H3 (Et t)).2=0/\A8 t.idx=true/\t.idx.length<=100/\∀x,x∈t.idx->Io t x=true:=by simp only[Ip,Zb1,Zg1,Zg2] at h;exact h
theorem Bnb{t:Tbl}{row:List Val}(h:Gc t row=0):Ip t=true/\Dr t.cols row=true:=by
 simp only[Gc] at h;cases h1:Ip t with
 |false=>rw[h1] at h;simp at h
 |true =>cases h2:Dr t.cols row with|false=>rw[h1,h2] at h;simp at h|true=>exact⟨rfl,rfl⟩
theorem Awz:∀{l seen:List Str},Md seen l=true->∀s,s∈l->Cj s=true
 |[],_,_,s,hs=>by cases hs
 |x::l,seen,h,s,hs=>by
  simp only[Md,Zb1] at h;rcases List.mem_cons.1 hs with rfl|hs
  ·exact h.1.1
  ·exact Awz h.2 s hs
theorem Agh{l:List Str}(h:C6 l=true):l.length<=100/\∀s,s∈l->Cj s=true:=by simp only[C6,Zb1,Zg1] at h;exact⟨h.2,Awz h.1⟩
theorem A9c:((List.range 256).all λn => !Lp.isIn (n:Int)||vis (UInt8.ofNat n))=true:=by kernel_rfl
theorem Ayl{p:UInt8->Bool}:∀{l:Str},(l.takeWhile p).length=l.length->∀b,b∈l->p b=true
 |[],_,b,h=>by cases h
 |c::l,h,b,hb=>by
  cases hc:p c with
  |false =>rw[List.takeWhile_cons,hc] at h;simp at h
  |true =>
   rw[List.takeWhile_cons,hc] at h;rcases List.mem_cons.1 hb with rfl|hb
   ·exact hc
   ·exact Ayl (l:=l) (by simpa using h) b hb
theorem E6{s:Str}(h:Cj s=true):Aq (wV s)=true:=by
 simp only[Lp.nameF,Zb1,Zg1,Lp.runTo] at h;have h2:=h.2;simp at h2;refine Np.2 (.inr (.inr (.inr (.inl ⟨rfl,rfl,by simp only[wV];omega,?_⟩))));simp only[wV,I2,Zg2];intro c hc;have h1:=Zg2.1 A9c c.toNat (List.mem_range.2 c.toNat_lt);have h3:Lp.isIn (c.toNat:Int)=true:=by
  first
   |exact Ayl (p:=λb=>Lp.isIn (b.toNat:Int)) (by omega) c hc
   |exact h2 c hc
 rw[UInt8.ofNat_toNat,h3] at h1;simpa using h1
structure FitR (t:Tbl) (r:List Val):Prop where
 name:Cj t.name=true
 cols:∀c,c∈t.cols->Cj c.name=true/\(c.ref=[]\/Cj c.ref=true)
 ncols:t.cols.length<=100
 nkey:t.key.length<=100
 nidx:t.idx.length<=100
 key:∀s,s∈t.key->¬B9 t.cols s<0
 idx:∀x,x∈t.idx->Cj x.name=true/\x.cols.length<=100/\∀s,s∈x.cols->¬B9 t.cols s<0
 len:r.length=t.cols.length
 right:∀v,v∈r->Aq v=true
theorem A76{t:Tbl}(h:Ip t=true):t.cols.length<=100/\t.key.length<=100/\t.checks.length<=100/\Cj t.name=true/\(∀c,c∈t.cols->Cj c.name=true/\(c.ref=[]\/Cj c.ref=true)):=by
 have b1:=(A50 (Art h).1).1;simp only[Et,Bm,if_true,decide_true,Bool.true_and,Zb1] at b1;obtain⟨⟨b2,_⟩,⟨⟨⟨⟨b3,_⟩,b4⟩,_⟩,b5⟩,b6⟩:=b1;have c1:=Agh b4;have c2:=Agh b5;have hl:t.checks.length<=100:=by simp only[Fx,Zb1,Zg1] at b6;exact b6.1
 refine⟨by simpa using c1.1,c2.1,hl,b2,λc hc=>⟨c1.2 _ (List.mem_map.2 ⟨c,hc,rfl⟩),?_⟩⟩;have h3:=Zg2.1 b3 c hc;simp only[Hc,Zb1,Zd2,Zg1] at h3;exact h3.2
theorem Ar2{t:Tbl}{r:List Val}(h:Gc t r=0):FitR t r:=by
 obtain⟨ht,hr⟩:=Bnb h;obtain⟨h1,h2,_,h4,h5⟩:=A76 ht;have hl:=F1 hr;refine⟨h4,h5,h1,h2,(Art ht).2.2.1,λs hs =>?_,λx hx =>?_,hl.symm,λv hv =>?_⟩
 ·have h6:(!decide (B9 t.cols s<0))=true:=Zg2.1 (A50 (Art ht).1).2.1 s hs;simpa using h6
 ·have h6:=(Art ht).2.2.2 x hx;simp only[Io,Zb1] at h6;obtain⟨h7,h8⟩:=h6;simp only[Bm,Bz,Zb1] at h7;have h9:(Cj t.name&&C0 (x.cols.length:Int)&&C6 x.cols)=true:=h7.2;simp only[Zb1] at h9;obtain⟨h10,_⟩:=Agh h9.2;refine⟨h7.1.1,h10,λs hs =>?_⟩;have h11:(!decide (B9 t.cols s<0))=true:=Zg2.1 h8 s hs;simpa using h11
 ·obtain⟨i,hi,rfl⟩:=List.getElem_of_mem hv;exact(Anw.1 (Wu hr i (by omega) hi)).1
theorem Ov{t:Tbl}{r:List Val}(f:FitR t r){l:List Str}(hl:∀s,s∈l->¬B9 t.cols s<0)(P:Val->Prop)(hP:∀v,v∈r->P v):∀v,v∈(Dl t.cols r l []).1->P v:=by
 refine(A41 (P:=P) (λs hs=>⟨hl s hs,?_⟩) (λv hv=>by cases hv)).2;obtain⟨i,hi,e,_⟩:=Ait (hl s hs);have hi2:i<r.length:=by rw[f.len];exact hi
 rw[e,Al (c :=.val) hi2];exact hP _ (List.getElem_mem hi2)
theorem W2{cols:List Col}{row:List Val}{l:List Str}(h:l.length<=100):(Dl cols row l []).1.length<=100:=by have:=A0e (cols:=cols) (row:=row) (l:=l) (acc:=[]);simp only[Zi1,Nat.zero_add] at this;omega
def Afw(p:KvS):Bool:=decide (p.key.length<=200)&&decide (p.val.length<=4000)
def eKv(p:KvS):Int:=cond (Afw p) 0 3
def nxE(e:Int)(p:KvS):Int:=cond (decide (e=0)) (eKv p) e
def H2:Int->List KvS->Int
 |e,[]=>e
 |e,p::l=>H2 (nxE e p) l
def pkV(t:Tbl)(r:List Val):List Val:=(Dl t.cols r t.key []).1
def Ka(t:Tbl)(r:List Val):KvS:=⟨Ic (wV [114]::wV t.name::pkV t r),(Fy r).1⟩
def Ju(t:Tbl)(r:List Val)(x:Idx):KvS:=⟨Ic (wV [105]::wV x.name::((Dl t.cols r x.cols []).1++pkV t r)),[]⟩
def Aai(t:Tbl)(r:List Val)(c:Col)(v:Val):KvS:=⟨Ic [wV [117],wV t.name,wV c.name,v],(Fy (pkV t r)).1⟩
def Yq(t:Tbl)(r:List Val)(c:Col)(v:Val):KvS:=⟨Ic (wV [102]::wV c.ref::v::wV t.name::wV c.name::pkV t r),[]⟩
def Gt(t:Tbl)(r:List Val):List Col->List Val->List KvS
 |c::cs,v::vs=>cond (c.unique && !decide (v.kind=1)) (Aai t r c v::Gt t r cs vs) (Gt t r cs vs)
 |_,_=>[]
def G4(t:Tbl)(r:List Val):List Col->List Val->List KvS
 |c::cs,v::vs=>cond (!decide (c.ref=[]) && !decide (v.kind=1)) (Yq t r c v::G4 t r cs vs) (G4 t r cs vs)
 |_,_=>[]
theorem Biv(e:Int)(k v:Str):nxE e ⟨k,v⟩=cond (decide (e=0)) (cond (decide (200<(k.length:Int))) 3 (cond (decide (4000<(v.length:Int))) 3 0)) e:=by simp only[nxE,eKv,Afw];rw[show decide (k.length<=200) = !decide (200<(k.length:Int)) by rw[<-decide_not];exact Zy1.2 (by omega),show decide (v.length<=4000) = !decide (4000<(v.length:Int)) by rw[<-decide_not];exact Zy1.2 (by omega)];cases decide (e=0)<;>cases decide (200<(k.length:Int))<;>cases decide (4000<(v.length:Int))<;>rfl
theorem Bf2(e:Int)(k:Str):nxE e ⟨k,[]⟩=cond (decide (e=0)) (cond (decide (200<(k.length:Int))) 3 0) e:=by rw[Biv];rfl
section
variable {t:Tbl}{r:List Val}
theorem Tr(f:FitR t r):∀v,v∈pkV t r->Aq v=true:=Ov f f.key _ f.right
theorem Ga(f:FitR t r):(pkV t r).length<=100:=W2 f.nkey
theorem Mz:Aq (wV [114])=true/\Aq (wV [105])=true/\Aq (wV [117])=true/\Aq (wV [102])=true:=⟨by kernel_rfl,by kernel_rfl,by kernel_rfl,by kernel_rfl⟩
theorem Beu(f:FitR t r):Aj7 [[wV [114],wV t.name],pkV t r]=some ((Ka t r).key,0):=by
 have:=Ga f;have e:[[wV [114],wV t.name],pkV t r].flatten=wV [114]::wV t.name::pkV t r:=by simp
 rw[N5 (by simp) (λv hv =>?_) (by rw[e];simp;omega),e]
 ·rfl
 ·rw[e] at hv;rcases List.mem_cons.1 hv with rfl|hv
  ·exact Mz.1
  rcases List.mem_cons.1 hv with rfl|hv
  ·exact E6 f.name
  ·exact Tr f v hv
theorem Aqr(f:FitR t r){x:Idx}(hx:x∈t.idx):(∀v,v∈wV [105]::wV x.name::((Dl t.cols r x.cols []).1++pkV t r)->Aq v=true)/\(wV [105]::wV x.name::((Dl t.cols r x.cols []).1++pkV t r)).length<=900:=by
 obtain⟨h1,h2,h3⟩:=f.idx x hx;have:=Ga f;have:=W2 (cols:=t.cols) (row:=r) h2;refine⟨λv hv =>?_,by simp;omega⟩;rcases List.mem_cons.1 hv with rfl|hv
 ·exact Mz.2.1
 rcases List.mem_cons.1 hv with rfl|hv
 ·exact E6 h1
 rcases List.mem_append.1 hv with hv|hv
 ·exact Ov f h3 _ f.right v hv
 ·exact Tr f v hv
theorem Bk0(f:FitR t r){x:Idx}(hx:x∈t.idx):Aj7 [[wV [105],wV x.name],(Dl t.cols r x.cols []).1,pkV t r]=some ((Ju t r x).key,0):=by
 obtain⟨h1,h2⟩:=Aqr f hx;have e:[[wV [105],wV x.name],(Dl t.cols r x.cols []).1,pkV t r].flatten=wV [105]::wV x.name::((Dl t.cols r x.cols []).1++pkV t r):=by simp
 rw[N5 (by simp) (by rw[e];exact h1) (by rw[e];exact h2),e];rfl
theorem Ans(f:FitR t r){c:Col}(hc:c∈t.cols){v:Val}(hv:v∈r):∀q,q∈[wV [117],wV t.name,wV c.name,v]->Aq q=true:=by
 intro q hq;simp only[List.mem_cons,List.not_mem_nil,or_false] at hq;rcases hq with rfl|rfl|rfl|rfl
 ·exact Mz.2.2.1
 ·exact E6 f.name
 ·exact E6 (f.cols c hc).1
 ·exact f.right _ hv
theorem Bh2(f:FitR t r){c:Col}(hc:c∈t.cols){v:Val}(hv:v∈r):Aj7 [[wV [117],wV t.name,wV c.name],[v]]=some ((Aai t r c v).key,0):=by have e:[[wV [117],wV t.name,wV c.name],[v]].flatten=[wV [117],wV t.name,wV c.name,v]:=rfl;rw[N5 (by simp) (by rw[e];exact Ans f hc hv) (by rw[e];simp),e];rfl
theorem Aam(f:FitR t r){c:Col}(hc:c∈t.cols)(hn:¬c.ref=[]){v:Val}(hv:v∈r):(∀q,q∈wV [102]::wV c.ref::v::wV t.name::wV c.name::pkV t r->Aq q=true)/\(wV [102]::wV c.ref::v::wV t.name::wV c.name::pkV t r).length<=900:=by
 have:=Ga f;refine⟨λq hq =>?_,by simp;omega⟩;simp only[List.mem_cons] at hq;rcases hq with rfl|rfl|rfl|rfl|rfl|hq
 ·exact Mz.2.2.2
 ·exact E6 ((f.cols c hc).2.resolve_left hn)
 ·exact f.right _ hv
 ·exact E6 f.name
 ·exact E6 (f.cols c hc).1
 ·exact Tr f q hq
theorem Bf7(f:FitR t r){c:Col}(hc:c∈t.cols)(hn:¬c.ref=[]){v:Val}(hv:v∈r):Aj7 [[wV [102],wV c.ref],[v],[wV t.name,wV c.name],pkV t r]=some ((Yq t r c v).key,0):=by
 obtain⟨h1,h2⟩:=Aam f hc hn hv;have e:[[wV [102],wV c.ref],[v],[wV t.name,wV c.name],pkV t r].flatten=wV [102]::wV c.ref::v::wV t.name::wV c.name::pkV t r:=by simp
 rw[N5 (by simp) (by rw[e];exact h1) (by rw[e];exact h2),e];rfl
theorem Aug{R:Type}{kx:Ex->Ui->Option R}(f:FitR t r){w1 w5 w7:List KvS}{w2 w6 w8:Int}{c:List KvS->Int->Option R}(h2:∀l e,kx (.exit 0) (r,pkV t r,t.idx,(t.idx.length:Int),(t.idx.length:Int),t,w1,w2,l,e,w5,w6,w7,w8)=c l e)(k:Nat)(hk : 200<k) :
  Ak (λrec=>Nu rec kx) k (r,pkV t r,t.idx,(t.idx.length:Int),0,t,w1,w2,[],0,w5,w6,w7,w8)=c (t.idx.map (Ju t r)) (H2 0 (t.idx.map (Ju t r))):=by
 have hn:=f.nidx;have hln:ln t.idx.length:=by simp only[ln];omega
 refine(Bo (β:=List KvS×Int) t.idx.length (λi a=>(r,pkV t r,t.idx,(t.idx.length:Int),(i:Int),t,w1,w2,a.1,a.2,w5,w6,w7,w8)) (λi a=>a.1.length=i) (λi a=>c (a.1++(t.idx.drop i).map (Ju t r)) (H2 a.2 ((t.idx.drop i).map (Ju t r)))) (λi hi a ha rec hr =>?_) (λa _ rec =>?_) k 0 ([],0) (Nat.zero_le _) (by omega) rfl).trans (by rw[Zq1];rfl)
 ·have hx:=List.getElem_mem hi;have hr':=hr (a.1++[Ju t r t.idx[i]],nxE a.2 (Ju t r t.idx[i])) (by simp[ha]);have hx2:=(f.idx _ hx).2.1;simp only[Nu,Br hi,Ag,Ao hi,chk,Al (c :=.idx) hi,An hi hln,Azb (show t.idx[i].cols.length<=4000 by omega) f.len,Zc1,Mv (show [[105],t.idx[i].name].length<=4000 by simp),Zw1,List.map_nil,Bk0 f hx,Ah hi,H2,decide_true];rw[Ze1 (show a.1.length+1<=Af by simp only[Af];omega)];have e:nxE a.2 (Ju t r t.idx[i])=cond (decide (a.2=0)) (cond (decide (200<((Ju t r t.idx[i]).key.length:Int))) 3 0) a.2:=Bf2 _ _;rw[Zj1,List.singleton_append] at hr';rw[<-hr',e];have e2:Ju t r t.idx[i]=⟨(Ju t r t.idx[i]).key,[]⟩:=rfl;rw[<-e2];cases decide (a.2=0)<;>cases decide (200<((Ju t r t.idx[i]).key.length:Int))<;>rfl
 ·simp only[Nu,Bu,Ai,h2];rw[Zk1 (Zn1 _),List.map_nil,List.append_nil];rfl
theorem Aui{R:Type}{kx:Ex->T5->Option R}(f:FitR t r){w1 w3:List KvS}{w2 w4:Int}{c:List KvS->Int->List KvS->Int->Option R}(h2:∀l e m g,kx (.exit 2) (r,pkV t r,(Fy (pkV t r)).1,t.cols,(t.cols.length:Int),(t.cols.length:Int),t,w1,w2,w3,w4,l,e,m,g)=c l e m g)(k:Nat)(hk : 200<k) :
  Ak (λrec=>N9 rec kx) k (r,pkV t r,(Fy (pkV t r)).1,t.cols,(t.cols.length:Int),0,t,w1,w2,w3,w4,[],0,[],0)=c (Gt t r t.cols r) (H2 0 (Gt t r t.cols r)) (G4 t r t.cols r) (H2 0 (G4 t r t.cols r)):=by
 have hn:=f.ncols;have hln:ln t.cols.length:=by simp only[ln];omega
 refine(Bo (β:=(List KvS×Int)×(List KvS×Int)) t.cols.length (λi a=>(r,pkV t r,(Fy (pkV t r)).1,t.cols,(t.cols.length:Int),(i:Int),t,w1,w2,w3,w4,a.1.1,a.1.2,a.2.1,a.2.2)) (λi a=>a.1.1.length<=i/\a.2.1.length<=i) (λi a=>c (a.1.1++Gt t r (t.cols.drop i) (r.drop i)) (H2 a.1.2 (Gt t r (t.cols.drop i) (r.drop i))) (a.2.1++G4 t r (t.cols.drop i) (r.drop i)) (H2 a.2.2 (G4 t r (t.cols.drop i) (r.drop i)))) (λi hi a ha rec hr =>?_) (λa _ rec =>?_) k 0 (([],0),([],0)) (Nat.zero_le _) (by omega) ⟨by simp,by simp⟩).trans (by rw[Zq1,Zq1];rfl)
 ·have hi2:i<r.length:=by rw[f.len];exact hi
  have hx:=List.getElem_mem hi;have hv:=List.getElem_mem hi2;have m1:∀l:List KvS,l.length<=i->decide (l.length+1<=Af)=true:=λl hl=>Ze1 (by simp only[Af];omega);have cu:cut r (i:Int) ((i+1:Nat):Int)=[r[i]]:=by simp[cut,List.take_one,hi2]
  have cb:upto (i:Int) ((i+1:Nat):Int) r.length=true:=by simp[upto];omega
  simp only[N9,Br hi,Ag,Ao hi,Ao hi2,chk,Al (c :=.col) hi,Al (c :=.val) hi2,An hi hln,Ah hi,Ah hi2,Gt,G4,cu,cb];by_cases h1:r[i].kind=1
  ·rw[Ze1 h1];simp only[Ag,Zt1,Bool.and_false,Ai];exact hr a ⟨by omega,by omega⟩
  ·rw[Zd1 h1];simp only[Ai,Zs1,Bool.and_true];have eu:nxE a.1.2 (Aai t r t.cols[i] r[i])=cond (decide (a.1.2=0)) (cond (decide (200<((Aai t r t.cols[i] r[i]).key.length:Int))) 3 (cond (decide (4000<((Fy (pkV t r)).1.length:Int))) 3 0)) a.1.2:=Biv _ _ _;have er:nxE a.2.2 (Yq t r t.cols[i] r[i])=cond (decide (a.2.2=0)) (cond (decide (200<((Yq t r t.cols[i] r[i]).key.length:Int))) 3 0) a.2.2:=Bf2 _ _;have e2:Aai t r t.cols[i] r[i]=⟨(Aai t r t.cols[i] r[i]).key,(Fy (pkV t r)).1⟩:=rfl;have e3:Yq t r t.cols[i] r[i]=⟨(Yq t r t.cols[i] r[i]).key,[]⟩:=rfl;simp only[m1 _ ha.1,m1 _ ha.2,Mv (show [[117],t.name,t.cols[i].name].length<=4000 by simp),Mv (show [[102],t.cols[i].ref].length<=4000 by simp),Mv (show [t.name,t.cols[i].name].length<=4000 by simp),Zc1,Zw1,List.map_nil,Bh2 f hx hv,decide_true,Ag];by_cases h3:t.cols[i].ref=[]
   ·rw[Ze1 h3];simp only[Zt1,Ai];cases t.cols[i].unique with|false=>exact hr a ⟨by omega,by omega⟩|true =>have hr':=hr ((a.1.1++[Aai t r t.cols[i] r[i]],nxE a.1.2 (Aai t r t.cols[i] r[i])),a.2) ⟨by simp;omega,by simp only;omega⟩;simp only[Zj1,List.singleton_append] at hr';simp only[Ag,H2];rw[<-hr',eu,<-e2];cases decide (a.1.2=0)<;>cases decide (200<((Aai t r t.cols[i] r[i]).key.length:Int))<;>cases decide (4000<((Fy (pkV t r)).1.length:Int))<;>rfl
   ·rw[Zd1 h3];simp only[Zs1,Ag,Bf7 f hx h3 hv,Zc1,decide_true];cases t.cols[i].unique with|false =>have hr':=hr (a.1,(a.2.1++[Yq t r t.cols[i] r[i]],nxE a.2.2 (Yq t r t.cols[i] r[i]))) ⟨by simp only;omega,by simp;omega⟩;simp only[Zj1,List.singleton_append] at hr';simp only[Ai,H2];rw[<-hr',er,<-e3];cases decide (a.2.2=0)<;>cases decide (200<((Yq t r t.cols[i] r[i]).key.length:Int))<;>rfl|true =>have hr':=hr ((a.1.1++[Aai t r t.cols[i] r[i]],nxE a.1.2 (Aai t r t.cols[i] r[i])),(a.2.1++[Yq t r t.cols[i] r[i]],nxE a.2.2 (Yq t r t.cols[i] r[i]))) ⟨by simp;omega,by simp;omega⟩;simp only[Zj1,List.singleton_append] at hr';simp only[Ag,H2];rw[<-hr',eu,er,<-e2,<-e3];cases decide (a.1.2=0)<;>cases decide (200<((Aai t r t.cols[i] r[i]).key.length:Int))<;>cases decide (4000<((Fy (pkV t r)).1.length:Int))<;>cases decide (a.2.2=0)<;>cases decide (200<((Yq t r t.cols[i] r[i]).key.length:Int))<;>rfl
 ·simp only[N9,Bu,Ai,h2];rw[Zk1 (Zn1 _)];simp only[Gt,G4,List.append_nil,H2]
end
theorem Akm:∀l:List KvS,H2 3 l=3
 |[]=>rfl
 |_::l=>Akm l
theorem R5:∀l:List KvS,H2 0 l=cond (l.all Afw) 0 3
 |[]=>rfl
 |p::l=>by simp only[H2,nxE,eKv,decide_true,Ag,Zv1];cases Afw p with|true=>exact R5 l|false=>exact Akm l
section
variable {t:Tbl}{r:List Val}
theorem Tv:∀(cs:List Col) (vs:List Val),(Gt t r cs vs).length<=cs.length
 |[],_=>by simp[Gt]
 |_::_,[]=>by simp[Gt]
 |c::cs,v::vs=>by have:=Tv cs vs;simp only[Gt,Zf1];cases c.unique && !decide (v.kind=1)<;>simp<;>omega
theorem Ae6:∀(cs:List Col) (vs:List Val),(G4 t r cs vs).length<=cs.length
 |[],_=>by simp[G4]
 |_::_,[]=>by simp[G4]
 |c::cs,v::vs=>by have:=Ae6 cs vs;simp only[G4,Zf1];cases !decide (c.ref=[]) && !decide (v.kind=1)<;>simp<;>omega
def Ks(r:List Val):Prop:=∀v,v∈r->inI v.n=true
theorem Bo8(f:FitR t r)(hb:Ks r)(k:Nat)(hk : 200<k):O0 k (t,r)=some (⟨[Ka t r],eKv (Ka t r)⟩,⟨t.idx.map (Ju t r),H2 0 (t.idx.map (Ju t r))⟩,⟨Gt t r t.cols r,H2 0 (Gt t r t.cols r)⟩,⟨G4 t r t.cols r,H2 0 (G4 t r t.cols r)⟩):=by
 have h1:=f.nkey;have h2:=f.ncols;have h3:=f.len;have h4:=Ga f;have w1:Ayr r=some (Fy r):=A5m (by omega) hb;have w2:Ayr (pkV t r)=some (Fy (pkV t r)):=A5m (by omega) (Ov f f.key _ hb);have j:∀q:Int,Ak (λrec=>Nu rec (λe vz=>match vz with|(v5,v6,_,_,_,a,b,d,g,h,i,m,n,o)=>match e with
    |.exit 0 =>
     (Ayr v6).bind λ(p,_) =>
     Ak (λrec=>N9 rec (λe vz=>match vz with|(_,_,_,_,_,_,_,s,u,v,w,x,y,z,a0)=>match e with
      |.exit 2 =>
      some ((LayS.mk s u),(LayS.mk v w),(LayS.mk x y),(LayS.mk z a0))
      |_=>none)) k (v5,v6,p,a.cols,(a.cols.length:Int),0,a,b,d,g,h,i,m,n,o)
    |_=>none)) k (r,pkV t r,t.idx,(t.idx.length:Int),0,t,[Ka t r],q,[],0,[],0,[],0)=some (⟨[Ka t r],q⟩,⟨t.idx.map (Ju t r),H2 0 (t.idx.map (Ju t r))⟩,⟨Gt t r t.cols r,H2 0 (Gt t r t.cols r)⟩,⟨G4 t r t.cols r,H2 0 (G4 t r t.cols r)⟩):=λq=>by
  refine Aug f (c:=λl e=>some (LayS.mk [Ka t r] q,LayS.mk l e,LayS.mk (Gt t r t.cols r) (H2 0 (Gt t r t.cols r)),LayS.mk (G4 t r t.cols r) (H2 0 (G4 t r t.cols r)))) (λl e =>?_) k hk;simp only[w2,Zc1];exact Aui f (c:=λl2 e2 l3 e3=>some (LayS.mk [Ka t r] q,LayS.mk l e,LayS.mk l2 e2,LayS.mk l3 e3)) (λ_ _ _ _=>rfl) k hk
 have e1:Akz t r t.key=some (pkV t r,(Dl t.cols r t.key []).2):=Azb (by omega) h3;have e2:Ka t r=⟨(Ka t r).key,(Fy r).1⟩:=rfl;have e3:eKv (Ka t r)=nxE 0 (Ka t r):=rfl;have e4:nxE 0 (Ka t r)=cond (decide ((0:Int)=0)) (cond (decide (200<((Ka t r).key.length:Int))) 3 (cond (decide (4000<((Fy r).1.length:Int))) 3 0)) 0:=Biv _ _ _;rw[e3,e4];simp only[O0,e1,Zc1,w1,Mv (show [[114],t.name].length<=4000 by simp),Zw1,List.map_nil,Beu f,decide_true,Ag];rw[<-e2];cases decide (200<((Ka t r).key.length:Int)) with
 |true=>exact j 3
 |false =>cases decide (4000<((Fy r).1.length:Int)) with|true=>exact j 3|false=>exact j 0
def A2x(t:Tbl)(r:List Val):List KvS:=Ka t r::(t.idx.map (Ju t r)++(Gt t r t.cols r++G4 t r t.cols r))
def Asp(t:Tbl)(r:List Val):List KvS×Int:=cond (decide (Gc t r=0)) (cond ((A2x t r).all Afw) (A2x t r,0) ([],3)) ([],Gc t r)
def Bck:List LayS->List KvS->Option (List KvS×Int)
 |[],acc=>some (acc,0)
 |y::l,acc=>cond (decide (y.e=0)) (Bck l (acc++y.l)) (some ([],y.e))
theorem Biw(a:KvS)(x y z:List KvS)(b1 b2 b3 b4:Bool):Bck [⟨[a],cond b1 0 3⟩,⟨x,cond b2 0 3⟩,⟨y,cond b3 0 3⟩,⟨z,cond b4 0 3⟩] []=some (cond (b1&&(b2&&(b3&&b4))) (a::(x++(y++z)),0) ([],3)):=by cases b1<;>cases b2<;>cases b3<;>cases b4<;>simp[Bck]
theorem Bbs{l:List LayS}(hl:l.length<=100)(hs:∀y,y∈l->y.l.length<=200){kx:Ex->Y1->Option (List KvS×Int)}(h1:∀e acc i,kx .ret ([],e,acc,l,(l.length:Int),i)=some ([],e))(h2:∀acc,kx (.exit 0) ([],0,acc,l,(l.length:Int),(l.length:Int))=some (acc,0))(k:Nat)(hk : 200<k) :
  Ak (λrec=>Aax rec kx) k ([],0,[],l,(l.length:Int),0)=Bck l []:=by
 have hln:ln l.length:=by simp only[ln];omega
 refine(Bo (β:=List KvS) l.length (λi acc=>([],0,acc,l,(l.length:Int),(i:Int))) (λi acc=>acc.length<=200*i) (λi acc=>Bck (l.drop i) acc) (λi hi acc ha rec hr =>?_) (λacc _ rec =>?_) k 0 [] (Nat.zero_le _) (by omega) (by simp)).trans (by rw[Zq1])
 ·have hy:=hs _ (List.getElem_mem hi);simp only[Aax,Br hi,Ag,Ao hi,chk,Al (c :=.lay) hi,An hi hln,Ah hi,Bck];rw[Ze1 (show acc.length+l[i].l.length<=Af by simp only[Af];omega),Ag];cases decide (l[i].e=0) with|true=>exact hr _ (by rw[Zh1];omega)|false=>exact h1 _ _ _
 ·simp only[Aax,Bu,Ai,h2];rw[Zk1 (Zn1 _)];rfl
theorem Btx(hf:Axz t r=some (Gc t r))(hb:Ks r)(k:Nat)(hk : 200<k):Rx k (t,r)=some (Asp t r):=by
 simp only[Rx,hf,Zc1,Asp];by_cases h0:Gc t r=0
 ·have f:=Ar2 h0;have l1:=f.nidx;have l2:=Tv (t:=t) (r:=r) t.cols r;have l3:=Ae6 (t:=t) (r:=r) t.cols r;have l4:=f.ncols;rw[Ze1 h0,Zt1,Ai,Ag,Bht,Bo8 f hb 5000 (by omega),Zc1];refine(Bbs (l:=[⟨[Ka t r],eKv (Ka t r)⟩,⟨t.idx.map (Ju t r),H2 0 (t.idx.map (Ju t r))⟩,⟨Gt t r t.cols r,H2 0 (Gt t r t.cols r)⟩,⟨G4 t r t.cols r,H2 0 (G4 t r t.cols r)⟩]) (by simp) (λy hy =>?_) (λ_ _ _=>rfl) (λ_=>rfl) k hk).trans ?_
  ·simp only[List.mem_cons,List.not_mem_nil,or_false] at hy;rcases hy with rfl|rfl|rfl|rfl
   ·simp
   ·simp only[List.length_map];omega
   ·simp only;omega
   ·simp only;omega
  ·have e:eKv (Ka t r)=cond (Afw (Ka t r)) 0 3:=rfl;rw[e,R5,R5,R5,Biw,A2x,Zv1,List.all_append,List.all_append]
 ·rw[Zd1 h0];rfl
theorem Bql(hf:Axz t r=some (Gc t r))(hb:Ks r):Bte t r=some (Asp t r):=Btx hf hb 5000 (by omega)
end
section
variable {t:Tbl}{r:List Val}
theorem Bio(f:FitR t r)(hb:Ks r):Bar (pkV t r)=some (Fy (pkV t r)):=by have:=Ga f;exact A5b (by omega) (Ov f f.key _ hb)
theorem Amx{R:Type}{kx:Ex->Nr->Option R}(f:FitR t r){p:Str}{l0:List EntS}(h0:l0.length<=10){c:List EntS->Option R}(h2:∀l,l.length<=200->kx (.exit 0) (r,pkV t r,p,l,(t.idx.length:Int),t)=c l)(k:Nat)(hk : 200<k) :
  Ak (λrec=>M0 rec kx) k (r,pkV t r,p,l0,0,t)=c (l0++t.idx.map λx=>EntS.mk 2 (Ju t r x)):=by
 have hn:=f.nidx;have hln:ln t.idx.length:=by simp only[ln];omega
 refine(Bo (β:=List EntS) t.idx.length (λi a=>(r,pkV t r,p,a,(i:Int),t)) (λi a=>a.length<=i+10) (λi a=>c (a++(t.idx.drop i).map λx=>EntS.mk 2 (Ju t r x))) (λi hi a ha rec hr =>?_) (λa ha rec =>?_) k 0 l0 (Nat.zero_le _) (by omega) (by omega)).trans (by rw[Zq1])
 ·have hx:=List.getElem_mem hi;have hx2:=(f.idx _ hx).2.1;have q1:=Ga f;have q2:=W2 (cols:=t.cols) (row:=r) hx2;obtain⟨g1,g2⟩:=Aqr f hx;have e:[wV [105],wV t.idx[i].name]++(Dl t.cols r t.idx[i].cols []).1++pkV t r++[]=wV [105]::wV t.idx[i].name::((Dl t.cols r t.idx[i].cols []).1++pkV t r):=by simp
  have d1:Ai2 [Eh [105],Eh t.idx[i].name] (Dl t.cols r t.idx[i].cols []).1 (pkV t r) []=some (wV [105]::wV t.idx[i].name::((Dl t.cols r t.idx[i].cols []).1++pkV t r)):=by rw[<-e];exact Aey (by simp;omega)
  have hr':=hr (a++[EntS.mk 2 (Ju t r t.idx[i])]) (by simp;omega);rw[Zj1,List.singleton_append] at hr';simp only[M0,Br hi,Ag,Ao hi,chk,Al (c :=.idx) hi,An hi hln,Bfh (show t.idx[i].cols.length<=4000 by omega) f.len,Zc1,d1,N1 g1 g2,Ah hi,Zw1];rw[Ze1 (show a.length+1<=Af by simp only[Af];omega),Ag];exact hr'
 ·simp only[M0,Bu,Ai,h2 a (by omega)];rw[Zk1 (Zn1 _),List.map_nil,List.append_nil]
theorem Ame{R:Type}{kx:Ex->Jj->Option R}(f:FitR t r){l0:List EntS}(h0:l0.length<=1000){c:List EntS->Option R}(h2:∀l,kx (.exit 4) (r,pkV t r,(Fy (pkV t r)).1,l,3,(t.cols.length:Int),t)=c l)(k:Nat)(hk : 200<k) :
  Ak (λrec=>Gx rec kx) k (r,pkV t r,(Fy (pkV t r)).1,l0,3,0,t)=c (l0++(Gt t r t.cols r).map λx=>EntS.mk 3 x):=by
 have hn:=f.ncols;have hln:ln t.cols.length:=by simp only[ln];omega
 refine(Bo (β:=List EntS) t.cols.length (λi a=>(r,pkV t r,(Fy (pkV t r)).1,a,3,(i:Int),t)) (λi a=>a.length<=i+1000) (λi a=>c (a++(Gt t r (t.cols.drop i) (r.drop i)).map λx=>EntS.mk 3 x)) (λi hi a ha rec hr =>?_) (λa _ rec =>?_) k 0 l0 (Nat.zero_le _) (by omega) (by omega)).trans (by rw[Zq1,Zq1])
 ·have hi2:i<r.length:=by rw[f.len];exact hi
  have hx:=List.getElem_mem hi;have hv:=List.getElem_mem hi2;have d1:Ai2 [Eh [117],Eh t.name,Eh t.cols[i].name] [r[i]] [] []=some [wV [117],wV t.name,wV t.cols[i].name,r[i]]:=Aey (by simp);have d2:Amf [wV [117],wV t.name,wV t.cols[i].name,r[i]]=some (Aai t r t.cols[i] r[i]).key:=N1 (Ans f hx hv) (by simp);have d4:decide ((3:Int)=4)=false:=rfl;simp only[Gx,Br hi,Ag,Ao hi,Ao hi2,chk,Al (c :=.col) hi,Al (c :=.val) hi2,An hi hln,Ah hi,Ah hi2,Gt,d1,d2,d4,decide_true,Zc1,Ai];rw[Ze1 (show a.length+1<=Af by simp only[Af];omega)];cases t.cols[i].unique with
  |false=>exact hr a (by omega)
  |true =>cases decide (r[i].kind=1) with|true=>exact hr a (by omega)|false =>have hr':=hr (a++[EntS.mk 3 (Aai t r t.cols[i] r[i])]) (by simp;omega);rw[Zj1,List.singleton_append] at hr';exact hr'
 ·simp only[Gx,Bu,Ai,h2];rw[Zk1 (Zn1 _)];simp only[Gt,List.map_nil,List.append_nil]
theorem Amp{R:Type}{kx:Ex->Jj->Option R}(f:FitR t r){l0:List EntS}(h0:l0.length<=1000){c:List EntS->Option R}(h2:∀l,kx (.exit 4) (r,pkV t r,(Fy (pkV t r)).1,l,4,(t.cols.length:Int),t)=c l)(k:Nat)(hk : 200<k) :
  Ak (λrec=>Gx rec kx) k (r,pkV t r,(Fy (pkV t r)).1,l0,4,0,t)=c (l0++(G4 t r t.cols r).map λx=>EntS.mk 4 x):=by
 have hn:=f.ncols;have hln:ln t.cols.length:=by simp only[ln];omega
 refine(Bo (β:=List EntS) t.cols.length (λi a=>(r,pkV t r,(Fy (pkV t r)).1,a,4,(i:Int),t)) (λi a=>a.length<=i+1000) (λi a=>c (a++(G4 t r (t.cols.drop i) (r.drop i)).map λx=>EntS.mk 4 x)) (λi hi a ha rec hr =>?_) (λa _ rec =>?_) k 0 l0 (Nat.zero_le _) (by omega) (by omega)).trans (by rw[Zq1,Zq1])
 ·have hi2:i<r.length:=by rw[f.len];exact hi
  have hx:=List.getElem_mem hi;have hv:=List.getElem_mem hi2;have q1:=Ga f;have e:[wV [102],wV t.cols[i].ref]++[r[i]]++[wV t.name,wV t.cols[i].name]++pkV t r=wV [102]::wV t.cols[i].ref::r[i]::wV t.name::wV t.cols[i].name::pkV t r:=by simp
  have d1:Ai2 [Eh [102],Eh t.cols[i].ref] [r[i]] [Eh t.name,Eh t.cols[i].name] (pkV t r)=some (wV [102]::wV t.cols[i].ref::r[i]::wV t.name::wV t.cols[i].name::pkV t r):=by rw[<-e];exact Aey (by simp;omega)
  have d4:decide ((4:Int)=3)=false:=rfl;simp only[Gx,Br hi,Ag,Ao hi,Ao hi2,chk,Al (c :=.col) hi,Al (c :=.val) hi2,An hi hln,Ah hi,Ah hi2,G4,d1,d4,decide_true,Zc1,Ai];by_cases h3:t.cols[i].ref=[]
  ·rw[Ze1 h3];exact hr a (by omega)
  ·have d2:Amf (wV [102]::wV t.cols[i].ref::r[i]::wV t.name::wV t.cols[i].name::pkV t r)=some (Yq t r t.cols[i] r[i]).key:=N1 (Aam f hx h3 hv).1 (Aam f hx h3 hv).2;rw[Zd1 h3,d2,Ze1 (show a.length+1<=Af by simp only[Af];omega)];cases decide (r[i].kind=1) with|true=>exact hr a (by omega)|false =>have hr':=hr (a++[EntS.mk 4 (Yq t r t.cols[i] r[i])]) (by simp;omega);rw[Zj1,List.singleton_append] at hr';exact hr'
 ·simp only[Gx,Bu,Ai,h2];rw[Zk1 (Zn1 _)];simp only[G4,List.map_nil,List.append_nil]
theorem Bcr{R:Type}{kx:Ex->Jz->Option R}(f:FitR t r){l0:List EntS}(h0:l0.length<=400){C:Option R}(h2:kx (.exit 2) (r,pkV t r,(Fy (pkV t r)).1,l0++((Gt t r t.cols r).map λx=>EntS.mk 3 x)++((G4 t r t.cols r).map λx=>EntS.mk 4 x),5,t)=C)(k:Nat)(hk : 200<k)(m:Nat) :
  Ak (λrec=>Gh k rec kx) (m+3) (r,pkV t r,(Fy (pkV t r)).1,l0,3,t)=C:=by
 have h6:=Tv (t:=t) (r:=r) t.cols r;have h7:=f.ncols;have d3:decide ((3:Int)<=4)=true:=rfl;have d4:decide ((4:Int)<=4)=true:=rfl;have d5:decide ((5:Int)<=4)=false:=rfl;have w3:wr .i64 ((3:Int)+1)=4:=by decide
 have w4:wr .i64 ((4:Int)+1)=5:=by decide
 rw[A0];simp only[Gh,d3,Ag];refine(Ame f (by omega) (c:=λl'=>Ak (λrec=>Gh k rec kx) (m+2) (r,pkV t r,(Fy (pkV t r)).1,l',4,t)) (λl'=>by simp only[w3]) k hk).trans ?_;rw[A0];simp only[Gh,d4,Ag];refine(Amp f (by simp;omega) (c:=λl'=>Ak (λrec=>Gh k rec kx) (m+1) (r,pkV t r,(Fy (pkV t r)).1,l',5,t)) (λl'=>by simp only[w4]) k hk).trans ?_;rw[A0];simp only[Gh,d5,Ai];exact h2
def Bft(t:Tbl)(r:List Val):List EntS:=[EntS.mk 1 (Ka t r)]++(t.idx.map λx=>EntS.mk 2 (Ju t r x))++((Gt t r t.cols r).map λx=>EntS.mk 3 x)++((G4 t r t.cols r).map λx=>EntS.mk 4 x)
theorem Bsg(t:Tbl)(r:List Val):(Bft t r).map EntS.p=A2x t r:=by simp[Bft,A2x,Function.comp_def]
theorem Blq(f:FitR t r)(hb:Ks r)(k:Nat)(hk : 200<k):Kw k (t,r)=some (Bft t r):=by
 have h1:=f.nkey;have h2:=f.ncols;have h3:=f.len;have h4:=Ga f;have h5:=f.nidx;have h6:=Tv (t:=t) (r:=r) t.cols r;have w1:Bar r=some (Fy r):=A5b (by omega) hb;have e:[wV [114],wV t.name]++pkV t r++[]++[]=wV [114]::wV t.name::pkV t r:=by simp
 have d1:Ai2 [Eh [114],Eh t.name] (pkV t r) [] []=some (wV [114]::wV t.name::pkV t r):=by rw[<-e];exact Aey (by simp;omega)
 have d2:Amf (wV [114]::wV t.name::pkV t r)=some (Ka t r).key:=N1 (λv hv=>by
  rcases List.mem_cons.1 hv with rfl|hv
  ·exact Mz.1
  rcases List.mem_cons.1 hv with rfl|hv
  ·exact E6 f.name
  ·exact Tr f v hv) (by simp;omega)
 have d3:dof t r t.key=some (pkV t r):=Bfh (by omega) h3;simp only[Kw,d3,w1,Bio f hb,Zc1,d1,d2];refine(Amx f (l0:=[EntS.mk 1 (Ka t r)]) (by simp) (c:=λl=>some (l++((Gt t r t.cols r).map λx=>EntS.mk 3 x)++((G4 t r t.cols r).map λx=>EntS.mk 4 x))) (λl hl =>?_) k hk).trans ?_
 ·obtain⟨m,hm⟩:∃m,k=m+3:=⟨k-3,by omega⟩;have:=Bcr f (l0:=l) (by omega) (kx:=λe (vz:Jz)=>match vz with|(_,_,_,a,_,_)=>match e with
     |.exit 2 =>some a
     |_=>none) (C:=some (l++((Gt t r t.cols r).map λx=>EntS.mk 3 x)++((G4 t r t.cols r).map λx=>EntS.mk 4 x))) rfl k hk m
  rw[<-hm] at this;exact this
 ·rfl
theorem A13{l:List EntS}(hl:l.length<=4000){kx:Ex->S7->Option (List KvS×Int)}(h1:∀acc i,kx .ret ([],3,l,acc,i)=some ([],3))(h2:∀acc,kx (.exit 0) ([],0,l,acc,(l.length:Int))=some (acc,0))(k:Nat)(hk : 4000<k) :
  Ak (λrec=>Rh rec kx) k ([],0,l,[],0)=some (cond ((l.map EntS.p).all Afw) (l.map EntS.p,0) ([],3)):=by
 have hln:ln l.length:=by simp only[ln];omega
 refine(Bo (β:=List KvS) l.length (λi acc=>([],0,l,acc,(i:Int))) (λi acc=>acc.length=i) (λi acc=>some (cond (((l.drop i).map EntS.p).all Afw) (acc++(l.drop i).map EntS.p,0) ([],3))) (λi hi acc ha rec hr =>?_) (λacc _ rec =>?_) k 0 [] (Nat.zero_le _) (by omega) rfl).trans (by rw[Zq1];rfl)
 ·have hr':=hr (acc++[l[i].p]) (by simp[ha]);simp only[Zj1,List.singleton_append] at hr';have e:Afw l[i].p=(!decide (200<(l[i].p.key.length:Int)) && !decide (4000<(l[i].p.val.length:Int))):=by rw[Afw,<-decide_not,<-decide_not];congr 1<;>exact Zy1.2 (by omega)
  simp only[Rh,Br hi,Ag,Ao hi,chk,Al (c :=.ent) hi,An hi hln,Ah hi,Zw1,Zv1,e];rw[Ze1 (show acc.length+1<=Af by simp only[Af];omega)];cases decide (200<(l[i].p.key.length:Int)) with
  |true=>exact h1 _ _
  |false =>cases decide (4000<(l[i].p.val.length:Int)) with|true=>exact h1 _ _|false=>exact hr'
 ·simp only[Rh,Bu,Ai,h2];rw[Zk1 (Zn1 _)];simp
theorem Bm7(hf:Tf t r=some (Gc t r))(hb:Ks r)(k:Nat)(hk : 4000<k):O2 k (t,r)=some (Asp t r):=by
 simp only[O2,hf,Zc1,Asp];by_cases h0:Gc t r=0
 ·have f:=Ar2 h0;have l1:=f.nidx;have l2:=Tv (t:=t) (r:=r) t.cols r;have l3:=Ae6 (t:=t) (r:=r) t.cols r;have l4:=f.ncols;rw[Ze1 h0,Zt1,Ai,Ag,A2n,Blq f hb 5000 (by omega),Zc1];refine(A13 (l:=Bft t r) (by simp only[Bft,Zh1,List.length_map,List.length_singleton];omega) (λ_ _=>rfl) (λ_=>rfl) k hk).trans ?_;rw[Bsg]
 ·rw[Zd1 h0];rfl
theorem Bhj(hf:Tf t r=some (Gc t r))(hb:Ks r):Bgg t r=some (Asp t r):=Bm7 hf hb 5000 (by omega)
theorem Bld(t:Tbl)(r:List Val):(Asp t r).1.length<=400:=by
 rw[Asp];by_cases h0:Gc t r=0
 ·have f:=Ar2 h0;have l1:=f.nidx;have l2:=Tv (t:=t) (r:=r) t.cols r;have l3:=Ae6 (t:=t) (r:=r) t.cols r;have l4:=f.ncols;rw[Ze1 h0,Ag];cases (A2x t r).all Afw with|false=>simp|true=>simp only[Ag,A2x,Zf1,Zh1,List.length_map];omega
 ·rw[Zd1 h0];simp
end
theorem Bem{l:List KvS}(hl:l.length<=4000)(k:Nat)(hk : 4000<k):Ki k (l,l)=some true:=by
 have hln:ln l.length:=by simp only[ln];omega
 simp only[Ki,decide_true,Zt1,Ai];refine(Ay l.length (λi=>(l,l,false,(i:Int))) (λ_=>some true) (λi hi rec hr =>?_) (λrec =>?_) k 0 (Nat.zero_le _) (by omega)).trans rfl
 ·simp only[Qb,Br hi,Ag,Ao hi,chk,Al (c :=.kv) hi,An hi hln,A5i,Wr,decide_true,Zc1,Zt1,Ai];exact hr
 ·simp only[Qb,Bu,Ai]
theorem A8w{l:List KvS}(hl:l.length<=4000):A32 l l=some true:=Bem hl 5000 (by omega)
mutual
theorem Bab:∀e:Xpr,Aw e=xsz e
 |.mk _ _ _ l=>by simp only[Aw,xsz,esizes_xszs l]
theorem esizes_xszs:∀l:List Xpr,esizes l=xszs l
 |[]=>rfl
 |x::l=>by simp only[esizes,xszs,Bab x,esizes_xszs l]
end
def RM:Nat×Nat:=(1048576,1048576)
section
variable {t:Tbl}{r:List Val}
theorem Bi4(hs:SmTbl RM t)(hx:esizes t.checks<=900000):Ij t=true:=by
 have h1:=hs.cols.1;have h2:=hs.key.1;have h3:=hs.checks.1;have h4:=hs.idx.1;simp only[RM] at h1 h2 h3 h4;have e:∀x,x∈t.checks->Aw x<=2000000:=λx hx=>by have:=A9 hx;omega
 have e2:∀x,x∈t.idx->x.cols.length<=2000000:=λx hx=>by have:=(hs.idx.2 x hx).2.1;simp only[RM] at this;omega
 show((decide (t.cols.length<=2000000)&&(decide (([]:List SetE).length<=2000000)&&(decide (t.key.length<=2000000)&&(decide (t.checks.length<=2000000)&&t.checks.all λe=>decide (Aw e<=2000000)))))&&(decide (t.idx.length<=2000000)&&t.idx.all λx=>decide (x.cols.length<=2000000)))=true;simp only[Zb1,Zg1,Zg2,Zi1];exact⟨⟨by omega,by omega,by omega,by omega,e⟩,by omega,e2⟩
theorem Bou(hs:SmTbl RM t)(hx:esizes t.checks<=900000):FewR t:=by
 have h1:=hs.cols.1;have h2:=hs.key.1;have h5:=hs.name;simp only[RM] at h1 h2 h5;refine⟨⟨?_,?_,?_,?_,?_,?_,?_,?_,?_⟩,λx hx =>?_⟩
 ·simp only[Dj];omega
 ·simp only[Dj];omega
 ·simp[Dj]
 ·simp[Dj]
 ·simp only[Dj,Zi1];omega
 ·simp[Dj,Aw,esizes]
 ·simp only[Dj];omega
 ·simp[Dj]
 ·simp[Dj]
 ·have g:=hs.idx.2 x hx;have g1:=g.1;have g2:=g.2.1;simp only[RM] at g1 g2;refine⟨?_,?_,?_,?_,?_,?_,?_,?_,?_⟩
  ·simp[Bz]
  ·simp only[Bz];omega
  ·simp[Bz]
  ·simp[Bz]
  ·simp only[Bz];omega
  ·simp[Bz,Aw,esizes]
  ·simp[Bz,esizes]
  ·simp[Bz]
  ·simp[Bz]
theorem A8x(hs:Ij t=true)(k:Nat)(hk : 4000<k):Hs k (t,r)=some (Gc t r):=by cases h:Ip t with|false =>simp only[Hs,Ajf,hs,Ag,Zc1,Gc,h];rfl|true =>obtain⟨h1,h2,h3,_⟩:=A76 h;exact Bny (by omega) (by omega) (by omega) hs hk
theorem Bdq(hs:Ij t=true):Axz t r=some (Gc t r):=A8x hs 5000 (by omega)
theorem Awk{kx:Ex->Ru->Option Bool}(hl:r.length<=1048576):∀(k i:Nat) (n:Int),i<=r.length->r.length-i<k->∃m,Ak (λrc=>Xp rc kx) k ([r],n,0,(i:Int))=kx (.exit 2) ([r],m,0,(r.length:Int))
 |0,_,_,_,h=>by omega
 |k+1,i,n,hi,hk=>by
  have hln:ln r.length:=by simp only[ln];omega
  have e:at' .vals [r] 0=r:=rfl;have b:inb 0 [r].length=true:=rfl;rw[A0];simp only[Xp,e,b,chk,Ag];by_cases h:i<r.length
  ·simp only[Br h,Ao h,Ag,An h hln];exact Awk hl k (i+1) _ h (by omega)
  ·obtain rfl:i=r.length:=by omega
   simp only[Bu,Ai];exact⟨n,rfl⟩
theorem Bqt(hl:r.length<=1048576)(k:Nat)(hk : 1100000<k):∃b,Ns k (t,[r])=some b:=by
 obtain⟨m,rfl⟩:∃m,k=m+2:=⟨k-2,by omega⟩;simp only[Ns];have b:inb 0 [r].length=true:=rfl;have d:decide ((0:Int)<([r].length:Int))=true:=rfl;have d2:decide (wr .i64 ((0:Int)+1)<([r].length:Int))=false:=by rw[show wr .i64 ((0:Int)+1)=1 by decide];rfl
 obtain⟨n,hn⟩:=Awk (kx:=λe vz=>match vz with|(v7,v8,v9,_)=>match e with
   |.exit 2 =>
   Ak (λrec=>Sb (m+2) rec (λe vz=>match vz with|(a,c,_)=>match e with
  |.exit 0 =>
  cond (decide (250<=c)) (
   some true) (
   some (decide (24<(a.length:Int))))
  |_=>none)) (m+1) (v7,v8,(wr .i64 (v9+1)))
   |_=>none) hl (m+2) 0 (wr .i64 ((wr .i64 (Aty t 200+1))+(r.length:Int))) (Nat.zero_le _) (by omega)
 rw[A0];simp only[Sb,d,b,chk,Ag];refine⟨cond (decide (250<=n)) true (decide (24<([r].length:Int))),hn.trans ?_⟩;show Ak _ (m+1) _=_;rw[A0];simp only[Sb,d2,Ai];cases decide (250<=n)<;>rfl
theorem Bhw(hl:r.length<=1048576):∃b,Bmp t [r]=some b:=Bqt hl 2000000 (by omega)
end
theorem Awj{H:Type}(d:DataW H) : 1<=Rows.uptoBulk d:=by cases d with|lit l=>cases l<;>simp[Rows.uptoBulk]|_=>simp[Rows.uptoBulk]
theorem Aez{H:Type}:∀{l:List (DataW H)}{d:DataW H},d∈l->Rows.uptoBulk d<=Rows.uptoBulkAll l
 |[],_,h=>by cases h
 |x::l,d,h=>by
  simp only[Rows.uptoBulkAll];rcases List.mem_cons.1 h with rfl|h
  ·omega
  ·have:=Aez h;omega
theorem Apf{H:Type}:∀(l:List (DataW H)),l.length<=Rows.uptoBulkAll l
 |[]=>by simp[Rows.uptoBulkAll]
 |x::l=>by have:=Awj x;have:=Apf l;simp only[Rows.uptoBulkAll,Zf1];omega
theorem Bei{H:Type}(P:Program)(R:Nat):Msr (H:=H) P (R,R) λ_ d=>Rows.uptoBulk d<=R where
 str:=λt s h=>by simp only[Rows.uptoBulk] at h;omega
 sl:=λt e l r hu _ h hl=>by simp only[Rows.uptoBulk] at h;have:=Apf l;exact⟨by omega,λd hd=>by have:=Aez hd;omega⟩
 agg:=λt fds l i fd d hu h hf hd=>by simp only[Rows.uptoBulk] at h;have:=Aez (List.mem_of_getElem? hd);omega
theorem Ti{H:Type}:∀(l:List (DataW H)),Rows.uptoBulkAll l=(l.map Rows.uptoBulk).sum
 |[]=>by simp[Rows.uptoBulkAll]
 |x::l=>by simp[Rows.uptoBulkAll,Ti l]
theorem Bil{H:Type}:Siz (H:=H) Rows.uptoBulk where
 one:=Awj
 sl:=λl r=>by rw[<-Ti,Rows.uptoBulk];omega
 agg:=λl=>by rw[<-Ti,Rows.uptoBulk];omega
theorem Bsy{H:Type}{ds gs:List (DataW H)}(h:Rows.uptoSmall H (ds++gs)=true):(ds.map Rows.uptoBulk).sum<=1048576:=by have h:Rows.uptoBulkAll (ds++gs)<=1048576:=of_decide_eq_true h;rw[Ti,List.map_append,List.sum_append] at h;omega
theorem Bpm{H:Type}{ds:List (DataW H)}(h:Rows.uptoSmall H ds=true){i:Nat}{d:DataW H}(hd:ds[i]? = some d):Rows.uptoBulk d<=1048576:=by have h:Rows.uptoBulkAll ds<=1048576:=of_decide_eq_true h;have:=Aez (List.mem_of_getElem? hd);omega
end Go.Proofs.YtcoaaebppfbbnaaGreatDoor
namespace Go.Ax
open Go.RowKit Go.ChangeShapes Go.WideShapes
section
variable {H:Type}{enc':TypeId×Value->H}{P:Program}{w:World}{base:Nat}{sp:Nat->Bool}{held:Bool}
theorem Av3{t k e:TypeId}{fuel:Nat}{cs:List Value}{ps:List MemPlace}(ht:P.underlying t=some (.map k e))(hk:P.underlying k=some (.int .i64))(he:P.underlying e=some .string){l:List (Int×Str)}(hl:∀p,p∈l->Un l p.1=p.2)(hno:∀n,(∀p,p∈l->p.1≠n)->Un l n=[])(h:DataW.trod enc' P w base sp held fuel t cs=some (.map (l.map λp=>(.int .i64 p.1,.lit (.string p.2))),ps)):∃b es clk,cs=[.map (some b)]/\w.heap[b]? = some (.map es clk)/\A7r l es.toList:=by
 rcases open_anymap ht h with ⟨_,hx⟩|⟨b,es,clock,_,rfl,hb,_,_,_⟩
 ·cases hx
 cases fuel with
 |zero=>simp[DataW.trod] at h
 |succ n =>
  simp only[DataW.trod,ht,hb] at h
  ·split at h
   ·obtain⟨entries,hm,hs⟩:=Option.bind_eq_some_iff.1 h;split at hs
    ·simp[ Zp1] at hs;obtain⟨hs,_⟩:=hs;have hperm:=sorted_perm (entries.map (·.1));rw[hs] at hperm;have hx:∀(x:MapEntry) (y:(Lit×DataW H)×List MemPlace),((keyOf P k x.key).bind λkey=>if x.val.formed P e=true then(DataW.trod enc' P w base sp held n e x.val.cells.toList).map λy=>((key,y.1),y.2) else none)=some y->∃(m:Int) (s:ByteArray),x.key = .int .i64 m/\x.val = .string s/\s.size<=maxLen/\y.1=(.int .i64 m,.lit (.string s.data.toList)):=by
      intro x y hy;obtain⟨key,hk1,hy⟩:=Option.bind_eq_some_iff.1 hy;split at hy
      ·rename_i hfm;obtain⟨z,hz,rfl⟩:=Option.map_eq_some_iff.1 hy;obtain⟨s,hs1,rfl,hs3⟩:=DataW.trod_string he hz;have hv:x.val = .string s:=by
        cases hxv:x.val<;>rw[hxv] at hs1 hfm<;>simp[Value.cells] at hs1
        ·rw[hs1]
        ·simp[Value.formed,he] at hfm
       have hkk:∃m,x.key = .int .i64 m/\key = .int .i64 m:=by
        simp[keyOf] at hk1;cases hxk:x.key<;>rw[hxk] at hk1<;>simp[mapKey,hk] at hk1
        grind
       grind
      ·cases hy
     have hin:∀x,x∈es.toList->∃(m:Int) (s:ByteArray),x.key = .int .i64 m/\x.val = .string s/\s.size<=maxLen/\(m,s.data.toList)∈l:=λx hxm=>by
      obtain⟨i,hi,rfl⟩:=List.getElem_of_mem hxm;obtain⟨y,hy,hf⟩:=Lib.mapM_at hm i _ (Zo1 hi);obtain⟨m,s,h1,h2,h3,h4⟩:=hx _ y hf;refine⟨m,s,h1,h2,h3,?_⟩;have:y.1∈entries.map (·.1):=List.mem_map.2 ⟨y,List.mem_of_getElem? hy,rfl⟩
      grind
     have hout:∀p,p∈l->∃x,x∈es.toList/\x.key = .int .i64 p.1:=λp hp=>by
      have h1:(Lit.int .i64 p.1,DataW.lit (H:=H) (.string p.2))∈entries.map (·.1):=hperm.subset (List.mem_map.2 ⟨p,hp,rfl⟩);obtain⟨y,hy,e⟩:=List.mem_map.1 h1;obtain⟨x,hxm,hf⟩:=mapM_mem hm y hy
      grind
     refine⟨b,es,clock,rfl,hb,λn =>?_⟩;have hik:MapKept.IsKey (.int .i64) (.int .i64 n):=by simp[MapKept.IsKey]
     rcases MapKept.findNow_spec hik es.toList 0 (λx hxm=>by obtain⟨m,s,h1,_⟩:=hin x hxm;rw[h1];simp[MapKept.IsKey]) with ⟨h1,h2⟩|⟨j,x,h1,h2,h3⟩
     ·grind
     ·obtain⟨m,s,g1,g2,g3,g4⟩:=hin x (List.mem_of_getElem? h2);have hmn:m=n:=by grind
      subst hmn;have hg:=hl _ g4
      simp_all
    ·cases hs
   ·cases h
end
theorem Aw9{H:Type}{enc':TypeId×Value->H}{P:Program}{w:World}{base:Nat}{sp:Nat->Bool}{held:Bool}:∀{ts:List TypeId}{vs:List Value}{ds:List (DataW H)}{ps:List MemPlace},DataW.TrodAll enc' P w base sp held ts vs ds ps->ds.length=ts.length:=by intro ts;induction ts with|nil=>intro vs ds ps h;cases vs<;>cases ds<;>simp[DataW.TrodAll] at h ⊢|cons t ts ih =>intro vs ds ps h;obtain⟨v,vs',d,ds',p,q,rfl,rfl,rfl,hd,hrest⟩:=trodAll_cons h;simp[ih hrest]
end Go.Ax
namespace Go.Proofs.YtcoaaebppfbbnaaGreatDoor
open Go.Ax Go.ChangeShapes Go.WideShapes Go.ChangeAt Go.RowKit Go.ChangeMaps
theorem own:ownKnob Tryz.prog.godebug=none:=by kernel_rfl
def rdL:List Nat:=[3,4,9,5,56,109,54,161,112,28,24,22,23,110,43,107,106,59,25,27,30]
theorem Bs8:rdB elT (Aal ttL) rdL=true:=by kernel_rfl
theorem Bt4:szB Tryz.prog elT (Aal ttL) rdL=true:=by kernel_rfl
theorem Bo3:laidOutB Tryz.prog=true:=by kernel_rfl
def GlE(x:Vx)(g:Nat):Gv->Prop
 |.arr c xs=>∀i y,xs[i]? = some y->∀w',Chg x.S x.w w'->At w' c y g (i*csz c)
 |.map l=>∃r es clk,(∀w',Chg x.S x.w w'->w'.cell? ⟨g,0,none⟩=some (.map (some r))/\w'.heap[r]? = some (.map es clk))/\A7r l es.toList
 |.num k=>∃n,∀w',Chg x.S x.w w'->w'.cell? ⟨g,0,none⟩=some (.int k n)
theorem Dc{α:Type}:∀{L:List (Nat×α)}{g:Nat}{v : α},tbl L g=some v->(g,v)∈L
 |[],_,_,h=>by simp[tbl] at h
 |(k,u)::L,g,v,h=>by
  simp[tbl] at h;split at h
  ·simp_all
  ·exact Zu1 _ (Dc h)
theorem Bq3{x:Vx}{L:List (Nat×Gv)}(h:∀p,p∈L->GlE x p.1 p.2):GlR x (tbl L) :=⟨λ_ _ _ hg=>h _ (Dc hg),λ_ _ hg=>h _ (Dc hg),λ_ _ hg=>h _ (Dc hg)⟩
theorem Axx{P:Program}{w:World}:∀{l:List (String×DataW Unit)}{ps:List MemPlace},DataW.LaidVars P w l ps->∀x,x∈l->∃g t cs fuel p,P.globalNamed x.1=some g/\(P.globals[g]?).map (·.type)=some t/\w.var? P x.1=some cs/\DataW.trod (λ_=>()) P w 0 (λ_=>true) false fuel t cs.toList=some (x.2,p)
 |[],_,_,x,hx=>by cases hx
 |(n,d)::r,ps,h,x,hx=>by
  obtain⟨g,t,cs,fuel,p,q,h1,h2,h3,h4,h5,_⟩:=h;rcases List.mem_cons.1 hx with rfl|hx
  ·grind
  ·exact Axx h5 x hx
theorem Bne:∀p,p∈signsL->Un signsL p.1=p.2:=by decide
theorem Bpl(l:List (Int×Str)):∀n,(∀p,p∈l->p.1≠n)->Un l n=[]:=by
 induction l with
 |nil=>intro n _;rfl
 |cons p l ih =>
  intro n h;obtain⟨k,s⟩:=p;have h1:k≠n:=h (k,s) (by simp);simp[Un,Zd1 h1]
  grind
theorem Bdd{W:World}{l:List (String×DataW Unit)}(h:laidMet Tryz.prog l W)(hin:("exchequer/ast.signs",Rows.laid_exchequer_ast_signs)∈l):GlE (v0 elT C1 W) 2 (.map signsL):=by
 obtain⟨ps,hl,_⟩:=h;obtain⟨g',t',cs,fuel,p,hg',ht',hvar,hd⟩:=Axx hl _ hin;obtain rfl:=Option.some.inj ((show Tryz.prog.globalNamed "exchequer/ast.signs" = some 2 by kernel_rfl).symm.trans hg');obtain rfl:=Option.some.inj ((show(Tryz.prog.globals[2]?).map (·.type)=some 292 by kernel_rfl).symm.trans ht');obtain⟨b,es,clk,h1,h2,h3⟩:=Av3 (l:=signsL) (t:=292) (k:=3) (e:=9) (by kernel_rfl) (by kernel_rfl) (by kernel_rfl) Bne (Bpl signsL) hd;have hc:=World.var?_cell hg' hvar 0;have h1':cs = #[.map (some b)]:=by grind
 rw[h1'] at hc;have hlt:b<W.heap.size:=(Zh2.1 h2).1;exact⟨b,es,clk,λw' hw=>⟨hw.cell _ 0 _ hc (λh=>h),by rw[hw.block b hlt (λ_ h=>h)];exact h2⟩,h3⟩
theorem Bm8{W:World}(h:W.ShapedOpen Tryz.prog):GlE (v0 elT C1 W) 0 (.num .i64):=by obtain⟨m,hm⟩:=Go.Proofs.cell_of_shapedOpen_int (zero := #[.int .i64 0]) (t:=3) (g:=0) h (of_decide_eq_true (by kernel_rfl)) (by kernel_rfl) rfl (by kernel_rfl) (by kernel_rfl) Tryz.underlying3;exact⟨m,λw' hw=>hw.cell _ 0 _ hm (λh=>h)⟩
def Brr(l:List (String×DataW Unit)):Prop:=(l.all λx=>x.2.handleName?.isNone)=true
 /\ ("exchequer/ast.signs",Rows.laid_exchequer_ast_signs)∈l
 /\ True
theorem Bok{W:World}{l:List (String×DataW Unit)}(hl:Brr l)(hL:laidMetH Tryz.prog l W)(hS:W.ShapedOpen Tryz.prog):GlR (v0 elT C1 W) glT:=by
 have hL':laidMet Tryz.prog l W:=by
  have hf:(l.filter λx=>x.2.handleName?.isSome)=[]:=List.filter_eq_nil_iff.2 λx hx=>by have:=Zg2.1 hl.1 x hx;rw[Option.isNone_iff_eq_none] at this;simp[this]
  unfold laidMetH at hL;rw[hf] at hL;exact hL
 replace hl:=hl.2;clear hL;have _:=hS;refine Bq3 λp hp =>?_;have hsigns:=Bdd hL' hl.1;replace hl:=hl.2;have hmax:=Bm8 hS;simp only[List.mem_cons,List.not_mem_nil,or_false] at hp
 repeat' (first|(rcases hp with rfl|hp)|subst hp)
 all_goals assumption
def Bvt:DataW Unit->Value
 |.lit (.int k n) =>.int k n
 |.lit (.string s) =>.string ⟨s.toArray⟩
 |_ =>.int .u8 0
def Ama:DataW Unit->List Value
 |.agg l=>l.map Bvt
 |_=>[]
def Buc:DataW Unit->List Value
 |.agg l=>l.flatMap Ama
 |_=>[]
def A3u(vs:List Value):Obj->Obj
 |.cells _ t frozen =>.cells vs.toArray t frozen
 |o=>o
noncomputable def Bfr(h:Array Obj):Array Obj :=
 let h:=(h.modify 4 (A3u (Ama Rows.laid_unicode_utf8_first))).modify 5 (A3u (Buc Rows.laid_unicode_utf8_acceptRanges));let h:=(h.modify 2 (A3u [.map (some h.size)])).push (.map ((signsL.zip (List.range 11)).map λp=>(⟨.int .i64 p.1.1,.string ⟨p.1.2.toArray⟩,p.2⟩:MapEntry)).toArray 11)
 h
noncomputable def Abs(os:Os):World :={ World.holding Tryz.prog os ⟨#[], #[],[]⟩ with heap:=Bfr (World.holding Tryz.prog os ⟨#[], #[],[]⟩).heap }
set_option maxRecDepth 100000 in
theorem A4a{H:Type}{R:Nat×Nat}{M:TypeId->DataW H->Prop}(hM:Msr Tryz.prog R M){enc:TypeId×Value->H}{f:FuncId}{fn:Func}{sa:List Sg}{F:FT sa [.bool]}{s:ChangeSpec}(hok:FnOk Tryz.prog elT glT f sa [.bool] F){Z:HV sa->Prop}(hF:∀x,BdL sa x->SmL R sa x->Z x->F x=some true)
  (hr:fn.resultTypes = #[4]) (hv:s.vars=[]) (hf:∀ds,ds.length=fn.params.toList.length->(s.fn H ds).results=[.lit (.bool true)]/\(s.fn H ds).args=ds/\(s.fn H ds).vars=[])
  (hsg:Ank (Aal ttL) rdL fn.params.toList sa=true) (hread:(fn.params.toList.all λt=>Tryz.prog.readableRec t&&Nat.blt t Tryz.prog.types.size)=true)
  {W:World}{base:Nat}{args:Array Value}{ds gs:List (DataW H)}{before:List MemPlace}(hval:∀(j:Nat) t v,fn.params[j]? = some t->args[j]? = some v->Value.okWide Tryz.prog W .any base t v)
  (hW:DataW.Whole enc Tryz.prog fn.params.toList s.vars false W args.toList ds gs before) (hgl:GlR (v0 elT C1 W) glT) (hsz:ds.length=fn.params.toList.length->∀(i:Nat) (t:TypeId) (d:DataW H),fn.params.toList[i]? = some t->ds[i]? = some d->M t d) (hZ:∀x,(∀m,Siz m->szL sa x<=(ds.map m).sum)->Z x) :
  Calls Tryz.prog f args W λe W'=>∃v,e = .returned v/\s.post enc Tryz.prog fn false true false false W args v W':=by
 have hW':=hW;have hlt:=hW.lt;obtain⟨p,q,hA,hV,rfl,hfz,hnd⟩:=hW;rw[hv] at hV;obtain⟨rfl,rfl⟩:=trodVars_none hV;have hlen:=Aw9 hA;obtain⟨x,hx,hsm,hxz⟩:=Av0 hM (λt=>Apo Ab7 t) Bs8 Bt4 0 hsg (λj t v h1 h2=>hval j t v (by simpa using h1) (by simpa using h2)) hA;have hcall:=hok.calls (hF x (Y8 hx) (hsm (hsz hlen)) (hZ x hxz)) hgl hx;have e1:args.toList.toArray=args:=by simp
 rw[e1] at hcall;refine hcall.mono λen W' =>?_;rintro⟨rfl,hb⟩;refine⟨_,rfl,?_⟩;obtain⟨h1,h2,h3⟩:=hf ds hlen;have e2:ds++([]:List (DataW H))=ds:=by simp
 refine⟨ds,[],_,[],p,[],hW',?_,?_,?_,hb.frame _,λh=>by cases h⟩
 ·rw[e2,h1,hr];exact trodAll_cons_mk (shut_bool Tryz.underlying4 _) trodAll_mk0
 ·rw[e2,h2];refine Aqd Bo3 hb (λt ht =>?_) (λx hx=>hlt x (by simp[hx])) hA;have:=Zg2.1 hread t ht;simp at this;exact⟨this.1,by simpa using this.2⟩
 ·rw[e2,h3,hv];exact rfl
end Go.Proofs.YtcoaaebppfbbnaaGreatDoor
