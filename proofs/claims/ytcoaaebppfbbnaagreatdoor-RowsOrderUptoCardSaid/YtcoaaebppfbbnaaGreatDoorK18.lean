/- Texts of the proof,one behind the other: AxFr,Mu,Zg,Rq,Rr,Opa,Op,Zp,Rwd,Ros,Zd,RoB,LRo,Zs,Zt,Zu,Zo,Trn,Ti,Tj,Tk,Trl,Trm,Tro,Dba,Dbb,Dbc,Dbd,Roc,Rod,Roe,Rog,Zn,Zx,Roh,Roj,Ub,AxFs,FrG. -/
import Derived.Test.YtcoaaebppfbbnaaGreatDoorK17
import Derived.ChangeArms
import Derived.WideShapes
import Derived.Carry
import Derived.ChangeShapes
import Derived.Lib.LaidTab
import Derived.SizedLaws
import Derived.Test.YtcoaaebppfbbnaaGreatDoorRows
import Derived.ProofKit
import Derived.ChangeMaps5
import Derived.ChangeAnyMap
import Derived.Test.YtcoaaebppfbbnaaGreatDoorCards
import Derived.Test.YtcoaaebppfbbnaaGreatDoorTie
import Derived.OpenShut
import Derived.Deep.DeepHandedRow
import Derived.Shelf.Vars
set_option linter.all false
namespace Go.Ax
open Go.RowKit Go.ChangeShapes
def shp:D->D->Bool
 |.int k _,.int k' _=>decide (k=k')
 |.bool _,.bool _=>true
 |.str _,.str _=>true
 |.sl c _ _,.sl c' _ _=>decide (c=c')
 |_,_=>false
def Ij:List D->List D->Bool
 |[],[]=>true
 |a::l,b::m=>shp a b&&Ij l m
 |_,_=>false
theorem Btm{a b c:D}(h:shp a b=true)(k:shp a c=true):shp b c=true:=by cases a<;>cases b<;>simp[shp] at h<;>cases c<;>simp[shp] at k<;>subst_vars<;>simp[shp]
theorem A7x:∀{a b c:List D},Ij a b=true->Ij a c=true->Ij b c=true
 |[],[],[],_,_=>rfl
 |x::a,y::b,z::c,h,k=>by simp only[Ij,Zb1] at h k ⊢;exact⟨Btm h.1 k.1,A7x h.2 k.2⟩
 |[],_::_,_,h,_=>by simp[Ij] at h
 |_::_,[],_,h,_=>by simp[Ij] at h
 |[],[],_::_,_,k=>by simp[Ij] at k
 |_::_,_::_,[],_,k=>by simp[Ij] at k
theorem Afj:∀{a b c d:List D},Ij a b=true->Ij c d=true->Ij (a++c) (b++d)=true
 |[],[],_,_,_,k=>k
 |_::a,_::b,_,_,h,k=>by simp only[Ij,Zb1,Zb2] at h ⊢;exact⟨h.1,Afj h.2 k⟩
 |[],_::_,_,_,h,_=>by simp[Ij] at h
 |_::_,[],_,_,h,_=>by simp[Ij] at h
theorem A55{k:IntKind}{n:Int}{d:D}(h:shp (.int k n) d=true):∃m,d = .int k m:=by
 cases d<;>simp[shp] at h
 subst h;exact⟨_,rfl⟩
theorem Bha{b:Bool}{d:D}(h:shp (.bool b) d=true):∃m,d = .bool m:=by
 cases d<;>simp[shp] at h
 exact⟨_,rfl⟩
theorem A8e{s:Str}{d:D}(h:shp (.str s) d=true):∃m,d = .str m:=by
 cases d<;>simp[shp] at h
 exact⟨_,rfl⟩
theorem Bi7{c:Ck}{xs:List (El c)}{t:Tk}{d:D}(h:shp (.sl c xs t) d=true):∃ys u,d = .sl c ys u:=by
 cases d<;>simp[shp] at h
 subst h;exact⟨_,_,rfl⟩
theorem Ss{a:D}{l ds:List D}(h:Ij (a::l) ds=true):∃b m,ds=b::m/\shp a b=true/\Ij l m=true:=by cases ds with|nil=>simp[Ij] at h|cons b m =>simp only[Ij,Zb1] at h;exact⟨b,m,rfl,h.1,h.2⟩
theorem Zm{ds:List D}(h:Ij [] ds=true):ds=[]:=by cases ds with|nil=>rfl|cons b m=>simp[Ij] at h
theorem Aq0{c:Ck}{z ds:List D}(h:(dec c z).isSome=true)(hs:Ij z ds=true):∃y,dec c ds=some y:=by
 obtain⟨y0,h⟩:=Option.isSome_iff_exists.1 h;unfold dec at h;split at h;all_goals first
  |(cases h;done)
  |skip
 all_goals
  clear h
  repeat (
   obtain⟨b,m,e,h1,hs'⟩:=Ss hs;clear hs;have hs:=hs';clear hs';subst e
   first
    |(obtain⟨_,e⟩:=A55 h1;subst e)
    |(obtain⟨_,e⟩:=Bha h1;subst e)
    |(obtain⟨_,e⟩:=A8e h1;subst e)
    |(obtain⟨_,_,e⟩:=Bi7 h1;subst e))
  have e:=Zm hs;subst e;exact⟨_,rfl⟩
def Avg(R:Nat×Nat)(v:Val):Prop:=v.s.length<=R.1
inductive SmExpr (R:Nat×Nat):Xpr->Prop
 |mk (k:Int) (v:Val) (nm:Str) (l:List Xpr):Avg R v->nm.length<=R.1->l.length<=R.2->(∀e,e∈l->SmExpr R e)->SmExpr R (.mk k v nm l)
structure SmStm (R:Nat×Nat) (s:Stm):Prop where
 name:s.name.length<=R.1
 on:s.on.length<=R.1
 cols:s.cols.length<=R.2/\∀c,c∈s.cols->c.name.length<=R.1/\c.ref.length<=R.1
 names:s.names.length<=R.2/\∀x,x∈s.names->x.length<=R.1
 l:s.l.length<=R.2/\∀x,x∈s.l->SmExpr R x
 rows:s.rows.length<=R.2/\∀r,r∈s.rows->r.length<=R.2/\∀x,x∈r->SmExpr R x
 sets:s.sets.length<=R.2/\∀x,x∈s.sets->x.name.length<=R.1/\SmExpr R x.e
 whr:SmExpr R s.whr
 order:s.order.length<=R.2/\∀x,x∈s.order->x.length<=R.1
 desc:s.desc.length<=R.2
def Bsk(R:Nat×Nat)(x:Idx):Prop:=x.name.length<=R.1/\x.cols.length<=R.2/\∀s,s∈x.cols->s.length<=R.1
structure SmTbl (R:Nat×Nat) (t:Tbl):Prop where
 name:t.name.length<=R.1
 cols:t.cols.length<=R.2/\∀c,c∈t.cols->c.name.length<=R.1/\c.ref.length<=R.1
 key:t.key.length<=R.2/\∀x,x∈t.key->x.length<=R.1
 checks:t.checks.length<=R.2/\∀x,x∈t.checks->SmExpr R x
 idx:t.idx.length<=R.2/\∀x,x∈t.idx->Bsk R x
def Br7(R:Nat×Nat)(r:ResS):Prop:=r.rows.length<=R.2/\∀l,l∈r.rows->l.length<=R.2/\∀x,x∈l->Avg R x
def SmK(R:Nat×Nat):(c:Ck)->El c->Prop
 |.str,s=>s.length<=R.1
 |.val,v=>Avg R v
 |.tok,t=>t.s.length<=R.1
 |.col,c=>c.name.length<=R.1/\c.ref.length<=R.1
 |.expr,e=>SmExpr R e
 |.vals,l=>l.length<=R.2/\∀x,x∈l->Avg R x
 |.exprs,l=>l.length<=R.2/\∀x,x∈l->SmExpr R x
 |.strs,l=>l.length<=R.2/\∀x,x∈l->x.length<=R.1
 |.set,s=>s.name.length<=R.1/\SmExpr R s.e
 |.stmt,s=>SmStm R s
 |.idx,x=>Bsk R x
 |.tbl,t=>SmTbl R t
 |.res,r=>Br7 R r
 |.outc,o=>o.l.length<=R.2/\∀r,r∈o.l->Br7 R r
 |_,_=>True
def SmD(R:Nat×Nat):D->Prop
 |.str l=>l.length<=R.1
 |.sl c xs _=>xs.length<=R.2/\∀x,x∈xs->SmK R c x
 |_=>True
def SmS(R:Nat×Nat):(s:Sg)->den s->Prop
 |.str,s=>s.length<=R.1
 |.sl c _,xs=>xs.length<=R.2/\∀x,x∈xs->SmK R c x
 |.sv c,x=>SmK R c x
 |_,_=>True
def SmL(R:Nat×Nat):(l:List Sg)->HV l->Prop
 |[],_=>True
 |[a],x=>SmS R a x
 |a::b::l,(x,y)=>SmS R a x/\SmL R (b::l) y
theorem Bmb{R:Nat×Nat}{c:Ck}{ds:List D}{y:El c}(h:dec c ds=some y)(hd:∀d,d∈ds->SmD R d):SmK R c y:=by
 unfold dec at h;split at h<;>simp only[Za1,reduceCtorEq] at h<;>subst h<;>simp only[List.mem_cons,List.not_mem_nil,or_false,forall_eq_or_imp,forall_eq,SmD] at hd<;>simp only[SmK,Avg]<;>first
  |trivial
  |exact hd
  |exact hd.1
  |exact hd.2.2
  |exact hd.2.2.1
  |exact⟨hd.1,hd.2.2.2.2⟩
  |exact .mk _ _ _ _ hd.2.2.2.1 hd.2.2.2.2.1 hd.2.2.2.2.2.1 hd.2.2.2.2.2.2
  |exact⟨hd.1,.mk _ _ _ _ hd.2.2.2.2.1 hd.2.2.2.2.2.1 hd.2.2.2.2.2.2.1 hd.2.2.2.2.2.2.2⟩
  |exact⟨hd.1,hd.2.1,hd.2.2.1,hd.2.2.2.1,hd.2.2.2.2⟩
  |(obtain⟨_,h1,h2,h3,h4,h5,h6,h7,_,_,_,_,w1,w2,w3,h8,h9,_⟩:=hd
    exact⟨h1,h2,h3,h4,h5,h6,h7,.mk _ _ _ _ w1 w2 w3.1 w3.2,h8,h9.1⟩)
structure Msr {H:Type}(P:Program) (R:Nat×Nat) (M:TypeId->DataW H->Prop):Prop where
 str:∀(t:TypeId) (s:List UInt8),M t (.lit (.string s))->s.length<=R.1
 sl:∀(t e:TypeId) (l r:List (DataW H)),P.underlying t=some (.slice e)->1<=P.bytesOf e->M t (.slice l r)->l.length<=9223372036854775807->l.length<=R.2/\∀d,d∈l->M e d
 agg:∀(t:TypeId) (fds:Array Field) (l:List (DataW H)) (i:Nat) (fd:Field) (d:DataW H),P.underlying t=some (.struct fds)->M t (.agg l)->fds[i]? = some fd->l[i]? = some d->M fd.type d
mutual
def xsz:Xpr->Nat
 |.mk _ _ _ l=>1+xszs l
def xszs:List Xpr->Nat
 |[]=>0
 |x::l=>1+xsz x+xszs l
end
def szD:D->Nat
 |.sl .expr xs _=>2*xszs xs
 |_=>0
def Ajp(ds:List D):Nat:=(ds.map szD).sum+ds.length
def szK:(c:Ck)->El c->Nat
 |.expr,e=>2*(1+xsz e)
 |.tbl,t=>2*xszs t.checks
 |_,_=>0
theorem Bgu{c:Ck}{ds:List D}{y:El c}(h:dec c ds=some y):szK c y<=Ajp ds:=by unfold dec at h;split at h<;>simp only[Za1,reduceCtorEq] at h<;>subst h<;>simp only[szK,Nat.zero_le]<;>simp[Ajp,szD,xsz]<;>omega
structure Siz {H:Type}(m:DataW H->Nat):Prop where
 one:∀d,1<=m d
 sl:∀l r,(l.map m).sum+1<=m (.slice l r)
 agg:∀l,(l.map m).sum<=m (.agg l)
theorem Axx{H:Type}{m:DataW H->Nat}{c:Ck}:∀(ys:List (El c)) (es:List (DataW H)),ys.length=es.length->(∀(i:Nat) y e,ys[i]? = some y->es[i]? = some e->szK c y<=m e)->szD (.sl c ys .no)<=(es.map m).sum
 |[],_,_,_=>by cases c<;>simp[szD,xszs]
 |y::ys,[],h,_=>by simp at h
 |y::ys,e::es,h,k=>by have h1:=k 0 y e rfl rfl;have h2:=Axx ys es (by simpa using h) λi y e hy he=>k (i+1) y e (by simpa using hy) (by simpa using he);cases c<;>simp only[szD,szK,xszs,Zw1,List.sum_cons] at h1 h2 ⊢ <;> omega
def zc(t:Ty):List D:=match t.zero with|some z=>cells z|none=>[]
def Agu(tt:Nat->Ty)(rd:List Nat):Nat->List (Nat×Nat)->List D->Bool
 |_,[],z=>z.isEmpty
 |o,(o',u)::fs,z=>Nat.beq o' o&&rd.contains u&&Nat.ble (zc (tt u)).length z.length&&Ij (zc (tt u)) (z.take (zc (tt u)).length)&&Agu tt rd (o+(zc (tt u)).length) fs (z.drop (zc (tt u)).length)
def Bfe(el:Ck->TypeId)(tt:Nat->Ty)(rd:List Nat)(t:Nat):Bool:=match tt t with|.int _|.bool|.str=>true|.sl c=>rd.contains (el c)&&(dec c (zc (tt (el c)))).isSome|.st _ fs z=>Agu tt rd 0 fs z|_=>false
def rdB(el:Ck->TypeId)(tt:Nat->Ty)(rd:List Nat):Bool:=rd.all λt=>Bfe el tt rd t&&Nat.beq (zc (tt t)).length (tt t).n
def szB(P:Program)(el:Ck->TypeId)(tt:Nat->Ty)(rd:List Nat):Bool:=rd.all λt=>match tt t with|.sl c=>Nat.ble 1 (P.bytesOf (el c))|_=>true
theorem Ad0{α:Type}{p:Nat->α->Prop}:∀(n:Nat),(∀i,i<n->∃y,p i y)->∃ys:List α,ys.length=n/\∀i y,ys[i]? = some y->p i y
 |0,_=>⟨[],rfl,by simp⟩
 |n+1,h=>by
  obtain⟨ys,h1,h2⟩:=Ad0 n (λi hi=>h i (by omega));obtain⟨y,hy⟩:=h n (by omega);refine⟨ys++[y],by simp[h1],λi z hz =>?_⟩;rcases Nat.lt_trichotomy i n with hi|rfl|hi
  ·rw[List.getElem?_append_left (by omega)] at hz;exact h2 i z hz
  ·rw[List.getElem?_append_right (by omega),h1] at hz;simp at hz;subst hz;exact hy
  ·rw[List.getElem?_eq_none (by simp;omega)] at hz;cases hz
section
variable {H:Type}{enc':TypeId×Value->H}{P:Program}{el:Ck->TypeId}{tt:Nat->Ty}{rd:List Nat}{w:World}{sp:Nat->Bool}{held:Bool}
theorem Vn{t:TypeId}{n:Nat}(h:Sx.tySz P t=some n):P.cellsOf t=n:=by unfold Sx.tySz at h;simp[Program.cellsOf,h]
theorem Aib{a:Addr}{n:Nat}{vs:List Value}(h:w.cells? 0 a n=some vs):vs.length=n/\∀j u,vs[j]? = some u->w.cell? (a.add j)=some u:=by
 unfold World.cells? at h;simp only[Nat.zero_le,if_true] at h;refine⟨by simpa using Lib.mapM_length h,λj u hj =>?_⟩;have hlt:j<n:=by have:=Lib.mapM_length h;have h2:=(Zi2.1 hj).1;simp at this;omega
 obtain⟨u',hu,hf⟩:=Lib.mapM_at h j j (by simp[hlt]);rw[hj] at hu;simp only[Za1] at hu;subst hu;exact hf
theorem A40{a:Addr}{u:Value}(h:w.cell? a=some u):a.spot=none:=by
 unfold World.cell? at h;split at h
 ·split at h
  ·cases h
  ·rename_i hs;cases hq:a.spot with|none=>rfl|some q=>rw[hq] at hs;simp at hs
 ·cases h
theorem Aus{R:Nat×Nat}{M:TypeId->DataW H->Prop}(hM:Msr P R M)(hT:∀t,B9 P el tt t=true)(hrd:rdB el tt rd=true)(hsb:szB P el tt rd=true):∀(fuel:Nat) (t:TypeId) (cs:List Value) (x:DataW H×List MemPlace),rd.contains t=true->DataW.trod enc' P w 0 sp held fuel t cs=some x->∃ds,Ij (zc (tt t)) ds=true/\Reps (v0 el Ca w) ds cs/\(M t x.1->∀d,d∈ds->SmD R d)/\∀m,Siz m->Ajp ds<=m x.1
 |0,t,cs,x,_,h=>by simp[DataW.trod] at h
 |fuel+1,t,cs,x,hc,h=>by
  have hloc:=Zg2.1 hrd t (by simpa using hc);simp only[Zb1] at hloc;obtain⟨hloc,hzl⟩:=hloc;have hzl:=Zl1 hzl;have hszB:=Zg2.1 hsb t (by simpa using hc);unfold Bfe at hloc;split at hloc
  ·rename_i k hty;have hu:=Sx.tyI_spec (Ahw (hT t) hty);obtain⟨n,rfl,_,hw⟩:=DataW.trod_int hu h;refine⟨[.int k n],by(rw[hty];show(decide (k=k)&&true)=true;simp),?_,λ_ d hd=>by simp only[List.mem_singleton] at hd;subst hd;trivial,λm hm=>by simpa[Ajp,szD] using hm.one _⟩;simp only[Reps,Rep];exact⟨_,_,rfl,⟨rfl,hw⟩,rfl⟩
  ·rename_i hty;have hu:=Sx.tyB_spec (Ac7 (hT t) hty);obtain⟨b,rfl,_⟩:=DataW.trod_bool hu h;refine⟨[.bool b],by rw[hty];rfl,?_,λ_ d hd=>by simp only[List.mem_singleton] at hd;subst hd;trivial,λm hm=>by simpa[Ajp,szD] using hm.one _⟩;simp only[Reps,Rep];exact⟨_,_,rfl,rfl,rfl⟩
  ·rename_i hty;have hu:=Sx.tyS_spec (G6 (hT t) hty);obtain⟨s,rfl,rfl,hs⟩:=DataW.trod_string hu h;refine⟨[.str s.data.toList],by rw[hty];rfl,?_,λhwt d hd=>by simp only[List.mem_singleton] at hd;subst hd;exact hM.str _ _ hwt,λm hm=>by simpa[Ajp,szD] using hm.one _⟩
   simp only[Reps,Rep];exact⟨_,_,rfl,⟨(by rw[Array.toArray_toList]),(by rw[Array.length_toList];exact hs)⟩,rfl⟩
  ·rename_i c hty;simp only[Zb1] at hloc;obtain⟨hel,hdec⟩:=hloc;have hbz : 1<=P.bytesOf (el c):=by rw[hty] at hszB;exact Nat.le_of_ble_eq_true hszB
   obtain⟨by_,hE,_,_⟩:=Cl (hT t) hty;have hu:=hE.und;obtain⟨_,i0,z,hi0,hz,hsz,_⟩:=hE;have hco:P.cellsOf (el c)=csz c:=Vn (by simp[Sx.tySz,hi0,hsz]);rcases DataW.trod_slice hu h with ⟨rfl,_⟩|⟨a,len,cap,elems,rest,n,hf,rfl,rfl,_,hle,hmax,hlen,hel2,_⟩
   ·refine⟨[.sl c [] .no],by(rw[hty];show(decide (c=c)&&true)=true;simp),?_,λ_ d hd=>by
     simp only[List.mem_singleton] at hd;subst hd;exact⟨Nat.zero_le _,λx hx=>by cases hx⟩,λm hm=>by
     have h0:szD (.sl c [] .no)=0:=by cases c<;>rfl
     simpa[Ajp,h0] using hm.one _⟩
    simp only[Reps,Rep];exact⟨_,_,rfl,⟨λ_ _ =>.nil _ _ _ _ trivial,trivial⟩,rfl⟩
   ·have hf:fuel=n:=by omega
    subst hf;have each:∀i,i<len->∃y:El c,(∃vs:List Value,w.cells? 0 (a.add (i*csz c)) (csz c)=some vs/\ElR (v0 el Ca w) c y vs)/\(M t (DataW.slice (elems.map (·.1)) (rest.map (·.1)))->SmK R c y)/\∀m e,Siz m->elems[i]? = some e->szK c y<=m e.1:=λi hi=>by have h1:=hel2 i hi;have hsome:∃e,elems[i]? = some e:=⟨_,Zo1 (by omega)⟩;obtain⟨e,he⟩:=hsome;rw[he] at h1;obtain⟨vs,hv,ht⟩:=Option.bind_eq_some_iff.1 h1;rw[hco] at hv;obtain⟨ds,hs,hr,hsm,hsz⟩:=Aus hM hT hrd hsb fuel (el c) vs e hel ht;obtain⟨y,hy⟩:=Aq0 hdec hs;exact⟨y,⟨vs,hv,Pz hy hr⟩,λhwt=>Bmb hy (hsm ((hM.sl _ _ _ _ hu hbz hwt (by have:maxLen=9223372036854775807:=rfl;simp only[List.length_map];omega)).2 e.1 (List.mem_map.2 ⟨e,List.mem_of_getElem? he,rfl⟩))),λm e' hm he'=>by rw[he] at he';cases he';exact Nat.le_trans (Bgu hy) (hsz m hm)⟩
    obtain⟨ys,hyl,hys'⟩:=Ad0 len each;have hys:=λi y hy=>(hys' i y hy).1;refine⟨[.sl c ys .no],by(rw[hty];show(decide (c=c)&&true)=true;simp),?_,λhwt d hd=>by
     simp only[List.mem_singleton] at hd;subst hd;refine⟨?_,λy hy =>?_⟩
     ·have:=(hM.sl _ _ _ _ hu hbz hwt (by have:maxLen=9223372036854775807:=rfl;simp only[List.length_map];omega)).1;simp only[List.length_map] at this;omega
     ·obtain⟨i,hi,rfl⟩:=List.getElem_of_mem hy;exact(hys' i _ (Zo1 hi)).2.1 hwt,λm hm=>by
     have h1:=Axx (m:=m) ys (elems.map (·.1)) (by simp;omega) λi y e hy he=>by rw[List.getElem?_map] at he;obtain⟨e',he',rfl⟩:=Option.map_eq_some_iff.1 he;exact(hys' i y hy).2.2 m e' hm he'
     have h2:=hm.sl (elems.map (·.1)) (rest.map (·.1));simp only[Ajp,Zw1,List.map_nil,List.sum_cons,List.sum_nil,Zf1,Zi1];omega⟩
    simp only[Reps,Rep];refine⟨_,_,rfl,⟨Jr hyl.symm ?_,trivial⟩,rfl⟩;by_cases h0:ys=[]
    ·exact .inl h0
    ·right;have hsn:a.spot=none:=by have hlt : 0<ys.length:=List.length_pos_iff.2 h0;obtain⟨vs,hv,hE⟩:=hys 0 _ (Zo1 hlt);obtain⟨h1,h2⟩:=Aib hv;have hp:=Af1 c;have:=h2 0 _ (Zo1 (by omega));simp only[Nat.zero_mul,Addr.add,if_true] at this;exact A40 this
     obtain⟨b,o,s⟩:=a;simp only at hsn;subst hsn;refine⟨b,o,rfl,⟨by omega,hmax⟩,λi y hy w' hw j d hd =>?_⟩;obtain⟨vs,hv,hE⟩:=hys i y hy;obtain⟨_,h2⟩:=Aib hv;obtain⟨u,hu',hf⟩:=hE.2 j d hd;have hcell:=h2 j u hu';rw[Sx.add_mk,Sx.add_mk] at hcell;exact⟨u,hw.cell b _ u hcell (λh=>h),hf w' hw⟩
  ·rename_i cc fs z hty;have hbase:=Dn (hT t) (by rw[hty];simp);have hsz:P.cellsOf t=z.length:=by have:=Vn hbase.2.2;rw[this,hty];rfl
   have hok:=hT t;unfold B9 at hok;rw[hty] at hok;simp only[Zb1] at hok;have hfl:=hok.2;split at hfl
   ·rename_i fds hu;simp only[Zb1] at hfl;have hfl:=hfl.1;obtain⟨xs,n,hf,rfl,hcl,hxl,hfx⟩:=DataW.trod_struct hu h;have hf:fuel=n:=by omega
    subst hf;have key:∀(l:List (Nat×Nat)) (i o:Nat) (z':List D),fs.drop i=l->Agu tt rd o l z' = true->o+z'.length=cs.length->∃ds,Ij z' ds=true/\Reps (v0 el Ca w) ds (cs.drop o)/\(M t (DataW.agg (xs.map (·.1)))->∀d,d∈ds->SmD R d)/\∀m,Siz m->Ajp ds<=(((xs.map (·.1)).drop i).map m).sum:=by
     intro l;induction l with
     |nil =>intro i o z' _ hct ho;simp only[Agu,List.isEmpty_iff] at hct;subst hct;refine⟨[],rfl,?_,λ_=>(λd hd=>by cases hd),λ_ _=>Nat.zero_le _⟩;rw[Zk1 (by simp at ho;omega)];simp[Reps]
     |cons q l ih =>
      intro i o z' hd hct ho;obtain⟨o',u⟩:=q;simp only[Agu,Zb1] at hct;obtain⟨⟨⟨⟨ho',hcu⟩,hle⟩,hsh⟩,hct⟩:=hct;have ho':=Zl1 ho';subst ho';have hle:=Nat.le_of_ble_eq_true hle;have hget:fs[i]? = some (o',u):=by have:=congrArg (·[0]?) hd;simpa[List.getElem?_drop] using this
      obtain⟨fd,g1,g2,g3,_⟩:=Adr hfl hget;have g1':fds[i]? = some fd:=by simpa using g1
      have h1:=hfx i fd g1';rw[g2,g3] at h1;have hxi:∃e,xs[i]? = some e:=⟨_,Zo1 (by have:=(Zh2.1 g1').1;omega)⟩
      obtain⟨e,he⟩:=hxi;rw[he] at h1;have hlu:=Zg2.1 hrd u (by simpa using hcu);simp only[Zb1] at hlu;have hnu:=Zl1 hlu.2;have hneu:tt u ≠ .no:=by intro e;have:=hlu.1;unfold Bfe at this;rw[e] at this;cases this
      have hcou:P.cellsOf u=(zc (tt u)).length:=by rw[Vn (Dn (hT u) hneu).2.2,hnu]
      rw[hcou] at h1;obtain⟨ds1,s1,r1,m1,z1⟩:=Aus hM hT hrd hsb fuel u _ e hcu h1;obtain⟨ds2,s2,r2,m2,z2⟩:=ih (i+1) (o'+(zc (tt u)).length) _ (by rw[<-List.drop_drop,hd];rfl) hct (by simp;omega);refine⟨ds1++ds2,?_,?_,λhwt d hd=>by
       rcases List.mem_append.1 hd with hd|hd
       ·refine m1 ?_ d hd;rw[<-g2];exact hM.agg _ _ _ i fd e.1 hu hwt g1' (by rw[List.getElem?_map,he];rfl)
       ·exact m2 hwt d hd,λm hm=>by
       have h1:=z1 m hm;have h2:=z2 m hm;have h3:(xs.map (·.1))[i]? = some e.1:=by rw[List.getElem?_map,he];rfl
       obtain⟨hl3,h4⟩:=Zi2.1 h3;rw[List.drop_eq_getElem_cons hl3,h4,Zw1,List.sum_cons];simp only[Ajp,List.map_append,List.sum_append,Zh1] at h1 h2 ⊢;omega⟩
      ·rw[<-List.take_append_drop (zc (tt u)).length z'];exact Afj (A7x hsh s1) s2
      ·have:=r1.append r2;rwa[<-List.drop_drop,List.take_append_drop] at this
    obtain⟨ds,h1,h2,h3,h4⟩:=key fs 0 0 z rfl hloc (by rw[hcl,hsz];omega);exact⟨ds,by simpa[hty,zc,Ty.zero,cells] using h1,by simpa using h2,h3,λm hm=>Nat.le_trans (h4 m hm) (by simpa using hm.agg (xs.map (·.1)))⟩
   ·cases hfl
  ·cases hloc
def Btt(tt:Nat->Ty)(rd:List Nat)(t:Nat)(s:Sg):Bool:=rd.contains t&&match tt t,s with|.int k,.int k'=>decide (k=k')|.bool,.bool=>true|.str,.str=>true|.sl c,.sl c' false=>decide (c=c')|.st (some c) _ _,.sv c'=>decide (c=c')&&agg? c&&(dec c (zc (tt t))).isSome|_,_=>false
def szS:(s:Sg)->den s->Nat
 |.sv c,x=>szK c x
 |_,_=>0
def szL:(l:List Sg)->HV l->Nat
 |[],_=>0
 |[a],x=>szS a x
 |a::b::l,(x,y)=>szS a x+szL (b::l) y
theorem Bov{R:Nat×Nat}{M:TypeId->DataW H->Prop}(hM:Msr P R M)(hT:∀t,B9 P el tt t=true)(hrd:rdB el tt rd=true)(hsb:szB P el tt rd=true){t:TypeId}{s:Sg}(hs:Btt tt rd t s=true){r:Reach}{b0:Nat}{v:Value}{d:DataW H}{ps:List MemPlace}(hval:Value.okWide P w r b0 t v)(h:DataW.Trod enc' P w 0 sp held t v d ps)(i:Nat):∃y:den s,Rep (v0 el Ca w) (Cn i s y) v/\(M t d->SmS R s y)/\∀m,Siz m->szS s y<=m d:=by
 obtain⟨fuel,h⟩:=h;simp only[Btt,Zb1] at hs;obtain⟨hc,hs⟩:=hs;obtain⟨ds,hsh,hr,hsm,hsz⟩:=Aus hM hT hrd hsb fuel t _ _ hc h;have hsz:∀m,Siz m->Ajp ds<=m d:=hsz;have hsm:M t d->∀d,d∈ds->SmD R d:=hsm;split at hs
 ·rename_i k k' hty;simp only[Zg1] at hs;subst hs;obtain⟨n,rfl⟩:=WideShapes.okWide_int (Sx.tyI_spec (Ahw (hT t) hty)) hval;simp only[hty,zc,Ty.zero,cells] at hsh;obtain⟨b,m,rfl,h1,h2⟩:=Ss hsh;obtain rfl:=Zm h2;obtain⟨n',rfl⟩:=A55 h1;simp only[Value.cells,Reps] at hr;obtain⟨u,us,e,hr,_⟩:=hr;simp only[Ze2] at e;obtain⟨rfl,_⟩:=e;exact⟨n',hr,λ_=>trivial,λ_ _=>Nat.zero_le _⟩
 ·rename_i hty;obtain⟨n,rfl⟩:=WideShapes.okWide_bool (Sx.tyB_spec (Ac7 (hT t) hty)) hval;exact⟨n,by simp only[Cn,Rep],λ_=>trivial,λ_ _=>Nat.zero_le _⟩
 ·rename_i hty;obtain⟨n,rfl⟩:=WideShapes.okWide_string (Sx.tyS_spec (G6 (hT t) hty)) hval;simp only[hty,zc,Ty.zero,cells] at hsh;obtain⟨b,m,rfl,h1,h2⟩:=Ss hsh;obtain rfl:=Zm h2;obtain⟨n',rfl⟩:=A8e h1;simp only[Value.cells,Reps] at hr;obtain⟨u,us,e,hr,_⟩:=hr;simp only[Ze2] at e;obtain⟨rfl,_⟩:=e;exact⟨n',hr,λhwt=>hsm hwt (.str n') (by simp),λ_ _=>Nat.zero_le _⟩
 ·rename_i c c' hty;simp only[Zg1] at hs;subst hs;obtain⟨by_,hE,_,_⟩:=Cl (hT t) hty;have hv:v.cells.toList=[v]:=by have hu:=hE.und;simp only[Value.okWide,hu,Cell.okWide] at hval;cases v<;>first|rfl|(simp[Cell.ok,hu] at hval;done)|(exfalso;simp_all [Cell.ok])
  rw[hv] at hr;simp only[hty,zc,Ty.zero,cells] at hsh;obtain⟨b,m,rfl,h1,h2⟩:=Ss hsh;obtain rfl:=Zm h2;obtain⟨ys,u,rfl⟩:=Bi7 h1;simp only[Reps] at hr;obtain⟨u',us,e,hr,_⟩:=hr;simp only[Ze2] at e;obtain⟨rfl,_⟩:=e;refine⟨ys,?_,λhwt=>hsm hwt (.sl c ys u) (by simp),λ_ _=>Nat.zero_le _⟩;simp only[Cn,Rep] at hr ⊢;exact⟨hr.1,trivial⟩
 ·rename_i c fs z c' hty;simp only[Zb1,Zg1] at hs;obtain⟨⟨rfl,ha⟩,hdec⟩:=hs;obtain⟨y,hy⟩:=Aq0 hdec hsh;have hE:=Pz hy hr;have hv:∃cs,v = .agg cs:=by
   have hok:=hT t;unfold B9 at hok;rw[hty] at hok;simp only[Zb1] at hok;have hfl:=hok.2;split at hfl
   ·rename_i fds hu;simp only[Value.okWide,hu] at hval;obtain⟨cs,h1,_⟩:=hval;exact⟨cs,h1⟩
   ·cases hfl
  obtain⟨cs,rfl⟩:=hv;refine⟨y,?_,λhwt=>Bmb hy (hsm hwt),λm hm=>Nat.le_trans (Bgu hy) (hsz m hm)⟩;simp only[Cn,Rep];exact⟨ha,cs.toList,by simp,by simpa[Value.cells] using hE.1,by simpa[Value.cells] using hE.2⟩
 ·cases hs
def Ao1(tt:Nat->Ty)(rd:List Nat):List TypeId->List Sg->Bool
 |[],[]=>true
 |t::ts,s::ss=>Btt tt rd t s&&Ao1 tt rd ts ss
 |_,_=>false
theorem Axq{R:Nat×Nat}{M:TypeId->DataW H->Prop}(hM:Msr P R M)(hT:∀t,B9 P el tt t=true)(hrd:rdB el tt rd=true)(hsb:szB P el tt rd=true){r:Reach}{b0:Nat}:∀{ts:List TypeId}{sa:List Sg}{vs:List Value}{ds:List (DataW H)}{ps:List MemPlace}(i:Nat),Ao1 tt rd ts sa=true->(∀(j:Nat) t v,ts[j]? = some t->vs[j]? = some v->Value.okWide P w r b0 t v)->DataW.TrodAll enc' P w 0 sp held ts vs ds ps->∃x:HV sa,Reps (v0 el Ca w) (Bw i sa x) vs/\((∀(i:Nat) (t:TypeId) (d:DataW H),ts[i]? = some t->ds[i]? = some d->M t d)->SmL R sa x)/\∀m,Siz m->szL sa x<=(ds.map m).sum
 |[],[],vs,ds,ps,i,_,_,h=>by cases vs with|nil=>exact⟨(),by simp[Bw,Reps],λ_=>trivial,λ_ _=>Nat.zero_le _⟩|cons v vs=>cases ds<;>simp[DataW.TrodAll] at h
 |t::ts,[],_,_,_,_,hs,_,_=>by simp[Ao1] at hs
 |[],s::ss,_,_,_,_,hs,_,_=>by simp[Ao1] at hs
 |t::ts,s::ss,vs,ds,ps,i,hs,hval,h=>by
  simp only[Ao1,Zb1] at hs;obtain⟨v,vs',d,ds',p,q,rfl,rfl,rfl,hd,hrest⟩:=trodAll_cons h;obtain⟨y,hy,hsy,hmy⟩:=Bov hM hT hrd hsb hs.1 (hval 0 t v rfl rfl) hd i;obtain⟨z,hz,hsz,hmz⟩:=Axq hM hT hrd hsb (i+1) hs.2 (λj t' v' h1 h2=>hval (j+1) t' v' (by simpa using h1) (by simpa using h2)) hrest;cases ss with
  |nil =>refine⟨y,?_,λhwt=>hsy (hwt 0 t d rfl rfl),λm hm=>Nat.le_trans (hmy m hm) (by simp)⟩;simp only[Bw,Reps] at hz ⊢;exact⟨v,vs',rfl,hy,hz⟩
  |cons s' ss =>
   refine⟨(y,z),?_,λhwt=>⟨hsy (hwt 0 t d rfl rfl),hsz λj t' d' h1 h2=>hwt (j+1) t' d' (by simpa using h1) (by simpa using h2)⟩,λm hm=>by have h1:=hmy m hm;have h2:=hmz m hm;simp only[szL,Zw1,List.sum_cons];omega⟩
   simp only[Bw,Reps];exact⟨v,vs',rfl,hy,hz⟩
theorem Aox(hl:laidOutB P=true){W W':World}(hb:Below W.heap.size W W'):∀{ts:List TypeId}{vs:List Value}{ds:List (DataW H)}{ps:List MemPlace},(∀t,t∈ts->P.readableRec t=true/\t<P.types.size)->(∀x∈ps,x.block<W.heap.size)->DataW.TrodAll enc' P W 0 (λ_=>true) true ts vs ds ps->DataW.TrodAll enc' P W' 0 (λb=>decide (b<W.heap.size)) true ts vs ds ps
 |[],vs,ds,ps,_,_,h=>by
  cases vs<;>cases ds<;>simp[DataW.TrodAll] at h ⊢
  exact h
 |t::ts,vs,ds,ps,ht,hlt,h=>by obtain⟨v,vs',d,ds',p,q,rfl,rfl,rfl,hd,hrest⟩:=trodAll_cons h;obtain⟨h1,h2⟩:=ht t (by simp);exact⟨p,q,Below.trod hl h1 h2 hd hb (λx hx=>hlt x (by simp[hx])),Aox hl hb (λt' h'=>ht t' (by simp[h'])) (λx hx=>hlt x (by simp[hx])) hrest,rfl⟩
end
end Go.Ax
namespace Go.Proofs.YtcoaaebppfbbnaaGreatDoor
open Go.Ax
def bare(l:List Xpr):Xpr :=.mk 0 ⟨0,0,[]⟩ [] l
def rmR:List (List Xpr)->Int->Int->Int
 |[],_,n=>n
 |r::l,most,n=>cond (decide (n<most)) (rmR l most (wr .i64 (n+Il (bare r) most))) n
def rmS:List SetE->Int->Int->Int
 |[],_,n=>n
 |x::l,most,n=>cond (decide (n<most)) (rmS l most (wr .i64 (n+Il x.e most))) n
def rmN:List Str->Int->Int->Int
 |[],_,n=>n
 |x::l,most,n=>cond (decide (n<most)) (rmN l most (wr .i64 (n+wr .i64 (Int.tdiv (x.length:Int) 30)))) n
def n0(s:Stm)(most:Int):Int:=wr .i64 (wr .i64 (wr .i64 (wr .i64 (wr .i64 (wr .i64 ((s.cols.length:Int)+(s.names.length:Int))+(s.order.length:Int))+(s.desc.length:Int))+wr .i64 (Int.tdiv (wr .i64 ((s.name.length:Int)+(s.on.length:Int))) 30))+Il s.whr most)+Il (bare s.l) most)
def Amc:Sig:=⟨110,[(1,.int .i64),(5,.int .i64),(8,.int .i64)],[(2,.ptr 0 0)],[(0,.one (.sv .stmt))],1,0,0,[],[]⟩
abbrev Sq:=Int×Int×Int×Stm
def Sr{R:Type}(rec:Sq->Option R)(kx:Ex->Sq->Option R)(v:Sq):Option R:=match v with
 |(b,c,a,w2) =>
 cond (decide (a<(w2.names.length:Int))) (
  cond (decide (c<b)) (
  chk (inb a w2.names.length) (
   rec (b,(wr .i64 (c+(wr .i64 (Int.tdiv ((at' .str w2.names a).length:Int) 30)))),(wr .i64 (a+1)),w2))) (
  kx (.exit 4) (b,c,a,w2))) (
  kx (.exit 4) (b,c,a,w2))
def Akl:Sig:=⟨110,[(1,.int .i64),(5,.int .i64),(7,.int .i64)],[(2,.ptr 0 0)],[(0,.one (.sv .stmt))],1,0,0,[],[]⟩
abbrev R4:=Int×Int×Int×Stm
def Tl{R:Type}(rec:R4->Option R)(kx:Ex->R4->Option R)(v:R4):Option R:=match v with
 |(v7,v8,v9,w1) =>
 cond (decide (v9<(w1.sets.length:Int))) (
  cond (decide (v8<v7)) (
  chk (inb v9 w1.sets.length) (
   rec (v7,(wr .i64 (v8+(Il (Uz ((at' .set w1.sets v9).e)) v7))),(wr .i64 (v9+1)),w1))) (
  kx (.exit 2) (v7,v8,v9,w1))) (
  kx (.exit 2) (v7,v8,v9,w1))
def Alx:Sig:=⟨110,[(1,.int .i64),(5,.int .i64),(6,.int .i64)],[(2,.ptr 0 0)],[(0,.one (.sv .stmt))],1,0,0,[],[]⟩
abbrev Ts:=Int×Int×Int×Stm
def Ri{R:Type}(rec:Ts->Option R)(kx:Ex->Ts->Option R)(v:Ts):Option R:=match v with
 |(v,v1,v2,w) =>
 cond (decide (v2<(w.rows.length:Int))) (
  cond (decide (v1<v)) (
  chk (inb v2 w.rows.length) (
   rec (v,(wr .i64 (v1+(Il (Xpr.mk 0 ⟨0,0,[]⟩ [] (at' .exprs w.rows v2)) v))),(wr .i64 (v2+1)),w))) (
  kx (.exit 0) (v,v1,v2,w))) (
  kx (.exit 0) (v,v1,v2,w))
def Azh(R:Type)(k:Nat):Px R:=pxO [(85,cA Asw)] [(85,qA Asw)] [(3,Am k Alx (Ri)),(7,Am k Akl (Tl)),(11,Am k Amc (Sr))] []
def Ahd(k:Nat)(x:HV [.sv .stmt,.int .i64]):Option (HV [.int .i64]):=match x with
 |(s,most) =>
 Aj (λrec=>Ri rec (λe vz=>match vz with|(v3,v4,_,v6)=>match e with
  |.exit 0 =>
  Aj (λrec=>Tl rec (λe vz=>match vz with|(a,b,_,c)=>match e with
   |.exit 2 =>
   Aj (λrec=>Sr rec (λe vz=>match vz with|(_,d,_,_)=>match e with
    |.exit 4 =>
    some d
    |_=>none)) k (a,b,0,c)
   |_=>none)) k (v3,v4,0,v6)
  |_=>none)) k (most,(wr .i64 ((wr .i64 ((wr .i64 ((wr .i64 ((wr .i64 ((wr .i64 ((s.cols.length:Int)+(s.names.length:Int)))+(s.order.length:Int)))+(s.desc.length:Int)))+(wr .i64 (Int.tdiv (wr .i64 ((s.name.length:Int)+(s.on.length:Int))) 30))))+(Il (Uz s.whr) most)))+(Il (Xpr.mk 0 ⟨0,0,[]⟩ [] s.l) most))),0,s)
theorem Bed(k:Nat):FO 51 [.sv .stmt,.int .i64] [.int .i64] (Ahd k):=fR (px:=Azh _ k) (n:=3) Tryz.func51 rfl (λcx H=>by have h0:Lv cx (Azh (HV [.int .i64]) k):=lv H (c1 H Ax3 Ae) (q1 H Ax3 Aa) Ab;have hlrmuch_0:=lO H h0 (b:=lp Tryz.f51 0) (k:=k) (n:=0) (s:=Alx) (step:=Ri) (λ_ _ _ (_,_,_,_)=>by kernel_rfl) Ai;have hlrmuch_1:=lO H h0 (b:=lp Tryz.f51 1) (k:=k) (n:=0) (s:=Akl) (step:=Tl) (λ_ _ _ (_,_,_,_)=>by kernel_rfl) Ai;have hlrmuch_2:=lO H h0 (b:=lp Tryz.f51 2) (k:=k) (n:=0) (s:=Amc) (step:=Sr) (λ_ _ _ (_,_,_,_)=>by kernel_rfl) Ai;exact⟨h0,(A6 (A6 (A6 Ai hlrmuch_0) hlrmuch_1) hlrmuch_2)⟩) λ(_,_)=>by kernel_rfl
def An6(s:Stm)(most:Int):Int:=rmN s.names most (rmS s.sets most (rmR s.rows most (n0 s most)))
def Atl:FT [.sv .stmt,.int .i64] [.int .i64]:=λx=>some (An6 x.1 x.2)
theorem Asg{R:Type}{kx:Ex->Ts->Option R}{s:Stm}{most:Int}{c:Int->Option R}(hn:ln s.rows.length)(h2:∀n i,kx (.exit 0) (most,n,i,s)=c n)(k:Nat)(hk:s.rows.length<k)(n:Int) :
  Aj (λrec=>Ri rec kx) k (most,n,0,s)=c (rmR s.rows most n):=by
 refine(Dc s.rows.length (λi n=>(most,n,(i:Int),s)) (λ_ _=>True) (λi n=>c (rmR (s.rows.drop i) most n)) (λi hi n _ rec hr =>?_) (λn _ rec =>?_) k 0 n (Nat.zero_le _) (by omega) trivial).trans (by rw[Zq1])
 ·simp only[Ri,Ea hi,As hi,Al (c :=.exprs) hi,An hi hn,Ak hi,rmR,h2];cases decide (n<most) with|false=>rfl|true=>exact(hr (wr .i64 (n+Il (bare s.rows[i]) most)) trivial)
 ·simp only[Ri,Ee,h2];rw[Zk1 (Zn1 _)];rfl
theorem At1{R:Type}{kx:Ex->R4->Option R}{s:Stm}{most:Int}{c:Int->Option R}(hn:ln s.sets.length)(h2:∀n i,kx (.exit 2) (most,n,i,s)=c n)(k:Nat)(hk:s.sets.length<k)(n:Int) :
  Aj (λrec=>Tl rec kx) k (most,n,0,s)=c (rmS s.sets most n):=by
 refine(Dc s.sets.length (λi n=>(most,n,(i:Int),s)) (λ_ _=>True) (λi n=>c (rmS (s.sets.drop i) most n)) (λi hi n _ rec hr =>?_) (λn _ rec =>?_) k 0 n (Nat.zero_le _) (by omega) trivial).trans (by rw[Zq1])
 ·simp only[Tl,Ea hi,As hi,Al (c :=.set) hi,An hi hn,Ak hi,rmS,h2,Ro];cases decide (n<most) with|false=>rfl|true=>exact(hr (wr .i64 (n+Il s.sets[i].e most)) trivial)
 ·simp only[Tl,Ee,h2];rw[Zk1 (Zn1 _)];rfl
theorem Ato{R:Type}{kx:Ex->Sq->Option R}{s:Stm}{most:Int}{c:Int->Option R}(hn:ln s.names.length)(h2:∀n i,kx (.exit 4) (most,n,i,s)=c n)(k:Nat)(hk:s.names.length<k)(n:Int) :
  Aj (λrec=>Sr rec kx) k (most,n,0,s)=c (rmN s.names most n):=by
 refine(Dc s.names.length (λi n=>(most,n,(i:Int),s)) (λ_ _=>True) (λi n=>c (rmN (s.names.drop i) most n)) (λi hi n _ rec hr =>?_) (λn _ rec =>?_) k 0 n (Nat.zero_le _) (by omega) trivial).trans (by rw[Zq1])
 ·simp only[Sr,Ea hi,As hi,Al (c :=.str) hi,An hi hn,Ak hi,rmN,h2];cases decide (n<most) with|false=>rfl|true=>exact(hr (wr .i64 (n+wr .i64 (Int.tdiv (s.names[i].length:Int) 30))) trivial)
 ·simp only[Sr,Ee,h2];rw[Zk1 (Zn1 _)];rfl
theorem Bgz:FO 51 [.sv .stmt,.int .i64] [.int .i64] Atl :=.fin 0 Bed λ(s,most) r hb hx=>⟨s.rows.length+s.sets.length+s.names.length+1,by have hb:=hb.1;simp only[Atl,Za1] at hx;rw[<-hx];simp only[Ahd,Ro];refine(Asg (c:=λn=>some (rmN s.names most (rmS s.sets most n))) hb.rows.1 (λn i =>?_) _ (by omega) _).trans rfl;refine(At1 (c:=λn=>some (rmN s.names most n)) hb.sets.1 (λn i =>?_) _ (by omega) _).trans rfl;exact Ato (c:=some) hb.names.1 (λn i=>rfl) _ (by omega) _⟩
def A22(R:Type):Px R:=pxO [] [] [] []
def N9(x:HV [.sv .tbl]):Option (HV [.sv .stmt]):=match x with
 |t =>
 some (Stm.mk 1 t.name [] t.cols t.key t.checks [] [] false (Xpr.mk 0 ⟨0,0,[]⟩ [] []) [] [] 0)
theorem Az3:FO 43 [.sv .tbl] [.sv .stmt] (N9):=fR (px:=A22 _) (n:=0) Tryz.func43 rfl (λ_ H=>⟨lv H Ae Aa Ab,Ai⟩) λ_=>by kernel_rfl
def Aa5(t:Tbl):Stm :=(Stm.mk 1 t.name [] t.cols t.key t.checks [] [] false (Xpr.mk 0 ⟨0,0,[]⟩ [] []) [] [] 0)
theorem A0t(x:HV [.sv .tbl]):N9 x=some (Aa5 x):=by
 first
  |exact rfl
  |simp only[N9,Aa5,Az]
def Ari:FT [.sv .tbl] [.sv .stmt]:=λx=>some (Aa5 x)
theorem A31:FO 43 [.sv .tbl] [.sv .stmt] Ari :=.fin0 Az3 λx _ _ hx=>(A0t x).trans hx
def ixS(x:Idx):Stm:=Stm.mk 0 x.name [] [] x.cols [] [] [] false (Xpr.mk 0 ⟨0,0,[]⟩ [] []) [] [] 0
def rmI:List Idx->Int->Int->Int
 |[],_,n=>n
 |x::l,most,n=>cond (decide (n<most)) (rmI l most (wr .i64 (n+An6 (ixS x) most))) n
def rmC:List Col->Int->Int->Int
 |[],_,n=>n
 |c::l,most,n=>cond (decide (n<most)) (rmC l most (wr .i64 (n+wr .i64 (Int.tdiv (wr .i64 ((c.name.length:Int)+(c.ref.length:Int))) 30)))) n
def Xs:Sig:=⟨76,[(1,.int .i64),(5,.int .i64),(7,.int .i64)],[(2,.ptr 0 0)],[(0,.one (.sv .tbl))],1,0,0,[],[]⟩
abbrev Kq:=Int×Int×Int×Tbl
def I9{R:Type}(rec:Kq->Option R)(kx:Ex->Kq->Option R)(v:Kq):Option R:=match v with
 |(v7,v8,v9,w1) =>
 cond (decide (v9<(w1.cols.length:Int))) (
  cond (decide (v8<v7)) (
  chk (inb v9 w1.cols.length) (
   chk (inb v9 w1.cols.length) (
   rec (v7,(wr .i64 (v8+(wr .i64 (Int.tdiv (wr .i64 ((((at' .col w1.cols v9).name).length:Int)+(((at' .col w1.cols v9).ref).length:Int))) 30)))),(wr .i64 (v9+1)),w1)))) (
  kx (.exit 2) (v7,v8,v9,w1))) (
  kx (.exit 2) (v7,v8,v9,w1))
def Aam:Sig:=⟨76,[(1,.int .i64),(5,.int .i64),(6,.int .i64)],[(2,.ptr 0 0)],[(0,.one (.sv .tbl))],1,0,0,[],[]⟩
abbrev J5:=Int×Int×Int×Tbl
def I3{R:Type}(rec:J5->Option R)(kx:Ex->J5->Option R)(v:J5):Option R:=match v with
 |(v,v1,v2,w) =>
 cond (decide (v2<(w.idx.length:Int))) (
  cond (decide (v1<v)) (
  chk (inb v2 w.idx.length) (
   chk (inb v2 w.idx.length) (
   rec (v,(wr .i64 (v1+(An6 (Stm.mk 0 ((at' .idx w.idx v2).name) [] [] ((at' .idx w.idx v2).cols) [] [] [] false (Xpr.mk 0 ⟨0,0,[]⟩ [] []) [] [] 0) v))),(wr .i64 (v2+1)),w)))) (
  kx (.exit 0) (v,v1,v2,w))) (
  kx (.exit 0) (v,v1,v2,w))
def Al3(R:Type)(k:Nat):Px R:=pxO [] [(43,qA Ari),(51,qA Atl)] [(3,Am k Aam (I3)),(7,Am k Xs (I9))] []
def Yw(k:Nat)(x:HV [.sv .tbl,.int .i64]):Option (HV [.int .i64]):=match x with
 |(t,most) =>
 Aj (λrec=>I3 rec (λe vz=>match vz with|(v3,v4,_,v6)=>match e with
  |.exit 0 =>
  Aj (λrec=>I9 rec (λe vz=>match vz with|(_,a,_,_)=>match e with
   |.exit 2 =>
   some a
   |_=>none)) k (v3,v4,0,v6)
  |_=>none)) k (most,(wr .i64 ((An6 (Aa5 t) most)+(t.idx.length:Int))),0,t)
theorem Ayy(k:Nat):FO 23 [.sv .tbl,.int .i64] [.int .i64] (Yw k):=fR (px:=Al3 _ k) (n:=2) Tryz.func23 rfl (λcx H=>by have h0:Lv cx (Al3 (HV [.int .i64]) k):=lv H Ae (q1 H A31 (q1 H Bgz Aa)) Ab;have hlrmuch16_0:=lO H h0 (b:=lp Tryz.f23 0) (k:=k) (n:=0) (s:=Aam) (step:=I3) (λ_ _ _ (_,_,_,_)=>by kernel_rfl) Ai;have hlrmuch16_1:=lO H h0 (b:=lp Tryz.f23 1) (k:=k) (n:=0) (s:=Xs) (step:=I9) (λ_ _ _ (_,_,_,_)=>by kernel_rfl) Ai;exact⟨h0,(A6 (A6 Ai hlrmuch16_0) hlrmuch16_1)⟩) λ(_,_)=>by kernel_rfl
def As1(t:Tbl)(most:Int):Int:=rmC t.cols most (rmI t.idx most (wr .i64 (An6 (Aa5 t) most+(t.idx.length:Int))))
def Ac3:FT [.sv .tbl,.int .i64] [.int .i64]:=λx=>some (As1 x.1 x.2)
theorem Ah0{R:Type}{kx:Ex->J5->Option R}{t:Tbl}{most:Int}{c:Int->Option R}(hn:ln t.idx.length)(h2:∀n i,kx (.exit 0) (most,n,i,t)=c n)(k:Nat)(hk:t.idx.length<k)(n:Int) :
  Aj (λrec=>I3 rec kx) k (most,n,0,t)=c (rmI t.idx most n):=by
 refine(Dc t.idx.length (λi n=>(most,n,(i:Int),t)) (λ_ _=>True) (λi n=>c (rmI (t.idx.drop i) most n)) (λi hi n _ rec hr =>?_) (λn _ rec =>?_) k 0 n (Nat.zero_le _) (by omega) trivial).trans (by rw[Zq1])
 ·have hr:=hr (wr .i64 (n+An6 (ixS t.idx[i]) most)) trivial;simp at hr;simp only[I3,Ea hi,As hi,Al (c :=.idx) hi,An hi hn,Ak hi,rmI,h2];cases decide (n<most) with|false=>rfl|true=>exact hr
 ·simp only[I3,Ee,h2];rw[Zk1 (Zn1 _)];rfl
theorem Ai7{R:Type}{kx:Ex->Kq->Option R}{t:Tbl}{most:Int}{c:Int->Option R}(hn:ln t.cols.length)(h2:∀n i,kx (.exit 2) (most,n,i,t)=c n)(k:Nat)(hk:t.cols.length<k)(n:Int) :
  Aj (λrec=>I9 rec kx) k (most,n,0,t)=c (rmC t.cols most n):=by
 refine(Dc t.cols.length (λi n=>(most,n,(i:Int),t)) (λ_ _=>True) (λi n=>c (rmC (t.cols.drop i) most n)) (λi hi n _ rec hr =>?_) (λn _ rec =>?_) k 0 n (Nat.zero_le _) (by omega) trivial).trans (by rw[Zq1])
 ·simp only[I9,Ea hi,As hi,Al (c :=.col) hi,An hi hn,Ak hi,rmC,h2];cases decide (n<most) with|false=>rfl|true=>exact(hr (wr .i64 (n+wr .i64 (Int.tdiv (wr .i64 ((t.cols[i].name.length:Int)+(t.cols[i].ref.length:Int))) 30))) trivial)
 ·simp only[I9,Ee,h2];rw[Zk1 (Zn1 _)];rfl
theorem A1w:FO 23 [.sv .tbl,.int .i64] [.int .i64] Ac3 :=.fin 0 Ayy λ(t,most) r hb hx=>⟨t.idx.length+t.cols.length+1,by have hb:=hb.1;simp only[Ac3,Za1] at hx;rw[<-hx];simp only[Yw];refine(Ah0 (c:=λn=>some (rmC t.cols most n)) hb.idx.1 (λn i =>?_) _ (by omega) _).trans rfl;exact Ai7 (c:=some) hb.cols.1 (λn i=>rfl) _ (by omega) _⟩
instance:DecidableEq SetE:=λa b=>decidable_of_iff (a.name=b.name/\a.e=b.e) (by cases a;cases b;simp only[SetE.mk.injEq])
noncomputable section
end
def Am4:Sig:=⟨20,[(0,.sl .col false),(1,.str),(4,.int .i64),(5,.int .i64)],[],[],0,0,0,[],[]⟩
abbrev Amf:=List Col×Str×Int×Int
def Aik{R:Type}(rec:Amf->Option R)(kx:Ex->Amf->Option R)(v:Amf):Option R:=match v with
 |(v,v1,v2,v3) =>
 cond (decide (v3<(v.length:Int))) (
  chk (inb v3 v.length) (
  cond (decide (((at' .col v v3).name)=v1)) (
   kx .ret (v,v1,v3,v3)) (
   rec (v,v1,v2,(wr .i64 (v3+1)))))) (
  kx (.exit 0) (v,v1,v2,v3))
def A7i(R:Type)(k:Nat):Px R:=pxO [] [] [(2,Am k Am4 (Aik))] []
def Aqx(k:Nat)(x:HV [.sl .col false,.str]):Option (HV [.int .i64]):=match x with
 |(cols,name) =>
 Aj (λrec=>Aik rec (λe vz=>match vz with|(_,_,v6,_)=>match e with
  |.ret =>
  some v6
  |.exit 0 =>
  some (-1)
  |_=>none)) k (cols,name,0,0)
theorem Bjb(k:Nat):FO 40 [.sl .col false,.str] [.int .i64] (Aqx k):=fR (px:=A7i _ k) (n:=1) Tryz.func40 rfl (λcx H=>by have h0:Lv cx (A7i (HV [.int .i64]) k):=lv H Ae Aa Ab;have hlrcol_0:=lO H h0 (b:=lp Tryz.f40 0) (k:=k) (n:=0) (s:=Am4) (step:=Aik) (λ_ _ _ (_,_,_,_)=>by kernel_rfl) Ai;exact⟨h0,(A6 Ai hlrcol_0)⟩) λ(_,_)=>by kernel_rfl
def Bei(cols:List Col)(name:Str):Int:=C8 cols name
def A15:FT [.sl .col false,.str] [.int .i64]:=λx=>some (Bei x.1 x.2)
theorem Bq3:FO 40 [.sl .col false,.str] [.int .i64] A15 :=.fin 0 Bjb λ(cols,s) r hb hx=>⟨cols.length+1,by
 simp only[A15,Za1,Bei] at hx;simp only[Aqx];refine(A8 cols.length (λi=>(cols,s,0,(i:Int))) (λi=>some (Dt (cols.drop i) s i)) (λi hi rec hr =>?_) (λrec =>?_) _ 0 (Nat.zero_le _) (by omega)).trans (by rw[Zq1,<-hx];rfl)
 ·simp only[Aik,Ea hi,Af,As hi,chk,Al (c :=.col) hi,An hi hb.1.1,hr,Ak hi,Dt,Bool.cond_decide];split<;>rfl
 ·simp only[Aik,Ee,Ag];rw[Zk1 (Zn1 _)];rfl⟩
noncomputable section
end
def Aj6:Sig:=⟨47,[(1,.sl .val false),(6,.sl .val true),(7,.int .i64),(8,.sl .val true),(10,.str),(19,.sl .str false),(20,.int .i64),(21,.int .i64),(26,.sl .col false),(27,.int .i64),(28,.int .i64)],[(3,.ptr 0 0)],[(0,.one (.sv .tbl))],1,0,0,[],[]⟩
abbrev Rw:=List Val×List Val×Int×List Val×Str×List Str×Int×Int×List Col×Int×Int×Tbl
def Us{R:Type}(rec:Rw->Option R)(kx:Ex->Rw->Option R)(v:Rw):Option R:=match v with
 |(v7,v8,v9,c,d,f,g,h,b,e,a,w1) =>
 cond (decide (a<e)) (
  chk (inb a b.length) (
  cond (decide (((at' .col b a).name)=d)) (
   chk (inb a v7.length) (
   chk (decide (c.length+1<=Ah)) (
    kx (.exit 1) (v7,v8,v9,(c++[(at' .val v7 a)]),d,f,g,h,b,e,a,w1)))) (
   rec (v7,v8,v9,c,d,f,g,h,b,e,(wr .i64 (a+1)),w1)))) (
  kx (.exit 2) (v7,v8,v9,c,d,f,g,h,b,e,a,w1))
def Ahb:Sig:=⟨47,[(1,.sl .val false),(6,.sl .val true),(7,.int .i64),(8,.sl .val true),(19,.sl .str false),(20,.int .i64),(21,.int .i64)],[(3,.ptr 0 0)],[(0,.one (.sv .tbl))],1,0,0,[],[]⟩
abbrev Rs:=List Val×List Val×Int×List Val×List Str×Int×Int×Tbl
def Ur{R:Type}(k:Nat)(rec:Rs->Option R)(kx:Ex->Rs->Option R)(v:Rs):Option R:=match v with
 |(v,v1,v2,v3,v4,v5,v6,w) =>
 cond (decide (v6<v5)) (
  chk (inb v6 v4.length) (
  Aj (λrc=>Us rc (λe vz=>match vz with|(a,h,i,b,_,c,d,f,_,_,_,g)=>match e with
   |.exit 1 =>
   rec (a,h,i,b,c,d,(wr .i64 (f+1)),g)
   |.exit 2 =>
   kx .ret (a,[],150,b,c,d,f,g)
   |_=>none)) k (v,v1,v2,v3,(at' .str v4 v6),v4,v5,v6,w.cols,(w.cols.length:Int),0,w))) (
  kx (.exit 0) (v,v1,v2,v3,v4,v5,v6,w))
def Aym(R:Type)(k:Nat):Px R:=pxO [] [] [(8,Am k Aj6 (Us)),(5,Am k Ahb (Ur k))] []
def Ajg(k:Nat)(x:HV [.sv .tbl,.sl .val false,.sl .str false]):Option (HV [.sl .val true,.int .i64]):=match x with
 |(t,row,names) =>
 cond (!decide ((row.length:Int)=(t.cols.length:Int))) (
  some ([],2)) (
  Aj (λrec=>Ur k rec (λe vz=>match vz with|(_,a,b,c,_,_,_,_)=>match e with
  |.ret =>some (a,b)
  |.exit 0 =>some (c,0)
  |_=>none)) k (row,[],0,[],names,(names.length:Int),0,t))
theorem Bd3(k:Nat):FO 57 [.sv .tbl,.sl .val false,.sl .str false] [.sl .val true,.int .i64] (Ajg k):=fR (px:=Aym _ k) (n:=2) Tryz.func57 rfl (λcx H=>by have h0:Lv cx (Aym (HV [.sl .val true,.int .i64]) k):=lv H Ae Aa Ab;have hlspick_1:=lO H h0 (b:=lpC (lp Tryz.f57 0) 0) (k:=k) (n:=0) (s:=Aj6) (step:=Us) (λ_ _ _ (_,_,_,_,_,_,_,_,_,_,_,_)=>by kernel_rfl) Ai;have hlspick_0:=lO H h0 (b:=lp Tryz.f57 0) (k:=k) (n:=1) (s:=Ahb) (step:=Ur k) (λ_ _ _ (_,_,_,_,_,_,_,_)=>by kernel_rfl) (A6 Ai hlspick_1);exact⟨h0,(A6 (A6 Ai hlspick_0) hlspick_1)⟩) λ(_,_,_)=>by kernel_rfl
def Agp(t:Tbl)(row:List Val)(names:List Str):Option (List Val×Int):=cond (decide (names.length<=2000000)) (some (cond (decide (row.length=t.cols.length)) (C5 t.cols row names []) ([],2))) none
def Atg:FT [.sv .tbl,.sl .val false,.sl .str false] [.sl .val true,.int .i64]:=λx=>Agp x.1 x.2.1 x.2.2
theorem Asn{R:Type}{kx:Ex->Rw->Option R}{t:Tbl}{row v8 acc:List Val}{v9 n i:Int}{names:List Str}{s:Str}{g:Int->Option R}(hn:ln t.cols.length)(he:row.length=t.cols.length)(ha:acc.length+1<=Ah)(h1:∀j:Nat,kx (.exit 1) (row,v8,v9,acc++[at' .val row (j:Int)],s,names,n,i,t.cols,(t.cols.length:Int),(j:Int),t)=g j)(h2:kx (.exit 2) (row,v8,v9,acc,s,names,n,i,t.cols,(t.cols.length:Int),(t.cols.length:Int),t)=g (-1))(k:Nat)(hk:t.cols.length<k) :
  Aj (λrec=>Us rec kx) k (row,v8,v9,acc,s,names,n,i,t.cols,(t.cols.length:Int),0,t)=g (C8 t.cols s):=by
 refine(A8 t.cols.length (λj=>(row,v8,v9,acc,s,names,n,i,t.cols,(t.cols.length:Int),(j:Int),t)) (λj=>g (Dt (t.cols.drop j) s j)) (λj hj rec hr =>?_) (λrec =>?_) k 0 (Nat.zero_le _) (by omega)).trans (by rw[Zq1];rfl)
 ·have hj2:j<row.length:=by omega
  simp only[Us,Ea hj,As hj,As hj2,chk,Al (c :=.col) hj,An hj hn,hr,h1,Ak hj,Dt,Bool.cond_decide];split<;>rfl
 ·simp only[Us,Ee,h2];rw[Zk1 (Zn1 _)];rfl
theorem As7{R:Type}{kx:Ex->Rs->Option R}{t:Tbl}{row:List Val}{names:List Str}{c:List Val×Int->Option R}(hn:ln t.cols.length)(he:row.length=t.cols.length)(hl:names.length<=2000000)(k:Nat)(hc:t.cols.length<k)(h1:∀acc i,kx .ret (row,[],150,acc,names,(names.length:Int),i,t)=c ([],150))(h2:∀acc,kx (.exit 0) (row,[],0,acc,names,(names.length:Int),(names.length:Int),t)=c (acc,0))(hk:names.length<k) :
  Aj (λrec=>Ur k rec kx) k (row,[],0,[],names,(names.length:Int),0,t)=c (C5 t.cols row names []):=by
 have hln:ln names.length:=by simp[ln];omega
 refine(Dc names.length (λi acc=>(row,[],0,acc,names,(names.length:Int),(i:Int),t)) (λi acc=>acc.length=i) (λi acc=>c (C5 t.cols row (names.drop i) acc)) (λi hi acc ha rec hr =>?_) (λacc _ rec =>?_) k 0 [] (Nat.zero_le _) (by omega) rfl).trans (by rw[Zq1])
 ·simp only[Ur,Ea hi,As hi,Al (c :=.str) hi,Ak hi,C5];refine(Asn (g:=λq=>cond (decide (q<0)) (c ([],150)) (rec (row,[],0,acc++[at' .val row q],names,(names.length:Int),((i+1:Nat):Int),t))) hn he (by simp[Ah];omega) (λj =>?_) ?_ k hc).trans ?_
  ·simp[An hi hln,Zd1 (show ¬(j:Int)<0 by omega)]
  ·exact h1 _ _
  ·grind
 ·simp only[Ur,Ee,h2];rw[Zk1 (Zn1 _)];rfl
theorem Bfx:FO 57 [.sv .tbl,.sl .val false,.sl .str false] [.sl .val true,.int .i64] Atg :=.fin 0 Bd3 λ(t,row,names) r hb hx=>⟨t.cols.length+names.length+1,by
 simp only[Atg,Agp] at hx;cases hl:decide (names.length<=2000000) with
 |false=>rw[hl] at hx;cases hx
 |true =>
  rw[hl] at hx;simp only[Af,Za1] at hx;rw[<-hx];simp only[Ajg];by_cases he:row.length=t.cols.length
  ·rw[Ze1 he,Ze1 (show(row.length:Int)=(t.cols.length:Int) by omega)];exact As7 (c:=some) hb.1.cols.1 he (of_decide_eq_true hl) _ (by omega) (λ_ _=>rfl) (λ_=>rfl) (by omega)
  ·rw[Zd1 he,Zd1 (show ¬(row.length:Int)=(t.cols.length:Int) by omega)];rfl⟩
noncomputable section
end
def Bgs(R:Type):Px R:=pxO [] [] [] []
def Vm(x:HV [.str]):Option (HV [.sv .val]):=match x with
 |s =>
 some (Val.mk 4 0 s)
theorem Bea:FO 75 [.str] [.sv .val] (Vm):=fR (px:=Bgs _) (n:=0) Tryz.func75 rfl (λ_ H=>⟨lv H Ae Aa Ab,Ai⟩) λ_=>by kernel_rfl
def A0o(s:Str):Val :=(Val.mk 4 0 s)
theorem Bcw(x:HV [.str]):Vm x=some (A0o x):=by
 first
  |exact rfl
  |simp only[Vm,A0o,Az]
def A7k:FT [.str] [.sv .val]:=λx=>some (A0o x)
theorem Bj8:FO 75 [.str] [.sv .val] A7k :=.fin0 Bea λx _ _ hx=>(Bcw x).trans hx
def Ae7:Sig:=⟨19,[(3,.sl .val true),(6,.sl .str false),(7,.int .i64),(8,.int .i64)],[],[],0,0,0,[],[]⟩
abbrev W3:=List Val×List Str×Int×Int
def Q1{R:Type}(rec:W3->Option R)(kx:Ex->W3->Option R)(v:W3):Option R:=match v with
 |(v,v1,v2,v3) =>
 cond (decide (v3<v2)) (
  chk (inb v3 v1.length) (
  chk (decide (v.length+1<=Ah)) (
   rec ((v++[(A0o (at' .str v1 v3))]),v1,v2,(wr .i64 (v3+1)))))) (
  kx (.exit 0) (v,v1,v2,v3))
def Apt(R:Type)(k:Nat):Px R:=pxO [(75,cA A7k)] [] [(3,Am k Ae7 (Q1))] []
def Kc(k:Nat)(x:HV [.sl .str false]):Option (HV [.sl .val true]):=match x with
 |l =>
 Aj (λrec=>Q1 rec (λe vz=>match vz with|(v4,_,_,_)=>match e with
  |.exit 0 =>
  some v4
  |_=>none)) k ([],l,(l.length:Int),0)
theorem A3j(k:Nat):FO 36 [.sl .str false] [.sl .val true] (Kc k):=fR (px:=Apt _ k) (n:=1) Tryz.func36 rfl (λcx H=>by have h0:Lv cx (Apt (HV [.sl .val true]) k):=lv H (c1 H Bj8 Ae) Aa Ab;have hlpwords_0:=lO H h0 (b:=lp Tryz.f36 0) (k:=k) (n:=0) (s:=Ae7) (step:=Q1) (λ_ _ _ (_,_,_,_)=>by kernel_rfl) Ai;exact⟨h0,(A6 Ai hlpwords_0)⟩) λ_=>by kernel_rfl
def N1(l:List Str):Option (List Val):=Kc 5000 l
def Yf:FT [.sl .str false] [.sl .val true]:=λx=>N1 x
theorem Abe:FO 36 [.sl .str false] [.sl .val true] Yf :=.fin 0 A3j λ_ _ _ hx=>⟨5000,hx⟩
def Amw:Sig:=⟨36,[(6,.sl .val true),(25,.sl .vals false),(26,.int .i64),(27,.int .i64)],[],[],0,0,0,[],[]⟩
abbrev Agz:=List Val×List (List Val)×Int×Int
def Alt{R:Type}(rec:Agz->Option R)(kx:Ex->Agz->Option R)(v:Agz):Option R:=match v with
 |(c,b,d,a) =>
 cond (decide (a<d)) (
  chk (inb a b.length) (
  chk (decide (c.length+(at' .vals b a).length<=Ah)) (
   rec ((c++(at' .vals b a)),b,d,(wr .i64 (a+1)))))) (
  kx (.exit 2) (c,b,d,a))
def Aoe:Sig:=⟨36,[(0,.sl .vals false),(3,.int .i64),(9,.sl .vals false),(10,.int .i64),(11,.int .i64)],[],[],0,0,0,[],[]⟩
abbrev Ai4:=List (List Val)×Int×List (List Val)×Int×Int
def Akw{R:Type}(rec:Ai4->Option R)(kx:Ex->Ai4->Option R)(v:Ai4):Option R:=match v with
 |(v,v1,v2,v3,v4) =>
 cond (decide (v4<v3)) (
  chk (inb v4 v2.length) (
  cond (decide ((wr .i64 (v1+((at' .vals v2 v4).length:Int)))<0)) (
   none) (
   rec (v,(wr .i64 (v1+((at' .vals v2 v4).length:Int))),v2,v3,(wr .i64 (v4+1)))))) (
  kx (.exit 0) (v,v1,v2,v3,v4))
def A8u(R:Type)(k:Nat):Px R:=pxO [(113,Aaf .val)] [] [(3,Am k Aoe (Akw)),(11,Am k Amw (Alt))] []
def R2(k:Nat)(x:HV [.sl .vals false]):Option (HV [.sl .val true]):=match x with
 |l =>
 Aj (λrec=>Akw rec (λe vz=>match vz with|(v5,v6,_,_,_)=>match e with
  |.exit 0 =>
  chk (decide ((0:Int)<=v6)&&decide (v6<=(2000000:Int))) (
   Aj (λrec=>Alt rec (λe vz=>match vz with|(a,_,_,_)=>match e with
   |.exit 2 =>some a
   |_=>none)) k ([],v5,(v5.length:Int),0))
  |_=>none)) k (l,0,l,(l.length:Int),0)
theorem Bh5(k:Nat):FO 74 [.sl .vals false] [.sl .val true] (R2 k):=fR (px:=A8u _ k) (n:=2) Tryz.func74 rfl (λcx H=>by have h0:Lv cx (A8u (HV [.sl .val true]) k):=lv H (Ao (Ap8 H Aj5) Ae) Aa Ab;have hlvcat_0:=lO H h0 (b:=lp Tryz.f74 0) (k:=k) (n:=0) (s:=Aoe) (step:=Akw) (λ_ _ _ (_,_,_,_,_)=>by kernel_rfl) Ai;have hlvcat_1:=lO H h0 (b:=lp Tryz.f74 1) (k:=k) (n:=0) (s:=Amw) (step:=Alt) (λ_ _ _ (_,_,_,_)=>by kernel_rfl) Ai;exact⟨h0,(A6 (A6 Ai hlvcat_0) hlvcat_1)⟩) λ_=>by kernel_rfl
def Btj(l:List (List Val)):Option (List Val):=R2 5000 l
def Bh1:FT [.sl .vals false] [.sl .val true]:=λx=>Btj x
theorem Bq5:FO 74 [.sl .vals false] [.sl .val true] Bh1 :=.fin 0 Bh5 λ_ _ _ hx=>⟨5000,hx⟩
def Bq2(R:Type):Px R:=pxO [(74,cA Bh1),(45,cA A3v)] [] [] []
def Adf(x:HV [.sl .vals false]):Option (HV [.sl .byte true,.int .i64]):=match x with
 |l =>
 (Btj l).bind λx =>
  (Bkr x).bind λ(x1,x2) =>
  some (x1,x2)
theorem Bld:FO 35 [.sl .vals false] [.sl .byte true,.int .i64] (Adf):=fR (px:=Bq2 _) (n:=0) Tryz.func35 rfl (λ_ H=>⟨lv H (c1 H Bq5 (c1 H Brj Ae)) Aa Ab,Ai⟩) λ_=>by kernel_rfl
def Acb(l:List (List Val)):Option (Str×Int):=Adf l
def Asa:FT [.sl .vals false] [.sl .byte true,.int .i64]:=λx=>Acb x
theorem Atr:FO 35 [.sl .vals false] [.sl .byte true,.int .i64] Asa :=.fin0 Bld λ_ _ _ hx=>hx
def Aj9:Sig:=⟨126,[(1,.sl .val false),(8,.sl .val true),(16,.sl .byte true),(71,.sl .col false),(72,.int .i64),(73,.int .i64)],[(2,.ptr 0 0),(4,.ptr 1 0),(5,.ptr 2 0),(6,.ptr 3 0),(7,.ptr 4 0)],[(0,.one (.sv .tbl)),(1,.cells [.sl .kv true,.int .i64]),(2,.cells [.sl .kv true,.int .i64]),(3,.cells [.sl .kv true,.int .i64]),(4,.cells [.sl .kv true,.int .i64])],5,0,0,[],[]⟩
abbrev R3:=List Val×List Val×List UInt8×List Col×Int×Int×Tbl×List KvS×Int×List KvS×Int×List KvS×Int×List KvS×Int
def Oz{R:Type}(rec:R3->Option R)(kx:Ex->R3->Option R)(v:R3):Option R:=match v with
 |(b,g,d,c,h,a,w9,i,j,k,l,e,m,f,n) =>
 cond (decide (a<h)) (
  chk (inb a c.length) (
  chk (inb a b.length) (
   cond (decide ((at' .val b a).kind=1)) (
   rec (b,g,d,c,h,(wr .i64 (a+1)),w9,i,j,k,l,e,m,f,n)) (
   let j3:=λ(o:List KvS) (p:Int) =>
    cond (!decide (((at' .col c a).ref)=[])) (
    (N1 [[102],((at' .col c a).ref)]).bind λu =>
     chk (upto a (wr .i64 (a+1)) b.length) (
     (N1 [w9.name,((at' .col c a).name)]).bind λw =>
      (Acb [u,(cut b a (wr .i64 (a+1))),w,g]).bind λ(q,r) =>
      let j2:=λ(x:Int) =>
       cond (decide (n=0)) (
       chk (decide (f.length+1<=Ah)) (
        rec (b,g,d,c,h,(wr .i64 (a+1)),w9,i,j,k,l,o,p,(f++[(KvS.mk q [])]),x))) (
       chk (decide (f.length+1<=Ah)) (
        rec (b,g,d,c,h,(wr .i64 (a+1)),w9,i,j,k,l,o,p,(f++[(KvS.mk q [])]),n)))
      cond (decide (r=0)) (
       cond (decide (200<(q.length:Int))) (
       j2 3) (
       j2 r)) (
       j2 r))) (
    rec (b,g,d,c,h,(wr .i64 (a+1)),w9,i,j,k,l,o,p,f,n))
   cond ((at' .col c a).unique) (
    (N1 [[117],w9.name,((at' .col c a).name)]).bind λy =>
    chk (upto a (wr .i64 (a+1)) b.length) (
     (Acb [y,(cut b a (wr .i64 (a+1)))]).bind λ(s,t) =>
     let j1:=λ(z:Int) =>
      cond (decide (m=0)) (
      chk (decide (e.length+1<=Ah)) (
       j3 (e++[(KvS.mk s d)]) z)) (
      chk (decide (e.length+1<=Ah)) (
       j3 (e++[(KvS.mk s d)]) m))
     cond (decide (t=0)) (
      cond (decide (200<(s.length:Int))) (
      j1 3) (
      cond (decide (4000<(d.length:Int))) (
       j1 3) (
       j1 t))) (
      j1 t))) (
    j3 e m))))) (
  kx (.exit 2) (b,g,d,c,h,a,w9,i,j,k,l,e,m,f,n))
def Ag0:Sig:=⟨126,[(1,.sl .val false),(8,.sl .val true),(42,.sl .idx false),(43,.int .i64),(44,.int .i64)],[(2,.ptr 0 0),(4,.ptr 1 0),(5,.ptr 2 0),(6,.ptr 3 0),(7,.ptr 4 0)],[(0,.one (.sv .tbl)),(1,.cells [.sl .kv true,.int .i64]),(2,.cells [.sl .kv true,.int .i64]),(3,.cells [.sl .kv true,.int .i64]),(4,.cells [.sl .kv true,.int .i64])],5,0,0,[],[]⟩
abbrev Tx:=List Val×List Val×List Idx×Int×Int×Tbl×List KvS×Int×List KvS×Int×List KvS×Int×List KvS×Int
def O2{R:Type}(rec:Tx->Option R)(kx:Ex->Tx->Option R)(v:Tx):Option R:=match v with
 |(v,v1,v2,v3,v4,w,w1,w2,w3,w4,w5,w6,w7,w8) =>
 cond (decide (v4<v3)) (
  chk (inb v4 v2.length) (
  (Agp w v ((at' .idx v2 v4).cols)).bind λ(x7,_) =>
   (N1 [[105],((at' .idx v2 v4).name)]).bind λx9 =>
   (Acb [x9,x7,v1]).bind λ(a,b) =>
    let j:=λ(p7:Int) =>
    cond (decide (w4=0)) (
     chk (decide (w3.length+1<=Ah)) (
     rec (v,v1,v2,v3,(wr .i64 (v4+1)),w,w1,w2,(w3++[(KvS.mk a [])]),p7,w5,w6,w7,w8))) (
     chk (decide (w3.length+1<=Ah)) (
     rec (v,v1,v2,v3,(wr .i64 (v4+1)),w,w1,w2,(w3++[(KvS.mk a [])]),w4,w5,w6,w7,w8)))
    cond (decide (b=0)) (
    cond (decide (200<(a.length:Int))) (
     j 3) (
     j b)) (
    j b))) (
  kx (.exit 0) (v,v1,v2,v3,v4,w,w1,w2,w3,w4,w5,w6,w7,w8))
def Ah5(R:Type)(_k:Nat):Px R:=pxO [(35,cA Asa)] [] [] []
def Aho(R:Type)(_k:Nat):Px R:=pxO [(35,cA Asa)] [] [] []
noncomputable def Ayf(R:Type)(k:Nat):Px R:=pxO [(57,cA Atg),(58,cA Bgw),(36,cA Yf),(59,Ui 40 200 (Ah5 R k) Tryz.f59 (A1 40 400 (Aho R k) Tryz.f59))] [(36,qA Yf)] [(5,Am k Ag0 (O2)),(12,Am k Aj9 (Oz))] []
def Nz(k:Nat)(x:HV [.sv .tbl,.sl .val false]):Option (HV [.sv .lay,.sv .lay,.sv .lay,.sv .lay]):=match x with
 |(t,r) =>
 (Agp t r t.key).bind λ(x,_) =>
  (A00 r).bind λ(x2,_) =>
  (N1 [[114],t.name]).bind λx4 =>
   (Acb [x4,x]).bind λ(x5,x6) =>
   let j4:=λ(q6:Int) =>
    Aj (λrec=>O2 rec (λe vz=>match vz with|(v5,v6,_,_,_,a,b,c,d,f,g,h,i,j)=>match e with
    |.exit 0 =>
     (A00 v6).bind λ(l,_) =>
     Aj (λrec=>Oz rec (λe vz=>match vz with|(_,_,_,_,_,_,_,m,n,o,p,q,s,u,v)=>match e with
      |.exit 2 =>
      some ((LayS.mk m n),(LayS.mk o p),(LayS.mk q s),(LayS.mk u v))
      |_=>none)) k (v5,v6,l,a.cols,(a.cols.length:Int),0,a,b,c,d,f,g,h,i,j)
    |_=>none)) k (r,x,t.idx,(t.idx.length:Int),0,t,[(KvS.mk x5 x2)],q6,[],0,[],0,[],0)
   cond (decide (x6=0)) (
    cond (decide (200<(x5.length:Int))) (
    j4 3) (
    cond (decide (4000<(x2.length:Int))) (
     j4 3) (
     j4 x6))) (
    j4 x6)
theorem Bbv(k:Nat):FO 26 [.sv .tbl,.sl .val false] [.sv .lay,.sv .lay,.sv .lay,.sv .lay] (Nz k):=fR (px:=Ayf _ k) (n:=2) Tryz.func26 rfl (λcx H=>by have h1:Lv cx (Ah5 (HV [.sv .lay,.sv .lay,.sv .lay,.sv .lay]) k):=lv H (c1 H Atr Ae) Aa Ab;have h2:Lv cx (Aho (HV [.sv .lay,.sv .lay,.sv .lay,.sv .lay]) k):=lv H (c1 H Atr Ae) Aa Ab;have h0:Lv cx (Ayf (HV [.sv .lay,.sv .lay,.sv .lay,.sv .lay]) k):=lv H (c1 H Bfx (c1 H Bn2 (c1 H Abe (Ao (Axa (cR H h1 Tryz.func59 rfl (n:=0) (Ai)) (cR H h2 Tryz.func59 rfl (n:=0) (Ai))) Ae)))) (q1 H Abe Aa) Ab;have hlpents_0:=lO H h0 (b:=lp Tryz.f26 0) (k:=k) (n:=0) (s:=Ag0) (step:=O2) (λ_ _ _ (_,_,_,_,_,_,_,_,_,_,_,_,_,_)=>by kernel_rfl) Ai;have hlpents_1:=lO H h0 (b:=lp Tryz.f26 1) (k:=k) (n:=0) (s:=Aj9) (step:=Oz) (λ_ _ _ (_,_,_,_,_,_,_,_,_,_,_,_,_,_,_)=>by kernel_rfl) Ai;exact⟨h0,(A6 (A6 Ai hlpents_0) hlpents_1)⟩) λ(_,_)=>by kernel_rfl
def Ayt(t:Tbl)(r:List Val):Option (LayS×LayS×LayS×LayS):=Nz 5000 (t,r)
def Ash:FT [.sv .tbl,.sl .val false] [.sv .lay,.sv .lay,.sv .lay,.sv .lay]:=λx=>Ayt x.1 x.2
theorem Azi:FO 26 [.sv .tbl,.sl .val false] [.sv .lay,.sv .lay,.sv .lay,.sv .lay] Ash :=.fin 0 Bbv λ_ _ _ hx=>⟨5000,hx⟩
def Aqs:Sig:=⟨49,[(4,.sl .kv true),(5,.int .i64),(7,.sl .kv true),(32,.sl .lay true),(33,.int .i64),(34,.int .i64)],[],[],0,0,0,[],[]⟩
abbrev Aav:=List KvS×Int×List KvS×List LayS×Int×Int
def Adc{R:Type}(rec:Aav->Option R)(kx:Ex->Aav->Option R)(v:Aav):Option R:=match v with
 |(v,v1,v2,v3,v4,v5) =>
 cond (decide (v5<v4)) (
  chk (inb v5 v3.length) (
  cond (!decide ((at' .lay v3 v5).e=0)) (
   kx .ret ([],(at' .lay v3 v5).e,v2,v3,v4,v5)) (
   chk (decide (v2.length+((at' .lay v3 v5).l).length<=Ah)) (
   rec (v,v1,(v2++((at' .lay v3 v5).l)),v3,v4,(wr .i64 (v5+1))))))) (
  kx (.exit 0) (v,v1,v2,v3,v4,v5))
def A9f(R:Type)(k:Nat):Px R:=pxO [(25,cA Art),(26,cA Ash)] [] [(7,Am k Aqs (Adc))] []
def Tv(k:Nat)(x:HV [.sv .tbl,.sl .val false]):Option (HV [.sl .kv true,.int .i64]):=match x with
 |(t,r) =>
 (O5 t r).bind λx =>
  cond (!decide (x=0)) (
  some ([],x)) (
  (Ayt t r).bind λ(x1,x2,x3,x4) =>
   Aj (λrec=>Adc rec (λe vz=>match vz with|(v6,v7,v8,_,_,_)=>match e with
   |.ret =>some (v6,v7)
   |.exit 0 =>some (v8,0)
   |_=>none)) k ([],0,[],[x1,x2,x3,x4],4,0))
theorem Bks(k:Nat):FO 9 [.sv .tbl,.sl .val false] [.sl .kv true,.int .i64] (Tv k):=fR (px:=A9f _ k) (n:=1) Tryz.func9 rfl (λcx H=>by have h0:Lv cx (A9f (HV [.sl .kv true,.int .i64]) k):=lv H (c1 H Azo (c1 H Azi Ae)) Aa Ab;have hlpEnt_0:=lO H h0 (b:=lp Tryz.f9 0) (k:=k) (n:=0) (s:=Aqs) (step:=Adc) (λ_ _ _ (_,_,_,_,_,_)=>by kernel_rfl) Ai;exact⟨h0,(A6 Ai hlpEnt_0)⟩) λ(_,_)=>by kernel_rfl
def Bs3(t:Tbl)(r:List Val):Option (List KvS×Int):=Tv 5000 (t,r)
def Bfc:FT [.sv .tbl,.sl .val false] [.sl .kv true,.int .i64]:=λx=>Bs3 x.1 x.2
theorem Bps:FO 9 [.sv .tbl,.sl .val false] [.sl .kv true,.int .i64] Bfc :=.fin 0 Bks λ_ _ _ hx=>⟨5000,hx⟩
def Arf:Sig:=⟨59,[(1,.int .i64),(4,.int .u64),(5,.int .i64),(6,.int .i64),(7,.int .u64),(8,.int .i64),(21,.sl .byte false),(22,.int .i64),(23,.int .i64)],[],[],0,0,0,[],[]⟩
abbrev Pl:=Int×Int×Int×Int×Int×Int×List UInt8×Int×Int
def N4{R:Type}(rec:Pl->Option R)(kx:Ex->Pl->Option R)(v:Pl):Option R:=match v with
 |(v,v1,v2,v3,v4,v5,v6,v7,v8) =>
 cond (decide (v8<v7)) (
  chk (inb v8 v6.length) (
  let j1:=λ(_:Unit) =>
   chk (decide (0<=(wr .i64 (7*v8)))) (
   cond (decide (((at' .byte v6 v8).toNat:Int)<128)) (
    kx .ret (v,(ior .u64 v4 (Afq .u64 (wr .u64 (Gy .u8 ((at' .byte v6 v8).toNat:Int) 127)) (wr .i64 (7*v8)))),(wr .i64 ((wr .i64 (v+v8))+1)),0,(ior .u64 v4 (Afq .u64 (wr .u64 (Gy .u8 ((at' .byte v6 v8).toNat:Int) 127)) (wr .i64 (7*v8)))),v5,v6,v7,v8)) (
    rec (v,v1,v2,v3,(ior .u64 v4 (Afq .u64 (wr .u64 (Gy .u8 ((at' .byte v6 v8).toNat:Int) 127)) (wr .i64 (7*v8)))),v5,v6,v7,(wr .i64 (v8+1)))))
  let j:=λ(p4:Bool) =>
   cond (p4) (
   kx (.exit 0) (v,v1,v2,v3,v4,11,v6,v7,v8)) (
   cond (decide (((at' .byte v6 v8).toNat:Int)=0)) (
    cond (decide (0<v8)) (
    kx (.exit 0) (v,v1,v2,v3,v4,11,v6,v7,v8)) (
    j1 ())) (
    j1 ()))
  cond (decide (v8=9)) (
   j (decide (1<((at' .byte v6 v8).toNat:Int)))) (
   j false))) (
  kx (.exit 0) (v,v1,v2,v3,v4,v5,v6,v7,v8))
def A8p(R:Type)(k:Nat):Px R:=pxO [] [] [(6,Am k Arf (N4))] []
def Acc(k:Nat)(x:HV [.sl .byte false,.int .i64]):Option (HV [.int .u64,.int .i64,.int .i64]):=match x with
 |(b,p) =>
 cond (decide (p<0)) (
  some (0,0,2)) (
  cond (decide ((b.length:Int)<p)) (
  some (0,0,2)) (
  chk (upto p b.length b.length) (
   Aj (λrec=>N4 rec (λe vz=>match vz with|(_,a,c,d,_,f,_,_,_)=>match e with
   |.ret =>some (a,c,d)
   |.exit 0 =>some (0,0,f)
   |_=>none)) k (p,0,0,0,0,10,(b.drop (p:Int).toNat),((b.drop (p:Int).toNat).length:Int),0))))
theorem Bij(k:Nat):FO 116 [.sl .byte false,.int .i64] [.int .u64,.int .i64,.int .i64] (Acc k):=fR (px:=A8p _ k) (n:=1) Tryz.func116 rfl (λcx H=>by have h0:Lv cx (A8p (HV [.int .u64,.int .i64,.int .i64]) k):=lv H Ae Aa Ab;have hlvget_0:=lO H h0 (b:=lp Tryz.f116 0) (k:=k) (n:=0) (s:=Arf) (step:=N4) (λ_ _ _ (_,_,_,_,_,_,_,_,_)=>by kernel_rfl) Ai;exact⟨h0,(A6 Ai hlvget_0)⟩) λ(_,_)=>by kernel_rfl
def Amq(b:Str)(p:Int):Option (Int×Int×Int):=Acc 100 (b,p)
def Ack:FT [.sl .byte false,.int .i64] [.int .u64,.int .i64,.int .i64]:=λx=>Amq x.1 x.2
theorem Yg:FO 116 [.sl .byte false,.int .i64] [.int .u64,.int .i64,.int .i64] Ack :=.fin 0 Bij λ_ _ _ hx=>⟨100,hx⟩
def Bmo(R:Type):Px R:=pxO [(116,cA Ack)] [] [] []
def We(x:HV [.sl .byte false,.int .i64]):Option (HV [.sl .byte true,.int .i64,.int .i64]):=match x with
 |(b,p) =>
 (Amq b p).bind λ(x,x1,x2) =>
  cond (!decide (x2=0)) (
  some ([],0,x2)) (
  cond (decide (1048576<x)) (
   some ([],0,3)) (
   cond (decide ((wr .u64 (wr .i64 ((b.length:Int)-x1)))<x)) (
   some ([],0,10)) (
   chk (upto x1 (wr .i64 (x1+(wr .i64 x))) b.length) (
    chk (decide (0+(cut b x1 (wr .i64 (x1+(wr .i64 x)))).length<=Ah)) (
    some (([]++(cut b x1 (wr .i64 (x1+(wr .i64 x))))),(wr .i64 (x1+(wr .i64 x))),0))))))
theorem Baq:FO 206 [.sl .byte false,.int .i64] [.sl .byte true,.int .i64,.int .i64] (We):=fR (px:=Bmo _) (n:=0) Tryz.func206 rfl (λ_ H=>⟨lv H (c1 H Yg Ae) Aa Ab,Ai⟩) λ(_,_)=>by kernel_rfl
def A5n(b:Str)(p:Int):Option (Str×Int×Int):=We (b,p)
def A6z:FT [.sl .byte false,.int .i64] [.sl .byte true,.int .i64,.int .i64]:=λx=>A5n x.1 x.2
theorem Bfb:FO 206 [.sl .byte false,.int .i64] [.sl .byte true,.int .i64,.int .i64] A6z :=.fin0 Baq λ_ _ _ hx=>hx
def Be4(R:Type):Px R:=pxO [(116,cA Ack)] [] [] []
def Xc(x:HV [.sl .byte false,.int .i64]):Option (HV [.int .i64,.int .i64,.int .i64]):=match x with
 |(b,p) =>
 (Amq b p).bind λ(x,x1,x2) =>some ((Xk .i64 (wr .i64 (D5 .u64 x 1)) (wr .i64 (0-(wr .i64 (Gy .u64 x 1))))),x1,x2)
theorem A99:FO 205 [.sl .byte false,.int .i64] [.int .i64,.int .i64,.int .i64] (Xc):=fR (px:=Be4 _) (n:=0) Tryz.func205 rfl (λ_ H=>⟨lv H (c1 H Yg Ae) Aa Ab,Ai⟩) λ(_,_)=>by kernel_rfl
def A7b(b:Str)(p:Int):Option (Int×Int×Int):=Xc (b,p)
def A9j:FT [.sl .byte false,.int .i64] [.int .i64,.int .i64,.int .i64]:=λx=>A7b x.1 x.2
theorem Bml:FO 205 [.sl .byte false,.int .i64] [.int .i64,.int .i64,.int .i64] A9j :=.fin0 A99 λ_ _ _ hx=>hx
def Atb:Sig:=⟨1,[],[(0,.ptr 0 0)],[(0,.cells [.sl .byte false,.int .i64,.int .i64])],1,1,0,[],[]⟩
def Atj:Sig:=⟨1,[(0,.int .u8)],[],[(0,.cells [.sl .byte false,.int .i64,.int .i64])],1,1,0,[],[]⟩
abbrev Bie:=List UInt8×Int×Int
abbrev Bhl:=Int×List UInt8×Int×Int
def Boc(R:Type):Px R:=pxO [] [] [] []
def Acp(x:Bie):Option (Bhl):=match x with
 |(b,p,e) =>
 cond (decide (p=(b.length:Int))) (
  some (0,b,p,10)) (
  chk (inb (wr .i64 ((wr .i64 (p+1))-1)) b.length) (
  some (((at' .byte b (wr .i64 ((wr .i64 (p+1))-1))).toNat:Int),b,(wr .i64 (p+1)),e)))
theorem Bm7:FM 159 Atb Atj (Acp):=fRL (px:=Boc _) (n:=0) Tryz.func159 rfl (λ_ H=>⟨lv H Ae Aa Ab,Ai⟩) λ(_,_,_)=>by kernel_rfl
def Qz:Bie->Option Bhl:=λx=>Acp x
theorem Bnq:FM 159 Atb Atj (Qz):=Bm7
def Wv:Sig:=⟨1,[],[(0,.ptr 0 0)],[(0,.cells [.sl .byte false,.int .i64,.int .i64])],1,1,0,[],[]⟩
def Wy:Sig:=⟨1,[(0,.int .i64)],[],[(0,.cells [.sl .byte false,.int .i64,.int .i64])],1,1,0,[],[]⟩
abbrev Aqk:=List UInt8×Int×Int
abbrev Aqt:=Int×List UInt8×Int×Int
def A3w(R:Type):Px R:=pxO [] [(205,qA A9j)] [] []
def Oa(x:Aqk):Option (Aqt):=match x with
 |(b,p,_) =>
 (A7b b p).bind λ(x,x1,x2) =>some (x,b,x1,x2)
theorem Ayu:FM 160 Wv Wy (Oa):=fRL (px:=A3w _) (n:=0) Tryz.func160 rfl (λ_ H=>⟨lv H Ae (q1 H Bml Aa) Ab,Ai⟩) λ(_,_,_)=>by kernel_rfl
def Li:Aqk->Option Aqt:=λx=>Oa x
theorem A2u:FM 160 Wv Wy (Li):=Ayu
def Aji:Sig:=⟨1,[],[(0,.ptr 0 0)],[(0,.cells [.sl .byte false,.int .i64,.int .i64])],1,1,0,[],[]⟩
def Ai3:Sig:=⟨1,[(0,.str)],[],[(0,.cells [.sl .byte false,.int .i64,.int .i64])],1,1,0,[],[]⟩
abbrev A9a:=List UInt8×Int×Int
abbrev A9c:=Str×List UInt8×Int×Int
def Bni(R:Type):Px R:=pxO [] [(116,qA Ack),(206,qA A6z)] [] []
def Vv(x:A9a):Option (A9c):=match x with
 |(b,p,_) =>
 (Amq b p).bind λ(x,_,x2) =>
  let j:=λ(p3:Int) =>
  cond (!decide (p3=0)) (
   some ([],b,p,p3)) (
   (A5n b p).bind λ(x3,x4,x5) =>
   cond (decide (x5=0)) (
    some (x3,b,x4,x5)) (
    some (x3,b,p,x5)))
  cond (decide (x2=0)) (
  cond (decide (1000<x)) (
   j 11) (
   j x2)) (
  j x2)
theorem Bah:FM 161 Aji Ai3 (Vv):=fRL (px:=Bni _) (n:=0) Tryz.func161 rfl (λ_ H=>⟨lv H Ae (q1 H Yg (q1 H Bfb Aa)) Ab,Ai⟩) λ(_,_,_)=>by kernel_rfl
def Su:A9a->Option A9c:=λx=>Vv x
theorem Bft:FM 161 Aji Ai3 (Su):=Bah
def Nw:Sig:=⟨2,[(1,.sv .val)],[(0,.ptr 0 0)],[(0,.cells [.sl .byte false,.int .i64,.int .i64])],1,1,0,[],[]⟩
def Ov:Sig:=⟨1,[(0,.bool)],[],[(0,.cells [.sl .byte false,.int .i64,.int .i64])],1,1,0,[],[]⟩
abbrev Aq5:=Val×List UInt8×Int×Int
abbrev Ab0:=Bool×List UInt8×Int×Int
def Yp:Sig:=⟨53,[(4,.bool),(40,.sl .byte false),(41,.int .i64),(42,.int .i64)],[],[(0,.cells [.sl .byte false,.int .i64,.int .i64])],1,1,0,[],[]⟩
abbrev P8:=Bool×List UInt8×Int×Int×List UInt8×Int×Int
def Aby{R:Type}(rec:P8->Option R)(kx:Ex->P8->Option R)(v:P8):Option R:=match v with
 |(v1,v2,v3,v4,w,w1,w2) =>
 cond (decide (v4<v3)) (
  chk (inb v4 v2.length) (
  cond (decide (((at' .byte v2 v4).toNat:Int)<32)) (
   kx .ret (false,v2,v3,v4,w,w1,w2)) (
   cond (decide (126<((at' .byte v2 v4).toNat:Int))) (
   kx .ret (false,v2,v3,v4,w,w1,w2)) (
   rec (v1,v2,v3,(wr .i64 (v4+1)),w,w1,w2))))) (
  kx (.exit 0) (v1,v2,v3,v4,w,w1,w2))
def Ahe(R:Type)(k:Nat):Px R:=pxO [] [(116,qA Ack)] [(7,Am k Yp (Aby))] []
def Iy(k:Nat)(x:Aq5):Option (Ab0):=match x with
 |(v,b,p,e) =>
 cond (!decide (v.kind=4)) (
  some (true,b,p,e)) (
  cond (!decide (e=10)) (
  some (true,b,p,e)) (
  (Amq b p).bind λ(_,x1,x2) =>
   cond (!decide (x2=0)) (
   some (true,b,p,e)) (
   chk (upto x1 b.length b.length) (
    Aj (λrec=>Aby rec (λe vz=>match vz with|(v5,_,_,_,v9,a,c)=>match e with
    |.ret =>some (v5,v9,a,c)
    |.exit 0 =>some (true,v9,a,c)
    |_=>none)) k (false,(b.drop (x1:Int).toNat),((b.drop (x1:Int).toNat).length:Int),0,b,p,e)))))
theorem Awc(k:Nat):FM 162 Nw Ov (Iy k):=fRL (px:=Ahe _ k) (n:=1) Tryz.func162 rfl (λcx H=>by have h0:Lv cx (Ahe (Ab0) k):=lv H Ae (q1 H Yg Aa) Ab;have hlwprefix_0:=lO H h0 (b:=lp Tryz.f162 0) (k:=k) (n:=0) (s:=Yp) (step:=Aby) (λ_ _ _ (_,_,_,_,_,_,_)=>by kernel_rfl) Ai;exact⟨h0,(A6 Ai hlwprefix_0)⟩) λ(_,_,_,_)=>by kernel_rfl
def Mi:Aq5->Option Ab0:=λx=>Iy (50000) x
theorem A3r:FM 162 Nw Ov (Mi):=FnLn.fin (ι:=Nat) (sg:=Nw) (so:=Ov) 0 (F:=λk=>Iy k) (λk=>Awc k) λ_ _ _ hx=>⟨50000,hx⟩
def Abp:Sig:=⟨1,[],[(0,.ptr 0 0)],[(0,.cells [.sl .byte false,.int .i64,.int .i64])],1,1,0,[],[]⟩
def Abc:Sig:=⟨1,[(0,.sv .val)],[],[(0,.cells [.sl .byte false,.int .i64,.int .i64])],1,1,0,[],[]⟩
abbrev A0m:=List UInt8×Int×Int
abbrev Z9:=Val×List UInt8×Int×Int
def A92(R:Type):Px R:=pxO [(159,Cs Atb Atj Qz),(160,Cs Wv Wy Li),(161,Cs Aji Ai3 Su),(80,cA Qb),(162,Cs Nw Ov Mi)] [] [] []
def Aed(x:A0m):Option (Z9):=match x with
 |(b,p,e) =>
 (Qz (b,p,e)).bind λ(x,x1,x2,x3) =>
  cond (!decide (x3=0)) (
  some ((Val.mk (wr .i64 x) 0 []),x1,x2,x3)) (
  let j2:=λ(q:List UInt8) (q1:Int) (q2:Int) (q3:Val) =>
   let j1:=λ(p2:Bool) =>
   cond (p2) (
    some (q3,q,q1,11)) (
    (Mi (q3,q,q1,q2)).bind λ(d,a,c,f) =>
    cond (!d) (
     some (q3,a,c,11)) (
     some (q3,a,c,f)))
   cond (decide (q2=0)) (
   j1 (!decide ((Ei q3)=0))) (
   j1 false)
  cond (decide ((wr .i64 x)=1)) (
   j2 x1 x2 x3 (Val.mk (wr .i64 x) 0 [])) (
   cond (decide ((wr .i64 x)=2)) (
   (Qz (x1,x2,x3)).bind λ(x4,x5,x6,x7) =>j2 x5 x6 x7 (Val.mk (wr .i64 x) (wr .i64 x4) [])) (
   cond (decide ((wr .i64 x)=3)) (
    (Li (x1,x2,x3)).bind λ(x8,x9,g,h) =>
    j2 x9 g h (Val.mk (wr .i64 x) x8 [])) (
    let j:=λ(p1:Bool) =>
    cond (p1) (
     (Su (x1,x2,x3)).bind λ(i,k,l,m) =>
     j2 k l m (Val.mk (wr .i64 x) 0 i)) (
     j2 x1 x2 11 (Val.mk (wr .i64 x) 0 []))
    cond (decide ((wr .i64 x)=4)) (
    j (decide ((wr .i64 x)=4))) (
    j (decide ((wr .i64 x)=5)))))))
theorem A11:FM 117 Abp Abc (Aed):=fRL (px:=A92 _) (n:=0) Tryz.func117 rfl (λ_ H=>⟨lv H (l1 H Bnq (l1 H A2u (l1 H Bft (c1 H Uq (l1 H A3r Ae))))) Aa Ab,Ai⟩) λ(_,_,_)=>by kernel_rfl
def Pj:A0m->Option Z9:=λx=>Aed x
theorem Bcs:FM 117 Abp Abc (Pj):=A11
def Ap9:Sig:=⟨67,[(0,.sl .byte false),(8,.sl .val true),(26,.int .u64),(27,.int .u64)],[(7,.ptr 0 0)],[(0,.cells [.sl .byte false,.int .i64,.int .i64])],1,0,0,[],[]⟩
abbrev X1:=List UInt8×List Val×Int×Int×List UInt8×Int×Int
def Abz{R:Type}(rec:X1->Option R)(kx:Ex->X1->Option R)(v:X1):Option R:=match v with
 |(v,v1,v2,v3,w,w1,w2) =>
 cond (decide (v3<v2)) (
  (Pj (w,w1,w2)).bind λ(x3,x4,x5,x6) =>
  chk (decide (v1.length+1<=Ah)) (
   cond (!decide (x6=0)) (
   kx (.exit 1) (v,(v1++[x3]),v2,v3,x4,x5,x6)) (
   rec (v,(v1++[x3]),v2,(wr .u64 (v3+1)),x4,x5,x6)))) (
  kx (.exit 1) (v,v1,v2,v3,w,w1,w2))
def A51(R:Type)(k:Nat):Px R:=pxO [(116,cA Ack),(117,Cs Abp Abc Pj)] [] [(9,Am k Ap9 (Abz))] []
def Acx(k:Nat)(x:HV [.sl .byte false]):Option (HV [.sl .val true,.int .i64]):=match x with
 |b =>
 (Amq b 0).bind λ(x,x1,x2) =>
  cond (!decide (x2=0)) (
  some ([],x2)) (
  cond (decide (100<x)) (
   some ([],11)) (
   Aj (λrec=>Abz rec (λe vz=>match vz with|(v4,v5,_,_,_,v9,a)=>match e with
   |.exit 1 =>
    cond (decide (a=0)) (
    cond (decide (v9<(v4.length:Int))) (
     some ([],11)) (
     cond (!decide (a=0)) (
     some ([],a)) (
     some (v5,0)))) (
    cond (!decide (a=0)) (
     some ([],a)) (
     some (v5,0)))
   |_=>none)) k (b,[],x,0,b,x1,0)))
theorem Bj7(k:Nat):FO 77 [.sl .byte false] [.sl .val true,.int .i64] (Acx k):=fR (px:=A51 _ k) (n:=1) Tryz.func77 rfl (λcx H=>by have h0:Lv cx (A51 (HV [.sl .val true,.int .i64]) k):=lv H (c1 H Yg (l1 H Bcs Ae)) Aa Ab;have hlwdec_0:=lO H h0 (b:=lp Tryz.f77 0) (k:=k) (n:=0) (s:=Ap9) (step:=Abz) (λ_ _ _ (_,_,_,_,_,_,_)=>by kernel_rfl) Ai;exact⟨h0,(A6 Ai hlwdec_0)⟩) λ_=>by kernel_rfl
def A29(b:Str):Option (List Val×Int):=Acx 5000 b
def Bjh:FT [.sl .byte false] [.sl .val true,.int .i64]:=λx=>A29 x
theorem Bor:FO 77 [.sl .byte false] [.sl .val true,.int .i64] Bjh :=.fin 0 Bj7 λ_ _ _ hx=>⟨5000,hx⟩
noncomputable section
def Bg5(R:Type):Px R:=pxO [(77,cA Bjh),(25,cA Art)] [] [] []
def Xd(x:HV [.sv .tbl,.sl .byte false]):Option (HV [.sl .val true,.int .i64]):=match x with
 |(t,b) =>
 (A29 b).bind λ(x,x1) =>
  cond (!decide (x1=0)) (
  some ([],11)) (
  (O5 t x).bind λx2 =>
   cond (!decide (x2=0)) (
   some ([],11)) (
   some (x,0)))
theorem A9o:FO 39 [.sv .tbl,.sl .byte false] [.sl .val true,.int .i64] (Xd):=fR (px:=Bg5 _) (n:=0) Tryz.func39 rfl (λ_ H=>⟨lv H (c1 H Bor (c1 H Azo Ae)) Aa Ab,Ai⟩) λ(_,_)=>by kernel_rfl
def Aiw(t:Tbl)(b:Str):Option (List Val×Int):=Xd (t,b)
def A8t:FT [.sv .tbl,.sl .byte false] [.sl .val true,.int .i64]:=λx=>Aiw x.1 x.2
theorem Bio:FO 39 [.sv .tbl,.sl .byte false] [.sl .val true,.int .i64] A8t :=.fin0 A9o λ_ _ _ hx=>hx
def Anh:Sig:=⟨36,[(6,.sl .kv true),(25,.sl .kvs false),(26,.int .i64),(27,.int .i64)],[],[],0,0,0,[],[]⟩
abbrev Aae:=List KvS×List (List KvS)×Int×Int
def Wi{R:Type}(rec:Aae->Option R)(kx:Ex->Aae->Option R)(v:Aae):Option R:=match v with
 |(c,b,d,a) =>
 cond (decide (a<d)) (
  chk (inb a b.length) (
  chk (decide (c.length+(at' .kvs b a).length<=Ah)) (
   rec ((c++(at' .kvs b a)),b,d,(wr .i64 (a+1)))))) (
  kx (.exit 2) (c,b,d,a))
def Aqv:Sig:=⟨36,[(0,.sl .kvs false),(3,.int .i64),(9,.sl .kvs false),(10,.int .i64),(11,.int .i64)],[],[],0,0,0,[],[]⟩
abbrev Yt:=List (List KvS)×Int×List (List KvS)×Int×Int
def Ww{R:Type}(rec:Yt->Option R)(kx:Ex->Yt->Option R)(v:Yt):Option R:=match v with
 |(v,v1,v2,v3,v4) =>
 cond (decide (v4<v3)) (
  chk (inb v4 v2.length) (
  cond (decide ((wr .i64 (v1+((at' .kvs v2 v4).length:Int)))<0)) (
   none) (
   rec (v,(wr .i64 (v1+((at' .kvs v2 v4).length:Int))),v2,v3,(wr .i64 (v4+1)))))) (
  kx (.exit 0) (v,v1,v2,v3,v4))
def A74(R:Type)(k:Nat):Px R:=pxO [(70,Aaf .kv)] [] [(3,Am k Aqv (Ww)),(11,Am k Anh (Wi))] []
def Ab1(k:Nat)(x:HV [.sl .kvs false]):Option (HV [.sl .kv true]):=match x with
 |l =>
 Aj (λrec=>Ww rec (λe vz=>match vz with|(v5,v6,_,_,_)=>match e with
  |.exit 0 =>
  chk (decide ((0:Int)<=v6)&&decide (v6<=(2000000:Int))) (
   Aj (λrec=>Wi rec (λe vz=>match vz with|(a,_,_,_)=>match e with
   |.exit 2 =>some a
   |_=>none)) k ([],v5,(v5.length:Int),0))
  |_=>none)) k (l,0,l,(l.length:Int),0)
theorem Bkg(k:Nat):FO 31 [.sl .kvs false] [.sl .kv true] (Ab1 k):=fR (px:=A74 _ k) (n:=2) Tryz.func31 rfl (λcx H=>by have h0:Lv cx (A74 (HV [.sl .kv true]) k):=lv H (Ao (Ap8 H Apd) Ae) Aa Ab;have hlkcat_0:=lO H h0 (b:=lp Tryz.f31 0) (k:=k) (n:=0) (s:=Aqv) (step:=Ww) (λ_ _ _ (_,_,_,_,_)=>by kernel_rfl) Ai;have hlkcat_1:=lO H h0 (b:=lp Tryz.f31 1) (k:=k) (n:=0) (s:=Anh) (step:=Wi) (λ_ _ _ (_,_,_,_)=>by kernel_rfl) Ai;exact⟨h0,(A6 (A6 Ai hlkcat_0) hlkcat_1)⟩) λ_=>by kernel_rfl
def Bo6(l:List (List KvS)):Option (List KvS):=Ab1 100 l
def Bib:FT [.sl .kvs false] [.sl .kv true]:=λx=>Bo6 x
theorem Bqi:FO 31 [.sl .kvs false] [.sl .kv true] Bib :=.fin 0 Bkg λ_ _ _ hx=>⟨100,hx⟩
def Afx:Sig:=⟨3,[(1,.sv .tbl),(2,.sl .val false)],[(0,.ptr 0 0)],[(0,.cells [.int .i64,.sl .byte false,.bool,.sl .byte false,.sl .node false,.sl .byte false,.sl .stt false,.sl .byte false])],1,1,0,[],[]⟩
def Afv:Sig:=⟨1,[(0,.int .i64)],[],[(0,.cells [.int .i64,.sl .byte false,.bool,.sl .byte false,.sl .node false,.sl .byte false,.sl .stt false,.sl .byte false])],1,1,0,[],[]⟩
abbrev Bgp:=Tbl×List Val×Int×List UInt8×Bool×List UInt8×List NodeS×List UInt8×List NodeS×List UInt8
abbrev A4d:=Int×Int×List UInt8×Bool×List UInt8×List NodeS×List UInt8×List NodeS×List UInt8
def Apg:Sig:=⟨89,[(6,.int .i64),(73,.sl .kv true),(74,.int .i64),(75,.int .i64)],[(0,.ptr 0 0)],[(0,.cells [.int .i64,.sl .byte false,.bool,.sl .byte false,.sl .node false,.sl .byte false,.sl .stt false,.sl .byte false])],1,1,0,[],[]⟩
abbrev Yb:=Int×List KvS×Int×Int×Int×List UInt8×Bool×List UInt8×List NodeS×List UInt8×List NodeS×List UInt8
def Aca{R:Type}(rec:Yb->Option R)(kx:Ex->Yb->Option R)(v:Yb):Option R:=match v with
 |(d,b,c,a,w8,w9,e,f,g,h,i,j) =>
 cond (decide (a<c)) (
  chk (inb a b.length) (
  (Arl ((at' .kv b a).key,(at' .kv b a).val,w8,w9,e,f,g,h,i,j)).bind λ(k,l,m,n,o,p,q,r,s) =>
   cond (!decide (k=0)) (
   kx .ret (k,b,c,a,l,m,n,o,p,q,r,s)) (
   rec (d,b,c,(wr .i64 (a+1)),l,m,n,o,p,q,r,s)))) (
  kx (.exit 3) (d,b,c,a,w8,w9,e,f,g,h,i,j))
def Aqf:Sig:=⟨89,[(6,.int .i64),(7,.sl .kv true),(45,.sl .kv true),(46,.int .i64),(47,.int .i64)],[(0,.ptr 0 0)],[(0,.cells [.int .i64,.sl .byte false,.bool,.sl .byte false,.sl .node false,.sl .byte false,.sl .stt false,.sl .byte false])],1,1,0,[],[]⟩
abbrev Ye:=Int×List KvS×List KvS×Int×Int×Int×List UInt8×Bool×List UInt8×List NodeS×List UInt8×List NodeS×List UInt8
def Ab7{R:Type}(rec:Ye->Option R)(kx:Ex->Ye->Option R)(v:Ye):Option R:=match v with
 |(v,v1,v2,v3,v4,w,w1,w2,w3,w4,w5,w6,w7) =>
 cond (decide (v4<v3)) (
  chk (inb v4 v2.length) (
  (Au2 ((at' .kv v2 v4).key,w,w1,w2,w3,w4,w5,w6,w7)).bind λ(_,x8,x9,a,b,c,d,e,f,g,h) =>
   cond (!decide (x9=0)) (
   kx .ret (x9,v1,v2,v3,v4,a,b,c,d,e,f,g,h)) (
   let j:=λ(p1:Bool) =>
    cond (p1) (
    kx .ret (180,v1,v2,v3,v4,a,b,c,d,e,f,g,h)) (
    cond (x8) (
     kx .ret (181,v1,v2,v3,v4,a,b,c,d,e,f,g,h)) (
     rec (v,v1,v2,v3,(wr .i64 (v4+1)),a,b,c,d,e,f,g,h)))
   cond (x8) (
    j (decide (v4=0))) (
    j false)))) (
  kx (.exit 0) (v,v1,v2,v3,v4,w,w1,w2,w3,w4,w5,w6,w7))
def A57(R:Type)(k:Nat):Px R:=pxO [(9,cA Bfc),(26,cA Ash),(31,cA Bib),(32,Cs Ary Arj Au2),(33,Cs Asd Ar7 Arl)] [] [(8,Am k Aqf (Ab7)),(19,Am k Apg (Aca))] []
def Ll(k:Nat)(x:Bgp):Option (A4d):=match x with
 |(t,r,a,b,c,d,e,f,g,h) =>
 (Bs3 t r).bind λ(x,x1) =>
  cond (!decide (x1=0)) (
  some (x1,a,b,c,d,e,f,g,h)) (
  (Ayt t r).bind λ(x2,_,x4,_) =>
   (Bo6 [x2.l,x4.l]).bind λx6 =>
   Aj (λrec=>Ab7 rec (λe vz=>match vz with|(v5,v6,_,_,_,i,j,m,n,o,p,q,s)=>match e with
    |.ret =>
    some (v5,i,j,m,n,o,p,q,s)
    |.exit 0 =>
    Aj (λrec=>Aca rec (λe vz=>match vz with|(a3,_,_,_,u,v,w,y,z,a0,a1,a2)=>match e with
     |.ret =>
     some (a3,u,v,w,y,z,a0,a1,a2)
     |.exit 3 =>
     some (0,u,v,w,y,z,a0,a1,a2)
     |_=>none)) k (v5,v6,(v6.length:Int),0,i,j,m,n,o,p,q,s)
    |_=>none)) k (0,x,x6,(x6.length:Int),0,a,b,c,d,e,f,g,h))
theorem Bgh(k:Nat):FM 13 Afx Afv (Ll k):=fRL (px:=A57 _ k) (n:=2) Tryz.func13 rfl (λcx H=>by have h0:Lv cx (A57 (A4d) k):=lv H (c1 H Bps (c1 H Azi (c1 H Bqi (l1 H Brt (l1 H Bru Ae))))) Aa Ab;have hlpIns_0:=lO H h0 (b:=lp Tryz.f13 0) (k:=k) (n:=0) (s:=Aqf) (step:=Ab7) (λ_ _ _ (_,_,_,_,_,_,_,_,_,_,_,_,_)=>by kernel_rfl) Ai;have hlpIns_1:=lO H h0 (b:=lp Tryz.f13 1) (k:=k) (n:=0) (s:=Apg) (step:=Aca) (λ_ _ _ (_,_,_,_,_,_,_,_,_,_,_,_)=>by kernel_rfl) Ai;exact⟨h0,(A6 (A6 Ai hlpIns_0) hlpIns_1)⟩) λ(_,_,_,_,_,_,_,_,_,_)=>by kernel_rfl
def Au3:Bgp->Option A4d:=λx=>Ll (5000) x
theorem Bpg:FM 13 Afx Afv (Au3):=FnLn.fin (ι:=Nat) (sg:=Afx) (so:=Afv) 0 (F:=λk=>Ll k) (λk=>Bgh k) λ_ _ _ hx=>⟨5000,hx⟩
def Yr:Sig:=⟨2,[(1,.sv .tbl)],[(0,.ptr 0 0)],[(0,.cells [.int .i64,.sl .byte false,.bool,.sl .byte false,.sl .node false,.sl .byte false,.sl .stt false,.sl .byte false])],1,1,0,[],[]⟩
def Aa2:Sig:=⟨2,[(0,.sl .vals true),(1,.int .i64)],[],[(0,.cells [.int .i64,.sl .byte false,.bool,.sl .byte false,.sl .node false,.sl .byte false,.sl .stt false,.sl .byte false])],1,1,0,[],[]⟩
abbrev A66:=Tbl×Int×List UInt8×Bool×List UInt8×List NodeS×List UInt8×List NodeS×List UInt8
abbrev Agl:=List (List Val)×Int×Int×List UInt8×Bool×List UInt8×List NodeS×List UInt8×List NodeS×List UInt8
def Aln:Sig:=⟨66,[(11,.sl .vals true),(12,.bool),(43,.sl .kv false),(44,.int .i64),(45,.int .i64)],[(3,.ptr 1 0)],[(0,.cells [.int .i64,.sl .byte false,.bool,.sl .byte false,.sl .node false,.sl .byte false,.sl .stt false,.sl .byte false]),(1,.one (.sv .tbl))],2,1,0,[],[]⟩
abbrev Tz:=List (List Val)×Bool×List KvS×Int×Int×Int×List UInt8×Bool×List UInt8×List NodeS×List UInt8×List NodeS×List UInt8×Tbl
def R5{R:Type}(rec:Tz->Option R)(kx:Ex->Tz->Option R)(v:Tz):Option R:=match v with
 |(v,v1,v2,v3,v4,w,w1,w2,w3,w4,w5,w6,w7,w8) =>
 cond (decide (v4<v3)) (
  chk (inb v4 v2.length) (
  (Aiw w8 ((at' .kv v2 v4).val)).bind λ(b,a) =>
   cond (!decide (a=0)) (
   kx (.exit 0) (v, !decide (a=0),v2,v3,v4,w,w1,w2,w3,w4,w5,w6,w7,w8)) (
   chk (decide (v.length+1<=Ah)) (
    rec ((v++[b]), !decide (a=0),v2,v3,(wr .i64 (v4+1)),w,w1,w2,w3,w4,w5,w6,w7,w8))))) (
  kx (.exit 0) (v,v1,v2,v3,v4,w,w1,w2,w3,w4,w5,w6,w7,w8))
def Ajq(R:Type)(_k:Nat):Px R:=pxO [(52,cA Yy)] [] [] []
noncomputable def Awn(R:Type)(k:Nat):Px R:=pxO [(36,cA Yf),(35,cA Asa),(38,cA Agk),(37,Cs Ada Abu Xp),(39,cA A8t),(34,A1 80 400 (Ajq R k) Tryz.f34)] [] [(11,Am k Aln (R5))] []
def Ge(k:Nat)(x:A66):Option (Agl):=match x with
 |(t,a,b,c,d,e,f,g,h) =>
 (Jx t).bind λx =>
  cond (!decide (x=0)) (
  some ([],x,a,b,c,d,e,f,g,h)) (
  (N1 [[114],t.name]).bind λx1 =>
   (Acb [x1]).bind λ(x2,_) =>
   (Awa x2).bind λx4 =>
    (Xp (x2,x4,9223372036854775807,a,b,c,d,e,f,g,h)).bind λ(x5,x6,x7,x8,x9,i,j,l,m,n) =>
    cond (!decide (x6=0)) (
     some ([],x6,x7,x8,x9,i,j,l,m,n)) (
     Aj (λrec=>R5 rec (λe vz=>match vz with|(v5,v6,_,_,_,o,p,q,r,s,u,v,w,_)=>match e with
     |.exit 0 =>
      cond (v6) (
      some ([],11,o,p,q,r,s,u,v,w)) (
      some (v5,0,o,p,q,r,s,u,v,w))
     |_=>none)) k ([],false,x5,(x5.length:Int),0,x7,x8,x9,i,j,l,m,n,t)))
theorem Bca(k:Nat):FM 14 Yr Aa2 (Ge k):=fRL (px:=Awn _ k) (n:=1) Tryz.func14 rfl (λcx H=>by have h1:Lv cx (Ajq (Agl) k):=lv H (c1 H Aol Ae) Aa Ab;have h0:Lv cx (Awn (Agl) k):=lv H (c1 H Abe (c1 H Atr (c1 H Ay5 (l1 H Bce (c1 H Bio (Ao (cR H h1 Tryz.func34 rfl (n:=0) (Ai)) Ae)))))) Aa Ab;have hlpScan_0:=lO H h0 (b:=lp Tryz.f14 0) (k:=k) (n:=0) (s:=Aln) (step:=R5) (λ_ _ _ (_,_,_,_,_,_,_,_,_,_,_,_,_,_)=>by kernel_rfl) Ai;exact⟨h0,(A6 Ai hlpScan_0)⟩) λ(_,_,_,_,_,_,_,_,_)=>by kernel_rfl
def Tr:A66->Option Agl:=λx=>Ge (5000) x
theorem Ble:FM 14 Yr Aa2 (Tr):=FnLn.fin (ι:=Nat) (sg:=Yr) (so:=Aa2) 0 (F:=λk=>Ge k) (λk=>Bca k) λ_ _ _ hx=>⟨5000,hx⟩
end
noncomputable section
def Ahn:Sig:=⟨40,[(1,.sl .val false),(2,.sl .str false),(6,.sl .val true),(7,.int .i64),(8,.sl .val true),(9,.int .i64)],[(3,.ptr 0 0)],[(0,.one (.sv .tbl))],1,0,0,[],[]⟩
abbrev Ac5:=List Val×List Str×List Val×Int×List Val×Int×Tbl
def Xz{R:Type}(rec:Ac5->Option R)(kx:Ex->Ac5->Option R)(v:Ac5):Option R:=match v with
 |(v,v1,v2,v3,v4,v5,w) =>
 cond (decide (v5<(v1.length:Int))) (
  chk (inb v5 v1.length) (
  cond (decide ((Bei w.cols (at' .str v1 v5))<0)) (
   kx .ret (v,v1,[],150,v4,v5,w)) (
   chk (inb (Bei w.cols (at' .str v1 v5)) v.length) (
   chk (decide (v4.length+1<=Ah)) (
    rec (v,v1,v2,v3,(v4++[(at' .val v (Bei w.cols (at' .str v1 v5)))]),(wr .i64 (v5+1)),w)))))) (
  kx (.exit 0) (v,v1,v2,v3,v4,v5,w))
def Azm(R:Type)(k:Nat):Px R:=pxO [(40,cA A15)] [] [(5,Am k Ahn (Xz))] []
def M4(k:Nat)(x:HV [.sv .tbl,.sl .val false,.sl .str false]):Option (HV [.sl .val true,.int .i64]):=match x with
 |(t,r,names) =>
 cond (!decide ((r.length:Int)=(t.cols.length:Int))) (
  some ([],2)) (
  Aj (λrec=>Xz rec (λe vz=>match vz with|(_,_,v8,v9,a,_,_)=>match e with
  |.ret =>some (v8,v9)
  |.exit 0 =>some (a,0)
  |_=>none)) k (r,names,[],0,[],0,t))
theorem Bcq(k:Nat):FO 15 [.sv .tbl,.sl .val false,.sl .str false] [.sl .val true,.int .i64] (M4 k):=fR (px:=Azm _ k) (n:=1) Tryz.func15 rfl (λcx H=>by have h0:Lv cx (Azm (HV [.sl .val true,.int .i64]) k):=lv H (c1 H Bq3 Ae) Aa Ab;have hldpick_0:=lO H h0 (b:=lp Tryz.f15 0) (k:=k) (n:=0) (s:=Ahn) (step:=Xz) (λ_ _ _ (_,_,_,_,_,_,_)=>by kernel_rfl) Ai;exact⟨h0,(A6 Ai hldpick_0)⟩) λ(_,_,_)=>by kernel_rfl
def Az0(t:Tbl)(r:List Val)(l:List Str):Option (List Val×Int):=M4 5000 (t,r,l)
def A6a:FT [.sv .tbl,.sl .val false,.sl .str false] [.sl .val true,.int .i64]:=λx=>Az0 x.1 x.2.1 x.2.2
theorem Bkp:FO 15 [.sv .tbl,.sl .val false,.sl .str false] [.sl .val true,.int .i64] A6a :=.fin 0 Bcq λ_ _ _ hx=>⟨5000,hx⟩
def Ah7:Sig:=⟨52,[(1,.sl .vals false),(5,.int .i64),(6,.int .i64),(7,.int .i64)],[],[],0,0,0,[],[]⟩
abbrev Ua:=List (List Val)×Int×Int×Int
def Aau{R:Type}(rec:Ua->Option R)(kx:Ex->Ua->Option R)(v:Ua):Option R:=match v with
 |(v3,v4,v5,v6) =>
 chk (inb v5 v3.length) (
  cond (decide (v6<((at' .vals v3 v5).length:Int))) (
  chk (inb v5 v3.length) (
   chk (inb v6 ((at' .vals v3 v5).length)) (
   rec (v3,(wr .i64 (v4+(wr .i64 (Int.tdiv (((at' .val (at' .vals v3 v5) v6).s).length:Int) 20)))),v5,(wr .i64 (v6+1)))))) (
  kx (.exit 2) (v3,v4,v5,v6)))
def Aj4:Sig:=⟨52,[(1,.sl .vals false),(5,.int .i64),(6,.int .i64)],[],[],0,0,0,[],[]⟩
abbrev S9:=List (List Val)×Int×Int
def M0{R:Type}(k:Nat)(rec:S9->Option R)(kx:Ex->S9->Option R)(v:S9):Option R:=match v with
 |(v,v1,v2) =>
 cond (decide (v2<(v.length:Int))) (
  chk (inb v2 v.length) (
  Aj (λrc=>Aau rc (λe vz=>match vz with|(v7,v8,v9,_)=>match e with
   |.exit 2 =>
   rec (v7,v8,(wr .i64 (v9+1)))
   |_=>none)) k (v,(wr .i64 ((wr .i64 (v1+1))+((at' .vals v v2).length:Int))),v2,0))) (
  kx (.exit 0) (v,v1,v2))
def Ay2(R:Type)(k:Nat):Px R:=pxO [(23,cA Ac3)] [] [(7,Am k Ah7 (Aau)),(3,Am k Aj4 (M0 k))] []
def M1(k:Nat)(x:HV [.sv .tbl,.sl .vals false]):Option (HV [.bool]):=match x with
 |(t,l) =>
 Aj (λrec=>M0 k rec (λe vz=>match vz with|(a,b,_)=>match e with
  |.exit 0 =>
  cond (decide (250<=b)) (
   some true) (
   some (decide (24<(a.length:Int))))
  |_=>none)) k (l,(As1 t 200),0)
theorem Bcf(k:Nat):FO 7 [.sv .tbl,.sl .vals false] [.bool] (M1 k):=fR (px:=Ay2 _ k) (n:=2) Tryz.func7 rfl (λcx H=>by have h0:Lv cx (Ay2 (HV [.bool]) k):=lv H (c1 H A1w Ae) Aa Ab;have hllmuch_1:=lO H h0 (b:=lpC (lp Tryz.f7 0) 0) (k:=k) (n:=0) (s:=Ah7) (step:=Aau) (λ_ _ _ (_,_,_,_)=>by kernel_rfl) Ai;have hllmuch_0:=lO H h0 (b:=lp Tryz.f7 0) (k:=k) (n:=1) (s:=Aj4) (step:=M0 k) (λ_ _ _ (_,_,_)=>by kernel_rfl) (A6 Ai hllmuch_1);exact⟨h0,(A6 (A6 Ai hllmuch_0) hllmuch_1)⟩) λ(_,_)=>by kernel_rfl
def Bf9(t:Tbl)(l:List (List Val)):Option Bool:=M1 2000000 (t,l)
def A7m:FT [.sv .tbl,.sl .vals false] [.bool]:=λx=>Bf9 x.1 x.2
theorem Bfj:FO 7 [.sv .tbl,.sl .vals false] [.bool] A7m :=.fin 0 Bcf λ_ _ _ hx=>⟨2000000,hx⟩
end
noncomputable section
end
noncomputable section
def Aj1:Sig:=⟨59,[(0,.sl .val false),(1,.sl .val false),(5,.int .i64)],[],[],0,0,0,[],[]⟩
abbrev Abr:=List Val×List Val×Int
def Ud{R:Type}(rec:Abr->Option R)(kx:Ex->Abr->Option R)(v:Abr):Option R:=match v with
 |(v,v1,v2) =>
 let j:=λ(p:Bool) =>
  cond (p) (
  chk (inb v2 v.length) (
   chk (inb v2 v1.length) (
   cond (decide ((at' .val v v2)=(at' .val v1 v2))) (
    rec (v,v1,(wr .i64 (v2+1)))) (
    kx (.exit 0) (v,v1,v2))))) (
  kx (.exit 0) (v,v1,v2))
 cond (decide (v2<(v.length:Int))) (
  j (decide (v2<(v1.length:Int)))) (
  j false)
def Ayw(R:Type)(k:Nat):Px R:=pxO [(41,cA Bf2)] [] [(2,Am k Aj1 (Ud))] []
def Ag2(k:Nat)(x:HV [.sl .val false,.sl .val false]):Option (HV [.int .i64]):=match x with
 |(a,b) =>
 Aj (λrec=>Ud rec (λe vz=>match vz with|(v3,v4,v5)=>match e with
  |.exit 0 =>
  let j1:=λ(p4:Bool) =>
   cond (p4) (
   chk (inb v5 v3.length) (
    chk (inb v5 v4.length) (
    some (A16 (at' .val v3 v5) (at' .val v4 v5))))) (
   cond (decide (v5<(v4.length:Int))) (
    some (-1)) (
    cond (decide (v5<(v3.length:Int))) (
    some 1) (
    some 0)))
  cond (decide (v5<(v3.length:Int))) (
   j1 (decide (v5<(v4.length:Int)))) (
   j1 false)
  |_=>none)) k (a,b,0)
theorem Beu(k:Nat):FO 16 [.sl .val false,.sl .val false] [.int .i64] (Ag2 k):=fR (px:=Ayw _ k) (n:=1) Tryz.func16 rfl (λcx H=>by have h0:Lv cx (Ayw (HV [.int .i64]) k):=lv H (c1 H Bpq Ae) Aa Ab;have hldrows_0:=lO H h0 (b:=lp Tryz.f16 0) (k:=k) (n:=0) (s:=Aj1) (step:=Ud) (λ_ _ _ (_,_,_)=>by kernel_rfl) Ai;exact⟨h0,(A6 Ai hldrows_0)⟩) λ(_,_)=>by kernel_rfl
def Ave(a b:List Val):Option Int:=Ag2 5000 (a,b)
def A78:FT [.sl .val false,.sl .val false] [.int .i64]:=λx=>Ave x.1 x.2
theorem Bkz:FO 16 [.sl .val false,.sl .val false] [.int .i64] A78 :=.fin 0 Beu λ_ _ _ hx=>⟨5000,hx⟩
def Agx:Sig:=⟨141,[(4,.bool),(7,.int .i64),(9,.sl .vals true),(11,.int .i64),(12,.int .i64),(17,.int .i64)],[(2,.ptr 0 0)],[(0,.one (.sv .tbl))],1,0,0,[],[]⟩
abbrev Nb:=Bool×Int×List (List Val)×Int×Int×Int×Tbl
def Aha{R:Type}(rec:Nb->Option R)(kx:Ex->Nb->Option R)(v:Nb):Option R:=match v with
 |(g,f,a,c,d,b,e) =>
 cond (decide (b<(e.cols.length:Int))) (
  chk (inb b e.cols.length) (
  let j:=λ(p6:Bool) =>
   cond (p6) (
   chk (inb c a.length) (
    chk (inb b ((at' .vals a c).length)) (
    chk (inb d a.length) (
     chk (inb b ((at' .vals a d).length)) (
     cond (decide ((at' .val (at' .vals a c) b)=(at' .val (at' .vals a d) b))) (
      kx .ret (false,f,a,c,d,b,e)) (
      rec (g,f,a,c,d,(wr .i64 (b+1)),e))))))) (
   rec (g,f,a,c,d,(wr .i64 (b+1)),e))
  cond ((at' .col e.cols b).unique) (
   chk (inb c a.length) (
   chk (inb b ((at' .vals a c).length)) (
    j (!decide ((at' .val (at' .vals a c) b).kind=1))))) (
   j false))) (
  kx (.exit 6) (g,f,a,c,d,b,e))
def Ahh:Sig:=⟨141,[(4,.bool),(7,.int .i64),(9,.sl .vals true),(11,.int .i64),(12,.int .i64)],[(2,.ptr 0 0)],[(0,.one (.sv .tbl))],1,0,0,[],[]⟩
abbrev Ot:=Bool×Int×List (List Val)×Int×Int×Tbl
def Ak1{R:Type}(k:Nat)(rec:Ot->Option R)(kx:Ex->Ot->Option R)(v:Ot):Option R:=match v with
 |(g,f,a,c,d,b) =>
 cond (decide (d<c)) (
  chk (inb d a.length) (
  (Az0 b (at' .vals a d) b.key).bind λ(o,_) =>
   chk (inb c a.length) (
   (Az0 b (at' .vals a c) b.key).bind λ(p,_) =>
    (Ave o p).bind λq =>
    cond (decide (0<=q)) (
     kx .ret (false,f,a,c,d,b)) (
     Aj (λrc=>Aha rc (λe vz=>match vz with|(h,i,j,l,m,_,n)=>match e with
     |.ret =>kx .ret (h,i,j,l,m,n)
     |.exit 6 =>rec (h,i,j,l,(wr .i64 (m+1)),n)
     |_=>none)) k (g,f,a,c,d,0,b))))) (
  kx (.exit 4) (g,f,a,c,d,b))
def Aid:Sig:=⟨141,[(4,.bool),(7,.int .i64),(9,.sl .vals true),(11,.int .i64)],[(2,.ptr 0 0)],[(0,.one (.sv .tbl))],1,0,0,[],[]⟩
abbrev Nm:=Bool×Int×List (List Val)×Int×Tbl
def Ali{R:Type}(k:Nat)(rec:Nm->Option R)(kx:Ex->Nm->Option R)(v:Nm):Option R:=match v with
 |(c,d,a,b,f) =>
 cond (decide (b<(a.length:Int))) (
  Aj (λrc=>Ak1 k rc (λe vz=>match vz with|(g,h,i,j,_,l)=>match e with
  |.ret =>kx .ret (g,h,i,j,l)
  |.exit 4 =>rec (g,h,i,(wr .i64 (j+1)),l)
  |_=>none)) k (c,d,a,b,0,f)) (
  kx (.exit 2) (c,d,a,b,f))
def Akq:Sig:=⟨141,[(1,.sl .vals false),(4,.bool),(7,.int .i64),(8,.int .i64)],[(2,.ptr 0 0),(5,.ptr 41 0)],[(0,.one (.sv .tbl)),(41,.cells [.int .i64,.sl .byte false,.bool,.sl .byte false,.sl .node false,.sl .byte false,.sl .stt false,.sl .byte false])],42,0,0,[],[]⟩
abbrev Ns:=List (List Val)×Bool×Int×Int×Tbl×Int×List UInt8×Bool×List UInt8×List NodeS×List UInt8×List NodeS×List UInt8
def Ajf{R:Type}(rec:Ns->Option R)(kx:Ex->Ns->Option R)(v:Ns):Option R:=match v with
 |(v9,b,c,a,w1,w2,w3,w4,w5,w6,w7,w8,w9) =>
 cond (decide (a<(v9.length:Int))) (
  chk (inb a v9.length) (
  (Au3 (w1,(at' .vals v9 a),w2,w3,w4,w5,w6,w7,w8,w9)).bind λ(x4,x5,x6,x7,x8,x9,d,e,f) =>
   cond (decide (x4=0)) (
   rec (v9,b,(wr .i64 (c+1)),(wr .i64 (a+1)),w1,x5,x6,x7,x8,x9,d,e,f)) (
   rec (v9,b,c,(wr .i64 (a+1)),w1,x5,x6,x7,x8,x9,d,e,f)))) (
  kx (.exit 0) (v9,b,c,a,w1,w2,w3,w4,w5,w6,w7,w8,w9))
def Ahg:Sig:=⟨141,[(1,.sl .vals false),(4,.bool),(7,.int .i64),(8,.int .i64)],[(2,.ptr 0 0),(5,.nilp)],[(0,.one (.sv .tbl))],1,0,0,[],[]⟩
abbrev Tq:=List (List Val)×Bool×Int×Int×Tbl
def A77{R:Type}(_:Tq->Option R)(kx:Ex->Tq->Option R)(v:Tq):Option R:=match v with
 |(v,v1,v2,v3,w) =>
 cond (decide (v3<(v.length:Int))) (
  chk (inb v3 v.length) (
  none)) (
  kx (.exit 0) (v,v1,v2,v3,w))
def A0h(R:Type)(_k:Nat):Px R:=pxO [(29,cA Ry),(30,cA Ah1)] [] [] []
noncomputable def Qn(R:Type)(k:Nat):Px R:=pxO [(7,cA A7m),(8,cA Aot),(13,Cs Afx Afv Au3),(14,Cs Yr Aa2 Tr),(16,cA A78),(12,A1 40 200 (A0h R k) Tryz.f12)] [(15,qA A6a)] [(6,Aum k Ahg (A77) (Am k Akq (Ajf))),(24,Am k Agx (Aha)),(17,Am k Ahh (Ak1 k)),(14,Am k Aid (Ali k))] []
theorem Bkh(R:Type)(k:Nat):∀(fr:List Fr) (rec:Tq->Option R) (kx:Ex->Tq->Option R) (v:Tq),round (Qn R k) Ahg (lp Tryz.f4 0) fr rec kx v=A77 rec kx v
 |fr,rec,kx,(v,v1,v2,v3,w)=>by kernel_rfl
theorem Bhw(R:Type)(k:Nat):∀(fr:List Fr) (rec:Ns->Option R) (kx:Ex->Ns->Option R) (v:Ns),round (Qn R k) Akq (lp Tryz.f4 0) fr rec kx v=Ajf rec kx v
 |fr,rec,kx,(v9,a,b,c,w1,w2,w3,w4,w5,w6,w7,w8,w9)=>by kernel_rfl
theorem Bmn(R:Type)(k:Nat):∀(fr:List Fr) (rec:Nb->Option R) (kx:Ex->Nb->Option R) (v:Nb),round (Qn R k) Agx (lpC (lpC (lp Tryz.f4 1) 0) 0) fr rec kx v=Aha rec kx v
 |fr,rec,kx,(a,b,c,d,e,f,g)=>by kernel_rfl
theorem Bnj(R:Type)(k:Nat):∀(fr:List Fr) (rec:Ot->Option R) (kx:Ex->Ot->Option R) (v:Ot),round (Qn R k) Ahh (lpC (lp Tryz.f4 1) 0) fr rec kx v=Ak1 k rec kx v
 |fr,rec,kx,(a,b,c,d,e,f)=>by kernel_rfl
theorem Biu(R:Type)(k:Nat):∀(fr:List Fr) (rec:Nm->Option R) (kx:Ex->Nm->Option R) (v:Nm),round (Qn R k) Aid (lp Tryz.f4 1) fr rec kx v=Ali k rec kx v
 |fr,rec,kx,(a,b,c,d,e)=>by kernel_rfl
def X5(k:Nat)(x:HV [.sv .tbl,.sl .vals false]):Option (HV [.bool]):=match x with
 |(t,l) =>
 (Bf9 t l).bind λx =>
  cond (x) (
  (Aa0).bind λx1 =>some x1) (
  (Of (NodeS.mk 0 [] false [] [] [])).bind λx2 =>
   cond (!decide (x2=0)) (
   Aj (λrec=>A77 rec (λe vz=>match vz with|(_,_,_,_,_)=>match e with
    |.exit 0 =>
    none
    |_=>none)) k (l,false,0,0,t)) (
   (Aka (NodeS.mk 0 [] false [] [] [])).bind λx3 =>
    Aj (λrec=>Ajf rec (λe vz=>match vz with|(_,c,a,_,b,d,f,g,h,i,j,m,n)=>match e with
    |.exit 0 =>
     (Tr (b,d,f,g,h,i,j,m,n)).bind λ(o,p,_,_,_,_,_,_,_,_) =>
     cond (!decide (p=0)) (
      cond (decide (a=0)) (
      (Aa0).bind λq =>some q) (
      some false)) (
      Aj (λrec=>Ali k rec (λe vz=>match vz with|(r,s,u,_,_)=>match e with
      |.ret =>some r
      |.exit 2 =>
       cond (decide ((u.length:Int)=s)) (
       (Aa0).bind λv =>some v) (
       some false)
      |_=>none)) k (c,a,o,0,b))
    |_=>none)) k (l,false,0,0,t,x3.kind,x3.path,x3.has,x3.val,x3.kids,x3.hash,[],[])))
theorem Bp4(k:Nat):FO 4 [.sv .tbl,.sl .vals false] [.bool] (X5 k):=fR (px:=Qn _ k) (n:=4) Tryz.func4 rfl (λcx H=>by have h1:Lv cx (A0h (HV [.bool]) k):=lv H (c1 H V5 (c1 H Aqd Ae)) Aa Ab;have h0:Lv cx (Qn (HV [.bool]) k):=lv H (c1 H Bfj (c1 H A2c (l1 H Bpg (l1 H Ble (c1 H Bkz (Ao (cR H h1 Tryz.func12 rfl (n:=0) (Ai)) Ae)))))) (q1 H Bkp Aa) Ab;have hllRo_0:Bg cx (Qn (HV [.bool]) k) (lp Tryz.f4 0):=Bpl (λ_ _=>by kernel_rfl) (Bcv (Azt h0.p h0.c h0.q (by rw[H.p];exact follows) (k:=k) (s:=Ahg) (step:=A77) (by kernel_rfl) (Bkh _ k) (Q3 (n:=0) (by kernel_rfl) Ai)) (Azt h0.p h0.c h0.q (by rw[H.p];exact follows) (k:=k) (s:=Akq) (step:=Ajf) (by kernel_rfl) (Bhw _ k) (Q3 (n:=0) (by kernel_rfl) Ai)));have hllRo_4:=lO H h0 (b:=lpC (lpC (lp Tryz.f4 1) 0) 0) (k:=k) (n:=0) (s:=Agx) (step:=Aha) (Bmn _ k) Ai;have hllRo_3:=lO H h0 (b:=lpC (lp Tryz.f4 1) 0) (k:=k) (n:=1) (s:=Ahh) (step:=Ak1 k) (Bnj _ k) (A6 Ai hllRo_4);have hllRo_2:=lO H h0 (b:=lp Tryz.f4 1) (k:=k) (n:=2) (s:=Aid) (step:=Ali k) (Biu _ k) (A6 (A6 Ai hllRo_3) hllRo_4);exact⟨h0,(A6 (A6 (A6 (A6 Ai hllRo_0) hllRo_2) hllRo_3) hllRo_4)⟩) λ(_,_)=>by kernel_rfl
end
def wV(s:Str):Val:=⟨4,0,s⟩
theorem Bl4{l:List Str}(h:l.length<=4000)(k:Nat)(hk : 4000<k):Kc k l=some (l.map wV):=by
 have hl:ln l.length:=by simp only[ln];omega
 simp only[Kc];refine(Dc (β:=List Val) l.length (λi acc=>(acc,l,(l.length:Int),(i:Int))) (λi acc=>acc.length=i) (λi acc=>some (acc++(l.drop i).map wV)) (λi hi acc ha rec hr =>?_) (λacc _ rec =>?_) k 0 [] (Nat.zero_le _) (by omega) rfl).trans (by rw[Zq1];rfl)
 ·simp only[Q1,Ea hi,Af,As hi,chk,Al (c :=.str) hi,An hi hl,Ak hi,Zw1];rw[Ze1 (by simp only[Ah];omega),Af,hr _ (by simp[ha])];simp[wV,A0o]
 ·simp only[Q1,Ee,Ag];simp
theorem Jd{l:List Str}(h:l.length<=4000):N1 l=some (l.map wV):=Bl4 h 5000 (by omega)
theorem Adz{α:Type}{l:List (List α)}{i:Nat}(h:i<l.length):(l.take (i+1)).flatten=(l.take i).flatten++l[i]:=by have e:=congrArg List.flatten (List.take_append_getElem h);rw[List.flatten_append] at e;rw[<-e];simp only[Zz1,List.flatten_nil,List.append_nil]
theorem A80{α:Type}(l:List (List α))(i:Nat):(l.take i).flatten.length<=l.flatten.length:=by have:=congrArg (λq=>q.flatten.length) (List.take_append_drop i l);simp only[List.flatten_append,Zh1] at this;omega
theorem Btz{l:List (List Val)}(h:l.length<=4000)(hf:l.flatten.length<=1000000)(k:Nat)(hk : 4000<k):R2 k l=some l.flatten:=by
 have hl:ln l.length:=by simp only[ln];omega
 simp only[R2];refine(Dc (β:=Nat) l.length (λi a=>(l,(a:Int),l,(l.length:Int),(i:Int))) (λi a=>a=(l.take i).flatten.length) (λ_ _=>some l.flatten) (λi hi a ha rec hr =>?_) (λa ha rec =>?_) k 0 0 (Nat.zero_le _) (by omega) (by simp)).trans rfl
 ·have h1:=A80 l (i+1);have h2:=congrArg List.length (Adz hi);rw[Zh1] at h2;have e:wr .i64 ((a:Int)+(l[i].length:Int))=((a+l[i].length:Nat):Int):=by rw[B3 (by simp[inI];omega)];omega
  simp only[Akw,Ea hi,Af,As hi,chk,Al (c :=.vals) hi,An hi hl,e];rw[Zd1 (by omega),Ag];exact hr _ (by omega)
 ·rw[List.take_length] at ha;subst ha;simp only[Akw,Ee,Ag,chk];rw[Ze1 (show(0:Int)<=(l.flatten.length:Int) by omega),Ze1 (show(l.flatten.length:Int)<=2000000 by omega),Bool.and_true,Af];refine(Dc (β:=List Val) l.length (λi acc=>(acc,l,(l.length:Int),(i:Int))) (λi acc=>acc=(l.take i).flatten) (λi acc=>some (acc++(l.drop i).flatten)) (λi hi acc ha rec hr =>?_) (λacc _ rec =>?_) k 0 [] (Nat.zero_le _) (by omega) (by simp)).trans (by rw[Zq1];rfl)
  ·have h1:=A80 l (i+1);have h2:=congrArg List.length (Adz hi);rw[Zh1] at h2;subst ha;simp only[Alt,Ea hi,Af,As hi,chk,Al (c :=.vals) hi,An hi hl,Ak hi,Zz1];rw[Ze1 (by simp only[Ah];omega),Af,hr _ (Adz hi).symm,Zj1]
  ·simp only[Alt,Ee,Ag];simp
theorem Boz{l:List (List Val)}(h:l.length<=4000)(hf:l.flatten.length<=1000000):Btj l=some l.flatten:=Btz h hf 5000 (by omega)
theorem Avv{v:Val}(h:Aq v=true):v.s.length<=1000:=by rcases Ed.1 h with ⟨_,_,h⟩|⟨_,_,h⟩|⟨_,h⟩|⟨_,_,h,_⟩|⟨_,_,h⟩<;>first|exact h|(rw[h];simp)
theorem Ao0:∀{l:List Val},(∀v,v∈l->Aq v=true)->vsz l<=1001*l.length
 |[],_=>by simp[vsz]
 |v::l,h=>by have h1:=Avv (h v (by simp));have h2:=Ao0 (l:=l) λq hq=>h q (by simp[hq]);simp only[vsz,Zf1];omega
theorem A4v{l:List Val}(h:∀v,v∈l->Aq v=true)(hn:l.length<=900):Bkr l=some (E4 l,0):=by have:=Ao0 h;rw[Bkr,Ze1 (by omega),Af,Zg2.2 h];rfl
theorem Jo{l:List (List Val)}(hl:l.length<=4000)(h:∀v,v∈l.flatten->Aq v=true)(hn:l.flatten.length<=900):Acb l=some (E4 l.flatten,0):=by rw[Acb,Adf,Boz hl (by omega),Zc1,A4v h hn];rfl
theorem A60{t:Tbl}{r:List Val}{l:List Str}(hl:l.length<=4000)(he:r.length=t.cols.length)(k:Nat)(hk : 4000<k):M4 k (t,r,l)=some (C5 t.cols r l []):=by
 have hn:ln l.length:=by simp only[ln];omega
 simp only[M4];rw[Ze1 (by omega),Zt1,Ag];refine(Dc (β:=List Val) l.length (λi acc=>(r,l,[],0,acc,(i:Int),t)) (λi acc=>acc.length=i) (λi acc=>some (C5 t.cols r (l.drop i) acc)) (λi hi acc ha rec hr =>?_) (λacc _ rec =>?_) k 0 [] (Nat.zero_le _) (by omega) rfl).trans (by rw[Zq1])
 ·simp only[Xz,Ea hi,Af,As hi,chk,Al (c :=.str) hi,An hi hn,Ak hi,C5,Bei];by_cases hf:C8 t.cols l[i]<0
  ·rw[Ze1 hf];rfl
  ·obtain⟨j,hj,e,_⟩:=A0r hf;rw[Zd1 hf,Ag,Ag,e,As (by omega),Af,Ze1 (by simp only[Ah];omega),Af,hr _ (by simp[ha])]
 ·simp only[Xz,Ee,Ag];rw[Zk1 (Zn1 _)];rfl
theorem Awh{t:Tbl}{r:List Val}{l:List Str}(hl:l.length<=4000)(he:r.length=t.cols.length):Agp t r l=some (C5 t.cols r l []):=by rw[Agp,Ze1 (by omega),Af,Ze1 he,Af]
theorem A83{s:Stm}(h:(Q6 s).2=0):(decide (s.kind=1)&&F1 s)=true/\Ph ⟨s.name,s.cols,s.names,[],[]⟩ s.names=true/\O6 s.cols s.l=0:=by
 simp only[Q6] at h;generalize (decide (s.kind=1)&&F1 s)=b1 at h ⊢;generalize Ph ⟨s.name,s.cols,s.names,[],[]⟩ s.names=b2 at h ⊢;cases b1 with
 |false=>simp at h
 |true =>
  cases b2 with
  |false=>simp at h
  |true =>
   by_cases hc:O6 s.cols s.l=0
   ·exact⟨rfl,rfl,hc⟩
   ·simp[hc] at h
theorem Acg{t:Tbl}(h:Js t=true):(Q6 (Fw t)).2=0/\Ba t.idx=true/\t.idx.length<=100/\∀x,x∈t.idx->Qy t x=true:=by simp only[Js,Zb1,Zg1,Zg2] at h;exact h
theorem Ul{t:Tbl}{row:List Val}(h:Ec t row=0):Js t=true/\Fs t.cols row=true:=by
 simp only[Ec] at h;cases h1:Js t with
 |false=>rw[h1] at h;simp at h
 |true =>cases h2:Fs t.cols row with|false=>rw[h1,h2] at h;simp at h|true=>exact⟨rfl,rfl⟩
theorem A0l:∀{l seen:List Str},Ad2 seen l=true->∀s,s∈l->Ds s=true
 |[],_,_,s,hs=>by cases hs
 |x::l,seen,h,s,hs=>by
  simp only[Ad2,Zb1] at h;rcases List.mem_cons.1 hs with rfl|hs
  ·exact h.1.1
  ·exact A0l h.2 s hs
theorem Aim{l:List Str}(h:Dq l=true):l.length<=100/\∀s,s∈l->Ds s=true:=by simp only[Dq,Zb1,Zg1] at h;exact⟨h.2,A0l h.1⟩
theorem Bco:((List.range 256).all λn => !Lp.isIn (n:Int)||vis (UInt8.ofNat n))=true:=by kernel_rfl
theorem Avf{p:UInt8->Bool}:∀{l:Str},(l.takeWhile p).length=l.length->∀b,b∈l->p b=true
 |[],_,b,h=>by cases h
 |c::l,h,b,hb=>by
  cases hc:p c with
  |false =>rw[List.takeWhile_cons,hc] at h;simp at h
  |true =>
   rw[List.takeWhile_cons,hc] at h;rcases List.mem_cons.1 hb with rfl|hb
   ·exact hc
   ·exact Avf (l:=l) (by simpa using h) b hb
theorem Fh{s:Str}(h:Ds s=true):Aq (wV s)=true:=by
 simp only[Lp.nameF,Zb1,Zg1,Lp.runTo] at h;have h2:=h.2;simp at h2;refine Ed.2 (.inr (.inr (.inr (.inl ⟨rfl,rfl,by simp only[wV];omega,?_⟩))));simp only[wV,Uc,Zg2];intro c hc;have h1:=Zg2.1 Bco c.toNat (List.mem_range.2 c.toNat_lt);have h3:Lp.isIn (c.toNat:Int)=true:=by
  first
   |exact Avf (p:=λb=>Lp.isIn (b.toNat:Int)) (by omega) c hc
   |exact h2 c hc
 rw[UInt8.ofNat_toNat,h3] at h1;simpa using h1
structure FitR (t:Tbl) (r:List Val):Prop where
 name:Ds t.name=true
 cols:∀c,c∈t.cols->Ds c.name=true/\(c.ref=[]\/Ds c.ref=true)
 ncols:t.cols.length<=100
 nkey:t.key.length<=100
 nidx:t.idx.length<=100
 key:∀s,s∈t.key->¬C8 t.cols s<0
 idx:∀x,x∈t.idx->Ds x.name=true/\x.cols.length<=100/\∀s,s∈x.cols->¬C8 t.cols s<0
 len:r.length=t.cols.length
 right:∀v,v∈r->Aq v=true
theorem Tn{t:Tbl}(h:Js t=true):t.cols.length<=100/\t.key.length<=100/\t.checks.length<=100/\Ds t.name=true/\(∀c,c∈t.cols->Ds c.name=true/\(c.ref=[]\/Ds c.ref=true)):=by
 have b1:=(A83 (Acg h).1).1;simp only[Fw,F1,if_true,decide_true,Bool.true_and,Zb1] at b1;obtain⟨⟨b2,_⟩,⟨⟨⟨⟨b3,_⟩,b4⟩,_⟩,b5⟩,b6⟩:=b1;have c1:=Aim b4;have c2:=Aim b5;have hl:t.checks.length<=100:=by simp only[Je,Zb1,Zg1] at b6;exact b6.1
 refine⟨by simpa using c1.1,c2.1,hl,b2,λc hc=>⟨c1.2 _ (List.mem_map.2 ⟨c,hc,rfl⟩),?_⟩⟩;have h3:=Zg2.1 b3 c hc;simp only[Ae4,Zb1,Zd2,Zg1] at h3;exact h3.2
theorem M7{t:Tbl}{r:List Val}(h:Ec t r=0):FitR t r:=by
 obtain⟨ht,hr⟩:=Ul h;obtain⟨h1,h2,_,h4,h5⟩:=Tn ht;have hl:=Jl hr;refine⟨h4,h5,h1,h2,(Acg ht).2.2.1,λs hs =>?_,λx hx =>?_,hl.symm,λv hv =>?_⟩
 ·have h6:(!decide (C8 t.cols s<0))=true:=Zg2.1 (A83 (Acg ht).1).2.1 s hs;simpa using h6
 ·have h6:=(Acg ht).2.2.2 x hx;simp only[Qy,Zb1] at h6;obtain⟨h7,h8⟩:=h6;simp only[F1,Hv,Zb1] at h7;have h9:(Ds t.name&&Dj (x.cols.length:Int)&&Dq x.cols)=true:=h7.2;simp only[Zb1] at h9;obtain⟨h10,_⟩:=Aim h9.2;refine⟨h7.1.1,h10,λs hs =>?_⟩;have h11:(!decide (C8 t.cols s<0))=true:=Zg2.1 h8 s hs;simpa using h11
 ·obtain⟨i,hi,rfl⟩:=List.getElem_of_mem hv;exact(Aq6.1 (Wo hr i (by omega) hi)).1
theorem Xg{t:Tbl}{r:List Val}(f:FitR t r){l:List Str}(hl:∀s,s∈l->¬C8 t.cols s<0)(P:Val->Prop)(hP:∀v,v∈r->P v):∀v,v∈(C5 t.cols r l []).1->P v:=by
 refine(A6e (P:=P) (λs hs=>⟨hl s hs,?_⟩) (λv hv=>by cases hv)).2;obtain⟨i,hi,e,_⟩:=A0r (hl s hs);have hi2:i<r.length:=by rw[f.len];exact hi
 rw[e,Al (c :=.val) hi2];exact hP _ (List.getElem_mem hi2)
theorem Ak5{cols:List Col}{row:List Val}{l:List Str}(h:l.length<=100):(C5 cols row l []).1.length<=100:=by have:=Avj (cols:=cols) (row:=row) (l:=l) (acc:=[]);simp only[Zi1,Nat.zero_add] at this;omega
def Alp(p:KvS):Bool:=decide (p.key.length<=200)&&decide (p.val.length<=4000)
def eKv(p:KvS):Int:=cond (Alp p) 0 3
def nxE(e:Int)(p:KvS):Int:=cond (decide (e=0)) (eKv p) e
def G5:Int->List KvS->Int
 |e,[]=>e
 |e,p::l=>G5 (nxE e p) l
def pkV(t:Tbl)(r:List Val):List Val:=(C5 t.cols r t.key []).1
def Ct(t:Tbl)(r:List Val):KvS:=⟨E4 (wV [114]::wV t.name::pkV t r),(Hf r).1⟩
def Jn(t:Tbl)(r:List Val)(x:Idx):KvS:=⟨E4 (wV [105]::wV x.name::((C5 t.cols r x.cols []).1++pkV t r)),[]⟩
def V3(t:Tbl)(r:List Val)(c:Col)(v:Val):KvS:=⟨E4 [wV [117],wV t.name,wV c.name,v],(Hf (pkV t r)).1⟩
def Abt(t:Tbl)(r:List Val)(c:Col)(v:Val):KvS:=⟨E4 (wV [102]::wV c.ref::v::wV t.name::wV c.name::pkV t r),[]⟩
def D6(t:Tbl)(r:List Val):List Col->List Val->List KvS
 |c::cs,v::vs=>cond (c.unique && !decide (v.kind=1)) (V3 t r c v::D6 t r cs vs) (D6 t r cs vs)
 |_,_=>[]
def Hl(t:Tbl)(r:List Val):List Col->List Val->List KvS
 |c::cs,v::vs=>cond (!decide (c.ref=[]) && !decide (v.kind=1)) (Abt t r c v::Hl t r cs vs) (Hl t r cs vs)
 |_,_=>[]
theorem Bkt(e:Int)(k v:Str):nxE e ⟨k,v⟩=cond (decide (e=0)) (cond (decide (200<(k.length:Int))) 3 (cond (decide (4000<(v.length:Int))) 3 0)) e:=by simp only[nxE,eKv,Alp];rw[show decide (k.length<=200) = !decide (200<(k.length:Int)) by rw[<-decide_not];exact Zy1.2 (by omega),show decide (v.length<=4000) = !decide (4000<(v.length:Int)) by rw[<-decide_not];exact Zy1.2 (by omega)];cases decide (e=0)<;>cases decide (200<(k.length:Int))<;>cases decide (4000<(v.length:Int))<;>rfl
theorem Bfn(e:Int)(k:Str):nxE e ⟨k,[]⟩=cond (decide (e=0)) (cond (decide (200<(k.length:Int))) 3 0) e:=by rw[Bkt];rfl
section
variable {t:Tbl}{r:List Val}
theorem T1(f:FitR t r):∀v,v∈pkV t r->Aq v=true:=Xg f f.key _ f.right
theorem Sm(f:FitR t r):(pkV t r).length<=100:=Ak5 f.nkey
theorem Lb:Aq (wV [114])=true/\Aq (wV [105])=true/\Aq (wV [117])=true/\Aq (wV [102])=true:=⟨by kernel_rfl,by kernel_rfl,by kernel_rfl,by kernel_rfl⟩
theorem Bm8(f:FitR t r):Acb [[wV [114],wV t.name],pkV t r]=some ((Ct t r).key,0):=by
 have:=Sm f;have e:[[wV [114],wV t.name],pkV t r].flatten=wV [114]::wV t.name::pkV t r:=by simp
 rw[Jo (by simp) (λv hv =>?_) (by rw[e];simp;omega),e]
 ·rfl
 ·rw[e] at hv;rcases List.mem_cons.1 hv with rfl|hv
  ·exact Lb.1
  rcases List.mem_cons.1 hv with rfl|hv
  ·exact Fh f.name
  ·exact T1 f v hv
theorem Bc2(f:FitR t r){x:Idx}(hx:x∈t.idx):(∀v,v∈wV [105]::wV x.name::((C5 t.cols r x.cols []).1++pkV t r)->Aq v=true)/\(wV [105]::wV x.name::((C5 t.cols r x.cols []).1++pkV t r)).length<=900:=by
 obtain⟨h1,h2,h3⟩:=f.idx x hx;have:=Sm f;have:=Ak5 (cols:=t.cols) (row:=r) h2;refine⟨λv hv =>?_,by simp;omega⟩;rcases List.mem_cons.1 hv with rfl|hv
 ·exact Lb.2.1
 rcases List.mem_cons.1 hv with rfl|hv
 ·exact Fh h1
 rcases List.mem_append.1 hv with hv|hv
 ·exact Xg f h3 _ f.right v hv
 ·exact T1 f v hv
theorem Bjv(f:FitR t r){x:Idx}(hx:x∈t.idx):Acb [[wV [105],wV x.name],(C5 t.cols r x.cols []).1,pkV t r]=some ((Jn t r x).key,0):=by
 obtain⟨h1,h2⟩:=Bc2 f hx;have e:[[wV [105],wV x.name],(C5 t.cols r x.cols []).1,pkV t r].flatten=wV [105]::wV x.name::((C5 t.cols r x.cols []).1++pkV t r):=by simp
 rw[Jo (by simp) (by rw[e];exact h1) (by rw[e];exact h2),e];rfl
theorem Bes(f:FitR t r){c:Col}(hc:c∈t.cols){v:Val}(hv:v∈r):∀q,q∈[wV [117],wV t.name,wV c.name,v]->Aq q=true:=by
 intro q hq;simp only[List.mem_cons,List.not_mem_nil,or_false] at hq;rcases hq with rfl|rfl|rfl|rfl
 ·exact Lb.2.2.1
 ·exact Fh f.name
 ·exact Fh (f.cols c hc).1
 ·exact f.right _ hv
theorem Be5(f:FitR t r){c:Col}(hc:c∈t.cols){v:Val}(hv:v∈r):Acb [[wV [117],wV t.name,wV c.name],[v]]=some ((V3 t r c v).key,0):=by have e:[[wV [117],wV t.name,wV c.name],[v]].flatten=[wV [117],wV t.name,wV c.name,v]:=rfl;rw[Jo (by simp) (by rw[e];exact Bes f hc hv) (by rw[e];simp),e];rfl
theorem Ba8(f:FitR t r){c:Col}(hc:c∈t.cols)(hn:¬c.ref=[]){v:Val}(hv:v∈r):(∀q,q∈wV [102]::wV c.ref::v::wV t.name::wV c.name::pkV t r->Aq q=true)/\(wV [102]::wV c.ref::v::wV t.name::wV c.name::pkV t r).length<=900:=by
 have:=Sm f;refine⟨λq hq =>?_,by simp;omega⟩;simp only[List.mem_cons] at hq;rcases hq with rfl|rfl|rfl|rfl|rfl|hq
 ·exact Lb.2.2.2
 ·exact Fh ((f.cols c hc).2.resolve_left hn)
 ·exact f.right _ hv
 ·exact Fh f.name
 ·exact Fh (f.cols c hc).1
 ·exact T1 f q hq
theorem Blh(f:FitR t r){c:Col}(hc:c∈t.cols)(hn:¬c.ref=[]){v:Val}(hv:v∈r):Acb [[wV [102],wV c.ref],[v],[wV t.name,wV c.name],pkV t r]=some ((Abt t r c v).key,0):=by
 obtain⟨h1,h2⟩:=Ba8 f hc hn hv;have e:[[wV [102],wV c.ref],[v],[wV t.name,wV c.name],pkV t r].flatten=wV [102]::wV c.ref::v::wV t.name::wV c.name::pkV t r:=by simp
 rw[Jo (by simp) (by rw[e];exact h1) (by rw[e];exact h2),e];rfl
theorem At9{R:Type}{kx:Ex->Tx->Option R}(f:FitR t r){w1 w5 w7:List KvS}{w2 w6 w8:Int}{c:List KvS->Int->Option R}(h2:∀l e,kx (.exit 0) (r,pkV t r,t.idx,(t.idx.length:Int),(t.idx.length:Int),t,w1,w2,l,e,w5,w6,w7,w8)=c l e)(k:Nat)(hk : 200<k) :
  Aj (λrec=>O2 rec kx) k (r,pkV t r,t.idx,(t.idx.length:Int),0,t,w1,w2,[],0,w5,w6,w7,w8)=c (t.idx.map (Jn t r)) (G5 0 (t.idx.map (Jn t r))):=by
 have hn:=f.nidx;have hln:ln t.idx.length:=by simp only[ln];omega
 refine(Dc (β:=List KvS×Int) t.idx.length (λi a=>(r,pkV t r,t.idx,(t.idx.length:Int),(i:Int),t,w1,w2,a.1,a.2,w5,w6,w7,w8)) (λi a=>a.1.length=i) (λi a=>c (a.1++(t.idx.drop i).map (Jn t r)) (G5 a.2 ((t.idx.drop i).map (Jn t r)))) (λi hi a ha rec hr =>?_) (λa _ rec =>?_) k 0 ([],0) (Nat.zero_le _) (by omega) rfl).trans (by rw[Zq1];rfl)
 ·have hx:=List.getElem_mem hi;have hr':=hr (a.1++[Jn t r t.idx[i]],nxE a.2 (Jn t r t.idx[i])) (by simp[ha]);have hx2:=(f.idx _ hx).2.1;simp only[O2,Ea hi,Af,As hi,chk,Al (c :=.idx) hi,An hi hln,Awh (show t.idx[i].cols.length<=4000 by omega) f.len,Zc1,Jd (show [[105],t.idx[i].name].length<=4000 by simp),Zw1,List.map_nil,Bjv f hx,Ak hi,G5,decide_true];rw[Ze1 (show a.1.length+1<=Ah by simp only[Ah];omega)];have e:nxE a.2 (Jn t r t.idx[i])=cond (decide (a.2=0)) (cond (decide (200<((Jn t r t.idx[i]).key.length:Int))) 3 0) a.2:=Bfn _ _;rw[Zj1,List.singleton_append] at hr';rw[<-hr',e];have e2:Jn t r t.idx[i]=⟨(Jn t r t.idx[i]).key,[]⟩:=rfl;rw[<-e2];cases decide (a.2=0)<;>cases decide (200<((Jn t r t.idx[i]).key.length:Int))<;>rfl
 ·simp only[O2,Ee,Ag,h2];rw[Zk1 (Zn1 _),List.map_nil,List.append_nil];rfl
theorem As8{R:Type}{kx:Ex->R3->Option R}(f:FitR t r){w1 w3:List KvS}{w2 w4:Int}{c:List KvS->Int->List KvS->Int->Option R}(h2:∀l e m g,kx (.exit 2) (r,pkV t r,(Hf (pkV t r)).1,t.cols,(t.cols.length:Int),(t.cols.length:Int),t,w1,w2,w3,w4,l,e,m,g)=c l e m g)(k:Nat)(hk : 200<k) :
  Aj (λrec=>Oz rec kx) k (r,pkV t r,(Hf (pkV t r)).1,t.cols,(t.cols.length:Int),0,t,w1,w2,w3,w4,[],0,[],0)=c (D6 t r t.cols r) (G5 0 (D6 t r t.cols r)) (Hl t r t.cols r) (G5 0 (Hl t r t.cols r)):=by
 have hn:=f.ncols;have hln:ln t.cols.length:=by simp only[ln];omega
 refine(Dc (β:=(List KvS×Int)×(List KvS×Int)) t.cols.length (λi a=>(r,pkV t r,(Hf (pkV t r)).1,t.cols,(t.cols.length:Int),(i:Int),t,w1,w2,w3,w4,a.1.1,a.1.2,a.2.1,a.2.2)) (λi a=>a.1.1.length<=i/\a.2.1.length<=i) (λi a=>c (a.1.1++D6 t r (t.cols.drop i) (r.drop i)) (G5 a.1.2 (D6 t r (t.cols.drop i) (r.drop i))) (a.2.1++Hl t r (t.cols.drop i) (r.drop i)) (G5 a.2.2 (Hl t r (t.cols.drop i) (r.drop i)))) (λi hi a ha rec hr =>?_) (λa _ rec =>?_) k 0 (([],0),([],0)) (Nat.zero_le _) (by omega) ⟨by simp,by simp⟩).trans (by rw[Zq1,Zq1];rfl)
 ·have hi2:i<r.length:=by rw[f.len];exact hi
  have hx:=List.getElem_mem hi;have hv:=List.getElem_mem hi2;have m1:∀l:List KvS,l.length<=i->decide (l.length+1<=Ah)=true:=λl hl=>Ze1 (by simp only[Ah];omega);have cu:cut r (i:Int) ((i+1:Nat):Int)=[r[i]]:=by simp[cut,List.take_one,hi2]
  have cb:upto (i:Int) ((i+1:Nat):Int) r.length=true:=by simp[upto];omega
  simp only[Oz,Ea hi,Af,As hi,As hi2,chk,Al (c :=.col) hi,Al (c :=.val) hi2,An hi hln,Ak hi,Ak hi2,D6,Hl,cu,cb];by_cases h1:r[i].kind=1
  ·rw[Ze1 h1];simp only[Af,Zt1,Bool.and_false,Ag];exact hr a ⟨by omega,by omega⟩
  ·rw[Zd1 h1];simp only[Ag,Zs1,Bool.and_true];have eu:nxE a.1.2 (V3 t r t.cols[i] r[i])=cond (decide (a.1.2=0)) (cond (decide (200<((V3 t r t.cols[i] r[i]).key.length:Int))) 3 (cond (decide (4000<((Hf (pkV t r)).1.length:Int))) 3 0)) a.1.2:=Bkt _ _ _;have er:nxE a.2.2 (Abt t r t.cols[i] r[i])=cond (decide (a.2.2=0)) (cond (decide (200<((Abt t r t.cols[i] r[i]).key.length:Int))) 3 0) a.2.2:=Bfn _ _;have e2:V3 t r t.cols[i] r[i]=⟨(V3 t r t.cols[i] r[i]).key,(Hf (pkV t r)).1⟩:=rfl;have e3:Abt t r t.cols[i] r[i]=⟨(Abt t r t.cols[i] r[i]).key,[]⟩:=rfl;simp only[m1 _ ha.1,m1 _ ha.2,Jd (show [[117],t.name,t.cols[i].name].length<=4000 by simp),Jd (show [[102],t.cols[i].ref].length<=4000 by simp),Jd (show [t.name,t.cols[i].name].length<=4000 by simp),Zc1,Zw1,List.map_nil,Be5 f hx hv,decide_true,Af];by_cases h3:t.cols[i].ref=[]
   ·rw[Ze1 h3];simp only[Zt1,Ag];cases t.cols[i].unique with|false=>exact hr a ⟨by omega,by omega⟩|true =>have hr':=hr ((a.1.1++[V3 t r t.cols[i] r[i]],nxE a.1.2 (V3 t r t.cols[i] r[i])),a.2) ⟨by simp;omega,by simp only;omega⟩;simp only[Zj1,List.singleton_append] at hr';simp only[Af,G5];rw[<-hr',eu,<-e2];cases decide (a.1.2=0)<;>cases decide (200<((V3 t r t.cols[i] r[i]).key.length:Int))<;>cases decide (4000<((Hf (pkV t r)).1.length:Int))<;>rfl
   ·rw[Zd1 h3];simp only[Zs1,Af,Blh f hx h3 hv,Zc1,decide_true];cases t.cols[i].unique with|false =>have hr':=hr (a.1,(a.2.1++[Abt t r t.cols[i] r[i]],nxE a.2.2 (Abt t r t.cols[i] r[i]))) ⟨by simp only;omega,by simp;omega⟩;simp only[Zj1,List.singleton_append] at hr';simp only[Ag,G5];rw[<-hr',er,<-e3];cases decide (a.2.2=0)<;>cases decide (200<((Abt t r t.cols[i] r[i]).key.length:Int))<;>rfl|true =>have hr':=hr ((a.1.1++[V3 t r t.cols[i] r[i]],nxE a.1.2 (V3 t r t.cols[i] r[i])),(a.2.1++[Abt t r t.cols[i] r[i]],nxE a.2.2 (Abt t r t.cols[i] r[i]))) ⟨by simp;omega,by simp;omega⟩;simp only[Zj1,List.singleton_append] at hr';simp only[Af,G5];rw[<-hr',eu,er,<-e2,<-e3];cases decide (a.1.2=0)<;>cases decide (200<((V3 t r t.cols[i] r[i]).key.length:Int))<;>cases decide (4000<((Hf (pkV t r)).1.length:Int))<;>cases decide (a.2.2=0)<;>cases decide (200<((Abt t r t.cols[i] r[i]).key.length:Int))<;>rfl
 ·simp only[Oz,Ee,Ag,h2];rw[Zk1 (Zn1 _)];simp only[D6,Hl,List.append_nil,G5]
end
theorem Ah2:∀l:List KvS,G5 3 l=3
 |[]=>rfl
 |_::l=>Ah2 l
theorem S6:∀l:List KvS,G5 0 l=cond (l.all Alp) 0 3
 |[]=>rfl
 |p::l=>by simp only[G5,nxE,eKv,decide_true,Af,Zv1];cases Alp p with|true=>exact S6 l|false=>exact Ah2 l
section
variable {t:Tbl}{r:List Val}
theorem Agc:∀(cs:List Col) (vs:List Val),(D6 t r cs vs).length<=cs.length
 |[],_=>by simp[D6]
 |_::_,[]=>by simp[D6]
 |c::cs,v::vs=>by have:=Agc cs vs;simp only[D6,Zf1];cases c.unique && !decide (v.kind=1)<;>simp<;>omega
theorem Agg:∀(cs:List Col) (vs:List Val),(Hl t r cs vs).length<=cs.length
 |[],_=>by simp[Hl]
 |_::_,[]=>by simp[Hl]
 |c::cs,v::vs=>by have:=Agg cs vs;simp only[Hl,Zf1];cases !decide (c.ref=[]) && !decide (v.kind=1)<;>simp<;>omega
def G1(r:List Val):Prop:=∀v,v∈r->inI v.n=true
theorem A87(f:FitR t r)(hb:G1 r)(k:Nat)(hk : 200<k):Nz k (t,r)=some (⟨[Ct t r],eKv (Ct t r)⟩,⟨t.idx.map (Jn t r),G5 0 (t.idx.map (Jn t r))⟩,⟨D6 t r t.cols r,G5 0 (D6 t r t.cols r)⟩,⟨Hl t r t.cols r,G5 0 (Hl t r t.cols r)⟩):=by
 have h1:=f.nkey;have h2:=f.ncols;have h3:=f.len;have h4:=Sm f;have w1:A00 r=some (Hf r):=A52 (by omega) hb;have w2:A00 (pkV t r)=some (Hf (pkV t r)):=A52 (by omega) (Xg f f.key _ hb);have j:∀q:Int,Aj (λrec=>O2 rec (λe vz=>match vz with|(v5,v6,_,_,_,a,b,d,g,h,i,m,n,o)=>match e with
    |.exit 0 =>
     (A00 v6).bind λ(p,_) =>
     Aj (λrec=>Oz rec (λe vz=>match vz with|(_,_,_,_,_,_,_,s,u,v,w,x,y,z,a0)=>match e with
      |.exit 2 =>
      some ((LayS.mk s u),(LayS.mk v w),(LayS.mk x y),(LayS.mk z a0))
      |_=>none)) k (v5,v6,p,a.cols,(a.cols.length:Int),0,a,b,d,g,h,i,m,n,o)
    |_=>none)) k (r,pkV t r,t.idx,(t.idx.length:Int),0,t,[Ct t r],q,[],0,[],0,[],0)=some (⟨[Ct t r],q⟩,⟨t.idx.map (Jn t r),G5 0 (t.idx.map (Jn t r))⟩,⟨D6 t r t.cols r,G5 0 (D6 t r t.cols r)⟩,⟨Hl t r t.cols r,G5 0 (Hl t r t.cols r)⟩):=λq=>by
  refine At9 f (c:=λl e=>some (LayS.mk [Ct t r] q,LayS.mk l e,LayS.mk (D6 t r t.cols r) (G5 0 (D6 t r t.cols r)),LayS.mk (Hl t r t.cols r) (G5 0 (Hl t r t.cols r)))) (λl e =>?_) k hk;simp only[w2,Zc1];exact As8 f (c:=λl2 e2 l3 e3=>some (LayS.mk [Ct t r] q,LayS.mk l e,LayS.mk l2 e2,LayS.mk l3 e3)) (λ_ _ _ _=>rfl) k hk
 have e1:Agp t r t.key=some (pkV t r,(C5 t.cols r t.key []).2):=Awh (by omega) h3;have e2:Ct t r=⟨(Ct t r).key,(Hf r).1⟩:=rfl;have e3:eKv (Ct t r)=nxE 0 (Ct t r):=rfl;have e4:nxE 0 (Ct t r)=cond (decide ((0:Int)=0)) (cond (decide (200<((Ct t r).key.length:Int))) 3 (cond (decide (4000<((Hf r).1.length:Int))) 3 0)) 0:=Bkt _ _ _;rw[e3,e4];simp only[Nz,e1,Zc1,w1,Jd (show [[114],t.name].length<=4000 by simp),Zw1,List.map_nil,Bm8 f,decide_true,Af];rw[<-e2];cases decide (200<((Ct t r).key.length:Int)) with
 |true=>exact j 3
 |false =>cases decide (4000<((Hf r).1.length:Int)) with|true=>exact j 3|false=>exact j 0
def Ga(t:Tbl)(r:List Val):List KvS:=Ct t r::(t.idx.map (Jn t r)++(D6 t r t.cols r++Hl t r t.cols r))
def Ai6(t:Tbl)(r:List Val):List KvS×Int:=cond (decide (Ec t r=0)) (cond ((Ga t r).all Alp) (Ga t r,0) ([],3)) ([],Ec t r)
def Ba1:List LayS->List KvS->Option (List KvS×Int)
 |[],acc=>some (acc,0)
 |y::l,acc=>cond (decide (y.e=0)) (Ba1 l (acc++y.l)) (some ([],y.e))
theorem Biv(a:KvS)(x y z:List KvS)(b1 b2 b3 b4:Bool):Ba1 [⟨[a],cond b1 0 3⟩,⟨x,cond b2 0 3⟩,⟨y,cond b3 0 3⟩,⟨z,cond b4 0 3⟩] []=some (cond (b1&&(b2&&(b3&&b4))) (a::(x++(y++z)),0) ([],3)):=by cases b1<;>cases b2<;>cases b3<;>cases b4<;>simp[Ba1]
theorem Bdm{l:List LayS}(hl:l.length<=100)(hs:∀y,y∈l->y.l.length<=200){kx:Ex->Aav->Option (List KvS×Int)}(h1:∀e acc i,kx .ret ([],e,acc,l,(l.length:Int),i)=some ([],e))(h2:∀acc,kx (.exit 0) ([],0,acc,l,(l.length:Int),(l.length:Int))=some (acc,0))(k:Nat)(hk : 200<k) :
  Aj (λrec=>Adc rec kx) k ([],0,[],l,(l.length:Int),0)=Ba1 l []:=by
 have hln:ln l.length:=by simp only[ln];omega
 refine(Dc (β:=List KvS) l.length (λi acc=>([],0,acc,l,(l.length:Int),(i:Int))) (λi acc=>acc.length<=200*i) (λi acc=>Ba1 (l.drop i) acc) (λi hi acc ha rec hr =>?_) (λacc _ rec =>?_) k 0 [] (Nat.zero_le _) (by omega) (by simp)).trans (by rw[Zq1])
 ·have hy:=hs _ (List.getElem_mem hi);simp only[Adc,Ea hi,Af,As hi,chk,Al (c :=.lay) hi,An hi hln,Ak hi,Ba1];rw[Ze1 (show acc.length+l[i].l.length<=Ah by simp only[Ah];omega),Af];cases decide (l[i].e=0) with|true=>exact hr _ (by rw[Zh1];omega)|false=>exact h1 _ _ _
 ·simp only[Adc,Ee,Ag,h2];rw[Zk1 (Zn1 _)];rfl
theorem Bt1(hf:O5 t r=some (Ec t r))(hb:G1 r)(k:Nat)(hk : 200<k):Tv k (t,r)=some (Ai6 t r):=by
 simp only[Tv,hf,Zc1,Ai6];by_cases h0:Ec t r=0
 ·have f:=M7 h0;have l1:=f.nidx;have l2:=Agc (t:=t) (r:=r) t.cols r;have l3:=Agg (t:=t) (r:=r) t.cols r;have l4:=f.ncols;rw[Ze1 h0,Zt1,Ag,Af,Ayt,A87 f hb 5000 (by omega),Zc1];refine(Bdm (l:=[⟨[Ct t r],eKv (Ct t r)⟩,⟨t.idx.map (Jn t r),G5 0 (t.idx.map (Jn t r))⟩,⟨D6 t r t.cols r,G5 0 (D6 t r t.cols r)⟩,⟨Hl t r t.cols r,G5 0 (Hl t r t.cols r)⟩]) (by simp) (λy hy =>?_) (λ_ _ _=>rfl) (λ_=>rfl) k hk).trans ?_
  ·simp only[List.mem_cons,List.not_mem_nil,or_false] at hy;rcases hy with rfl|rfl|rfl|rfl
   ·simp
   ·simp only[List.length_map];omega
   ·simp only;omega
   ·simp only;omega
  ·have e:eKv (Ct t r)=cond (Alp (Ct t r)) 0 3:=rfl;rw[e,S6,S6,S6,Biv,Ga,Zv1,List.all_append,List.all_append]
 ·rw[Zd1 h0];rfl
theorem Bqx(hf:O5 t r=some (Ec t r))(hb:G1 r):Bs3 t r=some (Ai6 t r):=Bt1 hf hb 5000 (by omega)
end
def Ag8(a:Nat)(b:Str):Nat:=b.foldl (λa c=>a*256+c.toNat) a
def Wc(b:Str):Nat:=Ag8 0 b
theorem Ago(a:Nat)(c:UInt8)(l:Str):Ag8 a (c::l)=Ag8 (a*256+c.toNat) l:=rfl
theorem Bbs(l:Str):∀a:Nat,Ag8 a l=a*256 ^ l.length+Wc l:=by induction l with|nil=>intro a;simp[Wc,Ag8]|cons c l ih =>intro a;simp only[Wc,Ago,Zf1] at ih ⊢;rw[ih,ih (0*256+c.toNat),Nat.pow_succ];simp only[Nat.add_mul,Nat.zero_mul,Nat.zero_add];rw[Nat.mul_assoc,Nat.mul_comm 256 (256 ^ l.length),Nat.add_assoc]
theorem Adb(c:UInt8)(l:Str):Wc (c::l)=c.toNat*256 ^ l.length+Wc l:=by have:=Bbs l (0*256+c.toNat);simp only[Nat.zero_mul,Nat.zero_add] at this;rw[<-this,Wc,Ago,Nat.zero_mul,Nat.zero_add]
theorem Auf:∀l:Str,Wc l<256 ^ l.length
 |[]=>by simp[Wc,Ag8]
 |c::l=>by have h1:=Auf l;have h2:=c.toNat_lt;have h3:c.toNat*256 ^ l.length<=255*256 ^ l.length:=Nat.mul_le_mul_right _ (by omega);rw[Adb,Zf1,Nat.pow_succ];omega
theorem Po:∀a x y:Str,C1 (a++x) (a++y)=C1 x y
 |[],_,_=>rfl
 |c::a,x,y=>by have ih:=Po a x y;simp only[C1,Zb2,Lib.compareBytes] at ih ⊢;rw[if_neg (UInt8.lt_irrefl _),if_neg (UInt8.lt_irrefl _)];exact ih
theorem I1{c d:UInt8}(h:c<d)(x y:Str):C1 (c::x) (d::y) = -1:=by simp only[C1,Lib.compareBytes];rw[if_pos h]
theorem I0{c d:UInt8}(h:d<c)(x y:Str):C1 (c::x) (d::y)=1:=by simp only[C1,Lib.compareBytes];rw[if_neg (UInt8.lt_asymm h),if_pos h]
theorem Gk(c:UInt8)(x y:Str):C1 (c::x) (c::y)=C1 x y:=Po [c] x y
theorem Avo(d:UInt8)(y:Str):C1 [] (d::y) = -1:=rfl
theorem Ani(d:UInt8)(y:Str):C1 (d::y) []=1:=rfl
theorem A5a(c d:UInt8):c<d\/c=d\/d<c:=by
 rcases Nat.lt_trichotomy c.toNat d.toNat with h|h|h
 ·exact .inl h
 ·exact .inr (.inl (UInt8.toNat_inj.1 h))
 ·exact .inr (.inr h)
theorem Avh:∀(p q x y:Str),p.length=q.length->C1 (p++x) (q++y)=if Wc p=Wc q then C1 x y else if Wc p<Wc q then -1 else 1
 |[],[],x,y,_=>by simp
 |[],_::_,_,_,h=>by cases h
 |_::_,[],_,_,h=>by cases h
 |c::p,d::q,x,y,h=>by
  simp only[Zf1,Nat.add_right_cancel_iff] at h;have h':=h;have hp:=Auf p;have hq:=Auf q;rw[<-h] at hq;rw[Adb,Adb,Zb2,Zb2,<-h];rcases A5a c d with hc|rfl|hc
  ·have h1:c.toNat+1<=d.toNat:=hc;have h2:(c.toNat+1)*256 ^ p.length<=d.toNat*256 ^ p.length:=Nat.mul_le_mul_right _ h1;rw[Nat.add_mul,Nat.one_mul] at h2;rw[I1 hc,if_neg (by omega),if_pos (by omega)]
  ·rw[Gk,Avh p q x y h'];simp only[Nat.add_left_cancel_iff,Nat.add_lt_add_iff_left]
  ·have h1:d.toNat+1<=c.toNat:=hc;have h2:(d.toNat+1)*256 ^ p.length<=c.toNat*256 ^ p.length:=Nat.mul_le_mul_right _ h1;rw[Nat.add_mul,Nat.one_mul] at h2;rw[I0 hc,if_neg (by omega),if_neg (by omega)]
theorem Bd9{x:Nat}(h:x<18446744073709551616):Wc (Akz x)=x:=by
 have e:∀s,(Bt x s).toNat=x / 2 ^ s % 256:=λs=>by simp[Bt]
 simp only[Akz,Wc,Ag8,List.foldl_cons,List.foldl_nil,e];simp only[show(2:Nat) ^ 56=72057594037927936 from rfl,show(2:Nat) ^ 48=281474976710656 from rfl,show(2:Nat) ^ 40=1099511627776 from rfl,show(2:Nat) ^ 32=4294967296 from rfl,show(2:Nat) ^ 24=16777216 from rfl,show(2:Nat) ^ 16=65536 from rfl,show(2:Nat) ^ 8=256 from rfl,Nat.pow_zero];omega
theorem A0u{n:Int}(h:inI n):(Wc (Ar0 n):Int)=n+9223372036854775808:=by simp only[inI] at h;rw[Ar0,Bd9 (by omega)];omega
theorem Zb{v:Val}(h:v.kind=4\/v.kind=5):Gz v=esc v.s++[0,1]:=by rcases h with h|h<;>simp[Gz,h]
theorem A0g:∀(s t x y:Str),C1 (esc s++0::1::x) (esc t++0::1::y)=if s=t then C1 x y else C1 s t
 |[],[],x,y=>by rw[if_pos rfl];exact Po [0,1] x y
 |[],c::t,x,y=>by
  rw[if_neg (by simp),Avo];by_cases hc:c=0
  ·subst hc;rw[J2,Afw,Zf2,Zb2,Zb2,Gk,I1 (by decide)]
  ·rw[F4 hc,Afw,Zf2,Zb2,I1 (UInt8.pos_iff_ne_zero.2 hc)]
 |c::s,[],x,y=>by
  rw[if_neg (by simp),Ani];by_cases hc:c=0
  ·subst hc;rw[J2,Afw,Zf2,Zb2,Zb2,Gk,I0 (by decide)]
  ·rw[F4 hc,Afw,Zf2,Zb2,I0 (UInt8.pos_iff_ne_zero.2 hc)]
 |c::s,d::t,x,y=>by
  have ih:=A0g s t x y;by_cases hcd:c=d
  ·subst hcd;have e:C1 (esc (c::s)++0::1::x) (esc (c::t)++0::1::y)=C1 (esc s++0::1::x) (esc t++0::1::y):=by
    by_cases hc:c=0
    ·subst hc;rw[J2,J2];exact Po [0,255] _ _
    ·rw[F4 hc,F4 hc];exact Po [c] _ _
   rw[e,ih,Gk];simp
  ·rw[if_neg (by simp[hcd])];have hlt:∀(c d:UInt8) (s t:Str),c<d->∀x y,C1 (esc (c::s)++x) (esc (d::t)++y) = -1:=λc d s t h x y=>by
    have hd:d≠0:=UInt8.pos_iff_ne_zero.1 (UInt8.lt_of_le_of_lt (UInt8.zero_le) h);rw[F4 hd];by_cases hc:c=0
    ·subst hc;rw[J2];exact I1 h _ _
    ·rw[F4 hc];exact I1 h _ _
   have hgt:∀(c d:UInt8) (s t:Str),d<c->∀x y,C1 (esc (c::s)++x) (esc (d::t)++y)=1:=λc d s t h x y=>by
    have hd:c≠0:=UInt8.pos_iff_ne_zero.1 (UInt8.lt_of_le_of_lt (UInt8.zero_le) h);rw[F4 hd];by_cases hc:d=0
    ·subst hc;rw[J2];exact I0 h _ _
    ·rw[F4 hc];exact I0 h _ _
   rcases A5a c d with h|h|h
   ·rw[hlt c d s t h,I1 h]
   ·exact absurd h hcd
   ·rw[hgt c d s t h,I0 h]
theorem Azq{a b:Int}(h:a<b):Di a b = -1:=by simp[Di,h]
theorem Axh{a b:Int}(h:b<a):Di a b=1:=by
 have:¬a<b:=by omega
 simp[Di,h,this]
theorem Az8(a:Int):Di a a=0:=by simp[Di]
theorem Aps{v w:Val}(h:Di v.kind w.kind≠0):Gt v w=Di v.kind w.kind:=by simp[Gt,h]
theorem Av6{v w:Val}(h:v.kind=w.kind)(h2:Di v.n w.n≠0):Gt v w=Di v.n w.n:=by simp[Gt,h,h2,Az8]
theorem A96{v w:Val}(h:v.kind=w.kind)(h2:v.n=w.n):Gt v w=C1 v.s w.s:=by simp[Gt,h,h2,Az8,F6]
theorem Ajk{v:Val}(h:Aq v=true) : 1<=v.kind/\v.kind<=5:=by rcases Ed.1 h with ⟨e,_⟩|⟨e,_⟩|⟨e,_⟩|⟨e,_⟩|⟨e,_⟩<;>omega
theorem T6{v:Val}(h:Aq v=true):(UInt8.ofNat v.kind.toNat).toNat=v.kind.toNat:=by have:=Ajk h;simp;omega
theorem Bf3{v w:Val}(hv:Aq v=true)(hw:Aq w=true)(nv:inI v.n)(nw:inI w.n)(x y:Str):C1 (Mb v++x) (Mb w++y)=if v=w then C1 x y else Gt v w:=by
 have kv:=Ajk hv;have kw:=Ajk hw;rcases Int.lt_trichotomy v.kind w.kind with h|h|h
 ·have hne:¬v=w:=λe=>by rw[e] at h;omega
  have hs:=Azq h;rw[if_neg hne,Aps (by rw[hs];decide),hs,Mb,Mb,Zb2,Zb2];refine I1 ?_ _ _;show(UInt8.ofNat v.kind.toNat).toNat<(UInt8.ofNat w.kind.toNat).toNat;rw[T6 hv,T6 hw];omega
 ·rw[Mb,Mb,h,Zb2,Zb2,Gk];obtain⟨k,n,s⟩:=v;obtain⟨k2,m,t⟩:=w;simp only at h;subst h;rcases Ed.1 hv with ⟨e,e1,e2⟩|⟨e,e1,e2⟩|⟨e,e1⟩|⟨e,h1,h2,h3⟩|⟨e,h1,h2⟩
  ·simp only at e e1 e2;subst e e1 e2;rcases Ed.1 hw with ⟨_,e3,e4⟩|⟨q,_⟩|⟨q,_⟩|⟨q,_⟩|⟨q,_⟩
   ·simp only at e3 e4;subst e3 e4;rw[if_pos rfl];rfl
   all_goals cases q
  ·simp only at e e1 e2;subst e e2;rcases Ed.1 hw with ⟨q,_⟩|⟨_,e3,e4⟩|⟨q,_⟩|⟨q,_⟩|⟨q,_⟩
   ·cases q
   ·simp only at e3 e4;subst e4;rcases e1 with rfl|rfl<;>rcases e3 with rfl|rfl
    ·rw[if_pos rfl];exact Gk 0 x y
    ·exact I1 (c:=0) (d:=1) (by decide) x y
    ·exact I0 (c:=1) (d:=0) (by decide) x y
    ·rw[if_pos rfl];exact Gk 1 x y
   all_goals cases q
  ·simp only at e e1 nv nw;subst e e1;rcases Ed.1 hw with ⟨q,_⟩|⟨q,_⟩|⟨_,e4⟩|⟨q,_⟩|⟨q,_⟩
   ·cases q
   ·cases q
   ·simp only at e4;subst e4;have p1:Gz ⟨3,n,[]⟩=Ar0 n:=rfl;have p2:Gz ⟨3,m,[]⟩=Ar0 m:=rfl;rw[p1,p2,Avh (Ar0 n) (Ar0 m) x y rfl];have q1:=A0u nv;have q2:=A0u nw;rcases Int.lt_trichotomy n m with h|rfl|h
    ·have hs:=Azq h;rw[if_neg (by omega),if_pos (by omega),if_neg (by simp;omega),Av6 (v:=⟨3,n,[]⟩) (w:=⟨3,m,[]⟩) rfl (by simp only[hs];decide)];exact hs.symm
    ·rw[if_pos rfl,if_pos rfl]
    ·have hs:=Axh h;rw[if_neg (by omega),if_neg (by omega),if_neg (by simp;omega),Av6 (v:=⟨3,n,[]⟩) (w:=⟨3,m,[]⟩) rfl (by simp only[hs];decide)];exact hs.symm
   all_goals cases q
  all_goals
   simp only at e h1;subst e h1;have m0:m=0:=by
    rcases Ed.1 hw with ⟨q,_⟩|⟨q,_⟩|⟨q,_⟩|⟨_,q,_⟩|⟨_,q,_⟩;any_goals exact q
    all_goals cases q
   subst m0;rw[Zb (by simp),Zb (by simp),Zj1,Zj1];refine(A0g s t x y).trans ?_;rw[show ∀k:Int,Gt ⟨k,0,s⟩ ⟨k,0,t⟩=C1 s t fromλk=>A96 rfl rfl];by_cases hst:s=t
   ·subst hst;rw[if_pos rfl,if_pos rfl]
   ·rw[if_neg hst,if_neg (by simp[hst])]
 ·have hne:¬v=w:=λe=>by rw[e] at h;omega
  have hs:=Axh h;rw[if_neg hne,Aps (by rw[hs];decide),hs,Mb,Mb,Zb2,Zb2];refine I0 ?_ _ _;show(UInt8.ofNat w.kind.toNat).toNat<(UInt8.ofNat v.kind.toNat).toNat;rw[T6 hv,T6 hw];omega
theorem A7g{v w:Val}(h:¬v=w):Gt v w≠0:=λe=>h ((vcmp_lin.eq _ _).1 e)
theorem Ao4(v:Val)(l:List Val):E4 (v::l)=Mb v++E4 l:=by simp[E4]
theorem Awr:∀(a b:List Val) (x y:Str),a.length=b.length->a.all Aq=true->b.all Aq=true->(∀v,v∈a->inI v.n)->(∀v,v∈b->inI v.n)->C1 (E4 a++x) (E4 b++y)=if a=b then C1 x y else H3 Gt a b
 |[],[],x,y,_,_,_,_,_=>by rw[if_pos rfl];rfl
 |[],_::_,_,_,h,_,_,_,_=>by cases h
 |_::_,[],_,_,h,_,_,_,_=>by cases h
 |v::a,w::b,x,y,h,ra,rb,na,nb=>by
  simp only[Zv1,Zb1] at ra rb;rw[Ao4,Ao4,Zj1,Zj1,Bf3 ra.1 rb.1 (na v (by simp)) (nb w (by simp))];simp only[Zf1,Nat.add_right_cancel_iff] at h;by_cases hvw:v=w
  ·subst hvw;rw[if_pos rfl,Awr a b x y h ra.2 rb.2 (λu hu=>na u (by simp[hu])) (λu hu=>nb u (by simp[hu]))];have e0:Gt v v=0:=(vcmp_lin.eq _ _).2 rfl;simp only[Ze2,true_and,H3,e0,Fx,if_true]
  ·rw[if_neg hvw,if_neg (by simp[hvw])];simp only[H3,Fx];rw[if_neg (A7g hvw)]
def Hq(t:T)(l:List KvS):T:=l.foldl (λt p=>t.put (nib p.key) p.val) t
def Bby(p:KvS):Prop:=p.key.length<=200/\p.val.length<=4000
theorem Aoh:∀{l:List KvS}{t:T},t.Wf 0->(∀p,p∈l->Bby p)->(Hq t l).Wf 0
 |[],t,h,_=>h
 |p::l,t,h,hl=>Aoh (l:=l) (Bke h (hl p (by simp)).1 (hl p (by simp)).2) λq hq=>hl q (by simp[hq])
theorem Aeg:∀(l:List KvS) (t:T),(Hq t l).size<=t.size+l.length
 |[],t=>Zn1 _
 |p::l,t=>by have h1:=Aeg l (t.put (nib p.key) p.val);have h2:=Akx t (nib p.key) p.val;simp only[Hq,List.foldl_cons,Zf1] at h1 ⊢;omega
theorem Akm:∀(l:List KvS) (t:T) (k:Str),(Hq t l).get k=match l.reverse.find? (λp=>decide (p.key=k)) with|some p=>some p.val|none=>t.get k
 |[],t,k=>rfl
 |p::l,t,k=>by
  have ih:=Akm l (t.put (nib p.key) p.val) k;simp only[Hq,List.foldl_cons] at ih ⊢;rw[ih,List.reverse_cons,List.find?_append];cases l.reverse.find? (λp=>decide (p.key=k)) with
  |some q=>rfl
  |none =>
   simp only[Option.none_or,List.find?_cons,List.find?_nil,Bra];by_cases e:k=p.key
   ·simp[e]
   ·simp[e,Ne.symm e]
def P5(t:T):List KvS->Option Nat
 |[]=>none
 |p::l=>if(t.get p.key).isSome then some 0 else(P5 t l).map (·+1)
theorem Aqj{R:Type}{kx:Ex->Ye->Option R}{t:T}{l v1:List KvS}{g:List NodeS}{h:Str}(hw:t.Wf 0)(hl:l.length<=100000)(hk:∀p,p∈l->p.key.length<=200):∀(k i:Nat),i<=l.length->l.length-i<k ->
  Aj (λrec=>Ab7 rec kx) k (0,v1,l,(l.length:Int),(i:Int),t.node.kind,t.node.path,t.node.has,t.node.val,t.node.kids,t.node.hash,g,h)=match P5 t (l.drop i) with|none=>kx (.exit 0) (0,v1,l,(l.length:Int),(l.length:Int),t.node.kind,t.node.path,t.node.has,t.node.val,t.node.kids,t.node.hash,g,h)|some j=>kx .ret (if i+j=0 then 180 else 181,v1,l,(l.length:Int),((i+j:Nat):Int),t.node.kind,t.node.path,t.node.has,t.node.val,t.node.kids,t.node.hash,g,h)
 |0,_,_,hk=>by omega
 |k+1,i,hi,hkk=>by
  rw[Ay];by_cases hlt:i<l.length
  ·have c1:(i:Int)<(l.length:Int):=by omega
   have hg:=Bqq (g:=g) (h:=h) hw (hk _ (List.getElem_mem hlt));have hg:Au2 (l[i].key,t.node.kind,t.node.path,t.node.has,t.node.val,t.node.kids,t.node.hash,g,h)=_:=hg;simp only[Ab7,c1,decide_true,Af,As hlt,chk,Al (c :=.kv) hlt,hg,Zc1,Zt1,Ag,An hlt (show ln l.length by simp[ln];omega)];rw[List.drop_eq_getElem_cons hlt];simp only[P5];cases hs:(t.get l[i].key).isSome with
   |true =>
    simp only[Af,if_true,Nat.add_zero];by_cases e:i=0
    ·simp only[e,if_true];rfl
    ·have e2:¬((i:Int)=0):=by omega
     simp only[e,e2,decide_false,Ag,if_false]
   |false =>simp only[Ag,Zj2,if_false];rw[Aqj (kx:=kx) hw hl hk k (i+1) (by omega) (by omega)];cases P5 t (l.drop (i+1)) with|none=>rfl|some j=>simp only[Zl2,show i+1+j=i+(j+1) by omega]
  ·have e:i=l.length:=by omega
   subst e;have c1:¬(l.length:Int)<(l.length:Int):=by omega
   simp only[Ab7,c1,decide_false,Ag,Zc2,P5]
theorem Aoy{R:Type}{kx:Ex->Yb->Option R}{l:List KvS}{z:Int}{g:List NodeS}{h:Str}(hl:l.length<=100000)(hk:∀p,p∈l->Bby p):∀(k i:Nat) (t:T),t.Wf 0->i<=l.length->l.length-i<k ->
  Aj (λrec=>Aca rec kx) k (z,l,(l.length:Int),(i:Int),t.node.kind,t.node.path,t.node.has,t.node.val,t.node.kids,t.node.hash,g,h)=kx (.exit 3) (z,l,(l.length:Int),(l.length:Int),(Hq t (l.drop i)).node.kind,(Hq t (l.drop i)).node.path,(Hq t (l.drop i)).node.has,(Hq t (l.drop i)).node.val,(Hq t (l.drop i)).node.kids,(Hq t (l.drop i)).node.hash,g,h)
 |0,_,_,_,_,hk=>by omega
 |k+1,i,t,hw,hi,hkk=>by
  rw[Ay];by_cases hlt:i<l.length
  ·have c1:(i:Int)<(l.length:Int):=by omega
   have ho:=hk _ (List.getElem_mem hlt);have hp:=Boo (g:=g) (h:=h) hw ho.1 ho.2;have hp:Arl (l[i].key,l[i].val,t.node.kind,t.node.path,t.node.has,t.node.val,t.node.kids,t.node.hash,g,h)=_:=hp;simp only[Aca,c1,decide_true,Af,As hlt,chk,Al (c :=.kv) hlt,hp,Zc1,Zt1,Ag,An hlt (show ln l.length by simp[ln];omega)];rw[Aoy (kx:=kx) hl hk k (i+1) _ (Bke hw ho.1 ho.2) (by omega) (by omega),List.drop_eq_getElem_cons hlt];rfl
  ·have e:i=l.length:=by omega
   subst e;have c1:¬(l.length:Int)<(l.length:Int):=by omega
   simp only[Aca,c1,decide_false,Ag,Zc2];rfl
theorem Bho{a b:List KvS}(ha:a.length<=500000)(hb:b.length<=500000):Bo6 [a,b]=some (a++b):=by
 have d1:decide ((0:Int)<(([a,b].length:Nat):Int))=true:=rfl;have d2:decide ((1:Int)<(([a,b].length:Nat):Int))=true:=rfl;have d3:decide ((2:Int)<(([a,b].length:Nat):Int))=false:=rfl;have w1:wr .i64 (0+1)=1:=by decide
 have w2:wr .i64 (1+1)=2:=by decide
 have a0:at' .kvs [a,b] 0=a:=rfl;have a1:at' .kvs [a,b] 1=b:=rfl;have i0:inb 0 [a,b].length=true:=rfl;have i1:inb 1 [a,b].length=true:=rfl;have s1:wr .i64 (0+(a.length:Int))=(a.length:Int):=by rw[B3 (by simp only[inI];omega)];omega
 have s2:wr .i64 ((a.length:Int)+(b.length:Int))=((a.length+b.length:Nat):Int):=by rw[B3 (by simp only[inI];omega)];omega
 have p1:decide ((a.length:Int)<0)=false:=Zd1 (by omega);have p2:decide (((a.length+b.length:Nat):Int)<0)=false:=Zd1 (by omega);have q1:decide ((0:Int)<=((a.length+b.length:Nat):Int))=true:=Ze1 (by omega);have q2:decide (((a.length+b.length:Nat):Int)<=2000000)=true:=Ze1 (by omega);have m1:decide (([]:List KvS).length+a.length<=Ah)=true:=Ze1 (by simp only[Ah,Zi1];omega);have m2:decide (([]++a:List KvS).length+b.length<=Ah)=true:=Ze1 (by simp only[Ah,Zf2];omega);have go0:∀{R:Type}(kx:Ex->Yt->Option R),Aj (λrec=>Ww rec kx) 100 ([a,b],0,[a,b],(([a,b].length:Nat):Int),0)=kx (.exit 0) ([a,b],((a.length+b.length:Nat):Int),[a,b],(([a,b].length:Nat):Int),2):=λkx=>by rw[show(100:Nat)=97+1+1+1 from rfl,Ay];simp only[Ww,d1,Af,i0,chk,a0,s1,p1,Ag,w1];rw[Ay];simp only[Ww,d2,Af,i1,chk,a1,s2,p2,Ag,w2];rw[Ay];simp only[Ww,d3,Ag]
 have go1:∀{R:Type}(kx:Ex->Aae->Option R),Aj (λrec=>Wi rec kx) 100 ([],[a,b],(([a,b].length:Nat):Int),0)=kx (.exit 2) ([]++a++b,[a,b],(([a,b].length:Nat):Int),2):=λkx=>by rw[show(100:Nat)=97+1+1+1 from rfl,Ay];simp only[Wi,d1,Af,i0,chk,a0,m1,w1];rw[Ay];simp only[Wi,d2,Af,i1,chk,a1,m2,w2];rw[Ay];simp only[Wi,d3,Ag]
 simp only[Bo6,Ab1];rw[go0];simp only[q1,q2,Bool.and_true,chk,Af];rw[go1];simp
def Mr(tb:Tbl)(r:List Val)(t:T):Int×T:=cond (decide ((Ai6 tb r).2=0)) (match P5 t (Ct tb r::D6 tb r tb.cols r) with
 |some j=>(if j=0 then 180 else 181,t)
 |none=>(0,Hq t (Ga tb r))) ((Ai6 tb r).2,t)
theorem A5m{tb:Tbl}{r:List Val}(h:(Ai6 tb r).2=0)(hf0:Ec tb r=0\/Ec tb r≠0):Ec tb r=0/\(Ga tb r).all Alp=true/\Ai6 tb r=(Ga tb r,0):=by
 unfold Ai6 at *;cases h1:decide (Ec tb r=0) with
 |false =>rw[h1] at h;exact absurd h (of_decide_eq_false h1)
 |true =>rw[h1] at h;cases h2:(Ga tb r).all Alp with|false=>rw[h2] at h;cases h|true=>exact⟨of_decide_eq_true h1,rfl,rfl⟩
theorem Ayk{p:KvS}:Alp p=true↔Bby p:=by simp[Alp,Bby]
theorem Bvi{tb:Tbl}{r:List Val}{t:T}{g:List NodeS}{h:Str}(hf:O5 tb r=some (Ec tb r))(hb:G1 r)(hw:t.Wf 0)(k:Nat)(hk : 600<k) :
  Ll k (tb,r,t.node.kind,t.node.path,t.node.has,t.node.val,t.node.kids,t.node.hash,g,h)=some ((Mr tb r t).1,(Mr tb r t).2.node.kind,(Mr tb r t).2.node.path,(Mr tb r t).2.node.has,(Mr tb r t).2.node.val,(Mr tb r t).2.node.kids,(Mr tb r t).2.node.hash,g,h):=by
 simp only[Ll,Bqx hf hb,Zc1,Mr];cases he:decide ((Ai6 tb r).2=0) with
 |false=>rfl
 |true =>
  obtain⟨h0,hok,he2⟩:=A5m (of_decide_eq_true he) (Classical.em _);have f:=M7 h0;have hp:Ayt tb r=some (⟨[Ct tb r],eKv (Ct tb r)⟩,⟨tb.idx.map (Jn tb r),G5 0 (tb.idx.map (Jn tb r))⟩,⟨D6 tb r tb.cols r,G5 0 (D6 tb r tb.cols r)⟩,⟨Hl tb r tb.cols r,G5 0 (Hl tb r tb.cols r)⟩):=A87 f hb 5000 (by omega);have ht:=Tn (Ul h0).1;have hu:=Agc (t:=tb) (r:=r) tb.cols r;have hl:(Ai6 tb r).1.length<=400:=by rw[he2];have:=(Acg (Ul h0).1).2.2.1;have h3:=Agg (t:=tb) (r:=r) tb.cols r;simp only[Ga,Zf1,Zh1,List.length_map];omega
  have hall:∀p,p∈Ga tb r->Bby p:=λp hp=>Ayk.1 (Zg2.1 hok p hp);simp only[Zt1,Ag,Af,hp,Zc1,Bho (show [Ct tb r].length<=500000 by simp) (show(D6 tb r tb.cols r).length<=500000 by omega)];have h1:∀p,p∈[Ct tb r]++D6 tb r tb.cols r->p.key.length<=200:=λp hp=>by
   refine(hall p ?_).1;simp only[Ga,List.mem_cons,List.mem_append,List.not_mem_nil,or_false] at hp ⊢;rcases hp with hp|hp
   ·exact .inl hp
   ·exact .inr (.inr (.inl hp))
  refine(Aqj hw (by simp only[Zh1,List.length_singleton];omega) h1 k 0 (by omega) (by simp only[Zh1,List.length_singleton];omega)).trans ?_;simp only[Zq1,List.singleton_append];cases P5 t (Ct tb r::D6 tb r tb.cols r) with
  |some j=>simp only[Nat.zero_add]
  |none =>
   simp only[];rw[he2];have hl:(Ga tb r).length<=400:=by rw[he2] at hl;exact hl
   refine(Aoy (by omega) hall k 0 t hw (by omega) (by omega)).trans ?_;simp only[Zq1]
theorem Bvb{tb:Tbl}{r:List Val}{t:T}{g:List NodeS}{h:Str}(hf:O5 tb r=some (Ec tb r))(hb:G1 r)(hw:t.Wf 0) :
  Au3 (tb,r,t.node.kind,t.node.path,t.node.has,t.node.val,t.node.kids,t.node.hash,g,h)=some ((Mr tb r t).1,(Mr tb r t).2.node.kind,(Mr tb r t).2.node.path,(Mr tb r t).2.node.has,(Mr tb r t).2.node.val,(Mr tb r t).2.node.kids,(Mr tb r t).2.node.hash,g,h):=Bvi hf hb hw 5000 (by omega)
abbrev vgR:=Int×Int×Int
def vgX:Ex->Pl->Option vgR:=λe vz=>match vz with|(_,a,b,c,_,d,_,_,_)=>match e with|.ret=>some (a,b,c)|.exit 0=>some (0,0,d)|_=>none
theorem Bn6{b:Str}{p:Nat}(hp:p<=b.length)(hb:b.length<=1000000):Amq b (p:Int)=Aj (λrec=>N4 rec vgX) 100 ((p:Int),0,0,0,0,10,b.drop p,((b.drop p).length:Int),0):=by simp only[Amq,Acc];rw[Zd1 (show ¬(p:Int)<0 by omega),Ag,Zd1 (show ¬(b.length:Int)<(p:Int) by omega),Ag,show upto (p:Int) b.length b.length=true by simp[upto,Zb1];omega];rfl
theorem A1c{n:Nat}(h:n<256):(UInt8.ofNat n).toNat=n:=by simp_all
theorem Bt3:∀c:Nat,c<256->wr .u64 (Gy .u8 (c:Int) 127)=((c % 128:Nat):Int):=by decide +kernel
theorem Bwp{x i:Nat}(hi:i<=9)(h:x*2 ^ (7*i)<18446744073709551616):Afq .u64 (x:Int) (wr .i64 (7*(i:Int)))=((x*2 ^ (7*i):Nat):Int):=by
 have e:(wr .i64 (7*(i:Int))).toNat=7*i:=by rw[B3 (by simp[inI];omega)];omega
 show wr .u64 ((x:Int)*2 ^ min (wr .i64 (7*(i:Int))).toNat IntKind.u64.bits)=_;rw[e,Nat.min_eq_left (by simp[IntKind.bits];omega),<-Abb h];simp
theorem Bw2{a x i:Nat}(ha:a<2 ^ (7*i))(h:a+x*2 ^ (7*i)<18446744073709551616):ior .u64 (a:Int) ((x*2 ^ (7*i):Nat):Int)=((a+x*2 ^ (7*i):Nat):Int):=by
 have e3:(BitVec.ofInt 64 ((x*2 ^ (7*i):Nat):Int)).toNat=x*2 ^ (7*i):=by simp only[BitVec.toNat_ofInt];omega
 have e4:(BitVec.ofInt 64 (a:Int)).toNat=a:=by simp only[BitVec.toNat_ofInt];omega
 have e5:a ||| x*2 ^ (7*i)=a+x*2 ^ (7*i):=by have:=Nat.shiftLeft_add_eq_or_of_lt (i:=7*i) (b:=a) ha x;rw[Nat.shiftLeft_eq] at this;rw[Nat.or_comm,<-this];omega
 show IntKind.wrap .u64 (((BitVec.ofInt 64 (a:Int) ||| BitVec.ofInt 64 ((x*2 ^ (7*i):Nat):Int)).toNat:Nat):Int)=_;rw[BitVec.toNat_or,e3,e4,e5];exact Abb h
theorem Ax8{p:Int}{a i:Nat}{l:Str}(hi:i<l.length)(h9:i<=9)(hl:ln l.length)(ha:a<2 ^ (7*i))(hx:a+(l[i].toNat % 128)*2 ^ (7*i)<18446744073709551616)(rec:Pl->Option vgR) :
  N4 rec vgX (p,0,0,0,(a:Int),10,l,(l.length:Int),(i:Int))=if(i=9/\1<l[i].toNat)\/(l[i].toNat=0/\0<i) then some (0,0,11) else if l[i].toNat<128 then some (((a+(l[i].toNat % 128)*2 ^ (7*i):Nat):Int),wr .i64 (wr .i64 (p+i)+1),0) else rec (p,0,0,0,((a+(l[i].toNat % 128)*2 ^ (7*i):Nat):Int),10,l,(l.length:Int),((i+1:Nat):Int)):=by
 have hc:=l[i].toNat_lt;have e:ior .u64 (a:Int) (Afq .u64 (wr .u64 (Gy .u8 (l[i].toNat:Int) 127)) (wr .i64 (7*(i:Int))))=((a+(l[i].toNat % 128)*2 ^ (7*i):Nat):Int):=by rw[Bt3 _ hc,Bwp h9 (by omega),Bw2 ha hx]
 have c1:decide (0<=wr .i64 (7*(i:Int)))=true:=by rw[B3 (by simp[inI];omega)];exact Ze1 (by omega)
 simp only[N4,Ea hi,Af,As hi,chk,Al (c :=.byte) hi,An hi hl,vgX,c1,e]
 grind
theorem A7v{p:Nat}{l r:Str}(hl:p+l.length<=1000000):∀(k i a m f:Nat),i+k=9->l.drop i=Cr k m++r->a<2 ^ (7*i)->a+m*2 ^ (7*i)<18446744073709551616->(0<i->0<m)->k<f ->
  Aj (λrec=>N4 rec vgX) f ((p:Int),0,0,0,(a:Int),10,l,(l.length:Int),(i:Int))=some (((a+m*2 ^ (7*i):Nat):Int),((p+i+(Cr k m).length:Nat):Int),0)
 |_,_,_,_,0,_,_,_,_,_,h=>by omega
 |k,i,a,m,f+1,hk,hd,ha,hm,h0,hf=>by
  have hlen:=congrArg List.length hd;have h1:=Fa k m;rw[Za2,Zh1] at hlen;have hi:i<l.length:=by omega
  have hln:ln l.length:=by simp[ln];omega
  have hgi:l[i]=(Cr k m++r)[0]'(by simp;omega):=by
   have:(l.drop i)[0]'(by rw[Za2];omega)=l[i]:=by simp
   rw[<-this];simp only[hd]
  have w1:wr .i64 (wr .i64 ((p:Int)+i)+1)=((p+i+1:Nat):Int):=by rw[B3 (n:=(p:Int)+i) (by simp[inI];omega),B3 (by simp[inI];omega)];omega
  rw[Ay];have small:m<128->Cr k m=[UInt8.ofNat m]->N4 (Aj (λrec=>N4 rec vgX) f) vgX ((p:Int),0,0,0,(a:Int),10,l,(l.length:Int),(i:Int))=some (((a+m*2 ^ (7*i):Nat):Int),((p+i+(Cr k m).length:Nat):Int),0):=λhs e=>by
   have e0:l[i].toNat=m:=by rw[hgi];simp only[e];exact A1c (by omega)
   rw[Ax8 hi (by omega) hln ha (by rw[e0,Nat.mod_eq_of_lt hs];exact hm),e0,Nat.mod_eq_of_lt hs,if_neg,if_pos hs,w1,e]
   ·rfl
   ·rintro(⟨h9,h2⟩|⟨h2,h3⟩)
    ·subst h9;have : 2*2 ^ (7*9)<=m*2 ^ (7*9):=Nat.mul_le_mul_right _ h2;omega
    ·have:=h0 h3;omega
  cases k with
  |zero =>
   have h9:i=9:=by omega
   subst h9;exact small (by omega) rfl
  |succ k =>
   by_cases hs:m<128
   ·exact small hs (by simp[Cr,hs])
   ·have e:Cr (k+1) m=UInt8.ofNat (m % 128+128)::Cr k (m / 128):=by simp[Cr,hs]
    have e0:l[i].toNat=m % 128+128:=by rw[hgi];simp only[e];exact A1c (by omega)
    have e1:(m % 128+128) % 128=m % 128:=by omega
    have hp : 2 ^ (7*(i+1))=128*2 ^ (7*i):=by rw[Nat.mul_add,Nat.pow_add];omega
    have hq:m % 128*2 ^ (7*i)+(m / 128)*2 ^ (7*(i+1))=m*2 ^ (7*i):=by rw[hp,<-Nat.mul_assoc,<-Nat.add_mul];congr 1;omega
    have hle:m % 128*2 ^ (7*i)<=127*2 ^ (7*i):=Nat.mul_le_mul_right _ (by omega);rw[Ax8 hi (by omega) hln ha (by rw[e0,e1];omega),e0,e1,if_neg (by omega),if_neg (by omega)];have ih:=A7v (r:=r) hl k (i+1) (a+m % 128*2 ^ (7*i)) (m / 128) f (by omega) (by rw[<-List.drop_drop,hd,e];simp) (by rw[hp];omega) (by omega) (by omega) (by omega)
    rw[ih,e];simp only[Zf1,Za1,Zp1];refine⟨by congr 1;omega,by congr 1;omega,trivial⟩
theorem Att{b r:Str}{p n:Nat}(hd:b.drop p=Cr 9 n++r)(hn:n<18446744073709551616)(hb:b.length<=1000000):Amq b (p:Int)=some ((n:Int),((p+(Cr 9 n).length:Nat):Int),0)/\p+(Cr 9 n).length+r.length=b.length:=by have hl:=congrArg List.length hd;have h1:=Fa 9 n;rw[Za2,Zh1] at hl;refine⟨?_,by omega⟩;rw[Bn6 (by omega) hb];have:=A7v (p:=p) (l:=b.drop p) (r:=r) (by rw[Za2];omega) 9 0 0 n 100 rfl (by simpa using hd) (by simp) (by simpa using hn) (by omega) (by omega);simpa using this
theorem wrI(n:Int):wr .i64 n=(n+9223372036854775808) % 18446744073709551616-9223372036854775808:=by simp only[wr,IntKind.wrap_i64]
theorem Bwj{n:Int}(h:inI n=true):Xk .i64 (wr .i64 (D5 .u64 (zz n:Int) 1)) (wr .i64 (0-(wr .i64 (Gy .u64 (zz n:Int) 1))))=n:=by
 have hz:=Bnf h;simp[inI] at h;have e1:D5 .u64 (zz n:Int) 1=((zz n / 2:Nat):Int):=by show(zz n:Int).fdiv 2=_;rw[Int.fdiv_eq_ediv_of_nonneg _ (by omega)];omega
 have e2:Gy .u64 (zz n:Int) 1=((zz n % 2:Nat):Int):=by show wr .u64 (((BitVec.ofInt 64 (zz n:Int) &&& BitVec.ofInt 64 1).toNat:Nat):Int)=_;rw[BitVec.toNat_and,show(BitVec.ofInt 64 1).toNat=1 by decide,Nat.and_one_is_mod,BitVec.toNat_ofInt,wrU];omega
 rw[e1,e2,B3 (n:=((zz n / 2:Nat):Int)) (by simp[inI];omega),B3 (n:=((zz n % 2:Nat):Int)) (by simp[inI];omega)];by_cases hn:n<0
 ·have z:zz n % 2=1:=by simp only[zz,if_pos hn];omega
  have z2:((zz n / 2:Nat):Int) = -n-1:=by simp only[zz,if_pos hn];omega
  rw[z,z2,show wr .i64 (0-((1:Nat):Int)) = -1 by decide];show wr .i64 (((BitVec.ofInt 64 (-n-1) ^^^ BitVec.ofInt 64 (-1)).toNat:Nat):Int)=_;rw[show BitVec.ofInt 64 (-1)=BitVec.allOnes 64 by decide,BitVec.xor_allOnes,BitVec.toNat_not,BitVec.toNat_ofInt,wrI];omega
 ·have z:zz n % 2=0:=by simp only[zz,if_neg hn];omega
  have z2:((zz n / 2:Nat):Int)=n:=by simp only[zz,if_neg hn];omega
  rw[z,z2,show wr .i64 (0-((0:Nat):Int))=0 by decide,Bwg];show wr .i64 (((BitVec.ofInt 64 n).toNat:Nat):Int)=_;rw[BitVec.toNat_ofInt,wrI];omega
theorem Bp0{b r:Str}{p:Nat}{n:Int}(h:inI n=true)(hd:b.drop p=Cr 9 (zz n)++r)(hb:b.length<=1000000):A7b b (p:Int)=some (n,((p+(Cr 9 (zz n)).length:Nat):Int),0):=by simp only[A7b,Xc,(Att hd (Bnf h) hb).1,Zc1,Bwj h]
def wvJ(q:Str)(q1 q2:Int)(v:Val):Option Z9 :=
 let j1:=λ(p2:Bool)=>cond p2 (some (v,q,q1,11)) ((Mi (v,q,q1,q2)).bind λ(c,a,b,d)=>cond (!c) (some (v,a,b,11)) (some (v,a,b,d)))
 cond (decide (q2=0)) (j1 (!decide (Ei v=0))) (j1 false)
def wvB(x:Int)(b:Str)(p e:Int):Option Z9 :=
 cond (decide (x=1)) (wvJ b p e (Val.mk x 0 [])) (
  cond (decide (x=2)) ((Qz (b,p,e)).bind λ(x4,x5,x6,x7)=>wvJ x5 x6 x7 (Val.mk x (wr .i64 x4) [])) (
  cond (decide (x=3)) ((Li (b,p,e)).bind λ(x8,x9,a,c)=>wvJ x9 a c (Val.mk x x8 [])) (
   let j:=λ(p1:Bool)=>cond p1 ((Su (b,p,e)).bind λ(d,f,g,h)=>wvJ f g h (Val.mk x 0 d)) (wvJ b p 11 (Val.mk x 0 []))
   cond (decide (x=4)) (j (decide (x=4))) (j (decide (x=5))))))
theorem Bb7(b:Str)(p e:Int):Pj (b,p,e)=(Qz (b,p,e)).bind λ(x,x1,x2,x3)=>cond (!decide (x3=0)) (some (Val.mk (wr .i64 x) 0 [],x1,x2,x3)) (wvB (wr .i64 x) x1 x2 x3):=rfl
def wdX:Ex->X1->Option (List Val×Int):=λe vz=>match vz with|(v4,v5,_,_,_,v9,a)=>match e with|.exit 1=>cond (decide (a=0)) (cond (decide (v9<(v4.length:Int))) (some ([],11)) (cond (!decide (a=0)) (some ([],a)) (some (v5,0)))) (cond (!decide (a=0)) (some ([],a)) (some (v5,0)))|_=>none
theorem Bmy{l:List Val}(hl:l.length<=4000):(Hf l).1.length<=110000:=by
 simp only[Hf];cases h:l.all (λv=>Aq v) with
 |false=>simp
 |true =>rw[Af];cases hd:decide (100<(l.length:Int)) with|true=>simp|false =>have:=of_decide_eq_false hd;have h1:=Apa h;have h2:=Fa 9 l.length;simp only[Ag,Zh1];omega
def okR(r:List Val):Bool:=decide ((Hf r).2=0)
theorem Bqn{b r s:Str}{p:Nat}(hd:b.drop p=(Cr 5 s.length++s)++r)(hb:b.length<=1000000):A5n b (p:Int)=some (s,((p+(Cr 5 s.length++s).length:Nat):Int),0)/\b.drop (p+(Cr 5 s.length++s).length)=r:=by
 have h0:=congrArg List.length hd;simp only[Za2,Zh1] at h0;have hd2:=hd;rw[Zj1,<-A1r (show s.length<128 ^ 6 by omega)] at hd2;obtain⟨h1,h2⟩:=Att hd2 (by omega) hb;rw[A1r (show s.length<128 ^ 6 by omega)] at hd2 h1 h2;rw[Zh1] at h2;have h3:b.drop (p+(Cr 5 s.length).length)=s++r:=by rw[<-List.drop_drop,hd2,List.drop_left]
 refine⟨?_,by rw[<-List.drop_drop,hd,List.drop_left]⟩;obtain⟨q,hq⟩:∃q,q=p+(Cr 5 s.length).length:=⟨_,rfl⟩;rw[<-hq] at h1 h2 h3;simp only[A5n,We,h1,Zc1,decide_true,Zt1,Ag];rw[Zd1 (by omega),Ag,B3 (n:=(b.length:Int)-q) (by simp[inI];omega),show(b.length:Int)-(q:Int)=((b.length-q:Nat):Int) by omega,Abb (by omega),Zd1 (by omega),Ag,B3 (n:=(s.length:Int)) (by simp[inI];omega),B3 (by simp[inI];omega)];have hu:upto (q:Int) ((q:Int)+(s.length:Int)) b.length=true:=by simp[upto,Zb1];omega
 have hc:cut b (q:Int) ((q:Int)+(s.length:Int))=s:=by simp only[cut,Int.toNat_natCast];rw[h3,show((q:Int)+(s.length:Int)).toNat-q=s.length by omega,List.take_left]
 rw[hu,hc,chk,Af,Ze1 (show 0+s.length<=Ah by simp[Ah];omega),chk,Af,Zh1,show(q:Int)+(s.length:Int)=((p+((Cr 5 s.length).length+s.length):Nat):Int) by omega];rfl
theorem A0a{n:Int}(h : 0<=n/\n<256):((b8 n).toNat:Int)=n:=by obtain⟨m,rfl⟩:=Int.eq_ofNat_of_zero_le h.1;rw[b8,Bje,Int.toNat_natCast,A1c (Nat.mod_lt _ (by omega))];omega
theorem Avr{b r:Str}{c:UInt8}{p:Nat}(hd:b.drop p=c::r)(hb:b.length<=1000000):Qz (b,(p:Int),0)=some ((c.toNat:Int),b,((p+1:Nat):Int),0)/\b.drop (p+1)=r/\p<b.length:=by
 have h0:=congrArg List.length hd;simp only[Za2,Zf1] at h0;have hp:p<b.length:=by omega
 rw[List.drop_eq_getElem_cons hp] at hd;obtain⟨h1,h2⟩:=List.cons.inj hd;refine⟨?_,h2,hp⟩;simp only[Qz,Acp];rw[Zd1 (show ¬(p:Int)=(b.length:Int) by omega),Ag,B3 (n:=(p:Int)+1) (by simp[inI];omega),show(p:Int)+1-1=(p:Int) by omega,B3 (n:=(p:Int)) (by simp[inI];omega),As hp,chk,Af,Al (c :=.byte) hp,h1];rfl
theorem An0{b r s:Str}{p:Nat}(hd:b.drop p=(Cr 5 s.length++s)++r)(hs:s.length<=1000)(hb:b.length<=1000000):Su (b,(p:Int),0)=some (s,b,((p+(Cr 5 s.length++s).length:Nat):Int),0):=by have hd2:=hd;rw[Zj1,<-A1r (show s.length<128 ^ 6 by omega)] at hd2;obtain⟨h1,_⟩:=Att hd2 (by omega) hb;simp only[Su,Vv,h1,(Bqn hd hb).1,Zc1];rw[Zd1 (show ¬(1000:Int)<(s.length:Int) by omega)];rfl
theorem Aab{b:Str}{q:Int}{v:Val}(h:Aq v=true):wvJ b q 0 v=some (v,b,q,0):=by simp only[wvJ,vch,h,Mi,Iy];cases decide (v.kind=4)<;>rfl
theorem Aug{v:Val}(h:Aq v=true):(v.kind=1->v.n=0/\v.s=[])/\(v.kind=2->(v.n=0\/v.n=1)/\v.s=[])/\(v.kind=3->v.s=[])/\(v.kind=4\/v.kind=5->v.n=0):=by
 obtain⟨k,n,s⟩:=v;refine⟨λh1 =>?_,λh1 =>?_,λh1 =>?_,λh1 =>?_⟩
 ·simp only at h1;subst h1;by_cases h0:n=0<;>simp[Aq,h0] at h ⊢ <;> grind
 ·simp only at h1;subst h1;by_cases h0:n=0<;>by_cases h2:n=1<;>simp[Aq,h0,h2] at h ⊢ <;> grind
 ·simp only at h1;subst h1;simp[Aq] at h ⊢
  grind
 ·rcases h1 with h1|h1<;>(simp only at h1;subst h1;by_cases h0:n=0<;>simp[Aq,h0] at h ⊢)
theorem A4m{b r:Str}{p:Nat}{v:Val}(h:Aq v=true)(hn:inI v.n=true)(hd:b.drop p=M3 v++r)(hb:b.length<=1000000):Pj (b,(p:Int),0)=some (v,b,((p+(M3 v).length:Nat):Int),0)/\b.drop (p+(M3 v).length)=r:=by
 refine⟨?_,by rw[<-List.drop_drop,hd,List.drop_left]⟩;have hd1:=hd;rw[M3,Zb2] at hd1;obtain⟨w1,w2,w3⟩:=Avr hd1 hb;obtain⟨s1,s2,s3,s4⟩:=Aug h;have hk5:=Ad7 h;have hkk:wr .i64 ((b8 v.kind).toNat:Int)=v.kind:=by rw[A0a (by omega),B3 (by simp[inI];omega)]
 rw[Bb7,w1,Zc1];simp only[hkk,decide_true,Zt1,Ag];simp only[wvB];obtain⟨k,n,s⟩:=v;simp only at s1 s2 s3 s4 hk5 w2 ⊢;rcases hk5 with rfl|rfl|rfl|rfl|rfl
 ·obtain⟨rfl,rfl⟩:=s1 rfl;exact Aab h
 ·obtain⟨h2,rfl⟩:=s2 rfl;have w2:b.drop (p+1)=b8 n::r:=by rw[w2];rfl
  obtain⟨x1,_,_⟩:=Avr w2 hb;rw[Zd1 (by decide),Ag,Ze1 (by decide),Af,x1,Zc1];simp only[A0a (show 0<=n/\n<256 by omega),B3 (show inI n by simpa using hn)];exact Aab h
 ·obtain rfl:=s3 rfl;have w2:b.drop (p+1)=Cr 9 (zz n)++r:=by rw[w2];rfl
  have x1:=Bp0 hn w2 hb;rw[Zd1 (by decide),Ag,Zd1 (by decide),Ag,Ze1 (by decide),Af];simp only[Li,Oa,x1,Zc1];rw[Aab h,M3];simp only[if_neg (show ¬(3:Int)=2 by decide),if_true,Zf1,Za1,Zp1,true_and,and_true];omega
 ·obtain rfl:=s4 (.inl rfl);have hl:=Jy h (.inl rfl);have w2:b.drop (p+1)=(Cr 5 s.length++s)++r:=by rw[w2];rfl
  have x1:=An0 w2 hl hb;rw[Zd1 (by decide),Ag,Zd1 (by decide),Ag,Zd1 (by decide),Ag,Ze1 (by decide),Af,Af,x1,Zc1];simp only;rw[Aab h,M3];simp only[if_neg (show ¬(4:Int)=2 by decide),if_neg (show ¬(4:Int)=3 by decide),true_or,if_true,Zf1,Za1,Zp1,true_and,and_true];omega
 ·obtain rfl:=s4 (.inr rfl);have hl:=Jy h (.inr rfl);have w2:b.drop (p+1)=(Cr 5 s.length++s)++r:=by rw[w2];rfl
  have x1:=An0 w2 hl hb;rw[Zd1 (by decide),Ag,Zd1 (by decide),Ag,Zd1 (by decide),Ag,Zd1 (by decide),Ag,Ze1 (by decide),Af,x1,Zc1];simp only;rw[Aab h,M3];simp only[if_neg (show ¬(5:Int)=2 by decide),if_neg (show ¬(5:Int)=3 by decide),or_true,if_true,Zf1,Za1,Zp1,true_and,and_true];omega
theorem Bjx{b:Str}{n:Nat}(hb:b.length<=1000000)(hn:n<=100):∀(l:List Val) (k p:Nat) (acc:List Val),b.drop p=J6 l->p<=b.length->l.length<k->acc.length+l.length=n->(∀v,v∈l->Aq v=true/\inI v.n=true)->Aj (λrec=>Abz rec wdX) k (b,acc,(n:Int),(acc.length:Int),b,(p:Int),0)=some (acc++l,0)
 |_,0,_,_,_,_,h,_,_=>by omega
 |[],k+1,p,acc,hd,hp,_,ha,_=>by have:=congrArg List.length hd;simp[J6] at this ha;rw[Ay];simp only[Abz,Zd1 (show ¬(acc.length:Int)<(n:Int) by omega),Ag,wdX,Zd1 (show ¬(p:Int)<(b.length:Int) by omega),List.append_nil];rfl
 |v::l,k+1,p,acc,hd,hp,hk,ha,hv=>by simp only[Zf1] at hk ha;rw[Vp] at hd;obtain⟨v1,v2⟩:=hv v (by simp);obtain⟨h1,h2⟩:=A4m v1 v2 hd hb;have h4:=congrArg List.length hd;simp only[Za2,Zh1] at h4;have ih:=Bjx hb hn l k (p+(M3 v).length) (acc++[v]) h2 (by omega) (by omega) (by simp;omega) λx hx=>hv x (by simp[hx]);rw[Ay];simp only[Abz,Ze1 (show(acc.length:Int)<(n:Int) by omega),Af,h1,Zc1,chk,Ze1 (show acc.length+1<=Ah by simp[Ah];omega),decide_true,Zt1,Ag,show(acc.length:Int)+1=((acc.length+1:Nat):Int) by omega,Abb (show acc.length+1<18446744073709551616 by omega)];rw[Zh1] at ih;exact ih.trans (by rw[Zj1];rfl)
theorem Bhi{l:List Val}(h:okR l=true):(∀v,v∈l->Aq v=true)/\l.length<=100/\(Hf l).1=Cr 9 l.length++J6 l:=by
 have h:=of_decide_eq_true h;cases h1:l.all (λv=>Aq v) with
 |false=>simp[Hf,h1] at h
 |true =>cases h2:decide (100<(l.length:Int)) with|true=>simp[Hf,h1,h2] at h|false =>have:=of_decide_eq_false h2;refine⟨λv hv=>Zg2.1 h1 v hv,by omega,by simp[Hf,h1,h2]⟩
theorem Azw{l:List Val}(h:okR l=true)(hn:∀v,v∈l->inI v.n=true):A29 (Hf l).1=some (l,0):=by obtain⟨h1,h2,h3⟩:=Bhi h;have hl:(Hf l).1.length<=110000:=Bmy (by omega);rw[h3] at hl ⊢;have h4:=(Att (b:=Cr 9 l.length++J6 l) (p:=0) rfl (show l.length<18446744073709551616 by omega) (by omega)).1;simp only[A29,Acx];rw[show Amq (Cr 9 l.length++J6 l) 0=_ from h4,Zc1,Ze1 rfl,Zt1,Ag,Zd1 (show ¬(100:Int)<(l.length:Int) by omega),Ag];exact Bjx (n:=l.length) (by omega) h2 l 5000 _ [] (by rw[Nat.zero_add,List.drop_left]) (by simp) (by omega) (by simp) λv hv=>⟨h1 v hv,hn v hv⟩
theorem Axb{tb:Tbl}{r:List Val}(f:FitR tb r):okR r=true:=by have h1:r.all (λv=>Aq v)=true:=Zg2.2 f.right;have h2:decide (100<(r.length:Int))=false:=Zd1 (by have:=f.len;have:=f.ncols;omega);exact Ze1 (by simp[Hf,h1,h2])
theorem Bma{tb:Tbl}{r:List Val}(hf:O5 tb r=some (Ec tb r))(h0:Ec tb r=0)(hb:G1 r):Aiw tb (Ct tb r).val=some (r,0):=by have h1:A29 (Ct tb r).val=some (r,0):=Azw (Axb (M7 h0)) hb;simp only[Aiw,Xd,h1,Zc1,hf,h0,decide_true,Zt1,Ag]
theorem A5u{c:UInt8}(h:c≠255):(c+1).toNat=c.toNat+1:=by have h1:c.toNat≠255:=λe=>h (UInt8.toNat_inj.1 e);have h2:=c.toNat_lt;rw[UInt8.toNat_add];have:(1:UInt8).toNat=1:=rfl;omega
theorem A9d:∀(b k:Str),(A3 b k).isSome=true↔¬k<b/\(nxt b=[]\/k<nxt b)
 |[],k=>by simp[A3,nxt]
 |c::l,[]=>by have:=List.nil_lt_cons c l;simp[A3]
 |c::l,x::k=>by
  simp only[A3,nxt,List.cons_lt_cons_iff];have hx:=x.toNat_lt;by_cases e:c=x
  ·subst e;have ih:=A9d l k;simp only[if_true,ih,Mt,Nat.lt_irrefl,false_or,true_and];by_cases hn:nxt l=[]
   ·simp only[hn,if_true,true_or,and_true];by_cases hc:c=255
    ·simp[hc]
    ·have:=A5u hc;simp only[hc,if_false,List.cons_lt_cons_iff,Mt,this];simp
   ·simp[hn,List.cons_lt_cons_iff,Mt]
  ·have hne:c.toNat≠x.toNat:=λh=>e (UInt8.toNat_inj.1 h);have e2:¬x=c:=λh=>e h.symm;simp only[e,if_false,e2,false_and,or_false,Mt];by_cases hlt:x.toNat<c.toNat
   ·simp[hlt]
   ·by_cases hn:nxt l=[]
    ·simp only[hn,if_true];by_cases hc:c=255
     ·subst hc;have:(255:UInt8).toNat=255:=rfl;omega
     ·have:=A5u hc;simp only[hc,if_false,List.cons_lt_cons_iff,Mt,this];have h3:¬x.toNat<c.toNat+1:=by omega
      simp[h3]
    ·simp only[hn,if_false,List.cons_lt_cons_iff,Mt,e2,false_and,or_false];simp[hlt]
theorem Bab{t:T}(h:t.Wf 0){b k v:Str}:KvS.mk k v∈range t b (nxt b)↔t.get k=some v/\(A3 b k).isSome=true:=by rw[mem_range h,A9d]
theorem Aqi{R:Type}{kx:Ex->Tz->Option R}{tb:Tbl}{l:List KvS}{dec:KvS->List Val}{a:Int}{b:Str}{c:Bool}{d:Str}{e:List NodeS}{f:Str}{g:List NodeS}{h:Str}(hl:l.length<=100000)(hd:∀p,p∈l->Aiw tb p.val=some (dec p,0)):∀(k i:Nat) (acc:List (List Val)),i<=l.length->l.length-i<k->acc.length<=i ->
  Aj (λrec=>R5 rec kx) k (acc,false,l,(l.length:Int),(i:Int),a,b,c,d,e,f,g,h,tb)=kx (.exit 0) (acc++(l.drop i).map dec,false,l,(l.length:Int),(l.length:Int),a,b,c,d,e,f,g,h,tb)
 |0,_,_,_,hk,_=>by omega
 |k+1,i,acc,hi,hk,ha=>by
  rw[Ay];by_cases hlt:i<l.length
  ·have c1:(i:Int)<(l.length:Int):=by omega
   have c2:acc.length+1<=Ah:=by simp only[Ah];omega
   simp only[R5,c1,decide_true,Af,As hlt,chk,Al (c :=.kv) hlt,hd _ (List.getElem_mem hlt),Zc1,Zt1,Ag,c2,An hlt (show ln l.length by simp[ln];omega)];rw[Aqi (kx:=kx) hl hd k (i+1) (acc++[dec l[i]]) (by omega) (by omega) (by simp;omega),List.drop_eq_getElem_cons hlt,Zw1,Zj1];rfl
  ·have e:i=l.length:=by omega
   subst e;have c1:¬(l.length:Int)<(l.length:Int):=by omega
   simp only[R5,c1,decide_false,Ag,Zc2,List.map_nil,List.append_nil]
def Bp(tb:Tbl):Str:=E4 [wV [114],wV tb.name]
theorem Bum{tb:Tbl}{t:T}{dec:KvS->List Val}{g:List NodeS}{h:Str}(hc:Jx tb=some 0)(hn:Aq (wV tb.name)=true)(hp:(Bp tb).length<=900)(hp2:(nxt (Bp tb)).length<=900)(hw:t.Wf 0)(hs:t.size<=100000)(hd:∀p,p∈range t (Bp tb) (nxt (Bp tb))->Aiw tb p.val=some (dec p,0))(hrl:(range t (Bp tb) (nxt (Bp tb))).length<=100000)(k:Nat)(hk:(range t (Bp tb) (nxt (Bp tb))).length<k) :
  Ge k (tb,t.node.kind,t.node.path,t.node.has,t.node.val,t.node.kids,t.node.hash,g,h)=some ((range t (Bp tb) (nxt (Bp tb))).map dec,0,t.node.kind,t.node.path,t.node.has,t.node.val,t.node.kids,t.node.hash,g,h):=by
 have h1:N1 [[114],tb.name]=some [wV [114],wV tb.name]:=Jd (by simp);have h2:Acb [[wV [114],wV tb.name]]=some (Bp tb,0):=Jo (by simp) (λv hv=>by
  simp only[Zz1,List.flatten_nil,List.append_nil,List.mem_cons,List.not_mem_nil,or_false] at hv;rcases hv with rfl|rfl
  ·exact Lb.1
  ·exact hn) (by simp)
 have h3:Awa (Bp tb)=some (nxt (Bp tb)):=by simp only[Awa,Ze1 (show(Bp tb).length<=2000000 by omega),Af]
 have h4:=Baw (t:=t) (g:=g) (h:=h) (lo:=Bp tb) (hi:=nxt (Bp tb)) (m:=9223372036854775807) hw hp hp2 (by omega) (by simp only[Ah];omega);have h4:Xp (Bp tb,nxt (Bp tb),9223372036854775807,t.node.kind,t.node.path,t.node.has,t.node.val,t.node.kids,t.node.hash,g,h)=_:=h4;simp only[Ge,hc,h1,h2,h3,h4,Zc1,decide_true,Zt1,Ag];refine(Aqi hrl hd k 0 [] (by omega) (by omega) (by simp)).trans ?_;simp only[Zq1,Zf2];rfl
theorem Ayp:∀a b:Str,C1 a b<0↔a<b
 |[],[]=>by have:C1 [] []=0:=rfl;simp[this]
 |[],y::b=>by rw[Avo];exact⟨λ_=>List.nil_lt_cons y b,λ_=>by decide⟩
 |x::a,[]=>by rw[Ani];exact⟨λh=>absurd h (by decide),λh=>absurd h (List.not_lt_nil _)⟩
 |x::a,y::b=>by
  rw[List.cons_lt_cons_iff];rcases A5a x y with h|h|h
  ·rw[I1 h];exact⟨λ_ =>.inl h,λ_=>by decide⟩
  ·subst h;rw[Gk,Ayp a b];have:¬x<x:=by rw[Mt];omega
   simp[this]
  ·rw[I0 h];have h1:¬x<y:=by rw[Mt] at *;omega
   have h2:¬x=y:=λe=>by subst e;rw[Mt] at h;omega
   simp[h1,h2]
def A3p(l:List Val):Prop:=l.all Aq=true/\∀v,v∈l->inI v.n
theorem Bsi(a:List Val):E4 (wV [114]::a)=4::114::0::1::E4 a:=rfl
theorem Bv1(a:List Val):E4 (wV [105]::a)=4::105::0::1::E4 a:=rfl
theorem Bwq(a:List Val):E4 (wV [117]::a)=4::117::0::1::E4 a:=rfl
theorem Bvu(a:List Val):E4 (wV [102]::a)=4::102::0::1::E4 a:=rfl
def Acl(k:Str):UInt8:=k.getD 1 0
theorem Ast(t:Tbl)(r:List Val):Acl (Ct t r).key=114:=by simp only[Ct,Bsi];rfl
theorem Bu7(t:Tbl)(r:List Val)(x:Idx):Acl (Jn t r x).key=105:=by simp only[Jn,Bv1];rfl
theorem Ag1{t:Tbl}{r:List Val}:∀{cs:List Col}{vs:List Val}{p:KvS},p∈D6 t r cs vs->Acl p.key=117/\p.val=(Hf (pkV t r)).1
 |[],_,p,h=>by simp[D6] at h
 |_::_,[],p,h=>by simp[D6] at h
 |c::cs,v::vs,p,h=>by
  simp only[D6] at h;cases hc:(c.unique && !decide (v.kind=1)) with
  |false=>rw[hc] at h;exact Ag1 h
  |true =>
   rw[hc] at h;rcases List.mem_cons.1 h with rfl|h
   ·exact⟨by simp only[V3,Bwq];rfl,rfl⟩
   ·exact Ag1 h
theorem Aly{t:Tbl}{r:List Val}:∀{cs:List Col}{vs:List Val}{p:KvS},p∈Hl t r cs vs->Acl p.key=102/\p.val=[]
 |[],_,p,h=>by simp[Hl] at h
 |_::_,[],p,h=>by simp[Hl] at h
 |c::cs,v::vs,p,h=>by
  simp only[Hl] at h;cases hc:(!decide (c.ref=[]) && !decide (v.kind=1)) with
  |false=>rw[hc] at h;exact Aly h
  |true =>
   rw[hc] at h;rcases List.mem_cons.1 h with rfl|h
   ·exact⟨by simp only[Abt,Bvu];rfl,rfl⟩
   ·exact Aly h
theorem L9{t:Tbl}{r:List Val}{p:KvS}(h:p∈Ga t r):p=Ct t r\/(Acl p.key=105/\p.val=[])\/(p∈D6 t r t.cols r/\Acl p.key=117/\p.val=(Hf (pkV t r)).1)\/(Acl p.key=102/\p.val=[]):=by
 simp only[Ga,List.mem_cons,List.mem_append,List.mem_map] at h;rcases h with h|⟨x,_,rfl⟩|h|h
 ·exact .inl h
 ·exact .inr (.inl ⟨Bu7 t r x,rfl⟩)
 ·exact .inr (.inr (.inl ⟨h,Ag1 h⟩))
 ·exact .inr (.inr (.inr (Aly h)))
theorem Bly{t:Tbl}{r:List Val}{p q:KvS}(hp:p∈Ga t r)(hq:q∈Ga t r)(h:p.key=q.key):p.val=q.val:=by
 have hw:=congrArg Acl h;rcases L9 hp with rfl|⟨a,b⟩|⟨_,a,b⟩|⟨a,b⟩<;>rcases L9 hq with rfl|⟨c,d⟩|⟨_,c,d⟩|⟨c,d⟩<;>first
  |rfl
  |exact b.trans d.symm
  |(simp only[Ast] at hw;rw[c] at hw;exact absurd hw (by decide))
  |(simp only[Ast] at hw;rw[a] at hw;exact absurd hw (by decide))
  |(rw[a,c] at hw;exact absurd hw (by decide))
theorem Bpk{tb:Tbl}{r:List Val}{t:T}{k v:Str}:(Hq t (Ga tb r)).get k=some v↔KvS.mk k v∈Ga tb r\/((∀p,p∈Ga tb r->p.key≠k)/\t.get k=some v):=by
 rw[Akm];cases h:(Ga tb r).reverse.find? (λp=>decide (p.key=k)) with
 |some p =>
  have h1:=List.mem_reverse.1 (List.mem_of_find?_eq_some h);have h2:p.key=k:=by simpa using List.find?_some h
  simp only[Za1];constructor
  ·rintro rfl;left;rw[<-h2];exact h1
  ·rintro(h3|⟨h3,_⟩)
   ·exact Bly h1 h3 h2
   ·exact absurd h2 (h3 p h1)
 |none =>
  have h1:=List.find?_eq_none.1 h;have h2:∀p,p∈Ga tb r->p.key≠k:=λp hp e=>h1 p (List.mem_reverse.2 hp) (Ze1 e);constructor
  ·exactλh =>.inr ⟨h2,h⟩
  ·rintro(h3|⟨_,h3⟩)
   ·exact absurd rfl (h2 _ h3)
   ·exact h3
theorem Alu{t:T}:∀{l:List KvS},P5 t l=none↔∀p,p∈l->t.get p.key=none
 |[]=>by simp[P5]
 |p::l=>by simp only[P5];cases h:t.get p.key with|some v=>simp[h]|none=>simp[h,Alu (l:=l)]
theorem Bjs{tb:Tbl}{r:List Val}(h0:Ec tb r=0):(Ga tb r).length<=400:=by have h1:=(Tn (Ul h0).1).1;have h2:=(Acg (Ul h0).1).2.2.1;have h3:=Agc (t:=tb) (r:=r) tb.cols r;have h4:=Agg (t:=tb) (r:=r) tb.cols r;simp only[Ga,Zf1,Zh1,List.length_map];omega
def Fit(tb:Tbl)(r:List Val):Prop:=Ec tb r=0/\(Ga tb r).all Alp=true/\G1 r
structure Db (tb:Tbl) (rs:List (List Val)) (t:T):Prop where
 wf:t.Wf 0
 size:t.size<=400*rs.length
 fit:∀r,r∈rs->Fit tb r
 has:∀k v,t.get k=some v↔∃r,r∈rs/\KvS.mk k v∈Ga tb r
 apart:rs.Pairwise λr s=>(Ct tb r).key≠(Ct tb s).key/\∀p,p∈D6 tb r tb.cols r->∀q,q∈D6 tb s tb.cols s->p.key≠q.key
theorem Bve(tb:Tbl):Db tb [] .no:=⟨Nat.zero_le _,Nat.zero_le _,λ_ h=>(by cases h),λk v=>(by simp[Bud]),List.Pairwise.nil⟩
theorem Bmu(tb:Tbl)(r:List Val):Ct tb r∈Ga tb r:=by simp[Ga]
theorem Bty{tb:Tbl}{r:List Val}{p:KvS}(h:p∈D6 tb r tb.cols r):p∈Ga tb r:=by simp[Ga,h]
theorem Btb{tb:Tbl}{rs:List (List Val)}{t:T}{r:List Val}(d:Db tb rs t)(hb:G1 r):((Mr tb r t).1=0/\Db tb (rs++[r]) (Mr tb r t).2)\/((Mr tb r t).1≠0/\(Mr tb r t).2=t):=by
 unfold Mr;cases he:decide ((Ai6 tb r).2=0) with
 |false=>exact .inr ⟨of_decide_eq_false he,rfl⟩
 |true =>
  obtain⟨h0,hok,_⟩:=A5m (of_decide_eq_true he) (Classical.em _);simp only[Af];cases ht:P5 t (Ct tb r::D6 tb r tb.cols r) with
  |some j =>refine .inr ⟨?_,rfl⟩;simp only;split<;>decide
  |none =>
   have hn:=Alu.1 ht;have hall:∀p,p∈Ga tb r->Bby p:=λp hp=>Ayk.1 (Zg2.1 hok p hp);refine .inl ⟨rfl,Aoh d.wf hall,?_,?_,?_,?_⟩
   ·have h1:=Aeg (Ga tb r) t;have h2:=Bjs h0;have h3:=d.size;simp only[Zh1,List.length_singleton];omega
   ·intro s hs;rcases List.mem_append.1 hs with hs|hs
    ·exact d.fit s hs
    ·rw[List.mem_singleton.1 hs];exact⟨h0,hok,hb⟩
   ·intro k v;rw[Bpk,d.has];constructor
    ·rintro(h|⟨_,s,hs,h⟩)
     ·exact⟨r,by simp,h⟩
     ·exact⟨s,by simp[hs],h⟩
    ·rintro⟨s,hs,h⟩;rcases List.mem_append.1 hs with hs|hs
     ·by_cases hp:∀p,p∈Ga tb r->p.key≠k
      ·exact .inr ⟨hp,s,hs,h⟩
      ·left;obtain⟨p,hp⟩:=Classical.not_forall.1 hp;obtain⟨hp,e⟩:=Classical.not_imp.1 hp;have e:=Classical.not_not.1 e;have hg:=(d.has k v).2 ⟨s,hs,h⟩;have key:p.val=v:=by
        have hw:Acl p.key=Acl k:=by rw[e]
        rcases L9 hp with rfl|⟨a,b⟩|⟨hu,_,_⟩|⟨a,b⟩
        ·rw[<-e,hn _ (by simp)] at hg;cases hg
        ·rcases L9 h with h|⟨_,f⟩|⟨_,c,_⟩|⟨c,_⟩
         ·have:=congrArg (λq:KvS=>Acl q.key) h;simp only[Ast] at this;rw[<-hw,a] at this;exact absurd this (by decide)
         ·exact b.trans f.symm
         ·simp only at c;rw[<-hw,a] at c;exact absurd c (by decide)
         ·simp only at c;rw[<-hw,a] at c;exact absurd c (by decide)
        ·rw[<-e,hn _ (by simp[hu])] at hg;cases hg
        ·rcases L9 h with h|⟨c,_⟩|⟨_,c,_⟩|⟨_,f⟩
         ·have:=congrArg (λq:KvS=>Acl q.key) h;simp only[Ast] at this;rw[<-hw,a] at this;exact absurd this (by decide)
         ·simp only at c;rw[<-hw,a] at c;exact absurd c (by decide)
         ·simp only at c;rw[<-hw,a] at c;exact absurd c (by decide)
         ·exact b.trans f.symm
       have:p=KvS.mk k v:=by cases p;simp_all
       rw[<-this];exact hp
     ·rw[List.mem_singleton.1 hs] at h;exact .inl h
   ·rw[List.pairwise_append];refine⟨d.apart,List.pairwise_singleton _ _,λs hs r' hr' =>?_⟩;rw[List.mem_singleton.1 hr'];refine⟨λe =>?_,λp hp q hq e =>?_⟩
    ·have:=(d.has (Ct tb s).key (Ct tb s).val).2 ⟨s,hs,Bmu tb s⟩;rw[e,hn _ (by simp)] at this;cases this
    ·have:=(d.has p.key p.val).2 ⟨s,hs,Bty hp⟩;rw[e,hn _ (by simp[hq])] at this;cases this
theorem Xn(tb:Tbl)(r:List Val):(Ct tb r).key=Bp tb++E4 (pkV tb r):=by simp only[Ct,Bp,E4,List.flatMap_cons,List.flatMap_nil,Zj1,Zf2,List.append_nil]
theorem P4{tb:Tbl}{rs:List (List Val)}{t:T}(d:Db tb rs t){p:KvS}:p∈range t (Bp tb) (nxt (Bp tb))↔∃s,s∈rs/\p=Ct tb s:=by
 obtain⟨k,v⟩:=p;rw[Bab d.wf,d.has];constructor
 ·rintro⟨⟨s,hs,h⟩,hp⟩;obtain⟨z,hz⟩:=Option.isSome_iff_exists.1 hp;have hk:=Bi.1 hz;have hw:Acl k=114:=by rw[hk,Bp,Bsi];rfl
  rcases L9 h with h|⟨c,_⟩|⟨_,c,_⟩|⟨c,_⟩
  ·exact⟨s,hs,h⟩
  ·simp only at c;rw[hw] at c;exact absurd c (by decide)
  ·simp only at c;rw[hw] at c;exact absurd c (by decide)
  ·simp only at c;rw[hw] at c;exact absurd c (by decide)
 ·rintro⟨s,hs,h⟩;have hk:k=(Ct tb s).key:=by rw[<-h]
  exact⟨⟨s,hs,by rw[h];exact Bmu tb s⟩,by rw[hk,Xn,Fj];rfl⟩
def Brm(p:KvS):List Val:=((A29 p.val).getD ([],0)).1
theorem Aao{tb:Tbl}{r:List Val}(h:Fit tb r):Brm (Ct tb r)=r:=by have h1:A29 (Ct tb r).val=some (r,0):=Azw (Axb (M7 h.1)) h.2.2;unfold Brm;rw[h1];rfl
theorem Bef{tb:Tbl}{rs:List (List Val)}{t:T}(d:Db tb rs t)(hf:∀r,O5 tb r=some (Ec tb r)):∀p,p∈range t (Bp tb) (nxt (Bp tb))->Aiw tb p.val=some (Brm p,0):=λp hp=>by obtain⟨s,hs,rfl⟩:=(P4 d).1 hp;have h:=d.fit s hs;rw[Aao h];exact Bma (hf s) h.1 h.2.2
theorem Aio{α:Type}:∀{a b:List α},a.Nodup->(∀x,x∈a->x∈b)->a.length<=b.length
 |[],_,_,_=>Nat.zero_le _
 |x::a,b,hn,h=>by
  obtain⟨u,w,rfl⟩:=List.append_of_mem (h x (by simp));have hn:=List.nodup_cons.1 hn;have:=Aio (a:=a) (b:=u++w) hn.2 λy hy=>by
   have:=h y (by simp[hy]);simp only[List.mem_append,List.mem_cons] at this ⊢;rcases this with h1|rfl|h1
   ·exact .inl h1
   ·exact absurd hy hn.1
   ·exact .inr h1
  simp only[Zh1,Zf1] at this ⊢;omega
theorem A45:∀a:Str,¬a<a
 |[]=>List.not_lt_nil _
 |x::a=>λh=>by
  rcases List.cons_lt_cons_iff.1 h with h|⟨_,h⟩
  ·rw[Mt] at h;omega
  ·exact A45 a h
def J1(tb:Tbl)(t:T):List (List Val):=(range t (Bp tb) (nxt (Bp tb))).map Brm
theorem Qs{tb:Tbl}{rs:List (List Val)}{t:T}(d:Db tb rs t){s:List Val}:s∈J1 tb t↔s∈rs:=by
 unfold J1;rw[List.mem_map];constructor
 ·rintro⟨p,hp,rfl⟩;obtain⟨s,hs,rfl⟩:=(P4 d).1 hp;rw[Aao (d.fit s hs)];exact hs
 ·exactλhs=>⟨Ct tb s,(P4 d).2 ⟨s,hs,rfl⟩,Aao (d.fit s hs)⟩
theorem Aeq{tb:Tbl}{rs:List (List Val)}{t:T}(d:Db tb rs t):(J1 tb t).Pairwise λr s=>(Ct tb r).key<(Ct tb s).key:=by unfold J1;rw[List.pairwise_map];refine(Ate d.wf _ _).imp_of_mem ?_;intro p q hp hq h;obtain⟨s,hs,rfl⟩:=(P4 d).1 hp;obtain⟨s',hs',rfl⟩:=(P4 d).1 hq;rw[Aao (d.fit s hs),Aao (d.fit s' hs')];exact h
theorem Axv{tb:Tbl}{rs:List (List Val)}{t:T}(d:Db tb rs t):(J1 tb t).length=rs.length:=by
 refine Nat.le_antisymm (Aio ?_ λx hx=>(Qs d).1 hx) (Aio ?_ λx hx=>(Qs d).2 hx)
 ·exact(Aeq d).imp λ{a b} h e=>by subst e;exact A45 _ h
 ·exact d.apart.imp λ{a b} h e=>by subst e;exact h.1 rfl
theorem A1y{R:Type}{kx:Ex->Ns->Option R}{tb:Tbl}{l:List (List Val)}{b:Bool}{g:List NodeS}{h:Str}(hl:l.length<=1000)(hf:∀r,O5 tb r=some (Ec tb r))(hb:∀r,r∈l->G1 r):∀(k i:Nat) (rs:List (List Val)) (t:T),Db tb rs t->rs.length<=i->i<=l.length->l.length-i<k ->
  ∃rs' t',Db tb rs' t'/\rs'.length<=l.length/\Aj (λrec=>Ajf rec kx) k (l,b,(rs.length:Int),(i:Int),tb,t.node.kind,t.node.path,t.node.has,t.node.val,t.node.kids,t.node.hash,g,h)=kx (.exit 0) (l,b,(rs'.length:Int),(l.length:Int),tb,t'.node.kind,t'.node.path,t'.node.has,t'.node.val,t'.node.kids,t'.node.hash,g,h)
 |0,_,_,_,_,_,_,hk=>by omega
 |k+1,i,rs,t,d,hn,hi,hk=>by
  rw[Ay];by_cases hlt:i<l.length
  ·have c1:(i:Int)<(l.length:Int):=by omega
   have hi2:=Bvb (t:=t) (g:=g) (h:=h) (hf l[i]) (hb _ (List.getElem_mem hlt)) d.wf;have w1:wr .i64 ((rs.length:Int)+1)=((rs.length+1:Nat):Int):=by rw[B3 (by simp only[inI];omega)];omega
   simp only[Ajf,c1,decide_true,Af,As hlt,chk,Al (c :=.vals) hlt,hi2,Zc1,An hlt (show ln l.length by simp[ln];omega)];rcases Btb d (hb _ (List.getElem_mem hlt)) with ⟨h1,h2⟩|⟨h1,h2⟩
   ·simp only[h1,decide_true,Af,w1];have ih:=A1y (kx:=kx) (b:=b) (g:=g) (h:=h) hl hf hb k (i+1) _ _ h2 (by simp;omega) (by omega) (by omega);simpa only[Zh1,List.length_singleton] using ih
   ·simp only[h1,decide_false,Ag];rw[h2];exact A1y (kx:=kx) (b:=b) (g:=g) (h:=h) hl hf hb k (i+1) rs t d (by omega) (by omega) (by omega)
  ·have e:i=l.length:=by omega
   subst e;have c1:¬(l.length:Int)<(l.length:Int):=by omega
   refine⟨rs,t,d,hn,?_⟩;simp only[Ajf,c1,decide_false,Ag]
theorem A70{a b:List Val}(he:a.length=b.length)(hl:a.length<=1000):∀(k i:Nat),i<=a.length->a.length-i<k ->
  Aj (λrec=>Ud rec (λe vz=>match vz with|(v3,v4,v5)=>match e with
  |.exit 0 =>
  let j1:=λ(p4:Bool) =>
   cond (p4) (
   chk (inb v5 v3.length) (
    chk (inb v5 v4.length) (
    some (A16 (at' .val v3 v5) (at' .val v4 v5))))) (
   cond (decide (v5<(v4.length:Int))) (
    some (-1)) (
    cond (decide (v5<(v3.length:Int))) (
    some 1) (
    some 0)))
  cond (decide (v5<(v3.length:Int))) (
   j1 (decide (v5<(v4.length:Int)))) (
   j1 false)
  |_=>none)) k (a,b,(i:Int))=some (H3 Gt (a.drop i) (b.drop i))
 |0,_,_,hk=>by omega
 |k+1,i,hi,hk=>by
  rw[Ay];by_cases h:i<a.length
  ·have h2:i<b.length:=by omega
   have c1:(i:Int)<(a.length:Int):=by omega
   have c2:(i:Int)<(b.length:Int):=by omega
   rw[List.drop_eq_getElem_cons h,List.drop_eq_getElem_cons h2];simp only[Ud,c1,c2,decide_true,Af,As h,As h2,chk,Al (c :=.val) h,Al (c :=.val) h2,An h (show ln a.length by simp[ln];omega),H3];by_cases e:a[i]=b[i]
   ·have ih:=A70 he hl k (i+1) (by omega) (by omega);simp only[e,decide_true,Af,(vcmp_lin.eq _ _).2 rfl,Fx];exact ih
   ·have hne:Gt a[i] b[i]≠0:=A7g e;simp only[e,decide_false,Ag,Fx,Bbn,hne,if_false]
  ·have e:i=a.length:=by omega
   subst e;have c1:¬(a.length:Int)<(a.length:Int):=by omega
   have c2:¬(a.length:Int)<(b.length:Int):=by omega
   simp only[Ud,c1,c2,decide_false,Ag];rw[Zc2,he,Zc2];rfl
theorem Bfr{a b:List Val}(he:a.length=b.length)(hl:a.length<=1000):Ave a b=some (H3 Gt a b):=A70 he hl 5000 0 (by omega) (by omega)
theorem But{tb:Tbl}{r s:List Val}(he:(pkV tb r).length=(pkV tb s).length)(hr:A3p (pkV tb r))(hs:A3p (pkV tb s))(h:(Ct tb r).key<(Ct tb s).key):H3 Gt (pkV tb r) (pkV tb s)<0:=by
 rw[Xn,Xn,Blx,<-Ayp] at h;have:=Awr (pkV tb r) (pkV tb s) [] [] he hr.1 hs.1 hr.2 hs.2;simp only[List.append_nil] at this;rw[this] at h;split at h
 ·exact absurd h (by decide)
 ·exact h
theorem Ap2{cols:List Col}{row:List Val}:∀{l:List Str}{acc:List Val},(∀s,s∈l->¬C8 cols s<0)->(C5 cols row l acc).1.length=acc.length+l.length
 |[],acc,_=>by simp[C5]
 |s::l,acc,h=>by
  have h1:=h s (by simp);have ih:=Ap2 (row:=row) (l:=l) (acc:=acc++[at' .val row (C8 cols s)]) λx hx=>h x (by simp[hx]);have e:(acc++[at' .val row (C8 cols s)]).length=acc.length+1:=by simp
  simp only[C5,h1,decide_false,Ag,ih,e,Zf1];omega
theorem A20{tb:Tbl}{r:List Val}(h:Fit tb r):(pkV tb r).length=tb.key.length:=by have:=Ap2 (row:=r) (acc:=[]) (M7 h.1).key;simpa[pkV] using this
theorem Aw5{cols:List Col}{row:List Val}{P:Val->Prop}(hP:∀v,v∈row->P v)(h0:P (zer .val)):∀{l:List Str}{acc:List Val},(∀v,v∈acc->P v)->∀v,v∈(C5 cols row l acc).1->P v
 |[],acc,ha,v,hv=>ha v hv
 |s::l,acc,ha,v,hv=>by
  simp only[C5] at hv;cases hc:decide (C8 cols s<0) with
  |true=>rw[hc] at hv;cases hv
  |false =>
   rw[hc] at hv;refine Aw5 hP h0 (λx hx =>?_) v hv;rcases List.mem_append.1 hx with hx|hx
   ·exact ha x hx
   ·rw[List.mem_singleton.1 hx];unfold at';rw[List.getD_eq_getElem?_getD];cases hg:row[(C8 cols s).toNat]? with|none=>exact h0|some w=>exact hP w (List.mem_of_getElem? hg)
theorem Aya{tb:Tbl}{r:List Val}(h:Fit tb r):A3p (pkV tb r):=by have f:=M7 h.1;exact⟨Zg2.2 (T1 f),Aw5 (P:=λv=>inI v.n) (λv hv=>by simpa using h.2.2 v hv) (by show inI 0;simp[inI]) λv hv=>by cases hv⟩
theorem Asp{t:Tbl}{r:List Val}:∀{cs:List Col}{vs:List Val}{j:Nat}(h1:j<cs.length) (h2:j<vs.length),cs[j].unique=true->vs[j].kind≠1->V3 t r cs[j] vs[j]∈D6 t r cs vs
 |c::cs,v::vs,0,_,_,hu,hk=>by simp only[List.getElem_cons_zero] at hu hk ⊢;simp only[D6,hu,hk,decide_false,Zs1,Bool.and_self,Af];exact Zr1
 |c::cs,v::vs,j+1,h1,h2,hu,hk=>by have ih:=Asp (t:=t) (r:=r) (cs:=cs) (vs:=vs) (j:=j) (by simpa using h1) (by simpa using h2) (by simpa using hu) (by simpa using hk);simp only[List.getElem_cons_succ,D6];cases (c.unique && !decide (v.kind=1)) with|false=>exact ih|true=>exact Zu1 _ ih
def Aqr(tb:Tbl)(r s:List Val):Prop:=∀j (h:j<tb.cols.length) (h1:j<r.length) (h2:j<s.length),tb.cols[j].unique=true->r[j].kind≠1->r[j]≠s[j]
theorem A0d{tb:Tbl}{r s:List Val}(h:∀p,p∈D6 tb r tb.cols r->∀q,q∈D6 tb s tb.cols s->p.key≠q.key):Aqr tb r s:=λj hj h1 h2 hu hk e=>by have m1:=Asp (t:=tb) (r:=r) hj h1 hu hk;have m2:=Asp (t:=tb) (r:=s) hj h2 hu (by rw[<-e];exact hk);exact h _ m1 _ m2 (by simp only[V3];rw[e])
theorem A0n{R:Type}{kx:Ex->Nb->Option R}{tb:Tbl}{L:List (List Val)}{b:Bool}{n:Int}{i j:Nat}(hi:i<L.length)(hj:j<L.length)(hci:L[i].length=tb.cols.length)(hcj:L[j].length=tb.cols.length)(hc:tb.cols.length<=100)(ha:Aqr tb L[i] L[j]):∀(k c:Nat),c<=tb.cols.length->tb.cols.length-c<k ->
  Aj (λrec=>Aha rec kx) k (b,n,L,(i:Int),(j:Int),(c:Int),tb)=kx (.exit 6) (b,n,L,(i:Int),(j:Int),(tb.cols.length:Int),tb)
 |0,_,_,hk=>by omega
 |k+1,c,hcl,hk=>by
  rw[Ay];by_cases h:c<tb.cols.length
  ·have c1:(c:Int)<(tb.cols.length:Int):=by omega
   have g1:c<L[i].length:=by omega
   have g2:c<L[j].length:=by omega
   have ih:=A0n (kx:=kx) (b:=b) (n:=n) hi hj hci hcj hc ha k (c+1) (by omega) (by omega);have hne:=ha c h g1 g2;simp only[Aha,c1,decide_true,Af,As h,chk,Al (c :=.col) h,As hi,As hj,Al (c :=.vals) hi,Al (c :=.vals) hj,As g1,As g2,Al (c :=.val) g1,Al (c :=.val) g2,An h (show ln tb.cols.length by simp[ln];omega)];cases hu:tb.cols[c].unique with
   |false=>simp only[Ag];exact ih
   |true =>
    simp only[Af];by_cases hk1:L[i][c].kind=1
    ·simp only[hk1,decide_true,Zt1,Ag];exact ih
    ·have:=hne hu hk1;simp only[hk1,decide_false,Zs1,Af,this,Ag];exact ih
  ·have e:c=tb.cols.length:=by omega
   subst e;have c1:¬(tb.cols.length:Int)<(tb.cols.length:Int):=by omega
   simp only[Aha,c1,decide_false,Ag]
theorem Avm{R:Type}{kx:Ex->Ot->Option R}{tb:Tbl}{L:List (List Val)}{b:Bool}{n:Int}{m i:Nat}(hm : 100<m)(hl:L.length<=1000)(hi:i<L.length)(hc:tb.cols.length<=100)(hk0:tb.key.length<=100)(hlen:∀r,r∈L->r.length=tb.cols.length/\Fit tb r)(ho:∀j (h:j<i),(Ct tb (L[j]'(by omega))).key<(Ct tb L[i]).key/\Aqr tb L[i] (L[j]'(by omega))):∀(k j:Nat),j<=i->i-j<k ->
  Aj (λrec=>Ak1 m rec kx) k (b,n,L,(i:Int),(j:Int),tb)=kx (.exit 4) (b,n,L,(i:Int),(i:Int),tb)
 |0,_,_,hk=>by omega
 |k+1,j,hji,hk=>by
  rw[Ay];by_cases h:j<i
  ·have hj:j<L.length:=by omega
   have c1:(j:Int)<(i:Int):=by omega
   have fi:=hlen _ (List.getElem_mem hi);have fj:=hlen _ (List.getElem_mem hj);have p1:Az0 tb L[j] tb.key=some (C5 tb.cols L[j] tb.key []):=A60 (by omega) fj.1 _ (by omega);have p2:Az0 tb L[i] tb.key=some (C5 tb.cols L[i] tb.key []):=A60 (by omega) fi.1 _ (by omega);have e1:(pkV tb L[j]).length=(pkV tb L[i]).length:=by rw[A20 fj.2,A20 fi.2]
   have d1:Ave (pkV tb L[j]) (pkV tb L[i])=some (H3 Gt (pkV tb L[j]) (pkV tb L[i])):=Bfr e1 (by rw[A20 fj.2];omega);have d2:=But e1 (Aya fj.2) (Aya fi.2) (ho j h).1;have c2:¬ 0<=H3 Gt (pkV tb L[j]) (pkV tb L[i]):=by omega
   have d1:Ave (C5 tb.cols L[j] tb.key []).1 (C5 tb.cols L[i] tb.key []).1=some (H3 Gt (pkV tb L[j]) (pkV tb L[i])):=d1;simp only[Ak1,c1,decide_true,Af,As hj,As hi,chk,Al (c :=.vals) hj,Al (c :=.vals) hi,p1,p2,Zc1,d1,c2,decide_false,Ag];refine(A0n hi hj fi.1 fj.1 hc (ho j h).2 m 0 (by omega) (by omega)).trans ?_;simp only[An h (show ln i by simp[ln];omega)];exact Avm hm hl hi hc hk0 hlen ho k (j+1) (by omega) (by omega)
  ·have e:j=i:=by omega
   subst e;have c1:¬(j:Int)<(j:Int):=by omega
   simp only[Ak1,c1,decide_false,Ag]
theorem Aw7{R:Type}{kx:Ex->Nm->Option R}{tb:Tbl}{L:List (List Val)}{b:Bool}{n:Int}{m:Nat}(hm : 1000<m)(hl:L.length<=1000)(hc:tb.cols.length<=100)(hk0:tb.key.length<=100)(hlen:∀r,r∈L->r.length=tb.cols.length/\Fit tb r)(ho:∀i (hi:i<L.length) j (h:j<i),(Ct tb (L[j]'(by omega))).key<(Ct tb L[i]).key/\Aqr tb L[i] (L[j]'(by omega))):∀(k i:Nat),i<=L.length->L.length-i<k ->
  Aj (λrec=>Ali m rec kx) k (b,n,L,(i:Int),tb)=kx (.exit 2) (b,n,L,(L.length:Int),tb)
 |0,_,_,hk=>by omega
 |k+1,i,hil,hk=>by
  rw[Ay];by_cases h:i<L.length
  ·have c1:(i:Int)<(L.length:Int):=by omega
   simp only[Ali,c1,decide_true,Af];refine(Avm (by omega) hl h hc hk0 hlen (ho i h) m 0 (by omega) (by omega)).trans ?_;simp only[An h (show ln L.length by simp[ln];omega)];exact Aw7 hm hl hc hk0 hlen ho k (i+1) (by omega) (by omega)
  ·have e:i=L.length:=by omega
   subst e;have c1:¬(L.length:Int)<(L.length:Int):=by omega
   simp only[Ali,c1,decide_false,Ag]
section
variable {t:Tbl}{r:List Val}
end
mutual
theorem Bcl:∀e:Xpr,Be e=xsz e
 |.mk _ _ _ l=>by simp only[Be,xsz,esizes_xszs l]
theorem esizes_xszs:∀l:List Xpr,esizes l=xszs l
 |[]=>rfl
 |x::l=>by simp only[esizes,xszs,Bcl x,esizes_xszs l]
end
def RM:Nat×Nat:=(1048576,1048576)
section
variable {t:Tbl}{r:List Val}
theorem Bmd(hs:SmTbl RM t)(hx:esizes t.checks<=900000):G4 t=true:=by
 have h1:=hs.cols.1;have h2:=hs.key.1;have h3:=hs.checks.1;have h4:=hs.idx.1;simp only[RM] at h1 h2 h3 h4;have e:∀x,x∈t.checks->Be x<=2000000:=λx hx=>by have:=C3 hx;omega
 have e2:∀x,x∈t.idx->x.cols.length<=2000000:=λx hx=>by have:=(hs.idx.2 x hx).2.1;simp only[RM] at this;omega
 show((decide (t.cols.length<=2000000)&&(decide (([]:List SetE).length<=2000000)&&(decide (t.key.length<=2000000)&&(decide (t.checks.length<=2000000)&&t.checks.all λe=>decide (Be e<=2000000)))))&&(decide (t.idx.length<=2000000)&&t.idx.all λx=>decide (x.cols.length<=2000000)))=true;simp only[Zb1,Zg1,Zg2,Zi1];exact⟨⟨by omega,by omega,by omega,by omega,e⟩,by omega,e2⟩
theorem Bae(hs:G4 t=true)(k:Nat)(hk : 4000<k):Hz k (t,r)=some (Ec t r):=by cases h:Js t with|false =>simp only[Hz,Jx,hs,Af,Zc1,Ec,h];rfl|true =>obtain⟨h1,h2,h3,_⟩:=Tn h;exact Bqj (by omega) (by omega) (by omega) hs hk
theorem Am0(hs:G4 t=true):O5 t r=some (Ec t r):=Bae hs 5000 (by omega)
end
theorem A5y{R:Type}{kx:Ex->Ua->Option R}{l:List (List Val)}{i:Nat}(hi:i<l.length)(hl:l[i].length<=1048576):∀(k c:Nat) (n:Int),c<=l[i].length->l[i].length-c<k->∃m,Aj (λrc=>Aau rc kx) k (l,n,(i:Int),(c:Int))=kx (.exit 2) (l,m,(i:Int),(l[i].length:Int))
 |0,_,_,_,h=>by omega
 |k+1,c,n,hc,hk=>by
  have hln:ln l[i].length:=by simp only[ln];omega
  rw[Ay];simp only[Aau,As hi,chk,Af,Al (c :=.vals) hi];by_cases h:c<l[i].length
  ·simp only[Ea h,As h,Af,An h hln];exact A5y hi hl k (c+1) _ h (by omega)
  ·obtain rfl:c=l[i].length:=by omega
   simp only[Ee,Ag];exact⟨n,rfl⟩
theorem A85{R:Type}{kx:Ex->S9->Option R}{l:List (List Val)}{K:Nat}(hK : 1100000<K)(hl:l.length<=1048576)(hr:∀r,r∈l->r.length<=1048576):∀(k i:Nat) (n:Int),i<=l.length->l.length-i<k->∃m,Aj (λrec=>M0 K rec kx) k (l,n,(i:Int))=kx (.exit 0) (l,m,(l.length:Int))
 |0,_,_,_,h=>by omega
 |k+1,i,n,hi,hk=>by
  have hln:ln l.length:=by simp only[ln];omega
  rw[Ay];by_cases h:i<l.length
  ·simp only[M0,Ea h,Af,As h,chk,Al (c :=.vals) h];have hm:=hr _ (List.getElem_mem h);have h1:=λn=>A5y (R:=R) (kx:=λe vz=>match vz with|(v7,v8,v9,_)=>match e with
    |.exit 2=>Aj (λrec=>M0 K rec kx) k (v7,v8,(wr .i64 (v9+1)))
    |_=>none) h hm K 0 n (Nat.zero_le _) (by omega)
   obtain⟨m,e⟩:=h1 (wr .i64 ((wr .i64 (n+1))+(l[i].length:Int)));obtain⟨m2,e2⟩:=A85 (kx:=kx) hK hl hr k (i+1) m (by omega) (by omega);refine⟨m2,e.trans ?_⟩;simp only[An h hln];exact e2
  ·obtain rfl:i=l.length:=by omega
   simp only[M0,Ee,Ag];exact⟨n,rfl⟩
theorem Bu8{t:Tbl}{l:List (List Val)}(hl:l.length<=1048576)(hr:∀r,r∈l->r.length<=1048576)(k:Nat)(hk : 1100000<k):∃b,M1 k (t,l)=some b/\(b=false->l.length<=24):=by
 simp only[M1];obtain⟨m,e⟩:=A85 (kx:=λe vz=>match vz with|(a,c,_)=>match e with
  |.exit 0 =>
  cond (decide (250<=c)) (
   some true) (
   some (decide (24<(a.length:Int))))
  |_=>none) hk hl hr k 0 (As1 t 200) (Nat.zero_le _) (by omega)
 refine⟨cond (decide (250<=m)) true (decide (24<(l.length:Int))),e.trans ?_,λh =>?_⟩
 ·simp only;cases decide (250<=m)<;>rfl
 ·cases h2:decide (250<=m) with|true=>rw[h2] at h;cases h|false =>rw[h2] at h;have:=of_decide_eq_false h;omega
theorem Box{t:Tbl}{l:List (List Val)}(hl:l.length<=1048576)(hr:∀r,r∈l->r.length<=1048576):∃b,Bf9 t l=some b/\(b=false->l.length<=24):=Bu8 hl hr 2000000 (by omega)
theorem Bci{s:Str}(h:Ds s=true):s.length<=30:=by simp only[Lp.nameF,Zb1,Zg1,Lp.runTo] at h;have h2:=h.2;simp at h2;omega
theorem A8i:∀s:Str,(nxt s).length<=s.length
 |[]=>Zn1 _
 |c::l=>by
  have:=A8i l;simp only[nxt];split
  ·split<;>simp
  ·simp only[Zf1];omega
theorem Bpt{tb:Tbl}(h:Ds tb.name=true):(Bp tb).length<=900:=by have h1:=Bci h;have h2:=Ayb [wV [114],wV tb.name];have e:vsz [wV [114],wV tb.name]=1+1+(tb.name.length+1+0):=rfl;simp only[Bp];omega
theorem Bop{tb:Tbl}{rs:List (List Val)}{t:T}{g:List NodeS}{h:Str}(d:Db tb rs t)(hs:G4 tb=true)(ht:Js tb=true)(hr:rs.length<=200)(k:Nat)(hk : 200<k) :
  Ge k (tb,t.node.kind,t.node.path,t.node.has,t.node.val,t.node.kids,t.node.hash,g,h)=some (J1 tb t,0,t.node.kind,t.node.path,t.node.has,t.node.val,t.node.kids,t.node.hash,g,h):=by
 have hn:=(Tn ht).2.2.2.1;have hp:=Bpt hn;have hp2:=A8i (Bp tb);have hl:(range t (Bp tb) (nxt (Bp tb))).length=rs.length:=by have:=Axv d;simpa only[J1,List.length_map] using this
 have hd:=d.size;have hc:Jx tb=some 0:=by simp only[Jx,hs,Af,ht]
 exact Bum hc (Fh hn) hp (by omega) d.wf (by omega) (Bef d λr=>Am0 hs) (by omega) k (by omega)
theorem Bt2{tb:Tbl}{rs:List (List Val)}{t:T}(d:Db tb rs t)(ht:Js tb=false):rs.length=0:=by cases rs with|nil=>rfl|cons r rs =>have:=(Ul (d.fit r (by simp)).1).1;rw[ht] at this;cases this
theorem Yu{α:Type}{P : α->α->Prop}:∀{l:List α},l.Pairwise P->∀i (hi:i<l.length) j (h:j<i),P (l[j]'(by omega)) l[i]
 |[],_,i,hi,_,_=>by cases hi
 |x::l,hp,0,_,j,h=>by omega
 |x::l,hp,i+1,hi,0,_=>(List.pairwise_cons.1 hp).1 _ (List.getElem_mem (by simpa using hi))
 |x::l,hp,i+1,hi,j+1,h=>Yu (List.pairwise_cons.1 hp).2 i (by simpa using hi) j (by omega)
theorem Bfz{tb:Tbl}{rs:List (List Val)}{t:T}(d:Db tb rs t):∀r,r∈rs->∀s,s∈rs->r≠s->Aqr tb r s:=λr hr s hs hne=>by
 obtain⟨i,hi,rfl⟩:=List.getElem_of_mem hr;obtain⟨j,hj,rfl⟩:=List.getElem_of_mem hs;have hij:i≠j:=λe=>hne (by subst e;rfl);rcases Nat.lt_or_gt_of_ne hij with h|h
 ·have:=Yu d.apart j hj i h;exact A0d λp hp q hq=>this.2 p hp q hq
 ·have:=Yu d.apart i hi j h;exact A0d λp hp q hq e=>this.2 q hq p hp e.symm
theorem Bfq{tb:Tbl}{rs:List (List Val)}{t:T}(d:Db tb rs t):∀i (hi:i<(J1 tb t).length) j (h:j<i),(Ct tb ((J1 tb t)[j]'(by omega))).key<(Ct tb (J1 tb t)[i]).key/\Aqr tb (J1 tb t)[i] ((J1 tb t)[j]'(by omega)):=λi hi j h=>by
 have h1:=Yu (Aeq d) i hi j h;have hj:j<(J1 tb t).length:=by omega
 have m1:=(Qs d).1 (List.getElem_mem hi);have m2:=(Qs d).1 (List.getElem_mem hj);exact⟨h1,Bfz d _ m1 _ m2 λe=>by rw[e] at h1;exact A45 _ h1⟩
theorem Bv9{tb:Tbl}{l:List (List Val)}(hs:G4 tb=true)(hl:l.length<=1048576)(hr:∀r,r∈l->r.length<=1048576)(hn:∀r,r∈l->G1 r)(k:Nat)(hk : 2000<k)(_:k<1000000):X5 k (tb,l)=some true:=by
 obtain⟨b,hm,hm2⟩:=Box (t:=tb) hl hr;simp only[X5,hm,Zc1,Aa0];cases b with
 |true=>rfl
 |false =>
  have hl2:=hm2 rfl;have c1:Of (NodeS.mk 0 [] false [] [] [])=some 0:=Wz (t :=.no) (Nat.zero_le _);have c2:Aka (NodeS.mk 0 [] false [] [] [])=some (NodeS.mk 0 [] false [] [] []):=Am3 (t :=.no) (Nat.zero_le _);have hf:∀r,O5 tb r=some (Ec tb r):=λr=>Am0 hs;simp only[Ag,c1,c2,Zc1,decide_true,Zt1];obtain⟨rs,t,d,hrs,e⟩:=A1y (kx:=_) (b:=false) (g:=[]) (h:=[]) (show l.length<=1000 by omega) hf hn k 0 [] .no (Bve tb) (Nat.zero_le _) (Nat.zero_le _) (by omega);refine e.trans ?_;clear e;simp only;cases ht:Js tb with
  |false =>
   have h0:=Bt2 d ht;have hc:Jx tb=some 2:=by simp only[Jx,hs,Af,ht,Ag]
   have hsc:Tr (tb,t.node.kind,t.node.path,t.node.has,t.node.val,t.node.kids,t.node.hash,[],[])=some ([],2,t.node.kind,t.node.path,t.node.has,t.node.val,t.node.kids,t.node.hash,[],[]):=by simp only[Tr,Ge,hc,Zc1];rfl
   simp only[hsc,Zc1];rw[h0];rfl
  |true =>
   have hsc:Tr (tb,t.node.kind,t.node.path,t.node.has,t.node.val,t.node.kids,t.node.hash,[],[])=some (J1 tb t,0,t.node.kind,t.node.path,t.node.has,t.node.val,t.node.kids,t.node.hash,[],[]):=Bop d hs ht (by omega) 5000 (by omega);have hsl:=Axv d;obtain⟨t1,t2,_⟩:=Tn ht;have hlen:∀r,r∈J1 tb t->r.length=tb.cols.length/\Fit tb r:=λr hr=>by have:=d.fit r ((Qs d).1 hr);exact⟨(M7 this.1).len,this⟩
   simp only[hsc,Zc1,decide_true,Zt1,Ag];refine(Aw7 (m:=k) (by omega) (by omega) t1 t2 hlen (Bfq d) k 0 (Nat.zero_le _) (by omega)).trans ?_;simp only[hsl,decide_true,Af]
theorem Ay3{H:Type}(d:DataW H) : 1<=Rows.uptoBulk d:=by cases d with|lit l=>cases l<;>simp[Rows.uptoBulk]|_=>simp[Rows.uptoBulk]
theorem Af6{H:Type}:∀{l:List (DataW H)}{d:DataW H},d∈l->Rows.uptoBulk d<=Rows.uptoBulkAll l
 |[],_,h=>by cases h
 |x::l,d,h=>by
  simp only[Rows.uptoBulkAll];rcases List.mem_cons.1 h with rfl|h
  ·omega
  ·have:=Af6 h;omega
theorem Arc{H:Type}:∀(l:List (DataW H)),l.length<=Rows.uptoBulkAll l
 |[]=>by simp[Rows.uptoBulkAll]
 |x::l=>by have:=Ay3 x;have:=Arc l;simp only[Rows.uptoBulkAll,Zf1];omega
theorem Bgr{H:Type}(P:Program)(R:Nat):Msr (H:=H) P (R,R) λ_ d=>Rows.uptoBulk d<=R where
 str:=λt s h=>by simp only[Rows.uptoBulk] at h;omega
 sl:=λt e l r hu _ h hl=>by simp only[Rows.uptoBulk] at h;have:=Arc l;exact⟨by omega,λd hd=>by have:=Af6 hd;omega⟩
 agg:=λt fds l i fd d hu h hf hd=>by simp only[Rows.uptoBulk] at h;have:=Af6 (List.mem_of_getElem? hd);omega
theorem T9{H:Type}:∀(l:List (DataW H)),Rows.uptoBulkAll l=(l.map Rows.uptoBulk).sum
 |[]=>by simp[Rows.uptoBulkAll]
 |x::l=>by simp[Rows.uptoBulkAll,T9 l]
theorem Bki{H:Type}:Siz (H:=H) Rows.uptoBulk where
 one:=Ay3
 sl:=λl r=>by rw[<-T9,Rows.uptoBulk];omega
 agg:=λl=>by rw[<-T9,Rows.uptoBulk];omega
theorem Btu{H:Type}{ds gs:List (DataW H)}(h:Rows.uptoSmall H (ds++gs)=true):(ds.map Rows.uptoBulk).sum<=1048576:=by have h:Rows.uptoBulkAll (ds++gs)<=1048576:=of_decide_eq_true h;rw[T9,List.map_append,List.sum_append] at h;omega
theorem Bq0{H:Type}{ds:List (DataW H)}(h:Rows.uptoSmall H ds=true){i:Nat}{d:DataW H}(hd:ds[i]? = some d):Rows.uptoBulk d<=1048576:=by have h:Rows.uptoBulkAll ds<=1048576:=of_decide_eq_true h;have:=Af6 (List.mem_of_getElem? hd);omega
end Go.Proofs.YtcoaaebppfbbnaaGreatDoor
namespace Go.Ax
open Go.RowKit Go.ChangeShapes Go.WideShapes
section
variable {H:Type}{enc':TypeId×Value->H}{P:Program}{w:World}{base:Nat}{sp:Nat->Bool}{held:Bool}
theorem A0b{t k e:TypeId}{fuel:Nat}{cs:List Value}{ps:List MemPlace}(ht:P.underlying t=some (.map k e))(hk:P.underlying k=some (.int .i64))(he:P.underlying e=some .string){l:List (Int×Str)}(hl:∀p,p∈l->U1 l p.1=p.2)(hno:∀n,(∀p,p∈l->p.1≠n)->U1 l n=[])(h:DataW.trod enc' P w base sp held fuel t cs=some (.map (l.map λp=>(.int .i64 p.1,.lit (.string p.2))),ps)):∃b es clk,cs=[.map (some b)]/\w.heap[b]? = some (.map es clk)/\A8k l es.toList:=by
 rcases open_anymap ht h with ⟨_,hx⟩|⟨b,es,clock,_,rfl,hb,_,_,_⟩
 ·cases hx
 cases fuel with
 |zero=>simp[DataW.trod] at h
 |succ n =>
  simp only[DataW.trod,ht,hb] at h
  ·split at h
   ·obtain⟨entries,hm,hs⟩:=Option.bind_eq_some_iff.1 h;split at hs
    ·simp[ Zp1] at hs;obtain⟨hs,_⟩:=hs;have hperm:=sorted_perm (entries.map (·.1));rw[hs] at hperm;have hx:∀(x:MapEntry) (y:(Lit×DataW H)×List MemPlace),((keyOf P k x.key).bind λkey=>if x.val.formed P e=true then(DataW.trod enc' P w base sp held n e x.val.cells.toList).map λy=>((key,y.1),y.2) else none)=some y->∃(m:Int) (s:ByteArray),x.key = .int .i64 m/\x.val = .string s/\s.size<=maxLen/\y.1=(.int .i64 m,.lit (.string s.data.toList)):=by
      intro x y hy;obtain⟨key,hk1,hy⟩:=Option.bind_eq_some_iff.1 hy;split at hy
      ·rename_i hfm;obtain⟨z,hz,rfl⟩:=Option.map_eq_some_iff.1 hy;obtain⟨s,hs1,rfl,hs3⟩:=DataW.trod_string he hz;have hv:x.val = .string s:=by
        cases hxv:x.val<;>rw[hxv] at hs1 hfm<;>simp[Value.cells] at hs1
        ·rw[hs1]
        ·simp[Value.formed,he] at hfm
       have hkk:∃m,x.key = .int .i64 m/\key = .int .i64 m:=by
        simp[keyOf] at hk1;cases hxk:x.key<;>rw[hxk] at hk1<;>simp[mapKey,hk] at hk1
        grind
       grind
      ·cases hy
     have hin:∀x,x∈es.toList->∃(m:Int) (s:ByteArray),x.key = .int .i64 m/\x.val = .string s/\s.size<=maxLen/\(m,s.data.toList)∈l:=λx hxm=>by
      obtain⟨i,hi,rfl⟩:=List.getElem_of_mem hxm;obtain⟨y,hy,hf⟩:=Lib.mapM_at hm i _ (Zo1 hi);obtain⟨m,s,h1,h2,h3,h4⟩:=hx _ y hf;refine⟨m,s,h1,h2,h3,?_⟩;have:y.1∈entries.map (·.1):=List.mem_map.2 ⟨y,List.mem_of_getElem? hy,rfl⟩
      grind
     have hout:∀p,p∈l->∃x,x∈es.toList/\x.key = .int .i64 p.1:=λp hp=>by
      have h1:(Lit.int .i64 p.1,DataW.lit (H:=H) (.string p.2))∈entries.map (·.1):=hperm.subset (List.mem_map.2 ⟨p,hp,rfl⟩);obtain⟨y,hy,e⟩:=List.mem_map.1 h1;obtain⟨x,hxm,hf⟩:=mapM_mem hm y hy
      grind
     refine⟨b,es,clock,rfl,hb,λn =>?_⟩;have hik:MapKept.IsKey (.int .i64) (.int .i64 n):=by simp[MapKept.IsKey]
     rcases MapKept.findNow_spec hik es.toList 0 (λx hxm=>by obtain⟨m,s,h1,_⟩:=hin x hxm;rw[h1];simp[MapKept.IsKey]) with ⟨h1,h2⟩|⟨j,x,h1,h2,h3⟩
     ·grind
     ·obtain⟨m,s,g1,g2,g3,g4⟩:=hin x (List.mem_of_getElem? h2);have hmn:m=n:=by grind
      subst hmn;have hg:=hl _ g4
      simp_all
    ·cases hs
   ·cases h
end
theorem Av5{H:Type}{enc':TypeId×Value->H}{P:Program}{w:World}{base:Nat}{sp:Nat->Bool}{held:Bool}:∀{ts:List TypeId}{vs:List Value}{ds:List (DataW H)}{ps:List MemPlace},DataW.TrodAll enc' P w base sp held ts vs ds ps->ds.length=ts.length:=by intro ts;induction ts with|nil=>intro vs ds ps h;cases vs<;>cases ds<;>simp[DataW.TrodAll] at h ⊢|cons t ts ih =>intro vs ds ps h;obtain⟨v,vs',d,ds',p,q,rfl,rfl,rfl,hd,hrest⟩:=trodAll_cons h;simp[ih hrest]
end Go.Ax
namespace Go.Proofs.YtcoaaebppfbbnaaGreatDoor
open Go.Ax Go.ChangeShapes Go.WideShapes Go.ChangeAt Go.RowKit Go.ChangeMaps
theorem own:ownKnob Tryz.prog.godebug=none:=by kernel_rfl
def rdL:List Nat:=[3,4,9,5,56,109,54,161,112,28,24,22,23,110,43,107,106,59,25,27,30]
theorem Buz:rdB elT (Aiz ttL) rdL=true:=by kernel_rfl
theorem Buk:szB Tryz.prog elT (Aiz ttL) rdL=true:=by kernel_rfl
theorem Bod:laidOutB Tryz.prog=true:=by kernel_rfl
def GlE(x:Vx)(g:Nat):Gv->Prop
 |.arr c xs=>∀i y,xs[i]? = some y->∀w',Chg x.S x.w w'->At w' c y g (i*csz c)
 |.map l=>∃r es clk,(∀w',Chg x.S x.w w'->w'.cell? ⟨g,0,none⟩=some (.map (some r))/\w'.heap[r]? = some (.map es clk))/\A8k l es.toList
 |.num k=>∃n,∀w',Chg x.S x.w w'->w'.cell? ⟨g,0,none⟩=some (.int k n)
theorem Df{α:Type}:∀{L:List (Nat×α)}{g:Nat}{v : α},tbl L g=some v->(g,v)∈L
 |[],_,_,h=>by simp[tbl] at h
 |(k,u)::L,g,v,h=>by
  simp[tbl] at h;split at h
  ·simp_all
  ·exact Zu1 _ (Df h)
theorem Bpn{x:Vx}{L:List (Nat×Gv)}(h:∀p,p∈L->GlE x p.1 p.2):GlR x (tbl L) :=⟨λ_ _ _ hg=>h _ (Df hg),λ_ _ hg=>h _ (Df hg),λ_ _ hg=>h _ (Df hg)⟩
theorem Avy{P:Program}{w:World}:∀{l:List (String×DataW Unit)}{ps:List MemPlace},DataW.LaidVars P w l ps->∀x,x∈l->∃g t cs fuel p,P.globalNamed x.1=some g/\(P.globals[g]?).map (·.type)=some t/\w.var? P x.1=some cs/\DataW.trod (λ_=>()) P w 0 (λ_=>true) false fuel t cs.toList=some (x.2,p)
 |[],_,_,x,hx=>by cases hx
 |(n,d)::r,ps,h,x,hx=>by
  obtain⟨g,t,cs,fuel,p,q,h1,h2,h3,h4,h5,_⟩:=h;rcases List.mem_cons.1 hx with rfl|hx
  ·grind
  ·exact Avy h5 x hx
theorem Bp3:∀p,p∈signsL->U1 signsL p.1=p.2:=by decide
theorem Bo3(l:List (Int×Str)):∀n,(∀p,p∈l->p.1≠n)->U1 l n=[]:=by
 induction l with
 |nil=>intro n _;rfl
 |cons p l ih =>
  intro n h;obtain⟨k,s⟩:=p;have h1:k≠n:=h (k,s) (by simp);simp[U1,Zd1 h1]
  grind
theorem Ben{W:World}{l:List (String×DataW Unit)}(h:laidMet Tryz.prog l W)(hin:("exchequer/ast.signs",Rows.laid_exchequer_ast_signs)∈l):GlE (v0 elT Ca W) 2 (.map signsL):=by
 obtain⟨ps,hl,_⟩:=h;obtain⟨g',t',cs,fuel,p,hg',ht',hvar,hd⟩:=Avy hl _ hin;obtain rfl:=Option.some.inj ((show Tryz.prog.globalNamed "exchequer/ast.signs" = some 2 by kernel_rfl).symm.trans hg');obtain rfl:=Option.some.inj ((show(Tryz.prog.globals[2]?).map (·.type)=some 292 by kernel_rfl).symm.trans ht');obtain⟨b,es,clk,h1,h2,h3⟩:=A0b (l:=signsL) (t:=292) (k:=3) (e:=9) (by kernel_rfl) (by kernel_rfl) (by kernel_rfl) Bp3 (Bo3 signsL) hd;have hc:=World.var?_cell hg' hvar 0;have h1':cs = #[.map (some b)]:=by grind
 rw[h1'] at hc;have hlt:b<W.heap.size:=(Zh2.1 h2).1;exact⟨b,es,clk,λw' hw=>⟨hw.cell _ 0 _ hc (λh=>h),by rw[hw.block b hlt (λ_ h=>h)];exact h2⟩,h3⟩
theorem Bpu{W:World}(h:W.ShapedOpen Tryz.prog):GlE (v0 elT Ca W) 0 (.num .i64):=by obtain⟨m,hm⟩:=Go.Proofs.cell_of_shapedOpen_int (zero := #[.int .i64 0]) (t:=3) (g:=0) h (of_decide_eq_true (by kernel_rfl)) (by kernel_rfl) rfl (by kernel_rfl) (by kernel_rfl) Tryz.underlying3;exact⟨m,λw' hw=>hw.cell _ 0 _ hm (λh=>h)⟩
def Bsb(l:List (String×DataW Unit)):Prop:=(l.all λx=>x.2.handleName?.isNone)=true
 /\ ("exchequer/ast.signs",Rows.laid_exchequer_ast_signs)∈l
 /\ True
theorem Bow{W:World}{l:List (String×DataW Unit)}(hl:Bsb l)(hL:laidMetH Tryz.prog l W)(hS:W.ShapedOpen Tryz.prog):GlR (v0 elT Ca W) glT:=by
 have hL':laidMet Tryz.prog l W:=by
  have hf:(l.filter λx=>x.2.handleName?.isSome)=[]:=List.filter_eq_nil_iff.2 λx hx=>by have:=Zg2.1 hl.1 x hx;rw[Option.isNone_iff_eq_none] at this;simp[this]
  unfold laidMetH at hL;rw[hf] at hL;exact hL
 replace hl:=hl.2;clear hL;have _:=hS;refine Bpn λp hp =>?_;have hsigns:=Ben hL' hl.1;replace hl:=hl.2;have hmax:=Bpu hS;simp only[List.mem_cons,List.not_mem_nil,or_false] at hp
 repeat' (first|(rcases hp with rfl|hp)|subst hp)
 all_goals assumption
def Bwo:DataW Unit->Value
 |.lit (.int k n) =>.int k n
 |.lit (.string s) =>.string ⟨s.toArray⟩
 |_ =>.int .u8 0
def Alj:DataW Unit->List Value
 |.agg l=>l.map Bwo
 |_=>[]
def Bu9:DataW Unit->List Value
 |.agg l=>l.flatMap Alj
 |_=>[]
def A5j(vs:List Value):Obj->Obj
 |.cells _ t frozen =>.cells vs.toArray t frozen
 |o=>o
noncomputable def Bhq(h:Array Obj):Array Obj :=
 let h:=(h.modify 4 (A5j (Alj Rows.laid_unicode_utf8_first))).modify 5 (A5j (Bu9 Rows.laid_unicode_utf8_acceptRanges));let h:=(h.modify 2 (A5j [.map (some h.size)])).push (.map ((signsL.zip (List.range 11)).map λp=>(⟨.int .i64 p.1.1,.string ⟨p.1.2.toArray⟩,p.2⟩:MapEntry)).toArray 11)
 h
noncomputable def Adv(os:Os):World :={ World.holding Tryz.prog os ⟨#[], #[],[]⟩ with heap:=Bhq (World.holding Tryz.prog os ⟨#[], #[],[]⟩).heap }
set_option maxRecDepth 100000 in
theorem A4p{H:Type}{R:Nat×Nat}{M:TypeId->DataW H->Prop}(hM:Msr Tryz.prog R M){enc:TypeId×Value->H}{f:FuncId}{fn:Func}{sa:List Sg}{F:FT sa [.bool]}{s:ChangeSpec}(hok:FnOk Tryz.prog elT glT f sa [.bool] F){Z:HV sa->Prop}(hF:∀x,BdL sa x->SmL R sa x->Z x->F x=some true)
  (hr:fn.resultTypes = #[4]) (hv:s.vars=[]) (hf:∀ds,ds.length=fn.params.toList.length->(s.fn H ds).results=[.lit (.bool true)]/\(s.fn H ds).args=ds/\(s.fn H ds).vars=[])
  (hsg:Ao1 (Aiz ttL) rdL fn.params.toList sa=true) (hread:(fn.params.toList.all λt=>Tryz.prog.readableRec t&&Nat.blt t Tryz.prog.types.size)=true)
  {W:World}{base:Nat}{args:Array Value}{ds gs:List (DataW H)}{before:List MemPlace}(hval:∀(j:Nat) t v,fn.params[j]? = some t->args[j]? = some v->Value.okWide Tryz.prog W .any base t v)
  (hW:DataW.Whole enc Tryz.prog fn.params.toList s.vars false W args.toList ds gs before) (hgl:GlR (v0 elT Ca W) glT) (hsz:ds.length=fn.params.toList.length->∀(i:Nat) (t:TypeId) (d:DataW H),fn.params.toList[i]? = some t->ds[i]? = some d->M t d) (hZ:∀x,(∀m,Siz m->szL sa x<=(ds.map m).sum)->Z x) :
  Calls Tryz.prog f args W λe W'=>∃v,e = .returned v/\s.post enc Tryz.prog fn false true false false W args v W':=by
 have hW':=hW;have hlt:=hW.lt;obtain⟨p,q,hA,hV,rfl,hfz,hnd⟩:=hW;rw[hv] at hV;obtain⟨rfl,rfl⟩:=trodVars_none hV;have hlen:=Av5 hA;obtain⟨x,hx,hsm,hxz⟩:=Axq hM (λt=>Ajm V8 t) Buz Buk 0 hsg (λj t v h1 h2=>hval j t v (by simpa using h1) (by simpa using h2)) hA;have hcall:=hok.calls (hF x (Aaz hx) (hsm (hsz hlen)) (hZ x hxz)) hgl hx;have e1:args.toList.toArray=args:=by simp
 rw[e1] at hcall;refine hcall.mono λen W' =>?_;rintro⟨rfl,hb⟩;refine⟨_,rfl,?_⟩;obtain⟨h1,h2,h3⟩:=hf ds hlen;have e2:ds++([]:List (DataW H))=ds:=by simp
 refine⟨ds,[],_,[],p,[],hW',?_,?_,?_,hb.frame _,λh=>by cases h⟩
 ·rw[e2,h1,hr];exact trodAll_cons_mk (shut_bool Tryz.underlying4 _) trodAll_mk0
 ·rw[e2,h2];refine Aox Bod hb (λt ht =>?_) (λx hx=>hlt x (by simp[hx])) hA;have:=Zg2.1 hread t ht;simp at this;exact⟨this.1,by simpa using this.2⟩
 ·rw[e2,h3,hv];exact rfl
end Go.Proofs.YtcoaaebppfbbnaaGreatDoor
