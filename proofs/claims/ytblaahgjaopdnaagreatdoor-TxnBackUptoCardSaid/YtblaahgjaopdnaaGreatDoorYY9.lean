/- Texts of the proof,one behind the other: AxFr,Xy,Ub,AxFs,FrG. -/
import Derived.Test.YtblaahgjaopdnaaGreatDoorYY8
import Derived.ChangeArms
import Derived.WideShapes
import Derived.Carry
import Derived.ChangeShapes
import Derived.Lib.LaidTab
import Derived.SizedLaws
import Derived.Test.YtblaahgjaopdnaaGreatDoorRows
import Derived.ProofKit
import Derived.ChangeMaps5
import Derived.ChangeAnyMap
import Derived.Test.YtblaahgjaopdnaaGreatDoorCards
import Derived.Test.YtblaahgjaopdnaaGreatDoorTie
import Derived.OpenShut
import Derived.Deep.DeepHandedRow
import Derived.Shelf.Vars
set_option linter.all false
namespace Go.Ax
open Go.RowKit Go.ChangeShapes
def shp:D->D->Bool
 |.int k _,.int k' _=>decide (k=k')
 |.bool _,.bool _=>true
 |.str _,.str _=>true
 |.sl c _ _,.sl c' _ _=>decide (c=c')
 |_,_=>false
def H3:List D->List D->Bool
 |[],[]=>true
 |a::l,b::m=>shp a b&&H3 l m
 |_,_=>false
theorem Brm{a b c:D}(h:shp a b=true)(k:shp a c=true):shp b c=true:=by cases a<;>cases b<;>simp[shp] at h<;>cases c<;>simp[shp] at k<;>subst_vars<;>simp[shp]
theorem A46:∀{a b c:List D},H3 a b=true->H3 a c=true->H3 b c=true
 |[],[],[],_,_=>rfl
 |x::a,y::b,z::c,h,k=>by simp only[H3,Zb1] at h k ⊢;exact⟨Brm h.1 k.1,A46 h.2 k.2⟩
 |[],_::_,_,h,_=>by simp[H3] at h
 |_::_,[],_,h,_=>by simp[H3] at h
 |[],[],_::_,_,k=>by simp[H3] at k
 |_::_,_::_,[],_,k=>by simp[H3] at k
theorem Ad7:∀{a b c d:List D},H3 a b=true->H3 c d=true->H3 (a++c) (b++d)=true
 |[],[],_,_,_,k=>k
 |_::a,_::b,_,_,h,k=>by simp only[H3,Zb1,Zb2] at h ⊢;exact⟨h.1,Ad7 h.2 k⟩
 |[],_::_,_,_,h,_=>by simp[H3] at h
 |_::_,[],_,_,h,_=>by simp[H3] at h
theorem A6s{k:IntKind}{n:Int}{d:D}(h:shp (.int k n) d=true):∃m,d = .int k m:=by
 cases d<;>simp[shp] at h
 subst h;exact⟨_,rfl⟩
theorem Bhv{b:Bool}{d:D}(h:shp (.bool b) d=true):∃m,d = .bool m:=by
 cases d<;>simp[shp] at h
 exact⟨_,rfl⟩
theorem A61{s:Str}{d:D}(h:shp (.str s) d=true):∃m,d = .str m:=by
 cases d<;>simp[shp] at h
 exact⟨_,rfl⟩
theorem Bk1{c:Ck}{xs:List (El c)}{t:Tk}{d:D}(h:shp (.sl c xs t) d=true):∃ys u,d = .sl c ys u:=by
 cases d<;>simp[shp] at h
 subst h;exact⟨_,_,rfl⟩
theorem S8{a:D}{l ds:List D}(h:H3 (a::l) ds=true):∃b m,ds=b::m/\shp a b=true/\H3 l m=true:=by cases ds with|nil=>simp[H3] at h|cons b m =>simp only[H3,Zb1] at h;exact⟨b,m,rfl,h.1,h.2⟩
theorem W2{ds:List D}(h:H3 [] ds=true):ds=[]:=by cases ds with|nil=>rfl|cons b m=>simp[H3] at h
theorem Am4{c:Ck}{z ds:List D}(h:(dec c z).isSome=true)(hs:H3 z ds=true):∃y,dec c ds=some y:=by
 obtain⟨y0,h⟩:=Option.isSome_iff_exists.1 h;unfold dec at h;split at h;all_goals first
  |(cases h;done)
  |skip
 all_goals
  clear h
  repeat (
   obtain⟨b,m,e,h1,hs'⟩:=S8 hs;clear hs;have hs:=hs';clear hs';subst e
   first
    |(obtain⟨_,e⟩:=A6s h1;subst e)
    |(obtain⟨_,e⟩:=Bhv h1;subst e)
    |(obtain⟨_,e⟩:=A61 h1;subst e)
    |(obtain⟨_,_,e⟩:=Bk1 h1;subst e))
  have e:=W2 hs;subst e;exact⟨_,rfl⟩
def Ah6(R:Nat×Nat)(v:Val):Prop:=v.s.length<=R.1
inductive SmExpr (R:Nat×Nat):Xpr->Prop
 |mk (k:Int) (v:Val) (nm:Str) (l:List Xpr):Ah6 R v->nm.length<=R.1->l.length<=R.2->(∀e,e∈l->SmExpr R e)->SmExpr R (.mk k v nm l)
structure SmStm (R:Nat×Nat) (s:Stm):Prop where
 name:s.name.length<=R.1
 on:s.on.length<=R.1
 cols:s.cols.length<=R.2/\∀c,c∈s.cols->c.name.length<=R.1/\c.ref.length<=R.1
 names:s.names.length<=R.2/\∀x,x∈s.names->x.length<=R.1
 l:s.l.length<=R.2/\∀x,x∈s.l->SmExpr R x
 rows:s.rows.length<=R.2/\∀r,r∈s.rows->r.length<=R.2/\∀x,x∈r->SmExpr R x
 sets:s.sets.length<=R.2/\∀x,x∈s.sets->x.name.length<=R.1/\SmExpr R x.e
 whr:SmExpr R s.whr
 order:s.order.length<=R.2/\∀x,x∈s.order->x.length<=R.1
 desc:s.desc.length<=R.2
def Bqp(R:Nat×Nat)(x:Idx):Prop:=x.name.length<=R.1/\x.cols.length<=R.2/\∀s,s∈x.cols->s.length<=R.1
structure SmTbl (R:Nat×Nat) (t:Tbl):Prop where
 name:t.name.length<=R.1
 cols:t.cols.length<=R.2/\∀c,c∈t.cols->c.name.length<=R.1/\c.ref.length<=R.1
 key:t.key.length<=R.2/\∀x,x∈t.key->x.length<=R.1
 checks:t.checks.length<=R.2/\∀x,x∈t.checks->SmExpr R x
 idx:t.idx.length<=R.2/\∀x,x∈t.idx->Bqp R x
def Bh8(R:Nat×Nat)(r:ResS):Prop:=r.rows.length<=R.2/\∀l,l∈r.rows->l.length<=R.2/\∀x,x∈l->Ah6 R x
def SmK(R:Nat×Nat):(c:Ck)->El c->Prop
 |.str,s=>s.length<=R.1
 |.val,v=>Ah6 R v
 |.tok,t=>t.s.length<=R.1
 |.col,c=>c.name.length<=R.1/\c.ref.length<=R.1
 |.expr,e=>SmExpr R e
 |.vals,l=>l.length<=R.2/\∀x,x∈l->Ah6 R x
 |.exprs,l=>l.length<=R.2/\∀x,x∈l->SmExpr R x
 |.strs,l=>l.length<=R.2/\∀x,x∈l->x.length<=R.1
 |.set,s=>s.name.length<=R.1/\SmExpr R s.e
 |.stmt,s=>SmStm R s
 |.idx,x=>Bqp R x
 |.tbl,t=>SmTbl R t
 |.res,r=>Bh8 R r
 |.outc,o=>o.l.length<=R.2/\∀r,r∈o.l->Bh8 R r
 |_,_=>True
def SmD(R:Nat×Nat):D->Prop
 |.str l=>l.length<=R.1
 |.sl c xs _=>xs.length<=R.2/\∀x,x∈xs->SmK R c x
 |_=>True
def SmS(R:Nat×Nat):(s:Sg)->den s->Prop
 |.str,s=>s.length<=R.1
 |.sl c _,xs=>xs.length<=R.2/\∀x,x∈xs->SmK R c x
 |.sv c,x=>SmK R c x
 |_,_=>True
def SmL(R:Nat×Nat):(l:List Sg)->HV l->Prop
 |[],_=>True
 |[a],x=>SmS R a x
 |a::b::l,(x,y)=>SmS R a x/\SmL R (b::l) y
theorem Be1{R:Nat×Nat}{c:Ck}{ds:List D}{y:El c}(h:dec c ds=some y)(hd:∀d,d∈ds->SmD R d):SmK R c y:=by
 unfold dec at h;split at h<;>simp only[Za1,reduceCtorEq] at h<;>subst h<;>simp only[List.mem_cons,List.not_mem_nil,or_false,forall_eq_or_imp,forall_eq,SmD] at hd<;>simp only[SmK,Ah6]<;>first
  |trivial
  |exact hd
  |exact hd.1
  |exact hd.2.2
  |exact hd.2.2.1
  |exact⟨hd.1,hd.2.2.2.2⟩
  |exact .mk _ _ _ _ hd.2.2.2.1 hd.2.2.2.2.1 hd.2.2.2.2.2.1 hd.2.2.2.2.2.2
  |exact⟨hd.1,.mk _ _ _ _ hd.2.2.2.2.1 hd.2.2.2.2.2.1 hd.2.2.2.2.2.2.1 hd.2.2.2.2.2.2.2⟩
  |exact⟨hd.1,hd.2.1,hd.2.2.1,hd.2.2.2.1,hd.2.2.2.2⟩
  |(obtain⟨_,h1,h2,h3,h4,h5,h6,h7,_,_,_,_,w1,w2,w3,h8,h9,_⟩:=hd
    exact⟨h1,h2,h3,h4,h5,h6,h7,.mk _ _ _ _ w1 w2 w3.1 w3.2,h8,h9.1⟩)
structure Msr {H:Type}(P:Program) (R:Nat×Nat) (M:TypeId->DataW H->Prop):Prop where
 str:∀(t:TypeId) (s:List UInt8),M t (.lit (.string s))->s.length<=R.1
 sl:∀(t e:TypeId) (l r:List (DataW H)),P.underlying t=some (.slice e)->1<=P.bytesOf e->M t (.slice l r)->l.length<=9223372036854775807->l.length<=R.2/\∀d,d∈l->M e d
 agg:∀(t:TypeId) (fds:Array Field) (l:List (DataW H)) (i:Nat) (fd:Field) (d:DataW H),P.underlying t=some (.struct fds)->M t (.agg l)->fds[i]? = some fd->l[i]? = some d->M fd.type d
def zc(t:Ty):List D:=match t.zero with|some z=>cells z|none=>[]
def Akc(tt:Nat->Ty)(rd:List Nat):Nat->List (Nat×Nat)->List D->Bool
 |_,[],z=>z.isEmpty
 |o,(o',u)::fs,z=>Nat.beq o' o&&rd.contains u&&Nat.ble (zc (tt u)).length z.length&&H3 (zc (tt u)) (z.take (zc (tt u)).length)&&Akc tt rd (o+(zc (tt u)).length) fs (z.drop (zc (tt u)).length)
def Bj3(el:Ck->TypeId)(tt:Nat->Ty)(rd:List Nat)(t:Nat):Bool:=match tt t with|.int _|.bool|.str=>true|.sl c=>rd.contains (el c)&&(dec c (zc (tt (el c)))).isSome|.st _ fs z=>Akc tt rd 0 fs z|_=>false
def rdB(el:Ck->TypeId)(tt:Nat->Ty)(rd:List Nat):Bool:=rd.all λt=>Bj3 el tt rd t&&Nat.beq (zc (tt t)).length (tt t).n
def szB(P:Program)(el:Ck->TypeId)(tt:Nat->Ty)(rd:List Nat):Bool:=rd.all λt=>match tt t with|.sl c=>Nat.ble 1 (P.bytesOf (el c))|_=>true
theorem Adv{α:Type}{p:Nat->α->Prop}:∀(n:Nat),(∀i,i<n->∃y,p i y)->∃ys:List α,ys.length=n/\∀i y,ys[i]? = some y->p i y
 |0,_=>⟨[],rfl,by simp⟩
 |n+1,h=>by
  obtain⟨ys,h1,h2⟩:=Adv n (λi hi=>h i (by omega));obtain⟨y,hy⟩:=h n (by omega);refine⟨ys++[y],by simp[h1],λi z hz =>?_⟩;rcases Nat.lt_trichotomy i n with hi|rfl|hi
  ·rw[List.getElem?_append_left (by omega)] at hz;exact h2 i z hz
  ·rw[List.getElem?_append_right (by omega),h1] at hz;simp at hz;subst hz;exact hy
  ·rw[List.getElem?_eq_none (by simp;omega)] at hz;cases hz
section
variable {H:Type}{enc':TypeId×Value->H}{P:Program}{el:Ck->TypeId}{tt:Nat->Ty}{rd:List Nat}{w:World}{sp:Nat->Bool}{held:Bool}
theorem V5{t:TypeId}{n:Nat}(h:Sx.tySz P t=some n):P.cellsOf t=n:=by unfold Sx.tySz at h;simp[Program.cellsOf,h]
theorem Ahq{a:Addr}{n:Nat}{vs:List Value}(h:w.cells? 0 a n=some vs):vs.length=n/\∀j u,vs[j]? = some u->w.cell? (a.add j)=some u:=by
 unfold World.cells? at h;simp only[Nat.zero_le,if_true] at h;refine⟨by simpa using Lib.mapM_length h,λj u hj =>?_⟩;have hlt:j<n:=by have:=Lib.mapM_length h;have h2:=(Zi2.1 hj).1;simp at this;omega
 obtain⟨u',hu,hf⟩:=Lib.mapM_at h j j (by simp[hlt]);rw[hj] at hu;simp only[Za1] at hu;subst hu;exact hf
theorem A24{a:Addr}{u:Value}(h:w.cell? a=some u):a.spot=none:=by
 unfold World.cell? at h;split at h
 ·split at h
  ·cases h
  ·rename_i hs;cases hq:a.spot with|none=>rfl|some q=>rw[hq] at hs;simp at hs
 ·cases h
theorem Asw{R:Nat×Nat}{M:TypeId->DataW H->Prop}(hM:Msr P R M)(hT:∀t,Ch P el tt t=true)(hrd:rdB el tt rd=true)(hsb:szB P el tt rd=true):∀(fuel:Nat) (t:TypeId) (cs:List Value) (x:DataW H×List MemPlace),rd.contains t=true->DataW.trod enc' P w 0 sp held fuel t cs=some x->∃ds,H3 (zc (tt t)) ds=true/\Reps (v0 el Cf w) ds cs/\(M t x.1->∀d,d∈ds->SmD R d)
 |0,t,cs,x,_,h=>by simp[DataW.trod] at h
 |fuel+1,t,cs,x,hc,h=>by
  have hloc:=Zg2.1 hrd t (by simpa using hc);simp only[Zb1] at hloc;obtain⟨hloc,hzl⟩:=hloc;have hzl:=Zl1 hzl;have hszB:=Zg2.1 hsb t (by simpa using hc);unfold Bj3 at hloc;split at hloc
  ·rename_i k hty;have hu:=Sx.tyI_spec (Amc (hT t) hty);obtain⟨n,rfl,_,hw⟩:=DataW.trod_int hu h;refine⟨[.int k n],by(rw[hty];show(decide (k=k)&&true)=true;simp),?_,λ_ d hd=>by simp only[List.mem_singleton] at hd;subst hd;trivial⟩;simp only[Reps,Rep];exact⟨_,_,rfl,⟨rfl,hw⟩,rfl⟩
  ·rename_i hty;have hu:=Sx.tyB_spec (Ac3 (hT t) hty);obtain⟨b,rfl,_⟩:=DataW.trod_bool hu h;refine⟨[.bool b],by rw[hty];rfl,?_,λ_ d hd=>by simp only[List.mem_singleton] at hd;subst hd;trivial⟩;simp only[Reps,Rep];exact⟨_,_,rfl,rfl,rfl⟩
  ·rename_i hty;have hu:=Sx.tyS_spec (Gf (hT t) hty);obtain⟨s,rfl,rfl,hs⟩:=DataW.trod_string hu h;refine⟨[.str s.data.toList],by rw[hty];rfl,?_,λhwt d hd=>by simp only[List.mem_singleton] at hd;subst hd;exact hM.str _ _ hwt⟩
   simp only[Reps,Rep];exact⟨_,_,rfl,⟨(by rw[Array.toArray_toList]),(by rw[Array.length_toList];exact hs)⟩,rfl⟩
  ·rename_i c hty;simp only[Zb1] at hloc;obtain⟨hel,hdec⟩:=hloc;have hbz : 1<=P.bytesOf (el c):=by rw[hty] at hszB;exact Nat.le_of_ble_eq_true hszB
   obtain⟨by_,hE,_,_⟩:=Cj (hT t) hty;have hu:=hE.und;obtain⟨_,i0,z,hi0,hz,hsz,_⟩:=hE;have hco:P.cellsOf (el c)=csz c:=V5 (by simp[Sx.tySz,hi0,hsz]);rcases DataW.trod_slice hu h with ⟨rfl,_⟩|⟨a,len,cap,elems,rest,n,hf,rfl,rfl,_,hle,hmax,hlen,hel2,_⟩
   ·refine⟨[.sl c [] .no],by(rw[hty];show(decide (c=c)&&true)=true;simp),?_,λ_ d hd=>by simp only[List.mem_singleton] at hd;subst hd;exact⟨Nat.zero_le _,λx hx=>by cases hx⟩⟩
    simp only[Reps,Rep];exact⟨_,_,rfl,⟨λ_ _ =>.nil _ _ _ _ trivial,trivial⟩,rfl⟩
   ·have hf:fuel=n:=by omega
    subst hf;have each:∀i,i<len->∃y:El c,(∃vs:List Value,w.cells? 0 (a.add (i*csz c)) (csz c)=some vs/\ElR (v0 el Cf w) c y vs)/\(M t (DataW.slice (elems.map (·.1)) (rest.map (·.1)))->SmK R c y):=λi hi=>by have h1:=hel2 i hi;have hsome:∃e,elems[i]? = some e:=⟨_,Zo1 (by omega)⟩;obtain⟨e,he⟩:=hsome;rw[he] at h1;obtain⟨vs,hv,ht⟩:=Option.bind_eq_some_iff.1 h1;rw[hco] at hv;obtain⟨ds,hs,hr,hsm⟩:=Asw hM hT hrd hsb fuel (el c) vs e hel ht;obtain⟨y,hy⟩:=Am4 hdec hs;exact⟨y,⟨vs,hv,P1 hy hr⟩,λhwt=>Be1 hy (hsm ((hM.sl _ _ _ _ hu hbz hwt (by have:maxLen=9223372036854775807:=rfl;simp only[List.length_map];omega)).2 e.1 (List.mem_map.2 ⟨e,List.mem_of_getElem? he,rfl⟩)))⟩
    obtain⟨ys,hyl,hys'⟩:=Adv len each;have hys:=λi y hy=>(hys' i y hy).1;refine⟨[.sl c ys .no],by(rw[hty];show(decide (c=c)&&true)=true;simp),?_,λhwt d hd=>by
     simp only[List.mem_singleton] at hd;subst hd;refine⟨?_,λy hy =>?_⟩
     ·have:=(hM.sl _ _ _ _ hu hbz hwt (by have:maxLen=9223372036854775807:=rfl;simp only[List.length_map];omega)).1;simp only[List.length_map] at this;omega
     ·obtain⟨i,hi,rfl⟩:=List.getElem_of_mem hy;exact(hys' i _ (Zo1 hi)).2 hwt⟩
    simp only[Reps,Rep];refine⟨_,_,rfl,⟨Jn hyl.symm ?_,trivial⟩,rfl⟩;by_cases h0:ys=[]
    ·exact .inl h0
    ·right;have hsn:a.spot=none:=by have hlt : 0<ys.length:=List.length_pos_iff.2 h0;obtain⟨vs,hv,hE⟩:=hys 0 _ (Zo1 hlt);obtain⟨h1,h2⟩:=Ahq hv;have hp:=Afy c;have:=h2 0 _ (Zo1 (by omega));simp only[Nat.zero_mul,Addr.add,if_true] at this;exact A24 this
     obtain⟨b,o,s⟩:=a;simp only at hsn;subst hsn;refine⟨b,o,rfl,⟨by omega,hmax⟩,λi y hy w' hw j d hd =>?_⟩;obtain⟨vs,hv,hE⟩:=hys i y hy;obtain⟨_,h2⟩:=Ahq hv;obtain⟨u,hu',hf⟩:=hE.2 j d hd;have hcell:=h2 j u hu';rw[Sx.add_mk,Sx.add_mk] at hcell;exact⟨u,hw.cell b _ u hcell (λh=>h),hf w' hw⟩
  ·rename_i cc fs z hty;have hbase:=Di (hT t) (by rw[hty];simp);have hsz:P.cellsOf t=z.length:=by have:=V5 hbase.2.2;rw[this,hty];rfl
   have hok:=hT t;unfold Ch at hok;rw[hty] at hok;simp only[Zb1] at hok;have hfl:=hok.2;split at hfl
   ·rename_i fds hu;simp only[Zb1] at hfl;have hfl:=hfl.1;obtain⟨xs,n,hf,rfl,hcl,hxl,hfx⟩:=DataW.trod_struct hu h;have hf:fuel=n:=by omega
    subst hf;have key:∀(l:List (Nat×Nat)) (i o:Nat) (z':List D),fs.drop i=l->Akc tt rd o l z' = true->o+z'.length=cs.length->∃ds,H3 z' ds=true/\Reps (v0 el Cf w) ds (cs.drop o)/\(M t (DataW.agg (xs.map (·.1)))->∀d,d∈ds->SmD R d):=by
     intro l;induction l with
     |nil =>intro i o z' _ hct ho;simp only[Akc,List.isEmpty_iff] at hct;subst hct;refine⟨[],rfl,?_,λ_ d hd=>by cases hd⟩;rw[Zk1 (by simp at ho;omega)];simp[Reps]
     |cons q l ih =>
      intro i o z' hd hct ho;obtain⟨o',u⟩:=q;simp only[Akc,Zb1] at hct;obtain⟨⟨⟨⟨ho',hcu⟩,hle⟩,hsh⟩,hct⟩:=hct;have ho':=Zl1 ho';subst ho';have hle:=Nat.le_of_ble_eq_true hle;have hget:fs[i]? = some (o',u):=by have:=congrArg (·[0]?) hd;simpa[List.getElem?_drop] using this
      obtain⟨fd,g1,g2,g3,_⟩:=Ac5 hfl hget;have g1':fds[i]? = some fd:=by simpa using g1
      have h1:=hfx i fd g1';rw[g2,g3] at h1;have hxi:∃e,xs[i]? = some e:=⟨_,Zo1 (by have:=(Zh2.1 g1').1;omega)⟩
      obtain⟨e,he⟩:=hxi;rw[he] at h1;have hlu:=Zg2.1 hrd u (by simpa using hcu);simp only[Zb1] at hlu;have hnu:=Zl1 hlu.2;have hneu:tt u ≠ .no:=by intro e;have:=hlu.1;unfold Bj3 at this;rw[e] at this;cases this
      have hcou:P.cellsOf u=(zc (tt u)).length:=by rw[V5 (Di (hT u) hneu).2.2,hnu]
      rw[hcou] at h1;obtain⟨ds1,s1,r1,m1⟩:=Asw hM hT hrd hsb fuel u _ e hcu h1;obtain⟨ds2,s2,r2,m2⟩:=ih (i+1) (o'+(zc (tt u)).length) _ (by rw[<-List.drop_drop,hd];rfl) hct (by simp;omega);refine⟨ds1++ds2,?_,?_,λhwt d hd=>by
       rcases List.mem_append.1 hd with hd|hd
       ·refine m1 ?_ d hd;rw[<-g2];exact hM.agg _ _ _ i fd e.1 hu hwt g1' (by rw[List.getElem?_map,he];rfl)
       ·exact m2 hwt d hd⟩
      ·rw[<-List.take_append_drop (zc (tt u)).length z'];exact Ad7 (A46 hsh s1) s2
      ·have:=r1.append r2;rwa[<-List.drop_drop,List.take_append_drop] at this
    obtain⟨ds,h1,h2,h3⟩:=key fs 0 0 z rfl hloc (by rw[hcl,hsz];omega);exact⟨ds,by simpa[hty,zc,Ty.zero,cells] using h1,by simpa using h2,h3⟩
   ·cases hfl
  ·cases hloc
def Bqq(tt:Nat->Ty)(rd:List Nat)(t:Nat)(s:Sg):Bool:=rd.contains t&&match tt t,s with|.int k,.int k'=>decide (k=k')|.bool,.bool=>true|.str,.str=>true|.sl c,.sl c' false=>decide (c=c')|.st (some c) _ _,.sv c'=>decide (c=c')&&agg? c&&(dec c (zc (tt t))).isSome|_,_=>false
theorem Bng{R:Nat×Nat}{M:TypeId->DataW H->Prop}(hM:Msr P R M)(hT:∀t,Ch P el tt t=true)(hrd:rdB el tt rd=true)(hsb:szB P el tt rd=true){t:TypeId}{s:Sg}(hs:Bqq tt rd t s=true){r:Reach}{b0:Nat}{v:Value}{d:DataW H}{ps:List MemPlace}(hval:Value.okWide P w r b0 t v)(h:DataW.Trod enc' P w 0 sp held t v d ps)(i:Nat):∃y:den s,Rep (v0 el Cf w) (Ce i s y) v/\(M t d->SmS R s y):=by
 obtain⟨fuel,h⟩:=h;simp only[Bqq,Zb1] at hs;obtain⟨hc,hs⟩:=hs;obtain⟨ds,hsh,hr,hsm⟩:=Asw hM hT hrd hsb fuel t _ _ hc h;have hsm:M t d->∀d,d∈ds->SmD R d:=hsm;split at hs
 ·rename_i k k' hty;simp only[Zg1] at hs;subst hs;obtain⟨n,rfl⟩:=WideShapes.okWide_int (Sx.tyI_spec (Amc (hT t) hty)) hval;simp only[hty,zc,Ty.zero,cells] at hsh;obtain⟨b,m,rfl,h1,h2⟩:=S8 hsh;obtain rfl:=W2 h2;obtain⟨n',rfl⟩:=A6s h1;simp only[Value.cells,Reps] at hr;obtain⟨u,us,e,hr,_⟩:=hr;simp only[Ze2] at e;obtain⟨rfl,_⟩:=e;exact⟨n',hr,λ_=>trivial⟩
 ·rename_i hty;obtain⟨n,rfl⟩:=WideShapes.okWide_bool (Sx.tyB_spec (Ac3 (hT t) hty)) hval;exact⟨n,by simp only[Ce,Rep],λ_=>trivial⟩
 ·rename_i hty;obtain⟨n,rfl⟩:=WideShapes.okWide_string (Sx.tyS_spec (Gf (hT t) hty)) hval;simp only[hty,zc,Ty.zero,cells] at hsh;obtain⟨b,m,rfl,h1,h2⟩:=S8 hsh;obtain rfl:=W2 h2;obtain⟨n',rfl⟩:=A61 h1;simp only[Value.cells,Reps] at hr;obtain⟨u,us,e,hr,_⟩:=hr;simp only[Ze2] at e;obtain⟨rfl,_⟩:=e;exact⟨n',hr,λhwt=>hsm hwt (.str n') (by simp)⟩
 ·rename_i c c' hty;simp only[Zg1] at hs;subst hs;obtain⟨by_,hE,_,_⟩:=Cj (hT t) hty;have hv:v.cells.toList=[v]:=by have hu:=hE.und;simp only[Value.okWide,hu,Cell.okWide] at hval;cases v<;>first|rfl|(simp[Cell.ok,hu] at hval;done)|(exfalso;simp_all [Cell.ok])
  rw[hv] at hr;simp only[hty,zc,Ty.zero,cells] at hsh;obtain⟨b,m,rfl,h1,h2⟩:=S8 hsh;obtain rfl:=W2 h2;obtain⟨ys,u,rfl⟩:=Bk1 h1;simp only[Reps] at hr;obtain⟨u',us,e,hr,_⟩:=hr;simp only[Ze2] at e;obtain⟨rfl,_⟩:=e;refine⟨ys,?_,λhwt=>hsm hwt (.sl c ys u) (by simp)⟩;simp only[Ce,Rep] at hr ⊢;exact⟨hr.1,trivial⟩
 ·rename_i c fs z c' hty;simp only[Zb1,Zg1] at hs;obtain⟨⟨rfl,ha⟩,hdec⟩:=hs;obtain⟨y,hy⟩:=Am4 hdec hsh;have hE:=P1 hy hr;have hv:∃cs,v = .agg cs:=by
   have hok:=hT t;unfold Ch at hok;rw[hty] at hok;simp only[Zb1] at hok;have hfl:=hok.2;split at hfl
   ·rename_i fds hu;simp only[Value.okWide,hu] at hval;obtain⟨cs,h1,_⟩:=hval;exact⟨cs,h1⟩
   ·cases hfl
  obtain⟨cs,rfl⟩:=hv;refine⟨y,?_,λhwt=>Be1 hy (hsm hwt)⟩;simp only[Ce,Rep];exact⟨ha,cs.toList,by simp,by simpa[Value.cells] using hE.1,by simpa[Value.cells] using hE.2⟩
 ·cases hs
def Aoh(tt:Nat->Ty)(rd:List Nat):List TypeId->List Sg->Bool
 |[],[]=>true
 |t::ts,s::ss=>Bqq tt rd t s&&Aoh tt rd ts ss
 |_,_=>false
theorem Av5{R:Nat×Nat}{M:TypeId->DataW H->Prop}(hM:Msr P R M)(hT:∀t,Ch P el tt t=true)(hrd:rdB el tt rd=true)(hsb:szB P el tt rd=true){r:Reach}{b0:Nat}:∀{ts:List TypeId}{sa:List Sg}{vs:List Value}{ds:List (DataW H)}{ps:List MemPlace}(i:Nat),Aoh tt rd ts sa=true->(∀(j:Nat) t v,ts[j]? = some t->vs[j]? = some v->Value.okWide P w r b0 t v)->DataW.TrodAll enc' P w 0 sp held ts vs ds ps->∃x:HV sa,Reps (v0 el Cf w) (Br i sa x) vs/\((∀(i:Nat) (t:TypeId) (d:DataW H),ts[i]? = some t->ds[i]? = some d->M t d)->SmL R sa x)
 |[],[],vs,ds,ps,i,_,_,h=>by cases vs with|nil=>exact⟨(),by simp[Br,Reps],λ_=>trivial⟩|cons v vs=>cases ds<;>simp[DataW.TrodAll] at h
 |t::ts,[],_,_,_,_,hs,_,_=>by simp[Aoh] at hs
 |[],s::ss,_,_,_,_,hs,_,_=>by simp[Aoh] at hs
 |t::ts,s::ss,vs,ds,ps,i,hs,hval,h=>by simp only[Aoh,Zb1] at hs;obtain⟨v,vs',d,ds',p,q,rfl,rfl,rfl,hd,hrest⟩:=trodAll_cons h;obtain⟨y,hy,hsy⟩:=Bng hM hT hrd hsb hs.1 (hval 0 t v rfl rfl) hd i;obtain⟨z,hz,hsz⟩:=Av5 hM hT hrd hsb (i+1) hs.2 (λj t' v' h1 h2=>hval (j+1) t' v' (by simpa using h1) (by simpa using h2)) hrest;cases ss with|nil =>refine⟨y,?_,λhwt=>hsy (hwt 0 t d rfl rfl)⟩;simp only[Br,Reps] at hz ⊢;exact⟨v,vs',rfl,hy,hz⟩|cons s' ss =>refine⟨(y,z),?_,λhwt=>⟨hsy (hwt 0 t d rfl rfl),hsz λj t' d' h1 h2=>hwt (j+1) t' d' (by simpa using h1) (by simpa using h2)⟩⟩;simp only[Br,Reps];exact⟨v,vs',rfl,hy,hz⟩
theorem Apx(hl:laidOutB P=true){W W':World}(hb:Below W.heap.size W W'):∀{ts:List TypeId}{vs:List Value}{ds:List (DataW H)}{ps:List MemPlace},(∀t,t∈ts->P.readableRec t=true/\t<P.types.size)->(∀x∈ps,x.block<W.heap.size)->DataW.TrodAll enc' P W 0 (λ_=>true) true ts vs ds ps->DataW.TrodAll enc' P W' 0 (λb=>decide (b<W.heap.size)) true ts vs ds ps
 |[],vs,ds,ps,_,_,h=>by
  cases vs<;>cases ds<;>simp[DataW.TrodAll] at h ⊢
  exact h
 |t::ts,vs,ds,ps,ht,hlt,h=>by obtain⟨v,vs',d,ds',p,q,rfl,rfl,rfl,hd,hrest⟩:=trodAll_cons h;obtain⟨h1,h2⟩:=ht t (by simp);exact⟨p,q,Below.trod hl h1 h2 hd hb (λx hx=>hlt x (by simp[hx])),Apx hl hb (λt' h'=>ht t' (by simp[h'])) (λx hx=>hlt x (by simp[hx])) hrest,rfl⟩
end
end Go.Ax
namespace Go.Proofs.YtblaahgjaopdnaaGreatDoor
open Go.Ax
def Abd:List Val->Nat
 |[]=>0
 |v::l=>v.s.length / 20+Abd l
def Jd:List (List Val)->Nat
 |[]=>0
 |r::l=>(1+r.length+Abd r)+Jd l
def At4:List ResS->Nat
 |[]=>0
 |r::l=>Jd r.rows+At4 l
def A4b(o:OutS):Nat:=o.l.length+At4 o.l
def RM:Nat×Nat:=(1048576,1048576)
theorem A51:∀{l:List Val},(∀v,v∈l->Ah6 RM v)->Abd l<=52429*l.length
 |[],_=>by simp[Abd]
 |v::l,h=>by have h1:v.s.length<=1048576:=h v (by simp);have h2:=A51 (l:=l) λx hx=>h x (by simp[hx]);simp only[Abd,Zf1];omega
theorem A5y{o:OutS}{kx:Ex->Zs->Option Bool}{i kk:Nat}(hi:i<o.l.length)(hk:kk<o.l[i].rows.length){row:List Val}(hr:o.l[i].rows[kk]=row)(hl:row.length<=1048576)(hs:∀v,v∈row->Ah6 RM v):∀(m j n:Nat),j<=row.length->row.length-j<m->n+Abd (row.drop j)<=900000000000 ->
  Ak (λrc=>Aki rc kx) m ((n:Int),(i:Int),(kk:Int),(j:Int),o)=kx (.exit 4) (((n+Abd (row.drop j):Nat):Int),(i:Int),(kk:Int),(row.length:Int),o)
 |0,_,_,_,h,_=>by omega
 |m+1,j,n,hj,hm,hn=>by
  have hln:ln row.length:=by simp[ln];omega
  rw[A8];simp only[Aki,Ay hi,Aw (c :=.res) hi,Ay hk,Aw (c :=.vals) hk,hr,chk,Ah];by_cases h:j<row.length
  ·rw[List.drop_eq_getElem_cons h] at hn ⊢;simp only[Abd] at hn ⊢;simp only[C6 h,Ah,Ay h,Aw (c :=.val) h,As h hln];rw[show Int.tdiv ((row[j].s).length:Int) 20=(((row[j].s).length / 20:Nat):Int) from rfl,B0 (n:=(((row[j].s).length / 20:Nat):Int)) (by simp[inI];omega),show(n:Int)+(((row[j].s).length / 20:Nat):Int)=((n+(row[j].s).length / 20:Nat):Int) by omega,B0 (by simp[inI];omega),<-Nat.add_assoc];exact A5y hi hk hr hl hs m (j+1) _ h (by omega) (by omega)
  ·have:j=row.length:=by omega
   subst this;simp only[E6,Af,Zc2,Abd,Nat.add_zero]
def SmO(o:OutS):Prop:=o.l.length<=1048576/\∀r,r∈o.l->Bh8 RM r
theorem A8r{o:OutS}{kx:Ex->W9->Option Bool}{i:Nat}(M:Nat)(hM : 1100000<M)(ho:SmO o)(hi:i<o.l.length):∀(m k n:Nat),k<=o.l[i].rows.length->o.l[i].rows.length-k<m->n<=900000000000 ->
  ∃(n':Nat) (k':Int),Ak (λrc=>Aho M rc kx) m ((n:Int),(i:Int),(k:Int),o)=kx (.exit 2) ((n':Int),(i:Int),k',o)/\n'<=900000000000/\(500<=n'\/n' = n+Jd (o.l[i].rows.drop k))
 |0,_,_,_,h,_=>by omega
 |m+1,k,n,hk,hm,hn=>by
  obtain⟨s1,s2⟩:=ho.2 _ (List.getElem_mem hi);simp only[RM] at s1;have hln:ln o.l[i].rows.length:=by simp[ln];omega
  rw[A8];simp only[Aho,Ay hi,Aw (c :=.res) hi,chk,Ah];by_cases h:k<o.l[i].rows.length
  ·obtain⟨q1,q2⟩:=s2 _ (List.getElem_mem h);simp only[RM] at q1;simp only[C6 h,Ah,Ay h,Aw (c :=.vals) h];by_cases h5:n<500
   ·have hw:=A51 q2;rw[Ze1 (show(n:Int)<500 by omega),Ah,B0 (n:=(n:Int)+1) (by simp[inI];omega),show(n:Int)+1+(o.l[i].rows[k].length:Int)=((n+1+o.l[i].rows[k].length:Nat):Int) by omega,B0 (by simp[inI];omega)];rw[show(0:Int)=((0:Nat):Int) from rfl,A5y hi h rfl q1 q2 M 0 _ (by omega) (by omega) (by rw[Zq1];omega)];simp only[As h hln,Zq1];obtain⟨n',k',e,e1,e2⟩:=A8r (kx:=kx) M hM ho hi m (k+1) (n+1+o.l[i].rows[k].length+Abd o.l[i].rows[k]) h (by omega) (by omega);refine⟨n',k',e,e1,?_⟩;rw[List.drop_eq_getElem_cons h,Jd];omega
   ·rw[Zd1 (show ¬(n:Int)<500 by omega),Af];exact⟨n,_,rfl,hn,.inl (by omega)⟩
  ·have:k=o.l[i].rows.length:=by omega
   subst this;simp only[E6,Af,Zc2,Jd,Nat.add_zero];exact⟨n,_,rfl,hn,.inr rfl⟩
theorem A7w{o:OutS}{kx:Ex->Yd->Option Bool}(M:Nat)(hM : 1100000<M)(ho:SmO o):∀(m i n:Nat),i<=o.l.length->o.l.length-i<m->n<=900000000000 ->
  ∃(n':Nat) (i':Int),Ak (λrec=>Ac7 M rec kx) m ((n:Int),(i:Int),o)=kx (.exit 0) ((n':Int),i',o)/\(500<=n'\/n' = n+At4 (o.l.drop i))
 |0,_,_,_,h,_=>by omega
 |m+1,i,n,hi,hm,hn=>by
  have hl:=ho.1;have hln:ln o.l.length:=by simp[ln];omega
  rw[A8];simp only[Ac7];by_cases h:i<o.l.length
  ·have s1:=(ho.2 _ (List.getElem_mem h)).1;simp only[RM] at s1;simp only[C6 h,Ah];by_cases h5:n<500
   ·obtain⟨n',k',e,e1,e2⟩:=A8r (kx:=λe vz=>match vz with|(a,b,_,c)=>match e with
     |.exit 2=>Ak (λrec=>Ac7 M rec kx) m (a,(wr .i64 (b+1)),c)
     |_=>none) M hM ho h M 0 n (by omega) (by omega) hn
    rw[Ze1 (show(n:Int)<500 by omega),Ah];obtain⟨n2,i2,g,g1⟩:=A7w (kx:=kx) M hM ho m (i+1) n' h (by omega) e1;refine⟨n2,i2,?_,?_⟩
    ·refine e.trans ?_;simp only[As h hln];exact g
    ·rw[List.drop_eq_getElem_cons h,At4];rw[Zq1] at e2;omega
   ·rw[Zd1 (show ¬(n:Int)<500 by omega),Af];exact⟨n,_,rfl,.inl (by omega)⟩
  ·have:i=o.l.length:=by omega
   subst this;simp only[E6,Af,Zc2,At4,Nat.add_zero];exact⟨n,_,rfl,.inr rfl⟩
theorem Bq3{o:OutS}(M:Nat)(hM : 1100000<M)(ho:SmO o):∃r,Abg M o=some r/\(r=false->A4b o<500):=by
 have hl:=ho.1;obtain⟨n,i,e,h⟩:=A7w (kx:=λe vz=>match vz with|(a,_,_)=>match e with
  |.exit 0=>some (decide (500<=a))
  |_=>none) M hM ho M 0 o.l.length (by omega) (by omega) (by omega)
 refine⟨_,e,λhr =>?_⟩;have:=of_decide_eq_false hr;rw[Zq1] at h;simp only[A4b];omega
theorem Bo7{o:OutS}(ho:SmO o):∃r,Bn3 o=some r/\(r=false->A4b o<500):=Bq3 2000000 (by omega) ho
theorem La:∀{l:List (List Val)}{r:List Val},r∈l->r.length<Jd l/\l.length<=Jd l
 |x::l,r,h=>by
  have h0:l.length<=Jd l:=by cases l with|nil=>simp|cons y l=>exact(La (Zr1 (a:=y) (l:=l))).2
  simp only[Jd,Zf1];rcases List.mem_cons.1 h with rfl|h
  ·omega
  ·have:=(La h).1;omega
theorem Ap5(l:List (List Val)):l.length<=Jd l:=by cases l with|nil=>simp|cons y l=>exact(La (Zr1 (a:=y) (l:=l))).2
theorem Azq:∀{l:List ResS}{r:ResS},r∈l->Jd r.rows<=At4 l
 |x::l,r,h=>by
  simp only[At4];rcases List.mem_cons.1 h with rfl|h
  ·omega
  ·have:=Azq h;omega
theorem Bpk{o:OutS}(hb:BdS (.sv .outc) o)(hu:A4b o<500):Azw o/\o.l.length<=4000/\∀r,r∈o.l->Am0 r:=by
 simp only[A4b] at hu;have key:∀r,r∈o.l->Jd r.rows<500:=λr hr=>by have:=Azq hr;omega
 refine⟨⟨by omega,inT hb.1,inT hb.2.1,λr hr=>⟨⟨?_,λq hq=>⟨?_,λv hv =>?_⟩⟩,?_⟩⟩,by omega,λr hr=>⟨?_,λq hq =>?_⟩⟩
 ·have:=Ap5 r.rows;have:=key r hr;omega
 ·have:=(La hq).1;have:=key r hr;omega
 ·exact inT (((hb.2.2.2 r hr).1.2 q hq).2 v hv).2.1
 ·exact inT (hb.2.2.2 r hr).2
 ·have:=Ap5 r.rows;have:=key r hr;omega
 ·have:=(La hq).1;have:=key r hr;omega
theorem Bmw(v:Val):(K6 v).length<=36+20*(v.s.length / 20):=by
 have h1:=Ba 9 (zz v.n);have h2:=Ba 5 v.s.length;simp only[K6,Zf1];split
 ·simp;omega
 ·split
  ·omega
  ·split
   ·rw[Zh1];omega
   ·simp;omega
theorem Azm:∀l:List Val,(H6 l).length<=36*l.length+20*Abd l
 |[]=>by simp[H6]
 |v::l=>by have h1:=Bmw v;have h2:=Azm l;rw[Om,Zh1,Zf1,Abd];omega
theorem Bop(l:List Val):(Js l).1.length<=10+(36*l.length+20*Abd l):=by
 have h1:=Azm l;have h2:=Ba 9 l.length;simp only[Js];cases l.all (λv=>Be v) with
 |false=>simp
 |true =>cases decide (100<(l.length:Int)) with|true=>simp|false =>simp only[Ah,Af,Zh1];omega
theorem Av8:∀l:List (List Val),(E9 (Cc l)).length<=36*Jd l
 |[]=>by simp[Cc,E9]
 |r::l=>by have h1:=Bop r;have h2:=Av8 l;have h3:=Ba 5 (Js r).1.length;simp only[Aev,E9,Zh1,Jd];omega
theorem Bob(l:List (List Val)):(Eg l).1.length<=6+36*Jd l:=by have h1:=Av8 l;have h2:=Ba 5 (Cc l).length;simp only[Eg];cases l.all okR with|false=>simp|true =>simp only[Ah,Y2,Zh1];omega
theorem Az0:∀l:List ResS,(Gz l).length<=36*l.length+36*At4 l
 |[]=>by simp[Gz]
 |r::l=>by have h1:=Bob r.rows;have h2:=Az0 l;have h3:=Ba 5 (Eg r.rows).1.length;have h4:=Ba 9 r.n.toNat;simp only[M7,Amf,Zh1,Zf1,At4];omega
theorem A90{o:OutS}(hu:A4b o<500):(Bd o).length<=18000:=by have h1:=Az0 o.l;have h2:=Ba 9 o.e.toNat;have h3:=Ba 9 o.pos.toNat;have h4:=Ba 9 o.l.length;simp only[A4b] at hu;simp only[Bd,Zh1];omega
theorem Biw{H:Type}(d:DataW H) : 1<=Rows.uptoBulk d:=by cases d with|lit l=>cases l<;>simp[Rows.uptoBulk]|_=>simp[Rows.uptoBulk]
theorem Af3{H:Type}:∀{l:List (DataW H)}{d:DataW H},d∈l->Rows.uptoBulk d<=Rows.uptoBulkAll l
 |[],_,h=>by cases h
 |x::l,d,h=>by
  simp only[Rows.uptoBulkAll];rcases List.mem_cons.1 h with rfl|h
  ·omega
  ·have:=Af3 h;omega
theorem Aqf{H:Type}:∀(l:List (DataW H)),l.length<=Rows.uptoBulkAll l
 |[]=>by simp[Rows.uptoBulkAll]
 |x::l=>by have:=Biw x;have:=Aqf l;simp only[Rows.uptoBulkAll,Zf1];omega
theorem Bkc{H:Type}(P:Program)(R:Nat):Msr (H:=H) P (R,R) λ_ d=>Rows.uptoBulk d<=R where
 str:=λt s h=>by simp only[Rows.uptoBulk] at h;omega
 sl:=λt e l r hu _ h hl=>by simp only[Rows.uptoBulk] at h;have:=Aqf l;exact⟨by omega,λd hd=>by have:=Af3 hd;omega⟩
 agg:=λt fds l i fd d hu h hf hd=>by simp only[Rows.uptoBulk] at h;have:=Af3 (List.mem_of_getElem? hd);omega
theorem Bpl{H:Type}{ds:List (DataW H)}(h:Rows.uptoSmall H ds=true){i:Nat}{d:DataW H}(hd:ds[i]? = some d):Rows.uptoBulk d<=1048576:=by have h:Rows.uptoBulkAll ds<=1048576:=of_decide_eq_true h;have:=Af3 (List.mem_of_getElem? hd);omega
end Go.Proofs.YtblaahgjaopdnaaGreatDoor
namespace Go.Ax
open Go.RowKit Go.ChangeShapes Go.WideShapes
section
variable {H:Type}{enc':TypeId×Value->H}{P:Program}{w:World}{base:Nat}{sp:Nat->Bool}{held:Bool}
theorem Awm{t k e:TypeId}{fuel:Nat}{cs:List Value}{ps:List MemPlace}(ht:P.underlying t=some (.map k e))(hk:P.underlying k=some (.int .i64))(he:P.underlying e=some .string){l:List (Int×Str)}(hl:∀p,p∈l->Tt l p.1=p.2)(hno:∀n,(∀p,p∈l->p.1≠n)->Tt l n=[])(h:DataW.trod enc' P w base sp held fuel t cs=some (.map (l.map λp=>(.int .i64 p.1,.lit (.string p.2))),ps)):∃b es clk,cs=[.map (some b)]/\w.heap[b]? = some (.map es clk)/\A6l l es.toList:=by
 rcases open_anymap ht h with ⟨_,hx⟩|⟨b,es,clock,_,rfl,hb,_,_,_⟩
 ·cases hx
 cases fuel with
 |zero=>simp[DataW.trod] at h
 |succ n =>
  simp only[DataW.trod,ht,hb] at h
  ·split at h
   ·obtain⟨entries,hm,hs⟩:=Option.bind_eq_some_iff.1 h;split at hs
    ·simp[ Zp1] at hs;obtain⟨hs,_⟩:=hs;have hperm:=sorted_perm (entries.map (·.1));rw[hs] at hperm;have hx:∀(x:MapEntry) (y:(Lit×DataW H)×List MemPlace),((keyOf P k x.key).bind λkey=>if x.val.formed P e=true then(DataW.trod enc' P w base sp held n e x.val.cells.toList).map λy=>((key,y.1),y.2) else none)=some y->∃(m:Int) (s:ByteArray),x.key = .int .i64 m/\x.val = .string s/\s.size<=maxLen/\y.1=(.int .i64 m,.lit (.string s.data.toList)):=by
      intro x y hy;obtain⟨key,hk1,hy⟩:=Option.bind_eq_some_iff.1 hy;split at hy
      ·rename_i hfm;obtain⟨z,hz,rfl⟩:=Option.map_eq_some_iff.1 hy;obtain⟨s,hs1,rfl,hs3⟩:=DataW.trod_string he hz;have hv:x.val = .string s:=by
        cases hxv:x.val<;>rw[hxv] at hs1 hfm<;>simp[Value.cells] at hs1
        ·rw[hs1]
        ·simp[Value.formed,he] at hfm
       have hkk:∃m,x.key = .int .i64 m/\key = .int .i64 m:=by
        simp[keyOf] at hk1;cases hxk:x.key<;>rw[hxk] at hk1<;>simp[mapKey,hk] at hk1
        grind
       grind
      ·cases hy
     have hin:∀x,x∈es.toList->∃(m:Int) (s:ByteArray),x.key = .int .i64 m/\x.val = .string s/\s.size<=maxLen/\(m,s.data.toList)∈l:=λx hxm=>by
      obtain⟨i,hi,rfl⟩:=List.getElem_of_mem hxm;obtain⟨y,hy,hf⟩:=Lib.mapM_at hm i _ (Zo1 hi);obtain⟨m,s,h1,h2,h3,h4⟩:=hx _ y hf;refine⟨m,s,h1,h2,h3,?_⟩;have:y.1∈entries.map (·.1):=List.mem_map.2 ⟨y,List.mem_of_getElem? hy,rfl⟩
      grind
     have hout:∀p,p∈l->∃x,x∈es.toList/\x.key = .int .i64 p.1:=λp hp=>by
      have h1:(Lit.int .i64 p.1,DataW.lit (H:=H) (.string p.2))∈entries.map (·.1):=hperm.subset (List.mem_map.2 ⟨p,hp,rfl⟩);obtain⟨y,hy,e⟩:=List.mem_map.1 h1;obtain⟨x,hxm,hf⟩:=mapM_mem hm y hy
      grind
     refine⟨b,es,clock,rfl,hb,λn =>?_⟩;have hik:MapKept.IsKey (.int .i64) (.int .i64 n):=by simp[MapKept.IsKey]
     rcases MapKept.findNow_spec hik es.toList 0 (λx hxm=>by obtain⟨m,s,h1,_⟩:=hin x hxm;rw[h1];simp[MapKept.IsKey]) with ⟨h1,h2⟩|⟨j,x,h1,h2,h3⟩
     ·grind
     ·obtain⟨m,s,g1,g2,g3,g4⟩:=hin x (List.mem_of_getElem? h2);have hmn:m=n:=by grind
      subst hmn;have hg:=hl _ g4
      simp_all
    ·cases hs
   ·cases h
end
theorem Aw9{H:Type}{enc':TypeId×Value->H}{P:Program}{w:World}{base:Nat}{sp:Nat->Bool}{held:Bool}:∀{ts:List TypeId}{vs:List Value}{ds:List (DataW H)}{ps:List MemPlace},DataW.TrodAll enc' P w base sp held ts vs ds ps->ds.length=ts.length:=by intro ts;induction ts with|nil=>intro vs ds ps h;cases vs<;>cases ds<;>simp[DataW.TrodAll] at h ⊢|cons t ts ih =>intro vs ds ps h;obtain⟨v,vs',d,ds',p,q,rfl,rfl,rfl,hd,hrest⟩:=trodAll_cons h;simp[ih hrest]
end Go.Ax
namespace Go.Proofs.YtblaahgjaopdnaaGreatDoor
open Go.Ax Go.ChangeShapes Go.WideShapes Go.ChangeAt Go.RowKit Go.ChangeMaps
theorem own:ownKnob Tryz.prog.godebug=none:=by kernel_rfl
def rdL:List Nat:=[3,4,9,5,47,88,190,185,91,45,84,83,81,89,25,86,85,121,177,221,203,205,42,44,22,24]
theorem Bqr:rdB elT (Ams ttL) rdL=true:=by kernel_rfl
theorem Brv:szB Tryz.prog elT (Ams ttL) rdL=true:=by kernel_rfl
theorem Bo2:laidOutB Tryz.prog=true:=by kernel_rfl
def GlE(x:Vx)(g:Nat):Gv->Prop
 |.arr c xs=>∀i y,xs[i]? = some y->∀w',Chg x.S x.w w'->At w' c y g (i*csz c)
 |.map l=>∃r es clk,(∀w',Chg x.S x.w w'->w'.cell? ⟨g,0,none⟩=some (.map (some r))/\w'.heap[r]? = some (.map es clk))/\A6l l es.toList
 |.num k=>∃n,∀w',Chg x.S x.w w'->w'.cell? ⟨g,0,none⟩=some (.int k n)
theorem Ey{α:Type}:∀{L:List (Nat×α)}{g:Nat}{v : α},tbl L g=some v->(g,v)∈L
 |[],_,_,h=>by simp[tbl] at h
 |(k,u)::L,g,v,h=>by
  simp[tbl] at h;split at h
  ·simp_all
  ·exact Zu1 _ (Ey h)
theorem Bpd{x:Vx}{L:List (Nat×Gv)}(h:∀p,p∈L->GlE x p.1 p.2):GlR x (tbl L) :=⟨λ_ _ _ hg=>h _ (Ey hg),λ_ _ hg=>h _ (Ey hg),λ_ _ hg=>h _ (Ey hg)⟩
theorem Agv{P:Program}{w:World}:∀{l:List (String×DataW Unit)}{ps:List MemPlace},DataW.LaidVars P w l ps->∀x,x∈l->∃g t cs fuel p,P.globalNamed x.1=some g/\(P.globals[g]?).map (·.type)=some t/\w.var? P x.1=some cs/\DataW.trod (λ_=>()) P w 0 (λ_=>true) false fuel t cs.toList=some (x.2,p)
 |[],_,_,x,hx=>by cases hx
 |(n,d)::r,ps,h,x,hx=>by
  obtain⟨g,t,cs,fuel,p,q,h1,h2,h3,h4,h5,_⟩:=h;rcases List.mem_cons.1 hx with rfl|hx
  ·grind
  ·exact Agv h5 x hx
theorem Ala{H:Type}{enc:TypeId×Value->H}{P:Program}{w:World}{base:Nat}{sp:Nat->Bool}{held:Bool}{fuel:Nat}{t e:TypeId}{n:Nat}{cs:List Value}{zs:List (List UInt8)}{p:List MemPlace}
  (ht:P.underlying t=some (.array n e)) (he:P.underlying e=some .string) (hce:P.cellsOf e=1)
  (h:DataW.trod enc P w base sp held fuel t cs=some (.agg (zs.map λz =>.lit (.string z)),p)):∀(i:Nat) (z:Str),zs[i]? = some z->cs[i]? = some (.string ⟨z.toArray⟩):=by
 cases fuel with
 |zero=>simp[DataW.trod] at h
 |succ fuel =>
  simp only[DataW.trod,ht,hce] at h;split at h
  ·rename_i hl;obtain⟨xs,hm,hx⟩:=Option.map_eq_some_iff.1 h;have hxs:xs.map (·.1)=zs.map λz=>(DataW.lit (.string z):DataW H):=by grind
   have hxl:xs.length=n:=by simpa using Lib.mapM_length hm
   have hzl:zs.length=n:=by have:=congrArg List.length hxs;simp at this;omega
   intro i z hz;have hi:i<n:=by grind
   obtain⟨b,hb,hf⟩:=Lib.mapM_at hm i i (by simp[hi]);obtain⟨z',hc,h3,_⟩:=DataW.trod_string he hf;have h1:cs[i]? = some (.string z'):=by
    have:=congrArg (·[0]?) hc
    grind
   have h2:(xs.map (·.1))[i]? = some b.1:=by simp[hb]
   simp_all
  ·cases h
theorem Anl{W:World}{l:List (String×DataW Unit)}(h:laidMet Tryz.prog l W){nm:String}{g t e:Nat}{n:Nat}{zs:List Str}(hin:(nm,DataW.agg (zs.map λz =>.lit (.string z)))∈l)(hg:Tryz.prog.globalNamed nm=some g)(hgt:(Tryz.prog.globals[g]?).map (·.type)=some t)
  (ht:Tryz.prog.underlying t=some (.array n e)) (he:Tryz.prog.underlying e=some .string) (hce:Tryz.prog.cellsOf e=1) (hz:(zs.all λz=>Nat.ble z.length maxLen)=true):GlE (v0 elT Cf W) g (.arr .str zs):=by
 obtain⟨ps,hl,_⟩:=h;obtain⟨g',t',cs,fuel,p,h1,h2,h3,h4⟩:=Agv hl _ hin;obtain rfl:=Option.some.inj (hg.symm.trans h1);obtain rfl:=Option.some.inj (hgt.symm.trans h2);intro i y hy w' hw j d hd;have hj:j=0/\d = .str y:=by cases j with|zero=>simpa[enc] using hd.symm|succ j=>simp[enc] at hd
 obtain⟨rfl,rfl⟩:=hj;have h5:=World.var?_cell h1 h3 i;rw[<-Array.getElem?_toList,(Ala ht he hce h4) i y hy] at h5;have e1:i*csz .str+0=i:=by simp[csz]
 exact⟨_,by rw[e1];exact hw.cell _ _ _ h5 (λh=>h),.str y (Nat.le_of_ble_eq_true (Zg2.1 hz y (List.mem_of_getElem? hy)))⟩
theorem Bmj:∀p,p∈signsL->Tt signsL p.1=p.2:=by decide
theorem Bm8(l:List (Int×Str)):∀n,(∀p,p∈l->p.1≠n)->Tt l n=[]:=by
 induction l with
 |nil=>intro n _;rfl
 |cons p l ih =>
  intro n h;obtain⟨k,s⟩:=p;have h1:k≠n:=h (k,s) (by simp);simp[Tt,Zd1 h1]
  grind
theorem Bbf{W:World}{l:List (String×DataW Unit)}(h:laidMet Tryz.prog l W)(hin:("exchequer/ast.signs",Rows.laid_exchequer_ast_signs)∈l):GlE (v0 elT Cf W) 1 (.map signsL):=by
 obtain⟨ps,hl,_⟩:=h;obtain⟨g',t',cs,fuel,p,hg',ht',hvar,hd⟩:=Agv hl _ hin;obtain rfl:=Option.some.inj ((show Tryz.prog.globalNamed "exchequer/ast.signs" = some 1 by kernel_rfl).symm.trans hg');obtain rfl:=Option.some.inj ((show(Tryz.prog.globals[1]?).map (·.type)=some 298 by kernel_rfl).symm.trans ht');obtain⟨b,es,clk,h1,h2,h3⟩:=Awm (l:=signsL) (t:=298) (k:=3) (e:=9) (by kernel_rfl) (by kernel_rfl) (by kernel_rfl) Bmj (Bm8 signsL) hd;have hc:=World.var?_cell hg' hvar 0;have h1':cs = #[.map (some b)]:=by grind
 rw[h1'] at hc;have hlt:b<W.heap.size:=(Zh2.1 h2).1;exact⟨b,es,clk,λw' hw=>⟨hw.cell _ 0 _ hc (λh=>h),by rw[hw.block b hlt (λ_ h=>h)];exact h2⟩,h3⟩
theorem Bnn{W:World}(h:W.ShapedOpen Tryz.prog):GlE (v0 elT Cf W) 2 (.num .i64):=by obtain⟨m,hm⟩:=Go.Proofs.cell_of_shapedOpen_int (zero := #[.int .i64 0]) (t:=3) (g:=2) h (of_decide_eq_true (by kernel_rfl)) (by kernel_rfl) rfl (by kernel_rfl) (by kernel_rfl) Tryz.underlying3;exact⟨m,λw' hw=>hw.cell _ 0 _ hm (λh=>h)⟩
def Bp6(l:List (String×DataW Unit)):Prop:=(l.all λx=>x.2.handleName?.isNone)=true
 /\ ("exchequer/lex.words",Rows.laid_exchequer_lex_words)∈l
 /\ ("exchequer/ast.signs",Rows.laid_exchequer_ast_signs)∈l
 /\ ("exchequer/ast.kinds",Rows.laid_exchequer_ast_kinds)∈l
 /\ True
theorem Bo5{W:World}{l:List (String×DataW Unit)}(hl:Bp6 l)(hL:laidMetH Tryz.prog l W)(hS:W.ShapedOpen Tryz.prog):GlR (v0 elT Cf W) glT:=by
 have hL':laidMet Tryz.prog l W:=by
  have hf:(l.filter λx=>x.2.handleName?.isSome)=[]:=List.filter_eq_nil_iff.2 λx hx=>by have:=Zg2.1 hl.1 x hx;rw[Option.isNone_iff_eq_none] at this;simp[this]
  unfold laidMetH at hL;rw[hf] at hL;exact hL
 replace hl:=hl.2;clear hL;have _:=hS;refine Bpd λp hp =>?_;have hwords:GlE (v0 elT Cf W) 0 (.arr .str wordsL):=Anl (n:=36) (t:=294) (e:=9) hL' hl.1 (by kernel_rfl) (by kernel_rfl) (by kernel_rfl) (by kernel_rfl) (by kernel_rfl) (by kernel_rfl);replace hl:=hl.2;have hsigns:=Bbf hL' hl.1;replace hl:=hl.2;have hkinds:GlE (v0 elT Cf W) 3 (.arr .str Asa):=Anl (n:=6) (t:=296) (e:=9) hL' hl.1 (by kernel_rfl) (by kernel_rfl) (by kernel_rfl) (by kernel_rfl) (by kernel_rfl) (by kernel_rfl);replace hl:=hl.2;have hmax:=Bnn hS;simp only[List.mem_cons,List.not_mem_nil,or_false] at hp
 repeat' (first|(rcases hp with rfl|hp)|subst hp)
 all_goals assumption
def Bs7:DataW Unit->Value
 |.lit (.int k n) =>.int k n
 |.lit (.string s) =>.string ⟨s.toArray⟩
 |_ =>.int .u8 0
def Z5:DataW Unit->List Value
 |.agg l=>l.map Bs7
 |_=>[]
def Bsc:DataW Unit->List Value
 |.agg l=>l.flatMap Z5
 |_=>[]
def Alj(vs:List Value):Obj->Obj
 |.cells _ t frozen =>.cells vs.toArray t frozen
 |o=>o
noncomputable def Bgs(h:Array Obj):Array Obj :=
 let h:=h.modify 0 (Alj (Z5 Rows.laid_exchequer_lex_words));let h:=h.modify 3 (Alj (Z5 Rows.laid_exchequer_ast_kinds));let h:=(h.modify 4 (Alj (Z5 Rows.laid_unicode_utf8_first))).modify 5 (Alj (Bsc Rows.laid_unicode_utf8_acceptRanges));let h:=(h.modify 1 (Alj [.map (some h.size)])).push (.map ((signsL.zip (List.range 11)).map λp=>(⟨.int .i64 p.1.1,.string ⟨p.1.2.toArray⟩,p.2⟩:MapEntry)).toArray 11)
 h
noncomputable def Ach(os:Os):World :={ World.holding Tryz.prog os ⟨#[], #[],[]⟩ with heap:=Bgs (World.holding Tryz.prog os ⟨#[], #[],[]⟩).heap }
set_option maxRecDepth 100000 in
theorem Bd3{H:Type}{R:Nat×Nat}{M:TypeId->DataW H->Prop}(hM:Msr Tryz.prog R M){enc:TypeId×Value->H}{f:FuncId}{fn:Func}{sa:List Sg}{F:FT sa [.bool]}{s:ChangeSpec}(hok:FnOk Tryz.prog elT glT f sa [.bool] F)(hF:∀x,BdL sa x->SmL R sa x->F x=some true)
  (hr:fn.resultTypes = #[4]) (hv:s.vars=[]) (hf:∀ds,ds.length=fn.params.toList.length->(s.fn H ds).results=[.lit (.bool true)]/\(s.fn H ds).args=ds/\(s.fn H ds).vars=[])
  (hsg:Aoh (Ams ttL) rdL fn.params.toList sa=true) (hread:(fn.params.toList.all λt=>Tryz.prog.readableRec t&&Nat.blt t Tryz.prog.types.size)=true)
  {W:World}{base:Nat}{args:Array Value}{ds gs:List (DataW H)}{before:List MemPlace}(hval:∀(j:Nat) t v,fn.params[j]? = some t->args[j]? = some v->Value.okWide Tryz.prog W .any base t v)
  (hW:DataW.Whole enc Tryz.prog fn.params.toList s.vars false W args.toList ds gs before) (hgl:GlR (v0 elT Cf W) glT) (hsz:ds.length=fn.params.toList.length->∀(i:Nat) (t:TypeId) (d:DataW H),fn.params.toList[i]? = some t->ds[i]? = some d->M t d) :
  Calls Tryz.prog f args W λe W'=>∃v,e = .returned v/\s.post enc Tryz.prog fn false true false false W args v W':=by
 have hW':=hW;have hlt:=hW.lt;obtain⟨p,q,hA,hV,rfl,hfz,hnd⟩:=hW;rw[hv] at hV;obtain⟨rfl,rfl⟩:=trodVars_none hV;have hlen:=Aw9 hA;obtain⟨x,hx,hsm⟩:=Av5 hM (λt=>Axk Aia t) Bqr Brv 0 hsg (λj t v h1 h2=>hval j t v (by simpa using h1) (by simpa using h2)) hA;have hcall:=hok.calls (hF x (Ys hx) (hsm (hsz hlen))) hgl hx;have e1:args.toList.toArray=args:=by simp
 rw[e1] at hcall;refine hcall.mono λen W' =>?_;rintro⟨rfl,hb⟩;refine⟨_,rfl,?_⟩;obtain⟨h1,h2,h3⟩:=hf ds hlen;have e2:ds++([]:List (DataW H))=ds:=by simp
 refine⟨ds,[],_,[],p,[],hW',?_,?_,?_,hb.frame _,λh=>by cases h⟩
 ·rw[e2,h1,hr];exact trodAll_cons_mk (shut_bool Tryz.underlying4 _) trodAll_mk0
 ·rw[e2,h2];refine Apx Bo2 hb (λt ht =>?_) (λx hx=>hlt x (by simp[hx])) hA;have:=Zg2.1 hread t ht;simp at this;exact⟨this.1,by simpa using this.2⟩
 ·rw[e2,h3,hv];exact rfl
end Go.Proofs.YtblaahgjaopdnaaGreatDoor
