/- Texts of the proof,one behind the other: AxFr,Mu,Tl,Tm,Ye,Rq,Ub,AxFs,FrG. -/
import Derived.Test.YthndhaolemgbdaaGreatDoorW7
import Derived.ChangeArms
import Derived.WideShapes
import Derived.Carry
import Derived.ChangeShapes
import Derived.Lib.LaidTab
import Derived.SizedLaws
import Derived.Test.YthndhaolemgbdaaGreatDoorRows
import Derived.ProofKit
import Derived.ChangeMaps5
import Derived.ChangeAnyMap
import Derived.Test.YthndhaolemgbdaaGreatDoorCards
import Derived.Test.YthndhaolemgbdaaGreatDoorTie
import Derived.OpenShut
import Derived.Deep.DeepHandedRow
import Derived.Shelf.Vars
set_option linter.all false
namespace Go.Ax
open Go.RowKit Go.ChangeShapes
def shp:D->D->Bool
 |.int k _,.int k' _=>decide (k=k')
 |.bool _,.bool _=>true
 |.str _,.str _=>true
 |.sl c _ _,.sl c' _ _=>decide (c=c')
 |_,_=>false
def Kb:List D->List D->Bool
 |[],[]=>true
 |a::l,b::m=>shp a b&&Kb l m
 |_,_=>false
theorem Boa{a b c:D}(h:shp a b=true)(k:shp a c=true):shp b c=true:=by cases a<;>cases b<;>simp[shp] at h<;>cases c<;>simp[shp] at k<;>subst_vars<;>simp[shp]
theorem A4u:∀{a b c:List D},Kb a b=true->Kb a c=true->Kb b c=true
 |[],[],[],_,_=>rfl
 |x::a,y::b,z::c,h,k=>by simp only[Kb,Zb1] at h k ⊢;exact⟨Boa h.1 k.1,A4u h.2 k.2⟩
 |[],_::_,_,h,_=>by simp[Kb] at h
 |_::_,[],_,h,_=>by simp[Kb] at h
 |[],[],_::_,_,k=>by simp[Kb] at k
 |_::_,_::_,[],_,k=>by simp[Kb] at k
theorem Aer:∀{a b c d:List D},Kb a b=true->Kb c d=true->Kb (a++c) (b++d)=true
 |[],[],_,_,_,k=>k
 |_::a,_::b,_,_,h,k=>by simp only[Kb,Zb1,Zb2] at h ⊢;exact⟨h.1,Aer h.2 k⟩
 |[],_::_,_,_,h,_=>by simp[Kb] at h
 |_::_,[],_,_,h,_=>by simp[Kb] at h
theorem A6e{k:IntKind}{n:Int}{d:D}(h:shp (.int k n) d=true):∃m,d = .int k m:=by
 cases d<;>simp[shp] at h
 subst h;exact⟨_,rfl⟩
theorem Bb0{b:Bool}{d:D}(h:shp (.bool b) d=true):∃m,d = .bool m:=by
 cases d<;>simp[shp] at h
 exact⟨_,rfl⟩
theorem A22{s:Str}{d:D}(h:shp (.str s) d=true):∃m,d = .str m:=by
 cases d<;>simp[shp] at h
 exact⟨_,rfl⟩
theorem Bej{c:Ck}{xs:List (El c)}{t:Tk}{d:D}(h:shp (.sl c xs t) d=true):∃ys u,d = .sl c ys u:=by
 cases d<;>simp[shp] at h
 subst h;exact⟨_,_,rfl⟩
theorem Vr{a:D}{l ds:List D}(h:Kb (a::l) ds=true):∃b m,ds=b::m/\shp a b=true/\Kb l m=true:=by cases ds with|nil=>simp[Kb] at h|cons b m =>simp only[Kb,Zb1] at h;exact⟨b,m,rfl,h.1,h.2⟩
theorem Zl{ds:List D}(h:Kb [] ds=true):ds=[]:=by cases ds with|nil=>rfl|cons b m=>simp[Kb] at h
theorem Ang{c:Ck}{z ds:List D}(h:(dec c z).isSome=true)(hs:Kb z ds=true):∃y,dec c ds=some y:=by
 obtain⟨y0,h⟩:=Option.isSome_iff_exists.1 h;unfold dec at h;split at h;all_goals first
  |(cases h;done)
  |skip
 all_goals
  clear h
  repeat (
   obtain⟨b,m,e,h1,hs'⟩:=Vr hs;clear hs;have hs:=hs';clear hs';subst e
   first
    |(obtain⟨_,e⟩:=A6e h1;subst e)
    |(obtain⟨_,e⟩:=Bb0 h1;subst e)
    |(obtain⟨_,e⟩:=A22 h1;subst e)
    |(obtain⟨_,_,e⟩:=Bej h1;subst e))
  have e:=Zl hs;subst e;exact⟨_,rfl⟩
def R47:Nat:=140737488351232
def An1(R:Nat×Nat)(v:Val):Prop:=v.s.length<=R.1
inductive SmExpr (R:Nat×Nat):Xpr->Prop
 |mk (k:Int) (v:Val) (nm:Str) (l:List Xpr):An1 R v->nm.length<=R.1->l.length<=R.2->(∀e,e∈l->SmExpr R e)->SmExpr R (.mk k v nm l)
structure SmStm (R:Nat×Nat) (s:Stm):Prop where
 name:s.name.length<=R.1
 on:s.on.length<=R.1
 cols:s.cols.length<=R.2/\∀c,c∈s.cols->c.name.length<=R.1/\c.ref.length<=R.1
 names:s.names.length<=R.2/\∀x,x∈s.names->x.length<=R.1
 l:s.l.length<=R.2/\∀x,x∈s.l->SmExpr R x
 rows:s.rows.length<=R.2/\∀r,r∈s.rows->r.length<=R.2/\∀x,x∈r->SmExpr R x
 sets:s.sets.length<=R.2/\∀x,x∈s.sets->x.name.length<=R.1/\SmExpr R x.e
 whr:SmExpr R s.whr
 order:s.order.length<=R.2/\∀x,x∈s.order->x.length<=R.1
 desc:s.desc.length<=R.2
def Bl1(R:Nat×Nat)(x:Idx):Prop:=x.name.length<=R.1/\x.cols.length<=R.2/\∀s,s∈x.cols->s.length<=R.1
structure SmTbl (R:Nat×Nat) (t:Tbl):Prop where
 name:t.name.length<=R.1
 cols:t.cols.length<=R.2/\∀c,c∈t.cols->c.name.length<=R.1/\c.ref.length<=R.1
 key:t.key.length<=R.2/\∀x,x∈t.key->x.length<=R.1
 checks:t.checks.length<=R.2/\∀x,x∈t.checks->SmExpr R x
 idx:t.idx.length<=R.2/\∀x,x∈t.idx->Bl1 R x
def SmK(R:Nat×Nat):(c:Ck)->El c->Prop
 |.str,s=>s.length<=R.1
 |.val,v=>An1 R v
 |.tok,t=>t.s.length<=R.1
 |.col,c=>c.name.length<=R.1/\c.ref.length<=R.1
 |.expr,e=>SmExpr R e
 |.vals,l=>l.length<=R.2/\∀x,x∈l->An1 R x
 |.exprs,l=>l.length<=R.2/\∀x,x∈l->SmExpr R x
 |.strs,l=>l.length<=R.2/\∀x,x∈l->x.length<=R.1
 |.set,s=>s.name.length<=R.1/\SmExpr R s.e
 |.stmt,s=>SmStm R s
 |.idx,x=>Bl1 R x
 |.tbl,t=>SmTbl R t
 |_,_=>True
def SmD(R:Nat×Nat):D->Prop
 |.str l=>l.length<=R.1
 |.sl c xs _=>xs.length<=R.2/\∀x,x∈xs->SmK R c x
 |_=>True
def SmS(R:Nat×Nat):(s:Sg)->den s->Prop
 |.str,s=>s.length<=R.1
 |.sl c _,xs=>xs.length<=R.2/\∀x,x∈xs->SmK R c x
 |.sv c,x=>SmK R c x
 |_,_=>True
def SmL(R:Nat×Nat):(l:List Sg)->HV l->Prop
 |[],_=>True
 |[a],x=>SmS R a x
 |a::b::l,(x,y)=>SmS R a x/\SmL R (b::l) y
theorem Bdz{R:Nat×Nat}{c:Ck}{ds:List D}{y:El c}(h:dec c ds=some y)(hd:∀d,d∈ds->SmD R d):SmK R c y:=by
 unfold dec at h;split at h<;>simp only[Za1,reduceCtorEq] at h<;>subst h<;>simp only[List.mem_cons,List.not_mem_nil,or_false,forall_eq_or_imp,forall_eq,SmD] at hd<;>simp only[SmK,An1]<;>first
  |trivial
  |exact hd
  |exact hd.2.2
  |exact hd.2.2.1
  |exact⟨hd.1,hd.2.2.2.2⟩
  |exact .mk _ _ _ _ hd.2.2.2.1 hd.2.2.2.2.1 hd.2.2.2.2.2.1 hd.2.2.2.2.2.2
  |exact⟨hd.1,.mk _ _ _ _ hd.2.2.2.2.1 hd.2.2.2.2.2.1 hd.2.2.2.2.2.2.1 hd.2.2.2.2.2.2.2⟩
  |exact⟨hd.1,hd.2.1,hd.2.2.1,hd.2.2.2.1,hd.2.2.2.2⟩
  |(obtain⟨_,h1,h2,h3,h4,h5,h6,h7,_,_,_,_,w1,w2,w3,h8,h9,_⟩:=hd
    exact⟨h1,h2,h3,h4,h5,h6,h7,.mk _ _ _ _ w1 w2 w3.1 w3.2,h8,h9.1⟩)
theorem Ww{H:Type}{P:Program}{e:TypeId}:∀{l:List (DataW H)}{d:DataW H},d∈l->∀n∈d.weights P e,n∈DataW.weightsAll P e l
 |[],_,h,_,_=>by cases h
 |x::l,d,h,n,hn=>by
  simp only[DataW.weightsAll,List.mem_append];rcases List.mem_cons.1 h with rfl|h
  ·exact .inl hn
  ·exact .inr (Ww h n hn)
structure Msr {H:Type}(P:Program) (R:Nat×Nat) (M:TypeId->DataW H->Prop):Prop where
 str:∀(t:TypeId) (s:List UInt8),M t (.lit (.string s))->s.length<=R.1
 sl:∀(t e:TypeId) (l r:List (DataW H)),P.underlying t=some (.slice e)->1<=P.bytesOf e->M t (.slice l r)->l.length<=9223372036854775807->l.length<=R.2/\∀d,d∈l->M e d
 agg:∀(t:TypeId) (fds:Array Field) (l:List (DataW H)) (i:Nat) (fd:Field) (d:DataW H),P.underlying t=some (.struct fds)->M t (.agg l)->fds[i]? = some fd->l[i]? = some d->M fd.type d
theorem Aw2{H:Type}(P:Program):Msr (H:=H) P (R47,R47) λt d=>∀n,n∈d.weights P t->n<=R47 where
 str:=λt s h=>h _ (by simp[DataW.weights])
 sl:=λt e l r hu hz h _=>⟨by
  have h1:=h ((l.length+r.length)*P.bytesOf e) (by simp only[DataW.weights,hu,List.mem_cons,true_or]);have h2:(l.length+r.length)*1<=(l.length+r.length)*P.bytesOf e:=Nat.mul_le_mul_left _ hz;omega,λd hd n hn=>h n (by
  simp only[DataW.weights,hu,List.mem_cons,List.mem_append];exact .inr (.inl (Ww hd n hn)))⟩
 agg:=λt fds l i fd d hu h hf hd n hn=>h n (by simp only[DataW.weights,hu];exact DataW.weights_mem_each (j:=i) (t:=fd.type) (d:=d) (by simp[hf]) hd n hn)
def zc(t:Ty):List D:=match t.zero with|some z=>cells z|none=>[]
def Aj2(tt:Nat->Ty)(rd:List Nat):Nat->List (Nat×Nat)->List D->Bool
 |_,[],z=>z.isEmpty
 |o,(o',u)::fs,z=>Nat.beq o' o&&rd.contains u&&Nat.ble (zc (tt u)).length z.length&&Kb (zc (tt u)) (z.take (zc (tt u)).length)&&Aj2 tt rd (o+(zc (tt u)).length) fs (z.drop (zc (tt u)).length)
def Bhr(el:Ck->TypeId)(tt:Nat->Ty)(rd:List Nat)(t:Nat):Bool:=match tt t with|.int _|.bool|.str=>true|.sl c=>rd.contains (el c)&&(dec c (zc (tt (el c)))).isSome|.st _ fs z=>Aj2 tt rd 0 fs z|_=>false
def rdB(el:Ck->TypeId)(tt:Nat->Ty)(rd:List Nat):Bool:=rd.all λt=>Bhr el tt rd t&&Nat.beq (zc (tt t)).length (tt t).n
def szB(P:Program)(el:Ck->TypeId)(tt:Nat->Ty)(rd:List Nat):Bool:=rd.all λt=>match tt t with|.sl c=>Nat.ble 1 (P.bytesOf (el c))|_=>true
theorem Afk{α:Type}{p:Nat->α->Prop}:∀(n:Nat),(∀i,i<n->∃y,p i y)->∃ys:List α,ys.length=n/\∀i y,ys[i]? = some y->p i y
 |0,_=>⟨[],rfl,by simp⟩
 |n+1,h=>by
  obtain⟨ys,h1,h2⟩:=Afk n (λi hi=>h i (by omega));obtain⟨y,hy⟩:=h n (by omega);refine⟨ys++[y],by simp[h1],λi z hz =>?_⟩;rcases Nat.lt_trichotomy i n with hi|rfl|hi
  ·rw[List.getElem?_append_left (by omega)] at hz;exact h2 i z hz
  ·rw[List.getElem?_append_right (by omega),h1] at hz;simp at hz;subst hz;exact hy
  ·rw[List.getElem?_eq_none (by simp;omega)] at hz;cases hz
section
variable {H:Type}{enc':TypeId×Value->H}{P:Program}{el:Ck->TypeId}{tt:Nat->Ty}{rd:List Nat}{w:World}{sp:Nat->Bool}{held:Bool}
theorem Xt{t:TypeId}{n:Nat}(h:Sx.tySz P t=some n):P.cellsOf t=n:=by unfold Sx.tySz at h;simp[Program.cellsOf,h]
theorem Alb{a:Addr}{n:Nat}{vs:List Value}(h:w.cells? 0 a n=some vs):vs.length=n/\∀j u,vs[j]? = some u->w.cell? (a.add j)=some u:=by
 unfold World.cells? at h;simp only[Nat.zero_le,if_true] at h;refine⟨by simpa using Lib.mapM_length h,λj u hj =>?_⟩;have hlt:j<n:=by have:=Lib.mapM_length h;have h2:=(Zi2.1 hj).1;simp at this;omega
 obtain⟨u',hu,hf⟩:=Lib.mapM_at h j j (by simp[hlt]);rw[hj] at hu;simp only[Za1] at hu;subst hu;exact hf
theorem Azy{a:Addr}{u:Value}(h:w.cell? a=some u):a.spot=none:=by
 unfold World.cell? at h;split at h
 ·split at h
  ·cases h
  ·rename_i hs;cases hq:a.spot with|none=>rfl|some q=>rw[hq] at hs;simp at hs
 ·cases h
theorem Aqw{R:Nat×Nat}{M:TypeId->DataW H->Prop}(hM:Msr P R M)(hT:∀t,Ds P el tt t=true)(hrd:rdB el tt rd=true)(hsb:szB P el tt rd=true):∀(fuel:Nat) (t:TypeId) (cs:List Value) (x:DataW H×List MemPlace),rd.contains t=true->DataW.trod enc' P w 0 sp held fuel t cs=some x->∃ds,Kb (zc (tt t)) ds=true/\Reps (v0 el Ga w) ds cs/\(M t x.1->∀d,d∈ds->SmD R d)
 |0,t,cs,x,_,h=>by simp[DataW.trod] at h
 |fuel+1,t,cs,x,hc,h=>by
  have hloc:=Zg2.1 hrd t (by simpa using hc);simp only[Zb1] at hloc;obtain⟨hloc,hzl⟩:=hloc;have hzl:=Zl1 hzl;have hszB:=Zg2.1 hsb t (by simpa using hc);unfold Bhr at hloc;split at hloc
  ·rename_i k hty;have hu:=Sx.tyI_spec (Aj7 (hT t) hty);obtain⟨n,rfl,_,hw⟩:=DataW.trod_int hu h;refine⟨[.int k n],by(rw[hty];show(decide (k=k)&&true)=true;simp),?_,λ_ d hd=>by simp only[List.mem_singleton] at hd;subst hd;trivial⟩;simp only[Reps,Rep];exact⟨_,_,rfl,⟨rfl,hw⟩,rfl⟩
  ·rename_i hty;have hu:=Sx.tyB_spec (Acy (hT t) hty);obtain⟨b,rfl,_⟩:=DataW.trod_bool hu h;refine⟨[.bool b],by rw[hty];rfl,?_,λ_ d hd=>by simp only[List.mem_singleton] at hd;subst hd;trivial⟩;simp only[Reps,Rep];exact⟨_,_,rfl,rfl,rfl⟩
  ·rename_i hty;have hu:=Sx.tyS_spec (Ip (hT t) hty);obtain⟨s,rfl,rfl,hs⟩:=DataW.trod_string hu h;refine⟨[.str s.data.toList],by rw[hty];rfl,?_,λhwt d hd=>by simp only[List.mem_singleton] at hd;subst hd;exact hM.str _ _ hwt⟩
   simp only[Reps,Rep];exact⟨_,_,rfl,⟨(by rw[Array.toArray_toList]),(by rw[Array.length_toList];exact hs)⟩,rfl⟩
  ·rename_i c hty;simp only[Zb1] at hloc;obtain⟨hel,hdec⟩:=hloc;have hbz : 1<=P.bytesOf (el c):=by rw[hty] at hszB;exact Nat.le_of_ble_eq_true hszB
   obtain⟨by_,hE,_,_⟩:=Ea (hT t) hty;have hu:=hE.und;obtain⟨_,i0,z,hi0,hz,hsz,_⟩:=hE;have hco:P.cellsOf (el c)=csz c:=Xt (by simp[Sx.tySz,hi0,hsz]);rcases DataW.trod_slice hu h with ⟨rfl,_⟩|⟨a,len,cap,elems,rest,n,hf,rfl,rfl,_,hle,hmax,hlen,hel2,_⟩
   ·refine⟨[.sl c [] .no],by(rw[hty];show(decide (c=c)&&true)=true;simp),?_,λ_ d hd=>by simp only[List.mem_singleton] at hd;subst hd;exact⟨Nat.zero_le _,λx hx=>by cases hx⟩⟩
    simp only[Reps,Rep];exact⟨_,_,rfl,⟨λ_ _ =>.nil _ _ _ _,trivial⟩,rfl⟩
   ·have hf:fuel=n:=by omega
    subst hf;have each:∀i,i<len->∃y:El c,(∃vs:List Value,w.cells? 0 (a.add (i*csz c)) (csz c)=some vs/\ElR (v0 el Ga w) c y vs)/\(M t (DataW.slice (elems.map (·.1)) (rest.map (·.1)))->SmK R c y):=λi hi=>by have h1:=hel2 i hi;have hsome:∃e,elems[i]? = some e:=⟨_,Zo1 (by omega)⟩;obtain⟨e,he⟩:=hsome;rw[he] at h1;obtain⟨vs,hv,ht⟩:=Option.bind_eq_some_iff.1 h1;rw[hco] at hv;obtain⟨ds,hs,hr,hsm⟩:=Aqw hM hT hrd hsb fuel (el c) vs e hel ht;obtain⟨y,hy⟩:=Ang hdec hs;exact⟨y,⟨vs,hv,Up hy hr⟩,λhwt=>Bdz hy (hsm ((hM.sl _ _ _ _ hu hbz hwt (by have:maxLen=9223372036854775807:=rfl;simp only[List.length_map];omega)).2 e.1 (List.mem_map.2 ⟨e,List.mem_of_getElem? he,rfl⟩)))⟩
    obtain⟨ys,hyl,hys'⟩:=Afk len each;have hys:=λi y hy=>(hys' i y hy).1;refine⟨[.sl c ys .no],by(rw[hty];show(decide (c=c)&&true)=true;simp),?_,λhwt d hd=>by
     simp only[List.mem_singleton] at hd;subst hd;refine⟨?_,λy hy =>?_⟩
     ·have:=(hM.sl _ _ _ _ hu hbz hwt (by have:maxLen=9223372036854775807:=rfl;simp only[List.length_map];omega)).1;simp only[List.length_map] at this;omega
     ·obtain⟨i,hi,rfl⟩:=List.getElem_of_mem hy;exact(hys' i _ (Zo1 hi)).2 hwt⟩
    simp only[Reps,Rep];refine⟨_,_,rfl,⟨Ot hyl.symm ?_,trivial⟩,rfl⟩;by_cases h0:ys=[]
    ·exact .inl h0
    ·right;have hsn:a.spot=none:=by have hlt : 0<ys.length:=List.length_pos_iff.2 h0;obtain⟨vs,hv,hE⟩:=hys 0 _ (Zo1 hlt);obtain⟨h1,h2⟩:=Alb hv;have hp:=Aqq c;have:=h2 0 _ (Zo1 (by omega));simp only[Nat.zero_mul,Addr.add,if_true] at this;exact Azy this
     obtain⟨b,o,s⟩:=a;simp only at hsn;subst hsn;refine⟨b,o,rfl,⟨by omega,hmax⟩,λi y hy w' hw j d hd =>?_⟩;obtain⟨vs,hv,hE⟩:=hys i y hy;obtain⟨_,h2⟩:=Alb hv;obtain⟨u,hu',hf⟩:=hE.2 j d hd;have hcell:=h2 j u hu';rw[Sx.add_mk,Sx.add_mk] at hcell;exact⟨u,hw.cell b _ u hcell (λh=>h),hf w' hw⟩
  ·rename_i cc fs z hty;have hbase:=Eo (hT t) (by rw[hty];simp);have hsz:P.cellsOf t=z.length:=by have:=Xt hbase.2.2;rw[this,hty];rfl
   have hok:=hT t;unfold Ds at hok;rw[hty] at hok;simp only[Zb1] at hok;have hfl:=hok.2;split at hfl
   ·rename_i fds hu;simp only[Zb1] at hfl;have hfl:=hfl.1;obtain⟨xs,n,hf,rfl,hcl,hxl,hfx⟩:=DataW.trod_struct hu h;have hf:fuel=n:=by omega
    subst hf;have key:∀(l:List (Nat×Nat)) (i o:Nat) (z':List D),fs.drop i=l->Aj2 tt rd o l z' = true->o+z'.length=cs.length->∃ds,Kb z' ds=true/\Reps (v0 el Ga w) ds (cs.drop o)/\(M t (DataW.agg (xs.map (·.1)))->∀d,d∈ds->SmD R d):=by
     intro l;induction l with
     |nil =>intro i o z' _ hct ho;simp only[Aj2,List.isEmpty_iff] at hct;subst hct;refine⟨[],rfl,?_,λ_ d hd=>by cases hd⟩;rw[Zk1 (by simp at ho;omega)];simp[Reps]
     |cons q l ih =>
      intro i o z' hd hct ho;obtain⟨o',u⟩:=q;simp only[Aj2,Zb1] at hct;obtain⟨⟨⟨⟨ho',hcu⟩,hle⟩,hsh⟩,hct⟩:=hct;have ho':=Zl1 ho';subst ho';have hle:=Nat.le_of_ble_eq_true hle;have hget:fs[i]? = some (o',u):=by have:=congrArg (·[0]?) hd;simpa[List.getElem?_drop] using this
      obtain⟨fd,g1,g2,g3,_⟩:=Adr hfl hget;have g1':fds[i]? = some fd:=by simpa using g1
      have h1:=hfx i fd g1';rw[g2,g3] at h1;have hxi:∃e,xs[i]? = some e:=⟨_,Zo1 (by have:=(Zh2.1 g1').1;omega)⟩
      obtain⟨e,he⟩:=hxi;rw[he] at h1;have hlu:=Zg2.1 hrd u (by simpa using hcu);simp only[Zb1] at hlu;have hnu:=Zl1 hlu.2;have hneu:tt u ≠ .no:=by intro e;have:=hlu.1;unfold Bhr at this;rw[e] at this;cases this
      have hcou:P.cellsOf u=(zc (tt u)).length:=by rw[Xt (Eo (hT u) hneu).2.2,hnu]
      rw[hcou] at h1;obtain⟨ds1,s1,r1,m1⟩:=Aqw hM hT hrd hsb fuel u _ e hcu h1;obtain⟨ds2,s2,r2,m2⟩:=ih (i+1) (o'+(zc (tt u)).length) _ (by rw[<-List.drop_drop,hd];rfl) hct (by simp;omega);refine⟨ds1++ds2,?_,?_,λhwt d hd=>by
       rcases List.mem_append.1 hd with hd|hd
       ·refine m1 ?_ d hd;rw[<-g2];exact hM.agg _ _ _ i fd e.1 hu hwt g1' (by rw[List.getElem?_map,he];rfl)
       ·exact m2 hwt d hd⟩
      ·rw[<-List.take_append_drop (zc (tt u)).length z'];exact Aer (A4u hsh s1) s2
      ·have:=r1.append r2;rwa[<-List.drop_drop,List.take_append_drop] at this
    obtain⟨ds,h1,h2,h3⟩:=key fs 0 0 z rfl hloc (by rw[hcl,hsz];omega);exact⟨ds,by simpa[hty,zc,Ty.zero,cells] using h1,by simpa using h2,h3⟩
   ·cases hfl
  ·cases hloc
def Bij(tt:Nat->Ty)(rd:List Nat)(t:Nat)(s:Sg):Bool:=rd.contains t&&match tt t,s with|.int k,.int k'=>decide (k=k')|.bool,.bool=>true|.str,.str=>true|.sl c,.sl c' false=>decide (c=c')|.st (some c) _ _,.sv c'=>decide (c=c')&&agg? c&&(dec c (zc (tt t))).isSome|_,_=>false
theorem Bj3{R:Nat×Nat}{M:TypeId->DataW H->Prop}(hM:Msr P R M)(hT:∀t,Ds P el tt t=true)(hrd:rdB el tt rd=true)(hsb:szB P el tt rd=true){t:TypeId}{s:Sg}(hs:Bij tt rd t s=true){r:Reach}{b0:Nat}{v:Value}{d:DataW H}{ps:List MemPlace}(hval:Value.okWide P w r b0 t v)(h:DataW.Trod enc' P w 0 sp held t v d ps)(i:Nat):∃y:den s,Rep (v0 el Ga w) (Dr i s y) v/\(M t d->SmS R s y):=by
 obtain⟨fuel,h⟩:=h;simp only[Bij,Zb1] at hs;obtain⟨hc,hs⟩:=hs;obtain⟨ds,hsh,hr,hsm⟩:=Aqw hM hT hrd hsb fuel t _ _ hc h;have hsm:M t d->∀d,d∈ds->SmD R d:=hsm;split at hs
 ·rename_i k k' hty;simp only[Zg1] at hs;subst hs;obtain⟨n,rfl⟩:=WideShapes.okWide_int (Sx.tyI_spec (Aj7 (hT t) hty)) hval;simp only[hty,zc,Ty.zero,cells] at hsh;obtain⟨b,m,rfl,h1,h2⟩:=Vr hsh;obtain rfl:=Zl h2;obtain⟨n',rfl⟩:=A6e h1;simp only[Value.cells,Reps] at hr;obtain⟨u,us,e,hr,_⟩:=hr;simp only[Ze2] at e;obtain⟨rfl,_⟩:=e;exact⟨n',hr,λ_=>trivial⟩
 ·rename_i hty;obtain⟨n,rfl⟩:=WideShapes.okWide_bool (Sx.tyB_spec (Acy (hT t) hty)) hval;exact⟨n,by simp only[Dr,Rep],λ_=>trivial⟩
 ·rename_i hty;obtain⟨n,rfl⟩:=WideShapes.okWide_string (Sx.tyS_spec (Ip (hT t) hty)) hval;simp only[hty,zc,Ty.zero,cells] at hsh;obtain⟨b,m,rfl,h1,h2⟩:=Vr hsh;obtain rfl:=Zl h2;obtain⟨n',rfl⟩:=A22 h1;simp only[Value.cells,Reps] at hr;obtain⟨u,us,e,hr,_⟩:=hr;simp only[Ze2] at e;obtain⟨rfl,_⟩:=e;exact⟨n',hr,λhwt=>hsm hwt (.str n') (by simp)⟩
 ·rename_i c c' hty;simp only[Zg1] at hs;subst hs;obtain⟨by_,hE,_,_⟩:=Ea (hT t) hty;have hv:v.cells.toList=[v]:=by have hu:=hE.und;simp only[Value.okWide,hu,Cell.okWide] at hval;cases v<;>first|rfl|(simp[Cell.ok,hu] at hval;done)|(exfalso;simp_all [Cell.ok])
  rw[hv] at hr;simp only[hty,zc,Ty.zero,cells] at hsh;obtain⟨b,m,rfl,h1,h2⟩:=Vr hsh;obtain rfl:=Zl h2;obtain⟨ys,u,rfl⟩:=Bej h1;simp only[Reps] at hr;obtain⟨u',us,e,hr,_⟩:=hr;simp only[Ze2] at e;obtain⟨rfl,_⟩:=e;refine⟨ys,?_,λhwt=>hsm hwt (.sl c ys u) (by simp)⟩;simp only[Dr,Rep] at hr ⊢;exact⟨hr.1,trivial⟩
 ·rename_i c fs z c' hty;simp only[Zb1,Zg1] at hs;obtain⟨⟨rfl,ha⟩,hdec⟩:=hs;obtain⟨y,hy⟩:=Ang hdec hsh;have hE:=Up hy hr;have hv:∃cs,v = .agg cs:=by
   have hok:=hT t;unfold Ds at hok;rw[hty] at hok;simp only[Zb1] at hok;have hfl:=hok.2;split at hfl
   ·rename_i fds hu;simp only[Value.okWide,hu] at hval;obtain⟨cs,h1,_⟩:=hval;exact⟨cs,h1⟩
   ·cases hfl
  obtain⟨cs,rfl⟩:=hv;refine⟨y,?_,λhwt=>Bdz hy (hsm hwt)⟩;simp only[Dr,Rep];exact⟨ha,cs.toList,by simp,by simpa[Value.cells] using hE.1,by simpa[Value.cells] using hE.2⟩
 ·cases hs
def Apf(tt:Nat->Ty)(rd:List Nat):List TypeId->List Sg->Bool
 |[],[]=>true
 |t::ts,s::ss=>Bij tt rd t s&&Apf tt rd ts ss
 |_,_=>false
theorem Ava{R:Nat×Nat}{M:TypeId->DataW H->Prop}(hM:Msr P R M)(hT:∀t,Ds P el tt t=true)(hrd:rdB el tt rd=true)(hsb:szB P el tt rd=true){r:Reach}{b0:Nat}:∀{ts:List TypeId}{sa:List Sg}{vs:List Value}{ds:List (DataW H)}{ps:List MemPlace}(i:Nat),Apf tt rd ts sa=true->(∀(j:Nat) t v,ts[j]? = some t->vs[j]? = some v->Value.okWide P w r b0 t v)->DataW.TrodAll enc' P w 0 sp held ts vs ds ps->∃x:HV sa,Reps (v0 el Ga w) (Cs i sa x) vs/\((∀(i:Nat) (t:TypeId) (d:DataW H),ts[i]? = some t->ds[i]? = some d->M t d)->SmL R sa x)
 |[],[],vs,ds,ps,i,_,_,h=>by cases vs with|nil=>exact⟨(),by simp[Cs,Reps],λ_=>trivial⟩|cons v vs=>cases ds<;>simp[DataW.TrodAll] at h
 |t::ts,[],_,_,_,_,hs,_,_=>by simp[Apf] at hs
 |[],s::ss,_,_,_,_,hs,_,_=>by simp[Apf] at hs
 |t::ts,s::ss,vs,ds,ps,i,hs,hval,h=>by simp only[Apf,Zb1] at hs;obtain⟨v,vs',d,ds',p,q,rfl,rfl,rfl,hd,hrest⟩:=trodAll_cons h;obtain⟨y,hy,hsy⟩:=Bj3 hM hT hrd hsb hs.1 (hval 0 t v rfl rfl) hd i;obtain⟨z,hz,hsz⟩:=Ava hM hT hrd hsb (i+1) hs.2 (λj t' v' h1 h2=>hval (j+1) t' v' (by simpa using h1) (by simpa using h2)) hrest;cases ss with|nil =>refine⟨y,?_,λhwt=>hsy (hwt 0 t d rfl rfl)⟩;simp only[Cs,Reps] at hz ⊢;exact⟨v,vs',rfl,hy,hz⟩|cons s' ss =>refine⟨(y,z),?_,λhwt=>⟨hsy (hwt 0 t d rfl rfl),hsz λj t' d' h1 h2=>hwt (j+1) t' d' (by simpa using h1) (by simpa using h2)⟩⟩;simp only[Cs,Reps];exact⟨v,vs',rfl,hy,hz⟩
theorem Aqc(hl:laidOutB P=true){W W':World}(hb:Below W.heap.size W W'):∀{ts:List TypeId}{vs:List Value}{ds:List (DataW H)}{ps:List MemPlace},(∀t,t∈ts->P.readableRec t=true/\t<P.types.size)->(∀x∈ps,x.block<W.heap.size)->DataW.TrodAll enc' P W 0 (λ_=>true) true ts vs ds ps->DataW.TrodAll enc' P W' 0 (λb=>decide (b<W.heap.size)) true ts vs ds ps
 |[],vs,ds,ps,_,_,h=>by
  cases vs<;>cases ds<;>simp[DataW.TrodAll] at h ⊢
  exact h
 |t::ts,vs,ds,ps,ht,hlt,h=>by obtain⟨v,vs',d,ds',p,q,rfl,rfl,rfl,hd,hrest⟩:=trodAll_cons h;obtain⟨h1,h2⟩:=ht t (by simp);exact⟨p,q,Below.trod hl h1 h2 hd hb (λx hx=>hlt x (by simp[hx])),Aqc hl hb (λt' h'=>ht t' (by simp[h'])) (λx hx=>hlt x (by simp[hx])) hrest,rfl⟩
end
end Go.Ax
namespace Go.Proofs.YthndhaolemgbdaaGreatDoor
open Go.Ax
def B0:Int:=20000000000000
mutual
theorem Ox{R:Nat×Nat}(hR:R.1<=R47):∀(n:Nat) (e:Xpr) (most:Int),Bf e<=n->SmExpr R e->1<=most->most<=600->1<=Cq e most/\Cq e most<=most+B0/\(Cq e most<most->(Bf e:Int)<=2*Cq e most-1)
 |0,e,_,h,_,_,_=>by have:=F4 e;omega
 |n+1,.mk k v nm l,most,h,hs,h1,h4=>by
  cases hs with
  |mk _ _ _ _ s1 s2 _ s3 =>
   simp only[An1,R47] at s1 s2 hR;have e1:wr .i64 ((v.s.length:Int)+(nm.length:Int))=((v.s.length+nm.length:Nat):Int):=by rw[Bi (by simp only[inI];omega)];omega
   have e2:Int.tdiv ((v.s.length+nm.length:Nat):Int) 30=(((v.s.length+nm.length) / 30:Nat):Int):=rfl;have e3:wr .i64 (((v.s.length+nm.length) / 30:Nat):Int)=(((v.s.length+nm.length) / 30:Nat):Int):=Bi (by simp only[inI];omega);have e4:wr .i64 (1+(((v.s.length+nm.length) / 30:Nat):Int))=1+(((v.s.length+nm.length) / 30:Nat):Int):=Bi (by simp only[inI];omega);have hz:Bf (.mk k v nm l)=1+esizes l:=Iy _;simp only[Cq,e1,e2,e3,e4];obtain⟨q1,q2,q3⟩:=muchL_size hR n l most (1+(((v.s.length+nm.length) / 30:Nat):Int)) (by omega) s3 h4 (by omega) (by simp only[B0];omega);exact⟨by omega,q2,λh=>by have:=q3 h;omega⟩
theorem muchL_size{R:Nat×Nat}(hR:R.1<=R47):∀(n:Nat) (l:List Xpr) (most m:Int),esizes l<=n->(∀x,x∈l->SmExpr R x)->most<=600->1<=m->m<=most+B0->m<=muchL l most m/\muchL l most m<=most+B0/\(muchL l most m<most->2*m+(esizes l:Int)<=2*muchL l most m)
 |n,[],most,m,_,_,_,h1,h2=>by simp only[muchL,esizes];omega
 |n,x::l,most,m,h,hs,h4,h1,h2=>by
  simp only[muchL];by_cases hm:m<most
  ·rw[Ze1 hm,Ae];have hx:=F4 x;simp only[esizes] at h;have w1:wr .i64 (most-m)=most-m:=Bi (by simp only[inI];omega);obtain⟨a1,a2,a3⟩:=Ox hR n x (most-m) (by omega) (hs x (.head _)) (by omega) (by omega);have w2:wr .i64 (m+Cq x (most-m))=m+Cq x (most-m):=Bi (by simp only[inI,B0] at *;omega);obtain⟨b1,b2,b3⟩:=muchL_size hR n l most (m+Cq x (most-m)) (by omega) (λy hy=>hs y (.tail _ hy)) h4 (by omega) (by omega);rw[w1,w2];refine⟨by omega,b2,λhlt =>?_⟩;have c1:=b3 hlt;have c2:=a3 (by omega);simp only[esizes];omega
  ·rw[Zd1 hm,Ah];exact⟨Int.le_refl _,h2,λh=>absurd h hm⟩
end
def bare(l:List Xpr):Xpr :=.mk 0 ⟨0,0,[]⟩ [] l
theorem A2t{R:Nat×Nat}{l:List Xpr}(h:l.length<=R.2/\∀x,x∈l->SmExpr R x):SmExpr R (bare l) :=.mk _ _ _ _ (by simp[An1]) (by simp) h.1 h.2
def rmR:List (List Xpr)->Int->Int->Int
 |[],_,n=>n
 |r::l,most,n=>cond (decide (n<most)) (rmR l most (wr .i64 (n+Cq (bare r) most))) n
def rmS:List SetE->Int->Int->Int
 |[],_,n=>n
 |x::l,most,n=>cond (decide (n<most)) (rmS l most (wr .i64 (n+Cq x.e most))) n
def rmN:List Str->Int->Int->Int
 |[],_,n=>n
 |x::l,most,n=>cond (decide (n<most)) (rmN l most (wr .i64 (n+wr .i64 (Int.tdiv (x.length:Int) 30)))) n
def n0(s:Stm)(most:Int):Int:=wr .i64 (wr .i64 (wr .i64 (wr .i64 (wr .i64 (wr .i64 ((s.cols.length:Int)+(s.names.length:Int))+(s.order.length:Int))+(s.desc.length:Int))+wr .i64 (Int.tdiv (wr .i64 ((s.name.length:Int)+(s.on.length:Int))) 30))+Cq s.whr most)+Cq (bare s.l) most)
def Ah6:Sig:=⟨110,[(1,.int .i64),(5,.int .i64),(8,.int .i64)],[(2,.ptr 0 0)],[(0,.one (.sv .stmt))],1,0,0,[],[]⟩
abbrev Vj:=Int×Int×Int×Stm
def Wg{R:Type}(rec:Vj->Option R)(kx:Ex->Vj->Option R)(v:Vj):Option R:=match v with
 |(b,c,a,w2) =>
 cond (decide (a<(w2.names.length:Int))) (
  cond (decide (c<b)) (
  chk (inb a w2.names.length) (
   rec (b,(wr .i64 (c+(wr .i64 (Int.tdiv ((at' .str w2.names a).length:Int) 30)))),(wr .i64 (a+1)),w2))) (
  kx (.exit 4) (b,c,a,w2))) (
  kx (.exit 4) (b,c,a,w2))
def Ala:Sig:=⟨110,[(1,.int .i64),(5,.int .i64),(7,.int .i64)],[(2,.ptr 0 0)],[(0,.one (.sv .stmt))],1,0,0,[],[]⟩
abbrev V6:=Int×Int×Int×Stm
def Wa{R:Type}(rec:V6->Option R)(kx:Ex->V6->Option R)(v:V6):Option R:=match v with
 |(v7,v8,v9,w1) =>
 cond (decide (v9<(w1.sets.length:Int))) (
  cond (decide (v8<v7)) (
  chk (inb v9 w1.sets.length) (
   rec (v7,(wr .i64 (v8+(Cq (Mf ((at' .set w1.sets v9).e)) v7))),(wr .i64 (v9+1)),w1))) (
  kx (.exit 2) (v7,v8,v9,w1))) (
  kx (.exit 2) (v7,v8,v9,w1))
def Aib:Sig:=⟨110,[(1,.int .i64),(5,.int .i64),(6,.int .i64)],[(2,.ptr 0 0)],[(0,.one (.sv .stmt))],1,0,0,[],[]⟩
abbrev Uy:=Int×Int×Int×Stm
def U4{R:Type}(rec:Uy->Option R)(kx:Ex->Uy->Option R)(v:Uy):Option R:=match v with
 |(v,v1,v2,w) =>
 cond (decide (v2<(w.rows.length:Int))) (
  cond (decide (v1<v)) (
  chk (inb v2 w.rows.length) (
   rec (v,(wr .i64 (v1+(Cq (Xpr.mk 0 ⟨0,0,[]⟩ [] (at' .exprs w.rows v2)) v))),(wr .i64 (v2+1)),w))) (
  kx (.exit 0) (v,v1,v2,w))) (
  kx (.exit 0) (v,v1,v2,w))
def Aww(R:Type)(k:Nat):Px R:=pxO [(12,cA Asq)] [(12,qA Asq)] [(3,Aq k Aib (U4)),(7,Aq k Ala (Wa)),(11,Aq k Ah6 (Wg))] []
def Aik(k:Nat)(x:HV [.sv .stmt,.int .i64]):Option (HV [.int .i64]):=match x with
 |(s,most) =>
 Al (λrec=>U4 rec (λe vz=>match vz with|(v3,v4,_,v6)=>match e with
  |.exit 0 =>
  Al (λrec=>Wa rec (λe vz=>match vz with|(a,b,_,c)=>match e with
   |.exit 2 =>
   Al (λrec=>Wg rec (λe vz=>match vz with|(_,d,_,_)=>match e with
    |.exit 4 =>
    some d
    |_=>none)) k (a,b,0,c)
   |_=>none)) k (v3,v4,0,v6)
  |_=>none)) k (most,(wr .i64 ((wr .i64 ((wr .i64 ((wr .i64 ((wr .i64 ((wr .i64 ((s.cols.length:Int)+(s.names.length:Int)))+(s.order.length:Int)))+(s.desc.length:Int)))+(wr .i64 (Int.tdiv (wr .i64 ((s.name.length:Int)+(s.on.length:Int))) 30))))+(Cq (Mf s.whr) most)))+(Cq (Xpr.mk 0 ⟨0,0,[]⟩ [] s.l) most))),0,s)
theorem A67(k:Nat):FO 22 [.sv .stmt,.int .i64] [.int .i64] (Aik k):=fR (px:=Aww _ k) (n:=3) Tryz.func22 rfl (λcx H=>by have h0:Lv cx (Aww (HV [.int .i64]) k):=lv H (c1 H Aw9 Af) (q1 H Aw9 Ab) Aa;have hlrmuch_0:=lO H h0 (b:=lp Tryz.f22 0) (k:=k) (n:=0) (s:=Aib) (step:=U4) (λ_ _ _ (_,_,_,_)=>by kernel_rfl) Ak;have hlrmuch_1:=lO H h0 (b:=lp Tryz.f22 1) (k:=k) (n:=0) (s:=Ala) (step:=Wa) (λ_ _ _ (_,_,_,_)=>by kernel_rfl) Ak;have hlrmuch_2:=lO H h0 (b:=lp Tryz.f22 2) (k:=k) (n:=0) (s:=Ah6) (step:=Wg) (λ_ _ _ (_,_,_,_)=>by kernel_rfl) Ak;exact⟨h0,(Bq (Bq (Bq Ak hlrmuch_0) hlrmuch_1) hlrmuch_2)⟩) λ(_,_)=>by kernel_rfl
def Au9(s:Stm)(most:Int):Int:=rmN s.names most (rmS s.sets most (rmR s.rows most (n0 s most)))
def Atl:FT [.sv .stmt,.int .i64] [.int .i64]:=λx=>some (Au9 x.1 x.2)
theorem Aqu{R:Type}{kx:Ex->Uy->Option R}{s:Stm}{most:Int}{c:Int->Option R}(hn:ln s.rows.length)(h2:∀n i,kx (.exit 0) (most,n,i,s)=c n)(k:Nat)(hk:s.rows.length<k)(n:Int) :
  Al (λrec=>U4 rec kx) k (most,n,0,s)=c (rmR s.rows most n):=by
 refine(J5 s.rows.length (λi n=>(most,n,(i:Int),s)) (λ_ _=>True) (λi n=>c (rmR (s.rows.drop i) most n)) (λi hi n _ rec hr =>?_) (λn _ rec =>?_) k 0 n (Nat.zero_le _) (by omega) trivial).trans (by rw[Zq1])
 ·have hr:=hr (wr .i64 (n+Cq (bare s.rows[i]) most)) trivial;simp only[U4,He hi,Ae,A7 hi,chk,Bb (c :=.exprs) hi,A0 hi hn,As hi,rmR,h2];cases decide (n<most) with|false=>rfl|true=>exact hr
 ·simp only[U4,G7,Ah,h2];rw[Zk1 (Zn1 _)];rfl
theorem Aqo{R:Type}{kx:Ex->V6->Option R}{s:Stm}{most:Int}{c:Int->Option R}(hn:ln s.sets.length)(h2:∀n i,kx (.exit 2) (most,n,i,s)=c n)(k:Nat)(hk:s.sets.length<k)(n:Int) :
  Al (λrec=>Wa rec kx) k (most,n,0,s)=c (rmS s.sets most n):=by
 refine(J5 s.sets.length (λi n=>(most,n,(i:Int),s)) (λ_ _=>True) (λi n=>c (rmS (s.sets.drop i) most n)) (λi hi n _ rec hr =>?_) (λn _ rec =>?_) k 0 n (Nat.zero_le _) (by omega) trivial).trans (by rw[Zq1])
 ·have hr:=hr (wr .i64 (n+Cq s.sets[i].e most)) trivial;simp only[Wa,He hi,Ae,A7 hi,chk,Bb (c :=.set) hi,A0 hi hn,As hi,rmS,h2,Jo];cases decide (n<most) with|false=>rfl|true=>exact hr
 ·simp only[Wa,G7,Ah,h2];rw[Zk1 (Zn1 _)];rfl
theorem Aq0{R:Type}{kx:Ex->Vj->Option R}{s:Stm}{most:Int}{c:Int->Option R}(hn:ln s.names.length)(h2:∀n i,kx (.exit 4) (most,n,i,s)=c n)(k:Nat)(hk:s.names.length<k)(n:Int) :
  Al (λrec=>Wg rec kx) k (most,n,0,s)=c (rmN s.names most n):=by
 refine(J5 s.names.length (λi n=>(most,n,(i:Int),s)) (λ_ _=>True) (λi n=>c (rmN (s.names.drop i) most n)) (λi hi n _ rec hr =>?_) (λn _ rec =>?_) k 0 n (Nat.zero_le _) (by omega) trivial).trans (by rw[Zq1])
 ·have hr:=hr (wr .i64 (n+wr .i64 (Int.tdiv (s.names[i].length:Int) 30))) trivial;simp only[Wg,He hi,Ae,A7 hi,chk,Bb (c :=.str) hi,A0 hi hn,As hi,rmN,h2];cases decide (n<most) with|false=>rfl|true=>exact hr
 ·simp only[Wg,G7,Ah,h2];rw[Zk1 (Zn1 _)];rfl
theorem Bcl:FO 22 [.sv .stmt,.int .i64] [.int .i64] Atl :=.fin 0 A67 λ(s,most) r hb hx=>⟨s.rows.length+s.sets.length+s.names.length+1,by have hb:=hb.1;simp only[Atl,Za1] at hx;rw[<-hx];simp only[Aik,Jo];refine(Aqu (c:=λn=>some (rmN s.names most (rmS s.sets most n))) hb.rows.1 (λn i =>?_) _ (by omega) _).trans rfl;refine(Aqo (c:=λn=>some (rmN s.names most n)) hb.sets.1 (λn i =>?_) _ (by omega) _).trans rfl;exact Aq0 (c:=some) hb.names.1 (λn i=>rfl) _ (by omega) _⟩
theorem Aty{N:Int}(hN : 1<=N/\N<=600){R:Nat×Nat}(hR:R.1<=R47):∀(l:List (List Xpr)) (n:Int),0<=n->n<=1000000000000000->(∀r,r∈l->r.length<=R.2/\∀x,x∈r->SmExpr R x)->n<=rmR l N n/\rmR l N n<=1000000000000000/\(rmR l N n<N->n+(l.length:Int)<=rmR l N n/\∀r,r∈l->esizes r<=1200)
 |[],n,_,h,_=>⟨Int.le_refl _,h,λ_=>⟨by simp[rmR],λr hr=>by cases hr⟩⟩
 |r::l,n,h0,h1,hs=>by
  simp only[rmR];by_cases hn:n<N
  ·have hm:=Ox hR (Bf (bare r)) (bare r) N (Zn1 _) (A2t (hs r Zr1)) (by omega) (by omega);simp only[B0] at hm;have w:wr .i64 (n+Cq (bare r) N)=n+Cq (bare r) N:=Bi (by simp only[inI];omega);rw[Ze1 hn,Ae,w];have ih:=Aty hN hR l (n+Cq (bare r) N) (by omega) (by omega) (λq hq=>hs q (Zu1 _ hq));refine⟨by omega,ih.2.1,λh =>?_⟩;obtain⟨h3,h4⟩:=ih.2.2 h;refine⟨by simp only[Zf1];omega,λq hq =>?_⟩;rcases List.mem_cons.1 hq with rfl|hq
   ·have hz:Bf (bare q)=1+esizes q:=Iy _;have:=hm.2.2 (by omega);omega
   ·exact h4 q hq
  ·rw[Zd1 hn,Ah];exact⟨Int.le_refl _,h1,λh=>absurd h hn⟩
theorem Av2{N:Int}(hN : 1<=N/\N<=600){R:Nat×Nat}(hR:R.1<=R47):∀(l:List SetE) (n:Int),0<=n->n<=1000000000000000->(∀x,x∈l->SmExpr R x.e)->n<=rmS l N n/\rmS l N n<=1000000000000000/\(rmS l N n<N->n+(l.length:Int)<=rmS l N n/\∀x,x∈l->Bf x.e<=1200)
 |[],n,_,h,_=>⟨Int.le_refl _,h,λ_=>⟨by simp[rmS],λr hr=>by cases hr⟩⟩
 |x::l,n,h0,h1,hs=>by
  simp only[rmS];by_cases hn:n<N
  ·have hm:=Ox hR (Bf x.e) x.e N (Zn1 _) (hs x Zr1) (by omega) (by omega);simp only[B0] at hm;have w:wr .i64 (n+Cq x.e N)=n+Cq x.e N:=Bi (by simp only[inI];omega);rw[Ze1 hn,Ae,w];have ih:=Av2 hN hR l (n+Cq x.e N) (by omega) (by omega) (λq hq=>hs q (Zu1 _ hq));refine⟨by omega,ih.2.1,λh =>?_⟩;obtain⟨h3,h4⟩:=ih.2.2 h;refine⟨by simp only[Zf1];omega,λq hq =>?_⟩;rcases List.mem_cons.1 hq with rfl|hq
   ·have:=hm.2.2 (by omega);omega
   ·exact h4 q hq
  ·rw[Zd1 hn,Ah];exact⟨Int.le_refl _,h1,λh=>absurd h hn⟩
theorem Av1{N:Int}(hN : 1<=N/\N<=600):∀(l:List Str) (n:Int),0<=n->n<=1000000000000000->(∀x,x∈l->x.length<=R47)->n<=rmN l N n
 |[],n,_,_,_=>Int.le_refl _
 |x::l,n,h0,h1,hs=>by
  simp only[rmN];by_cases hn:n<N
  ·have hx:=hs x Zr1;simp only[R47] at hx;have e2:Int.tdiv (x.length:Int) 30=((x.length / 30:Nat):Int):=rfl;have e3:wr .i64 ((x.length / 30:Nat):Int)=((x.length / 30:Nat):Int):=Bi (by simp only[inI];omega);have w:wr .i64 (n+((x.length / 30:Nat):Int))=n+((x.length / 30:Nat):Int):=Bi (by simp only[inI];omega);rw[Ze1 hn,Ae,e2,e3,w];have ih:=Av1 hN l (n+((x.length / 30:Nat):Int)) (by omega) (by omega) (λq hq=>hs q (Zu1 _ hq));omega
  ·rw[Zd1 hn,Ah];exact Int.le_refl _
structure Few (s:Stm):Prop where
 cols:s.cols.length<=3100
 names:s.names.length<=3100
 order:s.order.length<=3100
 desc:s.desc.length<=3100
 name:s.name.length+s.on.length<=20000
 whr:Bf s.whr<=6200
 l:esizes s.l<=6200
 rows:s.rows.length<=3100/\∀r,r∈s.rows->esizes r<=6200
 sets:s.sets.length<=3100/\∀x,x∈s.sets->Bf x.e<=6200
theorem A0n{N:Int}(hN : 1<=N/\N<=600){s:Stm}(hs:SmStm (R47,R47) s)(h:Au9 s N<N):Few s:=by
 have hw:=Ox (R:=(R47,R47)) (Zn1 _) (Bf s.whr) s.whr N (Zn1 _) hs.whr (by omega) (by omega);have hl:=Ox (R:=(R47,R47)) (Zn1 _) (Bf (bare s.l)) (bare s.l) N (Zn1 _) (A2t hs.l) (by omega) (by omega);have hz:Bf (bare s.l)=1+esizes s.l:=Iy _;have c1:=hs.cols.1;have c2:=hs.names.1;have c3:=hs.order.1;have c4:=hs.desc;have c5:=hs.name;have c6:=hs.on;simp only[R47] at c1 c2 c3 c4 c5 c6;simp only[B0] at hw hl;have e1:wr .i64 ((s.cols.length:Int)+(s.names.length:Int))=(s.cols.length:Int)+(s.names.length:Int):=Bi (by simp only[inI];omega);have e2:wr .i64 ((s.cols.length:Int)+(s.names.length:Int)+(s.order.length:Int))=(s.cols.length:Int)+(s.names.length:Int)+(s.order.length:Int):=Bi (by simp only[inI];omega);have e3:wr .i64 ((s.cols.length:Int)+(s.names.length:Int)+(s.order.length:Int)+(s.desc.length:Int))=(s.cols.length:Int)+(s.names.length:Int)+(s.order.length:Int)+(s.desc.length:Int):=Bi (by simp only[inI];omega);have e4:wr .i64 ((s.name.length:Int)+(s.on.length:Int))=((s.name.length+s.on.length:Nat):Int):=by rw[Bi (by simp only[inI];omega)];omega
 have e5:Int.tdiv ((s.name.length+s.on.length:Nat):Int) 30=(((s.name.length+s.on.length) / 30:Nat):Int):=rfl;have e6:wr .i64 (((s.name.length+s.on.length) / 30:Nat):Int)=(((s.name.length+s.on.length) / 30:Nat):Int):=Bi (by simp only[inI];omega);have e7:wr .i64 ((s.cols.length:Int)+(s.names.length:Int)+(s.order.length:Int)+(s.desc.length:Int)+(((s.name.length+s.on.length) / 30:Nat):Int))=(s.cols.length:Int)+(s.names.length:Int)+(s.order.length:Int)+(s.desc.length:Int)+(((s.name.length+s.on.length) / 30:Nat):Int):=Bi (by simp only[inI];omega);have e8:wr .i64 ((s.cols.length:Int)+(s.names.length:Int)+(s.order.length:Int)+(s.desc.length:Int)+(((s.name.length+s.on.length) / 30:Nat):Int)+Cq s.whr N)=(s.cols.length:Int)+(s.names.length:Int)+(s.order.length:Int)+(s.desc.length:Int)+(((s.name.length+s.on.length) / 30:Nat):Int)+Cq s.whr N:=Bi (by simp only[inI];omega);have e9:wr .i64 ((s.cols.length:Int)+(s.names.length:Int)+(s.order.length:Int)+(s.desc.length:Int)+(((s.name.length+s.on.length) / 30:Nat):Int)+Cq s.whr N+Cq (bare s.l) N)=(s.cols.length:Int)+(s.names.length:Int)+(s.order.length:Int)+(s.desc.length:Int)+(((s.name.length+s.on.length) / 30:Nat):Int)+Cq s.whr N+Cq (bare s.l) N:=Bi (by simp only[inI];omega);have e0:n0 s N=(s.cols.length:Int)+(s.names.length:Int)+(s.order.length:Int)+(s.desc.length:Int)+(((s.name.length+s.on.length) / 30:Nat):Int)+Cq s.whr N+Cq (bare s.l) N:=by simp only[n0,e1,e2,e3,e4,e5,e6,e7,e8,e9]
 have hr:=Aty hN (R:=(R47,R47)) (Zn1 _) s.rows (n0 s N) (by omega) (by omega) hs.rows.2;have hst:=Av2 hN (R:=(R47,R47)) (Zn1 _) s.sets (rmR s.rows N (n0 s N)) (by omega) (by omega) (λx hx=>(hs.sets.2 x hx).2);have hn:=Av1 hN s.names (rmS s.sets N (rmR s.rows N (n0 s N))) (by omega) (by omega) hs.names.2;simp only[Au9] at h;have hst2:=hst.2.2 (by omega);have hr2:=hr.2.2 (by omega);have hw2:=hw.2.2 (by omega);have hl2:=hl.2.2 (by omega);exact⟨by omega,by omega,by omega,by omega,by omega,by omega,by omega,⟨by omega,λr hr=>Nat.le_trans (hr2.2 r hr) (by decide)⟩,⟨by omega,λx hx=>Nat.le_trans (hst2.2 x hx) (by decide)⟩⟩
theorem Avk{n:Int}(h:inI n):(Axp n).length<=21:=by
 have hd:(Kr n.natAbs).length<=20:=Akc 20 _ (by
  simp only[inI] at h;have:pw 20=100000000000000000000:=by kernel_rfl
  omega)
 have ht:(if n=0 then([48]:Str) else txt (Kr n.natAbs)).length<=20:=by
  split
  ·simp
  ·rw[A4q];exact hd
 unfold Axp;simp only;split
 ·simp only[Zf1];omega
 ·omega
theorem A7c{v:Val}(h:B7 v=true)(hn:inI v.n):(Bo v).length<=2003:=by
 simp only[Bo,h,Ae];split
 ·split<;>simp
 ·split
  ·have:=Avk hn;omega
  ·split
   ·rename_i h4;have h1:=N7 h (.inl h4);have h2:=Aq2 v.s;simp only[Zf1,Zh1,Zi1];omega
   ·split
    ·rename_i h5;have h1:=N7 h (.inr h5);have h2:=Ak0 v.s;simp only[Zf1,Zh1,Zi1];omega
    ·simp
theorem Io{s:Str}(h:Be s=true):s.length<=30:=by have h:Lp.nameF s=true:=h;simp only[Lp.nameF,Zb1,Zg1] at h;omega
theorem Bjk{k:Int}(h:Ai6 k):(sgn k).length<=3:=by
 simp only[Ai6] at h;have:k=4\/k=5\/k=6\/k=7\/k=8\/k=9\/k=10\/k=11\/k=12\/k=13\/k=14:=by omega
 rcases this with rfl|rfl|rfl|rfl|rfl|rfl|rfl|rfl|rfl|rfl|rfl<;>decide
theorem Adh(k:Int)(v:Val)(s:Str)(x:Xpr):Bf (.mk k v s [x])=2+Bf x:=by simp only[Bf,esizes];omega
theorem A9b(k:Int)(v:Val)(s:Str)(x y:Xpr):Bf (.mk k v s [x,y])=3+(Bf x+Bf y):=by simp only[Bf,esizes];omega
theorem A6a:∀(n:Nat) (e:Xpr) (m:Int),Bf e<=n->Bc e m=true->BdExpr e->(etx e).length<=4000*Bf e
 |0,e,_,h,_,_=>by have:=F4 e;omega
 |n+1,e,m,h,hr,hb=>by
  have ih:∀x,x∈e.l->(etx x).length<=4000*Bf x:=λx hx=>by obtain⟨m',hm⟩:=Apq hr hx;refine A6a n x m' ?_ hm ((Am9 hb).2 x hx);have:=Fl hx;rw[Iy] at h;omega
  have sh:=Aw0 hr;cases sh with
  |atom _ hk =>
   obtain⟨_,ho,_⟩:=Gs hr;have hp:=F4 e;rw[Ayj];rcases hk with k1|k2
   ·rw[if_pos k1];have:=A7c (A5g ho k1).1 (Bqk hb).1.2.1;omega
   ·rw[if_neg (by omega),if_pos k2];have:=Io (Awi ho k2).1;omega
  |not x =>have:=ih x Zr1;rw[A24,Adh];simp only[Zf1,Zh1,Zi1];omega
  |neg x =>have:=ih x Zr1;rw[A32,Adh];simp only[Zf1,Zh1,Zi1];omega
  |isn x =>have:=ih x Zr1;rw[A33,Adh];simp only[Zf1,Zh1,Zi1];omega
  |op k x y hk =>have h1:=ih x Zr1;have h2:=ih y (by simp[Xpr.l]);have h3:=Bjk hk;rw[Bc9 hk,A9b];simp only[Zf1,Zh1,Zi1];omega
theorem Aqz{e:Xpr}{m:Int}(hr:Bc e m=true)(hb:BdExpr e):(etx e).length<=4000*Bf e:=A6a (Bf e) e m (Zn1 _) hr hb
theorem Aw4{α:Type}(f : α->Str)(B:Nat):∀l:List α,(∀x,x∈l->(f x).length<=B)->(Fa f l).length<=l.length*(B+2)
 |[],_=>by simp[Fa]
 |x::l,h=>by have h1:=h x Zr1;have h2:=Aw4 f B l λy hy=>h y (Zu1 _ hy);simp only[Fa,Zh1,Zf1,Zi1];rw[Nat.add_mul];omega
theorem O5{α:Type}(f : α->Str)(B:Nat)(l:List α)(h:∀x,x∈l->(f x).length<=B):(Br f l).length<=l.length*(B+2):=by have:=Aw4 f B l h;cases l with|nil=>simp[Br]|cons x l =>simp only[Fa,Br,Zh1,Zf1,Zi1] at this ⊢;omega
theorem Anv:∀l:List Xpr,(∀x,x∈l->RX x)->(Fa etx l).length<=4002*esizes l
 |[],_=>by simp[Fa]
 |x::l,h=>by have hx:=h x Zr1;have h1:=Aqz hx.1 hx.2;have h2:=Anv l λy hy=>h y (Zu1 _ hy);simp only[Fa,esizes,Zh1,Zf1,Zi1];omega
theorem Anq(l:List Xpr)(h:∀x,x∈l->RX x):(Br etx l).length<=4002*esizes l:=by have:=Anv l h;cases l with|nil=>simp[Br]|cons x l =>simp only[Fa,Br,Zh1,Zf1,Zi1] at this ⊢;omega
theorem A58:∀l:List Xpr,(∀x,x∈l->RX x)->((l.map Ai2).flatten).length<=4010*esizes l
 |[],_=>by simp
 |x::l,h=>by
  have hx:=h x Zr1;have h1:=Aqz hx.1 hx.2;have h2:=A58 l λy hy=>h y (Zu1 _ hy);have h3:(Ai2 x).length<=4000*Bf x+10:=by simp only[Ai2];cases decide (Ib x.kind=0)<;>simp only[Ae,Ah,Zh1,Zf1,Zi1]<;>omega
  simp only[Zw1,Zz1,Zh1,esizes];omega
theorem A4r{l:List Str}(h:l.length<=3100)(hn:∀x,x∈l->Be x=true):(nmT l).length<=200000:=by have:=O5 (λx:Str=>x) 30 l λx hx=>Io (hn x hx);simp only[nmT,Vs,Zh1,Zf1,Zi1];omega
theorem A59{l:List Str}(h:l.length<=3100)(hn:∀x,x∈l->Be x=true):Ah4 l=true:=by have:=O5 (λx:Str=>x) 30 l λx hx=>Io (hn x hx);simp only[Ah4,Vs,Zb1,Zg1];omega
theorem A8m(k:Int):(at' .str kindsL k).length<=5:=by
 have h:∀i,(kindsL.getD i ([]:Str)).length<=5:=λi=>by match i with|0|1|2|3|4|5=>decide|i+6=>simp[kindsL]
 exact h _
theorem Beh{c:Col}(h:CX c):(T6 c).length<=100:=by
 obtain⟨h1,h2⟩:=h;simp only[Td,Zb1,Zd2,Zg1] at h1;have h3:=Io h2;have h4:=A8m c.kind;have h5:(cond c.notNull [32,78,79,84,32,78,85,76,76] ([]:Str)).length<=9:=by cases c.notNull<;>simp
 have h6:(cond c.unique [32,85,78,73,81,85,69] ([]:Str)).length<=7:=by cases c.unique<;>simp
 have h7:(cond (decide (c.ref=[])) [] ([32,82,69,70,69,82,69,78,67,69,83,32]++c.ref)).length<=42:=by
  rcases h1.2 with h|h
  ·rw[Ze1 h];simp
  ·have:=Io h;cases decide (c.ref=[])<;>simp only[Ae,Ah,Zh1,Zf1,Zi1]<;>omega
 simp only[T6,Zh1,Zf1,Zi1];omega
theorem Aq6{s:Stm}(h:WX s)(hf:Bf s.whr<=6200):(whT s).length<=25000000:=by simp only[whT];cases hs:s.has with|false=>simp|true =>have hx:=Bea h hs;have:=Aqz hx.1 hx.2;simp only[Ae,Zh1,Zf1,Zi1];omega
theorem A2f{s:Stm}(h:WX s):okW s=true:=by simp only[okW];cases hs:s.has with|false=>rfl|true=>exact Ah8 (Bea h hs).1
theorem A08{l:List Xpr}(h:∀x,x∈l->RX x):l.all okx=true:=Zg2.2 λx hx=>Ah8 (h x hx).1
theorem Bcq{s:Stm}(h:inI s.most):(Adj s).length<=40:=by simp only[Adj];cases decide (0<=s.most) with|false=>simp|true =>have:=Avk h;have e:Bo ⟨3,s.most,[]⟩=Axp s.most:=rfl;rw[e];simp only[Ae,Zh1,Zf1,Zi1];omega
theorem Bbh{s:Stm}(h:G3 s=true)(hb:BdStm s)(hf:Few s):okP s=true/\(B2 s).length<=90000000000:=by
 obtain⟨⟨s1,s2⟩,s3⟩:=Alq h;have ln:=Io s1;rcases s3 with ⟨k,a1,a2,a3,a4,a5⟩|k|⟨k,a1,a2,a3⟩|⟨k,a1,a2⟩|⟨k,a1,a2,a3⟩|⟨k,a1⟩|⟨k,a1,a2,a3,a4,a5⟩
 ·have hx:=Adc a5 hb.l;refine⟨?_,?_⟩
  ·simp only[okP,if_pos k,okT,Zb1];refine⟨⟨Zg2.2 λc hc =>?_,A59 hf.names a4⟩,A08 hx⟩;have h1:=(a1 c hc).1;simp only[Td,Zb1,Zg1] at h1;simp only[inb,Zb1,Zg1];omega
  ·have l1:=O5 T6 100 s.cols λc hc=>Beh (a1 c hc);have l2:=A4r hf.names a4;have l3:=A58 s.l hx;have f1:=hf.cols;have f2:=hf.l;simp only[B2,if_pos k,Nr,Zh1,Zf1,Zi1];omega
 ·refine⟨?_,?_⟩
  ·simp only[okP,if_neg (show ¬s.kind=1 by omega),if_pos k]
  ·rcases k with k|k<;>simp only[B2,k]<;>simp<;>omega
 ·have l1:=Io a1;have l2:=A4r hf.names a3;refine⟨?_,?_⟩
  ·simp only[okP,if_neg (show ¬s.kind=1 by omega),if_neg (show ¬(s.kind=2\/s.kind=4) by omega),if_pos k,A59 hf.names a3]
  ·simp only[B2,if_neg (show ¬s.kind=1 by omega),if_neg (show ¬s.kind=2 by omega),if_pos k,Zh1,Zf1,Zi1];omega
 ·have hx:∀r,r∈s.rows->∀x,x∈r->RX x:=λr hr=>Adc (a2 r hr).2 (hb.rows.2 r hr);refine⟨?_,?_⟩
  ·simp only[okP,if_neg (show ¬s.kind=1 by omega),if_neg (show ¬(s.kind=2\/s.kind=4) by omega),if_neg (show ¬s.kind=3 by omega),if_pos k];exact Zg2.2 λr hr=>A08 (hx r hr)
  ·have l1:=O5 Agm 25000000 s.rows λr hr=>by have:=Anq r (hx r hr);have:=hf.rows.2 r hr;simp only[Agm,Zh1,Zf1,Zi1];omega
   have f1:=hf.rows.1;simp only[B2,if_neg (show ¬s.kind=1 by omega),if_neg (show ¬s.kind=2 by omega),if_neg (show ¬s.kind=3 by omega),if_neg (show ¬s.kind=4 by omega),if_pos k,Zh1,Zf1,Zi1];omega
 ·have hw:WX s:=⟨a3,hb.whr⟩;refine⟨?_,?_⟩
  ·simp only[okP,if_neg (show ¬s.kind=1 by omega),if_neg (show ¬(s.kind=2\/s.kind=4) by omega),if_neg (show ¬s.kind=3 by omega),if_neg (show ¬s.kind=5 by omega),if_pos k,A2f hw,Bool.and_true];exact Zg2.2 λx hx=>Ah8 (a2 x hx).1
  ·have l1:=O5 Aiz 25000000 s.sets λx hx=>by have:=Aqz (a2 x hx).1 (hb.sets.2 x hx).2;have:=Io (a2 x hx).2;have:=hf.sets.2 x hx;simp only[Aiz,Zh1,Zf1,Zi1];omega
   have l2:=Aq6 hw hf.whr;have f1:=hf.sets.1;simp only[B2,if_neg (show ¬s.kind=1 by omega),if_neg (show ¬s.kind=2 by omega),if_neg (show ¬s.kind=3 by omega),if_neg (show ¬s.kind=4 by omega),if_neg (show ¬s.kind=5 by omega),if_pos k,Zh1,Zf1,Zi1];omega
 ·have hw:WX s:=⟨a1,hb.whr⟩;refine⟨?_,?_⟩
  ·simp only[okP,if_neg (show ¬s.kind=1 by omega),if_neg (show ¬(s.kind=2\/s.kind=4) by omega),if_neg (show ¬s.kind=3 by omega),if_neg (show ¬s.kind=5 by omega),if_neg (show ¬s.kind=6 by omega),if_pos k,A2f hw]
  ·have l2:=Aq6 hw hf.whr;simp only[B2,if_neg (show ¬s.kind=1 by omega),if_neg (show ¬s.kind=2 by omega),if_neg (show ¬s.kind=3 by omega),if_neg (show ¬s.kind=4 by omega),if_neg (show ¬s.kind=5 by omega),if_neg (show ¬s.kind=6 by omega),if_pos k,Zh1,Zf1,Zi1];omega
 ·have hw:WX s:=⟨a2,hb.whr⟩;have hx:=Adc a1 hb.l;refine⟨?_,?_⟩
  ·simp only[okP,k,okS,A2f hw,A08 hx,a4];rfl
  ·have l1:=Anq s.l hx;have l2:=Aq6 hw hf.whr;have l3:=O5 Ul 40 (s.order.zip s.desc) λp hp=>by
    have:=Io (a3 p.1 (List.of_mem_zip hp).1);have h6:(cond p.2 [32,68,69,83,67] ([]:Str)).length<=5:=by cases p.2<;>simp
    simp only[Ul,Zh1];omega
   have l4:=Bcq hb.most;have l5:(obT s).length<=10:=by simp only[obT];cases decide (0<(s.order.length:Int))<;>simp
   have l6:(cond (decide ((s.l.length:Int)=0)) [42] ([]:Str)).length<=1:=by cases decide ((s.l.length:Int)=0)<;>simp
   have f1:=hf.order;have f2:=hf.l;rw[List.length_zip] at l3;simp only[B2,if_neg (show ¬s.kind=1 by omega),if_neg (show ¬s.kind=2 by omega),if_neg (show ¬s.kind=3 by omega),if_neg (show ¬s.kind=4 by omega),if_neg (show ¬s.kind=5 by omega),if_neg (show ¬s.kind=6 by omega),if_neg (show ¬s.kind=7 by omega),Arb,Zh1,Zf1,Zi1];omega
theorem Ac8{s:Stm}(hf:Few s):Nn s=some (cond (G3 s) 0 2):=if_pos ⟨by have:=hf.cols;omega,by have:=hf.sets.1;omega⟩
theorem Aym{s:Stm}(h:G3 s=true)(hb:BdStm s)(hf:Few s):Rf s=some (B2 s,0):=by obtain⟨h1,h2⟩:=Bbh h hb hf;simp only[Rf,Ac8 hf,h,h1,Zc1];rw[Bbn (by simp only[Zi1];omega)];rfl
theorem Baq{s:Stm}(h:G3 s=false)(hf:Few s):Rf s=some ([],2):=by simp only[Rf,Ac8 hf,h,Zc1];rfl
open Lp (Ef Sc clsF)
theorem Aqx{s:Str}{ts:TL}(hl:s.length<=20000)(h:Sc s 0 ts):Jt s=(ts,0,0):=by simp only[Jt,A11];rw[if_neg (by omega),Lp.allF_of_sc h]
theorem Bga{m:Str}{p:Int}{ts:TL}(h:Sc m p ts):ts.length<=m.length:=by induction h with|nil=>exact Zn1 _|blank _ _ ih=>simp only[Zf1];omega|tok _ h2 _ ih =>have:=Lp.tokS_len h2;simp only[Zf1,Za2] at ih ⊢;omega
theorem Azf(s:Str):(∃ts,s.length<=20000/\Sc s 0 ts/\Jt s=(ts,0,0))\/(s.length<=20000/\∃j,Lp.Er s 0 j/\Jt s=([],j,11))\/(20000<s.length/\Jt s=([],0,3)):=by
 by_cases h : 20000<s.length
 ·refine .inr (.inr ⟨h,?_⟩);simp only[Jt,A11];rw[if_pos (by omega)]
 ·have hs:=Lp.allF_sc s;simp only[Jt,A11];rw[if_neg (by omega)];cases hq:Lp.allF s with|ok ts =>rw[hq] at hs;exact .inl ⟨ts,by omega,hs,rfl⟩|error j =>rw[hq] at hs;exact .inr (.inl ⟨by omega,j,hs,rfl⟩)
theorem A5f(s:Str):(Jt s).1.length<1000000000:=by
 rcases Azf s with ⟨ts,h0,h1,h2⟩|⟨_,j,_,h2⟩|⟨_,h2⟩<;>rw[h2]
 ·have:=Bga h1;simp only;omega
 ·simp
 ·simp
theorem Bkj{s:Str}{ts:TL}{x:Stm}(hl:s.length<=20000)(h:Sc s 0 ts)(ho:Kf ts = .ok x)(hf:Few x):Ml s=some (cond (G3 x) (x,0,0) (zS,0,2)):=by rw[Axx s (A5f s)];simp only[xS,Aqx hl h,if_true,ho,Ac8 hf];cases G3 x<;>rfl
theorem Atm{s:Str}{ts q:TL}(hl:s.length<=20000)(h:Sc s 0 ts)(ho:Kf ts = .error q):Ml s=some (zS,Hd s.length q,11):=by rw[Axx s (A5f s)];simp only[xS,Aqx hl h,if_true,ho]
end Go.Proofs.YthndhaolemgbdaaGreatDoor
namespace Go.Proofs.YthndhaolemgbdaaGreatDoor
open Go.Ax
instance:DecidableEq SetE:=λa b=>decidable_of_iff (a.name=b.name/\a.e=b.e) (by cases a;cases b;simp only[SetE.mk.injEq])
end Go.Proofs.YthndhaolemgbdaaGreatDoor
namespace Go.Ax
open Go.RowKit Go.ChangeShapes Go.WideShapes
section
variable {H:Type}{enc':TypeId×Value->H}{P:Program}{w:World}{base:Nat}{sp:Nat->Bool}{held:Bool}
theorem Aun{t k e:TypeId}{fuel:Nat}{cs:List Value}{ps:List MemPlace}(ht:P.underlying t=some (.map k e))(hk:P.underlying k=some (.int .i64))(he:P.underlying e=some .string){l:List (Int×Str)}(hl:∀p,p∈l->Q7 l p.1=p.2)(hno:∀n,(∀p,p∈l->p.1≠n)->Q7 l n=[])(h:DataW.trod enc' P w base sp held fuel t cs=some (.map (l.map λp=>(.int .i64 p.1,.lit (.string p.2))),ps)):∃b es clk,cs=[.map (some b)]/\w.heap[b]? = some (.map es clk)/\A50 l es.toList:=by
 rcases open_anymap ht h with ⟨_,hx⟩|⟨b,es,clock,_,rfl,hb,_,_,_⟩
 ·cases hx
 cases fuel with
 |zero=>simp[DataW.trod] at h
 |succ n =>
  simp only[DataW.trod,ht,hb] at h
  ·split at h
   ·obtain⟨entries,hm,hs⟩:=Option.bind_eq_some_iff.1 h;split at hs
    ·simp only[Za1,Zp1,DataW.map.injEq] at hs;obtain⟨hs,_⟩:=hs;have hperm:=sorted_perm (entries.map (·.1));rw[hs] at hperm;have hx:∀(x:MapEntry) (y:(Lit×DataW H)×List MemPlace),((keyOf P k x.key).bind λkey=>if x.val.formed P e=true then(DataW.trod enc' P w base sp held n e x.val.cells.toList).map λy=>((key,y.1),y.2) else none)=some y->∃(m:Int) (s:ByteArray),x.key = .int .i64 m/\x.val = .string s/\s.size<=maxLen/\y.1=(.int .i64 m,.lit (.string s.data.toList)):=by
      intro x y hy;obtain⟨key,hk1,hy⟩:=Option.bind_eq_some_iff.1 hy;split at hy
      ·rename_i hfm;obtain⟨z,hz,rfl⟩:=Option.map_eq_some_iff.1 hy;obtain⟨s,hs1,rfl,hs3⟩:=DataW.trod_string he hz;have hv:x.val = .string s:=by
        cases hxv:x.val<;>rw[hxv] at hs1 hfm<;>simp[Value.cells] at hs1
        ·rw[hs1]
        ·simp[Value.formed,he] at hfm
       have hkk:∃m,x.key = .int .i64 m/\key = .int .i64 m:=by
        simp only[keyOf,hk] at hk1;cases hxk:x.key<;>rw[hxk] at hk1<;>simp[mapKey,hk] at hk1
        obtain⟨⟨h1,_⟩,h2⟩:=hk1;subst h1;exact⟨_,rfl,h2.symm⟩
       obtain⟨m,h1,rfl⟩:=hkk;exact⟨m,s,h1,hv,hs3,rfl⟩
      ·cases hy
     have hin:∀x,x∈es.toList->∃(m:Int) (s:ByteArray),x.key = .int .i64 m/\x.val = .string s/\s.size<=maxLen/\(m,s.data.toList)∈l:=λx hxm=>by obtain⟨i,hi,rfl⟩:=List.getElem_of_mem hxm;obtain⟨y,hy,hf⟩:=Lib.mapM_at hm i _ (Zo1 hi);obtain⟨m,s,h1,h2,h3,h4⟩:=hx _ y hf;refine⟨m,s,h1,h2,h3,?_⟩;have:y.1∈entries.map (·.1):=List.mem_map.2 ⟨y,List.mem_of_getElem? hy,rfl⟩;have:=hperm.symm.subset this;rw[h4] at this;obtain⟨p,hp,e⟩:=List.mem_map.1 this;simp only[Zp1,Lit.int.injEq,true_and,DataW.lit.injEq,Lit.string.injEq] at e;obtain⟨e1,e2⟩:=e;rw[<-e1,<-e2];exact hp
     have hout:∀p,p∈l->∃x,x∈es.toList/\x.key = .int .i64 p.1:=λp hp=>by have h1:(Lit.int .i64 p.1,DataW.lit (H:=H) (.string p.2))∈entries.map (·.1):=hperm.subset (List.mem_map.2 ⟨p,hp,rfl⟩);obtain⟨y,hy,e⟩:=List.mem_map.1 h1;obtain⟨x,hxm,hf⟩:=mapM_mem hm y hy;obtain⟨m,s,h2,_,_,h4⟩:=hx x y hf;rw[e] at h4;simp only[Zp1,Lit.int.injEq,true_and] at h4;exact⟨x,hxm,by rw[h2,h4.1]⟩
     refine⟨b,es,clock,rfl,hb,λn =>?_⟩;have hik:MapKept.IsKey (.int .i64) (.int .i64 n):=by simp[MapKept.IsKey]
     rcases MapKept.findNow_spec hik es.toList 0 (λx hxm=>by obtain⟨m,s,h1,_⟩:=hin x hxm;rw[h1];simp[MapKept.IsKey]) with ⟨h1,h2⟩|⟨j,x,h1,h2,h3⟩
     ·have:Q7 l n=[]:=hno n λp hp e=>by obtain⟨x,hxm,hk⟩:=hout p hp;exact h2 x hxm (by rw[hk,e])
      exact⟨by rw[this];simp,.inl ⟨h1,this⟩⟩
     ·obtain⟨m,s,g1,g2,g3,g4⟩:=hin x (List.mem_of_getElem? h2);have hmn:m=n:=by rw[g1] at h3;simpa using h3
      subst hmn;have hg:=hl _ g4;simp only at hg;refine⟨by rw[hg,Array.length_toList];exact g3,.inr ⟨0+j,?_⟩⟩;rw[h1,g2,hg,Array.toArray_toList]
    ·cases hs
   ·cases h
end
theorem Afc{H:Type}{P:Program}:∀{ts us:List TypeId}{ds gs:List (DataW H)}{n:Nat},ds.length<=ts.length->n∈DataW.weightsEach P ts ds->n∈DataW.weightsEach P (ts++us) (ds++gs)
 |[],us,ds,gs,n,_,h=>by cases ds<;>simp[DataW.weightsEach] at h
 |t::ts,us,[],gs,n,_,h=>by simp[DataW.weightsEach] at h
 |t::ts,us,d::ds,gs,n,hl,h=>by
  simp only[DataW.weightsEach,Zb2,List.mem_append] at h ⊢;rcases h with h|h
  ·exact .inl h
  ·exact .inr (Afc (by simpa using hl) h)
theorem Bbg{H:Type}{P:Program}{ts us:List TypeId}{ds gs:List (DataW H)}(h:(DataW.weightsEach P (ts++us) (ds++gs)).all (·<=reachBytes)=true)(hl:ds.length<=ts.length):∀(i:Nat) (t:TypeId) (d:DataW H),ts[i]? = some t->ds[i]? = some d->∀n,n∈d.weights P t->n<=R47:=λi t d ht hd n hn=>by have:=Zg2.1 h n (Afc hl (DataW.weights_mem_each ht hd n hn));show n<=reachBytes;exact of_decide_eq_true this
theorem At8{H:Type}{enc':TypeId×Value->H}{P:Program}{w:World}{base:Nat}{sp:Nat->Bool}{held:Bool}:∀{ts:List TypeId}{vs:List Value}{ds:List (DataW H)}{ps:List MemPlace},DataW.TrodAll enc' P w base sp held ts vs ds ps->ds.length=ts.length:=by intro ts;induction ts with|nil=>intro vs ds ps h;cases vs<;>cases ds<;>simp[DataW.TrodAll] at h ⊢|cons t ts ih =>intro vs ds ps h;obtain⟨v,vs',d,ds',p,q,rfl,rfl,rfl,hd,hrest⟩:=trodAll_cons h;simp[ih hrest]
end Go.Ax
namespace Go.Proofs.YthndhaolemgbdaaGreatDoor
open Go.Ax Go.ChangeShapes Go.WideShapes Go.ChangeAt Go.RowKit Go.ChangeMaps
theorem own:ownKnob Tryz.prog.godebug=none:=by kernel_rfl
def rdL:List Nat:=[3,4,9,5,23,26,111,89,44,24,39,34,42,78,41,40,63,67]
theorem Bou:rdB elT (Asr ttL) rdL=true:=by kernel_rfl
theorem Bm7:szB Tryz.prog elT (Asr ttL) rdL=true:=by kernel_rfl
theorem Bk0:laidOutB Tryz.prog=true:=by kernel_rfl
def GlE(x:Vx)(g:Nat):Gv->Prop
 |.arr c xs=>∀i y,xs[i]? = some y->∀w',Chg x.S x.w w'->At w' c y g (i*csz c)
 |.map l=>∃r es clk,(∀w',Chg x.S x.w w'->w'.cell? ⟨g,0,none⟩=some (.map (some r))/\w'.heap[r]? = some (.map es clk))/\A50 l es.toList
 |.num k=>∃n,∀w',Chg x.S x.w w'->w'.cell? ⟨g,0,none⟩=some (.int k n)
theorem Jm{α:Type}:∀{L:List (Nat×α)}{g:Nat}{v : α},tbl L g=some v->(g,v)∈L
 |[],_,_,h=>by simp[tbl] at h
 |(k,u)::L,g,v,h=>by
  simp only[tbl] at h;split at h
  ·rename_i hk;have hk:=Zl1 hk;subst hk;simp only[Za1] at h;subst h;exact Zr1
  ·exact Zu1 _ (Jm h)
theorem Bjn{x:Vx}{L:List (Nat×Gv)}(h:∀p,p∈L->GlE x p.1 p.2):GlR x (tbl L) :=⟨λ_ _ _ hg=>h _ (Jm hg),λ_ _ hg=>h _ (Jm hg),λ_ _ hg=>h _ (Jm hg)⟩
theorem Aj4{P:Program}{w:World}:∀{l:List (String×DataW Unit)}{ps:List MemPlace},DataW.LaidVars P w l ps->∀x,x∈l->∃g t cs fuel p,P.globalNamed x.1=some g/\(P.globals[g]?).map (·.type)=some t/\w.var? P x.1=some cs/\DataW.trod (λ_=>()) P w 0 (λ_=>true) false fuel t cs.toList=some (x.2,p)
 |[],_,_,x,hx=>by cases hx
 |(n,d)::r,ps,h,x,hx=>by
  obtain⟨g,t,cs,fuel,p,q,h1,h2,h3,h4,h5,_⟩:=h;rcases List.mem_cons.1 hx with rfl|hx
  ·exact⟨g,t,cs,fuel,p,h1,h2,h3,h4⟩
  ·exact Aj4 h5 x hx
theorem Aky{H:Type}{enc:TypeId×Value->H}{P:Program}{w:World}{base:Nat}{sp:Nat->Bool}{held:Bool}{fuel:Nat}{t e:TypeId}{n:Nat}{cs:List Value}{zs:List (List UInt8)}{p:List MemPlace}
  (ht:P.underlying t=some (.array n e)) (he:P.underlying e=some .string) (hce:P.cellsOf e=1)
  (h:DataW.trod enc P w base sp held fuel t cs=some (.agg (zs.map λz =>.lit (.string z)),p)):∀(i:Nat) (z:Str),zs[i]? = some z->cs[i]? = some (.string ⟨z.toArray⟩):=by
 cases fuel with
 |zero=>simp[DataW.trod] at h
 |succ fuel =>
  simp only[DataW.trod,ht,hce,Nat.mul_one] at h;split at h
  ·rename_i hl;obtain⟨xs,hm,hx⟩:=Option.map_eq_some_iff.1 h;have hxs:xs.map (·.1)=zs.map λz=>(DataW.lit (.string z):DataW H):=by have:=congrArg Prod.fst hx;simpa using this
   have hxl:xs.length=n:=by simpa using Lib.mapM_length hm
   have hzl:zs.length=n:=by have:=congrArg List.length hxs;simp at this;omega
   intro i z hz;have hi:i<n:=by have:=(Zi2.1 hz).1;omega
   obtain⟨b,hb,hf⟩:=Lib.mapM_at hm i i (by simp[hi]);obtain⟨z',hc,h3,_⟩:=DataW.trod_string he hf;have h1:cs[i]? = some (.string z'):=by have:=congrArg (·[0]?) hc;simpa[List.getElem?_take,List.getElem?_drop] using this
   have h2:(xs.map (·.1))[i]? = some b.1:=by simp[hb]
   rw[hxs] at h2;simp only[List.getElem?_map,hz,Zl2,Za1] at h2;rw[h3] at h2;simp only[DataW.lit.injEq,Lit.string.injEq] at h2;rw[h1,h2]
  ·cases h
theorem Apl{W:World}{l:List (String×DataW Unit)}(h:laidMet Tryz.prog l W){nm:String}{g t e:Nat}{n:Nat}{zs:List Str}(hin:(nm,DataW.agg (zs.map λz =>.lit (.string z)))∈l)(hg:Tryz.prog.globalNamed nm=some g)(hgt:(Tryz.prog.globals[g]?).map (·.type)=some t)
  (ht:Tryz.prog.underlying t=some (.array n e)) (he:Tryz.prog.underlying e=some .string) (hce:Tryz.prog.cellsOf e=1) (hz:(zs.all λz=>Nat.ble z.length maxLen)=true):GlE (v0 elT Ga W) g (.arr .str zs):=by
 obtain⟨ps,hl,_⟩:=h;obtain⟨g',t',cs,fuel,p,h1,h2,h3,h4⟩:=Aj4 hl _ hin;obtain rfl:=Option.some.inj (hg.symm.trans h1);obtain rfl:=Option.some.inj (hgt.symm.trans h2);have hc:=Aky ht he hce h4;intro i y hy w' hw j d hd;have hj:j=0/\d = .str y:=by cases j with|zero=>simpa[enc] using hd.symm|succ j=>simp[enc] at hd
 obtain⟨rfl,rfl⟩:=hj;have h5:=World.var?_cell h1 h3 i;rw[<-Array.getElem?_toList,hc i y hy] at h5;have hm:=Zg2.1 hz y (List.mem_of_getElem? hy);have e1:i*csz .str+0=i:=by simp[csz]
 exact⟨_,by rw[e1];exact hw.cell _ _ _ h5 (λh=>h),.str y (Nat.le_of_ble_eq_true hm)⟩
theorem Bjq:∀p,p∈signsL->Q7 signsL p.1=p.2:=by decide
theorem Bjt(l:List (Int×Str)):∀n,(∀p,p∈l->p.1≠n)->Q7 l n=[]:=by induction l with|nil=>intro n _;rfl|cons p l ih =>intro n h;obtain⟨k,s⟩:=p;have h1:k≠n:=h (k,s) (by simp);simp only[Q7,Zd1 h1];exact ih n λp hp=>h p (by simp[hp])
theorem A8y{W:World}{l:List (String×DataW Unit)}(h:laidMet Tryz.prog l W)(hin:("exchequer/ast.signs",Rows.laid_exchequer_ast_signs)∈l):GlE (v0 elT Ga W) 0 (.map signsL):=by
 obtain⟨ps,hl,_⟩:=h;obtain⟨g',t',cs,fuel,p,hg',ht',hvar,hd⟩:=Aj4 hl _ hin;obtain rfl:=Option.some.inj ((show Tryz.prog.globalNamed "exchequer/ast.signs" = some 0 by kernel_rfl).symm.trans hg');obtain rfl:=Option.some.inj ((show(Tryz.prog.globals[0]?).map (·.type)=some 147 by kernel_rfl).symm.trans ht');obtain⟨b,es,clk,h1,h2,h3⟩:=Aun (l:=signsL) (t:=147) (k:=3) (e:=9) (by kernel_rfl) (by kernel_rfl) (by kernel_rfl) Bjq (Bjt signsL) hd;have hc:=World.var?_cell hg' hvar 0;have h1':cs = #[.map (some b)]:=by apply Array.ext';exact h1
 rw[h1'] at hc;have hc:W.cell? ⟨0,0,none⟩=some (.map (some b)):=hc;have hlt:b<W.heap.size:=(Zh2.1 h2).1;exact⟨b,es,clk,λw' hw=>⟨hw.cell _ 0 _ hc (λh=>h),by rw[hw.block b hlt (λ_ h=>h)];exact h2⟩,h3⟩
theorem Blp{W:World}(h:W.ShapedOpen Tryz.prog):GlE (v0 elT Ga W) 3 (.num .i64):=by obtain⟨m,hm⟩:=Go.Proofs.cell_of_shapedOpen_int (zero := #[.int .i64 0]) (t:=3) (g:=3) h (of_decide_eq_true (by kernel_rfl)) (by kernel_rfl) rfl (by kernel_rfl) (by kernel_rfl) Tryz.underlying3;exact⟨m,λw' hw=>hw.cell _ 0 _ hm (λh=>h)⟩
def Bmi(l:List (String×DataW Unit)):Prop:=(l.all λx=>x.2.handleName?.isNone)=true
 /\ ("exchequer/lex.words",Rows.laid_exchequer_lex_words)∈l
 /\ ("exchequer/ast.signs",Rows.laid_exchequer_ast_signs)∈l
 /\ ("exchequer/ast.kinds",Rows.laid_exchequer_ast_kinds)∈l
 /\ True
theorem Bi3{W:World}{l:List (String×DataW Unit)}(hl:Bmi l)(hL:laidMetH Tryz.prog l W)(hS:W.ShapedOpen Tryz.prog):GlR (v0 elT Ga W) glT:=by
 have hL':laidMet Tryz.prog l W:=by
  have hf:(l.filter λx=>x.2.handleName?.isSome)=[]:=List.filter_eq_nil_iff.2 λx hx=>by have:=Zg2.1 hl.1 x hx;rw[Option.isNone_iff_eq_none] at this;simp[this]
  unfold laidMetH at hL;rw[hf] at hL;exact hL
 replace hl:=hl.2;clear hL;have _:=hS;refine Bjn λp hp =>?_;have hwords:GlE (v0 elT Ga W) 2 (.arr .str wordsL):=Apl (n:=36) (t:=221) (e:=9) hL' hl.1 (by kernel_rfl) (by kernel_rfl) (by kernel_rfl) (by kernel_rfl) (by kernel_rfl) (by kernel_rfl);replace hl:=hl.2;have hsigns:=A8y hL' hl.1;replace hl:=hl.2;have hkinds:GlE (v0 elT Ga W) 1 (.arr .str kindsL):=Apl (n:=6) (t:=191) (e:=9) hL' hl.1 (by kernel_rfl) (by kernel_rfl) (by kernel_rfl) (by kernel_rfl) (by kernel_rfl) (by kernel_rfl);replace hl:=hl.2;have hmax:=Blp hS;simp only[List.mem_cons,List.not_mem_nil,or_false] at hp
 repeat' (first|(rcases hp with rfl|hp)|subst hp)
 all_goals assumption
def Bq4:DataW Unit->Value
 |.lit (.int k n) =>.int k n
 |.lit (.string s) =>.string ⟨s.toArray⟩
 |_ =>.int .u8 0
def Aa7:DataW Unit->List Value
 |.agg l=>l.map Bq4
 |_=>[]
def Bny:DataW Unit->List Value
 |.agg l=>l.flatMap Aa7
 |_=>[]
def Aho(vs:List Value):Obj->Obj
 |.cells _ t frozen =>.cells vs.toArray t frozen
 |o=>o
noncomputable def Bgp(h:Array Obj):Array Obj :=
 let h:=h.modify 2 (Aho (Aa7 Rows.laid_exchequer_lex_words));let h:=h.modify 1 (Aho (Aa7 Rows.laid_exchequer_ast_kinds));let h:=(h.modify 4 (Aho (Aa7 Rows.laid_unicode_utf8_first))).modify 5 (Aho (Bny Rows.laid_unicode_utf8_acceptRanges));let h:=(h.modify 0 (Aho [.map (some h.size)])).push (.map ((signsL.zip (List.range 11)).map λp=>(⟨.int .i64 p.1.1,.string ⟨p.1.2.toArray⟩,p.2⟩:MapEntry)).toArray 11)
 h
noncomputable def Ad0(os:Os):World :={ World.holding Tryz.prog os ⟨#[], #[],[]⟩ with heap:=Bgp (World.holding Tryz.prog os ⟨#[], #[],[]⟩).heap }
set_option maxRecDepth 100000 in
theorem A7a{H:Type}{R:Nat×Nat}{M:TypeId->DataW H->Prop}(hM:Msr Tryz.prog R M){enc:TypeId×Value->H}{f:FuncId}{fn:Func}{sa:List Sg}{F:FT sa [.bool]}{s:ChangeSpec}(hok:FnOk Tryz.prog elT glT f sa [.bool] F)(hF:∀x,BdL sa x->SmL R sa x->F x=some true)
  (hr:fn.resultTypes = #[4]) (hv:s.vars=[]) (hf:∀ds,ds.length=fn.params.toList.length->(s.fn H ds).results=[.lit (.bool true)]/\(s.fn H ds).args=ds/\(s.fn H ds).vars=[])
  (hsg:Apf (Asr ttL) rdL fn.params.toList sa=true) (hread:(fn.params.toList.all λt=>Tryz.prog.readableRec t&&Nat.blt t Tryz.prog.types.size)=true)
  {W:World}{base:Nat}{args:Array Value}{ds gs:List (DataW H)}{before:List MemPlace}(hval:∀(j:Nat) t v,fn.params[j]? = some t->args[j]? = some v->Value.okWide Tryz.prog W .any base t v)
  (hW:DataW.Whole enc Tryz.prog fn.params.toList s.vars false W args.toList ds gs before) (hgl:GlR (v0 elT Ga W) glT) (hsz:ds.length=fn.params.toList.length->∀(i:Nat) (t:TypeId) (d:DataW H),fn.params.toList[i]? = some t->ds[i]? = some d->M t d) :
  Calls Tryz.prog f args W λe W'=>∃v,e = .returned v/\s.post enc Tryz.prog fn false true false false W args v W':=by
 have hW':=hW;have hlt:=hW.lt;obtain⟨p,q,hA,hV,rfl,hfz,hnd⟩:=hW;rw[hv] at hV;obtain⟨rfl,rfl⟩:=trodVars_none hV;have hlen:=At8 hA;obtain⟨x,hx,hsm⟩:=Ava hM (λt=>Bgu Azr t) Bou Bm7 0 hsg (λj t v h1 h2=>hval j t v (by simpa using h1) (by simpa using h2)) hA;have hcall:=hok.calls (hF x (Abi hx) (hsm (hsz hlen))) hgl hx;have e1:args.toList.toArray=args:=by simp
 rw[e1] at hcall;refine hcall.mono λen W' =>?_;rintro⟨rfl,hb⟩;refine⟨_,rfl,?_⟩;obtain⟨h1,h2,h3⟩:=hf ds hlen;have e2:ds++([]:List (DataW H))=ds:=by simp
 refine⟨ds,[],_,[],p,[],hW',?_,?_,?_,hb.frame _,λh=>by cases h⟩
 ·rw[e2,h1,hr];exact trodAll_cons_mk (shut_bool Tryz.underlying4 _) trodAll_mk0
 ·rw[e2,h2];refine Aqc Bk0 hb (λt ht =>?_) (λx hx=>hlt x (by simp[hx])) hA;have:=Zg2.1 hread t ht;simp only[Zb1] at this;exact⟨this.1,by simpa[Nat.blt_eq] using this.2⟩
 ·rw[e2,h3,hv];exact rfl
end Go.Proofs.YthndhaolemgbdaaGreatDoor
