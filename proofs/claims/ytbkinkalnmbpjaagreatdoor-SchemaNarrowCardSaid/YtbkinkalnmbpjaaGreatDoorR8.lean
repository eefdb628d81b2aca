/- Texts of the proof,one behind the other: AxFr,Mu,Tl,Tm,Rq,Sg,Rr,Op,Sh,Os,Kq,Ub,AxFs,FrG. -/
import Derived.Test.YtbkinkalnmbpjaaGreatDoorR7
import Derived.ChangeArms
import Derived.WideShapes
import Derived.Carry
import Derived.ChangeShapes
import Derived.Lib.LaidTab
import Derived.SizedLaws
import Derived.Test.YtbkinkalnmbpjaaGreatDoorRows
import Derived.ProofKit
import Derived.ChangeMaps5
import Derived.ChangeAnyMap
import Derived.Test.YtbkinkalnmbpjaaGreatDoorCards
import Derived.Test.YtbkinkalnmbpjaaGreatDoorTie
import Derived.OpenShut
import Derived.Deep.DeepHandedRow
import Derived.Shelf.Vars
set_option linter.all false
namespace Go.Ax
open Go.RowKit Go.ChangeShapes
def shp:D->D->Bool
 |.int k _,.int k' _=>decide (k=k')
 |.bool _,.bool _=>true
 |.str _,.str _=>true
 |.sl c _ _,.sl c' _ _=>decide (c=c')
 |_,_=>false
def Iw:List D->List D->Bool
 |[],[]=>true
 |a::l,b::m=>shp a b&&Iw l m
 |_,_=>false
theorem Bvu{a b c:D}(h:shp a b=true)(k:shp a c=true):shp b c=true:=by cases a<;>cases b<;>simp[shp] at h<;>cases c<;>simp[shp] at k<;>subst_vars<;>simp[shp]
theorem Bac:∀{a b c:List D},Iw a b=true->Iw a c=true->Iw b c=true
 |[],[],[],_,_=>rfl
 |x::a,y::b,z::c,h,k=>by simp only[Iw,Zb1] at h k ⊢;exact⟨Bvu h.1 k.1,Bac h.2 k.2⟩
 |[],_::_,_,h,_=>by simp[Iw] at h
 |_::_,[],_,h,_=>by simp[Iw] at h
 |[],[],_::_,_,k=>by simp[Iw] at k
 |_::_,_::_,[],_,k=>by simp[Iw] at k
theorem Ahe:∀{a b c d:List D},Iw a b=true->Iw c d=true->Iw (a++c) (b++d)=true
 |[],[],_,_,_,k=>k
 |_::a,_::b,_,_,h,k=>by simp only[Iw,Zb1,Zb2] at h ⊢;exact⟨h.1,Ahe h.2 k⟩
 |[],_::_,_,_,h,_=>by simp[Iw] at h
 |_::_,[],_,_,h,_=>by simp[Iw] at h
theorem Ba4{k:IntKind}{n:Int}{d:D}(h:shp (.int k n) d=true):∃m,d = .int k m:=by
 cases d<;>simp[shp] at h
 subst h;exact⟨_,rfl⟩
theorem Bmp{b:Bool}{d:D}(h:shp (.bool b) d=true):∃m,d = .bool m:=by
 cases d<;>simp[shp] at h
 exact⟨_,rfl⟩
theorem Bad{s:Str}{d:D}(h:shp (.str s) d=true):∃m,d = .str m:=by
 cases d<;>simp[shp] at h
 exact⟨_,rfl⟩
theorem Bjx{c:Ck}{xs:List (El c)}{t:Tk}{d:D}(h:shp (.sl c xs t) d=true):∃ys u,d = .sl c ys u:=by
 cases d<;>simp[shp] at h
 subst h;exact⟨_,_,rfl⟩
theorem Wg{a:D}{l ds:List D}(h:Iw (a::l) ds=true):∃b m,ds=b::m/\shp a b=true/\Iw l m=true:=by cases ds with|nil=>simp[Iw] at h|cons b m =>simp only[Iw,Zb1] at h;exact⟨b,m,rfl,h.1,h.2⟩
theorem Aar{ds:List D}(h:Iw [] ds=true):ds=[]:=by cases ds with|nil=>rfl|cons b m=>simp[Iw] at h
theorem Aua{c:Ck}{z ds:List D}(h:(dec c z).isSome=true)(hs:Iw z ds=true):∃y,dec c ds=some y:=by
 obtain⟨y0,h⟩:=Option.isSome_iff_exists.1 h;unfold dec at h;split at h;all_goals first
  |(cases h;done)
  |skip
 all_goals
  clear h
  repeat (
   obtain⟨b,m,e,h1,hs'⟩:=Wg hs;clear hs;have hs:=hs';clear hs';subst e
   first
    |(obtain⟨_,e⟩:=Ba4 h1;subst e)
    |(obtain⟨_,e⟩:=Bmp h1;subst e)
    |(obtain⟨_,e⟩:=Bad h1;subst e)
    |(obtain⟨_,_,e⟩:=Bjx h1;subst e))
  have e:=Aar hs;subst e;exact⟨_,rfl⟩
def R47:Nat:=140737488351232
def Z9(R:Nat×Nat)(v:Val):Prop:=v.s.length<=R.1
inductive SmExpr (R:Nat×Nat):Xpr->Prop
 |mk (k:Int) (v:Val) (nm:Str) (l:List Xpr):Z9 R v->nm.length<=R.1->l.length<=R.2->(∀e,e∈l->SmExpr R e)->SmExpr R (.mk k v nm l)
structure SmStm (R:Nat×Nat) (s:Stm):Prop where
 name:s.name.length<=R.1
 on:s.on.length<=R.1
 cols:s.cols.length<=R.2/\∀c,c∈s.cols->c.name.length<=R.1/\c.ref.length<=R.1
 names:s.names.length<=R.2/\∀x,x∈s.names->x.length<=R.1
 l:s.l.length<=R.2/\∀x,x∈s.l->SmExpr R x
 rows:s.rows.length<=R.2/\∀r,r∈s.rows->r.length<=R.2/\∀x,x∈r->SmExpr R x
 sets:s.sets.length<=R.2/\∀x,x∈s.sets->x.name.length<=R.1/\SmExpr R x.e
 whr:SmExpr R s.whr
 order:s.order.length<=R.2/\∀x,x∈s.order->x.length<=R.1
 desc:s.desc.length<=R.2
def Bla(R:Nat×Nat)(x:Idx):Prop:=x.name.length<=R.1/\x.cols.length<=R.2/\∀s,s∈x.cols->s.length<=R.1
structure SmTbl (R:Nat×Nat) (t:Tbl):Prop where
 name:t.name.length<=R.1
 cols:t.cols.length<=R.2/\∀c,c∈t.cols->c.name.length<=R.1/\c.ref.length<=R.1
 key:t.key.length<=R.2/\∀x,x∈t.key->x.length<=R.1
 checks:t.checks.length<=R.2/\∀x,x∈t.checks->SmExpr R x
 idx:t.idx.length<=R.2/\∀x,x∈t.idx->Bla R x
def SmK(R:Nat×Nat):(c:Ck)->El c->Prop
 |.str,s=>s.length<=R.1
 |.val,v=>Z9 R v
 |.tok,t=>t.s.length<=R.1
 |.col,c=>c.name.length<=R.1/\c.ref.length<=R.1
 |.expr,e=>SmExpr R e
 |.vals,l=>l.length<=R.2/\∀x,x∈l->Z9 R x
 |.exprs,l=>l.length<=R.2/\∀x,x∈l->SmExpr R x
 |.strs,l=>l.length<=R.2/\∀x,x∈l->x.length<=R.1
 |.set,s=>s.name.length<=R.1/\SmExpr R s.e
 |.stmt,s=>SmStm R s
 |.idx,x=>Bla R x
 |.tbl,t=>SmTbl R t
 |_,_=>True
def SmD(R:Nat×Nat):D->Prop
 |.str l=>l.length<=R.1
 |.sl c xs _=>xs.length<=R.2/\∀x,x∈xs->SmK R c x
 |_=>True
def SmS(R:Nat×Nat):(s:Sg)->den s->Prop
 |.str,s=>s.length<=R.1
 |.sl c _,xs=>xs.length<=R.2/\∀x,x∈xs->SmK R c x
 |.sv c,x=>SmK R c x
 |_,_=>True
def SmL(R:Nat×Nat):(l:List Sg)->HV l->Prop
 |[],_=>True
 |[a],x=>SmS R a x
 |a::b::l,(x,y)=>SmS R a x/\SmL R (b::l) y
theorem Bnh{R:Nat×Nat}{c:Ck}{ds:List D}{y:El c}(h:dec c ds=some y)(hd:∀d,d∈ds->SmD R d):SmK R c y:=by
 unfold dec at h;split at h<;>simp only[Za1,reduceCtorEq] at h<;>subst h<;>simp only[List.mem_cons,List.not_mem_nil,or_false,forall_eq_or_imp,forall_eq,SmD] at hd<;>simp only[SmK,Z9]<;>first
  |trivial
  |exact hd
  |exact hd.2.2
  |exact hd.2.2.1
  |exact⟨hd.1,hd.2.2.2.2⟩
  |exact .mk _ _ _ _ hd.2.2.2.1 hd.2.2.2.2.1 hd.2.2.2.2.2.1 hd.2.2.2.2.2.2
  |exact⟨hd.1,.mk _ _ _ _ hd.2.2.2.2.1 hd.2.2.2.2.2.1 hd.2.2.2.2.2.2.1 hd.2.2.2.2.2.2.2⟩
  |exact⟨hd.1,hd.2.1,hd.2.2.1,hd.2.2.2.1,hd.2.2.2.2⟩
  |(obtain⟨_,h1,h2,h3,h4,h5,h6,h7,_,_,_,_,w1,w2,w3,h8,h9,_⟩:=hd
    exact⟨h1,h2,h3,h4,h5,h6,h7,.mk _ _ _ _ w1 w2 w3.1 w3.2,h8,h9.1⟩)
theorem Xg{H:Type}{P:Program}{e:TypeId}:∀{l:List (DataW H)}{d:DataW H},d∈l->∀n∈d.weights P e,n∈DataW.weightsAll P e l
 |[],_,h,_,_=>by cases h
 |x::l,d,h,n,hn=>by
  simp only[DataW.weightsAll,List.mem_append];rcases List.mem_cons.1 h with rfl|h
  ·exact .inl hn
  ·exact .inr (Xg h n hn)
structure Msr {H:Type}(P:Program) (R:Nat×Nat) (M:TypeId->DataW H->Prop):Prop where
 str:∀(t:TypeId) (s:List UInt8),M t (.lit (.string s))->s.length<=R.1
 sl:∀(t e:TypeId) (l r:List (DataW H)),P.underlying t=some (.slice e)->1<=P.bytesOf e->M t (.slice l r)->l.length<=9223372036854775807->l.length<=R.2/\∀d,d∈l->M e d
 agg:∀(t:TypeId) (fds:Array Field) (l:List (DataW H)) (i:Nat) (fd:Field) (d:DataW H),P.underlying t=some (.struct fds)->M t (.agg l)->fds[i]? = some fd->l[i]? = some d->M fd.type d
theorem A20{H:Type}(P:Program):Msr (H:=H) P (R47,R47) λt d=>∀n,n∈d.weights P t->n<=R47 where
 str:=λt s h=>h _ (by simp[DataW.weights])
 sl:=λt e l r hu hz h _=>⟨by
  have h1:=h ((l.length+r.length)*P.bytesOf e) (by simp only[DataW.weights,hu,List.mem_cons,true_or]);have h2:(l.length+r.length)*1<=(l.length+r.length)*P.bytesOf e:=Nat.mul_le_mul_left _ hz;omega,λd hd n hn=>h n (by
  simp only[DataW.weights,hu,List.mem_cons,List.mem_append];exact .inr (.inl (Xg hd n hn)))⟩
 agg:=λt fds l i fd d hu h hf hd n hn=>h n (by simp only[DataW.weights,hu];exact DataW.weights_mem_each (j:=i) (t:=fd.type) (d:=d) (by simp[hf]) hd n hn)
def zc(t:Ty):List D:=match t.zero with|some z=>cells z|none=>[]
def Anf(tt:Nat->Ty)(rd:List Nat):Nat->List (Nat×Nat)->List D->Bool
 |_,[],z=>z.isEmpty
 |o,(o',u)::fs,z=>Nat.beq o' o&&rd.contains u&&Nat.ble (zc (tt u)).length z.length&&Iw (zc (tt u)) (z.take (zc (tt u)).length)&&Anf tt rd (o+(zc (tt u)).length) fs (z.drop (zc (tt u)).length)
def Bm8(el:Ck->TypeId)(tt:Nat->Ty)(rd:List Nat)(t:Nat):Bool:=match tt t with|.int _|.bool|.str=>true|.sl c=>rd.contains (el c)&&(dec c (zc (tt (el c)))).isSome|.st _ fs z=>Anf tt rd 0 fs z|_=>false
def rdB(el:Ck->TypeId)(tt:Nat->Ty)(rd:List Nat):Bool:=rd.all λt=>Bm8 el tt rd t&&Nat.beq (zc (tt t)).length (tt t).n
def szB(P:Program)(el:Ck->TypeId)(tt:Nat->Ty)(rd:List Nat):Bool:=rd.all λt=>match tt t with|.sl c=>Nat.ble 1 (P.bytesOf (el c))|_=>true
theorem Afw{α:Type}{p:Nat->α->Prop}:∀(n:Nat),(∀i,i<n->∃y,p i y)->∃ys:List α,ys.length=n/\∀i y,ys[i]? = some y->p i y
 |0,_=>⟨[],rfl,by simp⟩
 |n+1,h=>by
  obtain⟨ys,h1,h2⟩:=Afw n (λi hi=>h i (by omega));obtain⟨y,hy⟩:=h n (by omega);refine⟨ys++[y],by simp[h1],λi z hz =>?_⟩;rcases Nat.lt_trichotomy i n with hi|rfl|hi
  ·rw[List.getElem?_append_left (by omega)] at hz;exact h2 i z hz
  ·rw[List.getElem?_append_right (by omega),h1] at hz;simp at hz;subst hz;exact hy
  ·rw[List.getElem?_eq_none (by simp;omega)] at hz;cases hz
section
variable {H:Type}{enc':TypeId×Value->H}{P:Program}{el:Ck->TypeId}{tt:Nat->Ty}{rd:List Nat}{w:World}{sp:Nat->Bool}{held:Bool}
theorem Y5{t:TypeId}{n:Nat}(h:Sx.tySz P t=some n):P.cellsOf t=n:=by unfold Sx.tySz at h;simp[Program.cellsOf,h]
theorem Ao0{a:Addr}{n:Nat}{vs:List Value}(h:w.cells? 0 a n=some vs):vs.length=n/\∀j u,vs[j]? = some u->w.cell? (a.add j)=some u:=by
 unfold World.cells? at h;simp only[Nat.zero_le,if_true] at h;refine⟨by simpa using Lib.mapM_length h,λj u hj =>?_⟩;have hlt:j<n:=by have:=Lib.mapM_length h;have h2:=(Zi2.1 hj).1;simp at this;omega
 obtain⟨u',hu,hf⟩:=Lib.mapM_at h j j (by simp[hlt]);rw[hj] at hu;simp only[Za1] at hu;subst hu;exact hf
theorem A83{a:Addr}{u:Value}(h:w.cell? a=some u):a.spot=none:=by
 unfold World.cell? at h;split at h
 ·split at h
  ·cases h
  ·rename_i hs;cases hq:a.spot with|none=>rfl|some q=>rw[hq] at hs;simp at hs
 ·cases h
theorem Av4{R:Nat×Nat}{M:TypeId->DataW H->Prop}(hM:Msr P R M)(hT:∀t,C6 P el tt t=true)(hrd:rdB el tt rd=true)(hsb:szB P el tt rd=true):∀(fuel:Nat) (t:TypeId) (cs:List Value) (x:DataW H×List MemPlace),rd.contains t=true->DataW.trod enc' P w 0 sp held fuel t cs=some x->∃ds,Iw (zc (tt t)) ds=true/\Reps (v0 el D4 w) ds cs/\(M t x.1->∀d,d∈ds->SmD R d)
 |0,t,cs,x,_,h=>by simp[DataW.trod] at h
 |fuel+1,t,cs,x,hc,h=>by
  have hloc:=Zg2.1 hrd t (by simpa using hc);simp only[Zb1] at hloc;obtain⟨hloc,hzl⟩:=hloc;have hzl:=Zl1 hzl;have hszB:=Zg2.1 hsb t (by simpa using hc);unfold Bm8 at hloc;split at hloc
  ·rename_i k hty;have hu:=Sx.tyI_spec (Ak9 (hT t) hty);obtain⟨n,rfl,_,hw⟩:=DataW.trod_int hu h;refine⟨[.int k n],by(rw[hty];show(decide (k=k)&&true)=true;simp),?_,λ_ d hd=>by simp only[List.mem_singleton] at hd;subst hd;trivial⟩;simp only[Reps,Rep];exact⟨_,_,rfl,⟨rfl,hw⟩,rfl⟩
  ·rename_i hty;have hu:=Sx.tyB_spec (Ad6 (hT t) hty);obtain⟨b,rfl,_⟩:=DataW.trod_bool hu h;refine⟨[.bool b],by rw[hty];rfl,?_,λ_ d hd=>by simp only[List.mem_singleton] at hd;subst hd;trivial⟩;simp only[Reps,Rep];exact⟨_,_,rfl,rfl,rfl⟩
  ·rename_i hty;have hu:=Sx.tyS_spec (G7 (hT t) hty);obtain⟨s,rfl,rfl,hs⟩:=DataW.trod_string hu h;refine⟨[.str s.data.toList],by rw[hty];rfl,?_,λhwt d hd=>by simp only[List.mem_singleton] at hd;subst hd;exact hM.str _ _ hwt⟩
   simp only[Reps,Rep];exact⟨_,_,rfl,⟨(by rw[Array.toArray_toList]),(by rw[Array.length_toList];exact hs)⟩,rfl⟩
  ·rename_i c hty;simp only[Zb1] at hloc;obtain⟨hel,hdec⟩:=hloc;have hbz : 1<=P.bytesOf (el c):=by rw[hty] at hszB;exact Nat.le_of_ble_eq_true hszB
   obtain⟨by_,hE,_,_⟩:=Dq (hT t) hty;have hu:=hE.und;obtain⟨_,i0,z,hi0,hz,hsz,_⟩:=hE;have hco:P.cellsOf (el c)=csz c:=Y5 (by simp[Sx.tySz,hi0,hsz]);rcases DataW.trod_slice hu h with ⟨rfl,_⟩|⟨a,len,cap,elems,rest,n,hf,rfl,rfl,_,hle,hmax,hlen,hel2,_⟩
   ·refine⟨[.sl c [] .no],by(rw[hty];show(decide (c=c)&&true)=true;simp),?_,λ_ d hd=>by simp only[List.mem_singleton] at hd;subst hd;exact⟨Nat.zero_le _,λx hx=>by cases hx⟩⟩
    simp only[Reps,Rep];exact⟨_,_,rfl,⟨λ_ _ =>.nil _ _ _ _,trivial⟩,rfl⟩
   ·have hf:fuel=n:=by omega
    subst hf;have each:∀i,i<len->∃y:El c,(∃vs:List Value,w.cells? 0 (a.add (i*csz c)) (csz c)=some vs/\ElR (v0 el D4 w) c y vs)/\(M t (DataW.slice (elems.map (·.1)) (rest.map (·.1)))->SmK R c y):=λi hi=>by have h1:=hel2 i hi;have hsome:∃e,elems[i]? = some e:=⟨_,Zo1 (by omega)⟩;obtain⟨e,he⟩:=hsome;rw[he] at h1;obtain⟨vs,hv,ht⟩:=Option.bind_eq_some_iff.1 h1;rw[hco] at hv;obtain⟨ds,hs,hr,hsm⟩:=Av4 hM hT hrd hsb fuel (el c) vs e hel ht;obtain⟨y,hy⟩:=Aua hdec hs;exact⟨y,⟨vs,hv,Rw hy hr⟩,λhwt=>Bnh hy (hsm ((hM.sl _ _ _ _ hu hbz hwt (by have:maxLen=9223372036854775807:=rfl;simp only[List.length_map];omega)).2 e.1 (List.mem_map.2 ⟨e,List.mem_of_getElem? he,rfl⟩)))⟩
    obtain⟨ys,hyl,hys'⟩:=Afw len each;have hys:=λi y hy=>(hys' i y hy).1;refine⟨[.sl c ys .no],by(rw[hty];show(decide (c=c)&&true)=true;simp),?_,λhwt d hd=>by
     simp only[List.mem_singleton] at hd;subst hd;refine⟨?_,λy hy =>?_⟩
     ·have:=(hM.sl _ _ _ _ hu hbz hwt (by have:maxLen=9223372036854775807:=rfl;simp only[List.length_map];omega)).1;simp only[List.length_map] at this;omega
     ·obtain⟨i,hi,rfl⟩:=List.getElem_of_mem hy;exact(hys' i _ (Zo1 hi)).2 hwt⟩
    simp only[Reps,Rep];refine⟨_,_,rfl,⟨Mi hyl.symm ?_,trivial⟩,rfl⟩;by_cases h0:ys=[]
    ·exact .inl h0
    ·right;have hsn:a.spot=none:=by have hlt : 0<ys.length:=List.length_pos_iff.2 h0;obtain⟨vs,hv,hE⟩:=hys 0 _ (Zo1 hlt);obtain⟨h1,h2⟩:=Ao0 hv;have hp:=Ah7 c;have:=h2 0 _ (Zo1 (by omega));simp only[Nat.zero_mul,Addr.add,if_true] at this;exact A83 this
     obtain⟨b,o,s⟩:=a;simp only at hsn;subst hsn;refine⟨b,o,rfl,⟨by omega,hmax⟩,λi y hy w' hw j d hd =>?_⟩;obtain⟨vs,hv,hE⟩:=hys i y hy;obtain⟨_,h2⟩:=Ao0 hv;obtain⟨u,hu',hf⟩:=hE.2 j d hd;have hcell:=h2 j u hu';rw[Sx.add_mk,Sx.add_mk] at hcell;exact⟨u,hw.cell b _ u hcell (λh=>h),hf w' hw⟩
  ·rename_i cc fs z hty;have hbase:=Dv (hT t) (by rw[hty];simp);have hsz:P.cellsOf t=z.length:=by have:=Y5 hbase.2.2;rw[this,hty];rfl
   have hok:=hT t;unfold C6 at hok;rw[hty] at hok;simp only[Zb1] at hok;have hfl:=hok.2;split at hfl
   ·rename_i fds hu;simp only[Zb1] at hfl;have hfl:=hfl.1;obtain⟨xs,n,hf,rfl,hcl,hxl,hfx⟩:=DataW.trod_struct hu h;have hf:fuel=n:=by omega
    subst hf;have key:∀(l:List (Nat×Nat)) (i o:Nat) (z':List D),fs.drop i=l->Anf tt rd o l z' = true->o+z'.length=cs.length->∃ds,Iw z' ds=true/\Reps (v0 el D4 w) ds (cs.drop o)/\(M t (DataW.agg (xs.map (·.1)))->∀d,d∈ds->SmD R d):=by
     intro l;induction l with
     |nil =>intro i o z' _ hct ho;simp only[Anf,List.isEmpty_iff] at hct;subst hct;refine⟨[],rfl,?_,λ_ d hd=>by cases hd⟩;rw[Zk1 (by simp at ho;omega)];simp[Reps]
     |cons q l ih =>
      intro i o z' hd hct ho;obtain⟨o',u⟩:=q;simp only[Anf,Zb1] at hct;obtain⟨⟨⟨⟨ho',hcu⟩,hle⟩,hsh⟩,hct⟩:=hct;have ho':=Zl1 ho';subst ho';have hle:=Nat.le_of_ble_eq_true hle;have hget:fs[i]? = some (o',u):=by have:=congrArg (·[0]?) hd;simpa[List.getElem?_drop] using this
      obtain⟨fd,g1,g2,g3,_⟩:=Aet hfl hget;have g1':fds[i]? = some fd:=by simpa using g1
      have h1:=hfx i fd g1';rw[g2,g3] at h1;have hxi:∃e,xs[i]? = some e:=⟨_,Zo1 (by have:=(Zh2.1 g1').1;omega)⟩
      obtain⟨e,he⟩:=hxi;rw[he] at h1;have hlu:=Zg2.1 hrd u (by simpa using hcu);simp only[Zb1] at hlu;have hnu:=Zl1 hlu.2;have hneu:tt u ≠ .no:=by intro e;have:=hlu.1;unfold Bm8 at this;rw[e] at this;cases this
      have hcou:P.cellsOf u=(zc (tt u)).length:=by rw[Y5 (Dv (hT u) hneu).2.2,hnu]
      rw[hcou] at h1;obtain⟨ds1,s1,r1,m1⟩:=Av4 hM hT hrd hsb fuel u _ e hcu h1;obtain⟨ds2,s2,r2,m2⟩:=ih (i+1) (o'+(zc (tt u)).length) _ (by rw[<-List.drop_drop,hd];rfl) hct (by simp;omega);refine⟨ds1++ds2,?_,?_,λhwt d hd=>by
       rcases List.mem_append.1 hd with hd|hd
       ·refine m1 ?_ d hd;rw[<-g2];exact hM.agg _ _ _ i fd e.1 hu hwt g1' (by rw[List.getElem?_map,he];rfl)
       ·exact m2 hwt d hd⟩
      ·rw[<-List.take_append_drop (zc (tt u)).length z'];exact Ahe (Bac hsh s1) s2
      ·have:=r1.append r2;rwa[<-List.drop_drop,List.take_append_drop] at this
    obtain⟨ds,h1,h2,h3⟩:=key fs 0 0 z rfl hloc (by rw[hcl,hsz];omega);exact⟨ds,by simpa[hty,zc,Ty.zero,cells] using h1,by simpa using h2,h3⟩
   ·cases hfl
  ·cases hloc
def Bwj(tt:Nat->Ty)(rd:List Nat)(t:Nat)(s:Sg):Bool:=rd.contains t&&match tt t,s with|.int k,.int k'=>decide (k=k')|.bool,.bool=>true|.str,.str=>true|.sl c,.sl c' false=>decide (c=c')|.st (some c) _ _,.sv c'=>decide (c=c')&&agg? c&&(dec c (zc (tt t))).isSome|_,_=>false
theorem Bri{R:Nat×Nat}{M:TypeId->DataW H->Prop}(hM:Msr P R M)(hT:∀t,C6 P el tt t=true)(hrd:rdB el tt rd=true)(hsb:szB P el tt rd=true){t:TypeId}{s:Sg}(hs:Bwj tt rd t s=true){r:Reach}{b0:Nat}{v:Value}{d:DataW H}{ps:List MemPlace}(hval:Value.okWide P w r b0 t v)(h:DataW.Trod enc' P w 0 sp held t v d ps)(i:Nat):∃y:den s,Rep (v0 el D4 w) (Co i s y) v/\(M t d->SmS R s y):=by
 obtain⟨fuel,h⟩:=h;simp only[Bwj,Zb1] at hs;obtain⟨hc,hs⟩:=hs;obtain⟨ds,hsh,hr,hsm⟩:=Av4 hM hT hrd hsb fuel t _ _ hc h;have hsm:M t d->∀d,d∈ds->SmD R d:=hsm;split at hs
 ·rename_i k k' hty;simp only[Zg1] at hs;subst hs;obtain⟨n,rfl⟩:=WideShapes.okWide_int (Sx.tyI_spec (Ak9 (hT t) hty)) hval;simp only[hty,zc,Ty.zero,cells] at hsh;obtain⟨b,m,rfl,h1,h2⟩:=Wg hsh;obtain rfl:=Aar h2;obtain⟨n',rfl⟩:=Ba4 h1;simp only[Value.cells,Reps] at hr;obtain⟨u,us,e,hr,_⟩:=hr;simp only[Ze2] at e;obtain⟨rfl,_⟩:=e;exact⟨n',hr,λ_=>trivial⟩
 ·rename_i hty;obtain⟨n,rfl⟩:=WideShapes.okWide_bool (Sx.tyB_spec (Ad6 (hT t) hty)) hval;exact⟨n,by simp only[Co,Rep],λ_=>trivial⟩
 ·rename_i hty;obtain⟨n,rfl⟩:=WideShapes.okWide_string (Sx.tyS_spec (G7 (hT t) hty)) hval;simp only[hty,zc,Ty.zero,cells] at hsh;obtain⟨b,m,rfl,h1,h2⟩:=Wg hsh;obtain rfl:=Aar h2;obtain⟨n',rfl⟩:=Bad h1;simp only[Value.cells,Reps] at hr;obtain⟨u,us,e,hr,_⟩:=hr;simp only[Ze2] at e;obtain⟨rfl,_⟩:=e;exact⟨n',hr,λhwt=>hsm hwt (.str n') (by simp)⟩
 ·rename_i c c' hty;simp only[Zg1] at hs;subst hs;obtain⟨by_,hE,_,_⟩:=Dq (hT t) hty;have hv:v.cells.toList=[v]:=by have hu:=hE.und;simp only[Value.okWide,hu,Cell.okWide] at hval;cases v<;>first|rfl|(simp[Cell.ok,hu] at hval;done)|(exfalso;simp_all [Cell.ok])
  rw[hv] at hr;simp only[hty,zc,Ty.zero,cells] at hsh;obtain⟨b,m,rfl,h1,h2⟩:=Wg hsh;obtain rfl:=Aar h2;obtain⟨ys,u,rfl⟩:=Bjx h1;simp only[Reps] at hr;obtain⟨u',us,e,hr,_⟩:=hr;simp only[Ze2] at e;obtain⟨rfl,_⟩:=e;refine⟨ys,?_,λhwt=>hsm hwt (.sl c ys u) (by simp)⟩;simp only[Co,Rep] at hr ⊢;exact⟨hr.1,trivial⟩
 ·rename_i c fs z c' hty;simp only[Zb1,Zg1] at hs;obtain⟨⟨rfl,ha⟩,hdec⟩:=hs;obtain⟨y,hy⟩:=Aua hdec hsh;have hE:=Rw hy hr;have hv:∃cs,v = .agg cs:=by
   have hok:=hT t;unfold C6 at hok;rw[hty] at hok;simp only[Zb1] at hok;have hfl:=hok.2;split at hfl
   ·rename_i fds hu;simp only[Value.okWide,hu] at hval;obtain⟨cs,h1,_⟩:=hval;exact⟨cs,h1⟩
   ·cases hfl
  obtain⟨cs,rfl⟩:=hv;refine⟨y,?_,λhwt=>Bnh hy (hsm hwt)⟩;simp only[Co,Rep];exact⟨ha,cs.toList,by simp,by simpa[Value.cells] using hE.1,by simpa[Value.cells] using hE.2⟩
 ·cases hs
def Auu(tt:Nat->Ty)(rd:List Nat):List TypeId->List Sg->Bool
 |[],[]=>true
 |t::ts,s::ss=>Bwj tt rd t s&&Auu tt rd ts ss
 |_,_=>false
theorem Azn{R:Nat×Nat}{M:TypeId->DataW H->Prop}(hM:Msr P R M)(hT:∀t,C6 P el tt t=true)(hrd:rdB el tt rd=true)(hsb:szB P el tt rd=true){r:Reach}{b0:Nat}:∀{ts:List TypeId}{sa:List Sg}{vs:List Value}{ds:List (DataW H)}{ps:List MemPlace}(i:Nat),Auu tt rd ts sa=true->(∀(j:Nat) t v,ts[j]? = some t->vs[j]? = some v->Value.okWide P w r b0 t v)->DataW.TrodAll enc' P w 0 sp held ts vs ds ps->∃x:HV sa,Reps (v0 el D4 w) (Cc i sa x) vs/\((∀(i:Nat) (t:TypeId) (d:DataW H),ts[i]? = some t->ds[i]? = some d->M t d)->SmL R sa x)
 |[],[],vs,ds,ps,i,_,_,h=>by cases vs with|nil=>exact⟨(),by simp[Cc,Reps],λ_=>trivial⟩|cons v vs=>cases ds<;>simp[DataW.TrodAll] at h
 |t::ts,[],_,_,_,_,hs,_,_=>by simp[Auu] at hs
 |[],s::ss,_,_,_,_,hs,_,_=>by simp[Auu] at hs
 |t::ts,s::ss,vs,ds,ps,i,hs,hval,h=>by simp only[Auu,Zb1] at hs;obtain⟨v,vs',d,ds',p,q,rfl,rfl,rfl,hd,hrest⟩:=trodAll_cons h;obtain⟨y,hy,hsy⟩:=Bri hM hT hrd hsb hs.1 (hval 0 t v rfl rfl) hd i;obtain⟨z,hz,hsz⟩:=Azn hM hT hrd hsb (i+1) hs.2 (λj t' v' h1 h2=>hval (j+1) t' v' (by simpa using h1) (by simpa using h2)) hrest;cases ss with|nil =>refine⟨y,?_,λhwt=>hsy (hwt 0 t d rfl rfl)⟩;simp only[Cc,Reps] at hz ⊢;exact⟨v,vs',rfl,hy,hz⟩|cons s' ss =>refine⟨(y,z),?_,λhwt=>⟨hsy (hwt 0 t d rfl rfl),hsz λj t' d' h1 h2=>hwt (j+1) t' d' (by simpa using h1) (by simpa using h2)⟩⟩;simp only[Cc,Reps];exact⟨v,vs',rfl,hy,hz⟩
theorem Aqk(hl:laidOutB P=true){W W':World}(hb:Below W.heap.size W W'):∀{ts:List TypeId}{vs:List Value}{ds:List (DataW H)}{ps:List MemPlace},(∀t,t∈ts->P.readableRec t=true/\t<P.types.size)->(∀x∈ps,x.block<W.heap.size)->DataW.TrodAll enc' P W 0 (λ_=>true) true ts vs ds ps->DataW.TrodAll enc' P W' 0 (λb=>decide (b<W.heap.size)) true ts vs ds ps
 |[],vs,ds,ps,_,_,h=>by
  cases vs<;>cases ds<;>simp[DataW.TrodAll] at h ⊢
  exact h
 |t::ts,vs,ds,ps,ht,hlt,h=>by obtain⟨v,vs',d,ds',p,q,rfl,rfl,rfl,hd,hrest⟩:=trodAll_cons h;obtain⟨h1,h2⟩:=ht t (by simp);exact⟨p,q,Below.trod hl h1 h2 hd hb (λx hx=>hlt x (by simp[hx])),Aqk hl hb (λt' h'=>ht t' (by simp[h'])) (λx hx=>hlt x (by simp[hx])) hrest,rfl⟩
end
end Go.Ax
namespace Go.Proofs.YtbkinkalnmbpjaaGreatDoor
open Go.Ax
def B0:Int:=20000000000000
mutual
theorem Ms{R:Nat×Nat}(hR:R.1<=R47):∀(n:Nat) (e:Xpr) (most:Int),A1 e<=n->SmExpr R e->1<=most->most<=600->1<=Cj e most/\Cj e most<=most+B0/\(Cj e most<most->(A1 e:Int)<=2*Cj e most-1)
 |0,e,_,h,_,_,_=>by have:=B5 e;omega
 |n+1,.mk k v nm l,most,h,hs,h1,h4=>by
  cases hs with
  |mk _ _ _ _ s1 s2 _ s3 =>
   simp only[Z9,R47] at s1 s2 hR;have e1:wr .i64 ((v.s.length:Int)+(nm.length:Int))=((v.s.length+nm.length:Nat):Int):=by rw[Bf (by simp only[inI];omega)];omega
   have e2:Int.tdiv ((v.s.length+nm.length:Nat):Int) 30=(((v.s.length+nm.length) / 30:Nat):Int):=rfl;have e3:wr .i64 (((v.s.length+nm.length) / 30:Nat):Int)=(((v.s.length+nm.length) / 30:Nat):Int):=Bf (by simp only[inI];omega);have e4:wr .i64 (1+(((v.s.length+nm.length) / 30:Nat):Int))=1+(((v.s.length+nm.length) / 30:Nat):Int):=Bf (by simp only[inI];omega);have hz:A1 (.mk k v nm l)=1+esizes l:=Bv _;simp only[Cj,e1,e2,e3,e4];obtain⟨q1,q2,q3⟩:=muchL_size hR n l most (1+(((v.s.length+nm.length) / 30:Nat):Int)) (by omega) s3 h4 (by omega) (by simp only[B0];omega);exact⟨by omega,q2,λh=>by have:=q3 h;omega⟩
theorem muchL_size{R:Nat×Nat}(hR:R.1<=R47):∀(n:Nat) (l:List Xpr) (most m:Int),esizes l<=n->(∀x,x∈l->SmExpr R x)->most<=600->1<=m->m<=most+B0->m<=muchL l most m/\muchL l most m<=most+B0/\(muchL l most m<most->2*m+(esizes l:Int)<=2*muchL l most m)
 |n,[],most,m,_,_,_,h1,h2=>by simp only[muchL,esizes];omega
 |n,x::l,most,m,h,hs,h4,h1,h2=>by
  simp only[muchL];by_cases hm:m<most
  ·rw[Ze1 hm,Af];have hx:=B5 x;simp only[esizes] at h;have w1:wr .i64 (most-m)=most-m:=Bf (by simp only[inI];omega);obtain⟨a1,a2,a3⟩:=Ms hR n x (most-m) (by omega) (hs x (.head _)) (by omega) (by omega);have w2:wr .i64 (m+Cj x (most-m))=m+Cj x (most-m):=Bf (by simp only[inI,B0] at *;omega);obtain⟨b1,b2,b3⟩:=muchL_size hR n l most (m+Cj x (most-m)) (by omega) (λy hy=>hs y (.tail _ hy)) h4 (by omega) (by omega);rw[w1,w2];refine⟨by omega,b2,λhlt =>?_⟩;have c1:=b3 hlt;have c2:=a3 (by omega);simp only[esizes];omega
  ·rw[Zd1 hm,Ag];exact⟨Int.le_refl _,h2,λh=>absurd h hm⟩
end
def bare(l:List Xpr):Xpr :=.mk 0 ⟨0,0,[]⟩ [] l
theorem Bc4{R:Nat×Nat}{l:List Xpr}(h:l.length<=R.2/\∀x,x∈l->SmExpr R x):SmExpr R (bare l) :=.mk _ _ _ _ (by simp[Z9]) (by simp) h.1 h.2
def rmR:List (List Xpr)->Int->Int->Int
 |[],_,n=>n
 |r::l,most,n=>cond (decide (n<most)) (rmR l most (wr .i64 (n+Cj (bare r) most))) n
def rmS:List SetE->Int->Int->Int
 |[],_,n=>n
 |x::l,most,n=>cond (decide (n<most)) (rmS l most (wr .i64 (n+Cj x.e most))) n
def rmN:List Str->Int->Int->Int
 |[],_,n=>n
 |x::l,most,n=>cond (decide (n<most)) (rmN l most (wr .i64 (n+wr .i64 (Int.tdiv (x.length:Int) 30)))) n
def n0(s:Stm)(most:Int):Int:=wr .i64 (wr .i64 (wr .i64 (wr .i64 (wr .i64 (wr .i64 ((s.cols.length:Int)+(s.names.length:Int))+(s.order.length:Int))+(s.desc.length:Int))+wr .i64 (Int.tdiv (wr .i64 ((s.name.length:Int)+(s.on.length:Int))) 30))+Cj s.whr most)+Cj (bare s.l) most)
def Aki:Sig:=⟨110,[(1,.int .i64),(5,.int .i64),(8,.int .i64)],[(2,.ptr 0 0)],[(0,.one (.sv .stmt))],1,0,0,[],[]⟩
abbrev V3:=Int×Int×Int×Stm
def Vr{R:Type}(rec:V3->Option R)(kx:Ex->V3->Option R)(v:V3):Option R:=match v with
 |(b,c,a,w2) =>
 cond (decide (a<(w2.names.length:Int))) (
  cond (decide (c<b)) (
  chk (inb a w2.names.length) (
   rec (b,(wr .i64 (c+(wr .i64 (Int.tdiv ((at' .str w2.names a).length:Int) 30)))),(wr .i64 (a+1)),w2))) (
  kx (.exit 4) (b,c,a,w2))) (
  kx (.exit 4) (b,c,a,w2))
def Ai1:Sig:=⟨110,[(1,.int .i64),(5,.int .i64),(7,.int .i64)],[(2,.ptr 0 0)],[(0,.one (.sv .stmt))],1,0,0,[],[]⟩
abbrev Ut:=Int×Int×Int×Stm
def Uc{R:Type}(rec:Ut->Option R)(kx:Ex->Ut->Option R)(v:Ut):Option R:=match v with
 |(v7,v8,v9,w1) =>
 cond (decide (v9<(w1.sets.length:Int))) (
  cond (decide (v8<v7)) (
  chk (inb v9 w1.sets.length) (
   rec (v7,(wr .i64 (v8+(Cj (Gf ((at' .set w1.sets v9).e)) v7))),(wr .i64 (v9+1)),w1))) (
  kx (.exit 2) (v7,v8,v9,w1))) (
  kx (.exit 2) (v7,v8,v9,w1))
def Amf:Sig:=⟨110,[(1,.int .i64),(5,.int .i64),(6,.int .i64)],[(2,.ptr 0 0)],[(0,.one (.sv .stmt))],1,0,0,[],[]⟩
abbrev Vk:=Int×Int×Int×Stm
def Ui{R:Type}(rec:Vk->Option R)(kx:Ex->Vk->Option R)(v:Vk):Option R:=match v with
 |(v,v1,v2,w) =>
 cond (decide (v2<(w.rows.length:Int))) (
  cond (decide (v1<v)) (
  chk (inb v2 w.rows.length) (
   rec (v,(wr .i64 (v1+(Cj (Xpr.mk 0 ⟨0,0,[]⟩ [] (at' .exprs w.rows v2)) v))),(wr .i64 (v2+1)),w))) (
  kx (.exit 0) (v,v1,v2,w))) (
  kx (.exit 0) (v,v1,v2,w))
def A2y(R:Type)(k:Nat):Px R:=pxO [(52,cA Axs)] [(52,qA Axs)] [(3,Am k Amf (Ui)),(7,Am k Ai1 (Uc)),(11,Am k Aki (Vr))] []
def Ai7(k:Nat)(x:HV [.sv .stmt,.int .i64]):Option (HV [.int .i64]):=match x with
 |(s,most) =>
 Al (λrec=>Ui rec (λe vz=>match vz with|(v3,v4,_,v6)=>match e with
  |.exit 0 =>
  Al (λrec=>Uc rec (λe vz=>match vz with|(a,b,_,c)=>match e with
   |.exit 2 =>
   Al (λrec=>Vr rec (λe vz=>match vz with|(_,d,_,_)=>match e with
    |.exit 4 =>
    some d
    |_=>none)) k (a,b,0,c)
   |_=>none)) k (v3,v4,0,v6)
  |_=>none)) k (most,(wr .i64 ((wr .i64 ((wr .i64 ((wr .i64 ((wr .i64 ((wr .i64 ((s.cols.length:Int)+(s.names.length:Int)))+(s.order.length:Int)))+(s.desc.length:Int)))+(wr .i64 (Int.tdiv (wr .i64 ((s.name.length:Int)+(s.on.length:Int))) 30))))+(Cj (Gf s.whr) most)))+(Cj (Xpr.mk 0 ⟨0,0,[]⟩ [] s.l) most))),0,s)
theorem Bi0(k:Nat):FO 22 [.sv .stmt,.int .i64] [.int .i64] (Ai7 k):=fR (px:=A2y _ k) (n:=3) Tryz.func22 rfl (λcx H=>by have h0:Lv cx (A2y (HV [.int .i64]) k):=lv H (c1 H A4a Ae) (q1 H A4a Ab) Aa;have hlrmuch_0:=lO H h0 (b:=lp Tryz.f22 0) (k:=k) (n:=0) (s:=Amf) (step:=Ui) (λ_ _ _ (_,_,_,_)=>by kernel_rfl) Ah;have hlrmuch_1:=lO H h0 (b:=lp Tryz.f22 1) (k:=k) (n:=0) (s:=Ai1) (step:=Uc) (λ_ _ _ (_,_,_,_)=>by kernel_rfl) Ah;have hlrmuch_2:=lO H h0 (b:=lp Tryz.f22 2) (k:=k) (n:=0) (s:=Aki) (step:=Vr) (λ_ _ _ (_,_,_,_)=>by kernel_rfl) Ah;exact⟨h0,(A5 (A5 (A5 Ah hlrmuch_0) hlrmuch_1) hlrmuch_2)⟩) λ(_,_)=>by kernel_rfl
def E8(s:Stm)(most:Int):Int:=rmN s.names most (rmS s.sets most (rmR s.rows most (n0 s most)))
def Aih:FT [.sv .stmt,.int .i64] [.int .i64]:=λx=>some (E8 x.1 x.2)
theorem Awm{R:Type}{kx:Ex->Vk->Option R}{s:Stm}{most:Int}{c:Int->Option R}(hn:ln s.rows.length)(h2:∀n i,kx (.exit 0) (most,n,i,s)=c n)(k:Nat)(hk:s.rows.length<k)(n:Int) :
  Al (λrec=>Ui rec kx) k (most,n,0,s)=c (rmR s.rows most n):=by
 refine(Dj s.rows.length (λi n=>(most,n,(i:Int),s)) (λ_ _=>True) (λi n=>c (rmR (s.rows.drop i) most n)) (λi hi n _ rec hr =>?_) (λn _ rec =>?_) k 0 n (Nat.zero_le _) (by omega) trivial).trans (by rw[Zq1])
 ·have hr:=hr (wr .i64 (n+Cj (bare s.rows[i]) most)) trivial;simp only[Ui,Cf hi,Af,Aw hi,chk,As (c :=.exprs) hi,Au hi hn,Ak hi,rmR,h2];cases decide (n<most) with|false=>rfl|true=>exact hr
 ·simp only[Ui,Cg,Ag,h2];rw[Zk1 (Zn1 _)];rfl
theorem Axz{R:Type}{kx:Ex->Ut->Option R}{s:Stm}{most:Int}{c:Int->Option R}(hn:ln s.sets.length)(h2:∀n i,kx (.exit 2) (most,n,i,s)=c n)(k:Nat)(hk:s.sets.length<k)(n:Int) :
  Al (λrec=>Uc rec kx) k (most,n,0,s)=c (rmS s.sets most n):=by
 refine(Dj s.sets.length (λi n=>(most,n,(i:Int),s)) (λ_ _=>True) (λi n=>c (rmS (s.sets.drop i) most n)) (λi hi n _ rec hr =>?_) (λn _ rec =>?_) k 0 n (Nat.zero_le _) (by omega) trivial).trans (by rw[Zq1])
 ·have hr:=hr (wr .i64 (n+Cj s.sets[i].e most)) trivial;simp only[Uc,Cf hi,Af,Aw hi,chk,As (c :=.set) hi,Au hi hn,Ak hi,rmS,h2,Fh];cases decide (n<most) with|false=>rfl|true=>exact hr
 ·simp only[Uc,Cg,Ag,h2];rw[Zk1 (Zn1 _)];rfl
theorem Av2{R:Type}{kx:Ex->V3->Option R}{s:Stm}{most:Int}{c:Int->Option R}(hn:ln s.names.length)(h2:∀n i,kx (.exit 4) (most,n,i,s)=c n)(k:Nat)(hk:s.names.length<k)(n:Int) :
  Al (λrec=>Vr rec kx) k (most,n,0,s)=c (rmN s.names most n):=by
 refine(Dj s.names.length (λi n=>(most,n,(i:Int),s)) (λ_ _=>True) (λi n=>c (rmN (s.names.drop i) most n)) (λi hi n _ rec hr =>?_) (λn _ rec =>?_) k 0 n (Nat.zero_le _) (by omega) trivial).trans (by rw[Zq1])
 ·have hr:=hr (wr .i64 (n+wr .i64 (Int.tdiv (s.names[i].length:Int) 30))) trivial;simp only[Vr,Cf hi,Af,Aw hi,chk,As (c :=.str) hi,Au hi hn,Ak hi,rmN,h2];cases decide (n<most) with|false=>rfl|true=>exact hr
 ·simp only[Vr,Cg,Ag,h2];rw[Zk1 (Zn1 _)];rfl
theorem A4r:FO 22 [.sv .stmt,.int .i64] [.int .i64] Aih :=.fin 0 Bi0 λ(s,most) r hb hx=>⟨s.rows.length+s.sets.length+s.names.length+1,by have hb:=hb.1;simp only[Aih,Za1] at hx;rw[<-hx];simp only[Ai7,Fh];refine(Awm (c:=λn=>some (rmN s.names most (rmS s.sets most n))) hb.rows.1 (λn i =>?_) _ (by omega) _).trans rfl;refine(Axz (c:=λn=>some (rmN s.names most n)) hb.sets.1 (λn i =>?_) _ (by omega) _).trans rfl;exact Av2 (c:=some) hb.names.1 (λn i=>rfl) _ (by omega) _⟩
theorem A4d{N:Int}(hN : 1<=N/\N<=600){R:Nat×Nat}(hR:R.1<=R47):∀(l:List (List Xpr)) (n:Int),0<=n->n<=1000000000000000->(∀r,r∈l->r.length<=R.2/\∀x,x∈r->SmExpr R x)->n<=rmR l N n/\rmR l N n<=1000000000000000/\(rmR l N n<N->n+(l.length:Int)<=rmR l N n/\∀r,r∈l->esizes r<=1200)
 |[],n,_,h,_=>⟨Int.le_refl _,h,λ_=>⟨by simp[rmR],λr hr=>by cases hr⟩⟩
 |r::l,n,h0,h1,hs=>by
  simp only[rmR];by_cases hn:n<N
  ·have hm:=Ms hR (A1 (bare r)) (bare r) N (Zn1 _) (Bc4 (hs r Zr1)) (by omega) (by omega);simp only[B0] at hm;have w:wr .i64 (n+Cj (bare r) N)=n+Cj (bare r) N:=Bf (by simp only[inI];omega);rw[Ze1 hn,Af,w];have ih:=A4d hN hR l (n+Cj (bare r) N) (by omega) (by omega) (λq hq=>hs q (Zu1 _ hq));refine⟨by omega,ih.2.1,λh =>?_⟩;obtain⟨h3,h4⟩:=ih.2.2 h;refine⟨by simp only[Zf1];omega,λq hq =>?_⟩;rcases List.mem_cons.1 hq with rfl|hq
   ·have hz:A1 (bare q)=1+esizes q:=Bv _;have:=hm.2.2 (by omega);omega
   ·exact h4 q hq
  ·rw[Zd1 hn,Ag];exact⟨Int.le_refl _,h1,λh=>absurd h hn⟩
theorem Ayy{N:Int}(hN : 1<=N/\N<=600){R:Nat×Nat}(hR:R.1<=R47):∀(l:List SetE) (n:Int),0<=n->n<=1000000000000000->(∀x,x∈l->SmExpr R x.e)->n<=rmS l N n/\rmS l N n<=1000000000000000/\(rmS l N n<N->n+(l.length:Int)<=rmS l N n/\∀x,x∈l->A1 x.e<=1200)
 |[],n,_,h,_=>⟨Int.le_refl _,h,λ_=>⟨by simp[rmS],λr hr=>by cases hr⟩⟩
 |x::l,n,h0,h1,hs=>by
  simp only[rmS];by_cases hn:n<N
  ·have hm:=Ms hR (A1 x.e) x.e N (Zn1 _) (hs x Zr1) (by omega) (by omega);simp only[B0] at hm;have w:wr .i64 (n+Cj x.e N)=n+Cj x.e N:=Bf (by simp only[inI];omega);rw[Ze1 hn,Af,w];have ih:=Ayy hN hR l (n+Cj x.e N) (by omega) (by omega) (λq hq=>hs q (Zu1 _ hq));refine⟨by omega,ih.2.1,λh =>?_⟩;obtain⟨h3,h4⟩:=ih.2.2 h;refine⟨by simp only[Zf1];omega,λq hq =>?_⟩;rcases List.mem_cons.1 hq with rfl|hq
   ·have:=hm.2.2 (by omega);omega
   ·exact h4 q hq
  ·rw[Zd1 hn,Ag];exact⟨Int.le_refl _,h1,λh=>absurd h hn⟩
theorem Azz{N:Int}(hN : 1<=N/\N<=600):∀(l:List Str) (n:Int),0<=n->n<=1000000000000000->(∀x,x∈l->x.length<=R47)->n<=rmN l N n/\rmN l N n<=1000000000000000
 |[],n,_,h,_=>⟨Int.le_refl _,h⟩
 |x::l,n,h0,h1,hs=>by
  simp only[rmN];by_cases hn:n<N
  ·have hx:=hs x Zr1;simp only[R47] at hx;have e2:Int.tdiv (x.length:Int) 30=((x.length / 30:Nat):Int):=rfl;have e3:wr .i64 ((x.length / 30:Nat):Int)=((x.length / 30:Nat):Int):=Bf (by simp only[inI];omega);have w:wr .i64 (n+((x.length / 30:Nat):Int))=n+((x.length / 30:Nat):Int):=Bf (by simp only[inI];omega);rw[Ze1 hn,Af,e2,e3,w];have ih:=Azz hN l (n+((x.length / 30:Nat):Int)) (by omega) (by omega) (λq hq=>hs q (Zu1 _ hq));omega
  ·rw[Zd1 hn,Ag];exact⟨Int.le_refl _,h1⟩
structure Few (s:Stm):Prop where
 cols:s.cols.length<=3100
 names:s.names.length<=3100
 order:s.order.length<=3100
 desc:s.desc.length<=3100
 name:s.name.length+s.on.length<=20000
 whr:A1 s.whr<=6200
 l:esizes s.l<=6200
 rows:s.rows.length<=3100/\∀r,r∈s.rows->esizes r<=6200
 sets:s.sets.length<=3100/\∀x,x∈s.sets->A1 x.e<=6200
theorem Ae1{N:Int}(hN : 1<=N/\N<=600){s:Stm}(hs:SmStm (R47,R47) s):(0<=E8 s N/\E8 s N<=1000000000000000)/\(E8 s N<N->Few s/\(s.cols.length:Int)+(s.names.length:Int)<=E8 s N/\esizes s.l<=1200):=by
 have hw:=Ms (R:=(R47,R47)) (Zn1 _) (A1 s.whr) s.whr N (Zn1 _) hs.whr (by omega) (by omega);have hl:=Ms (R:=(R47,R47)) (Zn1 _) (A1 (bare s.l)) (bare s.l) N (Zn1 _) (Bc4 hs.l) (by omega) (by omega);have hz:A1 (bare s.l)=1+esizes s.l:=Bv _;have c1:=hs.cols.1;have c2:=hs.names.1;have c3:=hs.order.1;have c4:=hs.desc;have c5:=hs.name;have c6:=hs.on;simp only[R47] at c1 c2 c3 c4 c5 c6;simp only[B0] at hw hl;have e1:wr .i64 ((s.cols.length:Int)+(s.names.length:Int))=(s.cols.length:Int)+(s.names.length:Int):=Bf (by simp only[inI];omega);have e2:wr .i64 ((s.cols.length:Int)+(s.names.length:Int)+(s.order.length:Int))=(s.cols.length:Int)+(s.names.length:Int)+(s.order.length:Int):=Bf (by simp only[inI];omega);have e3:wr .i64 ((s.cols.length:Int)+(s.names.length:Int)+(s.order.length:Int)+(s.desc.length:Int))=(s.cols.length:Int)+(s.names.length:Int)+(s.order.length:Int)+(s.desc.length:Int):=Bf (by simp only[inI];omega);have e4:wr .i64 ((s.name.length:Int)+(s.on.length:Int))=((s.name.length+s.on.length:Nat):Int):=by rw[Bf (by simp only[inI];omega)];omega
 have e5:Int.tdiv ((s.name.length+s.on.length:Nat):Int) 30=(((s.name.length+s.on.length) / 30:Nat):Int):=rfl;have e6:wr .i64 (((s.name.length+s.on.length) / 30:Nat):Int)=(((s.name.length+s.on.length) / 30:Nat):Int):=Bf (by simp only[inI];omega);have e7:wr .i64 ((s.cols.length:Int)+(s.names.length:Int)+(s.order.length:Int)+(s.desc.length:Int)+(((s.name.length+s.on.length) / 30:Nat):Int))=(s.cols.length:Int)+(s.names.length:Int)+(s.order.length:Int)+(s.desc.length:Int)+(((s.name.length+s.on.length) / 30:Nat):Int):=Bf (by simp only[inI];omega);have e8:wr .i64 ((s.cols.length:Int)+(s.names.length:Int)+(s.order.length:Int)+(s.desc.length:Int)+(((s.name.length+s.on.length) / 30:Nat):Int)+Cj s.whr N)=(s.cols.length:Int)+(s.names.length:Int)+(s.order.length:Int)+(s.desc.length:Int)+(((s.name.length+s.on.length) / 30:Nat):Int)+Cj s.whr N:=Bf (by simp only[inI];omega);have e9:wr .i64 ((s.cols.length:Int)+(s.names.length:Int)+(s.order.length:Int)+(s.desc.length:Int)+(((s.name.length+s.on.length) / 30:Nat):Int)+Cj s.whr N+Cj (bare s.l) N)=(s.cols.length:Int)+(s.names.length:Int)+(s.order.length:Int)+(s.desc.length:Int)+(((s.name.length+s.on.length) / 30:Nat):Int)+Cj s.whr N+Cj (bare s.l) N:=Bf (by simp only[inI];omega);have e0:n0 s N=(s.cols.length:Int)+(s.names.length:Int)+(s.order.length:Int)+(s.desc.length:Int)+(((s.name.length+s.on.length) / 30:Nat):Int)+Cj s.whr N+Cj (bare s.l) N:=by simp only[n0,e1,e2,e3,e4,e5,e6,e7,e8,e9]
 have hr:=A4d hN (R:=(R47,R47)) (Zn1 _) s.rows (n0 s N) (by omega) (by omega) hs.rows.2;have hst:=Ayy hN (R:=(R47,R47)) (Zn1 _) s.sets (rmR s.rows N (n0 s N)) (by omega) (by omega) (λx hx=>(hs.sets.2 x hx).2);have hn:=Azz hN s.names (rmS s.sets N (rmR s.rows N (n0 s N))) (by omega) (by omega) hs.names.2;refine⟨by simp only[E8];omega,λh =>?_⟩;simp only[E8] at h ⊢;have hst2:=hst.2.2 (by omega);have hr2:=hr.2.2 (by omega);have hw2:=hw.2.2 (by omega);have hl2:=hl.2.2 (by omega);exact⟨⟨by omega,by omega,by omega,by omega,by omega,by omega,by omega,⟨by omega,λr hr=>Nat.le_trans (hr2.2 r hr) (by decide)⟩,⟨by omega,λx hx=>Nat.le_trans (hst2.2 x hx) (by decide)⟩⟩,by omega,by omega⟩
theorem A0g{s:Str}(h:Df s=true):s.length<=30:=by have h:Lp.nameF s=true:=h;simp only[Lp.nameF,Zb1,Zg1] at h;omega
theorem Jh{V R α:Type}[DecidableEq α]{step:(V->Option R)->V->Option R}(l m:List α)(hm:l.length=m.length)(st:Nat->V)(no yes:Option R)
  (hs:∀i (h:i<l.length) (h2:i<m.length) rec,step rec (st i)=cond (!decide (l[i]=m[i])) no (rec (st (i+1)))) (he:∀rec,step rec (st l.length)=yes) (k:Nat) (hk:l.length<k):Al step k (st 0)=cond (decide (l=m)) yes no:=by
 refine(A3 l.length st (λi=>cond (decide (l.drop i=m.drop i)) yes no) (λi hi rec hr =>?_) (λrec =>?_) k 0 (Nat.zero_le _) (by omega)).trans (by rw[Zq1,Zq1])
 ·have hi2:i<m.length:=by omega
  rw[hs i hi hi2,hr,Ak hi,Ak hi2];by_cases h:l[i]=m[i]
  ·rw[Ze1 h,h];have:decide (m[i]::l.drop (i+1)=m[i]::m.drop (i+1))=decide (l.drop (i+1)=m.drop (i+1)):=Zy1.2 ⟨λe=>by injection e,λe=>by rw[e]⟩;rw[this];rfl
  ·rw[Zd1 h,Zd1 (show ¬l[i]::l.drop (i+1)=m[i]::m.drop (i+1) fromλe=>h (by injection e))];rfl
 ·rw[he,Zk1 (Zn1 _),Zk1 (by omega)];rfl
def Ag4:Sig:=⟨26,[(0,.sl .str false),(1,.sl .str false),(4,.bool),(5,.int .i64)],[],[],0,0,0,[],[]⟩
abbrev Yb:=List Str×List Str×Bool×Int
def Rf{R:Type}(rec:Yb->Option R)(kx:Ex->Yb->Option R)(v:Yb):Option R:=match v with
 |(v,v1,v2,v3) =>
 cond (decide (v3<(v.length:Int))) (
  chk (inb v3 v.length) (
  chk (inb v3 v1.length) (
   cond (!decide ((at' .str v v3)=(at' .str v1 v3))) (
   kx .ret (v,v1,false,v3)) (
   rec (v,v1,v2,(wr .i64 (v3+1))))))) (
  kx (.exit 0) (v,v1,v2,v3))
def Asl(R:Type)(k:Nat):Px R:=pxO [] [] [(4,Am k Ag4 (Rf))] []
def Agg(k:Nat)(x:HV [.sl .str false,.sl .str false]):Option (HV [.bool]):=match x with
 |(a,b) =>
 cond (!decide ((a.length:Int)=(b.length:Int))) (
  some false) (
  Al (λrec=>Rf rec (λe vz=>match vz with|(_,_,v6,_)=>match e with
  |.ret =>some v6
  |.exit 0 =>some true
  |_=>none)) k (a,b,false,0))
theorem A7k(k:Nat):FO 100 [.sl .str false,.sl .str false] [.bool] (Agg k):=fR (px:=Asl _ k) (n:=1) Tryz.func100 rfl (λcx H=>by have h0:Lv cx (Asl (HV [.bool]) k):=lv H Ae Ab Aa;have hlrsameN_0:=lO H h0 (b:=lp Tryz.f100 0) (k:=k) (n:=0) (s:=Ag4) (step:=Rf) (λ_ _ _ (_,_,_,_)=>by kernel_rfl) Ah;exact⟨h0,(A5 Ah hlrsameN_0)⟩) λ(_,_)=>by kernel_rfl
def Al7(a b:List Str):Bool:=decide (a=b)
def Ajb:FT [.sl .str false,.sl .str false] [.bool]:=λx=>some (Al7 x.1 x.2)
theorem Bmm{α:Type}{a b:List α}(h:¬(a.length:Int)=(b.length:Int)):¬a=b:=λe=>h (by rw[e])
theorem Bfk:FO 100 [.sl .str false,.sl .str false] [.bool] Ajb :=.fin 0 A7k λ(a,b) r hb hx=>⟨a.length+1,by
 simp only[Ajb,Al7,Za1] at hx;rw[<-hx];simp only[Agg];by_cases hl:(a.length:Int)=(b.length:Int)
 ·rw[Ze1 hl,Zt1,Ag];refine(Jh a b (by omega) (λi=>(a,b,false,(i:Int))) (some false) (some true) (λi h h2 rec =>?_) (λrec =>?_) (a.length+1) (by omega)).trans ?_
  ·simp only[Rf,Cf h,Af,Aw h,Aw h2,chk,As (c :=.str) h,As (c :=.str) h2,Au h hb.1.1]
  ·simp only[Rf,Cg,Ag]
  ·cases decide (a=b)<;>rfl
 ·rw[Zd1 hl,Zd1 (Bmm hl)];rfl⟩
def Bed(R:Type):Px R:=pxO [(99,cA Axb)] [] [] []
def Ta(x:HV [.sl .expr false,.sl .expr false]):Option (HV [.bool]):=match x with
 |(a,b) =>
 some (Aqt (Xpr.mk 0 ⟨0,0,[]⟩ [] a) (Xpr.mk 0 ⟨0,0,[]⟩ [] b))
theorem A4z:FO 101 [.sl .expr false,.sl .expr false] [.bool] (Ta):=fR (px:=Bed _) (n:=0) Tryz.func101 rfl (λ_ H=>⟨lv H (c1 H A2a Ae) Ab Aa,Ah⟩) λ(_,_)=>by kernel_rfl
def Ym(a:List Xpr)(b:List Xpr):Bool :=(Aqt (Xpr.mk 0 ⟨0,0,[]⟩ [] a) (Xpr.mk 0 ⟨0,0,[]⟩ [] b))
theorem A5w(x:HV [.sl .expr false,.sl .expr false]):Ta x=some (Ym x.1 x.2):=by
 first
  |exact rfl
  |simp only[Ta,Ym,A0]
def A1m:FT [.sl .expr false,.sl .expr false] [.bool]:=λx=>some (Ym x.1 x.2)
theorem Bfh:FO 101 [.sl .expr false,.sl .expr false] [.bool] A1m :=.fin0 A4z λx _ _ hx=>(A5w x).trans hx
theorem Ar3(a b:List Xpr):Ym a b=decide (a=b):=by have e:Ym a b=Gm (.mk 0 ⟨0,0,[]⟩ [] a) (.mk 0 ⟨0,0,[]⟩ [] b):=rfl;rw[e,Hp];exact Zy1.2 (by simp)
theorem Arf(a b:Xpr):Aqt a b=decide (a=b):=Hp a b
instance:DecidableEq SetE:=λa b=>decidable_of_iff (a.name=b.name/\a.e=b.e) (by cases a;cases b;simp only[SetE.mk.injEq])
def Agq:Sig:=⟨199,[(4,.bool),(8,.int .i64)],[(2,.ptr 0 0),(3,.ptr 1 0)],[(0,.one (.sv .stmt)),(1,.one (.sv .stmt))],2,0,0,[],[]⟩
abbrev Xm:=Bool×Int×Stm×Stm
def Rc{R:Type}(rec:Xm->Option R)(kx:Ex->Xm->Option R)(v:Xm):Option R:=match v with
 |(b,a,w6,w7) =>
 cond (decide (a<(w6.desc.length:Int))) (
  chk (inb a w6.desc.length) (
  chk (inb a w7.desc.length) (
   cond (!decide ((at' .bool w6.desc a)=(at' .bool w7.desc a))) (
   kx .ret (false,a,w6,w7)) (
   rec (b,(wr .i64 (a+1)),w6,w7))))) (
  kx (.exit 6) (b,a,w6,w7))
def Ae8:Sig:=⟨199,[(4,.bool),(7,.int .i64)],[(2,.ptr 0 0),(3,.ptr 1 0)],[(0,.one (.sv .stmt)),(1,.one (.sv .stmt))],2,0,0,[],[]⟩
abbrev Xs:=Bool×Int×Stm×Stm
def Tc{R:Type}(rec:Xs->Option R)(kx:Ex->Xs->Option R)(v:Xs):Option R:=match v with
 |(b,a,w4,w5) =>
 cond (decide (a<(w4.sets.length:Int))) (
  chk (inb a w4.sets.length) (
  chk (inb a w5.sets.length) (
   cond (!decide (((at' .set w4.sets a).name)=((at' .set w5.sets a).name))) (
   kx .ret (false,a,w4,w5)) (
   chk (inb a w4.sets.length) (
    chk (inb a w5.sets.length) (
    cond (!(Aqt (Gf ((at' .set w4.sets a).e)) (Gf ((at' .set w5.sets a).e)))) (
     kx .ret (false,a,w4,w5)) (
     rec (b,(wr .i64 (a+1)),w4,w5)))))))) (
  kx (.exit 4) (b,a,w4,w5))
def Agf:Sig:=⟨199,[(4,.bool),(6,.int .i64)],[(2,.ptr 0 0),(3,.ptr 1 0)],[(0,.one (.sv .stmt)),(1,.one (.sv .stmt))],2,0,0,[],[]⟩
abbrev Y0:=Bool×Int×Stm×Stm
def Q3{R:Type}(rec:Y0->Option R)(kx:Ex->Y0->Option R)(v:Y0):Option R:=match v with
 |(v6,v7,w2,w3) =>
 cond (decide (v7<(w2.rows.length:Int))) (
  chk (inb v7 w2.rows.length) (
  chk (inb v7 w3.rows.length) (
   cond (!(Ym (at' .exprs w2.rows v7) (at' .exprs w3.rows v7))) (
   kx .ret (false,v7,w2,w3)) (
   rec (v6,(wr .i64 (v7+1)),w2,w3))))) (
  kx (.exit 2) (v6,v7,w2,w3))
def Agy:Sig:=⟨199,[(4,.bool),(5,.int .i64)],[(2,.ptr 0 0),(3,.ptr 1 0)],[(0,.one (.sv .stmt)),(1,.one (.sv .stmt))],2,0,0,[],[]⟩
abbrev Yi:=Bool×Int×Stm×Stm
def Su{R:Type}(rec:Yi->Option R)(kx:Ex->Yi->Option R)(v:Yi):Option R:=match v with
 |(v,v1,w,w1) =>
 cond (decide (v1<(w.cols.length:Int))) (
  chk (inb v1 w.cols.length) (
  chk (inb v1 w1.cols.length) (
   cond (!decide ((at' .col w.cols v1)=(at' .col w1.cols v1))) (
   kx .ret (false,v1,w,w1)) (
   rec (v,(wr .i64 (v1+1)),w,w1))))) (
  kx (.exit 0) (v,v1,w,w1))
def Atf(R:Type)(k:Nat):Px R:=pxO [(99,cA Axb),(100,cA Ajb),(101,cA A1m)] [] [(6,Am k Agy (Su)),(11,Am k Agf (Q3)),(16,Am k Ae8 (Tc)),(21,Am k Agq (Rc))] []
def Afm(k:Nat)(x:HV [.sv .stmt,.sv .stmt]):Option (HV [.bool]):=match x with
 |(a,b) =>
 let j5:=λ(p:Bool) =>
  let j4:=λ(p1:Bool) =>
  let j3:=λ(p2:Bool) =>
   let j2:=λ(p3:Bool) =>
   let j1:=λ(p4:Bool) =>
    let j:=λ(p5:Bool) =>
    cond (p5) (
     some false) (
     cond (!(Al7 a.order b.order)) (
     some false) (
     cond (!(Ym a.l b.l)) (
      some false) (
      let j6:=λ(d:Bool) =>
      cond (d) (
       some false) (
       cond (!decide ((a.sets.length:Int)=(b.sets.length:Int))) (
       some false) (
       cond (!decide ((a.desc.length:Int)=(b.desc.length:Int))) (
        some false) (
        Al (λrec=>Su rec (λe vz=>match vz with|(v2,_,v4,v5)=>match e with
        |.ret =>some v2
        |.exit 0 =>
         Al (λrec=>Q3 rec (λe vz=>match vz with|(v8,_,f,g)=>match e with
         |.ret =>some v8
         |.exit 2 =>
          Al (λrec=>Tc rec (λe vz=>match vz with|(c,_,h,i)=>match e with
          |.ret =>some c
          |.exit 4 =>
           Al (λrec=>Rc rec (λe vz=>match vz with|(m,_,_,_)=>match e with
           |.ret =>some m
           |.exit 6 =>some true
           |_=>none)) k (c,0,h,i)
          |_=>none)) k (v8,0,f,g)
         |_=>none)) k (v2,0,v4,v5)
        |_=>none)) k (false,0,a,b))))
      cond (!decide ((a.cols.length:Int)=(b.cols.length:Int))) (
      j6 true) (
      j6 (!decide ((a.rows.length:Int)=(b.rows.length:Int)))))))
    cond (p4) (
    j true) (
    j (!(Al7 a.names b.names)))
   cond (p3) (
    j1 true) (
    j1 (!(Aqt (Gf a.whr) (Gf b.whr))))
   cond (p2) (
   j2 true) (
   j2 (!decide (a.most=b.most)))
  cond (p1) (
   j3 true) (
   j3 (!decide (a.has=b.has)))
  cond (p) (
  j4 true) (
  j4 (!decide (a.on=b.on)))
 cond (!decide (a.kind=b.kind)) (
  j5 true) (
  j5 (!decide (a.name=b.name)))
theorem A6z(k:Nat):FO 39 [.sv .stmt,.sv .stmt] [.bool] (Afm k):=fR (px:=Atf _ k) (n:=4) Tryz.func39 rfl (λcx H=>by have h0:Lv cx (Atf (HV [.bool]) k):=lv H (c1 H A2a (c1 H Bfk (c1 H Bfh Ae))) Ab Aa;have hlrsameS_0:=lO H h0 (b:=lp Tryz.f39 0) (k:=k) (n:=0) (s:=Agy) (step:=Su) (λ_ _ _ (_,_,_,_)=>by kernel_rfl) Ah;have hlrsameS_1:=lO H h0 (b:=lp Tryz.f39 1) (k:=k) (n:=0) (s:=Agf) (step:=Q3) (λ_ _ _ (_,_,_,_)=>by kernel_rfl) Ah;have hlrsameS_2:=lO H h0 (b:=lp Tryz.f39 2) (k:=k) (n:=0) (s:=Ae8) (step:=Tc) (λ_ _ _ (_,_,_,_)=>by kernel_rfl) Ah;have hlrsameS_3:=lO H h0 (b:=lp Tryz.f39 3) (k:=k) (n:=0) (s:=Agq) (step:=Rc) (λ_ _ _ (_,_,_,_)=>by kernel_rfl) Ah;exact⟨h0,(A5 (A5 (A5 (A5 Ah hlrsameS_0) hlrsameS_1) hlrsameS_2) hlrsameS_3)⟩) λ(_,_)=>by kernel_rfl
def Iq(a b:Stm):Bool:=decide (a=b)
def Aak:FT [.sv .stmt,.sv .stmt] [.bool]:=λx=>some (Iq x.1 x.2)
theorem Bmc{R:Type}(x y:SetE)(no yes:R):cond (!decide (x.name=y.name)) no (cond (!decide (x.e=y.e)) no yes)=cond (!decide (x=y)) no yes:=by
 have e:decide (x=y)=(decide (x.name=y.name)&&decide (x.e=y.e)):=by rw[<-Bool.decide_and];refine Zy1.2 ?_;cases x;cases y;simp only[SetE.mk.injEq]
 rw[e];cases decide (x.name=y.name)<;>rfl
theorem Btr{a b:Stm}(h1:a.kind=b.kind)(h2:a.name=b.name)(h3:a.on=b.on)(h4:a.cols=b.cols)(h5:a.names=b.names)(h6:a.l=b.l)(h7:a.rows=b.rows)(h8:a.sets=b.sets)(h9:a.has=b.has)(h10:a.whr=b.whr)(h11:a.order=b.order)(h12:a.desc=b.desc)(h13:a.most=b.most):a=b:=by cases a;cases b;simp only at h1 h2 h3 h4 h5 h6 h7 h8 h9 h10 h11 h12 h13;simp only[h1,h2,h3,h4,h5,h6,h7,h8,h9,h10,h11,h12,h13]
theorem As3:FO 39 [.sv .stmt,.sv .stmt] [.bool] Aak :=.fin 0 A6z λ(a,b) r hb hx=>⟨a.cols.length+a.rows.length+a.sets.length+a.desc.length+1,by
 simp only[Aak,Iq,Za1] at hx;rw[<-hx];have hb:=hb.1;have no:∀{p:Prop} [Decidable p],(a=b->p)->¬p->decide (a=b)=false:=λh hn=>Zd1 λe=>hn (h e);simp only[Afm,Fh,Ar3,Arf,Al7];by_cases h1:a.kind=b.kind
 case neg=>rw[Zd1 h1,no (λe=>by rw[e]) h1];rfl
 rw[Ze1 h1];by_cases h2:a.name=b.name
 case neg=>rw[Zd1 h2,no (λe=>by rw[e]) h2];rfl
 rw[Ze1 h2];by_cases h3:a.on=b.on
 case neg=>rw[Zd1 h3,no (λe=>by rw[e]) h3];rfl
 rw[Ze1 h3];by_cases h9:a.has=b.has
 case neg=>rw[Zd1 h9,no (λe=>by rw[e]) h9];rfl
 rw[Ze1 h9];by_cases h13:a.most=b.most
 case neg=>rw[Zd1 h13,no (λe=>by rw[e]) h13];rfl
 rw[Ze1 h13];by_cases h10:a.whr=b.whr
 case neg=>rw[Zd1 h10,no (λe=>by rw[e]) h10];rfl
 rw[Ze1 h10];by_cases h5:a.names=b.names
 case neg=>rw[Zd1 h5,no (λe=>by rw[e]) h5];rfl
 rw[Ze1 h5];by_cases h11:a.order=b.order
 case neg=>rw[Zd1 h11,no (λe=>by rw[e]) h11];rfl
 rw[Ze1 h11];by_cases h6:a.l=b.l
 case neg=>rw[Zd1 h6,no (λe=>by rw[e]) h6];rfl
 rw[Ze1 h6];by_cases l4:(a.cols.length:Int)=(b.cols.length:Int)
 case neg=>rw[Zd1 l4,no (λe=>by rw[e]) l4];rfl
 rw[Ze1 l4];by_cases l7:(a.rows.length:Int)=(b.rows.length:Int)
 case neg=>rw[Zd1 l7,no (λe=>by rw[e]) l7];rfl
 rw[Ze1 l7];by_cases l8:(a.sets.length:Int)=(b.sets.length:Int)
 case neg=>rw[Zd1 l8,no (λe=>by rw[e]) l8];rfl
 rw[Ze1 l8];by_cases l12:(a.desc.length:Int)=(b.desc.length:Int)
 case neg=>rw[Zd1 l12,no (λe=>by rw[e]) l12];rfl
 rw[Ze1 l12];simp only[Zt1,Ag];generalize hk:a.cols.length+a.rows.length+a.sets.length+a.desc.length+1=k;refine(Jh a.cols b.cols (by omega) (λi=>(false,(i:Int),a,b)) (some false) (cond (decide (a.rows=b.rows)) (cond (decide (a.sets=b.sets)) (cond (decide (a.desc=b.desc)) (some true) (some false)) (some false)) (some false)) (λi h h2 rec =>?_) (λrec =>?_) k (by omega)).trans ?_
 ·simp only[Su,Cf h,Af,Aw h,Aw h2,chk,As (c :=.col) h,As (c :=.col) h2,Au h hb.cols.1]
 ·simp only[Su,Cg,Ag];refine(Jh a.rows b.rows (by omega) (λi=>(false,(i:Int),a,b)) (some false) (cond (decide (a.sets=b.sets)) (cond (decide (a.desc=b.desc)) (some true) (some false)) (some false)) (λi h h2 rec =>?_) (λrec =>?_) k (by omega)).trans rfl
  ·simp only[Q3,Cf h,Af,Aw h,Aw h2,chk,As (c :=.exprs) h,As (c :=.exprs) h2,Au h hb.rows.1,Ar3]
  ·simp only[Q3,Cg,Ag];refine(Jh a.sets b.sets (by omega) (λi=>(false,(i:Int),a,b)) (some false) (cond (decide (a.desc=b.desc)) (some true) (some false)) (λi h h2 rec =>?_) (λrec =>?_) k (by omega)).trans rfl
   ·simp only[Tc,Cf h,Af,Aw h,Aw h2,chk,As (c :=.set) h,As (c :=.set) h2,Au h hb.sets.1,Fh,Arf];exact Bmc _ _ _ _
   ·simp only[Tc,Cg,Ag];refine(Jh a.desc b.desc (by omega) (λi=>(false,(i:Int),a,b)) (some false) (some true) (λi h h2 rec =>?_) (λrec =>?_) k (by omega)).trans rfl
    ·simp only[Rc,Cf h,Af,Aw h,Aw h2,chk,As (c :=.bool) h,As (c :=.bool) h2,Au h hb.desc]
    ·simp only[Rc,Cg,Ag]
 ·by_cases h4:a.cols=b.cols
  case neg=>rw[Zd1 h4,no (λe=>by rw[e]) h4];rfl
  by_cases h7:a.rows=b.rows
  case neg=>rw[Ze1 h4,Zd1 h7,no (λe=>by rw[e]) h7];rfl
  by_cases h8:a.sets=b.sets
  case neg=>rw[Ze1 h4,Ze1 h7,Zd1 h8,no (λe=>by rw[e]) h8];rfl
  by_cases h12:a.desc=b.desc
  case neg=>rw[Ze1 h4,Ze1 h7,Ze1 h8,Zd1 h12,no (λe=>by rw[e]) h12];rfl
  rw[Ze1 h4,Ze1 h7,Ze1 h8,Ze1 h12,Ze1 (Btr h1 h2 h3 h4 h5 h6 h7 h8 h9 h10 h11 h12 h13)];rfl⟩
def As5:Sig:=⟨27,[(0,.sl .expr false),(1,.int .i64),(4,.bool),(5,.int .i64)],[],[],0,0,0,[],[]⟩
abbrev Ajx:=List Xpr×Int×Bool×Int
def Apu{R:Type}(rec:Ajx->Option R)(kx:Ex->Ajx->Option R)(v:Ajx):Option R:=match v with
 |(v,v1,v2,v3) =>
 cond (decide (v3<(v.length:Int))) (
  chk (inb v3 v.length) (
  cond (decide (30<(Bl (at' .expr v v3)))) (
   kx .ret (v,v1,false,v3)) (
   rec (v,v1,v2,(wr .i64 (v3+1)))))) (
  kx (.exit 0) (v,v1,v2,v3))
def A98(R:Type)(k:Nat):Px R:=pxO [(134,cA Aif)] [] [(2,Am k As5 (Apu))] []
def Asr(k:Nat)(x:HV [.sl .expr false,.int .i64]):Option (HV [.bool]):=match x with
 |(l,least) =>
 Al (λrec=>Apu rec (λe vz=>match vz with|(v4,v5,v6,_)=>match e with
  |.ret =>
  some v6
  |.exit 0 =>
  cond (decide (v5<=(v4.length:Int))) (
   some (decide ((v4.length:Int)<=100))) (
   some false)
  |_=>none)) k (l,least,false,0)
theorem Bmj(k:Nat):FO 133 [.sl .expr false,.int .i64] [.bool] (Asr k):=fR (px:=A98 _ k) (n:=1) Tryz.func133 rfl (λcx H=>by have h0:Lv cx (A98 (HV [.bool]) k):=lv H (c1 H Alb Ae) Ab Aa;have hlrall_0:=lO H h0 (b:=lp Tryz.f133 0) (k:=k) (n:=0) (s:=As5) (step:=Apu) (λ_ _ _ (_,_,_,_)=>by kernel_rfl) Ah;exact⟨h0,(A5 Ah hlrall_0)⟩) λ(_,_)=>by kernel_rfl
def Wo(l:List Xpr)(n:Int):Bool:=l.all (λx=>decide (Bl x<=30))&&decide (n<=(l.length:Int))&&decide (l.length<=100)
def A8c:FT [.sl .expr false,.int .i64] [.bool]:=λx=>some (Wo x.1 x.2)
theorem A7u(n:Nat):decide ((n:Int)<=100)=decide (n<=100):=Zy1.2 (by omega)
theorem Brp:FO 133 [.sl .expr false,.int .i64] [.bool] A8c :=.fin 0 Bmj λ(l,n) r hb hx=>⟨l.length+1,by
 simp only[A8c,Wo,Za1] at hx;rw[<-hx];simp only[Asr];refine(A3 l.length (λi=>(l,n,false,(i:Int))) (λi=>some ((l.drop i).all (λx=>decide (Bl x<=30))&&decide (n<=(l.length:Int))&&decide (l.length<=100))) (λi hi rec hr =>?_) (λrec =>?_) (l.length+1) 0 (Nat.zero_le _) (by omega)).trans (by rw[Zq1])
 ·have e:decide (Bl l[i]<=30) = !decide (30<Bl l[i]):=by
   by_cases h : 30<Bl l[i]
   ·rw[Ze1 h,Zd1 (by omega)];rfl
   ·rw[Zd1 h,Ze1 (by omega)];rfl
  simp only[Apu,Cf hi,Af,Aw hi,chk,As (c :=.expr) hi,Au hi hb.1.1,hr,Ak hi,Zv1,e];cases decide (30<Bl l[i])<;>rfl
 ·simp only[Apu,Cg,Ag,A7u];rw[Zk1 (Zn1 _)];cases decide (n<=(l.length:Int))<;>rfl⟩
theorem Bcj{l:List Xpr}(h:esizes l<=10000)(n:Int):Wo l n=(Fx l&&decide (n<=(l.length:Int))):=by
 have e:l.all (λx=>decide (Bl x<=30))=l.all (λx=>A8 x 30):=by
  rw[Bool.eq_iff_iff,Zg2,Zg2];refine⟨λhx x hm =>?_,λhx x hm =>?_⟩
  ·have:=Bg hm;exact(Gi (A1 x) x 30 (Zn1 _) (by omega) (by omega)).2 (of_decide_eq_true (hx x hm))
  ·have:=Bg hm;exact Ze1 ((Gi (A1 x) x 30 (Zn1 _) (by omega) (by omega)).1 (hx x hm))
 simp only[Wo,Fx,e];cases l.all (λx=>A8 x 30)<;>cases decide (n<=(l.length:Int))<;>cases decide (l.length<=100)<;>rfl
theorem Bde{e:Xpr}(h:A1 e<=10000):decide (Bl e<=30)=A8 e 30:=by rw[Bool.eq_iff_iff,Zg1];exact(Gi (A1 e) e 30 (Zn1 _) (by omega) (by omega)).symm
def Amp:Sig:=⟨42,[(0,.sl .str false),(1,.int .i64),(4,.bool),(5,.int .i64),(6,.int .i64)],[],[],0,0,0,[],[]⟩
abbrev T3:=List Str×Int×Bool×Int×Int
def U0{R:Type}(rec:T3->Option R)(kx:Ex->T3->Option R)(v:T3):Option R:=match v with
 |(v4,v5,v6,v7,v8) =>
 cond (decide (v8<v7)) (
  chk (inb v7 v4.length) (
  chk (inb v8 v4.length) (
   cond (decide ((at' .str v4 v7)=(at' .str v4 v8))) (
   kx .ret (v4,v5,false,v7,v8)) (
   rec (v4,v5,v6,v7,(wr .i64 (v8+1))))))) (
  kx (.exit 2) (v4,v5,v6,v7,v8))
def Alm:Sig:=⟨42,[(0,.sl .str false),(1,.int .i64),(4,.bool),(5,.int .i64)],[],[],0,0,0,[],[]⟩
abbrev Ac2:=List Str×Int×Bool×Int
def Abr{R:Type}(k:Nat)(rec:Ac2->Option R)(kx:Ex->Ac2->Option R)(v:Ac2):Option R:=match v with
 |(v,v1,v2,v3) =>
 cond (decide (v3<(v.length:Int))) (
  chk (inb v3 v.length) (
  cond (!(Z0 (at' .str v v3))) (
   kx .ret (v,v1,false,v3)) (
   Al (λrc=>U0 rc (λe vz=>match vz with|(v9,a,b,c,_)=>match e with
   |.ret =>kx .ret (v9,a,b,c)
   |.exit 2 =>rec (v9,a,b,(wr .i64 (c+1)))
   |_=>none)) k (v,v1,v2,v3,0)))) (
  kx (.exit 0) (v,v1,v2,v3))
def A2c(R:Type)(k:Nat):Px R:=pxO [(131,cA Ab7)] [] [(7,Am k Amp (U0)),(2,Am k Alm (Abr k))] []
def Ajw(k:Nat)(x:HV [.sl .str false,.int .i64]):Option (HV [.bool]):=match x with
 |(l,least) =>
 Al (λrec=>Abr k rec (λe vz=>match vz with|(a,b,c,_)=>match e with
  |.ret =>
  some c
  |.exit 0 =>
  cond (decide (b<=(a.length:Int))) (
   some (decide ((a.length:Int)<=100))) (
   some false)
  |_=>none)) k (l,least,false,0)
theorem Bfc(k:Nat):FO 132 [.sl .str false,.int .i64] [.bool] (Ajw k):=fR (px:=A2c _ k) (n:=2) Tryz.func132 rfl (λcx H=>by have h0:Lv cx (A2c (HV [.bool]) k):=lv H (c1 H Ako Ae) Ab Aa;have hlronce_1:=lO H h0 (b:=lpC (lp Tryz.f132 0) 0) (k:=k) (n:=0) (s:=Amp) (step:=U0) (λ_ _ _ (_,_,_,_,_)=>by kernel_rfl) Ah;have hlronce_0:=lO H h0 (b:=lp Tryz.f132 0) (k:=k) (n:=1) (s:=Alm) (step:=Abr k) (λ_ _ _ (_,_,_,_)=>by kernel_rfl) (A5 Ah hlronce_1);exact⟨h0,(A5 (A5 Ah hlronce_0) hlronce_1)⟩) λ(_,_)=>by kernel_rfl
def Ls(l:List Str)(n:Int):Bool:=Ds l&&decide (n<=(l.length:Int))
def Ayi:FT [.sl .str false,.int .i64] [.bool]:=λx=>some (Ls x.1 x.2)
theorem Av3{R:Type}{kx:Ex->T3->Option R}{l:List Str}{n:Int}{i:Nat}{c:Bool->Option R}(hn:ln l.length)(hi:i<l.length)(h1:∀j,kx .ret (l,n,false,(i:Int),j)=c true)(h2:∀j,kx (.exit 2) (l,n,false,(i:Int),j)=c false)(k:Nat)(hk:i<k) :
  Al (λrec=>U0 rec kx) k (l,n,false,(i:Int),0)=c ((l.take i).contains l[i]):=by
 refine(A3 i (λj=>(l,n,false,(i:Int),(j:Int))) (λj=>c (((l.take i).drop j).contains l[i])) (λj hj rec hr =>?_) (λrec =>?_) k 0 (Nat.zero_le _) (by omega)).trans (by rw[Zq1])
 ·have hj2:j<l.length:=by omega
  have hj3:j<(l.take i).length:=by rw[List.length_take];omega
  have e:(l.take i)[j]=l[j]:=List.getElem_take;simp only[U0,Cf hj,Af,Aw hi,Aw hj2,chk,As (c :=.str) hi,As (c :=.str) hj2,Au hj2 hn,hr,h1,Ak hj3,List.contains_cons,e];by_cases h:l[i]=l[j]
  ·rw[Ze1 h,h];simp
  ·have hf:(l[i] == l[j])=false:=beq_eq_false_iff_ne.2 h;rw[Zd1 h,hf];rfl
 ·simp only[U0,Cg,Ag,h2];rw[Zk1 (by rw[List.length_take];omega)];rfl
theorem Bma:FO 132 [.sl .str false,.int .i64] [.bool] Ayi :=.fin 0 Bfc λ(l,n) r hb hx=>⟨l.length+1,by
 simp only[Ayi,Ls,Za1] at hx;rw[<-hx];simp only[Ajw];refine(A3 l.length (λi=>(l,n,false,(i:Int))) (λi=>some (S3 (l.take i) (l.drop i)&&decide (l.length<=100)&&decide (n<=(l.length:Int)))) (λi hi rec hr =>?_) (λrec =>?_) (l.length+1) 0 (Nat.zero_le _) (by omega)).trans (by rw[Zq1,List.take_zero];rfl)
 ·simp only[Abr,Cf hi,Af,Aw hi,chk,As (c :=.str) hi,Lh,Ak hi,S3];cases hl:Df l[i] with
  |false=>rfl
  |true =>
   rw[Zt1,Ag];refine(Av3 (c:=λb=>cond b (some false) (some (S3 (l.take (i+1)) (l.drop (i+1))&&decide (l.length<=100)&&decide (n<=(l.length:Int))))) hb.1.1 hi (λ_ =>?_) (λ_ =>?_) (l.length+1) (by omega)).trans ?_
   ·rfl
   ·show rec (l,n,false,wr .i64 ((i:Int)+1))=_;rw[Au hi hb.1.1,hr];rfl
   ·rw[Apq hi];cases (l.take i).contains l[i]<;>rfl
 ·simp only[Abr,Cg,Ag,A7u];rw[Zk1 (Zn1 _)];simp only[S3];cases decide (n<=(l.length:Int))<;>cases decide (l.length<=100)<;>rfl⟩
def A77(R:Type):Px R:=pxO [] [] [] []
def O1(x:HV [.sv .tbl]):Option (HV [.sv .stmt]):=match x with
 |t =>
 some (Stm.mk 1 t.name [] t.cols t.key t.checks [] [] false (Xpr.mk 0 ⟨0,0,[]⟩ [] []) [] [] 0)
theorem A17:FO 30 [.sv .tbl] [.sv .stmt] (O1):=fR (px:=A77 _) (n:=0) Tryz.func30 rfl (λ_ H=>⟨lv H Ae Ab Aa,Ah⟩) λ_=>by kernel_rfl
def B2(t:Tbl):Stm :=(Stm.mk 1 t.name [] t.cols t.key t.checks [] [] false (Xpr.mk 0 ⟨0,0,[]⟩ [] []) [] [] 0)
theorem A37(x:HV [.sv .tbl]):O1 x=some (B2 x):=by
 first
  |exact rfl
  |simp only[O1,B2,A0]
def Nz:FT [.sv .tbl] [.sv .stmt]:=λx=>some (B2 x)
theorem Pq:FO 30 [.sv .tbl] [.sv .stmt] Nz :=.fin0 A17 λx _ _ hx=>(A37 x).trans hx
instance:DecidableEq Idx:=λa b=>decidable_of_iff (a.name=b.name/\a.cols=b.cols) (by cases a;cases b;simp only[Idx.mk.injEq])
def ixS(x:Idx):Stm:=Stm.mk 0 x.name [] [] x.cols [] [] [] false (Xpr.mk 0 ⟨0,0,[]⟩ [] []) [] [] 0
theorem Bsb(x y:Idx):Iq (ixS x) (ixS y)=decide (x=y):=Zy1.2 (by cases x;cases y;simp[ixS])
def Abt:Sig:=⟨57,[(4,.bool),(5,.int .i64)],[(2,.ptr 0 0),(3,.ptr 1 0)],[(0,.one (.sv .tbl)),(1,.one (.sv .tbl))],2,0,0,[],[]⟩
abbrev Q1:=Bool×Int×Tbl×Tbl
def Nj{R:Type}(rec:Q1->Option R)(kx:Ex->Q1->Option R)(v:Q1):Option R:=match v with
 |(v,v1,w,w1) =>
 cond (decide (v1<(w.idx.length:Int))) (
  chk (inb v1 w.idx.length) (
  chk (inb v1 w.idx.length) (
   chk (inb v1 w1.idx.length) (
   chk (inb v1 w1.idx.length) (
    cond (!(Iq (Stm.mk 0 ((at' .idx w.idx v1).name) [] [] ((at' .idx w.idx v1).cols) [] [] [] false (Xpr.mk 0 ⟨0,0,[]⟩ [] []) [] [] 0) (Stm.mk 0 ((at' .idx w1.idx v1).name) [] [] ((at' .idx w1.idx v1).cols) [] [] [] false (Xpr.mk 0 ⟨0,0,[]⟩ [] []) [] [] 0))) (
    kx .ret (false,v1,w,w1)) (
    rec (v,(wr .i64 (v1+1)),w,w1))))))) (
  kx (.exit 0) (v,v1,w,w1))
def Anw(R:Type)(k:Nat):Px R:=pxO [(39,cA Aak),(30,cA Nz)] [(30,qA Nz)] [(4,Am k Abt (Nj))] []
def Aa3(k:Nat)(x:HV [.sv .tbl,.sv .tbl]):Option (HV [.bool]):=match x with
 |(a,b) =>
 cond (!decide ((a.idx.length:Int)=(b.idx.length:Int))) (
  some false) (
  Al (λrec=>Nj rec (λe vz=>match vz with|(v2,_,v4,v5)=>match e with
  |.ret =>some v2
  |.exit 0 =>some (Iq (B2 v4) (B2 v5))
  |_=>none)) k (false,0,a,b))
theorem A0v(k:Nat):FO 13 [.sv .tbl,.sv .tbl] [.bool] (Aa3 k):=fR (px:=Anw _ k) (n:=1) Tryz.func13 rfl (λcx H=>by have h0:Lv cx (Anw (HV [.bool]) k):=lv H (c1 H As3 (c1 H Pq Ae)) (q1 H Pq Ab) Aa;have hlrsame16_0:=lO H h0 (b:=lp Tryz.f13 0) (k:=k) (n:=0) (s:=Abt) (step:=Nj) (λ_ _ _ (_,_,_,_)=>by kernel_rfl) Ah;exact⟨h0,(A5 Ah hlrsame16_0)⟩) λ(_,_)=>by kernel_rfl
def Ayq(a b:Tbl):Bool:=cond (decide (a.idx=b.idx)) (Iq (B2 a) (B2 b)) false
def Adm:FT [.sv .tbl,.sv .tbl] [.bool]:=λx=>some (Ayq x.1 x.2)
theorem A71:FO 13 [.sv .tbl,.sv .tbl] [.bool] Adm :=.fin 0 A0v λ(a,b) r hb hx=>⟨a.idx.length+1,by
 simp only[Adm,Ayq,Za1] at hx;rw[<-hx];simp only[Aa3];by_cases hl:(a.idx.length:Int)=(b.idx.length:Int)
 ·rw[Ze1 hl,Zt1,Ag];refine(Jh a.idx b.idx (by omega) (λi=>(false,(i:Int),a,b)) (some false) (some (Iq (B2 a) (B2 b))) (λi h h2 rec =>?_) (λrec =>?_) (a.idx.length+1) (by omega)).trans ?_
  ·have e:=Bsb a.idx[i] b.idx[i];simp only[ixS] at e;simp only[Nj,Cf h,Af,Aw h,Aw h2,chk,As (c :=.idx) h,As (c :=.idx) h2,Au h hb.1.idx.1,e]
  ·simp only[Nj,Cg,Ag]
  ·cases decide (a.idx=b.idx)<;>rfl
 ·rw[Zd1 hl,Zd1 (Bmm hl)];rfl⟩
def rmI:List Idx->Int->Int->Int
 |[],_,n=>n
 |x::l,most,n=>cond (decide (n<most)) (rmI l most (wr .i64 (n+E8 (ixS x) most))) n
def rmC:List Col->Int->Int->Int
 |[],_,n=>n
 |c::l,most,n=>cond (decide (n<most)) (rmC l most (wr .i64 (n+wr .i64 (Int.tdiv (wr .i64 ((c.name.length:Int)+(c.ref.length:Int))) 30)))) n
def Aa7:Sig:=⟨76,[(1,.int .i64),(5,.int .i64),(7,.int .i64)],[(2,.ptr 0 0)],[(0,.one (.sv .tbl))],1,0,0,[],[]⟩
abbrev K6:=Int×Int×Int×Tbl
def Jb{R:Type}(rec:K6->Option R)(kx:Ex->K6->Option R)(v:K6):Option R:=match v with
 |(v7,v8,v9,w1) =>
 cond (decide (v9<(w1.cols.length:Int))) (
  cond (decide (v8<v7)) (
  chk (inb v9 w1.cols.length) (
   chk (inb v9 w1.cols.length) (
   rec (v7,(wr .i64 (v8+(wr .i64 (Int.tdiv (wr .i64 ((((at' .col w1.cols v9).name).length:Int)+(((at' .col w1.cols v9).ref).length:Int))) 30)))),(wr .i64 (v9+1)),w1)))) (
  kx (.exit 2) (v7,v8,v9,w1))) (
  kx (.exit 2) (v7,v8,v9,w1))
def Zj:Sig:=⟨76,[(1,.int .i64),(5,.int .i64),(6,.int .i64)],[(2,.ptr 0 0)],[(0,.one (.sv .tbl))],1,0,0,[],[]⟩
abbrev Kv:=Int×Int×Int×Tbl
def Ja{R:Type}(rec:Kv->Option R)(kx:Ex->Kv->Option R)(v:Kv):Option R:=match v with
 |(v,v1,v2,w) =>
 cond (decide (v2<(w.idx.length:Int))) (
  cond (decide (v1<v)) (
  chk (inb v2 w.idx.length) (
   chk (inb v2 w.idx.length) (
   rec (v,(wr .i64 (v1+(E8 (Stm.mk 0 ((at' .idx w.idx v2).name) [] [] ((at' .idx w.idx v2).cols) [] [] [] false (Xpr.mk 0 ⟨0,0,[]⟩ [] []) [] [] 0) v))),(wr .i64 (v2+1)),w)))) (
  kx (.exit 0) (v,v1,v2,w))) (
  kx (.exit 0) (v,v1,v2,w))
def Amn(R:Type)(k:Nat):Px R:=pxO [] [(30,qA Nz),(22,qA Aih)] [(3,Am k Zj (Ja)),(7,Am k Aa7 (Jb))] []
def Abn(k:Nat)(x:HV [.sv .tbl,.int .i64]):Option (HV [.int .i64]):=match x with
 |(t,most) =>
 Al (λrec=>Ja rec (λe vz=>match vz with|(v3,v4,_,v6)=>match e with
  |.exit 0 =>
  Al (λrec=>Jb rec (λe vz=>match vz with|(_,a,_,_)=>match e with
   |.exit 2 =>
   some a
   |_=>none)) k (v3,v4,0,v6)
  |_=>none)) k (most,(wr .i64 ((E8 (B2 t) most)+(t.idx.length:Int))),0,t)
theorem A1w(k:Nat):FO 21 [.sv .tbl,.int .i64] [.int .i64] (Abn k):=fR (px:=Amn _ k) (n:=2) Tryz.func21 rfl (λcx H=>by have h0:Lv cx (Amn (HV [.int .i64]) k):=lv H Ae (q1 H Pq (q1 H A4r Ab)) Aa;have hlrmuch16_0:=lO H h0 (b:=lp Tryz.f21 0) (k:=k) (n:=0) (s:=Zj) (step:=Ja) (λ_ _ _ (_,_,_,_)=>by kernel_rfl) Ah;have hlrmuch16_1:=lO H h0 (b:=lp Tryz.f21 1) (k:=k) (n:=0) (s:=Aa7) (step:=Jb) (λ_ _ _ (_,_,_,_)=>by kernel_rfl) Ah;exact⟨h0,(A5 (A5 Ah hlrmuch16_0) hlrmuch16_1)⟩) λ(_,_)=>by kernel_rfl
def Pe(t:Tbl)(most:Int):Int:=rmC t.cols most (rmI t.idx most (wr .i64 (E8 (B2 t) most+(t.idx.length:Int))))
def Adc:FT [.sv .tbl,.int .i64] [.int .i64]:=λx=>some (Pe x.1 x.2)
theorem Akx{R:Type}{kx:Ex->Kv->Option R}{t:Tbl}{most:Int}{c:Int->Option R}(hn:ln t.idx.length)(h2:∀n i,kx (.exit 0) (most,n,i,t)=c n)(k:Nat)(hk:t.idx.length<k)(n:Int) :
  Al (λrec=>Ja rec kx) k (most,n,0,t)=c (rmI t.idx most n):=by
 refine(Dj t.idx.length (λi n=>(most,n,(i:Int),t)) (λ_ _=>True) (λi n=>c (rmI (t.idx.drop i) most n)) (λi hi n _ rec hr =>?_) (λn _ rec =>?_) k 0 n (Nat.zero_le _) (by omega) trivial).trans (by rw[Zq1])
 ·have hr:=hr (wr .i64 (n+E8 (ixS t.idx[i]) most)) trivial;simp only[ixS] at hr;simp only[Ja,Cf hi,Af,Aw hi,chk,As (c :=.idx) hi,Au hi hn,Ak hi,rmI,h2,ixS];cases decide (n<most) with|false=>rfl|true=>exact hr
 ·simp only[Ja,Cg,Ag,h2];rw[Zk1 (Zn1 _)];rfl
theorem Aoa{R:Type}{kx:Ex->K6->Option R}{t:Tbl}{most:Int}{c:Int->Option R}(hn:ln t.cols.length)(h2:∀n i,kx (.exit 2) (most,n,i,t)=c n)(k:Nat)(hk:t.cols.length<k)(n:Int) :
  Al (λrec=>Jb rec kx) k (most,n,0,t)=c (rmC t.cols most n):=by
 refine(Dj t.cols.length (λi n=>(most,n,(i:Int),t)) (λ_ _=>True) (λi n=>c (rmC (t.cols.drop i) most n)) (λi hi n _ rec hr =>?_) (λn _ rec =>?_) k 0 n (Nat.zero_le _) (by omega) trivial).trans (by rw[Zq1])
 ·have hr:=hr (wr .i64 (n+wr .i64 (Int.tdiv (wr .i64 ((t.cols[i].name.length:Int)+(t.cols[i].ref.length:Int))) 30))) trivial;simp only[Jb,Cf hi,Af,Aw hi,chk,As (c :=.col) hi,Au hi hn,Ak hi,rmC,h2];cases decide (n<most) with|false=>rfl|true=>exact hr
 ·simp only[Jb,Cg,Ag,h2];rw[Zk1 (Zn1 _)];rfl
theorem A6n:FO 21 [.sv .tbl,.int .i64] [.int .i64] Adc :=.fin 0 A1w λ(t,most) r hb hx=>⟨t.idx.length+t.cols.length+1,by have hb:=hb.1;simp only[Adc,Za1] at hx;rw[<-hx];simp only[Abn];refine(Akx (c:=λn=>some (rmC t.cols most n)) hb.idx.1 (λn i =>?_) _ (by omega) _).trans rfl;exact Aoa (c:=some) hb.cols.1 (λn i=>rfl) _ (by omega) _⟩
theorem Azt{N:Int}(hN : 1<=N/\N<=600):∀(l:List Idx) (n:Int),0<=n->n<=2000000000000000->(∀x,x∈l->Bla (R47,R47) x)->n<=rmI l N n/\rmI l N n<=2000000000000000/\(rmI l N n<N->∀x,x∈l->x.cols.length<=600)
 |[],n,_,h,_=>⟨Int.le_refl _,h,λ_ x hx=>by cases hx⟩
 |x::l,n,h0,h1,hs=>by
  simp only[rmI];by_cases hn:n<N
  ·have hx:=hs x Zr1;have hsm:SmStm (R47,R47) (ixS x):=⟨hx.1,by simp[ixS],by simp[ixS],hx.2,by simp[ixS],by simp[ixS],by simp[ixS],.mk _ _ _ _ (by simp[Z9]) (by simp) (by simp) (by simp),by simp[ixS],by simp[ixS]⟩;obtain⟨a1,a2⟩:=Ae1 hN hsm;have w:wr .i64 (n+E8 (ixS x) N)=n+E8 (ixS x) N:=Bf (by simp only[inI];omega);rw[Ze1 hn,Af,w];obtain⟨b1,b2,b3⟩:=Azt hN l (n+E8 (ixS x) N) (by omega) (by omega) (λq hq=>hs q (Zu1 _ hq));refine⟨by omega,b2,λh y hy =>?_⟩;rcases List.mem_cons.1 hy with rfl|hy
   ·have a3:=(a2 (by omega)).2.1;simp only[ixS,Zi1] at a3;have e:E8 (ixS y) N=E8 (Stm.mk 0 y.name [] [] y.cols [] [] [] false (Xpr.mk 0 ⟨0,0,[]⟩ [] []) [] [] 0) N:=rfl;omega
   ·exact b3 h y hy
  ·rw[Zd1 hn,Ag];exact⟨Int.le_refl _,h1,λh=>absurd h hn⟩
theorem Azo{N:Int}(hN : 1<=N/\N<=600):∀(l:List Col) (n:Int),0<=n->n<=2000000000000000->(∀c,c∈l->c.name.length<=R47/\c.ref.length<=R47)->n<=rmC l N n
 |[],n,_,h,_=>Int.le_refl _
 |x::l,n,h0,h1,hs=>by
  simp only[rmC];by_cases hn:n<N
  ·obtain⟨c1,c2⟩:=hs x Zr1;simp only[R47] at c1 c2;have e4:wr .i64 ((x.name.length:Int)+(x.ref.length:Int))=((x.name.length+x.ref.length:Nat):Int):=by rw[Bf (by simp only[inI];omega)];omega
   have e5:Int.tdiv ((x.name.length+x.ref.length:Nat):Int) 30=(((x.name.length+x.ref.length) / 30:Nat):Int):=rfl;have e6:wr .i64 (((x.name.length+x.ref.length) / 30:Nat):Int)=(((x.name.length+x.ref.length) / 30:Nat):Int):=Bf (by simp only[inI];omega);have w:wr .i64 (n+(((x.name.length+x.ref.length) / 30:Nat):Int))=n+(((x.name.length+x.ref.length) / 30:Nat):Int):=Bf (by simp only[inI];omega);rw[Ze1 hn,Af,e4,e5,e6,w];have ih:=Azo hN l (n+(((x.name.length+x.ref.length) / 30:Nat):Int)) (by omega) (by omega) (λq hq=>hs q (Zu1 _ hq));omega
  ·rw[Zd1 hn,Ag];exact Int.le_refl _
structure FewT (t:Tbl):Prop where
 stm:Few (B2 t)
 idx:t.idx.length<=600/\∀x,x∈t.idx->x.cols.length<=600
 l:esizes t.checks<=1200
theorem A3c{N:Int}(hN : 1<=N/\N<=600){t:Tbl}(hs:SmTbl (R47,R47) t)(h:Pe t N<N):FewT t:=by have hsm:SmStm (R47,R47) (B2 t):=⟨hs.name,by simp[B2],hs.cols,hs.key,hs.checks,by simp[B2],by simp[B2],.mk _ _ _ _ (by simp[Z9]) (by simp) (by simp) (by simp),by simp[B2],by simp[B2]⟩;obtain⟨a1,a2⟩:=Ae1 hN hsm;have c1:=hs.idx.1;simp only[R47] at c1;have w:wr .i64 (E8 (B2 t) N+(t.idx.length:Int))=E8 (B2 t) N+(t.idx.length:Int):=Bf (by simp only[inI];omega);simp only[Pe,w] at h;obtain⟨b1,b2,b3⟩:=Azt hN t.idx (E8 (B2 t) N+(t.idx.length:Int)) (by omega) (by omega) hs.idx.2;have b4:=Azo hN t.cols _ (by omega) b2 hs.cols.2;exact⟨(a2 (by omega)).1,⟨by omega,b3 (by omega)⟩,(a2 (by omega)).2.2⟩
def Bin(R:Type):Px R:=pxO [(21,cA Adc),(22,cA Aih)] [] [] []
def Td(x:HV [.sv .tbl,.sv .stmt]):Option (HV [.bool]):=match x with
 |(t,s) =>
 cond (decide (600<=(Pe t 600))) (
  some true) (
  some (decide (600<=(E8 s 600))))
theorem A9p:FO 6 [.sv .tbl,.sv .stmt] [.bool] (Td):=fR (px:=Bin _) (n:=0) Tryz.func6 rfl (λ_ H=>⟨lv H (c1 H A6n (c1 H A4r Ae)) Ab Aa,Ah⟩) λ(_,_)=>by kernel_rfl
def P6(t:Tbl)(s:Stm):Bool :=
 cond (decide (600<=(Pe t 600))) (
  true) (
  (decide (600<=(E8 s 600))))
theorem A5r(x:HV [.sv .tbl,.sv .stmt]):Td x=some (P6 x.1 x.2):=by
 first
  |exact rfl
  |simp only[Td,P6,A0]
def A0u:FT [.sv .tbl,.sv .stmt] [.bool]:=λx=>some (P6 x.1 x.2)
theorem Bir:FO 6 [.sv .tbl,.sv .stmt] [.bool] A0u :=.fin0 A9p λx _ _ hx=>(A5r x).trans hx
def A68(R:Type):Px R:=pxO [] [] [] []
def Qg(x:HV []):Option (HV [.sv .tbl]):=match x with
 |() =>
 some (Tbl.mk [116] [(Col.mk [97] 3 false false []),(Col.mk [98] 4 false false [])] [[97]] [(Xpr.mk 10 ⟨0,0,[]⟩ [] [(Xpr.mk 2 ⟨0,0,[]⟩ [97] []),(Xpr.mk 1 ⟨3,0,[]⟩ [] [])])] [])
theorem A2t:FO 23 [] [.sv .tbl] (Qg):=fR (px:=A68 _) (n:=0) Tryz.func23 rfl (λ_ H=>⟨lv H Ae Ab Aa,Ah⟩) λ()=>by kernel_rfl
def I8:Tbl :=(Tbl.mk [116] [(Col.mk [97] 3 false false []),(Col.mk [98] 4 false false [])] [[97]] [(Xpr.mk 10 ⟨0,0,[]⟩ [] [(Xpr.mk 2 ⟨0,0,[]⟩ [97] []),(Xpr.mk 1 ⟨3,0,[]⟩ [] [])])] [])
theorem A0y(x:HV []):Qg x=some (I8):=by
 first
  |exact rfl
  |simp only[Qg,I8,A0]
def Aut:FT [] [.sv .tbl]:=λ_=>some (I8)
theorem A6w:FO 23 [] [.sv .tbl] Aut :=.fin0 A2t λx _ _ hx=>(A0y x).trans hx
def A6c(R:Type):Px R:=pxO [(23,cA Aut),(8,cA A66),(10,cA Bkx),(14,cA Avw),(17,cA N8),(13,cA Adm)] [] [] []
def Abg(x:HV []):Option (HV [.bool]):=match x with
 |() =>
 (Bvt I8).bind λ(x,x1) =>
  (Bxv x).bind λ(x2,x3) =>
  (Rn I8 [(Val.mk 3 1 []),(Val.mk 1 0 [])]).bind λx4 =>
   let j5:=λ(p:Bool) =>
   let j4:=λ(p1:Bool) =>
    let j3:=λ(p2:Bool) =>
    let j2:=λ(p3:Bool) =>
     let j1:=λ(p4:Bool) =>
     let j:=λ(p5:Bool) =>
      cond (p5) (
      (O2 (Tbl.mk [] [] [] [] [])).bind λx8 =>some (decide (x8=2))) (
      some false)
     cond (p4) (
      j (Ayq x2 I8)) (
      j false)
     cond (p3) (
     j1 (decide (x3=0))) (
     j1 false)
    cond (p2) (
     j2 (decide (x1=0))) (
     j2 false)
    cond (p1) (
    (O2 I8).bind λx7 =>j3 (decide (x7=0))) (
    j3 false)
   cond (p) (
    (Rn I8 [(Val.mk 1 0 []),(Val.mk 1 0 [])]).bind λx6 =>
    j4 (decide (x6=161))) (
    j4 false)
   cond (decide (x4=0)) (
   (Rn I8 [(Val.mk 3 0 []),(Val.mk 1 0 [])]).bind λx5 =>j5 (decide (x5=162))) (
   j5 false)
theorem A2j:FO 7 [] [.bool] (Abg):=fR (px:=A6c _) (n:=0) Tryz.func7 rfl (λ_ H=>⟨lv H (c1 H A6w (c1 H Bb3 (c1 H Bty (c1 H Azy (c1 H U3 (c1 H A71 Ae)))))) Ab Aa,Ah⟩) λ()=>by kernel_rfl
def Zs:Option Bool:=Abg ()
def Ar8:FT [] [.bool]:=λ_=>Zs
theorem A70:FO 7 [] [.bool] Ar8 :=.fin0 A2j λ_ _ _ hx=>hx
noncomputable section
def Ara:Sig:=⟨259,[(4,.bool),(5,.sl .str true),(9,.int .i64)],[(1,.ptr 0 0),(3,.ptr 1 0)],[(0,.one (.sv .stmt)),(1,.one (.sv .stmt))],2,0,0,[],[]⟩
abbrev Aap:=Bool×List Str×Int×Stm×Stm
def Aea{R:Type}(rec:Aap->Option R)(kx:Ex->Aap->Option R)(v:Aap):Option R:=match v with
 |(c,b,a,w4,w5) =>
 cond (decide (a<(w4.sets.length:Int))) (
  chk (inb a w4.sets.length) (
  chk (decide (b.length+1<=Ao)) (
   cond (c) (
   chk (inb a w4.sets.length) (
    rec (decide ((Bl (Gf ((at' .set w4.sets a).e)))<=30),(b++[((at' .set w4.sets a).name)]),(wr .i64 (a+1)),w4,w5))) (
   rec (false,(b++[((at' .set w4.sets a).name)]),(wr .i64 (a+1)),w4,w5))))) (
  kx (.exit 5) (c,b,a,w4,w5))
def As6:Sig:=⟨259,[(4,.bool),(8,.int .i64)],[(1,.ptr 0 0),(3,.ptr 1 0)],[(0,.one (.sv .stmt)),(1,.one (.sv .stmt))],2,0,0,[],[]⟩
abbrev Abb:=Bool×Int×Stm×Stm
def Yq{R:Type}(rec:Abb->Option R)(kx:Ex->Abb->Option R)(v:Abb):Option R:=match v with
 |(v8,v9,w2,w3) =>
 cond (decide (v9<(w2.rows.length:Int))) (
  cond (v8) (
  chk (inb v9 w2.rows.length) (
   rec ((Wo (at' .exprs w2.rows v9) 1),(wr .i64 (v9+1)),w2,w3))) (
  rec (false,(wr .i64 (v9+1)),w2,w3))) (
  kx (.exit 3) (v8,v9,w2,w3))
def Aug:Sig:=⟨259,[(4,.bool),(5,.sl .str true),(6,.int .i64)],[(1,.ptr 0 0),(3,.ptr 1 0)],[(0,.one (.sv .stmt)),(1,.one (.sv .stmt))],2,0,0,[],[]⟩
abbrev Acf:=Bool×List Str×Int×Stm×Stm
def Ae2{R:Type}(rec:Acf->Option R)(kx:Ex->Acf->Option R)(v:Acf):Option R:=match v with
 |(v,v1,v2,w,w1) =>
 cond (decide (v2<(w.cols.length:Int))) (
  chk (inb v2 w.cols.length) (
  chk (decide (v1.length+1<=Ao)) (
   let j1:=λ(p4:Bool) =>
   let j:=λ(p5:Bool) =>
    cond (p5) (
    cond (decide (((at' .col w.cols v2).ref)=[])) (
     rec (true,(v1++[((at' .col w.cols v2).name)]),(wr .i64 (v2+1)),w,w1)) (
     rec ((Z0 ((at' .col w.cols v2).ref)),(v1++[((at' .col w.cols v2).name)]),(wr .i64 (v2+1)),w,w1))) (
    rec (false,(v1++[((at' .col w.cols v2).name)]),(wr .i64 (v2+1)),w,w1))
   cond (p4) (
    j (decide ((at' .col w.cols v2).kind<=5))) (
    j false)
   cond (v) (
   j1 (decide (2<=(at' .col w.cols v2).kind))) (
   j1 false)))) (
  kx (.exit 1) (v,v1,v2,w,w1))
def Baj(R:Type)(k:Nat):Px R:=pxO [(131,cA Ab7),(132,cA Ayi),(133,cA A8c),(134,cA Aif),(39,cA Aak)] [] [(7,Am k Aug (Ae2)),(24,Am k As6 (Yq)),(30,Am k Ara (Aea))] []
def Acv(k:Nat)(x:HV [.sv .stmt]):Option (HV [.int .i64]):=match x with
 |s =>
 let a:Bool->Option (HV [.int .i64]):=λ(p3:Bool) =>
  let j9:Bool->Stm->Stm->Option (HV [.int .i64]):=λ(b:Bool) (q:Stm) (q1:Stm) =>
  let j8:Bool->Stm->Option (HV [.int .i64]):=λ(f:Bool) (q2:Stm) =>
   cond (!f) (
   some 2) (
   cond (!(Iq q2 q)) (
    some 2) (
    some 0))
  let j7:Bool->Option (HV [.int .i64]):=λ(g:Bool) =>
   cond (g) (
   cond (b) (
    j8 (decide ((Bl (Gf q.whr))<=30)) (Stm.mk q1.kind q1.name q1.on q1.cols q1.names q1.l q1.rows q1.sets true (Gf q.whr) q1.order q1.desc q1.most)) (
    j8 false (Stm.mk q1.kind q1.name q1.on q1.cols q1.names q1.l q1.rows q1.sets true (Gf q.whr) q1.order q1.desc q1.most))) (
   j8 b q1)
  let j6:Bool->Option (HV [.int .i64]):=λ(h:Bool) =>
   cond (h) (
   j7 q.has) (
   cond (decide (q.kind=8)) (
    j7 q.has) (
    j7 false))
  cond (decide (q.kind=6)) (
   j6 true) (
   j6 (decide (q.kind=7)))
  cond (decide (s.kind=1)) (
  Al (λrec=>Ae2 rec (λe vz=>match vz with|(v3,v4,_,v6,v7)=>match e with
   |.exit 1 =>
   let j2:Bool->Option (HV [.int .i64]):=λ(p9:Bool) =>
    cond (p9) (
    cond ((Ls v6.names 1)) (
     j9 (Wo v6.l 0) v6 (Stm.mk v7.kind v7.name v7.on v6.cols v6.names v6.l v7.rows v7.sets v7.has (Gf v7.whr) v7.order v7.desc v7.most)) (
     j9 false v6 (Stm.mk v7.kind v7.name v7.on v6.cols v6.names v6.l v7.rows v7.sets v7.has (Gf v7.whr) v7.order v7.desc v7.most))) (
    j9 false v6 (Stm.mk v7.kind v7.name v7.on v6.cols v6.names v6.l v7.rows v7.sets v7.has (Gf v7.whr) v7.order v7.desc v7.most))
   cond (v3) (
    j2 (Ls v4 1)) (
    j2 false)
   |_=>none)) k (p3,[],0,s,(Stm.mk s.kind s.name [] [] [] [] [] [] false (Xpr.mk 0 ⟨0,0,[]⟩ [] []) [] [] 0))) (
  cond (decide (s.kind=3)) (
   cond (p3) (
   cond ((Z0 s.on)) (
    j9 (Ls s.names 1) s (Stm.mk s.kind s.name s.on [] s.names [] [] [] false (Xpr.mk 0 ⟨0,0,[]⟩ [] []) [] [] 0)) (
    j9 false s (Stm.mk s.kind s.name s.on [] s.names [] [] [] false (Xpr.mk 0 ⟨0,0,[]⟩ [] []) [] [] 0))) (
   j9 false s (Stm.mk s.kind s.name s.on [] s.names [] [] [] false (Xpr.mk 0 ⟨0,0,[]⟩ [] []) [] [] 0))) (
   cond (decide (s.kind=5)) (
   let j3:Bool->Option (HV [.int .i64]):=λ(i:Bool) =>
    Al (λrec=>Yq rec (λe vz=>match vz with|(j,_,m,n)=>match e with
    |.exit 3 =>j9 j m n
    |_=>none)) k (i,0,s,(Stm.mk s.kind s.name [] [] [] [] s.rows [] false (Xpr.mk 0 ⟨0,0,[]⟩ [] []) [] [] 0))
   cond (p3) (
    cond (decide (1<=(s.rows.length:Int))) (
    j3 (decide ((s.rows.length:Int)<=100))) (
    j3 false)) (
    j3 false)) (
   cond (decide (s.kind=6)) (
    Al (λrec=>Aea rec (λe vz=>match vz with|(o,p,_,c,d)=>match e with
    |.exit 5 =>
     cond (o) (
     j9 (Ls p 1) c d) (
     j9 false c d)
    |_=>none)) k (p3,[],0,s,(Stm.mk s.kind s.name [] [] [] [] [] s.sets false (Xpr.mk 0 ⟨0,0,[]⟩ [] []) [] [] 0))) (
    cond (decide (s.kind=8)) (
    let j5:Bool->Option (HV [.int .i64]):=λ(r:Bool) =>
     let j4:Bool->Option (HV [.int .i64]):=λ(t:Bool) =>
     cond (t) (
      cond (decide ((s.desc.length:Int)=(s.order.length:Int))) (
      j9 (decide ((-1)<=s.most)) s (Stm.mk s.kind s.name [] [] [] s.l [] [] false (Xpr.mk 0 ⟨0,0,[]⟩ [] []) s.order s.desc s.most)) (
      j9 false s (Stm.mk s.kind s.name [] [] [] s.l [] [] false (Xpr.mk 0 ⟨0,0,[]⟩ [] []) s.order s.desc s.most))) (
      j9 false s (Stm.mk s.kind s.name [] [] [] s.l [] [] false (Xpr.mk 0 ⟨0,0,[]⟩ [] []) s.order s.desc s.most))
     cond (r) (
     j4 (Ls s.order 0)) (
     j4 false)
    cond (p3) (
     j5 (Wo s.l 0)) (
     j5 false)) (
    j9 p3 s (Stm.mk s.kind s.name [] [] [] [] [] [] false (Xpr.mk 0 ⟨0,0,[]⟩ [] []) [] [] 0))))))
 cond ((Z0 s.name)) (
  cond (decide (1<=s.kind)) (
  a (decide (s.kind<=8))) (
  a false)) (
  a false)
theorem Bpv(k:Nat):FO 68 [.sv .stmt] [.int .i64] (Acv k):=fR (px:=Baj _ k) (n:=3) Tryz.func68 rfl (λcx H=>by have h0:Lv cx (Baj (HV [.int .i64]) k):=lv H (c1 H Ako (c1 H Bma (c1 H Brp (c1 H Alb (c1 H As3 Ae))))) Ab Aa;have hlrchk_0:=lO H h0 (b:=lp Tryz.f68 0) (k:=k) (n:=0) (s:=Aug) (step:=Ae2) (λ_ _ _ (_,_,_,_,_)=>by kernel_rfl) Ah;have hlrchk_1:=lO H h0 (b:=lp Tryz.f68 1) (k:=k) (n:=0) (s:=As6) (step:=Yq) (λ_ _ _ (_,_,_,_)=>by kernel_rfl) Ah;have hlrchk_2:=lO H h0 (b:=lp Tryz.f68 2) (k:=k) (n:=0) (s:=Ara) (step:=Aea) (λ_ _ _ (_,_,_,_,_)=>by kernel_rfl) Ah;exact⟨h0,(A5 (A5 (A5 Ah hlrchk_0) hlrchk_1) hlrchk_2)⟩) λ_=>by kernel_rfl
noncomputable def Be3(s:Stm):Option Int :=@ite _ (Few s) (Classical.propDecidable _) (some (cond (Bp s) 0 2)) none
def Ayw:FT [.sv .stmt] [.int .i64]:=λx=>Be3 x
theorem A1y{R:Type}{kx:Ex->Acf->Option R}{w o:Stm}{c:Bool->List Str->Option R}(hn:w.cols.length<=3100)(h2:∀v ns i,kx (.exit 1) (v,ns,i,w,o)=c v ns)(k:Nat)(hk:w.cols.length<k)(v:Bool) :
  Al (λrec=>Ae2 rec kx) k (v,[],0,w,o)=c (v&&w.cols.all Ij) (w.cols.map (·.name)):=by
 have hl:ln w.cols.length:=by simp only[ln];omega
 refine(Dj w.cols.length (λi v=>(v,(w.cols.take i).map (·.name),(i:Int),w,o)) (λ_ _=>True) (λi v=>c (v&&(w.cols.drop i).all Ij) (w.cols.map (·.name))) (λi hi v _ rec hr =>?_) (λv _ rec =>?_) k 0 v (Nat.zero_le _) (by omega) trivial).trans (by rw[Zq1])
 ·have ht:(w.cols.take (i+1)).map (·.name)=(w.cols.take i).map (·.name)++[w.cols[i].name]:=by rw[List.take_add_one,Zo1 hi,List.map_append];rfl
  have hlen:((w.cols.take i).map (·.name)).length+1<=Ao:=by simp only[List.length_map,List.length_take,Ao];omega
  have hr:=λv'=>hr v' trivial;simp only[ht] at hr;simp only[Ae2,Cf hi,Af,Aw hi,chk,As (c :=.col) hi,Au hi hl,Ak hi,Zv1,Ze1 hlen,Lh,Ij];simp only[hr];generalize decide (2<=w.cols[i].kind)=q1;generalize decide (w.cols[i].kind<=5)=q2;generalize decide (w.cols[i].ref=[])=q3;generalize Df w.cols[i].ref=q4;cases v<;>cases q1<;>cases q2<;>cases q3<;>cases q4<;>rfl
 ·simp only[Ae2,Cg,Ag,h2];rw[Zk1 (Zn1 _),List.take_length];simp
theorem A3t{R:Type}{kx:Ex->Abb->Option R}{w o:Stm}{c:Bool->Option R}(hn:ln w.rows.length)(h2:∀v i,kx (.exit 3) (v,i,w,o)=c v)(k:Nat)(hk:w.rows.length<k)(v:Bool) :
  Al (λrec=>Yq rec kx) k (v,0,w,o)=c (v&&w.rows.all λr=>Wo r 1):=by
 refine(Dj w.rows.length (λi v=>(v,(i:Int),w,o)) (λ_ _=>True) (λi v=>c (v&&(w.rows.drop i).all λr=>Wo r 1)) (λi hi v _ rec hr =>?_) (λv _ rec =>?_) k 0 v (Nat.zero_le _) (by omega) trivial).trans (by rw[Zq1])
 ·have hr:=λv'=>hr v' trivial;simp only[Yq,Cf hi,Af,Aw hi,chk,As (c :=.exprs) hi,Au hi hn,Ak hi,Zv1,hr];generalize Wo w.rows[i] 1=q1;cases v<;>cases q1<;>rfl
 ·simp only[Yq,Cg,Ag,h2];rw[Zk1 (Zn1 _)];simp
theorem A2o{R:Type}{kx:Ex->Aap->Option R}{w o:Stm}{c:Bool->List Str->Option R}(hn:w.sets.length<=3100)(h2:∀v ns i,kx (.exit 5) (v,ns,i,w,o)=c v ns)(k:Nat)(hk:w.sets.length<k)(v:Bool) :
  Al (λrec=>Aea rec kx) k (v,[],0,w,o)=c (v&&w.sets.all λx=>decide (Bl x.e<=30)) (w.sets.map (·.name)):=by
 have hl:ln w.sets.length:=by simp only[ln];omega
 refine(Dj w.sets.length (λi v=>(v,(w.sets.take i).map (·.name),(i:Int),w,o)) (λ_ _=>True) (λi v=>c (v&&(w.sets.drop i).all λx=>decide (Bl x.e<=30)) (w.sets.map (·.name))) (λi hi v _ rec hr =>?_) (λv _ rec =>?_) k 0 v (Nat.zero_le _) (by omega) trivial).trans (by rw[Zq1])
 ·have ht:(w.sets.take (i+1)).map (·.name)=(w.sets.take i).map (·.name)++[w.sets[i].name]:=by rw[List.take_add_one,Zo1 hi,List.map_append];rfl
  have hlen:((w.sets.take i).map (·.name)).length+1<=Ao:=by simp only[List.length_map,List.length_take,Ao];omega
  have hr:=λv'=>hr v' trivial;simp only[ht] at hr;simp only[Aea,Cf hi,Af,Aw hi,chk,As (c :=.set) hi,Au hi hl,Ak hi,Zv1,Ze1 hlen,Fh];simp only[hr];generalize decide (Bl w.sets[i].e<=30)=q1;cases v<;>cases q1<;>rfl
 ·simp only[Aea,Cg,Ag,h2];rw[Zk1 (Zn1 _),List.take_length];simp
theorem Bcq(s own:Stm)(ok:Bool):cond (!ok) (some (2:Int)) (cond (!Iq own s) (some 2) (some 0))=some (cond (ok&&decide (own=s)) 0 2):=by simp only[Iq];cases ok<;>cases decide (own=s)<;>rfl
theorem Alj(l:List Str):Ls l 1=(C0 (l.length:Int)&&Ds l):=by rw[Azi];simp only[Ls,Ds];rw[show decide ((1:Int)<=(l.length:Int))=decide (1<=l.length) from Zy1.2 (by omega)];cases S3 [] l<;>cases decide (1<=l.length)<;>cases decide (l.length<=100)<;>rfl
theorem Bof(l:List Str):Ls l 0=Ds l:=by simp only[Ls];rw[Ze1 (show(0:Int)<=(l.length:Int) by omega),Bool.and_true]
theorem Bsc{l:List Xpr}(h:esizes l<=10000):Wo l 0=Fx l:=by rw[Bcj h,Ze1 (show(0:Int)<=(l.length:Int) by omega),Bool.and_true]
theorem Bsx{l:List Xpr}(h:esizes l<=10000):Wo l 1=Aoi l:=by
 rw[Bcj h,Aoi];by_cases e:l.length=0
 ·rw[Ze1 e,Zd1 (by omega)];cases Fx l<;>rfl
 ·rw[Zd1 e,Ze1 (by omega)];cases Fx l<;>rfl
theorem Ary{α:Type}{l:List α}{p q : α->Bool}(h:∀x,x∈l->p x=q x):l.all p=l.all q:=by rw[Bool.eq_iff_iff,Zg2,Zg2];exact⟨λa x hx=>by rw[<-h x hx];exact a x hx,λa x hx=>by rw[h x hx];exact a x hx⟩
theorem Bym{s:Stm}(hk:s.kind=1):decide (Stm.mk s.kind s.name [] s.cols s.names s.l [] [] false noX [] [] 0=s)=decide (Cn s=noS):=by obtain⟨k,nm,on,cols,names,l,rows,sets,has,whr,order,desc,most⟩:=s;simp only at hk;subst hk;exact Zy1.2 ⟨λh=>by simp_all [Cn,noS],λh=>by simp_all [Cn,noS]⟩
theorem Bxw{s:Stm}(hk:s.kind=2\/s.kind=4):decide (Stm.mk s.kind s.name [] [] [] [] [] [] false noX [] [] 0=s)=decide (Cn s=noS):=by obtain⟨k,nm,on,cols,names,l,rows,sets,has,whr,order,desc,most⟩:=s;simp only at hk;rcases hk with rfl|rfl<;>exact Zy1.2 ⟨λh=>by simp_all [Cn,noS],λh=>by simp_all [Cn,noS]⟩
theorem Byr{s:Stm}(hk:s.kind=3):decide (Stm.mk s.kind s.name s.on [] s.names [] [] [] false noX [] [] 0=s)=decide (Cn s=noS):=by obtain⟨k,nm,on,cols,names,l,rows,sets,has,whr,order,desc,most⟩:=s;simp only at hk;subst hk;exact Zy1.2 ⟨λh=>by simp_all [Cn,noS],λh=>by simp_all [Cn,noS]⟩
theorem Byf{s:Stm}(hk:s.kind=5):decide (Stm.mk s.kind s.name [] [] [] [] s.rows [] false noX [] [] 0=s)=decide (Cn s=noS):=by obtain⟨k,nm,on,cols,names,l,rows,sets,has,whr,order,desc,most⟩:=s;simp only at hk;subst hk;exact Zy1.2 ⟨λh=>by simp_all [Cn,noS],λh=>by simp_all [Cn,noS]⟩
theorem Byh{s:Stm}(hk:s.kind=6)(hh:s.has=true):decide (Stm.mk s.kind s.name [] [] [] [] [] s.sets true s.whr [] [] 0=s)=decide (Cn s=noS):=by obtain⟨k,nm,on,cols,names,l,rows,sets,has,whr,order,desc,most⟩:=s;simp only at hk hh;subst hk hh;exact Zy1.2 ⟨λh=>by simp_all [Cn,noS],λh=>by simp_all [Cn,noS]⟩
theorem Bxh{s:Stm}(hk:s.kind=6)(hh:s.has=false):decide (Stm.mk s.kind s.name [] [] [] [] [] s.sets false noX [] [] 0=s)=(decide (Cn s=noS)&&decide (s.whr=noX)):=by obtain⟨k,nm,on,cols,names,l,rows,sets,has,whr,order,desc,most⟩:=s;simp only at hk hh;subst hk hh;rw[<-Bool.decide_and];exact Zy1.2 ⟨λh=>by simp_all [Cn,noS],λh=>by simp_all [Cn,noS]⟩
theorem Byt{s:Stm}(hk:s.kind=7)(hh:s.has=true):decide (Stm.mk s.kind s.name [] [] [] [] [] [] true s.whr [] [] 0=s)=decide (Cn s=noS):=by obtain⟨k,nm,on,cols,names,l,rows,sets,has,whr,order,desc,most⟩:=s;simp only at hk hh;subst hk hh;exact Zy1.2 ⟨λh=>by simp_all [Cn,noS],λh=>by simp_all [Cn,noS]⟩
theorem Bx5{s:Stm}(hk:s.kind=7)(hh:s.has=false):decide (Stm.mk s.kind s.name [] [] [] [] [] [] false noX [] [] 0=s)=(decide (Cn s=noS)&&decide (s.whr=noX)):=by obtain⟨k,nm,on,cols,names,l,rows,sets,has,whr,order,desc,most⟩:=s;simp only at hk hh;subst hk hh;rw[<-Bool.decide_and];exact Zy1.2 ⟨λh=>by simp_all [Cn,noS],λh=>by simp_all [Cn,noS]⟩
theorem Bys{s:Stm}(hk:s.kind=8)(hh:s.has=true):decide (Stm.mk s.kind s.name [] [] [] s.l [] [] true s.whr s.order s.desc s.most=s)=decide (Cn s=noS):=by obtain⟨k,nm,on,cols,names,l,rows,sets,has,whr,order,desc,most⟩:=s;simp only at hk hh;subst hk hh;exact Zy1.2 ⟨λh=>by simp_all [Cn,noS],λh=>by simp_all [Cn,noS]⟩
theorem Bxx{s:Stm}(hk:s.kind=8)(hh:s.has=false):decide (Stm.mk s.kind s.name [] [] [] s.l [] [] false noX s.order s.desc s.most=s)=(decide (Cn s=noS)&&decide (s.whr=noX)):=by obtain⟨k,nm,on,cols,names,l,rows,sets,has,whr,order,desc,most⟩:=s;simp only at hk hh;subst hk hh;rw[<-Bool.decide_and];exact Zy1.2 ⟨λh=>by simp_all [Cn,noS],λh=>by simp_all [Cn,noS]⟩
def Jz(p:Bool)(s own:Stm):Option Int :=
 cond ((decide (s.kind=6)||decide (s.kind=7)||decide (s.kind=8))&&s.has)
  (cond (!(p&&decide (Bl s.whr<=30))) (some 2) (cond (!Iq ⟨own.kind,own.name,own.on,own.cols,own.names,own.l,own.rows,own.sets,true,s.whr,own.order,own.desc,own.most⟩ s) (some 2) (some 0)))
  (cond (!p) (some 2) (cond (!Iq own s) (some 2) (some 0)))
theorem Qd{s:Stm}(h:¬(s.kind=6\/s.kind=7\/s.kind=8)\/s.has=false)(p:Bool)(own:Stm):Jz p s own=some (cond (p&&decide (own=s)) 0 2):=by
 have e:((decide (s.kind=6)||decide (s.kind=7)||decide (s.kind=8))&&s.has)=false:=by
  rcases h with h|h
  ·rw[Zd1 (show ¬s.kind=6 by omega),Zd1 (show ¬s.kind=7 by omega),Zd1 (show ¬s.kind=8 by omega)];rfl
  ·rw[h,Bool.and_false]
 simp only[Jz,e,Ag];exact Bcq s own p
theorem An9{s:Stm}(h:s.kind=6\/s.kind=7\/s.kind=8)(hh:s.has=true)(hf:Few s)(p:Bool)(own:Stm):Jz p s own=some (cond (p&&A8 s.whr 30&&decide (Stm.mk own.kind own.name own.on own.cols own.names own.l own.rows own.sets true s.whr own.order own.desc own.most=s)) 0 2):=by
 have e:((decide (s.kind=6)||decide (s.kind=7)||decide (s.kind=8))&&s.has)=true:=by rw[hh,Bool.and_true];rcases h with h|h|h<;>rw[Ze1 h]<;>simp
 have hd:=Bde (show A1 s.whr<=10000 by have:=hf.whr;omega);simp only[Jz,e,Af,hd];exact Bcq s _ _
theorem Jn(b p:Bool)(s o:Stm):cond b (Jz p s o) (Jz false s o)=Jz (b&&p) s o:=by cases b<;>rfl
theorem Aji{s:Stm}(h:s.has=true):G8 s=A8 s.whr 30:=by rw[Ar4,h];rfl
theorem Aof{s:Stm}(h:s.has=false):G8 s=decide (s.whr=noX):=by rw[Ar4,h];rfl
theorem Bw9(k:Nat)(s:Stm)(hb:BdStm s)(hf:Few s)(hk:Hj s<=k):Acv k s=some (cond (Bp s) 0 2):=by
 simp only[Hj] at hk;simp -zeta only [Acv,Lh];extract_lets s0 j9 j3 j4 j5 f;subst s0;have h10:f (Df s.name&&decide (1<=s.kind)&&decide (s.kind<=8))=some (cond (Bp s) 0 2):=by
  generalize hp:(Df s.name&&decide (1<=s.kind)&&decide (s.kind<=8))=p;simp -zeta only [f];have h9:∀p q q1,j9 p q q1=Jz p q q1:=λp q q1=>by simp only[j9,Jz,Fh];generalize decide (q.kind=6)=b6;generalize decide (q.kind=7)=b7;generalize decide (q.kind=8)=b8;generalize q.has=bh;cases p<;>cases b6<;>cases b7<;>cases b8<;>cases bh<;>rfl
  have h9':j9=Jz:=funext λp=>funext λq=>funext λq1=>h9 p q q1;simp -zeta only [j3,j5,j4];clear f j5 j4 j3;clear h9;clear_value j9;subst h9';have hl:Wo s.l 0=Fx s.l:=Bsc (by have:=hf.l;omega);have w6:(s.sets.all λx=>decide (Bl x.e<=30))=s.sets.all λx=>A8 x.e 30:=Ary λx hx=>Bde (by have:=hf.sets.2 x hx;omega);have w5:(s.rows.all λr=>Wo r 1)=s.rows.all Aoi:=Ary λr hr=>Bsx (by have:=hf.rows.2 r hr;omega);have hx:Xpr.mk 0 ⟨0,0,[]⟩ [] []=noX:=rfl;have pk:∀{n:Int},s.kind=n->1<=n->n<=8->p=Df s.name:=λ{n} h a b=>by rw[<-hp,Ze1 (show 1<=s.kind by omega),Ze1 (show s.kind<=8 by omega),Bool.and_true,Bool.and_true]
  by_cases h1:s.kind=1
  ·rw[Ze1 h1,Af];refine(A1y (c:=λv ns=>cond v (cond (Ls ns 1) (cond (Ls s.names 1) (Jz (Wo s.l 0) s (Stm.mk s.kind s.name [] s.cols s.names s.l [] [] false noX [] [] 0)) (Jz false s (Stm.mk s.kind s.name [] s.cols s.names s.l [] [] false noX [] [] 0))) (Jz false s (Stm.mk s.kind s.name [] s.cols s.names s.l [] [] false noX [] [] 0))) (Jz false s (Stm.mk s.kind s.name [] s.cols s.names s.l [] [] false noX [] [] 0))) hf.cols (λ_ _ _=>rfl) k (by omega) p).trans ?_;simp only[Jn,Alj,hl];rw[Qd (.inl (by omega)),Bym h1,pk h1 (by omega) (by omega),Bp,if_pos h1];simp only[List.length_map];congr 2
   ac_rfl
  rw[Zd1 h1,Ag];by_cases h3:s.kind=3
  ·rw[Ze1 h3,Af];simp only[Jn,Alj,hx];rw[Qd (.inl (by omega)),Byr h3,pk h3 (by omega) (by omega),Bp,if_neg h1,if_pos h3];congr 2
   ac_rfl
  rw[Zd1 h3,Ag];by_cases h5:s.kind=5
  ·rw[Ze1 h5,Af];have hit:=λd=>A3t (w:=s) (o:=Stm.mk s.kind s.name [] [] [] [] s.rows [] false noX [] [] 0) (c:=λv=>Jz v s (Stm.mk s.kind s.name [] [] [] [] s.rows [] false noX [] [] 0)) (kx:=λe vz=>match vz with|(g,_,i,j)=>match e with
    |.exit 3=>Jz g i j
    |_=>none) hb.rows.1 (λ_ _=>rfl) k (by omega) d
   have e:∀d,Al (λrec=>Yq rec (λe vz=>match vz with|(g,_,i,j)=>match e with
    |.exit 3=>Jz g i j
    |_=>none)) k (d,0,s,(Stm.mk s.kind s.name [] [] [] [] s.rows [] false noX [] [] 0))=Jz (d&&s.rows.all λr=>Wo r 1) s (Stm.mk s.kind s.name [] [] [] [] s.rows [] false noX [] [] 0):=hit
   show cond p (cond (decide (1<=(s.rows.length:Int))) (Al _ k (_,0,s,(Stm.mk s.kind s.name [] [] [] [] s.rows [] false noX [] [] 0))) (Al _ k (_,0,s,(Stm.mk s.kind s.name [] [] [] [] s.rows [] false noX [] [] 0)))) (Al _ k (_,0,s,(Stm.mk s.kind s.name [] [] [] [] s.rows [] false noX [] [] 0)))=_;rw[e,e,Bool.false_and,Jn,Jn,w5];rw[Qd (.inl (by omega)),Byf h5,pk h5 (by omega) (by omega),Bp,if_neg h1,if_neg h3,if_neg (by omega),if_pos h5,Atb,Azi,A7u,show decide ((1:Int)<=(s.rows.length:Int))=decide (1<=s.rows.length) from Zy1.2 (by omega)];congr 2
   ac_rfl
  rw[Zd1 h5,Ag];by_cases h6:s.kind=6
  ·rw[Ze1 h6,Af];refine(A2o (c:=λv ns=>cond v (Jz (Ls ns 1) s (Stm.mk s.kind s.name [] [] [] [] [] s.sets false noX [] [] 0)) (Jz false s (Stm.mk s.kind s.name [] [] [] [] [] s.sets false noX [] [] 0))) hf.sets.1 (λ_ _ _=>rfl) k (by omega) p).trans ?_;simp only[Jn,Alj,w6];rw[Bp,if_neg h1,if_neg h3,if_neg (by omega),if_neg h5,if_pos h6,pk h6 (by omega) (by omega)];simp only[List.length_map];cases hh:s.has with
   |true =>
    rw[An9 (.inl h6) hh hf,Byh h6 hh,Aji hh];congr 2
    ac_rfl
   |false =>
    rw[Qd (.inr hh),Bxh h6 hh,Aof hh];congr 2
    ac_rfl
  rw[Zd1 h6,Ag];by_cases h8:s.kind=8
  ·rw[Ze1 h8,Af];simp only[Jn,Bof,hx,hl];have c4:∀(b:Bool) (P Q:Bool),cond b (Jz P s (Stm.mk s.kind s.name [] [] [] s.l [] [] false noX s.order s.desc s.most)) (Jz (false&&Q) s (Stm.mk s.kind s.name [] [] [] s.l [] [] false noX s.order s.desc s.most))=Jz (b&&P) s (Stm.mk s.kind s.name [] [] [] s.l [] [] false noX s.order s.desc s.most):=λb P Q=>by cases b<;>rfl
   simp only[c4];have e1:decide ((s.desc.length:Int)=(s.order.length:Int))=decide (s.desc.length=s.order.length):=Zy1.2 (by omega);rw[Bp,if_neg h1,if_neg h3,if_neg (by omega),if_neg h5,if_neg h6,if_neg (by omega),if_pos h8,pk h8 (by omega) (by omega),e1];cases hh:s.has with
   |true =>
    rw[An9 (.inr (.inr h8)) hh hf,Bys h8 hh,Aji hh];congr 2
    ac_rfl
   |false =>
    rw[Qd (.inr hh),Bxx h8 hh,Aof hh];congr 2
    ac_rfl
  rw[Zd1 h8,Ag,hx];by_cases h7:s.kind=7
  ·rw[Bp,if_neg h1,if_neg h3,if_neg (by omega),if_neg h5,if_neg h6,if_pos h7,pk h7 (by omega) (by omega)];cases hh:s.has with
   |true =>
    rw[An9 (.inr (.inl h7)) hh hf,Byt h7 hh,Aji hh];congr 2
    ac_rfl
   |false =>
    rw[Qd (.inr hh),Bx5 h7 hh,Aof hh];congr 2
    ac_rfl
  rw[Qd (.inl (by omega)),Bp,if_neg h1,if_neg h3];by_cases h24:s.kind=2\/s.kind=4
  ·rw[if_pos h24,Bxw h24,<-hp,Ze1 (show 1<=s.kind by omega),Ze1 (show s.kind<=8 by omega)];congr 2
   ac_rfl
  ·have hp0:p=false:=by
    rw[<-hp];by_cases q : 1<=s.kind
    ·rw[Zd1 (show ¬s.kind<=8 by omega),Bool.and_false]
    ·rw[Zd1 q,Bool.and_false,Bool.false_and]
   rw[if_neg h24,if_neg h5,if_neg h6,if_neg h7,if_neg h8,hp0,Bool.and_false];rfl
 rw[<-h10];cases Df s.name<;>cases decide (1<=s.kind)<;>cases decide (s.kind<=8)<;>rfl
theorem Bcm:FO 68 [.sv .stmt] [.int .i64] Ayw :=.fin 0 Bpv λs r hb hx=>⟨Hj s,by
 simp only[Ayw,Be3] at hx;split at hx
 ·rename_i h;exact(Bw9 (Hj s) s hb h (Zn1 _)).trans hx
 ·cases hx⟩
theorem A97{s:Stm}(h:Few s):Be3 s=some (cond (Bp s) 0 2):=if_pos h
end
def Akh:Sig:=⟨47,[(1,.sl .val false),(6,.sl .val true),(7,.int .i64),(8,.sl .val true),(10,.str),(19,.sl .str false),(20,.int .i64),(21,.int .i64),(26,.sl .col false),(27,.int .i64),(28,.int .i64)],[(3,.ptr 0 0)],[(0,.one (.sv .tbl))],1,0,0,[],[]⟩
abbrev Wd:=List Val×List Val×Int×List Val×Str×List Str×Int×Int×List Col×Int×Int×Tbl
def Vv{R:Type}(rec:Wd->Option R)(kx:Ex->Wd->Option R)(v:Wd):Option R:=match v with
 |(v7,v8,v9,c,d,f,g,h,b,e,a,w1) =>
 cond (decide (a<e)) (
  chk (inb a b.length) (
  cond (decide (((at' .col b a).name)=d)) (
   chk (inb a v7.length) (
   chk (decide (c.length+1<=Ao)) (
    kx (.exit 1) (v7,v8,v9,(c++[(at' .val v7 a)]),d,f,g,h,b,e,a,w1)))) (
   rec (v7,v8,v9,c,d,f,g,h,b,e,(wr .i64 (a+1)),w1)))) (
  kx (.exit 2) (v7,v8,v9,c,d,f,g,h,b,e,a,w1))
def Amd:Sig:=⟨47,[(1,.sl .val false),(6,.sl .val true),(7,.int .i64),(8,.sl .val true),(19,.sl .str false),(20,.int .i64),(21,.int .i64)],[(3,.ptr 0 0)],[(0,.one (.sv .tbl))],1,0,0,[],[]⟩
abbrev Uv:=List Val×List Val×Int×List Val×List Str×Int×Int×Tbl
def Um{R:Type}(k:Nat)(rec:Uv->Option R)(kx:Ex->Uv->Option R)(v:Uv):Option R:=match v with
 |(v,v1,v2,v3,v4,v5,v6,w) =>
 cond (decide (v6<v5)) (
  chk (inb v6 v4.length) (
  Al (λrc=>Vv rc (λe vz=>match vz with|(a,h,i,b,_,c,d,f,_,_,_,g)=>match e with
   |.exit 1 =>
   rec (a,h,i,b,c,d,(wr .i64 (f+1)),g)
   |.exit 2 =>
   kx .ret (a,[],150,b,c,d,f,g)
   |_=>none)) k (v,v1,v2,v3,(at' .str v4 v6),v4,v5,v6,w.cols,(w.cols.length:Int),0,w))) (
  kx (.exit 0) (v,v1,v2,v3,v4,v5,v6,w))
def A0c(R:Type)(k:Nat):Px R:=pxO [] [] [(8,Am k Akh (Vv)),(5,Am k Amd (Um k))] []
def Al8(k:Nat)(x:HV [.sv .tbl,.sl .val false,.sl .str false]):Option (HV [.sl .val true,.int .i64]):=match x with
 |(t,row,names) =>
 cond (!decide ((row.length:Int)=(t.cols.length:Int))) (
  some ([],2)) (
  Al (λrec=>Um k rec (λe vz=>match vz with|(_,a,b,c,_,_,_,_)=>match e with
  |.ret =>some (a,b)
  |.exit 0 =>some (c,0)
  |_=>none)) k (row,[],0,[],names,(names.length:Int),0,t))
theorem Bgq(k:Nat):FO 15 [.sv .tbl,.sl .val false,.sl .str false] [.sl .val true,.int .i64] (Al8 k):=fR (px:=A0c _ k) (n:=2) Tryz.func15 rfl (λcx H=>by have h0:Lv cx (A0c (HV [.sl .val true,.int .i64]) k):=lv H Ae Ab Aa;have hlspick_1:=lO H h0 (b:=lpC (lp Tryz.f15 0) 0) (k:=k) (n:=0) (s:=Akh) (step:=Vv) (λ_ _ _ (_,_,_,_,_,_,_,_,_,_,_,_)=>by kernel_rfl) Ah;have hlspick_0:=lO H h0 (b:=lp Tryz.f15 0) (k:=k) (n:=1) (s:=Amd) (step:=Um k) (λ_ _ _ (_,_,_,_,_,_,_,_)=>by kernel_rfl) (A5 Ah hlspick_1);exact⟨h0,(A5 (A5 Ah hlspick_0) hlspick_1)⟩) λ(_,_,_)=>by kernel_rfl
def Az2(t:Tbl)(row:List Val)(names:List Str):Option (List Val×Int):=cond (decide (names.length<=1000000)) (some (cond (decide (row.length=t.cols.length)) (Qn t.cols row names []) ([],2))) none
def Awa:FT [.sv .tbl,.sl .val false,.sl .str false] [.sl .val true,.int .i64]:=λx=>Az2 x.1 x.2.1 x.2.2
theorem Axf{R:Type}{kx:Ex->Wd->Option R}{t:Tbl}{row v8 acc:List Val}{v9 n i:Int}{names:List Str}{s:Str}{g:Int->Option R}(hn:ln t.cols.length)(he:row.length=t.cols.length)(ha:acc.length+1<=Ao)(h1:∀j:Nat,kx (.exit 1) (row,v8,v9,acc++[at' .val row (j:Int)],s,names,n,i,t.cols,(t.cols.length:Int),(j:Int),t)=g j)(h2:kx (.exit 2) (row,v8,v9,acc,s,names,n,i,t.cols,(t.cols.length:Int),(t.cols.length:Int),t)=g (-1))(k:Nat)(hk:t.cols.length<k) :
  Al (λrec=>Vv rec kx) k (row,v8,v9,acc,s,names,n,i,t.cols,(t.cols.length:Int),0,t)=g (Cd t.cols s):=by
 refine(A3 t.cols.length (λj=>(row,v8,v9,acc,s,names,n,i,t.cols,(t.cols.length:Int),(j:Int),t)) (λj=>g (Be (t.cols.drop j) s j)) (λj hj rec hr =>?_) (λrec =>?_) k 0 (Nat.zero_le _) (by omega)).trans (by rw[Zq1];rfl)
 ·have hj2:j<row.length:=by omega
  simp only[Vv,Cf hj,Af,Aw hj,Aw hj2,chk,As (c :=.col) hj,Au hj hn,hr,Ze1 ha,h1,Ak hj,Be,Bool.cond_decide];split<;>rfl
 ·simp only[Vv,Cg,Ag,h2];rw[Zk1 (Zn1 _)];rfl
theorem Ax5{R:Type}{kx:Ex->Uv->Option R}{t:Tbl}{row:List Val}{names:List Str}{c:List Val×Int->Option R}(hn:ln t.cols.length)(he:row.length=t.cols.length)(hl:names.length<=1000000)(k:Nat)(hc:t.cols.length<k)(h1:∀acc i,kx .ret (row,[],150,acc,names,(names.length:Int),i,t)=c ([],150))(h2:∀acc,kx (.exit 0) (row,[],0,acc,names,(names.length:Int),(names.length:Int),t)=c (acc,0))(hk:names.length<k) :
  Al (λrec=>Um k rec kx) k (row,[],0,[],names,(names.length:Int),0,t)=c (Qn t.cols row names []):=by
 have hln:ln names.length:=by simp only[ln];omega
 refine(Dj names.length (λi acc=>(row,[],0,acc,names,(names.length:Int),(i:Int),t)) (λi acc=>acc.length=i) (λi acc=>c (Qn t.cols row (names.drop i) acc)) (λi hi acc ha rec hr =>?_) (λacc _ rec =>?_) k 0 [] (Nat.zero_le _) (by omega) rfl).trans (by rw[Zq1])
 ·simp only[Um,Cf hi,Af,Aw hi,chk,As (c :=.str) hi,Ak hi,Qn];refine(Axf (g:=λq=>cond (decide (q<0)) (c ([],150)) (rec (row,[],0,acc++[at' .val row q],names,(names.length:Int),((i+1:Nat):Int),t))) hn he (by simp only[Ao];omega) (λj =>?_) ?_ k hc).trans ?_
  ·simp only[Au hi hln,Zd1 (show ¬(j:Int)<0 by omega),Ag]
  ·exact h1 _ _
  ·rw[hr _ (by rw[Zh1,ha];rfl)];cases decide (Cd t.cols names[i]<0)<;>rfl
 ·simp only[Um,Cg,Ag,h2];rw[Zk1 (Zn1 _)];rfl
theorem Bku:FO 15 [.sv .tbl,.sl .val false,.sl .str false] [.sl .val true,.int .i64] Awa :=.fin 0 Bgq λ(t,row,names) r hb hx=>⟨t.cols.length+names.length+1,by
 simp only[Awa,Az2] at hx;cases hl:decide (names.length<=1000000) with
 |false=>rw[hl] at hx;cases hx
 |true =>
  rw[hl] at hx;simp only[Af,Za1] at hx;rw[<-hx];simp only[Al8];by_cases he:row.length=t.cols.length
  ·rw[Ze1 he,Ze1 (show(row.length:Int)=(t.cols.length:Int) by omega)];exact Ax5 (c:=some) hb.1.cols.1 he (of_decide_eq_true hl) _ (by omega) (λ_ _=>rfl) (λ_=>rfl) (by omega)
  ·rw[Zd1 he,Zd1 (show ¬(row.length:Int)=(t.cols.length:Int) by omega)];rfl⟩
def Ash:Sig:=⟨20,[(0,.sl .col false),(1,.str),(4,.int .i64),(5,.int .i64)],[],[],0,0,0,[],[]⟩
abbrev Am9:=List Col×Str×Int×Int
def Apf{R:Type}(rec:Am9->Option R)(kx:Ex->Am9->Option R)(v:Am9):Option R:=match v with
 |(v,v1,v2,v3) =>
 cond (decide (v3<(v.length:Int))) (
  chk (inb v3 v.length) (
  cond (decide (((at' .col v v3).name)=v1)) (
   kx .ret (v,v1,v3,v3)) (
   rec (v,v1,v2,(wr .i64 (v3+1)))))) (
  kx (.exit 0) (v,v1,v2,v3))
def Bbp(R:Type)(k:Nat):Px R:=pxO [] [] [(2,Am k Ash (Apf))] []
def Arc(k:Nat)(x:HV [.sl .col false,.str]):Option (HV [.int .i64]):=match x with
 |(cols,name) =>
 Al (λrec=>Apf rec (λe vz=>match vz with|(_,_,v6,_)=>match e with
  |.ret =>
  some v6
  |.exit 0 =>
  some (-1)
  |_=>none)) k (cols,name,0,0)
theorem Bjj(k:Nat):FO 97 [.sl .col false,.str] [.int .i64] (Arc k):=fR (px:=Bbp _ k) (n:=1) Tryz.func97 rfl (λcx H=>by have h0:Lv cx (Bbp (HV [.int .i64]) k):=lv H Ae Ab Aa;have hlrcol_0:=lO H h0 (b:=lp Tryz.f97 0) (k:=k) (n:=0) (s:=Ash) (step:=Apf) (λ_ _ _ (_,_,_,_)=>by kernel_rfl) Ah;exact⟨h0,(A5 Ah hlrcol_0)⟩) λ(_,_)=>by kernel_rfl
def Bft(cols:List Col)(name:Str):Int:=Cd cols name
def Awp:FT [.sl .col false,.str] [.int .i64]:=λx=>some (Bft x.1 x.2)
theorem Bbe:FO 97 [.sl .col false,.str] [.int .i64] Awp :=.fin 0 Bjj λ(cols,s) r hb hx=>⟨cols.length+1,by
 simp only[Awp,Za1,Bft] at hx;simp only[Arc];refine(A3 cols.length (λi=>(cols,s,0,(i:Int))) (λi=>some (Be (cols.drop i) s i)) (λi hi rec hr =>?_) (λrec =>?_) _ 0 (Nat.zero_le _) (by omega)).trans (by rw[Zq1,<-hx];rfl)
 ·simp only[Apf,Cf hi,Af,Aw hi,chk,As (c :=.col) hi,Au hi hb.1.1,hr,Ak hi,Be,Bool.cond_decide];split<;>rfl
 ·simp only[Apf,Cg,Ag];rw[Zk1 (Zn1 _)];rfl⟩
noncomputable section
def Alz:Sig:=⟨70,[(3,.int .i64),(6,.int .i64)],[(1,.ptr 0 0),(2,.ptr 1 0)],[(0,.one (.sv .stmt)),(1,.one (.sv .tbl))],2,0,0,[],[]⟩
abbrev Vy:=Int×Int×Stm×Tbl
def Vl{R:Type}(rec:Vy->Option R)(kx:Ex->Vy->Option R)(v:Vy):Option R:=match v with
 |(v6,v7,w2,w3) =>
 cond (decide (v7<(w2.l.length:Int))) (
  chk (inb v7 w2.l.length) (
  (A18 (at' .expr w2.l v7) w2.cols).bind λ(x1,x2) =>
   cond (!decide (x2=0)) (
   kx .ret (x2,v7,w2,(Tbl.mk [] [] [] [] []))) (
   cond (decide (2<x1)) (
    kx .ret (151,v7,w2,(Tbl.mk [] [] [] [] []))) (
    rec (v6,(wr .i64 (v7+1)),w2,w3))))) (
  kx (.exit 2) (v6,v7,w2,w3))
def Ale:Sig:=⟨70,[(3,.int .i64),(5,.int .i64)],[(1,.ptr 0 0),(2,.ptr 1 0)],[(0,.one (.sv .stmt)),(1,.one (.sv .tbl))],2,0,0,[],[]⟩
abbrev Vu:=Int×Int×Stm×Tbl
def We{R:Type}(rec:Vu->Option R)(kx:Ex->Vu->Option R)(v:Vu):Option R:=match v with
 |(v,v1,w,w1) =>
 cond (decide (v1<(w.names.length:Int))) (
  chk (inb v1 w.names.length) (
  cond (decide ((Bft w.cols (at' .str w.names v1))<0)) (
   kx .ret (150,v1,w,(Tbl.mk [] [] [] [] []))) (
   rec (v,(wr .i64 (v1+1)),w,w1)))) (
  kx (.exit 0) (v,v1,w,w1))
def Azp(R:Type)(k:Nat):Px R:=pxO [(68,cA Ayw),(97,cA Awp)] [(98,qA Ayk)] [(5,Am k Ale (We)),(10,Am k Alz (Vl))] []
def Yg(k:Nat)(x:HV [.sv .stmt]):Option (HV [.sv .tbl,.int .i64]):=match x with
 |s =>
 (Be3 s).bind λx =>
  cond (!decide (x=0)) (
  some ((Tbl.mk [] [] [] [] []),2)) (
  cond (!decide (s.kind=1)) (
   some ((Tbl.mk [] [] [] [] []),2)) (
   Al (λrec=>We rec (λe vz=>match vz with|(v2,_,v4,v5)=>match e with
   |.ret =>some (v5,v2)
   |.exit 0 =>
    Al (λrec=>Vl rec (λe vz=>match vz with|(v8,_,a,b)=>match e with
    |.ret =>some (b,v8)
    |.exit 2 =>some ((Tbl.mk a.name a.cols a.names a.l []),0)
    |_=>none)) k (v2,0,v4,v5)
   |_=>none)) k (0,0,s,(Tbl.mk [] [] [] [] []))))
theorem Bds(k:Nat):FO 38 [.sv .stmt] [.sv .tbl,.int .i64] (Yg k):=fR (px:=Azp _ k) (n:=2) Tryz.func38 rfl (λcx H=>by have h0:Lv cx (Azp (HV [.sv .tbl,.int .i64]) k):=lv H (c1 H Bcm (c1 H Bbe Ae)) (q1 H Bnq Ab) Aa;have hlrmake_0:=lO H h0 (b:=lp Tryz.f38 0) (k:=k) (n:=0) (s:=Ale) (step:=We) (λ_ _ _ (_,_,_,_)=>by kernel_rfl) Ah;have hlrmake_1:=lO H h0 (b:=lp Tryz.f38 1) (k:=k) (n:=0) (s:=Alz) (step:=Vl) (λ_ _ _ (_,_,_,_)=>by kernel_rfl) Ah;exact⟨h0,(A5 (A5 Ah hlrmake_0) hlrmake_1)⟩) λ_=>by kernel_rfl
def Ay3(s:Stm):Option (Tbl×Int) :=@ite _ (Few s) (Classical.propDecidable _) (some (G4 s)) none
def Axv:FT [.sv .stmt] [.sv .tbl,.int .i64]:=λx=>Ay3 x
theorem Axa{R:Type}{kx:Ex->Vu->Option R}{s:Stm}{q:Tbl}{a b:Option R}(hn:ln s.names.length)(h1:∀i:Nat,kx .ret (150,(i:Int),s,Fu)=a)(h2:kx (.exit 0) (0,(s.names.length:Int),s,q)=b)(k:Nat)(hk:s.names.length<k) :
  Al (λrec=>We rec kx) k (0,0,s,q)=cond (s.names.all λx => !decide (Cd s.cols x<0)) b a:=by
 refine(A3 s.names.length (λi=>(0,(i:Int),s,q)) (λi=>cond ((s.names.drop i).all λx => !decide (Cd s.cols x<0)) b a) (λi hi rec hr =>?_) (λrec =>?_) k 0 (Nat.zero_le _) (by omega)).trans (by rw[Zq1])
 ·simp only[We,Cf hi,Af,Aw hi,chk,As (c :=.str) hi,Au hi hn,hr,Ak hi,Zv1,Bft];cases decide (Cd s.cols s.names[i]<0) with|true=>exact h1 i|false=>rfl
 ·simp only[We,Cg,Ag,h2];rw[Zk1 (Zn1 _)];rfl
theorem Avy{R:Type}{kx:Ex->Vy->Option R}{s:Stm}{q:Tbl}{g:Int->Option R}{b:Option R}(hn:ln s.l.length)(hc:s.cols.all Ij=true)(hs:∀e,e∈s.l->A1 e<=10000)(h1:∀p (i:Nat),kx .ret (p,(i:Int),s,Fu)=g p)(h2:kx (.exit 2) (0,(s.l.length:Int),s,q)=b)(k:Nat)(hk:s.l.length<k) :
  Al (λrec=>Vl rec kx) k (0,0,s,q)=cond (decide (Ff s.cols s.l=0)) b (g (Ff s.cols s.l)):=by
 refine(A3 s.l.length (λi=>(0,(i:Int),s,q)) (λi=>cond (decide (Ff s.cols (s.l.drop i)=0)) b (g (Ff s.cols (s.l.drop i)))) (λi hi rec hr =>?_) (λrec =>?_) k 0 (Nat.zero_le _) (by omega)).trans (by rw[Zq1])
 ·have hk:A18 s.l[i] s.cols=some (Ci s.l[i] s.cols):=by rw[A18,Ze1 (A2x (hs _ (List.getElem_mem hi)))];rfl
  simp only[Vl,Cf hi,Af,Aw hi,chk,As (c :=.expr) hi,hk,Zc1,Au hi hn,hr,Ak hi,Ff,Bj9 hc];by_cases hf:(Ci s.l[i] s.cols).2=0
  ·simp only[hf,decide_true,Zt1,Ag,Af];cases decide (2<(Ci s.l[i] s.cols).1) with|true=>exact h1 _ _|false=>rfl
  ·simp only[Zd1 hf,Zs1,Af,Ag];exact h1 _ _
 ·simp only[Vl,Cg,Ag,h2];rw[Zk1 (Zn1 _)];rfl
theorem Btm{s:Stm}(hb:BdStm s)(hf:Few s){k:Nat}(h1:s.names.length<k)(h2:s.l.length<k):Yg k s=some (G4 s):=by
 simp only[Yg,A97 hf,Zc1,G4];cases hck:Bp s with
 |false=>simp[Fu]
 |true =>
  by_cases hk:s.kind=1
  ·have hc:s.cols.all Ij=true:=by simp only[Bp,if_pos hk,Zb1] at hck;exact hck.2.1.1.1.1.1
   simp only[hk,decide_true,Zt1,Ag,Af,Bool.and_self];refine(Axa (a:=some (Fu,150)) (b:=cond (decide (Ff s.cols s.l=0)) (some (⟨s.name,s.cols,s.names,s.l,[]⟩,0)) (some (Fu,Ff s.cols s.l))) hb.names.1 (λ_=>rfl) ?_ _ h1).trans ?_
   ·exact Avy (g:=λp=>some (Fu,p)) hb.l.1 hc (λe he=>by have:=Bg he;have:=hf.l;omega) (λ_ _=>rfl) rfl _ h2
   ·rw[A0,A0];rfl
  ·simp[hk,Fu]
theorem Bju:FO 38 [.sv .stmt] [.sv .tbl,.int .i64] Axv :=.fin 0 Bds λs r hb hx=>⟨s.names.length+s.l.length+1,by
 simp only[Axv,Ay3] at hx;split at hx
 case isFalse=>cases hx
 rename_i hf;rw[<-hx];exact Btm hb hf (by omega) (by omega)⟩
def Afv:Sig:=⟨33,[(4,.int .i64),(6,.int .i64)],[(2,.ptr 0 0),(3,.ptr 1 0)],[(0,.one (.sv .tbl)),(1,.one (.sv .idx))],2,0,0,[],[]⟩
abbrev Y3:=Int×Int×Tbl×Idx
def Sw{R:Type}(rec:Y3->Option R)(kx:Ex->Y3->Option R)(v:Y3):Option R:=match v with
 |(v,v1,w,w1) =>
 cond (decide (v1<(w1.cols.length:Int))) (
  chk (inb v1 w1.cols.length) (
  cond (decide ((Bft w.cols (at' .str w1.cols v1))<0)) (
   kx .ret (150,v1,w,w1)) (
   rec (v,(wr .i64 (v1+1)),w,w1)))) (
  kx (.exit 0) (v,v1,w,w1))
def Asu(R:Type)(k:Nat):Px R:=pxO [(68,cA Ayw),(97,cA Awp)] [] [(5,Am k Afv (Sw))] []
def Aft(k:Nat)(x:HV [.sv .tbl,.sv .idx]):Option (HV [.int .i64]):=match x with
 |(t,x) =>
 (Be3 (Stm.mk 3 x.name t.name [] x.cols [] [] [] false (Xpr.mk 0 ⟨0,0,[]⟩ [] []) [] [] 0)).bind λx1 =>
  cond (!decide (x1=0)) (
  some 2) (
  Al (λrec=>Sw rec (λe vz=>match vz with|(v2,_,_,_)=>match e with
   |.ret =>
   some v2
   |.exit 0 =>
   some 0
   |_=>none)) k (0,0,t,x))
theorem A9m(k:Nat):FO 67 [.sv .tbl,.sv .idx] [.int .i64] (Aft k):=fR (px:=Asu _ k) (n:=1) Tryz.func67 rfl (λcx H=>by have h0:Lv cx (Asu (HV [.int .i64]) k):=lv H (c1 H Bcm (c1 H Bbe Ae)) Ab Aa;have hlrright_0:=lO H h0 (b:=lp Tryz.f67 0) (k:=k) (n:=0) (s:=Afv) (step:=Sw) (λ_ _ _ (_,_,_,_)=>by kernel_rfl) Ah;exact⟨h0,(A5 Ah hlrright_0)⟩) λ(_,_)=>by kernel_rfl
def Avj(t:Tbl)(x:Idx):Option Int :=@ite _ (Few (C8 t x)) (Classical.propDecidable _) (some (cond (Bp (C8 t x)) (cond (Ih t x.cols) 0 150) 2)) none
def Amk:FT [.sv .tbl,.sv .idx] [.int .i64]:=λx=>Avj x.1 x.2
theorem Bhb:FO 67 [.sv .tbl,.sv .idx] [.int .i64] Amk :=.fin 0 A9m λ(t,x) r hb hx=>⟨x.cols.length+1,by
 simp only[Amk,Avj] at hx;split at hx
 case isFalse=>cases hx
 rename_i hf;rw[<-hx];have e:Be3 (Stm.mk 3 x.name t.name [] x.cols [] [] [] false (Xpr.mk 0 ⟨0,0,[]⟩ [] []) [] [] 0)=some (cond (Bp (C8 t x)) 0 2):=A97 hf;simp only[Aft,e,Zc1];cases Bp (C8 t x) with
 |false=>rfl
 |true =>
  simp only[Af,decide_true,Zt1,Ag];refine(A3 x.cols.length (λi=>(0,(i:Int),t,x)) (λi=>some (cond (Ih t (x.cols.drop i)) 0 150)) (λi hi rec hr =>?_) (λrec =>?_) _ 0 (Nat.zero_le _) (by omega)).trans (by rw[Zq1])
  ·simp only[Sw,Cf hi,Af,Aw hi,chk,As (c :=.str) hi,Au hi hb.2.2.1,hr,Ak hi,Ih,Zv1,Bft];cases decide (Cd t.cols x.cols[i]<0)<;>rfl
  ·simp only[Sw,Cg,Ag];rw[Zk1 (Zn1 _)];rfl⟩
structure FewR (t:Tbl):Prop where
 stm:Few (B2 t)
 idx:∀x,x∈t.idx->Few (C8 t x)
def Asq(l:List Idx):Nat->Option Str
 |0=>none
 |i+1=>some (at' .idx l (i:Int)).name
def Afo:Sig:=⟨57,[(2,.int .i64),(5,.int .i64)],[(1,.ptr 0 0)],[(0,.one (.sv .tbl))],1,0,0,[],[]⟩
abbrev Pu:=Int×Int×Tbl
def M2{R:Type}(rec:Pu->Option R)(kx:Ex->Pu->Option R)(v:Pu):Option R:=match v with
 |(v,v1,w) =>
 cond (decide (v1<(w.idx.length:Int))) (
  chk (inb v1 w.idx.length) (
  (Avj w (at' .idx w.idx v1)).bind λx2 =>
   cond (!decide (x2=0)) (
   kx .ret (2,v1,w)) (
   cond (decide (0<v1)) (
    chk (inb (wr .i64 (v1-1)) w.idx.length) (
    chk (inb v1 w.idx.length) (
     cond (!Op.bytesLess ((at' .idx w.idx (wr .i64 (v1-1))).name) ((at' .idx w.idx v1).name)) (
     kx .ret (2,v1,w)) (
     rec (v,(wr .i64 (v1+1)),w))))) (
    rec (v,(wr .i64 (v1+1)),w))))) (
  kx (.exit 0) (v,v1,w))
def Ar0(R:Type)(k:Nat):Px R:=pxO [(30,cA Nz),(38,cA Axv),(67,cA Amk)] [] [(5,Am k Afo (M2))] []
def Agl(k:Nat)(x:HV [.sv .tbl]):Option (HV [.int .i64]):=match x with
 |t =>
 (Ay3 (B2 t)).bind λ(_,x1) =>
  cond (!decide (x1=0)) (
  some 2) (
  cond (decide (100<(t.idx.length:Int))) (
   some 2) (
   Al (λrec=>M2 rec (λe vz=>match vz with|(v2,_,_)=>match e with
   |.ret =>some v2
   |.exit 0 =>some 0
   |_=>none)) k (0,0,t)))
theorem A5l(k:Nat):FO 28 [.sv .tbl] [.int .i64] (Agl k):=fR (px:=Ar0 _ k) (n:=1) Tryz.func28 rfl (λcx H=>by have h0:Lv cx (Ar0 (HV [.int .i64]) k):=lv H (c1 H Pq (c1 H Bju (c1 H Bhb Ae))) Ab Aa;have hlrchk16_0:=lO H h0 (b:=lp Tryz.f28 0) (k:=k) (n:=0) (s:=Afo) (step:=M2) (λ_ _ _ (_,_,_)=>by kernel_rfl) Ah;exact⟨h0,(A5 Ah hlrchk16_0)⟩) λ_=>by kernel_rfl
def Awo(t:Tbl):Option Int :=@ite _ (FewR t) (Classical.propDecidable _) (some (cond (Fq t) 0 2)) none
def Anj:FT [.sv .tbl] [.int .i64]:=λx=>Awo x
theorem Aqf{R:Type}{kx:Ex->Pu->Option R}{t:Tbl}{a b:Option R}(hn:ln t.idx.length)(hf:FewR t)(h1:∀i:Nat,kx .ret (2,(i:Int),t)=a)(h2:kx (.exit 0) (0,(t.idx.length:Int),t)=b)(k:Nat)(hk:t.idx.length<k) :
  Al (λrec=>M2 rec kx) k (0,0,t)=cond (Aqb t none t.idx) b a:=by
 refine(A3 t.idx.length (λi=>(0,(i:Int),t)) (λi=>cond (Aqb t (Asq t.idx i) (t.idx.drop i)) b a) (λi hi rec hr =>?_) (λrec =>?_) k 0 (Nat.zero_le _) (by omega)).trans (by rw[Zq1];rfl)
 ·have hr1:Avj t t.idx[i]=some (cond (Bp (C8 t t.idx[i])) (cond (Ih t t.idx[i].cols) 0 150) 2):=if_pos (hf.idx _ (List.getElem_mem hi));have e:Asq t.idx (i+1)=some t.idx[i].name:=by simp only[Asq,As (c :=.idx) hi]
  simp only[M2,Cf hi,Af,Aw hi,chk,As (c :=.idx) hi,hr1,Zc1,Au hi hn,hr,Ak hi,e];have ok:I0 t t.idx[i]=(Bp (C8 t t.idx[i])&&Ih t t.idx[i].cols):=rfl;cases i with
  |zero =>
   simp only[Asq,Aqb,ok];cases Bp (C8 t t.idx[0]) with
   |false=>exact h1 0
   |true=>cases Ih t t.idx[0].cols<;>first|exact h1 0|rfl
  |succ j =>
   have hj:j<t.idx.length:=by omega
   have wj:wr .i64 (((j+1:Nat):Int)-1)=(j:Int):=by simp only[ln] at hn;rw[Bf (by simp only[inI];omega)];omega
   simp only[Asq,Aqb,ok,Ze1 (show(0:Int)<((j+1:Nat):Int) by omega),Af,wj,Aw hj,As (c :=.idx) hj,Bs3];cases Bp (C8 t t.idx[j+1]) with
   |false=>exact h1 _
   |true =>
    cases Ih t t.idx[j+1].cols with
    |false=>exact h1 _
    |true =>cases ltN t.idx[j].name t.idx[j+1].name with|false=>exact h1 _|true=>rfl
 ·simp only[M2,Cg,Ag,h2];rw[Zk1 (Zn1 _)];cases Asq t.idx t.idx.length<;>rfl
theorem Bjo{s:Stm}(h:Few s):Ay3 s=some (G4 s):=if_pos h
theorem Bhn:FO 28 [.sv .tbl] [.int .i64] Anj :=.fin 0 A5l λt r hb hx=>⟨t.idx.length+1,by
 simp only[Anj,Awo] at hx;split at hx
 case isFalse=>cases hx
 rename_i hf;rw[<-hx];have e:Ay3 (B2 t)=some (G4 (Dz t)):=Bjo hf.stm;simp only[Agl,e,Zc1,Fq];cases decide ((G4 (Dz t)).2=0) with
 |false=>rfl
 |true =>
  simp only[Zt1,Ag,Bool.true_and];have e1:decide (100<(t.idx.length:Int)) = !decide (t.idx.length<=100):=by
   by_cases h:t.idx.length<=100
   ·rw[Ze1 h,Zd1 (by omega)];rfl
   ·rw[Zd1 h,Ze1 (by omega)];rfl
  rw[e1];cases decide (t.idx.length<=100) with
  |false =>simp only[Zs1,Af,Bool.false_and,Bool.and_false];rfl
  |true =>simp only[Zt1,Ag,Bool.true_and];refine(Aqf (a:=some 2) (b:=some 0) hb.idx.1 hf (λ_=>rfl) rfl _ (by omega)).trans ?_;rw[Biz,A0]⟩
theorem Beb{t:Tbl}(h:FewR t):Awo t=some (cond (Fq t) 0 2):=if_pos h
def Zz:Sig:=⟨81,[(1,.sl .val false),(4,.int .i64),(7,.int .i64)],[(2,.ptr 0 0)],[(0,.one (.sv .tbl))],1,0,0,[],[]⟩
abbrev Kx:=List Val×Int×Int×Tbl
def Jo{R:Type}(rec:Kx->Option R)(kx:Ex->Kx->Option R)(v:Kx):Option R:=match v with
 |(v7,v8,v9,w1) =>
 cond (decide (v9<(w1.checks.length:Int))) (
  chk (inb v9 w1.checks.length) (
  (Ay1 (at' .expr w1.checks v9) w1.cols v7).bind λ(x1,x2) =>
   cond (!decide (x2=0)) (
   kx .ret (v7,x2,v9,w1)) (
   cond (decide (x1.kind=2)) (
    cond (decide (x1.n=0)) (
    kx .ret (v7,162,v9,w1)) (
    rec (v7,v8,(wr .i64 (v9+1)),w1))) (
    rec (v7,v8,(wr .i64 (v9+1)),w1))))) (
  kx (.exit 2) (v7,v8,v9,w1))
def Ab2:Sig:=⟨81,[(1,.sl .val false),(4,.int .i64),(6,.int .i64)],[(2,.ptr 0 0)],[(0,.one (.sv .tbl))],1,0,0,[],[]⟩
abbrev Lq:=List Val×Int×Int×Tbl
def Jc{R:Type}(rec:Lq->Option R)(kx:Ex->Lq->Option R)(v:Lq):Option R:=match v with
 |(v,v1,v2,w) =>
 cond (decide (v2<(v.length:Int))) (
  chk (inb v2 v.length) (
  cond (decide ((at' .val v v2).kind=1)) (
   chk (inb v2 w.cols.length) (
   cond ((at' .col w.cols v2).notNull) (
    kx .ret (v,161,v2,w)) (
    chk (inb v2 w.cols.length) (
    cond ((Bvk w.key ((at' .col w.cols v2).name))) (
     kx .ret (v,161,v2,w)) (
     rec (v,v1,(wr .i64 (v2+1)),w)))))) (
   rec (v,v1,(wr .i64 (v2+1)),w)))) (
  kx (.exit 0) (v,v1,v2,w))
def Al3(R:Type)(k:Nat):Px R:=pxO [(28,cA Anj),(45,cA Ah0),(46,cA A57)] [(47,qA Aw3)] [(7,Am k Ab2 (Jc)),(12,Am k Zz (Jo))] []
def Zw(k:Nat)(x:HV [.sv .tbl,.sl .val false]):Option (HV [.int .i64]):=match x with
 |(t,row) =>
 (Awo t).bind λx =>
  cond (!decide (x=0)) (
  some x) (
  cond (!(Arl t.cols row)) (
   some 151) (
   Al (λrec=>Jc rec (λe vz=>match vz with|(v3,v4,_,v6)=>match e with
   |.ret =>some v4
   |.exit 0 =>
    Al (λrec=>Jo rec (λe vz=>match vz with|(_,a,_,_)=>match e with
    |.ret =>some a
    |.exit 2 =>some 0
    |_=>none)) k (v3,v4,0,v6)
   |_=>none)) k (row,0,0,t)))
theorem A32(k:Nat):FO 18 [.sv .tbl,.sl .val false] [.int .i64] (Zw k):=fR (px:=Al3 _ k) (n:=2) Tryz.func18 rfl (λcx H=>by have h0:Lv cx (Al3 (HV [.int .i64]) k):=lv H (c1 H Bhn (c1 H Az5 (c1 H Bto Ae))) (q1 H Bks Ab) Aa;have hlrfits16_0:=lO H h0 (b:=lp Tryz.f18 0) (k:=k) (n:=0) (s:=Ab2) (step:=Jc) (λ_ _ _ (_,_,_,_)=>by kernel_rfl) Ah;have hlrfits16_1:=lO H h0 (b:=lp Tryz.f18 1) (k:=k) (n:=0) (s:=Zz) (step:=Jo) (λ_ _ _ (_,_,_,_)=>by kernel_rfl) Ah;exact⟨h0,(A5 (A5 Ah hlrfits16_0) hlrfits16_1)⟩) λ(_,_)=>by kernel_rfl
def Ah4(t:Tbl)(row:List Val):Option Int :=@ite _ (FewR t) (Classical.propDecidable _) (some (J3 t row)) none
def Adn:FT [.sv .tbl,.sl .val false] [.int .i64]:=λx=>Ah4 x.1 x.2
theorem Aix{R:Type}{kx:Ex->Lq->Option R}{t:Tbl}{row:List Val}{a b:Option R}(hn:ln row.length)(he:t.cols.length=row.length)(h1:∀i:Nat,kx .ret (row,161,(i:Int),t)=a)(h2:kx (.exit 0) (row,0,(row.length:Int),t)=b)(k:Nat)(hk:row.length<k) :
  Al (λrec=>Jc rec kx) k (row,0,0,t)=cond (Adh t.key t.cols row) a b:=by
 refine(A3 row.length (λi=>(row,0,(i:Int),t)) (λi=>cond (Adh t.key (t.cols.drop i) (row.drop i)) a b) (λi hi rec hr =>?_) (λrec =>?_) k 0 (Nat.zero_le _) (by omega)).trans (by rw[Zq1,Zq1])
 ·have hi2:i<t.cols.length:=by omega
  simp only[Jc,Cf hi,Af,Aw hi,Aw hi2,chk,As (c :=.col) hi2,As (c :=.val) hi,Au hi hn,Ak hi,Ak hi2,Adh,h1,Bvk];cases decide (row[i].kind=1) with
  |false=>exact hr
  |true =>cases t.cols[i].notNull with|true=>rfl|false =>simp only[Af,Ag,Bool.true_and,Bool.false_or,hr];cases t.key.contains t.cols[i].name<;>rfl
 ·simp only[Jc,Cg,Ag,h2];rw[Zk1 (show t.cols.length<=row.length by omega)];rfl
theorem Bjg{e:Xpr}{cols:List Col}{row:List Val}(h:(D1 e cols row).2=0):(decide ((D1 e cols row).1.kind=2)&&decide ((D1 e cols row).1.n=0))=decide ((D1 e cols row).1=⟨2,0,[]⟩):=by
 have hr:Bo (D1 e cols row).1=true:=by
  rcases Qb e cols row with ⟨_,h2⟩|⟨_,_,h3,h4⟩|⟨_,_,_,_,h5⟩
  ·rw[h2] at h;cases h
  ·rw[h4] at h;exact absurd h h3
  ·rcases h5 with h5|h5
   ·exact h5.2.1
   ·have:=h5.1;omega
 generalize (D1 e cols row).1=v at hr;obtain⟨k,n,s⟩:=v;rw[Bool.eq_iff_iff];simp only[Zb1,Zg1,Val.mk.injEq];constructor
 ·rintro⟨rfl,rfl⟩;simp[Bo] at hr;exact⟨rfl,rfl,hr⟩
 ·rintro⟨h1,h2,_⟩;exact⟨h1,h2⟩
theorem Ajf{R:Type}{kx:Ex->Kx->Option R}{t:Tbl}{row:List Val}{c:Int->Option R}(hn:ln t.checks.length)(hs:∀e,e∈t.checks->A1 e<=10000)(h1:∀r (i:Nat),kx .ret (row,r,(i:Int),t)=c r)(h2:kx (.exit 2) (row,0,(t.checks.length:Int),t)=c 0)(k:Nat)(hk:t.checks.length<k) :
  Al (λrec=>Jo rec kx) k (row,0,0,t)=c (F3 t.cols row t.checks):=by
 refine(A3 t.checks.length (λi=>(row,0,(i:Int),t)) (λi=>c (F3 t.cols row (t.checks.drop i))) (λi hi rec hr =>?_) (λrec =>?_) k 0 (Nat.zero_le _) (by omega)).trans (by rw[Zq1])
 ·have he:Ay1 t.checks[i] t.cols row=some (D1 t.checks[i] t.cols row):=by rw[Ay1,Ze1 (A2x (hs _ (List.getElem_mem hi)))];rfl
  simp only[Jo,Cf hi,Af,Aw hi,chk,As (c :=.expr) hi,he,Zc1,Au hi hn,hr,h1,Ak hi,F3];by_cases h0:(D1 t.checks[i] t.cols row).2=0
  ·rw[<-Bjg h0];simp only[h0,decide_true,Zt1,Ag,Af];cases decide ((D1 t.checks[i] t.cols row).1.kind=2) with|false=>rfl|true=>cases decide ((D1 t.checks[i] t.cols row).1.n=0)<;>rfl
  ·simp only[Zd1 h0,Zs1,Af,Ag]
 ·simp only[Jo,Cg,Ag,h2];rw[Zk1 (Zn1 _)];rfl
theorem A9h:FO 18 [.sv .tbl,.sl .val false] [.int .i64] Adn :=.fin 0 A32 λ(t,row) r hb hx=>⟨row.length+t.checks.length+1,by
 simp only[Adn,Ah4] at hx;split at hx
 case isFalse=>cases hx
 rename_i hf;rw[<-hx];simp only[Zw,Beb hf,Zc1,J3,Arl];cases Fq t with
 |false=>rfl
 |true =>
  simp only[Af,decide_true,Zt1,Ag];cases hfit:Dc t.cols row with
  |false=>rfl
  |true =>simp only[Zt1,Ag,Af];refine(Aix (a:=some 161) (b:=some (F3 t.cols row t.checks)) hb.2.1 (E0 hfit) (λ_=>rfl) ?_ _ (by omega)).trans A0;exact Ajf (c:=some) hb.1.checks.1 (λe he=>by have:=Bg he;have h2:=hf.stm.l;simp only[B2] at h2;omega) (λ_ _=>rfl) rfl _ (by omega)⟩
theorem A6u{t:Tbl}{row:List Val}(h:FewR t):Ah4 t row=some (J3 t row):=if_pos h
end
theorem Bes{t:Tbl}(h:FewT t):Fv t=true:=by
 have h1:=h.stm.cols;have h2:=h.stm.names;have h3:=h.stm.l;have h4:=h.idx;have h5:=Ej t.checks;simp only[B2] at h1 h2 h3;have e:∀x,x∈t.checks->A1 x<=1000000:=λx hx=>by have:=Bg hx;omega
 simp only[Fv,Zb1,Zg1,Zg2];refine⟨?_,by omega,λx hx=>by have:=h4.2 x hx;omega⟩;show(decide (t.cols.length<=1000000)&&(decide (([]:List SetE).length<=1000000)&&(decide (t.key.length<=1000000)&&(decide (t.checks.length<=1000000)&&t.checks.all λe=>decide (A1 e<=1000000)))))=true;simp only[Zb1,Zg1,Zg2,Zi1];exact⟨by omega,by omega,by omega,by omega,e⟩
theorem Xb:∀(l:List Col) (s:Str) (i j:Nat),Be l s i=((i+j:Nat):Int)->∀h:j<l.length,l[j].name=s
 |[],_,_,j,_,h=>by simp at h
 |c::l,s,i,j,e,h=>by
  simp only[Be] at e;split at e
  ·rename_i hc;have:j=0:=by omega
   subst this;exact hc
  ·cases j with
   |zero =>rcases Kc l s (i+1) with h1|h1<;>omega
   |succ j =>simp only[List.getElem_cons_succ];exact Xb l s (i+1) j (by rw[e];omega) (by simpa using h)
theorem Bdu{l:List Col}{s:Str}{i:Nat}(h:Cd l s=(i:Int))(hi:i<l.length):l[i].name=s :=Xb l s 0 i (by rw[Nat.zero_add];exact h) hi
theorem A0p{key:List Str}:∀{cols:List Col}{row:List Val},Adh key cols row=false->∀(i:Nat) (h1:i<cols.length) (h2:i<row.length),row[i].kind=1->key.contains cols[i].name=false
 |[],_,_,i,h1,_,_=>by simp at h1
 |_::_,[],_,i,_,h2,_=>by simp at h2
 |c::cs,v::vs,h,i,h1,h2,hk=>by simp only[Adh,Bool.or_eq_false_iff] at h;cases i with|zero =>have h3:=h.1;simp only[List.getElem_cons_zero] at hk ⊢;simp only[hk,decide_true,Bool.true_and,Bool.or_eq_false_iff] at h3;exact h3.2|succ i=>exact A0p h.2 i (by simpa using h1) (by simpa using h2) hk
theorem Btp{t:Tbl}{row:List Val}(hf:Dc t.cols row=true)(hn:Adh t.key t.cols row=false){s:Str}(hs:s∈t.key)(hc:¬Cd t.cols s<0):(at' .val row (Cd t.cols s)).kind≠1/\P4 (at' .val row (Cd t.cols s))=0:=by
 obtain⟨i,hi,e,_⟩:=A1d hc;have hl:=E0 hf;have hi2:i<row.length:=by omega
 have ea:at' .val row (Cd t.cols s)=row[i]:=by rw[e];exact As (c :=.val) hi2
 rw[ea];have hv:=Za hf i hi hi2;refine⟨λhk =>?_,Yt.2 (Aul.1 hv).1⟩;have:=A0p hn i hi hi2 hk;rw[Bdu e hi] at this;simp[hs] at this
theorem Aij{s:Stm}(h:(G4 s).2=0):(decide (s.kind=1)&&Bp s)=true/\Ih ⟨s.name,s.cols,s.names,[],[]⟩ s.names=true/\Ff s.cols s.l=0:=by
 simp only[G4] at h;generalize (decide (s.kind=1)&&Bp s)=b1 at h ⊢;generalize Ih ⟨s.name,s.cols,s.names,[],[]⟩ s.names=b2 at h ⊢;cases b1 with
 |false=>simp at h
 |true =>
  cases b2 with
  |false=>simp at h
  |true =>
   by_cases hc:Ff s.cols s.l=0
   ·exact⟨rfl,rfl,hc⟩
   ·simp[hc] at h
theorem Bsm{s:Stm}(h1:(decide (s.kind=1)&&Bp s)=true)(h2:Ih ⟨s.name,s.cols,s.names,[],[]⟩ s.names=true)(h3:Ff s.cols s.l=0):(G4 s).2=0:=by simp only[G4,h1,h2,h3,decide_true,Af]
theorem Ao9{t:Tbl}(h:Fq t=true):(G4 (Dz t)).2=0/\Bj t.idx=true/\t.idx.length<=100/\∀x,x∈t.idx->I0 t x=true:=by simp only[Fq,Zb1,Zg1,Zg2] at h;exact h
theorem Bjr{t:Tbl}(h:Fq t=true):∀s,s∈t.key->¬Cd t.cols s<0:=by intro s hs;have h1:(!decide (Cd t.cols s<0))=true:=Zg2.1 (Aij (Ao9 h).1).2.1 s hs;simpa using h1
theorem Btn{t:Tbl}(h:Fq t=true):Fq ⟨t.name,t.cols,t.key,[],[]⟩=true:=by obtain⟨b1,b2,_⟩:=Aij (Ao9 h).1;simp only[Fq,Zb1,Zg1];refine⟨Bsm ?_ b2 rfl,rfl,by simp,rfl⟩;simp only[Dz,Bp,if_true,decide_true,Bool.true_and,Zb1] at b1 ⊢;exact⟨⟨b1.1.1,rfl⟩,b1.2.1,rfl⟩
theorem Br1{t:Tbl}{row:List Val}(h:J3 t row=0):Fq t=true/\Dc t.cols row=true/\Adh t.key t.cols row=false/\F3 t.cols row t.checks=0:=by
 simp only[J3] at h;cases h1:Fq t with
 |false=>rw[h1] at h;simp at h
 |true =>
  cases h2:Dc t.cols row with
  |false=>rw[h1,h2] at h;simp at h
  |true =>cases h3:Adh t.key t.cols row with|true=>rw[h1,h2,h3] at h;simp at h|false =>rw[h1,h2,h3] at h;exact⟨rfl,rfl,rfl,h⟩
theorem Aud{cols:List Col}{row:List Val}{m:List Xpr}:∀{l:List Xpr},F3 cols row l=0->F3 cols row (l++m)=F3 cols row m
 |[],_=>rfl
 |e::l,h=>by
  simp only[F3,Zb2] at h ⊢;by_cases h1:(D1 e cols row).2=0
  ·simp only[h1,decide_true,Af] at h ⊢;by_cases h2:(D1 e cols row).1=⟨2,0,[]⟩
   ·simp[h2] at h
   ·simp only[Zd1 h2,Ag] at h ⊢;exact Aud h
  ·simp[h1] at h
theorem Auc{cols:List Col}{e:Xpr}:∀{l:List Xpr},Ff cols l=0->e∈l->Afc cols e=0
 |[],_,h=>by cases h
 |x::l,h,hm=>by
  simp only[Ff] at h;by_cases h1:Afc cols x=0
  ·simp only[h1,decide_true,Af] at h;rcases List.mem_cons.1 hm with rfl|hm
   ·exact h1
   ·exact Auc h hm
  ·simp only[Zd1 h1,Ag] at h;exact absurd h h1
theorem Bnr{t:Tbl}(h:Fq t=true){e:Xpr}(he:e∈t.checks):(Ci e t.cols).2=0:=by
 have h2:Ff t.cols t.checks=0:=(Aij (Ao9 h).1).2.2;have h3:=Auc h2 he;simp only[Afc] at h3;by_cases b:(Ci e t.cols).2=0
 ·exact b
 ·simp only[Zd1 b,Ag] at h3;exact h3
theorem Bfn{e:Xpr}{cols:List Col}{row:List Val}(hf:Dc cols row=true)(hk:(Ci e cols).2=0):F3 cols row [e]=0\/F3 cols row [e]=162\/F3 cols row [e]=20:=by
 have h1:De e=0/\(A7 e cols).2=0:=by
  simp only[Ci] at hk;by_cases h0:De e=0
  ·simp only[h0,decide_true,Zt1,Ag] at hk;exact⟨h0,hk⟩
  ·simp only[Zd1 h0,Zs1,Af] at hk;exact absurd hk h0
 simp only[F3];rcases Qb e cols row with ⟨h2|h2,_⟩|⟨_,_,h3,_⟩|⟨_,_,_,_,h5⟩
 ·exact absurd h1.1 h2
 ·rw[hf] at h2;cases h2
 ·exact absurd h1.2 h3
 ·rcases h5 with h5|h5
  ·simp only[h5.1,decide_true,Af];cases decide ((D1 e cols row).1=⟨2,0,[]⟩)<;>simp
  ·rw[h5.1];simp
theorem Bt6{t:Tbl}(h:Fq t=true):t.name.length<=30:=by have b1:=(Aij (Ao9 h).1).1;simp only[Zb1,Bp] at b1;exact A0g b1.2.1.1
theorem Buq{t:Tbl}(ht:Fq t=true)(hc:∀x,x∈t.idx->x.cols.length<=600):∀x,x∈t.idx->Few (C8 t x):=by
 intro x hx;have hn:=Bt6 ht;have h1:=(Ao9 ht).2.2.2 x hx;simp only[I0,Zb1] at h1;have h2:=h1.1;simp only[Bp,Zb1] at h2;have h3:=A0g h2.1.1;have h4:=hc x hx;simp only[C8] at h3 ⊢;refine⟨by simp,?_,by simp,by simp,?_,?_,by simp[esizes],by simp,by simp⟩
 ·simp only;omega
 ·simp only;omega
 ·simp only[Bv,Xpr.l,esizes];omega
theorem Zl:Zs=some true:=by kernel_rfl
end Go.Proofs.YtbkinkalnmbpjaaGreatDoor
namespace Go.Ax
open Go.RowKit Go.ChangeShapes Go.WideShapes
section
variable {H:Type}{enc':TypeId×Value->H}{P:Program}{w:World}{base:Nat}{sp:Nat->Bool}{held:Bool}
theorem Azw{t k e:TypeId}{fuel:Nat}{cs:List Value}{ps:List MemPlace}(ht:P.underlying t=some (.map k e))(hk:P.underlying k=some (.int .i64))(he:P.underlying e=some .string){l:List (Int×Str)}(hl:∀p,p∈l->P3 l p.1=p.2)(hno:∀n,(∀p,p∈l->p.1≠n)->P3 l n=[])(h:DataW.trod enc' P w base sp held fuel t cs=some (.map (l.map λp=>(.int .i64 p.1,.lit (.string p.2))),ps)):∃b es clk,cs=[.map (some b)]/\w.heap[b]? = some (.map es clk)/\Bbw l es.toList:=by
 rcases open_anymap ht h with ⟨_,hx⟩|⟨b,es,clock,_,rfl,hb,_,_,_⟩
 ·cases hx
 cases fuel with
 |zero=>simp[DataW.trod] at h
 |succ n =>
  simp only[DataW.trod,ht,hb] at h
  ·split at h
   ·obtain⟨entries,hm,hs⟩:=Option.bind_eq_some_iff.1 h;split at hs
    ·simp only[Za1,Zp1,DataW.map.injEq] at hs;obtain⟨hs,_⟩:=hs;have hperm:=sorted_perm (entries.map (·.1));rw[hs] at hperm;have hx:∀(x:MapEntry) (y:(Lit×DataW H)×List MemPlace),((keyOf P k x.key).bind λkey=>if x.val.formed P e=true then(DataW.trod enc' P w base sp held n e x.val.cells.toList).map λy=>((key,y.1),y.2) else none)=some y->∃(m:Int) (s:ByteArray),x.key = .int .i64 m/\x.val = .string s/\s.size<=maxLen/\y.1=(.int .i64 m,.lit (.string s.data.toList)):=by
      intro x y hy;obtain⟨key,hk1,hy⟩:=Option.bind_eq_some_iff.1 hy;split at hy
      ·rename_i hfm;obtain⟨z,hz,rfl⟩:=Option.map_eq_some_iff.1 hy;obtain⟨s,hs1,rfl,hs3⟩:=DataW.trod_string he hz;have hv:x.val = .string s:=by
        cases hxv:x.val<;>rw[hxv] at hs1 hfm<;>simp[Value.cells] at hs1
        ·rw[hs1]
        ·simp[Value.formed,he] at hfm
       have hkk:∃m,x.key = .int .i64 m/\key = .int .i64 m:=by
        simp only[keyOf,hk] at hk1;cases hxk:x.key<;>rw[hxk] at hk1<;>simp[mapKey,hk] at hk1
        obtain⟨⟨h1,_⟩,h2⟩:=hk1;subst h1;exact⟨_,rfl,h2.symm⟩
       obtain⟨m,h1,rfl⟩:=hkk;exact⟨m,s,h1,hv,hs3,rfl⟩
      ·cases hy
     have hin:∀x,x∈es.toList->∃(m:Int) (s:ByteArray),x.key = .int .i64 m/\x.val = .string s/\s.size<=maxLen/\(m,s.data.toList)∈l:=λx hxm=>by obtain⟨i,hi,rfl⟩:=List.getElem_of_mem hxm;obtain⟨y,hy,hf⟩:=Lib.mapM_at hm i _ (Zo1 hi);obtain⟨m,s,h1,h2,h3,h4⟩:=hx _ y hf;refine⟨m,s,h1,h2,h3,?_⟩;have:y.1∈entries.map (·.1):=List.mem_map.2 ⟨y,List.mem_of_getElem? hy,rfl⟩;have:=hperm.symm.subset this;rw[h4] at this;obtain⟨p,hp,e⟩:=List.mem_map.1 this;simp only[Zp1,Lit.int.injEq,true_and,DataW.lit.injEq,Lit.string.injEq] at e;obtain⟨e1,e2⟩:=e;rw[<-e1,<-e2];exact hp
     have hout:∀p,p∈l->∃x,x∈es.toList/\x.key = .int .i64 p.1:=λp hp=>by have h1:(Lit.int .i64 p.1,DataW.lit (H:=H) (.string p.2))∈entries.map (·.1):=hperm.subset (List.mem_map.2 ⟨p,hp,rfl⟩);obtain⟨y,hy,e⟩:=List.mem_map.1 h1;obtain⟨x,hxm,hf⟩:=mapM_mem hm y hy;obtain⟨m,s,h2,_,_,h4⟩:=hx x y hf;rw[e] at h4;simp only[Zp1,Lit.int.injEq,true_and] at h4;exact⟨x,hxm,by rw[h2,h4.1]⟩
     refine⟨b,es,clock,rfl,hb,λn =>?_⟩;have hik:MapKept.IsKey (.int .i64) (.int .i64 n):=by simp[MapKept.IsKey]
     rcases MapKept.findNow_spec hik es.toList 0 (λx hxm=>by obtain⟨m,s,h1,_⟩:=hin x hxm;rw[h1];simp[MapKept.IsKey]) with ⟨h1,h2⟩|⟨j,x,h1,h2,h3⟩
     ·have:P3 l n=[]:=hno n λp hp e=>by obtain⟨x,hxm,hk⟩:=hout p hp;exact h2 x hxm (by rw[hk,e])
      exact⟨by rw[this];simp,.inl ⟨h1,this⟩⟩
     ·obtain⟨m,s,g1,g2,g3,g4⟩:=hin x (List.mem_of_getElem? h2);have hmn:m=n:=by rw[g1] at h3;simpa using h3
      subst hmn;have hg:=hl _ g4;simp only at hg;refine⟨by rw[hg,Array.length_toList];exact g3,.inr ⟨0+j,?_⟩⟩;rw[h1,g2,hg,Array.toArray_toList]
    ·cases hs
   ·cases h
end
theorem Afe{H:Type}{P:Program}:∀{ts us:List TypeId}{ds gs:List (DataW H)}{n:Nat},ds.length<=ts.length->n∈DataW.weightsEach P ts ds->n∈DataW.weightsEach P (ts++us) (ds++gs)
 |[],us,ds,gs,n,_,h=>by cases ds<;>simp[DataW.weightsEach] at h
 |t::ts,us,[],gs,n,_,h=>by simp[DataW.weightsEach] at h
 |t::ts,us,d::ds,gs,n,hl,h=>by
  simp only[DataW.weightsEach,Zb2,List.mem_append] at h ⊢;rcases h with h|h
  ·exact .inl h
  ·exact .inr (Afe (by simpa using hl) h)
theorem Bk0{H:Type}{P:Program}{ts us:List TypeId}{ds gs:List (DataW H)}(h:(DataW.weightsEach P (ts++us) (ds++gs)).all (·<=reachBytes)=true)(hl:ds.length<=ts.length):∀(i:Nat) (t:TypeId) (d:DataW H),ts[i]? = some t->ds[i]? = some d->∀n,n∈d.weights P t->n<=R47:=λi t d ht hd n hn=>by have:=Zg2.1 h n (Afe hl (DataW.weights_mem_each ht hd n hn));show n<=reachBytes;exact of_decide_eq_true this
theorem A2k{H:Type}{enc':TypeId×Value->H}{P:Program}{w:World}{base:Nat}{sp:Nat->Bool}{held:Bool}:∀{ts:List TypeId}{vs:List Value}{ds:List (DataW H)}{ps:List MemPlace},DataW.TrodAll enc' P w base sp held ts vs ds ps->ds.length=ts.length:=by intro ts;induction ts with|nil=>intro vs ds ps h;cases vs<;>cases ds<;>simp[DataW.TrodAll] at h ⊢|cons t ts ih =>intro vs ds ps h;obtain⟨v,vs',d,ds',p,q,rfl,rfl,rfl,hd,hrest⟩:=trodAll_cons h;simp[ih hrest]
end Go.Ax
namespace Go.Proofs.YtbkinkalnmbpjaaGreatDoor
open Go.Ax Go.ChangeShapes Go.WideShapes Go.ChangeAt Go.RowKit Go.ChangeMaps
theorem own:ownKnob Tryz.prog.godebug=none:=by kernel_rfl
def rdL:List Nat:=[3,4,9,5,33,35,92,106,38,52,24,22,23,36,28,31,30,142,164,72,25,27]
theorem Bwf:rdB elT (Awy ttL) rdL=true:=by kernel_rfl
theorem Bv0:szB Tryz.prog elT (Awy ttL) rdL=true:=by kernel_rfl
theorem Bt7:laidOutB Tryz.prog=true:=by kernel_rfl
def GlE(x:Vx)(g:Nat):Gv->Prop
 |.arr c xs=>∀i y,xs[i]? = some y->∀w',Chg x.S x.w w'->At w' c y g (i*csz c)
 |.map l=>∃r es clk,(∀w',Chg x.S x.w w'->w'.cell? ⟨g,0,none⟩=some (.map (some r))/\w'.heap[r]? = some (.map es clk))/\Bbw l es.toList
 |.num k=>∃n,∀w',Chg x.S x.w w'->w'.cell? ⟨g,0,none⟩=some (.int k n)
theorem Hz{α:Type}:∀{L:List (Nat×α)}{g:Nat}{v : α},tbl L g=some v->(g,v)∈L
 |[],_,_,h=>by simp[tbl] at h
 |(k,u)::L,g,v,h=>by
  simp only[tbl] at h;split at h
  ·rename_i hk;have hk:=Zl1 hk;subst hk;simp only[Za1] at h;subst h;exact Zr1
  ·exact Zu1 _ (Hz h)
theorem Brm{x:Vx}{L:List (Nat×Gv)}(h:∀p,p∈L->GlE x p.1 p.2):GlR x (tbl L) :=⟨λ_ _ _ hg=>h _ (Hz hg),λ_ _ hg=>h _ (Hz hg),λ_ _ hg=>h _ (Hz hg)⟩
theorem An0{P:Program}{w:World}:∀{l:List (String×DataW Unit)}{ps:List MemPlace},DataW.LaidVars P w l ps->∀x,x∈l->∃g t cs fuel p,P.globalNamed x.1=some g/\(P.globals[g]?).map (·.type)=some t/\w.var? P x.1=some cs/\DataW.trod (λ_=>()) P w 0 (λ_=>true) false fuel t cs.toList=some (x.2,p)
 |[],_,_,x,hx=>by cases hx
 |(n,d)::r,ps,h,x,hx=>by
  obtain⟨g,t,cs,fuel,p,q,h1,h2,h3,h4,h5,_⟩:=h;rcases List.mem_cons.1 hx with rfl|hx
  ·exact⟨g,t,cs,fuel,p,h1,h2,h3,h4⟩
  ·exact An0 h5 x hx
theorem Ak7{H:Type}{enc:TypeId×Value->H}{P:Program}{w:World}{base:Nat}{sp:Nat->Bool}{held:Bool}{fuel:Nat}{t e:TypeId}{n:Nat}{cs:List Value}{zs:List (List UInt8)}{p:List MemPlace}
  (ht:P.underlying t=some (.array n e)) (he:P.underlying e=some .string) (hce:P.cellsOf e=1)
  (h:DataW.trod enc P w base sp held fuel t cs=some (.agg (zs.map λz =>.lit (.string z)),p)):∀(i:Nat) (z:Str),zs[i]? = some z->cs[i]? = some (.string ⟨z.toArray⟩):=by
 cases fuel with
 |zero=>simp[DataW.trod] at h
 |succ fuel =>
  simp only[DataW.trod,ht,hce,Nat.mul_one] at h;split at h
  ·rename_i hl;obtain⟨xs,hm,hx⟩:=Option.map_eq_some_iff.1 h;have hxs:xs.map (·.1)=zs.map λz=>(DataW.lit (.string z):DataW H):=by have:=congrArg Prod.fst hx;simpa using this
   have hxl:xs.length=n:=by simpa using Lib.mapM_length hm
   have hzl:zs.length=n:=by have:=congrArg List.length hxs;simp at this;omega
   intro i z hz;have hi:i<n:=by have:=(Zi2.1 hz).1;omega
   obtain⟨b,hb,hf⟩:=Lib.mapM_at hm i i (by simp[hi]);obtain⟨z',hc,h3,_⟩:=DataW.trod_string he hf;have h1:cs[i]? = some (.string z'):=by have:=congrArg (·[0]?) hc;simpa[List.getElem?_take,List.getElem?_drop] using this
   have h2:(xs.map (·.1))[i]? = some b.1:=by simp[hb]
   rw[hxs] at h2;simp only[List.getElem?_map,hz,Zl2,Za1] at h2;rw[h3] at h2;simp only[DataW.lit.injEq,Lit.string.injEq] at h2;rw[h1,h2]
  ·cases h
theorem Aqi{W:World}{l:List (String×DataW Unit)}(h:laidMet Tryz.prog l W){nm:String}{g t e:Nat}{n:Nat}{zs:List Str}(hin:(nm,DataW.agg (zs.map λz =>.lit (.string z)))∈l)(hg:Tryz.prog.globalNamed nm=some g)(hgt:(Tryz.prog.globals[g]?).map (·.type)=some t)
  (ht:Tryz.prog.underlying t=some (.array n e)) (he:Tryz.prog.underlying e=some .string) (hce:Tryz.prog.cellsOf e=1) (hz:(zs.all λz=>Nat.ble z.length maxLen)=true):GlE (v0 elT D4 W) g (.arr .str zs):=by
 obtain⟨ps,hl,_⟩:=h;obtain⟨g',t',cs,fuel,p,h1,h2,h3,h4⟩:=An0 hl _ hin;obtain rfl:=Option.some.inj (hg.symm.trans h1);obtain rfl:=Option.some.inj (hgt.symm.trans h2);have hc:=Ak7 ht he hce h4;intro i y hy w' hw j d hd;have hj:j=0/\d = .str y:=by cases j with|zero=>simpa[enc] using hd.symm|succ j=>simp[enc] at hd
 obtain⟨rfl,rfl⟩:=hj;have h5:=World.var?_cell h1 h3 i;rw[<-Array.getElem?_toList,hc i y hy] at h5;have hm:=Zg2.1 hz y (List.mem_of_getElem? hy);have e1:i*csz .str+0=i:=by simp[csz]
 exact⟨_,by rw[e1];exact hw.cell _ _ _ h5 (λh=>h),.str y (Nat.le_of_ble_eq_true hm)⟩
theorem Brf:∀p,p∈signsL->P3 signsL p.1=p.2:=by decide
theorem Bsz(l:List (Int×Str)):∀n,(∀p,p∈l->p.1≠n)->P3 l n=[]:=by induction l with|nil=>intro n _;rfl|cons p l ih =>intro n h;obtain⟨k,s⟩:=p;have h1:k≠n:=h (k,s) (by simp);simp only[P3,Zd1 h1];exact ih n λp hp=>h p (by simp[hp])
theorem Bfg{W:World}{l:List (String×DataW Unit)}(h:laidMet Tryz.prog l W)(hin:("exchequer/ast.signs",Rows.laid_exchequer_ast_signs)∈l):GlE (v0 elT D4 W) 0 (.map signsL):=by
 obtain⟨ps,hl,_⟩:=h;obtain⟨g',t',cs,fuel,p,hg',ht',hvar,hd⟩:=An0 hl _ hin;obtain rfl:=Option.some.inj ((show Tryz.prog.globalNamed "exchequer/ast.signs" = some 0 by kernel_rfl).symm.trans hg');obtain rfl:=Option.some.inj ((show(Tryz.prog.globals[0]?).map (·.type)=some 202 by kernel_rfl).symm.trans ht');obtain⟨b,es,clk,h1,h2,h3⟩:=Azw (l:=signsL) (t:=202) (k:=3) (e:=9) (by kernel_rfl) (by kernel_rfl) (by kernel_rfl) Brf (Bsz signsL) hd;have hc:=World.var?_cell hg' hvar 0;have h1':cs = #[.map (some b)]:=by apply Array.ext';exact h1
 rw[h1'] at hc;have hc:W.cell? ⟨0,0,none⟩=some (.map (some b)):=hc;have hlt:b<W.heap.size:=(Zh2.1 h2).1;exact⟨b,es,clk,λw' hw=>⟨hw.cell _ 0 _ hc (λh=>h),by rw[hw.block b hlt (λ_ h=>h)];exact h2⟩,h3⟩
theorem Bq0{W:World}(h:W.ShapedOpen Tryz.prog):GlE (v0 elT D4 W) 2 (.num .i64):=by obtain⟨m,hm⟩:=Go.Proofs.cell_of_shapedOpen_int (zero := #[.int .i64 0]) (t:=3) (g:=2) h (of_decide_eq_true (by kernel_rfl)) (by kernel_rfl) rfl (by kernel_rfl) (by kernel_rfl) Tryz.underlying3;exact⟨m,λw' hw=>hw.cell _ 0 _ hm (λh=>h)⟩
def Bu5(l:List (String×DataW Unit)):Prop:=(l.all λx=>x.2.handleName?.isNone)=true
 /\ ("exchequer/lex.words",Rows.laid_exchequer_lex_words)∈l
 /\ ("exchequer/ast.signs",Rows.laid_exchequer_ast_signs)∈l
 /\ ("exchequer/ast.kinds",Rows.laid_exchequer_ast_kinds)∈l
 /\ True
theorem Brj{W:World}{l:List (String×DataW Unit)}(hl:Bu5 l)(hL:laidMetH Tryz.prog l W)(hS:W.ShapedOpen Tryz.prog):GlR (v0 elT D4 W) glT:=by
 have hL':laidMet Tryz.prog l W:=by
  have hf:(l.filter λx=>x.2.handleName?.isSome)=[]:=List.filter_eq_nil_iff.2 λx hx=>by have:=Zg2.1 hl.1 x hx;rw[Option.isNone_iff_eq_none] at this;simp[this]
  unfold laidMetH at hL;rw[hf] at hL;exact hL
 replace hl:=hl.2;clear hL;have _:=hS;refine Brm λp hp =>?_;have hwords:GlE (v0 elT D4 W) 3 (.arr .str wordsL):=Aqi (n:=36) (t:=303) (e:=9) hL' hl.1 (by kernel_rfl) (by kernel_rfl) (by kernel_rfl) (by kernel_rfl) (by kernel_rfl) (by kernel_rfl);replace hl:=hl.2;have hsigns:=Bfg hL' hl.1;replace hl:=hl.2;have hkinds:GlE (v0 elT D4 W) 1 (.arr .str Av9):=Aqi (n:=6) (t:=251) (e:=9) hL' hl.1 (by kernel_rfl) (by kernel_rfl) (by kernel_rfl) (by kernel_rfl) (by kernel_rfl) (by kernel_rfl);replace hl:=hl.2;have hmax:=Bq0 hS;simp only[List.mem_cons,List.not_mem_nil,or_false] at hp
 repeat' (first|(rcases hp with rfl|hp)|subst hp)
 all_goals assumption
def Byc:DataW Unit->Value
 |.lit (.int k n) =>.int k n
 |.lit (.string s) =>.string ⟨s.toArray⟩
 |_ =>.int .u8 0
def Aaq:DataW Unit->List Value
 |.agg l=>l.map Byc
 |_=>[]
def Bvj:DataW Unit->List Value
 |.agg l=>l.flatMap Aaq
 |_=>[]
def An2(vs:List Value):Obj->Obj
 |.cells _ t frozen =>.cells vs.toArray t frozen
 |o=>o
noncomputable def Blt(h:Array Obj):Array Obj :=
 let h:=h.modify 3 (An2 (Aaq Rows.laid_exchequer_lex_words));let h:=h.modify 1 (An2 (Aaq Rows.laid_exchequer_ast_kinds));let h:=(h.modify 4 (An2 (Aaq Rows.laid_unicode_utf8_first))).modify 5 (An2 (Bvj Rows.laid_unicode_utf8_acceptRanges));let h:=(h.modify 0 (An2 [.map (some h.size)])).push (.map ((signsL.zip (List.range 11)).map λp=>(⟨.int .i64 p.1.1,.string ⟨p.1.2.toArray⟩,p.2⟩:MapEntry)).toArray 11)
 h
noncomputable def Aev(os:Os):World :={ World.holding Tryz.prog os ⟨#[], #[],[]⟩ with heap:=Blt (World.holding Tryz.prog os ⟨#[], #[],[]⟩).heap }
set_option maxRecDepth 100000 in
theorem Bgk{H:Type}{R:Nat×Nat}{M:TypeId->DataW H->Prop}(hM:Msr Tryz.prog R M){enc:TypeId×Value->H}{f:FuncId}{fn:Func}{sa:List Sg}{F:FT sa [.bool]}{s:ChangeSpec}(hok:FnOk Tryz.prog elT glT f sa [.bool] F)(hF:∀x,BdL sa x->SmL R sa x->F x=some true)
  (hr:fn.resultTypes = #[4]) (hv:s.vars=[]) (hf:∀ds,ds.length=fn.params.toList.length->(s.fn H ds).results=[.lit (.bool true)]/\(s.fn H ds).args=ds/\(s.fn H ds).vars=[])
  (hsg:Auu (Awy ttL) rdL fn.params.toList sa=true) (hread:(fn.params.toList.all λt=>Tryz.prog.readableRec t&&Nat.blt t Tryz.prog.types.size)=true)
  {W:World}{base:Nat}{args:Array Value}{ds gs:List (DataW H)}{before:List MemPlace}(hval:∀(j:Nat) t v,fn.params[j]? = some t->args[j]? = some v->Value.okWide Tryz.prog W .any base t v)
  (hW:DataW.Whole enc Tryz.prog fn.params.toList s.vars false W args.toList ds gs before) (hgl:GlR (v0 elT D4 W) glT) (hsz:ds.length=fn.params.toList.length->∀(i:Nat) (t:TypeId) (d:DataW H),fn.params.toList[i]? = some t->ds[i]? = some d->M t d) :
  Calls Tryz.prog f args W λe W'=>∃v,e = .returned v/\s.post enc Tryz.prog fn false true false false W args v W':=by
 have hW':=hW;have hlt:=hW.lt;obtain⟨p,q,hA,hV,rfl,hfz,hnd⟩:=hW;rw[hv] at hV;obtain⟨rfl,rfl⟩:=trodVars_none hV;have hlen:=A2k hA;obtain⟨x,hx,hsm⟩:=Azn hM (λt=>Bjt A9e t) Bwf Bv0 0 hsg (λj t v h1 h2=>hval j t v (by simpa using h1) (by simpa using h2)) hA;have hcall:=hok.calls (hF x (Aab hx) (hsm (hsz hlen))) hgl hx;have e1:args.toList.toArray=args:=by simp
 rw[e1] at hcall;refine hcall.mono λen W' =>?_;rintro⟨rfl,hb⟩;refine⟨_,rfl,?_⟩;obtain⟨h1,h2,h3⟩:=hf ds hlen;have e2:ds++([]:List (DataW H))=ds:=by simp
 refine⟨ds,[],_,[],p,[],hW',?_,?_,?_,hb.frame _,λh=>by cases h⟩
 ·rw[e2,h1,hr];exact trodAll_cons_mk (shut_bool Tryz.underlying4 _) trodAll_mk0
 ·rw[e2,h2];refine Aqk Bt7 hb (λt ht =>?_) (λx hx=>hlt x (by simp[hx])) hA;have:=Zg2.1 hread t ht;simp only[Zb1] at this;exact⟨this.1,by simpa[Nat.blt_eq] using this.2⟩
 ·rw[e2,h3,hv];exact rfl
end Go.Proofs.YtbkinkalnmbpjaaGreatDoor
