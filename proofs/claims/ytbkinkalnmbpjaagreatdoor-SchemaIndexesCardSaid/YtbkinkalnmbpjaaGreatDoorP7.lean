/- Texts of the proof,one behind the other: AxFr,Mu,Tl,Tm,Rq,Sg,Sh,Kq,Ub,AxFs,FrG. -/
import Derived.Test.YtbkinkalnmbpjaaGreatDoorP6
import Derived.ChangeArms
import Derived.WideShapes
import Derived.Carry
import Derived.ChangeShapes
import Derived.Lib.LaidTab
import Derived.SizedLaws
import Derived.Test.YtbkinkalnmbpjaaGreatDoorRows
import Derived.ProofKit
import Derived.ChangeMaps5
import Derived.ChangeAnyMap
import Derived.Test.YtbkinkalnmbpjaaGreatDoorCards
import Derived.Test.YtbkinkalnmbpjaaGreatDoorTie
import Derived.OpenShut
import Derived.Deep.DeepHandedRow
import Derived.Shelf.Vars
set_option linter.all false
namespace Go.Ax
open Go.RowKit Go.ChangeShapes
def shp:D->D->Bool
 |.int k _,.int k' _=>decide (k=k')
 |.bool _,.bool _=>true
 |.str _,.str _=>true
 |.sl c _ _,.sl c' _ _=>decide (c=c')
 |_,_=>false
def Hl:List D->List D->Bool
 |[],[]=>true
 |a::l,b::m=>shp a b&&Hl l m
 |_,_=>false
theorem Bhn{a b c:D}(h:shp a b=true)(k:shp a c=true):shp b c=true:=by cases a<;>cases b<;>simp[shp] at h<;>cases c<;>simp[shp] at k<;>subst_vars<;>simp[shp]
theorem Az4:∀{a b c:List D},Hl a b=true->Hl a c=true->Hl b c=true
 |[],[],[],_,_=>rfl
 |x::a,y::b,z::c,h,k=>by simp only[Hl,Zb1] at h k ⊢;exact⟨Bhn h.1 k.1,Az4 h.2 k.2⟩
 |[],_::_,_,h,_=>by simp[Hl] at h
 |_::_,[],_,h,_=>by simp[Hl] at h
 |[],[],_::_,_,k=>by simp[Hl] at k
 |_::_,_::_,[],_,k=>by simp[Hl] at k
theorem Ac1:∀{a b c d:List D},Hl a b=true->Hl c d=true->Hl (a++c) (b++d)=true
 |[],[],_,_,_,k=>k
 |_::a,_::b,_,_,h,k=>by simp only[Hl,Zb1,Zb2] at h ⊢;exact⟨h.1,Ac1 h.2 k⟩
 |[],_::_,_,_,h,_=>by simp[Hl] at h
 |_::_,[],_,_,h,_=>by simp[Hl] at h
theorem Azj{k:IntKind}{n:Int}{d:D}(h:shp (.int k n) d=true):∃m,d = .int k m:=by
 cases d<;>simp[shp] at h
 subst h;exact⟨_,rfl⟩
theorem Bax{b:Bool}{d:D}(h:shp (.bool b) d=true):∃m,d = .bool m:=by
 cases d<;>simp[shp] at h
 exact⟨_,rfl⟩
theorem A0x{s:Str}{d:D}(h:shp (.str s) d=true):∃m,d = .str m:=by
 cases d<;>simp[shp] at h
 exact⟨_,rfl⟩
theorem A80{c:Ck}{xs:List (El c)}{t:Tk}{d:D}(h:shp (.sl c xs t) d=true):∃ys u,d = .sl c ys u:=by
 cases d<;>simp[shp] at h
 subst h;exact⟨_,_,rfl⟩
theorem R9{a:D}{l ds:List D}(h:Hl (a::l) ds=true):∃b m,ds=b::m/\shp a b=true/\Hl l m=true:=by cases ds with|nil=>simp[Hl] at h|cons b m =>simp only[Hl,Zb1] at h;exact⟨b,m,rfl,h.1,h.2⟩
theorem X7{ds:List D}(h:Hl [] ds=true):ds=[]:=by cases ds with|nil=>rfl|cons b m=>simp[Hl] at h
theorem Akp{c:Ck}{z ds:List D}(h:(dec c z).isSome=true)(hs:Hl z ds=true):∃y,dec c ds=some y:=by
 obtain⟨y0,h⟩:=Option.isSome_iff_exists.1 h;unfold dec at h;split at h;all_goals first
  |(cases h;done)
  |skip
 all_goals
  clear h
  repeat (
   obtain⟨b,m,e,h1,hs'⟩:=R9 hs;clear hs;have hs:=hs';clear hs';subst e
   first
    |(obtain⟨_,e⟩:=Azj h1;subst e)
    |(obtain⟨_,e⟩:=Bax h1;subst e)
    |(obtain⟨_,e⟩:=A0x h1;subst e)
    |(obtain⟨_,_,e⟩:=A80 h1;subst e))
  have e:=X7 hs;subst e;exact⟨_,rfl⟩
def R47:Nat:=140737488351232
def Acy(R:Nat×Nat)(v:Val):Prop:=v.s.length<=R.1
inductive SmExpr (R:Nat×Nat):Xpr->Prop
 |mk (k:Int) (v:Val) (nm:Str) (l:List Xpr):Acy R v->nm.length<=R.1->l.length<=R.2->(∀e,e∈l->SmExpr R e)->SmExpr R (.mk k v nm l)
structure SmStm (R:Nat×Nat) (s:Stm):Prop where
 name:s.name.length<=R.1
 on:s.on.length<=R.1
 cols:s.cols.length<=R.2/\∀c,c∈s.cols->c.name.length<=R.1/\c.ref.length<=R.1
 names:s.names.length<=R.2/\∀x,x∈s.names->x.length<=R.1
 l:s.l.length<=R.2/\∀x,x∈s.l->SmExpr R x
 rows:s.rows.length<=R.2/\∀r,r∈s.rows->r.length<=R.2/\∀x,x∈r->SmExpr R x
 sets:s.sets.length<=R.2/\∀x,x∈s.sets->x.name.length<=R.1/\SmExpr R x.e
 whr:SmExpr R s.whr
 order:s.order.length<=R.2/\∀x,x∈s.order->x.length<=R.1
 desc:s.desc.length<=R.2
def A94(R:Nat×Nat)(x:Idx):Prop:=x.name.length<=R.1/\x.cols.length<=R.2/\∀s,s∈x.cols->s.length<=R.1
structure SmTbl (R:Nat×Nat) (t:Tbl):Prop where
 name:t.name.length<=R.1
 cols:t.cols.length<=R.2/\∀c,c∈t.cols->c.name.length<=R.1/\c.ref.length<=R.1
 key:t.key.length<=R.2/\∀x,x∈t.key->x.length<=R.1
 checks:t.checks.length<=R.2/\∀x,x∈t.checks->SmExpr R x
 idx:t.idx.length<=R.2/\∀x,x∈t.idx->A94 R x
def SmK(R:Nat×Nat):(c:Ck)->El c->Prop
 |.str,s=>s.length<=R.1
 |.val,v=>Acy R v
 |.tok,t=>t.s.length<=R.1
 |.col,c=>c.name.length<=R.1/\c.ref.length<=R.1
 |.expr,e=>SmExpr R e
 |.vals,l=>l.length<=R.2/\∀x,x∈l->Acy R x
 |.exprs,l=>l.length<=R.2/\∀x,x∈l->SmExpr R x
 |.strs,l=>l.length<=R.2/\∀x,x∈l->x.length<=R.1
 |.set,s=>s.name.length<=R.1/\SmExpr R s.e
 |.stmt,s=>SmStm R s
 |.idx,x=>A94 R x
 |.tbl,t=>SmTbl R t
 |_,_=>True
def SmD(R:Nat×Nat):D->Prop
 |.str l=>l.length<=R.1
 |.sl c xs _=>xs.length<=R.2/\∀x,x∈xs->SmK R c x
 |_=>True
def SmS(R:Nat×Nat):(s:Sg)->den s->Prop
 |.str,s=>s.length<=R.1
 |.sl c _,xs=>xs.length<=R.2/\∀x,x∈xs->SmK R c x
 |.sv c,x=>SmK R c x
 |_,_=>True
def SmL(R:Nat×Nat):(l:List Sg)->HV l->Prop
 |[],_=>True
 |[a],x=>SmS R a x
 |a::b::l,(x,y)=>SmS R a x/\SmL R (b::l) y
theorem A9g{R:Nat×Nat}{c:Ck}{ds:List D}{y:El c}(h:dec c ds=some y)(hd:∀d,d∈ds->SmD R d):SmK R c y:=by
 unfold dec at h;split at h<;>simp only[Za1,reduceCtorEq] at h<;>subst h<;>simp only[List.mem_cons,List.not_mem_nil,or_false,forall_eq_or_imp,forall_eq,SmD] at hd<;>simp only[SmK,Acy]<;>first
  |trivial
  |exact hd
  |exact hd.2.2
  |exact hd.2.2.1
  |exact⟨hd.1,hd.2.2.2.2⟩
  |exact .mk _ _ _ _ hd.2.2.2.1 hd.2.2.2.2.1 hd.2.2.2.2.2.1 hd.2.2.2.2.2.2
  |exact⟨hd.1,.mk _ _ _ _ hd.2.2.2.2.1 hd.2.2.2.2.2.1 hd.2.2.2.2.2.2.1 hd.2.2.2.2.2.2.2⟩
  |exact⟨hd.1,hd.2.1,hd.2.2.1,hd.2.2.2.1,hd.2.2.2.2⟩
  |(obtain⟨_,h1,h2,h3,h4,h5,h6,h7,_,_,_,_,w1,w2,w3,h8,h9,_⟩:=hd
    exact⟨h1,h2,h3,h4,h5,h6,h7,.mk _ _ _ _ w1 w2 w3.1 w3.2,h8,h9.1⟩)
theorem S9{H:Type}{P:Program}{e:TypeId}:∀{l:List (DataW H)}{d:DataW H},d∈l->∀n∈d.weights P e,n∈DataW.weightsAll P e l
 |[],_,h,_,_=>by cases h
 |x::l,d,h,n,hn=>by
  simp only[DataW.weightsAll,List.mem_append];rcases List.mem_cons.1 h with rfl|h
  ·exact .inl hn
  ·exact .inr (S9 h n hn)
structure Msr {H:Type}(P:Program) (R:Nat×Nat) (M:TypeId->DataW H->Prop):Prop where
 str:∀(t:TypeId) (s:List UInt8),M t (.lit (.string s))->s.length<=R.1
 sl:∀(t e:TypeId) (l r:List (DataW H)),P.underlying t=some (.slice e)->1<=P.bytesOf e->M t (.slice l r)->l.length<=9223372036854775807->l.length<=R.2/\∀d,d∈l->M e d
 agg:∀(t:TypeId) (fds:Array Field) (l:List (DataW H)) (i:Nat) (fd:Field) (d:DataW H),P.underlying t=some (.struct fds)->M t (.agg l)->fds[i]? = some fd->l[i]? = some d->M fd.type d
theorem Ato{H:Type}(P:Program):Msr (H:=H) P (R47,R47) λt d=>∀n,n∈d.weights P t->n<=R47 where
 str:=λt s h=>h _ (by simp[DataW.weights])
 sl:=λt e l r hu hz h _=>⟨by
  have h1:=h ((l.length+r.length)*P.bytesOf e) (by simp only[DataW.weights,hu,List.mem_cons,true_or]);have h2:(l.length+r.length)*1<=(l.length+r.length)*P.bytesOf e:=Nat.mul_le_mul_left _ hz;omega,λd hd n hn=>h n (by
  simp only[DataW.weights,hu,List.mem_cons,List.mem_append];exact .inr (.inl (S9 hd n hn)))⟩
 agg:=λt fds l i fd d hu h hf hd n hn=>h n (by simp only[DataW.weights,hu];exact DataW.weights_mem_each (j:=i) (t:=fd.type) (d:=d) (by simp[hf]) hd n hn)
def zc(t:Ty):List D:=match t.zero with|some z=>cells z|none=>[]
def Aex(tt:Nat->Ty)(rd:List Nat):Nat->List (Nat×Nat)->List D->Bool
 |_,[],z=>z.isEmpty
 |o,(o',u)::fs,z=>Nat.beq o' o&&rd.contains u&&Nat.ble (zc (tt u)).length z.length&&Hl (zc (tt u)) (z.take (zc (tt u)).length)&&Aex tt rd (o+(zc (tt u)).length) fs (z.drop (zc (tt u)).length)
def A86(el:Ck->TypeId)(tt:Nat->Ty)(rd:List Nat)(t:Nat):Bool:=match tt t with|.int _|.bool|.str=>true|.sl c=>rd.contains (el c)&&(dec c (zc (tt (el c)))).isSome|.st _ fs z=>Aex tt rd 0 fs z|_=>false
def rdB(el:Ck->TypeId)(tt:Nat->Ty)(rd:List Nat):Bool:=rd.all λt=>A86 el tt rd t&&Nat.beq (zc (tt t)).length (tt t).n
def szB(P:Program)(el:Ck->TypeId)(tt:Nat->Ty)(rd:List Nat):Bool:=rd.all λt=>match tt t with|.sl c=>Nat.ble 1 (P.bytesOf (el c))|_=>true
theorem Acu{α:Type}{p:Nat->α->Prop}:∀(n:Nat),(∀i,i<n->∃y,p i y)->∃ys:List α,ys.length=n/\∀i y,ys[i]? = some y->p i y
 |0,_=>⟨[],rfl,by simp⟩
 |n+1,h=>by
  obtain⟨ys,h1,h2⟩:=Acu n (λi hi=>h i (by omega));obtain⟨y,hy⟩:=h n (by omega);refine⟨ys++[y],by simp[h1],λi z hz =>?_⟩;rcases Nat.lt_trichotomy i n with hi|rfl|hi
  ·rw[List.getElem?_append_left (by omega)] at hz;exact h2 i z hz
  ·rw[List.getElem?_append_right (by omega),h1] at hz;simp at hz;subst hz;exact hy
  ·rw[List.getElem?_eq_none (by simp;omega)] at hz;cases hz
section
variable {H:Type}{enc':TypeId×Value->H}{P:Program}{el:Ck->TypeId}{tt:Nat->Ty}{rd:List Nat}{w:World}{sp:Nat->Bool}{held:Bool}
theorem Ul{t:TypeId}{n:Nat}(h:Sx.tySz P t=some n):P.cellsOf t=n:=by unfold Sx.tySz at h;simp[Program.cellsOf,h]
theorem Aet{a:Addr}{n:Nat}{vs:List Value}(h:w.cells? 0 a n=some vs):vs.length=n/\∀j u,vs[j]? = some u->w.cell? (a.add j)=some u:=by
 unfold World.cells? at h;simp only[Nat.zero_le,if_true] at h;refine⟨by simpa using Lib.mapM_length h,λj u hj =>?_⟩;have hlt:j<n:=by have:=Lib.mapM_length h;have h2:=(Zh2.1 hj).1;simp at this;omega
 obtain⟨u',hu,hf⟩:=Lib.mapM_at h j j (by simp[hlt]);rw[hj] at hu;simp only[Za1] at hu;subst hu;exact hf
theorem Azg{a:Addr}{u:Value}(h:w.cell? a=some u):a.spot=none:=by
 unfold World.cell? at h;split at h
 ·split at h
  ·cases h
  ·rename_i hs;cases hq:a.spot with|none=>rfl|some q=>rw[hq] at hs;simp at hs
 ·cases h
theorem Ape{R:Nat×Nat}{M:TypeId->DataW H->Prop}(hM:Msr P R M)(hT:∀t,Cq P el tt t=true)(hrd:rdB el tt rd=true)(hsb:szB P el tt rd=true):∀(fuel:Nat) (t:TypeId) (cs:List Value) (x:DataW H×List MemPlace),rd.contains t=true->DataW.trod enc' P w 0 sp held fuel t cs=some x->∃ds,Hl (zc (tt t)) ds=true/\Reps (v0 el Dh w) ds cs/\(M t x.1->∀d,d∈ds->SmD R d)
 |0,t,cs,x,_,h=>by simp[DataW.trod] at h
 |fuel+1,t,cs,x,hc,h=>by
  have hloc:=Zf2.1 hrd t (by simpa using hc);simp only[Zb1] at hloc;obtain⟨hloc,hzl⟩:=hloc;have hzl:=Zl1 hzl;have hszB:=Zf2.1 hsb t (by simpa using hc);unfold A86 at hloc;split at hloc
  ·rename_i k hty;have hu:=Sx.tyI_spec (Ahg (hT t) hty);obtain⟨n,rfl,_,hw⟩:=DataW.trod_int hu h;refine⟨[.int k n],by(rw[hty];show(decide (k=k)&&true)=true;simp),?_,λ_ d hd=>by simp only[List.mem_singleton] at hd;subst hd;trivial⟩;simp only[Reps,Rep];exact⟨_,_,rfl,⟨rfl,hw⟩,rfl⟩
  ·rename_i hty;have hu:=Sx.tyB_spec (Z4 (hT t) hty);obtain⟨b,rfl,_⟩:=DataW.trod_bool hu h;refine⟨[.bool b],by rw[hty];rfl,?_,λ_ d hd=>by simp only[List.mem_singleton] at hd;subst hd;trivial⟩;simp only[Reps,Rep];exact⟨_,_,rfl,rfl,rfl⟩
  ·rename_i hty;have hu:=Sx.tyS_spec (Ga (hT t) hty);obtain⟨s,rfl,rfl,hs⟩:=DataW.trod_string hu h;refine⟨[.str s.data.toList],by rw[hty];rfl,?_,λhwt d hd=>by simp only[List.mem_singleton] at hd;subst hd;exact hM.str _ _ hwt⟩
   simp only[Reps,Rep];exact⟨_,_,rfl,⟨(by rw[Array.toArray_toList]),(by rw[Array.length_toList];exact hs)⟩,rfl⟩
  ·rename_i c hty;simp only[Zb1] at hloc;obtain⟨hel,hdec⟩:=hloc;have hbz : 1<=P.bytesOf (el c):=by rw[hty] at hszB;exact Nat.le_of_ble_eq_true hszB
   obtain⟨by_,hE,_,_⟩:=C2 (hT t) hty;have hu:=hE.und;obtain⟨_,i0,z,hi0,hz,hsz,_⟩:=hE;have hco:P.cellsOf (el c)=csz c:=Ul (by simp[Sx.tySz,hi0,hsz]);rcases DataW.trod_slice hu h with ⟨rfl,_⟩|⟨a,len,cap,elems,rest,n,hf,rfl,rfl,_,hle,hmax,hlen,hel2,_⟩
   ·refine⟨[.sl c [] .no],by(rw[hty];show(decide (c=c)&&true)=true;simp),?_,λ_ d hd=>by simp only[List.mem_singleton] at hd;subst hd;exact⟨Nat.zero_le _,λx hx=>by cases hx⟩⟩
    simp only[Reps,Rep];exact⟨_,_,rfl,⟨λ_ _ =>.nil _ _ _ _,trivial⟩,rfl⟩
   ·have hf:fuel=n:=by omega
    subst hf;have each:∀i,i<len->∃y:El c,(∃vs:List Value,w.cells? 0 (a.add (i*csz c)) (csz c)=some vs/\ElR (v0 el Dh w) c y vs)/\(M t (DataW.slice (elems.map (·.1)) (rest.map (·.1)))->SmK R c y):=λi hi=>by have h1:=hel2 i hi;have hsome:∃e,elems[i]? = some e:=⟨_,Zo1 (by omega)⟩;obtain⟨e,he⟩:=hsome;rw[he] at h1;obtain⟨vs,hv,ht⟩:=Option.bind_eq_some_iff.1 h1;rw[hco] at hv;obtain⟨ds,hs,hr,hsm⟩:=Ape hM hT hrd hsb fuel (el c) vs e hel ht;obtain⟨y,hy⟩:=Akp hdec hs;exact⟨y,⟨vs,hv,Ol hy hr⟩,λhwt=>A9g hy (hsm ((hM.sl _ _ _ _ hu hbz hwt (by have:maxLen=9223372036854775807:=rfl;simp only[List.length_map];omega)).2 e.1 (List.mem_map.2 ⟨e,List.mem_of_getElem? he,rfl⟩)))⟩
    obtain⟨ys,hyl,hys'⟩:=Acu len each;have hys:=λi y hy=>(hys' i y hy).1;refine⟨[.sl c ys .no],by(rw[hty];show(decide (c=c)&&true)=true;simp),?_,λhwt d hd=>by
     simp only[List.mem_singleton] at hd;subst hd;refine⟨?_,λy hy =>?_⟩
     ·have:=(hM.sl _ _ _ _ hu hbz hwt (by have:maxLen=9223372036854775807:=rfl;simp only[List.length_map];omega)).1;simp only[List.length_map] at this;omega
     ·obtain⟨i,hi,rfl⟩:=List.getElem_of_mem hy;exact(hys' i _ (Zo1 hi)).2 hwt⟩
    simp only[Reps,Rep];refine⟨_,_,rfl,⟨Mb hyl.symm ?_,trivial⟩,rfl⟩;by_cases h0:ys=[]
    ·exact .inl h0
    ·right;have hsn:a.spot=none:=by have hlt : 0<ys.length:=List.length_pos_iff.2 h0;obtain⟨vs,hv,hE⟩:=hys 0 _ (Zo1 hlt);obtain⟨h1,h2⟩:=Aet hv;have hp:=Adb c;have:=h2 0 _ (Zo1 (by omega));simp only[Nat.zero_mul,Addr.add,if_true] at this;exact Azg this
     obtain⟨b,o,s⟩:=a;simp only at hsn;subst hsn;refine⟨b,o,rfl,⟨by omega,hmax⟩,λi y hy w' hw j d hd =>?_⟩;obtain⟨vs,hv,hE⟩:=hys i y hy;obtain⟨_,h2⟩:=Aet hv;obtain⟨u,hu',hf⟩:=hE.2 j d hd;have hcell:=h2 j u hu';rw[Sx.add_mk,Sx.add_mk] at hcell;exact⟨u,hw.cell b _ u hcell (λh=>h),hf w' hw⟩
  ·rename_i cc fs z hty;have hbase:=C6 (hT t) (by rw[hty];simp);have hsz:P.cellsOf t=z.length:=by have:=Ul hbase.2.2;rw[this,hty];rfl
   have hok:=hT t;unfold Cq at hok;rw[hty] at hok;simp only[Zb1] at hok;have hfl:=hok.2;split at hfl
   ·rename_i fds hu;simp only[Zb1] at hfl;have hfl:=hfl.1;obtain⟨xs,n,hf,rfl,hcl,hxl,hfx⟩:=DataW.trod_struct hu h;have hf:fuel=n:=by omega
    subst hf;have key:∀(l:List (Nat×Nat)) (i o:Nat) (z':List D),fs.drop i=l->Aex tt rd o l z' = true->o+z'.length=cs.length->∃ds,Hl z' ds=true/\Reps (v0 el Dh w) ds (cs.drop o)/\(M t (DataW.agg (xs.map (·.1)))->∀d,d∈ds->SmD R d):=by
     intro l;induction l with
     |nil =>intro i o z' _ hct ho;simp only[Aex,List.isEmpty_iff] at hct;subst hct;refine⟨[],rfl,?_,λ_ d hd=>by cases hd⟩;rw[Zk1 (by simp at ho;omega)];simp[Reps]
     |cons q l ih =>
      intro i o z' hd hct ho;obtain⟨o',u⟩:=q;simp only[Aex,Zb1] at hct;obtain⟨⟨⟨⟨ho',hcu⟩,hle⟩,hsh⟩,hct⟩:=hct;have ho':=Zl1 ho';subst ho';have hle:=Nat.le_of_ble_eq_true hle;have hget:fs[i]? = some (o',u):=by have:=congrArg (·[0]?) hd;simpa[List.getElem?_drop] using this
      obtain⟨fd,g1,g2,g3,_⟩:=Yx hfl hget;have g1':fds[i]? = some fd:=by simpa using g1
      have h1:=hfx i fd g1';rw[g2,g3] at h1;have hxi:∃e,xs[i]? = some e:=⟨_,Zo1 (by have:=(Zg2.1 g1').1;omega)⟩
      obtain⟨e,he⟩:=hxi;rw[he] at h1;have hlu:=Zf2.1 hrd u (by simpa using hcu);simp only[Zb1] at hlu;have hnu:=Zl1 hlu.2;have hneu:tt u ≠ .no:=by intro e;have:=hlu.1;unfold A86 at this;rw[e] at this;cases this
      have hcou:P.cellsOf u=(zc (tt u)).length:=by rw[Ul (C6 (hT u) hneu).2.2,hnu]
      rw[hcou] at h1;obtain⟨ds1,s1,r1,m1⟩:=Ape hM hT hrd hsb fuel u _ e hcu h1;obtain⟨ds2,s2,r2,m2⟩:=ih (i+1) (o'+(zc (tt u)).length) _ (by rw[<-List.drop_drop,hd];rfl) hct (by simp;omega);refine⟨ds1++ds2,?_,?_,λhwt d hd=>by
       rcases List.mem_append.1 hd with hd|hd
       ·refine m1 ?_ d hd;rw[<-g2];exact hM.agg _ _ _ i fd e.1 hu hwt g1' (by rw[List.getElem?_map,he];rfl)
       ·exact m2 hwt d hd⟩
      ·rw[<-List.take_append_drop (zc (tt u)).length z'];exact Ac1 (Az4 hsh s1) s2
      ·have:=r1.append r2;rwa[<-List.drop_drop,List.take_append_drop] at this
    obtain⟨ds,h1,h2,h3⟩:=key fs 0 0 z rfl hloc (by rw[hcl,hsz];omega);exact⟨ds,by simpa[hty,zc,Ty.zero,cells] using h1,by simpa using h2,h3⟩
   ·cases hfl
  ·cases hloc
def Bhk(tt:Nat->Ty)(rd:List Nat)(t:Nat)(s:Sg):Bool:=rd.contains t&&match tt t,s with|.int k,.int k'=>decide (k=k')|.bool,.bool=>true|.str,.str=>true|.sl c,.sl c' false=>decide (c=c')|.st (some c) _ _,.sv c'=>decide (c=c')&&agg? c&&(dec c (zc (tt t))).isSome|_,_=>false
theorem Bew{R:Nat×Nat}{M:TypeId->DataW H->Prop}(hM:Msr P R M)(hT:∀t,Cq P el tt t=true)(hrd:rdB el tt rd=true)(hsb:szB P el tt rd=true){t:TypeId}{s:Sg}(hs:Bhk tt rd t s=true){r:Reach}{b0:Nat}{v:Value}{d:DataW H}{ps:List MemPlace}(hval:Value.okWide P w r b0 t v)(h:DataW.Trod enc' P w 0 sp held t v d ps)(i:Nat):∃y:den s,Rep (v0 el Dh w) (Ce i s y) v/\(M t d->SmS R s y):=by
 obtain⟨fuel,h⟩:=h;simp only[Bhk,Zb1] at hs;obtain⟨hc,hs⟩:=hs;obtain⟨ds,hsh,hr,hsm⟩:=Ape hM hT hrd hsb fuel t _ _ hc h;have hsm:M t d->∀d,d∈ds->SmD R d:=hsm;split at hs
 ·rename_i k k' hty;simp only[Zg1] at hs;subst hs;obtain⟨n,rfl⟩:=WideShapes.okWide_int (Sx.tyI_spec (Ahg (hT t) hty)) hval;simp only[hty,zc,Ty.zero,cells] at hsh;obtain⟨b,m,rfl,h1,h2⟩:=R9 hsh;obtain rfl:=X7 h2;obtain⟨n',rfl⟩:=Azj h1;simp only[Value.cells,Reps] at hr;obtain⟨u,us,e,hr,_⟩:=hr;simp only[Zd2] at e;obtain⟨rfl,_⟩:=e;exact⟨n',hr,λ_=>trivial⟩
 ·rename_i hty;obtain⟨n,rfl⟩:=WideShapes.okWide_bool (Sx.tyB_spec (Z4 (hT t) hty)) hval;exact⟨n,by simp only[Ce,Rep],λ_=>trivial⟩
 ·rename_i hty;obtain⟨n,rfl⟩:=WideShapes.okWide_string (Sx.tyS_spec (Ga (hT t) hty)) hval;simp only[hty,zc,Ty.zero,cells] at hsh;obtain⟨b,m,rfl,h1,h2⟩:=R9 hsh;obtain rfl:=X7 h2;obtain⟨n',rfl⟩:=A0x h1;simp only[Value.cells,Reps] at hr;obtain⟨u,us,e,hr,_⟩:=hr;simp only[Zd2] at e;obtain⟨rfl,_⟩:=e;exact⟨n',hr,λhwt=>hsm hwt (.str n') (by simp)⟩
 ·rename_i c c' hty;simp only[Zg1] at hs;subst hs;obtain⟨by_,hE,_,_⟩:=C2 (hT t) hty;have hv:v.cells.toList=[v]:=by have hu:=hE.und;simp only[Value.okWide,hu,Cell.okWide] at hval;cases v<;>first|rfl|(simp[Cell.ok,hu] at hval;done)|(exfalso;simp_all [Cell.ok])
  rw[hv] at hr;simp only[hty,zc,Ty.zero,cells] at hsh;obtain⟨b,m,rfl,h1,h2⟩:=R9 hsh;obtain rfl:=X7 h2;obtain⟨ys,u,rfl⟩:=A80 h1;simp only[Reps] at hr;obtain⟨u',us,e,hr,_⟩:=hr;simp only[Zd2] at e;obtain⟨rfl,_⟩:=e;refine⟨ys,?_,λhwt=>hsm hwt (.sl c ys u) (by simp)⟩;simp only[Ce,Rep] at hr ⊢;exact⟨hr.1,trivial⟩
 ·rename_i c fs z c' hty;simp only[Zb1,Zg1] at hs;obtain⟨⟨rfl,ha⟩,hdec⟩:=hs;obtain⟨y,hy⟩:=Akp hdec hsh;have hE:=Ol hy hr;have hv:∃cs,v = .agg cs:=by
   have hok:=hT t;unfold Cq at hok;rw[hty] at hok;simp only[Zb1] at hok;have hfl:=hok.2;split at hfl
   ·rename_i fds hu;simp only[Value.okWide,hu] at hval;obtain⟨cs,h1,_⟩:=hval;exact⟨cs,h1⟩
   ·cases hfl
  obtain⟨cs,rfl⟩:=hv;refine⟨y,?_,λhwt=>A9g hy (hsm hwt)⟩;simp only[Ce,Rep];exact⟨ha,cs.toList,by simp,by simpa[Value.cells] using hE.1,by simpa[Value.cells] using hE.2⟩
 ·cases hs
def Akg(tt:Nat->Ty)(rd:List Nat):List TypeId->List Sg->Bool
 |[],[]=>true
 |t::ts,s::ss=>Bhk tt rd t s&&Akg tt rd ts ss
 |_,_=>false
theorem Aso{R:Nat×Nat}{M:TypeId->DataW H->Prop}(hM:Msr P R M)(hT:∀t,Cq P el tt t=true)(hrd:rdB el tt rd=true)(hsb:szB P el tt rd=true){r:Reach}{b0:Nat}:∀{ts:List TypeId}{sa:List Sg}{vs:List Value}{ds:List (DataW H)}{ps:List MemPlace}(i:Nat),Akg tt rd ts sa=true->(∀(j:Nat) t v,ts[j]? = some t->vs[j]? = some v->Value.okWide P w r b0 t v)->DataW.TrodAll enc' P w 0 sp held ts vs ds ps->∃x:HV sa,Reps (v0 el Dh w) (B3 i sa x) vs/\((∀(i:Nat) (t:TypeId) (d:DataW H),ts[i]? = some t->ds[i]? = some d->M t d)->SmL R sa x)
 |[],[],vs,ds,ps,i,_,_,h=>by cases vs with|nil=>exact⟨(),by simp[B3,Reps],λ_=>trivial⟩|cons v vs=>cases ds<;>simp[DataW.TrodAll] at h
 |t::ts,[],_,_,_,_,hs,_,_=>by simp[Akg] at hs
 |[],s::ss,_,_,_,_,hs,_,_=>by simp[Akg] at hs
 |t::ts,s::ss,vs,ds,ps,i,hs,hval,h=>by simp only[Akg,Zb1] at hs;obtain⟨v,vs',d,ds',p,q,rfl,rfl,rfl,hd,hrest⟩:=trodAll_cons h;obtain⟨y,hy,hsy⟩:=Bew hM hT hrd hsb hs.1 (hval 0 t v rfl rfl) hd i;obtain⟨z,hz,hsz⟩:=Aso hM hT hrd hsb (i+1) hs.2 (λj t' v' h1 h2=>hval (j+1) t' v' (by simpa using h1) (by simpa using h2)) hrest;cases ss with|nil =>refine⟨y,?_,λhwt=>hsy (hwt 0 t d rfl rfl)⟩;simp only[B3,Reps] at hz ⊢;exact⟨v,vs',rfl,hy,hz⟩|cons s' ss =>refine⟨(y,z),?_,λhwt=>⟨hsy (hwt 0 t d rfl rfl),hsz λj t' d' h1 h2=>hwt (j+1) t' d' (by simpa using h1) (by simpa using h2)⟩⟩;simp only[B3,Reps];exact⟨v,vs',rfl,hy,hz⟩
theorem Am0(hl:laidOutB P=true){W W':World}(hb:Below W.heap.size W W'):∀{ts:List TypeId}{vs:List Value}{ds:List (DataW H)}{ps:List MemPlace},(∀t,t∈ts->P.readableRec t=true/\t<P.types.size)->(∀x∈ps,x.block<W.heap.size)->DataW.TrodAll enc' P W 0 (λ_=>true) true ts vs ds ps->DataW.TrodAll enc' P W' 0 (λb=>decide (b<W.heap.size)) true ts vs ds ps
 |[],vs,ds,ps,_,_,h=>by
  cases vs<;>cases ds<;>simp[DataW.TrodAll] at h ⊢
  exact h
 |t::ts,vs,ds,ps,ht,hlt,h=>by obtain⟨v,vs',d,ds',p,q,rfl,rfl,rfl,hd,hrest⟩:=trodAll_cons h;obtain⟨h1,h2⟩:=ht t (by simp);exact⟨p,q,Below.trod hl h1 h2 hd hb (λx hx=>hlt x (by simp[hx])),Am0 hl hb (λt' h'=>ht t' (by simp[h'])) (λx hx=>hlt x (by simp[hx])) hrest,rfl⟩
end
end Go.Ax
namespace Go.Proofs.YtbkinkalnmbpjaaGreatDoor
open Go.Ax
def B0:Int:=20000000000000
mutual
theorem Ld{R:Nat×Nat}(hR:R.1<=R47):∀(n:Nat) (e:Xpr) (most:Int),Bb e<=n->SmExpr R e->1<=most->most<=600->1<=B6 e most/\B6 e most<=most+B0/\(B6 e most<most->(Bb e:Int)<=2*B6 e most-1)
 |0,e,_,h,_,_,_=>by have:=D6 e;omega
 |n+1,.mk k v nm l,most,h,hs,h1,h4=>by
  cases hs with
  |mk _ _ _ _ s1 s2 _ s3 =>
   simp only[Acy,R47] at s1 s2 hR;have e1:wr .i64 ((v.s.length:Int)+(nm.length:Int))=((v.s.length+nm.length:Nat):Int):=by rw[Dr (by simp only[inI];omega)];omega
   have e2:Int.tdiv ((v.s.length+nm.length:Nat):Int) 30=(((v.s.length+nm.length) / 30:Nat):Int):=rfl;have e3:wr .i64 (((v.s.length+nm.length) / 30:Nat):Int)=(((v.s.length+nm.length) / 30:Nat):Int):=Dr (by simp only[inI];omega);have e4:wr .i64 (1+(((v.s.length+nm.length) / 30:Nat):Int))=1+(((v.s.length+nm.length) / 30:Nat):Int):=Dr (by simp only[inI];omega);have hz:Bb (.mk k v nm l)=1+esizes l:=E5 _;simp only[B6,e1,e2,e3,e4];obtain⟨q1,q2,q3⟩:=muchL_size hR n l most (1+(((v.s.length+nm.length) / 30:Nat):Int)) (by omega) s3 h4 (by omega) (by simp only[B0];omega);exact⟨by omega,q2,λh=>by have:=q3 h;omega⟩
theorem muchL_size{R:Nat×Nat}(hR:R.1<=R47):∀(n:Nat) (l:List Xpr) (most m:Int),esizes l<=n->(∀x,x∈l->SmExpr R x)->most<=600->1<=m->m<=most+B0->m<=muchL l most m/\muchL l most m<=most+B0/\(muchL l most m<most->2*m+(esizes l:Int)<=2*muchL l most m)
 |n,[],most,m,_,_,_,h1,h2=>by simp only[muchL,esizes];omega
 |n,x::l,most,m,h,hs,h4,h1,h2=>by
  simp only[muchL];by_cases hm:m<most
  ·rw[Ze1 hm,Ah];have hx:=D6 x;simp only[esizes] at h;have w1:wr .i64 (most-m)=most-m:=Dr (by simp only[inI];omega);obtain⟨a1,a2,a3⟩:=Ld hR n x (most-m) (by omega) (hs x (.head _)) (by omega) (by omega);have w2:wr .i64 (m+B6 x (most-m))=m+B6 x (most-m):=Dr (by simp only[inI,B0] at *;omega);obtain⟨b1,b2,b3⟩:=muchL_size hR n l most (m+B6 x (most-m)) (by omega) (λy hy=>hs y (.tail _ hy)) h4 (by omega) (by omega);rw[w1,w2];refine⟨by omega,b2,λhlt =>?_⟩;have c1:=b3 hlt;have c2:=a3 (by omega);simp only[esizes];omega
  ·rw[Zd1 hm,Al];exact⟨Int.le_refl _,h2,λh=>absurd h hm⟩
end
def bare(l:List Xpr):Xpr :=.mk 0 ⟨0,0,[]⟩ [] l
theorem A00{R:Nat×Nat}{l:List Xpr}(h:l.length<=R.2/\∀x,x∈l->SmExpr R x):SmExpr R (bare l) :=.mk _ _ _ _ (by simp[Acy]) (by simp) h.1 h.2
def rmR:List (List Xpr)->Int->Int->Int
 |[],_,n=>n
 |r::l,most,n=>cond (decide (n<most)) (rmR l most (wr .i64 (n+B6 (bare r) most))) n
def rmS:List SetE->Int->Int->Int
 |[],_,n=>n
 |x::l,most,n=>cond (decide (n<most)) (rmS l most (wr .i64 (n+B6 x.e most))) n
def rmN:List Str->Int->Int->Int
 |[],_,n=>n
 |x::l,most,n=>cond (decide (n<most)) (rmN l most (wr .i64 (n+wr .i64 (Int.tdiv (x.length:Int) 30)))) n
def n0(s:Stm)(most:Int):Int:=wr .i64 (wr .i64 (wr .i64 (wr .i64 (wr .i64 (wr .i64 ((s.cols.length:Int)+(s.names.length:Int))+(s.order.length:Int))+(s.desc.length:Int))+wr .i64 (Int.tdiv (wr .i64 ((s.name.length:Int)+(s.on.length:Int))) 30))+B6 s.whr most)+B6 (bare s.l) most)
def Afs:Sig:=⟨110,[(1,.int .i64),(5,.int .i64),(8,.int .i64)],[(2,.ptr 0 0)],[(0,.one (.sv .stmt))],1,0,0,[],[]⟩
abbrev Sm:=Int×Int×Int×Stm
def Rs{R:Type}(rec:Sm->Option R)(kx:Ex->Sm->Option R)(v:Sm):Option R:=match v with
 |(b,c,a,w2) =>
 cond (decide (a<(w2.names.length:Int))) (
  cond (decide (c<b)) (
  chk (inb a w2.names.length) (
   rec (b,(wr .i64 (c+(wr .i64 (Int.tdiv ((at' .str w2.names a).length:Int) 30)))),(wr .i64 (a+1)),w2))) (
  kx (.exit 4) (b,c,a,w2))) (
  kx (.exit 4) (b,c,a,w2))
def Agh:Sig:=⟨110,[(1,.int .i64),(5,.int .i64),(7,.int .i64)],[(2,.ptr 0 0)],[(0,.one (.sv .stmt))],1,0,0,[],[]⟩
abbrev R1:=Int×Int×Int×Stm
def Rx{R:Type}(rec:R1->Option R)(kx:Ex->R1->Option R)(v:R1):Option R:=match v with
 |(v7,v8,v9,w1) =>
 cond (decide (v9<(w1.sets.length:Int))) (
  cond (decide (v8<v7)) (
  chk (inb v9 w1.sets.length) (
   rec (v7,(wr .i64 (v8+(B6 (H1 ((at' .set w1.sets v9).e)) v7))),(wr .i64 (v9+1)),w1))) (
  kx (.exit 2) (v7,v8,v9,w1))) (
  kx (.exit 2) (v7,v8,v9,w1))
def Aey:Sig:=⟨110,[(1,.int .i64),(5,.int .i64),(6,.int .i64)],[(2,.ptr 0 0)],[(0,.one (.sv .stmt))],1,0,0,[],[]⟩
abbrev Qu:=Int×Int×Int×Stm
def Qi{R:Type}(rec:Qu->Option R)(kx:Ex->Qu->Option R)(v:Qu):Option R:=match v with
 |(v,v1,v2,w) =>
 cond (decide (v2<(w.rows.length:Int))) (
  cond (decide (v1<v)) (
  chk (inb v2 w.rows.length) (
   rec (v,(wr .i64 (v1+(B6 (Xpr.mk 0 ⟨0,0,[]⟩ [] (at' .exprs w.rows v2)) v))),(wr .i64 (v2+1)),w))) (
  kx (.exit 0) (v,v1,v2,w))) (
  kx (.exit 0) (v,v1,v2,w))
def Aqw(R:Type)(k:Nat):Px R:=pxO [(52,cA Apw)] [(52,qA Apw)] [(3,Ao k Aey (Qi)),(7,Ao k Agh (Rx)),(11,Ao k Afs (Rs))] []
def Aef(k:Nat)(x:HV [.sv .stmt,.int .i64]):Option (HV [.int .i64]):=match x with
 |(s,most) =>
 Aq (λrec=>Qi rec (λe vz=>match vz with|(v3,v4,_,v6)=>match e with
  |.exit 0 =>
  Aq (λrec=>Rx rec (λe vz=>match vz with|(a,b,_,c)=>match e with
   |.exit 2 =>
   Aq (λrec=>Rs rec (λe vz=>match vz with|(_,d,_,_)=>match e with
    |.exit 4 =>
    some d
    |_=>none)) k (a,b,0,c)
   |_=>none)) k (v3,v4,0,v6)
  |_=>none)) k (most,(wr .i64 ((wr .i64 ((wr .i64 ((wr .i64 ((wr .i64 ((wr .i64 ((s.cols.length:Int)+(s.names.length:Int)))+(s.order.length:Int)))+(s.desc.length:Int)))+(wr .i64 (Int.tdiv (wr .i64 ((s.name.length:Int)+(s.on.length:Int))) 30))))+(B6 (H1 s.whr) most)))+(B6 (Xpr.mk 0 ⟨0,0,[]⟩ [] s.l) most))),0,s)
theorem A32(k:Nat):FO 22 [.sv .stmt,.int .i64] [.int .i64] (Aef k):=fR (px:=Aqw _ k) (n:=3) Tryz.func22 rfl (λcx H=>by have h0:Lv cx (Aqw (HV [.int .i64]) k):=lv H (c1 H Asq Ae) (q1 H Asq Aa) Ab;have hlrmuch_0:=lO H h0 (b:=lp Tryz.f22 0) (k:=k) (n:=0) (s:=Aey) (step:=Qi) (λ_ _ _ (_,_,_,_)=>by kernel_rfl) Ai;have hlrmuch_1:=lO H h0 (b:=lp Tryz.f22 1) (k:=k) (n:=0) (s:=Agh) (step:=Rx) (λ_ _ _ (_,_,_,_)=>by kernel_rfl) Ai;have hlrmuch_2:=lO H h0 (b:=lp Tryz.f22 2) (k:=k) (n:=0) (s:=Afs) (step:=Rs) (λ_ _ _ (_,_,_,_)=>by kernel_rfl) Ai;exact⟨h0,(Bc (Bc (Bc Ai hlrmuch_0) hlrmuch_1) hlrmuch_2)⟩) λ(_,_)=>by kernel_rfl
def Dy(s:Stm)(most:Int):Int:=rmN s.names most (rmS s.sets most (rmR s.rows most (n0 s most)))
def Ady:FT [.sv .stmt,.int .i64] [.int .i64]:=λx=>some (Dy x.1 x.2)
theorem An3{R:Type}{kx:Ex->Qu->Option R}{s:Stm}{most:Int}{c:Int->Option R}(hn:ln s.rows.length)(h2:∀n i,kx (.exit 0) (most,n,i,s)=c n)(k:Nat)(hk:s.rows.length<k)(n:Int) :
  Aq (λrec=>Qi rec kx) k (most,n,0,s)=c (rmR s.rows most n):=by
 refine(Ed s.rows.length (λi n=>(most,n,(i:Int),s)) (λ_ _=>True) (λi n=>c (rmR (s.rows.drop i) most n)) (λi hi n _ rec hr =>?_) (λn _ rec =>?_) k 0 n (Nat.zero_le _) (by omega) trivial).trans (by rw[Zq1])
 ·have hr:=hr (wr .i64 (n+B6 (bare s.rows[i]) most)) trivial;simp only[Qi,Dw hi,Ah,A1 hi,chk,A0 (c :=.exprs) hi,Ay hi hn,Au hi,rmR,h2];cases decide (n<most) with|false=>rfl|true=>exact hr
 ·simp only[Qi,Dv,Al,h2];rw[Zk1 (Zn1 _)];rfl
theorem Ans{R:Type}{kx:Ex->R1->Option R}{s:Stm}{most:Int}{c:Int->Option R}(hn:ln s.sets.length)(h2:∀n i,kx (.exit 2) (most,n,i,s)=c n)(k:Nat)(hk:s.sets.length<k)(n:Int) :
  Aq (λrec=>Rx rec kx) k (most,n,0,s)=c (rmS s.sets most n):=by
 refine(Ed s.sets.length (λi n=>(most,n,(i:Int),s)) (λ_ _=>True) (λi n=>c (rmS (s.sets.drop i) most n)) (λi hi n _ rec hr =>?_) (λn _ rec =>?_) k 0 n (Nat.zero_le _) (by omega) trivial).trans (by rw[Zq1])
 ·have hr:=hr (wr .i64 (n+B6 s.sets[i].e most)) trivial;simp only[Rx,Dw hi,Ah,A1 hi,chk,A0 (c :=.set) hi,Ay hi hn,Au hi,rmS,h2,G2];cases decide (n<most) with|false=>rfl|true=>exact hr
 ·simp only[Rx,Dv,Al,h2];rw[Zk1 (Zn1 _)];rfl
theorem Ap2{R:Type}{kx:Ex->Sm->Option R}{s:Stm}{most:Int}{c:Int->Option R}(hn:ln s.names.length)(h2:∀n i,kx (.exit 4) (most,n,i,s)=c n)(k:Nat)(hk:s.names.length<k)(n:Int) :
  Aq (λrec=>Rs rec kx) k (most,n,0,s)=c (rmN s.names most n):=by
 refine(Ed s.names.length (λi n=>(most,n,(i:Int),s)) (λ_ _=>True) (λi n=>c (rmN (s.names.drop i) most n)) (λi hi n _ rec hr =>?_) (λn _ rec =>?_) k 0 n (Nat.zero_le _) (by omega) trivial).trans (by rw[Zq1])
 ·have hr:=hr (wr .i64 (n+wr .i64 (Int.tdiv (s.names[i].length:Int) 30))) trivial;simp only[Rs,Dw hi,Ah,A1 hi,chk,A0 (c :=.str) hi,Ay hi hn,Au hi,rmN,h2];cases decide (n<most) with|false=>rfl|true=>exact hr
 ·simp only[Rs,Dv,Al,h2];rw[Zk1 (Zn1 _)];rfl
theorem Atp:FO 22 [.sv .stmt,.int .i64] [.int .i64] Ady :=.fin 0 A32 λ(s,most) r hb hx=>⟨s.rows.length+s.sets.length+s.names.length+1,by have hb:=hb.1;simp only[Ady,Za1] at hx;rw[<-hx];simp only[Aef,G2];refine(An3 (c:=λn=>some (rmN s.names most (rmS s.sets most n))) hb.rows.1 (λn i =>?_) _ (by omega) _).trans rfl;refine(Ans (c:=λn=>some (rmN s.names most n)) hb.sets.1 (λn i =>?_) _ (by omega) _).trans rfl;exact Ap2 (c:=some) hb.names.1 (λn i=>rfl) _ (by omega) _⟩
theorem Aq0{N:Int}(hN : 1<=N/\N<=600){R:Nat×Nat}(hR:R.1<=R47):∀(l:List (List Xpr)) (n:Int),0<=n->n<=1000000000000000->(∀r,r∈l->r.length<=R.2/\∀x,x∈r->SmExpr R x)->n<=rmR l N n/\rmR l N n<=1000000000000000/\(rmR l N n<N->n+(l.length:Int)<=rmR l N n/\∀r,r∈l->esizes r<=1200)
 |[],n,_,h,_=>⟨Int.le_refl _,h,λ_=>⟨by simp[rmR],λr hr=>by cases hr⟩⟩
 |r::l,n,h0,h1,hs=>by
  simp only[rmR];by_cases hn:n<N
  ·have hm:=Ld hR (Bb (bare r)) (bare r) N (Zn1 _) (A00 (hs r Zr1)) (by omega) (by omega);simp only[B0] at hm;have w:wr .i64 (n+B6 (bare r) N)=n+B6 (bare r) N:=Dr (by simp only[inI];omega);rw[Ze1 hn,Ah,w];have ih:=Aq0 hN hR l (n+B6 (bare r) N) (by omega) (by omega) (λq hq=>hs q (Zu1 _ hq));refine⟨by omega,ih.2.1,λh =>?_⟩;obtain⟨h3,h4⟩:=ih.2.2 h;refine⟨by simp only[Zf1];omega,λq hq =>?_⟩;rcases List.mem_cons.1 hq with rfl|hq
   ·have hz:Bb (bare q)=1+esizes q:=E5 _;have:=hm.2.2 (by omega);omega
   ·exact h4 q hq
  ·rw[Zd1 hn,Al];exact⟨Int.le_refl _,h1,λh=>absurd h hn⟩
theorem Aui{N:Int}(hN : 1<=N/\N<=600){R:Nat×Nat}(hR:R.1<=R47):∀(l:List SetE) (n:Int),0<=n->n<=1000000000000000->(∀x,x∈l->SmExpr R x.e)->n<=rmS l N n/\rmS l N n<=1000000000000000/\(rmS l N n<N->n+(l.length:Int)<=rmS l N n/\∀x,x∈l->Bb x.e<=1200)
 |[],n,_,h,_=>⟨Int.le_refl _,h,λ_=>⟨by simp[rmS],λr hr=>by cases hr⟩⟩
 |x::l,n,h0,h1,hs=>by
  simp only[rmS];by_cases hn:n<N
  ·have hm:=Ld hR (Bb x.e) x.e N (Zn1 _) (hs x Zr1) (by omega) (by omega);simp only[B0] at hm;have w:wr .i64 (n+B6 x.e N)=n+B6 x.e N:=Dr (by simp only[inI];omega);rw[Ze1 hn,Ah,w];have ih:=Aui hN hR l (n+B6 x.e N) (by omega) (by omega) (λq hq=>hs q (Zu1 _ hq));refine⟨by omega,ih.2.1,λh =>?_⟩;obtain⟨h3,h4⟩:=ih.2.2 h;refine⟨by simp only[Zf1];omega,λq hq =>?_⟩;rcases List.mem_cons.1 hq with rfl|hq
   ·have:=hm.2.2 (by omega);omega
   ·exact h4 q hq
  ·rw[Zd1 hn,Al];exact⟨Int.le_refl _,h1,λh=>absurd h hn⟩
theorem Ar1{N:Int}(hN : 1<=N/\N<=600):∀(l:List Str) (n:Int),0<=n->n<=1000000000000000->(∀x,x∈l->x.length<=R47)->n<=rmN l N n/\rmN l N n<=1000000000000000
 |[],n,_,h,_=>⟨Int.le_refl _,h⟩
 |x::l,n,h0,h1,hs=>by
  simp only[rmN];by_cases hn:n<N
  ·have hx:=hs x Zr1;simp only[R47] at hx;have e2:Int.tdiv (x.length:Int) 30=((x.length / 30:Nat):Int):=rfl;have e3:wr .i64 ((x.length / 30:Nat):Int)=((x.length / 30:Nat):Int):=Dr (by simp only[inI];omega);have w:wr .i64 (n+((x.length / 30:Nat):Int))=n+((x.length / 30:Nat):Int):=Dr (by simp only[inI];omega);rw[Ze1 hn,Ah,e2,e3,w];have ih:=Ar1 hN l (n+((x.length / 30:Nat):Int)) (by omega) (by omega) (λq hq=>hs q (Zu1 _ hq));omega
  ·rw[Zd1 hn,Al];exact⟨Int.le_refl _,h1⟩
structure Few (s:Stm):Prop where
 cols:s.cols.length<=3100
 names:s.names.length<=3100
 order:s.order.length<=3100
 desc:s.desc.length<=3100
 name:s.name.length+s.on.length<=20000
 whr:Bb s.whr<=6200
 l:esizes s.l<=6200
 rows:s.rows.length<=3100/\∀r,r∈s.rows->esizes r<=6200
 sets:s.sets.length<=3100/\∀x,x∈s.sets->Bb x.e<=6200
theorem Aan{N:Int}(hN : 1<=N/\N<=600){s:Stm}(hs:SmStm (R47,R47) s):(0<=Dy s N/\Dy s N<=1000000000000000)/\(Dy s N<N->Few s/\(s.cols.length:Int)+(s.names.length:Int)<=Dy s N/\esizes s.l<=1200):=by
 have hw:=Ld (R:=(R47,R47)) (Zn1 _) (Bb s.whr) s.whr N (Zn1 _) hs.whr (by omega) (by omega);have hl:=Ld (R:=(R47,R47)) (Zn1 _) (Bb (bare s.l)) (bare s.l) N (Zn1 _) (A00 hs.l) (by omega) (by omega);have hz:Bb (bare s.l)=1+esizes s.l:=E5 _;have c1:=hs.cols.1;have c2:=hs.names.1;have c3:=hs.order.1;have c4:=hs.desc;have c5:=hs.name;have c6:=hs.on;simp only[R47] at c1 c2 c3 c4 c5 c6;simp only[B0] at hw hl;have e1:wr .i64 ((s.cols.length:Int)+(s.names.length:Int))=(s.cols.length:Int)+(s.names.length:Int):=Dr (by simp only[inI];omega);have e2:wr .i64 ((s.cols.length:Int)+(s.names.length:Int)+(s.order.length:Int))=(s.cols.length:Int)+(s.names.length:Int)+(s.order.length:Int):=Dr (by simp only[inI];omega);have e3:wr .i64 ((s.cols.length:Int)+(s.names.length:Int)+(s.order.length:Int)+(s.desc.length:Int))=(s.cols.length:Int)+(s.names.length:Int)+(s.order.length:Int)+(s.desc.length:Int):=Dr (by simp only[inI];omega);have e4:wr .i64 ((s.name.length:Int)+(s.on.length:Int))=((s.name.length+s.on.length:Nat):Int):=by rw[Dr (by simp only[inI];omega)];omega
 have e5:Int.tdiv ((s.name.length+s.on.length:Nat):Int) 30=(((s.name.length+s.on.length) / 30:Nat):Int):=rfl;have e6:wr .i64 (((s.name.length+s.on.length) / 30:Nat):Int)=(((s.name.length+s.on.length) / 30:Nat):Int):=Dr (by simp only[inI];omega);have e7:wr .i64 ((s.cols.length:Int)+(s.names.length:Int)+(s.order.length:Int)+(s.desc.length:Int)+(((s.name.length+s.on.length) / 30:Nat):Int))=(s.cols.length:Int)+(s.names.length:Int)+(s.order.length:Int)+(s.desc.length:Int)+(((s.name.length+s.on.length) / 30:Nat):Int):=Dr (by simp only[inI];omega);have e8:wr .i64 ((s.cols.length:Int)+(s.names.length:Int)+(s.order.length:Int)+(s.desc.length:Int)+(((s.name.length+s.on.length) / 30:Nat):Int)+B6 s.whr N)=(s.cols.length:Int)+(s.names.length:Int)+(s.order.length:Int)+(s.desc.length:Int)+(((s.name.length+s.on.length) / 30:Nat):Int)+B6 s.whr N:=Dr (by simp only[inI];omega);have e9:wr .i64 ((s.cols.length:Int)+(s.names.length:Int)+(s.order.length:Int)+(s.desc.length:Int)+(((s.name.length+s.on.length) / 30:Nat):Int)+B6 s.whr N+B6 (bare s.l) N)=(s.cols.length:Int)+(s.names.length:Int)+(s.order.length:Int)+(s.desc.length:Int)+(((s.name.length+s.on.length) / 30:Nat):Int)+B6 s.whr N+B6 (bare s.l) N:=Dr (by simp only[inI];omega);have e0:n0 s N=(s.cols.length:Int)+(s.names.length:Int)+(s.order.length:Int)+(s.desc.length:Int)+(((s.name.length+s.on.length) / 30:Nat):Int)+B6 s.whr N+B6 (bare s.l) N:=by simp only[n0,e1,e2,e3,e4,e5,e6,e7,e8,e9]
 have hr:=Aq0 hN (R:=(R47,R47)) (Zn1 _) s.rows (n0 s N) (by omega) (by omega) hs.rows.2;have hst:=Aui hN (R:=(R47,R47)) (Zn1 _) s.sets (rmR s.rows N (n0 s N)) (by omega) (by omega) (λx hx=>(hs.sets.2 x hx).2);have hn:=Ar1 hN s.names (rmS s.sets N (rmR s.rows N (n0 s N))) (by omega) (by omega) hs.names.2;refine⟨by simp only[Dy];omega,λh =>?_⟩;simp only[Dy] at h ⊢;have hst2:=hst.2.2 (by omega);have hr2:=hr.2.2 (by omega);have hw2:=hw.2.2 (by omega);have hl2:=hl.2.2 (by omega);exact⟨⟨by omega,by omega,by omega,by omega,by omega,by omega,by omega,⟨by omega,λr hr=>Nat.le_trans (hr2.2 r hr) (by decide)⟩,⟨by omega,λx hx=>Nat.le_trans (hst2.2 x hx) (by decide)⟩⟩,by omega,by omega⟩
theorem Axd{N:Int}(hN : 1<=N/\N<=600){s:Stm}(hs:SmStm (R47,R47) s)(h:Dy s N<N):Few s:=((Aan hN hs).2 h).1
theorem Anh{s:Stm}(hs:SmStm (R47,R47) s)(h:Dy s 600<600):Few s:=Axd (by omega) hs h
theorem H8{V R α:Type}[DecidableEq α]{step:(V->Option R)->V->Option R}(l m:List α)(hm:l.length=m.length)(st:Nat->V)(no yes:Option R)
  (hs:∀i (h:i<l.length) (h2:i<m.length) rec,step rec (st i)=cond (!decide (l[i]=m[i])) no (rec (st (i+1)))) (he:∀rec,step rec (st l.length)=yes) (k:Nat) (hk:l.length<k):Aq step k (st 0)=cond (decide (l=m)) yes no:=by
 refine(Bh l.length st (λi=>cond (decide (l.drop i=m.drop i)) yes no) (λi hi rec hr =>?_) (λrec =>?_) k 0 (Nat.zero_le _) (by omega)).trans (by rw[Zq1,Zq1])
 ·have hi2:i<m.length:=by omega
  rw[hs i hi hi2,hr,Au hi,Au hi2];by_cases h:l[i]=m[i]
  ·rw[Ze1 h,h];have:decide (m[i]::l.drop (i+1)=m[i]::m.drop (i+1))=decide (l.drop (i+1)=m.drop (i+1)):=Zy1.2 ⟨λe=>by injection e,λe=>by rw[e]⟩;rw[this];rfl
  ·rw[Zd1 h,Zd1 (show ¬l[i]::l.drop (i+1)=m[i]::m.drop (i+1) fromλe=>h (by injection e))];rfl
 ·rw[he,Zk1 (Zn1 _),Zk1 (by omega)];rfl
def Acv:Sig:=⟨26,[(0,.sl .str false),(1,.sl .str false),(4,.bool),(5,.int .i64)],[],[],0,0,0,[],[]⟩
abbrev Uz:=List Str×List Str×Bool×Int
def Pq{R:Type}(rec:Uz->Option R)(kx:Ex->Uz->Option R)(v:Uz):Option R:=match v with
 |(v,v1,v2,v3) =>
 cond (decide (v3<(v.length:Int))) (
  chk (inb v3 v.length) (
  chk (inb v3 v1.length) (
   cond (!decide ((at' .str v v3)=(at' .str v1 v3))) (
   kx .ret (v,v1,false,v3)) (
   rec (v,v1,v2,(wr .i64 (v3+1))))))) (
  kx (.exit 0) (v,v1,v2,v3))
def Aj0(R:Type)(k:Nat):Px R:=pxO [] [] [(4,Ao k Acv (Pq))] []
def Abw(k:Nat)(x:HV [.sl .str false,.sl .str false]):Option (HV [.bool]):=match x with
 |(a,b) =>
 cond (!decide ((a.length:Int)=(b.length:Int))) (
  some false) (
  Aq (λrec=>Pq rec (λe vz=>match vz with|(_,_,v6,_)=>match e with
  |.ret =>some v6
  |.exit 0 =>some true
  |_=>none)) k (a,b,false,0))
theorem Awb(k:Nat):FO 100 [.sl .str false,.sl .str false] [.bool] (Abw k):=fR (px:=Aj0 _ k) (n:=1) Tryz.func100 rfl (λcx H=>by have h0:Lv cx (Aj0 (HV [.bool]) k):=lv H Ae Aa Ab;have hlrsameN_0:=lO H h0 (b:=lp Tryz.f100 0) (k:=k) (n:=0) (s:=Acv) (step:=Pq) (λ_ _ _ (_,_,_,_)=>by kernel_rfl) Ai;exact⟨h0,(Bc Ai hlrsameN_0)⟩) λ(_,_)=>by kernel_rfl
def Af4(a b:List Str):Bool:=decide (a=b)
def Ai3:FT [.sl .str false,.sl .str false] [.bool]:=λx=>some (Af4 x.1 x.2)
theorem A9j{α:Type}{a b:List α}(h:¬(a.length:Int)=(b.length:Int)):¬a=b:=λe=>h (by rw[e])
theorem A3q:FO 100 [.sl .str false,.sl .str false] [.bool] Ai3 :=.fin 0 Awb λ(a,b) r hb hx=>⟨a.length+1,by
 simp only[Ai3,Af4,Za1] at hx;rw[<-hx];simp only[Abw];by_cases hl:(a.length:Int)=(b.length:Int)
 ·rw[Ze1 hl,Zt1,Al];refine(H8 a b (by omega) (λi=>(a,b,false,(i:Int))) (some false) (some true) (λi h h2 rec =>?_) (λrec =>?_) (a.length+1) (by omega)).trans ?_
  ·simp only[Pq,Dw h,Ah,A1 h,A1 h2,chk,A0 (c :=.str) h,A0 (c :=.str) h2,Ay h hb.1.1]
  ·simp only[Pq,Dv,Al]
  ·cases decide (a=b)<;>rfl
 ·rw[Zd1 hl,Zd1 (A9j hl)];rfl⟩
def A6s(R:Type):Px R:=pxO [(99,cA Apj)] [] [] []
def Pz(x:HV [.sl .expr false,.sl .expr false]):Option (HV [.bool]):=match x with
 |(a,b) =>
 some (Alz (Xpr.mk 0 ⟨0,0,[]⟩ [] a) (Xpr.mk 0 ⟨0,0,[]⟩ [] b))
theorem Ayd:FO 101 [.sl .expr false,.sl .expr false] [.bool] (Pz):=fR (px:=A6s _) (n:=0) Tryz.func101 rfl (λ_ H=>⟨lv H (c1 H Auj Ae) Aa Ab,Ai⟩) λ(_,_)=>by kernel_rfl
def Uy(a:List Xpr)(b:List Xpr):Bool :=(Alz (Xpr.mk 0 ⟨0,0,[]⟩ [] a) (Xpr.mk 0 ⟨0,0,[]⟩ [] b))
theorem Axi(x:HV [.sl .expr false,.sl .expr false]):Pz x=some (Uy x.1 x.2):=by
 first
  |exact rfl
  |simp only[Pz,Uy,Az]
def Arf:FT [.sl .expr false,.sl .expr false] [.bool]:=λx=>some (Uy x.1 x.2)
theorem A4q:FO 101 [.sl .expr false,.sl .expr false] [.bool] Arf :=.fin0 Ayd λx _ _ hx=>(Axi x).trans hx
theorem Alc(a b:List Xpr):Uy a b=decide (a=b):=by have e:Uy a b=F6 (.mk 0 ⟨0,0,[]⟩ [] a) (.mk 0 ⟨0,0,[]⟩ [] b):=rfl;rw[e,Ie];exact Zy1.2 (by simp)
theorem Ane(a b:Xpr):Alz a b=decide (a=b):=Ie a b
instance:DecidableEq SetE:=λa b=>decidable_of_iff (a.name=b.name/\a.e=b.e) (by cases a;cases b;simp only[SetE.mk.injEq])
def Abb:Sig:=⟨199,[(4,.bool),(8,.int .i64)],[(2,.ptr 0 0),(3,.ptr 1 0)],[(0,.one (.sv .stmt)),(1,.one (.sv .stmt))],2,0,0,[],[]⟩
abbrev Vn:=Bool×Int×Stm×Stm
def Pn{R:Type}(rec:Vn->Option R)(kx:Ex->Vn->Option R)(v:Vn):Option R:=match v with
 |(b,a,w6,w7) =>
 cond (decide (a<(w6.desc.length:Int))) (
  chk (inb a w6.desc.length) (
  chk (inb a w7.desc.length) (
   cond (!decide ((at' .bool w6.desc a)=(at' .bool w7.desc a))) (
   kx .ret (false,a,w6,w7)) (
   rec (b,(wr .i64 (a+1)),w6,w7))))) (
  kx (.exit 6) (b,a,w6,w7))
def Ab0:Sig:=⟨199,[(4,.bool),(7,.int .i64)],[(2,.ptr 0 0),(3,.ptr 1 0)],[(0,.one (.sv .stmt)),(1,.one (.sv .stmt))],2,0,0,[],[]⟩
abbrev Um:=Bool×Int×Stm×Stm
def Ot{R:Type}(rec:Um->Option R)(kx:Ex->Um->Option R)(v:Um):Option R:=match v with
 |(b,a,w4,w5) =>
 cond (decide (a<(w4.sets.length:Int))) (
  chk (inb a w4.sets.length) (
  chk (inb a w5.sets.length) (
   cond (!decide (((at' .set w4.sets a).name)=((at' .set w5.sets a).name))) (
   kx .ret (false,a,w4,w5)) (
   chk (inb a w4.sets.length) (
    chk (inb a w5.sets.length) (
    cond (!(Alz (H1 ((at' .set w4.sets a).e)) (H1 ((at' .set w5.sets a).e)))) (
     kx .ret (false,a,w4,w5)) (
     rec (b,(wr .i64 (a+1)),w4,w5)))))))) (
  kx (.exit 4) (b,a,w4,w5))
def Aay:Sig:=⟨199,[(4,.bool),(6,.int .i64)],[(2,.ptr 0 0),(3,.ptr 1 0)],[(0,.one (.sv .stmt)),(1,.one (.sv .stmt))],2,0,0,[],[]⟩
abbrev Vp:=Bool×Int×Stm×Stm
def Pk{R:Type}(rec:Vp->Option R)(kx:Ex->Vp->Option R)(v:Vp):Option R:=match v with
 |(v6,v7,w2,w3) =>
 cond (decide (v7<(w2.rows.length:Int))) (
  chk (inb v7 w2.rows.length) (
  chk (inb v7 w3.rows.length) (
   cond (!(Uy (at' .exprs w2.rows v7) (at' .exprs w3.rows v7))) (
   kx .ret (false,v7,w2,w3)) (
   rec (v6,(wr .i64 (v7+1)),w2,w3))))) (
  kx (.exit 2) (v6,v7,w2,w3))
def Ac6:Sig:=⟨199,[(4,.bool),(5,.int .i64)],[(2,.ptr 0 0),(3,.ptr 1 0)],[(0,.one (.sv .stmt)),(1,.one (.sv .stmt))],2,0,0,[],[]⟩
abbrev Uc:=Bool×Int×Stm×Stm
def O7{R:Type}(rec:Uc->Option R)(kx:Ex->Uc->Option R)(v:Uc):Option R:=match v with
 |(v,v1,w,w1) =>
 cond (decide (v1<(w.cols.length:Int))) (
  chk (inb v1 w.cols.length) (
  chk (inb v1 w1.cols.length) (
   cond (!decide ((at' .col w.cols v1)=(at' .col w1.cols v1))) (
   kx .ret (false,v1,w,w1)) (
   rec (v,(wr .i64 (v1+1)),w,w1))))) (
  kx (.exit 0) (v,v1,w,w1))
def Ajt(R:Type)(k:Nat):Px R:=pxO [(99,cA Apj),(100,cA Ai3),(101,cA Arf)] [] [(6,Ao k Ac6 (O7)),(11,Ao k Aay (Pk)),(16,Ao k Ab0 (Ot)),(21,Ao k Abb (Pn))] []
def Ab6(k:Nat)(x:HV [.sv .stmt,.sv .stmt]):Option (HV [.bool]):=match x with
 |(a,b) =>
 let j5:=λ(p:Bool) =>
  let j4:=λ(p1:Bool) =>
  let j3:=λ(p2:Bool) =>
   let j2:=λ(p3:Bool) =>
   let j1:=λ(p4:Bool) =>
    let j:=λ(p5:Bool) =>
    cond (p5) (
     some false) (
     cond (!(Af4 a.order b.order)) (
     some false) (
     cond (!(Uy a.l b.l)) (
      some false) (
      let j6:=λ(d:Bool) =>
      cond (d) (
       some false) (
       cond (!decide ((a.sets.length:Int)=(b.sets.length:Int))) (
       some false) (
       cond (!decide ((a.desc.length:Int)=(b.desc.length:Int))) (
        some false) (
        Aq (λrec=>O7 rec (λe vz=>match vz with|(v2,_,v4,v5)=>match e with
        |.ret =>some v2
        |.exit 0 =>
         Aq (λrec=>Pk rec (λe vz=>match vz with|(v8,_,f,g)=>match e with
         |.ret =>some v8
         |.exit 2 =>
          Aq (λrec=>Ot rec (λe vz=>match vz with|(c,_,h,i)=>match e with
          |.ret =>some c
          |.exit 4 =>
           Aq (λrec=>Pn rec (λe vz=>match vz with|(m,_,_,_)=>match e with
           |.ret =>some m
           |.exit 6 =>some true
           |_=>none)) k (c,0,h,i)
          |_=>none)) k (v8,0,f,g)
         |_=>none)) k (v2,0,v4,v5)
        |_=>none)) k (false,0,a,b))))
      cond (!decide ((a.cols.length:Int)=(b.cols.length:Int))) (
      j6 true) (
      j6 (!decide ((a.rows.length:Int)=(b.rows.length:Int)))))))
    cond (p4) (
    j true) (
    j (!(Af4 a.names b.names)))
   cond (p3) (
    j1 true) (
    j1 (!(Alz (H1 a.whr) (H1 b.whr))))
   cond (p2) (
   j2 true) (
   j2 (!decide (a.most=b.most)))
  cond (p1) (
   j3 true) (
   j3 (!decide (a.has=b.has)))
  cond (p) (
  j4 true) (
  j4 (!decide (a.on=b.on)))
 cond (!decide (a.kind=b.kind)) (
  j5 true) (
  j5 (!decide (a.name=b.name)))
theorem Ay9(k:Nat):FO 39 [.sv .stmt,.sv .stmt] [.bool] (Ab6 k):=fR (px:=Ajt _ k) (n:=4) Tryz.func39 rfl (λcx H=>by have h0:Lv cx (Ajt (HV [.bool]) k):=lv H (c1 H Auj (c1 H A3q (c1 H A4q Ae))) Aa Ab;have hlrsameS_0:=lO H h0 (b:=lp Tryz.f39 0) (k:=k) (n:=0) (s:=Ac6) (step:=O7) (λ_ _ _ (_,_,_,_)=>by kernel_rfl) Ai;have hlrsameS_1:=lO H h0 (b:=lp Tryz.f39 1) (k:=k) (n:=0) (s:=Aay) (step:=Pk) (λ_ _ _ (_,_,_,_)=>by kernel_rfl) Ai;have hlrsameS_2:=lO H h0 (b:=lp Tryz.f39 2) (k:=k) (n:=0) (s:=Ab0) (step:=Ot) (λ_ _ _ (_,_,_,_)=>by kernel_rfl) Ai;have hlrsameS_3:=lO H h0 (b:=lp Tryz.f39 3) (k:=k) (n:=0) (s:=Abb) (step:=Pn) (λ_ _ _ (_,_,_,_)=>by kernel_rfl) Ai;exact⟨h0,(Bc (Bc (Bc (Bc Ai hlrsameS_0) hlrsameS_1) hlrsameS_2) hlrsameS_3)⟩) λ(_,_)=>by kernel_rfl
def N2(a b:Stm):Bool:=decide (a=b)
def Af6:FT [.sv .stmt,.sv .stmt] [.bool]:=λx=>some (N2 x.1 x.2)
theorem A76{R:Type}(x y:SetE)(no yes:R):cond (!decide (x.name=y.name)) no (cond (!decide (x.e=y.e)) no yes)=cond (!decide (x=y)) no yes:=by
 have e:decide (x=y)=(decide (x.name=y.name)&&decide (x.e=y.e)):=by rw[<-Bool.decide_and];refine Zy1.2 ?_;cases x;cases y;simp only[SetE.mk.injEq]
 rw[e];cases decide (x.name=y.name)<;>rfl
theorem Bfa{a b:Stm}(h1:a.kind=b.kind)(h2:a.name=b.name)(h3:a.on=b.on)(h4:a.cols=b.cols)(h5:a.names=b.names)(h6:a.l=b.l)(h7:a.rows=b.rows)(h8:a.sets=b.sets)(h9:a.has=b.has)(h10:a.whr=b.whr)(h11:a.order=b.order)(h12:a.desc=b.desc)(h13:a.most=b.most):a=b:=by cases a;cases b;simp only at h1 h2 h3 h4 h5 h6 h7 h8 h9 h10 h11 h12 h13;simp only[h1,h2,h3,h4,h5,h6,h7,h8,h9,h10,h11,h12,h13]
theorem A5c:FO 39 [.sv .stmt,.sv .stmt] [.bool] Af6 :=.fin 0 Ay9 λ(a,b) r hb hx=>⟨a.cols.length+a.rows.length+a.sets.length+a.desc.length+1,by
 simp only[Af6,N2,Za1] at hx;rw[<-hx];have hb:=hb.1;have no:∀{p:Prop} [Decidable p],(a=b->p)->¬p->decide (a=b)=false:=λh hn=>Zd1 λe=>hn (h e);simp only[Ab6,G2,Alc,Ane,Af4];by_cases h1:a.kind=b.kind
 case neg=>rw[Zd1 h1,no (λe=>by rw[e]) h1];rfl
 rw[Ze1 h1];by_cases h2:a.name=b.name
 case neg=>rw[Zd1 h2,no (λe=>by rw[e]) h2];rfl
 rw[Ze1 h2];by_cases h3:a.on=b.on
 case neg=>rw[Zd1 h3,no (λe=>by rw[e]) h3];rfl
 rw[Ze1 h3];by_cases h9:a.has=b.has
 case neg=>rw[Zd1 h9,no (λe=>by rw[e]) h9];rfl
 rw[Ze1 h9];by_cases h13:a.most=b.most
 case neg=>rw[Zd1 h13,no (λe=>by rw[e]) h13];rfl
 rw[Ze1 h13];by_cases h10:a.whr=b.whr
 case neg=>rw[Zd1 h10,no (λe=>by rw[e]) h10];rfl
 rw[Ze1 h10];by_cases h5:a.names=b.names
 case neg=>rw[Zd1 h5,no (λe=>by rw[e]) h5];rfl
 rw[Ze1 h5];by_cases h11:a.order=b.order
 case neg=>rw[Zd1 h11,no (λe=>by rw[e]) h11];rfl
 rw[Ze1 h11];by_cases h6:a.l=b.l
 case neg=>rw[Zd1 h6,no (λe=>by rw[e]) h6];rfl
 rw[Ze1 h6];by_cases l4:(a.cols.length:Int)=(b.cols.length:Int)
 case neg=>rw[Zd1 l4,no (λe=>by rw[e]) l4];rfl
 rw[Ze1 l4];by_cases l7:(a.rows.length:Int)=(b.rows.length:Int)
 case neg=>rw[Zd1 l7,no (λe=>by rw[e]) l7];rfl
 rw[Ze1 l7];by_cases l8:(a.sets.length:Int)=(b.sets.length:Int)
 case neg=>rw[Zd1 l8,no (λe=>by rw[e]) l8];rfl
 rw[Ze1 l8];by_cases l12:(a.desc.length:Int)=(b.desc.length:Int)
 case neg=>rw[Zd1 l12,no (λe=>by rw[e]) l12];rfl
 rw[Ze1 l12];simp only[Zt1,Al];generalize hk:a.cols.length+a.rows.length+a.sets.length+a.desc.length+1=k;refine(H8 a.cols b.cols (by omega) (λi=>(false,(i:Int),a,b)) (some false) (cond (decide (a.rows=b.rows)) (cond (decide (a.sets=b.sets)) (cond (decide (a.desc=b.desc)) (some true) (some false)) (some false)) (some false)) (λi h h2 rec =>?_) (λrec =>?_) k (by omega)).trans ?_
 ·simp only[O7,Dw h,Ah,A1 h,A1 h2,chk,A0 (c :=.col) h,A0 (c :=.col) h2,Ay h hb.cols.1]
 ·simp only[O7,Dv,Al];refine(H8 a.rows b.rows (by omega) (λi=>(false,(i:Int),a,b)) (some false) (cond (decide (a.sets=b.sets)) (cond (decide (a.desc=b.desc)) (some true) (some false)) (some false)) (λi h h2 rec =>?_) (λrec =>?_) k (by omega)).trans rfl
  ·simp only[Pk,Dw h,Ah,A1 h,A1 h2,chk,A0 (c :=.exprs) h,A0 (c :=.exprs) h2,Ay h hb.rows.1,Alc]
  ·simp only[Pk,Dv,Al];refine(H8 a.sets b.sets (by omega) (λi=>(false,(i:Int),a,b)) (some false) (cond (decide (a.desc=b.desc)) (some true) (some false)) (λi h h2 rec =>?_) (λrec =>?_) k (by omega)).trans rfl
   ·simp only[Ot,Dw h,Ah,A1 h,A1 h2,chk,A0 (c :=.set) h,A0 (c :=.set) h2,Ay h hb.sets.1,G2,Ane];exact A76 _ _ _ _
   ·simp only[Ot,Dv,Al];refine(H8 a.desc b.desc (by omega) (λi=>(false,(i:Int),a,b)) (some false) (some true) (λi h h2 rec =>?_) (λrec =>?_) k (by omega)).trans rfl
    ·simp only[Pn,Dw h,Ah,A1 h,A1 h2,chk,A0 (c :=.bool) h,A0 (c :=.bool) h2,Ay h hb.desc]
    ·simp only[Pn,Dv,Al]
 ·by_cases h4:a.cols=b.cols
  case neg=>rw[Zd1 h4,no (λe=>by rw[e]) h4];rfl
  by_cases h7:a.rows=b.rows
  case neg=>rw[Ze1 h4,Zd1 h7,no (λe=>by rw[e]) h7];rfl
  by_cases h8:a.sets=b.sets
  case neg=>rw[Ze1 h4,Ze1 h7,Zd1 h8,no (λe=>by rw[e]) h8];rfl
  by_cases h12:a.desc=b.desc
  case neg=>rw[Ze1 h4,Ze1 h7,Ze1 h8,Zd1 h12,no (λe=>by rw[e]) h12];rfl
  rw[Ze1 h4,Ze1 h7,Ze1 h8,Ze1 h12,Ze1 (Bfa h1 h2 h3 h4 h5 h6 h7 h8 h9 h10 h11 h12 h13)];rfl⟩
def Aza(R:Type):Px R:=pxO [] [] [] []
def Np(x:HV [.sv .tbl]):Option (HV [.sv .stmt]):=match x with
 |t =>
 some (Stm.mk 1 t.name [] t.cols t.key t.checks [] [] false (Xpr.mk 0 ⟨0,0,[]⟩ [] []) [] [] 0)
theorem Arp:FO 30 [.sv .tbl] [.sv .stmt] (Np):=fR (px:=Aza _) (n:=0) Tryz.func30 rfl (λ_ H=>⟨lv H Ae Aa Ab,Ai⟩) λ_=>by kernel_rfl
def Ca(t:Tbl):Stm :=(Stm.mk 1 t.name [] t.cols t.key t.checks [] [] false (Xpr.mk 0 ⟨0,0,[]⟩ [] []) [] [] 0)
theorem Ase(x:HV [.sv .tbl]):Np x=some (Ca x):=by
 first
  |exact rfl
  |simp only[Np,Ca,Az]
def Q5:FT [.sv .tbl] [.sv .stmt]:=λx=>some (Ca x)
theorem Ve:FO 30 [.sv .tbl] [.sv .stmt] Q5 :=.fin0 Arp λx _ _ hx=>(Ase x).trans hx
instance:DecidableEq Idx:=λa b=>decidable_of_iff (a.name=b.name/\a.cols=b.cols) (by cases a;cases b;simp only[Idx.mk.injEq])
def ixS(x:Idx):Stm:=Stm.mk 0 x.name [] [] x.cols [] [] [] false (Xpr.mk 0 ⟨0,0,[]⟩ [] []) [] [] 0
theorem Bfy(x y:Idx):N2 (ixS x) (ixS y)=decide (x=y):=Zy1.2 (by cases x;cases y;simp[ixS])
def Yb:Sig:=⟨57,[(4,.bool),(5,.int .i64)],[(2,.ptr 0 0),(3,.ptr 1 0)],[(0,.one (.sv .tbl)),(1,.one (.sv .tbl))],2,0,0,[],[]⟩
abbrev O8:=Bool×Int×Tbl×Tbl
def L9{R:Type}(rec:O8->Option R)(kx:Ex->O8->Option R)(v:O8):Option R:=match v with
 |(v,v1,w,w1) =>
 cond (decide (v1<(w.idx.length:Int))) (
  chk (inb v1 w.idx.length) (
  chk (inb v1 w.idx.length) (
   chk (inb v1 w1.idx.length) (
   chk (inb v1 w1.idx.length) (
    cond (!(N2 (Stm.mk 0 ((at' .idx w.idx v1).name) [] [] ((at' .idx w.idx v1).cols) [] [] [] false (Xpr.mk 0 ⟨0,0,[]⟩ [] []) [] [] 0) (Stm.mk 0 ((at' .idx w1.idx v1).name) [] [] ((at' .idx w1.idx v1).cols) [] [] [] false (Xpr.mk 0 ⟨0,0,[]⟩ [] []) [] [] 0))) (
    kx .ret (false,v1,w,w1)) (
    rec (v,(wr .i64 (v1+1)),w,w1))))))) (
  kx (.exit 0) (v,v1,w,w1))
def Agm(R:Type)(k:Nat):Px R:=pxO [(39,cA Af6),(30,cA Q5)] [(30,qA Q5)] [(4,Ao k Yb (L9))] []
def V6(k:Nat)(x:HV [.sv .tbl,.sv .tbl]):Option (HV [.bool]):=match x with
 |(a,b) =>
 cond (!decide ((a.idx.length:Int)=(b.idx.length:Int))) (
  some false) (
  Aq (λrec=>L9 rec (λe vz=>match vz with|(v2,_,v4,v5)=>match e with
  |.ret =>some v2
  |.exit 0 =>some (N2 (Ca v4) (Ca v5))
  |_=>none)) k (false,0,a,b))
theorem Aqh(k:Nat):FO 13 [.sv .tbl,.sv .tbl] [.bool] (V6 k):=fR (px:=Agm _ k) (n:=1) Tryz.func13 rfl (λcx H=>by have h0:Lv cx (Agm (HV [.bool]) k):=lv H (c1 H A5c (c1 H Ve Ae)) (q1 H Ve Aa) Ab;have hlrsame16_0:=lO H h0 (b:=lp Tryz.f13 0) (k:=k) (n:=0) (s:=Yb) (step:=L9) (λ_ _ _ (_,_,_,_)=>by kernel_rfl) Ai;exact⟨h0,(Bc Ai hlrsame16_0)⟩) λ(_,_)=>by kernel_rfl
def Mk(a b:Tbl):Bool:=cond (decide (a.idx=b.idx)) (N2 (Ca a) (Ca b)) false
def Ra:FT [.sv .tbl,.sv .tbl] [.bool]:=λx=>some (Mk x.1 x.2)
theorem Ah7:FO 13 [.sv .tbl,.sv .tbl] [.bool] Ra :=.fin 0 Aqh λ(a,b) r hb hx=>⟨a.idx.length+1,by
 simp only[Ra,Mk,Za1] at hx;rw[<-hx];simp only[V6];by_cases hl:(a.idx.length:Int)=(b.idx.length:Int)
 ·rw[Ze1 hl,Zt1,Al];refine(H8 a.idx b.idx (by omega) (λi=>(false,(i:Int),a,b)) (some false) (some (N2 (Ca a) (Ca b))) (λi h h2 rec =>?_) (λrec =>?_) (a.idx.length+1) (by omega)).trans ?_
  ·have e:=Bfy a.idx[i] b.idx[i];simp only[ixS] at e;simp only[L9,Dw h,Ah,A1 h,A1 h2,chk,A0 (c :=.idx) h,A0 (c :=.idx) h2,Ay h hb.1.idx.1,e]
  ·simp only[L9,Dv,Al]
  ·cases decide (a.idx=b.idx)<;>rfl
 ·rw[Zd1 hl,Zd1 (A9j hl)];rfl⟩
theorem Wa(a:Tbl):Mk a a=true:=by simp only[Mk,N2,decide_true,Ah]
def rmI:List Idx->Int->Int->Int
 |[],_,n=>n
 |x::l,most,n=>cond (decide (n<most)) (rmI l most (wr .i64 (n+Dy (ixS x) most))) n
def rmC:List Col->Int->Int->Int
 |[],_,n=>n
 |c::l,most,n=>cond (decide (n<most)) (rmC l most (wr .i64 (n+wr .i64 (Int.tdiv (wr .i64 ((c.name.length:Int)+(c.ref.length:Int))) 30)))) n
def Yj:Sig:=⟨76,[(1,.int .i64),(5,.int .i64),(7,.int .i64)],[(2,.ptr 0 0)],[(0,.one (.sv .tbl))],1,0,0,[],[]⟩
abbrev Jx:=Int×Int×Int×Tbl
def Ii{R:Type}(rec:Jx->Option R)(kx:Ex->Jx->Option R)(v:Jx):Option R:=match v with
 |(v7,v8,v9,w1) =>
 cond (decide (v9<(w1.cols.length:Int))) (
  cond (decide (v8<v7)) (
  chk (inb v9 w1.cols.length) (
   chk (inb v9 w1.cols.length) (
   rec (v7,(wr .i64 (v8+(wr .i64 (Int.tdiv (wr .i64 ((((at' .col w1.cols v9).name).length:Int)+(((at' .col w1.cols v9).ref).length:Int))) 30)))),(wr .i64 (v9+1)),w1)))) (
  kx (.exit 2) (v7,v8,v9,w1))) (
  kx (.exit 2) (v7,v8,v9,w1))
def Xl:Sig:=⟨76,[(1,.int .i64),(5,.int .i64),(6,.int .i64)],[(2,.ptr 0 0)],[(0,.one (.sv .tbl))],1,0,0,[],[]⟩
abbrev J3:=Int×Int×Int×Tbl
def Ik{R:Type}(rec:J3->Option R)(kx:Ex->J3->Option R)(v:J3):Option R:=match v with
 |(v,v1,v2,w) =>
 cond (decide (v2<(w.idx.length:Int))) (
  cond (decide (v1<v)) (
  chk (inb v2 w.idx.length) (
   chk (inb v2 w.idx.length) (
   rec (v,(wr .i64 (v1+(Dy (Stm.mk 0 ((at' .idx w.idx v2).name) [] [] ((at' .idx w.idx v2).cols) [] [] [] false (Xpr.mk 0 ⟨0,0,[]⟩ [] []) [] [] 0) v))),(wr .i64 (v2+1)),w)))) (
  kx (.exit 0) (v,v1,v2,w))) (
  kx (.exit 0) (v,v1,v2,w))
def Agv(R:Type)(k:Nat):Px R:=pxO [] [(30,qA Q5),(22,qA Ady)] [(3,Ao k Xl (Ik)),(7,Ao k Yj (Ii))] []
def V0(k:Nat)(x:HV [.sv .tbl,.int .i64]):Option (HV [.int .i64]):=match x with
 |(t,most) =>
 Aq (λrec=>Ik rec (λe vz=>match vz with|(v3,v4,_,v6)=>match e with
  |.exit 0 =>
  Aq (λrec=>Ii rec (λe vz=>match vz with|(_,a,_,_)=>match e with
   |.exit 2 =>
   some a
   |_=>none)) k (v3,v4,0,v6)
  |_=>none)) k (most,(wr .i64 ((Dy (Ca t) most)+(t.idx.length:Int))),0,t)
theorem Aun(k:Nat):FO 21 [.sv .tbl,.int .i64] [.int .i64] (V0 k):=fR (px:=Agv _ k) (n:=2) Tryz.func21 rfl (λcx H=>by have h0:Lv cx (Agv (HV [.int .i64]) k):=lv H Ae (q1 H Ve (q1 H Atp Aa)) Ab;have hlrmuch16_0:=lO H h0 (b:=lp Tryz.f21 0) (k:=k) (n:=0) (s:=Xl) (step:=Ik) (λ_ _ _ (_,_,_,_)=>by kernel_rfl) Ai;have hlrmuch16_1:=lO H h0 (b:=lp Tryz.f21 1) (k:=k) (n:=0) (s:=Yj) (step:=Ii) (λ_ _ _ (_,_,_,_)=>by kernel_rfl) Ai;exact⟨h0,(Bc (Bc Ai hlrmuch16_0) hlrmuch16_1)⟩) λ(_,_)=>by kernel_rfl
def J9(t:Tbl)(most:Int):Int:=rmC t.cols most (rmI t.idx most (wr .i64 (Dy (Ca t) most+(t.idx.length:Int))))
def Ys:FT [.sv .tbl,.int .i64] [.int .i64]:=λx=>some (J9 x.1 x.2)
theorem Agd{R:Type}{kx:Ex->J3->Option R}{t:Tbl}{most:Int}{c:Int->Option R}(hn:ln t.idx.length)(h2:∀n i,kx (.exit 0) (most,n,i,t)=c n)(k:Nat)(hk:t.idx.length<k)(n:Int) :
  Aq (λrec=>Ik rec kx) k (most,n,0,t)=c (rmI t.idx most n):=by
 refine(Ed t.idx.length (λi n=>(most,n,(i:Int),t)) (λ_ _=>True) (λi n=>c (rmI (t.idx.drop i) most n)) (λi hi n _ rec hr =>?_) (λn _ rec =>?_) k 0 n (Nat.zero_le _) (by omega) trivial).trans (by rw[Zq1])
 ·have hr:=hr (wr .i64 (n+Dy (ixS t.idx[i]) most)) trivial;simp only[ixS] at hr;simp only[Ik,Dw hi,Ah,A1 hi,chk,A0 (c :=.idx) hi,Ay hi hn,Au hi,rmI,h2,ixS];cases decide (n<most) with|false=>rfl|true=>exact hr
 ·simp only[Ik,Dv,Al,h2];rw[Zk1 (Zn1 _)];rfl
theorem Ag8{R:Type}{kx:Ex->Jx->Option R}{t:Tbl}{most:Int}{c:Int->Option R}(hn:ln t.cols.length)(h2:∀n i,kx (.exit 2) (most,n,i,t)=c n)(k:Nat)(hk:t.cols.length<k)(n:Int) :
  Aq (λrec=>Ii rec kx) k (most,n,0,t)=c (rmC t.cols most n):=by
 refine(Ed t.cols.length (λi n=>(most,n,(i:Int),t)) (λ_ _=>True) (λi n=>c (rmC (t.cols.drop i) most n)) (λi hi n _ rec hr =>?_) (λn _ rec =>?_) k 0 n (Nat.zero_le _) (by omega) trivial).trans (by rw[Zq1])
 ·have hr:=hr (wr .i64 (n+wr .i64 (Int.tdiv (wr .i64 ((t.cols[i].name.length:Int)+(t.cols[i].ref.length:Int))) 30))) trivial;simp only[Ii,Dw hi,Ah,A1 hi,chk,A0 (c :=.col) hi,Ay hi hn,Au hi,rmC,h2];cases decide (n<most) with|false=>rfl|true=>exact hr
 ·simp only[Ii,Dv,Al,h2];rw[Zk1 (Zn1 _)];rfl
theorem Au7:FO 21 [.sv .tbl,.int .i64] [.int .i64] Ys :=.fin 0 Aun λ(t,most) r hb hx=>⟨t.idx.length+t.cols.length+1,by have hb:=hb.1;simp only[Ys,Za1] at hx;rw[<-hx];simp only[V0];refine(Agd (c:=λn=>some (rmC t.cols most n)) hb.idx.1 (λn i =>?_) _ (by omega) _).trans rfl;exact Ag8 (c:=some) hb.cols.1 (λn i=>rfl) _ (by omega) _⟩
theorem Ar3{N:Int}(hN : 1<=N/\N<=600):∀(l:List Idx) (n:Int),0<=n->n<=2000000000000000->(∀x,x∈l->A94 (R47,R47) x)->n<=rmI l N n/\rmI l N n<=2000000000000000/\(rmI l N n<N->∀x,x∈l->x.cols.length<=600)
 |[],n,_,h,_=>⟨Int.le_refl _,h,λ_ x hx=>by cases hx⟩
 |x::l,n,h0,h1,hs=>by
  simp only[rmI];by_cases hn:n<N
  ·have hx:=hs x Zr1;have hsm:SmStm (R47,R47) (ixS x):=⟨hx.1,by simp[ixS],by simp[ixS],hx.2,by simp[ixS],by simp[ixS],by simp[ixS],.mk _ _ _ _ (by simp[Acy]) (by simp) (by simp) (by simp),by simp[ixS],by simp[ixS]⟩;obtain⟨a1,a2⟩:=Aan hN hsm;have w:wr .i64 (n+Dy (ixS x) N)=n+Dy (ixS x) N:=Dr (by simp only[inI];omega);rw[Ze1 hn,Ah,w];obtain⟨b1,b2,b3⟩:=Ar3 hN l (n+Dy (ixS x) N) (by omega) (by omega) (λq hq=>hs q (Zu1 _ hq));refine⟨by omega,b2,λh y hy =>?_⟩;rcases List.mem_cons.1 hy with rfl|hy
   ·have a3:=(a2 (by omega)).2.1;simp only[ixS,Zi1] at a3;have e:Dy (ixS y) N=Dy (Stm.mk 0 y.name [] [] y.cols [] [] [] false (Xpr.mk 0 ⟨0,0,[]⟩ [] []) [] [] 0) N:=rfl;omega
   ·exact b3 h y hy
  ·rw[Zd1 hn,Al];exact⟨Int.le_refl _,h1,λh=>absurd h hn⟩
theorem Ard{N:Int}(hN : 1<=N/\N<=600):∀(l:List Col) (n:Int),0<=n->n<=2000000000000000->(∀c,c∈l->c.name.length<=R47/\c.ref.length<=R47)->n<=rmC l N n
 |[],n,_,h,_=>Int.le_refl _
 |x::l,n,h0,h1,hs=>by
  simp only[rmC];by_cases hn:n<N
  ·obtain⟨c1,c2⟩:=hs x Zr1;simp only[R47] at c1 c2;have e4:wr .i64 ((x.name.length:Int)+(x.ref.length:Int))=((x.name.length+x.ref.length:Nat):Int):=by rw[Dr (by simp only[inI];omega)];omega
   have e5:Int.tdiv ((x.name.length+x.ref.length:Nat):Int) 30=(((x.name.length+x.ref.length) / 30:Nat):Int):=rfl;have e6:wr .i64 (((x.name.length+x.ref.length) / 30:Nat):Int)=(((x.name.length+x.ref.length) / 30:Nat):Int):=Dr (by simp only[inI];omega);have w:wr .i64 (n+(((x.name.length+x.ref.length) / 30:Nat):Int))=n+(((x.name.length+x.ref.length) / 30:Nat):Int):=Dr (by simp only[inI];omega);rw[Ze1 hn,Ah,e4,e5,e6,w];have ih:=Ard hN l (n+(((x.name.length+x.ref.length) / 30:Nat):Int)) (by omega) (by omega) (λq hq=>hs q (Zu1 _ hq));omega
  ·rw[Zd1 hn,Al];exact Int.le_refl _
structure FewT (t:Tbl):Prop where
 stm:Few (Ca t)
 idx:t.idx.length<=600/\∀x,x∈t.idx->x.cols.length<=600
 l:esizes t.checks<=1200
theorem Aut{N:Int}(hN : 1<=N/\N<=600){t:Tbl}(hs:SmTbl (R47,R47) t)(h:J9 t N<N):FewT t:=by have hsm:SmStm (R47,R47) (Ca t):=⟨hs.name,by simp[Ca],hs.cols,hs.key,hs.checks,by simp[Ca],by simp[Ca],.mk _ _ _ _ (by simp[Acy]) (by simp) (by simp) (by simp),by simp[Ca],by simp[Ca]⟩;obtain⟨a1,a2⟩:=Aan hN hsm;have c1:=hs.idx.1;simp only[R47] at c1;have w:wr .i64 (Dy (Ca t) N+(t.idx.length:Int))=Dy (Ca t) N+(t.idx.length:Int):=Dr (by simp only[inI];omega);simp only[J9,w] at h;obtain⟨b1,b2,b3⟩:=Ar3 hN t.idx (Dy (Ca t) N+(t.idx.length:Int)) (by omega) (by omega) hs.idx.2;have b4:=Ard hN t.cols _ (by omega) b2 hs.cols.2;exact⟨(a2 (by omega)).1,⟨by omega,b3 (by omega)⟩,(a2 (by omega)).2.2⟩
def A3h(R:Type):Px R:=pxO [(21,cA Ys),(22,cA Ady)] [] [] []
def Ox(x:HV [.sv .tbl,.sv .stmt]):Option (HV [.bool]):=match x with
 |(t,s) =>
 cond (decide (600<=(J9 t 600))) (
  some true) (
  some (decide (600<=(Dy s 600))))
theorem Azb:FO 6 [.sv .tbl,.sv .stmt] [.bool] (Ox):=fR (px:=A3h _) (n:=0) Tryz.func6 rfl (λ_ H=>⟨lv H (c1 H Au7 (c1 H Atp Ae)) Aa Ab,Ai⟩) λ(_,_)=>by kernel_rfl
def I1(t:Tbl)(s:Stm):Bool :=
 cond (decide (600<=(J9 t 600))) (
  true) (
  (decide (600<=(Dy s 600))))
theorem Avv(x:HV [.sv .tbl,.sv .stmt]):Ox x=some (I1 x.1 x.2):=by
 first
  |exact rfl
  |simp only[Ox,I1,Az]
def Ara:FT [.sv .tbl,.sv .stmt] [.bool]:=λx=>some (I1 x.1 x.2)
theorem A5y:FO 6 [.sv .tbl,.sv .stmt] [.bool] Ara :=.fin0 Azb λx _ _ hx=>(Avv x).trans hx
def Avt(R:Type):Px R:=pxO [] [] [] []
def Mj(x:HV []):Option (HV [.sv .tbl]):=match x with
 |() =>
 some (Tbl.mk [116] [(Col.mk [97] 3 false false []),(Col.mk [98] 4 false false [])] [[97]] [(Xpr.mk 10 ⟨0,0,[]⟩ [] [(Xpr.mk 2 ⟨0,0,[]⟩ [97] []),(Xpr.mk 1 ⟨3,0,[]⟩ [] [])])] [])
theorem Aq5:FO 23 [] [.sv .tbl] (Mj):=fR (px:=Avt _) (n:=0) Tryz.func23 rfl (λ_ H=>⟨lv H Ae Aa Ab,Ai⟩) λ()=>by kernel_rfl
def H3:Tbl :=(Tbl.mk [116] [(Col.mk [97] 3 false false []),(Col.mk [98] 4 false false [])] [[97]] [(Xpr.mk 10 ⟨0,0,[]⟩ [] [(Xpr.mk 2 ⟨0,0,[]⟩ [97] []),(Xpr.mk 1 ⟨3,0,[]⟩ [] [])])] [])
theorem Aqu(x:HV []):Mj x=some (H3):=by
 first
  |exact rfl
  |simp only[Mj,H3,Az]
def Alr:FT [] [.sv .tbl]:=λ_=>some (H3)
theorem Ayp:FO 23 [] [.sv .tbl] Alr :=.fin0 Aq5 λx _ _ hx=>(Aqu x).trans hx
def Ay0(R:Type):Px R:=pxO [(23,cA Alr),(8,cA Avb),(10,cA Bcu),(14,cA Azs),(17,cA K3),(13,cA Ra)] [] [] []
def Xv(x:HV []):Option (HV [.bool]):=match x with
 |() =>
 (Bhm H3).bind λ(x,x1) =>
  (Bix x).bind λ(x2,x3) =>
  (A11 H3 [(Val.mk 3 1 []),(Val.mk 1 0 [])]).bind λx4 =>
   let j5:=λ(p:Bool) =>
   let j4:=λ(p1:Bool) =>
    let j3:=λ(p2:Bool) =>
    let j2:=λ(p3:Bool) =>
     let j1:=λ(p4:Bool) =>
     let j:=λ(p5:Bool) =>
      cond (p5) (
      (Mr (Tbl.mk [] [] [] [] [])).bind λx8 =>some (decide (x8=2))) (
      some false)
     cond (p4) (
      j (Mk x2 H3)) (
      j false)
     cond (p3) (
     j1 (decide (x3=0))) (
     j1 false)
    cond (p2) (
     j2 (decide (x1=0))) (
     j2 false)
    cond (p1) (
    (Mr H3).bind λx7 =>j3 (decide (x7=0))) (
    j3 false)
   cond (p) (
    (A11 H3 [(Val.mk 1 0 []),(Val.mk 1 0 [])]).bind λx6 =>
    j4 (decide (x6=161))) (
    j4 false)
   cond (decide (x4=0)) (
   (A11 H3 [(Val.mk 3 0 []),(Val.mk 1 0 [])]).bind λx5 =>j5 (decide (x5=162))) (
   j5 false)
theorem As4:FO 7 [] [.bool] (Xv):=fR (px:=Ay0 _) (n:=0) Tryz.func7 rfl (λ_ H=>⟨lv H (c1 H Ayp (c1 H A1f (c1 H Bfc (c1 H A8q (c1 H Ry (c1 H Ah7 Ae)))))) Aa Ab,Ai⟩) λ()=>by kernel_rfl
def Sa:Option Bool:=Xv ()
def Amw:FT [] [.bool]:=λ_=>Sa
theorem Av9:FO 7 [] [.bool] Amw :=.fin0 As4 λ_ _ _ hx=>hx
def Bdx(R:Type):Px R:=pxO [(6,cA Ara),(17,cA K3),(7,cA Amw),(19,cA Aoi),(20,cA T5),(13,cA Ra)] [] [] []
def Qg(x:HV [.sv .tbl,.sv .stmt,.sv .stmt]):Option (HV [.bool]):=match x with
 |(t,a,b) =>
 let j1:=λ(p2:Bool) =>
  cond (p2) (
  (Sa).bind λx1 =>some x1) (
  (Hh t a).bind λ(x2,x3) =>
   (Hh t b).bind λ(x4,x5) =>
   cond (!decide (x3=0)) (
    cond (decide (x2.name=[])) (
    (Sa).bind λx6 =>some x6) (
    some false)) (
    (P9 x2 a.name).bind λ(x7,x8) =>
    (Hh x2 a).bind λ(_,d) =>
     (Mr x2).bind λe =>
     let j2:=λ(p5:Bool) =>
      cond (p5) (
      some false) (
      cond (!(Mk x7 t)) (
       some false) (
       cond (!decide (d=160)) (
       some false) (
       let j3:=λ(f:Bool) =>
        cond (f) (
        (Sa).bind λg =>some g) (
        (Hh x2 b).bind λ(c,h) =>
         (Hh x4 a).bind λ(i,k) =>
         let j6:=λ(l:Bool) =>
          let j5:=λ(m:Bool) =>
          let j4:=λ(n:Bool) =>
           cond (n) (
           (Sa).bind λo =>some o) (
           some false)
          cond (m) (
           j4 (decide ((c.idx.length:Int)=(wr .i64 ((t.idx.length:Int)+2))))) (
           j4 false)
          cond (l) (
          j5 (Mk c i)) (
          j5 false)
         cond (decide (h=0)) (
          j6 (decide (k=0))) (
          j6 false))
       cond (!decide (x5=0)) (
        j3 true) (
        cond (decide (a.name=b.name)) (
        j3 true) (
        j3 (decide (98<(t.idx.length:Int))))))))
     cond (!decide (e=0)) (
      j2 true) (
      j2 (!x8))))
 let j:=λ(p:Bool) =>
  cond (p) (
  j1 true) (
  (Mr t).bind λx =>j1 (!decide (x=0)))
 cond ((I1 t a)) (
  j true) (
  j (I1 t b))
theorem Bbw:FO 5 [.sv .tbl,.sv .stmt,.sv .stmt] [.bool] (Qg):=fR (px:=Bdx _) (n:=0) Tryz.func5 rfl (λ_ H=>⟨lv H (c1 H A5y (c1 H Ry (c1 H Av9 (c1 H Bcj (c1 H Aq7 (c1 H Ah7 Ae)))))) Aa Ab,Ai⟩) λ(_,_,_)=>by kernel_rfl
theorem A0a{nm:Str}:∀{p q:List Idx}{x:Idx},(∀y,y∈p->y.name≠nm)->x.name=nm->Azc (p++x::q) nm=p++q
 |[],q,x,_,h=>by simp[Azc,fN,h]
 |y::p,q,x,hp,h=>by have ih:=A0a (p:=p) (q:=q) (x:=x) (λz hz=>hp z (by simp[hz])) h;have hy:decide (y.name=nm)=false:=Zd1 (hp y (by simp));simp only[Azc] at ih;simp only[Azc,Zb2,fN,hy,Al,List.take_succ_cons,List.drop_succ_cons,ih]
theorem Bf5{l:List Idx}{x:Idx}(h:D7 l x.name=false):Azc (Cb l x) x.name=l:=by
 have hne:∀y,y∈l->y.name≠x.name:=λy hy e=>by rw[Jm.2 ⟨y,hy,e⟩] at h;cases h
 rw[W9,A0a (λy hy=>hne y (List.mem_of_mem_take hy)) rfl,List.take_append_drop]
theorem A2g(l:List Idx)(x:Idx):D7 (Cb l x) x.name=true:=Jm.2 ⟨x,Kf.2 (.inl rfl),rfl⟩
theorem Azh{l:List Idx}{x:Idx}{s:Str}(h:D7 l s=false)(hx:x.name≠s):D7 (Cb l x) s=false:=by
 cases hh:D7 (Cb l x) s with
 |false=>rfl
 |true =>
  obtain⟨z,hz,e⟩:=Jm.1 hh;rcases Kf.1 hz with rfl|hz
  ·exact absurd e hx
  ·rw[Jm.2 ⟨z,hz,e⟩] at h;cases h
structure May (t:Tbl) (s:Stm):Prop where
 kind:s.kind=3
 ok:Ev s=true
 on:s.on=t.name
 no:D7 t.idx s.name=false
 len:t.idx.length<100
 all:Nj t s.names=true
theorem A9h{t:Tbl}{s:Stm}(h:(Gl t s).2≠0):(Gl t s).1=F8:=by simp only[Gl] at h ⊢;generalize (decide (s.kind=3)&&(Ev s&&decide (s.on=t.name)))=b1 at h ⊢;generalize D7 t.idx s.name=b2 at h ⊢;generalize decide (100<=t.idx.length)=b3 at h ⊢;generalize Nj t s.names=b4 at h ⊢;cases b1<;>cases b2<;>cases b3<;>cases b4<;>first|rfl|exact absurd rfl h
theorem Ye{t:Tbl}{s:Stm}(h:May t s):Gl t s=({ t with idx:=Cb t.idx ⟨s.name,s.names⟩ },0):=by have h3:decide (100<=t.idx.length)=false:=Zd1 (by have:=h.len;omega);simp only[Gl,h.kind,h.ok,h.on,h.no,h3,h.all,decide_true,Bool.and_self,Ah,Al]
theorem Bch{t:Tbl}{s:Stm}(h:(Gl t s).2=0):May t s:=by
 simp only[Gl] at h;cases b1:(decide (s.kind=3)&&(Ev s&&decide (s.on=t.name))) with
 |false=>rw[b1] at h;simp at h
 |true =>
  cases b2:D7 t.idx s.name with
  |true=>rw[b1,b2] at h;simp at h
  |false =>
   cases b3:decide (100<=t.idx.length) with
   |true=>rw[b1,b2,b3] at h;simp at h
   |false =>cases b4:Nj t s.names with|false=>rw[b1,b2,b3,b4] at h;simp at h|true =>simp only[Zb1,Zg1] at b1;exact⟨b1.1,b1.2.1,b1.2.2,b2,by have:=of_decide_eq_false b3;omega,b4⟩
theorem Avq{t:Tbl}{s:Stm}(h:May t s):Gl { t with idx:=Cb t.idx ⟨s.name,s.names⟩ } s=(F8,160):=by have e:D7 (Cb t.idx ⟨s.name,s.names⟩) s.name=true:=A2g t.idx ⟨s.name,s.names⟩;simp only[Gl,h.kind,h.ok,h.on,e,decide_true,Bool.and_self,Ah]
theorem Bfn{t:Tbl}{s:Stm}(h:May t s):Fl t ⟨s.name,s.names⟩=s:=by have h1:=h.ok;have h2:=h.kind;have h3:=h.on;simp only[Ev,Zb1,Zg1] at h1;have h4:=h1.1.2;obtain⟨k,nm,on,c,ns,l,r,st,hs,w,o,d,m⟩:=s;simp only at h2 h3;subst h2 h3;simp only[Aa3,noS,if_neg (show ¬(3:Int)=1 by decide),if_true,Stm.mk.injEq] at h4;obtain⟨_,_,_,rfl,_,rfl,rfl,rfl,rfl,rfl,rfl,rfl,rfl⟩:=h4;rfl
theorem Bbd{t:Tbl}{s:Stm}(ht:On t=true)(h:May t s):On { t with idx:=Cb t.idx ⟨s.name,s.names⟩ }=true:=by
 simp only[On,Zb1,Zg1,Zf2] at ht ⊢;obtain⟨h1,h2,h3,h4⟩:=ht;refine⟨h1,Df h2 h.no,by rw[Hv];have:=h.len;omega,λx hx =>?_⟩;rcases Kf.1 hx with rfl|hx
 ·have e:Fl { t with idx:=Cb t.idx ⟨s.name,s.names⟩ } ⟨s.name,s.names⟩=s:=Bfn (t:=t) h;simp only[Ti,e,h.ok,Bool.true_and];exact h.all
 ·exact h4 x hx
theorem Ak9{t:Tbl}{s:Stm}(ht:Fb t=true)(h:May t s)(hs:s.names.length<=1000000):Fb { t with idx:=Cb t.idx ⟨s.name,s.names⟩ }=true:=by
 simp only[Fb,Zb1,Zg1,Zf2] at ht ⊢;obtain⟨h1,h2,h3⟩:=ht;refine⟨h1,by rw[Hv];have:=h.len;omega,λx hx =>?_⟩;rcases Kf.1 hx with rfl|hx
 ·exact hs
 ·exact h3 x hx
theorem A2y{t:Tbl}(h:FewT t):Fb t=true:=by
 have h1:=h.stm.cols;have h2:=h.stm.names;have h3:=h.stm.l;have h4:=h.idx;have h5:=Ef t.checks;simp only[Ca] at h1 h2 h3;have e:∀x,x∈t.checks->Bb x<=1000000:=λx hx=>by have:=B1 hx;omega
 simp only[Fb,Zb1,Zg1,Zf2];refine⟨?_,by omega,λx hx=>by have:=h4.2 x hx;omega⟩;show(decide (t.cols.length<=1000000)&&(decide (([]:List SetE).length<=1000000)&&(decide (t.key.length<=1000000)&&(decide (t.checks.length<=1000000)&&t.checks.all λe=>decide (Bb e<=1000000)))))=true;simp only[Zb1,Zg1,Zf2,Zi1];exact⟨by omega,by omega,by omega,by omega,e⟩
theorem I6{t:Tbl}{s:Stm}(h:Few s)(hn:t.idx.length<=1000000)(hs:A9 t.idx=true):Vj t s=true:=by have h1:=h.cols;have h2:=h.sets.1;have h3:=h.names;simp only[Vj,Zb1,Zg1,hs];exact⟨by omega,by omega,by omega,by omega,trivial⟩
theorem Wd:Sa=some true:=by kernel_rfl
end Go.Proofs.YtbkinkalnmbpjaaGreatDoor
namespace Go.Ax
open Go.RowKit Go.ChangeShapes Go.WideShapes
section
variable {H:Type}{enc':TypeId×Value->H}{P:Program}{w:World}{base:Nat}{sp:Nat->Bool}{held:Bool}
theorem Atl{t k e:TypeId}{fuel:Nat}{cs:List Value}{ps:List MemPlace}(ht:P.underlying t=some (.map k e))(hk:P.underlying k=some (.int .i64))(he:P.underlying e=some .string){l:List (Int×Str)}(hl:∀p,p∈l->O1 l p.1=p.2)(hno:∀n,(∀p,p∈l->p.1≠n)->O1 l n=[])(h:DataW.trod enc' P w base sp held fuel t cs=some (.map (l.map λp=>(.int .i64 p.1,.lit (.string p.2))),ps)):∃b es clk,cs=[.map (some b)]/\w.heap[b]? = some (.map es clk)/\A19 l es.toList:=by
 rcases open_anymap ht h with ⟨_,hx⟩|⟨b,es,clock,_,rfl,hb,_,_,_⟩
 ·cases hx
 cases fuel with
 |zero=>simp[DataW.trod] at h
 |succ n =>
  simp only[DataW.trod,ht,hb] at h
  ·split at h
   ·obtain⟨entries,hm,hs⟩:=Option.bind_eq_some_iff.1 h;split at hs
    ·simp only[Za1,Zp1,DataW.map.injEq] at hs;obtain⟨hs,_⟩:=hs;have hperm:=sorted_perm (entries.map (·.1));rw[hs] at hperm;have hx:∀(x:MapEntry) (y:(Lit×DataW H)×List MemPlace),((keyOf P k x.key).bind λkey=>if x.val.formed P e=true then(DataW.trod enc' P w base sp held n e x.val.cells.toList).map λy=>((key,y.1),y.2) else none)=some y->∃(m:Int) (s:ByteArray),x.key = .int .i64 m/\x.val = .string s/\s.size<=maxLen/\y.1=(.int .i64 m,.lit (.string s.data.toList)):=by
      intro x y hy;obtain⟨key,hk1,hy⟩:=Option.bind_eq_some_iff.1 hy;split at hy
      ·rename_i hfm;obtain⟨z,hz,rfl⟩:=Option.map_eq_some_iff.1 hy;obtain⟨s,hs1,rfl,hs3⟩:=DataW.trod_string he hz;have hv:x.val = .string s:=by
        cases hxv:x.val<;>rw[hxv] at hs1 hfm<;>simp[Value.cells] at hs1
        ·rw[hs1]
        ·simp[Value.formed,he] at hfm
       have hkk:∃m,x.key = .int .i64 m/\key = .int .i64 m:=by
        simp only[keyOf,hk] at hk1;cases hxk:x.key<;>rw[hxk] at hk1<;>simp[mapKey,hk] at hk1
        obtain⟨⟨h1,_⟩,h2⟩:=hk1;subst h1;exact⟨_,rfl,h2.symm⟩
       obtain⟨m,h1,rfl⟩:=hkk;exact⟨m,s,h1,hv,hs3,rfl⟩
      ·cases hy
     have hin:∀x,x∈es.toList->∃(m:Int) (s:ByteArray),x.key = .int .i64 m/\x.val = .string s/\s.size<=maxLen/\(m,s.data.toList)∈l:=λx hxm=>by obtain⟨i,hi,rfl⟩:=List.getElem_of_mem hxm;obtain⟨y,hy,hf⟩:=Lib.mapM_at hm i _ (Zo1 hi);obtain⟨m,s,h1,h2,h3,h4⟩:=hx _ y hf;refine⟨m,s,h1,h2,h3,?_⟩;have:y.1∈entries.map (·.1):=List.mem_map.2 ⟨y,List.mem_of_getElem? hy,rfl⟩;have:=hperm.symm.subset this;rw[h4] at this;obtain⟨p,hp,e⟩:=List.mem_map.1 this;simp only[Zp1,Lit.int.injEq,true_and,DataW.lit.injEq,Lit.string.injEq] at e;obtain⟨e1,e2⟩:=e;rw[<-e1,<-e2];exact hp
     have hout:∀p,p∈l->∃x,x∈es.toList/\x.key = .int .i64 p.1:=λp hp=>by have h1:(Lit.int .i64 p.1,DataW.lit (H:=H) (.string p.2))∈entries.map (·.1):=hperm.subset (List.mem_map.2 ⟨p,hp,rfl⟩);obtain⟨y,hy,e⟩:=List.mem_map.1 h1;obtain⟨x,hxm,hf⟩:=mapM_mem hm y hy;obtain⟨m,s,h2,_,_,h4⟩:=hx x y hf;rw[e] at h4;simp only[Zp1,Lit.int.injEq,true_and] at h4;exact⟨x,hxm,by rw[h2,h4.1]⟩
     refine⟨b,es,clock,rfl,hb,λn =>?_⟩;have hik:MapKept.IsKey (.int .i64) (.int .i64 n):=by simp[MapKept.IsKey]
     rcases MapKept.findNow_spec hik es.toList 0 (λx hxm=>by obtain⟨m,s,h1,_⟩:=hin x hxm;rw[h1];simp[MapKept.IsKey]) with ⟨h1,h2⟩|⟨j,x,h1,h2,h3⟩
     ·have:O1 l n=[]:=hno n λp hp e=>by obtain⟨x,hxm,hk⟩:=hout p hp;exact h2 x hxm (by rw[hk,e])
      exact⟨by rw[this];simp,.inl ⟨h1,this⟩⟩
     ·obtain⟨m,s,g1,g2,g3,g4⟩:=hin x (List.mem_of_getElem? h2);have hmn:m=n:=by rw[g1] at h3;simpa using h3
      subst hmn;have hg:=hl _ g4;simp only at hg;refine⟨by rw[hg,Array.length_toList];exact g3,.inr ⟨0+j,?_⟩⟩;rw[h1,g2,hg,Array.toArray_toList]
    ·cases hs
   ·cases h
end
theorem Ab5{H:Type}{P:Program}:∀{ts us:List TypeId}{ds gs:List (DataW H)}{n:Nat},ds.length<=ts.length->n∈DataW.weightsEach P ts ds->n∈DataW.weightsEach P (ts++us) (ds++gs)
 |[],us,ds,gs,n,_,h=>by cases ds<;>simp[DataW.weightsEach] at h
 |t::ts,us,[],gs,n,_,h=>by simp[DataW.weightsEach] at h
 |t::ts,us,d::ds,gs,n,hl,h=>by
  simp only[DataW.weightsEach,Zb2,List.mem_append] at h ⊢;rcases h with h|h
  ·exact .inl h
  ·exact .inr (Ab5 (by simpa using hl) h)
theorem Bbm{H:Type}{P:Program}{ts us:List TypeId}{ds gs:List (DataW H)}(h:(DataW.weightsEach P (ts++us) (ds++gs)).all (·<=reachBytes)=true)(hl:ds.length<=ts.length):∀(i:Nat) (t:TypeId) (d:DataW H),ts[i]? = some t->ds[i]? = some d->∀n,n∈d.weights P t->n<=R47:=λi t d ht hd n hn=>by have:=Zf2.1 h n (Ab5 hl (DataW.weights_mem_each ht hd n hn));show n<=reachBytes;exact of_decide_eq_true this
theorem Ar0{H:Type}{enc':TypeId×Value->H}{P:Program}{w:World}{base:Nat}{sp:Nat->Bool}{held:Bool}:∀{ts:List TypeId}{vs:List Value}{ds:List (DataW H)}{ps:List MemPlace},DataW.TrodAll enc' P w base sp held ts vs ds ps->ds.length=ts.length:=by intro ts;induction ts with|nil=>intro vs ds ps h;cases vs<;>cases ds<;>simp[DataW.TrodAll] at h ⊢|cons t ts ih =>intro vs ds ps h;obtain⟨v,vs',d,ds',p,q,rfl,rfl,rfl,hd,hrest⟩:=trodAll_cons h;simp[ih hrest]
end Go.Ax
namespace Go.Proofs.YtbkinkalnmbpjaaGreatDoor
open Go.Ax Go.ChangeShapes Go.WideShapes Go.ChangeAt Go.RowKit Go.ChangeMaps
theorem own:ownKnob Tryz.prog.godebug=none:=by kernel_rfl
def rdL:List Nat:=[3,4,9,5,33,35,92,106,38,52,24,22,23,36,28,31,30,142,164,72,25,27]
theorem Bhz:rdB elT (Aos ttL) rdL=true:=by kernel_rfl
theorem Bhw:szB Tryz.prog elT (Aos ttL) rdL=true:=by kernel_rfl
theorem Ber:laidOutB Tryz.prog=true:=by kernel_rfl
def GlE(x:Vx)(g:Nat):Gv->Prop
 |.arr c xs=>∀i y,xs[i]? = some y->∀w',Chg x.S x.w w'->At w' c y g (i*csz c)
 |.map l=>∃r es clk,(∀w',Chg x.S x.w w'->w'.cell? ⟨g,0,none⟩=some (.map (some r))/\w'.heap[r]? = some (.map es clk))/\A19 l es.toList
 |.num k=>∃n,∀w',Chg x.S x.w w'->w'.cell? ⟨g,0,none⟩=some (.int k n)
theorem G4{α:Type}:∀{L:List (Nat×α)}{g:Nat}{v : α},tbl L g=some v->(g,v)∈L
 |[],_,_,h=>by simp[tbl] at h
 |(k,u)::L,g,v,h=>by
  simp only[tbl] at h;split at h
  ·rename_i hk;have hk:=Zl1 hk;subst hk;simp only[Za1] at h;subst h;exact Zr1
  ·exact Zu1 _ (G4 h)
theorem Bd5{x:Vx}{L:List (Nat×Gv)}(h:∀p,p∈L->GlE x p.1 p.2):GlR x (tbl L) :=⟨λ_ _ _ hg=>h _ (G4 hg),λ_ _ hg=>h _ (G4 hg),λ_ _ hg=>h _ (G4 hg)⟩
theorem Afw{P:Program}{w:World}:∀{l:List (String×DataW Unit)}{ps:List MemPlace},DataW.LaidVars P w l ps->∀x,x∈l->∃g t cs fuel p,P.globalNamed x.1=some g/\(P.globals[g]?).map (·.type)=some t/\w.var? P x.1=some cs/\DataW.trod (λ_=>()) P w 0 (λ_=>true) false fuel t cs.toList=some (x.2,p)
 |[],_,_,x,hx=>by cases hx
 |(n,d)::r,ps,h,x,hx=>by
  obtain⟨g,t,cs,fuel,p,q,h1,h2,h3,h4,h5,_⟩:=h;rcases List.mem_cons.1 hx with rfl|hx
  ·exact⟨g,t,cs,fuel,p,h1,h2,h3,h4⟩
  ·exact Afw h5 x hx
theorem Afy{H:Type}{enc:TypeId×Value->H}{P:Program}{w:World}{base:Nat}{sp:Nat->Bool}{held:Bool}{fuel:Nat}{t e:TypeId}{n:Nat}{cs:List Value}{zs:List (List UInt8)}{p:List MemPlace}
  (ht:P.underlying t=some (.array n e)) (he:P.underlying e=some .string) (hce:P.cellsOf e=1)
  (h:DataW.trod enc P w base sp held fuel t cs=some (.agg (zs.map λz =>.lit (.string z)),p)):∀(i:Nat) (z:Str),zs[i]? = some z->cs[i]? = some (.string ⟨z.toArray⟩):=by
 cases fuel with
 |zero=>simp[DataW.trod] at h
 |succ fuel =>
  simp only[DataW.trod,ht,hce,Nat.mul_one] at h;split at h
  ·rename_i hl;obtain⟨xs,hm,hx⟩:=Option.map_eq_some_iff.1 h;have hxs:xs.map (·.1)=zs.map λz=>(DataW.lit (.string z):DataW H):=by have:=congrArg Prod.fst hx;simpa using this
   have hxl:xs.length=n:=by simpa using Lib.mapM_length hm
   have hzl:zs.length=n:=by have:=congrArg List.length hxs;simp at this;omega
   intro i z hz;have hi:i<n:=by have:=(Zh2.1 hz).1;omega
   obtain⟨b,hb,hf⟩:=Lib.mapM_at hm i i (by simp[hi]);obtain⟨z',hc,h3,_⟩:=DataW.trod_string he hf;have h1:cs[i]? = some (.string z'):=by have:=congrArg (·[0]?) hc;simpa[List.getElem?_take,List.getElem?_drop] using this
   have h2:(xs.map (·.1))[i]? = some b.1:=by simp[hb]
   rw[hxs] at h2;simp only[List.getElem?_map,hz,Zk2,Za1] at h2;rw[h3] at h2;simp only[DataW.lit.injEq,Lit.string.injEq] at h2;rw[h1,h2]
  ·cases h
theorem Alf{W:World}{l:List (String×DataW Unit)}(h:laidMet Tryz.prog l W){nm:String}{g t e:Nat}{n:Nat}{zs:List Str}(hin:(nm,DataW.agg (zs.map λz =>.lit (.string z)))∈l)(hg:Tryz.prog.globalNamed nm=some g)(hgt:(Tryz.prog.globals[g]?).map (·.type)=some t)
  (ht:Tryz.prog.underlying t=some (.array n e)) (he:Tryz.prog.underlying e=some .string) (hce:Tryz.prog.cellsOf e=1) (hz:(zs.all λz=>Nat.ble z.length maxLen)=true):GlE (v0 elT Dh W) g (.arr .str zs):=by
 obtain⟨ps,hl,_⟩:=h;obtain⟨g',t',cs,fuel,p,h1,h2,h3,h4⟩:=Afw hl _ hin;obtain rfl:=Option.some.inj (hg.symm.trans h1);obtain rfl:=Option.some.inj (hgt.symm.trans h2);have hc:=Afy ht he hce h4;intro i y hy w' hw j d hd;have hj:j=0/\d = .str y:=by cases j with|zero=>simpa[enc] using hd.symm|succ j=>simp[enc] at hd
 obtain⟨rfl,rfl⟩:=hj;have h5:=World.var?_cell h1 h3 i;rw[<-Array.getElem?_toList,hc i y hy] at h5;have hm:=Zf2.1 hz y (List.mem_of_getElem? hy);have e1:i*csz .str+0=i:=by simp[csz]
 exact⟨_,by rw[e1];exact hw.cell _ _ _ h5 (λh=>h),.str y (Nat.le_of_ble_eq_true hm)⟩
theorem Bd6:∀p,p∈signsL->O1 signsL p.1=p.2:=by decide
theorem Bet(l:List (Int×Str)):∀n,(∀p,p∈l->p.1≠n)->O1 l n=[]:=by induction l with|nil=>intro n _;rfl|cons p l ih =>intro n h;obtain⟨k,s⟩:=p;have h1:k≠n:=h (k,s) (by simp);simp only[O1,Zd1 h1];exact ih n λp hp=>h p (by simp[hp])
theorem A3r{W:World}{l:List (String×DataW Unit)}(h:laidMet Tryz.prog l W)(hin:("exchequer/ast.signs",Rows.laid_exchequer_ast_signs)∈l):GlE (v0 elT Dh W) 0 (.map signsL):=by
 obtain⟨ps,hl,_⟩:=h;obtain⟨g',t',cs,fuel,p,hg',ht',hvar,hd⟩:=Afw hl _ hin;obtain rfl:=Option.some.inj ((show Tryz.prog.globalNamed "exchequer/ast.signs" = some 0 by kernel_rfl).symm.trans hg');obtain rfl:=Option.some.inj ((show(Tryz.prog.globals[0]?).map (·.type)=some 202 by kernel_rfl).symm.trans ht');obtain⟨b,es,clk,h1,h2,h3⟩:=Atl (l:=signsL) (t:=202) (k:=3) (e:=9) (by kernel_rfl) (by kernel_rfl) (by kernel_rfl) Bd6 (Bet signsL) hd;have hc:=World.var?_cell hg' hvar 0;have h1':cs = #[.map (some b)]:=by apply Array.ext';exact h1
 rw[h1'] at hc;have hc:W.cell? ⟨0,0,none⟩=some (.map (some b)):=hc;have hlt:b<W.heap.size:=(Zg2.1 h2).1;exact⟨b,es,clk,λw' hw=>⟨hw.cell _ 0 _ hc (λh=>h),by rw[hw.block b hlt (λ_ h=>h)];exact h2⟩,h3⟩
theorem Ben{W:World}(h:W.ShapedOpen Tryz.prog):GlE (v0 elT Dh W) 2 (.num .i64):=by obtain⟨m,hm⟩:=Go.Proofs.cell_of_shapedOpen_int (zero := #[.int .i64 0]) (t:=3) (g:=2) h (of_decide_eq_true (by kernel_rfl)) (by kernel_rfl) rfl (by kernel_rfl) (by kernel_rfl) Tryz.underlying3;exact⟨m,λw' hw=>hw.cell _ 0 _ hm (λh=>h)⟩
def Bga(l:List (String×DataW Unit)):Prop:=(l.all λx=>x.2.handleName?.isNone)=true
 /\ ("exchequer/lex.words",Rows.laid_exchequer_lex_words)∈l
 /\ ("exchequer/ast.signs",Rows.laid_exchequer_ast_signs)∈l
 /\ ("exchequer/ast.kinds",Rows.laid_exchequer_ast_kinds)∈l
 /\ True
theorem Bdt{W:World}{l:List (String×DataW Unit)}(hl:Bga l)(hL:laidMetH Tryz.prog l W)(hS:W.ShapedOpen Tryz.prog):GlR (v0 elT Dh W) glT:=by
 have hL':laidMet Tryz.prog l W:=by
  have hf:(l.filter λx=>x.2.handleName?.isSome)=[]:=List.filter_eq_nil_iff.2 λx hx=>by have:=Zf2.1 hl.1 x hx;rw[Option.isNone_iff_eq_none] at this;simp[this]
  unfold laidMetH at hL;rw[hf] at hL;exact hL
 replace hl:=hl.2;clear hL;have _:=hS;refine Bd5 λp hp =>?_;have hwords:GlE (v0 elT Dh W) 3 (.arr .str wordsL):=Alf (n:=36) (t:=303) (e:=9) hL' hl.1 (by kernel_rfl) (by kernel_rfl) (by kernel_rfl) (by kernel_rfl) (by kernel_rfl) (by kernel_rfl);replace hl:=hl.2;have hsigns:=A3r hL' hl.1;replace hl:=hl.2;have hkinds:GlE (v0 elT Dh W) 1 (.arr .str Ao5):=Alf (n:=6) (t:=251) (e:=9) hL' hl.1 (by kernel_rfl) (by kernel_rfl) (by kernel_rfl) (by kernel_rfl) (by kernel_rfl) (by kernel_rfl);replace hl:=hl.2;have hmax:=Ben hS;simp only[List.mem_cons,List.not_mem_nil,or_false] at hp
 repeat' (first|(rcases hp with rfl|hp)|subst hp)
 all_goals assumption
def Bjh:DataW Unit->Value
 |.lit (.int k n) =>.int k n
 |.lit (.string s) =>.string ⟨s.toArray⟩
 |_ =>.int .u8 0
def Xx:DataW Unit->List Value
 |.agg l=>l.map Bjh
 |_=>[]
def Bhd:DataW Unit->List Value
 |.agg l=>l.flatMap Xx
 |_=>[]
def Aia(vs:List Value):Obj->Obj
 |.cells _ t frozen =>.cells vs.toArray t frozen
 |o=>o
noncomputable def A8s(h:Array Obj):Array Obj :=
 let h:=h.modify 3 (Aia (Xx Rows.laid_exchequer_lex_words));let h:=h.modify 1 (Aia (Xx Rows.laid_exchequer_ast_kinds));let h:=(h.modify 4 (Aia (Xx Rows.laid_unicode_utf8_first))).modify 5 (Aia (Bhd Rows.laid_unicode_utf8_acceptRanges));let h:=(h.modify 0 (Aia [.map (some h.size)])).push (.map ((signsL.zip (List.range 11)).map λp=>(⟨.int .i64 p.1.1,.string ⟨p.1.2.toArray⟩,p.2⟩:MapEntry)).toArray 11)
 h
noncomputable def Ze(os:Os):World :={ World.holding Tryz.prog os ⟨#[], #[],[]⟩ with heap:=A8s (World.holding Tryz.prog os ⟨#[], #[],[]⟩).heap }
set_option maxRecDepth 100000 in
theorem A3s{H:Type}{R:Nat×Nat}{M:TypeId->DataW H->Prop}(hM:Msr Tryz.prog R M){enc:TypeId×Value->H}{f:FuncId}{fn:Func}{sa:List Sg}{F:FT sa [.bool]}{s:ChangeSpec}(hok:FnOk Tryz.prog elT glT f sa [.bool] F)(hF:∀x,BdL sa x->SmL R sa x->F x=some true)
  (hr:fn.resultTypes = #[4]) (hv:s.vars=[]) (hf:∀ds,ds.length=fn.params.toList.length->(s.fn H ds).results=[.lit (.bool true)]/\(s.fn H ds).args=ds/\(s.fn H ds).vars=[])
  (hsg:Akg (Aos ttL) rdL fn.params.toList sa=true) (hread:(fn.params.toList.all λt=>Tryz.prog.readableRec t&&Nat.blt t Tryz.prog.types.size)=true)
  {W:World}{base:Nat}{args:Array Value}{ds gs:List (DataW H)}{before:List MemPlace}(hval:∀(j:Nat) t v,fn.params[j]? = some t->args[j]? = some v->Value.okWide Tryz.prog W .any base t v)
  (hW:DataW.Whole enc Tryz.prog fn.params.toList s.vars false W args.toList ds gs before) (hgl:GlR (v0 elT Dh W) glT) (hsz:ds.length=fn.params.toList.length->∀(i:Nat) (t:TypeId) (d:DataW H),fn.params.toList[i]? = some t->ds[i]? = some d->M t d) :
  Calls Tryz.prog f args W λe W'=>∃v,e = .returned v/\s.post enc Tryz.prog fn false true false false W args v W':=by
 have hW':=hW;have hlt:=hW.lt;obtain⟨p,q,hA,hV,rfl,hfz,hnd⟩:=hW;rw[hv] at hV;obtain⟨rfl,rfl⟩:=trodVars_none hV;have hlen:=Ar0 hA;obtain⟨x,hx,hsm⟩:=Aso hM (λt=>A8d Ayn t) Bhz Bhw 0 hsg (λj t v h1 h2=>hval j t v (by simpa using h1) (by simpa using h2)) hA;have hcall:=hok.calls (hF x (Xz hx) (hsm (hsz hlen))) hgl hx;have e1:args.toList.toArray=args:=by simp
 rw[e1] at hcall;refine hcall.mono λen W' =>?_;rintro⟨rfl,hb⟩;refine⟨_,rfl,?_⟩;obtain⟨h1,h2,h3⟩:=hf ds hlen;have e2:ds++([]:List (DataW H))=ds:=by simp
 refine⟨ds,[],_,[],p,[],hW',?_,?_,?_,hb.frame _,λh=>by cases h⟩
 ·rw[e2,h1,hr];exact trodAll_cons_mk (shut_bool Tryz.underlying4 _) trodAll_mk0
 ·rw[e2,h2];refine Am0 Ber hb (λt ht =>?_) (λx hx=>hlt x (by simp[hx])) hA;have:=Zf2.1 hread t ht;simp only[Zb1] at this;exact⟨this.1,by simpa[Nat.blt_eq] using this.2⟩
 ·rw[e2,h3,hv];exact rfl
end Go.Proofs.YtbkinkalnmbpjaaGreatDoor
