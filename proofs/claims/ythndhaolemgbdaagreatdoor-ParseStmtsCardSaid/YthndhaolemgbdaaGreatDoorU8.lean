/- Texts of the proof,one behind the other: AxFr,Mu,Tl,Tm,Ye,Yg,Yh,Yi,Yj,Yk,Ge,Gf,Gg,Gh,Rq,Rr,Gi,Ub,AxFs,FrG. -/
import Derived.Test.YthndhaolemgbdaaGreatDoorU7
import Derived.ChangeArms
import Derived.WideShapes
import Derived.Carry
import Derived.ChangeShapes
import Derived.Lib.LaidTab
import Derived.SizedLaws
import Derived.Test.YthndhaolemgbdaaGreatDoorRows
import Derived.ProofKit
import Derived.ChangeMaps5
import Derived.ChangeAnyMap
import Derived.Test.YthndhaolemgbdaaGreatDoorCards
import Derived.Test.YthndhaolemgbdaaGreatDoorTie
import Derived.OpenShut
import Derived.Deep.DeepHandedRow
import Derived.Shelf.Vars
set_option linter.all false
namespace Go.Ax
open Go.RowKit Go.ChangeShapes
def shp:D->D->Bool
 |.int k _,.int k' _=>decide (k=k')
 |.bool _,.bool _=>true
 |.str _,.str _=>true
 |.sl c _ _,.sl c' _ _=>decide (c=c')
 |_,_=>false
def Kl:List D->List D->Bool
 |[],[]=>true
 |a::l,b::m=>shp a b&&Kl l m
 |_,_=>false
theorem Bso{a b c:D}(h:shp a b=true)(k:shp a c=true):shp b c=true:=by cases a<;>cases b<;>simp[shp] at h<;>cases c<;>simp[shp] at k<;>subst_vars<;>simp[shp]
theorem A6z:∀{a b c:List D},Kl a b=true->Kl a c=true->Kl b c=true
 |[],[],[],_,_=>rfl
 |x::a,y::b,z::c,h,k=>by simp only[Kl,Zb1] at h k ⊢;exact⟨Bso h.1 k.1,A6z h.2 k.2⟩
 |[],_::_,_,h,_=>by simp[Kl] at h
 |_::_,[],_,h,_=>by simp[Kl] at h
 |[],[],_::_,_,k=>by simp[Kl] at k
 |_::_,_::_,[],_,k=>by simp[Kl] at k
theorem Ahn:∀{a b c d:List D},Kl a b=true->Kl c d=true->Kl (a++c) (b++d)=true
 |[],[],_,_,_,k=>k
 |_::a,_::b,_,_,h,k=>by simp only[Kl,Zb1,Zb2] at h ⊢;exact⟨h.1,Ahn h.2 k⟩
 |[],_::_,_,_,h,_=>by simp[Kl] at h
 |_::_,[],_,_,h,_=>by simp[Kl] at h
theorem A7f{k:IntKind}{n:Int}{d:D}(h:shp (.int k n) d=true):∃m,d = .int k m:=by
 cases d<;>simp[shp] at h
 subst h;exact⟨_,rfl⟩
theorem Ble{b:Bool}{d:D}(h:shp (.bool b) d=true):∃m,d = .bool m:=by
 cases d<;>simp[shp] at h
 exact⟨_,rfl⟩
theorem A7d{s:Str}{d:D}(h:shp (.str s) d=true):∃m,d = .str m:=by
 cases d<;>simp[shp] at h
 exact⟨_,rfl⟩
theorem Bkn{c:Ck}{xs:List (El c)}{t:Tk}{d:D}(h:shp (.sl c xs t) d=true):∃ys u,d = .sl c ys u:=by
 cases d<;>simp[shp] at h
 subst h;exact⟨_,_,rfl⟩
theorem Vw{a:D}{l ds:List D}(h:Kl (a::l) ds=true):∃b m,ds=b::m/\shp a b=true/\Kl l m=true:=by cases ds with|nil=>simp[Kl] at h|cons b m =>simp only[Kl,Zb1] at h;exact⟨b,m,rfl,h.1,h.2⟩
theorem Abm{ds:List D}(h:Kl [] ds=true):ds=[]:=by cases ds with|nil=>rfl|cons b m=>simp[Kl] at h
theorem Aph{c:Ck}{z ds:List D}(h:(dec c z).isSome=true)(hs:Kl z ds=true):∃y,dec c ds=some y:=by
 obtain⟨y0,h⟩:=Option.isSome_iff_exists.1 h;unfold dec at h;split at h;all_goals first
  |(cases h;done)
  |skip
 all_goals
  clear h
  repeat (
   obtain⟨b,m,e,h1,hs'⟩:=Vw hs;clear hs;have hs:=hs';clear hs';subst e
   first
    |(obtain⟨_,e⟩:=A7f h1;subst e)
    |(obtain⟨_,e⟩:=Ble h1;subst e)
    |(obtain⟨_,e⟩:=A7d h1;subst e)
    |(obtain⟨_,_,e⟩:=Bkn h1;subst e))
  have e:=Abm hs;subst e;exact⟨_,rfl⟩
def R47:Nat:=140737488351232
def A53(R:Nat×Nat)(v:Val):Prop:=v.s.length<=R.1
inductive SmExpr (R:Nat×Nat):Xpr->Prop
 |mk (k:Int) (v:Val) (nm:Str) (l:List Xpr):A53 R v->nm.length<=R.1->l.length<=R.2->(∀e,e∈l->SmExpr R e)->SmExpr R (.mk k v nm l)
structure SmStm (R:Nat×Nat) (s:Stm):Prop where
 name:s.name.length<=R.1
 on:s.on.length<=R.1
 cols:s.cols.length<=R.2/\∀c,c∈s.cols->c.name.length<=R.1/\c.ref.length<=R.1
 names:s.names.length<=R.2/\∀x,x∈s.names->x.length<=R.1
 l:s.l.length<=R.2/\∀x,x∈s.l->SmExpr R x
 rows:s.rows.length<=R.2/\∀r,r∈s.rows->r.length<=R.2/\∀x,x∈r->SmExpr R x
 sets:s.sets.length<=R.2/\∀x,x∈s.sets->x.name.length<=R.1/\SmExpr R x.e
 whr:SmExpr R s.whr
 order:s.order.length<=R.2/\∀x,x∈s.order->x.length<=R.1
 desc:s.desc.length<=R.2
def Bp7(R:Nat×Nat)(x:Idx):Prop:=x.name.length<=R.1/\x.cols.length<=R.2/\∀s,s∈x.cols->s.length<=R.1
structure SmTbl (R:Nat×Nat) (t:Tbl):Prop where
 name:t.name.length<=R.1
 cols:t.cols.length<=R.2/\∀c,c∈t.cols->c.name.length<=R.1/\c.ref.length<=R.1
 key:t.key.length<=R.2/\∀x,x∈t.key->x.length<=R.1
 checks:t.checks.length<=R.2/\∀x,x∈t.checks->SmExpr R x
 idx:t.idx.length<=R.2/\∀x,x∈t.idx->Bp7 R x
def SmK(R:Nat×Nat):(c:Ck)->El c->Prop
 |.str,s=>s.length<=R.1
 |.val,v=>A53 R v
 |.tok,t=>t.s.length<=R.1
 |.col,c=>c.name.length<=R.1/\c.ref.length<=R.1
 |.expr,e=>SmExpr R e
 |.vals,l=>l.length<=R.2/\∀x,x∈l->A53 R x
 |.exprs,l=>l.length<=R.2/\∀x,x∈l->SmExpr R x
 |.strs,l=>l.length<=R.2/\∀x,x∈l->x.length<=R.1
 |.set,s=>s.name.length<=R.1/\SmExpr R s.e
 |.stmt,s=>SmStm R s
 |.idx,x=>Bp7 R x
 |.tbl,t=>SmTbl R t
 |_,_=>True
def SmD(R:Nat×Nat):D->Prop
 |.str l=>l.length<=R.1
 |.sl c xs _=>xs.length<=R.2/\∀x,x∈xs->SmK R c x
 |_=>True
def SmS(R:Nat×Nat):(s:Sg)->den s->Prop
 |.str,s=>s.length<=R.1
 |.sl c _,xs=>xs.length<=R.2/\∀x,x∈xs->SmK R c x
 |.sv c,x=>SmK R c x
 |_,_=>True
def SmL(R:Nat×Nat):(l:List Sg)->HV l->Prop
 |[],_=>True
 |[a],x=>SmS R a x
 |a::b::l,(x,y)=>SmS R a x/\SmL R (b::l) y
theorem Bhv{R:Nat×Nat}{c:Ck}{ds:List D}{y:El c}(h:dec c ds=some y)(hd:∀d,d∈ds->SmD R d):SmK R c y:=by
 unfold dec at h;split at h<;>simp only[Za1,reduceCtorEq] at h<;>subst h<;>simp only[List.mem_cons,List.not_mem_nil,or_false,forall_eq_or_imp,forall_eq,SmD] at hd<;>simp only[SmK,A53]<;>first
  |trivial
  |exact hd
  |exact hd.2.2
  |exact hd.2.2.1
  |exact⟨hd.1,hd.2.2.2.2⟩
  |exact .mk _ _ _ _ hd.2.2.2.1 hd.2.2.2.2.1 hd.2.2.2.2.2.1 hd.2.2.2.2.2.2
  |exact⟨hd.1,.mk _ _ _ _ hd.2.2.2.2.1 hd.2.2.2.2.2.1 hd.2.2.2.2.2.2.1 hd.2.2.2.2.2.2.2⟩
  |exact⟨hd.1,hd.2.1,hd.2.2.1,hd.2.2.2.1,hd.2.2.2.2⟩
  |(obtain⟨_,h1,h2,h3,h4,h5,h6,h7,_,_,_,_,w1,w2,w3,h8,h9,_⟩:=hd
    exact⟨h1,h2,h3,h4,h5,h6,h7,.mk _ _ _ _ w1 w2 w3.1 w3.2,h8,h9.1⟩)
theorem Xu{H:Type}{P:Program}{e:TypeId}:∀{l:List (DataW H)}{d:DataW H},d∈l->∀n∈d.weights P e,n∈DataW.weightsAll P e l
 |[],_,h,_,_=>by cases h
 |x::l,d,h,n,hn=>by
  simp only[DataW.weightsAll,List.mem_append];rcases List.mem_cons.1 h with rfl|h
  ·exact .inl hn
  ·exact .inr (Xu h n hn)
structure Msr {H:Type}(P:Program) (R:Nat×Nat) (M:TypeId->DataW H->Prop):Prop where
 str:∀(t:TypeId) (s:List UInt8),M t (.lit (.string s))->s.length<=R.1
 sl:∀(t e:TypeId) (l r:List (DataW H)),P.underlying t=some (.slice e)->1<=P.bytesOf e->M t (.slice l r)->l.length<=9223372036854775807->l.length<=R.2/\∀d,d∈l->M e d
 agg:∀(t:TypeId) (fds:Array Field) (l:List (DataW H)) (i:Nat) (fd:Field) (d:DataW H),P.underlying t=some (.struct fds)->M t (.agg l)->fds[i]? = some fd->l[i]? = some d->M fd.type d
theorem Ayx{H:Type}(P:Program):Msr (H:=H) P (R47,R47) λt d=>∀n,n∈d.weights P t->n<=R47 where
 str:=λt s h=>h _ (by simp[DataW.weights])
 sl:=λt e l r hu hz h _=>⟨by
  have h1:=h ((l.length+r.length)*P.bytesOf e) (by simp only[DataW.weights,hu,List.mem_cons,true_or]);have h2:(l.length+r.length)*1<=(l.length+r.length)*P.bytesOf e:=Nat.mul_le_mul_left _ hz;omega,λd hd n hn=>h n (by
  simp only[DataW.weights,hu,List.mem_cons,List.mem_append];exact .inr (.inl (Xu hd n hn)))⟩
 agg:=λt fds l i fd d hu h hf hd n hn=>h n (by simp only[DataW.weights,hu];exact DataW.weights_mem_each (j:=i) (t:=fd.type) (d:=d) (by simp[hf]) hd n hn)
def zc(t:Ty):List D:=match t.zero with|some z=>cells z|none=>[]
def Akl(tt:Nat->Ty)(rd:List Nat):Nat->List (Nat×Nat)->List D->Bool
 |_,[],z=>z.isEmpty
 |o,(o',u)::fs,z=>Nat.beq o' o&&rd.contains u&&Nat.ble (zc (tt u)).length z.length&&Kl (zc (tt u)) (z.take (zc (tt u)).length)&&Akl tt rd (o+(zc (tt u)).length) fs (z.drop (zc (tt u)).length)
def Bih(el:Ck->TypeId)(tt:Nat->Ty)(rd:List Nat)(t:Nat):Bool:=match tt t with|.int _|.bool|.str=>true|.sl c=>rd.contains (el c)&&(dec c (zc (tt (el c)))).isSome|.st _ fs z=>Akl tt rd 0 fs z|_=>false
def rdB(el:Ck->TypeId)(tt:Nat->Ty)(rd:List Nat):Bool:=rd.all λt=>Bih el tt rd t&&Nat.beq (zc (tt t)).length (tt t).n
def szB(P:Program)(el:Ck->TypeId)(tt:Nat->Ty)(rd:List Nat):Bool:=rd.all λt=>match tt t with|.sl c=>Nat.ble 1 (P.bytesOf (el c))|_=>true
theorem Ag4{α:Type}{p:Nat->α->Prop}:∀(n:Nat),(∀i,i<n->∃y,p i y)->∃ys:List α,ys.length=n/\∀i y,ys[i]? = some y->p i y
 |0,_=>⟨[],rfl,by simp⟩
 |n+1,h=>by
  obtain⟨ys,h1,h2⟩:=Ag4 n (λi hi=>h i (by omega));obtain⟨y,hy⟩:=h n (by omega);refine⟨ys++[y],by simp[h1],λi z hz =>?_⟩;rcases Nat.lt_trichotomy i n with hi|rfl|hi
  ·rw[List.getElem?_append_left (by omega)] at hz;exact h2 i z hz
  ·rw[List.getElem?_append_right (by omega),h1] at hz;simp at hz;subst hz;exact hy
  ·rw[List.getElem?_eq_none (by simp;omega)] at hz;cases hz
section
variable {H:Type}{enc':TypeId×Value->H}{P:Program}{el:Ck->TypeId}{tt:Nat->Ty}{rd:List Nat}{w:World}{sp:Nat->Bool}{held:Bool}
theorem Zp{t:TypeId}{n:Nat}(h:Sx.tySz P t=some n):P.cellsOf t=n:=by unfold Sx.tySz at h;simp[Program.cellsOf,h]
theorem Aoa{a:Addr}{n:Nat}{vs:List Value}(h:w.cells? 0 a n=some vs):vs.length=n/\∀j u,vs[j]? = some u->w.cell? (a.add j)=some u:=by
 unfold World.cells? at h;simp only[Nat.zero_le,if_true] at h;refine⟨by simpa using Lib.mapM_length h,λj u hj =>?_⟩;have hlt:j<n:=by have:=Lib.mapM_length h;have h2:=(Zi2.1 hj).1;simp at this;omega
 obtain⟨u',hu,hf⟩:=Lib.mapM_at h j j (by simp[hlt]);rw[hj] at hu;simp only[Za1] at hu;subst hu;exact hf
theorem A3q{a:Addr}{u:Value}(h:w.cell? a=some u):a.spot=none:=by
 unfold World.cell? at h;split at h
 ·split at h
  ·cases h
  ·rename_i hs;cases hq:a.spot with|none=>rfl|some q=>rw[hq] at hs;simp at hs
 ·cases h
theorem Aui{R:Nat×Nat}{M:TypeId->DataW H->Prop}(hM:Msr P R M)(hT:∀t,Dd P el tt t=true)(hrd:rdB el tt rd=true)(hsb:szB P el tt rd=true):∀(fuel:Nat) (t:TypeId) (cs:List Value) (x:DataW H×List MemPlace),rd.contains t=true->DataW.trod enc' P w 0 sp held fuel t cs=some x->∃ds,Kl (zc (tt t)) ds=true/\Reps (v0 el F2 w) ds cs/\(M t x.1->∀d,d∈ds->SmD R d)
 |0,t,cs,x,_,h=>by simp[DataW.trod] at h
 |fuel+1,t,cs,x,hc,h=>by
  have hloc:=Zg2.1 hrd t (by simpa using hc);simp only[Zb1] at hloc;obtain⟨hloc,hzl⟩:=hloc;have hzl:=Zl1 hzl;have hszB:=Zg2.1 hsb t (by simpa using hc);unfold Bih at hloc;split at hloc
  ·rename_i k hty;have hu:=Sx.tyI_spec (Amh (hT t) hty);obtain⟨n,rfl,_,hw⟩:=DataW.trod_int hu h;refine⟨[.int k n],by(rw[hty];show(decide (k=k)&&true)=true;simp),?_,λ_ d hd=>by simp only[List.mem_singleton] at hd;subst hd;trivial⟩;simp only[Reps,Rep];exact⟨_,_,rfl,⟨rfl,hw⟩,rfl⟩
  ·rename_i hty;have hu:=Sx.tyB_spec (Afz (hT t) hty);obtain⟨b,rfl,_⟩:=DataW.trod_bool hu h;refine⟨[.bool b],by rw[hty];rfl,?_,λ_ d hd=>by simp only[List.mem_singleton] at hd;subst hd;trivial⟩;simp only[Reps,Rep];exact⟨_,_,rfl,rfl,rfl⟩
  ·rename_i hty;have hu:=Sx.tyS_spec (Iy (hT t) hty);obtain⟨s,rfl,rfl,hs⟩:=DataW.trod_string hu h;refine⟨[.str s.data.toList],by rw[hty];rfl,?_,λhwt d hd=>by simp only[List.mem_singleton] at hd;subst hd;exact hM.str _ _ hwt⟩
   simp only[Reps,Rep];exact⟨_,_,rfl,⟨(by rw[Array.toArray_toList]),(by rw[Array.length_toList];exact hs)⟩,rfl⟩
  ·rename_i c hty;simp only[Zb1] at hloc;obtain⟨hel,hdec⟩:=hloc;have hbz : 1<=P.bytesOf (el c):=by rw[hty] at hszB;exact Nat.le_of_ble_eq_true hszB
   obtain⟨by_,hE,_,_⟩:=Dx (hT t) hty;have hu:=hE.und;obtain⟨_,i0,z,hi0,hz,hsz,_⟩:=hE;have hco:P.cellsOf (el c)=csz c:=Zp (by simp[Sx.tySz,hi0,hsz]);rcases DataW.trod_slice hu h with ⟨rfl,_⟩|⟨a,len,cap,elems,rest,n,hf,rfl,rfl,_,hle,hmax,hlen,hel2,_⟩
   ·refine⟨[.sl c [] .no],by(rw[hty];show(decide (c=c)&&true)=true;simp),?_,λ_ d hd=>by simp only[List.mem_singleton] at hd;subst hd;exact⟨Nat.zero_le _,λx hx=>by cases hx⟩⟩
    simp only[Reps,Rep];exact⟨_,_,rfl,⟨λ_ _ =>.nil _ _ _ _,trivial⟩,rfl⟩
   ·have hf:fuel=n:=by omega
    subst hf;have each:∀i,i<len->∃y:El c,(∃vs:List Value,w.cells? 0 (a.add (i*csz c)) (csz c)=some vs/\ElR (v0 el F2 w) c y vs)/\(M t (DataW.slice (elems.map (·.1)) (rest.map (·.1)))->SmK R c y):=λi hi=>by have h1:=hel2 i hi;have hsome:∃e,elems[i]? = some e:=⟨_,Zo1 (by omega)⟩;obtain⟨e,he⟩:=hsome;rw[he] at h1;obtain⟨vs,hv,ht⟩:=Option.bind_eq_some_iff.1 h1;rw[hco] at hv;obtain⟨ds,hs,hr,hsm⟩:=Aui hM hT hrd hsb fuel (el c) vs e hel ht;obtain⟨y,hy⟩:=Aph hdec hs;exact⟨y,⟨vs,hv,Ut hy hr⟩,λhwt=>Bhv hy (hsm ((hM.sl _ _ _ _ hu hbz hwt (by have:maxLen=9223372036854775807:=rfl;simp only[List.length_map];omega)).2 e.1 (List.mem_map.2 ⟨e,List.mem_of_getElem? he,rfl⟩)))⟩
    obtain⟨ys,hyl,hys'⟩:=Ag4 len each;have hys:=λi y hy=>(hys' i y hy).1;refine⟨[.sl c ys .no],by(rw[hty];show(decide (c=c)&&true)=true;simp),?_,λhwt d hd=>by
     simp only[List.mem_singleton] at hd;subst hd;refine⟨?_,λy hy =>?_⟩
     ·have:=(hM.sl _ _ _ _ hu hbz hwt (by have:maxLen=9223372036854775807:=rfl;simp only[List.length_map];omega)).1;simp only[List.length_map] at this;omega
     ·obtain⟨i,hi,rfl⟩:=List.getElem_of_mem hy;exact(hys' i _ (Zo1 hi)).2 hwt⟩
    simp only[Reps,Rep];refine⟨_,_,rfl,⟨Ot hyl.symm ?_,trivial⟩,rfl⟩;by_cases h0:ys=[]
    ·exact .inl h0
    ·right;have hsn:a.spot=none:=by have hlt : 0<ys.length:=List.length_pos_iff.2 h0;obtain⟨vs,hv,hE⟩:=hys 0 _ (Zo1 hlt);obtain⟨h1,h2⟩:=Aoa hv;have hp:=Aur c;have:=h2 0 _ (Zo1 (by omega));simp only[Nat.zero_mul,Addr.add,if_true] at this;exact A3q this
     obtain⟨b,o,s⟩:=a;simp only at hsn;subst hsn;refine⟨b,o,rfl,⟨by omega,hmax⟩,λi y hy w' hw j d hd =>?_⟩;obtain⟨vs,hv,hE⟩:=hys i y hy;obtain⟨_,h2⟩:=Aoa hv;obtain⟨u,hu',hf⟩:=hE.2 j d hd;have hcell:=h2 j u hu';rw[Sx.add_mk,Sx.add_mk] at hcell;exact⟨u,hw.cell b _ u hcell (λh=>h),hf w' hw⟩
  ·rename_i cc fs z hty;have hbase:=D5 (hT t) (by rw[hty];simp);have hsz:P.cellsOf t=z.length:=by have:=Zp hbase.2.2;rw[this,hty];rfl
   have hok:=hT t;unfold Dd at hok;rw[hty] at hok;simp only[Zb1] at hok;have hfl:=hok.2;split at hfl
   ·rename_i fds hu;simp only[Zb1] at hfl;have hfl:=hfl.1;obtain⟨xs,n,hf,rfl,hcl,hxl,hfx⟩:=DataW.trod_struct hu h;have hf:fuel=n:=by omega
    subst hf;have key:∀(l:List (Nat×Nat)) (i o:Nat) (z':List D),fs.drop i=l->Akl tt rd o l z' = true->o+z'.length=cs.length->∃ds,Kl z' ds=true/\Reps (v0 el F2 w) ds (cs.drop o)/\(M t (DataW.agg (xs.map (·.1)))->∀d,d∈ds->SmD R d):=by
     intro l;induction l with
     |nil =>intro i o z' _ hct ho;simp only[Akl,List.isEmpty_iff] at hct;subst hct;refine⟨[],rfl,?_,λ_ d hd=>by cases hd⟩;rw[Zk1 (by simp at ho;omega)];simp[Reps]
     |cons q l ih =>
      intro i o z' hd hct ho;obtain⟨o',u⟩:=q;simp only[Akl,Zb1] at hct;obtain⟨⟨⟨⟨ho',hcu⟩,hle⟩,hsh⟩,hct⟩:=hct;have ho':=Zl1 ho';subst ho';have hle:=Nat.le_of_ble_eq_true hle;have hget:fs[i]? = some (o',u):=by have:=congrArg (·[0]?) hd;simpa[List.getElem?_drop] using this
      obtain⟨fd,g1,g2,g3,_⟩:=Afs hfl hget;have g1':fds[i]? = some fd:=by simpa using g1
      have h1:=hfx i fd g1';rw[g2,g3] at h1;have hxi:∃e,xs[i]? = some e:=⟨_,Zo1 (by have:=(Zh2.1 g1').1;omega)⟩
      obtain⟨e,he⟩:=hxi;rw[he] at h1;have hlu:=Zg2.1 hrd u (by simpa using hcu);simp only[Zb1] at hlu;have hnu:=Zl1 hlu.2;have hneu:tt u ≠ .no:=by intro e;have:=hlu.1;unfold Bih at this;rw[e] at this;cases this
      have hcou:P.cellsOf u=(zc (tt u)).length:=by rw[Zp (D5 (hT u) hneu).2.2,hnu]
      rw[hcou] at h1;obtain⟨ds1,s1,r1,m1⟩:=Aui hM hT hrd hsb fuel u _ e hcu h1;obtain⟨ds2,s2,r2,m2⟩:=ih (i+1) (o'+(zc (tt u)).length) _ (by rw[<-List.drop_drop,hd];rfl) hct (by simp;omega);refine⟨ds1++ds2,?_,?_,λhwt d hd=>by
       rcases List.mem_append.1 hd with hd|hd
       ·refine m1 ?_ d hd;rw[<-g2];exact hM.agg _ _ _ i fd e.1 hu hwt g1' (by rw[List.getElem?_map,he];rfl)
       ·exact m2 hwt d hd⟩
      ·rw[<-List.take_append_drop (zc (tt u)).length z'];exact Ahn (A6z hsh s1) s2
      ·have:=r1.append r2;rwa[<-List.drop_drop,List.take_append_drop] at this
    obtain⟨ds,h1,h2,h3⟩:=key fs 0 0 z rfl hloc (by rw[hcl,hsz];omega);exact⟨ds,by simpa[hty,zc,Ty.zero,cells] using h1,by simpa using h2,h3⟩
   ·cases hfl
  ·cases hloc
def Bn7(tt:Nat->Ty)(rd:List Nat)(t:Nat)(s:Sg):Bool:=rd.contains t&&match tt t,s with|.int k,.int k'=>decide (k=k')|.bool,.bool=>true|.str,.str=>true|.sl c,.sl c' false=>decide (c=c')|.st (some c) _ _,.sv c'=>decide (c=c')&&agg? c&&(dec c (zc (tt t))).isSome|_,_=>false
theorem Bo6{R:Nat×Nat}{M:TypeId->DataW H->Prop}(hM:Msr P R M)(hT:∀t,Dd P el tt t=true)(hrd:rdB el tt rd=true)(hsb:szB P el tt rd=true){t:TypeId}{s:Sg}(hs:Bn7 tt rd t s=true){r:Reach}{b0:Nat}{v:Value}{d:DataW H}{ps:List MemPlace}(hval:Value.okWide P w r b0 t v)(h:DataW.Trod enc' P w 0 sp held t v d ps)(i:Nat):∃y:den s,Rep (v0 el F2 w) (Df i s y) v/\(M t d->SmS R s y):=by
 obtain⟨fuel,h⟩:=h;simp only[Bn7,Zb1] at hs;obtain⟨hc,hs⟩:=hs;obtain⟨ds,hsh,hr,hsm⟩:=Aui hM hT hrd hsb fuel t _ _ hc h;have hsm:M t d->∀d,d∈ds->SmD R d:=hsm;split at hs
 ·rename_i k k' hty;simp only[Zg1] at hs;subst hs;obtain⟨n,rfl⟩:=WideShapes.okWide_int (Sx.tyI_spec (Amh (hT t) hty)) hval;simp only[hty,zc,Ty.zero,cells] at hsh;obtain⟨b,m,rfl,h1,h2⟩:=Vw hsh;obtain rfl:=Abm h2;obtain⟨n',rfl⟩:=A7f h1;simp only[Value.cells,Reps] at hr;obtain⟨u,us,e,hr,_⟩:=hr;simp only[Ze2] at e;obtain⟨rfl,_⟩:=e;exact⟨n',hr,λ_=>trivial⟩
 ·rename_i hty;obtain⟨n,rfl⟩:=WideShapes.okWide_bool (Sx.tyB_spec (Afz (hT t) hty)) hval;exact⟨n,by simp only[Df,Rep],λ_=>trivial⟩
 ·rename_i hty;obtain⟨n,rfl⟩:=WideShapes.okWide_string (Sx.tyS_spec (Iy (hT t) hty)) hval;simp only[hty,zc,Ty.zero,cells] at hsh;obtain⟨b,m,rfl,h1,h2⟩:=Vw hsh;obtain rfl:=Abm h2;obtain⟨n',rfl⟩:=A7d h1;simp only[Value.cells,Reps] at hr;obtain⟨u,us,e,hr,_⟩:=hr;simp only[Ze2] at e;obtain⟨rfl,_⟩:=e;exact⟨n',hr,λhwt=>hsm hwt (.str n') (by simp)⟩
 ·rename_i c c' hty;simp only[Zg1] at hs;subst hs;obtain⟨by_,hE,_,_⟩:=Dx (hT t) hty;have hv:v.cells.toList=[v]:=by have hu:=hE.und;simp only[Value.okWide,hu,Cell.okWide] at hval;cases v<;>first|rfl|(simp[Cell.ok,hu] at hval;done)|(exfalso;simp_all [Cell.ok])
  rw[hv] at hr;simp only[hty,zc,Ty.zero,cells] at hsh;obtain⟨b,m,rfl,h1,h2⟩:=Vw hsh;obtain rfl:=Abm h2;obtain⟨ys,u,rfl⟩:=Bkn h1;simp only[Reps] at hr;obtain⟨u',us,e,hr,_⟩:=hr;simp only[Ze2] at e;obtain⟨rfl,_⟩:=e;refine⟨ys,?_,λhwt=>hsm hwt (.sl c ys u) (by simp)⟩;simp only[Df,Rep] at hr ⊢;exact⟨hr.1,trivial⟩
 ·rename_i c fs z c' hty;simp only[Zb1,Zg1] at hs;obtain⟨⟨rfl,ha⟩,hdec⟩:=hs;obtain⟨y,hy⟩:=Aph hdec hsh;have hE:=Ut hy hr;have hv:∃cs,v = .agg cs:=by
   have hok:=hT t;unfold Dd at hok;rw[hty] at hok;simp only[Zb1] at hok;have hfl:=hok.2;split at hfl
   ·rename_i fds hu;simp only[Value.okWide,hu] at hval;obtain⟨cs,h1,_⟩:=hval;exact⟨cs,h1⟩
   ·cases hfl
  obtain⟨cs,rfl⟩:=hv;refine⟨y,?_,λhwt=>Bhv hy (hsm hwt)⟩;simp only[Df,Rep];exact⟨ha,cs.toList,by simp,by simpa[Value.cells] using hE.1,by simpa[Value.cells] using hE.2⟩
 ·cases hs
def Ard(tt:Nat->Ty)(rd:List Nat):List TypeId->List Sg->Bool
 |[],[]=>true
 |t::ts,s::ss=>Bn7 tt rd t s&&Ard tt rd ts ss
 |_,_=>false
theorem A1b{R:Nat×Nat}{M:TypeId->DataW H->Prop}(hM:Msr P R M)(hT:∀t,Dd P el tt t=true)(hrd:rdB el tt rd=true)(hsb:szB P el tt rd=true){r:Reach}{b0:Nat}:∀{ts:List TypeId}{sa:List Sg}{vs:List Value}{ds:List (DataW H)}{ps:List MemPlace}(i:Nat),Ard tt rd ts sa=true->(∀(j:Nat) t v,ts[j]? = some t->vs[j]? = some v->Value.okWide P w r b0 t v)->DataW.TrodAll enc' P w 0 sp held ts vs ds ps->∃x:HV sa,Reps (v0 el F2 w) (Cp i sa x) vs/\((∀(i:Nat) (t:TypeId) (d:DataW H),ts[i]? = some t->ds[i]? = some d->M t d)->SmL R sa x)
 |[],[],vs,ds,ps,i,_,_,h=>by cases vs with|nil=>exact⟨(),by simp[Cp,Reps],λ_=>trivial⟩|cons v vs=>cases ds<;>simp[DataW.TrodAll] at h
 |t::ts,[],_,_,_,_,hs,_,_=>by simp[Ard] at hs
 |[],s::ss,_,_,_,_,hs,_,_=>by simp[Ard] at hs
 |t::ts,s::ss,vs,ds,ps,i,hs,hval,h=>by simp only[Ard,Zb1] at hs;obtain⟨v,vs',d,ds',p,q,rfl,rfl,rfl,hd,hrest⟩:=trodAll_cons h;obtain⟨y,hy,hsy⟩:=Bo6 hM hT hrd hsb hs.1 (hval 0 t v rfl rfl) hd i;obtain⟨z,hz,hsz⟩:=A1b hM hT hrd hsb (i+1) hs.2 (λj t' v' h1 h2=>hval (j+1) t' v' (by simpa using h1) (by simpa using h2)) hrest;cases ss with|nil =>refine⟨y,?_,λhwt=>hsy (hwt 0 t d rfl rfl)⟩;simp only[Cp,Reps] at hz ⊢;exact⟨v,vs',rfl,hy,hz⟩|cons s' ss =>refine⟨(y,z),?_,λhwt=>⟨hsy (hwt 0 t d rfl rfl),hsz λj t' d' h1 h2=>hwt (j+1) t' d' (by simpa using h1) (by simpa using h2)⟩⟩;simp only[Cp,Reps];exact⟨v,vs',rfl,hy,hz⟩
theorem Art(hl:laidOutB P=true){W W':World}(hb:Below W.heap.size W W'):∀{ts:List TypeId}{vs:List Value}{ds:List (DataW H)}{ps:List MemPlace},(∀t,t∈ts->P.readableRec t=true/\t<P.types.size)->(∀x∈ps,x.block<W.heap.size)->DataW.TrodAll enc' P W 0 (λ_=>true) true ts vs ds ps->DataW.TrodAll enc' P W' 0 (λb=>decide (b<W.heap.size)) true ts vs ds ps
 |[],vs,ds,ps,_,_,h=>by
  cases vs<;>cases ds<;>simp[DataW.TrodAll] at h ⊢
  exact h
 |t::ts,vs,ds,ps,ht,hlt,h=>by obtain⟨v,vs',d,ds',p,q,rfl,rfl,rfl,hd,hrest⟩:=trodAll_cons h;obtain⟨h1,h2⟩:=ht t (by simp);exact⟨p,q,Below.trod hl h1 h2 hd hb (λx hx=>hlt x (by simp[hx])),Art hl hb (λt' h'=>ht t' (by simp[h'])) (λx hx=>hlt x (by simp[hx])) hrest,rfl⟩
end
end Go.Ax
namespace Go.Proofs.YthndhaolemgbdaaGreatDoor
open Go.Ax
def bare(l:List Xpr):Xpr :=.mk 0 ⟨0,0,[]⟩ [] l
def n0(s:Stm)(most:Int):Int:=wr .i64 (wr .i64 (wr .i64 (wr .i64 (wr .i64 (wr .i64 ((s.cols.length:Int)+(s.names.length:Int))+(s.order.length:Int))+(s.desc.length:Int))+wr .i64 (Int.tdiv (wr .i64 ((s.name.length:Int)+(s.on.length:Int))) 30))+Bg9 s.whr most)+Bg9 (bare s.l) most)
structure Few (s:Stm):Prop where
 cols:s.cols.length<=3100
 names:s.names.length<=3100
 order:s.order.length<=3100
 desc:s.desc.length<=3100
 name:s.name.length+s.on.length<=20000
 whr:Bf s.whr<=6200
 l:esizes s.l<=6200
 rows:s.rows.length<=3100/\∀r,r∈s.rows->esizes r<=6200
 sets:s.sets.length<=3100/\∀x,x∈s.sets->Bf x.e<=6200
theorem Vl(k:Int)(v:Val)(s:Str)(x:Xpr):Bf (.mk k v s [x])=2+Bf x:=by simp only[Bf,esizes];omega
theorem Bcy(k:Int)(v:Val)(s:Str)(x y:Xpr):Bf (.mk k v s [x,y])=3+(Bf x+Bf y):=by simp only[Bf,esizes];omega
theorem Bdd{s:Stm}(hf:Few s):N8 s=some (cond (E4 s) 0 2):=if_pos ⟨by have:=hf.cols;omega,by have:=hf.sets.1;omega⟩
open Lp (tokS Sc clsF)
theorem A9s{s:Str}{ts:TL}(hl:s.length<=20000)(h:Sc s 0 ts):Hl s=(ts,0,0):=by simp only[Hl,A1p];rw[if_neg (by omega),Lp.allF_of_sc h]
theorem A1s{m:Str}{p:Int}{ts:TL}(h:Sc m p ts):ts.length<=m.length:=by induction h with|nil=>exact Zn1 _|blank _ _ ih=>simp only[Zf1];omega|tok _ h2 _ ih =>have:=Lp.tokS_len h2;simp only[Zf1,Za2] at ih ⊢;omega
theorem Akq(s:Str):(∃ts,s.length<=20000/\Sc s 0 ts/\Hl s=(ts,0,0))\/(s.length<=20000/\∃j,Lp.Er s 0 j/\Hl s=([],j,11))\/(20000<s.length/\Hl s=([],0,3)):=by
 by_cases h : 20000<s.length
 ·refine .inr (.inr ⟨h,?_⟩);simp only[Hl,A1p];rw[if_pos (by omega)]
 ·have hs:=Lp.allF_sc s;simp only[Hl,A1p];rw[if_neg (by omega)];cases hq:Lp.allF s with|ok ts =>rw[hq] at hs;exact .inl ⟨ts,by omega,hs,rfl⟩|error j =>rw[hq] at hs;exact .inr (.inl ⟨by omega,j,hs,rfl⟩)
theorem Aww(s:Str):(Hl s).1.length<1000000000:=by
 rcases Akq s with ⟨ts,h0,h1,h2⟩|⟨_,j,_,h2⟩|⟨_,h2⟩<;>rw[h2]
 ·have:=A1s h1;simp only;omega
 ·simp
 ·simp
theorem Bmp{s:Str}{ts:TL}{x:Stm}(hl:s.length<=20000)(h:Sc s 0 ts)(ho:L4 ts = .ok x)(hf:Few x):X3 s=some (cond (E4 x) (x,0,0) (zS,0,2)):=by rw[Aki s (Aww s)];simp only[xS,A9s hl h,if_true,ho,Bdd hf];cases E4 x<;>rfl
theorem Bpp{s:Str}{ts q:TL}(hl:s.length<=20000)(h:Sc s 0 ts)(ho:L4 ts = .error q):X3 s=some (zS,G6 s.length q,11):=by rw[Aki s (Aww s)];simp only[xS,A9s hl h,if_true,ho]
end Go.Proofs.YthndhaolemgbdaaGreatDoor
namespace Go.Proofs.YthndhaolemgbdaaGreatDoor
open Go.Ax
open Lp (tokS Sc clsF tw isWd qS unGo rnumGo rnumF)
def tW(t:Ax.Tok):Nat:=if t.kind=4 then(quo t.s).length+2 else if t.kind=5 then 2*t.s.length+3 else t.s.length
def TkB(t:Ax.Tok):Prop:=1<=tW t/\t.s.length<=20000/\0<=t.n/\t.n<=9223372036854775807/\(t.kind=2->t.s.length<=30)/\(t.kind=3->(Ayq t.n.natAbs).length<=t.s.length)/\(t.kind=6->t.s.length<=2)
theorem A9d:∀(k n:Nat),n<10 ^ k->(S0 n).length<=k
 |0,n,h=>by
  have:n=0:=by omega
  rw[this,Lj];simp
 |k+1,n,h=>by
  by_cases h0:n=0
  ·rw[h0,Lj];simp
  ·rw[Aby h0];have:=A9d k (n / 10) (by rw[Nat.pow_succ] at h;omega);simp only[Zf1];omega
theorem Bq8(l:List Int):(txt l).length=l.length:=by simp[txt]
theorem Bgx{k n:Nat}(h:n<10 ^ k)(hk : 1<=k):(Ayq n).length<=k:=by
 unfold Ayq;split
 ·exact hk
 ·rw[Bq8];exact A9d k n h
theorem A62:∀(l:Str) (m:Int) (j:Nat),(m.toNat<10 ^ j)->0<=m->∀n,rnumGo l m=some n->0<=n/\n.toNat<10 ^ (j+l.length)
 |[],m,j,h,h0,n,hn=>by simp only[rnumGo,Za1] at hn;subst hn;exact⟨h0,by simpa using h⟩
 |c::r,m,j,h,h0,n,hn=>by
  simp only[rnumGo] at hn;split at hn
  ·cases hn
  ·rename_i hc;have hc3:clsF (c.toNat:Int)=3:=Classical.not_not.1 λq=>hc (.inl q);have hd:=Lp.cls3 hc3;have:=A62 r (10*m+((c.toNat:Int)-48)) (j+1) (by rw[Nat.pow_succ];omega) (by omega) n hn;rw[show j+1+r.length=j+(c::r).length by simp only[Zf1];omega] at this;exact this
theorem A8x:∀(l:Str) (m n:Int),0<=m/\m<=9223372036854775807->rnumGo l m=some n->n<=9223372036854775807
 |[],m,n,h,hn=>by simp only[rnumGo,Za1] at hn;omega
 |c::r,m,n,h,hn=>by
  simp only[rnumGo] at hn;split at hn
  ·cases hn
  ·rename_i hc;have hc3:clsF (c.toNat:Int)=3:=Classical.not_not.1 λq=>hc (.inl q);have hd:=Lp.cls3 hc3;exact A8x r _ n (by omega) hn
theorem Q0:∀(f:Nat) (l acc s:Str) (n:Nat),l.length<=f->qS l acc=some (s,n)->∃s',s=acc++s'/\(quo s').length+1=n
 |_,[],_,_,_,_,h=>by simp[qS] at h
 |_,[c],acc,s,n,_,h=>by
  simp only[qS] at h;split at h
  ·cases h;exact⟨[],by simp,rfl⟩
  ·cases h
 |0,_::_::_,_,_,_,h,_=>by simp at h
 |f+1,c::d::r,acc,s,n,hf,h=>by
  simp only[Zf1] at hf;simp only[qS] at h;split at h
  ·split at h
   ·obtain⟨x,hx,he⟩:=Option.map_eq_some_iff.1 h;cases he;obtain⟨s',h1,h2⟩:=Q0 f r _ x.1 x.2 (by omega) hx;exact⟨39::s',by rw[h1];simp,by simp only[quo,if_true,Zf1];omega⟩
   ·cases h;exact⟨[],by simp,rfl⟩
  ·rename_i hc;obtain⟨x,hx,he⟩:=Option.map_eq_some_iff.1 h;cases he;obtain⟨s',h1,h2⟩:=Q0 f (d::r) _ x.1 x.2 (by simp only[Zf1];omega) hx;exact⟨c::s',by rw[h1];simp,by simp only[quo,if_neg hc,Zf1];omega⟩
theorem Bgd:∀(f:Nat) (l acc b:Str),l.length<=f->unGo l acc=some b->2*b.length=2*acc.length+l.length
 |_,[],acc,b,_,h=>by simp only[unGo,Za1] at h;subst h;simp
 |_,[_],_,_,_,h=>by simp[unGo] at h
 |0,_::_::_,_,_,h,_=>by simp at h
 |f+1,x::y::r,acc,b,hf,h=>by
  simp only[Zf1] at hf;simp only[unGo] at h;split at h
  ·have:=Bgd f r _ b (by omega) h;simp only[Zh1,Zf1,Zi1] at this ⊢;omega
  ·cases h
theorem Bvh{m:Str}(h : 1<=clsF (Sx.byt m 0)/\clsF (Sx.byt m 0)<=4) : 1<=(tw isWd m).length:=by
 cases m with
 |nil =>
  have:clsF (Sx.byt [] 0)=0:=by decide +kernel
  omega
 |cons c r =>
  have hc:isWd (c.toNat:Int)=true:=by simp only[Lp.isWd,Zb1,Zg1];exact h
  simp[Lp.tw,hc]
theorem Bje{m:Str}{k n:Int}{s:Str}{e:Nat}(h:tokS m=some (k,s,n,e))(hm:m.length<=20000)(p:Int):tW ⟨k,p,s,n⟩=e/\TkB ⟨k,p,s,n⟩:=by
 have hl:=Lp.tokS_len h;have htw:=Lp.tw_len isWd m;have fin:tW ⟨k,p,s,n⟩=e->s.length<=20000->(0<=n/\n<=9223372036854775807)->(k=2->s.length<=30)->(k=3->(Ayq n.natAbs).length<=s.length)->(k=6->s.length<=2)->tW ⟨k,p,s,n⟩=e/\TkB ⟨k,p,s,n⟩:=λh1 h2 h3 h4 h5 h6=>⟨h1,by omega,h2,h3.1,h3.2,h4,h5,h6⟩;unfold Lp.tokS at h;split at h
 ·split at h
  ·cases h
  ·split at h
   ·cases h
   ·rename_i b hb;split at h
    ·cases h
    ·rename_i h1000;cases h;have hq:=Lp.tw_len Lp.nq (m.drop 2);split at hb
     ·have:=Bgd _ _ _ _ (Zn1 _) hb;simp only[Zi1] at this;refine fin ?_ (by omega) ⟨by omega,by omega⟩ (λq=>by omega) (λq=>by omega) (λq=>by omega);simp only[tW];rw[if_neg (by decide),if_pos trivial];omega
     ·cases hb
 ·split at h
  ·split at h
   ·rename_i h1 hw;cases h;exact fin rfl (by omega) ⟨by omega,by omega⟩ (λq=>by omega) (λq=>by omega) (λq=>by omega)
   ·cases h
  ·split at h
   ·split at h
    ·rename_i hw;cases h;refine fin rfl (by omega) ⟨by omega,by omega⟩ (λ_ =>?_) (λq=>by omega) (λq=>by omega);simp only[Lp.rnameF,Zb1,Zg1] at hw;omega
    ·cases h
   ·split at h
    ·rename_i h3;split at h
     ·rename_i hw;cases h;have h1:=Bvh (m:=m) (by omega);have hr:∃v,rnumGo (tw isWd m) 0=some v/\(rnumF (tw isWd m)=v):=by
       unfold Lp.rnumF at hw ⊢;cases hv:rnumGo (tw isWd m) 0 with
       |none=>rw[hv] at hw;simp at hw
       |some v =>
        rw[hv] at hw;simp only at hw ⊢;split at hw
        ·omega
        ·rename_i hc;rw[if_neg hc];exact⟨v,rfl,rfl⟩
      obtain⟨v,hv,hv2⟩:=hr;have b1:=A62 _ 0 0 (by decide) (by omega) v hv;have b2:=A8x _ 0 v (by omega) hv;rw[hv2] at hw fin ⊢;refine fin rfl (by omega) ⟨by omega,by omega⟩ (λq=>by omega) (λ_ =>?_) (λq=>by omega);refine Bgx ?_ h1;have:=b1.2;rw[Nat.zero_add] at this;omega
     ·cases h
    ·split at h
     ·split at h
      ·cases h
      ·rename_i x hx;split at h
       ·rename_i hk;cases h;obtain⟨s',e1,e2⟩:=Q0 _ _ _ _ _ (Zn1 _) hx;rw[Zf2] at e1;subst e1;have hq:s.length<=(quo s).length:=by clear hx hk hl fin e2;induction s with|nil=>simp|cons b l ih=>simp only[quo];split<;>simp only[Zf1]<;>omega
        refine fin ?_ (by omega) ⟨by omega,by omega⟩ (λq=>by omega) (λq=>by omega) (λq=>by omega);simp only[tW,if_true];omega
       ·cases h
     ·split at h
      ·split at h
       ·cases h;refine fin ?_ (by rw[List.length_take];omega) ⟨by omega,by omega⟩ (λq=>by omega) (λq=>by omega) (λ_=>by rw[List.length_take];omega);simp only[tW];rw[if_neg (by decide),if_neg (by decide),List.length_take];omega
       ·cases h;refine fin ?_ (by rw[List.length_take];omega) ⟨by omega,by omega⟩ (λq=>by omega) (λq=>by omega) (λ_=>by rw[List.length_take];omega);simp only[tW];rw[if_neg (by decide),if_neg (by decide),List.length_take];omega
      ·cases h
def twt:TL->Nat
 |[]=>0
 |t::l=>tW t+4+twt l
theorem B5:∀a b:TL,twt (a++b)=twt a+twt b
 |[],b=>by simp[twt]
 |t::a,b=>by simp only[Zb2,twt,B5 a b];omega
def TkA(c:TL):Prop:=∀t,t∈c->TkB t
theorem TkA.l{a b:TL}(h:TkA (a++b)):TkA a:=λt ht=>h t (List.mem_append_left _ ht)
theorem TkA.r{a b:TL}(h:TkA (a++b)):TkA b:=λt ht=>h t (List.mem_append_right _ ht)
theorem TkA.h{t:Ax.Tok}{b:TL}(h:TkA (t::b)):TkB t:=h t Zr1
theorem TkA.t{t:Ax.Tok}{b:TL}(h:TkA (t::b)):TkA b:=λt ht=>h t (Zu1 _ ht)
theorem Axz{m:Str}{p:Int}{ts:TL}(h:Sc m p ts):m.length<=20000->TkA ts/\twt ts<=5*m.length:=by
 induction h with
 |nil=>intro _;exact⟨(λ_ h=>by cases h),by simp[twt]⟩
 |blank _ _ ih =>intro hm;simp only[Zf1] at hm ⊢;obtain⟨h1,h2⟩:=ih (by omega);exact⟨h1,by omega⟩
 | @tok m p k s n e ts _ h2 _ ih =>
  intro hm;have hl:=Lp.tokS_len h2;obtain⟨f1,f2⟩:=Bje h2 hm p;simp only[Za2] at ih;obtain⟨h3,h4⟩:=ih (by omega);refine⟨λt ht =>?_,?_⟩
  ·rcases List.mem_cons.1 ht with rfl|ht
   ·exact f2
   ·exact h3 t ht
  ·simp only[twt,f1];omega
end Go.Proofs.YthndhaolemgbdaaGreatDoor
namespace Go.Proofs.YthndhaolemgbdaaGreatDoor
open Go.Ax
open Lp (tokS Sc clsF)
def MX(c:TL)(e:Xpr):Prop:=TkA c->(etx e).length<=twt c/\Bf e+1<=2*c.length/\BdExpr e
theorem Tv{s:Str}{t:Ax.Tok}(h:isT s [t]=true):tW t=s.length:=by simp only[isT,Zb1,Zd2,Zg1] at h;simp only[tW];rw[if_neg (by omega),if_neg (by omega),h.2]
theorem bdx{k:Int}{l:List Xpr}(hk:inI k)(hl:l.length<=2)(h:∀e,e∈l->BdExpr e):BdExpr (mkX k l) :=.mk k ⟨0,0,[]⟩ [] l hk ⟨by simp only[inI];omega,by simp only[inI];omega,by simp only[ln,Zi1];omega⟩ (by simp only[ln,Zi1];omega) (by simp only[ln];omega) h
theorem bdv{k n:Int}{s:Str}(hk : 0<=k/\k<=5)(hn : 0<=n/\n<=9223372036854775807)(hs:s.length<=20000):BdExpr (Mv k n s) :=.mk 1 ⟨k,n,s⟩ [] [] (by simp only[inI];omega) ⟨by simp only[inI];omega,by simp only[inI];omega,by simp only[ln];omega⟩ (by simp only[ln,Zi1];omega) (by simp only[ln,Zi1];omega) (λe he=>by cases he)
theorem A3j{k n:Int}{s:Str}{m:Nat}(h:Fy ⟨k,n,s⟩=true->(Ds ⟨k,n,s⟩).length<=m):(etx (Mv k n s)).length<=m:=by have e:etx (Mv k n s)=Ds ⟨k,n,s⟩:=rfl;rw[e];cases hr:Fy ⟨k,n,s⟩ with|true=>exact h hr|false=>simp[Ds,hr]
theorem Brs{t:Ax.Tok}{v:Xpr}(h:Ab9 t=some v):MX [t] v:=λht=>by
 obtain⟨b1,b2,b3,b4,b5,b6,b7⟩:=ht.h;have hw:twt [t]=tW t+4:=rfl;unfold Ab9 at h;split at h
 ·rename_i hk;cases h;refine⟨?_,Zn1 _,?_⟩
  ·have e:etx (.mk 2 ⟨0,0,[]⟩ t.s [])=t.s:=rfl;rw[e,hw];simp only[tW];rw[if_neg (by omega),if_neg (by omega)];omega
  ·exact .mk 2 ⟨0,0,[]⟩ t.s [] (by simp only[inI];omega) ⟨by simp only[inI];omega,by simp only[inI];omega,by simp only[ln,Zi1];omega⟩ (by simp only[ln];omega) (by simp only[ln,Zi1];omega) (λe he=>by cases he)
 ·split at h
  ·rename_i hk;cases h;refine⟨A3j λhr =>?_,Zn1 _,bdv (by omega) ⟨b3,b4⟩ (by simp)⟩;have e:Ds ⟨3,t.n,[]⟩=Ayq t.n.natAbs:=by rw[<-Axg b3];rfl
   have:=b6 hk;rw[e,hw];simp only[tW];rw[if_neg (by omega),if_neg (by omega)];omega
  ·split at h
   ·rename_i hk;cases h;refine⟨A3j λhr =>?_,Zn1 _,bdv (by omega) (by omega) b2⟩;have e:Ds ⟨4,0,t.s⟩=39::(quo t.s++[39]):=by simp[Ds,hr]
    rw[e,hw];simp only[tW];rw[if_pos hk];simp only[Zf1,Zh1,Zi1];omega
   ·split at h
    ·rename_i hk;cases h;refine⟨A3j λhr =>?_,Zn1 _,bdv (by omega) (by omega) b2⟩;have e:Ds ⟨5,0,t.s⟩=120::39::(Avz t.s++[39]):=by simp[Ds,hr]
     have hl:=A0l t.s;rw[e,hw];simp only[tW];rw[if_neg (by omega),if_pos hk];simp only[Zf1,Zh1,Zi1];omega
    ·split at h
     ·cases h;exact⟨by rw[hw];exact Nat.le_trans (show(etx (Mv 2 1 [])).length<=4 by decide) (by omega),Zn1 _,bdv (by omega) (by omega) (by simp)⟩
     ·split at h
      ·rename_i hk;cases h;have:tW t=5:=by simp only[tW];rw[if_neg (by omega),if_neg (by omega),hk.2];rfl
       exact⟨by rw[hw,this];decide,Zn1 _,bdv (by omega) (by omega) (by simp)⟩
      ·split at h
       ·cases h;exact⟨by rw[hw];exact Nat.le_trans (show(etx (Mv 1 0 [])).length<=4 by decide) (by omega),Zn1 _,bdv (by omega) (by omega) (by simp)⟩
       ·cases h
theorem Bdb:∀q,q∈opTab->4<=q.2.2/\q.2.2<=14/\sgn q.2.2=q.1:=by decide
theorem Bsd{c:TL}{e:Xpr}(h:Der c e):MX c e:=by
 induction h with
 |lit h=>exact Brs h
 | @br o c ts e h1 h2 _ ih =>
  intro ht;obtain⟨i1,i2,i3⟩:=ih ht.t.l;refine⟨?_,?_,i3⟩
  ·simp only[twt,B5];omega
  ·simp only[Zf1,Zh1];omega
 | @un s k t ts e hk hi _ ih =>
  intro ht;obtain⟨i1,i2,i3⟩:=ih ht.t;have hw:=Tv hi;have hz:Bf (mkX k [e])=2+Bf e:=by have:=Vl k ⟨0,0,[]⟩ [] e;simpa[mkX] using this
  refine⟨?_,by rw[hz];simp only[Zf1];omega,bdx (by rcases hk with ⟨_,rfl⟩|⟨_,rfl⟩<;>simp only[inI]<;>omega) (by simp) (λx hx=>by simp only[List.mem_cons,List.not_mem_nil,or_false] at hx;rw[hx];exact i3)⟩;rcases hk with ⟨rfl,rfl⟩|⟨rfl,rfl⟩
  ·have e1:etx (mkX 3 [e])=40::([78,79,84]++32::(etx e++[41])):=A9q e;rw[e1];have:sNOT.length=3:=rfl;simp only[twt,Zf1,Zh1,Zi1];omega
  ·have e1:etx (mkX 15 [e])=40::45::(etx e++[41]):=Boz e;rw[e1];simp only[twt,Zf1,Zh1,Zi1] at hw ⊢;omega
 | @op s p k o ts us a b hq hi _ _ iha ihb =>
  intro ht;obtain⟨a1,a2,a3⟩:=iha ht.l;obtain⟨b1,b2,b3⟩:=ihb ht.r.t;have hw:=Tv hi;obtain⟨k1,k2,k3⟩:=Bdb _ hq;simp only at k1 k2 k3;have hz:Bf (mkX k [a,b])=3+(Bf a+Bf b):=by have:=Bcy k ⟨0,0,[]⟩ [] a b;simp only[mkX];omega
  refine⟨?_,by rw[hz];simp only[Zf1,Zh1];omega,bdx (by simp only[inI];omega) (by simp) (λx hx=>by simp only[List.mem_cons,List.not_mem_nil,or_false] at hx;rcases hx with rfl|rfl<;>assumption)⟩;have e1:etx (mkX k [a,b])=40::(etx a++32::(sgn k++32::(etx b++[41]))):=Bqw ⟨k1,k2⟩ a b;rw[e1,k3];simp only[twt,B5,Zf1,Zh1,Zi1];omega
 | @isn o n ts e h1 h2 _ ih =>
  intro ht;obtain⟨i1,i2,i3⟩:=ih ht.l;have w1:=Tv h1;have w2:=Tv h2;have:sIS.length=2:=rfl;have:sNULL.length=4:=rfl;have hz:Bf (mkX 16 [e])=2+Bf e:=by have:=Vl 16 ⟨0,0,[]⟩ [] e;simpa[mkX] using this
  refine⟨?_,by rw[hz];simp only[Zf1,Zh1,Zi1];omega,bdx (by simp only[inI];omega) (by simp) (λx hx=>by simp only[List.mem_cons,List.not_mem_nil,or_false] at hx;rw[hx];exact i3)⟩;have e1:etx (mkX 16 [e])=40::(etx e++32::73::83::32::78::85::76::76::[41]):=A74 e;rw[e1];simp only[twt,B5,Zf1,Zh1,Zi1];omega
 | @nis o m n ts e h1 h2 h3 _ ih =>
  intro ht;obtain⟨i1,i2,i3⟩:=ih ht.l;have w1:=Tv h1;have w2:=Tv h2;have w3:=Tv h3;have:sIS.length=2:=rfl;have:sNOT.length=3:=rfl;have:sNULL.length=4:=rfl;have b16:BdExpr (mkX 16 [e]):=bdx (by simp only[inI];omega) (by simp) (λx hx=>by simp only[List.mem_cons,List.not_mem_nil,or_false] at hx;rw[hx];exact i3);have hz:Bf (mkX 3 [mkX 16 [e]])=4+Bf e:=by have h1:=Vl 3 ⟨0,0,[]⟩ [] (mkX 16 [e]);have h2:=Vl 16 ⟨0,0,[]⟩ [] e;simp only[mkX] at h1 h2 ⊢;omega
  refine⟨?_,by rw[hz];simp only[Zf1,Zh1,Zi1];omega,bdx (by simp only[inI];omega) (by simp) (λx hx=>by simp only[List.mem_cons,List.not_mem_nil,or_false] at hx;rw[hx];exact b16)⟩;have e1:etx (mkX 3 [mkX 16 [e]])=40::([78,79,84]++32::(etx (mkX 16 [e])++[41])):=A9q _;have e2:etx (mkX 16 [e])=40::(etx e++32::73::83::32::78::85::76::76::[41]):=A74 e;rw[e1,e2];simp only[twt,B5,Zf1,Zh1,Zi1];omega
theorem Bv{α:Type}{p:TL->PR α}{Q Q':TL->α->Prop}(h:Cns p Q)(hq:∀c x,Q c x->Q' c x):Cns p Q':=λl e l' hp=>by obtain⟨c,h1,h2⟩:=h l e l' hp;exact⟨c,h1,hq c e h2⟩
theorem Axp:Cns orW MX:=Bv Bqz λ_ _ h=>Bsd h
end Go.Proofs.YthndhaolemgbdaaGreatDoor
namespace Go.Proofs.YthndhaolemgbdaaGreatDoor
open Go.Ax
section
variable {α β:Type}{p:TL->PR α}{Q:TL->α->Prop}
theorem A6{f : α->TL->PR β}{R : α->TL->β->Prop}(h1:Cns p Q)(h2:∀x,Cns (f x) (R x)):Cns (bP p f) λc y=>∃c1 c2 x,c=c1++c2/\Q c1 x/\R x c2 y:=λl e l' hp=>by unfold bP at hp;cases hq:p l with|error q=>rw[hq] at hp;cases hp|ok x =>obtain⟨x,l1⟩:=x;rw[hq] at hp;obtain⟨c1,e1,q1⟩:=h1 l x l1 hq;obtain⟨c2,e2,q2⟩:=h2 x l1 e l' hp;exact⟨c1++c2,by rw[e1,e2,Zj1],c1,c2,x,rfl,q1,q2⟩
theorem Iv(x : α):Cns (Bg x) λc y=>c=[]/\y=x:=λl e l' hp=>by cases hp;exact⟨[],rfl,rfl,rfl⟩
theorem Hh{g : α->β}(h:Cns p Q):Cns (bP p λx=>Bg (g x)) λc y=>∃x,Q c x/\y=g x:=Bv (A6 h λx=>Iv (g x)) λc y ⟨c1,c2,x,e,q,e2,e3⟩=>⟨x,by rw[e,e2,List.append_nil];exact q,e3⟩
end
def kwT(w:Str)(c:TL):Prop:=∃t,c=[t]/\isT w [t]=true
theorem Hq{w:Str}{c:TL}(h:kwT w c):twt c=w.length+4/\c.length=1:=by obtain⟨t,rfl,h⟩:=h;exact⟨by simp only[twt,Tv h],rfl⟩
theorem B0(w:Str):Cns (Ay [w]) λc _=>kwT w c:=λl e l' hp=>by simp only[Ay] at hp;cases hi:isT w l with|false=>rw[hi] at hp;cases hp|true =>rw[hi] at hp;cases hp;obtain⟨t,h1,h2⟩:=Hy hi;exact⟨[t],h1,t,rfl,h2⟩
theorem Bdu(w v:Str):Cns (Ay [w,v]) λc _=>∃a b,c=a++b/\kwT w a/\kwT v b:=λl e l' hp=>by
 have e1:Ay [w,v] l=bP (Ay [w]) (λ_=>Ay [v]) l:=by simp only[bP,Ay];cases isT w l<;>rfl
 rw[e1] at hp;obtain⟨c,h1,c1,c2,x,h2,h3,h4⟩:=A6 (B0 w) (λ_=>B0 v) l e l' hp;exact⟨c,h1,c1,c2,h2,h3,h4⟩
def nmQ(c:TL)(s:Str):Prop:=TkA c->s.length+4<=twt c/\s.length<=30
theorem E3:Cns Bt nmQ:=λl e l' hp=>by
 cases l with
 |nil=>cases hp
 |cons t r =>simp only[Bt] at hp;cases hk:decide (t.kind=2) with|false=>rw[hk] at hp;cases hp|true =>rw[hk] at hp;cases hp;have hk:=of_decide_eq_true hk;refine⟨[t],rfl,λht=>⟨?_,ht.h.2.2.2.2.1 hk⟩⟩;simp only[twt,tW];rw[if_neg (by omega),if_neg (by omega)];omega
inductive Lst {α:Type}(Q:TL->α->Prop):TL->List α->Prop
 |one {c:TL}{x : α}:Q c x->Lst Q c [x]
 |snoc {c d k:TL}{l:List α}{x : α}:Lst Q c l->kwT [44] k->Q d x->Lst Q (c++(k++d)) (l++[x])
section
variable {α:Type}{part:TL->PR α}{Q:TL->α->Prop}
theorem Zi(h:Cns part Q)(P:TL->List α->Prop)(hs:∀c k d l x,P c l->kwT [44] k->Q d x->P (c++(k++d)) (l++[x])):∀(n:Nat) (acc:List α) (c0 l:TL) (e:List α) (l':TL),P c0 acc->Ba part n acc l = .ok (e,l')->∃c,l=c++l'/\P (c0++c) e
 |0,_,_,_,_,_,_,hp=>by cases hp
 |n+1,acc,c0,l,e,l',h0,hp=>by
  simp only[Ba] at hp;cases hi:isT [44] l with
  |false =>rw[hi] at hp;cases hp;exact⟨[],rfl,by rw[List.append_nil];exact h0⟩
  |true =>
   rw[hi] at hp;obtain⟨t,ht,ht1⟩:=Hy hi;cases hq:part l.tail with
   |error q=>simp only[hq] at hp;cases hp
   |ok x =>
    obtain⟨x,l1⟩:=x;simp only[hq] at hp;obtain⟨d,hd,hd1⟩:=h _ _ _ hq;obtain⟨c2,h2,h3⟩:=Zi h P hs n (acc++[x]) (c0++([t]++d)) l1 e l' (hs c0 [t] d acc x h0 ⟨t,rfl,ht1⟩ hd1) hp;refine⟨t::(d++c2),?_,?_⟩
    ·rw[ht,hd,h2];simp
    ·have e1:c0++t::(d++c2)=(c0++([t]++d))++c2:=by simp
     rw[e1];exact h3
theorem P4(h:Cns part Q):Cns (Im part) (Lst Q):=λl e l' hp=>by simp only[Im] at hp;cases hq:part l with|error q=>rw[hq] at hp;cases hp|ok x =>obtain⟨x,l1⟩:=x;rw[hq] at hp;obtain⟨d,hd,hd1⟩:=h _ _ _ hq;obtain⟨c,h2,h3⟩:=Zi h (Lst Q) (λc k d l x a b c =>.snoc a b c) _ [x] d l1 e l' (.one hd1) hp;exact⟨d++c,by rw[hd,h2,Zj1],h3⟩
theorem Apr(f : α->Str):∀(l:List α) (x : α),Ke f (l++[x])=Ke f l++([44,32]++f x)
 |[],x=>by simp[Ke]
 |y::l,x=>by simp only[Zb2,Ke,Apr f l x,Zj1]
theorem Ban(f : α->Str){l:List α}(hl:l≠[])(x : α):Cy f (l++[x])=Cy f l++([44,32]++f x):=by cases l with|nil=>exact absurd rfl hl|cons y l=>simp only[Zb2,Cy,Apr,Zj1]
theorem Bkq{c:TL}{l:List α}(h:Lst Q c l):l≠[]:=by cases h<;>simp
theorem V8{f : α->Str}{cm : α->Nat}{P : α->Prop}(hq:∀c x,Q c x->TkA c->(f x).length<=twt c/\cm x<=2*c.length/\P x){c:TL}{l:List α}(h:Lst Q c l):TkA c->(Cy f l).length<=twt c/\(l.map cm).sum<=2*c.length/\l.length<=c.length+1/\∀x,x∈l->P x:=by
 induction h with
 | @one c x h =>intro ht;obtain⟨h1,h2,h3⟩:=hq c x h ht;refine⟨by simpa[Cy,Ke] using h1,by simpa using h2,by simp,λy hy =>?_⟩;simp only[List.mem_cons,List.not_mem_nil,or_false] at hy;rw[hy];exact h3
 | @snoc c d k l x h hk hx ih =>
  intro ht;obtain⟨i1,i2,i3,i4⟩:=ih ht.l;obtain⟨h1,h2,h3⟩:=hq d x hx ht.r.r;obtain⟨k1,k2⟩:=Hq hk;have e:([44]:Str).length=1:=rfl;refine⟨?_,?_,?_,λy hy =>?_⟩
  ·rw[Ban f (Bkq h)];simp only[Zh1,B5,Zf1,Zi1];omega
  ·simp only[List.map_append,List.sum_append,Zw1,List.map_nil,List.sum_cons,List.sum_nil,Zh1];omega
  ·simp only[Zh1,Zf1,Zi1];omega
  ·rcases List.mem_append.1 hy with hy|hy
   ·exact i4 y hy
   ·simp only[List.mem_cons,List.not_mem_nil,or_false] at hy;rw[hy];exact h3
end
theorem Ai7:∀l:List Xpr,esizes l=(l.map λe=>1+Bf e).sum
 |[]=>rfl
 |e::l=>by simp only[esizes,Zw1,List.sum_cons,Ai7 l]
theorem Bs8{α:Type}{P : α->Prop}{l:List α}{n:Nat}(h1:l.length<=n+1)(h2:n<=20000)(h3:∀x,x∈l->P x):Fq P l:=⟨by simp only[ln];omega,h3⟩
def MXs(c:TL)(l:List Xpr):Prop:=TkA c->(Cy etx l).length<=twt c/\esizes l<=2*c.length/\l.length<=c.length+1/\∀x,x∈l->BdExpr x
theorem A9x:Cns L5 MXs:=Bv (P4 Axp) λc l h ht=>by rw[Ai7];exact V8 (f:=etx) (cm:=λe=>1+Bf e) (P:=BdExpr) (λc x hx ht=>by obtain⟨a1,a2,a3⟩:=hx ht;exact⟨a1,by omega,a3⟩) h ht
def MNs(c:TL)(l:List Str):Prop:=TkA c->(nmT l).length<=twt c/\l.length<=c.length+1/\∀x,x∈l->x.length<=30
theorem Apc:Cns Mg MNs:=Bv (A6 (B0 [40]) λ_=>A6 (P4 E3) λx=>A6 (B0 [41]) λ_=>Iv x) λc l ⟨c1,c2,_,e1,k1,c3,c4,x,e2,hl,c5,c6,_,e3,k2,e4,e5⟩ ht=>by
 subst e1 e2 e3 e4 e5;obtain⟨a1,a2⟩:=Hq k1;obtain⟨b1,b2⟩:=Hq k2;obtain⟨d1,d2,d3,d4⟩:=V8 (f:=λx:Str=>x) (cm:=λ_=>0) (P:=λx=>x.length<=30) (λc x hx ht=>⟨by have:=(hx ht).1;omega,by omega,(hx ht).2⟩) hl ht.r.l;have e0:([40]:Str).length=1:=rfl;have e9:([41]:Str).length=1:=rfl;refine⟨?_,?_,d4⟩
 ·simp only[nmT,Atu,Zh1,B5,Zf1,Zi1,twt];omega
 ·simp only[Zh1];omega
theorem Av4:Cns A30 λc l=>TkA c->(Aow l).length<=twt c/\esizes l<=2*c.length/\Fq BdExpr l\/20000<c.length:=Bv (A6 (B0 [40]) λ_=>A6 A9x λx=>A6 (B0 [41]) λ_=>Iv x) λc l ⟨c1,c2,_,e1,k1,c3,c4,x,e2,hl,c5,c6,_,e3,k2,e4,e5⟩ ht=>by
 subst e1 e2 e3 e4 e5;obtain⟨a1,a2⟩:=Hq k1;obtain⟨b1,b2⟩:=Hq k2;obtain⟨d1,d2,d3,d4⟩:=hl ht.r.l;have e0:([40]:Str).length=1:=rfl;have e9:([41]:Str).length=1:=rfl;by_cases hc : 20000<(c1++(c3++(c5++[]))).length
 ·exact .inr hc
 ·simp only[Zh1] at hc;refine .inl ⟨?_,?_,Bs8 d3 (by omega) d4⟩
  ·simp only[Aow,Zh1,B5,Zf1,Zi1,twt];omega
  ·simp only[Zh1];omega
theorem Bjl:Cns I9 λc k=>(2<=k/\k<=5)/\(at' .str Zm k).length+4=twt c:=λl e l' hp=>by
 have one:∀{w:Str}{k:Int},isT w l=true->at' .str Zm k=w->(2<=k/\k<=5)->∃c,l=c++l.tail/\(2<=k/\k<=5)/\(at' .str Zm k).length+4=twt c:=λ{w k} hi hk hb=>by obtain⟨t,h1,h2⟩:=Hy hi;exact⟨[t],h1,hb,by rw[hk];simp only[twt,Tv h2]⟩
 simp only[I9] at hp;cases h1:isT X6 l with
 |true=>rw[h1] at hp;cases hp;exact one h1 rfl (by omega)
 |false =>
  rw[h1] at hp;cases h2:isT Aov l with
  |true=>simp only[h2] at hp;cases hp;exact one h2 rfl (by omega)
  |false =>
   simp only[h2] at hp;cases h3:isT Xv l with
   |true=>simp only[h3] at hp;cases hp;exact one h3 rfl (by omega)
   |false =>simp only[h3] at hp;cases h4:isT Nz l with|true=>simp only[h4] at hp;cases hp;exact one h4 rfl (by omega)|false=>simp only[h4] at hp;cases hp
theorem A9l(w:Str)(ss:List Str)(R:TL->Prop)(h:Cns (Ay ss) λc _=>R c):Cns (F3 w ss) λc b=>(b=false/\c=[])\/(b=true/\∃k d,c=k++d/\kwT w k/\R d):=λl e l' hp=>by
 simp only[F3] at hp;cases hi:isT w l with
 |false =>rw[hi] at hp;cases hp;exact⟨[],rfl,.inl ⟨rfl,rfl⟩⟩
 |true =>rw[hi] at hp;obtain⟨t,h1,h2⟩:=Hy hi;cases hq:Ay ss l.tail with|error q=>simp only[hq] at hp;cases hp|ok x =>obtain⟨x,l1⟩:=x;simp only[hq] at hp;cases hp;obtain⟨d,hd,hr⟩:=h _ _ _ hq;exact⟨t::d,by rw[h1,hd];rfl,.inr ⟨rfl,[t],d,rfl,⟨t,rfl,h2⟩,hr⟩⟩
theorem Bmb:Cns I7 λc r=>TkA c->r.length<=30/\((r=[]/\c=[])\/r.length+18<=twt c):=λl e l' hp=>by simp only[I7] at hp;cases hi:isT wREF l with|false =>rw[hi] at hp;cases hp;exact⟨[],rfl,λ_=>⟨by simp,.inl ⟨rfl,rfl⟩⟩⟩|true =>rw[hi] at hp;obtain⟨t,h1,h2⟩:=Hy hi;obtain⟨d,hd,hr⟩:=E3 _ _ _ hp;have e:wREF.length=10:=rfl;refine⟨t::d,by rw[h1,hd];rfl,λht =>?_⟩;obtain⟨a1,a2⟩:=hr ht.t;refine⟨a2,.inr ?_⟩;simp only[twt,Tv h2];omega
def clQ(c:TL)(x:Col):Prop:=TkA c->(Afx x).length<=twt c/\Aoq x
theorem Bpk:Cns A0v clQ:=Bv (A6 E3 λn=>A6 Bjl λk=>A6 (A9l sNOT [sNULL] (kwT sNULL) (B0 sNULL)) λnn=>A6 (A9l wUNIQUE [] (λc=>c=[]) (λl e l' hp=>by cases hp;exact⟨[],rfl,rfl⟩)) λu=>Hh Bmb) λc x ⟨c1,c2,n,e1,hn,c3,c4,k,e2,hk,c5,c6,nn,e3,hnn,c7,c8,u,e4,hu,r,hr,e5⟩ ht=>by
 subst e1 e2 e3 e4 e5;obtain⟨a1,a2⟩:=hn ht.l;obtain⟨k1,k2⟩:=hk;obtain⟨r1,r2⟩:=hr ht.r.r.r.r;have hnl:(cond nn ([32,78,79,84,32,78,85,76,76]:Str) []).length<=twt c5:=by
  rcases hnn with ⟨rfl,_⟩|⟨rfl,k,d,rfl,h1,h2⟩
  ·simp
  ·have e1:sNOT.length=3:=rfl;have e2:sNULL.length=4:=rfl;rw[B5,(Hq h1).1,(Hq h2).1];simp only[Aa,Zf1,Zi1];omega
 have hul:(cond u ([32,85,78,73,81,85,69]:Str) []).length<=twt c7:=by
  rcases hu with ⟨rfl,_⟩|⟨rfl,k,d,rfl,h1,h2⟩
  ·simp
  ·have e1:wUNIQUE.length=6:=rfl;rw[B5,(Hq h1).1];simp only[Aa,Zf1,Zi1];omega
 have hrl:(cond (decide (r=[])) [] ([32,82,69,70,69,82,69,78,67,69,83,32]++r):Str).length<=twt c8:=by
  rcases r2 with ⟨rfl,_⟩|r2
  ·simp
  ·cases decide (r=[]) with|true=>simp|false=>simp only[Af,Zh1,Zf1,Zi1];omega
 refine⟨?_,by simp only[Aoq,ln,inI];omega⟩;simp only[Afx,Zh1,B5,Zf1,Zi1];omega
theorem Alu:Cns N4 λc x=>∃a b,c=a++b/\clQ a x/\kwT [44] b:=Bv (A6 Bpk λx=>Hh (B0 [44])) λc x ⟨c1,c2,y,e1,h1,_,h2,e2⟩=>⟨c1,c2,e1,by rw[e2];exact h1,h2⟩
def csQ(c:TL)(l:List Col):Prop:=TkA c->((l.map Ba8).flatten).length<=twt c/\l.length<=c.length/\∀x,x∈l->Aoq x
theorem A9c{c d:TL}{l:List Col}{x:Col}(h:csQ c l)(hx:∃a b,d=a++b/\clQ a x/\kwT [44] b):csQ (c++d) (l++[x]):=λht=>by
 obtain⟨a,b,rfl,h1,h2⟩:=hx;obtain⟨i1,i2,i3⟩:=h ht.l;obtain⟨j1,j2⟩:=h1 ht.r.l;obtain⟨k1,k2⟩:=Hq h2;have e:([44]:Str).length=1:=rfl;refine⟨?_,?_,λy hy =>?_⟩
 ·simp only[List.map_append,List.flatten_append,Zw1,List.map_nil,Zz1,List.flatten_nil,Ba8,Zh1,B5,Zf1,Zi1];omega
 ·simp only[Zh1,Zf1,Zi1];omega
 ·rcases List.mem_append.1 hy with hy|hy
  ·exact i3 y hy
  ·simp only[List.mem_cons,List.not_mem_nil,or_false] at hy;rw[hy];exact j2
theorem Aod:∀(n:Nat) (acc:List Col) (c0 l:TL) (e:List Col) (l':TL),csQ c0 acc->D4 n acc l = .ok (e,l')->∃c k,l=c++(k++l')/\csQ (c0++c) e/\kwT wPRIMARY k
 |0,_,_,_,_,_,_,hp=>by cases hp
 |n+1,acc,c0,l,e,l',h0,hp=>by
  simp only[D4] at hp;cases hi:isT wPRIMARY l with
  |true =>rw[hi] at hp;cases hp;obtain⟨t,ht,ht1⟩:=Hy hi;exact⟨[],[t],ht,by rw[List.append_nil];exact h0,t,rfl,ht1⟩
  |false =>rw[hi] at hp;cases hq:N4 l with|error q=>simp only[hq] at hp;cases hp|ok x =>obtain⟨x,l1⟩:=x;simp only[hq] at hp;obtain⟨d,hd,hd1⟩:=Alu _ _ _ hq;obtain⟨c2,k,h2,h3,h4⟩:=Aod n (acc++[x]) (c0++d) l1 e l' (A9c h0 hd1) hp;exact⟨d++c2,k,by rw[hd,h2,Zj1],by rw[<-Zj1];exact h3,h4⟩
theorem Bir:Cns Akv λc l=>∃a k,c=a++k/\csQ a l/\kwT wPRIMARY k/\l≠[]:=λl e l' hp=>by
 simp only[Akv] at hp;cases hq:N4 l with
 |error q=>rw[hq] at hp;cases hp
 |ok x =>
  obtain⟨x,l1⟩:=x;rw[hq] at hp;obtain⟨d,hd,hd1⟩:=Alu _ _ _ hq;have h0:csQ [] []:=λ_=>⟨by simp,by simp,λ_ h=>by cases h⟩;obtain⟨c,k,h2,h3,h4⟩:=Aod _ [x] d l1 e l' (A9c h0 hd1) hp;refine⟨d++(c++k),by rw[hd,h2];simp,d++c,k,by rw[Zj1],h3,h4,?_⟩;rintro rfl;have hm:∀n acc l l',acc≠[]->D4 n acc l = .ok ([],l')->False:=by
   intro n;induction n with
   |zero=>intro _ _ _ _ h;cases h
   |succ n ih =>
    intro acc l l' ha h;simp only[D4] at h;cases hi:isT wPRIMARY l with
    |true=>rw[hi] at h;cases h;exact ha rfl
    |false =>rw[hi] at h;cases hq:N4 l with|error q=>simp only[hq] at h;cases h|ok x=>simp only[hq] at h;exact ih _ _ _ (by simp) h
  exact hm _ _ _ _ (by simp) hp
theorem A7j:Cns Mx λc e=>∃a b d k,c=a++(b++(d++k))/\kwT wCHECK a/\kwT [40] b/\MX d e/\kwT [41] k:=Bv (A6 (Bdu wCHECK [40]) λ_=>A6 Axp λe=>Hh (B0 [41])) λc x ⟨c1,c2,_,e1,⟨a,b,e2,h1,h2⟩,c3,c4,y,e3,h3,_,h4,e4⟩=>by subst e1 e2 e3 e4;exact⟨a,b,c3,c4,by simp,h1,h2,h3,h4⟩
def ckQ(c:TL)(l:List Xpr):Prop:=TkA c->((l.map A4x).flatten).length<=twt c/\esizes l<=2*c.length/\l.length<=c.length/\∀x,x∈l->BdExpr x
theorem Bpv(c k d:TL)(l:List Xpr)(x:Xpr)(h:ckQ c l)(hk:kwT [44] k)(hd:∃a b d' k',d=a++(b++(d'++k'))/\kwT wCHECK a/\kwT [40] b/\MX d' x/\kwT [41] k'):ckQ (c++(k++d)) (l++[x]):=λht=>by
 obtain⟨a,b,d,q,rfl,h1,h2,h3,h4⟩:=hd;obtain⟨i1,i2,i3,i4⟩:=h ht.l;obtain⟨j1,j2,j3⟩:=h3 ht.r.r.r.r.l;obtain⟨k1,k2⟩:=Hq hk;obtain⟨a1,a2⟩:=Hq h1;obtain⟨b1,b2⟩:=Hq h2;obtain⟨q1,q2⟩:=Hq h4;have e0:([40]:Str).length=1:=rfl;have e9:([41]:Str).length=1:=rfl;have e4:([44]:Str).length=1:=rfl;have e5:wCHECK.length=5:=rfl;have hl:(A4x x).length<=10+(etx x).length:=by simp only[A4x];cases decide (J9 x.kind=0)<;>simp only[Aa,Af,Zh1,Zf1,Zi1]<;>omega
 refine⟨?_,?_,?_,λy hy =>?_⟩
 ·simp only[List.map_append,List.flatten_append,Zw1,List.map_nil,Zz1,List.flatten_nil,Zh1,B5,Zi1];omega
 ·rw[Ai7] at i2 ⊢;simp only[List.map_append,List.sum_append,Zw1,List.map_nil,List.sum_cons,List.sum_nil,Zh1];omega
 ·simp only[Zh1,Zf1,Zi1];omega
 ·rcases List.mem_append.1 hy with hy|hy
  ·exact i4 y hy
  ·simp only[List.mem_cons,List.not_mem_nil,or_false] at hy;rw[hy];exact j3
theorem Bha:Cns (λl=>Ba Mx (l.length+1) [] l) ckQ:=λl e l' hp=>by have h0:ckQ [] []:=λ_=>⟨by simp,by simp[esizes],by simp,λ_ h=>by cases h⟩;obtain⟨c,h1,h2⟩:=Zi A7j ckQ Bpv _ [] [] l e l' h0 hp;exact⟨c,h1,h2⟩
def MS(w:Nat)(c:TL)(s:Stm):Prop:=TkA c->c.length<=3000->BdStm s/\Few s/\(Dh s).length<=twt c+w
theorem Buv:BdExpr zX :=.mk 0 ⟨0,0,[]⟩ [] [] (by simp only[inI];omega) ⟨by simp only[inI];omega,by simp only[inI];omega,by simp only[ln,Zi1];omega⟩ (by simp only[ln,Zi1];omega) (by simp only[ln,Zi1];omega) (λe he=>by cases he)
theorem X9{n:Nat}(h:n<=20000):ln n:=by simp only[ln];omega
theorem Bt9{n:Int}(h : -1<=n/\n<=9223372036854775807):inI n:=by simp only[inI];omega
def Bl5(l:List Str):Prop:=l.length<=3001/\∀x,x∈l->x.length<=30
theorem Mm:Bl5 []:=⟨by simp,λ_ h=>by cases h⟩
theorem Bqm{l:List Str}(h:Bl5 l):Fq (λx=>ln x.length) l:=⟨X9 (by have:=h.1;omega),λx hx=>X9 (by have:=h.2 x hx;omega)⟩
def Buo(l:List Xpr):Prop:=l.length<=3001/\esizes l<=6200/\∀x,x∈l->BdExpr x
theorem Aak:Buo []:=⟨by simp,by simp[esizes],λ_ h=>by cases h⟩
theorem An3{k:Int}{n o:Str}{cols:List Col}{names:List Str}{l:List Xpr}{rows:List (List Xpr)}{sets:List SetE}{has:Bool}{whr:Xpr}{order:List Str}{desc:List Bool}{most:Int}(hk : 0<=k/\k<=8)(hn:n.length<=30)(ho:o.length<=30)(hc:cols.length<=3001/\∀x,x∈cols->Aoq x)(hm:Bl5 names)(hl:Buo l)(hr:rows.length<=3001/\∀r,r∈rows->esizes r<=6200/\Fq BdExpr r)(hs:sets.length<=3001/\∀x,x∈sets->x.name.length<=30/\Bf x.e<=6200/\BdExpr x.e)(hw:BdExpr whr/\Bf whr<=6200)(hor:Bl5 order)(hd:desc.length<=3001)(hmo : -1<=most/\most<=9223372036854775807):BdStm ⟨k,n,o,cols,names,l,rows,sets,has,whr,order,desc,most⟩/\Few ⟨k,n,o,cols,names,l,rows,sets,has,whr,order,desc,most⟩:=by
 have h1:=hm.1;have h2:=hl.1;have h3:=hor.1;exact⟨⟨Bt9 (by simp only;omega),X9 (by simp only;omega),X9 (by simp only;omega),⟨X9 (by simp only;omega),hc.2⟩,Bqm hm,⟨X9 (by simp only;omega),hl.2.2⟩,⟨X9 (by simp only;omega),λr hr'=>(hr.2 r hr').2⟩,⟨X9 (by simp only;omega),λx hx=>⟨X9 (by have:=(hs.2 x hx).1;omega),(hs.2 x hx).2.2⟩⟩,hw.1,Bqm hor,X9 (by simp only;omega),Bt9 hmo⟩,
  ⟨by simp only;omega,by simp only;omega,by simp only;omega,by simp only;omega,by simp only;omega,hw.2,hl.2.1,⟨by simp only;omega,λr hr'=>(hr.2 r hr').1⟩,⟨by simp only;omega,λx hx=>(hs.2 x hx).2.1⟩⟩⟩
theorem z30:([]:Str).length<=30:=by simp
theorem zz{α:Type}{P : α->Prop}:([]:List α).length<=3001/\∀x,x∈([]:List α)->P x:=⟨by simp,λ_ h=>by cases h⟩
theorem zw:BdExpr zX/\Bf zX<=6200:=⟨Buv,by decide⟩
theorem Ba5:Cns Aey (MS 13):=Bv (A6 E3 λn=>A6 (B0 [40]) λ_=>A6 Bir λcs=>A6 (B0 wKEY) λ_=>A6 Apc λns=>A6 Bha λes=>Hh (B0 [41])) λc s ⟨c1,c2,n,e1,hn,c3,c4,_,e2,h2,c5,c6,cs,e3,⟨a,k,e4,hc,hk,hne⟩,c7,c8,_,e5,h5,c9,c10,ns,e6,hns,c11,c12,es,e7,hes,_,h8,e8⟩ ht hl=>by subst e1 e2 e3 e4 e5 e6 e7 e8;obtain⟨n1,n2⟩:=hn ht.l;obtain⟨a1,a2,a3⟩:=hc ht.r.r.l.l;obtain⟨m1,m2,m3⟩:=hns ht.r.r.r.r.l;obtain⟨x1,x2,x3,x4⟩:=hes ht.r.r.r.r.r.l;have w2:=(Hq h2).1;have w3:=(Hq hk).1;have w5:=(Hq h5).1;have w8:=(Hq h8).1;have e0:([40]:Str).length=1:=rfl;have e9:([41]:Str).length=1:=rfl;have ek:wKEY.length=3:=rfl;have ep:wPRIMARY.length=7:=rfl;simp only[Zh1] at hl;have hcl:=congrArg List.length (Bo5 hne);simp only[Zh1,Zf1,Zi1] at hcl;obtain⟨b,f⟩:=An3 (k:=1) (n:=n) (o:=[]) (cols:=cs) (names:=ns) (l:=es) (rows:=[]) (sets:=[]) (has:=false) (whr:=zX) (order:=[]) (desc:=[]) (most:=0) (by omega) n2 z30 ⟨by omega,a3⟩ ⟨by omega,m3⟩ ⟨by omega,by omega,x4⟩ zz zz zw Mm (by simp) (by omega);refine⟨b,f,?_⟩;show(Dh ⟨1,n,[],cs,ns,es,[],[],false,zX,[],[],0⟩).length<=_;simp only[Dh,if_true,Qz,Zh1,B5,Zf1,Zi1];omega
theorem Af1{α:Type}(w:Str){p q:TL->PR α}{Q1 Q2:TL->α->Prop}(h1:Cns p Q1)(h2:Cns q Q2):Cns (λl=>match isT w l with|true=>p l.tail|false=>q l) λc x=>(∃k d,c=k++d/\kwT w k/\Q1 d x)\/Q2 c x:=λl e l' hp=>by simp only at hp;cases hi:isT w l with|true =>rw[hi] at hp;obtain⟨t,h3,h4⟩:=Hy hi;obtain⟨d,hd,hq⟩:=h1 _ _ _ hp;exact⟨t::d,by rw[h3,hd];rfl,.inl ⟨[t],d,rfl,⟨t,rfl,h4⟩,hq⟩⟩|false =>rw[hi] at hp;obtain⟨d,hd,hq⟩:=h2 _ _ _ hp;exact⟨d,hd,.inr hq⟩
theorem Bp3{w:Nat}{W:Str}{k d:TL}{s:Stm}(h:MS w d s)(hk:kwT W k):MS (w-(W.length+4)) (k++d) s:=λht hl=>by obtain⟨k1,k2⟩:=Hq hk;simp only[Zh1] at hl;obtain⟨h1,h2,h3⟩:=h ht.r (by omega);exact⟨h1,h2,by rw[B5];omega⟩
theorem Bqr{w v:Nat}(h:w<=v){c:TL}{s:Stm}(hs:MS w c s):MS v c s:=λht hl=>by obtain⟨h1,h2,h3⟩:=hs ht hl;exact⟨h1,h2,by omega⟩
theorem Ti{w:Nat}{W:Str}{p q:TL->PR Stm}{v:Nat}(h1:Cns p (MS w))(h2:Cns q (MS v))(hv:w-(W.length+4)<=v):Cns (λl=>match isT W l with|true=>p l.tail|false=>q l) (MS v):=Bv (Af1 W h1 h2) λc s h=>by
 rcases h with ⟨k,d,rfl,hk,hm⟩|h
 ·exact Bqr hv (Bp3 hm hk)
 ·exact h
theorem Bc3:Cns Zu (MS 7):=Bv (A6 (B0 wINDEX) λ_=>A6 E3 λn=>A6 (B0 wON) λ_=>A6 E3 λo=>Hh Apc) λc s ⟨c1,c2,_,e1,h1,c3,c4,n,e2,hn,c5,c6,_,e3,h3,c7,c8,o,e4,ho,ns,hns,e5⟩ ht hl=>by subst e1 e2 e3 e4 e5;obtain⟨n1,n2⟩:=hn ht.r.l;obtain⟨o1,o2⟩:=ho ht.r.r.r.l;obtain⟨m1,m2,m3⟩:=hns ht.r.r.r.r;have w1:=(Hq h1).1;have w3:=(Hq h3).1;have e1:wINDEX.length=5:=rfl;have e3:wON.length=2:=rfl;simp only[Zh1] at hl;obtain⟨b,f⟩:=An3 (k:=3) (n:=n) (o:=o) (cols:=[]) (names:=ns) (l:=[]) (rows:=[]) (sets:=[]) (has:=false) (whr:=zX) (order:=[]) (desc:=[]) (most:=0) (by omega) n2 o2 zz ⟨by omega,m3⟩ Aak zz zz zw Mm (by simp) (by omega);refine⟨b,f,?_⟩;show(Dh ⟨3,n,o,[],ns,[],[],[],false,zX,[],[],0⟩).length<=_;simp[Dh,B5];omega
theorem Bh9:Cns Xy (MS 7):=by
 have one:∀k:Int,k=2\/k=4->Cns (bP Bt λn=>Bg ({ zS with kind:=k,name:=n }:Stm)) (MS 7):=λk hk=>Bv (Hh E3) λc s ⟨n,hn,e⟩ ht hl=>by subst e;obtain⟨n1,n2⟩:=hn ht;obtain⟨b,f⟩:=An3 (k:=k) (n:=n) (o:=[]) (cols:=[]) (names:=[]) (l:=[]) (rows:=[]) (sets:=[]) (has:=false) (whr:=zX) (order:=[]) (desc:=[]) (most:=0) (by omega) n2 z30 zz Mm Aak zz zz zw Mm (by simp) (by omega);refine⟨b,f,?_⟩;show(Dh ⟨k,n,[],[],[],[],[],[],false,zX,[],[],0⟩).length<=_;rcases hk with rfl|rfl<;>simp[Dh]<;>omega
 refine Ti (W:=Uo) (one 2 (.inl rfl)) ?_ (by omega);exact Bv (A6 (B0 wINDEX) λ_=>one 4 (.inr rfl)) λc s ⟨c1,c2,_,e1,h1,h2⟩=>by subst e1;exact Bqr (Nat.sub_le _ _) (Bp3 h2 h1)
def wQ(c:TL)(w:Bool×Xpr):Prop:=TkA c->(cond w.1 ([32,87,72,69,82,69,32]++etx w.2) []:Str).length<=twt c/\BdExpr w.2/\Bf w.2<=2*c.length+1
theorem Afk:Cns Ek wQ:=λl e l' hp=>by
 simp only[Ek] at hp;cases hi:isT wWHERE l with
 |false =>rw[hi] at hp;cases hp;exact⟨[],rfl,λ_=>⟨by simp,Buv,by decide⟩⟩
 |true =>rw[hi] at hp;obtain⟨t,h1,h2⟩:=Hy hi;cases hq:orW l.tail with|error q=>simp only[hq] at hp;cases hp|ok x =>obtain⟨x,l1⟩:=x;simp only[hq] at hp;cases hp;obtain⟨d,hd,hm⟩:=Axp _ _ _ hq;refine⟨t::d,by rw[h1,hd];rfl,λht =>?_⟩;obtain⟨a1,a2,a3⟩:=hm ht.t;have e1:wWHERE.length=5:=rfl;refine⟨?_,a3,by simp only[Zf1];omega⟩;simp only[Aa,Zh1,Zf1,Zi1,twt,Tv h2];omega
theorem A5a:Cns No (MS 7):=Bv (A6 (B0 wINTO) λ_=>A6 E3 λn=>A6 (B0 wVALUES) λ_=>Hh (P4 Av4)) λc s ⟨c1,c2,_,e1,h1,c3,c4,n,e2,hn,c5,c6,_,e3,h3,rs,hrs,e4⟩ ht hl=>by
 subst e1 e2 e3 e4;simp only[Zh1] at hl;obtain⟨n1,n2⟩:=hn ht.r.l;have w1:=(Hq h1).1;have w3:=(Hq h3).1;have e1:wINTO.length=4:=rfl;have e3:wVALUES.length=6:=rfl;have hl2:∀{c:TL}{l:List (List Xpr)},Lst (λc l=>TkA c->(Aow l).length<=twt c/\esizes l<=2*c.length/\Fq BdExpr l\/20000<c.length) c l->c.length<=3000->Lst (λc l=>TkA c->c.length<=3000/\(Aow l).length<=twt c/\esizes l<=2*c.length/\Fq BdExpr l) c l:=λ{c l} h=>by
  induction h with
  | @one c x h =>
   intro hc;exact .one λht=>by
    rcases h ht with h|h
    ·exact⟨hc,h⟩
    ·omega
  | @snoc c d k l x _ hk h ih =>
   intro hc;simp only[Zh1] at hc;refine .snoc (ih (by omega)) hk λht =>?_;rcases h ht with h|h
   ·exact⟨by omega,h⟩
   ·omega
 obtain⟨d1,d2,d3,d4⟩:=V8 (f:=Aow) (cm:=λ_=>0) (P:=λr=>esizes r<=6200/\Fq BdExpr r) (λc x hx ht=>by obtain⟨q1,q2,q3,q4⟩:=hx ht;exact⟨q2,by omega,by omega,q4⟩) (hl2 hrs (by omega)) ht.r.r.r
 obtain⟨b,f⟩:=An3 (k:=5) (n:=n) (o:=[]) (cols:=[]) (names:=[]) (l:=[]) (rows:=rs) (sets:=[]) (has:=false) (whr:=zX) (order:=[]) (desc:=[]) (most:=0) (by omega) n2 z30 zz Mm Aak ⟨by omega,d4⟩ zz zw Mm (by simp) (by omega);refine⟨b,f,?_⟩;show(Dh ⟨5,n,[],[],[],[],rs,[],false,zX,[],[],0⟩).length<=_;simp[Dh,B5];omega
def stQ(c:TL)(x:SetE):Prop:=TkA c->(A1g x).length<=twt c/\x.name.length<=30/\Bf x.e+1<=2*c.length/\BdExpr x.e
theorem Awl:Cns A2a stQ:=Bv (A6 E3 λn=>A6 (B0 [61]) λ_=>Hh Axp) λc x ⟨c1,c2,n,e1,hn,c3,c4,_,e2,h2,e,he,e3⟩ ht=>by subst e1 e2 e3;obtain⟨n1,n2⟩:=hn ht.l;obtain⟨a1,a2,a3⟩:=he ht.r.r;obtain⟨w2,w3⟩:=Hq h2;have e2:([61]:Str).length=1:=rfl;refine⟨?_,n2,by simp only[Zh1];omega,a3⟩;simp only[A1g,Zh1,B5,Zf1,Zi1];omega
theorem Bm7{c:TL}{l:List SetE}(h:Lst stQ c l):TkA c->∀x,x∈l->Bf x.e+1<=2*c.length:=by
 induction h with
 | @one c x h =>intro ht y hy;simp only[List.mem_cons,List.not_mem_nil,or_false] at hy;rw[hy];exact(h ht).2.2.1
 | @snoc c d k l x _ _ h ih =>
  intro ht y hy;simp only[Zh1];rcases List.mem_append.1 hy with hy|hy
  ·have:=ih ht.l y hy;omega
  ·simp only[List.mem_cons,List.not_mem_nil,or_false] at hy;rw[hy];have:=(h ht.r.r).2.2.1;omega
theorem A5u:Cns Jx (MS 7):=Bv (A6 E3 λn=>A6 (B0 wSET) λ_=>A6 (P4 Awl) λss=>Hh Afk) λc s ⟨c1,c2,n,e1,hn,c3,c4,_,e2,h2,c5,c6,ss,e3,hss,w,hw,e4⟩ ht hl=>by
 subst e1 e2 e3 e4;simp only[Zh1] at hl;obtain⟨n1,n2⟩:=hn ht.l;have w2:=(Hq h2).1;have e2:wSET.length=3:=rfl;have hz:=Bm7 hss ht.r.r.l;obtain⟨d1,d2,d3,d4⟩:=V8 (f:=A1g) (cm:=λ_=>0) (P:=λx=>x.name.length<=30/\BdExpr x.e) (λc x hx ht=>by obtain⟨q1,q2,q3,q4⟩:=hx ht;exact⟨q1,by omega,q2,q4⟩) hss ht.r.r.l
 obtain⟨v1,v2,v3⟩:=hw ht.r.r.r;obtain⟨b,f⟩:=An3 (k:=6) (n:=n) (o:=[]) (cols:=[]) (names:=[]) (l:=[]) (rows:=[]) (sets:=ss) (has:=w.1) (whr:=w.2) (order:=[]) (desc:=[]) (most:=0) (by omega) n2 z30 zz Mm Aak zz ⟨by omega,λx hx=>⟨(d4 x hx).1,by have:=hz x hx;omega,(d4 x hx).2⟩⟩ ⟨v2,by omega⟩ Mm (by simp) (by omega);refine⟨b,f,?_⟩;show(Dh ⟨6,n,[],[],[],[],[],ss,w.1,w.2,[],[],0⟩).length<=_;have e9:Dh ⟨6,n,[],[],[],[],[],ss,w.1,w.2,[],[],0⟩=[85,80,68,65,84,69,32]++(n++[32,83,69,84,32])++Cy A1g ss++cond w.1 ([32,87,72,69,82,69,32]++etx w.2) []:=rfl;rw[e9];simp only[Zh1,B5,Zf1,Zi1] at v1 ⊢;omega
theorem A26:Cns M0 (MS 7):=Bv (A6 (B0 wFROM) λ_=>A6 E3 λn=>Hh Afk) λc s ⟨c1,c2,_,e1,h1,c3,c4,n,e2,hn,w,hw,e4⟩ ht hl=>by subst e1 e2 e4;simp only[Zh1] at hl;obtain⟨n1,n2⟩:=hn ht.r.l;have w1:=(Hq h1).1;have e1:wFROM.length=4:=rfl;obtain⟨v1,v2,v3⟩:=hw ht.r.r;obtain⟨b,f⟩:=An3 (k:=7) (n:=n) (o:=[]) (cols:=[]) (names:=[]) (l:=[]) (rows:=[]) (sets:=[]) (has:=w.1) (whr:=w.2) (order:=[]) (desc:=[]) (most:=0) (by omega) n2 z30 zz Mm Aak zz zz ⟨v2,by omega⟩ Mm (by simp) (by omega);refine⟨b,f,?_⟩;show(Dh ⟨7,n,[],[],[],[],[],[],w.1,w.2,[],[],0⟩).length<=_;have e9:Dh ⟨7,n,[],[],[],[],[],[],w.1,w.2,[],[],0⟩=[68,69,76,69,84,69,32,70,82,79,77,32]++n++cond w.1 ([32,87,72,69,82,69,32]++etx w.2) []:=rfl;rw[e9];simp only[Zh1,B5,Zf1,Zi1] at v1 ⊢;omega
theorem Bh7:Cns Aa1 λc l=>TkA c->(cond (decide ((l.length:Int)=0)) [42] []++Cy etx l:Str).length<=twt c/\esizes l<=2*c.length/\l.length<=c.length+1/\∀x,x∈l->BdExpr x:=Bv (Af1 [42] (Iv ([]:List Xpr)) (P4 Axp)) λc l h ht=>by
 rcases h with ⟨k,d,rfl,hk,rfl,rfl⟩|h
 ·obtain⟨k1,k2⟩:=Hq hk;have e:([42]:Str).length=1:=rfl;refine⟨?_,by simp[esizes],by simp,λ_ h=>by cases h⟩;rw[List.append_nil,k1];simp[Cy]
 ·have hne:=Bkq h;have h2:=V8 (f:=etx) (cm:=λe=>1+Bf e) (P:=BdExpr) (λc x hx ht=>by obtain⟨a1,a2,a3⟩:=hx ht;exact⟨a1,by omega,a3⟩) h ht
  rw[<-Ai7] at h2;have hl:decide ((l.length:Int)=0)=false:=Zd1 λe=>hne (List.eq_nil_of_length_eq_zero (by omega));rw[hl];exact h2
def odQ(c:TL)(x:Str×Bool):Prop:=TkA c->(Ain x).length<=twt c/\x.1.length<=30
theorem Avn:Cns Au3 odQ:=by
 have hd:Cns Xx λc b=>(cond b [32,68,69,83,67] []:Str).length<=twt c:=Bv (Af1 wDESC (Iv true) (Af1 Bce (Iv false) (Iv false))) λc b h=>by
  rcases h with ⟨k,d,rfl,hk,rfl,rfl⟩|⟨k,d,rfl,hk,rfl,rfl⟩|⟨rfl,rfl⟩
  ·have e:wDESC.length=4:=rfl;rw[List.append_nil,(Hq hk).1];simp only[Aa,Zf1,Zi1];omega
  ·simp
  ·simp
 exact Bv (A6 E3 λn=>Hh hd) λc x ⟨c1,c2,n,e1,hn,d,h2,e2⟩ ht=>by subst e1 e2;obtain⟨n1,n2⟩:=hn ht.l;refine⟨?_,n2⟩;simp only[Ain,Zh1,B5];omega
def orQ(c:TL)(o:List (Str×Bool)):Prop:=TkA c->(cond (decide (0<(o.length:Int))) [32,79,82,68,69,82,32,66,89,32] []++Cy Ain o:Str).length<=twt c/\o.length<=c.length+1/\∀x,x∈o->x.1.length<=30
theorem Bbr:Cns Et orQ:=Bv (Af1 wORDER (A6 (B0 wBY) λ_=>P4 Avn) (Iv ([]:List (Str×Bool)))) λc o h ht=>by
 rcases h with ⟨k,d,rfl,hk,c1,c2,_,rfl,h1,h2⟩|⟨rfl,rfl⟩
 ·obtain⟨d1,d2,d3,d4⟩:=V8 (f:=Ain) (cm:=λ_=>0) (P:=λx=>x.1.length<=30) (λc x hx ht=>⟨(hx ht).1,by omega,(hx ht).2⟩) h2 ht.r.r;have e1:wORDER.length=5:=rfl;have e2:wBY.length=2:=rfl;have w1:=(Hq hk).1;have w2:=(Hq h1).1;refine⟨?_,by simp only[Zh1];omega,d4⟩;have hb:(cond (decide (0<(o.length:Int))) [32,79,82,68,69,82,32,66,89,32] []:Str).length<=10:=by cases decide (0<(o.length:Int))<;>simp
  simp only[Zh1,B5];omega
 ·exact⟨by simp[Cy],by simp,λ_ h=>by cases h⟩
def lmQ(c:TL)(m:Int):Prop:=TkA c->(cond (decide (0<=m)) ([32,76,73,77,73,84,32]++Ds ⟨3,m,[]⟩) []:Str).length<=twt c /\ -1<=m/\m<=9223372036854775807
theorem Bpb:Cns Amn λc m=>TkA c->(Ds ⟨3,m,[]⟩).length+4<=twt c/\0<=m/\m<=9223372036854775807:=λl e l' hp=>by
 cases l with
 |nil=>cases hp
 |cons t r =>
  simp only[Amn] at hp;cases hk:decide (t.kind=3) with
  |false=>rw[hk] at hp;cases hp
  |true =>
   rw[hk] at hp;cases hp;have hk:=of_decide_eq_true hk;refine⟨[t],rfl,λht =>?_⟩;obtain⟨b1,b2,b3,b4,b5,b6,b7⟩:=ht.h;have e:Ds ⟨3,t.n,[]⟩=Ayq t.n.natAbs:=by rw[<-Axg b3];rfl
   have:=b6 hk;refine⟨?_,b3,b4⟩;rw[e];simp only[twt,tW];rw[if_neg (by omega),if_neg (by omega)];omega
theorem Bbc:Cns Cd lmQ:=Bv (Af1 wLIMIT Bpb (Iv (-1:Int))) λc m h ht=>by
 rcases h with ⟨k,d,rfl,hk,h⟩|⟨rfl,rfl⟩
 ·obtain⟨h1,h2,h3⟩:=h ht.r;have e1:wLIMIT.length=5:=rfl;have w1:=(Hq hk).1;refine⟨?_,by omega,h3⟩;rw[Ze1 h2];simp only[Aa,Zh1,Zf1,Zi1,B5];omega
 ·exact⟨by simp,by omega,by omega⟩
theorem Bf2:∀o:List (Str×Bool),(o.map (·.1)).zip (o.map (·.2))=o
 |[]=>rfl
 |p::o=>by simp only[Zw1,List.zip_cons_cons,Bf2 o]
theorem A2s:Cns G2 (MS 7):=Bv (A6 Bh7 λes=>A6 (B0 wFROM) λ_=>A6 E3 λn=>A6 Afk λw=>A6 Bbr λo=>Hh Bbc) λc s ⟨c1,c2,es,e1,hes,c3,c4,_,e2,h2,c5,c6,n,e3,hn,c7,c8,w,e4,hw,c9,c10,o,e5,ho,m,hm,e6⟩ ht hl=>by
 subst e1 e2 e3 e4 e5 e6;simp only[Zh1] at hl;obtain⟨x1,x2,x3,x4⟩:=hes ht.l;have w2:=(Hq h2).1;have e2:wFROM.length=4:=rfl;obtain⟨n1,n2⟩:=hn ht.r.r.l;obtain⟨v1,v2,v3⟩:=hw ht.r.r.r.l;obtain⟨o1,o2,o3⟩:=ho ht.r.r.r.r.l;obtain⟨m1,m2⟩:=hm ht.r.r.r.r.r;obtain⟨b,f⟩:=An3 (k:=8) (n:=n) (o:=[]) (cols:=[]) (names:=[]) (l:=es) (rows:=[]) (sets:=[]) (has:=w.1) (whr:=w.2) (order:=o.map (·.1)) (desc:=o.map (·.2)) (most:=m) (by omega) n2 z30 zz Mm ⟨by omega,by omega,x4⟩ zz zz ⟨v2,by omega⟩ ⟨by rw[List.length_map];omega,λx hx=>by obtain⟨p,hp,rfl⟩:=List.mem_map.1 hx;exact o3 p hp⟩ (by rw[List.length_map];omega) m2
 refine⟨b,f,?_⟩;show(Dh ⟨8,n,[],[],[],es,[],[],w.1,w.2,o.map (·.1),o.map (·.2),m⟩).length<=_;have e9:Dh ⟨8,n,[],[],[],es,[],[],w.1,w.2,o.map (·.1),o.map (·.2),m⟩=[83,69,76,69,67,84,32]++cond (decide ((es.length:Int)=0)) [42] []++Cy etx es++([32,70,82,79,77,32]++n)++cond w.1 ([32,87,72,69,82,69,32]++etx w.2) []++cond (decide (0<((o.map (·.1)).length:Int))) [32,79,82,68,69,82,32,66,89,32] []++Cy Ain ((o.map (·.1)).zip (o.map (·.2)))++cond (decide (0<=m)) ([32,76,73,77,73,84,32]++Ds ⟨3,m,[]⟩) []:=rfl;rw[e9,Bf2,List.length_map];simp only[Zh1,B5,Zf1,Zi1] at v1 x1 o1 m1 ⊢;omega
theorem Bk5:Cns Fo (MS 0):=by have hc:Cns G1 (MS 7):=Ti (W:=Uo) Ba5 Bc3 (by decide);have h5:Cns Bu1 (MS 0):=Ti (W:=Ec) A2s (q:=λl =>.error l) (λ_ _ _ h=>by cases h) (by decide);have h4:Cns Bus (MS 0):=Ti (W:=Fe) A26 h5 (by decide);have h3:Cns Bvf (MS 0):=Ti (W:=F0) A5u h4 (by decide);have h2:Cns Bvd (MS 0):=Ti (W:=F1) A5a h3 (by decide);have h1:Cns Btf (MS 0):=Ti (W:=Ov) Bh9 h2 (by decide);rw[Brr];exact Ti (W:=G0) hc h1 (by decide)
theorem Bjj{s:Str}{ts:TL}{x:Stm}(hs:s.length<=3000)(h:Lp.Sc s 0 ts)(ho:L4 ts = .ok x):BdStm x/\Few x/\(Dh x).length<=15000:=by
 obtain⟨f1,f2⟩:=Axz h (by omega);have f3:=A1s h;unfold L4 at ho;cases hq:Fo ts with
 |error q=>rw[hq] at ho;cases ho
 |ok y =>obtain⟨y,l⟩:=y;rw[hq] at ho;simp only at ho;cases hl:Sy l with|cons t r=>rw[hl] at ho;cases ho|nil =>rw[hl] at ho;cases ho;obtain⟨c,hc,hm⟩:=Bk5 ts x l hq;subst hc;rw[B5] at f2;rw[Zh1] at f3;obtain⟨a,b,d⟩:=hm f1.l (by omega);exact⟨a,b,by omega⟩
theorem Arm(L:TL)(g:GotS):A0 L g [73,78,68,69,88]=aft L [wINDEX] g:=by kernel_rfl
theorem Brq(L:TL)(g:GotS):A0 L g [79,78]=aft L [wON] g:=by kernel_rfl
theorem Blp(L:TL)(g:GotS):A0 L g [73,78,84,79]=aft L [wINTO] g:=by kernel_rfl
theorem A4m(L:TL)(g:GotS):A0 L g [86,65,76,85,69,83]=aft L [wVALUES] g:=by kernel_rfl
theorem Bo7(L:TL)(g:GotS):A0 L g [83,69,84]=aft L [wSET] g:=by kernel_rfl
theorem An7(L:TL)(g:GotS):A0 L g [70,82,79,77]=aft L [wFROM] g:=by kernel_rfl
theorem Ba2(L:TL)(g:GotS):A0 L g [79,82,68,69,82,32,66,89]=aft L [wORDER,wBY] g:=by kernel_rfl
theorem A7m(L:TL)(g:GotS):A0 L g [80,82,73,77,65,82,89,32,75,69,89]=aft L [wPRIMARY,wKEY] g:=by kernel_rfl
theorem Apw(L:TL)(g:GotS):A0 L g [44,32,67,72,69,67,75,32,40]=aft L [[44],wCHECK,[40]] g:=by kernel_rfl
theorem Bh3(e:Xpr):Xpr.mk e.kind ⟨e.v.kind,e.v.n,e.v.s⟩ e.name e.l=e:=Ez e
section
variable {L:TL}{γ:Type}
theorem Biv(hL:L.length<=1000000000){K:Bool->Xpr->GotS->Option (γ×GotS)}{f:Bool×Xpr->TL->PR γ}{j:Nat}(hj:j<=L.length)(hK:∀b x (q:Nat),q<=L.length->Bc L (K b x ⟨(q:Int),false⟩) (f (b,x) (L.drop q)))(hKb:∀b x (q:Nat),A4 (K b x ⟨(q:Int),true⟩) q):Bc L ((gis L ⟨(j:Int),false⟩ [87,72,69,82,69]).bind λb=>cond b ((Kr L ⟨wr .i64 ((j:Int)+1),false⟩ 1).bind λz=>K true z.1 z.2) (K false zX ⟨(j:Int),false⟩)) (bP Ek f (L.drop j)):=by
 simp only[Gs,Zc1];cases h:isT wWHERE (L.drop j) with
 |false =>
  have h':isT [87,72,69,82,69] (L.drop j)=false:=h;have e:bP Ek f (L.drop j)=f (false,zX) (L.drop j):=by simp only[bP,Ek,h]
  rw[h',e];exact hK false zX j hj
 |true =>
  have h':isT [87,72,69,82,69] (L.drop j)=true:=h;obtain⟨j1,j2⟩:=B6 h;have e:bP Ek f (L.drop j)=bP orW (λe=>f (true,e)) (L.drop (j+1)):=by simp only[bP,Ek,h,j2];cases orW (L.drop (j+1))<;>rfl
  rw[h',e,Aa,N1 (by omega)];exact Bc.bind (Ju hL) j1 (by omega) (λr q hq _=>hK true r q hq) (λr q=>hKb true r q)
theorem Aqf{K:Bool->Xpr->GotS->Option (γ×GotS)}{A:Option (γ×GotS)}(j:Nat)(hKb:∀b x (q:Nat),A4 (K b x ⟨(q:Int),true⟩) q):A4 ((gis L ⟨(j:Int),true⟩ [87,72,69,82,69]).bind λb=>cond b A (K false zX ⟨(j:Int),true⟩)) j:=by simp only[H5,Zc1,Af];exact hKb false zX j
theorem Bhq(hL:L.length<=1000000000){i:Nat}(hi:i<=L.length):Bc L ((A0 L ⟨(i:Int),false⟩ [73,78,68,69,88]).bind λa=>(Dm L a).bind λ(b,c)=>(A0 L c [79,78]).bind λd=>(Dm L d).bind λ(e,f)=>(Sd L f).bind λ(g,h)=>some ((Stm.mk 3 b e [] g [] [] [] false (Xpr.mk 0 ⟨0,0,[]⟩ [] []) [] [] 0),h)) (Zu (L.drop i)):=by simp only[Arm,Brq];have nm:=Cb hL (L.length+1);unfold Zu;refine Bc.must hL hi (λj _ hj _=>Bc.bind nm hj (by omega) (λn q hq _=>Bc.must hL hq (λj2 _ hj2 _=>Bc.bind nm hj2 (by omega) (λo q2 hq2 _=>Bc.bind (F8 hL) hq2 (by omega) (λns q3 hq3 _ =>.ok hq3) (λns q3=>A4.bd)) (λo q2=>A4.bind (F8 hL) λns=>A4.bd)) (λj2=>A4.bind nm λo=>A4.bind (F8 hL) λns=>A4.bd)) (λn q=>A4.must (A4.bind nm λo=>A4.bind (F8 hL) λns=>A4.bd))) (λj=>A4.bind nm λn=>A4.must (A4.bind nm λo=>A4.bind (F8 hL) λns=>A4.bd))
theorem Bl8(hL:L.length<=1000000000){i:Nat}(hi:i<=L.length):Bc L (Hc L ⟨(i:Int),false⟩ Ov) (Xy (L.drop i)):=by
 have d1:decide (Ov=[67,82,69,65,84,69])=false:=by decide
 have d2:decide (Ov=[68,82,79,80])=true:=by decide
 have nm:=Cb hL (L.length+1);simp only[Hc,Fh,d1,d2,Aa,Af,Gs,Zc1,Arm];cases h:isT Uo (L.drop i) with
 |true =>
  have h':isT [84,65,66,76,69] (L.drop i)=true:=h;obtain⟨i1,i2⟩:=B6 h;have e:Xy (L.drop i)=bP Bt (λn=>Bg { zS with kind:=2,name:=n }) (L.drop (i+1)):=by simp only[Xy,h,i2]
  rw[h',e,N1 (by omega)];exact Bc.bind nm i1 (by omega) (λn q hq _ =>.ok hq) (λn q=>A4.bd)
 |false =>
  have h':isT [84,65,66,76,69] (L.drop i)=false:=h;have e:Xy (L.drop i)=bP (Ay [wINDEX]) (λ_=>bP Bt λn=>Bg { zS with kind:=4,name:=n }) (L.drop i):=by simp only[Xy,h]
  rw[h',e];exact Bc.must hL hi (λj _ hj _=>Bc.bind nm hj (by omega) (λn q hq _ =>.ok hq) (λn q=>A4.bd)) (λj=>A4.bind nm λn=>A4.bd)
theorem Bcw(hL:L.length<=1000000000){i:Nat}(hi:i<=L.length):Bc L (Hc L ⟨(i:Int),false⟩ Fe) (M0 (L.drop i)):=by
 have d1:decide (Fe=[67,82,69,65,84,69])=false:=by decide
 have d2:decide (Fe=[68,82,79,80])=false:=by decide
 have d3:decide (Fe=[73,78,83,69,82,84])=false:=by decide
 have d4:decide (Fe=[85,80,68,65,84,69])=false:=by decide
 have d5:decide (Fe=[68,69,76,69,84,69])=true:=by decide
 have nm:=Cb hL (L.length+1);simp only[Hc,Fh,d1,d2,d3,d4,d5,Aa,Af,An7,Ez];unfold M0;exact Bc.must hL hi (λj _ hj _=>Bc.bind nm hj (by omega) (λn q hq _=>Biv (K:=λb x g=>some ((Stm.mk 7 n [] [] [] [] [] [] b x [] [] 0),g)) hL hq (λb x q2 hq2 =>.ok hq2) (λb x q2=>A4.bd)) (λn q=>Aqf (K:=λb x g=>some ((Stm.mk 7 n [] [] [] [] [] [] b x [] [] 0),g)) q (λb x q2=>A4.bd))) (λj=>A4.bind nm λn=>Aqf (K:=λb x g=>some ((Stm.mk 7 n [] [] [] [] [] [] b x [] [] 0),g)) j (λb x q2=>A4.bd))
theorem Zg{α:Type}{p:TL->PR α}{Q:TL->α->Prop}(h:Cns p Q):Lep p:=λl e l' hp=>by obtain⟨c,hc,_⟩:=h l e l' hp;rw[hc,Zh1];omega
theorem A0q(hL:L.length<=1000000000):SimG L (L.length+1) (λg=>(A0 L g [40]).bind λa=>(Up L a).bind λz=>(A0 L z.2 [41]).bind λb=>some (z.1,b)) A30 :=.of (λi hi _=>by
 simp only[Ady,N7];unfold A30;exact Bc.must hL hi (λj _ hj _=>Bc.bind (R6 hL) hj (by omega) (λr q hq _=>Bc.must hL hq (λj2 _ hj2 _ =>.ok hj2) (λj2=>A4.bd)) (λr q=>A4.must A4.bd)) (λj=>A4.bind (R6 hL) λr=>A4.must A4.bd)) (λi=>by
 simp only[Ady,N7];exact A4.must (A4.bind (R6 hL) λr=>A4.must A4.bd))
theorem Beb(hL:L.length<=1000000000){i:Nat}(hi:i<=L.length):Bc L (Hc L ⟨(i:Int),false⟩ F1) (No (L.drop i)):=by
 have d1:decide (F1=[67,82,69,65,84,69])=false:=by decide
 have d2:decide (F1=[68,82,79,80])=false:=by decide
 have d3:decide (F1=[73,78,83,69,82,84])=true:=by decide
 have nm:=Cb hL (L.length+1);simp only[Hc,Fh,d1,d2,d3,Aa,Af,Blp,A4m];unfold No;have hst:∀(n:Str) (rec:Wi->Option (Stm×GotS)) (acc:List (List Xpr)) (g:GotS),acc.length<=1000000000->Aay rec (λe vz=>match vz with|(_,_,_,_,_,_,_,_,_,_,_,_,_,_,_,_,_,_,_,_,_,_,_,_,_,_,_,_,_,_,_,_,_,_,_,_,_,_,_,a,d,f,h,k,l,o,p,r,s,t,u,v,w,x,y,a0,a1,a2)=>match e with
  |.ret=>some ((Stm.mk a d f h k l o p r (Xpr.mk s ⟨t,u,v⟩ w x) y a0 a1),a2)
  |_=>none) (L,0,[],[],[],[],[],[],[],false,0,0,0,[],[],[],[],[],0,(GotS.mk 0 false),g,5,n,[],[],[],[],acc,[],false,0,0,0,[],[],[],[],[],0,0,[],[],[],[],[],[],[],false,0,0,0,[],[],[],[],[],0,(GotS.mk 0 false))=((A0 L g [40]).bind λa3=>(Up L a3).bind λz=>(A0 L z.2 [41]).bind λa4=>some (z.1,a4)).bind λz=>(gis L z.2 [44]).bind λb=>cond (!b) (some ((Stm.mk 5 n [] [] [] [] (acc++[z.1]) [] false zX [] [] 0),z.2)) (rec (L,0,[],[],[],[],[],[],[],false,0,0,0,[],[],[],[],[],0,(GotS.mk 0 false),⟨wr .i64 (z.2.pos+1),z.2.bad⟩,5,n,[],[],[],[],acc++[z.1],[],false,0,0,0,[],[],[],[],[],0,0,[],[],[],[],[],[],[],false,0,0,0,[],[],[],[],[],0,(GotS.mk 0 false))):=λn rec acc g ha=>by
  have hm:decide (acc.length+1<=Al)=true:=Ze1 (by simp only[Al];omega);simp only[Aay,hm,chk,Aa,Option.bind_assoc,Zc1];rfl
 refine Bc.must hL hi (λj _ hj _=>Bc.bind nm hj (by omega) (λn q hq _=>Bc.must hL hq (λj2 _ hj2 _ =>?_) (λj2 =>?_)) (λn q=>A4.must ?_)) (λj=>A4.bind nm λn=>A4.must ?_)
 ·rw[T5 (Zg Av4) (m:=L.length+1) (by rw[Za2];omega)];exact Aq5 (c:=λacc g=>some ((Stm.mk 5 n [] [] [] [] acc [] false zX [] [] 0),g)) hL (A0q hL) (Zg Av4) (hst n) (λacc q hq =>.ok hq) (λacc q=>A4.bd) (L.length+3) (L.length+1) [] j2 hj2 (by omega) (by omega) (by simp only[Zi1];omega)
 all_goals exact Pp (c:=λacc g=>some ((Stm.mk 5 n [] [] [] [] acc [] false zX [] [] 0),g)) (A0q hL) (hst n) (λacc q=>A4.bd) (L.length+2) [] (by simp) _
end
section
variable {L:TL}
theorem Axs(hL:L.length<=1000000000):SimG L (L.length+1) (λg=>(Dm L g).bind λy=>(A0 L y.2 [61]).bind λa=>(Kr L a 1).bind λz=>some (SetE.mk y.1 z.1,z.2)) A2a :=.of (λi hi _=>by
 simp only[Bgo];unfold A2a;exact Bc.bind (Cb hL (L.length+1)) hi (by omega) (λn q hq _=>Bc.must hL hq (λj _ hj _=>Bc.bind (Ju hL) hj (by omega) (λr q2 hq2 _ =>.ok hq2) (λr q2=>A4.bd)) (λj=>A4.bind (Ju hL) λr=>A4.bd)) (λn q=>A4.must (A4.bind (Ju hL) λr=>A4.bd))) (λi=>by
 simp only[Bgo];exact A4.bind (Cb hL (L.length+1)) λn=>A4.must (A4.bind (Ju hL) λr=>A4.bd))
def A71(n:Str)(acc:List SetE)(b:Bool)(x:Xpr)(g:GotS):Option (Stm×GotS):=some ((Stm.mk 6 n [] [] [] [] [] acc b x [] [] 0),g)
def Az1(L:TL)(n:Str)(acc:List SetE)(g:GotS):Option (Stm×GotS):=(gis L g [87,72,69,82,69]).bind λb=>cond b ((Kr L ⟨wr .i64 (g.pos+1),false⟩ 1).bind λz=>A71 n acc true z.1 z.2) (A71 n acc false zX g)
theorem Bdj(hL:L.length<=1000000000){i:Nat}(hi:i<=L.length):Bc L (Hc L ⟨(i:Int),false⟩ F0) (Jx (L.drop i)):=by
 have d1:decide (F0=[67,82,69,65,84,69])=false:=by decide
 have d2:decide (F0=[68,82,79,80])=false:=by decide
 have d3:decide (F0=[73,78,83,69,82,84])=false:=by decide
 have d4:decide (F0=[85,80,68,65,84,69])=true:=by decide
 have nm:=Cb hL (L.length+1);simp only[Hc,Fh,d1,d2,d3,d4,Aa,Af,Bo7];unfold Jx;have hst:∀(n:Str) (rec:Wd->Option (Stm×GotS)) (acc:List SetE) (g:GotS),acc.length<=1000000000->Ab7 rec (λe vz=>match vz with|(_,_,_,_,_,_,_,_,_,_,_,_,_,_,_,_,_,_,_,_,_,_,_,_,_,_,_,_,_,_,_,_,_,_,_,_,_,_,_,a,d,h,k,l,o,p,r,s,t,u,v,a0,a1,a2,a3,a4,a5,a6)=>match e with
  |.ret=>some ((Stm.mk a d h k l o p r s (Xpr.mk t ⟨u,v,a0⟩ a1 a2) a3 a4 a5),a6)
  |_=>none) (L,0,[],[],[],[],[],[],[],false,0,0,0,[],[],[],[],[],0,(GotS.mk 0 false),g,6,n,[],[],[],[],[],acc,false,0,0,0,[],[],[],[],[],0,0,[],[],[],[],[],[],[],false,0,0,0,[],[],[],[],[],0,(GotS.mk 0 false))=((Dm L g).bind λy=>(A0 L y.2 [61]).bind λa7=>(Kr L a7 1).bind λz=>some (SetE.mk y.1 z.1,z.2)).bind λz=>(gis L z.2 [44]).bind λb=>cond (!b) (Az1 L n (acc++[z.1]) z.2) (rec (L,0,[],[],[],[],[],[],[],false,0,0,0,[],[],[],[],[],0,(GotS.mk 0 false),⟨wr .i64 (z.2.pos+1),z.2.bad⟩,6,n,[],[],[],[],[],acc++[z.1],false,0,0,0,[],[],[],[],[],0,0,[],[],[],[],[],[],[],false,0,0,0,[],[],[],[],[],0,(GotS.mk 0 false))):=λn rec acc g ha=>by
  have hm:decide (acc.length+1<=Al)=true:=Ze1 (by simp only[Al];omega);simp only[Ab7,hm,chk,Aa,Option.bind_assoc,Zc1,Ez,Bh3];rfl
 have hc:∀n acc (q:Nat),q<=L.length->Bc L (Az1 L n acc ⟨(q:Int),false⟩) (bP Ek (λw=>Bg { zS with kind:=6,name:=n,sets:=acc,has:=w.1,whr:=w.2 }) (L.drop q)):=λn acc q hq=>Biv (K:=A71 n acc) hL hq (λb x q2 hq2 =>.ok hq2) (λb x q2=>A4.bd);have hcb:∀n acc (q:Nat),A4 (Az1 L n acc ⟨(q:Int),true⟩) q:=λn acc q=>Aqf (K:=A71 n acc) q (λb x q2=>A4.bd);refine Bc.bind nm hi (by omega) (λn q hq _=>Bc.must hL hq (λj _ hj _ =>?_) (λj =>?_)) (λn q=>A4.must ?_)
 ·rw[T5 (Zg Awl) (m:=L.length+1) (by rw[Za2];omega)];exact Aq5 (c:=λacc g=>Az1 L n acc g) (f:=λacc=>bP Ek (λw=>Bg { zS with kind:=6,name:=n,sets:=acc,has:=w.1,whr:=w.2 })) hL (Axs hL) (Zg Awl) (hst n) (λacc q hq=>hc n acc q hq) (λacc q=>hcb n acc q) (L.length+3) (L.length+1) [] j hj (by omega) (by omega) (by simp only[Zi1];omega)
 all_goals exact Pp (c:=λacc g=>Az1 L n acc g) (Axs hL) (hst n) (λacc q=>hcb n acc q) (L.length+2) [] (by simp) _
def P7(L:TL)(S:Int->Stm)(g:GotS):Option (Stm×GotS):=(gis L g [76,73,77,73,84]).bind λb=>cond b ((Ae6 L ⟨wr .i64 (g.pos+1),g.bad⟩).bind λt=>cond (!decide (t.kind=3)) (some (S (-1),⟨wr .i64 (g.pos+1),true⟩)) (some (S t.n,⟨wr .i64 (wr .i64 (g.pos+1)+1),g.bad⟩))) (some (S (-1),g))
theorem A1j(hL:L.length<=1000000000)(S:Int->Stm){j:Nat}(hj:j<=L.length):Bc L (P7 L S ⟨(j:Int),false⟩) (bP Cd (λm=>Bg (S m)) (L.drop j)):=by
 have w0:wr .i64 ((j:Int)+1)=((j+1:Nat):Int):=N1 (by omega);have w1:wr .i64 (((j+1:Nat):Int)+1)=((j+2:Nat):Int):=N1 (by omega);simp only[P7,Gs,Zc1,w0,w1,Rb];cases h:isT wLIMIT (L.drop j) with
 |false =>
  have h':isT [76,73,77,73,84] (L.drop j)=false:=h;have e:bP Cd (λm=>Bg (S m)) (L.drop j) = .ok (S (-1),L.drop j):=by simp only[bP,Cd,h];rfl
  rw[h',e];exact .ok hj
 |true =>
  have h':isT [76,73,77,73,84] (L.drop j)=true:=h;obtain⟨j1,j2⟩:=B6 h;have e:bP Cd (λm=>Bg (S m)) (L.drop j)=bP Amn (λm=>Bg (S m)) (L.drop (j+1)):=by simp only[bP,Cd,h,j2]
  rw[h',e,Aa];by_cases hl:j+1<L.length
  ·have key:∀t:Ax.Tok,Bc L (cond (!decide (t.kind=3)) (some (S (-1),(⟨((j+1:Nat):Int),true⟩:GotS))) (some (S t.n,⟨((j+2:Nat):Int),false⟩))) (match decide (t.kind=3) with
     |true =>.ok (S t.n,L.drop (j+2))
     |false =>.error (L.drop (j+1))):=λt=>by
    cases decide (t.kind=3) with|true=>exact .ok (show j+2<=L.length by omega)|false=>exact .er j1
   obtain⟨t,ht⟩:∃t,L.drop (j+1)=t::L.drop (j+2):=⟨L[j+1],An hl⟩;have hh:hd0 (L.drop (j+1))=t:=by rw[ht];rfl
   have e2:bP Amn (λm=>Bg (S m)) (L.drop (j+1))=match decide (t.kind=3) with
     |true =>.ok (S t.n,L.drop (j+2))
     |false =>.error (L.drop (j+1)):=by
    rw[ht];simp only[bP,Amn];cases decide (t.kind=3)<;>rfl
   rw[hh,e2];exact key t
  ·have hd:L.drop (j+1)=[]:=Zk1 (by omega);rw[hd];exact⟨j+1,S (-1),j1,hd.symm,rfl⟩
theorem Anp(S:Int->Stm)(j:Nat):A4 (P7 L S ⟨(j:Int),true⟩) j:=by simp only[P7,H5,Zc1,Af];exact A4.bd
def Axf(L:TL)(g:GotS):Option ((Str×Bool)×GotS):=(Dm L g).bind λy=>(gis L y.2 [68,69,83,67]).bind λd=>cond d (some ((y.1,d),⟨wr .i64 (y.2.pos+1),y.2.bad⟩)) ((gis L y.2 [65,83,67]).bind λa=>cond a (some ((y.1,d),⟨wr .i64 (y.2.pos+1),y.2.bad⟩)) (some ((y.1,d),y.2)))
theorem A0j(hL:L.length<=1000000000):SimG L (L.length+1) (Axf L) Au3 :=.of (λi hi _=>by
 unfold Axf Au3;refine Bc.bind (Cb hL (L.length+1)) hi (by omega) (λn q hq _ =>?_) (λn q =>?_)
 ·have w0:wr .i64 ((q:Int)+1)=((q+1:Nat):Int):=N1 (by omega);simp only[Gs,Zc1,w0];cases h1:isT wDESC (L.drop q) with
  |true =>
   have h':isT [68,69,83,67] (L.drop q)=true:=h1;obtain⟨q1,q2⟩:=B6 h1;have e:bP Xx (λd=>Bg (n,d)) (L.drop q) = .ok ((n,true),L.drop (q+1)):=by simp only[bP,Xx,h1,q2];rfl
   rw[h',e];exact .ok q1
  |false =>
   have h':isT [68,69,83,67] (L.drop q)=false:=h1;rw[h',Af];cases h2:isT Bce (L.drop q) with
   |true =>
    have h'':isT [65,83,67] (L.drop q)=true:=h2;obtain⟨q1,q2⟩:=B6 h2;have e:bP Xx (λd=>Bg (n,d)) (L.drop q) = .ok ((n,false),L.drop (q+1)):=by simp only[bP,Xx,h1,h2,q2];rfl
    rw[h'',e];exact .ok q1
   |false =>
    have h'':isT [65,83,67] (L.drop q)=false:=h2;have e:bP Xx (λd=>Bg (n,d)) (L.drop q) = .ok ((n,false),L.drop q):=by simp only[bP,Xx,h1,h2];rfl
    rw[h'',e];exact .ok hq
 ·simp only[H5,Zc1,Af];exact A4.bd) (λi=>by
 refine A4.bind (Cb hL (L.length+1)) λn =>?_;simp only[H5,Zc1,Af];exact A4.bd)
def Xs(n:Str)(es:List Xpr)(b:Bool)(x:Xpr)(o:List (Str×Bool))(m:Int):Stm:=Stm.mk 8 n [] [] [] es [] [] b x (o.map (·.1)) (o.map (·.2)) m
theorem Bpi{α β:Type}(f : α->β)(l:List α)(x : α):(l++[x]).map f=l.map f++[f x]:=by simp
theorem Bmo(hL:L.length<=1000000000){V:Type}{step:(V->Option (Stm×GotS))->V->Option (Stm×GotS)}{st:List (Str×Bool)->GotS->V}{S:List (Str×Bool)->Int->Stm}(hst:∀rec acc g,acc.length<=1000000000->step rec (st acc g)=(Axf L g).bind λz=>(gis L z.2 [44]).bind λb=>cond (!b) (P7 L (S (acc++[z.1])) z.2) (rec (st (acc++[z.1]) ⟨wr .i64 (z.2.pos+1),z.2.bad⟩))){j:Nat}(hj:j<=L.length):Bc L ((gis L ⟨(j:Int),false⟩ [79,82,68,69,82]).bind λb=>cond b ((A0 L ⟨(j:Int),false⟩ [79,82,68,69,82,32,66,89]).bind λg=>Ak step (L.length+3) (st [] g)) (P7 L (S []) ⟨(j:Int),false⟩)) (bP Et (λo=>bP Cd λm=>Bg (S o m)) (L.drop j)):=by
 simp only[Gs,Zc1,Ba2];cases h:isT wORDER (L.drop j) with
 |false =>
  have h':isT [79,82,68,69,82] (L.drop j)=false:=h;have e:bP Et (λo=>bP Cd λm=>Bg (S o m)) (L.drop j)=bP Cd (λm=>Bg (S [] m)) (L.drop j):=by simp only[bP,Et,h]
  rw[h',e];exact A1j hL (S []) hj
 |true =>
  have h':isT [79,82,68,69,82] (L.drop j)=true:=h;have e:bP Et (λo=>bP Cd λm=>Bg (S o m)) (L.drop j)=bP (Ay [wORDER,wBY]) (λ_=>bP (Im Au3) (λo=>bP Cd λm=>Bg (S o m))) (L.drop j):=by simp only[bP,Et,Ay,h];cases isT wBY (L.drop j).tail<;>rfl
  rw[h',e,Aa];refine Bc.must hL hj (λq _ hq _ =>?_) (λq =>?_)
  ·rw[T5 (Zg Avn) (m:=L.length+1) (by rw[Za2];omega)];exact Aq5 (c:=λacc g=>P7 L (S acc) g) (f:=λo=>bP Cd λm=>Bg (S o m)) hL (A0j hL) (Zg Avn) hst (λacc q hq=>A1j hL (S acc) hq) (λacc q=>Anp (S acc) q) (L.length+3) (L.length+1) [] q hq (by omega) (by omega) (by simp only[Zi1];omega)
  ·exact Pp (c:=λacc g=>P7 L (S acc) g) (A0j hL) hst (λacc q=>Anp (S acc) q) (L.length+2) [] (by simp) q
theorem Bhx{A:Option (Stm×GotS)}(S:Int->Stm)(j:Nat):A4 ((gis L ⟨(j:Int),true⟩ [79,82,68,69,82]).bind λb=>cond b A (P7 L S ⟨(j:Int),true⟩)) j:=by simp only[H5,Zc1,Af];exact Anp S j
end
section
variable {L:TL}
def Az9:Ex->E5->Option (Stm×GotS):=λe vz=>match vz with|(u,_,_,_,_,_,_,_,_,_,_,_,_,_,_,_,_,_,_,_,a,b,c,d,f,g,h,i,j,k,l,m,o,p,q,r,s,t,v,_,_,_,_,_,_,_,_,_,_,_,_,_,_,_,_,_,_,_)=>match e with
 |.exit 0=>(gis u a [76,73,77,73,84]).bind λx =>
   cond (x) (
   (Ae6 u (GotS.mk (wr .i64 (a.pos+1)) a.bad)).bind λw =>
    cond (!decide (w.kind=3)) (
    some ((Stm.mk b c d f g h i j k (Xpr.mk l ⟨m,o,p⟩ q r) s t v),(GotS.mk (wr .i64 (a.pos+1)) true))) (
    some ((Stm.mk b c d f g h i j k (Xpr.mk l ⟨m,o,p⟩ q r) s t w.n),(GotS.mk (wr .i64 ((wr .i64 (a.pos+1))+1)) a.bad)))) (
   some ((Stm.mk b c d f g h i j k (Xpr.mk l ⟨m,o,p⟩ q r) s t v),a))
 |_=>none
def A7n(b:Bool):(E5->Option (Stm×GotS))->E5->Option (Stm×GotS):=match b with|true=>λrec=>W3 rec Az9|false=>λrec=>Wj rec Az9
def Aam(L:TL)(n:Str)(es:List Xpr)(b:Bool)(x:Xpr)(acc:List (Str×Bool))(g:GotS):E5:=(L,0,[],[],[],[],[],[],[],false,0,0,0,[],[],[],[],[],0,(GotS.mk 0 false),g,8,n,[],[],[],es,[],[],b,x.kind,x.v.kind,x.v.n,x.v.s,x.name,x.l,acc.map (·.1),acc.map (·.2),(-1),0,[],[],[],[],[],[],[],false,0,0,0,[],[],[],[],[],0,(GotS.mk 0 false))
def Ah3(L:TL)(n:Str)(es:List Xpr)(b:Bool)(x:Xpr)(g:GotS):Option (Stm×GotS):=(gis L g [79,82,68,69,82]).bind λc=>cond c ((A0 L g [79,82,68,69,82,32,66,89]).bind λg=>Ak (A7n b) (L.length+3) (Aam L n es b x [] g)) (P7 L (Xs n es b x []) g)
def Aqv(L:TL)(q:GotS)(es:List Xpr):Option (Stm×GotS):=(A0 L q [70,82,79,77]).bind λg=>(Dm L g).bind λy=>(gis L y.2 [87,72,69,82,69]).bind λb=>cond b ((Kr L ⟨wr .i64 (y.2.pos+1),false⟩ 1).bind λz=>Ah3 L y.1 es true z.1 z.2) (Ah3 L y.1 es false zX y.2)
theorem Bc4(n:Str)(es:List Xpr)(b:Bool)(x:Xpr)(rec:E5->Option (Stm×GotS))(acc:List (Str×Bool))(g:GotS)(ha:acc.length<=1000000000):A7n b rec (Aam L n es b x acc g)=(Axf L g).bind λz=>(gis L z.2 [44]).bind λb'=>cond (!b') (P7 L (Xs n es b x (acc++[z.1])) z.2) (rec (Aam L n es b x (acc++[z.1]) ⟨wr .i64 (z.2.pos+1),z.2.bad⟩)):=by
 have hm:decide ((acc.map (·.1)).length+1<=Al)=true:=Ze1 (by simp only[Al,List.length_map];omega);have hm2:decide ((acc.map (·.2)).length+1<=Al)=true:=Ze1 (by simp only[Al,List.length_map];omega);have hx:∀(q:GotS) (y:Str×Bool),Az9 (.exit 0) (Aam L n es b x (acc++[y]) q)=P7 L (Xs n es b x (acc++[y])) q:=λq y=>by simp only[Az9,Aam,Bh3];rfl
 have key:∀(y:Str×GotS) (d:Bool) (q:GotS),((gis L q [44]).bind λb'=>cond (!b') (Az9 (.exit 0) (L,0,[],[],[],[],[],[],[],false,0,0,0,[],[],[],[],[],0,(GotS.mk 0 false),q,8,n,[],[],[],es,[],[],b,x.kind,x.v.kind,x.v.n,x.v.s,x.name,x.l,acc.map (·.1)++[y.1],acc.map (·.2)++[d],(-1),0,[],[],[],[],[],[],[],false,0,0,0,[],[],[],[],[],0,(GotS.mk 0 false))) (rec (L,0,[],[],[],[],[],[],[],false,0,0,0,[],[],[],[],[],0,(GotS.mk 0 false),⟨wr .i64 (q.pos+1),q.bad⟩,8,n,[],[],[],es,[],[],b,x.kind,x.v.kind,x.v.n,x.v.s,x.name,x.l,acc.map (·.1)++[y.1],acc.map (·.2)++[d],(-1),0,[],[],[],[],[],[],[],false,0,0,0,[],[],[],[],[],0,(GotS.mk 0 false))))=(gis L q [44]).bind λb'=>cond (!b') (P7 L (Xs n es b x (acc++[(y.1,d)])) q) (rec (Aam L n es b x (acc++[(y.1,d)]) ⟨wr .i64 (q.pos+1),q.bad⟩)):=λy d q=>by rw[<-hx];simp only[Aam,Bpi]
 cases b<;>(
  dsimp only[A7n,Aam,W3,Wj];simp only[hm,hm2,chk,Aa,Axf];cases Dm L g with
  |none=>rfl
  |some y =>
   simp only[Zc1];cases hd:gis L y.2 [68,69,83,67] with
   |none=>rfl
   |some d =>
    simp only[Zc1];cases d with
    |true=>exact key y true _
    |false =>
     simp only[Af];cases gis L y.2 [65,83,67] with
     |none=>rfl
     |some a =>
      simp only[Zc1];cases a with
      |true=>exact key y false _
      |false=>exact key y false _)
theorem A94(hL:L.length<=1000000000)(n:Str)(es:List Xpr)(b:Bool)(x:Xpr){j:Nat}(hj:j<=L.length):Bc L (Ah3 L n es b x ⟨(j:Int),false⟩) (bP Et (λo=>bP Cd λm=>Bg (Xs n es b x o m)) (L.drop j)):=Bmo (step:=A7n b) (st:=Aam L n es b x) (S:=Xs n es b x) hL (λrec acc g ha=>Bc4 n es b x rec acc g ha) hj
theorem Xa(n:Str)(es:List Xpr)(b:Bool)(x:Xpr)(j:Nat):A4 (Ah3 L n es b x ⟨(j:Int),true⟩) j:=Bhx (Xs n es b x []) j
theorem Ap0(hL:L.length<=1000000000)(es:List Xpr){j:Nat}(hj:j<=L.length):Bc L (Aqv L ⟨(j:Int),false⟩ es) (bP (Ay [wFROM]) (λ_=>bP Bt λn=>bP Ek λw=>bP Et λo=>bP Cd λm=>Bg (Xs n es w.1 w.2 o m)) (L.drop j)):=by have nm:=Cb hL (L.length+1);simp only[Aqv,An7];exact Bc.must hL hj (λj _ hj _=>Bc.bind nm hj (by omega) (λn q hq _=>Biv (K:=Ah3 L n es) hL hq (λb x q2 hq2=>A94 hL n es b x hq2) (λb x q2=>Xa n es b x q2)) (λn q=>Aqf (K:=Ah3 L n es) q (λb x q2=>Xa n es b x q2))) (λj=>A4.bind nm λn=>Aqf (K:=Ah3 L n es) j (λb x q2=>Xa n es b x q2))
theorem Bcm(hL:L.length<=1000000000)(es:List Xpr)(j:Nat):A4 (Aqv L ⟨(j:Int),true⟩ es) j:=by have nm:=Cb hL (L.length+1);simp only[Aqv,An7];exact A4.must (A4.bind nm λn=>Aqf (K:=Ah3 L n es) j (λb x q2=>Xa n es b x q2))
theorem Bpw(g:GotS):Hc L g Ec=(gis L g [42]).bind λb=>cond b (Aqv L ⟨wr .i64 (g.pos+1),g.bad⟩ []) ((Up L g).bind λz=>Aqv L z.2 z.1):=by
 have d1:decide (Ec=[67,82,69,65,84,69])=false:=by decide
 have d2:decide (Ec=[68,82,79,80])=false:=by decide
 have d3:decide (Ec=[73,78,83,69,82,84])=false:=by decide
 have d4:decide (Ec=[85,80,68,65,84,69])=false:=by decide
 have d5:decide (Ec=[68,69,76,69,84,69])=false:=by decide
 have d6:decide (Ec=[83,69,76,69,67,84])=true:=by decide
 simp only[Hc,Fh,d1,d2,d3,d4,d5,d6,Aa,Af,Ez];rfl
theorem Bcb(hL:L.length<=1000000000){i:Nat}(hi:i<=L.length):Bc L (Hc L ⟨(i:Int),false⟩ Ec) (G2 (L.drop i)):=by
 rw[Bpw];simp only[Gs,Zc1];cases h:isT [42] (L.drop i) with
 |true =>
  obtain⟨j1,j2⟩:=B6 h;have e:G2 (L.drop i)=bP (Ay [wFROM]) (λ_=>bP Bt λn=>bP Ek λw=>bP Et λo=>bP Cd λm=>Bg (Xs n [] w.1 w.2 o m)) (L.drop (i+1)):=by simp only[G2,Aa1,bP,h,j2];rfl
  rw[e,Aa,N1 (by omega)];exact Ap0 hL [] j1
 |false =>
  have e:G2 (L.drop i)=bP L5 (λes=>bP (Ay [wFROM]) (λ_=>bP Bt λn=>bP Ek λw=>bP Et λo=>bP Cd λm=>Bg (Xs n es w.1 w.2 o m))) (L.drop i):=by simp only[G2,Aa1,bP,h];rfl
  rw[e,Af];exact Bc.bind (R6 hL) hi (by omega) (λes q hq _=>Ap0 hL es hq) (λes q=>Bcm hL es q)
end
section
variable {L:TL}
theorem A6d:Lep Mx:=Zg A7j
theorem Bgc:∀(m m':Nat) (acc:List Xpr) (l:TL),l.length<m->l.length<m'->Ba Mx m acc l=Ba Mx m' acc l:=λm m' acc l h h'=>Ad8 A6d m m' acc l h h'
def Alr(L:TL)(g:GotS):Option (Xpr×GotS):=(A0 L g [44,32,67,72,69,67,75,32,40]).bind λx=>(Kr L x 1).bind λz=>(A0 L z.2 [41]).bind λx=>some (z.1,x)
def Bjq:TL->PR Xpr:=bP (Ay [[44],wCHECK,[40]]) λ_=>bP orW λe=>bP (Ay [[41]]) λ_=>Bg e
theorem Bg1(hL:L.length<=1000000000):SimG L (L.length+1) (Alr L) Bjq :=.of (λi hi _=>by
 unfold Alr Bjq;simp only[Apw,N7];exact Bc.must hL hi (λj _ hj _=>Bc.bind (Ju hL) hj (by omega) (λr q hq _=>Bc.must hL hq (λj2 _ hj2 _ =>.ok hj2) (λj2=>A4.bd)) (λr q=>A4.must A4.bd)) (λj=>A4.bind (Ju hL) λr=>A4.must A4.bd)) (λi=>by
 unfold Alr;simp only[Apw,N7];exact A4.must (A4.bind (Ju hL) λr=>A4.must A4.bd))
theorem A9r{l:TL}(h:isT [44] l=true):Bjq l=Mx l.tail:=by simp only[Bjq,Mx,bP,Ay,h]
section
variable {V γ:Type}{step:(V->Option (γ×GotS))->V->Option (γ×GotS)}{st:List Xpr->GotS->V}{c:List Xpr->GotS->Option (γ×GotS)}{f:List Xpr->TL->PR γ}
theorem Afp(hstep:∀rec acc g,acc.length<=1000000000->step rec (st acc g)=(gis L g [44]).bind λb=>cond b ((Alr L g).bind λz=>rec (st (acc++[z.1]) z.2)) (c acc g))(hcb:∀acc (j:Nat),A4 (c acc ⟨(j:Int),true⟩) j)(k:Nat)(acc:List Xpr)(ha:acc.length<=1000000000)(i:Nat):A4 (Ak step (k+1) (st acc ⟨(i:Int),true⟩)) i:=by rw[Aw,hstep _ acc _ ha,H5];exact hcb _ i
theorem Bqc(hL:L.length<=1000000000)(hstep:∀rec acc g,acc.length<=1000000000->step rec (st acc g)=(gis L g [44]).bind λb=>cond b ((Alr L g).bind λz=>rec (st (acc++[z.1]) z.2)) (c acc g))(hc:∀acc (j:Nat),j<=L.length->Bc L (c acc ⟨(j:Int),false⟩) (f acc (L.drop j)))(hcb:∀acc (j:Nat),A4 (c acc ⟨(j:Int),true⟩) j):∀(k m:Nat) (acc:List Xpr) (i:Nat),i<=L.length->L.length-i<k->L.length-i<m->acc.length+(L.length-i)<=1000000000->Bc L (Ak step k (st acc ⟨(i:Int),false⟩)) (bP (Ba Mx m acc) f (L.drop i))
 |0,_,_,_,_,h,_,_=>absurd h (Zm1 _)
 |_,0,_,_,_,_,h,_=>absurd h (Zm1 _)
 |k+1,m+1,acc,i,hi,h1,h2,h3=>by
  rw[Aw,hstep _ acc _ (by omega),Gs,Zc1];cases hq:isT [44] (L.drop i) with
  |false =>
   have e1:bP (Ba Mx (m+1) acc) f (L.drop i)=f acc (L.drop i):=by simp only[bP,Ba,hq]
   rw[e1,Af];exact hc _ i hi
  |true =>
   obtain⟨i1,i2⟩:=B6 hq;have e1:bP (Ba Mx (m+1) acc) f (L.drop i)=bP Bjq (λx l'=>bP (Ba Mx m (acc++[x])) f l') (L.drop i):=by simp only[bP,Ba,hq,A9r hq];cases Mx (L.drop i).tail with|error q=>rfl|ok x=>rfl
   rw[e1,Aa];refine Bc.bind (Bg1 hL) hi (by omega) (λr j hj hp =>?_) (λr j =>?_)
   ·rw[A9r hq,i2] at hp;have hle:=A6d _ _ _ hp;rw[Za2,Za2] at hle;exact Bqc hL hstep hc hcb k m (acc++[r]) j hj (by omega) (by omega) (by simp only[Zh1,Zf1,Zi1];omega)
   ·cases k with|zero=>omega|succ k=>exact Afp hstep hcb k _ (by simp only[Zh1,Zf1,Zi1];omega) j
end
theorem Am2:∀l e l',N4 l = .ok (e,l')->l'.length<l.length:=λl e l' h=>by obtain⟨c,hc,a,b,h1,_,h2⟩:=Alu l e l' h;obtain⟨t,ht,_⟩:=h2;rw[hc,h1,ht,Zh1,Zh1,Zf1];omega
theorem Asl:∀(m m':Nat) (acc:List Col) (l:TL),l.length<m->l.length<m'->D4 m acc l=D4 m' acc l
 |0,_,_,_,h,_=>absurd h (Zm1 _)
 |_,0,_,_,_,h=>absurd h (Zm1 _)
 |m+1,m'+1,acc,l,h,h'=>by
  simp only[D4];cases hi:isT wPRIMARY l with
  |true=>rfl
  |false =>cases hq:N4 l with|error q=>rfl|ok x =>have h1:=Am2 _ _ _ hq;simp only;exact Asl m m' _ _ (by omega) (by omega)
theorem Bn4{γ:Type}{f:List Col->TL->PR γ}{l:TL}{m:Nat}(hm:l.length<m):bP Akv f l=bP N4 (λx l'=>bP (D4 m [x]) f l') l:=by simp only[bP,Akv];cases hq:N4 l with|error q=>rfl|ok x =>have h1:=Am2 _ _ _ hq;simp only;rw[Asl (x.2.length+1) m [x.1] x.2 (by omega) (by omega)]
def Yn(L:TL)(g:GotS):Option (Col×GotS):=(A18 L g).bind λz=>(A0 L z.2 [44]).bind λx=>some (z.1,x)
theorem Ap5(hL:L.length<=1000000000):SimG L (L.length+1) (Yn L) N4 :=.of (λi hi _=>by
 unfold Yn N4;simp only[Bhi];exact Bc.bind (A0n hL) hi (by omega) (λr q hq _=>Bc.must hL hq (λj2 _ hj2 _ =>.ok hj2) (λj2=>A4.bd)) (λr q=>A4.must A4.bd)) (λi=>by
 unfold Yn;simp only[Bhi];exact A4.bind (A0n hL) λr=>A4.must A4.bd)
section
variable {V γ:Type}{step:(V->Option (γ×GotS))->V->Option (γ×GotS)}{st:List Col->GotS->V}{c:List Col->GotS->Option (γ×GotS)}{f:List Col->TL->PR γ}
theorem Ae2(hstep:∀rec acc g,acc.length<=2000000000->step rec (st acc g)=cond (!g.bad) (cond (decide ((acc.length:Int)=0)) ((Yn L g).bind λz=>rec (st (acc++[z.1]) z.2)) ((gis L g [80,82,73,77,65,82,89]).bind λb=>cond (!b) ((Yn L g).bind λz=>rec (st (acc++[z.1]) z.2)) (c acc g))) (c acc g))(hcb:∀acc (j:Nat),A4 (c acc ⟨(j:Int),true⟩) j)(k:Nat)(acc:List Col)(ha:acc.length<=2000000000)(i:Nat):A4 (Ak step (k+1) (st acc ⟨(i:Int),true⟩)) i:=by rw[Aw,hstep _ acc _ ha];exact hcb _ i
theorem Bp5(hL:L.length<=1000000000)(hstep:∀rec acc g,acc.length<=2000000000->step rec (st acc g)=cond (!g.bad) (cond (decide ((acc.length:Int)=0)) ((Yn L g).bind λz=>rec (st (acc++[z.1]) z.2)) ((gis L g [80,82,73,77,65,82,89]).bind λb=>cond (!b) ((Yn L g).bind λz=>rec (st (acc++[z.1]) z.2)) (c acc g))) (c acc g))(hc:∀acc (j:Nat),j<=L.length->isT wPRIMARY (L.drop j)=true->Bc L (c acc ⟨(j:Int),false⟩) (f acc (L.drop (j+1))))(hcb:∀acc (j:Nat),A4 (c acc ⟨(j:Int),true⟩) j):∀(k m:Nat) (acc:List Col) (i:Nat),i<=L.length->L.length-i+1<k->L.length-i<m->acc.length+(L.length-i)<=1500000000->¬acc.length=0->Bc L (Ak step k (st acc ⟨(i:Int),false⟩)) (bP (D4 m acc) f (L.drop i))
 |0,_,_,_,_,h,_,_,_=>absurd h (Zm1 _)
 |_,0,_,_,_,_,h,_,_=>absurd h (Zm1 _)
 |k+1,m+1,acc,i,hi,h1,h2,h3,h4=>by
  rw[Aw,hstep _ acc _ (by omega),Zs1,Aa,Zd1 (by omega),Af,Gs,Zc1];cases hq:isT wPRIMARY (L.drop i) with
  |true =>
   have hq':isT [80,82,73,77,65,82,89] (L.drop i)=true:=hq;obtain⟨i1,i2⟩:=B6 hq;have e1:bP (D4 (m+1) acc) f (L.drop i)=f acc (L.drop (i+1)):=by simp only[bP,D4,hq,i2]
   rw[e1,hq',Zt1,Af];exact hc _ i hi hq
  |false =>
   have hq':isT [80,82,73,77,65,82,89] (L.drop i)=false:=hq;have e1:bP (D4 (m+1) acc) f (L.drop i)=bP N4 (λx l'=>bP (D4 m (acc++[x])) f l') (L.drop i):=by simp only[bP,D4,hq];cases N4 (L.drop i) with|error q=>rfl|ok x=>rfl
   rw[e1,hq',Zs1,Aa];refine Bc.bind (Ap5 hL) hi (by omega) (λr j hj hp =>?_) (λr j =>?_)
   ·have hle:=Am2 _ _ _ hp;rw[Za2,Za2] at hle;exact Bp5 hL hstep hc hcb k m (acc++[r]) j hj (by omega) (by omega) (by simp only[Zh1,Zf1,Zi1];omega) (by simp)
   ·cases k with|zero=>omega|succ k=>exact Ae2 hstep hcb k _ (by simp only[Zh1,Zf1,Zi1];omega) j
end
def Y3:Ex->Oi->Option (Stm×GotS):=λe vz=>match vz with|(a,_,_,_,_,_,_,_,_,_,_,_,_,_,_,_,_,_,_,_,b,c,d,f,g,h,i,j,k,l,m,n,o,p,q,r,s,t,u,_,_,_,_,_,_,_,_,_,_,_,_,_,_,_,_,_,_,_)=>match e with|.exit 2=>(A0 a b [41]).bind λv=>some ((Stm.mk c d f g h i j k l (Xpr.mk m ⟨n,o,p⟩ q r) s t u),v)|_=>none
def Aff(k:Nat):Ex->K9->Option (Stm×GotS):=λe vz=>match vz with|(v1,v2,v3,v4,v5,v6,v7,v8,v9,a,b,c,d,f,g,h,i,j,l,m,n,o,p,q,r,_,s,t,u,v,w,x,y,a0,a1,a2,a3,a4,a5,a6,a7,a8,a9,aa,ab,ac,ad,ae,af,ag,ah,ai,aj,ak,al,am,an,ao)=>match e with|.exit 0=>(A0 v1 n [80,82,73,77,65,82,89,32,75,69,89]).bind λx8=>(Sd v1 x8).bind λz=>Ak (λrec=>I4 rec Y3) k (v1,v2,v3,v4,v5,v6,v7,v8,v9,a,b,c,d,f,g,h,i,j,l,m,z.2,o,p,q,r,z.1,s,t,u,v,w,x,y,a0,a1,a2,a3,a4,a5,a6,a7,a8,a9,aa,ab,ac,ad,ae,af,ag,ah,ai,aj,ak,al,am,an,ao)|_=>none
def J6(L:TL)(n:Str)(cs:List Col)(ns:List Str)(es:List Xpr)(g:GotS):K9:=(L,0,[],[],[],[],[],[],[],false,0,0,0,[],[],[],[],[],0,(GotS.mk 0 false),g,1,n,[],cs,ns,es,[],[],false,0,0,0,[],[],[],[],[],0,0,[],[],[],[],[],[],[],false,0,0,0,[],[],[],[],[],0,(GotS.mk 0 false))
def Ada(L:TL)(n:Str)(cs:List Col)(ns:List Str)(es:List Xpr)(g:GotS):Option (Stm×GotS):=(A0 L g [41]).bind λx=>some (Stm.mk 1 n [] cs ns es [] [] false zX [] [] 0,x)
def Ab1(L:TL)(n:Str)(cs:List Col)(g:GotS):Option (Stm×GotS):=(A0 L g [80,82,73,77,65,82,89,32,75,69,89]).bind λx8=>(Sd L x8).bind λz=>Ak (λrec=>I4 rec Y3) (L.length+3) (J6 L n cs z.1 [] z.2)
theorem At3(n:Str)(cs:List Col)(ns:List Str)(rec:Oi->Option (Stm×GotS))(acc:List Xpr)(g:GotS)(ha:acc.length<=1000000000):I4 rec Y3 (J6 L n cs ns acc g)=(gis L g [44]).bind λb=>cond b ((Alr L g).bind λz=>rec (J6 L n cs ns (acc++[z.1]) z.2)) (Ada L n cs ns acc g):=by have hm:decide (acc.length+1<=Al)=true:=Ze1 (by simp only[Al];omega);dsimp only[J6,I4];simp only[hm,chk,Aa,Alr,Option.bind_assoc,Zc1];rfl
theorem Ajb(n:Str)(rec:K9->Option (Stm×GotS))(acc:List Col)(g:GotS)(ha:acc.length<=2000000000):Jq rec (Aff (L.length+3)) (J6 L n acc [] [] g)=cond (!g.bad) (cond (decide ((acc.length:Int)=0)) ((Yn L g).bind λz=>rec (J6 L n (acc++[z.1]) [] [] z.2)) ((gis L g [80,82,73,77,65,82,89]).bind λb=>cond (!b) ((Yn L g).bind λz=>rec (J6 L n (acc++[z.1]) [] [] z.2)) (Ab1 L n acc g))) (Ab1 L n acc g):=by have hm:decide (acc.length+1<=Al)=true:=Ze1 (by simp only[Al];omega);dsimp only[J6,Jq];simp only[hm,chk,Aa,Yn,Option.bind_assoc,Zc1];rfl
theorem Bal(hL:L.length<=1000000000)(n:Str)(cs:List Col){j:Nat}(hj:j<=L.length)(hp:isT wPRIMARY (L.drop j)=true):Bc L (Ab1 L n cs ⟨(j:Int),false⟩) (bP (Ay [wKEY]) (λ_=>bP Mg λns=>bP (λl=>Ba Mx (l.length+1) [] l) λes=>bP (Ay [[41]]) λ_=>Bg { zS with kind:=1,name:=n,cols:=cs,names:=ns,l:=es }) (L.drop (j+1))):=by
 obtain⟨j1,j2⟩:=B6 hp;have e:∀f:Unit->TL->PR Stm,bP (Ay [wKEY]) f (L.drop (j+1))=bP (Ay [wPRIMARY,wKEY]) f (L.drop j):=λf=>by simp only[bP,Ay,hp,j2]
 rw[e];simp only[Ab1,A7m];have hE:∀ns es (q:Nat),q<=L.length->Bc L (Ada L n cs ns es ⟨(q:Int),false⟩) (bP (Ay [[41]]) (λ_=>Bg { zS with kind:=1,name:=n,cols:=cs,names:=ns,l:=es }) (L.drop q)):=λns es q hq=>by simp only[Ada,N7];exact Bc.must hL hq (λq2 _ hq2 _ =>.ok hq2) (λq2=>A4.bd)
 have hEb:∀ns es (q:Nat),A4 (Ada L n cs ns es ⟨(q:Int),true⟩) q:=λns es q=>by simp only[Ada,N7];exact A4.must A4.bd
 have hB:∀ns (q:Nat),A4 (Ak (λrec=>I4 rec Y3) (L.length+3) (J6 L n cs ns [] ⟨(q:Int),true⟩)) q:=λns q=>Afp (L:=L) (step:=λrec=>I4 rec Y3) (st:=J6 L n cs ns) (c:=Ada L n cs ns) (λrec acc g ha=>At3 n cs ns rec acc g ha) (λacc q=>hEb ns acc q) (L.length+2) [] (by simp) q;refine Bc.must hL hj (λq _ hq _=>Bc.bind (F8 hL) hq (by omega) (λns q2 hq2 _ =>?_) (λns q2=>hB ns q2)) (λq=>A4.bind (F8 hL) λns=>hB ns q);have e2:∀f:List Xpr->TL->PR Stm,bP (λl=>Ba Mx (l.length+1) [] l) f (L.drop q2)=bP (Ba Mx (L.length+1) []) f (L.drop q2):=λf=>by simp only[bP];rw[Bgc ((L.drop q2).length+1) (L.length+1) [] (L.drop q2) (by omega) (by rw[Za2];omega)]
 rw[e2];exact Bqc (step:=λrec=>I4 rec Y3) (st:=J6 L n cs ns) (c:=Ada L n cs ns) (f:=λes=>bP (Ay [[41]]) λ_=>Bg { zS with kind:=1,name:=n,cols:=cs,names:=ns,l:=es }) hL (λrec acc g ha=>At3 n cs ns rec acc g ha) (λacc q hq=>hE ns acc q hq) (λacc q=>hEb ns acc q) (L.length+3) (L.length+1) [] q2 hq2 (by omega) (by omega) (by simp only[Zi1];omega)
theorem Aep(hL:L.length<=1000000000)(n:Str)(cs:List Col)(j:Nat):A4 (Ab1 L n cs ⟨(j:Int),true⟩) j:=by simp only[Ab1,A7m];refine A4.must (A4.bind (F8 hL) λns =>?_);exact Afp (L:=L) (step:=λrec=>I4 rec Y3) (st:=J6 L n cs ns) (c:=Ada L n cs ns) (λrec acc g ha=>At3 n cs ns rec acc g ha) (λacc q=>by simp only[Ada,N7];exact A4.must A4.bd) (L.length+2) [] (by simp) j
theorem Bnz(g:GotS):Hc L g G0=(gis L g [84,65,66,76,69]).bind λb=>cond b ((Dm L ⟨wr .i64 (g.pos+1),false⟩).bind λy=>(A0 L y.2 [40]).bind λx3=>Ak (λrec=>Jq rec (Aff (L.length+3))) (L.length+3) (J6 L y.1 [] [] [] x3)) ((A0 L g [73,78,68,69,88]).bind λa=>(Dm L a).bind λ(c,d)=>(A0 L d [79,78]).bind λe=>(Dm L e).bind λ(f,h)=>(Sd L h).bind λ(i,j)=>some ((Stm.mk 3 c f [] i [] [] [] false (Xpr.mk 0 ⟨0,0,[]⟩ [] []) [] [] 0),j)):=by
 have d1:decide (G0=[67,82,69,65,84,69])=true:=by decide
 simp only[Hc,Fh,d1,Aa];rfl
theorem Bbe(hL:L.length<=1000000000){i:Nat}(hi:i<=L.length):Bc L (Hc L ⟨(i:Int),false⟩ G0) (G1 (L.drop i)):=by
 have nm:=Cb hL (L.length+1);rw[Bnz];simp only[Gs,Zc1];cases h:isT Uo (L.drop i) with
 |false =>
  have h':isT [84,65,66,76,69] (L.drop i)=false:=h;have e:G1 (L.drop i)=Zu (L.drop i):=by simp only[G1,h]
  rw[h',e,Af];exact Bhq hL hi
 |true =>
  have h':isT [84,65,66,76,69] (L.drop i)=true:=h;obtain⟨i1,i2⟩:=B6 h;have e:G1 (L.drop i)=Aey (L.drop (i+1)):=by simp only[G1,h,i2]
  rw[h',e,Aa,N1 (by omega)];have hb:∀n (q:Nat),A4 (Ak (λrec=>Jq rec (Aff (L.length+3))) (L.length+3) (J6 L n [] [] [] ⟨(q:Int),true⟩)) q:=λn q=>Ae2 (L:=L) (step:=λrec=>Jq rec (Aff (L.length+3))) (st:=λcs g=>J6 L n cs [] [] g) (c:=λcs g=>Ab1 L n cs g) (λrec acc g ha=>Ajb n rec acc g ha) (λacc q=>Aep hL n acc q) (L.length+2) [] (by simp) q;unfold Aey;simp only[Ady];refine Bc.bind nm i1 (by omega) (λn q hq _=>Bc.must hL hq (λq2 _ hq2 _ =>?_) (λq2=>hb n q2)) (λn q=>A4.must (hb n q));rw[Bn4 (m:=L.length+1) (by rw[Za2];omega),Aw,Ajb n _ [] _ (by simp)];refine Bc.bind (Ap5 hL) hq2 (by omega) (λc q3 hq3 _ =>?_) (λc q3 =>?_)
  ·exact Bp5 (step:=λrec=>Jq rec (Aff (L.length+3))) (st:=λcs g=>J6 L n cs [] [] g) (c:=λcs g=>Ab1 L n cs g) (f:=λcs=>bP (Ay [wKEY]) λ_=>bP Mg λns=>bP (λl=>Ba Mx (l.length+1) [] l) λes=>bP (Ay [[41]]) λ_=>Bg { zS with kind:=1,name:=n,cols:=cs,names:=ns,l:=es }) hL (λrec acc g ha=>Ajb n rec acc g ha) (λacc q hq hp=>Bal hL n acc hq hp) (λacc q=>Aep hL n acc q) (L.length+2) (L.length+1) [c] q3 hq3 (by omega) (by omega) (by simp only[Zf1,Zi1];omega) (by simp)
  ·exact Ae2 (L:=L) (step:=λrec=>Jq rec (Aff (L.length+3))) (st:=λcs g=>J6 L n cs [] [] g) (c:=λcs g=>Ab1 L n cs g) (λrec acc g ha=>Ajb n rec acc g ha) (λacc q=>Aep hL n acc q) (L.length+1) [c] (by simp) q3
end
theorem Pb{V R α:Type}[DecidableEq α]{step:(V->Option R)->V->Option R}(l m:List α)(hm:l.length=m.length)(st:Nat->V)(no yes:Option R)
  (hs:∀i (h:i<l.length) (h2:i<m.length) rec,step rec (st i)=cond (!decide (l[i]=m[i])) no (rec (st (i+1)))) (he:∀rec,step rec (st l.length)=yes) (k:Nat) (hk:l.length<k):Ak step k (st 0)=cond (decide (l=m)) yes no:=by
 refine(B1 l.length st (λi=>cond (decide (l.drop i=m.drop i)) yes no) (λi hi rec hr =>?_) (λrec =>?_) k 0 (Nat.zero_le _) (by omega)).trans (by rw[Zq1,Zq1])
 ·have hi2:i<m.length:=by omega
  rw[hs i hi hi2,hr,An hi,An hi2];by_cases h:l[i]=m[i]
  ·rw[Ze1 h,h];have:decide (m[i]::l.drop (i+1)=m[i]::m.drop (i+1))=decide (l.drop (i+1)=m.drop (i+1)):=Zy1.2 ⟨λe=>by injection e,λe=>by rw[e]⟩;rw[this];rfl
  ·rw[Zd1 h,Zd1 (show ¬l[i]::l.drop (i+1)=m[i]::m.drop (i+1) fromλe=>h (by injection e))];rfl
 ·rw[he,Zk1 (Zn1 _),Zk1 (by omega)];rfl
def Ags:Sig:=⟨26,[(0,.sl .str false),(1,.sl .str false),(4,.bool),(5,.int .i64)],[],[],0,0,0,[],[]⟩
abbrev Z2:=List Str×List Str×Bool×Int
def Ux{R:Type}(rec:Z2->Option R)(kx:Ex->Z2->Option R)(v:Z2):Option R:=match v with
 |(v,v1,v2,v3) =>
 cond (decide (v3<(v.length:Int))) (
  chk (inb v3 v.length) (
  chk (inb v3 v1.length) (
   cond (!decide ((at' .str v v3)=(at' .str v1 v3))) (
   kx .ret (v,v1,false,v3)) (
   rec (v,v1,v2,(wr .i64 (v3+1))))))) (
  kx (.exit 0) (v,v1,v2,v3))
def Aqp(R:Type)(k:Nat):Px R:=pxO [] [] [(4,Ao k Ags (Ux))] []
def Ahj(k:Nat)(x:HV [.sl .str false,.sl .str false]):Option (HV [.bool]):=match x with
 |(a,b) =>
 cond (!decide ((a.length:Int)=(b.length:Int))) (
  some false) (
  Ak (λrec=>Ux rec (λe vz=>match vz with|(_,_,v6,_)=>match e with
  |.ret =>some v6
  |.exit 0 =>some true
  |_=>none)) k (a,b,false,0))
theorem A40(k:Nat):FO 82 [.sl .str false,.sl .str false] [.bool] (Ahj k):=fR (px:=Aqp _ k) (n:=1) Tryz.func82 rfl (λcx H=>by have h0:Lv cx (Aqp (HV [.bool]) k):=lv H Ah Ae Ab;have hlrsameN_0:=lO H h0 (b:=lp Tryz.f82 0) (k:=k) (n:=0) (s:=Ags) (step:=Ux) (λ_ _ _ (_,_,_,_)=>by kernel_rfl) Aj;exact⟨h0,(Bh Aj hlrsameN_0)⟩) λ(_,_)=>by kernel_rfl
def Amj(a b:List Str):Bool:=decide (a=b)
def Ano:FT [.sl .str false,.sl .str false] [.bool]:=λx=>some (Amj x.1 x.2)
theorem Brv{α:Type}{a b:List α}(h:¬(a.length:Int)=(b.length:Int)):¬a=b:=λe=>h (by rw[e])
theorem Bcc:FO 82 [.sl .str false,.sl .str false] [.bool] Ano :=.fin 0 A40 λ(a,b) r hb hx=>⟨a.length+1,by
 simp only[Ano,Amj,Za1] at hx;rw[<-hx];simp only[Ahj];by_cases hl:(a.length:Int)=(b.length:Int)
 ·rw[Ze1 hl,Zt1,Af];refine(Pb a b (by omega) (λi=>(a,b,false,(i:Int))) (some false) (some true) (λi h h2 rec =>?_) (λrec =>?_) (a.length+1) (by omega)).trans ?_
  ·simp only[Ux,E7 h,Aa,A5 h,A5 h2,chk,A8 (c :=.str) h,A8 (c :=.str) h2,A1 h hb.1.1]
  ·simp only[Ux,E8,Af]
  ·cases decide (a=b)<;>rfl
 ·rw[Zd1 hl,Zd1 (Brv hl)];rfl⟩
def Bbw(R:Type):Px R:=pxO [(21,cA Ave)] [] [] []
def U5(x:HV [.sl .expr false,.sl .expr false]):Option (HV [.bool]):=match x with
 |(a,b) =>
 some (Arh (Xpr.mk 0 ⟨0,0,[]⟩ [] a) (Xpr.mk 0 ⟨0,0,[]⟩ [] b))
theorem A4k:FO 83 [.sl .expr false,.sl .expr false] [.bool] (U5):=fR (px:=Bbw _) (n:=0) Tryz.func83 rfl (λ_ H=>⟨lv H (c1 H Axr Ah) Ae Ab,Aj⟩) λ(_,_)=>by kernel_rfl
def Y7(a:List Xpr)(b:List Xpr):Bool :=(Arh (Xpr.mk 0 ⟨0,0,[]⟩ [] a) (Xpr.mk 0 ⟨0,0,[]⟩ [] b))
theorem A3x(x:HV [.sl .expr false,.sl .expr false]):U5 x=some (Y7 x.1 x.2):=by
 first
  |exact rfl
  |simp only[U5,Y7,Bn]
def Aw0:FT [.sl .expr false,.sl .expr false] [.bool]:=λx=>some (Y7 x.1 x.2)
theorem Bcn:FO 83 [.sl .expr false,.sl .expr false] [.bool] Aw0 :=.fin0 A4k λx _ _ hx=>(A3x x).trans hx
theorem Ao9(a b:List Xpr):Y7 a b=decide (a=b):=by have e:Y7 a b=Ig (.mk 0 ⟨0,0,[]⟩ [] a) (.mk 0 ⟨0,0,[]⟩ [] b):=rfl;rw[e,Jb];exact Zy1.2 (by simp)
theorem Ar1(a b:Xpr):Arh a b=decide (a=b):=Jb a b
instance:DecidableEq SetE:=λa b=>decidable_of_iff (a.name=b.name/\a.e=b.e) (by cases a;cases b;simp only[SetE.mk.injEq])
def Af8:Sig:=⟨199,[(4,.bool),(8,.int .i64)],[(2,.ptr 0 0),(3,.ptr 1 0)],[(0,.one (.sv .stmt)),(1,.one (.sv .stmt))],2,0,0,[],[]⟩
abbrev Ze:=Bool×Int×Stm×Stm
def Uj{R:Type}(rec:Ze->Option R)(kx:Ex->Ze->Option R)(v:Ze):Option R:=match v with
 |(b,a,w6,w7) =>
 cond (decide (a<(w6.desc.length:Int))) (
  chk (inb a w6.desc.length) (
  chk (inb a w7.desc.length) (
   cond (!decide ((at' .bool w6.desc a)=(at' .bool w7.desc a))) (
   kx .ret (false,a,w6,w7)) (
   rec (b,(wr .i64 (a+1)),w6,w7))))) (
  kx (.exit 6) (b,a,w6,w7))
def Agi:Sig:=⟨199,[(4,.bool),(7,.int .i64)],[(2,.ptr 0 0),(3,.ptr 1 0)],[(0,.one (.sv .stmt)),(1,.one (.sv .stmt))],2,0,0,[],[]⟩
abbrev Y6:=Bool×Int×Stm×Stm
def U2{R:Type}(rec:Y6->Option R)(kx:Ex->Y6->Option R)(v:Y6):Option R:=match v with
 |(b,a,w4,w5) =>
 cond (decide (a<(w4.sets.length:Int))) (
  chk (inb a w4.sets.length) (
  chk (inb a w5.sets.length) (
   cond (!decide (((at' .set w4.sets a).name)=((at' .set w5.sets a).name))) (
   kx .ret (false,a,w4,w5)) (
   chk (inb a w4.sets.length) (
    chk (inb a w5.sets.length) (
    cond (!(Arh (Fb ((at' .set w4.sets a).e)) (Fb ((at' .set w5.sets a).e)))) (
     kx .ret (false,a,w4,w5)) (
     rec (b,(wr .i64 (a+1)),w4,w5)))))))) (
  kx (.exit 4) (b,a,w4,w5))
def Agn:Sig:=⟨199,[(4,.bool),(6,.int .i64)],[(2,.ptr 0 0),(3,.ptr 1 0)],[(0,.one (.sv .stmt)),(1,.one (.sv .stmt))],2,0,0,[],[]⟩
abbrev Zq:=Bool×Int×Stm×Stm
def Uh{R:Type}(rec:Zq->Option R)(kx:Ex->Zq->Option R)(v:Zq):Option R:=match v with
 |(v6,v7,w2,w3) =>
 cond (decide (v7<(w2.rows.length:Int))) (
  chk (inb v7 w2.rows.length) (
  chk (inb v7 w3.rows.length) (
   cond (!(Y7 (at' .exprs w2.rows v7) (at' .exprs w3.rows v7))) (
   kx .ret (false,v7,w2,w3)) (
   rec (v6,(wr .i64 (v7+1)),w2,w3))))) (
  kx (.exit 2) (v6,v7,w2,w3))
def Ag1:Sig:=⟨199,[(4,.bool),(5,.int .i64)],[(2,.ptr 0 0),(3,.ptr 1 0)],[(0,.one (.sv .stmt)),(1,.one (.sv .stmt))],2,0,0,[],[]⟩
abbrev Zf:=Bool×Int×Stm×Stm
def Tf{R:Type}(rec:Zf->Option R)(kx:Ex->Zf->Option R)(v:Zf):Option R:=match v with
 |(v,v1,w,w1) =>
 cond (decide (v1<(w.cols.length:Int))) (
  chk (inb v1 w.cols.length) (
  chk (inb v1 w1.cols.length) (
   cond (!decide ((at' .col w.cols v1)=(at' .col w1.cols v1))) (
   kx .ret (false,v1,w,w1)) (
   rec (v,(wr .i64 (v1+1)),w,w1))))) (
  kx (.exit 0) (v,v1,w,w1))
def Ath(R:Type)(k:Nat):Px R:=pxO [(21,cA Ave),(82,cA Ano),(83,cA Aw0)] [] [(6,Ao k Ag1 (Tf)),(11,Ao k Agn (Uh)),(16,Ao k Agi (U2)),(21,Ao k Af8 (Uj))] []
def Agj(k:Nat)(x:HV [.sv .stmt,.sv .stmt]):Option (HV [.bool]):=match x with
 |(a,b) =>
 let j5:=λ(p:Bool) =>
  let j4:=λ(p1:Bool) =>
  let j3:=λ(p2:Bool) =>
   let j2:=λ(p3:Bool) =>
   let j1:=λ(p4:Bool) =>
    let j:=λ(p5:Bool) =>
    cond (p5) (
     some false) (
     cond (!(Amj a.order b.order)) (
     some false) (
     cond (!(Y7 a.l b.l)) (
      some false) (
      let j6:=λ(d:Bool) =>
      cond (d) (
       some false) (
       cond (!decide ((a.sets.length:Int)=(b.sets.length:Int))) (
       some false) (
       cond (!decide ((a.desc.length:Int)=(b.desc.length:Int))) (
        some false) (
        Ak (λrec=>Tf rec (λe vz=>match vz with|(v2,_,v4,v5)=>match e with
        |.ret =>some v2
        |.exit 0 =>
         Ak (λrec=>Uh rec (λe vz=>match vz with|(v8,_,f,g)=>match e with
         |.ret =>some v8
         |.exit 2 =>
          Ak (λrec=>U2 rec (λe vz=>match vz with|(c,_,h,i)=>match e with
          |.ret =>some c
          |.exit 4 =>
           Ak (λrec=>Uj rec (λe vz=>match vz with|(m,_,_,_)=>match e with
           |.ret =>some m
           |.exit 6 =>some true
           |_=>none)) k (c,0,h,i)
          |_=>none)) k (v8,0,f,g)
         |_=>none)) k (v2,0,v4,v5)
        |_=>none)) k (false,0,a,b))))
      cond (!decide ((a.cols.length:Int)=(b.cols.length:Int))) (
      j6 true) (
      j6 (!decide ((a.rows.length:Int)=(b.rows.length:Int)))))))
    cond (p4) (
    j true) (
    j (!(Amj a.names b.names)))
   cond (p3) (
    j1 true) (
    j1 (!(Arh (Fb a.whr) (Fb b.whr))))
   cond (p2) (
   j2 true) (
   j2 (!decide (a.most=b.most)))
  cond (p1) (
   j3 true) (
   j3 (!decide (a.has=b.has)))
  cond (p) (
  j4 true) (
  j4 (!decide (a.on=b.on)))
 cond (!decide (a.kind=b.kind)) (
  j5 true) (
  j5 (!decide (a.name=b.name)))
theorem A1z(k:Nat):FO 28 [.sv .stmt,.sv .stmt] [.bool] (Agj k):=fR (px:=Ath _ k) (n:=4) Tryz.func28 rfl (λcx H=>by have h0:Lv cx (Ath (HV [.bool]) k):=lv H (c1 H Axr (c1 H Bcc (c1 H Bcn Ah))) Ae Ab;have hlrsameS_0:=lO H h0 (b:=lp Tryz.f28 0) (k:=k) (n:=0) (s:=Ag1) (step:=Tf) (λ_ _ _ (_,_,_,_)=>by kernel_rfl) Aj;have hlrsameS_1:=lO H h0 (b:=lp Tryz.f28 1) (k:=k) (n:=0) (s:=Agn) (step:=Uh) (λ_ _ _ (_,_,_,_)=>by kernel_rfl) Aj;have hlrsameS_2:=lO H h0 (b:=lp Tryz.f28 2) (k:=k) (n:=0) (s:=Agi) (step:=U2) (λ_ _ _ (_,_,_,_)=>by kernel_rfl) Aj;have hlrsameS_3:=lO H h0 (b:=lp Tryz.f28 3) (k:=k) (n:=0) (s:=Af8) (step:=Uj) (λ_ _ _ (_,_,_,_)=>by kernel_rfl) Aj;exact⟨h0,(Bh (Bh (Bh (Bh Aj hlrsameS_0) hlrsameS_1) hlrsameS_2) hlrsameS_3)⟩) λ(_,_)=>by kernel_rfl
def Re(a b:Stm):Bool:=decide (a=b)
def Acu:FT [.sv .stmt,.sv .stmt] [.bool]:=λx=>some (Re x.1 x.2)
theorem Bjr{R:Type}(x y:SetE)(no yes:R):cond (!decide (x.name=y.name)) no (cond (!decide (x.e=y.e)) no yes)=cond (!decide (x=y)) no yes:=by
 have e:decide (x=y)=(decide (x.name=y.name)&&decide (x.e=y.e)):=by rw[<-Bool.decide_and];refine Zy1.2 ?_;cases x;cases y;simp only[SetE.mk.injEq]
 rw[e];cases decide (x.name=y.name)<;>rfl
theorem Bmr{a b:Stm}(h1:a.kind=b.kind)(h2:a.name=b.name)(h3:a.on=b.on)(h4:a.cols=b.cols)(h5:a.names=b.names)(h6:a.l=b.l)(h7:a.rows=b.rows)(h8:a.sets=b.sets)(h9:a.has=b.has)(h10:a.whr=b.whr)(h11:a.order=b.order)(h12:a.desc=b.desc)(h13:a.most=b.most):a=b:=by cases a;cases b;simp only at h1 h2 h3 h4 h5 h6 h7 h8 h9 h10 h11 h12 h13;simp only[h1,h2,h3,h4,h5,h6,h7,h8,h9,h10,h11,h12,h13]
theorem Ari:FO 28 [.sv .stmt,.sv .stmt] [.bool] Acu :=.fin 0 A1z λ(a,b) r hb hx=>⟨a.cols.length+a.rows.length+a.sets.length+a.desc.length+1,by
 simp only[Acu,Re,Za1] at hx;rw[<-hx];have hb:=hb.1;have no:∀{p:Prop} [Decidable p],(a=b->p)->¬p->decide (a=b)=false:=λh hn=>Zd1 λe=>hn (h e);simp only[Agj,Ez,Ao9,Ar1,Amj];by_cases h1:a.kind=b.kind
 case neg=>rw[Zd1 h1,no (λe=>by rw[e]) h1];rfl
 rw[Ze1 h1];by_cases h2:a.name=b.name
 case neg=>rw[Zd1 h2,no (λe=>by rw[e]) h2];rfl
 rw[Ze1 h2];by_cases h3:a.on=b.on
 case neg=>rw[Zd1 h3,no (λe=>by rw[e]) h3];rfl
 rw[Ze1 h3];by_cases h9:a.has=b.has
 case neg=>rw[Zd1 h9,no (λe=>by rw[e]) h9];rfl
 rw[Ze1 h9];by_cases h13:a.most=b.most
 case neg=>rw[Zd1 h13,no (λe=>by rw[e]) h13];rfl
 rw[Ze1 h13];by_cases h10:a.whr=b.whr
 case neg=>rw[Zd1 h10,no (λe=>by rw[e]) h10];rfl
 rw[Ze1 h10];by_cases h5:a.names=b.names
 case neg=>rw[Zd1 h5,no (λe=>by rw[e]) h5];rfl
 rw[Ze1 h5];by_cases h11:a.order=b.order
 case neg=>rw[Zd1 h11,no (λe=>by rw[e]) h11];rfl
 rw[Ze1 h11];by_cases h6:a.l=b.l
 case neg=>rw[Zd1 h6,no (λe=>by rw[e]) h6];rfl
 rw[Ze1 h6];by_cases l4:(a.cols.length:Int)=(b.cols.length:Int)
 case neg=>rw[Zd1 l4,no (λe=>by rw[e]) l4];rfl
 rw[Ze1 l4];by_cases l7:(a.rows.length:Int)=(b.rows.length:Int)
 case neg=>rw[Zd1 l7,no (λe=>by rw[e]) l7];rfl
 rw[Ze1 l7];by_cases l8:(a.sets.length:Int)=(b.sets.length:Int)
 case neg=>rw[Zd1 l8,no (λe=>by rw[e]) l8];rfl
 rw[Ze1 l8];by_cases l12:(a.desc.length:Int)=(b.desc.length:Int)
 case neg=>rw[Zd1 l12,no (λe=>by rw[e]) l12];rfl
 rw[Ze1 l12];simp only[Zt1,Af];generalize hk:a.cols.length+a.rows.length+a.sets.length+a.desc.length+1=k;refine(Pb a.cols b.cols (by omega) (λi=>(false,(i:Int),a,b)) (some false) (cond (decide (a.rows=b.rows)) (cond (decide (a.sets=b.sets)) (cond (decide (a.desc=b.desc)) (some true) (some false)) (some false)) (some false)) (λi h h2 rec =>?_) (λrec =>?_) k (by omega)).trans ?_
 ·simp only[Tf,E7 h,Aa,A5 h,A5 h2,chk,A8 (c :=.col) h,A8 (c :=.col) h2,A1 h hb.cols.1]
 ·simp only[Tf,E8,Af];refine(Pb a.rows b.rows (by omega) (λi=>(false,(i:Int),a,b)) (some false) (cond (decide (a.sets=b.sets)) (cond (decide (a.desc=b.desc)) (some true) (some false)) (some false)) (λi h h2 rec =>?_) (λrec =>?_) k (by omega)).trans rfl
  ·simp only[Uh,E7 h,Aa,A5 h,A5 h2,chk,A8 (c :=.exprs) h,A8 (c :=.exprs) h2,A1 h hb.rows.1,Ao9]
  ·simp only[Uh,E8,Af];refine(Pb a.sets b.sets (by omega) (λi=>(false,(i:Int),a,b)) (some false) (cond (decide (a.desc=b.desc)) (some true) (some false)) (λi h h2 rec =>?_) (λrec =>?_) k (by omega)).trans rfl
   ·simp only[U2,E7 h,Aa,A5 h,A5 h2,chk,A8 (c :=.set) h,A8 (c :=.set) h2,A1 h hb.sets.1,Ez,Ar1];exact Bjr _ _ _ _
   ·simp only[U2,E8,Af];refine(Pb a.desc b.desc (by omega) (λi=>(false,(i:Int),a,b)) (some false) (some true) (λi h h2 rec =>?_) (λrec =>?_) k (by omega)).trans rfl
    ·simp only[Uj,E7 h,Aa,A5 h,A5 h2,chk,A8 (c :=.bool) h,A8 (c :=.bool) h2,A1 h hb.desc]
    ·simp only[Uj,E8,Af]
 ·by_cases h4:a.cols=b.cols
  case neg=>rw[Zd1 h4,no (λe=>by rw[e]) h4];rfl
  by_cases h7:a.rows=b.rows
  case neg=>rw[Ze1 h4,Zd1 h7,no (λe=>by rw[e]) h7];rfl
  by_cases h8:a.sets=b.sets
  case neg=>rw[Ze1 h4,Ze1 h7,Zd1 h8,no (λe=>by rw[e]) h8];rfl
  by_cases h12:a.desc=b.desc
  case neg=>rw[Ze1 h4,Ze1 h7,Ze1 h8,Zd1 h12,no (λe=>by rw[e]) h12];rfl
  rw[Ze1 h4,Ze1 h7,Ze1 h8,Ze1 h12,Ze1 (Bmr h1 h2 h3 h4 h5 h6 h7 h8 h9 h10 h11 h12 h13)];rfl⟩
def As9:Sig:=⟨27,[(0,.sl .expr false),(1,.int .i64),(4,.bool),(5,.int .i64)],[],[],0,0,0,[],[]⟩
abbrev Ajy:=List Xpr×Int×Bool×Int
def Ale{R:Type}(rec:Ajy->Option R)(kx:Ex->Ajy->Option R)(v:Ajy):Option R:=match v with
 |(v,v1,v2,v3) =>
 cond (decide (v3<(v.length:Int))) (
  chk (inb v3 v.length) (
  cond (decide (30<(Bm (at' .expr v v3)))) (
   kx .ret (v,v1,false,v3)) (
   rec (v,v1,v2,(wr .i64 (v3+1)))))) (
  kx (.exit 0) (v,v1,v2,v3))
def A9j(R:Type)(k:Nat):Px R:=pxO [(46,cA Awg)] [] [(2,Ao k As9 (Ale))] []
def Aqn(k:Nat)(x:HV [.sl .expr false,.int .i64]):Option (HV [.bool]):=match x with
 |(l,least) =>
 Ak (λrec=>Ale rec (λe vz=>match vz with|(v4,v5,v6,_)=>match e with
  |.ret =>
  some v6
  |.exit 0 =>
  cond (decide (v5<=(v4.length:Int))) (
   some (decide ((v4.length:Int)<=100))) (
   some false)
  |_=>none)) k (l,least,false,0)
theorem Bjc(k:Nat):FO 74 [.sl .expr false,.int .i64] [.bool] (Aqn k):=fR (px:=A9j _ k) (n:=1) Tryz.func74 rfl (λcx H=>by have h0:Lv cx (A9j (HV [.bool]) k):=lv H (c1 H Ayt Ah) Ae Ab;have hlrall_0:=lO H h0 (b:=lp Tryz.f74 0) (k:=k) (n:=0) (s:=As9) (step:=Ale) (λ_ _ _ (_,_,_,_)=>by kernel_rfl) Aj;exact⟨h0,(Bh Aj hlrall_0)⟩) λ(_,_)=>by kernel_rfl
def Xp(l:List Xpr)(n:Int):Bool:=l.all (λx=>decide (Bm x<=30))&&decide (n<=(l.length:Int))&&decide (l.length<=100)
def A4a:FT [.sl .expr false,.int .i64] [.bool]:=λx=>some (Xp x.1 x.2)
theorem A1l(n:Nat):decide ((n:Int)<=100)=decide (n<=100):=Zy1.2 (by omega)
theorem Boj:FO 74 [.sl .expr false,.int .i64] [.bool] A4a :=.fin 0 Bjc λ(l,n) r hb hx=>⟨l.length+1,by
 simp only[A4a,Xp,Za1] at hx;rw[<-hx];simp only[Aqn];refine(B1 l.length (λi=>(l,n,false,(i:Int))) (λi=>some ((l.drop i).all (λx=>decide (Bm x<=30))&&decide (n<=(l.length:Int))&&decide (l.length<=100))) (λi hi rec hr =>?_) (λrec =>?_) (l.length+1) 0 (Nat.zero_le _) (by omega)).trans (by rw[Zq1])
 ·have e:decide (Bm l[i]<=30) = !decide (30<Bm l[i]):=by
   by_cases h : 30<Bm l[i]
   ·rw[Ze1 h,Zd1 (by omega)];rfl
   ·rw[Zd1 h,Ze1 (by omega)];rfl
  simp only[Ale,E7 hi,Aa,A5 hi,chk,A8 (c :=.expr) hi,A1 hi hb.1.1,hr,An hi,Zv1,e];cases decide (30<Bm l[i])<;>rfl
 ·simp only[Ale,E8,Af,A1l];rw[Zk1 (Zn1 _)];cases decide (n<=(l.length:Int))<;>rfl⟩
theorem A6x{l:List Xpr}(h:esizes l<=10000)(n:Int):Xp l n=(G8 l&&decide (n<=(l.length:Int))):=by
 have e:l.all (λx=>decide (Bm x<=30))=l.all (λx=>Bl x 30):=by
  rw[Bool.eq_iff_iff,Zg2,Zg2];refine⟨λhx x hm =>?_,λhx x hm =>?_⟩
  ·have:=E9 hm;exact(Jh (Bf x) x 30 (Zn1 _) (by omega) (by omega)).2 (of_decide_eq_true (hx x hm))
  ·have:=E9 hm;exact Ze1 ((Jh (Bf x) x 30 (Zn1 _) (by omega) (by omega)).1 (hx x hm))
 simp only[Xp,G8,e];cases l.all (λx=>Bl x 30)<;>cases decide (n<=(l.length:Int))<;>cases decide (l.length<=100)<;>rfl
theorem A7c{e:Xpr}(h:Bf e<=10000):decide (Bm e<=30)=Bl e 30:=by rw[Bool.eq_iff_iff,Zg1];exact(Jh (Bf e) e 30 (Zn1 _) (by omega) (by omega)).symm
def Ajq:Sig:=⟨42,[(0,.sl .str false),(1,.int .i64),(4,.bool),(5,.int .i64),(6,.int .i64)],[],[],0,0,0,[],[]⟩
abbrev Wm:=List Str×Int×Bool×Int×Int
def W7{R:Type}(rec:Wm->Option R)(kx:Ex->Wm->Option R)(v:Wm):Option R:=match v with
 |(v4,v5,v6,v7,v8) =>
 cond (decide (v8<v7)) (
  chk (inb v7 v4.length) (
  chk (inb v8 v4.length) (
   cond (decide ((at' .str v4 v7)=(at' .str v4 v8))) (
   kx .ret (v4,v5,false,v7,v8)) (
   rec (v4,v5,v6,v7,(wr .i64 (v8+1))))))) (
  kx (.exit 2) (v4,v5,v6,v7,v8))
def Akf:Sig:=⟨42,[(0,.sl .str false),(1,.int .i64),(4,.bool),(5,.int .i64)],[],[],0,0,0,[],[]⟩
abbrev Adx:=List Str×Int×Bool×Int
def Abk{R:Type}(k:Nat)(rec:Adx->Option R)(kx:Ex->Adx->Option R)(v:Adx):Option R:=match v with
 |(v,v1,v2,v3) =>
 cond (decide (v3<(v.length:Int))) (
  chk (inb v3 v.length) (
  cond (!(Tq (at' .str v v3))) (
   kx .ret (v,v1,false,v3)) (
   Ak (λrc=>W7 rc (λe vz=>match vz with|(v9,a,b,c,_)=>match e with
   |.ret =>kx .ret (v9,a,b,c)
   |.exit 2 =>rec (v9,a,b,(wr .i64 (c+1)))
   |_=>none)) k (v,v1,v2,v3,0)))) (
  kx (.exit 0) (v,v1,v2,v3))
def Az0(R:Type)(k:Nat):Px R:=pxO [(72,cA Ww)] [] [(7,Ao k Ajq (W7)),(2,Ao k Akf (Abk k))] []
def Alw(k:Nat)(x:HV [.sl .str false,.int .i64]):Option (HV [.bool]):=match x with
 |(l,least) =>
 Ak (λrec=>Abk k rec (λe vz=>match vz with|(a,b,c,_)=>match e with
  |.ret =>
  some c
  |.exit 0 =>
  cond (decide (b<=(a.length:Int))) (
   some (decide ((a.length:Int)<=100))) (
   some false)
  |_=>none)) k (l,least,false,0)
theorem Bet(k:Nat):FO 73 [.sl .str false,.int .i64] [.bool] (Alw k):=fR (px:=Az0 _ k) (n:=2) Tryz.func73 rfl (λcx H=>by have h0:Lv cx (Az0 (HV [.bool]) k):=lv H (c1 H Ac5 Ah) Ae Ab;have hlronce_1:=lO H h0 (b:=lpC (lp Tryz.f73 0) 0) (k:=k) (n:=0) (s:=Ajq) (step:=W7) (λ_ _ _ (_,_,_,_,_)=>by kernel_rfl) Aj;have hlronce_0:=lO H h0 (b:=lp Tryz.f73 0) (k:=k) (n:=1) (s:=Akf) (step:=Abk k) (λ_ _ _ (_,_,_,_)=>by kernel_rfl) (Bh Aj hlronce_1);exact⟨h0,(Bh (Bh Aj hlronce_0) hlronce_1)⟩) λ(_,_)=>by kernel_rfl
def M6(l:List Str)(n:Int):Bool:=Dy l&&decide (n<=(l.length:Int))
def Awj:FT [.sl .str false,.int .i64] [.bool]:=λx=>some (M6 x.1 x.2)
theorem Aux{R:Type}{kx:Ex->Wm->Option R}{l:List Str}{n:Int}{i:Nat}{c:Bool->Option R}(hn:ln l.length)(hi:i<l.length)(h1:∀j,kx .ret (l,n,false,(i:Int),j)=c true)(h2:∀j,kx (.exit 2) (l,n,false,(i:Int),j)=c false)(k:Nat)(hk:i<k) :
  Ak (λrec=>W7 rec kx) k (l,n,false,(i:Int),0)=c ((l.take i).contains l[i]):=by
 refine(B1 i (λj=>(l,n,false,(i:Int),(j:Int))) (λj=>c (((l.take i).drop j).contains l[i])) (λj hj rec hr =>?_) (λrec =>?_) k 0 (Nat.zero_le _) (by omega)).trans (by rw[Zq1])
 ·have hj2:j<l.length:=by omega
  have hj3:j<(l.take i).length:=by rw[List.length_take];omega
  have e:(l.take i)[j]=l[j]:=List.getElem_take;simp only[W7,E7 hj,Aa,A5 hi,A5 hj2,chk,A8 (c :=.str) hi,A8 (c :=.str) hj2,A1 hj2 hn,hr,h1,An hj3,List.contains_cons,e];by_cases h:l[i]=l[j]
  ·rw[Ze1 h,h];simp
  ·have hf:(l[i] == l[j])=false:=beq_eq_false_iff_ne.2 h;rw[Zd1 h,hf];rfl
 ·simp only[W7,E8,Af,h2];rw[Zk1 (by rw[List.length_take];omega)];rfl
theorem Bjh:FO 73 [.sl .str false,.int .i64] [.bool] Awj :=.fin 0 Bet λ(l,n) r hb hx=>⟨l.length+1,by
 simp only[Awj,M6,Za1] at hx;rw[<-hx];simp only[Alw];refine(B1 l.length (λi=>(l,n,false,(i:Int))) (λi=>some (Ve (l.take i) (l.drop i)&&decide (l.length<=100)&&decide (n<=(l.length:Int)))) (λi hi rec hr =>?_) (λrec =>?_) (l.length+1) 0 (Nat.zero_le _) (by omega)).trans (by rw[Zq1,List.take_zero];rfl)
 ·simp only[Abk,E7 hi,Aa,A5 hi,chk,A8 (c :=.str) hi,Nm,An hi,Ve];cases hl:Dr l[i] with
  |false=>rfl
  |true =>
   rw[Zt1,Af];refine(Aux (c:=λb=>cond b (some false) (some (Ve (l.take (i+1)) (l.drop (i+1))&&decide (l.length<=100)&&decide (n<=(l.length:Int))))) hb.1.1 hi (λ_ =>?_) (λ_ =>?_) (l.length+1) (by omega)).trans ?_
   ·rfl
   ·show rec (l,n,false,wr .i64 ((i:Int)+1))=_;rw[A1 hi hb.1.1,hr];rfl
   ·rw[Ajv hi];cases (l.take i).contains l[i]<;>rfl
 ·simp only[Abk,E8,Af,A1l];rw[Zk1 (Zn1 _)];simp only[Ve];cases decide (n<=(l.length:Int))<;>cases decide (l.length<=100)<;>rfl⟩
noncomputable section
def Ate:Sig:=⟨259,[(4,.bool),(5,.sl .str true),(9,.int .i64)],[(1,.ptr 0 0),(3,.ptr 1 0)],[(0,.one (.sv .stmt)),(1,.one (.sv .stmt))],2,0,0,[],[]⟩
abbrev Abf:=Bool×List Str×Int×Stm×Stm
def Ad4{R:Type}(rec:Abf->Option R)(kx:Ex->Abf->Option R)(v:Abf):Option R:=match v with
 |(c,b,a,w4,w5) =>
 cond (decide (a<(w4.sets.length:Int))) (
  chk (inb a w4.sets.length) (
  chk (decide (b.length+1<=Al)) (
   cond (c) (
   chk (inb a w4.sets.length) (
    rec (decide ((Bm (Fb ((at' .set w4.sets a).e)))<=30),(b++[((at' .set w4.sets a).name)]),(wr .i64 (a+1)),w4,w5))) (
   rec (false,(b++[((at' .set w4.sets a).name)]),(wr .i64 (a+1)),w4,w5))))) (
  kx (.exit 5) (c,b,a,w4,w5))
def Aqx:Sig:=⟨259,[(4,.bool),(8,.int .i64)],[(1,.ptr 0 0),(3,.ptr 1 0)],[(0,.one (.sv .stmt)),(1,.one (.sv .stmt))],2,0,0,[],[]⟩
abbrev Adp:=Bool×Int×Stm×Stm
def Zl{R:Type}(rec:Adp->Option R)(kx:Ex->Adp->Option R)(v:Adp):Option R:=match v with
 |(v8,v9,w2,w3) =>
 cond (decide (v9<(w2.rows.length:Int))) (
  cond (v8) (
  chk (inb v9 w2.rows.length) (
   rec ((Xp (at' .exprs w2.rows v9) 1),(wr .i64 (v9+1)),w2,w3))) (
  rec (false,(wr .i64 (v9+1)),w2,w3))) (
  kx (.exit 3) (v8,v9,w2,w3))
def Atb:Sig:=⟨259,[(4,.bool),(5,.sl .str true),(6,.int .i64)],[(1,.ptr 0 0),(3,.ptr 1 0)],[(0,.one (.sv .stmt)),(1,.one (.sv .stmt))],2,0,0,[],[]⟩
abbrev Abw:=Bool×List Str×Int×Stm×Stm
def Ad7{R:Type}(rec:Abw->Option R)(kx:Ex->Abw->Option R)(v:Abw):Option R:=match v with
 |(v,v1,v2,w,w1) =>
 cond (decide (v2<(w.cols.length:Int))) (
  chk (inb v2 w.cols.length) (
  chk (decide (v1.length+1<=Al)) (
   let j1:=λ(p4:Bool) =>
   let j:=λ(p5:Bool) =>
    cond (p5) (
    cond (decide (((at' .col w.cols v2).ref)=[])) (
     rec (true,(v1++[((at' .col w.cols v2).name)]),(wr .i64 (v2+1)),w,w1)) (
     rec ((Tq ((at' .col w.cols v2).ref)),(v1++[((at' .col w.cols v2).name)]),(wr .i64 (v2+1)),w,w1))) (
    rec (false,(v1++[((at' .col w.cols v2).name)]),(wr .i64 (v2+1)),w,w1))
   cond (p4) (
    j (decide ((at' .col w.cols v2).kind<=5))) (
    j false)
   cond (v) (
   j1 (decide (2<=(at' .col w.cols v2).kind))) (
   j1 false)))) (
  kx (.exit 1) (v,v1,v2,w,w1))
def A7x(R:Type)(k:Nat):Px R:=pxO [(72,cA Ww),(73,cA Awj),(74,cA A4a),(46,cA Awg),(28,cA Acu)] [] [(7,Ao k Atb (Ad7)),(24,Ao k Aqx (Zl)),(30,Ao k Ate (Ad4))] []
def Aez(k:Nat)(x:HV [.sv .stmt]):Option (HV [.int .i64]):=match x with
 |s =>
 let a:Bool->Option (HV [.int .i64]):=λ(p3:Bool) =>
  let j9:Bool->Stm->Stm->Option (HV [.int .i64]):=λ(b:Bool) (q:Stm) (q1:Stm) =>
  let j8:Bool->Stm->Option (HV [.int .i64]):=λ(f:Bool) (q2:Stm) =>
   cond (!f) (
   some 2) (
   cond (!(Re q2 q)) (
    some 2) (
    some 0))
  let j7:Bool->Option (HV [.int .i64]):=λ(g:Bool) =>
   cond (g) (
   cond (b) (
    j8 (decide ((Bm (Fb q.whr))<=30)) (Stm.mk q1.kind q1.name q1.on q1.cols q1.names q1.l q1.rows q1.sets true (Fb q.whr) q1.order q1.desc q1.most)) (
    j8 false (Stm.mk q1.kind q1.name q1.on q1.cols q1.names q1.l q1.rows q1.sets true (Fb q.whr) q1.order q1.desc q1.most))) (
   j8 b q1)
  let j6:Bool->Option (HV [.int .i64]):=λ(h:Bool) =>
   cond (h) (
   j7 q.has) (
   cond (decide (q.kind=8)) (
    j7 q.has) (
    j7 false))
  cond (decide (q.kind=6)) (
   j6 true) (
   j6 (decide (q.kind=7)))
  cond (decide (s.kind=1)) (
  Ak (λrec=>Ad7 rec (λe vz=>match vz with|(v3,v4,_,v6,v7)=>match e with
   |.exit 1 =>
   let j2:Bool->Option (HV [.int .i64]):=λ(p9:Bool) =>
    cond (p9) (
    cond ((M6 v6.names 1)) (
     j9 (Xp v6.l 0) v6 (Stm.mk v7.kind v7.name v7.on v6.cols v6.names v6.l v7.rows v7.sets v7.has (Fb v7.whr) v7.order v7.desc v7.most)) (
     j9 false v6 (Stm.mk v7.kind v7.name v7.on v6.cols v6.names v6.l v7.rows v7.sets v7.has (Fb v7.whr) v7.order v7.desc v7.most))) (
    j9 false v6 (Stm.mk v7.kind v7.name v7.on v6.cols v6.names v6.l v7.rows v7.sets v7.has (Fb v7.whr) v7.order v7.desc v7.most))
   cond (v3) (
    j2 (M6 v4 1)) (
    j2 false)
   |_=>none)) k (p3,[],0,s,(Stm.mk s.kind s.name [] [] [] [] [] [] false (Xpr.mk 0 ⟨0,0,[]⟩ [] []) [] [] 0))) (
  cond (decide (s.kind=3)) (
   cond (p3) (
   cond ((Tq s.on)) (
    j9 (M6 s.names 1) s (Stm.mk s.kind s.name s.on [] s.names [] [] [] false (Xpr.mk 0 ⟨0,0,[]⟩ [] []) [] [] 0)) (
    j9 false s (Stm.mk s.kind s.name s.on [] s.names [] [] [] false (Xpr.mk 0 ⟨0,0,[]⟩ [] []) [] [] 0))) (
   j9 false s (Stm.mk s.kind s.name s.on [] s.names [] [] [] false (Xpr.mk 0 ⟨0,0,[]⟩ [] []) [] [] 0))) (
   cond (decide (s.kind=5)) (
   let j3:Bool->Option (HV [.int .i64]):=λ(i:Bool) =>
    Ak (λrec=>Zl rec (λe vz=>match vz with|(j,_,m,n)=>match e with
    |.exit 3 =>j9 j m n
    |_=>none)) k (i,0,s,(Stm.mk s.kind s.name [] [] [] [] s.rows [] false (Xpr.mk 0 ⟨0,0,[]⟩ [] []) [] [] 0))
   cond (p3) (
    cond (decide (1<=(s.rows.length:Int))) (
    j3 (decide ((s.rows.length:Int)<=100))) (
    j3 false)) (
    j3 false)) (
   cond (decide (s.kind=6)) (
    Ak (λrec=>Ad4 rec (λe vz=>match vz with|(o,p,_,c,d)=>match e with
    |.exit 5 =>
     cond (o) (
     j9 (M6 p 1) c d) (
     j9 false c d)
    |_=>none)) k (p3,[],0,s,(Stm.mk s.kind s.name [] [] [] [] [] s.sets false (Xpr.mk 0 ⟨0,0,[]⟩ [] []) [] [] 0))) (
    cond (decide (s.kind=8)) (
    let j5:Bool->Option (HV [.int .i64]):=λ(r:Bool) =>
     let j4:Bool->Option (HV [.int .i64]):=λ(t:Bool) =>
     cond (t) (
      cond (decide ((s.desc.length:Int)=(s.order.length:Int))) (
      j9 (decide ((-1)<=s.most)) s (Stm.mk s.kind s.name [] [] [] s.l [] [] false (Xpr.mk 0 ⟨0,0,[]⟩ [] []) s.order s.desc s.most)) (
      j9 false s (Stm.mk s.kind s.name [] [] [] s.l [] [] false (Xpr.mk 0 ⟨0,0,[]⟩ [] []) s.order s.desc s.most))) (
      j9 false s (Stm.mk s.kind s.name [] [] [] s.l [] [] false (Xpr.mk 0 ⟨0,0,[]⟩ [] []) s.order s.desc s.most))
     cond (r) (
     j4 (M6 s.order 0)) (
     j4 false)
    cond (p3) (
     j5 (Xp s.l 0)) (
     j5 false)) (
    j9 p3 s (Stm.mk s.kind s.name [] [] [] [] [] [] false (Xpr.mk 0 ⟨0,0,[]⟩ [] []) [] [] 0))))))
 cond ((Tq s.name)) (
  cond (decide (1<=s.kind)) (
  a (decide (s.kind<=8))) (
  a false)) (
  a false)
theorem Bke(k:Nat):FO 26 [.sv .stmt] [.int .i64] (Aez k):=fR (px:=A7x _ k) (n:=3) Tryz.func26 rfl (λcx H=>by have h0:Lv cx (A7x (HV [.int .i64]) k):=lv H (c1 H Ac5 (c1 H Bjh (c1 H Boj (c1 H Ayt (c1 H Ari Ah))))) Ae Ab;have hlrchk_0:=lO H h0 (b:=lp Tryz.f26 0) (k:=k) (n:=0) (s:=Atb) (step:=Ad7) (λ_ _ _ (_,_,_,_,_)=>by kernel_rfl) Aj;have hlrchk_1:=lO H h0 (b:=lp Tryz.f26 1) (k:=k) (n:=0) (s:=Aqx) (step:=Zl) (λ_ _ _ (_,_,_,_)=>by kernel_rfl) Aj;have hlrchk_2:=lO H h0 (b:=lp Tryz.f26 2) (k:=k) (n:=0) (s:=Ate) (step:=Ad4) (λ_ _ _ (_,_,_,_,_)=>by kernel_rfl) Aj;exact⟨h0,(Bh (Bh (Bh Aj hlrchk_0) hlrchk_1) hlrchk_2)⟩) λ_=>by kernel_rfl
noncomputable def A3v(s:Stm):Option Int :=@ite _ (Few s) (Classical.propDecidable _) (some (cond (E4 s) 0 2)) none
def A4f:FT [.sv .stmt] [.int .i64]:=λx=>A3v x
theorem Ayv{R:Type}{kx:Ex->Abw->Option R}{w o:Stm}{c:Bool->List Str->Option R}(hn:w.cols.length<=3100)(h2:∀v ns i,kx (.exit 1) (v,ns,i,w,o)=c v ns)(k:Nat)(hk:w.cols.length<k)(v:Bool) :
  Ak (λrec=>Ad7 rec kx) k (v,[],0,w,o)=c (v&&w.cols.all Xw) (w.cols.map (·.name)):=by
 have hl:ln w.cols.length:=by simp only[ln];omega
 refine(J2 w.cols.length (λi v=>(v,(w.cols.take i).map (·.name),(i:Int),w,o)) (λ_ _=>True) (λi v=>c (v&&(w.cols.drop i).all Xw) (w.cols.map (·.name))) (λi hi v _ rec hr =>?_) (λv _ rec =>?_) k 0 v (Nat.zero_le _) (by omega) trivial).trans (by rw[Zq1])
 ·have ht:(w.cols.take (i+1)).map (·.name)=(w.cols.take i).map (·.name)++[w.cols[i].name]:=by rw[List.take_add_one,Zo1 hi,List.map_append];rfl
  have hlen:((w.cols.take i).map (·.name)).length+1<=Al:=by simp only[List.length_map,List.length_take,Al];omega
  have hr:=λv'=>hr v' trivial;simp only[ht] at hr;simp only[Ad7,E7 hi,Aa,A5 hi,chk,A8 (c :=.col) hi,A1 hi hl,An hi,Zv1,Ze1 hlen,Nm,Xw];simp only[hr];generalize decide (2<=w.cols[i].kind)=q1;generalize decide (w.cols[i].kind<=5)=q2;generalize decide (w.cols[i].ref=[])=q3;generalize Dr w.cols[i].ref=q4;cases v<;>cases q1<;>cases q2<;>cases q3<;>cases q4<;>rfl
 ·simp only[Ad7,E8,Af,h2];rw[Zk1 (Zn1 _),List.take_length];simp
theorem Ay2{R:Type}{kx:Ex->Adp->Option R}{w o:Stm}{c:Bool->Option R}(hn:ln w.rows.length)(h2:∀v i,kx (.exit 3) (v,i,w,o)=c v)(k:Nat)(hk:w.rows.length<k)(v:Bool) :
  Ak (λrec=>Zl rec kx) k (v,0,w,o)=c (v&&w.rows.all λr=>Xp r 1):=by
 refine(J2 w.rows.length (λi v=>(v,(i:Int),w,o)) (λ_ _=>True) (λi v=>c (v&&(w.rows.drop i).all λr=>Xp r 1)) (λi hi v _ rec hr =>?_) (λv _ rec =>?_) k 0 v (Nat.zero_le _) (by omega) trivial).trans (by rw[Zq1])
 ·have hr:=λv'=>hr v' trivial;simp only[Zl,E7 hi,Aa,A5 hi,chk,A8 (c :=.exprs) hi,A1 hi hn,An hi,Zv1,hr];generalize Xp w.rows[i] 1=q1;cases v<;>cases q1<;>rfl
 ·simp only[Zl,E8,Af,h2];rw[Zk1 (Zn1 _)];simp
theorem Azx{R:Type}{kx:Ex->Abf->Option R}{w o:Stm}{c:Bool->List Str->Option R}(hn:w.sets.length<=3100)(h2:∀v ns i,kx (.exit 5) (v,ns,i,w,o)=c v ns)(k:Nat)(hk:w.sets.length<k)(v:Bool) :
  Ak (λrec=>Ad4 rec kx) k (v,[],0,w,o)=c (v&&w.sets.all λx=>decide (Bm x.e<=30)) (w.sets.map (·.name)):=by
 have hl:ln w.sets.length:=by simp only[ln];omega
 refine(J2 w.sets.length (λi v=>(v,(w.sets.take i).map (·.name),(i:Int),w,o)) (λ_ _=>True) (λi v=>c (v&&(w.sets.drop i).all λx=>decide (Bm x.e<=30)) (w.sets.map (·.name))) (λi hi v _ rec hr =>?_) (λv _ rec =>?_) k 0 v (Nat.zero_le _) (by omega) trivial).trans (by rw[Zq1])
 ·have ht:(w.sets.take (i+1)).map (·.name)=(w.sets.take i).map (·.name)++[w.sets[i].name]:=by rw[List.take_add_one,Zo1 hi,List.map_append];rfl
  have hlen:((w.sets.take i).map (·.name)).length+1<=Al:=by simp only[List.length_map,List.length_take,Al];omega
  have hr:=λv'=>hr v' trivial;simp only[ht] at hr;simp only[Ad4,E7 hi,Aa,A5 hi,chk,A8 (c :=.set) hi,A1 hi hl,An hi,Zv1,Ze1 hlen,Ez];simp only[hr];generalize decide (Bm w.sets[i].e<=30)=q1;cases v<;>cases q1<;>rfl
 ·simp only[Ad4,E8,Af,h2];rw[Zk1 (Zn1 _),List.take_length];simp
theorem A77(s own:Stm)(ok:Bool):cond (!ok) (some (2:Int)) (cond (!Re own s) (some 2) (some 0))=some (cond (ok&&decide (own=s)) 0 2):=by simp only[Re];cases ok<;>cases decide (own=s)<;>rfl
theorem Am5(l:List Str):M6 l 1=(C7 (l.length:Int)&&Dy l):=by rw[Aw6];simp only[M6,Dy];rw[show decide ((1:Int)<=(l.length:Int))=decide (1<=l.length) from Zy1.2 (by omega)];cases Ve [] l<;>cases decide (1<=l.length)<;>cases decide (l.length<=100)<;>rfl
theorem Bi7(l:List Str):M6 l 0=Dy l:=by simp only[M6];rw[Ze1 (show(0:Int)<=(l.length:Int) by omega),Bool.and_true]
theorem Bn9{l:List Xpr}(h:esizes l<=10000):Xp l 0=G8 l:=by rw[A6x h,Ze1 (show(0:Int)<=(l.length:Int) by omega),Bool.and_true]
theorem Bob{l:List Xpr}(h:esizes l<=10000):Xp l 1=Ani l:=by
 rw[A6x h,Ani];by_cases e:l.length=0
 ·rw[Ze1 e,Zd1 (by omega)];cases G8 l<;>rfl
 ·rw[Zd1 e,Ze1 (by omega)];cases G8 l<;>rfl
theorem Aqi{α:Type}{l:List α}{p q : α->Bool}(h:∀x,x∈l->p x=q x):l.all p=l.all q:=by rw[Bool.eq_iff_iff,Zg2,Zg2];exact⟨λa x hx=>by rw[<-h x hx];exact a x hx,λa x hx=>by rw[h x hx];exact a x hx⟩
theorem Bvx{s:Stm}(hk:s.kind=1):decide (Stm.mk s.kind s.name [] s.cols s.names s.l [] [] false noX [] [] 0=s)=decide (Co s=noS):=by obtain⟨k,nm,on,cols,names,l,rows,sets,has,whr,order,desc,most⟩:=s;simp only at hk;subst hk;exact Zy1.2 ⟨λh=>by simp_all [Co,noS],λh=>by simp_all [Co,noS]⟩
theorem Bt7{s:Stm}(hk:s.kind=2\/s.kind=4):decide (Stm.mk s.kind s.name [] [] [] [] [] [] false noX [] [] 0=s)=decide (Co s=noS):=by obtain⟨k,nm,on,cols,names,l,rows,sets,has,whr,order,desc,most⟩:=s;simp only at hk;rcases hk with rfl|rfl<;>exact Zy1.2 ⟨λh=>by simp_all [Co,noS],λh=>by simp_all [Co,noS]⟩
theorem Bvr{s:Stm}(hk:s.kind=3):decide (Stm.mk s.kind s.name s.on [] s.names [] [] [] false noX [] [] 0=s)=decide (Co s=noS):=by obtain⟨k,nm,on,cols,names,l,rows,sets,has,whr,order,desc,most⟩:=s;simp only at hk;subst hk;exact Zy1.2 ⟨λh=>by simp_all [Co,noS],λh=>by simp_all [Co,noS]⟩
theorem Bvu{s:Stm}(hk:s.kind=5):decide (Stm.mk s.kind s.name [] [] [] [] s.rows [] false noX [] [] 0=s)=decide (Co s=noS):=by obtain⟨k,nm,on,cols,names,l,rows,sets,has,whr,order,desc,most⟩:=s;simp only at hk;subst hk;exact Zy1.2 ⟨λh=>by simp_all [Co,noS],λh=>by simp_all [Co,noS]⟩
theorem Bvp{s:Stm}(hk:s.kind=6)(hh:s.has=true):decide (Stm.mk s.kind s.name [] [] [] [] [] s.sets true s.whr [] [] 0=s)=decide (Co s=noS):=by obtain⟨k,nm,on,cols,names,l,rows,sets,has,whr,order,desc,most⟩:=s;simp only at hk hh;subst hk hh;exact Zy1.2 ⟨λh=>by simp_all [Co,noS],λh=>by simp_all [Co,noS]⟩
theorem Bua{s:Stm}(hk:s.kind=6)(hh:s.has=false):decide (Stm.mk s.kind s.name [] [] [] [] [] s.sets false noX [] [] 0=s)=(decide (Co s=noS)&&decide (s.whr=noX)):=by obtain⟨k,nm,on,cols,names,l,rows,sets,has,whr,order,desc,most⟩:=s;simp only at hk hh;subst hk hh;rw[<-Bool.decide_and];exact Zy1.2 ⟨λh=>by simp_all [Co,noS],λh=>by simp_all [Co,noS]⟩
theorem Bvn{s:Stm}(hk:s.kind=7)(hh:s.has=true):decide (Stm.mk s.kind s.name [] [] [] [] [] [] true s.whr [] [] 0=s)=decide (Co s=noS):=by obtain⟨k,nm,on,cols,names,l,rows,sets,has,whr,order,desc,most⟩:=s;simp only at hk hh;subst hk hh;exact Zy1.2 ⟨λh=>by simp_all [Co,noS],λh=>by simp_all [Co,noS]⟩
theorem Btj{s:Stm}(hk:s.kind=7)(hh:s.has=false):decide (Stm.mk s.kind s.name [] [] [] [] [] [] false noX [] [] 0=s)=(decide (Co s=noS)&&decide (s.whr=noX)):=by obtain⟨k,nm,on,cols,names,l,rows,sets,has,whr,order,desc,most⟩:=s;simp only at hk hh;subst hk hh;rw[<-Bool.decide_and];exact Zy1.2 ⟨λh=>by simp_all [Co,noS],λh=>by simp_all [Co,noS]⟩
theorem Bvw{s:Stm}(hk:s.kind=8)(hh:s.has=true):decide (Stm.mk s.kind s.name [] [] [] s.l [] [] true s.whr s.order s.desc s.most=s)=decide (Co s=noS):=by obtain⟨k,nm,on,cols,names,l,rows,sets,has,whr,order,desc,most⟩:=s;simp only at hk hh;subst hk hh;exact Zy1.2 ⟨λh=>by simp_all [Co,noS],λh=>by simp_all [Co,noS]⟩
theorem Bu6{s:Stm}(hk:s.kind=8)(hh:s.has=false):decide (Stm.mk s.kind s.name [] [] [] s.l [] [] false noX s.order s.desc s.most=s)=(decide (Co s=noS)&&decide (s.whr=noX)):=by obtain⟨k,nm,on,cols,names,l,rows,sets,has,whr,order,desc,most⟩:=s;simp only at hk hh;subst hk hh;rw[<-Bool.decide_and];exact Zy1.2 ⟨λh=>by simp_all [Co,noS],λh=>by simp_all [Co,noS]⟩
def Mb(p:Bool)(s own:Stm):Option Int :=
 cond ((decide (s.kind=6)||decide (s.kind=7)||decide (s.kind=8))&&s.has)
  (cond (!(p&&decide (Bm s.whr<=30))) (some 2) (cond (!Re ⟨own.kind,own.name,own.on,own.cols,own.names,own.l,own.rows,own.sets,true,s.whr,own.order,own.desc,own.most⟩ s) (some 2) (some 0)))
  (cond (!p) (some 2) (cond (!Re own s) (some 2) (some 0)))
theorem Rk{s:Stm}(h:¬(s.kind=6\/s.kind=7\/s.kind=8)\/s.has=false)(p:Bool)(own:Stm):Mb p s own=some (cond (p&&decide (own=s)) 0 2):=by
 have e:((decide (s.kind=6)||decide (s.kind=7)||decide (s.kind=8))&&s.has)=false:=by
  rcases h with h|h
  ·rw[Zd1 (show ¬s.kind=6 by omega),Zd1 (show ¬s.kind=7 by omega),Zd1 (show ¬s.kind=8 by omega)];rfl
  ·rw[h,Bool.and_false]
 simp only[Mb,e,Af];exact A77 s own p
theorem Al4{s:Stm}(h:s.kind=6\/s.kind=7\/s.kind=8)(hh:s.has=true)(hf:Few s)(p:Bool)(own:Stm):Mb p s own=some (cond (p&&Bl s.whr 30&&decide (Stm.mk own.kind own.name own.on own.cols own.names own.l own.rows own.sets true s.whr own.order own.desc own.most=s)) 0 2):=by
 have e:((decide (s.kind=6)||decide (s.kind=7)||decide (s.kind=8))&&s.has)=true:=by rw[hh,Bool.and_true];rcases h with h|h|h<;>rw[Ze1 h]<;>simp
 have hd:=A7c (show Bf s.whr<=10000 by have:=hf.whr;omega);simp only[Mb,e,Aa,hd];exact A77 s _ _
theorem K3(b p:Bool)(s o:Stm):cond b (Mb p s o) (Mb false s o)=Mb (b&&p) s o:=by cases b<;>rfl
theorem Aj1{s:Stm}(h:s.has=true):Iz s=Bl s.whr 30:=by rw[Aru,h];rfl
theorem Alq{s:Stm}(h:s.has=false):Iz s=decide (s.whr=noX):=by rw[Aru,h];rfl
theorem Brb(k:Nat)(s:Stm)(hb:BdStm s)(hf:Few s)(hk:I8 s<=k):Aez k s=some (cond (E4 s) 0 2):=by
 simp only[I8] at hk;simp -zeta only [Aez,Nm];extract_lets s0 j9 j3 j4 j5 f;subst s0;have h10:f (Dr s.name&&decide (1<=s.kind)&&decide (s.kind<=8))=some (cond (E4 s) 0 2):=by
  generalize hp:(Dr s.name&&decide (1<=s.kind)&&decide (s.kind<=8))=p;simp -zeta only [f];have h9:∀p q q1,j9 p q q1=Mb p q q1:=λp q q1=>by simp only[j9,Mb,Ez];generalize decide (q.kind=6)=b6;generalize decide (q.kind=7)=b7;generalize decide (q.kind=8)=b8;generalize q.has=bh;cases p<;>cases b6<;>cases b7<;>cases b8<;>cases bh<;>rfl
  have h9':j9=Mb:=funext λp=>funext λq=>funext λq1=>h9 p q q1;simp -zeta only [j3,j5,j4];clear f j5 j4 j3;clear h9;clear_value j9;subst h9';have hl:Xp s.l 0=G8 s.l:=Bn9 (by have:=hf.l;omega);have w6:(s.sets.all λx=>decide (Bm x.e<=30))=s.sets.all λx=>Bl x.e 30:=Aqi λx hx=>A7c (by have:=hf.sets.2 x hx;omega);have w5:(s.rows.all λr=>Xp r 1)=s.rows.all Ani:=Aqi λr hr=>Bob (by have:=hf.rows.2 r hr;omega);have hx:Xpr.mk 0 ⟨0,0,[]⟩ [] []=noX:=rfl;have pk:∀{n:Int},s.kind=n->1<=n->n<=8->p=Dr s.name:=λ{n} h a b=>by rw[<-hp,Ze1 (show 1<=s.kind by omega),Ze1 (show s.kind<=8 by omega),Bool.and_true,Bool.and_true]
  by_cases h1:s.kind=1
  ·rw[Ze1 h1,Aa];refine(Ayv (c:=λv ns=>cond v (cond (M6 ns 1) (cond (M6 s.names 1) (Mb (Xp s.l 0) s (Stm.mk s.kind s.name [] s.cols s.names s.l [] [] false noX [] [] 0)) (Mb false s (Stm.mk s.kind s.name [] s.cols s.names s.l [] [] false noX [] [] 0))) (Mb false s (Stm.mk s.kind s.name [] s.cols s.names s.l [] [] false noX [] [] 0))) (Mb false s (Stm.mk s.kind s.name [] s.cols s.names s.l [] [] false noX [] [] 0))) hf.cols (λ_ _ _=>rfl) k (by omega) p).trans ?_;simp only[K3,Am5,hl];rw[Rk (.inl (by omega)),Bvx h1,pk h1 (by omega) (by omega),E4,if_pos h1];simp only[List.length_map];congr 2
   ac_rfl
  rw[Zd1 h1,Af];by_cases h3:s.kind=3
  ·rw[Ze1 h3,Aa];simp only[K3,Am5,hx];rw[Rk (.inl (by omega)),Bvr h3,pk h3 (by omega) (by omega),E4,if_neg h1,if_pos h3];congr 2
   ac_rfl
  rw[Zd1 h3,Af];by_cases h5:s.kind=5
  ·rw[Ze1 h5,Aa];have hit:=λd=>Ay2 (w:=s) (o:=Stm.mk s.kind s.name [] [] [] [] s.rows [] false noX [] [] 0) (c:=λv=>Mb v s (Stm.mk s.kind s.name [] [] [] [] s.rows [] false noX [] [] 0)) (kx:=λe vz=>match vz with|(g,_,i,j)=>match e with
    |.exit 3=>Mb g i j
    |_=>none) hb.rows.1 (λ_ _=>rfl) k (by omega) d
   have e:∀d,Ak (λrec=>Zl rec (λe vz=>match vz with|(g,_,i,j)=>match e with
    |.exit 3=>Mb g i j
    |_=>none)) k (d,0,s,(Stm.mk s.kind s.name [] [] [] [] s.rows [] false noX [] [] 0))=Mb (d&&s.rows.all λr=>Xp r 1) s (Stm.mk s.kind s.name [] [] [] [] s.rows [] false noX [] [] 0):=hit
   show cond p (cond (decide (1<=(s.rows.length:Int))) (Ak _ k (_,0,s,(Stm.mk s.kind s.name [] [] [] [] s.rows [] false noX [] [] 0))) (Ak _ k (_,0,s,(Stm.mk s.kind s.name [] [] [] [] s.rows [] false noX [] [] 0)))) (Ak _ k (_,0,s,(Stm.mk s.kind s.name [] [] [] [] s.rows [] false noX [] [] 0)))=_;rw[e,e,Bool.false_and,K3,K3,w5];rw[Rk (.inl (by omega)),Bvu h5,pk h5 (by omega) (by omega),E4,if_neg h1,if_neg h3,if_neg (by omega),if_pos h5,Ato,Aw6,A1l,show decide ((1:Int)<=(s.rows.length:Int))=decide (1<=s.rows.length) from Zy1.2 (by omega)];congr 2
   ac_rfl
  rw[Zd1 h5,Af];by_cases h6:s.kind=6
  ·rw[Ze1 h6,Aa];refine(Azx (c:=λv ns=>cond v (Mb (M6 ns 1) s (Stm.mk s.kind s.name [] [] [] [] [] s.sets false noX [] [] 0)) (Mb false s (Stm.mk s.kind s.name [] [] [] [] [] s.sets false noX [] [] 0))) hf.sets.1 (λ_ _ _=>rfl) k (by omega) p).trans ?_;simp only[K3,Am5,w6];rw[E4,if_neg h1,if_neg h3,if_neg (by omega),if_neg h5,if_pos h6,pk h6 (by omega) (by omega)];simp only[List.length_map];cases hh:s.has with
   |true =>
    rw[Al4 (.inl h6) hh hf,Bvp h6 hh,Aj1 hh];congr 2
    ac_rfl
   |false =>
    rw[Rk (.inr hh),Bua h6 hh,Alq hh];congr 2
    ac_rfl
  rw[Zd1 h6,Af];by_cases h8:s.kind=8
  ·rw[Ze1 h8,Aa];simp only[K3,Bi7,hx,hl];have c4:∀(b:Bool) (P Q:Bool),cond b (Mb P s (Stm.mk s.kind s.name [] [] [] s.l [] [] false noX s.order s.desc s.most)) (Mb (false&&Q) s (Stm.mk s.kind s.name [] [] [] s.l [] [] false noX s.order s.desc s.most))=Mb (b&&P) s (Stm.mk s.kind s.name [] [] [] s.l [] [] false noX s.order s.desc s.most):=λb P Q=>by cases b<;>rfl
   simp only[c4];have e1:decide ((s.desc.length:Int)=(s.order.length:Int))=decide (s.desc.length=s.order.length):=Zy1.2 (by omega);rw[E4,if_neg h1,if_neg h3,if_neg (by omega),if_neg h5,if_neg h6,if_neg (by omega),if_pos h8,pk h8 (by omega) (by omega),e1];cases hh:s.has with
   |true =>
    rw[Al4 (.inr (.inr h8)) hh hf,Bvw h8 hh,Aj1 hh];congr 2
    ac_rfl
   |false =>
    rw[Rk (.inr hh),Bu6 h8 hh,Alq hh];congr 2
    ac_rfl
  rw[Zd1 h8,Af,hx];by_cases h7:s.kind=7
  ·rw[E4,if_neg h1,if_neg h3,if_neg (by omega),if_neg h5,if_neg h6,if_pos h7,pk h7 (by omega) (by omega)];cases hh:s.has with
   |true =>
    rw[Al4 (.inr (.inl h7)) hh hf,Bvn h7 hh,Aj1 hh];congr 2
    ac_rfl
   |false =>
    rw[Rk (.inr hh),Btj h7 hh,Alq hh];congr 2
    ac_rfl
  rw[Rk (.inl (by omega)),E4,if_neg h1,if_neg h3];by_cases h24:s.kind=2\/s.kind=4
  ·rw[if_pos h24,Bt7 h24,<-hp,Ze1 (show 1<=s.kind by omega),Ze1 (show s.kind<=8 by omega)];congr 2
   ac_rfl
  ·have hp0:p=false:=by
    rw[<-hp];by_cases q : 1<=s.kind
    ·rw[Zd1 (show ¬s.kind<=8 by omega),Bool.and_false]
    ·rw[Zd1 q,Bool.and_false,Bool.false_and]
   rw[if_neg h24,if_neg h5,if_neg h6,if_neg h7,if_neg h8,hp0,Bool.and_false];rfl
 rw[<-h10];cases Dr s.name<;>cases decide (1<=s.kind)<;>cases decide (s.kind<=8)<;>rfl
theorem Box:FO 26 [.sv .stmt] [.int .i64] A4f :=.fin 0 Bke λs r hb hx=>⟨I8 s,by
 simp only[A4f,A3v] at hx;split at hx
 ·rename_i h;exact(Brb (I8 s) s hb h (Zn1 _)).trans hx
 ·cases hx⟩
end
def Um:TL->Str
 |[]=>[]
 |t::_=>cond (decide (t.kind=1)) t.s []
theorem Axe{L:TL}{g:GotS}{f:Str}(h1:¬f=G0)(h2:¬f=Ov)(h3:¬f=F1)(h4:¬f=F0)(h5:¬f=Fe)(h6:¬f=Ec):Hc L g f=some (zS,⟨0,true⟩):=by simp only[Hc,Fh,Zd1 (show ¬f=[67,82,69,65,84,69] from h1),Zd1 (show ¬f=[68,82,79,80] from h2),Zd1 (show ¬f=[73,78,83,69,82,84] from h3),Zd1 (show ¬f=[85,80,68,65,84,69] from h4),Zd1 (show ¬f=[68,69,76,69,84,69] from h5),Zd1 (show ¬f=[83,69,76,69,67,84] from h6),Af];rfl
theorem A6y{l:TL}(h:∀w,w=G0\/w=Ov\/w=F1\/w=F0\/w=Fe\/w=Ec->isT w l=false):Fo l = .error l:=by simp only[Fo,h G0 (.inl rfl),h Ov (.inr (.inl rfl)),h F1 (.inr (.inr (.inl rfl))),h F0 (.inr (.inr (.inr (.inl rfl)))),h Fe (.inr (.inr (.inr (.inr (.inl rfl))))),h Ec (.inr (.inr (.inr (.inr (.inr rfl)))))]
theorem A6c{L:TL}(hL:L.length<=1000000000)(ht:TkA L):Bc L (Hc L ⟨1,false⟩ (Um L)) (Fo L):=by
 have no:(∀w,w=G0\/w=Ov\/w=F1\/w=F0\/w=Fe\/w=Ec->¬Um L=w/\isT w L=false)->Bc L (Hc L ⟨1,false⟩ (Um L)) (Fo L):=λh=>by rw[Axe (h _ (.inl rfl)).1 (h _ (.inr (.inl rfl))).1 (h _ (.inr (.inr (.inl rfl)))).1 (h _ (.inr (.inr (.inr (.inl rfl))))).1 (h _ (.inr (.inr (.inr (.inr (.inl rfl)))))).1 (h _ (.inr (.inr (.inr (.inr (.inr rfl)))))).1,A6y λw hw=>(h w hw).2];exact⟨0,zS,Nat.zero_le _,rfl,rfl⟩
 cases L with
 |nil=>exact no λw hw=>⟨λe=>(by rcases hw with h|h|h|h|h|h<;>subst h<;>cases e),rfl⟩
 |cons t r =>
  have hi:(1:Nat)<=(t::r).length:=by simp
  cases hk:decide (t.kind=1) with
  |false =>
   have h6:=ht.h.2.2.2.2.2.2;refine no λw hw=>⟨λe =>?_,?_⟩
   ·simp only[Um,hk] at e;rcases hw with h|h|h|h|h|h<;>subst h<;>cases e
   ·simp only[isT,hk,Bool.false_or,Bool.and_eq_false_iff,decide_eq_false_iff_not];by_cases hk6:t.kind=6
    ·refine .inr λe =>?_;have hl:=h6 hk6;rw[e] at hl;rcases hw with h|h|h|h|h|h<;>subst h<;>exact absurd hl (by decide)
    ·exact .inl hk6
  |true =>
   have hf:Um (t::r)=t.s:=by simp only[Um,hk,Aa]
   have hs:∀w,isT w (t::r)=decide (t.s=w):=λw=>by simp only[isT,hk,Bool.true_or,Bool.true_and]
   rw[hf];by_cases h1:t.s=G0
   ·have e:Fo (t::r)=G1 ((t::r).drop 1):=by simp only[Fo,hs,h1,decide_true];rfl
    rw[e,h1];exact Bbe hL hi
   by_cases h2:t.s=Ov
   ·have e:Fo (t::r)=Xy ((t::r).drop 1):=by simp only[Fo,hs,Zd1 h1,Ze1 h2];rfl
    rw[e,h2];exact Bl8 hL hi
   by_cases h3:t.s=F1
   ·have e:Fo (t::r)=No ((t::r).drop 1):=by simp only[Fo,hs,Zd1 h1,Zd1 h2,Ze1 h3];rfl
    rw[e,h3];exact Beb hL hi
   by_cases h4:t.s=F0
   ·have e:Fo (t::r)=Jx ((t::r).drop 1):=by simp only[Fo,hs,Zd1 h1,Zd1 h2,Zd1 h3,Ze1 h4];rfl
    rw[e,h4];exact Bdj hL hi
   by_cases h5:t.s=Fe
   ·have e:Fo (t::r)=M0 ((t::r).drop 1):=by simp only[Fo,hs,Zd1 h1,Zd1 h2,Zd1 h3,Zd1 h4,Ze1 h5];rfl
    rw[e,h5];exact Bcw hL hi
   by_cases h6:t.s=Ec
   ·have e:Fo (t::r)=G2 ((t::r).drop 1):=by simp only[Fo,hs,Zd1 h1,Zd1 h2,Zd1 h3,Zd1 h4,Zd1 h5,Ze1 h6];rfl
    rw[e,h6];exact Bcb hL hi
   rw[Axe h1 h2 h3 h4 h5 h6,A6y λw hw=>by rw[hs];rcases hw with h|h|h|h|h|h<;>subst h<;>exact Zd1 (by assumption)];exact⟨0,zS,Nat.zero_le _,rfl,rfl⟩
noncomputable section
def Ap8(R:Type):Px R:=pxO [] [] [] []
noncomputable def A6e(R:Type):Px R:=pxO [(35,cA Ajt),(87,cA A6t),(88,cA Kq),(26,cA A4f),(89,Av 40 200 (Ap8 R) Tryz.f89)] [] [] []
def Xh(x:HV [.str]):Option (HV [.sv .stmt,.int .i64,.int .i64]):=match x with
 |s =>
 cond (!decide ((Fw s).2.2=0)) (
  some ((Stm.mk 0 [] [] [] [] [] [] [] false (Xpr.mk 0 ⟨0,0,[]⟩ [] []) [] [] 0),(Fw s).2.1,(Fw s).2.2)) (
  let j3:=λ(p2:Str) =>
  (Hc ((Fw s).1) (GotS.mk 1 false) p2).bind λ(x,x1) =>
   let j2:=λ(q:GotS) =>
   let j1:=λ(p4:Bool) =>
    cond (p4) (
    cond (decide (q.pos<(((Fw s).1).length:Int))) (
     chk (inb q.pos (((Fw s).1).length)) (
     some ((Stm.mk 0 [] [] [] [] [] [] [] false (Xpr.mk 0 ⟨0,0,[]⟩ [] []) [] [] 0),(at' .tok ((Fw s).1) q.pos).pos,11))) (
     some ((Stm.mk 0 [] [] [] [] [] [] [] false (Xpr.mk 0 ⟨0,0,[]⟩ [] []) [] [] 0),(s.length:Int),11))) (
    (A3v x).bind λx3 =>
     cond (!decide (x3=0)) (
     some ((Stm.mk 0 [] [] [] [] [] [] [] false (Xpr.mk 0 ⟨0,0,[]⟩ [] []) [] [] 0),0,x3)) (
     some (x,0,0)))
   cond (q.bad) (
    j1 true) (
    j1 (decide (q.pos<(((Fw s).1).length:Int))))
   (gis ((Fw s).1) x1 [59]).bind λx2 =>
   cond (x2) (
    j2 (GotS.mk (wr .i64 (x1.pos+1)) x1.bad)) (
    j2 x1)
  let j:=λ(p1:Bool) =>
  cond (p1) (
   chk (inb 0 (((Fw s).1).length)) (
   j3 ((at' .tok ((Fw s).1) 0).s))) (
   j3 [])
  cond (decide (0<(((Fw s).1).length:Int))) (
  chk (inb 0 (((Fw s).1).length)) (
   j (decide ((at' .tok ((Fw s).1) 0).kind=1)))) (
  j false))
theorem Bld:FO 31 [.str] [.sv .stmt,.int .i64,.int .i64] (Xh):=fR (px:=A6e _) (n:=0) Tryz.func31 rfl (λcx H=>by have h1:Lv cx (Ap8 (HV [.sv .stmt,.int .i64,.int .i64])):=lv H Ah Ae Ab;have h0:Lv cx (A6e (HV [.sv .stmt,.int .i64,.int .i64])):=lv H (c1 H Bda (c1 H Blz (c1 H Hm (c1 H Box (As (cR H h1 Tryz.func89 rfl (n:=0) (Aj)) Ah))))) Ae Ab;exact⟨h0,Aj⟩) λ_=>by kernel_rfl
def At4(s:Str):Option (Stm×Int×Int):=Xh s
def Bki:FT [.str] [.sv .stmt,.int .i64,.int .i64]:=λx=>At4 x
theorem Bmh:FO 31 [.str] [.sv .stmt,.int .i64,.int .i64] Bki :=.fin0 Bld λ_ _ _ hx=>hx
theorem A0g(s:Str)(L:TL){j:Nat}(hj:j<=L.length){γ:Type}(z : γ):cond (decide ((j:Int)<(L.length:Int))) (chk (inb (j:Int) L.length) (some (z,(at' .tok L (j:Int)).pos,(11:Int)))) (some (z,(s.length:Int),11))=some (z,G6 s.length (L.drop j),11):=by
 by_cases h:j<L.length
 ·rw[Ze1 (by omega),A5 h,An h,A8 (c :=.tok) h];rfl
 ·rw[Zd1 (by omega),Zk1 (by omega)];rfl
def Tr(s:Str)(L:TL)(x:Stm)(g:GotS):Option (Stm×Int×Int):=cond (g.bad||decide (g.pos<(L.length:Int))) (cond (decide (g.pos<(L.length:Int))) (chk (inb g.pos L.length) (some (zS,(at' .tok L g.pos).pos,(11:Int)))) (some (zS,(s.length:Int),11))) ((A3v x).bind λe=>cond (!decide (e=0)) (some (zS,0,e)) (some (x,0,0)))
theorem A6l{s:Str}{L:TL}(h:Hl s=(L,0,0)):At4 s=(Hc L ⟨1,false⟩ (Um L)).bind λy=>(gis L y.2 [59]).bind λb=>cond b (Tr s L y.1 ⟨wr .i64 (y.2.pos+1),y.2.bad⟩) (Tr s L y.1 y.2):=by
 have hw:∀x g,Tr s L x g=cond g.bad (cond (decide (g.pos<(L.length:Int))) (chk (inb g.pos L.length) (some (zS,(at' .tok L g.pos).pos,(11:Int)))) (some (zS,(s.length:Int),11))) (cond (decide (g.pos<(L.length:Int))) (cond (decide (g.pos<(L.length:Int))) (chk (inb g.pos L.length) (some (zS,(at' .tok L g.pos).pos,(11:Int)))) (some (zS,(s.length:Int),11))) ((A3v x).bind λe=>cond (!decide (e=0)) (some (zS,0,e)) (some (x,0,0)))):=λx g=>by simp only[Tr];cases g.bad<;>rfl
 have h':Fw s=(L,0,0):=h;simp only[At4,Xh,h',decide_true,Zt1,Af,hw];cases L with|nil=>rfl|cons t r =>rw[Ze1 (show(0:Int)<((t::r).length:Int) by simp only[Zf1];omega),show inb 0 (t::r).length=true from A5 (i:=0) (by simp)];have ha:at' .tok (t::r) 0=t:=rfl;simp only[chk,Aa,ha,Um];cases decide (t.kind=1)<;>rfl
theorem Bmw{s:Str}{L q:TL}(h:Hl s=(L,0,0))(ht:TkA L)(hL:L.length<=1000000000)(hw:L4 L = .error q):At4 s=some (zS,G6 s.length q,11):=by
 have ho:=A6c hL ht;rw[A6l h];unfold L4 at hw;cases hq:Fo L with
 |error q' =>rw[hq] at ho hw;cases hw;obtain⟨j,e,a1,a2,a3⟩:=ho;rw[a3,Zc1,H5,Zc1,Af,a2];exact A0g s L a1 zS
 |ok y =>
  obtain⟨x,m⟩:=y;rw[hq] at ho hw;obtain⟨j,a1,a2,a3⟩:=ho;subst a2;rw[a3,Zc1,Gs,Zc1];have key:∀{j:Nat},j<=L.length->L.drop j=q->¬q=[]->Tr s L x ⟨(j:Int),false⟩=some (zS,G6 s.length q,11):=λ{j} hj hd hn=>by
   have hl:j<L.length:=by
    rcases Nat.lt_or_ge j L.length with h|h
    ·exact h
    ·exact absurd (hd.symm.trans (Zk1 h)) hn
   have e:=A0g s L hj zS;rw[Ze1 (show(j:Int)<(L.length:Int) by omega),Aa] at e;simp only[Tr];rw[Ze1 (show(j:Int)<(L.length:Int) by omega),Bool.or_true,Aa,Aa,e,hd]
  cases hs:isT [59] (L.drop j) with
  |true =>obtain⟨j1,j2⟩:=B6 hs;simp only[Sy,hs,j2] at hw;rw[Aa,N1 (by omega)];cases hd:L.drop (j+1) with|nil=>rw[hd] at hw;cases hw|cons t r =>rw[hd] at hw;cases hw;exact key j1 hd (by simp)
  |false =>simp only[Sy,hs] at hw;rw[Af];cases hd:L.drop j with|nil=>rw[hd] at hw;cases hw|cons t r =>rw[hd] at hw;cases hw;exact key a1 hd (by simp)
theorem Blm{s:Str}{L:TL}{x:Stm}(h:Hl s=(L,0,0))(ht:TkA L)(hL:L.length<=1000000000)(hw:L4 L = .ok x)(hf:Few x):At4 s=some (cond (E4 x) (x,0,0) (zS,0,2)):=by
 have ho:=A6c hL ht;rw[A6l h];unfold L4 at hw;cases hq:Fo L with
 |error q'=>rw[hq] at hw;cases hw
 |ok y =>
  obtain⟨x',m⟩:=y;rw[hq] at ho hw;obtain⟨j,a1,a2,a3⟩:=ho;subst a2;rw[a3,Zc1,Gs,Zc1];have hc:A3v x=some (cond (E4 x) 0 2):=by simp only[A3v];rw[if_pos hf]
  have key:∀{j:Nat},L.drop j=[]->x' = x->Tr s L x' ⟨(j:Int),false⟩=some (cond (E4 x) (x,0,0) (zS,0,2)):=λ{j} hd hx=>by
   subst hx;have hl:¬j<L.length:=λh=>by rw[An h] at hd;cases hd
   simp only[Tr];rw[Zd1 (show ¬(j:Int)<(L.length:Int) by omega),Bool.or_false,Af,hc];cases E4 x'<;>rfl
  cases hs:isT [59] (L.drop j) with
  |true =>
   obtain⟨j1,j2⟩:=B6 hs;simp only[Sy,hs,j2] at hw;rw[Aa,N1 (by omega)];cases hd:L.drop (j+1) with
   |nil=>rw[hd] at hw;injection hw with hw;exact key hd hw
   |cons t r=>rw[hd] at hw;cases hw
  |false =>
   simp only[Sy,hs] at hw;rw[Af];cases hd:L.drop j with
   |nil=>rw[hd] at hw;injection hw with hw;exact key hd hw
   |cons t r=>rw[hd] at hw;cases hw
theorem As8{s:Str}{n e:Int}(h:Hl s=([],n,e))(he:¬e=0):At4 s=some (zS,n,e):=by have h':Fw s=([],n,e):=h;simp only[At4,Xh,h',Zd1 he,Zs1,Aa];rfl
end
end Go.Proofs.YthndhaolemgbdaaGreatDoor
namespace Go.Ax
open Go.RowKit Go.ChangeShapes Go.WideShapes
section
variable {H:Type}{enc':TypeId×Value->H}{P:Program}{w:World}{base:Nat}{sp:Nat->Bool}{held:Bool}
theorem Aze{t k e:TypeId}{fuel:Nat}{cs:List Value}{ps:List MemPlace}(ht:P.underlying t=some (.map k e))(hk:P.underlying k=some (.int .i64))(he:P.underlying e=some .string){l:List (Int×Str)}(hl:∀p,p∈l->Rc l p.1=p.2)(hno:∀n,(∀p,p∈l->p.1≠n)->Rc l n=[])(h:DataW.trod enc' P w base sp held fuel t cs=some (.map (l.map λp=>(.int .i64 p.1,.lit (.string p.2))),ps)):∃b es clk,cs=[.map (some b)]/\w.heap[b]? = some (.map es clk)/\A6o l es.toList:=by
 rcases open_anymap ht h with ⟨_,hx⟩|⟨b,es,clock,_,rfl,hb,_,_,_⟩
 ·cases hx
 cases fuel with
 |zero=>simp[DataW.trod] at h
 |succ n =>
  simp only[DataW.trod,ht,hb] at h
  ·split at h
   ·obtain⟨entries,hm,hs⟩:=Option.bind_eq_some_iff.1 h;split at hs
    ·simp only[Za1,Zp1,DataW.map.injEq] at hs;obtain⟨hs,_⟩:=hs;have hperm:=sorted_perm (entries.map (·.1));rw[hs] at hperm;have hx:∀(x:MapEntry) (y:(Lit×DataW H)×List MemPlace),((keyOf P k x.key).bind λkey=>if x.val.formed P e=true then(DataW.trod enc' P w base sp held n e x.val.cells.toList).map λy=>((key,y.1),y.2) else none)=some y->∃(m:Int) (s:ByteArray),x.key = .int .i64 m/\x.val = .string s/\s.size<=maxLen/\y.1=(.int .i64 m,.lit (.string s.data.toList)):=by
      intro x y hy;obtain⟨key,hk1,hy⟩:=Option.bind_eq_some_iff.1 hy;split at hy
      ·rename_i hfm;obtain⟨z,hz,rfl⟩:=Option.map_eq_some_iff.1 hy;obtain⟨s,hs1,rfl,hs3⟩:=DataW.trod_string he hz;have hv:x.val = .string s:=by
        cases hxv:x.val<;>rw[hxv] at hs1 hfm<;>simp[Value.cells] at hs1
        ·rw[hs1]
        ·simp[Value.formed,he] at hfm
       have hkk:∃m,x.key = .int .i64 m/\key = .int .i64 m:=by
        simp only[keyOf,hk] at hk1;cases hxk:x.key<;>rw[hxk] at hk1<;>simp[mapKey,hk] at hk1
        obtain⟨⟨h1,_⟩,h2⟩:=hk1;subst h1;exact⟨_,rfl,h2.symm⟩
       obtain⟨m,h1,rfl⟩:=hkk;exact⟨m,s,h1,hv,hs3,rfl⟩
      ·cases hy
     have hin:∀x,x∈es.toList->∃(m:Int) (s:ByteArray),x.key = .int .i64 m/\x.val = .string s/\s.size<=maxLen/\(m,s.data.toList)∈l:=λx hxm=>by obtain⟨i,hi,rfl⟩:=List.getElem_of_mem hxm;obtain⟨y,hy,hf⟩:=Lib.mapM_at hm i _ (Zo1 hi);obtain⟨m,s,h1,h2,h3,h4⟩:=hx _ y hf;refine⟨m,s,h1,h2,h3,?_⟩;have:y.1∈entries.map (·.1):=List.mem_map.2 ⟨y,List.mem_of_getElem? hy,rfl⟩;have:=hperm.symm.subset this;rw[h4] at this;obtain⟨p,hp,e⟩:=List.mem_map.1 this;simp only[Zp1,Lit.int.injEq,true_and,DataW.lit.injEq,Lit.string.injEq] at e;obtain⟨e1,e2⟩:=e;rw[<-e1,<-e2];exact hp
     have hout:∀p,p∈l->∃x,x∈es.toList/\x.key = .int .i64 p.1:=λp hp=>by have h1:(Lit.int .i64 p.1,DataW.lit (H:=H) (.string p.2))∈entries.map (·.1):=hperm.subset (List.mem_map.2 ⟨p,hp,rfl⟩);obtain⟨y,hy,e⟩:=List.mem_map.1 h1;obtain⟨x,hxm,hf⟩:=mapM_mem hm y hy;obtain⟨m,s,h2,_,_,h4⟩:=hx x y hf;rw[e] at h4;simp only[Zp1,Lit.int.injEq,true_and] at h4;exact⟨x,hxm,by rw[h2,h4.1]⟩
     refine⟨b,es,clock,rfl,hb,λn =>?_⟩;have hik:MapKept.IsKey (.int .i64) (.int .i64 n):=by simp[MapKept.IsKey]
     rcases MapKept.findNow_spec hik es.toList 0 (λx hxm=>by obtain⟨m,s,h1,_⟩:=hin x hxm;rw[h1];simp[MapKept.IsKey]) with ⟨h1,h2⟩|⟨j,x,h1,h2,h3⟩
     ·have:Rc l n=[]:=hno n λp hp e=>by obtain⟨x,hxm,hk⟩:=hout p hp;exact h2 x hxm (by rw[hk,e])
      exact⟨by rw[this];simp,.inl ⟨h1,this⟩⟩
     ·obtain⟨m,s,g1,g2,g3,g4⟩:=hin x (List.mem_of_getElem? h2);have hmn:m=n:=by rw[g1] at h3;simpa using h3
      subst hmn;have hg:=hl _ g4;simp only at hg;refine⟨by rw[hg,Array.length_toList];exact g3,.inr ⟨0+j,?_⟩⟩;rw[h1,g2,hg,Array.toArray_toList]
    ·cases hs
   ·cases h
end
theorem Ahd{H:Type}{P:Program}:∀{ts us:List TypeId}{ds gs:List (DataW H)}{n:Nat},ds.length<=ts.length->n∈DataW.weightsEach P ts ds->n∈DataW.weightsEach P (ts++us) (ds++gs)
 |[],us,ds,gs,n,_,h=>by cases ds<;>simp[DataW.weightsEach] at h
 |t::ts,us,[],gs,n,_,h=>by simp[DataW.weightsEach] at h
 |t::ts,us,d::ds,gs,n,hl,h=>by
  simp only[DataW.weightsEach,Zb2,List.mem_append] at h ⊢;rcases h with h|h
  ·exact .inl h
  ·exact .inr (Ahd (by simpa using hl) h)
theorem Bk6{H:Type}{P:Program}{ts us:List TypeId}{ds gs:List (DataW H)}(h:(DataW.weightsEach P (ts++us) (ds++gs)).all (·<=reachBytes)=true)(hl:ds.length<=ts.length):∀(i:Nat) (t:TypeId) (d:DataW H),ts[i]? = some t->ds[i]? = some d->∀n,n∈d.weights P t->n<=R47:=λi t d ht hd n hn=>by have:=Zg2.1 h n (Ahd hl (DataW.weights_mem_each ht hd n hn));show n<=reachBytes;exact of_decide_eq_true this
theorem Axc{H:Type}{enc':TypeId×Value->H}{P:Program}{w:World}{base:Nat}{sp:Nat->Bool}{held:Bool}:∀{ts:List TypeId}{vs:List Value}{ds:List (DataW H)}{ps:List MemPlace},DataW.TrodAll enc' P w base sp held ts vs ds ps->ds.length=ts.length:=by intro ts;induction ts with|nil=>intro vs ds ps h;cases vs<;>cases ds<;>simp[DataW.TrodAll] at h ⊢|cons t ts ih =>intro vs ds ps h;obtain⟨v,vs',d,ds',p,q,rfl,rfl,rfl,hd,hrest⟩:=trodAll_cons h;simp[ih hrest]
end Go.Ax
namespace Go.Proofs.YthndhaolemgbdaaGreatDoor
open Go.Ax Go.ChangeShapes Go.WideShapes Go.ChangeAt Go.RowKit Go.ChangeMaps
theorem own:ownKnob Tryz.prog.godebug=none:=by kernel_rfl
def rdL:List Nat:=[3,4,9,5,23,26,111,89,44,24,39,34,42,78,41,40,63,67]
theorem Bsq:rdB elT (Atv ttL) rdL=true:=by kernel_rfl
theorem Bq6:szB Tryz.prog elT (Atv ttL) rdL=true:=by kernel_rfl
theorem Bp0:laidOutB Tryz.prog=true:=by kernel_rfl
def GlE(x:Vx)(g:Nat):Gv->Prop
 |.arr c xs=>∀i y,xs[i]? = some y->∀w',Chg x.S x.w w'->At w' c y g (i*csz c)
 |.map l=>∃r es clk,(∀w',Chg x.S x.w w'->w'.cell? ⟨g,0,none⟩=some (.map (some r))/\w'.heap[r]? = some (.map es clk))/\A6o l es.toList
 |.num k=>∃n,∀w',Chg x.S x.w w'->w'.cell? ⟨g,0,none⟩=some (.int k n)
theorem Js{α:Type}:∀{L:List (Nat×α)}{g:Nat}{v : α},tbl L g=some v->(g,v)∈L
 |[],_,_,h=>by simp[tbl] at h
 |(k,u)::L,g,v,h=>by
  simp only[tbl] at h;split at h
  ·rename_i hk;have hk:=Zl1 hk;subst hk;simp only[Za1] at h;subst h;exact Zr1
  ·exact Zu1 _ (Js h)
theorem Bon{x:Vx}{L:List (Nat×Gv)}(h:∀p,p∈L->GlE x p.1 p.2):GlR x (tbl L) :=⟨λ_ _ _ hg=>h _ (Js hg),λ_ _ hg=>h _ (Js hg),λ_ _ hg=>h _ (Js hg)⟩
theorem Amy{P:Program}{w:World}:∀{l:List (String×DataW Unit)}{ps:List MemPlace},DataW.LaidVars P w l ps->∀x,x∈l->∃g t cs fuel p,P.globalNamed x.1=some g/\(P.globals[g]?).map (·.type)=some t/\w.var? P x.1=some cs/\DataW.trod (λ_=>()) P w 0 (λ_=>true) false fuel t cs.toList=some (x.2,p)
 |[],_,_,x,hx=>by cases hx
 |(n,d)::r,ps,h,x,hx=>by
  obtain⟨g,t,cs,fuel,p,q,h1,h2,h3,h4,h5,_⟩:=h;rcases List.mem_cons.1 hx with rfl|hx
  ·exact⟨g,t,cs,fuel,p,h1,h2,h3,h4⟩
  ·exact Amy h5 x hx
theorem Aj8{H:Type}{enc:TypeId×Value->H}{P:Program}{w:World}{base:Nat}{sp:Nat->Bool}{held:Bool}{fuel:Nat}{t e:TypeId}{n:Nat}{cs:List Value}{zs:List (List UInt8)}{p:List MemPlace}
  (ht:P.underlying t=some (.array n e)) (he:P.underlying e=some .string) (hce:P.cellsOf e=1)
  (h:DataW.trod enc P w base sp held fuel t cs=some (.agg (zs.map λz =>.lit (.string z)),p)):∀(i:Nat) (z:Str),zs[i]? = some z->cs[i]? = some (.string ⟨z.toArray⟩):=by
 cases fuel with
 |zero=>simp[DataW.trod] at h
 |succ fuel =>
  simp only[DataW.trod,ht,hce,Nat.mul_one] at h;split at h
  ·rename_i hl;obtain⟨xs,hm,hx⟩:=Option.map_eq_some_iff.1 h;have hxs:xs.map (·.1)=zs.map λz=>(DataW.lit (.string z):DataW H):=by have:=congrArg Prod.fst hx;simpa using this
   have hxl:xs.length=n:=by simpa using Lib.mapM_length hm
   have hzl:zs.length=n:=by have:=congrArg List.length hxs;simp at this;omega
   intro i z hz;have hi:i<n:=by have:=(Zi2.1 hz).1;omega
   obtain⟨b,hb,hf⟩:=Lib.mapM_at hm i i (by simp[hi]);obtain⟨z',hc,h3,_⟩:=DataW.trod_string he hf;have h1:cs[i]? = some (.string z'):=by have:=congrArg (·[0]?) hc;simpa[List.getElem?_take,List.getElem?_drop] using this
   have h2:(xs.map (·.1))[i]? = some b.1:=by simp[hb]
   rw[hxs] at h2;simp only[List.getElem?_map,hz,Zl2,Za1] at h2;rw[h3] at h2;simp only[DataW.lit.injEq,Lit.string.injEq] at h2;rw[h1,h2]
  ·cases h
theorem Aps{W:World}{l:List (String×DataW Unit)}(h:laidMet Tryz.prog l W){nm:String}{g t e:Nat}{n:Nat}{zs:List Str}(hin:(nm,DataW.agg (zs.map λz =>.lit (.string z)))∈l)(hg:Tryz.prog.globalNamed nm=some g)(hgt:(Tryz.prog.globals[g]?).map (·.type)=some t)
  (ht:Tryz.prog.underlying t=some (.array n e)) (he:Tryz.prog.underlying e=some .string) (hce:Tryz.prog.cellsOf e=1) (hz:(zs.all λz=>Nat.ble z.length maxLen)=true):GlE (v0 elT F2 W) g (.arr .str zs):=by
 obtain⟨ps,hl,_⟩:=h;obtain⟨g',t',cs,fuel,p,h1,h2,h3,h4⟩:=Amy hl _ hin;obtain rfl:=Option.some.inj (hg.symm.trans h1);obtain rfl:=Option.some.inj (hgt.symm.trans h2);have hc:=Aj8 ht he hce h4;intro i y hy w' hw j d hd;have hj:j=0/\d = .str y:=by cases j with|zero=>simpa[enc] using hd.symm|succ j=>simp[enc] at hd
 obtain⟨rfl,rfl⟩:=hj;have h5:=World.var?_cell h1 h3 i;rw[<-Array.getElem?_toList,hc i y hy] at h5;have hm:=Zg2.1 hz y (List.mem_of_getElem? hy);have e1:i*csz .str+0=i:=by simp[csz]
 exact⟨_,by rw[e1];exact hw.cell _ _ _ h5 (λh=>h),.str y (Nat.le_of_ble_eq_true hm)⟩
theorem Bn5:∀p,p∈signsL->Rc signsL p.1=p.2:=by decide
theorem Bnd(l:List (Int×Str)):∀n,(∀p,p∈l->p.1≠n)->Rc l n=[]:=by induction l with|nil=>intro n _;rfl|cons p l ih =>intro n h;obtain⟨k,s⟩:=p;have h1:k≠n:=h (k,s) (by simp);simp only[Rc,Zd1 h1];exact ih n λp hp=>h p (by simp[hp])
theorem A9w{W:World}{l:List (String×DataW Unit)}(h:laidMet Tryz.prog l W)(hin:("exchequer/ast.signs",Rows.laid_exchequer_ast_signs)∈l):GlE (v0 elT F2 W) 0 (.map signsL):=by
 obtain⟨ps,hl,_⟩:=h;obtain⟨g',t',cs,fuel,p,hg',ht',hvar,hd⟩:=Amy hl _ hin;obtain rfl:=Option.some.inj ((show Tryz.prog.globalNamed "exchequer/ast.signs" = some 0 by kernel_rfl).symm.trans hg');obtain rfl:=Option.some.inj ((show(Tryz.prog.globals[0]?).map (·.type)=some 147 by kernel_rfl).symm.trans ht');obtain⟨b,es,clk,h1,h2,h3⟩:=Aze (l:=signsL) (t:=147) (k:=3) (e:=9) (by kernel_rfl) (by kernel_rfl) (by kernel_rfl) Bn5 (Bnd signsL) hd;have hc:=World.var?_cell hg' hvar 0;have h1':cs = #[.map (some b)]:=by apply Array.ext';exact h1
 rw[h1'] at hc;have hc:W.cell? ⟨0,0,none⟩=some (.map (some b)):=hc;have hlt:b<W.heap.size:=(Zh2.1 h2).1;exact⟨b,es,clk,λw' hw=>⟨hw.cell _ 0 _ hc (λh=>h),by rw[hw.block b hlt (λ_ h=>h)];exact h2⟩,h3⟩
theorem Bml{W:World}(h:W.ShapedOpen Tryz.prog):GlE (v0 elT F2 W) 3 (.num .i64):=by obtain⟨m,hm⟩:=Go.Proofs.cell_of_shapedOpen_int (zero := #[.int .i64 0]) (t:=3) (g:=3) h (of_decide_eq_true (by kernel_rfl)) (by kernel_rfl) rfl (by kernel_rfl) (by kernel_rfl) Tryz.underlying3;exact⟨m,λw' hw=>hw.cell _ 0 _ hm (λh=>h)⟩
def Bqf(l:List (String×DataW Unit)):Prop:=(l.all λx=>x.2.handleName?.isNone)=true
 /\ ("exchequer/lex.words",Rows.laid_exchequer_lex_words)∈l
 /\ ("exchequer/ast.signs",Rows.laid_exchequer_ast_signs)∈l
 /\ ("exchequer/ast.kinds",Rows.laid_exchequer_ast_kinds)∈l
 /\ True
theorem Bmi{W:World}{l:List (String×DataW Unit)}(hl:Bqf l)(hL:laidMetH Tryz.prog l W)(hS:W.ShapedOpen Tryz.prog):GlR (v0 elT F2 W) glT:=by
 have hL':laidMet Tryz.prog l W:=by
  have hf:(l.filter λx=>x.2.handleName?.isSome)=[]:=List.filter_eq_nil_iff.2 λx hx=>by have:=Zg2.1 hl.1 x hx;rw[Option.isNone_iff_eq_none] at this;simp[this]
  unfold laidMetH at hL;rw[hf] at hL;exact hL
 replace hl:=hl.2;clear hL;have _:=hS;refine Bon λp hp =>?_;have hwords:GlE (v0 elT F2 W) 2 (.arr .str wordsL):=Aps (n:=36) (t:=221) (e:=9) hL' hl.1 (by kernel_rfl) (by kernel_rfl) (by kernel_rfl) (by kernel_rfl) (by kernel_rfl) (by kernel_rfl);replace hl:=hl.2;have hsigns:=A9w hL' hl.1;replace hl:=hl.2;have hkinds:GlE (v0 elT F2 W) 1 (.arr .str Zm):=Aps (n:=6) (t:=191) (e:=9) hL' hl.1 (by kernel_rfl) (by kernel_rfl) (by kernel_rfl) (by kernel_rfl) (by kernel_rfl) (by kernel_rfl);replace hl:=hl.2;have hmax:=Bml hS;simp only[List.mem_cons,List.not_mem_nil,or_false] at hp
 repeat' (first|(rcases hp with rfl|hp)|subst hp)
 all_goals assumption
def Bu7:DataW Unit->Value
 |.lit (.int k n) =>.int k n
 |.lit (.string s) =>.string ⟨s.toArray⟩
 |_ =>.int .u8 0
def Acw:DataW Unit->List Value
 |.agg l=>l.map Bu7
 |_=>[]
def Bsf:DataW Unit->List Value
 |.agg l=>l.flatMap Acw
 |_=>[]
def Amp(vs:List Value):Obj->Obj
 |.cells _ t frozen =>.cells vs.toArray t frozen
 |o=>o
noncomputable def Bif(h:Array Obj):Array Obj :=
 let h:=h.modify 2 (Amp (Acw Rows.laid_exchequer_lex_words));let h:=h.modify 1 (Amp (Acw Rows.laid_exchequer_ast_kinds));let h:=(h.modify 4 (Amp (Acw Rows.laid_unicode_utf8_first))).modify 5 (Amp (Bsf Rows.laid_unicode_utf8_acceptRanges));let h:=(h.modify 0 (Amp [.map (some h.size)])).push (.map ((signsL.zip (List.range 11)).map λp=>(⟨.int .i64 p.1.1,.string ⟨p.1.2.toArray⟩,p.2⟩:MapEntry)).toArray 11)
 h
noncomputable def Ad2(os:Os):World :={ World.holding Tryz.prog os ⟨#[], #[],[]⟩ with heap:=Bif (World.holding Tryz.prog os ⟨#[], #[],[]⟩).heap }
set_option maxRecDepth 100000 in
theorem Bd7{H:Type}{R:Nat×Nat}{M:TypeId->DataW H->Prop}(hM:Msr Tryz.prog R M){enc:TypeId×Value->H}{f:FuncId}{fn:Func}{sa:List Sg}{F:FT sa [.bool]}{s:ChangeSpec}(hok:FnOk Tryz.prog elT glT f sa [.bool] F)(hF:∀x,BdL sa x->SmL R sa x->F x=some true)
  (hr:fn.resultTypes = #[4]) (hv:s.vars=[]) (hf:∀ds,ds.length=fn.params.toList.length->(s.fn H ds).results=[.lit (.bool true)]/\(s.fn H ds).args=ds/\(s.fn H ds).vars=[])
  (hsg:Ard (Atv ttL) rdL fn.params.toList sa=true) (hread:(fn.params.toList.all λt=>Tryz.prog.readableRec t&&Nat.blt t Tryz.prog.types.size)=true)
  {W:World}{base:Nat}{args:Array Value}{ds gs:List (DataW H)}{before:List MemPlace}(hval:∀(j:Nat) t v,fn.params[j]? = some t->args[j]? = some v->Value.okWide Tryz.prog W .any base t v)
  (hW:DataW.Whole enc Tryz.prog fn.params.toList s.vars false W args.toList ds gs before) (hgl:GlR (v0 elT F2 W) glT) (hsz:ds.length=fn.params.toList.length->∀(i:Nat) (t:TypeId) (d:DataW H),fn.params.toList[i]? = some t->ds[i]? = some d->M t d) :
  Calls Tryz.prog f args W λe W'=>∃v,e = .returned v/\s.post enc Tryz.prog fn false true false false W args v W':=by
 have hW':=hW;have hlt:=hW.lt;obtain⟨p,q,hA,hV,rfl,hfz,hnd⟩:=hW;rw[hv] at hV;obtain⟨rfl,rfl⟩:=trodVars_none hV;have hlen:=Axc hA;obtain⟨x,hx,hsm⟩:=A1b hM (λt=>Bku A5w t) Bsq Bq6 0 hsg (λj t v h1 h2=>hval j t v (by simpa using h1) (by simpa using h2)) hA;have hcall:=hok.calls (hF x (Abp hx) (hsm (hsz hlen))) hgl hx;have e1:args.toList.toArray=args:=by simp
 rw[e1] at hcall;refine hcall.mono λen W' =>?_;rintro⟨rfl,hb⟩;refine⟨_,rfl,?_⟩;obtain⟨h1,h2,h3⟩:=hf ds hlen;have e2:ds++([]:List (DataW H))=ds:=by simp
 refine⟨ds,[],_,[],p,[],hW',?_,?_,?_,hb.frame _,λh=>by cases h⟩
 ·rw[e2,h1,hr];exact trodAll_cons_mk (shut_bool Tryz.underlying4 _) trodAll_mk0
 ·rw[e2,h2];refine Art Bp0 hb (λt ht =>?_) (λx hx=>hlt x (by simp[hx])) hA;have:=Zg2.1 hread t ht;simp only[Zb1] at this;exact⟨this.1,by simpa[Nat.blt_eq] using this.2⟩
 ·rw[e2,h3,hv];exact rfl
end Go.Proofs.YthndhaolemgbdaaGreatDoor
