/- Texts of the proof,one behind the other: AxFr,Mu,Tl,Tm,Ye,Yg,Yh,Yi,Yj,Yk,Ge,Gf,Gg,Gh,Rq,Rr,Gi,Ub,AxFs,FrG. -/
import Derived.Test.YthndhaolemgbdaaGreatDoorV6
import Derived.ChangeArms
import Derived.WideShapes
import Derived.Carry
import Derived.ChangeShapes
import Derived.Lib.LaidTab
import Derived.SizedLaws
import Derived.Test.YthndhaolemgbdaaGreatDoorRows
import Derived.ProofKit
import Derived.ChangeMaps5
import Derived.ChangeAnyMap
import Derived.Test.YthndhaolemgbdaaGreatDoorCards
import Derived.Test.YthndhaolemgbdaaGreatDoorTie
import Derived.OpenShut
import Derived.Deep.DeepHandedRow
import Derived.Shelf.Vars
set_option linter.all false
namespace Go.Ax
open Go.RowKit Go.ChangeShapes
def shp:D→D→Bool
 |.int k _,.int k' _=>decide (k=k')
 |.bool _,.bool _=>true
 |.str _,.str _=>true
 |.sl c _ _,.sl c' _ _=>decide (c=c')
 |_,_=>false
def Hj:List D→List D→Bool
 |[],[]=>true
 |a::l,b::m=>shp a b&&Hj l m
 |_,_=>false
theorem Bgz{a b c:D}(h:shp a b=true) (k:shp a c=true):shp b c=true:=by
 cases a<;>cases b<;>simp [shp] at h<;>cases c<;>simp [shp] at k<;>subst_vars<;>simp [shp]
theorem Ayl:∀{a b c:List D},Hj a b=true→Hj a c=true→Hj b c=true
 |[],[],[],_,_=>rfl
 |x::a,y::b,z::c,h,k=>by
  simp only [Hj,Zb1] at h k ⊢
  exact⟨Bgz h.1 k.1,Ayl h.2 k.2⟩
 |[],_::_,_,h,_=>by simp [Hj] at h
 |_::_,[],_,h,_=>by simp [Hj] at h
 |[],[],_::_,_,k=>by simp [Hj] at k
 |_::_,_::_,[],_,k=>by simp [Hj] at k
theorem Aco:∀{a b c d:List D},Hj a b=true→Hj c d=true→Hj (a++c) (b++d)=true
 |[],[],_,_,_,k=>k
 |_::a,_::b,_,_,h,k=>by
  simp only [Hj,Zb1,Zb2] at h ⊢
  exact⟨h.1,Aco h.2 k⟩
 |[],_::_,_,_,h,_=>by simp [Hj] at h
 |_::_,[],_,_,h,_=>by simp [Hj] at h
theorem Ax0{k:IntKind}{n:Int}{d:D}(h:shp (.int k n) d=true):∃m,d = .int k m:=by
 cases d<;>simp [shp] at h
 subst h
 exact⟨_,rfl⟩
theorem A8p{b:Bool}{d:D}(h:shp (.bool b) d=true):∃m,d = .bool m:=by
 cases d<;>simp [shp] at h
 exact⟨_,rfl⟩
theorem Azc{s:Str}{d:D}(h:shp (.str s) d=true):∃m,d = .str m:=by
 cases d<;>simp [shp] at h
 exact⟨_,rfl⟩
theorem A9n{c:Ck}{xs:List (El c)}{t:Tk}{d:D}(h:shp (.sl c xs t) d=true):∃ys u,d = .sl c ys u:=by
 cases d<;>simp [shp] at h
 subst h
 exact⟨_,_,rfl⟩
theorem R0{a:D}{l ds:List D}(h:Hj (a::l) ds=true):∃b m,ds=b::m∧shp a b=true∧Hj l m=true:=by
 cases ds with
 |nil=>simp [Hj] at h
 |cons b m =>
  simp only [Hj,Zb1] at h
  exact⟨b,m,rfl,h.1,h.2⟩
theorem V4{ds:List D}(h:Hj [] ds=true):ds=[]:=by
 cases ds with
 |nil=>rfl
 |cons b m=>simp [Hj] at h
theorem Aiv{c:Ck}{z ds:List D}(h:(dec c z).isSome=true) (hs:Hj z ds=true):∃y,dec c ds=some y:=by
 obtain⟨y0,h⟩:=Option.isSome_iff_exists.1 h
 unfold dec at h
 split at h
 all_goals first
  |(cases h;done)
  |skip
 all_goals
  clear h
  repeat (
   obtain⟨b,m,e,h1,hs'⟩:=R0 hs
   clear hs
   have hs:=hs'
   clear hs'
   subst e
   first
    |(obtain⟨_,e⟩:=Ax0 h1;subst e)
    |(obtain⟨_,e⟩:=A8p h1;subst e)
    |(obtain⟨_,e⟩:=Azc h1;subst e)
    |(obtain⟨_,_,e⟩:=A9n h1;subst e))
  have e:=V4 hs
  subst e
  exact⟨_,rfl⟩
def R47:Nat:=140737488351232
def Ayq(R:Nat×Nat) (v:Val):Prop:=v.s.length≤R.1
inductive SmExpr (R:Nat×Nat):Xpr→Prop
 |mk (k:Int) (v:Val) (nm:Str) (l:List Xpr):Ayq R v→nm.length≤R.1→l.length≤R.2→(∀e,e∈l→SmExpr R e)→SmExpr R (.mk k v nm l)
structure SmStm (R:Nat×Nat) (s:Stm):Prop where
 name:s.name.length≤R.1
 on:s.on.length≤R.1
 cols:s.cols.length≤R.2∧∀c,c∈s.cols→c.name.length≤R.1∧c.ref.length≤R.1
 names:s.names.length≤R.2∧∀x,x∈s.names→x.length≤R.1
 l:s.l.length≤R.2∧∀x,x∈s.l→SmExpr R x
 rows:s.rows.length≤R.2∧∀r,r∈s.rows→r.length≤R.2∧∀x,x∈r→SmExpr R x
 sets:s.sets.length≤R.2∧∀x,x∈s.sets→x.name.length≤R.1∧SmExpr R x.e
 whr:SmExpr R s.whr
 order:s.order.length≤R.2∧∀x,x∈s.order→x.length≤R.1
 desc:s.desc.length≤R.2
def Bec(R:Nat×Nat) (x:Idx):Prop:=x.name.length≤R.1∧x.cols.length≤R.2∧∀s,s∈x.cols→s.length≤R.1
structure SmTbl (R:Nat×Nat) (t:Tbl):Prop where
 name:t.name.length≤R.1
 cols:t.cols.length≤R.2∧∀c,c∈t.cols→c.name.length≤R.1∧c.ref.length≤R.1
 key:t.key.length≤R.2∧∀x,x∈t.key→x.length≤R.1
 checks:t.checks.length≤R.2∧∀x,x∈t.checks→SmExpr R x
 idx:t.idx.length≤R.2∧∀x,x∈t.idx→Bec R x
def SmK(R:Nat×Nat):(c:Ck)→El c→Prop
 |.str,s=>s.length≤R.1
 |.val,v=>Ayq R v
 |.tok,t=>t.s.length≤R.1
 |.col,c=>c.name.length≤R.1∧c.ref.length≤R.1
 |.expr,e=>SmExpr R e
 |.vals,l=>l.length≤R.2∧∀x,x∈l→Ayq R x
 |.exprs,l=>l.length≤R.2∧∀x,x∈l→SmExpr R x
 |.strs,l=>l.length≤R.2∧∀x,x∈l→x.length≤R.1
 |.set,s=>s.name.length≤R.1∧SmExpr R s.e
 |.stmt,s=>SmStm R s
 |.idx,x=>Bec R x
 |.tbl,t=>SmTbl R t
 |_,_=>True
def SmD(R:Nat×Nat):D→Prop
 |.str l=>l.length≤R.1
 |.sl c xs _=>xs.length≤R.2∧∀x,x∈xs→SmK R c x
 |_=>True
def SmS(R:Nat×Nat):(s:Sg)→den s→Prop
 |.str,s=>s.length≤R.1
 |.sl c _,xs=>xs.length≤R.2∧∀x,x∈xs→SmK R c x
 |.sv c,x=>SmK R c x
 |_,_=>True
def SmL(R:Nat×Nat):(l:List Sg)→HV l→Prop
 |[],_=>True
 |[a],x=>SmS R a x
 |a::b::l,(x,y)=>SmS R a x∧SmL R (b::l) y
theorem A47{R:Nat×Nat}{c:Ck}{ds:List D}{y:El c}(h:dec c ds=some y) (hd:∀d,d∈ds→SmD R d):SmK R c y:=by
 unfold dec at h
 split at h<;>simp only [Za1,reduceCtorEq] at h<;>subst h<;>simp only [List.mem_cons,List.not_mem_nil,or_false,forall_eq_or_imp,forall_eq,SmD] at hd<;>simp only [SmK,Ayq]<;>first
  |trivial
  |exact hd
  |exact hd.2.2
  |exact hd.2.2.1
  |exact⟨hd.1,hd.2.2.2.2⟩
  |exact .mk _ _ _ _ hd.2.2.2.1 hd.2.2.2.2.1 hd.2.2.2.2.2.1 hd.2.2.2.2.2.2
  |exact⟨hd.1,.mk _ _ _ _ hd.2.2.2.2.1 hd.2.2.2.2.2.1 hd.2.2.2.2.2.2.1 hd.2.2.2.2.2.2.2⟩
  |exact⟨hd.1,hd.2.1,hd.2.2.1,hd.2.2.2.1,hd.2.2.2.2⟩
  |(obtain⟨_,h1,h2,h3,h4,h5,h6,h7,_,_,_,_,w1,w2,w3,h8,h9,_⟩:=hd
    exact⟨h1,h2,h3,h4,h5,h6,h7,.mk _ _ _ _ w1 w2 w3.1 w3.2,h8,h9.1⟩)
theorem S9{H:Type}{P:Program}{e:TypeId}:∀{l:List (DataW H)}{d:DataW H},d∈l→∀n∈d.weights P e,n∈DataW.weightsAll P e l
 |[],_,h,_,_=>by cases h
 |x::l,d,h,n,hn=>by
  simp only [DataW.weightsAll,List.mem_append]
  rcases List.mem_cons.1 h with rfl|h
  ·exact .inl hn
  ·exact .inr (S9 h n hn)
structure Msr {H:Type}(P:Program) (R:Nat×Nat) (M:TypeId→DataW H→Prop):Prop where
 str:∀(t:TypeId) (s:List UInt8),M t (.lit (.string s))→s.length≤R.1
 sl:∀(t e:TypeId) (l r:List (DataW H)),P.underlying t=some (.slice e)→1≤P.bytesOf e→M t (.slice l r)→l.length≤9223372036854775807→l.length≤R.2∧∀d,d∈l→M e d
 agg:∀(t:TypeId) (fds:Array Field) (l:List (DataW H)) (i:Nat) (fd:Field) (d:DataW H),P.underlying t=some (.struct fds)→M t (.agg l)→fds[i]? = some fd→l[i]? = some d→M fd.type d
theorem Ar5{H:Type}(P:Program):Msr (H:=H) P (R47,R47) fun t d=>∀n,n∈d.weights P t→n≤R47 where
 str:=fun t s h=>h _ (by simp [DataW.weights])
 sl:=fun t e l r hu hz h _=>⟨by
  have h1:=h ((l.length+r.length)*P.bytesOf e) (by simp only [DataW.weights,hu,List.mem_cons,true_or])
  have h2:(l.length+r.length)*1≤(l.length+r.length)*P.bytesOf e:=Nat.mul_le_mul_left _ hz
  omega,fun d hd n hn=>h n (by
  simp only [DataW.weights,hu,List.mem_cons,List.mem_append]
  exact .inr (.inl (S9 hd n hn)))⟩
 agg:=fun t fds l i fd d hu h hf hd n hn=>h n (by
  simp only [DataW.weights,hu]
  exact DataW.weights_mem_each (j:=i) (t:=fd.type) (d:=d) (by simp [hf]) hd n hn)
def zc(t:Ty):List D:=match t.zero with
 |some z=>cells z
 |none=>[]
def Af8(tt:Nat→Ty) (rd:List Nat):Nat→List (Nat×Nat)→List D→Bool
 |_,[],z=>z.isEmpty
 |o,(o',u)::fs,z=>Nat.beq o' o&&rd.contains u&&Nat.ble (zc (tt u)).length z.length&&Hj (zc (tt u)) (z.take (zc (tt u)).length)&&Af8 tt rd (o+(zc (tt u)).length) fs (z.drop (zc (tt u)).length)
def A6d(el:Ck→TypeId) (tt:Nat→Ty) (rd:List Nat) (t:Nat):Bool:=match tt t with
 |.int _|.bool|.str=>true
 |.sl c=>rd.contains (el c)&&(dec c (zc (tt (el c)))).isSome
 |.st _ fs z=>Af8 tt rd 0 fs z
 |_=>false
def rdB(el:Ck→TypeId) (tt:Nat→Ty) (rd:List Nat):Bool:=rd.all fun t=>A6d el tt rd t&&Nat.beq (zc (tt t)).length (tt t).n
def szB(P:Program) (el:Ck→TypeId) (tt:Nat→Ty) (rd:List Nat):Bool:=rd.all fun t=>match tt t with
 |.sl c=>Nat.ble 1 (P.bytesOf (el c))
 |_=>true
theorem Abw{α:Type}{p:Nat→α→Prop}:∀(n:Nat),(∀i,i<n→∃y,p i y)→∃ys:List α,ys.length=n∧∀i y,ys[i]? = some y→p i y
 |0,_=>⟨[],rfl,by simp⟩
 |n+1,h=>by
  obtain⟨ys,h1,h2⟩:=Abw n (fun i hi=>h i (by omega))
  obtain⟨y,hy⟩:=h n (by omega)
  refine⟨ys++[y],by simp [h1],fun i z hz =>?_⟩
  rcases Nat.lt_trichotomy i n with hi|rfl|hi
  ·rw [List.getElem?_append_left (by omega)] at hz
   exact h2 i z hz
  ·rw [List.getElem?_append_right (by omega),h1] at hz
   simp at hz
   subst hz
   exact hy
  ·rw [List.getElem?_eq_none (by simp;omega)] at hz
   cases hz
section
variable {H:Type}{enc':TypeId×Value→H}{P:Program}{el:Ck→TypeId}{tt:Nat→Ty}{rd:List Nat}{w:World}{sp:Nat→Bool}{held:Bool}
theorem Ut{t:TypeId}{n:Nat}(h:Sx.tySz P t=some n):P.cellsOf t=n:=by
 unfold Sx.tySz at h
 simp [Program.cellsOf,h]
theorem Agy{a:Addr}{n:Nat}{vs:List Value}(h:w.cells? 0 a n=some vs):vs.length=n∧∀j u,vs[j]? = some u→w.cell? (a.add j)=some u:=by
 unfold World.cells? at h
 simp only [Nat.zero_le,if_true] at h
 refine⟨by simpa using Lib.mapM_length h,fun j u hj =>?_⟩
 have hlt:j<n:=by
  have:=Lib.mapM_length h
  have h2:=(Zi2.1 hj).1
  simp at this
  omega
 obtain⟨u',hu,hf⟩:=Lib.mapM_at h j j (by simp [hlt])
 rw [hj] at hu
 simp only [Za1] at hu
 subst hu
 exact hf
theorem Avj{a:Addr}{u:Value}(h:w.cell? a=some u):a.spot=none:=by
 unfold World.cell? at h
 split at h
 ·split at h
  ·cases h
  ·rename_i hs
   cases hq:a.spot with
   |none=>rfl
   |some q=>rw [hq] at hs;simp at hs
 ·cases h
theorem Al6{R:Nat×Nat}{M:TypeId→DataW H→Prop}(hM:Msr P R M) (hT:∀t,Cj P el tt t=true) (hrd:rdB el tt rd=true) (hsb:szB P el tt rd=true):∀(fuel:Nat) (t:TypeId) (cs:List Value) (x:DataW H×List MemPlace),rd.contains t=true→DataW.trod enc' P w 0 sp held fuel t cs=some x→∃ds,Hj (zc (tt t)) ds=true∧Reps (v0 el Dx w) ds cs∧(M t x.1→∀d,d∈ds→SmD R d)
 |0,t,cs,x,_,h=>by simp [DataW.trod] at h
 |fuel+1,t,cs,x,hc,h=>by
  have hloc:=Zg2.1 hrd t (by simpa using hc)
  simp only [Zb1] at hloc
  obtain⟨hloc,hzl⟩:=hloc
  have hzl:=Zl1 hzl
  have hszB:=Zg2.1 hsb t (by simpa using hc)
  unfold A6d at hloc
  split at hloc
  ·rename_i k hty
   have hu:=Sx.tyI_spec (Ahc (hT t) hty)
   obtain⟨n,rfl,_,hw⟩:=DataW.trod_int hu h
   refine⟨[.int k n],by(rw [hty];show(decide (k=k)&&true)=true;simp),?_,fun _ d hd=>by simp only [List.mem_singleton] at hd;subst hd;trivial⟩
   simp only [Reps,Rep]
   exact⟨_,_,rfl,⟨rfl,hw⟩,rfl⟩
  ·rename_i hty
   have hu:=Sx.tyB_spec (Z5 (hT t) hty)
   obtain⟨b,rfl,_⟩:=DataW.trod_bool hu h
   refine⟨[.bool b],by rw [hty];rfl,?_,fun _ d hd=>by simp only [List.mem_singleton] at hd;subst hd;trivial⟩
   simp only [Reps,Rep]
   exact⟨_,_,rfl,rfl,rfl⟩
  ·rename_i hty
   have hu:=Sx.tyS_spec (Gk (hT t) hty)
   obtain⟨s,rfl,rfl,hs⟩:=DataW.trod_string hu h
   refine⟨[.str s.data.toList],by rw [hty];rfl,?_,fun hwt d hd=>by
    simp only [List.mem_singleton] at hd
    subst hd
    exact hM.str _ _ hwt⟩
   simp only [Reps,Rep]
   exact⟨_,_,rfl,⟨(by rw [Array.toArray_toList]),(by rw [Array.length_toList];exact hs)⟩,rfl⟩
  ·rename_i c hty
   simp only [Zb1] at hloc
   obtain⟨hel,hdec⟩:=hloc
   have hbz : 1≤P.bytesOf (el c):=by
    rw [hty] at hszB
    exact Nat.le_of_ble_eq_true hszB
   obtain⟨by_,hE,_,_⟩:=Cy (hT t) hty
   have hu:=hE.und
   obtain⟨_,i0,z,hi0,hz,hsz,_⟩:=hE
   have hco:P.cellsOf (el c)=csz c:=Ut (by simp [Sx.tySz,hi0,hsz])
   rcases DataW.trod_slice hu h with ⟨rfl,_⟩|⟨a,len,cap,elems,rest,n,hf,rfl,rfl,_,hle,hmax,hlen,hel2,_⟩
   ·refine⟨[.sl c [] .no],by(rw [hty];show(decide (c=c)&&true)=true;simp),?_,fun _ d hd=>by
     simp only [List.mem_singleton] at hd
     subst hd
     exact⟨Nat.zero_le _,fun x hx=>by cases hx⟩⟩
    simp only [Reps,Rep]
    exact⟨_,_,rfl,⟨fun _ _ =>.nil _ _ _ _,trivial⟩,rfl⟩
   ·have hf:fuel=n:=by omega
    subst hf
    have each:∀i,i<len→∃y:El c,(∃vs:List Value,w.cells? 0 (a.add (i*csz c)) (csz c)=some vs∧ElR (v0 el Dx w) c y vs)∧(M t (DataW.slice (elems.map (·.1)) (rest.map (·.1)))→SmK R c y):=fun i hi=>by
     have h1:=hel2 i hi
     have hsome:∃e,elems[i]? = some e:=⟨_,Zo1 (by omega)⟩
     obtain⟨e,he⟩:=hsome
     rw [he] at h1
     obtain⟨vs,hv,ht⟩:=Option.bind_eq_some_iff.1 h1
     rw [hco] at hv
     obtain⟨ds,hs,hr,hsm⟩:=Al6 hM hT hrd hsb fuel (el c) vs e hel ht
     obtain⟨y,hy⟩:=Aiv hdec hs
     exact⟨y,⟨vs,hv,N9 hy hr⟩,fun hwt=>A47 hy (hsm ((hM.sl _ _ _ _ hu hbz hwt (by have:maxLen=9223372036854775807:=rfl;simp only [List.length_map];omega)).2 e.1 (List.mem_map.2 ⟨e,List.mem_of_getElem? he,rfl⟩)))⟩
    obtain⟨ys,hyl,hys'⟩:=Abw len each
    have hys:=fun i y hy=>(hys' i y hy).1
    refine⟨[.sl c ys .no],by(rw [hty];show(decide (c=c)&&true)=true;simp),?_,fun hwt d hd=>by
     simp only [List.mem_singleton] at hd
     subst hd
     refine⟨?_,fun y hy =>?_⟩
     ·have:=(hM.sl _ _ _ _ hu hbz hwt (by have:maxLen=9223372036854775807:=rfl;simp only [List.length_map];omega)).1
      simp only [List.length_map] at this
      omega
     ·obtain⟨i,hi,rfl⟩:=List.getElem_of_mem hy
      exact(hys' i _ (Zo1 hi)).2 hwt⟩
    simp only [Reps,Rep]
    refine⟨_,_,rfl,⟨Kr hyl.symm ?_,trivial⟩,rfl⟩
    by_cases h0:ys=[]
    ·exact .inl h0
    ·right
     have hsn:a.spot=none:=by
      have hlt : 0<ys.length:=List.length_pos_iff.2 h0
      obtain⟨vs,hv,hE⟩:=hys 0 _ (Zo1 hlt)
      obtain⟨h1,h2⟩:=Agy hv
      have hp:=Am9 c
      have:=h2 0 _ (Zo1 (by omega))
      simp only [Nat.zero_mul,Addr.add,if_true] at this
      exact Avj this
     obtain⟨b,o,s⟩:=a
     simp only at hsn
     subst hsn
     refine⟨b,o,rfl,⟨by omega,hmax⟩,fun i y hy w' hw j d hd =>?_⟩
     obtain⟨vs,hv,hE⟩:=hys i y hy
     obtain⟨_,h2⟩:=Agy hv
     obtain⟨u,hu',hf⟩:=hE.2 j d hd
     have hcell:=h2 j u hu'
     rw [Sx.add_mk,Sx.add_mk] at hcell
     exact⟨u,hw.cell b _ u hcell (fun h=>h),hf w' hw⟩
  ·rename_i cc fs z hty
   have hbase:=C1 (hT t) (by rw [hty];simp)
   have hsz:P.cellsOf t=z.length:=by
    have:=Ut hbase.2.2
    rw [this,hty]
    rfl
   have hok:=hT t
   unfold Cj at hok
   rw [hty] at hok
   simp only [Zb1] at hok
   have hfl:=hok.2
   split at hfl
   ·rename_i fds hu
    simp only [Zb1] at hfl
    have hfl:=hfl.1
    obtain⟨xs,n,hf,rfl,hcl,hxl,hfx⟩:=DataW.trod_struct hu h
    have hf:fuel=n:=by omega
    subst hf
    have key:∀(l:List (Nat×Nat)) (i o:Nat) (z':List D),fs.drop i=l→Af8 tt rd o l z' = true→o+z'.length=cs.length→∃ds,Hj z' ds=true∧Reps (v0 el Dx w) ds (cs.drop o)∧(M t (DataW.agg (xs.map (·.1)))→∀d,d∈ds→SmD R d):=by
     intro l
     induction l with
     |nil =>
      intro i o z' _ hct ho
      simp only [Af8,List.isEmpty_iff] at hct
      subst hct
      refine⟨[],rfl,?_,fun _ d hd=>by cases hd⟩
      rw [Zk1 (by simp at ho;omega)]
      simp [Reps]
     |cons q l ih =>
      intro i o z' hd hct ho
      obtain⟨o',u⟩:=q
      simp only [Af8,Zb1] at hct
      obtain⟨⟨⟨⟨ho',hcu⟩,hle⟩,hsh⟩,hct⟩:=hct
      have ho':=Zl1 ho'
      subst ho'
      have hle:=Nat.le_of_ble_eq_true hle
      have hget:fs[i]? = some (o',u):=by
       have:=congrArg (·[0]?) hd
       simpa [List.getElem?_drop] using this
      obtain⟨fd,g1,g2,g3,_⟩:=Aah hfl hget
      have g1':fds[i]? = some fd:=by simpa using g1
      have h1:=hfx i fd g1'
      rw [g2,g3] at h1
      have hxi:∃e,xs[i]? = some e:=⟨_,Zo1 (by
       have:=(Zh2.1 g1').1
       omega)⟩
      obtain⟨e,he⟩:=hxi
      rw [he] at h1
      have hlu:=Zg2.1 hrd u (by simpa using hcu)
      simp only [Zb1] at hlu
      have hnu:=Zl1 hlu.2
      have hneu:tt u ≠ .no:=by
       intro e
       have:=hlu.1
       unfold A6d at this
       rw [e] at this
       cases this
      have hcou:P.cellsOf u=(zc (tt u)).length:=by rw [Ut (C1 (hT u) hneu).2.2,hnu]
      rw [hcou] at h1
      obtain⟨ds1,s1,r1,m1⟩:=Al6 hM hT hrd hsb fuel u _ e hcu h1
      obtain⟨ds2,s2,r2,m2⟩:=ih (i+1) (o'+(zc (tt u)).length) _ (by rw [←List.drop_drop,hd];rfl) hct (by simp;omega)
      refine⟨ds1++ds2,?_,?_,fun hwt d hd=>by
       rcases List.mem_append.1 hd with hd|hd
       ·refine m1 ?_ d hd
        rw [←g2]
        exact hM.agg _ _ _ i fd e.1 hu hwt g1' (by rw [List.getElem?_map,he];rfl)
       ·exact m2 hwt d hd⟩
      ·rw [←List.take_append_drop (zc (tt u)).length z']
       exact Aco (Ayl hsh s1) s2
      ·have:=r1.append r2
       rwa [←List.drop_drop,List.take_append_drop] at this
    obtain⟨ds,h1,h2,h3⟩:=key fs 0 0 z rfl hloc (by rw [hcl,hsz];omega)
    exact⟨ds,by simpa [hty,zc,Ty.zero,cells] using h1,by simpa using h2,h3⟩
   ·cases hfl
  ·cases hloc
def Ba0(tt:Nat→Ty) (rd:List Nat) (t:Nat) (s:Sg):Bool:=rd.contains t&&match tt t,s with
 |.int k,.int k'=>decide (k=k')
 |.bool,.bool=>true
 |.str,.str=>true
 |.sl c,.sl c' false=>decide (c=c')
 |.st (some c) _ _,.sv c'=>decide (c=c')&&agg? c&&(dec c (zc (tt t))).isSome
 |_,_=>false
theorem Bal{R:Nat×Nat}{M:TypeId→DataW H→Prop}(hM:Msr P R M) (hT:∀t,Cj P el tt t=true) (hrd:rdB el tt rd=true) (hsb:szB P el tt rd=true) {t:TypeId}{s:Sg}(hs:Ba0 tt rd t s=true) {r:Reach}{b0:Nat}{v:Value}{d:DataW H}{ps:List MemPlace}(hval:Value.okWide P w r b0 t v) (h:DataW.Trod enc' P w 0 sp held t v d ps) (i:Nat):∃y:den s,Rep (v0 el Dx w) (Cm i s y) v∧(M t d→SmS R s y):=by
 obtain⟨fuel,h⟩:=h
 simp only [Ba0,Zb1] at hs
 obtain⟨hc,hs⟩:=hs
 obtain⟨ds,hsh,hr,hsm⟩:=Al6 hM hT hrd hsb fuel t _ _ hc h
 have hsm:M t d→∀d,d∈ds→SmD R d:=hsm
 split at hs
 ·rename_i k k' hty
  simp only [Zg1] at hs
  subst hs
  obtain⟨n,rfl⟩:=WideShapes.okWide_int (Sx.tyI_spec (Ahc (hT t) hty)) hval
  simp only [hty,zc,Ty.zero,cells] at hsh
  obtain⟨b,m,rfl,h1,h2⟩:=R0 hsh
  obtain rfl:=V4 h2
  obtain⟨n',rfl⟩:=Ax0 h1
  simp only [Value.cells,Reps] at hr
  obtain⟨u,us,e,hr,_⟩:=hr
  simp only [Ze2] at e
  obtain⟨rfl,_⟩:=e
  exact⟨n',hr,fun _=>trivial⟩
 ·rename_i hty
  obtain⟨n,rfl⟩:=WideShapes.okWide_bool (Sx.tyB_spec (Z5 (hT t) hty)) hval
  exact⟨n,by simp only [Cm,Rep],fun _=>trivial⟩
 ·rename_i hty
  obtain⟨n,rfl⟩:=WideShapes.okWide_string (Sx.tyS_spec (Gk (hT t) hty)) hval
  simp only [hty,zc,Ty.zero,cells] at hsh
  obtain⟨b,m,rfl,h1,h2⟩:=R0 hsh
  obtain rfl:=V4 h2
  obtain⟨n',rfl⟩:=Azc h1
  simp only [Value.cells,Reps] at hr
  obtain⟨u,us,e,hr,_⟩:=hr
  simp only [Ze2] at e
  obtain⟨rfl,_⟩:=e
  exact⟨n',hr,fun hwt=>hsm hwt (.str n') (by simp)⟩
 ·rename_i c c' hty
  simp only [Zg1] at hs
  subst hs
  obtain⟨by_,hE,_,_⟩:=Cy (hT t) hty
  have hv:v.cells.toList=[v]:=by
   have hu:=hE.und
   simp only [Value.okWide,hu,Cell.okWide] at hval
   cases v<;>first|rfl|(simp [Cell.ok,hu] at hval;done)|(exfalso;simp_all [Cell.ok])
  rw [hv] at hr
  simp only [hty,zc,Ty.zero,cells] at hsh
  obtain⟨b,m,rfl,h1,h2⟩:=R0 hsh
  obtain rfl:=V4 h2
  obtain⟨ys,u,rfl⟩:=A9n h1
  simp only [Reps] at hr
  obtain⟨u',us,e,hr,_⟩:=hr
  simp only [Ze2] at e
  obtain⟨rfl,_⟩:=e
  refine⟨ys,?_,fun hwt=>hsm hwt (.sl c ys u) (by simp)⟩
  simp only [Cm,Rep] at hr ⊢
  exact⟨hr.1,trivial⟩
 ·rename_i c fs z c' hty
  simp only [Zb1,Zg1] at hs
  obtain⟨⟨rfl,ha⟩,hdec⟩:=hs
  obtain⟨y,hy⟩:=Aiv hdec hsh
  have hE:=N9 hy hr
  have hv:∃cs,v = .agg cs:=by
   have hok:=hT t
   unfold Cj at hok
   rw [hty] at hok
   simp only [Zb1] at hok
   have hfl:=hok.2
   split at hfl
   ·rename_i fds hu
    simp only [Value.okWide,hu] at hval
    obtain⟨cs,h1,_⟩:=hval
    exact⟨cs,h1⟩
   ·cases hfl
  obtain⟨cs,rfl⟩:=hv
  refine⟨y,?_,fun hwt=>A47 hy (hsm hwt)⟩
  simp only [Cm,Rep]
  exact⟨ha,cs.toList,by simp,by simpa [Value.cells] using hE.1,by simpa [Value.cells] using hE.2⟩
 ·cases hs
def Aj3(tt:Nat→Ty) (rd:List Nat):List TypeId→List Sg→Bool
 |[],[]=>true
 |t::ts,s::ss=>Ba0 tt rd t s&&Aj3 tt rd ts ss
 |_,_=>false
theorem Aq5{R:Nat×Nat}{M:TypeId→DataW H→Prop}(hM:Msr P R M) (hT:∀t,Cj P el tt t=true) (hrd:rdB el tt rd=true) (hsb:szB P el tt rd=true) {r:Reach}{b0:Nat}:∀{ts:List TypeId}{sa:List Sg}{vs:List Value}{ds:List (DataW H)}{ps:List MemPlace}(i:Nat),Aj3 tt rd ts sa=true→(∀(j:Nat) t v,ts[j]? = some t→vs[j]? = some v→Value.okWide P w r b0 t v)→DataW.TrodAll enc' P w 0 sp held ts vs ds ps→∃x:HV sa,Reps (v0 el Dx w) (B2 i sa x) vs∧((∀(i:Nat) (t:TypeId) (d:DataW H),ts[i]? = some t→ds[i]? = some d→M t d)→SmL R sa x)
 |[],[],vs,ds,ps,i,_,_,h=>by
  cases vs with
  |nil=>exact⟨(),by simp [B2,Reps],fun _=>trivial⟩
  |cons v vs=>cases ds<;>simp [DataW.TrodAll] at h
 |t::ts,[],_,_,_,_,hs,_,_=>by simp [Aj3] at hs
 |[],s::ss,_,_,_,_,hs,_,_=>by simp [Aj3] at hs
 |t::ts,s::ss,vs,ds,ps,i,hs,hval,h=>by
  simp only [Aj3,Zb1] at hs
  obtain⟨v,vs',d,ds',p,q,rfl,rfl,rfl,hd,hrest⟩:=trodAll_cons h
  obtain⟨y,hy,hsy⟩:=Bal hM hT hrd hsb hs.1 (hval 0 t v rfl rfl) hd i
  obtain⟨z,hz,hsz⟩:=Aq5 hM hT hrd hsb (i+1) hs.2 (fun j t' v' h1 h2=>hval (j+1) t' v' (by simpa using h1) (by simpa using h2)) hrest
  cases ss with
  |nil =>
   refine⟨y,?_,fun hwt=>hsy (hwt 0 t d rfl rfl)⟩
   simp only [B2,Reps] at hz ⊢
   exact⟨v,vs',rfl,hy,hz⟩
  |cons s' ss =>
   refine⟨(y,z),?_,fun hwt=>⟨hsy (hwt 0 t d rfl rfl),hsz fun j t' d' h1 h2=>hwt (j+1) t' d' (by simpa using h1) (by simpa using h2)⟩⟩
   simp only [B2,Reps]
   exact⟨v,vs',rfl,hy,hz⟩
theorem Aks(hl:laidOutB P=true) {W W':World}(hb:Below W.heap.size W W'):∀{ts:List TypeId}{vs:List Value}{ds:List (DataW H)}{ps:List MemPlace},(∀t,t∈ts→P.readableRec t=true∧t<P.types.size)→(∀x∈ps,x.block<W.heap.size)→DataW.TrodAll enc' P W 0 (fun _=>true) true ts vs ds ps→DataW.TrodAll enc' P W' 0 (fun b=>decide (b<W.heap.size)) true ts vs ds ps
 |[],vs,ds,ps,_,_,h=>by
  cases vs<;>cases ds<;>simp [DataW.TrodAll] at h ⊢
  exact h
 |t::ts,vs,ds,ps,ht,hlt,h=>by
  obtain⟨v,vs',d,ds',p,q,rfl,rfl,rfl,hd,hrest⟩:=trodAll_cons h
  obtain⟨h1,h2⟩:=ht t (by simp)
  exact⟨p,q,Below.trod hl h1 h2 hd hb (fun x hx=>hlt x (by simp [hx])),Aks hl hb (fun t' h'=>ht t' (by simp [h'])) (fun x hx=>hlt x (by simp [hx])) hrest,rfl⟩
end
end Go.Ax
namespace Go.Proofs.YthndhaolemgbdaaGreatDoor
open Go.Ax
def bare(l:List Xpr):Xpr :=.mk 0 ⟨0,0,[]⟩ [] l
def n0(s:Stm) (most:Int):Int:=wr .i64 (wr .i64 (wr .i64 (wr .i64 (wr .i64 (wr .i64 ((s.cols.length:Int)+(s.names.length:Int))+(s.order.length:Int))+(s.desc.length:Int))+wr .i64 (Int.tdiv (wr .i64 ((s.name.length:Int)+(s.on.length:Int))) 30))+A4k s.whr most)+A4k (bare s.l) most)
structure Few (s:Stm):Prop where
 cols:s.cols.length≤3100
 names:s.names.length≤3100
 order:s.order.length≤3100
 desc:s.desc.length≤3100
 name:s.name.length+s.on.length≤20000
 whr:Bc s.whr≤6200
 l:esizes s.l≤6200
 rows:s.rows.length≤3100∧∀r,r∈s.rows→esizes r≤6200
 sets:s.sets.length≤3100∧∀x,x∈s.sets→Bc x.e≤6200
end Go.Proofs.YthndhaolemgbdaaGreatDoor
namespace Go.Proofs.YthndhaolemgbdaaGreatDoor
open Go.Ax
theorem Qx(k:Int) (v:Val) (s:Str) (x:Xpr):Bc (.mk k v s [x])=2+Bc x:=by
 simp only [Bc,esizes];omega
theorem A0h(k:Int) (v:Val) (s:Str) (x y:Xpr):Bc (.mk k v s [x,y])=3+(Bc x+Bc y):=by
 simp only [Bc,esizes];omega
theorem A4w(e:Xpr):Tb e=cond (A8 e 30) 0 2:=by
 simp only [Tb]
 cases A8 e 30<;>rfl
end Go.Proofs.YthndhaolemgbdaaGreatDoor
namespace Go.Proofs.YthndhaolemgbdaaGreatDoor
open Go.Ax
end Go.Proofs.YthndhaolemgbdaaGreatDoor
namespace Go.Proofs.YthndhaolemgbdaaGreatDoor
open Go.Ax
open Lp (tokS Sc clsF)
theorem Bbi{s:Str}{ts:TL}(hl:s.length≤20000) (h:Sc s 0 ts):Dy s=(ts,0,0):=by
 simp only [Dy,Auv]
 rw [if_neg (by omega),Lp.allF_of_sc h]
theorem A9g{m:Str}{p:Int}{ts:TL}(h:Sc m p ts):ts.length≤m.length:=by
 induction h with
 |nil=>exact Zn1 _
 |blank _ _ ih=>simp only [Zf1];omega
 |tok _ h2 _ ih =>
  have:=Lp.tokS_len h2
  simp only [Zf1,Za2] at ih ⊢
  omega
theorem Af7(s:Str):(∃ts,s.length≤20000∧Sc s 0 ts∧Dy s=(ts,0,0))∨(s.length≤20000∧∃j,Lp.Er s 0 j∧Dy s=([],j,11))∨(20000<s.length∧Dy s=([],0,3)):=by
 by_cases h : 20000<s.length
 ·refine .inr (.inr ⟨h,?_⟩)
  simp only [Dy,Auv]
  rw [if_pos (by omega)]
 ·have hs:=Lp.allF_sc s
  simp only [Dy,Auv]
  rw [if_neg (by omega)]
  cases hq:Lp.allF s with
  |ok ts =>
   rw [hq] at hs
   exact .inl ⟨ts,by omega,hs,rfl⟩
  |error j =>
   rw [hq] at hs
   exact .inr (.inl ⟨by omega,j,hs,rfl⟩)
theorem An8(s:Str):(Dy s).1.length<1000000000:=by
 rcases Af7 s with ⟨ts,h0,h1,h2⟩|⟨_,j,_,h2⟩|⟨_,h2⟩<;>rw [h2]
 ·have:=A9g h1
  simp only
  omega
 ·simp
 ·simp
theorem Bb1{s:Str}{ts q:TL}(hl:s.length≤20000) (h:Sc s 0 ts) (ho:Mf ts = .error q):V6 s=some (zX,Hh s.length q,11):=by
 rw [Afw s (An8 s)]
 simp only [xX,Bbi hl h,if_true,ho]
end Go.Proofs.YthndhaolemgbdaaGreatDoor
namespace Go.Proofs.YthndhaolemgbdaaGreatDoor
open Go.Ax
open Lp (tokS Sc clsF tw isWd qS unGo rnumGo rnumF)
def tW(t:Ax.Tok):Nat:=if t.kind=4 then(quo t.s).length+2 else if t.kind=5 then 2*t.s.length+3 else t.s.length
def TkB(t:Ax.Tok):Prop:=1≤tW t∧t.s.length≤20000∧0≤t.n∧t.n≤9223372036854775807∧(t.kind=2→t.s.length≤30)∧(t.kind=3→(As5 t.n.natAbs).length≤t.s.length)∧(t.kind=6→t.s.length≤2)
theorem Aws:∀(k n:Nat),n<10 ^ k→(Nu n).length≤k
 |0,n,h=>by
  have:n=0:=by omega
  rw [this,H2]
  simp
 |k+1,n,h=>by
  by_cases h0:n=0
  ·rw [h0,H2];simp
  ·rw [Vl h0]
   have:=Aws k (n / 10) (by rw [Nat.pow_succ] at h;omega)
   simp only [Zf1]
   omega
theorem Bff(l:List Int):(txt l).length=l.length:=by simp [txt]
theorem A7l{k n:Nat}(h:n<10 ^ k) (hk : 1≤k):(As5 n).length≤k:=by
 unfold As5
 split
 ·exact hk
 ·rw [Bff]
  exact Aws k n h
theorem Axg:∀(l:Str) (m:Int) (j:Nat),(m.toNat<10 ^ j)→0≤m→∀n,rnumGo l m=some n→0≤n∧n.toNat<10 ^ (j+l.length)
 |[],m,j,h,h0,n,hn=>by
  simp only [rnumGo,Za1] at hn
  subst hn
  exact⟨h0,by simpa using h⟩
 |c::r,m,j,h,h0,n,hn=>by
  simp only [rnumGo] at hn
  split at hn
  ·cases hn
  ·rename_i hc
   have hc3:clsF (c.toNat:Int)=3:=Classical.not_not.1 fun q=>hc (.inl q)
   have hd:=Lp.cls3 hc3
   have:=Axg r (10*m+((c.toNat:Int)-48)) (j+1) (by rw [Nat.pow_succ];omega) (by omega) n hn
   rw [show j+1+r.length=j+(c::r).length by simp only [Zf1];omega] at this
   exact this
theorem Ayw:∀(l:Str) (m n:Int),0≤m∧m≤9223372036854775807→rnumGo l m=some n→n≤9223372036854775807
 |[],m,n,h,hn=>by
  simp only [rnumGo,Za1] at hn
  omega
 |c::r,m,n,h,hn=>by
  simp only [rnumGo] at hn
  split at hn
  ·cases hn
  ·rename_i hc
   have hc3:clsF (c.toNat:Int)=3:=Classical.not_not.1 fun q=>hc (.inl q)
   have hd:=Lp.cls3 hc3
   exact Ayw r _ n (by omega) hn
theorem Ms:∀(f:Nat) (l acc s:Str) (n:Nat),l.length≤f→qS l acc=some (s,n)→∃s',s=acc++s'∧(quo s').length+1=n
 |_,[],_,_,_,_,h=>by simp [qS] at h
 |_,[c],acc,s,n,_,h=>by
  simp only [qS] at h
  split at h
  ·cases h;exact⟨[],by simp,rfl⟩
  ·cases h
 |0,_::_::_,_,_,_,h,_=>by simp at h
 |f+1,c::d::r,acc,s,n,hf,h=>by
  simp only [Zf1] at hf
  simp only [qS] at h
  split at h
  ·split at h
   ·obtain⟨x,hx,he⟩:=Option.map_eq_some_iff.1 h
    cases he
    obtain⟨s',h1,h2⟩:=Ms f r _ x.1 x.2 (by omega) hx
    exact⟨39::s',by rw [h1];simp,by simp only [quo,if_true,Zf1];omega⟩
   ·cases h;exact⟨[],by simp,rfl⟩
  ·rename_i hc
   obtain⟨x,hx,he⟩:=Option.map_eq_some_iff.1 h
   cases he
   obtain⟨s',h1,h2⟩:=Ms f (d::r) _ x.1 x.2 (by simp only [Zf1];omega) hx
   exact⟨c::s',by rw [h1];simp,by simp only [quo,if_neg hc,Zf1];omega⟩
theorem A67:∀(f:Nat) (l acc b:Str),l.length≤f→unGo l acc=some b→2*b.length=2*acc.length+l.length
 |_,[],acc,b,_,h=>by
  simp only [unGo,Za1] at h
  subst h
  simp
 |_,[_],_,_,_,h=>by simp [unGo] at h
 |0,_::_::_,_,_,h,_=>by simp at h
 |f+1,x::y::r,acc,b,hf,h=>by
  simp only [Zf1] at hf
  simp only [unGo] at h
  split at h
  ·have:=A67 f r _ b (by omega) h
   simp only [Zh1,Zf1,Zi1] at this ⊢
   omega
  ·cases h
theorem Bhy{m:Str}(h : 1≤clsF (Sx.byt m 0)∧clsF (Sx.byt m 0)≤4) : 1≤(tw isWd m).length:=by
 cases m with
 |nil =>
  have:clsF (Sx.byt [] 0)=0:=by decide +kernel
  omega
 |cons c r =>
  have hc:isWd (c.toNat:Int)=true:=by
   simp only [Lp.isWd,Zb1,Zg1]
   exact h
  simp [Lp.tw,hc]
theorem A5k{m:Str}{k n:Int}{s:Str}{e:Nat}(h:tokS m=some (k,s,n,e)) (hm:m.length≤20000) (p:Int):tW ⟨k,p,s,n⟩=e∧TkB ⟨k,p,s,n⟩:=by
 have hl:=Lp.tokS_len h
 have htw:=Lp.tw_len isWd m
 have fin:tW ⟨k,p,s,n⟩=e→s.length≤20000→(0≤n∧n≤9223372036854775807)→(k=2→s.length≤30)→(k=3→(As5 n.natAbs).length≤s.length)→(k=6→s.length≤2)→tW ⟨k,p,s,n⟩=e∧TkB ⟨k,p,s,n⟩:=fun h1 h2 h3 h4 h5 h6=>⟨h1,by omega,h2,h3.1,h3.2,h4,h5,h6⟩
 unfold Lp.tokS at h
 split at h
 ·split at h
  ·cases h
  ·split at h
   ·cases h
   ·rename_i b hb
    split at h
    ·cases h
    ·rename_i h1000
     cases h
     have hq:=Lp.tw_len Lp.nq (m.drop 2)
     split at hb
     ·have:=A67 _ _ _ _ (Zn1 _) hb
      simp only [Zi1] at this
      refine fin ?_ (by omega) ⟨by omega,by omega⟩ (fun q=>by omega) (fun q=>by omega) (fun q=>by omega)
      simp only [tW]
      rw [if_neg (by decide),if_pos trivial]
      omega
     ·cases hb
 ·split at h
  ·split at h
   ·rename_i h1 hw
    cases h
    exact fin rfl (by omega) ⟨by omega,by omega⟩ (fun q=>by omega) (fun q=>by omega) (fun q=>by omega)
   ·cases h
  ·split at h
   ·split at h
    ·rename_i hw
     cases h
     refine fin rfl (by omega) ⟨by omega,by omega⟩ (fun _ =>?_) (fun q=>by omega) (fun q=>by omega)
     simp only [Lp.rnameF,Zb1,Zg1] at hw
     omega
    ·cases h
   ·split at h
    ·rename_i h3
     split at h
     ·rename_i hw
      cases h
      have h1:=Bhy (m:=m) (by omega)
      have hr:∃v,rnumGo (tw isWd m) 0=some v∧(rnumF (tw isWd m)=v):=by
       unfold Lp.rnumF at hw ⊢
       cases hv:rnumGo (tw isWd m) 0 with
       |none=>rw [hv] at hw;simp at hw
       |some v =>
        rw [hv] at hw
        simp only at hw ⊢
        split at hw
        ·omega
        ·rename_i hc
         rw [if_neg hc]
         exact⟨v,rfl,rfl⟩
      obtain⟨v,hv,hv2⟩:=hr
      have b1:=Axg _ 0 0 (by decide) (by omega) v hv
      have b2:=Ayw _ 0 v (by omega) hv
      rw [hv2] at hw fin ⊢
      refine fin rfl (by omega) ⟨by omega,by omega⟩ (fun q=>by omega) (fun _ =>?_) (fun q=>by omega)
      refine A7l ?_ h1
      have:=b1.2
      rw [Nat.zero_add] at this
      omega
     ·cases h
    ·split at h
     ·split at h
      ·cases h
      ·rename_i x hx
       split at h
       ·rename_i hk
        cases h
        obtain⟨s',e1,e2⟩:=Ms _ _ _ _ _ (Zn1 _) hx
        rw [Zf2] at e1
        subst e1
        have hq:s.length≤(quo s).length:=by
         clear hx hk hl fin e2
         induction s with
         |nil=>simp
         |cons b l ih=>simp only [quo];split<;>simp only [Zf1]<;>omega
        refine fin ?_ (by omega) ⟨by omega,by omega⟩ (fun q=>by omega) (fun q=>by omega) (fun q=>by omega)
        simp only [tW,if_true]
        omega
       ·cases h
     ·split at h
      ·split at h
       ·cases h
        refine fin ?_ (by rw [List.length_take];omega) ⟨by omega,by omega⟩ (fun q=>by omega) (fun q=>by omega) (fun _=>by rw [List.length_take];omega)
        simp only [tW]
        rw [if_neg (by decide),if_neg (by decide),List.length_take]
        omega
       ·cases h
        refine fin ?_ (by rw [List.length_take];omega) ⟨by omega,by omega⟩ (fun q=>by omega) (fun q=>by omega) (fun _=>by rw [List.length_take];omega)
        simp only [tW]
        rw [if_neg (by decide),if_neg (by decide),List.length_take]
        omega
      ·cases h
def twt:TL→Nat
 |[]=>0
 |t::l=>tW t+4+twt l
theorem Xc:∀a b:TL,twt (a++b)=twt a+twt b
 |[],b=>by simp [twt]
 |t::a,b=>by simp only [Zb2,twt,Xc a b];omega
def TkA(c:TL):Prop:=∀t,t∈c→TkB t
theorem TkA.l{a b:TL}(h:TkA (a++b)):TkA a:=fun t ht=>h t (List.mem_append_left _ ht)
theorem TkA.r{a b:TL}(h:TkA (a++b)):TkA b:=fun t ht=>h t (List.mem_append_right _ ht)
theorem TkA.h{t:Ax.Tok}{b:TL}(h:TkA (t::b)):TkB t:=h t Zr1
theorem TkA.t{t:Ax.Tok}{b:TL}(h:TkA (t::b)):TkA b:=fun t ht=>h t (Zu1 _ ht)
theorem A8j{m:Str}{p:Int}{ts:TL}(h:Sc m p ts):m.length≤20000→TkA ts∧twt ts≤5*m.length:=by
 induction h with
 |nil=>intro _;exact⟨(fun _ h=>by cases h),by simp [twt]⟩
 |blank _ _ ih =>
  intro hm
  simp only [Zf1] at hm ⊢
  obtain⟨h1,h2⟩:=ih (by omega)
  exact⟨h1,by omega⟩
 | @tok m p k s n e ts _ h2 _ ih =>
  intro hm
  have hl:=Lp.tokS_len h2
  obtain⟨f1,f2⟩:=A5k h2 hm p
  simp only [Za2] at ih
  obtain⟨h3,h4⟩:=ih (by omega)
  refine⟨fun t ht =>?_,?_⟩
  ·rcases List.mem_cons.1 ht with rfl|ht
   ·exact f2
   ·exact h3 t ht
  ·simp only [twt,f1]
   omega
end Go.Proofs.YthndhaolemgbdaaGreatDoor
namespace Go.Proofs.YthndhaolemgbdaaGreatDoor
open Go.Ax
open Lp (tokS Sc clsF)
def MX(c:TL) (e:Xpr):Prop:=TkA c→(etx e).length≤twt c∧Bc e+1≤2*c.length∧BdExpr e
theorem Age{s:Str}{t:Ax.Tok}(h:isT s [t]=true):tW t=s.length:=by
 simp only [isT,Zb1,Zd2,Zg1] at h
 simp only [tW]
 rw [if_neg (by omega),if_neg (by omega),h.2]
theorem bdx{k:Int}{l:List Xpr}(hk:inI k) (hl:l.length≤2) (h:∀e,e∈l→BdExpr e):BdExpr (mkX k l) :=.mk k ⟨0,0,[]⟩ [] l hk ⟨by simp only [inI];omega,by simp only [inI];omega,by simp only [ln,Zi1];omega⟩ (by simp only [ln,Zi1];omega) (by simp only [ln];omega) h
theorem bdv{k n:Int}{s:Str}(hk : 0≤k∧k≤5) (hn : 0≤n∧n≤9223372036854775807) (hs:s.length≤20000):BdExpr (I5 k n s) :=.mk 1 ⟨k,n,s⟩ [] [] (by simp only [inI];omega) ⟨by simp only [inI];omega,by simp only [inI];omega,by simp only [ln];omega⟩ (by simp only [ln,Zi1];omega) (by simp only [ln,Zi1];omega) (fun e he=>by cases he)
theorem Avr{k n:Int}{s:Str}{m:Nat}(h:Dv ⟨k,n,s⟩=true→(Dm ⟨k,n,s⟩).length≤m):(etx (I5 k n s)).length≤m:=by
 have e:etx (I5 k n s)=Dm ⟨k,n,s⟩:=rfl
 rw [e]
 cases hr:Dv ⟨k,n,s⟩ with
 |true=>exact h hr
 |false=>simp [Dm,hr]
theorem Bf7{t:Ax.Tok}{v:Xpr}(h:Wh t=some v):MX [t] v:=fun ht=>by
 obtain⟨b1,b2,b3,b4,b5,b6,b7⟩:=ht.h
 have hw:twt [t]=tW t+4:=rfl
 unfold Wh at h
 split at h
 ·rename_i hk
  cases h
  refine⟨?_,Zn1 _,?_⟩
  ·have e:etx (.mk 2 ⟨0,0,[]⟩ t.s [])=t.s:=rfl
   rw [e,hw]
   simp only [tW]
   rw [if_neg (by omega),if_neg (by omega)]
   omega
  ·exact .mk 2 ⟨0,0,[]⟩ t.s [] (by simp only [inI];omega) ⟨by simp only [inI];omega,by simp only [inI];omega,by simp only [ln,Zi1];omega⟩ (by simp only [ln];omega) (by simp only [ln,Zi1];omega) (fun e he=>by cases he)
 ·split at h
  ·rename_i hk
   cases h
   refine⟨Avr fun hr =>?_,Zn1 _,bdv (by omega) ⟨b3,b4⟩ (by simp)⟩
   have e:Dm ⟨3,t.n,[]⟩=As5 t.n.natAbs:=by rw [←A8b b3];rfl
   have:=b6 hk
   rw [e,hw]
   simp only [tW]
   rw [if_neg (by omega),if_neg (by omega)]
   omega
  ·split at h
   ·rename_i hk
    cases h
    refine⟨Avr fun hr =>?_,Zn1 _,bdv (by omega) (by omega) b2⟩
    have e:Dm ⟨4,0,t.s⟩=39::(quo t.s++[39]):=by simp [Dm,hr]
    rw [e,hw]
    simp only [tW]
    rw [if_pos hk]
    simp only [Zf1,Zh1,Zi1]
    omega
   ·split at h
    ·rename_i hk
     cases h
     refine⟨Avr fun hr =>?_,Zn1 _,bdv (by omega) (by omega) b2⟩
     have e:Dm ⟨5,0,t.s⟩=120::39::(Aoh t.s++[39]):=by simp [Dm,hr]
     have hl:=Ars t.s
     rw [e,hw]
     simp only [tW]
     rw [if_neg (by omega),if_pos hk]
     simp only [Zf1,Zh1,Zi1]
     omega
    ·split at h
     ·cases h
      exact⟨by rw [hw];exact Nat.le_trans (show(etx (I5 2 1 [])).length≤4 by decide) (by omega),Zn1 _,bdv (by omega) (by omega) (by simp)⟩
     ·split at h
      ·rename_i hk
       cases h
       have:tW t=5:=by simp only [tW];rw [if_neg (by omega),if_neg (by omega),hk.2];rfl
       exact⟨by rw [hw,this];decide,Zn1 _,bdv (by omega) (by omega) (by simp)⟩
      ·split at h
       ·cases h
        exact⟨by rw [hw];exact Nat.le_trans (show(etx (I5 1 0 [])).length≤4 by decide) (by omega),Zn1 _,bdv (by omega) (by omega) (by simp)⟩
       ·cases h
theorem A0d:∀q,q∈opTab→4≤q.2.2∧q.2.2≤14∧sgn q.2.2=q.1:=by decide
theorem Bgq{c:TL}{e:Xpr}(h:Der c e):MX c e:=by
 induction h with
 |lit h=>exact Bf7 h
 | @br o c ts e h1 h2 _ ih =>
  intro ht
  obtain⟨i1,i2,i3⟩:=ih ht.t.l
  refine⟨?_,?_,i3⟩
  ·simp only [twt,Xc];omega
  ·simp only [Zf1,Zh1];omega
 | @un s k t ts e hk hi _ ih =>
  intro ht
  obtain⟨i1,i2,i3⟩:=ih ht.t
  have hw:=Age hi
  have hz:Bc (mkX k [e])=2+Bc e:=by
   have:=Qx k ⟨0,0,[]⟩ [] e
   simpa [mkX] using this
  refine⟨?_,by rw [hz];simp only [Zf1];omega,bdx (by rcases hk with ⟨_,rfl⟩|⟨_,rfl⟩<;>simp only [inI]<;>omega) (by simp) (fun x hx=>by simp only [List.mem_cons,List.not_mem_nil,or_false] at hx;rw [hx];exact i3)⟩
  rcases hk with ⟨rfl,rfl⟩|⟨rfl,rfl⟩
  ·have e1:etx (mkX 3 [e])=40::([78,79,84]++32::(etx e++[41])):=Ayg e
   rw [e1]
   have:sNOT.length=3:=rfl
   simp only [twt,Zf1,Zh1,Zi1]
   omega
  ·have e1:etx (mkX 15 [e])=40::45::(etx e++[41]):=Bbv e
   rw [e1]
   simp only [twt,Zf1,Zh1,Zi1] at hw ⊢
   omega
 | @op s p k o ts us a b hq hi _ _ iha ihb =>
  intro ht
  obtain⟨a1,a2,a3⟩:=iha ht.l
  obtain⟨b1,b2,b3⟩:=ihb ht.r.t
  have hw:=Age hi
  obtain⟨k1,k2,k3⟩:=A0d _ hq
  simp only at k1 k2 k3
  have hz:Bc (mkX k [a,b])=3+(Bc a+Bc b):=by
   have:=A0h k ⟨0,0,[]⟩ [] a b
   simp only [mkX]
   omega
  refine⟨?_,by rw [hz];simp only [Zf1,Zh1];omega,bdx (by simp only [inI];omega) (by simp) (fun x hx=>by simp only [List.mem_cons,List.not_mem_nil,or_false] at hx;rcases hx with rfl|rfl<;>assumption)⟩
  have e1:etx (mkX k [a,b])=40::(etx a++32::(sgn k++32::(etx b++[41]))):=Bgu ⟨k1,k2⟩ a b
  rw [e1,k3]
  simp only [twt,Xc,Zf1,Zh1,Zi1]
  omega
 | @isn o n ts e h1 h2 _ ih =>
  intro ht
  obtain⟨i1,i2,i3⟩:=ih ht.l
  have w1:=Age h1
  have w2:=Age h2
  have:sIS.length=2:=rfl
  have:sNULL.length=4:=rfl
  have hz:Bc (mkX 16 [e])=2+Bc e:=by
   have:=Qx 16 ⟨0,0,[]⟩ [] e
   simpa [mkX] using this
  refine⟨?_,by rw [hz];simp only [Zf1,Zh1,Zi1];omega,bdx (by simp only [inI];omega) (by simp) (fun x hx=>by simp only [List.mem_cons,List.not_mem_nil,or_false] at hx;rw [hx];exact i3)⟩
  have e1:etx (mkX 16 [e])=40::(etx e++32::73::83::32::78::85::76::76::[41]):=Awy e
  rw [e1]
  simp only [twt,Xc,Zf1,Zh1,Zi1]
  omega
 | @nis o m n ts e h1 h2 h3 _ ih =>
  intro ht
  obtain⟨i1,i2,i3⟩:=ih ht.l
  have w1:=Age h1
  have w2:=Age h2
  have w3:=Age h3
  have:sIS.length=2:=rfl
  have:sNOT.length=3:=rfl
  have:sNULL.length=4:=rfl
  have b16:BdExpr (mkX 16 [e]):=bdx (by simp only [inI];omega) (by simp) (fun x hx=>by simp only [List.mem_cons,List.not_mem_nil,or_false] at hx;rw [hx];exact i3)
  have hz:Bc (mkX 3 [mkX 16 [e]])=4+Bc e:=by
   have h1:=Qx 3 ⟨0,0,[]⟩ [] (mkX 16 [e])
   have h2:=Qx 16 ⟨0,0,[]⟩ [] e
   simp only [mkX] at h1 h2 ⊢
   omega
  refine⟨?_,by rw [hz];simp only [Zf1,Zh1,Zi1];omega,bdx (by simp only [inI];omega) (by simp) (fun x hx=>by simp only [List.mem_cons,List.not_mem_nil,or_false] at hx;rw [hx];exact b16)⟩
  have e1:etx (mkX 3 [mkX 16 [e]])=40::([78,79,84]++32::(etx (mkX 16 [e])++[41])):=Ayg _
  have e2:etx (mkX 16 [e])=40::(etx e++32::73::83::32::78::85::76::76::[41]):=Awy e
  rw [e1,e2]
  simp only [twt,Xc,Zf1,Zh1,Zi1]
  omega
theorem A9a{α:Type}{p:TL→PR α}{Q Q':TL→α→Prop}(h:Cns p Q) (hq:∀c x,Q c x→Q' c x):Cns p Q':=fun l e l' hp=>by
 obtain⟨c,h1,h2⟩:=h l e l' hp
 exact⟨c,h1,hq c e h2⟩
theorem Bi5:Cns orW MX:=A9a Bfp fun _ _ h=>Bgq h
end Go.Proofs.YthndhaolemgbdaaGreatDoor
namespace Go.Proofs.YthndhaolemgbdaaGreatDoor
open Go.Ax
section
variable {α β:Type}{p:TL→PR α}{Q:TL→α→Prop}
end
def kwT(w:Str) (c:TL):Prop:=∃t,c=[t]∧isT w [t]=true
inductive Lst {α:Type}(Q:TL→α→Prop):TL→List α→Prop
 |one {c:TL}{x : α}:Q c x→Lst Q c [x]
 |snoc {c d k:TL}{l:List α}{x : α}:Lst Q c l→kwT [44] k→Q d x→Lst Q (c++(k++d)) (l++[x])
section
variable {α:Type}{part:TL→PR α}{Q:TL→α→Prop}
end
end Go.Proofs.YthndhaolemgbdaaGreatDoor
namespace Go.Proofs.YthndhaolemgbdaaGreatDoor
open Go.Ax
theorem zz{α:Type}{P : α→Prop}:([]:List α).length≤3001∧∀x,x∈([]:List α)→P x:=⟨by simp,fun _ h=>by cases h⟩
end Go.Proofs.YthndhaolemgbdaaGreatDoor
namespace Go.Proofs.YthndhaolemgbdaaGreatDoor
open Go.Ax
end Go.Proofs.YthndhaolemgbdaaGreatDoor
namespace Go.Proofs.YthndhaolemgbdaaGreatDoor
open Go.Ax
section
variable {L:TL}{γ:Type}
end
end Go.Proofs.YthndhaolemgbdaaGreatDoor
namespace Go.Proofs.YthndhaolemgbdaaGreatDoor
open Go.Ax
section
variable {L:TL}
end
end Go.Proofs.YthndhaolemgbdaaGreatDoor
namespace Go.Proofs.YthndhaolemgbdaaGreatDoor
open Go.Ax
section
variable {L:TL}
end
end Go.Proofs.YthndhaolemgbdaaGreatDoor
namespace Go.Proofs.YthndhaolemgbdaaGreatDoor
open Go.Ax
section
variable {L:TL}
section
variable {V γ:Type}{step:(V→Option (γ×GotS))→V→Option (γ×GotS)}{st:List Xpr→GotS→V}{c:List Xpr→GotS→Option (γ×GotS)}{f:List Xpr→TL→PR γ}
end
section
variable {V γ:Type}{step:(V→Option (γ×GotS))→V→Option (γ×GotS)}{st:List Col→GotS→V}{c:List Col→GotS→Option (γ×GotS)}{f:List Col→TL→PR γ}
end
end
end Go.Proofs.YthndhaolemgbdaaGreatDoor
namespace Go.Proofs.YthndhaolemgbdaaGreatDoor
open Go.Ax
theorem Azn(a b:Xpr):Ayr a b=decide (a=b):=Kl a b
instance:DecidableEq SetE:=fun a b=>decidable_of_iff (a.name=b.name∧a.e=b.e) (by
 cases a;cases b
 simp only [SetE.mk.injEq])
end Go.Proofs.YthndhaolemgbdaaGreatDoor
namespace Go.Proofs.YthndhaolemgbdaaGreatDoor
open Go.Ax
noncomputable section
end
end Go.Proofs.YthndhaolemgbdaaGreatDoor
namespace Go.Proofs.YthndhaolemgbdaaGreatDoor
open Go.Ax
noncomputable section
theorem Aqw(s:Str) (L:TL) {j:Nat}(hj:j≤L.length) {γ:Type}(z : γ):cond (decide ((j:Int)<(L.length:Int))) (chk (inb (j:Int) L.length) (some (z,(at' .tok L (j:Int)).pos,(11:Int)))) (some (z,(s.length:Int),11))=some (z,Hh s.length (L.drop j),11):=by
 by_cases h:j<L.length
 ·rw [Ze1 (by omega),A4 h,Am h,A9 (c :=.tok) h]
  rfl
 ·rw [Zd1 (by omega),Zk1 (by omega)]
  rfl
def Akm(R:Type):Px R:=pxO [] [] [] []
noncomputable def Aw4 (R:Type):Px R:=pxO [(35,cA Agv),(91,cA Axq),(19,cA Axk),(89,As 40 200 (Akm R) Tryz.f89)] [] [] []
def P0(x:HV [.str]):Option (HV [.sv .expr,.int .i64,.int .i64]):=match x with
 |s =>
 cond (!decide ((Hk s).2.2=0)) (
  some ((Xpr.mk 0 ⟨0,0,[]⟩ [] []),(Hk s).2.1,(Hk s).2.2)) (
  (Afs ((Hk s).1) (GotS.mk 0 false) 1).bind fun(x,x1) =>
  let j:=fun(p1:Bool) =>
   cond (p1) (
   cond (decide (x1.pos<(((Hk s).1).length:Int))) (
    chk (inb x1.pos (((Hk s).1).length)) (
    some ((Xpr.mk 0 ⟨0,0,[]⟩ [] []),(at' .tok ((Hk s).1) x1.pos).pos,11))) (
    some ((Xpr.mk 0 ⟨0,0,[]⟩ [] []),(s.length:Int),11))) (
   cond (!decide ((Ln x)=0)) (
    some ((Xpr.mk 0 ⟨0,0,[]⟩ [] []),0,(Ln x))) (
    some (x,0,0)))
  cond (x1.bad) (
   j true) (
   j (decide (x1.pos<(((Hk s).1).length:Int)))))
theorem A5y:FO 33 [.str] [.sv .expr,.int .i64,.int .i64] (P0):=fR (px:=Aw4 _) (n:=0) Tryz.func33 rfl (fun cx H=>by
 have h1:Lv cx (Akm (HV [.sv .expr,.int .i64,.int .i64])):=lv H Ae Aa Ab
 have h0:Lv cx (Aw4 (HV [.sv .expr,.int .i64,.int .i64])):=lv H (c1 H A0j (c1 H A8q (c1 H A4s (An (cR H h1 Tryz.func89 rfl (n:=0) (Aj)) Ae)))) Aa Ab
 exact⟨h0,Aj⟩) fun _=>by kernel_rfl
def Anx(s:Str):Option (Xpr×Int×Int):=P0 s
def Bad:FT [.str] [.sv .expr,.int .i64,.int .i64]:=fun x=>Anx x
theorem Bbw:FO 33 [.str] [.sv .expr,.int .i64,.int .i64] Bad :=.fin0 A5y fun _ _ _ hx=>hx
def Agi(s:Str) (L:TL) (x:Xpr) (g:GotS):Option (Xpr×Int×Int):=cond (g.bad||decide (g.pos<(L.length:Int))) (cond (decide (g.pos<(L.length:Int))) (chk (inb g.pos L.length) (some (zX,(at' .tok L g.pos).pos,(11:Int)))) (some (zX,(s.length:Int),11))) (cond (!decide (Ln x=0)) (some (zX,0,Ln x)) (some (x,0,0)))
theorem Aya{s:Str}{L:TL}(h:Dy s=(L,0,0)):Anx s=(Afs L ⟨0,false⟩ 1).bind fun y=>Agi s L y.1 y.2:=by
 have hw:∀x g,Agi s L x g=cond g.bad (cond (decide (g.pos<(L.length:Int))) (chk (inb g.pos L.length) (some (zX,(at' .tok L g.pos).pos,(11:Int)))) (some (zX,(s.length:Int),11))) (cond (decide (g.pos<(L.length:Int))) (cond (decide (g.pos<(L.length:Int))) (chk (inb g.pos L.length) (some (zX,(at' .tok L g.pos).pos,(11:Int)))) (some (zX,(s.length:Int),11))) (cond (!decide (Ln x=0)) (some (zX,0,Ln x)) (some (x,0,0)))):=fun x g=>by
  simp only [Agi]
  cases g.bad<;>rfl
 have h':Hk s=(L,0,0):=h
 simp only [Anx,P0,h',decide_true,Zt1,Ah,hw]
 rfl
theorem Bcl{s:Str}{L q:TL}(h:Dy s=(L,0,0)) (hL:L.length≤1000000000) (hw:Mf L = .error q):Anx s=some (zX,Hh s.length q,11):=by
 have ho:Gu L (Afs L ⟨0,false⟩ 1) (orW L):=(Ayv hL).out (i:=0) (Nat.zero_le _) (by omega)
 rw [Aya h]
 unfold Mf at hw
 cases hq:orW L with
 |error q' =>
  rw [hq] at ho hw
  cases hw
  obtain⟨j,e,a1,a2,a3⟩:=ho
  rw [a3,Zc1,a2]
  exact Aqw s L a1 zX
 |ok y =>
  obtain⟨x,m⟩:=y
  rw [hq] at ho hw
  obtain⟨j,a1,a2,a3⟩:=ho
  rw [a3,Zc1]
  cases m with
  |nil=>cases hw
  |cons t r =>
   cases hw
   have hl:j<L.length:=by
    rcases Nat.lt_or_ge j L.length with h|h
    ·exact h
    ·rw [Zk1 h] at a2;cases a2
   have e:=Aqw s L a1 zX
   rw [Ze1 (show(j:Int)<(L.length:Int) by omega),Af] at e
   simp only [Agi]
   rw [Ze1 (show(j:Int)<(L.length:Int) by omega),Bool.or_true,Af,Af,e,a2]
theorem A7z{s:Str}{L:TL}{x:Xpr}(h:Dy s=(L,0,0)) (hL:L.length≤1000000000) (hw:Mf L = .ok x):Anx s=cond (!decide (Ln x=0)) (some (zX,0,Ln x)) (some (x,0,0)):=by
 have ho:Gu L (Afs L ⟨0,false⟩ 1) (orW L):=(Ayv hL).out (i:=0) (Nat.zero_le _) (by omega)
 rw [Aya h]
 unfold Mf at hw
 cases hq:orW L with
 |error q'=>rw [hq] at hw;cases hw
 |ok y =>
  obtain⟨x',m⟩:=y
  rw [hq] at ho hw
  obtain⟨j,a1,a2,a3⟩:=ho
  rw [a3,Zc1]
  cases m with
  |cons t r=>cases hw
  |nil =>
   cases hw
   have hl:¬j<L.length:=fun h=>by rw [Am h] at a2;cases a2
   simp only [Agi]
   rw [Zd1 (show ¬(j:Int)<(L.length:Int) by omega),Bool.or_false,Ah]
theorem A10{s:Str}{n e:Int}(h:Dy s=([],n,e)) (he:¬e=0):Anx s=some (zX,n,e):=by
 have h':Hk s=([],n,e):=h
 simp only [Anx,P0,h',Zd1 he,Zs1,Af]
 rfl
end
end Go.Proofs.YthndhaolemgbdaaGreatDoor
namespace Go.Proofs.YthndhaolemgbdaaGreatDoor
open Go.Ax
end Go.Proofs.YthndhaolemgbdaaGreatDoor
namespace Go.Ax
open Go.RowKit Go.ChangeShapes Go.WideShapes
section
variable {H:Type}{enc':TypeId×Value→H}{P:Program}{w:World}{base:Nat}{sp:Nat→Bool}{held:Bool}
theorem Aoq{t k e:TypeId}{fuel:Nat}{cs:List Value}{ps:List MemPlace}(ht:P.underlying t=some (.map k e)) (hk:P.underlying k=some (.int .i64)) (he:P.underlying e=some .string) {l:List (Int×Str)}(hl:∀p,p∈l→Mv l p.1=p.2) (hno:∀n,(∀p,p∈l→p.1≠n)→Mv l n=[]) (h:DataW.trod enc' P w base sp held fuel t cs=some (.map (l.map fun p=>(.int .i64 p.1,.lit (.string p.2))),ps)):∃b es clk,cs=[.map (some b)]∧w.heap[b]? = some (.map es clk)∧Axf l es.toList:=by
 rcases open_anymap ht h with ⟨_,hx⟩|⟨b,es,clock,_,rfl,hb,_,_,_⟩
 ·cases hx
 cases fuel with
 |zero=>simp [DataW.trod] at h
 |succ n =>
  simp only [DataW.trod,ht,hb] at h
  ·split at h
   ·obtain⟨entries,hm,hs⟩:=Option.bind_eq_some_iff.1 h
    split at hs
    ·simp only [Za1,Zp1,DataW.map.injEq] at hs
     obtain⟨hs,_⟩:=hs
     have hperm:=sorted_perm (entries.map (·.1))
     rw [hs] at hperm
     have hx:∀(x:MapEntry) (y:(Lit×DataW H)×List MemPlace),((keyOf P k x.key).bind fun key=>if x.val.formed P e=true then(DataW.trod enc' P w base sp held n e x.val.cells.toList).map fun y=>((key,y.1),y.2) else none)=some y→∃(m:Int) (s:ByteArray),x.key = .int .i64 m∧x.val = .string s∧s.size≤maxLen∧y.1=(.int .i64 m,.lit (.string s.data.toList)):=by
      intro x y hy
      obtain⟨key,hk1,hy⟩:=Option.bind_eq_some_iff.1 hy
      split at hy
      ·rename_i hfm
       obtain⟨z,hz,rfl⟩:=Option.map_eq_some_iff.1 hy
       obtain⟨s,hs1,rfl,hs3⟩:=DataW.trod_string he hz
       have hv:x.val = .string s:=by
        cases hxv:x.val<;>rw [hxv] at hs1 hfm<;>simp [Value.cells] at hs1
        ·rw [hs1]
        ·simp [Value.formed,he] at hfm
       have hkk:∃m,x.key = .int .i64 m∧key = .int .i64 m:=by
        simp only [keyOf,hk] at hk1
        cases hxk:x.key<;>rw [hxk] at hk1<;>simp [mapKey,hk] at hk1
        obtain⟨⟨h1,_⟩,h2⟩:=hk1
        subst h1
        exact⟨_,rfl,h2.symm⟩
       obtain⟨m,h1,rfl⟩:=hkk
       exact⟨m,s,h1,hv,hs3,rfl⟩
      ·cases hy
     have hin:∀x,x∈es.toList→∃(m:Int) (s:ByteArray),x.key = .int .i64 m∧x.val = .string s∧s.size≤maxLen∧(m,s.data.toList)∈l:=fun x hxm=>by
      obtain⟨i,hi,rfl⟩:=List.getElem_of_mem hxm
      obtain⟨y,hy,hf⟩:=Lib.mapM_at hm i _ (Zo1 hi)
      obtain⟨m,s,h1,h2,h3,h4⟩:=hx _ y hf
      refine⟨m,s,h1,h2,h3,?_⟩
      have:y.1∈entries.map (·.1):=List.mem_map.2 ⟨y,List.mem_of_getElem? hy,rfl⟩
      have:=hperm.symm.subset this
      rw [h4] at this
      obtain⟨p,hp,e⟩:=List.mem_map.1 this
      simp only [Zp1,Lit.int.injEq,true_and,DataW.lit.injEq,Lit.string.injEq] at e
      obtain⟨e1,e2⟩:=e
      rw [←e1,←e2]
      exact hp
     have hout:∀p,p∈l→∃x,x∈es.toList∧x.key = .int .i64 p.1:=fun p hp=>by
      have h1:(Lit.int .i64 p.1,DataW.lit (H:=H) (.string p.2))∈entries.map (·.1):=hperm.subset (List.mem_map.2 ⟨p,hp,rfl⟩)
      obtain⟨y,hy,e⟩:=List.mem_map.1 h1
      obtain⟨x,hxm,hf⟩:=mapM_mem hm y hy
      obtain⟨m,s,h2,_,_,h4⟩:=hx x y hf
      rw [e] at h4
      simp only [Zp1,Lit.int.injEq,true_and] at h4
      exact⟨x,hxm,by rw [h2,h4.1]⟩
     refine⟨b,es,clock,rfl,hb,fun n =>?_⟩
     have hik:MapKept.IsKey (.int .i64) (.int .i64 n):=by simp [MapKept.IsKey]
     rcases MapKept.findNow_spec hik es.toList 0 (fun x hxm=>by obtain⟨m,s,h1,_⟩:=hin x hxm;rw [h1];simp [MapKept.IsKey]) with ⟨h1,h2⟩|⟨j,x,h1,h2,h3⟩
     ·have:Mv l n=[]:=hno n fun p hp e=>by
       obtain⟨x,hxm,hk⟩:=hout p hp
       exact h2 x hxm (by rw [hk,e])
      exact⟨by rw [this];simp,.inl ⟨h1,this⟩⟩
     ·obtain⟨m,s,g1,g2,g3,g4⟩:=hin x (List.mem_of_getElem? h2)
      have hmn:m=n:=by
       rw [g1] at h3
       simpa using h3
      subst hmn
      have hg:=hl _ g4
      simp only at hg
      refine⟨by rw [hg,Array.length_toList];exact g3,.inr ⟨0+j,?_⟩⟩
      rw [h1,g2,hg,Array.toArray_toList]
    ·cases hs
   ·cases h
end
theorem Abi{H:Type}{P:Program}:∀{ts us:List TypeId}{ds gs:List (DataW H)}{n:Nat},ds.length≤ts.length→n∈DataW.weightsEach P ts ds→n∈DataW.weightsEach P (ts++us) (ds++gs)
 |[],us,ds,gs,n,_,h=>by cases ds<;>simp [DataW.weightsEach] at h
 |t::ts,us,[],gs,n,_,h=>by simp [DataW.weightsEach] at h
 |t::ts,us,d::ds,gs,n,hl,h=>by
  simp only [DataW.weightsEach,Zb2,List.mem_append] at h ⊢
  rcases h with h|h
  ·exact .inl h
  ·exact .inr (Abi (by simpa using hl) h)
theorem A41{H:Type}{P:Program}{ts us:List TypeId}{ds gs:List (DataW H)}(h:(DataW.weightsEach P (ts++us) (ds++gs)).all (·≤reachBytes)=true) (hl:ds.length≤ts.length):∀(i:Nat) (t:TypeId) (d:DataW H),ts[i]? = some t→ds[i]? = some d→∀n,n∈d.weights P t→n≤R47:=fun i t d ht hd n hn=>by
 have:=Zg2.1 h n (Abi hl (DataW.weights_mem_each ht hd n hn))
 show n≤reachBytes
 exact of_decide_eq_true this
theorem Aq4{H:Type}{enc':TypeId×Value→H}{P:Program}{w:World}{base:Nat}{sp:Nat→Bool}{held:Bool}:∀{ts:List TypeId}{vs:List Value}{ds:List (DataW H)}{ps:List MemPlace},DataW.TrodAll enc' P w base sp held ts vs ds ps→ds.length=ts.length:=by
 intro ts
 induction ts with
 |nil=>intro vs ds ps h;cases vs<;>cases ds<;>simp [DataW.TrodAll] at h ⊢
 |cons t ts ih =>
  intro vs ds ps h
  obtain⟨v,vs',d,ds',p,q,rfl,rfl,rfl,hd,hrest⟩:=trodAll_cons h
  simp [ih hrest]
end Go.Ax
namespace Go.Proofs.YthndhaolemgbdaaGreatDoor
open Go.Ax Go.ChangeShapes Go.WideShapes Go.ChangeAt Go.RowKit Go.ChangeMaps
theorem own:ownKnob Tryz.prog.godebug=none:=by kernel_rfl
def rdL:List Nat:=[3,4,9,5,23,26,111,89,44,24,39,34,42,78,41,40,63,67]
theorem Bgo:rdB elT (Amw ttL) rdL=true:=by kernel_rfl
theorem Bga:szB Tryz.prog elT (Amw ttL) rdL=true:=by kernel_rfl
theorem Bbl:laidOutB Tryz.prog=true:=by kernel_rfl
def GlE(x:Vx) (g:Nat):Gv→Prop
 |.arr c xs=>∀i y,xs[i]? = some y→∀w',Chg x.S x.w w'→At w' c y g (i*csz c)
 |.map l=>∃r es clk,(∀w',Chg x.S x.w w'→w'.cell? ⟨g,0,none⟩=some (.map (some r))∧w'.heap[r]? = some (.map es clk))∧Axf l es.toList
 |.num k=>∃n,∀w',Chg x.S x.w w'→w'.cell? ⟨g,0,none⟩=some (.int k n)
theorem G1{α:Type}:∀{L:List (Nat×α)}{g:Nat}{v : α},tbl L g=some v→(g,v)∈L
 |[],_,_,h=>by simp [tbl] at h
 |(k,u)::L,g,v,h=>by
  simp only [tbl] at h
  split at h
  ·rename_i hk
   have hk:=Zl1 hk
   subst hk
   simp only [Za1] at h
   subst h
   exact Zr1
  ·exact Zu1 _ (G1 h)
theorem Bb6{x:Vx}{L:List (Nat×Gv)}(h:∀p,p∈L→GlE x p.1 p.2):GlR x (tbl L) :=
 ⟨fun _ _ _ hg=>h _ (G1 hg),fun _ _ hg=>h _ (G1 hg),fun _ _ hg=>h _ (G1 hg)⟩
theorem Af5{P:Program}{w:World}:∀{l:List (String×DataW Unit)}{ps:List MemPlace},DataW.LaidVars P w l ps→∀x,x∈l→∃g t cs fuel p,P.globalNamed x.1=some g∧(P.globals[g]?).map (·.type)=some t∧w.var? P x.1=some cs∧DataW.trod (fun _=>()) P w 0 (fun _=>true) false fuel t cs.toList=some (x.2,p)
 |[],_,_,x,hx=>by cases hx
 |(n,d)::r,ps,h,x,hx=>by
  obtain⟨g,t,cs,fuel,p,q,h1,h2,h3,h4,h5,_⟩:=h
  rcases List.mem_cons.1 hx with rfl|hx
  ·exact⟨g,t,cs,fuel,p,h1,h2,h3,h4⟩
  ·exact Af5 h5 x hx
theorem Afz{H:Type}{enc:TypeId×Value→H}{P:Program}{w:World}{base:Nat}{sp:Nat→Bool}{held:Bool}{fuel:Nat}{t e:TypeId}{n:Nat}{cs:List Value}{zs:List (List UInt8)}{p:List MemPlace}
  (ht:P.underlying t=some (.array n e)) (he:P.underlying e=some .string) (hce:P.cellsOf e=1)
  (h:DataW.trod enc P w base sp held fuel t cs=some (.agg (zs.map fun z =>.lit (.string z)),p)):∀(i:Nat) (z:Str),zs[i]? = some z→cs[i]? = some (.string ⟨z.toArray⟩):=by
 cases fuel with
 |zero=>simp [DataW.trod] at h
 |succ fuel =>
  simp only [DataW.trod,ht,hce,Nat.mul_one] at h
  split at h
  ·rename_i hl
   obtain⟨xs,hm,hx⟩:=Option.map_eq_some_iff.1 h
   have hxs:xs.map (·.1)=zs.map fun z=>(DataW.lit (.string z):DataW H):=by
    have:=congrArg Prod.fst hx
    simpa using this
   have hxl:xs.length=n:=by simpa using Lib.mapM_length hm
   have hzl:zs.length=n:=by
    have:=congrArg List.length hxs
    simp at this
    omega
   intro i z hz
   have hi:i<n:=by
    have:=(Zi2.1 hz).1
    omega
   obtain⟨b,hb,hf⟩:=Lib.mapM_at hm i i (by simp [hi])
   obtain⟨z',hc,h3,_⟩:=DataW.trod_string he hf
   have h1:cs[i]? = some (.string z'):=by
    have:=congrArg (·[0]?) hc
    simpa [List.getElem?_take,List.getElem?_drop] using this
   have h2:(xs.map (·.1))[i]? = some b.1:=by simp [hb]
   rw [hxs] at h2
   simp only [List.getElem?_map,hz,Zl2,Za1] at h2
   rw [h3] at h2
   simp only [DataW.lit.injEq,Lit.string.injEq] at h2
   rw [h1,h2]
  ·cases h
theorem Akb{W:World}{l:List (String×DataW Unit)}(h:laidMet Tryz.prog l W) {nm:String}{g t e:Nat}{n:Nat}{zs:List Str}(hin:(nm,DataW.agg (zs.map fun z =>.lit (.string z)))∈l) (hg:Tryz.prog.globalNamed nm=some g) (hgt:(Tryz.prog.globals[g]?).map (·.type)=some t)
  (ht:Tryz.prog.underlying t=some (.array n e)) (he:Tryz.prog.underlying e=some .string) (hce:Tryz.prog.cellsOf e=1) (hz:(zs.all fun z=>Nat.ble z.length maxLen)=true):GlE (v0 elT Dx W) g (.arr .str zs):=by
 obtain⟨ps,hl,_⟩:=h
 obtain⟨g',t',cs,fuel,p,h1,h2,h3,h4⟩:=Af5 hl _ hin
 obtain rfl:=Option.some.inj (hg.symm.trans h1)
 obtain rfl:=Option.some.inj (hgt.symm.trans h2)
 have hc:=Afz ht he hce h4
 intro i y hy w' hw j d hd
 have hj:j=0∧d = .str y:=by
  cases j with
  |zero=>simpa [enc] using hd.symm
  |succ j=>simp [enc] at hd
 obtain⟨rfl,rfl⟩:=hj
 have h5:=World.var?_cell h1 h3 i
 rw [←Array.getElem?_toList,hc i y hy] at h5
 have hm:=Zg2.1 hz y (List.mem_of_getElem? hy)
 have e1:i*csz .str+0=i:=by simp [csz]
 exact⟨_,by rw [e1];exact hw.cell _ _ _ h5 (fun h=>h),.str y (Nat.le_of_ble_eq_true hm)⟩
theorem Bck:∀p,p∈signsL→Mv signsL p.1=p.2:=by decide
theorem Bdk(l:List (Int×Str)):∀n,(∀p,p∈l→p.1≠n)→Mv l n=[]:=by
 induction l with
 |nil=>intro n _;rfl
 |cons p l ih =>
  intro n h
  obtain⟨k,s⟩:=p
  have h1:k≠n:=h (k,s) (by simp)
  simp only [Mv,Zd1 h1]
  exact ih n fun p hp=>h p (by simp [hp])
theorem A0g{W:World}{l:List (String×DataW Unit)}(h:laidMet Tryz.prog l W) (hin:("exchequer/ast.signs",Rows.laid_exchequer_ast_signs)∈l):GlE (v0 elT Dx W) 0 (.map signsL):=by
 obtain⟨ps,hl,_⟩:=h
 obtain⟨g',t',cs,fuel,p,hg',ht',hvar,hd⟩:=Af5 hl _ hin
 obtain rfl:=Option.some.inj ((show Tryz.prog.globalNamed "exchequer/ast.signs" = some 0 by kernel_rfl).symm.trans hg')
 obtain rfl:=Option.some.inj ((show(Tryz.prog.globals[0]?).map (·.type)=some 147 by kernel_rfl).symm.trans ht')
 obtain⟨b,es,clk,h1,h2,h3⟩:=Aoq (l:=signsL) (t:=147) (k:=3) (e:=9) (by kernel_rfl) (by kernel_rfl) (by kernel_rfl) Bck (Bdk signsL) hd
 have hc:=World.var?_cell hg' hvar 0
 have h1':cs = #[.map (some b)]:=by
  apply Array.ext'
  exact h1
 rw [h1'] at hc
 have hc:W.cell? ⟨0,0,none⟩=some (.map (some b)):=hc
 have hlt:b<W.heap.size:=(Zh2.1 h2).1
 exact⟨b,es,clk,fun w' hw=>⟨hw.cell _ 0 _ hc (fun h=>h),by rw [hw.block b hlt (fun _ h=>h)];exact h2⟩,h3⟩
theorem Bas{W:World}(h:W.ShapedOpen Tryz.prog):GlE (v0 elT Dx W) 3 (.num .i64):=by
 obtain⟨m,hm⟩:=Go.Proofs.cell_of_shapedOpen_int (zero := #[.int .i64 0]) (t:=3) (g:=3) h (of_decide_eq_true (by kernel_rfl)) (by kernel_rfl) rfl (by kernel_rfl) (by kernel_rfl) Tryz.underlying3
 exact⟨m,fun w' hw=>hw.cell _ 0 _ hm (fun h=>h)⟩
def Bdx(l:List (String×DataW Unit)):Prop:=(l.all fun x=>x.2.handleName?.isNone)=true
 ∧ ("exchequer/lex.words",Rows.laid_exchequer_lex_words)∈l
 ∧ ("exchequer/ast.signs",Rows.laid_exchequer_ast_signs)∈l
 ∧ ("exchequer/ast.kinds",Rows.laid_exchequer_ast_kinds)∈l
 ∧ True
theorem Bdc{W:World}{l:List (String×DataW Unit)}(hl:Bdx l) (hL:laidMetH Tryz.prog l W) (hS:W.ShapedOpen Tryz.prog):GlR (v0 elT Dx W) glT:=by
 have hL':laidMet Tryz.prog l W:=by
  have hf:(l.filter fun x=>x.2.handleName?.isSome)=[]:=List.filter_eq_nil_iff.2 fun x hx=>by
   have:=Zg2.1 hl.1 x hx
   rw [Option.isNone_iff_eq_none] at this
   simp [this]
  unfold laidMetH at hL
  rw [hf] at hL
  exact hL
 replace hl:=hl.2
 clear hL
 have _:=hS
 refine Bb6 fun p hp =>?_
 have hwords:GlE (v0 elT Dx W) 2 (.arr .str wordsL):=Akb (n:=36) (t:=221) (e:=9) hL' hl.1 (by kernel_rfl) (by kernel_rfl) (by kernel_rfl) (by kernel_rfl) (by kernel_rfl) (by kernel_rfl)
 replace hl:=hl.2
 have hsigns:=A0g hL' hl.1
 replace hl:=hl.2
 have hkinds:GlE (v0 elT Dx W) 1 (.arr .str Amm):=Akb (n:=6) (t:=191) (e:=9) hL' hl.1 (by kernel_rfl) (by kernel_rfl) (by kernel_rfl) (by kernel_rfl) (by kernel_rfl) (by kernel_rfl)
 replace hl:=hl.2
 have hmax:=Bas hS
 simp only [List.mem_cons,List.not_mem_nil,or_false] at hp
 repeat' (first|(rcases hp with rfl|hp)|subst hp)
 all_goals assumption
def Bij:DataW Unit→Value
 |.lit (.int k n) =>.int k n
 |.lit (.string s) =>.string ⟨s.toArray⟩
 |_ =>.int .u8 0
def U5:DataW Unit→List Value
 |.agg l=>l.map Bij
 |_=>[]
def Bef:DataW Unit→List Value
 |.agg l=>l.flatMap U5
 |_=>[]
def Ahl(vs:List Value):Obj→Obj
 |.cells _ t frozen =>.cells vs.toArray t frozen
 |o=>o
noncomputable def A43 (h:Array Obj):Array Obj :=
 let h:=h.modify 2 (Ahl (U5 Rows.laid_exchequer_lex_words))
 let h:=h.modify 1 (Ahl (U5 Rows.laid_exchequer_ast_kinds))
 let h:=(h.modify 4 (Ahl (U5 Rows.laid_unicode_utf8_first))).modify 5 (Ahl (Bef Rows.laid_unicode_utf8_acceptRanges))
 let h:=(h.modify 0 (Ahl [.map (some h.size)])).push (.map ((signsL.zip (List.range 11)).map fun p=>(⟨.int .i64 p.1.1,.string ⟨p.1.2.toArray⟩,p.2⟩:MapEntry)).toArray 11)
 h
noncomputable def Aab (os:Os):World :=
 { World.holding Tryz.prog os ⟨#[], #[],[]⟩ with heap:=A43 (World.holding Tryz.prog os ⟨#[], #[],[]⟩).heap }
set_option maxRecDepth 100000 in
theorem A13{H:Type}{R:Nat×Nat}{M:TypeId→DataW H→Prop}(hM:Msr Tryz.prog R M) {enc:TypeId×Value→H}{f:FuncId}{fn:Func}{sa:List Sg}{F:FT sa [.bool]}{s:ChangeSpec}(hok:FnOk Tryz.prog elT glT f sa [.bool] F) (hF:∀x,BdL sa x→SmL R sa x→F x=some true)
  (hr:fn.resultTypes = #[4]) (hv:s.vars=[]) (hf:∀ds,ds.length=fn.params.toList.length→(s.fn H ds).results=[.lit (.bool true)]∧(s.fn H ds).args=ds∧(s.fn H ds).vars=[])
  (hsg:Aj3 (Amw ttL) rdL fn.params.toList sa=true) (hread:(fn.params.toList.all fun t=>Tryz.prog.readableRec t&&Nat.blt t Tryz.prog.types.size)=true)
  {W:World}{base:Nat}{args:Array Value}{ds gs:List (DataW H)}{before:List MemPlace}(hval:∀(j:Nat) t v,fn.params[j]? = some t→args[j]? = some v→Value.okWide Tryz.prog W .any base t v)
  (hW:DataW.Whole enc Tryz.prog fn.params.toList s.vars false W args.toList ds gs before) (hgl:GlR (v0 elT Dx W) glT) (hsz:ds.length=fn.params.toList.length→∀(i:Nat) (t:TypeId) (d:DataW H),fn.params.toList[i]? = some t→ds[i]? = some d→M t d) :
  Calls Tryz.prog f args W fun e W'=>∃v,e = .returned v∧s.post enc Tryz.prog fn false true false false W args v W':=by
 have hW':=hW
 have hlt:=hW.lt
 obtain⟨p,q,hA,hV,rfl,hfz,hnd⟩:=hW
 rw [hv] at hV
 obtain⟨rfl,rfl⟩:=trodVars_none hV
 have hlen:=Aq4 hA
 obtain⟨x,hx,hsm⟩:=Aq5 hM (fun t=>A5h Asw t) Bgo Bga 0 hsg (fun j t v h1 h2=>hval j t v (by simpa using h1) (by simpa using h2)) hA
 have hcall:=hok.calls (hF x (Wl hx) (hsm (hsz hlen))) hgl hx
 have e1:args.toList.toArray=args:=by simp
 rw [e1] at hcall
 refine hcall.mono fun en W' =>?_
 rintro⟨rfl,hb⟩
 refine⟨_,rfl,?_⟩
 obtain⟨h1,h2,h3⟩:=hf ds hlen
 have e2:ds++([]:List (DataW H))=ds:=by simp
 refine⟨ds,[],_,[],p,[],hW',?_,?_,?_,hb.frame _,fun h=>by cases h⟩
 ·rw [e2,h1,hr]
  exact trodAll_cons_mk (shut_bool Tryz.underlying4 _) trodAll_mk0
 ·rw [e2,h2]
  refine Aks Bbl hb (fun t ht =>?_) (fun x hx=>hlt x (by simp [hx])) hA
  have:=Zg2.1 hread t ht
  simp only [Zb1] at this
  exact⟨this.1,by simpa [Nat.blt_eq] using this.2⟩
 ·rw [e2,h3,hv];exact rfl
end Go.Proofs.YthndhaolemgbdaaGreatDoor
