/- Texts of the proof,one behind the other: AxFr,Mu,Tl,Tm,Ye,Rq,Ub,AxFs,FrG. -/
import Derived.Test.YthndhaolemgbdaaGreatDoorQ8
import Derived.ChangeArms
import Derived.WideShapes
import Derived.Carry
import Derived.ChangeShapes
import Derived.Lib.LaidTab
import Derived.SizedLaws
import Derived.Test.YthndhaolemgbdaaGreatDoorRows
import Derived.ProofKit
import Derived.ChangeMaps5
import Derived.ChangeAnyMap
import Derived.Test.YthndhaolemgbdaaGreatDoorCards
import Derived.Test.YthndhaolemgbdaaGreatDoorTie
import Derived.OpenShut
import Derived.Deep.DeepHandedRow
import Derived.Shelf.Vars
set_option linter.all false
namespace Go.Ax
open Go.RowKit Go.ChangeShapes
def shp:D→D→Bool
 |.int k _,.int k' _=>decide (k=k')
 |.bool _,.bool _=>true
 |.str _,.str _=>true
 |.sl c _ _,.sl c' _ _=>decide (c=c')
 |_,_=>false
def N1:List D→List D→Bool
 |[],[]=>true
 |a::l,b::m=>shp a b&&N1 l m
 |_,_=>false
theorem Bmy{a b c:D}(h:shp a b=true) (k:shp a c=true):shp b c=true:=by
 cases a<;>cases b<;>simp [shp] at h<;>cases c<;>simp [shp] at k<;>subst_vars<;>simp [shp]
theorem A5y:∀{a b c:List D},N1 a b=true→N1 a c=true→N1 b c=true
 |[],[],[],_,_=>rfl
 |x::a,y::b,z::c,h,k=>by
  simp only [N1,Zb1] at h k ⊢
  exact⟨Bmy h.1 k.1,A5y h.2 k.2⟩
 |[],_::_,_,h,_=>by simp [N1] at h
 |_::_,[],_,h,_=>by simp [N1] at h
 |[],[],_::_,_,k=>by simp [N1] at k
 |_::_,_::_,[],_,k=>by simp [N1] at k
theorem Air:∀{a b c d:List D},N1 a b=true→N1 c d=true→N1 (a++c) (b++d)=true
 |[],[],_,_,_,k=>k
 |_::a,_::b,_,_,h,k=>by
  simp only [N1,Zb1,Zb2] at h ⊢
  exact⟨h.1,Air h.2 k⟩
 |[],_::_,_,_,h,_=>by simp [N1] at h
 |_::_,[],_,_,h,_=>by simp [N1] at h
theorem A38{k:IntKind}{n:Int}{d:D}(h:shp (.int k n) d=true):∃m,d = .int k m:=by
 cases d<;>simp [shp] at h
 subst h
 exact⟨_,rfl⟩
theorem Bc9{b:Bool}{d:D}(h:shp (.bool b) d=true):∃m,d = .bool m:=by
 cases d<;>simp [shp] at h
 exact⟨_,rfl⟩
theorem A48{s:Str}{d:D}(h:shp (.str s) d=true):∃m,d = .str m:=by
 cases d<;>simp [shp] at h
 exact⟨_,rfl⟩
theorem Bft{c:Ck}{xs:List (El c)}{t:Tk}{d:D}(h:shp (.sl c xs t) d=true):∃ys u,d = .sl c ys u:=by
 cases d<;>simp [shp] at h
 subst h
 exact⟨_,_,rfl⟩
theorem Abc{a:D}{l ds:List D}(h:N1 (a::l) ds=true):∃b m,ds=b::m∧shp a b=true∧N1 l m=true:=by
 cases ds with
 |nil=>simp [N1] at h
 |cons b m =>
  simp only [N1,Zb1] at h
  exact⟨b,m,rfl,h.1,h.2⟩
theorem Aen{ds:List D}(h:N1 [] ds=true):ds=[]:=by
 cases ds with
 |nil=>rfl
 |cons b m=>simp [N1] at h
theorem Aq6{c:Ck}{z ds:List D}(h:(dec c z).isSome=true) (hs:N1 z ds=true):∃y,dec c ds=some y:=by
 obtain⟨y0,h⟩:=Option.isSome_iff_exists.1 h
 unfold dec at h
 split at h
 all_goals first
  |(cases h;done)
  |skip
 all_goals
  clear h
  repeat (
   obtain⟨b,m,e,h1,hs'⟩:=Abc hs
   clear hs
   have hs:=hs'
   clear hs'
   subst e
   first
    |(obtain⟨_,e⟩:=A38 h1;subst e)
    |(obtain⟨_,e⟩:=Bc9 h1;subst e)
    |(obtain⟨_,e⟩:=A48 h1;subst e)
    |(obtain⟨_,_,e⟩:=Bft h1;subst e))
  have e:=Aen hs
  subst e
  exact⟨_,rfl⟩
def R47:Nat:=140737488351232
def Ao3(R:Nat×Nat) (v:Val):Prop:=v.s.length≤R.1
inductive SmExpr (R:Nat×Nat):Xpr→Prop
 |mk (k:Int) (v:Val) (nm:Str) (l:List Xpr):Ao3 R v→nm.length≤R.1→l.length≤R.2→(∀e,e∈l→SmExpr R e)→SmExpr R (.mk k v nm l)
structure SmStm (R:Nat×Nat) (s:Stm):Prop where
 name:s.name.length≤R.1
 on:s.on.length≤R.1
 cols:s.cols.length≤R.2∧∀c,c∈s.cols→c.name.length≤R.1∧c.ref.length≤R.1
 names:s.names.length≤R.2∧∀x,x∈s.names→x.length≤R.1
 l:s.l.length≤R.2∧∀x,x∈s.l→SmExpr R x
 rows:s.rows.length≤R.2∧∀r,r∈s.rows→r.length≤R.2∧∀x,x∈r→SmExpr R x
 sets:s.sets.length≤R.2∧∀x,x∈s.sets→x.name.length≤R.1∧SmExpr R x.e
 whr:SmExpr R s.whr
 order:s.order.length≤R.2∧∀x,x∈s.order→x.length≤R.1
 desc:s.desc.length≤R.2
def Bl4(R:Nat×Nat) (x:Idx):Prop:=x.name.length≤R.1∧x.cols.length≤R.2∧∀s,s∈x.cols→s.length≤R.1
structure SmTbl (R:Nat×Nat) (t:Tbl):Prop where
 name:t.name.length≤R.1
 cols:t.cols.length≤R.2∧∀c,c∈t.cols→c.name.length≤R.1∧c.ref.length≤R.1
 key:t.key.length≤R.2∧∀x,x∈t.key→x.length≤R.1
 checks:t.checks.length≤R.2∧∀x,x∈t.checks→SmExpr R x
 idx:t.idx.length≤R.2∧∀x,x∈t.idx→Bl4 R x
def SmK(R:Nat×Nat):(c:Ck)→El c→Prop
 |.str,s=>s.length≤R.1
 |.val,v=>Ao3 R v
 |.tok,t=>t.s.length≤R.1
 |.col,c=>c.name.length≤R.1∧c.ref.length≤R.1
 |.expr,e=>SmExpr R e
 |.vals,l=>l.length≤R.2∧∀x,x∈l→Ao3 R x
 |.exprs,l=>l.length≤R.2∧∀x,x∈l→SmExpr R x
 |.strs,l=>l.length≤R.2∧∀x,x∈l→x.length≤R.1
 |.set,s=>s.name.length≤R.1∧SmExpr R s.e
 |.stmt,s=>SmStm R s
 |.idx,x=>Bl4 R x
 |.tbl,t=>SmTbl R t
 |_,_=>True
def SmD(R:Nat×Nat):D→Prop
 |.str l=>l.length≤R.1
 |.sl c xs _=>xs.length≤R.2∧∀x,x∈xs→SmK R c x
 |_=>True
def SmS(R:Nat×Nat):(s:Sg)→den s→Prop
 |.str,s=>s.length≤R.1
 |.sl c _,xs=>xs.length≤R.2∧∀x,x∈xs→SmK R c x
 |.sv c,x=>SmK R c x
 |_,_=>True
def SmL(R:Nat×Nat):(l:List Sg)→HV l→Prop
 |[],_=>True
 |[a],x=>SmS R a x
 |a::b::l,(x,y)=>SmS R a x∧SmL R (b::l) y
theorem Bd6{R:Nat×Nat}{c:Ck}{ds:List D}{y:El c}(h:dec c ds=some y) (hd:∀d,d∈ds→SmD R d):SmK R c y:=by
 unfold dec at h
 split at h<;>simp only [Za1,reduceCtorEq] at h<;>subst h<;>simp only [List.mem_cons,List.not_mem_nil,or_false,forall_eq_or_imp,forall_eq,SmD] at hd<;>simp only [SmK,Ao3]<;>first
  |trivial
  |exact hd
  |exact hd.2.2
  |exact hd.2.2.1
  |exact⟨hd.1,hd.2.2.2.2⟩
  |exact .mk _ _ _ _ hd.2.2.2.1 hd.2.2.2.2.1 hd.2.2.2.2.2.1 hd.2.2.2.2.2.2
  |exact⟨hd.1,.mk _ _ _ _ hd.2.2.2.2.1 hd.2.2.2.2.2.1 hd.2.2.2.2.2.2.1 hd.2.2.2.2.2.2.2⟩
  |exact⟨hd.1,hd.2.1,hd.2.2.1,hd.2.2.2.1,hd.2.2.2.2⟩
  |(obtain⟨_,h1,h2,h3,h4,h5,h6,h7,_,_,_,_,w1,w2,w3,h8,h9,_⟩:=hd
    exact⟨h1,h2,h3,h4,h5,h6,h7,.mk _ _ _ _ w1 w2 w3.1 w3.2,h8,h9.1⟩)
theorem Acr{H:Type}{P:Program}{e:TypeId}:∀{l:List (DataW H)}{d:DataW H},d∈l→∀n∈d.weights P e,n∈DataW.weightsAll P e l
 |[],_,h,_,_=>by cases h
 |x::l,d,h,n,hn=>by
  simp only [DataW.weightsAll,List.mem_append]
  rcases List.mem_cons.1 h with rfl|h
  ·exact .inl hn
  ·exact .inr (Acr h n hn)
structure Msr {H:Type}(P:Program) (R:Nat×Nat) (M:TypeId→DataW H→Prop):Prop where
 str:∀(t:TypeId) (s:List UInt8),M t (.lit (.string s))→s.length≤R.1
 sl:∀(t e:TypeId) (l r:List (DataW H)),P.underlying t=some (.slice e)→1≤P.bytesOf e→M t (.slice l r)→l.length≤9223372036854775807→l.length≤R.2∧∀d,d∈l→M e d
 agg:∀(t:TypeId) (fds:Array Field) (l:List (DataW H)) (i:Nat) (fd:Field) (d:DataW H),P.underlying t=some (.struct fds)→M t (.agg l)→fds[i]? = some fd→l[i]? = some d→M fd.type d
theorem Axw{H:Type}(P:Program):Msr (H:=H) P (R47,R47) fun t d=>∀n,n∈d.weights P t→n≤R47 where
 str:=fun t s h=>h _ (by simp [DataW.weights])
 sl:=fun t e l r hu hz h _=>⟨by
  have h1:=h ((l.length+r.length)*P.bytesOf e) (by simp only [DataW.weights,hu,List.mem_cons,true_or])
  have h2:(l.length+r.length)*1≤(l.length+r.length)*P.bytesOf e:=Nat.mul_le_mul_left _ hz
  omega,fun d hd n hn=>h n (by
  simp only [DataW.weights,hu,List.mem_cons,List.mem_append]
  exact .inr (.inl (Acr hd n hn)))⟩
 agg:=fun t fds l i fd d hu h hf hd n hn=>h n (by
  simp only [DataW.weights,hu]
  exact DataW.weights_mem_each (j:=i) (t:=fd.type) (d:=d) (by simp [hf]) hd n hn)
def zc(t:Ty):List D:=match t.zero with
 |some z=>cells z
 |none=>[]
def Ald(tt:Nat→Ty) (rd:List Nat):Nat→List (Nat×Nat)→List D→Bool
 |_,[],z=>z.isEmpty
 |o,(o',u)::fs,z=>Nat.beq o' o&&rd.contains u&&Nat.ble (zc (tt u)).length z.length&&N1 (zc (tt u)) (z.take (zc (tt u)).length)&&Ald tt rd (o+(zc (tt u)).length) fs (z.drop (zc (tt u)).length)
def Bdv(el:Ck→TypeId) (tt:Nat→Ty) (rd:List Nat) (t:Nat):Bool:=match tt t with
 |.int _|.bool|.str=>true
 |.sl c=>rd.contains (el c)&&(dec c (zc (tt (el c)))).isSome
 |.st _ fs z=>Ald tt rd 0 fs z
 |_=>false
def rdB(el:Ck→TypeId) (tt:Nat→Ty) (rd:List Nat):Bool:=rd.all fun t=>Bdv el tt rd t&&Nat.beq (zc (tt t)).length (tt t).n
def szB(P:Program) (el:Ck→TypeId) (tt:Nat→Ty) (rd:List Nat):Bool:=rd.all fun t=>match tt t with
 |.sl c=>Nat.ble 1 (P.bytesOf (el c))
 |_=>true
theorem Ai1{α:Type}{p:Nat→α→Prop}:∀(n:Nat),(∀i,i<n→∃y,p i y)→∃ys:List α,ys.length=n∧∀i y,ys[i]? = some y→p i y
 |0,_=>⟨[],rfl,by simp⟩
 |n+1,h=>by
  obtain⟨ys,h1,h2⟩:=Ai1 n (fun i hi=>h i (by omega))
  obtain⟨y,hy⟩:=h n (by omega)
  refine⟨ys++[y],by simp [h1],fun i z hz =>?_⟩
  rcases Nat.lt_trichotomy i n with hi|rfl|hi
  ·rw [List.getElem?_append_left (by omega)] at hz
   exact h2 i z hz
  ·rw [List.getElem?_append_right (by omega),h1] at hz
   simp at hz
   subst hz
   exact hy
  ·rw [List.getElem?_eq_none (by simp;omega)] at hz
   cases hz
section
variable {H:Type}{enc':TypeId×Value→H}{P:Program}{el:Ck→TypeId}{tt:Nat→Ty}{rd:List Nat}{w:World}{sp:Nat→Bool}{held:Bool}
theorem Ad7{t:TypeId}{n:Nat}(h:Sx.tySz P t=some n):P.cellsOf t=n:=by
 unfold Sx.tySz at h
 simp [Program.cellsOf,h]
theorem Al9{a:Addr}{n:Nat}{vs:List Value}(h:w.cells? 0 a n=some vs):vs.length=n∧∀j u,vs[j]? = some u→w.cell? (a.add j)=some u:=by
 unfold World.cells? at h
 simp only [Nat.zero_le,if_true] at h
 refine⟨by simpa using Lib.mapM_length h,fun j u hj =>?_⟩
 have hlt:j<n:=by
  have:=Lib.mapM_length h
  have h2:=(Zi2.1 hj).1
  simp at this
  omega
 obtain⟨u',hu,hf⟩:=Lib.mapM_at h j j (by simp [hlt])
 rw [hj] at hu
 simp only [Za1] at hu
 subst hu
 exact hf
theorem A1z{a:Addr}{u:Value}(h:w.cell? a=some u):a.spot=none:=by
 unfold World.cell? at h
 split at h
 ·split at h
  ·cases h
  ·rename_i hs
   cases hq:a.spot with
   |none=>rfl
   |some q=>rw [hq] at hs;simp at hs
 ·cases h
theorem Asg{R:Nat×Nat}{M:TypeId→DataW H→Prop}(hM:Msr P R M) (hT:∀t,Eu P el tt t=true) (hrd:rdB el tt rd=true) (hsb:szB P el tt rd=true):∀(fuel:Nat) (t:TypeId) (cs:List Value) (x:DataW H×List MemPlace),rd.contains t=true→DataW.trod enc' P w 0 sp held fuel t cs=some x→∃ds,N1 (zc (tt t)) ds=true∧Reps (v0 el G1 w) ds cs∧(M t x.1→∀d,d∈ds→SmD R d)
 |0,t,cs,x,_,h=>by simp [DataW.trod] at h
 |fuel+1,t,cs,x,hc,h=>by
  have hloc:=Zg2.1 hrd t (by simpa using hc)
  simp only [Zb1] at hloc
  obtain⟨hloc,hzl⟩:=hloc
  have hzl:=Zl1 hzl
  have hszB:=Zg2.1 hsb t (by simpa using hc)
  unfold Bdv at hloc
  split at hloc
  ·rename_i k hty
   have hu:=Sx.tyI_spec (Alt (hT t) hty)
   obtain⟨n,rfl,_,hw⟩:=DataW.trod_int hu h
   refine⟨[.int k n],by(rw [hty];show(decide (k=k)&&true)=true;simp),?_,fun _ d hd=>by simp only [List.mem_singleton] at hd;subst hd;trivial⟩
   simp only [Reps,Rep]
   exact⟨_,_,rfl,⟨rfl,hw⟩,rfl⟩
  ·rename_i hty
   have hu:=Sx.tyB_spec (Ahs (hT t) hty)
   obtain⟨b,rfl,_⟩:=DataW.trod_bool hu h
   refine⟨[.bool b],by rw [hty];rfl,?_,fun _ d hd=>by simp only [List.mem_singleton] at hd;subst hd;trivial⟩
   simp only [Reps,Rep]
   exact⟨_,_,rfl,rfl,rfl⟩
  ·rename_i hty
   have hu:=Sx.tyS_spec (J1 (hT t) hty)
   obtain⟨s,rfl,rfl,hs⟩:=DataW.trod_string hu h
   refine⟨[.str s.data.toList],by rw [hty];rfl,?_,fun hwt d hd=>by
    simp only [List.mem_singleton] at hd
    subst hd
    exact hM.str _ _ hwt⟩
   simp only [Reps,Rep]
   exact⟨_,_,rfl,⟨(by rw [Array.toArray_toList]),(by rw [Array.length_toList];exact hs)⟩,rfl⟩
  ·rename_i c hty
   simp only [Zb1] at hloc
   obtain⟨hel,hdec⟩:=hloc
   have hbz : 1≤P.bytesOf (el c):=by
    rw [hty] at hszB
    exact Nat.le_of_ble_eq_true hszB
   obtain⟨by_,hE,_,_⟩:=E0 (hT t) hty
   have hu:=hE.und
   obtain⟨_,i0,z,hi0,hz,hsz,_⟩:=hE
   have hco:P.cellsOf (el c)=csz c:=Ad7 (by simp [Sx.tySz,hi0,hsz])
   rcases DataW.trod_slice hu h with ⟨rfl,_⟩|⟨a,len,cap,elems,rest,n,hf,rfl,rfl,_,hle,hmax,hlen,hel2,_⟩
   ·refine⟨[.sl c [] .no],by(rw [hty];show(decide (c=c)&&true)=true;simp),?_,fun _ d hd=>by
     simp only [List.mem_singleton] at hd
     subst hd
     exact⟨Nat.zero_le _,fun x hx=>by cases hx⟩⟩
    simp only [Reps,Rep]
    exact⟨_,_,rfl,⟨fun _ _ =>.nil _ _ _ _,trivial⟩,rfl⟩
   ·have hf:fuel=n:=by omega
    subst hf
    have each:∀i,i<len→∃y:El c,(∃vs:List Value,w.cells? 0 (a.add (i*csz c)) (csz c)=some vs∧ElR (v0 el G1 w) c y vs)∧(M t (DataW.slice (elems.map (·.1)) (rest.map (·.1)))→SmK R c y):=fun i hi=>by
     have h1:=hel2 i hi
     have hsome:∃e,elems[i]? = some e:=⟨_,Zo1 (by omega)⟩
     obtain⟨e,he⟩:=hsome
     rw [he] at h1
     obtain⟨vs,hv,ht⟩:=Option.bind_eq_some_iff.1 h1
     rw [hco] at hv
     obtain⟨ds,hs,hr,hsm⟩:=Asg hM hT hrd hsb fuel (el c) vs e hel ht
     obtain⟨y,hy⟩:=Aq6 hdec hs
     exact⟨y,⟨vs,hv,Y0 hy hr⟩,fun hwt=>Bd6 hy (hsm ((hM.sl _ _ _ _ hu hbz hwt (by have:maxLen=9223372036854775807:=rfl;simp only [List.length_map];omega)).2 e.1 (List.mem_map.2 ⟨e,List.mem_of_getElem? he,rfl⟩)))⟩
    obtain⟨ys,hyl,hys'⟩:=Ai1 len each
    have hys:=fun i y hy=>(hys' i y hy).1
    refine⟨[.sl c ys .no],by(rw [hty];show(decide (c=c)&&true)=true;simp),?_,fun hwt d hd=>by
     simp only [List.mem_singleton] at hd
     subst hd
     refine⟨?_,fun y hy =>?_⟩
     ·have:=(hM.sl _ _ _ _ hu hbz hwt (by have:maxLen=9223372036854775807:=rfl;simp only [List.length_map];omega)).1
      simp only [List.length_map] at this
      omega
     ·obtain⟨i,hi,rfl⟩:=List.getElem_of_mem hy
      exact(hys' i _ (Zo1 hi)).2 hwt⟩
    simp only [Reps,Rep]
    refine⟨_,_,rfl,⟨Uc hyl.symm ?_,trivial⟩,rfl⟩
    by_cases h0:ys=[]
    ·exact .inl h0
    ·right
     have hsn:a.spot=none:=by
      have hlt : 0<ys.length:=List.length_pos_iff.2 h0
      obtain⟨vs,hv,hE⟩:=hys 0 _ (Zo1 hlt)
      obtain⟨h1,h2⟩:=Al9 hv
      have hp:=Aso c
      have:=h2 0 _ (Zo1 (by omega))
      simp only [Nat.zero_mul,Addr.add,if_true] at this
      exact A1z this
     obtain⟨b,o,s⟩:=a
     simp only at hsn
     subst hsn
     refine⟨b,o,rfl,⟨by omega,hmax⟩,fun i y hy w' hw j d hd =>?_⟩
     obtain⟨vs,hv,hE⟩:=hys i y hy
     obtain⟨_,h2⟩:=Al9 hv
     obtain⟨u,hu',hf⟩:=hE.2 j d hd
     have hcell:=h2 j u hu'
     rw [Sx.add_mk,Sx.add_mk] at hcell
     exact⟨u,hw.cell b _ u hcell (fun h=>h),hf w' hw⟩
  ·rename_i cc fs z hty
   have hbase:=Fa (hT t) (by rw [hty];simp)
   have hsz:P.cellsOf t=z.length:=by
    have:=Ad7 hbase.2.2
    rw [this,hty]
    rfl
   have hok:=hT t
   unfold Eu at hok
   rw [hty] at hok
   simp only [Zb1] at hok
   have hfl:=hok.2
   split at hfl
   ·rename_i fds hu
    simp only [Zb1] at hfl
    have hfl:=hfl.1
    obtain⟨xs,n,hf,rfl,hcl,hxl,hfx⟩:=DataW.trod_struct hu h
    have hf:fuel=n:=by omega
    subst hf
    have key:∀(l:List (Nat×Nat)) (i o:Nat) (z':List D),fs.drop i=l→Ald tt rd o l z' = true→o+z'.length=cs.length→∃ds,N1 z' ds=true∧Reps (v0 el G1 w) ds (cs.drop o)∧(M t (DataW.agg (xs.map (·.1)))→∀d,d∈ds→SmD R d):=by
     intro l
     induction l with
     |nil =>
      intro i o z' _ hct ho
      simp only [Ald,List.isEmpty_iff] at hct
      subst hct
      refine⟨[],rfl,?_,fun _ d hd=>by cases hd⟩
      rw [Zk1 (by simp at ho;omega)]
      simp [Reps]
     |cons q l ih =>
      intro i o z' hd hct ho
      obtain⟨o',u⟩:=q
      simp only [Ald,Zb1] at hct
      obtain⟨⟨⟨⟨ho',hcu⟩,hle⟩,hsh⟩,hct⟩:=hct
      have ho':=Zl1 ho'
      subst ho'
      have hle:=Nat.le_of_ble_eq_true hle
      have hget:fs[i]? = some (o',u):=by
       have:=congrArg (·[0]?) hd
       simpa [List.getElem?_drop] using this
      obtain⟨fd,g1,g2,g3,_⟩:=Ah8 hfl hget
      have g1':fds[i]? = some fd:=by simpa using g1
      have h1:=hfx i fd g1'
      rw [g2,g3] at h1
      have hxi:∃e,xs[i]? = some e:=⟨_,Zo1 (by
       have:=(Zh2.1 g1').1
       omega)⟩
      obtain⟨e,he⟩:=hxi
      rw [he] at h1
      have hlu:=Zg2.1 hrd u (by simpa using hcu)
      simp only [Zb1] at hlu
      have hnu:=Zl1 hlu.2
      have hneu:tt u ≠ .no:=by
       intro e
       have:=hlu.1
       unfold Bdv at this
       rw [e] at this
       cases this
      have hcou:P.cellsOf u=(zc (tt u)).length:=by rw [Ad7 (Fa (hT u) hneu).2.2,hnu]
      rw [hcou] at h1
      obtain⟨ds1,s1,r1,m1⟩:=Asg hM hT hrd hsb fuel u _ e hcu h1
      obtain⟨ds2,s2,r2,m2⟩:=ih (i+1) (o'+(zc (tt u)).length) _ (by rw [←List.drop_drop,hd];rfl) hct (by simp;omega)
      refine⟨ds1++ds2,?_,?_,fun hwt d hd=>by
       rcases List.mem_append.1 hd with hd|hd
       ·refine m1 ?_ d hd
        rw [←g2]
        exact hM.agg _ _ _ i fd e.1 hu hwt g1' (by rw [List.getElem?_map,he];rfl)
       ·exact m2 hwt d hd⟩
      ·rw [←List.take_append_drop (zc (tt u)).length z']
       exact Air (A5y hsh s1) s2
      ·have:=r1.append r2
       rwa [←List.drop_drop,List.take_append_drop] at this
    obtain⟨ds,h1,h2,h3⟩:=key fs 0 0 z rfl hloc (by rw [hcl,hsz];omega)
    exact⟨ds,by simpa [hty,zc,Ty.zero,cells] using h1,by simpa using h2,h3⟩
   ·cases hfl
  ·cases hloc
def Biw(tt:Nat→Ty) (rd:List Nat) (t:Nat) (s:Sg):Bool:=rd.contains t&&match tt t,s with
 |.int k,.int k'=>decide (k=k')
 |.bool,.bool=>true
 |.str,.str=>true
 |.sl c,.sl c' false=>decide (c=c')
 |.st (some c) _ _,.sv c'=>decide (c=c')&&agg? c&&(dec c (zc (tt t))).isSome
 |_,_=>false
theorem Bib{R:Nat×Nat}{M:TypeId→DataW H→Prop}(hM:Msr P R M) (hT:∀t,Eu P el tt t=true) (hrd:rdB el tt rd=true) (hsb:szB P el tt rd=true) {t:TypeId}{s:Sg}(hs:Biw tt rd t s=true) {r:Reach}{b0:Nat}{v:Value}{d:DataW H}{ps:List MemPlace}(hval:Value.okWide P w r b0 t v) (h:DataW.Trod enc' P w 0 sp held t v d ps) (i:Nat):∃y:den s,Rep (v0 el G1 w) (D6 i s y) v∧(M t d→SmS R s y):=by
 obtain⟨fuel,h⟩:=h
 simp only [Biw,Zb1] at hs
 obtain⟨hc,hs⟩:=hs
 obtain⟨ds,hsh,hr,hsm⟩:=Asg hM hT hrd hsb fuel t _ _ hc h
 have hsm:M t d→∀d,d∈ds→SmD R d:=hsm
 split at hs
 ·rename_i k k' hty
  simp only [Zg1] at hs
  subst hs
  obtain⟨n,rfl⟩:=WideShapes.okWide_int (Sx.tyI_spec (Alt (hT t) hty)) hval
  simp only [hty,zc,Ty.zero,cells] at hsh
  obtain⟨b,m,rfl,h1,h2⟩:=Abc hsh
  obtain rfl:=Aen h2
  obtain⟨n',rfl⟩:=A38 h1
  simp only [Value.cells,Reps] at hr
  obtain⟨u,us,e,hr,_⟩:=hr
  simp only [Ze2] at e
  obtain⟨rfl,_⟩:=e
  exact⟨n',hr,fun _=>trivial⟩
 ·rename_i hty
  obtain⟨n,rfl⟩:=WideShapes.okWide_bool (Sx.tyB_spec (Ahs (hT t) hty)) hval
  exact⟨n,by simp only [D6,Rep],fun _=>trivial⟩
 ·rename_i hty
  obtain⟨n,rfl⟩:=WideShapes.okWide_string (Sx.tyS_spec (J1 (hT t) hty)) hval
  simp only [hty,zc,Ty.zero,cells] at hsh
  obtain⟨b,m,rfl,h1,h2⟩:=Abc hsh
  obtain rfl:=Aen h2
  obtain⟨n',rfl⟩:=A48 h1
  simp only [Value.cells,Reps] at hr
  obtain⟨u,us,e,hr,_⟩:=hr
  simp only [Ze2] at e
  obtain⟨rfl,_⟩:=e
  exact⟨n',hr,fun hwt=>hsm hwt (.str n') (by simp)⟩
 ·rename_i c c' hty
  simp only [Zg1] at hs
  subst hs
  obtain⟨by_,hE,_,_⟩:=E0 (hT t) hty
  have hv:v.cells.toList=[v]:=by
   have hu:=hE.und
   simp only [Value.okWide,hu,Cell.okWide] at hval
   cases v<;>first|rfl|(simp [Cell.ok,hu] at hval;done)|(exfalso;simp_all [Cell.ok])
  rw [hv] at hr
  simp only [hty,zc,Ty.zero,cells] at hsh
  obtain⟨b,m,rfl,h1,h2⟩:=Abc hsh
  obtain rfl:=Aen h2
  obtain⟨ys,u,rfl⟩:=Bft h1
  simp only [Reps] at hr
  obtain⟨u',us,e,hr,_⟩:=hr
  simp only [Ze2] at e
  obtain⟨rfl,_⟩:=e
  refine⟨ys,?_,fun hwt=>hsm hwt (.sl c ys u) (by simp)⟩
  simp only [D6,Rep] at hr ⊢
  exact⟨hr.1,trivial⟩
 ·rename_i c fs z c' hty
  simp only [Zb1,Zg1] at hs
  obtain⟨⟨rfl,ha⟩,hdec⟩:=hs
  obtain⟨y,hy⟩:=Aq6 hdec hsh
  have hE:=Y0 hy hr
  have hv:∃cs,v = .agg cs:=by
   have hok:=hT t
   unfold Eu at hok
   rw [hty] at hok
   simp only [Zb1] at hok
   have hfl:=hok.2
   split at hfl
   ·rename_i fds hu
    simp only [Value.okWide,hu] at hval
    obtain⟨cs,h1,_⟩:=hval
    exact⟨cs,h1⟩
   ·cases hfl
  obtain⟨cs,rfl⟩:=hv
  refine⟨y,?_,fun hwt=>Bd6 hy (hsm hwt)⟩
  simp only [D6,Rep]
  exact⟨ha,cs.toList,by simp,by simpa [Value.cells] using hE.1,by simpa [Value.cells] using hE.2⟩
 ·cases hs
def Arb(tt:Nat→Ty) (rd:List Nat):List TypeId→List Sg→Bool
 |[],[]=>true
 |t::ts,s::ss=>Biw tt rd t s&&Arb tt rd ts ss
 |_,_=>false
theorem Aw3{R:Nat×Nat}{M:TypeId→DataW H→Prop}(hM:Msr P R M) (hT:∀t,Eu P el tt t=true) (hrd:rdB el tt rd=true) (hsb:szB P el tt rd=true) {r:Reach}{b0:Nat}:∀{ts:List TypeId}{sa:List Sg}{vs:List Value}{ds:List (DataW H)}{ps:List MemPlace}(i:Nat),Arb tt rd ts sa=true→(∀(j:Nat) t v,ts[j]? = some t→vs[j]? = some v→Value.okWide P w r b0 t v)→DataW.TrodAll enc' P w 0 sp held ts vs ds ps→∃x:HV sa,Reps (v0 el G1 w) (De i sa x) vs∧((∀(i:Nat) (t:TypeId) (d:DataW H),ts[i]? = some t→ds[i]? = some d→M t d)→SmL R sa x)
 |[],[],vs,ds,ps,i,_,_,h=>by
  cases vs with
  |nil=>exact⟨(),by simp [De,Reps],fun _=>trivial⟩
  |cons v vs=>cases ds<;>simp [DataW.TrodAll] at h
 |t::ts,[],_,_,_,_,hs,_,_=>by simp [Arb] at hs
 |[],s::ss,_,_,_,_,hs,_,_=>by simp [Arb] at hs
 |t::ts,s::ss,vs,ds,ps,i,hs,hval,h=>by
  simp only [Arb,Zb1] at hs
  obtain⟨v,vs',d,ds',p,q,rfl,rfl,rfl,hd,hrest⟩:=trodAll_cons h
  obtain⟨y,hy,hsy⟩:=Bib hM hT hrd hsb hs.1 (hval 0 t v rfl rfl) hd i
  obtain⟨z,hz,hsz⟩:=Aw3 hM hT hrd hsb (i+1) hs.2 (fun j t' v' h1 h2=>hval (j+1) t' v' (by simpa using h1) (by simpa using h2)) hrest
  cases ss with
  |nil =>
   refine⟨y,?_,fun hwt=>hsy (hwt 0 t d rfl rfl)⟩
   simp only [De,Reps] at hz ⊢
   exact⟨v,vs',rfl,hy,hz⟩
  |cons s' ss =>
   refine⟨(y,z),?_,fun hwt=>⟨hsy (hwt 0 t d rfl rfl),hsz fun j t' d' h1 h2=>hwt (j+1) t' d' (by simpa using h1) (by simpa using h2)⟩⟩
   simp only [De,Reps]
   exact⟨v,vs',rfl,hy,hz⟩
theorem Arf(hl:laidOutB P=true) {W W':World}(hb:Below W.heap.size W W'):∀{ts:List TypeId}{vs:List Value}{ds:List (DataW H)}{ps:List MemPlace},(∀t,t∈ts→P.readableRec t=true∧t<P.types.size)→(∀x∈ps,x.block<W.heap.size)→DataW.TrodAll enc' P W 0 (fun _=>true) true ts vs ds ps→DataW.TrodAll enc' P W' 0 (fun b=>decide (b<W.heap.size)) true ts vs ds ps
 |[],vs,ds,ps,_,_,h=>by
  cases vs<;>cases ds<;>simp [DataW.TrodAll] at h ⊢
  exact h
 |t::ts,vs,ds,ps,ht,hlt,h=>by
  obtain⟨v,vs',d,ds',p,q,rfl,rfl,rfl,hd,hrest⟩:=trodAll_cons h
  obtain⟨h1,h2⟩:=ht t (by simp)
  exact⟨p,q,Below.trod hl h1 h2 hd hb (fun x hx=>hlt x (by simp [hx])),Arf hl hb (fun t' h'=>ht t' (by simp [h'])) (fun x hx=>hlt x (by simp [hx])) hrest,rfl⟩
end
end Go.Ax
namespace Go.Proofs.YthndhaolemgbdaaGreatDoor
open Go.Ax
def B0:Int:=20000000000000
mutual
theorem Ow{R:Nat×Nat}(hR:R.1≤R47):∀(n:Nat) (e:Xpr) (most:Int),Bx e≤n→SmExpr R e→1≤most→most≤600→1≤Cz e most∧Cz e most≤most+B0∧(Cz e most<most→(Bx e:Int)≤2*Cz e most-1)
 |0,e,_,h,_,_,_=>by have:=F2 e;omega
 |n+1,.mk k v nm l,most,h,hs,h1,h4=>by
  cases hs with
  |mk _ _ _ _ s1 s2 _ s3 =>
   simp only [Ao3,R47] at s1 s2 hR
   have e1:wr .i64 ((v.s.length:Int)+(nm.length:Int))=((v.s.length+nm.length:Nat):Int):=by rw [Jt (by simp only [inI];omega)];omega
   have e2:Int.tdiv ((v.s.length+nm.length:Nat):Int) 30=(((v.s.length+nm.length) / 30:Nat):Int):=rfl
   have e3:wr .i64 (((v.s.length+nm.length) / 30:Nat):Int)=(((v.s.length+nm.length) / 30:Nat):Int):=Jt (by simp only [inI];omega)
   have e4:wr .i64 (1+(((v.s.length+nm.length) / 30:Nat):Int))=1+(((v.s.length+nm.length) / 30:Nat):Int):=Jt (by simp only [inI];omega)
   have hz:Bx (.mk k v nm l)=1+esizes l:=Hz _
   simp only [Cz,e1,e2,e3,e4]
   obtain⟨q1,q2,q3⟩:=muchL_size hR n l most (1+(((v.s.length+nm.length) / 30:Nat):Int)) (by omega) s3 h4 (by omega) (by simp only [B0];omega)
   exact⟨by omega,q2,fun h=>by have:=q3 h;omega⟩
theorem muchL_size{R:Nat×Nat}(hR:R.1≤R47):∀(n:Nat) (l:List Xpr) (most m:Int),esizes l≤n→(∀x,x∈l→SmExpr R x)→most≤600→1≤m→m≤most+B0→m≤muchL l most m∧muchL l most m≤most+B0∧(muchL l most m<most→2*m+(esizes l:Int)≤2*muchL l most m)
 |n,[],most,m,_,_,_,h1,h2=>by simp only [muchL,esizes];omega
 |n,x::l,most,m,h,hs,h4,h1,h2=>by
  simp only [muchL]
  by_cases hm:m<most
  ·rw [Ze1 hm,Ai]
   have hx:=F2 x
   simp only [esizes] at h
   have w1:wr .i64 (most-m)=most-m:=Jt (by simp only [inI];omega)
   obtain⟨a1,a2,a3⟩:=Ow hR n x (most-m) (by omega) (hs x (.head _)) (by omega) (by omega)
   have w2:wr .i64 (m+Cz x (most-m))=m+Cz x (most-m):=Jt (by simp only [inI,B0] at *;omega)
   obtain⟨b1,b2,b3⟩:=muchL_size hR n l most (m+Cz x (most-m)) (by omega) (fun y hy=>hs y (.tail _ hy)) h4 (by omega) (by omega)
   rw [w1,w2]
   refine⟨by omega,b2,fun hlt =>?_⟩
   have c1:=b3 hlt
   have c2:=a3 (by omega)
   simp only [esizes]
   omega
  ·rw [Zd1 hm,Ak]
   exact⟨Int.le_refl _,h2,fun h=>absurd h hm⟩
end
def bare(l:List Xpr):Xpr :=.mk 0 ⟨0,0,[]⟩ [] l
theorem A6a{R:Nat×Nat}{l:List Xpr}(h:l.length≤R.2∧∀x,x∈l→SmExpr R x):SmExpr R (bare l) :=.mk _ _ _ _ (by simp [Ao3]) (by simp) h.1 h.2
def rmR:List (List Xpr)→Int→Int→Int
 |[],_,n=>n
 |r::l,most,n=>cond (decide (n<most)) (rmR l most (wr .i64 (n+Cz (bare r) most))) n
def rmS:List SetE→Int→Int→Int
 |[],_,n=>n
 |x::l,most,n=>cond (decide (n<most)) (rmS l most (wr .i64 (n+Cz x.e most))) n
def rmN:List Str→Int→Int→Int
 |[],_,n=>n
 |x::l,most,n=>cond (decide (n<most)) (rmN l most (wr .i64 (n+wr .i64 (Int.tdiv (x.length:Int) 30)))) n
def n0(s:Stm) (most:Int):Int:=wr .i64 (wr .i64 (wr .i64 (wr .i64 (wr .i64 (wr .i64 ((s.cols.length:Int)+(s.names.length:Int))+(s.order.length:Int))+(s.desc.length:Int))+wr .i64 (Int.tdiv (wr .i64 ((s.name.length:Int)+(s.on.length:Int))) 30))+Cz s.whr most)+Cz (bare s.l) most)
def Adu:Sig:=⟨110,[(1,.int .i64),(5,.int .i64),(8,.int .i64)],[(2,.ptr 0 0)],[(0,.one (.sv .stmt))],1,0,0,[],[]⟩
abbrev Ld:=Int×Int×Int×Stm
def Vi{R:Type}(rec:Ld→Option R) (kx:Ex→Ld→Option R) (v:Ld):Option R:=match v with
 |(v14,v15,v16,w2) =>
 cond (decide (v16<(w2.names.length:Int))) (
  cond (decide (v15<v14)) (
  chk (inb v16 w2.names.length) (
   rec (v14,(wr .i64 (v15+(wr .i64 (Int.tdiv ((at' .str w2.names v16).length:Int) 30)))),(wr .i64 (v16+1)),w2))) (
  kx (.exit 4) (v14,v15,v16,w2))) (
  kx (.exit 4) (v14,v15,v16,w2))
def Ac5:Sig:=⟨110,[(1,.int .i64),(5,.int .i64),(7,.int .i64)],[(2,.ptr 0 0)],[(0,.one (.sv .stmt))],1,0,0,[],[]⟩
abbrev K9:=Int×Int×Int×Stm
def W0{R:Type}(rec:K9→Option R) (kx:Ex→K9→Option R) (v:K9):Option R:=match v with
 |(v7,v8,v9,w1) =>
 cond (decide (v9<(w1.sets.length:Int))) (
  cond (decide (v8<v7)) (
  chk (inb v9 w1.sets.length) (
   rec (v7,(wr .i64 (v8+(Cz (Ng ((at' .set w1.sets v9).e)) v7))),(wr .i64 (v9+1)),w1))) (
  kx (.exit 2) (v7,v8,v9,w1))) (
  kx (.exit 2) (v7,v8,v9,w1))
def Aej:Sig:=⟨110,[(1,.int .i64),(5,.int .i64),(6,.int .i64)],[(2,.ptr 0 0)],[(0,.one (.sv .stmt))],1,0,0,[],[]⟩
abbrev Lb:=Int×Int×Int×Stm
def Xe{R:Type}(rec:Lb→Option R) (kx:Ex→Lb→Option R) (v:Lb):Option R:=match v with
 |(v,v1,v2,w) =>
 cond (decide (v2<(w.rows.length:Int))) (
  cond (decide (v1<v)) (
  chk (inb v2 w.rows.length) (
   rec (v,(wr .i64 (v1+(Cz (Xpr.mk 0 ⟨0,0,[]⟩ [] (at' .exprs w.rows v2)) v))),(wr .i64 (v2+1)),w))) (
  kx (.exit 0) (v,v1,v2,w))) (
  kx (.exit 0) (v,v1,v2,w))
def Ha(R:Type) (k:Nat):Px R:=⟨Bd ttL,glT,Au [(12,As [.sv .expr,.int .i64] [.int .i64] Ajy)],Am [(12,Abu [.sv .expr,.int .i64] [.int .i64] Ajy)],Aw [(3,Be k Aej (Xe)),(7,Be k Ac5 (W0)),(11,Be k Adu (Vi))],tbl []⟩
theorem Azd(R:Type) (k:Nat):∀(fr:List Fr) (rec:Lb→Option R) (kx:Ex→Lb→Option R) (v:Lb),Bn (Ha R k) Aej (lp Tryz.f22 0) fr rec kx v=Xe rec kx v
 |fr,rec,kx,(v,v1,v2,w)=>by kernel_rfl
theorem A22(R:Type) (k:Nat):∀(fr:List Fr) (rec:K9→Option R) (kx:Ex→K9→Option R) (v:K9),Bn (Ha R k) Ac5 (lp Tryz.f22 1) fr rec kx v=W0 rec kx v
 |fr,rec,kx,(v7,v8,v9,w1)=>by kernel_rfl
theorem Azk(R:Type) (k:Nat):∀(fr:List Fr) (rec:Ld→Option R) (kx:Ex→Ld→Option R) (v:Ld),Bn (Ha R k) Adu (lp Tryz.f22 2) fr rec kx v=Vi rec kx v
 |fr,rec,kx,(v14,v15,v16,w2)=>by kernel_rfl
def Adq(k:Nat) (x:HV [.sv .stmt,.int .i64]):Option (HV [.int .i64]):=match x with
 |(s,most) =>
 A0 (fun rec=>Xe rec (fun e vz=>match vz with|(v3,v4,_,v6)=>match e with
  |.exit 0 =>
  A0 (fun rec=>W0 rec (fun e vz=>match vz with|(v10,v11,_,v13)=>match e with
   |.exit 2 =>
   A0 (fun rec=>Vi rec (fun e vz=>match vz with|(_,v18,_,_)=>match e with
    |.exit 4 =>
    some v18
    |_=>none)) k (v10,v11,0,v13)
   |_=>none)) k (v3,v4,0,v6)
  |_=>none)) k (most,(wr .i64 ((wr .i64 ((wr .i64 ((wr .i64 ((wr .i64 ((wr .i64 ((s.cols.length:Int)+(s.names.length:Int)))+(s.order.length:Int)))+(s.desc.length:Int)))+(wr .i64 (Int.tdiv (wr .i64 ((s.name.length:Int)+(s.on.length:Int))) 30))))+(Cz (Ng s.whr) most)))+(Cz (Xpr.mk 0 ⟨0,0,[]⟩ [] s.l) most))),0,s)
theorem Bdm(k:Nat):∀(x:HV [.sv .stmt,.int .i64]),Cs (Ha _ k) Tryz.f22 [.sv .stmt,.int .i64] [.int .i64] x some=Adq k x
 |(s,most)=>by kernel_rfl
theorem A97(k:Nat):FnOk Tryz.prog elT glT 22 [.sv .stmt,.int .i64] [.int .i64] (Adq k):=by
 refine A3 Tryz.func22 rfl (by kernel_rfl) follows (by kernel_rfl) (n:=3) (by kernel_rfl) (px:=Ha _ k) (fun cx hP hel hgl =>?_) (Bdm k)
 have hp0:PxOk cx (Ha (HV [.int .i64]) k):=⟨fun t=>by rw [hP,hel];exact Av An t,by rw [hgl];rfl⟩
 have hc0:Al cx (Ha (HV [.int .i64]) k):=Af rfl (Aa (A7 (by rw [hP,hel,hgl];exact Amj) (by kernel_rfl)) Aj)
 have hq0:CallQOk cx (Ha (HV [.int .i64]) k):=Ab rfl rfl (Ahf (A2x (by rw [hP,hel,hgl];exact Amj) (by kernel_rfl)) Ah) Ae
 have hlrmuch_0:A8 cx (Ha (HV [.int .i64]) k) (lp Tryz.f22 0):=Ba hp0 hc0 hq0 (by rw [hP];exact follows) (k:=k) (s:=Aej) (step:=Xe) (fun _ _=>by kernel_rfl) (by kernel_rfl) (Azd _ k) (Az (n:=0) (by kernel_rfl) Ay)
 have hlrmuch_1:A8 cx (Ha (HV [.int .i64]) k) (lp Tryz.f22 1):=Ba hp0 hc0 hq0 (by rw [hP];exact follows) (k:=k) (s:=Ac5) (step:=W0) (fun _ _=>by kernel_rfl) (by kernel_rfl) (A22 _ k) (Az (n:=0) (by kernel_rfl) Ay)
 have hlrmuch_2:A8 cx (Ha (HV [.int .i64]) k) (lp Tryz.f22 2):=Ba hp0 hc0 hq0 (by rw [hP];exact follows) (k:=k) (s:=Adu) (step:=Vi) (fun _ _=>by kernel_rfl) (by kernel_rfl) (Azk _ k) (Az (n:=0) (by kernel_rfl) Ay)
 exact⟨hp0,hc0,hq0,(Cj (Cj (Cj Ay hlrmuch_0) hlrmuch_1) hlrmuch_2)⟩
def Axr(s:Stm) (most:Int):Int:=rmN s.names most (rmS s.sets most (rmR s.rows most (n0 s most)))
def Ar6:FT [.sv .stmt,.int .i64] [.int .i64]:=fun x=>some (Axr x.1 x.2)
theorem Ar8{R:Type}{kx:Ex→Lb→Option R}{s:Stm}{most:Int}{c:Int→Option R}(hn:ln s.rows.length) (h2:∀n i,kx (.exit 0) (most,n,i,s)=c n) (k:Nat) (hk:s.rows.length<k) (n:Int) :
  A0 (fun rec=>Xe rec kx) k (most,n,0,s)=c (rmR s.rows most n):=by
 refine(Nn s.rows.length (fun i n=>(most,n,(i:Int),s)) (fun _ _=>True) (fun i n=>c (rmR (s.rows.drop i) most n)) (fun i hi n _ rec hr =>?_) (fun n _ rec =>?_) k 0 n (Nat.zero_le _) (by omega) trivial).trans (by rw [Zq1])
 ·have hr:=hr (wr .i64 (n+Cz (bare s.rows[i]) most)) trivial
  simp only [Xe,Gm hi,Ai,Bl hi,chk,Bk (c :=.exprs) hi,Bf hi hn,Bb hi,rmR,h2]
  cases decide (n<most) with
  |false=>rfl
  |true=>exact hr
 ·simp only [Xe,Gh,Ak,h2]
  rw [Zk1 (Zn1 _)]
  rfl
theorem As6{R:Type}{kx:Ex→K9→Option R}{s:Stm}{most:Int}{c:Int→Option R}(hn:ln s.sets.length) (h2:∀n i,kx (.exit 2) (most,n,i,s)=c n) (k:Nat) (hk:s.sets.length<k) (n:Int) :
  A0 (fun rec=>W0 rec kx) k (most,n,0,s)=c (rmS s.sets most n):=by
 refine(Nn s.sets.length (fun i n=>(most,n,(i:Int),s)) (fun _ _=>True) (fun i n=>c (rmS (s.sets.drop i) most n)) (fun i hi n _ rec hr =>?_) (fun n _ rec =>?_) k 0 n (Nat.zero_le _) (by omega) trivial).trans (by rw [Zq1])
 ·have hr:=hr (wr .i64 (n+Cz s.sets[i].e most)) trivial
  simp only [W0,Gm hi,Ai,Bl hi,chk,Bk (c :=.set) hi,Bf hi hn,Bb hi,rmS,h2,H7]
  cases decide (n<most) with
  |false=>rfl
  |true=>exact hr
 ·simp only [W0,Gh,Ak,h2]
  rw [Zk1 (Zn1 _)]
  rfl
theorem Ar2{R:Type}{kx:Ex→Ld→Option R}{s:Stm}{most:Int}{c:Int→Option R}(hn:ln s.names.length) (h2:∀n i,kx (.exit 4) (most,n,i,s)=c n) (k:Nat) (hk:s.names.length<k) (n:Int) :
  A0 (fun rec=>Vi rec kx) k (most,n,0,s)=c (rmN s.names most n):=by
 refine(Nn s.names.length (fun i n=>(most,n,(i:Int),s)) (fun _ _=>True) (fun i n=>c (rmN (s.names.drop i) most n)) (fun i hi n _ rec hr =>?_) (fun n _ rec =>?_) k 0 n (Nat.zero_le _) (by omega) trivial).trans (by rw [Zq1])
 ·have hr:=hr (wr .i64 (n+wr .i64 (Int.tdiv (s.names[i].length:Int) 30))) trivial
  simp only [Vi,Gm hi,Ai,Bl hi,chk,Bk (c :=.str) hi,Bf hi hn,Bb hi,rmN,h2]
  cases decide (n<most) with
  |false=>rfl
  |true=>exact hr
 ·simp only [Vi,Gh,Ak,h2]
  rw [Zk1 (Zn1 _)]
  rfl
theorem Bc1:FnOk Tryz.prog elT glT 22 [.sv .stmt,.int .i64] [.int .i64] Ar6 :=.fin 0 A97 fun(s,most) r hb hx=>⟨s.rows.length+s.sets.length+s.names.length+1,by
 have hb:=hb.1
 simp only [Ar6,Za1] at hx
 rw [←hx]
 simp only [Adq,H7]
 refine(Ar8 (c:=fun n=>some (rmN s.names most (rmS s.sets most n))) hb.rows.1 (fun n i =>?_) _ (by omega) _).trans rfl
 refine(As6 (c:=fun n=>some (rmN s.names most n)) hb.sets.1 (fun n i =>?_) _ (by omega) _).trans rfl
 exact Ar2 (c:=some) hb.names.1 (fun n i=>rfl) _ (by omega) _⟩
theorem Ax2{R:Nat×Nat}(hR:R.1≤R47):∀(l:List (List Xpr)) (n:Int),0≤n→n≤1000000000000000→(∀r,r∈l→r.length≤R.2∧∀x,x∈r→SmExpr R x)→n≤rmR l 600 n∧rmR l 600 n≤1000000000000000∧(rmR l 600 n<600→n+(l.length:Int)≤rmR l 600 n∧∀r,r∈l→esizes r≤1200)
 |[],n,_,h,_=>⟨Int.le_refl _,h,fun _=>⟨by simp [rmR],fun r hr=>by cases hr⟩⟩
 |r::l,n,h0,h1,hs=>by
  simp only [rmR]
  by_cases hn:n<600
  ·have hm:=Ow hR (Bx (bare r)) (bare r) 600 (Zn1 _) (A6a (hs r Zr1)) (by omega) (by omega)
   simp only [B0] at hm
   have w:wr .i64 (n+Cz (bare r) 600)=n+Cz (bare r) 600:=Jt (by simp only [inI];omega)
   rw [Ze1 hn,Ai,w]
   have ih:=Ax2 hR l (n+Cz (bare r) 600) (by omega) (by omega) (fun q hq=>hs q (Zu1 _ hq))
   refine⟨by omega,ih.2.1,fun h =>?_⟩
   obtain⟨h3,h4⟩:=ih.2.2 h
   refine⟨by simp only [Zf1];omega,fun q hq =>?_⟩
   rcases List.mem_cons.1 hq with rfl|hq
   ·have hz:Bx (bare q)=1+esizes q:=Hz _
    have:=hm.2.2 (by omega)
    omega
   ·exact h4 q hq
  ·rw [Zd1 hn,Ak]
   exact⟨Int.le_refl _,h1,fun h=>absurd h hn⟩
theorem Av3{R:Nat×Nat}(hR:R.1≤R47):∀(l:List SetE) (n:Int),0≤n→n≤1000000000000000→(∀x,x∈l→SmExpr R x.e)→n≤rmS l 600 n∧rmS l 600 n≤1000000000000000∧(rmS l 600 n<600→n+(l.length:Int)≤rmS l 600 n∧∀x,x∈l→Bx x.e≤1200)
 |[],n,_,h,_=>⟨Int.le_refl _,h,fun _=>⟨by simp [rmS],fun r hr=>by cases hr⟩⟩
 |x::l,n,h0,h1,hs=>by
  simp only [rmS]
  by_cases hn:n<600
  ·have hm:=Ow hR (Bx x.e) x.e 600 (Zn1 _) (hs x Zr1) (by omega) (by omega)
   simp only [B0] at hm
   have w:wr .i64 (n+Cz x.e 600)=n+Cz x.e 600:=Jt (by simp only [inI];omega)
   rw [Ze1 hn,Ai,w]
   have ih:=Av3 hR l (n+Cz x.e 600) (by omega) (by omega) (fun q hq=>hs q (Zu1 _ hq))
   refine⟨by omega,ih.2.1,fun h =>?_⟩
   obtain⟨h3,h4⟩:=ih.2.2 h
   refine⟨by simp only [Zf1];omega,fun q hq =>?_⟩
   rcases List.mem_cons.1 hq with rfl|hq
   ·have:=hm.2.2 (by omega)
    omega
   ·exact h4 q hq
  ·rw [Zd1 hn,Ak]
   exact⟨Int.le_refl _,h1,fun h=>absurd h hn⟩
theorem Avw:∀(l:List Str) (n:Int),0≤n→n≤1000000000000000→(∀x,x∈l→x.length≤R47)→n≤rmN l 600 n
 |[],n,_,_,_=>Int.le_refl _
 |x::l,n,h0,h1,hs=>by
  simp only [rmN]
  by_cases hn:n<600
  ·have hx:=hs x Zr1
   simp only [R47] at hx
   have e2:Int.tdiv (x.length:Int) 30=((x.length / 30:Nat):Int):=rfl
   have e3:wr .i64 ((x.length / 30:Nat):Int)=((x.length / 30:Nat):Int):=Jt (by simp only [inI];omega)
   have w:wr .i64 (n+((x.length / 30:Nat):Int))=n+((x.length / 30:Nat):Int):=Jt (by simp only [inI];omega)
   rw [Ze1 hn,Ai,e2,e3,w]
   have ih:=Avw l (n+((x.length / 30:Nat):Int)) (by omega) (by omega) (fun q hq=>hs q (Zu1 _ hq))
   omega
  ·rw [Zd1 hn,Ak]
   exact Int.le_refl _
structure Few (s:Stm):Prop where
 cols:s.cols.length≤3100
 names:s.names.length≤3100
 order:s.order.length≤3100
 desc:s.desc.length≤3100
 name:s.name.length+s.on.length≤20000
 whr:Bx s.whr≤6200
 l:esizes s.l≤6200
 rows:s.rows.length≤3100∧∀r,r∈s.rows→esizes r≤6200
 sets:s.sets.length≤3100∧∀x,x∈s.sets→Bx x.e≤6200
theorem A80{s:Stm}(hs:SmStm (R47,R47) s) (h:Axr s 600<600):Few s:=by
 have hw:=Ow (R:=(R47,R47)) (Zn1 _) (Bx s.whr) s.whr 600 (Zn1 _) hs.whr (by omega) (by omega)
 have hl:=Ow (R:=(R47,R47)) (Zn1 _) (Bx (bare s.l)) (bare s.l) 600 (Zn1 _) (A6a hs.l) (by omega) (by omega)
 have hz:Bx (bare s.l)=1+esizes s.l:=Hz _
 have c1:=hs.cols.1
 have c2:=hs.names.1
 have c3:=hs.order.1
 have c4:=hs.desc
 have c5:=hs.name
 have c6:=hs.on
 simp only [R47] at c1 c2 c3 c4 c5 c6
 simp only [B0] at hw hl
 have e1:wr .i64 ((s.cols.length:Int)+(s.names.length:Int))=(s.cols.length:Int)+(s.names.length:Int):=Jt (by simp only [inI];omega)
 have e2:wr .i64 ((s.cols.length:Int)+(s.names.length:Int)+(s.order.length:Int))=(s.cols.length:Int)+(s.names.length:Int)+(s.order.length:Int):=Jt (by simp only [inI];omega)
 have e3:wr .i64 ((s.cols.length:Int)+(s.names.length:Int)+(s.order.length:Int)+(s.desc.length:Int))=(s.cols.length:Int)+(s.names.length:Int)+(s.order.length:Int)+(s.desc.length:Int):=Jt (by simp only [inI];omega)
 have e4:wr .i64 ((s.name.length:Int)+(s.on.length:Int))=((s.name.length+s.on.length:Nat):Int):=by rw [Jt (by simp only [inI];omega)];omega
 have e5:Int.tdiv ((s.name.length+s.on.length:Nat):Int) 30=(((s.name.length+s.on.length) / 30:Nat):Int):=rfl
 have e6:wr .i64 (((s.name.length+s.on.length) / 30:Nat):Int)=(((s.name.length+s.on.length) / 30:Nat):Int):=Jt (by simp only [inI];omega)
 have e7:wr .i64 ((s.cols.length:Int)+(s.names.length:Int)+(s.order.length:Int)+(s.desc.length:Int)+(((s.name.length+s.on.length) / 30:Nat):Int))=(s.cols.length:Int)+(s.names.length:Int)+(s.order.length:Int)+(s.desc.length:Int)+(((s.name.length+s.on.length) / 30:Nat):Int):=Jt (by simp only [inI];omega)
 have e8:wr .i64 ((s.cols.length:Int)+(s.names.length:Int)+(s.order.length:Int)+(s.desc.length:Int)+(((s.name.length+s.on.length) / 30:Nat):Int)+Cz s.whr 600)=(s.cols.length:Int)+(s.names.length:Int)+(s.order.length:Int)+(s.desc.length:Int)+(((s.name.length+s.on.length) / 30:Nat):Int)+Cz s.whr 600:=Jt (by simp only [inI];omega)
 have e9:wr .i64 ((s.cols.length:Int)+(s.names.length:Int)+(s.order.length:Int)+(s.desc.length:Int)+(((s.name.length+s.on.length) / 30:Nat):Int)+Cz s.whr 600+Cz (bare s.l) 600)=(s.cols.length:Int)+(s.names.length:Int)+(s.order.length:Int)+(s.desc.length:Int)+(((s.name.length+s.on.length) / 30:Nat):Int)+Cz s.whr 600+Cz (bare s.l) 600:=Jt (by simp only [inI];omega)
 have e0:n0 s 600=(s.cols.length:Int)+(s.names.length:Int)+(s.order.length:Int)+(s.desc.length:Int)+(((s.name.length+s.on.length) / 30:Nat):Int)+Cz s.whr 600+Cz (bare s.l) 600:=by
  simp only [n0,e1,e2,e3,e4,e5,e6,e7,e8,e9]
 have hr:=Ax2 (R:=(R47,R47)) (Zn1 _) s.rows (n0 s 600) (by omega) (by omega) hs.rows.2
 have hst:=Av3 (R:=(R47,R47)) (Zn1 _) s.sets (rmR s.rows 600 (n0 s 600)) (by omega) (by omega) (fun x hx=>(hs.sets.2 x hx).2)
 have hn:=Avw s.names (rmS s.sets 600 (rmR s.rows 600 (n0 s 600))) (by omega) (by omega) hs.names.2
 simp only [Axr] at h
 have hst2:=hst.2.2 (by omega)
 have hr2:=hr.2.2 (by omega)
 have hw2:=hw.2.2 (by omega)
 have hl2:=hl.2.2 (by omega)
 exact⟨by omega,by omega,by omega,by omega,by omega,by omega,by omega,⟨by omega,fun r hr=>Nat.le_trans (hr2.2 r hr) (by decide)⟩,⟨by omega,fun x hx=>Nat.le_trans (hst2.2 x hx) (by decide)⟩⟩
end Go.Proofs.YthndhaolemgbdaaGreatDoor
namespace Go.Proofs.YthndhaolemgbdaaGreatDoor
open Go.Ax
theorem Avc{n:Int}(h:inI n):(Awt n).length≤21:=by
 have hd:(N8 n.natAbs).length≤20:=Amc 20 _ (by
  simp only [inI] at h
  have:pw 20=100000000000000000000:=by kernel_rfl
  omega)
 have ht:(if n=0 then([48]:Str) else txt (N8 n.natAbs)).length≤20:=by
  split
  ·simp
  ·rw [A49];exact hd
 unfold Awt
 simp only
 split
 ·simp only [Zf1];omega
 ·omega
theorem A6u{v:Val}(h:Cy v=true) (hn:inI v.n):(B8 v).length≤2003:=by
 simp only [B8,h,Ai]
 split
 ·split<;>simp
 ·split
  ·have:=Avc hn
   omega
  ·split
   ·rename_i h4
    have h1:=S8 h (.inl h4)
    have h2:=Auc v.s
    simp only [Zf1,Zh1,Zi1];omega
   ·split
    ·rename_i h5
     have h1:=S8 h (.inr h5)
     have h2:=Ano v.s
     simp only [Zf1,Zh1,Zi1];omega
    ·simp
theorem J5{s:Str}(h:B1 s=true):s.length≤30:=by
 have h:Lp.nameF s=true:=h
 simp only [Lp.nameF,Zb1,Zg1] at h
 omega
theorem Bje{k:Int}(h:Ams k):(sgn k).length≤3:=by
 simp only [Ams] at h
 have:k=4∨k=5∨k=6∨k=7∨k=8∨k=9∨k=10∨k=11∨k=12∨k=13∨k=14:=by omega
 rcases this with rfl|rfl|rfl|rfl|rfl|rfl|rfl|rfl|rfl|rfl|rfl<;>decide
theorem Ahq(k:Int) (v:Val) (s:Str) (x:Xpr):Bx (.mk k v s [x])=2+Bx x:=by
 simp only [Bx,esizes];omega
theorem Bba(k:Int) (v:Val) (s:Str) (x y:Xpr):Bx (.mk k v s [x,y])=3+(Bx x+Bx y):=by
 simp only [Bx,esizes];omega
theorem A5i:∀(n:Nat) (e:Xpr) (m:Int),Bx e≤n→Bp e m=true→BdExpr e→(etx e).length≤4000*Bx e
 |0,e,_,h,_,_=>by have:=F2 e;omega
 |n+1,e,m,h,hr,hb=>by
  have ih:∀x,x∈e.l→(etx x).length≤4000*Bx x:=fun x hx=>by
   obtain⟨m',hm⟩:=Aqt hr hx
   refine A5i n x m' ?_ hm ((Ait hb).2 x hx)
   have:=Eg hx
   rw [Hz] at h
   omega
  have sh:=Ayl hr
  cases sh with
  |atom _ hk =>
   obtain⟨_,ho,_⟩:=Hr hr
   have hp:=F2 e
   rw [Azc]
   rcases hk with k1|k2
   ·rw [if_pos k1]
    have:=A6u (A4x ho k1).1 (Bpl hb).1.2.1
    omega
   ·rw [if_neg (by omega),if_pos k2]
    have:=J5 (Awo ho k2).1
    omega
  |not x =>
   have:=ih x Zr1
   rw [A4j,Ahq]
   simp only [Zf1,Zh1,Zi1]
   omega
  |neg x =>
   have:=ih x Zr1
   rw [A36,Ahq]
   simp only [Zf1,Zh1,Zi1]
   omega
  |isn x =>
   have:=ih x Zr1
   rw [A6b,Ahq]
   simp only [Zf1,Zh1,Zi1]
   omega
  |op k x y hk =>
   have h1:=ih x Zr1
   have h2:=ih y (by simp [Xpr.l])
   have h3:=Bje hk
   rw [Bg8 hk,Bba]
   simp only [Zf1,Zh1,Zi1]
   omega
theorem An5{e:Xpr}{m:Int}(hr:Bp e m=true) (hb:BdExpr e):(etx e).length≤4000*Bx e:=A5i (Bx e) e m (Zn1 _) hr hb
theorem Arw{e:Xpr}(hr:Bp e 30=true) (hb:BdExpr e) (hz:Bx e≤10000):Up e=some (etx e,0):=by
 have hl:=An5 hr hb
 simp only [Up,hr,Agq hr,Ai]
 rw [Avi (by simp only [Zi1];omega)]
 rfl
theorem Atb{e:Xpr}(hr:Bp e 30=false):Up e=some ([],2):=by
 simp only [Up,hr,Ak]
theorem Bcg(e:Xpr):Acs e=cond (Bp e 30) 0 2:=by
 simp only [Acs]
 cases Bp e 30<;>rfl
end Go.Proofs.YthndhaolemgbdaaGreatDoor
namespace Go.Proofs.YthndhaolemgbdaaGreatDoor
open Go.Ax
theorem Ayi{α:Type}(f : α→Str) (B:Nat):∀l:List α,(∀x,x∈l→(f x).length≤B)→(Fq f l).length≤l.length*(B+2)
 |[],_=>by simp [Fq]
 |x::l,h=>by
  have h1:=h x Zr1
  have h2:=Ayi f B l fun y hy=>h y (Zu1 _ hy)
  simp only [Fq,Zh1,Zf1,Zi1]
  rw [Nat.add_mul]
  omega
theorem Te{α:Type}(f : α→Str) (B:Nat) (l:List α) (h:∀x,x∈l→(f x).length≤B):(Cc f l).length≤l.length*(B+2):=by
 have:=Ayi f B l h
 cases l with
 |nil=>simp [Cc]
 |cons x l =>
  simp only [Fq,Cc,Zh1,Zf1,Zi1] at this ⊢
  omega
theorem Aq4:∀l:List Xpr,(∀x,x∈l→RX x)→(Fq etx l).length≤4002*esizes l
 |[],_=>by simp [Fq]
 |x::l,h=>by
  have hx:=h x Zr1
  have h1:=An5 hx.1 hx.2
  have h2:=Aq4 l fun y hy=>h y (Zu1 _ hy)
  simp only [Fq,esizes,Zh1,Zf1,Zi1]
  omega
theorem Aqq(l:List Xpr) (h:∀x,x∈l→RX x):(Cc etx l).length≤4002*esizes l:=by
 have:=Aq4 l h
 cases l with
 |nil=>simp [Cc]
 |cons x l =>
  simp only [Fq,Cc,Zh1,Zf1,Zi1] at this ⊢
  omega
theorem A42:∀l:List Xpr,(∀x,x∈l→RX x)→((l.map Ak5).flatten).length≤4010*esizes l
 |[],_=>by simp
 |x::l,h=>by
  have hx:=h x Zr1
  have h1:=An5 hx.1 hx.2
  have h2:=A42 l fun y hy=>h y (Zu1 _ hy)
  have h3:(Ak5 x).length≤4000*Bx x+10:=by
   simp only [Ak5]
   cases decide (Jf x.kind=0)<;>simp only [Ai,Ak,Zh1,Zf1,Zi1]<;>omega
  simp only [Zw1,Zz1,Zh1,esizes]
  omega
theorem A45{l:List Str}(h:l.length≤3100) (hn:∀x,x∈l→B1 x=true):(nmT l).length≤200000:=by
 have:=Te (fun x:Str=>x) 30 l fun x hx=>J5 (hn x hx)
 simp only [nmT,Abi,Zh1,Zf1,Zi1]
 omega
theorem A4t{l:List Str}(h:l.length≤3100) (hn:∀x,x∈l→B1 x=true):Am3 l=true:=by
 have:=Te (fun x:Str=>x) 30 l fun x hx=>J5 (hn x hx)
 simp only [Am3,Abi,Zb1,Zg1]
 omega
theorem A76(k:Int):(at' .str kindsL k).length≤5:=by
 have h:∀i,(kindsL.getD i ([]:Str)).length≤5:=fun i=>by
  match i with
  |0|1|2|3|4|5=>decide
  |i+6=>simp [kindsL]
 exact h _
theorem Bgf{c:Col}(h:CX c):(Zx c).length≤100:=by
 obtain⟨h1,h2⟩:=h
 simp only [Xy,Zb1,Zd2,Zg1] at h1
 have h3:=J5 h2
 have h4:=A76 c.kind
 have h5:(cond c.notNull [32,78,79,84,32,78,85,76,76] ([]:Str)).length≤9:=by cases c.notNull<;>simp
 have h6:(cond c.unique [32,85,78,73,81,85,69] ([]:Str)).length≤7:=by cases c.unique<;>simp
 have h7:(cond (decide (c.ref=[])) [] ([32,82,69,70,69,82,69,78,67,69,83,32]++c.ref)).length≤42:=by
  rcases h1.2 with h|h
  ·rw [Ze1 h];simp
  ·have:=J5 h
   cases decide (c.ref=[])<;>simp only [Ai,Ak,Zh1,Zf1,Zi1]<;>omega
 simp only [Zx,Zh1,Zf1,Zi1]
 omega
theorem Ar7{s:Stm}(h:WX s) (hf:Bx s.whr≤6200):(whT s).length≤25000000:=by
 simp only [whT]
 cases hs:s.has with
 |false=>simp
 |true =>
  have hx:=Bd8 h hs
  have:=An5 hx.1 hx.2
  simp only [Ai,Zh1,Zf1,Zi1]
  omega
theorem A3a{s:Stm}(h:WX s):okW s=true:=by
 simp only [okW]
 cases hs:s.has with
 |false=>rfl
 |true=>exact Agq (Bd8 h hs).1
theorem A2m{l:List Xpr}(h:∀x,x∈l→RX x):l.all okx=true:=Zg2.2 fun x hx=>Agq (h x hx).1
theorem Bf3{s:Stm}(h:inI s.most):(Agt s).length≤40:=by
 simp only [Agt]
 cases decide (0≤s.most) with
 |false=>simp
 |true =>
  have:=Avc h
  have e:B8 ⟨3,s.most,[]⟩=Awt s.most:=rfl
  rw [e]
  simp only [Ai,Zh1,Zf1,Zi1]
  omega
theorem Bgq{s:Stm}(h:Ko s=true) (hb:BdStm s) (hf:Few s):okP s=true∧(B2 s).length≤90000000000:=by
 obtain⟨⟨s1,s2⟩,s3⟩:=Al7 h
 have ln:=J5 s1
 rcases s3 with ⟨k,a1,a2,a3,a4,a5⟩|k|⟨k,a1,a2,a3⟩|⟨k,a1,a2⟩|⟨k,a1,a2,a3⟩|⟨k,a1⟩|⟨k,a1,a2,a3,a4,a5⟩
 ·have hx:=Ah7 a5 hb.l
  refine⟨?_,?_⟩
  ·simp only [okP,if_pos k,okT,Zb1]
   refine⟨⟨Zg2.2 fun c hc =>?_,A4t hf.names a4⟩,A2m hx⟩
   have h1:=(a1 c hc).1
   simp only [Xy,Zb1,Zg1] at h1
   simp only [inb,Zb1,Zg1]
   omega
  ·have l1:=Te Zx 100 s.cols fun c hc=>Bgf (a1 c hc)
   have l2:=A45 hf.names a4
   have l3:=A42 s.l hx
   have f1:=hf.cols
   have f2:=hf.l
   simp only [B2,if_pos k,Sn,Zh1,Zf1,Zi1]
   omega
 ·refine⟨?_,?_⟩
  ·simp only [okP,if_neg (show ¬s.kind=1 by omega),if_pos k]
  ·rcases k with k|k<;>simp only [B2,k]<;>simp<;>omega
 ·have l1:=J5 a1
  have l2:=A45 hf.names a3
  refine⟨?_,?_⟩
  ·simp only [okP,if_neg (show ¬s.kind=1 by omega),if_neg (show ¬(s.kind=2∨s.kind=4) by omega),if_pos k,A4t hf.names a3]
  ·simp only [B2,if_neg (show ¬s.kind=1 by omega),if_neg (show ¬s.kind=2 by omega),if_pos k,Zh1,Zf1,Zi1]
   omega
 ·have hx:∀r,r∈s.rows→∀x,x∈r→RX x:=fun r hr=>Ah7 (a2 r hr).2 (hb.rows.2 r hr)
  refine⟨?_,?_⟩
  ·simp only [okP,if_neg (show ¬s.kind=1 by omega),if_neg (show ¬(s.kind=2∨s.kind=4) by omega),if_neg (show ¬s.kind=3 by omega),if_pos k]
   exact Zg2.2 fun r hr=>A2m (hx r hr)
  ·have l1:=Te Aju 25000000 s.rows fun r hr=>by
    have:=Aqq r (hx r hr)
    have:=hf.rows.2 r hr
    simp only [Aju,Zh1,Zf1,Zi1]
    omega
   have f1:=hf.rows.1
   simp only [B2,if_neg (show ¬s.kind=1 by omega),if_neg (show ¬s.kind=2 by omega),if_neg (show ¬s.kind=3 by omega),if_neg (show ¬s.kind=4 by omega),if_pos k,Zh1,Zf1,Zi1]
   omega
 ·have hw:WX s:=⟨a3,hb.whr⟩
  refine⟨?_,?_⟩
  ·simp only [okP,if_neg (show ¬s.kind=1 by omega),if_neg (show ¬(s.kind=2∨s.kind=4) by omega),if_neg (show ¬s.kind=3 by omega),if_neg (show ¬s.kind=5 by omega),if_pos k,A3a hw,Bool.and_true]
   exact Zg2.2 fun x hx=>Agq (a2 x hx).1
  ·have l1:=Te Al0 25000000 s.sets fun x hx=>by
    have:=An5 (a2 x hx).1 (hb.sets.2 x hx).2
    have:=J5 (a2 x hx).2
    have:=hf.sets.2 x hx
    simp only [Al0,Zh1,Zf1,Zi1]
    omega
   have l2:=Ar7 hw hf.whr
   have f1:=hf.sets.1
   simp only [B2,if_neg (show ¬s.kind=1 by omega),if_neg (show ¬s.kind=2 by omega),if_neg (show ¬s.kind=3 by omega),if_neg (show ¬s.kind=4 by omega),if_neg (show ¬s.kind=5 by omega),if_pos k,Zh1,Zf1,Zi1]
   omega
 ·have hw:WX s:=⟨a1,hb.whr⟩
  refine⟨?_,?_⟩
  ·simp only [okP,if_neg (show ¬s.kind=1 by omega),if_neg (show ¬(s.kind=2∨s.kind=4) by omega),if_neg (show ¬s.kind=3 by omega),if_neg (show ¬s.kind=5 by omega),if_neg (show ¬s.kind=6 by omega),if_pos k,A3a hw]
  ·have l2:=Ar7 hw hf.whr
   simp only [B2,if_neg (show ¬s.kind=1 by omega),if_neg (show ¬s.kind=2 by omega),if_neg (show ¬s.kind=3 by omega),if_neg (show ¬s.kind=4 by omega),if_neg (show ¬s.kind=5 by omega),if_neg (show ¬s.kind=6 by omega),if_pos k,Zh1,Zf1,Zi1]
   omega
 ·have hw:WX s:=⟨a2,hb.whr⟩
  have hx:=Ah7 a1 hb.l
  refine⟨?_,?_⟩
  ·simp only [okP,k,okS,A3a hw,A2m hx,a4]
   rfl
  ·have l1:=Aqq s.l hx
   have l2:=Ar7 hw hf.whr
   have l3:=Te Z4 40 (s.order.zip s.desc) fun p hp=>by
    have:=J5 (a3 p.1 (List.of_mem_zip hp).1)
    have h6:(cond p.2 [32,68,69,83,67] ([]:Str)).length≤5:=by cases p.2<;>simp
    simp only [Z4,Zh1]
    omega
   have l4:=Bf3 hb.most
   have l5:(obT s).length≤10:=by
    simp only [obT]
    cases decide (0<(s.order.length:Int))<;>simp
   have l6:(cond (decide ((s.l.length:Int)=0)) [42] ([]:Str)).length≤1:=by cases decide ((s.l.length:Int)=0)<;>simp
   have f1:=hf.order
   have f2:=hf.l
   rw [List.length_zip] at l3
   simp only [B2,if_neg (show ¬s.kind=1 by omega),if_neg (show ¬s.kind=2 by omega),if_neg (show ¬s.kind=3 by omega),if_neg (show ¬s.kind=4 by omega),if_neg (show ¬s.kind=5 by omega),if_neg (show ¬s.kind=6 by omega),if_neg (show ¬s.kind=7 by omega),Ar0,Zh1,Zf1,Zi1]
   omega
theorem Ah3{s:Stm}(hf:Few s):Sz s=some (cond (Ko s) 0 2):=if_pos ⟨by have:=hf.cols;omega,by have:=hf.sets.1;omega⟩
theorem Azz{s:Stm}(h:Ko s=true) (hb:BdStm s) (hf:Few s):V6 s=some (B2 s,0):=by
 obtain⟨h1,h2⟩:=Bgq h hb hf
 simp only [V6,Ah3 hf,h,h1,Zc1]
 rw [Avi (by simp only [Zi1];omega)]
 rfl
theorem A9y{s:Stm}(h:Ko s=false) (hf:Few s):V6 s=some ([],2):=by
 simp only [V6,Ah3 hf,h,Zc1]
 rfl
end Go.Proofs.YthndhaolemgbdaaGreatDoor
namespace Go.Proofs.YthndhaolemgbdaaGreatDoor
open Go.Ax
open Lp (E5 Sc Bi)
theorem A3v{s:Str}{ts:TL}(hl:s.length≤20000) (h:Sc s 0 ts):Hb s=(ts,0,0):=by
 simp only [Hb,Bcc]
 rw [if_neg (by omega),Lp.allF_of_sc h]
theorem Bmp{m:Str}{p:Int}{ts:TL}(h:Sc m p ts):ts.length≤m.length:=by
 induction h with
 |nil=>exact Zn1 _
 |blank _ _ ih=>simp only [Zf1];omega
 |tok _ h2 _ ih =>
  have:=Lp.tokS_len h2
  simp only [Zf1,Za2] at ih ⊢
  omega
theorem Az0(s:Str):(∃ts,s.length≤20000∧Sc s 0 ts∧Hb s=(ts,0,0))∨(s.length≤20000∧∃j,Lp.Er s 0 j∧Hb s=([],j,11))∨(20000<s.length∧Hb s=([],0,3)):=by
 by_cases h : 20000<s.length
 ·refine .inr (.inr ⟨h,?_⟩)
  simp only [Hb,Bcc]
  rw [if_pos (by omega)]
 ·have hs:=Lp.allF_sc s
  simp only [Hb,Bcc]
  rw [if_neg (by omega)]
  cases hq:Lp.allF s with
  |ok ts =>
   rw [hq] at hs
   exact .inl ⟨ts,by omega,hs,rfl⟩
  |error j =>
   rw [hq] at hs
   exact .inr (.inl ⟨by omega,j,hs,rfl⟩)
theorem A5m(s:Str):(Hb s).1.length<1000000000:=by
 rcases Az0 s with ⟨ts,h0,h1,h2⟩|⟨_,j,_,h2⟩|⟨_,h2⟩<;>rw [h2]
 ·have:=Bmp h1
  simp only
  omega
 ·simp
 ·simp
theorem Bkq{s:Str}{ts:TL}{e:Xpr}(hl:s.length≤20000) (h:Sc s 0 ts) (ho:orW ts = .ok (e,[])) (he:Bp e 30=true):Ais s=some (e,0,0):=by
 rw [Bff s (A5m s)]
 have hw:Atu ts = .ok e:=by unfold Atu;rw [ho]
 simp only [xX,A3v hl h,if_true,hw,Bcg,he,Ai]
theorem A5f{s:Str}{ts:TL}{x:Stm}(hl:s.length≤20000) (h:Sc s 0 ts) (ho:Aec ts = .ok x) (hf:Few x):Acp s=some (cond (Ko x) (x,0,0) (zS,0,2)):=by
 rw [Be4 s (A5m s)]
 simp only [xS,A3v hl h,if_true,ho,Ah3 hf]
 cases Ko x<;>rfl
theorem Bmb{e:Xpr}(h:RX e) (hl:(etx e).length≤20000):Ais (etx e)=some (e,0,0):=by
 obtain⟨ts,h1,h2⟩:=A4d h [] 0 [] A3l .nil
 have h2:=(h2 [] Awh).2
 rw [List.append_nil] at h1 h2
 rw [List.append_nil] at h1
 exact Bkq hl h1 h2 h.1
theorem Bnf{s:Stm}(h:Ko s=true) (hb:BdStm s) (hf:Few s) (hl:(B2 s).length≤20000):Acp (B2 s)=some (s,0,0):=by
 obtain⟨ts,h1,h2⟩:=A5d h hb [] 0 [] A3l .nil
 have h2:=(h2 [] (.inl rfl)).2
 rw [List.append_nil] at h1 h2
 rw [List.append_nil] at h1
 have hw:Aec ts = .ok s:=by unfold Aec;rw [h2];rfl
 rw [A5f hl h1 hw hf,h]
 rfl
theorem Blm(q:Int):Sc [32,59] q [⟨6,q+1,[59],0⟩] :=.blank Bb2 (Bfb (w:=[59]) (r:=[]) (Ahp (by decide +kernel) (Bdi (by decide) (by decide) _)) .nil)
theorem Bax{s:Stm}(h:Ko s=true) (hb:BdStm s) (hf:Few s) (hl:(B2 s++[32,59]).length≤20000):Acp (B2 s++[32,59])=some (s,0,0):=by
 obtain⟨ts,h1,h2⟩:=A5d h hb [32,59] 0 _ (Ad4 _) (Blm _)
 have hh:hdW [59] [⟨6,0+((B2 s).length:Int)+1,[59],0⟩]:=rfl
 have h2:=(h2 _ (.inr hh)).2
 have hw:Aec (ts++[⟨6,0+((B2 s).length:Int)+1,[59],0⟩]) = .ok s:=by unfold Aec;rw [h2];rfl
 rw [A5f hl h1 hw hf,h]
 rfl
end Go.Proofs.YthndhaolemgbdaaGreatDoor
namespace Go.Proofs.YthndhaolemgbdaaGreatDoor
open Go.Ax
theorem Tt{V R α:Type} [DecidableEq α] {step:(V→Option R)→V→Option R}(l m:List α) (hm:l.length=m.length) (st:Nat→V) (no yes:Option R)
  (hs:∀i (h:i<l.length) (h2:i<m.length) rec,step rec (st i)=cond (!decide (l[i]=m[i])) no (rec (st (i+1)))) (he:∀rec,step rec (st l.length)=yes) (k:Nat) (hk:l.length<k):A0 step k (st 0)=cond (decide (l=m)) yes no:=by
 refine(Dk l.length st (fun i=>cond (decide (l.drop i=m.drop i)) yes no) (fun i hi rec hr =>?_) (fun rec =>?_) k 0 (Nat.zero_le _) (by omega)).trans (by rw [Zq1,Zq1])
 ·have hi2:i<m.length:=by omega
  rw [hs i hi hi2,hr,Bb hi,Bb hi2]
  by_cases h:l[i]=m[i]
  ·rw [Ze1 h,h]
   have:decide (m[i]::l.drop (i+1)=m[i]::m.drop (i+1))=decide (l.drop (i+1)=m.drop (i+1)):=Zy1.2 ⟨fun e=>by injection e,fun e=>by rw [e]⟩
   rw [this]
   rfl
  ·rw [Zd1 h,Zd1 (show ¬l[i]::l.drop (i+1)=m[i]::m.drop (i+1) from fun e=>h (by injection e))]
   rfl
 ·rw [he,Zk1 (Zn1 _),Zk1 (by omega)]
  rfl
def Aad:Sig:=⟨26,[(0,.sl .str false),(1,.sl .str false),(4,.bool),(5,.int .i64)],[],[],0,0,0,[],[]⟩
abbrev Lh:=List Str×List Str×Bool×Int
def S9{R:Type}(rec:Lh→Option R) (kx:Ex→Lh→Option R) (v:Lh):Option R:=match v with
 |(v,v1,v2,v3) =>
 cond (decide (v3<(v.length:Int))) (
  chk (inb v3 v.length) (
  chk (inb v3 v1.length) (
   cond (!decide ((at' .str v v3)=(at' .str v1 v3))) (
   kx .ret (v,v1,false,v3)) (
   rec (v,v1,v2,(wr .i64 (v3+1))))))) (
  kx (.exit 0) (v,v1,v2,v3))
def Ls(R:Type) (k:Nat):Px R:=⟨Bd ttL,glT,Au [],Am [],Aw [(4,Be k Aad (S9))],tbl []⟩
theorem Awb(R:Type) (k:Nat):∀(fr:List Fr) (rec:Lh→Option R) (kx:Ex→Lh→Option R) (v:Lh),Bn (Ls R k) Aad (lp Tryz.f82 0) fr rec kx v=S9 rec kx v
 |fr,rec,kx,(v,v1,v2,v3)=>by kernel_rfl
def Zm(k:Nat) (x:HV [.sl .str false,.sl .str false]):Option (HV [.bool]):=match x with
 |(a,b) =>
 cond (!decide ((a.length:Int)=(b.length:Int))) (
  some false) (
  A0 (fun rec=>S9 rec (fun e vz=>match vz with|(_,_,v6,_)=>match e with
  |.ret =>
   some v6
  |.exit 0 =>
   some true
  |_=>none)) k (a,b,false,0))
theorem A9a(k:Nat):∀(x:HV [.sl .str false,.sl .str false]),Cs (Ls _ k) Tryz.f82 [.sl .str false,.sl .str false] [.bool] x some=Zm k x
 |(a,b)=>by kernel_rfl
theorem Ay4(k:Nat):FnOk Tryz.prog elT glT 82 [.sl .str false,.sl .str false] [.bool] (Zm k):=by
 refine A3 Tryz.func82 rfl (by kernel_rfl) follows (by kernel_rfl) (n:=1) (by kernel_rfl) (px:=Ls _ k) (fun cx hP hel hgl =>?_) (A9a k)
 have hp0:PxOk cx (Ls (HV [.bool]) k):=⟨fun t=>by rw [hP,hel];exact Av An t,by rw [hgl];rfl⟩
 have hc0:Al cx (Ls (HV [.bool]) k):=Af rfl Aj
 have hq0:CallQOk cx (Ls (HV [.bool]) k):=Ab rfl rfl Ah Ae
 have hlrsameN_0:A8 cx (Ls (HV [.bool]) k) (lp Tryz.f82 0):=Ba hp0 hc0 hq0 (by rw [hP];exact follows) (k:=k) (s:=Aad) (step:=S9) (fun _ _=>by kernel_rfl) (by kernel_rfl) (Awb _ k) (Az (n:=0) (by kernel_rfl) Ay)
 exact⟨hp0,hc0,hq0,(Cj Ay hlrsameN_0)⟩
def Akv(a b:List Str):Bool:=decide (a=b)
def Amf:FT [.sl .str false,.sl .str false] [.bool]:=fun x=>some (Akv x.1 x.2)
theorem Bnt{α:Type}{a b:List α}(h:¬(a.length:Int)=(b.length:Int)):¬a=b:=fun e=>h (by rw [e])
theorem A7j:FnOk Tryz.prog elT glT 82 [.sl .str false,.sl .str false] [.bool] Amf :=.fin 0 Ay4 fun(a,b) r hb hx=>⟨a.length+1,by
 simp only [Amf,Akv,Za1] at hx
 rw [←hx]
 simp only [Zm]
 by_cases hl:(a.length:Int)=(b.length:Int)
 ·rw [Ze1 hl,Zt1,Ak]
  refine(Tt a b (by omega) (fun i=>(a,b,false,(i:Int))) (some false) (some true) (fun i h h2 rec =>?_) (fun rec =>?_) (a.length+1) (by omega)).trans ?_
  ·simp only [S9,Gm h,Ai,Bl h,Bl h2,chk,Bk (c :=.str) h,Bk (c :=.str) h2,Bf h hb.1.1]
  ·simp only [S9,Gh,Ak]
  ·cases decide (a=b)<;>rfl
 ·rw [Zd1 hl,Zd1 (Bnt hl)]
  rfl⟩
def Ux(R:Type):Px R:=⟨Bd ttL,glT,Au [(21,As [.sv .expr,.sv .expr] [.bool] Aj7)],Am [],Aw [],tbl []⟩
def Rw(x:HV [.sl .expr false,.sl .expr false]):Option (HV [.bool]):=match x with
 |(a,b) =>
 some (Ae4 (Xpr.mk 0 ⟨0,0,[]⟩ [] a) (Xpr.mk 0 ⟨0,0,[]⟩ [] b))
theorem A88:∀(x:HV [.sl .expr false,.sl .expr false]),Cs (Ux _) Tryz.f83 [.sl .expr false,.sl .expr false] [.bool] x some=Rw x
 |(a,b)=>by kernel_rfl
theorem A2q:FnOk Tryz.prog elT glT 83 [.sl .expr false,.sl .expr false] [.bool] (Rw):=by
 refine A3 Tryz.func83 rfl (by kernel_rfl) follows (by kernel_rfl) (n:=0) (by kernel_rfl) (px:=Ux _) (fun cx hP hel hgl =>?_) (A88)
 have hp0:PxOk cx (Ux (HV [.bool])):=⟨fun t=>by rw [hP,hel];exact Av An t,by rw [hgl];rfl⟩
 have hc0:Al cx (Ux (HV [.bool])):=Af rfl (Aa (A7 (by rw [hP,hel,hgl];exact Ak4) (by kernel_rfl)) Aj)
 have hq0:CallQOk cx (Ux (HV [.bool])):=Ab rfl rfl Ah Ae
 exact⟨hp0,hc0,hq0,Ay⟩
def Ac4(a:List Xpr) (b:List Xpr):Bool :=
 (Ae4 (Xpr.mk 0 ⟨0,0,[]⟩ [] a) (Xpr.mk 0 ⟨0,0,[]⟩ [] b))
theorem Azh(x:HV [.sl .expr false,.sl .expr false]):Rw x=some (Ac4 x.1 x.2):=by
 first
  |exact rfl
  |simp only [Rw,Ac4,B7]
def Avp:FT [.sl .expr false,.sl .expr false] [.bool]:=fun x=>some (Ac4 x.1 x.2)
theorem Bak:FnOk Tryz.prog elT glT 83 [.sl .expr false,.sl .expr false] [.bool] Avp :=.fin0 A2q fun x _ _ hx=>(Azh x).trans hx
theorem Ark(a b:List Xpr):Ac4 a b=decide (a=b):=by
 have e:Ac4 a b=Je (.mk 0 ⟨0,0,[]⟩ [] a) (.mk 0 ⟨0,0,[]⟩ [] b):=rfl
 rw [e,Mb]
 exact Zy1.2 (by simp)
theorem Ahh(a b:Xpr):Ae4 a b=decide (a=b):=Mb a b
instance:DecidableEq SetE:=fun a b=>decidable_of_iff (a.name=b.name∧a.e=b.e) (by
 cases a;cases b
 simp only [SetE.mk.injEq])
def Aan:Sig:=⟨199,[(4,.bool),(8,.int .i64)],[(2,.ptr 0 0),(3,.ptr 1 0)],[(0,.one (.sv .stmt)),(1,.one (.sv .stmt))],2,0,0,[],[]⟩
abbrev L6:=Bool×Int×Stm×Stm
def U2{R:Type}(rec:L6→Option R) (kx:Ex→L6→Option R) (v:L6):Option R:=match v with
 |(v18,v19,w6,w7) =>
 cond (decide (v19<(w6.desc.length:Int))) (
  chk (inb v19 w6.desc.length) (
  chk (inb v19 w7.desc.length) (
   cond (!decide ((at' .bool w6.desc v19)=(at' .bool w7.desc v19))) (
   kx .ret (false,v19,w6,w7)) (
   rec (v18,(wr .i64 (v19+1)),w6,w7))))) (
  kx (.exit 6) (v18,v19,w6,w7))
def Xv:Sig:=⟨199,[(4,.bool),(7,.int .i64)],[(2,.ptr 0 0),(3,.ptr 1 0)],[(0,.one (.sv .stmt)),(1,.one (.sv .stmt))],2,0,0,[],[]⟩
abbrev Le:=Bool×Int×Stm×Stm
def U1{R:Type}(rec:Le→Option R) (kx:Ex→Le→Option R) (v:Le):Option R:=match v with
 |(v12,v13,w4,w5) =>
 cond (decide (v13<(w4.sets.length:Int))) (
  chk (inb v13 w4.sets.length) (
  chk (inb v13 w5.sets.length) (
   cond (!decide (((at' .set w4.sets v13).name)=((at' .set w5.sets v13).name))) (
   kx .ret (false,v13,w4,w5)) (
   chk (inb v13 w4.sets.length) (
    chk (inb v13 w5.sets.length) (
    cond (!(Ae4 (Ng ((at' .set w4.sets v13).e)) (Ng ((at' .set w5.sets v13).e)))) (
     kx .ret (false,v13,w4,w5)) (
     rec (v12,(wr .i64 (v13+1)),w4,w5)))))))) (
  kx (.exit 4) (v12,v13,w4,w5))
def Ym:Sig:=⟨199,[(4,.bool),(6,.int .i64)],[(2,.ptr 0 0),(3,.ptr 1 0)],[(0,.one (.sv .stmt)),(1,.one (.sv .stmt))],2,0,0,[],[]⟩
abbrev K8:=Bool×Int×Stm×Stm
def Ul{R:Type}(rec:K8→Option R) (kx:Ex→K8→Option R) (v:K8):Option R:=match v with
 |(v6,v7,w2,w3) =>
 cond (decide (v7<(w2.rows.length:Int))) (
  chk (inb v7 w2.rows.length) (
  chk (inb v7 w3.rows.length) (
   cond (!(Ac4 (at' .exprs w2.rows v7) (at' .exprs w3.rows v7))) (
   kx .ret (false,v7,w2,w3)) (
   rec (v6,(wr .i64 (v7+1)),w2,w3))))) (
  kx (.exit 2) (v6,v7,w2,w3))
def X4:Sig:=⟨199,[(4,.bool),(5,.int .i64)],[(2,.ptr 0 0),(3,.ptr 1 0)],[(0,.one (.sv .stmt)),(1,.one (.sv .stmt))],2,0,0,[],[]⟩
abbrev Mk:=Bool×Int×Stm×Stm
def To{R:Type}(rec:Mk→Option R) (kx:Ex→Mk→Option R) (v:Mk):Option R:=match v with
 |(v,v1,w,w1) =>
 cond (decide (v1<(w.cols.length:Int))) (
  chk (inb v1 w.cols.length) (
  chk (inb v1 w1.cols.length) (
   cond (!decide ((at' .col w.cols v1)=(at' .col w1.cols v1))) (
   kx .ret (false,v1,w,w1)) (
   rec (v,(wr .i64 (v1+1)),w,w1))))) (
  kx (.exit 0) (v,v1,w,w1))
def Eh(R:Type) (k:Nat):Px R:=⟨Bd ttL,glT,Au [(21,As [.sv .expr,.sv .expr] [.bool] Aj7),(82,As [.sl .str false,.sl .str false] [.bool] Amf),(83,As [.sl .expr false,.sl .expr false] [.bool] Avp)],Am [],Aw [(6,Be k X4 (To)),(11,Be k Ym (Ul)),(16,Be k Xv (U1)),(21,Be k Aan (U2))],tbl []⟩
theorem Auu(R:Type) (k:Nat):∀(fr:List Fr) (rec:Mk→Option R) (kx:Ex→Mk→Option R) (v:Mk),Bn (Eh R k) X4 (lp Tryz.f28 0) fr rec kx v=To rec kx v
 |fr,rec,kx,(v,v1,w,w1)=>by kernel_rfl
theorem Aww(R:Type) (k:Nat):∀(fr:List Fr) (rec:K8→Option R) (kx:Ex→K8→Option R) (v:K8),Bn (Eh R k) Ym (lp Tryz.f28 1) fr rec kx v=Ul rec kx v
 |fr,rec,kx,(v6,v7,w2,w3)=>by kernel_rfl
theorem Auq(R:Type) (k:Nat):∀(fr:List Fr) (rec:Le→Option R) (kx:Ex→Le→Option R) (v:Le),Bn (Eh R k) Xv (lp Tryz.f28 2) fr rec kx v=U1 rec kx v
 |fr,rec,kx,(v12,v13,w4,w5)=>by kernel_rfl
theorem Awp(R:Type) (k:Nat):∀(fr:List Fr) (rec:L6→Option R) (kx:Ex→L6→Option R) (v:L6),Bn (Eh R k) Aan (lp Tryz.f28 3) fr rec kx v=U2 rec kx v
 |fr,rec,kx,(v18,v19,w6,w7)=>by kernel_rfl
def Zp(k:Nat) (x:HV [.sv .stmt,.sv .stmt]):Option (HV [.bool]):=match x with
 |(a,b) =>
 let j5:=fun(p:Bool) =>
  let j4:=fun(p1:Bool) =>
  let j3:=fun(p2:Bool) =>
   let j2:=fun(p3:Bool) =>
   let j1:=fun(p4:Bool) =>
    let j:=fun(p5:Bool) =>
    cond (p5) (
     some false) (
     cond (!(Akv a.order b.order)) (
     some false) (
     cond (!(Ac4 a.l b.l)) (
      some false) (
      let j6:=fun(p10:Bool) =>
      cond (p10) (
       some false) (
       cond (!decide ((a.sets.length:Int)=(b.sets.length:Int))) (
       some false) (
       cond (!decide ((a.desc.length:Int)=(b.desc.length:Int))) (
        some false) (
        A0 (fun rec=>To rec (fun e vz=>match vz with|(v2,_,v4,v5)=>match e with
        |.ret =>
         some v2
        |.exit 0 =>
         A0 (fun rec=>Ul rec (fun e vz=>match vz with|(v8,_,v10,v11)=>match e with
         |.ret =>
          some v8
         |.exit 2 =>
          A0 (fun rec=>U1 rec (fun e vz=>match vz with|(v14,_,v16,v17)=>match e with
          |.ret =>
           some v14
          |.exit 4 =>
           A0 (fun rec=>U2 rec (fun e vz=>match vz with|(v20,_,_,_)=>match e with
           |.ret =>
            some v20
           |.exit 6 =>
            some true
           |_=>none)) k (v14,0,v16,v17)
          |_=>none)) k (v8,0,v10,v11)
         |_=>none)) k (v2,0,v4,v5)
        |_=>none)) k (false,0,a,b))))
      cond (!decide ((a.cols.length:Int)=(b.cols.length:Int))) (
      j6 true) (
      j6 (!decide ((a.rows.length:Int)=(b.rows.length:Int)))))))
    cond (p4) (
    j true) (
    j (!(Akv a.names b.names)))
   cond (p3) (
    j1 true) (
    j1 (!(Ae4 (Ng a.whr) (Ng b.whr))))
   cond (p2) (
   j2 true) (
   j2 (!decide (a.most=b.most)))
  cond (p1) (
   j3 true) (
   j3 (!decide (a.has=b.has)))
  cond (p) (
  j4 true) (
  j4 (!decide (a.on=b.on)))
 cond (!decide (a.kind=b.kind)) (
  j5 true) (
  j5 (!decide (a.name=b.name)))
theorem A83(k:Nat):∀(x:HV [.sv .stmt,.sv .stmt]),Cs (Eh _ k) Tryz.f28 [.sv .stmt,.sv .stmt] [.bool] x some=Zp k x
 |(a,b)=>by kernel_rfl
theorem A2h(k:Nat):FnOk Tryz.prog elT glT 28 [.sv .stmt,.sv .stmt] [.bool] (Zp k):=by
 refine A3 Tryz.func28 rfl (by kernel_rfl) follows (by kernel_rfl) (n:=4) (by kernel_rfl) (px:=Eh _ k) (fun cx hP hel hgl =>?_) (A83 k)
 have hp0:PxOk cx (Eh (HV [.bool]) k):=⟨fun t=>by rw [hP,hel];exact Av An t,by rw [hgl];rfl⟩
 have hc0:Al cx (Eh (HV [.bool]) k):=Af rfl (Aa (A7 (by rw [hP,hel,hgl];exact Ak4) (by kernel_rfl)) (Aa (A7 (by rw [hP,hel,hgl];exact A7j) (by kernel_rfl)) (Aa (A7 (by rw [hP,hel,hgl];exact Bak) (by kernel_rfl)) Aj)))
 have hq0:CallQOk cx (Eh (HV [.bool]) k):=Ab rfl rfl Ah Ae
 have hlrsameS_0:A8 cx (Eh (HV [.bool]) k) (lp Tryz.f28 0):=Ba hp0 hc0 hq0 (by rw [hP];exact follows) (k:=k) (s:=X4) (step:=To) (fun _ _=>by kernel_rfl) (by kernel_rfl) (Auu _ k) (Az (n:=0) (by kernel_rfl) Ay)
 have hlrsameS_1:A8 cx (Eh (HV [.bool]) k) (lp Tryz.f28 1):=Ba hp0 hc0 hq0 (by rw [hP];exact follows) (k:=k) (s:=Ym) (step:=Ul) (fun _ _=>by kernel_rfl) (by kernel_rfl) (Aww _ k) (Az (n:=0) (by kernel_rfl) Ay)
 have hlrsameS_2:A8 cx (Eh (HV [.bool]) k) (lp Tryz.f28 2):=Ba hp0 hc0 hq0 (by rw [hP];exact follows) (k:=k) (s:=Xv) (step:=U1) (fun _ _=>by kernel_rfl) (by kernel_rfl) (Auq _ k) (Az (n:=0) (by kernel_rfl) Ay)
 have hlrsameS_3:A8 cx (Eh (HV [.bool]) k) (lp Tryz.f28 3):=Ba hp0 hc0 hq0 (by rw [hP];exact follows) (k:=k) (s:=Aan) (step:=U2) (fun _ _=>by kernel_rfl) (by kernel_rfl) (Awp _ k) (Az (n:=0) (by kernel_rfl) Ay)
 exact⟨hp0,hc0,hq0,(Cj (Cj (Cj (Cj Ay hlrsameS_0) hlrsameS_1) hlrsameS_2) hlrsameS_3)⟩
def Al6(a b:Stm):Bool:=decide (a=b)
def Amg:FT [.sv .stmt,.sv .stmt] [.bool]:=fun x=>some (Al6 x.1 x.2)
theorem Bc2{R:Type}(x y:SetE) (no yes:R):cond (!decide (x.name=y.name)) no (cond (!decide (x.e=y.e)) no yes)=cond (!decide (x=y)) no yes:=by
 have e:decide (x=y)=(decide (x.name=y.name)&&decide (x.e=y.e)):=by
  rw [←Bool.decide_and]
  refine Zy1.2 ?_
  cases x;cases y
  simp only [SetE.mk.injEq]
 rw [e]
 cases decide (x.name=y.name)<;>rfl
theorem Bkl{a b:Stm}(h1:a.kind=b.kind) (h2:a.name=b.name) (h3:a.on=b.on) (h4:a.cols=b.cols) (h5:a.names=b.names) (h6:a.l=b.l) (h7:a.rows=b.rows) (h8:a.sets=b.sets) (h9:a.has=b.has) (h10:a.whr=b.whr) (h11:a.order=b.order) (h12:a.desc=b.desc) (h13:a.most=b.most):a=b:=by
 cases a;cases b
 simp only at h1 h2 h3 h4 h5 h6 h7 h8 h9 h10 h11 h12 h13
 simp only [h1,h2,h3,h4,h5,h6,h7,h8,h9,h10,h11,h12,h13]
theorem A7w:FnOk Tryz.prog elT glT 28 [.sv .stmt,.sv .stmt] [.bool] Amg :=.fin 0 A2h fun(a,b) r hb hx=>⟨a.cols.length+a.rows.length+a.sets.length+a.desc.length+1,by
 simp only [Amg,Al6,Za1] at hx
 rw [←hx]
 have hb:=hb.1
 have no:∀{p:Prop} [Decidable p],(a=b→p)→¬p→decide (a=b)=false:=fun h hn=>Zd1 fun e=>hn (h e)
 simp only [Zp,H7,Ark,Ahh,Akv]
 by_cases h1:a.kind=b.kind
 case neg=>rw [Zd1 h1,no (fun e=>by rw [e]) h1];rfl
 rw [Ze1 h1]
 by_cases h2:a.name=b.name
 case neg=>rw [Zd1 h2,no (fun e=>by rw [e]) h2];rfl
 rw [Ze1 h2]
 by_cases h3:a.on=b.on
 case neg=>rw [Zd1 h3,no (fun e=>by rw [e]) h3];rfl
 rw [Ze1 h3]
 by_cases h9:a.has=b.has
 case neg=>rw [Zd1 h9,no (fun e=>by rw [e]) h9];rfl
 rw [Ze1 h9]
 by_cases h13:a.most=b.most
 case neg=>rw [Zd1 h13,no (fun e=>by rw [e]) h13];rfl
 rw [Ze1 h13]
 by_cases h10:a.whr=b.whr
 case neg=>rw [Zd1 h10,no (fun e=>by rw [e]) h10];rfl
 rw [Ze1 h10]
 by_cases h5:a.names=b.names
 case neg=>rw [Zd1 h5,no (fun e=>by rw [e]) h5];rfl
 rw [Ze1 h5]
 by_cases h11:a.order=b.order
 case neg=>rw [Zd1 h11,no (fun e=>by rw [e]) h11];rfl
 rw [Ze1 h11]
 by_cases h6:a.l=b.l
 case neg=>rw [Zd1 h6,no (fun e=>by rw [e]) h6];rfl
 rw [Ze1 h6]
 by_cases l4:(a.cols.length:Int)=(b.cols.length:Int)
 case neg=>rw [Zd1 l4,no (fun e=>by rw [e]) l4];rfl
 rw [Ze1 l4]
 by_cases l7:(a.rows.length:Int)=(b.rows.length:Int)
 case neg=>rw [Zd1 l7,no (fun e=>by rw [e]) l7];rfl
 rw [Ze1 l7]
 by_cases l8:(a.sets.length:Int)=(b.sets.length:Int)
 case neg=>rw [Zd1 l8,no (fun e=>by rw [e]) l8];rfl
 rw [Ze1 l8]
 by_cases l12:(a.desc.length:Int)=(b.desc.length:Int)
 case neg=>rw [Zd1 l12,no (fun e=>by rw [e]) l12];rfl
 rw [Ze1 l12]
 simp only [Zt1,Ak]
 generalize hk:a.cols.length+a.rows.length+a.sets.length+a.desc.length+1=k
 refine(Tt a.cols b.cols (by omega) (fun i=>(false,(i:Int),a,b)) (some false) (cond (decide (a.rows=b.rows)) (cond (decide (a.sets=b.sets)) (cond (decide (a.desc=b.desc)) (some true) (some false)) (some false)) (some false)) (fun i h h2 rec =>?_) (fun rec =>?_) k (by omega)).trans ?_
 ·simp only [To,Gm h,Ai,Bl h,Bl h2,chk,Bk (c :=.col) h,Bk (c :=.col) h2,Bf h hb.cols.1]
 ·simp only [To,Gh,Ak]
  refine(Tt a.rows b.rows (by omega) (fun i=>(false,(i:Int),a,b)) (some false) (cond (decide (a.sets=b.sets)) (cond (decide (a.desc=b.desc)) (some true) (some false)) (some false)) (fun i h h2 rec =>?_) (fun rec =>?_) k (by omega)).trans rfl
  ·simp only [Ul,Gm h,Ai,Bl h,Bl h2,chk,Bk (c :=.exprs) h,Bk (c :=.exprs) h2,Bf h hb.rows.1,Ark]
  ·simp only [Ul,Gh,Ak]
   refine(Tt a.sets b.sets (by omega) (fun i=>(false,(i:Int),a,b)) (some false) (cond (decide (a.desc=b.desc)) (some true) (some false)) (fun i h h2 rec =>?_) (fun rec =>?_) k (by omega)).trans rfl
   ·simp only [U1,Gm h,Ai,Bl h,Bl h2,chk,Bk (c :=.set) h,Bk (c :=.set) h2,Bf h hb.sets.1,H7,Ahh]
    exact Bc2 _ _ _ _
   ·simp only [U1,Gh,Ak]
    refine(Tt a.desc b.desc (by omega) (fun i=>(false,(i:Int),a,b)) (some false) (some true) (fun i h h2 rec =>?_) (fun rec =>?_) k (by omega)).trans rfl
    ·simp only [U2,Gm h,Ai,Bl h,Bl h2,chk,Bk (c :=.bool) h,Bk (c :=.bool) h2,Bf h hb.desc]
    ·simp only [U2,Gh,Ak]
 ·by_cases h4:a.cols=b.cols
  case neg=>rw [Zd1 h4,no (fun e=>by rw [e]) h4];rfl
  by_cases h7:a.rows=b.rows
  case neg=>rw [Ze1 h4,Zd1 h7,no (fun e=>by rw [e]) h7];rfl
  by_cases h8:a.sets=b.sets
  case neg=>rw [Ze1 h4,Ze1 h7,Zd1 h8,no (fun e=>by rw [e]) h8];rfl
  by_cases h12:a.desc=b.desc
  case neg=>rw [Ze1 h4,Ze1 h7,Ze1 h8,Zd1 h12,no (fun e=>by rw [e]) h12];rfl
  rw [Ze1 h4,Ze1 h7,Ze1 h8,Ze1 h12,Ze1 (Bkl h1 h2 h3 h4 h5 h6 h7 h8 h9 h10 h11 h12 h13)]
  rfl⟩
end Go.Proofs.YthndhaolemgbdaaGreatDoor
namespace Go.Proofs.YthndhaolemgbdaaGreatDoor
open Go.Ax
end Go.Proofs.YthndhaolemgbdaaGreatDoor
namespace Go.Ax
open Go.RowKit Go.ChangeShapes Go.WideShapes
section
variable {H:Type}{enc':TypeId×Value→H}{P:Program}{w:World}{base:Nat}{sp:Nat→Bool}{held:Bool}
theorem Ava{t k e:TypeId}{fuel:Nat}{cs:List Value}{ps:List MemPlace}(ht:P.underlying t=some (.map k e)) (hk:P.underlying k=some (.int .i64)) (he:P.underlying e=some .string) {l:List (Int×Str)}(hl:∀p,p∈l→Vl l p.1=p.2) (hno:∀n,(∀p,p∈l→p.1≠n)→Vl l n=[]) (h:DataW.trod enc' P w base sp held fuel t cs=some (.map (l.map fun p=>(.int .i64 p.1,.lit (.string p.2))),ps)):∃b es clk,cs=[.map (some b)]∧w.heap[b]? = some (.map es clk)∧A4c l es.toList:=by
 rcases open_anymap ht h with ⟨_,hx⟩|⟨b,es,clock,_,rfl,hb,_,_,_⟩
 ·cases hx
 cases fuel with
 |zero=>simp [DataW.trod] at h
 |succ n =>
  simp only [DataW.trod,ht,hb] at h
  ·split at h
   ·obtain⟨entries,hm,hs⟩:=Option.bind_eq_some_iff.1 h
    split at hs
    ·simp only [Za1,Zp1,DataW.map.injEq] at hs
     obtain⟨hs,_⟩:=hs
     have hperm:=sorted_perm (entries.map (·.1))
     rw [hs] at hperm
     have hx:∀(x:MapEntry) (y:(Lit×DataW H)×List MemPlace),((keyOf P k x.key).bind fun key=>if x.val.formed P e=true then(DataW.trod enc' P w base sp held n e x.val.cells.toList).map fun y=>((key,y.1),y.2) else none)=some y→∃(m:Int) (s:ByteArray),x.key = .int .i64 m∧x.val = .string s∧s.size≤maxLen∧y.1=(.int .i64 m,.lit (.string s.data.toList)):=by
      intro x y hy
      obtain⟨key,hk1,hy⟩:=Option.bind_eq_some_iff.1 hy
      split at hy
      ·rename_i hfm
       obtain⟨z,hz,rfl⟩:=Option.map_eq_some_iff.1 hy
       obtain⟨s,hs1,rfl,hs3⟩:=DataW.trod_string he hz
       have hv:x.val = .string s:=by
        cases hxv:x.val<;>rw [hxv] at hs1 hfm<;>simp [Value.cells] at hs1
        ·rw [hs1]
        ·simp [Value.formed,he] at hfm
       have hkk:∃m,x.key = .int .i64 m∧key = .int .i64 m:=by
        simp only [keyOf,hk] at hk1
        cases hxk:x.key<;>rw [hxk] at hk1<;>simp [mapKey,hk] at hk1
        obtain⟨⟨h1,_⟩,h2⟩:=hk1
        subst h1
        exact⟨_,rfl,h2.symm⟩
       obtain⟨m,h1,rfl⟩:=hkk
       exact⟨m,s,h1,hv,hs3,rfl⟩
      ·cases hy
     have hin:∀x,x∈es.toList→∃(m:Int) (s:ByteArray),x.key = .int .i64 m∧x.val = .string s∧s.size≤maxLen∧(m,s.data.toList)∈l:=fun x hxm=>by
      obtain⟨i,hi,rfl⟩:=List.getElem_of_mem hxm
      obtain⟨y,hy,hf⟩:=Lib.mapM_at hm i _ (Zo1 hi)
      obtain⟨m,s,h1,h2,h3,h4⟩:=hx _ y hf
      refine⟨m,s,h1,h2,h3,?_⟩
      have:y.1∈entries.map (·.1):=List.mem_map.2 ⟨y,List.mem_of_getElem? hy,rfl⟩
      have:=hperm.symm.subset this
      rw [h4] at this
      obtain⟨p,hp,e⟩:=List.mem_map.1 this
      simp only [Zp1,Lit.int.injEq,true_and,DataW.lit.injEq,Lit.string.injEq] at e
      obtain⟨e1,e2⟩:=e
      rw [←e1,←e2]
      exact hp
     have hout:∀p,p∈l→∃x,x∈es.toList∧x.key = .int .i64 p.1:=fun p hp=>by
      have h1:(Lit.int .i64 p.1,DataW.lit (H:=H) (.string p.2))∈entries.map (·.1):=hperm.subset (List.mem_map.2 ⟨p,hp,rfl⟩)
      obtain⟨y,hy,e⟩:=List.mem_map.1 h1
      obtain⟨x,hxm,hf⟩:=mapM_mem hm y hy
      obtain⟨m,s,h2,_,_,h4⟩:=hx x y hf
      rw [e] at h4
      simp only [Zp1,Lit.int.injEq,true_and] at h4
      exact⟨x,hxm,by rw [h2,h4.1]⟩
     refine⟨b,es,clock,rfl,hb,fun n =>?_⟩
     have hik:MapKept.IsKey (.int .i64) (.int .i64 n):=by simp [MapKept.IsKey]
     rcases MapKept.findNow_spec hik es.toList 0 (fun x hxm=>by obtain⟨m,s,h1,_⟩:=hin x hxm;rw [h1];simp [MapKept.IsKey]) with ⟨h1,h2⟩|⟨j,x,h1,h2,h3⟩
     ·have:Vl l n=[]:=hno n fun p hp e=>by
       obtain⟨x,hxm,hk⟩:=hout p hp
       exact h2 x hxm (by rw [hk,e])
      exact⟨by rw [this];simp,.inl ⟨h1,this⟩⟩
     ·obtain⟨m,s,g1,g2,g3,g4⟩:=hin x (List.mem_of_getElem? h2)
      have hmn:m=n:=by
       rw [g1] at h3
       simpa using h3
      subst hmn
      have hg:=hl _ g4
      simp only at hg
      refine⟨by rw [hg,Array.length_toList];exact g3,.inr ⟨0+j,?_⟩⟩
      rw [h1,g2,hg,Array.toArray_toList]
    ·cases hs
   ·cases h
end
theorem Ajj{H:Type}{P:Program}:∀{ts us:List TypeId}{ds gs:List (DataW H)}{n:Nat},ds.length≤ts.length→n∈DataW.weightsEach P ts ds→n∈DataW.weightsEach P (ts++us) (ds++gs)
 |[],us,ds,gs,n,_,h=>by cases ds<;>simp [DataW.weightsEach] at h
 |t::ts,us,[],gs,n,_,h=>by simp [DataW.weightsEach] at h
 |t::ts,us,d::ds,gs,n,hl,h=>by
  simp only [DataW.weightsEach,Zb2,List.mem_append] at h ⊢
  rcases h with h|h
  ·exact .inl h
  ·exact .inr (Ajj (by simpa using hl) h)
theorem Bhy{H:Type}{P:Program}{ts us:List TypeId}{ds gs:List (DataW H)}(h:(DataW.weightsEach P (ts++us) (ds++gs)).all (·≤reachBytes)=true) (hl:ds.length≤ts.length):∀(i:Nat) (t:TypeId) (d:DataW H),ts[i]? = some t→ds[i]? = some d→∀n,n∈d.weights P t→n≤R47:=fun i t d ht hd n hn=>by
 have:=Zg2.1 h n (Ajj hl (DataW.weights_mem_each ht hd n hn))
 show n≤reachBytes
 exact of_decide_eq_true this
theorem Axa{H:Type}{enc':TypeId×Value→H}{P:Program}{w:World}{base:Nat}{sp:Nat→Bool}{held:Bool}:∀{ts:List TypeId}{vs:List Value}{ds:List (DataW H)}{ps:List MemPlace},DataW.TrodAll enc' P w base sp held ts vs ds ps→ds.length=ts.length:=by
 intro ts
 induction ts with
 |nil=>intro vs ds ps h;cases vs<;>cases ds<;>simp [DataW.TrodAll] at h ⊢
 |cons t ts ih =>
  intro vs ds ps h
  obtain⟨v,vs',d,ds',p,q,rfl,rfl,rfl,hd,hrest⟩:=trodAll_cons h
  simp [ih hrest]
end Go.Ax
namespace Go.Proofs.YthndhaolemgbdaaGreatDoor
open Go.Ax Go.ChangeShapes Go.WideShapes Go.ChangeAt Go.RowKit Go.ChangeMaps
theorem own:ownKnob Tryz.prog.godebug=none:=by kernel_rfl
def rdL:List Nat:=[3,4,9,5,23,26,111,89,44,24,39,34,42,78,41,40,63,67]
theorem Bmo:rdB elT (Bd ttL) rdL=true:=by kernel_rfl
theorem Bnj:szB Tryz.prog elT (Bd ttL) rdL=true:=by kernel_rfl
theorem Bi9:laidOutB Tryz.prog=true:=by kernel_rfl
def GlE(x:Vx) (g:Nat):Gv→Prop
 |.arr c xs=>∀i y,xs[i]? = some y→∀w',Chg x.S x.w w'→At w' c y g (i*csz c)
 |.map l=>∃r es clk,(∀w',Chg x.S x.w w'→w'.cell? ⟨g,0,none⟩=some (.map (some r))∧w'.heap[r]? = some (.map es clk))∧A4c l es.toList
 |.num k=>∃n,∀w',Chg x.S x.w w'→w'.cell? ⟨g,0,none⟩=some (.int k n)
theorem Mr{α:Type}:∀{L:List (Nat×α)}{g:Nat}{v : α},tbl L g=some v→(g,v)∈L
 |[],_,_,h=>by simp [tbl] at h
 |(k,u)::L,g,v,h=>by
  simp only [tbl] at h
  split at h
  ·rename_i hk
   have hk:=Zl1 hk
   subst hk
   simp only [Za1] at h
   subst h
   exact Zr1
  ·exact Zu1 _ (Mr h)
theorem Bia{x:Vx}{L:List (Nat×Gv)}(h:∀p,p∈L→GlE x p.1 p.2):GlR x (tbl L) :=
 ⟨fun _ _ _ hg=>h _ (Mr hg),fun _ _ hg=>h _ (Mr hg),fun _ _ hg=>h _ (Mr hg)⟩
theorem Amr{P:Program}{w:World}:∀{l:List (String×DataW Unit)}{ps:List MemPlace},DataW.LaidVars P w l ps→∀x,x∈l→∃g t cs fuel p,P.globalNamed x.1=some g∧(P.globals[g]?).map (·.type)=some t∧w.var? P x.1=some cs∧DataW.trod (fun _=>()) P w 0 (fun _=>true) false fuel t cs.toList=some (x.2,p)
 |[],_,_,x,hx=>by cases hx
 |(n,d)::r,ps,h,x,hx=>by
  obtain⟨g,t,cs,fuel,p,q,h1,h2,h3,h4,h5,_⟩:=h
  rcases List.mem_cons.1 hx with rfl|hx
  ·exact⟨g,t,cs,fuel,p,h1,h2,h3,h4⟩
  ·exact Amr h5 x hx
theorem Akx{H:Type}{enc:TypeId×Value→H}{P:Program}{w:World}{base:Nat}{sp:Nat→Bool}{held:Bool}{fuel:Nat}{t e:TypeId}{n:Nat}{cs:List Value}{zs:List (List UInt8)}{p:List MemPlace}
  (ht:P.underlying t=some (.array n e)) (he:P.underlying e=some .string) (hce:P.cellsOf e=1)
  (h:DataW.trod enc P w base sp held fuel t cs=some (.agg (zs.map fun z =>.lit (.string z)),p)):∀(i:Nat) (z:Str),zs[i]? = some z→cs[i]? = some (.string ⟨z.toArray⟩):=by
 cases fuel with
 |zero=>simp [DataW.trod] at h
 |succ fuel =>
  simp only [DataW.trod,ht,hce,Nat.mul_one] at h
  split at h
  ·rename_i hl
   obtain⟨xs,hm,hx⟩:=Option.map_eq_some_iff.1 h
   have hxs:xs.map (·.1)=zs.map fun z=>(DataW.lit (.string z):DataW H):=by
    have:=congrArg Prod.fst hx
    simpa using this
   have hxl:xs.length=n:=by simpa using Lib.mapM_length hm
   have hzl:zs.length=n:=by
    have:=congrArg List.length hxs
    simp at this
    omega
   intro i z hz
   have hi:i<n:=by
    have:=(Zi2.1 hz).1
    omega
   obtain⟨b,hb,hf⟩:=Lib.mapM_at hm i i (by simp [hi])
   obtain⟨z',hc,h3,_⟩:=DataW.trod_string he hf
   have h1:cs[i]? = some (.string z'):=by
    have:=congrArg (·[0]?) hc
    simpa [List.getElem?_take,List.getElem?_drop] using this
   have h2:(xs.map (·.1))[i]? = some b.1:=by simp [hb]
   rw [hxs] at h2
   simp only [List.getElem?_map,hz,Zl2,Za1] at h2
   rw [h3] at h2
   simp only [DataW.lit.injEq,Lit.string.injEq] at h2
   rw [h1,h2]
  ·cases h
theorem Apj{W:World}{l:List (String×DataW Unit)}(h:laidMet Tryz.prog l W) {nm:String}{g t e:Nat}{n:Nat}{zs:List Str}(hin:(nm,DataW.agg (zs.map fun z =>.lit (.string z)))∈l) (hg:Tryz.prog.globalNamed nm=some g) (hgt:(Tryz.prog.globals[g]?).map (·.type)=some t)
  (ht:Tryz.prog.underlying t=some (.array n e)) (he:Tryz.prog.underlying e=some .string) (hce:Tryz.prog.cellsOf e=1) (hz:(zs.all fun z=>Nat.ble z.length maxLen)=true):GlE (v0 elT G1 W) g (.arr .str zs):=by
 obtain⟨ps,hl,_⟩:=h
 obtain⟨g',t',cs,fuel,p,h1,h2,h3,h4⟩:=Amr hl _ hin
 obtain rfl:=Option.some.inj (hg.symm.trans h1)
 obtain rfl:=Option.some.inj (hgt.symm.trans h2)
 have hc:=Akx ht he hce h4
 intro i y hy w' hw j d hd
 have hj:j=0∧d = .str y:=by
  cases j with
  |zero=>simpa [enc] using hd.symm
  |succ j=>simp [enc] at hd
 obtain⟨rfl,rfl⟩:=hj
 have h5:=World.var?_cell h1 h3 i
 rw [←Array.getElem?_toList,hc i y hy] at h5
 have hm:=Zg2.1 hz y (List.mem_of_getElem? hy)
 have e1:i*csz .str+0=i:=by simp [csz]
 exact⟨_,by rw [e1];exact hw.cell _ _ _ h5 (fun h=>h),.str y (Nat.le_of_ble_eq_true hm)⟩
theorem Bku:∀p,p∈signsL→Vl signsL p.1=p.2:=by decide
theorem Bj5(l:List (Int×Str)):∀n,(∀p,p∈l→p.1≠n)→Vl l n=[]:=by
 induction l with
 |nil=>intro n _;rfl
 |cons p l ih =>
  intro n h
  obtain⟨k,s⟩:=p
  have h1:k≠n:=h (k,s) (by simp)
  simp only [Vl,Zd1 h1]
  exact ih n fun p hp=>h p (by simp [hp])
theorem A7h{W:World}{l:List (String×DataW Unit)}(h:laidMet Tryz.prog l W) (hin:("exchequer/ast.signs",Rows.laid_exchequer_ast_signs)∈l):GlE (v0 elT G1 W) 0 (.map signsL):=by
 obtain⟨ps,hl,_⟩:=h
 obtain⟨g',t',cs,fuel,p,hg',ht',hvar,hd⟩:=Amr hl _ hin
 obtain rfl:=Option.some.inj ((show Tryz.prog.globalNamed "exchequer/ast.signs" = some 0 by kernel_rfl).symm.trans hg')
 obtain rfl:=Option.some.inj ((show(Tryz.prog.globals[0]?).map (·.type)=some 147 by kernel_rfl).symm.trans ht')
 obtain⟨b,es,clk,h1,h2,h3⟩:=Ava (l:=signsL) (t:=147) (k:=3) (e:=9) (by kernel_rfl) (by kernel_rfl) (by kernel_rfl) Bku (Bj5 signsL) hd
 have hc:=World.var?_cell hg' hvar 0
 have h1':cs = #[.map (some b)]:=by
  apply Array.ext'
  exact h1
 rw [h1'] at hc
 have hc:W.cell? ⟨0,0,none⟩=some (.map (some b)):=hc
 have hlt:b<W.heap.size:=(Zh2.1 h2).1
 exact⟨b,es,clk,fun w' hw=>⟨hw.cell _ 0 _ hc (fun h=>h),by rw [hw.block b hlt (fun _ h=>h)];exact h2⟩,h3⟩
theorem Bja{W:World}(h:W.ShapedOpen Tryz.prog):GlE (v0 elT G1 W) 3 (.num .i64):=by
 obtain⟨m,hm⟩:=Go.Proofs.cell_of_shapedOpen_int (zero := #[.int .i64 0]) (t:=3) (g:=3) h (of_decide_eq_true (by kernel_rfl)) (by kernel_rfl) rfl (by kernel_rfl) (by kernel_rfl) Tryz.underlying3
 exact⟨m,fun w' hw=>hw.cell _ 0 _ hm (fun h=>h)⟩
def Blw(l:List (String×DataW Unit)):Prop:=(l.all fun x=>x.2.handleName?.isNone)=true
 ∧ ("exchequer/lex.words",Rows.laid_exchequer_lex_words)∈l
 ∧ ("exchequer/ast.signs",Rows.laid_exchequer_ast_signs)∈l
 ∧ ("exchequer/ast.kinds",Rows.laid_exchequer_ast_kinds)∈l
 ∧ True
theorem Bjf{W:World}{l:List (String×DataW Unit)}(hl:Blw l) (hL:laidMetH Tryz.prog l W) (hS:W.ShapedOpen Tryz.prog):GlR (v0 elT G1 W) glT:=by
 have hL':laidMet Tryz.prog l W:=by
  have hf:(l.filter fun x=>x.2.handleName?.isSome)=[]:=List.filter_eq_nil_iff.2 fun x hx=>by
   have:=Zg2.1 hl.1 x hx
   rw [Option.isNone_iff_eq_none] at this
   simp [this]
  unfold laidMetH at hL
  rw [hf] at hL
  exact hL
 replace hl:=hl.2
 clear hL
 have _:=hS
 refine Bia fun p hp =>?_
 have hwords:GlE (v0 elT G1 W) 2 (.arr .str wordsL):=Apj (n:=36) (t:=221) (e:=9) hL' hl.1 (by kernel_rfl) (by kernel_rfl) (by kernel_rfl) (by kernel_rfl) (by kernel_rfl) (by kernel_rfl)
 replace hl:=hl.2
 have hsigns:=A7h hL' hl.1
 replace hl:=hl.2
 have hkinds:GlE (v0 elT G1 W) 1 (.arr .str kindsL):=Apj (n:=6) (t:=191) (e:=9) hL' hl.1 (by kernel_rfl) (by kernel_rfl) (by kernel_rfl) (by kernel_rfl) (by kernel_rfl) (by kernel_rfl)
 replace hl:=hl.2
 have hmax:=Bja hS
 simp only [List.mem_cons,List.not_mem_nil,or_false] at hp
 repeat' (first|(rcases hp with rfl|hp)|subst hp)
 all_goals assumption
def Bpo:DataW Unit→Value
 |.lit (.int k n) =>.int k n
 |.lit (.string s) =>.string ⟨s.toArray⟩
 |_ =>.int .u8 0
def Agj:DataW Unit→List Value
 |.agg l=>l.map Bpo
 |_=>[]
def Bnn:DataW Unit→List Value
 |.agg l=>l.flatMap Agj
 |_=>[]
def Alg(vs:List Value):Obj→Obj
 |.cells _ t frozen =>.cells vs.toArray t frozen
 |o=>o
noncomputable def Bd5 (h:Array Obj):Array Obj :=
 let h:=h.modify 2 (Alg (Agj Rows.laid_exchequer_lex_words))
 let h:=h.modify 1 (Alg (Agj Rows.laid_exchequer_ast_kinds))
 let h:=(h.modify 4 (Alg (Agj Rows.laid_unicode_utf8_first))).modify 5 (Alg (Bnn Rows.laid_unicode_utf8_acceptRanges))
 let h:=(h.modify 0 (Alg [.map (some h.size)])).push (.map ((signsL.zip (List.range 11)).map fun p=>(⟨.int .i64 p.1.1,.string ⟨p.1.2.toArray⟩,p.2⟩:MapEntry)).toArray 11)
 h
noncomputable def Agw (os:Os):World :=
 { World.holding Tryz.prog os ⟨#[], #[],[]⟩ with heap:=Bd5 (World.holding Tryz.prog os ⟨#[], #[],[]⟩).heap }
set_option maxRecDepth 100000 in
theorem A6m{H:Type}{R:Nat×Nat}{M:TypeId→DataW H→Prop}(hM:Msr Tryz.prog R M) {enc:TypeId×Value→H}{f:FuncId}{fn:Func}{sa:List Sg}{F:FT sa [.bool]}{s:ChangeSpec}(hok:FnOk Tryz.prog elT glT f sa [.bool] F) (hF:∀x,BdL sa x→SmL R sa x→F x=some true)
  (hr:fn.resultTypes = #[4]) (hv:s.vars=[]) (hf:∀ds,ds.length=fn.params.toList.length→(s.fn H ds).results=[.lit (.bool true)]∧(s.fn H ds).args=ds∧(s.fn H ds).vars=[])
  (hsg:Arb (Bd ttL) rdL fn.params.toList sa=true) (hread:(fn.params.toList.all fun t=>Tryz.prog.readableRec t&&Nat.blt t Tryz.prog.types.size)=true)
  {W:World}{base:Nat}{args:Array Value}{ds gs:List (DataW H)}{before:List MemPlace}(hval:∀(j:Nat) t v,fn.params[j]? = some t→args[j]? = some v→Value.okWide Tryz.prog W .any base t v)
  (hW:DataW.Whole enc Tryz.prog fn.params.toList s.vars false W args.toList ds gs before) (hgl:GlR (v0 elT G1 W) glT) (hsz:ds.length=fn.params.toList.length→∀(i:Nat) (t:TypeId) (d:DataW H),fn.params.toList[i]? = some t→ds[i]? = some d→M t d) :
  Calls Tryz.prog f args W fun e W'=>∃v,e = .returned v∧s.post enc Tryz.prog fn false true false false W args v W':=by
 have hW':=hW
 have hlt:=hW.lt
 obtain⟨p,q,hA,hV,rfl,hfz,hnd⟩:=hW
 rw [hv] at hV
 obtain⟨rfl,rfl⟩:=trodVars_none hV
 have hlen:=Axa hA
 obtain⟨x,hx,hsm⟩:=Aw3 hM (fun t=>Av An t) Bmo Bnj 0 hsg (fun j t v h1 h2=>hval j t v (by simpa using h1) (by simpa using h2)) hA
 have hcall:=hok.calls (hF x (Aev hx) (hsm (hsz hlen))) hgl hx
 have e1:args.toList.toArray=args:=by simp
 rw [e1] at hcall
 refine hcall.mono fun en W' =>?_
 rintro⟨rfl,hb⟩
 refine⟨_,rfl,?_⟩
 obtain⟨h1,h2,h3⟩:=hf ds hlen
 have e2:ds++([]:List (DataW H))=ds:=by simp
 refine⟨ds,[],_,[],p,[],hW',?_,?_,?_,hb.frame _,fun h=>by cases h⟩
 ·rw [e2,h1,hr]
  exact trodAll_cons_mk (shut_bool Tryz.underlying4 _) trodAll_mk0
 ·rw [e2,h2]
  refine Arf Bi9 hb (fun t ht =>?_) (fun x hx=>hlt x (by simp [hx])) hA
  have:=Zg2.1 hread t ht
  simp only [Zb1] at this
  exact⟨this.1,by simpa [Nat.blt_eq] using this.2⟩
 ·rw [e2,h3,hv];exact rfl
end Go.Proofs.YthndhaolemgbdaaGreatDoor
