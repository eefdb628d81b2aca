/- Texts of the proof,one behind the other: AxFr,Mu,Tl,Tm,Ye,Yg,Yh,Yi,Yj,Yk,Yl,Rq,Ub,AxFs,FrG. -/
import Derived.Test.YthndhaolemgbdaaGreatDoorR7
import Derived.ChangeArms
import Derived.WideShapes
import Derived.Carry
import Derived.ChangeShapes
import Derived.Lib.LaidTab
import Derived.SizedLaws
import Derived.Test.YthndhaolemgbdaaGreatDoorRows
import Derived.ProofKit
import Derived.ChangeMaps5
import Derived.ChangeAnyMap
import Derived.Test.YthndhaolemgbdaaGreatDoorCards
import Derived.Test.YthndhaolemgbdaaGreatDoorTie
import Derived.OpenShut
import Derived.Deep.DeepHandedRow
import Derived.Shelf.Vars
set_option linter.all false
namespace Go.Ax
open Go.RowKit Go.ChangeShapes
def shp:D→D→Bool
 |.int k _,.int k' _=>decide (k=k')
 |.bool _,.bool _=>true
 |.str _,.str _=>true
 |.sl c _ _,.sl c' _ _=>decide (c=c')
 |_,_=>false
def J7:List D→List D→Bool
 |[],[]=>true
 |a::l,b::m=>shp a b&&J7 l m
 |_,_=>false
theorem Bmd{a b c:D}(h:shp a b=true) (k:shp a c=true):shp b c=true:=by
 cases a<;>cases b<;>simp [shp] at h<;>cases c<;>simp [shp] at k<;>subst_vars<;>simp [shp]
theorem A21:∀{a b c:List D},J7 a b=true→J7 a c=true→J7 b c=true
 |[],[],[],_,_=>rfl
 |x::a,y::b,z::c,h,k=>by
  simp only [J7,Zb1] at h k ⊢
  exact⟨Bmd h.1 k.1,A21 h.2 k.2⟩
 |[],_::_,_,h,_=>by simp [J7] at h
 |_::_,[],_,h,_=>by simp [J7] at h
 |[],[],_::_,_,k=>by simp [J7] at k
 |_::_,_::_,[],_,k=>by simp [J7] at k
theorem Afe:∀{a b c d:List D},J7 a b=true→J7 c d=true→J7 (a++c) (b++d)=true
 |[],[],_,_,_,k=>k
 |_::a,_::b,_,_,h,k=>by
  simp only [J7,Zb1,Zb2] at h ⊢
  exact⟨h.1,Afe h.2 k⟩
 |[],_::_,_,_,h,_=>by simp [J7] at h
 |_::_,[],_,_,h,_=>by simp [J7] at h
theorem A1y{k:IntKind}{n:Int}{d:D}(h:shp (.int k n) d=true):∃m,d = .int k m:=by
 cases d<;>simp [shp] at h
 subst h
 exact⟨_,rfl⟩
theorem Bcp{b:Bool}{d:D}(h:shp (.bool b) d=true):∃m,d = .bool m:=by
 cases d<;>simp [shp] at h
 exact⟨_,rfl⟩
theorem A20{s:Str}{d:D}(h:shp (.str s) d=true):∃m,d = .str m:=by
 cases d<;>simp [shp] at h
 exact⟨_,rfl⟩
theorem Bai{c:Ck}{xs:List (El c)}{t:Tk}{d:D}(h:shp (.sl c xs t) d=true):∃ys u,d = .sl c ys u:=by
 cases d<;>simp [shp] at h
 subst h
 exact⟨_,_,rfl⟩
theorem Um{a:D}{l ds:List D}(h:J7 (a::l) ds=true):∃b m,ds=b::m∧shp a b=true∧J7 l m=true:=by
 cases ds with
 |nil=>simp [J7] at h
 |cons b m =>
  simp only [J7,Zb1] at h
  exact⟨b,m,rfl,h.1,h.2⟩
theorem Zc{ds:List D}(h:J7 [] ds=true):ds=[]:=by
 cases ds with
 |nil=>rfl
 |cons b m=>simp [J7] at h
theorem Amh{c:Ck}{z ds:List D}(h:(dec c z).isSome=true) (hs:J7 z ds=true):∃y,dec c ds=some y:=by
 obtain⟨y0,h⟩:=Option.isSome_iff_exists.1 h
 unfold dec at h
 split at h
 all_goals first
  |(cases h;done)
  |skip
 all_goals
  clear h
  repeat (
   obtain⟨b,m,e,h1,hs'⟩:=Um hs
   clear hs
   have hs:=hs'
   clear hs'
   subst e
   first
    |(obtain⟨_,e⟩:=A1y h1;subst e)
    |(obtain⟨_,e⟩:=Bcp h1;subst e)
    |(obtain⟨_,e⟩:=A20 h1;subst e)
    |(obtain⟨_,_,e⟩:=Bai h1;subst e))
  have e:=Zc hs
  subst e
  exact⟨_,rfl⟩
def R47:Nat:=140737488351232
def A16(R:Nat×Nat) (v:Val):Prop:=v.s.length≤R.1
inductive SmExpr (R:Nat×Nat):Xpr→Prop
 |mk (k:Int) (v:Val) (nm:Str) (l:List Xpr):A16 R v→nm.length≤R.1→l.length≤R.2→(∀e,e∈l→SmExpr R e)→SmExpr R (.mk k v nm l)
structure SmStm (R:Nat×Nat) (s:Stm):Prop where
 name:s.name.length≤R.1
 on:s.on.length≤R.1
 cols:s.cols.length≤R.2∧∀c,c∈s.cols→c.name.length≤R.1∧c.ref.length≤R.1
 names:s.names.length≤R.2∧∀x,x∈s.names→x.length≤R.1
 l:s.l.length≤R.2∧∀x,x∈s.l→SmExpr R x
 rows:s.rows.length≤R.2∧∀r,r∈s.rows→r.length≤R.2∧∀x,x∈r→SmExpr R x
 sets:s.sets.length≤R.2∧∀x,x∈s.sets→x.name.length≤R.1∧SmExpr R x.e
 whr:SmExpr R s.whr
 order:s.order.length≤R.2∧∀x,x∈s.order→x.length≤R.1
 desc:s.desc.length≤R.2
def Bjg(R:Nat×Nat) (x:Idx):Prop:=x.name.length≤R.1∧x.cols.length≤R.2∧∀s,s∈x.cols→s.length≤R.1
structure SmTbl (R:Nat×Nat) (t:Tbl):Prop where
 name:t.name.length≤R.1
 cols:t.cols.length≤R.2∧∀c,c∈t.cols→c.name.length≤R.1∧c.ref.length≤R.1
 key:t.key.length≤R.2∧∀x,x∈t.key→x.length≤R.1
 checks:t.checks.length≤R.2∧∀x,x∈t.checks→SmExpr R x
 idx:t.idx.length≤R.2∧∀x,x∈t.idx→Bjg R x
def SmK(R:Nat×Nat):(c:Ck)→El c→Prop
 |.str,s=>s.length≤R.1
 |.val,v=>A16 R v
 |.tok,t=>t.s.length≤R.1
 |.col,c=>c.name.length≤R.1∧c.ref.length≤R.1
 |.expr,e=>SmExpr R e
 |.vals,l=>l.length≤R.2∧∀x,x∈l→A16 R x
 |.exprs,l=>l.length≤R.2∧∀x,x∈l→SmExpr R x
 |.strs,l=>l.length≤R.2∧∀x,x∈l→x.length≤R.1
 |.set,s=>s.name.length≤R.1∧SmExpr R s.e
 |.stmt,s=>SmStm R s
 |.idx,x=>Bjg R x
 |.tbl,t=>SmTbl R t
 |_,_=>True
def SmD(R:Nat×Nat):D→Prop
 |.str l=>l.length≤R.1
 |.sl c xs _=>xs.length≤R.2∧∀x,x∈xs→SmK R c x
 |_=>True
def SmS(R:Nat×Nat):(s:Sg)→den s→Prop
 |.str,s=>s.length≤R.1
 |.sl c _,xs=>xs.length≤R.2∧∀x,x∈xs→SmK R c x
 |.sv c,x=>SmK R c x
 |_,_=>True
def SmL(R:Nat×Nat):(l:List Sg)→HV l→Prop
 |[],_=>True
 |[a],x=>SmS R a x
 |a::b::l,(x,y)=>SmS R a x∧SmL R (b::l) y
theorem Bc2{R:Nat×Nat}{c:Ck}{ds:List D}{y:El c}(h:dec c ds=some y) (hd:∀d,d∈ds→SmD R d):SmK R c y:=by
 unfold dec at h
 split at h<;>simp only [Za1,reduceCtorEq] at h<;>subst h<;>simp only [List.mem_cons,List.not_mem_nil,or_false,forall_eq_or_imp,forall_eq,SmD] at hd<;>simp only [SmK,A16]<;>first
  |trivial
  |exact hd
  |exact hd.2.2
  |exact hd.2.2.1
  |exact⟨hd.1,hd.2.2.2.2⟩
  |exact .mk _ _ _ _ hd.2.2.2.1 hd.2.2.2.2.1 hd.2.2.2.2.2.1 hd.2.2.2.2.2.2
  |exact⟨hd.1,.mk _ _ _ _ hd.2.2.2.2.1 hd.2.2.2.2.2.1 hd.2.2.2.2.2.2.1 hd.2.2.2.2.2.2.2⟩
  |exact⟨hd.1,hd.2.1,hd.2.2.1,hd.2.2.2.1,hd.2.2.2.2⟩
  |(obtain⟨_,h1,h2,h3,h4,h5,h6,h7,_,_,_,_,w1,w2,w3,h8,h9,_⟩:=hd
    exact⟨h1,h2,h3,h4,h5,h6,h7,.mk _ _ _ _ w1 w2 w3.1 w3.2,h8,h9.1⟩)
theorem Wh{H:Type}{P:Program}{e:TypeId}:∀{l:List (DataW H)}{d:DataW H},d∈l→∀n∈d.weights P e,n∈DataW.weightsAll P e l
 |[],_,h,_,_=>by cases h
 |x::l,d,h,n,hn=>by
  simp only [DataW.weightsAll,List.mem_append]
  rcases List.mem_cons.1 h with rfl|h
  ·exact .inl hn
  ·exact .inr (Wh h n hn)
structure Msr {H:Type}(P:Program) (R:Nat×Nat) (M:TypeId→DataW H→Prop):Prop where
 str:∀(t:TypeId) (s:List UInt8),M t (.lit (.string s))→s.length≤R.1
 sl:∀(t e:TypeId) (l r:List (DataW H)),P.underlying t=some (.slice e)→1≤P.bytesOf e→M t (.slice l r)→l.length≤9223372036854775807→l.length≤R.2∧∀d,d∈l→M e d
 agg:∀(t:TypeId) (fds:Array Field) (l:List (DataW H)) (i:Nat) (fd:Field) (d:DataW H),P.underlying t=some (.struct fds)→M t (.agg l)→fds[i]? = some fd→l[i]? = some d→M fd.type d
theorem Aso{H:Type}(P:Program):Msr (H:=H) P (R47,R47) fun t d=>∀n,n∈d.weights P t→n≤R47 where
 str:=fun t s h=>h _ (by simp [DataW.weights])
 sl:=fun t e l r hu hz h _=>⟨by
  have h1:=h ((l.length+r.length)*P.bytesOf e) (by simp only [DataW.weights,hu,List.mem_cons,true_or])
  have h2:(l.length+r.length)*1≤(l.length+r.length)*P.bytesOf e:=Nat.mul_le_mul_left _ hz
  omega,fun d hd n hn=>h n (by
  simp only [DataW.weights,hu,List.mem_cons,List.mem_append]
  exact .inr (.inl (Wh hd n hn)))⟩
 agg:=fun t fds l i fd d hu h hf hd n hn=>h n (by
  simp only [DataW.weights,hu]
  exact DataW.weights_mem_each (j:=i) (t:=fd.type) (d:=d) (by simp [hf]) hd n hn)
def zc(t:Ty):List D:=match t.zero with
 |some z=>cells z
 |none=>[]
def Ai8(tt:Nat→Ty) (rd:List Nat):Nat→List (Nat×Nat)→List D→Bool
 |_,[],z=>z.isEmpty
 |o,(o',u)::fs,z=>Nat.beq o' o&&rd.contains u&&Nat.ble (zc (tt u)).length z.length&&J7 (zc (tt u)) (z.take (zc (tt u)).length)&&Ai8 tt rd (o+(zc (tt u)).length) fs (z.drop (zc (tt u)).length)
def A8z(el:Ck→TypeId) (tt:Nat→Ty) (rd:List Nat) (t:Nat):Bool:=match tt t with
 |.int _|.bool|.str=>true
 |.sl c=>rd.contains (el c)&&(dec c (zc (tt (el c)))).isSome
 |.st _ fs z=>Ai8 tt rd 0 fs z
 |_=>false
def rdB(el:Ck→TypeId) (tt:Nat→Ty) (rd:List Nat):Bool:=rd.all fun t=>A8z el tt rd t&&Nat.beq (zc (tt t)).length (tt t).n
def szB(P:Program) (el:Ck→TypeId) (tt:Nat→Ty) (rd:List Nat):Bool:=rd.all fun t=>match tt t with
 |.sl c=>Nat.ble 1 (P.bytesOf (el c))
 |_=>true
theorem Aem{α:Type}{p:Nat→α→Prop}:∀(n:Nat),(∀i,i<n→∃y,p i y)→∃ys:List α,ys.length=n∧∀i y,ys[i]? = some y→p i y
 |0,_=>⟨[],rfl,by simp⟩
 |n+1,h=>by
  obtain⟨ys,h1,h2⟩:=Aem n (fun i hi=>h i (by omega))
  obtain⟨y,hy⟩:=h n (by omega)
  refine⟨ys++[y],by simp [h1],fun i z hz =>?_⟩
  rcases Nat.lt_trichotomy i n with hi|rfl|hi
  ·rw [List.getElem?_append_left (by omega)] at hz
   exact h2 i z hz
  ·rw [List.getElem?_append_right (by omega),h1] at hz
   simp at hz
   subst hz
   exact hy
  ·rw [List.getElem?_eq_none (by simp;omega)] at hz
   cases hz
section
variable {H:Type}{enc':TypeId×Value→H}{P:Program}{el:Ck→TypeId}{tt:Nat→Ty}{rd:List Nat}{w:World}{sp:Nat→Bool}{held:Bool}
theorem W8{t:TypeId}{n:Nat}(h:Sx.tySz P t=some n):P.cellsOf t=n:=by
 unfold Sx.tySz at h
 simp [Program.cellsOf,h]
theorem Aik{a:Addr}{n:Nat}{vs:List Value}(h:w.cells? 0 a n=some vs):vs.length=n∧∀j u,vs[j]? = some u→w.cell? (a.add j)=some u:=by
 unfold World.cells? at h
 simp only [Nat.zero_le,if_true] at h
 refine⟨by simpa using Lib.mapM_length h,fun j u hj =>?_⟩
 have hlt:j<n:=by
  have:=Lib.mapM_length h
  have h2:=(Zi2.1 hj).1
  simp at this
  omega
 obtain⟨u',hu,hf⟩:=Lib.mapM_at h j j (by simp [hlt])
 rw [hj] at hu
 simp only [Za1] at hu
 subst hu
 exact hf
theorem Azn{a:Addr}{u:Value}(h:w.cell? a=some u):a.spot=none:=by
 unfold World.cell? at h
 split at h
 ·split at h
  ·cases h
  ·rename_i hs
   cases hq:a.spot with
   |none=>rfl
   |some q=>rw [hq] at hs;simp at hs
 ·cases h
theorem Aqe{R:Nat×Nat}{M:TypeId→DataW H→Prop}(hM:Msr P R M) (hT:∀t,Df P el tt t=true) (hrd:rdB el tt rd=true) (hsb:szB P el tt rd=true):∀(fuel:Nat) (t:TypeId) (cs:List Value) (x:DataW H×List MemPlace),rd.contains t=true→DataW.trod enc' P w 0 sp held fuel t cs=some x→∃ds,J7 (zc (tt t)) ds=true∧Reps (v0 el Fw w) ds cs∧(M t x.1→∀d,d∈ds→SmD R d)
 |0,t,cs,x,_,h=>by simp [DataW.trod] at h
 |fuel+1,t,cs,x,hc,h=>by
  have hloc:=Zg2.1 hrd t (by simpa using hc)
  simp only [Zb1] at hloc
  obtain⟨hloc,hzl⟩:=hloc
  have hzl:=Zl1 hzl
  have hszB:=Zg2.1 hsb t (by simpa using hc)
  unfold A8z at hloc
  split at hloc
  ·rename_i k hty
   have hu:=Sx.tyI_spec (Ag3 (hT t) hty)
   obtain⟨n,rfl,_,hw⟩:=DataW.trod_int hu h
   refine⟨[.int k n],by(rw [hty];show(decide (k=k)&&true)=true;simp),?_,fun _ d hd=>by simp only [List.mem_singleton] at hd;subst hd;trivial⟩
   simp only [Reps,Rep]
   exact⟨_,_,rfl,⟨rfl,hw⟩,rfl⟩
  ·rename_i hty
   have hu:=Sx.tyB_spec (Ab5 (hT t) hty)
   obtain⟨b,rfl,_⟩:=DataW.trod_bool hu h
   refine⟨[.bool b],by rw [hty];rfl,?_,fun _ d hd=>by simp only [List.mem_singleton] at hd;subst hd;trivial⟩
   simp only [Reps,Rep]
   exact⟨_,_,rfl,rfl,rfl⟩
  ·rename_i hty
   have hu:=Sx.tyS_spec (Ic (hT t) hty)
   obtain⟨s,rfl,rfl,hs⟩:=DataW.trod_string hu h
   refine⟨[.str s.data.toList],by rw [hty];rfl,?_,fun hwt d hd=>by
    simp only [List.mem_singleton] at hd
    subst hd
    exact hM.str _ _ hwt⟩
   simp only [Reps,Rep]
   exact⟨_,_,rfl,⟨(by rw [Array.toArray_toList]),(by rw [Array.length_toList];exact hs)⟩,rfl⟩
  ·rename_i c hty
   simp only [Zb1] at hloc
   obtain⟨hel,hdec⟩:=hloc
   have hbz : 1≤P.bytesOf (el c):=by
    rw [hty] at hszB
    exact Nat.le_of_ble_eq_true hszB
   obtain⟨by_,hE,_,_⟩:=Dz (hT t) hty
   have hu:=hE.und
   obtain⟨_,i0,z,hi0,hz,hsz,_⟩:=hE
   have hco:P.cellsOf (el c)=csz c:=W8 (by simp [Sx.tySz,hi0,hsz])
   rcases DataW.trod_slice hu h with ⟨rfl,_⟩|⟨a,len,cap,elems,rest,n,hf,rfl,rfl,_,hle,hmax,hlen,hel2,_⟩
   ·refine⟨[.sl c [] .no],by(rw [hty];show(decide (c=c)&&true)=true;simp),?_,fun _ d hd=>by
     simp only [List.mem_singleton] at hd
     subst hd
     exact⟨Nat.zero_le _,fun x hx=>by cases hx⟩⟩
    simp only [Reps,Rep]
    exact⟨_,_,rfl,⟨fun _ _ =>.nil _ _ _ _,trivial⟩,rfl⟩
   ·have hf:fuel=n:=by omega
    subst hf
    have each:∀i,i<len→∃y:El c,(∃vs:List Value,w.cells? 0 (a.add (i*csz c)) (csz c)=some vs∧ElR (v0 el Fw w) c y vs)∧(M t (DataW.slice (elems.map (·.1)) (rest.map (·.1)))→SmK R c y):=fun i hi=>by
     have h1:=hel2 i hi
     have hsome:∃e,elems[i]? = some e:=⟨_,Zo1 (by omega)⟩
     obtain⟨e,he⟩:=hsome
     rw [he] at h1
     obtain⟨vs,hv,ht⟩:=Option.bind_eq_some_iff.1 h1
     rw [hco] at hv
     obtain⟨ds,hs,hr,hsm⟩:=Aqe hM hT hrd hsb fuel (el c) vs e hel ht
     obtain⟨y,hy⟩:=Amh hdec hs
     exact⟨y,⟨vs,hv,Sk hy hr⟩,fun hwt=>Bc2 hy (hsm ((hM.sl _ _ _ _ hu hbz hwt (by have:maxLen=9223372036854775807:=rfl;simp only [List.length_map];omega)).2 e.1 (List.mem_map.2 ⟨e,List.mem_of_getElem? he,rfl⟩)))⟩
    obtain⟨ys,hyl,hys'⟩:=Aem len each
    have hys:=fun i y hy=>(hys' i y hy).1
    refine⟨[.sl c ys .no],by(rw [hty];show(decide (c=c)&&true)=true;simp),?_,fun hwt d hd=>by
     simp only [List.mem_singleton] at hd
     subst hd
     refine⟨?_,fun y hy =>?_⟩
     ·have:=(hM.sl _ _ _ _ hu hbz hwt (by have:maxLen=9223372036854775807:=rfl;simp only [List.length_map];omega)).1
      simp only [List.length_map] at this
      omega
     ·obtain⟨i,hi,rfl⟩:=List.getElem_of_mem hy
      exact(hys' i _ (Zo1 hi)).2 hwt⟩
    simp only [Reps,Rep]
    refine⟨_,_,rfl,⟨Nz hyl.symm ?_,trivial⟩,rfl⟩
    by_cases h0:ys=[]
    ·exact .inl h0
    ·right
     have hsn:a.spot=none:=by
      have hlt : 0<ys.length:=List.length_pos_iff.2 h0
      obtain⟨vs,hv,hE⟩:=hys 0 _ (Zo1 hlt)
      obtain⟨h1,h2⟩:=Aik hv
      have hp:=Apd c
      have:=h2 0 _ (Zo1 (by omega))
      simp only [Nat.zero_mul,Addr.add,if_true] at this
      exact Azn this
     obtain⟨b,o,s⟩:=a
     simp only at hsn
     subst hsn
     refine⟨b,o,rfl,⟨by omega,hmax⟩,fun i y hy w' hw j d hd =>?_⟩
     obtain⟨vs,hv,hE⟩:=hys i y hy
     obtain⟨_,h2⟩:=Aik hv
     obtain⟨u,hu',hf⟩:=hE.2 j d hd
     have hcell:=h2 j u hu'
     rw [Sx.add_mk,Sx.add_mk] at hcell
     exact⟨u,hw.cell b _ u hcell (fun h=>h),hf w' hw⟩
  ·rename_i cc fs z hty
   have hbase:=D9 (hT t) (by rw [hty];simp)
   have hsz:P.cellsOf t=z.length:=by
    have:=W8 hbase.2.2
    rw [this,hty]
    rfl
   have hok:=hT t
   unfold Df at hok
   rw [hty] at hok
   simp only [Zb1] at hok
   have hfl:=hok.2
   split at hfl
   ·rename_i fds hu
    simp only [Zb1] at hfl
    have hfl:=hfl.1
    obtain⟨xs,n,hf,rfl,hcl,hxl,hfx⟩:=DataW.trod_struct hu h
    have hf:fuel=n:=by omega
    subst hf
    have key:∀(l:List (Nat×Nat)) (i o:Nat) (z':List D),fs.drop i=l→Ai8 tt rd o l z' = true→o+z'.length=cs.length→∃ds,J7 z' ds=true∧Reps (v0 el Fw w) ds (cs.drop o)∧(M t (DataW.agg (xs.map (·.1)))→∀d,d∈ds→SmD R d):=by
     intro l
     induction l with
     |nil =>
      intro i o z' _ hct ho
      simp only [Ai8,List.isEmpty_iff] at hct
      subst hct
      refine⟨[],rfl,?_,fun _ d hd=>by cases hd⟩
      rw [Zk1 (by simp at ho;omega)]
      simp [Reps]
     |cons q l ih =>
      intro i o z' hd hct ho
      obtain⟨o',u⟩:=q
      simp only [Ai8,Zb1] at hct
      obtain⟨⟨⟨⟨ho',hcu⟩,hle⟩,hsh⟩,hct⟩:=hct
      have ho':=Zl1 ho'
      subst ho'
      have hle:=Nat.le_of_ble_eq_true hle
      have hget:fs[i]? = some (o',u):=by
       have:=congrArg (·[0]?) hd
       simpa [List.getElem?_drop] using this
      obtain⟨fd,g1,g2,g3,_⟩:=Ab1 hfl hget
      have g1':fds[i]? = some fd:=by simpa using g1
      have h1:=hfx i fd g1'
      rw [g2,g3] at h1
      have hxi:∃e,xs[i]? = some e:=⟨_,Zo1 (by
       have:=(Zh2.1 g1').1
       omega)⟩
      obtain⟨e,he⟩:=hxi
      rw [he] at h1
      have hlu:=Zg2.1 hrd u (by simpa using hcu)
      simp only [Zb1] at hlu
      have hnu:=Zl1 hlu.2
      have hneu:tt u ≠ .no:=by
       intro e
       have:=hlu.1
       unfold A8z at this
       rw [e] at this
       cases this
      have hcou:P.cellsOf u=(zc (tt u)).length:=by rw [W8 (D9 (hT u) hneu).2.2,hnu]
      rw [hcou] at h1
      obtain⟨ds1,s1,r1,m1⟩:=Aqe hM hT hrd hsb fuel u _ e hcu h1
      obtain⟨ds2,s2,r2,m2⟩:=ih (i+1) (o'+(zc (tt u)).length) _ (by rw [←List.drop_drop,hd];rfl) hct (by simp;omega)
      refine⟨ds1++ds2,?_,?_,fun hwt d hd=>by
       rcases List.mem_append.1 hd with hd|hd
       ·refine m1 ?_ d hd
        rw [←g2]
        exact hM.agg _ _ _ i fd e.1 hu hwt g1' (by rw [List.getElem?_map,he];rfl)
       ·exact m2 hwt d hd⟩
      ·rw [←List.take_append_drop (zc (tt u)).length z']
       exact Afe (A21 hsh s1) s2
      ·have:=r1.append r2
       rwa [←List.drop_drop,List.take_append_drop] at this
    obtain⟨ds,h1,h2,h3⟩:=key fs 0 0 z rfl hloc (by rw [hcl,hsz];omega)
    exact⟨ds,by simpa [hty,zc,Ty.zero,cells] using h1,by simpa using h2,h3⟩
   ·cases hfl
  ·cases hloc
def Bhc(tt:Nat→Ty) (rd:List Nat) (t:Nat) (s:Sg):Bool:=rd.contains t&&match tt t,s with
 |.int k,.int k'=>decide (k=k')
 |.bool,.bool=>true
 |.str,.str=>true
 |.sl c,.sl c' false=>decide (c=c')
 |.st (some c) _ _,.sv c'=>decide (c=c')&&agg? c&&(dec c (zc (tt t))).isSome
 |_,_=>false
theorem Bhb{R:Nat×Nat}{M:TypeId→DataW H→Prop}(hM:Msr P R M) (hT:∀t,Df P el tt t=true) (hrd:rdB el tt rd=true) (hsb:szB P el tt rd=true) {t:TypeId}{s:Sg}(hs:Bhc tt rd t s=true) {r:Reach}{b0:Nat}{v:Value}{d:DataW H}{ps:List MemPlace}(hval:Value.okWide P w r b0 t v) (h:DataW.Trod enc' P w 0 sp held t v d ps) (i:Nat):∃y:den s,Rep (v0 el Fw w) (Dk i s y) v∧(M t d→SmS R s y):=by
 obtain⟨fuel,h⟩:=h
 simp only [Bhc,Zb1] at hs
 obtain⟨hc,hs⟩:=hs
 obtain⟨ds,hsh,hr,hsm⟩:=Aqe hM hT hrd hsb fuel t _ _ hc h
 have hsm:M t d→∀d,d∈ds→SmD R d:=hsm
 split at hs
 ·rename_i k k' hty
  simp only [Zg1] at hs
  subst hs
  obtain⟨n,rfl⟩:=WideShapes.okWide_int (Sx.tyI_spec (Ag3 (hT t) hty)) hval
  simp only [hty,zc,Ty.zero,cells] at hsh
  obtain⟨b,m,rfl,h1,h2⟩:=Um hsh
  obtain rfl:=Zc h2
  obtain⟨n',rfl⟩:=A1y h1
  simp only [Value.cells,Reps] at hr
  obtain⟨u,us,e,hr,_⟩:=hr
  simp only [Ze2] at e
  obtain⟨rfl,_⟩:=e
  exact⟨n',hr,fun _=>trivial⟩
 ·rename_i hty
  obtain⟨n,rfl⟩:=WideShapes.okWide_bool (Sx.tyB_spec (Ab5 (hT t) hty)) hval
  exact⟨n,by simp only [Dk,Rep],fun _=>trivial⟩
 ·rename_i hty
  obtain⟨n,rfl⟩:=WideShapes.okWide_string (Sx.tyS_spec (Ic (hT t) hty)) hval
  simp only [hty,zc,Ty.zero,cells] at hsh
  obtain⟨b,m,rfl,h1,h2⟩:=Um hsh
  obtain rfl:=Zc h2
  obtain⟨n',rfl⟩:=A20 h1
  simp only [Value.cells,Reps] at hr
  obtain⟨u,us,e,hr,_⟩:=hr
  simp only [Ze2] at e
  obtain⟨rfl,_⟩:=e
  exact⟨n',hr,fun hwt=>hsm hwt (.str n') (by simp)⟩
 ·rename_i c c' hty
  simp only [Zg1] at hs
  subst hs
  obtain⟨by_,hE,_,_⟩:=Dz (hT t) hty
  have hv:v.cells.toList=[v]:=by
   have hu:=hE.und
   simp only [Value.okWide,hu,Cell.okWide] at hval
   cases v<;>first|rfl|(simp [Cell.ok,hu] at hval;done)|(exfalso;simp_all [Cell.ok])
  rw [hv] at hr
  simp only [hty,zc,Ty.zero,cells] at hsh
  obtain⟨b,m,rfl,h1,h2⟩:=Um hsh
  obtain rfl:=Zc h2
  obtain⟨ys,u,rfl⟩:=Bai h1
  simp only [Reps] at hr
  obtain⟨u',us,e,hr,_⟩:=hr
  simp only [Ze2] at e
  obtain⟨rfl,_⟩:=e
  refine⟨ys,?_,fun hwt=>hsm hwt (.sl c ys u) (by simp)⟩
  simp only [Dk,Rep] at hr ⊢
  exact⟨hr.1,trivial⟩
 ·rename_i c fs z c' hty
  simp only [Zb1,Zg1] at hs
  obtain⟨⟨rfl,ha⟩,hdec⟩:=hs
  obtain⟨y,hy⟩:=Amh hdec hsh
  have hE:=Sk hy hr
  have hv:∃cs,v = .agg cs:=by
   have hok:=hT t
   unfold Df at hok
   rw [hty] at hok
   simp only [Zb1] at hok
   have hfl:=hok.2
   split at hfl
   ·rename_i fds hu
    simp only [Value.okWide,hu] at hval
    obtain⟨cs,h1,_⟩:=hval
    exact⟨cs,h1⟩
   ·cases hfl
  obtain⟨cs,rfl⟩:=hv
  refine⟨y,?_,fun hwt=>Bc2 hy (hsm hwt)⟩
  simp only [Dk,Rep]
  exact⟨ha,cs.toList,by simp,by simpa [Value.cells] using hE.1,by simpa [Value.cells] using hE.2⟩
 ·cases hs
def Ami(tt:Nat→Ty) (rd:List Nat):List TypeId→List Sg→Bool
 |[],[]=>true
 |t::ts,s::ss=>Bhc tt rd t s&&Ami tt rd ts ss
 |_,_=>false
theorem At1{R:Nat×Nat}{M:TypeId→DataW H→Prop}(hM:Msr P R M) (hT:∀t,Df P el tt t=true) (hrd:rdB el tt rd=true) (hsb:szB P el tt rd=true) {r:Reach}{b0:Nat}:∀{ts:List TypeId}{sa:List Sg}{vs:List Value}{ds:List (DataW H)}{ps:List MemPlace}(i:Nat),Ami tt rd ts sa=true→(∀(j:Nat) t v,ts[j]? = some t→vs[j]? = some v→Value.okWide P w r b0 t v)→DataW.TrodAll enc' P w 0 sp held ts vs ds ps→∃x:HV sa,Reps (v0 el Fw w) (Cp i sa x) vs∧((∀(i:Nat) (t:TypeId) (d:DataW H),ts[i]? = some t→ds[i]? = some d→M t d)→SmL R sa x)
 |[],[],vs,ds,ps,i,_,_,h=>by
  cases vs with
  |nil=>exact⟨(),by simp [Cp,Reps],fun _=>trivial⟩
  |cons v vs=>cases ds<;>simp [DataW.TrodAll] at h
 |t::ts,[],_,_,_,_,hs,_,_=>by simp [Ami] at hs
 |[],s::ss,_,_,_,_,hs,_,_=>by simp [Ami] at hs
 |t::ts,s::ss,vs,ds,ps,i,hs,hval,h=>by
  simp only [Ami,Zb1] at hs
  obtain⟨v,vs',d,ds',p,q,rfl,rfl,rfl,hd,hrest⟩:=trodAll_cons h
  obtain⟨y,hy,hsy⟩:=Bhb hM hT hrd hsb hs.1 (hval 0 t v rfl rfl) hd i
  obtain⟨z,hz,hsz⟩:=At1 hM hT hrd hsb (i+1) hs.2 (fun j t' v' h1 h2=>hval (j+1) t' v' (by simpa using h1) (by simpa using h2)) hrest
  cases ss with
  |nil =>
   refine⟨y,?_,fun hwt=>hsy (hwt 0 t d rfl rfl)⟩
   simp only [Cp,Reps] at hz ⊢
   exact⟨v,vs',rfl,hy,hz⟩
  |cons s' ss =>
   refine⟨(y,z),?_,fun hwt=>⟨hsy (hwt 0 t d rfl rfl),hsz fun j t' d' h1 h2=>hwt (j+1) t' d' (by simpa using h1) (by simpa using h2)⟩⟩
   simp only [Cp,Reps]
   exact⟨v,vs',rfl,hy,hz⟩
theorem Aoz(hl:laidOutB P=true) {W W':World}(hb:Below W.heap.size W W'):∀{ts:List TypeId}{vs:List Value}{ds:List (DataW H)}{ps:List MemPlace},(∀t,t∈ts→P.readableRec t=true∧t<P.types.size)→(∀x∈ps,x.block<W.heap.size)→DataW.TrodAll enc' P W 0 (fun _=>true) true ts vs ds ps→DataW.TrodAll enc' P W' 0 (fun b=>decide (b<W.heap.size)) true ts vs ds ps
 |[],vs,ds,ps,_,_,h=>by
  cases vs<;>cases ds<;>simp [DataW.TrodAll] at h ⊢
  exact h
 |t::ts,vs,ds,ps,ht,hlt,h=>by
  obtain⟨v,vs',d,ds',p,q,rfl,rfl,rfl,hd,hrest⟩:=trodAll_cons h
  obtain⟨h1,h2⟩:=ht t (by simp)
  exact⟨p,q,Below.trod hl h1 h2 hd hb (fun x hx=>hlt x (by simp [hx])),Aoz hl hb (fun t' h'=>ht t' (by simp [h'])) (fun x hx=>hlt x (by simp [hx])) hrest,rfl⟩
end
end Go.Ax
namespace Go.Proofs.YthndhaolemgbdaaGreatDoor
open Go.Ax
def bare(l:List Xpr):Xpr :=.mk 0 ⟨0,0,[]⟩ [] l
def n0(s:Stm) (most:Int):Int:=wr .i64 (wr .i64 (wr .i64 (wr .i64 (wr .i64 (wr .i64 ((s.cols.length:Int)+(s.names.length:Int))+(s.order.length:Int))+(s.desc.length:Int))+wr .i64 (Int.tdiv (wr .i64 ((s.name.length:Int)+(s.on.length:Int))) 30))+Bc6 s.whr most)+Bc6 (bare s.l) most)
structure Few (s:Stm):Prop where
 cols:s.cols.length≤3100
 names:s.names.length≤3100
 order:s.order.length≤3100
 desc:s.desc.length≤3100
 name:s.name.length+s.on.length≤20000
 whr:Bi s.whr≤6200
 l:esizes s.l≤6200
 rows:s.rows.length≤3100∧∀r,r∈s.rows→esizes r≤6200
 sets:s.sets.length≤3100∧∀x,x∈s.sets→Bi x.e≤6200
end Go.Proofs.YthndhaolemgbdaaGreatDoor
namespace Go.Proofs.YthndhaolemgbdaaGreatDoor
open Go.Ax
theorem Au9{n:Int}(h:inI n):(Awj n).length≤21:=by
 have hd:(J4 n.natAbs).length≤20:=Aja 20 _ (by
  simp only [inI] at h
  have:pw 20=100000000000000000000:=by kernel_rfl
  omega)
 have ht:(if n=0 then([48]:Str) else txt (J4 n.natAbs)).length≤20:=by
  split
  ·simp
  ·rw [A19];exact hd
 unfold Awj
 simp only
 split
 ·simp only [Zf1];omega
 ·omega
theorem A5j{v:Val}(h:B4 v=true) (hn:inI v.n):(Bf v).length≤2003:=by
 simp only [Bf,h,Ae]
 split
 ·split<;>simp
 ·split
  ·have:=Au9 hn
   omega
  ·split
   ·rename_i h4
    have h1:=N5 h (.inl h4)
    have h2:=Apw v.s
    simp only [Zf1,Zh1,Zi1];omega
   ·split
    ·rename_i h5
     have h1:=N5 h (.inr h5)
     have h2:=Zo v.s
     simp only [Zf1,Zh1,Zi1];omega
    ·simp
theorem Im{s:Str}(h:Bm s=true):s.length≤30:=by
 have h:Lp.nameF s=true:=h
 simp only [Lp.nameF,Zb1,Zg1] at h
 omega
theorem Bim{k:Int}(h:Ajk k):(sgn k).length≤3:=by
 simp only [Ajk] at h
 have:k=4∨k=5∨k=6∨k=7∨k=8∨k=9∨k=10∨k=11∨k=12∨k=13∨k=14:=by omega
 rcases this with rfl|rfl|rfl|rfl|rfl|rfl|rfl|rfl|rfl|rfl|rfl<;>decide
theorem Jc(k:Int) (v:Val) (s:Str) (x:Xpr):Bi (.mk k v s [x])=2+Bi x:=by
 simp only [Bi,esizes];omega
theorem Ame(k:Int) (v:Val) (s:Str) (x y:Xpr):Bi (.mk k v s [x,y])=3+(Bi x+Bi y):=by
 simp only [Bi,esizes];omega
theorem A37:∀(n:Nat) (e:Xpr) (m:Int),Bi e≤n→Bl e m=true→BdExpr e→(etx e).length≤4000*Bi e
 |0,e,_,h,_,_=>by have:=Hw e;omega
 |n+1,e,m,h,hr,hb=>by
  have ih:∀x,x∈e.l→(etx x).length≤4000*Bi x:=fun x hx=>by
   obtain⟨m',hm⟩:=Alf hr hx
   refine A37 n x m' ?_ hm ((Ae9 hb).2 x hx)
   have:=E7 hx
   rw [Ln] at h
   omega
  have sh:=At0 hr
  cases sh with
  |atom _ hk =>
   obtain⟨_,ho,_⟩:=Gf hr
   have hp:=Hw e
   rw [Axp]
   rcases hk with k1|k2
   ·rw [if_pos k1]
    have:=A5j (A22 ho k1).1 (Bns hb).1.2.1
    omega
   ·rw [if_neg (by omega),if_pos k2]
    have:=Im (Au8 ho k2).1
    omega
  |not x =>
   have:=ih x Zr1
   rw [Age,Jc]
   simp only [Zf1,Zh1,Zi1]
   omega
  |neg x =>
   have:=ih x Zr1
   rw [Arv,Jc]
   simp only [Zf1,Zh1,Zi1]
   omega
  |isn x =>
   have:=ih x Zr1
   rw [Agc,Jc]
   simp only [Zf1,Zh1,Zi1]
   omega
  |op k x y hk =>
   have h1:=ih x Zr1
   have h2:=ih y (by simp [Xpr.l])
   have h3:=Bim hk
   rw [Aw3 hk,Ame]
   simp only [Zf1,Zh1,Zi1]
   omega
theorem Apq{e:Xpr}{m:Int}(hr:Bl e m=true) (hb:BdExpr e):(etx e).length≤4000*Bi e:=A37 (Bi e) e m (Zn1 _) hr hb
end Go.Proofs.YthndhaolemgbdaaGreatDoor
namespace Go.Proofs.YthndhaolemgbdaaGreatDoor
open Go.Ax
theorem At6{α:Type}(f : α→Str) (B:Nat):∀l:List α,(∀x,x∈l→(f x).length≤B)→(Dj f l).length≤l.length*(B+2)
 |[],_=>by simp [Dj]
 |x::l,h=>by
  have h1:=h x Zr1
  have h2:=At6 f B l fun y hy=>h y (Zu1 _ hy)
  simp only [Dj,Zh1,Zf1,Zi1]
  rw [Nat.add_mul]
  omega
theorem On{α:Type}(f : α→Str) (B:Nat) (l:List α) (h:∀x,x∈l→(f x).length≤B):(Bj f l).length≤l.length*(B+2):=by
 have:=At6 f B l h
 cases l with
 |nil=>simp [Bj]
 |cons x l =>
  simp only [Dj,Bj,Zh1,Zf1,Zi1] at this ⊢
  omega
theorem Am5:∀l:List Xpr,(∀x,x∈l→RX x)→(Dj etx l).length≤4002*esizes l
 |[],_=>by simp [Dj]
 |x::l,h=>by
  have hx:=h x Zr1
  have h1:=Apq hx.1 hx.2
  have h2:=Am5 l fun y hy=>h y (Zu1 _ hy)
  simp only [Dj,esizes,Zh1,Zf1,Zi1]
  omega
theorem Ao6(l:List Xpr) (h:∀x,x∈l→RX x):(Bj etx l).length≤4002*esizes l:=by
 have:=Am5 l h
 cases l with
 |nil=>simp [Bj]
 |cons x l =>
  simp only [Dj,Bj,Zh1,Zf1,Zi1] at this ⊢
  omega
theorem A3s:∀l:List Xpr,(∀x,x∈l→RX x)→((l.map Aaj).flatten).length≤4010*esizes l
 |[],_=>by simp
 |x::l,h=>by
  have hx:=h x Zr1
  have h1:=Apq hx.1 hx.2
  have h2:=A3s l fun y hy=>h y (Zu1 _ hy)
  have h3:(Aaj x).length≤4000*Bi x+10:=by
   simp only [Aaj]
   cases decide (Gy x.kind=0)<;>simp only [Ae,Ah,Zh1,Zf1,Zi1]<;>omega
  simp only [Zw1,Zz1,Zh1,esizes]
  omega
theorem A38{l:List Str}(h:l.length≤3100) (hn:∀x,x∈l→Bm x=true):(nmT l).length≤200000:=by
 have:=On (fun x:Str=>x) 30 l fun x hx=>Im (hn x hx)
 simp only [nmT,Ob,Zh1,Zf1,Zi1]
 omega
theorem A3p{l:List Str}(h:l.length≤3100) (hn:∀x,x∈l→Bm x=true):Ahr l=true:=by
 have:=On (fun x:Str=>x) 30 l fun x hx=>Im (hn x hx)
 simp only [Ahr,Ob,Zb1,Zg1]
 omega
theorem A6c(k:Int):(at' .str kindsL k).length≤5:=by
 have h:∀i,(kindsL.getD i ([]:Str)).length≤5:=fun i=>by
  match i with
  |0|1|2|3|4|5=>decide
  |i+6=>simp [kindsL]
 exact h _
theorem Bdy{c:Col}(h:CX c):(P7 c).length≤100:=by
 obtain⟨h1,h2⟩:=h
 simp only [Rr,Zb1,Zd2,Zg1] at h1
 have h3:=Im h2
 have h4:=A6c c.kind
 have h5:(cond c.notNull [32,78,79,84,32,78,85,76,76] ([]:Str)).length≤9:=by cases c.notNull<;>simp
 have h6:(cond c.unique [32,85,78,73,81,85,69] ([]:Str)).length≤7:=by cases c.unique<;>simp
 have h7:(cond (decide (c.ref=[])) [] ([32,82,69,70,69,82,69,78,67,69,83,32]++c.ref)).length≤42:=by
  rcases h1.2 with h|h
  ·rw [Ze1 h];simp
  ·have:=Im h
   cases decide (c.ref=[])<;>simp only [Ae,Ah,Zh1,Zf1,Zi1]<;>omega
 simp only [P7,Zh1,Zf1,Zi1]
 omega
theorem Arh{s:Stm}(h:WX s) (hf:Bi s.whr≤6200):(whT s).length≤25000000:=by
 simp only [whT]
 cases hs:s.has with
 |false=>simp
 |true =>
  have hx:=A8u h hs
  have:=Apq hx.1 hx.2
  simp only [Ae,Zh1,Zf1,Zi1]
  omega
theorem Az0{s:Stm}(h:WX s):okW s=true:=by
 simp only [okW]
 cases hs:s.has with
 |false=>rfl
 |true=>exact Akp (A8u h hs).1
theorem Ayy{l:List Xpr}(h:∀x,x∈l→RX x):l.all okx=true:=Zg2.2 fun x hx=>Akp (h x hx).1
theorem Bcb{s:Stm}(h:inI s.most):(Aby s).length≤40:=by
 simp only [Aby]
 cases decide (0≤s.most) with
 |false=>simp
 |true =>
  have:=Au9 h
  have e:Bf ⟨3,s.most,[]⟩=Awj s.most:=rfl
  rw [e]
  simp only [Ae,Zh1,Zf1,Zi1]
  omega
theorem Bbo{s:Stm}(h:Je s=true) (hb:BdStm s) (hf:Few s):okP s=true∧(A7 s).length≤90000000000:=by
 obtain⟨⟨s1,s2⟩,s3⟩:=Xm h
 have ln:=Im s1
 rcases s3 with ⟨k,a1,a2,a3,a4,a5⟩|k|⟨k,a1,a2,a3⟩|⟨k,a1,a2⟩|⟨k,a1,a2,a3⟩|⟨k,a1⟩|⟨k,a1,a2,a3,a4,a5⟩
 ·have hx:=Ab0 a5 hb.l
  refine⟨?_,?_⟩
  ·simp only [okP,if_pos k,okT,Zb1]
   refine⟨⟨Zg2.2 fun c hc =>?_,A3p hf.names a4⟩,Ayy hx⟩
   have h1:=(a1 c hc).1
   simp only [Rr,Zb1,Zg1] at h1
   simp only [inb,Zb1,Zg1]
   omega
  ·have l1:=On P7 100 s.cols fun c hc=>Bdy (a1 c hc)
   have l2:=A38 hf.names a4
   have l3:=A3s s.l hx
   have f1:=hf.cols
   have f2:=hf.l
   simp only [A7,if_pos k,J6,Zh1,Zf1,Zi1]
   omega
 ·refine⟨?_,?_⟩
  ·simp only [okP,if_neg (show ¬s.kind=1 by omega),if_pos k]
  ·rcases k with k|k<;>simp only [A7,k]<;>simp<;>omega
 ·have l1:=Im a1
  have l2:=A38 hf.names a3
  refine⟨?_,?_⟩
  ·simp only [okP,if_neg (show ¬s.kind=1 by omega),if_neg (show ¬(s.kind=2∨s.kind=4) by omega),if_pos k,A3p hf.names a3]
  ·simp only [A7,if_neg (show ¬s.kind=1 by omega),if_neg (show ¬s.kind=2 by omega),if_pos k,Zh1,Zf1,Zi1]
   omega
 ·have hx:∀r,r∈s.rows→∀x,x∈r→RX x:=fun r hr=>Ab0 (a2 r hr).2 (hb.rows.2 r hr)
  refine⟨?_,?_⟩
  ·simp only [okP,if_neg (show ¬s.kind=1 by omega),if_neg (show ¬(s.kind=2∨s.kind=4) by omega),if_neg (show ¬s.kind=3 by omega),if_pos k]
   exact Zg2.2 fun r hr=>Ayy (hx r hr)
  ·have l1:=On Se 25000000 s.rows fun r hr=>by
    have:=Ao6 r (hx r hr)
    have:=hf.rows.2 r hr
    simp only [Se,Zh1,Zf1,Zi1]
    omega
   have f1:=hf.rows.1
   simp only [A7,if_neg (show ¬s.kind=1 by omega),if_neg (show ¬s.kind=2 by omega),if_neg (show ¬s.kind=3 by omega),if_neg (show ¬s.kind=4 by omega),if_pos k,Zh1,Zf1,Zi1]
   omega
 ·have hw:WX s:=⟨a3,hb.whr⟩
  refine⟨?_,?_⟩
  ·simp only [okP,if_neg (show ¬s.kind=1 by omega),if_neg (show ¬(s.kind=2∨s.kind=4) by omega),if_neg (show ¬s.kind=3 by omega),if_neg (show ¬s.kind=5 by omega),if_pos k,Az0 hw,Bool.and_true]
   exact Zg2.2 fun x hx=>Akp (a2 x hx).1
  ·have l1:=On Xu 25000000 s.sets fun x hx=>by
    have:=Apq (a2 x hx).1 (hb.sets.2 x hx).2
    have:=Im (a2 x hx).2
    have:=hf.sets.2 x hx
    simp only [Xu,Zh1,Zf1,Zi1]
    omega
   have l2:=Arh hw hf.whr
   have f1:=hf.sets.1
   simp only [A7,if_neg (show ¬s.kind=1 by omega),if_neg (show ¬s.kind=2 by omega),if_neg (show ¬s.kind=3 by omega),if_neg (show ¬s.kind=4 by omega),if_neg (show ¬s.kind=5 by omega),if_pos k,Zh1,Zf1,Zi1]
   omega
 ·have hw:WX s:=⟨a1,hb.whr⟩
  refine⟨?_,?_⟩
  ·simp only [okP,if_neg (show ¬s.kind=1 by omega),if_neg (show ¬(s.kind=2∨s.kind=4) by omega),if_neg (show ¬s.kind=3 by omega),if_neg (show ¬s.kind=5 by omega),if_neg (show ¬s.kind=6 by omega),if_pos k,Az0 hw]
  ·have l2:=Arh hw hf.whr
   simp only [A7,if_neg (show ¬s.kind=1 by omega),if_neg (show ¬s.kind=2 by omega),if_neg (show ¬s.kind=3 by omega),if_neg (show ¬s.kind=4 by omega),if_neg (show ¬s.kind=5 by omega),if_neg (show ¬s.kind=6 by omega),if_pos k,Zh1,Zf1,Zi1]
   omega
 ·have hw:WX s:=⟨a2,hb.whr⟩
  have hx:=Ab0 a1 hb.l
  refine⟨?_,?_⟩
  ·simp only [okP,k,okS,Az0 hw,Ayy hx,a4]
   rfl
  ·have l1:=Ao6 s.l hx
   have l2:=Arh hw hf.whr
   have l3:=On Ma 40 (s.order.zip s.desc) fun p hp=>by
    have:=Im (a3 p.1 (List.of_mem_zip hp).1)
    have h6:(cond p.2 [32,68,69,83,67] ([]:Str)).length≤5:=by cases p.2<;>simp
    simp only [Ma,Zh1]
    omega
   have l4:=Bcb hb.most
   have l5:(obT s).length≤10:=by
    simp only [obT]
    cases decide (0<(s.order.length:Int))<;>simp
   have l6:(cond (decide ((s.l.length:Int)=0)) [42] ([]:Str)).length≤1:=by cases decide ((s.l.length:Int)=0)<;>simp
   have f1:=hf.order
   have f2:=hf.l
   rw [List.length_zip] at l3
   simp only [A7,if_neg (show ¬s.kind=1 by omega),if_neg (show ¬s.kind=2 by omega),if_neg (show ¬s.kind=3 by omega),if_neg (show ¬s.kind=4 by omega),if_neg (show ¬s.kind=5 by omega),if_neg (show ¬s.kind=6 by omega),if_neg (show ¬s.kind=7 by omega),Akz,Zh1,Zf1,Zi1]
   omega
theorem Ack{s:Stm}(hf:Few s):J8 s=some (cond (Je s) 0 2):=if_pos ⟨by have:=hf.cols;omega,by have:=hf.sets.1;omega⟩
theorem Az5{s:Stm}(h:Je s=true) (hb:BdStm s) (hf:Few s):Abq s=some (A7 s,0):=by
 obtain⟨h1,h2⟩:=Bbo h hb hf
 simp only [Abq,Ack hf,h,h1,Zc1]
 rw [Bd4 (by simp only [Zi1];omega)]
 rfl
end Go.Proofs.YthndhaolemgbdaaGreatDoor
namespace Go.Proofs.YthndhaolemgbdaaGreatDoor
open Go.Ax
open Lp (tokS Sc A4)
theorem A12{s:Str}{ts:TL}(hl:s.length≤20000) (h:Sc s 0 ts):Jt s=(ts,0,0):=by
 simp only [Jt,Bbz]
 rw [if_neg (by omega),Lp.allF_of_sc h]
theorem Ba0{m:Str}{p:Int}{ts:TL}(h:Sc m p ts):ts.length≤m.length:=by
 induction h with
 |nil=>exact Zn1 _
 |blank _ _ ih=>simp only [Zf1];omega
 |tok _ h2 _ ih =>
  have:=Lp.tokS_len h2
  simp only [Zf1,Za2] at ih ⊢
  omega
theorem Ahq(s:Str):(∃ts,s.length≤20000∧Sc s 0 ts∧Jt s=(ts,0,0))∨(s.length≤20000∧∃j,Lp.Er s 0 j∧Jt s=([],j,11))∨(20000<s.length∧Jt s=([],0,3)):=by
 by_cases h : 20000<s.length
 ·refine .inr (.inr ⟨h,?_⟩)
  simp only [Jt,Bbz]
  rw [if_pos (by omega)]
 ·have hs:=Lp.allF_sc s
  simp only [Jt,Bbz]
  rw [if_neg (by omega)]
  cases hq:Lp.allF s with
  |ok ts =>
   rw [hq] at hs
   exact .inl ⟨ts,by omega,hs,rfl⟩
  |error j =>
   rw [hq] at hs
   exact .inr (.inl ⟨by omega,j,hs,rfl⟩)
theorem Aq6(s:Str):(Jt s).1.length<1000000000:=by
 rcases Ahq s with ⟨ts,h0,h1,h2⟩|⟨_,j,_,h2⟩|⟨_,h2⟩<;>rw [h2]
 ·have:=Ba0 h1
  simp only
  omega
 ·simp
 ·simp
theorem A1d{s:Str}{ts:TL}{x:Stm}(hl:s.length≤20000) (h:Sc s 0 ts) (ho:La ts = .ok x) (hf:Few x):Ra s=some (cond (Je x) (x,0,0) (zS,0,2)):=by
 rw [Ajf s (Aq6 s)]
 simp only [xS,A12 hl h,if_true,ho,Ack hf]
 cases Je x<;>rfl
theorem Bh7{s:Str}{ts q:TL}(hl:s.length≤20000) (h:Sc s 0 ts) (ho:La ts = .error q):Ra s=some (zS,Ge s.length q,11):=by
 rw [Ajf s (Aq6 s)]
 simp only [xS,A12 hl h,if_true,ho]
theorem Bk0{s:Stm}(h:Je s=true) (hb:BdStm s) (hf:Few s) (hl:(A7 s).length≤20000):Ra (A7 s)=some (s,0,0):=by
 obtain⟨ts,h1,h2⟩:=Bi2 h hb [] 0 [] Bg4 .nil
 have h2:=(h2 [] (.inl rfl)).2
 rw [List.append_nil] at h1 h2
 rw [List.append_nil] at h1
 have hw:La ts = .ok s:=by unfold La;rw [h2];rfl
 rw [A1d hl h1 hw hf,h]
 rfl
end Go.Proofs.YthndhaolemgbdaaGreatDoor
namespace Go.Proofs.YthndhaolemgbdaaGreatDoor
open Go.Ax
open Lp (tokS Sc A4 tw isWd qS unGo D7 rnumF)
def tW(t:Ax.Tok):Nat:=if t.kind=4 then(quo t.s).length+2 else if t.kind=5 then 2*t.s.length+3 else t.s.length
def TkB(t:Ax.Tok):Prop:=1≤tW t∧t.s.length≤20000∧0≤t.n∧t.n≤9223372036854775807∧(t.kind=2→t.s.length≤30)∧(t.kind=3→(Jb t.n.natAbs).length≤t.s.length)∧(t.kind=6→t.s.length≤2)
theorem A3a:∀(k n:Nat),n<10 ^ k→(J4 n).length≤k
 |0,n,h=>by
  have:n=0:=by omega
  rw [this,Gk]
  simp
 |k+1,n,h=>by
  by_cases h0:n=0
  ·rw [h0,Gk];simp
  ·rw [Ls h0]
   have:=A3a k (n / 10) (by rw [Nat.pow_succ] at h;omega)
   simp only [Zf1]
   omega
theorem Bk4(l:List Int):(txt l).length=l.length:=by simp [txt]
theorem A9c{k n:Nat}(h:n<10 ^ k) (hk : 1≤k):(Jb n).length≤k:=by
 unfold Jb
 split
 ·exact hk
 ·rw [Bk4]
  exact A3a k n h
theorem A2p:∀(l:Str) (m:Int) (j:Nat),(m.toNat<10 ^ j)→0≤m→∀n,D7 l m=some n→0≤n∧n.toNat<10 ^ (j+l.length)
 |[],m,j,h,h0,n,hn=>by
  simp only [D7,Za1] at hn
  subst hn
  exact⟨h0,by simpa using h⟩
 |c::r,m,j,h,h0,n,hn=>by
  simp only [D7] at hn
  split at hn
  ·cases hn
  ·rename_i hc
   have hc3:A4 (c.toNat:Int)=3:=Classical.not_not.1 fun q=>hc (.inl q)
   have hd:=Lp.cls3 hc3
   have:=A2p r (10*m+((c.toNat:Int)-48)) (j+1) (by rw [Nat.pow_succ];omega) (by omega) n hn
   rw [show j+1+r.length=j+(c::r).length by simp only [Zf1];omega] at this
   exact this
theorem A10:∀(l:Str) (m n:Int),0≤m∧m≤9223372036854775807→D7 l m=some n→n≤9223372036854775807
 |[],m,n,h,hn=>by
  simp only [D7,Za1] at hn
  omega
 |c::r,m,n,h,hn=>by
  simp only [D7] at hn
  split at hn
  ·cases hn
  ·rename_i hc
   have hc3:A4 (c.toNat:Int)=3:=Classical.not_not.1 fun q=>hc (.inl q)
   have hd:=Lp.cls3 hc3
   exact A10 r _ n (by omega) hn
theorem Q0:∀(f:Nat) (l acc s:Str) (n:Nat),l.length≤f→qS l acc=some (s,n)→∃s',s=acc++s'∧(quo s').length+1=n
 |_,[],_,_,_,_,h=>by simp [qS] at h
 |_,[c],acc,s,n,_,h=>by
  simp only [qS] at h
  split at h
  ·cases h;exact⟨[],by simp,rfl⟩
  ·cases h
 |0,_::_::_,_,_,_,h,_=>by simp at h
 |f+1,c::d::r,acc,s,n,hf,h=>by
  simp only [Zf1] at hf
  simp only [qS] at h
  split at h
  ·split at h
   ·obtain⟨x,hx,he⟩:=Option.map_eq_some_iff.1 h
    cases he
    obtain⟨s',h1,h2⟩:=Q0 f r _ x.1 x.2 (by omega) hx
    exact⟨39::s',by rw [h1];simp,by simp only [quo,if_true,Zf1];omega⟩
   ·cases h;exact⟨[],by simp,rfl⟩
  ·rename_i hc
   obtain⟨x,hx,he⟩:=Option.map_eq_some_iff.1 h
   cases he
   obtain⟨s',h1,h2⟩:=Q0 f (d::r) _ x.1 x.2 (by simp only [Zf1];omega) hx
   exact⟨c::s',by rw [h1];simp,by simp only [quo,if_neg hc,Zf1];omega⟩
theorem Bd9:∀(f:Nat) (l acc b:Str),l.length≤f→unGo l acc=some b→2*b.length=2*acc.length+l.length
 |_,[],acc,b,_,h=>by
  simp only [unGo,Za1] at h
  subst h
  simp
 |_,[_],_,_,_,h=>by simp [unGo] at h
 |0,_::_::_,_,_,h,_=>by simp at h
 |f+1,x::y::r,acc,b,hf,h=>by
  simp only [Zf1] at hf
  simp only [unGo] at h
  split at h
  ·have:=Bd9 f r _ b (by omega) h
   simp only [Zh1,Zf1,Zi1] at this ⊢
   omega
  ·cases h
theorem Bm2{m:Str}(h : 1≤A4 (Sx.byt m 0)∧A4 (Sx.byt m 0)≤4) : 1≤(tw isWd m).length:=by
 cases m with
 |nil =>
  have:A4 (Sx.byt [] 0)=0:=by decide +kernel
  omega
 |cons c r =>
  have hc:isWd (c.toNat:Int)=true:=by
   simp only [Lp.isWd,Zb1,Zg1]
   exact h
  simp [Lp.tw,hc]
theorem Be3{m:Str}{k n:Int}{s:Str}{e:Nat}(h:tokS m=some (k,s,n,e)) (hm:m.length≤20000) (p:Int):tW ⟨k,p,s,n⟩=e∧TkB ⟨k,p,s,n⟩:=by
 have hl:=Lp.tokS_len h
 have htw:=Lp.tw_len isWd m
 have fin:tW ⟨k,p,s,n⟩=e→s.length≤20000→(0≤n∧n≤9223372036854775807)→(k=2→s.length≤30)→(k=3→(Jb n.natAbs).length≤s.length)→(k=6→s.length≤2)→tW ⟨k,p,s,n⟩=e∧TkB ⟨k,p,s,n⟩:=fun h1 h2 h3 h4 h5 h6=>⟨h1,by omega,h2,h3.1,h3.2,h4,h5,h6⟩
 unfold Lp.tokS at h
 split at h
 ·split at h
  ·cases h
  ·split at h
   ·cases h
   ·rename_i b hb
    split at h
    ·cases h
    ·rename_i h1000
     cases h
     have hq:=Lp.tw_len Lp.nq (m.drop 2)
     split at hb
     ·have:=Bd9 _ _ _ _ (Zn1 _) hb
      simp only [Zi1] at this
      refine fin ?_ (by omega) ⟨by omega,by omega⟩ (fun q=>by omega) (fun q=>by omega) (fun q=>by omega)
      simp only [tW]
      rw [if_neg (by decide),if_pos trivial]
      omega
     ·cases hb
 ·split at h
  ·split at h
   ·rename_i h1 hw
    cases h
    exact fin rfl (by omega) ⟨by omega,by omega⟩ (fun q=>by omega) (fun q=>by omega) (fun q=>by omega)
   ·cases h
  ·split at h
   ·split at h
    ·rename_i hw
     cases h
     refine fin rfl (by omega) ⟨by omega,by omega⟩ (fun _ =>?_) (fun q=>by omega) (fun q=>by omega)
     simp only [Lp.rnameF,Zb1,Zg1] at hw
     omega
    ·cases h
   ·split at h
    ·rename_i h3
     split at h
     ·rename_i hw
      cases h
      have h1:=Bm2 (m:=m) (by omega)
      have hr:∃v,D7 (tw isWd m) 0=some v∧(rnumF (tw isWd m)=v):=by
       unfold Lp.rnumF at hw ⊢
       cases hv:D7 (tw isWd m) 0 with
       |none=>rw [hv] at hw;simp at hw
       |some v =>
        rw [hv] at hw
        simp only at hw ⊢
        split at hw
        ·omega
        ·rename_i hc
         rw [if_neg hc]
         exact⟨v,rfl,rfl⟩
      obtain⟨v,hv,hv2⟩:=hr
      have b1:=A2p _ 0 0 (by decide) (by omega) v hv
      have b2:=A10 _ 0 v (by omega) hv
      rw [hv2] at hw fin ⊢
      refine fin rfl (by omega) ⟨by omega,by omega⟩ (fun q=>by omega) (fun _ =>?_) (fun q=>by omega)
      refine A9c ?_ h1
      have:=b1.2
      rw [Nat.zero_add] at this
      omega
     ·cases h
    ·split at h
     ·split at h
      ·cases h
      ·rename_i x hx
       split at h
       ·rename_i hk
        cases h
        obtain⟨s',e1,e2⟩:=Q0 _ _ _ _ _ (Zn1 _) hx
        rw [Zf2] at e1
        subst e1
        have hq:s.length≤(quo s).length:=by
         clear hx hk hl fin e2
         induction s with
         |nil=>simp
         |cons b l ih=>simp only [quo];split<;>simp only [Zf1]<;>omega
        refine fin ?_ (by omega) ⟨by omega,by omega⟩ (fun q=>by omega) (fun q=>by omega) (fun q=>by omega)
        simp only [tW,if_true]
        omega
       ·cases h
     ·split at h
      ·split at h
       ·cases h
        refine fin ?_ (by rw [List.length_take];omega) ⟨by omega,by omega⟩ (fun q=>by omega) (fun q=>by omega) (fun _=>by rw [List.length_take];omega)
        simp only [tW]
        rw [if_neg (by decide),if_neg (by decide),List.length_take]
        omega
       ·cases h
        refine fin ?_ (by rw [List.length_take];omega) ⟨by omega,by omega⟩ (fun q=>by omega) (fun q=>by omega) (fun _=>by rw [List.length_take];omega)
        simp only [tW]
        rw [if_neg (by decide),if_neg (by decide),List.length_take]
        omega
      ·cases h
def twt:TL→Nat
 |[]=>0
 |t::l=>tW t+4+twt l
theorem B8:∀a b:TL,twt (a++b)=twt a+twt b
 |[],b=>by simp [twt]
 |t::a,b=>by simp only [Zb2,twt,B8 a b];omega
def TkA(c:TL):Prop:=∀t,t∈c→TkB t
theorem TkA.l{a b:TL}(h:TkA (a++b)):TkA a:=fun t ht=>h t (List.mem_append_left _ ht)
theorem TkA.r{a b:TL}(h:TkA (a++b)):TkA b:=fun t ht=>h t (List.mem_append_right _ ht)
theorem TkA.h{t:Ax.Tok}{b:TL}(h:TkA (t::b)):TkB t:=h t Zr1
theorem TkA.t{t:Ax.Tok}{b:TL}(h:TkA (t::b)):TkA b:=fun t ht=>h t (Zu1 _ ht)
theorem Bbk{m:Str}{p:Int}{ts:TL}(h:Sc m p ts):m.length≤20000→TkA ts∧twt ts≤5*m.length:=by
 induction h with
 |nil=>intro _;exact⟨(fun _ h=>by cases h),by simp [twt]⟩
 |blank _ _ ih =>
  intro hm
  simp only [Zf1] at hm ⊢
  obtain⟨h1,h2⟩:=ih (by omega)
  exact⟨h1,by omega⟩
 | @tok m p k s n e ts _ h2 _ ih =>
  intro hm
  have hl:=Lp.tokS_len h2
  obtain⟨f1,f2⟩:=Be3 h2 hm p
  simp only [Za2] at ih
  obtain⟨h3,h4⟩:=ih (by omega)
  refine⟨fun t ht =>?_,?_⟩
  ·rcases List.mem_cons.1 ht with rfl|ht
   ·exact f2
   ·exact h3 t ht
  ·simp only [twt,f1]
   omega
end Go.Proofs.YthndhaolemgbdaaGreatDoor
namespace Go.Proofs.YthndhaolemgbdaaGreatDoor
open Go.Ax
open Lp (tokS Sc A4)
def MX(c:TL) (e:Xpr):Prop:=TkA c→(etx e).length≤twt c∧Bi e+1≤2*c.length∧BdExpr e
theorem Tb{s:Str}{t:Ax.Tok}(h:isT s [t]=true):tW t=s.length:=by
 simp only [isT,Zb1,Zd2,Zg1] at h
 simp only [tW]
 rw [if_neg (by omega),if_neg (by omega),h.2]
theorem bdx{k:Int}{l:List Xpr}(hk:inI k) (hl:l.length≤2) (h:∀e,e∈l→BdExpr e):BdExpr (mkX k l) :=.mk k ⟨0,0,[]⟩ [] l hk ⟨by simp only [inI];omega,by simp only [inI];omega,by simp only [ln,Zi1];omega⟩ (by simp only [ln,Zi1];omega) (by simp only [ln];omega) h
theorem bdv{k n:Int}{s:Str}(hk : 0≤k∧k≤5) (hn : 0≤n∧n≤9223372036854775807) (hs:s.length≤20000):BdExpr (Kg k n s) :=.mk 1 ⟨k,n,s⟩ [] [] (by simp only [inI];omega) ⟨by simp only [inI];omega,by simp only [inI];omega,by simp only [ln];omega⟩ (by simp only [ln,Zi1];omega) (by simp only [ln,Zi1];omega) (fun e he=>by cases he)
theorem Azk{k n:Int}{s:Str}{m:Nat}(h:B4 ⟨k,n,s⟩=true→(Bf ⟨k,n,s⟩).length≤m):(etx (Kg k n s)).length≤m:=by
 have e:etx (Kg k n s)=Bf ⟨k,n,s⟩:=rfl
 rw [e]
 cases hr:B4 ⟨k,n,s⟩ with
 |true=>exact h hr
 |false=>simp [Bf,hr]
theorem Bkz{t:Ax.Tok}{v:Xpr}(h:Akt t=some v):MX [t] v:=fun ht=>by
 obtain⟨b1,b2,b3,b4,b5,b6,b7⟩:=ht.h
 have hw:twt [t]=tW t+4:=rfl
 unfold Akt at h
 split at h
 ·rename_i hk
  cases h
  refine⟨?_,Zn1 _,?_⟩
  ·have e:etx (.mk 2 ⟨0,0,[]⟩ t.s [])=t.s:=rfl
   rw [e,hw]
   simp only [tW]
   rw [if_neg (by omega),if_neg (by omega)]
   omega
  ·exact .mk 2 ⟨0,0,[]⟩ t.s [] (by simp only [inI];omega) ⟨by simp only [inI];omega,by simp only [inI];omega,by simp only [ln,Zi1];omega⟩ (by simp only [ln];omega) (by simp only [ln,Zi1];omega) (fun e he=>by cases he)
 ·split at h
  ·rename_i hk
   cases h
   refine⟨Azk fun hr =>?_,Zn1 _,bdv (by omega) ⟨b3,b4⟩ (by simp)⟩
   have e:Bf ⟨3,t.n,[]⟩=Jb t.n.natAbs:=by rw [←Abi b3];rfl
   have:=b6 hk
   rw [e,hw]
   simp only [tW]
   rw [if_neg (by omega),if_neg (by omega)]
   omega
  ·split at h
   ·rename_i hk
    cases h
    refine⟨Azk fun hr =>?_,Zn1 _,bdv (by omega) (by omega) b2⟩
    have e:Bf ⟨4,0,t.s⟩=39::(quo t.s++[39]):=by simp [Bf,hr]
    rw [e,hw]
    simp only [tW]
    rw [if_pos hk]
    simp only [Zf1,Zh1,Zi1]
    omega
   ·split at h
    ·rename_i hk
     cases h
     refine⟨Azk fun hr =>?_,Zn1 _,bdv (by omega) (by omega) b2⟩
     have e:Bf ⟨5,0,t.s⟩=120::39::(L9 t.s++[39]):=by simp [Bf,hr]
     have hl:=Zo t.s
     rw [e,hw]
     simp only [tW]
     rw [if_neg (by omega),if_pos hk]
     simp only [Zf1,Zh1,Zi1]
     omega
    ·split at h
     ·cases h
      exact⟨by rw [hw];exact Nat.le_trans (show(etx (Kg 2 1 [])).length≤4 by decide) (by omega),Zn1 _,bdv (by omega) (by omega) (by simp)⟩
     ·split at h
      ·rename_i hk
       cases h
       have:tW t=5:=by simp only [tW];rw [if_neg (by omega),if_neg (by omega),hk.2];rfl
       exact⟨by rw [hw,this];decide,Zn1 _,bdv (by omega) (by omega) (by simp)⟩
      ·split at h
       ·cases h
        exact⟨by rw [hw];exact Nat.le_trans (show(etx (Kg 1 0 [])).length≤4 by decide) (by omega),Zn1 _,bdv (by omega) (by omega) (by simp)⟩
       ·cases h
theorem A6p:∀q,q∈opTab→4≤q.2.2∧q.2.2≤14∧sgn q.2.2=q.1:=by decide
theorem Bmr{c:TL}{e:Xpr}(h:Der c e):MX c e:=by
 induction h with
 |lit h=>exact Bkz h
 | @br o c ts e h1 h2 _ ih =>
  intro ht
  obtain⟨i1,i2,i3⟩:=ih ht.t.l
  refine⟨?_,?_,i3⟩
  ·simp only [twt,B8];omega
  ·simp only [Zf1,Zh1];omega
 | @un s k t ts e hk hi _ ih =>
  intro ht
  obtain⟨i1,i2,i3⟩:=ih ht.t
  have hw:=Tb hi
  have hz:Bi (mkX k [e])=2+Bi e:=by
   have:=Jc k ⟨0,0,[]⟩ [] e
   simpa [mkX] using this
  refine⟨?_,by rw [hz];simp only [Zf1];omega,bdx (by rcases hk with ⟨_,rfl⟩|⟨_,rfl⟩<;>simp only [inI]<;>omega) (by simp) (fun x hx=>by simp only [List.mem_cons,List.not_mem_nil,or_false] at hx;rw [hx];exact i3)⟩
  rcases hk with ⟨rfl,rfl⟩|⟨rfl,rfl⟩
  ·have e1:etx (mkX 3 [e])=40::([78,79,84]++32::(etx e++[41])):=Age e
   rw [e1]
   have:sNOT.length=3:=rfl
   simp only [twt,Zf1,Zh1,Zi1]
   omega
  ·have e1:etx (mkX 15 [e])=40::45::(etx e++[41]):=Arv e
   rw [e1]
   simp only [twt,Zf1,Zh1,Zi1] at hw ⊢
   omega
 | @op s p k o ts us a b hq hi _ _ iha ihb =>
  intro ht
  obtain⟨a1,a2,a3⟩:=iha ht.l
  obtain⟨b1,b2,b3⟩:=ihb ht.r.t
  have hw:=Tb hi
  obtain⟨k1,k2,k3⟩:=A6p _ hq
  simp only at k1 k2 k3
  have hz:Bi (mkX k [a,b])=3+(Bi a+Bi b):=by
   have:=Ame k ⟨0,0,[]⟩ [] a b
   simp only [mkX]
   omega
  refine⟨?_,by rw [hz];simp only [Zf1,Zh1];omega,bdx (by simp only [inI];omega) (by simp) (fun x hx=>by simp only [List.mem_cons,List.not_mem_nil,or_false] at hx;rcases hx with rfl|rfl<;>assumption)⟩
  have e1:etx (mkX k [a,b])=40::(etx a++32::(sgn k++32::(etx b++[41]))):=Aw3 ⟨k1,k2⟩ a b
  rw [e1,k3]
  simp only [twt,B8,Zf1,Zh1,Zi1]
  omega
 | @isn o n ts e h1 h2 _ ih =>
  intro ht
  obtain⟨i1,i2,i3⟩:=ih ht.l
  have w1:=Tb h1
  have w2:=Tb h2
  have:sIS.length=2:=rfl
  have:sNULL.length=4:=rfl
  have hz:Bi (mkX 16 [e])=2+Bi e:=by
   have:=Jc 16 ⟨0,0,[]⟩ [] e
   simpa [mkX] using this
  refine⟨?_,by rw [hz];simp only [Zf1,Zh1,Zi1];omega,bdx (by simp only [inI];omega) (by simp) (fun x hx=>by simp only [List.mem_cons,List.not_mem_nil,or_false] at hx;rw [hx];exact i3)⟩
  have e1:etx (mkX 16 [e])=40::(etx e++32::73::83::32::78::85::76::76::[41]):=Agc e
  rw [e1]
  simp only [twt,B8,Zf1,Zh1,Zi1]
  omega
 | @nis o m n ts e h1 h2 h3 _ ih =>
  intro ht
  obtain⟨i1,i2,i3⟩:=ih ht.l
  have w1:=Tb h1
  have w2:=Tb h2
  have w3:=Tb h3
  have:sIS.length=2:=rfl
  have:sNOT.length=3:=rfl
  have:sNULL.length=4:=rfl
  have b16:BdExpr (mkX 16 [e]):=bdx (by simp only [inI];omega) (by simp) (fun x hx=>by simp only [List.mem_cons,List.not_mem_nil,or_false] at hx;rw [hx];exact i3)
  have hz:Bi (mkX 3 [mkX 16 [e]])=4+Bi e:=by
   have h1:=Jc 3 ⟨0,0,[]⟩ [] (mkX 16 [e])
   have h2:=Jc 16 ⟨0,0,[]⟩ [] e
   simp only [mkX] at h1 h2 ⊢
   omega
  refine⟨?_,by rw [hz];simp only [Zf1,Zh1,Zi1];omega,bdx (by simp only [inI];omega) (by simp) (fun x hx=>by simp only [List.mem_cons,List.not_mem_nil,or_false] at hx;rw [hx];exact b16)⟩
  have e1:etx (mkX 3 [mkX 16 [e]])=40::([78,79,84]++32::(etx (mkX 16 [e])++[41])):=Age _
  have e2:etx (mkX 16 [e])=40::(etx e++32::73::83::32::78::85::76::76::[41]):=Agc e
  rw [e1,e2]
  simp only [twt,B8,Zf1,Zh1,Zi1]
  omega
theorem B2{α:Type}{p:TL→PR α}{Q Q':TL→α→Prop}(h:Cns p Q) (hq:∀c x,Q c x→Q' c x):Cns p Q':=fun l e l' hp=>by
 obtain⟨c,h1,h2⟩:=h l e l' hp
 exact⟨c,h1,hq c e h2⟩
theorem Aex:Cns orW MX:=B2 Bkx fun _ _ h=>Bmr h
end Go.Proofs.YthndhaolemgbdaaGreatDoor
namespace Go.Proofs.YthndhaolemgbdaaGreatDoor
open Go.Ax
section
variable {α β:Type}{p:TL→PR α}{Q:TL→α→Prop}
theorem A0{f : α→TL→PR β}{R : α→TL→β→Prop}(h1:Cns p Q) (h2:∀x,Cns (f x) (R x)):Cns (bP p f) fun c y=>∃c1 c2 x,c=c1++c2∧Q c1 x∧R x c2 y:=fun l e l' hp=>by
 unfold bP at hp
 cases hq:p l with
 |error q=>rw [hq] at hp;cases hp
 |ok x =>
  obtain⟨x,l1⟩:=x
  rw [hq] at hp
  obtain⟨c1,e1,q1⟩:=h1 l x l1 hq
  obtain⟨c2,e2,q2⟩:=h2 x l1 e l' hp
  exact⟨c1++c2,by rw [e1,e2,Zj1],c1,c2,x,rfl,q1,q2⟩
theorem H5(x : α):Cns (Cn x) fun c y=>c=[]∧y=x:=fun l e l' hp=>by
 cases hp
 exact⟨[],rfl,rfl,rfl⟩
theorem G8{g : α→β}(h:Cns p Q):Cns (bP p fun x=>Cn (g x)) fun c y=>∃x,Q c x∧y=g x:=B2 (A0 h fun x=>H5 (g x)) fun c y ⟨c1,c2,x,e,q,e2,e3⟩=>⟨x,by rw [e,e2,List.append_nil];exact q,e3⟩
end
def kwT(w:Str) (c:TL):Prop:=∃t,c=[t]∧isT w [t]=true
theorem Hd{w:Str}{c:TL}(h:kwT w c):twt c=w.length+4∧c.length=1:=by
 obtain⟨t,rfl,h⟩:=h
 exact⟨by simp only [twt,Tb h],rfl⟩
theorem A1(w:Str):Cns (A5 [w]) fun c _=>kwT w c:=fun l e l' hp=>by
 simp only [A5] at hp
 cases hi:isT w l with
 |false=>rw [hi] at hp;cases hp
 |true =>
  rw [hi] at hp
  cases hp
  obtain⟨t,h1,h2⟩:=F7 hi
  exact⟨[t],h1,t,rfl,h2⟩
theorem Amj(w v:Str):Cns (A5 [w,v]) fun c _=>∃a b,c=a++b∧kwT w a∧kwT v b:=fun l e l' hp=>by
 have e1:A5 [w,v] l=bP (A5 [w]) (fun _=>A5 [v]) l:=by
  simp only [bP,A5]
  cases isT w l<;>rfl
 rw [e1] at hp
 obtain⟨c,h1,c1,c2,x,h2,h3,h4⟩:=A0 (A1 w) (fun _=>A1 v) l e l' hp
 exact⟨c,h1,c1,c2,h2,h3,h4⟩
def nmQ(c:TL) (s:Str):Prop:=TkA c→s.length+4≤twt c∧s.length≤30
theorem Bn:Cns B0 nmQ:=fun l e l' hp=>by
 cases l with
 |nil=>cases hp
 |cons t r =>
  simp only [B0] at hp
  cases hk:decide (t.kind=2) with
  |false=>rw [hk] at hp;cases hp
  |true =>
   rw [hk] at hp
   cases hp
   have hk:=of_decide_eq_true hk
   refine⟨[t],rfl,fun ht=>⟨?_,ht.h.2.2.2.2.1 hk⟩⟩
   simp only [twt,tW]
   rw [if_neg (by omega),if_neg (by omega)]
   omega
inductive Lst {α:Type}(Q:TL→α→Prop):TL→List α→Prop
 |one {c:TL}{x : α}:Q c x→Lst Q c [x]
 |snoc {c d k:TL}{l:List α}{x : α}:Lst Q c l→kwT [44] k→Q d x→Lst Q (c++(k++d)) (l++[x])
section
variable {α:Type}{part:TL→PR α}{Q:TL→α→Prop}
theorem Xl(h:Cns part Q) (P:TL→List α→Prop) (hs:∀c k d l x,P c l→kwT [44] k→Q d x→P (c++(k++d)) (l++[x])):∀(n:Nat) (acc:List α) (c0 l:TL) (e:List α) (l':TL),P c0 acc→Bb part n acc l = .ok (e,l')→∃c,l=c++l'∧P (c0++c) e
 |0,_,_,_,_,_,_,hp=>by cases hp
 |n+1,acc,c0,l,e,l',h0,hp=>by
  simp only [Bb] at hp
  cases hi:isT [44] l with
  |false =>
   rw [hi] at hp
   cases hp
   exact⟨[],rfl,by rw [List.append_nil];exact h0⟩
  |true =>
   rw [hi] at hp
   obtain⟨t,ht,ht1⟩:=F7 hi
   cases hq:part l.tail with
   |error q=>simp only [hq] at hp;cases hp
   |ok x =>
    obtain⟨x,l1⟩:=x
    simp only [hq] at hp
    obtain⟨d,hd,hd1⟩:=h _ _ _ hq
    obtain⟨c2,h2,h3⟩:=Xl h P hs n (acc++[x]) (c0++([t]++d)) l1 e l' (hs c0 [t] d acc x h0 ⟨t,rfl,ht1⟩ hd1) hp
    refine⟨t::(d++c2),?_,?_⟩
    ·rw [ht,hd,h2];simp
    ·have e1:c0++t::(d++c2)=(c0++([t]++d))++c2:=by simp
     rw [e1]
     exact h3
theorem Ip(h:Cns part Q):Cns (G1 part) (Lst Q):=fun l e l' hp=>by
 simp only [G1] at hp
 cases hq:part l with
 |error q=>rw [hq] at hp;cases hp
 |ok x =>
  obtain⟨x,l1⟩:=x
  rw [hq] at hp
  obtain⟨d,hd,hd1⟩:=h _ _ _ hq
  obtain⟨c,h2,h3⟩:=Xl h (Lst Q) (fun c k d l x a b c =>.snoc a b c) _ [x] d l1 e l' (.one hd1) hp
  exact⟨d++c,by rw [hd,h2,Zj1],h3⟩
theorem An6(f : α→Str):∀(l:List α) (x : α),Dj f (l++[x])=Dj f l++([44,32]++f x)
 |[],x=>by simp [Dj]
 |y::l,x=>by simp only [Zb2,Dj,An6 f l x,Zj1]
theorem A4u(f : α→Str) {l:List α}(hl:l≠[]) (x : α):Bj f (l++[x])=Bj f l++([44,32]++f x):=by
 cases l with
 |nil=>exact absurd rfl hl
 |cons y l=>simp only [Zb2,Bj,An6,Zj1]
theorem A9n{c:TL}{l:List α}(h:Lst Q c l):l≠[]:=by
 cases h<;>simp
theorem Vk{f : α→Str}{cm : α→Nat}{P : α→Prop}(hq:∀c x,Q c x→TkA c→(f x).length≤twt c∧cm x≤2*c.length∧P x) {c:TL}{l:List α}(h:Lst Q c l):TkA c→(Bj f l).length≤twt c∧(l.map cm).sum≤2*c.length∧l.length≤c.length+1∧∀x,x∈l→P x:=by
 induction h with
 | @one c x h =>
  intro ht
  obtain⟨h1,h2,h3⟩:=hq c x h ht
  refine⟨by simpa [Bj,Dj] using h1,by simpa using h2,by simp,fun y hy =>?_⟩
  simp only [List.mem_cons,List.not_mem_nil,or_false] at hy
  rw [hy];exact h3
 | @snoc c d k l x h hk hx ih =>
  intro ht
  obtain⟨i1,i2,i3,i4⟩:=ih ht.l
  obtain⟨h1,h2,h3⟩:=hq d x hx ht.r.r
  obtain⟨k1,k2⟩:=Hd hk
  have e:([44]:Str).length=1:=rfl
  refine⟨?_,?_,?_,fun y hy =>?_⟩
  ·rw [A4u f (A9n h)]
   simp only [Zh1,B8,Zf1,Zi1]
   omega
  ·simp only [List.map_append,List.sum_append,Zw1,List.map_nil,List.sum_cons,List.sum_nil,Zh1]
   omega
  ·simp only [Zh1,Zf1,Zi1]
   omega
  ·rcases List.mem_append.1 hy with hy|hy
   ·exact i4 y hy
   ·simp only [List.mem_cons,List.not_mem_nil,or_false] at hy
    rw [hy];exact h3
end
theorem Agl:∀l:List Xpr,esizes l=(l.map fun e=>1+Bi e).sum
 |[]=>rfl
 |e::l=>by simp only [esizes,Zw1,List.sum_cons,Agl l]
theorem Blj{α:Type}{P : α→Prop}{l:List α}{n:Nat}(h1:l.length≤n+1) (h2:n≤20000) (h3:∀x,x∈l→P x):E8 P l:=⟨by simp only [ln];omega,h3⟩
def MXs(c:TL) (l:List Xpr):Prop:=TkA c→(Bj etx l).length≤twt c∧esizes l≤2*c.length∧l.length≤c.length+1∧∀x,x∈l→BdExpr x
theorem Am8:Cns M7 MXs:=B2 (Ip Aex) fun c l h ht=>by
 rw [Agl]
 exact Vk (f:=etx) (cm:=fun e=>1+Bi e) (P:=BdExpr) (fun c x hx ht=>by
  obtain⟨a1,a2,a3⟩:=hx ht
  exact⟨a1,by omega,a3⟩) h ht
def MNs(c:TL) (l:List Str):Prop:=TkA c→(nmT l).length≤twt c∧l.length≤c.length+1∧∀x,x∈l→x.length≤30
theorem Vf:Cns Nb MNs:=B2 (A0 (A1 [40]) fun _=>A0 (Ip Bn) fun x=>A0 (A1 [41]) fun _=>H5 x) fun c l ⟨c1,c2,_,e1,k1,c3,c4,x,e2,hl,c5,c6,_,e3,k2,e4,e5⟩ ht=>by
 subst e1 e2 e3 e4 e5
 obtain⟨a1,a2⟩:=Hd k1
 obtain⟨b1,b2⟩:=Hd k2
 obtain⟨d1,d2,d3,d4⟩:=Vk (f:=fun x:Str=>x) (cm:=fun _=>0) (P:=fun x=>x.length≤30) (fun c x hx ht=>⟨by have:=(hx ht).1;omega,by omega,(hx ht).2⟩) hl ht.r.l
 have e0:([40]:Str).length=1:=rfl
 have e9:([41]:Str).length=1:=rfl
 refine⟨?_,?_,d4⟩
 ·simp only [nmT,Ob,Zh1,B8,Zf1,Zi1,twt]
  omega
 ·simp only [Zh1]
  omega
theorem Api:Cns A0k fun c l=>TkA c→(Se l).length≤twt c∧esizes l≤2*c.length∧E8 BdExpr l∨20000<c.length:=B2 (A0 (A1 [40]) fun _=>A0 Am8 fun x=>A0 (A1 [41]) fun _=>H5 x) fun c l ⟨c1,c2,_,e1,k1,c3,c4,x,e2,hl,c5,c6,_,e3,k2,e4,e5⟩ ht=>by
 subst e1 e2 e3 e4 e5
 obtain⟨a1,a2⟩:=Hd k1
 obtain⟨b1,b2⟩:=Hd k2
 obtain⟨d1,d2,d3,d4⟩:=hl ht.r.l
 have e0:([40]:Str).length=1:=rfl
 have e9:([41]:Str).length=1:=rfl
 by_cases hc : 20000<(c1++(c3++(c5++[]))).length
 ·exact .inr hc
 ·simp only [Zh1] at hc
  refine .inl ⟨?_,?_,Blj d3 (by omega) d4⟩
  ·simp only [Se,Zh1,B8,Zf1,Zi1,twt]
   omega
  ·simp only [Zh1]
   omega
end Go.Proofs.YthndhaolemgbdaaGreatDoor
namespace Go.Proofs.YthndhaolemgbdaaGreatDoor
open Go.Ax
theorem Atb:Cns L2 fun c k=>(2≤k∧k≤5)∧(at' .str kindsL k).length+4=twt c:=fun l e l' hp=>by
 have one:∀{w:Str}{k:Int},isT w l=true→at' .str kindsL k=w→(2≤k∧k≤5)→∃c,l=c++l.tail∧(2≤k∧k≤5)∧(at' .str kindsL k).length+4=twt c:=fun {w k} hi hk hb=>by
  obtain⟨t,h1,h2⟩:=F7 hi
  exact⟨[t],h1,hb,by rw [hk];simp only [twt,Tb h2]⟩
 simp only [L2] at hp
 cases h1:isT Afh l with
 |true=>rw [h1] at hp;cases hp;exact one h1 rfl (by omega)
 |false =>
  rw [h1] at hp
  cases h2:isT As8 l with
  |true=>simp only [h2] at hp;cases hp;exact one h2 rfl (by omega)
  |false =>
   simp only [h2] at hp
   cases h3:isT Aei l with
   |true=>simp only [h3] at hp;cases hp;exact one h3 rfl (by omega)
   |false =>
    simp only [h3] at hp
    cases h4:isT T4 l with
    |true=>simp only [h4] at hp;cases hp;exact one h4 rfl (by omega)
    |false=>simp only [h4] at hp;cases hp
theorem Ags(w:Str) (ss:List Str) (R:TL→Prop) (h:Cns (A5 ss) fun c _=>R c):Cns (Rj w ss) fun c b=>(b=false∧c=[])∨(b=true∧∃k d,c=k++d∧kwT w k∧R d):=fun l e l' hp=>by
 simp only [Rj] at hp
 cases hi:isT w l with
 |false =>
  rw [hi] at hp
  cases hp
  exact⟨[],rfl,.inl ⟨rfl,rfl⟩⟩
 |true =>
  rw [hi] at hp
  obtain⟨t,h1,h2⟩:=F7 hi
  cases hq:A5 ss l.tail with
  |error q=>simp only [hq] at hp;cases hp
  |ok x =>
   obtain⟨x,l1⟩:=x
   simp only [hq] at hp
   cases hp
   obtain⟨d,hd,hr⟩:=h _ _ _ hq
   exact⟨t::d,by rw [h1,hd];rfl,.inr ⟨rfl,[t],d,rfl,⟨t,rfl,h2⟩,hr⟩⟩
theorem A1f:Cns Afo fun c r=>TkA c→r.length≤30∧((r=[]∧c=[])∨r.length+18≤twt c):=fun l e l' hp=>by
 simp only [Afo] at hp
 cases hi:isT wREF l with
 |false =>
  rw [hi] at hp
  cases hp
  exact⟨[],rfl,fun _=>⟨by simp,.inl ⟨rfl,rfl⟩⟩⟩
 |true =>
  rw [hi] at hp
  obtain⟨t,h1,h2⟩:=F7 hi
  obtain⟨d,hd,hr⟩:=Bn _ _ _ hp
  have e:wREF.length=10:=rfl
  refine⟨t::d,by rw [h1,hd];rfl,fun ht =>?_⟩
  obtain⟨a1,a2⟩:=hr ht.t
  refine⟨a2,.inr ?_⟩
  simp only [twt,Tb h2]
  omega
def clQ(c:TL) (x:Col):Prop:=TkA c→(P7 x).length≤twt c∧Ai4 x
theorem A3b:Cns A0b clQ:=B2 (A0 Bn fun n=>A0 Atb fun k=>A0 (Ags sNOT [sNULL] (kwT sNULL) (A1 sNULL)) fun nn=>A0 (Ags wUNIQUE [] (fun c=>c=[]) (fun l e l' hp=>by cases hp;exact⟨[],rfl,rfl⟩)) fun u=>G8 A1f) fun c x ⟨c1,c2,n,e1,hn,c3,c4,k,e2,hk,c5,c6,nn,e3,hnn,c7,c8,u,e4,hu,r,hr,e5⟩ ht=>by
 subst e1 e2 e3 e4 e5
 obtain⟨a1,a2⟩:=hn ht.l
 obtain⟨k1,k2⟩:=hk
 obtain⟨r1,r2⟩:=hr ht.r.r.r.r
 have hnl:(cond nn ([32,78,79,84,32,78,85,76,76]:Str) []).length≤twt c5:=by
  rcases hnn with ⟨rfl,_⟩|⟨rfl,k,d,rfl,h1,h2⟩
  ·simp
  ·have e1:sNOT.length=3:=rfl
   have e2:sNULL.length=4:=rfl
   rw [B8,(Hd h1).1,(Hd h2).1]
   simp only [Ae,Zf1,Zi1]
   omega
 have hul:(cond u ([32,85,78,73,81,85,69]:Str) []).length≤twt c7:=by
  rcases hu with ⟨rfl,_⟩|⟨rfl,k,d,rfl,h1,h2⟩
  ·simp
  ·have e1:wUNIQUE.length=6:=rfl
   rw [B8,(Hd h1).1]
   simp only [Ae,Zf1,Zi1]
   omega
 have hrl:(cond (decide (r=[])) [] ([32,82,69,70,69,82,69,78,67,69,83,32]++r):Str).length≤twt c8:=by
  rcases r2 with ⟨rfl,_⟩|r2
  ·simp
  ·cases decide (r=[]) with
   |true=>simp
   |false=>simp only [Ah,Zh1,Zf1,Zi1];omega
 refine⟨?_,by simp only [Ai4,ln,inI];omega⟩
 simp only [P7,Zh1,B8,Zf1,Zi1]
 omega
theorem Z3:Cns Si fun c x=>∃a b,c=a++b∧clQ a x∧kwT [44] b:=B2 (A0 A3b fun x=>G8 (A1 [44])) fun c x ⟨c1,c2,y,e1,h1,_,h2,e2⟩=>⟨c1,c2,e1,by rw [e2];exact h1,h2⟩
def csQ(c:TL) (l:List Col):Prop:=TkA c→((l.map Ak5).flatten).length≤twt c∧l.length≤c.length∧∀x,x∈l→Ai4 x
theorem A1h{c d:TL}{l:List Col}{x:Col}(h:csQ c l) (hx:∃a b,d=a++b∧clQ a x∧kwT [44] b):csQ (c++d) (l++[x]):=fun ht=>by
 obtain⟨a,b,rfl,h1,h2⟩:=hx
 obtain⟨i1,i2,i3⟩:=h ht.l
 obtain⟨j1,j2⟩:=h1 ht.r.l
 obtain⟨k1,k2⟩:=Hd h2
 have e:([44]:Str).length=1:=rfl
 refine⟨?_,?_,fun y hy =>?_⟩
 ·simp only [List.map_append,List.flatten_append,Zw1,List.map_nil,Zz1,List.flatten_nil,Ak5,Zh1,B8,Zf1,Zi1]
  omega
 ·simp only [Zh1,Zf1,Zi1]
  omega
 ·rcases List.mem_append.1 hy with hy|hy
  ·exact i3 y hy
  ·simp only [List.mem_cons,List.not_mem_nil,or_false] at hy
   rw [hy];exact j2
theorem Ag7:∀(n:Nat) (acc:List Col) (c0 l:TL) (e:List Col) (l':TL),csQ c0 acc→Ga n acc l = .ok (e,l')→∃c k,l=c++(k++l')∧csQ (c0++c) e∧kwT wPRIMARY k
 |0,_,_,_,_,_,_,hp=>by cases hp
 |n+1,acc,c0,l,e,l',h0,hp=>by
  simp only [Ga] at hp
  cases hi:isT wPRIMARY l with
  |true =>
   rw [hi] at hp
   cases hp
   obtain⟨t,ht,ht1⟩:=F7 hi
   exact⟨[],[t],ht,by rw [List.append_nil];exact h0,t,rfl,ht1⟩
  |false =>
   rw [hi] at hp
   cases hq:Si l with
   |error q=>simp only [hq] at hp;cases hp
   |ok x =>
    obtain⟨x,l1⟩:=x
    simp only [hq] at hp
    obtain⟨d,hd,hd1⟩:=Z3 _ _ _ hq
    obtain⟨c2,k,h2,h3,h4⟩:=Ag7 n (acc++[x]) (c0++d) l1 e l' (A1h h0 hd1) hp
    exact⟨d++c2,k,by rw [hd,h2,Zj1],by rw [←Zj1];exact h3,h4⟩
theorem Auj:Cns Y8 fun c l=>∃a k,c=a++k∧csQ a l∧kwT wPRIMARY k∧l≠[]:=fun l e l' hp=>by
 simp only [Y8] at hp
 cases hq:Si l with
 |error q=>rw [hq] at hp;cases hp
 |ok x =>
  obtain⟨x,l1⟩:=x
  rw [hq] at hp
  obtain⟨d,hd,hd1⟩:=Z3 _ _ _ hq
  have h0:csQ [] []:=fun _=>⟨by simp,by simp,fun _ h=>by cases h⟩
  obtain⟨c,k,h2,h3,h4⟩:=Ag7 _ [x] d l1 e l' (A1h h0 hd1) hp
  refine⟨d++(c++k),by rw [hd,h2];simp,d++c,k,by rw [Zj1],h3,h4,?_⟩
  rintro rfl
  have hm:∀n acc l l',acc≠[]→Ga n acc l = .ok ([],l')→False:=by
   intro n
   induction n with
   |zero=>intro _ _ _ _ h;cases h
   |succ n ih =>
    intro acc l l' ha h
    simp only [Ga] at h
    cases hi:isT wPRIMARY l with
    |true=>rw [hi] at h;cases h;exact ha rfl
    |false =>
     rw [hi] at h
     cases hq:Si l with
     |error q=>simp only [hq] at h;cases h
     |ok x=>simp only [hq] at h;exact ih _ _ _ (by simp) h
  exact hm _ _ _ _ (by simp) hp
theorem A3q:Cns Afn fun c e=>∃a b d k,c=a++(b++(d++k))∧kwT wCHECK a∧kwT [40] b∧MX d e∧kwT [41] k:=B2 (A0 (Amj wCHECK [40]) fun _=>A0 Aex fun e=>G8 (A1 [41])) fun c x ⟨c1,c2,_,e1,⟨a,b,e2,h1,h2⟩,c3,c4,y,e3,h3,_,h4,e4⟩=>by
 subst e1 e2 e3 e4
 exact⟨a,b,c3,c4,by simp,h1,h2,h3,h4⟩
def ckQ(c:TL) (l:List Xpr):Prop:=TkA c→((l.map Aaj).flatten).length≤twt c∧esizes l≤2*c.length∧l.length≤c.length∧∀x,x∈l→BdExpr x
theorem Bgn(c k d:TL) (l:List Xpr) (x:Xpr) (h:ckQ c l) (hk:kwT [44] k) (hd:∃a b d' k',d=a++(b++(d'++k'))∧kwT wCHECK a∧kwT [40] b∧MX d' x∧kwT [41] k'):ckQ (c++(k++d)) (l++[x]):=fun ht=>by
 obtain⟨a,b,d,q,rfl,h1,h2,h3,h4⟩:=hd
 obtain⟨i1,i2,i3,i4⟩:=h ht.l
 obtain⟨j1,j2,j3⟩:=h3 ht.r.r.r.r.l
 obtain⟨k1,k2⟩:=Hd hk
 obtain⟨a1,a2⟩:=Hd h1
 obtain⟨b1,b2⟩:=Hd h2
 obtain⟨q1,q2⟩:=Hd h4
 have e0:([40]:Str).length=1:=rfl
 have e9:([41]:Str).length=1:=rfl
 have e4:([44]:Str).length=1:=rfl
 have e5:wCHECK.length=5:=rfl
 have hl:(Aaj x).length≤10+(etx x).length:=by
  simp only [Aaj]
  cases decide (Gy x.kind=0)<;>simp only [Ae,Ah,Zh1,Zf1,Zi1]<;>omega
 refine⟨?_,?_,?_,fun y hy =>?_⟩
 ·simp only [List.map_append,List.flatten_append,Zw1,List.map_nil,Zz1,List.flatten_nil,Zh1,B8,Zi1]
  omega
 ·rw [Agl] at i2 ⊢
  simp only [List.map_append,List.sum_append,Zw1,List.map_nil,List.sum_cons,List.sum_nil,Zh1]
  omega
 ·simp only [Zh1,Zf1,Zi1]
  omega
 ·rcases List.mem_append.1 hy with hy|hy
  ·exact i4 y hy
  ·simp only [List.mem_cons,List.not_mem_nil,or_false] at hy
   rw [hy];exact j3
theorem Au3:Cns (fun l=>Bb Afn (l.length+1) [] l) ckQ:=fun l e l' hp=>by
 have h0:ckQ [] []:=fun _=>⟨by simp,by simp [esizes],by simp,fun _ h=>by cases h⟩
 obtain⟨c,h1,h2⟩:=Xl A3q ckQ Bgn _ [] [] l e l' h0 hp
 exact⟨c,h1,h2⟩
def MS(w:Nat) (c:TL) (s:Stm):Prop:=TkA c→c.length≤3000→BdStm s∧Few s∧(A7 s).length≤twt c+w
theorem Bon:BdExpr zX :=.mk 0 ⟨0,0,[]⟩ [] [] (by simp only [inI];omega) ⟨by simp only [inI];omega,by simp only [inI];omega,by simp only [ln,Zi1];omega⟩ (by simp only [ln,Zi1];omega) (by simp only [ln,Zi1];omega) (fun e he=>by cases he)
theorem V4{n:Nat}(h:n≤20000):ln n:=by simp only [ln];omega
theorem Bnr{n:Int}(h : -1≤n∧n≤9223372036854775807):inI n:=by simp only [inI];omega
def Bgg(l:List Str):Prop:=l.length≤3001∧∀x,x∈l→x.length≤30
theorem K8:Bgg []:=⟨by simp,fun _ h=>by cases h⟩
theorem Bjj{l:List Str}(h:Bgg l):E8 (fun x=>ln x.length) l:=⟨V4 (by have:=h.1;omega),fun x hx=>V4 (by have:=h.2 x hx;omega)⟩
def Bn7(l:List Xpr):Prop:=l.length≤3001∧esizes l≤6200∧∀x,x∈l→BdExpr x
theorem Zx:Bn7 []:=⟨by simp,by simp [esizes],fun _ h=>by cases h⟩
theorem Aj8{k:Int}{n o:Str}{cols:List Col}{names:List Str}{l:List Xpr}{rows:List (List Xpr)}{sets:List SetE}{has:Bool}{whr:Xpr}{order:List Str}{desc:List Bool}{most:Int}(hk : 0≤k∧k≤8) (hn:n.length≤30) (ho:o.length≤30) (hc:cols.length≤3001∧∀x,x∈cols→Ai4 x) (hm:Bgg names) (hl:Bn7 l) (hr:rows.length≤3001∧∀r,r∈rows→esizes r≤6200∧E8 BdExpr r) (hs:sets.length≤3001∧∀x,x∈sets→x.name.length≤30∧Bi x.e≤6200∧BdExpr x.e) (hw:BdExpr whr∧Bi whr≤6200) (hor:Bgg order) (hd:desc.length≤3001) (hmo : -1≤most∧most≤9223372036854775807):BdStm ⟨k,n,o,cols,names,l,rows,sets,has,whr,order,desc,most⟩∧Few ⟨k,n,o,cols,names,l,rows,sets,has,whr,order,desc,most⟩:=by
 have h1:=hm.1
 have h2:=hl.1
 have h3:=hor.1
 exact⟨⟨Bnr (by simp only;omega),V4 (by simp only;omega),V4 (by simp only;omega),⟨V4 (by simp only;omega),hc.2⟩,Bjj hm,⟨V4 (by simp only;omega),hl.2.2⟩,⟨V4 (by simp only;omega),fun r hr'=>(hr.2 r hr').2⟩,⟨V4 (by simp only;omega),fun x hx=>⟨V4 (by have:=(hs.2 x hx).1;omega),(hs.2 x hx).2.2⟩⟩,hw.1,Bjj hor,V4 (by simp only;omega),Bnr hmo⟩,
  ⟨by simp only;omega,by simp only;omega,by simp only;omega,by simp only;omega,by simp only;omega,hw.2,hl.2.1,⟨by simp only;omega,fun r hr'=>(hr.2 r hr').1⟩,⟨by simp only;omega,fun x hx=>(hs.2 x hx).2.1⟩⟩⟩
theorem z30:([]:Str).length≤30:=by simp
theorem zz{α:Type}{P : α→Prop}:([]:List α).length≤3001∧∀x,x∈([]:List α)→P x:=⟨by simp,fun _ h=>by cases h⟩
theorem zw:BdExpr zX∧Bi zX≤6200:=⟨Bon,by decide⟩
theorem A7r:Cns Sl (MS 13):=B2 (A0 Bn fun n=>A0 (A1 [40]) fun _=>A0 Auj fun cs=>A0 (A1 wKEY) fun _=>A0 Vf fun ns=>A0 Au3 fun es=>G8 (A1 [41])) fun c s ⟨c1,c2,n,e1,hn,c3,c4,_,e2,h2,c5,c6,cs,e3,⟨a,k,e4,hc,hk,hne⟩,c7,c8,_,e5,h5,c9,c10,ns,e6,hns,c11,c12,es,e7,hes,_,h8,e8⟩ ht hl=>by
 subst e1 e2 e3 e4 e5 e6 e7 e8
 obtain⟨n1,n2⟩:=hn ht.l
 obtain⟨a1,a2,a3⟩:=hc ht.r.r.l.l
 obtain⟨m1,m2,m3⟩:=hns ht.r.r.r.r.l
 obtain⟨x1,x2,x3,x4⟩:=hes ht.r.r.r.r.r.l
 have w2:=(Hd h2).1
 have w3:=(Hd hk).1
 have w5:=(Hd h5).1
 have w8:=(Hd h8).1
 have e0:([40]:Str).length=1:=rfl
 have e9:([41]:Str).length=1:=rfl
 have ek:wKEY.length=3:=rfl
 have ep:wPRIMARY.length=7:=rfl
 simp only [Zh1] at hl
 have hcl:=congrArg List.length (A0x hne)
 simp only [Zh1,Zf1,Zi1] at hcl
 obtain⟨b,f⟩:=Aj8 (k:=1) (n:=n) (o:=[]) (cols:=cs) (names:=ns) (l:=es) (rows:=[]) (sets:=[]) (has:=false) (whr:=zX) (order:=[]) (desc:=[]) (most:=0) (by omega) n2 z30 ⟨by omega,a3⟩ ⟨by omega,m3⟩ ⟨by omega,by omega,x4⟩ zz zz zw K8 (by simp) (by omega)
 refine⟨b,f,?_⟩
 show(A7 ⟨1,n,[],cs,ns,es,[],[],false,zX,[],[],0⟩).length≤_
 simp only [A7,if_true,J6,Zh1,B8,Zf1,Zi1]
 omega
end Go.Proofs.YthndhaolemgbdaaGreatDoor
namespace Go.Proofs.YthndhaolemgbdaaGreatDoor
open Go.Ax
theorem Abj{α:Type}(w:Str) {p q:TL→PR α}{Q1 Q2:TL→α→Prop}(h1:Cns p Q1) (h2:Cns q Q2):Cns (fun l=>match isT w l with|true=>p l.tail|false=>q l) fun c x=>(∃k d,c=k++d∧kwT w k∧Q1 d x)∨Q2 c x:=fun l e l' hp=>by
 simp only at hp
 cases hi:isT w l with
 |true =>
  rw [hi] at hp
  obtain⟨t,h3,h4⟩:=F7 hi
  obtain⟨d,hd,hq⟩:=h1 _ _ _ hp
  exact⟨t::d,by rw [h3,hd];rfl,.inl ⟨[t],d,rfl,⟨t,rfl,h4⟩,hq⟩⟩
 |false =>
  rw [hi] at hp
  obtain⟨d,hd,hq⟩:=h2 _ _ _ hp
  exact⟨d,hd,.inr hq⟩
theorem Bjm{w:Nat}{W:Str}{k d:TL}{s:Stm}(h:MS w d s) (hk:kwT W k):MS (w-(W.length+4)) (k++d) s:=fun ht hl=>by
 obtain⟨k1,k2⟩:=Hd hk
 simp only [Zh1] at hl
 obtain⟨h1,h2,h3⟩:=h ht.r (by omega)
 exact⟨h1,h2,by rw [B8];omega⟩
theorem Bjq{w v:Nat}(h:w≤v) {c:TL}{s:Stm}(hs:MS w c s):MS v c s:=fun ht hl=>by
 obtain⟨h1,h2,h3⟩:=hs ht hl
 exact⟨h1,h2,by omega⟩
theorem Tn{w:Nat}{W:Str}{p q:TL→PR Stm}{v:Nat}(h1:Cns p (MS w)) (h2:Cns q (MS v)) (hv:w-(W.length+4)≤v):Cns (fun l=>match isT W l with|true=>p l.tail|false=>q l) (MS v):=B2 (Abj W h1 h2) fun c s h=>by
 rcases h with ⟨k,d,rfl,hk,hm⟩|h
 ·exact Bjq hv (Bjm hm hk)
 ·exact h
theorem A7q:Cns Rm (MS 7):=B2 (A0 (A1 wINDEX) fun _=>A0 Bn fun n=>A0 (A1 wON) fun _=>A0 Bn fun o=>G8 Vf) fun c s ⟨c1,c2,_,e1,h1,c3,c4,n,e2,hn,c5,c6,_,e3,h3,c7,c8,o,e4,ho,ns,hns,e5⟩ ht hl=>by
 subst e1 e2 e3 e4 e5
 obtain⟨n1,n2⟩:=hn ht.r.l
 obtain⟨o1,o2⟩:=ho ht.r.r.r.l
 obtain⟨m1,m2,m3⟩:=hns ht.r.r.r.r
 have w1:=(Hd h1).1
 have w3:=(Hd h3).1
 have e1:wINDEX.length=5:=rfl
 have e3:wON.length=2:=rfl
 simp only [Zh1] at hl
 obtain⟨b,f⟩:=Aj8 (k:=3) (n:=n) (o:=o) (cols:=[]) (names:=ns) (l:=[]) (rows:=[]) (sets:=[]) (has:=false) (whr:=zX) (order:=[]) (desc:=[]) (most:=0) (by omega) n2 o2 zz ⟨by omega,m3⟩ Zx zz zz zw K8 (by simp) (by omega)
 refine⟨b,f,?_⟩
 show(A7 ⟨3,n,o,[],ns,[],[],[],false,zX,[],[],0⟩).length≤_
 simp [A7,B8]
 omega
theorem Be8:Cns S8 (MS 7):=by
 have one:∀k:Int,k=2∨k=4→Cns (bP B0 fun n=>Cn ({ zS with kind:=k,name:=n }:Stm)) (MS 7):=fun k hk=>B2 (G8 Bn) fun c s ⟨n,hn,e⟩ ht hl=>by
  subst e
  obtain⟨n1,n2⟩:=hn ht
  obtain⟨b,f⟩:=Aj8 (k:=k) (n:=n) (o:=[]) (cols:=[]) (names:=[]) (l:=[]) (rows:=[]) (sets:=[]) (has:=false) (whr:=zX) (order:=[]) (desc:=[]) (most:=0) (by omega) n2 z30 zz K8 Zx zz zz zw K8 (by simp) (by omega)
  refine⟨b,f,?_⟩
  show(A7 ⟨k,n,[],[],[],[],[],[],false,zX,[],[],0⟩).length≤_
  rcases hk with rfl|rfl<;>simp [A7]<;>omega
 refine Tn (W:=Fq) (one 2 (.inl rfl)) ?_ (by omega)
 exact B2 (A0 (A1 wINDEX) fun _=>one 4 (.inr rfl)) fun c s ⟨c1,c2,_,e1,h1,h2⟩=>by
  subst e1
  exact Bjq (Nat.sub_le _ _) (Bjm h2 h1)
def wQ(c:TL) (w:Bool×Xpr):Prop:=TkA c→(cond w.1 ([32,87,72,69,82,69,32]++etx w.2) []:Str).length≤twt c∧BdExpr w.2∧Bi w.2≤2*c.length+1
theorem Kr:Cns Fo wQ:=fun l e l' hp=>by
 simp only [Fo] at hp
 cases hi:isT wWHERE l with
 |false =>
  rw [hi] at hp
  cases hp
  exact⟨[],rfl,fun _=>⟨by simp,Bon,by decide⟩⟩
 |true =>
  rw [hi] at hp
  obtain⟨t,h1,h2⟩:=F7 hi
  cases hq:orW l.tail with
  |error q=>simp only [hq] at hp;cases hp
  |ok x =>
   obtain⟨x,l1⟩:=x
   simp only [hq] at hp
   cases hp
   obtain⟨d,hd,hm⟩:=Aex _ _ _ hq
   refine⟨t::d,by rw [h1,hd];rfl,fun ht =>?_⟩
   obtain⟨a1,a2,a3⟩:=hm ht.t
   have e1:wWHERE.length=5:=rfl
   refine⟨?_,a3,by simp only [Zf1];omega⟩
   simp only [Ae,Zh1,Zf1,Zi1,twt,Tb h2]
   omega
theorem Ayt:Cns G5 (MS 7):=B2 (A0 (A1 wINTO) fun _=>A0 Bn fun n=>A0 (A1 wVALUES) fun _=>G8 (Ip Api)) fun c s ⟨c1,c2,_,e1,h1,c3,c4,n,e2,hn,c5,c6,_,e3,h3,rs,hrs,e4⟩ ht hl=>by
 subst e1 e2 e3 e4
 simp only [Zh1] at hl
 obtain⟨n1,n2⟩:=hn ht.r.l
 have w1:=(Hd h1).1
 have w3:=(Hd h3).1
 have e1:wINTO.length=4:=rfl
 have e3:wVALUES.length=6:=rfl
 have hl2:∀{c:TL}{l:List (List Xpr)},Lst (fun c l=>TkA c→(Se l).length≤twt c∧esizes l≤2*c.length∧E8 BdExpr l∨20000<c.length) c l→c.length≤3000→Lst (fun c l=>TkA c→c.length≤3000∧(Se l).length≤twt c∧esizes l≤2*c.length∧E8 BdExpr l) c l:=fun {c l} h=>by
  induction h with
  | @one c x h =>
   intro hc
   exact .one fun ht=>by
    rcases h ht with h|h
    ·exact⟨hc,h⟩
    ·omega
  | @snoc c d k l x _ hk h ih =>
   intro hc
   simp only [Zh1] at hc
   refine .snoc (ih (by omega)) hk fun ht =>?_
   rcases h ht with h|h
   ·exact⟨by omega,h⟩
   ·omega
 obtain⟨d1,d2,d3,d4⟩:=Vk (f:=Se) (cm:=fun _=>0) (P:=fun r=>esizes r≤6200∧E8 BdExpr r) (fun c x hx ht=>by
  obtain⟨q1,q2,q3,q4⟩:=hx ht
  exact⟨q2,by omega,by omega,q4⟩) (hl2 hrs (by omega)) ht.r.r.r
 obtain⟨b,f⟩:=Aj8 (k:=5) (n:=n) (o:=[]) (cols:=[]) (names:=[]) (l:=[]) (rows:=rs) (sets:=[]) (has:=false) (whr:=zX) (order:=[]) (desc:=[]) (most:=0) (by omega) n2 z30 zz K8 Zx ⟨by omega,d4⟩ zz zw K8 (by simp) (by omega)
 refine⟨b,f,?_⟩
 show(A7 ⟨5,n,[],[],[],[],rs,[],false,zX,[],[],0⟩).length≤_
 simp [A7,B8]
 omega
def stQ(c:TL) (x:SetE):Prop:=TkA c→(Xu x).length≤twt c∧x.name.length≤30∧Bi x.e+1≤2*c.length∧BdExpr x.e
theorem Ape:Cns Aw7 stQ:=B2 (A0 Bn fun n=>A0 (A1 [61]) fun _=>G8 Aex) fun c x ⟨c1,c2,n,e1,hn,c3,c4,_,e2,h2,e,he,e3⟩ ht=>by
 subst e1 e2 e3
 obtain⟨n1,n2⟩:=hn ht.l
 obtain⟨a1,a2,a3⟩:=he ht.r.r
 obtain⟨w2,w3⟩:=Hd h2
 have e2:([61]:Str).length=1:=rfl
 refine⟨?_,n2,by simp only [Zh1];omega,a3⟩
 simp only [Xu,Zh1,B8,Zf1,Zi1]
 omega
theorem Bhe{c:TL}{l:List SetE}(h:Lst stQ c l):TkA c→∀x,x∈l→Bi x.e+1≤2*c.length:=by
 induction h with
 | @one c x h =>
  intro ht y hy
  simp only [List.mem_cons,List.not_mem_nil,or_false] at hy
  rw [hy]
  exact(h ht).2.2.1
 | @snoc c d k l x _ _ h ih =>
  intro ht y hy
  simp only [Zh1]
  rcases List.mem_append.1 hy with hy|hy
  ·have:=ih ht.l y hy
   omega
  ·simp only [List.mem_cons,List.not_mem_nil,or_false] at hy
   rw [hy]
   have:=(h ht.r.r).2.2.1
   omega
theorem Axi:Cns G7 (MS 7):=B2 (A0 Bn fun n=>A0 (A1 wSET) fun _=>A0 (Ip Ape) fun ss=>G8 Kr) fun c s ⟨c1,c2,n,e1,hn,c3,c4,_,e2,h2,c5,c6,ss,e3,hss,w,hw,e4⟩ ht hl=>by
 subst e1 e2 e3 e4
 simp only [Zh1] at hl
 obtain⟨n1,n2⟩:=hn ht.l
 have w2:=(Hd h2).1
 have e2:wSET.length=3:=rfl
 have hz:=Bhe hss ht.r.r.l
 obtain⟨d1,d2,d3,d4⟩:=Vk (f:=Xu) (cm:=fun _=>0) (P:=fun x=>x.name.length≤30∧BdExpr x.e) (fun c x hx ht=>by
  obtain⟨q1,q2,q3,q4⟩:=hx ht
  exact⟨q1,by omega,q2,q4⟩) hss ht.r.r.l
 obtain⟨v1,v2,v3⟩:=hw ht.r.r.r
 obtain⟨b,f⟩:=Aj8 (k:=6) (n:=n) (o:=[]) (cols:=[]) (names:=[]) (l:=[]) (rows:=[]) (sets:=ss) (has:=w.1) (whr:=w.2) (order:=[]) (desc:=[]) (most:=0) (by omega) n2 z30 zz K8 Zx zz ⟨by omega,fun x hx=>⟨(d4 x hx).1,by have:=hz x hx;omega,(d4 x hx).2⟩⟩ ⟨v2,by omega⟩ K8 (by simp) (by omega)
 refine⟨b,f,?_⟩
 show(A7 ⟨6,n,[],[],[],[],[],ss,w.1,w.2,[],[],0⟩).length≤_
 have e9:A7 ⟨6,n,[],[],[],[],[],ss,w.1,w.2,[],[],0⟩=[85,80,68,65,84,69,32]++(n++[32,83,69,84,32])++Bj Xu ss++cond w.1 ([32,87,72,69,82,69,32]++etx w.2) []:=rfl
 rw [e9]
 simp only [Zh1,B8,Zf1,Zi1] at v1 ⊢
 omega
theorem Axk:Cns Kf (MS 7):=B2 (A0 (A1 wFROM) fun _=>A0 Bn fun n=>G8 Kr) fun c s ⟨c1,c2,_,e1,h1,c3,c4,n,e2,hn,w,hw,e4⟩ ht hl=>by
 subst e1 e2 e4
 simp only [Zh1] at hl
 obtain⟨n1,n2⟩:=hn ht.r.l
 have w1:=(Hd h1).1
 have e1:wFROM.length=4:=rfl
 obtain⟨v1,v2,v3⟩:=hw ht.r.r
 obtain⟨b,f⟩:=Aj8 (k:=7) (n:=n) (o:=[]) (cols:=[]) (names:=[]) (l:=[]) (rows:=[]) (sets:=[]) (has:=w.1) (whr:=w.2) (order:=[]) (desc:=[]) (most:=0) (by omega) n2 z30 zz K8 Zx zz zz ⟨v2,by omega⟩ K8 (by simp) (by omega)
 refine⟨b,f,?_⟩
 show(A7 ⟨7,n,[],[],[],[],[],[],w.1,w.2,[],[],0⟩).length≤_
 have e9:A7 ⟨7,n,[],[],[],[],[],[],w.1,w.2,[],[],0⟩=[68,69,76,69,84,69,32,70,82,79,77,32]++n++cond w.1 ([32,87,72,69,82,69,32]++etx w.2) []:=rfl
 rw [e9]
 simp only [Zh1,B8,Zf1,Zi1] at v1 ⊢
 omega
theorem Avz:Cns Wa fun c l=>TkA c→(cond (decide ((l.length:Int)=0)) [42] []++Bj etx l:Str).length≤twt c∧esizes l≤2*c.length∧l.length≤c.length+1∧∀x,x∈l→BdExpr x:=B2 (Abj [42] (H5 ([]:List Xpr)) (Ip Aex)) fun c l h ht=>by
 rcases h with ⟨k,d,rfl,hk,rfl,rfl⟩|h
 ·obtain⟨k1,k2⟩:=Hd hk
  have e:([42]:Str).length=1:=rfl
  refine⟨?_,by simp [esizes],by simp,fun _ h=>by cases h⟩
  rw [List.append_nil,k1]
  simp [Bj]
 ·have hne:=A9n h
  have h2:=Vk (f:=etx) (cm:=fun e=>1+Bi e) (P:=BdExpr) (fun c x hx ht=>by
   obtain⟨a1,a2,a3⟩:=hx ht
   exact⟨a1,by omega,a3⟩) h ht
  rw [←Agl] at h2
  have hl:decide ((l.length:Int)=0)=false:=Zd1 fun e=>hne (List.eq_nil_of_length_eq_zero (by omega))
  rw [hl]
  exact h2
def odQ(c:TL) (x:Str×Bool):Prop:=TkA c→(Ma x).length≤twt c∧x.1.length≤30
theorem A4f:Cns Arq odQ:=by
 have hd:Cns Zi fun c b=>(cond b [32,68,69,83,67] []:Str).length≤twt c:=B2 (Abj wDESC (H5 true) (Abj Vy (H5 false) (H5 false))) fun c b h=>by
  rcases h with ⟨k,d,rfl,hk,rfl,rfl⟩|⟨k,d,rfl,hk,rfl,rfl⟩|⟨rfl,rfl⟩
  ·have e:wDESC.length=4:=rfl
   rw [List.append_nil,(Hd hk).1]
   simp only [Ae,Zf1,Zi1]
   omega
  ·simp
  ·simp
 exact B2 (A0 Bn fun n=>G8 hd) fun c x ⟨c1,c2,n,e1,hn,d,h2,e2⟩ ht=>by
  subst e1 e2
  obtain⟨n1,n2⟩:=hn ht.l
  refine⟨?_,n2⟩
  simp only [Ma,Zh1,B8]
  omega
def orQ(c:TL) (o:List (Str×Bool)):Prop:=TkA c→(cond (decide (0<(o.length:Int))) [32,79,82,68,69,82,32,66,89,32] []++Bj Ma o:Str).length≤twt c∧o.length≤c.length+1∧∀x,x∈o→x.1.length≤30
theorem Alz:Cns Gs orQ:=B2 (Abj wORDER (A0 (A1 wBY) fun _=>Ip A4f) (H5 ([]:List (Str×Bool)))) fun c o h ht=>by
 rcases h with ⟨k,d,rfl,hk,c1,c2,_,rfl,h1,h2⟩|⟨rfl,rfl⟩
 ·obtain⟨d1,d2,d3,d4⟩:=Vk (f:=Ma) (cm:=fun _=>0) (P:=fun x=>x.1.length≤30) (fun c x hx ht=>⟨(hx ht).1,by omega,(hx ht).2⟩) h2 ht.r.r
  have e1:wORDER.length=5:=rfl
  have e2:wBY.length=2:=rfl
  have w1:=(Hd hk).1
  have w2:=(Hd h1).1
  refine⟨?_,by simp only [Zh1];omega,d4⟩
  have hb:(cond (decide (0<(o.length:Int))) [32,79,82,68,69,82,32,66,89,32] []:Str).length≤10:=by cases decide (0<(o.length:Int))<;>simp
  simp only [Zh1,B8]
  omega
 ·exact⟨by simp [Bj],by simp,fun _ h=>by cases h⟩
def lmQ(c:TL) (m:Int):Prop:=TkA c→(cond (decide (0≤m)) ([32,76,73,77,73,84,32]++Bf ⟨3,m,[]⟩) []:Str).length≤twt c ∧ -1≤m∧m≤9223372036854775807
theorem Bg0:Cns Ad3 fun c m=>TkA c→(Bf ⟨3,m,[]⟩).length+4≤twt c∧0≤m∧m≤9223372036854775807:=fun l e l' hp=>by
 cases l with
 |nil=>cases hp
 |cons t r =>
  simp only [Ad3] at hp
  cases hk:decide (t.kind=3) with
  |false=>rw [hk] at hp;cases hp
  |true =>
   rw [hk] at hp
   cases hp
   have hk:=of_decide_eq_true hk
   refine⟨[t],rfl,fun ht =>?_⟩
   obtain⟨b1,b2,b3,b4,b5,b6,b7⟩:=ht.h
   have e:Bf ⟨3,t.n,[]⟩=Jb t.n.natAbs:=by rw [←Abi b3];rfl
   have:=b6 hk
   refine⟨?_,b3,b4⟩
   rw [e]
   simp only [twt,tW]
   rw [if_neg (by omega),if_neg (by omega)]
   omega
theorem Am0:Cns Fa lmQ:=B2 (Abj wLIMIT Bg0 (H5 (-1:Int))) fun c m h ht=>by
 rcases h with ⟨k,d,rfl,hk,h⟩|⟨rfl,rfl⟩
 ·obtain⟨h1,h2,h3⟩:=h ht.r
  have e1:wLIMIT.length=5:=rfl
  have w1:=(Hd hk).1
  refine⟨?_,by omega,h3⟩
  rw [Ze1 h2]
  simp only [Ae,Zh1,Zf1,Zi1,B8]
  omega
 ·exact⟨by simp,by omega,by omega⟩
theorem A9r:∀o:List (Str×Bool),(o.map (·.1)).zip (o.map (·.2))=o
 |[]=>rfl
 |p::o=>by simp only [Zw1,List.zip_cons_cons,A9r o]
theorem Axa:Cns Ig (MS 7):=B2 (A0 Avz fun es=>A0 (A1 wFROM) fun _=>A0 Bn fun n=>A0 Kr fun w=>A0 Alz fun o=>G8 Am0) fun c s ⟨c1,c2,es,e1,hes,c3,c4,_,e2,h2,c5,c6,n,e3,hn,c7,c8,w,e4,hw,c9,c10,o,e5,ho,m,hm,e6⟩ ht hl=>by
 subst e1 e2 e3 e4 e5 e6
 simp only [Zh1] at hl
 obtain⟨x1,x2,x3,x4⟩:=hes ht.l
 have w2:=(Hd h2).1
 have e2:wFROM.length=4:=rfl
 obtain⟨n1,n2⟩:=hn ht.r.r.l
 obtain⟨v1,v2,v3⟩:=hw ht.r.r.r.l
 obtain⟨o1,o2,o3⟩:=ho ht.r.r.r.r.l
 obtain⟨m1,m2⟩:=hm ht.r.r.r.r.r
 obtain⟨b,f⟩:=Aj8 (k:=8) (n:=n) (o:=[]) (cols:=[]) (names:=[]) (l:=es) (rows:=[]) (sets:=[]) (has:=w.1) (whr:=w.2) (order:=o.map (·.1)) (desc:=o.map (·.2)) (most:=m) (by omega) n2 z30 zz K8 ⟨by omega,by omega,x4⟩ zz zz ⟨v2,by omega⟩ ⟨by rw [List.length_map];omega,fun x hx=>by
  obtain⟨p,hp,rfl⟩:=List.mem_map.1 hx
  exact o3 p hp⟩ (by rw [List.length_map];omega) m2
 refine⟨b,f,?_⟩
 show(A7 ⟨8,n,[],[],[],es,[],[],w.1,w.2,o.map (·.1),o.map (·.2),m⟩).length≤_
 have e9:A7 ⟨8,n,[],[],[],es,[],[],w.1,w.2,o.map (·.1),o.map (·.2),m⟩=[83,69,76,69,67,84,32]++cond (decide ((es.length:Int)=0)) [42] []++Bj etx es++([32,70,82,79,77,32]++n)++cond w.1 ([32,87,72,69,82,69,32]++etx w.2) []++cond (decide (0<((o.map (·.1)).length:Int))) [32,79,82,68,69,82,32,66,89,32] []++Bj Ma ((o.map (·.1)).zip (o.map (·.2)))++cond (decide (0≤m)) ([32,76,73,77,73,84,32]++Bf ⟨3,m,[]⟩) []:=rfl
 rw [e9,A9r,List.length_map]
 simp only [Zh1,B8,Zf1,Zi1] at v1 x1 o1 m1 ⊢
 omega
theorem As6:Cns V5 (MS 0):=by
 have hc:Cns E4 (MS 7):=Tn (W:=Fq) A7r A7q (by decide)
 have h5:Cns Bgw (MS 0):=Tn (W:=M1) Axa (q:=fun l =>.error l) (fun _ _ _ h=>by cases h) (by decide)
 have h4:Cns Bca (MS 0):=Tn (W:=Kh) Axk h5 (by decide)
 have h3:Cns A49 (MS 0):=Tn (W:=Jl) Axi h4 (by decide)
 have h2:Cns A0o (MS 0):=Tn (W:=G6) Ayt h3 (by decide)
 have h1:Cns Ap6 (MS 0):=Tn (W:=N4) Be8 h2 (by decide)
 rw [Ax1]
 exact Tn (W:=Ec) hc h1 (by decide)
theorem A85{s:Str}{ts:TL}{x:Stm}(hs:s.length≤3000) (h:Lp.Sc s 0 ts) (ho:La ts = .ok x):BdStm x∧Few x∧(A7 x).length≤15000:=by
 obtain⟨f1,f2⟩:=Bbk h (by omega)
 have f3:=Ba0 h
 unfold La at ho
 cases hq:V5 ts with
 |error q=>rw [hq] at ho;cases ho
 |ok y =>
  obtain⟨y,l⟩:=y
  rw [hq] at ho
  simp only at ho
  cases hl:R2 l with
  |cons t r=>rw [hl] at ho;cases ho
  |nil =>
   rw [hl] at ho
   cases ho
   obtain⟨c,hc,hm⟩:=As6 ts x l hq
   subst hc
   rw [B8] at f2
   rw [Zh1] at f3
   obtain⟨a,b,d⟩:=hm f1.l (by omega)
   exact⟨a,b,by omega⟩
end Go.Proofs.YthndhaolemgbdaaGreatDoor
namespace Go.Proofs.YthndhaolemgbdaaGreatDoor
open Go.Ax
def Fs{α:Type}(p:TL→PR α):Prop:=∀l q,p l = .error q→q <:+ l
theorem Gg(l:TL):l.tail <:+ l:=List.tail_suffix l
section
variable {α β:Type}{p:TL→PR α}{Q:TL→α→Prop}
theorem M6(h:Cns p Q) {l l':TL}{e : α}(hp:p l = .ok (e,l')):l' <:+ l:=by
 obtain⟨c,h1,_⟩:=h l e l' hp
 exact⟨c,h1.symm⟩
theorem Ba{f : α→TL→PR β}(hc:Cns p Q) (h1:Fs p) (h2:∀x,Fs (f x)):Fs (bP p f):=fun l q hp=>by
 unfold bP at hp
 cases hq:p l with
 |error q'=>rw [hq] at hp;cases hp;exact h1 l q hq
 |ok x =>
  obtain⟨x,l1⟩:=x
  rw [hq] at hp
  exact(h2 x l1 q hp).trans (M6 hc hq)
theorem Gc(x : α):Fs (Cn x):=fun _ _ h=>by cases h
theorem Ie{g : α→β}(hc:Cns p Q) (h:Fs p):Fs (bP p fun x=>Cn (g x)):=Ba hc h fun _=>Gc _
theorem Iu(w:Str) {q:TL→PR α}(h1:Fs p) (h2:Fs q):Fs (fun l=>match isT w l with|true=>p l.tail|false=>q l):=fun l r hp=>by
 simp only at hp
 cases hi:isT w l with
 |true=>rw [hi] at hp;exact(h1 _ _ hp).trans (Gg l)
 |false=>rw [hi] at hp;exact h2 _ _ hp
theorem Bcq:Fs (fun l=>(.error l:PR α)):=fun l q h=>by cases h;exact List.suffix_refl l
theorem Ab7(hc:Cns p Q) (h:Fs p):∀(n:Nat) (acc:List α) (l q:TL),Bb p n acc l = .error q→q <:+ l
 |0,_,l,q,hp=>by cases hp;exact List.suffix_refl l
 |n+1,acc,l,q,hp=>by
  simp only [Bb] at hp
  cases hi:isT [44] l with
  |false=>rw [hi] at hp;cases hp
  |true =>
   rw [hi] at hp
   cases hq:p l.tail with
   |error q'=>simp only [hq] at hp;cases hp;exact(h _ _ hq).trans (Gg l)
   |ok x =>
    simp only [hq] at hp
    exact((Ab7 hc h n _ _ q hp).trans (M6 hc hq)).trans (Gg l)
theorem X9(hc:Cns p Q) (h:Fs p):Fs (G1 p):=fun l q hp=>by
 simp only [G1] at hp
 cases hq:p l with
 |error q'=>rw [hq] at hp;cases hp;exact h _ _ hq
 |ok x =>
  rw [hq] at hp
  exact(Ab7 hc h _ _ _ q hp).trans (M6 hc hq)
end
theorem Co:∀ss,Fs (A5 ss)
 |[]=>fun _ _ h=>by cases h
 |s::ss=>fun l q hp=>by
  simp only [A5] at hp
  cases hi:isT s l with
  |true=>rw [hi] at hp;exact(Co ss _ _ hp).trans (Gg l)
  |false=>rw [hi] at hp;cases hp;exact List.suffix_refl l
theorem Fu:Fs B0:=fun l q hp=>by
 cases l with
 |nil=>cases hp;exact List.suffix_refl _
 |cons t r =>
  simp only [B0] at hp
  cases hk:decide (t.kind=2) with
  |true=>rw [hk] at hp;cases hp
  |false=>rw [hk] at hp;cases hp;exact List.suffix_refl _
theorem Bkd:Fs Ad3:=fun l q hp=>by
 cases l with
 |nil=>cases hp;exact List.suffix_refl _
 |cons t r =>
  simp only [Ad3] at hp
  cases hk:decide (t.kind=3) with
  |true=>rw [hk] at hp;cases hp
  |false=>rw [hk] at hp;cases hp;exact List.suffix_refl _
theorem Bc1{rec:TL→PR Xpr}(hc:Cns rec Der) (h:Fs rec):Fs (Bo rec):=fun l q hp=>by
 cases l with
 |nil=>cases hp;exact List.suffix_refl _
 |cons t r =>
  rw [Vv] at hp
  cases hv:Akt t with
  |some v=>rw [hv] at hp;cases hp
  |none =>
   rw [hv] at hp
   cases hi:isT [40] (t::r) with
   |false=>rw [hi] at hp;cases hp;exact List.suffix_refl _
   |true =>
    rw [hi] at hp
    simp only [brP,bP] at hp
    cases hq:rec r with
    |error q'=>rw [hq] at hp;cases hp;exact(h _ _ hq).trans (List.suffix_cons t r)
    |ok x =>
     obtain⟨e1,l1⟩:=x
     rw [hq] at hp
     simp only at hp
     cases hj:isT [41] l1 with
     |true=>rw [hj] at hp;cases hp
     |false=>rw [hj] at hp;cases hp;exact(M6 hc hq).trans (List.suffix_cons t r)
theorem Bjh{part:TL→PR Xpr}{sg:List (Str×Int)}(hc:Cns part Der) (h:Fs part):∀(n:Nat) (e:Xpr) (l q:TL),Bv part sg n e l = .error q→q <:+ l
 |0,_,l,q,hp=>by cases hp;exact List.suffix_refl l
 |n+1,e,l,q,hp=>by
  simp only [Bv] at hp
  cases hf:sg.find? (fun p=>isT p.1 l) with
  |none=>rw [hf] at hp;cases hp
  |some p =>
   rw [hf] at hp
   cases hx:part l.tail with
   |error q'=>simp only [hx] at hp;cases hp;exact(h _ _ hx).trans (Gg l)
   |ok x =>
    simp only [hx] at hp
    exact((Bjh hc h n _ _ q hp).trans (M6 hc hx)).trans (Gg l)
theorem Afs{part:TL→PR Xpr}{sg:List (Str×Int)}(hc:Cns part Der) (h:Fs part):Fs (Ce part sg):=fun l q hp=>by
 simp only [Ce] at hp
 cases hx:part l with
 |error q'=>rw [hx] at hp;cases hp;exact h _ _ hx
 |ok x =>
  rw [hx] at hp
  exact(Bjh hc h _ _ _ q hp).trans (M6 hc hx)
theorem Ako{s:Str}{k:Int}{part:TL→PR Xpr}(h:Fs part):∀(l q:TL),A9 s k part l = .error q→q <:+ l
 |[],q,hp=>h _ _ hp
 |t::r,q,hp=>by
  simp only [A9] at hp
  cases hi:isT s (t::r) with
  |true =>
   rw [hi] at hp
   cases hx:A9 s k part r with
   |error q'=>simp only [hx] at hp;cases hp;exact(Ako h r q hx).trans (List.suffix_cons t r)
   |ok x=>simp only [hx] at hp;cases hp
  |false =>
   rw [hi] at hp
   exact h _ _ hp
theorem Blr{e:Xpr}{l q:TL}(hp:isP e l = .error q):q <:+ l:=by
 simp only [isP] at hp
 cases hn:isT sNOT l.tail with
 |true =>
  rw [hn] at hp
  cases hu:isT sNULL l.tail.tail with
  |true=>simp only [hu] at hp;cases hp
  |false=>simp only [hu] at hp;cases hp;exact(Gg _).trans (Gg l)
 |false =>
  rw [hn] at hp
  cases hu:isT sNULL l.tail with
  |true=>simp only [hu] at hp;cases hp
  |false=>simp only [hu] at hp;cases hp;exact Gg l
theorem Blg{sum:TL→PR Xpr}(hc:Cns sum Der) (h:Fs sum):Fs (Rk sum):=fun l q hp=>by
 simp only [Rk] at hp
 cases hx:sum l with
 |error q'=>rw [hx] at hp;cases hp;exact h _ _ hx
 |ok x =>
  obtain⟨x,l1⟩:=x
  rw [hx] at hp
  have hs:=M6 hc hx
  cases hf:cmpS.find? (fun p=>isT p.1 l1) with
  |some p =>
   simp only [hf] at hp
   cases hy:sum l1.tail with
   |error q'=>simp only [hy] at hp;cases hp;exact((h _ _ hy).trans (Gg l1)).trans hs
   |ok y=>simp only [hy] at hp;cases hp
  |none =>
   simp only [hf] at hp
   cases hi:isT sIS l1 with
   |false=>simp only [hi] at hp;cases hp
   |true=>simp only [hi] at hp;exact(Blr hp).trans hs
theorem Be4:∀n,Fs (orN n)
 |0=>fun l q h=>by cases h;exact List.suffix_refl l
 |n+1=>by
  have c7:Cns (A9 [45] 15 (Bo (orN n))) Der:=N0 (Aod (Aft n)) (.inr ⟨rfl,rfl⟩)
  have c6:=L4 (sg:=[([42],14)]) c7 (fun q hq=>⟨6,by revert q;decide⟩)
  have c5:=L4 (sg:=[([43],12),([45],13)]) c6 (fun q hq=>⟨5,by revert q;decide⟩)
  have c4:=A27 c5
  have c3:Cns (A9 sNOT 3 _) Der:=N0 c4 (.inl ⟨rfl,rfl⟩)
  have c2:=L4 (sg:=[(Aj3,4)]) c3 (fun q hq=>⟨2,by revert q;decide⟩)
  have h7:Fs (A9 [45] 15 (Bo (orN n))):=Ako (Bc1 (Aft n) (Be4 n))
  have h6:=Afs (sg:=[([42],14)]) c7 h7
  have h5:=Afs (sg:=[([43],12),([45],13)]) c6 h6
  have h4:=Blg c5 h5
  have h3:Fs (A9 sNOT 3 _):=Ako h4
  have h2:=Afs (sg:=[(Aj3,4)]) c3 h3
  exact Afs (sg:=[(sOR,5)]) c2 h2
theorem A1t:Fs orW:=fun l q h=>Be4 _ l q h
theorem Bat(w:Str) (ss:List Str):Fs (Rj w ss):=fun l q hp=>by
 simp only [Rj] at hp
 cases hi:isT w l with
 |false=>rw [hi] at hp;cases hp
 |true =>
  rw [hi] at hp
  cases hq:A5 ss l.tail with
  |error q'=>simp only [hq] at hp;cases hp;exact(Co ss _ _ hq).trans (Gg l)
  |ok x=>simp only [hq] at hp;cases hp
theorem Asn:Fs Nb:=Ba (A1 [40]) (Co _) fun _=>Ba (Ip Bn) (X9 Bn Fu) fun _=>Ba (A1 [41]) (Co _) fun _=>Gc _
theorem Att:Fs M7:=X9 Aex A1t
theorem Bf2:Fs L2:=Iu Afh (p:=Cn 2) (Gc _) (Iu As8 (p:=Cn 3) (Gc _) (Iu Aei (p:=Cn 4) (Gc _) (Iu T4 (p:=Cn 5) (Gc _) Bcq)))
theorem Blq:Fs Afo:=Iu wREF (p:=B0) (q:=Cn []) Fu (Gc _)
theorem Bkn:Fs A0b:=Ba Bn Fu fun _=>Ba Atb Bf2 fun _=>Ba (Ags sNOT [sNULL] (kwT sNULL) (A1 sNULL)) (Bat _ _) fun _=>Ba (Ags wUNIQUE [] (fun c=>c=[]) (fun l e l' hp=>by cases hp;exact⟨[],rfl,rfl⟩)) (Bat _ _) fun _=>Ie A1f Blq
theorem A29:Fs Si:=Ba A3b Bkn fun _=>Ie (A1 [44]) (Co _)
theorem Amm:∀(n:Nat) (acc:List Col) (l q:TL),Ga n acc l = .error q→q <:+ l
 |0,_,l,q,hp=>by cases hp;exact List.suffix_refl l
 |n+1,acc,l,q,hp=>by
  simp only [Ga] at hp
  cases hi:isT wPRIMARY l with
  |true=>rw [hi] at hp;cases hp
  |false =>
   rw [hi] at hp
   cases hq:Si l with
   |error q'=>simp only [hq] at hp;cases hp;exact A29 _ _ hq
   |ok x=>simp only [hq] at hp;exact(Amm n _ _ q hp).trans (M6 Z3 hq)
theorem Bg2:Fs Y8:=fun l q hp=>by
 simp only [Y8] at hp
 cases hq:Si l with
 |error q'=>rw [hq] at hp;cases hp;exact A29 _ _ hq
 |ok x=>rw [hq] at hp;exact(Amm _ _ _ q hp).trans (M6 Z3 hq)
theorem Bl5:Fs Afn:=Ba (Amj wCHECK [40]) (Co _) fun _=>Ba Aex A1t fun _=>Ie (A1 [41]) (Co _)
theorem Bdc:Fs Sl:=Ba Bn Fu fun _=>Ba (A1 [40]) (Co _) fun _=>Ba Auj Bg2 fun _=>Ba (A1 wKEY) (Co _) fun _=>Ba Vf Asn fun _=>Ba Au3 (fun l q hp=>Ab7 A3q Bl5 _ _ l q hp) fun _=>Ie (A1 [41]) (Co _)
theorem A92:Fs Rm:=Ba (A1 wINDEX) (Co _) fun _=>Ba Bn Fu fun _=>Ba (A1 wON) (Co _) fun _=>Ba Bn Fu fun _=>Ie Vf Asn
theorem Ait:Fs Fo:=fun l q hp=>by
 simp only [Fo] at hp
 cases hi:isT wWHERE l with
 |false=>rw [hi] at hp;cases hp
 |true =>
  rw [hi] at hp
  cases hq:orW l.tail with
  |error q'=>simp only [hq] at hp;cases hp;exact(A1t _ _ hq).trans (Gg l)
  |ok x=>simp only [hq] at hp;cases hp
theorem Bj4:Fs A0k:=Ba (A1 [40]) (Co _) fun _=>Ba Am8 Att fun _=>Ie (A1 [41]) (Co _)
theorem Bml:Fs Aw7:=Ba Bn Fu fun _=>Ba (A1 [61]) (Co _) fun _=>Ie Aex A1t
theorem Bgt:Fs V5:=by
 have hd:Fs S8:=Iu Fq (Ie Bn Fu) (Ba (A1 wINDEX) (Co _) fun _=>Ie Bn Fu)
 have hi:Fs G5:=Ba (A1 wINTO) (Co _) fun _=>Ba Bn Fu fun _=>Ba (A1 wVALUES) (Co _) fun _=>Ie (Ip Api) (X9 Api Bj4)
 have hu:Fs G7:=Ba Bn Fu fun _=>Ba (A1 wSET) (Co _) fun _=>Ba (Ip Ape) (X9 Ape Bml) fun _=>Ie Kr Ait
 have he:Fs Kf:=Ba (A1 wFROM) (Co _) fun _=>Ba Bn Fu fun _=>Ie Kr Ait
 have hdsc:Fs Zi:=Iu wDESC (Gc _) (Iu Vy (Gc _) (Gc _))
 have hor:Fs Arq:=Ba Bn Fu fun _=>Ie (Q:=fun _ _=>True) (fun l e l' hp=>by
  simp only [Zi] at hp
  cases h1:isT wDESC l with
  |true=>rw [h1] at hp;cases hp;obtain⟨t,h2,_⟩:=F7 h1;exact⟨[t],h2,trivial⟩
  |false =>
   rw [h1] at hp
   cases h3:isT Vy l with
   |true=>simp only [h3] at hp;cases hp;obtain⟨t,h2,_⟩:=F7 h3;exact⟨[t],h2,trivial⟩
   |false=>simp only [h3] at hp;cases hp;exact⟨[],rfl,trivial⟩) hdsc
 have ho:Fs Gs:=Iu wORDER (Ba (A1 wBY) (Co _) fun _=>X9 A4f hor) (Gc _)
 have hm:Fs Fa:=Iu wLIMIT Bkd (Gc _)
 have hst:Fs Wa:=Iu [42] (Gc _) Att
 have hs:Fs Ig:=Ba Avz hst fun _=>Ba (A1 wFROM) (Co _) fun _=>Ba Bn Fu fun _=>Ba Kr Ait fun _=>Ba Alz ho fun _=>Ie Am0 hm
 rw [Ax1]
 exact Iu Ec (Iu Fq Bdc A92) (Iu N4 hd (Iu G6 hi (Iu Jl hu (Iu Kh he (Iu M1 hs Bcq)))))
theorem Bcl{l q:TL}(h:La l = .error q):q <:+ l:=by
 unfold La at h
 cases hq:V5 l with
 |error q'=>rw [hq] at h;cases h;exact Bgt _ _ hq
 |ok y =>
  obtain⟨y,l1⟩:=y
  rw [hq] at h
  simp only at h
  have hs:=M6 As6 hq
  have ht:R2 l1 <:+ l1:=by
   unfold R2
   cases isT [59] l1 with
   |true=>exact Gg l1
   |false=>exact List.suffix_refl _
  cases hl:R2 l1 with
  |nil=>rw [hl] at h;cases h
  |cons t r =>
   rw [hl] at h
   cases h
   rw [←hl]
   exact ht.trans hs
theorem Bln{s:Str}{ts q:TL}(h:Lp.Sc s 0 ts) (hq:q <:+ ts) : 0≤Ge (s.length:Int) q∧Ge (s.length:Int) q≤(s.length:Int):=by
 cases q with
 |nil=>simp only [Ge];omega
 |cons t r =>
  obtain⟨c,hc⟩:=hq
  obtain⟨A,h1,h2,_⟩:=h.part c.length t (by rw [←hc];simp)
  simp only [Ge]
  omega
theorem Bnd{m:Str}{p j:Int}(h:Lp.Er m p j):p≤j∧j≤p+m.length:=by
 induction h with
 |blank _ _ ih=>simp only [Zf1];omega
 |tok _ h2 _ ih =>
  have:=Lp.tokS_len h2
  rw [Za2] at ih
  omega
 |bad _ _ _=>omega
end Go.Proofs.YthndhaolemgbdaaGreatDoor
namespace Go.Proofs.YthndhaolemgbdaaGreatDoor
open Go.Ax
theorem Om{V R α:Type} [DecidableEq α] {step:(V→Option R)→V→Option R}(l m:List α) (hm:l.length=m.length) (st:Nat→V) (no yes:Option R)
  (hs:∀i (h:i<l.length) (h2:i<m.length) rec,step rec (st i)=cond (!decide (l[i]=m[i])) no (rec (st (i+1)))) (he:∀rec,step rec (st l.length)=yes) (k:Nat) (hk:l.length<k):Al step k (st 0)=cond (decide (l=m)) yes no:=by
 refine(Cy l.length st (fun i=>cond (decide (l.drop i=m.drop i)) yes no) (fun i hi rec hr =>?_) (fun rec =>?_) k 0 (Nat.zero_le _) (by omega)).trans (by rw [Zq1,Zq1])
 ·have hi2:i<m.length:=by omega
  rw [hs i hi hi2,hr,Av hi,Av hi2]
  by_cases h:l[i]=m[i]
  ·rw [Ze1 h,h]
   have:decide (m[i]::l.drop (i+1)=m[i]::m.drop (i+1))=decide (l.drop (i+1)=m.drop (i+1)):=Zy1.2 ⟨fun e=>by injection e,fun e=>by rw [e]⟩
   rw [this]
   rfl
  ·rw [Zd1 h,Zd1 (show ¬l[i]::l.drop (i+1)=m[i]::m.drop (i+1) from fun e=>h (by injection e))]
   rfl
 ·rw [he,Zk1 (Zn1 _),Zk1 (by omega)]
  rfl
def Adl:Sig:=⟨26,[(0,.sl .str false),(1,.sl .str false),(4,.bool),(5,.int .i64)],[],[],0,0,0,[],[]⟩
abbrev Xa:=List Str×List Str×Bool×Int
def Tz{R:Type}(rec:Xa→Option R) (kx:Ex→Xa→Option R) (v:Xa):Option R:=match v with
 |(v,v1,v2,v3) =>
 cond (decide (v3<(v.length:Int))) (
  chk (inb v3 v.length) (
  chk (inb v3 v1.length) (
   cond (!decide ((at' .str v v3)=(at' .str v1 v3))) (
   kx .ret (v,v1,false,v3)) (
   rec (v,v1,v2,(wr .i64 (v3+1))))))) (
  kx (.exit 0) (v,v1,v2,v3))
def An2(R:Type) (k:Nat):Px R:=pxO [] [] [(4,Ay k Adl (Tz))] []
def Afk(k:Nat) (x:HV [.sl .str false,.sl .str false]):Option (HV [.bool]):=match x with
 |(a,b) =>
 cond (!decide ((a.length:Int)=(b.length:Int))) (
  some false) (
  Al (fun rec=>Tz rec (fun e vz=>match vz with|(_,_,v6,_)=>match e with
  |.ret =>
   some v6
  |.exit 0 =>
   some true
  |_=>none)) k (a,b,false,0))
theorem Awx(k:Nat):FO 82 [.sl .str false,.sl .str false] [.bool] (Afk k):=fR (px:=An2 _ k) (n:=1) Tryz.func82 rfl (fun cx H=>by
 have h0:Lv cx (An2 (HV [.bool]) k):=lv H Af Ab Aa
 have hlrsameN_0:=lO H h0 (b:=lp Tryz.f82 0) (k:=k) (n:=0) (s:=Adl) (step:=Tz) (fun _ _ _ (_,_,_,_)=>by kernel_rfl) Ak
 exact⟨h0,(B7 Ak hlrsameN_0)⟩) fun(_,_)=>by kernel_rfl
def Ajg(a b:List Str):Bool:=decide (a=b)
def Aif:FT [.sl .str false,.sl .str false] [.bool]:=fun x=>some (Ajg x.1 x.2)
theorem Bl6{α:Type}{a b:List α}(h:¬(a.length:Int)=(b.length:Int)):¬a=b:=fun e=>h (by rw [e])
theorem A6n:FO 82 [.sl .str false,.sl .str false] [.bool] Aif :=.fin 0 Awx fun(a,b) r hb hx=>⟨a.length+1,by
 simp only [Aif,Ajg,Za1] at hx
 rw [←hx]
 simp only [Afk]
 by_cases hl:(a.length:Int)=(b.length:Int)
 ·rw [Ze1 hl,Zt1,Ah]
  refine(Om a b (by omega) (fun i=>(a,b,false,(i:Int))) (some false) (some true) (fun i h h2 rec =>?_) (fun rec =>?_) (a.length+1) (by omega)).trans ?_
  ·simp only [Tz,Gb h,Ae,Be h,Be h2,chk,Bc (c :=.str) h,Bc (c :=.str) h2,A3 h hb.1.1]
  ·simp only [Tz,Fz,Ah]
  ·cases decide (a=b)<;>rfl
 ·rw [Zd1 hl,Zd1 (Bl6 hl)]
  rfl⟩
def A6z(R:Type):Px R:=pxO [(21,cA Aqq)] [] [] []
def S0(x:HV [.sl .expr false,.sl .expr false]):Option (HV [.bool]):=match x with
 |(a,b) =>
 some (Amu (Xpr.mk 0 ⟨0,0,[]⟩ [] a) (Xpr.mk 0 ⟨0,0,[]⟩ [] b))
theorem Ax6:FO 83 [.sl .expr false,.sl .expr false] [.bool] (S0):=fR (px:=A6z _) (n:=0) Tryz.func83 rfl (fun _ H=>⟨lv H (c1 H Au6 Af) Ab Aa,Ak⟩) fun(_,_)=>by kernel_rfl
def Xh(a:List Xpr) (b:List Xpr):Bool :=
 (Amu (Xpr.mk 0 ⟨0,0,[]⟩ [] a) (Xpr.mk 0 ⟨0,0,[]⟩ [] b))
theorem A0q(x:HV [.sl .expr false,.sl .expr false]):S0 x=some (Xh x.1 x.2):=by
 first
  |exact rfl
  |simp only [S0,Xh,Bq]
def Avs:FT [.sl .expr false,.sl .expr false] [.bool]:=fun x=>some (Xh x.1 x.2)
theorem A6w:FO 83 [.sl .expr false,.sl .expr false] [.bool] Avs :=.fin0 Ax6 fun x _ _ hx=>(A0q x).trans hx
theorem Ao5(a b:List Xpr):Xh a b=decide (a=b):=by
 have e:Xh a b=Hp (.mk 0 ⟨0,0,[]⟩ [] a) (.mk 0 ⟨0,0,[]⟩ [] b):=rfl
 rw [e,I8]
 exact Zy1.2 (by simp)
theorem Anv(a b:Xpr):Amu a b=decide (a=b):=I8 a b
instance:DecidableEq SetE:=fun a b=>decidable_of_iff (a.name=b.name∧a.e=b.e) (by
 cases a;cases b
 simp only [SetE.mk.injEq])
def Afl:Sig:=⟨199,[(4,.bool),(8,.int .i64)],[(2,.ptr 0 0),(3,.ptr 1 0)],[(0,.one (.sv .stmt)),(1,.one (.sv .stmt))],2,0,0,[],[]⟩
abbrev W9:=Bool×Int×Stm×Stm
def S5{R:Type}(rec:W9→Option R) (kx:Ex→W9→Option R) (v:W9):Option R:=match v with
 |(v18,v19,w6,w7) =>
 cond (decide (v19<(w6.desc.length:Int))) (
  chk (inb v19 w6.desc.length) (
  chk (inb v19 w7.desc.length) (
   cond (!decide ((at' .bool w6.desc v19)=(at' .bool w7.desc v19))) (
   kx .ret (false,v19,w6,w7)) (
   rec (v18,(wr .i64 (v19+1)),w6,w7))))) (
  kx (.exit 6) (v18,v19,w6,w7))
def Adz:Sig:=⟨199,[(4,.bool),(7,.int .i64)],[(2,.ptr 0 0),(3,.ptr 1 0)],[(0,.one (.sv .stmt)),(1,.one (.sv .stmt))],2,0,0,[],[]⟩
abbrev Xe:=Bool×Int×Stm×Stm
def Ru{R:Type}(rec:Xe→Option R) (kx:Ex→Xe→Option R) (v:Xe):Option R:=match v with
 |(v12,v13,w4,w5) =>
 cond (decide (v13<(w4.sets.length:Int))) (
  chk (inb v13 w4.sets.length) (
  chk (inb v13 w5.sets.length) (
   cond (!decide (((at' .set w4.sets v13).name)=((at' .set w5.sets v13).name))) (
   kx .ret (false,v13,w4,w5)) (
   chk (inb v13 w4.sets.length) (
    chk (inb v13 w5.sets.length) (
    cond (!(Amu (Kj ((at' .set w4.sets v13).e)) (Kj ((at' .set w5.sets v13).e)))) (
     kx .ret (false,v13,w4,w5)) (
     rec (v12,(wr .i64 (v13+1)),w4,w5)))))))) (
  kx (.exit 4) (v12,v13,w4,w5))
def Ae1:Sig:=⟨199,[(4,.bool),(6,.int .i64)],[(2,.ptr 0 0),(3,.ptr 1 0)],[(0,.one (.sv .stmt)),(1,.one (.sv .stmt))],2,0,0,[],[]⟩
abbrev Xn:=Bool×Int×Stm×Stm
def Te{R:Type}(rec:Xn→Option R) (kx:Ex→Xn→Option R) (v:Xn):Option R:=match v with
 |(v6,v7,w2,w3) =>
 cond (decide (v7<(w2.rows.length:Int))) (
  chk (inb v7 w2.rows.length) (
  chk (inb v7 w3.rows.length) (
   cond (!(Xh (at' .exprs w2.rows v7) (at' .exprs w3.rows v7))) (
   kx .ret (false,v7,w2,w3)) (
   rec (v6,(wr .i64 (v7+1)),w2,w3))))) (
  kx (.exit 2) (v6,v7,w2,w3))
def Adn:Sig:=⟨199,[(4,.bool),(5,.int .i64)],[(2,.ptr 0 0),(3,.ptr 1 0)],[(0,.one (.sv .stmt)),(1,.one (.sv .stmt))],2,0,0,[],[]⟩
abbrev Xk:=Bool×Int×Stm×Stm
def To{R:Type}(rec:Xk→Option R) (kx:Ex→Xk→Option R) (v:Xk):Option R:=match v with
 |(v,v1,w,w1) =>
 cond (decide (v1<(w.cols.length:Int))) (
  chk (inb v1 w.cols.length) (
  chk (inb v1 w1.cols.length) (
   cond (!decide ((at' .col w.cols v1)=(at' .col w1.cols v1))) (
   kx .ret (false,v1,w,w1)) (
   rec (v,(wr .i64 (v1+1)),w,w1))))) (
  kx (.exit 0) (v,v1,w,w1))
def An1(R:Type) (k:Nat):Px R:=pxO [(21,cA Aqq),(82,cA Aif),(83,cA Avs)] [] [(6,Ay k Adn (To)),(11,Ay k Ae1 (Te)),(16,Ay k Adz (Ru)),(21,Ay k Afl (S5))] []
def Aek(k:Nat) (x:HV [.sv .stmt,.sv .stmt]):Option (HV [.bool]):=match x with
 |(a,b) =>
 let j5:=fun(p:Bool) =>
  let j4:=fun(p1:Bool) =>
  let j3:=fun(p2:Bool) =>
   let j2:=fun(p3:Bool) =>
   let j1:=fun(p4:Bool) =>
    let j:=fun(p5:Bool) =>
    cond (p5) (
     some false) (
     cond (!(Ajg a.order b.order)) (
     some false) (
     cond (!(Xh a.l b.l)) (
      some false) (
      let j6:=fun(p10:Bool) =>
      cond (p10) (
       some false) (
       cond (!decide ((a.sets.length:Int)=(b.sets.length:Int))) (
       some false) (
       cond (!decide ((a.desc.length:Int)=(b.desc.length:Int))) (
        some false) (
        Al (fun rec=>To rec (fun e vz=>match vz with|(v2,_,v4,v5)=>match e with
        |.ret =>
         some v2
        |.exit 0 =>
         Al (fun rec=>Te rec (fun e vz=>match vz with|(v8,_,v10,v11)=>match e with
         |.ret =>
          some v8
         |.exit 2 =>
          Al (fun rec=>Ru rec (fun e vz=>match vz with|(v14,_,v16,v17)=>match e with
          |.ret =>
           some v14
          |.exit 4 =>
           Al (fun rec=>S5 rec (fun e vz=>match vz with|(v20,_,_,_)=>match e with
           |.ret =>
            some v20
           |.exit 6 =>
            some true
           |_=>none)) k (v14,0,v16,v17)
          |_=>none)) k (v8,0,v10,v11)
         |_=>none)) k (v2,0,v4,v5)
        |_=>none)) k (false,0,a,b))))
      cond (!decide ((a.cols.length:Int)=(b.cols.length:Int))) (
      j6 true) (
      j6 (!decide ((a.rows.length:Int)=(b.rows.length:Int)))))))
    cond (p4) (
    j true) (
    j (!(Ajg a.names b.names)))
   cond (p3) (
    j1 true) (
    j1 (!(Amu (Kj a.whr) (Kj b.whr))))
   cond (p2) (
   j2 true) (
   j2 (!decide (a.most=b.most)))
  cond (p1) (
   j3 true) (
   j3 (!decide (a.has=b.has)))
  cond (p) (
  j4 true) (
  j4 (!decide (a.on=b.on)))
 cond (!decide (a.kind=b.kind)) (
  j5 true) (
  j5 (!decide (a.name=b.name)))
theorem Azv(k:Nat):FO 28 [.sv .stmt,.sv .stmt] [.bool] (Aek k):=fR (px:=An1 _ k) (n:=4) Tryz.func28 rfl (fun cx H=>by
 have h0:Lv cx (An1 (HV [.bool]) k):=lv H (c1 H Au6 (c1 H A6n (c1 H A6w Af))) Ab Aa
 have hlrsameS_0:=lO H h0 (b:=lp Tryz.f28 0) (k:=k) (n:=0) (s:=Adn) (step:=To) (fun _ _ _ (_,_,_,_)=>by kernel_rfl) Ak
 have hlrsameS_1:=lO H h0 (b:=lp Tryz.f28 1) (k:=k) (n:=0) (s:=Ae1) (step:=Te) (fun _ _ _ (_,_,_,_)=>by kernel_rfl) Ak
 have hlrsameS_2:=lO H h0 (b:=lp Tryz.f28 2) (k:=k) (n:=0) (s:=Adz) (step:=Ru) (fun _ _ _ (_,_,_,_)=>by kernel_rfl) Ak
 have hlrsameS_3:=lO H h0 (b:=lp Tryz.f28 3) (k:=k) (n:=0) (s:=Afl) (step:=S5) (fun _ _ _ (_,_,_,_)=>by kernel_rfl) Ak
 exact⟨h0,(B7 (B7 (B7 (B7 Ak hlrsameS_0) hlrsameS_1) hlrsameS_2) hlrsameS_3)⟩) fun(_,_)=>by kernel_rfl
def Ara(a b:Stm):Bool:=decide (a=b)
def Ai5:FT [.sv .stmt,.sv .stmt] [.bool]:=fun x=>some (Ara x.1 x.2)
theorem Bbd{R:Type}(x y:SetE) (no yes:R):cond (!decide (x.name=y.name)) no (cond (!decide (x.e=y.e)) no yes)=cond (!decide (x=y)) no yes:=by
 have e:decide (x=y)=(decide (x.name=y.name)&&decide (x.e=y.e)):=by
  rw [←Bool.decide_and]
  refine Zy1.2 ?_
  cases x;cases y
  simp only [SetE.mk.injEq]
 rw [e]
 cases decide (x.name=y.name)<;>rfl
theorem Bha{a b:Stm}(h1:a.kind=b.kind) (h2:a.name=b.name) (h3:a.on=b.on) (h4:a.cols=b.cols) (h5:a.names=b.names) (h6:a.l=b.l) (h7:a.rows=b.rows) (h8:a.sets=b.sets) (h9:a.has=b.has) (h10:a.whr=b.whr) (h11:a.order=b.order) (h12:a.desc=b.desc) (h13:a.most=b.most):a=b:=by
 cases a;cases b
 simp only at h1 h2 h3 h4 h5 h6 h7 h8 h9 h10 h11 h12 h13
 simp only [h1,h2,h3,h4,h5,h6,h7,h8,h9,h10,h11,h12,h13]
theorem A46:FO 28 [.sv .stmt,.sv .stmt] [.bool] Ai5 :=.fin 0 Azv fun(a,b) r hb hx=>⟨a.cols.length+a.rows.length+a.sets.length+a.desc.length+1,by
 simp only [Ai5,Ara,Za1] at hx
 rw [←hx]
 have hb:=hb.1
 have no:∀{p:Prop} [Decidable p],(a=b→p)→¬p→decide (a=b)=false:=fun h hn=>Zd1 fun e=>hn (h e)
 simp only [Aek,Jn,Ao5,Anv,Ajg]
 by_cases h1:a.kind=b.kind
 case neg=>rw [Zd1 h1,no (fun e=>by rw [e]) h1];rfl
 rw [Ze1 h1]
 by_cases h2:a.name=b.name
 case neg=>rw [Zd1 h2,no (fun e=>by rw [e]) h2];rfl
 rw [Ze1 h2]
 by_cases h3:a.on=b.on
 case neg=>rw [Zd1 h3,no (fun e=>by rw [e]) h3];rfl
 rw [Ze1 h3]
 by_cases h9:a.has=b.has
 case neg=>rw [Zd1 h9,no (fun e=>by rw [e]) h9];rfl
 rw [Ze1 h9]
 by_cases h13:a.most=b.most
 case neg=>rw [Zd1 h13,no (fun e=>by rw [e]) h13];rfl
 rw [Ze1 h13]
 by_cases h10:a.whr=b.whr
 case neg=>rw [Zd1 h10,no (fun e=>by rw [e]) h10];rfl
 rw [Ze1 h10]
 by_cases h5:a.names=b.names
 case neg=>rw [Zd1 h5,no (fun e=>by rw [e]) h5];rfl
 rw [Ze1 h5]
 by_cases h11:a.order=b.order
 case neg=>rw [Zd1 h11,no (fun e=>by rw [e]) h11];rfl
 rw [Ze1 h11]
 by_cases h6:a.l=b.l
 case neg=>rw [Zd1 h6,no (fun e=>by rw [e]) h6];rfl
 rw [Ze1 h6]
 by_cases l4:(a.cols.length:Int)=(b.cols.length:Int)
 case neg=>rw [Zd1 l4,no (fun e=>by rw [e]) l4];rfl
 rw [Ze1 l4]
 by_cases l7:(a.rows.length:Int)=(b.rows.length:Int)
 case neg=>rw [Zd1 l7,no (fun e=>by rw [e]) l7];rfl
 rw [Ze1 l7]
 by_cases l8:(a.sets.length:Int)=(b.sets.length:Int)
 case neg=>rw [Zd1 l8,no (fun e=>by rw [e]) l8];rfl
 rw [Ze1 l8]
 by_cases l12:(a.desc.length:Int)=(b.desc.length:Int)
 case neg=>rw [Zd1 l12,no (fun e=>by rw [e]) l12];rfl
 rw [Ze1 l12]
 simp only [Zt1,Ah]
 generalize hk:a.cols.length+a.rows.length+a.sets.length+a.desc.length+1=k
 refine(Om a.cols b.cols (by omega) (fun i=>(false,(i:Int),a,b)) (some false) (cond (decide (a.rows=b.rows)) (cond (decide (a.sets=b.sets)) (cond (decide (a.desc=b.desc)) (some true) (some false)) (some false)) (some false)) (fun i h h2 rec =>?_) (fun rec =>?_) k (by omega)).trans ?_
 ·simp only [To,Gb h,Ae,Be h,Be h2,chk,Bc (c :=.col) h,Bc (c :=.col) h2,A3 h hb.cols.1]
 ·simp only [To,Fz,Ah]
  refine(Om a.rows b.rows (by omega) (fun i=>(false,(i:Int),a,b)) (some false) (cond (decide (a.sets=b.sets)) (cond (decide (a.desc=b.desc)) (some true) (some false)) (some false)) (fun i h h2 rec =>?_) (fun rec =>?_) k (by omega)).trans rfl
  ·simp only [Te,Gb h,Ae,Be h,Be h2,chk,Bc (c :=.exprs) h,Bc (c :=.exprs) h2,A3 h hb.rows.1,Ao5]
  ·simp only [Te,Fz,Ah]
   refine(Om a.sets b.sets (by omega) (fun i=>(false,(i:Int),a,b)) (some false) (cond (decide (a.desc=b.desc)) (some true) (some false)) (fun i h h2 rec =>?_) (fun rec =>?_) k (by omega)).trans rfl
   ·simp only [Ru,Gb h,Ae,Be h,Be h2,chk,Bc (c :=.set) h,Bc (c :=.set) h2,A3 h hb.sets.1,Jn,Anv]
    exact Bbd _ _ _ _
   ·simp only [Ru,Fz,Ah]
    refine(Om a.desc b.desc (by omega) (fun i=>(false,(i:Int),a,b)) (some false) (some true) (fun i h h2 rec =>?_) (fun rec =>?_) k (by omega)).trans rfl
    ·simp only [S5,Gb h,Ae,Be h,Be h2,chk,Bc (c :=.bool) h,Bc (c :=.bool) h2,A3 h hb.desc]
    ·simp only [S5,Fz,Ah]
 ·by_cases h4:a.cols=b.cols
  case neg=>rw [Zd1 h4,no (fun e=>by rw [e]) h4];rfl
  by_cases h7:a.rows=b.rows
  case neg=>rw [Ze1 h4,Zd1 h7,no (fun e=>by rw [e]) h7];rfl
  by_cases h8:a.sets=b.sets
  case neg=>rw [Ze1 h4,Ze1 h7,Zd1 h8,no (fun e=>by rw [e]) h8];rfl
  by_cases h12:a.desc=b.desc
  case neg=>rw [Ze1 h4,Ze1 h7,Ze1 h8,Zd1 h12,no (fun e=>by rw [e]) h12];rfl
  rw [Ze1 h4,Ze1 h7,Ze1 h8,Ze1 h12,Ze1 (Bha h1 h2 h3 h4 h5 h6 h7 h8 h9 h10 h11 h12 h13)]
  rfl⟩
end Go.Proofs.YthndhaolemgbdaaGreatDoor
namespace Go.Proofs.YthndhaolemgbdaaGreatDoor
open Go.Ax
end Go.Proofs.YthndhaolemgbdaaGreatDoor
namespace Go.Ax
open Go.RowKit Go.ChangeShapes Go.WideShapes
section
variable {H:Type}{enc':TypeId×Value→H}{P:Program}{w:World}{base:Nat}{sp:Nat→Bool}{held:Bool}
theorem Asr{t k e:TypeId}{fuel:Nat}{cs:List Value}{ps:List MemPlace}(ht:P.underlying t=some (.map k e)) (hk:P.underlying k=some (.int .i64)) (he:P.underlying e=some .string) {l:List (Int×Str)}(hl:∀p,p∈l→P8 l p.1=p.2) (hno:∀n,(∀p,p∈l→p.1≠n)→P8 l n=[]) (h:DataW.trod enc' P w base sp held fuel t cs=some (.map (l.map fun p=>(.int .i64 p.1,.lit (.string p.2))),ps)):∃b es clk,cs=[.map (some b)]∧w.heap[b]? = some (.map es clk)∧A1w l es.toList:=by
 rcases open_anymap ht h with ⟨_,hx⟩|⟨b,es,clock,_,rfl,hb,_,_,_⟩
 ·cases hx
 cases fuel with
 |zero=>simp [DataW.trod] at h
 |succ n =>
  simp only [DataW.trod,ht,hb] at h
  ·split at h
   ·obtain⟨entries,hm,hs⟩:=Option.bind_eq_some_iff.1 h
    split at hs
    ·simp only [Za1,Zp1,DataW.map.injEq] at hs
     obtain⟨hs,_⟩:=hs
     have hperm:=sorted_perm (entries.map (·.1))
     rw [hs] at hperm
     have hx:∀(x:MapEntry) (y:(Lit×DataW H)×List MemPlace),((keyOf P k x.key).bind fun key=>if x.val.formed P e=true then(DataW.trod enc' P w base sp held n e x.val.cells.toList).map fun y=>((key,y.1),y.2) else none)=some y→∃(m:Int) (s:ByteArray),x.key = .int .i64 m∧x.val = .string s∧s.size≤maxLen∧y.1=(.int .i64 m,.lit (.string s.data.toList)):=by
      intro x y hy
      obtain⟨key,hk1,hy⟩:=Option.bind_eq_some_iff.1 hy
      split at hy
      ·rename_i hfm
       obtain⟨z,hz,rfl⟩:=Option.map_eq_some_iff.1 hy
       obtain⟨s,hs1,rfl,hs3⟩:=DataW.trod_string he hz
       have hv:x.val = .string s:=by
        cases hxv:x.val<;>rw [hxv] at hs1 hfm<;>simp [Value.cells] at hs1
        ·rw [hs1]
        ·simp [Value.formed,he] at hfm
       have hkk:∃m,x.key = .int .i64 m∧key = .int .i64 m:=by
        simp only [keyOf,hk] at hk1
        cases hxk:x.key<;>rw [hxk] at hk1<;>simp [mapKey,hk] at hk1
        obtain⟨⟨h1,_⟩,h2⟩:=hk1
        subst h1
        exact⟨_,rfl,h2.symm⟩
       obtain⟨m,h1,rfl⟩:=hkk
       exact⟨m,s,h1,hv,hs3,rfl⟩
      ·cases hy
     have hin:∀x,x∈es.toList→∃(m:Int) (s:ByteArray),x.key = .int .i64 m∧x.val = .string s∧s.size≤maxLen∧(m,s.data.toList)∈l:=fun x hxm=>by
      obtain⟨i,hi,rfl⟩:=List.getElem_of_mem hxm
      obtain⟨y,hy,hf⟩:=Lib.mapM_at hm i _ (Zo1 hi)
      obtain⟨m,s,h1,h2,h3,h4⟩:=hx _ y hf
      refine⟨m,s,h1,h2,h3,?_⟩
      have:y.1∈entries.map (·.1):=List.mem_map.2 ⟨y,List.mem_of_getElem? hy,rfl⟩
      have:=hperm.symm.subset this
      rw [h4] at this
      obtain⟨p,hp,e⟩:=List.mem_map.1 this
      simp only [Zp1,Lit.int.injEq,true_and,DataW.lit.injEq,Lit.string.injEq] at e
      obtain⟨e1,e2⟩:=e
      rw [←e1,←e2]
      exact hp
     have hout:∀p,p∈l→∃x,x∈es.toList∧x.key = .int .i64 p.1:=fun p hp=>by
      have h1:(Lit.int .i64 p.1,DataW.lit (H:=H) (.string p.2))∈entries.map (·.1):=hperm.subset (List.mem_map.2 ⟨p,hp,rfl⟩)
      obtain⟨y,hy,e⟩:=List.mem_map.1 h1
      obtain⟨x,hxm,hf⟩:=mapM_mem hm y hy
      obtain⟨m,s,h2,_,_,h4⟩:=hx x y hf
      rw [e] at h4
      simp only [Zp1,Lit.int.injEq,true_and] at h4
      exact⟨x,hxm,by rw [h2,h4.1]⟩
     refine⟨b,es,clock,rfl,hb,fun n =>?_⟩
     have hik:MapKept.IsKey (.int .i64) (.int .i64 n):=by simp [MapKept.IsKey]
     rcases MapKept.findNow_spec hik es.toList 0 (fun x hxm=>by obtain⟨m,s,h1,_⟩:=hin x hxm;rw [h1];simp [MapKept.IsKey]) with ⟨h1,h2⟩|⟨j,x,h1,h2,h3⟩
     ·have:P8 l n=[]:=hno n fun p hp e=>by
       obtain⟨x,hxm,hk⟩:=hout p hp
       exact h2 x hxm (by rw [hk,e])
      exact⟨by rw [this];simp,.inl ⟨h1,this⟩⟩
     ·obtain⟨m,s,g1,g2,g3,g4⟩:=hin x (List.mem_of_getElem? h2)
      have hmn:m=n:=by
       rw [g1] at h3
       simpa using h3
      subst hmn
      have hg:=hl _ g4
      simp only at hg
      refine⟨by rw [hg,Array.length_toList];exact g3,.inr ⟨0+j,?_⟩⟩
      rw [h1,g2,hg,Array.toArray_toList]
    ·cases hs
   ·cases h
end
theorem Aeg{H:Type}{P:Program}:∀{ts us:List TypeId}{ds gs:List (DataW H)}{n:Nat},ds.length≤ts.length→n∈DataW.weightsEach P ts ds→n∈DataW.weightsEach P (ts++us) (ds++gs)
 |[],us,ds,gs,n,_,h=>by cases ds<;>simp [DataW.weightsEach] at h
 |t::ts,us,[],gs,n,_,h=>by simp [DataW.weightsEach] at h
 |t::ts,us,d::ds,gs,n,hl,h=>by
  simp only [DataW.weightsEach,Zb2,List.mem_append] at h ⊢
  rcases h with h|h
  ·exact .inl h
  ·exact .inr (Aeg (by simpa using hl) h)
theorem A95{H:Type}{P:Program}{ts us:List TypeId}{ds gs:List (DataW H)}(h:(DataW.weightsEach P (ts++us) (ds++gs)).all (·≤reachBytes)=true) (hl:ds.length≤ts.length):∀(i:Nat) (t:TypeId) (d:DataW H),ts[i]? = some t→ds[i]? = some d→∀n,n∈d.weights P t→n≤R47:=fun i t d ht hd n hn=>by
 have:=Zg2.1 h n (Aeg hl (DataW.weights_mem_each ht hd n hn))
 show n≤reachBytes
 exact of_decide_eq_true this
theorem Auy{H:Type}{enc':TypeId×Value→H}{P:Program}{w:World}{base:Nat}{sp:Nat→Bool}{held:Bool}:∀{ts:List TypeId}{vs:List Value}{ds:List (DataW H)}{ps:List MemPlace},DataW.TrodAll enc' P w base sp held ts vs ds ps→ds.length=ts.length:=by
 intro ts
 induction ts with
 |nil=>intro vs ds ps h;cases vs<;>cases ds<;>simp [DataW.TrodAll] at h ⊢
 |cons t ts ih =>
  intro vs ds ps h
  obtain⟨v,vs',d,ds',p,q,rfl,rfl,rfl,hd,hrest⟩:=trodAll_cons h
  simp [ih hrest]
end Go.Ax
namespace Go.Proofs.YthndhaolemgbdaaGreatDoor
open Go.Ax Go.ChangeShapes Go.WideShapes Go.ChangeAt Go.RowKit Go.ChangeMaps
theorem own:ownKnob Tryz.prog.godebug=none:=by kernel_rfl
def rdL:List Nat:=[3,4,9,5,23,26,111,89,44,24,39,34,42,78,41,40,63,67]
theorem Blm:rdB elT (Aph ttL) rdL=true:=by kernel_rfl
theorem Bmj:szB Tryz.prog elT (Aph ttL) rdL=true:=by kernel_rfl
theorem Bgh:laidOutB Tryz.prog=true:=by kernel_rfl
def GlE(x:Vx) (g:Nat):Gv→Prop
 |.arr c xs=>∀i y,xs[i]? = some y→∀w',Chg x.S x.w w'→At w' c y g (i*csz c)
 |.map l=>∃r es clk,(∀w',Chg x.S x.w w'→w'.cell? ⟨g,0,none⟩=some (.map (some r))∧w'.heap[r]? = some (.map es clk))∧A1w l es.toList
 |.num k=>∃n,∀w',Chg x.S x.w w'→w'.cell? ⟨g,0,none⟩=some (.int k n)
theorem Jg{α:Type}:∀{L:List (Nat×α)}{g:Nat}{v : α},tbl L g=some v→(g,v)∈L
 |[],_,_,h=>by simp [tbl] at h
 |(k,u)::L,g,v,h=>by
  simp only [tbl] at h
  split at h
  ·rename_i hk
   have hk:=Zl1 hk
   subst hk
   simp only [Za1] at h
   subst h
   exact Zr1
  ·exact Zu1 _ (Jg h)
theorem Bht{x:Vx}{L:List (Nat×Gv)}(h:∀p,p∈L→GlE x p.1 p.2):GlR x (tbl L) :=
 ⟨fun _ _ _ hg=>h _ (Jg hg),fun _ _ hg=>h _ (Jg hg),fun _ _ hg=>h _ (Jg hg)⟩
theorem Ah1{P:Program}{w:World}:∀{l:List (String×DataW Unit)}{ps:List MemPlace},DataW.LaidVars P w l ps→∀x,x∈l→∃g t cs fuel p,P.globalNamed x.1=some g∧(P.globals[g]?).map (·.type)=some t∧w.var? P x.1=some cs∧DataW.trod (fun _=>()) P w 0 (fun _=>true) false fuel t cs.toList=some (x.2,p)
 |[],_,_,x,hx=>by cases hx
 |(n,d)::r,ps,h,x,hx=>by
  obtain⟨g,t,cs,fuel,p,q,h1,h2,h3,h4,h5,_⟩:=h
  rcases List.mem_cons.1 hx with rfl|hx
  ·exact⟨g,t,cs,fuel,p,h1,h2,h3,h4⟩
  ·exact Ah1 h5 x hx
theorem Akg{H:Type}{enc:TypeId×Value→H}{P:Program}{w:World}{base:Nat}{sp:Nat→Bool}{held:Bool}{fuel:Nat}{t e:TypeId}{n:Nat}{cs:List Value}{zs:List (List UInt8)}{p:List MemPlace}
  (ht:P.underlying t=some (.array n e)) (he:P.underlying e=some .string) (hce:P.cellsOf e=1)
  (h:DataW.trod enc P w base sp held fuel t cs=some (.agg (zs.map fun z =>.lit (.string z)),p)):∀(i:Nat) (z:Str),zs[i]? = some z→cs[i]? = some (.string ⟨z.toArray⟩):=by
 cases fuel with
 |zero=>simp [DataW.trod] at h
 |succ fuel =>
  simp only [DataW.trod,ht,hce,Nat.mul_one] at h
  split at h
  ·rename_i hl
   obtain⟨xs,hm,hx⟩:=Option.map_eq_some_iff.1 h
   have hxs:xs.map (·.1)=zs.map fun z=>(DataW.lit (.string z):DataW H):=by
    have:=congrArg Prod.fst hx
    simpa using this
   have hxl:xs.length=n:=by simpa using Lib.mapM_length hm
   have hzl:zs.length=n:=by
    have:=congrArg List.length hxs
    simp at this
    omega
   intro i z hz
   have hi:i<n:=by
    have:=(Zi2.1 hz).1
    omega
   obtain⟨b,hb,hf⟩:=Lib.mapM_at hm i i (by simp [hi])
   obtain⟨z',hc,h3,_⟩:=DataW.trod_string he hf
   have h1:cs[i]? = some (.string z'):=by
    have:=congrArg (·[0]?) hc
    simpa [List.getElem?_take,List.getElem?_drop] using this
   have h2:(xs.map (·.1))[i]? = some b.1:=by simp [hb]
   rw [hxs] at h2
   simp only [List.getElem?_map,hz,Zl2,Za1] at h2
   rw [h3] at h2
   simp only [DataW.lit.injEq,Lit.string.injEq] at h2
   rw [h1,h2]
  ·cases h
theorem Am1{W:World}{l:List (String×DataW Unit)}(h:laidMet Tryz.prog l W) {nm:String}{g t e:Nat}{n:Nat}{zs:List Str}(hin:(nm,DataW.agg (zs.map fun z =>.lit (.string z)))∈l) (hg:Tryz.prog.globalNamed nm=some g) (hgt:(Tryz.prog.globals[g]?).map (·.type)=some t)
  (ht:Tryz.prog.underlying t=some (.array n e)) (he:Tryz.prog.underlying e=some .string) (hce:Tryz.prog.cellsOf e=1) (hz:(zs.all fun z=>Nat.ble z.length maxLen)=true):GlE (v0 elT Fw W) g (.arr .str zs):=by
 obtain⟨ps,hl,_⟩:=h
 obtain⟨g',t',cs,fuel,p,h1,h2,h3,h4⟩:=Ah1 hl _ hin
 obtain rfl:=Option.some.inj (hg.symm.trans h1)
 obtain rfl:=Option.some.inj (hgt.symm.trans h2)
 have hc:=Akg ht he hce h4
 intro i y hy w' hw j d hd
 have hj:j=0∧d = .str y:=by
  cases j with
  |zero=>simpa [enc] using hd.symm
  |succ j=>simp [enc] at hd
 obtain⟨rfl,rfl⟩:=hj
 have h5:=World.var?_cell h1 h3 i
 rw [←Array.getElem?_toList,hc i y hy] at h5
 have hm:=Zg2.1 hz y (List.mem_of_getElem? hy)
 have e1:i*csz .str+0=i:=by simp [csz]
 exact⟨_,by rw [e1];exact hw.cell _ _ _ h5 (fun h=>h),.str y (Nat.le_of_ble_eq_true hm)⟩
theorem Bix:∀p,p∈signsL→P8 signsL p.1=p.2:=by decide
theorem Bhs(l:List (Int×Str)):∀n,(∀p,p∈l→p.1≠n)→P8 l n=[]:=by
 induction l with
 |nil=>intro n _;rfl
 |cons p l ih =>
  intro n h
  obtain⟨k,s⟩:=p
  have h1:k≠n:=h (k,s) (by simp)
  simp only [P8,Zd1 h1]
  exact ih n fun p hp=>h p (by simp [hp])
theorem A4r{W:World}{l:List (String×DataW Unit)}(h:laidMet Tryz.prog l W) (hin:("exchequer/ast.signs",Rows.laid_exchequer_ast_signs)∈l):GlE (v0 elT Fw W) 0 (.map signsL):=by
 obtain⟨ps,hl,_⟩:=h
 obtain⟨g',t',cs,fuel,p,hg',ht',hvar,hd⟩:=Ah1 hl _ hin
 obtain rfl:=Option.some.inj ((show Tryz.prog.globalNamed "exchequer/ast.signs" = some 0 by kernel_rfl).symm.trans hg')
 obtain rfl:=Option.some.inj ((show(Tryz.prog.globals[0]?).map (·.type)=some 147 by kernel_rfl).symm.trans ht')
 obtain⟨b,es,clk,h1,h2,h3⟩:=Asr (l:=signsL) (t:=147) (k:=3) (e:=9) (by kernel_rfl) (by kernel_rfl) (by kernel_rfl) Bix (Bhs signsL) hd
 have hc:=World.var?_cell hg' hvar 0
 have h1':cs = #[.map (some b)]:=by
  apply Array.ext'
  exact h1
 rw [h1'] at hc
 have hc:W.cell? ⟨0,0,none⟩=some (.map (some b)):=hc
 have hlt:b<W.heap.size:=(Zh2.1 h2).1
 exact⟨b,es,clk,fun w' hw=>⟨hw.cell _ 0 _ hc (fun h=>h),by rw [hw.block b hlt (fun _ h=>h)];exact h2⟩,h3⟩
theorem Bif{W:World}(h:W.ShapedOpen Tryz.prog):GlE (v0 elT Fw W) 3 (.num .i64):=by
 obtain⟨m,hm⟩:=Go.Proofs.cell_of_shapedOpen_int (zero := #[.int .i64 0]) (t:=3) (g:=3) h (of_decide_eq_true (by kernel_rfl)) (by kernel_rfl) rfl (by kernel_rfl) (by kernel_rfl) Tryz.underlying3
 exact⟨m,fun w' hw=>hw.cell _ 0 _ hm (fun h=>h)⟩
def Bjp(l:List (String×DataW Unit)):Prop:=(l.all fun x=>x.2.handleName?.isNone)=true
 ∧ ("exchequer/lex.words",Rows.laid_exchequer_lex_words)∈l
 ∧ ("exchequer/ast.signs",Rows.laid_exchequer_ast_signs)∈l
 ∧ ("exchequer/ast.kinds",Rows.laid_exchequer_ast_kinds)∈l
 ∧ True
theorem Bia{W:World}{l:List (String×DataW Unit)}(hl:Bjp l) (hL:laidMetH Tryz.prog l W) (hS:W.ShapedOpen Tryz.prog):GlR (v0 elT Fw W) glT:=by
 have hL':laidMet Tryz.prog l W:=by
  have hf:(l.filter fun x=>x.2.handleName?.isSome)=[]:=List.filter_eq_nil_iff.2 fun x hx=>by
   have:=Zg2.1 hl.1 x hx
   rw [Option.isNone_iff_eq_none] at this
   simp [this]
  unfold laidMetH at hL
  rw [hf] at hL
  exact hL
 replace hl:=hl.2
 clear hL
 have _:=hS
 refine Bht fun p hp =>?_
 have hwords:GlE (v0 elT Fw W) 2 (.arr .str wordsL):=Am1 (n:=36) (t:=221) (e:=9) hL' hl.1 (by kernel_rfl) (by kernel_rfl) (by kernel_rfl) (by kernel_rfl) (by kernel_rfl) (by kernel_rfl)
 replace hl:=hl.2
 have hsigns:=A4r hL' hl.1
 replace hl:=hl.2
 have hkinds:GlE (v0 elT Fw W) 1 (.arr .str kindsL):=Am1 (n:=6) (t:=191) (e:=9) hL' hl.1 (by kernel_rfl) (by kernel_rfl) (by kernel_rfl) (by kernel_rfl) (by kernel_rfl) (by kernel_rfl)
 replace hl:=hl.2
 have hmax:=Bif hS
 simp only [List.mem_cons,List.not_mem_nil,or_false] at hp
 repeat' (first|(rcases hp with rfl|hp)|subst hp)
 all_goals assumption
def Bof:DataW Unit→Value
 |.lit (.int k n) =>.int k n
 |.lit (.string s) =>.string ⟨s.toArray⟩
 |_ =>.int .u8 0
def Y9:DataW Unit→List Value
 |.agg l=>l.map Bof
 |_=>[]
def Bld:DataW Unit→List Value
 |.agg l=>l.flatMap Y9
 |_=>[]
def Ahz(vs:List Value):Obj→Obj
 |.cells _ t frozen =>.cells vs.toArray t frozen
 |o=>o
noncomputable def A94 (h:Array Obj):Array Obj :=
 let h:=h.modify 2 (Ahz (Y9 Rows.laid_exchequer_lex_words))
 let h:=h.modify 1 (Ahz (Y9 Rows.laid_exchequer_ast_kinds))
 let h:=(h.modify 4 (Ahz (Y9 Rows.laid_unicode_utf8_first))).modify 5 (Ahz (Bld Rows.laid_unicode_utf8_acceptRanges))
 let h:=(h.modify 0 (Ahz [.map (some h.size)])).push (.map ((signsL.zip (List.range 11)).map fun p=>(⟨.int .i64 p.1.1,.string ⟨p.1.2.toArray⟩,p.2⟩:MapEntry)).toArray 11)
 h
noncomputable def Acu (os:Os):World :=
 { World.holding Tryz.prog os ⟨#[], #[],[]⟩ with heap:=A94 (World.holding Tryz.prog os ⟨#[], #[],[]⟩).heap }
set_option maxRecDepth 100000 in
theorem A62{H:Type}{R:Nat×Nat}{M:TypeId→DataW H→Prop}(hM:Msr Tryz.prog R M) {enc:TypeId×Value→H}{f:FuncId}{fn:Func}{sa:List Sg}{F:FT sa [.bool]}{s:ChangeSpec}(hok:FnOk Tryz.prog elT glT f sa [.bool] F) (hF:∀x,BdL sa x→SmL R sa x→F x=some true)
  (hr:fn.resultTypes = #[4]) (hv:s.vars=[]) (hf:∀ds,ds.length=fn.params.toList.length→(s.fn H ds).results=[.lit (.bool true)]∧(s.fn H ds).args=ds∧(s.fn H ds).vars=[])
  (hsg:Ami (Aph ttL) rdL fn.params.toList sa=true) (hread:(fn.params.toList.all fun t=>Tryz.prog.readableRec t&&Nat.blt t Tryz.prog.types.size)=true)
  {W:World}{base:Nat}{args:Array Value}{ds gs:List (DataW H)}{before:List MemPlace}(hval:∀(j:Nat) t v,fn.params[j]? = some t→args[j]? = some v→Value.okWide Tryz.prog W .any base t v)
  (hW:DataW.Whole enc Tryz.prog fn.params.toList s.vars false W args.toList ds gs before) (hgl:GlR (v0 elT Fw W) glT) (hsz:ds.length=fn.params.toList.length→∀(i:Nat) (t:TypeId) (d:DataW H),fn.params.toList[i]? = some t→ds[i]? = some d→M t d) :
  Calls Tryz.prog f args W fun e W'=>∃v,e = .returned v∧s.post enc Tryz.prog fn false true false false W args v W':=by
 have hW':=hW
 have hlt:=hW.lt
 obtain⟨p,q,hA,hV,rfl,hfz,hnd⟩:=hW
 rw [hv] at hV
 obtain⟨rfl,rfl⟩:=trodVars_none hV
 have hlen:=Auy hA
 obtain⟨x,hx,hsm⟩:=At1 hM (fun t=>Bcd Ax0 t) Blm Bmj 0 hsg (fun j t v h1 h2=>hval j t v (by simpa using h1) (by simpa using h2)) hA
 have hcall:=hok.calls (hF x (Z4 hx) (hsm (hsz hlen))) hgl hx
 have e1:args.toList.toArray=args:=by simp
 rw [e1] at hcall
 refine hcall.mono fun en W' =>?_
 rintro⟨rfl,hb⟩
 refine⟨_,rfl,?_⟩
 obtain⟨h1,h2,h3⟩:=hf ds hlen
 have e2:ds++([]:List (DataW H))=ds:=by simp
 refine⟨ds,[],_,[],p,[],hW',?_,?_,?_,hb.frame _,fun h=>by cases h⟩
 ·rw [e2,h1,hr]
  exact trodAll_cons_mk (shut_bool Tryz.underlying4 _) trodAll_mk0
 ·rw [e2,h2]
  refine Aoz Bgh hb (fun t ht =>?_) (fun x hx=>hlt x (by simp [hx])) hA
  have:=Zg2.1 hread t ht
  simp only [Zb1] at this
  exact⟨this.1,by simpa [Nat.blt_eq] using this.2⟩
 ·rw [e2,h3,hv];exact rfl
end Go.Proofs.YthndhaolemgbdaaGreatDoor
