/- Texts of the proof,one behind the other: AxFr,Mu,Tl,Tm,Ye,Rq,Ub,AxFs,FrG. -/
import Derived.Test.YthndhaolemgbdaaGreatDoorP7
import Derived.ChangeArms
import Derived.WideShapes
import Derived.Carry
import Derived.ChangeShapes
import Derived.Lib.LaidTab
import Derived.SizedLaws
import Derived.Test.YthndhaolemgbdaaGreatDoorRows
import Derived.ProofKit
import Derived.ChangeMaps5
import Derived.ChangeAnyMap
import Derived.Test.YthndhaolemgbdaaGreatDoorCards
import Derived.Test.YthndhaolemgbdaaGreatDoorTie
import Derived.OpenShut
import Derived.Deep.DeepHandedRow
import Derived.Shelf.Vars
set_option linter.all false
namespace Go.Ax
open Go.RowKit Go.ChangeShapes
def shp:D→D→Bool
 |.int k _,.int k' _=>decide (k=k')
 |.bool _,.bool _=>true
 |.str _,.str _=>true
 |.sl c _ _,.sl c' _ _=>decide (c=c')
 |_,_=>false
def K7:List D→List D→Bool
 |[],[]=>true
 |a::l,b::m=>shp a b&&K7 l m
 |_,_=>false
theorem Bfi{a b c:D}(h:shp a b=true) (k:shp a c=true):shp b c=true:=by
 cases a<;>cases b<;>simp [shp] at h<;>cases c<;>simp [shp] at k<;>subst_vars<;>simp [shp]
theorem Awx:∀{a b c:List D},K7 a b=true→K7 a c=true→K7 b c=true
 |[],[],[],_,_=>rfl
 |x::a,y::b,z::c,h,k=>by
  simp only [K7,Zb1] at h k ⊢
  exact⟨Bfi h.1 k.1,Awx h.2 k.2⟩
 |[],_::_,_,h,_=>by simp [K7] at h
 |_::_,[],_,h,_=>by simp [K7] at h
 |[],[],_::_,_,k=>by simp [K7] at k
 |_::_,_::_,[],_,k=>by simp [K7] at k
theorem Aez:∀{a b c d:List D},K7 a b=true→K7 c d=true→K7 (a++c) (b++d)=true
 |[],[],_,_,_,k=>k
 |_::a,_::b,_,_,h,k=>by
  simp only [K7,Zb1,Zb2] at h ⊢
  exact⟨h.1,Aez h.2 k⟩
 |[],_::_,_,_,h,_=>by simp [K7] at h
 |_::_,[],_,_,h,_=>by simp [K7] at h
theorem Ax7{k:IntKind}{n:Int}{d:D}(h:shp (.int k n) d=true):∃m,d = .int k m:=by
 cases d<;>simp [shp] at h
 subst h
 exact⟨_,rfl⟩
theorem A3d{b:Bool}{d:D}(h:shp (.bool b) d=true):∃m,d = .bool m:=by
 cases d<;>simp [shp] at h
 exact⟨_,rfl⟩
theorem Aw3{s:Str}{d:D}(h:shp (.str s) d=true):∃m,d = .str m:=by
 cases d<;>simp [shp] at h
 exact⟨_,rfl⟩
theorem A6u{c:Ck}{xs:List (El c)}{t:Tk}{d:D}(h:shp (.sl c xs t) d=true):∃ys u,d = .sl c ys u:=by
 cases d<;>simp [shp] at h
 subst h
 exact⟨_,_,rfl⟩
theorem Xy{a:D}{l ds:List D}(h:K7 (a::l) ds=true):∃b m,ds=b::m∧shp a b=true∧K7 l m=true:=by
 cases ds with
 |nil=>simp [K7] at h
 |cons b m =>
  simp only [K7,Zb1] at h
  exact⟨b,m,rfl,h.1,h.2⟩
theorem Acx{ds:List D}(h:K7 [] ds=true):ds=[]:=by
 cases ds with
 |nil=>rfl
 |cons b m=>simp [K7] at h
theorem Akc{c:Ck}{z ds:List D}(h:(dec c z).isSome=true) (hs:K7 z ds=true):∃y,dec c ds=some y:=by
 obtain⟨y0,h⟩:=Option.isSome_iff_exists.1 h
 unfold dec at h
 split at h
 all_goals first
  |(cases h;done)
  |skip
 all_goals
  clear h
  repeat (
   obtain⟨b,m,e,h1,hs'⟩:=Xy hs
   clear hs
   have hs:=hs'
   clear hs'
   subst e
   first
    |(obtain⟨_,e⟩:=Ax7 h1;subst e)
    |(obtain⟨_,e⟩:=A3d h1;subst e)
    |(obtain⟨_,e⟩:=Aw3 h1;subst e)
    |(obtain⟨_,_,e⟩:=A6u h1;subst e))
  have e:=Acx hs
  subst e
  exact⟨_,rfl⟩
def R47:Nat:=140737488351232
def Ap8(R:Nat×Nat) (v:Val):Prop:=v.s.length≤R.1
inductive SmExpr (R:Nat×Nat):Xpr→Prop
 |mk (k:Int) (v:Val) (nm:Str) (l:List Xpr):Ap8 R v→nm.length≤R.1→l.length≤R.2→(∀e,e∈l→SmExpr R e)→SmExpr R (.mk k v nm l)
structure SmStm (R:Nat×Nat) (s:Stm):Prop where
 name:s.name.length≤R.1
 on:s.on.length≤R.1
 cols:s.cols.length≤R.2∧∀c,c∈s.cols→c.name.length≤R.1∧c.ref.length≤R.1
 names:s.names.length≤R.2∧∀x,x∈s.names→x.length≤R.1
 l:s.l.length≤R.2∧∀x,x∈s.l→SmExpr R x
 rows:s.rows.length≤R.2∧∀r,r∈s.rows→r.length≤R.2∧∀x,x∈r→SmExpr R x
 sets:s.sets.length≤R.2∧∀x,x∈s.sets→x.name.length≤R.1∧SmExpr R x.e
 whr:SmExpr R s.whr
 order:s.order.length≤R.2∧∀x,x∈s.order→x.length≤R.1
 desc:s.desc.length≤R.2
def Bc5(R:Nat×Nat) (x:Idx):Prop:=x.name.length≤R.1∧x.cols.length≤R.2∧∀s,s∈x.cols→s.length≤R.1
structure SmTbl (R:Nat×Nat) (t:Tbl):Prop where
 name:t.name.length≤R.1
 cols:t.cols.length≤R.2∧∀c,c∈t.cols→c.name.length≤R.1∧c.ref.length≤R.1
 key:t.key.length≤R.2∧∀x,x∈t.key→x.length≤R.1
 checks:t.checks.length≤R.2∧∀x,x∈t.checks→SmExpr R x
 idx:t.idx.length≤R.2∧∀x,x∈t.idx→Bc5 R x
def SmK(R:Nat×Nat):(c:Ck)→El c→Prop
 |.str,s=>s.length≤R.1
 |.val,v=>Ap8 R v
 |.tok,t=>t.s.length≤R.1
 |.col,c=>c.name.length≤R.1∧c.ref.length≤R.1
 |.expr,e=>SmExpr R e
 |.vals,l=>l.length≤R.2∧∀x,x∈l→Ap8 R x
 |.exprs,l=>l.length≤R.2∧∀x,x∈l→SmExpr R x
 |.strs,l=>l.length≤R.2∧∀x,x∈l→x.length≤R.1
 |.set,s=>s.name.length≤R.1∧SmExpr R s.e
 |.stmt,s=>SmStm R s
 |.idx,x=>Bc5 R x
 |.tbl,t=>SmTbl R t
 |_,_=>True
def SmD(R:Nat×Nat):D→Prop
 |.str l=>l.length≤R.1
 |.sl c xs _=>xs.length≤R.2∧∀x,x∈xs→SmK R c x
 |_=>True
def SmS(R:Nat×Nat):(s:Sg)→den s→Prop
 |.str,s=>s.length≤R.1
 |.sl c _,xs=>xs.length≤R.2∧∀x,x∈xs→SmK R c x
 |.sv c,x=>SmK R c x
 |_,_=>True
def SmL(R:Nat×Nat):(l:List Sg)→HV l→Prop
 |[],_=>True
 |[a],x=>SmS R a x
 |a::b::l,(x,y)=>SmS R a x∧SmL R (b::l) y
theorem A9b{R:Nat×Nat}{c:Ck}{ds:List D}{y:El c}(h:dec c ds=some y) (hd:∀d,d∈ds→SmD R d):SmK R c y:=by
 unfold dec at h
 split at h<;>simp only [Za1,reduceCtorEq] at h<;>subst h<;>simp only [List.mem_cons,List.not_mem_nil,or_false,forall_eq_or_imp,forall_eq,SmD] at hd<;>simp only [SmK,Ap8]<;>first
  |trivial
  |exact hd
  |exact hd.2.2
  |exact hd.2.2.1
  |exact⟨hd.1,hd.2.2.2.2⟩
  |exact .mk _ _ _ _ hd.2.2.2.1 hd.2.2.2.2.1 hd.2.2.2.2.2.1 hd.2.2.2.2.2.2
  |exact⟨hd.1,.mk _ _ _ _ hd.2.2.2.2.1 hd.2.2.2.2.2.1 hd.2.2.2.2.2.2.1 hd.2.2.2.2.2.2.2⟩
  |exact⟨hd.1,hd.2.1,hd.2.2.1,hd.2.2.2.1,hd.2.2.2.2⟩
  |(obtain⟨_,h1,h2,h3,h4,h5,h6,h7,_,_,_,_,w1,w2,w3,h8,h9,_⟩:=hd
    exact⟨h1,h2,h3,h4,h5,h6,h7,.mk _ _ _ _ w1 w2 w3.1 w3.2,h8,h9.1⟩)
theorem Zl{H:Type}{P:Program}{e:TypeId}:∀{l:List (DataW H)}{d:DataW H},d∈l→∀n∈d.weights P e,n∈DataW.weightsAll P e l
 |[],_,h,_,_=>by cases h
 |x::l,d,h,n,hn=>by
  simp only [DataW.weightsAll,List.mem_append]
  rcases List.mem_cons.1 h with rfl|h
  ·exact .inl hn
  ·exact .inr (Zl h n hn)
structure Msr {H:Type}(P:Program) (R:Nat×Nat) (M:TypeId→DataW H→Prop):Prop where
 str:∀(t:TypeId) (s:List UInt8),M t (.lit (.string s))→s.length≤R.1
 sl:∀(t e:TypeId) (l r:List (DataW H)),P.underlying t=some (.slice e)→1≤P.bytesOf e→M t (.slice l r)→l.length≤9223372036854775807→l.length≤R.2∧∀d,d∈l→M e d
 agg:∀(t:TypeId) (fds:Array Field) (l:List (DataW H)) (i:Nat) (fd:Field) (d:DataW H),P.underlying t=some (.struct fds)→M t (.agg l)→fds[i]? = some fd→l[i]? = some d→M fd.type d
theorem Ar0{H:Type}(P:Program):Msr (H:=H) P (R47,R47) fun t d=>∀n,n∈d.weights P t→n≤R47 where
 str:=fun t s h=>h _ (by simp [DataW.weights])
 sl:=fun t e l r hu hz h _=>⟨by
  have h1:=h ((l.length+r.length)*P.bytesOf e) (by simp only [DataW.weights,hu,List.mem_cons,true_or])
  have h2:(l.length+r.length)*1≤(l.length+r.length)*P.bytesOf e:=Nat.mul_le_mul_left _ hz
  omega,fun d hd n hn=>h n (by
  simp only [DataW.weights,hu,List.mem_cons,List.mem_append]
  exact .inr (.inl (Zl hd n hn)))⟩
 agg:=fun t fds l i fd d hu h hf hd n hn=>h n (by
  simp only [DataW.weights,hu]
  exact DataW.weights_mem_each (j:=i) (t:=fd.type) (d:=d) (by simp [hf]) hd n hn)
def zc(t:Ty):List D:=match t.zero with
 |some z=>cells z
 |none=>[]
def Ais(tt:Nat→Ty) (rd:List Nat):Nat→List (Nat×Nat)→List D→Bool
 |_,[],z=>z.isEmpty
 |o,(o',u)::fs,z=>Nat.beq o' o&&rd.contains u&&Nat.ble (zc (tt u)).length z.length&&K7 (zc (tt u)) (z.take (zc (tt u)).length)&&Ais tt rd (o+(zc (tt u)).length) fs (z.drop (zc (tt u)).length)
def A3g(el:Ck→TypeId) (tt:Nat→Ty) (rd:List Nat) (t:Nat):Bool:=match tt t with
 |.int _|.bool|.str=>true
 |.sl c=>rd.contains (el c)&&(dec c (zc (tt (el c)))).isSome
 |.st _ fs z=>Ais tt rd 0 fs z
 |_=>false
def rdB(el:Ck→TypeId) (tt:Nat→Ty) (rd:List Nat):Bool:=rd.all fun t=>A3g el tt rd t&&Nat.beq (zc (tt t)).length (tt t).n
def szB(P:Program) (el:Ck→TypeId) (tt:Nat→Ty) (rd:List Nat):Bool:=rd.all fun t=>match tt t with
 |.sl c=>Nat.ble 1 (P.bytesOf (el c))
 |_=>true
theorem Afs{α:Type}{p:Nat→α→Prop}:∀(n:Nat),(∀i,i<n→∃y,p i y)→∃ys:List α,ys.length=n∧∀i y,ys[i]? = some y→p i y
 |0,_=>⟨[],rfl,by simp⟩
 |n+1,h=>by
  obtain⟨ys,h1,h2⟩:=Afs n (fun i hi=>h i (by omega))
  obtain⟨y,hy⟩:=h n (by omega)
  refine⟨ys++[y],by simp [h1],fun i z hz =>?_⟩
  rcases Nat.lt_trichotomy i n with hi|rfl|hi
  ·rw [List.getElem?_append_left (by omega)] at hz
   exact h2 i z hz
  ·rw [List.getElem?_append_right (by omega),h1] at hz
   simp at hz
   subst hz
   exact hy
  ·rw [List.getElem?_eq_none (by simp;omega)] at hz
   cases hz
section
variable {H:Type}{enc':TypeId×Value→H}{P:Program}{el:Ck→TypeId}{tt:Nat→Ty}{rd:List Nat}{w:World}{sp:Nat→Bool}{held:Bool}
theorem Zv{t:TypeId}{n:Nat}(h:Sx.tySz P t=some n):P.cellsOf t=n:=by
 unfold Sx.tySz at h
 simp [Program.cellsOf,h]
theorem Ajc{a:Addr}{n:Nat}{vs:List Value}(h:w.cells? 0 a n=some vs):vs.length=n∧∀j u,vs[j]? = some u→w.cell? (a.add j)=some u:=by
 unfold World.cells? at h
 simp only [Nat.zero_le,if_true] at h
 refine⟨by simpa using Lib.mapM_length h,fun j u hj =>?_⟩
 have hlt:j<n:=by
  have:=Lib.mapM_length h
  have h2:=(Zi2.1 hj).1
  simp at this
  omega
 obtain⟨u',hu,hf⟩:=Lib.mapM_at h j j (by simp [hlt])
 rw [hj] at hu
 simp only [Za1] at hu
 subst hu
 exact hf
theorem Ata{a:Addr}{u:Value}(h:w.cell? a=some u):a.spot=none:=by
 unfold World.cell? at h
 split at h
 ·split at h
  ·cases h
  ·rename_i hs
   cases hq:a.spot with
   |none=>rfl
   |some q=>rw [hq] at hs;simp at hs
 ·cases h
theorem Aom{R:Nat×Nat}{M:TypeId→DataW H→Prop}(hM:Msr P R M) (hT:∀t,Dr P el tt t=true) (hrd:rdB el tt rd=true) (hsb:szB P el tt rd=true):∀(fuel:Nat) (t:TypeId) (cs:List Value) (x:DataW H×List MemPlace),rd.contains t=true→DataW.trod enc' P w 0 sp held fuel t cs=some x→∃ds,K7 (zc (tt t)) ds=true∧Reps (v0 el Fk w) ds cs∧(M t x.1→∀d,d∈ds→SmD R d)
 |0,t,cs,x,_,h=>by simp [DataW.trod] at h
 |fuel+1,t,cs,x,hc,h=>by
  have hloc:=Zg2.1 hrd t (by simpa using hc)
  simp only [Zb1] at hloc
  obtain⟨hloc,hzl⟩:=hloc
  have hzl:=Zl1 hzl
  have hszB:=Zg2.1 hsb t (by simpa using hc)
  unfold A3g at hloc
  split at hloc
  ·rename_i k hty
   have hu:=Sx.tyI_spec (Aja (hT t) hty)
   obtain⟨n,rfl,_,hw⟩:=DataW.trod_int hu h
   refine⟨[.int k n],by(rw [hty];show(decide (k=k)&&true)=true;simp),?_,fun _ d hd=>by simp only [List.mem_singleton] at hd;subst hd;trivial⟩
   simp only [Reps,Rep]
   exact⟨_,_,rfl,⟨rfl,hw⟩,rfl⟩
  ·rename_i hty
   have hu:=Sx.tyB_spec (Aet (hT t) hty)
   obtain⟨b,rfl,_⟩:=DataW.trod_bool hu h
   refine⟨[.bool b],by rw [hty];rfl,?_,fun _ d hd=>by simp only [List.mem_singleton] at hd;subst hd;trivial⟩
   simp only [Reps,Rep]
   exact⟨_,_,rfl,rfl,rfl⟩
  ·rename_i hty
   have hu:=Sx.tyS_spec (H4 (hT t) hty)
   obtain⟨s,rfl,rfl,hs⟩:=DataW.trod_string hu h
   refine⟨[.str s.data.toList],by rw [hty];rfl,?_,fun hwt d hd=>by
    simp only [List.mem_singleton] at hd
    subst hd
    exact hM.str _ _ hwt⟩
   simp only [Reps,Rep]
   exact⟨_,_,rfl,⟨(by rw [Array.toArray_toList]),(by rw [Array.length_toList];exact hs)⟩,rfl⟩
  ·rename_i c hty
   simp only [Zb1] at hloc
   obtain⟨hel,hdec⟩:=hloc
   have hbz : 1≤P.bytesOf (el c):=by
    rw [hty] at hszB
    exact Nat.le_of_ble_eq_true hszB
   obtain⟨by_,hE,_,_⟩:=Dy (hT t) hty
   have hu:=hE.und
   obtain⟨_,i0,z,hi0,hz,hsz,_⟩:=hE
   have hco:P.cellsOf (el c)=csz c:=Zv (by simp [Sx.tySz,hi0,hsz])
   rcases DataW.trod_slice hu h with ⟨rfl,_⟩|⟨a,len,cap,elems,rest,n,hf,rfl,rfl,_,hle,hmax,hlen,hel2,_⟩
   ·refine⟨[.sl c [] .no],by(rw [hty];show(decide (c=c)&&true)=true;simp),?_,fun _ d hd=>by
     simp only [List.mem_singleton] at hd
     subst hd
     exact⟨Nat.zero_le _,fun x hx=>by cases hx⟩⟩
    simp only [Reps,Rep]
    exact⟨_,_,rfl,⟨fun _ _ =>.nil _ _ _ _,trivial⟩,rfl⟩
   ·have hf:fuel=n:=by omega
    subst hf
    have each:∀i,i<len→∃y:El c,(∃vs:List Value,w.cells? 0 (a.add (i*csz c)) (csz c)=some vs∧ElR (v0 el Fk w) c y vs)∧(M t (DataW.slice (elems.map (·.1)) (rest.map (·.1)))→SmK R c y):=fun i hi=>by
     have h1:=hel2 i hi
     have hsome:∃e,elems[i]? = some e:=⟨_,Zo1 (by omega)⟩
     obtain⟨e,he⟩:=hsome
     rw [he] at h1
     obtain⟨vs,hv,ht⟩:=Option.bind_eq_some_iff.1 h1
     rw [hco] at hv
     obtain⟨ds,hs,hr,hsm⟩:=Aom hM hT hrd hsb fuel (el c) vs e hel ht
     obtain⟨y,hy⟩:=Akc hdec hs
     exact⟨y,⟨vs,hv,Vq hy hr⟩,fun hwt=>A9b hy (hsm ((hM.sl _ _ _ _ hu hbz hwt (by have:maxLen=9223372036854775807:=rfl;simp only [List.length_map];omega)).2 e.1 (List.mem_map.2 ⟨e,List.mem_of_getElem? he,rfl⟩)))⟩
    obtain⟨ys,hyl,hys'⟩:=Afs len each
    have hys:=fun i y hy=>(hys' i y hy).1
    refine⟨[.sl c ys .no],by(rw [hty];show(decide (c=c)&&true)=true;simp),?_,fun hwt d hd=>by
     simp only [List.mem_singleton] at hd
     subst hd
     refine⟨?_,fun y hy =>?_⟩
     ·have:=(hM.sl _ _ _ _ hu hbz hwt (by have:maxLen=9223372036854775807:=rfl;simp only [List.length_map];omega)).1
      simp only [List.length_map] at this
      omega
     ·obtain⟨i,hi,rfl⟩:=List.getElem_of_mem hy
      exact(hys' i _ (Zo1 hi)).2 hwt⟩
    simp only [Reps,Rep]
    refine⟨_,_,rfl,⟨Q7 hyl.symm ?_,trivial⟩,rfl⟩
    by_cases h0:ys=[]
    ·exact .inl h0
    ·right
     have hsn:a.spot=none:=by
      have hlt : 0<ys.length:=List.length_pos_iff.2 h0
      obtain⟨vs,hv,hE⟩:=hys 0 _ (Zo1 hlt)
      obtain⟨h1,h2⟩:=Ajc hv
      have hp:=Ann c
      have:=h2 0 _ (Zo1 (by omega))
      simp only [Nat.zero_mul,Addr.add,if_true] at this
      exact Ata this
     obtain⟨b,o,s⟩:=a
     simp only at hsn
     subst hsn
     refine⟨b,o,rfl,⟨by omega,hmax⟩,fun i y hy w' hw j d hd =>?_⟩
     obtain⟨vs,hv,hE⟩:=hys i y hy
     obtain⟨_,h2⟩:=Ajc hv
     obtain⟨u,hu',hf⟩:=hE.2 j d hd
     have hcell:=h2 j u hu'
     rw [Sx.add_mk,Sx.add_mk] at hcell
     exact⟨u,hw.cell b _ u hcell (fun h=>h),hf w' hw⟩
  ·rename_i cc fs z hty
   have hbase:=D4 (hT t) (by rw [hty];simp)
   have hsz:P.cellsOf t=z.length:=by
    have:=Zv hbase.2.2
    rw [this,hty]
    rfl
   have hok:=hT t
   unfold Dr at hok
   rw [hty] at hok
   simp only [Zb1] at hok
   have hfl:=hok.2
   split at hfl
   ·rename_i fds hu
    simp only [Zb1] at hfl
    have hfl:=hfl.1
    obtain⟨xs,n,hf,rfl,hcl,hxl,hfx⟩:=DataW.trod_struct hu h
    have hf:fuel=n:=by omega
    subst hf
    have key:∀(l:List (Nat×Nat)) (i o:Nat) (z':List D),fs.drop i=l→Ais tt rd o l z' = true→o+z'.length=cs.length→∃ds,K7 z' ds=true∧Reps (v0 el Fk w) ds (cs.drop o)∧(M t (DataW.agg (xs.map (·.1)))→∀d,d∈ds→SmD R d):=by
     intro l
     induction l with
     |nil =>
      intro i o z' _ hct ho
      simp only [Ais,List.isEmpty_iff] at hct
      subst hct
      refine⟨[],rfl,?_,fun _ d hd=>by cases hd⟩
      rw [Zk1 (by simp at ho;omega)]
      simp [Reps]
     |cons q l ih =>
      intro i o z' hd hct ho
      obtain⟨o',u⟩:=q
      simp only [Ais,Zb1] at hct
      obtain⟨⟨⟨⟨ho',hcu⟩,hle⟩,hsh⟩,hct⟩:=hct
      have ho':=Zl1 ho'
      subst ho'
      have hle:=Nat.le_of_ble_eq_true hle
      have hget:fs[i]? = some (o',u):=by
       have:=congrArg (·[0]?) hd
       simpa [List.getElem?_drop] using this
      obtain⟨fd,g1,g2,g3,_⟩:=Aec hfl hget
      have g1':fds[i]? = some fd:=by simpa using g1
      have h1:=hfx i fd g1'
      rw [g2,g3] at h1
      have hxi:∃e,xs[i]? = some e:=⟨_,Zo1 (by
       have:=(Zh2.1 g1').1
       omega)⟩
      obtain⟨e,he⟩:=hxi
      rw [he] at h1
      have hlu:=Zg2.1 hrd u (by simpa using hcu)
      simp only [Zb1] at hlu
      have hnu:=Zl1 hlu.2
      have hneu:tt u ≠ .no:=by
       intro e
       have:=hlu.1
       unfold A3g at this
       rw [e] at this
       cases this
      have hcou:P.cellsOf u=(zc (tt u)).length:=by rw [Zv (D4 (hT u) hneu).2.2,hnu]
      rw [hcou] at h1
      obtain⟨ds1,s1,r1,m1⟩:=Aom hM hT hrd hsb fuel u _ e hcu h1
      obtain⟨ds2,s2,r2,m2⟩:=ih (i+1) (o'+(zc (tt u)).length) _ (by rw [←List.drop_drop,hd];rfl) hct (by simp;omega)
      refine⟨ds1++ds2,?_,?_,fun hwt d hd=>by
       rcases List.mem_append.1 hd with hd|hd
       ·refine m1 ?_ d hd
        rw [←g2]
        exact hM.agg _ _ _ i fd e.1 hu hwt g1' (by rw [List.getElem?_map,he];rfl)
       ·exact m2 hwt d hd⟩
      ·rw [←List.take_append_drop (zc (tt u)).length z']
       exact Aez (Awx hsh s1) s2
      ·have:=r1.append r2
       rwa [←List.drop_drop,List.take_append_drop] at this
    obtain⟨ds,h1,h2,h3⟩:=key fs 0 0 z rfl hloc (by rw [hcl,hsz];omega)
    exact⟨ds,by simpa [hty,zc,Ty.zero,cells] using h1,by simpa using h2,h3⟩
   ·cases hfl
  ·cases hloc
def Bbf(tt:Nat→Ty) (rd:List Nat) (t:Nat) (s:Sg):Bool:=rd.contains t&&match tt t,s with
 |.int k,.int k'=>decide (k=k')
 |.bool,.bool=>true
 |.str,.str=>true
 |.sl c,.sl c' false=>decide (c=c')
 |.st (some c) _ _,.sv c'=>decide (c=c')&&agg? c&&(dec c (zc (tt t))).isSome
 |_,_=>false
theorem Ba8{R:Nat×Nat}{M:TypeId→DataW H→Prop}(hM:Msr P R M) (hT:∀t,Dr P el tt t=true) (hrd:rdB el tt rd=true) (hsb:szB P el tt rd=true) {t:TypeId}{s:Sg}(hs:Bbf tt rd t s=true) {r:Reach}{b0:Nat}{v:Value}{d:DataW H}{ps:List MemPlace}(hval:Value.okWide P w r b0 t v) (h:DataW.Trod enc' P w 0 sp held t v d ps) (i:Nat):∃y:den s,Rep (v0 el Fk w) (C9 i s y) v∧(M t d→SmS R s y):=by
 obtain⟨fuel,h⟩:=h
 simp only [Bbf,Zb1] at hs
 obtain⟨hc,hs⟩:=hs
 obtain⟨ds,hsh,hr,hsm⟩:=Aom hM hT hrd hsb fuel t _ _ hc h
 have hsm:M t d→∀d,d∈ds→SmD R d:=hsm
 split at hs
 ·rename_i k k' hty
  simp only [Zg1] at hs
  subst hs
  obtain⟨n,rfl⟩:=WideShapes.okWide_int (Sx.tyI_spec (Aja (hT t) hty)) hval
  simp only [hty,zc,Ty.zero,cells] at hsh
  obtain⟨b,m,rfl,h1,h2⟩:=Xy hsh
  obtain rfl:=Acx h2
  obtain⟨n',rfl⟩:=Ax7 h1
  simp only [Value.cells,Reps] at hr
  obtain⟨u,us,e,hr,_⟩:=hr
  simp only [Ze2] at e
  obtain⟨rfl,_⟩:=e
  exact⟨n',hr,fun _=>trivial⟩
 ·rename_i hty
  obtain⟨n,rfl⟩:=WideShapes.okWide_bool (Sx.tyB_spec (Aet (hT t) hty)) hval
  exact⟨n,by simp only [C9,Rep],fun _=>trivial⟩
 ·rename_i hty
  obtain⟨n,rfl⟩:=WideShapes.okWide_string (Sx.tyS_spec (H4 (hT t) hty)) hval
  simp only [hty,zc,Ty.zero,cells] at hsh
  obtain⟨b,m,rfl,h1,h2⟩:=Xy hsh
  obtain rfl:=Acx h2
  obtain⟨n',rfl⟩:=Aw3 h1
  simp only [Value.cells,Reps] at hr
  obtain⟨u,us,e,hr,_⟩:=hr
  simp only [Ze2] at e
  obtain⟨rfl,_⟩:=e
  exact⟨n',hr,fun hwt=>hsm hwt (.str n') (by simp)⟩
 ·rename_i c c' hty
  simp only [Zg1] at hs
  subst hs
  obtain⟨by_,hE,_,_⟩:=Dy (hT t) hty
  have hv:v.cells.toList=[v]:=by
   have hu:=hE.und
   simp only [Value.okWide,hu,Cell.okWide] at hval
   cases v<;>first|rfl|(simp [Cell.ok,hu] at hval;done)|(exfalso;simp_all [Cell.ok])
  rw [hv] at hr
  simp only [hty,zc,Ty.zero,cells] at hsh
  obtain⟨b,m,rfl,h1,h2⟩:=Xy hsh
  obtain rfl:=Acx h2
  obtain⟨ys,u,rfl⟩:=A6u h1
  simp only [Reps] at hr
  obtain⟨u',us,e,hr,_⟩:=hr
  simp only [Ze2] at e
  obtain⟨rfl,_⟩:=e
  refine⟨ys,?_,fun hwt=>hsm hwt (.sl c ys u) (by simp)⟩
  simp only [C9,Rep] at hr ⊢
  exact⟨hr.1,trivial⟩
 ·rename_i c fs z c' hty
  simp only [Zb1,Zg1] at hs
  obtain⟨⟨rfl,ha⟩,hdec⟩:=hs
  obtain⟨y,hy⟩:=Akc hdec hsh
  have hE:=Vq hy hr
  have hv:∃cs,v = .agg cs:=by
   have hok:=hT t
   unfold Dr at hok
   rw [hty] at hok
   simp only [Zb1] at hok
   have hfl:=hok.2
   split at hfl
   ·rename_i fds hu
    simp only [Value.okWide,hu] at hval
    obtain⟨cs,h1,_⟩:=hval
    exact⟨cs,h1⟩
   ·cases hfl
  obtain⟨cs,rfl⟩:=hv
  refine⟨y,?_,fun hwt=>A9b hy (hsm hwt)⟩
  simp only [C9,Rep]
  exact⟨ha,cs.toList,by simp,by simpa [Value.cells] using hE.1,by simpa [Value.cells] using hE.2⟩
 ·cases hs
def Al6(tt:Nat→Ty) (rd:List Nat):List TypeId→List Sg→Bool
 |[],[]=>true
 |t::ts,s::ss=>Bbf tt rd t s&&Al6 tt rd ts ss
 |_,_=>false
theorem Aoy{R:Nat×Nat}{M:TypeId→DataW H→Prop}(hM:Msr P R M) (hT:∀t,Dr P el tt t=true) (hrd:rdB el tt rd=true) (hsb:szB P el tt rd=true) {r:Reach}{b0:Nat}:∀{ts:List TypeId}{sa:List Sg}{vs:List Value}{ds:List (DataW H)}{ps:List MemPlace}(i:Nat),Al6 tt rd ts sa=true→(∀(j:Nat) t v,ts[j]? = some t→vs[j]? = some v→Value.okWide P w r b0 t v)→DataW.TrodAll enc' P w 0 sp held ts vs ds ps→∃x:HV sa,Reps (v0 el Fk w) (Cq i sa x) vs∧((∀(i:Nat) (t:TypeId) (d:DataW H),ts[i]? = some t→ds[i]? = some d→M t d)→SmL R sa x)
 |[],[],vs,ds,ps,i,_,_,h=>by
  cases vs with
  |nil=>exact⟨(),by simp [Cq,Reps],fun _=>trivial⟩
  |cons v vs=>cases ds<;>simp [DataW.TrodAll] at h
 |t::ts,[],_,_,_,_,hs,_,_=>by simp [Al6] at hs
 |[],s::ss,_,_,_,_,hs,_,_=>by simp [Al6] at hs
 |t::ts,s::ss,vs,ds,ps,i,hs,hval,h=>by
  simp only [Al6,Zb1] at hs
  obtain⟨v,vs',d,ds',p,q,rfl,rfl,rfl,hd,hrest⟩:=trodAll_cons h
  obtain⟨y,hy,hsy⟩:=Ba8 hM hT hrd hsb hs.1 (hval 0 t v rfl rfl) hd i
  obtain⟨z,hz,hsz⟩:=Aoy hM hT hrd hsb (i+1) hs.2 (fun j t' v' h1 h2=>hval (j+1) t' v' (by simpa using h1) (by simpa using h2)) hrest
  cases ss with
  |nil =>
   refine⟨y,?_,fun hwt=>hsy (hwt 0 t d rfl rfl)⟩
   simp only [Cq,Reps] at hz ⊢
   exact⟨v,vs',rfl,hy,hz⟩
  |cons s' ss =>
   refine⟨(y,z),?_,fun hwt=>⟨hsy (hwt 0 t d rfl rfl),hsz fun j t' d' h1 h2=>hwt (j+1) t' d' (by simpa using h1) (by simpa using h2)⟩⟩
   simp only [Cq,Reps]
   exact⟨v,vs',rfl,hy,hz⟩
theorem Al8(hl:laidOutB P=true) {W W':World}(hb:Below W.heap.size W W'):∀{ts:List TypeId}{vs:List Value}{ds:List (DataW H)}{ps:List MemPlace},(∀t,t∈ts→P.readableRec t=true∧t<P.types.size)→(∀x∈ps,x.block<W.heap.size)→DataW.TrodAll enc' P W 0 (fun _=>true) true ts vs ds ps→DataW.TrodAll enc' P W' 0 (fun b=>decide (b<W.heap.size)) true ts vs ds ps
 |[],vs,ds,ps,_,_,h=>by
  cases vs<;>cases ds<;>simp [DataW.TrodAll] at h ⊢
  exact h
 |t::ts,vs,ds,ps,ht,hlt,h=>by
  obtain⟨v,vs',d,ds',p,q,rfl,rfl,rfl,hd,hrest⟩:=trodAll_cons h
  obtain⟨h1,h2⟩:=ht t (by simp)
  exact⟨p,q,Below.trod hl h1 h2 hd hb (fun x hx=>hlt x (by simp [hx])),Al8 hl hb (fun t' h'=>ht t' (by simp [h'])) (fun x hx=>hlt x (by simp [hx])) hrest,rfl⟩
end
end Go.Ax
namespace Go.Proofs.YthndhaolemgbdaaGreatDoor
open Go.Ax
def B0:Int:=20000000000000
mutual
theorem Alb{R:Nat×Nat}(hR:R.1≤R47):∀(n:Nat) (e:Xpr) (most:Int),Bt e≤n→SmExpr R e→1≤most→most≤600→1≤Iv e most∧Iv e most≤most+B0∧(Iv e most<most→(Bt e:Int)≤2*Iv e most-1)
 |0,e,_,h,_,_,_=>by have:=Ej e;omega
 |n+1,.mk k v nm l,most,h,hs,h1,h4=>by
  cases hs with
  |mk _ _ _ _ s1 s2 _ s3 =>
   simp only [Ap8,R47] at s1 s2 hR
   have e1:wr .i64 ((v.s.length:Int)+(nm.length:Int))=((v.s.length+nm.length:Nat):Int):=by rw [Zk (by simp only [inI];omega)];omega
   have e2:Int.tdiv ((v.s.length+nm.length:Nat):Int) 30=(((v.s.length+nm.length) / 30:Nat):Int):=rfl
   have e3:wr .i64 (((v.s.length+nm.length) / 30:Nat):Int)=(((v.s.length+nm.length) / 30:Nat):Int):=Zk (by simp only [inI];omega)
   have e4:wr .i64 (1+(((v.s.length+nm.length) / 30:Nat):Int))=1+(((v.s.length+nm.length) / 30:Nat):Int):=Zk (by simp only [inI];omega)
   have hz:Bt (.mk k v nm l)=1+esizes l:=Kv _
   simp only [Iv,e1,e2,e3,e4]
   obtain⟨q1,q2,q3⟩:=muchL_size hR n l most (1+(((v.s.length+nm.length) / 30:Nat):Int)) (by omega) s3 h4 (by omega) (by simp only [B0];omega)
   exact⟨by omega,q2,fun h=>by have:=q3 h;omega⟩
theorem muchL_size{R:Nat×Nat}(hR:R.1≤R47):∀(n:Nat) (l:List Xpr) (most m:Int),esizes l≤n→(∀x,x∈l→SmExpr R x)→most≤600→1≤m→m≤most+B0→m≤muchL l most m∧muchL l most m≤most+B0∧(muchL l most m<most→2*m+(esizes l:Int)≤2*muchL l most m)
 |n,[],most,m,_,_,_,h1,h2=>by simp only [muchL,esizes];omega
 |n,x::l,most,m,h,hs,h4,h1,h2=>by
  simp only [muchL]
  by_cases hm:m<most
  ·rw [Ze1 hm,Am]
   have hx:=Ej x
   simp only [esizes] at h
   have w1:wr .i64 (most-m)=most-m:=Zk (by simp only [inI];omega)
   obtain⟨a1,a2,a3⟩:=Alb hR n x (most-m) (by omega) (hs x (.head _)) (by omega) (by omega)
   have w2:wr .i64 (m+Iv x (most-m))=m+Iv x (most-m):=Zk (by simp only [inI,B0] at *;omega)
   obtain⟨b1,b2,b3⟩:=muchL_size hR n l most (m+Iv x (most-m)) (by omega) (fun y hy=>hs y (.tail _ hy)) h4 (by omega) (by omega)
   rw [w1,w2]
   refine⟨by omega,b2,fun hlt =>?_⟩
   have c1:=b3 hlt
   have c2:=a3 (by omega)
   simp only [esizes]
   omega
  ·rw [Zd1 hm,An]
   exact⟨Int.le_refl _,h2,fun h=>absurd h hm⟩
end
def bare(l:List Xpr):Xpr :=.mk 0 ⟨0,0,[]⟩ [] l
def n0(s:Stm) (most:Int):Int:=wr .i64 (wr .i64 (wr .i64 (wr .i64 (wr .i64 (wr .i64 ((s.cols.length:Int)+(s.names.length:Int))+(s.order.length:Int))+(s.desc.length:Int))+wr .i64 (Int.tdiv (wr .i64 ((s.name.length:Int)+(s.on.length:Int))) 30))+Iv s.whr most)+Iv (bare s.l) most)
structure Few (s:Stm):Prop where
 cols:s.cols.length≤3100
 names:s.names.length≤3100
 order:s.order.length≤3100
 desc:s.desc.length≤3100
 name:s.name.length+s.on.length≤20000
 whr:Bt s.whr≤6200
 l:esizes s.l≤6200
 rows:s.rows.length≤3100∧∀r,r∈s.rows→esizes r≤6200
 sets:s.sets.length≤3100∧∀x,x∈s.sets→Bt x.e≤6200
end Go.Proofs.YthndhaolemgbdaaGreatDoor
namespace Go.Proofs.YthndhaolemgbdaaGreatDoor
open Go.Ax
theorem A8z{n:Int}(h:inI n):(At8 n).length≤21:=by
 have hd:(Lh n.natAbs).length≤20:=Ah9 20 _ (by
  simp only [inI] at h
  have:pw 20=100000000000000000000:=by kernel_rfl
  omega)
 have ht:(if n=0 then([48]:Str) else txt (Lh n.natAbs)).length≤20:=by
  split
  ·simp
  ·rw [Aw7];exact hd
 unfold At8
 simp only
 split
 ·simp only [Zf1];omega
 ·omega
theorem A1x{v:Val}(h:Ch v=true) (hn:inI v.n):(B6 v).length≤2003:=by
 simp only [B6,h,Am]
 split
 ·split<;>simp
 ·split
  ·have:=A8z hn
   omega
  ·split
   ·rename_i h4
    have h1:=Rl h (.inl h4)
    have h2:=Anq v.s
    simp only [Zf1,Zh1,Zi1];omega
   ·split
    ·rename_i h5
     have h1:=Rl h (.inr h5)
     have h2:=Air v.s
     simp only [Zf1,Zh1,Zi1];omega
    ·simp
theorem A48{s:Str}(h:F9 s=true):s.length≤30:=by
 have h:Lp.nameF s=true:=h
 simp only [Lp.nameF,Zb1,Zg1] at h
 omega
theorem Bck{k:Int}(h:Agy k):(sgn k).length≤3:=by
 simp only [Agy] at h
 have:k=4∨k=5∨k=6∨k=7∨k=8∨k=9∨k=10∨k=11∨k=12∨k=13∨k=14:=by omega
 rcases this with rfl|rfl|rfl|rfl|rfl|rfl|rfl|rfl|rfl|rfl|rfl<;>decide
theorem Aea(k:Int) (v:Val) (s:Str) (x:Xpr):Bt (.mk k v s [x])=2+Bt x:=by
 simp only [Bt,esizes];omega
theorem Azx(k:Int) (v:Val) (s:Str) (x y:Xpr):Bt (.mk k v s [x,y])=3+(Bt x+Bt y):=by
 simp only [Bt,esizes];omega
theorem Ax6:∀(n:Nat) (e:Xpr) (m:Int),Bt e≤n→Bo e m=true→BdExpr e→(etx e).length≤4000*Bt e
 |0,e,_,h,_,_=>by have:=Ej e;omega
 |n+1,e,m,h,hr,hb=>by
  have ih:∀x,x∈e.l→(etx x).length≤4000*Bt x:=fun x hx=>by
   obtain⟨m',hm⟩:=Ak3 hr hx
   refine Ax6 n x m' ?_ hm ((Ae3 hb).2 x hx)
   have:=Dn hx
   rw [Kv] at h
   omega
  have sh:=Arb hr
  cases sh with
  |atom _ hk =>
   obtain⟨_,ho,_⟩:=F2 hr
   have hp:=Ej e
   rw [Aus]
   rcases hk with k1|k2
   ·rw [if_pos k1]
    have:=A1x (Ax1 ho k1).1 (Bhv hb).1.2.1
    omega
   ·rw [if_neg (by omega),if_pos k2]
    have:=A48 (Ark ho k2).1
    omega
  |not x =>
   have:=ih x Zr1
   rw [Ayn,Aea]
   simp only [Zf1,Zh1,Zi1]
   omega
  |neg x =>
   have:=ih x Zr1
   rw [Awv,Aea]
   simp only [Zf1,Zh1,Zi1]
   omega
  |isn x =>
   have:=ih x Zr1
   rw [Axv,Aea]
   simp only [Zf1,Zh1,Zi1]
   omega
  |op k x y hk =>
   have h1:=ih x Zr1
   have h2:=ih y (by simp [Xpr.l])
   have h3:=Bck hk
   rw [A5k hk,Azx]
   simp only [Zf1,Zh1,Zi1]
   omega
theorem Beq{e:Xpr}{m:Int}(hr:Bo e m=true) (hb:BdExpr e):(etx e).length≤4000*Bt e:=Ax6 (Bt e) e m (Zn1 _) hr hb
theorem Bb9{e:Xpr}(hr:Bo e 30=true) (hb:BdExpr e) (hz:Bt e≤10000):Zh e=some (etx e,0):=by
 have hl:=Beq hr hb
 simp only [Zh,hr,A7v hr,Am]
 rw [A9d (by simp only [Zi1];omega)]
 rfl
theorem Bap{e:Xpr}(hr:Bo e 30=false):Zh e=some ([],2):=by
 simp only [Zh,hr,An]
theorem A37(e:Xpr):Zj e=cond (Bo e 30) 0 2:=by
 simp only [Zj]
 cases Bo e 30<;>rfl
end Go.Proofs.YthndhaolemgbdaaGreatDoor
namespace Go.Proofs.YthndhaolemgbdaaGreatDoor
open Go.Ax
end Go.Proofs.YthndhaolemgbdaaGreatDoor
namespace Go.Proofs.YthndhaolemgbdaaGreatDoor
open Go.Ax
open Lp (Dt Sc Bf)
theorem Axt{s:Str}{ts:TL}(hl:s.length≤20000) (h:Sc s 0 ts):Gq s=(ts,0,0):=by
 simp only [Gq,A63]
 rw [if_neg (by omega),Lp.allF_of_sc h]
theorem Bef{m:Str}{p:Int}{ts:TL}(h:Sc m p ts):ts.length≤m.length:=by
 induction h with
 |nil=>exact Zn1 _
 |blank _ _ ih=>simp only [Zf1];omega
 |tok _ h2 _ ih =>
  have:=Lp.tokS_len h2
  simp only [Zf1,Za2] at ih ⊢
  omega
theorem Asc(s:Str):(∃ts,s.length≤20000∧Sc s 0 ts∧Gq s=(ts,0,0))∨(s.length≤20000∧∃j,Lp.Er s 0 j∧Gq s=([],j,11))∨(20000<s.length∧Gq s=([],0,3)):=by
 by_cases h : 20000<s.length
 ·refine .inr (.inr ⟨h,?_⟩)
  simp only [Gq,A63]
  rw [if_pos (by omega)]
 ·have hs:=Lp.allF_sc s
  simp only [Gq,A63]
  rw [if_neg (by omega)]
  cases hq:Lp.allF s with
  |ok ts =>
   rw [hq] at hs
   exact .inl ⟨ts,by omega,hs,rfl⟩
  |error j =>
   rw [hq] at hs
   exact .inr (.inl ⟨by omega,j,hs,rfl⟩)
theorem Axf(s:Str):(Gq s).1.length<1000000000:=by
 rcases Asc s with ⟨ts,h0,h1,h2⟩|⟨_,j,_,h2⟩|⟨_,h2⟩<;>rw [h2]
 ·have:=Bef h1
  simp only
  omega
 ·simp
 ·simp
theorem Bbm{s:Str}{ts:TL}{e:Xpr}(hl:s.length≤20000) (h:Sc s 0 ts) (ho:orW ts = .ok (e,[])) (he:Bo e 30=true):Ze s=some (e,0,0):=by
 rw [Apb s (Axf s)]
 have hw:Aaf ts = .ok e:=by unfold Aaf;rw [ho]
 simp only [xX,Axt hl h,if_true,hw,A37,he,Am]
theorem Bab{s:Str}{ts q:TL}(hl:s.length≤20000) (h:Sc s 0 ts) (ho:Aaf ts = .error q):Ze s=some (zX,Lg s.length q,11):=by
 rw [Apb s (Axf s)]
 simp only [xX,Axt hl h,if_true,ho]
end Go.Proofs.YthndhaolemgbdaaGreatDoor
namespace Go.Proofs.YthndhaolemgbdaaGreatDoor
open Go.Ax
theorem A29(a b:Xpr):Ayb a b=decide (a=b):=Q4 a b
instance:DecidableEq SetE:=fun a b=>decidable_of_iff (a.name=b.name∧a.e=b.e) (by
 cases a;cases b
 simp only [SetE.mk.injEq])
end Go.Proofs.YthndhaolemgbdaaGreatDoor
namespace Go.Proofs.YthndhaolemgbdaaGreatDoor
open Go.Ax
end Go.Proofs.YthndhaolemgbdaaGreatDoor
namespace Go.Ax
open Go.RowKit Go.ChangeShapes Go.WideShapes
section
variable {H:Type}{enc':TypeId×Value→H}{P:Program}{w:World}{base:Nat}{sp:Nat→Bool}{held:Bool}
theorem Aqg{t k e:TypeId}{fuel:Nat}{cs:List Value}{ps:List MemPlace}(ht:P.underlying t=some (.map k e)) (hk:P.underlying k=some (.int .i64)) (he:P.underlying e=some .string) {l:List (Int×Str)}(hl:∀p,p∈l→Tt l p.1=p.2) (hno:∀n,(∀p,p∈l→p.1≠n)→Tt l n=[]) (h:DataW.trod enc' P w base sp held fuel t cs=some (.map (l.map fun p=>(.int .i64 p.1,.lit (.string p.2))),ps)):∃b es clk,cs=[.map (some b)]∧w.heap[b]? = some (.map es clk)∧Axh l es.toList:=by
 rcases open_anymap ht h with ⟨_,hx⟩|⟨b,es,clock,_,rfl,hb,_,_,_⟩
 ·cases hx
 cases fuel with
 |zero=>simp [DataW.trod] at h
 |succ n =>
  simp only [DataW.trod,ht,hb] at h
  ·split at h
   ·obtain⟨entries,hm,hs⟩:=Option.bind_eq_some_iff.1 h
    split at hs
    ·simp only [Za1,Zp1,DataW.map.injEq] at hs
     obtain⟨hs,_⟩:=hs
     have hperm:=sorted_perm (entries.map (·.1))
     rw [hs] at hperm
     have hx:∀(x:MapEntry) (y:(Lit×DataW H)×List MemPlace),((keyOf P k x.key).bind fun key=>if x.val.formed P e=true then(DataW.trod enc' P w base sp held n e x.val.cells.toList).map fun y=>((key,y.1),y.2) else none)=some y→∃(m:Int) (s:ByteArray),x.key = .int .i64 m∧x.val = .string s∧s.size≤maxLen∧y.1=(.int .i64 m,.lit (.string s.data.toList)):=by
      intro x y hy
      obtain⟨key,hk1,hy⟩:=Option.bind_eq_some_iff.1 hy
      split at hy
      ·rename_i hfm
       obtain⟨z,hz,rfl⟩:=Option.map_eq_some_iff.1 hy
       obtain⟨s,hs1,rfl,hs3⟩:=DataW.trod_string he hz
       have hv:x.val = .string s:=by
        cases hxv:x.val<;>rw [hxv] at hs1 hfm<;>simp [Value.cells] at hs1
        ·rw [hs1]
        ·simp [Value.formed,he] at hfm
       have hkk:∃m,x.key = .int .i64 m∧key = .int .i64 m:=by
        simp only [keyOf,hk] at hk1
        cases hxk:x.key<;>rw [hxk] at hk1<;>simp [mapKey,hk] at hk1
        obtain⟨⟨h1,_⟩,h2⟩:=hk1
        subst h1
        exact⟨_,rfl,h2.symm⟩
       obtain⟨m,h1,rfl⟩:=hkk
       exact⟨m,s,h1,hv,hs3,rfl⟩
      ·cases hy
     have hin:∀x,x∈es.toList→∃(m:Int) (s:ByteArray),x.key = .int .i64 m∧x.val = .string s∧s.size≤maxLen∧(m,s.data.toList)∈l:=fun x hxm=>by
      obtain⟨i,hi,rfl⟩:=List.getElem_of_mem hxm
      obtain⟨y,hy,hf⟩:=Lib.mapM_at hm i _ (Zo1 hi)
      obtain⟨m,s,h1,h2,h3,h4⟩:=hx _ y hf
      refine⟨m,s,h1,h2,h3,?_⟩
      have:y.1∈entries.map (·.1):=List.mem_map.2 ⟨y,List.mem_of_getElem? hy,rfl⟩
      have:=hperm.symm.subset this
      rw [h4] at this
      obtain⟨p,hp,e⟩:=List.mem_map.1 this
      simp only [Zp1,Lit.int.injEq,true_and,DataW.lit.injEq,Lit.string.injEq] at e
      obtain⟨e1,e2⟩:=e
      rw [←e1,←e2]
      exact hp
     have hout:∀p,p∈l→∃x,x∈es.toList∧x.key = .int .i64 p.1:=fun p hp=>by
      have h1:(Lit.int .i64 p.1,DataW.lit (H:=H) (.string p.2))∈entries.map (·.1):=hperm.subset (List.mem_map.2 ⟨p,hp,rfl⟩)
      obtain⟨y,hy,e⟩:=List.mem_map.1 h1
      obtain⟨x,hxm,hf⟩:=mapM_mem hm y hy
      obtain⟨m,s,h2,_,_,h4⟩:=hx x y hf
      rw [e] at h4
      simp only [Zp1,Lit.int.injEq,true_and] at h4
      exact⟨x,hxm,by rw [h2,h4.1]⟩
     refine⟨b,es,clock,rfl,hb,fun n =>?_⟩
     have hik:MapKept.IsKey (.int .i64) (.int .i64 n):=by simp [MapKept.IsKey]
     rcases MapKept.findNow_spec hik es.toList 0 (fun x hxm=>by obtain⟨m,s,h1,_⟩:=hin x hxm;rw [h1];simp [MapKept.IsKey]) with ⟨h1,h2⟩|⟨j,x,h1,h2,h3⟩
     ·have:Tt l n=[]:=hno n fun p hp e=>by
       obtain⟨x,hxm,hk⟩:=hout p hp
       exact h2 x hxm (by rw [hk,e])
      exact⟨by rw [this];simp,.inl ⟨h1,this⟩⟩
     ·obtain⟨m,s,g1,g2,g3,g4⟩:=hin x (List.mem_of_getElem? h2)
      have hmn:m=n:=by
       rw [g1] at h3
       simpa using h3
      subst hmn
      have hg:=hl _ g4
      simp only at hg
      refine⟨by rw [hg,Array.length_toList];exact g3,.inr ⟨0+j,?_⟩⟩
      rw [h1,g2,hg,Array.toArray_toList]
    ·cases hs
   ·cases h
end
theorem Afp{H:Type}{P:Program}:∀{ts us:List TypeId}{ds gs:List (DataW H)}{n:Nat},ds.length≤ts.length→n∈DataW.weightsEach P ts ds→n∈DataW.weightsEach P (ts++us) (ds++gs)
 |[],us,ds,gs,n,_,h=>by cases ds<;>simp [DataW.weightsEach] at h
 |t::ts,us,[],gs,n,_,h=>by simp [DataW.weightsEach] at h
 |t::ts,us,d::ds,gs,n,hl,h=>by
  simp only [DataW.weightsEach,Zb2,List.mem_append] at h ⊢
  rcases h with h|h
  ·exact .inl h
  ·exact .inr (Afp (by simpa using hl) h)
theorem A69{H:Type}{P:Program}{ts us:List TypeId}{ds gs:List (DataW H)}(h:(DataW.weightsEach P (ts++us) (ds++gs)).all (·≤reachBytes)=true) (hl:ds.length≤ts.length):∀(i:Nat) (t:TypeId) (d:DataW H),ts[i]? = some t→ds[i]? = some d→∀n,n∈d.weights P t→n≤R47:=fun i t d ht hd n hn=>by
 have:=Zg2.1 h n (Afp hl (DataW.weights_mem_each ht hd n hn))
 show n≤reachBytes
 exact of_decide_eq_true this
theorem Ary{H:Type}{enc':TypeId×Value→H}{P:Program}{w:World}{base:Nat}{sp:Nat→Bool}{held:Bool}:∀{ts:List TypeId}{vs:List Value}{ds:List (DataW H)}{ps:List MemPlace},DataW.TrodAll enc' P w base sp held ts vs ds ps→ds.length=ts.length:=by
 intro ts
 induction ts with
 |nil=>intro vs ds ps h;cases vs<;>cases ds<;>simp [DataW.TrodAll] at h ⊢
 |cons t ts ih =>
  intro vs ds ps h
  obtain⟨v,vs',d,ds',p,q,rfl,rfl,rfl,hd,hrest⟩:=trodAll_cons h
  simp [ih hrest]
end Go.Ax
namespace Go.Proofs.YthndhaolemgbdaaGreatDoor
open Go.Ax Go.ChangeShapes Go.WideShapes Go.ChangeAt Go.RowKit Go.ChangeMaps
theorem own:ownKnob Tryz.prog.godebug=none:=by kernel_rfl
def rdL:List Nat:=[3,4,9,5,23,26,111,89,44,24,39,34,42,78,41,40,63,67]
theorem Bd4:rdB elT (A7 ttL) rdL=true:=by kernel_rfl
theorem Bfc:szB Tryz.prog elT (A7 ttL) rdL=true:=by kernel_rfl
theorem Bas:laidOutB Tryz.prog=true:=by kernel_rfl
def GlE(x:Vx) (g:Nat):Gv→Prop
 |.arr c xs=>∀i y,xs[i]? = some y→∀w',Chg x.S x.w w'→At w' c y g (i*csz c)
 |.map l=>∃r es clk,(∀w',Chg x.S x.w w'→w'.cell? ⟨g,0,none⟩=some (.map (some r))∧w'.heap[r]? = some (.map es clk))∧Axh l es.toList
 |.num k=>∃n,∀w',Chg x.S x.w w'→w'.cell? ⟨g,0,none⟩=some (.int k n)
theorem J7{α:Type}:∀{L:List (Nat×α)}{g:Nat}{v : α},tbl L g=some v→(g,v)∈L
 |[],_,_,h=>by simp [tbl] at h
 |(k,u)::L,g,v,h=>by
  simp only [tbl] at h
  split at h
  ·rename_i hk
   have hk:=Zl1 hk
   subst hk
   simp only [Za1] at h
   subst h
   exact Zr1
  ·exact Zu1 _ (J7 h)
theorem Bbv{x:Vx}{L:List (Nat×Gv)}(h:∀p,p∈L→GlE x p.1 p.2):GlR x (tbl L) :=
 ⟨fun _ _ _ hg=>h _ (J7 hg),fun _ _ hg=>h _ (J7 hg),fun _ _ hg=>h _ (J7 hg)⟩
theorem Aiu{P:Program}{w:World}:∀{l:List (String×DataW Unit)}{ps:List MemPlace},DataW.LaidVars P w l ps→∀x,x∈l→∃g t cs fuel p,P.globalNamed x.1=some g∧(P.globals[g]?).map (·.type)=some t∧w.var? P x.1=some cs∧DataW.trod (fun _=>()) P w 0 (fun _=>true) false fuel t cs.toList=some (x.2,p)
 |[],_,_,x,hx=>by cases hx
 |(n,d)::r,ps,h,x,hx=>by
  obtain⟨g,t,cs,fuel,p,q,h1,h2,h3,h4,h5,_⟩:=h
  rcases List.mem_cons.1 hx with rfl|hx
  ·exact⟨g,t,cs,fuel,p,h1,h2,h3,h4⟩
  ·exact Aiu h5 x hx
theorem Agv{H:Type}{enc:TypeId×Value→H}{P:Program}{w:World}{base:Nat}{sp:Nat→Bool}{held:Bool}{fuel:Nat}{t e:TypeId}{n:Nat}{cs:List Value}{zs:List (List UInt8)}{p:List MemPlace}
  (ht:P.underlying t=some (.array n e)) (he:P.underlying e=some .string) (hce:P.cellsOf e=1)
  (h:DataW.trod enc P w base sp held fuel t cs=some (.agg (zs.map fun z =>.lit (.string z)),p)):∀(i:Nat) (z:Str),zs[i]? = some z→cs[i]? = some (.string ⟨z.toArray⟩):=by
 cases fuel with
 |zero=>simp [DataW.trod] at h
 |succ fuel =>
  simp only [DataW.trod,ht,hce,Nat.mul_one] at h
  split at h
  ·rename_i hl
   obtain⟨xs,hm,hx⟩:=Option.map_eq_some_iff.1 h
   have hxs:xs.map (·.1)=zs.map fun z=>(DataW.lit (.string z):DataW H):=by
    have:=congrArg Prod.fst hx
    simpa using this
   have hxl:xs.length=n:=by simpa using Lib.mapM_length hm
   have hzl:zs.length=n:=by
    have:=congrArg List.length hxs
    simp at this
    omega
   intro i z hz
   have hi:i<n:=by
    have:=(Zi2.1 hz).1
    omega
   obtain⟨b,hb,hf⟩:=Lib.mapM_at hm i i (by simp [hi])
   obtain⟨z',hc,h3,_⟩:=DataW.trod_string he hf
   have h1:cs[i]? = some (.string z'):=by
    have:=congrArg (·[0]?) hc
    simpa [List.getElem?_take,List.getElem?_drop] using this
   have h2:(xs.map (·.1))[i]? = some b.1:=by simp [hb]
   rw [hxs] at h2
   simp only [List.getElem?_map,hz,Zl2,Za1] at h2
   rw [h3] at h2
   simp only [DataW.lit.injEq,Lit.string.injEq] at h2
   rw [h1,h2]
  ·cases h
theorem Ake{W:World}{l:List (String×DataW Unit)}(h:laidMet Tryz.prog l W) {nm:String}{g t e:Nat}{n:Nat}{zs:List Str}(hin:(nm,DataW.agg (zs.map fun z =>.lit (.string z)))∈l) (hg:Tryz.prog.globalNamed nm=some g) (hgt:(Tryz.prog.globals[g]?).map (·.type)=some t)
  (ht:Tryz.prog.underlying t=some (.array n e)) (he:Tryz.prog.underlying e=some .string) (hce:Tryz.prog.cellsOf e=1) (hz:(zs.all fun z=>Nat.ble z.length maxLen)=true):GlE (v0 elT Fk W) g (.arr .str zs):=by
 obtain⟨ps,hl,_⟩:=h
 obtain⟨g',t',cs,fuel,p,h1,h2,h3,h4⟩:=Aiu hl _ hin
 obtain rfl:=Option.some.inj (hg.symm.trans h1)
 obtain rfl:=Option.some.inj (hgt.symm.trans h2)
 have hc:=Agv ht he hce h4
 intro i y hy w' hw j d hd
 have hj:j=0∧d = .str y:=by
  cases j with
  |zero=>simpa [enc] using hd.symm
  |succ j=>simp [enc] at hd
 obtain⟨rfl,rfl⟩:=hj
 have h5:=World.var?_cell h1 h3 i
 rw [←Array.getElem?_toList,hc i y hy] at h5
 have hm:=Zg2.1 hz y (List.mem_of_getElem? hy)
 have e1:i*csz .str+0=i:=by simp [csz]
 exact⟨_,by rw [e1];exact hw.cell _ _ _ h5 (fun h=>h),.str y (Nat.le_of_ble_eq_true hm)⟩
theorem Baf:∀p,p∈signsL→Tt signsL p.1=p.2:=by decide
theorem Ba2(l:List (Int×Str)):∀n,(∀p,p∈l→p.1≠n)→Tt l n=[]:=by
 induction l with
 |nil=>intro n _;rfl
 |cons p l ih =>
  intro n h
  obtain⟨k,s⟩:=p
  have h1:k≠n:=h (k,s) (by simp)
  simp only [Tt,Zd1 h1]
  exact ih n fun p hp=>h p (by simp [hp])
theorem Azy{W:World}{l:List (String×DataW Unit)}(h:laidMet Tryz.prog l W) (hin:("exchequer/ast.signs",Rows.laid_exchequer_ast_signs)∈l):GlE (v0 elT Fk W) 0 (.map signsL):=by
 obtain⟨ps,hl,_⟩:=h
 obtain⟨g',t',cs,fuel,p,hg',ht',hvar,hd⟩:=Aiu hl _ hin
 obtain rfl:=Option.some.inj ((show Tryz.prog.globalNamed "exchequer/ast.signs" = some 0 by kernel_rfl).symm.trans hg')
 obtain rfl:=Option.some.inj ((show(Tryz.prog.globals[0]?).map (·.type)=some 147 by kernel_rfl).symm.trans ht')
 obtain⟨b,es,clk,h1,h2,h3⟩:=Aqg (l:=signsL) (t:=147) (k:=3) (e:=9) (by kernel_rfl) (by kernel_rfl) (by kernel_rfl) Baf (Ba2 signsL) hd
 have hc:=World.var?_cell hg' hvar 0
 have h1':cs = #[.map (some b)]:=by
  apply Array.ext'
  exact h1
 rw [h1'] at hc
 have hc:W.cell? ⟨0,0,none⟩=some (.map (some b)):=hc
 have hlt:b<W.heap.size:=(Zh2.1 h2).1
 exact⟨b,es,clk,fun w' hw=>⟨hw.cell _ 0 _ hc (fun h=>h),by rw [hw.block b hlt (fun _ h=>h)];exact h2⟩,h3⟩
theorem Bbb{W:World}(h:W.ShapedOpen Tryz.prog):GlE (v0 elT Fk W) 3 (.num .i64):=by
 obtain⟨m,hm⟩:=Go.Proofs.cell_of_shapedOpen_int (zero := #[.int .i64 0]) (t:=3) (g:=3) h (of_decide_eq_true (by kernel_rfl)) (by kernel_rfl) rfl (by kernel_rfl) (by kernel_rfl) Tryz.underlying3
 exact⟨m,fun w' hw=>hw.cell _ 0 _ hm (fun h=>h)⟩
def Bc9(l:List (String×DataW Unit)):Prop:=(l.all fun x=>x.2.handleName?.isNone)=true
 ∧ ("exchequer/lex.words",Rows.laid_exchequer_lex_words)∈l
 ∧ ("exchequer/ast.signs",Rows.laid_exchequer_ast_signs)∈l
 ∧ ("exchequer/ast.kinds",Rows.laid_exchequer_ast_kinds)∈l
 ∧ True
theorem Bcq{W:World}{l:List (String×DataW Unit)}(hl:Bc9 l) (hL:laidMetH Tryz.prog l W) (hS:W.ShapedOpen Tryz.prog):GlR (v0 elT Fk W) glT:=by
 have hL':laidMet Tryz.prog l W:=by
  have hf:(l.filter fun x=>x.2.handleName?.isSome)=[]:=List.filter_eq_nil_iff.2 fun x hx=>by
   have:=Zg2.1 hl.1 x hx
   rw [Option.isNone_iff_eq_none] at this
   simp [this]
  unfold laidMetH at hL
  rw [hf] at hL
  exact hL
 replace hl:=hl.2
 clear hL
 have _:=hS
 refine Bbv fun p hp =>?_
 have hwords:GlE (v0 elT Fk W) 2 (.arr .str wordsL):=Ake (n:=36) (t:=221) (e:=9) hL' hl.1 (by kernel_rfl) (by kernel_rfl) (by kernel_rfl) (by kernel_rfl) (by kernel_rfl) (by kernel_rfl)
 replace hl:=hl.2
 have hsigns:=Azy hL' hl.1
 replace hl:=hl.2
 have hkinds:GlE (v0 elT Fk W) 1 (.arr .str Am4):=Ake (n:=6) (t:=191) (e:=9) hL' hl.1 (by kernel_rfl) (by kernel_rfl) (by kernel_rfl) (by kernel_rfl) (by kernel_rfl) (by kernel_rfl)
 replace hl:=hl.2
 have hmax:=Bbb hS
 simp only [List.mem_cons,List.not_mem_nil,or_false] at hp
 repeat' (first|(rcases hp with rfl|hp)|subst hp)
 all_goals assumption
def Bgz:DataW Unit→Value
 |.lit (.int k n) =>.int k n
 |.lit (.string s) =>.string ⟨s.toArray⟩
 |_ =>.int .u8 0
def Acz:DataW Unit→List Value
 |.agg l=>l.map Bgz
 |_=>[]
def Bfs:DataW Unit→List Value
 |.agg l=>l.flatMap Acz
 |_=>[]
def Ai0(vs:List Value):Obj→Obj
 |.cells _ t frozen =>.cells vs.toArray t frozen
 |o=>o
noncomputable def A6l (h:Array Obj):Array Obj :=
 let h:=h.modify 2 (Ai0 (Acz Rows.laid_exchequer_lex_words))
 let h:=h.modify 1 (Ai0 (Acz Rows.laid_exchequer_ast_kinds))
 let h:=(h.modify 4 (Ai0 (Acz Rows.laid_unicode_utf8_first))).modify 5 (Ai0 (Bfs Rows.laid_unicode_utf8_acceptRanges))
 let h:=(h.modify 0 (Ai0 [.map (some h.size)])).push (.map ((signsL.zip (List.range 11)).map fun p=>(⟨.int .i64 p.1.1,.string ⟨p.1.2.toArray⟩,p.2⟩:MapEntry)).toArray 11)
 h
noncomputable def Adw (os:Os):World :=
 { World.holding Tryz.prog os ⟨#[], #[],[]⟩ with heap:=A6l (World.holding Tryz.prog os ⟨#[], #[],[]⟩).heap }
set_option maxRecDepth 100000 in
theorem A28{H:Type}{R:Nat×Nat}{M:TypeId→DataW H→Prop}(hM:Msr Tryz.prog R M) {enc:TypeId×Value→H}{f:FuncId}{fn:Func}{sa:List Sg}{F:FT sa [.bool]}{s:ChangeSpec}(hok:FnOk Tryz.prog elT glT f sa [.bool] F) (hF:∀x,BdL sa x→SmL R sa x→F x=some true)
  (hr:fn.resultTypes = #[4]) (hv:s.vars=[]) (hf:∀ds,ds.length=fn.params.toList.length→(s.fn H ds).results=[.lit (.bool true)]∧(s.fn H ds).args=ds∧(s.fn H ds).vars=[])
  (hsg:Al6 (A7 ttL) rdL fn.params.toList sa=true) (hread:(fn.params.toList.all fun t=>Tryz.prog.readableRec t&&Nat.blt t Tryz.prog.types.size)=true)
  {W:World}{base:Nat}{args:Array Value}{ds gs:List (DataW H)}{before:List MemPlace}(hval:∀(j:Nat) t v,fn.params[j]? = some t→args[j]? = some v→Value.okWide Tryz.prog W .any base t v)
  (hW:DataW.Whole enc Tryz.prog fn.params.toList s.vars false W args.toList ds gs before) (hgl:GlR (v0 elT Fk W) glT) (hsz:ds.length=fn.params.toList.length→∀(i:Nat) (t:TypeId) (d:DataW H),fn.params.toList[i]? = some t→ds[i]? = some d→M t d) :
  Calls Tryz.prog f args W fun e W'=>∃v,e = .returned v∧s.post enc Tryz.prog fn false true false false W args v W':=by
 have hW':=hW
 have hlt:=hW.lt
 obtain⟨p,q,hA,hV,rfl,hfz,hnd⟩:=hW
 rw [hv] at hV
 obtain⟨rfl,rfl⟩:=trodVars_none hV
 have hlen:=Ary hA
 obtain⟨x,hx,hsm⟩:=Aoy hM (fun t=>Au Al t) Bd4 Bfc 0 hsg (fun j t v h1 h2=>hval j t v (by simpa using h1) (by simpa using h2)) hA
 have hcall:=hok.calls (hF x (Aa9 hx) (hsm (hsz hlen))) hgl hx
 have e1:args.toList.toArray=args:=by simp
 rw [e1] at hcall
 refine hcall.mono fun en W' =>?_
 rintro⟨rfl,hb⟩
 refine⟨_,rfl,?_⟩
 obtain⟨h1,h2,h3⟩:=hf ds hlen
 have e2:ds++([]:List (DataW H))=ds:=by simp
 refine⟨ds,[],_,[],p,[],hW',?_,?_,?_,hb.frame _,fun h=>by cases h⟩
 ·rw [e2,h1,hr]
  exact trodAll_cons_mk (shut_bool Tryz.underlying4 _) trodAll_mk0
 ·rw [e2,h2]
  refine Al8 Bas hb (fun t ht =>?_) (fun x hx=>hlt x (by simp [hx])) hA
  have:=Zg2.1 hread t ht
  simp only [Zb1] at this
  exact⟨this.1,by simpa [Nat.blt_eq] using this.2⟩
 ·rw [e2,h3,hv];exact rfl
end Go.Proofs.YthndhaolemgbdaaGreatDoor
