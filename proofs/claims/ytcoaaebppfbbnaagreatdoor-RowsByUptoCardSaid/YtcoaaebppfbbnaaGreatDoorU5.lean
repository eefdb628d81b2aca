/- Texts of the proof,one behind the other: AxRn,AxIn,SxL,SxM,Pf,Lo,AxTh,Cg,AxOw,AxYl,Co,Cp,AxRy,AxMe,Ta,Tw,Si,Sk,Pa,Lc,Na,Lm,Ar,Dg,Eb,Fc,Fk. -/
import Derived.Test.YtcoaaebppfbbnaaGreatDoorU4
import Derived.KernelRfl
import Derived.Laws.Cover3
import Derived.Lib.Overlaps
import Derived.Lib.AppendZerosOnto
import Derived.Test.YtcoaaebppfbbnaaGreatDoorProg
import Derived.Lib.Bytealg
set_option linter.all false
namespace Go.Ax
structure Hx (P:Program) (el:Ck->TypeId) (gl:Nat->Option Gv) (tt:Nat->Ty) (cx:Cx):Prop where
 p:cx.P=P
 e:cx.el=el
 g:cx.gl=gl
 t:∀t,C0 P el tt t=true
 m:P.follows .mixedOrders=true
structure Lv {R:Type}(cx:Cx) (px:Px R):Prop where
 p:PxOk cx px
 c:C6 cx px
 q:CallQOk cx px
section
variable {R:Type}{P:Program}{el:Ck->TypeId}{gl:Nat->Ya1 Gv}{tt:Nat->Ty}{cx:Cx}
variable{px:Px R}
theorem lv{l:Yb1 (Nat×Fa R)}{a:Yb1 (Nat×Ez R)}{b:Yb1 (Nat×G4 R)}(H:Hx P el gl tt cx)(h:∀g f,(g,f)∈l->Hg cx g f)(c:∀g f,(g,f)∈a->Nu cx g f)(d:∀g f,(g,f)∈b->F1 cx g f)(i:px.tt=tt:=by rfl)(j:px.gl=gl:=by rfl)(k:px.call=Bei l:=by rfl)(m:px.callQ=A0d a:=by rfl)(n:px.callW=tbl b:=by rfl)(o:noY px:=by exactλ_ _ _ _=>rfl):Lv cx px:=⟨⟨λt=>by rw[i,H.p,H.e];exact H.t t,by rw[j,H.g],o.ok⟩,Bnj k h,Bko m n c d⟩
variable{sr:Yb1 Sg}{sa:Yb1 Sg}{F:HV sa->Ya1 (HV sr)}{g:Nat}
theorem cO(H:Hx P el gl tt cx)(h:FnOk P el gl g sa sr F)(a:Dk (Bb 0 sa) []=true:=by kernel_rfl):Hg (R:=R) cx g (Mb sa sr F):=B51 (by rw[H.p,H.e,H.g];exact h) a
variable{sg:Sig}{so:Sig}
theorem cL(H:Hx P el gl tt cx){F:FL sg so}(h:FnLn P el gl g sg so F)(a:lnB sg so=true:=by kernel_rfl):Hg (R:=R) cx g (Ct sg so F):=B5c (by rw[H.p,H.e,H.g];exact h) a
variable{c:Ck}
theorem cT(H:Hx P el gl tt cx){F:HV sa->Ya1 (HV [.sl c true])}(h:FnOk P el gl g sa [.sl c true] F)(a:Dk (Bb 0 sa) []=true:=by kernel_rfl)(b:Br0 c=true:=by rfl):Hg (R:=R) cx g (Mj sa c F):=B00 (by rw[H.p,H.e,H.g];exact h) a b
variable{fn:Func}
theorem cR(H:Hx P el gl tt cx){nb nt:Nat}{d:Px R}{c:Code}{n:Nat}(h:Lv cx d)(e:P.funcs[g]? = some fn)(hb:fn.body=some c)(f:∀i,i<n->Bp cx d (lp fn i))(a:(fn.name == "runtime.NumGoroutine")=false:=by kernel_rfl)(b:Sb fn=true:=by kernel_rfl)(j:Mg fn=n:=by kernel_rfl):Hg cx g (A0 nb nt d fn):=B2d h.p h.c h.q (by rw[H.p];exact H.m) (by rw[H.p];exact e) hb a b j f
theorem c1(H:Hx P el gl tt cx){l:Yb1 (Nat×Fa R)}(h:FnOk P el gl g sa sr F)(c:∀g f,(g,f)∈l->Hg cx g f)(a:Dk (Bb 0 sa) []=true:=by kernel_rfl):∀b f',(b,f')∈(g,Mb sa sr F)::l->Hg cx b f':=As (cO H h a) c
theorem l1(H:Hx P el gl tt cx){F:FL sg so}{l:Yb1 (Nat×Fa R)}(h:FnLn P el gl g sg so F)(c:∀g f,(g,f)∈l->Hg cx g f)(a:lnB sg so=true:=by kernel_rfl):∀b f',(b,f')∈(g,Ct sg so F)::l->Hg cx b f':=As (cL H h a) c
theorem q1(H:Hx P el gl tt cx){l:Yb1 (Nat×Ez R)}(h:FnOk P el gl g sa sr F)(c:∀g f,(g,f)∈l->Nu cx g f)(a:Dk (Bb 0 sa) []=true:=by kernel_rfl):∀b f',(b,f')∈(g,J3 sa sr F)::l->Nu cx b f':=Bks (B4h (by rw[H.p,H.e,H.g];exact h) a) c
theorem w1(H:Hx P el gl tt cx){F:HV sg.sgs->Ya1 (HV so.sgs)}{l:Yb1 (Nat×G4 R)}(h:FnLn P el gl g sg so F)(c:∀g f,(g,f)∈l->F1 cx g f)(a:lnB sg so=true:=by kernel_rfl):∀b f',(b,f')∈(g,I4 sg so F)::l->F1 cx b f':=Avx (B14 (by rw[H.p,H.e,H.g];exact h) a) c
theorem lO(H:Hx P el gl tt cx)(h:Lv cx px){b:Code}{k n:Nat}{s:Sig}{step:Arf (HV s.sgs) R}(a:∀fr d kx v,round px s b fr d kx v=step d kx v)(e:∀i,i<n->Bp cx px (lpC b i))(f:∀st K,px.loop b st K=An k s step st K:=by exactλ_ _=>by kernel_rfl)(g:X7 s=true:=by kernel_rfl)(j:(A8 b).length=n:=by kernel_rfl):Bp cx px b:=Bz4 h.p h.c h.q (by rw[H.p];exact H.m) f g a (Qz j e)
variable{f:FuncId}
theorem fO{c:Code}{px:Px (HV sr)}{F:FT sa sr}{n:Nat}(j:∀t,C0 P el tt t=true)(hm:P.follows .mixedOrders=true)(k:P.funcs[f]? = some fn)(hb:fn.body=some c)(d:(fn.name == "runtime.NumGoroutine")=false)(e:(Sb fn&&Nat.ble sa.length fn.ntmps&&Dk (Bb 0 sa) [])=true)(l:Mg fn=n)
  (h:∀cx,Hx P el gl tt cx->Lv cx px/\∀i,i<n->Bp cx px (lp fn i)) (m:∀x,Ae1 px fn sa sr x some=F x):FnOk P el gl f sa sr F:=
 Bp4 k hb d hm e l (λcx a b c _=>by obtain⟨g,o⟩:=h cx ⟨a,b,c,j,hm⟩;exact⟨g.p,g.c,g.q,o⟩) m
theorem fL{c:Code}{px:Px (HV so.sgs)}{F:FL sg so}{n:Nat}(j:∀t,C0 P el tt t=true)(hm:P.follows .mixedOrders=true)(k:P.funcs[f]? = some fn)(hb:fn.body=some c)(d:(fn.name == "runtime.NumGoroutine")=false)(e:(Sb fn&&Nat.ble sg.n fn.ntmps)=true)(l:Mg fn=n)
  (h:∀cx,Hx P el gl tt cx->Lv cx px/\∀i,i<n->Bp cx px (lp fn i)) (m:∀x,H7 px fn sg so x some=F x):FnLn P el gl f sg so F:=
 Bvs k hb d hm e l (λcx a b c=>by obtain⟨g,o⟩:=h cx ⟨a,b,c,j,hm⟩;exact⟨g.p,g.c,g.q,o⟩) m
end
open Go.RowKit
structure ClOk (P:Program) (f:FuncId) (t:TypeId) (sz:Nat):Prop where
 enters:Sx.Enters P f
 con:∀(a:Option Addr) (n c:Nat) (xs:List Value),xs.all Sx.one=true->n<=2000000->Sx.Con P f [.slice a n c] [] (Sx.RdS (.slice a n c) sz n xs) (λv L _=>L=[.row v t sz n xs])
def Ank(P:Program)(f:FuncId):Prop:=∀(a:Ya1 Addr) (c:Nat),Sx.Con P f [.slice a 0 c] [] (λ_=>True) (λv _ _=>∃a',v = .slice a' 0 0)
variable{c:Ck}{x:Vx}{ys:Yb1 (El c)}
theorem B4w{v:Value}(h:RF x.S x.w (.sl c ys .no) v):∃a cap vs,v = .slice a ys.length cap/\Bf x c ys vs/\∀w':World,(∀k,k<x.w.heap.size->w'.heap[k]? = x.w.heap[k]?)->Sx.RdS v (csz c) ys.length vs w':=by
 obtain⟨a,cap,vs,rfl,d,f⟩:=F4 h;refine⟨a,cap,vs,rfl,d,λw' hb=>⟨d.1,a,cap,rfl,?_⟩⟩;obtain⟨a',cap',g,i⟩:=B5 h;simp only[Value.slice.injEq]at g;rcases i with rfl|⟨b,o,e,hle,_⟩
 ·exact .inl rfl
 ·by_cases l:ys=[]
  ·grind
  ·refine .inr ⟨b,o,g.1.trans e,by rw[g.2.2];exact hle.1,λj u m=>?_⟩;have hc:=f b o (g.1.trans e) l j u m;rw[World.cell?_of_block (a:=⟨b,o+j,none⟩) (hb b (Ads hc))];exact hc
variable{P:Program}{w:World}
theorem Ar5{Pre:World->Prop}(h:∀w':World,(∀k,k<w.heap.size->w'.heap[k]? = w.heap[k]?)->Pre w'):Sx.StOk ⟨P,0,w,Sx.fps [],[]⟩ [] Pre w:=⟨Sx.Chg.refl _ _,by simp,by simp[Sx.fps],by simp[Sx.fps],by simp,λw' hc=>h w' λk a=>hc.block k a (by simp[Sx.fps])⟩
variable{w':World}
theorem Vh(h:Sx.Chg [] w w'):Chg C2 w w':=.of_blocks h.os h.tape h.output h.size λk a=>h.block k a (by simp)
variable{f:FuncId}
theorem Q0{v:Value}(h:ClOk P f (x.el c) (csz c))(d:RF x.S x.w (.sl c ys .no) v)(o:ys.length<=2000000) :
  ∃vs,Bf x c ys vs/\Calls P f #[v] x.w λen w'=>∃u,en = .returned u/\Chg C2 x.w w'/\((u = .slice none 0 0/\ys=[])\/∃g cap cur,u = .slice (some ⟨g,0,none⟩) ys.length cap/\(x.w.heap.size<=g/\g<w'.heap.size)/\w'.heap[g]? = some (.cells cur (x.el c) (0,0))/\cur.size=cap*csz c/\ys.length<=cap/\cap<=maxLen/\cur.toList.take (ys.length*csz c)=vs):=by
 obtain⟨a,cap,vs,rfl,b,e⟩:=B4w d;refine⟨vs,b,((h.con a ys.length cap vs (Zg2.2 b.one) o).run x.w [] (Ar5 e)).mono ?_⟩;rintro en w' ⟨u,L',F',rfl,rfl,i⟩;refine⟨u,rfl,Vh (by simpa[Sx.fps]using i.chg),?_⟩;have j:w'.ownsRow 0 (x.el c) (csz c) u ys.length vs:=i.ok (.row u (x.el c) (csz c) ys.length vs) (by simp);rcases j.2 with ⟨rfl,p⟩|⟨g,cap',cur,rfl,_,n,hle,hm,k,l⟩
 ·grind
 ·refine .inr ⟨g,cap',cur,rfl,⟨?_,(Zh2.1 n).1⟩,n,k,hle,hm,l⟩;rcases i.own g (by simp[Sx.fps,Sx.Ent.fp])with m|m
  ·cases m
  ·exact m
def A74(c:Ck):FT [.sl c false] [.sl c true]:=λ(ys:Yb1 (El c))=>cond (decide (ys.length<=2000000)) (some ys) none
theorem Ac7{el:Ck->TypeId}{gl:Nat->Ya1 Gv}(h:ClOk P f (el c) (csz c)):FnOk P el gl f [.sl c false] [.sl c true] (A74 c):=by
 refine⟨h.enters,λx r l w M vs hM _ hr=>?_⟩;have l:cond (decide (List.length (α:=El c) x<=2000000)) (some x) none=some r:=l;cases hd:decide (List.length (α:=El c) x<=2000000)with
 |false=>rw[hd]at l;cases l
 |true=>
  rw[hd]at l;simp at l;subst l;simp at hd;simp[Ca,C9]at hr;obtain⟨v,_,rfl,hv,rfl⟩:=hr;obtain⟨us,k,hc⟩:=Q0 (x:=v0 el M w) h hv.1 hd;refine hc.mono ?_;rintro en w' ⟨u,rfl,n,hu⟩;rcases hu with ⟨rfl,h0⟩|⟨g,cap,cur,rfl,⟨a,a2⟩,hh,a3,hle,hm,a5⟩
  ·refine⟨_,⟨λ_=>0,λ_=>none⟩,rfl,n,λp g o _ hg=>by simp at hg,λp q g o o' _ _ hg=>by simp at hg,?_⟩;subst h0;exact⟨λ_ _=>.nil _ _ _ _ trivial,by simp[vr],λ_=>.inl ⟨rfl,rfl,rfl⟩⟩
  ·let m:Mp:=⟨λ_=>0,λp=>if p=0 then some (g,List.length (α:=El c) x*csz c)else none⟩;have e:∀p b o,m.tk p=some (b,o)->p=0/\b=g/\o=List.length (α:=El c) x*csz c:=λp b o s=>by grind
   refine⟨_,m,rfl,n,λp b o _ s=>?_,λp q b o o' _ _ s hq=>by rw[(e p b o s).1,(e q b o' hq).1],?_⟩
   ·obtain⟨_,rfl,_⟩:=e p b o s;exact⟨a,a2⟩
   ·simp[Hh,Rep];have t:Bf (vr el M m [.sl c true] w') c x us:=⟨k.1,λi y j d hy hd=>by
     obtain⟨z,hz,hf⟩:=k.2 i y j d hy hd;refine⟨z,hz,RF.later hf (n.mono λ_ _ h=>h.elim) λb i hi=>?_⟩;rcases hi with hi|⟨p,o,_,s,_⟩
     ·exact .inl hi
     ·obtain⟨_,rfl,_⟩:=e p b o s;exact .inr a⟩
    refine⟨Ap1 t ⟨hle,hm⟩ (λj z hj=>?_) (λi hi=>?_),by simp[vr],λ_=>.inr ⟨g,cap,cur,rfl,by simp[vr,m],hh,a3,hle,hm⟩⟩
    ·show w'.cell? _=_;simp[World.cell?,hh]
     grind
    ·rintro(a4|⟨p,o,_,s,ho⟩)
     ·have:=hM g i a4;have a:w.heap.size<=g:=a;omega
     ·grind
section
variable {R:Type}{cx:Cx}
def X5(c:Ck)(args:Yb1 D)(st:St)(K:Yb1 D->St->Ya1 R):Ya1 R:=match args with
 |[.sl c' xs _]=>match decide (c' = c)&&decide (xs.length<=2000000)with|true=>cond (List.isEmpty xs) (K [.sl c' [] .z] st) (K [.osl st.nb c' 0 ((xs.length:Nat):Int)] (Hr st (.dyn c' xs)))|false=>none
 |_=>none
variable{cur:Array Value}{g:Nat}{vs:Yb1 Value}
theorem Ai9{cap:Nat}(a:Bf x c ys vs)(k:x.w.heap[g]? = some (.cells cur (x.el c) (0,0)))(e:cur.size=cap*csz c)(hle:ys.length<=cap)(hm:cap<=maxLen)(f:cur.toList.take (ys.length*csz c)=vs):Gn x g (.dyn c ys):=by
 refine⟨Nat.le_trans hle hm,cur.toList,x.el c,by rw[Array.toArray_toList];exact k,(by have h:=Nat.mul_le_mul_right (csz c) hle;rw[<-e]at h;simpa using h),λi y j d l hd=>?_⟩;obtain⟨u,b,m⟩:=a.2 i y j d l hd;refine⟨u,?_,m⟩;rw[<-f,List.getElem?_take]at b;split at b
 ·exact b
 ·cases b
variable{K:Yb1 D->St->Ya1 R}{args:Yb1 D}{r:R}{st:St}
theorem Bjf(h:ClOk cx.P g (cx.el c) (csz c))(h0:Ank cx.P g)(hc:X5 c args st K=some r):I5 cx g args st K r:=by
 unfold X5 at hc;split at hc
 ·rename_i c' xs tk;split at hc
  ·rename_i f;simp at f;obtain⟨rfl,hn⟩:=f;refine⟨h.enters,λm a as_ w vs hr b=>?_⟩;simp only[Reps]at b;obtain⟨v,_,rfl,⟨i,_⟩,rfl⟩:=b;by_cases o:xs=[]
   ·subst o;obtain⟨ad,cap,rfl,_⟩:=i.here.slice;refine((h0 ad cap).run w [] (Ar5 λ_ _=>trivial)).mono ?_;rintro en w' ⟨u,L',F',rfl,⟨a',rfl⟩,hs⟩;have d:Chg C2 w w':=Vh (by simpa[Sx.fps]using hs.chg);refine⟨_,rfl,_,st,m,hc,⟨rfl,rfl,rfl,rfl,rfl⟩,hr.quiet d,?_⟩;simp[Hh];exact⟨λ_ _=>.nil _ _ _ _ trivial,rfl,a',rfl⟩
   ·have p:List.isEmpty xs=false:=by cases xs with|nil=>exact absurd rfl o|cons _ _=>rfl
    rw[p]at hc;obtain⟨us,j,q⟩:=Q0 (x:=vx cx m (fs st) w) h i hn;refine q.mono ?_;rintro en w' ⟨u,rfl,d,hu⟩;rcases hu with ⟨_,e⟩|⟨s,cap,cur,rfl,⟨t,y⟩,hh,l,hle,hm,z⟩
    ·exact absurd e o
    ·obtain⟨m',h1,h2⟩:=hr.newAt (k:=.dyn c' xs) (g:=s) d t y (λx' nx hw=>Ai9 (j.later nx) (by rw[hw,nx.el];exact hh) l hle hm z);rw[<-A7z]at h1 h2;refine⟨_,rfl,_,_,m',hc,⟨rfl,rfl,rfl,rfl,rfl⟩,h1,?_⟩;simp only[Rep]at h2;simp[Hh];obtain⟨k1,k2⟩:=h2;simp at k2;have n:(vx cx m' (fs (Hr st (.dyn c' xs))) w').m.bl st.nb=s:=k2.symm;refine⟨k1,Int.le_refl _,Int.natCast_nonneg _,by have:=Nat.le_trans hle hm;omega,some ⟨s,0,none⟩,cap,by simp,.inr (by rw[n];simp),by simpa using hle,hm,cur,(0,0),by rw[n];exact hh,by simpa using l⟩
  ·cases hc
 ·cases hc
def Ai8(c:Ck)(args:Yb1 D)(st:St)(K:D->Yb1 Nat->St->Ya1 R):Ya1 R:=match args with
 |[.sl c' xs _]=>match decide (c' = c)&&decide (xs.length<=2000000)with
  |true=>cond (List.isEmpty xs) (K (.sl c' [] .z) [] st) (match blk st.bl st.nb with
   |none=>K (.osl st.nb c' 0 ((xs.length:Nat):Int)) [] (Hr st (.dyn c' xs))
   |some _=>none)
  |false=>none
 |_=>none
theorem Bjh(k:Blk)(h:blk st.bl st.nb=none):∀b,b∉([]:Yb1 Nat)->F3 (fs st) (fs (Hr st k)) b:=λb _=>by
 have e:∀q,(fs (Hr st k)).bl q=if q=st.nb then some k else(fs st).bl q:=λq=>Az st.bl st.nb q k
 refine⟨λq a=>?_,λq a c=>?_⟩
 ·rw[e];by_cases hb:b=st.nb
  ·subst hb;have a:blk st.bl st.nb=some q:=a;rw[h]at a;cases a
  ·rw[if_neg hb];exact a
 ·have c:b<st.nb:=c;rw[e,if_neg (by omega)]at a;exact a
theorem A7s(h:ClOk cx.P g (cx.el c) (csz c))(h0:Ank cx.P g):F1 (R:=R) cx g (Ai8 c):=by
 intro args st K r hc;unfold Ai8 at hc;split at hc
 ·rename_i t xs tk;split at hc
  ·rename_i l;simp at l;obtain⟨rfl,hn⟩:=l;by_cases y:xs=[]
   ·subst y;refine⟨_,[],st,hc,⟨rfl,rfl,rfl,rfl,rfl⟩,Zn1 _,λb _=>F3.of_bl rfl b,h.enters,λs m a as_ w vs q z d=>?_⟩;simp only[Reps]at d;obtain⟨v,_,rfl,⟨f,_⟩,rfl⟩:=d;obtain⟨ad,cap,rfl,_⟩:=f.here.slice;refine((h0 ad cap).run w [] (Ar5 λ_ _=>trivial)).mono ?_;rintro en w' ⟨u,L',F',rfl,⟨a',rfl⟩,hs⟩;have i:Chg C2 w w':=Vh (by simpa[Sx.fps]using hs.chg);rw[J8 q];refine⟨_,rfl,m,z.quiet i,?_⟩;simp[Rep];exact⟨λ_ _=>.nil _ _ _ _ trivial,rfl,a',rfl⟩
   ·have a2:List.isEmpty xs=false:=by cases xs with|nil=>exact absurd rfl y|cons _ _=>rfl
    rw[a2]at hc;cases j:blk st.bl st.nb with
    |some k=>rw[j]at hc;cases hc
    |none=>
    rw[j]at hc;refine⟨_,[],Hr st (.dyn t xs),hc,⟨rfl,rfl,rfl,rfl,rfl⟩,Nat.le_succ _,Bjh _ j,h.enters,λs m a as_ w vs q z d=>?_⟩;simp only[Reps]at d;obtain⟨v,_,rfl,⟨f,_⟩,rfl⟩:=d;obtain⟨us,n,a3⟩:=Q0 (x:=vx cx m s w) h f hn;refine a3.mono ?_;rintro en w' ⟨u,rfl,i,hu⟩;rcases hu with ⟨_,e⟩|⟨g2,cap,cur,rfl,⟨a4,a5⟩,hh,o,hle,hm,a6⟩
    ·exact absurd e y
    ·obtain⟨m',h1,h2⟩:=z.newAt (k:=.dyn t xs) (g:=g2) i a4 a5 (λx' nx hw=>Ai9 (n.later nx) (by rw[hw,nx.el];exact hh) o hle hm a6);rw[Ps st _ s q];refine⟨_,rfl,m',h1,?_⟩;simp only[Rep]at h2 ⊢;obtain⟨k1,k2⟩:=h2;simp at k2;have a7:st.nb=s.nb:=q.2.1.symm;rw[a7];have p:(vx cx m' { s with bl:=λb=>if b=s.nb then some (.dyn t xs)else s.bl b,nb:=s.nb+1 } w').m.bl s.nb=g2:=k2.symm;refine⟨k1,Int.le_refl _,Int.natCast_nonneg _,by have:=Nat.le_trans hle hm;omega,some ⟨g2,0,none⟩,cap,by simp,.inr (by rw[p];simp),by simpa using hle,hm,cur,(0,0),by rw[p];exact hh,by simpa using o⟩
  ·cases hc
 ·cases hc
theorem Bgh{α:Type}(l:Yb1 α):cut l 0 (0+((l.length:Nat):Int))=l:=by simp[cut]
variable{a:Act}{as_:Yb1 Act}{m:Mp}{xs:Yb1 (El c)}
theorem Bc2(h:Rel cx m a as_ (fs st) w){b cap:Nat}(hb:blk st.bl b=some (.dyn c xs))(j:w.heap[m.bl b]? = some (.cells cur (cx.el c) (0,0)))(g:cur.size=cap*csz c)(hle:xs.length<=cap)(hm:cap<=maxLen) :
  Rel cx m a as_ (fs { st with bl:=Br st.bl b }) w/\Rep (vx cx m (fs { st with bl:=Br st.bl b }) w) (.sl c xs .no) (.slice (some ⟨m.bl b,0,none⟩) xs.length cap):=by
 have hd:Rep (vx cx m (fs st) w) (.osl b c 0 ((xs.length:Nat):Int)) (.slice (some ⟨m.bl b,0,none⟩) xs.length cap):=by simp only[Rep];exact⟨(h.blks b _ hb).1,Int.le_refl _,Int.natCast_nonneg _,by have:=Nat.le_trans hle hm;omega,some ⟨m.bl b,0,none⟩,cap,by simp,.inr (by simp[vx]),by simpa using hle,hm,cur,(0,0),j,by simpa using g⟩
 have k:Bmz st.bl (.osl b c 0 ((xs.length:Nat):Int)) (λd bl=>some (d,bl))=some (.sl c xs .no,Br st.bl b):=by simp only[Bmz,hb];rw[Bgh];refine(B6c ?_);simp
 obtain⟨n,l,i,e,_,f,_⟩:=A08 h hd k;simp at i;obtain⟨rfl,rfl⟩:=i;exact⟨e,f⟩
variable{xs':Yb1 (El c)}
theorem Bud(r:Rel cx m a as_ (fs st) w){b cap:Nat}{e:Yb1 Value}(hb:blk st.bl b=some (.dyn c xs))(h:Chg (λq _=>q=m.bl b) w w')(l:w'.heap[m.bl b]? = some (.cells e.toArray (cx.el c) (0,0)))(n:e.length=cap*csz c)(f:Bf (vx cx m (fs st) w) c xs' (e.take (xs'.length*csz c)))(hle:xs'.length<=cap)(hm:cap<=maxLen) :
  ∃m',Rel cx m' a as_ (fs { st with bl:=Br st.bl b,nb:=st.nb+1 }) w'/\Rep (vx cx m' (fs { st with bl:=Br st.bl b,nb:=st.nb+1 }) w') (.sl c xs' .no) (.slice (some ⟨m.bl b,0,none⟩) xs'.length cap):=by
 have d:=r.write (k:=.dyn c xs') (b:=b) hb h (λx' o s=>Ai9 (f.later o) (by rw[s,o.el];exact l) (by simpa using n) hle hm (by simp));have t:fs { st with bl:=Du st.bl b (.dyn c xs') }={ fs st with bl:=λq=>if q=b then some (.dyn c xs')else(fs st).bl q }:=by
  refine FS.eq rfl rfl rfl rfl rfl ?_ rfl rfl rfl;funext q;show blk (Du st.bl b _) q=_;rw[E7];by_cases g:q=b
  ·subst g;simp[hb]
  ·simp[g];rfl
 rw[<-t]at d;have i:blk (Du st.bl b (.dyn c xs')) b=some (.dyn c xs'):=by rw[E7,if_pos rfl,hb];rfl
 obtain⟨j,p⟩:=Bc2 (st:={ st with bl:=Du st.bl b (.dyn c xs') }) d i l (by simpa using n) hle hm;have e2:fs { st with bl:=Br (Du st.bl b (.dyn c xs')) b }=fs { st with bl:=Br st.bl b }:=by refine FS.eq rfl rfl rfl rfl rfl ?_ rfl rfl rfl;funext q;show blk (Br (Du st.bl b _) b) q=blk (Br st.bl b) q;rw[Eu,Eu,E7];by_cases g:q=b<;>simp[g]
 have j:Rel cx m a as_ (fs { st with bl:=Br st.bl b }) w':=by rw[<-e2];exact j
 have u:=Rel.raise (st:={ st with bl:=Br st.bl b }) (nb:=st.nb+1) (nt:=st.nt) (Nat.le_succ _) (Zn1 _) j;refine⟨m,u,?_⟩;simp at p ⊢;refine⟨?_,trivial⟩;have v:(vx cx m (fs { st with bl:=Br (Du st.bl b (.dyn c xs')) b }) w').S=(vx cx m (fs { st with bl:=Br st.bl b,nb:=st.nb+1 }) w').S:=by show(vx cx m (fs { st with bl:=Br (Du st.bl b (.dyn c xs')) b }) w').S=(vx cx m (fs { st with bl:=Br st.bl b }) w').S;rw[e2]
 rw[<-v];exact p.1
theorem Bpm(u:Rel cx m a as_ (fs st) w){b cap:Nat}{d:Yb1 Value}(n:Chg C2 w w')(o:w.heap.size<=g)(p:w'.heap[g]? = some (.cells d.toArray (cx.el c) (0,0)))(v:d.length=cap*csz c)(h:Bf (vx cx m (fs st) w) c xs' (d.take (xs'.length*csz c)))(hle:xs'.length<=cap)(hm:cap<=maxLen) :
  ∃m',Rel cx m' a as_ (fs { st with bl:=Br st.bl b,nb:=st.nb+1 }) w'/\Rep (vx cx m' (fs { st with bl:=Br st.bl b,nb:=st.nb+1 }) w') (.sl c xs' .no) (.slice (some ⟨g,0,none⟩) xs'.length cap):=by
 obtain⟨m',x,r⟩:=u.newAt (k:=.dyn c xs') (g:=g) n o (Zh2.1 p).1 (λx' j hw=>Ai9 (h.later j) (by rw[hw,j.el];exact p) (by simpa using v) hle hm (by simp));rw[<-A7z]at x r;simp only[Rep]at r;have y:=r.2;simp at y;have i:m'.bl st.nb=g:=y.symm;have s:blk (Hr st (.dyn c xs')).bl st.nb=some (.dyn c xs'):=by show blk ((st.nb,_)::st.bl) st.nb=_;rw[Az,if_pos rfl]
 obtain⟨h3,z⟩:=Bc2 (st:=Hr st (.dyn c xs')) x s (by rw[i];exact p) (by simpa using v) hle hm;rw[i]at z;obtain⟨h5,j⟩:=h3.drop b;have h6:=Rep.later j _ _ z;have f:blk st.bl st.nb=none:=by cases hk:blk st.bl st.nb with|none=>rfl|some k=>exact absurd (u.blks st.nb k hk).1 (Nat.lt_irrefl _)
 have e:fs { { Hr st (.dyn c xs')with bl:=Br (Hr st (.dyn c xs')).bl st.nb }with bl:=Br (Br (Hr st (.dyn c xs')).bl st.nb) b }=fs { st with bl:=Br st.bl b,nb:=st.nb+1 }:=by
  refine FS.eq rfl rfl rfl rfl rfl ?_ rfl rfl rfl;funext q;show blk (Br (Br ((st.nb,_)::st.bl) st.nb) b) q=blk (Br st.bl b) q;rw[Eu,Eu,Eu,Az];by_cases t:q=b
  ·simp[t]
  ·rw[if_neg t,if_neg t];by_cases l:q=st.nb
   ·rw[if_pos l,l,f]
   ·rw[if_neg l,if_neg l]
 rw[e]at h5 h6;exact⟨m',h5,h6⟩
theorem Bfp(b:xs.length*csz c<=vs.length)(h:∀i y j d,xs[i]? = some y->(enc c y)[j]? = some d->∃u,vs[i*csz c+j]? = some u/\RF x.S x.w d u):Bf x c xs (vs.take (xs.length*csz c)):=by
 refine⟨by rw[List.length_take];exact Nat.min_eq_left b,λi y j d a hd=>?_⟩;obtain⟨u,e,f⟩:=h i y j d a hd;refine⟨u,?_,f⟩;have hi:i<xs.length:=(Zi2.1 a).1;have k:j<csz c:=by rw[<-B8 c y];exact(Zi2.1 hd).1
 have:i*csz c+j<xs.length*csz c:=by have g:(i+1)*csz c<=xs.length*csz c:=Nat.mul_le_mul_right _ hi;rw[Nat.add_mul]at g;omega
 rw[List.getElem?_take_of_lt this];exact e
theorem Bf.take(h:Bf x c xs vs)(k:Nat)(e:k<=xs.length):Bf x c (xs.take k) (vs.take (k*csz c)):=by
 have a:(xs.take k).length=k:=by rw[List.length_take];exact Nat.min_eq_left e
 have:=Bfp (x:=x) (c:=c) (xs:=xs.take k) (vs:=vs) (by rw[a,h.1];exact Nat.mul_le_mul_right _ e) (λi y j d b hd=>by
  rw[List.getElem?_take]at b;split at b
  ·exact h.2 i y j d b hd
  ·cases b)
 rwa[a]at this
theorem Bf.drop(h:Bf x c xs vs)(k:Nat):Bf x c (xs.drop k) (vs.drop (k*csz c)):=by refine⟨by rw[Za2,Za2,h.1,Nat.sub_mul],λi y j d a hd=>?_⟩;rw[List.getElem?_drop]at a;obtain⟨u,b,e⟩:=h.2 (k+i) y j d a hd;refine⟨u,?_,e⟩;rw[List.getElem?_drop,<-b];congr 1;rw[Nat.add_mul,Nat.add_assoc]
theorem Bnm{d:D}(h:FV w d (.tuple #[])):False:=by cases h
theorem Bvh{y:El c}{b o n cap:Nat}{cs:Array Value}{t:TypeId}(h:RF x.S x.w (.sl c (y::ys) .no) (.slice (some ⟨b,o,none⟩) n cap))(s:∀i,x.S g i)(d:x.w.heap[g]? = some (.cells cs t (0,0))):b≠g:=by
 intro e;subst e;have f:Chg x.S x.w (x.w.setRow b (List.replicate cs.size (.tuple #[])).toArray):=by have j:Sx.Chg [b] x.w (x.w.setRow b (List.replicate cs.size (.tuple #[])).toArray):=⟨rfl,rfl,rfl,by simp,λk _ v=>setRow_other x.w b k _ (by simpa using v)⟩;refine(M6 j (vs:=cs.toList) (us:=List.replicate cs.size (.tuple #[])) (t:=t) (by rw[Array.toArray_toList];exact d) (setRow_heap _ b _ _ t (0,0) d) (by simp)).mono λq i r=>?_;subst r;exact s i
 obtain⟨a',cap',e,z⟩:=(h _ f).slice;rcases z with e0|⟨b',o',rfl,_,l⟩
 ·cases e0
 ·simp at e;obtain⟨⟨rfl,rfl⟩,_⟩:=e;have m : 0<(enc c y).length:=by rw[B8];exact Ai4 c
  obtain⟨u,a,p⟩:=l 0 y rfl 0 _ (Zo1 m);simp only[World.cell?,(setRow_heap x.w b _ (List.replicate cs.size (Value.tuple #[])).toArray t (0,0) d)]at a;simp at a;have:u = .tuple #[]:=by obtain⟨r,a⟩:=Zh2.1 a;simp at a;exact a.symm
  subst this;exact Bnm p
structure InsOk (P:Program) (f:FuncId) (t:TypeId):Prop where
 enters:Sx.Enters P f
 con:∀(g n i cap vb vo vc:Nat) (cs ys:List Value),0<n->i<=n->n<=cap->cs.length=cap*2->(∀v,v∈cs.take (n*2)->Sx.one v=true)->ys.length=2->(∀v,v∈ys->Sx.one v=true)->vb≠g->n<=2000000 ->
  Sx.Con P f [.slice (some ⟨g,0,none⟩) n cap,.int .i64 i,.slice (some ⟨vb,vo,none⟩) 1 vc] [.blk g cs t] (λw=>∀(j:Nat) v,ys[j]? = some v->w.cell? ⟨vb,vo+j,none⟩=some v) (λv L _=>
   (∃cs',v = .slice (some ⟨g,0,none⟩) (n+1) cap/\n+1<=cap/\L=[.blk g cs' t]/\cs'.length=cs.length/\cs'.take ((n+1)*2)=cs.take (i*2)++ys++(cs.drop (i*2)).take ((n-i)*2)) \/
   (∃b cap' cs',v = .slice (some ⟨b,0,none⟩) (n+1) cap'/\n+1<=cap'/\cap'<=maxLen/\L=[.blk b cs' t,.blk g cs t]/\cs'.length=cap'*2/\cs'.take ((n+1)*2)=cs.take (i*2)++ys++(cs.drop (i*2)).take ((n-i)*2)))
 con0:∀(a:Option Addr) (vb vo vc:Nat) (ys:List Value),ys.length=2->(∀v,v∈ys->Sx.one v=true) ->
  Sx.Con P f [.slice a 0 0,.int .i64 0,.slice (some ⟨vb,vo,none⟩) 1 vc] [] (λw=>∀(j:Nat) v,ys[j]? = some v->w.cell? ⟨vb,vo+j,none⟩=some v) (λv L _=>∃b cap' cs',v = .slice (some ⟨b,0,none⟩) 1 cap'/\1<=cap'/\cap'<=maxLen/\L=[.blk b cs' t]/\cs'.length=cap'*2/\cs'.take 2=ys)
def Ajw(args:Yb1 D)(st:St)(K:Yb1 D->St->Ya1 R):Ya1 R:=match args with
 |[.osl b .idx p n,.int .i64 i,.sl .idx [y] _]=>match blk st.bl b with
  |some (.dyn .idx xs)=>chk (decide (p=0)&&decide (0<n)&&decide (n=(xs.length:Int))&&decide (0<=i)&&decide (i<=n)&&decide (n<=2000000)) (K [.sl .idx (xs.take i.toNat++y::xs.drop i.toNat) .no] { st with bl:=Br st.bl b,nb:=st.nb+1 })
  |_=>none
 |[.sl .idx [] .z,.int .i64 i,.sl .idx [y] _]=>chk (decide (i=0)) (K [.sl .idx [y] .no] st)
 |_=>none
theorem Atk{y:El .idx}{v:Value}(h:RF x.S x.w (.sl .idx [y] .no) v):∃vb vo vc us,v = .slice (some ⟨vb,vo,none⟩) 1 vc/\Bf x .idx [y] us/\us.length=2/\(∀z,z∈us->Sx.one z=true)/\∀(j:Nat) u,us[j]? = some u->x.w.cell? ⟨vb,vo+j,none⟩=some u:=by
 obtain⟨a,cap,us,rfl,c,d⟩:=F4 h;obtain⟨a',cap',e,f⟩:=B5 h;simp at e;rcases f with g|⟨b,o,i,_⟩
 ·cases g
 ·have k:=e.1.trans i;subst k;exact⟨b,o,cap,us,rfl,c,by rw[c.1];rfl,c.one,d b o rfl (by simp)⟩
theorem A9p(h:InsOk cx.P g (cx.el .idx))(hc:Ajw args st K=some r):I5 cx g args st K r:=by
 unfold Ajw at hc;split at hc
 ·rename_i b p n i y tk;split at hc
  ·rename_i xs hb;obtain⟨hk,hK⟩:=A2 hc;simp at hk;obtain⟨⟨⟨⟨⟨hp,hn⟩,s⟩,b7⟩,b9⟩,b5⟩:=hk;subst hp s;obtain⟨i,rfl⟩:∃k:Nat,i=k:=⟨i.toNat,by omega⟩;refine⟨h.enters,λm a as_ w vs hr d=>?_⟩;simp only[Reps]at d;obtain⟨v1,_,rfl,⟨ba,_,_,_,ad,cap,rfl,ar,hle,au,cur,f,a2,av⟩,v2,_,rfl,⟨rfl,_⟩,v3,_,rfl,⟨ac,_⟩,rfl⟩:=d;obtain⟨_,b6,vs,t,a7,aw,ax⟩:=hr.blks b _ hb;have a2:w.heap[m.bl b]? = some (.cells cur (cx.el .idx) f):=a2;have a7:w.heap[m.bl b]? = some (.cells vs.toArray t (0,0)):=a7;rw[a2]at a7;simp at a7;obtain⟨rfl,rfl,rfl⟩:=a7;obtain rfl:=ar.resolve_left (by omega);have ae:vs.length=cap*2:=by simpa[csz]using av
   simp at hle;have a3:=Bfp (x:=vx cx m (fs st) w) aw ax;obtain⟨vb,vo,vc,us,rfl,a4,ah,ai,l⟩:=Atk ac;have ay:(fs st).bl b≠none:=by rw[show(fs st).bl b=some _ from hb];simp
   have am:vb≠m.bl b:=Bvh (x:=vx cx m (fs st) w) ac (λ_=>.inr (.inl ⟨b,ay,rfl⟩)) a2;have az:∀v,v∈vs.take (xs.length*2)->Sx.one v=true:=a3.one;have b0:Sx.StOk ⟨cx.P,0,w,Sx.fps [.blk (m.bl b) vs (cx.el .idx)],[]⟩ [.blk (m.bl b) vs (cx.el .idx)] (λw=>∀(j:Nat) v,us[j]? = some v->w.cell? ⟨vb,vo+j,none⟩=some v) w:=by
    refine⟨Sx.Chg.refl _ _,λq hq=>?_,by simp[Sx.fps,Sx.Ent.fp],λq hq=>.inl hq,by simp,λw' b1 j v hj=>?_⟩
    ·simp at hq;subst hq;exact a2
    ·refine b1.cell (l j v hj) ?_;simpa[Sx.fps,Sx.Ent.fp]using am
   have d:([.slice (some ⟨m.bl b,(0:Int).toNat*csz .idx,none⟩) ((xs.length:Nat):Int).toNat cap,.int .i64 (i:Int),.slice (some ⟨vb,vo,none⟩) 1 vc]:Yb1 Value)=[.slice (some ⟨m.bl b,0,none⟩) xs.length cap,.int .i64 i,.slice (some ⟨vb,vo,none⟩) 1 vc]:=by simp
   show Calls cx.P g ([.slice (some ⟨m.bl b,(0:Int).toNat*csz .idx,none⟩) ((xs.length:Nat):Int).toNat cap,.int .i64 (i:Int),.slice (some ⟨vb,vo,none⟩) 1 vc]:Yb1 Value).toArray w _;rw[d];refine((h.con (m.bl b) xs.length i cap vb vo vc vs us (by omega) (by omega) hle ae az ah ai am (by omega)).run w [] b0).mono ?_;rintro en w' ⟨u,L',F',rfl,aj,hs⟩;have a5:Sx.Chg [m.bl b] w w':=by simpa[Sx.fps,Sx.Ent.fp]using hs.chg
   have an:i<=xs.length:=by omega
   have ag:Bf (vx cx m (fs st) w) .idx (xs.take i++y::xs.drop i) (vs.take (i*2)++us++(vs.drop (i*2)).take ((xs.length-i)*2)):=by
    have e3:=((a3.take i an).append a4).append (a3.drop i);rw[Zj1,List.singleton_append]at e3;have q1:(vs.take (xs.length*csz .idx)).take (i*csz .idx)=vs.take (i*2):=by rw[List.take_take,Nat.min_eq_left (Nat.mul_le_mul_right _ an)];rfl
    have q2:(vs.take (xs.length*csz .idx)).drop (i*csz .idx)=(vs.drop (i*2)).take ((xs.length-i)*2):=by rw[List.drop_take];show(vs.drop (i*2)).take (xs.length*2-i*2)=_;rw[<-Nat.sub_mul]
    rw[q1,q2]at e3;exact e3
   have s:(xs.take i++y::xs.drop i).length=xs.length+1:=by simp;omega
   simp at hK;rcases aj with ⟨cs',rfl,e,rfl,a8,a9⟩|⟨b',cap',cs',rfl,e,aa,rfl,a8,a9⟩
   ·have a6:w'.heap[m.bl b]? = some (.cells cs'.toArray (cx.el .idx) (0,0)):=hs.ok (.blk (m.bl b) cs' (cx.el .idx)) (by simp);obtain⟨m',k1,k2⟩:=Bud (c:=.idx) (xs':=xs.take i++y::xs.drop i) hr hb (M6 a5 a2 a6 a8) a6 (cap:=cap) (by rw[a8];exact ae) (by rw[s];show Bf _ _ _ (cs'.take ((xs.length+1)*2));rw[a9];exact ag) (by rw[s];exact e) au;rw[s]at k2;exact⟨_,rfl,_,_,m',hK,⟨rfl,rfl,rfl,rfl,rfl⟩,k1,k2⟩
   ·have a6:w'.heap[b']? = some (.cells cs'.toArray (cx.el .idx) (0,0)):=hs.ok (.blk b' cs' (cx.el .idx)) (by simp);have b2:w'.heap[m.bl b]? = some (.cells vs.toArray (cx.el .idx) (0,0)):=hs.ok (.blk (m.bl b) vs (cx.el .idx)) (by simp);have b3:b'≠m.bl b:=by have:=hs.nodup;simpa[Sx.fps,Sx.Ent.fp]using this
    have ak:w.heap.size<=b':=by
     rcases hs.own b' (by simp[Sx.fps,Sx.Ent.fp])with h1|h1
     ·exact absurd (by simpa[Sx.fps,Sx.Ent.fp]using h1) b3
     ·exact h1
    have ab:Chg C2 w w':=.of_blocks a5.os a5.tape a5.output a5.size λk hk=>by
     by_cases ao:k=m.bl b
     ·rw[ao,b2,a2]
     ·exact a5.block k hk (by simpa using ao)
    obtain⟨m',k1,k2⟩:=Bpm (b:=b) (c:=.idx) (xs':=xs.take i++y::xs.drop i) hr ab ak a6 (cap:=cap') a8 (by rw[s];show Bf _ _ _ (cs'.take ((xs.length+1)*2));rw[a9];exact ag) (by rw[s];exact e) aa;rw[s]at k2;exact⟨_,rfl,_,_,m',hK,⟨rfl,rfl,rfl,rfl,rfl⟩,k1,k2⟩
  ·cases hc
 ·rename_i i y tk;obtain⟨hk,hK⟩:=A2 hc;simp at hk;subst hk;refine⟨h.enters,λm a as_ w vs hr d=>?_⟩;simp only[Reps]at d;obtain⟨v1,_,rfl,⟨_,_,ad,rfl⟩,v2,_,rfl,⟨rfl,_⟩,v3,_,rfl,⟨ac,_⟩,rfl⟩:=d;obtain⟨vb,vo,vc,us,rfl,a4,ah,ai,l⟩:=Atk ac;refine((h.con0 ad vb vo vc us ah ai).run w [] (Ar5 λw' hb j v hj=>?_)).mono ?_
  ·have ap:=l j v hj;rw[World.cell?_of_block (a:=⟨vb,vo+j,none⟩) (hb vb (Ads ap))];exact ap
  ·rintro en w' ⟨u,L',F',rfl,⟨b',cap',cs',rfl,e,aa,rfl,a8,a9⟩,hs⟩;have ab:Chg C2 w w':=Vh (by simpa[Sx.fps]using hs.chg);have a6:w'.heap[b']? = some (.cells cs'.toArray (cx.el .idx) (0,0)):=hs.ok (.blk b' cs' (cx.el .idx)) (by simp);have ak:w.heap.size<=b':=by
    rcases hs.own b' (by simp[Sx.fps,Sx.Ent.fp])with h1|h1
    ·cases h1
    ·exact h1
   have nx:Nx (vx cx m (fs st) w) (vx cx m (fs st) w'):=⟨ab.mono (λ_ _ h=>h.elim),λb i hi=>.inl hi,rfl,λ_ _=>rfl,Zn1 _,Zn1 _,λt _ ha=>⟨ha,rfl,λg o hg=>ab.block g (hr.own_t ha hg) (λ_ h=>h)⟩⟩;refine⟨_,rfl,_,st,m,hK,⟨rfl,rfl,rfl,rfl,rfl⟩,hr.quiet ab,?_⟩;simp[Hh];refine⟨Ap1 (x:=vx cx m (fs st) w') (a4.later nx) ⟨e,aa⟩ (λj z hj=>?_) (λi _=>Avk hr ak i),trivial⟩;show w'.cell? _=_;simp[World.cell?,a6];rw[<-a9,List.getElem?_take]at hj;split at hj
   ·simpa using hj
   ·cases hj
 ·cases hc
end
section
variable {R:Type}{P:Program}{el:Ck->TypeId}{gl:Nat->Ya1 Gv}{tt:Nat->Ty}{cx:Cx}
variable{g:Nat}
theorem cCl(H:Hx P el gl tt cx)(h:ClOk P g (el c) (csz c))(a:Ank P g):Hg (R:=R) cx g (X5 c):=λ_ _ _ _ hc=>Bjf (by rw[H.p,H.e];exact h) (by rw[H.p];exact a) hc
theorem B6z(H:Hx P el gl tt cx)(h:ClOk P g (el c) (csz c))(a:Ank P g):F1 (R:=R) cx g (Ai8 c):=A7s (by rw[H.p,H.e];exact h) (by rw[H.p];exact a)
theorem B6s(H:Hx P el gl tt cx)(h:InsOk P g (el .idx)):Hg (R:=R) cx g Ajw:=λ_ _ _ _ hc=>A9p (by rw[H.p,H.e];exact h) hc
end
end Go.Ax
namespace Go.Sx
open Go.RowKit
section
variable {cx:Cx}{k:Yb1 KI}{e:Env}{L:Loc}{F:World->Prop}{Q:Exit->Act->World->Prop}{ops:Array Oper}{l:Yb1 Oper}{w:World}
theorem StOk.swap{x y:Ent}(h:StOk cx (x::L) F w)(b:y.fp=x.fp)(c:y.ok w):StOk cx (y::L) F w:=by
 have d:fps (y::L)=fps (x::L):=by simp[fps,b]
 refine⟨h.chg,?_,by rw[d];exact h.nodup,by rw[d];exact h.own,h.away,by rw[d];exact h.rob⟩;intro z a;simp at a;rcases a with rfl|a
 ·exact c
 ·exact h.ok z (Zu1 _ a)
variable{u:TypeId}
theorem StOk.blkrow{b:Nat}(sz:Nat)(h:StOk cx (.blk b [] u::L) F w):StOk cx (.row (.slice (some ⟨b,0,none⟩) 0 0) u sz 0 []::L) F w:=h.swap rfl ⟨by simp,.inr ⟨b,0, #[],rfl,Nat.zero_le _,h.ok _ Zr1,Zn1 _,Nat.zero_le _,by simp,by simp⟩⟩
theorem Ld{b:Nat}(sz:Nat)(h:O cx ops l k e (.row (.slice (some ⟨b,0,none⟩) 0 0) u sz 0 []::L) F Q):O cx ops l k e (.blk b [] u::L) F Q:=.mk λa w c d=>h.run a w c (d.blkrow sz)
variable{P:Program}{a:Ya1 Addr}{c:Nat}{t:TypeId}{t':TypeId}{x:Operand}{y:Operand}
theorem I7{n:Nat}(sz:Nat)(b:(elSz P t == some sz)=true)(d:Env.ev e x=some (.slice a n c))(f:Env.ev e y=some (.slice none 0 0)):Pure P e (.binOp .eql t x y t') (.bool a.isNone):=by obtain⟨u,g,_⟩:=Nl (n:=sz) (by simpa using b);refine p_bin d f (λw=>rfl) λw=>?_;have:=run_equal_slice_nil (P:=P) w t u a n c g;simp[binOp,this]
end
variable{P:Program}
theorem A0i(w:World)(k l ty elem:TypeId)(i0:TypeInfo)(g o c e:Nat)(a:Addr)(b d:Nat)(cur:Array Value)(t:TypeId)(cs:Yb1 Value)(m:P.underlying k=some (.slice elem))(hi:P.info? elem=some i0)
  (n:w.heap[g]? = some (.cells cur t (0,0))) (p:cs.length=Nat.min b c*i0.size) (f:∀j v,cs[j]? = some v->w.cell? (a.add j)=some v) (h:o+cs.length<=cur.size) (q:∀v∈cs,v.oneCell' = true) :
  (Builtin.copy_ #[k,l] ty #[.slice (some ⟨g,o,none⟩) c e,.slice (some a) b d]).run P w =
   .ok (goInt (Nat.min b c)) (w.setRow g (cur.toList.take o++cs++cur.toList.drop (o+cs.length)).toArray):=by
 have r:=run_firstCells_some (P:=P) w i0.size (Nat.min b c) a b d cs p f;have i:=run_storeCells_at P g o t cs 0 cur w n (by simpa using h) q;simp at i;simp[Builtin.copy_,run_underlying m,Builtin.lenOf,sizeOf,typeInfo,hi,r,i]
section
variable {cx:Cx}{k:Yb1 KI}{e:Env}{L:Loc}{F:World->Prop}{Q:Exit->Act->World->Prop}{ops:Array Oper}{rest:Yb1 Oper}
def Acf(cx:Cx)(L:Loc)(F:World->Prop)(b off:Nat)(zs:Yb1 Value):Prop:=∀w,StOk cx L F w->∀(j:Nat) v,zs[j]? = some v->w.cell? ⟨b,off+j,none⟩=some v
variable{cs:Yb1 Value}{t:TypeId}
theorem Aur{b off n:Nat}(i:Nat)(hi:L[i]? = some (.blk b cs t)):Acf cx L F b off ((cs.drop off).take n):=λw c j v a=>by
 refine Akx (c.ok _ (List.mem_of_getElem? hi)) ?_;rw[List.getElem?_take]at a;split at a
 ·grind
 ·cases a
theorem Bzu(w:World)(g:Nat)(cs:Array Value):Chg [g] w (w.setRow g cs):=⟨rfl,rfl,rfl,by simp,λk _ a=>setRow_other w g k cs (by simpa using a)⟩
variable{g:Nat}
theorem StOk.setRow{w:World}{cs':Yb1 Value}(h:StOk cx L F w)(i:Nat)(hi:L[i]? = some (.blk g cs t)):StOk cx (L.set i (.blk g cs' t)) F (w.setRow g cs'.toArray):=h.updAt i hi (Bzu w g _) (setRow_heap w g _ _ t (0,0) (h.ok _ (List.mem_of_getElem? hi))) (by simp[Ent.fp]) (λb hb=>.inl hb)
variable{by_:Nat}{dst:Nat}{g':Ya1 (Nat×Bool)}{m:Nat}{pos:String}{s:Operand}{sc:Nat}{sz:Nat}{t':TypeId}{ty:TypeId}{u:TypeId}{zs:Yb1 Value}
theorem A07{d:Operand}{l:TypeId}{c:Array Edge}{o dc b off sl:Nat}(i:Nat)(hg:Gd ops e g' = some true)(hd:Nat.blt dst cx.n=true)(hT:ElTy cx.P t u sz by_)
  (hx:Env.ev e d=some (.slice (some ⟨g,o,none⟩) m dc)) (hy:Env.ev e s=some (.slice (some ⟨b,off,none⟩) sl sc)) (hi:L[i]? = some (.blk g cs l)) (p:Acf cx L F b off zs) (hl:zs.length=Nat.min sl m*sz) (q:o+zs.length<=cs.length) (h1:∀v,v∈zs->one v=true)
  (h:O cx ops rest k ((dst,goInt (Nat.min sl m))::e) (L.set i (.blk g (cs.take o++zs++cs.drop (o+zs.length)) l)) F Q) :
  O cx ops (⟨some dst,.call ⟨.builtin .copy, #[d,s], #[t,t']⟩,ty,pos,c,g'⟩::rest) k e L F Q:=by
 refine Xe (λr L' F'=>r=goInt (Nat.min sl m)/\L' = L.set i (.blk g (cs.take o++zs++cs.drop (o+zs.length)) l)/\F' = F) hg hd (λa w he f=>?_) (λr L' F' ⟨hr,hL,hF⟩=>by rw[hr,hL,hF];exact h);obtain⟨hu,i0,z,y,hz,a2,a5,a6,a4⟩:=hT;have a3:w.heap[g]? = some (.cells cs.toArray l (0,0)):=f.ok _ (List.mem_of_getElem? hi);have x:=A0i (P:=cx.P) w t t' ty u i0 g o m dc ⟨b,off,none⟩ sl sc cs.toArray l zs hu y a3 (by rw[a2];exact hl) (λj v hj=>by rw[add_mk];exact p w f j v hj) (by simpa using q) (λv hv=>one_oneCell (h1 v hv));refine⟨_,_,_,F,?_,f.setRow (cs':=cs.take o++zs++cs.drop (o+zs.length)) i hi,rfl,rfl,rfl⟩;simp[execOp,resolve,invoke,builtin,he.ev hx,he.ev hy,x]
variable{f:Array Edge}{u':TypeId}
theorem Bke{d:Operand}{n cap b off:Nat}(i:Nat)(hg:Gd ops e g' = some true)(hd:Nat.blt dst cx.n=true)(hT:ElTy cx.P t u sz by_)
  (hx:Env.ev e d=some (.slice (some ⟨g,0,none⟩) n cap)) (hy:Env.ev e s=some (.slice (some ⟨b,off,none⟩) m sc)) (hi:L[i]? = some (.blk g cs u)) (q:Acf cx L F b off zs) (hl:zs.length=m*sz) (l:n+m<=cap) (x:n*sz+zs.length<=cs.length) (h1:∀v,v∈zs->one v=true) (_hu':u' = u)
  (h:O cx ops rest k ((dst,.slice (some ⟨g,0,none⟩) (n+m) cap)::e) (L.set i (.blk g (cs.take (n*sz)++zs++cs.drop (n*sz+zs.length)) u)) F Q) :
  O cx ops (⟨some dst,.call ⟨.builtin .append, #[d,s], #[t,t]⟩,ty,pos,f,g'⟩::rest) k e L F Q:=by
 refine Xe (λr L' F'=>r = .slice (some ⟨g,0,none⟩) (n+m) cap/\L' = L.set i (.blk g (cs.take (n*sz)++zs++cs.drop (n*sz+zs.length)) u)/\F' = F) hg hd (λa w he o=>?_) (λr L' F' ⟨hr,hL,hF⟩=>by rw[hr,hL,hF];exact h);obtain⟨hu,i0,z,y,hz,p,a4,a5,a3⟩:=hT;have a2:w.heap[g]? = some (.cells cs.toArray u (0,0)):=o.ok _ (List.mem_of_getElem? hi);have c:=run_append_room (P:=cx.P) w t ty u i0 hu y g n cap cs.toArray a2 ⟨b,off,none⟩ m sc zs (by rw[p];exact hl) (λj v hj=>by rw[add_mk];exact q w o j v hj) (λv hv=>one_oneCell (h1 v hv)) l (by rw[p];simpa using x);rw[p]at c;refine⟨_,_,_,F,?_,o.setRow (cs':=cs.take (n*sz)++zs++cs.drop (n*sz+zs.length)) i hi,rfl,rfl,rfl⟩;simp[execOp,resolve,invoke,builtin,he.ev hx,he.ev hy,c]
theorem Bhb{d:Operand}{n cap b off:Nat}(i:Nat)(hg:Gd ops e g' = some true)(hd:Nat.blt dst cx.n=true)(hT:ElTy cx.P t u sz by_)
  (hx:Env.ev e d=some (.slice (some ⟨g,0,none⟩) n cap)) (hy:Env.ev e s=some (.slice (some ⟨b,off,none⟩) m sc)) (hi:L[i]? = some (.blk g cs u')) (x:Acf cx L F b off zs) (hl:zs.length=m*sz) (hn:n*sz<=cs.length) (c:cap<n+m) (y:n+m<=maxLen) (a4:(n+m)*by_<=140737488355328)
  (h:∀b' q l,n+m<=q->q<=maxLen->l.length=(q-(n+m))*sz->O cx ops rest k ((dst,.slice (some ⟨b',0,none⟩) (n+m) q)::e) (.blk b' (cs.take (n*sz)++zs++l) u::L) F Q) :
  O cx ops (⟨some dst,.call ⟨.builtin .append, #[d,s], #[t,t]⟩,ty,pos,f,g'⟩::rest) k e L F Q:=by
 refine Xe (λr L' F'=>∃b' q l,n+m<=q/\q<=maxLen/\l.length=(q-(n+m))*sz/\r = .slice (some ⟨b',0,none⟩) (n+m) q/\L' = .blk b' (cs.take (n*sz)++zs++l) u::L/\F' = F) hg hd (λa w he o=>?_) (λr L' F' ⟨b',q,l,a1,a2,a3,hr,hL,hF⟩=>by rw[hr,hL,hF];exact h b' q l a1 a2 a3);obtain⟨hu,i0,z,a7,hz,a5,a8,a9,ab⟩:=hT;have aa:(Ent.blk g cs u').ok w:=o.ok _ (List.mem_of_getElem? hi);have a6:=run_append_grow (P:=cx.P) w t ty u i0 z hu a7 hz ⟨g,0,none⟩ n cap (cs.take (n*sz)) (by rw[a5,List.length_take];exact Nat.min_eq_left hn) (λj v p=>by
  rw[add_mk,Nat.zero_add];refine Akx aa ?_;rw[List.getElem?_take]at p;split at p
  ·exact p
  ·cases p) ⟨b,off,none⟩ m sc zs (by rw[a5];exact hl) (λj v p=>by rw[add_mk];exact x w o j v p) c (by simp[maxLen]at y;omega) (by rw[a8];exact growslice_fits c a4)
 refine⟨_,_,_,F,?_,(o.quiet (Chg.drew [] w)).alloc (cs.take (n*sz)++zs++(Builtin.zeroCells z.cells (grownCap w (n+m) cap u-(n+m))).toList) u,w.heap.size,grownCap w (n+m) cap u,_,(grownCap_ge w (n+m) cap u),grownCap_le_maxLen w _ _ _ y,?_,rfl,rfl,rfl⟩
 ·simp[execOp,resolve,invoke,builtin,he.ev hx,he.ev hy,a6];congr 3;apply Array.ext';simp
 ·simp[Builtin.zeroCells,a9]
theorem A9n{d:Operand}{a0:Ya1 Addr}{b off y:Nat}(hg:Gd ops e g' = some true)(hd:Nat.blt dst cx.n=true)(hT:ElTy cx.P t u sz by_)
  (hx:Env.ev e d=some (.slice a0 0 0)) (hy:Env.ev e s=some (.slice (some ⟨b,off,none⟩) m y)) (i:Acf cx L F b off zs) (hl:zs.length=m*sz) (hm : 0<m) (l:m<=maxLen) (o:m*by_<=140737488355328) (h1:∀v,v∈zs->one v=true)
  (h:∀b' q g,m<=q->q<=maxLen->g.length=(q-m)*sz->O cx ops rest k ((dst,.slice (some ⟨b',0,none⟩) m q)::e) (.blk b' (zs++g) u::L) F Q) :
  O cx ops (⟨some dst,.call ⟨.builtin .append, #[d,s], #[t,t]⟩,ty,pos,f,g'⟩::rest) k e L F Q:=by
 refine Xe (λr L' F'=>∃b' q g,m<=q/\q<=maxLen/\g.length=(q-m)*sz/\r = .slice (some ⟨b',0,none⟩) m q/\L' = .blk b' (zs++g) u::L/\F' = F) hg hd (λa w he x=>?_) (λr L' F' ⟨b',q,g,a1,a2,a3,hr,hL,hF⟩=>by rw[hr,hL,hF];exact h b' q g a1 a2 a3);obtain⟨hu,i0,z,a4,hz,a5,a6,a7,a9⟩:=hT;have a8:Src cx.P i0.size t (.slice (some ⟨b,off,none⟩) m y) m zs w:=Src.ofSlice w hu ⟨b,off,none⟩ m y zs (by rw[a5];exact hl) (λj v hj=>by rw[add_mk];exact i w x j v hj) (λv hv=>one_oneCell (h1 v hv));have hold:(Builtin.firstCells i0.size 0 (.slice a0 0 0)).run cx.P w.drew = .ok ([]:Yb1 Value).toArray w.drew:=by cases a0 with|none=>exact run_firstCells_none w.drew i0.size 0 0 0|some p=>exact run_firstCells_some w.drew i0.size 0 p 0 0 [] (by simp) (by simp)
 have c:=run_append_grow_src (P:=cx.P) w t t ty u i0 z hu a4 hz a0 0 0 [] hold _ m zs a8 (by omega) (by simp[maxLen]at l;omega) (by rw[a6];exact growslice_fits (by omega) (by simpa using o));rw[Nat.zero_add]at c;refine⟨_,_,_,F,?_,(x.quiet (Chg.drew [] w)).alloc (zs++(Builtin.zeroCells z.cells (grownCap w m 0 u-m)).toList) u,w.heap.size,grownCap w m 0 u,_,(grownCap_ge w m 0 u),grownCap_le_maxLen w _ _ _ l,?_,rfl,rfl,rfl⟩
 ·simp[execOp,resolve,invoke,builtin,he.ev hx,he.ev hy,c];congr 3;apply Array.ext';simp
 ·simp[Builtin.zeroCells,a7]
variable{c:Nat}{x:Operand}{y:Operand}
theorem Ael{ad:Ya1 Addr}(h:ElTy P t u sz by_)(i:Env.ev e x=some (.slice (some ⟨g,0,none⟩) 0 0))(j:Env.ev e y=some (.slice ad 0 c)):Pure P e (.call ⟨.builtin .append, #[x,y], #[t,t]⟩) (.slice (some ⟨g,0,none⟩) 0 0):=λn a w o d k=>by
 obtain⟨l,i0,z,b,s,m,p,q,f⟩:=h;have r:∀ty,(Builtin.append_ #[t,t] ty #[.slice (some ⟨g,0,none⟩) 0 0,.slice ad 0 c]).run P w = .ok (.slice (some ⟨g,0,none⟩) 0 0) w:=λty=>by cases ad<;>simp[ run_underlying l,go_sem,sizeOf,typeInfo,b,loadCells]
 simp[execOp,k,resolve,invoke,builtin,d.ev i,d.ev j,r]
theorem A9o{d:Operand}{tn:TypeId}{kn kq:IntKind}{n cap:Nat}{m:Int}(i:Nat)(hg:Gd ops e g' = some true)(hd:Nat.blt dst cx.n=true)(hT:ElTy cx.P t u sz by_)(aa:(match cx.P.underlying tn with|some (.int k')=>decide (k' = kn)|_=>false)=true)
  (hx:Env.ev e d=some (.slice (some ⟨g,0,none⟩) n cap)) (hy:Env.ev e s=some (.int kq m)) (hi:L[i]? = some (.blk g cs u')) (hm : 0<m) (hn:n*sz<=cs.length) (b:cap<n+m.toNat) (l:n+m.toNat<=maxLen) (c:(n+m.toNat)*by_<=140737488355328)
  (h:∀b' q o,n+m.toNat<=q->q<=maxLen->o.length=(q-n)*sz->O cx ops rest k ((dst,.slice (some ⟨b',0,none⟩) (n+m.toNat) q)::e) (.blk b' (cs.take (n*sz)++o) u::L) F Q) :
  O cx ops (⟨some dst,.call ⟨.builtin .append, #[d,s], #[t,tn]⟩,ty,pos,f,g'⟩::rest) k e L F Q:=by
 obtain⟨j,rfl⟩:∃j:Nat,m=j:=⟨m.toNat,by omega⟩;simp at b l c h;refine Xe (λr L' F'=>∃b' q o,n+j<=q/\q<=maxLen/\o.length=(q-n)*sz/\r = .slice (some ⟨b',0,none⟩) (n+j) q/\L' = .blk b' (cs.take (n*sz)++o) u::L/\F' = F) hg hd (λa w he p=>?_) (λr L' F' ⟨b',q,o,a1,a2,a3,hr,hL,hF⟩=>by rw[hr,hL,hF];exact h b' q o a1 a2 a3);obtain⟨hu,i0,z,a5,hz,a6,x,ab,a9⟩:=hT;have y:cx.P.underlying tn=some (.int kn):=by grind
 have a7:(Ent.blk g cs u').ok w:=p.ok _ (List.mem_of_getElem? hi);have hold:(Builtin.firstCells i0.size n (.slice (some ⟨g,0,none⟩) n cap)).run cx.P w.drew = .ok (cs.take (n*sz)).toArray w.drew:=run_firstCells_some (P:=cx.P) w.drew i0.size n ⟨g,0,none⟩ n cap (cs.take (n*sz)) (by rw[a6,List.length_take];exact Nat.min_eq_left hn) (λj v hj=>by
  rw[add_mk,Nat.zero_add];have hc:w.cell? ⟨g,j,none⟩=some v:=by
   refine Akx a7 ?_;rw[List.getElem?_take]at hj;split at hj
   ·exact hj
   ·cases hj
  simpa using hc)
 have a4:=Lib.run_append_grow_zeros (P:=cx.P) w t tn ty u i0 z kq kn hu y a5 hz (some ⟨g,0,none⟩) n cap (cs.take (n*sz)) hold j (by omega) (by omega) b (by simp[maxLen]at l;omega) (by rw[x];have:j*by_<=(n+j)*by_:=Nat.mul_le_mul_right _ (by omega);omega) (by rw[x];exact growslice_fits b c)
 have a8:=grownCap_ge w (n+j) cap u;refine⟨_,_,_,F,?_,(p.quiet (Chg.drew [] w)).alloc (cs.take (n*sz)++((Builtin.zeroCells z.cells j).toList++(Builtin.zeroCells z.cells (grownCap w (n+j) cap u-(n+j))).toList)) u,w.heap.size,grownCap w (n+j) cap u,_,a8,grownCap_le_maxLen w _ _ _ l,?_,rfl,rfl,rfl⟩
 ·simp[execOp,resolve,invoke,builtin,he.ev hx,he.ev hy,a4];congr 3;apply Array.ext';simp
 ·simp[ Builtin.zeroCells];rw[<-Nat.add_mul];congr 1;omega
variable{a:Ya1 Addr}
theorem Alu{n:Nat}(sz:Nat)(b:(elSz P t == some sz)=true)(d:Env.ev e x=some (.slice a n c)):Pure P e (.call ⟨.builtin .cap, #[x], #[t]⟩) (.int .i64 c):=λm a' w o f g=>by obtain⟨u,h,i⟩:=Nl (n:=sz) (by simpa using b);simp[execOp,g,resolve,invoke,builtin,f.ev d,Builtin.cap_,run_underlying h,goInt]
variable{j:Int}{z:Operand}
theorem A9j{n:Nat}{b:IntKind}(sz:Nat)(f:(elSz P t == some sz)=true)(g:Env.ev e x=some (.slice a n c))(i:Env.ev e z=some (.int b j))(h : 0<=j/\j<=n) :
  Pure P e (.slice t x (some z) none none) (.slice (if c=j.toNat then a else a.map (λp=>p.add (j.toNat*sz))) (n-j.toNat) (c-j.toNat)):=λr a' w o d k=>by
 obtain⟨u,l,m⟩:=Nl (n:=sz) (by simpa using f);have q:(Instr.sliceAt t (.slice a n c) (some (.int b j)) none none).run P w = .ok (.slice (if c=j.toNat then a else a.map (λp=>p.add (j.toNat*sz))) (n-j.toNat) (c-j.toNat)) w:=by simp[Instr.sliceAt,Instr.slice,Sem.run_bind,run_underlying l,Result.andThen_ok,Instr.sliceBounds,Instr.sliceBound,asIntOf,Sem.run_pure,if_pos h,run_sizeOf m]
 simp[execOp,k,Sem.run_bind,d.ev g,d.ev i,Zl2,Option.map_none,q,Result.andThen_ok,Sem.run_pure]
theorem O6{off n:Nat}{a:IntKind}(sz:Nat)(b:(elSz P t == some sz)=true)(d:Env.ev e x=some (.slice (some ⟨g,off,none⟩) n c))(f:Env.ev e z=some (.int a j))(h : 0<=j/\j<=n/\j<c) :
  Pure P e (.slice t x (some z) none none) (.slice (some ⟨g,off+j.toNat*sz,none⟩) (n-j.toNat) (c-j.toNat)):=by
 have:=A9j (P:=P) sz b d f ⟨h.1,h.2.1⟩;rw[if_neg (by omega),Zl2,add_mk]at this;exact this
end
end Go.Sx
namespace Go.Ax
variable{i:Nat}
theorem Abi{s:Str}(h:i<s.length):bat s (i:Int)=((s[i]'h).toNat:Int):=by simp[bat,List.getD_eq_getElem?_getD,h]
theorem Al{c:Ck}{xs:Yb1 (El c)}(h:i<xs.length):at' c xs (i:Int)=xs[i]'h:=by simp[at',List.getD_eq_getElem?_getD,h]
theorem Boo{n:Nat}(h:ln n):wr .i64 (n:Int)=(n:Int):=Be (by simp only[ln,inI]at *;omega)
theorem Am{n:Nat}(h:i<n)(a:ln n):wr .i64 ((i:Int)+1)=((i+1:Nat):Int):=by rw[Be (by simp only[ln,inI]at *;omega)];rfl
variable{α:Type}
theorem Ak{l:Yb1 α}(h:i<l.length):l.drop i=l[i]'h::l.drop (i+1):=List.drop_eq_getElem_cons h
theorem Ao{n:Nat}(h:i<n):inb (i:Int) n=true:=by simp[B01,h]
variable{R:Type}{V:Type}
theorem Au{step:(V->Ya1 R)->V->Ya1 R}{k:Nat}{v:V}:Aj step (k+1) v=step (Aj step k) v:=rfl
variable{a:α}
theorem Af{b:α}:cond true a b=a:=rfl
theorem Ag{b:α}:cond false a b=b:=rfl
theorem Aw{c:Bool}{b:α}:cond c (some a) (some b)=some (cond c a b):=by cases c<;>rfl
theorem Awk{px:Px R}{cx:Cx}{b:Code}(h:∀st K,px.loop b st K=none):Bp cx px b:=λst K r a=>by rw[h]at a;cases a
theorem Cb{V R β:Type}{step:(V->Ya1 R)->V->Ya1 R}(n:Nat)(st:Nat->β->V)(Inv:Nat->β->Prop)(F:Nat->β->Ya1 R)
  (d:∀i,i<n->∀a,Inv i a->∀b,(∀a',Inv (i+1) a'->b (st (i+1) a')=F (i+1) a')->step b (st i a)=F i a)
  (e:∀a,Inv n a->∀b,step b (st n a)=F n a):∀(k i:Nat) (a : β),i<=n->n-i<k->Inv i a->Aj step k (st i a)=F i a
 |0,_,_,_,h,_=>absurd h (Zm1 _)
 |k+1,i,a,hi,h,ha=>by
  rw[Au];by_cases f:i<n
  ·exact d i f a ha _ λa' c=>Cb n st Inv F d e k (i+1) a' (by omega) (by omega) c
  ·obtain rfl:i=n:=by omega
   exact e a ha _
theorem A3{step:(V->Ya1 R)->V->Ya1 R}(n:Nat)(st:Nat->V)(F:Nat->Ya1 R)
  (b:∀i,i<n->∀a,a (st (i+1))=F (i+1)->step a (st i)=F i) (c:∀a,step a (st n)=F n):∀(k i:Nat),i<=n->n-i<k->Aj step k (st i)=F i:=λk i hi d=>
 Cb n (λi (_:Unit)=>st i) (λ_ _=>True) (λi _=>F i) (λi hi _ _ a h=>b i hi a (h () trivial)) (λ_ _ a=>c a) k i () hi d trivial
theorem Cs{n:Nat}(h:i<n):decide ((i:Int)<(n:Int))=true:=Ze1 (by omega)
theorem C4(n:Nat):decide ((n:Int)<(n:Int))=false:=Zd1 (by omega)
def I3(e:Xpr):Xpr:=Xpr.mk e.kind ⟨e.v.kind,e.v.n,e.v.s⟩ e.name e.l
theorem Hz(e:Xpr):I3 e=e:=by cases e;rfl
open Go.RowKit
section
variable {R:Type}{px px2:Px R}{cx:Cx}
end
end Go.Ax
namespace Go.Sx
open Go.RowKit
section
variable {cx:Cx}{k:Yb1 KI}{e:Env}{L:Loc}{F:World->Prop}{Q:Exit->Act->World->Prop}{ops:Array Oper}{rest:Yb1 Oper}
theorem Aza{dst:Nat}{d s:Operand}{t v ty u:TypeId}{kn kq:IntKind}{pos:String}{f:Array Edge}{g':Ya1 (Nat×Bool)}{sz by_:Nat}{m:Int}(hg:Gd ops e g' = some true)(hd:Nat.blt dst cx.n=true)(hT:ElTy cx.P t u sz by_)(a5:(match cx.P.underlying v with|some (.int k')=>decide (k' = kn)|_=>false)=true)
  (hx:Env.ev e d=some (.slice none 0 0)) (hy:Env.ev e s=some (.int kq m)) (hm : 0<m) (g:m.toNat<=maxLen) (b:m.toNat*by_<=140737488355328)
  (h:∀b' q cs,m.toNat<=q->q<=maxLen->List.length cs=q*sz->O cx ops rest k ((dst,.slice (some ⟨b',0,none⟩) m.toNat q)::e) (.blk b' cs u::L) F Q) :
  O cx ops (⟨some dst,.call ⟨.builtin .append, #[d,s], #[t,v]⟩,ty,pos,f,g'⟩::rest) k e L F Q:=by
 obtain⟨j,rfl⟩:∃j:Nat,m=j:=⟨m.toNat,by omega⟩;simp at g b h;refine Xe (λr L' F'=>∃b' q cs,j<=q/\q<=maxLen/\List.length cs=q*sz/\r = .slice (some ⟨b',0,none⟩) j q/\L' = .blk b' cs u::L/\F' = F) hg hd (λa w he x=>?_) (λr L' F' ⟨b',q,cs,a1,a2,a3,hr,hL,hF⟩=>by rw[hr,hL,hF];exact h b' q cs a1 a2 a3);obtain⟨hu,i0,z,y,hz,a6,i,a7,a4⟩:=hT;have l:cx.P.underlying v=some (.int kn):=by grind
 have hold:(Builtin.firstCells i0.size 0 (.slice none 0 0)).run cx.P w.drew = .ok ([]:Yb1 Value).toArray w.drew:=by simp[Builtin.firstCells,Sem.run_pure]
 have c:=Lib.run_append_grow_zeros (P:=cx.P) w t v ty u i0 z kq kn hu l y hz none 0 0 [] hold j (by omega) (by omega) (by omega) (by simp[maxLen]at g;omega) (by rw[i];omega) (by rw[i];exact growslice_fits (by omega) (by simpa using b))
 have o:=grownCap_ge w (0+j) 0 u;have p:=grownCap_le_maxLen w (0+j) 0 u (by simpa using g);rw[Nat.zero_add]at o p c;refine⟨_,_,_,F,?_,(x.quiet (Chg.drew [] w)).alloc ((Builtin.zeroCells z.cells j).toList++(Builtin.zeroCells z.cells (grownCap w j 0 u-j)).toList) u,w.heap.size,grownCap w j 0 u,_,o,p,?_,rfl,rfl,rfl⟩
 ·simp[execOp,resolve,invoke,builtin,he.ev hx,he.ev hy,c];congr 3;apply Array.ext';simp
 ·simp[Builtin.zeroCells];rw[<-Nat.add_mul];congr 1;omega
end
end Go.Sx
namespace Go.Ax
open Go.RowKit
structure GrOk (P:Program) (f:FuncId) (t:TypeId) (sz:Nat):Prop where
 enters:Sx.Enters P f
 con:∀n:Int,0<n->n<=2000000->Sx.Con P f [.slice none 0 0,.int .i64 n] [] (λ_=>True) (λv L _=>∃b q cs,v = .slice (some ⟨b,0,none⟩) 0 q/\q<=maxLen/\List.length cs=q*sz/\L=[.blk b cs t])
 con0:Sx.Con P f [.slice none 0 0,.int .i64 0] [] (λ_=>True) (λv _ _=>v = .slice none 0 0)
section
variable {R:Type}{cx:Cx}
def Aao(c:Ck)(args:Yb1 D)(st:St)(K:Yb1 D->St->Ya1 R):Ya1 R:=match args with
 |[.sl c' [] .nil,.int .i64 n]=>match decide (c' = c)&&decide (0<=n)&&decide (n<=2000000)with|true=>K [.sl c' [] (.id st.nt)] (Ej st)|false=>none
 |_=>none
theorem B1x(st:St):fs (Ej st)={ fs st with al:=λt=>((fs st).al t/\(none:Ya1 Nat)≠some t)\/t=(fs st).nt,nt:=(fs st).nt+1 }:=by refine FS.eq rfl rfl rfl rfl rfl rfl rfl ?_ rfl;funext t;simp[fs,Ej];exact or_comm
variable{c:Ck}{g:Nat}
theorem Bs6(h:GrOk cx.P g (cx.el c) (csz c)){args:Yb1 D}{st:St}{K:Yb1 D->St->Ya1 R}{r:R}(hc:Aao c args st K=some r):I5 cx g args st K r:=by
 unfold Aao at hc;split at hc
 ·rename_i y n;split at hc
  ·rename_i i;simp at i;obtain⟨⟨rfl,a2⟩,hn⟩:=i;refine⟨h.enters,λm a as_ w vs z e=>?_⟩;simp only[Reps]at e;obtain⟨v1,_,rfl,⟨a3,s⟩,v2,_,rfl,j,rfl⟩:=e;obtain⟨rfl,_⟩:=s;simp only[Rep]at j;obtain⟨rfl,_⟩:=j;obtain rfl|hpos:n=0\/0<n:=by omega
   ·refine(h.con0.run w [] (Ar5 λ_ _=>trivial)).mono ?_;rintro en w' ⟨u,L',F',rfl,rfl,k⟩;have f:Chg C2 w w':=Vh (by simpa[Sx.fps]using k.chg);obtain⟨d,t⟩:=z.right (t0:=none) (p:=none) (f.mono (λ_ _ h=>h.elim)) (λg o l=>by simp at l);rw[<-B1x st]at d t;refine⟨_,rfl,_,_,_,hc,⟨rfl,rfl,rfl,rfl,rfl⟩,d,?_⟩;simp[Hh,Rep];exact⟨λ_ _=>.nil _ _ _ _ trivial,by simp[vx,fs,Ej],λ_=>.inl ⟨rfl,by simp[vx,fs],rfl⟩⟩
   ·refine((h.con n hpos hn).run w [] (Ar5 λ_ _=>trivial)).mono ?_;rintro en w' ⟨u,L',F',rfl,⟨b,q,cs,rfl,hq,hl,rfl⟩,k⟩;have f:Chg C2 w w':=Vh (by simpa[Sx.fps]using k.chg);have hh:w'.heap[b]? = some (.cells cs.toArray (cx.el y) (0,0)):=k.ok (.blk b cs (cx.el y)) (by simp);have v:w.heap.size<=b:=by
     rcases k.own b (by simp[Sx.fps,Sx.Ent.fp])with x|x
     ·cases x
     ·exact x
    obtain⟨d,t⟩:=z.right (t0:=none) (p:=some (b,0)) (f.mono (λ_ _ h=>h.elim)) (λg o l=>by simp at l;obtain⟨rfl,rfl⟩:=l;exact⟨(Zh2.1 hh).1,.inl v⟩)
    rw[<-B1x st]at d t;refine⟨_,rfl,_,_,_,hc,⟨rfl,rfl,rfl,rfl,rfl⟩,d,?_⟩;simp[Hh,Rep];exact⟨λ_ _=>.nil _ _ _ _ trivial,by simp[vx,fs,Ej],λ_=>.inr ⟨b,q,cs.toArray,rfl,by simp[vx,fs],hh,by simpa using hl,by simp,hq⟩⟩
  ·cases hc
 ·cases hc
theorem Aw7{P:Program}{el:Ck->TypeId}{gl:Nat->Ya1 Gv}{tt:Nat->Ty}(H:Hx P el gl tt cx)(h:GrOk P g (el c) (csz c)):Hg (R:=R) cx g (Aao c):=λ_ _ _ _ hc=>Bs6 (by rw[H.p,H.e];exact h) hc
end
end Go.Ax
namespace Go.Ax
section
variable {R:Type}{cx:Cx}
end
section
variable {R:Type}{P:Program}{el:Ck->TypeId}{gl:Nat->Ya1 Gv}{tt:Nat->Ty}{cx:Cx}
end
open Go.RowKit
section
variable {R:Type}{cx:Cx}
theorem Auu{k:Nat}{d:D}:∀{ps:Yb1 Nat}{ds:Yb1 D}{e b:Env},S6 ps ds e=some b->get b k=some d->(∃i,ps[i]? = some k/\ds[i]? = some d/\∀j:Nat,i<j->ps[j]? ≠ some k)\/(k∉ps/\get e k=some d)
 |[],[],e,b,h,hd=>by simp only[S6,Za1]at h;subst h;exact .inr ⟨by simp,hd⟩
 |p::ps,x::ds,e,b,h,hd=>by
  simp only[S6]at h;rcases Auu h hd with ⟨i,c,a,g⟩|⟨c,a⟩
  ·refine .inl ⟨i+1,by simpa using c,by simpa using a,λj l=>?_⟩;cases j with|zero=>omega|succ j=>simpa using g j (by omega)
  ·rw[Bl]at a;by_cases f:k=p
   ·rw[if_pos f]at a;subst f;refine .inl ⟨0,by simp,by simpa using a,λj l=>?_⟩;cases j with|zero=>omega|succ j=>simpa using λh=>c (List.mem_of_getElem? h)
   ·rw[if_neg f]at a;exact .inr ⟨by simp[f,c],a⟩
 |[],_::_,_,_,h,_=>by simp[S6]at h
 |_::_,[],_,_,h,_=>by simp[S6]at h
theorem Av8:∀{ps:Yb1 Nat}{ds:Yb1 D}{e a:Env},S6 ps ds e=some a->ps.length=ds.length
 |[],[],_,_,_=>rfl
 |p::ps,x::ds,e,a,h=>by simp only[S6]at h;simp[Av8 h]
 |[],_::_,_,_,h=>by simp[S6]at h
 |_::_,[],_,_,h=>by simp[S6]at h
theorem A6r:∀(ps:Yb1 Nat) (vs:Yb1 Value) (a:Array Value),ps.length=vs.length->((ps.zip vs).foldl (λt (p:Nat×Value)=>t.setIfInBounds p.1 p.2) a).size=a.size/\∀k,(k∉ps->((ps.zip vs).foldl (λt (p:Nat×Value)=>t.setIfInBounds p.1 p.2) a)[k]? = a[k]?)/\∀i v,ps[i]? = some k->vs[i]? = some v->(∀j:Nat,i<j->ps[j]? ≠ some k)->k<a.size->((ps.zip vs).foldl (λt (p:Nat×Value)=>t.setIfInBounds p.1 p.2) a)[k]? = some v
 |[],[],a,_=>⟨rfl,λk=>⟨λ_=>rfl,λi v h=>by simp at h⟩⟩
 |p::ps,x::vs,a,h=>by
  simp only[Zf1,Nat.add_right_cancel_iff]at h;obtain⟨l,c⟩:=A6r ps vs (a.setIfInBounds p x) h;simp only[List.zip_cons_cons,List.foldl_cons];refine⟨by rw[l];simp,λk=>⟨λd=>?_,λi v hi hv g b=>?_⟩⟩
  ·simp only[List.mem_cons,not_or]at d;rw[(c k).1 d.2,Array.getElem?_setIfInBounds_ne (Ne.symm d.1)]
  ·cases i with
   |zero=>
    simp only[List.getElem?_cons_zero,Za1]at hi hv;subst hi;subst hv;have m:p∉ps:=λhm=>by obtain⟨j,e,f⟩:=List.getElem_of_mem hm;exact g (j+1) (by omega) (by simp[e,f])
    rw[(c p).1 m];simp[b]
   |succ i=>refine(c k).2 i v (by simpa using hi) (by simpa using hv) (λj n=>?_) (by simpa using b);have:=g (j+1) (by omega);simpa using this
 |[],_::_,_,h=>by simp at h
 |_::_,[],_,h=>by simp at h
theorem Reps.at{x:Vx}{i:Nat}{d:D}:∀{ds:Yb1 D}{vs:Yb1 Value},Reps x ds vs->ds[i]? = some d->∃v,vs[i]? = some v/\Rep x d v
 |[],vs,_,h=>by simp at h
 |e::ds,vs,hr,h=>by simp only[Reps]at hr;obtain⟨u,us,rfl,a,b⟩:=hr;cases i with|zero=>simp at h;subst h;exact⟨u,by simp,a⟩|succ i=>obtain⟨v,c,f⟩:=Reps.at (i:=i) b (by simpa using h);exact⟨v,by simpa using c,f⟩
variable{a:Act}{as_:Yb1 Act}{k:Blk}{k0:Blk}{m:Mp}{st:St}{w:World}
theorem Rel.setBlk(h:Rel cx m a as_ (fs st) w){b:Nat}{o o':Obj}(hb:blk st.bl b=some k0)(d:w.heap[m.bl b]? = some o)(hc:∀cs t f,o ≠ .cells cs t f)(g:∀x',Nx (vx cx m (fs st) w) x'->x'.w=w.putObj (m.bl b) o'->Gn x' (m.bl b) k):Rel cx m a as_ (fs { st with bl:=Du st.bl b k }) (w.putObj (m.bl b) o'):=by
 have i:=h.write (k:=k) (b:=b) hb (w':=w.putObj (m.bl b) o') (Chg.putObj (λ_=>rfl) d hc) g;have e:fs { st with bl:=Du st.bl b k }={ fs st with bl:=λc=>if c=b then some k else(fs st).bl c }:=by refine FS.eq rfl rfl rfl rfl rfl ?_ rfl rfl rfl;funext c;simp[fs,E7,hb]
 rw[e];exact i
variable{fr:Yb1 Fr}{g:Nat}
theorem Rel.pinned{b nb nt:Nat}(h:Rel cx m a ({ tmps:= #[.pointer (some ⟨g,0,none⟩)],defers:=[] }::as_) (fs st) w)(e:st.fr=⟨1,[(0,.ptr b 0)],nb,nt,[]⟩::fr):m.bl b=g:=by have c:=h.frs;rw[show(fs st).fr=⟨1,[(0,.ptr b 0)],nb,nt,[]⟩::fr from e]at c;obtain⟨a0,i,d,_,_,f,_⟩:=c;simp only[Ze2]at d;obtain⟨rfl,rfl⟩:=d;obtain⟨v,v1,v2⟩:=f.get 0 (.ptr b 0) rfl;simp only[Rep]at v2;obtain⟨_,v2⟩:=v2;simp at v1;rw[<-v1]at v2;simp at v2;exact v2.symm
variable{K:D->St->Ya1 R}{P:Code->Code->Nat->Prop}{ds:Yb1 D}{r:R}
theorem A2v{pc:Px R}(hp:PxOk cx pc)(ak:C6 cx pc)(am:CallQOk cx pc)(hm:cx.P.follows .mixedOrders=true)(hP:∀asg body n,P asg body n->Bw n asg=true/\Bw n body=true/\(∀l,B0 (some l) asg=true/\B0 (some l) body=true)/\(∀b,b∈A8 asg->Bp cx pc b)/\∀b,b∈A8 body->Bp cx pc b){b:Nat}(an:∀s n ps asg body env,blk st.bl b=some (.lr s n ps asg body env)->P asg body n)(h:Bfm pc b ds st K=some r)(m:Mp)(a:Act)(as_:Yb1 Act)(w:World)(vs:Yb1 Value)(g:Rel cx m a as_ (fs st) w)(ao:Reps (vx cx m (fs st) w) ds vs) :
  ∃fn tmps asg body,(Instr.yield (m.bl b) vs.toArray).run cx.P w = .ok (.round (m.bl b) fn tmps asg body) w/\RoundIn Fence.wide 0 cx.P (m.bl b) fn tmps asg body w λen w'=>∃v,en = .returned v/\∃d st' m',K d st' = some r/\Ae7 st st'/\Rel cx m' a as_ (fs st') w'/\Rep (vx cx m' (fs st') w') d v:=by
 unfold Bfm at h;split at h
 ·rename_i n ps asg body env hb;obtain⟨c1,c2,c3,c4,c5⟩:=hP _ _ _ (an _ _ _ _ _ _ hb);split at h
  ·rename_i ap ar au;obtain⟨rc,g1,g2,g3,g4,g5,g6⟩:=(g.blks b _ hb).2;obtain⟨q1,q2⟩:=g6 rfl;have bc:=Av8 ar;have bf:=ao.len;have g1:w.heap[m.bl b]? = some (.loop rc):=g1;refine⟨_,_,_,_,run_yield g1 (by rw[g2];simp;omega),?_⟩;have ab:((rc.params.zip vs.toArray).foldl (λtmps (x:Tmp×Value)=>tmps.setIfInBounds x.1 x.2) rc.tmps)=((ps.zip vs).foldl (λt (p:Nat×Value)=>t.setIfInBounds p.1 p.2) rc.tmps):=by rw[g2];simp
   obtain⟨f1,f2⟩:=A6r ps vs rc.tmps (by omega);have av:rc.tmps.size=n:=g5.size;have b2:b<st.nb:=(g.blks b _ hb).1;have aw:Rel cx m { tmps:=(ps.zip vs).foldl (λt (p:Nat×Value)=>t.setIfInBounds p.1 p.2) rc.tmps,defers:=[] } ({ tmps:= #[.pointer (some ⟨m.bl b,0,none⟩)],defers:=[] }::a::as_) (fs { st with n:=n,env:=ap,lb:=st.nb,lt:=st.nt,fr:=⟨1,[(0,.ptr b 0)],st.nb,st.nt,[]⟩::⟨st.n,st.env,st.lb,st.lt,st.df⟩::st.fr,df:=[] }) w:=by
    refine⟨g.chg,⟨rfl,by rw[f1];exact av,λk d hk=>?_⟩,⟨_,_,rfl,Zn1 _,Zn1 _,⟨rfl,rfl,λk d hk=>?_⟩,⟨a,as_,rfl,g.lb,g.lt,g.env,g.frs⟩⟩,Zn1 _,Zn1 _,g.blks,g.als,g.inj,g.injt,g.injbt,g.own,g.away,g.glb⟩
    rotate_left
    ·rw[Bl]at hk;split at hk
     ·rename_i b3;simp only[Za1]at hk;subst hk;subst b3;exact⟨_,rfl,by simp only[Rep];exact⟨b2,rfl⟩⟩
     ·simp[get]at hk
    rcases Auu ar hk with ⟨i,i1,i2,i3⟩|⟨i1,i2⟩
    ·obtain⟨v,v1,v2⟩:=Reps.at ao i2;have b5:k<rc.tmps.size:=by have:=Zg2.1 au k (List.mem_of_getElem? i1);rw[av];simpa[Nat.blt_eq]using this
     exact⟨v,(f2 k).2 i v i1 v1 i3 b5,v2⟩
    ·obtain⟨v,v1,v2⟩:=g5.get k d i2;exact⟨v,by rw[(f2 k).1 i1];exact v1,v2⟩
   rw[ab,g3,g4];refine roundIn_of_wpIn (F:=Fence.wide) trivial (Ec (ro:=some (m.bl b)) hp ak am hm asg _ _ r c1 (c3 _).1 c4 h _ m _ _ w aw ?_);intro e st1 m1 a1 w1 ac ae j;split at ac
   ·rename_i n1 ax a8 z a9 ay;have e1:m1.bl b=m.bl b:=j.pinned ae.2;obtain⟨ag,k1,k2,k3,k4,k5,k6⟩:=(j.blks b _ ay).2;have k1:w1.heap[m1.bl b]? = some (.loop ag):=k1;obtain⟨q3,q4⟩:=k6 rfl;refine⟨_,run_beginRound (by rw[<-e1];exact k1) q3,?_⟩;rw[<-e1];have ah:=j.setBlk (k:=.lr 1 n1 ax a8 z a9) (o':=.loop { ag with state:=.busy }) ay k1 (by simp) (λx' hx hw=>⟨{ ag with state:=.busy },by rw[hw];exact World.putObj_heap_same (Zh2.1 k1).1,k2,k3,k4,k5.later hx,nofun⟩);have b6:st1.n=n:=ae.1;refine Ec (ro:=some (m1.bl b)) hp ak am hm body _ _ r (by rw[show(St.mk st1.n st1.env st1.lb st1.lt st1.fr (Du st1.bl b (.lr 1 n1 ax a8 z a9)) st1.nb st1.tk st1.nt st1.df).n=n from b6];exact c2) (c3 _).2 c5 ac _ m1 _ _ _ ah ?_;intro e2 st2 q a2 w2 a4 b7 o;have a5:st2.fr=⟨1,[(0,.ptr b 0)],st.nb,st.nt,[]⟩::⟨st.n,st.env,st.lb,st.lt,st.df⟩::st.fr:=b7.2.trans ae.2;have a7:q.bl b=m1.bl b:=(o.pinned a5).trans e1.symm;split at a4
    ·rename_i bg f fr n2 bh bd b9 be bi ai az;rw[a5]at ai;simp only[Ze2]at ai;obtain⟨rfl,rfl,rfl⟩:=ai;obtain⟨aj,j1,j2,j3,j4,j5,_⟩:=(o.blks b _ az).2;have j1:w2.heap[q.bl b]? = some (.loop aj):=j1;have fin:∀(kb:Blk) (o':Obj),(∀x',Nx (vx cx q (fs st2) w2) x'->x'.w=w2.putObj (q.bl b) o'->Gn x' (q.bl b) kb)->Rel cx q a as_ (fs { st2 with n:=st.n,env:=st.env,lb:=st.lb,lt:=st.lt,fr:=st.fr,df:=st.df,bl:=Du st2.bl b kb }) (w2.putObj (q.bl b) o'):=λkb o' ba=>by have y:=o.setBlk (k:=kb) (o':=o') az j1 (by simp) ba;have aa:=y.frs;rw[show(fs { st2 with bl:=Du st2.bl b kb }).fr=⟨1,[(0,.ptr b 0)],st.nb,st.nt,[]⟩::⟨st.n,st.env,st.lb,st.lt,st.df⟩::st.fr from a5]at aa;obtain⟨a0,r0,b0,p1,p2,_,⟨a3,r3,b1,p3,p4,p5,p6⟩⟩:=aa;simp only[Ze2]at b0;obtain⟨_,rfl⟩:=b0;simp only[Ze2]at b1;obtain⟨rfl,rfl⟩:=b1;have l1:st.nb<=st2.nb:=Nat.le_trans p1 y.lb;have l2:st.nt<=st2.nt:=Nat.le_trans p2 y.lt;have hx:Nx { vx cx q (fs { st2 with bl:=Du st2.bl b kb }) (w2.putObj (q.bl b) o')with nb:=st.nb,nt:=st.nt } (vx cx q (fs { st2 with bl:=Du st2.bl b kb }) (w2.putObj (q.bl b) o')):=⟨Chg.refl _ _,λ_ _ h=>.inl h,rfl,λ_ _=>rfl,l1,l2,λt _ ha=>⟨ha,rfl,λ_ _ _=>rfl⟩⟩;exact⟨y.chg,p5.later hx,p6,Nat.le_trans p3 l1,Nat.le_trans p4 l2,y.blks,y.als,y.inj,y.injt,y.injbt,y.own,y.away,y.glb⟩
     split at a4
     ·refine⟨_,_,run_endRound none (by rw[<-a7];exact j1),_,rfl,_,_,q,a4,⟨rfl,rfl,rfl,rfl,rfl⟩,?_,by simp[Rep]⟩;rw[<-a7];exact fin _ _ λx' hx hw=>⟨{ aj with state:=.ready,pending:=none },by rw[hw];exact World.putObj_heap_same (Zh2.1 j1).1,j2,j3,j4,j5.later hx,λ_=>⟨rfl,rfl⟩⟩
     ·rename_i bb;have a6:∀c,Pi e2=Pi e2->c=A9k e2->∃v w',(Instr.endRound (m1.bl b) (some c)).run cx.P w2 = .ok v w'/\∃u,Ending.returned v = .returned u/\∃d st' m',K d st' = some r/\Ae7 st st'/\Rel cx m' a as_ (fs st') w'/\Rep (vx cx m' (fs st') w') d u:=λc _ hc=>by refine⟨_,_,run_endRound (some c) (by rw[<-a7];exact j1),_,rfl,_,_,q,a4,⟨rfl,rfl,rfl,rfl,rfl⟩,?_,by simp[Rep]⟩;rw[<-a7];exact fin _ _ λx' hx hw=>⟨{ aj with state:=.done,pending:=some c },by rw[hw];exact World.putObj_heap_same (Zh2.1 j1).1,rfl,by rw[hc]⟩
      cases e2 with|normal=>exact absurd rfl bb|exit id=>exact a6 _ rfl rfl|ret=>exact a6 _ rfl rfl
    ·cases a4
   ·cases ac
  ·cases h
 ·cases h
theorem Rel.relab(h:Rel cx m a as_ (fs st) w){b:Nat}(hb:blk st.bl b=some k0)(d:Gn (vx cx m (fs st) w) (m.bl b) k):Rel cx m a as_ (fs { st with bl:=Du st.bl b k }) w:=by
 have f:=h.write (k:=k) (b:=b) hb (w':=w) (Chg.refl _ _) (λx' g i=>d.later g (by rw[i];rfl));have e:fs { st with bl:=Du st.bl b k }={ fs st with bl:=λc=>if c=b then some k else(fs st).bl c }:=by refine FS.eq rfl rfl rfl rfl rfl ?_ rfl rfl rfl;funext c;simp[fs,E7,hb]
 rw[e];exact f
theorem A6p{f:Px R}(hp:PxOk cx f)(g:C6 cx f)(o:CallQOk cx f)(hm:cx.P.follows .mixedOrders=true)(hP:∀asg body n,P asg body n->Bw n asg=true/\Bw n body=true/\(∀l,B0 (some l) asg=true/\B0 (some l) body=true)/\(∀b,b∈A8 asg->Bp cx f b)/\∀b,b∈A8 body->Bp cx f b){b:Nat}(u:∀s n ps asg body env,blk st.bl b=some (.lr s n ps asg body env)->P asg body n)(x:∀j n ps asg body env q,blk st.bl b=some (.lx j n ps asg body env q)->P asg body n)(h:Bfb f b ds st K=some r)(m:Mp)(a:Act)(as_:Yb1 Act)(w:World)(vs:Yb1 Value)(hr:Rel cx m a as_ (fs st) w)(y:Reps (vx cx m (fs st) w) ds vs) :
  ∃fn tmps asg body,(Instr.yield (m.bl b) vs.toArray).run cx.P w = .ok (.round (m.bl b) fn tmps asg body) w/\RoundIn Fence.wide 0 cx.P (m.bl b) fn tmps asg body w λen w'=>∃v,en = .returned v/\∃d st' m',K d st' = some r/\Ae7 st st'/\Rel cx m' a as_ (fs st') w'/\Rep (vx cx m' (fs st') w') d v:=by
 unfold Bfb at h;split at h
 ·rename_i j n ps asg body env q hb;obtain⟨h0,h⟩:=A2 h;have h0:=of_decide_eq_true h0;obtain⟨rc,g1,g2,g3,g4,g5,g6⟩:=(hr.blks b _ hb).2.2.1 h0;have a2:=hr.relab hb (k:=.lr 0 n ps asg body env) ⟨rc,g1,g2,g3,g4,g5,λ_=>g6⟩;have a3:blk (Du st.bl b (.lr 0 n ps asg body env)) b=some (.lr 0 n ps asg body env):=by simp[E7,hb]
  refine A2v hp g o hm hP (λs n1 a8 a6 a4 a7 h1=>?_) h m a as_ w vs a2 ?_
  ·simp only at h1;rw[a3]at h1;simp only[Za1,Blk.lr.injEq]at h1;obtain⟨rfl,rfl,rfl,rfl,rfl,rfl⟩:=h1;exact x _ _ _ _ _ _ _ hb
  ·refine Reps.later ?_ _ _ y;exact⟨Chg.refl _ _,λc i hi=>.inl (by
    rcases hi with hM|⟨p,a5,rfl⟩|hh
    ·exact .inl hM
    ·refine .inr (.inl ⟨p,λe=>?_,rfl⟩);have e:blk st.bl p=none:=e;by_cases z:p=b
     ·subst z;rw[hb]at e;cases e
     ·apply a5;show blk (Du st.bl b _) p=none;simp[E7,z,e]
    ·exact .inr (.inr hh)),rfl,λ_ _=>rfl,Zn1 _,Zn1 _,λt _ ha=>⟨ha,rfl,λ_ _ _=>rfl⟩⟩
 ·exact A2v hp g o hm hP u h m a as_ w vs hr y
theorem F6(l:Nat):∀c:Code,B0 (some l) c=B0 (some 0) c
 |.region _ os _=>by
  have h:∀o,Ais (some l) o=Ais (some 0) o:=λo=>by unfold Ais;cases o.op<;>rfl
  simp only[B0,h]
 |.seq a b=>by simp only[B0,F6 l a,F6 l b]
 |.cond _ a b=>by simp only[B0,F6 l a,F6 l b]
 |.block _ b=>by simp only[B0,F6 l b]
 |.loop _|.scope _|.rangeFunc _ _ _ _|.skip|.ret|.exit _|.label _|.goto _|.refuse _=>by simp only[B0]
theorem D6:∀c:Code,B0 (some 0) c=true->A8 c=[]
 |.seq a b,h=>by simp only[B0,Zb1]at h;simp[A8,D6 a h.1,D6 b h.2]
 |.cond _ a b,h=>by simp only[B0,Zb1]at h;simp[A8,D6 a h.1,D6 b h.2]
 |.block _ b,h=>by simp only[B0]at h;simp[A8,D6 b h]
 |.loop _,h|.scope _,h|.rangeFunc _ _ _ _,h=>by cases h
 |.region _ _ _,_|.skip,_|.ret,_|.exit _,_|.label _,_|.goto _,_|.refuse _,_=>rfl
def Aym(a:Px R)(b:Nat)(ds:Yb1 D)(st:St)(K:D->St->Ya1 R):Ya1 R:=match blk st.bl b with
 |some (.lr _ n _ asg body _)=>match Bw n asg&&Bw n body&&B0 (some 0) asg&&B0 (some 0) body with|true=>Bfb a b ds st K|false=>none
 |some (.lx _ n _ asg body _ _)=>match Bw n asg&&Bw n body&&B0 (some 0) asg&&B0 (some 0) body with|true=>Bfb a b ds st K|false=>none
 |_=>none
variable{px:Px R}
theorem Aws{u:Px R}(z:PxOk cx u)(i:C6 cx u)(k:CallQOk cx u)(hm:cx.P.follows .mixedOrders=true)(hy:px.yld=Aym u):Bwi cx px:=by
 intro b ds st K r h m a as_ w vs hr o;rw[hy]at h;unfold Aym at h;split at h
 ·rename_i s n ps asg body env hb;split at h
  ·rename_i hc;simp only[Zb1]at hc;refine A6p z i k hm (P:=λasg body n=>Bw n asg=true/\Bw n body=true/\B0 (some 0) asg=true/\B0 (some 0) body=true) (λasg body n ⟨v,x,p,t⟩=>⟨v,x,λl=>⟨by rw[F6];exact p,by rw[F6];exact t⟩,(λb hb=>by rw[D6 _ p]at hb;cases hb),(λb hb=>by rw[D6 _ t]at hb;cases hb)⟩) (λs' y g e d f c=>?_) (λj' y g e d f q' c=>by rw[hb]at c;cases c) h m a as_ w vs hr o;rw[hb]at c;simp only[Za1,Blk.lr.injEq]at c;obtain⟨rfl,rfl,rfl,rfl,rfl,rfl⟩:=c;exact⟨hc.1.1.1,hc.1.1.2,hc.1.2,hc.2⟩
  ·cases h
 ·rename_i j n ps asg body env q hb;split at h
  ·rename_i hc;simp only[Zb1]at hc;refine A6p z i k hm (P:=λasg body n=>Bw n asg=true/\Bw n body=true/\B0 (some 0) asg=true/\B0 (some 0) body=true) (λasg body n ⟨v,x,p,t⟩=>⟨v,x,λl=>⟨by rw[F6];exact p,by rw[F6];exact t⟩,(λb hb=>by rw[D6 _ p]at hb;cases hb),(λb hb=>by rw[D6 _ t]at hb;cases hb)⟩) (λs' y g e d f c=>by rw[hb]at c;cases c) (λj' y g e d f q' c=>?_) h m a as_ w vs hr o;rw[hb]at c;simp only[Za1,Blk.lx.injEq]at c;obtain⟨rfl,rfl,rfl,rfl,rfl,rfl,rfl⟩:=c;exact⟨hc.1.1.1,hc.1.1.2,hc.1.2,hc.2⟩
  ·cases h
 ·cases h
end
def trim(n:Nat)(e:Env):Env:=(List.range n).filterMap λk=>match get e k with|some d=>some (k,d)|none=>none
section
variable {R:Type}
def Ahx(a:Nat->Ya1 Func)(px:Px R):Yb1 D->St->(St->Ya1 R)->Ya1 R
 |[],st,K=>K st
 |.ptr b _::l,st,K=>match blk st.bl b with
  |some (.ob 0)=>Ahx a px l { st with bl:=Du st.bl b (.ob 2),df:=l } K
  |_=>none
 |.fn f caps::l,st,K=>match a f with
  |some fn=>match fn.body with
   |some c=>match Nat.ble caps.length fn.ntmps with
    |true=>Hi px c { st with n:=fn.ntmps,env:=D3 0 caps,lb:=st.nb,lt:=st.nt,fr:=⟨st.n,st.env,st.lb,st.lt,l⟩::st.fr,df:=[] } λe st'=>match e with
     |.exit _=>none
     |_=>match st'.df,results px st' fn.results.toList,st'.fr with
      |[],some _,fr0::fr=>Ahx a px l { st' with n:=fr0.n,env:=fr0.env,lb:=fr0.lb,lt:=fr0.lt,fr:=fr,df:=fr0.df } K
      |_,_,_=>none
    |false=>none
   |none=>none
  |none=>none
 |_,_,_=>none
def A2e(bl:Yb1 (Nat×Blk)):Yb1 D->(Yb1 D->Yb1 (Nat×Blk)->Ya1 R)->Ya1 R|[],K=>K [] bl|.agg ds::l,K=>Bt1 bl ds λb c=>A2e c l λe a=>K (.agg b::e) a|d::l,K=>A2e bl l λe a=>K (d::e) a
def A9r(b:Nat->Ya1 Func)(px:Px R)(fn:Func)(args:Yb1 D)(st:St)(K:Yb1 D->St->Ya1 R):Ya1 R:=match fn.body,Nat.ble args.length fn.ntmps with
 |some c,true=>A2e st.bl args λa d=>Hi px c { st with n:=fn.ntmps,env:=D3 0 a,lb:=st.nb,lt:=st.nt,fr:=⟨st.n,st.env,st.lb,st.lt,st.df⟩::st.fr,bl:=d,df:=[] } λe st'=>match e with
  |.exit _=>none
  |_=>Ahx b px st'.df st' λst2=>match results px st2 fn.results.toList,st2.fr with
   |some rs,f::fr=>A2e st2.bl rs λg h=>K g { st2 with n:=f.n,env:=f.env,lb:=f.lb,lt:=f.lt,fr:=fr,bl:=h,df:=f.df }
   |_,_=>none
 |_,_=>none
def Bc5:D->Bool
 |.bool _|.int _ _|.str _|.nilp|.gp _|.nilfn|.ep _ _ _=>true
 |.sl _ _ t=>match t with|.id _=>false|_=>true
 |_=>false
def Be9:D->Bool|.sv _ _|.undef=>true|.agg ds=>ds.all Bc5|d=>Bc5 d
def Iu:D->D|.agg ds=>.agg (ds.map A7)|d=>A7 d
def B2x(b:Nat->Ya1 Func)(px:Px (Yb1 D))(fn:Func)(args:Yb1 D):Ya1 (Yb1 D):=match fn.body,(args.map Iu).all Be9&&Nat.ble args.length fn.ntmps with
 |some c,true=>Hi px c ⟨fn.ntmps,D3 0 (args.map Iu),0,0,[],[],0,[],0,[]⟩ λe st=>match e with
  |.exit _=>none
  |_=>Ahx b px st.df st λst2=>match results px st2 fn.results.toList with
   |some rs=>Bjs st2.bl rs λa _=>match(a.map Iu).all Be9 with|true=>some (a.map Iu)|false=>none
   |none=>none
 |_,_=>none
end
def co(tt:Nat->Ty)(gl:Nat->Ya1 Gv)(a:Nat->Ya1 Func)(tb:(R:Type)->Nat->Ya1 (Fa R))(c:(R:Type)->Nat->Ya1 (Ez R))(d:Nat->Ya1 (Sig×Sig)):Nat->(R:Type)->Px R
 |0,_=>⟨tt,gl,λ_ _ _ _=>none,λ_ _ _=>none,λ_ _ _=>none,λ_=>none,λ_ _ _ _=>none⟩
 |n+1,R=>⟨tt,gl,
  λg args st K=>match tb R g with
   |some f=>f args st K
   |none=>match a g with
    |some fn=>A9r a (co tt gl a tb c d n R) fn args st K
    |none=>none,
  λg args K=>match c R g with
   |some f=>f args K
   |none=>match a g with
    |some fn=>match B2x a (co tt gl a tb c d n (Yb1 D)) fn args with|some rs=>K rs|none=>none
    |none=>none,
  λb st K=>Hi (co tt gl a tb c d n R) b { st with env:=trim st.n st.env } λe st'=>match e with
   |.normal=>(co tt gl a tb c d n R).loop b st' K
   |e=>K e st',
  λg=>match d g,a g with
   |some (si,so),some fn=>match Nat.ble si.n fn.ntmps with|true=>some (I4 si so (λx=>H7 (co tt gl a tb c d n (HV so.sgs)) fn si so x some))|false=>none
   |_,_=>none,
  Aym (co tt gl a tb c d n R)⟩
theorem Bod{e:Env}{n k:Nat}{d:D}(h:get (trim n e) k=some d):get e k=some d:=by
 have key:∀l:Env,(∀p,p∈l->get e p.1=some p.2)->get l k=some d->get e k=some d:=by
  intro l;induction l with
  |nil=>intro _ h;simp[get]at h
  |cons p l i=>
   intro a h;obtain⟨k0,v0⟩:=p;rw[Bl]at h;by_cases g:k=k0
   ·subst g;simp at h;subst h;exact a _ Zr1
   ·rw[if_neg g]at h;exact i (λp c=>a p (Zu1 _ c)) h
 refine key _ (λp a=>?_) h;unfold trim at a;obtain⟨q,_,b⟩:=List.mem_filterMap.1 a;cases f:get e q with|none=>rw[f]at b;cases b|some v=>rw[f]at b;simp at b;subst b;exact f
section
variable {R:Type}{cx:Cx}
theorem Rel.trim{m:Mp}{a:Act}{as_:Yb1 Act}{st:St}{w:World}(b:Rel cx m a as_ (fs st) w):Rel cx m a as_ (fs { st with env:=trim st.n st.env }) w:=⟨b.chg,⟨b.env.defers,b.env.size,λk d c=>b.env.get k d (Bod c)⟩,b.frs,b.lb,b.lt,b.blks,b.als,b.inj,b.injt,b.injbt,b.own,b.away,b.glb⟩
variable{x:Vx}{x':Vx}
theorem Av3(e:∀b j,x'.S b j->x.S b j)(f:x'.w=x.w){d:D}{v:Value}(hb:Bc5 d=true)(h:Rep x d v):Rep x' d v:=by
 have a:∀{d:D}{v:Value},RF x.S x.w d v->RF x'.S x'.w d v:=λh=>by rw[f];exact h.later (Chg.refl _ _) (λk j i=>.inl (e k j i))
 cases d with
 |sl c xs t=>simp only[Rep]at h ⊢;refine⟨a h.1,?_⟩;cases t with|id t=>cases hb|_=>exact h.2
 |ep c y off=>simp only[Rep]at h ⊢;obtain⟨b,o,hv,m⟩:=h;exact⟨b,o,hv,λw' hc=>m w' (by rw[<-f];exact hc.mono e)⟩
 |bool b=>simpa only[Rep]using h
 |int k n=>simpa only[Rep]using h
 |str l=>simpa only[Rep]using h
 |nilp=>simpa only[Rep]using h
 |gp g=>simpa only[Rep]using h
 |nilfn=>simpa only[Rep]using h
 |_=>cases hb
theorem Amf{x x':Vx}(a:∀b j,x'.S b j->x.S b j)(c:x'.w=x.w):∀{ds:Yb1 D}{vs:Yb1 Value},ds.all Bc5=true->Reps x ds vs->Reps x' ds vs
 |[],_,_,h=>by simpa[Reps]using h
 |d::ds,vs,hb,h=>by simp only[Zv1,Zb1]at hb;obtain⟨u,us,e,f,g⟩:=h;exact⟨u,us,e,Av3 a c hb.1 f,Amf a c hb.2 g⟩
theorem Bmx(a:∀b j,x'.S b j->x.S b j)(e:x'.w=x.w){d:D}{v:Value}(hb:Be9 d=true)(h:Rep x d v):Rep x' d v:=by
 have f:∀{d:D}{v:Value},RF x.S x.w d v->RF x'.S x'.w d v:=λh=>by rw[e];exact h.later (Chg.refl _ _) (λk j g=>.inl (a k j g))
 cases d with|sv c y=>simp only[Rep]at h ⊢;obtain⟨i,vs,hv,l,m⟩:=h;exact⟨i,vs,hv,l,λj d hd=>by obtain⟨u,n,o⟩:=m j d hd;exact⟨u,n,f o⟩⟩|undef=>simpa only[Rep]using h|agg ds=>simp only[Rep]at h ⊢;obtain⟨p,vs,hv,q⟩:=h;exact⟨p,vs,hv,Amf a e hb q⟩|_=>exact Av3 a e hb h
theorem Y4{x x':Vx}(a:∀b j,x'.S b j->x.S b j)(c:x'.w=x.w):∀{ds:Yb1 D}{vs:Yb1 Value},ds.all Be9=true->Reps x ds vs->Reps x' ds vs
 |[],_,_,h=>by simpa[Reps]using h
 |d::ds,vs,hb,h=>by simp only[Zv1,Zb1]at hb;obtain⟨u,us,e,f,g⟩:=h;exact⟨u,us,e,Bmx a c hb.1 f,Y4 a c hb.2 g⟩
theorem Avn{d:D}{v:Value}(h:Rep x d v):Rep x (A7 d) v:=by cases d<;>first|exact h|exact A6o h
theorem Apo{x:Vx}:∀{ds:Yb1 D}{vs:Yb1 Value},Reps x ds vs->Reps x (ds.map A7) vs
 |[],_,h=>h
 |_::_,_,⟨u,us,e,h1,h2⟩=>⟨u,us,e,Avn h1,Apo h2⟩
theorem Bao{d:D}{v:Value}(h:Rep x d v):Rep x (Iu d) v:=by
 cases d with
 |agg ds=>simp only[Iu,Rep]at h ⊢;obtain⟨a,vs,e,b⟩:=h;refine⟨?_,vs,e,Apo b⟩;rw[List.all_map];refine Zg2.2 λd hd=>?_;have:=Zg2.1 a d hd;cases d<;>first|rfl|exact this
 |_=>exact Avn h
theorem Rc{x:Vx}:∀{ds:Yb1 D}{vs:Yb1 Value},Reps x ds vs->Reps x (ds.map Iu) vs
 |[],_,h=>h
 |_::_,_,⟨u,us,e,h1,h2⟩=>⟨u,us,e,Bao h1,Rc h2⟩
theorem Az4(d:D):A7 (Iu d)=Iu d:=by cases d with|sl c xs t=>cases t<;>rfl|_=>rfl
variable{ds:Yb1 D}{vs:Yb1 Value}
theorem Anc{n:Nat}(c:Reps x ds vs)(g:vs.length<=n):∀k d,get (D3 0 ds) k=some d->∃v,(vs.toArray++Array.replicate (n-vs.toArray.size) undef)[k]? = some v/\Rep x d v:=λk d e=>by obtain⟨v,_,a,f⟩:=Ip 0 k d c e;rw[Nat.sub_zero]at a;refine⟨v,?_,f⟩;have b:k<vs.length:=(Zi2.1 a).1;simp only[Array.getElem?_append,List.size_toArray,b];simpa using a
theorem Aen{n:Nat}(a:vs.length<=n):(vs.toArray++Array.replicate (n-vs.toArray.size) undef).size=n:=by simp;omega
variable{fn:Func}{w:World}
theorem Ajs{tmps:Array Value}{us:Yb1 Value}(a:Sem.run cx.P (fn.results.toList.mapM (Sx.rdv tmps)) w=Result.ok us w):(_root_.Go.results fn tmps).run cx.P w = .ok (Sx.resv us) w:=by obtain⟨c⟩:∃c,fn.results=List.toArray c:=⟨fn.results.toList,by simp⟩;rename_i b;rw[Sx.results_eq,b];rw[b]at a;simp only[List.mapM_toArray,Sem.run_bind,map_eq_pure_bind,a];congr 1;match us with|[]=>rfl|[v]=>rfl|_::_::_=>simp[Sx.resv]
variable{a:Act}{as_:Yb1 Act}{fr:Yb1 Fr}{m:Mp}{st:St}
theorem Rel.pop{a0:Act}{f:Fr}(b:Rel cx m a (a0::as_) (fs st) w)(e:st.fr=f::fr):Rel cx m a0 as_ (fs { st with n:=f.n,env:=f.env,lb:=f.lb,lt:=f.lt,fr:=fr,df:=f.df }) w:=by have c:=b.frs;rw[show(fs st).fr=f::fr from e]at c;obtain⟨a1,p,d,g,i,j,k⟩:=c;simp at d;obtain⟨rfl,rfl⟩:=d;have l:Nx { vx cx m (fs st) w with nb:=(fs st).lb,nt:=(fs st).lt } (vx cx m (fs st) w):=⟨Chg.refl _ _,λ_ _ h=>.inl h,rfl,λ_ _=>rfl,b.lb,b.lt,λt _ o=>⟨o,rfl,λ_ _ _=>rfl⟩⟩;exact⟨b.chg,j.later l,k,Nat.le_trans g b.lb,Nat.le_trans i b.lt,b.blks,b.als,b.inj,b.injt,b.injbt,b.own,b.away,b.glb⟩
def Lv1(cx:Cx)(px:Px R):Prop:=PxOk cx px/\C6 cx px/\CallQOk cx px/\∀b,Bp cx px b
def Ag0(P:Program)(a:Nat->Ya1 Func):Prop:=∀g fn,a g=some fn->P.funcs[g]? = some fn/\(fn.name == "runtime.NumGoroutine")=false/\∃c,fn.body=some c/\Bw fn.ntmps c=true
theorem Ag0.all{P:Program}{a:Nat->Ya1 Func}(h:Ag0 P a)(g:Nat)(fn:Func)(b:a g=some fn):P.funcs[g]? = some fn/\(fn.name == "runtime.NumGoroutine")=false/\∀c,fn.body=some c->Bw fn.ntmps c=true:=by obtain⟨d,e,c0,f,i⟩:=h g fn b;exact⟨d,e,λc hc=>by rw[f]at hc;simp only[Za1]at hc;rw[<-hc];exact i⟩
theorem Rw{x:Nat->Ya1 Func}(o:Ag0 cx.P x){px:Px R}(g:Lv1 cx px)(hm:cx.P.follows .mixedOrders=true){fn:Func}{as_:Yb1 Act}{K:St->Ya1 R}{r:R}{Rr:Ending->World->Prop}{tmps:Array Value} :
  ∀(df:Yb1 D) (st:St),st.df=df->Ahx x px df st K=some r->∀(m:Mp) (p:Yb1 Deferred) (w:World),Rel cx m ⟨tmps,p⟩ as_ (fs st) w ->
   (∀st2 y w2,K st2=some r->(st2.n=st.n/\st2.fr=st.fr)->Rel cx y ⟨tmps,[]⟩ as_ (fs st2) w2->∃v,(_root_.Go.results fn tmps).run cx.P w2 = .ok v w2/\Rr (.returned v) w2) ->
   LeavesInM Fence.wide 0 cx.P fn tmps Rr p .returning w
 |[],st,hdf,h,m,p,w,hr,hfin=>by have hd:p=[]:=hr.noDf hdf;subst hd;exact hfin st m w h ⟨rfl,rfl⟩ hr
 |d::l,st,hdf,h,m,p,w,hr,hfin=>by
  have hd:=hr.env.defers;rw[show(fs st).df=d::l from hdf]at hd;obtain⟨dd,rest,e,h1,h2⟩:=hd;simp only at e;subst e;refine⟨by simp,?_⟩;cases d with
  |ptr b c=>
   left;simp only[Ahx]at h;split at h
   ·rename_i hb;obtain⟨_,_,_,rfl⟩:=h1;have j:=(hr.blks b (.ob 0) hb).2 rfl;have j:w.heap[m.bl b]? = some (.deferred (some [])):=j;have a:=hr.served (o':=.deferred none) hb j (by simp);have a7:Rel cx m ⟨tmps,rest⟩ as_ (fs { st with bl:=Du st.bl b (.ob 2),df:=l }) (w.putObj (m.bl b) (.deferred none)):=by have z:=a.env.defers;rw[show(fs { st with bl:=Du st.bl b (.ob 2) }).df = .ptr b c::l from hdf]at z;obtain⟨_,_,e2,_,h4⟩:=z;simp only[Ze2]at e2;obtain⟨_,rfl⟩:=e2;exact⟨a.chg,⟨h4,a.env.size,a.env.get⟩,a.frs,a.lb,a.lt,a.blks,a.als,a.inj,a.injt,a.injbt,a.own,a.away,a.glb⟩
    exact⟨m.bl b,_,rfl,run_takeDeferred j,Rw o g hm l _ rfl h m rest _ a7 (λst2 y w2 k1 k2 k3=>hfin st2 y w2 k1 k2 k3)⟩
   ·cases h
  |fn f caps=>
   right;simp only[Ahx]at h;split at h
   ·rename_i s a8;split at h
    ·rename_i c hb;obtain⟨k,rfl,q⟩:=h1;obtain⟨f1,f2,f3⟩:=o.all f s a8;have a2:=Sx.enters_of f1 (by rw[hb];rfl) f2;split at h
     ·rename_i hle;have hle:k.length<=s.ntmps:=by rw[q.len];simpa using hle
      have a:Rel cx m ⟨tmps,rest⟩ as_ (fs { st with df:=l }) w:=⟨hr.chg,⟨h2,hr.env.size,hr.env.get⟩,hr.frs,hr.lb,hr.lt,hr.blks,hr.als,hr.inj,hr.injt,hr.injbt,hr.own,hr.away,hr.glb⟩;have a3:Rel cx m { tmps:=k.toArray++Array.replicate (s.ntmps-k.toArray.size) undef,defers:=[] } (⟨tmps,rest⟩::as_) (fs { st with n:=s.ntmps,env:=D3 0 caps,lb:=st.nb,lt:=st.nt,fr:=⟨st.n,st.env,st.lb,st.lt,l⟩::st.fr,df:=[] }) w:=⟨hr.chg,⟨rfl,Aen hle,Anc q hle⟩,⟨_,as_,rfl,a.lb,a.lt,a.env,a.frs⟩,Zn1 _,Zn1 _,hr.blks,hr.als,hr.inj,hr.injt,hr.injbt,hr.own,hr.away,hr.glb⟩
      refine⟨(λe=>nomatch e),.func f,k.toArray,f,k.toArray,rfl,?_,λ_ _=>trivial,?_⟩
      ·have h9:=a2 k.toArray w;simp[invoke,go_sem];simpa using h9
      ·refine CallsDIn.mono (callsDIn_of_wp (R:=λe w'=>∃v,e = .returned v/\LeavesInM Fence.wide 0 cx.P fn tmps Rr rest .returning w') f1 hb trivial (wpIn_wide.2 (Eg g.1 g.2.1 g.2.2.1 hm c _ _ r (f3 c hb) (λb _=>g.2.2.2 b) h _ m _ _ w a3 ?_))) ?_
       ·intro e st' m' a' w' hk u i;cases e
        case exit=>cases hk
        all_goals
         simp only at hk;split at hk
         ·rename_i ab ac fr a9 aa t;have a4:st'.fr=⟨st.n,st.env,st.lb,st.lt,l⟩::st.fr:=u.2;obtain⟨us,a5,_⟩:=D7 g.1 i aa;have a6:=i.pop t;rw[a4]at t;simp only[Ze2]at t;obtain⟨rfl,rfl⟩:=t;exact⟨i.noDf a9,_,Ajs a5,_,rfl,Rw o g hm l _ rfl hk m' rest w' a6 (λst2 y w2 k1 k2 k3=>hfin st2 y w2 k1 k2 k3)⟩
         ·cases hk
       ·rintro e u' w' ⟨rfl,v,rfl,hl⟩;exact hl
     ·cases h
    ·cases h
   ·cases h
  |_=>exact h1.elim
theorem Aje{m:Mp}{a:Act}{as_:Yb1 Act}{w:World}{r:R}:∀{ds:Yb1 D}{st:St}{vs:Yb1 Value}{K:Yb1 D->Yb1 (Nat×Blk)->Ya1 R},Rel cx m a as_ (fs st) w->Reps (vx cx m (fs st) w) ds vs->A2e st.bl ds K=some r->∃b g,K b g = some r/\Rel cx m a as_ (fs { st with bl:=g }) w/\Nx (vx cx m (fs st) w) (vx cx m (fs { st with bl:=g }) w)/\Reps (vx cx m (fs { st with bl:=g }) w) b vs
 |[],st,vs,K,hr,hd,h=>⟨[],st.bl,h,hr,⟨Chg.refl _ _,λ_ _ h=>.inl h,rfl,λ_ _=>rfl,Zn1 _,Zn1 _,λt _ ha=>⟨ha,rfl,λ_ _ _=>rfl⟩⟩,by simpa using hd⟩
 |d::ds,st,vs,K,hr,hd,h=>by
  obtain⟨u,us,rfl,o,z⟩:=hd;by_cases l:∃es,d = .agg es
  ·obtain⟨es,rfl⟩:=l;simp only[A2e]at h;simp only[Rep]at o;obtain⟨hl,p,rfl,h3⟩:=o;obtain⟨q,s,hk,v,n,x,y⟩:=Azg hr h3 h;obtain⟨b,c,i,j,f,k⟩:=Aje (st:={ st with bl:=s }) v (Reps.later n _ _ z) hk;exact⟨.agg q::b,c,i,j,n.trans f,⟨_,us,rfl,by simp only[Rep];exact⟨y hl,p,rfl,Reps.later f _ _ x⟩,k⟩⟩
  ·have e:A2e st.bl (d::ds) K=A2e st.bl ds λl' c=>K (d::l') c:=by cases d<;>first|rfl|exact absurd ⟨_,rfl⟩ l
   rw[e]at h;obtain⟨b,c,i,j,f,k⟩:=Aje hr z h;exact⟨d::b,c,i,j,f,⟨u,us,rfl,Rep.later f _ _ o,k⟩⟩
variable{args:Yb1 D}{g:Nat}{px:Px R}{r:R}
theorem Blv{p:Nat->Ya1 Func}(l:Ag0 cx.P p)(h:Lv1 cx px)(hm:cx.P.follows .mixedOrders=true)(a2:p g=some fn){K:Yb1 D->St->Ya1 R}(hc:A9r p px fn args st K=some r):I5 cx g args st K r:=by
 obtain⟨f1,f2,f3⟩:=l.all g fn a2;unfold A9r at hc;split at hc
 ·rename_i c hb hle;refine⟨Sx.enters_of f1 (by rw[hb];rfl) f2,λm a as_ w vs hr i=>?_⟩;have o:vs.length<=fn.ntmps:=by rw[i.len];simpa using hle
  obtain⟨q,a3,hc,d,_,j⟩:=Aje hr i hc;have u:Rel cx m { tmps:=vs.toArray++Array.replicate (fn.ntmps-vs.toArray.size) undef,defers:=[] } (a::as_) (fs { st with n:=fn.ntmps,env:=D3 0 q,lb:=st.nb,lt:=st.nt,fr:=⟨st.n,st.env,st.lb,st.lt,st.df⟩::st.fr,bl:=a3,df:=[] }) w:=⟨d.chg,⟨rfl,Aen o,Anc j o⟩,⟨a,as_,rfl,d.lb,d.lt,d.env,d.frs⟩,Zn1 _,Zn1 _,d.blks,d.als,d.inj,d.injt,d.injbt,d.own,d.away,d.glb⟩
  refine callsIn_wide.1 (callsIn_of_wp_marks (n:=0) f1 hb trivial (wpIn_wide.2 (Eg h.1 h.2.1 h.2.2.1 hm c _ _ r (f3 c hb) (λb _=>h.2.2.2 b) hc _ m _ (a::as_) w u ?_)));intro e st' m' a' w' hk s t;cases e
  case exit=>cases hk
  all_goals
   simp only at hk;have v:st'.fr=⟨st.n,st.env,st.lb,st.lt,st.df⟩::st.fr:=s.2;refine Rw l h hm (tmps:=a'.tmps) st'.df st' rfl hk m' a'.defers w' t (λst2 m2 w2 k1 k2 k3=>?_);split at k1
   ·rename_i rs f fr a4 k;obtain⟨us,x,y⟩:=D7 h.1 k3 a4;have z:=k3.pop k;rw[k2.2,v]at k;simp only[Ze2]at k;obtain⟨rfl,rfl⟩:=k;obtain⟨a5,a6,k4,k5,_,k6⟩:=Aje z y k1;exact⟨_,Ajs x,_,rfl,a5,_,m2,k4,⟨rfl,rfl,rfl,rfl,rfl⟩,k5,Ho k6⟩
   ·cases k1
 ·cases hc
theorem B0g{u:Nat->Ya1 Func}(q:Ag0 cx.P u){px:Px (Yb1 D)}(a7:∀i:Cx,i.P=cx.P->i.el=cx.el->i.gl=cx.gl->Lv1 i px)(hm:cx.P.follows .mixedOrders=true)(a8:u g=some fn){rs:Yb1 D}(h:B2x u px fn args=some rs):Sx.Enters cx.P g/\∀(s:FS) (m:Mp) (a:Act) (as_:Yb1 Act) (w:World) (vs:Yb1 Value),Rel cx m a as_ s w->Reps (vx cx m s w) args vs->Calls cx.P g vs.toArray w λen w'=>∃v,en = .returned v/\Rel cx m a as_ s w'/\Rep (vx cx m s w') (Hh (rs.map A7)) v:=by
 obtain⟨f1,f2,f3⟩:=q.all g fn a8;unfold B2x at h;split at h
 ·rename_i c hb d;simp only[Zb1]at d;refine⟨Sx.enters_of f1 (by rw[hb];rfl) f2,λs m a as_ w vs hr f=>?_⟩;have r:vs.length<=fn.ntmps:=by rw[f.len];simpa using d.2
  obtain⟨hM,a9⟩:=K9 hr;have base:=Axo (P:=cx.P) (el:=cx.el) (gl:=cx.gl) (sa:=[]) rfl (x:=()) (n:=fn.ntmps) (Nat.zero_le _) hM a9 (vs:=[]) (by simp[Ca,Reps]);have l:Reps (vx ⟨cx.P,w,C2,(vx cx m s w).S,cx.el,cx.gl⟩ ⟨λ_=>0,λ_=>none⟩ (fs (st0 fn.ntmps [] ())) w) (args.map Iu) vs:=by
   refine Y4 (x:=vx cx m s w) (x':=vx ⟨cx.P,w,C2,(vx cx m s w).S,cx.el,cx.gl⟩ ⟨λ_=>0,λ_=>none⟩ (fs (st0 fn.ntmps [] ())) w) (λb j hS=>?_) rfl d.1 (Rc f);rcases hS with hS|⟨k,hk,_⟩|⟨t,o,ht,_⟩
   ·exact hS
   ·exact absurd rfl hk
   ·cases ht
  have a4:Rel ⟨cx.P,w,C2,(vx cx m s w).S,cx.el,cx.gl⟩ ⟨λ_=>0,λ_=>none⟩ { tmps:=vs.toArray++Array.replicate (fn.ntmps-vs.toArray.size) undef,defers:=[] } [] (fs ⟨fn.ntmps,D3 0 (args.map Iu),0,0,[],[],0,[],0,[]⟩) w:=⟨base.chg,⟨rfl,Aen r,Anc l r⟩,base.frs,base.lb,base.lt,base.blks,base.als,base.inj,base.injt,base.injbt,base.own,base.away,base.glb⟩
  obtain⟨p1,p2,p3,p4⟩:=a7 ⟨cx.P,w,C2,(vx cx m s w).S,cx.el,cx.gl⟩ rfl rfl rfl;refine callsIn_wide.1 (callsIn_of_wp_marks (n:=0) f1 hb trivial (wpIn_wide.2 (Eg p1 p2 p3 hm c _ _ rs (f3 c hb) (λb _=>p4 b) h _ _ _ [] w a4 ?_)));intro e st' m' a' w' hk aa y;cases e
  case exit=>cases hk
  all_goals
   simp only at hk;refine Rw (cx:=⟨cx.P,w,C2,(vx cx m s w).S,cx.el,cx.gl⟩) q ⟨p1,p2,p3,p4⟩ hm (tmps:=a'.tmps) st'.df st' rfl hk m' a'.defers w' y (λst2 m2 w2 k1 k2 k3=>?_);split at k1
   ·rename_i ae ab;obtain⟨us,a5,a6⟩:=D7 p1 k3 ab;obtain⟨ag,ac,p,z,_,a2⟩:=Aj0 k3 a6 k1;split at p
    ·rename_i a3;simp only[Za1]at p;subst p;refine⟨_,Ajs (cx:=cx) a5,_,rfl,hr.quiet z.chg,?_⟩;have h9:=Y4 (x:=vx ⟨cx.P,w,C2,(vx cx m s w).S,cx.el,cx.gl⟩ m2 (fs { st2 with bl:=ac }) w2) (x':=vx cx m s w2) (λb j hS=>.inl hS) rfl a3 (Rc a2);rw[List.map_map,show A7∘Iu=Iu from funext Az4];exact Ho h9
    ·cases p
   ·cases k1
 ·cases h
def B6m(cx:Cx)(px:Px R)(b:Code):Prop:=∀(st:St) (K:Ex->St->Ya1 R) (r:R),px.loop b st K=some r->∀(Q:Exit->Act->World->Prop) (m:Mp) (a:Act) (as_:Yb1 Act) (w:World),Bw st.n b=true->Rel cx m a as_ (fs st) w->(∀e st' m' a' w',K e st' = some r->(st'.n=st.n/\st'.fr=st.fr)->Rel cx m' a' as_ (fs st') w'->Q (Pi e) a' w')->Sx.LW cx.P b Q a w
def Lv2(cx:Cx)(px:Px R):Prop:=PxOk cx px/\C6 cx px/\CallQOk cx px/\∀b,B6m cx px b
theorem Lv2.to1(h:Lv2 cx px):Lv1 cx px:=⟨h.1,h.2.1,h.2.2.1,λb st K r c Q m a as_ w d e f=>Sx.wp_of_LW (h.2.2.2 b st K r c Q m a as_ w d e f)⟩
end
theorem A1v{P:Program}{el:Ck->TypeId}(hm:P.follows .mixedOrders=true){tt:Nat->Ty}{gl:Nat->Ya1 Gv}{y:Nat->Ya1 Func}{tb:(R:Type)->Nat->Ya1 (Fa R)}{tq:(R:Type)->Nat->Ya1 (Ez R)}(q:∀t,C0 P el tt t=true)(i:Ag0 P y)
  (u:∀(R:Type) (cx:Cx),cx.P=P->cx.el=el->cx.gl=gl->∀g f,tb R g=some f->Hg cx g f) (v:∀(R:Type) (cx:Cx),cx.P=P->cx.el=el->cx.gl=gl->∀g f,tq R g=some f->Nu cx g f) {sw:Nat->Ya1 (Sig×Sig)}(x:∀g p,sw g=some p->lnB p.1 p.2=true) :
  ∀(n:Nat) (R:Type) (cx:Cx),cx.P=P->cx.el=el->cx.gl=gl->Lv2 cx (co tt gl y tb tq sw n R)
 |0,R,cx,e1,e2,e3=>by subst e1 e2 e3;exact⟨⟨q,rfl,noY.ok λ_ _ _ _=>rfl⟩,(λ_ _ _ _ _ h=>nomatch h),⟨(λ_ _ _ _ h=>nomatch h),(λ_ _ h=>nomatch h)⟩,(λ_ _ _ _ h=>nomatch h)⟩
 |n+1,R,cx,e1,e2,e3=>by
  have ih:=A1v hm q i u v x n R cx e1 e2 e3;have a7:∀k:Cx,k.P=cx.P->k.el=cx.el->k.gl=cx.gl->Lv1 k (co tt gl y tb tq sw n (Yb1 D)):=λk h1 h2 h3=>(A1v hm q i u v x n (Yb1 D) k (h1.trans e1) (h2.trans e2) (h3.trans e3)).to1;have a4:=u R cx e1 e2 e3;have a5:=v R cx e1 e2 e3;subst e1 e2 e3;have l:=ih.to1;refine⟨⟨q,rfl,Aws l.1 l.2.1 l.2.2.1 hm rfl⟩,λg args st K r j=>?_,⟨λg args K r j=>?_,λg F z=>?_⟩,λb st K r j Q m a as_ w a6 hr hQ=>?_⟩
  ·simp only[co]at j;split at j
   ·rename_i f hf;exact a4 g f hf args st K r j
   ·split at j
    ·rename_i fn s;exact Blv i l hm s j
    ·cases j
  ·simp only[co]at j;split at j
   ·rename_i f hf;exact a5 g f hf args K r j
   ·split at j
    ·rename_i fn s;split at j
     ·rename_i rs a8;exact⟨rs,j,B0g i a7 hm s a8⟩
     ·cases j
    ·cases j
  ·simp only[co]at z;split at z
   ·rename_i si so fn a9 s;split at z
    ·rename_i hle;simp only[Za1]at z;subst z;obtain⟨f1,f2,c,hb,f3⟩:=i g fn s;exact B14 (Acx f1 hb f2 hm (by rw[f3];simpa using hle) (λk h1 h2 h3=>by obtain⟨q1,q2,q3,q4⟩:=(A1v hm q i u v x n (HV so.sgs) k h1 h2 h3).to1;exact⟨q1,q2,q3,λb _=>q4 b⟩) (λ_=>rfl)) (x g (si,so) a9)
    ·cases z
   ·cases z
  ·simp only[co]at j;refine Sx.LW_round (Eg l.1 l.2.1 l.2.2.1 hm b { st with env:=trim st.n st.env } _ r a6 (λb' _=>l.2.2.2 b') j _ m a as_ w hr.trim ?_);intro e st' m' a' w' a3 d o;cases e with|normal=>exact ih.2.2.2 b st' K r a3 Q m' a' as_ w' (by rw[d.1];exact a6) o (λe2 st2 m2 a2 w2 k1 k2 k3=>hQ e2 st2 m2 a2 w2 k1 ⟨k2.1.trans d.1,k2.2.trans d.2⟩ k3)|exit id=>exact hQ (.exit id) st' m' a' w' a3 d o|ret=>exact hQ .ret st' m' a' w' a3 d o
end Go.Ax
namespace Go.Ax
section
variable {R:Type}{P:Program}{el:Ck->TypeId}{gl:Nat->Ya1 Gv}{tt:Nat->Ty}{cx:Cx}
def withY(px a:Px R):Px R:=⟨px.tt,px.gl,px.call,px.callQ,px.loop,px.callW,Aym a⟩
theorem Lv.withY{px b:Px R}(h:Lv cx px)(hc:Lv cx b)(hm:cx.P.follows .mixedOrders=true):Lv cx (withY px b):=⟨⟨h.p.1,h.p.2,Aws hc.p hc.c hc.q hm rfl⟩,λg args st K r a=>h.c g args st K r a,⟨λg args K r a=>h.q.1 g args K r a,λg f d=>h.q.2 g f d⟩⟩
end
section
def Bgn{R:Type}(px:Px R)(fn:Func)(sa sr:Yb1 Sg)(x:HV sa)(fin:HV sr->Ya1 R):Ya1 R:=match fn.body with
 |some c=>Hi px c (st0 fn.ntmps sa x) λe st=>match e with
  |.exit _=>none
  |_=>Ahx (λ_=>none) px st.df st λst2=>match results px st2 fn.results.toList with
   |some rs=>Aiq sr st2 rs λa st'=>match Nk sr st'.tk a with|some r=>fin r|none=>none
   |none=>none
 |none=>none
variable{sr:Yb1 Sg}{sa:Yb1 Sg}{F:HV sa->Ya1 (HV sr)}{P:Program}{c:Code}{el:Ck->TypeId}{f:FuncId}{fn:Func}{gl:Nat->Ya1 Gv}{px:Px (HV sr)}
theorem Bvy(hf:P.funcs[f]? = some fn)(hb:fn.body=some c)(v:(fn.name == "runtime.NumGoroutine")=false)(hm:P.follows .mixedOrders=true)(k:(Bw fn.ntmps c&&Nat.ble sa.length fn.ntmps&&Dk (Bb 0 sa) [])=true)
  (a7:∀cx:Cx,cx.P=P->cx.el=el->cx.gl=gl->cx.I=C2->PxOk cx px/\C6 cx px/\CallQOk cx px/\∀b,Bp cx px b) (hF:∀x,Bgn px fn sa sr x some=F x):FnOk P el gl f sa sr F:=by
 refine⟨Sx.enters_of hf (by rw[hb];rfl) v,λx r y w M vs hM a8 hr=>?_⟩;simp at k;have hn:sa.length<=fn.ntmps:=by simpa using k.1.2
 have a2:=Axo (P:=P) (G7 k.2) hn hM a8 hr;rw[<-hF]at y;unfold Bgn at y;rw[hb]at y;simp only at y;obtain⟨h1,h2,h3,h4⟩:=a7 ⟨P,w,C2,M,el,gl⟩ rfl rfl rfl rfl;have a3:Ag0 P (λ_=>(none:Ya1 Func)):=λg fx y=>by cases y
 refine callsIn_wide.1 (callsIn_of_wp_marks (n:=0) hf hb trivial (wpIn_wide.2 (Eg h1 h2 h3 hm c _ _ r k.1.1 (λb _=>h4 b) y _ _ _ [] w a2 ?_)));intro e st1 m1 a' w1 m _ s;cases e
 case exit=>cases m
 all_goals
  simp only at m;refine Rw (cx:=⟨P,w,C2,M,el,gl⟩) a3 ⟨h1,h2,h3,h4⟩ hm (tmps:=a'.tmps) st1.df st1 rfl m m1 a'.defers w1 s (λst' m' w' m _ d=>?_);split at m
  ·rename_i ae a9;obtain⟨us,a4,l⟩:=D7 h1 d a9;obtain⟨rs,st2,m2,m,j,_,z⟩:=Aa2 d l m;clear l d;split at m
   ·rename_i r' a5;simp at m;subst m;obtain⟨aa,ab⟩:=S2 0 a5;let mc:Mp:=⟨λ_=>0,λp=>(asg 0 sr rs p).bind m2.tk⟩;have a:∀p g o,mc.tk p=some (g,o)->∃t,asg 0 sr rs p=some t/\t∈st2.tk/\m2.tk t=some (g,o):=λp g o u=>by cases ha:asg 0 sr rs p with|none=>simp only[mc,ha]at u;cases u|some t=>simp[mc,ha]at u;exact⟨t,rfl,(aa p t ha).1,u⟩
    have hS:∀b i,(vr el M mc sr w').S b i->(vx ⟨P,w,C2,M,el,gl⟩ m2 (fs st2) w').S b i:=by
     rintro b i (h|⟨p,o,_,h2,h3⟩)
     ·exact .inl h
     ·obtain⟨t,_,q2,q3⟩:=a p b o h2;exact .inr (.inr ⟨t,o,q2,q3,h3⟩)
    have a6:=Gk (X:=vx ⟨P,w,C2,M,el,gl⟩ m2 (fs st2) w') (X':=vr el M mc sr w') hS rfl rfl 0 a5 (λt ht=>ht) z (λp hp=>by have:=(Gq _ _ _ hp).2;exact⟨by simpa[vr]using this,rfl⟩)
    refine⟨_,Ajs (cx:=⟨P,w,C2,M,el,gl⟩) a4,Sx.resv us,mc,rfl,j.chg,λp g o hp u=>?_,λp q g o o' _ _ u ac=>?_,Ho a6⟩
    ·obtain⟨t,_,q2,q3⟩:=a p g o u;have:=j.own g o (.inr ⟨t,o,q2,q3,Zn1 _⟩);exact⟨this.2.resolve_left id,this.1⟩
    ·obtain⟨t,q1,q2,q3⟩:=a p g o u;obtain⟨t',p1,p2,p3⟩:=a q g o' ac;have:=j.injt t t' g o o' q2 p2 q3 p3;subst this;exact ab p q t q1 p1
   ·cases m
  ·cases m
theorem fOD{tt:Nat->Ty}{F:FT sa sr}(j:∀t,C0 P el tt t=true)(hm:P.follows .mixedOrders=true)(k:P.funcs[f]? = some fn)(hb:fn.body=some c)(d:(fn.name == "runtime.NumGoroutine")=false)(e:(Bw fn.ntmps c&&Nat.ble sa.length fn.ntmps&&Dk (Bb 0 sa) [])=true)
  (l:∀b st K,px.loop b st K=none) (h:∀cx,Hx P el gl tt cx->Lv cx px) (m:∀x,Bgn px fn sa sr x some=F x):FnOk P el gl f sa sr F:=
 Bvy k hb d hm e (λcx a b c _=>by have g:=h cx ⟨a,b,c,j,hm⟩;exact⟨g.p,g.c,g.q,λb st K r i=>by rw[l]at i;cases i⟩) m
end
def sameI:Yb1 Idx->Yb1 Idx->Bool|[],[]=>true|a::l,b::m=>decide (a.name=b.name)&&decide (a.cols=b.cols)&&sameI l m|_,_=>false
theorem A47:∀{l m:Yb1 Idx},sameI l m=true->l=m
 |[],[],_=>rfl
 |⟨_,_⟩::l,⟨_,_⟩::m,h=>by simp only[sameI,Zb1,Zg1]at h;have a:=A47 h.2;have b:=h.1.1;have c:=h.1.2;subst a b c;rfl
 |[],_::_,h=>by cases h
 |_::_,[],h=>by cases h
def Bpn(a b:Tbl):Bool:=decide (a.name=b.name)&&decide (a.cols=b.cols)&&decide (a.key=b.key)&&sameI a.idx b.idx&&a.checks.isEmpty&&b.checks.isEmpty
theorem Bn9{a b:Tbl}(h:Bpn a b=true):a=b:=by obtain⟨n,c,k,x,i⟩:=a;obtain⟨m,o,p,x',q⟩:=b;simp only[Bpn,Zb1,Zg1]at h;obtain⟨⟨⟨⟨⟨d,e⟩,f⟩,g⟩,j⟩,l⟩:=h;subst d e f;rw[A47 g];rw[List.isEmpty_iff.1 j,List.isEmpty_iff.1 l]
mutual
def A19:NodeS->NodeS->Bool|.mk k p h v l s,.mk k' p' h' v' l' s'=>decide (k=k')&&decide (p=p')&&decide (h=h')&&decide (v=v')&&decide (s=s')&&sameNl l l'
def sameNl:Yb1 NodeS->Yb1 NodeS->Bool|[],[]=>true|a::l,b::m=>A19 a b&&sameNl l m|_,_=>false
end
mutual
theorem Ap0:∀{a b:NodeS},A19 a b=true->a=b
 |.mk k p h v l s,.mk k' p' h' v' l' s',e=>by simp only[A19,Zb1,Zg1]at e;obtain⟨⟨⟨⟨⟨c,d⟩,f⟩,g⟩,i⟩,j⟩:=e;have m:=sameNl_eq j;subst c d f g i m;rfl
theorem sameNl_eq:∀{l m:Yb1 NodeS},sameNl l m=true->l=m
 |[],[],_=>rfl
 |a::l,b::m,h=>by simp only[sameNl,Zb1]at h;rw[Ap0 h.1,sameNl_eq h.2]
 |[],_::_,h=>by simp[sameNl]at h
 |_::_,[],h=>by simp[sameNl]at h
end
def A12:(c:Ck)->El c->El c->Bool|.byte,a,b=>decide (a=b)|.int,a,b=>decide (a=b)|.u64,a,b=>decide (a=b)|.str,a,b=>decide (a=b)|.bool,a,b=>decide (a=b)|.val,a,b=>decide (a=b)|.tok,a,b=>decide (a=b)|.col,a,b=>decide (a=b)|.vals,a,b=>decide (a=b)|.strs,a,b=>decide (a=b)|.bytes,a,b=>decide (a=b)|.idx,a,b=>decide (a.name=b.name)&&decide (a.cols=b.cols)|.tbl,a,b=>Bpn a b|.node,a,b=>A19 a b|.stt,a,b=>A19 a b|.kv,a,b=>decide (a.key=b.key)&&decide (a.val=b.val)|_,_,_=>false
theorem A7m:∀{c:Ck}{a b:El c},A12 c a b=true->a=b:=by
 intro c a b h;cases c
 case idx=>cases a;cases b;simp only[A12,Zb1,Zg1]at h;simp only[h.1,h.2]
 case kv=>cases a;cases b;simp only[A12,Zb1,Zg1]at h;simp only[h.1,h.2]
 case tbl=>exact Bn9 h
 case node=>exact Ap0 h
 case stt=>exact Ap0 h
 all_goals first
  |exact of_decide_eq_true h
  |exact absurd h Bool.false_ne_true
def Adw(c:Ck):Yb1 (El c)->Yb1 (El c)->Bool|[],[]=>true|a::l,b::m=>A12 c a b&&Adw c l m|_,_=>false
theorem Auq{c:Ck}:∀{l m:Yb1 (El c)},Adw c l m=true->l=m
 |[],[],_=>rfl
 |a::l,b::m,h=>by simp only[Adw,Zb1]at h;rw[A7m h.1,Auq h.2]
 |[],_::_,h=>by cases h
 |_::_,[],h=>by cases h
def Bp9:(s:Sg)->den s->den s->Bool|.int _,a,b=>decide (a=b)|.bool,a,b=>decide (a=b)|.str,a,b=>decide (a=b)|.sl c _,a,b=>Adw c a b|.sv c,a,b=>A12 c a b|.rw c _,a,b=>Adw c a b|.dn c,a,b=>Adw c a b|.nl _,_,_=>true
theorem A17:∀{s:Sg}{a b:den s},Bp9 s a b=true->a=b:=by
 intro s a b h;cases s<;>first
  |exact of_decide_eq_true h
  |exact Auq h
  |exact A7m h
  |rfl
def Axi:(l:Yb1 Sg)->HV l->HV l->Bool|[],_,_=>true|[a],x,y=>Bp9 a x y|a::b::l,x,y=>Bp9 a x.1 y.1&&Axi (b::l) x.2 y.2
theorem As9:∀{l:Yb1 Sg}{x y:HV l},Axi l x y=true->x=y
 |[],_,_,_=>rfl
 |[a],_,_,h=>A17 h
 |a::b::l,x,y,h=>by simp only[Axi,Zb1]at h;exact Prod.ext (A17 h.1) (As9 (l:=b::l) h.2)
def Hm(sa sr:Yb1 Sg):Yb1 (HV sa×HV sr)->HV sa->Ya1 (HV sr)|[],_=>none|(a,r)::l,x=>match Axi sa x a with|true=>some r|false=>Hm sa sr l x
theorem Ada{sa sr:Yb1 Sg}{F:HV sa->Ya1 (HV sr)}:∀{l:Yb1 (HV sa×HV sr)}(_:∀q,q∈l->F q.1=some q.2) (x:HV sa) (r:HV sr),Hm sa sr l x=some r->F x=some r
 |[],_,_,_,h=>by cases h
 |(a,r')::l,hl,x,r,h=>by
  unfold Hm at h;split at h
  ·rename_i e;injection h with h;subst h;rw[As9 e];exact hl _ (Zr1 ..)
  ·exact Ada (λq b=>hl q (Zu1 _ b)) x r h
variable{sr:Yb1 Sg}{sa:Yb1 Sg}{F:HV sa->Ya1 (HV sr)}{P:Program}{el:Ck->TypeId}{f:FuncId}{gl:Nat->Ya1 Gv}
theorem FnOk.le{G:HV sa->Ya1 (HV sr)}(h:FnOk P el gl f sa sr F)(a:∀x r,G x=some r->F x=some r):FnOk P el gl f sa sr G:=⟨h.enters,λx r b=>h.run x r (a x r b)⟩
theorem FnLn.le{sg so:Sig}{F G:HV sg.sgs->Ya1 (HV so.sgs)}(h:FnLn P el gl f sg so F)(a:∀x r,G x=some r->F x=some r):FnLn P el gl f sg so G:=⟨h.enters,λx r b=>h.run x r (a x r b)⟩
def B31{R:Type}(px:Px R)(w:Nat->Ya1 (G4 R)):Px R:=⟨px.tt,px.gl,px.call,px.callQ,px.loop,λg=>match w g with|some f=>some f|none=>px.callW g,px.yld⟩
variable{R:Type}{cx:Cx}{w:Nat->Ya1 (G4 R)}
theorem Bzg{px:Px R}(h:Lv2 cx px)(e:∀g f,w g=some f->F1 cx g f):Lv2 cx (B31 px w):=by
 refine⟨⟨h.1.1,h.1.2,h.1.3⟩,λg args st K r a=>h.2.1 g args st K r a,⟨λg args K r a=>h.2.2.1.1 g args K r a,λg f c=>?_⟩,λb st K r a=>h.2.2.2 b st K r a⟩;simp only[B31]at c;split at c
 ·rename_i f' d;cases c;exact e g _ d
 ·exact h.2.2.1.2 g f c
def Bue{R:Type}(px:Px R)(c:Nat->Ya1 (Fa R))(w:Nat->Ya1 (G4 R)):Px R:=⟨px.tt,px.gl,λg=>match c g with
 |some f=>f
 |none=>px.call g,px.callQ,px.loop,λg=>match w g with
 |some f=>some f
 |none=>px.callW g,px.yld⟩
theorem Bvw{px:Px R}{c:Nat->Ya1 (Fa R)}(h:Lv2 cx px)(hc:∀g f,c g=some f->Hg cx g f)(j:∀g f,w g=some f->F1 cx g f):Lv2 cx (Bue px c w):=by
 refine⟨⟨h.1.1,h.1.2,h.1.3⟩,λg args st K r a=>?_,⟨λg args K r a=>h.2.2.1.1 g args K r a,λg f d=>?_⟩,λb st K r a=>h.2.2.2 b st K r a⟩
 ·have a:(match c g with|some f=>f|none=>px.call g) args st K=some r:=a;cases e:c g with|none=>rw[e]at a;exact h.2.1 g args st K r a|some f=>rw[e]at a;exact hc g f e args st K r a
 ·simp only[Bue]at d;split at d
  ·rename_i f' i;cases d;exact j g _ i
  ·exact h.2.2.1.2 g f d
end Go.Ax
namespace Go.Proofs.YtcoaaebppfbbnaaGreatDoor
open Go.Ax
inductive T where
 |no
 |lf (p v:Str)
 |way (p:Str) (k:T)
 |br (o:Option Str) (k:Nat->T)
namespace T
def isBr:T->Bool|.br _ _=>true|_=>false
def isNo:T->Bool|.no=>true|_=>false
end T
def A7:Str->Str->Ya1 Str|[],p=>some p|_::_,[]=>none|x::q,y::p=>if x=y then A7 q p else none
theorem Bm:∀{q p r:Str},A7 q p=some r↔p=q++r
 |[],p,r=>by simp[A7]
 |x::q,[],r=>by simp[A7]
 |x::q,y::p,r=>by
  simp only[A7];split
  ·rename_i h;subst h;simp[Bm (q:=q)]
  ·rename_i h;simp;intro a;exact absurd a.symm h
theorem Fg(q r:Str):A7 q (q++r)=some r:=Bm.2 rfl
def Cq:Str->Str->Str×Str×Str|x::a,y::b=>if x=y then(x::(Cq a b).1,(Cq a b).2)else([],x::a,y::b)|a,b=>([],a,b)
theorem Ga:∀a b:Str,a=(Cq a b).1++(Cq a b).2.1/\b=(Cq a b).1++(Cq a b).2.2
 |[],b=>by simp[Cq]
 |_::_,[]=>by simp[Cq]
 |x::a,y::b=>by
  simp only[Cq];split
  ·rename_i h;have c:=Ga a b;subst h;exact⟨by rw[Zb2,<-c.1],by rw[Zb2,<-c.2]⟩
  ·simp
theorem G6:∀{a b:Str}{x y:UInt8}{a' b':Str},(Cq a b).2.1=x::a'->(Cq a b).2.2=y::b'->x≠y
 |[],b,x,y,a',b',h,_=>by simp[Cq]at h
 |_::_,[],_,_,_,_,_,h=>by simp[Cq]at h
 |x::a,y::b,x',y',a',b',h,h2=>by
  simp only[Cq]at h h2;split at h
  ·rename_i e;simp only[e,if_true]at h2;exact G6 h h2
  ·rename_i e;simp only[e,if_false]at h2;simp at h h2;rw[<-h.1,<-h2.1];exact e
def upd(k:Nat->T)(i:Nat)(t:T):Nat->T:=λj=>if j=i then t else k j
theorem Iq(k:Nat->T)(i:Nat)(t:T):upd k i t i=t:=by simp[upd]
variable{i:Nat}{k:Nat->T}{t:T}
theorem Mi{j:Nat}(h:j≠i):upd k i t j=k j:=by simp[upd,h]
def Ng:Str->T->T|[],t=>t|x::p,t=>.way (x::p) t
def nos:Nat->T:=λ_=>.no
def hold(o:Ya1 Str)(k:Nat->T):Str->Str->T|[],v=>.br (some v) k|x::p,v=>.br o (upd k x.toNat (.lf p v))
def Abb(q u p v:Str):T:=match Cq q p with|(s,[],b)=>Ng s (hold (some u) nos b v)|(s,x::a,b)=>Ng s (hold none (upd nos x.toNat (.lf a u)) b v)
def Aah(q:Str)(k:T)(p v:Str):T:=match Cq q p with|(_,[],_)=>.no|(s,x::a,b)=>Ng s (hold none (upd nos x.toNat (Ng a k)) b v)
namespace T
def put:T->Str->Str->T
 |.no,p,v=>.lf p v
 |.lf q u,p,v=>if q=p then .lf p v else Abb q u p v
 |.way q k,p,v=>match A7 q p with|some r=>.way q (k.put r v)|none=>Aah q k p v
 |.br _ k,[],v=>.br (some v) k
 |.br o k,x::p,v=>.br o (upd k x.toNat ((k x.toNat).put p v))
def look:T->Str->Ya1 Str
 |.no,_=>none
 |.lf q v,p=>if q=p then some v else none
 |.way q k,p=>match A7 q p with|some r=>k.look r|none=>none
 |.br o _,[]=>o
 |.br _ k,x::p=>(k x.toNat).look p
end T
theorem K7:∀(s:Str) (t:T) (r:Str),(Ng s t).look r=match A7 s r with|some a=>t.look a|none=>none
 |[],t,r=>by simp[Ng,A7]
 |x::s,t,r=>by simp[Ng,T.look]
variable{x:UInt8}
theorem Jg{y:UInt8}(h:x≠y):x.toNat≠y.toNat:=λe=>h (UInt8.toNat_inj.1 e)
theorem Afq(o:Ya1 Str)(k:Nat->T)(v:Str):∀(b:Str),(∀x b',b=x::b'->k x.toNat = .no)->∀r,(hold o k b v).look r=if r=b then some v else(T.br o k).look r
 |[],_,[]=>by simp[hold,T.look]
 |[],_,y::r=>by simp[hold,T.look]
 |x::b,h,[]=>by simp[hold,T.look]
 |x::b,h,y::r=>by
  simp only[hold,T.look];by_cases e:y=x
  ·subst e;rw[Iq,h y b rfl];simp only[T.look,Ze2,true_and];by_cases e2:r=b
   ·simp[e2]
   ·simp[e2,Ne.symm e2]
  ·rw[Mi (Jg e)];simp[e]
variable{a:Str}
theorem Aav{s b:Str}:s++a=s++b↔a=b:=by simp
variable{q:Str}{u:Str}
theorem Bau{p v:Str}(h:q≠p)(r:Str):(Abb q u p v).look r=if r=p then some v else if r=q then some u else none:=by
 have g:=Ga q p;have i:=@G6 q p;unfold Abb;generalize Cq q p=z at g i;obtain⟨s,a,b⟩:=z;simp only at g i;obtain⟨rfl,rfl⟩:=g;have k:a≠b:=λe=>h (by rw[e]);cases d:A7 s r with
 |none=>
  have j:∀c,r≠s++c:=λc e=>by rw[e,Fg]at d;cases d
  cases a<;>simp[K7,d,j,show r≠s fromλe=>j [] (by simpa using e)]
 |some f=>
  have e:=Bm.1 d;subst e;cases a with
  |nil=>
   simp only[K7,d];rw[Afq _ _ _ _ (λ_ _ _=>rfl)];have:(s++f = s++[])↔f = []:=by simp
   simp only[Aav,this];cases f<;>simp[T.look,nos]
  |cons x a=>
   simp only[K7,d];rw[Afq _ _ _ _ (λy b' e=>by rw[Mi (Jg (Ne.symm (i (x:=x) rfl e)))];rfl)];simp only[Aav];cases f with
   |nil=>simp[T.look]
   |cons y f=>
    simp only[T.look];by_cases e:y=x
    ·subst e;rw[Iq];simp only[T.look,Ze2,true_and];by_cases e2:f = a
     ·simp[e2]
     ·simp[e2,Ne.symm e2]
    ·rw[Mi (Jg e)];simp[T.look,nos,e]
theorem Ba4{k:T}{p v:Str}(h:A7 q p=none)(r:Str):(Aah q k p v).look r=if r=p then some v else(T.way q k).look r:=by
 have i:=Ga q p;have j:=@G6 q p;unfold Aah;generalize Cq q p=z at i j;obtain⟨s,a,b⟩:=z;simp only at i j;obtain⟨rfl,rfl⟩:=i;cases a with
 |nil=>simp[Fg]at h
 |cons x a=>
  simp only[K7,T.look];cases l:A7 s r with
  |none=>
   have m:∀c,r≠s++c:=λc e=>by rw[e,Fg]at l;cases l
   have o:A7 (s++x::a) r=none:=by cases g:A7 (s++x::a) r with|none=>rfl|some z=>have:=Bm.1 g;rw[Zj1]at this;exact absurd this (m _)
   simp[m,o]
  |some f=>
   have e:=Bm.1 l;subst e;simp only;rw[Afq _ _ _ _ (λy b' e=>by rw[Mi (Jg (Ne.symm (j (x:=x) rfl e)))];rfl)];simp only[Aav];by_cases n:f = b
   ·simp[n]
   ·simp only[n,if_false];cases f with
    |nil=>
     have:A7 (s++x::a) (s++[])=none:=by cases g:A7 (s++x::a) (s++[])with|none=>rfl|some z=>have:=Bm.1 g;simp at this
     simp only[this,T.look]
    |cons y f=>
     simp only[T.look];by_cases e:y=x
     ·subst e;rw[Iq,K7];have:A7 (s++y::a) (s++y::f)=A7 a f:=by
       cases g:A7 a f with
       |some z=>rw[Bm]at g ⊢;rw[g];simp
       |none=>cases d:A7 (s++y::a) (s++y::f)with|none=>rfl|some z=>rw[Bm]at d;simp at d;rw[d,Fg]at g;cases g
      rw[this]
     ·rw[Mi (Jg e)];have:A7 (s++x::a) (s++y::f)=none:=by cases d:A7 (s++x::a) (s++y::f)with|none=>rfl|some z=>rw[Bm]at d;simp at d;exact absurd d.1 e
      simp[T.look,nos,this]
theorem Am4:∀(t:T) (p v r:Str),(t.put p v).look r=if r=p then some v else t.look r
 |.no,p,v,r=>by simp only[T.put,T.look];by_cases e:r=p<;>simp[e,Ne.symm,eq_comm (a:=p)]
 |.lf q u,p,v,r=>by
  simp only[T.put];split
  ·rename_i e;subst e;simp only[T.look];by_cases e:r=q
   ·simp[e]
   ·simp[e,Ne.symm e]
  ·rename_i e;rw[Bau e];simp only[T.look];by_cases c:r=p
   ·simp[c]
   ·simp only[c,if_false];by_cases e2:r=q
    ·simp[e2]
    ·simp[e2,Ne.symm e2]
 |.way q k,p,v,r=>by
  simp only[T.put];split
  ·rename_i d e;have f:=Bm.1 e;subst f;simp only[T.look];cases b:A7 q r with
   |none=>
    have:r≠q++d:=λe=>by rw[e,Fg]at b;cases b
    simp[this]
   |some g=>have:=Bm.1 b;subst this;simp only[Am4 k,Aav]
  ·rename_i e;exact Ba4 e r
 |.br o k,[],v,r=>by cases r<;>simp[T.put,T.look]
 |.br o k,x::p,v,r=>by
  cases r with
  |nil=>simp[T.put,T.look]
  |cons y r=>
   simp only[T.put,T.look];by_cases e:y=x
   ·subst e;rw[Iq,Am4];simp
   ·rw[Mi (Jg e)];simp[e]
def hv(p:Str):Prop:=∀x,x∈p->x.toNat<16
theorem Aaa:hv []:=λ_ h=>by cases h
theorem Fs{b:Str}:hv (a++b)↔hv a/\hv b:=by simp only[hv,List.mem_append];exact⟨λh=>⟨λx c=>h x (.inl c),λx c=>h x (.inr c)⟩,λh x c=>c.elim (h.1 x) (h.2 x)⟩
theorem D2:hv (x::a)↔x.toNat<16/\hv a:=by simp[hv]
def Arw(o:Ya1 Str)(k:Nat->T):Nat:=(if o.isSome then 1 else 0)+(List.range 16).countP λi=> !(k i).isNo
def T.Wf:T->Nat->Prop|.no,d=>d<=400|.lf p v,d=>hv p/\d+p.length<=400/\(d+p.length) % 2=0/\v.length<=4000|.way p k,d=>hv p/\p≠[]/\k.isBr=true/\k.Wf (d+p.length)|.br o k,d=>d+1<=400/\(∀v,o=some v->d % 2=0/\v.length<=4000)/\2<=Arw o k/\∀i,i<16->(k i).Wf (d+1)
theorem Wf.le:∀{d:Nat},t.Wf d->d<=400:=by
 cases t with
 |no=>exactλh=>h
 |lf p v=>intro d h;have:=h.2.1;omega
 |way p k=>intro d h;cases k with|br o k=>have:=h.2.2.2.1;omega|_=>cases h.2.2.1
 |br o k=>intro d h;have:=h.1;omega
theorem two:∀x y:Fin 16,x≠y->2<=(List.range 16).countP (λi=>i == x.val||i == y.val):=by decide
variable{o:Ya1 Str}
theorem Awb{o':Ya1 Str}{a:Nat->T}(b:o.isSome=true->o'.isSome=true)(c:∀i,i<16->(k i).isNo=false->(a i).isNo=false):Arw o k<=Arw o' a:=by
 have d:(List.range 16).countP (λi=> !(k i).isNo)<=(List.range 16).countP λi=> !(a i).isNo:=List.countP_mono_left λi hi h=>by have:=c i (List.mem_range.1 hi);simp at h ⊢;exact this h
 unfold Arw;cases h:o.isSome with|true=>simp[b h];exact d|false=>simp;omega
theorem Br1{x y:Nat}(a:x<16)(b:y<16)(h:x≠y)(c:(k x).isNo=false)(d:(k y).isNo=false) : 2<=Arw o k:=by
 have f:=two ⟨x,a⟩ ⟨y,b⟩ λe=>h (by simpa using e);have g:(List.range 16).countP (λi=>i == x||i == y)<=(List.range 16).countP λi=> !(k i).isNo:=List.countP_mono_left λi hi h=>by
  simp at h ⊢;rcases h with rfl|rfl
  ·exact c
  ·exact d
 unfold Arw;simp at f;omega
theorem A7p{v:Str}{x:Nat}(a:x<16)(b:(k x).isNo=false) : 2<=Arw (some v) k:=by have : 0<(List.range 16).countP λi=> !(k i).isNo:=List.countP_pos_iff.2 ⟨x,List.mem_range.2 a,by simp[b]⟩;unfold Arw;simp;omega
theorem Aa9:∀{s:Str}{t:T}{d:Nat},hv s->t.isBr=true->t.Wf (d+s.length)->(Ng s t).Wf d/\(Ng s t).isNo=false
 |[],t,d,_,h,h2=>⟨h2,by cases t<;>first|rfl|cases h⟩
 |x::s,t,d,h,h1,h2=>⟨⟨h,by simp,h1,h2⟩,rfl⟩
theorem A0x(o:Ya1 Str)(k:Nat->T)(b v:Str):(hold o k b v).isBr=true:=by cases b<;>rfl
def B6v(o:Ya1 Str)(k:Nat->T)(d:Nat):Prop:=d+1<=400/\(∀v,o=some v->d % 2=0/\v.length<=4000)/\∀i,i<16->(k i).Wf (d+1)
theorem Axr{d:Nat}(h:∀i,i<16->(k i).Wf d)(a:t.Wf d):∀j,j<16->(upd k i t j).Wf d:=λj b=>by
 unfold upd;split
 ·exact a
 ·exact h j b
theorem Axg{b v:Str}{d:Nat}(h:B6v o k d)(hb:hv b)(hd:d+b.length<=400)(g:(d+b.length) % 2=0)(i:v.length<=4000)
  (hm:(b=[]/\∃x,x<16/\(k x).isNo=false)\/(∃y b',b=y::b'/\(o.isSome=true\/∃x,x<16/\x≠y.toNat/\(k x).isNo=false))):(hold o k b v).Wf d:=by
 rcases hm with ⟨rfl,x,c,f⟩|⟨y,b',rfl,hm⟩
 ·exact⟨h.1,λw e=>by cases e;exact⟨by simpa using g,i⟩,A7p c f,h.2.2⟩
 ·have hb:=D2.1 hb;simp only[Zf1]at hd g;refine⟨h.1,h.2.1,?_,Axr h.2.2 ⟨hb.2,by omega,by omega,i⟩⟩;rcases hm with j|⟨x,c,a,f⟩
  ·obtain⟨w,rfl⟩:=Option.isSome_iff_exists.1 j;exact A7p hb.1 (by rw[Iq];rfl)
  ·exact Br1 c hb.1 a (by rw[Mi a];exact f) (by rw[Iq];rfl)
theorem A9i{d:Nat}(h:d<=400):∀i,i<16->(nos i).Wf d:=λ_ _=>h
theorem Bt7{p v:Str}{d:Nat}(h:q≠p)(r:(T.lf q u).Wf d)(f:hv p)(hd:d+p.length<=400)(m:(d+p.length) % 2=0)(n:v.length<=4000):(Abb q u p v).Wf d/\(Abb q u p v).isNo=false:=by
 have g:=Ga q p;have i:=@G6 q p;unfold Abb;generalize Cq q p=z at g i;obtain⟨s,a,b⟩:=z;simp only at g i;obtain⟨rfl,rfl⟩:=g;obtain⟨c,j,k,o⟩:=r;have c:=Fs.1 c;have f:=Fs.1 f;simp only[Zh1]at j k hd m;cases a with
 |nil=>cases b with|nil=>exact absurd rfl h|cons y b=>simp only[Zf1,Zi1]at j k hd m;exact Aa9 c.1 (A0x ..) (Axg ⟨by omega,λw e=>by cases e;exact⟨by omega,o⟩,A9i (by omega)⟩ f.2 (by simp;omega) (by simp;omega) n (.inr ⟨y,b,rfl,.inl rfl⟩))
 |cons x a=>simp only[Zf1]at j k;have l:=D2.1 c.2;refine Aa9 c.1 (A0x ..) (Axg ⟨by omega,λw e=>(by cases e),Axr (A9i (by omega)) ⟨l.2,by omega,by omega,o⟩⟩ f.2 (by omega) (by omega) n ?_);cases b with|nil=>exact .inl ⟨rfl,x.toNat,l.1,by rw[Iq];rfl⟩|cons y b=>exact .inr ⟨y,b,rfl,.inr ⟨x.toNat,l.1,Jg (i rfl rfl),by rw[Iq];rfl⟩⟩
theorem Btk{k:T}{p v:Str}{d:Nat}(h:A7 q p=none)(n:(T.way q k).Wf d)(g:hv p)(hd:d+p.length<=400)(o:(d+p.length) % 2=0)(r:v.length<=4000):(Aah q k p v).Wf d/\(Aah q k p v).isNo=false:=by
 have i:=Ga q p;have j:=@G6 q p;unfold Aah;generalize Cq q p=z at i j;obtain⟨s,a,b⟩:=z;simp only at i j;obtain⟨rfl,rfl⟩:=i;obtain⟨c,_,u,f⟩:=n;have c:=Fs.1 c;have g:=Fs.1 g;have hle:=Wf.le f;simp only[Zh1]at hle f hd o;cases a with
 |nil=>simp[Fg]at h
 |cons x a=>simp only[Zf1]at f hle;have l:=D2.1 c.2;have m:=Aa9 (s:=a) (t:=k) (d:=d+s.length+1) l.2 u (by rw[show d+s.length+1+a.length=d+(s.length+(a.length+1)) by omega];exact f);refine Aa9 c.1 (A0x ..) (Axg ⟨by omega,λw e=>(by cases e),Axr (A9i (by omega)) m.1⟩ g.2 (by omega) (by omega) r ?_);cases b with|nil=>exact .inl ⟨rfl,x.toNat,l.1,by rw[Iq];exact m.2⟩|cons y b=>exact .inr ⟨y,b,rfl,.inr ⟨x.toNat,l.1,Jg (j rfl rfl),by rw[Iq];exact m.2⟩⟩
theorem Bbg:∀{t:T}{p v:Str}{d:Nat},t.Wf d->hv p->d+p.length<=400->(d+p.length) % 2=0->v.length<=4000->(t.put p v).Wf d/\(t.put p v).isNo=false/\(t.isBr=true->(t.put p v).isBr=true)
 |.no,p,v,d,h,hp,hd,he,hl=>⟨⟨hp,hd,he,hl⟩,rfl,λh=>by cases h⟩
 |.lf q u,p,v,d,h,hp,hd,he,hl=>by
  simp only[T.put];split
  ·exact⟨⟨hp,hd,he,hl⟩,rfl,λh=>by cases h⟩
  ·rename_i e;have:=Bt7 e h hp hd he hl;exact⟨this.1,this.2,λh=>by cases h⟩
 |.way q k,p,v,d,h,hp,hd,he,hl=>by
  simp only[T.put];split
  ·rename_i r e;have e:=Bm.1 e;subst e;simp only[Zh1]at hd he;have:=Bbg (p:=r) (v:=v) h.2.2.2 (Fs.1 hp).2 (by omega) (by omega) hl;exact⟨⟨h.1,h.2.1,this.2.2 h.2.2.1,this.1⟩,rfl,λh=>by cases h⟩
  ·rename_i e;have:=Btk e h hp hd he hl;exact⟨this.1,this.2,λh=>by cases h⟩
 |.br o k,[],v,d,h,hp,hd,he,hl=>⟨⟨h.1,λw e=>by cases e;exact⟨by simpa using he,hl⟩,Nat.le_trans h.2.2.1 (Awb (λ_=>rfl) λ_ _ h=>h),h.2.2.2⟩,rfl,λ_=>rfl⟩
 |.br o k,x::p,v,d,h,hp,hd,he,hl=>by
  have a:=D2.1 hp;simp only[Zf1]at hd he;have:=Bbg (p:=p) (v:=v) (h.2.2.2 x.toNat a.1) a.2 (by omega) (by omega) hl;refine⟨⟨h.1,h.2.1,Nat.le_trans h.2.2.1 (Awb (λh=>h) λi _ hi=>?_),Axr h.2.2.2 this.1⟩,rfl,λ_=>rfl⟩;unfold upd;split
  ·exact this.2.1
  ·exact hi
theorem Ajd:∀{t:T}{r v:Str}{d:Nat},t.Wf d->hv r->t.look r=some v->d+r.length<=400/\(d+r.length) % 2=0/\v.length<=4000
 |.no,r,v,d,h,hr,e=>by cases e
 |.lf q u,r,v,d,h,hr,e=>by
  simp only[T.look]at e;split at e
  ·rename_i e2;subst e2;cases e;exact h.2
  ·cases e
 |.way q k,r,v,d,h,hr,e=>by
  simp only[T.look]at e;split at e
  ·rename_i b e2;have e2:=Bm.1 e2;subst e2;have:=Ajd h.2.2.2 (Fs.1 hr).2 e;simp only[Zh1];omega
  ·cases e
 |.br o k,[],v,d,h,hr,e=>by have:=h.2.1 v e;have:=h.1;simp;omega
 |.br o k,x::r,v,d,h,hr,e=>by have a:=D2.1 hr;have:=Ajd (h.2.2.2 x.toNat a.1) a.2 e;simp only[Zf1];omega
def T.items:T->Str->Yb1 (Str×Str)|.no,_=>[]|.lf p v,w=>[(w++p,v)]|.way p k,w=>k.items (w++p)|.br o k,w=>(match o with|some v=>[(w,v)]|none=>[])++(List.range 16).flatMap λi=>(k i).items (w++[UInt8.ofNat i])
theorem F5:∀{t:T}{w q v:Str}{d:Nat},t.Wf d->((q,v)∈t.items w↔∃r,q=w++r/\hv r/\t.look r=some v)
 |.no,w,q,v,d,h=>by simp[T.items,T.look]
 |.lf p u,w,q,v,d,h=>by
  simp only[T.items,T.look,List.mem_singleton,Zp1];constructor
  ·rintro⟨rfl,rfl⟩;exact⟨p,rfl,h.1,by simp⟩
  ·rintro⟨r,rfl,a,e⟩;split at e
   ·rename_i e2;subst e2;cases e;exact⟨rfl,rfl⟩
   ·cases e
 |.way p k,w,q,v,d,h=>by
  simp only[T.items,T.look];rw[F5 h.2.2.2];constructor
  ·rintro⟨r,rfl,a,e⟩;exact⟨p++r,by simp,Fs.2 ⟨h.1,a⟩,by rw[Fg];exact e⟩
  ·rintro⟨r,rfl,a,e⟩;split at e
   ·rename_i c e2;have e2:=Bm.1 e2;subst e2;exact⟨c,by simp,(Fs.1 a).2,e⟩
   ·cases e
 |.br o k,w,q,v,d,h=>by
  simp only[T.items,List.mem_append,List.mem_flatMap,List.mem_range];constructor
  ·rintro(e|⟨i,hi,e⟩)
   ·cases o with|none=>cases e|some u=>simp at e;obtain⟨rfl,rfl⟩:=e;exact⟨[],by simp,Aaa,rfl⟩
   ·obtain⟨r,rfl,a,e⟩:=(F5 (h.2.2.2 i hi)).1 e;have f:(UInt8.ofNat i).toNat=i:=by simp[UInt8.toNat_ofNat'];omega
    exact⟨UInt8.ofNat i::r,by simp,D2.2 ⟨by omega,a⟩,by simp only[T.look,f];exact e⟩
  ·rintro⟨r,rfl,a,e⟩;cases r with|nil=>simp only[T.look]at e;subst e;exact .inl (by simp)|cons x r=>have b:=D2.1 a;refine .inr ⟨x.toNat,b.1,(F5 (h.2.2.2 _ b.1)).2 ⟨r,by simp,b.2,e⟩⟩
theorem Bay:∀(w:Str) {a b:Str},a<b->w++a<w++b
 |[],_,_,h=>h
 |x::w,_,_,h=>by simp only[Zb2];exact List.cons_lt_cons_iff.2 (.inr ⟨rfl,Bay w h⟩)
theorem P3:∀{t:T}{w:Str}{d:Nat},t.Wf d->(t.items w).Pairwise λa b=>a.1<b.1
 |.no,w,d,h=>by simp[T.items]
 |.lf p v,w,d,h=>by simp[T.items]
 |.way p k,w,d,h=>P3 (t:=k) h.2.2.2
 |.br o k,w,d,h=>by
  simp only[T.items];rw[List.pairwise_append];refine⟨by cases o<;>simp,?_,?_⟩
  ·rw[List.pairwise_flatMap];refine⟨λi hi=>P3 (h.2.2.2 i (List.mem_range.1 hi)),?_⟩;refine List.Pairwise.imp_of_mem ?_ (List.pairwise_lt_range (n:=16));intro i j hi e g a c b hb;have hi:=List.mem_range.1 hi;have e:=List.mem_range.1 e;obtain⟨r,l,_⟩:=(F5 (h.2.2.2 i hi)).1 (show(a.1,a.2)∈_ from c);obtain⟨s,f,_⟩:=(F5 (h.2.2.2 j e)).1 (show(b.1,b.2)∈_ from hb);rw[l,f,Zj1,Zj1];refine Bay w (List.cons_lt_cons_iff.2 (.inl ?_));rw[UInt8.lt_iff_toNat_lt];simp[UInt8.toNat_ofNat'];omega
  ·intro a c b hb;cases o with|none=>cases c|some v=>simp at c;subst c;obtain⟨i,hi,hb⟩:=List.mem_flatMap.1 hb;obtain⟨s,f,_⟩:=(F5 (h.2.2.2 i (List.mem_range.1 hi))).1 (show(b.1,b.2)∈_ from hb);rw[f,Zj1];simpa using Bay w (a:=[]) (List.nil_lt_cons (UInt8.ofNat i) s)
def signsL:Yb1 (Int×Str):=[(4,[65,78,68]),(5,[79,82]),(6,[61]),(7,[60,62]),(8,[60]),(9,[60,61]),(10,[62]),(11,[62,61]),(12,[43]),(13,[45]),(14,[42])]
def ttL:Yb1 (Nat×Ax.Ty):=[(3,.int .i64),(4,.bool),(5,.int .u8),(9,.str),(21,.int .i32),(22,.sl .col),(23,.sl .str),(24,.sl .expr),(25,.sl .idx),(27,.st (some .tbl) [(0,9),(1,22),(2,23),(3,24),(4,25)] [.str [],.sl .col [] .nil,.sl .str [] .nil,.sl .expr [] .nil,.sl .idx [] .nil]),(28,.sl .val),(30,.sl .vals),(31,.fn),(32,.sl .kv),(33,.int .i64),(40,.ptr),(43,.sl .byte),(44,.sl .node),(46,.st (some .node) [(0,3),(1,43),(2,4),(3,43),(4,44),(5,43)] [.int .i64 0,.sl .byte [] .nil,.bool false,.sl .byte [] .nil,.sl .node [] .nil,.sl .byte [] .nil]),(54,.st (some .col) [(0,9),(1,3),(2,4),(3,4),(4,9)] [.str [],.int .i64 0,.bool false,.bool false,.str []]),(56,.st (some .val) [(0,3),(1,3),(2,9)] [.int .i64 0,.int .i64 0,.str []]),(59,.st (some .idx) [(0,9),(1,23)] [.str [],.sl .str [] .nil]),(60,.int .u64),(72,.st (some .lay) [(0,32),(1,33)] [.sl .kv [] .nil,.int .i64 0]),(75,.sl .lay),(77,.sl .ent),(80,.st (some .kv) [(0,43),(1,43)] [.sl .byte [] .nil,.sl .byte [] .nil]),(82,.st (some .ent) [(0,3),(1,80)] [.int .i64 0,.sl .byte [] .nil,.sl .byte [] .nil]),(86,.st (some .stt) [(0,46)] [.int .i64 0,.sl .byte [] .nil,.bool false,.sl .byte [] .nil,.sl .node [] .nil,.sl .byte [] .nil]),(87,.sl .stt),(89,.st none [(0,86),(6,87),(7,43)] [.int .i64 0,.sl .byte [] .nil,.bool false,.sl .byte [] .nil,.sl .node [] .nil,.sl .byte [] .nil,.sl .stt [] .nil,.sl .byte [] .nil]),(106,.sl .exprs),(107,.sl .set),(109,.st (some .expr) [(0,3),(1,56),(4,9),(5,24)] [.int .i64 0,.int .i64 0,.int .i64 0,.str [],.str [],.sl .expr [] .nil]),(110,.sl .bool),(112,.st (some .stmt) [(0,3),(1,9),(2,9),(3,22),(4,23),(5,24),(6,106),(7,107),(8,4),(9,109),(15,23),(16,110),(17,3)] [.int .i64 0,.str [],.str [],.sl .col [] .nil,.sl .str [] .nil,.sl .expr [] .nil,.sl .exprs [] .nil,.sl .set [] .nil,.bool false,.int .i64 0,.int .i64 0,.int .i64 0,.str [],.str [],.sl .expr [] .nil,.sl .str [] .nil,.sl .bool [] .nil,.int .i64 0]),(117,.fn),(140,.sl .kvs),(154,.int .u64),(161,.st (some .set) [(0,9),(1,109)] [.str [],.int .i64 0,.int .i64 0,.int .i64 0,.str [],.str [],.sl .expr [] .nil]),(173,.ptr),(189,.st (some .span) [(0,43),(1,43),(2,4)] [.sl .byte [] .nil,.sl .byte [] .nil,.bool false]),(193,.ptr),(195,.st none [(0,43),(1,3),(2,33)] [.sl .byte [] .nil,.int .i64 0,.int .i64 0]),(197,.fn),(212,.arr 2 .int),(221,.fn),(225,.fn),(228,.st none [(0,80),(2,43)] [.sl .byte [] .nil,.sl .byte [] .nil,.sl .byte [] .nil]),(234,.fn),(236,.fn),(238,.sl .bytes),(239,.ptr),(253,.fn),(258,.fn),(266,.ptr),(267,.fn),(275,.int .u32),(283,.fn),(292,.map),(299,.sl .int),(301,.st (some .num) [(0,4),(1,299)] [.bool false,.sl .int [] .nil]),(315,.fn),(319,.fn),(326,.arr 256 .byte),(328,.st none [(0,5),(1,5)] [.int .u8 0,.int .u8 0])]
def elT:Ck->TypeId|.byte=>5|.int=>3|.u64=>154|.str=>9|.bool=>4|.val=>56|.col=>54|.expr=>109|.num=>301|.set=>161|.stmt=>112|.idx=>59|.tbl=>27|.node=>46|.stt=>86|.kv=>80|.kvs=>32|.lay=>72|.ent=>82|.span=>189|.vals=>28|.exprs=>24|.strs=>23|.bytes=>43|_=>0
theorem Z0:(ttL.all λp=>C0 Tryz.prog elT (Ako ttL) p.1)=true:=by kernel_rfl
def glT:Nat->Ya1 Gv:=tbl [(0,.num .i64),(2,.map signsL)]
theorem follows:Tryz.prog.follows .mixedOrders=true:=by kernel_rfl
abbrev FO:=FnOk Tryz.prog elT glT
abbrev FM:=FnLn Tryz.prog elT glT
abbrev HX:=Hx Tryz.prog elT glT (Ako ttL)
def pxO{R:Type}(c:Yb1 (Nat×Fa R))(q:Yb1 (Nat×Ez R))(l:Yb1 (Nat×A5e R))(w:Yb1 (Nat×G4 R)):Px R:=⟨Ako ttL,glT,Bei c,A0d q,B44 l,tbl w,λ_ _ _ _=>none⟩
abbrev cA{R:Type}{sa sr:Yb1 Sg}(F:FT sa sr):Fa R:=Mb sa sr F
abbrev qA{R:Type}{sa sr:Yb1 Sg}(F:FT sa sr):Ez R:=J3 sa sr F
variable{c:Code}{f:FuncId}{fn:Func}
theorem fR{sa sr:Yb1 Sg}{px:Px (HV sr)}{F:FT sa sr}{n:Nat}(d:Tryz.prog.funcs[f]? = some fn)(hb:fn.body=some c)(h:∀cx,HX cx->Lv cx px/\∀i,i<n->Bp cx px (lp fn i))(e:∀x,Ae1 px fn sa sr x some=F x)(a:(fn.name == "runtime.NumGoroutine")=false:=by kernel_rfl)(b:(Sb fn&&Nat.ble sa.length fn.ntmps&&Dk (Bb 0 sa) [])=true:=by kernel_rfl)(g:Mg fn=n:=by kernel_rfl):FO f sa sr F:=fO (Ani Z0) follows d hb a b g h e
theorem fRL{sg so:Sig}{px:Px (HV so.sgs)}{F:FL sg so}{n:Nat}(d:Tryz.prog.funcs[f]? = some fn)(hb:fn.body=some c)(h:∀cx,HX cx->Lv cx px/\∀i,i<n->Bp cx px (lp fn i))(e:∀x,H7 px fn sg so x some=F x)(a:(fn.name == "runtime.NumGoroutine")=false:=by kernel_rfl)(b:(Sb fn&&Nat.ble sg.n fn.ntmps)=true:=by kernel_rfl)(g:Mg fn=n:=by kernel_rfl):FM f sg so F:=fL (Ani Z0) follows d hb a b g h e
end Go.Proofs.YtcoaaebppfbbnaaGreatDoor
namespace Go.Proofs.YtcoaaebppfbbnaaGreatDoor
open Go.Sx Go.RowKit
theorem B1z:ElTy Tryz.prog 23 9 1 16:=elTy_of (by kernel_rfl)
theorem B1w:ElTy Tryz.prog 22 54 5 48:=elTy_of (by kernel_rfl)
theorem Bgk:ElTy Tryz.prog 24 109 6 80:=elTy_of (by kernel_rfl)
theorem Qq:ElTy Tryz.prog 25 59 2 40:=elTy_of (by kernel_rfl)
def Dp(t:TypeId)(sz n:Nat)(xs:Yb1 Value):Value->Sx.Loc->(World->Prop)->Prop:=λv L _=>L=[.row v t sz n xs]
theorem Ik{cx:Sx.Cx}{L:Sx.Loc}{F:World->Prop}{t:TypeId}{sz n:Nat}{xs:Yb1 Value}{Φ:Sx.Loc->(World->Prop)->Prop}(b:∀w,F w->n=0/\xs=[])(h : Φ (.row (.slice none 0 0) t sz n xs::L) F):Rt cx L F Φ:=.mk λw a=>by obtain⟨c,d⟩:=b w a.here;subst c d;exact⟨_,_,h,a.newRow t sz⟩
theorem Pl{a:Ya1 Addr}{n c sz:Nat}{xs:Yb1 Value}(f:a.isNone=true)(w:World)(h:RdS (.slice a n c) sz n xs w):n=0/\xs=[]:=by
 obtain⟨i,a',k,g,j⟩:=h;have d:n=0:=by
  rcases j with d|⟨b,off,e,_⟩
  ·exact d
  ·simp only[Value.slice.injEq]at g;rw[g.1,e]at f;cases f
 subst d;exact⟨rfl,List.eq_nil_of_length_eq_zero (by simpa using i)⟩
set_option maxRecDepth 20000 in
theorem A06(a:Ya1 Addr)(n c:Nat)(xs:Yb1 Value)(e:xs.all one=true)(d:n<=2000000):Con Tryz.prog 178 [.slice a n c] [] (RdS (.slice a n c) 1 n xs) (Dp 9 1 n xs):=by
 refine Bq Tryz.func178 Tryz.ntmps178 rfl (by kernel_rfl) rfl λw M=>?_
 repeat' (first|(refine Fl ?_;(first|refine Cl ?_|(apply Av rfl rfl;(first|exact p_move rfl|exact p_assign rfl))|(apply Av rfl rfl;exact I7 1 (by dsimp only;decide +kernel) rfl rfl)|(refine Gp rfl rfl B1z rfl rfl rfl rfl ?_;intro b)))|(refine Fq ?_;(first|refine Ei ?_|refine Bh ?_|refine E3 ?_|(refine Iw rfl ?_ ?_<;>intro hc<;>try contradiction)|refine Ci rfl rfl ?_))|(refine Fj ?_;(first|refine Cm ?_))|fail)
 ·exact Ik (Pl (by assumption)) rfl
 ·refine Ld 1 ?_;refine Kw 0 rfl rfl B1z rfl rfl rfl (Kx (λw h=>h)) e (by omega) (by omega) ?_;intro f
  repeat' (first|(refine Fl ?_;(first|refine Cl ?_|(apply Av rfl rfl;(first|exact p_assign rfl))))|(refine Fq ?_;(first|refine Ci rfl rfl ?_))|(refine Fj ?_;(first|refine Cm ?_))|fail)
  refine B9 ?_;simp[Dp]
set_option maxRecDepth 20000 in
theorem Azm(a:Ya1 Addr)(n c:Nat)(xs:Yb1 Value)(e:xs.all one=true)(d:n<=2000000):Con Tryz.prog 177 [.slice a n c] [] (RdS (.slice a n c) 5 n xs) (Dp 54 5 n xs):=by
 refine Bq Tryz.func177 Tryz.ntmps177 rfl (by kernel_rfl) rfl λw M=>?_
 repeat' (first|(refine Fl ?_;(first|refine Cl ?_|(apply Av rfl rfl;(first|exact p_move rfl|exact p_assign rfl))|(apply Av rfl rfl;exact I7 5 (by dsimp only;decide +kernel) rfl rfl)|(refine Gp rfl rfl B1w rfl rfl rfl rfl ?_;intro b)))|(refine Fq ?_;(first|refine Ei ?_|refine Bh ?_|refine E3 ?_|(refine Iw rfl ?_ ?_<;>intro hc<;>try contradiction)|refine Ci rfl rfl ?_))|(refine Fj ?_;(first|refine Cm ?_))|fail)
 ·exact Ik (Pl (by assumption)) rfl
 ·refine Ld 5 ?_;refine Kw 0 rfl rfl B1w rfl rfl rfl (Kx (λw h=>h)) e (by omega) (by omega) ?_;intro f
  repeat' (first|(refine Fl ?_;(first|refine Cl ?_|(apply Av rfl rfl;(first|exact p_assign rfl))))|(refine Fq ?_;(first|refine Ci rfl rfl ?_))|(refine Fj ?_;(first|refine Cm ?_))|fail)
  refine B9 ?_;simp[Dp]
set_option maxRecDepth 20000 in
theorem Az5(a:Ya1 Addr)(n c:Nat)(xs:Yb1 Value)(e:xs.all one=true)(d:n<=2000000):Con Tryz.prog 225 [.slice a n c] [] (RdS (.slice a n c) 6 n xs) (Dp 109 6 n xs):=by
 refine Bq Tryz.func225 Tryz.ntmps225 rfl (by kernel_rfl) rfl λw M=>?_
 repeat' (first|(refine Fl ?_;(first|refine Cl ?_|(apply Av rfl rfl;(first|exact p_move rfl|exact p_assign rfl))|(apply Av rfl rfl;exact I7 6 (by dsimp only;decide +kernel) rfl rfl)|(refine Gp rfl rfl Bgk rfl rfl rfl rfl ?_;intro b)))|(refine Fq ?_;(first|refine Ei ?_|refine Bh ?_|refine E3 ?_|(refine Iw rfl ?_ ?_<;>intro hc<;>try contradiction)|refine Ci rfl rfl ?_))|(refine Fj ?_;(first|refine Cm ?_))|fail)
 ·exact Ik (Pl (by assumption)) rfl
 ·refine Ld 6 ?_;refine Kw 0 rfl rfl Bgk rfl rfl rfl (Kx (λw h=>h)) e (by omega) (by omega) ?_;intro f
  repeat' (first|(refine Fl ?_;(first|refine Cl ?_|(apply Av rfl rfl;(first|exact p_assign rfl))))|(refine Fq ?_;(first|refine Ci rfl rfl ?_))|(refine Fj ?_;(first|refine Cm ?_))|fail)
  refine B9 ?_;simp[Dp]
set_option maxRecDepth 20000 in
theorem Az6(a:Ya1 Addr)(n c:Nat)(xs:Yb1 Value)(e:xs.all one=true)(d:n<=2000000):Con Tryz.prog 185 [.slice a n c] [] (RdS (.slice a n c) 2 n xs) (Dp 59 2 n xs):=by
 refine Bq Tryz.func185 Tryz.ntmps185 rfl (by kernel_rfl) rfl λw M=>?_
 repeat' (first|(refine Fl ?_;(first|refine Cl ?_|(apply Av rfl rfl;(first|exact p_move rfl|exact p_assign rfl))|(apply Av rfl rfl;exact I7 2 (by dsimp only;decide +kernel) rfl rfl)|(refine Gp rfl rfl Qq rfl rfl rfl rfl ?_;intro b)))|(refine Fq ?_;(first|refine Ei ?_|refine Bh ?_|refine E3 ?_|(refine Iw rfl ?_ ?_<;>intro hc<;>try contradiction)|refine Ci rfl rfl ?_))|(refine Fj ?_;(first|refine Cm ?_))|fail)
 ·exact Ik (Pl (by assumption)) rfl
 ·refine Ld 2 ?_;refine Kw 0 rfl rfl Qq rfl rfl rfl (Kx (λw h=>h)) e (by omega) (by omega) ?_;intro f
  repeat' (first|(refine Fl ?_;(first|refine Cl ?_|(apply Av rfl rfl;(first|exact p_assign rfl))))|(refine Fq ?_;(first|refine Ci rfl rfl ?_))|(refine Fj ?_;(first|refine Cm ?_))|fail)
  refine B9 ?_;simp[Dp]
set_option maxRecDepth 20000 in
theorem Arx(a:Ya1 Addr)(c:Nat):Con Tryz.prog 225 [.slice a 0 c] [] (λ_=>True) (λv _ _=>∃a',v = .slice a' 0 0):=by
 refine Bq Tryz.func225 Tryz.ntmps225 rfl (by kernel_rfl) rfl λw M=>?_
 repeat' (first|(refine Fl ?_;(first|refine Cl ?_|(apply Av rfl rfl;(first|exact p_move rfl|exact p_assign rfl))|(apply Av rfl rfl;exact I7 6 (by dsimp only;decide +kernel) rfl rfl)|(refine Gp rfl rfl Bgk rfl rfl rfl rfl ?_;intro b)|(apply Av rfl rfl;exact Ael Bgk rfl rfl)))|(refine Fq ?_;(first|refine Ei ?_|refine Bh ?_|refine E3 ?_|(refine Iw rfl ?_ ?_<;>intro hc<;>try contradiction)|refine Ci rfl rfl ?_))|(refine Fj ?_;(first|refine Cm ?_))|fail)
 ·exact B9 ⟨_,rfl⟩
 ·exact B9 ⟨_,rfl⟩
set_option maxRecDepth 20000 in
theorem Ar1(a:Ya1 Addr)(c:Nat):Con Tryz.prog 185 [.slice a 0 c] [] (λ_=>True) (λv _ _=>∃a',v = .slice a' 0 0):=by
 refine Bq Tryz.func185 Tryz.ntmps185 rfl (by kernel_rfl) rfl λw M=>?_
 repeat' (first|(refine Fl ?_;(first|refine Cl ?_|(apply Av rfl rfl;(first|exact p_move rfl|exact p_assign rfl))|(apply Av rfl rfl;exact I7 2 (by dsimp only;decide +kernel) rfl rfl)|(refine Gp rfl rfl Qq rfl rfl rfl rfl ?_;intro b)|(apply Av rfl rfl;exact Ael Qq rfl rfl)))|(refine Fq ?_;(first|refine Ei ?_|refine Bh ?_|refine E3 ?_|(refine Iw rfl ?_ ?_<;>intro hc<;>try contradiction)|refine Ci rfl rfl ?_))|(refine Fj ?_;(first|refine Cm ?_))|fail)
 ·exact B9 ⟨_,rfl⟩
 ·exact B9 ⟨_,rfl⟩
theorem Ad3{P:Program}(w:World)(c q e:TypeId)(l:P.underlying c=some (.slice e))(size:Nat)(m:∀w,(Go.sizeOf e).run P w = .ok size w)
  (a b:Addr) (la r lb s:Nat) (d:a.block≠b.block) (c1 c2:Array Value) (t1 t2:TypeId) (f1:Nat×Nat)
  (u:w.heap[a.block]? = some (.cells c1 t1 f1)) (hb:w.heap[b.block]? = some (.cells c2 t2 (0,0))) (v:c1.size≠0) :
  (Extern.SlicesOverlaps.overlaps #[c,c] #[q] #[.slice (some a) la r,.slice (some b) lb s]).run P w = .ok (.bool false) w:=by
 have g:(a.block != b.block)=true:=by simpa using d
 have f:(a.block == b.block)=false:=by simpa using d
 have h:w.shape? a.block=some (t1,c1.size):=by simp[World.shape?,u]
 have i:w.shape? b.block=some (t2,c2.size):=by simp[World.shape?,hb]
 have j:∀o sp,w.frozen? ⟨b.block,o,sp⟩=false:=λo sp=>by simp[World.frozen?,hb]
 change Sem.run P (α:=Value) (do
  let some t:=(#[c,c]:Array TypeId)[0]? | stuck "slices.overlaps: no parameter types"
  let .slice elem <-underlying t|stuck "slices.overlaps: slice type expected"
  let size <-sizeOf elem;match(some a:Ya1 Addr),(some b:Ya1 Addr)with
  |some a,some b=>
   if la=0\/lb=0\/size=0 then pure (Value.bool false)
   else if a.block != b.block&&(<-frozen a)&&(<-frozen b)then unsupported .addressObserved
   else do
    if a.block != b.block then do
     noView a;noView b
     if <-mayBeOne a b then return Value.bool ((<-choose (.extern "sameAddr.stringBytes" 2)) == 1)
    pure (Value.bool (a.block == b.block&&a.off<b.off+lb*size&&b.off<a.off+la*size))
  |_,_=>pure (Value.bool false)) w=_
 by_cases n:la=0\/lb=0\/size=0
 ·simp[run_underlying l,m,n]
 ·obtain⟨p,hk1⟩:∃p,c1.size=p+1:=⟨c1.size-1,by omega⟩;cases k:w.frozen? a<;>simp[run_underlying l,m,n,g,f,frozen,noView,viewAt,mayBeOne,stringish,shape,Sem.run,h,i,j,k,hk1]
section
variable {cx:Sx.Cx}{k:Yb1 KI}{e:Sx.Env}{L:Sx.Loc}{F:World->Prop}{Q:Exit->Act->World->Prop}{ops:Array Oper}{rest:Yb1 Oper}
theorem Bx2{dst:Nat}{fo x y:Operand}{ts:Array TypeId}{t o tR elem s:TypeId}{pos:String}{b:Array Edge}{g':Ya1 (Nat×Bool)}{f:FuncId}{g go lb p vb vo la q sz:Nat}{cs:Yb1 Value}(i:Nat)(hg:Gd ops e g' = some true)(hd:Nat.blt dst cx.n=true)
  (hf:Env.ev e fo=some (.func (.func f) #[] #[])) (hx:Env.ev e x=some (.slice (some ⟨vb,vo,none⟩) la q)) (hy:Env.ev e y=some (.slice (some ⟨g,go,none⟩) lb p)) (hi:L[i]? = some (.blk g cs s)) (z:vb≠g) (j:∀w,F w->∃u,w.cell? ⟨vb,vo,none⟩=some u)
  (l:∀args w,(callFunc f args).run cx.P w=((Extern.SlicesOverlaps.overlaps #[o,o] #[tR] args).run cx.P w).andThen λv w'=>.ok (.value v) w') (ht:cx.P.underlying o=some (.slice elem)) (hz:tySz cx.P elem=some sz)
  (h:O cx ops rest k ((dst,.bool false)::e) L F Q):O cx ops (⟨some dst,.call ⟨.value fo, #[x,y],ts⟩,t,pos,b,g'⟩::rest) k e L F Q:=by
 refine Xe (λr L' F'=>r = .bool false/\L' = L/\F' = F) hg hd (λa w he d=>⟨.bool false,w,L,F,?_,d,rfl,rfl,rfl⟩) (λr L' F' ⟨hr,hL,hF⟩=>by rw[hr,hL,hF];exact h);have a2:w.heap[g]? = some (.cells cs.toArray s (0,0)):=d.ok _ (List.mem_of_getElem? hi);obtain⟨u,m⟩:=j w d.here;obtain⟨c1,t1,f1,hh,hc1⟩:∃c1 t1 f1,w.heap[vb]? = some (.cells c1 t1 f1)/\c1.size≠0:=by
  unfold World.cell? at m;split at m
  ·rename_i c t' f' hh;refine⟨c,t',f',hh,λh0=>?_⟩;simp only[Option.isSome_none,Zj2,if_false]at m;have:=(Zh2.1 m).1;omega
  ·cases m
 have a3:=Ad3 (P:=cx.P) w o tR elem ht sz (λw=>Sx.run_sizeOf hz w) ⟨vb,vo,none⟩ ⟨g,go,none⟩ la q lb p z c1 _ t1 s f1 hh a2 hc1;simp only[execOp,resolve,he.ev hf,he.ev hx,he.ev hy,Deferred.ofValue,Sem.run_bind,Sem.run_pure,Result.andThen_ok,invoke,List.map_toArray,Zw1,List.map_nil];rw[show(#[] ++ #[Value.slice (some ⟨vb,vo,none⟩) la q,Value.slice (some ⟨g,go,none⟩) lb p] ++ #[]:Array Value) = #[Value.slice (some ⟨vb,vo,none⟩) la q,Value.slice (some ⟨g,go,none⟩) lb p] by simp,l,a3];rfl
end
def put(c z:Yb1 Value)(o:Nat):Yb1 Value:=c.take o++z++c.drop (o+z.length)
theorem P0{c z:Yb1 Value}{o:Nat}(h:o+z.length<=c.length):(put c z o).length=c.length:=by simp only[put,Zh1,List.length_take,Za2];omega
theorem Aja{c z:Yb1 Value}{o:Nat}(h:o+z.length<=c.length)(q:Nat):(put c z o)[q]? = if o<=q/\q<o+z.length then z[q-o]? else c[q]? :=by
 have a:(c.take o).length=o:=by simp;omega
 simp only[put,Zj1];by_cases b:q<o
 ·rw[List.getElem?_append_left (by omega),if_neg (by omega),List.getElem?_take,if_pos b]
 ·rw[List.getElem?_append_right (by omega),a];by_cases d:q<o+z.length
  ·rw[List.getElem?_append_left (by omega),if_pos (by omega)]
  ·rw[List.getElem?_append_right (by omega),if_neg (by omega),List.getElem?_drop];congr 1;omega
def A3t(cs ys:Yb1 Value)(i n:Nat):Yb1 Value:=cs.take (i*2)++ys++(cs.drop (i*2)).take ((n-i)*2)
theorem A2w{cs ys:Yb1 Value}{i n:Nat}(d:i<=n)(g:n*2<=cs.length)(e:ys.length=2)(q:Nat):(A3t cs ys i n)[q]? = if q<i*2 then cs[q]? else if q<i*2+2 then ys[q-i*2]? else if q<(n+1)*2 then cs[q-2]? else none:=by
 have f:(cs.take (i*2)).length=i*2:=by simp;omega
 have hd:((cs.drop (i*2)).take ((n-i)*2)).length=(n-i)*2:=by simp;omega
 simp only[A3t,Zj1];by_cases a:q<i*2
 ·rw[List.getElem?_append_left (by omega),if_pos a,List.getElem?_take,if_pos a]
 ·rw[List.getElem?_append_right (by omega),f,if_neg a];by_cases b:q<i*2+2
  ·rw[List.getElem?_append_left (by omega),if_pos b]
  ·rw[List.getElem?_append_right (by omega),if_neg b,e,List.getElem?_take,List.getElem?_drop];by_cases c:q<(n+1)*2
   ·rw[if_pos c,if_pos (by omega)];congr 1;omega
   ·rw[if_neg c,if_neg (by omega)]
theorem Bsn{cs ys Z:Yb1 Value}{i n:Nat}(a:i<=n)(j:(n+1)*2<=cs.length)(d:ys.length=2)(e:Z=(cs.drop (i*2)).take ((n-i)*2)):(put (put cs Z ((i+1)*2)) ys (i*2)).length=cs.length/\(put (put cs Z ((i+1)*2)) ys (i*2)).take ((n+1)*2)=A3t cs ys i n:=by
 have b:Z.length=(n-i)*2:=by rw[e];simp;omega
 have c:(i+1)*2+Z.length<=cs.length:=by omega
 have f:i*2+ys.length<=(put cs Z ((i+1)*2)).length:=by rw[P0 c];omega
 refine⟨by rw[P0 f,P0 c],List.ext_getElem? λq=>?_⟩;rw[List.getElem?_take,A2w a (by omega) d,Aja f,Aja c,b,d,e,List.getElem?_take,List.getElem?_drop];by_cases a1:q<(n+1)*2
 ·rw[if_pos a1];by_cases g:q<i*2
  ·rw[if_neg (by omega),if_neg (by omega),if_pos g]
  ·rw[if_neg g];by_cases h:q<i*2+2
   ·rw[if_pos (by omega),if_pos h]
   ·rw[if_neg (by omega),if_neg h,if_pos a1,if_pos (by omega),if_pos (by omega)];congr 1;omega
 ·rw[if_neg a1,if_neg (by omega),if_neg (by omega),if_neg a1]
theorem Bw6{cs ys c1 Z:Yb1 Value}{i n q:Nat}(a:i<=n)(o:n*2<=cs.length)(h:ys.length=2)(j:Z=(cs.drop (i*2)).take ((n-i)*2))(b:c1.take (i*2)=cs.take (i*2))(r:n+1<=q)(c:c1.length=q*2):(put (put c1 ys (i*2)) Z ((i+1)*2)).length=q*2/\(put (put c1 ys (i*2)) Z ((i+1)*2)).take ((n+1)*2)=A3t cs ys i n:=by
 have d:Z.length=(n-i)*2:=by rw[j];simp;omega
 have e:i*2+ys.length<=c1.length:=by omega
 have l:(i+1)*2+Z.length<=(put c1 ys (i*2)).length:=by rw[P0 e];omega
 refine⟨by rw[P0 l,P0 e,c],List.ext_getElem? λk=>?_⟩;rw[List.getElem?_take,A2w a o h,Aja l,Aja e,d,h,j,List.getElem?_take,List.getElem?_drop];have f:k<i*2->c1[k]? = cs[k]? :=λp=>by have:=congrArg (·[k]?) b;simpa[List.getElem?_take,p]using this
 by_cases a1:k<(n+1)*2
 ·rw[if_pos a1];by_cases g:k<i*2
  ·rw[if_neg (by omega),if_neg (by omega),if_pos g,f g]
  ·rw[if_neg g];by_cases m:k<i*2+2
   ·rw[if_neg (by omega),if_pos (by omega),if_pos m]
   ·rw[if_pos (by omega),if_pos (by omega),if_neg m,if_pos a1];congr 1;omega
 ·rw[if_neg a1,if_neg (by omega),if_neg (by omega),if_neg a1]
def Bxs(t:TypeId)(g n i cap:Nat)(cs ys:Yb1 Value):Value->Sx.Loc->(World->Prop)->Prop:=λv L _=>(∃cs',v = .slice (some ⟨g,0,none⟩) (n+1) cap/\n+1<=cap/\L=[.blk g cs' t]/\cs'.length=cs.length/\cs'.take ((n+1)*2)=A3t cs ys i n) \/ (∃b cap' cs',v = .slice (some ⟨b,0,none⟩) (n+1) cap'/\n+1<=cap'/\cap'<=maxLen/\L=[.blk b cs' t,.blk g cs t]/\cs'.length=cap'*2/\cs'.take ((n+1)*2)=A3t cs ys i n)
theorem B4l(args:Array Value)(w:World):(callFunc 226 args).run Tryz.prog w=((Extern.SlicesOverlaps.overlaps #[25,25] #[4] args).run Tryz.prog w).andThen λv w'=>.ok (.value v) w':=run_callFunc_extern Tryz.func226 (by kernel_rfl) rfl (by kernel_rfl) (e:=Extern.SlicesOverlaps.overlaps #[25,25] #[4]) (by kernel_rfl) args w
theorem B10{cs:Yb1 Value}{n i:Nat}(b:∀v,v∈cs.take (n*2)->one v=true)(c:i<=n){v:Value}(hv:v∈(cs.drop (i*2)).take ((n-i)*2)):one v=true:=by
 refine b v ?_;obtain⟨q,a⟩:=List.getElem?_of_mem hv;rw[List.getElem?_take]at a;split at a
 ·rw[List.getElem?_drop]at a;exact List.mem_of_getElem? ((List.getElem?_take_of_lt (by omega)).trans a)
 ·cases a
set_option maxRecDepth 20000 in
theorem Bzw(g n i cap vb vo vc:Nat)(cs ys:Yb1 Value)(y : 0<n)(b:i<=n)(x:n<=cap)(hl:cs.length=cap*2)(r:∀v,v∈cs.take (n*2)->one v=true)(k:ys.length=2)(d:∀v,v∈ys->one v=true)(m:vb≠g)(s:n<=2000000) :
  Con Tryz.prog 184 [.slice (some ⟨g,0,none⟩) n cap,.int .i64 i,.slice (some ⟨vb,vo,none⟩) 1 vc] [.blk g cs 59] (λw=>∀(j:Nat) v,ys[j]? = some v->w.cell? ⟨vb,vo+j,none⟩=some v) (Bxs 59 g n i cap cs ys):=by
 refine Bq Tryz.func184 Tryz.ntmps184 rfl (by kernel_rfl) rfl λw M=>?_
 repeat' (first|(refine Fl ?_;(first|refine Cl ?_|(apply Av rfl rfl;(first|exact p_move rfl|exact p_assign rfl|exact p_lensl (by dsimp only;decide +kernel) rfl|exact p_eql rfl rfl|exact p_gtr rfl rfl|exact Ajq rfl rfl (by omega)|exact Ll rfl rfl (by omega)))|(apply Av rfl rfl;exact Ma 2 (by dsimp only;decide +kernel) rfl rfl (by omega))|(apply Av rfl rfl;exact Alu 2 (by dsimp only;decide +kernel) rfl)|(apply Av rfl rfl;exact O6 2 (by dsimp only;decide +kernel) rfl rfl (by omega))|(apply Av rfl rfl;exact A9j 2 (by dsimp only;decide +kernel) rfl rfl (by omega))))|(refine Fq ?_;(first|refine Ei ?_|refine Bh ?_|refine E3 ?_|(refine Jw rfl ?_ ?_<;>intro hc<;>try (first|contradiction))))|(refine Fj ?_;(first|refine Cm ?_))|fail)
 ·obtain rfl:i=n:=by omega
  have c:cs.take (i*2)++ys=A3t cs ys i i:=by simp[A3t]
  by_cases t:i+1<=cap
  ·refine Bke (zs:=ys) 0 rfl rfl Qq rfl rfl rfl (λw e=>e.here) (by rw[k]) t (by omega) d rfl ?_
   repeat' (first|(refine Fl ?_;(first|refine Cl ?_|(apply Av rfl rfl;(first|exact p_assign rfl))))|(refine Fq ?_;(first|refine Ci rfl rfl ?_))|(refine Fj ?_;(first|refine Cm ?_))|fail)
   refine B9 (.inl ⟨_,rfl,t,rfl,P0 (z:=ys) (o:=i*2) (by omega),?_⟩);rw[<-c];exact List.take_left' (by simp;omega)
  ·refine Bhb (zs:=ys) 0 rfl rfl Qq rfl rfl rfl (λw e=>e.here) (by rw[k]) (by omega) (by omega) (by simp only[maxLen];omega) (by omega) ?_;intro b' q u a f l
   repeat' (first|(refine Fl ?_;(first|refine Cl ?_|(apply Av rfl rfl;(first|exact p_assign rfl))))|(refine Fq ?_;(first|refine Ci rfl rfl ?_))|(refine Fj ?_;(first|refine Cm ?_))|fail)
   refine B9 (.inr ⟨_,_,_,rfl,a,f,rfl,by simp;omega,?_⟩);rw[<-c];exact List.take_left' (by simp;omega)
 ·refine A9o (kn:=.i64) 0 rfl rfl Qq (by dsimp only;decide +kernel) rfl rfl rfl (by omega) (by omega) (by omega) (by simp only[maxLen];omega) (by omega) ?_;intro b' q u a f l
  repeat' (first|(refine Fl ?_;(first|refine Cl ?_|(apply Av rfl rfl;(first|exact p_move rfl|exact p_assign rfl))|(apply Av rfl rfl;exact O6 2 (by dsimp only;decide +kernel) rfl rfl (by omega))))|(refine Fq ?_;(first|refine Ei ?_|refine Bh ?_))|(refine Fj ?_;(first|refine Cm ?_))|fail)
  refine A07 (zs:=ys) 0 rfl rfl Qq rfl rfl rfl (λw e=>e.here) ?_ ?_ d ?_
  ·rw[k,show Nat.min 1 _=1 from Nat.min_eq_left (by omega)]
  ·simp only[Zh1,List.length_take];omega
  ·repeat' (first|(refine Fl ?_;(first|refine Cl ?_))|(refine Fq ?_;(first|refine Ei ?_|refine Bdo (by dsimp only;decide +kernel) J1 ?_))|(refine Fj ?_;(first|refine Cm ?_))|(refine Bw2 ?_;(first|(apply Gh 0 rfl rfl rfl (by decide +kernel);(first|exact p_move rfl))|(apply Gh 1 rfl rfl rfl (by decide +kernel);(first|exact p_move rfl))|(apply Gh 2 rfl rfl rfl (by decide +kernel);(first|exact p_move rfl))|(apply Gh 3 rfl rfl rfl (by decide +kernel);(first|exact Ajq rfl rfl (by omega)))|(apply Gh 5 rfl rfl rfl (by decide +kernel);(first|exact p_move rfl))|(apply Gh 6 rfl rfl rfl (by decide +kernel);(first|exact p_move rfl))))|fail)
   apply Gh 4 rfl rfl rfl (by decide +kernel) (O6 2 (by dsimp only;decide +kernel) rfl rfl (by omega));apply Gh 7 rfl rfl rfl (by decide +kernel) (O6 2 (by dsimp only;decide +kernel) rfl rfl (by omega));refine B1v 8 rfl (by decide +kernel) ?_;refine A07 0 rfl rfl Qq rfl rfl rfl (Aur (n:=(n-i)*2) 1 rfl) ?_ ?_ ?_ ?_
   ·have:Nat.min (n-(i:Int).toNat) ((i:Int).toNat+((n:Int)+((1:Nat):Int)-(i:Int)).toNat-((i:Int)+((1:Nat):Int)).toNat)=n-i:=(Nat.min_eq_left (by omega)).trans (by omega);rw[this,List.length_take,Za2];omega
   ·simp only[Zh1,List.length_take,Za2];omega
   ·intro v hv;exact B10 r b (by simpa using hv)
   ·repeat' (first|(refine Fl ?_;(first|refine Cl ?_|(apply Av rfl rfl;(first|exact p_move rfl|exact p_assign rfl))))|(refine Fq ?_;(first|refine Ei ?_|refine Bh ?_|refine Ci rfl rfl ?_))|(refine Fj ?_;(first|refine Cm ?_|(refine Bfr J1 ?_)))|(refine Bw2 ?_;(first|refine B1h (by decide +kernel) ?_))|fail)
    have p:i+((n:Int)+((1:Nat):Int)-(i:Int)).toNat=n+1:=by omega
    have e2:((i:Int)+((1:Nat):Int)).toNat=i+1:=by omega
    simp only[p,e2,Int.toNat_natCast,Nat.zero_add]at a l ⊢;have hd:=Bw6 (c1:=cs.take (i*2)++u) (q:=q) b (by omega) k rfl (List.take_left' (by simp;omega)) a (by simp;omega);refine B9 (.inr ⟨_,_,_,rfl,a,f,rfl,hd.1,hd.2⟩)
 ·refine Bx2 0 rfl rfl rfl rfl rfl rfl m (λw h=>⟨_,h 0 _ (Zo1 (by omega))⟩) B4l rfl rfl ?_
  repeat' (first|(refine Fl ?_;(first|refine Cl ?_|(apply Av rfl rfl;(first|exact p_not rfl))))|(refine Fq ?_;(first|refine Ei ?_|refine Bdo (by dsimp only;decide +kernel) J1 ?_|(refine Iw rfl ?_ ?_<;>intro hc<;>try contradiction)))|(refine Fj ?_;(first|refine Cm ?_))|(refine Bw2 ?_;(first|(apply Gh 0 rfl rfl rfl (by decide +kernel);(first|exact p_move rfl))|(apply Gh 1 rfl rfl rfl (by decide +kernel);(first|exact p_move rfl))|(apply Gh 2 rfl rfl rfl (by decide +kernel);(first|exact p_move rfl))|(apply Gh 3 rfl rfl rfl (by decide +kernel);(first|exact Ajq rfl rfl (by omega)))|(apply Gh 5 rfl rfl rfl (by decide +kernel);(first|exact p_move rfl))|(apply Gh 6 rfl rfl rfl (by decide +kernel);(first|exact p_move rfl))))|fail)
  apply Gh 4 rfl rfl rfl (by decide +kernel) (O6 2 (by dsimp only;decide +kernel) rfl rfl (by omega));apply Gh 7 rfl rfl rfl (by decide +kernel) (O6 2 (by dsimp only;decide +kernel) rfl rfl (by omega));refine B1v 8 rfl (by decide +kernel) ?_;refine A07 0 rfl rfl Qq rfl rfl rfl (Aur (n:=(n-i)*2) 0 rfl) ?_ ?_ ?_ ?_
  ·have:Nat.min (((n:Int)+((1:Nat):Int)).toNat-(i:Int).toNat) (((n:Int)+((1:Nat):Int)).toNat-((i:Int)+((1:Nat):Int)).toNat)=n-i:=(Nat.min_eq_right (by omega)).trans (by omega);rw[this,List.length_take,Za2];omega
  ·simp only[List.length_take,Za2];omega
  ·intro v hv;exact B10 r b (by simpa using hv)
  ·repeat' (first|(refine Fl ?_;(first|refine Cl ?_|(apply Av rfl rfl;(first|exact p_move rfl))|(apply Av rfl rfl;exact O6 2 (by dsimp only;decide +kernel) rfl rfl (by omega))))|(refine Fq ?_;(first|refine Ei ?_|refine Bh ?_))|(refine Fj ?_;(first|refine Cm ?_|(refine Bfr J1 ?_)))|(refine Bw2 ?_;(first|refine B1h (by decide +kernel) ?_))|fail)
   refine A07 (zs:=ys) 0 rfl rfl Qq rfl rfl rfl (λw e=>e.here) ?_ ?_ d ?_
   ·rw[k,show Nat.min 1 _=1 from Nat.min_eq_left (by omega)]
   ·simp only[Zh1,List.length_take,Za2];omega
   ·repeat' (first|(refine Fl ?_;(first|refine Cl ?_|(apply Av rfl rfl;(first|exact p_move rfl|exact p_assign rfl))))|(refine Fq ?_;(first|refine Ei ?_|refine Bh ?_|refine Ci rfl rfl ?_))|(refine Fj ?_;(first|refine Cm ?_))|fail)
    have p:((n:Int)+((1:Nat):Int)).toNat=n+1:=by omega
    have e2:((i:Int)+((1:Nat):Int)).toNat=i+1:=by omega
    simp only[p,e2,Int.toNat_natCast,Nat.zero_add];have hd:=Bsn (cs:=cs) b (by omega) k rfl;exact B9 (.inl ⟨_,rfl,by omega,rfl,hd.1,hd.2⟩)
set_option maxRecDepth 20000 in
theorem Bsc(a:Ya1 Addr)(vb vo vc:Nat)(ys:Yb1 Value)(f:ys.length=2)(c:∀v,v∈ys->one v=true) :
  Con Tryz.prog 184 [.slice a 0 0,.int .i64 0,.slice (some ⟨vb,vo,none⟩) 1 vc] [] (λw=>∀(j:Nat) v,ys[j]? = some v->w.cell? ⟨vb,vo+j,none⟩=some v) (λv L _=>∃b cap' cs',v = .slice (some ⟨b,0,none⟩) 1 cap'/\1<=cap'/\cap'<=maxLen/\L=[.blk b cs' 59]/\cs'.length=cap'*2/\cs'.take 2=ys):=by
 refine Bq Tryz.func184 Tryz.ntmps184 rfl (by kernel_rfl) rfl λw M=>?_
 repeat' (first|(refine Fl ?_;(first|refine Cl ?_|(apply Av rfl rfl;(first|exact p_move rfl|exact p_assign rfl|exact p_lensl (by dsimp only;decide +kernel) rfl|exact p_eql rfl rfl))|(apply Av rfl rfl;exact A9j 2 (by dsimp only;decide +kernel) rfl rfl (by omega))))|(refine Fq ?_;(first|refine Ei ?_|refine Bh ?_|refine E3 ?_|(refine Jw rfl ?_ ?_<;>intro hc<;>try (first|contradiction))))|(refine Fj ?_;(first|refine Cm ?_))|fail)
 refine A9n (zs:=ys) rfl rfl Qq rfl rfl (λw g=>g.here) (by rw[f]) (by omega) (by simp only[maxLen];omega) (by omega) c ?_;intro b' q i d e h
 repeat' (first|(refine Fl ?_;(first|refine Cl ?_|(apply Av rfl rfl;(first|exact p_assign rfl))))|(refine Fq ?_;(first|refine Ci rfl rfl ?_))|(refine Fj ?_;(first|refine Cm ?_))|fail)
 refine B9 ⟨_,_,_,rfl,d,e,rfl,by simp;omega,?_⟩;exact List.take_left' f
end Go.Proofs.YtcoaaebppfbbnaaGreatDoor
namespace Go.Proofs.YtcoaaebppfbbnaaGreatDoor
open Go.Ax
theorem A7g:ClOk Tryz.prog 178 (elT .str) (csz .str):=⟨Sx.enters_of Tryz.func178 rfl (by kernel_rfl),A06⟩
def Mv(l:Yb1 (Str)):Ya1 (Yb1 (Str)):=cond (decide (l.length<=2000000)) (some l) none
def Xs:FT [Yf1] [.sl .str true]:=λx=>Mv x
theorem Aha:FO 178 [Yf1] [.sl .str true] Xs:=Ac7 A7g
theorem A1g:ClOk Tryz.prog 177 (elT .col) (csz .col):=⟨Sx.enters_of Tryz.func177 rfl (by kernel_rfl),Azm⟩
def Aoq(l:Yb1 (Col)):Ya1 (Yb1 (Col)):=cond (decide (l.length<=2000000)) (some l) none
def Aku:FT [Yk1] [.sl .col true]:=λx=>Aoq x
theorem A1k:FO 177 [Yk1] [.sl .col true] Aku:=Ac7 A1g
theorem Ahi:ClOk Tryz.prog 225 (elT .expr) (csz .expr):=⟨Sx.enters_of Tryz.func225 rfl (by kernel_rfl),Az5⟩
theorem A13:ClOk Tryz.prog 185 (elT .idx) (csz .idx):=⟨Sx.enters_of Tryz.func185 rfl (by kernel_rfl),Az6⟩
theorem Aam:Ank Tryz.prog 225:=Arx
theorem Azs:Ank Tryz.prog 185:=Ar1
theorem B2e:InsOk Tryz.prog 184 (elT .idx):=⟨Sx.enters_of Tryz.func184 rfl (by kernel_rfl),λ_ _ _ _ _ _ _ _ _ a b c d e f g h i=>Bzw _ _ _ _ _ _ _ _ _ a b c d e f g h i,λ_ _ _ _ _ a b=>Bsc _ _ _ _ _ a b⟩
end Go.Proofs.YtcoaaebppfbbnaaGreatDoor
namespace Go.Proofs.YtcoaaebppfbbnaaGreatDoor.Lp
open Go.Sx Go.RowKit
def inI(n:Int):Prop:= -9223372036854775808<=n/\n<=9223372036854775807
instance (n:Int):Decidable (inI n):=by unfold inI;infer_instance
def B6t(c:Int):Bool:=decide (65<=c)&&decide (c<=90)
def isLo(c:Int):Bool:=decide (97<=c)&&decide (c<=122)
def isDi(c:Int):Bool:=decide (48<=c)&&decide (c<=57)
def isIn(c:Int):Bool:=isLo c||isDi c||c == 95
def runTo(p:Int->Bool)(l:Yb1 UInt8)(i:Int):Int:=i+((l.drop i.toNat).takeWhile λb=>p b.toNat).length
theorem Beb(l:Yb1 UInt8)(j:Int)(h : 0<=j/\j<l.length):l.drop j.toNat=l.getD j.toNat 0::l.drop (j+1).toNat:=by
 have a:j.toNat<l.length:=by omega
 have b:(j+1).toNat=j.toNat+1:=by omega
 rw[b,List.drop_eq_getElem_cons a];simp[ a]
variable{j:Int}
theorem runTo_yes{p:Int->Bool}{l:Yb1 UInt8}(h : 0<=j/\j<l.length)(a:p (byt l j)=true):runTo p l (j+1)=runTo p l j:=by unfold runTo;rw[Beb l j h];have:p ((l.getD j.toNat 0).toNat:Int)=true:=a;simp only[List.takeWhile_cons,this,if_true,Zf1];omega
theorem runTo_no{p:Int->Bool}{l:Yb1 UInt8}(h : 0<=j/\j<l.length)(a:p (byt l j)=false):runTo p l j=j:=by unfold runTo;rw[Beb l j h];have:p ((l.getD j.toNat 0).toNat:Int)=false:=a;simp only[List.takeWhile_cons,this,Zj2,if_false,Zi1];omega
theorem runTo_end{p:Int->Bool}{l:Yb1 UInt8}(h:(l.length:Int)<=j):runTo p l j=j:=by unfold runTo;rw[Zk1 (by omega)];simp
def idx(x:Yb1 UInt8):Yb1 (Yb1 UInt8)->Int->Int|[],_=> -1|l::r,i=>if x=l then i else idx x r (i+1)
theorem idx_ge(x:Yb1 UInt8):∀(a:Yb1 (Yb1 UInt8)) (i:Int),0<=i->(0<=idx x a i↔x∈a)
 |[],i,_=>by simp[idx]
 |l::r,i,h=>by
  by_cases b:x=l
  ·simp[idx,b,h]
  ·simp[idx,b,idx_ge x r (i+1) (by omega)]
def nameF(l:Yb1 UInt8):Bool:= !decide (l=[])&&decide ((l.length:Int)<=30)&&isLo (byt l 0)&&(runTo isIn l 0 == l.length)
def signsI:Yb1 Int:=[40,41,44,42,61,60,62,43,45,59]
def clsF(c:Int):Int:=if B6t c then 1 else if isLo c then 2 else if isDi c then 3 else if c=95 then 4 else if c=39 then 5 else if c=32\/c=9\/c=10\/c=13 then 6 else if signsI.contains c then 7 else 0
def nmOk(j c:Int):Bool:=decide (clsF c=2)||(!decide (j=0)&&(decide (clsF c=3)||decide (clsF c=4)))
def okGo:Yb1 UInt8->Int->Bool|[],_=>true|c::r,j=>nmOk j c.toNat&&okGo r (j+1)
def rnameF(l:Yb1 UInt8):Bool:=okGo l 0&&(decide (1<=(l.length:Int))&&decide ((l.length:Int)<=30))
theorem B12{p:Int->Prop}(h:∀n:Fin 256,p (n.val:Int))(c:Int)(hc : 0<=c/\c<=255):p c:=by have:=h ⟨c.toNat,by omega⟩;simpa[Int.toNat_of_nonneg hc.1]using this
theorem Jl(b:UInt8) : 0<=(b.toNat:Int)/\(b.toNat:Int)<=255:=by have:=b.toNat_lt;omega
def tw(p:Int->Bool)(m:Yb1 UInt8):Yb1 UInt8:=m.takeWhile λb=>p b.toNat
theorem Bs8(p:Int->Bool)(l:Yb1 UInt8)(i:Int):runTo p l i=i+(tw p (l.drop i.toNat)).length:=rfl
theorem Bxp(l:Yb1 UInt8):∀j:Int,0<j->okGo l j=l.all λb=>isIn b.toNat:=by
 induction l with
 |nil=>intro j _;rfl
 |cons c l a=>
  intro j e;have hc:=Jl c;have key:∀n:Fin 256,(decide (clsF (n.val:Int)=2)||(decide (clsF (n.val:Int)=3)||decide (clsF (n.val:Int)=4)))=isIn (n.val:Int):=by decide +kernel
  have d:=B12 (p:=λc=>(decide (clsF c=2)||(decide (clsF c=3)||decide (clsF c=4)))=isIn c) key c.toNat hc;simp[okGo,a (j+1) (by omega),nmOk,show decide (j=0)=false by simp;omega,d]
theorem Bjy(c:UInt8)(l:Yb1 UInt8):okGo (c::l) 0=(isLo c.toNat&&l.all λb=>isIn b.toNat):=by
 have hc:=Jl c;have key:∀n:Fin 256,decide (clsF (n.val:Int)=2)=isLo (n.val:Int):=by decide +kernel
 have a:=B12 (p:=λc=>decide (clsF c=2)=isLo c) key c.toNat hc;simp only[okGo,nmOk,decide_true,Zt1,Bool.false_and,Bool.or_false,a];rw[Bxp l (0+1) (by omega)]
theorem Bdg{p:Int->Bool}:∀m:Yb1 UInt8,(tw p m).length=m.length↔m.all (λb=>p b.toNat)=true
 |[]=>by simp[tw]
 |x::m=>by have c:=Bdg (p:=p) m;unfold tw at *;cases a:p x.toNat with|true=>simp[ a,<-c]|false=>simp[a]
theorem B43{c:Int}(h:isLo c=true):isIn c=true:=by simp[isIn,h]
theorem name_eq(x:Yb1 UInt8):nameF x=rnameF x:=by
 cases x with
 |nil=>rfl
 |cons c x=>
  have a:(runTo isIn (c::x) 0 == ((c::x).length:Int))=(c::x).all λb=>isIn b.toNat:=by rw[Bool.eq_iff_iff,<-Bdg,beq_iff_eq,Bs8];simp[Int.toNat_zero,Zq1];omega
  have hb:byt (c::x) 0=(c.toNat:Int):=rfl;simp only[nameF,rnameF,Bjy,a,hb];rw[Bool.eq_iff_iff];simp only[Zb1,Zg1,Zv1,Zf1];constructor
  ·rintro⟨⟨⟨_,e⟩,d⟩,f⟩;exact⟨⟨d,f.2⟩,by omega,e⟩
  ·rintro⟨⟨d,f⟩,_,e⟩;exact⟨⟨⟨by simp,e⟩,d⟩,B43 d,f⟩
end Go.Proofs.YtcoaaebppfbbnaaGreatDoor.Lp
namespace Go.Ax
theorem FnOk.ofIs{P:Program}{el:Ck->TypeId}{gl:Nat->Ya1 Gv}{f:FuncId}{sa sr:Yb1 Sg}{F:FT sa sr}(d:Sx.Enters P f)(b:Bb 0 sr=[])(h:∀x r,F x=some r->∃(us:Yb1 Value) (v:Value),(∀X vs,Reps X (Ca 0 sa x) vs->vs=us)/\Sx.Con P f us [] (λ_=>True) (Sx.Is v)/\∀X,BdL sa x->Rep X (Hh (Ca 0 sr r)) v):FnOk P el gl f sa sr F:=by
 refine⟨d,λx r e w M vs m i c=>?_⟩;obtain⟨us,v,j,k,l⟩:=h x r e;obtain rfl:=j _ _ c;refine(k.calls w (λ_ _=>trivial)).mono ?_;rintro en w' ⟨u,L',F',rfl,⟨rfl,_,_⟩,_,hb⟩;refine⟨u,⟨λ_=>0,λ_=>Option.none⟩,rfl,Chg.of_below hb,λp g o a=>?_,λp q g o o' a=>?_,l _ (Ab2 c)⟩
 ·rw[b]at a;cases a
 ·rw[b]at a;cases a
end Go.Ax
namespace Go.Proofs.YtcoaaebppfbbnaaGreatDoor
open Go.Ax
open Go.Sx (Con S Is Bq B13)
theorem A6f(a b:Str)(w:World):(callFunc 193 #[S a,S b]).run Tryz.prog w = .ok (.value (.int .i64 (Lib.compareBytes a b))) w:=by rw[run_callFunc_extern Tryz.func193 (by kernel_rfl) rfl (by kernel_rfl) (e:=Extern.BytealgCompare.compare) (by kernel_rfl)];simp[Lib.run_compareString]
set_option maxRecDepth 20000 in
open Go.Sx in
theorem Ahp(a b:Str):Con Tryz.prog 140 [S a,S b] [] (λ_=>True) (Is (.int .i64 (Lib.compareBytes a b))):=by
 refine Bq Tryz.func140 Tryz.ntmps140 rfl (by kernel_rfl) rfl λw M=>?_
 repeat' (first|refine Ei ?_|refine Bh ?_|refine Cl ?_|refine Cm ?_|refine n_blk ?_|refine g_block ?_|refine E3 ?_|refine g_exit ?_|refine x_here ?_|refine x_seq ?_|refine x_loop ?_|refine x_blk rfl ?_|refine g_scope ?_|refine n_scope ?_|refine x_scope ?_|refine g_label ?_|(apply Av rfl rfl;(first|exact p_move rfl|exact p_assign rfl|exact p_lens (by dsimp only;decide +kernel) rfl|exact p_lensl (by dsimp only;decide +kernel) rfl|exact p_extract rfl rfl|exact p_pick_t rfl rfl|exact p_pick_f rfl rfl|exact p_eql rfl rfl|exact p_neq rfl rfl|exact p_lss rfl rfl|exact p_leq rfl rfl|exact p_gtr rfl rfl|exact p_geq rfl rfl|exact p_not rfl|exact p_eqls rfl rfl|exact p_neqs rfl rfl|exact Ajq rfl rfl (by omega)|exact Ll rfl rfl (by omega)|exact p_index (by dsimp only;decide +kernel) rfl rfl (by omega)|exact p_cut (by dsimp only;decide +kernel) rfl rfl rfl (by omega)|exact p_cutlo (by dsimp only;decide +kernel) rfl rfl (by omega)|exact p_cuthi (by dsimp only;decide +kernel) rfl rfl (by omega)|exact p_fa (fo:=0) (by dsimp only;decide +kernel) rfl|exact p_fa (fo:=1) (by dsimp only;decide +kernel) rfl|exact p_fa (fo:=2) (by dsimp only;decide +kernel) rfl|exact p_fa (fo:=3) (by dsimp only;decide +kernel) rfl|exact p_nil rfl))|refine o_off rfl rfl ?_|refine o_off_none rfl ?_|(apply Av rfl rfl (B1e rfl rfl (A6f _ _)))|(refine o_gsd rfl rfl ?_ ?_<;>intro hc)|(refine i rfl rfl ?_ ?_<;>intro hc)|(refine j rfl rfl ?_ ?_<;>intro hc)|(refine h rfl rfl ?_ ?_<;>intro hc)|(refine k rfl rfl ?_ ?_<;>intro hc)|(refine l rfl rfl ?_ ?_<;>intro hc)|refine c rfl rfl ?_|refine g_cond_f rfl rfl ?_|refine c rfl (Ze1 (by omega)) ?_|refine g_cond_f rfl (Zd1 (by omega)) ?_|(refine Jw rfl ?_ ?_<;>intro hc)|(refine e rfl ?_ ?_<;>intro hc)|(refine f rfl ?_ ?_<;>intro hc)|(refine d rfl ?_ ?_<;>intro hc)|(refine g rfl ?_ ?_<;>intro hc)|(refine Iw rfl ?_ ?_<;>intro hc)|refine Ci rfl rfl ?_|refine g_ret2 rfl rfl rfl ?_|refine g_ret3 rfl rfl rfl rfl ?_|fail)
 exact B13 rfl
def Dc(a b:Str):Int:=Lib.compareBytes a b
def A7v:FT [.str,.str] [Yc1]:=λx=>some (Dc x.1 x.2)
theorem Yc:∀(a b:Str),Dc a b = -1\/Dc a b=0\/Dc a b=1
 |[],[]=>by simp[Dc,Lib.compareBytes]
 |[],_::_=>by simp[Dc,Lib.compareBytes]
 |_::_,[]=>by simp[Dc,Lib.compareBytes]
 |a::l,b::m=>by
  have c:=Yc l m;simp only[Dc,Lib.compareBytes]at c ⊢;split
  ·simp
  ·grind
theorem Bxg:FO 140 [.str,.str] [Yc1] A7v:=by
 refine FnOk.ofIs (Ahp [] []).enters rfl λx r c=>?_;obtain⟨a,b⟩:=x;simp only[A7v,Za1]at c;subst c;refine⟨[S a,S b],_,λX vs h=>?_,Ahp a b,λX hb=>?_⟩
 ·simp only[Ca,C9,Reps,Rep]at h;obtain⟨u,us,rfl,⟨rfl,_⟩,e,d,rfl,⟨rfl,_⟩,rfl⟩:=h;rfl
 ·simp only[Hh,Ca,C9];have h:=Yc a b;refine Dl (A5k ?_);simp only[IntKind.min,IntKind.max,IntKind.signed,IntKind.bits];simp only[if_true];omega
end Go.Proofs.YtcoaaebppfbbnaaGreatDoor
namespace Go.Proofs.YtcoaaebppfbbnaaGreatDoor
open Go.Ax
def Aco:Sig:=⟨20,[(0,.str),(2,.bool),(5,.int .i64),(6,.int .i64)],[],[],0,0,0,[],[]⟩
abbrev L0:=Str×Bool×Int×Int
def Kh{R:Type}(a:L0->Ya1 R)(kx:Ex->L0->Ya1 R)(v:L0):Ya1 R:=match v with|(v,v1,v2,v3)=>cond (decide (v3<v2)) (chk (inb v3 v.length) (cond (decide ((bat v v3)<32)) (kx .ret (v,false,v2,v3)) (chk (inb v3 v.length) (cond (decide (126<(bat v v3))) (kx .ret (v,false,v2,v3)) (a (v,v1,v2,(wr .i64 (v3+1)))))))) (kx (.exit 0) (v,v1,v2,v3))
def Ap8(R:Type)(k:Nat):Px R:=pxO [] [] [(2,An k Aco (Kh))] []
def Axl(k:Nat)(x:HV [.str]):Ya1 (HV [.bool]):=match x with
 |s=>
 Aj (λa=>Kh a (λe b=>match b with|(_,v5,_,_)=>match e with
  |.ret=>
  some v5
  |.exit 0=>
  some true
  |_=>none)) k (s,false,(s.length:Int),0)
theorem A4e(k:Nat):FO 168 [.str] [.bool] (Axl k):=fR (px:=Ap8 _ k) (n:=1) Tryz.func168 rfl (λcx H=>by have c:Lv cx (Ap8 (HV [.bool]) k):=lv H Ae Aa Ab;have a:=lO H c (b:=lp Tryz.f168 0) (k:=k) (n:=0) (s:=Aco) (step:=Kh) (λ_ _ _ (_,_,_,_)=>by kernel_rfl) Ai;exact⟨c,(A4 Ai a)⟩) λ_=>by kernel_rfl
def vis(b:UInt8):Bool:=decide (32<=b.toNat)&&decide (b.toNat<=126)
def Hv(s:Str):Bool:=s.all vis
def Aes:FT [.str] [.bool]:=λx=>some (Hv x)
theorem Acp{R:Type}{kx:Ex->L0->Ya1 R}{s:Str}{a b:Ya1 R}(e:ln s.length)(f:∀r j,kx .ret (s,false,r,j)=a)(g:∀q r j,kx (.exit 0) (s,q,r,j)=b):∀(k i:Nat) q,i<=s.length->s.length-i<k->Aj (λd=>Kh d kx) k (s,q,(s.length:Int),(i:Int))=cond ((s.drop i).all vis) b a
 |0,i,q,_,h=>by omega
 |k+1,i,q,hi,h=>by
  rw[Au];by_cases c:i<s.length
  ·simp only[Kh,Am c e,(Acp e f g k (i+1) q (by omega) (by omega)),f,Ak c,Abi c,Ao c,Zv1,Bool.cond_decide];rw[if_pos (by omega)];simp only[vis];split
   ·rw[Zd1 (by omega)];rfl
   ·split
    ·rw[Ze1 (by omega),Zd1 (by omega)];rfl
    ·rw[Ze1 (by omega),Ze1 (by omega)];rfl
  ·simp[Kh,g,Bool.cond_decide];rw[if_neg (by omega),Zk1 (by omega)];rfl
theorem A8o:FO 168 [.str] [.bool] Aes:=.fin 0 A4e λx r hb c=>⟨x.length+1,by simp only[Aes,Za1]at c;have:=Acp (a:=some false) (b:=some true) hb (kx:=λe v=>match v with|(_,v5,_,_)=>match e with|.ret=>some v5|.exit 0=>some true|_=>none) (λ_ _=>rfl) (λ_ _ _=>rfl) (x.length+1) 0 false (Nat.zero_le _) (by omega);refine Eq.trans this ?_;rw[<-c,Zq1,Hv];cases x.all vis<;>rfl⟩
def Bhr(R:Type):Px R:=pxO [(168,cA Aes)] [] [] []
def Q1(x:HV [Yi1]):Ya1 (HV [.bool]):=match x with|v=>cond (decide (v.kind=1)) (cond (decide (v.n=0)) (some (decide (v.s=[]))) (some false)) (cond (decide (v.kind=2)) (cond (decide (v.n=0)) (some (decide (v.s=[]))) (cond (decide (v.n=1)) (some (decide (v.s=[]))) (some false))) (cond (decide (v.kind=3)) (some (decide (v.s=[]))) (cond (decide (v.kind=4)) (cond (decide (v.n=0)) (cond (decide ((v.s.length:Int)<=1000)) (some (Hv v.s)) (some false)) (some false)) (cond (decide (v.kind=5)) (cond (decide (v.n=0)) (some (decide ((v.s.length:Int)<=1000))) (some false)) (some false)))))
theorem A8j:FO 123 [Yi1] [.bool] (Q1):=fR (px:=Bhr _) (n:=0) Tryz.func123 rfl (λ_ H=>⟨lv H (c1 H A8o Ae) Aa Ab,Ai⟩) λ_=>by kernel_rfl
def Aq(v:Val):Bool:=cond (decide (v.kind=1)) (cond (decide (v.n=0)) (decide (v.s=[])) (false)) (cond (decide (v.kind=2)) (cond (decide (v.n=0)) (decide (v.s=[])) (cond (decide (v.n=1)) (decide (v.s=[])) (false))) (cond (decide (v.kind=3)) (decide (v.s=[])) (cond (decide (v.kind=4)) (cond (decide (v.n=0)) (cond (decide ((v.s.length:Int)<=1000)) (Hv v.s) (false)) (false)) (cond (decide (v.kind=5)) (cond (decide (v.n=0)) (decide ((v.s.length:Int)<=1000)) (false)) (false)))))
theorem A8p(x:HV [Yi1]):Q1 x=some (Aq x):=by
 first
  |exact rfl
  |simp only[Q1,Aq,Aw]
def Aoc:FT [Yi1] [.bool]:=λx=>some (Aq x)
theorem Asn:FO 123 [Yi1] [.bool] Aoc:=.fin0 A8j λx _ _ a=>(A8p x).trans a
def Bmp(R:Type):Px R:=pxO [(123,cA Aoc)] [] [] []
def Sj(x:HV [Yi1]):Ya1 (HV [Yc1]):=match x with|v=>cond (!(Aq v)) (some 2) (some 0)
theorem Bbh:FO 80 [Yi1] [Yc1] (Sj):=fR (px:=Bmp _) (n:=0) Tryz.func80 rfl (λ_ H=>⟨lv H (c1 H Asn Ae) Aa Ab,Ai⟩) λ_=>by kernel_rfl
def Cn(v:Val):Int:=cond (!(Aq v)) (2) (0)
theorem A77(x:HV [Yi1]):Sj x=some (Cn x):=by
 first
  |exact rfl
  |simp only[Sj,Cn,Aw]
def Nr:FT [Yi1] [Yc1]:=λx=>some (Cn x)
theorem N3:FO 80 [Yi1] [Yc1] Nr:=.fin0 Bbh λx _ _ a=>(A77 x).trans a
def Bwa(R:Type):Px R:=pxO [(123,cA Aoc)] [] [] []
def Yn(x:HV [Yi1,Yc1]):Ya1 (HV [.bool]):=match x with|(v,kind)=>cond (Aq v) (cond (decide (v.kind=1)) (some true) (some (decide (v.kind=kind)))) (some false)
theorem Bi3:FO 87 [Yi1,Yc1] [.bool] (Yn):=fR (px:=Bwa _) (n:=0) Tryz.func87 rfl (λ_ H=>⟨lv H (c1 H Asn Ae) Aa Ab,Ai⟩) λ(_,_)=>by kernel_rfl
def Ac3(v:Val)(kind:Int):Bool:=cond (Aq v) (cond (decide (v.kind=1)) (true) (decide (v.kind=kind))) (false)
theorem Bjd(x:HV [Yi1,Yc1]):Yn x=some (Ac3 x.1 x.2):=by
 first
  |exact rfl
  |simp only[Yn,Ac3,Aw]
def Bc0:FT [Yi1,Yc1] [.bool]:=λx=>some (Ac3 x.1 x.2)
theorem Bup:FO 87 [Yi1,Yc1] [.bool] Bc0:=.fin0 Bi3 λx _ _ a=>(Bjd x).trans a
def Bm7(R:Type):Px R:=pxO [] [] [] []
def Yy(x:HV [Yc1,Yc1]):Ya1 (HV [Yc1]):=match x with|(a,b)=>cond (decide (a<b)) (some (-1)) (cond (decide (b<a)) (some 1) (some 0))
theorem Bkd:FO 92 [Yc1,Yc1] [Yc1] (Yy):=fR (px:=Bm7 _) (n:=0) Tryz.func92 rfl (λ_ H=>⟨lv H Ae Aa Ab,Ai⟩) λ(_,_)=>by kernel_rfl
def Dz(a:Int)(b:Int):Int:=cond (decide (a<b)) (-1) (cond (decide (b<a)) (1) (0))
theorem Bi2(x:HV [Yc1,Yc1]):Yy x=some (Dz x.1 x.2):=by
 first
  |exact rfl
  |simp only[Yy,Dz,Aw]
def Bgy:FT [Yc1,Yc1] [Yc1]:=λx=>some (Dz x.1 x.2)
theorem Bvr:FO 92 [Yc1,Yc1] [Yc1] Bgy:=.fin0 Bkd λx _ _ a=>(Bi2 x).trans a
def B0w(R:Type):Px R:=pxO [] [] [] []
def Agd(x:HV [Yc1,Yc1]):Ya1 (HV [Yc1,Yc1]):=match x with|(a,b)=>cond (!decide ((decide (a<(wr .i64 (a+b))))=(decide (0<b)))) (some (0,20)) (some ((wr .i64 (a+b)),0))
theorem Bqo:FO 190 [Yc1,Yc1] [Yc1,Yc1] (Agd):=fR (px:=B0w _) (n:=0) Tryz.func190 rfl (λ_ H=>⟨lv H Ae Aa Ab,Ai⟩) λ(_,_)=>by kernel_rfl
def Aiu(a:Int)(b:Int):Int×Int:=cond (!decide ((decide (a<(wr .i64 (a+b))))=(decide (0<b)))) (0,20) ((wr .i64 (a+b)),0)
theorem Bnz(x:HV [Yc1,Yc1]):Agd x=some (Aiu x.1 x.2):=by
 first
  |exact rfl
  |simp only[Agd,Aiu,Aw]
def Bnt:FT [Yc1,Yc1] [Yc1,Yc1]:=λx=>some (Aiu x.1 x.2)
theorem Bzx:FO 190 [Yc1,Yc1] [Yc1,Yc1] Bnt:=.fin0 Bqo λx _ _ a=>(Bnz x).trans a
def Bwz(R:Type):Px R:=pxO [] [] [] []
def Agh(x:HV [Yc1,Yc1]):Ya1 (HV [Yc1,Yc1]):=match x with|(a,b)=>cond (!decide ((decide ((wr .i64 (a-b))<a))=(decide (0<b)))) (some (0,20)) (some ((wr .i64 (a-b)),0))
theorem Bnq:FO 191 [Yc1,Yc1] [Yc1,Yc1] (Agh):=fR (px:=Bwz _) (n:=0) Tryz.func191 rfl (λ_ H=>⟨lv H Ae Aa Ab,Ai⟩) λ(_,_)=>by kernel_rfl
def Qx(a:Int)(b:Int):Int×Int:=cond (!decide ((decide ((wr .i64 (a-b))<a))=(decide (0<b)))) (0,20) ((wr .i64 (a-b)),0)
theorem Bsk(x:HV [Yc1,Yc1]):Agh x=some (Qx x.1 x.2):=by
 first
  |exact rfl
  |simp only[Agh,Qx,Aw]
def Bs4:FT [Yc1,Yc1] [Yc1,Yc1]:=λx=>some (Qx x.1 x.2)
theorem Bxf:FO 191 [Yc1,Yc1] [Yc1,Yc1] Bs4:=.fin0 Bnq λx _ _ a=>(Bsk x).trans a
def Bte(R:Type):Px R:=pxO [] [] [] []
def Z8(x:HV [Yc1]):Ya1 (HV [.int .u64]):=match x with|n=>cond (decide (n<0)) (some (wr .u64 (0-(wr .u64 n)))) (some (wr .u64 n))
theorem Bhn:FO 233 [Yc1] [.int .u64] (Z8):=fR (px:=Bte _) (n:=0) Tryz.func233 rfl (λ_ H=>⟨lv H Ae Aa Ab,Ai⟩) λ_=>by kernel_rfl
def Ea(n:Int):Int:=cond (decide (n<0)) (wr .u64 (0-(wr .u64 n))) (wr .u64 n)
theorem Bk8(x:HV [Yc1]):Z8 x=some (Ea x):=by
 first
  |exact rfl
  |simp only[Z8,Ea,Aw]
def Bed:FT [Yc1] [.int .u64]:=λx=>some (Ea x)
theorem Bqc:FO 233 [Yc1] [.int .u64] Bed:=.fin0 Bhn λx _ _ a=>(Bk8 x).trans a
def A4h(R:Type):Px R:=pxO [(140,cA A7v)] [] [] []
def Md(x:HV [.str,.str]):Ya1 (HV [Yc1]):=match x with|(a,b)=>some (Dc a b)
theorem Azz:FO 93 [.str,.str] [Yc1] (Md):=fR (px:=A4h _) (n:=0) Tryz.func93 rfl (λ_ H=>⟨lv H (c1 H Bxg Ae) Aa Ab,Ai⟩) λ(_,_)=>by kernel_rfl
def Gj(a:Str)(b:Str):Int:=(Dc a b)
theorem Axe(x:HV [.str,.str]):Md x=some (Gj x.1 x.2):=by
 first
  |exact rfl
  |simp only[Md,Gj,Aw]
def Zb:FT [.str,.str] [Yc1]:=λx=>some (Gj x.1 x.2)
theorem Ahq:FO 93 [.str,.str] [Yc1] Zb:=.fin0 Azz λx _ _ a=>(Axe x).trans a
def Bw0(R:Type):Px R:=pxO [(92,cA Bgy),(93,cA Zb)] [] [] []
def Afo(x:HV [Yi1,Yi1]):Ya1 (HV [Yc1]):=match x with|(a,b)=>cond (!decide ((Dz a.kind b.kind)=0)) (some (Dz a.kind b.kind)) (cond (!decide ((Dz a.n b.n)=0)) (some (Dz a.n b.n)) (some (Gj a.s b.s)))
theorem Bth:FO 56 [Yi1,Yi1] [Yc1] (Afo):=fR (px:=Bw0 _) (n:=0) Tryz.func56 rfl (λ_ H=>⟨lv H (c1 H Bvr (c1 H Ahq Ae)) Aa Ab,Ai⟩) λ(_,_)=>by kernel_rfl
def Gs(a:Val)(b:Val):Int:=cond (!decide ((Dz a.kind b.kind)=0)) (Dz a.kind b.kind) (cond (!decide ((Dz a.n b.n)=0)) (Dz a.n b.n) (Gj a.s b.s))
theorem Bui(x:HV [Yi1,Yi1]):Afo x=some (Gs x.1 x.2):=by
 first
  |exact rfl
  |simp only[Afo,Gs,Aw]
def Baw:FT [Yi1,Yi1] [Yc1]:=λx=>some (Gs x.1 x.2)
theorem Bet:FO 56 [Yi1,Yi1] [Yc1] Baw:=.fin0 Bth λx _ _ a=>(Bui x).trans a
def Bnp(R:Type):Px R:=pxO [] [] [] []
def Xv(x:HV [.int .u64,.int .u64]):Ya1 (HV [.int .u64,.int .u64]):=match x with|(a,b)=>some ((wr .u64 ((wr .u64 ((wr .u64 ((Ek .u64 a 32)*(Ek .u64 b 32)))+(Ek .u64 (wr .u64 ((wr .u64 ((Ek .u64 a 32)*(Ht .u64 b 4294967295)))+(Ek .u64 (wr .u64 ((Ht .u64 a 4294967295)*(Ht .u64 b 4294967295))) 32))) 32)))+(Ek .u64 (wr .u64 ((Ht .u64 (wr .u64 ((wr .u64 ((Ek .u64 a 32)*(Ht .u64 b 4294967295)))+(Ek .u64 (wr .u64 ((Ht .u64 a 4294967295)*(Ht .u64 b 4294967295))) 32))) 4294967295)+(wr .u64 ((Ht .u64 a 4294967295)*(Ek .u64 b 32))))) 32))),(wr .u64 (a*b)))
theorem Bkb:FO 232 [.int .u64,.int .u64] [.int .u64,.int .u64] (Xv):=fR (px:=Bnp _) (n:=0) Tryz.func232 rfl (λ_ H=>⟨lv H Ae Aa Ab,Ai⟩) λ(_,_)=>by kernel_rfl
def Jr(a:Int)(b:Int):Int×Int:=((wr .u64 ((wr .u64 ((wr .u64 ((Ek .u64 a 32)*(Ek .u64 b 32)))+(Ek .u64 (wr .u64 ((wr .u64 ((Ek .u64 a 32)*(Ht .u64 b 4294967295)))+(Ek .u64 (wr .u64 ((Ht .u64 a 4294967295)*(Ht .u64 b 4294967295))) 32))) 32)))+(Ek .u64 (wr .u64 ((Ht .u64 (wr .u64 ((wr .u64 ((Ek .u64 a 32)*(Ht .u64 b 4294967295)))+(Ek .u64 (wr .u64 ((Ht .u64 a 4294967295)*(Ht .u64 b 4294967295))) 32))) 4294967295)+(wr .u64 ((Ht .u64 a 4294967295)*(Ek .u64 b 32))))) 32))),(wr .u64 (a*b)))
theorem Bi5(x:HV [.int .u64,.int .u64]):Xv x=some (Jr x.1 x.2):=by
 first
  |exact rfl
  |simp only[Xv,Jr,Aw]
def Bec:FT [.int .u64,.int .u64] [.int .u64,.int .u64]:=λx=>some (Jr x.1 x.2)
theorem Bn5:FO 232 [.int .u64,.int .u64] [.int .u64,.int .u64] Bec:=.fin0 Bkb λx _ _ a=>(Bi5 x).trans a
def B0t(R:Type):Px R:=pxO [(233,cA Bed),(232,cA Bec)] [] [] []
def Aer(x:HV [Yc1,Yc1]):Ya1 (HV [Yc1,Yc1]):=match x with
 |(a,b)=>
 let c:=λ(p3:Bool)=>
  cond (p3) (
  some (0,20)) (
  cond (!decide ((decide (a<0))=(decide (b<0)))) (
   some ((wr .i64 (wr .u64 (0-(Jr (Ea a) (Ea b)).2))),0)) (
   some ((wr .i64 ((Jr (Ea a) (Ea b)).2)),0)))
 let j:=λ(p:Bool)=>
  cond (p) (
  c true) (
  cond (decide ((Jr (Ea a) (Ea b)).2=9223372036854775808)) (
   c (!(!decide ((decide (a<0))=(decide (b<0)))))) (
   c false))
 cond (decide (0<(Jr (Ea a) (Ea b)).1)) (
  j true) (
  j (decide (9223372036854775808<(Jr (Ea a) (Ea b)).2)))
theorem Bvd:FO 192 [Yc1,Yc1] [Yc1,Yc1] (Aer):=fR (px:=B0t _) (n:=0) Tryz.func192 rfl (λ_ H=>⟨lv H (c1 H Bqc (c1 H Bn5 Ae)) Aa Ab,Ai⟩) λ(_,_)=>by kernel_rfl
def Air(a:Int)(b:Int):Int×Int:=
 let c:=λ(p3:Bool)=>
  cond (p3) (
  (0,20)) (
  cond (!decide ((decide (a<0))=(decide (b<0)))) (
   ((wr .i64 (wr .u64 (0-(Jr (Ea a) (Ea b)).2))),0)) (
   ((wr .i64 ((Jr (Ea a) (Ea b)).2)),0)))
 let j:=λ(p:Bool)=>
  cond (p) (
  c true) (
  cond (decide ((Jr (Ea a) (Ea b)).2=9223372036854775808)) (
   c (!(!decide ((decide (a<0))=(decide (b<0)))))) (
   c false))
 cond (decide (0<(Jr (Ea a) (Ea b)).1)) (
  j true) (
  j (decide (9223372036854775808<(Jr (Ea a) (Ea b)).2)))
theorem Bps(x:HV [Yc1,Yc1]):Aer x=some (Air x.1 x.2):=by
 first
  |exact rfl
  |simp only[Aer,Air,Aw]
def Bor:FT [Yc1,Yc1] [Yc1,Yc1]:=λx=>some (Air x.1 x.2)
theorem B07:FO 192 [Yc1,Yc1] [Yc1,Yc1] Bor:=.fin0 Bvd λx _ _ a=>(Bps x).trans a
theorem B5e{i:Int}{n:Nat}(h : 0<=i/\i<n):inb i n=true:=by simp[inb,h]
def Bno(R:Type):Px R:=pxO [] [] [] []
def Y2(x:HV [.int .u8]):Ya1 (HV [.bool]):=match x with|c=>cond (decide (97<=c)) (some (decide (c<=122))) (some false)
theorem Bht:FO 228 [.int .u8] [.bool] (Y2):=fR (px:=Bno _) (n:=0) Tryz.func228 rfl (λ_ H=>⟨lv H Ae Aa Ab,Ai⟩) λ_=>by kernel_rfl
def Ahy(c:Int):Bool:=cond (decide (97<=c)) (decide (c<=122)) (false)
theorem Bio(x:HV [.int .u8]):Y2 x=some (Ahy x):=by
 first
  |exact rfl
  |simp only[Y2,Ahy,Aw]
def Axt:FT [.int .u8] [.bool]:=λx=>some (Ahy x)
theorem A53:FO 228 [.int .u8] [.bool] Axt:=.fin0 Bht λx _ _ a=>(Bio x).trans a
def Boq(R:Type):Px R:=pxO [] [] [] []
def X2(x:HV [.int .u8]):Ya1 (HV [.bool]):=match x with|c=>cond (decide (48<=c)) (some (decide (c<=57))) (some false)
theorem Bg4:FO 268 [.int .u8] [.bool] (X2):=fR (px:=Boq _) (n:=0) Tryz.func268 rfl (λ_ H=>⟨lv H Ae Aa Ab,Ai⟩) λ_=>by kernel_rfl
def Apa(c:Int):Bool:=cond (decide (48<=c)) (decide (c<=57)) (false)
theorem Bkl(x:HV [.int .u8]):X2 x=some (Apa x):=by
 first
  |exact rfl
  |simp only[X2,Apa,Aw]
def Bf6:FT [.int .u8] [.bool]:=λx=>some (Apa x)
theorem Bwc:FO 268 [.int .u8] [.bool] Bf6:=.fin0 Bg4 λx _ _ a=>(Bkl x).trans a
def Bp2(R:Type):Px R:=pxO [(228,cA Axt),(268,cA Bf6)] [] [] []
def Z4(x:HV [.int .u8]):Ya1 (HV [.bool]):=match x with|c=>cond (Ahy c) (some true) (cond (Apa c) (some true) (some (decide (c=95))))
theorem Bii:FO 230 [.int .u8] [.bool] (Z4):=fR (px:=Bp2 _) (n:=0) Tryz.func230 rfl (λ_ H=>⟨lv H (c1 H A53 (c1 H Bwc Ae)) Aa Ab,Ai⟩) λ_=>by kernel_rfl
def Avo(c:Int):Bool:=cond (Ahy c) (true) (cond (Apa c) (true) (decide (c=95)))
theorem Bia(x:HV [.int .u8]):Z4 x=some (Avo x):=by
 first
  |exact rfl
  |simp only[Z4,Avo,Aw]
def Bfq:FT [.int .u8] [.bool]:=λx=>some (Avo x)
theorem Bus:FO 230 [.int .u8] [.bool] Bfq:=.fin0 Bii λx _ _ a=>(Bia x).trans a
theorem A1z(c:Int):Ahy c=Lp.isLo c:=by simp only[Ahy,Lp.isLo];cases decide (97<=c)<;>rfl
theorem Bp7(c:Int):Apa c=Lp.isDi c:=by simp only[Apa,Lp.isDi];cases decide (48<=c)<;>rfl
theorem Bsi(c:Int):Avo c=Lp.isIn c:=by simp[Avo,Lp.isIn,A1z,Bp7];cases Lp.isLo c<;>cases Lp.isDi c<;>rfl
def Alp:Sig:=⟨21,[(0,.str),(1,.int .i64)],[(2,.fn 230 [])],[],40,40,200,[],[]⟩
abbrev Uh:=Str×Int
def Uz{R:Type}(a:Uh->Ya1 R)(kx:Ex->Uh->Ya1 R)(v:Uh):Ya1 R:=match v with|(v,v1)=>cond (decide (v1<(v.length:Int))) (chk (inb v1 v.length) (cond (Avo (bat v v1)) (a (v,(wr .i64 (v1+1)))) (kx (.exit 0) (v,v1)))) (kx (.exit 0) (v,v1))
def Ak0(R:Type)(k:Nat):Px R:=pxO [(230,cA Bfq)] [] [(1,An k Alp (Uz))] []
noncomputable def A4f(R:Type)(k:Nat):Px R:=pxO [(228,cA Axt),(229,A0 40 200 (Ak0 R k) Tryz.f229)] [] [] []
def Aqd(k:Nat)(x:HV [.str]):Ya1 (HV [.bool]):=match x with
 |s=>
 let b:=λ(p:Bool)=>
  let j:=λ(p1:Bool)=>
  cond (p1) (
   Aj (λa=>Uz a (λe c=>match c with|(_,v3)=>match e with
   |.exit 0=>some (decide (v3=(s.length:Int)))
   |_=>none)) k (s,0)) (
   some false)
  cond (p) (
  chk (inb 0 s.length) (
   j (Ahy (bat s 0)))) (
  j false)
 cond (!decide (s=[])) (
  b (decide ((s.length:Int)<=30))) (
  b false)
theorem Bj5(k:Nat):FO 187 [.str] [.bool] (Aqd k):=fR (px:=A4f _ k) (n:=0) Tryz.func187 rfl (λcx H=>by have c:Lv cx (Ak0 (HV [.bool]) k):=lv H (c1 H Bus Ae) Aa Ab;have a:=lO H c (b:=lp Tryz.f229 0) (k:=k) (n:=0) (s:=Alp) (step:=Uz) (λ_ _ _ (_,_)=>by kernel_rfl) Ai;have d:Lv cx (A4f (HV [.bool]) k):=lv H (c1 H A53 (As (cR H c Tryz.func229 rfl (n:=1) (A4 Ai a)) Ae)) Aa Ab;exact⟨d,Ai⟩) λ_=>by kernel_rfl
abbrev B7(s:Str):Bool:=Lp.nameF s
def Wa:FT [.str] [.bool]:=λx=>some (B7 x)
theorem Acu{R:Type}{kx:Ex->Uh->Ya1 R}{s:Str}  {a:Int->Ya1 R}(e:ln s.length) (c:∀j,kx (.exit 0) (s,j)=a j):∀(k i:Nat),i<=s.length->s.length-i<k->Aj (λd=>Uz d kx) k (s,(i:Int))=a (Lp.runTo Lp.isIn s i)
 |0,i,_,h=>absurd h (Zm1 _)
 |k+1,i,hi,h=>by
  rw[Au];by_cases b:i<s.length
  ·have m:=Acu  e c k (i+1) (by omega) (by omega);have f:Sx.byt s (i:Int)=(s[i].toNat:Int):=Abi b;simp only[Uz,Am b e,m,c,Abi b,Ao b,Bsi];rw[Ze1 (show(i:Int)<(s.length:Int) by omega)];cases g:Lp.isIn (s[i].toNat:Int)with|true=>have:=Lp.runTo_yes (p:=Lp.isIn) (l:=s) (j:=i) (by omega) (by rw[f];exact g);rw[<-this];rfl|false=>have:=Lp.runTo_no (p:=Lp.isIn) (l:=s) (j:=i) (by omega) (by rw[f];exact g);rw[this];rfl
  ·have:=Lp.runTo_end (p:=Lp.isIn) (l:=s) (j:=i) (by omega);simp only[Uz,c];rw[Zd1 (by omega),this];rfl
theorem Abc:FO 187 [.str] [.bool] Wa:=.fin 0 Bj5 λs r hb d=>⟨s.length+1,by
 simp only[Wa,Za1]at d;rw[<-d];simp only[Aqd,B7,Lp.nameF];by_cases c:s=[]
 ·rw[Ze1 c];rfl
 ·rw[Zd1 c];simp only[Zs1,Af,Bool.true_and];by_cases b:(s.length:Int)<=30
  ·have f : 0<s.length:=List.length_pos_iff.2 c;rw[Ze1 b,B5e (by omega),A1z];simp only[chk,Af,Bool.true_and];have e:bat s 0=Sx.byt s 0:=rfl;rw[e];cases Lp.isLo (Sx.byt s 0)with|false=>rfl|true=>simp only[Af,Bool.true_and];exact Acu (s:=s) (a:=λj=>some (decide (j=(s.length:Int)))) hb (λ_=>rfl) (s.length+1) 0 (Nat.zero_le _) (by omega)
  ·rw[Zd1 b];rfl⟩
def Bva(R:Type):Px R:=pxO [] [] [] []
def Ye(x:HV [Yc1]):Ya1 (HV [Yc1]):=match x with
 |kind=>
 let a:=λ(p1:Bool)=>
  cond (p1) (
  some 0) (
  let j:=λ(b:Bool)=>
   cond (b) (
   some 1) (
   cond (!decide ((Wz signsL kind)=[])) (
    some 2) (
    some (-1)))
  cond (decide (kind=3)) (
   j true) (
   cond (decide (kind=15)) (
   j true) (
   j (decide (kind=16)))))
 cond (decide (kind=1)) (
  a true) (
  a (decide (kind=2)))
theorem Bg7:FO 186 [Yc1] [Yc1] (Ye):=fR (px:=Bva _) (n:=0) Tryz.func186 rfl (λ_ H=>⟨lv H Ae Aa Ab,Ai⟩) λ_=>by kernel_rfl
def parts(kind:Int):Int:=
 let a:=λ(p1:Bool)=>
  cond (p1) (
  0) (
  let j:=λ(b:Bool)=>
   cond (b) (
   1) (
   cond (!decide ((Wz signsL kind)=[])) (
    2) (
    (-1)))
  cond (decide (kind=3)) (
   j true) (
   cond (decide (kind=15)) (
   j true) (
   j (decide (kind=16)))))
 cond (decide (kind=1)) (
  a true) (
  a (decide (kind=2)))
theorem Bir(x:HV [Yc1]):Ye x=some (parts x):=by
 first
  |exact rfl
  |simp only[Ye,parts,Aw]
def Bce:FT [Yc1] [Yc1]:=λx=>some (parts x)
theorem Bvk:FO 186 [Yc1] [Yc1] Bce:=.fin0 Bg7 λx _ _ a=>(Bir x).trans a
mutual
def A1:Xpr->Nat|.mk _ _ _ l=>1+esizes l
def esizes:Yb1 Xpr->Nat|[]=>0|x::l=>1+A1 x+esizes l
end
theorem Bi:∀{l:Yb1 Xpr}{x:Xpr},x∈l->A1 x<esizes l
 |y::l,x,h=>by
  simp at h;simp[esizes];rcases h with rfl|h
  ·omega
  ·have:=Bi h;omega
theorem Gt:∀(l:Yb1 Xpr),l.length<=esizes l
 |[]=>by simp
 |x::l=>by have:=Gt l;simp[esizes];omega
theorem D1(e:Xpr) : 0<A1 e:=by cases e;simp[A1];omega
theorem Ds(e:Xpr):A1 e=1+esizes e.l:=by cases e;simp[A1,Xpr.l]
theorem Ail{e:Xpr}(h:BdExpr e):ln e.l.length/\∀x,x∈e.l->BdExpr x:=by obtain⟨_,_,_,_,_,_,_,a,b⟩:=h;exact⟨a,b⟩
def Ag3:Sig:=⟨19,[(0,.sl .expr false),(4,.int .i64),(7,.int .i64),(8,.int .i64)],[(1,.fn 189 [.ptr 1 0])],[(1,.cells [Yc1])],80,80,400,[],[]⟩
abbrev Qb:=Yb1 Xpr×Int×Int×Int×Int
def N7{R:Type}(rf:FT [Yd1,Yc1] [.bool])(a:Qb->Ya1 R)(kx:Ex->Qb->Ya1 R)(v:Qb):Ya1 R:=match v with|(v,v1,v2,v3,w)=>cond (decide (v3<v2)) (chk (inb v3 v.length) ((rf ((at' .expr v v3),(wr .i64 (w-1)))).bind λx=>cond (!x) (kx .ret (v,v3,v2,v3,w)) (a (v,v1,v2,(wr .i64 (v3+1)),w)))) (kx (.exit 0) (v,v1,v2,v3,w))
def Qv(R:Type)(_k:Nat)(rf:FT [Yd1,Yc1] [.bool]):Px R:=pxO [(133,cA rf)] [] [] []
noncomputable def Xg(R:Type)(k:Nat)(rf:FT [Yd1,Yc1] [.bool]):Px R:=pxO [(189,A0 120 600 (Qv R k rf) Tryz.f189)] [] [(2,An k Ag3 (N7 rf))] []
noncomputable def Ahc(R:Type)(k:Nat)(rf:FT [Yd1,Yc1] [.bool]):Px R:=pxO [(231,A0 80 400 (Xg R k rf) Tryz.f231)] [] [] []
noncomputable def Atj(R:Type)(k:Nat)(rf:FT [Yd1,Yc1] [.bool]):Px R:=pxO [(80,cA Nr),(187,cA Wa),(188,A0 40 200 (Ahc R k rf) Tryz.f188)] [(186,qA Bce)] [] []
def Hc(k:Nat)(rf:FT [Yd1,Yc1] [.bool])(x:HV [Yd1,Yc1]):Ya1 (HV [.bool]):=match x with
 |(e,most)=>
 cond (decide (most=0)) (
  some false) (
  cond (!decide ((e.l.length:Int)=(parts e.kind))) (
  some false) (
  let a:=λ(_:Unit)=>
   let c:=λ(_:Unit)=>
   Aj (λb=>N7 rf b (λe d=>match d with|(_,v5,_,_,_)=>match e with
    |.ret=>
    some (!(decide (0<=v5)))
    |.exit 0=>
    some true
    |_=>none)) k (e.l,0,(e.l.length:Int),0,most)
   let j:=λ(f:Bool)=>
   cond (f) (
    some false) (
    cond (!decide (e.kind=2)) (
    cond (!decide (e.name=[])) (
     some false) (
     c ())) (
    c ()))
   cond (decide (e.kind=2)) (
   j (!(B7 e.name))) (
   j false)
  cond (decide (e.kind=1)) (
   cond (!decide ((Cn e.v)=0)) (
   some false) (
   cond (decide (e.v.kind=3)) (
    cond (decide (e.v.n<0)) (
    some false) (
    a ())) (
    a ()))) (
   cond (!decide (e.v=(Val.mk 0 0 []))) (
   some false) (
   a ()))))
theorem Bba(k:Nat)(rf:FT [Yd1,Yc1] [.bool])(c:FO 133 [Yd1,Yc1] [.bool] rf):FO 133 [Yd1,Yc1] [.bool] (Hc k rf):=fR (px:=Atj _ k rf) (n:=0) Tryz.func133 rfl (λcx H=>by have e:Lv cx (Qv (HV [.bool]) k rf):=lv H (c1 H c Ae) Aa Ab;have d:Lv cx (Xg (HV [.bool]) k rf):=lv H (As (cR H e Tryz.func189 rfl (n:=0) (Ai)) Ae) Aa Ab;have a:=lO H d (b:=lp Tryz.f231 0) (k:=k) (n:=0) (s:=Ag3) (step:=N7 rf) (λ_ _ _ (_,_,_,_,_)=>by kernel_rfl) Ai;have f:Lv cx (Ahc (HV [.bool]) k rf):=lv H (As (cR H d Tryz.func231 rfl (n:=1) (A4 Ai a)) Ae) Aa Ab;have g:Lv cx (Atj (HV [.bool]) k rf):=lv H (c1 H N3 (c1 H Abc (As (cR H f Tryz.func188 rfl (n:=0) (Ai)) Ae))) (q1 H Bvk Aa) Ab;exact⟨g,Ai⟩) λ(_,_)=>by kernel_rfl
def eok(k:Int)(v:Val)(nm:Str):Bool:=cond (decide (k=1)) (decide (Cn v=0) && !(decide (v.kind=3)&&decide (v.n<0))) (decide (v=⟨0,0,[]⟩))&&cond (decide (k=2)) (B7 nm) (decide (nm=[]))
mutual
def Ba:Xpr->Int->Bool|.mk k v nm l,m=> !decide (m=0)&&decide ((l.length:Int)=parts k)&&eok k v nm&&erights l (wr .i64 (m-1))
def erights:Yb1 Xpr->Int->Bool|[],_=>true|x::l,m=>Ba x m&&erights l m
end
def R6:FT [Yd1,Yc1] [.bool]:=λx=>some (Ba x.1 x.2)
theorem Ahm{R:Type}{rf:FT [Yd1,Yc1] [.bool]}{kx:Ex->Qb->Ya1 R}{l:Yb1 Xpr}{m:Int}{a b:Ya1 R}(g:ln l.length)(d:∀x,x∈l->rf (x,wr .i64 (m-1))=some (Ba x (wr .i64 (m-1))))(n:∀(j:Nat),kx .ret (l,(j:Int),(l.length:Int),(j:Int),m)=a)(o:∀q j,kx (.exit 0) (l,q,(l.length:Int),j,m)=b):∀(k i:Nat) q,i<=l.length->l.length-i<k->Aj (λf=>N7 rf f kx) k (l,q,(l.length:Int),(i:Int),m)=cond (erights (l.drop i) (wr .i64 (m-1))) b a
 |0,i,q,_,h=>by omega
 |k+1,i,q,hi,h=>by
  rw[Au];by_cases e:i<l.length
  ·simp only[N7,Am e g,(Ahm g d n o k (i+1) q (by omega) (by omega)),n,Ak e,Al (c:=.expr) e,Ao e,Bool.cond_decide,erights,d _ (List.getElem_mem e)];rw[if_pos (by omega)];cases Ba l[i] (wr .i64 (m-1))<;>rfl
  ·simp[N7,o,Bool.cond_decide];rw[if_neg (by omega),Zk1 (by omega)];rfl
theorem Ae3(e:Xpr)(m:Int):Ba e m=(!decide (m=0)&&decide ((e.l.length:Int)=parts e.kind)&&eok e.kind e.v e.name&&erights e.l (wr .i64 (m-1))):=by cases e;simp[Ba];rfl
theorem Aj7(k:Nat):∀(n:Nat) (e:Xpr) (m:Int),BdExpr e->A1 e<=n->A1 e<=k->Aj (Hc k) n (e,m)=some (Ba e m)
 |0,e,m,_,h,_=>by have:=D1 e;omega
 |n+1,e,m,hb,h,hk=>by
  obtain⟨f,g⟩:=Ail hb;rw[Ds]at h hk;have s:=Gt e.l;have i:∀x,x∈e.l->∀m,Aj (Hc k) n (x,m)=some (Ba x m):=λx d m=>Aj7 k n x m (g x d) (by have:=Bi d;omega) (by have:=Bi d;omega);have c:=Ahm (R:=Bool) (rf:=Aj (Hc k) n) (l:=e.l) (m:=m) (a:=some false) (b:=some true) (kx:=λe v=>match v with
   |(_,v5,_,_,_)=>match e with
    |.ret=>some (!(decide (0<=v5)))
    |.exit 0=>some true
    |_=>none) f (λx d=>i x d _) (λj=>by simp) (λ_ _=>rfl) k 0 0 (Nat.zero_le _) (by omega)
  have q:((0:Nat):Int)=0:=rfl;rw[q]at c;rw[Au,Ae3];simp only[Hc]at c ⊢;rw[c];simp only[Zq1,eok];by_cases hm:m=0
  ·simp[hm]
  ·rw[Zd1 hm];simp only[Ag,Zs1,Bool.true_and];by_cases o:(e.l.length:Int)=parts e.kind
   ·rw[Ze1 o];by_cases p:e.kind=1
    ·have r:¬e.kind=2:=by omega
     rw[Ze1 p,Zd1 r];simp only[Af,Ag,Zs1,Zt1,Bool.true_and];cases decide (Cn e.v=0)<;>cases decide (e.v.kind=3)<;>cases decide (e.v.n<0)<;>cases decide (e.name=[])<;>cases erights e.l (wr .i64 (m-1))<;>rfl
    ·rw[Zd1 p];simp only[Ag,Zt1,Bool.true_and];cases decide (e.v=Val.mk 0 0 [])<;>cases decide (e.kind=2)<;>cases decide (e.name=[])<;>cases B7 e.name<;>cases erights e.l (wr .i64 (m-1))<;>rfl
   ·rw[Zd1 o];rfl
theorem Up:FO 133 [Yd1,Yc1] [.bool] R6:=by refine .fin (ι:=Nat) 0 (F:=λn=>Aj (Hc n) n) (λn=>FnOk.rec' (Sx.enters_of Tryz.func133 rfl rfl) (λrf a=>Bba n rf a) n) λ(e,m) r hb b=>⟨A1 e,?_⟩;exact(Aj7 (A1 e) (A1 e) e m hb.1 (Zn1 _) (Zn1 _)).trans b
def Buj(R:Type):Px R:=pxO [(133,cA R6)] [] [] []
def Yb(x:HV [Yd1]):Ya1 (HV [Yc1]):=match x with|e=>cond (!(Ba e 30)) (some 2) (some 0)
theorem Bh4:FO 89 [Yd1] [Yc1] (Yb):=fR (px:=Buj _) (n:=0) Tryz.func89 rfl (λ_ H=>⟨lv H (c1 H Up Ae) Aa Ab,Ai⟩) λ_=>by kernel_rfl
def Ew(e:Xpr):Int:=cond (!(Ba e 30)) (2) (0)
theorem Bh6(x:HV [Yd1]):Yb x=some (Ew x):=by
 first
  |exact rfl
  |simp only[Yb,Ew,Aw]
def Ax1:FT [Yd1] [Yc1]:=λx=>some (Ew x)
theorem A29:FO 89 [Yd1] [Yc1] Ax1:=.fin0 Bh4 λx _ _ a=>(Bh6 x).trans a
def An5:Sig:=⟨41,[(1,.int .i64),(5,.int .i64),(6,.int .i64)],[(2,.ptr 0 0)],[(0,.one (.sv .expr))],1,0,0,[],[]⟩
abbrev V7:=Int×Int×Int×Xpr
def U9{R:Type}(rf:FT [Yd1,Yc1] [Yc1])(a:V7->Ya1 R)(kx:Ex->V7->Ya1 R)(v:V7):Ya1 R:=match v with|(v,v1,v2,w)=>cond (decide (v2<(w.l.length:Int))) (cond (decide (v1<v)) (chk (inb v2 w.l.length) ((rf ((at' .expr w.l v2),(wr .i64 (v-v1)))).bind λx=>a (v,(wr .i64 (v1+x)),(wr .i64 (v2+1)),w))) (kx (.exit 0) (v,v1,v2,w))) (kx (.exit 0) (v,v1,v2,w))
def A7n(R:Type)(k:Nat)(rf:FT [Yd1,Yc1] [Yc1]):Px R:=pxO [(85,cA rf)] [] [(3,An k An5 (U9 rf))] []
def Kl(k:Nat)(rf:FT [Yd1,Yc1] [Yc1])(x:HV [Yd1,Yc1]):Ya1 (HV [Yc1]):=match x with
 |(e,most)=>
 Aj (λa=>U9 rf a (λe b=>match b with|(_,v4,_,_)=>match e with
  |.exit 0=>
  some v4
  |_=>none)) k (most,(wr .i64 (1+(wr .i64 (Int.tdiv (wr .i64 ((e.v.s.length:Int)+(e.name.length:Int))) 30)))),0,e)
theorem Bhq(k:Nat)(rf:FT [Yd1,Yc1] [Yc1])(c:FO 85 [Yd1,Yc1] [Yc1] rf):FO 85 [Yd1,Yc1] [Yc1] (Kl k rf):=fR (px:=A7n _ k rf) (n:=1) Tryz.func85 rfl (λcx H=>by have d:Lv cx (A7n (HV [Yc1]) k rf):=lv H (c1 H c Ae) Aa Ab;have a:=lO H d (b:=lp Tryz.f85 0) (k:=k) (n:=0) (s:=An5) (step:=U9 rf) (λ_ _ _ (_,_,_,_)=>by kernel_rfl) Ai;exact⟨d,(A4 Ai a)⟩) λ(_,_)=>by kernel_rfl
mutual
def Jt:Xpr->Int->Int|.mk _ v nm l,most=>muchL l most (wr .i64 (1+wr .i64 (Int.tdiv (wr .i64 ((v.s.length:Int)+(nm.length:Int))) 30)))
def muchL:Yb1 Xpr->Int->Int->Int|[],_,n=>n|x::l,most,n=>cond (decide (n<most)) (muchL l most (wr .i64 (n+Jt x (wr .i64 (most-n))))) n
end
def Azv:FT [Yd1,Yc1] [Yc1]:=λx=>some (Jt x.1 x.2)
theorem Akw{R:Type}{rf:FT [Yd1,Yc1] [Yc1]}{kx:Ex->V7->Ya1 R}{e:Xpr}{most:Int}{g:Int->Ya1 R}(o:ln e.l.length)(a:∀x,x∈e.l->∀m,rf (x,m)=some (Jt x m))(d:∀n j,kx (.exit 0) (most,n,j,e)=g n):∀(k i:Nat) n,i<=e.l.length->e.l.length-i<k->Aj (λf=>U9 rf f kx) k (most,n,(i:Int),e)=g (muchL (e.l.drop i) most n)
 |0,i,n,_,h=>by omega
 |k+1,i,n,hi,h=>by
  rw[Au];by_cases b:i<e.l.length
  ·simp only[U9,Am b o,(λn=>Akw o a d k (i+1) n (by omega) (by omega)),d,Ak b,Al (c:=.expr) b,Ao b,Bool.cond_decide,muchL,a _ (List.getElem_mem b)];rw[if_pos (by omega)];split<;>rfl
  ·simp[U9,d,Bool.cond_decide];rw[if_neg (by omega),Zk1 (by omega)];rfl
theorem Auj(k:Nat):∀(n:Nat) (e:Xpr) (m:Int),BdExpr e->A1 e<=n->A1 e<=k->Aj (Kl k) n (e,m)=some (Jt e m)
 |0,e,m,_,h,_=>by have:=D1 e;omega
 |n+1,.mk kd v nm l,m,hb,h,hk=>by
  obtain⟨_,_,_,_,f,i,j,a,b⟩:=hb;simp[A1]at h hk;have o:=Gt l;have c:∀x,x∈l->∀m,Aj (Kl k) n (x,m)=some (Jt x m):=λx d m=>Auj k n x m (b x d) (by have:=Bi d;omega) (by have:=Bi d;omega);rw[Au];simp[Kl];refine(Akw (e:=.mk kd v nm l) (g:=some) a c ?_ k 0 _ (Nat.zero_le _) (by simp[Xpr.l];omega)).trans ?_
  ·exactλ_ _=>rfl
  ·simp[Jt,Xpr.l,Xpr.v,Xpr.name]
theorem A1d:FO 85 [Yd1,Yc1] [Yc1] Azv:=by refine .fin (ι:=Nat) 0 (F:=λn=>Aj (Kl n) n) (λn=>FnOk.rec' (Sx.enters_of Tryz.func85 rfl rfl) (λrf a=>Bhq n rf a) n) λ(e,m) r hb b=>⟨A1 e,?_⟩;exact(Auj (A1 e) (A1 e) e m hb.1 (Zn1 _) (Zn1 _)).trans b
def Brk(R:Type):Px R:=pxO [] [] [] []
def Zq(x:HV [Yc1,Yc1]):Ya1 (HV [.bool]):=match x with|(k,want)=>cond (decide (k=want)) (some true) (some (decide (k=1)))
theorem Bik:FO 135 [Yc1,Yc1] [.bool] (Zq):=fR (px:=Brk _) (n:=0) Tryz.func135 rfl (λ_ H=>⟨lv H Ae Aa Ab,Ai⟩) λ(_,_)=>by kernel_rfl
def Jk(k:Int)(a:Int):Bool:=cond (decide (k=a)) (true) (decide (k=1))
theorem Bj2(x:HV [Yc1,Yc1]):Zq x=some (Jk x.1 x.2):=by
 first
  |exact rfl
  |simp only[Zq,Jk,Aw]
def Bc1:FT [Yc1,Yc1] [.bool]:=λx=>some (Jk x.1 x.2)
theorem Btt:FO 135 [Yc1,Yc1] [.bool] Bc1:=.fin0 Bik λx _ _ a=>(Bj2 x).trans a
def Br8(R:Type):Px R:=pxO [] [] [] []
def Xp(x:HV [.bool]):Ya1 (HV [Yi1]):=match x with|b=>cond (b) (some (Val.mk 2 1 [])) (some (Val.mk 2 0 []))
theorem Bld:FO 136 [.bool] [Yi1] (Xp):=fR (px:=Br8 _) (n:=0) Tryz.func136 rfl (λ_ H=>⟨lv H Ae Aa Ab,Ai⟩) λ_=>by kernel_rfl
def Gc(b:Bool):Val:=cond (b) (Val.mk 2 1 []) (Val.mk 2 0 [])
theorem Bh9(x:HV [.bool]):Xp x=some (Gc x):=by
 first
  |exact rfl
  |simp only[Xp,Gc,Aw]
def Azh:FT [.bool] [Yi1]:=λx=>some (Gc x)
theorem A4i:FO 136 [.bool] [Yi1] Azh:=.fin0 Bld λx _ _ a=>(Bh9 x).trans a
def Bl8(R:Type):Px R:=pxO [] [] [] []
def Ri(x:HV [Yc1,Yc1]):Ya1 (HV [.bool]):=match x with|(kind,n)=>cond (decide (kind=6)) (some (decide (n=0))) (cond (decide (kind=7)) (some (!decide (n=0))) (cond (decide (kind=8)) (some (decide (n<0))) (cond (decide (kind=9)) (some (decide (n<=0))) (cond (decide (kind=10)) (some (decide (0<n))) (some (decide (0<=n)))))))
theorem A97:FO 139 [Yc1,Yc1] [.bool] (Ri):=fR (px:=Bl8 _) (n:=0) Tryz.func139 rfl (λ_ H=>⟨lv H Ae Aa Ab,Ai⟩) λ(_,_)=>by kernel_rfl
def Aql(kind:Int)(n:Int):Bool:=cond (decide (kind=6)) (decide (n=0)) (cond (decide (kind=7)) (!decide (n=0)) (cond (decide (kind=8)) (decide (n<0)) (cond (decide (kind=9)) (decide (n<=0)) (cond (decide (kind=10)) (decide (0<n)) (decide (0<=n))))))
theorem Ba0(x:HV [Yc1,Yc1]):Ri x=some (Aql x.1 x.2):=by
 first
  |exact rfl
  |simp only[Ri,Aql,Aw]
def A5d:FT [Yc1,Yc1] [.bool]:=λx=>some (Aql x.1 x.2)
theorem Bhj:FO 139 [Yc1,Yc1] [.bool] A5d:=.fin0 A97 λx _ _ a=>(Ba0 x).trans a
def B0h(R:Type):Px R:=pxO [(190,cA Bnt),(191,cA Bs4),(192,cA Bor)] [] [] []
def Agb(x:HV [Yc1,Yc1,Yc1]):Ya1 (HV [Yi1,Yc1]):=match x with|(kind,a,b)=>cond (decide (kind=12)) (cond (!decide ((Aiu a b).2=0)) (some ((Val.mk 0 0 []),(Aiu a b).2)) (some ((Val.mk 3 ((Aiu a b).1) []),0))) (cond (decide (kind=13)) (cond (!decide ((Qx a b).2=0)) (some ((Val.mk 0 0 []),(Qx a b).2)) (some ((Val.mk 3 ((Qx a b).1) []),0))) (cond (decide (kind=14)) (cond (!decide ((Air a b).2=0)) (some ((Val.mk 0 0 []),(Air a b).2)) (some ((Val.mk 3 ((Air a b).1) []),0))) (cond (!decide ((Qx 0 a).2=0)) (some ((Val.mk 0 0 []),(Qx 0 a).2)) (some ((Val.mk 3 ((Qx 0 a).1) []),0)))))
theorem Brd:FO 138 [Yc1,Yc1,Yc1] [Yi1,Yc1] (Agb):=fR (px:=B0h _) (n:=0) Tryz.func138 rfl (λ_ H=>⟨lv H (c1 H Bzx (c1 H Bxf (c1 H B07 Ae))) Aa Ab,Ai⟩) λ(_,_,_)=>by kernel_rfl
def W4(kind:Int)(a:Int)(b:Int):Val×Int:=cond (decide (kind=12)) (cond (!decide ((Aiu a b).2=0)) ((Val.mk 0 0 []),(Aiu a b).2) ((Val.mk 3 ((Aiu a b).1) []),0)) (cond (decide (kind=13)) (cond (!decide ((Qx a b).2=0)) ((Val.mk 0 0 []),(Qx a b).2) ((Val.mk 3 ((Qx a b).1) []),0)) (cond (decide (kind=14)) (cond (!decide ((Air a b).2=0)) ((Val.mk 0 0 []),(Air a b).2) ((Val.mk 3 ((Air a b).1) []),0)) (cond (!decide ((Qx 0 a).2=0)) ((Val.mk 0 0 []),(Qx 0 a).2) ((Val.mk 3 ((Qx 0 a).1) []),0))))
theorem Bpw(x:HV [Yc1,Yc1,Yc1]):Agb x=some (W4 x.1 x.2.1 x.2.2):=by
 first
  |exact rfl
  |simp only[Agb,W4,Aw]
def Bun:FT [Yc1,Yc1,Yc1] [Yi1,Yc1]:=λx=>some (W4 x.1 x.2.1 x.2.2)
theorem Bxk:FO 138 [Yc1,Yc1,Yc1] [Yi1,Yc1] Bun:=.fin0 Brd λx _ _ a=>(Bpw x).trans a
def Aw8:Sig:=⟨20,[(1,.str),(4,.int .i64),(7,.sl .col false),(8,.int .i64),(9,.int .i64)],[],[],0,0,0,[],[]⟩
abbrev Ac6:=Str×Int×Yb1 Col×Int×Int
def Aez{R:Type}(a:Ac6->Ya1 R)(kx:Ex->Ac6->Ya1 R)(v:Ac6):Ya1 R:=match v with|(v,v1,v2,v3,v4)=>cond (decide (v4<v3)) (chk (inb v4 v2.length) (cond (decide (((at' .col v2 v4).name)=v)) (kx .ret (v,v4,v2,v3,v4)) (a (v,v1,v2,v3,(wr .i64 (v4+1)))))) (kx (.exit 0) (v,v1,v2,v3,v4))
def Bc9(R:Type)(k:Nat):Px R:=pxO [] [] [(2,An k Aw8 (Aez))] []
def Aue(k:Nat)(x:HV [Yk1,.str]):Ya1 (HV [Yc1]):=match x with
 |(cols,name)=>
 Aj (λa=>Aez a (λe b=>match b with|(_,v6,_,_,_)=>match e with
  |.ret=>
  some v6
  |.exit 0=>
  some (-1)
  |_=>none)) k (name,0,cols,(cols.length:Int),0)
theorem Bpd(k:Nat):FO 134 [Yk1,.str] [Yc1] (Aue k):=fR (px:=Bc9 _ k) (n:=1) Tryz.func134 rfl (λcx H=>by have c:Lv cx (Bc9 (HV [Yc1]) k):=lv H Ae Aa Ab;have a:=lO H c (b:=lp Tryz.f134 0) (k:=k) (n:=0) (s:=Aw8) (step:=Aez) (λ_ _ _ (_,_,_,_,_)=>by kernel_rfl) Ai;exact⟨c,(A4 Ai a)⟩) λ(_,_)=>by kernel_rfl
def Bu:Yb1 Col->Str->Nat->Int|[],_,_=> -1|c::l,s,i=>if c.name=s then(i:Int)else Bu l s (i+1)
def B3(cols:Yb1 Col)(name:Str):Int:=Bu cols name 0
def A9l:FT [Yk1,.str] [Yc1]:=λx=>some (B3 x.1 x.2)
theorem Atu{R:Type}{kx:Ex->Ac6->Ya1 R}{s:Str}{cols:Yb1 Col}{g:Int->Ya1 R}(d:ln cols.length)(e:∀j,kx .ret (s,j,cols,(cols.length:Int),j)=g j)(f:∀q j,kx (.exit 0) (s,q,cols,(cols.length:Int),j)=g (-1)):∀(k i:Nat) q,i<=cols.length->cols.length-i<k->Aj (λb=>Aez b kx) k (s,q,cols,(cols.length:Int),(i:Int))=g (Bu (cols.drop i) s i)
 |0,i,q,_,h=>by omega
 |k+1,i,q,hi,h=>by
  rw[Au];by_cases a:i<cols.length
  ·simp only[Aez,Am a d,(Atu d e f k (i+1) q (by omega) (by omega)),e,Ak a,Al (c:=.col) a,Ao a,Bool.cond_decide,Bu];rw[if_pos (by omega)];split<;>rfl
  ·simp[Aez,f,Bool.cond_decide];rw[if_neg (by omega),Zk1 (by omega)];rfl
theorem Bft:FO 134 [Yk1,.str] [Yc1] A9l:=.fin 0 Bpd λ(cols,s) r hb a=>⟨cols.length+1,by
 simp only[Aue];refine(Atu (g:=some) hb.1.1 ?_ ?_ (cols.length+1) 0 0 (Nat.zero_le _) (by omega)).trans a
 ·exactλ_=>rfl
 ·exactλ_ _=>rfl⟩
def Ac5:Sig:=⟨28,[(1,.sl .val false),(4,.bool),(12,.sl .col false),(13,.int .i64),(14,.int .i64)],[],[],0,0,0,[],[]⟩
abbrev L4:=Yb1 Val×Bool×Yb1 Col×Int×Int
def Ke{R:Type}(a:L4->Ya1 R)(kx:Ex->L4->Ya1 R)(v:L4):Ya1 R:=match v with|(v,v1,v2,v3,v4)=>cond (decide (v4<v3)) (chk (inb v4 v2.length) (chk (inb v4 v.length) (cond (!(Ac3 (at' .val v v4) ((at' .col v2 v4).kind))) (kx .ret (v,false,v2,v3,v4)) (a (v,v1,v2,v3,(wr .i64 (v4+1))))))) (kx (.exit 0) (v,v1,v2,v3,v4))
def Aqk(R:Type)(k:Nat):Px R:=pxO [(87,cA Bc0)] [] [(4,An k Ac5 (Ke))] []
def Abm(k:Nat)(x:HV [Yk1,Yj1]):Ya1 (HV [.bool]):=match x with
 |(cols,row)=>
 cond (!decide ((cols.length:Int)=(row.length:Int))) (
  some false) (
  Aj (λa=>Ke a (λe b=>match b with|(_,v6,_,_,_)=>match e with
  |.ret=>some v6
  |.exit 0=>some true
  |_=>none)) k (row,false,cols,(cols.length:Int),0))
theorem A2a(k:Nat):FO 53 [Yk1,Yj1] [.bool] (Abm k):=fR (px:=Aqk _ k) (n:=1) Tryz.func53 rfl (λcx H=>by have c:Lv cx (Aqk (HV [.bool]) k):=lv H (c1 H Bup Ae) Aa Ab;have a:=lO H c (b:=lp Tryz.f53 0) (k:=k) (n:=0) (s:=Ac5) (step:=Ke) (λ_ _ _ (_,_,_,_,_)=>by kernel_rfl) Ai;exact⟨c,(A4 Ai a)⟩) λ(_,_)=>by kernel_rfl
def H3:Yb1 Col->Yb1 Val->Bool|[],[]=>true|c::cs,v::vs=>Ac3 v c.kind&&H3 cs vs|_,_=>false
def Gb(cols:Yb1 Col)(row:Yb1 Val):Bool:=H3 cols row
def Vj:FT [Yk1,Yj1] [.bool]:=λx=>some (Gb x.1 x.2)
theorem Lb:∀{cols:Yb1 Col}{row:Yb1 Val},H3 cols row=true->cols.length=row.length
 |[],[],_=>rfl
 |_::cs,_::vs,h=>by simp[H3]at h;simp[Lb h.2]
 |[],_::_,h=>by simp[H3]at h
 |_::_,[],h=>by simp[H3]at h
theorem Adj{R:Type}{kx:Ex->L4->Ya1 R}{row:Yb1 Val}{cols:Yb1 Col}{a b:Ya1 R}(g:ln cols.length)(n:cols.length=row.length)(l:∀j,kx .ret (row,false,cols,(cols.length:Int),j)=a)(m:∀q j,kx (.exit 0) (row,q,cols,(cols.length:Int),j)=b):∀(k i:Nat) q,i<=cols.length->cols.length-i<k->Aj (λf=>Ke f kx) k (row,q,cols,(cols.length:Int),(i:Int))=cond (H3 (cols.drop i) (row.drop i)) b a
 |0,i,q,_,h=>by omega
 |k+1,i,q,hi,h=>by
  rw[Au];by_cases e:i<cols.length
  ·have d:i<row.length:=by omega
   simp only[Ke,Am e g,(Adj g n l m k (i+1) q (by omega) (by omega)),l,Ak e,Ak d,Al (c:=.col) e,Al (c:=.val) d,Ao e,Ao d,Bool.cond_decide,H3];rw[if_pos (by omega)];cases Ac3 row[i] cols[i].kind<;>rfl
  ·simp[Ke,m,Bool.cond_decide];rw[if_neg (by omega),Zk1 (by omega),Zk1 (by omega)];rfl
theorem Aoj:FO 53 [Yk1,Yj1] [.bool] Vj:=.fin 0 A2a λ(cols,row) r hb c=>⟨cols.length+1,by
 simp only[Vj,Za1,Gb]at c;simp only[Abm];by_cases d:cols.length=row.length
 ·rw[Ze1 (by omega)];simp only[Zt1,Ag];refine(Adj (a:=some false) (b:=some true) hb.1.1 d ?_ ?_ (cols.length+1) 0 false (Nat.zero_le _) (by omega)).trans ?_
  ·exactλ_=>rfl
  ·exactλ_ _=>rfl
  ·rw[<-c];simp only[Zq1];cases H3 cols row<;>rfl
 ·rw[Zd1 (by omega)];have:H3 cols row=false:=by cases e:H3 cols row with|false=>rfl|true=>exact absurd (Lb e) d
  rw[<-c,this];rfl⟩
def Anf:Sig:=⟨34,[(0,.int .i64),(6,.bool),(12,.sl .val false),(13,.int .i64),(14,.int .i64)],[(4,.ptr 0 0),(5,.ptr 1 0)],[(0,.one (.sv .val)),(1,.one (.sv .val))],2,0,0,[],[]⟩
abbrev Tx:=Int×Bool×Yb1 Val×Int×Int×Val×Val
def Uw{R:Type}(a:Tx->Ya1 R)(kx:Ex->Tx->Ya1 R)(v:Tx):Ya1 R:=match v with|(v,v1,v2,v3,v4,w,w1)=>cond (decide (v4<v3)) (chk (inb v4 v2.length) (cond (decide ((at' .val v2 v4)=w1)) (kx .ret (v,v1,v2,v3,v4,w1,w1)) (cond (v1) (a (v,true,v2,v3,(wr .i64 (v4+1)),w,w1)) (a (v,decide ((at' .val v2 v4).kind=1),v2,v3,(wr .i64 (v4+1)),w,w1))))) (kx (.exit 0) (v,v1,v2,v3,v4,w,w1))
def A5u(R:Type)(k:Nat):Px R:=pxO [(136,cA Azh)] [] [(4,An k Anf (Uw))] []
def Ao0(k:Nat)(x:HV [Yc1,Yj1]):Ya1 (HV [Yi1]):=match x with
 |(kind,l)=>
 Aj (λb=>Uw b (λe c=>match c with|(v5,v6,_,_,_,a,_)=>match e with
  |.ret=>
  some a
  |.exit 0=>
  cond (v6) (
   some (Val.mk 1 0 [])) (
   some (Gc (!decide (v5=5))))
  |_=>none)) k (kind,false,l,(l.length:Int),0,(Val.mk 0 0 []),(Gc (decide (kind=5))))
theorem Bk1(k:Nat):FO 137 [Yc1,Yj1] [Yi1] (Ao0 k):=fR (px:=A5u _ k) (n:=1) Tryz.func137 rfl (λcx H=>by have c:Lv cx (A5u (HV [Yi1]) k):=lv H (c1 H A4i Ae) Aa Ab;have a:=lO H c (b:=lp Tryz.f137 0) (k:=k) (n:=0) (s:=Anf) (step:=Uw) (λ_ _ _ (_,_,_,_,_,_,_)=>by kernel_rfl) Ai;exact⟨c,(A4 Ai a)⟩) λ(_,_)=>by kernel_rfl
def Jq(v:Val):Bool:=decide (v.kind=1)
def Ahz(kind:Int)(l:Yb1 Val):Val:=cond (l.any λv=>decide (v=Gc (decide (kind=5)))) (Gc (decide (kind=5))) (cond (l.any Jq) ⟨1,0,[]⟩ (Gc (!decide (kind=5))))
def Ayu:FT [Yc1,Yj1] [Yi1]:=λx=>some (Ahz x.1 x.2)
theorem Aoa{R:Type}{kx:Ex->Tx->Ya1 R}{f:Int}{l:Yb1 Val}{e:Val}{a:Ya1 R}{b:Bool->Ya1 R}(m:ln l.length)(p:∀q j,kx .ret (f,q,l,(l.length:Int),j,e,e)=a)(n:∀q j z,kx (.exit 0) (f,q,l,(l.length:Int),j,z,e)=b q):∀(k i:Nat) (u:Bool) z,i<=l.length->l.length-i<k->Aj (λg=>Uw g kx) k (f,u,l,(l.length:Int),(i:Int),z,e)=cond ((l.drop i).any λv=>decide (v=e)) a (b (u||(l.drop i).any Jq))
 |0,i,u,z,_,h=>by omega
 |k+1,i,u,z,hi,h=>by
  rw[Au];by_cases d:i<l.length
  ·simp only[Uw,Am d m,(λu=>Aoa m p n k (i+1) u z (by omega) (by omega)),Ak d,Al (c:=.val) d,Ao d,chk,Bool.cond_decide,List.any_cons];rw[if_pos (by omega)];by_cases o:l[i]=e
   ·grind
   ·rw[if_neg o,Zd1 o];cases u<;>simp[Jq]
  ·simp[Uw,n,Bool.cond_decide];rw[if_neg (by omega),Zk1 (by omega)];simp
theorem Bou:FO 137 [Yc1,Yj1] [Yi1] Ayu:=.fin 0 Bk1 λ(c,l) r hb d=>⟨l.length+1,by
 simp only[Ayu,Za1,Ahz]at d;simp only[Ao0];refine(Aoa (a:=some (Gc (decide (c=5)))) (b:=λq=>cond q (some ⟨1,0,[]⟩) (some (Gc (!decide (c=5))))) hb.2.1 ?_ ?_ (l.length+1) 0 false _ (Nat.zero_le _) (by omega)).trans ?_
 ·exactλ_ _=>rfl
 ·exactλ_ _ _=>rfl
 rw[<-d];simp only[Zq1,Bool.false_or];cases (l.any λv=>decide (v=Gc (decide (c=5))))<;>cases l.any Jq<;>rfl⟩
end Go.Proofs.YtcoaaebppfbbnaaGreatDoor
